/- The abstract layer, part 40: what contracts lean on. -/
import Derived.Test.YtookmilggbnoiaaGreatAbRun2
set_option linter.unusedVariables false
set_option linter.unusedSimpArgs false
namespace Go.Ab

theorem J_of' {P : Program} {f : Nat} {X : XFn} (hX : compFn P f = some X) {code : XCode} {res : List XRes} {n : Nat} (he : X = ⟨code, res, n⟩) {args : List AVal} {A : Heap} {Q : AVal → Heap → Prop}
    (h : (∀ i, A.live i → i < A.top) → awp P A code ⟨fin A res Q, fin A res Q, fun _ _ _ => False⟩ (args ++ List.replicate (n - args.length) AVal.undef) A) : J P f args A Q := J_of (hX.trans (congrArg some he)) h

/-- A slice's elements, as they lie. -/
inductive Row (A : Heap) (e n : Nat) (cs : List AVal) : AVal → Prop where
  | nil (h : n = 0) (hc : cs = []) : Row A e n cs (.raw (.slice none 0 0))
  | fsl (cap : Option Nat) (h : cs.length = n * e) : Row A e n cs (.fsl cs n cap)
  | sl (i off : Nat) (cap : Option Nat) (vs : List AVal) (ho : A.get i = some (.cells vs)) (hl : off + n * e ≤ vs.length) (hc : cs = (vs.drop off).take (n * e)) : Row A e n cs (.sl i off n cap e)

theorem wrap64 {n : Int} (h0 : 0 ≤ n) (h1 : n < 2 ^ 62) : IntKind.i64.wrap n = n := by
  simp [IntKind.wrap, IntKind.signed, IntKind.bits]
  omega

theorem wrap64s {n : Int} (h0 : -2 ^ 62 ≤ n) (h1 : n < 2 ^ 62) : IntKind.i64.wrap n = n := by
  simp [IntKind.wrap, IntKind.signed, IntKind.bits]
  omega

theorem mms_min {k : IntKind} {a b : Int} : mms false (.int k a) [.raw (.int k b)] = some (.int k (min a b)) := by
  simp only [mms, mm, if_true, Option.bind, Bool.false_eq_true, if_false]
  congr 2
  omega
theorem mms_max {k : IntKind} {a b : Int} : mms true (.int k a) [.raw (.int k b)] = some (.int k (max a b)) := by
  simp only [mms, mm, if_true, Option.bind]
  congr 2
  omega

attribute [go_sem] wrap64 mms_min mms_max

theorem JRS_of {P : Program} {i : Nat} {args : List AVal} {A : Heap} {K Q : AVal → Heap → Prop} {u : Veil K} (h : JR P i args A Q) (hk : ∀ v A', Q v A' → K v A') : JRS P i args A K u := h.mono hk

theorem RangeS_of {P : Program} {g : Nat} {lb : List AVal} {ps : Array Nat} {asg body : XCode} {E : Posts} {ts : List AVal} {A : Heap} {u : Veil E}
    (h : ∀ T, T = ts → ∀ H, H = A → ∀ a c : Code, comp P a = asg → comp P c = body → J P g (.yield H.top :: lb) (H.push (.loop false T ps a c)) fun _ A' => (∃ ts', A'.get H.top = some (.loop false ts' ps a c)) ∧ E.n T (A'.del H.top)) : RangeS P g [] lb ps asg body E ts A u :=
  ⟨rfl, fun a c ha hc => h ts rfl A rfl a c ha hc⟩

section
variable {A0 A : Heap} {G : List AVal → Heap → Prop}

/-- Values of which none names an object. -/
def AVal.flat : AVal → Bool
  | .raw _ => true
  | _ => false
theorem ren_flat (f : Nat → Fate) : ∀ {vs : List AVal}, (∀ v ∈ vs, v.flat = true) → renL f vs = vs
  | [], _ => rfl
  | v :: vs, h => by
    simp only [renL]
    rw [ren_flat f fun u hu => h u (by simp [hu])]
    have := h v (by simp)
    cases v <;> first | rfl | (simp [AVal.flat] at this)

theorem fate_lt {top : Nat} {ks : List Nat} {ices : List (Nat × List AVal)} {i : Nat} (h : i < top) : fate top ks ices i = .to i := by
  unfold fate; rw [if_pos h]
theorem fate_one {top i : Nat} (h : top ≤ i) : fate top [i - top] [] i = .to top := by
  unfold fate; rw [if_neg (by omega)]
  simp

/-- What is new is forgotten. -/
theorem Wk.drop {vs : List AVal} (hlt : ∀ i, A0.live i → i < A0.top) (hsub : ∀ j o, A0.get j = some o → A.get j = some o) (h : G (renL (fate A0.top [] []) vs) A0) : Wk A0 vs A G :=
  Wk.tidy [] [] [] A0 hlt rfl (fun j o ho => .inl ⟨ho, hsub j o ho⟩) (by simp) trivial trivial h

/-- What is new is forgotten, but for one row of cells that name nothing. -/
theorem Wk.one (hlt : ∀ i, A0.live i → i < A0.top) (hsub : ∀ j o, A0.get j = some o → A.get j = some o) {o off len e : Nat} {cap : Option Nat} {vs : List AVal} (ho : A.get o = some (.cells vs)) (hot : A0.top ≤ o) (hf : ∀ v ∈ vs, v.flat = true)
    (h : G [.sl A0.top off len cap e] (A0.push (.cells vs))) : Wk A0 [.sl o off len cap e] A G := by
  refine Wk.tidy [o - A0.top] [] [.cells vs] A0 hlt rfl (fun j o ho => .inl ⟨ho, hsub j o ho⟩) (by simp) ⟨⟨_, by rw [Nat.add_sub_cancel' hot]; exact ho, ?_⟩, trivial⟩ trivial ?_
  · simp only [AObj.ren, ren_flat _ hf]
  · simp only [renL, AVal.ren, fate_one hot]
    exact h
end

section
variable {A0 A : Heap} {G : List AVal → Heap → Prop}

theorem fate_ice1 {top i : Nat} {cs : List AVal} (h : top ≤ i) : fate top [] [(i - top, cs)] i = .ice cs := by
  unfold fate; rw [if_neg (by omega)]
  simp

/-- What is new is forgotten, but for one row of cells that name nothing: it is frozen. -/
theorem Wk.ice (hlt : ∀ i, A0.live i → i < A0.top) (hsub : ∀ j o, A0.get j = some o → A.get j = some o) {o len e : Nat} {cap : Option Nat} {vs : List AVal} (ho : A.get o = some (.cells vs)) (hot : A0.top ≤ o) (hf : ∀ v ∈ vs, v.flat = true)
    (h : G [.fsl vs len cap] A0) : Wk A0 [.sl o 0 len cap e] A G := by
  refine Wk.tidy [] [(o - A0.top, vs)] [] A0 hlt rfl (fun j o ho => .inl ⟨ho, hsub j o ho⟩) (by simp) trivial ⟨⟨vs, by simp only []; rw [Nat.add_sub_cancel' hot]; exact ho, by simp only [ren_flat _ hf]⟩, trivial⟩ ?_
  simp only [renL, AVal.ren, fate_ice1 hot, List.drop_zero]
  exact h
end

/-- What was there is there. -/
structure Old (A B : Heap) : Prop where
  top : A.top ≤ B.top
  get : ∀ j, j < A.top → B.get j = A.get j

section
variable {A B A0 : Heap} {G : List AVal → Heap → Prop}
theorem Old.refl (A : Heap) : Old A A := ⟨Nat.le_refl _, fun _ _ => rfl⟩
theorem Old.trans {C : Heap} (h : Old A B) (h' : Old B C) : Old A C := ⟨Nat.le_trans h.top h'.top, fun j hj => (h'.get j (Nat.lt_of_lt_of_le hj h.top)).trans (h.get j hj)⟩
theorem Old.push {o : AObj} (h : Old A B) : Old A (B.push o) := ⟨by rw [Heap.top_push]; have := h.top; omega, fun j hj => by rw [Heap.get_push_ne _ _ (by have := h.top; omega)]; exact h.get j hj⟩
theorem Old.set {o : AObj} {i : Nat} (h : Old A B) (hi : A.top ≤ i) : Old A (B.set i o) := ⟨h.top, fun j hj => by rw [Heap.get_set_ne _ _ (by omega)]; exact h.get j hj⟩
theorem Old.del {i : Nat} (h : Old A B) (hi : A.top ≤ i) : Old A (B.del i) := ⟨h.top, fun j hj => by rw [Heap.get_del_ne _ (by omega)]; exact h.get j hj⟩
theorem Old.sub (hlt : ∀ i, A.live i → i < A.top) (h : Old A B) : ∀ j o, A.get j = some o → B.get j = some o := fun j o hj => by
  rw [h.get j (hlt j (by simp [Heap.live, hj]))]; exact hj

theorem Wk.old {vs : List AVal} (hlt : ∀ i, A0.live i → i < A0.top) (hO : Old A0 A) (h : G (renL (fate A0.top [] []) vs) A0) : Wk A0 vs A G := Wk.drop hlt (hO.sub hlt) h
end

theorem four_of {α : Type} {L : List α} (h : L.length = 4) : ∃ a b c d, L = [a, b, c, d] := by
  match L, h with
  | [a, b, c, d], _ => exact ⟨a, b, c, d, rfl⟩

/-! ## An object is frozen for a call -/

/-- A value, the object 'i' frozen. -/
def AVal.ice (i : Nat) (vs : List AVal) : AVal → AVal
  | .ptr j off => if j = i then .fptr (vs.drop off) else .ptr j off
  | .sl j off len cap e => if j = i then .fsl (vs.drop off) len cap else .sl j off len cap e
  | v => v

section
variable {P : Program} {A : Heap} {Q : AVal → Heap → Prop}

theorem J_ice {f i : Nat} {vs args : List AVal} (ho : A.get i = some (.cells vs)) (hlt : ∀ i, A.live i → i < A.top) (h : J P f (args.map (AVal.ice i vs)) (A.del i) Q) : J P f args A Q := by
  refine ⟨h.1, fun φ w us hR hV => ?_⟩
  have hli : A.live i := by simp [Heap.live, ho]
  obtain ⟨φ', hφ'⟩ : ∃ φ' : Emb, φ' = ⟨φ.at_, fun b => φ.frz b ∨ b = φ i⟩ := ⟨_, rfl⟩
  have hsub := Heap.Sub.del A i
  have hEx : Ext φ A w φ' (A.del i) w := by
    subst hφ'
    refine ⟨Nat.le_refl _, fun j _ hl => ⟨hsub.live hl, rfl⟩, fun j hj hl => ?_, Nat.le_refl _, fun _ _ _ => rfl, fun _ _ => rfl, fun b hb => .inl hb, fun b hb => ?_, .rfl⟩
    · have := hlt j (hsub.live hl)
      omega
    · rcases hb with hb | rfl
      · exact .inl hb
      · exact .inr (.inr ⟨i, hli, rfl⟩)
  have hnm : ¬ Mg φ' (A.del i) (φ i) := by
    subst hφ'
    rintro ⟨j, hj, hje⟩
    have := hR.inj j i (hsub.live hj) hli hje
    subst this
    exact hj (Heap.get_del _ _)
  have hR' : R φ' (A.del i) w := by
    refine ⟨fun j hl => hR.lt j (hsub.live hl), fun j o hj => ?_, fun j k hj hk he => hR.inj j k (hsub.live hj) (hsub.live hk) (by subst hφ'; exact he), fun j hl hf => ?_, fun b hb => ?_⟩
    · obtain ⟨ob, h1, h2⟩ := hR.rel j o (hsub.sub j o hj)
      exact ⟨ob, by subst hφ'; exact h1, h2.ext hEx⟩
    · have hf' : φ.frz (φ j) ∨ φ j = φ i := by subst hφ'; exact hf
      rcases hf' with hf' | hf'
      · exact hR.sep j (hsub.live hl) hf'
      · exact hnm ⟨j, hl, by subst hφ'; exact hf'⟩
    · have hb' : φ.frz b ∨ b = φ i := by subst hφ'; exact hb
      rcases hb' with hb' | rfl
      · exact hR.flt b hb'
      · exact hR.block_lt hli
  have hfr : Frz φ' (A.del i) w (φ i) := ⟨⟨hR.block_lt hli, hnm⟩, by subst hφ'; exact .inr rfl⟩
  have hrow : ∀ off, Vrow φ' (A.del i) w (φ i) off (vs.drop off) := by
    intro off
    obtain ⟨xs, g1, g2⟩ := hR.rowCells ho off
    exact Vrow.ofCells (g1.ext hEx) g2
  have hone : ∀ {v : AVal} {u : Value}, V φ A w v u → V φ' (A.del i) w (v.ice i vs) u := by
    intro v u hv
    cases v with
    | ptr j off =>
      simp only [AVal.ice]
      by_cases hj : j = i
      · rw [if_pos hj]
        subst hj
        simp only [V] at hv ⊢
        obtain ⟨a, rfl, _, h3⟩ := hv
        exact ⟨φ j, off, by rw [h3 hli], hfr, hrow off⟩
      · rw [if_neg hj]; exact hv.ext hEx
    | sl j off len cap e =>
      simp only [AVal.ice]
      by_cases hj : j = i
      · rw [if_pos hj]
        subst hj
        simp only [V] at hv ⊢
        obtain ⟨a, c, rfl, _, h3, h4, h5⟩ := hv
        exact ⟨_, c, rfl, h3, h4, .inr ⟨φ j, off, by rw [(h5 hli).1], hfr, hrow off⟩⟩
      · rw [if_neg hj]; exact hv.ext hEx
    | _ => exact hv.ext hEx
  have hall : ∀ {args : List AVal} {us : List Value}, Vl φ A w args us → Vl φ' (A.del i) w (args.map (AVal.ice i vs)) us := by
    intro args
    induction args with
    | nil => intro us h; cases us <;> simp_all [Vl]
    | cons v args ih =>
      intro us h
      cases us with
      | nil => simp only [Vl] at h
      | cons u us => simp only [Vl, List.map_cons] at h ⊢; exact ⟨hone h.1, ih h.2⟩
  refine (h.2 φ' w us hR' (hall hV)).mono ?_
  rintro e w' ⟨v, rfl, φ'', a, A', h1, h2, h3, h4⟩
  exact ⟨v, rfl, φ'', a, A', h1, h2, h3, hEx.trans h4⟩
end

/-! ## Rows of integers -/

def ints (l : List Int) : List AVal := l.map fun n => .raw (.int .i64 n)
theorem ints_nil : ints [] = [] := rfl
theorem ints_cons {n : Int} {l : List Int} : ints (n :: l) = .raw (.int .i64 n) :: ints l := rfl
theorem ints_length (l : List Int) : (ints l).length = l.length := by simp [ints]
theorem ints_flat {l : List Int} : ∀ v ∈ ints l, v.flat = true := by
  intro v hv
  simp only [ints, List.mem_map] at hv
  obtain ⟨n, _, rfl⟩ := hv
  rfl
theorem ints_append (l m : List Int) : ints l ++ ints m = ints (l ++ m) := by simp [ints]
theorem ints_take (l : List Int) (n : Nat) : (ints l).take n = ints (l.take n) := by simp [ints]
theorem ints_drop (l : List Int) (n : Nat) : (ints l).drop n = ints (l.drop n) := by simp [ints]
theorem ints_get {l : List Int} {i : Nat} (h : i < l.length) : (ints l)[i]? = some (.raw (.int .i64 l[i])) := by simp [ints, h]
theorem ints_get? (l : List Int) (i : Nat) : (ints l)[i]? = l[i]?.map fun n => .raw (.int .i64 n) := by simp [ints]

/-- A slice of integers that nobody writes any more. -/
inductive ISl (l : List Int) : AVal → Prop where
  | nil (h : l = []) : ISl l (.raw (.slice none 0 0))
  | fsl (cap : Option Nat) : ISl l (.fsl (ints l) l.length cap)

theorem ISl.row {l : List Int} {v : AVal} (h : ISl l v) (A : Heap) : Row A 1 l.length (ints l) v := by
  cases h with
  | nil h => subst h; exact .nil rfl rfl
  | fsl cap => exact .fsl cap (by simp [ints])

/-- Slices of integers, one behind the other. -/
inductive ISls : List (List Int) → List AVal → Prop where
  | nil : ISls [] []
  | cons {l : List Int} {s : AVal} {L : List (List Int)} {S : List AVal} (h : ISl l s) (hs : ISls L S) : ISls (l :: L) (s :: S)

theorem ISls.length {L : List (List Int)} {S : List AVal} (h : ISls L S) : S.length = L.length := by
  induction h with
  | nil => rfl
  | cons _ _ ih => simp [ih]
theorem ISls.get {L : List (List Int)} {S : List AVal} (h : ISls L S) : ∀ {i : Nat}, i < L.length → ∃ s, S[i]? = some s ∧ ISl (L.getD i []) s := by
  induction h with
  | nil => intro i hi; simp at hi
  | @cons l s L S h hs ih =>
    intro i hi
    cases i with
    | zero => exact ⟨s, rfl, h⟩
    | succ i =>
      obtain ⟨t, h1, h2⟩ := ih (i := i) (by simpa using hi)
      exact ⟨t, by simpa using h1, by simpa using h2⟩
theorem ISls.set {L : List (List Int)} {S : List AVal} (h : ISls L S) {l : List Int} {s : AVal} (hs : ISl l s) : ∀ {i : Nat}, ISls (L.set i l) (S.set i s) := by
  induction h with
  | nil => intro i; exact .nil
  | cons h hs' ih =>
    intro i
    cases i with
    | zero => exact .cons hs hs'
    | succ i => exact .cons h ih

theorem ask_slice3 {P : Program} {A : Heap} {ts : List AVal} {K : AVal → Heap → Prop} {s : Nat} {x m : Arg} {lo hi : Option Arg} : ask P (.slice s x lo hi (some m)) ts A K = slK (x.ev ts)
    (fun i off len cap e => boundK ts (some m) len (slCap A i off len cap e) fun m => boundK ts hi len m fun h => boundK ts lo 0 h fun l => e = s ∧ if m = l ∧ l ≠ 0 then K (.fsl [] 0 (some (m - l))) A else K (.sl i (off + l * s) (h - l) (some (m - l)) s) A)
    (fun cs len _ => boundK ts (some m) len len fun m => boundK ts hi len m fun h => boundK ts lo 0 h fun l => K (.fsl ((cs.drop (l * s)).take ((h - l) * s)) (h - l) (some (m - l))) A)
    (fun l c => match l, c with | 0, 0 => boundK ts (some m) 0 0 fun _ => boundK ts hi 0 0 fun _ => boundK ts lo 0 0 fun _ => K (.raw (.slice none 0 0)) A | _, _ => False) := by
  simp only [ask, astep]
  generalize x.ev ts = v
  cases v with
  | raw v =>
    cases v with
    | slice a l c =>
      cases a with
      | some a => rfl
      | none => cases l <;> cases c <;> rfl
    | _ => rfl
  | _ => rfl

/-- A part of integers, its capacity named. -/
theorem ask_cutI {P : Program} {A : Heap} {ts : List AVal} {K : AVal → Heap → Prop} {x b c d : Arg} {s : AVal} {l : List Int} {k k' k'' : IntKind} {lo hi mx : Int} (hx : x.ev ts = s) (hb : b.ev ts = .raw (.int k lo)) (hc : c.ev ts = .raw (.int k' hi)) (hd : d.ev ts = .raw (.int k'' mx)) (hs : ISl l s)
    (h0 : 0 ≤ lo) (h1 : lo ≤ hi) (h2 : hi ≤ mx) (h3 : mx ≤ (l.length : Int)) (hk : ∀ v, ISl ((l.drop lo.toNat).take (hi - lo).toNat) v → K v A) : ask P (.slice 1 x (some b) (some c) (some d)) ts A K := by
  rw [ask_slice3, hx]
  cases hs with
  | nil h =>
    subst h
    have e0 : lo = 0 := by simp at h3; omega
    have e1 : hi = 0 := by simp at h3; omega
    have e2 : mx = 0 := by simp at h3; omega
    subst e0 e1 e2
    simp only [slK_nil, bound_some, hb, hc, hd, intK]
    exact ⟨⟨by omega, by omega⟩, ⟨by omega, by omega⟩, ⟨by omega, by omega⟩, hk _ (.nil rfl)⟩
  | fsl cap =>
    simp only [slK_fsl, bound_some, hb, hc, hd, intK]
    refine ⟨⟨by omega, by omega⟩, ⟨by omega, by omega⟩, ⟨by omega, by omega⟩, ?_⟩
    have e : (hi - lo).toNat = hi.toNat - lo.toNat := by omega
    have hl : ((l.drop lo.toNat).take (hi - lo).toNat).length = hi.toNat - lo.toNat := by
      rw [List.length_take, List.length_drop, e]; omega
    have hm : ((ints l).drop (lo.toNat * 1)).take ((hi.toNat - lo.toNat) * 1) = ints ((l.drop lo.toNat).take (hi - lo).toNat) := by
      rw [e]
      simp only [ints, List.map_take, List.map_drop, Nat.mul_one]
    have := ISl.fsl (l := (l.drop lo.toNat).take (hi - lo).toNat) (some (mx.toNat - lo.toNat))
    rw [← hm, hl] at this
    exact hk _ this

/-- The same, from the first on. -/
theorem ask_headI {P : Program} {A : Heap} {ts : List AVal} {K : AVal → Heap → Prop} {x c d : Arg} {s : AVal} {l : List Int} {k' k'' : IntKind} {hi mx : Int} (hx : x.ev ts = s) (hc : c.ev ts = .raw (.int k' hi)) (hd : d.ev ts = .raw (.int k'' mx)) (hs : ISl l s)
    (h1 : 0 ≤ hi) (h2 : hi ≤ mx) (h3 : mx ≤ (l.length : Int)) (hk : ∀ v, ISl (l.take hi.toNat) v → K v A) : ask P (.slice 1 x none (some c) (some d)) ts A K := by
  rw [ask_slice3, hx]
  cases hs with
  | nil h =>
    subst h
    have e1 : hi = 0 := by simp at h3; omega
    have e2 : mx = 0 := by simp at h3; omega
    subst e1 e2
    simp only [slK_nil, bound_some, bound_none, hc, hd, intK]
    exact ⟨⟨by omega, by omega⟩, ⟨by omega, by omega⟩, hk _ (.nil rfl)⟩
  | fsl cap =>
    simp only [slK_fsl, bound_some, bound_none, hc, hd, intK]
    refine ⟨⟨by omega, by omega⟩, ⟨by omega, by omega⟩, ?_⟩
    have hl : (l.take hi.toNat).length = hi.toNat := by
      rw [List.length_take]; omega
    have hm : ((ints l).drop (0 * 1)).take ((hi.toNat - 0) * 1) = ints (l.take hi.toNat) := by
      simp only [ints, List.map_take, Nat.mul_one, List.drop_zero, Nat.sub_zero, Nat.zero_mul]
    have := ISl.fsl (l := l.take hi.toNat) (some (mx.toNat - 0))
    rw [← hm, hl] at this
    exact hk _ this

theorem ISl.cells {l : List Int} {v : AVal} (h : ISl l v) : v.cells? = some [v] := by cases h <;> rfl

theorem slK_len {l : List Int} {v : AVal} (h : ISl l v) {C : Nat → Prop} : slK v (fun _ _ n _ _ => C n) (fun _ n _ => C n) (fun n _ => C n) = C l.length := by
  cases h with
  | nil h => subst h; rfl
  | fsl cap => rfl

end Go.Ab
