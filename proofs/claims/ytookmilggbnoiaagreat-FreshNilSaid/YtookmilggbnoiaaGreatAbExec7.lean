/- The abstract layer, part 33: functions, run. -/
import Derived.Test.YtookmilggbnoiaaGreatAbExec6
set_option linter.unusedSimpArgs false
set_option linter.unusedVariables false
namespace Go.Ab

variable {P : Program} {γ : Type} {g : γ}

/-- The functions' code by number, in a tree. -/
inductive XT where
  | nil
  | node (o : Option XFn) (l r : XT)

noncomputable def XT.here (t : XT) : Option XFn := XT.rec none (fun o _ _ _ _ => o) t
noncomputable def XT.left (t : XT) : XT := XT.rec .nil (fun _ l _ _ _ => l) t
noncomputable def XT.right (t : XT) : XT := XT.rec .nil (fun _ _ r _ _ => r) t
noncomputable def xtGetP (p : Pth) : XT → Option XFn := Pth.rec XT.here (fun _ ih t => ih (XT.left t)) (fun _ ih t => ih (XT.right t)) p
noncomputable def xtGet (t : XT) (i : Nat) : Option XFn := xtGetP (path i) t

/-- Of all functions of a tree, each by its number. -/
def XT.All (p : Nat → XFn → Prop) : XT → (Nat → Nat) → Prop
  | .nil, _ => True
  | .node o l r, ix => (∀ X, o = some X → p (ix 0) X) ∧ XT.All p l (fun j => ix (2 * j + 1)) ∧ XT.All p r (fun j => ix (2 * j + 2))

theorem XT.All.getP {p : Nat → XFn → Prop} : ∀ (q : Pth) {t : XT} {ix : Nat → Nat}, t.All p ix → ∀ {X : XFn}, xtGetP q t = some X → p (ix (unpath q)) X
  | .h, .nil, _, _, _, h => by cases h
  | .h, .node o l r, ix, ha, X, h => ha.1 X h
  | .l q, .nil, ix, ha, X, h => by
    have : xtGetP q .nil = some X := h
    exact absurd this (by
      clear this h
      induction q with
      | h => intro h; cases h
      | l q ih => exact ih
      | r q ih => exact ih)
  | .r q, .nil, ix, ha, X, h => by
    have : xtGetP q .nil = some X := h
    exact absurd this (by
      clear this h
      induction q with
      | h => intro h; cases h
      | l q ih => exact ih
      | r q ih => exact ih)
  | .l q, .node o l r, ix, ha, X, h => XT.All.getP q ha.2.1 (X := X) h
  | .r q, .node o l r, ix, ha, X, h => XT.All.getP q ha.2.2 (X := X) h
theorem XT.All.get {p : Nat → XFn → Prop} {t : XT} {ix : Nat → Nat} (ha : t.All p ix) {i : Nat} {X : XFn} (h : xtGet t i = some X) : p (ix i) X := by
  have := ha.getP (path i) h
  rwa [unpath_path] at this

theorem XT.All.some {p : Nat → XFn → Prop} {X : XFn} {l r : XT} {ix : Nat → Nat} (h : p (ix 0) X) (hl : l.All p fun j => ix (2 * j + 1)) (hr : r.All p fun j => ix (2 * j + 2)) : (XT.node (some X) l r).All p ix :=
  ⟨fun Y hY => by cases hY; exact h, hl, hr⟩
theorem XT.All.none {p : Nat → XFn → Prop} {l r : XT} {ix : Nat → Nat} (hl : l.All p fun j => ix (2 * j + 1)) (hr : r.All p fun j => ix (2 * j + 2)) : (XT.node none l r).All p ix :=
  ⟨(fun Y hY => by cases hY), hl, hr⟩

/-- A tree that holds a program's functions. -/
def XT.Ok (P : Program) (t : XT) : Prop := t.All (fun i X => compFn P i = some X) id

/-- Functions of which it is known what they do. -/
abbrev Mods := Nat → Option (List AVal → Heap → Option (AVal × Heap))
def ModsOk (P : Program) (M : Mods) : Prop := ∀ f m args A v A', M f = some m → m args A = some (v, A') → J P f args A fun a B => a = v ∧ B = A'

noncomputable def resK (t : FT) (A : Heap) (rs : List XRes) : (List AVal → Option γ) → Option γ :=
  List.rec (fun K => K []) (fun r _ ih K =>
    match r with
    | .tmp s => ih fun vs => K (ftGet t s :: vs)
    | .cell s n => match ftGet t s with
      | .ptr i off => match hGet A i with
        | some (.cells vs) => match n with
          | none => match lNth vs off with
            | some v => ih fun us => K (v :: us)
            | none => none
          | some n => lLenK vs 0 fun l => match Nat.ble (Nat.add off n) l with
            | true => lTakeK (lDrop vs off) n fun cs => ih fun us => K (.agg cs :: us)
            | false => none
        | _ => none
      | _ => none) rs

theorem resK_some {n : Nat} {t : FT} {ts : List AVal} {A : Heap} (hF : FR n t ts) : ∀ (rs : List XRes) (K : List AVal → Option γ), resK t A rs K = some g → ares ts A rs fun vs => K vs = some g
  | [], K, h => h
  | .tmp s :: rs, K, h => by
    have h : resK t A rs (fun vs => K (ftGet t s :: vs)) = some g := h
    simp only [ares]
    rw [hF.2] at h
    exact resK_some hF rs _ h
  | .cell s m :: rs, K, h => by
    have h : (match ftGet t s with
      | .ptr i off => match hGet A i with
        | some (.cells vs) => match (generalizing := false) m with
          | none => match lNth vs off with
            | some v => resK t A rs fun us => K (v :: us)
            | none => none
          | some n => lLenK vs 0 fun l => match Nat.ble (Nat.add off n) l with
            | true => lTakeK (lDrop vs off) n fun cs => resK t A rs fun us => K (.agg cs :: us)
            | false => none
        | _ => none
      | _ => none) = some g := h
    simp only [ares]
    rw [hF.2] at h
    split at h
    · rename_i hv
      rw [hv]
      rw [hGet_eq] at h
      split at h
      · rename_i hg
        simp only [hg]
        split at h
        · rw [lNth_eq] at h
          split at h
          · rename_i hn
            simp only [hn]
            exact resK_some hF rs _ h
          · cases h
        · rw [lLenK_eq] at h
          split at h
          · rename_i hb
            rw [lTakeK_eq, lDrop_eq] at h
            have hb := Nat.le_of_ble_eq_true hb
            simp only [Nat.zero_add] at hb
            exact ⟨hb, resK_some hF rs _ h⟩
          · cases h
      · cases h
    · cases h

theorem ares_mono {ts : List AVal} {A : Heap} : ∀ {rs : List XRes} {K K' : List AVal → Prop}, (∀ vs, K vs → K' vs) → ares ts A rs K → ares ts A rs K'
  | [], _, _, hk, h => hk _ h
  | .tmp s :: rs, _, _, hk, h => by
    simp only [ares] at h ⊢
    exact ares_mono (fun _ h => hk _ h) h
  | .cell s m :: rs, _, _, hk, h => by
    simp only [ares] at h ⊢
    split at h
    · split at h
      · split at h
        · split at h
          · exact ares_mono (fun _ h => hk _ h) h
          · exact h.elim
        · exact ⟨h.1, ares_mono (fun _ h => hk _ h) h.2⟩
      · exact h.elim
    · exact h.elim

/-- A new frame. -/
noncomputable def frameK (as : List AVal) : Nat → FT → (FT → Option γ) → Option γ :=
  List.rec (fun _ t K => K t) (fun a _ ih i t K => ftSetK a t i fun t => ih (Nat.succ i) t K) as
theorem frameK_some : ∀ (as : List AVal) (i : Nat) (t : FT) (K : FT → Option γ), frameK as i t K = some g → ∃ t', K t' = some g ∧ ∀ j, ftGet t' j = if i ≤ j ∧ j < i + as.length then as.getD (j - i) AVal.undef else ftGet t j
  | [], i, t, K, h => ⟨t, h, fun j => by rw [if_neg]; simp only [List.length_nil]; omega⟩
  | a :: as, i, t, K, h => by
    have h : ftSetK a t i (fun t => frameK as (i + 1) t K) = some g := h
    obtain ⟨t1, h1, h2⟩ := ftSetK_some h
    obtain ⟨t2, h3, h4⟩ := frameK_some as (i + 1) t1 K h1
    refine ⟨t2, h3, fun j => ?_⟩
    rw [h4, h2]
    simp only [List.length_cons]
    by_cases hj : j = i
    · subst hj
      rw [if_neg (by omega), if_pos rfl, if_pos (by omega), Nat.sub_self]
      rfl
    · by_cases hj2 : i + 1 ≤ j ∧ j < i + 1 + as.length
      · rw [if_pos hj2, if_pos (by omega)]
        rw [show j - i = (j - (i + 1)) + 1 by omega]
        rfl
      · rw [if_neg hj2, if_neg hj, if_neg (by omega)]

abbrev RunF (γ : Type) := Nat → XCode → FK γ → Cont γ

/-- A call. -/
noncomputable def callK (M : Mods) (T : XT) (ih : RunF γ) (f : Nat) (args : List AVal) (A : Heap) (K : AVal → Heap → Option γ) : Option γ :=
  match M f with
  | some m => match m args A with
    | some (v, ⟨t, top⟩) => fVal v fun v => K v ⟨t, top⟩
    | none => none
  | none => match xtGet T f with
    | some ⟨code, res, n⟩ => lLenK args 0 fun l => fNat (Nat.add l (Nat.sub n l)) fun n => frameK args 0 .nil fun t =>
        ih n code ⟨fun t A => resK t A res fun vs => fVal (single vs) fun v => K v A, fun t A => resK t A res fun vs => fVal (single vs) fun v => K v A, fun _ _ _ => none⟩ t A
    | none => none

noncomputable def condK (ih : RunF γ) (n : Nat) (c : Arg) (x y : XCode) (E : FK γ) (t : FT) (A : Heap) : Option γ :=
  match evF t c with
  | .raw (.bool true) => ih n x E t A
  | .raw (.bool false) => ih n y E t A
  | _ => none
noncomputable def exitK' (id : Nat) (p : Cont γ) (q : Nat → Cont γ) (id' : Nat) : Cont γ := Bool.rec (q id') p (Nat.beq id' id)

noncomputable def codeK (M : Mods) (T : XT) (ih : RunF γ) (n : Nat) (c : XCode) : FK γ → FT → Heap → Option γ :=
  match c with
  | .skip => fun E => E.n
  | .ops xs => fun E t A => runsK (callK M T ih) n xs t A E.n
  | .draw xs anc script => fun E t A => drK (callK M T ih) n xs anc E.n script [] t A
  | .seq a b => fun E => ih n a ⟨ih n b E, E.r, E.x⟩
  | .cond c x y => condK ih n c x y
  | .block id c => fun E => ih n c ⟨E.n, E.r, exitK' id E.n E.x⟩
  | .loop c => fun E => ih n c ⟨ih n (.loop c) E, E.r, E.x⟩
  | .rangeFunc .. => fun _ _ _ => none
  | .exit id => fun E => E.x id
  | .ret => fun E => E.r
  | .die => fun _ _ _ => none

noncomputable def runK (M : Mods) (T : XT) (fuel : Nat) : RunF γ := Nat.rec (fun _ _ _ _ _ => none) (fun _ ih => codeK M T ih) fuel
theorem runK_zero {M : Mods} {T : XT} {n : Nat} {c : XCode} {E : FK γ} {t : FT} {A : Heap} : runK M T 0 n c E t A = none := rfl
theorem runK_succ {M : Mods} {T : XT} {k n : Nat} {c : XCode} {E : FK γ} {t : FT} {A : Heap} : runK M T (k + 1) n c E t A = codeK M T (runK M T k) n c E t A := rfl

def lift (n : Nat) (K : Cont γ) (g : γ) (ts : List AVal) (A : Heap) : Prop := ∃ t, FR n t ts ∧ K t A = some g
def FK.posts (n : Nat) (E : FK γ) (g : γ) : Posts := ⟨lift n E.n g, lift n E.r g, fun id => lift n (E.x id) g⟩

theorem run_ok {M : Mods} {T : XT} (hM : ModsOk P M) (hT : T.Ok P) : ∀ (fuel : Nat),
    (∀ (f : Nat) (args : List AVal) (A : Heap) (K : AVal → Heap → Option γ), callK M T (runK M T fuel) f args A K = some g → J P f args A fun a A' => K a A' = some g) ∧
    (∀ (A0 : Heap) (n : Nat) (c : XCode) (E : FK γ) (t : FT) (ts : List AVal) (A : Heap), FR n t ts → runK M T fuel n c E t A = some g → awp P A0 c (E.posts n g) ts A) := by
  intro fuel
  induction fuel using Nat.strongRecOn with
  | _ fuel ih =>
    have code : ∀ (A0 : Heap) (n : Nat) (c : XCode) (E : FK γ) (t : FT) (ts : List AVal) (A : Heap), FR n t ts → runK M T fuel n c E t A = some g → awp P A0 c (E.posts n g) ts A := by
      intro A0 n c E t ts A hF h
      cases fuel with
      | zero => cases h
      | succ k =>
        have hk := ih k (Nat.lt_succ_self k)
        rw [runK_succ] at h
        cases c with
        | skip => exact ⟨t, hF, h⟩
        | ops xs => exact runsK_some hk.1 xs t ts A hF h
        | draw xs anc sc => exact drK_some hk.1 sc [] t ts A hF h
        | seq a b =>
          have := hk.2 A0 n a _ t ts A hF h
          refine awp_mono a ?_ ?_ ?_ this
          · rintro ts A ⟨t, hF, h⟩
            exact hk.2 A0 n b E t ts A hF h
          · exact fun _ _ h => h
          · exact fun _ _ _ h => h
        | cond c x y =>
          simp only [codeK, condK, evF_eq hF] at h
          simp only [awp]
          generalize c.ev ts = v at h ⊢
          split at h
          · exact ⟨fun _ => hk.2 A0 n x E t ts A hF h, fun hb => absurd hb (by decide)⟩
          · exact ⟨fun hb => absurd hb (by decide), fun _ => hk.2 A0 n y E t ts A hF h⟩
          · cases h
        | block id c =>
          have := hk.2 A0 n c _ t ts A hF h
          refine awp_mono c ?_ ?_ ?_ this
          · exact fun _ _ h => h
          · exact fun _ _ h => h
          rintro i ts A ⟨t, hF, h⟩
          have h : exitK' id E.n E.x i t A = some g := h
          unfold exitK' at h
          simp only []
          by_cases hi : i = id
          · subst hi
            rw [beqT rfl] at h
            simp only [BEq.rfl, cond_true]
            exact ⟨t, hF, h⟩
          · rw [beqF hi] at h
            have : (i == id) = false := by simpa using hi
            rw [this]
            exact ⟨t, hF, h⟩
        | loop c =>
          intro X hX hW
          have key : ∀ m, m ≤ k + 1 → ∀ ts A t, FR n t ts → runK M T m n (.loop c) E t A = some g → X ts A := by
            intro m
            induction m with
            | zero => intro _ ts A t hF h; cases h
            | succ m ihm =>
              intro hm ts A t hF h
              have h := (ih m (by omega)).2 A0 n c _ t ts A hF h
              refine hX _ _ (awp_mono c ?_ ?_ ?_ h)
              · rintro ts A ⟨t, hF, h⟩
                exact ihm (by omega) ts A t hF h
              · exact fun _ _ h => h
              · exact fun _ _ _ h => h
          exact key (k + 1) (Nat.le_refl _) ts A t hF h
        | rangeFunc f ps x y => cases h
        | exit id => exact ⟨t, hF, h⟩
        | ret => exact ⟨t, hF, h⟩
        | die => cases h
    refine ⟨?_, code⟩
    intro f args A K h
    unfold callK at h
    split at h
    · rename_i m hm
      split at h
      · rename_i v t top hv
        rw [fVal_eq] at h
        exact (hM f m args A v _ hm hv).mono (by rintro a B ⟨rfl, rfl⟩; exact h)
      · cases h
    · split at h
      · rename_i code' res n hx
        have hc := hT.get hx
        rw [lLenK_eq, fNat_eq] at h
        obtain ⟨t, h1, h2⟩ := frameK_some _ _ _ _ h
        have hF : FR (args.length + (n - args.length)) t (args ++ List.replicate (n - args.length) AVal.undef) := by
          refine ⟨by simp, fun i => ?_⟩
          rw [h2]
          simp only [Nat.zero_le, true_and, Nat.zero_add, Nat.sub_zero]
          by_cases hi : i < args.length
          · rw [if_pos hi]
            simp only [List.getD_eq_getElem?_getD]
            rw [List.getElem?_append_left hi]
          · rw [if_neg hi, ftGet_nil]
            simp only [List.getD_eq_getElem?_getD]
            rw [List.getElem?_append_right (by omega)]
            by_cases hi2 : i - args.length < n - args.length
            · simp [hi2]
            · simp [hi2]
        simp only [Nat.zero_add] at h1
        refine J_of hc fun hlt => ?_
        refine awp_mono code' ?_ ?_ ?_ (code A _ code' _ t _ A hF h1)
        · rintro ts A' ⟨t, hF, h⟩
          have := resK_some hF _ _ h
          refine ares_mono ?_ this
          intro vs hv
          rw [fVal_eq] at hv
          exact Wk.refl ⟨_, rfl, hv⟩
        · rintro ts A' ⟨t, hF, h⟩
          have := resK_some hF _ _ h
          refine ares_mono ?_ this
          intro vs hv
          rw [fVal_eq] at hv
          exact Wk.refl ⟨_, rfl, hv⟩
        · rintro i ts A' ⟨t, hF, h⟩
          cases h
      · cases h

/-- A closed call, run. -/
theorem J_run {M : Mods} {T : XT} (hM : ModsOk P M) (hT : T.Ok P) (fuel : Nat) {f : Nat} {args : List AVal} {A : Heap} {K : AVal → Heap → Option γ} (h : callK M T (runK M T fuel) f args A K = some g) : J P f args A fun a A' => K a A' = some g :=
  (run_ok hM hT fuel).1 f args A K h

end Go.Ab
