/- The abstract layer, part 17: the proof behind part 16. -/
import Derived.Test.YtookmilggbnoiaaGreatAbDraw
set_option linter.unusedSimpArgs false
set_option linter.unusedVariables false
namespace Go.Ab

variable {ds : List Deferred} {P : Program} {ops : Array Oper} {xs : List XOper} {anc : List (List Nat)} {φ φ' φ0 : Emb} {A A' A0 : Heap} {w w' w0 : World} {ts ts0 : List AVal} {a : Act} {K : AVal → Heap → Prop}

def ancs (anc : List (List Nat)) (i : Nat) : List Nat := anc.getD i []
def dstOf (xs : List XOper) (i : Nat) : Option Nat := (xs[i]?).bind (·.dst)
def quietAt (xs : List XOper) (i : Nat) : Bool := ((xs[i]?).map fun x => x.op.quiet).getD false
def allocAt (xs : List XOper) (i : Nat) : Bool := ((xs[i]?).map fun x => x.op.isAlloc).getD false

structure Reg (ops : Array Oper) (xs : List XOper) (anc : List (List Nat)) : Prop where
  len : xs.length = ops.size
  back : ∀ i, i < ops.size → ∀ e ∈ deps ops i, e < i
  just : ∀ i, i < ops.size → ∀ j ∈ ancs anc i, ∃ k ∈ deps ops i, k = j ∨ j ∈ ancs anc k
  dst : ∀ i j d, i < ops.size → j < ops.size → i ≠ j → dstOf xs i = some d → dstOf xs j ≠ some d
  slots : ∀ i x t j, i < ops.size → j < ops.size → xs[i]? = some x → t ∈ x.slots → j ≠ i → dstOf xs j = some t → (j ∈ ancs anc i ∧ (allocAt xs j = true → quietAt xs i = false)) ∨ i ∈ ancs anc j

theorem reg_of {script : List DStep} (h : regionOk ops xs anc script = true) : Reg ops xs anc ∧ scriptOk ops xs anc script [] [] = true := by
  simp only [regionOk, Bool.and_eq_true, beq_iff_eq, List.all_eq_true, List.mem_range, decide_eq_true_eq, List.any_eq_true, Bool.or_eq_true, bne_iff_ne, ne_eq, List.contains_iff_mem, Option.isNone_iff_eq_none, Bool.not_eq_true'] at h
  obtain ⟨⟨⟨⟨⟨h1, h2⟩, h3⟩, h4⟩, h5⟩, h6⟩ := h
  refine ⟨⟨h1, h2, fun i hi j hj => ?_, fun i j d hi hj hij hd hd' => ?_, fun i x t j hi hj hx ht hji hd => ?_⟩, h6⟩
  · obtain ⟨k, hk, h⟩ := h3 i hi j hj
    exact ⟨k, hk, h⟩
  · have := h4 i hi j hj
    simp only [dstOf] at hd hd'
    rw [hd, hd'] at this
    simp at this
    exact hij this
  · have := h5 i hi
    rw [hx] at this
    have := this t ht j hj
    simp only [dstOf] at hd
    rcases this with ((h | h) | h) | h
    · exact absurd h hji
    · exact absurd hd h
    · left
      refine ⟨h.1, fun ha => ?_⟩
      simp only [allocAt, quietAt] at ha ⊢
      rw [hx]
      rcases h.2 with h | h
      · rw [ha] at h; cases h
      · simpa [hx] using h
    · exact .inr h

/-- What is closed under waiting holds all that waits are for. -/
theorem Reg.closed (hr : Reg ops xs anc) {S : Nat → Prop} (hS : ∀ i, S i → i < ops.size ∧ ∀ e ∈ deps ops i, S e) : ∀ i, i < ops.size → (∀ e ∈ deps ops i, S e) → ∀ j ∈ ancs anc i, S j := by
  intro i
  induction i using Nat.strongRecOn with
  | _ i ih =>
    intro hi hd j hj
    obtain ⟨k, hk, h⟩ := hr.just i hi j hj
    rcases h with rfl | h
    · exact hd _ hk
    · exact ih k (hr.back i hi k hk) (hS k (hd k hk)).1 (hS k (hd k hk)).2 j h

theorem Reg.closed' (hr : Reg ops xs anc) {S : Nat → Prop} (hS : ∀ i, S i → i < ops.size ∧ ∀ e ∈ deps ops i, S e) {i : Nat} (hi : S i) : ∀ j ∈ ancs anc i, S j :=
  hr.closed hS i (hS i hi).1 (hS i hi).2

/-- What an operation that is done abstractly came to. -/
def Fc (P : Program) (x : XOper) (tsi : List AVal) (A : Heap) (v : AVal) : Prop := gd x.guard tsi ∧ ((wants x.guard tsi = true ∧ Comes P x.op tsi A v) ∨ (wants x.guard tsi = false ∧ v = AVal.undef))

/-- An alloc of the model. -/
def AlOk (P : Program) (o : Oper) (x : XOper) : Prop := ∀ zs, x.op = .alloc zs → x.guard = none → x.dst = o.dst ∧ o.guard = none ∧ (zs.all fun v => v.oneCell') = true ∧
  ∃ t, ∀ (a : Act) (w : World), (execOp a.eval o).run P w = .ok (.value (.pointer (some ⟨w.heap.size, 0, none⟩))) { w with heap := w.heap.push (.cells zs.toArray t) }

/-- Where a region stands: 'D' is done abstractly, 'S' in the model. -/
structure DInv (ds : List Deferred) (P : Program) (ops : Array Oper) (xs : List XOper) (anc : List (List Nat)) (φ0 : Emb) (A0 : Heap) (w0 : World) (ts0 : List AVal) (D : List Nat) (C : List (Nat × XOp × AVal)) (ts : List AVal) (A : Heap)
    (S : Nat → Prop) (bl : Nat → Nat) (a : Act) (φ : Emb) (w : World) : Prop where
  hR : R φ A w
  ext : Ext φ0 A0 w0 φ A w
  dfr : a.defers = ds
  cl : ∀ i, S i → i < ops.size ∧ ∀ e ∈ deps ops i, S e
  dcl : ∀ i ∈ D, i < ops.size ∧ ∀ e ∈ deps ops i, e ∈ D
  inD : ∀ i, S i → i ∈ D ∨ allocAt xs i = true
  must : ∀ i ∈ D, quietAt xs i = false → S i
  extra : ∀ i, S i → i ∉ D → ∃ x zs t, xs[i]? = some x ∧ x.op = .alloc zs ∧ x.guard = none ∧ (zs.all fun v => v.oneCell') = true ∧ w.heap[bl i]? = some (.cells zs.toArray t (0, 0)) ∧ w0.heap.size ≤ bl i ∧ ¬ Mg φ A (bl i) ∧ ¬ φ.frz (bl i)
  exinj : ∀ i j, S i → S j → i ∉ D → j ∉ D → bl i = bl j → i = j
  tmps : ∃ tsS : List AVal, Vl φ A w tsS a.tmps.toList ∧ tsS.length = ts.length ∧
    (∀ t j, S j → j ∈ D → dstOf xs j = some t → tsS.getD t AVal.undef = ts.getD t AVal.undef) ∧
    (∀ t, (∀ j, S j → dstOf xs j ≠ some t) → tsS.getD t AVal.undef = ts0.getD t AVal.undef) ∧
    (∀ t j, S j → j ∉ D → dstOf xs j = some t → t < ts.length → tsS.getD t AVal.undef = .raw (.pointer (some ⟨bl j, 0, none⟩)))
  len0 : ts0.length = ts.length
  nowr : ∀ t, (∀ j ∈ D, dstOf xs j ≠ some t) → ts.getD t AVal.undef = ts0.getD t AVal.undef
  facts : ∀ i ∈ D, ¬ S i → ∃ x tsi v, xs[i]? = some x ∧ Fc P x tsi A v ∧ (∀ d, x.dst = some d → d < ts.length → ts.getD d AVal.undef = v) ∧
    (∀ t ∈ x.slots, ∀ j, j ≠ i → dstOf xs j = some t → j ∈ ancs anc i → tsi.getD t AVal.undef = ts.getD t AVal.undef) ∧
    (∀ t ∈ x.slots, (∀ j, j < ops.size → j ≠ i → dstOf xs j = some t → j ∉ ancs anc i) → tsi.getD t AVal.undef = ts0.getD t AVal.undef) ∧
    (x.op.looks tsi = true → wants x.guard tsi = true → (i, x.op.inst tsi, v) ∈ C)

theorem getD_set_ne {l : List AVal} {i j : Nat} (v : AVal) (h : i ≠ j) : (l.set i v).getD j AVal.undef = l.getD j AVal.undef := by
  simp [List.getD, List.getElem?_set_ne h]

theorem getD_set_eq {l : List AVal} {i : Nat} (v : AVal) (h : i < l.length) : (l.set i v).getD i AVal.undef = v := by
  simp [List.getD, h]

theorem put_getD_ne {l : List AVal} {d : Option Nat} {j : Nat} (v : AVal) (h : d ≠ some j) : (put l d v).getD j AVal.undef = l.getD j AVal.undef := by
  cases d with
  | none => rfl
  | some d => exact getD_set_ne v fun e => h (by rw [e])

theorem put_getD_eq {l : List AVal} {j : Nat} (v : AVal) (h : j < l.length) : (put l (some j) v).getD j AVal.undef = v := getD_set_eq v h

theorem put_length (l : List AVal) (d : Option Nat) (v : AVal) : (put l d v).length = l.length := by cases d <;> simp [put]

theorem put_Vl {d : Option Nat} {v : AVal} {u : Value} (hV : Vl φ A w ts a.tmps.toList) (hv : V φ A w v u) : Vl φ A w (put ts d v) (a.put d u).tmps.toList := by
  cases d with
  | none => exact hV
  | some d => simpa [put, Act.put] using hV.set (i := d) hv

theorem put_defers (d : Option Nat) (u : Value) (h : a.defers = ds) : (a.put d u).defers = ds := by cases d <;> exact h

/-- A quiet operation, one way or the other. -/
theorem runX_quiet {x : XOper} (hq : x.op.quiet = true) (h : runX P x ts A K) : ∃ v, K v A ∧ Fc P x ts A v := by
  unfold runX at h
  obtain ⟨hg, h⟩ := h
  cases hw : wants x.guard ts with
  | true =>
    rw [hw] at h
    obtain ⟨v, h1, h2⟩ := quiet_split hq h
    exact ⟨v, h1, hg, .inl ⟨hw, h2⟩⟩
  | false =>
    rw [hw] at h
    exact ⟨_, h, hg, .inr ⟨hw, rfl⟩⟩

theorem Fc.run {x : XOper} {v : AVal} (h : Fc P x ts A v) (hk : K v A) : runX P x ts A K := by
  unfold runX
  obtain ⟨hg, h⟩ := h
  refine ⟨hg, ?_⟩
  rcases h with ⟨h1, h2⟩ | ⟨h1, rfl⟩
  · rw [h1]; exact h2 K hk
  · rw [h1]; exact hk

theorem guard_congr {x : XOper} {ts' : List AVal} (hs : ∀ t ∈ x.slots, ts.getD t AVal.undef = ts'.getD t AVal.undef) : wants x.guard ts' = wants x.guard ts ∧ (gd x.guard ts → gd x.guard ts') := by
  unfold wants gd
  cases hg : x.guard with
  | none => exact ⟨rfl, fun _ => trivial⟩
  | some g => simp only []; rw [hs g.1 (by simp [XOper.slots, hg])]; exact ⟨rfl, id⟩

/-- What two frames that agree on an operation's slots make of it. -/
theorem Fc.congr {x : XOper} {v : AVal} {ts' : List AVal} (h : Fc P x ts A v) (hs : ∀ t ∈ x.slots, ts.getD t AVal.undef = ts'.getD t AVal.undef) : Fc P x ts' A v := by
  obtain ⟨hw, hgd⟩ := guard_congr hs
  have hi : x.op.inst ts = x.op.inst ts' := inst_congr fun t ht => hs t (by simp [XOper.slots, ht])
  obtain ⟨hg, h⟩ := h
  refine ⟨hgd hg, ?_⟩
  rcases h with ⟨h1, h2⟩ | ⟨h1, rfl⟩
  · refine .inl ⟨hw.trans h1, fun K hk => ?_⟩
    rw [← ask_inst ts' ts', ← hi, ask_inst]
    exact h2 K hk
  · exact .inr ⟨hw.trans h1, rfl⟩

/-- An object more changes nothing of what is read. -/
theorem Comes.push {x : XOp} {v : AVal} {o : AObj} (hq : x.quiet = true) (hlt : ∀ i, A.live i → i < A.top) (h : Comes P x ts A v) : Comes P x ts (A.push o) v := by
  cases hr : x.looks ts with
  | false => exact h.pure hq hr
  | true =>
    have key : ask P x ts A (fun a _ => a = v) → ask P x ts (A.push o) (fun a _ => a = v) := by
      have hget : ∀ i vs, A.get i = some (.cells vs) → (A.push o).get i = some (.cells vs) := by
        intro i vs hi
        rw [Heap.get_push_ne]
        · exact hi
        · have := hlt i (by simp [Heap.live, hi]); omega
      cases x <;> simp only [XOp.looks, reduceCtorEq] at hr
      case slice s x lo hi mx =>
        refine ask_slice_le (C := fun a => a = v) fun _ i off len cap e _ => ?_
        cases cap with
        | some c => exact Nat.le_refl _
        | none =>
          simp only [slCap]
          cases hg : A.get i with
          | none =>
            simp only []
            split
            · exact Nat.le_max_left _ _
            · exact Nat.le_refl _
          | some o =>
            cases o with
            | cells vs => rw [hget _ _ hg]; exact Nat.le_refl _
            | map es =>
              simp only []
              split
              · exact Nat.le_max_left _ _
              · exact Nat.le_refl _
            | loop =>
              simp only []
              split
              · exact Nat.le_max_left _ _
              · exact Nat.le_refl _
      all_goals simp only [ask, astep]
      case load n x =>
        intro h
        split at h
        · split at h
          · rename_i hg; rw [hget _ _ hg]; exact h
          · exact h.elim
        · exact h
        · exact h.elim
      case sliceArr n s x lo hi mx =>
        intro h
        split at h
        · split at h
          · rename_i hg; rw [hget _ _ hg]; exact h
          · exact h.elim
        · exact h
        · exact h.elim
    obtain ⟨u, rfl, h2⟩ := quiet_split hq (key (h _ rfl))
    exact h2

theorem Fc.push {x : XOper} {v : AVal} {o : AObj} (hq : x.op.quiet = true) (hlt : ∀ i, A.live i → i < A.top) (h : Fc P x ts A v) : Fc P x ts (A.push o) v := by
  rcases h with ⟨hg, ⟨h1, h2⟩ | ⟨h1, h2⟩⟩
  · exact ⟨hg, .inl ⟨h1, h2.push hq hlt⟩⟩
  · exact ⟨hg, .inr ⟨h1, h2⟩⟩

/-- A quiet step of the script: nothing happens in the model yet. -/
theorem DInv.stepQ {D : List Nat} {C : List (Nat × XOp × AVal)} {S : Nat → Prop} {bl : Nat → Nat} (hr : Reg ops xs anc) (hI : DInv ds P ops xs anc φ0 A0 w0 ts0 D C ts A S bl a φ w) {i : Nat} {x : XOper} (hi : i < ops.size) (hx : xs[i]? = some x) (hiD : i ∉ D) (hd : ∀ e ∈ deps ops i, e ∈ D) (hq : x.op.quiet = true)
    {v : AVal} (hv : Fc P x ts A v) : DInv ds P ops xs anc φ0 A0 w0 ts0 (i :: D) (bif x.op.looks ts && wants x.guard ts then (i, x.op.inst ts, v) :: C else C) (put ts x.dst v) A S bl a φ w := by
  have hdst : dstOf xs i = x.dst := by simp [dstOf, hx]
  have hnS : ¬ S i := by
    intro hs
    rcases hI.inD i hs with h | h
    · exact hiD h
    · simp [allocAt, hx] at h
      cases hop : x.op <;> simp [hop, XOp.isAlloc] at h <;> simp [hop, XOp.quiet] at hq
  have other : ∀ j, j < ops.size → j ≠ i → ∀ t, dstOf xs j = some t → x.dst ≠ some t := fun j hj hji t ht he => hr.dst i j t hi hj (Ne.symm hji) (hdst.trans he) ht
  refine ⟨hI.hR, hI.ext, hI.dfr, hI.cl, ?_, ?_, ?_, ?_, ?_, ?_, ?_, ?_, ?_⟩
  · intro j hj
    rcases List.mem_cons.1 hj with rfl | hj
    · exact ⟨hi, fun e he => List.mem_cons_of_mem _ (hd e he)⟩
    · exact ⟨(hI.dcl j hj).1, fun e he => List.mem_cons_of_mem _ ((hI.dcl j hj).2 e he)⟩
  · intro j hj
    rcases hI.inD j hj with h | h
    · exact .inl (List.mem_cons_of_mem _ h)
    · exact .inr h
  · intro j hj hqj
    rcases List.mem_cons.1 hj with rfl | hj
    · simp [quietAt, hx, hq] at hqj
    · exact hI.must j hj hqj
  · intro j hj hjD
    exact hI.extra j hj fun h => hjD (List.mem_cons_of_mem _ h)
  · intro j k hj hk hjD hkD
    exact hI.exinj j k hj hk (fun h => hjD (List.mem_cons_of_mem _ h)) (fun h => hkD (List.mem_cons_of_mem _ h))
  · obtain ⟨tsS, h1, h2, h3, h4, h5⟩ := hI.tmps
    refine ⟨tsS, h1, by rw [put_length]; exact h2, fun t j hj hjD ht => ?_, h4, fun t j hj hjD ht hl => ?_⟩
    · have hji : j ≠ i := fun e => hnS (e ▸ hj)
      rw [put_getD_ne _ (other j (hI.cl j hj).1 hji t ht)]
      rcases List.mem_cons.1 hjD with h | h
      · exact absurd h hji
      · exact h3 t j hj h ht
    · rw [put_length] at hl
      exact h5 t j hj (fun h => hjD (List.mem_cons_of_mem _ h)) ht hl
  · rw [put_length]; exact hI.len0
  · intro t ht
    rw [put_getD_ne _ (by rw [← hdst]; exact ht i (List.mem_cons_self ..))]
    exact hI.nowr t fun j hj => ht j (List.mem_cons_of_mem _ hj)
  · intro j hj hjS
    rcases List.mem_cons.1 hj with rfl | hj
    · refine ⟨x, ts, v, hx, hv, fun d hd hl => ?_, fun t ht k hk hkt hka => ?_, fun t ht hno => ?_, fun h1 h2 => ?_⟩
      · rw [put_length] at hl
        rw [hd, put_getD_eq _ hl]
      · have hkD : k ∈ D := hr.closed (S := (· ∈ D)) hI.dcl _ hi hd k hka
        rw [put_getD_ne _ (other k (hI.dcl k hkD).1 hk t hkt)]
      · refine hI.nowr t fun k hkD hkt => ?_
        by_cases hki : k = j
        · exact hiD (hki ▸ hkD)
        · rcases hr.slots j x t k hi (hI.dcl k hkD).1 hx ht hki hkt with h | h
          · exact hno k (hI.dcl k hkD).1 hki hkt h.1
          · exact hiD (hr.closed' (S := (· ∈ D)) hI.dcl hkD j h)
      · rw [h1, h2]; exact List.mem_cons_self ..
    · obtain ⟨y, tsj, u, g1, g2, g3, g4, g5, g6⟩ := hI.facts j hj hjS
      have hji : j ≠ i := fun e => hiD (e ▸ hj)
      refine ⟨y, tsj, u, g1, g2, fun d hd hl => ?_, fun t ht k hk hkt hka => ?_, g5, fun h1 h2 => ?_⟩
      · rw [put_length] at hl
        rw [put_getD_ne _ (other j (hI.dcl j hj).1 hji d (by simp [dstOf, g1, hd]))]
        exact g3 d hd hl
      · have hkD : k ∈ D := hr.closed' (S := (· ∈ D)) hI.dcl hj k hka
        rw [put_getD_ne _ (other k (hI.dcl k hkD).1 (fun e => hiD (e ▸ hkD)) t hkt)]
        exact g4 t ht k hk hkt hka
      · have := g6 h1 h2
        cases x.op.looks ts && wants x.guard ts with
        | true => exact List.mem_cons_of_mem _ this
        | false => exact this

end Go.Ab
