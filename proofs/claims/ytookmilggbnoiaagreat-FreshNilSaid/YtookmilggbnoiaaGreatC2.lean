/- Contracts of functions of the program: what each call returns, on plain lists. -/
import Derived.Test.YtookmilggbnoiaaGreatC1
set_option linter.unusedVariables false
set_option linter.unusedSimpArgs false
open Go.Proofs
namespace Go.Ab

/-- 'slices.Values'. -/
theorem j_values (A B : Heap) (n : Nat) (cs : List AVal) (s : AVal) (hs : Row B 1 n cs s) : J Tryz.prog f_slices_Values___int_int_ [s] A fun v B => v = .func (.func f_slices_Values___int_int__1) [] [.ptr A.top 0] ∧ B = A.push (.cells [s]) := by
  refine J_of' c_slices_Values___int_int_ x_slices_Values___int_int_.eq_1 fun hlt => ?_
  cases hs <;> simp -implicitDefEqProofs -dsimp +decide only [go_sem, Int.reduceAdd, Int.reduceSub, Int.reduceMul, Int.reduceToNat, Nat.reduceMul, Nat.reduceAdd] <;> exact Wk.refl (G := fun us A' => ∃ u, us = [u] ∧ u = _ ∧ A' = _) ⟨_, rfl, rfl, rfl⟩

theorem Row.of_get {A B : Heap} {e n : Nat} {cs : List AVal} {s : AVal} (h : Row A e n cs s) (hg : ∀ i o, A.get i = some o → B.get i = some o) : Row B e n cs s := by
  cases h with
  | nil h hc => exact .nil h hc
  | fsl cap h => exact .fsl cap h
  | sl i off cap vs ho hl hc => exact .sl i off cap vs (hg _ _ ho) hl hc

/-- 'slices.AppendSeq' of no slice, over 'slices.Values'. -/
theorem j_appendSeq (A : Heap) (b n : Nat) (s : AVal) (cs : List AVal) (hn : n < 2 ^ 40) (hb : A.get b = some (.cells [s])) (hrow : Row A 1 n cs s) (hlen : cs.length = n) (hone : ∀ c ∈ cs, ∃ k x, c = .raw (.int k x)) :
    J Tryz.prog f_slices_AppendSeq___int_int_ [.raw (.slice none 0 0), .func (.func f_slices_Values___int_int__1) [] [.ptr b 0]] A fun v B => (n = 0 ∧ v = .raw (.slice none 0 0) ∧ B = A) ∨ (0 < n ∧ v = .sl A.top 0 n none 1 ∧ B = A.push (.cells cs)) := by
  refine J_of' c_slices_AppendSeq___int_int_ x_slices_AppendSeq___int_int_.eq_1 fun hlt => ?_
  have hold : ∀ j o, A.get j = some o → j < A.top := fun j o h => hlt j (by simp [Heap.live, h])
  simp -implicitDefEqProofs -dsimp +decide only [go_sem, Int.reduceAdd, Int.reduceSub, Int.reduceMul, Int.reduceToNat, Nat.reduceMul, Nat.reduceAdd]
  refine ⟨rfl, fun a c ha hc => ?_⟩
  obtain ⟨T, hT⟩ : ∃ T : List AVal, T = [AVal.raw (Value.slice none 0 0), AVal.func (Fn.func f_slices_Values___int_int__1) [] [AVal.ptr b 0],
          AVal.ptr A.top 0, AVal.raw (Value.tuple #[]), AVal.raw (Value.slice none 0 0), AVal.raw (Value.tuple #[]),
          AVal.func (Fn.func f_slices_Values___int_int__1) [] [AVal.ptr b 0], AVal.raw (Value.tuple #[]),
          AVal.raw (Value.tuple #[]), AVal.raw (Value.tuple #[]), AVal.raw (Value.tuple #[]),
          AVal.raw (Value.tuple #[]), AVal.raw (Value.tuple #[])] := ⟨_, rfl⟩
  rw [← hT]
  obtain ⟨I, hI⟩ : ∃ I : Nat → Heap → Prop, I = fun k B => (∀ j o, A.get j = some o → B.get j = some o) ∧ A.top + 2 ≤ B.top ∧ B.get (A.top + 1) = some (.loop false T #[7] a c) ∧
      ((k = 0 ∧ B.get A.top = some (.cells [.raw (.slice none 0 0)])) ∨ (0 < k ∧ ∃ o, B.get A.top = some (.cells [.sl o 0 k none 1]) ∧ A.top + 2 ≤ o ∧ o < B.top ∧ B.get o = some (.cells (cs.take k)))) := ⟨_, rfl⟩
  refine (j_values1 I _ _ b n s cs (by omega) ?_ ?_ ?_).mono ?_
  · rw [hI]
    refine ⟨fun j o h => ?_, by simp only [Heap.top_push]; omega, ?_, .inl ⟨rfl, ?_⟩⟩
    · have := hold j o h
      rw [Heap.get_push_ne _ _ (by rw [Heap.top_push]; omega), Heap.get_push_ne _ _ (by omega)]
      exact h
    · exact Heap.get_push _ _
    · rw [Heap.get_push_ne _ _ (by rw [Heap.top_push]; omega), Heap.get_push]
  · intro k B h
    rw [hI] at h
    exact ⟨h.1 _ _ hb, hrow.of_get h.1⟩
  · intro k B x hk h hx
    rw [hI] at h
    obtain ⟨h1, h2, h3, h4⟩ := h
    obtain ⟨kk, m, rfl⟩ := hone x (List.mem_of_getElem? hx)
    have hold' : ∀ j o, A.get j = some o → j ≠ A.top ∧ j ≠ A.top + 1 ∧ j ≠ B.top := fun j o h => by have := hold j o h; omega
    refine JR_of h3 rfl (by rw [ha]; rfl) (by rw [hc]; rfl) fun hltB => ?_
    rw [ha]
    have e1 : A.top ≠ B.top := by omega
    have e2 : A.top + 1 ≠ B.top := by omega
    rcases h4 with ⟨rfl, h4⟩ | ⟨hk0, o, h4, h5, h6, h7⟩
    · rw [hT]
      simp -implicitDefEqProofs -dsimp +decide only [go_sem, Int.reduceAdd, Int.reduceSub, Int.reduceMul, Int.reduceToNat, Nat.reduceMul, Nat.reduceAdd]
      refine ⟨T, h3, ?_⟩
      rw [hc]
      simp -implicitDefEqProofs -dsimp +decide only [go_sem, Int.reduceAdd, Int.reduceSub, Int.reduceMul, Int.reduceToNat, Nat.reduceMul, Nat.reduceAdd, h4, e1, e2]
      refine ⟨T, rfl, ?_⟩
      rw [hI]
      refine ⟨fun j o h => ?_, by simp only [Heap.top_set, Heap.top_push]; omega, Heap.get_set _ _ _, .inr ⟨by omega, B.top, ?_, h2, by simp only [Heap.top_set, Heap.top_push]; omega, ?_⟩⟩
      · obtain ⟨q1, q2, q3⟩ := hold' j o h
        simp only [Heap.get_set_if, Heap.get_push_if, Heap.top_set, q1, q2, q3, if_false]
        exact h1 j o h
      · simp only [Heap.get_set_if, Heap.get_push_if, Heap.top_set, e1, if_false, if_true, Nat.left_eq_add]
        rfl
      · simp only [Heap.get_set_if, Heap.get_push_if, Heap.top_set, Ne.symm e1, Ne.symm e2, if_false, if_true]
        have : cs.take (0 + 1) = [.raw (.int kk m)] := by
          rw [List.take_succ_eq_append_getElem (by omega)]
          rw [List.getElem?_eq_getElem (by omega)] at hx
          simp only [Option.some.injEq] at hx
          simp [hx]
        rw [this]
    · have hkl : (cs.take k).length = k := by rw [List.length_take]; omega
      have e3 : A.top ≠ o := by omega
      have e4 : A.top + 1 ≠ o := by omega
      have e5 : o ≠ A.top := by omega
      have e6 : o ≠ A.top + 1 := by omega
      have e7 : ¬ k * 1 < k := by omega
      have e8 : (cs.take k).take (k * 1) = cs.take k := by rw [Nat.mul_one, List.take_take, Nat.min_self]
      rw [hT]
      simp -implicitDefEqProofs -dsimp +decide only [go_sem, Int.reduceAdd, Int.reduceSub, Int.reduceMul, Int.reduceToNat, Nat.reduceMul, Nat.reduceAdd]
      refine ⟨T, h3, ?_⟩
      rw [hc]
      simp -implicitDefEqProofs -dsimp +decide only [go_sem, Int.reduceAdd, Int.reduceSub, Int.reduceMul, Int.reduceToNat, Nat.reduceMul, Nat.reduceAdd, h4, e1, e2, e3, e4, e5, e6, h7, hkl, e7, false_and]
      refine ⟨⟨by omega, by omega⟩, T, rfl, ?_⟩
      rw [hI]
      refine ⟨fun j o' h => ?_, by simp only [Heap.top_set, Heap.top_push, Heap.top_del]; omega, Heap.get_set _ _ _, .inr ⟨by omega, B.top, ?_, h2, by simp only [Heap.top_set, Heap.top_push, Heap.top_del]; omega, ?_⟩⟩
      · obtain ⟨q1, q2, q3⟩ := hold' j o' h
        have q4 : j ≠ o := fun e => by have := hold j o' h; omega
        simp only [Heap.get_set_if, Heap.get_push_if, Heap.get_del_if, Heap.top_set, Heap.top_del, q1, q2, q3, q4, if_false]
        exact h1 j o' h
      · simp only [Heap.get_set_if, Heap.get_push_if, Heap.get_del_if, Heap.top_set, Heap.top_del, e1, e3, if_false, if_true, Nat.left_eq_add]
        rfl
      · simp only [Heap.get_set_if, Heap.get_push_if, Heap.get_del_if, Heap.top_set, Heap.top_del, Ne.symm e1, Ne.symm e2, if_false, if_true]
        rw [e8, List.take_succ_eq_append_getElem (by omega)]
        rw [List.getElem?_eq_getElem (by omega)] at hx
        simp only [Option.some.injEq] at hx
        rw [hx]
  · intro v B h
    rw [hI] at h
    obtain ⟨h1, h2, h3, h4⟩ := h
    refine ⟨⟨_, h3⟩, ?_⟩
    rw [hT]
    rcases h4 with ⟨rfl, h4⟩ | ⟨hk0, o, h4, h5, h6, h7⟩
    · simp -implicitDefEqProofs -dsimp +decide only [go_sem, Int.reduceAdd, Int.reduceSub, Int.reduceMul, Int.reduceToNat, Nat.reduceMul, Nat.reduceAdd, h4]
      refine Wk.drop hlt (fun j o h => ?_) ⟨_, rfl, .inl ⟨rfl, rfl, rfl⟩⟩
      have := hold j o h
      rw [Heap.get_del_ne _ (by omega)]
      exact h1 j o h
    · simp -implicitDefEqProofs -dsimp +decide only [go_sem, Int.reduceAdd, Int.reduceSub, Int.reduceMul, Int.reduceToNat, Nat.reduceMul, Nat.reduceAdd, h4]
      rw [List.take_of_length_le (by omega)] at h7
      refine Wk.one hlt (fun j o h => ?_) (by rw [Heap.get_del_ne _ (by omega)]; exact h7) (by omega) (fun v hv => ?_) ⟨_, rfl, .inr ⟨hk0, rfl, rfl⟩⟩
      · have := hold j o h
        rw [Heap.get_del_ne _ (by omega)]
        exact h1 j o h
      · obtain ⟨k, x, rfl⟩ := hone v hv
        rfl

end Go.Ab
