/- Contracts of functions of the program: what each call returns, on plain lists. -/
import Derived.Test.YtookmilggbnoiaaGreatC3
set_option linter.unusedVariables false
set_option linter.unusedSimpArgs false
open Go.Proofs
namespace Go.Ab

theorem j_containsFuncI (A : Heap) (l : List Int) (s : AVal) (hl : l.length < 2 ^ 40) (hs : ISl l s) (g : Nat) (cap : List AVal) (p : Int → Bool)
    (hg : ∀ n ∈ l, J Tryz.prog g ([.raw (.int .i64 n)] ++ cap) A fun v B => v = .raw (.bool (p n)) ∧ B = A) :
    J Tryz.prog f_slices_ContainsFunc___int_int_ [s, .func (.func g) [] cap] A fun v B => v = .raw (.bool (l.any p)) ∧ B = A := by
  refine J_of' c_slices_ContainsFunc___int_int_ x_slices_ContainsFunc___int_int_.eq_1 fun hlt => ?_
  simp -implicitDefEqProofs -dsimp +decide only [go_sem, Int.reduceAdd, Int.reduceSub, Int.reduceMul, Int.reduceToNat, Nat.reduceMul, Nat.reduceAdd]
  refine JS_of (j_indexFuncI A l s hl hs g cap p hg) ?_
  rintro v B ⟨rfl, rfl⟩
  simp -implicitDefEqProofs -dsimp +decide only [go_sem, Int.reduceAdd, Int.reduceSub, Int.reduceMul, Int.reduceToNat, Nat.reduceMul, Nat.reduceAdd]
  refine Wk.refl ⟨_, rfl, ?_, rfl⟩
  congr 2
  unfold idxF
  cases h : l.findIdx? p with
  | none =>
    have h' := List.findIdx?_eq_none_iff.1 h
    simp only [Int.not_le, Int.reduceNeg, Int.reduceLE, decide_false]
    symm
    rw [List.any_eq_false]
    intro x hx
    simp [h' x hx]
  | some i =>
    have h' := List.findIdx?_eq_some_iff_getElem.1 h
    obtain ⟨h1, h2, _⟩ := h'
    simp only [Int.natCast_nonneg, decide_true]
    symm
    rw [List.any_eq_true]
    exact ⟨l[i], List.getElem_mem h1, h2⟩

def vright (v : List Int) : Bool := !(v.any fun n => decide (n < 0) || decide (256 < n))

theorem j_right1 (A : Heap) (n : Int) : J Tryz.prog f_vigil_delta_right_1 [.raw (.int .i64 n)] A fun v B => v = .raw (.bool (decide (n < 0) || decide (256 < n))) ∧ B = A := by
  refine J_of' c_vigil_delta_right_1 x_vigil_delta_right_1.eq_1 fun hlt => ?_
  by_cases h0 : n < 0
  · simp -implicitDefEqProofs -dsimp +decide only [go_sem, Int.reduceAdd, Int.reduceSub, Int.reduceMul, Int.reduceToNat, Nat.reduceMul, Nat.reduceAdd, h0]
    exact Wk.refl ⟨_, rfl, by simp only [h0, decide_true, Bool.true_or], rfl⟩
  · simp -implicitDefEqProofs -dsimp +decide only [go_sem, Int.reduceAdd, Int.reduceSub, Int.reduceMul, Int.reduceToNat, Nat.reduceMul, Nat.reduceAdd, h0]
    exact Wk.refl ⟨_, rfl, by simp only [h0, decide_false, Bool.false_or], rfl⟩

theorem ISls.four {a b c d : List Int} {S : List AVal} (h : ISls [a, b, c, d] S) : ∃ x y z w, S = [x, y, z, w] ∧ ISl a x ∧ ISl b y ∧ ISl c z ∧ ISl d w := by
  cases h with
  | cons h0 h => cases h with
    | cons h1 h => cases h with
      | cons h2 h => cases h with
        | cons h3 h => cases h with
          | nil => exact ⟨_, _, _, _, rfl, h0, h1, h2, h3⟩

theorem j_right (A : Heap) (v : List Int) (h4 : v.length = 4) : J Tryz.prog f_vigil_delta_right [.agg (ints v)] A fun u B => u = .raw (.bool (vright v)) ∧ B = A := by
  refine J_of' c_vigil_delta_right x_vigil_delta_right.eq_1 fun hlt => ?_
  have hlt' : ∀ i, (A.push (.cells (ints v))).live i → i < (A.push (.cells (ints v))).top := fun i hi => by
    rw [Heap.top_push]
    by_cases h : i = A.top
    · omega
    · have := hlt i (by simpa [Heap.live, Heap.get_push_ne _ _ h] using hi)
      omega
  simp -implicitDefEqProofs -dsimp +decide only [go_sem, Int.reduceAdd, Int.reduceSub, Int.reduceMul, Int.reduceToNat, Nat.reduceMul, Nat.reduceAdd]
  refine ⟨by rw [ints_length]; omega, JS_of (J_ice (Heap.get_push _ _) hlt' (j_containsFuncI _ v _ (by omega) ?_ _ [] _ fun n _ => j_right1 _ n)) ?_⟩
  · have := ISl.fsl (l := v) (some 4)
    rw [h4] at this
    simpa [AVal.ice] using this
  rintro u B ⟨rfl, rfl⟩
  simp -implicitDefEqProofs -dsimp +decide only [go_sem, Int.reduceAdd, Int.reduceSub, Int.reduceMul, Int.reduceToNat, Nat.reduceMul, Nat.reduceAdd]
  refine Wk.old hlt ⟨by rw [Heap.top_del, Heap.top_push]; omega, fun j hj => by rw [Heap.get_del_ne _ (by omega), Heap.get_push_ne _ _ (by omega)]⟩ ⟨_, rfl, rfl, rfl⟩

theorem j_size (A : Heap) (fr : List AVal) (h4 : fr.length = 4) (L : List (List Int)) (S : List AVal) (hL : L.length = 4) (hS : ISls L S) (hsm : ∀ l ∈ L, l.length < 2 ^ 40) : J Tryz.prog f_vigil_delta_Size [.agg (fr ++ S)] A fun u B => u = .raw (.int .i64 (16 + 2 * ((L.map List.length).sum : Nat))) ∧ B = A := by
  refine J_of' c_vigil_delta_Size x_vigil_delta_Size.eq_1 fun hlt => ?_
  obtain ⟨a, b, c, d, rfl⟩ := four_of h4
  obtain ⟨x, y, z, w, rfl⟩ := four_of hL
  obtain ⟨s0, s1, s2, s3, rfl, h0, h1, h2, h3⟩ := hS.four
  have l0 := hsm x (by simp)
  have l1 := hsm y (by simp)
  have l2 := hsm z (by simp)
  have l3 := hsm w (by simp)
  simp -implicitDefEqProofs -dsimp +decide only [go_sem, Int.reduceAdd, Int.reduceSub, Int.reduceMul, Int.reduceToNat, Nat.reduceMul, Nat.reduceAdd]
  refine loop_roll ?_
  simp -implicitDefEqProofs -dsimp +decide only [go_sem, Int.reduceAdd, Int.reduceSub, Int.reduceMul, Int.reduceToNat, Nat.reduceMul, Nat.reduceAdd, slK_len h0]
  refine loop_roll ?_
  simp -implicitDefEqProofs -dsimp +decide only [go_sem, Int.reduceAdd, Int.reduceSub, Int.reduceMul, Int.reduceToNat, Nat.reduceMul, Nat.reduceAdd, slK_len h1]
  refine loop_roll ?_
  simp -implicitDefEqProofs -dsimp +decide only [go_sem, Int.reduceAdd, Int.reduceSub, Int.reduceMul, Int.reduceToNat, Nat.reduceMul, Nat.reduceAdd, slK_len h2]
  refine loop_roll ?_
  simp -implicitDefEqProofs -dsimp +decide only [go_sem, Int.reduceAdd, Int.reduceSub, Int.reduceMul, Int.reduceToNat, Nat.reduceMul, Nat.reduceAdd, slK_len h3]
  refine loop_roll ?_
  simp -implicitDefEqProofs -dsimp +decide only [go_sem, Int.reduceAdd, Int.reduceSub, Int.reduceMul, Int.reduceToNat, Nat.reduceMul, Nat.reduceAdd]
  refine Wk.old hlt (by (repeat' (first | exact Old.refl _ | refine Old.push ?_ | refine Old.set ?_ ?_ | refine Old.del ?_ ?_)) <;> (try simp only [Heap.top_push, Heap.top_set, Heap.top_del]) <;> omega) ⟨_, rfl, ?_, rfl⟩
  simp only [List.map_cons, List.map_nil, List.sum_cons, List.sum_nil]
  rw [wrap64 (n := 2 * (x.length : Int)) (by omega) (by omega), wrap64 (n := 2 * (y.length : Int)) (by omega) (by omega), wrap64 (n := 2 * (z.length : Int)) (by omega) (by omega), wrap64 (n := 2 * (w.length : Int)) (by omega) (by omega)]
  rw [wrap64 (n := 16 + 2 * (x.length : Int)) (by omega) (by omega)]
  rw [wrap64 (n := 16 + 2 * (x.length : Int) + 2 * y.length) (by omega) (by omega)]
  rw [wrap64 (n := 16 + 2 * (x.length : Int) + 2 * y.length + 2 * z.length) (by omega) (by omega)]
  rw [wrap64 (n := 16 + 2 * (x.length : Int) + 2 * y.length + 2 * z.length + 2 * w.length) (by omega) (by omega)]
  show AVal.raw _ = _
  congr 2
  omega

/-- The logs from versions on. -/
def dropL (L : List (List Int)) (v : List Int) : List (List Int) := List.zipWith (fun l n => l.drop n.toNat) L v

theorem ISl.ren {l : List Int} {v : AVal} (h : ISl l v) (f : Nat → Fate) : v.ren f = v := by
  cases h with
  | nil h => rfl
  | fsl cap => simp only [AVal.ren, ren_flat f ints_flat]

theorem j_since (A : Heap) (si : Nat) (L : List (List Int)) (v : List Int) (hL : SetAt A si L) (h4 : v.length = 4) (hv : ∀ (i : Nat) n, v[i]? = some n → 0 ≤ n ∧ n ≤ (L.getD i []).length) : J Tryz.prog f___vigil_revoke_Set__Since [.ptr si 0, .agg (ints v)] A fun u B => (∃ S, u = .tup [.agg (ints v ++ S), .raw (.int .i64 0)] ∧ ISls (dropL L v) S) ∧ B = A := by
  refine J_of' c___vigil_revoke_Set__Since x___vigil_revoke_Set__Since.eq_1 fun hlt => ?_
  obtain ⟨a, b, c, d, rfl⟩ := four_of h4
  have hi : ∀ a b c d, ints [a, b, c, d] = [.raw (.int .i64 a), .raw (.int .i64 b), .raw (.int .i64 c), .raw (.int .i64 d)] := fun _ _ _ _ => rfl
  obtain ⟨p0, q0⟩ := hv 0 a rfl
  obtain ⟨p1, q1⟩ := hv 1 b rfl
  obtain ⟨p2, q2⟩ := hv 2 c rfl
  obtain ⟨p3, q3⟩ := hv 3 d rfl
  have hsi := hL.lt hlt
  have e1 : si ≠ A.top := by omega
  have e2 : si ≠ A.top + 1 := by omega
  have e3 : si ≠ A.top + 2 := by omega
  simp -implicitDefEqProofs -dsimp +decide only [go_sem, Int.reduceAdd, Int.reduceSub, Int.reduceMul, Int.reduceToNat, Nat.reduceMul, Nat.reduceAdd, hi]
  refine loop_roll ?_
  simp -implicitDefEqProofs -dsimp +decide only [go_sem, Int.reduceAdd, Int.reduceSub, Int.reduceMul, Int.reduceToNat, Nat.reduceMul, Nat.reduceAdd]
  refine JS_of (j_log _ si L _ (hL.of_get ?_)) ?_
  · simp only [Heap.get_push_if, Heap.get_set_if, Heap.top_push, Heap.top_set, e1, e2, e3, if_false]
  rintro v0 B ⟨hv0, rfl⟩
  have hlo0 : logOf L 0 = L.getD 0 [] := rfl
  rw [hlo0] at hv0
  simp -implicitDefEqProofs -dsimp +decide only [go_sem, Int.reduceAdd, Int.reduceSub, Int.reduceMul, Int.reduceToNat, Nat.reduceMul, Nat.reduceAdd, slK_len hv0, Int.not_lt.2 p0]
  refine ⟨fun h => absurd h (by omega), fun _ => ask_cutI rfl rfl rfl rfl hv0 p0 q0 (Int.le_refl _) (Int.le_refl _) ?_⟩
  intro w0 hw0
  have hc0 := hw0.cells
  simp -implicitDefEqProofs -dsimp +decide only [go_sem, Int.reduceAdd, Int.reduceSub, Int.reduceMul, Int.reduceToNat, Nat.reduceMul, Nat.reduceAdd, hc0]
  refine loop_roll ?_
  simp -implicitDefEqProofs -dsimp +decide only [go_sem, Int.reduceAdd, Int.reduceSub, Int.reduceMul, Int.reduceToNat, Nat.reduceMul, Nat.reduceAdd]
  refine JS_of (j_log _ si L _ (hL.of_get ?_)) ?_
  · simp only [Heap.get_push_if, Heap.get_set_if, Heap.top_push, Heap.top_set, e1, e2, e3, if_false]
  rintro v1 B ⟨hv1, rfl⟩
  have hlo1 : logOf L 1 = L.getD 1 [] := rfl
  rw [hlo1] at hv1
  simp -implicitDefEqProofs -dsimp +decide only [go_sem, Int.reduceAdd, Int.reduceSub, Int.reduceMul, Int.reduceToNat, Nat.reduceMul, Nat.reduceAdd, slK_len hv1, Int.not_lt.2 p1]
  refine ⟨fun h => absurd h (by omega), fun _ => ask_cutI rfl rfl rfl rfl hv1 p1 q1 (Int.le_refl _) (Int.le_refl _) ?_⟩
  intro w1 hw1
  have hc1 := hw1.cells
  simp -implicitDefEqProofs -dsimp +decide only [go_sem, Int.reduceAdd, Int.reduceSub, Int.reduceMul, Int.reduceToNat, Nat.reduceMul, Nat.reduceAdd, hc1]
  refine loop_roll ?_
  simp -implicitDefEqProofs -dsimp +decide only [go_sem, Int.reduceAdd, Int.reduceSub, Int.reduceMul, Int.reduceToNat, Nat.reduceMul, Nat.reduceAdd]
  refine JS_of (j_log _ si L _ (hL.of_get ?_)) ?_
  · simp only [Heap.get_push_if, Heap.get_set_if, Heap.top_push, Heap.top_set, e1, e2, e3, if_false]
  rintro v2 B ⟨hv2, rfl⟩
  have hlo2 : logOf L 2 = L.getD 2 [] := rfl
  rw [hlo2] at hv2
  simp -implicitDefEqProofs -dsimp +decide only [go_sem, Int.reduceAdd, Int.reduceSub, Int.reduceMul, Int.reduceToNat, Nat.reduceMul, Nat.reduceAdd, slK_len hv2, Int.not_lt.2 p2]
  refine ⟨fun h => absurd h (by omega), fun _ => ask_cutI rfl rfl rfl rfl hv2 p2 q2 (Int.le_refl _) (Int.le_refl _) ?_⟩
  intro w2 hw2
  have hc2 := hw2.cells
  simp -implicitDefEqProofs -dsimp +decide only [go_sem, Int.reduceAdd, Int.reduceSub, Int.reduceMul, Int.reduceToNat, Nat.reduceMul, Nat.reduceAdd, hc2]
  refine loop_roll ?_
  simp -implicitDefEqProofs -dsimp +decide only [go_sem, Int.reduceAdd, Int.reduceSub, Int.reduceMul, Int.reduceToNat, Nat.reduceMul, Nat.reduceAdd]
  refine JS_of (j_log _ si L _ (hL.of_get ?_)) ?_
  · simp only [Heap.get_push_if, Heap.get_set_if, Heap.top_push, Heap.top_set, e1, e2, e3, if_false]
  rintro v3 B ⟨hv3, rfl⟩
  have hlo3 : logOf L 3 = L.getD 3 [] := rfl
  rw [hlo3] at hv3
  simp -implicitDefEqProofs -dsimp +decide only [go_sem, Int.reduceAdd, Int.reduceSub, Int.reduceMul, Int.reduceToNat, Nat.reduceMul, Nat.reduceAdd, slK_len hv3, Int.not_lt.2 p3]
  refine ⟨fun h => absurd h (by omega), fun _ => ask_cutI rfl rfl rfl rfl hv3 p3 q3 (Int.le_refl _) (Int.le_refl _) ?_⟩
  intro w3 hw3
  have hc3 := hw3.cells
  simp -implicitDefEqProofs -dsimp +decide only [go_sem, Int.reduceAdd, Int.reduceSub, Int.reduceMul, Int.reduceToNat, Nat.reduceMul, Nat.reduceAdd, hc3]
  refine loop_roll ?_
  simp -implicitDefEqProofs -dsimp +decide only [go_sem, Int.reduceAdd, Int.reduceSub, Int.reduceMul, Int.reduceToNat, Nat.reduceMul, Nat.reduceAdd]
  refine Wk.old hlt (by (repeat' (first | exact Old.refl _ | refine Old.push ?_ | refine Old.set ?_ ?_ | refine Old.del ?_ ?_)) <;> (try simp only [Heap.top_push, Heap.top_set, Heap.top_del]) <;> omega) ⟨_, rfl, ⟨[w0, w1, w2, w3], ?_, ?_⟩, rfl⟩
  · simp only [AVal.ren, renL, hw0.ren, hw1.ren, hw2.ren, hw3.ren]
    rfl
  · have hf := hL.four
    obtain ⟨x, y, z, w, rfl⟩ := four_of hf
    have e : ∀ {l : List Int} {n : Int}, 0 ≤ n → n ≤ (l.length : Int) → (l.drop n.toNat).take ((l.length : Int) - n).toNat = l.drop n.toNat := fun h0 h1 => List.take_of_length_le (by rw [List.length_drop]; omega)
    rw [e p0 q0] at hw0
    rw [e p1 q1] at hw1
    rw [e p2 q2] at hw2
    rw [e p3 q3] at hw3
    exact .cons hw0 (.cons hw1 (.cons hw2 (.cons hw3 .nil)))

theorem j_backward (A : Heap) (i off len : Nat) (cap : Option Nat) (e : Nat) : J Tryz.prog f_slices_Backward_____int___int_ [.sl i off len cap e] A fun v B => v = .func (.func f_slices_Backward_____int___int__1) [] [.ptr A.top 0] ∧ B = A.push (.cells [.sl i off len cap e]) := by
  refine J_of' c_slices_Backward_____int___int_ x_slices_Backward_____int___int_.eq_1 fun hlt => ?_
  simp -implicitDefEqProofs -dsimp +decide only [go_sem, Int.reduceAdd, Int.reduceSub, Int.reduceMul, Int.reduceToNat, Nat.reduceMul, Nat.reduceAdd]
  exact Wk.refl (G := fun us A' => ∃ u, us = [u] ∧ u = _ ∧ A' = _) ⟨_, rfl, rfl, rfl⟩

/-- 'slices.Backward': the rounds. -/
theorem j_backward1 (I : Nat → Heap → Prop) (A : Heap) (i b o n : Nat) (off : Nat) (cap : Option Nat) (hn : n < 2 ^ 60) (h0 : I 0 A)
    (hs : ∀ k B, I k B → B.get b = some (.cells [.sl o off n cap 1]) ∧ ∃ vs, B.get o = some (.cells vs) ∧ off + n ≤ vs.length)
    (hr : ∀ k B vs c, k < n → I k B → B.get o = some (.cells vs) → vs[off + (n - 1 - k)]? = some c → JR Tryz.prog i [.raw (.int .i64 ((n : Int) - 1 - k)), c] B fun v B' => v = .raw (.bool true) ∧ I (k + 1) B') :
    J Tryz.prog f_slices_Backward_____int___int__1 [.yield i, .ptr b 0] A fun _ B => I n B := by
  refine J_of' c_slices_Backward_____int___int__1 x_slices_Backward_____int___int__1.eq_1 fun hlt => ?_
  obtain ⟨hb, _⟩ := hs 0 A h0
  simp -implicitDefEqProofs -dsimp +decide only [go_sem, Int.reduceAdd, Int.reduceSub, Int.reduceMul, Int.reduceToNat, Nat.reduceMul, Nat.reduceAdd, hb]
  refine loop_st [0, 1, 3] (fun σ : Nat × Heap => σ.1 ≤ n ∧ I σ.1 σ.2) (fun σ => [.yield i, .ptr b 0, .any, .raw (.int .i64 ((n : Int) - 1 - σ.1))] ++ List.replicate 15 .any) (fun σ => σ.2) (fun σ => n - σ.1) (0, A) ⟨Nat.zero_le _, h0⟩ ?_ rfl ?_
  · rw [wrap64s (by omega) (by omega)]
    simp only [Int.natCast_zero, Int.sub_zero]
    rfl
  rintro ⟨k, B⟩ ⟨hk, hB⟩
  simp only [] at hk hB
  obtain ⟨g1, vs, g2, g3⟩ := hs k B hB
  simp -implicitDefEqProofs -dsimp +decide only [go_sem, Int.reduceAdd, Int.reduceSub, Int.reduceMul, Int.reduceToNat, Nat.reduceMul, Nat.reduceAdd, g1]
  refine ⟨fun hge => ?_, fun hlt' => ?_⟩
  · have hkn : k < n := by omega
    obtain ⟨c, hc⟩ : ∃ c, vs[off + (n - 1 - k)]? = some c := ⟨vs[off + (n - 1 - k)], List.getElem?_eq_getElem (by omega)⟩
    have hd : vs[off + Int.toNat ((n : Int) - 1 - k) * 1]? = some c := by rw [← hc]; congr 1; omega
    simp -implicitDefEqProofs -dsimp +decide only [go_sem, Int.reduceAdd, Int.reduceSub, Int.reduceMul, Int.reduceToNat, Nat.reduceMul, Nat.reduceAdd, g1, g2, hd]
    refine ⟨⟨by omega, by omega⟩, JRS_of (hr k B vs c hkn hB g2 hc) ?_⟩
    rintro v B' ⟨rfl, hB'⟩
    simp -implicitDefEqProofs -dsimp +decide only [go_sem, Int.reduceAdd, Int.reduceSub, Int.reduceMul, Int.reduceToNat, Nat.reduceMul, Nat.reduceAdd]
    rw [wrap64s (by omega) (by omega)]
    refine NextS.to (k + 1, B') ⟨by omega, hB'⟩ (by show n - (k + 1) < n - k; omega) ?_ rfl
    have e : (n : Int) - 1 - k - 1 = n - 1 - (k + 1 : Nat) := by omega
    rw [e]
    rfl
  · have : k = n := by omega
    subst this
    exact Wk.refl ⟨_, rfl, hB⟩

end Go.Ab
