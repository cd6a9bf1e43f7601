/- Contracts of functions of the program: what each call returns, on plain lists. -/
import Derived.Test.YtookmilggbnoiaaGreatT1T
import Derived.Test.YtookmilggbnoiaaGreatAbLib
set_option linter.unusedVariables false
set_option linter.unusedSimpArgs false
open Go.Proofs
namespace Go.Ab

/-- 'slices.Values': the rounds. -/
theorem j_values1 (I : Nat → Heap → Prop) (A : Heap) (i b n : Nat) (s : AVal) (cs : List AVal) (hn : n < 2 ^ 60) (h0 : I 0 A)
    (hs : ∀ k B, I k B → B.get b = some (.cells [s]) ∧ Row B 1 n cs s)
    (hr : ∀ k B c, k < n → I k B → cs[k]? = some c → JR Tryz.prog i [c] B fun v B' => v = .raw (.bool true) ∧ I (k + 1) B') :
    J Tryz.prog f_slices_Values___int_int__1 [.yield i, .ptr b 0] A fun _ B => I n B := by
  refine J_of' c_slices_Values___int_int__1 x_slices_Values___int_int__1.eq_1 fun hlt => ?_
  obtain ⟨hb, hrow⟩ := hs 0 A h0
  simp -implicitDefEqProofs -dsimp +decide only [go_sem, Int.reduceAdd, Int.reduceSub, Int.reduceMul, Int.reduceToNat, Nat.reduceMul, Nat.reduceAdd, hb]
  cases hrow with
  | nil hz hc =>
    subst hz
    simp -implicitDefEqProofs -dsimp +decide only [go_sem, Int.reduceAdd, Int.reduceSub, Int.reduceMul, Int.reduceToNat, Nat.reduceMul, Nat.reduceAdd]
    refine loop_st [0, 1, 5, 6, 7] (fun σ : Heap => I 0 σ) (fun _ => [.yield i, .ptr b 0, .any, .any, .any, .raw (.slice none 0 0), .raw (.int .i64 0), .raw (.int .i64 0)] ++ List.replicate 8 .any) (fun σ => σ) (fun _ => 0) A h0 rfl rfl ?_
    intro B hB
    simp -implicitDefEqProofs -dsimp +decide only [go_sem, Int.reduceAdd, Int.reduceSub, Int.reduceMul, Int.reduceToNat, Nat.reduceMul, Nat.reduceAdd]
    exact Wk.refl ⟨_, rfl, hB⟩
  | fsl cap hl =>
    simp -implicitDefEqProofs -dsimp +decide only [go_sem, Int.reduceAdd, Int.reduceSub, Int.reduceMul, Int.reduceToNat, Nat.reduceMul, Nat.reduceAdd]
    refine loop_st [0, 1, 5, 6, 7] (fun σ : Nat × Heap => σ.1 ≤ n ∧ I σ.1 σ.2) (fun σ => [.yield i, .ptr b 0, .any, .any, .any, .fsl cs n cap, .raw (.int .i64 n), .raw (.int .i64 σ.1)] ++ List.replicate 8 .any) (fun σ => σ.2) (fun σ => n - σ.1) (0, A) ⟨Nat.zero_le _, h0⟩ rfl rfl ?_
    rintro ⟨k, B⟩ ⟨hk, hB⟩
    simp only [] at hk hB
    simp -implicitDefEqProofs -dsimp +decide only [go_sem, Int.reduceAdd, Int.reduceSub, Int.reduceMul, Int.reduceToNat, Nat.reduceMul, Nat.reduceAdd]
    refine ⟨fun hlt' => ?_, fun hge => ?_⟩
    · have hkn : k < n := by omega
      obtain ⟨c, hc⟩ : ∃ c, cs[k]? = some c := ⟨cs[k], List.getElem?_eq_getElem (by omega)⟩
      have hd : (List.drop (Int.toNat (k : Int) * 1) cs)[0]? = some c := by simpa using hc
      simp -implicitDefEqProofs -dsimp +decide only [go_sem, Int.reduceAdd, Int.reduceSub, Int.reduceMul, Int.reduceToNat, Nat.reduceMul, Nat.reduceAdd, hd]
      refine ⟨⟨by omega, by omega, by rintro rfl; simp at hc⟩, JRS_of (hr k B c hkn hB hc) ?_⟩
      rintro v B' ⟨rfl, hB'⟩
      simp -implicitDefEqProofs -dsimp +decide only [go_sem, Int.reduceAdd, Int.reduceSub, Int.reduceMul, Int.reduceToNat, Nat.reduceMul, Nat.reduceAdd]
      rw [wrap64 (by omega) (by omega)]
      exact NextS.to (k + 1, B') ⟨by omega, hB'⟩ (by show n - (k + 1) < n - k; omega) rfl rfl
    · have : k = n := by omega
      subst this
      exact Wk.refl ⟨_, rfl, hB⟩
  | sl j off cap vs ho hl hc =>
    simp -implicitDefEqProofs -dsimp +decide only [go_sem, Int.reduceAdd, Int.reduceSub, Int.reduceMul, Int.reduceToNat, Nat.reduceMul, Nat.reduceAdd]
    refine loop_st [0, 1, 5, 6, 7] (fun σ : Nat × Heap => σ.1 ≤ n ∧ I σ.1 σ.2) (fun σ => [.yield i, .ptr b 0, .any, .any, .any, .sl j off n cap 1, .raw (.int .i64 n), .raw (.int .i64 σ.1)] ++ List.replicate 8 .any) (fun σ => σ.2) (fun σ => n - σ.1) (0, A) ⟨Nat.zero_le _, h0⟩ rfl rfl ?_
    rintro ⟨k, B⟩ ⟨hk, hB⟩
    simp only [] at hk hB
    simp -implicitDefEqProofs -dsimp +decide only [go_sem, Int.reduceAdd, Int.reduceSub, Int.reduceMul, Int.reduceToNat, Nat.reduceMul, Nat.reduceAdd]
    refine ⟨fun hlt' => ?_, fun hge => ?_⟩
    · have hkn : k < n := by omega
      have hlen : cs.length = n := by rw [hc]; simp; omega
      obtain ⟨c, hcc⟩ : ∃ c, cs[k]? = some c := ⟨cs[k], List.getElem?_eq_getElem (by omega)⟩
      obtain ⟨hb', hrow'⟩ := hs k B hB
      cases hrow' with
      | sl _ _ _ vs' ho' hl' hc' =>
        have hd : vs'[off + Int.toNat (k : Int) * 1]? = some c := by
          rw [hc', List.getElem?_take, if_pos (by omega), List.getElem?_drop] at hcc
          simpa using hcc
        simp -implicitDefEqProofs -dsimp +decide only [go_sem, Int.reduceAdd, Int.reduceSub, Int.reduceMul, Int.reduceToNat, Nat.reduceMul, Nat.reduceAdd, ho', hd]
        refine ⟨⟨by omega, by omega⟩, JRS_of (hr k B c hkn hB hcc) ?_⟩
        rintro v B' ⟨rfl, hB'⟩
        simp -implicitDefEqProofs -dsimp +decide only [go_sem, Int.reduceAdd, Int.reduceSub, Int.reduceMul, Int.reduceToNat, Nat.reduceMul, Nat.reduceAdd]
        rw [wrap64 (by omega) (by omega)]
        exact NextS.to (k + 1, B') ⟨by omega, hB'⟩ (by show n - (k + 1) < n - k; omega) rfl rfl
    · have : k = n := by omega
      subst this
      exact Wk.refl ⟨_, rfl, hB⟩

end Go.Ab
