/- Contracts of functions of the program: what each call returns, on plain lists. -/
import Derived.Test.YtookmilggbnoiaaGreatC8
set_option linter.unusedVariables false
set_option linter.unusedSimpArgs false
open Go.Proofs
namespace Go.Ab

theorem j_check_nil (A : Heap) (a b : Int) : J Tryz.prog f___vigil_fresh_Fresh__check [.raw (.pointer none), .raw (.int .i64 a), .raw (.int .i64 b)] A fun v B => v = .raw (.int .i64 11) ∧ B = A := by
  refine J_of' c___vigil_fresh_Fresh__check x___vigil_fresh_Fresh__check.eq_1 fun hlt => ?_
  simp -implicitDefEqProofs -dsimp +decide only [go_sem, Int.reduceAdd, Int.reduceSub, Int.reduceMul, Int.reduceToNat, Nat.reduceMul, Nat.reduceAdd]
  exact Wk.refl ⟨_, rfl, rfl, rfl⟩

theorem j_ask_nil (A : Heap) (a b : Int) (c : List AVal) : J Tryz.prog f___vigil_fresh_Fresh__Ask [.raw (.pointer none), .raw (.int .i64 a), .raw (.int .i64 b), .agg c] A fun v B => v = .tup [.raw (.slice none 0 0), .raw (.int .i64 11)] ∧ B = A := by
  refine J_of' c___vigil_fresh_Fresh__Ask x___vigil_fresh_Fresh__Ask.eq_1 fun hlt => ?_
  simp -implicitDefEqProofs -dsimp +decide only [go_sem, Int.reduceAdd, Int.reduceSub, Int.reduceMul, Int.reduceToNat, Nat.reduceMul, Nat.reduceAdd]
  refine JS_of (j_check_nil _ _ _) ?_
  rintro v B ⟨rfl, rfl⟩
  simp -implicitDefEqProofs -dsimp +decide only [go_sem, Int.reduceAdd, Int.reduceSub, Int.reduceMul, Int.reduceToNat, Nat.reduceMul, Nat.reduceAdd]
  exact Wk.old hlt (by (repeat' (first | exact Old.refl _ | refine Old.push ?_ | refine Old.set ?_ ?_ | refine Old.del ?_ ?_)) <;> (try simp only [Heap.top_push, Heap.top_set, Heap.top_del]) <;> omega) ⟨_, rfl, rfl, rfl⟩

theorem j_take_nil (A : Heap) (a b : Int) (c : AVal) : J Tryz.prog f___vigil_fresh_Fresh__Take [.raw (.pointer none), .raw (.int .i64 a), .raw (.int .i64 b), c] A fun v B => v = .tup [.raw (.bool false), .raw (.int .i64 11)] ∧ B = A := by
  refine J_of' c___vigil_fresh_Fresh__Take x___vigil_fresh_Fresh__Take.eq_1 fun hlt => ?_
  simp -implicitDefEqProofs -dsimp +decide only [go_sem, Int.reduceAdd, Int.reduceSub, Int.reduceMul, Int.reduceToNat, Nat.reduceMul, Nat.reduceAdd]
  refine JS_of (j_check_nil _ _ _) ?_
  rintro v B ⟨rfl, rfl⟩
  simp -implicitDefEqProofs -dsimp +decide only [go_sem, Int.reduceAdd, Int.reduceSub, Int.reduceMul, Int.reduceToNat, Nat.reduceMul, Nat.reduceAdd]
  exact Wk.refl ⟨_, rfl, rfl, rfl⟩

theorem j_since_nil (A : Heap) : J Tryz.prog f___vigil_fresh_Fresh__Since [.raw (.pointer none)] A fun v B => v = .tup [.raw (.int .i64 0), .raw (.bool false)] ∧ B = A := by
  refine J_of' c___vigil_fresh_Fresh__Since x___vigil_fresh_Fresh__Since.eq_1 fun hlt => ?_
  simp -implicitDefEqProofs -dsimp +decide only [go_sem, Int.reduceAdd, Int.reduceSub, Int.reduceMul, Int.reduceToNat, Nat.reduceMul, Nat.reduceAdd]
  exact Wk.refl ⟨_, rfl, rfl, rfl⟩

theorem j_is_nil (A : Heap) (a b : Int) : J Tryz.prog f___vigil_fresh_Fresh__Is [.raw (.pointer none), .raw (.int .i64 a), .raw (.int .i64 b)] A fun v B => v = .raw (.bool false) ∧ B = A := by
  refine J_of' c___vigil_fresh_Fresh__Is x___vigil_fresh_Fresh__Is.eq_1 fun hlt => ?_
  simp -implicitDefEqProofs -dsimp +decide only [go_sem, Int.reduceAdd, Int.reduceSub, Int.reduceMul, Int.reduceToNat, Nat.reduceMul, Nat.reduceAdd]
  refine JS_of (j_since_nil _) ?_
  rintro v B ⟨rfl, rfl⟩
  simp -implicitDefEqProofs -dsimp +decide only [go_sem, Int.reduceAdd, Int.reduceSub, Int.reduceMul, Int.reduceToNat, Nat.reduceMul, Nat.reduceAdd]
  exact Wk.refl ⟨_, rfl, rfl, rfl⟩

theorem j_set_nil (A : Heap) : J Tryz.prog f___vigil_fresh_Fresh__Set [.raw (.pointer none)] A fun v B => v = .raw (.pointer none) ∧ B = A := by
  refine J_of' c___vigil_fresh_Fresh__Set x___vigil_fresh_Fresh__Set.eq_1 fun hlt => ?_
  simp -implicitDefEqProofs -dsimp +decide only [go_sem, Int.reduceAdd, Int.reduceSub, Int.reduceMul, Int.reduceToNat, Nat.reduceMul, Nat.reduceAdd]
  exact Wk.refl ⟨_, rfl, rfl, rfl⟩

theorem j_open_nil (A : Heap) (a : Int) : J Tryz.prog f___vigil_fresh_Fresh__Open [.raw (.pointer none), .raw (.int .i64 a)] A fun v B => v = .raw (.int .i64 0) ∧ B = A := by
  refine J_of' c___vigil_fresh_Fresh__Open x___vigil_fresh_Fresh__Open.eq_1 fun hlt => ?_
  simp -implicitDefEqProofs -dsimp +decide only [go_sem, Int.reduceAdd, Int.reduceSub, Int.reduceMul, Int.reduceToNat, Nat.reduceMul, Nat.reduceAdd]
  exact Wk.refl ⟨_, rfl, rfl, rfl⟩

theorem j_attest_nil (A : Heap) (b : AVal) (a : Int) : J Tryz.prog f_vigil_fresh_Attest [.raw (.pointer none), b, .raw (.int .i64 a)] A fun v B => v = .tup [.raw (.slice none 0 0), .raw (.int .i64 11)] ∧ B = A := by
  refine J_of' c_vigil_fresh_Attest x_vigil_fresh_Attest.eq_1 fun hlt => ?_
  simp -implicitDefEqProofs -dsimp +decide only [go_sem, Int.reduceAdd, Int.reduceSub, Int.reduceMul, Int.reduceToNat, Nat.reduceMul, Nat.reduceAdd]
  exact Wk.refl ⟨_, rfl, rfl, rfl⟩

theorem j_FreshNil (A : Heap) (a b : Int) (c : AVal) : J Tryz.prog f_vigillaw17_FreshNil [.raw (.int .i64 a), .raw (.int .i64 b), c] A fun v B => v = .raw (.bool true) ∧ B = A := by
  refine J_of' c_vigillaw17_FreshNil x_vigillaw17_FreshNil.eq_1 fun hlt => ?_
  simp -implicitDefEqProofs -dsimp +decide only [go_sem, Int.reduceAdd, Int.reduceSub, Int.reduceMul, Int.reduceToNat, Nat.reduceMul, Nat.reduceAdd]
  refine JS_of (j_ask_nil _ _ _ _) ?_
  rintro v B ⟨rfl, rfl⟩
  simp -implicitDefEqProofs -dsimp +decide only [go_sem, Int.reduceAdd, Int.reduceSub, Int.reduceMul, Int.reduceToNat, Nat.reduceMul, Nat.reduceAdd]
  refine JS_of (j_take_nil _ _ _ _) ?_
  rintro v B ⟨rfl, rfl⟩
  simp -implicitDefEqProofs -dsimp +decide only [go_sem, Int.reduceAdd, Int.reduceSub, Int.reduceMul, Int.reduceToNat, Nat.reduceMul, Nat.reduceAdd]
  refine JS_of (j_since_nil _) ?_
  rintro v B ⟨rfl, rfl⟩
  simp -implicitDefEqProofs -dsimp +decide only [go_sem, Int.reduceAdd, Int.reduceSub, Int.reduceMul, Int.reduceToNat, Nat.reduceMul, Nat.reduceAdd]
  refine JS_of (j_attest_nil _ _ _) ?_
  rintro v B ⟨rfl, rfl⟩
  simp -implicitDefEqProofs -dsimp +decide only [go_sem, Int.reduceAdd, Int.reduceSub, Int.reduceMul, Int.reduceToNat, Nat.reduceMul, Nat.reduceAdd]
  refine JS_of (j_known _) ?_
  rintro v B ⟨rfl, rfl⟩
  simp -implicitDefEqProofs -dsimp +decide only [go_sem, Int.reduceAdd, Int.reduceSub, Int.reduceMul, Int.reduceToNat, Nat.reduceMul, Nat.reduceAdd]
  refine JS_of (j_is_nil _ _ _) ?_
  rintro v B ⟨rfl, rfl⟩
  simp -implicitDefEqProofs -dsimp +decide only [go_sem, Int.reduceAdd, Int.reduceSub, Int.reduceMul, Int.reduceToNat, Nat.reduceMul, Nat.reduceAdd]
  refine JS_of (j_set_nil _) ?_
  rintro v B ⟨rfl, rfl⟩
  simp -implicitDefEqProofs -dsimp +decide only [go_sem, Int.reduceAdd, Int.reduceSub, Int.reduceMul, Int.reduceToNat, Nat.reduceMul, Nat.reduceAdd]
  refine JS_of (j_open_nil _ _) ?_
  rintro v B ⟨rfl, rfl⟩
  simp -implicitDefEqProofs -dsimp +decide only [go_sem, Int.reduceAdd, Int.reduceSub, Int.reduceMul, Int.reduceToNat, Nat.reduceMul, Nat.reduceAdd]
  exact Wk.refl ⟨_, rfl, rfl, rfl⟩

end Go.Ab
