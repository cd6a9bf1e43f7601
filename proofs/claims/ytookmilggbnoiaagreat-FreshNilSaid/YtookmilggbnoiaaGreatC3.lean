/- Contracts of functions of the program: what each call returns, on plain lists. -/
import Derived.Test.YtookmilggbnoiaaGreatC2
set_option linter.unusedVariables false
set_option linter.unusedSimpArgs false
open Go.Proofs
namespace Go.Ab

/-- 'slices.Clone' of integers. -/
theorem j_cloneI (A : Heap) (l : List Int) (s : AVal) (hl : l.length < 2 ^ 40) (hs : ISl l s) : J Tryz.prog f_slices_Clone___int_int_ [s] A fun v B => ISl l v ∧ B = A := by
  refine J_of' c_slices_Clone___int_int_ x_slices_Clone___int_int_.eq_1 fun hlt => ?_
  cases hs with
  | nil h =>
    simp -implicitDefEqProofs -dsimp +decide only [go_sem, Int.reduceAdd, Int.reduceSub, Int.reduceMul, Int.reduceToNat, Nat.reduceMul, Nat.reduceAdd]
    exact Wk.refl ⟨_, rfl, .nil h, rfl⟩
  | fsl cap =>
    cases l with
    | nil =>
      simp -implicitDefEqProofs -dsimp +decide only [go_sem, Int.reduceAdd, Int.reduceSub, Int.reduceMul, Int.reduceToNat, Nat.reduceMul, Nat.reduceAdd, ints_nil, List.length_nil]
      intro r
      cases r <;> simp -implicitDefEqProofs -dsimp +decide only [go_sem, Int.reduceAdd, Int.reduceSub, Int.reduceMul, Int.reduceToNat, Nat.reduceMul, Nat.reduceAdd]
      · exact Wk.refl ⟨_, rfl, .fsl (some 0), rfl⟩
      · exact Wk.refl ⟨_, rfl, .nil rfl, rfl⟩
    | cons n l =>
      simp -implicitDefEqProofs -dsimp +decide only [go_sem, Int.reduceAdd, Int.reduceSub, Int.reduceMul, Int.reduceToNat, Nat.reduceMul, Nat.reduceAdd, ints_cons, ints_length, List.length_cons]
      refine ⟨by omega, ⟨by omega, by simp only [List.length_cons] at hl; omega⟩, ?_⟩
      refine Wk.ice (vs := ints (n :: l)) hlt (fun j o h => ?_) (Heap.get_push _ _) (Nat.le_refl _) ints_flat ⟨_, rfl, ?_, rfl⟩
      · have := hlt j (by simp [Heap.live, h])
        rw [Heap.get_push_ne _ _ (by omega)]
        exact h
      · exact .fsl (l := n :: l) none

/-- A set of revoked serials: four logs. -/
structure SetAt (A : Heap) (si : Nat) (L : List (List Int)) : Prop where
  get : ∃ S, A.get si = some (.cells S) ∧ ISls L S
  four : L.length = 4
  small : ∀ l ∈ L, l.length < 2 ^ 40

theorem SetAt.one {A : Heap} {si : Nat} {L : List (List Int)} (h : SetAt A si L) {i : Nat} (hi : i < 4) : ∃ S s, A.get si = some (.cells S) ∧ S[i]? = some s ∧ ISl (L.getD i []) s ∧ (L.getD i []).length < 2 ^ 40 := by
  obtain ⟨S, h1, h2⟩ := h.get
  obtain ⟨s, h3, h4⟩ := h2.get (by rw [h.four]; exact hi)
  refine ⟨S, s, h1, h3, h4, h.small _ ?_⟩
  have hi' : i < L.length := by rw [h.four]; exact hi
  rw [List.getD_eq_getElem?_getD, List.getElem?_eq_getElem hi']
  exact List.getElem_mem hi'

def logOf (L : List (List Int)) (seed : Int) : List Int := if 0 ≤ seed then L.getD seed.toNat [] else []

theorem j_log (A : Heap) (si : Nat) (L : List (List Int)) (seed : Int) (hL : SetAt A si L) : J Tryz.prog f___vigil_revoke_Set__Log [.ptr si 0, .raw (.int .i64 seed)] A fun v B => ISl (logOf L seed) v ∧ B = A := by
  refine J_of' c___vigil_revoke_Set__Log x___vigil_revoke_Set__Log.eq_1 fun hlt => ?_
  by_cases h0 : seed < 0
  · simp -implicitDefEqProofs -dsimp +decide only [go_sem, Int.reduceAdd, Int.reduceSub, Int.reduceMul, Int.reduceToNat, Nat.reduceMul, Nat.reduceAdd, h0]
    exact Wk.refl ⟨_, rfl, .nil (by rw [logOf, if_neg (by omega)]), rfl⟩
  · by_cases h4 : 4 ≤ seed
    · simp -implicitDefEqProofs -dsimp +decide only [go_sem, Int.reduceAdd, Int.reduceSub, Int.reduceMul, Int.reduceToNat, Nat.reduceMul, Nat.reduceAdd, h0, h4]
      refine Wk.refl ⟨_, rfl, .nil ?_, rfl⟩
      rw [logOf, if_pos (by omega), List.getD_eq_getElem?_getD, List.getElem?_eq_none (by rw [hL.four]; omega)]
      rfl
    · obtain ⟨S, s, g1, g2, g3, g4⟩ := hL.one (i := seed.toNat) (by omega)
      have g5 : S[seed.toNat * 1]? = some s := by simpa using g2
      simp -implicitDefEqProofs -dsimp +decide only [go_sem, Int.reduceAdd, Int.reduceSub, Int.reduceMul, Int.reduceToNat, Nat.reduceMul, Nat.reduceAdd, h0, h4, g1, g5]
      refine ⟨⟨by omega, by omega⟩, JS_of (j_cloneI _ _ _ g4 g3) ?_⟩
      rintro v B ⟨hv, rfl⟩
      simp -implicitDefEqProofs -dsimp +decide only [go_sem, Int.reduceAdd, Int.reduceSub, Int.reduceMul, Int.reduceToNat, Nat.reduceMul, Nat.reduceAdd]
      exact Wk.refl ⟨_, rfl, by rw [logOf, if_pos (by omega)]; exact hv, rfl⟩

def lens (L : List (List Int)) : List AVal := L.map fun l => .raw (.int .i64 l.length)

theorem SetAt.of_get {A B : Heap} {si : Nat} {L : List (List Int)} (h : SetAt A si L) (hg : B.get si = A.get si) : SetAt B si L := by
  obtain ⟨S, h1, h2⟩ := h.get
  exact ⟨⟨S, by rw [hg]; exact h1, h2⟩, h.four, h.small⟩
theorem SetAt.lt {A : Heap} {si : Nat} {L : List (List Int)} (h : SetAt A si L) (hlt : ∀ i, A.live i → i < A.top) : si < A.top := by
  obtain ⟨S, h1, _⟩ := h.get
  exact hlt si (by simp [Heap.live, h1])

theorem j_versions (A : Heap) (si : Nat) (L : List (List Int)) (hL : SetAt A si L) : J Tryz.prog f___vigil_revoke_Set__Versions [.ptr si 0] A fun v B => v = .agg (lens L) ∧ B = A := by
  refine J_of' c___vigil_revoke_Set__Versions x___vigil_revoke_Set__Versions.eq_1 fun hlt => ?_
  have hsi := hL.lt hlt
  have e1 : si ≠ A.top := by omega
  have e2 : si ≠ A.top + 1 := by omega
  simp -implicitDefEqProofs -dsimp +decide only [go_sem, Int.reduceAdd, Int.reduceSub, Int.reduceMul, Int.reduceToNat, Nat.reduceMul, Nat.reduceAdd]
  refine loop_roll ?_
  simp -implicitDefEqProofs -dsimp +decide only [go_sem, Int.reduceAdd, Int.reduceSub, Int.reduceMul, Int.reduceToNat, Nat.reduceMul, Nat.reduceAdd]
  refine JS_of (j_log _ si L _ (hL.of_get ?_)) ?_
  · simp only [Heap.get_push_if, Heap.get_set_if, Heap.top_push, Heap.top_set, e1, e2, if_false]
  rintro v B ⟨hv, rfl⟩
  simp -implicitDefEqProofs -dsimp +decide only [go_sem, Int.reduceAdd, Int.reduceSub, Int.reduceMul, Int.reduceToNat, Nat.reduceMul, Nat.reduceAdd, slK_len hv]
  refine loop_roll ?_
  simp -implicitDefEqProofs -dsimp +decide only [go_sem, Int.reduceAdd, Int.reduceSub, Int.reduceMul, Int.reduceToNat, Nat.reduceMul, Nat.reduceAdd]
  refine JS_of (j_log _ si L _ (hL.of_get ?_)) ?_
  · simp only [Heap.get_push_if, Heap.get_set_if, Heap.top_push, Heap.top_set, e1, e2, if_false]
  rintro v B ⟨hv, rfl⟩
  simp -implicitDefEqProofs -dsimp +decide only [go_sem, Int.reduceAdd, Int.reduceSub, Int.reduceMul, Int.reduceToNat, Nat.reduceMul, Nat.reduceAdd, slK_len hv]
  refine loop_roll ?_
  simp -implicitDefEqProofs -dsimp +decide only [go_sem, Int.reduceAdd, Int.reduceSub, Int.reduceMul, Int.reduceToNat, Nat.reduceMul, Nat.reduceAdd]
  refine JS_of (j_log _ si L _ (hL.of_get ?_)) ?_
  · simp only [Heap.get_push_if, Heap.get_set_if, Heap.top_push, Heap.top_set, e1, e2, if_false]
  rintro v B ⟨hv, rfl⟩
  simp -implicitDefEqProofs -dsimp +decide only [go_sem, Int.reduceAdd, Int.reduceSub, Int.reduceMul, Int.reduceToNat, Nat.reduceMul, Nat.reduceAdd, slK_len hv]
  refine loop_roll ?_
  simp -implicitDefEqProofs -dsimp +decide only [go_sem, Int.reduceAdd, Int.reduceSub, Int.reduceMul, Int.reduceToNat, Nat.reduceMul, Nat.reduceAdd]
  refine JS_of (j_log _ si L _ (hL.of_get ?_)) ?_
  · simp only [Heap.get_push_if, Heap.get_set_if, Heap.top_push, Heap.top_set, e1, e2, if_false]
  rintro v B ⟨hv, rfl⟩
  simp -implicitDefEqProofs -dsimp +decide only [go_sem, Int.reduceAdd, Int.reduceSub, Int.reduceMul, Int.reduceToNat, Nat.reduceMul, Nat.reduceAdd, slK_len hv]
  refine loop_roll ?_
  simp -implicitDefEqProofs -dsimp +decide only [go_sem, Int.reduceAdd, Int.reduceSub, Int.reduceMul, Int.reduceToNat, Nat.reduceMul, Nat.reduceAdd]
  refine Wk.old hlt (by (repeat' (first | exact Old.refl _ | refine Old.push ?_ | refine Old.set ?_ ?_ | refine Old.del ?_ ?_)) <;> (try simp only [Heap.top_push, Heap.top_set, Heap.top_del]) <;> omega) ⟨_, rfl, ?_, rfl⟩
  obtain ⟨a, b, c, d, rfl⟩ := four_of hL.four
  rfl

/-- The place of the first for which 'p' holds; below nought: none. -/
def idxF (p : Int → Bool) (l : List Int) : Int := match l.findIdx? p with | some i => i | none => -1

theorem idxF_none {p : Int → Bool} {l : List Int} (h : ∀ x ∈ l, p x = false) : idxF p l = -1 := by
  have : l.findIdx? p = none := List.findIdx?_eq_none_iff.2 h
  simp [idxF, this]
theorem idxF_some {p : Int → Bool} {l : List Int} {i : Nat} (hi : i < l.length) (hp : p l[i] = true) (h : ∀ x ∈ l.take i, p x = false) : idxF p l = i := by
  have : l.findIdx? p = some i := by
    rw [List.findIdx?_eq_some_iff_getElem]
    refine ⟨hi, hp, fun j hj => ?_⟩
    have := h l[j] (by rw [List.mem_take_iff_getElem]; exact ⟨j, by omega, rfl⟩)
    simp [this]
  simp [idxF, this]

theorem j_indexFuncI (A : Heap) (l : List Int) (s : AVal) (hl : l.length < 2 ^ 40) (hs : ISl l s) (g : Nat) (cap : List AVal) (p : Int → Bool)
    (hg : ∀ n ∈ l, J Tryz.prog g ([.raw (.int .i64 n)] ++ cap) A fun v B => v = .raw (.bool (p n)) ∧ B = A) :
    J Tryz.prog f_slices_IndexFunc___int_int_ [s, .func (.func g) [] cap] A fun v B => v = .raw (.int .i64 (idxF p l)) ∧ B = A := by
  refine J_of' c_slices_IndexFunc___int_int_ x_slices_IndexFunc___int_int_.eq_1 fun hlt => ?_
  cases hs with
  | nil h =>
    subst h
    simp -implicitDefEqProofs -dsimp +decide only [go_sem, Int.reduceAdd, Int.reduceSub, Int.reduceMul, Int.reduceToNat, Nat.reduceMul, Nat.reduceAdd]
    refine loop_roll ?_
    simp -implicitDefEqProofs -dsimp +decide only [go_sem, Int.reduceAdd, Int.reduceSub, Int.reduceMul, Int.reduceToNat, Nat.reduceMul, Nat.reduceAdd]
    exact Wk.refl ⟨_, rfl, rfl, rfl⟩
  | fsl c =>
    simp -implicitDefEqProofs -dsimp +decide only [go_sem, Int.reduceAdd, Int.reduceSub, Int.reduceMul, Int.reduceToNat, Nat.reduceMul, Nat.reduceAdd]
    refine loop_st [0, 1, 4, 7, 8] (fun i : Nat => i ≤ l.length ∧ ∀ x ∈ l.take i, p x = false)
      (fun i => [.fsl (ints l) l.length c, .func (.func g) [] cap, .any, .any, .raw (.int .i64 0), .any, .any, .raw (.int .i64 l.length), .raw (.int .i64 i)] ++ List.replicate 10 .any) (fun _ => A) (fun i => l.length - i) 0 ⟨by omega, by simp⟩ rfl rfl ?_
    rintro i ⟨hi, hp⟩
    simp -implicitDefEqProofs -dsimp +decide only [go_sem, Int.reduceAdd, Int.reduceSub, Int.reduceMul, Int.reduceToNat, Nat.reduceMul, Nat.reduceAdd]
    refine ⟨fun hlt' => ?_, fun hge => ?_⟩
    · have h1 : i < l.length := by omega
      have hd : ((ints l).drop (Int.toNat (i : Int) * 1))[0]? = some (.raw (.int .i64 l[i])) := by simpa using ints_get h1
      simp -implicitDefEqProofs -dsimp +decide only [go_sem, Int.reduceAdd, Int.reduceSub, Int.reduceMul, Int.reduceToNat, Nat.reduceMul, Nat.reduceAdd, hd]
      refine ⟨⟨by omega, by omega, by intro he; have := congrArg List.length he; rw [ints_length] at this; simp only [List.length_nil] at this; omega⟩, JS_of (hg _ (List.getElem_mem h1)) ?_⟩
      rintro v B ⟨rfl, rfl⟩
      simp -implicitDefEqProofs -dsimp +decide only [go_sem, Int.reduceAdd, Int.reduceSub, Int.reduceMul, Int.reduceToNat, Nat.reduceMul, Nat.reduceAdd]
      refine ⟨fun hq => ?_, fun hq => ?_⟩
      · exact Wk.refl ⟨_, rfl, by rw [idxF_some h1 hq hp], rfl⟩
      · rw [wrap64 (by omega) (by omega)]
        refine NextS.to (i + 1) ⟨by omega, ?_⟩ (by omega) rfl rfl
        intro x hx
        rw [List.take_add_one, List.getElem?_eq_getElem h1] at hx
        simp only [Option.toList, List.mem_append, List.mem_singleton] at hx
        rcases hx with hx | rfl
        · exact hp x hx
        · exact hq
    · have : i = l.length := by omega
      subst this
      rw [List.take_length] at hp
      refine Wk.refl ⟨_, rfl, ?_, rfl⟩
      rw [idxF_none hp]

end Go.Ab
