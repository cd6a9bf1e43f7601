/- Contracts of functions of the program: what each call returns, on plain lists. -/
import Derived.Test.YtookmilggbnoiaaGreatC4
set_option linter.unusedVariables false
set_option linter.unusedSimpArgs false
open Go.Proofs
namespace Go.Ab

/-- The logs, one shortened to what fits. -/
def trim (room : Int) (D : List (List Int)) (i : Nat) : List (List Int) :=
  D.set i ((D.getD i []).take (max (((D.getD i []).length : Int) - (max (16 + 2 * ((D.map List.length).sum : Nat) - room) 0 + 1) / 2) 0).toNat)

def lowV (v : List Int) (L : List (List Int)) : List Int := List.zipWith (fun n l => min n (l.length : Int)) v L
def answerL (room : Int) (L : List (List Int)) (v : List Int) : List (List Int) := [3, 2, 1, 0].foldl (trim room) (dropL L v)

set_option maxHeartbeats 1000000 in
theorem j_answer (A : Heap) (si : Nat) (L : List (List Int)) (v : List Int) (room : Int) (hL : SetAt A si L) (h4 : v.length = 4) (hv : vright v = true) (hr0 : 16 ≤ room) (hr1 : room < 2 ^ 40) : J Tryz.prog f_vigil_delta_Answer [.ptr si 0, .agg (ints v), .raw (.int .i64 room)] A fun u B => (∃ S, u = .tup [.agg (ints (lowV v L) ++ S), .raw (.int .i64 0)] ∧ ISls (answerL room L (lowV v L)) S) ∧ B = A := by
  refine J_of' c_vigil_delta_Answer x_vigil_delta_Answer.eq_1 fun hlt => ?_
  have hi : ∀ a b c d, ints [a, b, c, d] = [.raw (.int .i64 a), .raw (.int .i64 b), .raw (.int .i64 c), .raw (.int .i64 d)] := fun _ _ _ _ => rfl
  have hsi := hL.lt hlt
  have e1 : si ≠ A.top := by omega
  have e2 : si ≠ A.top + 1 := by omega
  have e3 : si ≠ A.top + 2 := by omega
  obtain ⟨a, b, c, d, rfl⟩ := four_of h4
  simp -implicitDefEqProofs -dsimp +decide only [go_sem, Int.reduceAdd, Int.reduceSub, Int.reduceMul, Int.reduceToNat, Nat.reduceMul, Nat.reduceAdd, hi]
  refine JS_of (j_right _ [a, b, c, d] rfl) ?_
  rintro u B ⟨rfl, rfl⟩
  simp -implicitDefEqProofs -dsimp +decide only [go_sem, Int.reduceAdd, Int.reduceSub, Int.reduceMul, Int.reduceToNat, Nat.reduceMul, Nat.reduceAdd, hv, Int.not_lt.2 hr0]
  refine JS_of (j_versions _ si L (hL.of_get ?_)) ?_
  · simp only [Heap.get_push_if, Heap.get_set_if, Heap.top_push, Heap.top_set, e1, e2, e3, if_false]
  rintro u B ⟨rfl, rfl⟩
  have hf := hL.four
  obtain ⟨x, y, z, w, rfl⟩ := four_of hf
  simp -implicitDefEqProofs -dsimp +decide only [go_sem, Int.reduceAdd, Int.reduceSub, Int.reduceMul, Int.reduceToNat, Nat.reduceMul, Nat.reduceAdd, lens]
  refine loop_roll ?_
  simp -implicitDefEqProofs -dsimp +decide only [go_sem, Int.reduceAdd, Int.reduceSub, Int.reduceMul, Int.reduceToNat, Nat.reduceMul, Nat.reduceAdd, lens]
  refine loop_roll ?_
  simp -implicitDefEqProofs -dsimp +decide only [go_sem, Int.reduceAdd, Int.reduceSub, Int.reduceMul, Int.reduceToNat, Nat.reduceMul, Nat.reduceAdd, lens]
  refine loop_roll ?_
  simp -implicitDefEqProofs -dsimp +decide only [go_sem, Int.reduceAdd, Int.reduceSub, Int.reduceMul, Int.reduceToNat, Nat.reduceMul, Nat.reduceAdd, lens]
  refine loop_roll ?_
  simp -implicitDefEqProofs -dsimp +decide only [go_sem, Int.reduceAdd, Int.reduceSub, Int.reduceMul, Int.reduceToNat, Nat.reduceMul, Nat.reduceAdd, lens]
  refine loop_roll ?_
  simp -implicitDefEqProofs -dsimp +decide only [go_sem, Int.reduceAdd, Int.reduceSub, Int.reduceMul, Int.reduceToNat, Nat.reduceMul, Nat.reduceAdd]
  have hlo : ∀ n ∈ [a, b, c, d], 0 ≤ n := by
    intro n hn
    have := hv
    simp only [vright, Bool.not_eq_true', List.any_eq_false] at this
    have := this n hn
    simp only [Bool.or_eq_true, decide_eq_true_eq, not_or] at this
    omega
  have pa := hlo a (by simp)
  have pb := hlo b (by simp)
  have pc := hlo c (by simp)
  have pd := hlo d (by simp)
  obtain ⟨V, hV⟩ : ∃ V : List Int, V = [min a x.length, min b y.length, min c z.length, min d w.length] := ⟨_, rfl⟩
  have hVi : ints V = [.raw (.int .i64 (min a x.length)), .raw (.int .i64 (min b y.length)), .raw (.int .i64 (min c z.length)), .raw (.int .i64 (min d w.length))] := by rw [hV]; rfl
  have hVl : V.length = 4 := by rw [hV]; rfl
  have hVb : ∀ (i : Nat) n, V[i]? = some n → 0 ≤ n ∧ n ≤ ([x, y, z, w].getD i []).length := by
    rw [hV]
    intro i n hn
    match i, hn with
    | 0, hn => simp at hn; subst hn; exact ⟨by omega, by show _ ≤ (x.length : Int); omega⟩
    | 1, hn => simp at hn; subst hn; exact ⟨by omega, by show _ ≤ (y.length : Int); omega⟩
    | 2, hn => simp at hn; subst hn; exact ⟨by omega, by show _ ≤ (z.length : Int); omega⟩
    | 3, hn => simp at hn; subst hn; exact ⟨by omega, by show _ ≤ (w.length : Int); omega⟩
    | _ + 4, hn => simp at hn
  have hsn := fun B hB => j_since B si [x, y, z, w] V (hL.of_get (B := B) hB) hVl hVb
  rw [hVi] at hsn
  refine JS_of (hsn _ ?_) ?_
  · simp only [Heap.get_push_if, Heap.get_set_if, Heap.top_push, Heap.top_set, e1, e2, e3, if_false]
  rintro u B ⟨⟨S, rfl, hS⟩, rfl⟩
  have hDl : (dropL [x, y, z, w] V).length = 4 := by rw [hV]; rfl
  obtain ⟨D, hD⟩ : ∃ D, D = dropL [x, y, z, w] V := ⟨_, rfl⟩
  rw [← hD] at hS hDl
  obtain ⟨x', y', z', w', rfl⟩ := four_of hDl
  obtain ⟨s0, s1, s2, s3, rfl, h0, h1, h2, h3⟩ := hS.four
  simp -implicitDefEqProofs -dsimp +decide only [go_sem, Int.reduceAdd, Int.reduceSub, Int.reduceMul, Int.reduceToNat, Nat.reduceMul, Nat.reduceAdd]
  refine JS_of (j_backward _ _ _ _ _ _) ?_
  rintro u B ⟨rfl, rfl⟩
  simp -implicitDefEqProofs -dsimp +decide only [go_sem, Int.reduceAdd, Int.reduceSub, Int.reduceMul, Int.reduceToNat, Nat.reduceMul, Nat.reduceAdd]
  refine RangeS_of fun T hT H hH cA cB hcA hcB => ?_
  have f1 : H.top = A.top + 5 := by rw [hH]; simp only [Heap.top_push, Heap.top_set]
  have f2 : ∀ j, j < A.top → H.get j = A.get j := fun j hj => by
    have q0 : j ≠ A.top := by omega
    have q1 : j ≠ A.top + 1 := by omega
    have q2 : j ≠ A.top + 2 := by omega
    have q3 : j ≠ A.top + 3 := by omega
    have q4 : j ≠ A.top + 4 := by omega
    rw [hH]; simp only [Heap.get_push_if, Heap.get_set_if, Heap.top_push, Heap.top_set, q0, q1, q2, q3, q4, if_false]
  have f3 : H.get (A.top + 1) = some (.cells [.raw (.int .i64 room)]) := by
    rw [hH]; simp [Heap.get_push_if, Heap.get_set_if, Heap.top_push, Heap.top_set]
  have f4 : H.get (A.top + 2) = some (.cells [.raw (.int .i64 0), .raw (.int .i64 0), .raw (.int .i64 0), .raw (.int .i64 0), .raw (.slice none 0 0), .raw (.slice none 0 0), .raw (.slice none 0 0), .raw (.slice none 0 0)]) := by
    rw [hH]; simp [Heap.get_push_if, Heap.get_set_if, Heap.top_push, Heap.top_set]
  have f5 : H.get (A.top + 3) = some (.cells (ints V ++ [s0, s1, s2, s3])) := by
    rw [hH, hVi]; simp [Heap.get_push_if, Heap.get_set_if, Heap.top_push, Heap.top_set]
  have f6 : H.get (A.top + 4) = some (.cells [.sl (A.top + 3) 4 4 (some 4) 1]) := by
    rw [hH]; simp [Heap.get_push_if, Heap.get_set_if, Heap.top_push, Heap.top_set]
  clear hH
  obtain ⟨I, hI⟩ : ∃ I : Nat → Heap → Prop, I = fun k B => B.top = A.top + 6 ∧ (∀ j, j ≠ A.top + 3 → j ≠ A.top + 5 → B.get j = H.get j) ∧ B.get (A.top + 5) = some (.loop false T #[56, 57] cA cB) ∧
      ∃ D t0 t1 t2 t3, D = ([3, 2, 1, 0].take k).foldl (trim room) [x', y', z', w'] ∧ D.length = 4 ∧ (∀ l ∈ D, l.length < 2 ^ 40) ∧ B.get (A.top + 3) = some (.cells (ints V ++ [t0, t1, t2, t3])) ∧ ISls D [t0, t1, t2, t3] := ⟨_, rfl⟩
  have hsm0 : ∀ l ∈ [x', y', z', w'], l.length < 2 ^ 40 := by
    rw [hD, hV]
    intro l hl
    have s0 := hL.small x (by simp)
    have s1 := hL.small y (by simp)
    have s2 := hL.small z (by simp)
    have s3 := hL.small w (by simp)
    simp only [dropL, List.zipWith, List.mem_cons, List.not_mem_nil, or_false] at hl
    rcases hl with rfl | rfl | rfl | rfl <;> (rw [List.length_drop]; omega)
  rw [f1]
  refine (j_backward1 I _ (A.top + 5) (A.top + 4) (A.top + 3) 4 4 (some 4) (by omega) ?_ ?_ ?_).mono ?_
  · rw [hI]
    refine ⟨by simp only [Heap.top_push, f1], fun j _ hj => Heap.get_push_ne _ _ (by omega), by rw [← f1]; exact Heap.get_push _ _, _, s0, s1, s2, s3, rfl, rfl, hsm0, ?_, hS⟩
    rw [Heap.get_push_ne _ _ (by omega)]
    exact f5
  · intro k B hB
    rw [hI] at hB
    obtain ⟨g1, g2, g3, D, t0, t1, t2, t3, d1, d2, d3, g4, g5⟩ := hB
    exact ⟨by rw [g2 _ (by omega) (by omega)]; exact f6, _, g4, by rw [List.length_append, ints_length, hVl]; simp⟩
  · intro k B vs c hk hB hvs hc
    rw [hI] at hB
    obtain ⟨g1, g2, g3, D, t0, t1, t2, t3, d1, d2, d3, g4, g5⟩ := hB
    rw [g4] at hvs
    simp only [Option.some.injEq, AObj.cells.injEq] at hvs
    subst hvs
    have hci : ISl (D.getD (3 - k) []) c := by
      obtain ⟨t, q1, q2⟩ := g5.get (i := 3 - k) (by omega)
      have : ([t0, t1, t2, t3][3 - k]? : Option AVal) = some c := by
        rw [← hc, List.getElem?_append_right (by rw [ints_length, hVl]; omega), ints_length, hVl]
        congr 1
        omega
      rw [q1] at this
      rw [← Option.some.inj this]
      exact q2
    have hDm : D.getD (3 - k) [] ∈ D := by
      rw [List.getD_eq_getElem?_getD, List.getElem?_eq_getElem (by omega)]
      exact List.getElem_mem _
    have hcl := d3 _ hDm
    have hsum : (D.map List.length).sum < 2 ^ 43 := by
      obtain ⟨D0, D1, D2, D3, rfl⟩ := four_of d2
      have := d3 D0 (by simp)
      have := d3 D1 (by simp)
      have := d3 D2 (by simp)
      have := d3 D3 (by simp)
      simp only [List.map_cons, List.map_nil, List.sum_cons, List.sum_nil]
      omega
    have g3' : B.get (A.top + 1) = some (.cells [.raw (.int .i64 room)]) := by rw [g2 _ (by omega) (by omega)]; exact f3
    have hsz := fun B => j_size B (ints V) (by rw [ints_length]; exact hVl) D [t0, t1, t2, t3] d2 g5 d3
    rw [hVi] at hsz
    have w1 : IntKind.i64.wrap (16 + 2 * ((D.map List.length).sum : Nat) - room) = 16 + 2 * ((D.map List.length).sum : Nat) - room := wrap64s (by omega) (by omega)
    have w2 : IntKind.i64.wrap (max (16 + 2 * ((D.map List.length).sum : Nat) - room) 0 + 1) = max (16 + 2 * ((D.map List.length).sum : Nat) - room) 0 + 1 := wrap64s (by omega) (by omega)
    have w3 : (max (16 + 2 * ((D.map List.length).sum : Nat) - room) 0 + 1).tdiv 2 = (max (16 + 2 * ((D.map List.length).sum : Nat) - room) 0 + 1) / 2 := Int.tdiv_eq_ediv_of_nonneg (by omega)
    have w4 : IntKind.i64.wrap ((max (16 + 2 * ((D.map List.length).sum : Nat) - room) 0 + 1) / 2) = (max (16 + 2 * ((D.map List.length).sum : Nat) - room) 0 + 1) / 2 := wrap64s (by omega) (by omega)
    have w5 : IntKind.i64.wrap (((D.getD (3 - k) []).length : Int) - (max (16 + 2 * ((D.map List.length).sum : Nat) - room) 0 + 1) / 2) = ((D.getD (3 - k) []).length : Int) - (max (16 + 2 * ((D.map List.length).sum : Nat) - room) 0 + 1) / 2 := wrap64s (by omega) (by omega)
    refine JR_of g3 rfl (by rw [hcA]; rfl) (by rw [hcB]; rfl) fun hltB => ?_
    rw [hcA, hT]
    simp -implicitDefEqProofs -dsimp +decide only [go_sem, Int.reduceAdd, Int.reduceSub, Int.reduceMul, Int.reduceToNat, Nat.reduceMul, Nat.reduceAdd]
    refine ⟨T, g3, ?_⟩
    rw [hcB, hVi] at *
    simp -implicitDefEqProofs -dsimp +decide only [go_sem, Int.reduceAdd, Int.reduceSub, Int.reduceMul, Int.reduceToNat, Nat.reduceMul, Nat.reduceAdd, g4, g3']
    refine JS_of (hsz _) ?_
    rintro u B' ⟨rfl, rfl⟩
    simp -implicitDefEqProofs -dsimp +decide only [go_sem, Int.reduceAdd, Int.reduceSub, Int.reduceMul, Int.reduceToNat, Nat.reduceMul, Nat.reduceAdd, g4, g3', slK_len hci, w1, w2, w3, w4, w5]
    refine ⟨⟨by simp, by simp⟩, ask_headI rfl rfl rfl hci (Int.le_max_right _ _) (Int.le_refl _) (by omega) ?_⟩
    intro v hv'
    have hcv := hv'.cells
    simp -implicitDefEqProofs -dsimp +decide only [go_sem, Int.reduceAdd, Int.reduceSub, Int.reduceMul, Int.reduceToNat, Nat.reduceMul, Nat.reduceAdd, g4, hcv]
    refine ⟨by omega, by omega, T, rfl, ?_⟩
    rw [hI]
    have d2' : (trim room D (3 - k)).length = 4 := by rw [trim, List.length_set]; exact d2
    have d3' : ∀ l ∈ trim room D (3 - k), l.length < 2 ^ 40 := by
      intro l hl
      rcases List.mem_or_eq_of_mem_set hl with hl | rfl
      · exact d3 l hl
      · rw [List.length_take]; omega
    have g5' : ISls (trim room D (3 - k)) ([t0, t1, t2, t3].set (3 - k) v) := g5.set hv'
    have d1' : trim room D (3 - k) = ([3, 2, 1, 0].take (k + 1)).foldl (trim room) [x', y', z', w'] := by
      rw [d1]
      rcases (by omega : k = 0 ∨ k = 1 ∨ k = 2 ∨ k = 3) with rfl | rfl | rfl | rfl <;> rfl
    have q1 : A.top + 3 ≠ A.top + 5 := by omega
    refine ⟨by simp only [Heap.top_set]; exact g1, fun j h1 h2 => ?_, ?_, trim room D (3 - k), ?_⟩
    · rw [Heap.get_set_ne _ _ h2, Heap.get_set_ne _ _ h1, Heap.get_set_ne _ _ h2]
      exact g2 j h1 h2
    · rw [Heap.get_set]
    · rw [Heap.get_set_ne _ _ q1, Heap.get_set]
      rcases (by omega : k = 0 ∨ k = 1 ∨ k = 2 ∨ k = 3) with rfl | rfl | rfl | rfl
      · exact ⟨t0, t1, t2, v, d1', d2', d3', rfl, g5'⟩
      · exact ⟨t0, t1, v, t3, d1', d2', d3', rfl, g5'⟩
      · exact ⟨t0, v, t2, t3, d1', d2', d3', rfl, g5'⟩
      · exact ⟨v, t1, t2, t3, d1', d2', d3', rfl, g5'⟩
  · intro _ B hB
    rw [hI] at hB
    obtain ⟨g1, g2, g3, D, t0, t1, t2, t3, d1, d2, d3, g4, g5⟩ := hB
    refine ⟨⟨_, g3⟩, ?_⟩
    rw [hT]
    rw [hVi] at g4
    have g6 := f4
    rw [← g2 _ (by omega) (by omega)] at g6
    simp -implicitDefEqProofs -dsimp +decide only [go_sem, Int.reduceAdd, Int.reduceSub, Int.reduceMul, Int.reduceToNat, Nat.reduceMul, Nat.reduceAdd, g4, g6]
    have q5 : A.top + 2 ≠ A.top + 5 := by omega
    obtain ⟨D0, D1, D2, D3, hDD⟩ := four_of d2
    obtain ⟨k0, k1, k2, k3⟩ : ISl D0 t0 ∧ ISl D1 t1 ∧ ISl D2 t2 ∧ ISl D3 t3 := by
      rw [hDD] at g5
      obtain ⟨_, _, _, _, he, k0, k1, k2, k3⟩ := g5.four
      simp only [List.cons.injEq, and_true] at he
      obtain ⟨rfl, rfl, rfl, rfl⟩ := he
      exact ⟨k0, k1, k2, k3⟩
    have hV' : V = lowV [a, b, c, d] [x, y, z, w] := hV
    rw [answerL, ← hV', ← hD]
    have hg5 := g5
    rw [d1] at hg5
    refine Wk.old hlt ⟨by simp only [Heap.top_set, Heap.top_del]; omega, fun j hj => ?_⟩ ⟨_, rfl, ⟨[t0, t1, t2, t3], ?_, ?_⟩, rfl⟩
    · rw [Heap.get_set_ne _ _ (by omega), Heap.get_del_ne _ (by omega), g2 j (by omega) (by omega)]
      exact f2 j hj
    · simp only [AVal.ren, renL, k0.ren, k1.ren, k2.ren, k3.ren]
      rw [hV]
      rfl
    · exact hg5

end Go.Ab
