/- The abstract layer, part 26: from a contract to what a row asks: everything that was there counts as frozen. -/
import Derived.Test.YtookmilggbnoiaaGreatAbRun2
import Derived.Below
set_option linter.unusedSimpArgs false
set_option linter.unusedVariables false
namespace Go.Ab

variable {P : Program}

/-- At the start: no object is ours, all that is there is left alone. -/
def whole (w : World) : Emb := ⟨fun _ => 0, fun b => b < w.heap.size⟩

theorem R_whole (w : World) : R (whole w) Heap.empty w :=
  ⟨fun i h => (h (Heap.get_empty i)).elim, fun i o h => (by rw [Heap.get_empty] at h; cases h), fun i j h => (h (Heap.get_empty i)).elim, fun i h => (h (Heap.get_empty i)).elim, fun b h => h⟩

theorem Frz_whole {w : World} {b : Nat} (h : b < w.heap.size) : Frz (whole w) Heap.empty w b :=
  ⟨⟨h, fun ⟨i, hi, _⟩ => hi (Heap.get_empty i)⟩, h⟩

/-- A law's contract, in the row's form. -/
theorem J.calls {f : Nat} {args : List AVal} (h : J P f args Heap.empty fun v _ => v = .raw (.bool true)) {w : World} {vs : List Value} (hV : Vl (whole w) Heap.empty w args vs) :
    Calls P f vs.toArray w fun e w' => e = .returned (.bool true) ∧ Go.RowKit.Below w.heap.size w w' := by
  refine (h.2 (whole w) w vs (R_whole w) hV).mono ?_
  rintro e w' ⟨v, rfl, φ', a, A', rfl, hv, _, hE⟩
  simp only [V] at hv
  subst hv
  exact ⟨rfl, hE.io.1, hE.io.2.1, hE.io.2.2, hE.size, fun k hk => hE.keep k hk fun ⟨i, hi, _⟩ => hi (Heap.get_empty i)⟩

/-- A row of numbers that came in. -/
theorem V_row {w : World} {k : IntKind} {b off len cap : Nat} {zs : List Int} (hl : len ≤ cap) (hz : zs.length = cap) (hc : ∀ i, i < zs.length → w.cell? ⟨b, off + i, none⟩ = some (.int k (zs.getD i 0))) :
    V (whole w) Heap.empty w (.fsl (zs.map fun n => .raw (.int k n)) len (some cap)) (.slice (some ⟨b, off, none⟩) len cap) := by
  simp only [V]
  refine ⟨_, cap, rfl, hl, fun k h => (by cases h; rfl), ?_⟩
  cases zs with
  | nil => exact .inl rfl
  | cons z zs =>
    right
    have hb : b < w.heap.size := by
      have := hc 0 (by simp)
      rcases Nat.lt_or_ge b w.heap.size with h | h
      · exact h
      · simp [World.cell?, Array.getElem?_eq_none h] at this
    refine ⟨b, off, rfl, Frz_whole hb, Vrow.ofCells (xs := (z :: zs).map fun n => .int k n) ?_ fun j x hj => ?_⟩
    · generalize z :: zs = l
      induction l with
      | nil => simp only [List.map_nil, Vcs]
      | cons n l ih => simp only [List.map_cons, Vcs, V]; exact ⟨⟨rfl, trivial⟩, ih⟩
    · simp only [List.getElem?_map, Option.map_eq_some_iff] at hj
      obtain ⟨n, hn, rfl⟩ := hj
      have hlt := (List.getElem?_eq_some_iff.1 hn).1
      rw [hc j hlt]
      simp [List.getD, hn]

end Go.Ab
