/- Contracts of functions of the program: what each call returns, on plain lists. -/
import Derived.Test.YtookmilggbnoiaaGreatC5
set_option linter.unusedVariables false
set_option linter.unusedSimpArgs false
open Go.Proofs
namespace Go.Ab

section
variable {P : Program} {f : Nat} {args : List AVal} {A : Heap} {Q Q' : AVal → Heap → Prop}

/-- A contract whose value is taken for another. -/
theorem J.up (h : J P f args A Q) (hw : ∀ v A', Q v A' → ∃ v', Q' v' A' ∧ ∀ (φ : Emb) (w : World) (u : Value), V φ A' w v u → V φ A' w v' u) : J P f args A Q' :=
  ⟨h.1, fun φ w vs hR hv => (h.2 φ w vs hR hv).mono fun _ _ ⟨v, he, φ', a, A', hq, hV, hR', hE⟩ => by
    obtain ⟨v', hq', hv'⟩ := hw a A' hq
    exact ⟨v, he, φ', v', A', hq', hv' _ _ _ hV, hR', hE⟩⟩

/-- A call that needs nothing of the heap leaves every heap as it was. -/
theorem J_frame {p : Value → Prop} (h : J P f [] Heap.empty Q) (hQ : ∀ a A', Q a A' → ∃ v, a = .raw v ∧ p v) (A : Heap) : J P f [] A fun a B => (∃ v, a = .raw v ∧ p v) ∧ B = A := by
  refine ⟨h.1, fun φ w vs hR hv => (h.2 (whole w) w vs (R_whole w) (by cases vs with | nil => simp [Vl] | cons => simp [Vl] at hv)).mono ?_⟩
  rintro e w' ⟨v, he, φ', a, A', hq, hV, hR', hE⟩
  obtain ⟨v', rfl, hp⟩ := hQ a A' hq
  have hkeep : ∀ b, b < w.heap.size → w'.heap[b]? = w.heap[b]? := fun b hb => hE.keep b hb fun ⟨i, hi, _⟩ => hi (Heap.get_empty i)
  have hE' : Ext φ A w φ A w' := ⟨Nat.le_refl _, fun _ _ h => ⟨h, rfl⟩, fun i h hl => by have := hR.lt i hl; omega, hE.size, fun b hb _ => hkeep b hb, hE.shape, fun _ h => h, fun _ h => .inl h, hE.io⟩
  refine ⟨v, he, φ, .raw v', A, ⟨⟨v', rfl, hp⟩, rfl⟩, ?_, ?_, hE'⟩
  · simpa only [V] using hV
  · exact hR.ext_same hE' fun i hl => hkeep _ (hR.block_lt hl)
end

/-- A slice of integers, forgotten how far it reaches, and whether it is nil. -/
def isl (l : List Int) : AVal := .fsl (ints l) l.length none
theorem ISl.up {l : List Int} {v : AVal} (h : ISl l v) {φ : Emb} {A : Heap} {w : World} {u : Value} (hV : V φ A w v u) : V φ A w (isl l) u := by
  cases h with
  | nil h =>
    subst h
    simp only [V] at hV
    subst hV
    simp only [isl, V]
    exact ⟨none, 0, rfl, Nat.le_refl _, fun k hk => (nomatch hk), .inl rfl⟩
  | fsl cap =>
    simp only [isl, V] at hV ⊢
    obtain ⟨base, c, h1, h2, _, h4⟩ := hV
    exact ⟨base, c, h1, h2, fun k hk => (nomatch hk), h4⟩

end Go.Ab
