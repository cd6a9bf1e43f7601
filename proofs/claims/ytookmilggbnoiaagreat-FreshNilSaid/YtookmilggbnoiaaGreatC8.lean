/- Contracts of functions of the program: what each call returns, on plain lists. -/
import Derived.Test.YtookmilggbnoiaaGreatC7
set_option linter.unusedVariables false
set_option linter.unusedSimpArgs false
open Go.Proofs
namespace Go.Ab

def okB (v : AVal) (_ : Heap) : Option Unit := match v with | .raw (.bool true) => some () | _ => none
set_option maxRecDepth 100000
theorem k_known : callK M17 tab (runK M17 tab 1000) f_vigillaw17_known [] Heap.empty okB = some () := by kernel_rfl

theorem j_known (A : Heap) : J Tryz.prog f_vigillaw17_known [] A fun a B => a = .raw (.bool true) ∧ B = A := by
  refine (J_frame (p := fun v => v = .bool true) (J_run M17_ok tab_ok 1000 k_known) (fun a A' h => ?_) A).mono ?_
  · unfold okB at h
    split at h
    · exact ⟨_, rfl, rfl⟩
    · cases h
  · rintro a B ⟨⟨v, rfl, rfl⟩, rfl⟩
    exact ⟨rfl, rfl⟩

end Go.Ab
