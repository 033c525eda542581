/- PlanGaps returns true for all arguments, and leaves them as they were. No condition. -/
import Derived.Test.YtnmkljgfbbmdpaaP5RowL
namespace Go.Proofs.Ytnmkljgfbbmdpaa.planGaps
open Go Go.Proofs.Ytnmkljgfbbmdpaa.Fw Go.Proofs.Ytnmkljgfbbmdpaa
open Go.ChangeShapes Go.WideShapes Go.ChangeAt Go.RowKit
open Go.ChangeMaps (open_string shut_string)
set_option linter.unusedVariables false

theorem over : Rows.planGapsRow.holds Try.pinned (OpenSpec.ofChange Rows.planGapsSpec) :=
  OpenClaim.holds_of_wide 5 Try.f5 rfl rfl rfl rfl rfl rfl rfl ⟨rfl, rfl, rfl, rfl, rfl⟩ rfl rfl rfl rfl rfl (by kernel_rfl) Try.func5 (by kernel_rfl)
    (of_decide_eq_true (by kernel_rfl)) (by unfold Func.isWrapper; first | (rw [if_pos (by decide +kernel)]; kernel_rfl) | (rw [if_neg (by decide +kernel)]; exact ⟨rfl, rfl⟩))
    (fun os started H enc _ => lifted os started H enc)

theorem proved : Rows.PlanGapsSaid := over
#print axioms proved
end Go.Proofs.Ytnmkljgfbbmdpaa.planGaps
