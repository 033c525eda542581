/- MendForced returns true for all arguments, and leaves them as they were. No condition. -/
import Derived.Test.YtecaleolkdoggaaM10RowL
namespace Go.Proofs.Ytecaleolkdoggaa.mendForced
open Go Go.Proofs.Ytecaleolkdoggaa.Fw Go.Proofs.Ytecaleolkdoggaa
open Go.ChangeShapes Go.WideShapes Go.ChangeAt Go.RowKit
open Go.ChangeMaps (open_string shut_string)
set_option linter.unusedVariables false

theorem over : Rows.mendForcedRow.holds Try.pinned (OpenSpec.ofChange Rows.mendForcedSpec) :=
  OpenClaim.holds_of_wide 10 Try.f10 rfl rfl rfl rfl rfl rfl rfl ⟨rfl, rfl, rfl, rfl, rfl⟩ rfl rfl rfl rfl rfl (by kernel_rfl) Try.func10 (by kernel_rfl)
    (of_decide_eq_true (by kernel_rfl)) (by unfold Func.isWrapper; first | (rw [if_pos (by decide +kernel)]; kernel_rfl) | (rw [if_neg (by decide +kernel)]; exact ⟨rfl, rfl⟩))
    (fun os started H enc _ => lifted os started H enc)

theorem proved : Rows.MendForcedSaid := over
#print axioms proved
end Go.Proofs.Ytecaleolkdoggaa.mendForced
