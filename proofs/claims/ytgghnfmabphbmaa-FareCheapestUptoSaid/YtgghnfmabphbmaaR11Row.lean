/- FareCheapest returns true for all arguments that hold together at most 1048576 values and letters, and leaves them as they were. No other condition. -/
import Derived.Test.YtgghnfmabphbmaaR11RowL
namespace Go.Proofs.Ytgghnfmabphbmaa.fareCheapest
open Go Go.Proofs.Ytgghnfmabphbmaa.Fw Go.Proofs.Ytgghnfmabphbmaa
open Go.ChangeShapes Go.WideShapes Go.ChangeAt Go.RowKit
open Go.ChangeMaps (open_string shut_string)
set_option linter.unusedVariables false

theorem over : Rows.fareCheapestUptoRow.holds Try.pinned (Rows.OpenSpec.upto Rows.fareCheapestSpec) :=
  OpenClaim.holds_of_cond 11 Try.f11 rfl rfl rfl rfl rfl rfl rfl ⟨rfl, rfl, rfl, rfl, rfl⟩ rfl rfl rfl rfl rfl (by kernel_rfl) Try.func11 (by kernel_rfl)
    (of_decide_eq_true (by kernel_rfl)) (by unfold Func.isWrapper; first | (rw [if_pos (by decide +kernel)]; kernel_rfl) | (rw [if_neg (by decide +kernel)]; exact ⟨rfl, rfl⟩))
    (fun os started H enc _ F => lifted os started H enc F)

theorem proved : Rows.FareCheapestUptoSaid := over
#print axioms proved
end Go.Proofs.Ytgghnfmabphbmaa.fareCheapest
