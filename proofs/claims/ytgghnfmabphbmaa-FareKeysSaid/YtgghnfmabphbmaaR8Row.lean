/- FareKeys returns true for all arguments, and leaves them as they were. No condition. -/
import Derived.Test.YtgghnfmabphbmaaR8RowL
namespace Go.Proofs.Ytgghnfmabphbmaa.fareKeys
open Go Go.Proofs.Ytgghnfmabphbmaa.Fw Go.Proofs.Ytgghnfmabphbmaa
open Go.ChangeShapes Go.WideShapes Go.ChangeAt Go.RowKit
open Go.ChangeMaps (open_string shut_string)
set_option linter.unusedVariables false

theorem over : Rows.fareKeysRow.holds Try.pinned (OpenSpec.ofChange Rows.fareKeysSpec) :=
  OpenClaim.holds_of_wide 8 Try.f8 rfl rfl rfl rfl rfl rfl rfl ⟨rfl, rfl, rfl, rfl, rfl⟩ rfl rfl rfl rfl rfl (by kernel_rfl) Try.func8 (by kernel_rfl)
    (of_decide_eq_true (by kernel_rfl)) (by unfold Func.isWrapper; first | (rw [if_pos (by decide +kernel)]; kernel_rfl) | (rw [if_neg (by decide +kernel)]; exact ⟨rfl, rfl⟩))
    (fun os started H enc _ => lifted os started H enc)

theorem proved : Rows.FareKeysSaid := over
#print axioms proved
end Go.Proofs.Ytgghnfmabphbmaa.fareKeys
