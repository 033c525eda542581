/- FarePacks returns true for all arguments, and leaves them as they were. No condition. -/
import Derived.Test.YtgghnfmabphbmaaR14RowL
namespace Go.Proofs.Ytgghnfmabphbmaa.farePacks
open Go Go.Proofs.Ytgghnfmabphbmaa.Fw Go.Proofs.Ytgghnfmabphbmaa
open Go.ChangeShapes Go.WideShapes Go.ChangeAt Go.RowKit
open Go.ChangeMaps (open_string shut_string)
set_option linter.unusedVariables false

theorem over : Rows.farePacksRow.holds Try.pinned (OpenSpec.ofChange Rows.farePacksSpec) :=
  OpenClaim.holds_of_wide 14 Try.f14 rfl rfl rfl rfl rfl rfl rfl ⟨rfl, rfl, rfl, rfl, rfl⟩ rfl rfl rfl rfl rfl (by kernel_rfl) Try.func14 (by kernel_rfl)
    (of_decide_eq_true (by kernel_rfl)) (by unfold Func.isWrapper; first | (rw [if_pos (by decide +kernel)]; kernel_rfl) | (rw [if_neg (by decide +kernel)]; exact ⟨rfl, rfl⟩))
    (fun os started H enc _ => lifted os started H enc)

theorem proved : Rows.FarePacksSaid := over
#print axioms proved
end Go.Proofs.Ytgghnfmabphbmaa.farePacks
