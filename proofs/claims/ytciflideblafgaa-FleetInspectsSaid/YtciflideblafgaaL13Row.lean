/- FleetInspects returns true for all arguments, and leaves them as they were. No condition. -/
import Derived.Test.YtciflideblafgaaL13RowL
namespace Go.Proofs.Ytciflideblafgaa.fleetInspects
open Go Go.Proofs.Ytciflideblafgaa.Fw Go.Proofs.Ytciflideblafgaa
open Go.ChangeShapes Go.WideShapes Go.ChangeAt Go.RowKit
open Go.ChangeMaps (open_string shut_string)
set_option linter.unusedVariables false

theorem over : Rows.fleetInspectsRow.holds Try.pinned (OpenSpec.ofChange Rows.fleetInspectsSpec) :=
  OpenClaim.holds_of_wide 13 Try.f13 rfl rfl rfl rfl rfl rfl rfl ⟨rfl, rfl, rfl, rfl, rfl⟩ rfl rfl rfl rfl rfl (by kernel_rfl) Try.func13 (by kernel_rfl)
    (of_decide_eq_true (by kernel_rfl)) (by unfold Func.isWrapper; first | (rw [if_pos (by decide +kernel)]; kernel_rfl) | (rw [if_neg (by decide +kernel)]; exact ⟨rfl, rfl⟩))
    (fun os started H enc _ => lifted os started H enc)

theorem proved : Rows.FleetInspectsSaid := over
#print axioms proved
end Go.Proofs.Ytciflideblafgaa.fleetInspects
