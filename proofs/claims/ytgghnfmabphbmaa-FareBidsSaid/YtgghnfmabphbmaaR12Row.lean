/- FareBids returns true for all arguments, and leaves them as they were. No condition. -/
import Derived.Test.YtgghnfmabphbmaaR12RowL
namespace Go.Proofs.Ytgghnfmabphbmaa.fareBids
open Go Go.Proofs.Ytgghnfmabphbmaa.Fw Go.Proofs.Ytgghnfmabphbmaa
open Go.ChangeShapes Go.WideShapes Go.ChangeAt Go.RowKit
open Go.ChangeMaps (open_string shut_string)
set_option linter.unusedVariables false

theorem jf0 : Try.pinned.checked.prog.unfollowed 12 = Rows.fareBidsRow.unfollowed := by kernel_rfl
theorem jf1 : Try.pinned.checked.prog.recurses 12 = Rows.fareBidsRow.recurses := by kernel_rfl
theorem jf2 : Try.pinned.checked.prog.inPlace 12 = Rows.fareBidsRow.inPlace := by kernel_rfl
theorem jf3 : Try.pinned.checked.prog.varsNamed 12 = Rows.fareBidsRow.named := by kernel_rfl
theorem jf4 : Try.pinned.checked.prog.stops = [] := by kernel_rfl
theorem jf5 : Try.pinned.checked.prog.stopKnobs = [] := by kernel_rfl
theorem jf6 : Try.pinned.checked.prog.plainKeys = Rows.fareBidsRow.plainKeys := by kernel_rfl
theorem jf7 : Try.pinned.checked.prog.stopsHeard = true := by kernel_rfl
theorem jf8 : Try.pinned.checked.prog.mayEnter = true := by kernel_rfl
theorem jf9 : Try.pinned.checked.prog.liftsFinal = Rows.fareBidsRow.lifted := by kernel_rfl
theorem jf10 : Try.pinned.checked.prog.make = some Rows.fareBidsRow.make := by kernel_rfl
theorem jf11 : laidOutB Try.pinned.checked.prog = true := by kernel_rfl
theorem jf12 : mapsRowed Try.pinned.checked.prog = true := by kernel_rfl
theorem closed : joinedFacts Try.pinned.checked.prog 12 Try.f12 Rows.fareBidsSpec Rows.fareBidsRow = true := by
  unfold joinedFacts
  rw [jf0, jf1, jf2, jf3, jf4, jf5, jf6, jf7, jf8, jf9, jf10, jf11, jf12]
  kernel_rfl

theorem over : Rows.fareBidsRow.holds Try.pinned (OpenSpec.ofChange Rows.fareBidsSpec) :=
  OpenClaim.holds_of_wide 12 Try.f12 rfl rfl rfl rfl rfl rfl rfl ⟨rfl, rfl, rfl, rfl, rfl⟩ rfl rfl rfl rfl rfl (by kernel_rfl) Try.func12 closed
    (of_decide_eq_true (by kernel_rfl)) (by unfold Func.isWrapper; first | (rw [if_pos (by decide +kernel)]; kernel_rfl) | (rw [if_neg (by decide +kernel)]; exact ⟨rfl, rfl⟩))
    (fun os started H enc _ => lifted os started H enc)

theorem proved : Rows.FareBidsSaid := over
#print axioms proved
end Go.Proofs.Ytgghnfmabphbmaa.fareBids
