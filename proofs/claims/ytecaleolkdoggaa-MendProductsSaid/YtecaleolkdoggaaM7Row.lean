/- MendProducts returns true for all arguments, and leaves them as they were. No condition. -/
import Derived.Test.YtecaleolkdoggaaM7RowL
namespace Go.Proofs.Ytecaleolkdoggaa.mendProducts
open Go Go.Proofs.Ytecaleolkdoggaa.Fw Go.Proofs.Ytecaleolkdoggaa
open Go.ChangeShapes Go.WideShapes Go.ChangeAt Go.RowKit
open Go.ChangeMaps (open_string shut_string)
set_option linter.unusedVariables false

theorem jf0 : Try.pinned.checked.prog.unfollowed 7 = Rows.mendProductsRow.unfollowed := by kernel_rfl
theorem jf1 : Try.pinned.checked.prog.recurses 7 = Rows.mendProductsRow.recurses := by kernel_rfl
theorem jf2 : Try.pinned.checked.prog.inPlace 7 = Rows.mendProductsRow.inPlace := by kernel_rfl
theorem jf3 : Try.pinned.checked.prog.varsNamed 7 = Rows.mendProductsRow.named := by kernel_rfl
theorem jf4 : Try.pinned.checked.prog.stops = [] := by kernel_rfl
theorem jf5 : Try.pinned.checked.prog.stopKnobs = [] := by kernel_rfl
theorem jf6 : Try.pinned.checked.prog.plainKeys = Rows.mendProductsRow.plainKeys := by kernel_rfl
theorem jf7 : Try.pinned.checked.prog.stopsHeard = true := by kernel_rfl
theorem jf8 : Try.pinned.checked.prog.mayEnter = true := by kernel_rfl
theorem jf9 : Try.pinned.checked.prog.liftsFinal = Rows.mendProductsRow.lifted := by kernel_rfl
theorem jf10 : Try.pinned.checked.prog.make = some Rows.mendProductsRow.make := by kernel_rfl
theorem jf11 : laidOutB Try.pinned.checked.prog = true := by kernel_rfl
theorem jf12 : mapsRowed Try.pinned.checked.prog = true := by kernel_rfl
theorem closed : joinedFacts Try.pinned.checked.prog 7 Try.f7 Rows.mendProductsSpec Rows.mendProductsRow = true := by
  unfold joinedFacts
  rw [jf0, jf1, jf2, jf3, jf4, jf5, jf6, jf7, jf8, jf9, jf10, jf11, jf12]
  kernel_rfl

theorem over : Rows.mendProductsRow.holds Try.pinned (OpenSpec.ofChange Rows.mendProductsSpec) :=
  OpenClaim.holds_of_wide 7 Try.f7 rfl rfl rfl rfl rfl rfl rfl ⟨rfl, rfl, rfl, rfl, rfl⟩ rfl rfl rfl rfl rfl (by kernel_rfl) Try.func7 closed
    (of_decide_eq_true (by kernel_rfl)) (by unfold Func.isWrapper; first | (rw [if_pos (by decide +kernel)]; kernel_rfl) | (rw [if_neg (by decide +kernel)]; exact ⟨rfl, rfl⟩))
    (fun os started H enc _ => lifted os started H enc)

theorem proved : Rows.MendProductsSaid := over
#print axioms proved
end Go.Proofs.Ytecaleolkdoggaa.mendProducts
