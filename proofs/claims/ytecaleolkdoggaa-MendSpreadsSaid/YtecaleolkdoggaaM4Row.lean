/- MendSpreads returns true for all arguments, and leaves them as they were. No condition. -/
import Derived.Test.YtecaleolkdoggaaM4RowL
namespace Go.Proofs.Ytecaleolkdoggaa.mendSpreads
open Go Go.Proofs.Ytecaleolkdoggaa.Fw Go.Proofs.Ytecaleolkdoggaa
open Go.ChangeShapes Go.WideShapes Go.ChangeAt Go.RowKit
open Go.ChangeMaps (open_string shut_string)
set_option linter.unusedVariables false

theorem jf0 : Try.pinned.checked.prog.unfollowed 4 = Rows.mendSpreadsRow.unfollowed := by kernel_rfl
theorem jf1 : Try.pinned.checked.prog.recurses 4 = Rows.mendSpreadsRow.recurses := by kernel_rfl
theorem jf2 : Try.pinned.checked.prog.inPlace 4 = Rows.mendSpreadsRow.inPlace := by kernel_rfl
theorem jf3 : Try.pinned.checked.prog.varsNamed 4 = Rows.mendSpreadsRow.named := by kernel_rfl
theorem jf4 : Try.pinned.checked.prog.stops = [] := by kernel_rfl
theorem jf5 : Try.pinned.checked.prog.stopKnobs = [] := by kernel_rfl
theorem jf6 : Try.pinned.checked.prog.plainKeys = Rows.mendSpreadsRow.plainKeys := by kernel_rfl
theorem jf7 : Try.pinned.checked.prog.stopsHeard = true := by kernel_rfl
theorem jf8 : Try.pinned.checked.prog.mayEnter = true := by kernel_rfl
theorem jf9 : Try.pinned.checked.prog.liftsFinal = Rows.mendSpreadsRow.lifted := by kernel_rfl
theorem jf10 : Try.pinned.checked.prog.make = some Rows.mendSpreadsRow.make := by kernel_rfl
theorem jf11 : laidOutB Try.pinned.checked.prog = true := by kernel_rfl
theorem jf12 : mapsRowed Try.pinned.checked.prog = true := by kernel_rfl
theorem closed : joinedFacts Try.pinned.checked.prog 4 Try.f4 Rows.mendSpreadsSpec Rows.mendSpreadsRow = true := by
  unfold joinedFacts
  rw [jf0, jf1, jf2, jf3, jf4, jf5, jf6, jf7, jf8, jf9, jf10, jf11, jf12]
  kernel_rfl

theorem over : Rows.mendSpreadsRow.holds Try.pinned (OpenSpec.ofChange Rows.mendSpreadsSpec) :=
  OpenClaim.holds_of_wide 4 Try.f4 rfl rfl rfl rfl rfl rfl rfl ⟨rfl, rfl, rfl, rfl, rfl⟩ rfl rfl rfl rfl rfl (by kernel_rfl) Try.func4 closed
    (of_decide_eq_true (by kernel_rfl)) (by unfold Func.isWrapper; first | (rw [if_pos (by decide +kernel)]; kernel_rfl) | (rw [if_neg (by decide +kernel)]; exact ⟨rfl, rfl⟩))
    (fun os started H enc _ => lifted os started H enc)

theorem proved : Rows.MendSpreadsSaid := over
#print axioms proved
end Go.Proofs.Ytecaleolkdoggaa.mendSpreads
