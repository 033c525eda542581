/- What the cells of tasks and of limits hold. -/
import Derived.Test.YtciflideblafgaaDutyT
import Derived.Test.YtciflideblafgaaRdB
open Go Go.Proofs.Ytciflideblafgaa.Fw
namespace Go.Proofs.Ytciflideblafgaa
set_option linter.unusedVariables false

set_option maxRecDepth 100000 in
theorem rTask : Reads Try.prog 108 6 (fun (d : Task) j => pvAt (taskC d) j) (fun _ => True) :=
  (Reads.struct Try.underlying108 rfl (by kernel_rfl) (ReadsF.cons rInt (ReadsF.cons rInt (ReadsF.cons rInt (ReadsF.cons rInt (ReadsF.cons rInt (ReadsF.cons rInt (ReadsF.nil) rfl) rfl) rfl) rfl) rfl) rfl)).map (fun x => (⟨x.1, x.2.1, x.2.2.1, x.2.2.2.1, x.2.2.2.2.1, x.2.2.2.2.2.1⟩ : Task))
    (fun x j hj => by match j, hj with
      | 0, _ => rfl
      | 1, _ => rfl
      | 2, _ => rfl
      | 3, _ => rfl
      | 4, _ => rfl
      | 5, _ => rfl) (fun _ _ => trivial)
theorem rTasks : Reads Try.prog 33 1 (fun (l : List Task) _ => tasksP l) (fun l => l.length ≤ maxLen) :=
  (rTask.slice (t := 33) (b := 48) (by decide) (by kernel_rfl) (by kernel_rfl) task0 (by kernel_rfl)).map id (fun l j _ => rfl) (fun l h => h.1.1)
set_option maxRecDepth 100000 in
theorem rLim : Reads Try.prog 35 7 (fun (d : Lim) j => pvAt (limC d) j) (fun _ => True) :=
  (Reads.struct Try.underlying35 rfl (by kernel_rfl) (ReadsF.cons rInt (ReadsF.cons rInt (ReadsF.cons rInt (ReadsF.cons rInt (ReadsF.cons rInt (ReadsF.cons rInt (ReadsF.cons rInt (ReadsF.nil) rfl) rfl) rfl) rfl) rfl) rfl) rfl)).map (fun x => (⟨x.1, x.2.1, x.2.2.1, x.2.2.2.1, x.2.2.2.2.1, x.2.2.2.2.2.1, x.2.2.2.2.2.2.1⟩ : Lim))
    (fun x j hj => by match j, hj with
      | 0, _ => rfl
      | 1, _ => rfl
      | 2, _ => rfl
      | 3, _ => rfl
      | 4, _ => rfl
      | 5, _ => rfl
      | 6, _ => rfl) (fun _ _ => trivial)

end Go.Proofs.Ytciflideblafgaa
