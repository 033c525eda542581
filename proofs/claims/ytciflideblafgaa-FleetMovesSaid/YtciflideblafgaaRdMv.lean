/- What the cells of moves hold. -/
import Derived.Test.YtciflideblafgaaMv
import Derived.Test.YtciflideblafgaaRdB
open Go Go.Proofs.Ytciflideblafgaa.Fw
namespace Go.Proofs.Ytciflideblafgaa
set_option linter.unusedVariables false

set_option maxRecDepth 100000 in
theorem rMove : Reads Try.prog 44 2 (fun (d : Move) j => pvAt (moveC d) j) (fun _ => True) :=
  (Reads.struct Try.underlying44 rfl (by kernel_rfl) (ReadsF.cons rInt (ReadsF.cons rInt (ReadsF.nil) rfl) rfl)).map (fun x => (⟨x.1, x.2.1⟩ : Move))
    (fun x j hj => by match j, hj with
      | 0, _ => rfl
      | 1, _ => rfl) (fun _ _ => trivial)
theorem rMoves : Reads Try.prog 38 1 (fun (l : List Move) _ => movesP l) (fun l => l.length ≤ maxLen) :=
  (rMove.slice (t := 38) (by decide) (by kernel_rfl) (by kernel_rfl) move0).map id (fun l j _ => rfl) (fun l h => h.1)

end Go.Proofs.Ytciflideblafgaa
