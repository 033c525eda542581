/- What the cells of numbers, lists of numbers and depots hold. -/
import Derived.Test.YtciflideblafgaaDep
import Derived.Test.YtciflideblafgaaA18
open Go Go.Proofs.Ytciflideblafgaa.Fw
namespace Go.Proofs.Ytciflideblafgaa
set_option linter.unusedVariables false

theorem rInt : Reads Try.prog 3 1 (fun (n : Int) _ => .int .i64 n) (fun n => (Lit.int .i64 n).wf = true) := .int Try.underlying3 (by kernel_rfl)
theorem rInts : Reads Try.prog 22 1 (fun (l : List Int) _ => intsP l) (fun l => l.length ≤ maxLen ∧ l.length * 8 ≤ reachBytes) :=
  (rInt.slice (t := 22) (b := 8) (by decide) (by kernel_rfl) (by kernel_rfl) 0 (by kernel_rfl)).map id (fun l j _ => rfl) (fun l h => h.1)
theorem rLists : Reads Try.prog 23 1 (fun (l : List (List Int)) _ => listsP l) (fun l => (l.length ≤ maxLen ∧ l.length * 24 ≤ reachBytes) ∧ ∀ a ∈ l, a.length ≤ maxLen ∧ a.length * 8 ≤ reachBytes) :=
  (rInts.slice (t := 23) (b := 24) (by decide) (by kernel_rfl) (by kernel_rfl) [] (by kernel_rfl)).map id (fun l j _ => rfl) (fun l h => h)
set_option maxRecDepth 100000 in
theorem rDepot : Reads Try.prog 25 2 (fun (d : Depot) j => pvAt (depC d) j) (fun d => d.room.length ≤ maxLen ∧ d.tracks.length ≤ maxLen ∧ ∀ a ∈ d.tracks, a.length ≤ maxLen) :=
  (Reads.struct Try.underlying25 rfl (by kernel_rfl) (ReadsF.cons rInts (ReadsF.cons rLists (ReadsF.nil) rfl) rfl)).map (fun x => (⟨x.1, x.2.1⟩ : Depot))
    (fun x j hj => by match j, hj with
      | 0, _ => rfl
      | 1, _ => rfl) (fun x h => ⟨h.1.1, h.2.1.1.1, fun a ha => (h.2.1.2 a ha).1⟩)

end Go.Proofs.Ytciflideblafgaa
