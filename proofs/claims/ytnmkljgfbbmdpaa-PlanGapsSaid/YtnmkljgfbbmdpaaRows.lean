/-
  No cell of these rows narrows 'for every input' (looked for: loops, veiled, ifaces, maps, wideKeys, modest, calm, conditions, laid).
  DERIVED. THE GIVEN ROWS OF THIS SEAT. 5 by the template 'for every input the law returns true; each argument reads behind the call as it read before'; 0 by the template 'total and deterministic' (their statements: YtnmkljgfbbmdpaaTotals.lean).
  GIVEN WITH THE SEED: the statements are not yours to turn. If you find one false, say at which input.
  Laid BY PROGRAM, IN A SANDBOX (cutbox-rows.mjs): the forced cells as the released guide's own fill.sh prints them over the translation 19ed043cedf41ef3… (all of the seat's roots in one cut). By AI agents, Wed Nov 11 2026. No macro, syntax, notation, axiom, sorry.
-/
import Derived.Test.YtnmkljgfbbmdpaaChecked
import GoSem.Claim
import GoSem.ClaimJoined
import GoSem.ClaimMapViews
import Derived.JoinedTies
import Derived.KernelRfl
namespace Go.Proofs.Ytnmkljgfbbmdpaa
/- THE CELL 'sum', in the pinned program and in every row, IS THE sha256 OF THE DUMP (.gsa) THAT YtnmkljgfbbmdpaaProg.lean LOADS. Nothing in Lean hashes anything: it is a label: what it is worth is what the hold of that sum in a sandbox is worth. -/
noncomputable def Try.pinned : Pinned := { name := "ytnmkljgfbbmdpaa", sum := "19ed043cedf41ef33474320359be9568ba47f24f42a119a06141481721381074", checked := Try.checked }
namespace Rows
def none {H : Type} : Left H := { results := [], args := [] }

/-- 'fishlaw2.PlanPeriodics': WHATEVER THE INPUT: true; the input reads as it did. -/
def planPeriodicsSpec : ChangeSpec := { name := "planPeriodics", fn := fun _ => fun
  | [d] => { results := [.lit (.bool true)], args := [d] }
  | _ => none }
def planPeriodicsRow : OpenClaim := { program := "ytnmkljgfbbmdpaa", sum := "19ed043cedf41ef33474320359be9568ba47f24f42a119a06141481721381074", func := "fishplate/fishlaw2.PlanPeriodics", spec := "planPeriodics", unfollowed := true, recurses := true, apart := false }
def PlanPeriodicsSaid : Prop := planPeriodicsRow.holds Try.pinned (OpenSpec.ofChange planPeriodicsSpec)

/-- ITS FALSE NEIGHBOUR: 'it returns false'. Refute it at one input. -/
def planPeriodicsWrong : ChangeSpec := { name := "planPeriodics", fn := fun _ => fun
  | [d] => { results := [.lit (.bool false)], args := [d] }
  | _ => none }
def PlanPeriodicsWrongFalsely : Prop := planPeriodicsRow.holds Try.pinned (OpenSpec.ofChange planPeriodicsWrong)

/-- 'fishlaw2.PlanSolves': WHATEVER THE INPUT: true; the input reads as it did. -/
def planSolvesSpec : ChangeSpec := { name := "planSolves", fn := fun _ => fun
  | [d] => { results := [.lit (.bool true)], args := [d] }
  | _ => none }
def planSolvesRow : OpenClaim := { program := "ytnmkljgfbbmdpaa", sum := "19ed043cedf41ef33474320359be9568ba47f24f42a119a06141481721381074", func := "fishplate/fishlaw2.PlanSolves", spec := "planSolves", unfollowed := true, recurses := true, apart := false }
def PlanSolvesSaid : Prop := planSolvesRow.holds Try.pinned (OpenSpec.ofChange planSolvesSpec)

/-- ITS FALSE NEIGHBOUR: 'it returns false'. Refute it at one input. -/
def planSolvesWrong : ChangeSpec := { name := "planSolves", fn := fun _ => fun
  | [d] => { results := [.lit (.bool false)], args := [d] }
  | _ => none }
def PlanSolvesWrongFalsely : Prop := planSolvesRow.holds Try.pinned (OpenSpec.ofChange planSolvesWrong)

/-- 'fishlaw2.PlanGaps': WHATEVER THE INPUT: true; the input reads as it did. -/
def planGapsSpec : ChangeSpec := { name := "planGaps", fn := fun _ => fun
  | [d1, d2, d3] => { results := [.lit (.bool true)], args := [d1, d2, d3] }
  | _ => none }
def planGapsRow : OpenClaim := { program := "ytnmkljgfbbmdpaa", sum := "19ed043cedf41ef33474320359be9568ba47f24f42a119a06141481721381074", func := "fishplate/fishlaw2.PlanGaps", spec := "planGaps", unfollowed := true, recurses := true, apart := false }
def PlanGapsSaid : Prop := planGapsRow.holds Try.pinned (OpenSpec.ofChange planGapsSpec)

/-- ITS FALSE NEIGHBOUR: 'it returns false'. Refute it at one input. -/
def planGapsWrong : ChangeSpec := { name := "planGaps", fn := fun _ => fun
  | [d1, d2, d3] => { results := [.lit (.bool false)], args := [d1, d2, d3] }
  | _ => none }
def PlanGapsWrongFalsely : Prop := planGapsRow.holds Try.pinned (OpenSpec.ofChange planGapsWrong)

/-- 'fishlaw2.PlanCores': WHATEVER THE INPUT: true; the input reads as it did. -/
def planCoresSpec : ChangeSpec := { name := "planCores", fn := fun _ => fun
  | [d] => { results := [.lit (.bool true)], args := [d] }
  | _ => none }
def planCoresRow : OpenClaim := { program := "ytnmkljgfbbmdpaa", sum := "19ed043cedf41ef33474320359be9568ba47f24f42a119a06141481721381074", func := "fishplate/fishlaw2.PlanCores", spec := "planCores", unfollowed := true, recurses := true, apart := false }
def PlanCoresSaid : Prop := planCoresRow.holds Try.pinned (OpenSpec.ofChange planCoresSpec)

/-- ITS FALSE NEIGHBOUR: 'it returns false'. Refute it at one input. -/
def planCoresWrong : ChangeSpec := { name := "planCores", fn := fun _ => fun
  | [d] => { results := [.lit (.bool false)], args := [d] }
  | _ => none }
def PlanCoresWrongFalsely : Prop := planCoresRow.holds Try.pinned (OpenSpec.ofChange planCoresWrong)

/-- 'fishlaw2.PlanBests': WHATEVER THE INPUT: true; the input reads as it did. -/
def planBestsSpec : ChangeSpec := { name := "planBests", fn := fun _ => fun
  | [d] => { results := [.lit (.bool true)], args := [d] }
  | _ => none }
def planBestsRow : OpenClaim := { program := "ytnmkljgfbbmdpaa", sum := "19ed043cedf41ef33474320359be9568ba47f24f42a119a06141481721381074", func := "fishplate/fishlaw2.PlanBests", spec := "planBests", unfollowed := true, recurses := true, apart := false }
def PlanBestsSaid : Prop := planBestsRow.holds Try.pinned (OpenSpec.ofChange planBestsSpec)

/-- ITS FALSE NEIGHBOUR: 'it returns false'. Refute it at one input. -/
def planBestsWrong : ChangeSpec := { name := "planBests", fn := fun _ => fun
  | [d] => { results := [.lit (.bool false)], args := [d] }
  | _ => none }
def PlanBestsWrongFalsely : Prop := planBestsRow.holds Try.pinned (OpenSpec.ofChange planBestsWrong)

/- THE SECOND FORM. 'bulk': how many values and letters a reading holds, each counted each time it is reached (what is shared counts as often as it is met; a slice's spare places count too). A statement '..UptoSaid' is the law's where the arguments, and the package variables that the reading takes, are together of bulk at most 1048576: NARROWER than '..Said'. Prove '..Said' where nothing that the law and all that it calls make is longer than what came in: it says more and counts as full. Else prove '..UptoSaid'. A law counts once. -/
mutual
def uptoBulk {H : Type} : DataW H → Nat
  | .lit (.string bytes) => bytes.length + 1
  | .lit _ => 1
  | .nil => 1
  | .ptr d => uptoBulk d + 1
  | .slice elems spare => uptoBulkAll elems + uptoBulkAll spare + 1
  | .agg parts => uptoBulkAll parts + 1
  | .iface _ d => uptoBulk d + 1
  | .map entries => uptoBulkEntries entries + 1
  | .held _ => 1
def uptoBulkAll {H : Type} : List (DataW H) → Nat
  | [] => 0
  | d :: r => uptoBulk d + uptoBulkAll r
def uptoBulkEntries {H : Type} : List (Lit × DataW H) → Nat
  | [] => 0
  | x :: r => uptoBulkEntry x + uptoBulkEntries r
def uptoBulkEntry {H : Type} : Lit × DataW H → Nat
  | (.string bytes, d) => bytes.length + uptoBulk d + 1
  | (_, d) => uptoBulk d + 1
 end
def uptoSmall : (H : Type) → List (DataW H) → Bool := fun _ ds => decide (uptoBulkAll ds ≤ 1048576)
def OpenSpec.upto (s : _root_.Go.ChangeSpec) : _root_.Go.OpenSpec := { _root_.Go.OpenSpec.ofChange s with cond := some uptoSmall }

/-- 'fishlaw2.PlanPeriodics', WHERE WHAT IT READS IS OF BULK AT MOST 1048576: true; the input reads as it did. -/
def planPeriodicsUptoRow : OpenClaim := { program := "ytnmkljgfbbmdpaa", sum := "19ed043cedf41ef33474320359be9568ba47f24f42a119a06141481721381074", func := "fishplate/fishlaw2.PlanPeriodics", spec := "planPeriodics", unfollowed := true, recurses := true, apart := false, narrowed := true }
def PlanPeriodicsUptoSaid : Prop := planPeriodicsUptoRow.holds Try.pinned (OpenSpec.upto planPeriodicsSpec)

/-- 'fishlaw2.PlanSolves', WHERE WHAT IT READS IS OF BULK AT MOST 1048576: true; the input reads as it did. -/
def planSolvesUptoRow : OpenClaim := { program := "ytnmkljgfbbmdpaa", sum := "19ed043cedf41ef33474320359be9568ba47f24f42a119a06141481721381074", func := "fishplate/fishlaw2.PlanSolves", spec := "planSolves", unfollowed := true, recurses := true, apart := false, narrowed := true }
def PlanSolvesUptoSaid : Prop := planSolvesUptoRow.holds Try.pinned (OpenSpec.upto planSolvesSpec)

/-- 'fishlaw2.PlanGaps', WHERE WHAT IT READS IS OF BULK AT MOST 1048576: true; the input reads as it did. -/
def planGapsUptoRow : OpenClaim := { program := "ytnmkljgfbbmdpaa", sum := "19ed043cedf41ef33474320359be9568ba47f24f42a119a06141481721381074", func := "fishplate/fishlaw2.PlanGaps", spec := "planGaps", unfollowed := true, recurses := true, apart := false, narrowed := true }
def PlanGapsUptoSaid : Prop := planGapsUptoRow.holds Try.pinned (OpenSpec.upto planGapsSpec)

/-- 'fishlaw2.PlanCores', WHERE WHAT IT READS IS OF BULK AT MOST 1048576: true; the input reads as it did. -/
def planCoresUptoRow : OpenClaim := { program := "ytnmkljgfbbmdpaa", sum := "19ed043cedf41ef33474320359be9568ba47f24f42a119a06141481721381074", func := "fishplate/fishlaw2.PlanCores", spec := "planCores", unfollowed := true, recurses := true, apart := false, narrowed := true }
def PlanCoresUptoSaid : Prop := planCoresUptoRow.holds Try.pinned (OpenSpec.upto planCoresSpec)

/-- 'fishlaw2.PlanBests', WHERE WHAT IT READS IS OF BULK AT MOST 1048576: true; the input reads as it did. -/
def planBestsUptoRow : OpenClaim := { program := "ytnmkljgfbbmdpaa", sum := "19ed043cedf41ef33474320359be9568ba47f24f42a119a06141481721381074", func := "fishplate/fishlaw2.PlanBests", spec := "planBests", unfollowed := true, recurses := true, apart := false, narrowed := true }
def PlanBestsUptoSaid : Prop := planBestsUptoRow.holds Try.pinned (OpenSpec.upto planBestsSpec)

end Rows
end Go.Proofs.Ytnmkljgfbbmdpaa
