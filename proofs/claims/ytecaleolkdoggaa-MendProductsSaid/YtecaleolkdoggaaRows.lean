/-
  No cell of these rows narrows 'for every input' (looked for: loops, veiled, ifaces, maps, wideKeys, modest, calm, conditions, laid).
  DERIVED. THE GIVEN ROWS OF THIS SEAT. 9 by the template 'for every input the law returns true; each argument reads behind the call as it read before'; 0 by the template 'total and deterministic' (their statements: YtecaleolkdoggaaTotals.lean).
  GIVEN WITH THE SEED: the statements are not yours to turn. If you find one false, say at which input.
  Laid BY PROGRAM, IN A SANDBOX (cutbox-rows.mjs): the forced cells as the released guide's own fill.sh prints them over the translation 82a7d31d4b3e707f… (all of the seat's roots in one cut). By AI agents, Wed Nov 11 2026. No macro, syntax, notation, axiom, sorry.
-/
import Derived.Test.YtecaleolkdoggaaChecked
import GoSem.Claim
import GoSem.ClaimJoined
import GoSem.ClaimMapViews
import Derived.JoinedTies
import Derived.KernelRfl
namespace Go.Proofs.Ytecaleolkdoggaa
/- THE CELL 'sum', in the pinned program and in every row, IS THE sha256 OF THE DUMP (.gsa) THAT YtecaleolkdoggaaProg.lean LOADS. Nothing in Lean hashes anything: it is a label: what it is worth is what the hold of that sum in a sandbox is worth. -/
noncomputable def Try.pinned : Pinned := { name := "ytecaleolkdoggaa", sum := "82a7d31d4b3e707f5db2b82d188bf36793dc7d6e9b8e5e46e669be4e1e28a6fa", checked := Try.checked }
namespace Rows
def none {H : Type} : Left H := { results := [], args := [] }

/-- 'fishlaw2.MendRounds': WHATEVER THE INPUT: true; the input reads as it did. -/
def mendRoundsSpec : ChangeSpec := { name := "mendRounds", fn := fun _ => fun
  | [d] => { results := [.lit (.bool true)], args := [d] }
  | _ => none }
def mendRoundsRow : OpenClaim := { program := "ytecaleolkdoggaa", sum := "82a7d31d4b3e707f5db2b82d188bf36793dc7d6e9b8e5e46e669be4e1e28a6fa", func := "fishplate/fishlaw2.MendRounds", spec := "mendRounds", unfollowed := true, recurses := true, apart := false }
def MendRoundsSaid : Prop := mendRoundsRow.holds Try.pinned (OpenSpec.ofChange mendRoundsSpec)

/-- ITS FALSE NEIGHBOUR: 'it returns false'. Refute it at one input. -/
def mendRoundsWrong : ChangeSpec := { name := "mendRounds", fn := fun _ => fun
  | [d] => { results := [.lit (.bool false)], args := [d] }
  | _ => none }
def MendRoundsWrongFalsely : Prop := mendRoundsRow.holds Try.pinned (OpenSpec.ofChange mendRoundsWrong)

/-- 'fishlaw2.MendSpreads': WHATEVER THE INPUT: true; the input reads as it did. -/
def mendSpreadsSpec : ChangeSpec := { name := "mendSpreads", fn := fun _ => fun
  | [d1, d2, d3] => { results := [.lit (.bool true)], args := [d1, d2, d3] }
  | _ => none }
def mendSpreadsRow : OpenClaim := { program := "ytecaleolkdoggaa", sum := "82a7d31d4b3e707f5db2b82d188bf36793dc7d6e9b8e5e46e669be4e1e28a6fa", func := "fishplate/fishlaw2.MendSpreads", spec := "mendSpreads", unfollowed := true, recurses := true, apart := false }
def MendSpreadsSaid : Prop := mendSpreadsRow.holds Try.pinned (OpenSpec.ofChange mendSpreadsSpec)

/-- ITS FALSE NEIGHBOUR: 'it returns false'. Refute it at one input. -/
def mendSpreadsWrong : ChangeSpec := { name := "mendSpreads", fn := fun _ => fun
  | [d1, d2, d3] => { results := [.lit (.bool false)], args := [d1, d2, d3] }
  | _ => none }
def MendSpreadsWrongFalsely : Prop := mendSpreadsRow.holds Try.pinned (OpenSpec.ofChange mendSpreadsWrong)

/-- 'fishlaw2.MendGraphs': WHATEVER THE INPUT: true; the input reads as it did. -/
def mendGraphsSpec : ChangeSpec := { name := "mendGraphs", fn := fun _ => fun
  | [d] => { results := [.lit (.bool true)], args := [d] }
  | _ => none }
def mendGraphsRow : OpenClaim := { program := "ytecaleolkdoggaa", sum := "82a7d31d4b3e707f5db2b82d188bf36793dc7d6e9b8e5e46e669be4e1e28a6fa", func := "fishplate/fishlaw2.MendGraphs", spec := "mendGraphs", unfollowed := true, recurses := true, apart := false }
def MendGraphsSaid : Prop := mendGraphsRow.holds Try.pinned (OpenSpec.ofChange mendGraphsSpec)

/-- ITS FALSE NEIGHBOUR: 'it returns false'. Refute it at one input. -/
def mendGraphsWrong : ChangeSpec := { name := "mendGraphs", fn := fun _ => fun
  | [d] => { results := [.lit (.bool false)], args := [d] }
  | _ => none }
def MendGraphsWrongFalsely : Prop := mendGraphsRow.holds Try.pinned (OpenSpec.ofChange mendGraphsWrong)

/-- 'fishlaw2.MendBests': WHATEVER THE INPUT: true; the input reads as it did. -/
def mendBestsSpec : ChangeSpec := { name := "mendBests", fn := fun _ => fun
  | [d] => { results := [.lit (.bool true)], args := [d] }
  | _ => none }
def mendBestsRow : OpenClaim := { program := "ytecaleolkdoggaa", sum := "82a7d31d4b3e707f5db2b82d188bf36793dc7d6e9b8e5e46e669be4e1e28a6fa", func := "fishplate/fishlaw2.MendBests", spec := "mendBests", unfollowed := true, recurses := true, apart := false }
def MendBestsSaid : Prop := mendBestsRow.holds Try.pinned (OpenSpec.ofChange mendBestsSpec)

/-- ITS FALSE NEIGHBOUR: 'it returns false'. Refute it at one input. -/
def mendBestsWrong : ChangeSpec := { name := "mendBests", fn := fun _ => fun
  | [d] => { results := [.lit (.bool false)], args := [d] }
  | _ => none }
def MendBestsWrongFalsely : Prop := mendBestsRow.holds Try.pinned (OpenSpec.ofChange mendBestsWrong)

/-- 'fishlaw2.MendProducts': WHATEVER THE INPUT: true; the input reads as it did. -/
def mendProductsSpec : ChangeSpec := { name := "mendProducts", fn := fun _ => fun
  | [d1, d2] => { results := [.lit (.bool true)], args := [d1, d2] }
  | _ => none }
def mendProductsRow : OpenClaim := { program := "ytecaleolkdoggaa", sum := "82a7d31d4b3e707f5db2b82d188bf36793dc7d6e9b8e5e46e669be4e1e28a6fa", func := "fishplate/fishlaw2.MendProducts", spec := "mendProducts", unfollowed := true, recurses := true, apart := false }
def MendProductsSaid : Prop := mendProductsRow.holds Try.pinned (OpenSpec.ofChange mendProductsSpec)

/-- ITS FALSE NEIGHBOUR: 'it returns false'. Refute it at one input. -/
def mendProductsWrong : ChangeSpec := { name := "mendProducts", fn := fun _ => fun
  | [d1, d2] => { results := [.lit (.bool false)], args := [d1, d2] }
  | _ => none }
def MendProductsWrongFalsely : Prop := mendProductsRow.holds Try.pinned (OpenSpec.ofChange mendProductsWrong)

/-- 'fishlaw2.MendSettles': WHATEVER THE INPUT: true; the input reads as it did. -/
def mendSettlesSpec : ChangeSpec := { name := "mendSettles", fn := fun _ => fun
  | [d1, d2] => { results := [.lit (.bool true)], args := [d1, d2] }
  | _ => none }
def mendSettlesRow : OpenClaim := { program := "ytecaleolkdoggaa", sum := "82a7d31d4b3e707f5db2b82d188bf36793dc7d6e9b8e5e46e669be4e1e28a6fa", func := "fishplate/fishlaw2.MendSettles", spec := "mendSettles", unfollowed := true, recurses := true, apart := false }
def MendSettlesSaid : Prop := mendSettlesRow.holds Try.pinned (OpenSpec.ofChange mendSettlesSpec)

/-- ITS FALSE NEIGHBOUR: 'it returns false'. Refute it at one input. -/
def mendSettlesWrong : ChangeSpec := { name := "mendSettles", fn := fun _ => fun
  | [d1, d2] => { results := [.lit (.bool false)], args := [d1, d2] }
  | _ => none }
def MendSettlesWrongFalsely : Prop := mendSettlesRow.holds Try.pinned (OpenSpec.ofChange mendSettlesWrong)

/-- 'fishlaw2.MendQuicks': WHATEVER THE INPUT: true; the input reads as it did. -/
def mendQuicksSpec : ChangeSpec := { name := "mendQuicks", fn := fun _ => fun
  | [d] => { results := [.lit (.bool true)], args := [d] }
  | _ => none }
def mendQuicksRow : OpenClaim := { program := "ytecaleolkdoggaa", sum := "82a7d31d4b3e707f5db2b82d188bf36793dc7d6e9b8e5e46e669be4e1e28a6fa", func := "fishplate/fishlaw2.MendQuicks", spec := "mendQuicks", unfollowed := true, recurses := true, apart := false }
def MendQuicksSaid : Prop := mendQuicksRow.holds Try.pinned (OpenSpec.ofChange mendQuicksSpec)

/-- ITS FALSE NEIGHBOUR: 'it returns false'. Refute it at one input. -/
def mendQuicksWrong : ChangeSpec := { name := "mendQuicks", fn := fun _ => fun
  | [d] => { results := [.lit (.bool false)], args := [d] }
  | _ => none }
def MendQuicksWrongFalsely : Prop := mendQuicksRow.holds Try.pinned (OpenSpec.ofChange mendQuicksWrong)

/-- 'fishlaw2.MendForced': WHATEVER THE INPUT: true; the input reads as it did. -/
def mendForcedSpec : ChangeSpec := { name := "mendForced", fn := fun _ => fun
  | [d1, d2] => { results := [.lit (.bool true)], args := [d1, d2] }
  | _ => none }
def mendForcedRow : OpenClaim := { program := "ytecaleolkdoggaa", sum := "82a7d31d4b3e707f5db2b82d188bf36793dc7d6e9b8e5e46e669be4e1e28a6fa", func := "fishplate/fishlaw2.MendForced", spec := "mendForced", unfollowed := true, recurses := true, apart := false }
def MendForcedSaid : Prop := mendForcedRow.holds Try.pinned (OpenSpec.ofChange mendForcedSpec)

/-- ITS FALSE NEIGHBOUR: 'it returns false'. Refute it at one input. -/
def mendForcedWrong : ChangeSpec := { name := "mendForced", fn := fun _ => fun
  | [d1, d2] => { results := [.lit (.bool false)], args := [d1, d2] }
  | _ => none }
def MendForcedWrongFalsely : Prop := mendForcedRow.holds Try.pinned (OpenSpec.ofChange mendForcedWrong)

/-- 'fishlaw2.MendTimes': WHATEVER THE INPUT: true; the input reads as it did. -/
def mendTimesSpec : ChangeSpec := { name := "mendTimes", fn := fun _ => fun
  | [d1, d2, d3] => { results := [.lit (.bool true)], args := [d1, d2, d3] }
  | _ => none }
def mendTimesRow : OpenClaim := { program := "ytecaleolkdoggaa", sum := "82a7d31d4b3e707f5db2b82d188bf36793dc7d6e9b8e5e46e669be4e1e28a6fa", func := "fishplate/fishlaw2.MendTimes", spec := "mendTimes", unfollowed := true, recurses := true, apart := false }
def MendTimesSaid : Prop := mendTimesRow.holds Try.pinned (OpenSpec.ofChange mendTimesSpec)

/-- ITS FALSE NEIGHBOUR: 'it returns false'. Refute it at one input. -/
def mendTimesWrong : ChangeSpec := { name := "mendTimes", fn := fun _ => fun
  | [d1, d2, d3] => { results := [.lit (.bool false)], args := [d1, d2, d3] }
  | _ => none }
def MendTimesWrongFalsely : Prop := mendTimesRow.holds Try.pinned (OpenSpec.ofChange mendTimesWrong)

/- THE SECOND FORM. 'bulk': how many values and letters a reading holds, each counted each time it is reached (what is shared counts as often as it is met; a slice's spare places count too). A statement '..UptoSaid' is the law's where the arguments, and the package variables that the reading takes, are together of bulk at most 1048576: NARROWER than '..Said'. Prove '..Said' where nothing that the law and all that it calls make is longer than what came in: it says more and counts as full. Else prove '..UptoSaid'. A law counts once. -/
mutual
def uptoBulk {H : Type} : DataW H → Nat
  | .lit (.string bytes) => bytes.length + 1
  | .lit _ => 1
  | .nil => 1
  | .ptr d => uptoBulk d + 1
  | .slice elems spare => uptoBulkAll elems + uptoBulkAll spare + 1
  | .agg parts => uptoBulkAll parts + 1
  | .iface _ d => uptoBulk d + 1
  | .map entries => uptoBulkEntries entries + 1
  | .held _ => 1
def uptoBulkAll {H : Type} : List (DataW H) → Nat
  | [] => 0
  | d :: r => uptoBulk d + uptoBulkAll r
def uptoBulkEntries {H : Type} : List (Lit × DataW H) → Nat
  | [] => 0
  | x :: r => uptoBulkEntry x + uptoBulkEntries r
def uptoBulkEntry {H : Type} : Lit × DataW H → Nat
  | (.string bytes, d) => bytes.length + uptoBulk d + 1
  | (_, d) => uptoBulk d + 1
 end
def uptoSmall : (H : Type) → List (DataW H) → Bool := fun _ ds => decide (uptoBulkAll ds ≤ 1048576)
def OpenSpec.upto (s : _root_.Go.ChangeSpec) : _root_.Go.OpenSpec := { _root_.Go.OpenSpec.ofChange s with cond := some uptoSmall }

/-- 'fishlaw2.MendRounds', WHERE WHAT IT READS IS OF BULK AT MOST 1048576: true; the input reads as it did. -/
def mendRoundsUptoRow : OpenClaim := { program := "ytecaleolkdoggaa", sum := "82a7d31d4b3e707f5db2b82d188bf36793dc7d6e9b8e5e46e669be4e1e28a6fa", func := "fishplate/fishlaw2.MendRounds", spec := "mendRounds", unfollowed := true, recurses := true, apart := false, narrowed := true }
def MendRoundsUptoSaid : Prop := mendRoundsUptoRow.holds Try.pinned (OpenSpec.upto mendRoundsSpec)

/-- 'fishlaw2.MendSpreads', WHERE WHAT IT READS IS OF BULK AT MOST 1048576: true; the input reads as it did. -/
def mendSpreadsUptoRow : OpenClaim := { program := "ytecaleolkdoggaa", sum := "82a7d31d4b3e707f5db2b82d188bf36793dc7d6e9b8e5e46e669be4e1e28a6fa", func := "fishplate/fishlaw2.MendSpreads", spec := "mendSpreads", unfollowed := true, recurses := true, apart := false, narrowed := true }
def MendSpreadsUptoSaid : Prop := mendSpreadsUptoRow.holds Try.pinned (OpenSpec.upto mendSpreadsSpec)

/-- 'fishlaw2.MendGraphs', WHERE WHAT IT READS IS OF BULK AT MOST 1048576: true; the input reads as it did. -/
def mendGraphsUptoRow : OpenClaim := { program := "ytecaleolkdoggaa", sum := "82a7d31d4b3e707f5db2b82d188bf36793dc7d6e9b8e5e46e669be4e1e28a6fa", func := "fishplate/fishlaw2.MendGraphs", spec := "mendGraphs", unfollowed := true, recurses := true, apart := false, narrowed := true }
def MendGraphsUptoSaid : Prop := mendGraphsUptoRow.holds Try.pinned (OpenSpec.upto mendGraphsSpec)

/-- 'fishlaw2.MendBests', WHERE WHAT IT READS IS OF BULK AT MOST 1048576: true; the input reads as it did. -/
def mendBestsUptoRow : OpenClaim := { program := "ytecaleolkdoggaa", sum := "82a7d31d4b3e707f5db2b82d188bf36793dc7d6e9b8e5e46e669be4e1e28a6fa", func := "fishplate/fishlaw2.MendBests", spec := "mendBests", unfollowed := true, recurses := true, apart := false, narrowed := true }
def MendBestsUptoSaid : Prop := mendBestsUptoRow.holds Try.pinned (OpenSpec.upto mendBestsSpec)

/-- 'fishlaw2.MendProducts', WHERE WHAT IT READS IS OF BULK AT MOST 1048576: true; the input reads as it did. -/
def mendProductsUptoRow : OpenClaim := { program := "ytecaleolkdoggaa", sum := "82a7d31d4b3e707f5db2b82d188bf36793dc7d6e9b8e5e46e669be4e1e28a6fa", func := "fishplate/fishlaw2.MendProducts", spec := "mendProducts", unfollowed := true, recurses := true, apart := false, narrowed := true }
def MendProductsUptoSaid : Prop := mendProductsUptoRow.holds Try.pinned (OpenSpec.upto mendProductsSpec)

/-- 'fishlaw2.MendSettles', WHERE WHAT IT READS IS OF BULK AT MOST 1048576: true; the input reads as it did. -/
def mendSettlesUptoRow : OpenClaim := { program := "ytecaleolkdoggaa", sum := "82a7d31d4b3e707f5db2b82d188bf36793dc7d6e9b8e5e46e669be4e1e28a6fa", func := "fishplate/fishlaw2.MendSettles", spec := "mendSettles", unfollowed := true, recurses := true, apart := false, narrowed := true }
def MendSettlesUptoSaid : Prop := mendSettlesUptoRow.holds Try.pinned (OpenSpec.upto mendSettlesSpec)

/-- 'fishlaw2.MendQuicks', WHERE WHAT IT READS IS OF BULK AT MOST 1048576: true; the input reads as it did. -/
def mendQuicksUptoRow : OpenClaim := { program := "ytecaleolkdoggaa", sum := "82a7d31d4b3e707f5db2b82d188bf36793dc7d6e9b8e5e46e669be4e1e28a6fa", func := "fishplate/fishlaw2.MendQuicks", spec := "mendQuicks", unfollowed := true, recurses := true, apart := false, narrowed := true }
def MendQuicksUptoSaid : Prop := mendQuicksUptoRow.holds Try.pinned (OpenSpec.upto mendQuicksSpec)

/-- 'fishlaw2.MendForced', WHERE WHAT IT READS IS OF BULK AT MOST 1048576: true; the input reads as it did. -/
def mendForcedUptoRow : OpenClaim := { program := "ytecaleolkdoggaa", sum := "82a7d31d4b3e707f5db2b82d188bf36793dc7d6e9b8e5e46e669be4e1e28a6fa", func := "fishplate/fishlaw2.MendForced", spec := "mendForced", unfollowed := true, recurses := true, apart := false, narrowed := true }
def MendForcedUptoSaid : Prop := mendForcedUptoRow.holds Try.pinned (OpenSpec.upto mendForcedSpec)

/-- 'fishlaw2.MendTimes', WHERE WHAT IT READS IS OF BULK AT MOST 1048576: true; the input reads as it did. -/
def mendTimesUptoRow : OpenClaim := { program := "ytecaleolkdoggaa", sum := "82a7d31d4b3e707f5db2b82d188bf36793dc7d6e9b8e5e46e669be4e1e28a6fa", func := "fishplate/fishlaw2.MendTimes", spec := "mendTimes", unfollowed := true, recurses := true, apart := false, narrowed := true }
def MendTimesUptoSaid : Prop := mendTimesUptoRow.holds Try.pinned (OpenSpec.upto mendTimesSpec)

end Rows
end Go.Proofs.Ytecaleolkdoggaa
