/-
  No cell of these rows narrows 'for every input' (looked for: loops, veiled, ifaces, maps, wideKeys, modest, calm, conditions, laid).
  DERIVED. THE GIVEN ROWS OF THIS SEAT. 16 by the template 'for every input the law returns true; each argument reads behind the call as it read before'; 0 by the template 'total and deterministic' (their statements: YtciflideblafgaaTotals.lean).
  GIVEN WITH THE SEED: the statements are not yours to turn. If you find one false, say at which input.
  Laid BY PROGRAM, IN A SANDBOX (cutbox-rows.mjs): the forced cells as the released guide's own fill.sh prints them over the translation aba756b3b2855904… (all of the seat's roots in one cut). By AI agents, Wed Nov 11 2026. No macro, syntax, notation, axiom, sorry.
-/
import Derived.Test.YtciflideblafgaaChecked
import GoSem.Claim
import GoSem.ClaimJoined
import GoSem.ClaimMapViews
import Derived.JoinedTies
import Derived.KernelRfl
namespace Go.Proofs.Ytciflideblafgaa
/- THE CELL 'sum', in the pinned program and in every row, IS THE sha256 OF THE DUMP (.gsa) THAT YtciflideblafgaaProg.lean LOADS. Nothing in Lean hashes anything: it is a label: what it is worth is what the hold of that sum in a sandbox is worth. -/
noncomputable def Try.pinned : Pinned := { name := "ytciflideblafgaa", sum := "aba756b3b28559049828c73bd3e5ef9303d16a7449d67d2a4304d47f29a6e88a", checked := Try.checked }
namespace Rows
def none {H : Type} : Left H := { results := [], args := [] }

/-- 'fishlaw2.FleetDepots': WHATEVER THE INPUT: true; the input reads as it did. -/
def fleetDepotsSpec : ChangeSpec := { name := "fleetDepots", fn := fun _ => fun
  | [d1, d2] => { results := [.lit (.bool true)], args := [d1, d2] }
  | _ => none }
def fleetDepotsRow : OpenClaim := { program := "ytciflideblafgaa", sum := "aba756b3b28559049828c73bd3e5ef9303d16a7449d67d2a4304d47f29a6e88a", func := "fishplate/fishlaw2.FleetDepots", spec := "fleetDepots", plainKeys := false, apart := false }
def FleetDepotsSaid : Prop := fleetDepotsRow.holds Try.pinned (OpenSpec.ofChange fleetDepotsSpec)

/-- ITS FALSE NEIGHBOUR: 'it returns false'. Refute it at one input. -/
def fleetDepotsWrong : ChangeSpec := { name := "fleetDepots", fn := fun _ => fun
  | [d1, d2] => { results := [.lit (.bool false)], args := [d1, d2] }
  | _ => none }
def FleetDepotsWrongFalsely : Prop := fleetDepotsRow.holds Try.pinned (OpenSpec.ofChange fleetDepotsWrong)

/-- 'fishlaw2.FleetJudges': WHATEVER THE INPUT: true; the input reads as it did. -/
def fleetJudgesSpec : ChangeSpec := { name := "fleetJudges", fn := fun _ => fun
  | [d1, d2, d3] => { results := [.lit (.bool true)], args := [d1, d2, d3] }
  | _ => none }
def fleetJudgesRow : OpenClaim := { program := "ytciflideblafgaa", sum := "aba756b3b28559049828c73bd3e5ef9303d16a7449d67d2a4304d47f29a6e88a", func := "fishplate/fishlaw2.FleetJudges", spec := "fleetJudges", unfollowed := true, recurses := true, plainKeys := false, apart := false }
def FleetJudgesSaid : Prop := fleetJudgesRow.holds Try.pinned (OpenSpec.ofChange fleetJudgesSpec)

/-- ITS FALSE NEIGHBOUR: 'it returns false'. Refute it at one input. -/
def fleetJudgesWrong : ChangeSpec := { name := "fleetJudges", fn := fun _ => fun
  | [d1, d2, d3] => { results := [.lit (.bool false)], args := [d1, d2, d3] }
  | _ => none }
def FleetJudgesWrongFalsely : Prop := fleetJudgesRow.holds Try.pinned (OpenSpec.ofChange fleetJudgesWrong)

/-- 'fishlaw2.FleetMoves': WHATEVER THE INPUT: true; the input reads as it did. -/
def fleetMovesSpec : ChangeSpec := { name := "fleetMoves", fn := fun _ => fun
  | [d1, d2] => { results := [.lit (.bool true)], args := [d1, d2] }
  | _ => none }
def fleetMovesRow : OpenClaim := { program := "ytciflideblafgaa", sum := "aba756b3b28559049828c73bd3e5ef9303d16a7449d67d2a4304d47f29a6e88a", func := "fishplate/fishlaw2.FleetMoves", spec := "fleetMoves", unfollowed := true, recurses := true, plainKeys := false, apart := false }
def FleetMovesSaid : Prop := fleetMovesRow.holds Try.pinned (OpenSpec.ofChange fleetMovesSpec)

/-- ITS FALSE NEIGHBOUR: 'it returns false'. Refute it at one input. -/
def fleetMovesWrong : ChangeSpec := { name := "fleetMoves", fn := fun _ => fun
  | [d1, d2] => { results := [.lit (.bool false)], args := [d1, d2] }
  | _ => none }
def FleetMovesWrongFalsely : Prop := fleetMovesRow.holds Try.pinned (OpenSpec.ofChange fleetMovesWrong)

/-- 'fishlaw2.FleetShifts': WHATEVER THE INPUT: true; the input reads as it did. -/
def fleetShiftsSpec : ChangeSpec := { name := "fleetShifts", fn := fun _ => fun
  | [d1, d2, d3] => { results := [.lit (.bool true)], args := [d1, d2, d3] }
  | _ => none }
def fleetShiftsRow : OpenClaim := { program := "ytciflideblafgaa", sum := "aba756b3b28559049828c73bd3e5ef9303d16a7449d67d2a4304d47f29a6e88a", func := "fishplate/fishlaw2.FleetShifts", spec := "fleetShifts", unfollowed := true, recurses := true, plainKeys := false, apart := false }
def FleetShiftsSaid : Prop := fleetShiftsRow.holds Try.pinned (OpenSpec.ofChange fleetShiftsSpec)

/-- ITS FALSE NEIGHBOUR: 'it returns false'. Refute it at one input. -/
def fleetShiftsWrong : ChangeSpec := { name := "fleetShifts", fn := fun _ => fun
  | [d1, d2, d3] => { results := [.lit (.bool false)], args := [d1, d2, d3] }
  | _ => none }
def FleetShiftsWrongFalsely : Prop := fleetShiftsRow.holds Try.pinned (OpenSpec.ofChange fleetShiftsWrong)

/-- 'fishlaw2.FleetRosters': WHATEVER THE INPUT: true; the input reads as it did. -/
def fleetRostersSpec : ChangeSpec := { name := "fleetRosters", fn := fun _ => fun
  | [d1, d2, d3] => { results := [.lit (.bool true)], args := [d1, d2, d3] }
  | _ => none }
def fleetRostersRow : OpenClaim := { program := "ytciflideblafgaa", sum := "aba756b3b28559049828c73bd3e5ef9303d16a7449d67d2a4304d47f29a6e88a", func := "fishplate/fishlaw2.FleetRosters", spec := "fleetRosters", unfollowed := true, recurses := true, plainKeys := false, apart := false }
def FleetRostersSaid : Prop := fleetRostersRow.holds Try.pinned (OpenSpec.ofChange fleetRostersSpec)

/-- ITS FALSE NEIGHBOUR: 'it returns false'. Refute it at one input. -/
def fleetRostersWrong : ChangeSpec := { name := "fleetRosters", fn := fun _ => fun
  | [d1, d2, d3] => { results := [.lit (.bool false)], args := [d1, d2, d3] }
  | _ => none }
def FleetRostersWrongFalsely : Prop := fleetRostersRow.holds Try.pinned (OpenSpec.ofChange fleetRostersWrong)

/-- 'fishlaw2.FleetTasks': WHATEVER THE INPUT: true; the input reads as it did. -/
def fleetTasksSpec : ChangeSpec := { name := "fleetTasks", fn := fun _ => fun
  | [d1, d2] => { results := [.lit (.bool true)], args := [d1, d2] }
  | _ => none }
def fleetTasksRow : OpenClaim := { program := "ytciflideblafgaa", sum := "aba756b3b28559049828c73bd3e5ef9303d16a7449d67d2a4304d47f29a6e88a", func := "fishplate/fishlaw2.FleetTasks", spec := "fleetTasks", unfollowed := true, recurses := true, plainKeys := false, apart := false }
def FleetTasksSaid : Prop := fleetTasksRow.holds Try.pinned (OpenSpec.ofChange fleetTasksSpec)

/-- ITS FALSE NEIGHBOUR: 'it returns false'. Refute it at one input. -/
def fleetTasksWrong : ChangeSpec := { name := "fleetTasks", fn := fun _ => fun
  | [d1, d2] => { results := [.lit (.bool false)], args := [d1, d2] }
  | _ => none }
def FleetTasksWrongFalsely : Prop := fleetTasksRow.holds Try.pinned (OpenSpec.ofChange fleetTasksWrong)

/-- 'fishlaw2.FleetTurns': WHATEVER THE INPUT: true; the input reads as it did. -/
def fleetTurnsSpec : ChangeSpec := { name := "fleetTurns", fn := fun _ => fun
  | [d1, d2] => { results := [.lit (.bool true)], args := [d1, d2] }
  | _ => none }
def fleetTurnsRow : OpenClaim := { program := "ytciflideblafgaa", sum := "aba756b3b28559049828c73bd3e5ef9303d16a7449d67d2a4304d47f29a6e88a", func := "fishplate/fishlaw2.FleetTurns", spec := "fleetTurns", unfollowed := true, recurses := true, plainKeys := false, apart := false }
def FleetTurnsSaid : Prop := fleetTurnsRow.holds Try.pinned (OpenSpec.ofChange fleetTurnsSpec)

/-- ITS FALSE NEIGHBOUR: 'it returns false'. Refute it at one input. -/
def fleetTurnsWrong : ChangeSpec := { name := "fleetTurns", fn := fun _ => fun
  | [d1, d2] => { results := [.lit (.bool false)], args := [d1, d2] }
  | _ => none }
def FleetTurnsWrongFalsely : Prop := fleetTurnsRow.holds Try.pinned (OpenSpec.ofChange fleetTurnsWrong)

/-- 'fishlaw2.FleetRuns': WHATEVER THE INPUT: true; the input reads as it did. -/
def fleetRunsSpec : ChangeSpec := { name := "fleetRuns", fn := fun _ => fun
  | [d1, d2] => { results := [.lit (.bool true)], args := [d1, d2] }
  | _ => none }
def fleetRunsRow : OpenClaim := { program := "ytciflideblafgaa", sum := "aba756b3b28559049828c73bd3e5ef9303d16a7449d67d2a4304d47f29a6e88a", func := "fishplate/fishlaw2.FleetRuns", spec := "fleetRuns", unfollowed := true, recurses := true, plainKeys := false, apart := false }
def FleetRunsSaid : Prop := fleetRunsRow.holds Try.pinned (OpenSpec.ofChange fleetRunsSpec)

/-- ITS FALSE NEIGHBOUR: 'it returns false'. Refute it at one input. -/
def fleetRunsWrong : ChangeSpec := { name := "fleetRuns", fn := fun _ => fun
  | [d1, d2] => { results := [.lit (.bool false)], args := [d1, d2] }
  | _ => none }
def FleetRunsWrongFalsely : Prop := fleetRunsRow.holds Try.pinned (OpenSpec.ofChange fleetRunsWrong)

/-- 'fishlaw2.FleetMoments': WHATEVER THE INPUT: true; the input reads as it did. -/
def fleetMomentsSpec : ChangeSpec := { name := "fleetMoments", fn := fun _ => fun
  | [d1, d2] => { results := [.lit (.bool true)], args := [d1, d2] }
  | _ => none }
def fleetMomentsRow : OpenClaim := { program := "ytciflideblafgaa", sum := "aba756b3b28559049828c73bd3e5ef9303d16a7449d67d2a4304d47f29a6e88a", func := "fishplate/fishlaw2.FleetMoments", spec := "fleetMoments", unfollowed := true, recurses := true, plainKeys := false, apart := false }
def FleetMomentsSaid : Prop := fleetMomentsRow.holds Try.pinned (OpenSpec.ofChange fleetMomentsSpec)

/-- ITS FALSE NEIGHBOUR: 'it returns false'. Refute it at one input. -/
def fleetMomentsWrong : ChangeSpec := { name := "fleetMoments", fn := fun _ => fun
  | [d1, d2] => { results := [.lit (.bool false)], args := [d1, d2] }
  | _ => none }
def FleetMomentsWrongFalsely : Prop := fleetMomentsRow.holds Try.pinned (OpenSpec.ofChange fleetMomentsWrong)

/-- 'fishlaw2.FleetLegals': WHATEVER THE INPUT: true; the input reads as it did. -/
def fleetLegalsSpec : ChangeSpec := { name := "fleetLegals", fn := fun _ => fun
  | [d1, d2, d3] => { results := [.lit (.bool true)], args := [d1, d2, d3] }
  | _ => none }
def fleetLegalsRow : OpenClaim := { program := "ytciflideblafgaa", sum := "aba756b3b28559049828c73bd3e5ef9303d16a7449d67d2a4304d47f29a6e88a", func := "fishplate/fishlaw2.FleetLegals", spec := "fleetLegals", unfollowed := true, recurses := true, plainKeys := false, apart := false }
def FleetLegalsSaid : Prop := fleetLegalsRow.holds Try.pinned (OpenSpec.ofChange fleetLegalsSpec)

/-- ITS FALSE NEIGHBOUR: 'it returns false'. Refute it at one input. -/
def fleetLegalsWrong : ChangeSpec := { name := "fleetLegals", fn := fun _ => fun
  | [d1, d2, d3] => { results := [.lit (.bool false)], args := [d1, d2, d3] }
  | _ => none }
def FleetLegalsWrongFalsely : Prop := fleetLegalsRow.holds Try.pinned (OpenSpec.ofChange fleetLegalsWrong)

/-- 'fishlaw2.FleetInspects': WHATEVER THE INPUT: true; the input reads as it did. -/
def fleetInspectsSpec : ChangeSpec := { name := "fleetInspects", fn := fun _ => fun
  | [d1, d2, d3, d4] => { results := [.lit (.bool true)], args := [d1, d2, d3, d4] }
  | _ => none }
def fleetInspectsRow : OpenClaim := { program := "ytciflideblafgaa", sum := "aba756b3b28559049828c73bd3e5ef9303d16a7449d67d2a4304d47f29a6e88a", func := "fishplate/fishlaw2.FleetInspects", spec := "fleetInspects", unfollowed := true, recurses := true, plainKeys := false, apart := false }
def FleetInspectsSaid : Prop := fleetInspectsRow.holds Try.pinned (OpenSpec.ofChange fleetInspectsSpec)

/-- ITS FALSE NEIGHBOUR: 'it returns false'. Refute it at one input. -/
def fleetInspectsWrong : ChangeSpec := { name := "fleetInspects", fn := fun _ => fun
  | [d1, d2, d3, d4] => { results := [.lit (.bool false)], args := [d1, d2, d3, d4] }
  | _ => none }
def FleetInspectsWrongFalsely : Prop := fleetInspectsRow.holds Try.pinned (OpenSpec.ofChange fleetInspectsWrong)

/-- 'fishlaw2.FleetAssigns': WHATEVER THE INPUT: true; the input reads as it did. -/
def fleetAssignsSpec : ChangeSpec := { name := "fleetAssigns", fn := fun _ => fun
  | [d1, d2, d3, d4] => { results := [.lit (.bool true)], args := [d1, d2, d3, d4] }
  | _ => none }
def fleetAssignsRow : OpenClaim := { program := "ytciflideblafgaa", sum := "aba756b3b28559049828c73bd3e5ef9303d16a7449d67d2a4304d47f29a6e88a", func := "fishplate/fishlaw2.FleetAssigns", spec := "fleetAssigns", unfollowed := true, recurses := true, plainKeys := false, apart := false }
def FleetAssignsSaid : Prop := fleetAssignsRow.holds Try.pinned (OpenSpec.ofChange fleetAssignsSpec)

/-- ITS FALSE NEIGHBOUR: 'it returns false'. Refute it at one input. -/
def fleetAssignsWrong : ChangeSpec := { name := "fleetAssigns", fn := fun _ => fun
  | [d1, d2, d3, d4] => { results := [.lit (.bool false)], args := [d1, d2, d3, d4] }
  | _ => none }
def FleetAssignsWrongFalsely : Prop := fleetAssignsRow.holds Try.pinned (OpenSpec.ofChange fleetAssignsWrong)

/-- 'fishlaw2.FleetCovers': WHATEVER THE INPUT: true; the input reads as it did. -/
def fleetCoversSpec : ChangeSpec := { name := "fleetCovers", fn := fun _ => fun
  | [d1, d2, d3] => { results := [.lit (.bool true)], args := [d1, d2, d3] }
  | _ => none }
def fleetCoversRow : OpenClaim := { program := "ytciflideblafgaa", sum := "aba756b3b28559049828c73bd3e5ef9303d16a7449d67d2a4304d47f29a6e88a", func := "fishplate/fishlaw2.FleetCovers", spec := "fleetCovers", unfollowed := true, recurses := true, plainKeys := false, apart := false }
def FleetCoversSaid : Prop := fleetCoversRow.holds Try.pinned (OpenSpec.ofChange fleetCoversSpec)

/-- ITS FALSE NEIGHBOUR: 'it returns false'. Refute it at one input. -/
def fleetCoversWrong : ChangeSpec := { name := "fleetCovers", fn := fun _ => fun
  | [d1, d2, d3] => { results := [.lit (.bool false)], args := [d1, d2, d3] }
  | _ => none }
def FleetCoversWrongFalsely : Prop := fleetCoversRow.holds Try.pinned (OpenSpec.ofChange fleetCoversWrong)

/-- 'fishlaw2.FleetStores': WHATEVER THE INPUT: true; the input reads as it did. -/
def fleetStoresSpec : ChangeSpec := { name := "fleetStores", fn := fun _ => fun
  | [d1, d2] => { results := [.lit (.bool true)], args := [d1, d2] }
  | _ => none }
def fleetStoresRow : OpenClaim := { program := "ytciflideblafgaa", sum := "aba756b3b28559049828c73bd3e5ef9303d16a7449d67d2a4304d47f29a6e88a", func := "fishplate/fishlaw2.FleetStores", spec := "fleetStores", unfollowed := true, recurses := true, plainKeys := false, apart := false }
def FleetStoresSaid : Prop := fleetStoresRow.holds Try.pinned (OpenSpec.ofChange fleetStoresSpec)

/-- ITS FALSE NEIGHBOUR: 'it returns false'. Refute it at one input. -/
def fleetStoresWrong : ChangeSpec := { name := "fleetStores", fn := fun _ => fun
  | [d1, d2] => { results := [.lit (.bool false)], args := [d1, d2] }
  | _ => none }
def FleetStoresWrongFalsely : Prop := fleetStoresRow.holds Try.pinned (OpenSpec.ofChange fleetStoresWrong)

/-- 'fishlaw2.FleetDuties': WHATEVER THE INPUT: true; the input reads as it did. -/
def fleetDutiesSpec : ChangeSpec := { name := "fleetDuties", fn := fun _ => fun
  | [d1, d2] => { results := [.lit (.bool true)], args := [d1, d2] }
  | _ => none }
def fleetDutiesRow : OpenClaim := { program := "ytciflideblafgaa", sum := "aba756b3b28559049828c73bd3e5ef9303d16a7449d67d2a4304d47f29a6e88a", func := "fishplate/fishlaw2.FleetDuties", spec := "fleetDuties", unfollowed := true, recurses := true, plainKeys := false, apart := false }
def FleetDutiesSaid : Prop := fleetDutiesRow.holds Try.pinned (OpenSpec.ofChange fleetDutiesSpec)

/-- ITS FALSE NEIGHBOUR: 'it returns false'. Refute it at one input. -/
def fleetDutiesWrong : ChangeSpec := { name := "fleetDuties", fn := fun _ => fun
  | [d1, d2] => { results := [.lit (.bool false)], args := [d1, d2] }
  | _ => none }
def FleetDutiesWrongFalsely : Prop := fleetDutiesRow.holds Try.pinned (OpenSpec.ofChange fleetDutiesWrong)

/-- 'fishlaw2.FleetStands': WHATEVER THE INPUT: true; the input reads as it did. -/
def fleetStandsSpec : ChangeSpec := { name := "fleetStands", fn := fun _ => fun
  | [d1, d2, d3, d4] => { results := [.lit (.bool true)], args := [d1, d2, d3, d4] }
  | _ => none }
def fleetStandsRow : OpenClaim := { program := "ytciflideblafgaa", sum := "aba756b3b28559049828c73bd3e5ef9303d16a7449d67d2a4304d47f29a6e88a", func := "fishplate/fishlaw2.FleetStands", spec := "fleetStands", unfollowed := true, recurses := true, plainKeys := false, apart := false }
def FleetStandsSaid : Prop := fleetStandsRow.holds Try.pinned (OpenSpec.ofChange fleetStandsSpec)

/-- ITS FALSE NEIGHBOUR: 'it returns false'. Refute it at one input. -/
def fleetStandsWrong : ChangeSpec := { name := "fleetStands", fn := fun _ => fun
  | [d1, d2, d3, d4] => { results := [.lit (.bool false)], args := [d1, d2, d3, d4] }
  | _ => none }
def FleetStandsWrongFalsely : Prop := fleetStandsRow.holds Try.pinned (OpenSpec.ofChange fleetStandsWrong)

/- THE SECOND FORM. 'bulk': how many values and letters a reading holds, each counted each time it is reached (what is shared counts as often as it is met; a slice's spare places count too). A statement '..UptoSaid' is the law's where the arguments, and the package variables that the reading takes, are together of bulk at most 1048576: NARROWER than '..Said'. Prove '..Said' where nothing that the law and all that it calls make is longer than what came in: it says more and counts as full. Else prove '..UptoSaid'. A law counts once. -/
mutual
def uptoBulk {H : Type} : DataW H → Nat
  | .lit (.string bytes) => bytes.length + 1
  | .lit _ => 1
  | .nil => 1
  | .ptr d => uptoBulk d + 1
  | .slice elems spare => uptoBulkAll elems + uptoBulkAll spare + 1
  | .agg parts => uptoBulkAll parts + 1
  | .iface _ d => uptoBulk d + 1
  | .map entries => uptoBulkEntries entries + 1
  | .held _ => 1
def uptoBulkAll {H : Type} : List (DataW H) → Nat
  | [] => 0
  | d :: r => uptoBulk d + uptoBulkAll r
def uptoBulkEntries {H : Type} : List (Lit × DataW H) → Nat
  | [] => 0
  | x :: r => uptoBulkEntry x + uptoBulkEntries r
def uptoBulkEntry {H : Type} : Lit × DataW H → Nat
  | (.string bytes, d) => bytes.length + uptoBulk d + 1
  | (_, d) => uptoBulk d + 1
 end
def uptoSmall : (H : Type) → List (DataW H) → Bool := fun _ ds => decide (uptoBulkAll ds ≤ 1048576)
def OpenSpec.upto (s : _root_.Go.ChangeSpec) : _root_.Go.OpenSpec := { _root_.Go.OpenSpec.ofChange s with cond := some uptoSmall }

/-- 'fishlaw2.FleetDepots', WHERE WHAT IT READS IS OF BULK AT MOST 1048576: true; the input reads as it did. -/
def fleetDepotsUptoRow : OpenClaim := { program := "ytciflideblafgaa", sum := "aba756b3b28559049828c73bd3e5ef9303d16a7449d67d2a4304d47f29a6e88a", func := "fishplate/fishlaw2.FleetDepots", spec := "fleetDepots", plainKeys := false, apart := false, narrowed := true }
def FleetDepotsUptoSaid : Prop := fleetDepotsUptoRow.holds Try.pinned (OpenSpec.upto fleetDepotsSpec)

/-- 'fishlaw2.FleetJudges', WHERE WHAT IT READS IS OF BULK AT MOST 1048576: true; the input reads as it did. -/
def fleetJudgesUptoRow : OpenClaim := { program := "ytciflideblafgaa", sum := "aba756b3b28559049828c73bd3e5ef9303d16a7449d67d2a4304d47f29a6e88a", func := "fishplate/fishlaw2.FleetJudges", spec := "fleetJudges", unfollowed := true, recurses := true, plainKeys := false, apart := false, narrowed := true }
def FleetJudgesUptoSaid : Prop := fleetJudgesUptoRow.holds Try.pinned (OpenSpec.upto fleetJudgesSpec)

/-- 'fishlaw2.FleetMoves', WHERE WHAT IT READS IS OF BULK AT MOST 1048576: true; the input reads as it did. -/
def fleetMovesUptoRow : OpenClaim := { program := "ytciflideblafgaa", sum := "aba756b3b28559049828c73bd3e5ef9303d16a7449d67d2a4304d47f29a6e88a", func := "fishplate/fishlaw2.FleetMoves", spec := "fleetMoves", unfollowed := true, recurses := true, plainKeys := false, apart := false, narrowed := true }
def FleetMovesUptoSaid : Prop := fleetMovesUptoRow.holds Try.pinned (OpenSpec.upto fleetMovesSpec)

/-- 'fishlaw2.FleetShifts', WHERE WHAT IT READS IS OF BULK AT MOST 1048576: true; the input reads as it did. -/
def fleetShiftsUptoRow : OpenClaim := { program := "ytciflideblafgaa", sum := "aba756b3b28559049828c73bd3e5ef9303d16a7449d67d2a4304d47f29a6e88a", func := "fishplate/fishlaw2.FleetShifts", spec := "fleetShifts", unfollowed := true, recurses := true, plainKeys := false, apart := false, narrowed := true }
def FleetShiftsUptoSaid : Prop := fleetShiftsUptoRow.holds Try.pinned (OpenSpec.upto fleetShiftsSpec)

/-- 'fishlaw2.FleetRosters', WHERE WHAT IT READS IS OF BULK AT MOST 1048576: true; the input reads as it did. -/
def fleetRostersUptoRow : OpenClaim := { program := "ytciflideblafgaa", sum := "aba756b3b28559049828c73bd3e5ef9303d16a7449d67d2a4304d47f29a6e88a", func := "fishplate/fishlaw2.FleetRosters", spec := "fleetRosters", unfollowed := true, recurses := true, plainKeys := false, apart := false, narrowed := true }
def FleetRostersUptoSaid : Prop := fleetRostersUptoRow.holds Try.pinned (OpenSpec.upto fleetRostersSpec)

/-- 'fishlaw2.FleetTasks', WHERE WHAT IT READS IS OF BULK AT MOST 1048576: true; the input reads as it did. -/
def fleetTasksUptoRow : OpenClaim := { program := "ytciflideblafgaa", sum := "aba756b3b28559049828c73bd3e5ef9303d16a7449d67d2a4304d47f29a6e88a", func := "fishplate/fishlaw2.FleetTasks", spec := "fleetTasks", unfollowed := true, recurses := true, plainKeys := false, apart := false, narrowed := true }
def FleetTasksUptoSaid : Prop := fleetTasksUptoRow.holds Try.pinned (OpenSpec.upto fleetTasksSpec)

/-- 'fishlaw2.FleetTurns', WHERE WHAT IT READS IS OF BULK AT MOST 1048576: true; the input reads as it did. -/
def fleetTurnsUptoRow : OpenClaim := { program := "ytciflideblafgaa", sum := "aba756b3b28559049828c73bd3e5ef9303d16a7449d67d2a4304d47f29a6e88a", func := "fishplate/fishlaw2.FleetTurns", spec := "fleetTurns", unfollowed := true, recurses := true, plainKeys := false, apart := false, narrowed := true }
def FleetTurnsUptoSaid : Prop := fleetTurnsUptoRow.holds Try.pinned (OpenSpec.upto fleetTurnsSpec)

/-- 'fishlaw2.FleetRuns', WHERE WHAT IT READS IS OF BULK AT MOST 1048576: true; the input reads as it did. -/
def fleetRunsUptoRow : OpenClaim := { program := "ytciflideblafgaa", sum := "aba756b3b28559049828c73bd3e5ef9303d16a7449d67d2a4304d47f29a6e88a", func := "fishplate/fishlaw2.FleetRuns", spec := "fleetRuns", unfollowed := true, recurses := true, plainKeys := false, apart := false, narrowed := true }
def FleetRunsUptoSaid : Prop := fleetRunsUptoRow.holds Try.pinned (OpenSpec.upto fleetRunsSpec)

/-- 'fishlaw2.FleetMoments', WHERE WHAT IT READS IS OF BULK AT MOST 1048576: true; the input reads as it did. -/
def fleetMomentsUptoRow : OpenClaim := { program := "ytciflideblafgaa", sum := "aba756b3b28559049828c73bd3e5ef9303d16a7449d67d2a4304d47f29a6e88a", func := "fishplate/fishlaw2.FleetMoments", spec := "fleetMoments", unfollowed := true, recurses := true, plainKeys := false, apart := false, narrowed := true }
def FleetMomentsUptoSaid : Prop := fleetMomentsUptoRow.holds Try.pinned (OpenSpec.upto fleetMomentsSpec)

/-- 'fishlaw2.FleetLegals', WHERE WHAT IT READS IS OF BULK AT MOST 1048576: true; the input reads as it did. -/
def fleetLegalsUptoRow : OpenClaim := { program := "ytciflideblafgaa", sum := "aba756b3b28559049828c73bd3e5ef9303d16a7449d67d2a4304d47f29a6e88a", func := "fishplate/fishlaw2.FleetLegals", spec := "fleetLegals", unfollowed := true, recurses := true, plainKeys := false, apart := false, narrowed := true }
def FleetLegalsUptoSaid : Prop := fleetLegalsUptoRow.holds Try.pinned (OpenSpec.upto fleetLegalsSpec)

/-- 'fishlaw2.FleetInspects', WHERE WHAT IT READS IS OF BULK AT MOST 1048576: true; the input reads as it did. -/
def fleetInspectsUptoRow : OpenClaim := { program := "ytciflideblafgaa", sum := "aba756b3b28559049828c73bd3e5ef9303d16a7449d67d2a4304d47f29a6e88a", func := "fishplate/fishlaw2.FleetInspects", spec := "fleetInspects", unfollowed := true, recurses := true, plainKeys := false, apart := false, narrowed := true }
def FleetInspectsUptoSaid : Prop := fleetInspectsUptoRow.holds Try.pinned (OpenSpec.upto fleetInspectsSpec)

/-- 'fishlaw2.FleetAssigns', WHERE WHAT IT READS IS OF BULK AT MOST 1048576: true; the input reads as it did. -/
def fleetAssignsUptoRow : OpenClaim := { program := "ytciflideblafgaa", sum := "aba756b3b28559049828c73bd3e5ef9303d16a7449d67d2a4304d47f29a6e88a", func := "fishplate/fishlaw2.FleetAssigns", spec := "fleetAssigns", unfollowed := true, recurses := true, plainKeys := false, apart := false, narrowed := true }
def FleetAssignsUptoSaid : Prop := fleetAssignsUptoRow.holds Try.pinned (OpenSpec.upto fleetAssignsSpec)

/-- 'fishlaw2.FleetCovers', WHERE WHAT IT READS IS OF BULK AT MOST 1048576: true; the input reads as it did. -/
def fleetCoversUptoRow : OpenClaim := { program := "ytciflideblafgaa", sum := "aba756b3b28559049828c73bd3e5ef9303d16a7449d67d2a4304d47f29a6e88a", func := "fishplate/fishlaw2.FleetCovers", spec := "fleetCovers", unfollowed := true, recurses := true, plainKeys := false, apart := false, narrowed := true }
def FleetCoversUptoSaid : Prop := fleetCoversUptoRow.holds Try.pinned (OpenSpec.upto fleetCoversSpec)

/-- 'fishlaw2.FleetStores', WHERE WHAT IT READS IS OF BULK AT MOST 1048576: true; the input reads as it did. -/
def fleetStoresUptoRow : OpenClaim := { program := "ytciflideblafgaa", sum := "aba756b3b28559049828c73bd3e5ef9303d16a7449d67d2a4304d47f29a6e88a", func := "fishplate/fishlaw2.FleetStores", spec := "fleetStores", unfollowed := true, recurses := true, plainKeys := false, apart := false, narrowed := true }
def FleetStoresUptoSaid : Prop := fleetStoresUptoRow.holds Try.pinned (OpenSpec.upto fleetStoresSpec)

/-- 'fishlaw2.FleetDuties', WHERE WHAT IT READS IS OF BULK AT MOST 1048576: true; the input reads as it did. -/
def fleetDutiesUptoRow : OpenClaim := { program := "ytciflideblafgaa", sum := "aba756b3b28559049828c73bd3e5ef9303d16a7449d67d2a4304d47f29a6e88a", func := "fishplate/fishlaw2.FleetDuties", spec := "fleetDuties", unfollowed := true, recurses := true, plainKeys := false, apart := false, narrowed := true }
def FleetDutiesUptoSaid : Prop := fleetDutiesUptoRow.holds Try.pinned (OpenSpec.upto fleetDutiesSpec)

/-- 'fishlaw2.FleetStands', WHERE WHAT IT READS IS OF BULK AT MOST 1048576: true; the input reads as it did. -/
def fleetStandsUptoRow : OpenClaim := { program := "ytciflideblafgaa", sum := "aba756b3b28559049828c73bd3e5ef9303d16a7449d67d2a4304d47f29a6e88a", func := "fishplate/fishlaw2.FleetStands", spec := "fleetStands", unfollowed := true, recurses := true, plainKeys := false, apart := false, narrowed := true }
def FleetStandsUptoSaid : Prop := fleetStandsUptoRow.holds Try.pinned (OpenSpec.upto fleetStandsSpec)

end Rows
end Go.Proofs.Ytciflideblafgaa
