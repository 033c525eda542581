/-
  NARROWER THAN 'FOR EVERY INPUT', by the rows' own cells (each row's printed sentence says how): FareTariffs: loops · FarePrices: loops · FareHolds: loops · FareCheapest: loops.
  DERIVED. THE GIVEN ROWS OF THIS SEAT. 15 by the template 'for every input the law returns true; each argument reads behind the call as it read before'; 0 by the template 'total and deterministic' (their statements: YtgghnfmabphbmaaTotals.lean).
  GIVEN WITH THE SEED: the statements are not yours to turn. If you find one false, say at which input.
  Laid BY PROGRAM, IN A SANDBOX (cutbox-rows.mjs): the forced cells as the released guide's own fill.sh prints them over the translation 8c1319499d476bd4… (all of the seat's roots in one cut). By AI agents, Wed Nov 11 2026. No macro, syntax, notation, axiom, sorry.
-/
import Derived.Test.YtgghnfmabphbmaaChecked
import GoSem.Claim
import GoSem.ClaimJoined
import GoSem.ClaimMapViews
import Derived.JoinedTies
import Derived.KernelRfl
namespace Go.Proofs.Ytgghnfmabphbmaa
/- THE CELL 'sum', in the pinned program and in every row, IS THE sha256 OF THE DUMP (.gsa) THAT YtgghnfmabphbmaaProg.lean LOADS. Nothing in Lean hashes anything: it is a label: what it is worth is what the hold of that sum in a sandbox is worth. -/
noncomputable def Try.pinned : Pinned := { name := "ytgghnfmabphbmaa", sum := "8c1319499d476bd418ccf995dbabcfac85a92b190c9b7f18818fd1de7857a454", checked := Try.checked }
namespace Rows
def none {H : Type} : Left H := { results := [], args := [] }

/-- 'fishlaw2.FareTariffs': WHATEVER THE INPUT: true; the input reads as it did. -/
def fareTariffsSpec : ChangeSpec := { name := "fareTariffs", fn := fun _ => fun
  | [d1, d2] => { results := [.lit (.bool true)], args := [d1, d2] }
  | _ => none }
def fareTariffsRow : OpenClaim := { program := "ytgghnfmabphbmaa", sum := "8c1319499d476bd418ccf995dbabcfac85a92b190c9b7f18818fd1de7857a454", func := "fishplate/fishlaw2.FareTariffs", spec := "fareTariffs", unfollowed := true, recurses := true, loops := true, apart := false }
def FareTariffsSaid : Prop := fareTariffsRow.holds Try.pinned (OpenSpec.ofChange fareTariffsSpec)

/-- ITS FALSE NEIGHBOUR: 'it returns false'. Refute it at one input. -/
def fareTariffsWrong : ChangeSpec := { name := "fareTariffs", fn := fun _ => fun
  | [d1, d2] => { results := [.lit (.bool false)], args := [d1, d2] }
  | _ => none }
def FareTariffsWrongFalsely : Prop := fareTariffsRow.holds Try.pinned (OpenSpec.ofChange fareTariffsWrong)

/-- 'fishlaw2.FarePrices': WHATEVER THE INPUT: true; the input reads as it did. -/
def farePricesSpec : ChangeSpec := { name := "farePrices", fn := fun _ => fun
  | [d1, d2] => { results := [.lit (.bool true)], args := [d1, d2] }
  | _ => none }
def farePricesRow : OpenClaim := { program := "ytgghnfmabphbmaa", sum := "8c1319499d476bd418ccf995dbabcfac85a92b190c9b7f18818fd1de7857a454", func := "fishplate/fishlaw2.FarePrices", spec := "farePrices", unfollowed := true, recurses := true, loops := true, apart := false }
def FarePricesSaid : Prop := farePricesRow.holds Try.pinned (OpenSpec.ofChange farePricesSpec)

/-- ITS FALSE NEIGHBOUR: 'it returns false'. Refute it at one input. -/
def farePricesWrong : ChangeSpec := { name := "farePrices", fn := fun _ => fun
  | [d1, d2] => { results := [.lit (.bool false)], args := [d1, d2] }
  | _ => none }
def FarePricesWrongFalsely : Prop := farePricesRow.holds Try.pinned (OpenSpec.ofChange farePricesWrong)

/-- 'fishlaw2.FareHolds': WHATEVER THE INPUT: true; the input reads as it did. -/
def fareHoldsSpec : ChangeSpec := { name := "fareHolds", fn := fun _ => fun
  | [d1, d2] => { results := [.lit (.bool true)], args := [d1, d2] }
  | _ => none }
def fareHoldsRow : OpenClaim := { program := "ytgghnfmabphbmaa", sum := "8c1319499d476bd418ccf995dbabcfac85a92b190c9b7f18818fd1de7857a454", func := "fishplate/fishlaw2.FareHolds", spec := "fareHolds", unfollowed := true, recurses := true, loops := true, apart := false }
def FareHoldsSaid : Prop := fareHoldsRow.holds Try.pinned (OpenSpec.ofChange fareHoldsSpec)

/-- ITS FALSE NEIGHBOUR: 'it returns false'. Refute it at one input. -/
def fareHoldsWrong : ChangeSpec := { name := "fareHolds", fn := fun _ => fun
  | [d1, d2] => { results := [.lit (.bool false)], args := [d1, d2] }
  | _ => none }
def FareHoldsWrongFalsely : Prop := fareHoldsRow.holds Try.pinned (OpenSpec.ofChange fareHoldsWrong)

/-- 'fishlaw2.FareRefunds': WHATEVER THE INPUT: true; the input reads as it did. -/
def fareRefundsSpec : ChangeSpec := { name := "fareRefunds", fn := fun _ => fun
  | [d1, d2, d3] => { results := [.lit (.bool true)], args := [d1, d2, d3] }
  | _ => none }
def fareRefundsRow : OpenClaim := { program := "ytgghnfmabphbmaa", sum := "8c1319499d476bd418ccf995dbabcfac85a92b190c9b7f18818fd1de7857a454", func := "fishplate/fishlaw2.FareRefunds", spec := "fareRefunds", unfollowed := true, recurses := true, apart := false }
def FareRefundsSaid : Prop := fareRefundsRow.holds Try.pinned (OpenSpec.ofChange fareRefundsSpec)

/-- ITS FALSE NEIGHBOUR: 'it returns false'. Refute it at one input. -/
def fareRefundsWrong : ChangeSpec := { name := "fareRefunds", fn := fun _ => fun
  | [d1, d2, d3] => { results := [.lit (.bool false)], args := [d1, d2, d3] }
  | _ => none }
def FareRefundsWrongFalsely : Prop := fareRefundsRow.holds Try.pinned (OpenSpec.ofChange fareRefundsWrong)

/-- 'fishlaw2.FareCopies': WHATEVER THE INPUT: true; the input reads as it did. -/
def fareCopiesSpec : ChangeSpec := { name := "fareCopies", fn := fun _ => fun
  | [d1, d2] => { results := [.lit (.bool true)], args := [d1, d2] }
  | _ => none }
def fareCopiesRow : OpenClaim := { program := "ytgghnfmabphbmaa", sum := "8c1319499d476bd418ccf995dbabcfac85a92b190c9b7f18818fd1de7857a454", func := "fishplate/fishlaw2.FareCopies", spec := "fareCopies", unfollowed := true, recurses := true, apart := false }
def FareCopiesSaid : Prop := fareCopiesRow.holds Try.pinned (OpenSpec.ofChange fareCopiesSpec)

/-- ITS FALSE NEIGHBOUR: 'it returns false'. Refute it at one input. -/
def fareCopiesWrong : ChangeSpec := { name := "fareCopies", fn := fun _ => fun
  | [d1, d2] => { results := [.lit (.bool false)], args := [d1, d2] }
  | _ => none }
def FareCopiesWrongFalsely : Prop := fareCopiesRow.holds Try.pinned (OpenSpec.ofChange fareCopiesWrong)

/-- 'fishlaw2.FareKeys': WHATEVER THE INPUT: true; the input reads as it did. -/
def fareKeysSpec : ChangeSpec := { name := "fareKeys", fn := fun _ => fun
  | [d1, d2, d3] => { results := [.lit (.bool true)], args := [d1, d2, d3] }
  | _ => none }
def fareKeysRow : OpenClaim := { program := "ytgghnfmabphbmaa", sum := "8c1319499d476bd418ccf995dbabcfac85a92b190c9b7f18818fd1de7857a454", func := "fishplate/fishlaw2.FareKeys", spec := "fareKeys", unfollowed := true, recurses := true, apart := false }
def FareKeysSaid : Prop := fareKeysRow.holds Try.pinned (OpenSpec.ofChange fareKeysSpec)

/-- ITS FALSE NEIGHBOUR: 'it returns false'. Refute it at one input. -/
def fareKeysWrong : ChangeSpec := { name := "fareKeys", fn := fun _ => fun
  | [d1, d2, d3] => { results := [.lit (.bool false)], args := [d1, d2, d3] }
  | _ => none }
def FareKeysWrongFalsely : Prop := fareKeysRow.holds Try.pinned (OpenSpec.ofChange fareKeysWrong)

/-- 'fishlaw2.FareSigns': WHATEVER THE INPUT: true; the input reads as it did. -/
def fareSignsSpec : ChangeSpec := { name := "fareSigns", fn := fun _ => fun
  | [d1, d2, d3] => { results := [.lit (.bool true)], args := [d1, d2, d3] }
  | _ => none }
def fareSignsRow : OpenClaim := { program := "ytgghnfmabphbmaa", sum := "8c1319499d476bd418ccf995dbabcfac85a92b190c9b7f18818fd1de7857a454", func := "fishplate/fishlaw2.FareSigns", spec := "fareSigns", unfollowed := true, recurses := true, apart := false }
def FareSignsSaid : Prop := fareSignsRow.holds Try.pinned (OpenSpec.ofChange fareSignsSpec)

/-- ITS FALSE NEIGHBOUR: 'it returns false'. Refute it at one input. -/
def fareSignsWrong : ChangeSpec := { name := "fareSigns", fn := fun _ => fun
  | [d1, d2, d3] => { results := [.lit (.bool false)], args := [d1, d2, d3] }
  | _ => none }
def FareSignsWrongFalsely : Prop := fareSignsRow.holds Try.pinned (OpenSpec.ofChange fareSignsWrong)

/-- 'fishlaw2.FarePicks': WHATEVER THE INPUT: true; the input reads as it did. -/
def farePicksSpec : ChangeSpec := { name := "farePicks", fn := fun _ => fun
  | [d1, d2, d3] => { results := [.lit (.bool true)], args := [d1, d2, d3] }
  | _ => none }
def farePicksRow : OpenClaim := { program := "ytgghnfmabphbmaa", sum := "8c1319499d476bd418ccf995dbabcfac85a92b190c9b7f18818fd1de7857a454", func := "fishplate/fishlaw2.FarePicks", spec := "farePicks", unfollowed := true, recurses := true, apart := false }
def FarePicksSaid : Prop := farePicksRow.holds Try.pinned (OpenSpec.ofChange farePicksSpec)

/-- ITS FALSE NEIGHBOUR: 'it returns false'. Refute it at one input. -/
def farePicksWrong : ChangeSpec := { name := "farePicks", fn := fun _ => fun
  | [d1, d2, d3] => { results := [.lit (.bool false)], args := [d1, d2, d3] }
  | _ => none }
def FarePicksWrongFalsely : Prop := farePicksRow.holds Try.pinned (OpenSpec.ofChange farePicksWrong)

/-- 'fishlaw2.FareCheapest': WHATEVER THE INPUT: true; the input reads as it did. -/
def fareCheapestSpec : ChangeSpec := { name := "fareCheapest", fn := fun _ => fun
  | [d1, d2, d3] => { results := [.lit (.bool true)], args := [d1, d2, d3] }
  | _ => none }
def fareCheapestRow : OpenClaim := { program := "ytgghnfmabphbmaa", sum := "8c1319499d476bd418ccf995dbabcfac85a92b190c9b7f18818fd1de7857a454", func := "fishplate/fishlaw2.FareCheapest", spec := "fareCheapest", unfollowed := true, recurses := true, loops := true, apart := false }
def FareCheapestSaid : Prop := fareCheapestRow.holds Try.pinned (OpenSpec.ofChange fareCheapestSpec)

/-- ITS FALSE NEIGHBOUR: 'it returns false'. Refute it at one input. -/
def fareCheapestWrong : ChangeSpec := { name := "fareCheapest", fn := fun _ => fun
  | [d1, d2, d3] => { results := [.lit (.bool false)], args := [d1, d2, d3] }
  | _ => none }
def FareCheapestWrongFalsely : Prop := fareCheapestRow.holds Try.pinned (OpenSpec.ofChange fareCheapestWrong)

/-- 'fishlaw2.FareBids': WHATEVER THE INPUT: true; the input reads as it did. -/
def fareBidsSpec : ChangeSpec := { name := "fareBids", fn := fun _ => fun
  | [d1, d2, d3] => { results := [.lit (.bool true)], args := [d1, d2, d3] }
  | _ => none }
def fareBidsRow : OpenClaim := { program := "ytgghnfmabphbmaa", sum := "8c1319499d476bd418ccf995dbabcfac85a92b190c9b7f18818fd1de7857a454", func := "fishplate/fishlaw2.FareBids", spec := "fareBids", unfollowed := true, recurses := true, apart := false }
def FareBidsSaid : Prop := fareBidsRow.holds Try.pinned (OpenSpec.ofChange fareBidsSpec)

/-- ITS FALSE NEIGHBOUR: 'it returns false'. Refute it at one input. -/
def fareBidsWrong : ChangeSpec := { name := "fareBids", fn := fun _ => fun
  | [d1, d2, d3] => { results := [.lit (.bool false)], args := [d1, d2, d3] }
  | _ => none }
def FareBidsWrongFalsely : Prop := fareBidsRow.holds Try.pinned (OpenSpec.ofChange fareBidsWrong)

/-- 'fishlaw2.FareShares': WHATEVER THE INPUT: true; the input reads as it did. -/
def fareSharesSpec : ChangeSpec := { name := "fareShares", fn := fun _ => fun
  | [d1, d2] => { results := [.lit (.bool true)], args := [d1, d2] }
  | _ => none }
def fareSharesRow : OpenClaim := { program := "ytgghnfmabphbmaa", sum := "8c1319499d476bd418ccf995dbabcfac85a92b190c9b7f18818fd1de7857a454", func := "fishplate/fishlaw2.FareShares", spec := "fareShares", unfollowed := true, recurses := true, apart := false }
def FareSharesSaid : Prop := fareSharesRow.holds Try.pinned (OpenSpec.ofChange fareSharesSpec)

/-- ITS FALSE NEIGHBOUR: 'it returns false'. Refute it at one input. -/
def fareSharesWrong : ChangeSpec := { name := "fareShares", fn := fun _ => fun
  | [d1, d2] => { results := [.lit (.bool false)], args := [d1, d2] }
  | _ => none }
def FareSharesWrongFalsely : Prop := fareSharesRow.holds Try.pinned (OpenSpec.ofChange fareSharesWrong)

/-- 'fishlaw2.FarePacks': WHATEVER THE INPUT: true; the input reads as it did. -/
def farePacksSpec : ChangeSpec := { name := "farePacks", fn := fun _ => fun
  | [d1, d2, d3] => { results := [.lit (.bool true)], args := [d1, d2, d3] }
  | _ => none }
def farePacksRow : OpenClaim := { program := "ytgghnfmabphbmaa", sum := "8c1319499d476bd418ccf995dbabcfac85a92b190c9b7f18818fd1de7857a454", func := "fishplate/fishlaw2.FarePacks", spec := "farePacks", unfollowed := true, recurses := true, apart := false }
def FarePacksSaid : Prop := farePacksRow.holds Try.pinned (OpenSpec.ofChange farePacksSpec)

/-- ITS FALSE NEIGHBOUR: 'it returns false'. Refute it at one input. -/
def farePacksWrong : ChangeSpec := { name := "farePacks", fn := fun _ => fun
  | [d1, d2, d3] => { results := [.lit (.bool false)], args := [d1, d2, d3] }
  | _ => none }
def FarePacksWrongFalsely : Prop := farePacksRow.holds Try.pinned (OpenSpec.ofChange farePacksWrong)

/-- 'fishlaw2.FareSettles': WHATEVER THE INPUT: true; the input reads as it did. -/
def fareSettlesSpec : ChangeSpec := { name := "fareSettles", fn := fun _ => fun
  | [d] => { results := [.lit (.bool true)], args := [d] }
  | _ => none }
def fareSettlesRow : OpenClaim := { program := "ytgghnfmabphbmaa", sum := "8c1319499d476bd418ccf995dbabcfac85a92b190c9b7f18818fd1de7857a454", func := "fishplate/fishlaw2.FareSettles", spec := "fareSettles", unfollowed := true, recurses := true, apart := false }
def FareSettlesSaid : Prop := fareSettlesRow.holds Try.pinned (OpenSpec.ofChange fareSettlesSpec)

/-- ITS FALSE NEIGHBOUR: 'it returns false'. Refute it at one input. -/
def fareSettlesWrong : ChangeSpec := { name := "fareSettles", fn := fun _ => fun
  | [d] => { results := [.lit (.bool false)], args := [d] }
  | _ => none }
def FareSettlesWrongFalsely : Prop := fareSettlesRow.holds Try.pinned (OpenSpec.ofChange fareSettlesWrong)

/-- 'fishlaw2.FareWays': WHATEVER THE INPUT: true; the input reads as it did. -/
def fareWaysSpec : ChangeSpec := { name := "fareWays", fn := fun _ => fun
  | [d1, d2, d3] => { results := [.lit (.bool true)], args := [d1, d2, d3] }
  | _ => none }
def fareWaysRow : OpenClaim := { program := "ytgghnfmabphbmaa", sum := "8c1319499d476bd418ccf995dbabcfac85a92b190c9b7f18818fd1de7857a454", func := "fishplate/fishlaw2.FareWays", spec := "fareWays", unfollowed := true, recurses := true, apart := false }
def FareWaysSaid : Prop := fareWaysRow.holds Try.pinned (OpenSpec.ofChange fareWaysSpec)

/-- ITS FALSE NEIGHBOUR: 'it returns false'. Refute it at one input. -/
def fareWaysWrong : ChangeSpec := { name := "fareWays", fn := fun _ => fun
  | [d1, d2, d3] => { results := [.lit (.bool false)], args := [d1, d2, d3] }
  | _ => none }
def FareWaysWrongFalsely : Prop := fareWaysRow.holds Try.pinned (OpenSpec.ofChange fareWaysWrong)

/-- 'fishlaw2.FareCars': WHATEVER THE INPUT: true; the input reads as it did. -/
def fareCarsSpec : ChangeSpec := { name := "fareCars", fn := fun _ => fun
  | [d1, d2, d3, d4] => { results := [.lit (.bool true)], args := [d1, d2, d3, d4] }
  | _ => none }
def fareCarsRow : OpenClaim := { program := "ytgghnfmabphbmaa", sum := "8c1319499d476bd418ccf995dbabcfac85a92b190c9b7f18818fd1de7857a454", func := "fishplate/fishlaw2.FareCars", spec := "fareCars", unfollowed := true, recurses := true, apart := false }
def FareCarsSaid : Prop := fareCarsRow.holds Try.pinned (OpenSpec.ofChange fareCarsSpec)

/-- ITS FALSE NEIGHBOUR: 'it returns false'. Refute it at one input. -/
def fareCarsWrong : ChangeSpec := { name := "fareCars", fn := fun _ => fun
  | [d1, d2, d3, d4] => { results := [.lit (.bool false)], args := [d1, d2, d3, d4] }
  | _ => none }
def FareCarsWrongFalsely : Prop := fareCarsRow.holds Try.pinned (OpenSpec.ofChange fareCarsWrong)

/- THE SECOND FORM. 'bulk': how many values and letters a reading holds, each counted each time it is reached (what is shared counts as often as it is met; a slice's spare places count too). A statement '..UptoSaid' is the law's where the arguments, and the package variables that the reading takes, are together of bulk at most 1048576: NARROWER than '..Said'. Prove '..Said' where nothing that the law and all that it calls make is longer than what came in: it says more and counts as full. Else prove '..UptoSaid'. A law counts once. -/
mutual
def uptoBulk {H : Type} : DataW H → Nat
  | .lit (.string bytes) => bytes.length + 1
  | .lit _ => 1
  | .nil => 1
  | .ptr d => uptoBulk d + 1
  | .slice elems spare => uptoBulkAll elems + uptoBulkAll spare + 1
  | .agg parts => uptoBulkAll parts + 1
  | .iface _ d => uptoBulk d + 1
  | .map entries => uptoBulkEntries entries + 1
  | .held _ => 1
def uptoBulkAll {H : Type} : List (DataW H) → Nat
  | [] => 0
  | d :: r => uptoBulk d + uptoBulkAll r
def uptoBulkEntries {H : Type} : List (Lit × DataW H) → Nat
  | [] => 0
  | x :: r => uptoBulkEntry x + uptoBulkEntries r
def uptoBulkEntry {H : Type} : Lit × DataW H → Nat
  | (.string bytes, d) => bytes.length + uptoBulk d + 1
  | (_, d) => uptoBulk d + 1
 end
def uptoSmall : (H : Type) → List (DataW H) → Bool := fun _ ds => decide (uptoBulkAll ds ≤ 1048576)
def OpenSpec.upto (s : _root_.Go.ChangeSpec) : _root_.Go.OpenSpec := { _root_.Go.OpenSpec.ofChange s with cond := some uptoSmall }

/-- 'fishlaw2.FareTariffs', WHERE WHAT IT READS IS OF BULK AT MOST 1048576: true; the input reads as it did. -/
def fareTariffsUptoRow : OpenClaim := { program := "ytgghnfmabphbmaa", sum := "8c1319499d476bd418ccf995dbabcfac85a92b190c9b7f18818fd1de7857a454", func := "fishplate/fishlaw2.FareTariffs", spec := "fareTariffs", unfollowed := true, recurses := true, loops := true, apart := false, narrowed := true }
def FareTariffsUptoSaid : Prop := fareTariffsUptoRow.holds Try.pinned (OpenSpec.upto fareTariffsSpec)

/-- 'fishlaw2.FarePrices', WHERE WHAT IT READS IS OF BULK AT MOST 1048576: true; the input reads as it did. -/
def farePricesUptoRow : OpenClaim := { program := "ytgghnfmabphbmaa", sum := "8c1319499d476bd418ccf995dbabcfac85a92b190c9b7f18818fd1de7857a454", func := "fishplate/fishlaw2.FarePrices", spec := "farePrices", unfollowed := true, recurses := true, loops := true, apart := false, narrowed := true }
def FarePricesUptoSaid : Prop := farePricesUptoRow.holds Try.pinned (OpenSpec.upto farePricesSpec)

/-- 'fishlaw2.FareHolds', WHERE WHAT IT READS IS OF BULK AT MOST 1048576: true; the input reads as it did. -/
def fareHoldsUptoRow : OpenClaim := { program := "ytgghnfmabphbmaa", sum := "8c1319499d476bd418ccf995dbabcfac85a92b190c9b7f18818fd1de7857a454", func := "fishplate/fishlaw2.FareHolds", spec := "fareHolds", unfollowed := true, recurses := true, loops := true, apart := false, narrowed := true }
def FareHoldsUptoSaid : Prop := fareHoldsUptoRow.holds Try.pinned (OpenSpec.upto fareHoldsSpec)

/-- 'fishlaw2.FareRefunds', WHERE WHAT IT READS IS OF BULK AT MOST 1048576: true; the input reads as it did. -/
def fareRefundsUptoRow : OpenClaim := { program := "ytgghnfmabphbmaa", sum := "8c1319499d476bd418ccf995dbabcfac85a92b190c9b7f18818fd1de7857a454", func := "fishplate/fishlaw2.FareRefunds", spec := "fareRefunds", unfollowed := true, recurses := true, apart := false, narrowed := true }
def FareRefundsUptoSaid : Prop := fareRefundsUptoRow.holds Try.pinned (OpenSpec.upto fareRefundsSpec)

/-- 'fishlaw2.FareCopies', WHERE WHAT IT READS IS OF BULK AT MOST 1048576: true; the input reads as it did. -/
def fareCopiesUptoRow : OpenClaim := { program := "ytgghnfmabphbmaa", sum := "8c1319499d476bd418ccf995dbabcfac85a92b190c9b7f18818fd1de7857a454", func := "fishplate/fishlaw2.FareCopies", spec := "fareCopies", unfollowed := true, recurses := true, apart := false, narrowed := true }
def FareCopiesUptoSaid : Prop := fareCopiesUptoRow.holds Try.pinned (OpenSpec.upto fareCopiesSpec)

/-- 'fishlaw2.FareKeys', WHERE WHAT IT READS IS OF BULK AT MOST 1048576: true; the input reads as it did. -/
def fareKeysUptoRow : OpenClaim := { program := "ytgghnfmabphbmaa", sum := "8c1319499d476bd418ccf995dbabcfac85a92b190c9b7f18818fd1de7857a454", func := "fishplate/fishlaw2.FareKeys", spec := "fareKeys", unfollowed := true, recurses := true, apart := false, narrowed := true }
def FareKeysUptoSaid : Prop := fareKeysUptoRow.holds Try.pinned (OpenSpec.upto fareKeysSpec)

/-- 'fishlaw2.FareSigns', WHERE WHAT IT READS IS OF BULK AT MOST 1048576: true; the input reads as it did. -/
def fareSignsUptoRow : OpenClaim := { program := "ytgghnfmabphbmaa", sum := "8c1319499d476bd418ccf995dbabcfac85a92b190c9b7f18818fd1de7857a454", func := "fishplate/fishlaw2.FareSigns", spec := "fareSigns", unfollowed := true, recurses := true, apart := false, narrowed := true }
def FareSignsUptoSaid : Prop := fareSignsUptoRow.holds Try.pinned (OpenSpec.upto fareSignsSpec)

/-- 'fishlaw2.FarePicks', WHERE WHAT IT READS IS OF BULK AT MOST 1048576: true; the input reads as it did. -/
def farePicksUptoRow : OpenClaim := { program := "ytgghnfmabphbmaa", sum := "8c1319499d476bd418ccf995dbabcfac85a92b190c9b7f18818fd1de7857a454", func := "fishplate/fishlaw2.FarePicks", spec := "farePicks", unfollowed := true, recurses := true, apart := false, narrowed := true }
def FarePicksUptoSaid : Prop := farePicksUptoRow.holds Try.pinned (OpenSpec.upto farePicksSpec)

/-- 'fishlaw2.FareCheapest', WHERE WHAT IT READS IS OF BULK AT MOST 1048576: true; the input reads as it did. -/
def fareCheapestUptoRow : OpenClaim := { program := "ytgghnfmabphbmaa", sum := "8c1319499d476bd418ccf995dbabcfac85a92b190c9b7f18818fd1de7857a454", func := "fishplate/fishlaw2.FareCheapest", spec := "fareCheapest", unfollowed := true, recurses := true, loops := true, apart := false, narrowed := true }
def FareCheapestUptoSaid : Prop := fareCheapestUptoRow.holds Try.pinned (OpenSpec.upto fareCheapestSpec)

/-- 'fishlaw2.FareBids', WHERE WHAT IT READS IS OF BULK AT MOST 1048576: true; the input reads as it did. -/
def fareBidsUptoRow : OpenClaim := { program := "ytgghnfmabphbmaa", sum := "8c1319499d476bd418ccf995dbabcfac85a92b190c9b7f18818fd1de7857a454", func := "fishplate/fishlaw2.FareBids", spec := "fareBids", unfollowed := true, recurses := true, apart := false, narrowed := true }
def FareBidsUptoSaid : Prop := fareBidsUptoRow.holds Try.pinned (OpenSpec.upto fareBidsSpec)

/-- 'fishlaw2.FareShares', WHERE WHAT IT READS IS OF BULK AT MOST 1048576: true; the input reads as it did. -/
def fareSharesUptoRow : OpenClaim := { program := "ytgghnfmabphbmaa", sum := "8c1319499d476bd418ccf995dbabcfac85a92b190c9b7f18818fd1de7857a454", func := "fishplate/fishlaw2.FareShares", spec := "fareShares", unfollowed := true, recurses := true, apart := false, narrowed := true }
def FareSharesUptoSaid : Prop := fareSharesUptoRow.holds Try.pinned (OpenSpec.upto fareSharesSpec)

/-- 'fishlaw2.FarePacks', WHERE WHAT IT READS IS OF BULK AT MOST 1048576: true; the input reads as it did. -/
def farePacksUptoRow : OpenClaim := { program := "ytgghnfmabphbmaa", sum := "8c1319499d476bd418ccf995dbabcfac85a92b190c9b7f18818fd1de7857a454", func := "fishplate/fishlaw2.FarePacks", spec := "farePacks", unfollowed := true, recurses := true, apart := false, narrowed := true }
def FarePacksUptoSaid : Prop := farePacksUptoRow.holds Try.pinned (OpenSpec.upto farePacksSpec)

/-- 'fishlaw2.FareSettles', WHERE WHAT IT READS IS OF BULK AT MOST 1048576: true; the input reads as it did. -/
def fareSettlesUptoRow : OpenClaim := { program := "ytgghnfmabphbmaa", sum := "8c1319499d476bd418ccf995dbabcfac85a92b190c9b7f18818fd1de7857a454", func := "fishplate/fishlaw2.FareSettles", spec := "fareSettles", unfollowed := true, recurses := true, apart := false, narrowed := true }
def FareSettlesUptoSaid : Prop := fareSettlesUptoRow.holds Try.pinned (OpenSpec.upto fareSettlesSpec)

/-- 'fishlaw2.FareWays', WHERE WHAT IT READS IS OF BULK AT MOST 1048576: true; the input reads as it did. -/
def fareWaysUptoRow : OpenClaim := { program := "ytgghnfmabphbmaa", sum := "8c1319499d476bd418ccf995dbabcfac85a92b190c9b7f18818fd1de7857a454", func := "fishplate/fishlaw2.FareWays", spec := "fareWays", unfollowed := true, recurses := true, apart := false, narrowed := true }
def FareWaysUptoSaid : Prop := fareWaysUptoRow.holds Try.pinned (OpenSpec.upto fareWaysSpec)

/-- 'fishlaw2.FareCars', WHERE WHAT IT READS IS OF BULK AT MOST 1048576: true; the input reads as it did. -/
def fareCarsUptoRow : OpenClaim := { program := "ytgghnfmabphbmaa", sum := "8c1319499d476bd418ccf995dbabcfac85a92b190c9b7f18818fd1de7857a454", func := "fishplate/fishlaw2.FareCars", spec := "fareCars", unfollowed := true, recurses := true, apart := false, narrowed := true }
def FareCarsUptoSaid : Prop := fareCarsUptoRow.holds Try.pinned (OpenSpec.upto fareCarsSpec)

end Rows
end Go.Proofs.Ytgghnfmabphbmaa
