/- The data of the program, as cells; how its functions are walked. -/
import Derived.Test.YtgghnfmabphbmaaA20
import Derived.Test.YtgghnfmabphbmaaProg
import Derived.KernelRfl
open Go Go.Proofs.Ytgghnfmabphbmaa.Fw
namespace Go.Proofs.Ytgghnfmabphbmaa
set_option maxRecDepth 100000
set_option linter.unusedVariables false
noncomputable abbrev TT := tabOf Try.prog
theorem hm : Try.prog.follows .mixedOrders = true := by kernel_rfl
structure TBand where
 upto : Int
 price : Int
def TBand.c (x : TBand) : List AVal := [.pv false (eI x.upto 0), .pv false (eI x.price 0)]
def TBand.e (x : TBand) (j : Nat) : PV := pvAt (TBand.c x) j
def TBand.d : TBand := ⟨0, 0⟩
structure TRule where
 if0 : Tr
 do0 : Int
 n : Int
 stop : Bool
def TRule.c (x : TRule) : List AVal := [.pv false ((trC 3) x.if0 0), .pv false ((trC 3) x.if0 1), .pv false ((trC 3) x.if0 2), .pv false ((trC 3) x.if0 3), .pv false (eI x.do0 0), .pv false (eI x.n 0), .pv false (eB x.stop 0)]
def TRule.e (x : TRule) (j : Nat) : PV := pvAt (TRule.c x) j
def TRule.d : TRule := ⟨Tr.d, 0, 0, false⟩
structure TTariff where
 byKm : Bool
 bands : (List TBand)
 round : Int
 rules : (List TRule)
def TTariff.c (x : TTariff) : List AVal := [.pv false (eB x.byKm 0), .pv false ((eL 2 TBand.e TBand.d) x.bands 0), .pv false (eI x.round 0), .pv false ((eL 7 TRule.e TRule.d) x.rules 0)]
def TTariff.e (x : TTariff) (j : Nat) : PV := pvAt (TTariff.c x) j
def TTariff.d : TTariff := ⟨false, [], 0, []⟩
structure TTrip where
 day : Int
 at0 : Int
 km : Int
 age : Int
 card : Bool
 zones : (List Int)
def TTrip.c (x : TTrip) : List AVal := [.pv false (eI x.day 0), .pv false (eI x.at0 0), .pv false (eI x.km 0), .pv false (eI x.age 0), .pv false (eB x.card 0), .pv false ((eL 1 eI 0) x.zones 0)]
def TTrip.e (x : TTrip) (j : Nat) : PV := pvAt (TTrip.c x) j
def TTrip.d : TTrip := ⟨0, 0, 0, 0, false, []⟩
structure TOffer where
 from0 : Int
 to0 : Int
 value : Int
def TOffer.c (x : TOffer) : List AVal := [.pv false (eI x.from0 0), .pv false (eI x.to0 0), .pv false (eI x.value 0)]
def TOffer.e (x : TOffer) (j : Nat) : PV := pvAt (TOffer.c x) j
def TOffer.d : TOffer := ⟨0, 0, 0⟩
def f111_nl : Fl := ⟨fun r o => match r, o with | 3, 0 => 2 | 3, 2 => 8 | _, _ => 0, fun r => match r with  | _ => none, fun _ => none, fun r => match r with  | _ => none⟩
def f12_fl : Fl := ⟨fun r o => match r, o with  | _, _ => 0, fun r => match r with | 8 => some [0, 1, 2, 7, 51, 52, 53] | _ => none, fun _ => none, fun r => match r with  | _ => none⟩
def f18_fl : Fl := ⟨fun r o => match r, o with  | _, _ => 0, fun r => match r with  | _ => none, fun _ => none, fun r => match r with  | _ => none⟩
def f19_fl : Fl := ⟨fun r o => match r, o with | 0, 0 => 1 | _, _ => 0, fun r => match r with | 4 => some [1, 21, 22, 23] | 14 => some [70, 71, 72] | _ => none, fun _ => none, fun r => match r with  | _ => none⟩
def f21_fl : Fl := ⟨fun r o => match r, o with | 0, 0 => 1 | _, _ => 0, fun r => match r with  | _ => none, fun _ => none, fun r => match r with  | _ => none⟩
def f23_fl : Fl := ⟨fun r o => match r, o with | 0, 0 => 1 | 0, 1 => 1 | _, _ => 0, fun r => match r with  | _ => none, fun _ => none, fun r => match r with  | _ => none⟩
def f25_fl : Fl := ⟨fun r o => match r, o with  | _, _ => 0, fun r => match r with | 4 => some [0, 1, 12, 13] | _ => none, fun _ => none, fun r => match r with  | _ => none⟩
def f44_fl : Fl := ⟨fun r o => match r, o with  | _, _ => 0, fun r => match r with | 6 => some [2, 20, 21, 22] | _ => none, fun _ => none, fun r => match r with  | _ => none⟩
def f45_fl : Fl := ⟨fun r o => match r, o with | 7, 1 => 2 | 12, 0 => 5 | _, _ => 0, fun r => match r with | 3 => some [0, 1, 2, 8, 9, 19, 20] | 9 => some [0, 1, 2, 8, 9, 10, 11, 12, 13, 19, 20, 25, 26, 27] | 15 => some [0, 1, 2, 8, 9, 10, 11, 12, 13, 15, 16, 19, 20, 25, 26, 27] | _ => none, fun _ => none, fun r => match r with  | _ => none⟩
def f50_fl : Fl := ⟨fun r o => match r, o with | 0, 0 => 1 | 0, 1 => 1 | 0, 2 => 1 | 4, 1 => 1 | 28, 0 => 42 | 35, 0 => 5 | _, _ => 0, fun r => match r with | 8 => some [5, 9, 10, 11, 36, 37] | 11 => some [5, 9, 10, 11, 13, 14, 36, 37] | 14 => some [5, 9, 10, 11, 13, 14, 15, 36, 37] | 17 => some [5, 9, 10, 11, 13, 14, 15, 36, 37, 50, 51] | 21 => some [5, 9, 10, 11, 13, 14, 15, 17, 18, 36, 37, 50, 51, 57, 58] | 33 => some [5, 9, 21, 22] | _ => none, fun _ => none, fun r => match r with  | _ => none⟩
def f51_fl : Fl := ⟨fun r o => match r, o with  | _, _ => 0, fun r => match r with | 3 => some [0, 1, 2, 7, 14, 15, 16] | 8 => some [2, 7, 26, 27, 28] | 12 => some [2, 7, 11, 12, 13, 26, 27, 28] | _ => none, fun _ => none, fun r => match r with  | _ => none⟩
def f61_fl : Fl := ⟨fun r o => match r, o with  | _, _ => 0, fun r => match r with | 2 => some [0, 1, 9, 10, 11] | _ => none, fun _ => none, fun r => match r with  | _ => none⟩
def f79_fl : Fl := ⟨fun r o => match r, o with  | _, _ => 0, fun r => match r with  | _ => none, fun _ => none, fun r => match r with  | _ => none⟩
def f80_fl : Fl := ⟨fun r o => match r, o with | 0, 0 => 1 | _, _ => 0, fun r => match r with  | _ => none, fun _ => none, fun r => match r with  | _ => none⟩
def f81_fl : Fl := ⟨fun r o => match r, o with  | _, _ => 0, fun r => match r with  | _ => none, fun _ => none, fun r => match r with  | _ => none⟩
def f82_fl : Fl := ⟨fun r o => match r, o with  | _, _ => 0, fun r => match r with | 2 => some [0, 1, 7, 8, 9] | _ => none, fun _ => none, fun r => match r with  | _ => none⟩
def f83_fl : Fl := ⟨fun r o => match r, o with | 0, 0 => 1 | 0, 1 => 1 | 13, 0 => 5 | _, _ => 0, fun r => match r with | 10 => some [2, 3, 8, 9, 36, 37, 38] | _ => none, fun _ => none, fun r => match r with | 4 => some [2, 3, 6] | 7 => some [2, 3, 7] | _ => none⟩
def f84_fl : Fl := ⟨fun r o => match r, o with | 0, 0 => 1 | 0, 1 => 1 | _, _ => 0, fun r => match r with  | _ => none, fun _ => none, fun r => match r with  | _ => none⟩
def f87_fl : Fl := ⟨fun r o => match r, o with  | _, _ => 0, fun r => match r with  | _ => none, fun _ => none, fun r => match r with  | _ => none⟩
def f99_fl : Fl := ⟨fun r o => match r, o with  | _, _ => 0, fun r => match r with | 6 => some [2, 20, 21, 22] | _ => none, fun _ => none, fun r => match r with  | _ => none⟩
def f100_fl : Fl := ⟨fun r o => match r, o with  | _, _ => 0, fun r => match r with | 5 => some [0, 3, 4] | _ => none, fun _ => none, fun r => match r with | 3 => some [0] | _ => none⟩
def f105_fl : Fl := ⟨fun r o => match r, o with  | _, _ => 0, fun r => match r with  | _ => none, fun _ => none, fun r => match r with  | _ => none⟩
def f110_fl : Fl := ⟨fun r o => match r, o with  | _, _ => 0, fun r => match r with | 3 => some [0, 2, 3, 6, 7] | 8 => some [0, 6, 32, 33, 34] | _ => none, fun _ => none, fun r => match r with | 2 => some [0, 1, 2, 3] | _ => none⟩
def f111_fl : Fl := ⟨fun r o => match r, o with | 3, 0 => 3 | _, _ => 0, fun r => match r with  | _ => none, fun _ => none, fun r => match r with  | _ => none⟩
def f114_fl : Fl := ⟨fun r o => match r, o with  | _, _ => 0, fun r => match r with  | _ => none, fun _ => none, fun r => match r with  | _ => none⟩
def f131_fl : Fl := ⟨fun r o => match r, o with | 0, 0 => 1 | _, _ => 0, fun r => match r with | 3 => some [2, 3, 9, 10, 11] | _ => none, fun _ => none, fun r => match r with  | _ => none⟩
def f132_fl : Fl := ⟨fun r o => match r, o with | 0, 0 => 1 | _, _ => 0, fun r => match r with | 11 => some [87, 88, 89] | _ => none, fun _ => none, fun r => match r with | 10 => some [1, 3] | _ => none⟩
def f133_fl : Fl := ⟨fun r o => match r, o with  | _, _ => 0, fun r => match r with | 2 => some [0, 1, 7, 8] | _ => none, fun _ => none, fun r => match r with  | _ => none⟩
def f134_fl : Fl := ⟨fun r o => match r, o with | 0, 0 => 1 | _, _ => 0, fun r => match r with  | _ => none, fun _ => none, fun r => match r with  | _ => none⟩
def f135_fl : Fl := ⟨fun r o => match r, o with | 0, 0 => 1 | _, _ => 0, fun r => match r with  | _ => none, fun _ => none, fun r => match r with  | _ => none⟩
def f136_fl : Fl := ⟨fun r o => match r, o with  | _, _ => 0, fun r => match r with  | _ => none, fun _ => none, fun r => match r with  | _ => none⟩
def f137_fl : Fl := ⟨fun r o => match r, o with  | _, _ => 0, fun r => match r with  | _ => none, fun _ => none, fun r => match r with  | _ => none⟩
def f138_fl : Fl := ⟨fun r o => match r, o with | 0, 0 => 1 | _, _ => 0, fun r => match r with  | _ => none, fun _ => none, fun r => match r with  | _ => none⟩
def f139_fl : Fl := ⟨fun r o => match r, o with | 0, 0 => 1 | _, _ => 0, fun r => match r with  | _ => none, fun _ => none, fun r => match r with  | _ => none⟩
def f141_fl : Fl := ⟨fun r o => match r, o with  | _, _ => 0, fun r => match r with | 2 => some [0, 1, 7, 8] | _ => none, fun _ => none, fun r => match r with  | _ => none⟩
def f145_fl : Fl := ⟨fun r o => match r, o with  | _, _ => 0, fun r => match r with  | _ => none, fun _ => none, fun r => match r with  | _ => none⟩
def f159_fl : Fl := ⟨fun r o => match r, o with  | _, _ => 0, fun r => match r with  | _ => none, fun _ => none, fun r => match r with | 6 => some [3] | _ => none⟩
def f160_fl : Fl := ⟨fun r o => match r, o with  | _, _ => 0, fun r => match r with | 2 => some [0, 1, 7, 8] | _ => none, fun _ => none, fun r => match r with  | _ => none⟩
end Go.Proofs.Ytgghnfmabphbmaa
