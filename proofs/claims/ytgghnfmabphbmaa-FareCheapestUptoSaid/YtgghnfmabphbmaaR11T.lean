/- The data of the program, as cells; how its functions are walked. -/
import Derived.Test.YtgghnfmabphbmaaA20
import Derived.Test.YtgghnfmabphbmaaProg
import Derived.KernelRfl
open Go Go.Proofs.Ytgghnfmabphbmaa.Fw
namespace Go.Proofs.Ytgghnfmabphbmaa
set_option maxRecDepth 100000
set_option linter.unusedVariables false
noncomputable abbrev TT := tabOf Try.prog
theorem hm : Try.prog.follows .mixedOrders = true := by kernel_rfl
structure TBand where
 upto : Int
 price : Int
def TBand.c (x : TBand) : List AVal := [.pv false (eI x.upto 0), .pv false (eI x.price 0)]
def TBand.e (x : TBand) (j : Nat) : PV := pvAt (TBand.c x) j
def TBand.d : TBand := ⟨0, 0⟩
structure TRule where
 if0 : Tr
 do0 : Int
 n : Int
 stop : Bool
def TRule.c (x : TRule) : List AVal := [.pv false ((trC 3) x.if0 0), .pv false ((trC 3) x.if0 1), .pv false ((trC 3) x.if0 2), .pv false ((trC 3) x.if0 3), .pv false (eI x.do0 0), .pv false (eI x.n 0), .pv false (eB x.stop 0)]
def TRule.e (x : TRule) (j : Nat) : PV := pvAt (TRule.c x) j
def TRule.d : TRule := ⟨Tr.d, 0, 0, false⟩
structure TTariff where
 byKm : Bool
 bands : (List TBand)
 round : Int
 rules : (List TRule)
def TTariff.c (x : TTariff) : List AVal := [.pv false (eB x.byKm 0), .pv false ((eL 2 TBand.e TBand.d) x.bands 0), .pv false (eI x.round 0), .pv false ((eL 7 TRule.e TRule.d) x.rules 0)]
def TTariff.e (x : TTariff) (j : Nat) : PV := pvAt (TTariff.c x) j
def TTariff.d : TTariff := ⟨false, [], 0, []⟩
structure TTrip where
 day : Int
 at0 : Int
 km : Int
 age : Int
 card : Bool
 zones : (List Int)
def TTrip.c (x : TTrip) : List AVal := [.pv false (eI x.day 0), .pv false (eI x.at0 0), .pv false (eI x.km 0), .pv false (eI x.age 0), .pv false (eB x.card 0), .pv false ((eL 1 eI 0) x.zones 0)]
def TTrip.e (x : TTrip) (j : Nat) : PV := pvAt (TTrip.c x) j
def TTrip.d : TTrip := ⟨0, 0, 0, 0, false, []⟩
structure TPass where
 days : Int
 price : Int
 zones : (List Int)
def TPass.c (x : TPass) : List AVal := [.pv false (eI x.days 0), .pv false (eI x.price 0), .pv false ((eL 1 eI 0) x.zones 0)]
def TPass.e (x : TPass) (j : Nat) : PV := pvAt (TPass.c x) j
def TPass.d : TPass := ⟨0, 0, []⟩
structure TBuy where
 day : Int
 pass : Int
def TBuy.c (x : TBuy) : List AVal := [.pv false (eI x.day 0), .pv false (eI x.pass 0)]
def TBuy.e (x : TBuy) (j : Nat) : PV := pvAt (TBuy.c x) j
def TBuy.d : TBuy := ⟨0, 0⟩
def f11_fl : Fl := ⟨fun r o => match r, o with | 0, 0 => 1 | _, _ => 0, fun r => match r with  | _ => none, fun _ => none, fun r => match r with  | _ => none⟩
def f18_fl : Fl := ⟨fun r o => match r, o with  | _, _ => 0, fun r => match r with  | _ => none, fun _ => none, fun r => match r with  | _ => none⟩
def f19_fl : Fl := ⟨fun r o => match r, o with | 0, 0 => 1 | _, _ => 0, fun r => match r with | 4 => some [1, 21, 22, 23] | 14 => some [70, 71, 72] | _ => none, fun _ => none, fun r => match r with  | _ => none⟩
def f20_fl : Fl := ⟨fun r o => match r, o with | 0, 0 => 1 | _, _ => 0, fun r => match r with | 4 => some [1, 21, 22, 23] | 14 => some [70, 71, 72] | _ => none, fun _ => none, fun r => match r with  | _ => none⟩
def f21_fl : Fl := ⟨fun r o => match r, o with | 0, 0 => 1 | _, _ => 0, fun r => match r with  | _ => none, fun _ => none, fun r => match r with  | _ => none⟩
def f22_fl : Fl := ⟨fun r o => match r, o with | 0, 0 => 1 | _, _ => 0, fun r => match r with | 6 => some [1, 33, 34, 35] | _ => none, fun _ => none, fun r => match r with  | _ => none⟩
def f23_fl : Fl := ⟨fun r o => match r, o with | 0, 0 => 1 | 0, 1 => 1 | _, _ => 0, fun r => match r with  | _ => none, fun _ => none, fun r => match r with  | _ => none⟩
def f24_fl : Fl := ⟨fun r o => match r, o with | 0, 0 => 1 | 0, 1 => 1 | 15, 0 => 5 | _, _ => 0, fun r => match r with | 6 => some [2, 3, 6, 7, 8] | 12 => some [2, 3, 7, 9, 51, 52, 53] | 31 => some [2, 7, 9] | _ => none, fun _ => none, fun r => match r with | 4 => some [2, 3, 6] | 29 => some [2, 3, 7, 9, 11, 51, 52, 53] | _ => none⟩
def f25_fl : Fl := ⟨fun r o => match r, o with  | _, _ => 0, fun r => match r with | 4 => some [0, 1, 12, 13] | _ => none, fun _ => none, fun r => match r with  | _ => none⟩
def f27_fl : Fl := ⟨fun r o => match r, o with | 0, 0 => 1 | _, _ => 0, fun r => match r with  | _ => none, fun _ => none, fun r => match r with  | _ => none⟩
def f28_fl : Fl := ⟨fun r o => match r, o with | 0, 0 => 1 | 0, 1 => 1 | _, _ => 0, fun r => match r with | 23 => some [2, 3, 5, 94, 95, 96] | 31 => some [3, 114, 115, 116] | _ => none, fun _ => none, fun r => match r with  | _ => none⟩
def f46_fl : Fl := ⟨fun r o => match r, o with | 0, 0 => 1 | 0, 1 => 1 | 14, 0 => 5 | 35, 0 => 5 | _, _ => 0, fun r => match r with | 8 => some [1, 3, 5, 10, 42, 43, 44] | 17 => some [1, 5, 10, 64, 65, 66] | 28 => some [1, 5, 10, 19, 20, 90, 91] | 32 => some [1, 5, 10, 19, 20, 21, 22, 90, 91, 96, 97] | 39 => some [1, 5, 10, 19, 20, 22, 24, 90, 91, 118, 119, 120] | 44 => some [1, 5, 10, 19, 20, 22, 24, 90, 91, 133, 134, 135] | _ => none, fun _ => none, fun r => match r with  | _ => none⟩
def f47_fl : Fl := ⟨fun r o => match r, o with | 0, 0 => 1 | _, _ => 0, fun r => match r with | 7 => some [2, 28, 29, 30] | 14 => some [40, 41, 42] | 19 => some [12, 40, 41, 42, 57, 58, 59] | _ => none, fun _ => none, fun r => match r with  | _ => none⟩
def f48_fl : Fl := ⟨fun r o => match r, o with | 0, 0 => 1 | 12, 0 => 5 | _, _ => 0, fun r => match r with | 5 => some [1, 2, 3, 8, 9, 10, 19, 20] | 9 => some [1, 2, 3, 8, 9, 10, 11, 12, 19, 20, 23, 24] | _ => none, fun _ => none, fun r => match r with  | _ => none⟩
def f49_fl : Fl := ⟨fun r o => match r, o with  | _, _ => 0, fun r => match r with | 4 => some [0, 1, 12, 13] | _ => none, fun _ => none, fun r => match r with  | _ => none⟩
def f62_fl : Fl := ⟨fun r o => match r, o with  | _, _ => 0, fun r => match r with  | _ => none, fun _ => none, fun r => match r with  | _ => none⟩
def f79_fl : Fl := ⟨fun r o => match r, o with  | _, _ => 0, fun r => match r with  | _ => none, fun _ => none, fun r => match r with  | _ => none⟩
def f80_fl : Fl := ⟨fun r o => match r, o with | 0, 0 => 1 | _, _ => 0, fun r => match r with  | _ => none, fun _ => none, fun r => match r with  | _ => none⟩
def f81_fl : Fl := ⟨fun r o => match r, o with  | _, _ => 0, fun r => match r with  | _ => none, fun _ => none, fun r => match r with  | _ => none⟩
def f82_fl : Fl := ⟨fun r o => match r, o with  | _, _ => 0, fun r => match r with | 2 => some [0, 1, 7, 8, 9] | _ => none, fun _ => none, fun r => match r with  | _ => none⟩
def f83_fl : Fl := ⟨fun r o => match r, o with | 0, 0 => 1 | 0, 1 => 1 | 13, 0 => 5 | _, _ => 0, fun r => match r with | 10 => some [2, 3, 8, 9, 36, 37, 38] | _ => none, fun _ => none, fun r => match r with | 4 => some [2, 3, 6] | 7 => some [2, 3, 7] | _ => none⟩
def f84_fl : Fl := ⟨fun r o => match r, o with | 0, 0 => 1 | 0, 1 => 1 | _, _ => 0, fun r => match r with  | _ => none, fun _ => none, fun r => match r with  | _ => none⟩
def f85_fl : Fl := ⟨fun r o => match r, o with | 0, 0 => 1 | _, _ => 0, fun r => match r with | 5 => some [1, 4, 17, 18, 19] | _ => none, fun _ => none, fun r => match r with  | _ => none⟩
def f86_fl : Fl := ⟨fun r o => match r, o with | 0, 0 => 1 | _, _ => 0, fun r => match r with | 20 => some [69, 70, 71] | _ => none, fun _ => none, fun r => match r with | 8 => some [1, 3] | 19 => some [1, 4] | _ => none⟩
def f87_fl : Fl := ⟨fun r o => match r, o with  | _, _ => 0, fun r => match r with  | _ => none, fun _ => none, fun r => match r with  | _ => none⟩
def f101_fl : Fl := ⟨fun r o => match r, o with  | _, _ => 0, fun r => match r with  | _ => none, fun _ => none, fun r => match r with  | _ => none⟩
def f102_fl : Fl := ⟨fun r o => match r, o with | 0, 0 => 1 | _, _ => 0, fun r => match r with  | _ => none, fun _ => none, fun r => match r with  | _ => none⟩
def f103_fl : Fl := ⟨fun r o => match r, o with | 0, 0 => 1 | 0, 1 => 1 | _, _ => 0, fun r => match r with  | _ => none, fun _ => none, fun r => match r with  | _ => none⟩
def f104_fl : Fl := ⟨fun r o => match r, o with  | _, _ => 0, fun r => match r with | 3 => some [3, 6, 7, 8] | _ => none, fun _ => none, fun r => match r with  | _ => none⟩
def f105_fl : Fl := ⟨fun r o => match r, o with  | _, _ => 0, fun r => match r with  | _ => none, fun _ => none, fun r => match r with  | _ => none⟩
def f106_fl : Fl := ⟨fun r o => match r, o with  | _, _ => 0, fun r => match r with | 2 => some [0, 1, 2, 11, 12, 13] | _ => none, fun _ => none, fun r => match r with  | _ => none⟩
def f107_fl : Fl := ⟨fun r o => match r, o with | 0, 0 => 1 | 0, 1 => 1 | _, _ => 0, fun r => match r with  | _ => none, fun _ => none, fun r => match r with  | _ => none⟩
def f108_fl : Fl := ⟨fun r o => match r, o with | 0, 0 => 1 | _, _ => 0, fun r => match r with | 3 => some [1, 2, 3, 4, 9, 19, 20, 21] | 8 => some [2, 3, 4, 9, 34, 35, 36] | 12 => some [2, 3, 4, 9, 13, 14, 34, 35, 36, 40, 41, 42] | _ => none, fun _ => none, fun r => match r with  | _ => none⟩
def f109_fl : Fl := ⟨fun r o => match r, o with | 0, 0 => 1 | 0, 1 => 1 | _, _ => 0, fun r => match r with  | _ => none, fun _ => none, fun r => match r with  | _ => none⟩
def f116_fl : Fl := ⟨fun r o => match r, o with  | _, _ => 0, fun r => match r with | 2 => some [0, 1, 7, 8] | _ => none, fun _ => none, fun r => match r with  | _ => none⟩
def f131_fl : Fl := ⟨fun r o => match r, o with | 0, 0 => 1 | _, _ => 0, fun r => match r with | 3 => some [2, 3, 9, 10, 11] | _ => none, fun _ => none, fun r => match r with  | _ => none⟩
def f132_fl : Fl := ⟨fun r o => match r, o with | 0, 0 => 1 | _, _ => 0, fun r => match r with | 11 => some [87, 88, 89] | _ => none, fun _ => none, fun r => match r with | 10 => some [1, 3] | _ => none⟩
def f133_fl : Fl := ⟨fun r o => match r, o with  | _, _ => 0, fun r => match r with | 2 => some [0, 1, 7, 8] | _ => none, fun _ => none, fun r => match r with  | _ => none⟩
def f134_fl : Fl := ⟨fun r o => match r, o with | 0, 0 => 1 | _, _ => 0, fun r => match r with  | _ => none, fun _ => none, fun r => match r with  | _ => none⟩
def f135_fl : Fl := ⟨fun r o => match r, o with | 0, 0 => 1 | _, _ => 0, fun r => match r with  | _ => none, fun _ => none, fun r => match r with  | _ => none⟩
def f136_fl : Fl := ⟨fun r o => match r, o with  | _, _ => 0, fun r => match r with  | _ => none, fun _ => none, fun r => match r with  | _ => none⟩
def f137_fl : Fl := ⟨fun r o => match r, o with  | _, _ => 0, fun r => match r with  | _ => none, fun _ => none, fun r => match r with  | _ => none⟩
def f138_fl : Fl := ⟨fun r o => match r, o with | 0, 0 => 1 | _, _ => 0, fun r => match r with  | _ => none, fun _ => none, fun r => match r with  | _ => none⟩
def f139_fl : Fl := ⟨fun r o => match r, o with | 0, 0 => 1 | _, _ => 0, fun r => match r with  | _ => none, fun _ => none, fun r => match r with  | _ => none⟩
def f140_fl : Fl := ⟨fun r o => match r, o with  | _, _ => 0, fun r => match r with  | _ => none, fun _ => none, fun r => match r with | 6 => some [3] | _ => none⟩
def f141_fl : Fl := ⟨fun r o => match r, o with  | _, _ => 0, fun r => match r with | 2 => some [0, 1, 7, 8] | _ => none, fun _ => none, fun r => match r with  | _ => none⟩
def f143_fl : Fl := ⟨fun r o => match r, o with  | _, _ => 0, fun r => match r with | 2 => some [0, 1, 7, 8] | _ => none, fun _ => none, fun r => match r with  | _ => none⟩
def f144_fl : Fl := ⟨fun r o => match r, o with  | _, _ => 0, fun r => match r with  | _ => none, fun _ => none, fun r => match r with  | _ => none⟩
def f145_fl : Fl := ⟨fun r o => match r, o with  | _, _ => 0, fun r => match r with  | _ => none, fun _ => none, fun r => match r with  | _ => none⟩
def f146_fl : Fl := ⟨fun r o => match r, o with | 0, 0 => 1 | 0, 1 => 1 | _, _ => 0, fun r => match r with | 4 => some [3, 23, 24, 25] | _ => none, fun _ => none, fun r => match r with  | _ => none⟩
def f159_fl : Fl := ⟨fun r o => match r, o with  | _, _ => 0, fun r => match r with  | _ => none, fun _ => none, fun r => match r with | 6 => some [3] | _ => none⟩
def f160_fl : Fl := ⟨fun r o => match r, o with  | _, _ => 0, fun r => match r with | 2 => some [0, 1, 7, 8] | _ => none, fun _ => none, fun r => match r with  | _ => none⟩
end Go.Proofs.Ytgghnfmabphbmaa
