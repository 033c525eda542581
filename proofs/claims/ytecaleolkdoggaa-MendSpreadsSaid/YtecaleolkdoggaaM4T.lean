/- The data of the program, as cells; how its functions are walked. -/
import Derived.Test.YtecaleolkdoggaaA20
import Derived.Test.YtecaleolkdoggaaProg
import Derived.KernelRfl
open Go Go.Proofs.Ytecaleolkdoggaa.Fw
namespace Go.Proofs.Ytecaleolkdoggaa
set_option maxRecDepth 100000
set_option linter.unusedVariables false
noncomputable abbrev TT := tabOf Try.prog
theorem hm : Try.prog.follows .mixedOrders = true := by kernel_rfl
structure TLink where
  from0 : Int
  to0 : Int
  len : Int
  back : Int
def TLink.c (x : TLink) : List AVal := [.pv false (eI x.from0 0), .pv false (eI x.to0 0), .pv false (eI x.len 0), .pv false (eI x.back 0)]
def TLink.e (x : TLink) (j : Nat) : PV := pvAt (TLink.c x) j
def TLink.d : TLink := ⟨0, 0, 0, 0⟩
structure TRound where
  period : Int
  plan : (List Int)
  links : (List TLink)
def TRound.c (x : TRound) : List AVal := [.pv false (eI x.period 0), .pv false ((eL 1 eI 0) x.plan 0), .pv false ((eL 4 TLink.e TLink.d) x.links 0)]
def TRound.e (x : TRound) (j : Nat) : PV := pvAt (TRound.c x) j
def TRound.d : TRound := ⟨0, [], []⟩
structure TFirst where
  event : Int
  period : Int
  secs : Int
def TFirst.c (x : TFirst) : List AVal := [.pv false (eI x.event 0), .pv false (eI x.period 0), .pv false (eI x.secs 0)]
def TFirst.e (x : TFirst) (j : Nat) : PV := pvAt (TFirst.c x) j
def TFirst.d : TFirst := ⟨0, 0, 0⟩
def f67_nl : Fl := ⟨fun r o => match r, o with | 3, 0 => 2 | 3, 2 => 8 | _, _ => 0, fun r => match r with  | _ => none, fun _ => none, fun r => match r with  | _ => none⟩
def f4_fl : Fl := ⟨fun r o => match r, o with | 0, 0 => 1 | _, _ => 0, fun r => match r with  | _ => none, fun _ => none, fun r => match r with | 5 => some [1, 2, 3, 7, 8, 9] | _ => none⟩
def f14_fl : Fl := ⟨fun r o => match r, o with | 0, 0 => 1 | 22, 1 => 2 | _, _ => 0, fun r => match r with | 7 => some [1, 3, 30, 31, 32] | 13 => some [1, 3, 44, 45, 46] | 24 => some [1, 3, 8, 90, 91] | 26 => some [1, 3, 8, 90, 91, 93, 94] | 30 => some [1, 3, 8, 9, 10, 90, 91, 93, 94, 98, 99, 100] | _ => none, fun _ => none, fun r => match r with  | _ => none⟩
def f15_fl : Fl := ⟨fun r o => match r, o with  | _, _ => 0, fun r => match r with  | _ => none, fun _ => none, fun r => match r with  | _ => none⟩
def f16_fl : Fl := ⟨fun r o => match r, o with | 0, 0 => 1 | _, _ => 0, fun r => match r with | 6 => some [1, 25, 26, 27] | 12 => some [1, 39, 40, 41] | _ => none, fun _ => none, fun r => match r with  | _ => none⟩
def f19_fl : Fl := ⟨fun r o => match r, o with | 0, 0 => 1 | 20, 3 => 2 | 27, 1 => 42 | 28, 0 => 5 | 29, 1 => 3 | _, _ => 0, fun r => match r with | 9 => some [1, 2, 3, 30, 31, 32] | 18 => some [1, 3, 11, 12, 57, 58] | 22 => some [1, 3, 11, 12, 13, 14, 57, 58, 65, 66, 67] | _ => none, fun _ => none, fun r => match r with  | _ => none⟩
def f20_fl : Fl := ⟨fun r o => match r, o with | 0, 0 => 1 | _, _ => 0, fun r => match r with | 6 => some [3, 20, 21, 22] | _ => none, fun _ => none, fun r => match r with  | _ => none⟩
def f21_fl : Fl := ⟨fun r o => match r, o with  | _, _ => 0, fun r => match r with  | _ => none, fun _ => none, fun r => match r with  | _ => none⟩
def f22_fl : Fl := ⟨fun r o => match r, o with | 0, 0 => 1 | 1, 1 => 40 | 5, 5 => 2 | 5, 7 => 41 | _, _ => 0, fun r => match r with | 3 => some [1, 2, 3, 7, 19, 20] | 8 => some [2, 3, 7, 31, 32, 33] | 14 => some [3, 7, 11] | 17 => some [3, 7, 11, 64, 65] | 20 => some [3, 7, 11, 12, 64, 65, 69, 70, 71] | _ => none, fun _ => none, fun r => match r with | 24 => some [3, 7, 11, 12, 14, 64, 65, 69, 70, 71] | 25 => some [3, 7, 11, 12, 14, 15, 64, 65, 69, 70, 71] | _ => none⟩
def f28_fl : Fl := ⟨fun r o => match r, o with  | _, _ => 0, fun r => match r with | 4 => some [0, 1, 12, 13] | _ => none, fun _ => none, fun r => match r with  | _ => none⟩
def f51_fl : Fl := ⟨fun r o => match r, o with  | _, _ => 0, fun r => match r with  | _ => none, fun _ => none, fun r => match r with  | _ => none⟩
def f52_fl : Fl := ⟨fun r o => match r, o with | 0, 0 => 1 | 0, 1 => 1 | _, _ => 0, fun r => match r with  | _ => none, fun _ => none, fun r => match r with  | _ => none⟩
def f53_fl : Fl := ⟨fun r o => match r, o with  | _, _ => 0, fun r => match r with  | _ => none, fun _ => none, fun r => match r with  | _ => none⟩
def f54_fl : Fl := ⟨fun r o => match r, o with  | _, _ => 0, fun r => match r with  | _ => none, fun _ => none, fun r => match r with  | _ => none⟩
def f55_fl : Fl := ⟨fun r o => match r, o with | 0, 0 => 1 | 0, 1 => 1 | _, _ => 0, fun r => match r with  | _ => none, fun _ => none, fun r => match r with  | _ => none⟩
def f56_fl : Fl := ⟨fun r o => match r, o with | 0, 0 => 1 | 1, 3 => 2 | _, _ => 0, fun r => match r with | 3 => some [1, 3, 14, 15] | 6 => some [1, 3, 4, 14, 15, 18, 19, 20] | _ => none, fun _ => none, fun r => match r with  | _ => none⟩
def f60_fl : Fl := ⟨fun r o => match r, o with | 0, 0 => 1 | _, _ => 0, fun r => match r with | 3 => some [1, 2, 3, 7] | 6 => some [1, 2, 3, 7, 16, 17, 18] | _ => none, fun _ => none, fun r => match r with | 13 => some [1, 2, 3, 7, 9, 10, 16, 17, 18] | _ => none⟩
def f61_fl : Fl := ⟨fun r o => match r, o with  | _, _ => 0, fun r => match r with | 4 => some [1, 2, 15, 16, 17] | _ => none, fun _ => none, fun r => match r with  | _ => none⟩
def f67_fl : Fl := ⟨fun r o => match r, o with | 3, 0 => 3 | _, _ => 0, fun r => match r with  | _ => none, fun _ => none, fun r => match r with  | _ => none⟩
def f84_fl : Fl := ⟨fun r o => match r, o with  | _, _ => 0, fun r => match r with | 2 => some [0, 1, 7, 8] | _ => none, fun _ => none, fun r => match r with  | _ => none⟩

end Go.Proofs.Ytecaleolkdoggaa
