/- The data of the program, as cells; how its functions are walked. -/
import Derived.Test.YtecaleolkdoggaaA20
import Derived.Test.YtecaleolkdoggaaProg
import Derived.KernelRfl
open Go Go.Proofs.Ytecaleolkdoggaa.Fw
namespace Go.Proofs.Ytecaleolkdoggaa
set_option maxRecDepth 100000
set_option linter.unusedVariables false
noncomputable abbrev TT := tabOf Try.prog
theorem hm : Try.prog.follows .mixedOrders = true := by kernel_rfl
structure TLink where
  from0 : Int
  to0 : Int
  len : Int
  back : Int
def TLink.c (x : TLink) : List AVal := [.pv false (eI x.from0 0), .pv false (eI x.to0 0), .pv false (eI x.len 0), .pv false (eI x.back 0)]
def TLink.e (x : TLink) (j : Nat) : PV := pvAt (TLink.c x) j
def TLink.d : TLink := ⟨0, 0, 0, 0⟩
structure TRound where
  period : Int
  plan : (List Int)
  links : (List TLink)
def TRound.c (x : TRound) : List AVal := [.pv false (eI x.period 0), .pv false ((eL 1 eI 0) x.plan 0), .pv false ((eL 4 TLink.e TLink.d) x.links 0)]
def TRound.e (x : TRound) (j : Nat) : PV := pvAt (TRound.c x) j
def TRound.d : TRound := ⟨0, [], []⟩
def f57_nl : Fl := ⟨fun r o => match r, o with | 6, 2 => 2 | _, _ => 0, fun r => match r with | 8 => some [7, 8] | _ => none, fun _ => none, fun r => match r with | 3 => some [0, 1] | 6 => some [0, 5, 6] | _ => none⟩
def f67_nl : Fl := ⟨fun r o => match r, o with | 3, 0 => 2 | 3, 2 => 8 | _, _ => 0, fun r => match r with  | _ => none, fun _ => none, fun r => match r with  | _ => none⟩
def f7_fl : Fl := ⟨fun r o => match r, o with  | _, _ => 0, fun r => match r with  | _ => none, fun _ => none, fun r => match r with  | _ => none⟩
def f15_fl : Fl := ⟨fun r o => match r, o with  | _, _ => 0, fun r => match r with  | _ => none, fun _ => none, fun r => match r with  | _ => none⟩
def f21_fl : Fl := ⟨fun r o => match r, o with  | _, _ => 0, fun r => match r with  | _ => none, fun _ => none, fun r => match r with  | _ => none⟩
def f28_fl : Fl := ⟨fun r o => match r, o with  | _, _ => 0, fun r => match r with | 4 => some [0, 1, 12, 13] | _ => none, fun _ => none, fun r => match r with  | _ => none⟩
def f29_fl : Fl := ⟨fun r o => match r, o with | 0, 0 => 1 | 17, 2 => 40 | 21, 6 => 41 | _, _ => 0, fun r => match r with | 11 => some [0, 3, 6, 43, 44] | 19 => some [3, 6, 10, 56, 57, 58] | 23 => some [3, 6, 10, 11, 12, 56, 57, 58, 69, 70] | 26 => some [3, 6, 10, 11, 12, 13, 56, 57, 58, 69, 70, 73, 74, 75] | _ => none, fun _ => none, fun r => match r with | 8 => some [0, 3, 6] | _ => none⟩
def f30_fl : Fl := ⟨fun r o => match r, o with | 41, 0 => 5 | 41, 1 => 42 | _, _ => 0, fun r => match r with | 4 => some [0, 1, 30, 31, 32] | 11 => some [0, 1, 8, 42, 43, 44] | 20 => some [0, 1, 8, 64, 65, 66] | 28 => some [1, 8, 14, 76, 77, 78] | 32 => some [1, 8, 14, 17, 76, 77, 78, 85, 86, 87] | 35 => some [1, 8, 14, 17, 19, 76, 77, 78, 85, 86, 87, 95, 96, 97] | _ => none, fun _ => none, fun r => match r with  | _ => none⟩
def f31_fl : Fl := ⟨fun r o => match r, o with | 0, 0 => 1 | 8, 2 => 40 | 12, 5 => 41 | _, _ => 0, fun r => match r with | 10 => some [5, 26, 27, 28] | 15 => some [5, 40, 41] | 18 => some [5, 8, 40, 41, 45, 46] | 21 => some [5, 8, 9, 40, 41, 45, 46, 50, 51] | 29 => some [5, 105, 106] | _ => none, fun _ => none, fun r => match r with  | _ => none⟩
def f32_fl : Fl := ⟨fun r o => match r, o with | 13, 1 => 40 | 17, 6 => 41 | _, _ => 0, fun r => match r with | 5 => some [0, 4, 18, 19, 20] | 15 => some [0, 4, 8, 37, 38] | 20 => some [0, 4, 8, 9, 37, 38, 54, 55] | 23 => some [0, 4, 8, 9, 10, 37, 38, 54, 55, 58, 59] | 26 => some [0, 4, 8, 9, 10, 11, 37, 38, 54, 55, 58, 59, 62, 63] | _ => none, fun _ => none, fun r => match r with | 30 => some [0, 4, 8, 9, 10, 11, 12, 37, 38, 54, 55, 58, 59, 62, 63] | _ => none⟩
def f47_fl : Fl := ⟨fun r o => match r, o with  | _, _ => 0, fun r => match r with  | _ => none, fun _ => none, fun r => match r with  | _ => none⟩
def f51_fl : Fl := ⟨fun r o => match r, o with  | _, _ => 0, fun r => match r with  | _ => none, fun _ => none, fun r => match r with  | _ => none⟩
def f54_fl : Fl := ⟨fun r o => match r, o with  | _, _ => 0, fun r => match r with  | _ => none, fun _ => none, fun r => match r with  | _ => none⟩
def f57_fl : Fl := ⟨fun r o => match r, o with | 6, 2 => 2 | _, _ => 0, fun r => match r with | 8 => some [7, 8] | _ => none, fun _ => none, fun r => match r with | 3 => some [0, 1] | 6 => some [0, 5, 6] | _ => none⟩
def f61_fl : Fl := ⟨fun r o => match r, o with  | _, _ => 0, fun r => match r with | 4 => some [1, 2, 15, 16, 17] | _ => none, fun _ => none, fun r => match r with  | _ => none⟩
def f67_fl : Fl := ⟨fun r o => match r, o with | 3, 0 => 3 | _, _ => 0, fun r => match r with  | _ => none, fun _ => none, fun r => match r with  | _ => none⟩
def f70_fl : Fl := ⟨fun r o => match r, o with  | _, _ => 0, fun r => match r with  | _ => none, fun _ => none, fun r => match r with  | _ => none⟩
def f71_fl : Fl := ⟨fun r o => match r, o with  | _, _ => 0, fun r => match r with  | _ => none, fun _ => none, fun r => match r with  | _ => none⟩
def f72_fl : Fl := ⟨fun r o => match r, o with  | _, _ => 0, fun r => match r with  | _ => none, fun _ => none, fun r => match r with  | _ => none⟩
def f73_fl : Fl := ⟨fun r o => match r, o with  | _, _ => 0, fun r => match r with | 2 => some [5, 6, 7] | _ => none, fun _ => none, fun r => match r with  | _ => none⟩
def f74_fl : Fl := ⟨fun r o => match r, o with  | _, _ => 0, fun r => match r with | 2 => some [7, 8, 9] | 5 => some [7, 8, 9, 13, 14, 15] | _ => none, fun _ => none, fun r => match r with  | _ => none⟩
def f75_fl : Fl := ⟨fun r o => match r, o with  | _, _ => 0, fun r => match r with  | _ => none, fun _ => none, fun r => match r with  | _ => none⟩
def f82_fl : Fl := ⟨fun r o => match r, o with  | _, _ => 0, fun r => match r with | 2 => some [0, 1, 7, 8] | _ => none, fun _ => none, fun r => match r with  | _ => none⟩
def f85_fl : Fl := ⟨fun r o => match r, o with  | _, _ => 0, fun r => match r with  | _ => none, fun _ => none, fun r => match r with  | _ => none⟩
def f90_fl : Fl := ⟨fun r o => match r, o with  | _, _ => 0, fun r => match r with | 2 => some [0, 1, 7, 8] | _ => none, fun _ => none, fun r => match r with  | _ => none⟩
def f91_fl : Fl := ⟨fun r o => match r, o with  | _, _ => 0, fun r => match r with  | _ => none, fun _ => none, fun r => match r with  | _ => none⟩
def f92_fl : Fl := ⟨fun r o => match r, o with  | _, _ => 0, fun r => match r with  | _ => none, fun _ => none, fun r => match r with  | _ => none⟩
def f93_fl : Fl := ⟨fun r o => match r, o with  | _, _ => 0, fun r => match r with  | _ => none, fun _ => none, fun r => match r with  | _ => none⟩

end Go.Proofs.Ytecaleolkdoggaa
