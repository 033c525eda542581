/- The data of the program, as cells; how its functions are walked. -/
import Derived.Test.YtciflideblafgaaA20
import Derived.Test.YtciflideblafgaaProg
import Derived.KernelRfl
open Go Go.Proofs.Ytciflideblafgaa.Fw
namespace Go.Proofs.Ytciflideblafgaa
set_option maxRecDepth 100000
set_option linter.unusedVariables false
noncomputable abbrev TT := tabOf Try.prog
theorem hm : Try.prog.follows .mixedOrders = true := by kernel_rfl
structure TTask where
  from0 : Int
  to0 : Int
  dep : Int
  arr : Int
  km : Int
  units : Int
def TTask.c (x : TTask) : List AVal := [.pv false (eI x.from0 0), .pv false (eI x.to0 0), .pv false (eI x.dep 0), .pv false (eI x.arr 0), .pv false (eI x.km 0), .pv false (eI x.units 0)]
def TTask.e (x : TTask) (j : Nat) : PV := pvAt (TTask.c x) j
def TTask.d : TTask := ⟨0, 0, 0, 0, 0, 0⟩

def f9_fl : Fl := ⟨fun r o => match r, o with  | _, _ => 0, fun r => match r with  | _ => none, fun _ => none, fun r => match r with  | _ => none⟩
def f23_fl : Fl := ⟨fun r o => match r, o with  | _, _ => 0, fun r => match r with | 2 => some [0, 1, 7, 8] | _ => none, fun _ => none, fun r => match r with  | _ => none⟩
def f31_fl : Fl := ⟨fun r o => match r, o with  | _, _ => 0, fun r => match r with | 4 => some [0, 1, 12, 13] | _ => none, fun _ => none, fun r => match r with  | _ => none⟩
def f42_fl : Fl := ⟨fun r o => match r, o with  | _, _ => 0, fun r => match r with  | _ => none, fun _ => none, fun r => match r with  | _ => none⟩
def f43_fl : Fl := ⟨fun r o => match r, o with  | _, _ => 0, fun r => match r with  | _ => none, fun _ => none, fun r => match r with  | _ => none⟩
def f44_fl : Fl := ⟨fun r o => match r, o with  | _, _ => 0, fun r => match r with | 4 => some [8, 9, 10] | _ => none, fun _ => none, fun r => match r with  | _ => none⟩
def f45_fl : Fl := ⟨fun r o => match r, o with  | _, _ => 0, fun r => match r with | 4 => some [8, 9, 10] | _ => none, fun _ => none, fun r => match r with  | _ => none⟩
def f48_fl : Fl := ⟨fun r o => match r, o with | 19, 0 => 5 | 19, 2 => 8 | 21, 5 => 17 | _, _ => 0, fun r => match r with | 6 => some [0, 1, 7, 21, 22, 23] | 9 => some [0, 1, 7, 9, 21, 22, 23, 31, 32] | 12 => some [0, 1, 7, 9, 10, 21, 22, 23, 31, 32, 34, 35, 36] | _ => none, fun _ => none, fun r => match r with | 21 => some [0, 1, 7, 9, 10, 21, 22, 23, 31, 32] | _ => none⟩
def f49_fl : Fl := ⟨fun r o => match r, o with  | _, _ => 0, fun r => match r with  | _ => none, fun _ => none, fun r => match r with  | _ => none⟩
def f50_fl : Fl := ⟨fun r o => match r, o with | 18, 0 => 5 | 18, 2 => 8 | 19, 5 => 17 | _, _ => 0, fun r => match r with | 3 => some [0, 1, 5, 13, 14, 15] | 6 => some [0, 1, 5, 7, 13, 14, 15, 23, 24] | 9 => some [0, 1, 5, 7, 8, 13, 14, 15, 23, 24, 26, 27, 28] | _ => none, fun _ => none, fun r => match r with | 19 => some [0, 1, 5, 7, 8, 13, 14, 15, 23, 24] | _ => none⟩
def f66_fl : Fl := ⟨fun r o => match r, o with  | _, _ => 0, fun r => match r with  | _ => none, fun _ => none, fun r => match r with  | _ => none⟩
def f75_fl : Fl := ⟨fun r o => match r, o with  | _, _ => 0, fun r => match r with  | _ => none, fun _ => none, fun r => match r with  | _ => none⟩
def f76_fl : Fl := ⟨fun r o => match r, o with  | _, _ => 0, fun r => match r with  | _ => none, fun _ => none, fun r => match r with  | _ => none⟩
def f82_fl : Fl := ⟨fun r o => match r, o with  | _, _ => 0, fun r => match r with | 4 => some [1, 2, 15, 16, 17] | _ => none, fun _ => none, fun r => match r with  | _ => none⟩
def f95_fl : Fl := ⟨fun r o => match r, o with  | _, _ => 0, fun r => match r with  | _ => none, fun _ => none, fun r => match r with  | _ => none⟩
def f96_fl : Fl := ⟨fun r o => match r, o with | 0, 0 => 1 | 1, 2 => 2 | _, _ => 0, fun r => match r with | 3 => some [1, 3, 9, 10] | _ => none, fun _ => none, fun r => match r with  | _ => none⟩
def f97_fl : Fl := ⟨fun r o => match r, o with | 0, 0 => 1 | 0, 1 => 1 | _, _ => 0, fun r => match r with  | _ => none, fun _ => none, fun r => match r with  | _ => none⟩
def f98_fl : Fl := ⟨fun r o => match r, o with | 9, 0 => 5 | _, _ => 0, fun r => match r with | 3 => some [0, 3, 4] | 6 => some [0, 3, 4, 18, 19, 20] | _ => none, fun _ => none, fun r => match r with  | _ => none⟩
def f135_fl : Fl := ⟨fun r o => match r, o with  | _, _ => 0, fun r => match r with  | _ => none, fun _ => none, fun r => match r with  | _ => none⟩
def f136_fl : Fl := ⟨fun r o => match r, o with  | _, _ => 0, fun r => match r with  | _ => none, fun _ => none, fun r => match r with  | _ => none⟩
def f137_fl : Fl := ⟨fun r o => match r, o with  | _, _ => 0, fun r => match r with  | _ => none, fun _ => none, fun r => match r with  | _ => none⟩
def f160_fl : Fl := ⟨fun r o => match r, o with  | _, _ => 0, fun r => match r with | 2 => some [0, 1, 2, 6, 7, 8] | 7 => some [0, 1, 2, 6] | 9 => some [0, 1, 2, 6, 7, 8] | _ => none, fun _ => none, fun r => match r with  | _ => none⟩
def f161_fl : Fl := ⟨fun r o => match r, o with  | _, _ => 0, fun r => match r with  | _ => none, fun _ => none, fun r => match r with  | _ => none⟩
def f187_fl : Fl := ⟨fun r o => match r, o with  | _, _ => 0, fun r => match r with | 1 => some [0, 1, 2, 3, 8] | 4 => some [0, 1, 2, 3, 8, 9] | _ => none, fun _ => none, fun r => match r with  | _ => none⟩
def f188_fl : Fl := ⟨fun r o => match r, o with  | _, _ => 0, fun r => match r with | 3 => some [0, 1, 4, 10, 11] | 9 => some [0, 10, 13] | 15 => some [0, 2, 4, 14, 15] | 21 => some [0, 14, 17] | 33 => some [0, 1, 2, 3, 4, 18, 19, 20, 21, 22] | _ => none, fun _ => none, fun r => match r with | 32 => some [0, 1, 2, 3, 4, 18, 19] | 41 => some [0, 1, 2, 3, 4, 18, 20, 24] | 43 => some [0, 1, 3, 4, 18, 20, 24] | _ => none⟩
def f215_fl : Fl := ⟨fun r o => match r, o with  | _, _ => 0, fun r => match r with | 2 => some [0, 2, 4, 10, 11] | _ => none, fun _ => none, fun r => match r with  | _ => none⟩
def f224_fl : Fl := ⟨fun r o => match r, o with  | _, _ => 0, fun r => match r with | 1 => some [0, 1, 2, 3, 10] | _ => none, fun _ => none, fun r => match r with  | _ => none⟩

end Go.Proofs.Ytciflideblafgaa
