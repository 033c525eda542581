/- The data of the program, as cells; how its functions are walked. -/
import Derived.Test.YtciflideblafgaaA20
import Derived.Test.YtciflideblafgaaProg
import Derived.KernelRfl
open Go Go.Proofs.Ytciflideblafgaa.Fw
namespace Go.Proofs.Ytciflideblafgaa
set_option maxRecDepth 100000
set_option linter.unusedVariables false
noncomputable abbrev TT := tabOf Try.prog
theorem hm : Try.prog.follows .mixedOrders = true := by kernel_rfl
structure TTask where
  from0 : Int
  to0 : Int
  dep : Int
  arr : Int
  km : Int
  units : Int
def TTask.c (x : TTask) : List AVal := [.pv false (eI x.from0 0), .pv false (eI x.to0 0), .pv false (eI x.dep 0), .pv false (eI x.arr 0), .pv false (eI x.km 0), .pv false (eI x.units 0)]
def TTask.e (x : TTask) (j : Nat) : PV := pvAt (TTask.c x) j
def TTask.d : TTask := ⟨0, 0, 0, 0, 0, 0⟩
structure TMoment where
  place : Int
  at0 : Int
  short : Int
def TMoment.c (x : TMoment) : List AVal := [.pv false (eI x.place 0), .pv false (eI x.at0 0), .pv false (eI x.short 0)]
def TMoment.e (x : TMoment) (j : Nat) : PV := pvAt (TMoment.c x) j
def TMoment.d : TMoment := ⟨0, 0, 0⟩
def f11_fl : Fl := ⟨fun r o => match r, o with  | _, _ => 0, fun r => match r with  | _ => none, fun _ => none, fun r => match r with  | _ => none⟩
def f43_fl : Fl := ⟨fun r o => match r, o with  | _, _ => 0, fun r => match r with  | _ => none, fun _ => none, fun r => match r with  | _ => none⟩
def f44_fl : Fl := ⟨fun r o => match r, o with  | _, _ => 0, fun r => match r with | 4 => some [8, 9, 10] | _ => none, fun _ => none, fun r => match r with  | _ => none⟩
def f45_fl : Fl := ⟨fun r o => match r, o with  | _, _ => 0, fun r => match r with | 4 => some [8, 9, 10] | _ => none, fun _ => none, fun r => match r with  | _ => none⟩
def f49_fl : Fl := ⟨fun r o => match r, o with  | _, _ => 0, fun r => match r with  | _ => none, fun _ => none, fun r => match r with  | _ => none⟩
def f53_fl : Fl := ⟨fun r o => match r, o with | 25, 0 => 5 | _, _ => 0, fun r => match r with | 6 => some [0, 1, 7, 22] | 10 => some [0, 1, 7, 8, 9, 22, 28, 29, 30] | 14 => some [0, 1, 7, 8, 9, 12, 13, 22, 28, 29, 30, 39, 40, 41] | _ => none, fun _ => none, fun r => match r with | 18 => some [0, 1, 7, 8, 9, 12, 13, 15, 22, 28, 29, 30, 39, 40, 41] | _ => none⟩
def f54_fl : Fl := ⟨fun r o => match r, o with  | _, _ => 0, fun r => match r with | 4 => some [0, 1, 12, 13] | _ => none, fun _ => none, fun r => match r with  | _ => none⟩
def f55_fl : Fl := ⟨fun r o => match r, o with | 14, 0 => 5 | _, _ => 0, fun r => match r with | 3 => some [0, 1, 5, 11] | 7 => some [0, 1, 5, 6, 7, 11, 16, 17, 18] | _ => none, fun _ => none, fun r => match r with  | _ => none⟩
def f75_fl : Fl := ⟨fun r o => match r, o with  | _, _ => 0, fun r => match r with  | _ => none, fun _ => none, fun r => match r with  | _ => none⟩
def f76_fl : Fl := ⟨fun r o => match r, o with  | _, _ => 0, fun r => match r with  | _ => none, fun _ => none, fun r => match r with  | _ => none⟩
def f95_fl : Fl := ⟨fun r o => match r, o with  | _, _ => 0, fun r => match r with  | _ => none, fun _ => none, fun r => match r with  | _ => none⟩
def f96_fl : Fl := ⟨fun r o => match r, o with | 0, 0 => 1 | 1, 2 => 2 | _, _ => 0, fun r => match r with | 3 => some [1, 3, 9, 10] | _ => none, fun _ => none, fun r => match r with  | _ => none⟩
def f99_fl : Fl := ⟨fun r o => match r, o with  | _, _ => 0, fun r => match r with | 3 => some [1, 2, 3, 9, 12, 13, 14] | _ => none, fun _ => none, fun r => match r with | 7 => some [1, 2, 3, 9, 11, 12, 13, 14] | _ => none⟩
def f135_fl : Fl := ⟨fun r o => match r, o with  | _, _ => 0, fun r => match r with  | _ => none, fun _ => none, fun r => match r with  | _ => none⟩
def f136_fl : Fl := ⟨fun r o => match r, o with  | _, _ => 0, fun r => match r with  | _ => none, fun _ => none, fun r => match r with  | _ => none⟩
def f137_fl : Fl := ⟨fun r o => match r, o with  | _, _ => 0, fun r => match r with  | _ => none, fun _ => none, fun r => match r with  | _ => none⟩
def f160_fl : Fl := ⟨fun r o => match r, o with  | _, _ => 0, fun r => match r with | 2 => some [0, 1, 2, 6, 7, 8] | 7 => some [0, 1, 2, 6] | 9 => some [0, 1, 2, 6, 7, 8] | _ => none, fun _ => none, fun r => match r with  | _ => none⟩
def f161_fl : Fl := ⟨fun r o => match r, o with  | _, _ => 0, fun r => match r with  | _ => none, fun _ => none, fun r => match r with  | _ => none⟩
def f187_fl : Fl := ⟨fun r o => match r, o with  | _, _ => 0, fun r => match r with | 1 => some [0, 1, 2, 3, 8] | 4 => some [0, 1, 2, 3, 8, 9] | _ => none, fun _ => none, fun r => match r with  | _ => none⟩
def f188_fl : Fl := ⟨fun r o => match r, o with  | _, _ => 0, fun r => match r with | 3 => some [0, 1, 4, 10, 11] | 9 => some [0, 10, 13] | 15 => some [0, 2, 4, 14, 15] | 21 => some [0, 14, 17] | 33 => some [0, 1, 2, 3, 4, 18, 19, 20, 21, 22] | _ => none, fun _ => none, fun r => match r with | 32 => some [0, 1, 2, 3, 4, 18, 19] | 41 => some [0, 1, 2, 3, 4, 18, 20, 24] | 43 => some [0, 1, 3, 4, 18, 20, 24] | _ => none⟩
def f215_fl : Fl := ⟨fun r o => match r, o with  | _, _ => 0, fun r => match r with | 2 => some [0, 2, 4, 10, 11] | _ => none, fun _ => none, fun r => match r with  | _ => none⟩
def f224_fl : Fl := ⟨fun r o => match r, o with  | _, _ => 0, fun r => match r with | 1 => some [0, 1, 2, 3, 10] | _ => none, fun _ => none, fun r => match r with  | _ => none⟩

end Go.Proofs.Ytciflideblafgaa
