/- The data of the program, as cells; how its functions are walked. -/
import Derived.Test.YtciflideblafgaaA20
import Derived.Test.YtciflideblafgaaProg
import Derived.KernelRfl
open Go Go.Proofs.Ytciflideblafgaa.Fw
namespace Go.Proofs.Ytciflideblafgaa
set_option maxRecDepth 100000
set_option linter.unusedVariables false
noncomputable abbrev TT := tabOf Try.prog
theorem hm : Try.prog.follows .mixedOrders = true := by kernel_rfl
structure TTask where
  from0 : Int
  to0 : Int
  dep : Int
  arr : Int
  km : Int
  units : Int
def TTask.c (x : TTask) : List AVal := [.pv false (eI x.from0 0), .pv false (eI x.to0 0), .pv false (eI x.dep 0), .pv false (eI x.arr 0), .pv false (eI x.km 0), .pv false (eI x.units 0)]
def TTask.e (x : TTask) (j : Nat) : PV := pvAt (TTask.c x) j
def TTask.d : TTask := ⟨0, 0, 0, 0, 0, 0⟩
structure TSet where
  home : Int
  km : Int
def TSet.c (x : TSet) : List AVal := [.pv false (eI x.home 0), .pv false (eI x.km 0)]
def TSet.e (x : TSet) (j : Nat) : PV := pvAt (TSet.c x) j
def TSet.d : TSet := ⟨0, 0⟩
structure TShop where
  place : Int
  long : Int
  limit : Int
def TShop.c (x : TShop) : List AVal := [.pv false (eI x.place 0), .pv false (eI x.long 0), .pv false (eI x.limit 0)]
def TShop.e (x : TShop) (j : Nat) : PV := pvAt (TShop.c x) j
def TShop.d : TShop := ⟨0, 0, 0⟩

def f13_fl : Fl := ⟨fun r o => match r, o with | 0, 0 => 1 | _, _ => 0, fun r => match r with  | _ => none, fun _ => none, fun r => match r with  | _ => none⟩
def f23_fl : Fl := ⟨fun r o => match r, o with  | _, _ => 0, fun r => match r with | 2 => some [0, 1, 7, 8] | _ => none, fun _ => none, fun r => match r with  | _ => none⟩
def f31_fl : Fl := ⟨fun r o => match r, o with  | _, _ => 0, fun r => match r with | 4 => some [0, 1, 12, 13] | _ => none, fun _ => none, fun r => match r with  | _ => none⟩
def f42_fl : Fl := ⟨fun r o => match r, o with  | _, _ => 0, fun r => match r with  | _ => none, fun _ => none, fun r => match r with  | _ => none⟩
def f43_fl : Fl := ⟨fun r o => match r, o with  | _, _ => 0, fun r => match r with  | _ => none, fun _ => none, fun r => match r with  | _ => none⟩
def f44_fl : Fl := ⟨fun r o => match r, o with  | _, _ => 0, fun r => match r with | 4 => some [8, 9, 10] | _ => none, fun _ => none, fun r => match r with  | _ => none⟩
def f45_fl : Fl := ⟨fun r o => match r, o with  | _, _ => 0, fun r => match r with | 4 => some [8, 9, 10] | _ => none, fun _ => none, fun r => match r with  | _ => none⟩
def f58_fl : Fl := ⟨fun r o => match r, o with | 0, 0 => 1 | 28, 0 => 5 | _, _ => 0, fun r => match r with | 10 => some [0, 1, 2, 7, 37, 38, 39] | 13 => some [0, 1, 2, 7, 12, 13, 37, 38, 39, 44, 45, 46] | 23 => some [0, 2, 7, 16, 94, 95, 96] | _ => none, fun _ => none, fun r => match r with | 26 => some [0, 2, 7, 16, 17, 18, 94, 95, 96] | _ => none⟩
def f59_fl : Fl := ⟨fun r o => match r, o with | 0, 0 => 1 | 29, 0 => 5 | _, _ => 0, fun r => match r with | 7 => some [0, 1, 2, 8, 35, 36, 37] | 10 => some [0, 1, 2, 8, 13, 14, 35, 36, 37, 42, 43, 44] | 24 => some [0, 2, 8, 18, 102, 103, 104] | _ => none, fun _ => none, fun r => match r with | 16 => some [0, 1, 2, 8, 13, 14, 15, 16, 35, 36, 37, 42, 43, 44] | 27 => some [0, 2, 8, 18, 19, 20, 102, 103, 104] | _ => none⟩
def f66_fl : Fl := ⟨fun r o => match r, o with  | _, _ => 0, fun r => match r with  | _ => none, fun _ => none, fun r => match r with  | _ => none⟩
def f75_fl : Fl := ⟨fun r o => match r, o with  | _, _ => 0, fun r => match r with  | _ => none, fun _ => none, fun r => match r with  | _ => none⟩
def f76_fl : Fl := ⟨fun r o => match r, o with  | _, _ => 0, fun r => match r with  | _ => none, fun _ => none, fun r => match r with  | _ => none⟩
def f82_fl : Fl := ⟨fun r o => match r, o with  | _, _ => 0, fun r => match r with | 4 => some [1, 2, 15, 16, 17] | _ => none, fun _ => none, fun r => match r with  | _ => none⟩
def f97_fl : Fl := ⟨fun r o => match r, o with | 0, 0 => 1 | 0, 1 => 1 | _, _ => 0, fun r => match r with  | _ => none, fun _ => none, fun r => match r with  | _ => none⟩
def f100_fl : Fl := ⟨fun r o => match r, o with | 0, 0 => 1 | _, _ => 0, fun r => match r with | 4 => some [4, 13, 14, 15] | _ => none, fun _ => none, fun r => match r with  | _ => none⟩
def f101_fl : Fl := ⟨fun r o => match r, o with | 0, 0 => 1 | 0, 1 => 1 | 15, 0 => 5 | _, _ => 0, fun r => match r with | 5 => some [0, 1, 6, 7, 10, 11, 12, 13, 14, 20, 21] | _ => none, fun _ => none, fun r => match r with | 9 => some [0, 1, 6, 7, 10, 11, 12, 13, 14, 15, 20, 21] | _ => none⟩
def f102_fl : Fl := ⟨fun r o => match r, o with | 0, 0 => 1 | _, _ => 0, fun r => match r with | 4 => some [4, 13, 14, 15] | _ => none, fun _ => none, fun r => match r with  | _ => none⟩
def f103_fl : Fl := ⟨fun r o => match r, o with | 0, 0 => 1 | 0, 1 => 1 | 6, 0 => 5 | 23, 0 => 5 | _, _ => 0, fun r => match r with | 3 => some [0, 1, 6, 7, 10, 21, 22] | 11 => some [0, 1, 6, 7, 10, 49, 50] | 16 => some [0, 1, 6, 7, 10, 12, 13, 14, 49, 50, 55, 56] | 20 => some [0, 1, 6, 7, 10, 12, 13, 14, 15, 16, 49, 50, 55, 56, 59, 60, 61] | _ => none, fun _ => none, fun r => match r with  | _ => none⟩
def f120_fl : Fl := ⟨fun r o => match r, o with  | _, _ => 0, fun r => match r with | 2 => some [0, 1, 9, 10, 11] | _ => none, fun _ => none, fun r => match r with  | _ => none⟩
def f137_fl : Fl := ⟨fun r o => match r, o with  | _, _ => 0, fun r => match r with  | _ => none, fun _ => none, fun r => match r with  | _ => none⟩
def f138_fl : Fl := ⟨fun r o => match r, o with | 0, 0 => 1 | 0, 1 => 1 | _, _ => 0, fun r => match r with  | _ => none, fun _ => none, fun r => match r with | 4 => some [0, 1, 4, 8, 11, 12] | _ => none⟩
def f139_fl : Fl := ⟨fun r o => match r, o with | 0, 0 => 1 | 0, 1 => 1 | _, _ => 0, fun r => match r with  | _ => none, fun _ => none, fun r => match r with | 4 => some [0, 1, 4, 8, 11, 12] | _ => none⟩
def f140_fl : Fl := ⟨fun r o => match r, o with | 0, 0 => 1 | 0, 1 => 1 | 16, 0 => 5 | _, _ => 0, fun r => match r with | 3 => some [0, 1, 4, 7, 8, 12, 18, 19] | 8 => some [0, 1, 4, 7, 8, 12, 13, 18, 19, 28, 29, 30] | _ => none, fun _ => none, fun r => match r with  | _ => none⟩
def f141_fl : Fl := ⟨fun r o => match r, o with | 0, 0 => 1 | 0, 1 => 1 | _, _ => 0, fun r => match r with | 3 => some [0, 1, 4, 8, 11, 17, 18] | _ => none, fun _ => none, fun r => match r with | 7 => some [0, 1, 4, 8, 11, 12, 17, 18] | _ => none⟩
def f161_fl : Fl := ⟨fun r o => match r, o with  | _, _ => 0, fun r => match r with  | _ => none, fun _ => none, fun r => match r with  | _ => none⟩

end Go.Proofs.Ytciflideblafgaa
