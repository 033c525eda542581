/- The data of the program, as cells; how its functions are walked. -/
import Derived.Test.YtciflideblafgaaA20
import Derived.Test.YtciflideblafgaaProg
import Derived.KernelRfl
open Go Go.Proofs.Ytciflideblafgaa.Fw
namespace Go.Proofs.Ytciflideblafgaa
set_option maxRecDepth 100000
set_option linter.unusedVariables false
noncomputable abbrev TT := tabOf Try.prog
theorem hm : Try.prog.follows .mixedOrders = true := by kernel_rfl
structure TTask where
  from0 : Int
  to0 : Int
  dep : Int
  arr : Int
  km : Int
  units : Int
def TTask.c (x : TTask) : List AVal := [.pv false (eI x.from0 0), .pv false (eI x.to0 0), .pv false (eI x.dep 0), .pv false (eI x.arr 0), .pv false (eI x.km 0), .pv false (eI x.units 0)]
def TTask.e (x : TTask) (j : Nat) : PV := pvAt (TTask.c x) j
def TTask.d : TTask := ⟨0, 0, 0, 0, 0, 0⟩
structure TLimits where
  change : Int
  long : Int
  work : Int
  after : Int
  break0 : Int
  rest : Int
  row : Int
def TLimits.c (x : TLimits) : List AVal := [.pv false (eI x.change 0), .pv false (eI x.long 0), .pv false (eI x.work 0), .pv false (eI x.after 0), .pv false (eI x.break0 0), .pv false (eI x.rest 0), .pv false (eI x.row 0)]
def TLimits.e (x : TLimits) (j : Nat) : PV := pvAt (TLimits.c x) j
def TLimits.d : TLimits := ⟨0, 0, 0, 0, 0, 0, 0⟩
structure TShift where
  day : Int
  start : Int
  end0 : Int
def TShift.c (x : TShift) : List AVal := [.pv false (eI x.day 0), .pv false (eI x.start 0), .pv false (eI x.end0 0)]
def TShift.e (x : TShift) (j : Nat) : PV := pvAt (TShift.c x) j
def TShift.d : TShift := ⟨0, 0, 0⟩
def f6_fl : Fl := ⟨fun r o => match r, o with | 0, 0 => 1 | _, _ => 0, fun r => match r with  | _ => none, fun _ => none, fun r => match r with | 9 => some [0, 1, 11, 12, 13] | _ => none⟩
def f23_fl : Fl := ⟨fun r o => match r, o with  | _, _ => 0, fun r => match r with | 2 => some [0, 1, 7, 8] | _ => none, fun _ => none, fun r => match r with  | _ => none⟩
def f24_fl : Fl := ⟨fun r o => match r, o with | 0, 0 => 1 | _, _ => 0, fun r => match r with | 7 => some [0, 1, 5, 20, 21, 22] | _ => none, fun _ => none, fun r => match r with  | _ => none⟩
def f26_fl : Fl := ⟨fun r o => match r, o with  | _, _ => 0, fun r => match r with  | _ => none, fun _ => none, fun r => match r with  | _ => none⟩
def f31_fl : Fl := ⟨fun r o => match r, o with  | _, _ => 0, fun r => match r with | 4 => some [0, 1, 12, 13] | _ => none, fun _ => none, fun r => match r with  | _ => none⟩
def f33_fl : Fl := ⟨fun r o => match r, o with | 0, 0 => 1 | _, _ => 0, fun r => match r with  | _ => none, fun _ => none, fun r => match r with  | _ => none⟩
def f34_fl : Fl := ⟨fun r o => match r, o with | 0, 0 => 1 | _, _ => 0, fun r => match r with  | _ => none, fun _ => none, fun r => match r with  | _ => none⟩
def f35_fl : Fl := ⟨fun r o => match r, o with | 11, 0 => 5 | _, _ => 0, fun r => match r with | 9 => some [0, 8, 22, 23, 24] | _ => none, fun _ => none, fun r => match r with  | _ => none⟩
def f36_fl : Fl := ⟨fun r o => match r, o with  | _, _ => 0, fun r => match r with | 4 => some [8, 9, 10] | _ => none, fun _ => none, fun r => match r with  | _ => none⟩
def f37_fl : Fl := ⟨fun r o => match r, o with  | _, _ => 0, fun r => match r with | 4 => some [8, 9, 10] | _ => none, fun _ => none, fun r => match r with  | _ => none⟩
def f38_fl : Fl := ⟨fun r o => match r, o with  | _, _ => 0, fun r => match r with | 4 => some [0, 12, 13, 14] | 7 => some [0, 12, 13, 14, 18, 19, 20] | _ => none, fun _ => none, fun r => match r with  | _ => none⟩
def f39_fl : Fl := ⟨fun r o => match r, o with | 11, 0 => 5 | _, _ => 0, fun r => match r with | 3 => some [0, 5, 11, 12, 13] | 7 => some [0, 5, 8, 11, 12, 13, 17, 18, 19] | _ => none, fun _ => none, fun r => match r with  | _ => none⟩
def f44_fl : Fl := ⟨fun r o => match r, o with  | _, _ => 0, fun r => match r with | 4 => some [8, 9, 10] | _ => none, fun _ => none, fun r => match r with  | _ => none⟩
def f46_fl : Fl := ⟨fun r o => match r, o with | 0, 0 => 1 | _, _ => 0, fun r => match r with | 2 => some [1, 17, 18] | _ => none, fun _ => none, fun r => match r with  | _ => none⟩
def f47_fl : Fl := ⟨fun r o => match r, o with | 0, 0 => 1 | _, _ => 0, fun r => match r with | 2 => some [1, 17, 18, 19] | _ => none, fun _ => none, fun r => match r with  | _ => none⟩
def f66_fl : Fl := ⟨fun r o => match r, o with  | _, _ => 0, fun r => match r with  | _ => none, fun _ => none, fun r => match r with  | _ => none⟩
def f67_fl : Fl := ⟨fun r o => match r, o with  | _, _ => 0, fun r => match r with  | _ => none, fun _ => none, fun r => match r with  | _ => none⟩
def f75_fl : Fl := ⟨fun r o => match r, o with  | _, _ => 0, fun r => match r with  | _ => none, fun _ => none, fun r => match r with  | _ => none⟩
def f76_fl : Fl := ⟨fun r o => match r, o with  | _, _ => 0, fun r => match r with  | _ => none, fun _ => none, fun r => match r with  | _ => none⟩
def f77_fl : Fl := ⟨fun r o => match r, o with | 0, 0 => 1 | _, _ => 0, fun r => match r with  | _ => none, fun _ => none, fun r => match r with  | _ => none⟩
def f78_fl : Fl := ⟨fun r o => match r, o with | 0, 0 => 1 | _, _ => 0, fun r => match r with | 6 => some [0, 1, 5, 7, 8, 9, 10, 11, 12, 35, 36, 37] | _ => none, fun _ => none, fun r => match r with | 2 => some [0, 1, 5] | _ => none⟩
def f83_fl : Fl := ⟨fun r o => match r, o with  | _, _ => 0, fun r => match r with | 4 => some [0, 12, 13, 14] | 7 => some [0, 12, 13, 14, 18, 19, 20] | _ => none, fun _ => none, fun r => match r with  | _ => none⟩
def f84_fl : Fl := ⟨fun r o => match r, o with | 0, 0 => 1 | 1, 2 => 2 | _, _ => 0, fun r => match r with | 4 => some [0, 5, 7, 8, 9, 10, 21, 22, 23] | 7 => some [0, 5, 7, 8, 9, 10, 12, 21, 22, 23, 27, 28, 29] | _ => none, fun _ => none, fun r => match r with  | _ => none⟩
def f85_fl : Fl := ⟨fun r o => match r, o with | 0, 0 => 1 | 1, 2 => 2 | _, _ => 0, fun r => match r with | 3 => some [0, 1, 5, 7, 17, 18, 19] | 6 => some [0, 1, 5, 7, 17, 18, 19, 23, 24, 25] | 12 => some [0, 1, 5, 37, 38, 39] | _ => none, fun _ => none, fun r => match r with  | _ => none⟩
def f86_fl : Fl := ⟨fun r o => match r, o with  | _, _ => 0, fun r => match r with | 3 => some [0, 5, 8, 9, 10] | _ => none, fun _ => none, fun r => match r with  | _ => none⟩
def f93_fl : Fl := ⟨fun r o => match r, o with | 0, 0 => 1 | 6, 0 => 2 | _, _ => 0, fun r => match r with | 4 => some [0, 5, 7, 8, 21, 22, 23] | 8 => some [0, 5, 7, 8, 10, 11, 21, 22, 23, 28, 29, 30] | 12 => some [0, 5, 7, 8, 10, 11, 13, 21, 22, 23, 28, 29, 30, 45, 46, 47] | 23 => some [0, 5, 7, 8, 17, 21, 22, 23, 95, 96, 97] | _ => none, fun _ => none, fun r => match r with | 17 => some [0, 5, 7, 8, 10, 11, 13, 15, 21, 22, 23, 28, 29, 30, 45, 46, 47] | 16 => some [0, 5, 7, 8, 10, 11, 13, 15, 21, 22, 23, 28, 29, 30, 45, 46, 47] | _ => none⟩
def f110_fl : Fl := ⟨fun r o => match r, o with  | _, _ => 0, fun r => match r with | 2 => some [0, 1, 7, 8] | _ => none, fun _ => none, fun r => match r with  | _ => none⟩
def f128_fl : Fl := ⟨fun r o => match r, o with  | _, _ => 0, fun r => match r with  | _ => none, fun _ => none, fun r => match r with  | _ => none⟩
def f130_fl : Fl := ⟨fun r o => match r, o with | 0, 0 => 1 | _, _ => 0, fun r => match r with | 3 => some [0, 1, 5, 6, 7, 8, 9, 20, 21, 22] | 7 => some [0, 1, 5, 6, 7, 8, 9, 11, 20, 21, 22, 38, 39, 40] | 17 => some [5, 6, 7, 8, 16, 87, 88] | _ => none, fun _ => none, fun r => match r with | 12 => some [0, 1, 5, 6, 7, 8, 9, 11, 14, 15, 20, 21, 22, 38, 39, 40] | 10 => some [0, 1, 5, 6, 7, 8, 9, 11, 13, 20, 21, 22, 38, 39, 40] | _ => none⟩
def f131_fl : Fl := ⟨fun r o => match r, o with  | _, _ => 0, fun r => match r with  | _ => none, fun _ => none, fun r => match r with  | _ => none⟩
def f132_fl : Fl := ⟨fun r o => match r, o with  | _, _ => 0, fun r => match r with  | _ => none, fun _ => none, fun r => match r with  | _ => none⟩
def f133_fl : Fl := ⟨fun r o => match r, o with | 0, 0 => 1 | _, _ => 0, fun r => match r with  | _ => none, fun _ => none, fun r => match r with  | _ => none⟩
def f134_fl : Fl := ⟨fun r o => match r, o with | 0, 0 => 1 | _, _ => 0, fun r => match r with  | _ => none, fun _ => none, fun r => match r with  | _ => none⟩

end Go.Proofs.Ytciflideblafgaa
