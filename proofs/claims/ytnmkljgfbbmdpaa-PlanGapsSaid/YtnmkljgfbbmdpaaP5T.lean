/- The data of the program, as cells; how its functions are walked. -/
import Derived.Test.YtnmkljgfbbmdpaaA20
import Derived.Test.YtnmkljgfbbmdpaaProg
import Derived.KernelRfl
open Go Go.Proofs.Ytnmkljgfbbmdpaa.Fw
namespace Go.Proofs.Ytnmkljgfbbmdpaa
set_option maxRecDepth 100000
set_option linter.unusedVariables false
noncomputable abbrev TT := tabOf Try.prog
theorem hm : Try.prog.follows .mixedOrders = true := by kernel_rfl
structure TRule where
  from0 : Int
  to0 : Int
  min : Int
  max : Int
  weight : Int
def TRule.c (x : TRule) : List AVal := [.pv false (eI x.from0 0), .pv false (eI x.to0 0), .pv false (eI x.min 0), .pv false (eI x.max 0), .pv false (eI x.weight 0)]
def TRule.e (x : TRule) (j : Nat) : PV := pvAt (TRule.c x) j
def TRule.d : TRule := ⟨0, 0, 0, 0, 0⟩
structure TPeriodic where
  period : Int
  events : Int
  rules : (List TRule)
def TPeriodic.c (x : TPeriodic) : List AVal := [.pv false (eI x.period 0), .pv false (eI x.events 0), .pv false ((eL 5 TRule.e TRule.d) x.rules 0)]
def TPeriodic.e (x : TPeriodic) (j : Nat) : PV := pvAt (TPeriodic.c x) j
def TPeriodic.d : TPeriodic := ⟨0, 0, []⟩
def f5_fl : Fl := ⟨fun r o => match r, o with | 0, 0 => 1 | _, _ => 0, fun r => match r with  | _ => none, fun _ => none, fun r => match r with  | _ => none⟩
def f8_fl : Fl := ⟨fun r o => match r, o with  | _, _ => 0, fun r => match r with  | _ => none, fun _ => none, fun r => match r with  | _ => none⟩
def f9_fl : Fl := ⟨fun r o => match r, o with | 0, 0 => 1 | _, _ => 0, fun r => match r with | 6 => some [1, 22, 23, 24] | _ => none, fun _ => none, fun r => match r with  | _ => none⟩
def f10_fl : Fl := ⟨fun r o => match r, o with | 0, 0 => 1 | _, _ => 0, fun r => match r with | 6 => some [1, 20, 21, 22] | _ => none, fun _ => none, fun r => match r with  | _ => none⟩
def f14_fl : Fl := ⟨fun r o => match r, o with | 0, 0 => 1 | _, _ => 0, fun r => match r with  | _ => none, fun _ => none, fun r => match r with  | _ => none⟩
def f15_fl : Fl := ⟨fun r o => match r, o with | 0, 0 => 1 | 0, 1 => 1 | _, _ => 0, fun r => match r with  | _ => none, fun _ => none, fun r => match r with  | _ => none⟩
def f16_fl : Fl := ⟨fun r o => match r, o with | 0, 0 => 1 | _, _ => 0, fun r => match r with  | _ => none, fun _ => none, fun r => match r with  | _ => none⟩
def f17_fl : Fl := ⟨fun r o => match r, o with | 0, 0 => 1 | _, _ => 0, fun r => match r with | 7 => some [2, 18, 19, 20] | _ => none, fun _ => none, fun r => match r with  | _ => none⟩
def f18_fl : Fl := ⟨fun r o => match r, o with | 0, 0 => 1 | 0, 1 => 1 | _, _ => 0, fun r => match r with  | _ => none, fun _ => none, fun r => match r with  | _ => none⟩
def f19_fl : Fl := ⟨fun r o => match r, o with | 0, 0 => 1 | _, _ => 0, fun r => match r with | 3 => some [1, 2, 5, 9, 10, 11] | _ => none, fun _ => none, fun r => match r with  | _ => none⟩
def f20_fl : Fl := ⟨fun r o => match r, o with | 0, 0 => 1 | 0, 1 => 1 | _, _ => 0, fun r => match r with | 2 => some [3, 4, 7] | 4 => some [3, 4, 7] | _ => none, fun _ => none, fun r => match r with | 2 => some [2, 3, 4] | _ => none⟩
def f26_fl : Fl := ⟨fun r o => match r, o with  | _, _ => 0, fun r => match r with  | _ => none, fun _ => none, fun r => match r with  | _ => none⟩
def f27_fl : Fl := ⟨fun r o => match r, o with  | _, _ => 0, fun r => match r with  | _ => none, fun _ => none, fun r => match r with  | _ => none⟩
def f30_fl : Fl := ⟨fun r o => match r, o with | 0, 0 => 1 | _, _ => 0, fun r => match r with | 7 => some [2, 18, 19, 20] | _ => none, fun _ => none, fun r => match r with  | _ => none⟩
def f31_fl : Fl := ⟨fun r o => match r, o with | 0, 0 => 1 | 0, 1 => 1 | _, _ => 0, fun r => match r with  | _ => none, fun _ => none, fun r => match r with | 2 => some [2, 3, 4] | _ => none⟩
def f32_fl : Fl := ⟨fun r o => match r, o with  | _, _ => 0, fun r => match r with | 2 => some [0, 1, 7, 8] | _ => none, fun _ => none, fun r => match r with  | _ => none⟩
def f33_fl : Fl := ⟨fun r o => match r, o with | 0, 0 => 1 | _, _ => 0, fun r => match r with  | _ => none, fun _ => none, fun r => match r with  | _ => none⟩
def f34_fl : Fl := ⟨fun r o => match r, o with | 0, 0 => 1 | _, _ => 0, fun r => match r with | 3 => some [1, 2, 5, 9, 10, 11] | _ => none, fun _ => none, fun r => match r with  | _ => none⟩
def f35_fl : Fl := ⟨fun r o => match r, o with | 0, 0 => 1 | _, _ => 0, fun r => match r with  | _ => none, fun _ => none, fun r => match r with  | _ => none⟩

end Go.Proofs.Ytnmkljgfbbmdpaa
