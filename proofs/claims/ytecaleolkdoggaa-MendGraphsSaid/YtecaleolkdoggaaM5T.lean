/- The data of the program, as cells; how its functions are walked. -/
import Derived.Test.YtecaleolkdoggaaA20
import Derived.Test.YtecaleolkdoggaaProg
import Derived.KernelRfl
open Go Go.Proofs.Ytecaleolkdoggaa.Fw
namespace Go.Proofs.Ytecaleolkdoggaa
set_option maxRecDepth 100000
set_option linter.unusedVariables false
noncomputable abbrev TT := tabOf Try.prog
theorem hm : Try.prog.follows .mixedOrders = true := by kernel_rfl
structure TArc where
  from0 : Int
  to0 : Int
  len : Int
def TArc.c (x : TArc) : List AVal := [.pv false (eI x.from0 0), .pv false (eI x.to0 0), .pv false (eI x.len 0)]
def TArc.e (x : TArc) (j : Nat) : PV := pvAt (TArc.c x) j
def TArc.d : TArc := ⟨0, 0, 0⟩
structure TChoice where
  ways : (List (List TArc))
def TChoice.c (x : TChoice) : List AVal := [.pv false ((eL 1 (eL 3 TArc.e TArc.d) []) x.ways 0)]
def TChoice.e (x : TChoice) (j : Nat) : PV := pvAt (TChoice.c x) j
def TChoice.d : TChoice := ⟨[]⟩
structure TGraph where
  ready : (List Int)
  last : (List Int)
  due : (List Int)
  arcs : (List TArc)
  choices : (List TChoice)
def TGraph.c (x : TGraph) : List AVal := [.pv false ((eL 1 eI 0) x.ready 0), .pv false ((eL 1 eI 0) x.last 0), .pv false ((eL 1 eI 0) x.due 0), .pv false ((eL 3 TArc.e TArc.d) x.arcs 0), .pv false ((eL 1 TChoice.e TChoice.d) x.choices 0)]
def TGraph.e (x : TGraph) (j : Nat) : PV := pvAt (TGraph.c x) j
def TGraph.d : TGraph := ⟨[], [], [], [], []⟩
def f5_fl : Fl := ⟨fun r o => match r, o with | 0, 0 => 1 | _, _ => 0, fun r => match r with  | _ => none, fun _ => none, fun r => match r with  | _ => none⟩
def f23_fl : Fl := ⟨fun r o => match r, o with  | _, _ => 0, fun r => match r with  | _ => none, fun _ => none, fun r => match r with  | _ => none⟩
def f24_fl : Fl := ⟨fun r o => match r, o with | 0, 0 => 1 | _, _ => 0, fun r => match r with | 6 => some [1, 46, 47] | 15 => some [1, 84, 85, 86] | 20 => some [1, 84, 85, 86, 95, 96, 97] | _ => none, fun _ => none, fun r => match r with  | _ => none⟩
def f25_fl : Fl := ⟨fun r o => match r, o with | 0, 0 => 1 | _, _ => 0, fun r => match r with | 7 => some [1, 3, 44, 45] | 13 => some [1, 3, 75, 76, 77] | 20 => some [3, 89, 90, 91] | 25 => some [3, 89, 90, 91, 100, 101, 102] | 30 => some [3, 89, 90, 91, 100, 101, 102, 109, 110, 111] | _ => none, fun _ => none, fun r => match r with  | _ => none⟩
def f51_fl : Fl := ⟨fun r o => match r, o with  | _, _ => 0, fun r => match r with  | _ => none, fun _ => none, fun r => match r with  | _ => none⟩
def f54_fl : Fl := ⟨fun r o => match r, o with  | _, _ => 0, fun r => match r with  | _ => none, fun _ => none, fun r => match r with  | _ => none⟩
def f62_fl : Fl := ⟨fun r o => match r, o with | 0, 0 => 1 | _, _ => 0, fun r => match r with | 2 => some [2, 7, 8, 9] | _ => none, fun _ => none, fun r => match r with  | _ => none⟩
def f63_fl : Fl := ⟨fun r o => match r, o with | 0, 0 => 1 | _, _ => 0, fun r => match r with  | _ => none, fun _ => none, fun r => match r with  | _ => none⟩

end Go.Proofs.Ytecaleolkdoggaa
