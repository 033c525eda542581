/- The data of the program, as cells; how its functions are walked. -/
import Derived.Test.YtecaleolkdoggaaA20
import Derived.Test.YtecaleolkdoggaaProg
import Derived.KernelRfl
open Go Go.Proofs.Ytecaleolkdoggaa.Fw
namespace Go.Proofs.Ytecaleolkdoggaa
set_option maxRecDepth 100000
set_option linter.unusedVariables false
noncomputable abbrev TT := tabOf Try.prog
theorem hm : Try.prog.follows .mixedOrders = true := by kernel_rfl
structure TArc where
  from0 : Int
  to0 : Int
  len : Int
def TArc.c (x : TArc) : List AVal := [.pv false (eI x.from0 0), .pv false (eI x.to0 0), .pv false (eI x.len 0)]
def TArc.e (x : TArc) (j : Nat) : PV := pvAt (TArc.c x) j
def TArc.d : TArc := ⟨0, 0, 0⟩
structure TChoice where
  ways : (List (List TArc))
def TChoice.c (x : TChoice) : List AVal := [.pv false ((eL 1 (eL 3 TArc.e TArc.d) []) x.ways 0)]
def TChoice.e (x : TChoice) (j : Nat) : PV := pvAt (TChoice.c x) j
def TChoice.d : TChoice := ⟨[]⟩
structure TGraph where
  ready : (List Int)
  last : (List Int)
  due : (List Int)
  arcs : (List TArc)
  choices : (List TChoice)
def TGraph.c (x : TGraph) : List AVal := [.pv false ((eL 1 eI 0) x.ready 0), .pv false ((eL 1 eI 0) x.last 0), .pv false ((eL 1 eI 0) x.due 0), .pv false ((eL 3 TArc.e TArc.d) x.arcs 0), .pv false ((eL 1 TChoice.e TChoice.d) x.choices 0)]
def TGraph.e (x : TGraph) (j : Nat) : PV := pvAt (TGraph.c x) j
def TGraph.d : TGraph := ⟨[], [], [], [], []⟩
structure TSolver where
  times : (List Int)
  last : (List Int)
  outs : (List (List TArc))
def TSolver.c (x : TSolver) : List AVal := [.pv false ((eL 1 eI 0) x.times 0), .pv false ((eL 1 eI 0) x.last 0), .pv false ((eL 1 (eL 3 TArc.e TArc.d) []) x.outs 0)]
def TSolver.e (x : TSolver) (j : Nat) : PV := pvAt (TSolver.c x) j
def TSolver.d : TSolver := ⟨[], [], []⟩
def f67_nl : Fl := ⟨fun r o => match r, o with | 3, 0 => 2 | 3, 2 => 8 | _, _ => 0, fun r => match r with  | _ => none, fun _ => none, fun r => match r with  | _ => none⟩
def f87_nl : Fl := ⟨fun r o => match r, o with | 3, 0 => 2 | 3, 2 => 8 | _, _ => 0, fun r => match r with  | _ => none, fun _ => none, fun r => match r with  | _ => none⟩
def f10_fl : Fl := ⟨fun r o => match r, o with | 0, 0 => 1 | _, _ => 0, fun r => match r with  | _ => none, fun _ => none, fun r => match r with  | _ => none⟩
def f23_fl : Fl := ⟨fun r o => match r, o with  | _, _ => 0, fun r => match r with  | _ => none, fun _ => none, fun r => match r with  | _ => none⟩
def f24_fl : Fl := ⟨fun r o => match r, o with | 0, 0 => 1 | _, _ => 0, fun r => match r with | 6 => some [1, 46, 47] | 15 => some [1, 84, 85, 86] | 20 => some [1, 84, 85, 86, 95, 96, 97] | _ => none, fun _ => none, fun r => match r with  | _ => none⟩
def f25_fl : Fl := ⟨fun r o => match r, o with | 0, 0 => 1 | _, _ => 0, fun r => match r with | 7 => some [1, 3, 44, 45] | 13 => some [1, 3, 75, 76, 77] | 20 => some [3, 89, 90, 91] | 25 => some [3, 89, 90, 91, 100, 101, 102] | 30 => some [3, 89, 90, 91, 100, 101, 102, 109, 110, 111] | _ => none, fun _ => none, fun r => match r with  | _ => none⟩
def f28_fl : Fl := ⟨fun r o => match r, o with  | _, _ => 0, fun r => match r with | 4 => some [0, 1, 12, 13] | _ => none, fun _ => none, fun r => match r with  | _ => none⟩
def f39_fl : Fl := ⟨fun r o => match r, o with | 0, 0 => 1 | _, _ => 0, fun r => match r with  | _ => none, fun _ => none, fun r => match r with  | _ => none⟩
def f40_fl : Fl := ⟨fun r o => match r, o with | 0, 0 => 1 | _, _ => 0, fun r => match r with  | _ => none, fun _ => none, fun r => match r with  | _ => none⟩
def f41_fl : Fl := ⟨fun r o => match r, o with | 0, 0 => 1 | _, _ => 0, fun r => match r with | 7 => some [2, 19, 20, 21] | _ => none, fun _ => none, fun r => match r with  | _ => none⟩
def f42_fl : Fl := ⟨fun r o => match r, o with | 0, 0 => 1 | 19, 0 => 5 | _, _ => 0, fun r => match r with | 6 => some [2, 6, 9] | 9 => some [2, 6, 9, 28, 29, 30] | 14 => some [2, 6, 9, 10, 12, 28, 29, 30, 42, 43] | _ => none, fun _ => none, fun r => match r with  | _ => none⟩
def f43_fl : Fl := ⟨fun r o => match r, o with | 0, 0 => 1 | 6, 0 => 5 | _, _ => 0, fun r => match r with | 3 => some [2, 6, 20, 21, 22] | 11 => some [2, 6, 9, 10] | 13 => some [2, 6, 9, 10, 11, 47, 48, 49] | 23 => some [2, 9, 80, 81, 82] | _ => none, fun _ => none, fun r => match r with | 16 => some [2, 6, 9, 10, 11, 13, 47, 48, 49] | _ => none⟩
def f44_fl : Fl := ⟨fun r o => match r, o with | 0, 0 => 1 | _, _ => 0, fun r => match r with | 3 => some [2, 5, 8, 9, 10] | _ => none, fun _ => none, fun r => match r with  | _ => none⟩
def f51_fl : Fl := ⟨fun r o => match r, o with  | _, _ => 0, fun r => match r with  | _ => none, fun _ => none, fun r => match r with  | _ => none⟩
def f54_fl : Fl := ⟨fun r o => match r, o with  | _, _ => 0, fun r => match r with  | _ => none, fun _ => none, fun r => match r with  | _ => none⟩
def f62_fl : Fl := ⟨fun r o => match r, o with | 0, 0 => 1 | _, _ => 0, fun r => match r with | 2 => some [2, 7, 8, 9] | _ => none, fun _ => none, fun r => match r with  | _ => none⟩
def f63_fl : Fl := ⟨fun r o => match r, o with | 0, 0 => 1 | _, _ => 0, fun r => match r with  | _ => none, fun _ => none, fun r => match r with  | _ => none⟩
def f64_fl : Fl := ⟨fun r o => match r, o with | 0, 0 => 1 | _, _ => 0, fun r => match r with | 6 => some [1, 2, 7, 9] | 9 => some [1, 2, 7, 9, 31, 32, 33] | 15 => some [1, 2, 7, 9, 10, 12, 13, 14, 31, 32, 33, 44, 45, 46] | _ => none, fun _ => none, fun r => match r with  | _ => none⟩
def f66_fl : Fl := ⟨fun r o => match r, o with | 0, 0 => 1 | _, _ => 0, fun r => match r with | 3 => some [1, 5, 9, 10, 11] | _ => none, fun _ => none, fun r => match r with  | _ => none⟩
def f67_fl : Fl := ⟨fun r o => match r, o with | 3, 0 => 3 | _, _ => 0, fun r => match r with  | _ => none, fun _ => none, fun r => match r with  | _ => none⟩
def f68_fl : Fl := ⟨fun r o => match r, o with | 7, 5 => 2 | 8, 5 => 2 | 20, 0 => 17 | 20, 1 => 18 | _, _ => 0, fun r => match r with | 3 => some [1, 6, 36, 37, 38] | 13 => some [6, 9, 11, 12, 13, 75, 76, 77] | 18 => some [6, 9, 11, 12, 13, 16] | 25 => some [6, 9, 11, 12, 13, 16, 116, 117, 118] | _ => none, fun _ => none, fun r => match r with | 2 => some [0, 1] | _ => none⟩
def f76_fl : Fl := ⟨fun r o => match r, o with  | _, _ => 0, fun r => match r with | 2 => some [0, 7, 8, 9] | _ => none, fun _ => none, fun r => match r with  | _ => none⟩
def f78_fl : Fl := ⟨fun r o => match r, o with | 0, 0 => 1 | 1, 8 => 1 | 1, 10 => 1 | _, _ => 0, fun r => match r with | 3 => some [1, 4, 21, 22, 23] | _ => none, fun _ => none, fun r => match r with | 2 => some [1] | _ => none⟩
def f79_fl : Fl := ⟨fun r o => match r, o with | 0, 0 => 1 | _, _ => 0, fun r => match r with | 7 => some [2, 19, 20, 21] | _ => none, fun _ => none, fun r => match r with  | _ => none⟩
def f80_fl : Fl := ⟨fun r o => match r, o with | 3, 0 => 3 | _, _ => 0, fun r => match r with  | _ => none, fun _ => none, fun r => match r with  | _ => none⟩
def f81_fl : Fl := ⟨fun r o => match r, o with | 0, 0 => 1 | _, _ => 0, fun r => match r with | 3 => some [2, 6, 7, 15, 16, 17] | _ => none, fun _ => none, fun r => match r with  | _ => none⟩
def f87_fl : Fl := ⟨fun r o => match r, o with | 3, 0 => 3 | _, _ => 0, fun r => match r with  | _ => none, fun _ => none, fun r => match r with  | _ => none⟩
def f88_fl : Fl := ⟨fun r o => match r, o with | 0, 0 => 1 | 8, 0 => 17 | _, _ => 0, fun r => match r with  | _ => none, fun _ => none, fun r => match r with | 2 => some [1, 2, 3, 4, 5, 6] | 4 => some [1, 2, 3, 4, 5, 6, 7] | 5 => some [1, 2, 3, 4, 5, 6, 7] | 6 => some [1, 2, 3, 4, 5, 6, 7] | _ => none⟩
def f89_fl : Fl := ⟨fun r o => match r, o with  | _, _ => 0, fun r => match r with | 3 => some [3, 17, 18, 19] | 7 => some [3, 6, 17, 18, 19, 23, 24, 25] | _ => none, fun _ => none, fun r => match r with  | _ => none⟩
end Go.Proofs.Ytecaleolkdoggaa
