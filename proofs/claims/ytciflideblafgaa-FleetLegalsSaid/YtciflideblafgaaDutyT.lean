/- trees of duties -/
import Derived.Test.YtciflideblafgaaDep
open Go Go.Proofs.Ytciflideblafgaa.Fw
namespace Go.Proofs.Ytciflideblafgaa
set_option maxRecDepth 100000
structure Task where
  frm : Int
  to : Int
  dep : Int
  arr : Int
  km : Int
  units : Int
def task0 : Task := ⟨0, 0, 0, 0, 0, 0⟩
def taskC (t : Task) : List AVal := [bI t.frm, bI t.to, bI t.dep, bI t.arr, bI t.km, bI t.units]
def tasksP (l : List Task) : PV := .lst 6 .any l.length fun i j => pvAt (taskC (l.getD i task0)) j
structure Lim where
  change : Int
  long : Int
  work : Int
  after : Int
  brk : Int
  rest : Int
  row : Int
def limC (x : Lim) : List AVal := [bI x.change, bI x.long, bI x.work, bI x.after, bI x.brk, bI x.rest, bI x.row]
def limV (x : Lim) : AVal := .agg (limC x)
abbrev shpJ : Nat → Shape
 | 75 | 76 | 66 | 4 | 26 => sh Bool bB
 | 23 | 44 | 45 | 46 | 47 | 77 | 78 | 79 => sh Int bI
 | 24 | 25 => sh (Int × Int) (fun x => .tup [bI x.1, bI x.2])
 | 128 => shm (Int × Int) (fun _ => .tup []) (fun b => [.box [bI b.1], .box [bI b.2]])
 | _ => sh Unit fun _ => .undef
def tk1 (l : List Task) (u : List Int) : Task := l.getD (u.getD 0 0).toNat task0
def tk2 (l : List Task) (u : List Int) : Task := l.getD (u.getD (IntKind.wrap .i64 ((u.length : Int) - 1)).toNat 0).toNat task0
abbrev limP (x : Lim) : AVal := .pv false (.cptr 7 (pvAt (limC x)) 0)
set_option linter.unusedVariables false
def f44_fl : Fl := ⟨fun r o => match r, o with  | _, _ => 0, fun r => match r with | 4 => some [8, 9, 10] | _ => none, fun r => match r with  | _ => none⟩
def f44_s4 (l : List Task) (i : Nat) : St := ⟨55, [(8, .pv false (tasksP l)), (9, bI l.length), (10, bI i)], [], 0, fun _ => 0⟩
def f45_fl : Fl := ⟨fun r o => match r, o with  | _, _ => 0, fun r => match r with | 4 => some [8, 9, 10] | _ => none, fun r => match r with  | _ => none⟩
def f45_s4 (l : List Task) (i : Nat) : St := ⟨52, [(8, .pv false (tasksP l)), (9, bI l.length), (10, bI i)], [], 0, fun _ => 0⟩
def f77_fl : Fl := ⟨fun r o => match r, o with | 0, 0 => 1 | _, _ => 0, fun r => match r with  | _ => none, fun r => match r with  | _ => none⟩
def f24_fl : Fl := ⟨fun r o => match r, o with | 0, 0 => 1 | _, _ => 0, fun r => match r with | 7 => some [0, 1, 5, 20, 21, 22] | _ => none, fun r => match r with  | _ => none⟩
def f24_s7 (l : List Task) (u : List Int) (x : Lim) (i : Nat) : St := ⟨45, [(0, .pv false (tasksP l)), (1, .pv false (intsP u)), (5, limP x), (20, .pv false (intsP u)), (21, bI u.length), (22, bI i)], [], 0, fun _ => 0⟩
def f25_fl : Fl := ⟨fun r o => match r, o with | 0, 0 => 1 | _, _ => 0, fun r => match r with | 10 => some [0, 1, 5, 25, 26, 27] | _ => none, fun r => match r with  | _ => none⟩
def f25_s10 (l : List Task) (u : List Int) (x : Lim) (i : Nat) : St := ⟨50, [(0, .pv false (tasksP l)), (1, .pv false (intsP u)), (5, limP x), (25, .pv false (intsP u)), (26, bI u.length), (27, bI i)], [], 0, fun _ => 0⟩
def f78_fl (l : List Task) (u : List Int) (x : Lim) : Fl := ⟨fun r o => match r, o with | 0, 0 => 1 | _, _ => 0, fun r => match r with | 6 => some [0, 1, 5, 7, 8, 9, 10, 11, 12, 35, 36, 37] | _ => none, fun r => match r with | 1 => some ⟨121, [(0, .pv false (tasksP l)), (1, .pv false (intsP u)), (5, limP x), (6, bI 0), (7, .ptr 0 0 0 0), (8, .ptr 1 0 0 0)], [.box (taskC (tk1 l u)), .box (taskC (tk2 l u))], 0, fun _ => 0⟩ | _ => none⟩
def f78_s6 (l : List Task) (u : List Int) (x : Lim) (i : Nat) (w b k : Int) : St := ⟨121, [(0, .pv false (tasksP l)), (1, .pv false (intsP u)), (5, limP x), (7, .ptr 0 0 0 0), (8, .ptr 1 0 0 0), (9, bI w), (10, .ptr 2 0 0 0), (11, .ptr 3 0 0 0), (12, .fn 128 [.ptr 3 0 0 0, limP x, .ptr 2 0 0 0]), (35, .pv false (intsP u)), (36, bI u.length), (37, bI i)], [.box (taskC (tk1 l u)), .box (taskC (tk2 l u)), .box [bI k], .box [bI b]], 0, fun _ => 0⟩
def f128_fl : Fl := ⟨fun r o => match r, o with  | _, _ => 0, fun r => match r with  | _ => none, fun r => match r with  | _ => none⟩
def f79_fl (l : List Task) (u : List Int) (x : Lim) : Fl := ⟨fun r o => match r, o with | 0, 0 => 1 | _, _ => 0, fun r => match r with | 4 => some [0, 1, 5, 7, 8, 9, 32, 33, 34] | 18 => some [0, 1, 5, 7, 8, 13, 100, 101, 102] | _ => none, fun r => match r with | 1 => some ⟨168, [(0, .pv false (tasksP l)), (1, .pv false (intsP u)), (5, limP x), (6, bI 0), (7, .ptr 0 0 0 0), (8, .ptr 1 0 0 0)], [.box (taskC (tk1 l u)), .box (taskC (tk2 l u))], 0, fun _ => 0⟩ | _ => none⟩
def f79_s4 (l : List Task) (u : List Int) (x : Lim) (i : Nat) (w : Int) : St := ⟨168, [(0, .pv false (tasksP l)), (1, .pv false (intsP u)), (5, limP x), (7, .ptr 0 0 0 0), (8, .ptr 1 0 0 0), (9, bI w), (32, .pv false (intsP u)), (33, bI u.length), (34, bI i)], [.box (taskC (tk1 l u)), .box (taskC (tk2 l u))], 0, fun _ => 0⟩
def f79_s18 (l : List Task) (u : List Int) (x : Lim) (i : Nat) (b : Int) : St := ⟨168, [(0, .pv false (tasksP l)), (1, .pv false (intsP u)), (5, limP x), (7, .ptr 0 0 0 0), (8, .ptr 1 0 0 0), (13, bI b), (100, .pv false (intsP u)), (101, bI u.length), (102, bI i)], [.box (taskC (tk1 l u)), .box (taskC (tk2 l u))], 0, fun _ => 0⟩
def f26_fl : Fl := ⟨fun r o => match r, o with  | _, _ => 0, fun r => match r with  | _ => none, fun r => match r with  | _ => none⟩
def f4_fl : Fl := ⟨fun r o => match r, o with | 0, 0 => 1 | _, _ => 0, fun r => match r with  | _ => none, fun r => match r with  | _ => none⟩
def f46_fl : Fl := ⟨fun r o => match r, o with | 0, 0 => 1 | _, _ => 0, fun r => match r with | 2 => some [1, 17, 18] | _ => none, fun r => match r with  | _ => none⟩
def f46_s2 (x : Lim) (i : Nat) : St := ⟨29, [(1, limP x), (17, .av 1 6 (fun i j => pvAt ((limC x).take 6) (i * 1 + j))), (18, bI i)], [], 0, fun _ => 0⟩
def f47_fl : Fl := ⟨fun r o => match r, o with | 0, 0 => 1 | _, _ => 0, fun r => match r with | 2 => some [1, 17, 18, 19] | _ => none, fun r => match r with  | _ => none⟩
def f47_s2 (x : Lim) (i : Nat) : St := ⟨31, [(1, limP x), (17, .pv false (.lst 1 .full 6 fun i j => pvAt ((limC x).take 6) (i * 1 + j))), (18, bI 6), (19, bI i)], [], 0, fun _ => 0⟩
theorem f44_ret4 (K : AVal → Prop) : kont Try.prog TT shpJ f44_fl [1, 1, 0, 1, 0] (bodyOf Try.f44) (retQ TT Try.f44.results K) .ret = fun s => retK TT Try.f44.results s K := by kernel_rfl
theorem f45_ret4 (K : AVal → Prop) : kont Try.prog TT shpJ f45_fl [1, 1, 0, 1, 0] (bodyOf Try.f45) (retQ TT Try.f45.results K) .ret = fun s => retK TT Try.f45.results s K := by kernel_rfl
theorem f24_ret7 (K : AVal → Prop) : kont Try.prog TT shpJ f24_fl [1, 1, 1, 0, 1, 0] (bodyOf Try.f24) (retQ TT Try.f24.results K) .ret = fun s => retK TT Try.f24.results s K := by kernel_rfl
theorem f25_ret10 (K : AVal → Prop) : kont Try.prog TT shpJ f25_fl [1, 1, 1, 1, 0, 1, 0] (bodyOf Try.f25) (retQ TT Try.f25.results K) .ret = fun s => retK TT Try.f25.results s K := by kernel_rfl
theorem f78_ret6 (l : List Task) (u : List Int) (x : Lim) (K : AVal → Prop) : kont Try.prog TT shpJ (f78_fl l u x) [1, 1, 1, 1, 1, 0, 1, 0] (bodyOf Try.f78) (retQ TT Try.f78.results K) .ret = fun s => retK TT Try.f78.results s K := by kernel_rfl
theorem f79_ret4 (l : List Task) (u : List Int) (x : Lim) (K : AVal → Prop) : kont Try.prog TT shpJ (f79_fl l u x) [1, 1, 1, 0, 1, 0] (bodyOf Try.f79) (retQ TT Try.f79.results K) .ret = fun s => retK TT Try.f79.results s K := by kernel_rfl
theorem f79_ret18 (l : List Task) (u : List Int) (x : Lim) (K : AVal → Prop) : kont Try.prog TT shpJ (f79_fl l u x) [1, 1, 1, 1, 1, 1, 0, 1, 0] (bodyOf Try.f79) (retQ TT Try.f79.results K) .ret = fun s => retK TT Try.f79.results s K := by kernel_rfl
theorem f46_ret2 (K : AVal → Prop) : kont Try.prog TT shpJ f46_fl [1, 0, 1, 0] (bodyOf Try.f46) (retQ TT Try.f46.results K) .ret = fun s => retK TT Try.f46.results s K := by kernel_rfl
theorem f47_ret2 (K : AVal → Prop) : kont Try.prog TT shpJ f47_fl [1, 0, 1, 0] (bodyOf Try.f47) (retQ TT Try.f47.results K) .ret = fun s => retK TT Try.f47.results s K := by kernel_rfl
theorem f44_tree : ∀ (l : List Task) (K : AVal → Prop),
  run Try.prog TT shpJ f44_fl (bodyOf Try.f44)
      (retQ TT (Go.Func.results Try.f44) K)
      (entry (Go.Func.ntmps Try.f44) [AVal.pv false (tasksP l)]) =
    br (Decidable.decide (40 < (↑(List.length l) : Int))) (K (AVal.pv false (PV.int Go.IntKind.i64 4)))
      (LoopK
        (run Try.prog TT shpJ f44_fl
          (sub [1, 1, 0, 1, 0, 0] (bodyOf Try.f44)))
        (kont Try.prog TT shpJ f44_fl [1, 1, 0, 1, 0] (bodyOf Try.f44)
          (retQ TT (Go.Func.results Try.f44) K))
        { nt := 55,
          env :=
            [(8, AVal.pv false (tasksP l)), (9, AVal.pv false (PV.int Go.IntKind.i64 (↑(List.length l) : Int))),
              (10, AVal.pv false (PV.int Go.IntKind.i64 0))],
          heap := [] }) := by intros; kernel_rfl
theorem f44_body4 : ∀ (l : List Task) (i : Nat) (N : St → Prop) (X : Nat → St → Prop) (K : AVal → Prop),
  run Try.prog TT shpJ f44_fl
      (sub [1, 1, 0, 1, 0, 0] (bodyOf Try.f44))
      (cutQ [8, 9, 10] [] 0 N X fun (s : St) => retK TT (Go.Func.results Try.f44) s K)
      (f44_s4 l i) =
    br (Decidable.decide ((↑i : Int) < (↑(List.length l) : Int)))
      ((0 ≤ (↑i : Int) ∧ (↑i : Int) < (↑(List.length l) : Int)) ∧
        CallT Try.prog (shpJ 76) 76
          [AVal.pv false (PV.int Go.IntKind.i64 (Task.frm (List.getD l (Int.toNat (↑i : Int)) task0))),
            AVal.pv false (PV.int Go.IntKind.i64 0), AVal.pv false (PV.int Go.IntKind.i64 11)]
          [] fun (x : Bool) =>
          br (!x) (K (AVal.pv false (PV.int Go.IntKind.i64 2)))
            (CallT Try.prog (shpJ 76) 76
              [AVal.pv false (PV.int Go.IntKind.i64 (Task.to (List.getD l (Int.toNat (↑i : Int)) task0))),
                AVal.pv false (PV.int Go.IntKind.i64 0), AVal.pv false (PV.int Go.IntKind.i64 11)]
              [] fun (x : Bool) =>
              br (!x) (K (AVal.pv false (PV.int Go.IntKind.i64 2)))
                (CallT Try.prog (shpJ 76) 76
                  [AVal.pv false (PV.int Go.IntKind.i64 (Task.dep (List.getD l (Int.toNat (↑i : Int)) task0))),
                    AVal.pv false (PV.int Go.IntKind.i64 0), AVal.pv false (PV.int Go.IntKind.i64 28800)]
                  [] fun (x : Bool) =>
                  br (!x) (K (AVal.pv false (PV.int Go.IntKind.i64 2)))
                    (CallT Try.prog (shpJ 76) 76
                      [AVal.pv false (PV.int Go.IntKind.i64 (Task.arr (List.getD l (Int.toNat (↑i : Int)) task0))),
                        AVal.pv false (PV.int Go.IntKind.i64 0), AVal.pv false (PV.int Go.IntKind.i64 28800)]
                      [] fun (x : Bool) =>
                      br (!x) (K (AVal.pv false (PV.int Go.IntKind.i64 2)))
                        (br
                          (Decidable.decide
                            (Task.arr (List.getD l (Int.toNat (↑i : Int)) task0) ≤
                              Task.dep (List.getD l (Int.toNat (↑i : Int)) task0)))
                          (K (AVal.pv false (PV.int Go.IntKind.i64 13)))
                          (CallT Try.prog (shpJ 76) 76
                            [AVal.pv false (PV.int Go.IntKind.i64 (Task.km (List.getD l (Int.toNat (↑i : Int)) task0))),
                              AVal.pv false (PV.int Go.IntKind.i64 0),
                              AVal.pv false (PV.int Go.IntKind.i64 10000)]
                            [] fun (x : Bool) =>
                            br (!x) (K (AVal.pv false (PV.int Go.IntKind.i64 2)))
                              (CallT Try.prog (shpJ 76) 76
                                [AVal.pv false
                                    (PV.int Go.IntKind.i64 (Task.units (List.getD l (Int.toNat (↑i : Int)) task0))),
                                  AVal.pv false (PV.int Go.IntKind.i64 1),
                                  AVal.pv false (PV.int Go.IntKind.i64 4)]
                                [] fun (x : Bool) =>
                                br (!x) (K (AVal.pv false (PV.int Go.IntKind.i64 2)))
                                  (N
                                    { nt := 55,
                                      env :=
                                        [(8, AVal.pv false (tasksP l)),
                                          (9, AVal.pv false (PV.int Go.IntKind.i64 (↑(List.length l) : Int))),
                                          (10, AVal.pv false (PV.int Go.IntKind.i64 (Go.IntKind.wrap Go.IntKind.i64 ((↑i : Int) + 1))))],
                                      heap := [] }))))))))
      (X 0 { nt := 55, env := [], heap := [] }) := by intros; kernel_rfl
theorem f44_exit4_0 : ∀ (l : List Task) (i : Nat) (K : AVal → Prop),
  kont Try.prog TT shpJ f44_fl [1, 1, 0, 1, 0] (bodyOf Try.f44)
      (retQ TT (Go.Func.results Try.f44) K) (Go.Exit.exit 0) { nt := 55, env := [], heap := [] } =
    K (AVal.pv false (PV.int Go.IntKind.i64 0)) := by intros; kernel_rfl
theorem f45_tree : ∀ (l : List Task) (K : AVal → Prop),
  run Try.prog TT shpJ f45_fl (bodyOf Try.f45)
      (retQ TT (Go.Func.results Try.f45) K)
      (entry (Go.Func.ntmps Try.f45) [AVal.pv false (tasksP l)]) =
    br (Decidable.decide (40 < (↑(List.length l) : Int))) (K (AVal.pv false (PV.int Go.IntKind.i64 4)))
      (LoopK
        (run Try.prog TT shpJ f45_fl
          (sub [1, 1, 0, 1, 0, 0] (bodyOf Try.f45)))
        (kont Try.prog TT shpJ f45_fl [1, 1, 0, 1, 0] (bodyOf Try.f45)
          (retQ TT (Go.Func.results Try.f45) K))
        { nt := 52,
          env :=
            [(8, AVal.pv false (tasksP l)), (9, AVal.pv false (PV.int Go.IntKind.i64 (↑(List.length l) : Int))),
              (10, AVal.pv false (PV.int Go.IntKind.i64 0))],
          heap := [] }) := by intros; kernel_rfl
theorem f45_body4 : ∀ (l : List Task) (i : Nat) (N : St → Prop) (X : Nat → St → Prop) (K : AVal → Prop),
  run Try.prog TT shpJ f45_fl
      (sub [1, 1, 0, 1, 0, 0] (bodyOf Try.f45))
      (cutQ [8, 9, 10] [] 0 N X fun (s : St) => retK TT (Go.Func.results Try.f45) s K)
      (f45_s4 l i) =
    br (Decidable.decide ((↑i : Int) < (↑(List.length l) : Int)))
      ((0 ≤ (↑i : Int) ∧ (↑i : Int) < (↑(List.length l) : Int)) ∧
        CallT Try.prog (shpJ 75) 75
          [AVal.pv false (PV.int Go.IntKind.i64 (Task.frm (List.getD l (Int.toNat (↑i : Int)) task0))),
            AVal.pv false (PV.int Go.IntKind.i64 0), AVal.pv false (PV.int Go.IntKind.i64 11)]
          [] fun (x : Bool) =>
          br (!x) (K (AVal.pv false (PV.int Go.IntKind.i64 2)))
            (CallT Try.prog (shpJ 75) 75
              [AVal.pv false (PV.int Go.IntKind.i64 (Task.to (List.getD l (Int.toNat (↑i : Int)) task0))),
                AVal.pv false (PV.int Go.IntKind.i64 0), AVal.pv false (PV.int Go.IntKind.i64 11)]
              [] fun (x : Bool) =>
              br (!x) (K (AVal.pv false (PV.int Go.IntKind.i64 2)))
                (CallT Try.prog (shpJ 75) 75
                  [AVal.pv false (PV.int Go.IntKind.i64 (Task.dep (List.getD l (Int.toNat (↑i : Int)) task0))),
                    AVal.pv false (PV.int Go.IntKind.i64 0), AVal.pv false (PV.int Go.IntKind.i64 28800)]
                  [] fun (x : Bool) =>
                  br (!x) (K (AVal.pv false (PV.int Go.IntKind.i64 2)))
                    (CallT Try.prog (shpJ 75) 75
                      [AVal.pv false (PV.int Go.IntKind.i64 (Task.arr (List.getD l (Int.toNat (↑i : Int)) task0))),
                        AVal.pv false (PV.int Go.IntKind.i64 0), AVal.pv false (PV.int Go.IntKind.i64 28800)]
                      [] fun (x : Bool) =>
                      br (!x) (K (AVal.pv false (PV.int Go.IntKind.i64 2)))
                        (br
                          (Decidable.decide
                            (Task.arr (List.getD l (Int.toNat (↑i : Int)) task0) ≤
                              Task.dep (List.getD l (Int.toNat (↑i : Int)) task0)))
                          (K (AVal.pv false (PV.int Go.IntKind.i64 13)))
                          (CallT Try.prog (shpJ 75) 75
                            [AVal.pv false (PV.int Go.IntKind.i64 (Task.km (List.getD l (Int.toNat (↑i : Int)) task0))),
                              AVal.pv false (PV.int Go.IntKind.i64 0),
                              AVal.pv false (PV.int Go.IntKind.i64 10000)]
                            [] fun (x : Bool) =>
                            br (!x) (K (AVal.pv false (PV.int Go.IntKind.i64 2)))
                              (CallT Try.prog (shpJ 75) 75
                                [AVal.pv false
                                    (PV.int Go.IntKind.i64 (Task.units (List.getD l (Int.toNat (↑i : Int)) task0))),
                                  AVal.pv false (PV.int Go.IntKind.i64 1),
                                  AVal.pv false (PV.int Go.IntKind.i64 4)]
                                [] fun (x : Bool) =>
                                br (!x) (K (AVal.pv false (PV.int Go.IntKind.i64 2)))
                                  (N
                                    { nt := 52,
                                      env :=
                                        [(8, AVal.pv false (tasksP l)),
                                          (9, AVal.pv false (PV.int Go.IntKind.i64 (↑(List.length l) : Int))),
                                          (10, AVal.pv false (PV.int Go.IntKind.i64 (Go.IntKind.wrap Go.IntKind.i64 ((↑i : Int) + 1))))],
                                      heap := [] }))))))))
      (X 0 { nt := 52, env := [], heap := [] }) := by intros; kernel_rfl
theorem f45_exit4_0 : ∀ (l : List Task) (i : Nat) (K : AVal → Prop),
  kont Try.prog TT shpJ f45_fl [1, 1, 0, 1, 0] (bodyOf Try.f45)
      (retQ TT (Go.Func.results Try.f45) K) (Go.Exit.exit 0) { nt := 52, env := [], heap := [] } =
    K (AVal.pv false (PV.int Go.IntKind.i64 0)) := by intros; kernel_rfl
theorem f77_tree : ∀ (l : List Task) (x : Lim) (K : AVal → Prop),
  run Try.prog TT shpJ f77_fl (bodyOf Try.f77)
      (retQ TT (Go.Func.results Try.f77) K)
      (entry (Go.Func.ntmps Try.f77) [AVal.pv false (tasksP l), limV x]) =
    CallT Try.prog (shpJ 44) 44 [AVal.pv false (tasksP l)] [] fun (x_1 : Int) =>
      br (!Decidable.decide (x_1 = 0)) (K (AVal.pv false (PV.int Go.IntKind.i64 x_1)))
        (CallT Try.prog (shpJ 46) 46
          [AVal.agg
              [AVal.pv false (PV.int Go.IntKind.i64 (Lim.change x)),
                AVal.pv false (PV.int Go.IntKind.i64 (Lim.long x)),
                AVal.pv false (PV.int Go.IntKind.i64 (Lim.work x)),
                AVal.pv false (PV.int Go.IntKind.i64 (Lim.after x)),
                AVal.pv false (PV.int Go.IntKind.i64 (Lim.brk x)),
                AVal.pv false (PV.int Go.IntKind.i64 (Lim.rest x)),
                AVal.pv false (PV.int Go.IntKind.i64 (Lim.row x))]]
          [] fun (x : Int) => K (AVal.pv false (PV.int Go.IntKind.i64 x))) := by intros; kernel_rfl
theorem f24_tree : ∀ (l : List Task) (u : List Int) (x : Lim) (K : AVal → Prop),
  run Try.prog TT shpJ f24_fl (bodyOf Try.f24)
      (retQ TT (Go.Func.results Try.f24) K)
      (entry (Go.Func.ntmps Try.f24)
        [AVal.pv false (tasksP l), AVal.pv false (intsP u), limV x]) =
    CallT Try.prog (shpJ 77) 77
      [AVal.pv false (tasksP l),
        AVal.agg
          [AVal.pv false (PV.int Go.IntKind.i64 (Lim.change x)),
            AVal.pv false (PV.int Go.IntKind.i64 (Lim.long x)),
            AVal.pv false (PV.int Go.IntKind.i64 (Lim.work x)),
            AVal.pv false (PV.int Go.IntKind.i64 (Lim.after x)),
            AVal.pv false (PV.int Go.IntKind.i64 (Lim.brk x)),
            AVal.pv false (PV.int Go.IntKind.i64 (Lim.rest x)),
            AVal.pv false (PV.int Go.IntKind.i64 (Lim.row x))]]
      [] fun (x_1 : Int) =>
      br (!Decidable.decide (x_1 = 0))
        (K
          (AVal.tup
            [AVal.pv false (PV.int Go.IntKind.i64 0), AVal.pv false (PV.int Go.IntKind.i64 x_1)]))
        (br (Decidable.decide ((↑(List.length u) : Int) = 0))
          (K
            (AVal.tup
              [AVal.pv false (PV.int Go.IntKind.i64 0), AVal.pv false (PV.int Go.IntKind.i64 1)]))
          (LoopK
            (run Try.prog TT shpJ f24_fl
              (sub [1, 1, 1, 0, 1, 0, 0] (bodyOf Try.f24)))
            (kont Try.prog TT shpJ f24_fl [1, 1, 1, 0, 1, 0] (bodyOf Try.f24)
              (retQ TT (Go.Func.results Try.f24) K))
            { nt := 45,
              env :=
                [(0, AVal.pv false (tasksP l)), (1, AVal.pv false (intsP u)),
                  (5,
                    AVal.pv false
                      (PV.cptr 7
                        (pvAt
                          [AVal.pv false (PV.int Go.IntKind.i64 (Lim.change x)),
                            AVal.pv false (PV.int Go.IntKind.i64 (Lim.long x)),
                            AVal.pv false (PV.int Go.IntKind.i64 (Lim.work x)),
                            AVal.pv false (PV.int Go.IntKind.i64 (Lim.after x)),
                            AVal.pv false (PV.int Go.IntKind.i64 (Lim.brk x)),
                            AVal.pv false (PV.int Go.IntKind.i64 (Lim.rest x)),
                            AVal.pv false (PV.int Go.IntKind.i64 (Lim.row x))])
                        0)),
                  (20, AVal.pv false (intsP u)),
                  (21, AVal.pv false (PV.int Go.IntKind.i64 (↑(List.length u) : Int))),
                  (22, AVal.pv false (PV.int Go.IntKind.i64 0))],
              heap := [] })) := by intros; kernel_rfl
theorem f24_body7 : ∀ (l : List Task) (u : List Int) (x : Lim) (i : Nat) (N : St → Prop) (X : Nat → St → Prop)
  (K : AVal → Prop),
  run Try.prog TT shpJ f24_fl
      (sub [1, 1, 1, 0, 1, 0, 0] (bodyOf Try.f24))
      (cutQ [0, 1, 5, 20, 21, 22] [0, 1, 5] 0 N X fun (s : St) => retK TT (Go.Func.results Try.f24) s K)
      (f24_s7 l u x i) =
    br (Decidable.decide ((↑i : Int) < (↑(List.length u) : Int)))
      ((0 ≤ (↑i : Int) ∧ (↑i : Int) < (↑(List.length u) : Int)) ∧
        CallT Try.prog (shpJ 76) 76
          [AVal.pv false (PV.int Go.IntKind.i64 (List.getD u (Int.toNat (↑i : Int)) 0)),
            AVal.pv false (PV.int Go.IntKind.i64 0),
            AVal.pv false (PV.int Go.IntKind.i64 (Go.IntKind.wrap Go.IntKind.i64 ((↑(List.length l) : Int) - 1)))]
          [] fun (x_1 : Bool) =>
          br (!x_1)
            (K
              (AVal.tup
                [AVal.pv false (PV.int Go.IntKind.i64 0), AVal.pv false (PV.int Go.IntKind.i64 2)]))
            ((Int.ofNat 0 ≤ Int.ofNat 0 ∧ 0 ≤ (↑i : Int) ∧ (↑i : Int) ≤ (↑(List.length u) : Int)) ∧
              CallT Try.prog (shpJ 66) 66
                [AVal.pv false
                    (PV.lst 1 NF.any (Int.toNat ((↑i : Int) - 0)) fun (i j : Nat) => PV.int Go.IntKind.i64 (List.getD u (0 + i) 0)),
                  AVal.pv false (PV.int Go.IntKind.i64 (List.getD u (Int.toNat (↑i : Int)) 0))]
                [] fun (x_2 : Bool) =>
                br x_2
                  (K
                    (AVal.tup
                      [AVal.pv false (PV.int Go.IntKind.i64 0), AVal.pv false (PV.int Go.IntKind.i64 6)]))
                  (N
                    { nt := 45,
                      env :=
                        [(0, AVal.pv false (tasksP l)), (1, AVal.pv false (intsP u)),
                          (5, AVal.pv false (PV.cptr 7 (pvAt (limC x)) 0)),
                          (20, AVal.pv false (intsP u)),
                          (21, AVal.pv false (PV.int Go.IntKind.i64 (↑(List.length u) : Int))),
                          (22, AVal.pv false (PV.int Go.IntKind.i64 (Go.IntKind.wrap Go.IntKind.i64 ((↑i : Int) + 1))))],
                      heap := [] })))
      (X 0
        { nt := 45,
          env :=
            [(0, AVal.pv false (tasksP l)), (1, AVal.pv false (intsP u)),
              (5, AVal.pv false (PV.cptr 7 (pvAt (limC x)) 0))],
          heap := [] }) := by intros; kernel_rfl
theorem f24_exit7_0 : ∀ (l : List Task) (u : List Int) (x : Lim) (i : Nat) (K : AVal → Prop),
  kont Try.prog TT shpJ f24_fl [1, 1, 1, 0, 1, 0] (bodyOf Try.f24)
      (retQ TT (Go.Func.results Try.f24) K) (Go.Exit.exit 0)
      { nt := 45,
        env :=
          [(0, AVal.pv false (tasksP l)), (1, AVal.pv false (intsP u)), (5, limP x)],
        heap := [] } =
    CallT Try.prog (shpJ 78) 78
      [AVal.pv false (tasksP l), AVal.pv false (intsP u),
        AVal.agg
          [AVal.pv false (PV.int Go.IntKind.i64 (Lim.change x)),
            AVal.pv false (PV.int Go.IntKind.i64 (Lim.long x)),
            AVal.pv false (PV.int Go.IntKind.i64 (Lim.work x)),
            AVal.pv false (PV.int Go.IntKind.i64 (Lim.after x)),
            AVal.pv false (PV.int Go.IntKind.i64 (Lim.brk x)),
            AVal.pv false (PV.int Go.IntKind.i64 (Lim.rest x)),
            AVal.pv false (PV.int Go.IntKind.i64 (Lim.row x))]]
      [] fun (x : Int) =>
      K
        (AVal.tup
          [AVal.pv false (PV.int Go.IntKind.i64 x), AVal.pv false (PV.int Go.IntKind.i64 0)]) := by intros; kernel_rfl
theorem f25_tree : ∀ (l : List Task) (u : List Int) (x : Lim) (K : AVal → Prop),
  run Try.prog TT shpJ f25_fl (bodyOf Try.f25)
      (retQ TT (Go.Func.results Try.f25) K)
      (entry (Go.Func.ntmps Try.f25)
        [AVal.pv false (tasksP l), AVal.pv false (intsP u), limV x]) =
    CallT Try.prog (shpJ 45) 45 [AVal.pv false (tasksP l)] [] fun (x_1 : Int) =>
      br (!Decidable.decide (x_1 = 0))
        (K
          (AVal.tup
            [AVal.pv false (PV.int Go.IntKind.i64 0), AVal.pv false (PV.int Go.IntKind.i64 x_1)]))
        (CallT Try.prog (shpJ 47) 47
          [AVal.agg
              [AVal.pv false (PV.int Go.IntKind.i64 (Lim.change x)),
                AVal.pv false (PV.int Go.IntKind.i64 (Lim.long x)),
                AVal.pv false (PV.int Go.IntKind.i64 (Lim.work x)),
                AVal.pv false (PV.int Go.IntKind.i64 (Lim.after x)),
                AVal.pv false (PV.int Go.IntKind.i64 (Lim.brk x)),
                AVal.pv false (PV.int Go.IntKind.i64 (Lim.rest x)),
                AVal.pv false (PV.int Go.IntKind.i64 (Lim.row x))]]
          [] fun (x_2 : Int) =>
          br (!Decidable.decide (x_2 = 0))
            (K
              (AVal.tup
                [AVal.pv false (PV.int Go.IntKind.i64 0), AVal.pv false (PV.int Go.IntKind.i64 x_2)]))
            (br (Decidable.decide ((↑(List.length u) : Int) = 0))
              (K
                (AVal.tup
                  [AVal.pv false (PV.int Go.IntKind.i64 0), AVal.pv false (PV.int Go.IntKind.i64 1)]))
              (LoopK
                (run Try.prog TT shpJ f25_fl
                  (sub [1, 1, 1, 1, 0, 1, 0, 0] (bodyOf Try.f25)))
                (kont Try.prog TT shpJ f25_fl [1, 1, 1, 1, 0, 1, 0]
                  (bodyOf Try.f25) (retQ TT (Go.Func.results Try.f25) K))
                { nt := 50,
                  env :=
                    [(0, AVal.pv false (tasksP l)), (1, AVal.pv false (intsP u)),
                      (5,
                        AVal.pv false
                          (PV.cptr 7
                            (pvAt
                              [AVal.pv false (PV.int Go.IntKind.i64 (Lim.change x)),
                                AVal.pv false (PV.int Go.IntKind.i64 (Lim.long x)),
                                AVal.pv false (PV.int Go.IntKind.i64 (Lim.work x)),
                                AVal.pv false (PV.int Go.IntKind.i64 (Lim.after x)),
                                AVal.pv false (PV.int Go.IntKind.i64 (Lim.brk x)),
                                AVal.pv false (PV.int Go.IntKind.i64 (Lim.rest x)),
                                AVal.pv false (PV.int Go.IntKind.i64 (Lim.row x))])
                            0)),
                      (25, AVal.pv false (intsP u)),
                      (26, AVal.pv false (PV.int Go.IntKind.i64 (↑(List.length u) : Int))),
                      (27, AVal.pv false (PV.int Go.IntKind.i64 0))],
                  heap := [] }))) := by intros; kernel_rfl
theorem f25_body10 : ∀ (l : List Task) (u : List Int) (x : Lim) (i : Nat) (N : St → Prop) (X : Nat → St → Prop)
  (K : AVal → Prop),
  run Try.prog TT shpJ f25_fl
      (sub [1, 1, 1, 1, 0, 1, 0, 0] (bodyOf Try.f25))
      (cutQ [0, 1, 5, 25, 26, 27] [0, 1, 5] 0 N X fun (s : St) => retK TT (Go.Func.results Try.f25) s K)
      (f25_s10 l u x i) =
    br (Decidable.decide ((↑i : Int) < (↑(List.length u) : Int)))
      ((0 ≤ (↑i : Int) ∧ (↑i : Int) < (↑(List.length u) : Int)) ∧
        br (Decidable.decide (List.getD u (Int.toNat (↑i : Int)) 0 < 0))
          (K
            (AVal.tup
              [AVal.pv false (PV.int Go.IntKind.i64 0), AVal.pv false (PV.int Go.IntKind.i64 2)]))
          (br (Decidable.decide ((↑(List.length l) : Int) ≤ List.getD u (Int.toNat (↑i : Int)) 0))
            (K
              (AVal.tup
                [AVal.pv false (PV.int Go.IntKind.i64 0), AVal.pv false (PV.int Go.IntKind.i64 2)]))
            ((Int.ofNat 0 ≤ Int.ofNat 0 ∧ 0 ≤ (↑i : Int) ∧ (↑i : Int) ≤ (↑(List.length u) : Int)) ∧
              CallT Try.prog (shpJ 66) 66
                [AVal.pv false
                    (PV.lst 1 NF.any (Int.toNat ((↑i : Int) - 0)) fun (i j : Nat) => PV.int Go.IntKind.i64 (List.getD u (0 + i) 0)),
                  AVal.pv false (PV.int Go.IntKind.i64 (List.getD u (Int.toNat (↑i : Int)) 0))]
                [] fun (x_1 : Bool) =>
                br x_1
                  (K
                    (AVal.tup
                      [AVal.pv false (PV.int Go.IntKind.i64 0), AVal.pv false (PV.int Go.IntKind.i64 6)]))
                  (N
                    { nt := 50,
                      env :=
                        [(0, AVal.pv false (tasksP l)), (1, AVal.pv false (intsP u)),
                          (5, AVal.pv false (PV.cptr 7 (pvAt (limC x)) 0)),
                          (25, AVal.pv false (intsP u)),
                          (26, AVal.pv false (PV.int Go.IntKind.i64 (↑(List.length u) : Int))),
                          (27, AVal.pv false (PV.int Go.IntKind.i64 (Go.IntKind.wrap Go.IntKind.i64 ((↑i : Int) + 1))))],
                      heap := [] }))))
      (X 0
        { nt := 50,
          env :=
            [(0, AVal.pv false (tasksP l)), (1, AVal.pv false (intsP u)),
              (5, AVal.pv false (PV.cptr 7 (pvAt (limC x)) 0))],
          heap := [] }) := by intros; kernel_rfl
theorem f25_exit10_0 : ∀ (l : List Task) (u : List Int) (x : Lim) (i : Nat) (K : AVal → Prop),
  kont Try.prog TT shpJ f25_fl [1, 1, 1, 1, 0, 1, 0] (bodyOf Try.f25)
      (retQ TT (Go.Func.results Try.f25) K) (Go.Exit.exit 0)
      { nt := 50,
        env :=
          [(0, AVal.pv false (tasksP l)), (1, AVal.pv false (intsP u)), (5, limP x)],
        heap := [] } =
    CallT Try.prog (shpJ 79) 79
      [AVal.pv false (tasksP l), AVal.pv false (intsP u),
        AVal.agg
          [AVal.pv false (PV.int Go.IntKind.i64 (Lim.change x)),
            AVal.pv false (PV.int Go.IntKind.i64 (Lim.long x)),
            AVal.pv false (PV.int Go.IntKind.i64 (Lim.work x)),
            AVal.pv false (PV.int Go.IntKind.i64 (Lim.after x)),
            AVal.pv false (PV.int Go.IntKind.i64 (Lim.brk x)),
            AVal.pv false (PV.int Go.IntKind.i64 (Lim.rest x)),
            AVal.pv false (PV.int Go.IntKind.i64 (Lim.row x))]]
      [] fun (x : Int) =>
      K
        (AVal.tup
          [AVal.pv false (PV.int Go.IntKind.i64 x), AVal.pv false (PV.int Go.IntKind.i64 0)]) := by intros; kernel_rfl
theorem f78_tree : ∀ (l : List Task) (u : List Int) (x : Lim) (K : AVal → Prop),
  run Try.prog TT shpJ (f78_fl l u x) (bodyOf Try.f78)
      (retQ TT (Go.Func.results Try.f78) K)
      (entry (Go.Func.ntmps Try.f78)
        [AVal.pv false (tasksP l), AVal.pv false (intsP u), limV x]) =
    (((Int.ofNat 0 ≤ Int.ofNat 0 ∧ 0 < (↑(List.length u) : Int)) ∧
        (0 ≤ List.getD u 0 0 ∧ List.getD u 0 0 < (↑(List.length l) : Int)) ∧
          (0 ≤ Go.IntKind.wrap Go.IntKind.i64 ((↑(List.length u) : Int) - 1) ∧ Go.IntKind.wrap Go.IntKind.i64 ((↑(List.length u) : Int) - 1) < (↑(List.length u) : Int)) ∧
            (0 ≤ List.getD u (Int.toNat (Go.IntKind.wrap Go.IntKind.i64 ((↑(List.length u) : Int) - 1))) 0 ∧ List.getD u (Int.toNat (Go.IntKind.wrap Go.IntKind.i64 ((↑(List.length u) : Int) - 1))) 0 < (↑(List.length l) : Int)) ∧
              Le
                  { nt := 121,
                    env :=
                      [(0, AVal.pv false (tasksP l)), (1, AVal.pv false (intsP u)),
                        (5,
                          AVal.pv false
                            (PV.cptr 7
                              (pvAt
                                [AVal.pv false (PV.int Go.IntKind.i64 (Lim.change x)),
                                  AVal.pv false (PV.int Go.IntKind.i64 (Lim.long x)),
                                  AVal.pv false (PV.int Go.IntKind.i64 (Lim.work x)),
                                  AVal.pv false (PV.int Go.IntKind.i64 (Lim.after x)),
                                  AVal.pv false (PV.int Go.IntKind.i64 (Lim.brk x)),
                                  AVal.pv false (PV.int Go.IntKind.i64 (Lim.rest x)),
                                  AVal.pv false (PV.int Go.IntKind.i64 (Lim.row x))])
                              0)),
                        (6, AVal.pv false (PV.int Go.IntKind.i64 0)), (7, AVal.ptr 0 0 0 0),
                        (8, AVal.ptr 1 0 0 0)],
                    heap :=
                      [Blk.box
                          [AVal.pv false
                              (PV.int Go.IntKind.i64 (Task.frm (List.getD l (Int.toNat (List.getD u 0 0)) task0))),
                            AVal.pv false
                              (PV.int Go.IntKind.i64 (Task.to (List.getD l (Int.toNat (List.getD u 0 0)) task0))),
                            AVal.pv false
                              (PV.int Go.IntKind.i64 (Task.dep (List.getD l (Int.toNat (List.getD u 0 0)) task0))),
                            AVal.pv false
                              (PV.int Go.IntKind.i64 (Task.arr (List.getD l (Int.toNat (List.getD u 0 0)) task0))),
                            AVal.pv false
                              (PV.int Go.IntKind.i64 (Task.km (List.getD l (Int.toNat (List.getD u 0 0)) task0))),
                            AVal.pv false
                              (PV.int Go.IntKind.i64 (Task.units (List.getD l (Int.toNat (List.getD u 0 0)) task0)))],
                        Blk.box
                          [AVal.pv false
                              (PV.int Go.IntKind.i64
                                (Task.frm (List.getD l (Int.toNat (List.getD u (Int.toNat (Go.IntKind.wrap Go.IntKind.i64 ((↑(List.length u) : Int) - 1))) 0)) task0))),
                            AVal.pv false
                              (PV.int Go.IntKind.i64
                                (Task.to (List.getD l (Int.toNat (List.getD u (Int.toNat (Go.IntKind.wrap Go.IntKind.i64 ((↑(List.length u) : Int) - 1))) 0)) task0))),
                            AVal.pv false
                              (PV.int Go.IntKind.i64
                                (Task.dep (List.getD l (Int.toNat (List.getD u (Int.toNat (Go.IntKind.wrap Go.IntKind.i64 ((↑(List.length u) : Int) - 1))) 0)) task0))),
                            AVal.pv false
                              (PV.int Go.IntKind.i64
                                (Task.arr (List.getD l (Int.toNat (List.getD u (Int.toNat (Go.IntKind.wrap Go.IntKind.i64 ((↑(List.length u) : Int) - 1))) 0)) task0))),
                            AVal.pv false
                              (PV.int Go.IntKind.i64
                                (Task.km (List.getD l (Int.toNat (List.getD u (Int.toNat (Go.IntKind.wrap Go.IntKind.i64 ((↑(List.length u) : Int) - 1))) 0)) task0))),
                            AVal.pv false
                              (PV.int Go.IntKind.i64
                                (Task.units (List.getD l (Int.toNat (List.getD u (Int.toNat (Go.IntKind.wrap Go.IntKind.i64 ((↑(List.length u) : Int) - 1))) 0)) task0)))]] }
                  { nt := 121,
                    env :=
                      [(0, AVal.pv false (tasksP l)), (1, AVal.pv false (intsP u)),
                        (5, limP x), (6, bI 0), (7, AVal.ptr 0 0 0 0), (8, AVal.ptr 1 0 0 0)],
                    heap :=
                      [Blk.box (taskC (tk1 l u)),
                        Blk.box (taskC (tk2 l u))] } ∧
                Le
                  { nt := 121,
                    env :=
                      [(0, AVal.pv false (tasksP l)), (1, AVal.pv false (intsP u)),
                        (5,
                          AVal.pv false
                            (PV.cptr 7
                              (pvAt
                                [AVal.pv false (PV.int Go.IntKind.i64 (Lim.change x)),
                                  AVal.pv false (PV.int Go.IntKind.i64 (Lim.long x)),
                                  AVal.pv false (PV.int Go.IntKind.i64 (Lim.work x)),
                                  AVal.pv false (PV.int Go.IntKind.i64 (Lim.after x)),
                                  AVal.pv false (PV.int Go.IntKind.i64 (Lim.brk x)),
                                  AVal.pv false (PV.int Go.IntKind.i64 (Lim.rest x)),
                                  AVal.pv false (PV.int Go.IntKind.i64 (Lim.row x))])
                              0)),
                        (6, AVal.pv false (PV.int Go.IntKind.i64 0)), (7, AVal.ptr 1 0 0 0),
                        (8, AVal.ptr 0 0 0 0)],
                    heap :=
                      [Blk.box
                          [AVal.pv false
                              (PV.int Go.IntKind.i64
                                (Task.frm (List.getD l (Int.toNat (List.getD u (Int.toNat (Go.IntKind.wrap Go.IntKind.i64 ((↑(List.length u) : Int) - 1))) 0)) task0))),
                            AVal.pv false
                              (PV.int Go.IntKind.i64
                                (Task.to (List.getD l (Int.toNat (List.getD u (Int.toNat (Go.IntKind.wrap Go.IntKind.i64 ((↑(List.length u) : Int) - 1))) 0)) task0))),
                            AVal.pv false
                              (PV.int Go.IntKind.i64
                                (Task.dep (List.getD l (Int.toNat (List.getD u (Int.toNat (Go.IntKind.wrap Go.IntKind.i64 ((↑(List.length u) : Int) - 1))) 0)) task0))),
                            AVal.pv false
                              (PV.int Go.IntKind.i64
                                (Task.arr (List.getD l (Int.toNat (List.getD u (Int.toNat (Go.IntKind.wrap Go.IntKind.i64 ((↑(List.length u) : Int) - 1))) 0)) task0))),
                            AVal.pv false
                              (PV.int Go.IntKind.i64
                                (Task.km (List.getD l (Int.toNat (List.getD u (Int.toNat (Go.IntKind.wrap Go.IntKind.i64 ((↑(List.length u) : Int) - 1))) 0)) task0))),
                            AVal.pv false
                              (PV.int Go.IntKind.i64
                                (Task.units (List.getD l (Int.toNat (List.getD u (Int.toNat (Go.IntKind.wrap Go.IntKind.i64 ((↑(List.length u) : Int) - 1))) 0)) task0)))],
                        Blk.box
                          [AVal.pv false
                              (PV.int Go.IntKind.i64 (Task.frm (List.getD l (Int.toNat (List.getD u 0 0)) task0))),
                            AVal.pv false
                              (PV.int Go.IntKind.i64 (Task.to (List.getD l (Int.toNat (List.getD u 0 0)) task0))),
                            AVal.pv false
                              (PV.int Go.IntKind.i64 (Task.dep (List.getD l (Int.toNat (List.getD u 0 0)) task0))),
                            AVal.pv false
                              (PV.int Go.IntKind.i64 (Task.arr (List.getD l (Int.toNat (List.getD u 0 0)) task0))),
                            AVal.pv false
                              (PV.int Go.IntKind.i64 (Task.km (List.getD l (Int.toNat (List.getD u 0 0)) task0))),
                            AVal.pv false
                              (PV.int Go.IntKind.i64 (Task.units (List.getD l (Int.toNat (List.getD u 0 0)) task0)))]] }
                  { nt := 121,
                    env :=
                      [(0, AVal.pv false (tasksP l)), (1, AVal.pv false (intsP u)),
                        (5, limP x), (6, bI 0), (7, AVal.ptr 0 0 0 0), (8, AVal.ptr 1 0 0 0)],
                    heap :=
                      [Blk.box (taskC (tk1 l u)),
                        Blk.box (taskC (tk2 l u))] }) ∧
      LoopK
        (run Try.prog TT shpJ (f78_fl l u x)
          (sub [1, 1, 1, 1, 1, 0, 1, 0, 0] (bodyOf Try.f78)))
        (kont Try.prog TT shpJ (f78_fl l u x) [1, 1, 1, 1, 1, 0, 1, 0]
          (bodyOf Try.f78) (retQ TT (Go.Func.results Try.f78) K))
        { nt := 121,
          env :=
            [(0, AVal.pv false (tasksP l)), (1, AVal.pv false (intsP u)),
              (5, AVal.pv false (PV.cptr 7 (pvAt (limC x)) 0)), (7, AVal.ptr 0 0 0 0),
              (8, AVal.ptr 1 0 0 0), (9, AVal.pv false (PV.int Go.IntKind.i64 0)), (10, AVal.ptr 2 0 0 0),
              (11, AVal.ptr 3 0 0 0),
              (12,
                AVal.fn 128
                  [AVal.ptr 3 0 0 0, AVal.pv false (PV.cptr 7 (pvAt (limC x)) 0),
                    AVal.ptr 2 0 0 0]),
              (35, AVal.pv false (intsP u)),
              (36, AVal.pv false (PV.int Go.IntKind.i64 (↑(List.length u) : Int))),
              (37, AVal.pv false (PV.int Go.IntKind.i64 0))],
          heap :=
            [Blk.box (taskC (tk1 l u)), Blk.box (taskC (tk2 l u)),
              Blk.box [AVal.pv false (PV.int Go.IntKind.i64 0)],
              Blk.box [AVal.pv false (PV.int Go.IntKind.i64 (Task.dep (tk1 l u)))]] }) := by intros; kernel_rfl
theorem f78_body6 : ∀ (l : List Task) (u : List Int) (x : Lim) (i : Nat) (w b k : Int) (N : St → Prop) (X : Nat → St → Prop)
  (K : AVal → Prop),
  run Try.prog TT shpJ (f78_fl l u x)
      (sub [1, 1, 1, 1, 1, 0, 1, 0, 0] (bodyOf Try.f78))
      (cutQ [0, 1, 5, 7, 8, 9, 10, 11, 12, 35, 36, 37] [5, 7, 8, 9, 10, 12] 4 N X fun (s : St) =>
        retK TT (Go.Func.results Try.f78) s K)
      (f78_s6 l u x i w b k) =
    br (Decidable.decide ((↑i : Int) < (↑(List.length u) : Int)))
      ((0 ≤ (↑i : Int) ∧ (↑i : Int) < (↑(List.length u) : Int)) ∧
        (0 ≤ List.getD u (Int.toNat (↑i : Int)) 0 ∧ List.getD u (Int.toNat (↑i : Int)) 0 < (↑(List.length l) : Int)) ∧
          br (Decidable.decide ((↑i : Int) = 0))
            (N
              { nt := 121,
                env :=
                  [(0, AVal.pv false (tasksP l)), (1, AVal.pv false (intsP u)),
                    (5, AVal.pv false (PV.cptr 7 (pvAt (limC x)) 0)),
                    (7, AVal.ptr 0 0 0 0), (8, AVal.ptr 1 0 0 0),
                    (9,
                      AVal.pv false
                        (PV.int Go.IntKind.i64
                          (Go.IntKind.wrap Go.IntKind.i64
                            (w +
                              Go.IntKind.wrap Go.IntKind.i64
                                (Task.arr (List.getD l (Int.toNat (List.getD u (Int.toNat (↑i : Int)) 0)) task0) -
                                  Task.dep (List.getD l (Int.toNat (List.getD u (Int.toNat (↑i : Int)) 0)) task0)))))),
                    (10, AVal.ptr 2 0 0 0), (11, AVal.ptr 3 0 0 0),
                    (12, AVal.fn 128 [AVal.ptr 3 0 0 0, limP x, AVal.ptr 2 0 0 0]),
                    (35, AVal.pv false (intsP u)),
                    (36, AVal.pv false (PV.int Go.IntKind.i64 (↑(List.length u) : Int))),
                    (37, AVal.pv false (PV.int Go.IntKind.i64 (Go.IntKind.wrap Go.IntKind.i64 ((↑i : Int) + 1))))],
                heap :=
                  [Blk.box (taskC (tk1 l u)), Blk.box (taskC (tk2 l u)),
                    Blk.box [bI k], Blk.box [bI b]] })
            ((0 ≤ Go.IntKind.wrap Go.IntKind.i64 ((↑i : Int) - 1) ∧ Go.IntKind.wrap Go.IntKind.i64 ((↑i : Int) - 1) < (↑(List.length u) : Int)) ∧
              (0 ≤ List.getD u (Int.toNat (Go.IntKind.wrap Go.IntKind.i64 ((↑i : Int) - 1))) 0 ∧ List.getD u (Int.toNat (Go.IntKind.wrap Go.IntKind.i64 ((↑i : Int) - 1))) 0 < (↑(List.length l) : Int)) ∧
                br
                  (!Decidable.decide
                      (Task.frm (List.getD l (Int.toNat (List.getD u (Int.toNat (↑i : Int)) 0)) task0) =
                        Task.to (List.getD l (Int.toNat (List.getD u (Int.toNat (Go.IntKind.wrap Go.IntKind.i64 ((↑i : Int) - 1))) 0)) task0)))
                  (K (AVal.pv false (PV.int Go.IntKind.i64 1)))
                  (br
                    (Decidable.decide
                      (Task.dep (List.getD l (Int.toNat (List.getD u (Int.toNat (↑i : Int)) 0)) task0) <
                        Go.IntKind.wrap Go.IntKind.i64
                          (Task.arr (List.getD l (Int.toNat (List.getD u (Int.toNat (Go.IntKind.wrap Go.IntKind.i64 ((↑i : Int) - 1))) 0)) task0) +
                            Lim.change x)))
                    (K (AVal.pv false (PV.int Go.IntKind.i64 1)))
                    (br
                      (Decidable.decide
                        (Lim.brk x ≤
                          Go.IntKind.wrap Go.IntKind.i64
                            (Task.dep (List.getD l (Int.toNat (List.getD u (Int.toNat (↑i : Int)) 0)) task0) -
                              Task.arr (List.getD l (Int.toNat (List.getD u (Int.toNat (Go.IntKind.wrap Go.IntKind.i64 ((↑i : Int) - 1))) 0)) task0))))
                      (CallT Try.prog (shpJ 128) 128
                        [AVal.pv false
                            (PV.int Go.IntKind.i64
                              (Task.arr (List.getD l (Int.toNat (List.getD u (Int.toNat (Go.IntKind.wrap Go.IntKind.i64 ((↑i : Int) - 1))) 0)) task0))),
                          AVal.ptr 0 0 0 0, AVal.pv false (PV.cptr 7 (pvAt (limC x)) 0),
                          AVal.ptr 1 0 0 0]
                        [Blk.box [AVal.pv false (PV.int Go.IntKind.i64 b)],
                          Blk.box [AVal.pv false (PV.int Go.IntKind.i64 k)]]
                        fun (x_1 : Int × Int) =>
                        N
                          { nt := 121,
                            env :=
                              [(0, AVal.pv false (tasksP l)), (1, AVal.pv false (intsP u)),
                                (5, AVal.pv false (PV.cptr 7 (pvAt (limC x)) 0)),
                                (7, AVal.ptr 0 0 0 0), (8, AVal.ptr 1 0 0 0),
                                (9,
                                  AVal.pv false
                                    (PV.int Go.IntKind.i64
                                      (Go.IntKind.wrap Go.IntKind.i64
                                        (w +
                                          Go.IntKind.wrap Go.IntKind.i64
                                            (Task.arr (List.getD l (Int.toNat (List.getD u (Int.toNat (↑i : Int)) 0)) task0) -
                                              Task.dep (List.getD l (Int.toNat (List.getD u (Int.toNat (↑i : Int)) 0)) task0)))))),
                                (10, AVal.ptr 2 0 0 0), (11, AVal.ptr 3 0 0 0),
                                (12, AVal.fn 128 [AVal.ptr 3 0 0 0, limP x, AVal.ptr 2 0 0 0]),
                                (35, AVal.pv false (intsP u)),
                                (36, AVal.pv false (PV.int Go.IntKind.i64 (↑(List.length u) : Int))),
                                (37, AVal.pv false (PV.int Go.IntKind.i64 (Go.IntKind.wrap Go.IntKind.i64 ((↑i : Int) + 1))))],
                            heap :=
                              [Blk.box (taskC (tk1 l u)),
                                Blk.box (taskC (tk2 l u)),
                                Blk.box [AVal.pv false (PV.int Go.IntKind.i64 (Prod.snd x_1))],
                                Blk.box
                                  [AVal.pv false
                                      (PV.int Go.IntKind.i64 (Task.dep (List.getD l (Int.toNat (List.getD u (Int.toNat (↑i : Int)) 0)) task0)))]] })
                      (N
                        { nt := 121,
                          env :=
                            [(0, AVal.pv false (tasksP l)), (1, AVal.pv false (intsP u)),
                              (5, AVal.pv false (PV.cptr 7 (pvAt (limC x)) 0)),
                              (7, AVal.ptr 0 0 0 0), (8, AVal.ptr 1 0 0 0),
                              (9,
                                AVal.pv false
                                  (PV.int Go.IntKind.i64
                                    (Go.IntKind.wrap Go.IntKind.i64
                                      (w +
                                        Go.IntKind.wrap Go.IntKind.i64
                                          (Task.arr (List.getD l (Int.toNat (List.getD u (Int.toNat (↑i : Int)) 0)) task0) -
                                            Task.dep (List.getD l (Int.toNat (List.getD u (Int.toNat (↑i : Int)) 0)) task0)))))),
                              (10, AVal.ptr 2 0 0 0), (11, AVal.ptr 3 0 0 0),
                              (12, AVal.fn 128 [AVal.ptr 3 0 0 0, limP x, AVal.ptr 2 0 0 0]),
                              (35, AVal.pv false (intsP u)),
                              (36, AVal.pv false (PV.int Go.IntKind.i64 (↑(List.length u) : Int))),
                              (37, AVal.pv false (PV.int Go.IntKind.i64 (Go.IntKind.wrap Go.IntKind.i64 ((↑i : Int) + 1))))],
                          heap :=
                            [Blk.box (taskC (tk1 l u)),
                              Blk.box (taskC (tk2 l u)), Blk.box [bI k],
                              Blk.box [bI b]] })))))
      (X 0
        { nt := 121,
          env :=
            [(5, AVal.pv false (PV.cptr 7 (pvAt (limC x)) 0)), (7, AVal.ptr 0 0 0 0),
              (8, AVal.ptr 1 0 0 0), (9, AVal.pv false (PV.int Go.IntKind.i64 w)), (10, AVal.ptr 2 0 0 0),
              (12, AVal.fn 128 [AVal.ptr 3 0 0 0, limP x, AVal.ptr 2 0 0 0])],
          heap :=
            [Blk.box (taskC (tk1 l u)), Blk.box (taskC (tk2 l u)),
              Blk.box [bI k], Blk.box [bI b]] }) := by intros; kernel_rfl
theorem f78_exit6_0 : ∀ (l : List Task) (u : List Int) (x : Lim) (i : Nat) (w b k : Int) (K : AVal → Prop),
  kont Try.prog TT shpJ (f78_fl l u x) [1, 1, 1, 1, 1, 0, 1, 0]
      (bodyOf Try.f78) (retQ TT (Go.Func.results Try.f78) K) (Go.Exit.exit 0)
      { nt := 121,
        env :=
          [(5, limP x), (7, AVal.ptr 0 0 0 0), (8, AVal.ptr 1 0 0 0), (9, bI w),
            (10, AVal.ptr 2 0 0 0),
            (12, AVal.fn 128 [AVal.ptr 3 0 0 0, limP x, AVal.ptr 2 0 0 0])],
        heap :=
          [Blk.box (taskC (tk1 l u)), Blk.box (taskC (tk2 l u)),
            Blk.box [bI k], Blk.box [bI b]] } =
    CallT Try.prog (shpJ 128) 128
      [AVal.pv false (PV.int Go.IntKind.i64 (Task.arr (tk2 l u))), AVal.ptr 0 0 0 0,
        AVal.pv false (PV.cptr 7 (pvAt (limC x)) 0), AVal.ptr 1 0 0 0]
      [Blk.box [AVal.pv false (PV.int Go.IntKind.i64 b)],
        Blk.box [AVal.pv false (PV.int Go.IntKind.i64 k)]]
      fun (x_1 : Int × Int) =>
      br
        (Decidable.decide
          (Lim.long x < Go.IntKind.wrap Go.IntKind.i64 (Task.arr (tk2 l u) - Task.dep (tk1 l u))))
        (K (AVal.pv false (PV.int Go.IntKind.i64 2)))
        (br (Decidable.decide (Lim.work x < w)) (K (AVal.pv false (PV.int Go.IntKind.i64 3)))
          (br (Decidable.decide (0 < Prod.snd x_1)) (K (AVal.pv false (PV.int Go.IntKind.i64 (Prod.snd x_1))))
            (br (!Decidable.decide (Task.to (tk2 l u) = Task.frm (tk1 l u)))
              (K (AVal.pv false (PV.int Go.IntKind.i64 5))) (K (AVal.pv false (PV.int Go.IntKind.i64 0)))))) := by intros; kernel_rfl
theorem f128_tree : ∀ (a : Int) (x : Lim) (b k : Int) (pin : Nat → Nat) (K : (Nat → Nat) → AVal → List Blk → Prop),
  run Try.prog TT shpJ f128_fl (bodyOf Try.f128)
      (retQM TT (Go.Func.results Try.f128) 2 K)
      (entryM (Go.Func.ntmps Try.f128)
        [bI a, AVal.ptr 0 0 0 0, limP x, AVal.ptr 1 0 0 0]
        [Blk.box [bI b], Blk.box [bI k]] 2 pin) =
    br (Decidable.decide (Lim.after x < Go.IntKind.wrap Go.IntKind.i64 (a - b)))
      (K pin (AVal.tup [])
        [Blk.box [bI b], Blk.box [AVal.pv false (PV.int Go.IntKind.i64 4)]])
      (K pin (AVal.tup []) [Blk.box [bI b], Blk.box [bI k]]) := by intros; kernel_rfl
theorem f79_tree : ∀ (l : List Task) (u : List Int) (x : Lim) (K : AVal → Prop),
  run Try.prog TT shpJ (f79_fl l u x) (bodyOf Try.f79)
      (retQ TT (Go.Func.results Try.f79) K)
      (entry (Go.Func.ntmps Try.f79)
        [AVal.pv false (tasksP l), AVal.pv false (intsP u), limV x]) =
    (((Int.ofNat 0 ≤ Int.ofNat 0 ∧ 0 < (↑(List.length u) : Int)) ∧
        (0 ≤ List.getD u 0 0 ∧ List.getD u 0 0 < (↑(List.length l) : Int)) ∧
          (0 ≤ Go.IntKind.wrap Go.IntKind.i64 ((↑(List.length u) : Int) - 1) ∧ Go.IntKind.wrap Go.IntKind.i64 ((↑(List.length u) : Int) - 1) < (↑(List.length u) : Int)) ∧
            (0 ≤ List.getD u (Int.toNat (Go.IntKind.wrap Go.IntKind.i64 ((↑(List.length u) : Int) - 1))) 0 ∧ List.getD u (Int.toNat (Go.IntKind.wrap Go.IntKind.i64 ((↑(List.length u) : Int) - 1))) 0 < (↑(List.length l) : Int)) ∧
              Le
                  { nt := 168,
                    env :=
                      [(0, AVal.pv false (tasksP l)), (1, AVal.pv false (intsP u)),
                        (5,
                          AVal.pv false
                            (PV.cptr 7
                              (pvAt
                                [AVal.pv false (PV.int Go.IntKind.i64 (Lim.change x)),
                                  AVal.pv false (PV.int Go.IntKind.i64 (Lim.long x)),
                                  AVal.pv false (PV.int Go.IntKind.i64 (Lim.work x)),
                                  AVal.pv false (PV.int Go.IntKind.i64 (Lim.after x)),
                                  AVal.pv false (PV.int Go.IntKind.i64 (Lim.brk x)),
                                  AVal.pv false (PV.int Go.IntKind.i64 (Lim.rest x)),
                                  AVal.pv false (PV.int Go.IntKind.i64 (Lim.row x))])
                              0)),
                        (6, AVal.pv false (PV.int Go.IntKind.i64 0)), (7, AVal.ptr 0 0 0 0),
                        (8, AVal.ptr 1 0 0 0)],
                    heap :=
                      [Blk.box
                          [AVal.pv false
                              (PV.int Go.IntKind.i64 (Task.frm (List.getD l (Int.toNat (List.getD u 0 0)) task0))),
                            AVal.pv false
                              (PV.int Go.IntKind.i64 (Task.to (List.getD l (Int.toNat (List.getD u 0 0)) task0))),
                            AVal.pv false
                              (PV.int Go.IntKind.i64 (Task.dep (List.getD l (Int.toNat (List.getD u 0 0)) task0))),
                            AVal.pv false
                              (PV.int Go.IntKind.i64 (Task.arr (List.getD l (Int.toNat (List.getD u 0 0)) task0))),
                            AVal.pv false
                              (PV.int Go.IntKind.i64 (Task.km (List.getD l (Int.toNat (List.getD u 0 0)) task0))),
                            AVal.pv false
                              (PV.int Go.IntKind.i64 (Task.units (List.getD l (Int.toNat (List.getD u 0 0)) task0)))],
                        Blk.box
                          [AVal.pv false
                              (PV.int Go.IntKind.i64
                                (Task.frm (List.getD l (Int.toNat (List.getD u (Int.toNat (Go.IntKind.wrap Go.IntKind.i64 ((↑(List.length u) : Int) - 1))) 0)) task0))),
                            AVal.pv false
                              (PV.int Go.IntKind.i64
                                (Task.to (List.getD l (Int.toNat (List.getD u (Int.toNat (Go.IntKind.wrap Go.IntKind.i64 ((↑(List.length u) : Int) - 1))) 0)) task0))),
                            AVal.pv false
                              (PV.int Go.IntKind.i64
                                (Task.dep (List.getD l (Int.toNat (List.getD u (Int.toNat (Go.IntKind.wrap Go.IntKind.i64 ((↑(List.length u) : Int) - 1))) 0)) task0))),
                            AVal.pv false
                              (PV.int Go.IntKind.i64
                                (Task.arr (List.getD l (Int.toNat (List.getD u (Int.toNat (Go.IntKind.wrap Go.IntKind.i64 ((↑(List.length u) : Int) - 1))) 0)) task0))),
                            AVal.pv false
                              (PV.int Go.IntKind.i64
                                (Task.km (List.getD l (Int.toNat (List.getD u (Int.toNat (Go.IntKind.wrap Go.IntKind.i64 ((↑(List.length u) : Int) - 1))) 0)) task0))),
                            AVal.pv false
                              (PV.int Go.IntKind.i64
                                (Task.units (List.getD l (Int.toNat (List.getD u (Int.toNat (Go.IntKind.wrap Go.IntKind.i64 ((↑(List.length u) : Int) - 1))) 0)) task0)))]] }
                  { nt := 168,
                    env :=
                      [(0, AVal.pv false (tasksP l)), (1, AVal.pv false (intsP u)),
                        (5, limP x), (6, bI 0), (7, AVal.ptr 0 0 0 0), (8, AVal.ptr 1 0 0 0)],
                    heap :=
                      [Blk.box (taskC (tk1 l u)),
                        Blk.box (taskC (tk2 l u))] } ∧
                Le
                  { nt := 168,
                    env :=
                      [(0, AVal.pv false (tasksP l)), (1, AVal.pv false (intsP u)),
                        (5,
                          AVal.pv false
                            (PV.cptr 7
                              (pvAt
                                [AVal.pv false (PV.int Go.IntKind.i64 (Lim.change x)),
                                  AVal.pv false (PV.int Go.IntKind.i64 (Lim.long x)),
                                  AVal.pv false (PV.int Go.IntKind.i64 (Lim.work x)),
                                  AVal.pv false (PV.int Go.IntKind.i64 (Lim.after x)),
                                  AVal.pv false (PV.int Go.IntKind.i64 (Lim.brk x)),
                                  AVal.pv false (PV.int Go.IntKind.i64 (Lim.rest x)),
                                  AVal.pv false (PV.int Go.IntKind.i64 (Lim.row x))])
                              0)),
                        (6, AVal.pv false (PV.int Go.IntKind.i64 0)), (7, AVal.ptr 1 0 0 0),
                        (8, AVal.ptr 0 0 0 0)],
                    heap :=
                      [Blk.box
                          [AVal.pv false
                              (PV.int Go.IntKind.i64
                                (Task.frm (List.getD l (Int.toNat (List.getD u (Int.toNat (Go.IntKind.wrap Go.IntKind.i64 ((↑(List.length u) : Int) - 1))) 0)) task0))),
                            AVal.pv false
                              (PV.int Go.IntKind.i64
                                (Task.to (List.getD l (Int.toNat (List.getD u (Int.toNat (Go.IntKind.wrap Go.IntKind.i64 ((↑(List.length u) : Int) - 1))) 0)) task0))),
                            AVal.pv false
                              (PV.int Go.IntKind.i64
                                (Task.dep (List.getD l (Int.toNat (List.getD u (Int.toNat (Go.IntKind.wrap Go.IntKind.i64 ((↑(List.length u) : Int) - 1))) 0)) task0))),
                            AVal.pv false
                              (PV.int Go.IntKind.i64
                                (Task.arr (List.getD l (Int.toNat (List.getD u (Int.toNat (Go.IntKind.wrap Go.IntKind.i64 ((↑(List.length u) : Int) - 1))) 0)) task0))),
                            AVal.pv false
                              (PV.int Go.IntKind.i64
                                (Task.km (List.getD l (Int.toNat (List.getD u (Int.toNat (Go.IntKind.wrap Go.IntKind.i64 ((↑(List.length u) : Int) - 1))) 0)) task0))),
                            AVal.pv false
                              (PV.int Go.IntKind.i64
                                (Task.units (List.getD l (Int.toNat (List.getD u (Int.toNat (Go.IntKind.wrap Go.IntKind.i64 ((↑(List.length u) : Int) - 1))) 0)) task0)))],
                        Blk.box
                          [AVal.pv false
                              (PV.int Go.IntKind.i64 (Task.frm (List.getD l (Int.toNat (List.getD u 0 0)) task0))),
                            AVal.pv false
                              (PV.int Go.IntKind.i64 (Task.to (List.getD l (Int.toNat (List.getD u 0 0)) task0))),
                            AVal.pv false
                              (PV.int Go.IntKind.i64 (Task.dep (List.getD l (Int.toNat (List.getD u 0 0)) task0))),
                            AVal.pv false
                              (PV.int Go.IntKind.i64 (Task.arr (List.getD l (Int.toNat (List.getD u 0 0)) task0))),
                            AVal.pv false
                              (PV.int Go.IntKind.i64 (Task.km (List.getD l (Int.toNat (List.getD u 0 0)) task0))),
                            AVal.pv false
                              (PV.int Go.IntKind.i64 (Task.units (List.getD l (Int.toNat (List.getD u 0 0)) task0)))]] }
                  { nt := 168,
                    env :=
                      [(0, AVal.pv false (tasksP l)), (1, AVal.pv false (intsP u)),
                        (5, limP x), (6, bI 0), (7, AVal.ptr 0 0 0 0), (8, AVal.ptr 1 0 0 0)],
                    heap :=
                      [Blk.box (taskC (tk1 l u)),
                        Blk.box (taskC (tk2 l u))] }) ∧
      LoopK
        (run Try.prog TT shpJ (f79_fl l u x)
          (sub [1, 1, 1, 0, 1, 0, 0] (bodyOf Try.f79)))
        (kont Try.prog TT shpJ (f79_fl l u x) [1, 1, 1, 0, 1, 0]
          (bodyOf Try.f79) (retQ TT (Go.Func.results Try.f79) K))
        { nt := 168,
          env :=
            [(0, AVal.pv false (tasksP l)), (1, AVal.pv false (intsP u)),
              (5, AVal.pv false (PV.cptr 7 (pvAt (limC x)) 0)), (7, AVal.ptr 0 0 0 0),
              (8, AVal.ptr 1 0 0 0), (9, AVal.pv false (PV.int Go.IntKind.i64 0)),
              (32, AVal.pv false (intsP u)),
              (33, AVal.pv false (PV.int Go.IntKind.i64 (↑(List.length u) : Int))),
              (34, AVal.pv false (PV.int Go.IntKind.i64 0))],
          heap :=
            [Blk.box (taskC (tk1 l u)), Blk.box (taskC (tk2 l u))] }) := by intros; kernel_rfl
theorem f79_body4 : ∀ (l : List Task) (u : List Int) (x : Lim) (i : Nat) (w : Int) (N : St → Prop) (X : Nat → St → Prop)
  (K : AVal → Prop),
  run Try.prog TT shpJ (f79_fl l u x)
      (sub [1, 1, 1, 0, 1, 0, 0] (bodyOf Try.f79))
      (cutQ [0, 1, 5, 7, 8, 9, 32, 33, 34] [0, 1, 5, 7, 8, 9] 2 N X fun (s : St) =>
        retK TT (Go.Func.results Try.f79) s K)
      (f79_s4 l u x i w) =
    br (Decidable.decide ((↑i : Int) < (↑(List.length u) : Int)))
      ((0 ≤ (↑i : Int) ∧ (↑i : Int) < (↑(List.length u) : Int)) ∧
        (0 ≤ List.getD u (Int.toNat (↑i : Int)) 0 ∧ List.getD u (Int.toNat (↑i : Int)) 0 < (↑(List.length l) : Int)) ∧
          (0 ≤ List.getD u (Int.toNat (↑i : Int)) 0 ∧ List.getD u (Int.toNat (↑i : Int)) 0 < (↑(List.length l) : Int)) ∧
            br (Decidable.decide (0 < (↑i : Int)))
              ((0 ≤ Go.IntKind.wrap Go.IntKind.i64 ((↑i : Int) - 1) ∧ Go.IntKind.wrap Go.IntKind.i64 ((↑i : Int) - 1) < (↑(List.length u) : Int)) ∧
                (0 ≤ List.getD u (Int.toNat (Go.IntKind.wrap Go.IntKind.i64 ((↑i : Int) - 1))) 0 ∧ List.getD u (Int.toNat (Go.IntKind.wrap Go.IntKind.i64 ((↑i : Int) - 1))) 0 < (↑(List.length l) : Int)) ∧
                  (0 ≤ List.getD u (Int.toNat (↑i : Int)) 0 ∧ List.getD u (Int.toNat (↑i : Int)) 0 < (↑(List.length l) : Int)) ∧
                    br
                      (!Decidable.decide
                          (Task.to (List.getD l (Int.toNat (List.getD u (Int.toNat (Go.IntKind.wrap Go.IntKind.i64 ((↑i : Int) - 1))) 0)) task0) =
                            Task.frm (List.getD l (Int.toNat (List.getD u (Int.toNat (↑i : Int)) 0)) task0)))
                      (K (AVal.pv false (PV.int Go.IntKind.i64 1)))
                      ((0 ≤ List.getD u (Int.toNat (↑i : Int)) 0 ∧ List.getD u (Int.toNat (↑i : Int)) 0 < (↑(List.length l) : Int)) ∧
                        br
                          (Decidable.decide
                            (Task.dep (List.getD l (Int.toNat (List.getD u (Int.toNat (↑i : Int)) 0)) task0) <
                              Go.IntKind.wrap Go.IntKind.i64
                                (Task.arr (List.getD l (Int.toNat (List.getD u (Int.toNat (Go.IntKind.wrap Go.IntKind.i64 ((↑i : Int) - 1))) 0)) task0) +
                                  Lim.change x)))
                          (K (AVal.pv false (PV.int Go.IntKind.i64 1)))
                          (N
                            { nt := 168,
                              env :=
                                [(0, AVal.pv false (tasksP l)), (1, AVal.pv false (intsP u)),
                                  (5, AVal.pv false (PV.cptr 7 (pvAt (limC x)) 0)),
                                  (7, AVal.ptr 0 0 0 0), (8, AVal.ptr 1 0 0 0),
                                  (9,
                                    AVal.pv false
                                      (PV.int Go.IntKind.i64
                                        (Go.IntKind.wrap Go.IntKind.i64
                                          (w +
                                            Go.IntKind.wrap Go.IntKind.i64
                                              (Task.arr (List.getD l (Int.toNat (List.getD u (Int.toNat (↑i : Int)) 0)) task0) -
                                                Task.dep (List.getD l (Int.toNat (List.getD u (Int.toNat (↑i : Int)) 0)) task0)))))),
                                  (32, AVal.pv false (intsP u)),
                                  (33, AVal.pv false (PV.int Go.IntKind.i64 (↑(List.length u) : Int))),
                                  (34, AVal.pv false (PV.int Go.IntKind.i64 (Go.IntKind.wrap Go.IntKind.i64 ((↑i : Int) + 1))))],
                              heap :=
                                [Blk.box (taskC (tk1 l u)),
                                  Blk.box (taskC (tk2 l u))] })))
              (N
                { nt := 168,
                  env :=
                    [(0, AVal.pv false (tasksP l)), (1, AVal.pv false (intsP u)),
                      (5, AVal.pv false (PV.cptr 7 (pvAt (limC x)) 0)),
                      (7, AVal.ptr 0 0 0 0), (8, AVal.ptr 1 0 0 0),
                      (9,
                        AVal.pv false
                          (PV.int Go.IntKind.i64
                            (Go.IntKind.wrap Go.IntKind.i64
                              (w +
                                Go.IntKind.wrap Go.IntKind.i64
                                  (Task.arr (List.getD l (Int.toNat (List.getD u (Int.toNat (↑i : Int)) 0)) task0) -
                                    Task.dep (List.getD l (Int.toNat (List.getD u (Int.toNat (↑i : Int)) 0)) task0)))))),
                      (32, AVal.pv false (intsP u)),
                      (33, AVal.pv false (PV.int Go.IntKind.i64 (↑(List.length u) : Int))),
                      (34, AVal.pv false (PV.int Go.IntKind.i64 (Go.IntKind.wrap Go.IntKind.i64 ((↑i : Int) + 1))))],
                  heap :=
                    [Blk.box (taskC (tk1 l u)),
                      Blk.box (taskC (tk2 l u))] }))
      (X 0
        { nt := 168,
          env :=
            [(0, AVal.pv false (tasksP l)), (1, AVal.pv false (intsP u)),
              (5, AVal.pv false (PV.cptr 7 (pvAt (limC x)) 0)), (7, AVal.ptr 0 0 0 0),
              (8, AVal.ptr 1 0 0 0), (9, AVal.pv false (PV.int Go.IntKind.i64 w))],
          heap :=
            [Blk.box (taskC (tk1 l u)), Blk.box (taskC (tk2 l u))] }) := by intros; kernel_rfl
theorem f79_exit4_0 : ∀ (l : List Task) (u : List Int) (x : Lim) (i : Nat) (w : Int) (K : AVal → Prop),
  kont Try.prog TT shpJ (f79_fl l u x) [1, 1, 1, 0, 1, 0] (bodyOf Try.f79)
      (retQ TT (Go.Func.results Try.f79) K) (Go.Exit.exit 0)
      { nt := 168,
        env :=
          [(0, AVal.pv false (tasksP l)), (1, AVal.pv false (intsP u)), (5, limP x),
            (7, AVal.ptr 0 0 0 0), (8, AVal.ptr 1 0 0 0), (9, bI w)],
        heap :=
          [Blk.box (taskC (tk1 l u)), Blk.box (taskC (tk2 l u))] } =
    br
      (Decidable.decide
        (Lim.long x < Go.IntKind.wrap Go.IntKind.i64 (Task.arr (tk2 l u) - Task.dep (tk1 l u))))
      (K (AVal.pv false (PV.int Go.IntKind.i64 2)))
      (br (Decidable.decide (Lim.work x < w)) (K (AVal.pv false (PV.int Go.IntKind.i64 3)))
        (LoopK
          (run Try.prog TT shpJ (f79_fl l u x)
            (sub [1, 1, 1, 1, 1, 1, 0, 1, 0, 0] (bodyOf Try.f79)))
          (kont Try.prog TT shpJ (f79_fl l u x) [1, 1, 1, 1, 1, 1, 0, 1, 0]
            (bodyOf Try.f79) (retQ TT (Go.Func.results Try.f79) K))
          { nt := 168,
            env :=
              [(0, AVal.pv false (tasksP l)), (1, AVal.pv false (intsP u)),
                (5, AVal.pv false (PV.cptr 7 (pvAt (limC x)) 0)), (7, AVal.ptr 0 0 0 0),
                (8, AVal.ptr 1 0 0 0),
                (13, AVal.pv false (PV.int Go.IntKind.i64 (Task.dep (tk1 l u)))),
                (100, AVal.pv false (intsP u)),
                (101, AVal.pv false (PV.int Go.IntKind.i64 (↑(List.length u) : Int))),
                (102, AVal.pv false (PV.int Go.IntKind.i64 0))],
            heap :=
              [Blk.box (taskC (tk1 l u)), Blk.box (taskC (tk2 l u))] })) := by intros; kernel_rfl
theorem f79_body18 : ∀ (l : List Task) (u : List Int) (x : Lim) (i : Nat) (b : Int) (N : St → Prop) (X : Nat → St → Prop)
  (K : AVal → Prop),
  run Try.prog TT shpJ (f79_fl l u x)
      (sub [1, 1, 1, 1, 1, 1, 0, 1, 0, 0] (bodyOf Try.f79))
      (cutQ [0, 1, 5, 7, 8, 13, 100, 101, 102] [7, 8] 2 N X fun (s : St) =>
        retK TT (Go.Func.results Try.f79) s K)
      (f79_s18 l u x i b) =
    br (Decidable.decide ((↑i : Int) < (↑(List.length u) : Int)))
      ((0 ≤ (↑i : Int) ∧ (↑i : Int) < (↑(List.length u) : Int)) ∧
        br (Decidable.decide (Go.IntKind.wrap Go.IntKind.i64 ((↑i : Int) + 1) < (↑(List.length u) : Int)))
          ((0 ≤ Go.IntKind.wrap Go.IntKind.i64 ((↑i : Int) + 1) ∧ Go.IntKind.wrap Go.IntKind.i64 ((↑i : Int) + 1) < (↑(List.length u) : Int)) ∧
            (0 ≤ List.getD u (Int.toNat (Go.IntKind.wrap Go.IntKind.i64 ((↑i : Int) + 1))) 0 ∧ List.getD u (Int.toNat (Go.IntKind.wrap Go.IntKind.i64 ((↑i : Int) + 1))) 0 < (↑(List.length l) : Int)) ∧
              (0 ≤ List.getD u (Int.toNat (↑i : Int)) 0 ∧ List.getD u (Int.toNat (↑i : Int)) 0 < (↑(List.length l) : Int)) ∧
                br
                  (Decidable.decide
                    (Lim.brk x ≤
                      Go.IntKind.wrap Go.IntKind.i64
                        (Task.dep (List.getD l (Int.toNat (List.getD u (Int.toNat (Go.IntKind.wrap Go.IntKind.i64 ((↑i : Int) + 1))) 0)) task0) -
                          Task.arr (List.getD l (Int.toNat (List.getD u (Int.toNat (↑i : Int)) 0)) task0))))
                  ((0 ≤ List.getD u (Int.toNat (↑i : Int)) 0 ∧ List.getD u (Int.toNat (↑i : Int)) 0 < (↑(List.length l) : Int)) ∧
                    br
                      (Decidable.decide
                        (Lim.after x < Go.IntKind.wrap Go.IntKind.i64 (Task.arr (List.getD l (Int.toNat (List.getD u (Int.toNat (↑i : Int)) 0)) task0) - b)))
                      (K (AVal.pv false (PV.int Go.IntKind.i64 4)))
                      (br
                        (Decidable.decide
                          (Lim.brk x ≤
                            Go.IntKind.wrap Go.IntKind.i64
                              (Task.dep (List.getD l (Int.toNat (List.getD u (Int.toNat (Go.IntKind.wrap Go.IntKind.i64 ((↑i : Int) + 1))) 0)) task0) -
                                Task.arr (List.getD l (Int.toNat (List.getD u (Int.toNat (↑i : Int)) 0)) task0))))
                        ((0 ≤ Go.IntKind.wrap Go.IntKind.i64 ((↑i : Int) + 1) ∧ Go.IntKind.wrap Go.IntKind.i64 ((↑i : Int) + 1) < (↑(List.length u) : Int)) ∧
                          (0 ≤ List.getD u (Int.toNat (Go.IntKind.wrap Go.IntKind.i64 ((↑i : Int) + 1))) 0 ∧ List.getD u (Int.toNat (Go.IntKind.wrap Go.IntKind.i64 ((↑i : Int) + 1))) 0 < (↑(List.length l) : Int)) ∧
                            N
                              { nt := 168,
                                env :=
                                  [(0, AVal.pv false (tasksP l)), (1, AVal.pv false (intsP u)),
                                    (5, AVal.pv false (PV.cptr 7 (pvAt (limC x)) 0)),
                                    (7, AVal.ptr 0 0 0 0), (8, AVal.ptr 1 0 0 0),
                                    (13,
                                      AVal.pv false
                                        (PV.int Go.IntKind.i64
                                          (Task.dep (List.getD l (Int.toNat (List.getD u (Int.toNat (Go.IntKind.wrap Go.IntKind.i64 ((↑i : Int) + 1))) 0)) task0)))),
                                    (100, AVal.pv false (intsP u)),
                                    (101, AVal.pv false (PV.int Go.IntKind.i64 (↑(List.length u) : Int))),
                                    (102, AVal.pv false (PV.int Go.IntKind.i64 (Go.IntKind.wrap Go.IntKind.i64 ((↑i : Int) + 1))))],
                                heap :=
                                  [Blk.box (taskC (tk1 l u)),
                                    Blk.box (taskC (tk2 l u))] })
                        (N
                          { nt := 168,
                            env :=
                              [(0, AVal.pv false (tasksP l)), (1, AVal.pv false (intsP u)),
                                (5, AVal.pv false (PV.cptr 7 (pvAt (limC x)) 0)),
                                (7, AVal.ptr 0 0 0 0), (8, AVal.ptr 1 0 0 0),
                                (13, AVal.pv false (PV.int Go.IntKind.i64 b)), (100, AVal.pv false (intsP u)),
                                (101, AVal.pv false (PV.int Go.IntKind.i64 (↑(List.length u) : Int))),
                                (102, AVal.pv false (PV.int Go.IntKind.i64 (Go.IntKind.wrap Go.IntKind.i64 ((↑i : Int) + 1))))],
                            heap :=
                              [Blk.box (taskC (tk1 l u)),
                                Blk.box (taskC (tk2 l u))] })))
                  (br (Decidable.decide (Go.IntKind.wrap Go.IntKind.i64 ((↑i : Int) + 1) = (↑(List.length u) : Int)))
                    ((0 ≤ List.getD u (Int.toNat (↑i : Int)) 0 ∧ List.getD u (Int.toNat (↑i : Int)) 0 < (↑(List.length l) : Int)) ∧
                      br
                        (Decidable.decide
                          (Lim.after x < Go.IntKind.wrap Go.IntKind.i64 (Task.arr (List.getD l (Int.toNat (List.getD u (Int.toNat (↑i : Int)) 0)) task0) - b)))
                        (K (AVal.pv false (PV.int Go.IntKind.i64 4)))
                        (br
                          (Decidable.decide
                            (Lim.brk x ≤
                              Go.IntKind.wrap Go.IntKind.i64
                                (Task.dep (List.getD l (Int.toNat (List.getD u (Int.toNat (Go.IntKind.wrap Go.IntKind.i64 ((↑i : Int) + 1))) 0)) task0) -
                                  Task.arr (List.getD l (Int.toNat (List.getD u (Int.toNat (↑i : Int)) 0)) task0))))
                          ((0 ≤ Go.IntKind.wrap Go.IntKind.i64 ((↑i : Int) + 1) ∧ Go.IntKind.wrap Go.IntKind.i64 ((↑i : Int) + 1) < (↑(List.length u) : Int)) ∧
                            (0 ≤ List.getD u (Int.toNat (Go.IntKind.wrap Go.IntKind.i64 ((↑i : Int) + 1))) 0 ∧ List.getD u (Int.toNat (Go.IntKind.wrap Go.IntKind.i64 ((↑i : Int) + 1))) 0 < (↑(List.length l) : Int)) ∧
                              N
                                { nt := 168,
                                  env :=
                                    [(0, AVal.pv false (tasksP l)), (1, AVal.pv false (intsP u)),
                                      (5, AVal.pv false (PV.cptr 7 (pvAt (limC x)) 0)),
                                      (7, AVal.ptr 0 0 0 0), (8, AVal.ptr 1 0 0 0),
                                      (13,
                                        AVal.pv false
                                          (PV.int Go.IntKind.i64
                                            (Task.dep (List.getD l (Int.toNat (List.getD u (Int.toNat (Go.IntKind.wrap Go.IntKind.i64 ((↑i : Int) + 1))) 0)) task0)))),
                                      (100, AVal.pv false (intsP u)),
                                      (101, AVal.pv false (PV.int Go.IntKind.i64 (↑(List.length u) : Int))),
                                      (102, AVal.pv false (PV.int Go.IntKind.i64 (Go.IntKind.wrap Go.IntKind.i64 ((↑i : Int) + 1))))],
                                  heap :=
                                    [Blk.box (taskC (tk1 l u)),
                                      Blk.box (taskC (tk2 l u))] })
                          (N
                            { nt := 168,
                              env :=
                                [(0, AVal.pv false (tasksP l)), (1, AVal.pv false (intsP u)),
                                  (5, AVal.pv false (PV.cptr 7 (pvAt (limC x)) 0)),
                                  (7, AVal.ptr 0 0 0 0), (8, AVal.ptr 1 0 0 0),
                                  (13, AVal.pv false (PV.int Go.IntKind.i64 b)), (100, AVal.pv false (intsP u)),
                                  (101, AVal.pv false (PV.int Go.IntKind.i64 (↑(List.length u) : Int))),
                                  (102, AVal.pv false (PV.int Go.IntKind.i64 (Go.IntKind.wrap Go.IntKind.i64 ((↑i : Int) + 1))))],
                              heap :=
                                [Blk.box (taskC (tk1 l u)),
                                  Blk.box (taskC (tk2 l u))] })))
                    (br
                      (Decidable.decide
                        (Lim.brk x ≤
                          Go.IntKind.wrap Go.IntKind.i64
                            (Task.dep (List.getD l (Int.toNat (List.getD u (Int.toNat (Go.IntKind.wrap Go.IntKind.i64 ((↑i : Int) + 1))) 0)) task0) -
                              Task.arr (List.getD l (Int.toNat (List.getD u (Int.toNat (↑i : Int)) 0)) task0))))
                      ((0 ≤ Go.IntKind.wrap Go.IntKind.i64 ((↑i : Int) + 1) ∧ Go.IntKind.wrap Go.IntKind.i64 ((↑i : Int) + 1) < (↑(List.length u) : Int)) ∧
                        (0 ≤ List.getD u (Int.toNat (Go.IntKind.wrap Go.IntKind.i64 ((↑i : Int) + 1))) 0 ∧ List.getD u (Int.toNat (Go.IntKind.wrap Go.IntKind.i64 ((↑i : Int) + 1))) 0 < (↑(List.length l) : Int)) ∧
                          N
                            { nt := 168,
                              env :=
                                [(0, AVal.pv false (tasksP l)), (1, AVal.pv false (intsP u)),
                                  (5, AVal.pv false (PV.cptr 7 (pvAt (limC x)) 0)),
                                  (7, AVal.ptr 0 0 0 0), (8, AVal.ptr 1 0 0 0),
                                  (13,
                                    AVal.pv false
                                      (PV.int Go.IntKind.i64
                                        (Task.dep (List.getD l (Int.toNat (List.getD u (Int.toNat (Go.IntKind.wrap Go.IntKind.i64 ((↑i : Int) + 1))) 0)) task0)))),
                                  (100, AVal.pv false (intsP u)),
                                  (101, AVal.pv false (PV.int Go.IntKind.i64 (↑(List.length u) : Int))),
                                  (102, AVal.pv false (PV.int Go.IntKind.i64 (Go.IntKind.wrap Go.IntKind.i64 ((↑i : Int) + 1))))],
                              heap :=
                                [Blk.box (taskC (tk1 l u)),
                                  Blk.box (taskC (tk2 l u))] })
                      (N
                        { nt := 168,
                          env :=
                            [(0, AVal.pv false (tasksP l)), (1, AVal.pv false (intsP u)),
                              (5, AVal.pv false (PV.cptr 7 (pvAt (limC x)) 0)),
                              (7, AVal.ptr 0 0 0 0), (8, AVal.ptr 1 0 0 0),
                              (13, AVal.pv false (PV.int Go.IntKind.i64 b)), (100, AVal.pv false (intsP u)),
                              (101, AVal.pv false (PV.int Go.IntKind.i64 (↑(List.length u) : Int))),
                              (102, AVal.pv false (PV.int Go.IntKind.i64 (Go.IntKind.wrap Go.IntKind.i64 ((↑i : Int) + 1))))],
                          heap :=
                            [Blk.box (taskC (tk1 l u)),
                              Blk.box (taskC (tk2 l u))] }))))
          (br (Decidable.decide (Go.IntKind.wrap Go.IntKind.i64 ((↑i : Int) + 1) = (↑(List.length u) : Int)))
            ((0 ≤ List.getD u (Int.toNat (↑i : Int)) 0 ∧ List.getD u (Int.toNat (↑i : Int)) 0 < (↑(List.length l) : Int)) ∧
              br
                (Decidable.decide
                  (Lim.after x < Go.IntKind.wrap Go.IntKind.i64 (Task.arr (List.getD l (Int.toNat (List.getD u (Int.toNat (↑i : Int)) 0)) task0) - b)))
                (K (AVal.pv false (PV.int Go.IntKind.i64 4)))
                (N
                  { nt := 168,
                    env :=
                      [(0, AVal.pv false (tasksP l)), (1, AVal.pv false (intsP u)),
                        (5, AVal.pv false (PV.cptr 7 (pvAt (limC x)) 0)),
                        (7, AVal.ptr 0 0 0 0), (8, AVal.ptr 1 0 0 0),
                        (13, AVal.pv false (PV.int Go.IntKind.i64 b)), (100, AVal.pv false (intsP u)),
                        (101, AVal.pv false (PV.int Go.IntKind.i64 (↑(List.length u) : Int))),
                        (102, AVal.pv false (PV.int Go.IntKind.i64 (Go.IntKind.wrap Go.IntKind.i64 ((↑i : Int) + 1))))],
                    heap :=
                      [Blk.box (taskC (tk1 l u)),
                        Blk.box (taskC (tk2 l u))] }))
            (N
              { nt := 168,
                env :=
                  [(0, AVal.pv false (tasksP l)), (1, AVal.pv false (intsP u)),
                    (5, AVal.pv false (PV.cptr 7 (pvAt (limC x)) 0)),
                    (7, AVal.ptr 0 0 0 0), (8, AVal.ptr 1 0 0 0), (13, AVal.pv false (PV.int Go.IntKind.i64 b)),
                    (100, AVal.pv false (intsP u)),
                    (101, AVal.pv false (PV.int Go.IntKind.i64 (↑(List.length u) : Int))),
                    (102, AVal.pv false (PV.int Go.IntKind.i64 (Go.IntKind.wrap Go.IntKind.i64 ((↑i : Int) + 1))))],
                heap :=
                  [Blk.box (taskC (tk1 l u)),
                    Blk.box (taskC (tk2 l u))] })))
      (X 3
        { nt := 168, env := [(7, AVal.ptr 0 0 0 0), (8, AVal.ptr 1 0 0 0)],
          heap :=
            [Blk.box (taskC (tk1 l u)), Blk.box (taskC (tk2 l u))] }) := by intros; kernel_rfl
theorem f79_exit18_3 : ∀ (l : List Task) (u : List Int) (x : Lim) (i : Nat) (b : Int) (K : AVal → Prop),
  kont Try.prog TT shpJ (f79_fl l u x) [1, 1, 1, 1, 1, 1, 0, 1, 0]
      (bodyOf Try.f79) (retQ TT (Go.Func.results Try.f79) K) (Go.Exit.exit 3)
      { nt := 168, env := [(7, AVal.ptr 0 0 0 0), (8, AVal.ptr 1 0 0 0)],
        heap :=
          [Blk.box (taskC (tk1 l u)), Blk.box (taskC (tk2 l u))] } =
    br (!Decidable.decide (Task.to (tk2 l u) = Task.frm (tk1 l u)))
      (K (AVal.pv false (PV.int Go.IntKind.i64 5))) (K (AVal.pv false (PV.int Go.IntKind.i64 0))) := by intros; kernel_rfl
theorem f26_tree : ∀ (K : AVal → Prop),
  run Try.prog TT shpJ f26_fl (bodyOf Try.f26)
      (retQ TT (Go.Func.results Try.f26) K) (entry (Go.Func.ntmps Try.f26) []) =
    CallT Try.prog (shpJ 24) 24
      [AVal.pv false
          (PV.lst 6 NF.full 1 fun (i j : Nat) =>
            pvAt
              [AVal.pv false (PV.int Go.IntKind.i64 0), AVal.pv false (PV.int Go.IntKind.i64 1),
                AVal.pv false (PV.int Go.IntKind.i64 0), AVal.pv false (PV.int Go.IntKind.i64 100),
                AVal.pv false (PV.int Go.IntKind.i64 0), AVal.pv false (PV.int Go.IntKind.i64 1)]
              (i * 6 + j)),
        AVal.pv false
          (PV.lst 1 NF.full 1 fun (i j : Nat) =>
            pvAt [AVal.pv false (PV.int Go.IntKind.i64 0)] (i * 1 + j)),
        AVal.agg
          [AVal.pv false (PV.int Go.IntKind.i64 0), AVal.pv false (PV.int Go.IntKind.i64 100),
            AVal.pv false (PV.int Go.IntKind.i64 100), AVal.pv false (PV.int Go.IntKind.i64 100),
            AVal.pv false (PV.int Go.IntKind.i64 0), AVal.pv false (PV.int Go.IntKind.i64 0),
            AVal.pv false (PV.int Go.IntKind.i64 1)]]
      [] fun (x : Int × Int) =>
      br (Decidable.decide (Prod.snd x = 0)) (K (AVal.pv false (PV.bool (Decidable.decide (Prod.fst x = 5)))))
        (K (AVal.pv false (PV.bool false))) := by intros; kernel_rfl
theorem f4_tree : ∀ (l : List Task) (u : List Int) (x : Lim) (K : AVal → Prop),
  run Try.prog TT shpJ f4_fl (bodyOf Try.f4)
      (retQ TT (Go.Func.results Try.f4) K)
      (entry (Go.Func.ntmps Try.f4)
        [AVal.pv false (tasksP l), AVal.pv false (intsP u), limV x]) =
    CallT Try.prog (shpJ 24) 24
      [AVal.pv false (tasksP l), AVal.pv false (intsP u),
        AVal.agg
          [AVal.pv false (PV.int Go.IntKind.i64 (Lim.change x)),
            AVal.pv false (PV.int Go.IntKind.i64 (Lim.long x)),
            AVal.pv false (PV.int Go.IntKind.i64 (Lim.work x)),
            AVal.pv false (PV.int Go.IntKind.i64 (Lim.after x)),
            AVal.pv false (PV.int Go.IntKind.i64 (Lim.brk x)),
            AVal.pv false (PV.int Go.IntKind.i64 (Lim.rest x)),
            AVal.pv false (PV.int Go.IntKind.i64 (Lim.row x))]]
      [] fun (x_1 : Int × Int) =>
      CallT Try.prog (shpJ 25) 25
        [AVal.pv false (tasksP l), AVal.pv false (intsP u),
          AVal.agg
            [AVal.pv false (PV.int Go.IntKind.i64 (Lim.change x)),
              AVal.pv false (PV.int Go.IntKind.i64 (Lim.long x)),
              AVal.pv false (PV.int Go.IntKind.i64 (Lim.work x)),
              AVal.pv false (PV.int Go.IntKind.i64 (Lim.after x)),
              AVal.pv false (PV.int Go.IntKind.i64 (Lim.brk x)),
              AVal.pv false (PV.int Go.IntKind.i64 (Lim.rest x)),
              AVal.pv false (PV.int Go.IntKind.i64 (Lim.row x))]]
        [] fun (x : Int × Int) =>
        CallT Try.prog (shpJ 26) 26 [] [] fun (x_2 : Bool) =>
          br x_2
            (br (Decidable.decide (Prod.fst x_1 = Prod.fst x)) (K (AVal.pv false (PV.bool (Decidable.decide (Prod.snd x_1 = Prod.snd x)))))
              (K (AVal.pv false (PV.bool false))))
            (K (AVal.pv false (PV.bool false))) := by intros; kernel_rfl
theorem f46_tree : ∀ (x : Lim) (K : AVal → Prop),
  run Try.prog TT shpJ f46_fl (bodyOf Try.f46)
      (retQ TT (Go.Func.results Try.f46) K) (entry (Go.Func.ntmps Try.f46) [limV x]) =
    LoopK
      (run Try.prog TT shpJ f46_fl
        (sub [1, 0, 1, 0, 0] (bodyOf Try.f46)))
      (kont Try.prog TT shpJ f46_fl [1, 0, 1, 0] (bodyOf Try.f46)
        (retQ TT (Go.Func.results Try.f46) K))
      { nt := 29,
        env :=
          [(1,
              AVal.pv false
                (PV.cptr 7
                  (pvAt
                    [AVal.pv false (PV.int Go.IntKind.i64 (Lim.change x)),
                      AVal.pv false (PV.int Go.IntKind.i64 (Lim.long x)),
                      AVal.pv false (PV.int Go.IntKind.i64 (Lim.work x)),
                      AVal.pv false (PV.int Go.IntKind.i64 (Lim.after x)),
                      AVal.pv false (PV.int Go.IntKind.i64 (Lim.brk x)),
                      AVal.pv false (PV.int Go.IntKind.i64 (Lim.rest x)),
                      AVal.pv false (PV.int Go.IntKind.i64 (Lim.row x))])
                  0)),
            (17,
              AVal.av 1 6 fun (i j : Nat) =>
                pvAt
                  [AVal.pv false (PV.int Go.IntKind.i64 (Lim.change x)),
                    AVal.pv false (PV.int Go.IntKind.i64 (Lim.long x)),
                    AVal.pv false (PV.int Go.IntKind.i64 (Lim.work x)),
                    AVal.pv false (PV.int Go.IntKind.i64 (Lim.after x)),
                    AVal.pv false (PV.int Go.IntKind.i64 (Lim.brk x)),
                    AVal.pv false (PV.int Go.IntKind.i64 (Lim.rest x))]
                  (i * 1 + j)),
            (18, AVal.pv false (PV.int Go.IntKind.i64 0))],
        heap := [] } := by intros; kernel_rfl
theorem f46_body2 : ∀ (x : Lim) (i : Nat) (N : St → Prop) (X : Nat → St → Prop) (K : AVal → Prop),
  run Try.prog TT shpJ f46_fl
      (sub [1, 0, 1, 0, 0] (bodyOf Try.f46))
      (cutQ [1, 17, 18] [1] 0 N X fun (s : St) => retK TT (Go.Func.results Try.f46) s K)
      (f46_s2 x i) =
    br (Decidable.decide ((↑i : Int) < 6))
      ((0 ≤ (↑i : Int) ∧ (↑i : Int) < (↑6 : Int)) ∧
        CallT Try.prog (shpJ 76) 76
          [AVal.pv false
              (pvAt
                [bI (Lim.change x), bI (Lim.long x), bI (Lim.work x),
                  bI (Lim.after x), bI (Lim.brk x), bI (Lim.rest x)]
                (Int.toNat (↑i : Int) * 1 + 0)),
            AVal.pv false (PV.int Go.IntKind.i64 0), AVal.pv false (PV.int Go.IntKind.i64 86400)]
          [] fun (x_1 : Bool) =>
          br (!x_1) (K (AVal.pv false (PV.int Go.IntKind.i64 2)))
            (N
              { nt := 29,
                env :=
                  [(1, AVal.pv false (PV.cptr 7 (pvAt (limC x)) 0)),
                    (17,
                      AVal.av 1 6 fun (i j : Nat) =>
                        pvAt
                          [bI (Lim.change x), bI (Lim.long x),
                            bI (Lim.work x), bI (Lim.after x), bI (Lim.brk x),
                            bI (Lim.rest x)]
                          (i * 1 + j)),
                    (18, AVal.pv false (PV.int Go.IntKind.i64 (Go.IntKind.wrap Go.IntKind.i64 ((↑i : Int) + 1))))],
                heap := [] }))
      (X 0 { nt := 29, env := [(1, AVal.pv false (PV.cptr 7 (pvAt (limC x)) 0))], heap := [] }) := by intros; kernel_rfl
theorem f46_exit2_0 : ∀ (x : Lim) (i : Nat) (K : AVal → Prop),
  kont Try.prog TT shpJ f46_fl [1, 0, 1, 0] (bodyOf Try.f46)
      (retQ TT (Go.Func.results Try.f46) K) (Go.Exit.exit 0) { nt := 29, env := [(1, limP x)], heap := [] } =
    CallT Try.prog (shpJ 76) 76
      [AVal.pv false (PV.int Go.IntKind.i64 (Lim.row x)),
        AVal.pv false (PV.int Go.IntKind.i64 1), AVal.pv false (PV.int Go.IntKind.i64 7)]
      [] fun (x : Bool) =>
      br (!x) (K (AVal.pv false (PV.int Go.IntKind.i64 2)))
        (K (AVal.pv false (PV.int Go.IntKind.i64 0))) := by intros; kernel_rfl
theorem f47_tree : ∀ (x : Lim) (K : AVal → Prop),
  run Try.prog TT shpJ f47_fl (bodyOf Try.f47)
      (retQ TT (Go.Func.results Try.f47) K) (entry (Go.Func.ntmps Try.f47) [limV x]) =
    LoopK
      (run Try.prog TT shpJ f47_fl
        (sub [1, 0, 1, 0, 0] (bodyOf Try.f47)))
      (kont Try.prog TT shpJ f47_fl [1, 0, 1, 0] (bodyOf Try.f47)
        (retQ TT (Go.Func.results Try.f47) K))
      { nt := 31,
        env :=
          [(1,
              AVal.pv false
                (PV.cptr 7
                  (pvAt
                    [AVal.pv false (PV.int Go.IntKind.i64 (Lim.change x)),
                      AVal.pv false (PV.int Go.IntKind.i64 (Lim.long x)),
                      AVal.pv false (PV.int Go.IntKind.i64 (Lim.work x)),
                      AVal.pv false (PV.int Go.IntKind.i64 (Lim.after x)),
                      AVal.pv false (PV.int Go.IntKind.i64 (Lim.brk x)),
                      AVal.pv false (PV.int Go.IntKind.i64 (Lim.rest x)),
                      AVal.pv false (PV.int Go.IntKind.i64 (Lim.row x))])
                  0)),
            (17,
              AVal.pv false
                (PV.lst 1 NF.full 6 fun (i j : Nat) =>
                  pvAt
                    [AVal.pv false (PV.int Go.IntKind.i64 (Lim.change x)),
                      AVal.pv false (PV.int Go.IntKind.i64 (Lim.long x)),
                      AVal.pv false (PV.int Go.IntKind.i64 (Lim.work x)),
                      AVal.pv false (PV.int Go.IntKind.i64 (Lim.after x)),
                      AVal.pv false (PV.int Go.IntKind.i64 (Lim.brk x)),
                      AVal.pv false (PV.int Go.IntKind.i64 (Lim.rest x))]
                    (i * 1 + j))),
            (18, AVal.pv false (PV.int Go.IntKind.i64 (↑6 : Int))),
            (19, AVal.pv false (PV.int Go.IntKind.i64 0))],
        heap := [] } := by intros; kernel_rfl
theorem f47_body2 : ∀ (x : Lim) (i : Nat) (N : St → Prop) (X : Nat → St → Prop) (K : AVal → Prop),
  run Try.prog TT shpJ f47_fl
      (sub [1, 0, 1, 0, 0] (bodyOf Try.f47))
      (cutQ [1, 17, 18, 19] [1] 0 N X fun (s : St) => retK TT (Go.Func.results Try.f47) s K)
      (f47_s2 x i) =
    br (Decidable.decide ((↑i : Int) < 6))
      ((0 ≤ (↑i : Int) ∧ (↑i : Int) < (↑6 : Int)) ∧
        CallT Try.prog (shpJ 75) 75
          [AVal.pv false
              (pvAt
                [bI (Lim.change x), bI (Lim.long x), bI (Lim.work x),
                  bI (Lim.after x), bI (Lim.brk x), bI (Lim.rest x)]
                (Int.toNat (↑i : Int) * 1 + 0)),
            AVal.pv false (PV.int Go.IntKind.i64 0), AVal.pv false (PV.int Go.IntKind.i64 86400)]
          [] fun (x_1 : Bool) =>
          br (!x_1) (K (AVal.pv false (PV.int Go.IntKind.i64 2)))
            (N
              { nt := 31,
                env :=
                  [(1, AVal.pv false (PV.cptr 7 (pvAt (limC x)) 0)),
                    (17,
                      AVal.pv false
                        (PV.lst 1 NF.full 6 fun (i j : Nat) =>
                          pvAt
                            [bI (Lim.change x), bI (Lim.long x),
                              bI (Lim.work x), bI (Lim.after x),
                              bI (Lim.brk x), bI (Lim.rest x)]
                            (i * 1 + j))),
                    (18, AVal.pv false (PV.int Go.IntKind.i64 6)),
                    (19, AVal.pv false (PV.int Go.IntKind.i64 (Go.IntKind.wrap Go.IntKind.i64 ((↑i : Int) + 1))))],
                heap := [] }))
      (X 0 { nt := 31, env := [(1, AVal.pv false (PV.cptr 7 (pvAt (limC x)) 0))], heap := [] }) := by intros; kernel_rfl
theorem f47_exit2_0 : ∀ (x : Lim) (i : Nat) (K : AVal → Prop),
  kont Try.prog TT shpJ f47_fl [1, 0, 1, 0] (bodyOf Try.f47)
      (retQ TT (Go.Func.results Try.f47) K) (Go.Exit.exit 0) { nt := 31, env := [(1, limP x)], heap := [] } =
    CallT Try.prog (shpJ 75) 75
      [AVal.pv false (PV.int Go.IntKind.i64 (Lim.row x)),
        AVal.pv false (PV.int Go.IntKind.i64 1), AVal.pv false (PV.int Go.IntKind.i64 7)]
      [] fun (x : Bool) =>
      br (!x) (K (AVal.pv false (PV.int Go.IntKind.i64 2)))
        (K (AVal.pv false (PV.int Go.IntKind.i64 0))) := by intros; kernel_rfl

end Go.Proofs.Ytciflideblafgaa
