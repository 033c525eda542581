/- What Runs, SumsOf and FleetRuns return. -/
import Derived.Test.YtciflideblafgaaMv
import Derived.Test.YtciflideblafgaaSets
import Derived.Test.YtciflideblafgaaDuty
open Go Go.Proofs.Ytciflideblafgaa.Fw
namespace Go.Proofs.Ytciflideblafgaa
set_option maxRecDepth 100000
abbrev shpR : Nat → Shape
 | 76 | 43 | 42 | 82 | 10 => sh Bool bB
 | 44 | 45 => sh Int bI
 | 51 | 52 => sh (List (List Int) × Int) fun x => .tup [.pv false (listsP x.1), bI x.2]
 | _ => sh Unit fun _ => .undef
set_option linter.unusedVariables false
def f42_fl : Fl := ⟨fun r o => match r, o with  | _, _ => 0, fun r => match r with  | _ => none, fun r => match r with  | _ => none⟩
def f51_fl : Fl := ⟨fun r o => match r, o with | 16, 0 => 5 | 18, 0 => 5 | _, _ => 0, fun r => match r with | 6 => some [0, 7, 19, 20, 21] | 11 => some [0, 7, 10, 11, 19, 20, 21, 25, 26, 27] | _ => none, fun r => match r with  | _ => none⟩
def f51_s6 (l : List Task) (u : List (List Int)) (i : Nat) (acc : List (List Int)) : St := ⟨55, [(0, .pv false (tasksP l)), (7, .pv true (listsP acc)), (19, .pv false (listsP u)), (20, bI u.length), (21, bI i)], [], 0, fun _ => 0⟩
def f51_s11 (l : List Task) (u : List (List Int)) (i : Nat) (acc : List (List Int)) (t : List Int) (j : Nat) (s : Int) (rs : List Int) : St := ⟨55, [(0, .pv false (tasksP l)), (7, .pv true (listsP acc)), (10, bI s), (11, .pv true (intsP rs)), (19, .pv false (listsP u)), (20, bI u.length), (21, bI i), (25, .pv false (intsP t)), (26, bI t.length), (27, bI j)], [], 0, fun _ => 0⟩
def f52_fl : Fl := ⟨fun r o => match r, o with | 13, 0 => 5 | 15, 0 => 5 | _, _ => 0, fun r => match r with | 3 => some [0, 6, 13, 14, 15] | 8 => some [0, 6, 9, 10, 13, 14, 15, 19, 20, 21] | _ => none, fun r => match r with  | _ => none⟩
def f52_s3 (l : List Task) (u : List (List Int)) (i : Nat) (acc : List (List Int)) : St := ⟨51, [(0, .pv false (tasksP l)), (6, .pv true (listsP acc)), (13, .pv false (listsP u)), (14, bI u.length), (15, bI i)], [], 0, fun _ => 0⟩
def f52_s8 (l : List Task) (u : List (List Int)) (i : Nat) (acc : List (List Int)) (t : List Int) (j : Nat) (s : Int) (rs : List Int) : St := ⟨51, [(0, .pv false (tasksP l)), (6, .pv true (listsP acc)), (9, bI s), (10, .pv true (intsP rs)), (13, .pv false (listsP u)), (14, bI u.length), (15, bI i), (19, .pv false (intsP t)), (20, bI t.length), (21, bI j)], [], 0, fun _ => 0⟩
def f10_fl : Fl := ⟨fun r o => match r, o with  | _, _ => 0, fun r => match r with  | _ => none, fun r => match r with  | _ => none⟩
theorem f51_ret6 (K : AVal → Prop) : kont Try.prog TT shpR f51_fl [1, 1, 1, 0, 1, 0] (bodyOf Try.f51) (retQ TT Try.f51.results K) .ret = fun s => retK TT Try.f51.results s K := by kernel_rfl
theorem f51_ret11 (Q : Go.Exit → St → Prop) : kont Try.prog TT shpR f51_fl [1, 1, 0, 0, 1, 1, 1, 0, 1, 0] (sub [1, 1, 1, 0, 1, 0, 0] (bodyOf Try.f51)) Q .ret = Q .ret := by kernel_rfl
theorem f52_ret3 (K : AVal → Prop) : kont Try.prog TT shpR f52_fl [1, 1, 0, 1, 0] (bodyOf Try.f52) (retQ TT Try.f52.results K) .ret = fun s => retK TT Try.f52.results s K := by kernel_rfl
theorem f52_ret8 (Q : Go.Exit → St → Prop) : kont Try.prog TT shpR f52_fl [1, 1, 0, 0, 1, 1, 1, 0, 1, 0] (sub [1, 1, 0, 1, 0, 0] (bodyOf Try.f52)) Q .ret = Q .ret := by kernel_rfl
theorem f42_tree : ∀ (a b : List (List Int)) (K : AVal → Prop),
  run Try.prog TT shpR f42_fl (bodyOf Try.f42)
      (retQ TT (Go.Func.results Try.f42) K)
      (entry (Go.Func.ntmps Try.f42)
        [AVal.pv false (listsP a), AVal.pv false (listsP b)]) =
    CallT Try.prog (shpR 82) 82
      [AVal.pv false (listsP a), AVal.pv false (listsP b),
        AVal.pv false (PV.fn 31 0 fun (x : Nat) => PV.junk)]
      [] fun (x : Bool) => K (AVal.pv false (PV.bool x)) := by intros; kernel_rfl
theorem f51_tree : ∀ (l : List Task) (u : List (List Int)) (K : AVal → Prop),
  run Try.prog TT shpR f51_fl (bodyOf Try.f51)
      (retQ TT (Go.Func.results Try.f51) K)
      (entry (Go.Func.ntmps Try.f51)
        [AVal.pv false (tasksP l), AVal.pv false (listsP u)]) =
    CallT Try.prog (shpR 44) 44 [AVal.pv false (tasksP l)] [] fun (x : Int) =>
      br (!Decidable.decide (x = 0))
        (K
          (AVal.tup
            [AVal.pv false (PV.lst 0 NF.isNil 0 fun (x x_1 : Nat) => PV.junk),
              AVal.pv false (PV.int Go.IntKind.i64 x)]))
        (LoopK
          (run Try.prog TT shpR f51_fl
            (sub [1, 1, 1, 0, 1, 0, 0] (bodyOf Try.f51)))
          (kont Try.prog TT shpR f51_fl [1, 1, 1, 0, 1, 0] (bodyOf Try.f51)
            (retQ TT (Go.Func.results Try.f51) K))
          { nt := 55,
            env :=
              [(0, AVal.pv false (tasksP l)),
                (7, AVal.pv false (PV.lst 0 NF.isNil 0 fun (x x_1 : Nat) => PV.junk)),
                (19, AVal.pv false (listsP u)),
                (20, AVal.pv false (PV.int Go.IntKind.i64 (↑(List.length u) : Int))),
                (21, AVal.pv false (PV.int Go.IntKind.i64 0))],
            heap := [] }) := by intros; kernel_rfl
theorem f51_body6 : ∀ (l : List Task) (u : List (List Int)) (i : Nat) (acc : List (List Int)) (N : St → Prop) (X : Nat → St → Prop)
  (K : AVal → Prop),
  run Try.prog TT shpR f51_fl
      (sub [1, 1, 1, 0, 1, 0, 0] (bodyOf Try.f51))
      (cutQ [0, 7, 19, 20, 21] [7] 0 N X fun (s : St) => retK TT (Go.Func.results Try.f51) s K)
      (f51_s6 l u i acc) =
    br (Decidable.decide ((↑i : Int) < (↑(List.length u) : Int)))
      ((0 ≤ (↑i : Int) ∧ (↑i : Int) < (↑(List.length u) : Int)) ∧
        LoopK
          (run Try.prog TT shpR f51_fl
            (sub [1, 1, 1, 0, 1, 0, 0, 1, 1, 0, 0, 1, 1, 1, 0, 1, 0, 0] (bodyOf Try.f51)))
          (kont Try.prog TT shpR f51_fl [1, 1, 0, 0, 1, 1, 1, 0, 1, 0]
            (sub [1, 1, 1, 0, 1, 0, 0] (bodyOf Try.f51))
            (cutQ [0, 7, 19, 20, 21] [7] 0 N X fun (s : St) => retK TT (Go.Func.results Try.f51) s K))
          { nt := 55,
            env :=
              [(0, AVal.pv false (tasksP l)), (7, AVal.pv true (listsP acc)),
                (10, AVal.pv false (PV.int Go.IntKind.i64 0)),
                (11, AVal.pv false (PV.lst 0 NF.isNil 0 fun (x x_1 : Nat) => PV.junk)),
                (19, AVal.pv false (listsP u)),
                (20, AVal.pv false (PV.int Go.IntKind.i64 (↑(List.length u) : Int))),
                (21, AVal.pv false (PV.int Go.IntKind.i64 (↑i : Int))),
                (25, AVal.pv false (intsP (List.getD u (Int.toNat (↑i : Int)) []))),
                (26, AVal.pv false (PV.int Go.IntKind.i64 (↑(List.length (List.getD u (Int.toNat (↑i : Int)) [])) : Int))),
                (27, AVal.pv false (PV.int Go.IntKind.i64 0))],
            heap := [] })
      (X 0 { nt := 55, env := [(7, AVal.pv true (listsP acc))], heap := [] }) := by intros; kernel_rfl
theorem f51_exit6_0 : ∀ (l : List Task) (u : List (List Int)) (i : Nat) (acc : List (List Int)) (K : AVal → Prop),
  kont Try.prog TT shpR f51_fl [1, 1, 1, 0, 1, 0] (bodyOf Try.f51)
      (retQ TT (Go.Func.results Try.f51) K) (Go.Exit.exit 0)
      { nt := 55, env := [(7, AVal.pv true (listsP acc))], heap := [] } =
    K
      (AVal.tup
        [AVal.pv false (listsP acc), AVal.pv false (PV.int Go.IntKind.i64 0)]) := by intros; kernel_rfl
theorem f51_body11 : ∀ (l : List Task) (u : List (List Int)) (i : Nat) (acc : List (List Int)) (t : List Int) (j : Nat) (s : Int) (rs : List Int) (N : St → Prop)
  (X : Nat → St → Prop) (K : AVal → Prop),
  run Try.prog TT shpR f51_fl
      (sub [1, 1, 1, 0, 1, 0, 0, 1, 1, 0, 0, 1, 1, 1, 0, 1, 0, 0] (bodyOf Try.f51))
      (cutQ [0, 7, 10, 11, 19, 20, 21, 25, 26, 27] [0, 7, 11, 19, 20, 21] 0 N X fun (s : St) =>
        retK TT (Go.Func.results Try.f51) s K)
      (f51_s11 l u i acc t j s rs) =
    br (Decidable.decide ((↑j : Int) < (↑(List.length t) : Int)))
      ((0 ≤ (↑j : Int) ∧ (↑j : Int) < (↑(List.length t) : Int)) ∧
        CallT Try.prog (shpR 76) 76
          [AVal.pv false (PV.int Go.IntKind.i64 (List.getD t (Int.toNat (↑j : Int)) 0)),
            AVal.pv false (PV.int Go.IntKind.i64 0),
            AVal.pv false (PV.int Go.IntKind.i64 (Go.IntKind.wrap Go.IntKind.i64 ((↑(List.length l) : Int) - 1)))]
          [] fun (x : Bool) =>
          br (!x)
            (K
              (AVal.tup
                [AVal.pv false (PV.lst 0 NF.isNil 0 fun (x x_1 : Nat) => PV.junk),
                  AVal.pv false (PV.int Go.IntKind.i64 2)]))
            ((0 ≤ List.getD t (Int.toNat (↑j : Int)) 0 ∧ List.getD t (Int.toNat (↑j : Int)) 0 < (↑(List.length l) : Int)) ∧
              (List.length rs + 1 ≤ 140737488355328 ∧ (List.length rs + 1) * 8 ≤ 140737488355328) ∧
                N
                  { nt := 55,
                    env :=
                      [(0, AVal.pv false (tasksP l)), (7, AVal.pv true (listsP acc)),
                        (10,
                          AVal.pv false
                            (PV.int Go.IntKind.i64
                              (Go.IntKind.wrap Go.IntKind.i64 (s + Task.km (List.getD l (Int.toNat (List.getD t (Int.toNat (↑j : Int)) 0)) task0))))),
                        (11,
                          AVal.pv true
                            (PV.lst 1 NF.any (List.length rs + 1)
                              (appEl (List.length rs) (fun (i x : Nat) => PV.int Go.IntKind.i64 (List.getD rs i 0)) fun (i j_1 : Nat) =>
                                pvAt
                                  [AVal.pv false
                                      (PV.int Go.IntKind.i64
                                        (Go.IntKind.wrap Go.IntKind.i64 (s + Task.km (List.getD l (Int.toNat (List.getD t (Int.toNat (↑j : Int)) 0)) task0))))]
                                  (i * 1 + j_1)))),
                        (19, AVal.pv false (listsP u)),
                        (20, AVal.pv false (PV.int Go.IntKind.i64 (↑(List.length u) : Int))),
                        (21, AVal.pv false (PV.int Go.IntKind.i64 (↑i : Int))), (25, AVal.pv false (intsP t)),
                        (26, AVal.pv false (PV.int Go.IntKind.i64 (↑(List.length t) : Int))),
                        (27, AVal.pv false (PV.int Go.IntKind.i64 (Go.IntKind.wrap Go.IntKind.i64 ((↑j : Int) + 1))))],
                    heap := [] }))
      (X 2
        { nt := 55,
          env :=
            [(0, AVal.pv false (tasksP l)), (7, AVal.pv true (listsP acc)),
              (11, AVal.pv true (intsP rs)), (19, AVal.pv false (listsP u)),
              (20, AVal.pv false (PV.int Go.IntKind.i64 (↑(List.length u) : Int))),
              (21, AVal.pv false (PV.int Go.IntKind.i64 (↑i : Int)))],
          heap := [] }) := by intros; kernel_rfl
theorem f51_exit11_2 : ∀ (l : List Task) (u : List (List Int)) (i : Nat) (acc : List (List Int)) (t : List Int) (j : Nat) (s : Int) (rs : List Int) (Q : Go.Exit → St → Prop)
  (K : AVal → Prop),
  kont Try.prog TT shpR f51_fl [1, 1, 0, 0, 1, 1, 1, 0, 1, 0]
      (sub [1, 1, 1, 0, 1, 0, 0] (bodyOf Try.f51)) Q (Go.Exit.exit 2)
      { nt := 55,
        env :=
          [(0, AVal.pv false (tasksP l)), (7, AVal.pv true (listsP acc)),
            (11, AVal.pv true (intsP rs)), (19, AVal.pv false (listsP u)),
            (20, bI (↑(List.length u) : Int)), (21, bI (↑i : Int))],
        heap := [] } =
    ((List.length acc + 1 ≤ 140737488355328 ∧ (List.length acc + 1) * 24 ≤ 140737488355328) ∧
      Q Go.Exit.normal
        { nt := 55,
          env :=
            [(21, AVal.pv false (PV.int Go.IntKind.i64 (Go.IntKind.wrap Go.IntKind.i64 ((↑i : Int) + 1)))),
              (53, AVal.pv false (PV.int Go.IntKind.i64 (Go.IntKind.wrap Go.IntKind.i64 ((↑i : Int) + 1)))),
              (7,
                AVal.pv true
                  (PV.lst 1 NF.any (List.length acc + 1)
                    (appEl (List.length acc) (fun (i x : Nat) => intsP (List.getD acc i [])) fun (i j : Nat) =>
                      pvAt [AVal.pv false (intsP rs)] (i * 1 + j)))),
              (52,
                AVal.pv false
                  (PV.lst 1 NF.any (List.length acc + 1)
                    (appEl (List.length acc) (fun (i x : Nat) => intsP (List.getD acc i [])) fun (i j : Nat) =>
                      pvAt [AVal.pv false (intsP rs)] (i * 1 + j)))),
              (52,
                AVal.pv true
                  (PV.lst 1 NF.any (List.length acc + 1)
                    (appEl (List.length acc) (fun (i x : Nat) => intsP (List.getD acc i [])) fun (i j : Nat) =>
                      pvAt [AVal.pv false (intsP rs)] (i * 1 + j)))),
              (49, AVal.pv false (listsP acc)),
              (51,
                AVal.pv false
                  (PV.lst 1 NF.full 1 fun (i j : Nat) =>
                    pvAt [AVal.pv false (intsP rs)] (i * 1 + j))),
              (50, AVal.pv false (intsP rs)), (49, AVal.pv true (listsP acc)),
              (7, AVal.pv false (listsP acc)), (0, AVal.pv false (tasksP l)),
              (7, AVal.pv true (listsP acc)), (11, AVal.pv true (intsP rs)),
              (19, AVal.pv false (listsP u)), (20, bI (↑(List.length u) : Int)), (21, bI (↑i : Int))],
          heap := [] }) := by intros; kernel_rfl
theorem f52_tree : ∀ (l : List Task) (u : List (List Int)) (K : AVal → Prop),
  run Try.prog TT shpR f52_fl (bodyOf Try.f52)
      (retQ TT (Go.Func.results Try.f52) K)
      (entry (Go.Func.ntmps Try.f52)
        [AVal.pv false (tasksP l), AVal.pv false (listsP u)]) =
    LoopK
      (run Try.prog TT shpR f52_fl
        (sub [1, 1, 0, 1, 0, 0] (bodyOf Try.f52)))
      (kont Try.prog TT shpR f52_fl [1, 1, 0, 1, 0] (bodyOf Try.f52)
        (retQ TT (Go.Func.results Try.f52) K))
      { nt := 51,
        env :=
          [(0, AVal.pv false (tasksP l)),
            (6, AVal.pv false (PV.lst 0 NF.isNil 0 fun (x x_1 : Nat) => PV.junk)),
            (13, AVal.pv false (listsP u)), (14, AVal.pv false (PV.int Go.IntKind.i64 (↑(List.length u) : Int))),
            (15, AVal.pv false (PV.int Go.IntKind.i64 0))],
        heap := [] } := by intros; kernel_rfl
theorem f52_body3 : ∀ (l : List Task) (u : List (List Int)) (i : Nat) (acc : List (List Int)) (N : St → Prop) (X : Nat → St → Prop)
  (K : AVal → Prop),
  run Try.prog TT shpR f52_fl
      (sub [1, 1, 0, 1, 0, 0] (bodyOf Try.f52))
      (cutQ [0, 6, 13, 14, 15] [6] 0 N X fun (s : St) => retK TT (Go.Func.results Try.f52) s K)
      (f52_s3 l u i acc) =
    br (Decidable.decide ((↑i : Int) < (↑(List.length u) : Int)))
      ((0 ≤ (↑i : Int) ∧ (↑i : Int) < (↑(List.length u) : Int)) ∧
        LoopK
          (run Try.prog TT shpR f52_fl
            (sub [1, 1, 0, 1, 0, 0, 1, 1, 0, 0, 1, 1, 1, 0, 1, 0, 0] (bodyOf Try.f52)))
          (kont Try.prog TT shpR f52_fl [1, 1, 0, 0, 1, 1, 1, 0, 1, 0]
            (sub [1, 1, 0, 1, 0, 0] (bodyOf Try.f52))
            (cutQ [0, 6, 13, 14, 15] [6] 0 N X fun (s : St) => retK TT (Go.Func.results Try.f52) s K))
          { nt := 51,
            env :=
              [(0, AVal.pv false (tasksP l)), (6, AVal.pv true (listsP acc)),
                (9, AVal.pv false (PV.int Go.IntKind.i64 0)),
                (10, AVal.pv false (PV.lst 0 NF.isNil 0 fun (x x_1 : Nat) => PV.junk)),
                (13, AVal.pv false (listsP u)),
                (14, AVal.pv false (PV.int Go.IntKind.i64 (↑(List.length u) : Int))),
                (15, AVal.pv false (PV.int Go.IntKind.i64 (↑i : Int))),
                (19, AVal.pv false (intsP (List.getD u (Int.toNat (↑i : Int)) []))),
                (20, AVal.pv false (PV.int Go.IntKind.i64 (↑(List.length (List.getD u (Int.toNat (↑i : Int)) [])) : Int))),
                (21, AVal.pv false (PV.int Go.IntKind.i64 0))],
            heap := [] })
      (X 0 { nt := 51, env := [(6, AVal.pv true (listsP acc))], heap := [] }) := by intros; kernel_rfl
theorem f52_exit3_0 : ∀ (l : List Task) (u : List (List Int)) (i : Nat) (acc : List (List Int)) (K : AVal → Prop),
  kont Try.prog TT shpR f52_fl [1, 1, 0, 1, 0] (bodyOf Try.f52)
      (retQ TT (Go.Func.results Try.f52) K) (Go.Exit.exit 0)
      { nt := 51, env := [(6, AVal.pv true (listsP acc))], heap := [] } =
    K
      (AVal.tup
        [AVal.pv false (listsP acc), AVal.pv false (PV.int Go.IntKind.i64 0)]) := by intros; kernel_rfl
theorem f52_body8 : ∀ (l : List Task) (u : List (List Int)) (i : Nat) (acc : List (List Int)) (t : List Int) (j : Nat) (s : Int) (rs : List Int) (N : St → Prop)
  (X : Nat → St → Prop) (K : AVal → Prop),
  run Try.prog TT shpR f52_fl
      (sub [1, 1, 0, 1, 0, 0, 1, 1, 0, 0, 1, 1, 1, 0, 1, 0, 0] (bodyOf Try.f52))
      (cutQ [0, 6, 9, 10, 13, 14, 15, 19, 20, 21] [0, 6, 10, 13, 14, 15] 0 N X fun (s : St) =>
        retK TT (Go.Func.results Try.f52) s K)
      (f52_s8 l u i acc t j s rs) =
    br (Decidable.decide ((↑j : Int) < (↑(List.length t) : Int)))
      ((0 ≤ (↑j : Int) ∧ (↑j : Int) < (↑(List.length t) : Int)) ∧
        br (Decidable.decide (List.getD t (Int.toNat (↑j : Int)) 0 < 0))
          (K
            (AVal.tup
              [AVal.pv false (PV.lst 0 NF.isNil 0 fun (x x_1 : Nat) => PV.junk),
                AVal.pv false (PV.int Go.IntKind.i64 2)]))
          (br (Decidable.decide ((↑(List.length l) : Int) ≤ List.getD t (Int.toNat (↑j : Int)) 0))
            (K
              (AVal.tup
                [AVal.pv false (PV.lst 0 NF.isNil 0 fun (x x_1 : Nat) => PV.junk),
                  AVal.pv false (PV.int Go.IntKind.i64 2)]))
            ((0 ≤ List.getD t (Int.toNat (↑j : Int)) 0 ∧ List.getD t (Int.toNat (↑j : Int)) 0 < (↑(List.length l) : Int)) ∧
              (List.length rs + 1 ≤ 140737488355328 ∧ (List.length rs + 1) * 8 ≤ 140737488355328) ∧
                N
                  { nt := 51,
                    env :=
                      [(0, AVal.pv false (tasksP l)), (6, AVal.pv true (listsP acc)),
                        (9,
                          AVal.pv false
                            (PV.int Go.IntKind.i64
                              (Go.IntKind.wrap Go.IntKind.i64 (s + Task.km (List.getD l (Int.toNat (List.getD t (Int.toNat (↑j : Int)) 0)) task0))))),
                        (10,
                          AVal.pv true
                            (PV.lst 1 NF.any (List.length rs + 1)
                              (appEl (List.length rs) (fun (i x : Nat) => PV.int Go.IntKind.i64 (List.getD rs i 0)) fun (i j_1 : Nat) =>
                                pvAt
                                  [AVal.pv false
                                      (PV.int Go.IntKind.i64
                                        (Go.IntKind.wrap Go.IntKind.i64 (s + Task.km (List.getD l (Int.toNat (List.getD t (Int.toNat (↑j : Int)) 0)) task0))))]
                                  (i * 1 + j_1)))),
                        (13, AVal.pv false (listsP u)),
                        (14, AVal.pv false (PV.int Go.IntKind.i64 (↑(List.length u) : Int))),
                        (15, AVal.pv false (PV.int Go.IntKind.i64 (↑i : Int))), (19, AVal.pv false (intsP t)),
                        (20, AVal.pv false (PV.int Go.IntKind.i64 (↑(List.length t) : Int))),
                        (21, AVal.pv false (PV.int Go.IntKind.i64 (Go.IntKind.wrap Go.IntKind.i64 ((↑j : Int) + 1))))],
                    heap := [] })))
      (X 2
        { nt := 51,
          env :=
            [(0, AVal.pv false (tasksP l)), (6, AVal.pv true (listsP acc)),
              (10, AVal.pv true (intsP rs)), (13, AVal.pv false (listsP u)),
              (14, AVal.pv false (PV.int Go.IntKind.i64 (↑(List.length u) : Int))),
              (15, AVal.pv false (PV.int Go.IntKind.i64 (↑i : Int)))],
          heap := [] }) := by intros; kernel_rfl
theorem f52_exit8_2 : ∀ (l : List Task) (u : List (List Int)) (i : Nat) (acc : List (List Int)) (t : List Int) (j : Nat) (s : Int) (rs : List Int) (Q : Go.Exit → St → Prop)
  (K : AVal → Prop),
  kont Try.prog TT shpR f52_fl [1, 1, 0, 0, 1, 1, 1, 0, 1, 0]
      (sub [1, 1, 0, 1, 0, 0] (bodyOf Try.f52)) Q (Go.Exit.exit 2)
      { nt := 51,
        env :=
          [(0, AVal.pv false (tasksP l)), (6, AVal.pv true (listsP acc)),
            (10, AVal.pv true (intsP rs)), (13, AVal.pv false (listsP u)),
            (14, bI (↑(List.length u) : Int)), (15, bI (↑i : Int))],
        heap := [] } =
    ((List.length acc + 1 ≤ 140737488355328 ∧ (List.length acc + 1) * 24 ≤ 140737488355328) ∧
      Q Go.Exit.normal
        { nt := 51,
          env :=
            [(15, AVal.pv false (PV.int Go.IntKind.i64 (Go.IntKind.wrap Go.IntKind.i64 ((↑i : Int) + 1)))),
              (49, AVal.pv false (PV.int Go.IntKind.i64 (Go.IntKind.wrap Go.IntKind.i64 ((↑i : Int) + 1)))),
              (6,
                AVal.pv true
                  (PV.lst 1 NF.any (List.length acc + 1)
                    (appEl (List.length acc) (fun (i x : Nat) => intsP (List.getD acc i [])) fun (i j : Nat) =>
                      pvAt [AVal.pv false (intsP rs)] (i * 1 + j)))),
              (48,
                AVal.pv false
                  (PV.lst 1 NF.any (List.length acc + 1)
                    (appEl (List.length acc) (fun (i x : Nat) => intsP (List.getD acc i [])) fun (i j : Nat) =>
                      pvAt [AVal.pv false (intsP rs)] (i * 1 + j)))),
              (48,
                AVal.pv true
                  (PV.lst 1 NF.any (List.length acc + 1)
                    (appEl (List.length acc) (fun (i x : Nat) => intsP (List.getD acc i [])) fun (i j : Nat) =>
                      pvAt [AVal.pv false (intsP rs)] (i * 1 + j)))),
              (45, AVal.pv false (listsP acc)),
              (47,
                AVal.pv false
                  (PV.lst 1 NF.full 1 fun (i j : Nat) =>
                    pvAt [AVal.pv false (intsP rs)] (i * 1 + j))),
              (46, AVal.pv false (intsP rs)), (45, AVal.pv true (listsP acc)),
              (6, AVal.pv false (listsP acc)), (0, AVal.pv false (tasksP l)),
              (6, AVal.pv true (listsP acc)), (10, AVal.pv true (intsP rs)),
              (13, AVal.pv false (listsP u)), (14, bI (↑(List.length u) : Int)), (15, bI (↑i : Int))],
          heap := [] }) := by intros; kernel_rfl
theorem f10_tree : ∀ (l : List Task) (u : List (List Int)) (K : AVal → Prop),
  run Try.prog TT shpR f10_fl (bodyOf Try.f10)
      (retQ TT (Go.Func.results Try.f10) K)
      (entry (Go.Func.ntmps Try.f10)
        [AVal.pv false (tasksP l), AVal.pv false (listsP u)]) =
    CallT Try.prog (shpR 51) 51
      [AVal.pv false (tasksP l), AVal.pv false (listsP u)] [] fun (x : List (List Int) × Int) =>
      CallT Try.prog (shpR 45) 45 [AVal.pv false (tasksP l)] [] fun (x_1 : Int) =>
        br (Decidable.decide (x_1 = 0))
          (CallT Try.prog (shpR 52) 52
            [AVal.pv false (tasksP l), AVal.pv false (listsP u)] [] fun (x_2 : List (List Int) × Int) =>
            CallT Try.prog (shpR 43) 43 [] [] fun (x_3 : Bool) =>
              br x_3
                (br (Decidable.decide (Prod.snd x = Prod.snd x_2))
                  (CallT Try.prog (shpR 42) 42
                    [AVal.pv false (listsP (Prod.fst x)), AVal.pv false (listsP (Prod.fst x_2))] []
                    fun (x : Bool) => K (AVal.pv false (PV.bool x)))
                  (K (AVal.pv false (PV.bool false))))
                (K (AVal.pv false (PV.bool false))))
          (CallT Try.prog (shpR 43) 43 [] [] fun (x_2 : Bool) =>
            br x_2
              (br (Decidable.decide (Prod.snd x = x_1))
                (CallT Try.prog (shpR 42) 42
                  [AVal.pv false (listsP (Prod.fst x)),
                    AVal.pv false (PV.lst 0 NF.isNil 0 fun (x x_3 : Nat) => PV.junk)]
                  [] fun (x : Bool) => K (AVal.pv false (PV.bool x)))
                (K (AVal.pv false (PV.bool false))))
              (K (AVal.pv false (PV.bool false)))) := by intros; kernel_rfl

theorem ls_appEl {α : Type} {t : List α} {s : α} {d : α} {E : α → PV} {k j : Nat} (hk : k < t.length + 1) (hj : j < 1) :
    appEl t.length (fun i _ => E (t.getD i d)) (fun i j => pvAt [.pv false (E s)] (i * 1 + j)) k j = E ((t ++ [s]).getD k d) := by
  obtain rfl : j = 0 := by omega
  unfold appEl
  by_cases c : k < t.length
  · have h1 : Nat.blt k t.length = true := Nat.ble_eq_true_of_le c
    rw [h1]
    simp [List.getD_eq_getElem?_getD, List.getElem?_append, c]
  · have h1 : Nat.blt k t.length = false := Bool.eq_false_iff.2 fun h => c (Nat.le_of_ble_eq_true h)
    obtain rfl : k = t.length := by omega
    rw [h1]
    simp [List.getD_eq_getElem?_getD, pvAt]
    rfl

theorem ls_out {out : List Int} {s : Int} : Vle (.pv true (.lst 1 .any (out.length + 1) (appEl out.length (fun i _ => .int .i64 (out.getD i 0)) fun i j => pvAt [bI s] (i * 1 + j)))) (.pv true (intsP (out ++ [s]))) := by
  show Vle _ (.pv true (.lst 1 .any (out ++ [s]).length _))
  rw [show (out ++ [s]).length = out.length + 1 by simp]
  exact Vle.own (.inl rfl) fun i hi j hj => ls_appEl (E := fun n => .int .i64 n) hi hj

theorem ls_outs {out : List (List Int)} {s : List Int} : Vle (.pv true (.lst 1 .any (out.length + 1) (appEl out.length (fun i _ => intsP (out.getD i [])) fun i j => pvAt [.pv false (intsP s)] (i * 1 + j)))) (.pv true (listsP (out ++ [s]))) := by
  show Vle _ (.pv true (.lst 1 .any (out ++ [s]).length _))
  rw [show (out ++ [s]).length = out.length + 1 by simp]
  exact Vle.own (.inl rfl) fun i hi j hj => ls_appEl (E := intsP) hi hj

theorem ls_nil {n : Nat} (hn : n = 0) {s : Nat} {e : Nat → Nat → PV} : Ple (.lst 0 .isNil 0 fun _ _ => .junk) (.lst s .any n e) := by
  subst hn; exact Ple.nil (.inr rfl)

abbrev nilL : AVal := .pv false (.lst 0 .isNil 0 fun _ _ => .junk)

theorem f42_ok (a b : List (List Int)) (ha : a.length < 2 ^ 63) (hs : ∀ t ∈ a, t.length < 2 ^ 63) : CallOK Try.prog 42 [.pv false (listsP a), .pv false (listsP b)] [] fun r _ => r = bB (decide (a = b)) := by
  refine CallOK.of_run (tabOf_ok _) hm (fn := Try.f42) (c := bodyOf Try.f42) (fl := f42_fl) (C := shpR) (by kernel_rfl) (by kernel_rfl) (by kernel_rfl) (Nat.le_of_ble_eq_true rfl) ?_
  rw [f42_tree]
  exact (f82_ok a b ha hs).callT rfl

def wr64 (n : Int) : Int := IntKind.i64.wrap n
/-- a row's sums, so far -/
def rowF (l : List Task) (s : Int) (acc : List Int) : List Int → Option (List Int)
  | [] => some acc
  | k :: r => if 0 ≤ k ∧ k < l.length then rowF l (wr64 (s + (l.getD k.toNat task0).km)) (acc ++ [wr64 (s + (l.getD k.toNat task0).km)]) r else none
def allF (l : List Task) (acc : List (List Int)) : List (List Int) → Option (List (List Int))
  | [] => some acc
  | t :: r => match rowF l 0 [] t with | some x => allF l (acc ++ [x]) r | none => none
def sumsR (l : List Task) (u : List (List Int)) : List (List Int) × Int := match allF l [] u with | some x => (x, 0) | none => ([], 2)
def runsR (l : List Task) (u : List (List Int)) : List (List Int) × Int := if tasksF l = 0 then sumsR l u else ([], tasksF l)

theorem rowF_len (l : List Task) : ∀ (t : List Int) (s : Int) (acc x : List Int), rowF l s acc t = some x → x.length = acc.length + t.length
  | [], s, acc, x, h => by simp [rowF] at h; simp [h]
  | k :: r, s, acc, x, h => by
    simp only [rowF] at h
    split at h
    · have := rowF_len l r _ _ x h
      simp at this ⊢; omega
    · simp at h

theorem allF_len (l : List Task) : ∀ (u acc x : List (List Int)), allF l acc u = some x → x.length = acc.length + u.length ∧ ∀ n, (∀ t ∈ u, t.length < n) → (∀ t ∈ acc, t.length < n) → ∀ t ∈ x, t.length < n
  | [], acc, x, h => by simp [allF] at h; subst h; exact ⟨by simp, fun n _ h => h⟩
  | t :: r, acc, x, h => by
    simp only [allF] at h
    split at h
    · rename_i y hy
      obtain ⟨h1, h2⟩ := allF_len l r _ x h
      refine ⟨by simp at h1 ⊢; omega, fun n hu ha => h2 n (fun q hq => hu q (by simp [hq])) fun q hq => ?_⟩
      rcases List.mem_append.1 hq with hq | hq
      · exact ha q hq
      · simp only [List.mem_singleton] at hq; subst hq
        have := rowF_len l t 0 [] q hy
        have := hu t (by simp)
        simp at *; omega
    · simp at h

theorem row_step {l : List Task} {t : List Int} {j : Nat} {s : Int} {rs : List Int} (h : j < t.length) : rowF l s rs (t.drop j) = if 0 ≤ t.getD (Int.toNat (j : Int)) 0 ∧ t.getD (Int.toNat (j : Int)) 0 < l.length then
    rowF l (wr64 (s + (l.getD (t.getD (Int.toNat (j : Int)) 0).toNat task0).km)) (rs ++ [wr64 (s + (l.getD (t.getD (Int.toNat (j : Int)) 0).toNat task0).km)]) (t.drop (j + 1)) else none := by
  rw [drop_cons (d := 0) h]; rfl

theorem f51_inner (l : List Task) (u : List (List Int)) (i : Nat) (acc : List (List Int)) (t : List Int) (hl : l.length < 2 ^ 63) (ht : t.length * 8 ≤ 2 ^ 47) {Q : Go.Exit → St → Prop} {K : AVal → Prop} (hr : Q .ret = fun s => retK TT Try.f51.results s K)
    (hx : ∀ rs, rowF l 0 [] t = some rs → Q (.exit 2) ⟨55, [(0, .pv false (tasksP l)), (7, .pv true (listsP acc)), (11, .pv true (intsP rs)), (19, .pv false (listsP u)), (20, bI u.length), (21, bI i)], [], 0, fun _ => 0⟩)
    (he : rowF l 0 [] t = none → K (.tup [nilL, bI 2])) {st : St} (h0 : Le st (f51_s11 l u i acc t 0 0 [])) :
    LoopK (run Try.prog TT shpR f51_fl (sub [1, 1, 1, 0, 1, 0, 0, 1, 1, 0, 0, 1, 1, 1, 0, 1, 0, 0] (bodyOf Try.f51))) Q st := by
  refine LoopK.for [0, 7, 10, 11, 19, 20, 21, 25, 26, 27] [0, 7, 11, 19, 20, 21] 0 (fun y : Nat × Int × List Int => f51_s11 l u i acc t y.1 y.2.1 y.2.2) (fun y => y.1 ≤ t.length ∧ y.2.2.length = y.1 ∧ rowF l 0 [] t = rowF l y.2.1 y.2.2 (t.drop y.1)) (fun y => t.length - y.1) (0, 0, []) _ hr h0 ⟨by simp, rfl, rfl⟩ ?_
  rintro ⟨j, s, rs⟩ ⟨hj, hlen, hp⟩
  simp only at hj hlen hp ⊢
  rw [f51_body11]
  refine br_dec (fun hc => ⟨⟨by omega, hc⟩, ?_⟩) fun hc => ?_
  · rw [row_step (by omega)] at hp
    generalize t.getD (Int.toNat (j : Int)) 0 = k at hp ⊢
    rw [wrap_i64 (by omega) (by omega)]
    refine (f76_ok _ _ _).callT (br_not (fun hq => ?_) fun hq => ?_)
    · have : ¬ (0 ≤ k ∧ k < l.length) := by
        have : ¬ (0 ≤ k ∧ k ≤ (l.length : Int) - 1) := by simpa [inB] using hq
        omega
      rw [if_neg this] at hp
      exact he hp
    have hq : 0 ≤ k ∧ k ≤ (l.length : Int) - 1 := by simpa [inB] using hq
    have hk : 0 ≤ k ∧ k < l.length := by omega
    rw [if_pos hk] at hp
    refine ⟨hk, ⟨by omega, by omega⟩, (j + 1, wr64 (s + (l.getD k.toNat task0).km), rs ++ [wr64 (s + (l.getD k.toNat task0).km)]), ⟨by simp only; omega, by simp [hlen], hp⟩, ?_, by simp only; omega⟩
    rw [wrap_i64 (n := (j : Int) + 1) (by omega) (by omega)]
    exact Le.env (.same rfl (.same rfl (.same rfl (.cons ls_out (.same rfl (.same rfl (.same rfl (.same rfl (.same rfl (.same rfl (EnvLe.nil _)))))))))))
  · refine hx rs ?_
    rw [hp, List.drop_eq_nil_of_le (by omega)]; rfl

theorem f51_outer (l : List Task) (u : List (List Int)) (hl : l.length < 2 ^ 63) (hu : u.length * 24 ≤ 2 ^ 47) (ht : ∀ t ∈ u, t.length * 8 ≤ 2 ^ 47) {Q : Go.Exit → St → Prop} {K : AVal → Prop} (hr : Q .ret = fun s => retK TT Try.f51.results s K)
    (hx : ∀ x, allF l [] u = some x → Q (.exit 0) ⟨55, [(7, .pv true (listsP x))], [], 0, fun _ => 0⟩) (he : allF l [] u = none → K (.tup [nilL, bI 2])) {st : St} (h0 : Le st (f51_s6 l u 0 [])) :
    LoopK (run Try.prog TT shpR f51_fl (sub [1, 1, 1, 0, 1, 0, 0] (bodyOf Try.f51))) Q st := by
  refine LoopK.for [0, 7, 19, 20, 21] [7] 0 (fun y : Nat × List (List Int) => f51_s6 l u y.1 y.2) (fun y => y.1 ≤ u.length ∧ y.2.length = y.1 ∧ allF l [] u = allF l y.2 (u.drop y.1)) (fun y => u.length - y.1) (0, []) _ hr h0 ⟨by simp, rfl, rfl⟩ ?_
  rintro ⟨i, acc⟩ ⟨hi, hlen, hp⟩
  simp only at hi hlen hp ⊢
  rw [f51_body6]
  refine br_dec (fun hc => ⟨⟨by omega, hc⟩, ?_⟩) fun hc => ?_
  · rw [drop_cons (d := []) (by omega)] at hp
    have hmem : u.getD i [] ∈ u := by rw [List.getD_eq_getElem?_getD, List.getElem?_eq_getElem (by omega)]; simp
    have hp : allF l [] u = match rowF l 0 [] (u.getD (Int.toNat (i : Int)) []) with | some x => allF l (acc ++ [x]) (u.drop (i + 1)) | none => none := hp
    refine f51_inner l u i acc (u.getD (Int.toNat (i : Int)) []) hl (ht _ hmem) (f51_ret11 _) (fun rs hrs => ?_) (fun hn => ?_) ?_
    · rw [f51_exit11_2 l u i acc [] 0 0 rs _ K]
      rw [hrs] at hp
      refine ⟨⟨by omega, by omega⟩, ?_⟩
      refine ⟨(i + 1, acc ++ [rs]), ⟨by simp only; omega, by simp [hlen], hp⟩, ?_, by simp only; omega⟩
      rw [wrap_i64 (by omega) (by omega)]
      exact Le.env (.same rfl (.cons ls_outs (.same rfl (.same rfl (.same rfl (EnvLe.nil _))))))
    · rw [hn] at hp; exact he hp
    · exact Le.env (.same rfl (.same rfl (.same rfl (.cons Vle.nil (.same rfl (.same rfl (.same rfl (.same rfl (.same rfl (.same rfl (EnvLe.nil _)))))))))))
  · refine hx acc ?_
    rw [hp, List.drop_eq_nil_of_le (by omega)]; rfl

theorem f52_inner (l : List Task) (u : List (List Int)) (i : Nat) (acc : List (List Int)) (t : List Int) (hl : l.length < 2 ^ 63) (ht : t.length * 8 ≤ 2 ^ 47) {Q : Go.Exit → St → Prop} {K : AVal → Prop} (hr : Q .ret = fun s => retK TT Try.f52.results s K)
    (hx : ∀ rs, rowF l 0 [] t = some rs → Q (.exit 2) ⟨51, [(0, .pv false (tasksP l)), (6, .pv true (listsP acc)), (10, .pv true (intsP rs)), (13, .pv false (listsP u)), (14, bI u.length), (15, bI i)], [], 0, fun _ => 0⟩)
    (he : rowF l 0 [] t = none → K (.tup [nilL, bI 2])) {st : St} (h0 : Le st (f52_s8 l u i acc t 0 0 [])) :
    LoopK (run Try.prog TT shpR f52_fl (sub [1, 1, 0, 1, 0, 0, 1, 1, 0, 0, 1, 1, 1, 0, 1, 0, 0] (bodyOf Try.f52))) Q st := by
  refine LoopK.for [0, 6, 9, 10, 13, 14, 15, 19, 20, 21] [0, 6, 10, 13, 14, 15] 0 (fun y : Nat × Int × List Int => f52_s8 l u i acc t y.1 y.2.1 y.2.2) (fun y => y.1 ≤ t.length ∧ y.2.2.length = y.1 ∧ rowF l 0 [] t = rowF l y.2.1 y.2.2 (t.drop y.1)) (fun y => t.length - y.1) (0, 0, []) _ hr h0 ⟨by simp, rfl, rfl⟩ ?_
  rintro ⟨j, s, rs⟩ ⟨hj, hlen, hp⟩
  simp only at hj hlen hp ⊢
  rw [f52_body8]
  refine br_dec (fun hc => ⟨⟨by omega, hc⟩, ?_⟩) fun hc => ?_
  · rw [row_step (by omega)] at hp
    generalize t.getD (Int.toNat (j : Int)) 0 = k at hp ⊢
    refine br_dec (fun h1 => ?_) fun h1 => br_dec (fun h2 => ?_) fun h2 => ?_
    · rw [if_neg (by omega)] at hp; exact he hp
    · rw [if_neg (by omega)] at hp; exact he hp
    have hk : 0 ≤ k ∧ k < l.length := by omega
    rw [if_pos hk] at hp
    refine ⟨hk, ⟨by omega, by omega⟩, (j + 1, wr64 (s + (l.getD k.toNat task0).km), rs ++ [wr64 (s + (l.getD k.toNat task0).km)]), ⟨by simp only; omega, by simp [hlen], hp⟩, ?_, by simp only; omega⟩
    rw [wrap_i64 (n := (j : Int) + 1) (by omega) (by omega)]
    exact Le.env (.same rfl (.same rfl (.same rfl (.cons ls_out (.same rfl (.same rfl (.same rfl (.same rfl (.same rfl (.same rfl (EnvLe.nil _)))))))))))
  · refine hx rs ?_
    rw [hp, List.drop_eq_nil_of_le (by omega)]; rfl

theorem f52_outer (l : List Task) (u : List (List Int)) (hl : l.length < 2 ^ 63) (hu : u.length * 24 ≤ 2 ^ 47) (ht : ∀ t ∈ u, t.length * 8 ≤ 2 ^ 47) {Q : Go.Exit → St → Prop} {K : AVal → Prop} (hr : Q .ret = fun s => retK TT Try.f52.results s K)
    (hx : ∀ x, allF l [] u = some x → Q (.exit 0) ⟨51, [(6, .pv true (listsP x))], [], 0, fun _ => 0⟩) (he : allF l [] u = none → K (.tup [nilL, bI 2])) {st : St} (h0 : Le st (f52_s3 l u 0 [])) :
    LoopK (run Try.prog TT shpR f52_fl (sub [1, 1, 0, 1, 0, 0] (bodyOf Try.f52))) Q st := by
  refine LoopK.for [0, 6, 13, 14, 15] [6] 0 (fun y : Nat × List (List Int) => f52_s3 l u y.1 y.2) (fun y => y.1 ≤ u.length ∧ y.2.length = y.1 ∧ allF l [] u = allF l y.2 (u.drop y.1)) (fun y => u.length - y.1) (0, []) _ hr h0 ⟨by simp, rfl, rfl⟩ ?_
  rintro ⟨i, acc⟩ ⟨hi, hlen, hp⟩
  simp only at hi hlen hp ⊢
  rw [f52_body3]
  refine br_dec (fun hc => ⟨⟨by omega, hc⟩, ?_⟩) fun hc => ?_
  · rw [drop_cons (d := []) (by omega)] at hp
    have hmem : u.getD i [] ∈ u := by rw [List.getD_eq_getElem?_getD, List.getElem?_eq_getElem (by omega)]; simp
    have hp : allF l [] u = match rowF l 0 [] (u.getD (Int.toNat (i : Int)) []) with | some x => allF l (acc ++ [x]) (u.drop (i + 1)) | none => none := hp
    refine f52_inner l u i acc (u.getD (Int.toNat (i : Int)) []) hl (ht _ hmem) (f52_ret8 _) (fun rs hrs => ?_) (fun hn => ?_) ?_
    · rw [f52_exit8_2 l u i acc [] 0 0 rs _ K]
      rw [hrs] at hp
      refine ⟨⟨by omega, by omega⟩, ?_⟩
      refine ⟨(i + 1, acc ++ [rs]), ⟨by simp only; omega, by simp [hlen], hp⟩, ?_, by simp only; omega⟩
      rw [wrap_i64 (by omega) (by omega)]
      exact Le.env (.same rfl (.cons ls_outs (.same rfl (.same rfl (.same rfl (EnvLe.nil _))))))
    · rw [hn] at hp; exact he hp
    · exact Le.env (.same rfl (.same rfl (.same rfl (.cons Vle.nil (.same rfl (.same rfl (.same rfl (.same rfl (.same rfl (.same rfl (EnvLe.nil _)))))))))))
  · refine hx acc ?_
    rw [hp, List.drop_eq_nil_of_le (by omega)]; rfl

theorem nil2_wle {e : Int} : Wle (.tup [nilL, bI e]) (.tup [.pv false (listsP []), bI e]) := Wle.tup (.cons (Wle.pv (ls_nil rfl)) (WleL.refl _))

theorem f52_ok (l : List Task) (u : List (List Int)) (hl : l.length < 2 ^ 63) (hu : u.length * 24 ≤ 2 ^ 47) (ht : ∀ t ∈ u, t.length * 8 ≤ 2 ^ 47) :
    CallOK Try.prog 52 [.pv false (tasksP l), .pv false (listsP u)] [] fun r _ => r = .tup [.pv false (listsP (sumsR l u).1), bI (sumsR l u).2] := by
  refine CallOK.le (CallOK.of_run (tabOf_ok _) hm (fn := Try.f52) (c := bodyOf Try.f52) (fl := f52_fl) (C := shpR) (by kernel_rfl) (by kernel_rfl) (by kernel_rfl) (Nat.le_of_ble_eq_true rfl) ?_)
  rw [f52_tree]
  refine f52_outer l u hl hu ht (f52_ret3 _) (fun x hx => ?_) (fun hn => ?_) (Le.env (.same rfl (.cons Vle.nil (.same rfl (.same rfl (.same rfl (EnvLe.nil _)))))))
  · rw [f52_exit3_0 l u 0 x, sumsR, hx]; exact Vle.refl _
  · rw [sumsR, hn]; exact Wle.vle nil2_wle

theorem f51_ok (l : List Task) (u : List (List Int)) (hl : l.length < 2 ^ 63) (hu : u.length * 24 ≤ 2 ^ 47) (ht : ∀ t ∈ u, t.length * 8 ≤ 2 ^ 47) :
    CallOK Try.prog 51 [.pv false (tasksP l), .pv false (listsP u)] [] fun r _ => r = .tup [.pv false (listsP (runsR l u).1), bI (runsR l u).2] := by
  refine CallOK.le (CallOK.of_run (tabOf_ok _) hm (fn := Try.f51) (c := bodyOf Try.f51) (fl := f51_fl) (C := shpR) (by kernel_rfl) (by kernel_rfl) (by kernel_rfl) (Nat.le_of_ble_eq_true rfl) ?_)
  rw [f51_tree]
  refine (f44_ok l hl).callT (br_ndec (fun h => ?_) fun h => ?_)
  · rw [runsR, if_neg h]; exact Wle.vle nil2_wle
  · rw [runsR, if_pos h]
    refine f51_outer l u hl hu ht (f51_ret6 _) (fun x hx => ?_) (fun hn => ?_) (Le.env (.same rfl (.cons Vle.nil (.same rfl (.same rfl (.same rfl (EnvLe.nil _)))))))
    · rw [f51_exit6_0 l u 0 x, sumsR, hx]; exact Vle.refl _
    · rw [sumsR, hn]; exact Wle.vle nil2_wle

theorem f10_ok (l : List Task) (u : List (List Int)) (hl : l.length < 2 ^ 63) (hu : u.length * 24 ≤ 2 ^ 47) (ht : ∀ t ∈ u, t.length * 8 ≤ 2 ^ 47) :
    CallOK Try.prog 10 [.pv false (tasksP l), .pv false (listsP u)] [] fun r _ => r = bB true := by
  refine CallOK.of_run (tabOf_ok _) hm (fn := Try.f10) (c := bodyOf Try.f10) (fl := f10_fl) (C := shpR) (by kernel_rfl) (by kernel_rfl) (by kernel_rfl) (Nat.le_of_ble_eq_true rfl) ?_
  rw [f10_tree]
  refine CallOK.callT (emb := fun x : List (List Int) × Int => .tup [.pv false (listsP x.1), bI x.2]) (y := runsR l u) (f51_ok l u hl hu ht) ?_
  have sm : ∀ x, allF l [] u = some x → x.length < 2 ^ 63 ∧ ∀ t ∈ x, t.length < 2 ^ 63 := fun x hx => by
    obtain ⟨h1, h2⟩ := allF_len l u [] x hx
    exact ⟨by simp at h1; omega, h2 _ (fun t h => by have := ht t h; omega) (fun t h => by simp at h)⟩
  refine (f45_ok l hl).callT (br_dec (fun h => ?_) fun h => ?_)
  · refine CallOK.callT (emb := fun x : List (List Int) × Int => .tup [.pv false (listsP x.1), bI x.2]) (y := sumsR l u) (f52_ok l u hl hu ht) ?_
    rw [show runsR l u = sumsR l u from if_pos h]
    refine f43_ok.callT (br_mk (fun _ => br_dec (fun _ => ?_) fun h => absurd rfl h) fun h => by simp at h)
    refine (f42_ok _ _ ?_ ?_).callT (by simp)
    · rw [sumsR]; split
      · rename_i x hx; exact (sm x hx).1
      · simp
    · rw [sumsR]; split
      · rename_i x hx; exact (sm x hx).2
      · simp
  · rw [show runsR l u = ([], tasksF l) from if_neg h]
    refine f43_ok.callT (br_mk (fun _ => br_dec (fun _ => ?_) fun h => absurd rfl h) fun h => by simp at h)
    refine ((f42_ok [] [] (by simp) (by simp)).args (args := [.pv false (listsP []), nilL]) (.same (.cons (Alen.pv (ls_nil rfl)) .nil))).callT ?_
    simp


end Go.Proofs.Ytciflideblafgaa
