/- The contract of FleetLegals: it returns true. -/
import Derived.Test.YtciflideblafgaaSets
import Derived.Test.YtciflideblafgaaDuty
open Go Go.Proofs.Ytciflideblafgaa.Fw
namespace Go.Proofs.Ytciflideblafgaa
set_option maxRecDepth 100000
def tskV (t : Task) : AVal := .agg (taskC t)
/-- a row of counters -/
def rowN (n : Nat) (m : Nat → Int) : Blk := .row 1 n (fun i _ => .int .i64 (m i)) fun _ _ => false
abbrev shpG : Nat → Shape
 | 75 | 76 | 66 | 43 | 97 => sh Bool bB
 | 44 | 45 | 49 | 95 | 56 | 57 => sh Int bI
 | _ => sh Unit fun _ => .undef
set_option linter.unusedVariables false
def f97_fl : Fl := ⟨fun r o => match r, o with | 0, 0 => 1 | 0, 1 => 1 | _, _ => 0, fun r => match r with  | _ => none, fun r => match r with  | _ => none⟩
def f49_fl : Fl := ⟨fun r o => match r, o with  | _, _ => 0, fun r => match r with  | _ => none, fun r => match r with  | _ => none⟩
def f95_fl : Fl := ⟨fun r o => match r, o with  | _, _ => 0, fun r => match r with  | _ => none, fun r => match r with  | _ => none⟩
def f56_fl : Fl := ⟨fun r o => match r, o with  | _, _ => 0, fun r => match r with | 3 => some [0, 1, 7, 18, 19, 20] | 6 => some [0, 1, 7, 9, 18, 19, 20, 24, 25, 26] | 20 => some [7, 82, 83, 84] | _ => none, fun r => match r with  | _ => none⟩
def f56_s3 (l : List Task) (n : Int) (u : List (List Int)) (i : Nat) (m : Nat → Int) : St := ⟨104, [(0, .pv false (tasksP l)), (1, bI n), (7, .arr 0 1 0 l.length), (18, .pv false (listsP u)), (19, bI u.length), (20, bI i)], [rowN l.length m], 0, fun _ => 0⟩
def f56_s6 (l : List Task) (n : Int) (u : List (List Int)) (i : Nat) (m : Nat → Int) (t : List Int) (j : Nat) : St := ⟨104, [(0, .pv false (tasksP l)), (1, bI n), (7, .arr 0 1 0 l.length), (9, .pv false (intsP t)), (18, .pv false (listsP u)), (19, bI u.length), (20, bI i), (24, .pv false (intsP t)), (25, bI t.length), (26, bI j)], [rowN l.length m], 0, fun _ => 0⟩
def f56_s20 (l : List Task) (n : Int) (u : List (List Int)) (i : Nat) (m : Nat → Int) : St := ⟨104, [(7, .arr 0 1 0 l.length), (82, .pv false (tasksP l)), (83, bI l.length), (84, bI i)], [rowN l.length m], 0, fun _ => 0⟩
def f57_fl : Fl := ⟨fun r o => match r, o with  | _, _ => 0, fun r => match r with | 6 => some [0, 1, 8, 24, 25, 26] | 9 => some [0, 1, 8, 10, 24, 25, 26, 30, 31, 32] | 21 => some [8, 78, 79, 80] | _ => none, fun r => match r with  | _ => none⟩
def f57_s6 (l : List Task) (n : Int) (u : List (List Int)) (i : Nat) (m : Nat → Int) : St := ⟨102, [(0, .pv false (tasksP l)), (1, bI n), (8, .arr 0 1 0 l.length), (24, .pv false (listsP u)), (25, bI u.length), (26, bI i)], [rowN l.length m], 0, fun _ => 0⟩
def f57_s9 (l : List Task) (n : Int) (u : List (List Int)) (i : Nat) (m : Nat → Int) (t : List Int) (j : Nat) : St := ⟨102, [(0, .pv false (tasksP l)), (1, bI n), (8, .arr 0 1 0 l.length), (10, .pv false (intsP t)), (24, .pv false (listsP u)), (25, bI u.length), (26, bI i), (30, .pv false (intsP t)), (31, bI t.length), (32, bI j)], [rowN l.length m], 0, fun _ => 0⟩
def f57_s21 (l : List Task) (n : Int) (u : List (List Int)) (i : Nat) (m : Nat → Int) : St := ⟨102, [(8, .arr 0 1 0 l.length), (78, .pv false (tasksP l)), (79, bI l.length), (80, bI i)], [rowN l.length m], 0, fun _ => 0⟩
def f12_fl : Fl := ⟨fun r o => match r, o with  | _, _ => 0, fun r => match r with  | _ => none, fun r => match r with  | _ => none⟩
theorem f56_ret3 (K : AVal → Prop) : kont Try.prog TT shpG f56_fl [1, 1, 0, 1, 0] (bodyOf Try.f56) (retQ TT Try.f56.results K) .ret = fun s => retK TT Try.f56.results s K := by kernel_rfl
theorem f56_ret6 (Q : Go.Exit → St → Prop) : kont Try.prog TT shpG f56_fl [1, 1, 0, 0, 1, 1, 0] (sub [1, 1, 0, 1, 0, 0] (bodyOf Try.f56)) Q .ret = Q .ret := by kernel_rfl
theorem f56_ret20 (K : AVal → Prop) : kont Try.prog TT shpG f56_fl [1, 1, 1, 0, 1, 0] (bodyOf Try.f56) (retQ TT Try.f56.results K) .ret = fun s => retK TT Try.f56.results s K := by kernel_rfl
theorem f57_ret6 (K : AVal → Prop) : kont Try.prog TT shpG f57_fl [1, 1, 1, 0, 1, 0] (bodyOf Try.f57) (retQ TT Try.f57.results K) .ret = fun s => retK TT Try.f57.results s K := by kernel_rfl
theorem f57_ret9 (Q : Go.Exit → St → Prop) : kont Try.prog TT shpG f57_fl [1, 1, 0, 0, 1, 1, 0] (sub [1, 1, 1, 0, 1, 0, 0] (bodyOf Try.f57)) Q .ret = Q .ret := by kernel_rfl
theorem f57_ret21 (K : AVal → Prop) : kont Try.prog TT shpG f57_fl [1, 1, 1, 1, 0, 1, 0] (bodyOf Try.f57) (retQ TT Try.f57.results K) .ret = fun s => retK TT Try.f57.results s K := by kernel_rfl
theorem f97_tree : ∀ (a b : Task) (n : Int) (K : AVal → Prop),
  run Try.prog TT shpG f97_fl (bodyOf Try.f97)
      (retQ TT (Go.Func.results Try.f97) K)
      (entry (Go.Func.ntmps Try.f97) [tskV a, tskV b, bI n]) =
    br (Decidable.decide (Task.frm b = Task.to a))
      (K (AVal.pv false (PV.bool (Decidable.decide (Go.IntKind.wrap Go.IntKind.i64 (Task.arr a + n) ≤ Task.dep b)))))
      (K (AVal.pv false (PV.bool false))) := by intros; kernel_rfl
theorem f49_tree : ∀ (l : List Task) (n : Int) (K : AVal → Prop),
  run Try.prog TT shpG f49_fl (bodyOf Try.f49)
      (retQ TT (Go.Func.results Try.f49) K)
      (entry (Go.Func.ntmps Try.f49) [AVal.pv false (tasksP l), bI n]) =
    CallT Try.prog (shpG 45) 45 [AVal.pv false (tasksP l)] [] fun (x : Int) =>
      br (!Decidable.decide (x = 0)) (K (AVal.pv false (PV.int Go.IntKind.i64 x)))
        (CallT Try.prog (shpG 75) 75
          [AVal.pv false (PV.int Go.IntKind.i64 n), AVal.pv false (PV.int Go.IntKind.i64 0),
            AVal.pv false (PV.int Go.IntKind.i64 28800)]
          [] fun (x : Bool) =>
          br (!x) (K (AVal.pv false (PV.int Go.IntKind.i64 2)))
            (K (AVal.pv false (PV.int Go.IntKind.i64 0)))) := by intros; kernel_rfl
theorem f95_tree : ∀ (l : List Task) (n : Int) (K : AVal → Prop),
  run Try.prog TT shpG f95_fl (bodyOf Try.f95)
      (retQ TT (Go.Func.results Try.f95) K)
      (entry (Go.Func.ntmps Try.f95) [AVal.pv false (tasksP l), bI n]) =
    CallT Try.prog (shpG 44) 44 [AVal.pv false (tasksP l)] [] fun (x : Int) =>
      br (!Decidable.decide (x = 0)) (K (AVal.pv false (PV.int Go.IntKind.i64 x)))
        (CallT Try.prog (shpG 76) 76
          [AVal.pv false (PV.int Go.IntKind.i64 n), AVal.pv false (PV.int Go.IntKind.i64 0),
            AVal.pv false (PV.int Go.IntKind.i64 28800)]
          [] fun (x : Bool) =>
          br (!x) (K (AVal.pv false (PV.int Go.IntKind.i64 2)))
            (K (AVal.pv false (PV.int Go.IntKind.i64 0)))) := by intros; kernel_rfl
theorem f56_tree : ∀ (l : List Task) (n : Int) (u : List (List Int)) (K : AVal → Prop),
  run Try.prog TT shpG f56_fl (bodyOf Try.f56)
      (retQ TT (Go.Func.results Try.f56) K)
      (entry (Go.Func.ntmps Try.f56)
        [AVal.pv false (tasksP l), bI n, AVal.pv false (listsP u)]) =
    ((0 ≤ (↑(List.length l) : Int) ∧ (↑(List.length l) : Int) ≤ (↑(List.length l) : Int) ∧ (↑(List.length l) : Int) ≤ 2 ^ 47 ∧ (↑8 : Int) * (↑(List.length l) : Int) ≤ 2 ^ 47) ∧
      LoopK
        (run Try.prog TT shpG f56_fl
          (sub [1, 1, 0, 1, 0, 0] (bodyOf Try.f56)))
        (kont Try.prog TT shpG f56_fl [1, 1, 0, 1, 0] (bodyOf Try.f56)
          (retQ TT (Go.Func.results Try.f56) K))
        { nt := 104,
          env :=
            [(0, AVal.pv false (tasksP l)), (1, AVal.pv false (PV.int Go.IntKind.i64 n)),
              (7, AVal.arr 0 1 0 (Int.toNat (↑(List.length l) : Int))), (18, AVal.pv false (listsP u)),
              (19, AVal.pv false (PV.int Go.IntKind.i64 (↑(List.length u) : Int))),
              (20, AVal.pv false (PV.int Go.IntKind.i64 0))],
          heap :=
            [Blk.row 1 (Int.toNat (↑(List.length l) : Int))
                (fun (x j : Nat) => pvAt [AVal.pv false (PV.int Go.IntKind.i64 0)] j) fun (x x_1 : Nat) => false] }) := by intros; kernel_rfl
theorem f56_body3 : ∀ (l : List Task) (n : Int) (u : List (List Int)) (i : Nat) (m : Nat → Int) (N : St → Prop) (X : Nat → St → Prop)
  (K : AVal → Prop),
  run Try.prog TT shpG f56_fl
      (sub [1, 1, 0, 1, 0, 0] (bodyOf Try.f56))
      (cutQ [0, 1, 7, 18, 19, 20] [0, 7] 1 N X fun (s : St) => retK TT (Go.Func.results Try.f56) s K)
      (f56_s3 l n u i m) =
    br (Decidable.decide ((↑i : Int) < (↑(List.length u) : Int)))
      ((0 ≤ (↑i : Int) ∧ (↑i : Int) < (↑(List.length u) : Int)) ∧
        LoopK
          (run Try.prog TT shpG f56_fl
            (sub [1, 1, 0, 1, 0, 0, 1, 1, 0, 0, 1, 1, 0, 0] (bodyOf Try.f56)))
          (kont Try.prog TT shpG f56_fl [1, 1, 0, 0, 1, 1, 0]
            (sub [1, 1, 0, 1, 0, 0] (bodyOf Try.f56))
            (cutQ [0, 1, 7, 18, 19, 20] [0, 7] 1 N X fun (s : St) => retK TT (Go.Func.results Try.f56) s K))
          { nt := 104,
            env :=
              [(0, AVal.pv false (tasksP l)), (1, AVal.pv false (PV.int Go.IntKind.i64 n)),
                (7, AVal.arr 0 1 0 (List.length l)), (9, AVal.pv false (intsP (List.getD u (Int.toNat (↑i : Int)) []))),
                (18, AVal.pv false (listsP u)),
                (19, AVal.pv false (PV.int Go.IntKind.i64 (↑(List.length u) : Int))),
                (20, AVal.pv false (PV.int Go.IntKind.i64 (↑i : Int))),
                (24, AVal.pv false (intsP (List.getD u (Int.toNat (↑i : Int)) []))),
                (25, AVal.pv false (PV.int Go.IntKind.i64 (↑(List.length (List.getD u (Int.toNat (↑i : Int)) [])) : Int))),
                (26, AVal.pv false (PV.int Go.IntKind.i64 0))],
            heap := [rowN (List.length l) m] })
      (X 0
        { nt := 104, env := [(0, AVal.pv false (tasksP l)), (7, AVal.arr 0 1 0 (List.length l))],
          heap := [rowN (List.length l) m] }) := by intros; kernel_rfl
theorem f56_exit3_0 : ∀ (l : List Task) (n : Int) (u : List (List Int)) (i : Nat) (m : Nat → Int) (K : AVal → Prop),
  kont Try.prog TT shpG f56_fl [1, 1, 0, 1, 0] (bodyOf Try.f56)
      (retQ TT (Go.Func.results Try.f56) K) (Go.Exit.exit 0)
      { nt := 104, env := [(0, AVal.pv false (tasksP l)), (7, AVal.arr 0 1 0 (List.length l))],
        heap := [rowN (List.length l) m] } =
    LoopK
      (run Try.prog TT shpG f56_fl
        (sub [1, 1, 1, 0, 1, 0, 0] (bodyOf Try.f56)))
      (kont Try.prog TT shpG f56_fl [1, 1, 1, 0, 1, 0] (bodyOf Try.f56)
        (retQ TT (Go.Func.results Try.f56) K))
      { nt := 104,
        env :=
          [(7, AVal.arr 0 1 0 (List.length l)), (82, AVal.pv false (tasksP l)),
            (83, AVal.pv false (PV.int Go.IntKind.i64 (↑(List.length l) : Int))),
            (84, AVal.pv false (PV.int Go.IntKind.i64 0))],
        heap := [rowN (List.length l) m] } := by intros; kernel_rfl
theorem f56_body6 : ∀ (l : List Task) (n : Int) (u : List (List Int)) (i : Nat) (m : Nat → Int) (t : List Int) (j : Nat) (N : St → Prop) (X : Nat → St → Prop)
  (K : AVal → Prop),
  run Try.prog TT shpG f56_fl
      (sub [1, 1, 0, 1, 0, 0, 1, 1, 0, 0, 1, 1, 0, 0] (bodyOf Try.f56))
      (cutQ [0, 1, 7, 9, 18, 19, 20, 24, 25, 26] [0, 1, 7, 18, 19, 20] 1 N X fun (s : St) =>
        retK TT (Go.Func.results Try.f56) s K)
      (f56_s6 l n u i m t j) =
    br (Decidable.decide ((↑j : Int) < (↑(List.length t) : Int)))
      ((0 ≤ (↑j : Int) ∧ (↑j : Int) < (↑(List.length t) : Int)) ∧
        br (Decidable.decide (List.getD t (Int.toNat (↑j : Int)) 0 < 0)) (K (AVal.pv false (PV.int Go.IntKind.i64 2)))
          (br (Decidable.decide ((↑(List.length l) : Int) ≤ List.getD t (Int.toNat (↑j : Int)) 0)) (K (AVal.pv false (PV.int Go.IntKind.i64 2)))
            ((Int.ofNat 0 ≤ Int.ofNat 0 ∧ 0 ≤ (↑j : Int) ∧ (↑j : Int) ≤ (↑(List.length t) : Int)) ∧
              CallT Try.prog (shpG 66) 66
                [AVal.pv false
                    (PV.lst 1 NF.any (Int.toNat ((↑j : Int) - 0)) fun (i j : Nat) => PV.int Go.IntKind.i64 (List.getD t (0 + i) 0)),
                  AVal.pv false (PV.int Go.IntKind.i64 (List.getD t (Int.toNat (↑j : Int)) 0))]
                [] fun (x : Bool) =>
                br x (K (AVal.pv false (PV.int Go.IntKind.i64 6)))
                  (br (Decidable.decide (0 < (↑j : Int)))
                    ((0 ≤ Go.IntKind.wrap Go.IntKind.i64 ((↑j : Int) - 1) ∧ Go.IntKind.wrap Go.IntKind.i64 ((↑j : Int) - 1) < (↑(List.length t) : Int)) ∧
                      (0 ≤ List.getD t (Int.toNat (Go.IntKind.wrap Go.IntKind.i64 ((↑j : Int) - 1))) 0 ∧ List.getD t (Int.toNat (Go.IntKind.wrap Go.IntKind.i64 ((↑j : Int) - 1))) 0 < (↑(List.length l) : Int)) ∧
                        (0 ≤ List.getD t (Int.toNat (↑j : Int)) 0 ∧ List.getD t (Int.toNat (↑j : Int)) 0 < (↑(List.length l) : Int)) ∧
                          br
                            (!Decidable.decide
                                (Task.to (List.getD l (Int.toNat (List.getD t (Int.toNat (Go.IntKind.wrap Go.IntKind.i64 ((↑j : Int) - 1))) 0)) task0) =
                                  Task.frm (List.getD l (Int.toNat (List.getD t (Int.toNat (↑j : Int)) 0)) task0)))
                            (K (AVal.pv false (PV.int Go.IntKind.i64 13)))
                            ((0 ≤ List.getD t (Int.toNat (↑j : Int)) 0 ∧ List.getD t (Int.toNat (↑j : Int)) 0 < (↑(List.length l) : Int)) ∧
                              br
                                (Decidable.decide
                                  (Task.dep (List.getD l (Int.toNat (List.getD t (Int.toNat (↑j : Int)) 0)) task0) <
                                    Go.IntKind.wrap Go.IntKind.i64
                                      (Task.arr (List.getD l (Int.toNat (List.getD t (Int.toNat (Go.IntKind.wrap Go.IntKind.i64 ((↑j : Int) - 1))) 0)) task0) + n)))
                                (K (AVal.pv false (PV.int Go.IntKind.i64 13)))
                                ((0 ≤ List.getD t (Int.toNat (↑j : Int)) 0 ∧ List.getD t (Int.toNat (↑j : Int)) 0 < (↑(List.length l) : Int)) ∧
                                  0 + Int.toNat (List.getD t (Int.toNat (↑j : Int)) 0) < List.length l ∧
                                    (0 ≤ List.getD t (Int.toNat (↑j : Int)) 0 ∧ List.getD t (Int.toNat (↑j : Int)) 0 < (↑(List.length l) : Int)) ∧
                                      0 + Int.toNat (List.getD t (Int.toNat (↑j : Int)) 0) < List.length l ∧
                                        N
                                          { nt := 104,
                                            env :=
                                              [(0, AVal.pv false (tasksP l)),
                                                (1, AVal.pv false (PV.int Go.IntKind.i64 n)), (7, AVal.arr 0 1 0 (List.length l)),
                                                (9, AVal.pv false (intsP t)), (18, AVal.pv false (listsP u)),
                                                (19, AVal.pv false (PV.int Go.IntKind.i64 (↑(List.length u) : Int))),
                                                (20, AVal.pv false (PV.int Go.IntKind.i64 (↑i : Int))),
                                                (24, AVal.pv false (intsP t)),
                                                (25, AVal.pv false (PV.int Go.IntKind.i64 (↑(List.length t) : Int))),
                                                (26, AVal.pv false (PV.int Go.IntKind.i64 (Go.IntKind.wrap Go.IntKind.i64 ((↑j : Int) + 1))))],
                                            heap :=
                                              [Blk.row 1 (List.length l)
                                                  (fun (a b : Nat) =>
                                                    bif Nat.beq a (0 + Int.toNat (List.getD t (Int.toNat (↑j : Int)) 0)) && Nat.beq b 0 then
                                                      PV.int Go.IntKind.i64 (Go.IntKind.wrap Go.IntKind.i64 (m (0 + Int.toNat (List.getD t (Int.toNat (↑j : Int)) 0)) + 1))
                                                    else PV.int Go.IntKind.i64 (m a))
                                                  fun (a b : Nat) => bif Nat.beq a (0 + Int.toNat (List.getD t (Int.toNat (↑j : Int)) 0)) && Nat.beq b 0 then false else false] })))
                    ((0 ≤ List.getD t (Int.toNat (↑j : Int)) 0 ∧ List.getD t (Int.toNat (↑j : Int)) 0 < (↑(List.length l) : Int)) ∧
                      0 + Int.toNat (List.getD t (Int.toNat (↑j : Int)) 0) < List.length l ∧
                        (0 ≤ List.getD t (Int.toNat (↑j : Int)) 0 ∧ List.getD t (Int.toNat (↑j : Int)) 0 < (↑(List.length l) : Int)) ∧
                          0 + Int.toNat (List.getD t (Int.toNat (↑j : Int)) 0) < List.length l ∧
                            N
                              { nt := 104,
                                env :=
                                  [(0, AVal.pv false (tasksP l)), (1, AVal.pv false (PV.int Go.IntKind.i64 n)),
                                    (7, AVal.arr 0 1 0 (List.length l)), (9, AVal.pv false (intsP t)),
                                    (18, AVal.pv false (listsP u)),
                                    (19, AVal.pv false (PV.int Go.IntKind.i64 (↑(List.length u) : Int))),
                                    (20, AVal.pv false (PV.int Go.IntKind.i64 (↑i : Int))),
                                    (24, AVal.pv false (intsP t)),
                                    (25, AVal.pv false (PV.int Go.IntKind.i64 (↑(List.length t) : Int))),
                                    (26, AVal.pv false (PV.int Go.IntKind.i64 (Go.IntKind.wrap Go.IntKind.i64 ((↑j : Int) + 1))))],
                                heap :=
                                  [Blk.row 1 (List.length l)
                                      (fun (a b : Nat) =>
                                        bif Nat.beq a (0 + Int.toNat (List.getD t (Int.toNat (↑j : Int)) 0)) && Nat.beq b 0 then
                                          PV.int Go.IntKind.i64 (Go.IntKind.wrap Go.IntKind.i64 (m (0 + Int.toNat (List.getD t (Int.toNat (↑j : Int)) 0)) + 1))
                                        else PV.int Go.IntKind.i64 (m a))
                                      fun (a b : Nat) => bif Nat.beq a (0 + Int.toNat (List.getD t (Int.toNat (↑j : Int)) 0)) && Nat.beq b 0 then false else false] })))))
      (X 2
        { nt := 104,
          env :=
            [(0, AVal.pv false (tasksP l)), (1, AVal.pv false (PV.int Go.IntKind.i64 n)),
              (7, AVal.arr 0 1 0 (List.length l)), (18, AVal.pv false (listsP u)),
              (19, AVal.pv false (PV.int Go.IntKind.i64 (↑(List.length u) : Int))),
              (20, AVal.pv false (PV.int Go.IntKind.i64 (↑i : Int)))],
          heap := [rowN (List.length l) m] }) := by intros; kernel_rfl
theorem f56_exit6_2 : ∀ (l : List Task) (n : Int) (u : List (List Int)) (i : Nat) (m : Nat → Int) (t : List Int) (j : Nat) (Q : Go.Exit → St → Prop) (K : AVal → Prop),
  kont Try.prog TT shpG f56_fl [1, 1, 0, 0, 1, 1, 0]
      (sub [1, 1, 0, 1, 0, 0] (bodyOf Try.f56)) Q (Go.Exit.exit 2)
      { nt := 104,
        env :=
          [(0, AVal.pv false (tasksP l)), (1, bI n), (7, AVal.arr 0 1 0 (List.length l)),
            (18, AVal.pv false (listsP u)), (19, bI (↑(List.length u) : Int)), (20, bI (↑i : Int))],
        heap := [rowN (List.length l) m] } =
    Q Go.Exit.normal
      { nt := 104,
        env :=
          [(20, AVal.pv false (PV.int Go.IntKind.i64 (Go.IntKind.wrap Go.IntKind.i64 ((↑i : Int) + 1)))),
            (81, AVal.pv false (PV.int Go.IntKind.i64 (Go.IntKind.wrap Go.IntKind.i64 ((↑i : Int) + 1)))),
            (0, AVal.pv false (tasksP l)), (1, bI n), (7, AVal.arr 0 1 0 (List.length l)),
            (18, AVal.pv false (listsP u)), (19, bI (↑(List.length u) : Int)), (20, bI (↑i : Int))],
        heap := [rowN (List.length l) m] } := by intros; kernel_rfl
theorem f56_body20 : ∀ (l : List Task) (n : Int) (u : List (List Int)) (i : Nat) (m : Nat → Int) (N : St → Prop) (X : Nat → St → Prop)
  (K : AVal → Prop),
  run Try.prog TT shpG f56_fl
      (sub [1, 1, 1, 0, 1, 0, 0] (bodyOf Try.f56))
      (cutQ [7, 82, 83, 84] [] 1 N X fun (s : St) => retK TT (Go.Func.results Try.f56) s K)
      (f56_s20 l n u i m) =
    br (Decidable.decide ((↑i : Int) < (↑(List.length l) : Int)))
      ((0 ≤ (↑i : Int) ∧ (↑i : Int) < (↑(List.length l) : Int)) ∧
        (0 ≤ (↑i : Int) ∧ (↑i : Int) < (↑(List.length l) : Int)) ∧
          0 + Int.toNat (↑i : Int) < List.length l ∧
            br (Decidable.decide (Task.units (List.getD l (Int.toNat (↑i : Int)) task0) < m (0 + Int.toNat (↑i : Int))))
              (K (AVal.pv false (PV.int Go.IntKind.i64 4)))
              ((0 ≤ (↑i : Int) ∧ (↑i : Int) < (↑(List.length l) : Int)) ∧
                0 + Int.toNat (↑i : Int) < List.length l ∧
                  br (Decidable.decide (m (0 + Int.toNat (↑i : Int)) < Task.units (List.getD l (Int.toNat (↑i : Int)) task0)))
                    (K (AVal.pv false (PV.int Go.IntKind.i64 9)))
                    (N
                      { nt := 104,
                        env :=
                          [(7, AVal.arr 0 1 0 (List.length l)), (82, AVal.pv false (tasksP l)),
                            (83, AVal.pv false (PV.int Go.IntKind.i64 (↑(List.length l) : Int))),
                            (84, AVal.pv false (PV.int Go.IntKind.i64 (Go.IntKind.wrap Go.IntKind.i64 ((↑i : Int) + 1))))],
                        heap := [rowN (List.length l) m] })))
      (X 4 { nt := 104, env := [], heap := [rowN (List.length l) m] }) := by intros; kernel_rfl
theorem f56_exit20_4 : ∀ (l : List Task) (n : Int) (u : List (List Int)) (i : Nat) (m : Nat → Int) (K : AVal → Prop),
  kont Try.prog TT shpG f56_fl [1, 1, 1, 0, 1, 0] (bodyOf Try.f56)
      (retQ TT (Go.Func.results Try.f56) K) (Go.Exit.exit 4) { nt := 104, env := [], heap := [rowN (List.length l) m] } =
    K (AVal.pv false (PV.int Go.IntKind.i64 0)) := by intros; kernel_rfl
theorem f57_tree : ∀ (l : List Task) (n : Int) (u : List (List Int)) (K : AVal → Prop),
  run Try.prog TT shpG f57_fl (bodyOf Try.f57)
      (retQ TT (Go.Func.results Try.f57) K)
      (entry (Go.Func.ntmps Try.f57)
        [AVal.pv false (tasksP l), bI n, AVal.pv false (listsP u)]) =
    CallT Try.prog (shpG 95) 95
      [AVal.pv false (tasksP l), AVal.pv false (PV.int Go.IntKind.i64 n)] [] fun (x : Int) =>
      br (!Decidable.decide (x = 0)) (K (AVal.pv false (PV.int Go.IntKind.i64 x)))
        ((0 ≤ (↑(List.length l) : Int) ∧ (↑(List.length l) : Int) ≤ (↑(List.length l) : Int) ∧ (↑(List.length l) : Int) ≤ 2 ^ 47 ∧ (↑8 : Int) * (↑(List.length l) : Int) ≤ 2 ^ 47) ∧
          LoopK
            (run Try.prog TT shpG f57_fl
              (sub [1, 1, 1, 0, 1, 0, 0] (bodyOf Try.f57)))
            (kont Try.prog TT shpG f57_fl [1, 1, 1, 0, 1, 0] (bodyOf Try.f57)
              (retQ TT (Go.Func.results Try.f57) K))
            { nt := 102,
              env :=
                [(0, AVal.pv false (tasksP l)), (1, AVal.pv false (PV.int Go.IntKind.i64 n)),
                  (8, AVal.arr 0 1 0 (Int.toNat (↑(List.length l) : Int))), (24, AVal.pv false (listsP u)),
                  (25, AVal.pv false (PV.int Go.IntKind.i64 (↑(List.length u) : Int))),
                  (26, AVal.pv false (PV.int Go.IntKind.i64 0))],
              heap :=
                [Blk.row 1 (Int.toNat (↑(List.length l) : Int))
                    (fun (x j : Nat) => pvAt [AVal.pv false (PV.int Go.IntKind.i64 0)] j) fun (x x_1 : Nat) => false] }) := by intros; kernel_rfl
theorem f57_body6 : ∀ (l : List Task) (n : Int) (u : List (List Int)) (i : Nat) (m : Nat → Int) (N : St → Prop) (X : Nat → St → Prop)
  (K : AVal → Prop),
  run Try.prog TT shpG f57_fl
      (sub [1, 1, 1, 0, 1, 0, 0] (bodyOf Try.f57))
      (cutQ [0, 1, 8, 24, 25, 26] [0, 8] 1 N X fun (s : St) => retK TT (Go.Func.results Try.f57) s K)
      (f57_s6 l n u i m) =
    br (Decidable.decide ((↑i : Int) < (↑(List.length u) : Int)))
      ((0 ≤ (↑i : Int) ∧ (↑i : Int) < (↑(List.length u) : Int)) ∧
        LoopK
          (run Try.prog TT shpG f57_fl
            (sub [1, 1, 1, 0, 1, 0, 0, 1, 1, 0, 0, 1, 1, 0, 0] (bodyOf Try.f57)))
          (kont Try.prog TT shpG f57_fl [1, 1, 0, 0, 1, 1, 0]
            (sub [1, 1, 1, 0, 1, 0, 0] (bodyOf Try.f57))
            (cutQ [0, 1, 8, 24, 25, 26] [0, 8] 1 N X fun (s : St) => retK TT (Go.Func.results Try.f57) s K))
          { nt := 102,
            env :=
              [(0, AVal.pv false (tasksP l)), (1, AVal.pv false (PV.int Go.IntKind.i64 n)),
                (8, AVal.arr 0 1 0 (List.length l)), (10, AVal.pv false (intsP (List.getD u (Int.toNat (↑i : Int)) []))),
                (24, AVal.pv false (listsP u)),
                (25, AVal.pv false (PV.int Go.IntKind.i64 (↑(List.length u) : Int))),
                (26, AVal.pv false (PV.int Go.IntKind.i64 (↑i : Int))),
                (30, AVal.pv false (intsP (List.getD u (Int.toNat (↑i : Int)) []))),
                (31, AVal.pv false (PV.int Go.IntKind.i64 (↑(List.length (List.getD u (Int.toNat (↑i : Int)) [])) : Int))),
                (32, AVal.pv false (PV.int Go.IntKind.i64 0))],
            heap := [rowN (List.length l) m] })
      (X 0
        { nt := 102, env := [(0, AVal.pv false (tasksP l)), (8, AVal.arr 0 1 0 (List.length l))],
          heap := [rowN (List.length l) m] }) := by intros; kernel_rfl
theorem f57_exit6_0 : ∀ (l : List Task) (n : Int) (u : List (List Int)) (i : Nat) (m : Nat → Int) (K : AVal → Prop),
  kont Try.prog TT shpG f57_fl [1, 1, 1, 0, 1, 0] (bodyOf Try.f57)
      (retQ TT (Go.Func.results Try.f57) K) (Go.Exit.exit 0)
      { nt := 102, env := [(0, AVal.pv false (tasksP l)), (8, AVal.arr 0 1 0 (List.length l))],
        heap := [rowN (List.length l) m] } =
    LoopK
      (run Try.prog TT shpG f57_fl
        (sub [1, 1, 1, 1, 0, 1, 0, 0] (bodyOf Try.f57)))
      (kont Try.prog TT shpG f57_fl [1, 1, 1, 1, 0, 1, 0] (bodyOf Try.f57)
        (retQ TT (Go.Func.results Try.f57) K))
      { nt := 102,
        env :=
          [(8, AVal.arr 0 1 0 (List.length l)), (78, AVal.pv false (tasksP l)),
            (79, AVal.pv false (PV.int Go.IntKind.i64 (↑(List.length l) : Int))),
            (80, AVal.pv false (PV.int Go.IntKind.i64 0))],
        heap := [rowN (List.length l) m] } := by intros; kernel_rfl
theorem f57_body9 : ∀ (l : List Task) (n : Int) (u : List (List Int)) (i : Nat) (m : Nat → Int) (t : List Int) (j : Nat) (N : St → Prop) (X : Nat → St → Prop)
  (K : AVal → Prop),
  run Try.prog TT shpG f57_fl
      (sub [1, 1, 1, 0, 1, 0, 0, 1, 1, 0, 0, 1, 1, 0, 0] (bodyOf Try.f57))
      (cutQ [0, 1, 8, 10, 24, 25, 26, 30, 31, 32] [0, 1, 8, 24, 25, 26] 1 N X fun (s : St) =>
        retK TT (Go.Func.results Try.f57) s K)
      (f57_s9 l n u i m t j) =
    br (Decidable.decide ((↑j : Int) < (↑(List.length t) : Int)))
      ((0 ≤ (↑j : Int) ∧ (↑j : Int) < (↑(List.length t) : Int)) ∧
        CallT Try.prog (shpG 76) 76
          [AVal.pv false (PV.int Go.IntKind.i64 (List.getD t (Int.toNat (↑j : Int)) 0)),
            AVal.pv false (PV.int Go.IntKind.i64 0),
            AVal.pv false (PV.int Go.IntKind.i64 (Go.IntKind.wrap Go.IntKind.i64 ((↑(List.length l) : Int) - 1)))]
          [] fun (x : Bool) =>
          br (!x) (K (AVal.pv false (PV.int Go.IntKind.i64 2)))
            ((Int.ofNat 0 ≤ Int.ofNat 0 ∧ 0 ≤ (↑j : Int) ∧ (↑j : Int) ≤ (↑(List.length t) : Int)) ∧
              CallT Try.prog (shpG 66) 66
                [AVal.pv false
                    (PV.lst 1 NF.any (Int.toNat ((↑j : Int) - 0)) fun (i j : Nat) => PV.int Go.IntKind.i64 (List.getD t (0 + i) 0)),
                  AVal.pv false (PV.int Go.IntKind.i64 (List.getD t (Int.toNat (↑j : Int)) 0))]
                [] fun (x : Bool) =>
                br x (K (AVal.pv false (PV.int Go.IntKind.i64 6)))
                  (br (Decidable.decide (0 < (↑j : Int)))
                    ((0 ≤ Go.IntKind.wrap Go.IntKind.i64 ((↑j : Int) - 1) ∧ Go.IntKind.wrap Go.IntKind.i64 ((↑j : Int) - 1) < (↑(List.length t) : Int)) ∧
                      (0 ≤ List.getD t (Int.toNat (Go.IntKind.wrap Go.IntKind.i64 ((↑j : Int) - 1))) 0 ∧ List.getD t (Int.toNat (Go.IntKind.wrap Go.IntKind.i64 ((↑j : Int) - 1))) 0 < (↑(List.length l) : Int)) ∧
                        (0 ≤ List.getD t (Int.toNat (↑j : Int)) 0 ∧ List.getD t (Int.toNat (↑j : Int)) 0 < (↑(List.length l) : Int)) ∧
                          CallT Try.prog (shpG 97) 97
                            [AVal.agg
                                [AVal.pv false
                                    (PV.int Go.IntKind.i64
                                      (Task.frm (List.getD l (Int.toNat (List.getD t (Int.toNat (Go.IntKind.wrap Go.IntKind.i64 ((↑j : Int) - 1))) 0)) task0))),
                                  AVal.pv false
                                    (PV.int Go.IntKind.i64
                                      (Task.to (List.getD l (Int.toNat (List.getD t (Int.toNat (Go.IntKind.wrap Go.IntKind.i64 ((↑j : Int) - 1))) 0)) task0))),
                                  AVal.pv false
                                    (PV.int Go.IntKind.i64
                                      (Task.dep (List.getD l (Int.toNat (List.getD t (Int.toNat (Go.IntKind.wrap Go.IntKind.i64 ((↑j : Int) - 1))) 0)) task0))),
                                  AVal.pv false
                                    (PV.int Go.IntKind.i64
                                      (Task.arr (List.getD l (Int.toNat (List.getD t (Int.toNat (Go.IntKind.wrap Go.IntKind.i64 ((↑j : Int) - 1))) 0)) task0))),
                                  AVal.pv false
                                    (PV.int Go.IntKind.i64
                                      (Task.km (List.getD l (Int.toNat (List.getD t (Int.toNat (Go.IntKind.wrap Go.IntKind.i64 ((↑j : Int) - 1))) 0)) task0))),
                                  AVal.pv false
                                    (PV.int Go.IntKind.i64
                                      (Task.units (List.getD l (Int.toNat (List.getD t (Int.toNat (Go.IntKind.wrap Go.IntKind.i64 ((↑j : Int) - 1))) 0)) task0)))],
                              AVal.agg
                                [AVal.pv false
                                    (PV.int Go.IntKind.i64 (Task.frm (List.getD l (Int.toNat (List.getD t (Int.toNat (↑j : Int)) 0)) task0))),
                                  AVal.pv false
                                    (PV.int Go.IntKind.i64 (Task.to (List.getD l (Int.toNat (List.getD t (Int.toNat (↑j : Int)) 0)) task0))),
                                  AVal.pv false
                                    (PV.int Go.IntKind.i64 (Task.dep (List.getD l (Int.toNat (List.getD t (Int.toNat (↑j : Int)) 0)) task0))),
                                  AVal.pv false
                                    (PV.int Go.IntKind.i64 (Task.arr (List.getD l (Int.toNat (List.getD t (Int.toNat (↑j : Int)) 0)) task0))),
                                  AVal.pv false
                                    (PV.int Go.IntKind.i64 (Task.km (List.getD l (Int.toNat (List.getD t (Int.toNat (↑j : Int)) 0)) task0))),
                                  AVal.pv false
                                    (PV.int Go.IntKind.i64 (Task.units (List.getD l (Int.toNat (List.getD t (Int.toNat (↑j : Int)) 0)) task0)))],
                              AVal.pv false (PV.int Go.IntKind.i64 n)]
                            [] fun (x : Bool) =>
                            br (!x) (K (AVal.pv false (PV.int Go.IntKind.i64 13)))
                              ((0 ≤ List.getD t (Int.toNat (↑j : Int)) 0 ∧ List.getD t (Int.toNat (↑j : Int)) 0 < (↑(List.length l) : Int)) ∧
                                0 + Int.toNat (List.getD t (Int.toNat (↑j : Int)) 0) < List.length l ∧
                                  (0 ≤ List.getD t (Int.toNat (↑j : Int)) 0 ∧ List.getD t (Int.toNat (↑j : Int)) 0 < (↑(List.length l) : Int)) ∧
                                    0 + Int.toNat (List.getD t (Int.toNat (↑j : Int)) 0) < List.length l ∧
                                      N
                                        { nt := 102,
                                          env :=
                                            [(0, AVal.pv false (tasksP l)),
                                              (1, AVal.pv false (PV.int Go.IntKind.i64 n)), (8, AVal.arr 0 1 0 (List.length l)),
                                              (10, AVal.pv false (intsP t)), (24, AVal.pv false (listsP u)),
                                              (25, AVal.pv false (PV.int Go.IntKind.i64 (↑(List.length u) : Int))),
                                              (26, AVal.pv false (PV.int Go.IntKind.i64 (↑i : Int))),
                                              (30, AVal.pv false (intsP t)),
                                              (31, AVal.pv false (PV.int Go.IntKind.i64 (↑(List.length t) : Int))),
                                              (32, AVal.pv false (PV.int Go.IntKind.i64 (Go.IntKind.wrap Go.IntKind.i64 ((↑j : Int) + 1))))],
                                          heap :=
                                            [Blk.row 1 (List.length l)
                                                (fun (a b : Nat) =>
                                                  bif Nat.beq a (0 + Int.toNat (List.getD t (Int.toNat (↑j : Int)) 0)) && Nat.beq b 0 then
                                                    PV.int Go.IntKind.i64 (Go.IntKind.wrap Go.IntKind.i64 (m (0 + Int.toNat (List.getD t (Int.toNat (↑j : Int)) 0)) + 1))
                                                  else PV.int Go.IntKind.i64 (m a))
                                                fun (a b : Nat) => bif Nat.beq a (0 + Int.toNat (List.getD t (Int.toNat (↑j : Int)) 0)) && Nat.beq b 0 then false else false] }))
                    ((0 ≤ List.getD t (Int.toNat (↑j : Int)) 0 ∧ List.getD t (Int.toNat (↑j : Int)) 0 < (↑(List.length l) : Int)) ∧
                      0 + Int.toNat (List.getD t (Int.toNat (↑j : Int)) 0) < List.length l ∧
                        (0 ≤ List.getD t (Int.toNat (↑j : Int)) 0 ∧ List.getD t (Int.toNat (↑j : Int)) 0 < (↑(List.length l) : Int)) ∧
                          0 + Int.toNat (List.getD t (Int.toNat (↑j : Int)) 0) < List.length l ∧
                            N
                              { nt := 102,
                                env :=
                                  [(0, AVal.pv false (tasksP l)), (1, AVal.pv false (PV.int Go.IntKind.i64 n)),
                                    (8, AVal.arr 0 1 0 (List.length l)), (10, AVal.pv false (intsP t)),
                                    (24, AVal.pv false (listsP u)),
                                    (25, AVal.pv false (PV.int Go.IntKind.i64 (↑(List.length u) : Int))),
                                    (26, AVal.pv false (PV.int Go.IntKind.i64 (↑i : Int))),
                                    (30, AVal.pv false (intsP t)),
                                    (31, AVal.pv false (PV.int Go.IntKind.i64 (↑(List.length t) : Int))),
                                    (32, AVal.pv false (PV.int Go.IntKind.i64 (Go.IntKind.wrap Go.IntKind.i64 ((↑j : Int) + 1))))],
                                heap :=
                                  [Blk.row 1 (List.length l)
                                      (fun (a b : Nat) =>
                                        bif Nat.beq a (0 + Int.toNat (List.getD t (Int.toNat (↑j : Int)) 0)) && Nat.beq b 0 then
                                          PV.int Go.IntKind.i64 (Go.IntKind.wrap Go.IntKind.i64 (m (0 + Int.toNat (List.getD t (Int.toNat (↑j : Int)) 0)) + 1))
                                        else PV.int Go.IntKind.i64 (m a))
                                      fun (a b : Nat) => bif Nat.beq a (0 + Int.toNat (List.getD t (Int.toNat (↑j : Int)) 0)) && Nat.beq b 0 then false else false] }))))
      (X 2
        { nt := 102,
          env :=
            [(0, AVal.pv false (tasksP l)), (1, AVal.pv false (PV.int Go.IntKind.i64 n)),
              (8, AVal.arr 0 1 0 (List.length l)), (24, AVal.pv false (listsP u)),
              (25, AVal.pv false (PV.int Go.IntKind.i64 (↑(List.length u) : Int))),
              (26, AVal.pv false (PV.int Go.IntKind.i64 (↑i : Int)))],
          heap := [rowN (List.length l) m] }) := by intros; kernel_rfl
theorem f57_exit9_2 : ∀ (l : List Task) (n : Int) (u : List (List Int)) (i : Nat) (m : Nat → Int) (t : List Int) (j : Nat) (Q : Go.Exit → St → Prop) (K : AVal → Prop),
  kont Try.prog TT shpG f57_fl [1, 1, 0, 0, 1, 1, 0]
      (sub [1, 1, 1, 0, 1, 0, 0] (bodyOf Try.f57)) Q (Go.Exit.exit 2)
      { nt := 102,
        env :=
          [(0, AVal.pv false (tasksP l)), (1, bI n), (8, AVal.arr 0 1 0 (List.length l)),
            (24, AVal.pv false (listsP u)), (25, bI (↑(List.length u) : Int)), (26, bI (↑i : Int))],
        heap := [rowN (List.length l) m] } =
    Q Go.Exit.normal
      { nt := 102,
        env :=
          [(26, AVal.pv false (PV.int Go.IntKind.i64 (Go.IntKind.wrap Go.IntKind.i64 ((↑i : Int) + 1)))),
            (77, AVal.pv false (PV.int Go.IntKind.i64 (Go.IntKind.wrap Go.IntKind.i64 ((↑i : Int) + 1)))),
            (0, AVal.pv false (tasksP l)), (1, bI n), (8, AVal.arr 0 1 0 (List.length l)),
            (24, AVal.pv false (listsP u)), (25, bI (↑(List.length u) : Int)), (26, bI (↑i : Int))],
        heap := [rowN (List.length l) m] } := by intros; kernel_rfl
theorem f57_body21 : ∀ (l : List Task) (n : Int) (u : List (List Int)) (i : Nat) (m : Nat → Int) (N : St → Prop) (X : Nat → St → Prop)
  (K : AVal → Prop),
  run Try.prog TT shpG f57_fl
      (sub [1, 1, 1, 1, 0, 1, 0, 0] (bodyOf Try.f57))
      (cutQ [8, 78, 79, 80] [] 1 N X fun (s : St) => retK TT (Go.Func.results Try.f57) s K)
      (f57_s21 l n u i m) =
    br (Decidable.decide ((↑i : Int) < (↑(List.length l) : Int)))
      ((0 ≤ (↑i : Int) ∧ (↑i : Int) < (↑(List.length l) : Int)) ∧
        (0 ≤ (↑i : Int) ∧ (↑i : Int) < (↑(List.length l) : Int)) ∧
          0 + Int.toNat (↑i : Int) < List.length l ∧
            br (Decidable.decide (Task.units (List.getD l (Int.toNat (↑i : Int)) task0) < m (0 + Int.toNat (↑i : Int))))
              (K (AVal.pv false (PV.int Go.IntKind.i64 4)))
              ((0 ≤ (↑i : Int) ∧ (↑i : Int) < (↑(List.length l) : Int)) ∧
                0 + Int.toNat (↑i : Int) < List.length l ∧
                  br (Decidable.decide (m (0 + Int.toNat (↑i : Int)) < Task.units (List.getD l (Int.toNat (↑i : Int)) task0)))
                    (K (AVal.pv false (PV.int Go.IntKind.i64 9)))
                    (N
                      { nt := 102,
                        env :=
                          [(8, AVal.arr 0 1 0 (List.length l)), (78, AVal.pv false (tasksP l)),
                            (79, AVal.pv false (PV.int Go.IntKind.i64 (↑(List.length l) : Int))),
                            (80, AVal.pv false (PV.int Go.IntKind.i64 (Go.IntKind.wrap Go.IntKind.i64 ((↑i : Int) + 1))))],
                        heap := [rowN (List.length l) m] })))
      (X 5 { nt := 102, env := [], heap := [rowN (List.length l) m] }) := by intros; kernel_rfl
theorem f57_exit21_5 : ∀ (l : List Task) (n : Int) (u : List (List Int)) (i : Nat) (m : Nat → Int) (K : AVal → Prop),
  kont Try.prog TT shpG f57_fl [1, 1, 1, 1, 0, 1, 0] (bodyOf Try.f57)
      (retQ TT (Go.Func.results Try.f57) K) (Go.Exit.exit 5) { nt := 102, env := [], heap := [rowN (List.length l) m] } =
    K (AVal.pv false (PV.int Go.IntKind.i64 0)) := by intros; kernel_rfl
theorem f12_tree : ∀ (l : List Task) (n : Int) (u : List (List Int)) (K : AVal → Prop),
  run Try.prog TT shpG f12_fl (bodyOf Try.f12)
      (retQ TT (Go.Func.results Try.f12) K)
      (entry (Go.Func.ntmps Try.f12)
        [AVal.pv false (tasksP l), bI n, AVal.pv false (listsP u)]) =
    CallT Try.prog (shpG 49) 49
      [AVal.pv false (tasksP l), AVal.pv false (PV.int Go.IntKind.i64 n)] [] fun (x : Int) =>
      br (Decidable.decide (x = 0))
        (CallT Try.prog (shpG 56) 56
          [AVal.pv false (tasksP l), AVal.pv false (PV.int Go.IntKind.i64 n),
            AVal.pv false (listsP u)]
          [] fun (x : Int) =>
          CallT Try.prog (shpG 43) 43 [] [] fun (x_1 : Bool) =>
            br x_1
              (CallT Try.prog (shpG 57) 57
                [AVal.pv false (tasksP l), AVal.pv false (PV.int Go.IntKind.i64 n),
                  AVal.pv false (listsP u)]
                [] fun (x_2 : Int) => K (AVal.pv false (PV.bool (Decidable.decide (x_2 = x)))))
              (K (AVal.pv false (PV.bool false))))
        (CallT Try.prog (shpG 43) 43 [] [] fun (x_1 : Bool) =>
          br x_1
            (CallT Try.prog (shpG 57) 57
              [AVal.pv false (tasksP l), AVal.pv false (PV.int Go.IntKind.i64 n),
                AVal.pv false (listsP u)]
              [] fun (x_2 : Int) => K (AVal.pv false (PV.bool (Decidable.decide (x_2 = x)))))
            (K (AVal.pv false (PV.bool false)))) := by intros; kernel_rfl

def wr6 (n : Int) : Int := IntKind.i64.wrap n
def bumpN (m : Nat → Int) (k : Nat) : Nat → Int := fun a => if a = k then wr6 (m k + 1) else m a
def folB (a b : Task) (n : Int) : Bool := decide (b.frm = a.to) && decide (wr6 (a.arr + n) ≤ b.dep)
/-- what is wrong with a task in a turn -/
def legAt (l : List Task) (n : Int) (t : List Int) (j : Nat) : Option Int :=
  if 0 ≤ t.getD j 0 ∧ t.getD j 0 < l.length then
    (if (t.take j).contains (t.getD j 0) = true then some 6 else if 0 < j ∧ folB (l.getD (t.getD (j - 1) 0).toNat task0) (l.getD (t.getD j 0).toNat task0) n = false then some 13 else none)
  else some 2
def legRow (l : List Task) (n : Int) (t : List Int) : Nat → Nat → (Nat → Int) → Int ⊕ (Nat → Int)
  | 0, _, m => .inr m
  | r + 1, j, m => match legAt l n t j with | some e => .inl e | none => legRow l n t r (j + 1) (bumpN m (t.getD j 0).toNat)
def legAll (l : List Task) (n : Int) (m : Nat → Int) : List (List Int) → Int ⊕ (Nat → Int)
  | [] => .inr m
  | t :: r => match legRow l n t t.length 0 m with | .inl e => .inl e | .inr m' => legAll l n m' r
def legFin (m : Nat → Int) : Nat → List Task → Int
  | _, [] => 0
  | i, t :: r => if t.units < m i then 4 else if m i < t.units then 9 else legFin m (i + 1) r
def legF (l : List Task) (n : Int) (u : List (List Int)) : Int := match legAll l n (fun _ => 0) u with | .inl e => e | .inr m => legFin m 0 l
def turnF (l : List Task) (n : Int) : Int := if tasksF l = 0 then (if inB n 0 28800 then 0 else 2) else tasksF l
def legR (l : List Task) (n : Int) (u : List (List Int)) : Int := if turnF l n = 0 then legF l n u else turnF l n

theorem legRow_step (l : List Task) (n : Int) (t : List Int) {j : Nat} (m : Nat → Int) (h : j < t.length) : legRow l n t (t.length - j) j m = match legAt l n t j with | some e => .inl e | none => legRow l n t (t.length - (j + 1)) (j + 1) (bumpN m (t.getD j 0).toNat) := by
  rw [show t.length - j = (t.length - (j + 1)) + 1 by omega]; rfl

theorem turn_len {l : List Task} {n : Int} (h : turnF l n = 0) : l.length ≤ 40 := by
  unfold turnF at h
  split at h
  · rename_i h1
    unfold tasksF at h1
    split at h1
    · simp at h1
    · omega
  · rename_i h1; exact absurd h h1

theorem bump_ble {N k : Nat} {m : Nat → Int} : Ble (.row 1 N (fun a b => bif Nat.beq a (0 + k) && Nat.beq b 0 then PV.int .i64 (IntKind.i64.wrap (m (0 + k) + 1)) else .int .i64 (m a)) fun a b => bif Nat.beq a (0 + k) && Nat.beq b 0 then false else false) (rowN N (bumpN m k)) := by
  refine ⟨rfl, rfl, fun a ha b hb => Vle.of_eq ?_⟩
  obtain rfl : b = 0 := by omega
  rw [Nat.zero_add]
  by_cases e : a = k
  · subst e
    have : Nat.beq a a = true := Nat.beq_refl a
    simp only [this, bumpN, if_true]; rfl
  · have : Nat.beq a k = false := Bool.eq_false_iff.2 fun h => e (Nat.eq_of_beq_eq_true h)
    simp only [this, bumpN, e, if_false]; rfl

theorem f97_ok (a b : Task) (n : Int) : CallOK Try.prog 97 [tskV a, tskV b, bI n] [] fun r _ => r = bB (folB a b n) := by
  refine CallOK.of_run (tabOf_ok _) hm (fn := Try.f97) (c := bodyOf Try.f97) (fl := f97_fl) (C := shpG) (by kernel_rfl) (by kernel_rfl) (by kernel_rfl) (Nat.le_of_ble_eq_true rfl) ?_
  rw [f97_tree]
  refine br_dec (fun h => ?_) fun h => ?_
  · simp only [folB, h, decide_true, Bool.true_and]; rfl
  · simp only [folB, h, decide_false, Bool.false_and]

theorem row0 {nt : Nat} {e : List (Nat × AVal)} {n : Nat} : Le ⟨nt, e, [.row 1 (Int.toNat (n : Int)) (fun _ j => pvAt [bI 0] j) fun _ _ => false], 0, fun _ => 0⟩ ⟨nt, e, [rowN n fun _ => 0], 0, fun _ => 0⟩ := by
  refine Le.all rfl rfl rfl (EnvLe.refl _) (HeapLe.cons ⟨rfl, rfl, fun a ha b hb => Vle.of_eq ?_⟩ HeapLe.nil)
  obtain rfl : b = 0 := by omega
  rfl

theorem f49_ok (l : List Task) (n : Int) (hl : l.length < 2 ^ 63) : CallOK Try.prog 49 [.pv false (tasksP l), bI n] [] fun r _ => r = bI (turnF l n) := by
  refine CallOK.of_run (tabOf_ok _) hm (fn := Try.f49) (c := bodyOf Try.f49) (fl := f49_fl) (C := shpG) (by kernel_rfl) (by kernel_rfl) (by kernel_rfl) (Nat.le_of_ble_eq_true rfl) ?_
  rw [f49_tree]
  refine (f45_ok l hl).callT (br_ndec (fun h => ?_) fun h => (f75_ok _ _ _).callT (br_not (fun h2 => ?_) fun h2 => ?_))
  · rw [turnF, if_neg h]
  · rw [turnF, if_pos h, if_neg (by rw [h2]; decide)]
  · rw [turnF, if_pos h, if_pos h2]

theorem f95_ok (l : List Task) (n : Int) (hl : l.length < 2 ^ 63) : CallOK Try.prog 95 [.pv false (tasksP l), bI n] [] fun r _ => r = bI (turnF l n) := by
  refine CallOK.of_run (tabOf_ok _) hm (fn := Try.f95) (c := bodyOf Try.f95) (fl := f95_fl) (C := shpG) (by kernel_rfl) (by kernel_rfl) (by kernel_rfl) (Nat.le_of_ble_eq_true rfl) ?_
  rw [f95_tree]
  refine (f44_ok l hl).callT (br_ndec (fun h => ?_) fun h => (f76_ok _ _ _).callT (br_not (fun h2 => ?_) fun h2 => ?_))
  · rw [turnF, if_neg h]
  · rw [turnF, if_pos h, if_neg (by rw [h2]; decide)]
  · rw [turnF, if_pos h, if_pos h2]

theorem f57_inner (l : List Task) (n : Int) (u : List (List Int)) (i : Nat) (m0 : Nat → Int) (t : List Int) (hl : l.length < 2 ^ 47) (ht : t.length < 2 ^ 62) {Q : Go.Exit → St → Prop} {K : AVal → Prop} (hr : Q .ret = fun s => retK TT Try.f57.results s K)
    (hx : ∀ m, legRow l n t t.length 0 m0 = .inr m → Q (.exit 2) ⟨102, [(0, .pv false (tasksP l)), (1, bI n), (8, .arr 0 1 0 l.length), (24, .pv false (listsP u)), (25, bI u.length), (26, bI i)], [rowN l.length m], 0, fun _ => 0⟩)
    (he : ∀ e, legRow l n t t.length 0 m0 = .inl e → K (bI e)) {st : St} (h0 : Le st (f57_s9 l n u i m0 t 0)) :
    LoopK (run Try.prog TT shpG f57_fl (sub [1, 1, 1, 0, 1, 0, 0, 1, 1, 0, 0, 1, 1, 0, 0] (bodyOf Try.f57))) Q st := by
  refine LoopK.for [0, 1, 8, 10, 24, 25, 26, 30, 31, 32] [0, 1, 8, 24, 25, 26] 1 (fun y : Nat × (Nat → Int) => f57_s9 l n u i y.2 t y.1) (fun y => y.1 ≤ t.length ∧ (∀ j, j < y.1 → 0 ≤ t.getD j 0 ∧ t.getD j 0 < l.length) ∧ legRow l n t t.length 0 m0 = legRow l n t (t.length - y.1) y.1 y.2) (fun y => t.length - y.1) (0, m0) _ hr h0 ⟨by simp, fun j hj => by simp at hj, rfl⟩ ?_
  rintro ⟨j, m⟩ ⟨hj, hrg, hp⟩
  simp only at hj hrg hp ⊢
  rw [f57_body9]
  refine br_dec (fun hc => ⟨⟨by omega, hc⟩, ?_⟩) fun hc => ?_
  · rw [legRow_step l n t m (by omega)] at hp
    have err : ∀ e, legAt l n t j = some e → K (bI e) := fun e h => he e (by rw [hp, h])
    rw [wrap_i64 (n := (l.length : Int) - 1) (by omega) (by omega)]
    refine (f76_ok _ _ _).callT (br_not (fun hq => err 2 ?_) fun hq => ?_)
    · have : ¬ (0 ≤ t.getD j 0 ∧ t.getD j 0 < l.length) := by
        have : ¬ (0 ≤ t.getD j 0 ∧ t.getD j 0 ≤ (l.length : Int) - 1) := by simpa [inB] using hq
        omega
      rw [legAt, if_neg this]
    have hq : 0 ≤ t.getD (Int.toNat (j : Int)) 0 ∧ t.getD (Int.toNat (j : Int)) 0 ≤ (l.length : Int) - 1 := by simpa [inB] using hq
    have hk : 0 ≤ t.getD (Int.toNat (j : Int)) 0 ∧ t.getD (Int.toNat (j : Int)) 0 < l.length := by omega
    have hk' : 0 ≤ t.getD j 0 ∧ t.getD j 0 < l.length := hk
    have hkl : 0 + (t.getD (Int.toNat (j : Int)) 0).toNat < l.length := by omega
    have nxt : legAt l n t j = none → ∃ y : Nat × (Nat → Int), (y.1 ≤ t.length ∧ (∀ j, j < y.1 → 0 ≤ t.getD j 0 ∧ t.getD j 0 < l.length) ∧ legRow l n t t.length 0 m0 = legRow l n t (t.length - y.1) y.1 y.2) ∧ Le
        ⟨102, [(0, .pv false (tasksP l)), (1, bI n), (8, .arr 0 1 0 l.length), (10, .pv false (intsP t)), (24, .pv false (listsP u)), (25, bI u.length), (26, bI i), (30, .pv false (intsP t)), (31, bI t.length), (32, bI (IntKind.i64.wrap ((j : Int) + 1)))],
          [.row 1 l.length (fun a b => bif Nat.beq a (0 + (t.getD (Int.toNat (j : Int)) 0).toNat) && Nat.beq b 0 then PV.int .i64 (IntKind.i64.wrap (m (0 + (t.getD (Int.toNat (j : Int)) 0).toNat) + 1)) else .int .i64 (m a)) fun a b => bif Nat.beq a (0 + (t.getD (Int.toNat (j : Int)) 0).toNat) && Nat.beq b 0 then false else false], 0, fun _ => 0⟩
        (f57_s9 l n u i y.2 t y.1) ∧ t.length - y.1 < t.length - j := fun h => by
      rw [h] at hp
      refine ⟨(j + 1, bumpN m (t.getD j 0).toNat), ⟨by simp only; omega, fun j' h' => ?_, hp⟩, ?_, by simp only; omega⟩
      · by_cases e : j' = j
        · subst e; exact hk'
        · exact hrg j' (by simp only at h'; omega)
      · rw [wrap_i64 (by omega) (by omega)]
        exact Le.all rfl rfl rfl (EnvLe.refl _) (HeapLe.cons bump_ble HeapLe.nil)
    refine ⟨⟨by decide, by omega, by omega⟩, ((f66_ok (t.take j) _ (by rw [List.length_take]; omega)).args (.cons (.pv (take_ple t j (by omega))) (.same .nil))).callT (br_mk (fun hq2 => err 6 ?_) fun hq2 => br_dec (fun hj0 => ?_) fun hj0 => ⟨hk, hkl, hk, hkl, nxt ?_⟩)⟩
    · have hq2 : (t.take j).contains (t.getD j 0) = true := hq2
      rw [legAt, if_pos hk', if_pos hq2]
    · have hq2 : ¬ (t.take j).contains (t.getD j 0) = true := by
        have : (t.take j).contains (t.getD j 0) = false := hq2
        rw [this]; decide
      have hj1 : IntKind.i64.wrap ((j : Int) - 1) = ((j - 1 : Nat) : Int) := by rw [wrap_i64 (by omega) (by omega)]; omega
      rw [hj1]
      have hp1 := hrg (j - 1) (by omega)
      refine ⟨⟨by omega, by omega⟩, hp1, hk, ?_⟩
      refine (f97_ok (l.getD (t.getD (Int.toNat ((j - 1 : Nat) : Int)) 0).toNat task0) (l.getD (t.getD (Int.toNat (j : Int)) 0).toNat task0) n).callT (br_not (fun hf => err 13 ?_) fun hf => ⟨hk, hkl, hk, hkl, nxt ?_⟩)
      · rw [legAt, if_pos hk', if_neg hq2, if_pos ⟨by omega, hf⟩]
      · rw [legAt, if_pos hk', if_neg hq2, if_neg (fun h => by have h2 : folB (l.getD (t.getD (j - 1) 0).toNat task0) (l.getD (t.getD j 0).toNat task0) n = true := hf; rw [h.2] at h2; exact absurd h2 (by decide))]
    · have hq2 : ¬ (t.take j).contains (t.getD j 0) = true := by
        have : (t.take j).contains (t.getD j 0) = false := hq2
        rw [this]; decide
      rw [legAt, if_pos hk', if_neg hq2, if_neg (by omega)]
  · refine hx m ?_
    rw [hp, show t.length - j = 0 by omega]; rfl

theorem f57_last (l : List Task) (n : Int) (u : List (List Int)) (m : Nat → Int) (hl : l.length < 2 ^ 47) {Q : Go.Exit → St → Prop} {K : AVal → Prop} (hr : Q .ret = fun s => retK TT Try.f57.results s K)
    (hx : legFin m 0 l = 0 → Q (.exit 5) ⟨102, [], [rowN l.length m], 0, fun _ => 0⟩) (he : K (bI (legFin m 0 l)) ∨ legFin m 0 l = 0) {st : St} (h0 : Le st (f57_s21 l n u 0 m)) :
    LoopK (run Try.prog TT shpG f57_fl (sub [1, 1, 1, 1, 0, 1, 0, 0] (bodyOf Try.f57))) Q st := by
  refine LoopK.for [8, 78, 79, 80] [] 1 (fun i => f57_s21 l n u i m) (fun i => i ≤ l.length ∧ legFin m 0 l = legFin m i (l.drop i)) (fun i => l.length - i) 0 _ hr h0 ⟨by simp, rfl⟩ ?_
  rintro i ⟨hi, hp⟩
  rw [f57_body21]
  refine br_dec (fun hc => ⟨⟨by omega, hc⟩, ⟨by omega, hc⟩, by omega, ?_⟩) fun hc => ?_
  · rw [drop_cons (d := task0) (by omega)] at hp
    have hp : legFin m 0 l = if (l.getD (Int.toNat (i : Int)) task0).units < m (0 + Int.toNat (i : Int)) then 4 else if m (0 + Int.toNat (i : Int)) < (l.getD (Int.toNat (i : Int)) task0).units then 9 else legFin m (i + 1) (l.drop (i + 1)) := by
      rw [hp, Nat.zero_add]; rfl
    refine br_dec (fun h1 => ?_) fun h1 => ⟨⟨by omega, hc⟩, by omega, br_dec (fun h2 => ?_) fun h2 => ⟨i + 1, ⟨by omega, ?_⟩, Le.of_eq ?_, by omega⟩⟩
    · rw [if_pos h1] at hp
      rcases he with he | he
      · rwa [hp] at he
      · rw [hp] at he; exact absurd he (by decide)
    · rw [if_neg h1, if_pos h2] at hp
      rcases he with he | he
      · rwa [hp] at he
      · rw [hp] at he; exact absurd he (by decide)
    · rw [hp, if_neg h1, if_neg h2]
    · rw [wrap_i64 (by omega) (by omega)]; rfl
  · refine hx ?_
    rw [hp, List.drop_eq_nil_of_le (by omega)]; rfl

theorem f57_outer (l : List Task) (n : Int) (u : List (List Int)) (hl : l.length < 2 ^ 47) (hu : u.length < 2 ^ 62) (ht : ∀ t ∈ u, t.length < 2 ^ 62) {Q : Go.Exit → St → Prop} {K : AVal → Prop} (hr : Q .ret = fun s => retK TT Try.f57.results s K)
    (hx : ∀ m, legAll l n (fun _ => 0) u = .inr m → Q (.exit 0) ⟨102, [(0, .pv false (tasksP l)), (8, .arr 0 1 0 l.length)], [rowN l.length m], 0, fun _ => 0⟩) (he : ∀ e, legAll l n (fun _ => 0) u = .inl e → K (bI e)) {st : St} (h0 : Le st (f57_s6 l n u 0 fun _ => 0)) :
    LoopK (run Try.prog TT shpG f57_fl (sub [1, 1, 1, 0, 1, 0, 0] (bodyOf Try.f57))) Q st := by
  refine LoopK.for [0, 1, 8, 24, 25, 26] [0, 8] 1 (fun y : Nat × (Nat → Int) => f57_s6 l n u y.1 y.2) (fun y => y.1 ≤ u.length ∧ legAll l n (fun _ => 0) u = legAll l n y.2 (u.drop y.1)) (fun y => u.length - y.1) (0, fun _ => 0) _ hr h0 ⟨by simp, rfl⟩ ?_
  rintro ⟨i, m⟩ ⟨hi, hp⟩
  simp only at hi hp ⊢
  rw [f57_body6]
  refine br_dec (fun hc => ⟨⟨by omega, hc⟩, ?_⟩) fun hc => ?_
  · rw [drop_cons (d := []) (by omega)] at hp
    have hmem : u.getD i [] ∈ u := by rw [List.getD_eq_getElem?_getD, List.getElem?_eq_getElem (by omega)]; simp
    have hp : legAll l n (fun _ => 0) u = match legRow l n (u.getD (Int.toNat (i : Int)) []) (u.getD (Int.toNat (i : Int)) []).length 0 m with | .inl e => .inl e | .inr m' => legAll l n m' (u.drop (i + 1)) := hp
    refine f57_inner l n u i m (u.getD (Int.toNat (i : Int)) []) hl (ht _ hmem) (f57_ret9 _) (fun m' hm' => ?_) (fun e hn => ?_) (Le.of_eq rfl)
    · rw [f57_exit9_2 l n u i m' [] 0 _ K]
      rw [hm'] at hp
      refine ⟨(i + 1, m'), ⟨by simp only; omega, hp⟩, Le.of_eq ?_, by simp only; omega⟩
      rw [wrap_i64 (by omega) (by omega)]; rfl
    · rw [hn] at hp; exact he e hp
  · refine hx m ?_
    rw [hp, List.drop_eq_nil_of_le (by omega)]; rfl

theorem f56_inner (l : List Task) (n : Int) (u : List (List Int)) (i : Nat) (m0 : Nat → Int) (t : List Int) (hl : l.length < 2 ^ 47) (ht : t.length < 2 ^ 62) {Q : Go.Exit → St → Prop} {K : AVal → Prop} (hr : Q .ret = fun s => retK TT Try.f56.results s K)
    (hx : ∀ m, legRow l n t t.length 0 m0 = .inr m → Q (.exit 2) ⟨104, [(0, .pv false (tasksP l)), (1, bI n), (7, .arr 0 1 0 l.length), (18, .pv false (listsP u)), (19, bI u.length), (20, bI i)], [rowN l.length m], 0, fun _ => 0⟩)
    (he : ∀ e, legRow l n t t.length 0 m0 = .inl e → K (bI e)) {st : St} (h0 : Le st (f56_s6 l n u i m0 t 0)) :
    LoopK (run Try.prog TT shpG f56_fl (sub [1, 1, 0, 1, 0, 0, 1, 1, 0, 0, 1, 1, 0, 0] (bodyOf Try.f56))) Q st := by
  refine LoopK.for [0, 1, 7, 9, 18, 19, 20, 24, 25, 26] [0, 1, 7, 18, 19, 20] 1 (fun y : Nat × (Nat → Int) => f56_s6 l n u i y.2 t y.1) (fun y => y.1 ≤ t.length ∧ (∀ j, j < y.1 → 0 ≤ t.getD j 0 ∧ t.getD j 0 < l.length) ∧ legRow l n t t.length 0 m0 = legRow l n t (t.length - y.1) y.1 y.2) (fun y => t.length - y.1) (0, m0) _ hr h0 ⟨by simp, fun j hj => by simp at hj, rfl⟩ ?_
  rintro ⟨j, m⟩ ⟨hj, hrg, hp⟩
  simp only at hj hrg hp ⊢
  rw [f56_body6]
  refine br_dec (fun hc => ⟨⟨by omega, hc⟩, ?_⟩) fun hc => ?_
  · rw [legRow_step l n t m (by omega)] at hp
    have err : ∀ e, legAt l n t j = some e → K (bI e) := fun e h => he e (by rw [hp, h])
    refine br_dec (fun h1 => err 2 ?_) fun h1 => br_dec (fun h2 => err 2 ?_) fun h2 => ?_
    · have : ¬ (0 ≤ t.getD j 0 ∧ t.getD j 0 < l.length) := fun h => by have h1 : t.getD j 0 < 0 := h1; omega
      rw [legAt, if_neg this]
    · have : ¬ (0 ≤ t.getD j 0 ∧ t.getD j 0 < l.length) := fun h => by have h2 : (l.length : Int) ≤ t.getD j 0 := h2; omega
      rw [legAt, if_neg this]
    have hk : 0 ≤ t.getD (Int.toNat (j : Int)) 0 ∧ t.getD (Int.toNat (j : Int)) 0 < l.length := by omega
    have hk' : 0 ≤ t.getD j 0 ∧ t.getD j 0 < l.length := hk
    have hkl : 0 + (t.getD (Int.toNat (j : Int)) 0).toNat < l.length := by omega
    have nxt : legAt l n t j = none → ∃ y : Nat × (Nat → Int), (y.1 ≤ t.length ∧ (∀ j, j < y.1 → 0 ≤ t.getD j 0 ∧ t.getD j 0 < l.length) ∧ legRow l n t t.length 0 m0 = legRow l n t (t.length - y.1) y.1 y.2) ∧ Le
        ⟨104, [(0, .pv false (tasksP l)), (1, bI n), (7, .arr 0 1 0 l.length), (9, .pv false (intsP t)), (18, .pv false (listsP u)), (19, bI u.length), (20, bI i), (24, .pv false (intsP t)), (25, bI t.length), (26, bI (IntKind.i64.wrap ((j : Int) + 1)))],
          [.row 1 l.length (fun a b => bif Nat.beq a (0 + (t.getD (Int.toNat (j : Int)) 0).toNat) && Nat.beq b 0 then PV.int .i64 (IntKind.i64.wrap (m (0 + (t.getD (Int.toNat (j : Int)) 0).toNat) + 1)) else .int .i64 (m a)) fun a b => bif Nat.beq a (0 + (t.getD (Int.toNat (j : Int)) 0).toNat) && Nat.beq b 0 then false else false], 0, fun _ => 0⟩
        (f56_s6 l n u i y.2 t y.1) ∧ t.length - y.1 < t.length - j := fun h => by
      rw [h] at hp
      refine ⟨(j + 1, bumpN m (t.getD j 0).toNat), ⟨by simp only; omega, fun j' h' => ?_, hp⟩, ?_, by simp only; omega⟩
      · by_cases e : j' = j
        · subst e; exact hk'
        · exact hrg j' (by simp only at h'; omega)
      · rw [wrap_i64 (by omega) (by omega)]
        exact Le.all rfl rfl rfl (EnvLe.refl _) (HeapLe.cons bump_ble HeapLe.nil)
    refine ⟨⟨by decide, by omega, by omega⟩, ((f66_ok (t.take j) _ (by rw [List.length_take]; omega)).args (.cons (.pv (take_ple t j (by omega))) (.same .nil))).callT (br_mk (fun hq2 => err 6 ?_) fun hq2 => br_dec (fun hj0 => ?_) fun hj0 => ⟨hk, hkl, hk, hkl, nxt ?_⟩)⟩
    · have hq2 : (t.take j).contains (t.getD j 0) = true := hq2
      rw [legAt, if_pos hk', if_pos hq2]
    · have hq2 : ¬ (t.take j).contains (t.getD j 0) = true := by
        have : (t.take j).contains (t.getD j 0) = false := hq2
        rw [this]; decide
      have hj1 : IntKind.i64.wrap ((j : Int) - 1) = ((j - 1 : Nat) : Int) := by rw [wrap_i64 (by omega) (by omega)]; omega
      rw [hj1]
      have hp1 := hrg (j - 1) (by omega)
      refine ⟨⟨by omega, by omega⟩, hp1, hk, ?_⟩
      have hfol : ∀ a b : Task, folB a b n = false ↔ (¬ a.to = b.frm ∨ b.dep < wr6 (a.arr + n)) := fun a b => by
        simp only [folB, Bool.and_eq_false_iff, decide_eq_false_iff_not]
        constructor
        · rintro (h | h)
          · exact .inl fun e => h e.symm
          · exact .inr (by omega)
        · rintro (h | h)
          · exact .inl fun e => h e.symm
          · exact .inr (by omega)
      refine br_ndec (fun hf => err 13 ?_) fun hf => ⟨hk, br_dec (fun hg => err 13 ?_) fun hg => ⟨hk, hkl, hk, hkl, nxt ?_⟩⟩
      · rw [legAt, if_pos hk', if_neg hq2, if_pos ⟨by omega, (hfol _ _).2 (.inl hf)⟩]
      · rw [legAt, if_pos hk', if_neg hq2, if_pos ⟨by omega, (hfol _ _).2 (.inr hg)⟩]
      · rw [legAt, if_pos hk', if_neg hq2, if_neg (fun h => by
          rcases (hfol _ _).1 h.2 with h1 | h1
          · exact h1 hf
          · exact hg h1)]
    · have hq2 : ¬ (t.take j).contains (t.getD j 0) = true := by
        have : (t.take j).contains (t.getD j 0) = false := hq2
        rw [this]; decide
      rw [legAt, if_pos hk', if_neg hq2, if_neg (by omega)]
  · refine hx m ?_
    rw [hp, show t.length - j = 0 by omega]; rfl

theorem f56_last (l : List Task) (n : Int) (u : List (List Int)) (m : Nat → Int) (hl : l.length < 2 ^ 47) {Q : Go.Exit → St → Prop} {K : AVal → Prop} (hr : Q .ret = fun s => retK TT Try.f56.results s K)
    (hx : legFin m 0 l = 0 → Q (.exit 4) ⟨104, [], [rowN l.length m], 0, fun _ => 0⟩) (he : K (bI (legFin m 0 l)) ∨ legFin m 0 l = 0) {st : St} (h0 : Le st (f56_s20 l n u 0 m)) :
    LoopK (run Try.prog TT shpG f56_fl (sub [1, 1, 1, 0, 1, 0, 0] (bodyOf Try.f56))) Q st := by
  refine LoopK.for [7, 82, 83, 84] [] 1 (fun i => f56_s20 l n u i m) (fun i => i ≤ l.length ∧ legFin m 0 l = legFin m i (l.drop i)) (fun i => l.length - i) 0 _ hr h0 ⟨by simp, rfl⟩ ?_
  rintro i ⟨hi, hp⟩
  rw [f56_body20]
  refine br_dec (fun hc => ⟨⟨by omega, hc⟩, ⟨by omega, hc⟩, by omega, ?_⟩) fun hc => ?_
  · rw [drop_cons (d := task0) (by omega)] at hp
    have hp : legFin m 0 l = if (l.getD (Int.toNat (i : Int)) task0).units < m (0 + Int.toNat (i : Int)) then 4 else if m (0 + Int.toNat (i : Int)) < (l.getD (Int.toNat (i : Int)) task0).units then 9 else legFin m (i + 1) (l.drop (i + 1)) := by
      rw [hp, Nat.zero_add]; rfl
    refine br_dec (fun h1 => ?_) fun h1 => ⟨⟨by omega, hc⟩, by omega, br_dec (fun h2 => ?_) fun h2 => ⟨i + 1, ⟨by omega, ?_⟩, Le.of_eq ?_, by omega⟩⟩
    · rw [if_pos h1] at hp
      rcases he with he | he
      · rwa [hp] at he
      · rw [hp] at he; exact absurd he (by decide)
    · rw [if_neg h1, if_pos h2] at hp
      rcases he with he | he
      · rwa [hp] at he
      · rw [hp] at he; exact absurd he (by decide)
    · rw [hp, if_neg h1, if_neg h2]
    · rw [wrap_i64 (by omega) (by omega)]; rfl
  · refine hx ?_
    rw [hp, List.drop_eq_nil_of_le (by omega)]; rfl

theorem f56_outer (l : List Task) (n : Int) (u : List (List Int)) (hl : l.length < 2 ^ 47) (hu : u.length < 2 ^ 62) (ht : ∀ t ∈ u, t.length < 2 ^ 62) {Q : Go.Exit → St → Prop} {K : AVal → Prop} (hr : Q .ret = fun s => retK TT Try.f56.results s K)
    (hx : ∀ m, legAll l n (fun _ => 0) u = .inr m → Q (.exit 0) ⟨104, [(0, .pv false (tasksP l)), (7, .arr 0 1 0 l.length)], [rowN l.length m], 0, fun _ => 0⟩) (he : ∀ e, legAll l n (fun _ => 0) u = .inl e → K (bI e)) {st : St} (h0 : Le st (f56_s3 l n u 0 fun _ => 0)) :
    LoopK (run Try.prog TT shpG f56_fl (sub [1, 1, 0, 1, 0, 0] (bodyOf Try.f56))) Q st := by
  refine LoopK.for [0, 1, 7, 18, 19, 20] [0, 7] 1 (fun y : Nat × (Nat → Int) => f56_s3 l n u y.1 y.2) (fun y => y.1 ≤ u.length ∧ legAll l n (fun _ => 0) u = legAll l n y.2 (u.drop y.1)) (fun y => u.length - y.1) (0, fun _ => 0) _ hr h0 ⟨by simp, rfl⟩ ?_
  rintro ⟨i, m⟩ ⟨hi, hp⟩
  simp only at hi hp ⊢
  rw [f56_body3]
  refine br_dec (fun hc => ⟨⟨by omega, hc⟩, ?_⟩) fun hc => ?_
  · rw [drop_cons (d := []) (by omega)] at hp
    have hmem : u.getD i [] ∈ u := by rw [List.getD_eq_getElem?_getD, List.getElem?_eq_getElem (by omega)]; simp
    have hp : legAll l n (fun _ => 0) u = match legRow l n (u.getD (Int.toNat (i : Int)) []) (u.getD (Int.toNat (i : Int)) []).length 0 m with | .inl e => .inl e | .inr m' => legAll l n m' (u.drop (i + 1)) := hp
    refine f56_inner l n u i m (u.getD (Int.toNat (i : Int)) []) hl (ht _ hmem) (f56_ret6 _) (fun m' hm' => ?_) (fun e hn => ?_) (Le.of_eq rfl)
    · rw [f56_exit6_2 l n u i m' [] 0 _ K]
      rw [hm'] at hp
      refine ⟨(i + 1, m'), ⟨by simp only; omega, hp⟩, Le.of_eq ?_, by simp only; omega⟩
      rw [wrap_i64 (by omega) (by omega)]; rfl
    · rw [hn] at hp; exact he e hp
  · refine hx m ?_
    rw [hp, List.drop_eq_nil_of_le (by omega)]; rfl

theorem f56_ok (l : List Task) (n : Int) (u : List (List Int)) (hl : l.length ≤ 40) (hu : u.length < 2 ^ 62) (ht : ∀ t ∈ u, t.length < 2 ^ 62) :
    CallOK Try.prog 56 [.pv false (tasksP l), bI n, .pv false (listsP u)] [] fun r _ => r = bI (legF l n u) := by
  refine CallOK.of_run (tabOf_ok _) hm (fn := Try.f56) (c := bodyOf Try.f56) (fl := f56_fl) (C := shpG) (by kernel_rfl) (by kernel_rfl) (by kernel_rfl) (Nat.le_of_ble_eq_true rfl) ?_
  rw [f56_tree]
  refine ⟨⟨by omega, by omega, by omega, by omega⟩, ?_⟩
  refine f56_outer l n u (by omega) hu ht (f56_ret3 _) (fun m hm' => ?_) (fun e hn => ?_) row0
  · rw [f56_exit3_0 l n u 0 m]
    have e : legF l n u = legFin m 0 l := by rw [legF, hm']
    refine f56_last l n u m (by omega) (f56_ret20 _) (fun hz => ?_) (.inl (by rw [e])) (Le.of_eq rfl)
    rw [f56_exit20_4 l n u 0 m, e, hz]
  · rw [legF, hn]

theorem f57_ok (l : List Task) (n : Int) (u : List (List Int)) (hl : l.length < 2 ^ 63) (hu : u.length < 2 ^ 62) (ht : ∀ t ∈ u, t.length < 2 ^ 62) :
    CallOK Try.prog 57 [.pv false (tasksP l), bI n, .pv false (listsP u)] [] fun r _ => r = bI (legR l n u) := by
  refine CallOK.of_run (tabOf_ok _) hm (fn := Try.f57) (c := bodyOf Try.f57) (fl := f57_fl) (C := shpG) (by kernel_rfl) (by kernel_rfl) (by kernel_rfl) (Nat.le_of_ble_eq_true rfl) ?_
  rw [f57_tree]
  refine (f95_ok l n hl).callT (br_ndec (fun h => ?_) fun h => ?_)
  · rw [legR, if_neg h]
  have hl := turn_len h
  refine ⟨⟨by omega, by omega, by omega, by omega⟩, ?_⟩
  rw [legR, if_pos h]
  refine f57_outer l n u (by omega) hu ht (f57_ret6 _) (fun m hm' => ?_) (fun e hn => ?_) row0
  · rw [f57_exit6_0 l n u 0 m]
    have e : legF l n u = legFin m 0 l := by rw [legF, hm']
    refine f57_last l n u m (by omega) (f57_ret21 _) (fun hz => ?_) (.inl (by rw [e])) (Le.of_eq rfl)
    rw [f57_exit21_5 l n u 0 m, e, hz]
  · rw [legF, hn]

theorem f12_ok (l : List Task) (n : Int) (u : List (List Int)) (hl : l.length < 2 ^ 63) (hu : u.length < 2 ^ 62) (ht : ∀ t ∈ u, t.length < 2 ^ 62) :
    CallOK Try.prog 12 [.pv false (tasksP l), bI n, .pv false (listsP u)] [] fun r _ => r = bB true := by
  refine CallOK.of_run (tabOf_ok _) hm (fn := Try.f12) (c := bodyOf Try.f12) (fl := f12_fl) (C := shpG) (by kernel_rfl) (by kernel_rfl) (by kernel_rfl) (Nat.le_of_ble_eq_true rfl) ?_
  rw [f12_tree]
  refine (f49_ok l n hl).callT (br_dec (fun h => ?_) fun h => ?_)
  · refine (f56_ok l n u (turn_len h) hu ht).callT (f43_ok.callT (br_mk (fun _ => (f57_ok l n u hl hu ht).callT ?_) fun h => by simp at h))
    rw [legR, if_pos h]; simp
  · refine f43_ok.callT (br_mk (fun _ => (f57_ok l n u hl hu ht).callT ?_) fun h => by simp at h)
    rw [legR, if_neg h]; simp


end Go.Proofs.Ytciflideblafgaa
