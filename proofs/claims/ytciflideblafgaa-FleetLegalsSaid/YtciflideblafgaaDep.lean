/- The functions of depots: what slices.Index, slices.Contains, within, CheckDepot, DepotFault, Behind, yards and FleetDepots return, for lists of fewer than 2^63 elements. -/
import Derived.Test.YtciflideblafgaaA17
import Derived.Test.YtciflideblafgaaProg
import Derived.KernelRfl
open Go Go.Proofs.Ytciflideblafgaa.Fw
namespace Go.Proofs.Ytciflideblafgaa
set_option maxRecDepth 100000
abbrev bI (n : Int) : AVal := .pv false (.int .i64 n)
abbrev bB (n : Bool) : AVal := .pv false (.bool n)
def intsP (l : List Int) : PV := .lst 1 .any l.length fun i _ => .int .i64 (l.getD i 0)
def listsP (l : List (List Int)) : PV := .lst 1 .any l.length fun i _ => intsP (l.getD i [])
structure Depot where
  room : List Int
  tracks : List (List Int)
def depC (d : Depot) : List AVal := [.pv false (intsP d.room), .pv false (listsP d.tracks)]
def depV (d : Depot) : AVal := .agg (depC d)
def shp : Nat → Shape
 | 75 | 76 | 66 | 21 => sh Bool bB
 | 22 | 20 | 23 => sh Int bI
 | 19 => sh (Int × Int) (fun x => .tup [bI x.1, bI x.2])
 | _ => sh Unit fun _ => .undef
def hasI (m : List Int) : Value → Bool := fun v => match v with | .int .i64 n => m.contains n | _ => false
def setB (m : List Int) : Blk := .mp (.int .i64) (hasI m) (fun v => bB (hasI m v))
noncomputable abbrev TT := tabOf Try.prog
set_option linter.unusedVariables false
def f23_fl : Fl := ⟨fun r o => match r, o with  | _, _ => 0, fun r => match r with | 2 => some [0, 1, 7, 8] | _ => none, fun r => match r with  | _ => none⟩
def f23_s2 (l : List Int) (x : Int) (i : Nat) : St := ⟨19, [(0, .pv false (intsP l)), (1, bI x), (7, bI l.length), (8, bI i)], [], 0, fun _ => 0⟩
def f66_fl : Fl := ⟨fun r o => match r, o with  | _, _ => 0, fun r => match r with  | _ => none, fun r => match r with  | _ => none⟩
def f76_fl : Fl := ⟨fun r o => match r, o with  | _, _ => 0, fun r => match r with  | _ => none, fun r => match r with  | _ => none⟩
def f75_fl : Fl := ⟨fun r o => match r, o with  | _, _ => 0, fun r => match r with  | _ => none, fun r => match r with  | _ => none⟩
def f22_fl : Fl := ⟨fun r o => match r, o with | 0, 0 => 1 | _, _ => 0, fun r => match r with | 7 => some [1, 3, 24, 25, 26] | 14 => some [1, 3, 24, 25, 26, 48, 49, 50] | _ => none, fun r => match r with  | _ => none⟩
def f22_s7 (d : Depot) (i : Nat) (m : List Int) : St := ⟨66, [(1, .pv false (.cptr 2 (pvAt (depC d)) 0)), (3, .mref 0), (24, .pv false (listsP d.tracks)), (25, bI d.tracks.length), (26, bI i)], [setB m], 0, fun _ => 0⟩
def f22_s14 (d : Depot) (i : Nat) (j : Nat) (t : List Int) (m : List Int) : St := ⟨66, [(1, .pv false (.cptr 2 (pvAt (depC d)) 0)), (3, .mref 0), (24, .pv false (listsP d.tracks)), (25, bI d.tracks.length), (26, bI i), (48, .pv false (intsP t)), (49, bI t.length), (50, bI j)], [setB m], 0, fun _ => 0⟩
def f20_fl : Fl := ⟨fun r o => match r, o with | 0, 0 => 1 | 20, 0 => 5 | _, _ => 0, fun r => match r with | 7 => some [1, 3, 21, 22, 23] | 14 => some [1, 3, 21, 22, 23, 43, 44, 45] | _ => none, fun r => match r with  | _ => none⟩
def f20_s7 (d : Depot) (i : Nat) (m : List Int) : St := ⟨61, [(1, .pv false (.cptr 2 (pvAt (depC d)) 0)), (3, .pv true (intsP m)), (21, .pv false (intsP d.room)), (22, bI d.room.length), (23, bI i)], [], 0, fun _ => 0⟩
def f20_s14 (d : Depot) (i : Nat) (j : Nat) (t : List Int) (m : List Int) : St := ⟨61, [(1, .pv false (.cptr 2 (pvAt (depC d)) 0)), (3, .pv true (intsP m)), (21, .pv false (intsP d.room)), (22, bI d.room.length), (23, bI i), (43, .pv false (intsP t)), (44, bI t.length), (45, bI j)], [], 0, fun _ => 0⟩
def f19_fl : Fl := ⟨fun r o => match r, o with | 0, 0 => 1 | _, _ => 0, fun r => match r with | 5 => some [1, 16, 17, 18] | _ => none, fun r => match r with  | _ => none⟩
def f19_s5 (d : Depot) (x : Int) (i : Nat) : St := ⟨33, [(1, bI x), (16, .pv false (listsP d.tracks)), (17, bI d.tracks.length), (18, bI i)], [], 0, fun _ => 0⟩
def f21_fl : Fl := ⟨fun r o => match r, o with  | _, _ => 0, fun r => match r with  | _ => none, fun r => match r with  | _ => none⟩
def f3_fl : Fl := ⟨fun r o => match r, o with | 0, 0 => 1 | _, _ => 0, fun r => match r with | 8 => some [1, 5, 6, 37, 38, 39] | _ => none, fun r => match r with  | _ => none⟩
def f3_s8 (d : Depot) (x : Int) (i : Nat) (n : Int) (e : Int) : St := ⟨66, [(1, bI x), (5, bI n), (6, bI e), (37, .pv false (listsP d.tracks)), (38, bI d.tracks.length), (39, bI i)], [], 0, fun _ => 0⟩
theorem f23_ret2 (K : AVal → Prop) : kont Try.prog TT shp f23_fl [1, 0, 1, 0] (bodyOf Try.f23) (retQ TT Try.f23.results K) .ret = fun s => retK TT Try.f23.results s K := by kernel_rfl
theorem f22_ret7 (K : AVal → Prop) : kont Try.prog TT shp f22_fl [1, 1, 1, 0, 1, 0] (bodyOf Try.f22) (retQ TT Try.f22.results K) .ret = fun s => retK TT Try.f22.results s K := by kernel_rfl
theorem f22_ret14 (Q : Go.Exit → St → Prop) : kont Try.prog TT shp f22_fl [1, 1, 0, 0, 1, 1, 1, 0] (sub [1, 1, 1, 0, 1, 0, 0] (bodyOf Try.f22)) Q .ret = Q .ret := by kernel_rfl
theorem f20_ret7 (K : AVal → Prop) : kont Try.prog TT shp f20_fl [1, 1, 1, 1, 0, 1, 0] (bodyOf Try.f20) (retQ TT Try.f20.results K) .ret = fun s => retK TT Try.f20.results s K := by kernel_rfl
theorem f20_ret14 (Q : Go.Exit → St → Prop) : kont Try.prog TT shp f20_fl [1, 1, 0, 0, 1, 1, 1, 1, 0] (sub [1, 1, 1, 1, 0, 1, 0, 0] (bodyOf Try.f20)) Q .ret = Q .ret := by kernel_rfl
theorem f19_ret5 (K : AVal → Prop) : kont Try.prog TT shp f19_fl [1, 1, 0, 1, 0] (bodyOf Try.f19) (retQ TT Try.f19.results K) .ret = fun s => retK TT Try.f19.results s K := by kernel_rfl
theorem f3_ret8 (K : AVal → Prop) : kont Try.prog TT shp f3_fl [1, 1, 1, 1, 1, 0, 1, 0] (bodyOf Try.f3) (retQ TT Try.f3.results K) .ret = fun s => retK TT Try.f3.results s K := by kernel_rfl
theorem f23_tree : ∀ (l : List Int) (x : Int) (K : AVal → Prop),
  run Try.prog TT shp f23_fl (bodyOf Try.f23)
      (retQ TT (Go.Func.results Try.f23) K)
      (entry (Go.Func.ntmps Try.f23) [AVal.pv false (intsP l), bI x]) =
    LoopK
      (run Try.prog TT shp f23_fl
        (sub [1, 0, 1, 0, 0] (bodyOf Try.f23)))
      (kont Try.prog TT shp f23_fl [1, 0, 1, 0] (bodyOf Try.f23)
        (retQ TT (Go.Func.results Try.f23) K))
      { nt := 19,
        env :=
          [(0, AVal.pv false (intsP l)), (1, AVal.pv false (PV.int Go.IntKind.i64 x)),
            (7, AVal.pv false (PV.int Go.IntKind.i64 (↑(List.length l) : Int))),
            (8, AVal.pv false (PV.int Go.IntKind.i64 0))],
        heap := [] } := by intros; kernel_rfl
theorem f23_body2 : ∀ (l : List Int) (x : Int) (i : Nat) (N : St → Prop) (X : Nat → St → Prop) (K : AVal → Prop),
  run Try.prog TT shp f23_fl
      (sub [1, 0, 1, 0, 0] (bodyOf Try.f23))
      (cutQ [0, 1, 7, 8] [] 0 N X fun (s : St) => retK TT (Go.Func.results Try.f23) s K)
      (f23_s2 l x i) =
    br (Decidable.decide ((↑i : Int) < (↑(List.length l) : Int)))
      ((0 ≤ (↑i : Int) ∧ (↑i : Int) < (↑(List.length l) : Int)) ∧
        br (Decidable.decide (x = List.getD l (Int.toNat (↑i : Int)) 0)) (K (AVal.pv false (PV.int Go.IntKind.i64 (↑i : Int))))
          (N
            { nt := 19,
              env :=
                [(0, AVal.pv false (intsP l)), (1, AVal.pv false (PV.int Go.IntKind.i64 x)),
                  (7, AVal.pv false (PV.int Go.IntKind.i64 (↑(List.length l) : Int))),
                  (8, AVal.pv false (PV.int Go.IntKind.i64 (Go.IntKind.wrap Go.IntKind.i64 ((↑i : Int) + 1))))],
              heap := [] }))
      (X 0 { nt := 19, env := [], heap := [] }) := by intros; kernel_rfl
theorem f23_exit2_0 : ∀ (l : List Int) (x : Int) (i : Nat) (K : AVal → Prop),
  kont Try.prog TT shp f23_fl [1, 0, 1, 0] (bodyOf Try.f23)
      (retQ TT (Go.Func.results Try.f23) K) (Go.Exit.exit 0) { nt := 19, env := [], heap := [] } =
    K (AVal.pv false (PV.int Go.IntKind.i64 (-1))) := by intros; kernel_rfl
theorem f66_tree : ∀ (l : List Int) (x : Int) (K : AVal → Prop),
  run Try.prog TT shp f66_fl (bodyOf Try.f66)
      (retQ TT (Go.Func.results Try.f66) K)
      (entry (Go.Func.ntmps Try.f66) [AVal.pv false (intsP l), bI x]) =
    CallT Try.prog (shp 23) 23
      [AVal.pv false (intsP l), AVal.pv false (PV.int Go.IntKind.i64 x)] [] fun (x : Int) =>
      K (AVal.pv false (PV.bool (Decidable.decide (0 ≤ x)))) := by intros; kernel_rfl
theorem f76_tree : ∀ (n a b : Int) (K : AVal → Prop),
  run Try.prog TT shp f76_fl (bodyOf Try.f76)
      (retQ TT (Go.Func.results Try.f76) K)
      (entry (Go.Func.ntmps Try.f76) [bI n, bI a, bI b]) =
    br (Decidable.decide (a ≤ n)) (K (AVal.pv false (PV.bool (Decidable.decide (n ≤ b)))))
      (K (AVal.pv false (PV.bool false))) := by intros; kernel_rfl
theorem f75_tree : ∀ (n a b : Int) (K : AVal → Prop),
  run Try.prog TT shp f75_fl (bodyOf Try.f75)
      (retQ TT (Go.Func.results Try.f75) K)
      (entry (Go.Func.ntmps Try.f75) [bI n, bI a, bI b]) =
    br (Decidable.decide (a ≤ n)) (K (AVal.pv false (PV.bool (Decidable.decide (n ≤ b)))))
      (K (AVal.pv false (PV.bool false))) := by intros; kernel_rfl
theorem f22_tree : ∀ (d : Depot) (K : AVal → Prop),
  run Try.prog TT shp f22_fl (bodyOf Try.f22)
      (retQ TT (Go.Func.results Try.f22) K) (entry (Go.Func.ntmps Try.f22) [depV d]) =
    CallT Try.prog (shp 76) 76
      [AVal.pv false (PV.int Go.IntKind.i64 (↑(List.length (Depot.room d)) : Int)),
        AVal.pv false (PV.int Go.IntKind.i64 1), AVal.pv false (PV.int Go.IntKind.i64 4)]
      [] fun (x : Bool) =>
      br (!x) (K (AVal.pv false (PV.int Go.IntKind.i64 4)))
        (br (!Decidable.decide ((↑(List.length (Depot.tracks d)) : Int) = (↑(List.length (Depot.room d)) : Int)))
          (K (AVal.pv false (PV.int Go.IntKind.i64 1)))
          (LoopK
            (run Try.prog TT shp f22_fl
              (sub [1, 1, 1, 0, 1, 0, 0] (bodyOf Try.f22)))
            (kont Try.prog TT shp f22_fl [1, 1, 1, 0, 1, 0] (bodyOf Try.f22)
              (retQ TT (Go.Func.results Try.f22) K))
            { nt := 66,
              env :=
                [(1,
                    AVal.pv false
                      (PV.cptr 2
                        (pvAt
                          [AVal.pv false (intsP (Depot.room d)),
                            AVal.pv false (listsP (Depot.tracks d))])
                        0)),
                  (3, AVal.mref 0),
                  (24,
                    AVal.pv false
                      (PV.lst 1 NF.any (List.length (Depot.tracks d)) fun (i x : Nat) =>
                        intsP (List.getD (Depot.tracks d) i []))),
                  (25, AVal.pv false (PV.int Go.IntKind.i64 (↑(List.length (Depot.tracks d)) : Int))),
                  (26, AVal.pv false (PV.int Go.IntKind.i64 0))],
              heap :=
                [Blk.mp (KD.int Go.IntKind.i64) (fun (x : Go.Value) => false) fun (x : Go.Value) =>
                    AVal.pv false (PV.bool false)] })) := by intros; kernel_rfl
theorem f22_body7 : ∀ (d : Depot) (i : Nat) (m : List Int) (N : St → Prop) (X : Nat → St → Prop) (K : AVal → Prop),
  run Try.prog TT shp f22_fl
      (sub [1, 1, 1, 0, 1, 0, 0] (bodyOf Try.f22))
      (cutQ [1, 3, 24, 25, 26] [] 1 N X fun (s : St) => retK TT (Go.Func.results Try.f22) s K)
      (f22_s7 d i m) =
    br (Decidable.decide ((↑i : Int) < (↑(List.length (Depot.tracks d)) : Int)))
      ((0 ≤ (↑i : Int) ∧ (↑i : Int) < (↑(List.length (Depot.tracks d)) : Int)) ∧
        (0 ≤ (↑i : Int) ∧ (↑i : Int) < (↑(List.length (Depot.room d)) : Int)) ∧
          CallT Try.prog (shp 76) 76
            [AVal.pv false (PV.int Go.IntKind.i64 (List.getD (Depot.room d) (Int.toNat (↑i : Int)) 0)),
              AVal.pv false (PV.int Go.IntKind.i64 1), AVal.pv false (PV.int Go.IntKind.i64 4)]
            [] fun (x : Bool) =>
            br (!x) (K (AVal.pv false (PV.int Go.IntKind.i64 2)))
              ((0 ≤ (↑i : Int) ∧ (↑i : Int) < (↑(List.length (Depot.room d)) : Int)) ∧
                br
                  (Decidable.decide (List.getD (Depot.room d) (Int.toNat (↑i : Int)) 0 < (↑(List.length (List.getD (Depot.tracks d) (Int.toNat (↑i : Int)) [])) : Int)))
                  (K (AVal.pv false (PV.int Go.IntKind.i64 14)))
                  (LoopK
                    (run Try.prog TT shp f22_fl
                      (sub [1, 1, 1, 0, 1, 0, 0, 1, 1, 0, 0, 1, 1, 1, 0, 0] (bodyOf Try.f22)))
                    (kont Try.prog TT shp f22_fl [1, 1, 0, 0, 1, 1, 1, 0]
                      (sub [1, 1, 1, 0, 1, 0, 0] (bodyOf Try.f22))
                      (cutQ [1, 3, 24, 25, 26] [] 1 N X fun (s : St) => retK TT (Go.Func.results Try.f22) s K))
                    { nt := 66,
                      env :=
                        [(1, AVal.pv false (PV.cptr 2 (pvAt (depC d)) 0)),
                          (3, AVal.mref 0), (24, AVal.pv false (listsP (Depot.tracks d))),
                          (25, AVal.pv false (PV.int Go.IntKind.i64 (↑(List.length (Depot.tracks d)) : Int))),
                          (26, AVal.pv false (PV.int Go.IntKind.i64 (↑i : Int))),
                          (48, AVal.pv false (intsP (List.getD (Depot.tracks d) (Int.toNat (↑i : Int)) []))),
                          (49, AVal.pv false (PV.int Go.IntKind.i64 (↑(List.length (List.getD (Depot.tracks d) (Int.toNat (↑i : Int)) [])) : Int))),
                          (50, AVal.pv false (PV.int Go.IntKind.i64 0))],
                      heap := [setB m] })))
      (X 1 { nt := 66, env := [], heap := [setB m] }) := by intros; kernel_rfl
theorem f22_exit7_1 : ∀ (d : Depot) (i : Nat) (m : List Int) (K : AVal → Prop),
  kont Try.prog TT shp f22_fl [1, 1, 1, 0, 1, 0] (bodyOf Try.f22)
      (retQ TT (Go.Func.results Try.f22) K) (Go.Exit.exit 1) { nt := 66, env := [], heap := [setB m] } =
    K (AVal.pv false (PV.int Go.IntKind.i64 0)) := by intros; kernel_rfl
theorem f22_body14 : ∀ (d : Depot) (i j : Nat) (t m : List Int) (N : St → Prop) (X : Nat → St → Prop) (K : AVal → Prop),
  run Try.prog TT shp f22_fl
      (sub [1, 1, 1, 0, 1, 0, 0, 1, 1, 0, 0, 1, 1, 1, 0, 0] (bodyOf Try.f22))
      (cutQ [1, 3, 24, 25, 26, 48, 49, 50] [1, 3, 24, 25, 26] 1 N X fun (s : St) =>
        retK TT (Go.Func.results Try.f22) s K)
      (f22_s14 d i j t m) =
    br (Decidable.decide ((↑j : Int) < (↑(List.length t) : Int)))
      ((0 ≤ (↑j : Int) ∧ (↑j : Int) < (↑(List.length t) : Int)) ∧
        CallT Try.prog (shp 76) 76
          [AVal.pv false (PV.int Go.IntKind.i64 (List.getD t (Int.toNat (↑j : Int)) 0)),
            AVal.pv false (PV.int Go.IntKind.i64 0), AVal.pv false (PV.int Go.IntKind.i64 99)]
          [] fun (x : Bool) =>
          br (!x) (K (AVal.pv false (PV.int Go.IntKind.i64 2)))
            (br
              (bif hasI m (Go.Value.int Go.IntKind.i64 (List.getD t (Int.toNat (↑j : Int)) 0)) then hasI m (Go.Value.int Go.IntKind.i64 (List.getD t (Int.toNat (↑j : Int)) 0))
              else false)
              (K (AVal.pv false (PV.int Go.IntKind.i64 6)))
              (N
                { nt := 66,
                  env :=
                    [(1, AVal.pv false (PV.cptr 2 (pvAt (depC d)) 0)), (3, AVal.mref 0),
                      (24, AVal.pv false (listsP (Depot.tracks d))),
                      (25, AVal.pv false (PV.int Go.IntKind.i64 (↑(List.length (Depot.tracks d)) : Int))),
                      (26, AVal.pv false (PV.int Go.IntKind.i64 (↑i : Int))), (48, AVal.pv false (intsP t)),
                      (49, AVal.pv false (PV.int Go.IntKind.i64 (↑(List.length t) : Int))),
                      (50, AVal.pv false (PV.int Go.IntKind.i64 (Go.IntKind.wrap Go.IntKind.i64 ((↑j : Int) + 1))))],
                  heap :=
                    [Blk.mp (KD.int Go.IntKind.i64)
                        (fun (u : Go.Value) => veq u (Go.Value.int Go.IntKind.i64 (List.getD t (Int.toNat (↑j : Int)) 0)) || hasI m u) fun (u : Go.Value) =>
                        AVal.pv false
                          (PV.bool (bif veq u (Go.Value.int Go.IntKind.i64 (List.getD t (Int.toNat (↑j : Int)) 0)) then true else hasI m u))] })))
      (X 4
        { nt := 66,
          env :=
            [(1, AVal.pv false (PV.cptr 2 (pvAt (depC d)) 0)), (3, AVal.mref 0),
              (24, AVal.pv false (listsP (Depot.tracks d))),
              (25, AVal.pv false (PV.int Go.IntKind.i64 (↑(List.length (Depot.tracks d)) : Int))),
              (26, AVal.pv false (PV.int Go.IntKind.i64 (↑i : Int)))],
          heap := [setB m] }) := by intros; kernel_rfl
theorem f22_exit14_4 : ∀ (d : Depot) (i j : Nat) (t m : List Int) (Q : Go.Exit → St → Prop) (K : AVal → Prop),
  kont Try.prog TT shp f22_fl [1, 1, 0, 0, 1, 1, 1, 0]
      (sub [1, 1, 1, 0, 1, 0, 0] (bodyOf Try.f22)) Q (Go.Exit.exit 4)
      { nt := 66,
        env :=
          [(1, AVal.pv false (PV.cptr 2 (pvAt (depC d)) 0)), (3, AVal.mref 0),
            (24, AVal.pv false (listsP (Depot.tracks d))),
            (25, bI (↑(List.length (Depot.tracks d)) : Int)), (26, bI (↑i : Int))],
        heap := [setB m] } =
    Q Go.Exit.normal
      { nt := 66,
        env :=
          [(26, AVal.pv false (PV.int Go.IntKind.i64 (Go.IntKind.wrap Go.IntKind.i64 ((↑i : Int) + 1)))),
            (65, AVal.pv false (PV.int Go.IntKind.i64 (Go.IntKind.wrap Go.IntKind.i64 ((↑i : Int) + 1)))),
            (1, AVal.pv false (PV.cptr 2 (pvAt (depC d)) 0)), (3, AVal.mref 0),
            (24, AVal.pv false (listsP (Depot.tracks d))),
            (25, bI (↑(List.length (Depot.tracks d)) : Int)), (26, bI (↑i : Int))],
        heap := [setB m] } := by intros; kernel_rfl
theorem f20_tree : ∀ (d : Depot) (K : AVal → Prop),
  run Try.prog TT shp f20_fl (bodyOf Try.f20)
      (retQ TT (Go.Func.results Try.f20) K) (entry (Go.Func.ntmps Try.f20) [depV d]) =
    CallT Try.prog (shp 75) 75
      [AVal.pv false (PV.int Go.IntKind.i64 (↑(List.length (Depot.room d)) : Int)),
        AVal.pv false (PV.int Go.IntKind.i64 1), AVal.pv false (PV.int Go.IntKind.i64 4)]
      [] fun (x : Bool) =>
      br (!x) (K (AVal.pv false (PV.int Go.IntKind.i64 4)))
        (br (!Decidable.decide ((↑(List.length (Depot.tracks d)) : Int) = (↑(List.length (Depot.room d)) : Int)))
          (K (AVal.pv false (PV.int Go.IntKind.i64 1)))
          (LoopK
            (run Try.prog TT shp f20_fl
              (sub [1, 1, 1, 1, 0, 1, 0, 0] (bodyOf Try.f20)))
            (kont Try.prog TT shp f20_fl [1, 1, 1, 1, 0, 1, 0] (bodyOf Try.f20)
              (retQ TT (Go.Func.results Try.f20) K))
            { nt := 61,
              env :=
                [(1,
                    AVal.pv false
                      (PV.cptr 2
                        (pvAt
                          [AVal.pv false (intsP (Depot.room d)),
                            AVal.pv false (listsP (Depot.tracks d))])
                        0)),
                  (3, AVal.pv false (PV.lst 0 NF.isNil 0 fun (x x_1 : Nat) => PV.junk)),
                  (21,
                    AVal.pv false
                      (PV.lst 1 NF.any (List.length (Depot.room d)) fun (i x : Nat) =>
                        PV.int Go.IntKind.i64 (List.getD (Depot.room d) i 0))),
                  (22, AVal.pv false (PV.int Go.IntKind.i64 (↑(List.length (Depot.room d)) : Int))),
                  (23, AVal.pv false (PV.int Go.IntKind.i64 0))],
              heap := [] })) := by intros; kernel_rfl
theorem f20_body7 : ∀ (d : Depot) (i : Nat) (m : List Int) (N : St → Prop) (X : Nat → St → Prop) (K : AVal → Prop),
  run Try.prog TT shp f20_fl
      (sub [1, 1, 1, 1, 0, 1, 0, 0] (bodyOf Try.f20))
      (cutQ [1, 3, 21, 22, 23] [] 0 N X fun (s : St) => retK TT (Go.Func.results Try.f20) s K)
      (f20_s7 d i m) =
    br (Decidable.decide ((↑i : Int) < (↑(List.length (Depot.room d)) : Int)))
      ((0 ≤ (↑i : Int) ∧ (↑i : Int) < (↑(List.length (Depot.room d)) : Int)) ∧
        CallT Try.prog (shp 75) 75
          [AVal.pv false (PV.int Go.IntKind.i64 (List.getD (Depot.room d) (Int.toNat (↑i : Int)) 0)),
            AVal.pv false (PV.int Go.IntKind.i64 1), AVal.pv false (PV.int Go.IntKind.i64 4)]
          [] fun (x : Bool) =>
          br (!x) (K (AVal.pv false (PV.int Go.IntKind.i64 2)))
            ((0 ≤ (↑i : Int) ∧ (↑i : Int) < (↑(List.length (Depot.tracks d)) : Int)) ∧
              br
                (Decidable.decide (List.getD (Depot.room d) (Int.toNat (↑i : Int)) 0 < (↑(List.length (List.getD (Depot.tracks d) (Int.toNat (↑i : Int)) [])) : Int)))
                (K (AVal.pv false (PV.int Go.IntKind.i64 14)))
                ((0 ≤ (↑i : Int) ∧ (↑i : Int) < (↑(List.length (Depot.tracks d)) : Int)) ∧
                  LoopK
                    (run Try.prog TT shp f20_fl
                      (sub [1, 1, 1, 1, 0, 1, 0, 0, 1, 1, 0, 0, 1, 1, 1, 1, 0, 0] (bodyOf Try.f20)))
                    (kont Try.prog TT shp f20_fl [1, 1, 0, 0, 1, 1, 1, 1, 0]
                      (sub [1, 1, 1, 1, 0, 1, 0, 0] (bodyOf Try.f20))
                      (cutQ [1, 3, 21, 22, 23] [] 0 N X fun (s : St) => retK TT (Go.Func.results Try.f20) s K))
                    { nt := 61,
                      env :=
                        [(1, AVal.pv false (PV.cptr 2 (pvAt (depC d)) 0)),
                          (3, AVal.pv true (intsP m)),
                          (21, AVal.pv false (intsP (Depot.room d))),
                          (22, AVal.pv false (PV.int Go.IntKind.i64 (↑(List.length (Depot.room d)) : Int))),
                          (23, AVal.pv false (PV.int Go.IntKind.i64 (↑i : Int))),
                          (43, AVal.pv false (intsP (List.getD (Depot.tracks d) (Int.toNat (↑i : Int)) []))),
                          (44, AVal.pv false (PV.int Go.IntKind.i64 (↑(List.length (List.getD (Depot.tracks d) (Int.toNat (↑i : Int)) [])) : Int))),
                          (45, AVal.pv false (PV.int Go.IntKind.i64 0))],
                      heap := [] })))
      (X 0 { nt := 61, env := [], heap := [] }) := by intros; kernel_rfl
theorem f20_exit7_0 : ∀ (d : Depot) (i : Nat) (m : List Int) (K : AVal → Prop),
  kont Try.prog TT shp f20_fl [1, 1, 1, 1, 0, 1, 0] (bodyOf Try.f20)
      (retQ TT (Go.Func.results Try.f20) K) (Go.Exit.exit 0) { nt := 61, env := [], heap := [] } =
    K (AVal.pv false (PV.int Go.IntKind.i64 0)) := by intros; kernel_rfl
theorem f20_body14 : ∀ (d : Depot) (i j : Nat) (t m : List Int) (N : St → Prop) (X : Nat → St → Prop) (K : AVal → Prop),
  run Try.prog TT shp f20_fl
      (sub [1, 1, 1, 1, 0, 1, 0, 0, 1, 1, 0, 0, 1, 1, 1, 1, 0, 0] (bodyOf Try.f20))
      (cutQ [1, 3, 21, 22, 23, 43, 44, 45] [1, 3, 21, 22, 23] 0 N X fun (s : St) =>
        retK TT (Go.Func.results Try.f20) s K)
      (f20_s14 d i j t m) =
    br (Decidable.decide ((↑j : Int) < (↑(List.length t) : Int)))
      ((0 ≤ (↑j : Int) ∧ (↑j : Int) < (↑(List.length t) : Int)) ∧
        CallT Try.prog (shp 75) 75
          [AVal.pv false (PV.int Go.IntKind.i64 (List.getD t (Int.toNat (↑j : Int)) 0)),
            AVal.pv false (PV.int Go.IntKind.i64 0), AVal.pv false (PV.int Go.IntKind.i64 99)]
          [] fun (x : Bool) =>
          br (!x) (K (AVal.pv false (PV.int Go.IntKind.i64 2)))
            (CallT Try.prog (shp 66) 66
              [AVal.pv false (intsP m),
                AVal.pv false (PV.int Go.IntKind.i64 (List.getD t (Int.toNat (↑j : Int)) 0))]
              [] fun (x : Bool) =>
              br x (K (AVal.pv false (PV.int Go.IntKind.i64 6)))
                ((List.length m + 1 ≤ 140737488355328 ∧ (List.length m + 1) * 8 ≤ 140737488355328) ∧
                  N
                    { nt := 61,
                      env :=
                        [(1, AVal.pv false (PV.cptr 2 (pvAt (depC d)) 0)),
                          (3,
                            AVal.pv true
                              (PV.lst 1 NF.any (List.length m + 1)
                                (appEl (List.length m) (fun (i x : Nat) => PV.int Go.IntKind.i64 (List.getD m i 0)) fun (i j_1 : Nat) =>
                                  pvAt [AVal.pv false (PV.int Go.IntKind.i64 (List.getD t (Int.toNat (↑j : Int)) 0))] (i * 1 + j_1)))),
                          (21, AVal.pv false (intsP (Depot.room d))),
                          (22, AVal.pv false (PV.int Go.IntKind.i64 (↑(List.length (Depot.room d)) : Int))),
                          (23, AVal.pv false (PV.int Go.IntKind.i64 (↑i : Int))), (43, AVal.pv false (intsP t)),
                          (44, AVal.pv false (PV.int Go.IntKind.i64 (↑(List.length t) : Int))),
                          (45, AVal.pv false (PV.int Go.IntKind.i64 (Go.IntKind.wrap Go.IntKind.i64 ((↑j : Int) + 1))))],
                      heap := [] })))
      (X 2
        { nt := 61,
          env :=
            [(1, AVal.pv false (PV.cptr 2 (pvAt (depC d)) 0)),
              (3, AVal.pv true (intsP m)), (21, AVal.pv false (intsP (Depot.room d))),
              (22, AVal.pv false (PV.int Go.IntKind.i64 (↑(List.length (Depot.room d)) : Int))),
              (23, AVal.pv false (PV.int Go.IntKind.i64 (↑i : Int)))],
          heap := [] }) := by intros; kernel_rfl
theorem f20_exit14_2 : ∀ (d : Depot) (i j : Nat) (t m : List Int) (Q : Go.Exit → St → Prop) (K : AVal → Prop),
  kont Try.prog TT shp f20_fl [1, 1, 0, 0, 1, 1, 1, 1, 0]
      (sub [1, 1, 1, 1, 0, 1, 0, 0] (bodyOf Try.f20)) Q (Go.Exit.exit 2)
      { nt := 61,
        env :=
          [(1, AVal.pv false (PV.cptr 2 (pvAt (depC d)) 0)),
            (3, AVal.pv true (intsP m)), (21, AVal.pv false (intsP (Depot.room d))),
            (22, bI (↑(List.length (Depot.room d)) : Int)), (23, bI (↑i : Int))],
        heap := [] } =
    Q Go.Exit.normal
      { nt := 61,
        env :=
          [(23, AVal.pv false (PV.int Go.IntKind.i64 (Go.IntKind.wrap Go.IntKind.i64 ((↑i : Int) + 1)))),
            (60, AVal.pv false (PV.int Go.IntKind.i64 (Go.IntKind.wrap Go.IntKind.i64 ((↑i : Int) + 1)))),
            (1, AVal.pv false (PV.cptr 2 (pvAt (depC d)) 0)),
            (3, AVal.pv true (intsP m)), (21, AVal.pv false (intsP (Depot.room d))),
            (22, bI (↑(List.length (Depot.room d)) : Int)), (23, bI (↑i : Int))],
        heap := [] } := by intros; kernel_rfl
theorem f19_tree : ∀ (d : Depot) (x : Int) (K : AVal → Prop),
  run Try.prog TT shp f19_fl (bodyOf Try.f19)
      (retQ TT (Go.Func.results Try.f19) K)
      (entry (Go.Func.ntmps Try.f19) [depV d, bI x]) =
    CallT Try.prog (shp 22) 22
      [AVal.agg
          [AVal.pv false
              (PV.lst 1 NF.any (List.length (Depot.room d)) fun (i x : Nat) =>
                PV.int Go.IntKind.i64 (List.getD (Depot.room d) i 0)),
            AVal.pv false
              (PV.lst 1 NF.any (List.length (Depot.tracks d)) fun (i x : Nat) =>
                intsP (List.getD (Depot.tracks d) i []))]]
      [] fun (x_1 : Int) =>
      br (!Decidable.decide (x_1 = 0))
        (K
          (AVal.tup
            [AVal.pv false (PV.int Go.IntKind.i64 0), AVal.pv false (PV.int Go.IntKind.i64 x_1)]))
        (LoopK
          (run Try.prog TT shp f19_fl
            (sub [1, 1, 0, 1, 0, 0] (bodyOf Try.f19)))
          (kont Try.prog TT shp f19_fl [1, 1, 0, 1, 0] (bodyOf Try.f19)
            (retQ TT (Go.Func.results Try.f19) K))
          { nt := 33,
            env :=
              [(1, AVal.pv false (PV.int Go.IntKind.i64 x)),
                (16,
                  AVal.pv false
                    (PV.lst 1 NF.any (List.length (Depot.tracks d)) fun (i x : Nat) =>
                      intsP (List.getD (Depot.tracks d) i []))),
                (17, AVal.pv false (PV.int Go.IntKind.i64 (↑(List.length (Depot.tracks d)) : Int))),
                (18, AVal.pv false (PV.int Go.IntKind.i64 0))],
            heap := [] }) := by intros; kernel_rfl
theorem f19_body5 : ∀ (d : Depot) (x : Int) (i : Nat) (N : St → Prop) (X : Nat → St → Prop) (K : AVal → Prop),
  run Try.prog TT shp f19_fl
      (sub [1, 1, 0, 1, 0, 0] (bodyOf Try.f19))
      (cutQ [1, 16, 17, 18] [] 0 N X fun (s : St) => retK TT (Go.Func.results Try.f19) s K)
      (f19_s5 d x i) =
    br (Decidable.decide ((↑i : Int) < (↑(List.length (Depot.tracks d)) : Int)))
      ((0 ≤ (↑i : Int) ∧ (↑i : Int) < (↑(List.length (Depot.tracks d)) : Int)) ∧
        CallT Try.prog (shp 23) 23
          [AVal.pv false (intsP (List.getD (Depot.tracks d) (Int.toNat (↑i : Int)) [])),
            AVal.pv false (PV.int Go.IntKind.i64 x)]
          [] fun (x_1 : Int) =>
          br (Decidable.decide (0 ≤ x_1))
            (K
              (AVal.tup
                [AVal.pv false
                    (PV.int Go.IntKind.i64
                      (Go.IntKind.wrap Go.IntKind.i64 (Go.IntKind.wrap Go.IntKind.i64 ((↑(List.length (List.getD (Depot.tracks d) (Int.toNat (↑i : Int)) [])) : Int) - 1) - x_1))),
                  AVal.pv false (PV.int Go.IntKind.i64 0)]))
            (N
              { nt := 33,
                env :=
                  [(1, AVal.pv false (PV.int Go.IntKind.i64 x)),
                    (16, AVal.pv false (listsP (Depot.tracks d))),
                    (17, AVal.pv false (PV.int Go.IntKind.i64 (↑(List.length (Depot.tracks d)) : Int))),
                    (18, AVal.pv false (PV.int Go.IntKind.i64 (Go.IntKind.wrap Go.IntKind.i64 ((↑i : Int) + 1))))],
                heap := [] }))
      (X 0 { nt := 33, env := [], heap := [] }) := by intros; kernel_rfl
theorem f19_exit5_0 : ∀ (d : Depot) (x : Int) (i : Nat) (K : AVal → Prop),
  kont Try.prog TT shp f19_fl [1, 1, 0, 1, 0] (bodyOf Try.f19)
      (retQ TT (Go.Func.results Try.f19) K) (Go.Exit.exit 0) { nt := 33, env := [], heap := [] } =
    K
      (AVal.tup
        [AVal.pv false (PV.int Go.IntKind.i64 0), AVal.pv false (PV.int Go.IntKind.i64 9)]) := by intros; kernel_rfl
theorem f21_tree : ∀ (K : AVal → Prop),
  run Try.prog TT shp f21_fl (bodyOf Try.f21)
      (retQ TT (Go.Func.results Try.f21) K) (entry (Go.Func.ntmps Try.f21) []) =
    CallT Try.prog (shp 19) 19
      [AVal.agg
          [AVal.pv false
              (PV.lst 1 NF.full 2 fun (i j : Nat) =>
                pvAt
                  [AVal.pv false (PV.int Go.IntKind.i64 3), AVal.pv false (PV.int Go.IntKind.i64 1)]
                  (i * 1 + j)),
            AVal.pv false
              (PV.lst 1 NF.full 2 fun (i j : Nat) =>
                pvAt
                  [AVal.pv false
                      (PV.lst 1 NF.full 2 fun (i j : Nat) =>
                        pvAt
                          [AVal.pv false (PV.int Go.IntKind.i64 0), AVal.pv false (PV.int Go.IntKind.i64 1)]
                          (i * 1 + j)),
                    AVal.pv false (PV.lst 1 NF.full 0 fun (i j : Nat) => PV.junk)]
                  (i * 1 + j))],
        AVal.pv false (PV.int Go.IntKind.i64 0)]
      [] fun (x : Int × Int) =>
      br (Decidable.decide (Prod.snd x = 0)) (K (AVal.pv false (PV.bool (Decidable.decide (Prod.fst x = 1)))))
        (K (AVal.pv false (PV.bool false))) := by intros; kernel_rfl
theorem f3_tree : ∀ (d : Depot) (x : Int) (K : AVal → Prop),
  run Try.prog TT shp f3_fl (bodyOf Try.f3)
      (retQ TT (Go.Func.results Try.f3) K)
      (entry (Go.Func.ntmps Try.f3) [depV d, bI x]) =
    CallT Try.prog (shp 19) 19
      [AVal.agg
          [AVal.pv false
              (PV.lst 1 NF.any (List.length (Depot.room d)) fun (i x : Nat) =>
                PV.int Go.IntKind.i64 (List.getD (Depot.room d) i 0)),
            AVal.pv false
              (PV.lst 1 NF.any (List.length (Depot.tracks d)) fun (i x : Nat) =>
                intsP (List.getD (Depot.tracks d) i []))],
        AVal.pv false (PV.int Go.IntKind.i64 x)]
      [] fun (x_1 : Int × Int) =>
      CallT Try.prog (shp 20) 20
        [AVal.agg
            [AVal.pv false
                (PV.lst 1 NF.any (List.length (Depot.room d)) fun (i x : Nat) =>
                  PV.int Go.IntKind.i64 (List.getD (Depot.room d) i 0)),
              AVal.pv false
                (PV.lst 1 NF.any (List.length (Depot.tracks d)) fun (i x : Nat) =>
                  intsP (List.getD (Depot.tracks d) i []))]]
        [] fun (x_2 : Int) =>
        CallT Try.prog (shp 21) 21 [] [] fun (x_3 : Bool) =>
          br (!x_3) (K (AVal.pv false (PV.bool false)))
            (CallT Try.prog (shp 22) 22
              [AVal.agg
                  [AVal.pv false
                      (PV.lst 1 NF.any (List.length (Depot.room d)) fun (i x : Nat) =>
                        PV.int Go.IntKind.i64 (List.getD (Depot.room d) i 0)),
                    AVal.pv false
                      (PV.lst 1 NF.any (List.length (Depot.tracks d)) fun (i x : Nat) =>
                        intsP (List.getD (Depot.tracks d) i []))]]
              [] fun (x_4 : Int) =>
              br (!Decidable.decide (x_4 = x_2)) (K (AVal.pv false (PV.bool false)))
                (br (!Decidable.decide (x_2 = 0))
                  (br (Decidable.decide (Prod.snd x_1 = x_2)) (K (AVal.pv false (PV.bool (Decidable.decide (Prod.fst x_1 = 0)))))
                    (K (AVal.pv false (PV.bool false))))
                  (LoopK
                    (run Try.prog TT shp f3_fl
                      (sub [1, 1, 1, 1, 1, 0, 1, 0, 0] (bodyOf Try.f3)))
                    (kont Try.prog TT shp f3_fl [1, 1, 1, 1, 1, 0, 1, 0]
                      (bodyOf Try.f3) (retQ TT (Go.Func.results Try.f3) K))
                    { nt := 66,
                      env :=
                        [(1, AVal.pv false (PV.int Go.IntKind.i64 x)),
                          (5, AVal.pv false (PV.int Go.IntKind.i64 (Prod.fst x_1))),
                          (6, AVal.pv false (PV.int Go.IntKind.i64 (Prod.snd x_1))),
                          (37,
                            AVal.pv false
                              (PV.lst 1 NF.any (List.length (Depot.tracks d)) fun (i x : Nat) =>
                                intsP (List.getD (Depot.tracks d) i []))),
                          (38, AVal.pv false (PV.int Go.IntKind.i64 (↑(List.length (Depot.tracks d)) : Int))),
                          (39, AVal.pv false (PV.int Go.IntKind.i64 0))],
                      heap := [] }))) := by intros; kernel_rfl
theorem f3_body8 : ∀ (d : Depot) (x : Int) (i : Nat) (n e : Int) (N : St → Prop) (X : Nat → St → Prop) (K : AVal → Prop),
  run Try.prog TT shp f3_fl
      (sub [1, 1, 1, 1, 1, 0, 1, 0, 0] (bodyOf Try.f3))
      (cutQ [1, 5, 6, 37, 38, 39] [5, 6] 0 N X fun (s : St) => retK TT (Go.Func.results Try.f3) s K)
      (f3_s8 d x i n e) =
    br (Decidable.decide ((↑i : Int) < (↑(List.length (Depot.tracks d)) : Int)))
      ((0 ≤ (↑i : Int) ∧ (↑i : Int) < (↑(List.length (Depot.tracks d)) : Int)) ∧
        CallT Try.prog (shp 23) 23
          [AVal.pv false (intsP (List.getD (Depot.tracks d) (Int.toNat (↑i : Int)) [])),
            AVal.pv false (PV.int Go.IntKind.i64 x)]
          [] fun (x_1 : Int) =>
          br (Decidable.decide (0 ≤ x_1))
            (br (Decidable.decide (e = 0))
              (K
                (AVal.pv false
                  (PV.bool
                    (Decidable.decide (n = Go.IntKind.wrap Go.IntKind.i64 (Go.IntKind.wrap Go.IntKind.i64 ((↑(List.length (List.getD (Depot.tracks d) (Int.toNat (↑i : Int)) [])) : Int) - 1) - x_1))))))
              (K (AVal.pv false (PV.bool false))))
            (N
              { nt := 66,
                env :=
                  [(1, AVal.pv false (PV.int Go.IntKind.i64 x)), (5, AVal.pv false (PV.int Go.IntKind.i64 n)),
                    (6, AVal.pv false (PV.int Go.IntKind.i64 e)),
                    (37, AVal.pv false (listsP (Depot.tracks d))),
                    (38, AVal.pv false (PV.int Go.IntKind.i64 (↑(List.length (Depot.tracks d)) : Int))),
                    (39, AVal.pv false (PV.int Go.IntKind.i64 (Go.IntKind.wrap Go.IntKind.i64 ((↑i : Int) + 1))))],
                heap := [] }))
      (X 0
        { nt := 66,
          env := [(5, AVal.pv false (PV.int Go.IntKind.i64 n)), (6, AVal.pv false (PV.int Go.IntKind.i64 e))],
          heap := [] }) := by intros; kernel_rfl
theorem f3_exit8_0 : ∀ (d : Depot) (x : Int) (i : Nat) (n e : Int) (K : AVal → Prop),
  kont Try.prog TT shp f3_fl [1, 1, 1, 1, 1, 0, 1, 0] (bodyOf Try.f3)
      (retQ TT (Go.Func.results Try.f3) K) (Go.Exit.exit 0) { nt := 66, env := [(5, bI n), (6, bI e)], heap := [] } =
    br (Decidable.decide (e = 9)) (K (AVal.pv false (PV.bool (Decidable.decide (n = 0)))))
      (K (AVal.pv false (PV.bool false))) := by intros; kernel_rfl
theorem hm : Try.prog.follows .mixedOrders = true := by kernel_rfl

def inB (n a b : Int) : Bool := decide (a ≤ n) && decide (n ≤ b)

theorem f76_ok (n a b : Int) : CallOK Try.prog 76 [bI n, bI a, bI b] [] fun r _ => r = bB (inB n a b) := by
  refine CallOK.of_run (tabOf_ok _) hm (fn := Try.f76) (c := bodyOf Try.f76) (fl := f76_fl) (C := shp) (by kernel_rfl) (by kernel_rfl) (by kernel_rfl) (Nat.le_of_ble_eq_true rfl) ?_
  rw [f76_tree]
  refine br_dec (fun h => ?_) (fun h => ?_) <;> simp [inB, h]

theorem f75_ok (n a b : Int) : CallOK Try.prog 75 [bI n, bI a, bI b] [] fun r _ => r = bB (inB n a b) := by
  refine CallOK.of_run (tabOf_ok _) hm (fn := Try.f75) (c := bodyOf Try.f75) (fl := f75_fl) (C := shp) (by kernel_rfl) (by kernel_rfl) (by kernel_rfl) (Nat.le_of_ble_eq_true rfl) ?_
  rw [f75_tree]
  refine br_dec (fun h => ?_) (fun h => ?_) <;> simp [inB, h]

def idxAt (x : Int) : List Int → Nat → Int
  | [], _ => -1
  | y :: r, i => if x = y then (i : Int) else idxAt x r (i + 1)

theorem drop_cons {α : Type} {l : List α} {i : Nat} {d : α} (h : i < l.length) : l.drop i = l.getD i d :: l.drop (i + 1) := by
  rw [List.drop_eq_getElem_cons h]; simp [List.getD, h]

theorem f23_ok (l : List Int) (x : Int) (hl : l.length < 2 ^ 63) : CallOK Try.prog 23 [.pv false (intsP l), bI x] [] fun r _ => r = bI (idxAt x l 0) := by
  refine CallOK.of_run (tabOf_ok _) hm (fn := Try.f23) (c := bodyOf Try.f23) (fl := f23_fl) (C := shp) (by kernel_rfl) (by kernel_rfl) (by kernel_rfl) (Nat.le_of_ble_eq_true rfl) ?_
  rw [f23_tree]
  refine LoopK.for [0, 1, 7, 8] [] 0 (f23_s2 l x) (fun i => i ≤ l.length ∧ idxAt x l 0 = idxAt x (l.drop i) i) (fun i => l.length - i) 0 _ (f23_ret2 _) (Le.of_eq rfl) ⟨by omega, rfl⟩ ?_
  rintro i ⟨hi, he⟩
  rw [f23_body2]
  refine br_dec (fun h => ⟨⟨by omega, h⟩, br_dec (fun h2 => ?_) (fun h2 => ⟨i + 1, ⟨by omega, ?_⟩, Le.of_eq ?_, by omega⟩)⟩) (fun h => ?_)
  · rw [he, drop_cons (d := 0) (by omega)]; simp at h2; simp [idxAt, h2]
  · rw [he, drop_cons (d := 0) (by omega)]; simp at h2; simp [idxAt, h2]
  · rw [wrap_i64 (by omega) (by omega)]; rfl
  · show kont _ _ _ _ _ (bodyOf Try.f23) _ (.exit 0) _
    rw [f23_exit2_0 l x i, he, List.drop_eq_nil_of_le (by omega)]; rfl

theorem idxAt_nonneg (x : Int) : ∀ (l : List Int) (i : Nat), 0 ≤ idxAt x l i ↔ x ∈ l
  | [], i => by simp [idxAt]
  | y :: r, i => by
    simp only [idxAt, List.mem_cons]
    by_cases h : x = y
    · simp [h]
    · simp [h, idxAt_nonneg x r (i + 1)]

theorem f66_ok (l : List Int) (x : Int) (hl : l.length < 2 ^ 63) : CallOK Try.prog 66 [.pv false (intsP l), bI x] [] fun r _ => r = bB (l.contains x) := by
  refine CallOK.of_run (tabOf_ok _) hm (fn := Try.f66) (c := bodyOf Try.f66) (fl := f66_fl) (C := shp) (by kernel_rfl) (by kernel_rfl) (by kernel_rfl) (Nat.le_of_ble_eq_true rfl) ?_
  rw [f66_tree]
  refine (f23_ok l x hl).callT ?_
  have : decide (0 ≤ idxAt x l 0) = l.contains x := by
    rw [Bool.eq_iff_iff]; simp [idxAt_nonneg]
  rw [this]

def trkF (m : List Int) : List Int → Int ⊕ List Int
  | [] => .inr m
  | s :: r => if inB s 0 99 then (if m.contains s then .inl 6 else trkF (m ++ [s]) r) else .inl 2

def depF (m : List Int) : List Int → List (List Int) → Int
  | r :: rs, t :: ts => if inB r 1 4 then (if r < t.length then 14 else match trkF m t with | .inl e => e | .inr m' => depF m' rs ts) else 2
  | _, _ => 0

def depotF (d : Depot) : Int := if inB d.room.length 1 4 then (if d.tracks.length = d.room.length then depF [] d.room d.tracks else 1) else 4

theorem setB_add (m : List Int) (x : Int) : Blk.mp (KD.int .i64) (fun u => veq u (.int .i64 x) || hasI m u) (fun u => .pv false (.bool (bif veq u (.int .i64 x) then true else hasI m u))) = setB (m ++ [x]) := by
  have h1 : (fun u => veq u (.int .i64 x) || hasI m u) = hasI (m ++ [x]) := by
    funext u
    cases u with
    | int k n => cases k <;> simp [veq, hasI, Bool.or_comm]
    | _ => simp [veq, hasI]
  have h2 : (fun u => AVal.pv false (.bool (bif veq u (.int .i64 x) then true else hasI m u))) = fun u => bB (hasI (m ++ [x]) u) := by
    funext u
    rw [← h1]
    show _ = AVal.pv false (.bool (veq u (.int .i64 x) || hasI m u))
    cases veq u (.int .i64 x) <;> rfl
  rw [setB, ← h2, ← h1]

theorem f22_inner (d : Depot) (i : Nat) (t m0 : List Int) (hl : t.length < 2 ^ 63) {Q : Go.Exit → St → Prop} {K : AVal → Prop} (hr : Q .ret = fun s => retK TT Try.f22.results s K)
    (h1 : ∀ e, trkF m0 t = .inl e → K (bI e)) (h2 : ∀ m', trkF m0 t = .inr m' → Q (.exit 4) (f22_s7 d i m')) :
    LoopK (run Try.prog TT shp f22_fl (sub [1, 1, 1, 0, 1, 0, 0, 1, 1, 0, 0, 1, 1, 1, 0, 0] (bodyOf Try.f22))) Q (f22_s14 d i 0 t m0) := by
  refine LoopK.for [1, 3, 24, 25, 26, 48, 49, 50] [1, 3, 24, 25, 26] 1 (fun x : Nat × List Int => f22_s14 d i x.1 t x.2) (fun x => x.1 ≤ t.length ∧ trkF m0 t = trkF x.2 (t.drop x.1)) (fun x => t.length - x.1) (0, m0) _ hr (Le.of_eq rfl) ⟨by simp, rfl⟩ ?_
  rintro ⟨j, m⟩ ⟨hj, he⟩
  show run _ _ _ _ _ _ (f22_s14 d i j t m)
  rw [f22_body14]
  refine br_dec (fun h => ⟨⟨by omega, h⟩, (f76_ok _ _ _).callT ?_⟩) (fun h => ?_)
  · simp only at h he hj
    rw [drop_cons (d := 0) (by omega)] at he
    simp only [trkF, Int.toNat_natCast] at he ⊢
    refine br_not (fun hb => ?_) (fun hb => br_mk (fun hc => ?_) (fun hc => ⟨(j + 1, m ++ [t.getD j 0]), ⟨by simp; omega, ?_⟩, Le.of_eq ?_, by simp; omega⟩))
    · exact h1 2 (by rw [he, hb]; rfl)
    · have hc' : m.contains (t.getD j 0) = true := by simpa [hasI] using hc
      exact h1 6 (by rw [he, hb, hc']; rfl)
    · have hc' : m.contains (t.getD j 0) = false := by simpa [hasI] using hc
      rw [he, hb, hc']; rfl
    · rw [setB_add, wrap_i64 (by omega) (by omega)]; rfl
  · refine h2 m ?_
    simp only at h he hj
    rw [he, List.drop_eq_nil_of_le (by omega)]; rfl

theorem f22_ok (d : Depot) (h1 : d.room.length < 2 ^ 63) (h2 : d.tracks.length < 2 ^ 63) (h3 : ∀ t ∈ d.tracks, t.length < 2 ^ 63) : CallOK Try.prog 22 [depV d] [] fun r _ => r = bI (depotF d) := by
  refine CallOK.of_run (tabOf_ok _) hm (fn := Try.f22) (c := bodyOf Try.f22) (fl := f22_fl) (C := shp) (by kernel_rfl) (by kernel_rfl) (by kernel_rfl) (Nat.le_of_ble_eq_true rfl) ?_
  rw [f22_tree]
  refine (f76_ok _ _ _).callT ?_
  refine br_not (fun hb => ?_) (fun hb => br_ndec (fun hn => ?_) (fun hn => ?_))
  · simp [depotF, hb]
  · simp only [depotF, hb, if_true]; rw [if_neg (by omega)]
  have hn : d.tracks.length = d.room.length := by omega
  have e0 : depotF d = depF [] d.room d.tracks := by simp only [depotF, hb, if_true]; rw [if_pos hn]
  rw [e0]
  refine LoopK.for [1, 3, 24, 25, 26] [] 1 (fun x : Nat × List Int => f22_s7 d x.1 x.2) (fun x => x.1 ≤ d.tracks.length ∧ depF [] d.room d.tracks = depF x.2 (d.room.drop x.1) (d.tracks.drop x.1)) (fun x => d.tracks.length - x.1) (0, []) _ (f22_ret7 _) ?_ ⟨by simp, rfl⟩ ?_
  · refine Le.of_eq ?_
    have : setB [] = Blk.mp (KD.int .i64) (fun _ => false) (fun _ => .pv false (.bool false)) := by
      have h1 : hasI [] = fun _ => false := by
        funext u
        cases u with
        | int k n => cases k <;> rfl
        | _ => rfl
      rw [setB, h1]
    rw [f22_s7, this]; rfl
  rintro ⟨i, m⟩ ⟨hi, he⟩
  show run _ _ _ _ _ _ (f22_s7 d i m)
  rw [f22_body7]
  simp only at he hi
  refine br_dec (fun h => ⟨⟨by omega, h⟩, ⟨by omega, by omega⟩, (f76_ok _ _ _).callT ?_⟩) (fun h => ?_)
  · rw [drop_cons (d := 0) (by omega), drop_cons (d := []) (by omega)] at he
    simp only [depF, Int.toNat_natCast] at he ⊢
    refine br_not (fun hb => ?_) (fun hb => ⟨⟨by omega, by omega⟩, br_dec (fun hc => ?_) (fun hc => ?_)⟩)
    · rw [he, hb]; rfl
    · rw [he, hb, if_pos rfl, if_pos hc]
    · rw [hb, if_pos rfl, if_neg hc] at he
      refine f22_inner d i _ m (K := fun r => r = bI (depF [] d.room d.tracks)) (h3 _ ?_) ((f22_ret14 _).trans rfl) (fun e hee => ?_) (fun m' hm' => ?_)
      · rw [List.getD_eq_getElem?_getD, List.getElem?_eq_getElem (by omega)]; simp
      · rw [he, hee]
      · show kont _ _ _ _ _ (sub _ (bodyOf Try.f22)) _ (.exit 4) _
        refine cast (f22_exit14_4 d i 0 [] m' _ (fun _ => True)).symm (need_mk rfl ⟨(i + 1, m'), ⟨by simp; omega, ?_⟩, Le.of_eq ?_, by simp; omega⟩)
        · rw [he, hm']
        · rw [wrap_i64 (by omega) (by omega)]; rfl
  · show kont _ _ _ _ _ (bodyOf Try.f22) _ (.exit 1) _
    rw [f22_exit7_1 d i m, he, List.drop_eq_nil_of_le (i := i) (by omega)]
    cases List.drop i d.room <;> rfl

theorem trkF_len {m m' : List Int} : ∀ {t : List Int}, trkF m t = .inr m' → m'.length = m.length + t.length := by
  intro t
  induction t generalizing m with
  | nil => intro h; simp [trkF] at h; simp [h]
  | cons s r ih =>
    intro h
    simp only [trkF] at h
    split at h
    · split at h
      · simp at h
      · have := ih h; simp at this ⊢; omega
    · simp at h

theorem app_ints (m : List Int) (x : Int) : Vle (.pv true (.lst 1 .any (m.length + 1) (appEl m.length (fun i _ => .int .i64 (m.getD i 0)) fun i j => pvAt [bI x] (i * 1 + j)))) (.pv true (intsP (m ++ [x]))) := by
  have : intsP (m ++ [x]) = .lst 1 .any (m.length + 1) fun i _ => .int .i64 ((m ++ [x]).getD i 0) := by simp [intsP]
  rw [this]
  refine Vle.own (.inl rfl) (fun i hi j hj => ?_)
  have hj0 : j = 0 := by omega
  subst hj0
  unfold appEl
  by_cases c : i < m.length
  · have h1 : Nat.blt i m.length = true := Nat.ble_eq_true_of_le c
    rw [h1]; simp [List.getD, List.getElem?_append, c]
  · have h1 : Nat.blt i m.length = false := Bool.eq_false_iff.2 fun h => c (Nat.le_of_ble_eq_true h)
    have : i = m.length := by omega
    subst this
    rw [h1]; simp [pvAt, nth, asPv]

theorem f20_inner (d : Depot) (i : Nat) (t m0 : List Int) (hl : t.length ≤ 4) (hm0 : m0.length ≤ 1000) {Q : Go.Exit → St → Prop} {K : AVal → Prop} (hr : Q .ret = fun s => retK TT Try.f20.results s K)
    (h1 : ∀ e, trkF m0 t = .inl e → K (bI e)) (h2 : ∀ m', trkF m0 t = .inr m' → Q (.exit 2) (f20_s7 d i m')) :
    LoopK (run Try.prog TT shp f20_fl (sub [1, 1, 1, 1, 0, 1, 0, 0, 1, 1, 0, 0, 1, 1, 1, 1, 0, 0] (bodyOf Try.f20))) Q (f20_s14 d i 0 t m0) := by
  refine LoopK.for [1, 3, 21, 22, 23, 43, 44, 45] [1, 3, 21, 22, 23] 0 (fun x : Nat × List Int => f20_s14 d i x.1 t x.2) (fun x => x.1 ≤ t.length ∧ x.2.length = m0.length + x.1 ∧ trkF m0 t = trkF x.2 (t.drop x.1)) (fun x => t.length - x.1) (0, m0) _ hr (Le.of_eq rfl) ⟨by simp, rfl, rfl⟩ ?_
  rintro ⟨j, m⟩ ⟨hj, hlen, he⟩
  show run _ _ _ _ _ _ (f20_s14 d i j t m)
  rw [f20_body14]
  simp only at hj hlen he
  refine br_dec (fun h => ⟨⟨by omega, h⟩, (f75_ok _ _ _).callT ?_⟩) (fun h => ?_)
  · rw [drop_cons (d := 0) (by omega)] at he
    simp only [trkF, Int.toNat_natCast] at he ⊢
    refine br_not (fun hb => ?_) (fun hb => (f66_ok m _ (by omega)).callT (br_mk (fun hc => ?_) (fun hc => ?_)))
    · exact h1 2 (by rw [he, hb]; rfl)
    · exact h1 6 (by rw [he, hb, hc]; rfl)
    · rw [hb, hc] at he
      refine ⟨⟨by omega, by omega⟩, (j + 1, m ++ [t.getD j 0]), ⟨by simp; omega, by simp; omega, he⟩, ?_, by simp; omega⟩
      rw [wrap_i64 (by omega) (by omega)]
      refine Le.env (EnvLe.same rfl (EnvLe.cons ?_ (EnvLe.same rfl (EnvLe.same rfl (EnvLe.same rfl (EnvLe.same rfl (EnvLe.same rfl (EnvLe.same rfl (EnvLe.nil _)))))))))
      exact app_ints m (t.getD j 0)
  · refine h2 m ?_
    rw [he, List.drop_eq_nil_of_le (by omega)]; rfl

theorem f20_ok (d : Depot) : CallOK Try.prog 20 [depV d] [] fun r _ => r = bI (depotF d) := by
  refine CallOK.of_run (tabOf_ok _) hm (fn := Try.f20) (c := bodyOf Try.f20) (fl := f20_fl) (C := shp) (by kernel_rfl) (by kernel_rfl) (by kernel_rfl) (Nat.le_of_ble_eq_true rfl) ?_
  rw [f20_tree]
  refine (f75_ok _ _ _).callT ?_
  refine br_not (fun hb => ?_) (fun hb => br_ndec (fun hn => ?_) (fun hn => ?_))
  · simp [depotF, hb]
  · simp only [depotF, hb, if_true]; rw [if_neg (by omega)]
  have hn : d.tracks.length = d.room.length := by omega
  have e0 : depotF d = depF [] d.room d.tracks := by simp only [depotF, hb, if_true]; rw [if_pos hn]
  rw [e0]
  have hb4 : d.room.length ≤ 4 := by simp [inB] at hb; omega
  refine LoopK.for [1, 3, 21, 22, 23] [] 0 (fun x : Nat × List Int => f20_s7 d x.1 x.2) (fun x => x.1 ≤ d.room.length ∧ x.2.length ≤ 4 * x.1 ∧ depF [] d.room d.tracks = depF x.2 (d.room.drop x.1) (d.tracks.drop x.1)) (fun x => d.room.length - x.1) (0, []) _ (f20_ret7 _) ?_ ⟨by simp, by simp, rfl⟩ ?_
  · exact Le.env (EnvLe.same rfl (EnvLe.cons Vle.nil (EnvLe.same rfl (EnvLe.same rfl (EnvLe.same rfl (EnvLe.nil _))))))
  rintro ⟨i, m⟩ ⟨hi, hml, he⟩
  show run _ _ _ _ _ _ (f20_s7 d i m)
  rw [f20_body7]
  simp only at he hi hml
  refine br_dec (fun h => ⟨⟨by omega, h⟩, (f75_ok _ _ _).callT ?_⟩) (fun h => ?_)
  · rw [drop_cons (d := 0) (by omega), drop_cons (d := []) (by omega)] at he
    simp only [depF, Int.toNat_natCast] at he ⊢
    refine br_not (fun hb => ?_) (fun hb => ⟨⟨by omega, by omega⟩, br_dec (fun hc => ?_) (fun hc => ⟨⟨by omega, by omega⟩, ?_⟩)⟩)
    · rw [he, hb]; rfl
    · rw [he, hb, if_pos rfl, if_pos hc]
    · rw [hb, if_pos rfl, if_neg hc] at he
      have h4 : (d.tracks.getD i []).length ≤ 4 := by simp [inB] at hb hc; simp; omega
      refine f20_inner d i _ m (K := fun r => r = bI (depF [] d.room d.tracks)) h4 (by omega) ((f20_ret14 _).trans rfl) (fun e hee => ?_) (fun m' hm' => ?_)
      · rw [he, hee]
      · refine cast (f20_exit14_2 d i 0 [] m' _ (fun _ => True)).symm (need_mk rfl ⟨(i + 1, m'), ⟨by simp; omega, ?_, ?_⟩, Le.of_eq ?_, by simp; omega⟩)
        · have := trkF_len hm'; simp only; omega
        · rw [he, hm']
        · rw [wrap_i64 (by omega) (by omega)]; rfl
  · show kont _ _ _ _ _ (bodyOf Try.f20) _ (.exit 0) _
    rw [f20_exit7_0 d i m, he, List.drop_eq_nil_of_le (i := i) (by omega)]
    rfl

def scanF (x : Int) : List (List Int) → Int × Int
  | [] => (0, 9)
  | t :: r => if 0 ≤ idxAt x t 0 then (IntKind.wrap .i64 (IntKind.wrap .i64 ((t.length : Int) - 1) - idxAt x t 0), 0) else scanF x r

def behindF (d : Depot) (x : Int) : Int × Int := if depotF d = 0 then scanF x d.tracks else (0, depotF d)

theorem f19_ok (d : Depot) (x : Int) (h1 : d.room.length < 2 ^ 63) (h2 : d.tracks.length < 2 ^ 63) (h3 : ∀ t ∈ d.tracks, t.length < 2 ^ 63) :
    CallOK Try.prog 19 [depV d, bI x] [] fun r _ => r = .tup [bI (behindF d x).1, bI (behindF d x).2] := by
  refine CallOK.of_run (tabOf_ok _) hm (fn := Try.f19) (c := bodyOf Try.f19) (fl := f19_fl) (C := shp) (by kernel_rfl) (by kernel_rfl) (by kernel_rfl) (Nat.le_of_ble_eq_true rfl) ?_
  rw [f19_tree]
  refine (f22_ok d h1 h2 h3).callT ?_
  refine br_ndec (fun h => ?_) (fun h => ?_)
  · simp [behindF, h]
  have e0 : behindF d x = scanF x d.tracks := by simp [behindF, h]
  rw [e0]
  refine LoopK.for [1, 16, 17, 18] [] 0 (fun i => f19_s5 d x i) (fun i => i ≤ d.tracks.length ∧ scanF x d.tracks = scanF x (d.tracks.drop i)) (fun i => d.tracks.length - i) 0 _ (f19_ret5 _) (Le.of_eq rfl) ⟨by omega, rfl⟩ ?_
  rintro i ⟨hi, he⟩
  rw [f19_body5]
  refine br_dec (fun hc => ⟨⟨by omega, hc⟩, ?_⟩) (fun hc => ?_)
  · rw [drop_cons (d := []) (by omega)] at he
    refine (f23_ok _ x (h3 _ ?_)).callT (br_dec (fun hq => ?_) (fun hq => ⟨i + 1, ⟨by omega, ?_⟩, Le.of_eq ?_, by omega⟩))
    · rw [Int.toNat_natCast, List.getD_eq_getElem?_getD, List.getElem?_eq_getElem (by omega)]; simp
    · simp only [Int.toNat_natCast] at hq ⊢
      rw [he]; simp only [scanF, hq, if_true]
    · simp only [Int.toNat_natCast] at hq
      rw [he]; simp only [scanF, hq, if_false]
    · rw [wrap_i64 (by omega) (by omega)]; rfl
  · show kont _ _ _ _ _ (bodyOf Try.f19) _ (.exit 0) _
    rw [f19_exit5_0 d x i, he, List.drop_eq_nil_of_le (by omega)]; rfl

theorem f21_ok : CallOK Try.prog 21 [] [] fun r _ => r = bB true := by
  refine CallOK.of_run (tabOf_ok _) hm (fn := Try.f21) (c := bodyOf Try.f21) (fl := f21_fl) (C := shp) (by kernel_rfl) (by kernel_rfl) (by kernel_rfl) (Nat.le_of_ble_eq_true rfl) ?_
  rw [f21_tree]
  refine ((f19_ok ⟨[3, 1], [[0, 1], []]⟩ 0 (by decide) (by decide) (by decide)).args ?_).callT (emb := fun x : Int × Int => .tup [bI x.1, bI x.2]) (y := behindF ⟨[3, 1], [[0, 1], []]⟩ 0) ?_
  · refine .cons (.agg (.cons (.pv ?_) (.cons (.pv ?_) .nil))) (.same .nil)
    · exact Ple.lst' (.inr rfl) fun i hi j hj => Ple.of_eq (by match i, hi, j, hj with
        | 0, _, 0, _ => rfl
        | 1, _, 0, _ => rfl)
    · refine Ple.lst' (.inr rfl) fun i hi j hj => ?_
      match i, hi, j, hj with
      | 0, _, 0, _ => exact Ple.lst' (.inr rfl) fun i hi j hj => Ple.of_eq (by match i, hi, j, hj with
        | 0, _, 0, _ => rfl
        | 1, _, 0, _ => rfl)
      | 1, _, 0, _ => exact Ple.lst' (.inr rfl) fun i hi j hj => absurd hi (by omega)
  · have : behindF ⟨[3, 1], [[0, 1], []]⟩ 0 = (1, 0) := by decide
    rw [this]; rfl

theorem f3_ok (d : Depot) (x : Int) (h1 : d.room.length < 2 ^ 63) (h2 : d.tracks.length < 2 ^ 63) (h3 : ∀ t ∈ d.tracks, t.length < 2 ^ 63) : CallOK Try.prog 3 [depV d, bI x] [] fun r _ => r = bB true := by
  refine CallOK.of_run (tabOf_ok _) hm (fn := Try.f3) (c := bodyOf Try.f3) (fl := f3_fl) (C := shp) (by kernel_rfl) (by kernel_rfl) (by kernel_rfl) (Nat.le_of_ble_eq_true rfl) ?_
  rw [f3_tree]
  refine (f19_ok d x h1 h2 h3).callT (emb := fun x : Int × Int => .tup [bI x.1, bI x.2]) (y := behindF d x) ?_
  refine (f20_ok d).callT ?_
  refine f21_ok.callT (br_not (fun h => by simp at h) fun _ => ?_)
  refine (f22_ok d h1 h2 h3).callT (br_ndec (fun h => absurd rfl h) fun _ => br_ndec (fun h => ?_) fun h => ?_)
  · have e0 : behindF d x = (0, depotF d) := by simp [behindF, h]
    rw [e0]
    refine br_dec (fun _ => rfl) (fun h => absurd rfl h)
  have e0 : behindF d x = scanF x d.tracks := by simp [behindF, h]
  rw [e0]
  refine LoopK.for [1, 5, 6, 37, 38, 39] [5, 6] 0 (fun i => f3_s8 d x i (scanF x d.tracks).1 (scanF x d.tracks).2) (fun i => i ≤ d.tracks.length ∧ scanF x d.tracks = scanF x (d.tracks.drop i)) (fun i => d.tracks.length - i) 0 _ (f3_ret8 _) (Le.of_eq rfl) ⟨by omega, rfl⟩ ?_
  rintro i ⟨hi, he⟩
  rw [f3_body8]
  refine br_dec (fun hc => ⟨⟨by omega, hc⟩, ?_⟩) (fun hc => ?_)
  · rw [drop_cons (d := []) (by omega)] at he
    refine (f23_ok _ x (h3 _ ?_)).callT (br_dec (fun hq => ?_) (fun hq => ⟨i + 1, ⟨by omega, ?_⟩, Le.of_eq ?_, by omega⟩))
    · rw [Int.toNat_natCast, List.getD_eq_getElem?_getD, List.getElem?_eq_getElem (by omega)]; simp
    · simp only [Int.toNat_natCast] at hq ⊢
      rw [he]; simp only [scanF, hq, if_true]
      refine br_dec (fun _ => ?_) (fun h => absurd trivial h)
      simp
    · simp only [Int.toNat_natCast] at hq
      rw [he]; simp only [scanF, hq, if_false]
    · rw [wrap_i64 (by omega) (by omega)]; rfl
  · show kont _ _ _ _ _ (bodyOf Try.f3) _ (.exit 0) _
    rw [f3_exit8_0 d x i, he, List.drop_eq_nil_of_le (by omega)]
    refine br_dec (fun _ => rfl) (fun h => absurd (by simp [scanF]) h)

end Go.Proofs.Ytciflideblafgaa
