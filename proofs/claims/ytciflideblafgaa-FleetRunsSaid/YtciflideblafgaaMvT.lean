/- The trees of the functions that move sets. -/
import Derived.Test.YtciflideblafgaaDep
open Go Go.Proofs.Ytciflideblafgaa.Fw
namespace Go.Proofs.Ytciflideblafgaa
set_option maxRecDepth 100000
structure Move where
  frm : Int
  to : Int
def move0 : Move := ⟨0, 0⟩
def moveC (m : Move) : List AVal := [bI m.frm, bI m.to]
def moveV (m : Move) : AVal := .agg (moveC m)
def movesP (l : List Move) : PV := .lst 2 .any l.length fun i j => pvAt (moveC (l.getD i move0)) j
abbrev depP (d : Depot) : AVal := .pv false (.cptr 2 (pvAt (depC d)) 0)
abbrev moveP (m : Move) : AVal := .pv false (.cptr 2 (pvAt (moveC m)) 0)
/-- a row of lists that may grow -/
def rowsB (l : List (List Int)) : Blk := .row 1 l.length (fun i _ => intsP (l.getD i [])) fun _ _ => true
abbrev shpM : Nat → Shape
 | 75 | 76 | 66 | 21 | 31 | 82 | 29 | 129 | 5 => sh Bool bB
 | 22 | 20 | 23 => sh Int bI
 | 80 => sh (List Int) fun l => .pv true (intsP l)
 | 28 => sh (Depot × Int) fun x => .tup [depV x.1, bI x.2]
 | 81 | 32 => sh (Depot × Int × Int) fun x => .tup [depV x.1, bI x.2.1, bI x.2.2]
 | 27 | 30 => sh (Depot × List Int × Int) fun x => .tup [depV x.1, .pv false (intsP x.2.1), bI x.2.2]
 | _ => sh Unit fun _ => .undef
abbrev nilP : AVal := .pv false (.lst 0 .isNil 0 fun _ _ => .junk)
/-- the track that is left, shortened -/
def cutT (d : Depot) (m : Move) : List (List Int) := d.tracks.set m.frm.toNat ((d.tracks.getD m.frm.toNat []).take ((d.tracks.getD m.frm.toNat []).length - 1))
def mvS (d : Depot) (m : Move) : Int := (d.tracks.getD m.frm.toNat []).getD ((d.tracks.getD m.frm.toNat []).length - 1) 0
def cutRow (d : Depot) (m : Move) : Blk := .row 1 d.tracks.length (fun i _ => intsP ((cutT d m).getD i [])) fun i _ => !Nat.beq i m.frm.toNat
set_option linter.unusedVariables false
def f80_fl : Fl := ⟨fun r o => match r, o with  | _, _ => 0, fun r => match r with  | _ => none, fun r => match r with  | _ => none⟩
def f129_fl : Fl := ⟨fun r o => match r, o with  | _, _ => 0, fun r => match r with  | _ => none, fun r => match r with  | _ => none⟩
def f31_fl : Fl := ⟨fun r o => match r, o with  | _, _ => 0, fun r => match r with | 4 => some [0, 1, 12, 13] | _ => none, fun r => match r with  | _ => none⟩
def f31_s4 (a b : List Int) (i : Nat) : St := ⟨26, [(0, .pv false (intsP a)), (1, .pv false (intsP b)), (12, bI a.length), (13, bI i)], [], 0, fun _ => 0⟩
def f82_fl : Fl := ⟨fun r o => match r, o with  | _, _ => 0, fun r => match r with | 4 => some [1, 2, 15, 16, 17] | _ => none, fun r => match r with  | _ => none⟩
def f82_s4 (a b : List (List Int)) (i : Nat) : St := ⟨32, [(1, .pv false (listsP b)), (2, .pv false (.fn 31 0 fun _ => .junk)), (15, .pv false (listsP a)), (16, bI a.length), (17, bI i)], [], 0, fun _ => 0⟩
def f29_fl : Fl := ⟨fun r o => match r, o with | 0, 0 => 1 | 0, 1 => 1 | _, _ => 0, fun r => match r with  | _ => none, fun r => match r with  | _ => none⟩
def f28_fl : Fl := ⟨fun r o => match r, o with | 0, 0 => 1 | 0, 1 => 1 | _, _ => 0, fun r => match r with  | _ => none, fun r => match r with  | _ => none⟩
def f81_fl (d : Depot) (m : Move) : Fl := ⟨fun r o => match r, o with | 14, 4 => 9 | 14, 5 => 8 | 20, 9 => 7 | 0, 0 => 1 | 0, 1 => 1 | _, _ => 0, fun r => match r with | 12 => some [3, 4, 8, 76, 77, 78] | _ => none, fun r => match r with | 18 => some ⟨131, [(3, moveP m), (4, .ptr 0 0 0 0), (8, .ptr 1 0 0 0), (12, bI (mvS d m))], [.box [nilP, nilP], .box [.pv false (intsP d.room), .arr 2 1 0 d.tracks.length], cutRow d m], 0, fun _ => 0⟩ | _ => none⟩
def f81_s12 (d : Depot) (m : Move) (i : Nat) (r : List Int) : St := ⟨131, [(3, moveP m), (4, .ptr 0 0 0 0), (8, .ptr 1 0 0 0), (76, .pv false (listsP d.tracks)), (77, bI d.tracks.length), (78, bI i)], [.box [nilP, nilP], .box [.pv false (intsP r), nilP]], 0, fun _ => 0⟩
def f81_s12b (d : Depot) (m : Move) (i : Nat) (r : List Int) (l : List (List Int)) : St := ⟨131, [(3, moveP m), (4, .ptr 0 0 0 0), (8, .ptr 1 0 0 0), (76, .pv false (listsP d.tracks)), (77, bI d.tracks.length), (78, bI i)], [.box [nilP, nilP], .box [.pv false (intsP r), .arr 2 1 0 l.length], rowsB l], 0, fun _ => 0⟩
def f32_fl (d : Depot) (m : Move) : Fl := ⟨fun r o => match r, o with | 14, 4 => 9 | 14, 5 => 8 | 21, 9 => 7 | 0, 0 => 1 | 0, 1 => 1 | _, _ => 0, fun r => match r with | 12 => some [3, 4, 8, 77, 78, 79] | _ => none, fun r => match r with | 18 => some ⟨133, [(3, moveP m), (4, .ptr 0 0 0 0), (8, .ptr 1 0 0 0), (12, bI (mvS d m))], [.box [nilP, nilP], .box [.pv false (intsP d.room), .arr 2 1 0 d.tracks.length], cutRow d m], 0, fun _ => 0⟩ | _ => none⟩
def f32_s12 (d : Depot) (m : Move) (i : Nat) (r : List Int) : St := ⟨133, [(3, moveP m), (4, .ptr 0 0 0 0), (8, .ptr 1 0 0 0), (77, .pv false (listsP d.tracks)), (78, bI d.tracks.length), (79, bI i)], [.box [nilP, nilP], .box [.pv false (intsP r), nilP]], 0, fun _ => 0⟩
def f32_s12b (d : Depot) (m : Move) (i : Nat) (r : List Int) (l : List (List Int)) : St := ⟨133, [(3, moveP m), (4, .ptr 0 0 0 0), (8, .ptr 1 0 0 0), (77, .pv false (listsP d.tracks)), (78, bI d.tracks.length), (79, bI i)], [.box [nilP, nilP], .box [.pv false (intsP r), .arr 2 1 0 l.length], rowsB l], 0, fun _ => 0⟩
def f27_fl : Fl := ⟨fun r o => match r, o with | 8, 4 => 9 | 8, 5 => 8 | 19, 0 => 5 | 0, 0 => 1 | _, _ => 0, fun r => match r with | 6 => some [1, 4, 8, 28, 29, 30] | 12 => some [4, 8, 11, 42, 43, 44] | _ => none, fun r => match r with  | _ => none⟩
def f27_s6 (d : Depot) (l : List Move) (i : Nat) (r : List Int) : St := ⟨70, [(1, .pv false (movesP l)), (4, .ptr 0 0 0 0), (8, .ptr 1 0 0 0), (28, .pv false (listsP d.tracks)), (29, bI d.tracks.length), (30, bI i)], [.box [nilP, nilP], .box [.pv false (intsP r), nilP]], 0, fun _ => 0⟩
def f27_s6b (d : Depot) (l : List Move) (i : Nat) (r : List Int) (t : List (List Int)) : St := ⟨70, [(1, .pv false (movesP l)), (4, .ptr 0 0 0 0), (8, .ptr 1 0 0 0), (28, .pv false (listsP d.tracks)), (29, bI d.tracks.length), (30, bI i)], [.box [nilP, nilP], .box [.pv false (intsP r), .arr 2 1 0 t.length], rowsB t], 0, fun _ => 0⟩
def f27_s12 (d : Depot) (l : List Move) (i : Nat) (x : Depot) (out : List Int) : St := ⟨70, [(4, .ptr 0 0 0 0), (8, .ptr 1 0 0 0), (11, .pv true (intsP out)), (42, .pv false (movesP l)), (43, bI l.length), (44, bI i)], [.box [nilP, nilP], .box (depC x)], 0, fun _ => 0⟩
def f30_fl : Fl := ⟨fun r o => match r, o with | 9, 0 => 5 | _, _ => 0, fun r => match r with | 3 => some [2, 4, 7, 13, 14, 15] | _ => none, fun r => match r with  | _ => none⟩
def f30_s3 (d : Depot) (l : List Move) (i : Nat) (x : Depot) (out : List Int) : St := ⟨40, [(2, .ptr 0 0 0 0), (4, .ptr 1 0 0 0), (7, .pv true (intsP out)), (13, .pv false (movesP l)), (14, bI l.length), (15, bI i)], [.box (depC x), .box [nilP, nilP]], 0, fun _ => 0⟩
def f5_fl : Fl := ⟨fun r o => match r, o with | 0, 0 => 1 | _, _ => 0, fun r => match r with | 11 => some [14, 87, 88, 89] | _ => none, fun r => match r with  | _ => none⟩
def f5_s11 (d : Depot) (l : List Move) (i : Nat) (p q x : Depot) : St := ⟨119, [(14, .ptr 2 0 0 0), (87, .pv false (movesP l)), (88, bI l.length), (89, bI i)], [.box (depC p), .box (depC q), .box (depC x)], 0, fun _ => 0⟩
theorem f31_ret4 (K : AVal → Prop) : kont Try.prog TT shpM f31_fl [1, 1, 0, 1, 0] (bodyOf Try.f31) (retQ TT Try.f31.results K) .ret = fun s => retK TT Try.f31.results s K := by kernel_rfl
theorem f82_ret4 (K : AVal → Prop) : kont Try.prog TT shpM f82_fl [1, 1, 0, 1, 0] (bodyOf Try.f82) (retQ TT Try.f82.results K) .ret = fun s => retK TT Try.f82.results s K := by kernel_rfl
theorem f81_ret12 (d : Depot) (m : Move) (K : AVal → Prop) : kont Try.prog TT shpM (f81_fl d m) [1, 1, 1, 1, 0, 1, 0] (bodyOf Try.f81) (retQ TT Try.f81.results K) .ret = fun s => retK TT Try.f81.results s K := by kernel_rfl
theorem f32_ret12 (d : Depot) (m : Move) (K : AVal → Prop) : kont Try.prog TT shpM (f32_fl d m) [1, 1, 1, 1, 1, 1, 1, 0, 1, 0] (bodyOf Try.f32) (retQ TT Try.f32.results K) .ret = fun s => retK TT Try.f32.results s K := by kernel_rfl
theorem f27_ret6 (K : AVal → Prop) : kont Try.prog TT shpM f27_fl [1, 1, 1, 0, 1, 0] (bodyOf Try.f27) (retQ TT Try.f27.results K) .ret = fun s => retK TT Try.f27.results s K := by kernel_rfl
theorem f27_ret12 (K : AVal → Prop) : kont Try.prog TT shpM f27_fl [1, 1, 1, 1, 1, 0, 1, 0] (bodyOf Try.f27) (retQ TT Try.f27.results K) .ret = fun s => retK TT Try.f27.results s K := by kernel_rfl
theorem f30_ret3 (K : AVal → Prop) : kont Try.prog TT shpM f30_fl [1, 1, 0, 1, 0] (bodyOf Try.f30) (retQ TT Try.f30.results K) .ret = fun s => retK TT Try.f30.results s K := by kernel_rfl
theorem f5_ret11 (K : AVal → Prop) : kont Try.prog TT shpM f5_fl [1, 1, 1, 1, 1, 1, 0, 1, 0] (bodyOf Try.f5) (retQ TT Try.f5.results K) .ret = fun s => retK TT Try.f5.results s K := by kernel_rfl
theorem f80_tree : ∀ (l : List Int) (K : AVal → Prop),
  run Try.prog TT shpM f80_fl (bodyOf Try.f80)
      (retQ TT (Go.Func.results Try.f80) K)
      (entry (Go.Func.ntmps Try.f80) [AVal.pv false (intsP l)]) =
    ∀ (b : Bool),
      (b = true → List.length l = 0) →
        br b (K (AVal.pv false (PV.lst 0 NF.isNil 0 fun (x x_1 : Nat) => PV.junk)))
          ((0 + List.length l ≤ 140737488355328 ∧ (0 + List.length l) * 8 ≤ 140737488355328) ∧
            K
              (AVal.pv true
                (PV.lst 1 NF.any (0 + List.length l)
                  (appEl 0 (fun (i j : Nat) => PV.junk) fun (i x : Nat) => PV.int Go.IntKind.i64 (List.getD l i 0))))) := by intros; kernel_rfl
theorem f129_tree : ∀ (d : Depot) (n : Int) (K : AVal → Prop),
  run Try.prog TT shpM f129_fl (bodyOf Try.f129)
      (retQ TT (Go.Func.results Try.f129) K)
      (entry (Go.Func.ntmps Try.f129) [bI n, depP d]) =
    CallT Try.prog (shpM 76) 76
      [AVal.pv false (PV.int Go.IntKind.i64 n), AVal.pv false (PV.int Go.IntKind.i64 0),
        AVal.pv false (PV.int Go.IntKind.i64 (Go.IntKind.wrap Go.IntKind.i64 ((↑(List.length (Depot.tracks d)) : Int) - 1)))]
      [] fun (x : Bool) => K (AVal.pv false (PV.bool x)) := by intros; kernel_rfl
theorem f31_tree : ∀ (a b : List Int) (K : AVal → Prop),
  run Try.prog TT shpM f31_fl (bodyOf Try.f31)
      (retQ TT (Go.Func.results Try.f31) K)
      (entry (Go.Func.ntmps Try.f31)
        [AVal.pv false (intsP a), AVal.pv false (intsP b)]) =
    br (!Decidable.decide ((↑(List.length a) : Int) = (↑(List.length b) : Int))) (K (AVal.pv false (PV.bool false)))
      (LoopK
        (run Try.prog TT shpM f31_fl
          (sub [1, 1, 0, 1, 0, 0] (bodyOf Try.f31)))
        (kont Try.prog TT shpM f31_fl [1, 1, 0, 1, 0] (bodyOf Try.f31)
          (retQ TT (Go.Func.results Try.f31) K))
        { nt := 26,
          env :=
            [(0, AVal.pv false (intsP a)), (1, AVal.pv false (intsP b)),
              (12, AVal.pv false (PV.int Go.IntKind.i64 (↑(List.length a) : Int))),
              (13, AVal.pv false (PV.int Go.IntKind.i64 0))],
          heap := [] }) := by intros; kernel_rfl
theorem f31_body4 : ∀ (a b : List Int) (i : Nat) (N : St → Prop) (X : Nat → St → Prop) (K : AVal → Prop),
  run Try.prog TT shpM f31_fl
      (sub [1, 1, 0, 1, 0, 0] (bodyOf Try.f31))
      (cutQ [0, 1, 12, 13] [] 0 N X fun (s : St) => retK TT (Go.Func.results Try.f31) s K)
      (f31_s4 a b i) =
    br (Decidable.decide ((↑i : Int) < (↑(List.length a) : Int)))
      ((0 ≤ (↑i : Int) ∧ (↑i : Int) < (↑(List.length a) : Int)) ∧
        (0 ≤ (↑i : Int) ∧ (↑i : Int) < (↑(List.length b) : Int)) ∧
          br (!Decidable.decide (List.getD a (Int.toNat (↑i : Int)) 0 = List.getD b (Int.toNat (↑i : Int)) 0))
            (K (AVal.pv false (PV.bool false)))
            (N
              { nt := 26,
                env :=
                  [(0, AVal.pv false (intsP a)), (1, AVal.pv false (intsP b)),
                    (12, AVal.pv false (PV.int Go.IntKind.i64 (↑(List.length a) : Int))),
                    (13, AVal.pv false (PV.int Go.IntKind.i64 (Go.IntKind.wrap Go.IntKind.i64 ((↑i : Int) + 1))))],
                heap := [] }))
      (X 0 { nt := 26, env := [], heap := [] }) := by intros; kernel_rfl
theorem f31_exit4_0 : ∀ (a b : List Int) (i : Nat) (K : AVal → Prop),
  kont Try.prog TT shpM f31_fl [1, 1, 0, 1, 0] (bodyOf Try.f31)
      (retQ TT (Go.Func.results Try.f31) K) (Go.Exit.exit 0) { nt := 26, env := [], heap := [] } =
    K (AVal.pv false (PV.bool true)) := by intros; kernel_rfl
theorem f82_tree : ∀ (a b : List (List Int)) (K : AVal → Prop),
  run Try.prog TT shpM f82_fl (bodyOf Try.f82)
      (retQ TT (Go.Func.results Try.f82) K)
      (entry (Go.Func.ntmps Try.f82)
        [AVal.pv false (listsP a), AVal.pv false (listsP b),
          AVal.pv false (PV.fn 31 0 fun (x : Nat) => PV.junk)]) =
    br (!Decidable.decide ((↑(List.length a) : Int) = (↑(List.length b) : Int))) (K (AVal.pv false (PV.bool false)))
      (LoopK
        (run Try.prog TT shpM f82_fl
          (sub [1, 1, 0, 1, 0, 0] (bodyOf Try.f82)))
        (kont Try.prog TT shpM f82_fl [1, 1, 0, 1, 0] (bodyOf Try.f82)
          (retQ TT (Go.Func.results Try.f82) K))
        { nt := 32,
          env :=
            [(1, AVal.pv false (listsP b)),
              (2, AVal.pv false (PV.fn 31 0 fun (x : Nat) => PV.junk)),
              (15, AVal.pv false (listsP a)),
              (16, AVal.pv false (PV.int Go.IntKind.i64 (↑(List.length a) : Int))),
              (17, AVal.pv false (PV.int Go.IntKind.i64 0))],
          heap := [] }) := by intros; kernel_rfl
theorem f82_body4 : ∀ (a b : List (List Int)) (i : Nat) (N : St → Prop) (X : Nat → St → Prop) (K : AVal → Prop),
  run Try.prog TT shpM f82_fl
      (sub [1, 1, 0, 1, 0, 0] (bodyOf Try.f82))
      (cutQ [1, 2, 15, 16, 17] [] 0 N X fun (s : St) => retK TT (Go.Func.results Try.f82) s K)
      (f82_s4 a b i) =
    br (Decidable.decide ((↑i : Int) < (↑(List.length a) : Int)))
      ((0 ≤ (↑i : Int) ∧ (↑i : Int) < (↑(List.length a) : Int)) ∧
        (0 ≤ (↑i : Int) ∧ (↑i : Int) < (↑(List.length b) : Int)) ∧
          CallT Try.prog (shpM 31) 31
            [AVal.pv false (intsP (List.getD a (Int.toNat (↑i : Int)) [])),
              AVal.pv false (intsP (List.getD b (Int.toNat (↑i : Int)) []))]
            [] fun (x : Bool) =>
            br (!x) (K (AVal.pv false (PV.bool false)))
              (N
                { nt := 32,
                  env :=
                    [(1, AVal.pv false (listsP b)),
                      (2, AVal.pv false (PV.fn 31 0 fun (x : Nat) => PV.junk)),
                      (15, AVal.pv false (listsP a)),
                      (16, AVal.pv false (PV.int Go.IntKind.i64 (↑(List.length a) : Int))),
                      (17, AVal.pv false (PV.int Go.IntKind.i64 (Go.IntKind.wrap Go.IntKind.i64 ((↑i : Int) + 1))))],
                  heap := [] }))
      (X 0 { nt := 32, env := [], heap := [] }) := by intros; kernel_rfl
theorem f82_exit4_0 : ∀ (a b : List (List Int)) (i : Nat) (K : AVal → Prop),
  kont Try.prog TT shpM f82_fl [1, 1, 0, 1, 0] (bodyOf Try.f82)
      (retQ TT (Go.Func.results Try.f82) K) (Go.Exit.exit 0) { nt := 32, env := [], heap := [] } =
    K (AVal.pv false (PV.bool true)) := by intros; kernel_rfl
theorem f29_tree : ∀ (a b : Depot) (K : AVal → Prop),
  run Try.prog TT shpM f29_fl (bodyOf Try.f29)
      (retQ TT (Go.Func.results Try.f29) K)
      (entry (Go.Func.ntmps Try.f29) [depV a, depV b]) =
    CallT Try.prog (shpM 31) 31
      [AVal.pv false
          (PV.lst 1 NF.any (List.length (Depot.room a)) fun (i x : Nat) =>
            PV.int Go.IntKind.i64 (List.getD (Depot.room a) i 0)),
        AVal.pv false
          (PV.lst 1 NF.any (List.length (Depot.room b)) fun (i x : Nat) =>
            PV.int Go.IntKind.i64 (List.getD (Depot.room b) i 0))]
      [] fun (x : Bool) =>
      br x
        (CallT Try.prog (shpM 82) 82
          [AVal.pv false
              (PV.lst 1 NF.any (List.length (Depot.tracks a)) fun (i x : Nat) =>
                intsP (List.getD (Depot.tracks a) i [])),
            AVal.pv false
              (PV.lst 1 NF.any (List.length (Depot.tracks b)) fun (i x : Nat) =>
                intsP (List.getD (Depot.tracks b) i [])),
            AVal.pv false (PV.fn 31 0 fun (x : Nat) => PV.junk)]
          [] fun (x : Bool) => K (AVal.pv false (PV.bool x)))
        (K (AVal.pv false (PV.bool false))) := by intros; kernel_rfl
theorem f28_tree : ∀ (d : Depot) (m : Move) (K : AVal → Prop),
  run Try.prog TT shpM f28_fl (bodyOf Try.f28)
      (retQ TT (Go.Func.results Try.f28) K)
      (entry (Go.Func.ntmps Try.f28) [depV d, moveV m]) =
    CallT Try.prog (shpM 22) 22
      [AVal.agg
          [AVal.pv false
              (PV.lst 1 NF.any (List.length (Depot.room d)) fun (i x : Nat) =>
                PV.int Go.IntKind.i64 (List.getD (Depot.room d) i 0)),
            AVal.pv false
              (PV.lst 1 NF.any (List.length (Depot.tracks d)) fun (i x : Nat) =>
                intsP (List.getD (Depot.tracks d) i []))]]
      [] fun (x : Int) =>
      br (!Decidable.decide (x = 0))
        (K
          (AVal.tup
            [AVal.agg
                [AVal.pv false (PV.lst 0 NF.isNil 0 fun (x x_1 : Nat) => PV.junk),
                  AVal.pv false (PV.lst 0 NF.isNil 0 fun (x x_1 : Nat) => PV.junk)],
              AVal.pv false (PV.int Go.IntKind.i64 x)]))
        (CallT Try.prog (shpM 81) 81
          [AVal.agg
              [AVal.pv false
                  (PV.lst 1 NF.any (List.length (Depot.room d)) fun (i x : Nat) =>
                    PV.int Go.IntKind.i64 (List.getD (Depot.room d) i 0)),
                AVal.pv false
                  (PV.lst 1 NF.any (List.length (Depot.tracks d)) fun (i x : Nat) =>
                    intsP (List.getD (Depot.tracks d) i []))],
            AVal.agg
              [AVal.pv false (PV.int Go.IntKind.i64 (Move.frm m)),
                AVal.pv false (PV.int Go.IntKind.i64 (Move.to m))]]
          [] fun (x : Depot × Int × Int) =>
          K
            (AVal.tup
              [AVal.agg
                  [AVal.pv false (intsP (Depot.room (Prod.fst x))),
                    AVal.pv false (listsP (Depot.tracks (Prod.fst x)))],
                AVal.pv false (PV.int Go.IntKind.i64 (Prod.snd (Prod.snd x)))])) := by intros; kernel_rfl
theorem f81_tree : ∀ (d : Depot) (m : Move) (K : AVal → Prop),
  run Try.prog TT shpM (f81_fl d m) (bodyOf Try.f81)
      (retQ TT (Go.Func.results Try.f81) K)
      (entry (Go.Func.ntmps Try.f81) [depV d, moveV m]) =
    CallT Try.prog (shpM 129) 129
      [AVal.pv false (PV.int Go.IntKind.i64 (Move.frm m)),
        AVal.pv false
          (PV.cptr 2
            (pvAt
              [AVal.pv false (intsP (Depot.room d)),
                AVal.pv false (listsP (Depot.tracks d))])
            0)]
      [] fun (x : Bool) =>
      br (!x)
        (K
          (AVal.tup
            [AVal.agg
                [AVal.pv false (PV.lst 0 NF.isNil 0 fun (x x_1 : Nat) => PV.junk),
                  AVal.pv false (PV.lst 0 NF.isNil 0 fun (x x_1 : Nat) => PV.junk)],
              AVal.pv false (PV.int Go.IntKind.i64 0), AVal.pv false (PV.int Go.IntKind.i64 2)]))
        (CallT Try.prog (shpM 129) 129
          [AVal.pv false (PV.int Go.IntKind.i64 (Move.to m)),
            AVal.pv false
              (PV.cptr 2
                (pvAt
                  [AVal.pv false (intsP (Depot.room d)),
                    AVal.pv false (listsP (Depot.tracks d))])
                0)]
          [] fun (x : Bool) =>
          br (!x)
            (br (!Decidable.decide (Move.to m = -1))
              (K
                (AVal.tup
                  [AVal.agg
                      [AVal.pv false (PV.lst 0 NF.isNil 0 fun (x x_1 : Nat) => PV.junk),
                        AVal.pv false (PV.lst 0 NF.isNil 0 fun (x x_1 : Nat) => PV.junk)],
                    AVal.pv false (PV.int Go.IntKind.i64 0), AVal.pv false (PV.int Go.IntKind.i64 2)]))
              (br (Decidable.decide (Move.frm m = Move.to m))
                (K
                  (AVal.tup
                    [AVal.agg
                        [AVal.pv false (PV.lst 0 NF.isNil 0 fun (x x_1 : Nat) => PV.junk),
                          AVal.pv false (PV.lst 0 NF.isNil 0 fun (x x_1 : Nat) => PV.junk)],
                      AVal.pv false (PV.int Go.IntKind.i64 0), AVal.pv false (PV.int Go.IntKind.i64 1)]))
                ((0 ≤ Move.frm m ∧ Move.frm m < (↑(List.length (Depot.tracks d)) : Int)) ∧
                  br (Decidable.decide ((↑(List.length (List.getD (Depot.tracks d) (Int.toNat (Move.frm m)) [])) : Int) = 0))
                    (K
                      (AVal.tup
                        [AVal.agg
                            [AVal.pv false (PV.lst 0 NF.isNil 0 fun (x x_1 : Nat) => PV.junk),
                              AVal.pv false (PV.lst 0 NF.isNil 0 fun (x x_1 : Nat) => PV.junk)],
                          AVal.pv false (PV.int Go.IntKind.i64 0), AVal.pv false (PV.int Go.IntKind.i64 9)]))
                    (br (Decidable.decide (0 ≤ Move.to m))
                      ((0 ≤ Move.to m ∧ Move.to m < (↑(List.length (Depot.tracks d)) : Int)) ∧
                        (0 ≤ Move.to m ∧ Move.to m < (↑(List.length (Depot.room d)) : Int)) ∧
                          br
                            (Decidable.decide
                              (List.getD (Depot.room d) (Int.toNat (Move.to m)) 0 ≤
                                (↑(List.length (List.getD (Depot.tracks d) (Int.toNat (Move.to m)) [])) : Int)))
                            (K
                              (AVal.tup
                                [AVal.agg
                                    [AVal.pv false (PV.lst 0 NF.isNil 0 fun (x x_1 : Nat) => PV.junk),
                                      AVal.pv false (PV.lst 0 NF.isNil 0 fun (x x_1 : Nat) => PV.junk)],
                                  AVal.pv false (PV.int Go.IntKind.i64 0),
                                  AVal.pv false (PV.int Go.IntKind.i64 14)]))
                            (CallT Try.prog (shpM 80) 80
                              [AVal.pv false
                                  (PV.lst 1 NF.any (List.length (Depot.room d)) fun (i x : Nat) =>
                                    PV.int Go.IntKind.i64 (List.getD (Depot.room d) i 0))]
                              [] fun (x : List Int) =>
                              LoopK
                                (run Try.prog TT shpM (f81_fl d m)
                                  (sub [1, 1, 1, 1, 0, 1, 0, 0] (bodyOf Try.f81)))
                                (kont Try.prog TT shpM (f81_fl d m) [1, 1, 1, 1, 0, 1, 0]
                                  (bodyOf Try.f81) (retQ TT (Go.Func.results Try.f81) K))
                                { nt := 131,
                                  env :=
                                    [(3,
                                        AVal.pv false
                                          (PV.cptr 2
                                            (pvAt
                                              [AVal.pv false (PV.int Go.IntKind.i64 (Move.frm m)),
                                                AVal.pv false (PV.int Go.IntKind.i64 (Move.to m))])
                                            0)),
                                      (4, AVal.ptr 0 0 0 0), (8, AVal.ptr 1 0 0 0),
                                      (76,
                                        AVal.pv false
                                          (PV.lst 1 NF.any (List.length (Depot.tracks d)) fun (i x : Nat) =>
                                            intsP (List.getD (Depot.tracks d) i []))),
                                      (77, AVal.pv false (PV.int Go.IntKind.i64 (↑(List.length (Depot.tracks d)) : Int))),
                                      (78, AVal.pv false (PV.int Go.IntKind.i64 0))],
                                  heap :=
                                    [Blk.box
                                        [AVal.pv false (PV.lst 0 NF.isNil 0 fun (x x_1 : Nat) => PV.junk),
                                          AVal.pv false (PV.lst 0 NF.isNil 0 fun (x x_1 : Nat) => PV.junk)],
                                      Blk.box
                                        [AVal.pv false (intsP x),
                                          AVal.pv false (PV.lst 0 NF.isNil 0 fun (x x_1 : Nat) => PV.junk)]] }))
                      (CallT Try.prog (shpM 80) 80
                        [AVal.pv false
                            (PV.lst 1 NF.any (List.length (Depot.room d)) fun (i x : Nat) =>
                              PV.int Go.IntKind.i64 (List.getD (Depot.room d) i 0))]
                        [] fun (x : List Int) =>
                        LoopK
                          (run Try.prog TT shpM (f81_fl d m)
                            (sub [1, 1, 1, 1, 0, 1, 0, 0] (bodyOf Try.f81)))
                          (kont Try.prog TT shpM (f81_fl d m) [1, 1, 1, 1, 0, 1, 0]
                            (bodyOf Try.f81) (retQ TT (Go.Func.results Try.f81) K))
                          { nt := 131,
                            env :=
                              [(3,
                                  AVal.pv false
                                    (PV.cptr 2
                                      (pvAt
                                        [AVal.pv false (PV.int Go.IntKind.i64 (Move.frm m)),
                                          AVal.pv false (PV.int Go.IntKind.i64 (Move.to m))])
                                      0)),
                                (4, AVal.ptr 0 0 0 0), (8, AVal.ptr 1 0 0 0),
                                (76,
                                  AVal.pv false
                                    (PV.lst 1 NF.any (List.length (Depot.tracks d)) fun (i x : Nat) =>
                                      intsP (List.getD (Depot.tracks d) i []))),
                                (77, AVal.pv false (PV.int Go.IntKind.i64 (↑(List.length (Depot.tracks d)) : Int))),
                                (78, AVal.pv false (PV.int Go.IntKind.i64 0))],
                            heap :=
                              [Blk.box
                                  [AVal.pv false (PV.lst 0 NF.isNil 0 fun (x x_1 : Nat) => PV.junk),
                                    AVal.pv false (PV.lst 0 NF.isNil 0 fun (x x_1 : Nat) => PV.junk)],
                                Blk.box
                                  [AVal.pv false (intsP x),
                                    AVal.pv false (PV.lst 0 NF.isNil 0 fun (x x_1 : Nat) => PV.junk)]] })))))
            (br (Decidable.decide (Move.frm m = Move.to m))
              (K
                (AVal.tup
                  [AVal.agg
                      [AVal.pv false (PV.lst 0 NF.isNil 0 fun (x x_1 : Nat) => PV.junk),
                        AVal.pv false (PV.lst 0 NF.isNil 0 fun (x x_1 : Nat) => PV.junk)],
                    AVal.pv false (PV.int Go.IntKind.i64 0), AVal.pv false (PV.int Go.IntKind.i64 1)]))
              ((0 ≤ Move.frm m ∧ Move.frm m < (↑(List.length (Depot.tracks d)) : Int)) ∧
                br (Decidable.decide ((↑(List.length (List.getD (Depot.tracks d) (Int.toNat (Move.frm m)) [])) : Int) = 0))
                  (K
                    (AVal.tup
                      [AVal.agg
                          [AVal.pv false (PV.lst 0 NF.isNil 0 fun (x x_1 : Nat) => PV.junk),
                            AVal.pv false (PV.lst 0 NF.isNil 0 fun (x x_1 : Nat) => PV.junk)],
                        AVal.pv false (PV.int Go.IntKind.i64 0), AVal.pv false (PV.int Go.IntKind.i64 9)]))
                  (br (Decidable.decide (0 ≤ Move.to m))
                    ((0 ≤ Move.to m ∧ Move.to m < (↑(List.length (Depot.tracks d)) : Int)) ∧
                      (0 ≤ Move.to m ∧ Move.to m < (↑(List.length (Depot.room d)) : Int)) ∧
                        br
                          (Decidable.decide
                            (List.getD (Depot.room d) (Int.toNat (Move.to m)) 0 ≤
                              (↑(List.length (List.getD (Depot.tracks d) (Int.toNat (Move.to m)) [])) : Int)))
                          (K
                            (AVal.tup
                              [AVal.agg
                                  [AVal.pv false (PV.lst 0 NF.isNil 0 fun (x x_1 : Nat) => PV.junk),
                                    AVal.pv false (PV.lst 0 NF.isNil 0 fun (x x_1 : Nat) => PV.junk)],
                                AVal.pv false (PV.int Go.IntKind.i64 0),
                                AVal.pv false (PV.int Go.IntKind.i64 14)]))
                          (CallT Try.prog (shpM 80) 80
                            [AVal.pv false
                                (PV.lst 1 NF.any (List.length (Depot.room d)) fun (i x : Nat) =>
                                  PV.int Go.IntKind.i64 (List.getD (Depot.room d) i 0))]
                            [] fun (x : List Int) =>
                            LoopK
                              (run Try.prog TT shpM (f81_fl d m)
                                (sub [1, 1, 1, 1, 0, 1, 0, 0] (bodyOf Try.f81)))
                              (kont Try.prog TT shpM (f81_fl d m) [1, 1, 1, 1, 0, 1, 0]
                                (bodyOf Try.f81) (retQ TT (Go.Func.results Try.f81) K))
                              { nt := 131,
                                env :=
                                  [(3,
                                      AVal.pv false
                                        (PV.cptr 2
                                          (pvAt
                                            [AVal.pv false (PV.int Go.IntKind.i64 (Move.frm m)),
                                              AVal.pv false (PV.int Go.IntKind.i64 (Move.to m))])
                                          0)),
                                    (4, AVal.ptr 0 0 0 0), (8, AVal.ptr 1 0 0 0),
                                    (76,
                                      AVal.pv false
                                        (PV.lst 1 NF.any (List.length (Depot.tracks d)) fun (i x : Nat) =>
                                          intsP (List.getD (Depot.tracks d) i []))),
                                    (77, AVal.pv false (PV.int Go.IntKind.i64 (↑(List.length (Depot.tracks d)) : Int))),
                                    (78, AVal.pv false (PV.int Go.IntKind.i64 0))],
                                heap :=
                                  [Blk.box
                                      [AVal.pv false (PV.lst 0 NF.isNil 0 fun (x x_1 : Nat) => PV.junk),
                                        AVal.pv false (PV.lst 0 NF.isNil 0 fun (x x_1 : Nat) => PV.junk)],
                                    Blk.box
                                      [AVal.pv false (intsP x),
                                        AVal.pv false (PV.lst 0 NF.isNil 0 fun (x x_1 : Nat) => PV.junk)]] }))
                    (CallT Try.prog (shpM 80) 80
                      [AVal.pv false
                          (PV.lst 1 NF.any (List.length (Depot.room d)) fun (i x : Nat) =>
                            PV.int Go.IntKind.i64 (List.getD (Depot.room d) i 0))]
                      [] fun (x : List Int) =>
                      LoopK
                        (run Try.prog TT shpM (f81_fl d m)
                          (sub [1, 1, 1, 1, 0, 1, 0, 0] (bodyOf Try.f81)))
                        (kont Try.prog TT shpM (f81_fl d m) [1, 1, 1, 1, 0, 1, 0]
                          (bodyOf Try.f81) (retQ TT (Go.Func.results Try.f81) K))
                        { nt := 131,
                          env :=
                            [(3,
                                AVal.pv false
                                  (PV.cptr 2
                                    (pvAt
                                      [AVal.pv false (PV.int Go.IntKind.i64 (Move.frm m)),
                                        AVal.pv false (PV.int Go.IntKind.i64 (Move.to m))])
                                    0)),
                              (4, AVal.ptr 0 0 0 0), (8, AVal.ptr 1 0 0 0),
                              (76,
                                AVal.pv false
                                  (PV.lst 1 NF.any (List.length (Depot.tracks d)) fun (i x : Nat) =>
                                    intsP (List.getD (Depot.tracks d) i []))),
                              (77, AVal.pv false (PV.int Go.IntKind.i64 (↑(List.length (Depot.tracks d)) : Int))),
                              (78, AVal.pv false (PV.int Go.IntKind.i64 0))],
                          heap :=
                            [Blk.box
                                [AVal.pv false (PV.lst 0 NF.isNil 0 fun (x x_1 : Nat) => PV.junk),
                                  AVal.pv false (PV.lst 0 NF.isNil 0 fun (x x_1 : Nat) => PV.junk)],
                              Blk.box
                                [AVal.pv false (intsP x),
                                  AVal.pv false (PV.lst 0 NF.isNil 0 fun (x x_1 : Nat) => PV.junk)]] }))))) := by intros; kernel_rfl
theorem f81_body12 : ∀ (d : Depot) (m : Move) (i : Nat) (r : List Int) (N : St → Prop) (X : Nat → St → Prop)
  (K : AVal → Prop),
  run Try.prog TT shpM (f81_fl d m)
      (sub [1, 1, 1, 1, 0, 1, 0, 0] (bodyOf Try.f81))
      (cutQ [3, 4, 8, 76, 77, 78] [3, 4, 8] 4 N X fun (s : St) => retK TT (Go.Func.results Try.f81) s K)
      (f81_s12 d m i r) =
    br (Decidable.decide ((↑i : Int) < (↑(List.length (Depot.tracks d)) : Int)))
      ((0 ≤ (↑i : Int) ∧ (↑i : Int) < (↑(List.length (Depot.tracks d)) : Int)) ∧
        CallT Try.prog (shpM 80) 80
          [AVal.pv false (intsP (List.getD (Depot.tracks d) (Int.toNat (↑i : Int)) []))] [] fun (x : List Int) =>
          (1 = 1 ∧ 1 ≤ 1 ∧ 1 ≤ 140737488355328 ∧ 24 ≤ 140737488355328) ∧
            N
              { nt := 131,
                env :=
                  [(3, AVal.pv false (PV.cptr 2 (pvAt (moveC m)) 0)),
                    (4, AVal.ptr 0 0 0 0), (8, AVal.ptr 1 0 0 0),
                    (76, AVal.pv false (listsP (Depot.tracks d))),
                    (77, AVal.pv false (PV.int Go.IntKind.i64 (↑(List.length (Depot.tracks d)) : Int))),
                    (78, AVal.pv false (PV.int Go.IntKind.i64 (Go.IntKind.wrap Go.IntKind.i64 ((↑i : Int) + 1))))],
                heap :=
                  [Blk.box [nilP, nilP],
                    Blk.box [AVal.pv false (intsP r), AVal.arr 3 1 0 1],
                    Blk.row 1 1 (fun (x_1 x_2 : Nat) => intsP x) fun (x x_1 : Nat) => false,
                    Blk.row 1 1 (fun (x_1 x_2 : Nat) => intsP x) fun (x x_1 : Nat) => true] })
      (X 1
        { nt := 131,
          env :=
            [(3, AVal.pv false (PV.cptr 2 (pvAt (moveC m)) 0)), (4, AVal.ptr 0 0 0 0),
              (8, AVal.ptr 1 0 0 0)],
          heap :=
            [Blk.box [nilP, nilP],
              Blk.box [AVal.pv false (intsP r), nilP]] }) := by intros; kernel_rfl
theorem f81_exit12_1 : ∀ (d : Depot) (m : Move) (i : Nat) (r : List Int) (K : AVal → Prop),
  kont Try.prog TT shpM (f81_fl d m) [1, 1, 1, 1, 0, 1, 0] (bodyOf Try.f81)
      (retQ TT (Go.Func.results Try.f81) K) (Go.Exit.exit 1)
      { nt := 131, env := [(3, moveP m), (4, AVal.ptr 0 0 0 0), (8, AVal.ptr 1 0 0 0)],
        heap :=
          [Blk.box [nilP, nilP],
            Blk.box [AVal.pv false (intsP r), nilP]] } =
    False := by intros; kernel_rfl
theorem f81_body12b : ∀ (d : Depot) (m : Move) (i : Nat) (r : List Int) (l : List (List Int)) (N : St → Prop) (X : Nat → St → Prop)
  (K : AVal → Prop),
  run Try.prog TT shpM (f81_fl d m)
      (sub [1, 1, 1, 1, 0, 1, 0, 0] (bodyOf Try.f81))
      (cutQ [3, 4, 8, 76, 77, 78] [3, 4, 8] 4 N X fun (s : St) => retK TT (Go.Func.results Try.f81) s K)
      (f81_s12b d m i r l) =
    br (Decidable.decide ((↑i : Int) < (↑(List.length (Depot.tracks d)) : Int)))
      ((0 ≤ (↑i : Int) ∧ (↑i : Int) < (↑(List.length (Depot.tracks d)) : Int)) ∧
        CallT Try.prog (shpM 80) 80
          [AVal.pv false (intsP (List.getD (Depot.tracks d) (Int.toNat (↑i : Int)) []))] [] fun (x : List Int) =>
          (List.length l = List.length l ∧ 1 = 1 ∧ List.length l + 1 ≤ 140737488355328 ∧ (List.length l + 1) * 24 ≤ 140737488355328) ∧
            N
              { nt := 131,
                env :=
                  [(3, AVal.pv false (PV.cptr 2 (pvAt (moveC m)) 0)),
                    (4, AVal.ptr 0 0 0 0), (8, AVal.ptr 1 0 0 0),
                    (76, AVal.pv false (listsP (Depot.tracks d))),
                    (77, AVal.pv false (PV.int Go.IntKind.i64 (↑(List.length (Depot.tracks d)) : Int))),
                    (78, AVal.pv false (PV.int Go.IntKind.i64 (Go.IntKind.wrap Go.IntKind.i64 ((↑i : Int) + 1))))],
                heap :=
                  [Blk.box
                      [AVal.pv false (PV.lst 0 NF.isNil 0 fun (x x_1 : Nat) => PV.junk),
                        AVal.pv false (PV.lst 0 NF.isNil 0 fun (x x_1 : Nat) => PV.junk)],
                    Blk.box [AVal.pv false (intsP r), AVal.arr 2 1 0 (List.length l + 1)],
                    Blk.row 1 (List.length l + 1)
                      (appEl (List.length l) (fun (i x : Nat) => intsP (List.getD l i [])) fun (x_1 x_2 : Nat) => intsP x) fun (i j : Nat) =>
                      bif Nat.blt i (List.length l) then true else true,
                    Blk.row 1 1 (fun (x_1 x_2 : Nat) => intsP x) fun (x x_1 : Nat) => false] })
      (X 1
        { nt := 131,
          env :=
            [(3, AVal.pv false (PV.cptr 2 (pvAt (moveC m)) 0)), (4, AVal.ptr 0 0 0 0),
              (8, AVal.ptr 1 0 0 0)],
          heap :=
            [Blk.box [nilP, nilP],
              Blk.box [AVal.pv false (intsP r), AVal.arr 2 1 0 (List.length l)],
              rowsB l] }) := by intros; kernel_rfl
theorem f81_exit12b_1 : ∀ (d : Depot) (m : Move) (i : Nat) (r : List Int) (l : List (List Int)) (K : AVal → Prop),
  kont Try.prog TT shpM (f81_fl d m) [1, 1, 1, 1, 0, 1, 0] (bodyOf Try.f81)
      (retQ TT (Go.Func.results Try.f81) K) (Go.Exit.exit 1)
      { nt := 131, env := [(3, moveP m), (4, AVal.ptr 0 0 0 0), (8, AVal.ptr 1 0 0 0)],
        heap :=
          [Blk.box [nilP, nilP],
            Blk.box
              [AVal.pv false (intsP (Depot.room d)),
                AVal.arr 2 1 0 (List.length (Depot.tracks d))],
            rowsB (Depot.tracks d)] } =
    ((0 ≤ Move.frm m ∧ Move.frm m < (↑(List.length (Depot.tracks d)) : Int)) ∧
      0 + Int.toNat (Move.frm m) < List.length (Depot.tracks d) ∧
        (0 ≤ Go.IntKind.wrap Go.IntKind.i64 ((↑(List.length (List.getD (Depot.tracks d) (0 + Int.toNat (Move.frm m)) [])) : Int) - 1) ∧
            Go.IntKind.wrap Go.IntKind.i64 ((↑(List.length (List.getD (Depot.tracks d) (0 + Int.toNat (Move.frm m)) [])) : Int) - 1) <
              (↑(List.length (List.getD (Depot.tracks d) (0 + Int.toNat (Move.frm m)) [])) : Int)) ∧
          ((Int.ofNat 0 ≤ Int.ofNat 0 ∧
                0 ≤ Go.IntKind.wrap Go.IntKind.i64 ((↑(List.length (List.getD (Depot.tracks d) (0 + Int.toNat (Move.frm m)) [])) : Int) - 1) ∧
                  Go.IntKind.wrap Go.IntKind.i64 ((↑(List.length (List.getD (Depot.tracks d) (0 + Int.toNat (Move.frm m)) [])) : Int) - 1) ≤
                    (↑(List.length (List.getD (Depot.tracks d) (0 + Int.toNat (Move.frm m)) [])) : Int)) ∧
              (0 ≤ Move.frm m ∧ Move.frm m < (↑(List.length (Depot.tracks d)) : Int)) ∧
                0 + Int.toNat (Move.frm m) < List.length (Depot.tracks d) ∧
                  Le
                    { nt := 131,
                      env :=
                        [(3, AVal.pv false (PV.cptr 2 (pvAt (moveC m)) 0)),
                          (4, AVal.ptr 0 0 0 0), (8, AVal.ptr 1 0 0 0),
                          (12,
                            AVal.pv false
                              (PV.int Go.IntKind.i64
                                (List.getD (List.getD (Depot.tracks d) (0 + Int.toNat (Move.frm m)) [])
                                  (Int.toNat (Go.IntKind.wrap Go.IntKind.i64 ((↑(List.length (List.getD (Depot.tracks d) (0 + Int.toNat (Move.frm m)) [])) : Int) - 1))) 0)))],
                      heap :=
                        [Blk.box [nilP, nilP],
                          Blk.box
                            [AVal.pv false (intsP (Depot.room d)),
                              AVal.arr 2 1 0 (List.length (Depot.tracks d))],
                          Blk.row 1 (List.length (Depot.tracks d))
                            (fun (a b : Nat) =>
                              bif Nat.beq a (0 + Int.toNat (Move.frm m)) && Nat.beq b 0 then
                                PV.lst 1 NF.any
                                  (Int.toNat (Go.IntKind.wrap Go.IntKind.i64 ((↑(List.length (List.getD (Depot.tracks d) (0 + Int.toNat (Move.frm m)) [])) : Int) - 1) - 0))
                                  fun (i j : Nat) =>
                                  PV.int Go.IntKind.i64 (List.getD (List.getD (Depot.tracks d) (0 + Int.toNat (Move.frm m)) []) (0 + i) 0)
                              else intsP (List.getD (Depot.tracks d) a []))
                            fun (a b : Nat) => bif Nat.beq a (0 + Int.toNat (Move.frm m)) && Nat.beq b 0 then false else true] }
                    { nt := 131,
                      env :=
                        [(3, moveP m), (4, AVal.ptr 0 0 0 0), (8, AVal.ptr 1 0 0 0),
                          (12, bI (mvS d m))],
                      heap :=
                        [Blk.box [nilP, nilP],
                          Blk.box
                            [AVal.pv false (intsP (Depot.room d)),
                              AVal.arr 2 1 0 (List.length (Depot.tracks d))],
                          cutRow d m] }) ∧
            br (Decidable.decide (0 ≤ Move.to m))
              ((0 ≤ Move.to m ∧ Move.to m < (↑(List.length (Depot.tracks d)) : Int)) ∧
                br (Nat.beq 1 1 && (Nat.blt 0 1 && !Nat.beq (0 + Int.toNat (Move.to m)) (Int.toNat (Move.frm m))))
                  (0 + Int.toNat (Move.to m) < List.length (Depot.tracks d) ∧
                    (List.length (List.getD (cutT d m) (0 + Int.toNat (Move.to m)) []) + 1 ≤ 140737488355328 ∧
                        (List.length (List.getD (cutT d m) (0 + Int.toNat (Move.to m)) []) + 1) * 8 ≤ 140737488355328) ∧
                      (0 ≤ Move.to m ∧ Move.to m < (↑(List.length (Depot.tracks d)) : Int)) ∧
                        0 + Int.toNat (Move.to m) < List.length (Depot.tracks d) ∧
                          0 + List.length (Depot.tracks d) ≤ List.length (Depot.tracks d) ∧
                            K
                              (AVal.tup
                                [AVal.agg
                                    [AVal.pv false (intsP (Depot.room d)),
                                      AVal.pv false
                                        (PV.lst 1 NF.any (List.length (Depot.tracks d)) fun (i j : Nat) =>
                                          bif Nat.beq (0 + i) (0 + Int.toNat (Move.to m)) && Nat.beq j 0 then
                                            PV.lst 1 NF.any
                                              (List.length (List.getD (cutT d m) (0 + Int.toNat (Move.to m)) []) + 1)
                                              (appEl (List.length (List.getD (cutT d m) (0 + Int.toNat (Move.to m)) []))
                                                (fun (i x : Nat) =>
                                                  PV.int Go.IntKind.i64 (List.getD (List.getD (cutT d m) (0 + Int.toNat (Move.to m)) []) i 0))
                                                fun (i j : Nat) =>
                                                pvAt [AVal.pv false (PV.int Go.IntKind.i64 (mvS d m))] (i * 1 + j))
                                          else intsP (List.getD (cutT d m) (0 + i) []))],
                                  AVal.pv false (PV.int Go.IntKind.i64 (mvS d m)),
                                  AVal.pv false (PV.int Go.IntKind.i64 0)]))
                  False)
              (0 + List.length (Depot.tracks d) ≤ List.length (Depot.tracks d) ∧
                K
                  (AVal.tup
                    [AVal.agg
                        [AVal.pv false (intsP (Depot.room d)),
                          AVal.pv false
                            (PV.lst 1 NF.any (List.length (Depot.tracks d)) fun (i j : Nat) =>
                              intsP (List.getD (cutT d m) (0 + i) []))],
                      AVal.pv false (PV.int Go.IntKind.i64 (mvS d m)),
                      AVal.pv false (PV.int Go.IntKind.i64 0)]))) := by intros; kernel_rfl
theorem f32_tree : ∀ (d : Depot) (m : Move) (K : AVal → Prop),
  run Try.prog TT shpM (f32_fl d m) (bodyOf Try.f32)
      (retQ TT (Go.Func.results Try.f32) K)
      (entry (Go.Func.ntmps Try.f32) [depV d, moveV m]) =
    br (Decidable.decide (Move.frm m < 0))
      (K
        (AVal.tup
          [AVal.agg
              [AVal.pv false (PV.lst 0 NF.isNil 0 fun (x x_1 : Nat) => PV.junk),
                AVal.pv false (PV.lst 0 NF.isNil 0 fun (x x_1 : Nat) => PV.junk)],
            AVal.pv false (PV.int Go.IntKind.i64 (-1)), AVal.pv false (PV.int Go.IntKind.i64 2)]))
      (br (Decidable.decide ((↑(List.length (Depot.room d)) : Int) ≤ Move.frm m))
        (K
          (AVal.tup
            [AVal.agg
                [AVal.pv false (PV.lst 0 NF.isNil 0 fun (x x_1 : Nat) => PV.junk),
                  AVal.pv false (PV.lst 0 NF.isNil 0 fun (x x_1 : Nat) => PV.junk)],
              AVal.pv false (PV.int Go.IntKind.i64 (-1)), AVal.pv false (PV.int Go.IntKind.i64 2)]))
        (br (Decidable.decide (Move.to m < -1))
          (K
            (AVal.tup
              [AVal.agg
                  [AVal.pv false (PV.lst 0 NF.isNil 0 fun (x x_1 : Nat) => PV.junk),
                    AVal.pv false (PV.lst 0 NF.isNil 0 fun (x x_1 : Nat) => PV.junk)],
                AVal.pv false (PV.int Go.IntKind.i64 (-1)), AVal.pv false (PV.int Go.IntKind.i64 2)]))
          (br (Decidable.decide ((↑(List.length (Depot.room d)) : Int) ≤ Move.to m))
            (K
              (AVal.tup
                [AVal.agg
                    [AVal.pv false (PV.lst 0 NF.isNil 0 fun (x x_1 : Nat) => PV.junk),
                      AVal.pv false (PV.lst 0 NF.isNil 0 fun (x x_1 : Nat) => PV.junk)],
                  AVal.pv false (PV.int Go.IntKind.i64 (-1)), AVal.pv false (PV.int Go.IntKind.i64 2)]))
            (br (Decidable.decide (Move.frm m = Move.to m))
              (K
                (AVal.tup
                  [AVal.agg
                      [AVal.pv false (PV.lst 0 NF.isNil 0 fun (x x_1 : Nat) => PV.junk),
                        AVal.pv false (PV.lst 0 NF.isNil 0 fun (x x_1 : Nat) => PV.junk)],
                    AVal.pv false (PV.int Go.IntKind.i64 (-1)), AVal.pv false (PV.int Go.IntKind.i64 1)]))
              ((0 ≤ Move.frm m ∧ Move.frm m < (↑(List.length (Depot.tracks d)) : Int)) ∧
                br (Decidable.decide ((↑(List.length (List.getD (Depot.tracks d) (Int.toNat (Move.frm m)) [])) : Int) = 0))
                  (K
                    (AVal.tup
                      [AVal.agg
                          [AVal.pv false (PV.lst 0 NF.isNil 0 fun (x x_1 : Nat) => PV.junk),
                            AVal.pv false (PV.lst 0 NF.isNil 0 fun (x x_1 : Nat) => PV.junk)],
                        AVal.pv false (PV.int Go.IntKind.i64 (-1)), AVal.pv false (PV.int Go.IntKind.i64 9)]))
                  (br (Decidable.decide (0 ≤ Move.to m))
                    ((0 ≤ Move.to m ∧ Move.to m < (↑(List.length (Depot.tracks d)) : Int)) ∧
                      (0 ≤ Move.to m ∧ Move.to m < (↑(List.length (Depot.room d)) : Int)) ∧
                        br
                          (Decidable.decide
                            (List.getD (Depot.room d) (Int.toNat (Move.to m)) 0 ≤
                              (↑(List.length (List.getD (Depot.tracks d) (Int.toNat (Move.to m)) [])) : Int)))
                          (K
                            (AVal.tup
                              [AVal.agg
                                  [AVal.pv false (PV.lst 0 NF.isNil 0 fun (x x_1 : Nat) => PV.junk),
                                    AVal.pv false (PV.lst 0 NF.isNil 0 fun (x x_1 : Nat) => PV.junk)],
                                AVal.pv false (PV.int Go.IntKind.i64 (-1)),
                                AVal.pv false (PV.int Go.IntKind.i64 14)]))
                          (CallT Try.prog (shpM 80) 80
                            [AVal.pv false
                                (PV.lst 1 NF.any (List.length (Depot.room d)) fun (i x : Nat) =>
                                  PV.int Go.IntKind.i64 (List.getD (Depot.room d) i 0))]
                            [] fun (x : List Int) =>
                            LoopK
                              (run Try.prog TT shpM (f32_fl d m)
                                (sub [1, 1, 1, 1, 1, 1, 1, 0, 1, 0, 0] (bodyOf Try.f32)))
                              (kont Try.prog TT shpM (f32_fl d m) [1, 1, 1, 1, 1, 1, 1, 0, 1, 0]
                                (bodyOf Try.f32) (retQ TT (Go.Func.results Try.f32) K))
                              { nt := 133,
                                env :=
                                  [(3,
                                      AVal.pv false
                                        (PV.cptr 2
                                          (pvAt
                                            [AVal.pv false (PV.int Go.IntKind.i64 (Move.frm m)),
                                              AVal.pv false (PV.int Go.IntKind.i64 (Move.to m))])
                                          0)),
                                    (4, AVal.ptr 0 0 0 0), (8, AVal.ptr 1 0 0 0),
                                    (77,
                                      AVal.pv false
                                        (PV.lst 1 NF.any (List.length (Depot.tracks d)) fun (i x : Nat) =>
                                          intsP (List.getD (Depot.tracks d) i []))),
                                    (78, AVal.pv false (PV.int Go.IntKind.i64 (↑(List.length (Depot.tracks d)) : Int))),
                                    (79, AVal.pv false (PV.int Go.IntKind.i64 0))],
                                heap :=
                                  [Blk.box
                                      [AVal.pv false (PV.lst 0 NF.isNil 0 fun (x x_1 : Nat) => PV.junk),
                                        AVal.pv false (PV.lst 0 NF.isNil 0 fun (x x_1 : Nat) => PV.junk)],
                                    Blk.box
                                      [AVal.pv false (intsP x),
                                        AVal.pv false (PV.lst 0 NF.isNil 0 fun (x x_1 : Nat) => PV.junk)]] }))
                    (CallT Try.prog (shpM 80) 80
                      [AVal.pv false
                          (PV.lst 1 NF.any (List.length (Depot.room d)) fun (i x : Nat) =>
                            PV.int Go.IntKind.i64 (List.getD (Depot.room d) i 0))]
                      [] fun (x : List Int) =>
                      LoopK
                        (run Try.prog TT shpM (f32_fl d m)
                          (sub [1, 1, 1, 1, 1, 1, 1, 0, 1, 0, 0] (bodyOf Try.f32)))
                        (kont Try.prog TT shpM (f32_fl d m) [1, 1, 1, 1, 1, 1, 1, 0, 1, 0]
                          (bodyOf Try.f32) (retQ TT (Go.Func.results Try.f32) K))
                        { nt := 133,
                          env :=
                            [(3,
                                AVal.pv false
                                  (PV.cptr 2
                                    (pvAt
                                      [AVal.pv false (PV.int Go.IntKind.i64 (Move.frm m)),
                                        AVal.pv false (PV.int Go.IntKind.i64 (Move.to m))])
                                    0)),
                              (4, AVal.ptr 0 0 0 0), (8, AVal.ptr 1 0 0 0),
                              (77,
                                AVal.pv false
                                  (PV.lst 1 NF.any (List.length (Depot.tracks d)) fun (i x : Nat) =>
                                    intsP (List.getD (Depot.tracks d) i []))),
                              (78, AVal.pv false (PV.int Go.IntKind.i64 (↑(List.length (Depot.tracks d)) : Int))),
                              (79, AVal.pv false (PV.int Go.IntKind.i64 0))],
                          heap :=
                            [Blk.box
                                [AVal.pv false (PV.lst 0 NF.isNil 0 fun (x x_1 : Nat) => PV.junk),
                                  AVal.pv false (PV.lst 0 NF.isNil 0 fun (x x_1 : Nat) => PV.junk)],
                              Blk.box
                                [AVal.pv false (intsP x),
                                  AVal.pv false (PV.lst 0 NF.isNil 0 fun (x x_1 : Nat) => PV.junk)]] }))))))) := by intros; kernel_rfl
theorem f32_body12 : ∀ (d : Depot) (m : Move) (i : Nat) (r : List Int) (N : St → Prop) (X : Nat → St → Prop)
  (K : AVal → Prop),
  run Try.prog TT shpM (f32_fl d m)
      (sub [1, 1, 1, 1, 1, 1, 1, 0, 1, 0, 0] (bodyOf Try.f32))
      (cutQ [3, 4, 8, 77, 78, 79] [3, 4, 8] 4 N X fun (s : St) => retK TT (Go.Func.results Try.f32) s K)
      (f32_s12 d m i r) =
    br (Decidable.decide ((↑i : Int) < (↑(List.length (Depot.tracks d)) : Int)))
      ((0 ≤ (↑i : Int) ∧ (↑i : Int) < (↑(List.length (Depot.tracks d)) : Int)) ∧
        CallT Try.prog (shpM 80) 80
          [AVal.pv false (intsP (List.getD (Depot.tracks d) (Int.toNat (↑i : Int)) []))] [] fun (x : List Int) =>
          (1 = 1 ∧ 1 ≤ 1 ∧ 1 ≤ 140737488355328 ∧ 24 ≤ 140737488355328) ∧
            N
              { nt := 133,
                env :=
                  [(3, AVal.pv false (PV.cptr 2 (pvAt (moveC m)) 0)),
                    (4, AVal.ptr 0 0 0 0), (8, AVal.ptr 1 0 0 0),
                    (77, AVal.pv false (listsP (Depot.tracks d))),
                    (78, AVal.pv false (PV.int Go.IntKind.i64 (↑(List.length (Depot.tracks d)) : Int))),
                    (79, AVal.pv false (PV.int Go.IntKind.i64 (Go.IntKind.wrap Go.IntKind.i64 ((↑i : Int) + 1))))],
                heap :=
                  [Blk.box [nilP, nilP],
                    Blk.box [AVal.pv false (intsP r), AVal.arr 3 1 0 1],
                    Blk.row 1 1 (fun (x_1 x_2 : Nat) => intsP x) fun (x x_1 : Nat) => false,
                    Blk.row 1 1 (fun (x_1 x_2 : Nat) => intsP x) fun (x x_1 : Nat) => true] })
      (X 0
        { nt := 133,
          env :=
            [(3, AVal.pv false (PV.cptr 2 (pvAt (moveC m)) 0)), (4, AVal.ptr 0 0 0 0),
              (8, AVal.ptr 1 0 0 0)],
          heap :=
            [Blk.box [nilP, nilP],
              Blk.box [AVal.pv false (intsP r), nilP]] }) := by intros; kernel_rfl
theorem f32_exit12_0 : ∀ (d : Depot) (m : Move) (i : Nat) (r : List Int) (K : AVal → Prop),
  kont Try.prog TT shpM (f32_fl d m) [1, 1, 1, 1, 1, 1, 1, 0, 1, 0]
      (bodyOf Try.f32) (retQ TT (Go.Func.results Try.f32) K) (Go.Exit.exit 0)
      { nt := 133, env := [(3, moveP m), (4, AVal.ptr 0 0 0 0), (8, AVal.ptr 1 0 0 0)],
        heap :=
          [Blk.box [nilP, nilP],
            Blk.box [AVal.pv false (intsP r), nilP]] } =
    False := by intros; kernel_rfl
theorem f32_body12b : ∀ (d : Depot) (m : Move) (i : Nat) (r : List Int) (l : List (List Int)) (N : St → Prop) (X : Nat → St → Prop)
  (K : AVal → Prop),
  run Try.prog TT shpM (f32_fl d m)
      (sub [1, 1, 1, 1, 1, 1, 1, 0, 1, 0, 0] (bodyOf Try.f32))
      (cutQ [3, 4, 8, 77, 78, 79] [3, 4, 8] 4 N X fun (s : St) => retK TT (Go.Func.results Try.f32) s K)
      (f32_s12b d m i r l) =
    br (Decidable.decide ((↑i : Int) < (↑(List.length (Depot.tracks d)) : Int)))
      ((0 ≤ (↑i : Int) ∧ (↑i : Int) < (↑(List.length (Depot.tracks d)) : Int)) ∧
        CallT Try.prog (shpM 80) 80
          [AVal.pv false (intsP (List.getD (Depot.tracks d) (Int.toNat (↑i : Int)) []))] [] fun (x : List Int) =>
          (List.length l = List.length l ∧ 1 = 1 ∧ List.length l + 1 ≤ 140737488355328 ∧ (List.length l + 1) * 24 ≤ 140737488355328) ∧
            N
              { nt := 133,
                env :=
                  [(3, AVal.pv false (PV.cptr 2 (pvAt (moveC m)) 0)),
                    (4, AVal.ptr 0 0 0 0), (8, AVal.ptr 1 0 0 0),
                    (77, AVal.pv false (listsP (Depot.tracks d))),
                    (78, AVal.pv false (PV.int Go.IntKind.i64 (↑(List.length (Depot.tracks d)) : Int))),
                    (79, AVal.pv false (PV.int Go.IntKind.i64 (Go.IntKind.wrap Go.IntKind.i64 ((↑i : Int) + 1))))],
                heap :=
                  [Blk.box
                      [AVal.pv false (PV.lst 0 NF.isNil 0 fun (x x_1 : Nat) => PV.junk),
                        AVal.pv false (PV.lst 0 NF.isNil 0 fun (x x_1 : Nat) => PV.junk)],
                    Blk.box [AVal.pv false (intsP r), AVal.arr 2 1 0 (List.length l + 1)],
                    Blk.row 1 (List.length l + 1)
                      (appEl (List.length l) (fun (i x : Nat) => intsP (List.getD l i [])) fun (x_1 x_2 : Nat) => intsP x) fun (i j : Nat) =>
                      bif Nat.blt i (List.length l) then true else true,
                    Blk.row 1 1 (fun (x_1 x_2 : Nat) => intsP x) fun (x x_1 : Nat) => false] })
      (X 0
        { nt := 133,
          env :=
            [(3, AVal.pv false (PV.cptr 2 (pvAt (moveC m)) 0)), (4, AVal.ptr 0 0 0 0),
              (8, AVal.ptr 1 0 0 0)],
          heap :=
            [Blk.box [nilP, nilP],
              Blk.box [AVal.pv false (intsP r), AVal.arr 2 1 0 (List.length l)],
              rowsB l] }) := by intros; kernel_rfl
theorem f32_exit12b_0 : ∀ (d : Depot) (m : Move) (i : Nat) (r : List Int) (l : List (List Int)) (K : AVal → Prop),
  kont Try.prog TT shpM (f32_fl d m) [1, 1, 1, 1, 1, 1, 1, 0, 1, 0]
      (bodyOf Try.f32) (retQ TT (Go.Func.results Try.f32) K) (Go.Exit.exit 0)
      { nt := 133, env := [(3, moveP m), (4, AVal.ptr 0 0 0 0), (8, AVal.ptr 1 0 0 0)],
        heap :=
          [Blk.box [nilP, nilP],
            Blk.box
              [AVal.pv false (intsP (Depot.room d)),
                AVal.arr 2 1 0 (List.length (Depot.tracks d))],
            rowsB (Depot.tracks d)] } =
    ((0 ≤ Move.frm m ∧ Move.frm m < (↑(List.length (Depot.tracks d)) : Int)) ∧
      0 + Int.toNat (Move.frm m) < List.length (Depot.tracks d) ∧
        (0 ≤ Go.IntKind.wrap Go.IntKind.i64 ((↑(List.length (List.getD (Depot.tracks d) (0 + Int.toNat (Move.frm m)) [])) : Int) - 1) ∧
            Go.IntKind.wrap Go.IntKind.i64 ((↑(List.length (List.getD (Depot.tracks d) (0 + Int.toNat (Move.frm m)) [])) : Int) - 1) <
              (↑(List.length (List.getD (Depot.tracks d) (0 + Int.toNat (Move.frm m)) [])) : Int)) ∧
          ((Int.ofNat 0 ≤ Int.ofNat 0 ∧
                0 ≤ Go.IntKind.wrap Go.IntKind.i64 ((↑(List.length (List.getD (Depot.tracks d) (0 + Int.toNat (Move.frm m)) [])) : Int) - 1) ∧
                  Go.IntKind.wrap Go.IntKind.i64 ((↑(List.length (List.getD (Depot.tracks d) (0 + Int.toNat (Move.frm m)) [])) : Int) - 1) ≤
                    (↑(List.length (List.getD (Depot.tracks d) (0 + Int.toNat (Move.frm m)) [])) : Int)) ∧
              (0 ≤ Move.frm m ∧ Move.frm m < (↑(List.length (Depot.tracks d)) : Int)) ∧
                0 + Int.toNat (Move.frm m) < List.length (Depot.tracks d) ∧
                  Le
                    { nt := 133,
                      env :=
                        [(3, AVal.pv false (PV.cptr 2 (pvAt (moveC m)) 0)),
                          (4, AVal.ptr 0 0 0 0), (8, AVal.ptr 1 0 0 0),
                          (12,
                            AVal.pv false
                              (PV.int Go.IntKind.i64
                                (List.getD (List.getD (Depot.tracks d) (0 + Int.toNat (Move.frm m)) [])
                                  (Int.toNat (Go.IntKind.wrap Go.IntKind.i64 ((↑(List.length (List.getD (Depot.tracks d) (0 + Int.toNat (Move.frm m)) [])) : Int) - 1))) 0)))],
                      heap :=
                        [Blk.box [nilP, nilP],
                          Blk.box
                            [AVal.pv false (intsP (Depot.room d)),
                              AVal.arr 2 1 0 (List.length (Depot.tracks d))],
                          Blk.row 1 (List.length (Depot.tracks d))
                            (fun (a b : Nat) =>
                              bif Nat.beq a (0 + Int.toNat (Move.frm m)) && Nat.beq b 0 then
                                PV.lst 1 NF.any
                                  (Int.toNat (Go.IntKind.wrap Go.IntKind.i64 ((↑(List.length (List.getD (Depot.tracks d) (0 + Int.toNat (Move.frm m)) [])) : Int) - 1) - 0))
                                  fun (i j : Nat) =>
                                  PV.int Go.IntKind.i64 (List.getD (List.getD (Depot.tracks d) (0 + Int.toNat (Move.frm m)) []) (0 + i) 0)
                              else intsP (List.getD (Depot.tracks d) a []))
                            fun (a b : Nat) => bif Nat.beq a (0 + Int.toNat (Move.frm m)) && Nat.beq b 0 then false else true] }
                    { nt := 133,
                      env :=
                        [(3, moveP m), (4, AVal.ptr 0 0 0 0), (8, AVal.ptr 1 0 0 0),
                          (12, bI (mvS d m))],
                      heap :=
                        [Blk.box [nilP, nilP],
                          Blk.box
                            [AVal.pv false (intsP (Depot.room d)),
                              AVal.arr 2 1 0 (List.length (Depot.tracks d))],
                          cutRow d m] }) ∧
            br (Decidable.decide (Move.to m < 0))
              (0 + List.length (Depot.tracks d) ≤ List.length (Depot.tracks d) ∧
                K
                  (AVal.tup
                    [AVal.agg
                        [AVal.pv false (intsP (Depot.room d)),
                          AVal.pv false
                            (PV.lst 1 NF.any (List.length (Depot.tracks d)) fun (i j : Nat) =>
                              intsP (List.getD (cutT d m) (0 + i) []))],
                      AVal.pv false (PV.int Go.IntKind.i64 (mvS d m)),
                      AVal.pv false (PV.int Go.IntKind.i64 0)]))
              ((0 ≤ Move.to m ∧ Move.to m < (↑(List.length (Depot.tracks d)) : Int)) ∧
                br (Nat.beq 1 1 && (Nat.blt 0 1 && !Nat.beq (0 + Int.toNat (Move.to m)) (Int.toNat (Move.frm m))))
                  (0 + Int.toNat (Move.to m) < List.length (Depot.tracks d) ∧
                    (List.length (List.getD (cutT d m) (0 + Int.toNat (Move.to m)) []) + 1 ≤ 140737488355328 ∧
                        (List.length (List.getD (cutT d m) (0 + Int.toNat (Move.to m)) []) + 1) * 8 ≤ 140737488355328) ∧
                      (0 ≤ Move.to m ∧ Move.to m < (↑(List.length (Depot.tracks d)) : Int)) ∧
                        0 + Int.toNat (Move.to m) < List.length (Depot.tracks d) ∧
                          0 + List.length (Depot.tracks d) ≤ List.length (Depot.tracks d) ∧
                            K
                              (AVal.tup
                                [AVal.agg
                                    [AVal.pv false (intsP (Depot.room d)),
                                      AVal.pv false
                                        (PV.lst 1 NF.any (List.length (Depot.tracks d)) fun (i j : Nat) =>
                                          bif Nat.beq (0 + i) (0 + Int.toNat (Move.to m)) && Nat.beq j 0 then
                                            PV.lst 1 NF.any
                                              (List.length (List.getD (cutT d m) (0 + Int.toNat (Move.to m)) []) + 1)
                                              (appEl (List.length (List.getD (cutT d m) (0 + Int.toNat (Move.to m)) []))
                                                (fun (i x : Nat) =>
                                                  PV.int Go.IntKind.i64 (List.getD (List.getD (cutT d m) (0 + Int.toNat (Move.to m)) []) i 0))
                                                fun (i j : Nat) =>
                                                pvAt [AVal.pv false (PV.int Go.IntKind.i64 (mvS d m))] (i * 1 + j))
                                          else intsP (List.getD (cutT d m) (0 + i) []))],
                                  AVal.pv false (PV.int Go.IntKind.i64 (-1)),
                                  AVal.pv false (PV.int Go.IntKind.i64 0)]))
                  False)) := by intros; kernel_rfl
theorem f27_tree : ∀ (d : Depot) (l : List Move) (K : AVal → Prop),
  run Try.prog TT shpM f27_fl (bodyOf Try.f27)
      (retQ TT (Go.Func.results Try.f27) K)
      (entry (Go.Func.ntmps Try.f27) [depV d, AVal.pv false (movesP l)]) =
    CallT Try.prog (shpM 22) 22
      [AVal.agg
          [AVal.pv false
              (PV.lst 1 NF.any (List.length (Depot.room d)) fun (i x : Nat) =>
                PV.int Go.IntKind.i64 (List.getD (Depot.room d) i 0)),
            AVal.pv false
              (PV.lst 1 NF.any (List.length (Depot.tracks d)) fun (i x : Nat) =>
                intsP (List.getD (Depot.tracks d) i []))]]
      [] fun (x : Int) =>
      br (!Decidable.decide (x = 0))
        (K
          (AVal.tup
            [AVal.agg
                [AVal.pv false (PV.lst 0 NF.isNil 0 fun (x x_1 : Nat) => PV.junk),
                  AVal.pv false (PV.lst 0 NF.isNil 0 fun (x x_1 : Nat) => PV.junk)],
              AVal.pv false (PV.lst 0 NF.isNil 0 fun (x x_1 : Nat) => PV.junk),
              AVal.pv false (PV.int Go.IntKind.i64 x)]))
        (CallT Try.prog (shpM 80) 80
          [AVal.pv false
              (PV.lst 1 NF.any (List.length (Depot.room d)) fun (i x : Nat) =>
                PV.int Go.IntKind.i64 (List.getD (Depot.room d) i 0))]
          [] fun (x : List Int) =>
          LoopK
            (run Try.prog TT shpM f27_fl
              (sub [1, 1, 1, 0, 1, 0, 0] (bodyOf Try.f27)))
            (kont Try.prog TT shpM f27_fl [1, 1, 1, 0, 1, 0] (bodyOf Try.f27)
              (retQ TT (Go.Func.results Try.f27) K))
            { nt := 70,
              env :=
                [(1, AVal.pv false (movesP l)), (4, AVal.ptr 0 0 0 0), (8, AVal.ptr 1 0 0 0),
                  (28,
                    AVal.pv false
                      (PV.lst 1 NF.any (List.length (Depot.tracks d)) fun (i x : Nat) =>
                        intsP (List.getD (Depot.tracks d) i []))),
                  (29, AVal.pv false (PV.int Go.IntKind.i64 (↑(List.length (Depot.tracks d)) : Int))),
                  (30, AVal.pv false (PV.int Go.IntKind.i64 0))],
              heap :=
                [Blk.box
                    [AVal.pv false (PV.lst 0 NF.isNil 0 fun (x x_1 : Nat) => PV.junk),
                      AVal.pv false (PV.lst 0 NF.isNil 0 fun (x x_1 : Nat) => PV.junk)],
                  Blk.box
                    [AVal.pv false (intsP x),
                      AVal.pv false (PV.lst 0 NF.isNil 0 fun (x x_1 : Nat) => PV.junk)]] }) := by intros; kernel_rfl
theorem f27_body6 : ∀ (d : Depot) (l : List Move) (i : Nat) (r : List Int) (N : St → Prop) (X : Nat → St → Prop)
  (K : AVal → Prop),
  run Try.prog TT shpM f27_fl
      (sub [1, 1, 1, 0, 1, 0, 0] (bodyOf Try.f27))
      (cutQ [1, 4, 8, 28, 29, 30] [1, 4, 8] 4 N X fun (s : St) => retK TT (Go.Func.results Try.f27) s K)
      (f27_s6 d l i r) =
    br (Decidable.decide ((↑i : Int) < (↑(List.length (Depot.tracks d)) : Int)))
      ((0 ≤ (↑i : Int) ∧ (↑i : Int) < (↑(List.length (Depot.tracks d)) : Int)) ∧
        CallT Try.prog (shpM 80) 80
          [AVal.pv false (intsP (List.getD (Depot.tracks d) (Int.toNat (↑i : Int)) []))] [] fun (x : List Int) =>
          (1 = 1 ∧ 1 ≤ 1 ∧ 1 ≤ 140737488355328 ∧ 24 ≤ 140737488355328) ∧
            N
              { nt := 70,
                env :=
                  [(1, AVal.pv false (movesP l)), (4, AVal.ptr 0 0 0 0), (8, AVal.ptr 1 0 0 0),
                    (28, AVal.pv false (listsP (Depot.tracks d))),
                    (29, AVal.pv false (PV.int Go.IntKind.i64 (↑(List.length (Depot.tracks d)) : Int))),
                    (30, AVal.pv false (PV.int Go.IntKind.i64 (Go.IntKind.wrap Go.IntKind.i64 ((↑i : Int) + 1))))],
                heap :=
                  [Blk.box [nilP, nilP],
                    Blk.box [AVal.pv false (intsP r), AVal.arr 3 1 0 1],
                    Blk.row 1 1 (fun (x_1 x_2 : Nat) => intsP x) fun (x x_1 : Nat) => false,
                    Blk.row 1 1 (fun (x_1 x_2 : Nat) => intsP x) fun (x x_1 : Nat) => true] })
      (X 0
        { nt := 70, env := [(1, AVal.pv false (movesP l)), (4, AVal.ptr 0 0 0 0), (8, AVal.ptr 1 0 0 0)],
          heap :=
            [Blk.box [nilP, nilP],
              Blk.box [AVal.pv false (intsP r), nilP]] }) := by intros; kernel_rfl
theorem f27_exit6_0 : ∀ (d : Depot) (l : List Move) (i : Nat) (r : List Int) (K : AVal → Prop),
  kont Try.prog TT shpM f27_fl [1, 1, 1, 0, 1, 0] (bodyOf Try.f27)
      (retQ TT (Go.Func.results Try.f27) K) (Go.Exit.exit 0)
      { nt := 70, env := [(1, AVal.pv false (movesP l)), (4, AVal.ptr 0 0 0 0), (8, AVal.ptr 1 0 0 0)],
        heap :=
          [Blk.box [nilP, nilP],
            Blk.box [AVal.pv false (intsP r), nilP]] } =
    LoopK
      (run Try.prog TT shpM f27_fl
        (sub [1, 1, 1, 1, 1, 0, 1, 0, 0] (bodyOf Try.f27)))
      (kont Try.prog TT shpM f27_fl [1, 1, 1, 1, 1, 0, 1, 0] (bodyOf Try.f27)
        (retQ TT (Go.Func.results Try.f27) K))
      { nt := 70,
        env :=
          [(4, AVal.ptr 0 0 0 0), (8, AVal.ptr 1 0 0 0),
            (11, AVal.pv false (PV.lst 0 NF.isNil 0 fun (x x_1 : Nat) => PV.junk)),
            (42, AVal.pv false (movesP l)), (43, AVal.pv false (PV.int Go.IntKind.i64 (↑(List.length l) : Int))),
            (44, AVal.pv false (PV.int Go.IntKind.i64 0))],
        heap :=
          [Blk.box [nilP, nilP],
            Blk.box [AVal.pv false (intsP r), nilP]] } := by intros; kernel_rfl
theorem f27_body6b : ∀ (d : Depot) (l : List Move) (i : Nat) (r : List Int) (t : List (List Int)) (N : St → Prop) (X : Nat → St → Prop)
  (K : AVal → Prop),
  run Try.prog TT shpM f27_fl
      (sub [1, 1, 1, 0, 1, 0, 0] (bodyOf Try.f27))
      (cutQ [1, 4, 8, 28, 29, 30] [1, 4, 8] 4 N X fun (s : St) => retK TT (Go.Func.results Try.f27) s K)
      (f27_s6b d l i r t) =
    br (Decidable.decide ((↑i : Int) < (↑(List.length (Depot.tracks d)) : Int)))
      ((0 ≤ (↑i : Int) ∧ (↑i : Int) < (↑(List.length (Depot.tracks d)) : Int)) ∧
        CallT Try.prog (shpM 80) 80
          [AVal.pv false (intsP (List.getD (Depot.tracks d) (Int.toNat (↑i : Int)) []))] [] fun (x : List Int) =>
          (List.length t = List.length t ∧ 1 = 1 ∧ List.length t + 1 ≤ 140737488355328 ∧ (List.length t + 1) * 24 ≤ 140737488355328) ∧
            N
              { nt := 70,
                env :=
                  [(1, AVal.pv false (movesP l)), (4, AVal.ptr 0 0 0 0), (8, AVal.ptr 1 0 0 0),
                    (28, AVal.pv false (listsP (Depot.tracks d))),
                    (29, AVal.pv false (PV.int Go.IntKind.i64 (↑(List.length (Depot.tracks d)) : Int))),
                    (30, AVal.pv false (PV.int Go.IntKind.i64 (Go.IntKind.wrap Go.IntKind.i64 ((↑i : Int) + 1))))],
                heap :=
                  [Blk.box
                      [AVal.pv false (PV.lst 0 NF.isNil 0 fun (x x_1 : Nat) => PV.junk),
                        AVal.pv false (PV.lst 0 NF.isNil 0 fun (x x_1 : Nat) => PV.junk)],
                    Blk.box [AVal.pv false (intsP r), AVal.arr 2 1 0 (List.length t + 1)],
                    Blk.row 1 (List.length t + 1)
                      (appEl (List.length t) (fun (i x : Nat) => intsP (List.getD t i [])) fun (x_1 x_2 : Nat) => intsP x) fun (i j : Nat) =>
                      bif Nat.blt i (List.length t) then true else true,
                    Blk.row 1 1 (fun (x_1 x_2 : Nat) => intsP x) fun (x x_1 : Nat) => false] })
      (X 0
        { nt := 70, env := [(1, AVal.pv false (movesP l)), (4, AVal.ptr 0 0 0 0), (8, AVal.ptr 1 0 0 0)],
          heap :=
            [Blk.box [nilP, nilP],
              Blk.box [AVal.pv false (intsP r), AVal.arr 2 1 0 (List.length t)],
              rowsB t] }) := by intros; kernel_rfl
theorem f27_exit6b_0 : ∀ (d : Depot) (l : List Move) (i : Nat) (r : List Int) (t : List (List Int)) (K : AVal → Prop),
  kont Try.prog TT shpM f27_fl [1, 1, 1, 0, 1, 0] (bodyOf Try.f27)
      (retQ TT (Go.Func.results Try.f27) K) (Go.Exit.exit 0)
      { nt := 70, env := [(1, AVal.pv false (movesP l)), (4, AVal.ptr 0 0 0 0), (8, AVal.ptr 1 0 0 0)],
        heap :=
          [Blk.box [nilP, nilP],
            Blk.box [AVal.pv false (intsP r), AVal.arr 2 1 0 (List.length t)], rowsB t] } =
    LoopK
      (run Try.prog TT shpM f27_fl
        (sub [1, 1, 1, 1, 1, 0, 1, 0, 0] (bodyOf Try.f27)))
      (kont Try.prog TT shpM f27_fl [1, 1, 1, 1, 1, 0, 1, 0] (bodyOf Try.f27)
        (retQ TT (Go.Func.results Try.f27) K))
      { nt := 70,
        env :=
          [(4, AVal.ptr 0 0 0 0), (8, AVal.ptr 1 0 0 0),
            (11, AVal.pv false (PV.lst 0 NF.isNil 0 fun (x x_1 : Nat) => PV.junk)),
            (42, AVal.pv false (movesP l)), (43, AVal.pv false (PV.int Go.IntKind.i64 (↑(List.length l) : Int))),
            (44, AVal.pv false (PV.int Go.IntKind.i64 0))],
        heap :=
          [Blk.box [nilP, nilP],
            Blk.box [AVal.pv false (intsP r), AVal.arr 2 1 0 (List.length t)], rowsB t] } := by intros; kernel_rfl
theorem f27_body12 : ∀ (d : Depot) (l : List Move) (i : Nat) (x : Depot) (out : List Int) (N : St → Prop)
  (X : Nat → St → Prop) (K : AVal → Prop),
  run Try.prog TT shpM f27_fl
      (sub [1, 1, 1, 1, 1, 0, 1, 0, 0] (bodyOf Try.f27))
      (cutQ [4, 8, 11, 42, 43, 44] [4, 8, 11] 2 N X fun (s : St) => retK TT (Go.Func.results Try.f27) s K)
      (f27_s12 d l i x out) =
    br (Decidable.decide ((↑i : Int) < (↑(List.length l) : Int)))
      ((0 ≤ (↑i : Int) ∧ (↑i : Int) < (↑(List.length l) : Int)) ∧
        CallT Try.prog (shpM 81) 81
          [AVal.agg
              [AVal.pv false (intsP (Depot.room x)),
                AVal.pv false (listsP (Depot.tracks x))],
            AVal.agg
              [AVal.pv false (PV.int Go.IntKind.i64 (Move.frm (List.getD l (Int.toNat (↑i : Int)) move0))),
                AVal.pv false (PV.int Go.IntKind.i64 (Move.to (List.getD l (Int.toNat (↑i : Int)) move0)))]]
          [] fun (x : Depot × Int × Int) =>
          br (!Decidable.decide (Prod.snd (Prod.snd x) = 0))
            (K
              (AVal.tup
                [AVal.agg
                    [AVal.pv false (PV.lst 0 NF.isNil 0 fun (x x_1 : Nat) => PV.junk),
                      AVal.pv false (PV.lst 0 NF.isNil 0 fun (x x_1 : Nat) => PV.junk)],
                  AVal.pv false (PV.lst 0 NF.isNil 0 fun (x x_1 : Nat) => PV.junk),
                  AVal.pv false (PV.int Go.IntKind.i64 (Prod.snd (Prod.snd x)))]))
            (br (Decidable.decide (Move.to (List.getD l (Int.toNat (↑i : Int)) move0) < 0))
              ((List.length out + 1 ≤ 140737488355328 ∧ (List.length out + 1) * 8 ≤ 140737488355328) ∧
                N
                  { nt := 70,
                    env :=
                      [(4, AVal.ptr 0 0 0 0), (8, AVal.ptr 1 0 0 0),
                        (11,
                          AVal.pv true
                            (PV.lst 1 NF.any (List.length out + 1)
                              (appEl (List.length out) (fun (i x : Nat) => PV.int Go.IntKind.i64 (List.getD out i 0)) fun (i j : Nat) =>
                                pvAt [AVal.pv false (PV.int Go.IntKind.i64 (Prod.fst (Prod.snd x)))] (i * 1 + j)))),
                        (42, AVal.pv false (movesP l)),
                        (43, AVal.pv false (PV.int Go.IntKind.i64 (↑(List.length l) : Int))),
                        (44, AVal.pv false (PV.int Go.IntKind.i64 (Go.IntKind.wrap Go.IntKind.i64 ((↑i : Int) + 1))))],
                    heap :=
                      [Blk.box [nilP, nilP],
                        Blk.box
                          [AVal.pv false (intsP (Depot.room (Prod.fst x))),
                            AVal.pv false (listsP (Depot.tracks (Prod.fst x)))]] })
              (N
                { nt := 70,
                  env :=
                    [(4, AVal.ptr 0 0 0 0), (8, AVal.ptr 1 0 0 0), (11, AVal.pv true (intsP out)),
                      (42, AVal.pv false (movesP l)),
                      (43, AVal.pv false (PV.int Go.IntKind.i64 (↑(List.length l) : Int))),
                      (44, AVal.pv false (PV.int Go.IntKind.i64 (Go.IntKind.wrap Go.IntKind.i64 ((↑i : Int) + 1))))],
                  heap :=
                    [Blk.box [nilP, nilP],
                      Blk.box
                        [AVal.pv false (intsP (Depot.room (Prod.fst x))),
                          AVal.pv false (listsP (Depot.tracks (Prod.fst x)))]] })))
      (X 2
        { nt := 70, env := [(4, AVal.ptr 0 0 0 0), (8, AVal.ptr 1 0 0 0), (11, AVal.pv true (intsP out))],
          heap := [Blk.box [nilP, nilP], Blk.box (depC x)] }) := by intros; kernel_rfl
theorem f27_exit12_2 : ∀ (d : Depot) (l : List Move) (i : Nat) (x : Depot) (out : List Int) (K : AVal → Prop),
  kont Try.prog TT shpM f27_fl [1, 1, 1, 1, 1, 0, 1, 0] (bodyOf Try.f27)
      (retQ TT (Go.Func.results Try.f27) K) (Go.Exit.exit 2)
      { nt := 70, env := [(4, AVal.ptr 0 0 0 0), (8, AVal.ptr 1 0 0 0), (11, AVal.pv true (intsP out))],
        heap := [Blk.box [nilP, nilP], Blk.box (depC x)] } =
    K
      (AVal.tup
        [AVal.agg
            [AVal.pv false (intsP (Depot.room x)),
              AVal.pv false (listsP (Depot.tracks x))],
          AVal.pv false (intsP out), AVal.pv false (PV.int Go.IntKind.i64 0)]) := by intros; kernel_rfl
theorem f30_tree : ∀ (d : Depot) (l : List Move) (K : AVal → Prop),
  run Try.prog TT shpM f30_fl (bodyOf Try.f30)
      (retQ TT (Go.Func.results Try.f30) K)
      (entry (Go.Func.ntmps Try.f30) [depV d, AVal.pv false (movesP l)]) =
    LoopK
      (run Try.prog TT shpM f30_fl
        (sub [1, 1, 0, 1, 0, 0] (bodyOf Try.f30)))
      (kont Try.prog TT shpM f30_fl [1, 1, 0, 1, 0] (bodyOf Try.f30)
        (retQ TT (Go.Func.results Try.f30) K))
      { nt := 40,
        env :=
          [(2, AVal.ptr 0 0 0 0), (4, AVal.ptr 1 0 0 0),
            (7, AVal.pv false (PV.lst 0 NF.isNil 0 fun (x x_1 : Nat) => PV.junk)),
            (13, AVal.pv false (movesP l)), (14, AVal.pv false (PV.int Go.IntKind.i64 (↑(List.length l) : Int))),
            (15, AVal.pv false (PV.int Go.IntKind.i64 0))],
        heap :=
          [Blk.box
              [AVal.pv false (intsP (Depot.room d)),
                AVal.pv false (listsP (Depot.tracks d))],
            Blk.box
              [AVal.pv false (PV.lst 0 NF.isNil 0 fun (x x_1 : Nat) => PV.junk),
                AVal.pv false (PV.lst 0 NF.isNil 0 fun (x x_1 : Nat) => PV.junk)]] } := by intros; kernel_rfl
theorem f30_body3 : ∀ (d : Depot) (l : List Move) (i : Nat) (x : Depot) (out : List Int) (N : St → Prop)
  (X : Nat → St → Prop) (K : AVal → Prop),
  run Try.prog TT shpM f30_fl
      (sub [1, 1, 0, 1, 0, 0] (bodyOf Try.f30))
      (cutQ [2, 4, 7, 13, 14, 15] [2, 4, 7] 2 N X fun (s : St) => retK TT (Go.Func.results Try.f30) s K)
      (f30_s3 d l i x out) =
    br (Decidable.decide ((↑i : Int) < (↑(List.length l) : Int)))
      ((0 ≤ (↑i : Int) ∧ (↑i : Int) < (↑(List.length l) : Int)) ∧
        CallT Try.prog (shpM 32) 32
          [AVal.agg
              [AVal.pv false (intsP (Depot.room x)),
                AVal.pv false (listsP (Depot.tracks x))],
            AVal.agg
              [AVal.pv false (PV.int Go.IntKind.i64 (Move.frm (List.getD l (Int.toNat (↑i : Int)) move0))),
                AVal.pv false (PV.int Go.IntKind.i64 (Move.to (List.getD l (Int.toNat (↑i : Int)) move0)))]]
          [] fun (x : Depot × Int × Int) =>
          br (!Decidable.decide (Prod.snd (Prod.snd x) = 0))
            (K
              (AVal.tup
                [AVal.agg
                    [AVal.pv false (PV.lst 0 NF.isNil 0 fun (x x_1 : Nat) => PV.junk),
                      AVal.pv false (PV.lst 0 NF.isNil 0 fun (x x_1 : Nat) => PV.junk)],
                  AVal.pv false (PV.lst 0 NF.isNil 0 fun (x x_1 : Nat) => PV.junk),
                  AVal.pv false (PV.int Go.IntKind.i64 (Prod.snd (Prod.snd x)))]))
            (br (Decidable.decide (0 ≤ Prod.fst (Prod.snd x)))
              ((List.length out + 1 ≤ 140737488355328 ∧ (List.length out + 1) * 8 ≤ 140737488355328) ∧
                N
                  { nt := 40,
                    env :=
                      [(2, AVal.ptr 0 0 0 0), (4, AVal.ptr 1 0 0 0),
                        (7,
                          AVal.pv true
                            (PV.lst 1 NF.any (List.length out + 1)
                              (appEl (List.length out) (fun (i x : Nat) => PV.int Go.IntKind.i64 (List.getD out i 0)) fun (i j : Nat) =>
                                pvAt [AVal.pv false (PV.int Go.IntKind.i64 (Prod.fst (Prod.snd x)))] (i * 1 + j)))),
                        (13, AVal.pv false (movesP l)),
                        (14, AVal.pv false (PV.int Go.IntKind.i64 (↑(List.length l) : Int))),
                        (15, AVal.pv false (PV.int Go.IntKind.i64 (Go.IntKind.wrap Go.IntKind.i64 ((↑i : Int) + 1))))],
                    heap :=
                      [Blk.box
                          [AVal.pv false (intsP (Depot.room (Prod.fst x))),
                            AVal.pv false (listsP (Depot.tracks (Prod.fst x)))],
                        Blk.box [nilP, nilP]] })
              (N
                { nt := 40,
                  env :=
                    [(2, AVal.ptr 0 0 0 0), (4, AVal.ptr 1 0 0 0), (7, AVal.pv true (intsP out)),
                      (13, AVal.pv false (movesP l)),
                      (14, AVal.pv false (PV.int Go.IntKind.i64 (↑(List.length l) : Int))),
                      (15, AVal.pv false (PV.int Go.IntKind.i64 (Go.IntKind.wrap Go.IntKind.i64 ((↑i : Int) + 1))))],
                  heap :=
                    [Blk.box
                        [AVal.pv false (intsP (Depot.room (Prod.fst x))),
                          AVal.pv false (listsP (Depot.tracks (Prod.fst x)))],
                      Blk.box [nilP, nilP]] })))
      (X 0
        { nt := 40, env := [(2, AVal.ptr 0 0 0 0), (4, AVal.ptr 1 0 0 0), (7, AVal.pv true (intsP out))],
          heap := [Blk.box (depC x), Blk.box [nilP, nilP]] }) := by intros; kernel_rfl
theorem f30_exit3_0 : ∀ (d : Depot) (l : List Move) (i : Nat) (x : Depot) (out : List Int) (K : AVal → Prop),
  kont Try.prog TT shpM f30_fl [1, 1, 0, 1, 0] (bodyOf Try.f30)
      (retQ TT (Go.Func.results Try.f30) K) (Go.Exit.exit 0)
      { nt := 40, env := [(2, AVal.ptr 0 0 0 0), (4, AVal.ptr 1 0 0 0), (7, AVal.pv true (intsP out))],
        heap := [Blk.box (depC x), Blk.box [nilP, nilP]] } =
    K
      (AVal.tup
        [AVal.agg
            [AVal.pv false (intsP (Depot.room x)),
              AVal.pv false (listsP (Depot.tracks x))],
          AVal.pv false (intsP out), AVal.pv false (PV.int Go.IntKind.i64 0)]) := by intros; kernel_rfl
theorem f5_tree : ∀ (d : Depot) (l : List Move) (K : AVal → Prop),
  run Try.prog TT shpM f5_fl (bodyOf Try.f5)
      (retQ TT (Go.Func.results Try.f5) K)
      (entry (Go.Func.ntmps Try.f5) [depV d, AVal.pv false (movesP l)]) =
    CallT Try.prog (shpM 27) 27
      [AVal.agg
          [AVal.pv false
              (PV.lst 1 NF.any (List.length (Depot.room d)) fun (i x : Nat) =>
                PV.int Go.IntKind.i64 (List.getD (Depot.room d) i 0)),
            AVal.pv false
              (PV.lst 1 NF.any (List.length (Depot.tracks d)) fun (i x : Nat) =>
                intsP (List.getD (Depot.tracks d) i []))],
        AVal.pv false (movesP l)]
      [] fun (x : Depot × List Int × Int) =>
      CallT Try.prog (shpM 20) 20
        [AVal.agg
            [AVal.pv false
                (PV.lst 1 NF.any (List.length (Depot.room d)) fun (i x : Nat) =>
                  PV.int Go.IntKind.i64 (List.getD (Depot.room d) i 0)),
              AVal.pv false
                (PV.lst 1 NF.any (List.length (Depot.tracks d)) fun (i x : Nat) =>
                  intsP (List.getD (Depot.tracks d) i []))]]
        [] fun (x_1 : Int) =>
        br (!Decidable.decide (x_1 = 0))
          (CallT Try.prog (shpM 28) 28
            [AVal.agg
                [AVal.pv false
                    (PV.lst 1 NF.any (List.length (Depot.room d)) fun (i x : Nat) =>
                      PV.int Go.IntKind.i64 (List.getD (Depot.room d) i 0)),
                  AVal.pv false
                    (PV.lst 1 NF.any (List.length (Depot.tracks d)) fun (i x : Nat) =>
                      intsP (List.getD (Depot.tracks d) i []))],
              AVal.agg
                [AVal.pv false (PV.int Go.IntKind.i64 0), AVal.pv false (PV.int Go.IntKind.i64 (-1))]]
            [] fun (x_2 : Depot × Int) =>
            CallT Try.prog (shpM 21) 21 [] [] fun (x_3 : Bool) =>
              br x_3
                (br (Decidable.decide (Prod.snd (Prod.snd x) = x_1))
                  (br (Decidable.decide (Prod.snd x_2 = x_1))
                    (br (Decidable.decide ((↑(List.length (Prod.fst (Prod.snd x))) : Int) = 0))
                      (CallT Try.prog (shpM 29) 29
                        [AVal.agg
                            [AVal.pv false (intsP (Depot.room (Prod.fst x))),
                              AVal.pv false (listsP (Depot.tracks (Prod.fst x)))],
                          AVal.agg
                            [AVal.pv false (PV.lst 0 NF.isNil 0 fun (x x_4 : Nat) => PV.junk),
                              AVal.pv false (PV.lst 0 NF.isNil 0 fun (x x_4 : Nat) => PV.junk)]]
                        [] fun (x : Bool) => K (AVal.pv false (PV.bool x)))
                      (K (AVal.pv false (PV.bool false))))
                    (K (AVal.pv false (PV.bool false))))
                  (K (AVal.pv false (PV.bool false))))
                (K (AVal.pv false (PV.bool false))))
          (CallT Try.prog (shpM 30) 30
            [AVal.agg
                [AVal.pv false
                    (PV.lst 1 NF.any (List.length (Depot.room d)) fun (i x : Nat) =>
                      PV.int Go.IntKind.i64 (List.getD (Depot.room d) i 0)),
                  AVal.pv false
                    (PV.lst 1 NF.any (List.length (Depot.tracks d)) fun (i x : Nat) =>
                      intsP (List.getD (Depot.tracks d) i []))],
              AVal.pv false (movesP l)]
            [] fun (x_2 : Depot × List Int × Int) =>
            CallT Try.prog (shpM 21) 21 [] [] fun (x_3 : Bool) =>
              br (!x_3) (K (AVal.pv false (PV.bool false)))
                (br (!Decidable.decide (Prod.snd (Prod.snd x) = Prod.snd (Prod.snd x_2))) (K (AVal.pv false (PV.bool false)))
                  (CallT Try.prog (shpM 31) 31
                    [AVal.pv false (intsP (Prod.fst (Prod.snd x))), AVal.pv false (intsP (Prod.fst (Prod.snd x_2)))]
                    [] fun (x_4 : Bool) =>
                    br (!x_4) (K (AVal.pv false (PV.bool false)))
                      (CallT Try.prog (shpM 29) 29
                        [AVal.agg
                            [AVal.pv false (intsP (Depot.room (Prod.fst x))),
                              AVal.pv false (listsP (Depot.tracks (Prod.fst x)))],
                          AVal.agg
                            [AVal.pv false (intsP (Depot.room (Prod.fst x_2))),
                              AVal.pv false (listsP (Depot.tracks (Prod.fst x_2)))]]
                        [] fun (x_5 : Bool) =>
                        br (!x_5) (K (AVal.pv false (PV.bool false)))
                          (LoopK
                            (run Try.prog TT shpM f5_fl
                              (sub [1, 1, 1, 1, 1, 1, 0, 1, 0, 0] (bodyOf Try.f5)))
                            (kont Try.prog TT shpM f5_fl [1, 1, 1, 1, 1, 1, 0, 1, 0]
                              (bodyOf Try.f5) (retQ TT (Go.Func.results Try.f5) K))
                            { nt := 119,
                              env :=
                                [(14, AVal.ptr 2 0 0 0), (87, AVal.pv false (movesP l)),
                                  (88, AVal.pv false (PV.int Go.IntKind.i64 (↑(List.length l) : Int))),
                                  (89, AVal.pv false (PV.int Go.IntKind.i64 0))],
                              heap :=
                                [Blk.box
                                    [AVal.pv false (intsP (Depot.room (Prod.fst x))),
                                      AVal.pv false (listsP (Depot.tracks (Prod.fst x)))],
                                  Blk.box
                                    [AVal.pv false (intsP (Depot.room (Prod.fst x_2))),
                                      AVal.pv false (listsP (Depot.tracks (Prod.fst x_2)))],
                                  Blk.box
                                    [AVal.pv false
                                        (PV.lst 1 NF.any (List.length (Depot.room d)) fun (i x : Nat) =>
                                          PV.int Go.IntKind.i64 (List.getD (Depot.room d) i 0)),
                                      AVal.pv false
                                        (PV.lst 1 NF.any (List.length (Depot.tracks d)) fun (i x : Nat) =>
                                          intsP (List.getD (Depot.tracks d) i []))]] }))))) := by intros; kernel_rfl
theorem f5_body11 : ∀ (d : Depot) (l : List Move) (i : Nat) (p q x : Depot) (N : St → Prop) (X : Nat → St → Prop)
  (K : AVal → Prop),
  run Try.prog TT shpM f5_fl
      (sub [1, 1, 1, 1, 1, 1, 0, 1, 0, 0] (bodyOf Try.f5))
      (cutQ [14, 87, 88, 89] [] 3 N X fun (s : St) => retK TT (Go.Func.results Try.f5) s K)
      (f5_s11 d l i p q x) =
    br (Decidable.decide ((↑i : Int) < (↑(List.length l) : Int)))
      ((0 ≤ (↑i : Int) ∧ (↑i : Int) < (↑(List.length l) : Int)) ∧
        CallT Try.prog (shpM 28) 28
          [AVal.agg
              [AVal.pv false (intsP (Depot.room x)),
                AVal.pv false (listsP (Depot.tracks x))],
            AVal.agg
              [AVal.pv false (PV.int Go.IntKind.i64 (Move.frm (List.getD l (Int.toNat (↑i : Int)) move0))),
                AVal.pv false (PV.int Go.IntKind.i64 (Move.to (List.getD l (Int.toNat (↑i : Int)) move0)))]]
          [] fun (x_1 : Depot × Int) =>
          CallT Try.prog (shpM 32) 32
            [AVal.agg
                [AVal.pv false (intsP (Depot.room x)),
                  AVal.pv false (listsP (Depot.tracks x))],
              AVal.agg
                [AVal.pv false (PV.int Go.IntKind.i64 (Move.frm (List.getD l (Int.toNat (↑i : Int)) move0))),
                  AVal.pv false (PV.int Go.IntKind.i64 (Move.to (List.getD l (Int.toNat (↑i : Int)) move0)))]]
            [] fun (x_2 : Depot × Int × Int) =>
            br (!Decidable.decide (Prod.snd x_1 = Prod.snd (Prod.snd x_2))) (K (AVal.pv false (PV.bool false)))
              (CallT Try.prog (shpM 29) 29
                [AVal.agg
                    [AVal.pv false (intsP (Depot.room (Prod.fst x_1))),
                      AVal.pv false (listsP (Depot.tracks (Prod.fst x_1)))],
                  AVal.agg
                    [AVal.pv false (intsP (Depot.room (Prod.fst x_2))),
                      AVal.pv false (listsP (Depot.tracks (Prod.fst x_2)))]]
                [] fun (x_3 : Bool) =>
                br (!x_3) (K (AVal.pv false (PV.bool false)))
                  (br (!Decidable.decide (Prod.snd (Prod.snd x_2) = 0))
                    (X 0
                      { nt := 119, env := [],
                        heap :=
                          [Blk.box (depC p), Blk.box (depC q),
                            Blk.box (depC x)] })
                    (N
                      { nt := 119,
                        env :=
                          [(14, AVal.ptr 2 0 0 0), (87, AVal.pv false (movesP l)),
                            (88, AVal.pv false (PV.int Go.IntKind.i64 (↑(List.length l) : Int))),
                            (89, AVal.pv false (PV.int Go.IntKind.i64 (Go.IntKind.wrap Go.IntKind.i64 ((↑i : Int) + 1))))],
                        heap :=
                          [Blk.box (depC p), Blk.box (depC q),
                            Blk.box
                              [AVal.pv false (intsP (Depot.room (Prod.fst x_2))),
                                AVal.pv false (listsP (Depot.tracks (Prod.fst x_2)))]] }))))
      (X 0
        { nt := 119, env := [],
          heap :=
            [Blk.box (depC p), Blk.box (depC q), Blk.box (depC x)] }) := by intros; kernel_rfl
theorem f5_exit11_0 : ∀ (d : Depot) (l : List Move) (i : Nat) (p q x : Depot) (K : AVal → Prop),
  kont Try.prog TT shpM f5_fl [1, 1, 1, 1, 1, 1, 0, 1, 0] (bodyOf Try.f5)
      (retQ TT (Go.Func.results Try.f5) K) (Go.Exit.exit 0)
      { nt := 119, env := [],
        heap :=
          [Blk.box (depC p), Blk.box (depC q), Blk.box (depC x)] } =
    K (AVal.pv false (PV.bool true)) := by intros; kernel_rfl

end Go.Proofs.Ytciflideblafgaa
