/- A stable sort in place: what it returns. -/
import Derived.Test.YtgghnfmabphbmaaA21
namespace Go.Proofs.Ytgghnfmabphbmaa.Fw.Sort
open Go Go.Proofs.Ytgghnfmabphbmaa.Fw
set_option maxRecDepth 100000
set_option linter.unusedVariables false
set_option linter.unusedSimpArgs false

noncomputable def B187_4 (c : Int → Int → Option Int) (a1 : Int) (v9 : Int) (m0_3 : List Int) : Option (Int × List Int ⊕ List Int) := bif decide (a1 < v9) then asrt (0 ≤ v9 ∧ v9 < (↑(List.length m0_3) : Int)) (asrt (0 + Int.toNat v9 < List.length m0_3) (asrt (0 ≤ Go.IntKind.wrap Go.IntKind.i64 (v9 - 1) ∧ Go.IntKind.wrap Go.IntKind.i64 (v9 - 1) < (↑(List.length m0_3) : Int)) (asrt (0 + Int.toNat (Go.IntKind.wrap Go.IntKind.i64 (v9 - 1)) < List.length m0_3) (Option.bind (c (List.getD m0_3 (0 + Int.toNat v9) 0) (List.getD m0_3 (0 + Int.toNat (Go.IntKind.wrap Go.IntKind.i64 (v9 - 1))) 0)) fun (r : Int) ↦ bif decide (r < 0) then Option.some (Sum.inl (Go.IntKind.wrap Go.IntKind.i64 (v9 - 1), List.set (List.set m0_3 (0 + Int.toNat v9) (List.getD m0_3 (0 + Int.toNat (Go.IntKind.wrap Go.IntKind.i64 (v9 - 1))) 0)) (0 + Int.toNat (Go.IntKind.wrap Go.IntKind.i64 (v9 - 1))) (List.getD m0_3 (0 + Int.toNat v9) 0))) else Option.some (Sum.inr m0_3))))) else Option.some (Sum.inr m0_3)
noncomputable def L187_4 (c : Int → Int → Option Int) (a1 : Int) (s : Int × List Int) : Option (List Int) := loopW (fun s => B187_4 c a1 s.1 s.2) s
noncomputable def B187_1 (c : Int → Int → Option Int) (a1 : Int) (a2 : Int) (v8 : Int) (m0_2 : List Int) : Option (Int × List Int ⊕ List Int) := bif decide (v8 < a2) then Option.bind (L187_4 c a1 (v8, m0_2)) fun (p : List Int) ↦ Option.some (Sum.inl (Go.IntKind.wrap Go.IntKind.i64 (v8 + 1), p)) else Option.some (Sum.inr m0_2)
noncomputable def L187_1 (c : Int → Int → Option Int) (a1 : Int) (a2 : Int) (s : Int × List Int) : Option (List Int) := loopW (fun s => B187_1 c a1 a2 s.1 s.2) s
noncomputable def F187 (c : Int → Int → Option Int) (a1 : Int) (a2 : Int) (m0 : List Int) : Option (Unit × List Int) := Option.bind (L187_1 c a1 a2 (Go.IntKind.wrap Go.IntKind.i64 (a1 + 1), m0)) fun (p_2 : List Int) ↦ Option.some ((), p_2)
noncomputable def B224_1 (a1 : Int) (a2 : Int) (a3 : Int) (v10 : Int) (m0_2 : List Int) : Option (Int × List Int ⊕ List Int) := bif decide (v10 < a3) then asrt (0 ≤ Go.IntKind.wrap Go.IntKind.i64 (a2 + v10) ∧ Go.IntKind.wrap Go.IntKind.i64 (a2 + v10) < (↑(List.length m0_2) : Int)) (asrt (0 + Int.toNat (Go.IntKind.wrap Go.IntKind.i64 (a2 + v10)) < List.length m0_2) (asrt (0 ≤ Go.IntKind.wrap Go.IntKind.i64 (a1 + v10) ∧ Go.IntKind.wrap Go.IntKind.i64 (a1 + v10) < (↑(List.length m0_2) : Int)) (asrt (0 + Int.toNat (Go.IntKind.wrap Go.IntKind.i64 (a1 + v10)) < List.length m0_2) (Option.some (Sum.inl (Go.IntKind.wrap Go.IntKind.i64 (v10 + 1), List.set (List.set m0_2 (0 + Int.toNat (Go.IntKind.wrap Go.IntKind.i64 (a1 + v10))) (List.getD m0_2 (0 + Int.toNat (Go.IntKind.wrap Go.IntKind.i64 (a2 + v10))) 0)) (0 + Int.toNat (Go.IntKind.wrap Go.IntKind.i64 (a2 + v10))) (List.getD m0_2 (0 + Int.toNat (Go.IntKind.wrap Go.IntKind.i64 (a1 + v10))) 0))))))) else Option.some (Sum.inr m0_2)
noncomputable def L224_1 (a1 : Int) (a2 : Int) (a3 : Int) (s : Int × List Int) : Option (List Int) := loopW (fun s => B224_1 a1 a2 a3 s.1 s.2) s
noncomputable def F224 (c : Int → Int → Option Int) (a1 : Int) (a2 : Int) (a3 : Int) (m0 : List Int) : Option (Unit × List Int) := Option.bind (L224_1 a1 a2 a3 (0, m0)) fun (p : List Int) ↦ Option.some ((), p)
noncomputable def B215_2 (c : Int → Int → Option Int) (a2 : Int) (v10 : Int) (v11 : Int) (m0_2 : List Int) : Option (Int × Int × List Int ⊕ Int × List Int) := bif !decide (v10 = v11) then bif decide (v11 < v10) then Option.bind (F224 c (Go.IntKind.wrap Go.IntKind.i64 (a2 - v10)) a2 v11 m0_2) fun (r : Unit × List Int) ↦ asrt (List.length (Prod.snd r) = List.length m0_2) (Option.some (Sum.inl (Go.IntKind.wrap Go.IntKind.i64 (v10 - v11), v11, Prod.snd r))) else Option.bind (F224 c (Go.IntKind.wrap Go.IntKind.i64 (a2 - v10)) (Go.IntKind.wrap Go.IntKind.i64 (Go.IntKind.wrap Go.IntKind.i64 (a2 + v11) - v10)) v10 m0_2) fun (r_2 : Unit × List Int) ↦ asrt (List.length (Prod.snd r_2) = List.length m0_2) (Option.some (Sum.inl (v10, Go.IntKind.wrap Go.IntKind.i64 (v11 - v10), Prod.snd r_2))) else Option.some (Sum.inr (v10, m0_2))
noncomputable def L215_2 (c : Int → Int → Option Int) (a2 : Int) (s : Int × Int × List Int) : Option (Int × List Int) := loopW (fun s => B215_2 c a2 s.1 s.2.1 s.2.2) s
noncomputable def F215 (c : Int → Int → Option Int) (a1 : Int) (a2 : Int) (a3 : Int) (m0 : List Int) : Option (Unit × List Int) := Option.bind (L215_2 c a2 (Go.IntKind.wrap Go.IntKind.i64 (a2 - a1), Go.IntKind.wrap Go.IntKind.i64 (a3 - a2), m0)) fun (p : Int × List Int) ↦ Option.bind (F224 c (Go.IntKind.wrap Go.IntKind.i64 (a2 - Prod.fst p)) a2 (Prod.fst p) (Prod.snd p)) fun (r_3 : Unit × List Int) ↦ asrt (List.length (Prod.snd r_3) = List.length (Prod.snd p)) (Option.some ((), Prod.snd r_3))
noncomputable def B188_3 (c : Int → Int → Option Int) (a1 : Int) (m0 : List Int) (v10 : Int) (v11 : Int) : Option (Int × Int ⊕ Int) := bif decide (v10 < v11) then asrt (0 ≤ Go.IntKind.wrap Go.IntKind.i64 (shrI Go.IntKind.u64 (Go.IntKind.wrap Go.IntKind.u64 (Go.IntKind.wrap Go.IntKind.i64 (v10 + v11))) 1) ∧ Go.IntKind.wrap Go.IntKind.i64 (shrI Go.IntKind.u64 (Go.IntKind.wrap Go.IntKind.u64 (Go.IntKind.wrap Go.IntKind.i64 (v10 + v11))) 1) < (↑(List.length m0) : Int)) (asrt (0 + Int.toNat (Go.IntKind.wrap Go.IntKind.i64 (shrI Go.IntKind.u64 (Go.IntKind.wrap Go.IntKind.u64 (Go.IntKind.wrap Go.IntKind.i64 (v10 + v11))) 1)) < List.length m0) (asrt (0 ≤ a1 ∧ a1 < (↑(List.length m0) : Int)) (asrt (0 + Int.toNat a1 < List.length m0) (Option.bind (c (List.getD m0 (0 + Int.toNat (Go.IntKind.wrap Go.IntKind.i64 (shrI Go.IntKind.u64 (Go.IntKind.wrap Go.IntKind.u64 (Go.IntKind.wrap Go.IntKind.i64 (v10 + v11))) 1))) 0) (List.getD m0 (0 + Int.toNat a1) 0)) fun (r : Int) ↦ bif decide (r < 0) then Option.some (Sum.inl (Go.IntKind.wrap Go.IntKind.i64 (Go.IntKind.wrap Go.IntKind.i64 (shrI Go.IntKind.u64 (Go.IntKind.wrap Go.IntKind.u64 (Go.IntKind.wrap Go.IntKind.i64 (v10 + v11))) 1) + 1), v11)) else Option.some (Sum.inl (v10, Go.IntKind.wrap Go.IntKind.i64 (shrI Go.IntKind.u64 (Go.IntKind.wrap Go.IntKind.u64 (Go.IntKind.wrap Go.IntKind.i64 (v10 + v11))) 1))))))) else Option.some (Sum.inr v10)
noncomputable def L188_3 (c : Int → Int → Option Int) (a1 : Int) (m0 : List Int) (s : Int × Int) : Option (Int) := loopW (fun s => B188_3 c a1 m0 s.1 s.2) s
noncomputable def B188_9 (p : Int) (v13 : Int) (m0_2 : List Int) : Option (Int × List Int ⊕ List Int) := bif decide (v13 < Go.IntKind.wrap Go.IntKind.i64 (p - 1)) then asrt (0 ≤ Go.IntKind.wrap Go.IntKind.i64 (v13 + 1) ∧ Go.IntKind.wrap Go.IntKind.i64 (v13 + 1) < (↑(List.length m0_2) : Int)) (asrt (0 + Int.toNat (Go.IntKind.wrap Go.IntKind.i64 (v13 + 1)) < List.length m0_2) (asrt (0 ≤ v13 ∧ v13 < (↑(List.length m0_2) : Int)) (asrt (0 + Int.toNat v13 < List.length m0_2) (Option.some (Sum.inl (Go.IntKind.wrap Go.IntKind.i64 (v13 + 1), List.set (List.set m0_2 (0 + Int.toNat v13) (List.getD m0_2 (0 + Int.toNat (Go.IntKind.wrap Go.IntKind.i64 (v13 + 1))) 0)) (0 + Int.toNat (Go.IntKind.wrap Go.IntKind.i64 (v13 + 1))) (List.getD m0_2 (0 + Int.toNat v13) 0))))))) else Option.some (Sum.inr m0_2)
noncomputable def L188_9 (p : Int) (s : Int × List Int) : Option (List Int) := loopW (fun s => B188_9 p s.1 s.2) s
noncomputable def B188_15 (c : Int → Int → Option Int) (a2 : Int) (m0 : List Int) (v14 : Int) (v15 : Int) : Option (Int × Int ⊕ Int) := bif decide (v14 < v15) then asrt (0 ≤ a2 ∧ a2 < (↑(List.length m0) : Int)) (asrt (0 + Int.toNat a2 < List.length m0) (asrt (0 ≤ Go.IntKind.wrap Go.IntKind.i64 (shrI Go.IntKind.u64 (Go.IntKind.wrap Go.IntKind.u64 (Go.IntKind.wrap Go.IntKind.i64 (v14 + v15))) 1) ∧ Go.IntKind.wrap Go.IntKind.i64 (shrI Go.IntKind.u64 (Go.IntKind.wrap Go.IntKind.u64 (Go.IntKind.wrap Go.IntKind.i64 (v14 + v15))) 1) < (↑(List.length m0) : Int)) (asrt (0 + Int.toNat (Go.IntKind.wrap Go.IntKind.i64 (shrI Go.IntKind.u64 (Go.IntKind.wrap Go.IntKind.u64 (Go.IntKind.wrap Go.IntKind.i64 (v14 + v15))) 1)) < List.length m0) (Option.bind (c (List.getD m0 (0 + Int.toNat a2) 0) (List.getD m0 (0 + Int.toNat (Go.IntKind.wrap Go.IntKind.i64 (shrI Go.IntKind.u64 (Go.IntKind.wrap Go.IntKind.u64 (Go.IntKind.wrap Go.IntKind.i64 (v14 + v15))) 1))) 0)) fun (r_2 : Int) ↦ bif !decide (r_2 < 0) then Option.some (Sum.inl (Go.IntKind.wrap Go.IntKind.i64 (Go.IntKind.wrap Go.IntKind.i64 (shrI Go.IntKind.u64 (Go.IntKind.wrap Go.IntKind.u64 (Go.IntKind.wrap Go.IntKind.i64 (v14 + v15))) 1) + 1), v15)) else Option.some (Sum.inl (v14, Go.IntKind.wrap Go.IntKind.i64 (shrI Go.IntKind.u64 (Go.IntKind.wrap Go.IntKind.u64 (Go.IntKind.wrap Go.IntKind.i64 (v14 + v15))) 1))))))) else Option.some (Sum.inr v14)
noncomputable def L188_15 (c : Int → Int → Option Int) (a2 : Int) (m0 : List Int) (s : Int × Int) : Option (Int) := loopW (fun s => B188_15 c a2 m0 s.1 s.2) s
noncomputable def B188_21 (p_3 : Int) (v17 : Int) (m0_3 : List Int) : Option (Int × List Int ⊕ List Int) := bif decide (p_3 < v17) then asrt (0 ≤ Go.IntKind.wrap Go.IntKind.i64 (v17 - 1) ∧ Go.IntKind.wrap Go.IntKind.i64 (v17 - 1) < (↑(List.length m0_3) : Int)) (asrt (0 + Int.toNat (Go.IntKind.wrap Go.IntKind.i64 (v17 - 1)) < List.length m0_3) (asrt (0 ≤ v17 ∧ v17 < (↑(List.length m0_3) : Int)) (asrt (0 + Int.toNat v17 < List.length m0_3) (Option.some (Sum.inl (Go.IntKind.wrap Go.IntKind.i64 (v17 - 1), List.set (List.set m0_3 (0 + Int.toNat v17) (List.getD m0_3 (0 + Int.toNat (Go.IntKind.wrap Go.IntKind.i64 (v17 - 1))) 0)) (0 + Int.toNat (Go.IntKind.wrap Go.IntKind.i64 (v17 - 1))) (List.getD m0_3 (0 + Int.toNat v17) 0))))))) else Option.some (Sum.inr m0_3)
noncomputable def L188_21 (p_3 : Int) (s : Int × List Int) : Option (List Int) := loopW (fun s => B188_21 p_3 s.1 s.2) s
noncomputable def B188_33 (c : Int → Int → Option Int) (a1 : Int) (a2 : Int) (a3 : Int) (m0 : List Int) (v20 : Int) (v21 : Int) : Option (Int × Int ⊕ Int) := bif decide (v20 < v21) then asrt (0 ≤ Go.IntKind.wrap Go.IntKind.i64 (Go.IntKind.wrap Go.IntKind.i64 (Go.IntKind.wrap Go.IntKind.i64 (Go.IntKind.wrap Go.IntKind.i64 (shrI Go.IntKind.u64 (Go.IntKind.wrap Go.IntKind.u64 (Go.IntKind.wrap Go.IntKind.i64 (a1 + a3))) 1) + a2) - 1) - Go.IntKind.wrap Go.IntKind.i64 (shrI Go.IntKind.u64 (Go.IntKind.wrap Go.IntKind.u64 (Go.IntKind.wrap Go.IntKind.i64 (v20 + v21))) 1)) ∧ Go.IntKind.wrap Go.IntKind.i64 (Go.IntKind.wrap Go.IntKind.i64 (Go.IntKind.wrap Go.IntKind.i64 (Go.IntKind.wrap Go.IntKind.i64 (shrI Go.IntKind.u64 (Go.IntKind.wrap Go.IntKind.u64 (Go.IntKind.wrap Go.IntKind.i64 (a1 + a3))) 1) + a2) - 1) - Go.IntKind.wrap Go.IntKind.i64 (shrI Go.IntKind.u64 (Go.IntKind.wrap Go.IntKind.u64 (Go.IntKind.wrap Go.IntKind.i64 (v20 + v21))) 1)) < (↑(List.length m0) : Int)) (asrt (0 + Int.toNat (Go.IntKind.wrap Go.IntKind.i64 (Go.IntKind.wrap Go.IntKind.i64 (Go.IntKind.wrap Go.IntKind.i64 (Go.IntKind.wrap Go.IntKind.i64 (shrI Go.IntKind.u64 (Go.IntKind.wrap Go.IntKind.u64 (Go.IntKind.wrap Go.IntKind.i64 (a1 + a3))) 1) + a2) - 1) - Go.IntKind.wrap Go.IntKind.i64 (shrI Go.IntKind.u64 (Go.IntKind.wrap Go.IntKind.u64 (Go.IntKind.wrap Go.IntKind.i64 (v20 + v21))) 1))) < List.length m0) (asrt (0 ≤ Go.IntKind.wrap Go.IntKind.i64 (shrI Go.IntKind.u64 (Go.IntKind.wrap Go.IntKind.u64 (Go.IntKind.wrap Go.IntKind.i64 (v20 + v21))) 1) ∧ Go.IntKind.wrap Go.IntKind.i64 (shrI Go.IntKind.u64 (Go.IntKind.wrap Go.IntKind.u64 (Go.IntKind.wrap Go.IntKind.i64 (v20 + v21))) 1) < (↑(List.length m0) : Int)) (asrt (0 + Int.toNat (Go.IntKind.wrap Go.IntKind.i64 (shrI Go.IntKind.u64 (Go.IntKind.wrap Go.IntKind.u64 (Go.IntKind.wrap Go.IntKind.i64 (v20 + v21))) 1)) < List.length m0) (Option.bind (c (List.getD m0 (0 + Int.toNat (Go.IntKind.wrap Go.IntKind.i64 (Go.IntKind.wrap Go.IntKind.i64 (Go.IntKind.wrap Go.IntKind.i64 (Go.IntKind.wrap Go.IntKind.i64 (shrI Go.IntKind.u64 (Go.IntKind.wrap Go.IntKind.u64 (Go.IntKind.wrap Go.IntKind.i64 (a1 + a3))) 1) + a2) - 1) - Go.IntKind.wrap Go.IntKind.i64 (shrI Go.IntKind.u64 (Go.IntKind.wrap Go.IntKind.u64 (Go.IntKind.wrap Go.IntKind.i64 (v20 + v21))) 1)))) 0) (List.getD m0 (0 + Int.toNat (Go.IntKind.wrap Go.IntKind.i64 (shrI Go.IntKind.u64 (Go.IntKind.wrap Go.IntKind.u64 (Go.IntKind.wrap Go.IntKind.i64 (v20 + v21))) 1))) 0)) fun (r_3 : Int) ↦ bif !decide (r_3 < 0) then Option.some (Sum.inl (Go.IntKind.wrap Go.IntKind.i64 (Go.IntKind.wrap Go.IntKind.i64 (shrI Go.IntKind.u64 (Go.IntKind.wrap Go.IntKind.u64 (Go.IntKind.wrap Go.IntKind.i64 (v20 + v21))) 1) + 1), v21)) else Option.some (Sum.inl (v20, Go.IntKind.wrap Go.IntKind.i64 (shrI Go.IntKind.u64 (Go.IntKind.wrap Go.IntKind.u64 (Go.IntKind.wrap Go.IntKind.i64 (v20 + v21))) 1))))))) else Option.some (Sum.inr v20)
noncomputable def L188_33 (c : Int → Int → Option Int) (a1 : Int) (a2 : Int) (a3 : Int) (m0 : List Int) (s : Int × Int) : Option (Int) := loopW (fun s => B188_33 c a1 a2 a3 m0 s.1 s.2) s
noncomputable def G188 (c : Int → Int → Option Int) (rec188 : Int → Int → Int → List Int → Option (Unit × List Int)) (a1 : Int) (a2 : Int) (a3 : Int) (m0 : List Int) : Option (Unit × List Int) := bif decide (Go.IntKind.wrap Go.IntKind.i64 (a2 - a1) = 1) then Option.bind (L188_3 c a1 m0 (a2, a3)) fun (p : Int) ↦ Option.bind (L188_9 p (a1, m0)) fun (p_2 : List Int) ↦ Option.some ((), p_2) else bif decide (Go.IntKind.wrap Go.IntKind.i64 (a3 - a2) = 1) then Option.bind (L188_15 c a2 m0 (a1, a2)) fun (p_3 : Int) ↦ Option.bind (L188_21 p_3 (a2, m0)) fun (p_4 : List Int) ↦ Option.some ((), p_4) else Option.bind (bif decide (Go.IntKind.wrap Go.IntKind.i64 (shrI Go.IntKind.u64 (Go.IntKind.wrap Go.IntKind.u64 (Go.IntKind.wrap Go.IntKind.i64 (a1 + a3))) 1) < a2) then Option.some (Go.IntKind.wrap Go.IntKind.i64 (Go.IntKind.wrap Go.IntKind.i64 (Go.IntKind.wrap Go.IntKind.i64 (shrI Go.IntKind.u64 (Go.IntKind.wrap Go.IntKind.u64 (Go.IntKind.wrap Go.IntKind.i64 (a1 + a3))) 1) + a2) - a3), Go.IntKind.wrap Go.IntKind.i64 (shrI Go.IntKind.u64 (Go.IntKind.wrap Go.IntKind.u64 (Go.IntKind.wrap Go.IntKind.i64 (a1 + a3))) 1)) else Option.some (a1, a2)) fun (p_5 : Int × Int) ↦ Option.bind (L188_33 c a1 a2 a3 m0 (Prod.fst p_5, Prod.snd p_5)) fun (p_6 : Int) ↦ Option.bind (bif decide (p_6 < a2) then bif decide (a2 < Go.IntKind.wrap Go.IntKind.i64 (Go.IntKind.wrap Go.IntKind.i64 (Go.IntKind.wrap Go.IntKind.i64 (shrI Go.IntKind.u64 (Go.IntKind.wrap Go.IntKind.u64 (Go.IntKind.wrap Go.IntKind.i64 (a1 + a3))) 1) + a2) - p_6)) then Option.bind (F215 c p_6 a2 (Go.IntKind.wrap Go.IntKind.i64 (Go.IntKind.wrap Go.IntKind.i64 (Go.IntKind.wrap Go.IntKind.i64 (shrI Go.IntKind.u64 (Go.IntKind.wrap Go.IntKind.u64 (Go.IntKind.wrap Go.IntKind.i64 (a1 + a3))) 1) + a2) - p_6)) m0) fun (r_4 : Unit × List Int) ↦ asrt (List.length (Prod.snd r_4) = List.length m0) (Option.some (Prod.snd r_4)) else Option.some m0 else Option.some m0) fun (p_7 : List Int) ↦ Option.bind (bif decide (a1 < p_6) then bif decide (p_6 < Go.IntKind.wrap Go.IntKind.i64 (shrI Go.IntKind.u64 (Go.IntKind.wrap Go.IntKind.u64 (Go.IntKind.wrap Go.IntKind.i64 (a1 + a3))) 1)) then Option.bind (rec188 a1 p_6 (Go.IntKind.wrap Go.IntKind.i64 (shrI Go.IntKind.u64 (Go.IntKind.wrap Go.IntKind.u64 (Go.IntKind.wrap Go.IntKind.i64 (a1 + a3))) 1)) p_7) fun (r_5 : Unit × List Int) ↦ asrt (List.length (Prod.snd r_5) = List.length p_7) (Option.some (Prod.snd r_5)) else Option.some p_7 else Option.some p_7) fun (p_8 : List Int) ↦ bif decide (Go.IntKind.wrap Go.IntKind.i64 (shrI Go.IntKind.u64 (Go.IntKind.wrap Go.IntKind.u64 (Go.IntKind.wrap Go.IntKind.i64 (a1 + a3))) 1) < Go.IntKind.wrap Go.IntKind.i64 (Go.IntKind.wrap Go.IntKind.i64 (Go.IntKind.wrap Go.IntKind.i64 (shrI Go.IntKind.u64 (Go.IntKind.wrap Go.IntKind.u64 (Go.IntKind.wrap Go.IntKind.i64 (a1 + a3))) 1) + a2) - p_6)) then bif decide (Go.IntKind.wrap Go.IntKind.i64 (Go.IntKind.wrap Go.IntKind.i64 (Go.IntKind.wrap Go.IntKind.i64 (shrI Go.IntKind.u64 (Go.IntKind.wrap Go.IntKind.u64 (Go.IntKind.wrap Go.IntKind.i64 (a1 + a3))) 1) + a2) - p_6) < a3) then Option.bind (rec188 (Go.IntKind.wrap Go.IntKind.i64 (shrI Go.IntKind.u64 (Go.IntKind.wrap Go.IntKind.u64 (Go.IntKind.wrap Go.IntKind.i64 (a1 + a3))) 1)) (Go.IntKind.wrap Go.IntKind.i64 (Go.IntKind.wrap Go.IntKind.i64 (Go.IntKind.wrap Go.IntKind.i64 (shrI Go.IntKind.u64 (Go.IntKind.wrap Go.IntKind.u64 (Go.IntKind.wrap Go.IntKind.i64 (a1 + a3))) 1) + a2) - p_6)) a3 p_8) fun (r_6 : Unit × List Int) ↦ asrt (List.length (Prod.snd r_6) = List.length p_8) (Option.some ((), Prod.snd r_6)) else Option.some ((), p_8) else Option.some ((), p_8)
noncomputable def F188n (c : Int → Int → Option Int) : Nat → Int → Int → Int → List Int → Option (Unit × List Int)
  | 0 => fun _ _ _ _ => none
  | k + 1 => G188 c (F188n c k)
noncomputable def F188 (c : Int → Int → Option Int) (a1 : Int) (a2 : Int) (a3 : Int) (m0 : List Int) : Option (Unit × List Int) := evF fun k => F188n c k a1 a2 a3 m0
noncomputable def B160_2 (c : Int → Int → Option Int) (a1 : Int) (v7 : Int) (v8 : Int) (m0_2 : List Int) : Option (Int × Int × List Int ⊕ Int × List Int) := bif decide (v8 ≤ a1) then Option.bind (F187 c v7 v8 m0_2) fun (r : Unit × List Int) ↦ asrt (List.length (Prod.snd r) = List.length m0_2) (Option.some (Sum.inl (v8, Go.IntKind.wrap Go.IntKind.i64 (v8 + 20), Prod.snd r))) else Option.some (Sum.inr (v7, m0_2))
noncomputable def L160_2 (c : Int → Int → Option Int) (a1 : Int) (s : Int × Int × List Int) : Option (Int × List Int) := loopW (fun s => B160_2 c a1 s.1 s.2.1 s.2.2) s
noncomputable def B160_9 (c : Int → Int → Option Int) (a1 : Int) (v6 : Int) (v7_2 : Int) (v8_2 : Int) (m0_4 : List Int) : Option (Int × Int × List Int ⊕ Int × List Int) := bif decide (v8_2 ≤ a1) then Option.bind (F188 c v7_2 (Go.IntKind.wrap Go.IntKind.i64 (v7_2 + v6)) v8_2 m0_4) fun (r_3 : Unit × List Int) ↦ asrt (List.length (Prod.snd r_3) = List.length m0_4) (Option.some (Sum.inl (v8_2, Go.IntKind.wrap Go.IntKind.i64 (v8_2 + Go.IntKind.wrap Go.IntKind.i64 (2 * v6)), Prod.snd r_3))) else Option.some (Sum.inr (v7_2, m0_4))
noncomputable def L160_9 (c : Int → Int → Option Int) (a1 : Int) (v6 : Int) (s : Int × Int × List Int) : Option (Int × List Int) := loopW (fun s => B160_9 c a1 v6 s.1 s.2.1 s.2.2) s
noncomputable def B160_7 (c : Int → Int → Option Int) (a1 : Int) (v6 : Int) (m0_3 : List Int) : Option (Int × List Int ⊕ List Int) := bif decide (v6 < a1) then Option.bind (L160_9 c a1 v6 (0, Go.IntKind.wrap Go.IntKind.i64 (2 * v6), m0_3)) fun (p_2 : Int × List Int) ↦ bif decide (Go.IntKind.wrap Go.IntKind.i64 (Prod.fst p_2 + v6) < a1) then Option.bind (F188 c (Prod.fst p_2) (Go.IntKind.wrap Go.IntKind.i64 (Prod.fst p_2 + v6)) a1 (Prod.snd p_2)) fun (r_4 : Unit × List Int) ↦ asrt (List.length (Prod.snd r_4) = List.length (Prod.snd p_2)) (Option.some (Sum.inl (Go.IntKind.wrap Go.IntKind.i64 (v6 * 2), Prod.snd r_4))) else Option.some (Sum.inl (Go.IntKind.wrap Go.IntKind.i64 (v6 * 2), Prod.snd p_2)) else Option.some (Sum.inr m0_3)
noncomputable def L160_7 (c : Int → Int → Option Int) (a1 : Int) (s : Int × List Int) : Option (List Int) := loopW (fun s => B160_7 c a1 s.1 s.2) s
noncomputable def F160 (c : Int → Int → Option Int) (a1 : Int) (m0 : List Int) : Option (Unit × List Int) := Option.bind (L160_2 c a1 (0, 20, m0)) fun (p : Int × List Int) ↦ Option.bind (F187 c (Prod.fst p) a1 (Prod.snd p)) fun (r_2 : Unit × List Int) ↦ asrt (List.length (Prod.snd r_2) = List.length (Prod.snd p)) (Option.bind (L160_7 c a1 (20, Prod.snd r_2)) fun (p_3 : List Int) ↦ Option.some ((), p_3))
noncomputable def F135 (c : Int → Int → Option Int) (m0 : List Int) : Option (Unit × List Int) := Option.bind (F160 c (↑(List.length m0) : Int) m0) fun (r : Unit × List Int) ↦ asrt (List.length (Prod.snd r) = List.length m0) (Option.some ((), Prod.snd r))


/-! ### lists in parts -/

theorem getD_app {l m : List Int} {i : Nat} : (l ++ m).getD i 0 = if i < l.length then l.getD i 0 else m.getD (i - l.length) 0 := by
  simp only [List.getD_eq_getElem?_getD, List.getElem?_append]
  split <;> rfl

theorem shr1u {v : Int} (h : 0 ≤ v) (h2 : v < 9223372036854775808) : shrI .u64 (IntKind.wrap .u64 v) 1 = v / 2 := by
  have e : IntKind.wrap .u64 v = v := by
    unfold IntKind.wrap
    have e1 : (2 : Int) ^ 64 = 18446744073709551616 := by decide
    simp only [IntKind.bits, IntKind.signed, Bool.false_and, e1]
    simp
    omega
  rw [e]
  unfold shrI
  show v.fdiv (2 ^ min (1 : Int).toNat 64) = v / 2
  rw [show (2 : Int) ^ min (1 : Int).toNat 64 = 2 from by decide]
  exact Int.fdiv_eq_ediv_of_nonneg v (by decide)

/-- swapped ranges -/
theorem swap_ret (c : Int → Int → Option Int) (a b n : Nat) (m : List Int) (h1 : a + n ≤ b) (h2 : b + n ≤ m.length) (hm : m.length ≤ 140737488355328) :
    Ret (F224 c a b n m) fun o => o.2.length = m.length ∧ ∀ j, o.2.getD j 0 = if a ≤ j ∧ j < a + n then m.getD (b + (j - a)) 0 else if b ≤ j ∧ j < b + n then m.getD (a + (j - b)) 0 else m.getD j 0 := by
  unfold F224
  simp (disch := omega) only [Ret_some, Ret_none, Ret_bind, Ret_asrt, Ret_cond, Sum.elim_inl, Sum.elim_inr, decide_eq_true_eq, decide_eq_false_iff_not, Bool.not_eq_true', Bool.not_not, Bool.and_eq_true, Bool.or_eq_true, Bool.true_eq_false, Bool.false_eq_true, Bool.not_true, Bool.not_false, if_true, if_false, ite_true, ite_false, true_and, and_true, false_and, and_false, Int.toNat_natCast, toN_succ, Int.ofNat_eq_natCast, Int.ofNat_toNat, Nat.zero_add, Nat.add_zero, not_true_eq_false, not_false_eq_true, implies_true, wr64]
  unfold L224_1
  refine Ret.loop n (fun k s => s.1 = (k : Int) ∧ s.2.length = m.length ∧ ∀ j, s.2.getD j 0 = if a ≤ j ∧ j < a + k then m.getD (b + (j - a)) 0 else if b ≤ j ∧ j < b + k then m.getD (a + (j - b)) 0 else m.getD j 0) ⟨rfl, rfl, fun j => by rw [if_neg (by omega), if_neg (by omega)]⟩ ?_ ?_
  · rintro k ⟨v, l⟩ hk ⟨e1, e2, e3⟩
    simp only at e1 e2 e3
    subst e1
    unfold B224_1
    simp (disch := omega) only [Ret_some, Ret_none, Ret_bind, Ret_asrt, Ret_cond, Sum.elim_inl, Sum.elim_inr, decide_eq_true_eq, decide_eq_false_iff_not, Bool.not_eq_true', Bool.not_not, Bool.and_eq_true, Bool.or_eq_true, Bool.true_eq_false, Bool.false_eq_true, Bool.not_true, Bool.not_false, if_true, if_false, ite_true, ite_false, true_and, and_true, false_and, and_false, Int.toNat_natCast, toN_succ, Int.ofNat_eq_natCast, Int.ofNat_toNat, Nat.zero_add, Nat.add_zero, not_true_eq_false, not_false_eq_true, implies_true, wr64]
    rw [if_pos (by omega)]
    refine ⟨by omega, by omega, by omega, by omega, by omega, by simp [e2], fun j => ?_⟩
    have t1 : (0 + ((a : Int) + (k : Int)).toNat) = a + k := by omega
    have t2 : (0 + ((b : Int) + (k : Int)).toNat) = b + k := by omega
    simp only [Nat.zero_add] at t1 t2
    simp only [Nat.zero_add, t1, t2, lgetD_set, e3, List.length_set]
    rw [if_neg (show ¬ (a ≤ b + k ∧ b + k < a + k) by omega), if_neg (show ¬ (b ≤ b + k ∧ b + k < b + k) by omega), if_neg (show ¬ (a ≤ a + k ∧ a + k < a + k) by omega), if_neg (show ¬ (b ≤ a + k ∧ a + k < b + k) by omega)]
    by_cases c1 : b + k = j
    · subst c1
      rw [if_pos ⟨rfl, by omega⟩, if_neg (by omega), if_pos (by omega)]
      congr 1; omega
    · rw [if_neg (by omega)]
      by_cases c2 : a + k = j
      · subst c2
        rw [if_pos ⟨rfl, by omega⟩, if_pos (by omega)]
        congr 1; omega
      · rw [if_neg (by omega)]
        by_cases c3 : a ≤ j ∧ j < a + k
        · rw [if_pos c3, if_pos (by omega)]
        · by_cases c4 : b ≤ j ∧ j < b + k
          · rw [if_neg c3, if_pos c4, if_neg (show ¬ (a ≤ j ∧ j < a + (k + 1)) by omega), if_pos (show b ≤ j ∧ j < b + (k + 1) by omega)]
          · rw [if_neg c3, if_neg c4, if_neg (show ¬ (a ≤ j ∧ j < a + (k + 1)) by omega), if_neg (show ¬ (b ≤ j ∧ j < b + (k + 1)) by omega)]
  · rintro ⟨v, l⟩ ⟨e1, e2, e3⟩
    simp only at e1 e2 e3
    subst e1
    unfold B224_1
    simp (disch := omega) only [Ret_some, Ret_none, Ret_bind, Ret_asrt, Ret_cond, Sum.elim_inl, Sum.elim_inr, decide_eq_true_eq, decide_eq_false_iff_not, Bool.not_eq_true', Bool.not_not, Bool.and_eq_true, Bool.or_eq_true, Bool.true_eq_false, Bool.false_eq_true, Bool.not_true, Bool.not_false, if_true, if_false, ite_true, ite_false, true_and, and_true, false_and, and_false, Int.toNat_natCast, toN_succ, Int.ofNat_eq_natCast, Int.ofNat_toNat, Nat.zero_add, Nat.add_zero, not_true_eq_false, not_false_eq_true, implies_true, wr64]
    rw [if_neg (by omega)]
    exact ⟨e2, e3⟩

theorem swap_app (c : Int → Int → Option Int) (P X M Y S : List Int) (h : X.length = Y.length) (hm : (P ++ X ++ M ++ Y ++ S).length ≤ 140737488355328) :
    F224 c (P.length : Nat) ((P.length + X.length + M.length : Nat) : Int) (X.length : Nat) (P ++ X ++ M ++ Y ++ S) = some ((), P ++ Y ++ M ++ X ++ S) := by
  obtain ⟨⟨_, o⟩, ho, h1, h2⟩ := swap_ret c P.length (P.length + X.length + M.length) X.length (P ++ X ++ M ++ Y ++ S) (by omega) (by simp only [List.length_append]; omega) hm
  rw [ho]
  congr 2
  refine list_ext_getD 0 (by rw [h1]; simp only [List.length_append]; omega) fun j hj => ?_
  simp only at h2
  rw [h2 j]
  simp only [getD_app, List.length_append]
  by_cases c0 : j < P.length
  · rw [if_neg (by omega), if_neg (by omega), if_pos (by omega), if_pos (by omega), if_pos (by omega), if_pos (by omega), if_pos (by omega), if_pos (by omega), if_pos (by omega), if_pos (by omega)]
  · by_cases c1 : j < P.length + X.length
    · rw [if_pos (by omega), if_pos (by omega), if_neg (by omega), if_pos (by omega), if_pos (by omega), if_pos (by omega), if_neg (by omega)]
      congr 1; omega
    · by_cases c2 : j < P.length + X.length + M.length
      · rw [if_neg (by omega), if_neg (by omega), if_pos (by omega), if_pos (by omega), if_neg (by omega), if_pos (by omega), if_pos (by omega), if_neg (by omega)]
        congr 1; omega
      · by_cases c3 : j < P.length + X.length + M.length + Y.length
        · rw [if_neg (by omega), if_pos (by omega), if_pos (by omega), if_pos (by omega), if_pos (by omega), if_neg (by omega), if_pos (by omega), if_neg (by omega)]
          congr 1; omega
        · rw [if_neg (by omega), if_neg (by omega), if_neg (by omega), if_neg (by omega)]
          congr 1; omega

theorem rot_ret (c : Int → Int → Option Int) (P A B S : List Int) (hA : 0 < A.length) (hB : 0 < B.length) (hm : (P ++ A ++ B ++ S).length ≤ 140737488355328) :
    F215 c (P.length : Nat) ((P.length + A.length : Nat) : Int) ((P.length + A.length + B.length : Nat) : Int) (P ++ A ++ B ++ S) = some ((), P ++ B ++ A ++ S) := by
  refine Ret.eq ?_
  unfold F215
  simp only [List.length_append] at hm
  simp (disch := omega) only [Ret_some, Ret_none, Ret_bind, Ret_asrt, Ret_cond, Sum.elim_inl, Sum.elim_inr, decide_eq_true_eq, decide_eq_false_iff_not, Bool.not_eq_true', Bool.not_not, Bool.and_eq_true, Bool.or_eq_true, Bool.true_eq_false, Bool.false_eq_true, Bool.not_true, Bool.not_false, if_true, if_false, ite_true, ite_false, true_and, and_true, false_and, and_false, Int.toNat_natCast, toN_succ, Int.ofNat_eq_natCast, Int.ofNat_toNat, Nat.zero_add, Nat.add_zero, not_true_eq_false, not_false_eq_true, implies_true, wr64]
  unfold L215_2
  generalize hT : P ++ B ++ A ++ S = T
  refine Ret.while (fun s => ∃ P' X Y S', s.2.2 = P' ++ X ++ Y ++ S' ∧ s.1 = (X.length : Int) ∧ s.2.1 = (Y.length : Int) ∧ P'.length + X.length = P.length + A.length ∧ P' ++ Y ++ X ++ S' = T ∧ 0 < X.length ∧ 0 < Y.length ∧ (P' ++ X ++ Y ++ S').length ≤ 140737488355328) (fun s => (s.1 + s.2.1).toNat) ?_ ?_
  · exact ⟨P, A, B, S, rfl, by simp only; omega, by simp only; omega, rfl, hT, hA, hB, by simp only [List.length_append]; omega⟩
  · rintro ⟨i, j, l⟩ ⟨P', X, Y, S', e1, e2, e3, e4, e5, e6, e7, e8⟩
    simp only at e1 e2 e3
    subst e1 e2 e3
    simp only [List.length_append] at e8
    unfold B215_2
    simp (disch := omega) only [Ret_some, Ret_none, Ret_bind, Ret_asrt, Ret_cond, Sum.elim_inl, Sum.elim_inr, decide_eq_true_eq, decide_eq_false_iff_not, Bool.not_eq_true', Bool.not_not, Bool.and_eq_true, Bool.or_eq_true, Bool.true_eq_false, Bool.false_eq_true, Bool.not_true, Bool.not_false, if_true, if_false, ite_true, ite_false, true_and, and_true, false_and, and_false, Int.toNat_natCast, toN_succ, Int.ofNat_eq_natCast, Int.ofNat_toNat, Nat.zero_add, Nat.add_zero, not_true_eq_false, not_false_eq_true, implies_true, wr64]
    split
    · split
      · rename_i hc
        -- X = X1 ++ X2
        have hX : X = X.take Y.length ++ X.drop Y.length := (List.take_append_drop _ _).symm
        have hx1 : (X.take Y.length).length = Y.length := by rw [List.length_take]; omega
        have hx2 : (X.drop Y.length).length = X.length - Y.length := by rw [List.length_drop]
        have hs := swap_app c P' (X.take Y.length) (X.drop Y.length) Y S' hx1 (by simp only [List.length_append]; omega)
        have e9 : P' ++ X.take Y.length ++ X.drop Y.length ++ Y ++ S' = P' ++ X ++ Y ++ S' := by
          rw [List.append_assoc P', ← hX]
        rw [e9, hx1, hx2] at hs
        rw [show ((P.length + A.length : Nat) : Int) - (X.length : Int) = (P'.length : Nat) by omega, show ((P.length + A.length : Nat) : Int) = ((P'.length + Y.length + (X.length - Y.length) : Nat) : Int) by omega, Ret_eq hs]
        refine ⟨by simp only [List.length_append]; omega, ⟨P' ++ Y, X.drop Y.length, X.take Y.length, S', by simp only [List.append_assoc], by omega, by omega, by simp only [List.length_append]; omega, ?_, by omega, by omega, by simp only [List.length_append]; omega⟩, by omega⟩
        rw [← e5]
        conv => rhs; rw [hX]
        simp only [List.append_assoc]
      · rename_i hne hc
        have hY : Y = Y.take (Y.length - X.length) ++ Y.drop (Y.length - X.length) := (List.take_append_drop _ _).symm
        have hy1 : (Y.take (Y.length - X.length)).length = Y.length - X.length := by rw [List.length_take]; omega
        have hy2 : (Y.drop (Y.length - X.length)).length = X.length := by rw [List.length_drop]; omega
        have hs := swap_app c P' X (Y.take (Y.length - X.length)) (Y.drop (Y.length - X.length)) S' hy2.symm (by simp only [List.length_append]; omega)
        have e9 : P' ++ X ++ Y.take (Y.length - X.length) ++ Y.drop (Y.length - X.length) ++ S' = P' ++ X ++ Y ++ S' := by
          rw [List.append_assoc (P' ++ X), ← hY]
        rw [e9, hy1] at hs
        rw [show ((P.length + A.length : Nat) : Int) - (X.length : Int) = (P'.length : Nat) by omega, show ((P.length + A.length : Nat) : Int) + (Y.length : Int) - (X.length : Int) = ((P'.length + X.length + (Y.length - X.length) : Nat) : Int) by omega, Ret_eq hs]
        refine ⟨by simp only [List.length_append]; omega, ⟨P', Y.drop (Y.length - X.length), Y.take (Y.length - X.length), X ++ S', by simp only [List.append_assoc], by omega, by omega, by omega, ?_, by omega, by omega, by simp only [List.length_append]; omega⟩, by omega⟩
        rw [← e5]
        conv => rhs; rw [hY]
        simp only [List.append_assoc]
    · rename_i hc
      have hxy : X.length = Y.length := by omega
      have hs := swap_app c P' X [] Y S' hxy (by simp only [List.length_append, List.length_nil]; omega)
      simp only [List.append_nil, List.length_nil, Nat.add_zero] at hs
      rw [show ((P.length + A.length : Nat) : Int) - (X.length : Int) = (P'.length : Nat) by omega, show ((P.length + A.length : Nat) : Int) = ((P'.length + X.length : Nat) : Int) by omega, Ret_eq hs]
      exact ⟨by simp only [List.length_append]; omega, by rw [← e5]⟩

/-! ### order -/

/-- the comparison goes by a key, for what S holds of -/
def Cmp (c : Int → Int → Option Int) (key : Int → Int) (S : Int → Prop) : Prop := ∀ x y, S x → S y → ∃ r, c x y = some r ∧ (r < 0 ↔ key x < key y)

/-- in order -/
def Srt (key : Int → Int) (l : List Int) : Prop := l.Pairwise fun x y => key x ≤ key y

/-- the same elements, those with one key in the same order -/
def Eqv (key : Int → Int) (l m : List Int) : Prop := ∀ v, l.filter (fun x => key x = v) = m.filter (fun x => key x = v)

section
variable {key : Int → Int}

theorem Eqv.refl (l : List Int) : Eqv key l l := fun _ => rfl
theorem Eqv.symm {l m : List Int} (h : Eqv key l m) : Eqv key m l := fun v => (h v).symm
theorem Eqv.trans {l m n : List Int} (h : Eqv key l m) (k : Eqv key m n) : Eqv key l n := fun v => (h v).trans (k v)
theorem Eqv.app {a b c d : List Int} (h : Eqv key a b) (k : Eqv key c d) : Eqv key (a ++ c) (b ++ d) := fun v => by rw [List.filter_append, List.filter_append, h v, k v]

theorem Eqv.perm {l m : List Int} (h : Eqv key l m) : l.Perm m := by
  rw [List.perm_iff_count]
  intro a
  have e : ∀ k : List Int, k.count a = (k.filter fun x => key x = key a).count a := fun k => by rw [List.count_filter (by simp)]
  rw [e l, e m, h (key a)]

theorem Eqv.len {l m : List Int} (h : Eqv key l m) : l.length = m.length := h.perm.length_eq
theorem Eqv.mem {l m : List Int} (h : Eqv key l m) {x : Int} : x ∈ l ↔ x ∈ m := h.perm.mem_iff

theorem Eqv.swap {X Y : List Int} (h : ∀ x ∈ X, ∀ y ∈ Y, key x ≠ key y) : Eqv key (X ++ Y) (Y ++ X) := fun v => by
  rw [List.filter_append, List.filter_append]
  by_cases c : ∃ x ∈ X, key x = v
  · obtain ⟨x, hx, rfl⟩ := c
    have : Y.filter (fun y => key y = key x) = [] := by
      rw [List.filter_eq_nil_iff]
      intro y hy
      simpa using fun e => h x hx y hy e.symm
    rw [this]; simp
  · have : X.filter (fun x => key x = v) = [] := by
      rw [List.filter_eq_nil_iff]
      intro x hx
      simpa using fun e => c ⟨x, hx, e⟩
    rw [this]; simp

theorem Srt.app {A B : List Int} : Srt key (A ++ B) ↔ Srt key A ∧ Srt key B ∧ ∀ a ∈ A, ∀ b ∈ B, key a ≤ key b := List.pairwise_append

theorem Srt.getD {A : List Int} (h : Srt key A) {s t : Nat} (hst : s ≤ t) (ht : t < A.length) : key (A.getD s 0) ≤ key (A.getD t 0) := by
  rcases Nat.lt_or_eq_of_le hst with hlt | rfl
  · rw [List.getD_eq_getElem?_getD, List.getD_eq_getElem?_getD, List.getElem?_eq_getElem (by omega), List.getElem?_eq_getElem ht]
    exact List.pairwise_iff_getElem.1 h s t (by omega) ht hlt
  · exact Int.le_refl _

theorem Srt.of {A : List Int} (h : ∀ s t, s ≤ t → t < A.length → key (A.getD s 0) ≤ key (A.getD t 0)) : Srt key A := by
  refine List.pairwise_iff_getElem.2 fun s t hs ht hst => ?_
  have := h s t (by omega) ht
  rwa [List.getD_eq_getElem?_getD, List.getD_eq_getElem?_getD, List.getElem?_eq_getElem (by omega), List.getElem?_eq_getElem ht] at this

theorem mem_take_getD {A : List Int} {n : Nat} {x : Int} (h : x ∈ A.take n) : ∃ t, t < n ∧ t < A.length ∧ A.getD t 0 = x := by
  obtain ⟨t, ht, e⟩ := mem_getD 0 h
  rw [List.length_take] at ht
  refine ⟨t, by omega, by omega, ?_⟩
  rwa [getD_take (by omega)] at e

theorem mem_drop_getD {A : List Int} {n : Nat} {x : Int} (h : x ∈ A.drop n) : ∃ t, n ≤ t ∧ t < A.length ∧ A.getD t 0 = x := by
  obtain ⟨t, ht, e⟩ := mem_getD 0 h
  rw [List.length_drop] at ht
  refine ⟨n + t, by omega, by omega, ?_⟩
  rwa [getD_drop] at e
end

/-- a search by halves -/
theorem halves {B : Int × Int → Option ((Int × Int) ⊕ Int)} (lo hi : Nat) (q : Nat → Prop) (mono : ∀ s t, lo ≤ s → s ≤ t → t < hi → q t → q s)
    (hB : ∀ i j : Nat, lo ≤ i → i < j → j ≤ hi → (q ((i + j) / 2) ∧ B ((i : Int), (j : Int)) = some (.inl ((((i + j) / 2 + 1 : Nat) : Int), (j : Int)))) ∨ (¬ q ((i + j) / 2) ∧ B ((i : Int), (j : Int)) = some (.inl ((i : Int), (((i + j) / 2 : Nat) : Int)))))
    (hE : ∀ i : Nat, B ((i : Int), (i : Int)) = some (.inr (i : Int))) (h : lo ≤ hi) :
    ∃ n : Nat, loopW B ((lo : Int), (hi : Int)) = some (n : Int) ∧ (lo ≤ n ∧ n ≤ hi) ∧ (∀ t, lo ≤ t → t < n → q t) ∧ ∀ t, n ≤ t → t < hi → ¬ q t := by
  have key : Ret (loopW B ((lo : Int), (hi : Int))) fun r => ∃ n : Nat, r = (n : Int) ∧ (lo ≤ n ∧ n ≤ hi) ∧ (∀ t, lo ≤ t → t < n → q t) ∧ ∀ t, n ≤ t → t < hi → ¬ q t := by
    refine Ret.while (fun s => ∃ i j : Nat, s = ((i : Int), (j : Int)) ∧ lo ≤ i ∧ i ≤ j ∧ j ≤ hi ∧ (∀ t, lo ≤ t → t < i → q t) ∧ ∀ t, j ≤ t → t < hi → ¬ q t) (fun s => (s.2 - s.1).toNat) ⟨lo, hi, rfl, Nat.le_refl _, h, Nat.le_refl _, fun t h1 h2 => by omega, fun t h1 h2 => by omega⟩ ?_
    rintro s ⟨i, j, rfl, h1, h2, h3, h4, h5⟩
    rcases Nat.lt_or_ge i j with hij | hij
    · rcases hB i j h1 hij h3 with ⟨hq, e⟩ | ⟨hq, e⟩
      · rw [Ret_eq e]
        refine ⟨⟨_, _, rfl, by omega, by omega, h3, fun t ht1 ht2 => ?_, h5⟩, by simp only; omega⟩
        exact mono t _ ht1 (by omega) (by omega) hq
      · rw [Ret_eq e]
        refine ⟨⟨_, _, rfl, h1, by omega, by omega, h4, fun t ht1 ht2 hqt => ?_⟩, by simp only; omega⟩
        exact hq (mono _ t (by omega) ht1 ht2 hqt)
    · obtain rfl : i = j := by omega
      rw [Ret_eq (hE i)]
      exact ⟨i, rfl, ⟨h1, h3⟩, h4, h5⟩
  obtain ⟨r, hr, n, rfl, h⟩ := key
  exact ⟨n, hr, h⟩

theorem set2 (x y : Int) (R : List Int) : ∀ L : List Int, ((L ++ x :: y :: R).set L.length y).set (L.length + 1) x = L ++ y :: x :: R
  | [] => rfl
  | a :: L => by simp [set2 x y R L]

theorem set2' (x y : Int) (R : List Int) : ∀ L : List Int, ((L ++ x :: y :: R).set (L.length + 1) x).set L.length y = L ++ y :: x :: R
  | [] => rfl
  | a :: L => by simp [set2' x y R L]

theorem getD_mid (x : Int) (L R : List Int) : (L ++ x :: R).getD L.length 0 = x := by rw [getD_app, if_neg (by omega), Nat.sub_self]; rfl
theorem getD_mid1 (x y : Int) (L R : List Int) : (L ++ x :: y :: R).getD (L.length + 1) 0 = y := by rw [getD_app, if_neg (by omega), show L.length + 1 - L.length = 1 by omega]; rfl

/-- an element moves to the right -/
theorem right_ret (P Y S : List Int) (x : Int) (hm : (P ++ x :: Y ++ S).length ≤ 140737488355328) : L188_9 ((P.length + Y.length + 1 : Nat) : Int) ((P.length : Nat), P ++ x :: Y ++ S) = some (P ++ Y ++ x :: S) := by
  simp only [List.length_append, List.length_cons] at hm
  refine Ret.eq ?_
  unfold L188_9
  refine Ret.loop Y.length (fun t s => s.1 = ((P.length + t : Nat) : Int) ∧ s.2 = (P ++ Y.take t) ++ x :: (Y.drop t ++ S)) ⟨rfl, by simp⟩ ?_ ?_
  · rintro t ⟨k, l⟩ ht ⟨h1, h2⟩
    simp only at h1 h2
    subst h1 h2
    have hd : Y.drop t = Y.getD t 0 :: Y.drop (t + 1) := by
      rw [List.getD_eq_getElem?_getD, List.getElem?_eq_getElem ht]
      exact List.drop_eq_getElem_cons ht
    have hl : (P ++ Y.take t).length = P.length + t := by rw [List.length_append, List.length_take]; omega
    have hl2 : ((P ++ Y.take t) ++ x :: (Y.drop t ++ S)).length = P.length + Y.length + S.length + 1 := by simp only [List.length_append, List.length_take, List.length_cons, List.length_drop]; omega
    unfold B188_9
    rw [hl2]
    simp (disch := omega) only [Ret_some, Ret_none, Ret_bind, Ret_asrt, Ret_cond, Sum.elim_inl, Sum.elim_inr, decide_eq_true_eq, decide_eq_false_iff_not, Bool.not_eq_true', Bool.not_not, Bool.and_eq_true, Bool.or_eq_true, Bool.true_eq_false, Bool.false_eq_true, Bool.not_true, Bool.not_false, if_true, if_false, ite_true, ite_false, true_and, and_true, false_and, and_false, Int.toNat_natCast, toN_succ, Int.ofNat_eq_natCast, Int.ofNat_toNat, Nat.zero_add, Nat.add_zero, not_true_eq_false, not_false_eq_true, implies_true, wr64]
    rw [if_pos (by omega)]
    refine ⟨by omega, by omega, by omega, by omega, by omega, ?_⟩
    rw [← hl, hd, List.cons_append, getD_mid, getD_mid1, set2, take_succ' 0 ht]
    simp only [List.append_assoc, List.cons_append, List.nil_append]
  · rintro ⟨k, l⟩ ⟨h1, h2⟩
    simp only at h1 h2
    subst h1 h2
    unfold B188_9
    simp (disch := omega) only [Ret_some, Ret_none, Ret_bind, Ret_asrt, Ret_cond, Sum.elim_inl, Sum.elim_inr, decide_eq_true_eq, decide_eq_false_iff_not, Bool.not_eq_true', Bool.not_not, Bool.and_eq_true, Bool.or_eq_true, Bool.true_eq_false, Bool.false_eq_true, Bool.not_true, Bool.not_false, if_true, if_false, ite_true, ite_false, true_and, and_true, false_and, and_false, Int.toNat_natCast, toN_succ, Int.ofNat_eq_natCast, Int.ofNat_toNat, Nat.zero_add, Nat.add_zero, not_true_eq_false, not_false_eq_true, implies_true, wr64]
    rw [if_neg (by omega)]
    simp

/-- an element moves to the left -/
theorem left_ret (P Y S : List Int) (y : Int) (hm : (P ++ Y ++ y :: S).length ≤ 140737488355328) : L188_21 (P.length : Nat) (((P.length + Y.length : Nat) : Int), P ++ Y ++ y :: S) = some (P ++ y :: Y ++ S) := by
  simp only [List.length_append, List.length_cons] at hm
  refine Ret.eq ?_
  unfold L188_21
  refine Ret.loop Y.length (fun t s => s.1 = ((P.length + (Y.length - t) : Nat) : Int) ∧ s.2 = (P ++ Y.take (Y.length - t)) ++ y :: (Y.drop (Y.length - t) ++ S)) ⟨rfl, by simp⟩ ?_ ?_
  · rintro t ⟨k, l⟩ ht ⟨h1, h2⟩
    simp only at h1 h2
    subst h1 h2
    obtain ⟨u, hu⟩ : ∃ u, Y.length - t = u + 1 := ⟨Y.length - t - 1, by omega⟩
    rw [hu, show Y.length - (t + 1) = u by omega]
    have hd : Y.drop u = Y.getD u 0 :: Y.drop (u + 1) := by
      rw [List.getD_eq_getElem?_getD, List.getElem?_eq_getElem (by omega)]
      exact List.drop_eq_getElem_cons (by omega)
    have hl : (P ++ Y.take u).length = P.length + u := by rw [List.length_append, List.length_take]; omega
    have hl2 : ((P ++ Y.take (u + 1)) ++ y :: (Y.drop (u + 1) ++ S)).length = P.length + Y.length + S.length + 1 := by simp only [List.length_append, List.length_take, List.length_cons, List.length_drop]; omega
    unfold B188_21
    rw [hl2]
    simp (disch := omega) only [Ret_some, Ret_none, Ret_bind, Ret_asrt, Ret_cond, Sum.elim_inl, Sum.elim_inr, decide_eq_true_eq, decide_eq_false_iff_not, Bool.not_eq_true', Bool.not_not, Bool.and_eq_true, Bool.or_eq_true, Bool.true_eq_false, Bool.false_eq_true, Bool.not_true, Bool.not_false, if_true, if_false, ite_true, ite_false, true_and, and_true, false_and, and_false, Int.toNat_natCast, toN_succ, Int.ofNat_eq_natCast, Int.ofNat_toNat, Nat.zero_add, Nat.add_zero, not_true_eq_false, not_false_eq_true, implies_true, wr64]
    rw [if_pos (by omega)]
    have e1 : (P ++ Y.take (u + 1)) ++ y :: (Y.drop (u + 1) ++ S) = (P ++ Y.take u) ++ Y.getD u 0 :: y :: (Y.drop (u + 1) ++ S) := by
      rw [take_succ' 0 (by omega)]; simp only [List.append_assoc, List.cons_append, List.nil_append]
    have e2 : (((P.length + (u + 1) : Nat) : Int) - 1).toNat = (P ++ Y.take u).length := by omega
    have e3 : P.length + (u + 1) = (P ++ Y.take u).length + 1 := by omega
    refine ⟨by omega, by omega, by omega, by omega, by omega, ?_⟩
    rw [e2, e3, e1, getD_mid, getD_mid1, set2', hd]
    simp only [List.cons_append]
  · rintro ⟨k, l⟩ ⟨h1, h2⟩
    simp only at h1 h2
    subst h1 h2
    unfold B188_21
    simp (disch := omega) only [Ret_some, Ret_none, Ret_bind, Ret_asrt, Ret_cond, Sum.elim_inl, Sum.elim_inr, decide_eq_true_eq, decide_eq_false_iff_not, Bool.not_eq_true', Bool.not_not, Bool.and_eq_true, Bool.or_eq_true, Bool.true_eq_false, Bool.false_eq_true, Bool.not_true, Bool.not_false, if_true, if_false, ite_true, ite_false, true_and, and_true, false_and, and_false, Int.toNat_natCast, toN_succ, Int.ofNat_eq_natCast, Int.ofNat_toNat, Nat.zero_add, Nat.add_zero, not_true_eq_false, not_false_eq_true, implies_true, wr64]
    rw [if_neg (by omega)]
    simp

section
variable {c : Int → Int → Option Int} {key : Int → Int} {S : Int → Prop} (hc : Cmp c key S)
include hc

theorem find3 (P B R : List Int) (x : Int) (hB : Srt key B) (hx : S x) (hS : ∀ z ∈ B, S z) (hm : (P ++ x :: B ++ R).length ≤ 140737488355328) :
    ∃ n : Nat, n ≤ B.length ∧ L188_3 c (P.length : Nat) (P ++ x :: B ++ R) (((P.length + 1 : Nat) : Int), ((P.length + 1 + B.length : Nat) : Int)) = some ((P.length + 1 + n : Nat) : Int) ∧
      (∀ z ∈ B.take n, key z < key x) ∧ ∀ z ∈ B.drop n, key x ≤ key z := by
  have hl2 : (P ++ x :: B ++ R).length = P.length + B.length + R.length + 1 := by simp only [List.length_append, List.length_cons]; omega
  rw [hl2] at hm
  have hg : ∀ t, P.length + 1 ≤ t → t < P.length + 1 + B.length → (P ++ x :: B ++ R).getD t 0 = B.getD (t - (P.length + 1)) 0 := fun t h1 h2 => by
    rw [List.append_assoc, getD_app, if_neg (by omega), List.cons_append, show t - P.length = (t - (P.length + 1)) + 1 by omega, List.getD_cons_succ, getD_app, if_pos (by omega)]
  have hp : (P ++ x :: B ++ R).getD P.length 0 = x := by rw [List.append_assoc, List.cons_append, getD_mid]
  obtain ⟨n, h1, h2, h3, h4⟩ := halves (B := fun s => B188_3 c (P.length : Nat) (P ++ x :: B ++ R) s.1 s.2) (P.length + 1) (P.length + 1 + B.length) (fun t => key (B.getD (t - (P.length + 1)) 0) < key x)
    (fun s t h1 h2 h3 h4 => Int.lt_of_le_of_lt (hB.getD (by omega) (by omega)) h4)
    (fun i j h1 h2 h3 => by
      have hs : shrI .u64 (IntKind.wrap .u64 ((i : Int) + (j : Int))) 1 = (((i + j) / 2 : Nat) : Int) := by rw [shr1u (by omega) (by omega)]; omega
      obtain ⟨r, hr, hr2⟩ := hc (B.getD ((i + j) / 2 - (P.length + 1)) 0) x (hS _ (getD_mem (by omega))) hx
      have e : B188_3 c (P.length : Nat) (P ++ x :: B ++ R) (i : Int) (j : Int) = bif decide (r < 0) then some (Sum.inl ((((i + j) / 2 + 1 : Nat) : Int), (j : Int))) else some (Sum.inl ((i : Int), (((i + j) / 2 : Nat) : Int))) := by
        unfold B188_3
        rw [decide_eq_true (show (i : Int) < (j : Int) by omega), cond_true, wr64 (x := (i : Int) + (j : Int)) (by omega) (by omega), hs, wr64 (x := (((i + j) / 2 : Nat) : Int)) (by omega) (by omega), hl2,
          asrt_eq (by omega), asrt_eq (by omega), asrt_eq (by omega), asrt_eq (by omega), Nat.zero_add, Nat.zero_add, Int.toNat_natCast, Int.toNat_natCast, hp, hg _ (by omega) (by omega), hr, Option.bind_some, wr64 (by omega) (by omega)]
        rfl
      by_cases q : key (B.getD ((i + j) / 2 - (P.length + 1)) 0) < key x
      · refine .inl ⟨q, ?_⟩
        show B188_3 _ _ _ _ _ = _
        rw [e, decide_eq_true (hr2.2 q)]; rfl
      · refine .inr ⟨q, ?_⟩
        show B188_3 _ _ _ _ _ = _
        rw [e, decide_eq_false (fun h => q (hr2.1 h))]; rfl)
    (fun i => by
      show B188_3 _ _ _ _ _ = _
      unfold B188_3
      rw [decide_eq_false (by omega)]; rfl) (by omega)
  refine ⟨n - (P.length + 1), by omega, ?_, fun z hz => ?_, fun z hz => ?_⟩
  · unfold L188_3
    rw [h1]; congr 1; omega
  · obtain ⟨t, ht1, ht2, rfl⟩ := mem_take_getD hz
    have := h3 (t + (P.length + 1)) (by omega) (by omega)
    rwa [Nat.add_sub_cancel] at this
  · obtain ⟨t, ht1, ht2, rfl⟩ := mem_drop_getD hz
    have := h4 (t + (P.length + 1)) (by omega) (by omega)
    rw [Nat.add_sub_cancel] at this
    omega

theorem find15 (P A R : List Int) (y : Int) (hA : Srt key A) (hy : S y) (hS : ∀ z ∈ A, S z) (hm : (P ++ A ++ y :: R).length ≤ 140737488355328) :
    ∃ n : Nat, n ≤ A.length ∧ L188_15 c ((P.length + A.length : Nat) : Int) (P ++ A ++ y :: R) ((P.length : Nat), ((P.length + A.length : Nat) : Int)) = some ((P.length + n : Nat) : Int) ∧
      (∀ z ∈ A.take n, key z ≤ key y) ∧ ∀ z ∈ A.drop n, key y < key z := by
  have hl2 : (P ++ A ++ y :: R).length = P.length + A.length + R.length + 1 := by simp only [List.length_append, List.length_cons]; omega
  rw [hl2] at hm
  have hg : ∀ t, P.length ≤ t → t < P.length + A.length → (P ++ A ++ y :: R).getD t 0 = A.getD (t - P.length) 0 := fun t h1 h2 => by
    rw [List.append_assoc, getD_app, if_neg (by omega), getD_app, if_pos (by omega)]
  have hp : (P ++ A ++ y :: R).getD (P.length + A.length) 0 = y := by
    have := getD_mid y (P ++ A) R
    rwa [List.length_append] at this
  obtain ⟨n, h1, h2, h3, h4⟩ := halves (B := fun s => B188_15 c ((P.length + A.length : Nat) : Int) (P ++ A ++ y :: R) s.1 s.2) P.length (P.length + A.length) (fun t => ¬ key y < key (A.getD (t - P.length) 0))
    (fun s t h1 h2 h3 h4 => by have := hA.getD (show s - P.length ≤ t - P.length by omega) (by omega); omega)
    (fun i j h1 h2 h3 => by
      have hs : shrI .u64 (IntKind.wrap .u64 ((i : Int) + (j : Int))) 1 = (((i + j) / 2 : Nat) : Int) := by rw [shr1u (by omega) (by omega)]; omega
      obtain ⟨r, hr, hr2⟩ := hc y (A.getD ((i + j) / 2 - P.length) 0) hy (hS _ (getD_mem (by omega)))
      have e : B188_15 c ((P.length + A.length : Nat) : Int) (P ++ A ++ y :: R) (i : Int) (j : Int) = bif !decide (r < 0) then some (Sum.inl ((((i + j) / 2 + 1 : Nat) : Int), (j : Int))) else some (Sum.inl ((i : Int), (((i + j) / 2 : Nat) : Int))) := by
        unfold B188_15
        rw [decide_eq_true (show (i : Int) < (j : Int) by omega), cond_true, wr64 (x := (i : Int) + (j : Int)) (by omega) (by omega), hs, wr64 (x := (((i + j) / 2 : Nat) : Int)) (by omega) (by omega), hl2,
          asrt_eq (by omega), asrt_eq (by omega), asrt_eq (by omega), asrt_eq (by omega), Nat.zero_add, Nat.zero_add, Int.toNat_natCast, Int.toNat_natCast, hp, hg _ (by omega) (by omega), hr, Option.bind_some, wr64 (by omega) (by omega)]
        rfl
      by_cases q : key y < key (A.getD ((i + j) / 2 - P.length) 0)
      · refine .inr ⟨fun h => h q, ?_⟩
        show B188_15 _ _ _ _ _ = _
        rw [e, decide_eq_true (hr2.2 q)]; rfl
      · refine .inl ⟨q, ?_⟩
        show B188_15 _ _ _ _ _ = _
        rw [e, decide_eq_false (fun h => q (hr2.1 h))]; rfl)
    (fun i => by
      show B188_15 _ _ _ _ _ = _
      unfold B188_15
      rw [decide_eq_false (by omega)]; rfl) (by omega)
  refine ⟨n - P.length, by omega, ?_, fun z hz => ?_, fun z hz => ?_⟩
  · unfold L188_15
    rw [h1]; congr 1; omega
  · obtain ⟨t, ht1, ht2, rfl⟩ := mem_take_getD hz
    have := h3 (t + P.length) (by omega) (by omega)
    rw [Nat.add_sub_cancel] at this
    omega
  · obtain ⟨t, ht1, ht2, rfl⟩ := mem_drop_getD hz
    have := h4 (t + P.length) (by omega) (by omega)
    rw [Nat.add_sub_cancel] at this
    omega

end

section
variable {c : Int → Int → Option Int} {key : Int → Int} {S : Int → Prop} (hc : Cmp c key S)
include hc

/-- where the halves are cut -/
theorem find33 (P A B R : List Int) (hA : Srt key A) (hB : Srt key B) (hSA : ∀ z ∈ A, S z) (hSB : ∀ z ∈ B, S z) (h1 : 0 < A.length) (h2 : 0 < B.length) (hm : (P ++ A ++ B ++ R).length ≤ 140737488355328)
    (a m b mid : Nat) (ea : a = P.length) (em : m = a + A.length) (eb : b = m + B.length) (emid : mid = (a + b) / 2) (lo hi : Nat) (elo : lo = if mid < m then mid + m - b else a) (ehi : hi = if mid < m then mid else m) :
    ∃ s : Nat, L188_33 c (a : Int) (m : Int) (b : Int) (P ++ A ++ B ++ R) ((lo : Int), (hi : Int)) = some (s : Int) ∧ (a ≤ s ∧ s ≤ m) ∧ (s ≤ mid ∧ mid - s ≤ B.length) ∧
      (∀ x ∈ A.drop (s - a), ∀ y ∈ B.take (mid - s), key y < key x) ∧ ∀ x ∈ A.take (s - a), ∀ y ∈ B.drop (mid - s), key x ≤ key y := by
  have hl2 : (P ++ A ++ B ++ R).length = P.length + A.length + B.length + R.length := by simp only [List.length_append]
  rw [hl2] at hm
  have hgA : ∀ t, a ≤ t → t < m → (P ++ A ++ B ++ R).getD t 0 = A.getD (t - a) 0 := fun t h1 h2 => by
    rw [List.append_assoc, List.append_assoc, getD_app, if_neg (by omega), getD_app, if_pos (by omega), ea]
  have hgB : ∀ t, m ≤ t → t < b → (P ++ A ++ B ++ R).getD t 0 = B.getD (t - m) 0 := fun t h1 h2 => by
    rw [List.append_assoc, getD_app, List.length_append, if_neg (by omega), getD_app, if_pos (by omega)]
    congr 1; omega
  have hlo : a ≤ lo ∧ lo ≤ hi ∧ hi ≤ m ∧ hi ≤ mid ∧ mid + m ≤ lo + b ∧ (lo = a ∨ mid + m = lo + b) ∧ (hi = m ∨ hi = mid) := by
    rw [elo, ehi]
    split <;> omega
  have hmid : shrI .u64 (IntKind.wrap .u64 ((a : Int) + (b : Int))) 1 = (mid : Int) := by rw [shr1u (by omega) (by omega)]; omega
  obtain ⟨s, g1, g2, g3, g4⟩ := halves (B := fun s => B188_33 c (a : Int) (m : Int) (b : Int) (P ++ A ++ B ++ R) s.1 s.2) lo hi (fun t => ¬ key (B.getD (mid - 1 - t) 0) < key (A.getD (t - a) 0))
    (fun s t h1 h2 h3 h4 => by
      have := hA.getD (show s - a ≤ t - a by omega) (by omega)
      have := hB.getD (show mid - 1 - t ≤ mid - 1 - s by omega) (by omega)
      omega)
    (fun i j h1 h2 h3 => by
      have hs : shrI .u64 (IntKind.wrap .u64 ((i : Int) + (j : Int))) 1 = (((i + j) / 2 : Nat) : Int) := by rw [shr1u (by omega) (by omega)]; omega
      obtain ⟨r, hr, hr2⟩ := hc (B.getD (mid - 1 - (i + j) / 2) 0) (A.getD ((i + j) / 2 - a) 0) (hSB _ (getD_mem (by omega))) (hSA _ (getD_mem (by omega)))
      have e : B188_33 c (a : Int) (m : Int) (b : Int) (P ++ A ++ B ++ R) (i : Int) (j : Int) = bif !decide (r < 0) then some (Sum.inl ((((i + j) / 2 + 1 : Nat) : Int), (j : Int))) else some (Sum.inl ((i : Int), (((i + j) / 2 : Nat) : Int))) := by
        have hp : ((mid : Int) + (m : Int) - 1 - (((i + j) / 2 : Nat) : Int)).toNat = mid + m - 1 - (i + j) / 2 := by omega
        unfold B188_33
        rw [decide_eq_true (show (i : Int) < (j : Int) by omega), cond_true, wr64 (x := (i : Int) + (j : Int)) (by omega) (by omega), hs, wr64 (x := (((i + j) / 2 : Nat) : Int)) (by omega) (by omega), wr64 (x := (a : Int) + (b : Int)) (by omega) (by omega), hmid,
          wr64 (x := (mid : Int)) (by omega) (by omega), wr64 (x := (mid : Int) + (m : Int)) (by omega) (by omega), wr64 (x := (mid : Int) + (m : Int) - 1) (by omega) (by omega), wr64 (x := (mid : Int) + (m : Int) - 1 - (((i + j) / 2 : Nat) : Int)) (by omega) (by omega), hl2,
          asrt_eq (by omega), asrt_eq (by omega), asrt_eq (by omega), asrt_eq (by omega), Nat.zero_add, Nat.zero_add, Int.toNat_natCast, hp, hgA ((i + j) / 2) (by omega) (by omega), hgB (mid + m - 1 - (i + j) / 2) (by omega) (by omega), show mid + m - 1 - (i + j) / 2 - m = mid - 1 - (i + j) / 2 by omega, hr, Option.bind_some, wr64 (by omega) (by omega)]
        rfl
      by_cases q : key (B.getD (mid - 1 - (i + j) / 2) 0) < key (A.getD ((i + j) / 2 - a) 0)
      · refine .inr ⟨fun h => h q, ?_⟩
        show B188_33 _ _ _ _ _ _ _ = _
        rw [e, decide_eq_true (hr2.2 q)]; rfl
      · refine .inl ⟨q, ?_⟩
        show B188_33 _ _ _ _ _ _ _ = _
        rw [e, decide_eq_false (fun h => q (hr2.1 h))]; rfl)
    (fun i => by
      show B188_33 _ _ _ _ _ _ _ = _
      unfold B188_33
      rw [decide_eq_false (by omega)]; rfl) hlo.2.1
  refine ⟨s, g1, by omega, by omega, fun x hx y hy => ?_, fun x hx y hy => ?_⟩
  · obtain ⟨t, ht1, ht2, rfl⟩ := mem_drop_getD hx
    obtain ⟨u, hu1, hu2, rfl⟩ := mem_take_getD hy
    have h := g4 s (Nat.le_refl _) (by omega)
    have e1 := hA.getD (show s - a ≤ t by omega) ht2
    have e2 := hB.getD (show u ≤ mid - 1 - s by omega) (by omega)
    omega
  · obtain ⟨t, ht1, ht2, rfl⟩ := mem_take_getD hx
    obtain ⟨u, hu1, hu2, rfl⟩ := mem_drop_getD hy
    have h := g3 (s - 1) (by omega) (by omega)
    have e1 := hA.getD (show t ≤ s - 1 - a by omega) (by omega)
    have e2 := hB.getD (show mid - 1 - (s - 1) ≤ u by omega) hu2
    omega

theorem sym_ret : ∀ (N k : Nat) (P A B R : List Int), A.length + B.length ≤ N → N ≤ k → 0 < A.length → 0 < B.length → Srt key A → Srt key B → (∀ z ∈ A, S z) → (∀ z ∈ B, S z) → (P ++ A ++ B ++ R).length ≤ 140737488355328 →
    ∃ C, F188n c k (P.length : Nat) ((P.length + A.length : Nat) : Int) ((P.length + A.length + B.length : Nat) : Int) (P ++ A ++ B ++ R) = some ((), P ++ C ++ R) ∧ Srt key C ∧ Eqv key C (A ++ B)
  | 0, k, P, A, B, R, h, _, hA, _, _, _, _, _, _ => by omega
  | N + 1, 0, P, A, B, R, h, hk, _, _, _, _, _, _, _ => by omega
  | N + 1, k + 1, P, A, B, R, h, hk, hA0, hB0, hA, hB, hSA, hSB, hm => by
    have hl2 : (P ++ A ++ B ++ R).length = P.length + A.length + B.length + R.length := by simp only [List.length_append]
    have hm' := hm
    rw [hl2] at hm'
    show ∃ C, G188 c (F188n c k) _ _ _ _ = _ ∧ _
    by_cases c1 : A.length = 1
    · obtain ⟨x, rfl⟩ := List.length_eq_one_iff.1 c1
      have hd : P ++ [x] ++ B ++ R = P ++ x :: B ++ R := by simp
      obtain ⟨n, hn, e1, e2, e3⟩ := find3 hc P B R x hB (hSA x (by simp)) hSB (by rw [← hd]; exact hm)
      have hBB : B = B.take n ++ B.drop n := (List.take_append_drop _ _).symm
      have hn1 : (B.take n).length = n := by rw [List.length_take]; omega
      have hr := right_ret P (B.take n) (B.drop n ++ R) x (by
        have : P ++ x :: B.take n ++ (B.drop n ++ R) = P ++ [x] ++ B ++ R := by
          conv => rhs; rw [hBB]
          simp only [List.append_assoc, List.cons_append, List.nil_append]
        rw [this]; exact hm)
      have e4 : P ++ x :: B.take n ++ (B.drop n ++ R) = P ++ x :: B ++ R := by
        conv => rhs; rw [hBB]
        simp only [List.append_assoc, List.cons_append]
      rw [e4, hn1] at hr
      refine ⟨B.take n ++ x :: B.drop n, ?_, ?_, ?_⟩
      · rw [hd]
        unfold G188
        simp only [List.length_cons, List.length_nil] at e1 ⊢
        rw [decide_eq_true (show IntKind.wrap .i64 (((P.length + (0 + 1) : Nat) : Int) - ((P.length : Nat) : Int)) = 1 by rw [wr64 (by omega) (by omega)]; omega), cond_true]
        simp only [Nat.zero_add] at e1 ⊢
        rw [e1, Option.bind_some, show P.length + 1 + n = P.length + n + 1 by omega, hr, Option.bind_some]
        congr 2
        simp only [List.append_assoc, List.cons_append]
      · rw [hBB] at hB
        obtain ⟨b1, b2, b3⟩ := Srt.app.1 hB
        refine Srt.app.2 ⟨b1, List.pairwise_cons.2 ⟨e3, b2⟩, fun u hu v hv => ?_⟩
        rcases List.mem_cons.1 hv with rfl | hv
        · exact Int.le_of_lt (e2 u hu)
        · exact b3 u hu v hv
      · have h1 : Eqv key (B.take n ++ [x]) ([x] ++ B.take n) := Eqv.swap fun u hu v hv => by
          obtain rfl : v = x := by simpa using hv
          exact Int.ne_of_lt (e2 u hu)
        have h2 := h1.app (Eqv.refl (key := key) (B.drop n))
        conv => arg 3; rw [hBB]
        simpa only [List.append_assoc, List.cons_append, List.nil_append] using h2
    · by_cases c2 : B.length = 1
      · obtain ⟨y, rfl⟩ := List.length_eq_one_iff.1 c2
        have hd : P ++ A ++ [y] ++ R = P ++ A ++ y :: R := by simp
        obtain ⟨n, hn, e1, e2, e3⟩ := find15 hc P A R y hA (hSB y (by simp)) hSA (by rw [← hd]; exact hm)
        have hAA : A = A.take n ++ A.drop n := (List.take_append_drop _ _).symm
        have hn1 : (A.take n).length = n := by rw [List.length_take]; omega
        have hn2 : (A.drop n).length = A.length - n := by rw [List.length_drop]
        have hr := left_ret (P ++ A.take n) (A.drop n) R y (by
          have : P ++ A.take n ++ A.drop n ++ y :: R = P ++ A ++ [y] ++ R := by
            conv => rhs; rw [hAA]
            simp only [List.append_assoc, List.cons_append, List.nil_append]
          rw [this]; exact hm)
        have e4 : P ++ A.take n ++ A.drop n ++ y :: R = P ++ A ++ y :: R := by
          conv => rhs; rw [hAA]
          simp only [List.append_assoc]
        rw [e4, List.length_append, hn1, hn2, show P.length + n + (A.length - n) = P.length + A.length by omega] at hr
        refine ⟨A.take n ++ y :: A.drop n, ?_, ?_, ?_⟩
        · rw [hd]
          unfold G188
          simp only [List.length_cons, List.length_nil] at e1 ⊢
          rw [decide_eq_false (show ¬ IntKind.wrap .i64 (((P.length + A.length : Nat) : Int) - ((P.length : Nat) : Int)) = 1 by rw [wr64 (by omega) (by omega)]; omega), cond_false,
            decide_eq_true (show IntKind.wrap .i64 (((P.length + A.length + (0 + 1) : Nat) : Int) - ((P.length + A.length : Nat) : Int)) = 1 by rw [wr64 (by omega) (by omega)]; omega), cond_true]
          rw [e1, Option.bind_some, hr, Option.bind_some]
          congr 2
          simp only [List.append_assoc, List.cons_append]
        · rw [hAA] at hA
          obtain ⟨b1, b2, b3⟩ := Srt.app.1 hA
          refine Srt.app.2 ⟨b1, List.pairwise_cons.2 ⟨fun z hz => Int.le_of_lt (e3 z hz), b2⟩, fun u hu v hv => ?_⟩
          rcases List.mem_cons.1 hv with rfl | hv
          · exact e2 u hu
          · exact b3 u hu v hv
        · have h1 : Eqv key ([y] ++ A.drop n) (A.drop n ++ [y]) := Eqv.swap fun u hu v hv => by
            obtain rfl : u = y := by simpa using hu
            exact Int.ne_of_lt (e3 v hv)
          have h2 := (Eqv.refl (key := key) (A.take n)).app h1
          conv => arg 3; rw [hAA]
          simpa only [List.append_assoc, List.cons_append, List.nil_append] using h2
      · -- both have several
        generalize ea : P.length = a at *
        generalize em : a + A.length = m at *
        generalize eb : m + B.length = b at *
        obtain ⟨mid, emid⟩ : ∃ mid, mid = (a + b) / 2 := ⟨_, rfl⟩
        obtain ⟨lo, elo⟩ : ∃ lo, lo = if mid < m then mid + m - b else a := ⟨_, rfl⟩
        obtain ⟨hi, ehi⟩ : ∃ hi, hi = if mid < m then mid else m := ⟨_, rfl⟩
        obtain ⟨s, hs, hs1, hs2, hs3, hs4⟩ := find33 hc P A B R hA hB hSA hSB hA0 hB0 (by rw [hl2]; omega) a m b mid ea.symm em.symm eb.symm emid lo hi elo ehi
        have hAA : A = A.take (s - a) ++ A.drop (s - a) := (List.take_append_drop _ _).symm
        have hBB : B = B.take (mid - s) ++ B.drop (mid - s) := (List.take_append_drop _ _).symm
        have a1 : (A.take (s - a)).length = s - a := by rw [List.length_take]; omega
        have a2 : (A.drop (s - a)).length = m - s := by rw [List.length_drop]; omega
        have b1 : (B.take (mid - s)).length = mid - s := by rw [List.length_take]; omega
        have b2 : (B.drop (mid - s)).length = b - m - (mid - s) := by rw [List.length_drop]; omega
        have srtA := hA
        rw [hAA] at srtA
        have srtB := hB
        rw [hBB] at srtB
        obtain ⟨sA1, sA2, sA12⟩ := Srt.app.1 srtA
        obtain ⟨sB1, sB2, sB12⟩ := Srt.app.1 srtB
        have memA1 : ∀ z ∈ A.take (s - a), z ∈ A := fun z hz => List.mem_of_mem_take hz
        have memA2 : ∀ z ∈ A.drop (s - a), z ∈ A := fun z hz => List.mem_of_mem_drop hz
        have memB1 : ∀ z ∈ B.take (mid - s), z ∈ B := fun z hz => List.mem_of_mem_take hz
        have memB2 : ∀ z ∈ B.drop (mid - s), z ∈ B := fun z hz => List.mem_of_mem_drop hz
        have hdata : P ++ A ++ B ++ R = P ++ A.take (s - a) ++ A.drop (s - a) ++ B.take (mid - s) ++ (B.drop (mid - s) ++ R) := by
          conv => lhs; rw [hAA, hBB]
          simp only [List.append_assoc]
        generalize A.take (s - a) = A1 at *
        generalize A.drop (s - a) = A2 at *
        generalize B.take (mid - s) = B1 at *
        generalize B.drop (mid - s) = B2 at *
        have hmid : shrI .u64 (IntKind.wrap .u64 ((a : Int) + (b : Int))) 1 = (mid : Int) := by rw [shr1u (by omega) (by omega)]; omega
        have hlo : (bif decide ((mid : Int) < (m : Int)) then Option.some ((mid : Int) + (m : Int) - (b : Int), (mid : Int)) else Option.some ((a : Int), (m : Int))) = some ((lo : Int), (hi : Int)) := by
          by_cases c : mid < m
          · rw [decide_eq_true (by omega), cond_true, elo, ehi, if_pos c, if_pos c]
            congr 2; omega
          · rw [decide_eq_false (by omega), cond_false, elo, ehi, if_neg c, if_neg c]
        -- turned
        have hrot : (bif decide ((s : Int) < (m : Int)) then bif decide ((m : Int) < (mid : Int) + (m : Int) - (s : Int)) then Option.bind (F215 c (s : Int) (m : Int) ((mid : Int) + (m : Int) - (s : Int)) (P ++ A ++ B ++ R)) fun (r_4 : Unit × List Int) ↦ asrt (List.length (Prod.snd r_4) = List.length (P ++ A ++ B ++ R)) (Option.some (Prod.snd r_4)) else Option.some (P ++ A ++ B ++ R) else Option.some (P ++ A ++ B ++ R)) = some (P ++ A1 ++ B1 ++ A2 ++ (B2 ++ R)) := by
          by_cases d1 : s < m
          · rw [decide_eq_true (by omega), cond_true]
            by_cases d2 : s < mid
            · rw [decide_eq_true (by omega), cond_true]
              have hr := rot_ret c (P ++ A1) A2 B1 (B2 ++ R) (by omega) (by omega) (by simp only [List.length_append]; omega)
              rw [List.length_append, ea, a1, a2, b1, show a + (s - a) = s by omega, show s + (m - s) = m by omega] at hr
              rw [show (mid : Int) + (m : Int) - (s : Int) = ((m + (mid - s) : Nat) : Int) by omega, hdata, hr, Option.bind_some, asrt_eq (by simp only [List.length_append]; omega)]
            · rw [decide_eq_false (by omega), cond_false, hdata]
              obtain rfl : B1 = [] := List.length_eq_zero_iff.1 (by omega)
              simp
          · rw [decide_eq_false (by omega), cond_false, hdata]
            obtain rfl : A2 = [] := List.length_eq_zero_iff.1 (by omega)
            simp
        -- the left half
        obtain ⟨C1, hC1, sC1, eC1⟩ : ∃ C1, (bif decide ((a : Int) < (s : Int)) then bif decide ((s : Int) < (mid : Int)) then Option.bind (F188n c k (a : Int) (s : Int) (mid : Int) (P ++ A1 ++ B1 ++ A2 ++ (B2 ++ R))) fun (r_5 : Unit × List Int) ↦ asrt (List.length (Prod.snd r_5) = List.length (P ++ A1 ++ B1 ++ A2 ++ (B2 ++ R))) (Option.some (Prod.snd r_5)) else Option.some (P ++ A1 ++ B1 ++ A2 ++ (B2 ++ R)) else Option.some (P ++ A1 ++ B1 ++ A2 ++ (B2 ++ R))) = some (P ++ C1 ++ A2 ++ (B2 ++ R)) ∧ Srt key C1 ∧ Eqv key C1 (A1 ++ B1) := by
          by_cases d1 : a < s
          · rw [decide_eq_true (by omega), cond_true]
            by_cases d2 : s < mid
            · rw [decide_eq_true (by omega), cond_true]
              obtain ⟨C, h1, h2, h3⟩ := sym_ret N k P A1 B1 (A2 ++ (B2 ++ R)) (by omega) (by omega) (by omega) (by omega) sA1 sB1 (fun z hz => hSA z (memA1 z hz)) (fun z hz => hSB z (memB1 z hz)) (by simp only [List.length_append]; omega)
              have hlen := h3.len
              rw [List.length_append] at hlen
              rw [ea, a1, b1, show a + (s - a) = s by omega, show s + (mid - s) = mid by omega] at h1
              refine ⟨C, ?_, h2, h3⟩
              rw [List.append_assoc _ A2, h1, Option.bind_some, asrt_eq (by simp only [List.length_append]; omega)]
              simp only [List.append_assoc]
            · rw [decide_eq_false (by omega), cond_false]
              obtain rfl : B1 = [] := List.length_eq_zero_iff.1 (by omega)
              exact ⟨A1, by simp, sA1, by simpa using Eqv.refl A1⟩
          · rw [decide_eq_false (by omega), cond_false]
            obtain rfl : A1 = [] := List.length_eq_zero_iff.1 (by omega)
            exact ⟨B1, by simp, sB1, by simpa using Eqv.refl B1⟩
        have lC1 := eC1.len
        rw [List.length_append] at lC1
        -- the right half
        obtain ⟨C2, hC2, sC2, eC2⟩ : ∃ C2, (bif decide ((mid : Int) < (mid : Int) + (m : Int) - (s : Int)) then bif decide ((mid : Int) + (m : Int) - (s : Int) < (b : Int)) then Option.bind (F188n c k (mid : Int) ((mid : Int) + (m : Int) - (s : Int)) (b : Int) (P ++ C1 ++ A2 ++ (B2 ++ R))) fun (r_6 : Unit × List Int) ↦ asrt (List.length (Prod.snd r_6) = List.length (P ++ C1 ++ A2 ++ (B2 ++ R))) (Option.some ((), Prod.snd r_6)) else Option.some ((), (P ++ C1 ++ A2 ++ (B2 ++ R))) else Option.some ((), (P ++ C1 ++ A2 ++ (B2 ++ R)))) = some ((), P ++ (C1 ++ C2) ++ R) ∧ Srt key C2 ∧ Eqv key C2 (A2 ++ B2) := by
          by_cases d1 : s < m
          · rw [decide_eq_true (by omega), cond_true]
            by_cases d2 : mid + m - s < b
            · rw [decide_eq_true (by omega), cond_true]
              obtain ⟨C, h1, h2, h3⟩ := sym_ret N k (P ++ C1) A2 B2 R (by omega) (by omega) (by omega) (by omega) sA2 sB2 (fun z hz => hSA z (memA2 z hz)) (fun z hz => hSB z (memB2 z hz)) (by simp only [List.length_append]; omega)
              have hlen := h3.len
              rw [List.length_append] at hlen
              rw [List.length_append, ea, lC1, a1, a2, b1, b2, show a + (s - a + (mid - s)) = mid by omega, show mid + (m - s) + (b - m - (mid - s)) = b by omega] at h1
              refine ⟨C, ?_, h2, h3⟩
              rw [show (mid : Int) + (m : Int) - (s : Int) = ((mid + (m - s) : Nat) : Int) by omega, ← List.append_assoc _ B2, h1, Option.bind_some, asrt_eq (by simp only [List.length_append]; omega)]
              simp only [List.append_assoc]
            · rw [decide_eq_false (by omega), cond_false]
              obtain rfl : B2 = [] := List.length_eq_zero_iff.1 (by omega)
              exact ⟨A2, by simp, sA2, by simpa using Eqv.refl A2⟩
          · rw [decide_eq_false (by omega), cond_false]
            obtain rfl : A2 = [] := List.length_eq_zero_iff.1 (by omega)
            exact ⟨B2, by simp, sB2, by simpa using Eqv.refl B2⟩
        refine ⟨C1 ++ C2, ?_, ?_, ?_⟩
        · unfold G188
          rw [decide_eq_false (show ¬ IntKind.wrap .i64 ((m : Int) - (a : Int)) = 1 by rw [wr64 (by omega) (by omega)]; omega), cond_false,
            decide_eq_false (show ¬ IntKind.wrap .i64 ((b : Int) - (m : Int)) = 1 by rw [wr64 (by omega) (by omega)]; omega), cond_false]
          rw [wr64 (x := (a : Int) + (b : Int)) (by omega) (by omega), hmid, wr64 (x := (mid : Int)) (by omega) (by omega), wr64 (x := (mid : Int) + (m : Int)) (by omega) (by omega), wr64 (x := (mid : Int) + (m : Int) - (b : Int)) (by omega) (by omega), hlo, Option.bind_some, hs, Option.bind_some,
            wr64 (x := (mid : Int) + (m : Int) - (s : Int)) (by omega) (by omega), hrot, Option.bind_some, hC1, Option.bind_some, hC2]
        · refine Srt.app.2 ⟨sC1, sC2, fun x hx y hy => ?_⟩
          rw [eC1.mem, List.mem_append] at hx
          rw [eC2.mem, List.mem_append] at hy
          rcases hx with hx | hx <;> rcases hy with hy | hy
          · exact sA12 x hx y hy
          · exact hs4 x hx y hy
          · exact Int.le_of_lt (hs3 y hy x hx)
          · exact sB12 x hx y hy
        · have e1 : Eqv key (B1 ++ A2) (A2 ++ B1) := Eqv.swap fun u hu v hv => Int.ne_of_lt (hs3 v hv u hu)
          have e2 := (Eqv.refl (key := key) A1).app (e1.app (Eqv.refl (key := key) B2))
          refine (eC1.app eC2).trans ?_
          rw [hAA, hBB]
          simpa only [List.append_assoc] using e2

end

section
variable {c : Int → Int → Option Int} {key : Int → Int} {S : Int → Prop} (hc : Cmp c key S)
include hc

/-- one element into what is in order -/
theorem ins_ret (P A R : List Int) (y : Int) (hA : Srt key A) (hy : S y) (hS : ∀ z ∈ A, S z) (hm : (P ++ A ++ y :: R).length ≤ 140737488355328) :
    ∃ C, L187_4 c (P.length : Nat) (((P.length + A.length : Nat) : Int), P ++ A ++ y :: R) = some (P ++ C ++ R) ∧ Srt key C ∧ Eqv key C (A ++ [y]) := by
  simp only [List.length_append, List.length_cons] at hm
  have key2 : Ret (L187_4 c (P.length : Nat) (((P.length + A.length : Nat) : Int), P ++ A ++ y :: R)) fun o => ∃ C, o = P ++ C ++ R ∧ Srt key C ∧ Eqv key C (A ++ [y]) := by
    unfold L187_4
    refine Ret.while (fun s => ∃ A1 A2, A = A1 ++ A2 ∧ s.1 = ((P.length + A1.length : Nat) : Int) ∧ s.2 = (P ++ A1) ++ y :: (A2 ++ R) ∧ ∀ z ∈ A2, key y < key z) (fun s => s.1.toNat) ⟨A, [], by simp, rfl, by simp, by simp⟩ ?_
    rintro ⟨j, l⟩ ⟨A1, A2, hAA, h1, h2, h3⟩
    simp only at h1 h2
    subst h1 h2
    have hlA : A.length = A1.length + A2.length := by rw [hAA, List.length_append]
    have hl2 : ((P ++ A1) ++ y :: (A2 ++ R)).length = P.length + A.length + R.length + 1 := by simp only [List.length_append, List.length_cons]; omega
    have hAs := hA
    rw [hAA] at hAs
    obtain ⟨sA1, sA2, sA12⟩ := Srt.app.1 hAs
    -- the end
    have fin : ∀ o, o = (P ++ A1) ++ y :: (A2 ++ R) → (∀ z ∈ A1, key z ≤ key y) → ∃ C, o = P ++ C ++ R ∧ Srt key C ∧ Eqv key C (A ++ [y]) := fun o ho hz => by
      refine ⟨A1 ++ y :: A2, by rw [ho]; simp only [List.append_assoc, List.cons_append], ?_, ?_⟩
      · refine Srt.app.2 ⟨sA1, List.pairwise_cons.2 ⟨fun z hz => Int.le_of_lt (h3 z hz), sA2⟩, fun u hu v hv => ?_⟩
        rcases List.mem_cons.1 hv with rfl | hv
        · exact hz u hu
        · exact sA12 u hu v hv
      · have e1 : Eqv key ([y] ++ A2) (A2 ++ [y]) := Eqv.swap fun u hu v hv => by
          obtain rfl : u = y := by simpa using hu
          exact Int.ne_of_lt (h3 v hv)
        have e2 := (Eqv.refl (key := key) A1).app e1
        rw [hAA]
        simpa only [List.append_assoc, List.cons_append, List.nil_append] using e2
    rcases List.eq_nil_or_concat A1 with rfl | ⟨A0, x, hx⟩
    · unfold B187_4
      simp (disch := omega) only [Ret_some, Ret_none, Ret_bind, Ret_asrt, Ret_cond, Sum.elim_inl, Sum.elim_inr, decide_eq_true_eq, decide_eq_false_iff_not, Bool.not_eq_true', Bool.not_not, Bool.and_eq_true, Bool.or_eq_true, Bool.true_eq_false, Bool.false_eq_true, Bool.not_true, Bool.not_false, if_true, if_false, ite_true, ite_false, true_and, and_true, false_and, and_false, Int.toNat_natCast, toN_succ, Int.ofNat_eq_natCast, Int.ofNat_toNat, Nat.zero_add, Nat.add_zero, not_true_eq_false, not_false_eq_true, implies_true, wr64]
      rw [if_neg (by simp)]
      exact fin _ rfl (by simp)
    · rw [List.concat_eq_append] at hx
      subst hx
      have hxS : S x := hS x (by rw [hAA]; simp)
      obtain ⟨r, hr, hr2⟩ := hc y x hy hxS
      have e0 : (P ++ (A0 ++ [x])) ++ y :: (A2 ++ R) = (P ++ A0) ++ x :: y :: (A2 ++ R) := by simp only [List.append_assoc, List.cons_append, List.nil_append]
      have el : P.length + (A0 ++ [x]).length = (P ++ A0).length + 1 := by simp only [List.length_append, List.length_cons, List.length_nil]; omega
      have el0 : (P ++ A0).length = P.length + A0.length := List.length_append
      have hA0 : (A0 ++ [x]).length = A0.length + 1 := by simp
      rw [e0] at hl2 fin ⊢
      rw [el]
      unfold B187_4
      rw [hl2]
      simp (disch := omega) only [Ret_some, Ret_none, Ret_bind, Ret_asrt, Ret_cond, Sum.elim_inl, Sum.elim_inr, decide_eq_true_eq, decide_eq_false_iff_not, Bool.not_eq_true', Bool.not_not, Bool.and_eq_true, Bool.or_eq_true, Bool.true_eq_false, Bool.false_eq_true, Bool.not_true, Bool.not_false, if_true, if_false, ite_true, ite_false, true_and, and_true, false_and, and_false, Int.toNat_natCast, toN_succ, Int.ofNat_eq_natCast, Int.ofNat_toNat, Nat.zero_add, Nat.add_zero, not_true_eq_false, not_false_eq_true, implies_true, wr64]
      rw [if_pos (by omega)]
      refine ⟨by omega, by omega, by omega, by omega, ?_⟩
      rw [show ((((P ++ A0).length + 1 : Nat) : Int) - 1).toNat = (P ++ A0).length by omega, getD_mid, getD_mid1, Ret_eq hr, set2', show (((P ++ A0).length + 1 : Nat) : Int) - 1 = ((P ++ A0).length : Int) by omega]
      split
      · rename_i hneg
        refine ⟨⟨A0, x :: A2, by rw [hAA]; simp, by omega, by simp only [List.cons_append], fun z hz => ?_⟩, by omega⟩
        rcases List.mem_cons.1 hz with rfl | hz
        · exact hr2.1 hneg
        · exact h3 z hz
      · rename_i hneg
        refine fin _ rfl fun z hz => ?_
        have hxy : key x ≤ key y := by
          have := mt hr2.2 hneg
          omega
        rcases List.mem_append.1 hz with hz | hz
        · have := (Srt.app.1 sA1).2.2 z hz x (by simp)
          omega
        · obtain rfl : z = x := by simpa using hz
          exact hxy
  obtain ⟨o, ho, C, rfl, h⟩ := key2
  exact ⟨C, ho, h⟩

theorem insertion_ret (P A R : List Int) (hS : ∀ z ∈ A, S z) (hm : (P ++ A ++ R).length ≤ 140737488355328) :
    ∃ C, F187 c (P.length : Nat) ((P.length + A.length : Nat) : Int) (P ++ A ++ R) = some ((), P ++ C ++ R) ∧ Srt key C ∧ Eqv key C A := by
  simp only [List.length_append] at hm
  have key2 : Ret (L187_1 c (P.length : Nat) ((P.length + A.length : Nat) : Int) (((P.length : Nat) : Int) + 1, P ++ A ++ R)) fun o => ∃ C, o = P ++ C ++ R ∧ Srt key C ∧ Eqv key C A := by
    rcases A with _ | ⟨x, A⟩
    · unfold L187_1
      rw [Ret, loopW_eq]
      unfold B187_1
      rw [decide_eq_false (by simp only [List.length_nil]; omega)]
      exact ⟨_, rfl, [], by simp, List.Pairwise.nil, Eqv.refl _⟩
    · simp only [List.length_cons] at hm ⊢
      unfold L187_1
      refine Ret.loop A.length (fun t s => s.1 = ((P.length + (t + 1) : Nat) : Int) ∧ ∃ C, s.2 = P ++ C ++ (A.drop t ++ R) ∧ C.length = t + 1 ∧ Srt key C ∧ Eqv key C (x :: A.take t)) ?_ ?_ ?_
      · exact ⟨by simp only; omega, [x], by simp, rfl, List.pairwise_singleton _ _, by simpa using Eqv.refl [x]⟩
      · rintro t ⟨i, l⟩ ht ⟨h1, C, h2, h3, h4, h5⟩
        simp only at h1 h2
        subst h1 h2
        have hd : A.drop t = A.getD t 0 :: A.drop (t + 1) := by
          rw [List.getD_eq_getElem?_getD, List.getElem?_eq_getElem ht]
          exact List.drop_eq_getElem_cons ht
        have hAt : A.getD t 0 ∈ A := getD_mem ht
        obtain ⟨C', g1, g2, g3⟩ := ins_ret hc P C (A.drop (t + 1) ++ R) (A.getD t 0) h4 (hS _ (List.mem_cons_of_mem _ hAt)) (fun z hz => by
          rw [h5.mem] at hz
          refine hS z ?_
          rcases List.mem_cons.1 hz with rfl | hz
          · simp
          · exact List.mem_cons_of_mem _ (List.mem_of_mem_take hz)) (by simp only [List.length_append, List.length_cons, List.length_drop]; omega)
        unfold B187_1
        rw [hd, List.cons_append]
        rw [h3] at g1
        simp (disch := omega) only [Ret_some, Ret_none, Ret_bind, Ret_asrt, Ret_cond, Sum.elim_inl, Sum.elim_inr, decide_eq_true_eq, decide_eq_false_iff_not, Bool.not_eq_true', Bool.not_not, Bool.and_eq_true, Bool.or_eq_true, Bool.true_eq_false, Bool.false_eq_true, Bool.not_true, Bool.not_false, if_true, if_false, ite_true, ite_false, true_and, and_true, false_and, and_false, Int.toNat_natCast, toN_succ, Int.ofNat_eq_natCast, Int.ofNat_toNat, Nat.zero_add, Nat.add_zero, not_true_eq_false, not_false_eq_true, implies_true, wr64, g1]
        rw [if_pos (by omega)]
        refine ⟨by omega, C', rfl, by rw [g3.len, List.length_append, h3]; rfl, g2, g3.trans ?_⟩
        rw [take_succ' 0 ht, ← List.cons_append]
        exact h5.app (Eqv.refl _)
      · rintro ⟨i, l⟩ ⟨h1, C, h2, h3, h4, h5⟩
        simp only at h1 h2
        subst h1 h2
        unfold B187_1
        simp (disch := omega) only [Ret_some, Ret_none, Ret_bind, Ret_asrt, Ret_cond, Sum.elim_inl, Sum.elim_inr, decide_eq_true_eq, decide_eq_false_iff_not, Bool.not_eq_true', Bool.not_not, Bool.and_eq_true, Bool.or_eq_true, Bool.true_eq_false, Bool.false_eq_true, Bool.not_true, Bool.not_false, if_true, if_false, ite_true, ite_false, true_and, and_true, false_and, and_false, Int.toNat_natCast, toN_succ, Int.ofNat_eq_natCast, Int.ofNat_toNat, Nat.zero_add, Nat.add_zero, not_true_eq_false, not_false_eq_true, implies_true, wr64]
        rw [if_neg (by omega)]
        rw [List.take_length] at h5
        exact ⟨C, by simp, h4, h5⟩
  obtain ⟨o, ho, C, rfl, h⟩ := key2
  refine ⟨C, ?_, h⟩
  unfold F187
  rw [wr64 (by omega) (by omega), ho]
  rfl

end

/-- in order between two places -/
def SOn (key : Int → Int) (l : List Int) (lo hi : Nat) : Prop := ∀ i j, lo ≤ i → i ≤ j → j < hi → key (l.getD i 0) ≤ key (l.getD j 0)

/-- blocks of n are in order, up to a place -/
def Bks (key : Int → Int) (n : Nat) (l : List Int) (hi : Nat) : Prop := ∀ q, SOn key l (q * n) (min ((q + 1) * n) hi)

section
variable {c : Int → Int → Option Int} {key : Int → Int} {S : Int → Prop}

theorem parts {l : List Int} {a b : Nat} (h1 : a ≤ b) (h2 : b ≤ l.length) : ∃ P A R, l = P ++ A ++ R ∧ P.length = a ∧ A.length = b - a := by
  refine ⟨l.take a, (l.drop a).take (b - a), l.drop b, ?_, by rw [List.length_take]; omega, by rw [List.length_take, List.length_drop]; omega⟩
  have e : l.drop b = (l.drop a).drop (b - a) := by rw [List.drop_drop, show a + (b - a) = b by omega]
  rw [e, List.append_assoc, List.take_append_drop, List.take_append_drop]

theorem getD_in {P A R : List Int} {i : Nat} (h1 : P.length ≤ i) (h2 : i < P.length + A.length) : (P ++ A ++ R).getD i 0 = A.getD (i - P.length) 0 := by
  rw [List.append_assoc, getD_app, if_neg (by omega), getD_app, if_pos (by omega)]

theorem getD_out {P A C R : List Int} {i : Nat} (hl : C.length = A.length) (h : i < P.length ∨ P.length + A.length ≤ i) : (P ++ C ++ R).getD i 0 = (P ++ A ++ R).getD i 0 := by
  simp only [List.append_assoc, getD_app, hl]
  rcases h with h | h
  · rw [if_pos h, if_pos h]
  · rw [if_neg (by omega), if_neg (by omega), if_neg (by omega), if_neg (by omega)]

theorem SOn.of {P A R : List Int} (h : Srt key A) : SOn key (P ++ A ++ R) P.length (P.length + A.length) := fun i j h1 h2 h3 => by
  rw [getD_in h1 (by omega), getD_in (by omega) h3]
  exact h.getD (by omega) (by omega)

theorem SOn.srt {P A R : List Int} (h : SOn key (P ++ A ++ R) P.length (P.length + A.length)) : Srt key A := Srt.of fun s t hst ht => by
  have := h (P.length + s) (P.length + t) (by omega) (by omega) (by omega)
  rwa [getD_in (by omega) (by omega), getD_in (by omega) (by omega), Nat.add_sub_cancel_left, Nat.add_sub_cancel_left] at this

theorem SOn.cong {l l' : List Int} {lo hi : Nat} (h : SOn key l lo hi) (e : ∀ i, lo ≤ i → i < hi → l'.getD i 0 = l.getD i 0) : SOn key l' lo hi := fun i j h1 h2 h3 => by
  rw [e i h1 (by omega), e j (by omega) h3]
  exact h i j h1 h2 h3

end

/-- there is one such list -/
theorem Srt.uniq {key : Int → Int} : ∀ {l m : List Int}, Srt key l → Srt key m → Eqv key l m → l = m
  | [], m, _, _, h => (List.length_eq_zero_iff.1 h.len.symm).symm
  | x :: l, [], _, _, h => by have := h.len; simp at this
  | x :: l, y :: m, hl, hm, h => by
    obtain ⟨hx, hl'⟩ := List.pairwise_cons.1 hl
    obtain ⟨hy, hm'⟩ := List.pairwise_cons.1 hm
    have k1 : key x ≤ key y := by
      have : y ∈ x :: l := h.mem.2 (by simp)
      rcases List.mem_cons.1 this with rfl | h'
      · exact Int.le_refl _
      · exact hx y h'
    have k2 : key y ≤ key x := by
      have : x ∈ y :: m := h.mem.1 (by simp)
      rcases List.mem_cons.1 this with rfl | h'
      · exact Int.le_refl _
      · exact hy x h'
    have k3 : key x = key y := by omega
    have h1 := h (key x)
    simp only [List.filter_cons, decide_true, k3, if_true] at h1
    obtain ⟨rfl, h1⟩ := List.cons.inj h1
    congr 1
    refine Srt.uniq hl' hm' fun v => ?_
    have h2 := h v
    simp only [List.filter_cons] at h2
    split at h2
    · exact (List.cons.inj h2).2
    · exact h2

section
variable {c : Int → Int → Option Int} {key : Int → Int} {S : Int → Prop} (hc : Cmp c key S)
include hc

theorem merge_ret (P A B R : List Int) (hA0 : 0 < A.length) (hB0 : 0 < B.length) (hA : Srt key A) (hB : Srt key B) (hSA : ∀ z ∈ A, S z) (hSB : ∀ z ∈ B, S z) (hm : (P ++ A ++ B ++ R).length ≤ 140737488355328) :
    ∃ C, F188 c (P.length : Nat) ((P.length + A.length : Nat) : Int) ((P.length + A.length + B.length : Nat) : Int) (P ++ A ++ B ++ R) = some ((), P ++ C ++ R) ∧ Srt key C ∧ Eqv key C (A ++ B) := by
  have h := fun k hk => sym_ret hc (A.length + B.length) k P A B R (Nat.le_refl _) hk hA0 hB0 hA hB hSA hSB hm
  obtain ⟨C, h1, h2, h3⟩ := h _ (Nat.le_refl _)
  refine ⟨C, ?_, h2, h3⟩
  unfold F188
  refine evF_of (A.length + B.length) fun k hk => ?_
  obtain ⟨C', g1, g2, g3⟩ := h k hk
  rw [g1, Srt.uniq g2 h2 (g3.trans h3.symm)]

theorem insert_seg {l : List Int} {a b : Nat} (hS : ∀ z ∈ l, S z) (h1 : a ≤ b) (h2 : b ≤ l.length) (hm : l.length ≤ 140737488355328) :
    ∃ l', F187 c (a : Nat) (b : Nat) l = some ((), l') ∧ l'.length = l.length ∧ Eqv key l' l ∧ SOn key l' a b ∧ ∀ i, i < a ∨ b ≤ i → l'.getD i 0 = l.getD i 0 := by
  obtain ⟨P, A, R, rfl, hP, hA⟩ := parts h1 h2
  obtain ⟨C, g1, g2, g3⟩ := insertion_ret hc P A R (fun z hz => hS z (by simp [hz])) hm
  rw [hP, show a + A.length = b by omega] at g1
  have hl := g3.len
  refine ⟨P ++ C ++ R, g1, by simp only [List.length_append, hl], ((Eqv.refl P).app g3).app (Eqv.refl R), ?_, fun i hi => getD_out hl (by omega)⟩
  have := SOn.of (P := P) (R := R) g2
  rwa [hP, hl, show a + A.length = b by omega] at this

theorem merge_seg {l : List Int} {a m b : Nat} (hS : ∀ z ∈ l, S z) (h1 : a < m) (h1' : m < b) (h2 : b ≤ l.length) (hm : l.length ≤ 140737488355328) (sA : SOn key l a m) (sB : SOn key l m b) :
    ∃ l', F188 c (a : Nat) (m : Nat) (b : Nat) l = some ((), l') ∧ l'.length = l.length ∧ Eqv key l' l ∧ SOn key l' a b ∧ ∀ i, i < a ∨ b ≤ i → l'.getD i 0 = l.getD i 0 := by
  obtain ⟨P, A, R, hl0, hP, hA⟩ := parts (l := l) (Nat.le_of_lt h1) (by omega)
  obtain ⟨Q, B, R', hR, hQ, hB⟩ := parts (l := R) (a := 0) (b := b - m) (by omega) (by
    have := congrArg List.length hl0
    simp only [List.length_append] at this
    omega)
  obtain rfl : Q = [] := List.length_eq_zero_iff.1 hQ
  rw [List.nil_append] at hR
  have hl : l = P ++ A ++ B ++ R' := by rw [hl0, hR]; simp only [List.append_assoc]
  subst hl
  have tA : Srt key A := by
    refine SOn.srt (P := P) (R := B ++ R') ?_
    rw [hP, show a + A.length = m by omega, ← List.append_assoc]
    exact sA
  have tB : Srt key B := by
    refine SOn.srt (P := P ++ A) (R := R') ?_
    rw [List.length_append, hP, show a + A.length = m by omega, show m + B.length = b by omega]
    exact sB
  obtain ⟨C, g1, g2, g3⟩ := merge_ret hc P A B R' (by omega) (by omega) tA tB (fun z hz => hS z (by simp [hz])) (fun z hz => hS z (by simp [hz])) hm
  rw [hP, show a + A.length = m by omega, show m + B.length = b by omega] at g1
  have hlen := g3.len
  rw [List.length_append] at hlen
  refine ⟨P ++ C ++ R', g1, by simp only [List.length_append, hlen]; omega, ?_, ?_, fun i hi => ?_⟩
  · have := ((Eqv.refl (key := key) P).app g3).app (Eqv.refl R')
    simpa only [List.append_assoc] using this
  · have := SOn.of (P := P) (R := R') g2
    rwa [hP, hlen, show a + (A.length + B.length) = b by omega] at this
  · have := getD_out (P := P) (A := A ++ B) (C := C) (R := R') (i := i) (by rw [List.length_append]; omega) (by rw [List.length_append]; omega)
    rw [this]
    simp only [List.append_assoc]

theorem blocks_ret (m0 : List Int) (hS : ∀ z ∈ m0, S z) (hm : m0.length ≤ 140737488355328) :
    Ret (L160_2 c (m0.length : Nat) (0, 20, m0)) fun o => ∃ a : Nat, o.1 = (a : Int) ∧ a ≤ m0.length ∧ m0.length < a + 20 ∧ o.2.length = m0.length ∧ Eqv key o.2 m0 ∧ ∃ q, a = q * 20 ∧ ∀ q', q' < q → SOn key o.2 (q' * 20) ((q' + 1) * 20) := by
  unfold L160_2
  refine Ret.while (fun s => ∃ a q : Nat, s.1 = (a : Int) ∧ s.2.1 = ((a + 20 : Nat) : Int) ∧ a ≤ m0.length ∧ s.2.2.length = m0.length ∧ Eqv key s.2.2 m0 ∧ a = q * 20 ∧ ∀ q', q' < q → SOn key s.2.2 (q' * 20) ((q' + 1) * 20)) (fun s => (m0.length + 100 - s.1).toNat) ⟨0, 0, rfl, rfl, Nat.zero_le _, rfl, Eqv.refl _, rfl, fun q' h => by omega⟩ ?_
  rintro ⟨x, y, l⟩ ⟨a, q, h1, h2, h3, h4, h5, h6, h7⟩
  simp only at h1 h2 h4 h5 h7
  subst h1 h2
  unfold B160_2
  by_cases hb : a + 20 ≤ m0.length
  · obtain ⟨l', g1, g2, g3, g4, g5⟩ := insert_seg hc (l := l) (a := a) (b := a + 20) (fun z hz => hS z (h5.mem.1 hz)) (by omega) (by omega) (by omega)
    simp (disch := omega) only [Ret_some, Ret_none, Ret_bind, Ret_asrt, Ret_cond, Sum.elim_inl, Sum.elim_inr, decide_eq_true_eq, decide_eq_false_iff_not, Bool.not_eq_true', Bool.not_not, Bool.and_eq_true, Bool.or_eq_true, Bool.true_eq_false, Bool.false_eq_true, Bool.not_true, Bool.not_false, if_true, if_false, ite_true, ite_false, true_and, and_true, false_and, and_false, Int.toNat_natCast, toN_succ, Int.ofNat_eq_natCast, Int.ofNat_toNat, Nat.zero_add, Nat.add_zero, not_true_eq_false, not_false_eq_true, implies_true, wr64, g1]
    rw [if_pos (by omega)]
    refine ⟨g2, ⟨a + 20, q + 1, rfl, by omega, hb, by omega, g3.trans h5, by omega, fun q' hq' => ?_⟩, by omega⟩
    by_cases e : q' = q
    · subst e
      rw [← h6, show (q' + 1) * 20 = a + 20 by omega]
      exact g4
    · exact (h7 q' (by omega)).cong fun i h1 h2 => g5 i (.inl (by omega))
  · simp (disch := omega) only [Ret_some, Ret_none, Ret_bind, Ret_asrt, Ret_cond, Sum.elim_inl, Sum.elim_inr, decide_eq_true_eq, decide_eq_false_iff_not, Bool.not_eq_true', Bool.not_not, Bool.and_eq_true, Bool.or_eq_true, Bool.true_eq_false, Bool.false_eq_true, Bool.not_true, Bool.not_false, if_true, if_false, ite_true, ite_false, true_and, and_true, false_and, and_false, Int.toNat_natCast, toN_succ, Int.ofNat_eq_natCast, Int.ofNat_toNat, Nat.zero_add, Nat.add_zero, not_true_eq_false, not_false_eq_true, implies_true, wr64]
    rw [if_neg (by omega)]
    exact ⟨a, rfl, h3, by omega, h4, h5, q, h6, h7⟩

theorem round_ret (m0 l : List Int) (hS : ∀ z ∈ m0, S z) (hm : m0.length ≤ 140737488355328) (hl : l.length = m0.length) (he : Eqv key l m0) (bs : Nat) (hbs : 0 < bs) (hbs2 : bs < m0.length) (hB : Bks key bs l m0.length) :
    Ret (L160_9 c (m0.length : Nat) (bs : Int) (0, ((2 * bs : Nat) : Int), l)) fun o => ∃ a q : Nat, o.1 = (a : Int) ∧ a ≤ m0.length ∧ m0.length < a + 2 * bs ∧ o.2.length = m0.length ∧ Eqv key o.2 m0 ∧ a = q * (2 * bs) ∧
      (∀ q', q' < q → SOn key o.2 (q' * (2 * bs)) ((q' + 1) * (2 * bs))) ∧ ∀ q', a ≤ q' * bs → SOn key o.2 (q' * bs) (min ((q' + 1) * bs) m0.length) := by
  unfold L160_9
  refine Ret.while (fun s => ∃ a q : Nat, s.1 = (a : Int) ∧ s.2.1 = ((a + 2 * bs : Nat) : Int) ∧ a ≤ m0.length ∧ s.2.2.length = m0.length ∧ Eqv key s.2.2 m0 ∧ a = q * (2 * bs) ∧
      (∀ q', q' < q → SOn key s.2.2 (q' * (2 * bs)) ((q' + 1) * (2 * bs))) ∧ ∀ q', a ≤ q' * bs → SOn key s.2.2 (q' * bs) (min ((q' + 1) * bs) m0.length)) (fun s => (m0.length + 2 * bs + 100 - s.1).toNat)
    ⟨0, 0, rfl, by simp, Nat.zero_le _, hl, he, by simp, fun q' h => by omega, fun q' _ => hB q'⟩ ?_
  rintro ⟨x, y, l⟩ ⟨a, q, h1, h2, h3, h4, h5, h6, h7, h8⟩
  simp only at h1 h2 h4 h5 h7 h8
  subst h1 h2
  have e2 : 2 * q * bs = a := by rw [h6, Nat.mul_comm 2 q, Nat.mul_assoc]
  have e3 : (2 * q + 1) * bs = a + bs := by rw [Nat.add_mul, e2, Nat.one_mul]
  have e4 : (2 * q + 1 + 1) * bs = a + 2 * bs := by rw [Nat.add_mul, e3]; omega
  have e5 : (q + 1) * (2 * bs) = a + 2 * bs := by rw [Nat.add_mul, ← h6, Nat.one_mul]
  unfold B160_9
  by_cases hb : a + 2 * bs ≤ m0.length
  · have sA := h8 (2 * q) (by omega)
    have sB := h8 (2 * q + 1) (by omega)
    rw [e2, e3, Nat.min_eq_left (by omega)] at sA
    rw [e3, e4, Nat.min_eq_left (by omega)] at sB
    obtain ⟨l', g1, g2, g3, g4, g5⟩ := merge_seg hc (l := l) (a := a) (m := a + bs) (b := a + 2 * bs) (fun z hz => hS z (h5.mem.1 hz)) (by omega) (by omega) (by omega) (by omega) sA sB
    rw [show ((a + bs : Nat) : Int) = (a : Int) + (bs : Int) by omega] at g1
    simp (disch := omega) only [Ret_some, Ret_none, Ret_bind, Ret_asrt, Ret_cond, Sum.elim_inl, Sum.elim_inr, decide_eq_true_eq, decide_eq_false_iff_not, Bool.not_eq_true', Bool.not_not, Bool.and_eq_true, Bool.or_eq_true, Bool.true_eq_false, Bool.false_eq_true, Bool.not_true, Bool.not_false, if_true, if_false, ite_true, ite_false, true_and, and_true, false_and, and_false, Int.toNat_natCast, toN_succ, Int.ofNat_eq_natCast, Int.ofNat_toNat, Nat.zero_add, Nat.add_zero, not_true_eq_false, not_false_eq_true, implies_true, wr64, g1]
    rw [if_pos (by omega)]
    refine ⟨g2, ⟨a + 2 * bs, q + 1, rfl, by omega, hb, by omega, g3.trans h5, e5.symm, fun q' hq' => ?_, fun q' hq' => ?_⟩, by omega⟩
    · by_cases e : q' = q
      · subst e
        rw [e5, ← h6]
        exact g4
      · have hlt : (q' + 1) * (2 * bs) ≤ q * (2 * bs) := Nat.mul_le_mul_right _ (by omega)
        exact (h7 q' (by omega)).cong fun i h1 h2 => g5 i (.inl (by omega))
    · exact (h8 q' (by omega)).cong fun i h1 h2 => g5 i (.inr (by omega))
  · simp (disch := omega) only [Ret_some, Ret_none, Ret_bind, Ret_asrt, Ret_cond, Sum.elim_inl, Sum.elim_inr, decide_eq_true_eq, decide_eq_false_iff_not, Bool.not_eq_true', Bool.not_not, Bool.and_eq_true, Bool.or_eq_true, Bool.true_eq_false, Bool.false_eq_true, Bool.not_true, Bool.not_false, if_true, if_false, ite_true, ite_false, true_and, and_true, false_and, and_false, Int.toNat_natCast, toN_succ, Int.ofNat_eq_natCast, Int.ofNat_toNat, Nat.zero_add, Nat.add_zero, not_true_eq_false, not_false_eq_true, implies_true, wr64]
    rw [if_neg (by omega)]
    exact ⟨a, q, rfl, h3, by omega, h4, h5, h6, h7, h8⟩

theorem stable_ret (m0 : List Int) (hS : ∀ z ∈ m0, S z) (hm : m0.length ≤ 140737488355328) : ∃ l, F135 c m0 = some ((), l) ∧ Srt key l ∧ Eqv key l m0 := by
  have key2 : Ret (F160 c (m0.length : Nat) m0) fun o => Srt key o.2 ∧ Eqv key o.2 m0 := by
    unfold F160
    obtain ⟨⟨x, l⟩, ho, a, h1, h2, h3, h4, h5, q, h6, h7⟩ := blocks_ret hc m0 hS hm
    simp only at h1 h4 h5 h7
    subst h1
    obtain ⟨l1, g1, g2, g3, g4, g5⟩ := insert_seg hc (l := l) (a := a) (b := m0.length) (fun z hz => hS z (h5.mem.1 hz)) h2 (by omega) (by omega)
    simp (disch := omega) only [Ret_some, Ret_none, Ret_bind, Ret_asrt, Ret_cond, Sum.elim_inl, Sum.elim_inr, decide_eq_true_eq, decide_eq_false_iff_not, Bool.not_eq_true', Bool.not_not, Bool.and_eq_true, Bool.or_eq_true, Bool.true_eq_false, Bool.false_eq_true, Bool.not_true, Bool.not_false, if_true, if_false, ite_true, ite_false, true_and, and_true, false_and, and_false, Int.toNat_natCast, toN_succ, Int.ofNat_eq_natCast, Int.ofNat_toNat, Nat.zero_add, Nat.add_zero, not_true_eq_false, not_false_eq_true, implies_true, wr64, ho, g1]
    refine ⟨g2, ?_⟩
    have hB : Bks key 20 l1 m0.length := fun q' => by
      rcases Nat.lt_trichotomy q' q with e | e | e
      · refine ((h7 q' e).cong fun i h1 h2 => g5 i (.inl (by omega))) |>.cong (fun i _ _ => rfl) |> fun h => ?_
        rw [Nat.min_eq_left (by omega)]
        exact h
      · subst e
        rw [← h6, Nat.min_eq_right (by omega)]
        exact g4
      · intro i j h1 h2 h3
        omega
    -- the rounds
    unfold L160_7
    refine Ret.while (fun s => ∃ bs : Nat, s.1 = (bs : Int) ∧ 0 < bs ∧ bs ≤ 2 * m0.length + 40 ∧ s.2.length = m0.length ∧ Eqv key s.2 m0 ∧ Bks key bs s.2 m0.length) (fun s => (2 * m0.length + 100 - s.1).toNat) ⟨20, rfl, by omega, by omega, by show l1.length = _; omega, g3.trans h5, hB⟩ ?_
    rintro ⟨x, l⟩ ⟨bs, h1, h2, h2', h3, h4, h5⟩
    simp only at h1 h3 h4 h5
    subst h1
    unfold B160_7
    by_cases hb : bs < m0.length
    · obtain ⟨⟨y, l2⟩, ho, a, q, k1, k2, k3, k4, k5, k6, k7, k8⟩ := round_ret hc m0 l hS hm h3 h4 bs h2 hb h5
      simp only at k1 k4 k5 k7 k8
      subst k1
      have e2 : 2 * q * bs = a := by rw [k6, Nat.mul_comm 2 q, Nat.mul_assoc]
      have e3 : (2 * q + 1) * bs = a + bs := by rw [Nat.add_mul, e2, Nat.one_mul]
      have e4 : (2 * q + 1 + 1) * bs = a + 2 * bs := by rw [Nat.add_mul, e3]; omega
      have e5 : (q + 1) * (2 * bs) = a + 2 * bs := by rw [Nat.add_mul, ← k6, Nat.one_mul]
      -- behind the last round
      have fin : ∀ l3 : List Int, l3.length = m0.length → Eqv key l3 m0 → SOn key l3 a m0.length → (∀ i, i < a → l3.getD i 0 = l2.getD i 0) → Bks key (2 * bs) l3 m0.length := fun l3 _ _ hs hk q' => by
        rcases Nat.lt_trichotomy q' q with e | e | e
        · have hlt : (q' + 1) * (2 * bs) ≤ q * (2 * bs) := Nat.mul_le_mul_right _ (by omega)
          rw [Nat.min_eq_left (by omega)]
          exact (k7 q' e).cong fun i h1 h2 => hk i (by omega)
        · subst e
          rw [← k6, e5, Nat.min_eq_right (by omega)]
          exact hs
        · have hlt : (q + 1) * (2 * bs) ≤ q' * (2 * bs) := Nat.mul_le_mul_right _ (by omega)
          intro i j h1 h2 h3
          omega
      rw [show ((2 * bs : Nat) : Int) = 2 * (bs : Int) by omega] at ho
      have sA := k8 (2 * q) (by omega)
      have sB := k8 (2 * q + 1) (by omega)
      rw [e2, e3] at sA
      rw [e3, e4, Nat.min_eq_right (by omega)] at sB
      simp (disch := omega) only [Ret_some, Ret_none, Ret_bind, Ret_asrt, Ret_cond, Sum.elim_inl, Sum.elim_inr, decide_eq_true_eq, decide_eq_false_iff_not, Bool.not_eq_true', Bool.not_not, Bool.and_eq_true, Bool.or_eq_true, Bool.true_eq_false, Bool.false_eq_true, Bool.not_true, Bool.not_false, if_true, if_false, ite_true, ite_false, true_and, and_true, false_and, and_false, Int.toNat_natCast, toN_succ, Int.ofNat_eq_natCast, Int.ofNat_toNat, Nat.zero_add, Nat.add_zero, not_true_eq_false, not_false_eq_true, implies_true, wr64, ho]
      rw [if_pos (by omega)]
      split
      · rename_i hc2
        rw [Nat.min_eq_left (by omega)] at sA
        obtain ⟨l3, g1, g2, g3, g4, g5⟩ := merge_seg hc (l := l2) (a := a) (m := a + bs) (b := m0.length) (fun z hz => hS z (k5.mem.1 hz)) (by omega) (by omega) (by omega) (by omega) sA sB
        rw [show ((a + bs : Nat) : Int) = (a : Int) + (bs : Int) by omega] at g1
        rw [Ret_eq g1]
        exact ⟨g2, ⟨2 * bs, by omega, by omega, by omega, by show l3.length = _; omega, g3.trans k5, fin l3 (by omega) (g3.trans k5) g4 fun i hi => g5 i (.inl hi)⟩, by omega⟩
      · rename_i hc2
        rw [Nat.min_eq_right (by omega)] at sA
        exact ⟨⟨2 * bs, by omega, by omega, by omega, k4, k5, fin l2 k4 k5 sA fun i _ => rfl⟩, by omega⟩
    · simp (disch := omega) only [Ret_some, Ret_none, Ret_bind, Ret_asrt, Ret_cond, Sum.elim_inl, Sum.elim_inr, decide_eq_true_eq, decide_eq_false_iff_not, Bool.not_eq_true', Bool.not_not, Bool.and_eq_true, Bool.or_eq_true, Bool.true_eq_false, Bool.false_eq_true, Bool.not_true, Bool.not_false, if_true, if_false, ite_true, ite_false, true_and, and_true, false_and, and_false, Int.toNat_natCast, toN_succ, Int.ofNat_eq_natCast, Int.ofNat_toNat, Nat.zero_add, Nat.add_zero, not_true_eq_false, not_false_eq_true, implies_true, wr64]
      rw [if_neg (by omega)]
      refine ⟨Srt.of fun s t hst ht => ?_, h4⟩
      have := h5 0
      rw [Nat.zero_mul, Nat.zero_add, Nat.one_mul, Nat.min_eq_right (by omega)] at this
      exact this s t (Nat.zero_le _) hst (by omega)
  obtain ⟨⟨u, l⟩, ho, h1, h2⟩ := key2
  have hl := h2.len
  refine ⟨l, ?_, h1, h2⟩
  unfold F135
  rw [ho, Option.bind_some, asrt_eq hl]

end

end Go.Proofs.Ytgghnfmabphbmaa.Fw.Sort
