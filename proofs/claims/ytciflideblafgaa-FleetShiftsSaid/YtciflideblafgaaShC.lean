/- Guards of the laws: they return true. -/
import Derived.Test.YtciflideblafgaaSh1
open Go Go.Proofs.Ytciflideblafgaa.Fw
namespace Go.Proofs.Ytciflideblafgaa
set_option maxRecDepth 100000
set_option linter.unusedVariables false

def F76c (n : Nat) (a0 : Int) (a1 : Int) (a2 : Int) : Option (Bool) := bif decide (a1 ≤ a0) then Option.some (decide (a0 ≤ a2)) else Option.some Bool.false
theorem F76c_le (n : Nat) (a0 : Int) (a1 : Int) (a2 : Int) : Ole (F76c n a0 a1 a2) (F76 a0 a1 a2) := by
  unfold F76c F76
  repeat' (first | (with_reducible exact Ole.refl _) | (with_reducible apply Ole.cond) | (with_reducible apply Ole.asrt) | (with_reducible apply Ole.bind) | (with_reducible apply Ole.elim) | intro)

def B46_2c (n : Nat) (a0 : TLimits) (v18 : Int) : Option (Int ⊕ Unit ⊕ Int) := bif decide (v18 < 6) then asrt (0 ≤ v18 ∧ v18 < (↑6 : Int)) (Option.bind ((F76c n) (List.getD [TLimits.change a0, TLimits.long a0, TLimits.work a0, TLimits.after a0, TLimits.break0 a0, TLimits.rest a0] (Int.toNat v18) 0) 0 86400) fun (r : Bool) ↦ bif !r then Option.some (Sum.inr (Sum.inr 2)) else Option.some (Sum.inl (Go.IntKind.wrap Go.IntKind.i64 (v18 + 1)))) else Option.some (Sum.inr (Sum.inl ()))
theorem B46_2c_le (n : Nat) (a0 : TLimits) (v18 : Int) : Ole (B46_2c n a0 v18) (B46_2 a0 v18) := by
  unfold B46_2c B46_2
  repeat' (first | (with_reducible apply F76c_le) | (with_reducible exact Ole.refl _) | (with_reducible apply Ole.cond) | (with_reducible apply Ole.asrt) | (with_reducible apply Ole.bind) | (with_reducible apply Ole.elim) | intro)

def L46_2c (n : Nat) (a0 : TLimits) (s : Int) : Option (Unit ⊕ Int) := loopF (fun s => (B46_2c n) a0 s) n s
theorem L46_2c_le (n : Nat) (a0 : TLimits) (s : Int) : Ole (L46_2c n a0 s) (L46_2 a0 s) := by
  unfold L46_2c L46_2
  exact Ole.loop (fun s => by apply B46_2c_le) n s

def F46c (n : Nat) (a0 : TLimits) : Option (Int) := Option.bind ((L46_2c n) a0 0) (Sum.elim (fun (p : Unit) ↦ Option.bind ((F76c n) (TLimits.row a0) 1 7) fun (r_4 : Bool) ↦ bif !r_4 then Option.some 2 else Option.some 0) fun (r_5 : Int) ↦ Option.some r_5)
theorem F46c_le (n : Nat) (a0 : TLimits) : Ole (F46c n a0) (F46 a0) := by
  unfold F46c F46
  repeat' (first | (with_reducible apply F76c_le) | (with_reducible apply L46_2c_le) | (with_reducible exact Ole.refl _) | (with_reducible apply Ole.cond) | (with_reducible apply Ole.asrt) | (with_reducible apply Ole.bind) | (with_reducible apply Ole.elim) | intro)

def B44_4c (n : Nat) (a0 : List TTask) (v10 : Int) : Option (Int ⊕ Unit ⊕ Int) := bif decide (v10 < (↑(List.length a0) : Int)) then asrt (0 ≤ v10 ∧ v10 < (↑(List.length a0) : Int)) (Option.bind ((F76c n) (TTask.from0 (List.getD a0 (Int.toNat v10) TTask.d)) 0 11) fun (r : Bool) ↦ bif !r then Option.some (Sum.inr (Sum.inr 2)) else Option.bind ((F76c n) (TTask.to0 (List.getD a0 (Int.toNat v10) TTask.d)) 0 11) fun (r_2 : Bool) ↦ bif !r_2 then Option.some (Sum.inr (Sum.inr 2)) else Option.bind ((F76c n) (TTask.dep (List.getD a0 (Int.toNat v10) TTask.d)) 0 28800) fun (r_3 : Bool) ↦ bif !r_3 then Option.some (Sum.inr (Sum.inr 2)) else Option.bind ((F76c n) (TTask.arr (List.getD a0 (Int.toNat v10) TTask.d)) 0 28800) fun (r_4 : Bool) ↦ bif !r_4 then Option.some (Sum.inr (Sum.inr 2)) else bif decide (TTask.arr (List.getD a0 (Int.toNat v10) TTask.d) ≤ TTask.dep (List.getD a0 (Int.toNat v10) TTask.d)) then Option.some (Sum.inr (Sum.inr 13)) else Option.bind ((F76c n) (TTask.km (List.getD a0 (Int.toNat v10) TTask.d)) 0 10000) fun (r_5 : Bool) ↦ bif !r_5 then Option.some (Sum.inr (Sum.inr 2)) else Option.bind ((F76c n) (TTask.units (List.getD a0 (Int.toNat v10) TTask.d)) 1 4) fun (r_6 : Bool) ↦ bif !r_6 then Option.some (Sum.inr (Sum.inr 2)) else Option.some (Sum.inl (Go.IntKind.wrap Go.IntKind.i64 (v10 + 1)))) else Option.some (Sum.inr (Sum.inl ()))
theorem B44_4c_le (n : Nat) (a0 : List TTask) (v10 : Int) : Ole (B44_4c n a0 v10) (B44_4 a0 v10) := by
  unfold B44_4c B44_4
  repeat' (first | (with_reducible apply F76c_le) | (with_reducible exact Ole.refl _) | (with_reducible apply Ole.cond) | (with_reducible apply Ole.asrt) | (with_reducible apply Ole.bind) | (with_reducible apply Ole.elim) | intro)

def L44_4c (n : Nat) (a0 : List TTask) (s : Int) : Option (Unit ⊕ Int) := loopF (fun s => (B44_4c n) a0 s) n s
theorem L44_4c_le (n : Nat) (a0 : List TTask) (s : Int) : Ole (L44_4c n a0 s) (L44_4 a0 s) := by
  unfold L44_4c L44_4
  exact Ole.loop (fun s => by apply B44_4c_le) n s

def F44c (n : Nat) (a0 : List TTask) : Option (Int) := bif decide (40 < (↑(List.length a0) : Int)) then Option.some 4 else Option.bind ((L44_4c n) a0 0) (Sum.elim (fun (p : Unit) ↦ Option.some 0) fun (r_9 : Int) ↦ Option.some r_9)
theorem F44c_le (n : Nat) (a0 : List TTask) : Ole (F44c n a0) (F44 a0) := by
  unfold F44c F44
  repeat' (first | (with_reducible apply L44_4c_le) | (with_reducible exact Ole.refl _) | (with_reducible apply Ole.cond) | (with_reducible apply Ole.asrt) | (with_reducible apply Ole.bind) | (with_reducible apply Ole.elim) | intro)

def F77c (n : Nat) (a0 : List TTask) (a1 : TLimits) : Option (Int) := Option.bind ((F44c n) a0) fun (r : Int) ↦ bif !decide (r = 0) then Option.some r else Option.bind ((F46c n) a1) fun (r_2 : Int) ↦ Option.some r_2
theorem F77c_le (n : Nat) (a0 : List TTask) (a1 : TLimits) : Ole (F77c n a0 a1) (F77 a0 a1) := by
  unfold F77c F77
  repeat' (first | (with_reducible apply F44c_le) | (with_reducible apply F46c_le) | (with_reducible exact Ole.refl _) | (with_reducible apply Ole.cond) | (with_reducible apply Ole.asrt) | (with_reducible apply Ole.bind) | (with_reducible apply Ole.elim) | intro)

def B23_2c (n : Nat) (a0 : List Int) (a1 : Int) (v8 : Int) : Option (Int ⊕ Unit ⊕ Int) := bif decide (v8 < (↑(List.length a0) : Int)) then asrt (0 ≤ v8 ∧ v8 < (↑(List.length a0) : Int)) (bif decide (a1 = List.getD a0 (Int.toNat v8) 0) then Option.some (Sum.inr (Sum.inr v8)) else Option.some (Sum.inl (Go.IntKind.wrap Go.IntKind.i64 (v8 + 1)))) else Option.some (Sum.inr (Sum.inl ()))
theorem B23_2c_le (n : Nat) (a0 : List Int) (a1 : Int) (v8 : Int) : Ole (B23_2c n a0 a1 v8) (B23_2 a0 a1 v8) := by
  unfold B23_2c B23_2
  repeat' (first | (with_reducible exact Ole.refl _) | (with_reducible apply Ole.cond) | (with_reducible apply Ole.asrt) | (with_reducible apply Ole.bind) | (with_reducible apply Ole.elim) | intro)

def L23_2c (n : Nat) (a0 : List Int) (a1 : Int) (s : Int) : Option (Unit ⊕ Int) := loopF (fun s => (B23_2c n) a0 a1 s) n s
theorem L23_2c_le (n : Nat) (a0 : List Int) (a1 : Int) (s : Int) : Ole (L23_2c n a0 a1 s) (L23_2 a0 a1 s) := by
  unfold L23_2c L23_2
  exact Ole.loop (fun s => by apply B23_2c_le) n s

def F23c (n : Nat) (a0 : List Int) (a1 : Int) : Option (Int) := Option.bind ((L23_2c n) a0 a1 0) (Sum.elim (fun (p : Unit) ↦ Option.some (-1)) fun (r_3 : Int) ↦ Option.some r_3)
theorem F23c_le (n : Nat) (a0 : List Int) (a1 : Int) : Ole (F23c n a0 a1) (F23 a0 a1) := by
  unfold F23c F23
  repeat' (first | (with_reducible apply L23_2c_le) | (with_reducible exact Ole.refl _) | (with_reducible apply Ole.cond) | (with_reducible apply Ole.asrt) | (with_reducible apply Ole.bind) | (with_reducible apply Ole.elim) | intro)

def F66c (n : Nat) (a0 : List Int) (a1 : Int) : Option (Bool) := Option.bind ((F23c n) a0 a1) fun (r : Int) ↦ Option.some (decide (0 ≤ r))
theorem F66c_le (n : Nat) (a0 : List Int) (a1 : Int) : Ole (F66c n a0 a1) (F66 a0 a1) := by
  unfold F66c F66
  repeat' (first | (with_reducible apply F23c_le) | (with_reducible exact Ole.refl _) | (with_reducible apply Ole.cond) | (with_reducible apply Ole.asrt) | (with_reducible apply Ole.bind) | (with_reducible apply Ole.elim) | intro)

def F128c (n : Nat) (a0 : Int) (a2 : TLimits) (b0_0 : Int) (b1_0 : Int) : Option (Unit × Int × Int) := bif decide (TLimits.after a2 < Go.IntKind.wrap Go.IntKind.i64 (a0 - b0_0)) then Option.some ((), b0_0, 4) else Option.some ((), b0_0, b1_0)
theorem F128c_le (n : Nat) (a0 : Int) (a2 : TLimits) (b0_0 : Int) (b1_0 : Int) : Ole (F128c n a0 a2 b0_0 b1_0) (F128 a0 a2 b0_0 b1_0) := by
  unfold F128c F128
  repeat' (first | (with_reducible exact Ole.refl _) | (with_reducible apply Ole.cond) | (with_reducible apply Ole.asrt) | (with_reducible apply Ole.bind) | (with_reducible apply Ole.elim) | intro)

def B78_6c (n : Nat) (a0 : List TTask) (a1 : List Int) (a2 : TLimits) (v9 : Int) (v37 : Int) (b2_0 : Int) (b3_0 : Int) : Option (Int × Int × Int × Int ⊕ Int × Int × Int ⊕ Int) := bif decide (v37 < (↑(List.length a1) : Int)) then asrt (0 ≤ v37 ∧ v37 < (↑(List.length a1) : Int)) (asrt (0 ≤ List.getD a1 (Int.toNat v37) 0 ∧ List.getD a1 (Int.toNat v37) 0 < (↑(List.length a0) : Int)) (bif decide (v37 = 0) then Option.some (Sum.inl (Go.IntKind.wrap Go.IntKind.i64 (v9 + Go.IntKind.wrap Go.IntKind.i64 (TTask.arr (List.getD a0 (Int.toNat (List.getD a1 (Int.toNat v37) 0)) TTask.d) - TTask.dep (List.getD a0 (Int.toNat (List.getD a1 (Int.toNat v37) 0)) TTask.d))), Go.IntKind.wrap Go.IntKind.i64 (v37 + 1), b2_0, b3_0)) else asrt (0 ≤ Go.IntKind.wrap Go.IntKind.i64 (v37 - 1) ∧ Go.IntKind.wrap Go.IntKind.i64 (v37 - 1) < (↑(List.length a1) : Int)) (asrt (0 ≤ List.getD a1 (Int.toNat (Go.IntKind.wrap Go.IntKind.i64 (v37 - 1))) 0 ∧ List.getD a1 (Int.toNat (Go.IntKind.wrap Go.IntKind.i64 (v37 - 1))) 0 < (↑(List.length a0) : Int)) (bif !decide (TTask.from0 (List.getD a0 (Int.toNat (List.getD a1 (Int.toNat v37) 0)) TTask.d) = TTask.to0 (List.getD a0 (Int.toNat (List.getD a1 (Int.toNat (Go.IntKind.wrap Go.IntKind.i64 (v37 - 1))) 0)) TTask.d)) then Option.some (Sum.inr (Sum.inr 1)) else bif decide (TTask.dep (List.getD a0 (Int.toNat (List.getD a1 (Int.toNat v37) 0)) TTask.d) < Go.IntKind.wrap Go.IntKind.i64 (TTask.arr (List.getD a0 (Int.toNat (List.getD a1 (Int.toNat (Go.IntKind.wrap Go.IntKind.i64 (v37 - 1))) 0)) TTask.d) + TLimits.change a2)) then Option.some (Sum.inr (Sum.inr 1)) else bif decide (TLimits.break0 a2 ≤ Go.IntKind.wrap Go.IntKind.i64 (TTask.dep (List.getD a0 (Int.toNat (List.getD a1 (Int.toNat v37) 0)) TTask.d) - TTask.arr (List.getD a0 (Int.toNat (List.getD a1 (Int.toNat (Go.IntKind.wrap Go.IntKind.i64 (v37 - 1))) 0)) TTask.d))) then Option.bind ((F128c n) (TTask.arr (List.getD a0 (Int.toNat (List.getD a1 (Int.toNat (Go.IntKind.wrap Go.IntKind.i64 (v37 - 1))) 0)) TTask.d)) a2 b3_0 b2_0) fun (r : Unit × Int × Int) ↦ Option.some (Sum.inl (Go.IntKind.wrap Go.IntKind.i64 (v9 + Go.IntKind.wrap Go.IntKind.i64 (TTask.arr (List.getD a0 (Int.toNat (List.getD a1 (Int.toNat v37) 0)) TTask.d) - TTask.dep (List.getD a0 (Int.toNat (List.getD a1 (Int.toNat v37) 0)) TTask.d))), Go.IntKind.wrap Go.IntKind.i64 (v37 + 1), Prod.snd (Prod.snd r), TTask.dep (List.getD a0 (Int.toNat (List.getD a1 (Int.toNat v37) 0)) TTask.d))) else Option.some (Sum.inl (Go.IntKind.wrap Go.IntKind.i64 (v9 + Go.IntKind.wrap Go.IntKind.i64 (TTask.arr (List.getD a0 (Int.toNat (List.getD a1 (Int.toNat v37) 0)) TTask.d) - TTask.dep (List.getD a0 (Int.toNat (List.getD a1 (Int.toNat v37) 0)) TTask.d))), Go.IntKind.wrap Go.IntKind.i64 (v37 + 1), b2_0, b3_0)))))) else Option.some (Sum.inr (Sum.inl (v9, b2_0, b3_0)))
theorem B78_6c_le (n : Nat) (a0 : List TTask) (a1 : List Int) (a2 : TLimits) (v9 : Int) (v37 : Int) (b2_0 : Int) (b3_0 : Int) : Ole (B78_6c n a0 a1 a2 v9 v37 b2_0 b3_0) (B78_6 a0 a1 a2 v9 v37 b2_0 b3_0) := by
  unfold B78_6c B78_6
  repeat' (first | (with_reducible apply F128c_le) | (with_reducible exact Ole.refl _) | (with_reducible apply Ole.cond) | (with_reducible apply Ole.asrt) | (with_reducible apply Ole.bind) | (with_reducible apply Ole.elim) | intro)

def L78_6c (n : Nat) (a0 : List TTask) (a1 : List Int) (a2 : TLimits) (s : Int × Int × Int × Int) : Option (Int × Int × Int ⊕ Int) := loopF (fun s => (B78_6c n) a0 a1 a2 s.1 s.2.1 s.2.2.1 s.2.2.2) n s
theorem L78_6c_le (n : Nat) (a0 : List TTask) (a1 : List Int) (a2 : TLimits) (s : Int × Int × Int × Int) : Ole (L78_6c n a0 a1 a2 s) (L78_6 a0 a1 a2 s) := by
  unfold L78_6c L78_6
  exact Ole.loop (fun s => by apply B78_6c_le) n s

def F78c (n : Nat) (a0 : List TTask) (a1 : List Int) (a2 : TLimits) : Option (Int) := Option.bind (asrt (0 < (↑(List.length a1) : Int)) (asrt (0 ≤ List.getD a1 (Int.toNat 0) 0 ∧ List.getD a1 (Int.toNat 0) 0 < (↑(List.length a0) : Int)) (asrt (0 ≤ Go.IntKind.wrap Go.IntKind.i64 ((↑(List.length a1) : Int) - 1) ∧ Go.IntKind.wrap Go.IntKind.i64 ((↑(List.length a1) : Int) - 1) < (↑(List.length a1) : Int)) (asrt (0 ≤ List.getD a1 (Int.toNat (Go.IntKind.wrap Go.IntKind.i64 ((↑(List.length a1) : Int) - 1))) 0 ∧ List.getD a1 (Int.toNat (Go.IntKind.wrap Go.IntKind.i64 ((↑(List.length a1) : Int) - 1))) 0 < (↑(List.length a0) : Int)) (Option.some ()))))) fun (p : Unit) ↦ Option.bind ((L78_6c n) a0 a1 a2 (0, 0, 0, TTask.dep (List.getD a0 (Int.toNat (List.getD a1 (Int.toNat 0) 0)) TTask.d))) (Sum.elim (fun (p_2 : Int × Int × Int) ↦ Option.bind ((F128c n) (TTask.arr (List.getD a0 (Int.toNat (List.getD a1 (Int.toNat (Go.IntKind.wrap Go.IntKind.i64 ((↑(List.length a1) : Int) - 1))) 0)) TTask.d)) a2 (Prod.snd (Prod.snd p_2)) (Prod.fst (Prod.snd p_2))) fun (r_4 : Unit × Int × Int) ↦ bif decide (TLimits.long a2 < Go.IntKind.wrap Go.IntKind.i64 (TTask.arr (List.getD a0 (Int.toNat (List.getD a1 (Int.toNat (Go.IntKind.wrap Go.IntKind.i64 ((↑(List.length a1) : Int) - 1))) 0)) TTask.d) - TTask.dep (List.getD a0 (Int.toNat (List.getD a1 (Int.toNat 0) 0)) TTask.d))) then Option.some 2 else bif decide (TLimits.work a2 < Prod.fst p_2) then Option.some 3 else bif decide (0 < Prod.snd (Prod.snd r_4)) then Option.some (Prod.snd (Prod.snd r_4)) else bif !decide (TTask.to0 (List.getD a0 (Int.toNat (List.getD a1 (Int.toNat (Go.IntKind.wrap Go.IntKind.i64 ((↑(List.length a1) : Int) - 1))) 0)) TTask.d) = TTask.from0 (List.getD a0 (Int.toNat (List.getD a1 (Int.toNat 0) 0)) TTask.d)) then Option.some 5 else Option.some 0) fun (r_5 : Int) ↦ Option.some r_5)
theorem F78c_le (n : Nat) (a0 : List TTask) (a1 : List Int) (a2 : TLimits) : Ole (F78c n a0 a1 a2) (F78 a0 a1 a2) := by
  unfold F78c F78
  repeat' (first | (with_reducible apply F128c_le) | (with_reducible apply L78_6c_le) | (with_reducible exact Ole.refl _) | (with_reducible apply Ole.cond) | (with_reducible apply Ole.asrt) | (with_reducible apply Ole.bind) | (with_reducible apply Ole.elim) | intro)

def B24_7c (n : Nat) (a0 : List TTask) (a1 : List Int) (v22 : Int) : Option (Int ⊕ Unit ⊕ Int × Int) := bif decide (v22 < (↑(List.length a1) : Int)) then asrt (0 ≤ v22 ∧ v22 < (↑(List.length a1) : Int)) (Option.bind ((F76c n) (List.getD a1 (Int.toNat v22) 0) 0 (Go.IntKind.wrap Go.IntKind.i64 ((↑(List.length a0) : Int) - 1))) fun (r_2 : Bool) ↦ bif !r_2 then Option.some (Sum.inr (Sum.inr (0, 2))) else asrt (v22 ≤ (↑(List.length a1) : Int)) (Option.bind ((F66c n) (List.take (Int.toNat (v22 - 0)) a1) (List.getD a1 (Int.toNat v22) 0)) fun (r_3 : Bool) ↦ bif r_3 then Option.some (Sum.inr (Sum.inr (0, 6))) else Option.some (Sum.inl (Go.IntKind.wrap Go.IntKind.i64 (v22 + 1))))) else Option.some (Sum.inr (Sum.inl ()))
theorem B24_7c_le (n : Nat) (a0 : List TTask) (a1 : List Int) (v22 : Int) : Ole (B24_7c n a0 a1 v22) (B24_7 a0 a1 v22) := by
  unfold B24_7c B24_7
  repeat' (first | (with_reducible apply F66c_le) | (with_reducible apply F76c_le) | (with_reducible exact Ole.refl _) | (with_reducible apply Ole.cond) | (with_reducible apply Ole.asrt) | (with_reducible apply Ole.bind) | (with_reducible apply Ole.elim) | intro)

def L24_7c (n : Nat) (a0 : List TTask) (a1 : List Int) (s : Int) : Option (Unit ⊕ Int × Int) := loopF (fun s => (B24_7c n) a0 a1 s) n s
theorem L24_7c_le (n : Nat) (a0 : List TTask) (a1 : List Int) (s : Int) : Ole (L24_7c n a0 a1 s) (L24_7 a0 a1 s) := by
  unfold L24_7c L24_7
  exact Ole.loop (fun s => by apply B24_7c_le) n s

def F24c (n : Nat) (a0 : List TTask) (a1 : List Int) (a2 : TLimits) : Option (Int × Int) := Option.bind ((F77c n) a0 a2) fun (r : Int) ↦ bif !decide (r = 0) then Option.some (0, r) else bif decide ((↑(List.length a1) : Int) = 0) then Option.some (0, 1) else Option.bind ((L24_7c n) a0 a1 0) (Sum.elim (fun (p : Unit) ↦ Option.bind ((F78c n) a0 a1 a2) fun (r_6 : Int) ↦ Option.some (r_6, 0)) fun (r_7 : Int × Int) ↦ Option.some r_7)
theorem F24c_le (n : Nat) (a0 : List TTask) (a1 : List Int) (a2 : TLimits) : Ole (F24c n a0 a1 a2) (F24 a0 a1 a2) := by
  unfold F24c F24
  repeat' (first | (with_reducible apply F77c_le) | (with_reducible apply F78c_le) | (with_reducible apply L24_7c_le) | (with_reducible exact Ole.refl _) | (with_reducible apply Ole.cond) | (with_reducible apply Ole.asrt) | (with_reducible apply Ole.bind) | (with_reducible apply Ole.elim) | intro)

def F26c (n : Nat) : Option (Bool) := Option.bind ((F24c n) [{ from0 := 0, to0 := 1, dep := 0, arr := 100, km := Int.ofNat 0, units := 1 }] [0] { change := Int.ofNat 0, long := 100, work := 100, after := 100, break0 := Int.ofNat 0, rest := Int.ofNat 0, row := 1 }) fun (r : Int × Int) ↦ bif decide (Prod.snd r = 0) then Option.some (decide (Prod.fst r = 5)) else Option.some Bool.false
theorem F26c_le (n : Nat) : Ole (F26c n ) (F26 ) := by
  unfold F26c F26
  repeat' (first | (with_reducible apply F24c_le) | (with_reducible exact Ole.refl _) | (with_reducible apply Ole.cond) | (with_reducible apply Ole.asrt) | (with_reducible apply Ole.bind) | (with_reducible apply Ole.elim) | intro)

theorem F26_eq : F26 = some true := F26c_le 40 true (by kernel_rfl)

end Go.Proofs.Ytciflideblafgaa
