/- Guards of the laws: they return true. -/
import Derived.Test.YtgghnfmabphbmaaR71
open Go Go.Proofs.Ytgghnfmabphbmaa.Fw
namespace Go.Proofs.Ytgghnfmabphbmaa
set_option maxRecDepth 100000
set_option linter.unusedVariables false

def F79c (n : Nat) (a0 : Int) (a1 : Int) (a2 : Int) : Option (Bool) := bif decide (a1 ≤ a0) then Option.some (decide (a0 ≤ a2)) else Option.some Bool.false
theorem F79c_le (n : Nat) (a0 : Int) (a1 : Int) (a2 : Int) : Ole (F79c n a0 a1 a2) (F79 a0 a1 a2) := by
  unfold F79c F79
  repeat' (first | assumption | (with_reducible exact Ole.refl _) | (with_reducible apply Ole.cond) | (with_reducible apply Ole.asrt) | (with_reducible apply Ole.bind) | (with_reducible apply Ole.elim) | intro)

def B131_3c (n : Nat) (a0 : Tr) (rec131 : Tr → Option (Int × Int)) (v2 : Int) (v3 : Int) (v11 : Int) : Option (Int × Int × Int ⊕ Int × Int) := bif decide (v11 < (↑(List.length (Tr.kids a0)) : Int)) then asrt (0 ≤ v11 ∧ v11 < (↑(List.length (Tr.kids a0)) : Int)) (Option.bind (rec131 (List.getD (Tr.kids a0) (Int.toNat v11) Tr.d)) fun (r : Int × Int) ↦ Option.some (Sum.inl (Go.IntKind.wrap Go.IntKind.i64 (v2 + Prod.fst r), Max.max v3 (Prod.snd r), Go.IntKind.wrap Go.IntKind.i64 (v11 + 1)))) else Option.some (Sum.inr (v2, v3))
theorem B131_3c_le (n : Nat) (a0 : Tr) {rec131 rec131' : Tr → Option (Int × Int)} (hrec131 : ∀ x0, Ole (rec131 x0) (rec131' x0)) (v2 : Int) (v3 : Int) (v11 : Int) : Ole (B131_3c n a0 rec131 v2 v3 v11) (B131_3 a0 rec131' v2 v3 v11) := by
  unfold B131_3c B131_3
  repeat' (first | assumption | (with_reducible apply hrec131) | (with_reducible exact Ole.refl _) | (with_reducible apply Ole.cond) | (with_reducible apply Ole.asrt) | (with_reducible apply Ole.bind) | (with_reducible apply Ole.elim) | intro)

def L131_3c (n : Nat) (a0 : Tr) (rec131 : Tr → Option (Int × Int)) (s : Int × Int × Int) : Option (Int × Int) := loopF (fun s => (B131_3c n) a0 rec131 s.1 s.2.1 s.2.2) n s
theorem L131_3c_le (n : Nat) (a0 : Tr) {rec131 rec131' : Tr → Option (Int × Int)} (hrec131 : ∀ x0, Ole (rec131 x0) (rec131' x0)) (s : Int × Int × Int) : Ole (L131_3c n a0 rec131 s) (L131_3 a0 rec131' s) := by
  unfold L131_3c L131_3
  exact Ole.loop (fun s => by apply B131_3c_le <;> assumption) n s

def G131c (n : Nat) (rec131 : Tr → Option (Int × Int)) (a0 : Tr) : Option (Int × Int) := Option.bind ((L131_3c n) a0 rec131 (1, 0, 0)) fun (p : Int × Int) ↦ Option.some (Prod.fst p, Go.IntKind.wrap Go.IntKind.i64 (Prod.snd p + 1))
theorem G131c_le (n : Nat) {rec131 rec131' : Tr → Option (Int × Int)} (hrec131 : ∀ x0, Ole (rec131 x0) (rec131' x0)) (a0 : Tr) : Ole (G131c n rec131 a0) (G131 rec131' a0) := by
  unfold G131c G131
  repeat' (first | assumption | (with_reducible apply L131_3c_le) | (with_reducible apply hrec131) | (with_reducible exact Ole.refl _) | (with_reducible apply Ole.cond) | (with_reducible apply Ole.asrt) | (with_reducible apply Ole.bind) | (with_reducible apply Ole.elim) | intro)

def F131nc (n : Nat)  : Nat → Tr → Option (Int × Int)
  | 0 => fun _ => none
  | k + 1 => (G131c n) (F131nc n k)
theorem F131nc_le (n : Nat)  : ∀ (k m : Nat), k ≤ m → ∀ x0, Ole (F131nc n  k x0) (F131n  m x0)
  | 0, m, _, x0 => fun o h => by simp [F131nc] at h
  | k + 1, 0, h, x0 => absurd h (by omega)
  | k + 1, m + 1, h, x0 => by
    unfold F131nc F131n
    have ih := fun x0 => F131nc_le n  k m (by omega) x0
    apply G131c_le <;> assumption

def F131c (n : Nat) (a0 : Tr) : Option (Int × Int) := F131nc n  n a0
theorem F131c_le (n : Nat) (a0 : Tr) : Ole (F131c n a0) (F131 a0) := fun o h => evF_of n fun k hk => F131nc_le n  n k hk a0 o h

def F159c (n : Nat) (a0 : Int) : Option (Int) := Option.bind (bif decide (a0 = 2) then Option.some (decide (a0 = 2)) else bif decide (a0 = 3) then Option.some (decide (a0 = 3)) else bif decide (a0 = 4) then Option.some (decide (a0 = 4)) else Option.some (decide (a0 = 5))) fun (p : Bool) ↦ bif p then Option.some 2 else bif decide (a0 = 6) then bif decide (a0 = 6) then Option.some 1 else Option.some 0 else bif decide (a0 = 7) then bif decide (a0 = 7) then Option.some 1 else Option.some 0 else bif decide (a0 = 8) then Option.some 1 else Option.some 0
theorem F159c_le (n : Nat) (a0 : Int) : Ole (F159c n a0) (F159 a0) := by
  unfold F159c F159
  repeat' (first | assumption | (with_reducible exact Ole.refl _) | (with_reducible apply Ole.cond) | (with_reducible apply Ole.asrt) | (with_reducible apply Ole.bind) | (with_reducible apply Ole.elim) | intro)

def B132_11c (n : Nat) (a0 : Tr) (rec132 : Tr → Option Int) (v89 : Int) : Option (Int ⊕ Unit ⊕ Int) := bif decide (v89 < (↑(List.length (Tr.kids a0)) : Int)) then asrt (0 ≤ v89 ∧ v89 < (↑(List.length (Tr.kids a0)) : Int)) (Option.bind (rec132 (List.getD (Tr.kids a0) (Int.toNat v89) Tr.d)) fun (r_6 : Int) ↦ bif !decide (r_6 = 0) then Option.some (Sum.inr (Sum.inr r_6)) else Option.some (Sum.inl (Go.IntKind.wrap Go.IntKind.i64 (v89 + 1)))) else Option.some (Sum.inr (Sum.inl ()))
theorem B132_11c_le (n : Nat) (a0 : Tr) {rec132 rec132' : Tr → Option Int} (hrec132 : ∀ x0, Ole (rec132 x0) (rec132' x0)) (v89 : Int) : Ole (B132_11c n a0 rec132 v89) (B132_11 a0 rec132' v89) := by
  unfold B132_11c B132_11
  repeat' (first | assumption | (with_reducible apply hrec132) | (with_reducible exact Ole.refl _) | (with_reducible apply Ole.cond) | (with_reducible apply Ole.asrt) | (with_reducible apply Ole.bind) | (with_reducible apply Ole.elim) | intro)

def L132_11c (n : Nat) (a0 : Tr) (rec132 : Tr → Option Int) (s : Int) : Option (Unit ⊕ Int) := loopF (fun s => (B132_11c n) a0 rec132 s) n s
theorem L132_11c_le (n : Nat) (a0 : Tr) {rec132 rec132' : Tr → Option Int} (hrec132 : ∀ x0, Ole (rec132 x0) (rec132' x0)) (s : Int) : Ole (L132_11c n a0 rec132 s) (L132_11 a0 rec132' s) := by
  unfold L132_11c L132_11
  exact Ole.loop (fun s => by apply B132_11c_le <;> assumption) n s

def G132c (n : Nat) (rec132 : Tr → Option Int) (a0 : Tr) : Option (Int) := Option.bind ((F159c n) (List.getD (Tr.ns a0) 0 0)) fun (r : Int) ↦ Option.bind (Option.bind ((F79c n) (List.getD (Tr.ns a0) 0 0) 0 11) fun (r_2 : Bool) ↦ bif !r_2 then Option.some (Sum.inr 15) else Option.bind ((F79c n) (List.getD (Tr.ns a0) (0 + 1) 0) 0 28800) fun (r_3 : Bool) ↦ bif !r_3 then Option.some (Sum.inr 2) else Option.bind ((F79c n) (List.getD (Tr.ns a0) (0 + 1 + 1) 0) 0 28800) fun (r_4 : Bool) ↦ bif !r_4 then Option.some (Sum.inr 2) else bif decide (r < 1) then bif !decide (List.getD (Tr.ns a0) (0 + 1) 0 = 0) then Option.some (Sum.inr 1) else bif decide (r < 2) then bif !decide (List.getD (Tr.ns a0) (0 + 1 + 1) 0 = 0) then Option.some (Sum.inr 1) else bif decide (r = 2) then bif decide (List.getD (Tr.ns a0) (0 + 1 + 1) 0 < List.getD (Tr.ns a0) (0 + 1) 0) then Option.some (Sum.inr 1) else bif decide (List.getD (Tr.ns a0) 0 0 = 9) then bif !decide ((↑(List.length (Tr.kids a0)) : Int) = 1) then Option.some (Sum.inr 1) else bif decide (9 < List.getD (Tr.ns a0) 0 0) then bif decide ((↑(List.length (Tr.kids a0)) : Int) < 2) then Option.some (Sum.inr 1) else bif decide (List.getD (Tr.ns a0) 0 0 < 9) then bif decide (0 < (↑(List.length (Tr.kids a0)) : Int)) then Option.some (Sum.inr 1) else Option.some (Sum.inl ()) else Option.some (Sum.inl ()) else bif decide (List.getD (Tr.ns a0) 0 0 < 9) then bif decide (0 < (↑(List.length (Tr.kids a0)) : Int)) then Option.some (Sum.inr 1) else Option.some (Sum.inl ()) else Option.some (Sum.inl ()) else bif decide (9 < List.getD (Tr.ns a0) 0 0) then bif decide ((↑(List.length (Tr.kids a0)) : Int) < 2) then Option.some (Sum.inr 1) else bif decide (List.getD (Tr.ns a0) 0 0 < 9) then bif decide (0 < (↑(List.length (Tr.kids a0)) : Int)) then Option.some (Sum.inr 1) else Option.some (Sum.inl ()) else Option.some (Sum.inl ()) else bif decide (List.getD (Tr.ns a0) 0 0 < 9) then bif decide (0 < (↑(List.length (Tr.kids a0)) : Int)) then Option.some (Sum.inr 1) else Option.some (Sum.inl ()) else Option.some (Sum.inl ()) else bif decide (List.getD (Tr.ns a0) 0 0 = 9) then bif !decide ((↑(List.length (Tr.kids a0)) : Int) = 1) then Option.some (Sum.inr 1) else bif decide (9 < List.getD (Tr.ns a0) 0 0) then bif decide ((↑(List.length (Tr.kids a0)) : Int) < 2) then Option.some (Sum.inr 1) else bif decide (List.getD (Tr.ns a0) 0 0 < 9) then bif decide (0 < (↑(List.length (Tr.kids a0)) : Int)) then Option.some (Sum.inr 1) else Option.some (Sum.inl ()) else Option.some (Sum.inl ()) else bif decide (List.getD (Tr.ns a0) 0 0 < 9) then bif decide (0 < (↑(List.length (Tr.kids a0)) : Int)) then Option.some (Sum.inr 1) else Option.some (Sum.inl ()) else Option.some (Sum.inl ()) else bif decide (9 < List.getD (Tr.ns a0) 0 0) then bif decide ((↑(List.length (Tr.kids a0)) : Int) < 2) then Option.some (Sum.inr 1) else bif decide (List.getD (Tr.ns a0) 0 0 < 9) then bif decide (0 < (↑(List.length (Tr.kids a0)) : Int)) then Option.some (Sum.inr 1) else Option.some (Sum.inl ()) else Option.some (Sum.inl ()) else bif decide (List.getD (Tr.ns a0) 0 0 < 9) then bif decide (0 < (↑(List.length (Tr.kids a0)) : Int)) then Option.some (Sum.inr 1) else Option.some (Sum.inl ()) else Option.some (Sum.inl ()) else bif decide (r = 2) then bif decide (List.getD (Tr.ns a0) (0 + 1 + 1) 0 < List.getD (Tr.ns a0) (0 + 1) 0) then Option.some (Sum.inr 1) else bif decide (List.getD (Tr.ns a0) 0 0 = 9) then bif !decide ((↑(List.length (Tr.kids a0)) : Int) = 1) then Option.some (Sum.inr 1) else bif decide (9 < List.getD (Tr.ns a0) 0 0) then bif decide ((↑(List.length (Tr.kids a0)) : Int) < 2) then Option.some (Sum.inr 1) else bif decide (List.getD (Tr.ns a0) 0 0 < 9) then bif decide (0 < (↑(List.length (Tr.kids a0)) : Int)) then Option.some (Sum.inr 1) else Option.some (Sum.inl ()) else Option.some (Sum.inl ()) else bif decide (List.getD (Tr.ns a0) 0 0 < 9) then bif decide (0 < (↑(List.length (Tr.kids a0)) : Int)) then Option.some (Sum.inr 1) else Option.some (Sum.inl ()) else Option.some (Sum.inl ()) else bif decide (9 < List.getD (Tr.ns a0) 0 0) then bif decide ((↑(List.length (Tr.kids a0)) : Int) < 2) then Option.some (Sum.inr 1) else bif decide (List.getD (Tr.ns a0) 0 0 < 9) then bif decide (0 < (↑(List.length (Tr.kids a0)) : Int)) then Option.some (Sum.inr 1) else Option.some (Sum.inl ()) else Option.some (Sum.inl ()) else bif decide (List.getD (Tr.ns a0) 0 0 < 9) then bif decide (0 < (↑(List.length (Tr.kids a0)) : Int)) then Option.some (Sum.inr 1) else Option.some (Sum.inl ()) else Option.some (Sum.inl ()) else bif decide (List.getD (Tr.ns a0) 0 0 = 9) then bif !decide ((↑(List.length (Tr.kids a0)) : Int) = 1) then Option.some (Sum.inr 1) else bif decide (9 < List.getD (Tr.ns a0) 0 0) then bif decide ((↑(List.length (Tr.kids a0)) : Int) < 2) then Option.some (Sum.inr 1) else bif decide (List.getD (Tr.ns a0) 0 0 < 9) then bif decide (0 < (↑(List.length (Tr.kids a0)) : Int)) then Option.some (Sum.inr 1) else Option.some (Sum.inl ()) else Option.some (Sum.inl ()) else bif decide (List.getD (Tr.ns a0) 0 0 < 9) then bif decide (0 < (↑(List.length (Tr.kids a0)) : Int)) then Option.some (Sum.inr 1) else Option.some (Sum.inl ()) else Option.some (Sum.inl ()) else bif decide (9 < List.getD (Tr.ns a0) 0 0) then bif decide ((↑(List.length (Tr.kids a0)) : Int) < 2) then Option.some (Sum.inr 1) else bif decide (List.getD (Tr.ns a0) 0 0 < 9) then bif decide (0 < (↑(List.length (Tr.kids a0)) : Int)) then Option.some (Sum.inr 1) else Option.some (Sum.inl ()) else Option.some (Sum.inl ()) else bif decide (List.getD (Tr.ns a0) 0 0 < 9) then bif decide (0 < (↑(List.length (Tr.kids a0)) : Int)) then Option.some (Sum.inr 1) else Option.some (Sum.inl ()) else Option.some (Sum.inl ()) else bif decide (r < 2) then bif !decide (List.getD (Tr.ns a0) (0 + 1 + 1) 0 = 0) then Option.some (Sum.inr 1) else bif decide (r = 2) then bif decide (List.getD (Tr.ns a0) (0 + 1 + 1) 0 < List.getD (Tr.ns a0) (0 + 1) 0) then Option.some (Sum.inr 1) else bif decide (List.getD (Tr.ns a0) 0 0 = 9) then bif !decide ((↑(List.length (Tr.kids a0)) : Int) = 1) then Option.some (Sum.inr 1) else bif decide (9 < List.getD (Tr.ns a0) 0 0) then bif decide ((↑(List.length (Tr.kids a0)) : Int) < 2) then Option.some (Sum.inr 1) else bif decide (List.getD (Tr.ns a0) 0 0 < 9) then bif decide (0 < (↑(List.length (Tr.kids a0)) : Int)) then Option.some (Sum.inr 1) else Option.some (Sum.inl ()) else Option.some (Sum.inl ()) else bif decide (List.getD (Tr.ns a0) 0 0 < 9) then bif decide (0 < (↑(List.length (Tr.kids a0)) : Int)) then Option.some (Sum.inr 1) else Option.some (Sum.inl ()) else Option.some (Sum.inl ()) else bif decide (9 < List.getD (Tr.ns a0) 0 0) then bif decide ((↑(List.length (Tr.kids a0)) : Int) < 2) then Option.some (Sum.inr 1) else bif decide (List.getD (Tr.ns a0) 0 0 < 9) then bif decide (0 < (↑(List.length (Tr.kids a0)) : Int)) then Option.some (Sum.inr 1) else Option.some (Sum.inl ()) else Option.some (Sum.inl ()) else bif decide (List.getD (Tr.ns a0) 0 0 < 9) then bif decide (0 < (↑(List.length (Tr.kids a0)) : Int)) then Option.some (Sum.inr 1) else Option.some (Sum.inl ()) else Option.some (Sum.inl ()) else bif decide (List.getD (Tr.ns a0) 0 0 = 9) then bif !decide ((↑(List.length (Tr.kids a0)) : Int) = 1) then Option.some (Sum.inr 1) else bif decide (9 < List.getD (Tr.ns a0) 0 0) then bif decide ((↑(List.length (Tr.kids a0)) : Int) < 2) then Option.some (Sum.inr 1) else bif decide (List.getD (Tr.ns a0) 0 0 < 9) then bif decide (0 < (↑(List.length (Tr.kids a0)) : Int)) then Option.some (Sum.inr 1) else Option.some (Sum.inl ()) else Option.some (Sum.inl ()) else bif decide (List.getD (Tr.ns a0) 0 0 < 9) then bif decide (0 < (↑(List.length (Tr.kids a0)) : Int)) then Option.some (Sum.inr 1) else Option.some (Sum.inl ()) else Option.some (Sum.inl ()) else bif decide (9 < List.getD (Tr.ns a0) 0 0) then bif decide ((↑(List.length (Tr.kids a0)) : Int) < 2) then Option.some (Sum.inr 1) else bif decide (List.getD (Tr.ns a0) 0 0 < 9) then bif decide (0 < (↑(List.length (Tr.kids a0)) : Int)) then Option.some (Sum.inr 1) else Option.some (Sum.inl ()) else Option.some (Sum.inl ()) else bif decide (List.getD (Tr.ns a0) 0 0 < 9) then bif decide (0 < (↑(List.length (Tr.kids a0)) : Int)) then Option.some (Sum.inr 1) else Option.some (Sum.inl ()) else Option.some (Sum.inl ()) else bif decide (r = 2) then bif decide (List.getD (Tr.ns a0) (0 + 1 + 1) 0 < List.getD (Tr.ns a0) (0 + 1) 0) then Option.some (Sum.inr 1) else bif decide (List.getD (Tr.ns a0) 0 0 = 9) then bif !decide ((↑(List.length (Tr.kids a0)) : Int) = 1) then Option.some (Sum.inr 1) else bif decide (9 < List.getD (Tr.ns a0) 0 0) then bif decide ((↑(List.length (Tr.kids a0)) : Int) < 2) then Option.some (Sum.inr 1) else bif decide (List.getD (Tr.ns a0) 0 0 < 9) then bif decide (0 < (↑(List.length (Tr.kids a0)) : Int)) then Option.some (Sum.inr 1) else Option.some (Sum.inl ()) else Option.some (Sum.inl ()) else bif decide (List.getD (Tr.ns a0) 0 0 < 9) then bif decide (0 < (↑(List.length (Tr.kids a0)) : Int)) then Option.some (Sum.inr 1) else Option.some (Sum.inl ()) else Option.some (Sum.inl ()) else bif decide (9 < List.getD (Tr.ns a0) 0 0) then bif decide ((↑(List.length (Tr.kids a0)) : Int) < 2) then Option.some (Sum.inr 1) else bif decide (List.getD (Tr.ns a0) 0 0 < 9) then bif decide (0 < (↑(List.length (Tr.kids a0)) : Int)) then Option.some (Sum.inr 1) else Option.some (Sum.inl ()) else Option.some (Sum.inl ()) else bif decide (List.getD (Tr.ns a0) 0 0 < 9) then bif decide (0 < (↑(List.length (Tr.kids a0)) : Int)) then Option.some (Sum.inr 1) else Option.some (Sum.inl ()) else Option.some (Sum.inl ()) else bif decide (List.getD (Tr.ns a0) 0 0 = 9) then bif !decide ((↑(List.length (Tr.kids a0)) : Int) = 1) then Option.some (Sum.inr 1) else bif decide (9 < List.getD (Tr.ns a0) 0 0) then bif decide ((↑(List.length (Tr.kids a0)) : Int) < 2) then Option.some (Sum.inr 1) else bif decide (List.getD (Tr.ns a0) 0 0 < 9) then bif decide (0 < (↑(List.length (Tr.kids a0)) : Int)) then Option.some (Sum.inr 1) else Option.some (Sum.inl ()) else Option.some (Sum.inl ()) else bif decide (List.getD (Tr.ns a0) 0 0 < 9) then bif decide (0 < (↑(List.length (Tr.kids a0)) : Int)) then Option.some (Sum.inr 1) else Option.some (Sum.inl ()) else Option.some (Sum.inl ()) else bif decide (9 < List.getD (Tr.ns a0) 0 0) then bif decide ((↑(List.length (Tr.kids a0)) : Int) < 2) then Option.some (Sum.inr 1) else bif decide (List.getD (Tr.ns a0) 0 0 < 9) then bif decide (0 < (↑(List.length (Tr.kids a0)) : Int)) then Option.some (Sum.inr 1) else Option.some (Sum.inl ()) else Option.some (Sum.inl ()) else bif decide (List.getD (Tr.ns a0) 0 0 < 9) then bif decide (0 < (↑(List.length (Tr.kids a0)) : Int)) then Option.some (Sum.inr 1) else Option.some (Sum.inl ()) else Option.some (Sum.inl ())) (Sum.elim (fun (p : Unit) ↦ Option.bind ((L132_11c n) a0 rec132 0) (Sum.elim (fun (p_2 : Unit) ↦ Option.some 0) fun (r_9 : Int) ↦ Option.some r_9)) fun (r_10 : Int) ↦ Option.some r_10)
theorem G132c_le (n : Nat) {rec132 rec132' : Tr → Option Int} (hrec132 : ∀ x0, Ole (rec132 x0) (rec132' x0)) (a0 : Tr) : Ole (G132c n rec132 a0) (G132 rec132' a0) := by
  unfold G132c G132
  repeat' (first | assumption | (with_reducible apply F159c_le) | (with_reducible apply F79c_le) | (with_reducible apply L132_11c_le) | (with_reducible apply hrec132) | (with_reducible exact Ole.refl _) | (with_reducible apply Ole.cond) | (with_reducible apply Ole.asrt) | (with_reducible apply Ole.bind) | (with_reducible apply Ole.elim) | intro)

def F132nc (n : Nat)  : Nat → Tr → Option Int
  | 0 => fun _ => none
  | k + 1 => (G132c n) (F132nc n k)
theorem F132nc_le (n : Nat)  : ∀ (k m : Nat), k ≤ m → ∀ x0, Ole (F132nc n  k x0) (F132n  m x0)
  | 0, m, _, x0 => fun o h => by simp [F132nc] at h
  | k + 1, 0, h, x0 => absurd h (by omega)
  | k + 1, m + 1, h, x0 => by
    unfold F132nc F132n
    have ih := fun x0 => F132nc_le n  k m (by omega) x0
    apply G132c_le <;> assumption

def F132c (n : Nat) (a0 : Tr) : Option (Int) := F132nc n  n a0
theorem F132c_le (n : Nat) (a0 : Tr) : Ole (F132c n a0) (F132 a0) := fun o h => evF_of n fun k hk => F132nc_le n  n k hk a0 o h

def F80c (n : Nat) (a0 : Tr) : Option (Int) := Option.bind ((F131c n) a0) fun (r : Int × Int) ↦ bif decide (40 < Prod.fst r) then Option.some 4 else bif decide (6 < Prod.snd r) then Option.some 4 else Option.bind ((F132c n) a0) fun (r_2 : Int) ↦ Option.some r_2
theorem F80c_le (n : Nat) (a0 : Tr) : Ole (F80c n a0) (F80 a0) := by
  unfold F80c F80
  repeat' (first | assumption | (with_reducible apply F131c_le) | (with_reducible apply F132c_le) | (with_reducible exact Ole.refl _) | (with_reducible apply Ole.cond) | (with_reducible apply Ole.asrt) | (with_reducible apply Ole.bind) | (with_reducible apply Ole.elim) | intro)

def B19_4c (n : Nat) (a0 : TTariff) (v23 : Int) : Option (Int ⊕ Unit ⊕ Int) := bif decide (v23 < (↑(List.length (TTariff.bands a0)) : Int)) then asrt (0 ≤ v23 ∧ v23 < (↑(List.length (TTariff.bands a0)) : Int)) (Option.bind ((F79c n) (TBand.upto (List.getD (TTariff.bands a0) (Int.toNat v23) TBand.d)) 1 1000) fun (r_2 : Bool) ↦ bif !r_2 then Option.some (Sum.inr (Sum.inr 2)) else Option.bind ((F79c n) (TBand.price (List.getD (TTariff.bands a0) (Int.toNat v23) TBand.d)) 0 100000) fun (r_3 : Bool) ↦ bif !r_3 then Option.some (Sum.inr (Sum.inr 2)) else bif decide (0 < v23) then asrt (0 ≤ Go.IntKind.wrap Go.IntKind.i64 (v23 - 1) ∧ Go.IntKind.wrap Go.IntKind.i64 (v23 - 1) < (↑(List.length (TTariff.bands a0)) : Int)) (bif decide (TBand.upto (List.getD (TTariff.bands a0) (Int.toNat v23) TBand.d) ≤ TBand.upto (List.getD (TTariff.bands a0) (Int.toNat (Go.IntKind.wrap Go.IntKind.i64 (v23 - 1))) TBand.d)) then Option.some (Sum.inr (Sum.inr 1)) else bif decide (TBand.price (List.getD (TTariff.bands a0) (Int.toNat v23) TBand.d) < TBand.price (List.getD (TTariff.bands a0) (Int.toNat (Go.IntKind.wrap Go.IntKind.i64 (v23 - 1))) TBand.d)) then Option.some (Sum.inr (Sum.inr 1)) else Option.some (Sum.inl (Go.IntKind.wrap Go.IntKind.i64 (v23 + 1)))) else Option.some (Sum.inl (Go.IntKind.wrap Go.IntKind.i64 (v23 + 1)))) else Option.some (Sum.inr (Sum.inl ()))
theorem B19_4c_le (n : Nat) (a0 : TTariff) (v23 : Int) : Ole (B19_4c n a0 v23) (B19_4 a0 v23) := by
  unfold B19_4c B19_4
  repeat' (first | assumption | (with_reducible apply F79c_le) | (with_reducible exact Ole.refl _) | (with_reducible apply Ole.cond) | (with_reducible apply Ole.asrt) | (with_reducible apply Ole.bind) | (with_reducible apply Ole.elim) | intro)

def L19_4c (n : Nat) (a0 : TTariff) (s : Int) : Option (Unit ⊕ Int) := loopF (fun s => (B19_4c n) a0 s) n s
theorem L19_4c_le (n : Nat) (a0 : TTariff) (s : Int) : Ole (L19_4c n a0 s) (L19_4 a0 s) := by
  unfold L19_4c L19_4
  exact Ole.loop (fun s => by apply B19_4c_le <;> assumption) n s

def B19_14c (n : Nat) (a0 : TTariff) (v72 : Int) : Option (Int ⊕ Unit ⊕ Int) := bif decide (v72 < (↑(List.length (TTariff.rules a0)) : Int)) then asrt (0 ≤ v72 ∧ v72 < (↑(List.length (TTariff.rules a0)) : Int)) (Option.bind ((F80c n) (TRule.if0 (List.getD (TTariff.rules a0) (Int.toNat v72) TRule.d))) fun (r_7 : Int) ↦ bif !decide (r_7 = 0) then Option.some (Sum.inr (Sum.inr r_7)) else bif decide (TRule.do0 (List.getD (TTariff.rules a0) (Int.toNat v72) TRule.d) = 1) then Option.bind ((F79c n) (TRule.do0 (List.getD (TTariff.rules a0) (Int.toNat v72) TRule.d)) 1 6) fun (r_8 : Bool) ↦ bif !r_8 then Option.some (Sum.inr (Sum.inr 15)) else Option.bind ((F79c n) (TRule.n (List.getD (TTariff.rules a0) (Int.toNat v72) TRule.d)) 0 200) fun (r_9 : Bool) ↦ bif !r_9 then Option.some (Sum.inr (Sum.inr 2)) else Option.some (Sum.inl (Go.IntKind.wrap Go.IntKind.i64 (v72 + 1))) else Option.bind ((F79c n) (TRule.do0 (List.getD (TTariff.rules a0) (Int.toNat v72) TRule.d)) 1 6) fun (r_10 : Bool) ↦ bif !r_10 then Option.some (Sum.inr (Sum.inr 15)) else Option.bind ((F79c n) (TRule.n (List.getD (TTariff.rules a0) (Int.toNat v72) TRule.d)) 0 100000) fun (r_11 : Bool) ↦ bif !r_11 then Option.some (Sum.inr (Sum.inr 2)) else Option.some (Sum.inl (Go.IntKind.wrap Go.IntKind.i64 (v72 + 1)))) else Option.some (Sum.inr (Sum.inl ()))
theorem B19_14c_le (n : Nat) (a0 : TTariff) (v72 : Int) : Ole (B19_14c n a0 v72) (B19_14 a0 v72) := by
  unfold B19_14c B19_14
  repeat' (first | assumption | (with_reducible apply F79c_le) | (with_reducible apply F80c_le) | (with_reducible exact Ole.refl _) | (with_reducible apply Ole.cond) | (with_reducible apply Ole.asrt) | (with_reducible apply Ole.bind) | (with_reducible apply Ole.elim) | intro)

def L19_14c (n : Nat) (a0 : TTariff) (s : Int) : Option (Unit ⊕ Int) := loopF (fun s => (B19_14c n) a0 s) n s
theorem L19_14c_le (n : Nat) (a0 : TTariff) (s : Int) : Ole (L19_14c n a0 s) (L19_14 a0 s) := by
  unfold L19_14c L19_14
  exact Ole.loop (fun s => by apply B19_14c_le <;> assumption) n s

def F19c (n : Nat) (a0 : TTariff) : Option (Int) := Option.bind ((F79c n) (↑(List.length (TTariff.bands a0)) : Int) 1 8) fun (r : Bool) ↦ bif !r then Option.some 4 else bif decide (20 < (↑(List.length (TTariff.rules a0)) : Int)) then Option.some 4 else Option.bind ((L19_4c n) a0 0) (Sum.elim (fun (p : Unit) ↦ Option.bind ((F79c n) (TTariff.round a0) 1 100) fun (r_6 : Bool) ↦ bif !r_6 then Option.some 2 else Option.bind ((L19_14c n) a0 0) (Sum.elim (fun (p_2 : Unit) ↦ Option.some 0) fun (r_14 : Int) ↦ Option.some r_14)) fun (r_15 : Int) ↦ Option.some r_15)
theorem F19c_le (n : Nat) (a0 : TTariff) : Ole (F19c n a0) (F19 a0) := by
  unfold F19c F19
  repeat' (first | assumption | (with_reducible apply F79c_le) | (with_reducible apply L19_14c_le) | (with_reducible apply L19_4c_le) | (with_reducible exact Ole.refl _) | (with_reducible apply Ole.cond) | (with_reducible apply Ole.asrt) | (with_reducible apply Ole.bind) | (with_reducible apply Ole.elim) | intro)

def B82_2c (n : Nat) (a0 : List Int) (a1 : Bool) (v9 : Int) : Option (Int ⊕ Unit ⊕ Int) := bif decide (v9 < (↑(List.length a0) : Int)) then asrt (0 ≤ v9 ∧ v9 < (↑(List.length a0) : Int)) (Option.bind ((F79c n) (List.getD a0 (Int.toNat v9) 0) 0 19) fun (r : Bool) ↦ bif !r then Option.some (Sum.inr (Sum.inr 2)) else bif decide (0 < v9) then asrt (0 ≤ Go.IntKind.wrap Go.IntKind.i64 (v9 - 1) ∧ Go.IntKind.wrap Go.IntKind.i64 (v9 - 1) < (↑(List.length a0) : Int)) (bif decide (List.getD a0 (Int.toNat v9) 0 = List.getD a0 (Int.toNat (Go.IntKind.wrap Go.IntKind.i64 (v9 - 1))) 0) then Option.some (Sum.inr (Sum.inr 1)) else bif a1 then bif decide (List.getD a0 (Int.toNat v9) 0 < List.getD a0 (Int.toNat (Go.IntKind.wrap Go.IntKind.i64 (v9 - 1))) 0) then Option.some (Sum.inr (Sum.inr 1)) else Option.some (Sum.inl (Go.IntKind.wrap Go.IntKind.i64 (v9 + 1))) else Option.some (Sum.inl (Go.IntKind.wrap Go.IntKind.i64 (v9 + 1)))) else Option.some (Sum.inl (Go.IntKind.wrap Go.IntKind.i64 (v9 + 1)))) else Option.some (Sum.inr (Sum.inl ()))
theorem B82_2c_le (n : Nat) (a0 : List Int) (a1 : Bool) (v9 : Int) : Ole (B82_2c n a0 a1 v9) (B82_2 a0 a1 v9) := by
  unfold B82_2c B82_2
  repeat' (first | assumption | (with_reducible apply F79c_le) | (with_reducible exact Ole.refl _) | (with_reducible apply Ole.cond) | (with_reducible apply Ole.asrt) | (with_reducible apply Ole.bind) | (with_reducible apply Ole.elim) | intro)

def L82_2c (n : Nat) (a0 : List Int) (a1 : Bool) (s : Int) : Option (Unit ⊕ Int) := loopF (fun s => (B82_2c n) a0 a1 s) n s
theorem L82_2c_le (n : Nat) (a0 : List Int) (a1 : Bool) (s : Int) : Ole (L82_2c n a0 a1 s) (L82_2 a0 a1 s) := by
  unfold L82_2c L82_2
  exact Ole.loop (fun s => by apply B82_2c_le <;> assumption) n s

def F82c (n : Nat) (a0 : List Int) (a1 : Bool) : Option (Int) := Option.bind ((L82_2c n) a0 a1 0) (Sum.elim (fun (p : Unit) ↦ Option.some 0) fun (r_4 : Int) ↦ Option.some r_4)
theorem F82c_le (n : Nat) (a0 : List Int) (a1 : Bool) : Ole (F82c n a0 a1) (F82 a0 a1) := by
  unfold F82c F82
  repeat' (first | assumption | (with_reducible apply L82_2c_le) | (with_reducible exact Ole.refl _) | (with_reducible apply Ole.cond) | (with_reducible apply Ole.asrt) | (with_reducible apply Ole.bind) | (with_reducible apply Ole.elim) | intro)

def F21c (n : Nat) (a0 : TTrip) : Option (Int) := Option.bind ((F79c n) (TTrip.day a0) 0 6) fun (r : Bool) ↦ bif !r then Option.some 2 else Option.bind ((F79c n) (TTrip.at0 a0) 0 28800) fun (r_2 : Bool) ↦ bif !r_2 then Option.some 2 else Option.bind ((F79c n) (TTrip.km a0) 0 1000) fun (r_3 : Bool) ↦ bif !r_3 then Option.some 2 else Option.bind ((F79c n) (TTrip.age a0) 0 120) fun (r_4 : Bool) ↦ bif !r_4 then Option.some 2 else Option.bind ((F79c n) (↑(List.length (TTrip.zones a0)) : Int) 1 10) fun (r_5 : Bool) ↦ bif !r_5 then Option.some 4 else Option.bind ((F82c n) (TTrip.zones a0) Bool.false) fun (r_6 : Int) ↦ Option.some r_6
theorem F21c_le (n : Nat) (a0 : TTrip) : Ole (F21c n a0) (F21 a0) := by
  unfold F21c F21
  repeat' (first | assumption | (with_reducible apply F79c_le) | (with_reducible apply F82c_le) | (with_reducible exact Ole.refl _) | (with_reducible apply Ole.cond) | (with_reducible apply Ole.asrt) | (with_reducible apply Ole.bind) | (with_reducible apply Ole.elim) | intro)

def F134c (n : Nat) (a0 : TBand) (b0_0 : Int) : Option (Bool × Int) := Option.some (decide (b0_0 ≤ TBand.upto a0), b0_0)
theorem F134c_le (n : Nat) (a0 : TBand) (b0_0 : Int) : Ole (F134c n a0 b0_0) (F134 a0 b0_0) := by
  unfold F134c F134
  repeat' (first | assumption | (with_reducible exact Ole.refl _) | (with_reducible apply Ole.cond) | (with_reducible apply Ole.asrt) | (with_reducible apply Ole.bind) | (with_reducible apply Ole.elim) | intro)

def B133_2c (n : Nat) (a0 : List TBand) (v8 : Int) (b0_0_2 : Int) : Option (Int × Int ⊕ Int ⊕ Int × Int) := bif decide (v8 < (↑(List.length a0) : Int)) then asrt (0 ≤ v8 ∧ v8 < (↑(List.length a0) : Int)) (Option.bind ((F134c n) (List.getD a0 (Int.toNat v8) TBand.d) b0_0_2) fun (r : Bool × Int) ↦ bif Prod.fst r then Option.some (Sum.inr (Sum.inr (v8, Prod.snd r))) else Option.some (Sum.inl (Go.IntKind.wrap Go.IntKind.i64 (v8 + 1), Prod.snd r))) else Option.some (Sum.inr (Sum.inl b0_0_2))
theorem B133_2c_le (n : Nat) (a0 : List TBand) (v8 : Int) (b0_0_2 : Int) : Ole (B133_2c n a0 v8 b0_0_2) (B133_2 a0 v8 b0_0_2) := by
  unfold B133_2c B133_2
  repeat' (first | assumption | (with_reducible apply F134c_le) | (with_reducible exact Ole.refl _) | (with_reducible apply Ole.cond) | (with_reducible apply Ole.asrt) | (with_reducible apply Ole.bind) | (with_reducible apply Ole.elim) | intro)

def L133_2c (n : Nat) (a0 : List TBand) (s : Int × Int) : Option (Int ⊕ Int × Int) := loopF (fun s => (B133_2c n) a0 s.1 s.2) n s
theorem L133_2c_le (n : Nat) (a0 : List TBand) (s : Int × Int) : Ole (L133_2c n a0 s) (L133_2 a0 s) := by
  unfold L133_2c L133_2
  exact Ole.loop (fun s => by apply B133_2c_le <;> assumption) n s

def F133c (n : Nat) (a0 : List TBand) (b0_0 : Int) : Option (Int × Int) := Option.bind ((L133_2c n) a0 (0, b0_0)) (Sum.elim (fun (p : Int) ↦ Option.some (-1, p)) fun (r_4 : Int × Int) ↦ Option.some r_4)
theorem F133c_le (n : Nat) (a0 : List TBand) (b0_0 : Int) : Ole (F133c n a0 b0_0) (F133 a0 b0_0) := by
  unfold F133c F133
  repeat' (first | assumption | (with_reducible apply L133_2c_le) | (with_reducible exact Ole.refl _) | (with_reducible apply Ole.cond) | (with_reducible apply Ole.asrt) | (with_reducible apply Ole.bind) | (with_reducible apply Ole.elim) | intro)

def F136c (n : Nat) (a0 : Int) (a1 : Tr) : Option (Bool) := Option.bind ((F79c n) a0 (List.getD (Tr.ns a1) 1 0) (List.getD (Tr.ns a1) 2 0)) fun (r : Bool) ↦ Option.some r
theorem F136c_le (n : Nat) (a0 : Int) (a1 : Tr) : Ole (F136c n a0 a1) (F136 a0 a1) := by
  unfold F136c F136
  repeat' (first | assumption | (with_reducible apply F79c_le) | (with_reducible exact Ole.refl _) | (with_reducible apply Ole.cond) | (with_reducible apply Ole.asrt) | (with_reducible apply Ole.bind) | (with_reducible apply Ole.elim) | intro)

def B141_2c (n : Nat) (a0 : List Int) (a1 : Int) (v8 : Int) : Option (Int ⊕ Unit ⊕ Int) := bif decide (v8 < (↑(List.length a0) : Int)) then asrt (0 ≤ v8 ∧ v8 < (↑(List.length a0) : Int)) (bif decide (a1 = List.getD a0 (Int.toNat v8) 0) then Option.some (Sum.inr (Sum.inr v8)) else Option.some (Sum.inl (Go.IntKind.wrap Go.IntKind.i64 (v8 + 1)))) else Option.some (Sum.inr (Sum.inl ()))
theorem B141_2c_le (n : Nat) (a0 : List Int) (a1 : Int) (v8 : Int) : Ole (B141_2c n a0 a1 v8) (B141_2 a0 a1 v8) := by
  unfold B141_2c B141_2
  repeat' (first | assumption | (with_reducible exact Ole.refl _) | (with_reducible apply Ole.cond) | (with_reducible apply Ole.asrt) | (with_reducible apply Ole.bind) | (with_reducible apply Ole.elim) | intro)

def L141_2c (n : Nat) (a0 : List Int) (a1 : Int) (s : Int) : Option (Unit ⊕ Int) := loopF (fun s => (B141_2c n) a0 a1 s) n s
theorem L141_2c_le (n : Nat) (a0 : List Int) (a1 : Int) (s : Int) : Ole (L141_2c n a0 a1 s) (L141_2 a0 a1 s) := by
  unfold L141_2c L141_2
  exact Ole.loop (fun s => by apply B141_2c_le <;> assumption) n s

def F141c (n : Nat) (a0 : List Int) (a1 : Int) : Option (Int) := Option.bind ((L141_2c n) a0 a1 0) (Sum.elim (fun (p : Unit) ↦ Option.some (-1)) fun (r_3 : Int) ↦ Option.some r_3)
theorem F141c_le (n : Nat) (a0 : List Int) (a1 : Int) : Ole (F141c n a0 a1) (F141 a0 a1) := by
  unfold F141c F141
  repeat' (first | assumption | (with_reducible apply L141_2c_le) | (with_reducible exact Ole.refl _) | (with_reducible apply Ole.cond) | (with_reducible apply Ole.asrt) | (with_reducible apply Ole.bind) | (with_reducible apply Ole.elim) | intro)

def F87c (n : Nat) (a0 : List Int) (a1 : Int) : Option (Bool) := Option.bind ((F141c n) a0 a1) fun (r : Int) ↦ Option.some (decide (0 ≤ r))
theorem F87c_le (n : Nat) (a0 : List Int) (a1 : Int) : Ole (F87c n a0 a1) (F87 a0 a1) := by
  unfold F87c F87
  repeat' (first | assumption | (with_reducible apply F141c_le) | (with_reducible exact Ole.refl _) | (with_reducible apply Ole.cond) | (with_reducible apply Ole.asrt) | (with_reducible apply Ole.bind) | (with_reducible apply Ole.elim) | intro)

def F138c (n : Nat) (rec84 : Tr → TTrip → Option Bool) (a0 : Tr) (a1 : TTrip) : Option (Bool) := Option.bind (rec84 a0 a1) fun (r : Bool) ↦ Option.some !r
theorem F138c_le (n : Nat) {rec84 rec84' : Tr → TTrip → Option Bool} (hrec84 : ∀ x0 x1, Ole (rec84 x0 x1) (rec84' x0 x1)) (a0 : Tr) (a1 : TTrip) : Ole (F138c n rec84 a0 a1) (F138 rec84' a0 a1) := by
  unfold F138c F138
  repeat' (first | assumption | (with_reducible apply hrec84) | (with_reducible exact Ole.refl _) | (with_reducible apply Ole.cond) | (with_reducible apply Ole.asrt) | (with_reducible apply Ole.bind) | (with_reducible apply Ole.elim) | intro)

def B160_2c (n : Nat) (a0 : List Tr) (a1 : TTrip) (rec84 : Tr → TTrip → Option Bool) (v8 : Int) : Option (Int ⊕ Unit ⊕ Int) := bif decide (v8 < (↑(List.length a0) : Int)) then asrt (0 ≤ v8 ∧ v8 < (↑(List.length a0) : Int)) (Option.bind ((F138c n) rec84 (List.getD a0 (Int.toNat v8) Tr.d) a1) fun (r : Bool) ↦ bif r then Option.some (Sum.inr (Sum.inr v8)) else Option.some (Sum.inl (Go.IntKind.wrap Go.IntKind.i64 (v8 + 1)))) else Option.some (Sum.inr (Sum.inl ()))
theorem B160_2c_le (n : Nat) (a0 : List Tr) (a1 : TTrip) {rec84 rec84' : Tr → TTrip → Option Bool} (hrec84 : ∀ x0 x1, Ole (rec84 x0 x1) (rec84' x0 x1)) (v8 : Int) : Ole (B160_2c n a0 a1 rec84 v8) (B160_2 a0 a1 rec84' v8) := by
  unfold B160_2c B160_2
  repeat' (first | assumption | (with_reducible apply F138c_le) | (with_reducible apply hrec84) | (with_reducible exact Ole.refl _) | (with_reducible apply Ole.cond) | (with_reducible apply Ole.asrt) | (with_reducible apply Ole.bind) | (with_reducible apply Ole.elim) | intro)

def L160_2c (n : Nat) (a0 : List Tr) (a1 : TTrip) (rec84 : Tr → TTrip → Option Bool) (s : Int) : Option (Unit ⊕ Int) := loopF (fun s => (B160_2c n) a0 a1 rec84 s) n s
theorem L160_2c_le (n : Nat) (a0 : List Tr) (a1 : TTrip) {rec84 rec84' : Tr → TTrip → Option Bool} (hrec84 : ∀ x0 x1, Ole (rec84 x0 x1) (rec84' x0 x1)) (s : Int) : Ole (L160_2c n a0 a1 rec84 s) (L160_2 a0 a1 rec84' s) := by
  unfold L160_2c L160_2
  exact Ole.loop (fun s => by apply B160_2c_le <;> assumption) n s

def F160c (n : Nat) (rec84 : Tr → TTrip → Option Bool) (a0 : List Tr) (a1 : TTrip) : Option (Int) := Option.bind ((L160_2c n) a0 a1 rec84 0) (Sum.elim (fun (p : Unit) ↦ Option.some (-1)) fun (r_4 : Int) ↦ Option.some r_4)
theorem F160c_le (n : Nat) {rec84 rec84' : Tr → TTrip → Option Bool} (hrec84 : ∀ x0 x1, Ole (rec84 x0 x1) (rec84' x0 x1)) (a0 : List Tr) (a1 : TTrip) : Ole (F160c n rec84 a0 a1) (F160 rec84' a0 a1) := by
  unfold F160c F160
  repeat' (first | assumption | (with_reducible apply L160_2c_le) | (with_reducible apply hrec84) | (with_reducible exact Ole.refl _) | (with_reducible apply Ole.cond) | (with_reducible apply Ole.asrt) | (with_reducible apply Ole.bind) | (with_reducible apply Ole.elim) | intro)

def F137c (n : Nat) (rec84 : Tr → TTrip → Option Bool) (a0 : List Tr) (a1 : TTrip) : Option (Bool) := Option.bind ((F160c n) rec84 a0 a1) fun (r : Int) ↦ Option.some (decide (0 ≤ r))
theorem F137c_le (n : Nat) {rec84 rec84' : Tr → TTrip → Option Bool} (hrec84 : ∀ x0 x1, Ole (rec84 x0 x1) (rec84' x0 x1)) (a0 : List Tr) (a1 : TTrip) : Ole (F137c n rec84 a0 a1) (F137 rec84' a0 a1) := by
  unfold F137c F137
  repeat' (first | assumption | (with_reducible apply F160c_le) | (with_reducible apply hrec84) | (with_reducible exact Ole.refl _) | (with_reducible apply Ole.cond) | (with_reducible apply Ole.asrt) | (with_reducible apply Ole.bind) | (with_reducible apply Ole.elim) | intro)

def F139c (n : Nat) (rec84 : Tr → TTrip → Option Bool) (a0 : Tr) (a1 : TTrip) : Option (Bool) := Option.bind (rec84 a0 a1) fun (r : Bool) ↦ Option.some r
theorem F139c_le (n : Nat) {rec84 rec84' : Tr → TTrip → Option Bool} (hrec84 : ∀ x0 x1, Ole (rec84 x0 x1) (rec84' x0 x1)) (a0 : Tr) (a1 : TTrip) : Ole (F139c n rec84 a0 a1) (F139 rec84' a0 a1) := by
  unfold F139c F139
  repeat' (first | assumption | (with_reducible apply hrec84) | (with_reducible exact Ole.refl _) | (with_reducible apply Ole.cond) | (with_reducible apply Ole.asrt) | (with_reducible apply Ole.bind) | (with_reducible apply Ole.elim) | intro)

def B160b_2c (n : Nat) (a0 : List Tr) (a1 : TTrip) (rec84 : Tr → TTrip → Option Bool) (v8 : Int) : Option (Int ⊕ Unit ⊕ Int) := bif decide (v8 < (↑(List.length a0) : Int)) then asrt (0 ≤ v8 ∧ v8 < (↑(List.length a0) : Int)) (Option.bind ((F139c n) rec84 (List.getD a0 (Int.toNat v8) Tr.d) a1) fun (r : Bool) ↦ bif r then Option.some (Sum.inr (Sum.inr v8)) else Option.some (Sum.inl (Go.IntKind.wrap Go.IntKind.i64 (v8 + 1)))) else Option.some (Sum.inr (Sum.inl ()))
theorem B160b_2c_le (n : Nat) (a0 : List Tr) (a1 : TTrip) {rec84 rec84' : Tr → TTrip → Option Bool} (hrec84 : ∀ x0 x1, Ole (rec84 x0 x1) (rec84' x0 x1)) (v8 : Int) : Ole (B160b_2c n a0 a1 rec84 v8) (B160b_2 a0 a1 rec84' v8) := by
  unfold B160b_2c B160b_2
  repeat' (first | assumption | (with_reducible apply F139c_le) | (with_reducible apply hrec84) | (with_reducible exact Ole.refl _) | (with_reducible apply Ole.cond) | (with_reducible apply Ole.asrt) | (with_reducible apply Ole.bind) | (with_reducible apply Ole.elim) | intro)

def L160b_2c (n : Nat) (a0 : List Tr) (a1 : TTrip) (rec84 : Tr → TTrip → Option Bool) (s : Int) : Option (Unit ⊕ Int) := loopF (fun s => (B160b_2c n) a0 a1 rec84 s) n s
theorem L160b_2c_le (n : Nat) (a0 : List Tr) (a1 : TTrip) {rec84 rec84' : Tr → TTrip → Option Bool} (hrec84 : ∀ x0 x1, Ole (rec84 x0 x1) (rec84' x0 x1)) (s : Int) : Ole (L160b_2c n a0 a1 rec84 s) (L160b_2 a0 a1 rec84' s) := by
  unfold L160b_2c L160b_2
  exact Ole.loop (fun s => by apply B160b_2c_le <;> assumption) n s

def F160bc (n : Nat) (rec84 : Tr → TTrip → Option Bool) (a0 : List Tr) (a1 : TTrip) : Option (Int) := Option.bind ((L160b_2c n) a0 a1 rec84 0) (Sum.elim (fun (p : Unit) ↦ Option.some (-1)) fun (r_4 : Int) ↦ Option.some r_4)
theorem F160bc_le (n : Nat) {rec84 rec84' : Tr → TTrip → Option Bool} (hrec84 : ∀ x0 x1, Ole (rec84 x0 x1) (rec84' x0 x1)) (a0 : List Tr) (a1 : TTrip) : Ole (F160bc n rec84 a0 a1) (F160b rec84' a0 a1) := by
  unfold F160bc F160b
  repeat' (first | assumption | (with_reducible apply L160b_2c_le) | (with_reducible apply hrec84) | (with_reducible exact Ole.refl _) | (with_reducible apply Ole.cond) | (with_reducible apply Ole.asrt) | (with_reducible apply Ole.bind) | (with_reducible apply Ole.elim) | intro)

def F137bc (n : Nat) (rec84 : Tr → TTrip → Option Bool) (a0 : List Tr) (a1 : TTrip) : Option (Bool) := Option.bind ((F160bc n) rec84 a0 a1) fun (r : Int) ↦ Option.some (decide (0 ≤ r))
theorem F137bc_le (n : Nat) {rec84 rec84' : Tr → TTrip → Option Bool} (hrec84 : ∀ x0 x1, Ole (rec84 x0 x1) (rec84' x0 x1)) (a0 : List Tr) (a1 : TTrip) : Ole (F137bc n rec84 a0 a1) (F137b rec84' a0 a1) := by
  unfold F137bc F137b
  repeat' (first | assumption | (with_reducible apply F160bc_le) | (with_reducible apply hrec84) | (with_reducible exact Ole.refl _) | (with_reducible apply Ole.cond) | (with_reducible apply Ole.asrt) | (with_reducible apply Ole.bind) | (with_reducible apply Ole.elim) | intro)

def G84c (n : Nat) (rec84 : Tr → TTrip → Option Bool) (a0 : Tr) (a1 : TTrip) : Option (Bool) := bif decide (List.getD (Tr.ns a0) 0 0 = 1) then Option.some (TTrip.card a1) else bif decide (List.getD (Tr.ns a0) 0 0 = 2) then Option.bind ((F136c n) (TTrip.age a1) a0) fun (r : Bool) ↦ Option.some r else bif decide (List.getD (Tr.ns a0) 0 0 = 3) then Option.bind ((F136c n) (TTrip.at0 a1) a0) fun (r_2 : Bool) ↦ Option.some r_2 else bif decide (List.getD (Tr.ns a0) 0 0 = 4) then Option.bind ((F136c n) (TTrip.km a1) a0) fun (r_3 : Bool) ↦ Option.some r_3 else bif decide (List.getD (Tr.ns a0) 0 0 = 5) then Option.bind ((F136c n) (↑(List.length (TTrip.zones a1)) : Int) a0) fun (r_4 : Bool) ↦ Option.some r_4 else bif decide (List.getD (Tr.ns a0) 0 0 = 6) then Option.bind ((F87c n) (TTrip.zones a1) (List.getD (Tr.ns a0) (0 + 1) 0)) fun (r_5 : Bool) ↦ Option.some r_5 else bif decide (List.getD (Tr.ns a0) 0 0 = 7) then asrt (0 < (↑(List.length (TTrip.zones a1)) : Int)) (Option.some (decide (List.getD (TTrip.zones a1) (Int.toNat 0) 0 = List.getD (Tr.ns a0) (0 + 1) 0))) else bif decide (List.getD (Tr.ns a0) 0 0 = 8) then asrt (0 ≤ Go.IntKind.wrap Go.IntKind.i64 ((↑(List.length (TTrip.zones a1)) : Int) - 1) ∧ Go.IntKind.wrap Go.IntKind.i64 ((↑(List.length (TTrip.zones a1)) : Int) - 1) < (↑(List.length (TTrip.zones a1)) : Int)) (Option.some (decide (List.getD (TTrip.zones a1) (Int.toNat (Go.IntKind.wrap Go.IntKind.i64 ((↑(List.length (TTrip.zones a1)) : Int) - 1))) 0 = List.getD (Tr.ns a0) (0 + 1) 0))) else bif decide (List.getD (Tr.ns a0) 0 0 = 9) then asrt (0 < (↑(List.length (Tr.kids a0)) : Int)) (Option.bind (rec84 (Tr.mk [List.getD (Tr.ns (List.getD (Tr.kids a0) (Int.toNat 0) Tr.d)) 0 0, List.getD (Tr.ns (List.getD (Tr.kids a0) 0 Tr.d)) 1 0, List.getD (Tr.ns (List.getD (Tr.kids a0) 0 Tr.d)) 2 0] (Tr.kids (List.getD (Tr.kids a0) 0 Tr.d))) a1) fun (r_6 : Bool) ↦ Option.some !r_6) else bif decide (List.getD (Tr.ns a0) 0 0 = 10) then Option.bind ((F137c n) rec84 (Tr.kids a0) a1) fun (r_7 : Bool) ↦ Option.some !r_7 else bif decide (List.getD (Tr.ns a0) 0 0 = 11) then Option.bind ((F137bc n) rec84 (Tr.kids a0) a1) fun (r_8 : Bool) ↦ Option.some r_8 else Option.some Bool.true
theorem G84c_le (n : Nat) {rec84 rec84' : Tr → TTrip → Option Bool} (hrec84 : ∀ x0 x1, Ole (rec84 x0 x1) (rec84' x0 x1)) (a0 : Tr) (a1 : TTrip) : Ole (G84c n rec84 a0 a1) (G84 rec84' a0 a1) := by
  unfold G84c G84
  repeat' (first | assumption | (with_reducible apply F136c_le) | (with_reducible apply F137c_le) | (with_reducible apply F137bc_le) | (with_reducible apply F87c_le) | (with_reducible apply hrec84) | (with_reducible exact Ole.refl _) | (with_reducible apply Ole.cond) | (with_reducible apply Ole.asrt) | (with_reducible apply Ole.bind) | (with_reducible apply Ole.elim) | intro)

def F84nc (n : Nat)  : Nat → Tr → TTrip → Option Bool
  | 0 => fun _ _ => none
  | k + 1 => (G84c n) (F84nc n k)
theorem F84nc_le (n : Nat)  : ∀ (k m : Nat), k ≤ m → ∀ x0 x1, Ole (F84nc n  k x0 x1) (F84n  m x0 x1)
  | 0, m, _, x0, x1 => fun o h => by simp [F84nc] at h
  | k + 1, 0, h, x0, x1 => absurd h (by omega)
  | k + 1, m + 1, h, x0, x1 => by
    unfold F84nc F84n
    have ih := fun x0 x1 => F84nc_le n  k m (by omega) x0 x1
    apply G84c_le <;> assumption

def F84c (n : Nat) (a0 : Tr) (a1 : TTrip) : Option (Bool) := F84nc n  n a0 a1
theorem F84c_le (n : Nat) (a0 : Tr) (a1 : TTrip) : Ole (F84c n a0 a1) (F84 a0 a1) := fun o h => evF_of n fun k hk => F84nc_le n  n k hk a0 a1 o h

def F135c (n : Nat) (a0 : TRule) (a1 : Int) : Option (Int) := bif decide (TRule.do0 a0 = 1) then Option.some (Min.min 100000 (Go.IntKind.wrap Go.IntKind.i64 (Int.tdiv (Go.IntKind.wrap Go.IntKind.i64 (a1 * TRule.n a0)) 100))) else bif decide (TRule.do0 a0 = 2) then Option.some (Max.max 0 (Go.IntKind.wrap Go.IntKind.i64 (a1 - TRule.n a0))) else bif decide (TRule.do0 a0 = 3) then Option.some (Min.min 100000 (Go.IntKind.wrap Go.IntKind.i64 (a1 + TRule.n a0))) else bif decide (TRule.do0 a0 = 4) then Option.some (TRule.n a0) else bif decide (TRule.do0 a0 = 5) then Option.some (Min.min a1 (TRule.n a0)) else Option.some (Max.max a1 (TRule.n a0))
theorem F135c_le (n : Nat) (a0 : TRule) (a1 : Int) : Ole (F135c n a0 a1) (F135 a0 a1) := by
  unfold F135c F135
  repeat' (first | assumption | (with_reducible exact Ole.refl _) | (with_reducible apply Ole.cond) | (with_reducible apply Ole.asrt) | (with_reducible apply Ole.bind) | (with_reducible apply Ole.elim) | intro)

def B83_10c (n : Nat) (a0 : TTariff) (a1 : TTrip) (v8 : Int) (v9 : List Int) (v38 : Int) : Option (Int × List Int × Int ⊕ Int × List Int) := bif decide (v38 < (↑(List.length (TTariff.rules a0)) : Int)) then asrt (0 ≤ v38 ∧ v38 < (↑(List.length (TTariff.rules a0)) : Int)) (Option.bind ((F84c n) (TRule.if0 (List.getD (TTariff.rules a0) (Int.toNat v38) TRule.d)) a1) fun (r_2 : Bool) ↦ bif !r_2 then Option.some (Sum.inl (v8, v9, Go.IntKind.wrap Go.IntKind.i64 (v38 + 1))) else asrt (List.length v9 + 1 ≤ 140737488355328 ∧ (List.length v9 + 1) * 8 ≤ 140737488355328) (Option.bind ((F135c n) (List.getD (TTariff.rules a0) (Int.toNat v38) TRule.d) v8) fun (r_3 : Int) ↦ bif TRule.stop (List.getD (TTariff.rules a0) (Int.toNat v38) TRule.d) then Option.some (Sum.inr (r_3, v9 ++ [v38])) else Option.some (Sum.inl (r_3, v9 ++ [v38], Go.IntKind.wrap Go.IntKind.i64 (v38 + 1))))) else Option.some (Sum.inr (v8, v9))
theorem B83_10c_le (n : Nat) (a0 : TTariff) (a1 : TTrip) (v8 : Int) (v9 : List Int) (v38 : Int) : Ole (B83_10c n a0 a1 v8 v9 v38) (B83_10 a0 a1 v8 v9 v38) := by
  unfold B83_10c B83_10
  repeat' (first | assumption | (with_reducible apply F135c_le) | (with_reducible apply F84c_le) | (with_reducible exact Ole.refl _) | (with_reducible apply Ole.cond) | (with_reducible apply Ole.asrt) | (with_reducible apply Ole.bind) | (with_reducible apply Ole.elim) | intro)

def L83_10c (n : Nat) (a0 : TTariff) (a1 : TTrip) (s : Int × List Int × Int) : Option (Int × List Int) := loopF (fun s => (B83_10c n) a0 a1 s.1 s.2.1 s.2.2) n s
theorem L83_10c_le (n : Nat) (a0 : TTariff) (a1 : TTrip) (s : Int × List Int × Int) : Ole (L83_10c n a0 a1 s) (L83_10 a0 a1 s) := by
  unfold L83_10c L83_10
  exact Ole.loop (fun s => by apply B83_10c_le <;> assumption) n s

def F83c (n : Nat) (a0 : TTariff) (a1 : TTrip) : Option (Int × List Int) := Option.bind (bif TTariff.byKm a0 then Option.some (TTrip.km a1) else Option.some (↑(List.length (TTrip.zones a1)) : Int)) fun (p : Int) ↦ Option.bind ((F133c n) (TTariff.bands a0) p) fun (r : Int × Int) ↦ Option.bind (bif decide (Prod.fst r < 0) then Option.some (Go.IntKind.wrap Go.IntKind.i64 ((↑(List.length (TTariff.bands a0)) : Int) - 1)) else Option.some (Prod.fst r)) fun (p_2 : Int) ↦ asrt (0 ≤ p_2 ∧ p_2 < (↑(List.length (TTariff.bands a0)) : Int)) (Option.bind ((L83_10c n) a0 a1 (TBand.price (List.getD (TTariff.bands a0) (Int.toNat p_2) TBand.d), [], 0)) fun (p_3 : Int × List Int) ↦ bif !decide (TTariff.round a0 = 0) then Option.some (Go.IntKind.wrap Go.IntKind.i64 (Go.IntKind.wrap Go.IntKind.i64 (Int.tdiv (Go.IntKind.wrap Go.IntKind.i64 (Go.IntKind.wrap Go.IntKind.i64 (Prod.fst p_3 + TTariff.round a0) - 1)) (TTariff.round a0)) * TTariff.round a0), Prod.snd p_3) else Option.none)
theorem F83c_le (n : Nat) (a0 : TTariff) (a1 : TTrip) : Ole (F83c n a0 a1) (F83 a0 a1) := by
  unfold F83c F83
  repeat' (first | assumption | (with_reducible apply F133c_le) | (with_reducible apply L83_10c_le) | (with_reducible exact Ole.refl _) | (with_reducible apply Ole.cond) | (with_reducible apply Ole.asrt) | (with_reducible apply Ole.bind) | (with_reducible apply Ole.elim) | intro)

def F23c (n : Nat) (a0 : TTariff) (a1 : TTrip) : Option (Int × List Int × Int) := Option.bind ((F19c n) a0) fun (r : Int) ↦ bif !decide (r = 0) then Option.some (0, [], r) else Option.bind ((F21c n) a1) fun (r_2 : Int) ↦ bif !decide (r_2 = 0) then Option.some (0, [], r_2) else Option.bind ((F83c n) a0 a1) fun (r_3 : Int × List Int) ↦ Option.some (Prod.fst r_3, Prod.snd r_3, 0)
theorem F23c_le (n : Nat) (a0 : TTariff) (a1 : TTrip) : Ole (F23c n a0 a1) (F23 a0 a1) := by
  unfold F23c F23
  repeat' (first | assumption | (with_reducible apply F19c_le) | (with_reducible apply F21c_le) | (with_reducible apply F83c_le) | (with_reducible exact Ole.refl _) | (with_reducible apply Ole.cond) | (with_reducible apply Ole.asrt) | (with_reducible apply Ole.bind) | (with_reducible apply Ole.elim) | intro)

def B25_4c (n : Nat) (a0 : List Int) (a1 : List Int) (v13 : Int) : Option (Int ⊕ Unit ⊕ Bool) := bif decide (v13 < (↑(List.length a0) : Int)) then asrt (0 ≤ v13 ∧ v13 < (↑(List.length a0) : Int)) (asrt (v13 < (↑(List.length a1) : Int)) (bif !decide (List.getD a0 (Int.toNat v13) 0 = List.getD a1 (Int.toNat v13) 0) then Option.some (Sum.inr (Sum.inr Bool.false)) else Option.some (Sum.inl (Go.IntKind.wrap Go.IntKind.i64 (v13 + 1))))) else Option.some (Sum.inr (Sum.inl ()))
theorem B25_4c_le (n : Nat) (a0 : List Int) (a1 : List Int) (v13 : Int) : Ole (B25_4c n a0 a1 v13) (B25_4 a0 a1 v13) := by
  unfold B25_4c B25_4
  repeat' (first | assumption | (with_reducible exact Ole.refl _) | (with_reducible apply Ole.cond) | (with_reducible apply Ole.asrt) | (with_reducible apply Ole.bind) | (with_reducible apply Ole.elim) | intro)

def L25_4c (n : Nat) (a0 : List Int) (a1 : List Int) (s : Int) : Option (Unit ⊕ Bool) := loopF (fun s => (B25_4c n) a0 a1 s) n s
theorem L25_4c_le (n : Nat) (a0 : List Int) (a1 : List Int) (s : Int) : Ole (L25_4c n a0 a1 s) (L25_4 a0 a1 s) := by
  unfold L25_4c L25_4
  exact Ole.loop (fun s => by apply B25_4c_le <;> assumption) n s

def F25c (n : Nat) (a0 : List Int) (a1 : List Int) : Option (Bool) := bif !decide ((↑(List.length a0) : Int) = (↑(List.length a1) : Int)) then Option.some Bool.false else Option.bind ((L25_4c n) a0 a1 0) (Sum.elim (fun (p : Unit) ↦ Option.some Bool.true) fun (r_3 : Bool) ↦ Option.some r_3)
theorem F25c_le (n : Nat) (a0 : List Int) (a1 : List Int) : Ole (F25c n a0 a1) (F25 a0 a1) := by
  unfold F25c F25
  repeat' (first | assumption | (with_reducible apply L25_4c_le) | (with_reducible exact Ole.refl _) | (with_reducible apply Ole.cond) | (with_reducible apply Ole.asrt) | (with_reducible apply Ole.bind) | (with_reducible apply Ole.elim) | intro)

def F18c (n : Nat)  : Option (Bool) := Option.bind ((F23c n) { byKm := Bool.false, bands := [{ upto := 3, price := 500 }], round := 50, rules := [{ if0 := Tr.mk [2, Int.ofNat 0, 14] [], do0 := 1, n := 50, stop := Bool.false }] } { day := Int.ofNat 0, at0 := Int.ofNat 0, km := Int.ofNat 0, age := 10, card := Bool.false, zones := [1, 2] }) fun (r : Int × List Int × Int) ↦ bif decide (Prod.snd (Prod.snd r) = 0) then bif decide (Prod.fst r = 250) then Option.bind ((F25c n) (Prod.fst (Prod.snd r)) [0]) fun (r_2 : Bool) ↦ Option.some r_2 else Option.some Bool.false else Option.some Bool.false
theorem F18c_le (n : Nat)  : Ole (F18c n ) (F18 ) := by
  unfold F18c F18
  repeat' (first | assumption | (with_reducible apply F23c_le) | (with_reducible apply F25c_le) | (with_reducible exact Ole.refl _) | (with_reducible apply Ole.cond) | (with_reducible apply Ole.asrt) | (with_reducible apply Ole.bind) | (with_reducible apply Ole.elim) | intro)

theorem F18_eq : F18 = some true := F18c_le 40 true (by kernel_rfl)

end Go.Proofs.Ytgghnfmabphbmaa
