/- Guards of the laws: they return true. -/
import Derived.Test.YtnmkljgfbbmdpaaA19
import Derived.Test.YtnmkljgfbbmdpaaA20
import Derived.Test.YtnmkljgfbbmdpaaP5T
open Go Go.Proofs.Ytnmkljgfbbmdpaa.Fw
namespace Go.Proofs.Ytnmkljgfbbmdpaa
set_option maxRecDepth 100000
set_option linter.unusedVariables false
/-- how the functions are carried out -/
def concFl (f : Nat) : Fl := ⟨fun r o => match f, r, o with
 | 9, 0, 0 => 1
 | 11, 0, 0 => 1
 | 28, 0, 0 => 1
 | 28, 13, 0 => 5
 | 39, 0, 0 => 1
 | 66, 0, 0 => 1
 | 66, 6, 0 => 5
 | _, _, _ => 0, fun _ => none, fun _ => none, fun _ => none⟩
abbrev hnds : List Nat := [37, 39, 44, 45, 54, 55, 56, 62, 66, 70]
def isT : AVal → Bool | .pv false (.bool true) => true | _ => false
theorem isT_eq {r : AVal} (h : isT r = true) : r = .pv false (.bool true) := by
  unfold isT at h; split at h
  · rfl
  · simp at h
theorem t8 : concRun Try.prog (concC hnds) concFl 14 8 [] (fun r => isT r = true) = (((((fun _ => 0 : Nat → Nat) = fun _ => 0) ∧ True) ∧ (((fun _ => 0 : Nat → Nat) = fun _ => 0) ∧ True)) ∧ (∀ p1 : Nat → Nat, p1 = p1 ∧ (∀ p2 : Nat → Nat, ∀ p3 : Nat → Nat, p3 = p3 ∧ (∀ p4 : Nat → Nat, p4 = p4 ∧ (∀ p5 : Nat → Nat, p5 = p5 ∧ (∀ p6 : Nat → Nat, p6 = p6 ∧ (∀ p7 : Nat → Nat, ∀ p8 : Nat → Nat, p8 = p8 ∧ (∀ p9 : Nat → Nat, p9 = p9 ∧ (p7 = p7 ∧ (∀ p10 : Nat → Nat, ∀ p11 : Nat → Nat, p11 = p11 ∧ (∀ p12 : Nat → Nat, p12 = p12 ∧ (∀ p13 : Nat → Nat, p13 = p13 ∧ (∀ p14 : Nat → Nat, ∀ p15 : Nat → Nat, p15 = p15 ∧ (∀ p16 : Nat → Nat, p16 = p16 ∧ (p14 = p14 ∧ (∀ p17 : Nat → Nat, ∀ p18 : Nat → Nat, p18 = p18 ∧ (∀ p19 : Nat → Nat, p19 = p19 ∧ (∀ p20 : Nat → Nat, ∀ p21 : Nat → Nat, p21 = p21 ∧ (∀ p22 : Nat → Nat, p22 = p22 ∧ (p20 = p20 ∧ (∀ p23 : Nat → Nat, ∀ p24 : Nat → Nat, p24 = p24 ∧ (∀ p25 : Nat → Nat, p25 = p25 ∧ (p23 = p23 ∧ (p17 = p17 ∧ (p10 = p10 ∧ (p2 = p2 ∧ (∀ p26 : Nat → Nat, ∀ p27 : Nat → Nat, p27 = p27 ∧ (∀ p28 : Nat → Nat, p28 = p28 ∧ (p26 = p26 ∧ (∀ p29 : Nat → Nat, ∀ p30 : Nat → Nat, p30 = p30 ∧ (∀ p31 : Nat → Nat, p31 = p31 ∧ (∀ p32 : Nat → Nat, p32 = p32 ∧ (∀ p33 : Nat → Nat, p33 = p33 ∧ (∀ p34 : Nat → Nat, ∀ p35 : Nat → Nat, p35 = p35 ∧ (∀ p36 : Nat → Nat, p36 = p36 ∧ (p34 = p34 ∧ (∀ p37 : Nat → Nat, ∀ p38 : Nat → Nat, p38 = p38 ∧ (∀ p39 : Nat → Nat, p39 = p39 ∧ (∀ p40 : Nat → Nat, p40 = p40 ∧ (∀ p41 : Nat → Nat, ∀ p42 : Nat → Nat, p42 = p42 ∧ (∀ p43 : Nat → Nat, p43 = p43 ∧ (p41 = p41 ∧ (∀ p44 : Nat → Nat, ∀ p45 : Nat → Nat, p45 = p45 ∧ (∀ p46 : Nat → Nat, p46 = p46 ∧ (∀ p47 : Nat → Nat, ∀ p48 : Nat → Nat, p48 = p48 ∧ (∀ p49 : Nat → Nat, p49 = p49 ∧ (p47 = p47 ∧ (∀ p50 : Nat → Nat, ∀ p51 : Nat → Nat, p51 = p51 ∧ (∀ p52 : Nat → Nat, p52 = p52 ∧ (p50 = p50 ∧ (p44 = p44 ∧ (p37 = p37 ∧ (p29 = p29 ∧ (∀ p53 : Nat → Nat, ∀ p54 : Nat → Nat, p54 = p54 ∧ (∀ p55 : Nat → Nat, p55 = p55 ∧ (p53 = p53 ∧ (true = true))))))))))))))))))))))))))))))))))))))))))))))))))))))))) := by kernel_rfl
theorem f8_ok : CallOK Try.prog 8 [] [] fun r _ => r = .pv false (.bool true) := (concRun_ok (K := fun r => isT r = true) hm 14 (by rw [t8]; exact ⟨⟨⟨rfl, trivial⟩, ⟨rfl, trivial⟩⟩, fun p1 => ⟨rfl, fun p2 => fun p3 => ⟨rfl, fun p4 => ⟨rfl, fun p5 => ⟨rfl, fun p6 => ⟨rfl, fun p7 => fun p8 => ⟨rfl, fun p9 => ⟨rfl, ⟨rfl, fun p10 => fun p11 => ⟨rfl, fun p12 => ⟨rfl, fun p13 => ⟨rfl, fun p14 => fun p15 => ⟨rfl, fun p16 => ⟨rfl, ⟨rfl, fun p17 => fun p18 => ⟨rfl, fun p19 => ⟨rfl, fun p20 => fun p21 => ⟨rfl, fun p22 => ⟨rfl, ⟨rfl, fun p23 => fun p24 => ⟨rfl, fun p25 => ⟨rfl, ⟨rfl, ⟨rfl, ⟨rfl, ⟨rfl, fun p26 => fun p27 => ⟨rfl, fun p28 => ⟨rfl, ⟨rfl, fun p29 => fun p30 => ⟨rfl, fun p31 => ⟨rfl, fun p32 => ⟨rfl, fun p33 => ⟨rfl, fun p34 => fun p35 => ⟨rfl, fun p36 => ⟨rfl, ⟨rfl, fun p37 => fun p38 => ⟨rfl, fun p39 => ⟨rfl, fun p40 => ⟨rfl, fun p41 => fun p42 => ⟨rfl, fun p43 => ⟨rfl, ⟨rfl, fun p44 => fun p45 => ⟨rfl, fun p46 => ⟨rfl, fun p47 => fun p48 => ⟨rfl, fun p49 => ⟨rfl, ⟨rfl, fun p50 => fun p51 => ⟨rfl, fun p52 => ⟨rfl, ⟨rfl, ⟨rfl, ⟨rfl, ⟨rfl, fun p53 => fun p54 => ⟨rfl, fun p55 => ⟨rfl, ⟨rfl, rfl⟩⟩⟩⟩⟩⟩⟩⟩⟩⟩⟩⟩⟩⟩⟩⟩⟩⟩⟩⟩⟩⟩⟩⟩⟩⟩⟩⟩⟩⟩⟩⟩⟩⟩⟩⟩⟩⟩⟩⟩⟩⟩⟩⟩⟩⟩⟩⟩⟩⟩⟩⟩⟩⟩⟩⟩)).mono fun r _ h => isT_eq h
def F8 : Option Bool := some true
theorem F8_ok {o : Bool} (h : F8 = some o) : CallOK Try.prog 8 [] [] fun r _ => r = .pv false (.bool o) := by
  obtain rfl : true = o := Option.some.inj h
  exact f8_ok

end Go.Proofs.Ytnmkljgfbbmdpaa
