/- Guards of the laws: they return true. -/
import Derived.Test.YtecaleolkdoggaaA19
import Derived.Test.YtecaleolkdoggaaA20
import Derived.Test.YtecaleolkdoggaaM10T
open Go Go.Proofs.Ytecaleolkdoggaa.Fw
namespace Go.Proofs.Ytecaleolkdoggaa
set_option maxRecDepth 100000
set_option linter.unusedVariables false
def concFl (f : Nat) : Fl := ⟨fun r o => match f, r, o with
 | 24, 0, 0 => 1
 | 26, 0, 0 => 1
 | 26, 4, 4 => 1
 | 26, 12, 0 => 17
 | 62, 0, 0 => 1
 | 64, 0, 0 => 1
 | 66, 0, 0 => 1
 | 67, 3, 2 => 8
 | 68, 1, 4 => 31
 | 68, 1, 13 => 31
 | 68, 20, 0 => 17
 | 68, 999, 999 => 1
 | 78, 0, 0 => 1
 | 78, 1, 2 => 35
 | 78, 1, 8 => 1
 | 78, 1, 10 => 1
 | 81, 0, 0 => 1
 | 87, 3, 2 => 8
 | 88, 0, 0 => 1
 | 88, 8, 0 => 17
 | _, _, _ => 0, fun _ => none, fun _ => none, fun _ => none⟩
abbrev hnds : List Nat := [64, 65, 67, 68, 76, 87, 88, 89]
def isT : AVal → Bool | .pv false (.bool true) => true | _ => false
theorem isT_eq {r : AVal} (h : isT r = true) : r = .pv false (.bool true) := by
  unfold isT at h; split at h
  · rfl
  · simp at h
theorem t23 : concRun Try.prog (concC hnds) concFl 14 23 [] (fun r => isT r = true) = ((((fun _ => 0 : Nat → Nat) = fun _ => 0) ∧ True) ∧ ((((fun _ => 0 : Nat → Nat) = fun _ => 0) ∧ True) ∧ ((((fun _ => 0 : Nat → Nat) = fun _ => 0) ∧ True) ∧ ((((fun _ => 0 : Nat → Nat) = fun _ => 0) ∧ True) ∧ (∀ p1 : Nat → Nat, ∀ p2 : Nat → Nat, p2 = p2 ∧ (p1 = p1 ∧ ((((fun _ => 0 : Nat → Nat) = fun _ => 0) ∧ True) ∧ ((((fun _ => 0 : Nat → Nat) = fun _ => 0) ∧ True) ∧ ((((fun _ => 0 : Nat → Nat) = fun _ => 0) ∧ True) ∧ ((((fun _ => 0 : Nat → Nat) = fun _ => 0) ∧ True) ∧ (∀ p3 : Nat → Nat, p3 = p3 ∧ (∀ p4 : Nat → Nat, ∀ p5 : Nat → Nat, p5 = p5 ∧ (p4 = p4 ∧ ((((fun _ => 0 : Nat → Nat) = fun _ => 0) ∧ True) ∧ ((((fun _ => 0 : Nat → Nat) = fun _ => 0) ∧ True) ∧ ((((fun _ => 0 : Nat → Nat) = fun _ => 0) ∧ True) ∧ ((((fun _ => 0 : Nat → Nat) = fun _ => 0) ∧ True) ∧ (∀ p6 : Nat → Nat, p6 = p6 ∧ (∀ p7 : Nat → Nat, ∀ p8 : Nat → Nat, p8 = p8 ∧ (p7 = p7 ∧ (((((fun _ => 0 : Nat → Nat) = fun _ => 0) ∧ True) ∧ ((((fun _ => 0 : Nat → Nat) = fun _ => 0) ∧ True) ∧ ((((fun _ => 0 : Nat → Nat) = fun _ => 0) ∧ True) ∧ ((((fun _ => 0 : Nat → Nat) = fun _ => 0) ∧ True) ∧ (∀ p9 : Nat → Nat, ∀ p10 : Nat → Nat, p10 = p10 ∧ (p9 = p9 ∧ ((((fun _ => 0 : Nat → Nat) = fun _ => 0) ∧ True) ∧ ((((fun _ => 0 : Nat → Nat) = fun _ => 0) ∧ True) ∧ ((((fun _ => 0 : Nat → Nat) = fun _ => 0) ∧ True) ∧ ((((fun _ => 0 : Nat → Nat) = fun _ => 0) ∧ True) ∧ (∀ p11 : Nat → Nat, p11 = p11 ∧ (∀ p12 : Nat → Nat, ∀ p13 : Nat → Nat, p13 = p13 ∧ (p12 = p12 ∧ ((((fun _ => 0 : Nat → Nat) = fun _ => 0) ∧ True) ∧ ((((fun _ => 0 : Nat → Nat) = fun _ => 0) ∧ True) ∧ ((((fun _ => 0 : Nat → Nat) = fun _ => 0) ∧ True) ∧ ((((fun _ => 0 : Nat → Nat) = fun _ => 0) ∧ True) ∧ (∀ p14 : Nat → Nat, p14 = p14 ∧ (∀ p15 : Nat → Nat, ∀ p16 : Nat → Nat, p16 = p16 ∧ (p15 = p15 ∧ (((fun _ => 0 : Nat → Nat) = fun _ => 0) ∧ True))))))))))))))))))))) ∧ (((((fun _ => 0 : Nat → Nat) = fun _ => 0) ∧ True) ∧ ((((fun _ => 0 : Nat → Nat) = fun _ => 0) ∧ True) ∧ ((((fun _ => 0 : Nat → Nat) = fun _ => 0) ∧ True) ∧ ((((fun _ => 0 : Nat → Nat) = fun _ => 0) ∧ True) ∧ (∀ p17 : Nat → Nat, ∀ p18 : Nat → Nat, p18 = p18 ∧ (p17 = p17 ∧ ((((fun _ => 0 : Nat → Nat) = fun _ => 0) ∧ True) ∧ ((((fun _ => 0 : Nat → Nat) = fun _ => 0) ∧ True) ∧ ((((fun _ => 0 : Nat → Nat) = fun _ => 0) ∧ True) ∧ ((((fun _ => 0 : Nat → Nat) = fun _ => 0) ∧ True) ∧ (∀ p19 : Nat → Nat, p19 = p19 ∧ (∀ p20 : Nat → Nat, ∀ p21 : Nat → Nat, p21 = p21 ∧ (p20 = p20 ∧ ((((fun _ => 0 : Nat → Nat) = fun _ => 0) ∧ True) ∧ ((((fun _ => 0 : Nat → Nat) = fun _ => 0) ∧ True) ∧ ((((fun _ => 0 : Nat → Nat) = fun _ => 0) ∧ True) ∧ ((((fun _ => 0 : Nat → Nat) = fun _ => 0) ∧ True) ∧ (∀ p22 : Nat → Nat, p22 = p22 ∧ (∀ p23 : Nat → Nat, ∀ p24 : Nat → Nat, p24 = p24 ∧ (p23 = p23 ∧ (((fun _ => 0 : Nat → Nat) = fun _ => 0) ∧ True))))))))))))))))))))) ∧ (∀ p25 : Nat → Nat, (((fun _ => 0 : Nat → Nat) = fun _ => 0) ∧ True) ∧ ((((fun _ => 0 : Nat → Nat) = fun _ => 0) ∧ True) ∧ ((((fun _ => 0 : Nat → Nat) = fun _ => 0) ∧ True) ∧ ((((fun _ => 0 : Nat → Nat) = fun _ => 0) ∧ True) ∧ (∀ p26 : Nat → Nat, p26 = p26 ∧ (∀ p27 : Nat → Nat, ∀ p28 : Nat → Nat, p28 = p28 ∧ (p27 = p27 ∧ (∀ p29 : Nat → Nat, ∀ p30 : Nat → Nat, p30 = p30 ∧ (p29 = p29 ∧ ((((fun _ => 0 : Nat → Nat) = fun _ => 0) ∧ True) ∧ ((((fun _ => 0 : Nat → Nat) = fun _ => 0) ∧ True) ∧ ((((fun _ => 0 : Nat → Nat) = fun _ => 0) ∧ True) ∧ ((((fun _ => 0 : Nat → Nat) = fun _ => 0) ∧ True) ∧ (∀ p31 : Nat → Nat, p31 = p31 ∧ (∀ p32 : Nat → Nat, ∀ p33 : Nat → Nat, p33 = p33 ∧ (p32 = p32 ∧ (∀ p34 : Nat → Nat, p34 = p34 ∧ (p25 = p25 ∧ (true = true))))))))))))))))))))))))))))))))))))))))) := by kernel_rfl
theorem f23_ok : CallOK Try.prog 23 [] [] fun r _ => r = .pv false (.bool true) := (concRun_ok (K := fun r => isT r = true) hm 14 (by rw [t23]; exact ⟨⟨rfl, trivial⟩, ⟨⟨rfl, trivial⟩, ⟨⟨rfl, trivial⟩, ⟨⟨rfl, trivial⟩, fun p1 => fun p2 => ⟨rfl, ⟨rfl, ⟨⟨rfl, trivial⟩, ⟨⟨rfl, trivial⟩, ⟨⟨rfl, trivial⟩, ⟨⟨rfl, trivial⟩, fun p3 => ⟨rfl, fun p4 => fun p5 => ⟨rfl, ⟨rfl, ⟨⟨rfl, trivial⟩, ⟨⟨rfl, trivial⟩, ⟨⟨rfl, trivial⟩, ⟨⟨rfl, trivial⟩, fun p6 => ⟨rfl, fun p7 => fun p8 => ⟨rfl, ⟨rfl, ⟨⟨⟨rfl, trivial⟩, ⟨⟨rfl, trivial⟩, ⟨⟨rfl, trivial⟩, ⟨⟨rfl, trivial⟩, fun p9 => fun p10 => ⟨rfl, ⟨rfl, ⟨⟨rfl, trivial⟩, ⟨⟨rfl, trivial⟩, ⟨⟨rfl, trivial⟩, ⟨⟨rfl, trivial⟩, fun p11 => ⟨rfl, fun p12 => fun p13 => ⟨rfl, ⟨rfl, ⟨⟨rfl, trivial⟩, ⟨⟨rfl, trivial⟩, ⟨⟨rfl, trivial⟩, ⟨⟨rfl, trivial⟩, fun p14 => ⟨rfl, fun p15 => fun p16 => ⟨rfl, ⟨rfl, ⟨rfl, trivial⟩⟩⟩⟩⟩⟩⟩⟩⟩⟩⟩⟩⟩⟩⟩⟩⟩⟩⟩⟩⟩, ⟨⟨⟨rfl, trivial⟩, ⟨⟨rfl, trivial⟩, ⟨⟨rfl, trivial⟩, ⟨⟨rfl, trivial⟩, fun p17 => fun p18 => ⟨rfl, ⟨rfl, ⟨⟨rfl, trivial⟩, ⟨⟨rfl, trivial⟩, ⟨⟨rfl, trivial⟩, ⟨⟨rfl, trivial⟩, fun p19 => ⟨rfl, fun p20 => fun p21 => ⟨rfl, ⟨rfl, ⟨⟨rfl, trivial⟩, ⟨⟨rfl, trivial⟩, ⟨⟨rfl, trivial⟩, ⟨⟨rfl, trivial⟩, fun p22 => ⟨rfl, fun p23 => fun p24 => ⟨rfl, ⟨rfl, ⟨rfl, trivial⟩⟩⟩⟩⟩⟩⟩⟩⟩⟩⟩⟩⟩⟩⟩⟩⟩⟩⟩⟩⟩, fun p25 => ⟨⟨rfl, trivial⟩, ⟨⟨rfl, trivial⟩, ⟨⟨rfl, trivial⟩, ⟨⟨rfl, trivial⟩, fun p26 => ⟨rfl, fun p27 => fun p28 => ⟨rfl, ⟨rfl, fun p29 => fun p30 => ⟨rfl, ⟨rfl, ⟨⟨rfl, trivial⟩, ⟨⟨rfl, trivial⟩, ⟨⟨rfl, trivial⟩, ⟨⟨rfl, trivial⟩, fun p31 => ⟨rfl, fun p32 => fun p33 => ⟨rfl, ⟨rfl, fun p34 => ⟨rfl, ⟨rfl, rfl⟩⟩⟩⟩⟩⟩⟩⟩⟩⟩⟩⟩⟩⟩⟩⟩⟩⟩⟩⟩⟩⟩⟩⟩⟩⟩⟩⟩⟩⟩⟩⟩⟩⟩⟩⟩⟩⟩⟩⟩)).mono fun r _ h => isT_eq h
def F23 : Option Bool := some true
theorem F23_ok {o : Bool} (h : F23 = some o) : CallOK Try.prog 23 [] [] fun r _ => r = .pv false (.bool o) := by
  obtain rfl : true = o := Option.some.inj h
  exact f23_ok
end Go.Proofs.Ytecaleolkdoggaa
