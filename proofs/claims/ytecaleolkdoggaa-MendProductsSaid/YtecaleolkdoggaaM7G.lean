/- Guards of the laws: they return true. -/
import Derived.Test.YtecaleolkdoggaaA19
import Derived.Test.YtecaleolkdoggaaA20
import Derived.Test.YtecaleolkdoggaaM7T
open Go Go.Proofs.Ytecaleolkdoggaa.Fw
namespace Go.Proofs.Ytecaleolkdoggaa
set_option maxRecDepth 100000
set_option linter.unusedVariables false
/-- how the functions are carried out -/
def concFl (f : Nat) : Fl := ⟨fun r o => match f, r, o with
 | 16, 0, 0 => 1
 | 34, 0, 0 => 1
 | 34, 4, 3 => 33
 | 34, 17, 10 => 31
 | 55, 0, 0 => 1
 | 55, 0, 1 => 1
 | 56, 0, 0 => 1
 | _, _, _ => 0, fun _ => none, fun _ => none, fun _ => none⟩
abbrev hnds : List Nat := [16, 21, 28, 34, 54, 55, 56, 57, 61, 85, 92, 93]
def isT : AVal → Bool | .pv false (.bool true) => true | _ => false
theorem isT_eq {r : AVal} (h : isT r = true) : r = .pv false (.bool true) := by
  unfold isT at h; split at h
  · rfl
  · simp at h
theorem t15 : concRun Try.prog (concC hnds) concFl 14 15 [] (fun r => isT r = true) = (∀ p1 : Nat → Nat, ∀ p2 : Nat → Nat, ∀ p3 : Nat → Nat, p3 = p3 ∧ (∀ p4 : Nat → Nat, p4 = p4 ∧ (p2 = p2 ∧ (p1 = p1 ∧ (true = true))))) := by kernel_rfl
theorem f15_ok : CallOK Try.prog 15 [] [] fun r _ => r = .pv false (.bool true) := (concRun_ok (K := fun r => isT r = true) hm 14 (by rw [t15]; exact fun p1 => fun p2 => fun p3 => ⟨rfl, fun p4 => ⟨rfl, ⟨rfl, ⟨rfl, rfl⟩⟩⟩⟩)).mono fun r _ h => isT_eq h
def F15 : Option Bool := some true
theorem F15_ok {o : Bool} (h : F15 = some o) : CallOK Try.prog 15 [] [] fun r _ => r = .pv false (.bool o) := by
  obtain rfl : true = o := Option.some.inj h
  exact f15_ok

end Go.Proofs.Ytecaleolkdoggaa
