/- Guards of the laws: they return true. -/
import Derived.Test.YtciflideblafgaaA19
import Derived.Test.YtciflideblafgaaA20
import Derived.Test.YtciflideblafgaaL13T
open Go Go.Proofs.Ytciflideblafgaa.Fw
namespace Go.Proofs.Ytciflideblafgaa
set_option maxRecDepth 100000
set_option linter.unusedVariables false
/-- how the functions are carried out -/
def concFl (f : Nat) : Fl := ⟨fun r o => match f, r, o with
 | 48, 19, 0 => 5
 | 48, 19, 2 => 8
 | 48, 21, 5 => 17
 | 96, 0, 0 => 1
 | 97, 0, 0 => 1
 | 97, 0, 1 => 1
 | _, _, _ => 0, fun _ => none, fun _ => none, fun _ => none⟩
abbrev hnds : List Nat := [135, 160, 187, 188, 215, 224]
def isT : AVal → Bool | .pv false (.bool true) => true | _ => false
theorem isT_eq {r : AVal} (h : isT r = true) : r = .pv false (.bool true) := by
  unfold isT at h; split at h
  · rfl
  · simp at h
theorem t43 : concRun Try.prog (concC hnds) concFl 14 43 [] (fun r => isT r = true) = (∀ p1 : Nat → Nat, ∀ p2 : Nat → Nat, ∀ p3 : Nat → Nat, p3 = p3 ∧ (p2 = p2 ∧ (p1 = p1 ∧ (true = true)))) := by kernel_rfl
theorem f43_ok : CallOK Try.prog 43 [] [] fun r _ => r = .pv false (.bool true) := (concRun_ok (K := fun r => isT r = true) hm 14 (by rw [t43]; exact fun p1 => fun p2 => fun p3 => ⟨rfl, ⟨rfl, ⟨rfl, rfl⟩⟩⟩)).mono fun r _ h => isT_eq h
def F43 : Option Bool := some true
theorem F43_ok {o : Bool} (h : F43 = some o) : CallOK Try.prog 43 [] [] fun r _ => r = .pv false (.bool o) := by
  obtain rfl : true = o := Option.some.inj h
  exact f43_ok

end Go.Proofs.Ytciflideblafgaa
