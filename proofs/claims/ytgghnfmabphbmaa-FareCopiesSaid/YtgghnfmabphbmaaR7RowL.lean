/- What the program makes of the arguments of FareCopies. -/
import Derived.Test.YtgghnfmabphbmaaR7P
import Derived.Test.YtgghnfmabphbmaaA18
import Derived.Test.YtgghnfmabphbmaaRows
import Derived.ProofKit
import Derived.OpenShut
import Derived.ShutString
import Derived.ChangeOld
import Derived.Carry
import Derived.SizedLaws
namespace Go.Proofs.Ytgghnfmabphbmaa.fareCopies
open Go Go.Proofs.Ytgghnfmabphbmaa.Fw Go.Proofs.Ytgghnfmabphbmaa
open Go.ChangeShapes Go.WideShapes Go.ChangeAt Go.RowKit
open Go.ChangeMaps (open_string shut_string)
set_option linter.unusedVariables false

theorem own : ownKnob Try.prog.godebug = none := by kernel_rfl
theorem laidOut : laidOutB Try.prog = true := by kernel_rfl

def ok3 (n : Int) : Prop := (Lit.int .i64 n).wf = true
def siz3 (n : Int) : Nat := 1
theorem rd3 : Reads Try.prog 3 1 (fun (n : Int) j => eI n j) ok3 siz3 := .int Try.underlying3 (by kernel_rfl)
def ok145 (x : TSeen) : Prop := ok3 x.no ∧ ok3 x.zone ∧ ok3 x.at0 ∧ True
def siz145 (x : TSeen) : Nat := siz3 x.no + (siz3 x.zone + (siz3 x.at0 + (0))) + 1
set_option maxRecDepth 100000 in
theorem rd145 : Reads Try.prog 145 3 TSeen.e ok145 siz145 :=
  (Reads.struct Try.underlying145 rfl (by kernel_rfl) (fun m => ReadsF.cons rd3.1 (rd3.2 m) (ReadsF.cons rd3.1 (rd3.2 m) (ReadsF.cons rd3.1 (rd3.2 m) (ReadsF.nil) rfl) rfl) rfl)).map (fun x => (⟨x.1, x.2.1, x.2.2.1⟩ : TSeen))
    (fun x j hj => by match j, hj with
      | 0, _ => rfl
      | 1, _ => rfl
      | 2, _ => rfl) (fun x h => h) (fun x => Nat.le_refl _)
def ok50 (l : List TSeen) : Prop := (l.length ≤ maxLen ∧ l.length * 24 ≤ reachBytes) ∧ ∀ a ∈ l, ok145 a
def siz50 (l : List TSeen) : Nat := sumL siz145 l + 1
theorem rd50 : Reads Try.prog 50 1 (fun (l : List TSeen) j => (eL 3 TSeen.e TSeen.d) l j) ok50 siz50 :=
  (rd145.slice (t := 50) (b := 24) (by decide) (by kernel_rfl) (by kernel_rfl) TSeen.d (by kernel_rfl)).map id (fun l j _ => rfl) (fun l h => h) (fun l => Nat.le_refl _)
def ok26 (l : List Int) : Prop := (l.length ≤ maxLen ∧ l.length * 8 ≤ reachBytes) ∧ ∀ a ∈ l, ok3 a
def siz26 (l : List Int) : Nat := sumL siz3 l + 1
theorem rd26 : Reads Try.prog 26 1 (fun (l : List Int) j => (eL 1 eI 0) l j) ok26 siz26 :=
  (rd3.slice (t := 26) (b := 8) (by decide) (by kernel_rfl) (by kernel_rfl) 0 (by kernel_rfl)).map id (fun l j _ => rfl) (fun l h => h) (fun l => Nat.le_refl _)
def ok51 (l : List (List Int)) : Prop := (l.length ≤ maxLen ∧ l.length * 24 ≤ reachBytes) ∧ ∀ a ∈ l, ok26 a
def siz51 (l : List (List Int)) : Nat := sumL siz26 l + 1
theorem rd51 : Reads Try.prog 51 1 (fun (l : List (List Int)) j => (eL 1 (eL 1 eI 0) []) l j) ok51 siz51 :=
  (rd26.slice (t := 51) (b := 24) (by decide) (by kernel_rfl) (by kernel_rfl) [] (by kernel_rfl)).map id (fun l j _ => rfl) (fun l h => h) (fun l => Nat.le_refl _)
theorem walk (a0 : (List TSeen)) (w0 : ok50 a0) (a1 : (List (List Int))) (w1 : ok51 a1) (w : World) (v0 : Value) (v1 : Value) (r0 : VRel w freeO [] .no (.pv false ((eL 3 TSeen.e TSeen.d) a0 0)) v0) (r1 : VRel w freeO [] .no (.pv false ((eL 1 (eL 1 eI 0) []) a1 0)) v1) :
    Calls Try.prog 7 #[v0, v1] w fun e w' => e = .returned (.bool true) ∧ Below w.heap.size w w' := by
  have hm : maxLen < 2 ^ 63 := by decide
  refine (F7_ok (F7_true a0 a1)).law rfl (fun i y hy => ?_)
  match i, hy with
  | 0, hy => simp [nth] at hy; subst hy; exact r0
  | 1, hy => simp [nth] at hy; subst hy; exact r1
  | n + 2, hy => simp [nth] at hy

set_option maxRecDepth 100000 in
theorem lifted (os : Os) (started : os.Started) (H : Type) (enc : TypeId × Value → H) :
    ReturnsInHanded {} Try.checked os 7 .any (Rows.fareCopiesSpec.pre6 enc Try.prog Try.f7 Rows.fareCopiesRow.domain false) (Rows.fareCopiesSpec.post enc Try.prog Try.f7 false true false false) := by
  refine returnsInHanded_of_change_sized (C := Try.checked) own started (by kernel_rfl) Try.func7
    (ChangeSpec.witness6 (enc := enc) (C := Try.checked) false ⟨#[], #[.slice none 0 0, .slice none 0 0], []⟩ 8 (by kernel_rfl) (by kernel_rfl) (by kernel_rfl) (by kernel_rfl)) ?_
  intro W base args ds gs before hval0 hW hcnd hsz _
  have hval : ∀ (j : Nat) t v, Try.f7.params[j]? = some t → args[j]? = some v → Value.okWide Try.prog W .any base t v := hval0
  have hW' := hW
  obtain ⟨p, q, hA0, hV, rfl, hfz, hnd⟩ := hW
  have hA : DataW.TrodAll enc Try.prog W 0 (fun _ => true) true Try.f7.params.toList args.toList ds p := hA0
  rw [Try.params7] at hA hval hsz
  obtain ⟨v0, vs0, d0, ds0, p0, q0, hargs, rfl, rfl, h0, r0⟩ := trodAll_cons hA
  obtain ⟨v1, vs1, d1, ds1, p1, q1, rfl, rfl, rfl, h1, r1⟩ := trodAll_cons r0
  obtain ⟨rfl, rfl, rfl⟩ := trodAll_nil r1
  obtain rfl : args = #[v0, v1] := by cases args; simp_all
  obtain ⟨rfl, rfl⟩ := trodVars_none hV
  have k0 := h0
  have lt0 : ∀ x ∈ p0, x.block < W.heap.size := by obtain ⟨m, hm⟩ := k0; exact DataW.trod_lt m _ _ _ hm
  have k1 := h1
  have lt1 : ∀ x ∈ p1, x.block < W.heap.size := by obtain ⟨m, hm⟩ := k1; exact DataW.trod_lt m _ _ _ hm
  obtain ⟨ad0, ln0, cp0, rfl⟩ := okWide_slice Try.underlying50 (hval 0 50 v0 rfl rfl)
  obtain ⟨ad1, ln1, cp1, rfl⟩ := okWide_slice Try.underlying51 (hval 1 51 v1 rfl rfl)
  obtain ⟨a0, ⟨w0, s0⟩, z0⟩ := rd50.val h0 (sizedEach hsz (j := 0) rfl rfl) rfl
  obtain ⟨a1, ⟨w1, s1⟩, z1⟩ := rd51.val h1 (sizedEach hsz (j := 1) rfl rfl) rfl
  clear hA0 hval0
  refine (walk a0 w0 a1 w1 W _ _ z0 z1).mono fun e W' ⟨he, bel⟩ => ?_
  subst he
  exact ⟨_, rfl, _, _, _, [], _, [], hW', trodAll_mk1 (shut_bool Try.underlying4 _), (trodAll_cons_mk (Below.trod laidOut (by kernel_rfl) (of_decide_eq_true (by kernel_rfl)) k0 bel lt0) (trodAll_cons_mk (Below.trod laidOut (by kernel_rfl) (of_decide_eq_true (by kernel_rfl)) k1 bel lt1) trodAll_mk0)), rfl, bel.frame _, fun h => by cases h⟩

end Go.Proofs.Ytgghnfmabphbmaa.fareCopies
