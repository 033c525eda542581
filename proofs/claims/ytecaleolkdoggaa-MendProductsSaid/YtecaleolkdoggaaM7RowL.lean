/- What the program makes of the arguments of MendProducts. -/
import Derived.Test.YtecaleolkdoggaaM7P
import Derived.Test.YtecaleolkdoggaaA18
import Derived.Test.YtecaleolkdoggaaRows
import Derived.ProofKit
import Derived.OpenShut
import Derived.ShutString
import Derived.ChangeOld
import Derived.Carry
import Derived.SizedLaws
namespace Go.Proofs.Ytecaleolkdoggaa.mendProducts
open Go Go.Proofs.Ytecaleolkdoggaa.Fw Go.Proofs.Ytecaleolkdoggaa
open Go.ChangeShapes Go.WideShapes Go.ChangeAt Go.RowKit
open Go.ChangeMaps (open_string shut_string)
set_option linter.unusedVariables false

theorem own : ownKnob Try.prog.godebug = none := by kernel_rfl
theorem laidOut : laidOutB Try.prog = true := by kernel_rfl

def ok3 (n : Int) : Prop := (Lit.int .i64 n).wf = true
def siz3 (n : Int) : Nat := 1
theorem rd3 : Reads Try.prog 3 1 (fun (n : Int) j => eI n j) ok3 siz3 := .int Try.underlying3 (by kernel_rfl)
def ok22 (l : List Int) : Prop := (l.length ≤ maxLen ∧ l.length * 8 ≤ reachBytes) ∧ ∀ a ∈ l, ok3 a
def siz22 (l : List Int) : Nat := sumL siz3 l + 1
theorem rd22 : Reads Try.prog 22 1 (fun (l : List Int) j => (eL 1 eI 0) l j) ok22 siz22 :=
  (rd3.slice (t := 22) (b := 8) (by decide) (by kernel_rfl) (by kernel_rfl) 0 (by kernel_rfl)).map id (fun l j _ => rfl) (fun l h => h) (fun l => Nat.le_refl _)
def ok40 (l : List (List Int)) : Prop := (l.length ≤ maxLen ∧ l.length * 24 ≤ reachBytes) ∧ ∀ a ∈ l, ok22 a
def siz40 (l : List (List Int)) : Nat := sumL siz22 l + 1
theorem rd40 : Reads Try.prog 40 1 (fun (l : List (List Int)) j => (eL 1 (eL 1 eI 0) []) l j) ok40 siz40 :=
  (rd22.slice (t := 40) (b := 24) (by decide) (by kernel_rfl) (by kernel_rfl) [] (by kernel_rfl)).map id (fun l j _ => rfl) (fun l h => h) (fun l => Nat.le_refl _)
theorem walk (a0 : (List (List Int))) (w0 : ok40 a0) (a1 : (List (List Int))) (w1 : ok40 a1) (w : World) (v0 : Value) (v1 : Value) (r0 : VRel w freeO [] .no (.pv false ((eL 1 (eL 1 eI 0) []) a0 0)) v0) (r1 : VRel w freeO [] .no (.pv false ((eL 1 (eL 1 eI 0) []) a1 0)) v1) :
    Calls Try.prog 7 #[v0, v1] w fun e w' => e = .returned (.bool true) ∧ Below w.heap.size w w' := by
  have hm : maxLen < 2 ^ 63 := by decide
  refine (F7_ok (F7_true a0 a1)).law rfl (fun i y hy => ?_)
  match i, hy with
  | 0, hy => simp [nth] at hy; subst hy; exact r0
  | 1, hy => simp [nth] at hy; subst hy; exact r1
  | n + 2, hy => simp [nth] at hy

set_option maxRecDepth 100000 in
theorem lifted (os : Os) (started : os.Started) (H : Type) (enc : TypeId × Value → H) :
    ReturnsInHanded {} Try.checked os 7 .any (Rows.mendProductsSpec.pre6 enc Try.prog Try.f7 Rows.mendProductsRow.domain false) (Rows.mendProductsSpec.post enc Try.prog Try.f7 false true false false) := by
  refine returnsInHanded_of_change_sized (C := Try.checked) own started (by kernel_rfl) Try.func7
    (ChangeSpec.witness6 (enc := enc) (C := Try.checked) false ⟨#[], #[.slice none 0 0, .slice none 0 0], []⟩ 8 (by kernel_rfl) (by kernel_rfl) (by kernel_rfl) (by kernel_rfl)) ?_
  intro W base args ds gs before hval0 hW hcnd hsz _
  have hval : ∀ (j : Nat) t v, Try.f7.params[j]? = some t → args[j]? = some v → Value.okWide Try.prog W .any base t v := hval0
  have hW' := hW
  obtain ⟨p, q, hA0, hV, rfl, hfz, hnd⟩ := hW
  have hA : DataW.TrodAll enc Try.prog W 0 (fun _ => true) true Try.f7.params.toList args.toList ds p := hA0
  rw [Try.params7] at hA hval hsz
  obtain ⟨v0, vs0, d0, ds0, p0, q0, hargs, rfl, rfl, h0, r0⟩ := trodAll_cons hA
  obtain ⟨v1, vs1, d1, ds1, p1, q1, rfl, rfl, rfl, h1, r1⟩ := trodAll_cons r0
  obtain ⟨rfl, rfl, rfl⟩ := trodAll_nil r1
  obtain rfl : args = #[v0, v1] := by cases args; simp_all
  obtain ⟨rfl, rfl⟩ := trodVars_none hV
  have k0 := h0
  have lt0 : ∀ x ∈ p0, x.block < W.heap.size := by obtain ⟨m, hm⟩ := k0; exact DataW.trod_lt m _ _ _ hm
  have k1 := h1
  have lt1 : ∀ x ∈ p1, x.block < W.heap.size := by obtain ⟨m, hm⟩ := k1; exact DataW.trod_lt m _ _ _ hm
  obtain ⟨ad0, ln0, cp0, rfl⟩ := okWide_slice Try.underlying40 (hval 0 40 v0 rfl rfl)
  obtain ⟨ad1, ln1, cp1, rfl⟩ := okWide_slice Try.underlying40 (hval 1 40 v1 rfl rfl)
  obtain ⟨a0, ⟨w0, s0⟩, z0⟩ := rd40.val h0 (sizedEach hsz (j := 0) rfl rfl) rfl
  obtain ⟨a1, ⟨w1, s1⟩, z1⟩ := rd40.val h1 (sizedEach hsz (j := 1) rfl rfl) rfl
  clear hA0 hval0
  refine (walk a0 w0 a1 w1 W _ _ z0 z1).mono fun e W' ⟨he, bel⟩ => ?_
  subst he
  exact ⟨_, rfl, _, _, _, [], _, [], hW', trodAll_mk1 (shut_bool Try.underlying4 _), (trodAll_cons_mk (Below.trod laidOut (by kernel_rfl) (of_decide_eq_true (by kernel_rfl)) k0 bel lt0) (trodAll_cons_mk (Below.trod laidOut (by kernel_rfl) (of_decide_eq_true (by kernel_rfl)) k1 bel lt1) trodAll_mk0)), rfl, bel.frame _, fun h => by cases h⟩

end Go.Proofs.Ytecaleolkdoggaa.mendProducts
