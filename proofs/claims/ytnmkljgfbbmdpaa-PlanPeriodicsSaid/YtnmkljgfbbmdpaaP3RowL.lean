/- What the program makes of the arguments of PlanPeriodics. -/
import Derived.Test.YtnmkljgfbbmdpaaP3P
import Derived.Test.YtnmkljgfbbmdpaaA18
import Derived.Test.YtnmkljgfbbmdpaaRows
import Derived.ProofKit
import Derived.OpenShut
import Derived.ShutString
import Derived.ChangeOld
import Derived.Carry
import Derived.SizedLaws
namespace Go.Proofs.Ytnmkljgfbbmdpaa.planPeriodics
open Go Go.Proofs.Ytnmkljgfbbmdpaa.Fw Go.Proofs.Ytnmkljgfbbmdpaa
open Go.ChangeShapes Go.WideShapes Go.ChangeAt Go.RowKit
open Go.ChangeMaps (open_string shut_string)
set_option linter.unusedVariables false

theorem own : ownKnob Try.prog.godebug = none := by kernel_rfl
theorem laidOut : laidOutB Try.prog = true := by kernel_rfl

def ok3 (n : Int) : Prop := (Lit.int .i64 n).wf = true
def siz3 (n : Int) : Nat := 1
theorem rd3 : Reads Try.prog 3 1 (fun (n : Int) j => eI n j) ok3 siz3 := .int Try.underlying3 (by kernel_rfl)
def ok42 (x : TRule) : Prop := ok3 x.from0 ∧ ok3 x.to0 ∧ ok3 x.min ∧ ok3 x.max ∧ ok3 x.weight ∧ True
def siz42 (x : TRule) : Nat := siz3 x.from0 + (siz3 x.to0 + (siz3 x.min + (siz3 x.max + (siz3 x.weight + (0))))) + 1
set_option maxRecDepth 100000 in
theorem rd42 : Reads Try.prog 42 5 TRule.e ok42 siz42 :=
  (Reads.struct Try.underlying42 rfl (by kernel_rfl) (fun m => ReadsF.cons rd3.1 (rd3.2 m) (ReadsF.cons rd3.1 (rd3.2 m) (ReadsF.cons rd3.1 (rd3.2 m) (ReadsF.cons rd3.1 (rd3.2 m) (ReadsF.cons rd3.1 (rd3.2 m) (ReadsF.nil) rfl) rfl) rfl) rfl) rfl)).map (fun x => (⟨x.1, x.2.1, x.2.2.1, x.2.2.2.1, x.2.2.2.2.1⟩ : TRule))
    (fun x j hj => by match j, hj with
      | 0, _ => rfl
      | 1, _ => rfl
      | 2, _ => rfl
      | 3, _ => rfl
      | 4, _ => rfl) (fun x h => h) (fun x => Nat.le_refl _)
def ok22 (l : List TRule) : Prop := (l.length ≤ maxLen ∧ l.length * 40 ≤ reachBytes) ∧ ∀ a ∈ l, ok42 a
def siz22 (l : List TRule) : Nat := sumL siz42 l + 1
theorem rd22 : Reads Try.prog 22 1 (fun (l : List TRule) j => (eL 5 TRule.e TRule.d) l j) ok22 siz22 :=
  (rd42.slice (t := 22) (b := 40) (by decide) (by kernel_rfl) (by kernel_rfl) TRule.d (by kernel_rfl)).map id (fun l j _ => rfl) (fun l h => h) (fun l => Nat.le_refl _)
def ok24 (x : TPeriodic) : Prop := ok3 x.period ∧ ok3 x.events ∧ ok22 x.rules ∧ True
def siz24 (x : TPeriodic) : Nat := siz3 x.period + (siz3 x.events + (siz22 x.rules + (0))) + 1
set_option maxRecDepth 100000 in
theorem rd24 : Reads Try.prog 24 3 TPeriodic.e ok24 siz24 :=
  (Reads.struct Try.underlying24 rfl (by kernel_rfl) (fun m => ReadsF.cons rd3.1 (rd3.2 m) (ReadsF.cons rd3.1 (rd3.2 m) (ReadsF.cons rd22.1 (rd22.2 m) (ReadsF.nil) rfl) rfl) rfl)).map (fun x => (⟨x.1, x.2.1, x.2.2.1⟩ : TPeriodic))
    (fun x j hj => by match j, hj with
      | 0, _ => rfl
      | 1, _ => rfl
      | 2, _ => rfl) (fun x h => h) (fun x => Nat.le_refl _)
theorem walk (a0 : TPeriodic) (w0 : ok24 a0) (w : World) (v0 : Value) (r0 : VRel w freeO [] .no (.agg (TPeriodic.c a0)) v0) :
    Calls Try.prog 3 #[v0] w fun e w' => e = .returned (.bool true) ∧ Below w.heap.size w w' := by
  have hm : maxLen < 2 ^ 63 := by decide
  refine (F3_ok (F3_true a0)).law rfl (fun i y hy => ?_)
  match i, hy with
  | 0, hy => simp [nth] at hy; subst hy; exact r0
  | n + 1, hy => simp [nth] at hy

set_option maxRecDepth 100000 in
theorem lifted (os : Os) (started : os.Started) (H : Type) (enc : TypeId × Value → H) :
    ReturnsInHanded {} Try.checked os 3 .any (Rows.planPeriodicsSpec.pre6 enc Try.prog Try.f3 Rows.planPeriodicsRow.domain false) (Rows.planPeriodicsSpec.post enc Try.prog Try.f3 false true false false) := by
  refine returnsInHanded_of_change_sized (C := Try.checked) own started (by kernel_rfl) Try.func3
    (ChangeSpec.witness6 (enc := enc) (C := Try.checked) false ⟨#[], #[.agg #[.int .i64 0, .int .i64 0, .slice none 0 0]], []⟩ 8 (by kernel_rfl) (by kernel_rfl) (by kernel_rfl) (by kernel_rfl)) ?_
  intro W base args ds gs before hval0 hW hcnd hsz _
  have hval : ∀ (j : Nat) t v, Try.f3.params[j]? = some t → args[j]? = some v → Value.okWide Try.prog W .any base t v := hval0
  have hW' := hW
  obtain ⟨p, q, hA0, hV, rfl, hfz, hnd⟩ := hW
  have hA : DataW.TrodAll enc Try.prog W 0 (fun _ => true) true Try.f3.params.toList args.toList ds p := hA0
  rw [Try.params3] at hA hval hsz
  obtain ⟨v0, vs0, d0, ds0, p0, q0, hargs, rfl, rfl, h0, r0⟩ := trodAll_cons hA
  obtain ⟨rfl, rfl, rfl⟩ := trodAll_nil r0
  obtain rfl : args = #[v0] := by cases args; simp_all
  obtain ⟨rfl, rfl⟩ := trodVars_none hV
  have k0 := h0
  have lt0 : ∀ x ∈ p0, x.block < W.heap.size := by obtain ⟨m, hm⟩ := k0; exact DataW.trod_lt m _ _ _ hm
  obtain ⟨cs0, rfl, _⟩ := okWide_struct Try.underlying24 (hval 0 24 v0 rfl rfl)
  obtain ⟨a0, ⟨w0, s0⟩, z0⟩ := rd24.agg h0 (sizedEach hsz (j := 0) rfl rfl)
  clear hA0 hval0
  refine (walk a0 w0 W _ z0).mono fun e W' ⟨he, bel⟩ => ?_
  subst he
  exact ⟨_, rfl, _, _, _, [], _, [], hW', trodAll_mk1 (shut_bool Try.underlying4 _), (trodAll_cons_mk (Below.trod laidOut (by kernel_rfl) (of_decide_eq_true (by kernel_rfl)) k0 bel lt0) trodAll_mk0), rfl, bel.frame _, fun h => by cases h⟩

end Go.Proofs.Ytnmkljgfbbmdpaa.planPeriodics
