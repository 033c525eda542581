/- What the program makes of the arguments of FareBids. -/
import Derived.Test.YtgghnfmabphbmaaR12P
import Derived.Test.YtgghnfmabphbmaaA18
import Derived.Test.YtgghnfmabphbmaaRows
import Derived.ProofKit
import Derived.OpenShut
import Derived.ShutString
import Derived.ChangeOld
import Derived.Carry
import Derived.SizedLaws
namespace Go.Proofs.Ytgghnfmabphbmaa.fareBids
open Go Go.Proofs.Ytgghnfmabphbmaa.Fw Go.Proofs.Ytgghnfmabphbmaa
open Go.ChangeShapes Go.WideShapes Go.ChangeAt Go.RowKit
open Go.ChangeMaps (open_string shut_string)
set_option linter.unusedVariables false

theorem own : ownKnob Try.prog.godebug = none := by kernel_rfl
theorem laidOut : laidOutB Try.prog = true := by kernel_rfl

def ok3 (n : Int) : Prop := (Lit.int .i64 n).wf = true
def siz3 (n : Int) : Nat := 1
theorem rd3 : Reads Try.prog 3 1 (fun (n : Int) j => eI n j) ok3 siz3 := .int Try.underlying3 (by kernel_rfl)
def ok153 (x : TOffer) : Prop := ok3 x.from0 ∧ ok3 x.to0 ∧ ok3 x.value ∧ True
def siz153 (x : TOffer) : Nat := siz3 x.from0 + (siz3 x.to0 + (siz3 x.value + (0))) + 1
set_option maxRecDepth 100000 in
theorem rd153 : Reads Try.prog 153 3 TOffer.e ok153 siz153 :=
  (Reads.struct Try.underlying153 rfl (by kernel_rfl) (fun m => ReadsF.cons rd3.1 (rd3.2 m) (ReadsF.cons rd3.1 (rd3.2 m) (ReadsF.cons rd3.1 (rd3.2 m) (ReadsF.nil) rfl) rfl) rfl)).map (fun x => (⟨x.1, x.2.1, x.2.2.1⟩ : TOffer))
    (fun x j hj => by match j, hj with
      | 0, _ => rfl
      | 1, _ => rfl
      | 2, _ => rfl) (fun x h => h) (fun x => Nat.le_refl _)
def ok69 (l : List TOffer) : Prop := (l.length ≤ maxLen ∧ l.length * 24 ≤ reachBytes) ∧ ∀ a ∈ l, ok153 a
def siz69 (l : List TOffer) : Nat := sumL siz153 l + 1
theorem rd69 : Reads Try.prog 69 1 (fun (l : List TOffer) j => (eL 3 TOffer.e TOffer.d) l j) ok69 siz69 :=
  (rd153.slice (t := 69) (b := 24) (by decide) (by kernel_rfl) (by kernel_rfl) TOffer.d (by kernel_rfl)).map id (fun l j _ => rfl) (fun l h => h) (fun l => Nat.le_refl _)
theorem walk (a0 : (List TOffer)) (w0 : ok69 a0) (a1 : Int) (w1 : ok3 a1) (a2 : Int) (w2 : ok3 a2) (w : World) (v0 : Value) (v1 : Value) (v2 : Value) (r0 : VRel w freeO [] .no (.pv false ((eL 3 TOffer.e TOffer.d) a0 0)) v0) (r1 : VRel w freeO [] .no (.pv false (eI a1 0)) v1) (r2 : VRel w freeO [] .no (.pv false (eI a2 0)) v2) :
    Calls Try.prog 12 #[v0, v1, v2] w fun e w' => e = .returned (.bool true) ∧ Below w.heap.size w w' := by
  have hm : maxLen < 2 ^ 63 := by decide
  refine (F12_ok (F12_true a0 a1 a2)).law rfl (fun i y hy => ?_)
  match i, hy with
  | 0, hy => simp [nth] at hy; subst hy; exact r0
  | 1, hy => simp [nth] at hy; subst hy; exact r1
  | 2, hy => simp [nth] at hy; subst hy; exact r2
  | n + 3, hy => simp [nth] at hy

set_option maxRecDepth 100000 in
theorem lifted (os : Os) (started : os.Started) (H : Type) (enc : TypeId × Value → H) :
    ReturnsInHanded {} Try.checked os 12 .any (Rows.fareBidsSpec.pre6 enc Try.prog Try.f12 Rows.fareBidsRow.domain false) (Rows.fareBidsSpec.post enc Try.prog Try.f12 false true false false) := by
  refine returnsInHanded_of_change_sized (C := Try.checked) own started (by kernel_rfl) Try.func12
    (ChangeSpec.witness6 (enc := enc) (C := Try.checked) false ⟨#[], #[.slice none 0 0, .int .i64 0, .int .i64 0], []⟩ 8 (by kernel_rfl) (by kernel_rfl) (by kernel_rfl) (by kernel_rfl)) ?_
  intro W base args ds gs before hval0 hW hcnd hsz _
  have hval : ∀ (j : Nat) t v, Try.f12.params[j]? = some t → args[j]? = some v → Value.okWide Try.prog W .any base t v := hval0
  have hW' := hW
  obtain ⟨p, q, hA0, hV, rfl, hfz, hnd⟩ := hW
  have hA : DataW.TrodAll enc Try.prog W 0 (fun _ => true) true Try.f12.params.toList args.toList ds p := hA0
  rw [Try.params12] at hA hval hsz
  obtain ⟨v0, vs0, d0, ds0, p0, q0, hargs, rfl, rfl, h0, r0⟩ := trodAll_cons hA
  obtain ⟨v1, vs1, d1, ds1, p1, q1, rfl, rfl, rfl, h1, r1⟩ := trodAll_cons r0
  obtain ⟨v2, vs2, d2, ds2, p2, q2, rfl, rfl, rfl, h2, r2⟩ := trodAll_cons r1
  obtain ⟨rfl, rfl, rfl⟩ := trodAll_nil r2
  obtain rfl : args = #[v0, v1, v2] := by cases args; simp_all
  obtain ⟨rfl, rfl⟩ := trodVars_none hV
  have k0 := h0
  have lt0 : ∀ x ∈ p0, x.block < W.heap.size := by obtain ⟨m, hm⟩ := k0; exact DataW.trod_lt m _ _ _ hm
  have k1 := h1
  have lt1 : ∀ x ∈ p1, x.block < W.heap.size := by obtain ⟨m, hm⟩ := k1; exact DataW.trod_lt m _ _ _ hm
  have k2 := h2
  have lt2 : ∀ x ∈ p2, x.block < W.heap.size := by obtain ⟨m, hm⟩ := k2; exact DataW.trod_lt m _ _ _ hm
  obtain ⟨ad0, ln0, cp0, rfl⟩ := okWide_slice Try.underlying69 (hval 0 69 v0 rfl rfl)
  obtain ⟨n1, rfl⟩ := okWide_int Try.underlying3 (hval 1 3 v1 rfl rfl)
  obtain ⟨n2, rfl⟩ := okWide_int Try.underlying3 (hval 2 3 v2 rfl rfl)
  obtain ⟨a0, ⟨w0, s0⟩, z0⟩ := rd69.val h0 (sizedEach hsz (j := 0) rfl rfl) rfl
  obtain ⟨a1, ⟨w1, s1⟩, z1⟩ := rd3.val h1 (sizedEach hsz (j := 1) rfl rfl) rfl
  obtain ⟨a2, ⟨w2, s2⟩, z2⟩ := rd3.val h2 (sizedEach hsz (j := 2) rfl rfl) rfl
  clear hA0 hval0
  refine (walk a0 w0 a1 w1 a2 w2 W _ _ _ z0 z1 z2).mono fun e W' ⟨he, bel⟩ => ?_
  subst he
  exact ⟨_, rfl, _, _, _, [], _, [], hW', trodAll_mk1 (shut_bool Try.underlying4 _), (trodAll_cons_mk (Below.trod laidOut (by kernel_rfl) (of_decide_eq_true (by kernel_rfl)) k0 bel lt0) (trodAll_cons_mk (Below.trod laidOut (by kernel_rfl) (of_decide_eq_true (by kernel_rfl)) k1 bel lt1) (trodAll_cons_mk (Below.trod laidOut (by kernel_rfl) (of_decide_eq_true (by kernel_rfl)) k2 bel lt2) trodAll_mk0))), rfl, bel.frame _, fun h => by cases h⟩

end Go.Proofs.Ytgghnfmabphbmaa.fareBids
