/- What the program makes of the arguments of FleetInspects. -/
import Derived.Test.YtciflideblafgaaL13P
import Derived.Test.YtciflideblafgaaA18
import Derived.Test.YtciflideblafgaaRows
import Derived.ProofKit
import Derived.OpenShut
import Derived.ShutString
import Derived.ChangeOld
import Derived.Carry
import Derived.SizedLaws
namespace Go.Proofs.Ytciflideblafgaa.fleetInspects
open Go Go.Proofs.Ytciflideblafgaa.Fw Go.Proofs.Ytciflideblafgaa
open Go.ChangeShapes Go.WideShapes Go.ChangeAt Go.RowKit
open Go.ChangeMaps (open_string shut_string)
set_option linter.unusedVariables false

theorem own : ownKnob Try.prog.godebug = none := by kernel_rfl
theorem laidOut : laidOutB Try.prog = true := by kernel_rfl

def ok3 (n : Int) : Prop := (Lit.int .i64 n).wf = true
def siz3 (n : Int) : Nat := 1
theorem rd3 : Reads Try.prog 3 1 (fun (n : Int) j => eI n j) ok3 siz3 := .int Try.underlying3 (by kernel_rfl)
def ok108 (x : TTask) : Prop := ok3 x.from0 ∧ ok3 x.to0 ∧ ok3 x.dep ∧ ok3 x.arr ∧ ok3 x.km ∧ ok3 x.units ∧ True
def siz108 (x : TTask) : Nat := siz3 x.from0 + (siz3 x.to0 + (siz3 x.dep + (siz3 x.arr + (siz3 x.km + (siz3 x.units + (0)))))) + 1
set_option maxRecDepth 100000 in
theorem rd108 : Reads Try.prog 108 6 TTask.e ok108 siz108 :=
  (Reads.struct Try.underlying108 rfl (by kernel_rfl) (fun m => ReadsF.cons rd3.1 (rd3.2 m) (ReadsF.cons rd3.1 (rd3.2 m) (ReadsF.cons rd3.1 (rd3.2 m) (ReadsF.cons rd3.1 (rd3.2 m) (ReadsF.cons rd3.1 (rd3.2 m) (ReadsF.cons rd3.1 (rd3.2 m) (ReadsF.nil) rfl) rfl) rfl) rfl) rfl) rfl)).map (fun x => (⟨x.1, x.2.1, x.2.2.1, x.2.2.2.1, x.2.2.2.2.1, x.2.2.2.2.2.1⟩ : TTask))
    (fun x j hj => by match j, hj with
      | 0, _ => rfl
      | 1, _ => rfl
      | 2, _ => rfl
      | 3, _ => rfl
      | 4, _ => rfl
      | 5, _ => rfl) (fun x h => h) (fun x => Nat.le_refl _)
def ok33 (l : List TTask) : Prop := (l.length ≤ maxLen ∧ l.length * 48 ≤ reachBytes) ∧ ∀ a ∈ l, ok108 a
def siz33 (l : List TTask) : Nat := sumL siz108 l + 1
theorem rd33 : Reads Try.prog 33 1 (fun (l : List TTask) j => (eL 6 TTask.e TTask.d) l j) ok33 siz33 :=
  (rd108.slice (t := 33) (b := 48) (by decide) (by kernel_rfl) (by kernel_rfl) TTask.d (by kernel_rfl)).map id (fun l j _ => rfl) (fun l h => h) (fun l => Nat.le_refl _)
def ok22 (l : List Int) : Prop := (l.length ≤ maxLen ∧ l.length * 8 ≤ reachBytes) ∧ ∀ a ∈ l, ok3 a
def siz22 (l : List Int) : Nat := sumL siz3 l + 1
theorem rd22 : Reads Try.prog 22 1 (fun (l : List Int) j => (eL 1 eI 0) l j) ok22 siz22 :=
  (rd3.slice (t := 22) (b := 8) (by decide) (by kernel_rfl) (by kernel_rfl) 0 (by kernel_rfl)).map id (fun l j _ => rfl) (fun l h => h) (fun l => Nat.le_refl _)
def ok23 (l : List (List Int)) : Prop := (l.length ≤ maxLen ∧ l.length * 24 ≤ reachBytes) ∧ ∀ a ∈ l, ok22 a
def siz23 (l : List (List Int)) : Nat := sumL siz22 l + 1
theorem rd23 : Reads Try.prog 23 1 (fun (l : List (List Int)) j => (eL 1 (eL 1 eI 0) []) l j) ok23 siz23 :=
  (rd22.slice (t := 23) (b := 24) (by decide) (by kernel_rfl) (by kernel_rfl) [] (by kernel_rfl)).map id (fun l j _ => rfl) (fun l h => h) (fun l => Nat.le_refl _)
def ok128 (x : TSet) : Prop := ok3 x.home ∧ ok3 x.km ∧ True
def siz128 (x : TSet) : Nat := siz3 x.home + (siz3 x.km + (0)) + 1
set_option maxRecDepth 100000 in
theorem rd128 : Reads Try.prog 128 2 TSet.e ok128 siz128 :=
  (Reads.struct Try.underlying128 rfl (by kernel_rfl) (fun m => ReadsF.cons rd3.1 (rd3.2 m) (ReadsF.cons rd3.1 (rd3.2 m) (ReadsF.nil) rfl) rfl)).map (fun x => (⟨x.1, x.2.1⟩ : TSet))
    (fun x j hj => by match j, hj with
      | 0, _ => rfl
      | 1, _ => rfl) (fun x h => h) (fun x => Nat.le_refl _)
def ok80 (l : List TSet) : Prop := (l.length ≤ maxLen ∧ l.length * 16 ≤ reachBytes) ∧ ∀ a ∈ l, ok128 a
def siz80 (l : List TSet) : Nat := sumL siz128 l + 1
theorem rd80 : Reads Try.prog 80 1 (fun (l : List TSet) j => (eL 2 TSet.e TSet.d) l j) ok80 siz80 :=
  (rd128.slice (t := 80) (b := 16) (by decide) (by kernel_rfl) (by kernel_rfl) TSet.d (by kernel_rfl)).map id (fun l j _ => rfl) (fun l h => h) (fun l => Nat.le_refl _)
def ok82 (x : TShop) : Prop := ok3 x.place ∧ ok3 x.long ∧ ok3 x.limit ∧ True
def siz82 (x : TShop) : Nat := siz3 x.place + (siz3 x.long + (siz3 x.limit + (0))) + 1
set_option maxRecDepth 100000 in
theorem rd82 : Reads Try.prog 82 3 TShop.e ok82 siz82 :=
  (Reads.struct Try.underlying82 rfl (by kernel_rfl) (fun m => ReadsF.cons rd3.1 (rd3.2 m) (ReadsF.cons rd3.1 (rd3.2 m) (ReadsF.cons rd3.1 (rd3.2 m) (ReadsF.nil) rfl) rfl) rfl)).map (fun x => (⟨x.1, x.2.1, x.2.2.1⟩ : TShop))
    (fun x j hj => by match j, hj with
      | 0, _ => rfl
      | 1, _ => rfl
      | 2, _ => rfl) (fun x h => h) (fun x => Nat.le_refl _)
theorem walk (a0 : (List TTask)) (w0 : ok33 a0) (a1 : (List (List Int))) (w1 : ok23 a1) (a2 : (List TSet)) (w2 : ok80 a2) (a3 : TShop) (w3 : ok82 a3) (w : World) (v0 : Value) (v1 : Value) (v2 : Value) (v3 : Value) (r0 : VRel w freeO [] .no (.pv false ((eL 6 TTask.e TTask.d) a0 0)) v0) (r1 : VRel w freeO [] .no (.pv false ((eL 1 (eL 1 eI 0) []) a1 0)) v1) (r2 : VRel w freeO [] .no (.pv false ((eL 2 TSet.e TSet.d) a2 0)) v2) (r3 : VRel w freeO [] .no (.agg (TShop.c a3)) v3) :
    Calls Try.prog 13 #[v0, v1, v2, v3] w fun e w' => e = .returned (.bool true) ∧ Below w.heap.size w w' := by
  have hm : maxLen < 2 ^ 63 := by decide
  refine (F13_ok (F13_true a0 a1 a2 a3 (by have h := w0.1.2; have : reachBytes < 2 ^ 47 := reachBytes_lt; unfold Fit; omega) (by have h := w2.1.2; have : reachBytes < 2 ^ 47 := reachBytes_lt; unfold Fit; omega))).law rfl (fun i y hy => ?_)
  match i, hy with
  | 0, hy => simp [nth] at hy; subst hy; exact r0
  | 1, hy => simp [nth] at hy; subst hy; exact r1
  | 2, hy => simp [nth] at hy; subst hy; exact r2
  | 3, hy => simp [nth] at hy; subst hy; exact r3
  | n + 4, hy => simp [nth] at hy

set_option maxRecDepth 100000 in
theorem lifted (os : Os) (started : os.Started) (H : Type) (enc : TypeId × Value → H) :
    ReturnsInHanded {} Try.checked os 13 .any (Rows.fleetInspectsSpec.pre6 enc Try.prog Try.f13 Rows.fleetInspectsRow.domain false) (Rows.fleetInspectsSpec.post enc Try.prog Try.f13 false true false false) := by
  refine returnsInHanded_of_change_sized (C := Try.checked) own started (by kernel_rfl) Try.func13
    (ChangeSpec.witness6 (enc := enc) (C := Try.checked) false ⟨#[], #[.slice none 0 0, .slice none 0 0, .slice none 0 0, .agg #[.int .i64 0, .int .i64 0, .int .i64 0]], []⟩ 8 (by kernel_rfl) (by kernel_rfl) (by kernel_rfl) (by kernel_rfl)) ?_
  intro W base args ds gs before hval0 hW hcnd hsz _
  have hval : ∀ (j : Nat) t v, Try.f13.params[j]? = some t → args[j]? = some v → Value.okWide Try.prog W .any base t v := hval0
  have hW' := hW
  obtain ⟨p, q, hA0, hV, rfl, hfz, hnd⟩ := hW
  have hA : DataW.TrodAll enc Try.prog W 0 (fun _ => true) true Try.f13.params.toList args.toList ds p := hA0
  rw [Try.params13] at hA hval hsz
  obtain ⟨v0, vs0, d0, ds0, p0, q0, hargs, rfl, rfl, h0, r0⟩ := trodAll_cons hA
  obtain ⟨v1, vs1, d1, ds1, p1, q1, rfl, rfl, rfl, h1, r1⟩ := trodAll_cons r0
  obtain ⟨v2, vs2, d2, ds2, p2, q2, rfl, rfl, rfl, h2, r2⟩ := trodAll_cons r1
  obtain ⟨v3, vs3, d3, ds3, p3, q3, rfl, rfl, rfl, h3, r3⟩ := trodAll_cons r2
  obtain ⟨rfl, rfl, rfl⟩ := trodAll_nil r3
  obtain rfl : args = #[v0, v1, v2, v3] := by cases args; simp_all
  obtain ⟨rfl, rfl⟩ := trodVars_none hV
  have k0 := h0
  have lt0 : ∀ x ∈ p0, x.block < W.heap.size := by obtain ⟨m, hm⟩ := k0; exact DataW.trod_lt m _ _ _ hm
  have k1 := h1
  have lt1 : ∀ x ∈ p1, x.block < W.heap.size := by obtain ⟨m, hm⟩ := k1; exact DataW.trod_lt m _ _ _ hm
  have k2 := h2
  have lt2 : ∀ x ∈ p2, x.block < W.heap.size := by obtain ⟨m, hm⟩ := k2; exact DataW.trod_lt m _ _ _ hm
  have k3 := h3
  have lt3 : ∀ x ∈ p3, x.block < W.heap.size := by obtain ⟨m, hm⟩ := k3; exact DataW.trod_lt m _ _ _ hm
  obtain ⟨ad0, ln0, cp0, rfl⟩ := okWide_slice Try.underlying33 (hval 0 33 v0 rfl rfl)
  obtain ⟨ad1, ln1, cp1, rfl⟩ := okWide_slice Try.underlying23 (hval 1 23 v1 rfl rfl)
  obtain ⟨ad2, ln2, cp2, rfl⟩ := okWide_slice Try.underlying80 (hval 2 80 v2 rfl rfl)
  obtain ⟨cs3, rfl, _⟩ := okWide_struct Try.underlying82 (hval 3 82 v3 rfl rfl)
  obtain ⟨a0, ⟨w0, s0⟩, z0⟩ := rd33.val h0 (sizedEach hsz (j := 0) rfl rfl) rfl
  obtain ⟨a1, ⟨w1, s1⟩, z1⟩ := rd23.val h1 (sizedEach hsz (j := 1) rfl rfl) rfl
  obtain ⟨a2, ⟨w2, s2⟩, z2⟩ := rd80.val h2 (sizedEach hsz (j := 2) rfl rfl) rfl
  obtain ⟨a3, ⟨w3, s3⟩, z3⟩ := rd82.agg h3 (sizedEach hsz (j := 3) rfl rfl)
  clear hA0 hval0
  refine (walk a0 w0 a1 w1 a2 w2 a3 w3 W _ _ _ _ z0 z1 z2 z3).mono fun e W' ⟨he, bel⟩ => ?_
  subst he
  exact ⟨_, rfl, _, _, _, [], _, [], hW', trodAll_mk1 (shut_bool Try.underlying4 _), (trodAll_cons_mk (Below.trod laidOut (by kernel_rfl) (of_decide_eq_true (by kernel_rfl)) k0 bel lt0) (trodAll_cons_mk (Below.trod laidOut (by kernel_rfl) (of_decide_eq_true (by kernel_rfl)) k1 bel lt1) (trodAll_cons_mk (Below.trod laidOut (by kernel_rfl) (of_decide_eq_true (by kernel_rfl)) k2 bel lt2) (trodAll_cons_mk (Below.trod laidOut (by kernel_rfl) (of_decide_eq_true (by kernel_rfl)) k3 bel lt3) trodAll_mk0)))), rfl, bel.frame _, fun h => by cases h⟩

end Go.Proofs.Ytciflideblafgaa.fleetInspects
