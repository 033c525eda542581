/- What the program makes of the arguments of MendSpreads. -/
import Derived.Test.YtecaleolkdoggaaM4P
import Derived.Test.YtecaleolkdoggaaA18
import Derived.Test.YtecaleolkdoggaaRows
import Derived.ProofKit
import Derived.OpenShut
import Derived.ShutString
import Derived.ChangeOld
import Derived.Carry
import Derived.SizedLaws
namespace Go.Proofs.Ytecaleolkdoggaa.mendSpreads
open Go Go.Proofs.Ytecaleolkdoggaa.Fw Go.Proofs.Ytecaleolkdoggaa
open Go.ChangeShapes Go.WideShapes Go.ChangeAt Go.RowKit
open Go.ChangeMaps (open_string shut_string)
set_option linter.unusedVariables false

theorem own : ownKnob Try.prog.godebug = none := by kernel_rfl
theorem laidOut : laidOutB Try.prog = true := by kernel_rfl

def ok3 (n : Int) : Prop := (Lit.int .i64 n).wf = true
def siz3 (n : Int) : Nat := 1
theorem rd3 : Reads Try.prog 3 1 (fun (n : Int) j => eI n j) ok3 siz3 := .int Try.underlying3 (by kernel_rfl)
def ok22 (l : List Int) : Prop := (l.length ≤ maxLen ∧ l.length * 8 ≤ reachBytes) ∧ ∀ a ∈ l, ok3 a
def siz22 (l : List Int) : Nat := sumL siz3 l + 1
theorem rd22 : Reads Try.prog 22 1 (fun (l : List Int) j => (eL 1 eI 0) l j) ok22 siz22 :=
  (rd3.slice (t := 22) (b := 8) (by decide) (by kernel_rfl) (by kernel_rfl) 0 (by kernel_rfl)).map id (fun l j _ => rfl) (fun l h => h) (fun l => Nat.le_refl _)
def ok36 (x : TLink) : Prop := ok3 x.from0 ∧ ok3 x.to0 ∧ ok3 x.len ∧ ok3 x.back ∧ True
def siz36 (x : TLink) : Nat := siz3 x.from0 + (siz3 x.to0 + (siz3 x.len + (siz3 x.back + (0)))) + 1
set_option maxRecDepth 100000 in
theorem rd36 : Reads Try.prog 36 4 TLink.e ok36 siz36 :=
  (Reads.struct Try.underlying36 rfl (by kernel_rfl) (fun m => ReadsF.cons rd3.1 (rd3.2 m) (ReadsF.cons rd3.1 (rd3.2 m) (ReadsF.cons rd3.1 (rd3.2 m) (ReadsF.cons rd3.1 (rd3.2 m) (ReadsF.nil) rfl) rfl) rfl) rfl)).map (fun x => (⟨x.1, x.2.1, x.2.2.1, x.2.2.2.1⟩ : TLink))
    (fun x j hj => by match j, hj with
      | 0, _ => rfl
      | 1, _ => rfl
      | 2, _ => rfl
      | 3, _ => rfl) (fun x h => h) (fun x => Nat.le_refl _)
def ok23 (l : List TLink) : Prop := (l.length ≤ maxLen ∧ l.length * 32 ≤ reachBytes) ∧ ∀ a ∈ l, ok36 a
def siz23 (l : List TLink) : Nat := sumL siz36 l + 1
theorem rd23 : Reads Try.prog 23 1 (fun (l : List TLink) j => (eL 4 TLink.e TLink.d) l j) ok23 siz23 :=
  (rd36.slice (t := 23) (b := 32) (by decide) (by kernel_rfl) (by kernel_rfl) TLink.d (by kernel_rfl)).map id (fun l j _ => rfl) (fun l h => h) (fun l => Nat.le_refl _)
def ok25 (x : TRound) : Prop := ok3 x.period ∧ ok22 x.plan ∧ ok23 x.links ∧ True
def siz25 (x : TRound) : Nat := siz3 x.period + (siz22 x.plan + (siz23 x.links + (0))) + 1
set_option maxRecDepth 100000 in
theorem rd25 : Reads Try.prog 25 3 TRound.e ok25 siz25 :=
  (Reads.struct Try.underlying25 rfl (by kernel_rfl) (fun m => ReadsF.cons rd3.1 (rd3.2 m) (ReadsF.cons rd22.1 (rd22.2 m) (ReadsF.cons rd23.1 (rd23.2 m) (ReadsF.nil) rfl) rfl) rfl)).map (fun x => (⟨x.1, x.2.1, x.2.2.1⟩ : TRound))
    (fun x j hj => by match j, hj with
      | 0, _ => rfl
      | 1, _ => rfl
      | 2, _ => rfl) (fun x h => h) (fun x => Nat.le_refl _)
def ok90 (x : TFirst) : Prop := ok3 x.event ∧ ok3 x.period ∧ ok3 x.secs ∧ True
def siz90 (x : TFirst) : Nat := siz3 x.event + (siz3 x.period + (siz3 x.secs + (0))) + 1
set_option maxRecDepth 100000 in
theorem rd90 : Reads Try.prog 90 3 TFirst.e ok90 siz90 :=
  (Reads.struct Try.underlying90 rfl (by kernel_rfl) (fun m => ReadsF.cons rd3.1 (rd3.2 m) (ReadsF.cons rd3.1 (rd3.2 m) (ReadsF.cons rd3.1 (rd3.2 m) (ReadsF.nil) rfl) rfl) rfl)).map (fun x => (⟨x.1, x.2.1, x.2.2.1⟩ : TFirst))
    (fun x j hj => by match j, hj with
      | 0, _ => rfl
      | 1, _ => rfl
      | 2, _ => rfl) (fun x h => h) (fun x => Nat.le_refl _)
def ok39 (l : List TFirst) : Prop := (l.length ≤ maxLen ∧ l.length * 24 ≤ reachBytes) ∧ ∀ a ∈ l, ok90 a
def siz39 (l : List TFirst) : Nat := sumL siz90 l + 1
theorem rd39 : Reads Try.prog 39 1 (fun (l : List TFirst) j => (eL 3 TFirst.e TFirst.d) l j) ok39 siz39 :=
  (rd90.slice (t := 39) (b := 24) (by decide) (by kernel_rfl) (by kernel_rfl) TFirst.d (by kernel_rfl)).map id (fun l j _ => rfl) (fun l h => h) (fun l => Nat.le_refl _)
theorem walk (a0 : TRound) (w0 : ok25 a0) (a1 : (List TFirst)) (w1 : ok39 a1) (a2 : Int) (w2 : ok3 a2) (w : World) (v0 : Value) (v1 : Value) (v2 : Value) (r0 : VRel w freeO [] .no (.agg (TRound.c a0)) v0) (r1 : VRel w freeO [] .no (.pv false ((eL 3 TFirst.e TFirst.d) a1 0)) v1) (r2 : VRel w freeO [] .no (.pv false (eI a2 0)) v2) :
    Calls Try.prog 4 #[v0, v1, v2] w fun e w' => e = .returned (.bool true) ∧ Below w.heap.size w w' := by
  have hm : maxLen < 2 ^ 63 := by decide
  refine (F4_ok (F4_true a0 a1 a2)).law rfl (fun i y hy => ?_)
  match i, hy with
  | 0, hy => simp [nth] at hy; subst hy; exact r0
  | 1, hy => simp [nth] at hy; subst hy; exact r1
  | 2, hy => simp [nth] at hy; subst hy; exact r2
  | n + 3, hy => simp [nth] at hy

set_option maxRecDepth 100000 in
theorem lifted (os : Os) (started : os.Started) (H : Type) (enc : TypeId × Value → H) :
    ReturnsInHanded {} Try.checked os 4 .any (Rows.mendSpreadsSpec.pre6 enc Try.prog Try.f4 Rows.mendSpreadsRow.domain false) (Rows.mendSpreadsSpec.post enc Try.prog Try.f4 false true false false) := by
  refine returnsInHanded_of_change_sized (C := Try.checked) own started (by kernel_rfl) Try.func4
    (ChangeSpec.witness6 (enc := enc) (C := Try.checked) false ⟨#[], #[.agg #[.int .i64 0, .slice none 0 0, .slice none 0 0], .slice none 0 0, .int .i64 0], []⟩ 8 (by kernel_rfl) (by kernel_rfl) (by kernel_rfl) (by kernel_rfl)) ?_
  intro W base args ds gs before hval0 hW hcnd hsz _
  have hval : ∀ (j : Nat) t v, Try.f4.params[j]? = some t → args[j]? = some v → Value.okWide Try.prog W .any base t v := hval0
  have hW' := hW
  obtain ⟨p, q, hA0, hV, rfl, hfz, hnd⟩ := hW
  have hA : DataW.TrodAll enc Try.prog W 0 (fun _ => true) true Try.f4.params.toList args.toList ds p := hA0
  rw [Try.params4] at hA hval hsz
  obtain ⟨v0, vs0, d0, ds0, p0, q0, hargs, rfl, rfl, h0, r0⟩ := trodAll_cons hA
  obtain ⟨v1, vs1, d1, ds1, p1, q1, rfl, rfl, rfl, h1, r1⟩ := trodAll_cons r0
  obtain ⟨v2, vs2, d2, ds2, p2, q2, rfl, rfl, rfl, h2, r2⟩ := trodAll_cons r1
  obtain ⟨rfl, rfl, rfl⟩ := trodAll_nil r2
  obtain rfl : args = #[v0, v1, v2] := by cases args; simp_all
  obtain ⟨rfl, rfl⟩ := trodVars_none hV
  have k0 := h0
  have lt0 : ∀ x ∈ p0, x.block < W.heap.size := by obtain ⟨m, hm⟩ := k0; exact DataW.trod_lt m _ _ _ hm
  have k1 := h1
  have lt1 : ∀ x ∈ p1, x.block < W.heap.size := by obtain ⟨m, hm⟩ := k1; exact DataW.trod_lt m _ _ _ hm
  have k2 := h2
  have lt2 : ∀ x ∈ p2, x.block < W.heap.size := by obtain ⟨m, hm⟩ := k2; exact DataW.trod_lt m _ _ _ hm
  obtain ⟨cs0, rfl, _⟩ := okWide_struct Try.underlying25 (hval 0 25 v0 rfl rfl)
  obtain ⟨ad1, ln1, cp1, rfl⟩ := okWide_slice Try.underlying39 (hval 1 39 v1 rfl rfl)
  obtain ⟨n2, rfl⟩ := okWide_int Try.underlying3 (hval 2 3 v2 rfl rfl)
  obtain ⟨a0, ⟨w0, s0⟩, z0⟩ := rd25.agg h0 (sizedEach hsz (j := 0) rfl rfl)
  obtain ⟨a1, ⟨w1, s1⟩, z1⟩ := rd39.val h1 (sizedEach hsz (j := 1) rfl rfl) rfl
  obtain ⟨a2, ⟨w2, s2⟩, z2⟩ := rd3.val h2 (sizedEach hsz (j := 2) rfl rfl) rfl
  clear hA0 hval0
  refine (walk a0 w0 a1 w1 a2 w2 W _ _ _ z0 z1 z2).mono fun e W' ⟨he, bel⟩ => ?_
  subst he
  exact ⟨_, rfl, _, _, _, [], _, [], hW', trodAll_mk1 (shut_bool Try.underlying4 _), (trodAll_cons_mk (Below.trod laidOut (by kernel_rfl) (of_decide_eq_true (by kernel_rfl)) k0 bel lt0) (trodAll_cons_mk (Below.trod laidOut (by kernel_rfl) (of_decide_eq_true (by kernel_rfl)) k1 bel lt1) (trodAll_cons_mk (Below.trod laidOut (by kernel_rfl) (of_decide_eq_true (by kernel_rfl)) k2 bel lt2) trodAll_mk0))), rfl, bel.frame _, fun h => by cases h⟩

end Go.Proofs.Ytecaleolkdoggaa.mendSpreads
