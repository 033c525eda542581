/- What the program makes of the arguments of MendForced. -/
import Derived.Test.YtecaleolkdoggaaM10P
import Derived.Test.YtecaleolkdoggaaA18
import Derived.Test.YtecaleolkdoggaaRows
import Derived.ProofKit
import Derived.OpenShut
import Derived.ShutString
import Derived.ChangeOld
import Derived.Carry
import Derived.SizedLaws
namespace Go.Proofs.Ytecaleolkdoggaa.mendForced
open Go Go.Proofs.Ytecaleolkdoggaa.Fw Go.Proofs.Ytecaleolkdoggaa
open Go.ChangeShapes Go.WideShapes Go.ChangeAt Go.RowKit
open Go.ChangeMaps (open_string shut_string)
set_option linter.unusedVariables false

theorem own : ownKnob Try.prog.godebug = none := by kernel_rfl
theorem laidOut : laidOutB Try.prog = true := by kernel_rfl

def ok3 (n : Int) : Prop := (Lit.int .i64 n).wf = true
def siz3 (n : Int) : Nat := 1
theorem rd3 : Reads Try.prog 3 1 (fun (n : Int) j => eI n j) ok3 siz3 := .int Try.underlying3 (by kernel_rfl)
def ok22 (l : List Int) : Prop := (l.length ≤ maxLen ∧ l.length * 8 ≤ reachBytes) ∧ ∀ a ∈ l, ok3 a
def siz22 (l : List Int) : Nat := sumL siz3 l + 1
theorem rd22 : Reads Try.prog 22 1 (fun (l : List Int) j => (eL 1 eI 0) l j) ok22 siz22 :=
  (rd3.slice (t := 22) (b := 8) (by decide) (by kernel_rfl) (by kernel_rfl) 0 (by kernel_rfl)).map id (fun l j _ => rfl) (fun l h => h) (fun l => Nat.le_refl _)
def ok94 (x : TArc) : Prop := ok3 x.from0 ∧ ok3 x.to0 ∧ ok3 x.len ∧ True
def siz94 (x : TArc) : Nat := siz3 x.from0 + (siz3 x.to0 + (siz3 x.len + (0))) + 1
set_option maxRecDepth 100000 in
theorem rd94 : Reads Try.prog 94 3 TArc.e ok94 siz94 :=
  (Reads.struct Try.underlying94 rfl (by kernel_rfl) (fun m => ReadsF.cons rd3.1 (rd3.2 m) (ReadsF.cons rd3.1 (rd3.2 m) (ReadsF.cons rd3.1 (rd3.2 m) (ReadsF.nil) rfl) rfl) rfl)).map (fun x => (⟨x.1, x.2.1, x.2.2.1⟩ : TArc))
    (fun x j hj => by match j, hj with
      | 0, _ => rfl
      | 1, _ => rfl
      | 2, _ => rfl) (fun x h => h) (fun x => Nat.le_refl _)
def ok47 (l : List TArc) : Prop := (l.length ≤ maxLen ∧ l.length * 24 ≤ reachBytes) ∧ ∀ a ∈ l, ok94 a
def siz47 (l : List TArc) : Nat := sumL siz94 l + 1
theorem rd47 : Reads Try.prog 47 1 (fun (l : List TArc) j => (eL 3 TArc.e TArc.d) l j) ok47 siz47 :=
  (rd94.slice (t := 47) (b := 24) (by decide) (by kernel_rfl) (by kernel_rfl) TArc.d (by kernel_rfl)).map id (fun l j _ => rfl) (fun l h => h) (fun l => Nat.le_refl _)
def ok95 (l : List (List TArc)) : Prop := (l.length ≤ maxLen ∧ l.length * 24 ≤ reachBytes) ∧ ∀ a ∈ l, ok47 a
def siz95 (l : List (List TArc)) : Nat := sumL siz47 l + 1
theorem rd95 : Reads Try.prog 95 1 (fun (l : List (List TArc)) j => (eL 1 (eL 3 TArc.e TArc.d) []) l j) ok95 siz95 :=
  (rd47.slice (t := 95) (b := 24) (by decide) (by kernel_rfl) (by kernel_rfl) [] (by kernel_rfl)).map id (fun l j _ => rfl) (fun l h => h) (fun l => Nat.le_refl _)
def ok97 (x : TChoice) : Prop := ok95 x.ways ∧ True
def siz97 (x : TChoice) : Nat := siz95 x.ways + (0) + 1
set_option maxRecDepth 100000 in
theorem rd97 : Reads Try.prog 97 1 TChoice.e ok97 siz97 :=
  (Reads.struct Try.underlying97 rfl (by kernel_rfl) (fun m => ReadsF.cons rd95.1 (rd95.2 m) (ReadsF.nil) rfl)).map (fun x => (⟨x.1⟩ : TChoice))
    (fun x j hj => by match j, hj with
      | 0, _ => rfl) (fun x h => h) (fun x => Nat.le_refl _)
def ok48 (l : List TChoice) : Prop := (l.length ≤ maxLen ∧ l.length * 24 ≤ reachBytes) ∧ ∀ a ∈ l, ok97 a
def siz48 (l : List TChoice) : Nat := sumL siz97 l + 1
theorem rd48 : Reads Try.prog 48 1 (fun (l : List TChoice) j => (eL 1 TChoice.e TChoice.d) l j) ok48 siz48 :=
  (rd97.slice (t := 48) (b := 24) (by decide) (by kernel_rfl) (by kernel_rfl) TChoice.d (by kernel_rfl)).map id (fun l j _ => rfl) (fun l h => h) (fun l => Nat.le_refl _)
def ok50 (x : TGraph) : Prop := ok22 x.ready ∧ ok22 x.last ∧ ok22 x.due ∧ ok47 x.arcs ∧ ok48 x.choices ∧ True
def siz50 (x : TGraph) : Nat := siz22 x.ready + (siz22 x.last + (siz22 x.due + (siz47 x.arcs + (siz48 x.choices + (0))))) + 1
set_option maxRecDepth 100000 in
theorem rd50 : Reads Try.prog 50 5 TGraph.e ok50 siz50 :=
  (Reads.struct Try.underlying50 rfl (by kernel_rfl) (fun m => ReadsF.cons rd22.1 (rd22.2 m) (ReadsF.cons rd22.1 (rd22.2 m) (ReadsF.cons rd22.1 (rd22.2 m) (ReadsF.cons rd47.1 (rd47.2 m) (ReadsF.cons rd48.1 (rd48.2 m) (ReadsF.nil) rfl) rfl) rfl) rfl) rfl)).map (fun x => (⟨x.1, x.2.1, x.2.2.1, x.2.2.2.1, x.2.2.2.2.1⟩ : TGraph))
    (fun x j hj => by match j, hj with
      | 0, _ => rfl
      | 1, _ => rfl
      | 2, _ => rfl
      | 3, _ => rfl
      | 4, _ => rfl) (fun x h => h) (fun x => Nat.le_refl _)
theorem walk (a0 : TGraph) (w0 : ok50 a0) (a1 : (List Int)) (w1 : ok22 a1) (w : World) (v0 : Value) (v1 : Value) (r0 : VRel w freeO [] .no (.agg (TGraph.c a0)) v0) (r1 : VRel w freeO [] .no (.pv false ((eL 1 eI 0) a1 0)) v1) :
    Calls Try.prog 10 #[v0, v1] w fun e w' => e = .returned (.bool true) ∧ Below w.heap.size w w' := by
  have hm : maxLen < 2 ^ 63 := by decide
  refine (F10_ok (F10_true a0 a1)).law rfl (fun i y hy => ?_)
  match i, hy with
  | 0, hy => simp [nth] at hy; subst hy; exact r0
  | 1, hy => simp [nth] at hy; subst hy; exact r1
  | n + 2, hy => simp [nth] at hy

set_option maxRecDepth 100000 in
theorem lifted (os : Os) (started : os.Started) (H : Type) (enc : TypeId × Value → H) :
    ReturnsInHanded {} Try.checked os 10 .any (Rows.mendForcedSpec.pre6 enc Try.prog Try.f10 Rows.mendForcedRow.domain false) (Rows.mendForcedSpec.post enc Try.prog Try.f10 false true false false) := by
  refine returnsInHanded_of_change_sized (C := Try.checked) own started (by kernel_rfl) Try.func10
    (ChangeSpec.witness6 (enc := enc) (C := Try.checked) false ⟨#[], #[.agg #[.slice none 0 0, .slice none 0 0, .slice none 0 0, .slice none 0 0, .slice none 0 0], .slice none 0 0], []⟩ 8 (by kernel_rfl) (by kernel_rfl) (by kernel_rfl) (by kernel_rfl)) ?_
  intro W base args ds gs before hval0 hW hcnd hsz _
  have hval : ∀ (j : Nat) t v, Try.f10.params[j]? = some t → args[j]? = some v → Value.okWide Try.prog W .any base t v := hval0
  have hW' := hW
  obtain ⟨p, q, hA0, hV, rfl, hfz, hnd⟩ := hW
  have hA : DataW.TrodAll enc Try.prog W 0 (fun _ => true) true Try.f10.params.toList args.toList ds p := hA0
  rw [Try.params10] at hA hval hsz
  obtain ⟨v0, vs0, d0, ds0, p0, q0, hargs, rfl, rfl, h0, r0⟩ := trodAll_cons hA
  obtain ⟨v1, vs1, d1, ds1, p1, q1, rfl, rfl, rfl, h1, r1⟩ := trodAll_cons r0
  obtain ⟨rfl, rfl, rfl⟩ := trodAll_nil r1
  obtain rfl : args = #[v0, v1] := by cases args; simp_all
  obtain ⟨rfl, rfl⟩ := trodVars_none hV
  have k0 := h0
  have lt0 : ∀ x ∈ p0, x.block < W.heap.size := by obtain ⟨m, hm⟩ := k0; exact DataW.trod_lt m _ _ _ hm
  have k1 := h1
  have lt1 : ∀ x ∈ p1, x.block < W.heap.size := by obtain ⟨m, hm⟩ := k1; exact DataW.trod_lt m _ _ _ hm
  obtain ⟨cs0, rfl, _⟩ := okWide_struct Try.underlying50 (hval 0 50 v0 rfl rfl)
  obtain ⟨ad1, ln1, cp1, rfl⟩ := okWide_slice Try.underlying22 (hval 1 22 v1 rfl rfl)
  obtain ⟨a0, ⟨w0, s0⟩, z0⟩ := rd50.agg h0 (sizedEach hsz (j := 0) rfl rfl)
  obtain ⟨a1, ⟨w1, s1⟩, z1⟩ := rd22.val h1 (sizedEach hsz (j := 1) rfl rfl) rfl
  clear hA0 hval0
  refine (walk a0 w0 a1 w1 W _ _ z0 z1).mono fun e W' ⟨he, bel⟩ => ?_
  subst he
  exact ⟨_, rfl, _, _, _, [], _, [], hW', trodAll_mk1 (shut_bool Try.underlying4 _), (trodAll_cons_mk (Below.trod laidOut (by kernel_rfl) (of_decide_eq_true (by kernel_rfl)) k0 bel lt0) (trodAll_cons_mk (Below.trod laidOut (by kernel_rfl) (of_decide_eq_true (by kernel_rfl)) k1 bel lt1) trodAll_mk0)), rfl, bel.frame _, fun h => by cases h⟩

end Go.Proofs.Ytecaleolkdoggaa.mendForced
