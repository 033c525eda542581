/- FleetDepots returns true for every depot and every set, and leaves its arguments as they were. No condition. -/
import Derived.Test.YtciflideblafgaaDep
import Derived.Test.YtciflideblafgaaA18
import Derived.Test.YtciflideblafgaaRows
import Derived.ProofKit
import Derived.OpenShut
import Derived.ShutString
import Derived.ChangeOld
import Derived.Carry
namespace Go.Proofs.Ytciflideblafgaa.fleetDepots
open Go Go.Proofs.Ytciflideblafgaa.Fw Go.Proofs.Ytciflideblafgaa
open Go.ChangeShapes Go.WideShapes Go.ChangeAt Go.RowKit
open Go.ChangeMaps (open_string shut_string)
set_option linter.unusedVariables false

theorem own : ownKnob Try.prog.godebug = none := by kernel_rfl
theorem laidOut : laidOutB Try.prog = true := by kernel_rfl

theorem rInt : Reads Try.prog 3 1 (fun (n : Int) _ => .int .i64 n) (fun n => (Lit.int .i64 n).wf = true) := .int Try.underlying3 (by kernel_rfl)
theorem rInts : Reads Try.prog 22 1 (fun (l : List Int) _ => intsP l) (fun l => l.length ≤ maxLen) :=
  (rInt.slice (t := 22) (by decide) (by kernel_rfl) (by kernel_rfl) 0).map id (fun l j _ => rfl) (fun l h => h.1)
theorem rLists : Reads Try.prog 23 1 (fun (l : List (List Int)) _ => listsP l) (fun l => l.length ≤ maxLen ∧ ∀ a ∈ l, a.length ≤ maxLen) :=
  (rInts.slice (t := 23) (by decide) (by kernel_rfl) (by kernel_rfl) []).map id (fun l j _ => rfl) (fun l h => h)
set_option maxRecDepth 100000 in
theorem rDepot : Reads Try.prog 25 2 (fun (d : Depot) j => pvAt (depC d) j) (fun d => d.room.length ≤ maxLen ∧ d.tracks.length ≤ maxLen ∧ ∀ a ∈ d.tracks, a.length ≤ maxLen) :=
  (Reads.struct Try.underlying25 rfl (by kernel_rfl) (ReadsF.cons rInts (ReadsF.cons rLists ReadsF.nil rfl) rfl)).map (fun x => (⟨x.1, x.2.1⟩ : Depot))
    (fun x j hj => by match j, hj with
      | 0, _ => rfl
      | 1, _ => rfl) (fun x h => ⟨h.1, h.2.1⟩)

theorem walk (d : Depot) (x : Int) (hd : d.room.length ≤ maxLen ∧ d.tracks.length ≤ maxLen ∧ ∀ a ∈ d.tracks, a.length ≤ maxLen) (w : World) (v0 v1 : Value) (r0 : VRel w freeO [] .no (depV d) v0) (r1 : VRel w freeO [] .no (bI x) v1) :
    Calls Try.prog 3 #[v0, v1] w fun e w' => e = .returned (.bool true) ∧ Below w.heap.size w w' := by
  have hm : maxLen < 2 ^ 63 := by decide
  refine (f3_ok d x (by omega) (by omega) (fun t ht => by have := hd.2.2 t ht; omega)).law rfl (fun i y hy => ?_)
  match i, hy with
  | 0, hy => simp [nth] at hy; subst hy; exact r0
  | 1, hy => simp [nth] at hy; subst hy; exact r1
  | n + 2, hy => simp [nth] at hy

set_option maxRecDepth 100000 in
theorem lifted (os : Os) (started : os.Started) (H : Type) (enc : TypeId × Value → H) :
    ReturnsInHanded {} Try.checked os 3 .any (Rows.fleetDepotsSpec.pre6 enc Try.prog Try.f3 Rows.fleetDepotsRow.domain false) (Rows.fleetDepotsSpec.post enc Try.prog Try.f3 false true false false) := by
  refine returnsInHanded_of_change (C := Try.checked) own started (by kernel_rfl) Try.func3
    (ChangeSpec.witness6 (enc := enc) (C := Try.checked) false ⟨#[], #[.agg #[.slice none 0 0, .slice none 0 0], .int .i64 0], []⟩ 8 (by kernel_rfl) (by kernel_rfl) (by kernel_rfl) (by kernel_rfl)) ?_
  intro W base args ds gs before hval0 hW hcnd _
  have hval : ∀ (j : Nat) t v, Try.f3.params[j]? = some t → args[j]? = some v → Value.okWide Try.prog W .any base t v := hval0
  have hW' := hW
  obtain ⟨p, q, hA0, hV, rfl, hfz, hnd⟩ := hW
  have hA : DataW.TrodAll enc Try.prog W 0 (fun _ => true) true Try.f3.params.toList args.toList ds p := hA0
  rw [Try.params3] at hA hval
  obtain ⟨v0, vs0, d0, ds0, p0, q0, hargs, rfl, rfl, h0, r0⟩ := trodAll_cons hA
  obtain ⟨v1, vs1, d1, ds1, p1, q1, rfl, rfl, rfl, h1, r1⟩ := trodAll_cons r0
  obtain ⟨rfl, rfl, rfl⟩ := trodAll_nil r1
  obtain rfl : args = #[v0, v1] := by cases args; simp_all
  obtain ⟨rfl, rfl⟩ := trodVars_none hV
  have k0 := h0
  have lt0 : ∀ x ∈ p0, x.block < W.heap.size := by obtain ⟨m, hm⟩ := k0; exact DataW.trod_lt m _ _ _ hm
  have k1 := h1
  have lt1 : ∀ x ∈ p1, x.block < W.heap.size := by obtain ⟨m, hm⟩ := k1; exact DataW.trod_lt m _ _ _ hm
  obtain ⟨cs0, rfl, _⟩ := okWide_struct Try.underlying25 (hval 0 25 v0 rfl rfl)
  obtain ⟨n1, rfl⟩ := okWide_int Try.underlying3 (hval 1 3 v1 rfl rfl)
  obtain ⟨a0, w0, z0⟩ := rDepot.agg h0
  obtain ⟨a1, w1, z1⟩ := rInt.val h1 rfl
  clear hA0 hval0
  refine (walk a0 a1 w0 W _ _ z0 z1).mono fun e W' ⟨he, bel⟩ => ?_
  subst he
  exact ⟨_, rfl, _, _, _, [], _, [], hW', trodAll_mk1 (shut_bool Try.underlying4 _), (trodAll_cons_mk (Below.trod laidOut (by kernel_rfl) (of_decide_eq_true (by kernel_rfl)) k0 bel lt0) (trodAll_cons_mk (Below.trod laidOut (by kernel_rfl) (of_decide_eq_true (by kernel_rfl)) k1 bel lt1) trodAll_mk0)), rfl, bel.frame _, fun h => by cases h⟩

theorem over : Rows.fleetDepotsRow.holds Try.pinned (OpenSpec.ofChange Rows.fleetDepotsSpec) :=
  OpenClaim.holds_of_wide 3 Try.f3 rfl rfl rfl rfl rfl rfl rfl ⟨rfl, rfl, rfl, rfl, rfl⟩ rfl rfl rfl rfl rfl (by kernel_rfl) Try.func3 (by kernel_rfl)
    (of_decide_eq_true (by kernel_rfl)) (by unfold Func.isWrapper; first | (rw [if_pos (by decide +kernel)]; kernel_rfl) | (rw [if_neg (by decide +kernel)]; exact ⟨rfl, rfl⟩))
    (fun os started H enc _ => lifted os started H enc)

theorem proved : Rows.FleetDepotsSaid := over
#print axioms proved
end Go.Proofs.Ytciflideblafgaa.fleetDepots
