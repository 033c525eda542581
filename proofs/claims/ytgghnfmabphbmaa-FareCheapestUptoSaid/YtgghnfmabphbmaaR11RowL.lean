/- What the program makes of the arguments of FareCheapest. -/
import Derived.Test.YtgghnfmabphbmaaR11P
import Derived.Test.YtgghnfmabphbmaaA18
import Derived.Test.YtgghnfmabphbmaaRows
import Derived.ProofKit
import Derived.OpenShut
import Derived.ShutString
import Derived.ChangeOld
import Derived.Carry
import Derived.SizedLaws
import Derived.JoinedCond
import Derived.Deep.CondSized
namespace Go.Proofs.Ytgghnfmabphbmaa.fareCheapest
open Go Go.Proofs.Ytgghnfmabphbmaa.Fw Go.Proofs.Ytgghnfmabphbmaa
open Go.ChangeShapes Go.WideShapes Go.ChangeAt Go.RowKit
open Go.ChangeMaps (open_string shut_string)
set_option linter.unusedVariables false

theorem own : ownKnob Try.prog.godebug = none := by kernel_rfl
theorem laidOut : laidOutB Try.prog = true := by kernel_rfl

def ok4 (b : Bool) : Prop := True
def siz4 (b : Bool) : Nat := 1
theorem rd4 : Reads Try.prog 4 1 (fun (b : Bool) j => eB b j) ok4 siz4 := .bool Try.underlying4 (by kernel_rfl)
def ok3 (n : Int) : Prop := (Lit.int .i64 n).wf = true
def siz3 (n : Int) : Nat := 1
theorem rd3 : Reads Try.prog 3 1 (fun (n : Int) j => eI n j) ok3 siz3 := .int Try.underlying3 (by kernel_rfl)
def ok130 (x : TBand) : Prop := ok3 x.upto ∧ ok3 x.price ∧ True
def siz130 (x : TBand) : Nat := siz3 x.upto + (siz3 x.price + (0)) + 1
set_option maxRecDepth 100000 in
theorem rd130 : Reads Try.prog 130 2 TBand.e ok130 siz130 :=
  (Reads.struct Try.underlying130 rfl (by kernel_rfl) (fun m => ReadsF.cons rd3.1 (rd3.2 m) (ReadsF.cons rd3.1 (rd3.2 m) (ReadsF.nil) rfl) rfl)).map (fun x => (⟨x.1, x.2.1⟩ : TBand))
    (fun x j hj => by match j, hj with
      | 0, _ => rfl
      | 1, _ => rfl) (fun x h => h) (fun x => Nat.le_refl _)
def ok22 (l : List TBand) : Prop := (l.length ≤ maxLen ∧ l.length * 16 ≤ reachBytes) ∧ ∀ a ∈ l, ok130 a
def siz22 (l : List TBand) : Nat := sumL siz130 l + 1
theorem rd22 : Reads Try.prog 22 1 (fun (l : List TBand) j => (eL 2 TBand.e TBand.d) l j) ok22 siz22 :=
  (rd130.slice (t := 22) (b := 16) (by decide) (by kernel_rfl) (by kernel_rfl) TBand.d (by kernel_rfl)).map id (fun l j _ => rfl) (fun l h => h) (fun l => Nat.le_refl _)
def ok41 (x : Tr) : Prop := True
def siz41 (x : Tr) : Nat := sizT x
set_option maxRecDepth 100000 in
theorem rd41 : Reads Try.prog 41 4 (trC 3) ok41 siz41 :=
  Reads.tree (by kernel_rfl) fun n ih => RAt.map (c := 1 + (1 + (1 + (1 + (0))))) (RAt.struct (fuel := n) Try.underlying41 rfl (by kernel_rfl) fun m hm => ReadsF.cons rd3.1 (rd3.2 m) (ReadsF.cons rd3.1 (rd3.2 m) (ReadsF.cons rd3.1 (rd3.2 m) (ReadsF.cons (by kernel_rfl) (RAt.kids (by kernel_rfl) (fun k hk => ih k (by omega)) Try.underlying39 (b := 48) (by kernel_rfl)) ReadsF.nil rfl) rfl) rfl) rfl) (fun (x : Int × Int × Int × List Tr × Unit) => Tr.mk [x.1, x.2.1, x.2.2.1] x.2.2.2.1)
    (fun x j hj w v hv => by match j, hj with
      | 0, _ => exact hv
      | 1, _ => exact hv
      | 2, _ => exact hv
      | 3, _ => exact hv) (fun _ _ => trivial) (fun x => by simp only [sizT]; omega)
def ok132 (x : TRule) : Prop := ok41 x.if0 ∧ ok3 x.do0 ∧ ok3 x.n ∧ ok4 x.stop ∧ True
def siz132 (x : TRule) : Nat := siz41 x.if0 + (siz3 x.do0 + (siz3 x.n + (siz4 x.stop + (0)))) + 1
set_option maxRecDepth 100000 in
theorem rd132 : Reads Try.prog 132 7 TRule.e ok132 siz132 :=
  (Reads.struct Try.underlying132 rfl (by kernel_rfl) (fun m => ReadsF.cons rd41.1 (rd41.2 m) (ReadsF.cons rd3.1 (rd3.2 m) (ReadsF.cons rd3.1 (rd3.2 m) (ReadsF.cons rd4.1 (rd4.2 m) (ReadsF.nil) rfl) rfl) rfl) rfl)).map (fun x => (⟨x.1, x.2.1, x.2.2.1, x.2.2.2.1⟩ : TRule))
    (fun x j hj => by match j, hj with
      | 0, _ => rfl
      | 1, _ => rfl
      | 2, _ => rfl
      | 3, _ => rfl
      | 4, _ => rfl
      | 5, _ => rfl
      | 6, _ => rfl) (fun x h => h) (fun x => Nat.le_refl _)
def ok23 (l : List TRule) : Prop := (l.length ≤ maxLen ∧ l.length * 72 ≤ reachBytes) ∧ ∀ a ∈ l, ok132 a
def siz23 (l : List TRule) : Nat := sumL siz132 l + 1
theorem rd23 : Reads Try.prog 23 1 (fun (l : List TRule) j => (eL 7 TRule.e TRule.d) l j) ok23 siz23 :=
  (rd132.slice (t := 23) (b := 72) (by decide) (by kernel_rfl) (by kernel_rfl) TRule.d (by kernel_rfl)).map id (fun l j _ => rfl) (fun l h => h) (fun l => Nat.le_refl _)
def ok25 (x : TTariff) : Prop := ok4 x.byKm ∧ ok22 x.bands ∧ ok3 x.round ∧ ok23 x.rules ∧ True
def siz25 (x : TTariff) : Nat := siz4 x.byKm + (siz22 x.bands + (siz3 x.round + (siz23 x.rules + (0)))) + 1
set_option maxRecDepth 100000 in
theorem rd25 : Reads Try.prog 25 4 TTariff.e ok25 siz25 :=
  (Reads.struct Try.underlying25 rfl (by kernel_rfl) (fun m => ReadsF.cons rd4.1 (rd4.2 m) (ReadsF.cons rd22.1 (rd22.2 m) (ReadsF.cons rd3.1 (rd3.2 m) (ReadsF.cons rd23.1 (rd23.2 m) (ReadsF.nil) rfl) rfl) rfl) rfl)).map (fun x => (⟨x.1, x.2.1, x.2.2.1, x.2.2.2.1⟩ : TTariff))
    (fun x j hj => by match j, hj with
      | 0, _ => rfl
      | 1, _ => rfl
      | 2, _ => rfl
      | 3, _ => rfl) (fun x h => h) (fun x => Nat.le_refl _)
def ok26 (l : List Int) : Prop := (l.length ≤ maxLen ∧ l.length * 8 ≤ reachBytes) ∧ ∀ a ∈ l, ok3 a
def siz26 (l : List Int) : Nat := sumL siz3 l + 1
theorem rd26 : Reads Try.prog 26 1 (fun (l : List Int) j => (eL 1 eI 0) l j) ok26 siz26 :=
  (rd3.slice (t := 26) (b := 8) (by decide) (by kernel_rfl) (by kernel_rfl) 0 (by kernel_rfl)).map id (fun l j _ => rfl) (fun l h => h) (fun l => Nat.le_refl _)
def ok28 (x : TTrip) : Prop := ok3 x.day ∧ ok3 x.at0 ∧ ok3 x.km ∧ ok3 x.age ∧ ok4 x.card ∧ ok26 x.zones ∧ True
def siz28 (x : TTrip) : Nat := siz3 x.day + (siz3 x.at0 + (siz3 x.km + (siz3 x.age + (siz4 x.card + (siz26 x.zones + (0)))))) + 1
set_option maxRecDepth 100000 in
theorem rd28 : Reads Try.prog 28 6 TTrip.e ok28 siz28 :=
  (Reads.struct Try.underlying28 rfl (by kernel_rfl) (fun m => ReadsF.cons rd3.1 (rd3.2 m) (ReadsF.cons rd3.1 (rd3.2 m) (ReadsF.cons rd3.1 (rd3.2 m) (ReadsF.cons rd3.1 (rd3.2 m) (ReadsF.cons rd4.1 (rd4.2 m) (ReadsF.cons rd26.1 (rd26.2 m) (ReadsF.nil) rfl) rfl) rfl) rfl) rfl) rfl)).map (fun x => (⟨x.1, x.2.1, x.2.2.1, x.2.2.2.1, x.2.2.2.2.1, x.2.2.2.2.2.1⟩ : TTrip))
    (fun x j hj => by match j, hj with
      | 0, _ => rfl
      | 1, _ => rfl
      | 2, _ => rfl
      | 3, _ => rfl
      | 4, _ => rfl
      | 5, _ => rfl) (fun x h => h) (fun x => Nat.le_refl _)
def ok74 (l : List TTrip) : Prop := (l.length ≤ maxLen ∧ l.length * 64 ≤ reachBytes) ∧ ∀ a ∈ l, ok28 a
def siz74 (l : List TTrip) : Nat := sumL siz28 l + 1
theorem rd74 : Reads Try.prog 74 1 (fun (l : List TTrip) j => (eL 6 TTrip.e TTrip.d) l j) ok74 siz74 :=
  (rd28.slice (t := 74) (b := 64) (by decide) (by kernel_rfl) (by kernel_rfl) TTrip.d (by kernel_rfl)).map id (fun l j _ => rfl) (fun l h => h) (fun l => Nat.le_refl _)
def ok155 (x : TPass) : Prop := ok3 x.days ∧ ok3 x.price ∧ ok26 x.zones ∧ True
def siz155 (x : TPass) : Nat := siz3 x.days + (siz3 x.price + (siz26 x.zones + (0))) + 1
set_option maxRecDepth 100000 in
theorem rd155 : Reads Try.prog 155 3 TPass.e ok155 siz155 :=
  (Reads.struct Try.underlying155 rfl (by kernel_rfl) (fun m => ReadsF.cons rd3.1 (rd3.2 m) (ReadsF.cons rd3.1 (rd3.2 m) (ReadsF.cons rd26.1 (rd26.2 m) (ReadsF.nil) rfl) rfl) rfl)).map (fun x => (⟨x.1, x.2.1, x.2.2.1⟩ : TPass))
    (fun x j hj => by match j, hj with
      | 0, _ => rfl
      | 1, _ => rfl
      | 2, _ => rfl) (fun x h => h) (fun x => Nat.le_refl _)
def ok75 (l : List TPass) : Prop := (l.length ≤ maxLen ∧ l.length * 40 ≤ reachBytes) ∧ ∀ a ∈ l, ok155 a
def siz75 (l : List TPass) : Nat := sumL siz155 l + 1
theorem rd75 : Reads Try.prog 75 1 (fun (l : List TPass) j => (eL 3 TPass.e TPass.d) l j) ok75 siz75 :=
  (rd155.slice (t := 75) (b := 40) (by decide) (by kernel_rfl) (by kernel_rfl) TPass.d (by kernel_rfl)).map id (fun l j _ => rfl) (fun l h => h) (fun l => Nat.le_refl _)
mutual
theorem blk_le {H : Type} : (d : DataW H) → blk d ≤ Rows.uptoBulk d
  | .lit l => by cases l <;> simp [blk, Rows.uptoBulk]
  | .nil => by simp [blk, Rows.uptoBulk]
  | .ptr d => by simp [blk, Rows.uptoBulk]
  | .slice es sp => by
    have h1 := blkL_le es
    have h2 := blkL_le sp
    simp only [blk, Rows.uptoBulk]
    omega
  | .agg ps => by
    have h1 := blkL_le ps
    simp only [blk, Rows.uptoBulk]
    omega
  | .iface t d => by simp [blk, Rows.uptoBulk]
  | .map es => by simp [blk, Rows.uptoBulk]
  | .held h => by simp [blk, Rows.uptoBulk]
theorem blkL_le {H : Type} : (l : List (DataW H)) → blkL l ≤ Rows.uptoBulkAll l
  | [] => Nat.le_refl _
  | d :: r => by
    have h1 := blk_le d
    have h2 := blkL_le r
    simp only [blkL, Rows.uptoBulkAll]
    omega
end

theorem walk (a0 : TTariff) (w0 : ok25 a0) (a1 : (List TTrip)) (w1 : ok74 a1) (a2 : (List TPass)) (w2 : ok75 a2) (hs : siz25 a0 + siz74 a1 + siz75 a2 ≤ 1048576) (w : World) (v0 : Value) (v1 : Value) (v2 : Value) (r0 : VRel w freeO [] .no (.agg (TTariff.c a0)) v0) (r1 : VRel w freeO [] .no (.pv false ((eL 6 TTrip.e TTrip.d) a1 0)) v1) (r2 : VRel w freeO [] .no (.pv false ((eL 3 TPass.e TPass.d) a2 0)) v2) :
    Calls Try.prog 11 #[v0, v1, v2] w fun e w' => e = .returned (.bool true) ∧ Below w.heap.size w w' := by
  have hm : maxLen < 2 ^ 63 := by decide
  refine (F11_ok (F11_true a0 a1 a2 (fun x hx => by have h := sumL_mem siz132 hx; have e : sizT x.if0 ≤ siz132 x := (by unfold siz132 siz41; omega); have hs' := hs; unfold FitT; simp only [siz25, siz23] at hs'; omega) (by have h := w0.2.1.1.2; have : reachBytes < 2 ^ 47 := reachBytes_lt; unfold Fit; omega) (by have h := w0.2.2.2.1.1.2; have : reachBytes < 2 ^ 47 := reachBytes_lt; unfold Fit; omega) (fun t ht => by have h := (w1.2 t ht).2.2.2.2.2.1.1.2; have : reachBytes < 2 ^ 47 := reachBytes_lt; unfold Fit; omega) (fun p hp => by have h := (w2.2 p hp).2.2.1.1.2; have : reachBytes < 2 ^ 47 := reachBytes_lt; unfold Fit; omega))).law rfl (fun i y hy => ?_)
  match i, hy with
  | 0, hy => simp [nth] at hy; subst hy; exact r0
  | 1, hy => simp [nth] at hy; subst hy; exact r1
  | 2, hy => simp [nth] at hy; subst hy; exact r2
  | n + 3, hy => simp [nth] at hy

set_option maxRecDepth 100000 in
theorem lifted (os : Os) (started : os.Started) (H : Type) (enc : TypeId × Value → H) (F : Stop.Interp) :
    ReturnsInHanded {} Try.checked os 11 .any ((Rows.OpenSpec.upto Rows.fareCheapestSpec).pre6 enc Try.prog Try.f11 Rows.fareCheapestUptoRow.domain false) (((Rows.OpenSpec.upto Rows.fareCheapestSpec).at F).post enc Try.prog Try.f11 false true false false) := by
  refine returnsInHanded_of_cond_sized (C := Try.checked) (s := Rows.OpenSpec.upto Rows.fareCheapestSpec) (k := Rows.uptoSmall) rfl own started (by kernel_rfl) Try.func11
    (OpenSpec.witness (enc := enc) (C := Try.checked) (s := Rows.OpenSpec.upto Rows.fareCheapestSpec) (k := Rows.uptoSmall) rfl false ⟨#[], #[.agg #[.bool false, .slice none 0 0, .int .i64 0, .slice none 0 0], .slice none 0 0, .slice none 0 0], []⟩ 8 (by kernel_rfl) (by kernel_rfl) (by kernel_rfl)
      (x := ([.agg [.lit (.bool false), .nil, .lit (.int .i64 0), .nil], .nil, .nil], [], [])) (by kernel_rfl) rfl (by kernel_rfl)) ?_
  intro W base args ds gs before hval0 hW hcnd hk hsz _
  have hval : ∀ (j : Nat) t v, Try.f11.params[j]? = some t → args[j]? = some v → Value.okWide Try.prog W .any base t v := hval0
  have hW' := hW
  obtain ⟨p, q, hA0, hV, rfl, hfz, hnd⟩ := hW
  have hA : DataW.TrodAll enc Try.prog W 0 (fun _ => true) true Try.f11.params.toList args.toList ds p := hA0
  rw [Try.params11] at hA hval hsz
  obtain ⟨v0, vs0, d0, ds0, p0, q0, hargs, rfl, rfl, h0, r0⟩ := trodAll_cons hA
  obtain ⟨v1, vs1, d1, ds1, p1, q1, rfl, rfl, rfl, h1, r1⟩ := trodAll_cons r0
  obtain ⟨v2, vs2, d2, ds2, p2, q2, rfl, rfl, rfl, h2, r2⟩ := trodAll_cons r1
  obtain ⟨rfl, rfl, rfl⟩ := trodAll_nil r2
  obtain rfl : args = #[v0, v1, v2] := by cases args; simp_all
  obtain ⟨rfl, rfl⟩ := trodVars_none hV
  have k0 := h0
  have lt0 : ∀ x ∈ p0, x.block < W.heap.size := by obtain ⟨m, hm⟩ := k0; exact DataW.trod_lt m _ _ _ hm
  have k1 := h1
  have lt1 : ∀ x ∈ p1, x.block < W.heap.size := by obtain ⟨m, hm⟩ := k1; exact DataW.trod_lt m _ _ _ hm
  have k2 := h2
  have lt2 : ∀ x ∈ p2, x.block < W.heap.size := by obtain ⟨m, hm⟩ := k2; exact DataW.trod_lt m _ _ _ hm
  obtain ⟨cs0, rfl, _⟩ := okWide_struct Try.underlying25 (hval 0 25 v0 rfl rfl)
  obtain ⟨ad1, ln1, cp1, rfl⟩ := okWide_slice Try.underlying74 (hval 1 74 v1 rfl rfl)
  obtain ⟨ad2, ln2, cp2, rfl⟩ := okWide_slice Try.underlying75 (hval 2 75 v2 rfl rfl)
  obtain ⟨a0, ⟨w0, s0⟩, z0⟩ := rd25.agg h0 (sizedEach hsz (j := 0) rfl rfl)
  obtain ⟨a1, ⟨w1, s1⟩, z1⟩ := rd74.val h1 (sizedEach hsz (j := 1) rfl rfl) rfl
  obtain ⟨a2, ⟨w2, s2⟩, z2⟩ := rd75.val h2 (sizedEach hsz (j := 2) rfl rfl) rfl
  have hs : siz25 a0 + siz74 a1 + siz75 a2 ≤ 1048576 := by
    have hb : Rows.uptoBulkAll ([d0, d1, d2] ++ []) ≤ 1048576 := of_decide_eq_true hk
    simp only [List.append_nil, Rows.uptoBulkAll] at hb
    have g0 := Nat.le_trans s0 (blk_le d0)
    have g1 := Nat.le_trans s1 (blk_le d1)
    have g2 := Nat.le_trans s2 (blk_le d2)
    omega
  clear hA0 hval0
  refine (walk a0 w0 a1 w1 a2 w2 hs W _ _ _ z0 z1 z2).mono fun e W' ⟨he, bel⟩ => ?_
  subst he
  exact ⟨_, rfl, _, _, _, [], _, [], hW', trodAll_mk1 (shut_bool Try.underlying4 _), (trodAll_cons_mk (Below.trod laidOut (by kernel_rfl) (of_decide_eq_true (by kernel_rfl)) k0 bel lt0) (trodAll_cons_mk (Below.trod laidOut (by kernel_rfl) (of_decide_eq_true (by kernel_rfl)) k1 bel lt1) (trodAll_cons_mk (Below.trod laidOut (by kernel_rfl) (of_decide_eq_true (by kernel_rfl)) k2 bel lt2) trodAll_mk0))), rfl, bel.frame _, fun h => by cases h⟩

end Go.Proofs.Ytgghnfmabphbmaa.fareCheapest
