/- MendSpreads: what its pure functions return. -/
import Derived.Test.YtecaleolkdoggaaA22
import Derived.Test.YtecaleolkdoggaaM4C
open Go Go.Proofs.Ytecaleolkdoggaa.Fw
namespace Go.Proofs.Ytecaleolkdoggaa
set_option maxRecDepth 100000
set_option linter.unusedVariables false
set_option linter.unusedSimpArgs false

/-! ### what is wrong with a round -/

theorem F54_eq (n a b : Int) : F54 n a b = some (decide (a ≤ n ∧ n ≤ b)) := by
  unfold F54
  by_cases h : a ≤ n <;> simp [h]
theorem F51_F54 : F51 = F54 := rfl
theorem F55_F52 : F55 = F52 := rfl

/-- the slack of a link -/
def slk (g : TRound) (x : TLink) : Int := g.plan.getD x.to0.toNat 0 - g.plan.getD x.from0.toNat 0 + x.back * g.period - x.len

/-- a link whose numbers are right -/
structure LNum (g : TRound) (x : TLink) : Prop where
  f0 : 0 ≤ x.from0
  f1 : x.from0 < (g.plan.length : Int)
  t0 : 0 ≤ x.to0
  t1 : x.to0 < (g.plan.length : Int)
  l0 : 0 ≤ x.len
  l1 : x.len ≤ 28800
  b0 : 0 ≤ x.back
  b1 : x.back ≤ 3

structure LOk (g : TRound) (x : TLink) : Prop extends LNum g x where
  s0 : 0 ≤ slk g x
  s1 : slk g x ≤ 14400

structure RNum (g : TRound) : Prop where
  p0 : 1 ≤ g.period
  p1 : g.period ≤ 3600
  n0 : 1 ≤ g.plan.length
  n1 : g.plan.length ≤ 8
  ll : g.links.length ≤ 24
  pl : ∀ i, i < g.plan.length → 0 ≤ g.plan.getD i 0 ∧ g.plan.getD i 0 ≤ g.period - 1

/-- a rank that each link without Back raises -/
def Rank (g : TRound) (ρ : Nat → Nat) : Prop := ∀ i, i < g.links.length → (g.links.getD i TLink.d).back = 0 → ρ (g.links.getD i TLink.d).from0.toNat < ρ (g.links.getD i TLink.d).to0.toNat

structure ROk (g : TRound) : Prop extends RNum g where
  lk : ∀ i, i < g.links.length → LOk g (g.links.getD i TLink.d)
  rk : ∃ ρ, Rank g ρ

theorem F52_eq {g : TRound} (h : RNum g) {x : TLink} (hx : LNum g x) : F52 g x = some (slk g x) ∧ slk g x ≤ 14400 := by
  have h1 := h.pl x.from0.toNat (by have := hx.f0; have := hx.f1; omega)
  have h2 := h.pl x.to0.toNat (by have := hx.t0; have := hx.t1; omega)
  have p0 := h.p0
  have p1 := h.p1
  have l0 := hx.l0
  have l1 := hx.l1
  have b0 := hx.b0
  have b1 := hx.b1
  have hb : x.back * g.period ≤ 3 * 3600 := Int.mul_le_mul b1 p1 (by omega) (by omega)
  have hb0 : 0 ≤ x.back * g.period := Int.mul_nonneg b0 (by omega)
  unfold F52 slk
  rw [asrt_eq ⟨hx.t0, hx.t1⟩, asrt_eq ⟨hx.f0, hx.f1⟩]
  rw [wr64 (x := x.back * g.period) (by omega) (by omega), wr64 (x := g.plan.getD x.to0.toNat 0 - g.plan.getD x.from0.toNat 0) (by omega) (by omega), wr64 (x := g.plan.getD x.to0.toNat 0 - g.plan.getD x.from0.toNat 0 + x.back * g.period) (by omega) (by omega), wr64 (by omega) (by omega)]
  exact ⟨rfl, by omega⟩

section
variable {g : TRound}

theorem B16_12_eq (hn : g.plan.length ≤ 8) (v : Int) : B16_12 g v = B14_13 g v := by
  unfold B16_12 B14_13
  have hw : IntKind.wrap .i64 ((g.plan.length : Int) - 1) = (g.plan.length : Int) - 1 := wr64 (by omega) (by omega)
  rw [F51_F54, F55_F52, hw]
  simp only [F54_eq, Option.bind_some]
  congr 2
  generalize g.links.getD v.toNat TLink.d = x
  by_cases c1 : x.from0 < 0
  · have : ¬(0 ≤ x.from0 ∧ x.from0 ≤ (g.plan.length : Int) - 1) := by omega
    simp [c1, this]
  · by_cases c2 : (g.plan.length : Int) ≤ x.from0
    · have : ¬(0 ≤ x.from0 ∧ x.from0 ≤ (g.plan.length : Int) - 1) := by omega
      simp [c1, c2, this]
    · have d1 : 0 ≤ x.from0 ∧ x.from0 ≤ (g.plan.length : Int) - 1 := by omega
      by_cases c3 : x.to0 < 0
      · have : ¬(0 ≤ x.to0 ∧ x.to0 ≤ (g.plan.length : Int) - 1) := by omega
        simp [c1, c2, c3, d1, this]
      · by_cases c4 : (g.plan.length : Int) ≤ x.to0
        · have : ¬(0 ≤ x.to0 ∧ x.to0 ≤ (g.plan.length : Int) - 1) := by omega
          simp [c1, c2, c3, c4, d1, this]
        · have d2 : 0 ≤ x.to0 ∧ x.to0 ≤ (g.plan.length : Int) - 1 := by omega
          simp only [c1, c2, c3, c4, d1, d2, decide_false, decide_true, cond_false, and_self, Bool.not_true]

theorem L14_13_ret (h : RNum g) : Ret (L14_13 g 0) fun x => match x with | .inl _ => ∀ i, i < g.links.length → LOk g (g.links.getD i TLink.d) | .inr r => r ≠ 0 := by
  have hll := h.ll
  unfold L14_13
  refine Ret.loop g.links.length (fun i s => s = (i : Int) ∧ ∀ j, j < i → LOk g (g.links.getD j TLink.d)) ⟨rfl, fun j hj => by omega⟩ ?_ ?_
  · rintro i s hi ⟨rfl, hj⟩
    unfold B14_13
    rw [F51_F54]
    simp (disch := omega) only [Ret_some, Ret_none, Ret_bind, Ret_asrt, Ret_cond, Sum.elim_inl, Sum.elim_inr, decide_eq_true_eq, decide_eq_false_iff_not, Bool.not_eq_true', Bool.not_not, Bool.and_eq_true, Bool.or_eq_true, Bool.true_eq_false, Bool.false_eq_true, Bool.not_true, Bool.not_false, if_true, if_false, ite_true, ite_false, true_and, and_true, false_and, and_false, Int.toNat_natCast, toN_succ, Int.ofNat_eq_natCast, Int.ofNat_toNat, Nat.zero_add, Nat.add_zero, not_true_eq_false, not_false_eq_true, implies_true, wr64, F54_eq]
    rw [if_pos (by omega)]
    refine ⟨by omega, ?_⟩
    generalize hx : g.links.getD i TLink.d = x
    split
    · decide
    · split
      · decide
      · split
        · decide
        · split
          · decide
          · split
            · decide
            · split
              · decide
              · have hnum : LNum g x := by constructor <;> omega
                obtain ⟨e1, e2⟩ := F52_eq h hnum
                refine Ret.of e1 ?_
                split
                · decide
                · refine ⟨by omega, forall_lt_succ.2 ⟨hj, ?_⟩⟩
                  rw [hx]
                  exact { toLNum := hnum, s0 := by omega, s1 := e2 }
  · rintro s ⟨rfl, hj⟩
    unfold B14_13
    simp (disch := omega) only [Ret_some, Ret_none, Ret_bind, Ret_asrt, Ret_cond, Sum.elim_inl, Sum.elim_inr, decide_eq_true_eq, decide_eq_false_iff_not, Bool.not_eq_true', Bool.not_not, Bool.and_eq_true, Bool.or_eq_true, Bool.true_eq_false, Bool.false_eq_true, Bool.not_true, Bool.not_false, if_true, if_false, ite_true, ite_false, true_and, and_true, false_and, and_false, Int.toNat_natCast, toN_succ, Int.ofNat_eq_natCast, Int.ofNat_toNat, Nat.zero_add, Nat.add_zero, not_true_eq_false, not_false_eq_true, implies_true, wr64]
    rw [if_neg (by omega)]
    exact hj

/-! ### are the links without Back in a circle? the ranks of CheckRound -/

theorem lset_len {α : Type} (l : List α) (i : Nat) (v : α) : (l.set i v).length = l.length := by simp

/-- which link asks for more? -/
def Bad (g : TRound) (m : List Int) (i : Nat) : Prop := (g.links.getD i TLink.d).back = 0 ∧ m.getD (g.links.getD i TLink.d).to0.toNat 0 ≤ m.getD (g.links.getD i TLink.d).from0.toNat 0

/-- one pass over the links -/
theorem L56_6_ret (hll : g.links.length ≤ 24) (hnl : g.plan.length ≤ 8) (hlk : ∀ i, i < g.links.length → LOk g (g.links.getD i TLink.d)) {m : List Int} (hm : m.length = g.plan.length) {B : Nat} (hB : B ≤ 1000) (hmB : ∀ v, v < g.plan.length → 0 ≤ m.getD v 0 ∧ m.getD v 0 ≤ (B : Int)) :
    Ret (L56_6 g (false, 0, m)) fun o => o.2.length = g.plan.length ∧ (∀ v, v < g.plan.length → 0 ≤ o.2.getD v 0 ∧ o.2.getD v 0 ≤ ((B + 24 : Nat) : Int)) ∧ (o.1 = false → ∀ i, i < g.links.length → ¬ Bad g m i) ∧ (o.1 = true → ∃ i, i < g.links.length ∧ Bad g m i) ∧
      (∀ ρ k, Rank g ρ → (∀ v, v < g.plan.length → m.getD v 0 ≤ (ρ v : Int)) → (∀ i, i < g.links.length → ρ (g.links.getD i TLink.d).to0.toNat < k → ¬ Bad g m i) → (∀ v, v < g.plan.length → o.2.getD v 0 ≤ (ρ v : Int)) ∧ (∀ i, i < g.links.length → ρ (g.links.getD i TLink.d).to0.toNat < k + 1 → ¬ Bad g o.2 i)) := by
  unfold L56_6
  refine Ret.loop g.links.length (fun i s => s.2.1 = (i : Int) ∧ s.2.2.length = g.plan.length ∧ (∀ v, v < g.plan.length → 0 ≤ s.2.2.getD v 0 ∧ s.2.2.getD v 0 ≤ ((B + i : Nat) : Int)) ∧ (s.1 = false → s.2.2 = m ∧ ∀ j, j < i → ¬ Bad g m j) ∧ (s.1 = true → ∃ j, j < g.links.length ∧ Bad g m j) ∧
      (∀ ρ k, Rank g ρ → (∀ v, v < g.plan.length → m.getD v 0 ≤ (ρ v : Int)) → (∀ i, i < g.links.length → ρ (g.links.getD i TLink.d).to0.toNat < k → ¬ Bad g m i) → (∀ v, v < g.plan.length → s.2.2.getD v 0 ≤ (ρ v : Int)) ∧ (∀ v, v < g.plan.length → ρ v < k → s.2.2.getD v 0 = m.getD v 0) ∧ (∀ j, j < i → ρ (g.links.getD j TLink.d).to0.toNat = k → ¬ Bad g s.2.2 j)))
    ⟨rfl, hm, fun v hv => by have := hmB v hv; simp only; omega, fun _ => ⟨rfl, fun j hj => by omega⟩, fun h => (by cases h), fun ρ k h1 h2 h3 => ⟨h2, fun _ _ _ => rfl, fun j hj => by omega⟩⟩ ?_ ?_
  · rintro i ⟨fl, y, q⟩ hi ⟨rfl, h1, h2, h3, h4, h5⟩
    simp only at h1 h2 h3 h4 h5
    obtain ⟨x, hxx⟩ : ∃ x, g.links.getD i TLink.d = x := ⟨_, rfl⟩
    have hx := hlk i hi
    rw [hxx] at hx
    have hbad : Bad g q i ↔ (x.back = 0 ∧ q.getD x.to0.toNat 0 ≤ q.getD x.from0.toNat 0) := by unfold Bad; rw [hxx]
    have hf0 := hx.f0
    have hf1 := hx.f1
    have ht0 := hx.t0
    have ht1 := hx.t1
    have hbf := h2 x.from0.toNat (by omega)
    have hbt := h2 x.to0.toNat (by omega)
    -- nothing changes
    have hkeep : ¬ Bad g q i → (q.length = g.plan.length ∧ (∀ v, v < g.plan.length → 0 ≤ q.getD v 0 ∧ q.getD v 0 ≤ ((B + (i + 1) : Nat) : Int)) ∧ (fl = false → q = m ∧ ∀ j, j < i + 1 → ¬ Bad g m j) ∧ (fl = true → ∃ j, j < g.links.length ∧ Bad g m j) ∧
      (∀ ρ k, Rank g ρ → (∀ v, v < g.plan.length → m.getD v 0 ≤ (ρ v : Int)) → (∀ i, i < g.links.length → ρ (g.links.getD i TLink.d).to0.toNat < k → ¬ Bad g m i) → (∀ v, v < g.plan.length → q.getD v 0 ≤ (ρ v : Int)) ∧ (∀ v, v < g.plan.length → ρ v < k → q.getD v 0 = m.getD v 0) ∧ (∀ j, j < i + 1 → ρ (g.links.getD j TLink.d).to0.toNat = k → ¬ Bad g q j))) := fun hno =>
      ⟨h1, fun v hv => by have := h2 v hv; omega, fun e => ⟨(h3 e).1, forall_lt_succ.2 ⟨(h3 e).2, by have := (h3 e).1; subst this; exact hno⟩⟩, h4, fun ρ k r1 r2 r3 => by
        obtain ⟨s1, s2, s3⟩ := h5 ρ k r1 r2 r3
        exact ⟨s1, s2, forall_lt_succ.2 ⟨s3, fun _ => hno⟩⟩⟩
    unfold B56_6
    simp only [Int.toNat_natCast, hxx]
    simp (disch := omega) only [Ret_some, Ret_none, Ret_bind, Ret_asrt, Ret_cond, Sum.elim_inl, Sum.elim_inr, decide_eq_true_eq, decide_eq_false_iff_not, Bool.not_eq_true', Bool.not_not, Bool.and_eq_true, Bool.or_eq_true, Bool.true_eq_false, Bool.false_eq_true, Bool.not_true, Bool.not_false, if_true, if_false, ite_true, ite_false, true_and, and_true, false_and, and_false, Int.toNat_natCast, toN_succ, Int.ofNat_eq_natCast, Int.ofNat_toNat, Nat.zero_add, Nat.add_zero, not_true_eq_false, not_false_eq_true, implies_true, wr64]
    rw [if_pos (by omega)]
    refine ⟨by omega, ?_⟩
    split
    · rename_i c0
      refine ⟨by omega, by omega, by omega, by omega, ?_⟩
      split
      · rename_i c1
        have hbadq : Bad g q i := by unfold Bad; rw [hxx]; exact ⟨c0, c1⟩
        have hup : ∀ v, q.getD v 0 ≤ (q.set x.to0.toNat (q.getD x.from0.toNat 0 + 1)).getD v 0 := fun v => by
          rw [lgetD_set]
          by_cases e : x.to0.toNat = v
          · subst e; rw [if_pos ⟨rfl, by omega⟩]; omega
          · rw [if_neg (by omega)]; omega
        refine ⟨by omega, by rw [lset_len]; exact h1, fun v hv => ?_, False.elim, fun _ => ?_, fun ρ k r1 r2 r3 => ?_⟩
        · have := h2 v hv
          rw [lgetD_set]
          split <;> omega
        · by_cases e : fl = true
          · exact h4 e
          · have e' : fl = false := by simpa using e
            have := (h3 e').1
            subst this
            exact ⟨i, hi, hbadq⟩
        · obtain ⟨s1, s2, s3⟩ := h5 ρ k r1 r2 r3
          have hrk := r1 i hi (by rw [hxx]; exact c0)
          rw [hxx] at hrk
          have hge : k ≤ ρ x.to0.toNat := by
            refine Classical.byContradiction fun hlt => ?_
            have hno := r3 i hi (by rw [hxx]; omega)
            refine hno ?_
            unfold Bad
            rw [hxx]
            refine ⟨c0, ?_⟩
            rw [← s2 x.to0.toNat (by omega) (by omega), ← s2 x.from0.toNat (by omega) (by omega)]
            exact c1
          have hne : ∀ v, ρ v < k → (q.set x.to0.toNat (q.getD x.from0.toNat 0 + 1)).getD v 0 = q.getD v 0 := fun v hv => by
            rw [lgetD_set, if_neg]
            rintro ⟨rfl, _⟩
            omega
          refine ⟨fun v hv => ?_, fun v hv hr => by rw [hne v hr]; exact s2 v hv hr, forall_lt_succ.2 ⟨fun j hj hjk => ?_, fun hk => ?_⟩⟩
          · rw [lgetD_set]
            split
            · rename_i e
              have := s1 x.from0.toNat (by omega)
              rw [← e.1]
              omega
            · exact s1 v hv
          · rintro ⟨b0, bad⟩
            have hrj := r1 j (by omega) b0
            rw [hne (g.links.getD j TLink.d).from0.toNat (by omega)] at bad
            have := s3 j hj hjk
            refine this ⟨b0, ?_⟩
            have := hup (g.links.getD j TLink.d).to0.toNat
            omega
          · rintro ⟨b0, bad⟩
            rw [hxx] at bad hk
            rw [hne x.from0.toNat (by omega), lgetD_set, if_pos ⟨rfl, by omega⟩] at bad
            omega
      · rename_i c1
        exact ⟨by omega, hkeep (fun e => by have := hbad.1 e; omega)⟩
    · rename_i c0
      exact ⟨by omega, hkeep (fun e => by have := hbad.1 e; omega)⟩
  · rintro ⟨fl, y, q⟩ ⟨rfl, h1, h2, h3, h4, h5⟩
    simp only at h1 h2 h3 h4 h5
    unfold B56_6
    simp (disch := omega) only [Ret_some, Ret_none, Ret_bind, Ret_asrt, Ret_cond, Sum.elim_inl, Sum.elim_inr, decide_eq_true_eq, decide_eq_false_iff_not, Bool.not_eq_true', Bool.not_not, Bool.and_eq_true, Bool.or_eq_true, Bool.true_eq_false, Bool.false_eq_true, Bool.not_true, Bool.not_false, if_true, if_false, ite_true, ite_false, true_and, and_true, false_and, and_false, Int.toNat_natCast, toN_succ, Int.ofNat_eq_natCast, Int.ofNat_toNat, Nat.zero_add, Nat.add_zero, not_true_eq_false, not_false_eq_true, implies_true, wr64]
    rw [if_neg (by omega)]
    refine ⟨h1, fun v hv => by have := h2 v hv; omega, fun e => (h3 e).2, h4, fun ρ k r1 r2 r3 => ?_⟩
    obtain ⟨s1, s2, s3⟩ := h5 ρ k r1 r2 r3
    refine ⟨s1, fun i hi hk => ?_⟩
    by_cases e : ρ (g.links.getD i TLink.d).to0.toNat = k
    · exact s3 i hi e
    · rintro ⟨b0, bad⟩
      have hrj := r1 i hi b0
      have hx := hlk i hi
      have hf0 := hx.f0
      have hf1 := hx.f1
      have ht0 := hx.t0
      have ht1 := hx.t1
      refine r3 i hi (by omega) ⟨b0, ?_⟩
      rw [← s2 _ (by omega) (by omega), ← s2 _ (by omega) (by omega)]
      exact bad

theorem F56_ret (hll : g.links.length ≤ 24) (hnl : g.plan.length ≤ 8) (hlk : ∀ i, i < g.links.length → LOk g (g.links.getD i TLink.d)) : Ret (F56 g) fun b => (b = false → ∃ ρ, Rank g ρ) ∧ (b = true → ∀ ρ, Rank g ρ → ∃ v, v < g.plan.length ∧ g.plan.length ≤ ρ v) := by
  have hL : Ret (L56_3 g (0, List.replicate g.plan.length 0)) fun x => match x with | .inl _ => ∀ ρ, Rank g ρ → ∃ v, v < g.plan.length ∧ g.plan.length ≤ ρ v | .inr b => b = false ∧ ∃ ρ, Rank g ρ := by
    unfold L56_3
    refine Ret.loop (g.plan.length + 1) (fun r s => s.1 = (r : Int) ∧ s.2.length = g.plan.length ∧ (∀ v, v < g.plan.length → 0 ≤ s.2.getD v 0 ∧ s.2.getD v 0 ≤ ((24 * r : Nat) : Int)) ∧ ∀ ρ, Rank g ρ → (∀ v, v < g.plan.length → ρ v < g.plan.length) → r ≤ g.plan.length ∧ (∀ v, v < g.plan.length → s.2.getD v 0 ≤ (ρ v : Int)) ∧ ∀ i, i < g.links.length → ρ (g.links.getD i TLink.d).to0.toNat < r → ¬ Bad g s.2 i)
      ⟨rfl, by simp, fun v hv => by simp only; rw [getD_rep hv]; omega, fun ρ _ _ => ⟨Nat.zero_le _, fun v hv => by simp only; rw [getD_rep hv]; omega, fun i hi hr => absurd hr (Nat.not_lt_zero _)⟩⟩ ?_ ?_
    · rintro r ⟨y, m⟩ hr ⟨rfl, h1, h2, h3⟩
      simp only at h1 h2 h3
      obtain ⟨o, ho, k1, k2, k3, k4, k5⟩ := L56_6_ret hll hnl hlk h1 (B := 24 * r) (by omega) h2
      unfold B56_3
      rw [ho]
      simp (disch := omega) only [Ret_some, Ret_none, Ret_bind, Ret_asrt, Ret_cond, Sum.elim_inl, Sum.elim_inr, decide_eq_true_eq, decide_eq_false_iff_not, Bool.not_eq_true', Bool.not_not, Bool.and_eq_true, Bool.or_eq_true, Bool.true_eq_false, Bool.false_eq_true, Bool.not_true, Bool.not_false, if_true, if_false, ite_true, ite_false, true_and, and_true, false_and, and_false, Int.toNat_natCast, toN_succ, Int.ofNat_eq_natCast, Int.ofNat_toNat, Nat.zero_add, Nat.add_zero, not_true_eq_false, not_false_eq_true, implies_true, wr64]
      rw [if_pos (by omega)]
      split
      · rename_i c
        refine ⟨fun v => (m.getD v 0).toNat, fun i hi b0 => ?_⟩
        have hno := k3 c i hi
        have hx := hlk i hi
        have hf0 := hx.f0
        have hf1 := hx.f1
        have ht0 := hx.t0
        have ht1 := hx.t1
        have hbf := h2 (g.links.getD i TLink.d).from0.toNat (by omega)
        have : ¬ m.getD (g.links.getD i TLink.d).to0.toNat 0 ≤ m.getD (g.links.getD i TLink.d).from0.toNat 0 := fun e => hno ⟨b0, e⟩
        simp only
        omega
      · rename_i c
        have c : o.1 = true := by simpa using c
        refine ⟨by omega, k1, fun v hv => by have := k2 v hv; omega, fun ρ r1 r2 => ?_⟩
        obtain ⟨s1, s2, s3⟩ := h3 ρ r1 r2
        obtain ⟨t1, t2⟩ := k5 ρ r r1 s2 s3
        obtain ⟨i, hi, bad⟩ := k4 c
        refine ⟨?_, t1, t2⟩
        refine Classical.byContradiction fun hlt => s3 i hi ?_ bad
        have hx := hlk i hi
        have := r2 (g.links.getD i TLink.d).to0.toNat (by have := hx.t0; have := hx.t1; omega)
        omega
    · rintro ⟨y, m⟩ ⟨rfl, h1, h2, h3⟩
      unfold B56_3
      simp (disch := omega) only [Ret_some, Ret_none, Ret_bind, Ret_asrt, Ret_cond, Sum.elim_inl, Sum.elim_inr, decide_eq_true_eq, decide_eq_false_iff_not, Bool.not_eq_true', Bool.not_not, Bool.and_eq_true, Bool.or_eq_true, Bool.true_eq_false, Bool.false_eq_true, Bool.not_true, Bool.not_false, if_true, if_false, ite_true, ite_false, true_and, and_true, false_and, and_false, Int.toNat_natCast, toN_succ, Int.ofNat_eq_natCast, Int.ofNat_toNat, Nat.zero_add, Nat.add_zero, not_true_eq_false, not_false_eq_true, implies_true, wr64]
      rw [if_neg (by omega)]
      intro ρ hρ
      refine Classical.byContradiction fun hno => ?_
      have := (h3 ρ hρ fun v hv => Classical.byContradiction fun hlt => hno ⟨v, hv, by omega⟩).1
      omega
  unfold F56
  rw [asrt_eq (by refine ⟨by omega, Int.le_refl _, by omega, by omega⟩), Int.toNat_natCast, show (Int.ofNat 0 : Int) = 0 from rfl]
  obtain ⟨x, hx, hp⟩ := hL
  rw [hx]
  rcases x with q | b
  · exact ⟨true, rfl, fun e => (by cases e), fun _ => hp⟩
  · exact ⟨b, rfl, fun _ => hp.2, fun e => by rw [hp.1] at e; cases e⟩

/-! ### the same, as the reference sees it -/

theorem L14_30_ret (hll : g.links.length ≤ 24) (hlk : ∀ i, i < g.links.length → LOk g (g.links.getD i TLink.d)) {d : List Bool} (hd : d.length = g.plan.length) (v : Nat) :
    Ret (L14_30 g (v : Int) d (true, 0)) fun b => (b = true ↔ ∀ i, i < g.links.length → (g.links.getD i TLink.d).back = 0 → (g.links.getD i TLink.d).to0 = (v : Int) → d.getD (g.links.getD i TLink.d).from0.toNat false = true) := by
  unfold L14_30
  refine Ret.loop g.links.length (fun i s => s.2 = (i : Int) ∧ (s.1 = true ↔ ∀ j, j < i → (g.links.getD j TLink.d).back = 0 → (g.links.getD j TLink.d).to0 = (v : Int) → d.getD (g.links.getD j TLink.d).from0.toNat false = true)) ⟨rfl, by simp⟩ ?_ ?_
  · rintro i ⟨b, y⟩ hi ⟨rfl, h1⟩
    simp only at h1
    have hx := hlk i hi
    have hf0 := hx.f0
    have hf1 := hx.f1
    have hb0 := hx.b0
    unfold B14_30
    rcases b with _ | _
    · simp (disch := omega) only [Ret_some, Ret_none, Ret_bind, Ret_asrt, Ret_cond, Sum.elim_inl, Sum.elim_inr, decide_eq_true_eq, decide_eq_false_iff_not, Bool.not_eq_true', Bool.not_not, Bool.and_eq_true, Bool.or_eq_true, Bool.true_eq_false, Bool.false_eq_true, Bool.not_true, Bool.not_false, if_true, if_false, ite_true, ite_false, true_and, and_true, false_and, and_false, Int.toNat_natCast, toN_succ, Int.ofNat_eq_natCast, Int.ofNat_toNat, Nat.zero_add, Nat.add_zero, not_true_eq_false, not_false_eq_true, implies_true, wr64]
      rw [if_pos (by omega)]
      refine ⟨by omega, by omega, ?_⟩
      first | exact fun e => absurd (h1.2 (forall_lt_succ.1 e).1) (by simp) | exact ⟨fun e => absurd e (by simp), fun e => absurd (h1.2 (forall_lt_succ.1 e).1) (by simp)⟩
    · simp (disch := omega) only [Ret_some, Ret_none, Ret_bind, Ret_asrt, Ret_cond, Sum.elim_inl, Sum.elim_inr, decide_eq_true_eq, decide_eq_false_iff_not, Bool.not_eq_true', Bool.not_not, Bool.and_eq_true, Bool.or_eq_true, Bool.true_eq_false, Bool.false_eq_true, Bool.not_true, Bool.not_false, if_true, if_false, ite_true, ite_false, true_and, and_true, false_and, and_false, Int.toNat_natCast, toN_succ, Int.ofNat_eq_natCast, Int.ofNat_toNat, Nat.zero_add, Nat.add_zero, not_true_eq_false, not_false_eq_true, implies_true, wr64]
      rw [if_pos (by omega)]
      refine ⟨by omega, ?_⟩
      have h1 := h1.1 rfl
      split
      · refine ⟨by omega, ?_⟩
        first | exact forall_lt_succ.2 ⟨h1, fun e => by omega⟩ | exact ⟨fun _ => forall_lt_succ.2 ⟨h1, fun e => by omega⟩, fun _ => trivial⟩
      · split
        · rename_i c1
          refine ⟨by omega, ?_⟩
          first | exact forall_lt_succ.2 ⟨h1, fun _ e => absurd e c1⟩ | exact ⟨fun _ => forall_lt_succ.2 ⟨h1, fun _ e => absurd e c1⟩, fun _ => trivial⟩
        · rename_i c0 c1
          refine ⟨by omega, by omega, by omega, ?_⟩
          exact ⟨fun e => forall_lt_succ.2 ⟨h1, fun _ _ => e⟩, fun e => (forall_lt_succ.1 e).2 (by omega) (by omega)⟩
  · rintro ⟨b, y⟩ ⟨rfl, h1⟩
    unfold B14_30
    simp (disch := omega) only [Ret_some, Ret_none, Ret_bind, Ret_asrt, Ret_cond, Sum.elim_inl, Sum.elim_inr, decide_eq_true_eq, decide_eq_false_iff_not, Bool.not_eq_true', Bool.not_not, Bool.and_eq_true, Bool.or_eq_true, Bool.true_eq_false, Bool.false_eq_true, Bool.not_true, Bool.not_false, if_true, if_false, ite_true, ite_false, true_and, and_true, false_and, and_false, Int.toNat_natCast, toN_succ, Int.ofNat_eq_natCast, Int.ofNat_toNat, Nat.zero_add, Nat.add_zero, not_true_eq_false, not_false_eq_true, implies_true, wr64]
    rw [if_neg (by omega)]
    exact h1

/-- what is known of the events that are done -/
structure Dn (g : TRound) (d : List Bool) : Prop where
  len : d.length = g.plan.length
  rk : ∃ (ρ : Nat → Nat) (N : Nat), (∀ v, d.getD v false = true → ρ v < N) ∧ ∀ i, i < g.links.length → (g.links.getD i TLink.d).back = 0 → d.getD (g.links.getD i TLink.d).to0.toNat false = true → d.getD (g.links.getD i TLink.d).from0.toNat false = true ∧ ρ (g.links.getD i TLink.d).from0.toNat < ρ (g.links.getD i TLink.d).to0.toNat

theorem L14_26_ret (hll : g.links.length ≤ 24) (hnl : g.plan.length ≤ 8) (hlk : ∀ i, i < g.links.length → LOk g (g.links.getD i TLink.d)) {d : List Bool} (hd : Dn g d) :
    Ret (L14_26 g (0, d)) fun d' => Dn g d' ∧ ∀ ρ k, Rank g ρ → (∀ v, v < g.plan.length → ρ v < k → d.getD v false = true) → ∀ v, v < g.plan.length → ρ v < k + 1 → d'.getD v false = true := by
  unfold L14_26
  refine Ret.loop g.plan.length (fun i s => s.1 = (i : Int) ∧ Dn g s.2 ∧ (∀ v, d.getD v false = true → s.2.getD v false = true) ∧ ∀ ρ k, Rank g ρ → (∀ v, v < g.plan.length → ρ v < k → d.getD v false = true) → ∀ v, v < i → ρ v < k + 1 → s.2.getD v false = true)
    ⟨rfl, hd, fun _ h => h, fun ρ k _ _ v hv => by omega⟩ ?_ ?_
  · rintro i ⟨y, e⟩ hi ⟨rfl, h1, h2, h3⟩
    simp only at h1 h2 h3
    obtain ⟨b, hb1, hb2⟩ := L14_30_ret hll hlk h1.len i
    have hlen := h1.len
    unfold B14_26
    rw [hb1]
    simp (disch := omega) only [Ret_some, Ret_none, Ret_bind, Ret_asrt, Ret_cond, Sum.elim_inl, Sum.elim_inr, decide_eq_true_eq, decide_eq_false_iff_not, Bool.not_eq_true', Bool.not_not, Bool.and_eq_true, Bool.or_eq_true, Bool.true_eq_false, Bool.false_eq_true, Bool.not_true, Bool.not_false, if_true, if_false, ite_true, ite_false, true_and, and_true, false_and, and_false, Int.toNat_natCast, toN_succ, Int.ofNat_eq_natCast, Int.ofNat_toNat, Nat.zero_add, Nat.add_zero, not_true_eq_false, not_false_eq_true, implies_true, wr64]
    rw [if_pos (by omega)]
    refine ⟨by omega, by omega, ?_⟩
    have hup : e.getD i false = true ∨ e.getD i false = false := by cases e.getD i false <;> simp
    -- what is done now, for a list that has more done
    have fin : ∀ e' : List Bool, Dn g e' → (∀ v, e.getD v false = true → e'.getD v false = true) → (b = true → e'.getD i false = true) → ((i : Int) + 1 = ((i + 1 : Nat) : Int) ∧ Dn g e' ∧ (∀ v, d.getD v false = true → e'.getD v false = true) ∧ ∀ ρ k, Rank g ρ → (∀ v, v < g.plan.length → ρ v < k → d.getD v false = true) → ∀ v, v < i + 1 → ρ v < k + 1 → e'.getD v false = true) := fun e' q1 q2 q3 =>
      ⟨by omega, q1, fun v hv => q2 v (h2 v hv), fun ρ k r1 r2 => forall_lt_succ.2 ⟨fun v hv hr => q2 v (h3 ρ k r1 r2 v hv hr), fun hr => q3 (hb2.2 fun j hj b0 ht => by
        have hx := hlk j hj
        have hf0 := hx.f0
        have hf1 := hx.f1
        have := r1 j hj b0
        rw [ht, Int.toNat_natCast] at this
        exact h2 _ (r2 _ (by omega) (by omega)))⟩⟩
    split
    · rename_i c
      have e1 : e.set i true = e := by
        refine list_ext_getD false (by simp) fun j hj => ?_
        rw [lgetD_set]
        by_cases ej : i = j
        · subst ej; rw [if_pos ⟨rfl, by omega⟩]; exact c.symm
        · rw [if_neg (by omega)]
      rw [e1]
      exact fin e h1 (fun _ h => h) (fun _ => c)
    · rename_i c
      have c : e.getD i false = false := by simpa using c
      by_cases cb : b = true
      · rw [cb]
        have hg : ∀ v, (e.set i true).getD v false = true ↔ (v = i ∨ e.getD v false = true) := fun v => by
          rw [lgetD_set]
          by_cases ej : i = v
          · subst ej; rw [if_pos ⟨rfl, by omega⟩]; simp
          · rw [if_neg (by omega)]
            constructor
            · exact fun h => .inr h
            · rintro (h | h)
              · omega
              · exact h
        refine fin _ ⟨by rw [lset_len]; exact hlen, ?_⟩ (fun v hv => (hg v).2 (.inr hv)) (fun _ => (hg i).2 (.inl rfl))
        obtain ⟨ρ, N, r1, r2⟩ := h1.rk
        refine ⟨fun v => if v = i then N else ρ v, N + 1, fun v hv => ?_, fun j hj b0 ht => ?_⟩
        · simp only
          split
          · omega
          · rename_i ne
            rcases (hg v).1 hv with h | h
            · exact absurd h ne
            · have := r1 v h; omega
        · have hx := hlk j hj
          have ht0 := hx.t0
          rcases (hg _).1 ht with h | h
          · have hfr := hb2.1 cb j hj b0 (by omega)
            have hne : (g.links.getD j TLink.d).from0.toNat ≠ i := fun q => by rw [q, c] at hfr; cases hfr
            refine ⟨(hg _).2 (.inr hfr), ?_⟩
            simp only
            rw [if_neg hne, if_pos h]
            exact r1 _ hfr
          · obtain ⟨s1, s2⟩ := r2 j hj b0 h
            have hne : (g.links.getD j TLink.d).from0.toNat ≠ i := fun q => by rw [q, c] at s1; cases s1
            have hne2 : (g.links.getD j TLink.d).to0.toNat ≠ i := fun q => by rw [q, c] at h; cases h
            refine ⟨(hg _).2 (.inr s1), ?_⟩
            simp only
            rw [if_neg hne, if_neg hne2]
            exact s2
      · have cb' : b = false := by simpa using cb
        rw [cb']
        have e1 : e.set i false = e := by
          refine list_ext_getD false (by simp) fun j hj => ?_
          rw [lgetD_set]
          by_cases ej : i = j
          · subst ej; rw [if_pos ⟨rfl, by omega⟩]; exact c.symm
          · rw [if_neg (by omega)]
        rw [e1]
        exact fin e h1 (fun _ h => h) (fun h => absurd h cb)
  · rintro ⟨y, e⟩ ⟨rfl, h1, h2, h3⟩
    unfold B14_26
    simp (disch := omega) only [Ret_some, Ret_none, Ret_bind, Ret_asrt, Ret_cond, Sum.elim_inl, Sum.elim_inr, decide_eq_true_eq, decide_eq_false_iff_not, Bool.not_eq_true', Bool.not_not, Bool.and_eq_true, Bool.or_eq_true, Bool.true_eq_false, Bool.false_eq_true, Bool.not_true, Bool.not_false, if_true, if_false, ite_true, ite_false, true_and, and_true, false_and, and_false, Int.toNat_natCast, toN_succ, Int.ofNat_eq_natCast, Int.ofNat_toNat, Nat.zero_add, Nat.add_zero, not_true_eq_false, not_false_eq_true, implies_true, wr64]
    rw [if_neg (by omega)]
    exact ⟨h1, h3⟩

theorem F53_ret {x : List Bool} (hl : x.length ≤ 1000) : Ret (F53 x false) fun b => (b = true ↔ ∃ i, i < x.length ∧ x.getD i false = false) := by
  have hL : Ret (L84_2 x false 0) fun y => match y with | .inl _ => ∀ i, i < x.length → x.getD i false = true | .inr r => 0 ≤ r ∧ ∃ i, i < x.length ∧ x.getD i false = false := by
    unfold L84_2
    refine Ret.loop x.length (fun i s => s = (i : Int) ∧ ∀ j, j < i → x.getD j false = true) ⟨rfl, fun j hj => by omega⟩ ?_ ?_
    · rintro i s hi ⟨rfl, hj⟩
      unfold B84_2
      simp (disch := omega) only [Ret_some, Ret_none, Ret_bind, Ret_asrt, Ret_cond, Sum.elim_inl, Sum.elim_inr, decide_eq_true_eq, decide_eq_false_iff_not, Bool.not_eq_true', Bool.not_not, Bool.and_eq_true, Bool.or_eq_true, Bool.true_eq_false, Bool.false_eq_true, Bool.not_true, Bool.not_false, if_true, if_false, ite_true, ite_false, true_and, and_true, false_and, and_false, Int.toNat_natCast, toN_succ, Int.ofNat_eq_natCast, Int.ofNat_toNat, Nat.zero_add, Nat.add_zero, not_true_eq_false, not_false_eq_true, implies_true, wr64]
      rw [if_pos (by omega)]
      refine ⟨by omega, ?_⟩
      cases hv : x.getD i false
      · simp only [BEq.rfl, if_true]
        exact ⟨by omega, i, hi, hv⟩
      · simp only [Bool.false_beq, Bool.not_true, Bool.false_eq_true, if_false]
        exact ⟨by omega, forall_lt_succ.2 ⟨hj, hv⟩⟩
    · rintro s ⟨rfl, hj⟩
      unfold B84_2
      simp (disch := omega) only [Ret_some, Ret_none, Ret_bind, Ret_asrt, Ret_cond, Sum.elim_inl, Sum.elim_inr, decide_eq_true_eq, decide_eq_false_iff_not, Bool.not_eq_true', Bool.not_not, Bool.and_eq_true, Bool.or_eq_true, Bool.true_eq_false, Bool.false_eq_true, Bool.not_true, Bool.not_false, if_true, if_false, ite_true, ite_false, true_and, and_true, false_and, and_false, Int.toNat_natCast, toN_succ, Int.ofNat_eq_natCast, Int.ofNat_toNat, Nat.zero_add, Nat.add_zero, not_true_eq_false, not_false_eq_true, implies_true, wr64]
      rw [if_neg (by omega)]
      exact hj
  unfold F53 F84
  obtain ⟨y, hy, hp⟩ := hL
  rw [hy]
  rcases y with _ | r
  · refine ⟨false, by simp, by simp, ?_⟩
    rintro ⟨i, hi, e⟩
    rw [hp i hi] at e
    cases e
  · exact ⟨true, by simp [hp.1], by simpa using hp.2⟩

theorem L14_24_ret (hll : g.links.length ≤ 24) (hnl : g.plan.length ≤ 8) (hlk : ∀ i, i < g.links.length → LOk g (g.links.getD i TLink.d)) :
    Ret (L14_24 g (0, List.replicate g.plan.length false)) fun d => Dn g d ∧ ∀ ρ, Rank g ρ → ∀ v, v < g.plan.length → ρ v < g.plan.length → d.getD v false = true := by
  unfold L14_24
  refine Ret.loop g.plan.length (fun k s => s.1 = (k : Int) ∧ Dn g s.2 ∧ ∀ ρ, Rank g ρ → ∀ v, v < g.plan.length → ρ v < k → s.2.getD v false = true) ⟨rfl, ⟨by simp, fun _ => 0, 1, fun _ _ => Nat.zero_lt_one, fun i hi b0 ht => ?_⟩, fun ρ _ v _ h => absurd h (Nat.not_lt_zero _)⟩ ?_ ?_
  · exfalso
    have hx := hlk i hi
    have ht0 := hx.t0
    have ht1 := hx.t1
    rw [getD_rep (by omega)] at ht
    cases ht
  · rintro k ⟨y, d⟩ hk ⟨rfl, h1, h2⟩
    simp only at h1 h2
    obtain ⟨o, ho, k1, k2⟩ := L14_26_ret hll hnl hlk h1
    unfold B14_24
    rw [ho]
    simp (disch := omega) only [Ret_some, Ret_none, Ret_bind, Ret_asrt, Ret_cond, Sum.elim_inl, Sum.elim_inr, decide_eq_true_eq, decide_eq_false_iff_not, Bool.not_eq_true', Bool.not_not, Bool.and_eq_true, Bool.or_eq_true, Bool.true_eq_false, Bool.false_eq_true, Bool.not_true, Bool.not_false, if_true, if_false, ite_true, ite_false, true_and, and_true, false_and, and_false, Int.toNat_natCast, toN_succ, Int.ofNat_eq_natCast, Int.ofNat_toNat, Nat.zero_add, Nat.add_zero, not_true_eq_false, not_false_eq_true, implies_true, wr64]
    rw [if_pos (by omega)]
    exact ⟨by omega, k1, fun ρ hρ => k2 ρ k hρ (h2 ρ hρ)⟩
  · rintro ⟨y, d⟩ ⟨rfl, h1, h2⟩
    unfold B14_24
    simp (disch := omega) only [Ret_some, Ret_none, Ret_bind, Ret_asrt, Ret_cond, Sum.elim_inl, Sum.elim_inr, decide_eq_true_eq, decide_eq_false_iff_not, Bool.not_eq_true', Bool.not_not, Bool.and_eq_true, Bool.or_eq_true, Bool.true_eq_false, Bool.false_eq_true, Bool.not_true, Bool.not_false, if_true, if_false, ite_true, ite_false, true_and, and_true, false_and, and_false, Int.toNat_natCast, toN_succ, Int.ofNat_eq_natCast, Int.ofNat_toNat, Nat.zero_add, Nat.add_zero, not_true_eq_false, not_false_eq_true, implies_true, wr64]
    rw [if_neg (by omega)]
    exact ⟨h1, h2⟩

/-- how many are below -/
def cntB (ρ : Nat → Nat) (v : Nat) : Nat → Nat
  | 0 => 0
  | n + 1 => cntB ρ v n + if ρ n < ρ v then 1 else 0

theorem cntB_le (ρ : Nat → Nat) (v : Nat) : ∀ n, cntB ρ v n ≤ n
  | 0 => Nat.le_refl _
  | n + 1 => by have := cntB_le ρ v n; unfold cntB; split <;> omega

theorem cntB_lt (ρ : Nat → Nat) (v : Nat) : ∀ n, v < n → cntB ρ v n < n
  | 0, h => by omega
  | n + 1, h => by
    by_cases e : v = n
    · subst e
      have := cntB_le ρ v v
      unfold cntB
      rw [if_neg (by omega)]
      omega
    · have := cntB_lt ρ v n (by omega)
      unfold cntB
      split <;> omega

theorem cntB_mono (ρ : Nat → Nat) {u v : Nat} (h : ρ u < ρ v) : ∀ n, cntB ρ u n ≤ cntB ρ v n ∧ (u < n → cntB ρ u n < cntB ρ v n)
  | 0 => ⟨Nat.le_refl _, fun h => by omega⟩
  | n + 1 => by
    obtain ⟨h1, h2⟩ := cntB_mono ρ h n
    unfold cntB
    constructor
    · split <;> split <;> omega
    · intro hu
      by_cases e : u = n
      · subst e
        rw [if_neg (by omega), if_pos h]
        omega
      · have := h2 (by omega)
        split <;> split <;> omega

/-- the two faults are the same -/
theorem F16_ret (g : TRound) : ∃ r, F16 g = some r ∧ F14 g = some r ∧ (r = 0 → ROk g) := by
  unfold F16 F14
  rw [F51_F54, show L16_6 = L14_7 from rfl]
  simp only [F54_eq, Option.bind_some]
  by_cases c1 : 1 ≤ g.period ∧ g.period ≤ 3600
  case neg =>
    simp only [c1, decide_false, Bool.not_false, cond_true]
    exact ⟨2, rfl, rfl, fun e => absurd e (by decide)⟩
  by_cases c2 : 1 ≤ (g.plan.length : Int) ∧ (g.plan.length : Int) ≤ 8
  case neg =>
    simp only [c1, c2, and_self, decide_true, decide_false, Bool.not_true, Bool.not_false, cond_true, cond_false]
    exact ⟨4, rfl, rfl, fun e => absurd e (by decide)⟩
  by_cases c3 : 24 < (g.links.length : Int)
  · simp only [c1, c2, c3, and_self, decide_true, Bool.not_true, cond_true, cond_false]
    exact ⟨4, rfl, rfl, fun e => absurd e (by decide)⟩
  simp only [c1, c2, c3, and_self, decide_true, decide_false, Bool.not_true, cond_false]
  have hP : Ret (L14_7 g 0) fun x => match x with | .inl _ => ∀ i, i < g.plan.length → 0 ≤ g.plan.getD i 0 ∧ g.plan.getD i 0 ≤ g.period - 1 | .inr r => r ≠ 0 := by
    unfold L14_7
    refine Ret.loop g.plan.length (fun i s => s = (i : Int) ∧ ∀ j, j < i → 0 ≤ g.plan.getD j 0 ∧ g.plan.getD j 0 ≤ g.period - 1) ⟨rfl, fun j hj => by omega⟩ ?_ ?_
    · rintro i s hi ⟨rfl, hj⟩
      unfold B14_7
      rw [F51_F54]
      simp (disch := omega) only [Ret_some, Ret_none, Ret_bind, Ret_asrt, Ret_cond, Sum.elim_inl, Sum.elim_inr, decide_eq_true_eq, decide_eq_false_iff_not, Bool.not_eq_true', Bool.not_not, Bool.and_eq_true, Bool.or_eq_true, Bool.true_eq_false, Bool.false_eq_true, Bool.not_true, Bool.not_false, if_true, if_false, ite_true, ite_false, true_and, and_true, false_and, and_false, Int.toNat_natCast, toN_succ, Int.ofNat_eq_natCast, Int.ofNat_toNat, Nat.zero_add, Nat.add_zero, not_true_eq_false, not_false_eq_true, implies_true, wr64, F54_eq]
      rw [if_pos (by omega)]
      refine ⟨by omega, ?_⟩
      split
      · decide
      · exact ⟨by omega, forall_lt_succ.2 ⟨hj, by omega⟩⟩
    · rintro s ⟨rfl, hj⟩
      unfold B14_7
      simp (disch := omega) only [Ret_some, Ret_none, Ret_bind, Ret_asrt, Ret_cond, Sum.elim_inl, Sum.elim_inr, decide_eq_true_eq, decide_eq_false_iff_not, Bool.not_eq_true', Bool.not_not, Bool.and_eq_true, Bool.or_eq_true, Bool.true_eq_false, Bool.false_eq_true, Bool.not_true, Bool.not_false, if_true, if_false, ite_true, ite_false, true_and, and_true, false_and, and_false, Int.toNat_natCast, toN_succ, Int.ofNat_eq_natCast, Int.ofNat_toNat, Nat.zero_add, Nat.add_zero, not_true_eq_false, not_false_eq_true, implies_true, wr64]
      rw [if_neg (by omega)]
      exact hj
  obtain ⟨x, hx, hp⟩ := hP
  rw [hx]
  rcases x with _ | r
  case inr => exact ⟨r, rfl, rfl, fun e => absurd e hp⟩
  simp only [Option.bind_some, Sum.elim_inl]
  have hnum : RNum g := ⟨c1.1, c1.2, by omega, by omega, by omega, hp⟩
  have hL : L16_12 g 0 = L14_13 g 0 := by
    unfold L16_12 L14_13
    exact loopW_congr (fun v => B16_12_eq hnum.n1 v) 0
  obtain ⟨x, hx, hq⟩ := L14_13_ret hnum
  rw [hL, hx]
  rcases x with _ | r
  case inr => exact ⟨r, rfl, rfl, fun e => absurd e hq⟩
  simp only [Option.bind_some, Sum.elim_inl]
  have hq : ∀ i, i < g.links.length → LOk g (g.links.getD i TLink.d) := hq
  obtain ⟨b, hb, hb1, hb2⟩ := F56_ret hnum.ll hnum.n1 hq
  obtain ⟨d, hd, d1, d2⟩ := L14_24_ret hnum.ll hnum.n1 hq
  have hdl := d1.len
  obtain ⟨e, he, he1⟩ := F53_ret (x := d) (by have := hnum.n1; omega)
  have hbe : b = e := by
    by_cases cb : b = true
    · have hno := hb2 cb
      have : e = true := by
        refine Classical.byContradiction fun ce => ?_
        have hall : ∀ i, i < d.length → d.getD i false = true := fun i hi => by
          refine Classical.byContradiction fun cn => ce (he1.2 ⟨i, hi, by simpa using cn⟩)
        obtain ⟨ρ, N, r1, r2⟩ := d1.rk
        have hr : Rank g ρ := fun i hi b0 => (r2 i hi b0 (hall _ (by have := (hq i hi).t0; have := (hq i hi).t1; omega))).2
        have hr' : Rank g (fun v => cntB ρ v g.plan.length) := fun i hi b0 => (cntB_mono ρ (hr i hi b0) g.plan.length).2 (by have := (hq i hi).f0; have := (hq i hi).f1; omega)
        obtain ⟨v, hv, hge⟩ := hno _ hr'
        have := cntB_lt ρ v _ hv
        have hge : g.plan.length ≤ cntB ρ v g.plan.length := hge
        omega
      rw [cb, this]
    · have cb' : b = false := by simpa using cb
      obtain ⟨ρ, hr⟩ := hb1 cb'
      have hr' : Rank g (fun v => cntB ρ v g.plan.length) := fun i hi b0 => (cntB_mono ρ (hr i hi b0) g.plan.length).2 (by have := (hq i hi).f0; have := (hq i hi).f1; omega)
      have : e = false := by
        refine Classical.byContradiction fun ce => ?_
        obtain ⟨i, hi, h0⟩ := he1.1 (by simpa using ce)
        rw [d2 _ hr' i (by omega) (cntB_lt ρ i _ (by omega))] at h0
        cases h0
      rw [cb', this]
  rw [asrt_eq (by have := hnum.n1; refine ⟨by omega, Int.le_refl _, by omega, by omega⟩), Int.toNat_natCast, hb, hd]
  simp only [Option.bind_some]
  rw [asrt_eq (by omega), List.take_length, he]
  simp only [Option.bind_some, hbe]
  by_cases ce : e = true
  · exact ⟨5, by simp [ce], by simp [ce], fun e => absurd e (by decide)⟩
  · have ce' : e = false := by simpa using ce
    exact ⟨0, by simp [ce'], by simp [ce'], fun _ => { toRNum := hnum, lk := hq, rk := hb1 (by rw [hbe]; exact ce') }⟩

end
/-! ### the least delays -/

/-- the cell of a table -/
def cell (m : List (List Int)) (k v : Nat) : Int := (m.getD k []).getD v 0

/-- right first delays -/
structure FOk (g : TRound) (l : List TFirst) : Prop where
  len : l.length ≤ 20
  el : ∀ i, i < l.length → (0 ≤ (l.getD i TFirst.d).event ∧ (l.getD i TFirst.d).event < (g.plan.length : Int)) ∧ (0 ≤ (l.getD i TFirst.d).period ∧ (l.getD i TFirst.d).period ≤ 59) ∧ (0 ≤ (l.getD i TFirst.d).secs ∧ (l.getD i TFirst.d).secs ≤ 28800)

/-- delays that may be -/
structure SpOk (g : TRound) (l : List TFirst) (P : Nat) (Y : Nat → Nat → Int) : Prop where
  nn : ∀ k v, k < P → v < g.plan.length → 0 ≤ Y k v
  fi : ∀ i, i < l.length → (l.getD i TFirst.d).period < (P : Int) → (l.getD i TFirst.d).secs ≤ Y (l.getD i TFirst.d).period.toNat (l.getD i TFirst.d).event.toNat
  cl : ∀ k i, k < P → i < g.links.length → (g.links.getD i TLink.d).back ≤ (k : Int) → Y (k - (g.links.getD i TLink.d).back.toNat) (g.links.getD i TLink.d).from0.toNat - slk g (g.links.getD i TLink.d) ≤ Y k (g.links.getD i TLink.d).to0.toNat

structure Shp (n P : Nat) (m : List (List Int)) : Prop where
  len : m.length = P
  row : ∀ k, k < P → (m.getD k []).length = n

structure SpLeast (g : TRound) (l : List TFirst) (P : Nat) (m : List (List Int)) : Prop where
  shp : Shp g.plan.length P m
  ok : SpOk g l P (cell m)
  up : ∀ Y, SpOk g l P Y → ∀ k v, k < P → v < g.plan.length → cell m k v ≤ Y k v

theorem SpLeast.uniq {g : TRound} {l : List TFirst} {P : Nat} {m q : List (List Int)} (h : SpLeast g l P m) (k : SpLeast g l P q) : m = q := by
  refine list_ext_getD [] (by rw [h.shp.len, k.shp.len]) fun i hi => ?_
  have hiP : i < P := by rw [← h.shp.len]; exact hi
  refine list_ext_getD 0 (by rw [h.shp.row i hiP, k.shp.row i hiP]) fun v hv => ?_
  rw [h.shp.row i hiP] at hv
  have h1 := h.up _ k.ok i v hiP hv
  have h2 := k.up _ h.ok i v hiP hv
  unfold cell at h1 h2
  omega

theorem SpOk.top {g : TRound} {l : List TFirst} {P : Nat} (hg : ROk g) (hl : FOk g l) : SpOk g l P fun _ _ => 28800 :=
  ⟨fun _ _ _ _ => by decide, fun i hi _ => (hl.el i hi).2.2.2, fun k i _ hi _ => by have := (hg.lk i hi).s0; omega⟩

/-! what is still to go -/

def msr (l : List Int) : Nat := (l.map fun x => (28800 - x).toNat).sum

theorem sum_set {α : Type} (f : α → Nat) (d x : α) : ∀ (l : List α) (i : Nat), i < l.length → f x < f (l.getD i d) → ((l.set i x).map f).sum < (l.map f).sum
  | [], i, h, _ => by cases h
  | a :: l, 0, _, h => by
    have h : f x < f a := h
    simp only [List.set_cons_zero, List.map_cons, List.sum_cons]
    omega
  | a :: l, i + 1, h, k => by
    have := sum_set f d x l i (by simpa using h) k
    simp only [List.set_cons_succ, List.map_cons, List.sum_cons]
    omega

theorem msr_set {l : List Int} {i : Nat} {d : Int} (hi : i < l.length) (h : l.getD i 0 < d) (hd : d ≤ 28800) : msr (l.set i d) < msr l :=
  sum_set (fun x : Int => (28800 - x).toNat) 0 d l i hi (by show (28800 - d).toNat < (28800 - l.getD i 0).toNat; omega)

def msr2 (m : List (List Int)) : Nat := (m.map msr).sum

theorem msr2_set {m : List (List Int)} {k : Nat} {r : List Int} (hk : k < m.length) (h : msr r < msr (m.getD k [])) : msr2 (m.set k r) < msr2 m :=
  sum_set _ [] r m k hk h

/-! ### one period, as the program sees it -/

section
variable {g : TRound}

structure RowOk (g : TRound) (bf : List (List Int)) (a : List Int) (Z : Nat → Int) : Prop where
  ge : ∀ v, v < g.plan.length → a.getD v 0 ≤ Z v
  bk : ∀ i, i < g.links.length → 0 < (g.links.getD i TLink.d).back → (g.links.getD i TLink.d).back ≤ (bf.length : Int) → (bf.getD ((g.links.getD i TLink.d).back - 1).toNat []).getD (g.links.getD i TLink.d).from0.toNat 0 - slk g (g.links.getD i TLink.d) ≤ Z (g.links.getD i TLink.d).to0.toNat
  b0 : ∀ i, i < g.links.length → (g.links.getD i TLink.d).back = 0 → Z (g.links.getD i TLink.d).from0.toNat - slk g (g.links.getD i TLink.d) ≤ Z (g.links.getD i TLink.d).to0.toNat

/-- does the link ask for no more? -/
def Fine (g : TRound) (bf : List (List Int)) (m : List Int) (i : Nat) : Prop :=
  (0 < (g.links.getD i TLink.d).back → (g.links.getD i TLink.d).back ≤ (bf.length : Int) → (bf.getD ((g.links.getD i TLink.d).back - 1).toNat []).getD (g.links.getD i TLink.d).from0.toNat 0 - slk g (g.links.getD i TLink.d) ≤ m.getD (g.links.getD i TLink.d).to0.toNat 0) ∧
  ((g.links.getD i TLink.d).back = 0 → m.getD (g.links.getD i TLink.d).from0.toNat 0 - slk g (g.links.getD i TLink.d) ≤ m.getD (g.links.getD i TLink.d).to0.toNat 0)

/-- rows before -/
structure Bef (g : TRound) (bf : List (List Int)) : Prop where
  len : bf.length ≤ 3
  row : ∀ b, b < bf.length → (bf.getD b []).length = g.plan.length
  val : ∀ b v, b < bf.length → v < g.plan.length → 0 ≤ (bf.getD b []).getD v 0 ∧ (bf.getD b []).getD v 0 ≤ 28800

theorem RowOk.top {bf : List (List Int)} {a : List Int} (hg : ROk g) (hb : Bef g bf) (ha : ∀ v, v < g.plan.length → a.getD v 0 ≤ 28800) : RowOk g bf a fun _ => 28800 := by
  refine ⟨ha, fun i hi h1 h2 => ?_, fun i hi _ => ?_⟩
  · have hx := hg.lk i hi
    have := hx.s0
    have := hx.f0
    have := hx.f1
    have := (hb.val ((g.links.getD i TLink.d).back - 1).toNat (g.links.getD i TLink.d).from0.toNat (by omega) (by omega)).2
    omega
  · have := (hg.lk i hi).s0
    omega

theorem L60_6_ret (hg : ROk g) {bf : List (List Int)} (hb : Bef g bf) {a m : List Int} (ha : ∀ v, v < g.plan.length → 0 ≤ a.getD v 0 ∧ a.getD v 0 ≤ 28800) (hm : m.length = g.plan.length) (hlo : ∀ v, v < g.plan.length → a.getD v 0 ≤ m.getD v 0) (hup : ∀ Z, RowOk g bf a Z → ∀ v, v < g.plan.length → m.getD v 0 ≤ Z v) :
    Ret (L60_6 g bf (false, 0, m)) fun o => o.2.length = g.plan.length ∧ (∀ v, v < g.plan.length → a.getD v 0 ≤ o.2.getD v 0) ∧ (∀ Z, RowOk g bf a Z → ∀ v, v < g.plan.length → o.2.getD v 0 ≤ Z v) ∧ (o.1 = false → o.2 = m ∧ ∀ j, j < g.links.length → Fine g bf m j) ∧ (o.1 = true → msr o.2 < msr m) := by
  have hll := hg.ll
  have htop := RowOk.top (a := a) hg hb fun v hv => (ha v hv).2
  unfold L60_6
  refine Ret.loop g.links.length (fun i s => s.2.1 = (i : Int) ∧ s.2.2.length = g.plan.length ∧ (∀ v, v < g.plan.length → a.getD v 0 ≤ s.2.2.getD v 0) ∧ (∀ Z, RowOk g bf a Z → ∀ v, v < g.plan.length → s.2.2.getD v 0 ≤ Z v) ∧ (s.1 = false → s.2.2 = m ∧ ∀ j, j < i → Fine g bf m j) ∧ (s.1 = true → msr s.2.2 < msr m))
    ⟨rfl, hm, hlo, hup, fun _ => ⟨rfl, fun j hj => by omega⟩, fun h => (by cases h)⟩ ?_ ?_
  · rintro i ⟨fl, y, q⟩ hi ⟨rfl, h1, h2, h3, h4, h5⟩
    simp only at h1 h2 h3 h4 h5
    obtain ⟨x, hxx⟩ : ∃ x, g.links.getD i TLink.d = x := ⟨_, rfl⟩
    have hx := hg.lk i hi
    rw [hxx] at hx
    have hf0 := hx.f0
    have hf1 := hx.f1
    have ht0 := hx.t0
    have ht1 := hx.t1
    have hb0 := hx.b0
    have hb1 := hx.b1
    have hs0 := hx.s0
    have hs1 := hx.s1
    have hsl : F55 g x = some (slk g x) := (F52_eq hg.toRNum hx.toLNum).1
    have hbl := hb.len
    have hqf := h3 _ htop x.from0.toNat (by omega)
    have hqf0 := h2 x.from0.toNat (by omega)
    have hqf1 := (ha x.from0.toNat (by omega)).1
    have hqt := h3 _ htop x.to0.toNat (by omega)
    -- nothing changes
    have hkeep : Fine g bf q i → (q.length = g.plan.length ∧ (∀ v, v < g.plan.length → a.getD v 0 ≤ q.getD v 0) ∧ (∀ Z, RowOk g bf a Z → ∀ v, v < g.plan.length → q.getD v 0 ≤ Z v) ∧ (fl = false → q = m ∧ ∀ j, j < i + 1 → Fine g bf m j) ∧ (fl = true → msr q < msr m)) := fun hf =>
      ⟨h1, h2, h3, fun e => ⟨(h4 e).1, forall_lt_succ.2 ⟨(h4 e).2, by have := (h4 e).1; subst this; exact hf⟩⟩, h5⟩
    -- the link asks for more
    have hset : ∀ d : Int, q.getD x.to0.toNat 0 < d → (∀ Z, RowOk g bf a Z → d ≤ Z x.to0.toNat) → ((q.set x.to0.toNat d).length = g.plan.length ∧ (∀ v, v < g.plan.length → a.getD v 0 ≤ (q.set x.to0.toNat d).getD v 0) ∧ (∀ Z, RowOk g bf a Z → ∀ v, v < g.plan.length → (q.set x.to0.toNat d).getD v 0 ≤ Z v) ∧ msr (q.set x.to0.toNat d) < msr m) := by
      intro d hd1 hd2
      have hd3 : d ≤ 28800 := hd2 _ htop
      have hms := msr_set (l := q) (i := x.to0.toNat) (by omega) hd1 hd3
      refine ⟨by rw [lset_len]; exact h1, fun v hv => ?_, fun Z hZ v hv => ?_, ?_⟩
      · rw [lgetD_set]
        have := h2 v hv
        split
        · rename_i e; rw [← e.1] at this ⊢; omega
        · exact this
      · rw [lgetD_set]
        split
        · rename_i e; rw [← e.1]; exact hd2 Z hZ
        · exact h3 Z hZ v hv
      · by_cases e : fl = true
        · have := h5 e; omega
        · have e' : fl = false := by simpa using e
          have := (h4 e').1
          subst this
          exact hms
    have hfine : Fine g bf q i ↔ (0 < x.back → x.back ≤ (bf.length : Int) → (bf.getD (x.back - 1).toNat []).getD x.from0.toNat 0 - slk g x ≤ q.getD x.to0.toNat 0) ∧ (x.back = 0 → q.getD x.from0.toNat 0 - slk g x ≤ q.getD x.to0.toNat 0) := by unfold Fine; rw [hxx]
    unfold B60_6
    simp only [Int.toNat_natCast, hxx, hsl]
    have hi' : decide ((i : Int) < (g.links.length : Int)) = true := by simp; omega
    rw [hi', cond_true, asrt_eq (by omega)]
    by_cases c0 : 0 < x.back
    · by_cases c1 : (bf.length : Int) < x.back
      · simp only [c0, c1, decide_true, cond_true]
        rw [wr64 (by omega) (by omega)]
        exact ⟨_, rfl, by simp, hkeep (hfine.2 ⟨fun _ e => by omega, fun e => by omega⟩)⟩
      · have hrow := hb.row (x.back - 1).toNat (by omega)
        have hval := hb.val (x.back - 1).toNat x.from0.toNat (by omega) (by omega)
        simp only [c0, c1, decide_true, decide_false, cond_true, cond_false]
        simp (disch := omega) only [Ret_some, Ret_none, Ret_bind, Ret_asrt, Ret_cond, Sum.elim_inl, Sum.elim_inr, decide_eq_true_eq, decide_eq_false_iff_not, Bool.not_eq_true', Bool.not_not, Bool.and_eq_true, Bool.or_eq_true, Bool.true_eq_false, Bool.false_eq_true, Bool.not_true, Bool.not_false, if_true, if_false, ite_true, ite_false, true_and, and_true, false_and, and_false, Int.toNat_natCast, toN_succ, Int.ofNat_eq_natCast, Int.ofNat_toNat, Nat.zero_add, Nat.add_zero, not_true_eq_false, not_false_eq_true, implies_true, wr64]
        refine ⟨by omega, by omega, by omega, by omega, ?_⟩
        split
        · rename_i c2
          obtain ⟨k1, k2, k3, k4⟩ := hset _ c2 fun Z hZ => by
            have := hZ.bk i hi
            rw [hxx] at this
            exact this c0 (by omega)
          exact ⟨by omega, k1, k2, k3, fun e => (by cases e), fun _ => k4⟩
        · rename_i c2
          exact ⟨by omega, hkeep (hfine.2 ⟨fun _ _ => by omega, fun e => by omega⟩)⟩
    · simp only [c0, decide_false, cond_false]
      simp (disch := omega) only [Ret_some, Ret_none, Ret_bind, Ret_asrt, Ret_cond, Sum.elim_inl, Sum.elim_inr, decide_eq_true_eq, decide_eq_false_iff_not, Bool.not_eq_true', Bool.not_not, Bool.and_eq_true, Bool.or_eq_true, Bool.true_eq_false, Bool.false_eq_true, Bool.not_true, Bool.not_false, if_true, if_false, ite_true, ite_false, true_and, and_true, false_and, and_false, Int.toNat_natCast, toN_succ, Int.ofNat_eq_natCast, Int.ofNat_toNat, Nat.zero_add, Nat.add_zero, not_true_eq_false, not_false_eq_true, implies_true, wr64]
      refine ⟨by omega, by omega, by omega, by omega, ?_⟩
      split
      · rename_i c2
        obtain ⟨k1, k2, k3, k4⟩ := hset _ c2 fun Z hZ => by
          have h6 := hZ.b0 i hi
          rw [hxx] at h6
          have h6 := h6 (by omega)
          have := h3 Z hZ x.from0.toNat (by omega)
          omega
        exact ⟨by omega, k1, k2, k3, fun e => (by cases e), fun _ => k4⟩
      · rename_i c2
        exact ⟨by omega, hkeep (hfine.2 ⟨fun e => by omega, fun _ => by omega⟩)⟩
  · rintro ⟨fl, y, q⟩ ⟨rfl, h1, h2, h3, h4, h5⟩
    unfold B60_6
    simp (disch := omega) only [Ret_some, Ret_none, Ret_bind, Ret_asrt, Ret_cond, Sum.elim_inl, Sum.elim_inr, decide_eq_true_eq, decide_eq_false_iff_not, Bool.not_eq_true', Bool.not_not, Bool.and_eq_true, Bool.or_eq_true, Bool.true_eq_false, Bool.false_eq_true, Bool.not_true, Bool.not_false, if_true, if_false, ite_true, ite_false, true_and, and_true, false_and, and_false, Int.toNat_natCast, toN_succ, Int.ofNat_eq_natCast, Int.ofNat_toNat, Nat.zero_add, Nat.add_zero, not_true_eq_false, not_false_eq_true, implies_true, wr64]
    rw [if_neg (by omega)]
    exact ⟨h1, h2, h3, h4, h5⟩

theorem F67_eq {a : List Int} (h0 : 0 < a.length) (h : a.length ≤ 1000) : F67 a = some ((), a) := by
  unfold F67 both
  rw [if_neg (by omega), asrt_eq (by omega), List.nil_append]

theorem F60_ret (hg : ROk g) {bf : List (List Int)} (hb : Bef g bf) {a : List Int} (ha : ∀ v, v < g.plan.length → 0 ≤ a.getD v 0 ∧ a.getD v 0 ≤ 28800) (hal : a.length = g.plan.length) :
    Ret (F60 g a bf) fun r => r.length = g.plan.length ∧ RowOk g bf a (fun v => r.getD v 0) ∧ ∀ Z, RowOk g bf a Z → ∀ v, v < g.plan.length → r.getD v 0 ≤ Z v := by
  have hn0 := hg.n0
  have hn1 := hg.n1
  have hL : Ret (L60_3 g bf (true, a)) fun r => r.length = g.plan.length ∧ RowOk g bf a (fun v => r.getD v 0) ∧ ∀ Z, RowOk g bf a Z → ∀ v, v < g.plan.length → r.getD v 0 ≤ Z v := by
    unfold L60_3
    refine Ret.while (fun s => s.2.length = g.plan.length ∧ (∀ v, v < g.plan.length → a.getD v 0 ≤ s.2.getD v 0) ∧ (∀ Z, RowOk g bf a Z → ∀ v, v < g.plan.length → s.2.getD v 0 ≤ Z v) ∧ (s.1 = false → ∀ j, j < g.links.length → Fine g bf s.2 j)) (fun s => msr s.2 + if s.1 = true then 1 else 0)
      ⟨hal, fun v _ => Int.le_refl _, fun Z hZ v hv => hZ.ge v hv, fun h => (by cases h)⟩ ?_
    rintro ⟨fl, m⟩ ⟨h1, h2, h3, h4⟩
    simp only at h1 h2 h3 h4
    unfold B60_3
    rcases fl with _ | _
    · refine Ret_some.2 ⟨h1, ⟨h2, fun i hi => (h4 rfl i hi).1, fun i hi => (h4 rfl i hi).2⟩, h3⟩
    · obtain ⟨o, ho, k1, k2, k3, k4, k5⟩ := L60_6_ret hg hb ha h1 h2 h3
      simp only [cond_true]
      rw [ho]
      refine Ret_some.2 ⟨⟨k1, k2, k3, fun e j hj => ?_⟩, ?_⟩
      · rw [(k4 e).1]; exact (k4 e).2 j hj
      · simp only
        rcases ho1 : o.1 with _ | _
        · rw [(k4 ho1).1]; simp
        · have := k5 ho1; simp; omega
  obtain ⟨r, hr, hp⟩ := hL
  unfold F60
  rw [F67_eq (by omega) (by omega), Option.bind_some, hr, Option.bind_some, asrt_eq (by omega), List.take_length]
  exact ⟨r, rfl, hp⟩

/-- the first delays of a period -/
theorem L19_22_ret (hg : ROk g) {l : List TFirst} (hl : FOk g l) (k : Nat) :
    Ret (L19_22 l (k : Int) (0, List.replicate g.plan.length 0)) fun a => a.length = g.plan.length ∧ (∀ v, v < g.plan.length → 0 ≤ a.getD v 0) ∧ (∀ i, i < l.length → (l.getD i TFirst.d).period = (k : Int) → (l.getD i TFirst.d).secs ≤ a.getD (l.getD i TFirst.d).event.toNat 0) ∧ ∀ Z : Nat → Int, (∀ v, v < g.plan.length → 0 ≤ Z v) → (∀ i, i < l.length → (l.getD i TFirst.d).period = (k : Int) → (l.getD i TFirst.d).secs ≤ Z (l.getD i TFirst.d).event.toNat) → ∀ v, v < g.plan.length → a.getD v 0 ≤ Z v := by
  have hll := hl.len
  have hn1 := hg.n1
  unfold L19_22
  refine Ret.loop l.length (fun i s => s.1 = (i : Int) ∧ s.2.length = g.plan.length ∧ (∀ v, v < g.plan.length → 0 ≤ s.2.getD v 0) ∧ (∀ j, j < i → (l.getD j TFirst.d).period = (k : Int) → (l.getD j TFirst.d).secs ≤ s.2.getD (l.getD j TFirst.d).event.toNat 0) ∧ ∀ Z : Nat → Int, (∀ v, v < g.plan.length → 0 ≤ Z v) → (∀ i, i < l.length → (l.getD i TFirst.d).period = (k : Int) → (l.getD i TFirst.d).secs ≤ Z (l.getD i TFirst.d).event.toNat) → ∀ v, v < g.plan.length → s.2.getD v 0 ≤ Z v)
    ⟨rfl, by simp, fun v hv => by simp only; rw [getD_rep hv]; omega, fun j hj => by omega, fun Z hZ _ v hv => by simp only; rw [getD_rep hv]; exact hZ v hv⟩ ?_ ?_
  · rintro i ⟨y, a⟩ hi ⟨rfl, h1, h2, h3, h4⟩
    simp only at h1 h2 h3 h4
    obtain ⟨⟨e0, e1⟩, ⟨p0, p1⟩, s0, s1⟩ := hl.el i hi
    obtain ⟨x, hxx⟩ : ∃ x, l.getD i TFirst.d = x := ⟨_, rfl⟩
    rw [hxx] at e0 e1 p0 p1 s0 s1
    unfold B19_22
    simp only [Int.toNat_natCast, hxx]
    simp (disch := omega) only [Ret_some, Ret_none, Ret_bind, Ret_asrt, Ret_cond, Sum.elim_inl, Sum.elim_inr, decide_eq_true_eq, decide_eq_false_iff_not, Bool.not_eq_true', Bool.not_not, Bool.and_eq_true, Bool.or_eq_true, Bool.true_eq_false, Bool.false_eq_true, Bool.not_true, Bool.not_false, if_true, if_false, ite_true, ite_false, true_and, and_true, false_and, and_false, Int.toNat_natCast, toN_succ, Int.ofNat_eq_natCast, Int.ofNat_toNat, Nat.zero_add, Nat.add_zero, not_true_eq_false, not_false_eq_true, implies_true, wr64]
    rw [if_pos (by omega)]
    refine ⟨by omega, ?_⟩
    split
    · rename_i c
      have hup : ∀ v, a.getD v 0 ≤ (a.set x.event.toNat (max (a.getD x.event.toNat 0) x.secs)).getD v 0 := fun v => by
        rw [lgetD_set]
        split
        · rename_i e; rw [← e.1]; omega
        · exact Int.le_refl _
      refine ⟨by omega, by omega, by omega, by rw [lset_len]; exact h1, fun v hv => Int.le_trans (h2 v hv) (hup v), forall_lt_succ.2 ⟨fun j hj hk => Int.le_trans (h3 j hj hk) (hup _), fun _ => ?_⟩, fun Z hZ1 hZ2 v hv => ?_⟩
      · rw [hxx, lgetD_set, if_pos ⟨rfl, by omega⟩]
        omega
      · rw [lgetD_set]
        split
        · rename_i e
          have q1 := h4 Z hZ1 hZ2 v hv
          have q2 := hZ2 i hi (by rw [hxx]; exact c)
          rw [hxx, e.1] at q2
          rw [e.1]
          omega
        · exact h4 Z hZ1 hZ2 v hv
    · rename_i c
      exact ⟨by omega, h1, h2, forall_lt_succ.2 ⟨h3, fun e => by rw [hxx] at e; exact absurd e c⟩, h4⟩
  · rintro ⟨y, a⟩ ⟨rfl, h1, h2, h3, h4⟩
    unfold B19_22
    simp (disch := omega) only [Ret_some, Ret_none, Ret_bind, Ret_asrt, Ret_cond, Sum.elim_inl, Sum.elim_inr, decide_eq_true_eq, decide_eq_false_iff_not, Bool.not_eq_true', Bool.not_not, Bool.and_eq_true, Bool.or_eq_true, Bool.true_eq_false, Bool.false_eq_true, Bool.not_true, Bool.not_false, if_true, if_false, ite_true, ite_false, true_and, and_true, false_and, and_false, Int.toNat_natCast, toN_succ, Int.ofNat_eq_natCast, Int.ofNat_toNat, Nat.zero_add, Nat.add_zero, not_true_eq_false, not_false_eq_true, implies_true, wr64]
    rw [if_neg (by omega)]
    exact ⟨h1, h2, h3, h4⟩

/-- what holds after k periods -/
structure SI (g : TRound) (l : List TFirst) (P k : Nat) (R bf : List (List Int)) : Prop where
  shp : Shp g.plan.length k R
  bl : bf.length = min k 3
  be : ∀ b, b < min k 3 → bf.getD b [] = R.getD (k - 1 - b) []
  ok : SpOk g l k (cell R)
  up : ∀ Y, SpOk g l P Y → ∀ j v, j < k → v < g.plan.length → cell R j v ≤ Y j v

theorem cell_app {R : List (List Int)} {r : List Int} {k v : Nat} : cell (R ++ [r]) k v = if k = R.length then r.getD v 0 else cell R k v := by
  unfold cell
  by_cases e : k = R.length
  · subst e
    rw [if_pos rfl]
    simp [List.getD_eq_getElem?_getD]
  · rw [if_neg e]
    by_cases lt : k < R.length
    · simp [List.getD_eq_getElem?_getD, List.getElem?_append_left lt]
    · have : R.length + 1 ≤ k := by omega
      simp [List.getD_eq_getElem?_getD, List.getElem?_eq_none (by simp; omega : (R ++ [r]).length ≤ k), List.getElem?_eq_none (by omega : R.length ≤ k)]

theorem getD_app {α : Type} {R : List α} {r d : α} {k : Nat} : (R ++ [r]).getD k d = if k = R.length then r else R.getD k d := by
  by_cases e : k = R.length
  · subst e
    rw [if_pos rfl]
    simp [List.getD_eq_getElem?_getD]
  · rw [if_neg e]
    by_cases lt : k < R.length
    · simp [List.getD_eq_getElem?_getD, List.getElem?_append_left lt]
    · simp [List.getD_eq_getElem?_getD, List.getElem?_eq_none (by simp; omega : (R ++ [r]).length ≤ k), List.getElem?_eq_none (by omega : R.length ≤ k)]

theorem L19_18_ret (hg : ROk g) {l : List TFirst} (hl : FOk g l) {P : Nat} (hP : P ≤ 60) :
    Ret (L19_18 g l (P : Int) ([], [], 0)) fun R => SpLeast g l P R := by
  have hn0 := hg.n0
  have hn1 := hg.n1
  unfold L19_18
  refine Ret.loop P (fun k s => s.2.2 = (k : Int) ∧ SI g l P k s.1 s.2.1)
    ⟨rfl, ⟨rfl, fun k hk => by omega⟩, rfl, fun b hb => by omega, ⟨fun k v hk _ => by omega, fun i hi hp => by have := (hl.el i hi).2.1.1; omega, fun k i hk _ _ => by omega⟩, fun Y _ j v hj _ => by omega⟩ ?_ ?_
  · rintro k ⟨R, bf, y⟩ hk ⟨rfl, w⟩
    simp only at w
    have hRl := w.shp.len
    have hbl := w.bl
    obtain ⟨a, ha, a1, a2, a3, a4⟩ := L19_22_ret hg hl k
    have ha28 : ∀ v, v < g.plan.length → 0 ≤ a.getD v 0 ∧ a.getD v 0 ≤ 28800 := fun v hv => ⟨a2 v hv, a4 (fun _ => 28800) (fun _ _ => by decide) (fun i hi _ => (hl.el i hi).2.2.2) v hv⟩
    have hbef : Bef g bf := by
      refine ⟨by omega, fun b hb => ?_, fun b v hb hv => ?_⟩
      · rw [w.be b (by omega)]
        exact w.shp.row _ (by omega)
      · rw [w.be b (by omega)]
        exact ⟨w.ok.nn (k - 1 - b) v (by omega) hv, w.up _ (SpOk.top hg hl) (k - 1 - b) v (by omega) hv⟩
    obtain ⟨r, hr, r1, r2, r3⟩ := F60_ret hg hbef ha28 a1
    have hn : Int.toNat (g.plan.length : Int) = g.plan.length := Int.toNat_natCast _
    unfold B19_18
    rw [hn, show (Int.ofNat 0 : Int) = 0 from rfl, ha]
    simp only [Option.bind_some, List.take_length]
    rw [hr]
    simp (disch := omega) only [Ret_some, Ret_none, Ret_bind, Ret_asrt, Ret_cond, Sum.elim_inl, Sum.elim_inr, decide_eq_true_eq, decide_eq_false_iff_not, Bool.not_eq_true', Bool.not_not, Bool.and_eq_true, Bool.or_eq_true, Bool.true_eq_false, Bool.false_eq_true, Bool.not_true, Bool.not_false, if_true, if_false, ite_true, ite_false, true_and, and_true, false_and, and_false, Int.toNat_natCast, toN_succ, Int.ofNat_eq_natCast, Int.ofNat_toNat, Nat.zero_add, Nat.add_zero, not_true_eq_false, not_false_eq_true, implies_true, wr64]
    rw [if_pos (by omega)]
    refine ⟨by omega, by omega, by omega, ?_⟩
    have hmin : (min (bf.length : Int) 2 - 0).toNat = min bf.length 2 := by omega
    rw [hmin]
    refine ⟨by omega, by omega, ?_⟩
    have hcell : ∀ j v, j < k → cell (R ++ [r]) j v = cell R j v := fun j v hj => by rw [cell_app, if_neg (by omega)]
    have hcellk : ∀ v, cell (R ++ [r]) k v = r.getD v 0 := fun v => by rw [cell_app, if_pos (by omega)]
    have hRowY : ∀ Y, SpOk g l P Y → RowOk g bf a (Y k) := fun Y hY => by
      refine ⟨a4 (Y k) (fun v hv => hY.nn k v hk hv) (fun i hi hp => ?_), fun i hi b1 b2 => ?_, fun i hi b0 => ?_⟩
      · have := hY.fi i hi (by omega)
        rwa [hp, Int.toNat_natCast] at this
      · have hx := hg.lk i hi
        have hf0 := hx.f0
        have hf1 := hx.f1
        have h5 := hY.cl k i hk hi (by omega)
        rw [w.be _ (by omega)]
        have h6 := w.up Y hY (k - 1 - ((g.links.getD i TLink.d).back - 1).toNat) (g.links.getD i TLink.d).from0.toNat (by omega) (by omega)
        have e : k - 1 - ((g.links.getD i TLink.d).back - 1).toNat = k - (g.links.getD i TLink.d).back.toNat := by omega
        rw [e] at h6 ⊢
        unfold cell at h6
        omega
      · have h5 := hY.cl k i hk hi (by omega)
        rw [b0] at h5
        exact h5
    refine ⟨by omega, ?_⟩
    exact
      { shp := ⟨by simp; omega, forall_lt_succ.2 ⟨fun j hj => by rw [getD_app, if_neg (by omega)]; exact w.shp.row j hj, by rw [getD_app, if_pos (by omega)]; exact r1⟩⟩
        bl := by simp; omega
        be := fun b hb => by
          rcases b with _ | b
          · rw [getD_app, if_pos (by omega)]; rfl
          · rw [getD_app, if_neg (by omega)]
            have : (r :: List.take (min bf.length 2) bf).getD (b + 1) [] = bf.getD b [] := by
              show (List.take (min bf.length 2) bf).getD b [] = _
              exact getD_take (by omega)
            first
              | (simp only [List.cons_append, List.nil_append]; rw [this, w.be b (by omega)]; congr 1; omega)
        ok := by
          refine ⟨fun j v hj hv => ?_, fun i hi hp => ?_, fun j i hj hi hb => ?_⟩
          · by_cases e : j = k
            · subst e; rw [hcellk]; exact Int.le_trans (a2 v hv) (r2.ge v hv)
            · rw [hcell j v (by omega)]; exact w.ok.nn j v (by omega) hv
          · obtain ⟨⟨e0, e1⟩, ⟨p0, p1⟩, s0, s1⟩ := hl.el i hi
            by_cases e : (l.getD i TFirst.d).period = (k : Int)
            · rw [e, Int.toNat_natCast, hcellk]
              exact Int.le_trans (a3 i hi e) (r2.ge _ (by omega))
            · rw [hcell _ _ (by omega)]
              exact w.ok.fi i hi (by omega)
          · have hx := hg.lk i hi
            have hf0 := hx.f0
            have hf1 := hx.f1
            have hb0 := hx.b0
            have hb3 := hx.b1
            by_cases e : j = k
            · subst e
              rw [hcellk]
              by_cases b0 : (g.links.getD i TLink.d).back = 0
              · rw [b0]
                show cell (R ++ [r]) j _ - _ ≤ _
                rw [hcellk]
                exact r2.b0 i hi b0
              · rw [hcell _ _ (by omega)]
                have := r2.bk i hi (by omega) (by omega)
                rw [w.be _ (by omega)] at this
                have e : j - 1 - ((g.links.getD i TLink.d).back - 1).toNat = j - (g.links.getD i TLink.d).back.toNat := by omega
                rw [e] at this
                exact this
            · rw [hcell _ _ (by omega), hcell _ _ (by omega)]
              exact w.ok.cl j i (by omega) hi hb
        up := fun Y hY j v hj hv => by
          by_cases e : j = k
          · subst e; rw [hcellk]; exact r3 _ (hRowY Y hY) v hv
          · rw [hcell j v (by omega)]; exact w.up Y hY j v (by omega) hv }
  · rintro ⟨R, bf, y⟩ ⟨rfl, w⟩
    unfold B19_18
    have : decide ((P : Int) < (P : Int)) = false := by simp
    rw [this]
    exact ⟨.inr R, rfl, ⟨w.shp, w.ok, w.up⟩⟩

end
/-! ### the reference: cell by cell until nothing changes -/

section
variable {g : TRound}

theorem cell_set {m : List (List Int)} {k : Nat} {t : Nat} {d : Int} (hk : k < m.length) (ht : t < (m.getD k []).length) (k' v : Nat) :
    cell (m.set k ((m.getD k []).set t d)) k' v = if k' = k ∧ v = t then d else cell m k' v := by
  unfold cell
  rw [lgetD_set]
  by_cases e : k = k'
  · subst e
    rw [if_pos ⟨rfl, hk⟩, lgetD_set]
    by_cases e2 : t = v
    · subst e2; rw [if_pos ⟨rfl, ht⟩, if_pos ⟨rfl, rfl⟩]
    · rw [if_neg (by omega), if_neg (by omega)]
  · rw [if_neg (by omega), if_neg (by omega)]

theorem Shp.set {n P : Nat} {m : List (List Int)} (h : Shp n P m) {k t : Nat} {d : Int} : Shp n P (m.set k ((m.getD k []).set t d)) := by
  refine ⟨by rw [lset_len]; exact h.len, fun j hj => ?_⟩
  rw [lgetD_set]
  split
  · rename_i e; rw [lset_len, e.1]; exact h.row j hj
  · exact h.row j hj

theorem L22_3_ret (hn1 : g.plan.length ≤ 8) {P : Nat} (hP : P ≤ 60) : Ret (L22_3 g (P : Int) (0, List.replicate P [])) fun m => Shp g.plan.length P m ∧ ∀ k v, k < P → v < g.plan.length → cell m k v = 0 := by
  unfold L22_3
  refine Ret.loop P (fun i s => s.1 = (i : Int) ∧ s.2.length = P ∧ (∀ k, k < i → s.2.getD k [] = List.replicate g.plan.length 0)) ⟨rfl, by simp, fun k hk => by omega⟩ ?_ ?_
  · rintro i ⟨y, m⟩ hi ⟨rfl, h1, h2⟩
    simp only at h1 h2
    unfold B22_3
    simp (disch := omega) only [Ret_some, Ret_none, Ret_bind, Ret_asrt, Ret_cond, Sum.elim_inl, Sum.elim_inr, decide_eq_true_eq, decide_eq_false_iff_not, Bool.not_eq_true', Bool.not_not, Bool.and_eq_true, Bool.or_eq_true, Bool.true_eq_false, Bool.false_eq_true, Bool.not_true, Bool.not_false, if_true, if_false, ite_true, ite_false, true_and, and_true, false_and, and_false, Int.toNat_natCast, toN_succ, Int.ofNat_eq_natCast, Int.ofNat_toNat, Nat.zero_add, Nat.add_zero, not_true_eq_false, not_false_eq_true, implies_true, wr64]
    rw [if_pos (by omega)]
    refine ⟨by omega, by omega, by omega, by omega, by rw [lset_len]; exact h1, forall_lt_succ.2 ⟨fun k hk => ?_, ?_⟩⟩
    · rw [lgetD_set, if_neg (by omega)]; exact h2 k hk
    · rw [lgetD_set, if_pos ⟨rfl, by omega⟩]; rfl
  · rintro ⟨y, m⟩ ⟨rfl, h1, h2⟩
    simp only at h1 h2
    unfold B22_3
    simp (disch := omega) only [Ret_some, Ret_none, Ret_bind, Ret_asrt, Ret_cond, Sum.elim_inl, Sum.elim_inr, decide_eq_true_eq, decide_eq_false_iff_not, Bool.not_eq_true', Bool.not_not, Bool.and_eq_true, Bool.or_eq_true, Bool.true_eq_false, Bool.false_eq_true, Bool.not_true, Bool.not_false, if_true, if_false, ite_true, ite_false, true_and, and_true, false_and, and_false, Int.toNat_natCast, toN_succ, Int.ofNat_eq_natCast, Int.ofNat_toNat, Nat.zero_add, Nat.add_zero, not_true_eq_false, not_false_eq_true, implies_true, wr64]
    rw [if_neg (by omega)]
    refine ⟨⟨h1, fun k hk => by rw [h2 k hk]; simp⟩, fun k v hk hv => ?_⟩
    unfold cell
    rw [h2 k hk, getD_rep hv]

theorem L22_8_ret (hn1 : g.plan.length ≤ 8) {l : List TFirst} (hl : FOk g l) {P : Nat} (hP : P ≤ 60) {m : List (List Int)} (hm : Shp g.plan.length P m) (hz : ∀ k v, k < P → v < g.plan.length → cell m k v = 0) :
    Ret (L22_8 l (P : Int) (0, m)) fun q => Shp g.plan.length P q ∧ (∀ k v, k < P → v < g.plan.length → 0 ≤ cell q k v) ∧ (∀ i, i < l.length → (l.getD i TFirst.d).period < (P : Int) → (l.getD i TFirst.d).secs ≤ cell q (l.getD i TFirst.d).period.toNat (l.getD i TFirst.d).event.toNat) ∧ ∀ Y, SpOk g l P Y → ∀ k v, k < P → v < g.plan.length → cell q k v ≤ Y k v := by
  have hll := hl.len
  unfold L22_8
  refine Ret.loop l.length (fun i s => s.1 = (i : Int) ∧ Shp g.plan.length P s.2 ∧ (∀ k v, k < P → v < g.plan.length → 0 ≤ cell s.2 k v) ∧ (∀ j, j < i → (l.getD j TFirst.d).period < (P : Int) → (l.getD j TFirst.d).secs ≤ cell s.2 (l.getD j TFirst.d).period.toNat (l.getD j TFirst.d).event.toNat) ∧ ∀ Y, SpOk g l P Y → ∀ k v, k < P → v < g.plan.length → cell s.2 k v ≤ Y k v)
    ⟨rfl, hm, fun k v hk hv => by simp only; rw [hz k v hk hv]; omega, fun j hj => by omega, fun Y hY k v hk hv => by simp only; rw [hz k v hk hv]; exact hY.nn k v hk hv⟩ ?_ ?_
  · rintro i ⟨y, q⟩ hi ⟨rfl, h1, h2, h3, h4⟩
    simp only at h1 h2 h3 h4
    obtain ⟨⟨e0, e1⟩, ⟨p0, p1⟩, s0, s1⟩ := hl.el i hi
    obtain ⟨x, hxx⟩ : ∃ x, l.getD i TFirst.d = x := ⟨_, rfl⟩
    rw [hxx] at e0 e1 p0 p1 s0 s1
    have hql := h1.len
    unfold B22_8
    simp only [Int.toNat_natCast, hxx]
    simp (disch := omega) only [Ret_some, Ret_none, Ret_bind, Ret_asrt, Ret_cond, Sum.elim_inl, Sum.elim_inr, decide_eq_true_eq, decide_eq_false_iff_not, Bool.not_eq_true', Bool.not_not, Bool.and_eq_true, Bool.or_eq_true, Bool.true_eq_false, Bool.false_eq_true, Bool.not_true, Bool.not_false, if_true, if_false, ite_true, ite_false, true_and, and_true, false_and, and_false, Int.toNat_natCast, toN_succ, Int.ofNat_eq_natCast, Int.ofNat_toNat, Nat.zero_add, Nat.add_zero, not_true_eq_false, not_false_eq_true, implies_true, wr64, tblM]
    rw [if_pos (by omega)]
    refine ⟨by omega, ?_⟩
    split
    · rename_i c
      have hrow := h1.row x.period.toNat (by omega)
      have hcs := cell_set (m := q) (k := x.period.toNat) (t := x.event.toNat) (d := max ((q.getD x.period.toNat []).getD x.event.toNat 0) x.secs) (by omega) (by omega)
      have hmx : (q.getD x.period.toNat []).getD x.event.toNat 0 = cell q x.period.toNat x.event.toNat := rfl
      have hup : ∀ k v, cell q k v ≤ cell (q.set x.period.toNat ((q.getD x.period.toNat []).set x.event.toNat (max ((q.getD x.period.toNat []).getD x.event.toNat 0) x.secs))) k v := fun k v => by
        rw [hcs]
        split
        · rename_i e; rw [e.1, e.2, hmx]; omega
        · exact Int.le_refl _
      refine ⟨by omega, by omega, by omega, by omega, by omega, h1.set, fun k v hk hv => Int.le_trans (h2 k v hk hv) (hup k v), forall_lt_succ.2 ⟨fun j hj hp => Int.le_trans (h3 j hj hp) (hup _ _), fun _ => ?_⟩, fun Y hY k v hk hv => ?_⟩
      · rw [hxx, hcs, if_pos ⟨rfl, rfl⟩]
        omega
      · rw [hcs]
        split
        · rename_i e
          have q1 := h4 Y hY k v hk hv
          have q2 := hY.fi i hi (by rw [hxx]; exact c)
          rw [hxx] at q2
          rw [e.1, e.2] at q1 ⊢
          rw [hmx]
          omega
        · exact h4 Y hY k v hk hv
    · rename_i c
      exact ⟨by omega, h1, h2, forall_lt_succ.2 ⟨h3, fun e => by rw [hxx] at e; exact absurd e c⟩, h4⟩
  · rintro ⟨y, q⟩ ⟨rfl, h1, h2, h3, h4⟩
    unfold B22_8
    simp (disch := omega) only [Ret_some, Ret_none, Ret_bind, Ret_asrt, Ret_cond, Sum.elim_inl, Sum.elim_inr, decide_eq_true_eq, decide_eq_false_iff_not, Bool.not_eq_true', Bool.not_not, Bool.and_eq_true, Bool.or_eq_true, Bool.true_eq_false, Bool.false_eq_true, Bool.not_true, Bool.not_false, if_true, if_false, ite_true, ite_false, true_and, and_true, false_and, and_false, Int.toNat_natCast, toN_succ, Int.ofNat_eq_natCast, Int.ofNat_toNat, Nat.zero_add, Nat.add_zero, not_true_eq_false, not_false_eq_true, implies_true, wr64]
    rw [if_neg (by omega)]
    exact ⟨h1, h2, h3, h4⟩

/-- does the link ask for no more there? -/
def Fine2 (g : TRound) (m : List (List Int)) (k i : Nat) : Prop :=
  (g.links.getD i TLink.d).back ≤ (k : Int) → cell m (k - (g.links.getD i TLink.d).back.toNat) (g.links.getD i TLink.d).from0.toNat - slk g (g.links.getD i TLink.d) ≤ cell m k (g.links.getD i TLink.d).to0.toNat

/-- what holds within a pass -/
structure PR (g : TRound) (l : List TFirst) (P : Nat) (lo : Nat → Nat → Int) (m : List (List Int)) (fl : Bool) (q : List (List Int)) (done : Nat → Nat → Prop) : Prop where
  shp : Shp g.plan.length P q
  lo : ∀ k v, k < P → v < g.plan.length → lo k v ≤ cell q k v
  up : ∀ Y, SpOk g l P Y → ∀ k v, k < P → v < g.plan.length → cell q k v ≤ Y k v
  no : fl = false → q = m ∧ ∀ k i, i < g.links.length → done k i → Fine2 g m k i
  yes : fl = true → msr2 q < msr2 m

theorem L22_20_ret (hg : ROk g) {l : List TFirst} (hl : FOk g l) {P : Nat} (hP : P ≤ 60) {lo : Nat → Nat → Int} (hlo : ∀ k v, k < P → v < g.plan.length → 0 ≤ lo k v) {m : List (List Int)} {k : Nat} (hk : k < P) {fl0 : Bool} {q0 : List (List Int)} (h0 : PR g l P lo m fl0 q0 fun k' _ => k' < k) :
    Ret (L22_20 g (k : Int) (fl0, 0, q0)) fun o => PR g l P lo m o.1 o.2 fun k' _ => k' < k + 1 := by
  have hll := hg.ll
  unfold L22_20
  refine Ret.loop g.links.length (fun i s => s.2.1 = (i : Int) ∧ PR g l P lo m s.1 s.2.2 fun k' j => k' < k ∨ (k' = k ∧ j < i))
    ⟨rfl, ⟨h0.shp, h0.lo, h0.up, fun e => ⟨(h0.no e).1, fun k' j hj hd => (h0.no e).2 k' j hj (by omega)⟩, h0.yes⟩⟩ ?_ ?_
  · rintro i ⟨fl, y, q⟩ hi ⟨rfl, w⟩
    simp only at w
    obtain ⟨x, hxx⟩ : ∃ x, g.links.getD i TLink.d = x := ⟨_, rfl⟩
    have hx := hg.lk i hi
    rw [hxx] at hx
    have hf0 := hx.f0
    have hf1 := hx.f1
    have ht0 := hx.t0
    have ht1 := hx.t1
    have hb0 := hx.b0
    have hb1 := hx.b1
    have hs0 := hx.s0
    have hs1 := hx.s1
    have hsl : F52 g x = some (slk g x) := (F52_eq hg.toRNum hx.toLNum).1
    have hql := w.shp.len
    have hfine : Fine2 g q k i ↔ (x.back ≤ (k : Int) → cell q (k - x.back.toNat) x.from0.toNat - slk g x ≤ cell q k x.to0.toNat) := by unfold Fine2; rw [hxx]
    -- nothing changes
    have hkeep : Fine2 g q k i → PR g l P lo m fl q fun k' j => k' < k ∨ (k' = k ∧ j < i + 1) := fun hf =>
      ⟨w.shp, w.lo, w.up, fun e => ⟨(w.no e).1, fun k' j hj hd => by
        by_cases c : k' = k ∧ j = i
        · obtain ⟨rfl, rfl⟩ := c
          have := (w.no e).1
          subst this
          exact hf
        · exact (w.no e).2 k' j hj (by omega)⟩, w.yes⟩
    unfold B22_20
    simp only [Int.toNat_natCast, hxx, hsl]
    have hi' : decide ((i : Int) < (g.links.length : Int)) = true := by simp; omega
    rw [hi', cond_true, asrt_eq (by omega)]
    by_cases c0 : (k : Int) < x.back
    · simp only [c0, decide_true, cond_true]
      rw [wr64 (by omega) (by omega)]
      exact ⟨_, rfl, by simp, hkeep (hfine.2 fun e => by omega)⟩
    · have ekb : ((k : Int) - x.back).toNat = k - x.back.toNat := by omega
      have hrow := w.shp.row (k - x.back.toNat) (by omega)
      have hrowk := w.shp.row k hk
      have hv0 := w.lo (k - x.back.toNat) x.from0.toNat (by omega) (by omega)
      have hv1 := hlo (k - x.back.toNat) x.from0.toNat (by omega) (by omega)
      have hv2 := w.up _ (SpOk.top hg hl) (k - x.back.toNat) x.from0.toNat (by omega) (by omega)
      have hcf : (q.getD (k - x.back.toNat) []).getD x.from0.toNat 0 = cell q (k - x.back.toNat) x.from0.toNat := rfl
      have hct : (q.getD k []).getD x.to0.toNat 0 = cell q k x.to0.toNat := rfl
      simp only [c0, decide_false, cond_false]
      simp (disch := omega) only [Ret_some, Ret_none, Ret_bind, Ret_asrt, Ret_cond, Sum.elim_inl, Sum.elim_inr, decide_eq_true_eq, decide_eq_false_iff_not, Bool.not_eq_true', Bool.not_not, Bool.and_eq_true, Bool.or_eq_true, Bool.true_eq_false, Bool.false_eq_true, Bool.not_true, Bool.not_false, if_true, if_false, ite_true, ite_false, true_and, and_true, false_and, and_false, Int.toNat_natCast, toN_succ, Int.ofNat_eq_natCast, Int.ofNat_toNat, Nat.zero_add, Nat.add_zero, not_true_eq_false, not_false_eq_true, implies_true, wr64, tblM, ekb, hcf, hct]
      refine ⟨by omega, by omega, by omega, by omega, by omega, by omega, by omega, by omega, ?_⟩
      split
      · rename_i c2
        have hd : ∀ Y, SpOk g l P Y → cell q (k - x.back.toNat) x.from0.toNat - slk g x ≤ Y k x.to0.toNat := fun Y hY => by
          have h5 := hY.cl k i hk hi (by rw [hxx]; omega)
          rw [hxx] at h5
          have := w.up Y hY (k - x.back.toNat) x.from0.toNat (by omega) (by omega)
          omega
        have hcs := cell_set (m := q) (k := k) (t := x.to0.toNat) (d := cell q (k - x.back.toNat) x.from0.toNat - slk g x) (by omega) (by omega)
        have hms : msr2 (q.set k ((q.getD k []).set x.to0.toNat (cell q (k - x.back.toNat) x.from0.toNat - slk g x))) < msr2 q := msr2_set (by omega) (msr_set (by omega) c2 (hd _ (SpOk.top hg hl)))
        refine ⟨by omega, by omega, by omega, by omega, by omega, ?_⟩
        refine ⟨w.shp.set, fun k' v hk' hv => ?_, fun Y hY k' v hk' hv => ?_, fun e => (by cases e), fun _ => ?_⟩
        · rw [hcs]
          have := w.lo k' v hk' hv
          split
          · rename_i e; rw [e.1, e.2] at this ⊢; omega
          · exact this
        · rw [hcs]
          split
          · rename_i e; rw [e.1, e.2]; exact hd Y hY
          · exact w.up Y hY k' v hk' hv
        · by_cases e : fl = true
          · have := w.yes e; omega
          · have e' : fl = false := by simpa using e
            have := (w.no e').1
            subst this
            exact hms
      · rename_i c2
        exact ⟨by omega, hkeep (hfine.2 fun _ => by omega)⟩
  · rintro ⟨fl, y, q⟩ ⟨rfl, w⟩
    unfold B22_20
    simp (disch := omega) only [Ret_some, Ret_none, Ret_bind, Ret_asrt, Ret_cond, Sum.elim_inl, Sum.elim_inr, decide_eq_true_eq, decide_eq_false_iff_not, Bool.not_eq_true', Bool.not_not, Bool.and_eq_true, Bool.or_eq_true, Bool.true_eq_false, Bool.false_eq_true, Bool.not_true, Bool.not_false, if_true, if_false, ite_true, ite_false, true_and, and_true, false_and, and_false, Int.toNat_natCast, toN_succ, Int.ofNat_eq_natCast, Int.ofNat_toNat, Nat.zero_add, Nat.add_zero, not_true_eq_false, not_false_eq_true, implies_true, wr64]
    rw [if_neg (by omega)]
    exact ⟨w.shp, w.lo, w.up, fun e => ⟨(w.no e).1, fun k' j hj hd => (w.no e).2 k' j hj (by omega)⟩, w.yes⟩

theorem L22_14_ret (hg : ROk g) {l : List TFirst} (hl : FOk g l) {P : Nat} (hP : P ≤ 60) {m : List (List Int)} (hm : Shp g.plan.length P m) (h2 : ∀ k v, k < P → v < g.plan.length → 0 ≤ cell m k v) (h3 : ∀ i, i < l.length → (l.getD i TFirst.d).period < (P : Int) → (l.getD i TFirst.d).secs ≤ cell m (l.getD i TFirst.d).period.toNat (l.getD i TFirst.d).event.toNat) (h4 : ∀ Y, SpOk g l P Y → ∀ k v, k < P → v < g.plan.length → cell m k v ≤ Y k v) :
    Ret (L22_14 g (true, m)) fun q => SpLeast g l P q := by
  unfold L22_14
  refine Ret.while (fun s => Shp g.plan.length P s.2 ∧ (∀ k v, k < P → v < g.plan.length → cell m k v ≤ cell s.2 k v) ∧ (∀ Y, SpOk g l P Y → ∀ k v, k < P → v < g.plan.length → cell s.2 k v ≤ Y k v) ∧ (s.1 = false → ∀ k i, k < P → i < g.links.length → Fine2 g s.2 k i)) (fun s => msr2 s.2 + if s.1 = true then 1 else 0)
    ⟨hm, fun _ _ _ _ => Int.le_refl _, h4, fun h => (by cases h)⟩ ?_
  rintro ⟨fl, q⟩ ⟨k1, k2, k3, k4⟩
  simp only at k1 k2 k3 k4
  unfold B22_14
  rcases fl with _ | _
  · refine Ret_some.2 ⟨k1, ⟨fun k v hk hv => Int.le_trans (h2 k v hk hv) (k2 k v hk hv), fun i hi hp => ?_, fun k i hk hi => k4 rfl k i hk hi⟩, k3⟩
    obtain ⟨⟨e0, e1⟩, ⟨p0, p1⟩, _⟩ := hl.el i hi
    exact Int.le_trans (h3 i hi hp) (k2 _ _ (by omega) (by omega))
  · have hL : Ret (L22_17 g q (false, 0, q)) fun o => PR g l P (cell m) q o.1 o.2 fun k' _ => k' < P := by
      have hql := k1.len
      unfold L22_17
      refine Ret.loop P (fun k s => s.2.1 = (k : Int) ∧ PR g l P (cell m) q s.1 s.2.2 fun k' _ => k' < k) ⟨rfl, ⟨k1, k2, k3, fun _ => ⟨rfl, fun k i _ hd => by omega⟩, fun h => (by cases h)⟩⟩ ?_ ?_
      · rintro k ⟨fl, y, q'⟩ hk ⟨rfl, w⟩
        obtain ⟨o, ho, hp⟩ := L22_20_ret hg hl hP h2 hk w
        unfold B22_17
        simp only [ho]
        simp (disch := omega) only [Ret_some, Ret_none, Ret_bind, Ret_asrt, Ret_cond, Sum.elim_inl, Sum.elim_inr, decide_eq_true_eq, decide_eq_false_iff_not, Bool.not_eq_true', Bool.not_not, Bool.and_eq_true, Bool.or_eq_true, Bool.true_eq_false, Bool.false_eq_true, Bool.not_true, Bool.not_false, if_true, if_false, ite_true, ite_false, true_and, and_true, false_and, and_false, Int.toNat_natCast, toN_succ, Int.ofNat_eq_natCast, Int.ofNat_toNat, Nat.zero_add, Nat.add_zero, not_true_eq_false, not_false_eq_true, implies_true, wr64]
        rw [if_pos (by omega)]
        exact ⟨by omega, hp⟩
      · rintro ⟨fl, y, q'⟩ ⟨rfl, w⟩
        unfold B22_17
        simp (disch := omega) only [Ret_some, Ret_none, Ret_bind, Ret_asrt, Ret_cond, Sum.elim_inl, Sum.elim_inr, decide_eq_true_eq, decide_eq_false_iff_not, Bool.not_eq_true', Bool.not_not, Bool.and_eq_true, Bool.or_eq_true, Bool.true_eq_false, Bool.false_eq_true, Bool.not_true, Bool.not_false, if_true, if_false, ite_true, ite_false, true_and, and_true, false_and, and_false, Int.toNat_natCast, toN_succ, Int.ofNat_eq_natCast, Int.ofNat_toNat, Nat.zero_add, Nat.add_zero, not_true_eq_false, not_false_eq_true, implies_true, wr64]
        rw [if_neg (by omega)]
        exact w
    obtain ⟨o, ho, w⟩ := hL
    simp only [cond_true]
    rw [ho]
    refine Ret_some.2 ⟨⟨w.shp, w.lo, w.up, fun e k i hk hi => ?_⟩, ?_⟩
    · rw [(w.no e).1]; exact (w.no e).2 k i hi hk
    · simp only
      rcases ho1 : o.1 with _ | _
      · rw [(w.no ho1).1]; simp
      · have := w.yes ho1; simp; omega

theorem F22_ret (hg : ROk g) {l : List TFirst} (hl : FOk g l) {P : Nat} (hP : P ≤ 60) : Ret (F22 g l (P : Int)) fun q => SpLeast g l P q := by
  obtain ⟨m, hm, m1, m2⟩ := L22_3_ret (g := g) hg.n1 hP
  obtain ⟨q, hq, q1, q2, q3, q4⟩ := L22_8_ret hg.n1 hl hP m1 m2
  obtain ⟨r, hr, r1⟩ := L22_14_ret hg hl hP q1 q2 q3 q4
  unfold F22
  rw [asrt_eq (by refine ⟨by omega, Int.le_refl _, by omega, by omega⟩), Int.toNat_natCast, hm, Option.bind_some, hq, Option.bind_some, hr, Option.bind_some, asrt_eq (by omega)]
  exact ⟨r, rfl, r1⟩

/-! ### what is wrong with first delays -/

/-- what is wrong with one -/
def ffa (n : Int) (x : TFirst) : Int := if ¬ (0 ≤ x.event ∧ x.event ≤ n - 1) then 3 else if ¬ (0 ≤ x.period ∧ x.period ≤ 59) then 2 else if ¬ (0 ≤ x.secs ∧ x.secs ≤ 28800) then 2 else 0

/-- the first fault -/
def FF (g : TRound) (l : List TFirst) (r : Int) : Prop := (r = 0 ∧ ∀ j, j < l.length → ffa g.plan.length (l.getD j TFirst.d) = 0) ∨ ∃ i, i < l.length ∧ (∀ j, j < i → ffa g.plan.length (l.getD j TFirst.d) = 0) ∧ r = ffa g.plan.length (l.getD i TFirst.d) ∧ r ≠ 0

theorem FF.uniq {l : List TFirst} {r s : Int} (h : FF g l r) (k : FF g l s) : r = s := by
  rcases h with ⟨rfl, h⟩ | ⟨i, hi, h1, h2, h3⟩
  · rcases k with ⟨rfl, _⟩ | ⟨j, hj, _, k2, k3⟩
    · rfl
    · exact absurd (k2.trans (h j hj)) k3
  · rcases k with ⟨rfl, k⟩ | ⟨j, hj, k1, k2, k3⟩
    · exact absurd (h2.trans (k i hi)) h3
    · have : i = j := by
        rcases Nat.lt_trichotomy i j with c | c | c
        · exact absurd (h2.trans (k1 i c)) h3
        · exact c
        · exact absurd (k2.trans (h1 j c)) k3
      subst this
      rw [h2, k2]

theorem L19_9_ret (hn : g.plan.length ≤ 8) {l : List TFirst} (hl : l.length ≤ 20) : Ret (L19_9 g l 0) fun x => match x with | .inl _ => FF g l 0 | .inr r => r.1 = [] ∧ FF g l r.2 ∧ r.2 ≠ 0 := by
  unfold L19_9
  refine Ret.loop l.length (fun i s => s = (i : Int) ∧ ∀ j, j < i → ffa g.plan.length (l.getD j TFirst.d) = 0) ⟨rfl, fun j hj => by omega⟩ ?_ ?_
  · rintro i s hi ⟨rfl, hj⟩
    unfold B19_9
    simp (disch := omega) only [Ret_some, Ret_none, Ret_bind, Ret_asrt, Ret_cond, Sum.elim_inl, Sum.elim_inr, decide_eq_true_eq, decide_eq_false_iff_not, Bool.not_eq_true', Bool.not_not, Bool.and_eq_true, Bool.or_eq_true, Bool.true_eq_false, Bool.false_eq_true, Bool.not_true, Bool.not_false, if_true, if_false, ite_true, ite_false, true_and, and_true, false_and, and_false, Int.toNat_natCast, toN_succ, Int.ofNat_eq_natCast, Int.ofNat_toNat, Nat.zero_add, Nat.add_zero, not_true_eq_false, not_false_eq_true, implies_true, wr64, F54_eq]
    rw [if_pos (by omega)]
    refine ⟨by omega, ?_⟩
    have hff : ∀ r : Int, r ≠ 0 → ffa g.plan.length (l.getD i TFirst.d) = r → FF g l r := fun r h1 h2 => .inr ⟨i, hi, hj, h2.symm, h1⟩
    unfold ffa at hff
    split
    · rename_i c
      refine ⟨hff 3 (by decide) (by rw [if_pos (by simpa using c)]), by decide⟩
    · rename_i c
      split
      · rename_i c2
        refine ⟨hff 2 (by decide) (by rw [if_neg (by simpa using c), if_pos (by simpa using c2)]), by decide⟩
      · rename_i c2
        split
        · rename_i c3
          refine ⟨hff 2 (by decide) (by rw [if_neg (by simpa using c), if_neg (by simpa using c2), if_pos (by simpa using c3)]), by decide⟩
        · rename_i c3
          refine ⟨by omega, forall_lt_succ.2 ⟨hj, ?_⟩⟩
          unfold ffa
          rw [if_neg (by simpa using c), if_neg (by simpa using c2), if_neg (by simpa using c3)]
  · rintro s ⟨rfl, hj⟩
    unfold B19_9
    simp (disch := omega) only [Ret_some, Ret_none, Ret_bind, Ret_asrt, Ret_cond, Sum.elim_inl, Sum.elim_inr, decide_eq_true_eq, decide_eq_false_iff_not, Bool.not_eq_true', Bool.not_not, Bool.and_eq_true, Bool.or_eq_true, Bool.true_eq_false, Bool.false_eq_true, Bool.not_true, Bool.not_false, if_true, if_false, ite_true, ite_false, true_and, and_true, false_and, and_false, Int.toNat_natCast, toN_succ, Int.ofNat_eq_natCast, Int.ofNat_toNat, Nat.zero_add, Nat.add_zero, not_true_eq_false, not_false_eq_true, implies_true, wr64]
    rw [if_neg (by omega)]
    exact .inl ⟨rfl, hj⟩

theorem L20_6_ret (hn : g.plan.length ≤ 8) {l : List TFirst} (hl : l.length ≤ 20) : Ret (L20_6 g l 0) fun x => match x with | .inl _ => FF g l 0 | .inr r => FF g l r ∧ r ≠ 0 := by
  unfold L20_6
  refine Ret.loop l.length (fun i s => s = (i : Int) ∧ ∀ j, j < i → ffa g.plan.length (l.getD j TFirst.d) = 0) ⟨rfl, fun j hj => by omega⟩ ?_ ?_
  · rintro i s hi ⟨rfl, hj⟩
    unfold B20_6
    simp (disch := omega) only [Ret_some, Ret_none, Ret_bind, Ret_asrt, Ret_cond, Sum.elim_inl, Sum.elim_inr, decide_eq_true_eq, decide_eq_false_iff_not, Bool.not_eq_true', Bool.not_not, Bool.and_eq_true, Bool.or_eq_true, Bool.true_eq_false, Bool.false_eq_true, Bool.not_true, Bool.not_false, if_true, if_false, ite_true, ite_false, true_and, and_true, false_and, and_false, Int.toNat_natCast, toN_succ, Int.ofNat_eq_natCast, Int.ofNat_toNat, Nat.zero_add, Nat.add_zero, not_true_eq_false, not_false_eq_true, implies_true, wr64]
    rw [if_pos (by omega)]
    refine ⟨by omega, ?_⟩
    have hff : ∀ r : Int, r ≠ 0 → ffa g.plan.length (l.getD i TFirst.d) = r → FF g l r := fun r h1 h2 => .inr ⟨i, hi, hj, h2.symm, h1⟩
    unfold ffa at hff
    have fin : ∀ r : Int, r ≠ 0 → (if ¬ (0 ≤ (l.getD i TFirst.d).event ∧ (l.getD i TFirst.d).event ≤ (g.plan.length : Int) - 1) then (3 : Int) else if ¬ (0 ≤ (l.getD i TFirst.d).period ∧ (l.getD i TFirst.d).period ≤ 59) then 2 else if ¬ (0 ≤ (l.getD i TFirst.d).secs ∧ (l.getD i TFirst.d).secs ≤ 28800) then 2 else 0) = r → FF g l r ∧ ¬ r = 0 := fun r h1 h2 => ⟨hff r h1 h2, h1⟩
    split
    · exact fin 3 (by decide) (by rw [if_pos (by omega)])
    · split
      · exact fin 3 (by decide) (by rw [if_pos (by omega)])
      · split
        · exact fin 2 (by decide) (by rw [if_neg (by omega), if_pos (by omega)])
        · split
          · exact fin 2 (by decide) (by rw [if_neg (by omega), if_pos (by omega)])
          · split
            · exact fin 2 (by decide) (by rw [if_neg (by omega), if_neg (by omega), if_pos (by omega)])
            · split
              · exact fin 2 (by decide) (by rw [if_neg (by omega), if_neg (by omega), if_pos (by omega)])
              · refine ⟨by omega, forall_lt_succ.2 ⟨hj, ?_⟩⟩
                unfold ffa
                rw [if_neg (by omega), if_neg (by omega), if_neg (by omega)]
  · rintro s ⟨rfl, hj⟩
    unfold B20_6
    simp (disch := omega) only [Ret_some, Ret_none, Ret_bind, Ret_asrt, Ret_cond, Sum.elim_inl, Sum.elim_inr, decide_eq_true_eq, decide_eq_false_iff_not, Bool.not_eq_true', Bool.not_not, Bool.and_eq_true, Bool.or_eq_true, Bool.true_eq_false, Bool.false_eq_true, Bool.not_true, Bool.not_false, if_true, if_false, ite_true, ite_false, true_and, and_true, false_and, and_false, Int.toNat_natCast, toN_succ, Int.ofNat_eq_natCast, Int.ofNat_toNat, Nat.zero_add, Nat.add_zero, not_true_eq_false, not_false_eq_true, implies_true, wr64]
    rw [if_neg (by omega)]
    exact .inl ⟨rfl, hj⟩

theorem FF.ok {l : List TFirst} (h : FF g l 0) (hl : l.length ≤ 20) : FOk g l := by
  rcases h with ⟨_, h⟩ | ⟨i, _, _, _, h⟩
  · refine ⟨hl, fun i hi => ?_⟩
    have := h i hi
    unfold ffa at this
    split at this
    · cases this
    · split at this
      · cases this
      · split at this
        · cases this
        · refine ⟨?_, ?_, ?_⟩ <;> omega
  · exact absurd rfl h

/-! ### lists of lists, compared with themselves -/

theorem F28_refl {l : List Int} (hl : l.length ≤ 100000) : F28 l l = some true := by
  refine Ret.eq ?_
  unfold F28
  simp (disch := omega) only [Ret_some, Ret_none, Ret_bind, Ret_asrt, Ret_cond, Sum.elim_inl, Sum.elim_inr, decide_eq_true_eq, decide_eq_false_iff_not, Bool.not_eq_true', Bool.not_not, Bool.and_eq_true, Bool.or_eq_true, Bool.true_eq_false, Bool.false_eq_true, Bool.not_true, Bool.not_false, if_true, if_false, ite_true, ite_false, true_and, and_true, false_and, and_false, Int.toNat_natCast, toN_succ, Int.ofNat_eq_natCast, Int.ofNat_toNat, Nat.zero_add, Nat.add_zero, not_true_eq_false, not_false_eq_true, implies_true, wr64]
  unfold L28_4
  refine Ret.loop l.length (fun i s => s = (i : Int)) rfl ?_ ?_
  · rintro i s hi rfl
    unfold B28_4
    simp (disch := omega) only [Ret_some, Ret_none, Ret_bind, Ret_asrt, Ret_cond, Sum.elim_inl, Sum.elim_inr, decide_eq_true_eq, decide_eq_false_iff_not, Bool.not_eq_true', Bool.not_not, Bool.and_eq_true, Bool.or_eq_true, Bool.true_eq_false, Bool.false_eq_true, Bool.not_true, Bool.not_false, if_true, if_false, ite_true, ite_false, true_and, and_true, false_and, and_false, Int.toNat_natCast, toN_succ, Int.ofNat_eq_natCast, Int.ofNat_toNat, Nat.zero_add, Nat.add_zero, not_true_eq_false, not_false_eq_true, implies_true, wr64]
    rw [if_pos (by omega)]
    refine ⟨by omega, ?_⟩
    omega
  · rintro s rfl
    unfold B28_4
    simp (disch := omega) only [Ret_some, Ret_none, Ret_bind, Ret_asrt, Ret_cond, Sum.elim_inl, Sum.elim_inr, decide_eq_true_eq, decide_eq_false_iff_not, Bool.not_eq_true', Bool.not_not, Bool.and_eq_true, Bool.or_eq_true, Bool.true_eq_false, Bool.false_eq_true, Bool.not_true, Bool.not_false, if_true, if_false, ite_true, ite_false, true_and, and_true, false_and, and_false, Int.toNat_natCast, toN_succ, Int.ofNat_eq_natCast, Int.ofNat_toNat, Nat.zero_add, Nat.add_zero, not_true_eq_false, not_false_eq_true, implies_true, wr64]
    rw [if_neg (by omega)]
    trivial

theorem F21_refl {l : List (List Int)} (hl : l.length ≤ 1000) (h : ∀ x ∈ l, x.length ≤ 100000) : F21 l l = some true := by
  have : F61 l l = some true := by
    refine Ret.eq ?_
    unfold F61
    simp (disch := omega) only [Ret_some, Ret_none, Ret_bind, Ret_asrt, Ret_cond, Sum.elim_inl, Sum.elim_inr, decide_eq_true_eq, decide_eq_false_iff_not, Bool.not_eq_true', Bool.not_not, Bool.and_eq_true, Bool.or_eq_true, Bool.true_eq_false, Bool.false_eq_true, Bool.not_true, Bool.not_false, if_true, if_false, ite_true, ite_false, true_and, and_true, false_and, and_false, Int.toNat_natCast, toN_succ, Int.ofNat_eq_natCast, Int.ofNat_toNat, Nat.zero_add, Nat.add_zero, not_true_eq_false, not_false_eq_true, implies_true, wr64]
    unfold L61_4
    refine Ret.loop l.length (fun i s => s = (i : Int)) rfl ?_ ?_
    · rintro i s hi rfl
      have := F28_refl (h _ (getD_mem (d := []) hi))
      unfold B61_4
      simp only [Int.toNat_natCast]
      rw [this]
      simp (disch := omega) only [Ret_some, Ret_none, Ret_bind, Ret_asrt, Ret_cond, Sum.elim_inl, Sum.elim_inr, decide_eq_true_eq, decide_eq_false_iff_not, Bool.not_eq_true', Bool.not_not, Bool.and_eq_true, Bool.or_eq_true, Bool.true_eq_false, Bool.false_eq_true, Bool.not_true, Bool.not_false, if_true, if_false, ite_true, ite_false, true_and, and_true, false_and, and_false, Int.toNat_natCast, toN_succ, Int.ofNat_eq_natCast, Int.ofNat_toNat, Nat.zero_add, Nat.add_zero, not_true_eq_false, not_false_eq_true, implies_true, wr64]
      rw [if_pos (by omega)]
      refine ⟨by omega, ?_⟩
      omega
    · rintro s rfl
      unfold B61_4
      simp (disch := omega) only [Ret_some, Ret_none, Ret_bind, Ret_asrt, Ret_cond, Sum.elim_inl, Sum.elim_inr, decide_eq_true_eq, decide_eq_false_iff_not, Bool.not_eq_true', Bool.not_not, Bool.and_eq_true, Bool.or_eq_true, Bool.true_eq_false, Bool.false_eq_true, Bool.not_true, Bool.not_false, if_true, if_false, ite_true, ite_false, true_and, and_true, false_and, and_false, Int.toNat_natCast, toN_succ, Int.ofNat_eq_natCast, Int.ofNat_toNat, Nat.zero_add, Nat.add_zero, not_true_eq_false, not_false_eq_true, implies_true, wr64]
      rw [if_neg (by omega)]
      trivial
  unfold F21
  rw [this]
  rfl

theorem F4_true (a0 : TRound) (a1 : List TFirst) (a2 : Int) : F4 a0 a1 a2 = some true := by
  obtain ⟨r, hr1, hr2, hr3⟩ := F16_ret a0
  unfold F4 F19
  rw [hr1, hr2, show F15 = some true from rfl]
  simp only [Option.bind_some]
  by_cases c : r = 0
  case neg =>
    have e : decide (r = 0) = false := by simp [c]
    simp [e]
  subst c
  have hg := hr3 rfl
  simp only [decide_true, Bool.not_true, cond_false, cond_true, F54_eq, Option.bind_some]
  by_cases c1 : 0 ≤ a2 ∧ a2 ≤ 60
  case neg =>
    have e : F20 a0 a1 a2 = some 2 := by
      unfold F20
      by_cases d : a2 < 0
      · simp [d]
      · have : 60 < a2 := by omega
        simp [d, this]
    rw [e]
    simp [c1]
  obtain ⟨P, rfl⟩ : ∃ P : Nat, a2 = (P : Int) := ⟨a2.toNat, by omega⟩
  have d1 : ¬ (P : Int) < 0 := by omega
  have d2 : ¬ 60 < (P : Int) := by omega
  simp only [c1, and_self, decide_true, Bool.not_true, cond_false]
  unfold F20
  simp only [d1, d2, decide_false, cond_false]
  by_cases c2 : 20 < (a1.length : Int)
  · simp [c2]
  simp only [c2, decide_false, cond_false]
  obtain ⟨x, hx, hxp⟩ := L19_9_ret (g := a0) hg.n1 (l := a1) (by omega)
  obtain ⟨y, hy, hyp⟩ := L20_6_ret (g := a0) hg.n1 (l := a1) (by omega)
  rw [hx, hy]
  rcases x with _ | x <;> rcases y with _ | y
  · have hl := FF.ok hyp (by omega)
    obtain ⟨R, hR, hR1⟩ := L19_18_ret hg hl (P := P) (by omega)
    obtain ⟨Q, hQ, hQ1⟩ := F22_ret hg hl (P := P) (by omega)
    have e := hR1.uniq hQ1
    subst e
    have hf := F21_refl (l := R) (by have := hR1.shp.len; omega) (fun x hx => by
      obtain ⟨i, hi, rfl⟩ := mem_getD [] hx
      have := hR1.shp.len
      have := hR1.shp.row i (by omega)
      have := hg.n1
      omega)
    simp [hR, hQ, hf]
  · exact absurd (FF.uniq hyp.1 hxp) hyp.2
  · exact absurd (FF.uniq hxp.2.1 hyp) hxp.2.2
  · obtain ⟨x1, x2⟩ := x
    obtain ⟨e1, e2, e3⟩ := hxp
    have := FF.uniq e2 hyp.1
    simp only at e1 this e3
    subst e1
    subst this
    simp [e3]

end

end Go.Proofs.Ytecaleolkdoggaa
