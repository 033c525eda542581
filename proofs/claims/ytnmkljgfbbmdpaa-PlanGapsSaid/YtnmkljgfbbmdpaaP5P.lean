/- PlanGaps: what its pure functions return. -/
import Derived.Test.YtnmkljgfbbmdpaaA21
import Derived.Test.YtnmkljgfbbmdpaaP5C
import Derived.Test.YtnmkljgfbbmdpaaA18
open Go Go.Proofs.Ytnmkljgfbbmdpaa.Fw
namespace Go.Proofs.Ytnmkljgfbbmdpaa
set_option maxRecDepth 100000
set_option linter.unusedVariables false
set_option linter.unusedSimpArgs false

theorem F26_eq (n a b : Int) : F26 n a b = some (decide (a ≤ n ∧ n ≤ b)) := by
  unfold F26
  by_cases h : a ≤ n <;> simp [h]
theorem F27_eq (n a b : Int) : F27 n a b = some (decide (a ≤ n ∧ n ≤ b)) := F26_eq n a b

theorem B9_6_eq (a0 : TPeriodic) (s : Int) : B9_6 a0 s = B10_6 a0 s := by
  unfold B9_6 B10_6
  simp only [F26_eq, F27_eq, Option.bind_some]
  generalize (a0.rules.getD s.toNat TRule.d).min = lo
  generalize (a0.rules.getD s.toNat TRule.d).max = hi
  generalize IntKind.wrap .i64 (IntKind.wrap .i64 (lo + a0.period) - 1) = w
  by_cases h1 : hi < lo
  · have : ¬(lo ≤ hi ∧ hi ≤ w) := by omega
    simp only [h1, this, decide_true, decide_false, Bool.not_false, cond_true]
  · by_cases h2 : w < hi
    · have : ¬(lo ≤ hi ∧ hi ≤ w) := by omega
      simp only [h1, h2, this, decide_true, decide_false, Bool.not_false, cond_true, cond_false]
    · have : lo ≤ hi ∧ hi ≤ w := by omega
      simp only [h1, h2, this, and_self, decide_true, decide_false, Bool.not_true, cond_false]

theorem F9_eq (a0 : TPeriodic) : F9 a0 = F10 a0 := by
  unfold F9 F10
  have : L9_6 a0 = L10_6 a0 := by
    funext s
    unfold L9_6 L10_6
    exact loopW_congr (B9_6_eq a0) s
  simp only [F26_eq, F27_eq, this]

/-- rules that may be -/
def ruleP (a0 : TPeriodic) (r : TRule) : Prop := (0 ≤ r.from0 ∧ r.from0 ≤ a0.events - 1) ∧ (0 ≤ r.to0 ∧ r.to0 ≤ a0.events - 1) ∧ (0 ≤ r.min ∧ r.min ≤ 3600) ∧ (r.min ≤ r.max ∧ r.max ≤ r.min + a0.period - 1) ∧ (0 ≤ r.weight ∧ r.weight ≤ 1000)
structure goodP (a0 : TPeriodic) : Prop where
  per : 2 ≤ a0.period ∧ a0.period ≤ 3600
  ev : 1 ≤ a0.events ∧ a0.events ≤ 8
  len : a0.rules.length ≤ 40
  rules : ∀ i, i < a0.rules.length → ruleP a0 (a0.rules.getD i TRule.d)

theorem F10_ret (a0 : TPeriodic) : Ret (F10 a0) fun r => r = 0 → goodP a0 := by
  unfold F10
  simp (disch := omega) only [Ret_some, Ret_none, Ret_bind, Ret_asrt, Ret_cond, Sum.elim_inl, Sum.elim_inr, decide_eq_true_eq, decide_eq_false_iff_not, Bool.not_eq_true', Bool.not_not, Bool.and_eq_true, Bool.or_eq_true, Bool.true_eq_false, Bool.false_eq_true, Bool.not_true, Bool.not_false, if_true, if_false, ite_true, ite_false, true_and, and_true, false_and, and_false, Int.toNat_natCast, toN_succ, Int.ofNat_eq_natCast, Int.ofNat_toNat, Nat.zero_add, Nat.add_zero, not_true_eq_false, not_false_eq_true, implies_true, wr64, F27_eq]
  split
  · omega
  · split
    · omega
    · rename_i h1 h2
      split
      · omega
      · refine Ret.mono (Q := fun x => match x with | .inl _ => goodP a0 | .inr r => r ≠ 0) ?_ ?_
        · unfold L10_6
          refine Ret.loop a0.rules.length (fun i s => s = (i : Int) ∧ ∀ j, j < i → ruleP a0 (a0.rules.getD j TRule.d)) ⟨rfl, fun j hj => by omega⟩ ?_ ?_
          · rintro i s hi ⟨rfl, hj⟩
            have e1 : IntKind.wrap .i64 (a0.events - 1) = a0.events - 1 := wr64 (by omega) (by omega)
            unfold B10_6
            simp only [e1]
            by_cases hm : 0 ≤ (a0.rules.getD i TRule.d).min ∧ (a0.rules.getD i TRule.d).min ≤ 3600
            · simp (disch := omega) only [Ret_some, Ret_none, Ret_bind, Ret_asrt, Ret_cond, Sum.elim_inl, Sum.elim_inr, decide_eq_true_eq, decide_eq_false_iff_not, Bool.not_eq_true', Bool.not_not, Bool.and_eq_true, Bool.or_eq_true, Bool.true_eq_false, Bool.false_eq_true, Bool.not_true, Bool.not_false, if_true, if_false, ite_true, ite_false, true_and, and_true, false_and, and_false, Int.toNat_natCast, toN_succ, Int.ofNat_eq_natCast, Int.ofNat_toNat, Nat.zero_add, Nat.add_zero, not_true_eq_false, not_false_eq_true, implies_true, wr64, F27_eq]
              rw [if_pos (by omega)]
              refine ⟨by omega, ?_⟩
              split
              · omega
              · split
                · omega
                · split
                  · omega
                  · split
                    · omega
                    · split
                      · omega
                      · split
                        · omega
                        · refine ⟨by omega, fun j hj2 => ?_⟩
                          by_cases e : j = i
                          · subst e; unfold ruleP; omega
                          · exact hj j (by omega)
            · have c1 : (0 : Int) ≤ (i : Int) ∧ (i : Int) < (a0.rules.length : Int) := by omega
              simp only [F27_eq, Int.toNat_natCast, hm, decide_false, Bool.not_false, cond_true, Option.bind_some, asrt, if_pos c1]
              simp (disch := omega) only [Ret_some, Ret_none, Ret_bind, Ret_asrt, Ret_cond, Sum.elim_inl, Sum.elim_inr, decide_eq_true_eq, decide_eq_false_iff_not, Bool.not_eq_true', Bool.not_not, Bool.and_eq_true, Bool.or_eq_true, Bool.true_eq_false, Bool.false_eq_true, Bool.not_true, Bool.not_false, if_true, if_false, ite_true, ite_false, true_and, and_true, false_and, and_false, Int.toNat_natCast, toN_succ, Int.ofNat_eq_natCast, Int.ofNat_toNat, Nat.zero_add, Nat.add_zero, not_true_eq_false, not_false_eq_true, implies_true, wr64]
              repeat' (first | trivial | omega | split | (refine ⟨?_, ?_⟩))
          · rintro s ⟨rfl, hj⟩
            unfold B10_6
            simp (disch := omega) only [Ret_some, Ret_none, Ret_bind, Ret_asrt, Ret_cond, Sum.elim_inl, Sum.elim_inr, decide_eq_true_eq, decide_eq_false_iff_not, Bool.not_eq_true', Bool.not_not, Bool.and_eq_true, Bool.or_eq_true, Bool.true_eq_false, Bool.false_eq_true, Bool.not_true, Bool.not_false, if_true, if_false, ite_true, ite_false, true_and, and_true, false_and, and_false, Int.toNat_natCast, toN_succ, Int.ofNat_eq_natCast, Int.ofNat_toNat, Nat.zero_add, Nat.add_zero, not_true_eq_false, not_false_eq_true, implies_true, wr64]
            rw [if_neg (by omega)]
            exact ⟨by omega, by omega, by omega, hj⟩
        · rintro (⟨⟩ | r) h
          · exact Ret_some.2 fun _ => h
          · exact Ret_some.2 fun hr => absurd hr h

theorem loop_step {S X : Type} {B : S → Option (S ⊕ X)} {s : S} : loopW B s = (B s).bind (Sum.elim (loopW B) some) := by
  rw [loopW_eq]
  congr 1
  funext o
  cases o <;> rfl

theorem F30_eq (a0 : TPeriodic) (a1 : List Int) : F30 a0 a1 = F17 a0 a1 := by
  unfold F30 F17
  rw [F9_eq]
  rfl

def timesP (a0 : TPeriodic) (a1 : List Int) : Prop := (a1.length : Int) = a0.events ∧ ∀ i, i < a1.length → 0 ≤ a1.getD i 0 ∧ a1.getD i 0 ≤ a0.period - 1

theorem F17_ret (a0 : TPeriodic) (a1 : List Int) : Ret (F17 a0 a1) fun r => r = 0 → goodP a0 ∧ timesP a0 a1 := by
  obtain ⟨x, hx, hg⟩ := F10_ret a0
  unfold F17
  rw [hx]
  by_cases c : x = 0
  · have hgg := hg c
    have hp := hgg.per
    have he := hgg.ev
    subst c
    simp (disch := omega) only [Ret_some, Ret_none, Ret_bind, Ret_asrt, Ret_cond, Sum.elim_inl, Sum.elim_inr, decide_eq_true_eq, decide_eq_false_iff_not, Bool.not_eq_true', Bool.not_not, Bool.and_eq_true, Bool.or_eq_true, Bool.true_eq_false, Bool.false_eq_true, Bool.not_true, Bool.not_false, if_true, if_false, ite_true, ite_false, true_and, and_true, false_and, and_false, Int.toNat_natCast, toN_succ, Int.ofNat_eq_natCast, Int.ofNat_toNat, Nat.zero_add, Nat.add_zero, not_true_eq_false, not_false_eq_true, implies_true, wr64]
    split
    · omega
    · rename_i hl
      refine Ret.mono (Q := fun y => match y with | .inl _ => timesP a0 a1 | .inr r => r ≠ 0) ?_ ?_
      · unfold L17_7
        refine Ret.loop a1.length (fun i s => s = (i : Int) ∧ ∀ j, j < i → 0 ≤ a1.getD j 0 ∧ a1.getD j 0 ≤ a0.period - 1) ⟨rfl, fun j hj => by omega⟩ ?_ ?_
        · rintro i s hi ⟨rfl, hj⟩
          have e1 : IntKind.wrap .i64 (a0.period - 1) = a0.period - 1 := wr64 (by omega) (by omega)
          unfold B17_7
          simp (disch := omega) only [Ret_some, Ret_none, Ret_bind, Ret_asrt, Ret_cond, Sum.elim_inl, Sum.elim_inr, decide_eq_true_eq, decide_eq_false_iff_not, Bool.not_eq_true', Bool.not_not, Bool.and_eq_true, Bool.or_eq_true, Bool.true_eq_false, Bool.false_eq_true, Bool.not_true, Bool.not_false, if_true, if_false, ite_true, ite_false, true_and, and_true, false_and, and_false, Int.toNat_natCast, toN_succ, Int.ofNat_eq_natCast, Int.ofNat_toNat, Nat.zero_add, Nat.add_zero, not_true_eq_false, not_false_eq_true, implies_true, wr64, F27_eq, e1]
          rw [if_pos (by omega)]
          refine ⟨by omega, ?_⟩
          split
          · omega
          · refine ⟨by omega, fun j hj2 => ?_⟩
            by_cases e : j = i
            · subst e; omega
            · exact hj j (by omega)
        · rintro s ⟨rfl, hj⟩
          unfold B17_7
          simp (disch := omega) only [Ret_some, Ret_none, Ret_bind, Ret_asrt, Ret_cond, Sum.elim_inl, Sum.elim_inr, decide_eq_true_eq, decide_eq_false_iff_not, Bool.not_eq_true', Bool.not_not, Bool.and_eq_true, Bool.or_eq_true, Bool.true_eq_false, Bool.false_eq_true, Bool.not_true, Bool.not_false, if_true, if_false, ite_true, ite_false, true_and, and_true, false_and, and_false, Int.toNat_natCast, toN_succ, Int.ofNat_eq_natCast, Int.ofNat_toNat, Nat.zero_add, Nat.add_zero, not_true_eq_false, not_false_eq_true, implies_true, wr64]
          rw [if_neg (by omega)]
          exact ⟨by omega, hj⟩
      · rintro (⟨⟩ | r) h
        · exact Ret_some.2 fun _ => ⟨hgg, h⟩
        · exact Ret_some.2 fun hr => absurd hr h
  · simp only [Option.bind_some, c, decide_false, Bool.not_false, cond_true]
    exact Ret_some.2 fun h => absurd h c

/-! ### gaps -/

theorem tmod_fix {x p : Int} (hp : 0 < p) : (if Int.tmod x p < 0 then Int.tmod x p + p else Int.tmod x p) = x % p := by
  have h1 := Int.emod_nonneg x (show p ≠ 0 by omega)
  have h2 := Int.emod_lt_of_pos x hp
  have h := @Int.tmod_eq_emod x p
  by_cases c : 0 ≤ x ∨ p ∣ x
  · rw [if_pos c] at h
    rw [if_neg (by omega)]; omega
  · rw [if_neg c] at h
    have : x % p ≠ 0 := fun e => c (.inr (Int.dvd_of_emod_eq_zero e))
    rw [if_pos (by omega)]; omega

def gapS (a0 : TPeriodic) (r : TRule) (t : List Int) : Int := r.min + (t.getD r.to0.toNat 0 - t.getD r.from0.toNat 0 - r.min) % a0.period

theorem gap_ret (a0 : TPeriodic) (h : goodP a0) (t : List Int) (ht : timesP a0 t) (r : TRule) (hr : ruleP a0 r) : F31 a0 r t = some (gapS a0 r t) ∧ F20 a0 r t = some (gapS a0 r t) := by
  have hp := h.per
  have he := h.ev
  obtain ⟨hl, htt⟩ := ht
  obtain ⟨r1, r2, r3, r4, r5⟩ := hr
  have t1 := htt r.to0.toNat (by omega)
  have t2 := htt r.from0.toNat (by omega)
  have c1 : 0 ≤ r.to0 ∧ r.to0 < (t.length : Int) := by omega
  have c2 : 0 ≤ r.from0 ∧ r.from0 < (t.length : Int) := by omega
  have hp0 : ¬ a0.period = 0 := by omega
  unfold F31 F20 gapS
  generalize t.getD r.to0.toNat 0 = x at *
  generalize t.getD r.from0.toNat 0 = y at *
  have m1 := Int.emod_nonneg (x - y - r.min) hp0
  have m2 := Int.emod_lt_of_pos (x - y - r.min) (show 0 < a0.period by omega)
  have hf := tmod_fix (x := x - y - r.min) (p := a0.period) (by omega)
  have w1 : IntKind.wrap .i64 (x - y) = x - y := wr64 (by omega) (by omega)
  have w2 : IntKind.wrap .i64 (x - y - r.min) = x - y - r.min := wr64 (by omega) (by omega)
  constructor
  · simp only [asrt, if_pos c1, if_pos c2, hp0, decide_false, Bool.not_false, cond_true, Option.bind_some, w1, w2]
    by_cases c : Int.tmod (x - y - r.min) a0.period < 0
    · rw [if_pos c] at hf
      simp only [c, decide_true, cond_true, hf]
      rw [wr64 (x := (x - y - r.min) % a0.period) (by omega) (by omega), wr64 (x := r.min + (x - y - r.min) % a0.period) (by omega) (by omega)]
    · rw [if_neg c] at hf
      simp only [c, decide_false, cond_false]
      rw [hf, wr64 (x := r.min + (x - y - r.min) % a0.period) (by omega) (by omega)]
  · simp only [asrt, if_pos c1, if_pos c2, Option.bind_some, w1]
    have h1 : Ret (L20_2 a0 r (x - y)) fun q => (q - (x - y)) % a0.period = 0 ∧ r.min ≤ q ∧ q ≤ 20000 := by
      unfold L20_2
      refine Ret.while (fun q => (q - (x - y)) % a0.period = 0 ∧ -3600 ≤ q ∧ q ≤ 10000) (fun q => (r.min - q).toNat) ⟨by simp, by omega, by omega⟩ ?_
      rintro q ⟨g1, g2, g3⟩
      unfold B20_2
      simp (disch := omega) only [Ret_some, Ret_none, Ret_bind, Ret_asrt, Ret_cond, Sum.elim_inl, Sum.elim_inr, decide_eq_true_eq, decide_eq_false_iff_not, Bool.not_eq_true', Bool.not_not, Bool.and_eq_true, Bool.or_eq_true, Bool.true_eq_false, Bool.false_eq_true, Bool.not_true, Bool.not_false, if_true, if_false, ite_true, ite_false, true_and, and_true, false_and, and_false, Int.toNat_natCast, toN_succ, Int.ofNat_eq_natCast, Int.ofNat_toNat, Nat.zero_add, Nat.add_zero, not_true_eq_false, not_false_eq_true, implies_true, wr64]
      split
      · refine ⟨⟨?_, by omega, by omega⟩, by omega⟩
        rw [show q + a0.period - (x - y) = (q - (x - y)) + a0.period by omega, Int.add_emod_right]
        exact g1
      · exact ⟨g1, by omega, by omega⟩
    obtain ⟨q, hq, q1, q2, q3⟩ := h1
    have h2 : Ret (L20_4 a0 r q) fun z => (z - (x - y)) % a0.period = 0 ∧ r.min ≤ z ∧ z < r.min + a0.period := by
      unfold L20_4
      refine Ret.while (fun z => (z - (x - y)) % a0.period = 0 ∧ r.min ≤ z ∧ z ≤ 20000) (fun z => z.toNat) ⟨q1, q2, q3⟩ ?_
      rintro z ⟨g1, g2, g3⟩
      unfold B20_4
      simp (disch := omega) only [Ret_some, Ret_none, Ret_bind, Ret_asrt, Ret_cond, Sum.elim_inl, Sum.elim_inr, decide_eq_true_eq, decide_eq_false_iff_not, Bool.not_eq_true', Bool.not_not, Bool.and_eq_true, Bool.or_eq_true, Bool.true_eq_false, Bool.false_eq_true, Bool.not_true, Bool.not_false, if_true, if_false, ite_true, ite_false, true_and, and_true, false_and, and_false, Int.toNat_natCast, toN_succ, Int.ofNat_eq_natCast, Int.ofNat_toNat, Nat.zero_add, Nat.add_zero, not_true_eq_false, not_false_eq_true, implies_true, wr64]
      split
      · refine ⟨⟨?_, by omega, by omega⟩, by omega⟩
        rw [show z - a0.period - (x - y) = (z - (x - y)) - a0.period by omega, Int.sub_emod_right]
        exact g1
      · exact ⟨g1, by omega, by omega⟩
    obtain ⟨z, hz, z1, z2, z3⟩ := h2
    rw [hq]
    simp only [Option.bind_some, hz]
    congr 1
    have e : (z - r.min) % a0.period = (x - y - r.min) % a0.period := Int.emod_eq_emod_iff_emod_sub_eq_zero.2 (by rw [show z - r.min - (x - y - r.min) = z - (x - y) by omega]; exact z1)
    rw [Int.emod_eq_of_lt (by omega) (by omega)] at e
    omega

theorem broken_ret (a0 : TPeriodic) (h : goodP a0) (t : List Int) (ht : timesP a0 t) : Ret (L32_2 a0.rules (a0, t) 0) fun x => L32b_2 a0.rules (a0, t) 0 = some x := by
  have hl := h.len
  unfold L32_2
  refine Ret.loop a0.rules.length (fun i s => s = (i : Int) ∧ L32b_2 a0.rules (a0, t) 0 = L32b_2 a0.rules (a0, t) (i : Int)) ⟨rfl, rfl⟩ ?_ ?_
  · rintro i s hi ⟨rfl, he⟩
    obtain ⟨g1, g2⟩ := gap_ret a0 h t ht _ (h.rules i hi)
    have hbb : L32b_2 a0.rules (a0, t) (i : Int) = (B32b_2 a0.rules (a0, t) (i : Int)).bind (Sum.elim (L32b_2 a0.rules (a0, t)) some) := loop_step
    have c0 : (i : Int) < (a0.rules.length : Int) := by omega
    have c1 : (0 : Int) ≤ (i : Int) ∧ (i : Int) < (a0.rules.length : Int) := by omega
    have hw : IntKind.wrap .i64 ((i : Int) + 1) = ((i + 1 : Nat) : Int) := by rw [wr64 (by omega) (by omega)]; rfl
    unfold B32b_2 F35 at hbb
    unfold B32_2 F33
    simp only [c0, decide_true, cond_true, asrt, if_pos c1, Int.toNat_natCast, hw, g1, g2, Option.bind_some] at hbb ⊢
    by_cases d : (a0.rules.getD i TRule.d).max < gapS a0 (a0.rules.getD i TRule.d) t
    · simp only [d, decide_true, cond_true, Option.bind_some, Sum.elim_inr] at hbb ⊢
      exact Ret_some.2 (he.trans hbb)
    · simp only [d, decide_false, cond_false, Option.bind_some, Sum.elim_inl] at hbb ⊢
      exact Ret_some.2 ⟨rfl, he.trans hbb⟩
  · rintro s ⟨rfl, he⟩
    have hbb : L32b_2 a0.rules (a0, t) (a0.rules.length : Int) = (B32b_2 a0.rules (a0, t) (a0.rules.length : Int)).bind (Sum.elim (L32b_2 a0.rules (a0, t)) some) := loop_step
    unfold B32b_2 at hbb
    unfold B32_2
    simp only [Int.lt_irrefl, decide_false, cond_false, Option.bind_some, Sum.elim_inr] at hbb ⊢
    exact Ret_some.2 (he.trans hbb)

theorem cost_ret (a0 : TPeriodic) (h : goodP a0) (t : List Int) (ht : timesP a0 t) : Ret (L34_3 a0 t (0, 0)) fun x => L19_3 a0 t (0, 0) = some x := by
  have hl := h.len
  unfold L34_3
  refine Ret.loop a0.rules.length (fun i s => s.2 = (i : Int) ∧ L19_3 a0 t (0, 0) = L19_3 a0 t s) ⟨rfl, rfl⟩ ?_ ?_
  · rintro i ⟨m, u⟩ hi ⟨rfl, he⟩
    obtain ⟨g1, g2⟩ := gap_ret a0 h t ht _ (h.rules i hi)
    have hbb : L19_3 a0 t (m, (i : Int)) = (B19_3 a0 t m (i : Int)).bind (Sum.elim (L19_3 a0 t) some) := loop_step
    have c0 : (i : Int) < (a0.rules.length : Int) := by omega
    have c1 : (0 : Int) ≤ (i : Int) ∧ (i : Int) < (a0.rules.length : Int) := by omega
    have hw : IntKind.wrap .i64 ((i : Int) + 1) = ((i + 1 : Nat) : Int) := by rw [wr64 (by omega) (by omega)]; rfl
    unfold B19_3 at hbb
    unfold B34_3
    simp only [c0, decide_true, cond_true, asrt, if_pos c1, Int.toNat_natCast, hw, g1, g2, Option.bind_some, Sum.elim_inl] at hbb ⊢
    exact Ret_some.2 ⟨rfl, he.trans hbb⟩
  · rintro ⟨m, u⟩ ⟨rfl, he⟩
    have hbb : L19_3 a0 t (m, (a0.rules.length : Int)) = (B19_3 a0 t m (a0.rules.length : Int)).bind (Sum.elim (L19_3 a0 t) some) := loop_step
    unfold B19_3 at hbb
    unfold B34_3
    simp only [Int.lt_irrefl, decide_false, cond_false, Option.bind_some, Sum.elim_inr] at hbb ⊢
    exact Ret_some.2 (he.trans hbb)

theorem F5_true (a0 : TPeriodic) (a1 : Int) (a2 : List Int) : F5 a0 a1 a2 = some true := by
  obtain ⟨r, hr, hg⟩ := F17_ret a0 a2
  unfold F5 F14 F15 F16
  rw [F30_eq, hr, show F8 = some true from rfl]
  simp only [Option.bind_some]
  by_cases c : r = 0
  · obtain ⟨h, ht⟩ := hg c
    subst c
    have hl := h.len
    obtain ⟨x, hx, hx2⟩ := broken_ret a0 h a2 ht
    obtain ⟨y, hy, hy2⟩ := cost_ret a0 h a2 ht
    have hw : IntKind.wrap .i64 ((a0.rules.length : Int) - 1) = (a0.rules.length : Int) - 1 := wr64 (by omega) (by omega)
    unfold F18 F19 F32 F32b F34
    rw [hx, hx2, hy, hy2]
    simp only [Option.bind_some, F26_eq, hw, decide_true, Bool.not_true, cond_false]
    have hX : ∃ q, (Option.some x).bind (Sum.elim (fun (_ : Unit) => some (-1)) fun r_4 => some r_4) = some q := by cases x <;> exact ⟨_, rfl⟩
    obtain ⟨q, hq⟩ := hX
    simp only [Option.bind_some] at hq
    rw [hq]
    by_cases c1 : a1 < 0
    · have : ¬(0 ≤ a1 ∧ a1 ≤ (a0.rules.length : Int) - 1) := by omega
      simp [c1, this]
    · by_cases c2 : (a0.rules.length : Int) ≤ a1
      · have : ¬(0 ≤ a1 ∧ a1 ≤ (a0.rules.length : Int) - 1) := by omega
        simp [c1, c2, this]
      · have d1 : 0 ≤ a1 ∧ a1 ≤ (a0.rules.length : Int) - 1 := by omega
        have d2 : 0 ≤ a1 ∧ a1 < (a0.rules.length : Int) := by omega
        obtain ⟨g1, g2⟩ := gap_ret a0 h a2 ht _ (h.rules a1.toNat (by omega))
        simp only [c1, c2, d1, and_self, decide_true, decide_false, Bool.not_true, cond_false, cond_true, asrt, g1, g2, Option.bind_some]
        simp [d2.2]
  · simp [c]

end Go.Proofs.Ytnmkljgfbbmdpaa
