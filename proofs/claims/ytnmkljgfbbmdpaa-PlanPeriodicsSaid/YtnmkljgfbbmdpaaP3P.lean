/- PlanPeriodics: what its pure functions return. -/
import Derived.Test.YtnmkljgfbbmdpaaA21
import Derived.Test.YtnmkljgfbbmdpaaP3C
import Derived.Test.YtnmkljgfbbmdpaaA18
open Go Go.Proofs.Ytnmkljgfbbmdpaa.Fw
namespace Go.Proofs.Ytnmkljgfbbmdpaa
set_option maxRecDepth 100000
set_option linter.unusedVariables false
set_option linter.unusedSimpArgs false

theorem F26_eq (n a b : Int) : F26 n a b = some (decide (a ≤ n ∧ n ≤ b)) := by
  unfold F26
  by_cases h : a ≤ n <;> simp [h]
theorem F27_eq (n a b : Int) : F27 n a b = some (decide (a ≤ n ∧ n ≤ b)) := F26_eq n a b

theorem B9_6_eq (a0 : TPeriodic) (s : Int) : B9_6 a0 s = B10_6 a0 s := by
  unfold B9_6 B10_6
  simp only [F26_eq, F27_eq, Option.bind_some]
  generalize (a0.rules.getD s.toNat TRule.d).min = lo
  generalize (a0.rules.getD s.toNat TRule.d).max = hi
  generalize IntKind.wrap .i64 (IntKind.wrap .i64 (lo + a0.period) - 1) = w
  by_cases h1 : hi < lo
  · have : ¬(lo ≤ hi ∧ hi ≤ w) := by omega
    simp only [h1, this, decide_true, decide_false, Bool.not_false, cond_true]
  · by_cases h2 : w < hi
    · have : ¬(lo ≤ hi ∧ hi ≤ w) := by omega
      simp only [h1, h2, this, decide_true, decide_false, Bool.not_false, cond_true, cond_false]
    · have : lo ≤ hi ∧ hi ≤ w := by omega
      simp only [h1, h2, this, and_self, decide_true, decide_false, Bool.not_true, cond_false]

theorem F9_eq (a0 : TPeriodic) : F9 a0 = F10 a0 := by
  unfold F9 F10
  have : L9_6 a0 = L10_6 a0 := by
    funext s
    unfold L9_6 L10_6
    exact loopW_congr (B9_6_eq a0) s
  simp only [F26_eq, F27_eq, this]

/-- rules that may be -/
def ruleP (a0 : TPeriodic) (r : TRule) : Prop := (0 ≤ r.from0 ∧ r.from0 ≤ a0.events - 1) ∧ (0 ≤ r.to0 ∧ r.to0 ≤ a0.events - 1) ∧ (0 ≤ r.min ∧ r.min ≤ 3600) ∧ (r.min ≤ r.max ∧ r.max ≤ r.min + a0.period - 1) ∧ (0 ≤ r.weight ∧ r.weight ≤ 1000)
structure goodP (a0 : TPeriodic) : Prop where
  per : 2 ≤ a0.period ∧ a0.period ≤ 3600
  ev : 1 ≤ a0.events ∧ a0.events ≤ 8
  len : a0.rules.length ≤ 40
  rules : ∀ i, i < a0.rules.length → ruleP a0 (a0.rules.getD i TRule.d)

theorem F10_ret (a0 : TPeriodic) : Ret (F10 a0) fun r => r = 0 → goodP a0 := by
  unfold F10
  simp (disch := omega) only [Ret_some, Ret_none, Ret_bind, Ret_asrt, Ret_cond, Sum.elim_inl, Sum.elim_inr, decide_eq_true_eq, decide_eq_false_iff_not, Bool.not_eq_true', Bool.not_not, Bool.and_eq_true, Bool.or_eq_true, Bool.true_eq_false, Bool.false_eq_true, Bool.not_true, Bool.not_false, if_true, if_false, ite_true, ite_false, true_and, and_true, false_and, and_false, Int.toNat_natCast, toN_succ, Int.ofNat_eq_natCast, Int.ofNat_toNat, Nat.zero_add, Nat.add_zero, not_true_eq_false, not_false_eq_true, implies_true, wr64, F27_eq]
  split
  · omega
  · split
    · omega
    · rename_i h1 h2
      split
      · omega
      · refine Ret.mono (Q := fun x => match x with | .inl _ => goodP a0 | .inr r => r ≠ 0) ?_ ?_
        · unfold L10_6
          refine Ret.loop a0.rules.length (fun i s => s = (i : Int) ∧ ∀ j, j < i → ruleP a0 (a0.rules.getD j TRule.d)) ⟨rfl, fun j hj => by omega⟩ ?_ ?_
          · rintro i s hi ⟨rfl, hj⟩
            have e1 : IntKind.wrap .i64 (a0.events - 1) = a0.events - 1 := wr64 (by omega) (by omega)
            unfold B10_6
            simp only [e1]
            by_cases hm : 0 ≤ (a0.rules.getD i TRule.d).min ∧ (a0.rules.getD i TRule.d).min ≤ 3600
            · simp (disch := omega) only [Ret_some, Ret_none, Ret_bind, Ret_asrt, Ret_cond, Sum.elim_inl, Sum.elim_inr, decide_eq_true_eq, decide_eq_false_iff_not, Bool.not_eq_true', Bool.not_not, Bool.and_eq_true, Bool.or_eq_true, Bool.true_eq_false, Bool.false_eq_true, Bool.not_true, Bool.not_false, if_true, if_false, ite_true, ite_false, true_and, and_true, false_and, and_false, Int.toNat_natCast, toN_succ, Int.ofNat_eq_natCast, Int.ofNat_toNat, Nat.zero_add, Nat.add_zero, not_true_eq_false, not_false_eq_true, implies_true, wr64, F27_eq]
              rw [if_pos (by omega)]
              refine ⟨by omega, ?_⟩
              split
              · omega
              · split
                · omega
                · split
                  · omega
                  · split
                    · omega
                    · split
                      · omega
                      · split
                        · omega
                        · refine ⟨by omega, fun j hj2 => ?_⟩
                          by_cases e : j = i
                          · subst e; unfold ruleP; omega
                          · exact hj j (by omega)
            · have c1 : (0 : Int) ≤ (i : Int) ∧ (i : Int) < (a0.rules.length : Int) := by omega
              simp only [F27_eq, Int.toNat_natCast, hm, decide_false, Bool.not_false, cond_true, Option.bind_some, asrt, if_pos c1]
              simp (disch := omega) only [Ret_some, Ret_none, Ret_bind, Ret_asrt, Ret_cond, Sum.elim_inl, Sum.elim_inr, decide_eq_true_eq, decide_eq_false_iff_not, Bool.not_eq_true', Bool.not_not, Bool.and_eq_true, Bool.or_eq_true, Bool.true_eq_false, Bool.false_eq_true, Bool.not_true, Bool.not_false, if_true, if_false, ite_true, ite_false, true_and, and_true, false_and, and_false, Int.toNat_natCast, toN_succ, Int.ofNat_eq_natCast, Int.ofNat_toNat, Nat.zero_add, Nat.add_zero, not_true_eq_false, not_false_eq_true, implies_true, wr64]
              repeat' (first | trivial | omega | split | (refine ⟨?_, ?_⟩))
          · rintro s ⟨rfl, hj⟩
            unfold B10_6
            simp (disch := omega) only [Ret_some, Ret_none, Ret_bind, Ret_asrt, Ret_cond, Sum.elim_inl, Sum.elim_inr, decide_eq_true_eq, decide_eq_false_iff_not, Bool.not_eq_true', Bool.not_not, Bool.and_eq_true, Bool.or_eq_true, Bool.true_eq_false, Bool.false_eq_true, Bool.not_true, Bool.not_false, if_true, if_false, ite_true, ite_false, true_and, and_true, false_and, and_false, Int.toNat_natCast, toN_succ, Int.ofNat_eq_natCast, Int.ofNat_toNat, Nat.zero_add, Nat.add_zero, not_true_eq_false, not_false_eq_true, implies_true, wr64]
            rw [if_neg (by omega)]
            exact ⟨by omega, by omega, by omega, hj⟩
        · rintro (⟨⟩ | r) h
          · exact Ret_some.2 fun _ => h
          · exact Ret_some.2 fun hr => absurd hr h

theorem F3_true (a0 : TPeriodic) : F3 a0 = some true := by
  obtain ⟨r, h1, _⟩ := F10_ret a0
  unfold F3
  rw [F9_eq, h1, show F8 = some true from rfl]
  simp

end Go.Proofs.Ytnmkljgfbbmdpaa
