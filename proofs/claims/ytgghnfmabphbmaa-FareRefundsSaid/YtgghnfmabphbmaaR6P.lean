/- FareRefunds: what its pure functions return. -/
import Derived.Test.YtgghnfmabphbmaaA21
import Derived.Test.YtgghnfmabphbmaaR6C
open Go Go.Proofs.Ytgghnfmabphbmaa.Fw
namespace Go.Proofs.Ytgghnfmabphbmaa
set_option maxRecDepth 100000
set_option linter.unusedVariables false
set_option linter.unusedSimpArgs false

/-- lists that are not too long -/
def Fit {α : Type} (l : List α) : Prop := l.length < 140737488355328

theorem F79_eq (n a b : Int) : F79 n a b = some (decide (a ≤ n ∧ n ≤ b)) := by
  unfold F79
  by_cases h : a ≤ n <;> simp [h]

theorem F29_ret (price late : Int) (l : List TBack) (hl : Fit l) : Ret (F29 price late l) fun _ => True := by
  unfold Fit at hl
  unfold F29 L29_7
  simp (disch := omega) only [Ret_some, Ret_none, Ret_bind, Ret_asrt, Ret_cond, Sum.elim_inl, Sum.elim_inr, decide_eq_true_eq, decide_eq_false_iff_not, Bool.not_eq_true', Bool.not_not, Bool.and_eq_true, Bool.or_eq_true, Bool.true_eq_false, Bool.false_eq_true, Bool.not_true, Bool.not_false, if_true, if_false, ite_true, ite_false, true_and, and_true, false_and, and_false, Int.toNat_natCast, toN_succ, Int.ofNat_eq_natCast, Int.ofNat_toNat, Nat.zero_add, Nat.add_zero, not_true_eq_false, not_false_eq_true, implies_true, wr64, F79_eq]
  split
  · trivial
  split
  · trivial
  split
  · trivial
  refine Ret.loop l.length (fun i s => s.2 = (i : Int)) rfl ?_ ?_
  · rintro i ⟨v, s⟩ hi h
    simp only at h
    subst h
    unfold B29_7
    simp (disch := omega) only [Ret_some, Ret_none, Ret_bind, Ret_asrt, Ret_cond, Sum.elim_inl, Sum.elim_inr, decide_eq_true_eq, decide_eq_false_iff_not, Bool.not_eq_true', Bool.not_not, Bool.and_eq_true, Bool.or_eq_true, Bool.true_eq_false, Bool.false_eq_true, Bool.not_true, Bool.not_false, if_true, if_false, ite_true, ite_false, true_and, and_true, false_and, and_false, Int.toNat_natCast, toN_succ, Int.ofNat_eq_natCast, Int.ofNat_toNat, Nat.zero_add, Nat.add_zero, not_true_eq_false, not_false_eq_true, implies_true, wr64, F79_eq]
    repeat' (first | trivial | omega | split | (refine ⟨?_, ?_⟩))
  · rintro ⟨v, s⟩ h
    simp only at h
    subst h
    unfold B29_7
    simp (disch := omega) only [Ret_some, Ret_none, Ret_bind, Ret_asrt, Ret_cond, Sum.elim_inl, Sum.elim_inr, decide_eq_true_eq, decide_eq_false_iff_not, Bool.not_eq_true', Bool.not_not, Bool.and_eq_true, Bool.or_eq_true, Bool.true_eq_false, Bool.false_eq_true, Bool.not_true, Bool.not_false, if_true, if_false, ite_true, ite_false, true_and, and_true, false_and, and_false, Int.toNat_natCast, toN_succ, Int.ofNat_eq_natCast, Int.ofNat_toNat, Nat.zero_add, Nat.add_zero, not_true_eq_false, not_false_eq_true, implies_true, wr64, F79_eq]
    repeat' (first | trivial | omega | split | (refine ⟨?_, ?_⟩))

theorem F30_eq (price late : Int) (l : List TBack) : F30 price late l = F29 price late l := rfl

theorem F6_true (price late : Int) (l : List TBack) (hl : Fit l) : F6 price late l = some true := by
  obtain ⟨o, h, _⟩ := F29_ret price late l hl
  unfold F6
  simp [F30_eq, h, F18_eq]

end Go.Proofs.Ytgghnfmabphbmaa
