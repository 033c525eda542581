/- FleetShifts: what its pure functions return. -/
import Derived.Test.YtciflideblafgaaA21
import Derived.Test.YtciflideblafgaaShC
open Go Go.Proofs.Ytciflideblafgaa.Fw
namespace Go.Proofs.Ytciflideblafgaa
set_option maxRecDepth 100000
set_option linter.unusedVariables false
set_option linter.unusedSimpArgs false

theorem F75_eq (n a b : Int) : F75 n a b = some (decide (a ≤ n ∧ n ≤ b)) := by
  unfold F75
  by_cases h : a ≤ n <;> simp [h]

theorem F76_eq (n a b : Int) : F76 n a b = some (decide (a ≤ n ∧ n ≤ b)) := F75_eq n a b

/-- lists that are not too long -/
def Fit {α : Type} (l : List α) : Prop := l.length < 140737488355328

def okS (s : TShift) : Prop := (0 ≤ s.day ∧ s.day ≤ 6) ∧ (0 ≤ s.start ∧ s.start ≤ 28800) ∧ (0 ≤ s.end0 ∧ s.end0 ≤ 28800) ∧ s.start < s.end0

def okSs (l : List TShift) : Prop := l.length ≤ 8 ∧ ∀ i, i < l.length → okS (l.getD i TShift.d)

theorem F36_ret (l : List TShift) (hl : Fit l) : Ret (F36 l) fun e => e = 0 → okSs l := by
  unfold Fit at hl
  unfold F36 L36_4 okSs
  simp (disch := omega) only [Ret_some, Ret_none, Ret_bind, Ret_asrt, Ret_cond, Sum.elim_inl, Sum.elim_inr, decide_eq_true_eq, decide_eq_false_iff_not, Bool.not_eq_true', Bool.not_not, Bool.and_eq_true, Bool.or_eq_true, Bool.true_eq_false, Bool.false_eq_true, Bool.not_true, Bool.not_false, if_true, if_false, ite_true, ite_false, true_and, and_true, false_and, and_false, Int.toNat_natCast, toN_succ, Int.ofNat_eq_natCast, Int.ofNat_toNat, Nat.zero_add, Nat.add_zero, not_true_eq_false, not_false_eq_true, implies_true, wr64]
  split
  · intro h; omega
  refine Ret.loop l.length (fun i s => s = (i : Int) ∧ ∀ j, j < i → okS (l.getD j TShift.d)) ⟨rfl, by omega⟩ ?_ ?_
  · rintro i s hi ⟨rfl, h⟩
    unfold B36_4
    simp (disch := omega) only [Ret_some, Ret_none, Ret_bind, Ret_asrt, Ret_cond, Sum.elim_inl, Sum.elim_inr, decide_eq_true_eq, decide_eq_false_iff_not, Bool.not_eq_true', Bool.not_not, Bool.and_eq_true, Bool.or_eq_true, Bool.true_eq_false, Bool.false_eq_true, Bool.not_true, Bool.not_false, if_true, if_false, ite_true, ite_false, true_and, and_true, false_and, and_false, Int.toNat_natCast, toN_succ, Int.ofNat_eq_natCast, Int.ofNat_toNat, Nat.zero_add, Nat.add_zero, not_true_eq_false, not_false_eq_true, implies_true, wr64, F75_eq]
    grind [okS]
  · rintro s ⟨rfl, h⟩
    unfold B36_4
    simp (disch := omega) only [Ret_some, Ret_none, Ret_bind, Ret_asrt, Ret_cond, Sum.elim_inl, Sum.elim_inr, decide_eq_true_eq, decide_eq_false_iff_not, Bool.not_eq_true', Bool.not_not, Bool.and_eq_true, Bool.or_eq_true, Bool.true_eq_false, Bool.false_eq_true, Bool.not_true, Bool.not_false, if_true, if_false, ite_true, ite_false, true_and, and_true, false_and, and_false, Int.toNat_natCast, toN_succ, Int.ofNat_eq_natCast, Int.ofNat_toNat, Nat.zero_add, Nat.add_zero, not_true_eq_false, not_false_eq_true, implies_true, wr64, F75_eq]
    grind [okS]

theorem F37_eq (l : List TShift) : F37 l = F36 l := rfl

def six (x : TLimits) : List Int := [x.change, x.long, x.work, x.after, x.break0, x.rest]

open Classical in
theorem F46_ret (x : TLimits) : Ret (F46 x) fun e => e = if (∀ i, i < 6 → 0 ≤ (six x).getD i 0 ∧ (six x).getD i 0 ≤ 86400) ∧ 1 ≤ x.row ∧ x.row ≤ 7 then 0 else 2 := by
  unfold F46 L46_2
  simp (disch := omega) only [Ret_some, Ret_none, Ret_bind, Ret_asrt, Ret_cond, Sum.elim_inl, Sum.elim_inr, decide_eq_true_eq, decide_eq_false_iff_not, Bool.not_eq_true', Bool.not_not, Bool.and_eq_true, Bool.or_eq_true, Bool.true_eq_false, Bool.false_eq_true, Bool.not_true, Bool.not_false, if_true, if_false, ite_true, ite_false, true_and, and_true, false_and, and_false, Int.toNat_natCast, toN_succ, Int.ofNat_eq_natCast, Int.ofNat_toNat, Nat.zero_add, Nat.add_zero, not_true_eq_false, not_false_eq_true, implies_true, wr64]
  refine Ret.loop 6 (fun i s => s = (i : Int) ∧ ∀ j, j < i → 0 ≤ (six x).getD j 0 ∧ (six x).getD j 0 ≤ 86400) ⟨rfl, by omega⟩ ?_ ?_
  · rintro i s hi ⟨rfl, h⟩
    unfold B46_2
    simp (disch := omega) only [Ret_some, Ret_none, Ret_bind, Ret_asrt, Ret_cond, Sum.elim_inl, Sum.elim_inr, decide_eq_true_eq, decide_eq_false_iff_not, Bool.not_eq_true', Bool.not_not, Bool.and_eq_true, Bool.or_eq_true, Bool.true_eq_false, Bool.false_eq_true, Bool.not_true, Bool.not_false, if_true, if_false, ite_true, ite_false, true_and, and_true, false_and, and_false, Int.toNat_natCast, toN_succ, Int.ofNat_eq_natCast, Int.ofNat_toNat, Nat.zero_add, Nat.add_zero, not_true_eq_false, not_false_eq_true, implies_true, wr64, F76_eq]
    grind [six]
  · rintro s ⟨rfl, h⟩
    unfold B46_2
    simp (disch := omega) only [Ret_some, Ret_none, Ret_bind, Ret_asrt, Ret_cond, Sum.elim_inl, Sum.elim_inr, decide_eq_true_eq, decide_eq_false_iff_not, Bool.not_eq_true', Bool.not_not, Bool.and_eq_true, Bool.or_eq_true, Bool.true_eq_false, Bool.false_eq_true, Bool.not_true, Bool.not_false, if_true, if_false, ite_true, ite_false, true_and, and_true, false_and, and_false, Int.toNat_natCast, toN_succ, Int.ofNat_eq_natCast, Int.ofNat_toNat, Nat.zero_add, Nat.add_zero, not_true_eq_false, not_false_eq_true, implies_true, wr64, F76_eq]
    grind [six]

open Classical in
theorem F47_ret (x : TLimits) : Ret (F47 x) fun e => e = if (∀ i, i < 6 → 0 ≤ (six x).getD i 0 ∧ (six x).getD i 0 ≤ 86400) ∧ 1 ≤ x.row ∧ x.row ≤ 7 then 0 else 2 := by
  unfold F47 L47_2
  simp (disch := omega) only [Ret_some, Ret_none, Ret_bind, Ret_asrt, Ret_cond, Sum.elim_inl, Sum.elim_inr, decide_eq_true_eq, decide_eq_false_iff_not, Bool.not_eq_true', Bool.not_not, Bool.and_eq_true, Bool.or_eq_true, Bool.true_eq_false, Bool.false_eq_true, Bool.not_true, Bool.not_false, if_true, if_false, ite_true, ite_false, true_and, and_true, false_and, and_false, Int.toNat_natCast, toN_succ, Int.ofNat_eq_natCast, Int.ofNat_toNat, Nat.zero_add, Nat.add_zero, not_true_eq_false, not_false_eq_true, implies_true, wr64]
  refine Ret.loop 6 (fun i s => s = (i : Int) ∧ ∀ j, j < i → 0 ≤ (six x).getD j 0 ∧ (six x).getD j 0 ≤ 86400) ⟨rfl, by omega⟩ ?_ ?_
  · rintro i s hi ⟨rfl, h⟩
    unfold B47_2
    simp (disch := omega) only [Ret_some, Ret_none, Ret_bind, Ret_asrt, Ret_cond, Sum.elim_inl, Sum.elim_inr, decide_eq_true_eq, decide_eq_false_iff_not, Bool.not_eq_true', Bool.not_not, Bool.and_eq_true, Bool.or_eq_true, Bool.true_eq_false, Bool.false_eq_true, Bool.not_true, Bool.not_false, if_true, if_false, ite_true, ite_false, true_and, and_true, false_and, and_false, Int.toNat_natCast, toN_succ, Int.ofNat_eq_natCast, Int.ofNat_toNat, Nat.zero_add, Nat.add_zero, not_true_eq_false, not_false_eq_true, implies_true, wr64, F75_eq]
    grind [six]
  · rintro s ⟨rfl, h⟩
    unfold B47_2
    simp (disch := omega) only [Ret_some, Ret_none, Ret_bind, Ret_asrt, Ret_cond, Sum.elim_inl, Sum.elim_inr, decide_eq_true_eq, decide_eq_false_iff_not, Bool.not_eq_true', Bool.not_not, Bool.and_eq_true, Bool.or_eq_true, Bool.true_eq_false, Bool.false_eq_true, Bool.not_true, Bool.not_false, if_true, if_false, ite_true, ite_false, true_and, and_true, false_and, and_false, Int.toNat_natCast, toN_succ, Int.ofNat_eq_natCast, Int.ofNat_toNat, Nat.zero_add, Nat.add_zero, not_true_eq_false, not_false_eq_true, implies_true, wr64, F75_eq]
    grind [six]

/-- all numbers of a list are numbers of n things -/
def inR (n : Nat) (r : List Int) : Prop := ∀ i, i < r.length → 0 ≤ r.getD i 0 ∧ r.getD i 0 < (n : Int)

def okR (n : Nat) (a : List (List Int)) : Prop := ∀ k, k < a.length → inR n (a.getD k [])

open Classical in
theorem F38_ret (l : List TShift) (a : List (List Int)) (hl : Fit l) (ha : Fit a) (hr : ∀ r ∈ a, Fit r) : Ret (F38 l a) fun e => e = if 4 < a.length then 4 else if okR l.length a then 0 else 2 := by
  unfold Fit at hl ha
  unfold F38 L38_4
  simp (disch := omega) only [Ret_some, Ret_none, Ret_bind, Ret_asrt, Ret_cond, Sum.elim_inl, Sum.elim_inr, decide_eq_true_eq, decide_eq_false_iff_not, Bool.not_eq_true', Bool.not_not, Bool.and_eq_true, Bool.or_eq_true, Bool.true_eq_false, Bool.false_eq_true, Bool.not_true, Bool.not_false, if_true, if_false, ite_true, ite_false, true_and, and_true, false_and, and_false, Int.toNat_natCast, toN_succ, Int.ofNat_eq_natCast, Int.ofNat_toNat, Nat.zero_add, Nat.add_zero, not_true_eq_false, not_false_eq_true, implies_true, wr64]
  split
  · grind
  refine Ret.loop a.length (fun k s => s = (k : Int) ∧ ∀ j, j < k → inR l.length (a.getD j [])) ⟨rfl, by omega⟩ ?_ ?_
  · rintro k s hk ⟨rfl, h⟩
    have hrk : (a.getD k []).length < 140737488355328 := hr _ (getD_mem hk)
    unfold B38_4 L38_7
    simp (disch := omega) only [Ret_some, Ret_none, Ret_bind, Ret_asrt, Ret_cond, Sum.elim_inl, Sum.elim_inr, decide_eq_true_eq, decide_eq_false_iff_not, Bool.not_eq_true', Bool.not_not, Bool.and_eq_true, Bool.or_eq_true, Bool.true_eq_false, Bool.false_eq_true, Bool.not_true, Bool.not_false, if_true, if_false, ite_true, ite_false, true_and, and_true, false_and, and_false, Int.toNat_natCast, toN_succ, Int.ofNat_eq_natCast, Int.ofNat_toNat, Nat.zero_add, Nat.add_zero, not_true_eq_false, not_false_eq_true, implies_true, wr64]
    rw [if_pos (by omega)]
    refine ⟨by omega, ?_⟩
    refine Ret.loop (a.getD k []).length (fun i s => s = (i : Int) ∧ ∀ j, j < i → 0 ≤ (a.getD k []).getD j 0 ∧ (a.getD k []).getD j 0 < (l.length : Int)) ⟨rfl, by omega⟩ ?_ ?_
    · rintro i s hi ⟨rfl, h2⟩
      unfold B38_7
      simp (disch := omega) only [Ret_some, Ret_none, Ret_bind, Ret_asrt, Ret_cond, Sum.elim_inl, Sum.elim_inr, decide_eq_true_eq, decide_eq_false_iff_not, Bool.not_eq_true', Bool.not_not, Bool.and_eq_true, Bool.or_eq_true, Bool.true_eq_false, Bool.false_eq_true, Bool.not_true, Bool.not_false, if_true, if_false, ite_true, ite_false, true_and, and_true, false_and, and_false, Int.toNat_natCast, toN_succ, Int.ofNat_eq_natCast, Int.ofNat_toNat, Nat.zero_add, Nat.add_zero, not_true_eq_false, not_false_eq_true, implies_true, wr64]
      grind [inR, okR]
    · rintro s ⟨rfl, h2⟩
      unfold B38_7
      simp (disch := omega) only [Ret_some, Ret_none, Ret_bind, Ret_asrt, Ret_cond, Sum.elim_inl, Sum.elim_inr, decide_eq_true_eq, decide_eq_false_iff_not, Bool.not_eq_true', Bool.not_not, Bool.and_eq_true, Bool.or_eq_true, Bool.true_eq_false, Bool.false_eq_true, Bool.not_true, Bool.not_false, if_true, if_false, ite_true, ite_false, true_and, and_true, false_and, and_false, Int.toNat_natCast, toN_succ, Int.ofNat_eq_natCast, Int.ofNat_toNat, Nat.zero_add, Nat.add_zero, not_true_eq_false, not_false_eq_true, implies_true, wr64]
      grind [inR, okR]
  · rintro s ⟨rfl, h⟩
    unfold B38_4
    simp (disch := omega) only [Ret_some, Ret_none, Ret_bind, Ret_asrt, Ret_cond, Sum.elim_inl, Sum.elim_inr, decide_eq_true_eq, decide_eq_false_iff_not, Bool.not_eq_true', Bool.not_not, Bool.and_eq_true, Bool.or_eq_true, Bool.true_eq_false, Bool.false_eq_true, Bool.not_true, Bool.not_false, if_true, if_false, ite_true, ite_false, true_and, and_true, false_and, and_false, Int.toNat_natCast, toN_succ, Int.ofNat_eq_natCast, Int.ofNat_toNat, Nat.zero_add, Nat.add_zero, not_true_eq_false, not_false_eq_true, implies_true, wr64]
    grind [inR, okR]

open Classical in
theorem F83_ret (l : List TShift) (a : List (List Int)) (hl : Fit l) (ha : Fit a) (hr : ∀ r ∈ a, Fit r) : Ret (F83 l a) fun e => e = if 4 < a.length then 4 else if okR l.length a then 0 else 2 := by
  unfold Fit at hl ha
  unfold F83 L83_4
  simp (disch := omega) only [Ret_some, Ret_none, Ret_bind, Ret_asrt, Ret_cond, Sum.elim_inl, Sum.elim_inr, decide_eq_true_eq, decide_eq_false_iff_not, Bool.not_eq_true', Bool.not_not, Bool.and_eq_true, Bool.or_eq_true, Bool.true_eq_false, Bool.false_eq_true, Bool.not_true, Bool.not_false, if_true, if_false, ite_true, ite_false, true_and, and_true, false_and, and_false, Int.toNat_natCast, toN_succ, Int.ofNat_eq_natCast, Int.ofNat_toNat, Nat.zero_add, Nat.add_zero, not_true_eq_false, not_false_eq_true, implies_true, wr64]
  split
  · grind
  refine Ret.loop a.length (fun k s => s = (k : Int) ∧ ∀ j, j < k → inR l.length (a.getD j [])) ⟨rfl, by omega⟩ ?_ ?_
  · rintro k s hk ⟨rfl, h⟩
    have hrk : (a.getD k []).length < 140737488355328 := hr _ (getD_mem hk)
    unfold B83_4 L83_7
    simp (disch := omega) only [Ret_some, Ret_none, Ret_bind, Ret_asrt, Ret_cond, Sum.elim_inl, Sum.elim_inr, decide_eq_true_eq, decide_eq_false_iff_not, Bool.not_eq_true', Bool.not_not, Bool.and_eq_true, Bool.or_eq_true, Bool.true_eq_false, Bool.false_eq_true, Bool.not_true, Bool.not_false, if_true, if_false, ite_true, ite_false, true_and, and_true, false_and, and_false, Int.toNat_natCast, toN_succ, Int.ofNat_eq_natCast, Int.ofNat_toNat, Nat.zero_add, Nat.add_zero, not_true_eq_false, not_false_eq_true, implies_true, wr64]
    rw [if_pos (by omega)]
    refine ⟨by omega, ?_⟩
    refine Ret.loop (a.getD k []).length (fun i s => s = (i : Int) ∧ ∀ j, j < i → 0 ≤ (a.getD k []).getD j 0 ∧ (a.getD k []).getD j 0 < (l.length : Int)) ⟨rfl, by omega⟩ ?_ ?_
    · rintro i s hi ⟨rfl, h2⟩
      unfold B83_7
      simp (disch := omega) only [Ret_some, Ret_none, Ret_bind, Ret_asrt, Ret_cond, Sum.elim_inl, Sum.elim_inr, decide_eq_true_eq, decide_eq_false_iff_not, Bool.not_eq_true', Bool.not_not, Bool.and_eq_true, Bool.or_eq_true, Bool.true_eq_false, Bool.false_eq_true, Bool.not_true, Bool.not_false, if_true, if_false, ite_true, ite_false, true_and, and_true, false_and, and_false, Int.toNat_natCast, toN_succ, Int.ofNat_eq_natCast, Int.ofNat_toNat, Nat.zero_add, Nat.add_zero, not_true_eq_false, not_false_eq_true, implies_true, wr64, F76_eq]
      grind [inR, okR]
    · rintro s ⟨rfl, h2⟩
      unfold B83_7
      simp (disch := omega) only [Ret_some, Ret_none, Ret_bind, Ret_asrt, Ret_cond, Sum.elim_inl, Sum.elim_inr, decide_eq_true_eq, decide_eq_false_iff_not, Bool.not_eq_true', Bool.not_not, Bool.and_eq_true, Bool.or_eq_true, Bool.true_eq_false, Bool.false_eq_true, Bool.not_true, Bool.not_false, if_true, if_false, ite_true, ite_false, true_and, and_true, false_and, and_false, Int.toNat_natCast, toN_succ, Int.ofNat_eq_natCast, Int.ofNat_toNat, Nat.zero_add, Nat.add_zero, not_true_eq_false, not_false_eq_true, implies_true, wr64, F76_eq]
      grind [inR, okR]
  · rintro s ⟨rfl, h⟩
    unfold B83_4
    simp (disch := omega) only [Ret_some, Ret_none, Ret_bind, Ret_asrt, Ret_cond, Sum.elim_inl, Sum.elim_inr, decide_eq_true_eq, decide_eq_false_iff_not, Bool.not_eq_true', Bool.not_not, Bool.and_eq_true, Bool.or_eq_true, Bool.true_eq_false, Bool.false_eq_true, Bool.not_true, Bool.not_false, if_true, if_false, ite_true, ite_false, true_and, and_true, false_and, and_false, Int.toNat_natCast, toN_succ, Int.ofNat_eq_natCast, Int.ofNat_toNat, Nat.zero_add, Nat.add_zero, not_true_eq_false, not_false_eq_true, implies_true, wr64]
    grind [inR, okR]

theorem F31_ret (a b : List Int) (ha : Fit a) : Ret (F31 a b) fun e => e = decide (a = b) := by
  unfold Fit at ha
  unfold F31 L31_4
  simp (disch := omega) only [Ret_some, Ret_none, Ret_bind, Ret_asrt, Ret_cond, Sum.elim_inl, Sum.elim_inr, decide_eq_true_eq, decide_eq_false_iff_not, Bool.not_eq_true', Bool.not_not, Bool.and_eq_true, Bool.or_eq_true, Bool.true_eq_false, Bool.false_eq_true, Bool.not_true, Bool.not_false, if_true, if_false, ite_true, ite_false, true_and, and_true, false_and, and_false, Int.toNat_natCast, toN_succ, Int.ofNat_eq_natCast, Int.ofNat_toNat, Nat.zero_add, Nat.add_zero, not_true_eq_false, not_false_eq_true, implies_true, wr64]
  split
  · grind
  refine Ret.loop a.length (fun i s => s = (i : Int) ∧ ∀ j, j < i → a.getD j 0 = b.getD j 0) ⟨rfl, by omega⟩ ?_ ?_
  · rintro i s hi ⟨rfl, h⟩
    unfold B31_4
    simp (disch := omega) only [Ret_some, Ret_none, Ret_bind, Ret_asrt, Ret_cond, Sum.elim_inl, Sum.elim_inr, decide_eq_true_eq, decide_eq_false_iff_not, Bool.not_eq_true', Bool.not_not, Bool.and_eq_true, Bool.or_eq_true, Bool.true_eq_false, Bool.false_eq_true, Bool.not_true, Bool.not_false, if_true, if_false, ite_true, ite_false, true_and, and_true, false_and, and_false, Int.toNat_natCast, toN_succ, Int.ofNat_eq_natCast, Int.ofNat_toNat, Nat.zero_add, Nat.add_zero, not_true_eq_false, not_false_eq_true, implies_true, wr64]
    grind
  · rintro s ⟨rfl, h⟩
    unfold B31_4
    simp (disch := omega) only [Ret_some, Ret_none, Ret_bind, Ret_asrt, Ret_cond, Sum.elim_inl, Sum.elim_inr, decide_eq_true_eq, decide_eq_false_iff_not, Bool.not_eq_true', Bool.not_not, Bool.and_eq_true, Bool.or_eq_true, Bool.true_eq_false, Bool.false_eq_true, Bool.not_true, Bool.not_false, if_true, if_false, ite_true, ite_false, true_and, and_true, false_and, and_false, Int.toNat_natCast, toN_succ, Int.ofNat_eq_natCast, Int.ofNat_toNat, Nat.zero_add, Nat.add_zero, not_true_eq_false, not_false_eq_true, implies_true, wr64]
    have := list_ext_getD (l := a) (m := b) 0
    grind

/-- the shift at place i of a driver's list -/
def shAt (l : List TShift) (r : List Int) (i : Nat) : TShift := l.getD (r.getD i 0).toNat TShift.d

/-- how many of the first i shifts are on a day -/
def cntD (l : List TShift) (r : List Int) (d : Nat) : Nat → Nat
  | 0 => 0
  | i + 1 => cntD l r d i + if (shAt l r i).day = (d : Int) then 1 else 0

theorem cntD_succ (l : List TShift) (r : List Int) (d i : Nat) : cntD l r d (i + 1) = cntD l r d i + if (shAt l r i).day = (d : Int) then 1 else 0 := rfl

theorem cntD_le (l : List TShift) (r : List Int) (d : Nat) : ∀ i, cntD l r d i ≤ i
  | 0 => Nat.le_refl _
  | i + 1 => by have := cntD_le l r d i; unfold cntD; split <;> omega

theorem cntD_pos {l : List TShift} {r : List Int} {d : Nat} : ∀ {i}, 0 < cntD l r d i ↔ ∃ k, k < i ∧ (shAt l r k).day = (d : Int)
  | 0 => by simp [cntD]
  | i + 1 => by
    have := @cntD_pos l r d i
    unfold cntD
    grind

theorem cntD_two {l : List TShift} {r : List Int} {d : Nat} : ∀ {i}, 1 < cntD l r d i ↔ ∃ k j, j < k ∧ k < i ∧ (shAt l r k).day = (d : Int) ∧ (shAt l r j).day = (d : Int)
  | 0 => by simp [cntD]
  | i + 1 => by
    have h2 := @cntD_two l r d i
    have h1 := @cntD_pos l r d i
    unfold cntD
    by_cases c : (shAt l r i).day = (d : Int)
    · rw [if_pos c]
      constructor
      · intro h
        obtain ⟨k, hk, hd⟩ := h1.1 (by omega)
        exact ⟨i, k, hk, by omega, c, hd⟩
      · rintro ⟨k, j, hj, hk, g1, g2⟩
        have := h1.2 ⟨j, by omega, g2⟩
        omega
    · rw [if_neg c, Nat.add_zero, h2]
      constructor
      · rintro ⟨k, j, hj, hk, g⟩
        exact ⟨k, j, hj, by omega, g⟩
      · rintro ⟨k, j, hj, hk, g1, g2⟩
        have : k ≠ i := by rintro rfl; exact c g1
        exact ⟨k, j, hj, by omega, g1, g2⟩

/-- days in a row up to a day -/
def runD (l : List TShift) (r : List Int) : Nat → Nat
  | 0 => 0
  | d + 1 => if cntD l r d r.length = 0 then 0 else runD l r d + 1

theorem runD_succ (l : List TShift) (r : List Int) (d : Nat) : runD l r (d + 1) = if cntD l r d r.length = 0 then 0 else runD l r d + 1 := rfl

theorem runD_le (l : List TShift) (r : List Int) : ∀ d, runD l r d ≤ d
  | 0 => Nat.le_refl _
  | d + 1 => by have := runD_le l r d; unfold runD; split <;> omega

/-- from the end of the earlier one to the beginning of the later one -/
def gapS (p q : TShift) : Int := if q.day < p.day then p.day * 86400 + p.start - q.day * 86400 - q.end0 else q.day * 86400 + q.start - p.day * 86400 - p.end0

def rule2 (l : List TShift) (r : List Int) : Prop := ∃ k j, j < k ∧ k < r.length ∧ (shAt l r k).day = (shAt l r j).day
def rule3 (l : List TShift) (r : List Int) (x : TLimits) : Prop := ∃ k j, j < k ∧ k < r.length ∧ (shAt l r k).day ≠ (shAt l r j).day ∧ gapS (shAt l r k) (shAt l r j) < x.rest
def rule4 (l : List TShift) (r : List Int) (x : TLimits) : Prop := ∃ d, d < 7 ∧ x.row < (runD l r (d + 1) : Int)

theorem shAt_ok {l : List TShift} {r : List Int} (hl : okSs l) (hr : inR l.length r) {i : Nat} (hi : i < r.length) : okS (shAt l r i) := by
  obtain ⟨h1, h2⟩ := hr i hi
  exact hl.2 _ (by omega)

theorem F130_ret (l : List TShift) (r : List Int) (x : TLimits) (hl : okSs l) (hr : inR l.length r) (hf : Fit r) (hx : 1 ≤ x.row) :
    Ret (F130 l r x) fun o => (o.1 = true ↔ rule2 l r) ∧ (o.2.1 = true ↔ rule3 l r x) ∧ (o.2.2 = true ↔ rule4 l r x) := by
  have hd : ∀ i, i < r.length → okS (l.getD (r.getD i 0).toNat TShift.d) := fun i hi => shAt_ok hl hr hi
  unfold Fit at hf
  have hll := hl.1
  unfold F130 L130_3
  simp (disch := omega) only [Ret_some, Ret_none, Ret_bind, Ret_asrt, Ret_cond, Sum.elim_inl, Sum.elim_inr, decide_eq_true_eq, decide_eq_false_iff_not, Bool.not_eq_true', Bool.not_not, Bool.and_eq_true, Bool.or_eq_true, Bool.true_eq_false, Bool.false_eq_true, Bool.not_true, Bool.not_false, if_true, if_false, ite_true, ite_false, true_and, and_true, false_and, and_false, Int.toNat_natCast, toN_succ, Int.ofNat_eq_natCast, Int.ofNat_toNat, Nat.zero_add, Nat.add_zero, not_true_eq_false, not_false_eq_true, implies_true, wr64]
  refine Ret.loop r.length (fun i s => s.2.1 = (i : Int) ∧ s.2.2.length = 7 ∧ (∀ d, d < 7 → s.2.2.getD d 0 = (cntD l r d i : Int)) ∧
    (s.1 = true ↔ ∃ k j, j < k ∧ k < i ∧ (shAt l r k).day ≠ (shAt l r j).day ∧ gapS (shAt l r k) (shAt l r j) < x.rest)) ?_ ?_ ?_
  · refine ⟨rfl, rfl, fun d hd => ?_, by grind⟩
    match d, hd with
    | 0, _ => rfl | 1, _ => rfl | 2, _ => rfl | 3, _ => rfl | 4, _ => rfl | 5, _ => rfl | 6, _ => rfl
  · rintro i ⟨v3, v, m⟩ hi ⟨h1, h2, h3, h4⟩
    simp only at h1 h2 h3 h4
    subst h1
    have hdi := hd i hi
    have hri := hr i hi
    unfold B130_3
    simp (disch := omega) only [Ret_some, Ret_none, Ret_bind, Ret_asrt, Ret_cond, Sum.elim_inl, Sum.elim_inr, decide_eq_true_eq, decide_eq_false_iff_not, Bool.not_eq_true', Bool.not_not, Bool.and_eq_true, Bool.or_eq_true, Bool.true_eq_false, Bool.false_eq_true, Bool.not_true, Bool.not_false, if_true, if_false, ite_true, ite_false, true_and, and_true, false_and, and_false, Int.toNat_natCast, toN_succ, Int.ofNat_eq_natCast, Int.ofNat_toNat, Nat.zero_add, Nat.add_zero, not_true_eq_false, not_false_eq_true, implies_true, wr64, h2, List.length_set]
    rw [if_pos (by omega)]
    refine ⟨by omega, hri, by unfold okS at hdi; omega, by unfold okS at hdi; omega, by omega, ?_⟩
    unfold L130_7
    refine Ret.loop i (fun j s => s.2 = (j : Int) ∧ (s.1 = true ↔ v3 = true ∨ ∃ k, k < j ∧ (shAt l r i).day ≠ (shAt l r k).day ∧ gapS (shAt l r i) (shAt l r k) < x.rest)) ⟨rfl, by grind⟩ ?_ ?_
    · rintro j ⟨w, q⟩ hj ⟨g1, g2⟩
      simp only at g1 g2
      subst g1
      have hdj := hd j (by omega)
      have hrj := hr j (by omega)
      obtain ⟨d1, d2, d3, d4⟩ := hdi
      obtain ⟨f1, f2, f3, f4⟩ := hdj
      unfold B130_7
      simp (disch := omega) only [Ret_some, Ret_none, Ret_bind, Ret_asrt, Ret_cond, Sum.elim_inl, Sum.elim_inr, decide_eq_true_eq, decide_eq_false_iff_not, Bool.not_eq_true', Bool.not_not, Bool.and_eq_true, Bool.or_eq_true, Bool.true_eq_false, Bool.false_eq_true, Bool.not_true, Bool.not_false, if_true, if_false, ite_true, ite_false, true_and, and_true, false_and, and_false, Int.toNat_natCast, toN_succ, Int.ofNat_eq_natCast, Int.ofNat_toNat, Nat.zero_add, Nat.add_zero, not_true_eq_false, not_false_eq_true, implies_true, wr64, Int.sub_zero, List.length_take, getD_take, h2, List.length_set]
      rw [if_pos (by omega)]
      refine ⟨by omega, hri, hrj, ?_⟩
      grind [shAt, gapS]
    · rintro ⟨w, q⟩ ⟨g1, g2⟩
      simp only at g1 g2
      subst g1
      unfold B130_7
      simp (disch := omega) only [Ret_some, Ret_none, Ret_bind, Ret_asrt, Ret_cond, Sum.elim_inl, Sum.elim_inr, decide_eq_true_eq, decide_eq_false_iff_not, Bool.not_eq_true', Bool.not_not, Bool.and_eq_true, Bool.or_eq_true, Bool.true_eq_false, Bool.false_eq_true, Bool.not_true, Bool.not_false, if_true, if_false, ite_true, ite_false, true_and, and_true, false_and, and_false, Int.toNat_natCast, toN_succ, Int.ofNat_eq_natCast, Int.ofNat_toNat, Nat.zero_add, Nat.add_zero, not_true_eq_false, not_false_eq_true, implies_true, wr64, Int.sub_zero, List.length_take, getD_take, h2, List.length_set]
      rw [if_neg (by omega)]
      refine ⟨by omega, fun d hd7 => ?_, ?_⟩
      · have := cntD_le l r ((l.getD (r.getD i 0).toNat TShift.d).day.toNat) i
        obtain ⟨d1, d2, d3, d4⟩ := hdi
        have hd0 := h3 d hd7
        rw [lgetD_set, h3 _ (by omega), wr64 (by omega) (by omega)]
        rw [cntD_succ]
        unfold shAt
        grind
      · rw [g2, h4]
        grind
  · rintro ⟨v3, v, m⟩ ⟨h1, h2, h3, h4⟩
    simp only at h1 h2 h3 h4
    subst h1
    unfold B130_3
    simp (disch := omega) only [Ret_some, Ret_none, Ret_bind, Ret_asrt, Ret_cond, Sum.elim_inl, Sum.elim_inr, decide_eq_true_eq, decide_eq_false_iff_not, Bool.not_eq_true', Bool.not_not, Bool.and_eq_true, Bool.or_eq_true, Bool.true_eq_false, Bool.false_eq_true, Bool.not_true, Bool.not_false, if_true, if_false, ite_true, ite_false, true_and, and_true, false_and, and_false, Int.toNat_natCast, toN_succ, Int.ofNat_eq_natCast, Int.ofNat_toNat, Nat.zero_add, Nat.add_zero, not_true_eq_false, not_false_eq_true, implies_true, wr64, h2]
    rw [if_neg (by omega)]
    unfold L130_17
    refine Ret.loop 7 (fun d s => s.2.2.2 = (d : Int) ∧ s.2.2.1 = (runD l r d : Int) ∧ (s.1 = true ↔ ∃ e, e < d ∧ 1 < cntD l r e r.length) ∧ (s.2.1 = true ↔ ∃ e, e < d ∧ x.row < (runD l r (e + 1) : Int))) ⟨rfl, rfl, by grind, by grind⟩ ?_ ?_
    · rintro d ⟨t2, t4, w, q⟩ hd7 ⟨g1, g2, g3, g4⟩
      simp only at g1 g2 g3 g4
      subst g1 g2
      have := runD_le l r d
      unfold B130_17
      simp (disch := omega) only [Ret_some, Ret_none, Ret_bind, Ret_asrt, Ret_cond, Sum.elim_inl, Sum.elim_inr, decide_eq_true_eq, decide_eq_false_iff_not, Bool.not_eq_true', Bool.not_not, Bool.and_eq_true, Bool.or_eq_true, Bool.true_eq_false, Bool.false_eq_true, Bool.not_true, Bool.not_false, if_true, if_false, ite_true, ite_false, true_and, and_true, false_and, and_false, Int.toNat_natCast, toN_succ, Int.ofNat_eq_natCast, Int.ofNat_toNat, Nat.zero_add, Nat.add_zero, not_true_eq_false, not_false_eq_true, implies_true, wr64, h3 d hd7]
      rw [if_pos (by omega)]
      refine ⟨by omega, ?_⟩
      simp only [exists_lt_succ, ← g3, ← g4]
      rw [runD_succ]
      clear h4 h3 hd
      grind
    · rintro ⟨t2, t4, w, q⟩ ⟨g1, g2, g3, g4⟩
      simp only at g1 g2 g3 g4
      subst g1
      unfold B130_17
      simp (disch := omega) only [Ret_some, Ret_none, Ret_bind, Ret_asrt, Ret_cond, Sum.elim_inl, Sum.elim_inr, decide_eq_true_eq, decide_eq_false_iff_not, Bool.not_eq_true', Bool.not_not, Bool.and_eq_true, Bool.or_eq_true, Bool.true_eq_false, Bool.false_eq_true, Bool.not_true, Bool.not_false, if_true, if_false, ite_true, ite_false, true_and, and_true, false_and, and_false, Int.toNat_natCast, toN_succ, Int.ofNat_eq_natCast, Int.ofNat_toNat, Nat.zero_add, Nat.add_zero, not_true_eq_false, not_false_eq_true, implies_true, wr64]
      rw [if_neg (by omega)]
      refine ⟨?_, ?_, g4⟩
      · rw [g3]
        unfold rule2
        constructor
        · rintro ⟨e, he, h⟩
          obtain ⟨k, j, h1, h2, h5, h6⟩ := cntD_two.1 h
          exact ⟨k, j, h1, h2, h5.trans h6.symm⟩
        · rintro ⟨k, j, h1, h2, h5⟩
          obtain ⟨⟨c1, c2⟩, _⟩ := shAt_ok hl hr h2
          refine ⟨(shAt l r k).day.toNat, by omega, cntD_two.2 ⟨k, j, h1, h2, by omega, by omega⟩⟩
      · rw [h4]
        rfl

/-- how often each shift is given: one driver's list more -/
noncomputable def tally (m : List Int) (r : List Int) : List Int := r.foldl (fun m i => m.set i.toNat (IntKind.wrap .i64 (m.getD i.toNat 0 + 1))) m

theorem tally_len (r : List Int) : ∀ m, (tally m r).length = m.length := by
  unfold tally
  induction r with
  | nil => exact fun m => rfl
  | cons i r ih => intro m; rw [List.foldl_cons, ih, List.length_set]

theorem tally_take {m r : List Int} {i : Nat} (h : i < r.length) : tally m (r.take (i + 1)) = (tally m (r.take i)).set (r.getD i 0).toNat (IntKind.wrap .i64 ((tally m (r.take i)).getD (r.getD i 0).toNat 0 + 1)) := by
  unfold tally
  rw [take_succ' 0 h, List.foldl_append]
  rfl

theorem L85_6_ret (a : List (List Int)) (k n : Nat) (m : List Int) (hm : m.length = n) (hn : n < 140737488355328) (hr : inR n (a.getD k [])) (hf : Fit (a.getD k [])) : L85_6 a k (0, m) = some (tally m (a.getD k [])) := by
  unfold Fit at hf
  refine Ret.eq ?_
  unfold L85_6
  refine Ret.loop (a.getD k []).length (fun i s => s.1 = (i : Int) ∧ s.2 = tally m ((a.getD k []).take i)) ⟨rfl, rfl⟩ ?_ ?_
  · rintro i ⟨v, m'⟩ hi ⟨h1, h2⟩
    simp only at h1 h2
    subst h1 h2
    obtain ⟨r1, r2⟩ := hr i hi
    unfold B85_6
    simp (disch := omega) only [Ret_some, Ret_none, Ret_bind, Ret_asrt, Ret_cond, Sum.elim_inl, Sum.elim_inr, decide_eq_true_eq, decide_eq_false_iff_not, Bool.not_eq_true', Bool.not_not, Bool.and_eq_true, Bool.or_eq_true, Bool.true_eq_false, Bool.false_eq_true, Bool.not_true, Bool.not_false, if_true, if_false, ite_true, ite_false, true_and, and_true, false_and, and_false, Int.toNat_natCast, toN_succ, Int.ofNat_eq_natCast, Int.ofNat_toNat, Nat.zero_add, Nat.add_zero, not_true_eq_false, not_false_eq_true, implies_true, wr64, tally_len, hm, tally_take hi]
    rw [if_pos (by omega)]
    omega
  · rintro ⟨v, m'⟩ ⟨h1, h2⟩
    simp only at h1 h2
    subst h1 h2
    unfold B85_6
    simp (disch := omega) only [Ret_some, Ret_none, Ret_bind, Ret_asrt, Ret_cond, Sum.elim_inl, Sum.elim_inr, decide_eq_true_eq, decide_eq_false_iff_not, Bool.not_eq_true', Bool.not_not, Bool.and_eq_true, Bool.or_eq_true, Bool.true_eq_false, Bool.false_eq_true, Bool.not_true, Bool.not_false, if_true, if_false, ite_true, ite_false, true_and, and_true, false_and, and_false, Int.toNat_natCast, toN_succ, Int.ofNat_eq_natCast, Int.ofNat_toNat, Nat.zero_add, Nat.add_zero, not_true_eq_false, not_false_eq_true, implies_true, wr64]
    rw [if_neg (by omega), List.take_length]

theorem L84_7_eq (a : List (List Int)) (v : Int) (s : Int × List Int) : L84_7 a v s = L85_6 a v s := rfl

/-- how often each shift is given -/
noncomputable def many (n : Nat) (a : List (List Int)) : List Int := a.foldl tally (List.replicate n 0)

theorem many_len (n : Nat) (a : List (List Int)) : (many n a).length = n := by
  unfold many
  have : ∀ (a : List (List Int)) (m : List Int), (a.foldl tally m).length = m.length := by
    intro a
    induction a with
    | nil => exact fun m => rfl
    | cons r a ih => intro m; rw [List.foldl_cons, ih, tally_len]
  rw [this, List.length_replicate]

theorem many_take {n : Nat} {a : List (List Int)} {k : Nat} (h : k < a.length) : many n (a.take (k + 1)) = tally (many n (a.take k)) (a.getD k []) := by
  unfold many
  rw [take_succ' [] h, List.foldl_append]
  rfl

def once (m : List Int) : Prop := ∀ i, i < m.length → m.getD i 0 = 1

def ruleAny (a : List (List Int)) (p : List Int → Prop) : Prop := ∃ k, k < a.length ∧ p (a.getD k [])

open Classical in
noncomputable def codeOf (b2 b3 b4 : Prop) : Int := if b2 then 2 else if b3 then 3 else if b4 then 4 else 0

open Classical in
theorem F67_ret (m : List Int) (hm : Fit m) : Ret (F67 m) fun o => o = decide (¬once m) := by
  unfold Fit at hm
  unfold F67 F110 L110_2
  simp (disch := omega) only [Ret_some, Ret_none, Ret_bind, Ret_asrt, Ret_cond, Sum.elim_inl, Sum.elim_inr, decide_eq_true_eq, decide_eq_false_iff_not, Bool.not_eq_true', Bool.not_not, Bool.and_eq_true, Bool.or_eq_true, Bool.true_eq_false, Bool.false_eq_true, Bool.not_true, Bool.not_false, if_true, if_false, ite_true, ite_false, true_and, and_true, false_and, and_false, Int.toNat_natCast, toN_succ, Int.ofNat_eq_natCast, Int.ofNat_toNat, Nat.zero_add, Nat.add_zero, not_true_eq_false, not_false_eq_true, implies_true, wr64]
  refine Ret.loop m.length (fun i s => s = (i : Int) ∧ ∀ j, j < i → m.getD j 0 = 1) ⟨rfl, by omega⟩ ?_ ?_
  · rintro i s hi ⟨rfl, h⟩
    unfold B110_2 F131
    simp (disch := omega) only [Ret_some, Ret_none, Ret_bind, Ret_asrt, Ret_cond, Sum.elim_inl, Sum.elim_inr, decide_eq_true_eq, decide_eq_false_iff_not, Bool.not_eq_true', Bool.not_not, Bool.and_eq_true, Bool.or_eq_true, Bool.true_eq_false, Bool.false_eq_true, Bool.not_true, Bool.not_false, if_true, if_false, ite_true, ite_false, true_and, and_true, false_and, and_false, Int.toNat_natCast, toN_succ, Int.ofNat_eq_natCast, Int.ofNat_toNat, Nat.zero_add, Nat.add_zero, not_true_eq_false, not_false_eq_true, implies_true, wr64]
    grind [once]
  · rintro s ⟨rfl, h⟩
    unfold B110_2 F131
    simp (disch := omega) only [Ret_some, Ret_none, Ret_bind, Ret_asrt, Ret_cond, Sum.elim_inl, Sum.elim_inr, decide_eq_true_eq, decide_eq_false_iff_not, Bool.not_eq_true', Bool.not_not, Bool.and_eq_true, Bool.or_eq_true, Bool.true_eq_false, Bool.false_eq_true, Bool.not_true, Bool.not_false, if_true, if_false, ite_true, ite_false, true_and, and_true, false_and, and_false, Int.toNat_natCast, toN_succ, Int.ofNat_eq_natCast, Int.ofNat_toNat, Nat.zero_add, Nat.add_zero, not_true_eq_false, not_false_eq_true, implies_true, wr64]
    grind [once]

open Classical in
theorem F84_ret (l : List TShift) (a : List (List Int)) (x : TLimits) (hl : okSs l) (ha : okR l.length a) (hf : Fit a) (hr : ∀ r ∈ a, Fit r) (hx : 1 ≤ x.row) :
    Ret (F84 l a x) fun c => c = if once (many l.length a) then codeOf (ruleAny a (rule2 l)) (ruleAny a fun r => rule3 l r x) (ruleAny a fun r => rule4 l r x) else 1 := by
  have hll := hl.1
  unfold Fit at hf
  unfold F84 L84_4
  simp (disch := omega) only [Ret_some, Ret_none, Ret_bind, Ret_asrt, Ret_cond, Sum.elim_inl, Sum.elim_inr, decide_eq_true_eq, decide_eq_false_iff_not, Bool.not_eq_true', Bool.not_not, Bool.and_eq_true, Bool.or_eq_true, Bool.true_eq_false, Bool.false_eq_true, Bool.not_true, Bool.not_false, if_true, if_false, ite_true, ite_false, true_and, and_true, false_and, and_false, Int.toNat_natCast, toN_succ, Int.ofNat_eq_natCast, Int.ofNat_toNat, Nat.zero_add, Nat.add_zero, not_true_eq_false, not_false_eq_true, implies_true, wr64]
  refine ⟨by omega, ?_⟩
  refine Ret.loop a.length (fun k s => s.2.2.2.1 = (k : Int) ∧ s.2.2.2.2 = many l.length (a.take k) ∧ (s.1 = true ↔ ∃ j, j < k ∧ rule2 l (a.getD j [])) ∧
    (s.2.1 = true ↔ ∃ j, j < k ∧ rule3 l (a.getD j []) x) ∧ (s.2.2.1 = true ↔ ∃ j, j < k ∧ rule4 l (a.getD j []) x)) ⟨rfl, rfl, by grind, by grind, by grind⟩ ?_ ?_
  · rintro k ⟨t2, t3, t4, v, m⟩ hk ⟨h1, h2, h3, h4, h5⟩
    simp only at h1 h2 h3 h4 h5
    subst h1 h2
    have hfr := hr _ (getD_mem (d := []) hk)
    have hrr := ha k hk
    unfold B84_4
    simp (disch := omega) only [Ret_some, Ret_none, Ret_bind, Ret_asrt, Ret_cond, Sum.elim_inl, Sum.elim_inr, decide_eq_true_eq, decide_eq_false_iff_not, Bool.not_eq_true', Bool.not_not, Bool.and_eq_true, Bool.or_eq_true, Bool.true_eq_false, Bool.false_eq_true, Bool.not_true, Bool.not_false, if_true, if_false, ite_true, ite_false, true_and, and_true, false_and, and_false, Int.toNat_natCast, toN_succ, Int.ofNat_eq_natCast, Int.ofNat_toNat, Nat.zero_add, Nat.add_zero, not_true_eq_false, not_false_eq_true, implies_true, wr64, L84_7_eq]
    rw [if_pos (by omega)]
    refine ⟨by omega, ?_⟩
    rw [Ret_eq (L85_6_ret a k l.length _ (many_len _ _) (by omega) hrr hfr)]
    refine (F130_ret l _ x hl hrr hfr hx).mono ?_
    rintro ⟨o2, o3, o4⟩ ⟨g2, g3, g4⟩
    simp only at g2 g3 g4
    rw [many_take hk]
    simp only [exists_lt_succ, ← h3, ← h4, ← h5, ← g2, ← g3, ← g4]
    clear h3 h4 h5 g2 g3 g4
    grind
  · rintro ⟨t2, t3, t4, v, m⟩ ⟨h1, h2, h3, h4, h5⟩
    simp only at h1 h2 h3 h4 h5
    subst h1 h2
    unfold B84_4
    simp (disch := omega) only [Ret_some, Ret_none, Ret_bind, Ret_asrt, Ret_cond, Sum.elim_inl, Sum.elim_inr, decide_eq_true_eq, decide_eq_false_iff_not, Bool.not_eq_true', Bool.not_not, Bool.and_eq_true, Bool.or_eq_true, Bool.true_eq_false, Bool.false_eq_true, Bool.not_true, Bool.not_false, if_true, if_false, ite_true, ite_false, true_and, and_true, false_and, and_false, Int.toNat_natCast, toN_succ, Int.ofNat_eq_natCast, Int.ofNat_toNat, Nat.zero_add, Nat.add_zero, not_true_eq_false, not_false_eq_true, implies_true, wr64]
    rw [if_neg (by omega), List.take_length, many_len]
    refine ⟨by omega, ?_⟩
    rw [List.take_of_length_le (by rw [many_len]; omega)]
    refine (F67_ret _ (by unfold Fit; rw [many_len]; omega)).mono ?_
    rintro o rfl
    simp (disch := omega) only [Ret_some, Ret_none, Ret_bind, Ret_asrt, Ret_cond, Sum.elim_inl, Sum.elim_inr, decide_eq_true_eq, decide_eq_false_iff_not, Bool.not_eq_true', Bool.not_not, Bool.and_eq_true, Bool.or_eq_true, Bool.true_eq_false, Bool.false_eq_true, Bool.not_true, Bool.not_false, if_true, if_false, ite_true, ite_false, true_and, and_true, false_and, and_false, Int.toNat_natCast, toN_succ, Int.ofNat_eq_natCast, Int.ofNat_toNat, Nat.zero_add, Nat.add_zero, not_true_eq_false, not_false_eq_true, implies_true, wr64]
    unfold codeOf ruleAny
    rw [← h3, ← h4, ← h5]
    grind

theorem F132_ret (c b : Int) : F132 c b = some ((), if b = 0 ∨ c < b then c else b) := by
  unfold F132
  by_cases h : b = 0
  · simp [h]
  · by_cases h2 : c < b <;> simp [h, h2]

open Classical in
theorem worse2 (b2 b3 b4 : Prop) : (if codeOf b2 b3 b4 = 0 ∨ 2 < codeOf b2 b3 b4 then 2 else codeOf b2 b3 b4) = codeOf True b3 b4 := by unfold codeOf; grind

open Classical in
theorem worse3 (b2 b3 b4 : Prop) : (if codeOf b2 b3 b4 = 0 ∨ 3 < codeOf b2 b3 b4 then 3 else codeOf b2 b3 b4) = codeOf b2 True b4 := by unfold codeOf; grind

open Classical in
theorem worse4 (b2 b3 b4 : Prop) : (if codeOf b2 b3 b4 = 0 ∨ 4 < codeOf b2 b3 b4 then 4 else codeOf b2 b3 b4) = codeOf b2 b3 True := by unfold codeOf; grind

theorem codeOf_congr {a2 a3 a4 b2 b3 b4 : Prop} (h2 : a2 ↔ b2) (h3 : ¬a2 → (a3 ↔ b3)) (h4 : a4 ↔ b4) : codeOf a2 a3 a4 = codeOf b2 b3 b4 := by
  by_cases c : a2
  · unfold codeOf; rw [if_pos c, if_pos (h2.1 c)]
  · rw [show a4 = b4 from propext h4, show a3 = b3 from propext (h3 c), show a2 = b2 from propext h2]

/-- a pair is too near, whatever the days -/
def near (p q : TShift) (x : TLimits) : Prop := max (q.day * 86400 + q.start - (p.day * 86400 + p.end0)) (p.day * 86400 + p.start - (q.day * 86400 + q.end0)) < x.rest

theorem near_iff {p q : TShift} (x : TLimits) (hp : okS p) (hq : okS q) (h : p.day ≠ q.day) : near p q x ↔ gapS q p < x.rest := by
  unfold okS at hp hq
  unfold near gapS
  grind

def accP (P q2 : Prop) (l : List TShift) (R : List Int) (i t : Nat) : Prop :=
  P ↔ (q2 ∨ ∃ j i', j < i' ∧ i' < R.length ∧ j < i ∧ (shAt l R i').day = (shAt l R j).day) ∨ ∃ e, e < t ∧ (shAt l R (i + 1 + e)).day = (shAt l R i).day

def accQ (P q2 : Prop) (l : List TShift) (R : List Int) (x : TLimits) (i t : Nat) : Prop :=
  P ↔ (q2 ∨ ∃ j i', j < i' ∧ i' < R.length ∧ j < i ∧ near (shAt l R j) (shAt l R i') x) ∨ ∃ e, e < t ∧ near (shAt l R i) (shAt l R (i + 1 + e)) x

theorem accP_yes {P q2 : Prop} {l : List TShift} {R : List Int} {i t : Nat} (h : (shAt l R i).day = (shAt l R (i + 1 + t)).day) : accP True q2 l R i (t + 1) :=
  ⟨fun _ => .inr ⟨t, by omega, h.symm⟩, fun _ => trivial⟩

theorem accP_no {P q2 : Prop} {l : List TShift} {R : List Int} {i t : Nat} (g : accP P q2 l R i t) (h : ¬(shAt l R i).day = (shAt l R (i + 1 + t)).day) : accP P q2 l R i (t + 1) := by
  unfold accP at g ⊢
  rw [g, exists_lt_succ]
  exact ⟨fun c => c.imp id .inl, fun c => c.imp id fun c => c.elim id fun c => absurd c.symm h⟩

theorem accQ_yes {P q2 : Prop} {l : List TShift} {R : List Int} {x : TLimits} {i t : Nat} (h : near (shAt l R i) (shAt l R (i + 1 + t)) x) : accQ True q2 l R x i (t + 1) :=
  ⟨fun _ => .inr ⟨t, by omega, h⟩, fun _ => trivial⟩

theorem accQ_no {P q2 : Prop} {l : List TShift} {R : List Int} {x : TLimits} {i t : Nat} (g : accQ P q2 l R x i t) (h : ¬near (shAt l R i) (shAt l R (i + 1 + t)) x) : accQ P q2 l R x i (t + 1) := by
  unfold accQ at g ⊢
  rw [g, exists_lt_succ]
  exact ⟨fun c => c.imp id .inl, fun c => c.imp id fun c => c.elim id fun c => absurd c h⟩

theorem accP_end {P q2 : Prop} {l : List TShift} {R : List Int} {i : Nat} (g : accP P q2 l R i (R.length - (i + 1))) : P ↔ q2 ∨ ∃ j i', j < i' ∧ i' < R.length ∧ j < i + 1 ∧ (shAt l R i').day = (shAt l R j).day := by
  unfold accP at g
  rw [g]
  constructor
  · rintro ((h | ⟨j, i', h1, h2, h3, h4⟩) | ⟨e, h1, h2⟩)
    · exact .inl h
    · exact .inr ⟨j, i', h1, h2, by omega, h4⟩
    · exact .inr ⟨i, i + 1 + e, by omega, by omega, by omega, h2⟩
  · rintro (h | ⟨j, i', h1, h2, h3, h4⟩)
    · exact .inl (.inl h)
    · by_cases c : j = i
      · subst c
        exact .inr ⟨i' - (j + 1), by omega, by rw [show j + 1 + (i' - (j + 1)) = i' by omega]; exact h4⟩
      · exact .inl (.inr ⟨j, i', h1, h2, by omega, h4⟩)

theorem accQ_end {P q2 : Prop} {l : List TShift} {R : List Int} {x : TLimits} {i : Nat} (g : accQ P q2 l R x i (R.length - (i + 1))) : P ↔ q2 ∨ ∃ j i', j < i' ∧ i' < R.length ∧ j < i + 1 ∧ near (shAt l R j) (shAt l R i') x := by
  unfold accQ at g
  rw [g]
  constructor
  · rintro ((h | ⟨j, i', h1, h2, h3, h4⟩) | ⟨e, h1, h2⟩)
    · exact .inl h
    · exact .inr ⟨j, i', h1, h2, by omega, h4⟩
    · exact .inr ⟨i, i + 1 + e, by omega, by omega, by omega, h2⟩
  · rintro (h | ⟨j, i', h1, h2, h3, h4⟩)
    · exact .inl (.inl h)
    · by_cases c : j = i
      · subst c
        exact .inr ⟨i' - (j + 1), by omega, by rw [show j + 1 + (i' - (j + 1)) = i' by omega]; exact h4⟩
      · exact .inl (.inr ⟨j, i', h1, h2, by omega, h4⟩)

def accR (Q q4 : Prop) (l : List TShift) (R : List Int) (x : TLimits) (d : Nat) : Prop := Q ↔ q4 ∨ ∃ e, e < d ∧ x.row < (runD l R (e + 1) : Int)

theorem accR_yes {Q q4 : Prop} {l : List TShift} {R : List Int} {x : TLimits} {d : Nat} (h : x.row < (runD l R (d + 1) : Int)) : accR True q4 l R x (d + 1) :=
  ⟨fun _ => .inr ⟨d, by omega, h⟩, fun _ => trivial⟩

theorem accR_no {Q q4 : Prop} {l : List TShift} {R : List Int} {x : TLimits} {d : Nat} (g : accR Q q4 l R x d) (h : ¬x.row < (runD l R (d + 1) : Int)) : accR Q q4 l R x (d + 1) := by
  unfold accR at g ⊢
  rw [g, exists_lt_succ]
  exact ⟨fun c => c.imp id .inl, fun c => c.imp id fun c => c.elim id fun c => absurd c h⟩

theorem rule2_iff {l : List TShift} {R : List Int} : (∃ j i', j < i' ∧ i' < R.length ∧ j < R.length ∧ (shAt l R i').day = (shAt l R j).day) ↔ rule2 l R := by
  unfold rule2
  exact ⟨fun ⟨j, i', h1, h2, _, h4⟩ => ⟨i', j, h1, h2, h4⟩, fun ⟨i', j, h1, h2, h4⟩ => ⟨j, i', h1, h2, by omega, h4⟩⟩

theorem rule3_iff {l : List TShift} {R : List Int} {x : TLimits} (hd : ∀ i, i < R.length → okS (shAt l R i)) (h : ¬rule2 l R) :
    (∃ j i', j < i' ∧ i' < R.length ∧ j < R.length ∧ near (shAt l R j) (shAt l R i') x) ↔ rule3 l R x := by
  unfold rule3
  constructor
  · rintro ⟨j, i', h1, h2, h3, h4⟩
    have hne : (shAt l R i').day ≠ (shAt l R j).day := fun e => h ⟨i', j, h1, h2, e⟩
    exact ⟨i', j, h1, h2, hne, (near_iff x (hd j h3) (hd i' h2) hne.symm).1 h4⟩
  · rintro ⟨i', j, h1, h2, hne, h4⟩
    exact ⟨j, i', h1, h2, by omega, (near_iff x (hd j (by omega)) (hd i' h2) hne.symm).2 h4⟩

theorem accR_end {Q q4 : Prop} {l : List TShift} {R : List Int} {x : TLimits} (hd : ∀ i, i < R.length → okS (shAt l R i)) (hx : 1 ≤ x.row) (g : accR Q q4 l R x 8) : Q ↔ q4 ∨ rule4 l R x := by
  unfold accR at g
  rw [g, exists_lt_succ]
  have : ¬x.row < (runD l R (7 + 1) : Int) := by
    have h0 : ¬0 < cntD l R 7 R.length := by
      rw [cntD_pos]
      rintro ⟨k, hk, h⟩
      have := (hd k hk).1.2
      omega
    rw [runD_succ, if_pos (by omega)]
    omega
  unfold rule4
  exact ⟨fun c => c.imp id fun c => c.elim id fun c => absurd c this, fun c => c.imp id .inl⟩

theorem F93_ret (l : List TShift) (a : List (List Int)) (x : TLimits) (hl : okSs l) (ha : okR l.length a) (hf : Fit a) (hr : ∀ r ∈ a, Fit r) (hx : 1 ≤ x.row) :
    Ret (F93 l a x) fun c => c = codeOf (ruleAny a (rule2 l)) (ruleAny a fun r => rule3 l r x) (ruleAny a fun r => rule4 l r x) := by
  have hll := hl.1
  unfold Fit at hf
  unfold F93 L93_4
  simp (disch := omega) only [Ret_some, Ret_none, Ret_bind, Ret_asrt, Ret_cond, Sum.elim_inl, Sum.elim_inr, decide_eq_true_eq, decide_eq_false_iff_not, Bool.not_eq_true', Bool.not_not, Bool.and_eq_true, Bool.or_eq_true, Bool.true_eq_false, Bool.false_eq_true, Bool.not_true, Bool.not_false, if_true, if_false, ite_true, ite_false, true_and, and_true, false_and, and_false, Int.toNat_natCast, toN_succ, Int.ofNat_eq_natCast, Int.ofNat_toNat, Nat.zero_add, Nat.add_zero, not_true_eq_false, not_false_eq_true, implies_true, wr64]
  refine Ret.loop a.length (fun k s => s.1 = (k : Int) ∧ s.2 = codeOf (∃ j, j < k ∧ rule2 l (a.getD j [])) (∃ j, j < k ∧ rule3 l (a.getD j []) x) (∃ j, j < k ∧ rule4 l (a.getD j []) x)) ⟨rfl, by simp [codeOf]⟩ ?_ ?_
  · rintro k ⟨v, c⟩ hk ⟨h1, h2⟩
    simp only at h1 h2
    subst h1 h2
    have hfr := hr _ (getD_mem (d := []) hk)
    have hrr := ha k hk
    have hd : ∀ i, i < (a.getD k []).length → okS (shAt l (a.getD k []) i) := fun i hi => shAt_ok hl hrr hi
    unfold Fit at hfr
    unfold B93_4 L93_8
    simp (disch := omega) only [Ret_some, Ret_none, Ret_bind, Ret_asrt, Ret_cond, Sum.elim_inl, Sum.elim_inr, decide_eq_true_eq, decide_eq_false_iff_not, Bool.not_eq_true', Bool.not_not, Bool.and_eq_true, Bool.or_eq_true, Bool.true_eq_false, Bool.false_eq_true, Bool.not_true, Bool.not_false, if_true, if_false, ite_true, ite_false, true_and, and_true, false_and, and_false, Int.toNat_natCast, toN_succ, Int.ofNat_eq_natCast, Int.ofNat_toNat, Nat.zero_add, Nat.add_zero, not_true_eq_false, not_false_eq_true, implies_true, wr64]
    rw [if_pos (by omega)]
    refine ⟨by omega, ?_⟩
    refine Ret.loop (a.getD k []).length (fun i s => s.1 = (i : Int) ∧ s.2.2.length = 8 ∧ (∀ d, d < 8 → (s.2.2.getD d false = true ↔ ∃ j, j < i ∧ (shAt l (a.getD k []) j).day = (d : Int))) ∧
      s.2.1 = codeOf ((∃ j, j < k ∧ rule2 l (a.getD j [])) ∨ ∃ j i', j < i' ∧ i' < (a.getD k []).length ∧ j < i ∧ (shAt l (a.getD k []) i').day = (shAt l (a.getD k []) j).day)
        ((∃ j, j < k ∧ rule3 l (a.getD j []) x) ∨ ∃ j i', j < i' ∧ i' < (a.getD k []).length ∧ j < i ∧ near (shAt l (a.getD k []) j) (shAt l (a.getD k []) i') x) (∃ j, j < k ∧ rule4 l (a.getD j []) x)) ?_ ?_ ?_
    · refine ⟨rfl, by simp, ?_, ?_⟩
      · intro d hd; simp only [getD_rep hd]; grind
      · exact codeOf_congr (by grind) (by grind) (by grind)
    · rintro i ⟨v, c, m⟩ hi ⟨h1, h2, h3, h4⟩
      simp only at h1 h2 h3 h4
      subst h1 h4
      have hdi := hd i hi
      obtain ⟨d1, d2, d3, d4⟩ := hdi
      have hri := hrr i hi
      unfold shAt at d1 d2 d3 d4
      unfold B93_8
      simp (disch := omega) only [Ret_some, Ret_none, Ret_bind, Ret_asrt, Ret_cond, Sum.elim_inl, Sum.elim_inr, decide_eq_true_eq, decide_eq_false_iff_not, Bool.not_eq_true', Bool.not_not, Bool.and_eq_true, Bool.or_eq_true, Bool.true_eq_false, Bool.false_eq_true, Bool.not_true, Bool.not_false, if_true, if_false, ite_true, ite_false, true_and, and_true, false_and, and_false, Int.toNat_natCast, toN_succ, Int.ofNat_eq_natCast, Int.ofNat_toNat, Nat.zero_add, Nat.add_zero, not_true_eq_false, not_false_eq_true, implies_true, wr64, h2, List.length_set]
      rw [if_pos (by omega)]
      refine ⟨by omega, hri, by omega, by omega, by omega, ?_⟩
      unfold L93_12
      generalize hp2 : (∃ j, j < k ∧ rule2 l (a.getD j [])) = q2
      generalize hp3 : (∃ j, j < k ∧ rule3 l (a.getD j []) x) = q3
      generalize hp4 : (∃ j, j < k ∧ rule4 l (a.getD j []) x) = q4
      generalize hR : a.getD k [] = R at *
      refine Ret.loop (R.length - (i + 1)) (fun t s => s.1 = (t : Int) ∧ ∃ P Q, s.2 = codeOf P Q q4 ∧ accP P q2 l R i t ∧ accQ Q q3 l R x i t) ?_ ?_ ?_
      · exact ⟨rfl, _, _, rfl, by unfold accP; grind, by unfold accQ; grind⟩
      · rintro t ⟨w, c⟩ ht ⟨g1, P, Q, g2, g3, g4⟩
        simp only at g1 g2
        subst g1 g2
        obtain ⟨f1, f2, f3, f4⟩ := hd (i + 1 + t) (by omega)
        have hrt := hrr (i + 1 + t) (by omega)
        unfold shAt at f1 f2 f3 f4
        unfold B93_12
        simp (disch := omega) only [Ret_some, Ret_none, Ret_bind, Ret_asrt, Ret_cond, Sum.elim_inl, Sum.elim_inr, decide_eq_true_eq, decide_eq_false_iff_not, Bool.not_eq_true', Bool.not_not, Bool.and_eq_true, Bool.or_eq_true, Bool.true_eq_false, Bool.false_eq_true, Bool.not_true, Bool.not_false, if_true, if_false, ite_true, ite_false, true_and, and_true, false_and, and_false, Int.toNat_natCast, toN_succ, Int.ofNat_eq_natCast, Int.ofNat_toNat, Nat.zero_add, Nat.add_zero, not_true_eq_false, not_false_eq_true, implies_true, wr64, hR, F132_ret, F133, F134, List.length_take, List.length_drop, getD_take, getD_drop, h2, List.length_set, worse2, worse3]
        rw [if_pos (by omega)]
        refine ⟨by omega, hri, hrt, ?_⟩
        clear hd hrr ha hr
        have e : near (shAt l R i) (shAt l R (i + 1 + t)) x ↔ max
                        ((l.getD (R.getD (i + 1 + t) 0).toNat TShift.d).day * 86400 +
                                (l.getD (R.getD (i + 1 + t) 0).toNat TShift.d).start -
                            ((l.getD (R.getD i 0).toNat TShift.d).day * 86400 +
                              (l.getD (R.getD i 0).toNat TShift.d).end0))
                        ((l.getD (R.getD i 0).toNat TShift.d).day * 86400 +
                              (l.getD (R.getD i 0).toNat TShift.d).start -
                              ((l.getD (R.getD (i + 1 + t) 0).toNat TShift.d).day * 86400 +
                                (l.getD (R.getD (i + 1 + t) 0).toNat TShift.d).end0)) < x.rest := Iff.rfl
        split
        · rename_i c1
          refine ⟨hrt, hri, ?_⟩
          split
          · rename_i c2
            exact ⟨by omega, _, _, rfl, accP_yes (P := P) c1, accQ_yes (P := Q) (e.2 c2)⟩
          · rename_i c2
            exact ⟨by omega, _, _, rfl, accP_yes (P := P) c1, accQ_no g4 fun h => c2 (e.1 h)⟩
        · rename_i c1
          refine ⟨hrt, hri, ?_⟩
          split
          · rename_i c2
            exact ⟨by omega, _, _, rfl, accP_no g3 c1, accQ_yes (P := Q) (e.2 c2)⟩
          · rename_i c2
            exact ⟨by omega, _, _, rfl, accP_no g3 c1, accQ_no g4 fun h => c2 (e.1 h)⟩
      · rintro ⟨w, c⟩ ⟨g1, P, Q, g2, g3, g4⟩
        simp only at g1 g2
        subst g1 g2
        unfold B93_12
        simp (disch := omega) only [Ret_some, Ret_none, Ret_bind, Ret_asrt, Ret_cond, Sum.elim_inl, Sum.elim_inr, decide_eq_true_eq, decide_eq_false_iff_not, Bool.not_eq_true', Bool.not_not, Bool.and_eq_true, Bool.or_eq_true, Bool.true_eq_false, Bool.false_eq_true, Bool.not_true, Bool.not_false, if_true, if_false, ite_true, ite_false, true_and, and_true, false_and, and_false, Int.toNat_natCast, toN_succ, Int.ofNat_eq_natCast, Int.ofNat_toNat, Nat.zero_add, Nat.add_zero, not_true_eq_false, not_false_eq_true, implies_true, wr64, hR]
        rw [if_neg (by omega)]
        refine ⟨by omega, ?_, codeOf_congr ?_ ?_ Iff.rfl⟩
        · intro d hd8
          rw [lgetD_set, exists_lt_succ, ← h3 d hd8]
          have : (shAt l R i).day = (l.getD (R.getD i 0).toNat TShift.d).day := rfl
          clear hd hrr ha hr g3 g4 h3
          grind
        · exact accP_end g3
        · exact fun _ => accQ_end g4
    · rintro ⟨v, c, m⟩ ⟨h1, h2, h3, h4⟩
      simp only at h1 h2 h3 h4
      subst h1 h4
      unfold B93_8
      simp (disch := omega) only [Ret_some, Ret_none, Ret_bind, Ret_asrt, Ret_cond, Sum.elim_inl, Sum.elim_inr, decide_eq_true_eq, decide_eq_false_iff_not, Bool.not_eq_true', Bool.not_not, Bool.and_eq_true, Bool.or_eq_true, Bool.true_eq_false, Bool.false_eq_true, Bool.not_true, Bool.not_false, if_true, if_false, ite_true, ite_false, true_and, and_true, false_and, and_false, Int.toNat_natCast, toN_succ, Int.ofNat_eq_natCast, Int.ofNat_toNat, Nat.zero_add, Nat.add_zero, not_true_eq_false, not_false_eq_true, implies_true, wr64, h2]
      rw [if_neg (by omega)]
      simp only [exists_lt_succ]
      generalize hp4 : (∃ j, j < k ∧ rule4 l (a.getD j []) x) = q4
      generalize hR : a.getD k [] = R at *
      generalize hp2 : ((∃ j, j < k ∧ rule2 l (a.getD j [])) ∨ ∃ j i', j < i' ∧ i' < R.length ∧ j < R.length ∧ (shAt l R i').day = (shAt l R j).day) = P2
      generalize hp3 : ((∃ j, j < k ∧ rule3 l (a.getD j []) x) ∨ ∃ j i', j < i' ∧ i' < R.length ∧ j < R.length ∧ near (shAt l R j) (shAt l R i') x) = P3
      have h5 : ∀ d, d < 8 → (m.getD d false = true ↔ 0 < cntD l R d R.length) := fun d h => (h3 d h).trans cntD_pos.symm
      clear h3
      unfold L93_23
      refine Ret.loop 8 (fun d s => s.2.1 = (d : Int) ∧ s.1 = (runD l R d : Int) ∧ ∃ Q, s.2.2 = codeOf P2 P3 Q ∧ accR Q q4 l R x d) ⟨rfl, rfl, q4, rfl, by unfold accR; grind⟩ ?_ ?_
      · rintro d ⟨w, v, c⟩ hd8 ⟨g1, g2, Q, g3, g4⟩
        simp only at g1 g2 g3
        subst g1 g2 g3
        have := runD_le l R d
        have hm := h5 d hd8
        have hs := runD_succ l R d
        unfold B93_23
        simp (disch := omega) only [Ret_some, Ret_none, Ret_bind, Ret_asrt, Ret_cond, Sum.elim_inl, Sum.elim_inr, decide_eq_true_eq, decide_eq_false_iff_not, Bool.not_eq_true', Bool.not_not, Bool.and_eq_true, Bool.or_eq_true, Bool.true_eq_false, Bool.false_eq_true, Bool.not_true, Bool.not_false, if_true, if_false, ite_true, ite_false, true_and, and_true, false_and, and_false, Int.toNat_natCast, toN_succ, Int.ofNat_eq_natCast, Int.ofNat_toNat, Nat.zero_add, Nat.add_zero, not_true_eq_false, not_false_eq_true, implies_true, wr64, F132_ret, worse4]
        rw [if_pos (by omega)]
        refine ⟨by omega, by omega, ?_⟩
        split
        · rename_i c1
          have c2 : cntD l R d R.length = 0 := by
            have : ¬0 < cntD l R d R.length := fun h => by rw [hm.2 h] at c1; cases c1
            omega
          rw [if_pos c2] at hs
          rw [if_neg (by omega)]
          exact ⟨by omega, by omega, _, rfl, accR_no g4 (by omega)⟩
        · rename_i c1
          have c2 : cntD l R d R.length ≠ 0 := by
            have : 0 < cntD l R d R.length := hm.1 (by simpa using c1)
            omega
          rw [if_neg c2] at hs
          split
          · exact ⟨by omega, by omega, _, rfl, accR_yes (Q := Q) (by omega)⟩
          · exact ⟨by omega, by omega, _, rfl, accR_no g4 (by omega)⟩
      · rintro ⟨w, v, c⟩ ⟨g1, g2, Q, g3, g4⟩
        simp only at g1 g2 g3
        subst g1 g2 g3
        unfold B93_23
        simp (disch := omega) only [Ret_some, Ret_none, Ret_bind, Ret_asrt, Ret_cond, Sum.elim_inl, Sum.elim_inr, decide_eq_true_eq, decide_eq_false_iff_not, Bool.not_eq_true', Bool.not_not, Bool.and_eq_true, Bool.or_eq_true, Bool.true_eq_false, Bool.false_eq_true, Bool.not_true, Bool.not_false, if_true, if_false, ite_true, ite_false, true_and, and_true, false_and, and_false, Int.toNat_natCast, toN_succ, Int.ofNat_eq_natCast, Int.ofNat_toNat, Nat.zero_add, Nat.add_zero, not_true_eq_false, not_false_eq_true, implies_true, wr64]
        rw [if_neg (by omega)]
        refine ⟨by omega, codeOf_congr ?_ ?_ (accR_end hd hx g4)⟩
        · rw [← hp2, rule2_iff]
        · intro hn
          rw [← hp2, rule2_iff] at hn
          rw [← hp3, rule3_iff hd fun h => hn (.inr h)]
  · rintro ⟨v, c⟩ ⟨h1, h2⟩
    simp only at h1 h2
    subst h1 h2
    unfold B93_4
    simp (disch := omega) only [Ret_some, Ret_none, Ret_bind, Ret_asrt, Ret_cond, Sum.elim_inl, Sum.elim_inr, decide_eq_true_eq, decide_eq_false_iff_not, Bool.not_eq_true', Bool.not_not, Bool.and_eq_true, Bool.or_eq_true, Bool.true_eq_false, Bool.false_eq_true, Bool.not_true, Bool.not_false, if_true, if_false, ite_true, ite_false, true_and, and_true, false_and, and_false, Int.toNat_natCast, toN_succ, Int.ofNat_eq_natCast, Int.ofNat_toNat, Nat.zero_add, Nat.add_zero, not_true_eq_false, not_false_eq_true, implies_true, wr64]
    rw [if_neg (by omega)]
    rfl

open Classical in
theorem F85_ret (l : List TShift) (a : List (List Int)) (x : TLimits) (hl : okSs l) (ha : okR l.length a) (hf : Fit a) (hr : ∀ r ∈ a, Fit r) (hx : 1 ≤ x.row) :
    Ret (F85 l a x) fun c => c = if once (many l.length a) then codeOf (ruleAny a (rule2 l)) (ruleAny a fun r => rule3 l r x) (ruleAny a fun r => rule4 l r x) else 1 := by
  have hll := hl.1
  have hf' := hf
  unfold Fit at hf'
  unfold F85 L85_3
  simp (disch := omega) only [Ret_some, Ret_none, Ret_bind, Ret_asrt, Ret_cond, Sum.elim_inl, Sum.elim_inr, decide_eq_true_eq, decide_eq_false_iff_not, Bool.not_eq_true', Bool.not_not, Bool.and_eq_true, Bool.or_eq_true, Bool.true_eq_false, Bool.false_eq_true, Bool.not_true, Bool.not_false, if_true, if_false, ite_true, ite_false, true_and, and_true, false_and, and_false, Int.toNat_natCast, toN_succ, Int.ofNat_eq_natCast, Int.ofNat_toNat, Nat.zero_add, Nat.add_zero, not_true_eq_false, not_false_eq_true, implies_true, wr64]
  refine ⟨by omega, ?_⟩
  refine Ret.loop a.length (fun k s => s.1 = (k : Int) ∧ s.2 = many l.length (a.take k)) ⟨rfl, rfl⟩ ?_ ?_
  · rintro k ⟨v, m⟩ hk ⟨h1, h2⟩
    simp only at h1 h2
    subst h1 h2
    have hfr := hr _ (getD_mem (d := []) hk)
    have hrr := ha k hk
    unfold B85_3
    simp (disch := omega) only [Ret_some, Ret_none, Ret_bind, Ret_asrt, Ret_cond, Sum.elim_inl, Sum.elim_inr, decide_eq_true_eq, decide_eq_false_iff_not, Bool.not_eq_true', Bool.not_not, Bool.and_eq_true, Bool.or_eq_true, Bool.true_eq_false, Bool.false_eq_true, Bool.not_true, Bool.not_false, if_true, if_false, ite_true, ite_false, true_and, and_true, false_and, and_false, Int.toNat_natCast, toN_succ, Int.ofNat_eq_natCast, Int.ofNat_toNat, Nat.zero_add, Nat.add_zero, not_true_eq_false, not_false_eq_true, implies_true, wr64]
    rw [if_pos (by omega)]
    refine ⟨by omega, ?_⟩
    rw [Ret_eq (L85_6_ret a k l.length _ (many_len _ _) (by omega) hrr hfr), many_take hk]
    exact ⟨by omega, rfl⟩
  · rintro ⟨v, m⟩ ⟨h1, h2⟩
    simp only at h1 h2
    subst h1 h2
    unfold B85_3
    simp (disch := omega) only [Ret_some, Ret_none, Ret_bind, Ret_asrt, Ret_cond, Sum.elim_inl, Sum.elim_inr, decide_eq_true_eq, decide_eq_false_iff_not, Bool.not_eq_true', Bool.not_not, Bool.and_eq_true, Bool.or_eq_true, Bool.true_eq_false, Bool.false_eq_true, Bool.not_true, Bool.not_false, if_true, if_false, ite_true, ite_false, true_and, and_true, false_and, and_false, Int.toNat_natCast, toN_succ, Int.ofNat_eq_natCast, Int.ofNat_toNat, Nat.zero_add, Nat.add_zero, not_true_eq_false, not_false_eq_true, implies_true, wr64]
    rw [if_neg (by omega), List.take_length]
    have hml := many_len l.length a
    generalize many l.length a = M at *
    unfold L85_12
    refine Ret.loop M.length (fun i s => s = (i : Int) ∧ ∀ j, j < i → M.getD j 0 = 1) ⟨rfl, by omega⟩ ?_ ?_
    · rintro i s hi ⟨rfl, h⟩
      unfold B85_12
      simp (disch := omega) only [Ret_some, Ret_none, Ret_bind, Ret_asrt, Ret_cond, Sum.elim_inl, Sum.elim_inr, decide_eq_true_eq, decide_eq_false_iff_not, Bool.not_eq_true', Bool.not_not, Bool.and_eq_true, Bool.or_eq_true, Bool.true_eq_false, Bool.false_eq_true, Bool.not_true, Bool.not_false, if_true, if_false, ite_true, ite_false, true_and, and_true, false_and, and_false, Int.toNat_natCast, toN_succ, Int.ofNat_eq_natCast, Int.ofNat_toNat, Nat.zero_add, Nat.add_zero, not_true_eq_false, not_false_eq_true, implies_true, wr64]
      rw [if_pos (by omega)]
      refine ⟨by omega, by omega, ?_⟩
      split
      · rw [if_neg (fun ho : once M => absurd (ho i hi) (by assumption))]
      · refine ⟨by omega, ?_⟩
        rw [forall_lt_succ]
        exact ⟨h, by omega⟩
    · rintro s ⟨rfl, h⟩
      unfold B85_12
      simp (disch := omega) only [Ret_some, Ret_none, Ret_bind, Ret_asrt, Ret_cond, Sum.elim_inl, Sum.elim_inr, decide_eq_true_eq, decide_eq_false_iff_not, Bool.not_eq_true', Bool.not_not, Bool.and_eq_true, Bool.or_eq_true, Bool.true_eq_false, Bool.false_eq_true, Bool.not_true, Bool.not_false, if_true, if_false, ite_true, ite_false, true_and, and_true, false_and, and_false, Int.toNat_natCast, toN_succ, Int.ofNat_eq_natCast, Int.ofNat_toNat, Nat.zero_add, Nat.add_zero, not_true_eq_false, not_false_eq_true, implies_true, wr64]
      rw [if_neg (by omega)]
      refine (F93_ret l a x hl ha hf hr hx).mono ?_
      rintro o rfl
      rw [if_pos (show once M from h)]

theorem F33_ret (l : List TShift) (a : List (List Int)) (x : TLimits) (hl : Fit l) (ha : Fit a) (hr : ∀ r ∈ a, Fit r) : ∃ o, F33 l a x = some o ∧ F34 l a x = some o := by
  obtain ⟨e1, h1, k1⟩ := F36_ret l hl
  obtain ⟨e2, h2, k2⟩ := F46_ret x
  obtain ⟨e2', h2', k2'⟩ := F47_ret x
  obtain rfl : e2 = e2' := by rw [k2, k2']
  obtain ⟨e3, h3, k3⟩ := F83_ret l a hl ha hr
  obtain ⟨e3', h3', k3'⟩ := F38_ret l a hl ha hr
  obtain rfl : e3 = e3' := by rw [k3, k3']
  unfold F33 F34
  simp only [F37_eq, h1, h2, h2', h3, h3', Option.bind_some]
  by_cases c1 : e1 = 0
  · by_cases c2 : e2 = 0
    · by_cases c3 : e3 = 0
      · have hx : 1 ≤ x.row := by clear h2 h2' k2'; grind
        have hR : okR l.length a := by clear h3 h3' k3'; grind
        obtain ⟨c, g1, rfl⟩ := F84_ret l a x (k1 c1) hR ha hr hx
        obtain ⟨c', g1', rfl⟩ := F85_ret l a x (k1 c1) hR ha hr hx
        simp only [g1, g1', Option.bind_some]
        simp [c1, c2, c3]
      · simp [c1, c2, c3]
    · simp [c1, c2]
  · simp [c1]

noncomputable def loadS (l : List TShift) (r : List Int) : Int := r.foldl (fun n i => IntKind.wrap .i64 (n + IntKind.wrap .i64 ((l.getD i.toNat TShift.d).end0 - (l.getD i.toNat TShift.d).start))) 0

theorem loadS_take {l : List TShift} {r : List Int} {i : Nat} (h : i < r.length) : loadS l (r.take (i + 1)) = IntKind.wrap .i64 (loadS l (r.take i) + IntKind.wrap .i64 ((l.getD (r.getD i 0).toNat TShift.d).end0 - (l.getD (r.getD i 0).toNat TShift.d).start)) := by
  unfold loadS
  rw [take_succ' 0 h, List.foldl_append]
  rfl

theorem F86_ret (l : List TShift) (r : List Int) (hr : inR l.length r) (hf : Fit r) : F86 l r = some (loadS l r) := by
  unfold Fit at hf
  refine Ret.eq ?_
  unfold F86 L86_3
  simp (disch := omega) only [Ret_some, Ret_none, Ret_bind, Ret_asrt, Ret_cond, Sum.elim_inl, Sum.elim_inr, decide_eq_true_eq, decide_eq_false_iff_not, Bool.not_eq_true', Bool.not_not, Bool.and_eq_true, Bool.or_eq_true, Bool.true_eq_false, Bool.false_eq_true, Bool.not_true, Bool.not_false, if_true, if_false, ite_true, ite_false, true_and, and_true, false_and, and_false, Int.toNat_natCast, toN_succ, Int.ofNat_eq_natCast, Int.ofNat_toNat, Nat.zero_add, Nat.add_zero, not_true_eq_false, not_false_eq_true, implies_true, wr64]
  refine Ret.loop r.length (fun i s => s.2 = (i : Int) ∧ s.1 = loadS l (r.take i)) ⟨rfl, rfl⟩ ?_ ?_
  · rintro i ⟨c, v⟩ hi ⟨h1, h2⟩
    simp only at h1 h2
    subst h1 h2
    have hri := hr i hi
    unfold B86_3
    simp only [Ret_some, Ret_none, Ret_bind, Ret_asrt, Ret_cond, Sum.elim_inl, Sum.elim_inr, decide_eq_true_eq, decide_eq_false_iff_not, Bool.not_eq_true', Bool.not_not, Bool.and_eq_true, Bool.or_eq_true, Bool.true_eq_false, Bool.false_eq_true, Bool.not_true, Bool.not_false, if_true, if_false, ite_true, ite_false, true_and, and_true, false_and, and_false, Int.toNat_natCast, toN_succ, Int.ofNat_eq_natCast, Int.ofNat_toNat, Nat.zero_add, Nat.add_zero, not_true_eq_false, not_false_eq_true, implies_true, wr64 (show -9223372036854775808 ≤ (i : Int) + 1 by omega) (show (i : Int) + 1 < 9223372036854775808 by omega)]
    rw [if_pos (by omega)]
    exact ⟨by omega, hri, by omega, (loadS_take hi).symm⟩
  · rintro ⟨c, v⟩ ⟨h1, h2⟩
    simp only at h1 h2
    subst h1 h2
    unfold B86_3
    simp only [Ret_some, Ret_none, Ret_bind, Ret_asrt, Ret_cond, Sum.elim_inl, Sum.elim_inr, decide_eq_true_eq, decide_eq_false_iff_not, Bool.not_eq_true', Bool.not_not, Bool.and_eq_true, Bool.or_eq_true, Bool.true_eq_false, Bool.false_eq_true, Bool.not_true, Bool.not_false, if_true, if_false, ite_true, ite_false, true_and, and_true, false_and, and_false, Int.toNat_natCast, toN_succ, Int.ofNat_eq_natCast, Int.ofNat_toNat, Nat.zero_add, Nat.add_zero, not_true_eq_false, not_false_eq_true, implies_true]
    rw [if_neg (by omega), List.take_length]

theorem L39_7_ret (l : List TShift) (a : List (List Int)) (k : Nat) (hr : inR l.length (a.getD k [])) (hf : Fit (a.getD k [])) : L39_7 l a k (0, 0) = some (loadS l (a.getD k [])) := by
  have := F86_ret l _ hr hf
  unfold F86 L86_3 at this
  rw [show (loopW (fun s => B86_3 l (a.getD k []) s.1 s.2) (0, 0)).bind (fun p => some p) = loopW (fun s => B86_3 l (a.getD k []) s.1 s.2) (0, 0) from Option.bind_fun_some _] at this
  exact this

theorem F35_ret (l : List TShift) (a : List (List Int)) (hl : Fit l) (ha : Fit a) (ha8 : a.length * 8 ≤ 140737488355328) (hr : ∀ r ∈ a, Fit r) :
    ∃ e3, F38 l a = some e3 ∧ (∀ e1, F36 l = some e1 → if e1 = 0 then if e3 = 0 then F35 l a = some (a.map (loadS l), 0) ∧ F39 l a = some (a.map (loadS l)) else F35 l a = some ([], e3) else F35 l a = some ([], e1)) := by
  obtain ⟨e3, h3, k3⟩ := F83_ret l a hl ha hr
  obtain ⟨e3', h3', k3'⟩ := F38_ret l a hl ha hr
  obtain rfl : e3 = e3' := by rw [k3, k3']
  refine ⟨e3, h3', fun e1 h1 => ?_⟩
  unfold F35
  simp only [F37_eq, h1, h3, Option.bind_some]
  by_cases c1 : e1 = 0
  · by_cases c3 : e3 = 0
    · have hR : okR l.length a := by clear h3 h3' k3'; grind
      have hf := ha
      unfold Fit at hf
      simp only [c1, c3, if_true, decide_true, Bool.not_true, cond_false]
      constructor
      · refine Ret.eq ?_
        unfold L35_9
        simp (disch := omega) only [Ret_some, Ret_none, Ret_bind, Ret_asrt, Ret_cond, Sum.elim_inl, Sum.elim_inr, decide_eq_true_eq, decide_eq_false_iff_not, Bool.not_eq_true', Bool.not_not, Bool.and_eq_true, Bool.or_eq_true, Bool.true_eq_false, Bool.false_eq_true, Bool.not_true, Bool.not_false, if_true, if_false, ite_true, ite_false, true_and, and_true, false_and, and_false, Int.toNat_natCast, toN_succ, Int.ofNat_eq_natCast, Int.ofNat_toNat, Nat.zero_add, Nat.add_zero, not_true_eq_false, not_false_eq_true, implies_true, wr64]
        refine Ret.loop a.length (fun k s => s.2 = (k : Int) ∧ s.1 = (a.take k).map (loadS l)) ⟨rfl, rfl⟩ ?_ ?_
        · rintro k ⟨c, v⟩ hk ⟨g1, g2⟩
          simp only at g1 g2
          subst g1 g2
          unfold B35_9
          simp (disch := omega) only [Ret_some, Ret_none, Ret_bind, Ret_asrt, Ret_cond, Sum.elim_inl, Sum.elim_inr, decide_eq_true_eq, decide_eq_false_iff_not, Bool.not_eq_true', Bool.not_not, Bool.and_eq_true, Bool.or_eq_true, Bool.true_eq_false, Bool.false_eq_true, Bool.not_true, Bool.not_false, if_true, if_false, ite_true, ite_false, true_and, and_true, false_and, and_false, Int.toNat_natCast, toN_succ, Int.ofNat_eq_natCast, Int.ofNat_toNat, Nat.zero_add, Nat.add_zero, not_true_eq_false, not_false_eq_true, implies_true, wr64, F86_ret l _ (hR k hk) (hr _ (getD_mem hk)), List.length_map, List.length_take]
          rw [if_pos (by omega)]
          exact ⟨by omega, by omega, by omega, by rw [take_succ' [] hk, List.map_append]; rfl⟩
        · rintro ⟨c, v⟩ ⟨g1, g2⟩
          simp only at g1 g2
          subst g1 g2
          unfold B35_9
          simp (disch := omega) only [Ret_some, Ret_none, Ret_bind, Ret_asrt, Ret_cond, Sum.elim_inl, Sum.elim_inr, decide_eq_true_eq, decide_eq_false_iff_not, Bool.not_eq_true', Bool.not_not, Bool.and_eq_true, Bool.or_eq_true, Bool.true_eq_false, Bool.false_eq_true, Bool.not_true, Bool.not_false, if_true, if_false, ite_true, ite_false, true_and, and_true, false_and, and_false, Int.toNat_natCast, toN_succ, Int.ofNat_eq_natCast, Int.ofNat_toNat, Nat.zero_add, Nat.add_zero, not_true_eq_false, not_false_eq_true, implies_true, wr64]
          rw [if_neg (by omega), List.take_length]
      · refine Ret.eq ?_
        unfold F39 L39_3
        simp (disch := omega) only [Ret_some, Ret_none, Ret_bind, Ret_asrt, Ret_cond, Sum.elim_inl, Sum.elim_inr, decide_eq_true_eq, decide_eq_false_iff_not, Bool.not_eq_true', Bool.not_not, Bool.and_eq_true, Bool.or_eq_true, Bool.true_eq_false, Bool.false_eq_true, Bool.not_true, Bool.not_false, if_true, if_false, ite_true, ite_false, true_and, and_true, false_and, and_false, Int.toNat_natCast, toN_succ, Int.ofNat_eq_natCast, Int.ofNat_toNat, Nat.zero_add, Nat.add_zero, not_true_eq_false, not_false_eq_true, implies_true, wr64]
        refine Ret.loop a.length (fun k s => s.2 = (k : Int) ∧ s.1 = (a.take k).map (loadS l)) ⟨rfl, rfl⟩ ?_ ?_
        · rintro k ⟨c, v⟩ hk ⟨g1, g2⟩
          simp only at g1 g2
          subst g1 g2
          unfold B39_3
          simp (disch := omega) only [Ret_some, Ret_none, Ret_bind, Ret_asrt, Ret_cond, Sum.elim_inl, Sum.elim_inr, decide_eq_true_eq, decide_eq_false_iff_not, Bool.not_eq_true', Bool.not_not, Bool.and_eq_true, Bool.or_eq_true, Bool.true_eq_false, Bool.false_eq_true, Bool.not_true, Bool.not_false, if_true, if_false, ite_true, ite_false, true_and, and_true, false_and, and_false, Int.toNat_natCast, toN_succ, Int.ofNat_eq_natCast, Int.ofNat_toNat, Nat.zero_add, Nat.add_zero, not_true_eq_false, not_false_eq_true, implies_true, wr64, L39_7_ret l a k (hR k hk) (hr _ (getD_mem hk)), List.length_map, List.length_take]
          rw [if_pos (by omega)]
          exact ⟨by omega, by omega, by omega, by rw [take_succ' [] hk, List.map_append]; rfl⟩
        · rintro ⟨c, v⟩ ⟨g1, g2⟩
          simp only at g1 g2
          subst g1 g2
          unfold B39_3
          simp (disch := omega) only [Ret_some, Ret_none, Ret_bind, Ret_asrt, Ret_cond, Sum.elim_inl, Sum.elim_inr, decide_eq_true_eq, decide_eq_false_iff_not, Bool.not_eq_true', Bool.not_not, Bool.and_eq_true, Bool.or_eq_true, Bool.true_eq_false, Bool.false_eq_true, Bool.not_true, Bool.not_false, if_true, if_false, ite_true, ite_false, true_and, and_true, false_and, and_false, Int.toNat_natCast, toN_succ, Int.ofNat_eq_natCast, Int.ofNat_toNat, Nat.zero_add, Nat.add_zero, not_true_eq_false, not_false_eq_true, implies_true, wr64]
          rw [if_neg (by omega), List.take_length]
    · simp [c1, c3]
  · simp [c1]

theorem F6_true (l : List TShift) (a : List (List Int)) (x : TLimits) (hl : Fit l) (ha : Fit a) (ha8 : a.length * 8 ≤ 140737488355328) (hr : ∀ r ∈ a, Fit r) : F6 l a x = some true := by
  obtain ⟨o, h1, h2⟩ := F33_ret l a x hl ha hr
  obtain ⟨e1, h3, _⟩ := F36_ret l hl
  obtain ⟨e3, h4, h5⟩ := F35_ret l a hl ha ha8 hr
  have h6 := h5 e1 h3
  unfold F6
  by_cases c1 : e1 = 0
  · rw [if_pos c1] at h6
    by_cases c3 : e3 = 0
    · rw [if_pos c3] at h6
      obtain ⟨h6, h7⟩ := h6
      have h8 : F31 (a.map (loadS l)) (a.map (loadS l)) = some true := by
        obtain ⟨o, g1, g2⟩ := F31_ret (a.map (loadS l)) (a.map (loadS l)) (by unfold Fit at ha ⊢; rw [List.length_map]; exact ha)
        rw [g1, g2, decide_eq_true rfl]
      simp only [h1, h2, h6, h3, F26_eq, F37_eq, h4, h7, h8, Option.bind_some]
      simp [c1, c3]
    · rw [if_neg c3] at h6
      simp only [h1, h2, h6, h3, F26_eq, F37_eq, h4, Option.bind_some]
      simp [c1, c3]
  · rw [if_neg c1] at h6
    simp only [h1, h2, h6, h3, F26_eq, F37_eq, h4, Option.bind_some]
    simp [c1]

end Go.Proofs.Ytciflideblafgaa
