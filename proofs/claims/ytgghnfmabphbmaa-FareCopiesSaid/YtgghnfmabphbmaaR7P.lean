/- FareCopies: what its pure functions return. -/
import Derived.Test.YtgghnfmabphbmaaA21
import Derived.Test.YtgghnfmabphbmaaR7C
import Derived.Test.YtgghnfmabphbmaaA18
open Go Go.Proofs.Ytgghnfmabphbmaa.Fw
namespace Go.Proofs.Ytgghnfmabphbmaa
set_option maxRecDepth 100000
set_option linter.unusedVariables false
set_option linter.unusedSimpArgs false

theorem F79_eq (n a b : Int) : F79 n a b = some (decide (a ≤ n ∧ n ≤ b)) := by
  unfold F79
  by_cases h : a ≤ n <;> simp [h]
theorem F81_eq (n a b : Int) : F81 n a b = some (decide (a ≤ n ∧ n ≤ b)) := F79_eq n a b

theorem F88b_eq (l : List (List Int)) : F88 l = F88b l := rfl

/-- all rows are as long as they have to be -/
theorem F88_ret (l : List (List Int)) (hl : l.length = 20) : Ret (F88 l) fun b => b = false → ∀ i, i < l.length → (l.getD i []).length = 20 := by
  unfold F88 F142
  simp (disch := omega) only [Ret_some, Ret_none, Ret_bind, Ret_asrt, Ret_cond, Sum.elim_inl, Sum.elim_inr, decide_eq_true_eq, decide_eq_false_iff_not, Bool.not_eq_true', Bool.not_not, Bool.and_eq_true, Bool.or_eq_true, Bool.true_eq_false, Bool.false_eq_true, Bool.not_true, Bool.not_false, if_true, if_false, ite_true, ite_false, true_and, and_true, false_and, and_false, Int.toNat_natCast, toN_succ, Int.ofNat_eq_natCast, Int.ofNat_toNat, Nat.zero_add, Nat.add_zero, not_true_eq_false, not_false_eq_true, implies_true, wr64]
  refine Ret.mono (Q := fun x => match x with | .inl _ => ∀ i, i < l.length → (l.getD i []).length = 20 | .inr r => 0 ≤ r) ?_ ?_
  · unfold L142_2
    refine Ret.loop l.length (fun i s => s = (i : Int) ∧ ∀ j, j < i → (l.getD j []).length = 20) ⟨rfl, fun j hj => by omega⟩ ?_ ?_
    · rintro i s hi ⟨rfl, hj⟩
      unfold B142_2 F89
      simp (disch := omega) only [Ret_some, Ret_none, Ret_bind, Ret_asrt, Ret_cond, Sum.elim_inl, Sum.elim_inr, decide_eq_true_eq, decide_eq_false_iff_not, Bool.not_eq_true', Bool.not_not, Bool.and_eq_true, Bool.or_eq_true, Bool.true_eq_false, Bool.false_eq_true, Bool.not_true, Bool.not_false, if_true, if_false, ite_true, ite_false, true_and, and_true, false_and, and_false, Int.toNat_natCast, toN_succ, Int.ofNat_eq_natCast, Int.ofNat_toNat, Nat.zero_add, Nat.add_zero, not_true_eq_false, not_false_eq_true, implies_true, wr64]
      rw [if_pos (by omega)]
      refine ⟨by omega, ?_⟩
      split
      · exact Int.natCast_nonneg _
      · rename_i h
        refine ⟨by omega, fun j hj2 => ?_⟩
        by_cases e : j = i
        · subst e
          have : (((l.getD j []).length : Nat) : Int) = 20 := by simpa using h
          omega
        · exact hj j (by omega)
    · rintro s ⟨rfl, hj⟩
      unfold B142_2
      simp (disch := omega) only [Ret_some, Ret_none, Ret_bind, Ret_asrt, Ret_cond, Sum.elim_inl, Sum.elim_inr, decide_eq_true_eq, decide_eq_false_iff_not, Bool.not_eq_true', Bool.not_not, Bool.and_eq_true, Bool.or_eq_true, Bool.true_eq_false, Bool.false_eq_true, Bool.not_true, Bool.not_false, if_true, if_false, ite_true, ite_false, true_and, and_true, false_and, and_false, Int.toNat_natCast, toN_succ, Int.ofNat_eq_natCast, Int.ofNat_toNat, Nat.zero_add, Nat.add_zero, not_true_eq_false, not_false_eq_true, implies_true, wr64]
      rw [if_neg (by omega)]
      exact hj
  · rintro (⟨⟩ | r) h
    · simp (disch := omega) only [Ret_some, Ret_none, Ret_bind, Ret_asrt, Ret_cond, Sum.elim_inl, Sum.elim_inr, decide_eq_true_eq, decide_eq_false_iff_not, Bool.not_eq_true', Bool.not_not, Bool.and_eq_true, Bool.or_eq_true, Bool.true_eq_false, Bool.false_eq_true, Bool.not_true, Bool.not_false, if_true, if_false, ite_true, ite_false, true_and, and_true, false_and, and_false, Int.toNat_natCast, toN_succ, Int.ofNat_eq_natCast, Int.ofNat_toNat, Nat.zero_add, Nat.add_zero, not_true_eq_false, not_false_eq_true, implies_true, wr64]
      exact fun _ => h
    · simp (disch := omega) only [Ret_some, Ret_none, Ret_bind, Ret_asrt, Ret_cond, Sum.elim_inl, Sum.elim_inr, decide_eq_true_eq, decide_eq_false_iff_not, Bool.not_eq_true', Bool.not_not, Bool.and_eq_true, Bool.or_eq_true, Bool.true_eq_false, Bool.false_eq_true, Bool.not_true, Bool.not_false, if_true, if_false, ite_true, ite_false, true_and, and_true, false_and, and_false, Int.toNat_natCast, toN_succ, Int.ofNat_eq_natCast, Int.ofNat_toNat, Nat.zero_add, Nat.add_zero, not_true_eq_false, not_false_eq_true, implies_true, wr64]
      intro hr
      simp at hr
      exact absurd h (by simp only; omega)

def okB (r : List Int) : Bool := (List.range 20).all fun j => decide (0 ≤ r.getD j 0 ∧ r.getD j 0 ≤ 28800)

theorem okB_iff (r : List Int) : okB r = true ↔ ∀ j, j < 20 → 0 ≤ r.getD j 0 ∧ r.getD j 0 ≤ 28800 := by
  unfold okB
  simp [List.all_eq_true, List.mem_range]

theorem okB_false {r : List Int} {j : Nat} (hj : j < 20) (h : ¬(0 ≤ r.getD j 0 ∧ r.getD j 0 ≤ 28800)) : okB r = false := by
  rw [Bool.eq_false_iff]
  exact fun c => h ((okB_iff r).1 c j hj)

theorem F62_ret (r : List Int) (h : r.length = 20) : F62 r = some (!okB r) := by
  refine Ret.eq ?_
  unfold F62 F116
  simp (disch := omega) only [Ret_some, Ret_none, Ret_bind, Ret_asrt, Ret_cond, Sum.elim_inl, Sum.elim_inr, decide_eq_true_eq, decide_eq_false_iff_not, Bool.not_eq_true', Bool.not_not, Bool.and_eq_true, Bool.or_eq_true, Bool.true_eq_false, Bool.false_eq_true, Bool.not_true, Bool.not_false, if_true, if_false, ite_true, ite_false, true_and, and_true, false_and, and_false, Int.toNat_natCast, toN_succ, Int.ofNat_eq_natCast, Int.ofNat_toNat, Nat.zero_add, Nat.add_zero, not_true_eq_false, not_false_eq_true, implies_true, wr64]
  refine Ret.mono (Q := fun x => match x with | .inl _ => okB r = true | .inr q => 0 ≤ q ∧ okB r = false) ?_ ?_
  · unfold L116_2
    refine Ret.loop r.length (fun i s => s = (i : Int) ∧ ∀ j, j < i → 0 ≤ r.getD j 0 ∧ r.getD j 0 ≤ 28800) ⟨rfl, fun j hj => by omega⟩ ?_ ?_
    · rintro i s hi ⟨rfl, hj⟩
      unfold B116_2 F90
      simp (disch := omega) only [Ret_some, Ret_none, Ret_bind, Ret_asrt, Ret_cond, Sum.elim_inl, Sum.elim_inr, decide_eq_true_eq, decide_eq_false_iff_not, Bool.not_eq_true', Bool.not_not, Bool.and_eq_true, Bool.or_eq_true, Bool.true_eq_false, Bool.false_eq_true, Bool.not_true, Bool.not_false, if_true, if_false, ite_true, ite_false, true_and, and_true, false_and, and_false, Int.toNat_natCast, toN_succ, Int.ofNat_eq_natCast, Int.ofNat_toNat, Nat.zero_add, Nat.add_zero, not_true_eq_false, not_false_eq_true, implies_true, wr64, F79_eq]
      rw [if_pos (by omega)]
      refine ⟨by omega, ?_⟩
      split
      · rename_i c
        exact ⟨Int.natCast_nonneg _, okB_false (j := i) (by omega) (by simpa using c)⟩
      · rename_i c
        refine ⟨by omega, fun j hj2 => ?_⟩
        by_cases e : j = i
        · subst e; omega
        · exact hj j (by omega)
    · rintro s ⟨rfl, hj⟩
      unfold B116_2
      simp (disch := omega) only [Ret_some, Ret_none, Ret_bind, Ret_asrt, Ret_cond, Sum.elim_inl, Sum.elim_inr, decide_eq_true_eq, decide_eq_false_iff_not, Bool.not_eq_true', Bool.not_not, Bool.and_eq_true, Bool.or_eq_true, Bool.true_eq_false, Bool.false_eq_true, Bool.not_true, Bool.not_false, if_true, if_false, ite_true, ite_false, true_and, and_true, false_and, and_false, Int.toNat_natCast, toN_succ, Int.ofNat_eq_natCast, Int.ofNat_toNat, Nat.zero_add, Nat.add_zero, not_true_eq_false, not_false_eq_true, implies_true, wr64]
      rw [if_neg (by omega)]
      rw [okB_iff]
      exact fun j hj2 => hj j (by omega)
  · rintro (⟨⟩ | q) h
    · simp (disch := omega) only [Ret_some, Ret_none, Ret_bind, Ret_asrt, Ret_cond, Sum.elim_inl, Sum.elim_inr, decide_eq_true_eq, decide_eq_false_iff_not, Bool.not_eq_true', Bool.not_not, Bool.and_eq_true, Bool.or_eq_true, Bool.true_eq_false, Bool.false_eq_true, Bool.not_true, Bool.not_false, if_true, if_false, ite_true, ite_false, true_and, and_true, false_and, and_false, Int.toNat_natCast, toN_succ, Int.ofNat_eq_natCast, Int.ofNat_toNat, Nat.zero_add, Nat.add_zero, not_true_eq_false, not_false_eq_true, implies_true, wr64]
      simp only at h
      rw [h]; rfl
    · simp (disch := omega) only [Ret_some, Ret_none, Ret_bind, Ret_asrt, Ret_cond, Sum.elim_inl, Sum.elim_inr, decide_eq_true_eq, decide_eq_false_iff_not, Bool.not_eq_true', Bool.not_not, Bool.and_eq_true, Bool.or_eq_true, Bool.true_eq_false, Bool.false_eq_true, Bool.not_true, Bool.not_false, if_true, if_false, ite_true, ite_false, true_and, and_true, false_and, and_false, Int.toNat_natCast, toN_succ, Int.ofNat_eq_natCast, Int.ofNat_toNat, Nat.zero_add, Nat.add_zero, not_true_eq_false, not_false_eq_true, implies_true, wr64]
      simp only at h
      rw [h.2]
      simpa using h.1

theorem L32_9_ret (a1 : List (List Int)) (v : Nat) (hv : v < a1.length) (hl : a1.length = 20) (h : (a1.getD v []).length = 20) : L32_9 a1 (v : Int) 0 = some (bif !okB (a1.getD v []) then .inr ([], 2) else .inl ()) := by
  refine Ret.eq ?_
  unfold L32_9
  refine Ret.loop 20 (fun i s => s = (i : Int) ∧ ∀ j, j < i → 0 ≤ (a1.getD v []).getD j 0 ∧ (a1.getD v []).getD j 0 ≤ 28800) ⟨rfl, fun j hj => by omega⟩ ?_ ?_
  · rintro i s hi ⟨rfl, hj⟩
    unfold B32_9
    simp (disch := omega) only [Ret_some, Ret_none, Ret_bind, Ret_asrt, Ret_cond, Sum.elim_inl, Sum.elim_inr, decide_eq_true_eq, decide_eq_false_iff_not, Bool.not_eq_true', Bool.not_not, Bool.and_eq_true, Bool.or_eq_true, Bool.true_eq_false, Bool.false_eq_true, Bool.not_true, Bool.not_false, if_true, if_false, ite_true, ite_false, true_and, and_true, false_and, and_false, Int.toNat_natCast, toN_succ, Int.ofNat_eq_natCast, Int.ofNat_toNat, Nat.zero_add, Nat.add_zero, not_true_eq_false, not_false_eq_true, implies_true, wr64, F81_eq, h]
    rw [if_pos (by omega)]
    refine ⟨by omega, ?_⟩
    split
    · rename_i c
      rw [okB_false (j := i) hi (by simpa using c)]
      rfl
    · rename_i c
      refine ⟨by omega, fun j hj2 => ?_⟩
      by_cases e : j = i
      · subst e; omega
      · exact hj j (by omega)
  · rintro s ⟨rfl, hj⟩
    unfold B32_9
    simp (disch := omega) only [Ret_some, Ret_none, Ret_bind, Ret_asrt, Ret_cond, Sum.elim_inl, Sum.elim_inr, decide_eq_true_eq, decide_eq_false_iff_not, Bool.not_eq_true', Bool.not_not, Bool.and_eq_true, Bool.or_eq_true, Bool.true_eq_false, Bool.false_eq_true, Bool.not_true, Bool.not_false, if_true, if_false, ite_true, ite_false, true_and, and_true, false_and, and_false, Int.toNat_natCast, toN_succ, Int.ofNat_eq_natCast, Int.ofNat_toNat, Nat.zero_add, Nat.add_zero, not_true_eq_false, not_false_eq_true, implies_true, wr64, h]
    rw [(okB_iff _).2 hj]
    rw [if_neg (by omega)]
    rfl

theorem L31_6_eq (a1 : List (List Int)) (hl : a1.length = 20) (h : ∀ i, i < a1.length → (a1.getD i []).length = 20) : L31_6 a1 = L32_6 a1 := by
  funext s
  unfold L31_6 L32_6
  refine loopW_congr (fun s => ?_) s
  unfold B31_6 B32_6
  by_cases c : s < (a1.length : Int)
  · by_cases d : 0 ≤ s
    · obtain ⟨i, rfl⟩ : ∃ i : Nat, s = (i : Int) := ⟨s.toNat, by omega⟩
      rw [Int.toNat_natCast, F62_ret _ (h i (by omega)), L32_9_ret a1 i (by omega) hl (h i (by omega))]
      cases okB (a1.getD i []) <;> simp [c, asrt]
    · have : ¬(0 ≤ s ∧ s < (a1.length : Int)) := fun q => d q.1
      simp [asrt, c, d]
  · simp [c]

theorem L31_12_eq (a0 : List TSeen) : L31_12 a0 = L32_16 a0 := by
  funext s
  unfold L31_12 L32_16
  exact loopW_congr (fun s => by unfold B31_12 B32_16; simp only [F79_eq, F81_eq]) s

theorem L31_19_eq (a0 : List TSeen) (a1 : List (List Int)) : L31_19 a0 a1 = L32_23 a0 a1 := rfl

theorem L32_6_ret (a1 : List (List Int)) (hl : a1.length = 20) (h : ∀ i, i < a1.length → (a1.getD i []).length = 20) : Ret (L32_6 a1 0) fun x => match x with | .inl _ => True | .inr r => r.1 = [] := by
  unfold L32_6
  refine Ret.loop a1.length (fun i s => s = (i : Int)) rfl ?_ ?_
  · rintro i s hi rfl
    unfold B32_6
    simp (disch := omega) only [Ret_some, Ret_none, Ret_bind, Ret_asrt, Ret_cond, Sum.elim_inl, Sum.elim_inr, decide_eq_true_eq, decide_eq_false_iff_not, Bool.not_eq_true', Bool.not_not, Bool.and_eq_true, Bool.or_eq_true, Bool.true_eq_false, Bool.false_eq_true, Bool.not_true, Bool.not_false, if_true, if_false, ite_true, ite_false, true_and, and_true, false_and, and_false, Int.toNat_natCast, toN_succ, Int.ofNat_eq_natCast, Int.ofNat_toNat, Nat.zero_add, Nat.add_zero, not_true_eq_false, not_false_eq_true, implies_true, wr64, L32_9_ret a1 i hi hl (h i hi)]
    rw [if_pos (by omega)]
    refine ⟨by omega, ?_⟩
    cases okB (a1.getD i []) with
    | true =>
      simp only [Bool.not_true, cond_false]
      simp (disch := omega) only [Ret_some, Ret_none, Ret_bind, Ret_asrt, Ret_cond, Sum.elim_inl, Sum.elim_inr, decide_eq_true_eq, decide_eq_false_iff_not, Bool.not_eq_true', Bool.not_not, Bool.and_eq_true, Bool.or_eq_true, Bool.true_eq_false, Bool.false_eq_true, Bool.not_true, Bool.not_false, if_true, if_false, ite_true, ite_false, true_and, and_true, false_and, and_false, Int.toNat_natCast, toN_succ, Int.ofNat_eq_natCast, Int.ofNat_toNat, Nat.zero_add, Nat.add_zero, not_true_eq_false, not_false_eq_true, implies_true, wr64]
      omega
    | false =>
      simp only [Bool.not_false, cond_true]
      simp (disch := omega) only [Ret_some, Ret_none, Ret_bind, Ret_asrt, Ret_cond, Sum.elim_inl, Sum.elim_inr, decide_eq_true_eq, decide_eq_false_iff_not, Bool.not_eq_true', Bool.not_not, Bool.and_eq_true, Bool.or_eq_true, Bool.true_eq_false, Bool.false_eq_true, Bool.not_true, Bool.not_false, if_true, if_false, ite_true, ite_false, true_and, and_true, false_and, and_false, Int.toNat_natCast, toN_succ, Int.ofNat_eq_natCast, Int.ofNat_toNat, Nat.zero_add, Nat.add_zero, not_true_eq_false, not_false_eq_true, implies_true, wr64]
  · rintro s rfl
    unfold B32_6
    simp (disch := omega) only [Ret_some, Ret_none, Ret_bind, Ret_asrt, Ret_cond, Sum.elim_inl, Sum.elim_inr, decide_eq_true_eq, decide_eq_false_iff_not, Bool.not_eq_true', Bool.not_not, Bool.and_eq_true, Bool.or_eq_true, Bool.true_eq_false, Bool.false_eq_true, Bool.not_true, Bool.not_false, if_true, if_false, ite_true, ite_false, true_and, and_true, false_and, and_false, Int.toNat_natCast, toN_succ, Int.ofNat_eq_natCast, Int.ofNat_toNat, Nat.zero_add, Nat.add_zero, not_true_eq_false, not_false_eq_true, implies_true, wr64]
    rw [if_neg (by omega)]
    trivial

theorem L32_16_ret (a0 : List TSeen) (hl : a0.length ≤ 100) : Ret (L32_16 a0 0) fun x => match x with | .inl _ => ∀ i, i < a0.length → 0 ≤ (a0.getD i TSeen.d).zone ∧ (a0.getD i TSeen.d).zone ≤ 19 | .inr r => r.1 = [] := by
  unfold L32_16
  refine Ret.loop a0.length (fun i s => s = (i : Int) ∧ ∀ j, j < i → 0 ≤ (a0.getD j TSeen.d).zone ∧ (a0.getD j TSeen.d).zone ≤ 19) ⟨rfl, fun j hj => by omega⟩ ?_ ?_
  · rintro i s hi ⟨rfl, hj⟩
    unfold B32_16
    simp (disch := omega) only [Ret_some, Ret_none, Ret_bind, Ret_asrt, Ret_cond, Sum.elim_inl, Sum.elim_inr, decide_eq_true_eq, decide_eq_false_iff_not, Bool.not_eq_true', Bool.not_not, Bool.and_eq_true, Bool.or_eq_true, Bool.true_eq_false, Bool.false_eq_true, Bool.not_true, Bool.not_false, if_true, if_false, ite_true, ite_false, true_and, and_true, false_and, and_false, Int.toNat_natCast, toN_succ, Int.ofNat_eq_natCast, Int.ofNat_toNat, Nat.zero_add, Nat.add_zero, not_true_eq_false, not_false_eq_true, implies_true, wr64, F81_eq]
    rw [if_pos (by omega)]
    refine ⟨by omega, ?_⟩
    split
    · trivial
    · split
      · trivial
      · split
        · trivial
        · refine ⟨by omega, fun j hj2 => ?_⟩
          by_cases e : j = i
          · subst e; omega
          · exact hj j (by omega)
  · rintro s ⟨rfl, hj⟩
    unfold B32_16
    simp (disch := omega) only [Ret_some, Ret_none, Ret_bind, Ret_asrt, Ret_cond, Sum.elim_inl, Sum.elim_inr, decide_eq_true_eq, decide_eq_false_iff_not, Bool.not_eq_true', Bool.not_not, Bool.and_eq_true, Bool.or_eq_true, Bool.true_eq_false, Bool.false_eq_true, Bool.not_true, Bool.not_false, if_true, if_false, ite_true, ite_false, true_and, and_true, false_and, and_false, Int.toNat_natCast, toN_succ, Int.ofNat_eq_natCast, Int.ofNat_toNat, Nat.zero_add, Nat.add_zero, not_true_eq_false, not_false_eq_true, implies_true, wr64]
    rw [if_neg (by omega)]
    exact hj

theorem L32_26_ret (a0 : List TSeen) (a1 : List (List Int)) (hl : a1.length = 20) (h : ∀ i, i < a1.length → (a1.getD i []).length = 20) (h0 : a0.length ≤ 100) (hz : ∀ i, i < a0.length → 0 ≤ (a0.getD i TSeen.d).zone ∧ (a0.getD i TSeen.d).zone ≤ 19) (i : Nat) (hi : i < a0.length) (out : List (List Int)) (ho : out.length ≤ 10000) :
    Ret (L32_26 a0 a1 (i : Int) (out, (i : Int) + 1)) fun o => o.length ≤ out.length + 100 := by
  unfold L32_26
  refine Ret.loop (a0.length - (i + 1)) (fun j s => s.2 = (i : Int) + 1 + (j : Int) ∧ s.1.length ≤ out.length + j) ⟨by simp, by simp⟩ ?_ ?_
  · rintro j ⟨o, u⟩ hj ⟨g1, g2⟩
    simp only at g1 g2
    subst g1
    have e : ((i : Int) + 1 + (j : Int)).toNat = i + 1 + j := by omega
    have z1 := hz i hi
    have z2 := hz (i + 1 + j) (by omega)
    have hr := h (a0.getD i TSeen.d).zone.toNat (by omega)
    unfold B32_26
    simp (disch := omega) only [Ret_some, Ret_none, Ret_bind, Ret_asrt, Ret_cond, Sum.elim_inl, Sum.elim_inr, decide_eq_true_eq, decide_eq_false_iff_not, Bool.not_eq_true', Bool.not_not, Bool.and_eq_true, Bool.or_eq_true, Bool.true_eq_false, Bool.false_eq_true, Bool.not_true, Bool.not_false, if_true, if_false, ite_true, ite_false, true_and, and_true, false_and, and_false, Int.toNat_natCast, toN_succ, Int.ofNat_eq_natCast, Int.ofNat_toNat, Nat.zero_add, Nat.add_zero, not_true_eq_false, not_false_eq_true, implies_true, wr64, e, hr, List.length_append, List.length_singleton]
    rw [if_pos (by omega)]
    refine ⟨by omega, ?_⟩
    split
    · refine ⟨by omega, by omega, ?_⟩
      split
      · exact ⟨by omega, by omega, by omega⟩
      · exact ⟨by omega, by omega⟩
    · exact ⟨by omega, by omega⟩
  · rintro ⟨o, u⟩ ⟨g1, g2⟩
    simp only at g1 g2
    subst g1
    unfold B32_26
    simp (disch := omega) only [Ret_some, Ret_none, Ret_bind, Ret_asrt, Ret_cond, Sum.elim_inl, Sum.elim_inr, decide_eq_true_eq, decide_eq_false_iff_not, Bool.not_eq_true', Bool.not_not, Bool.and_eq_true, Bool.or_eq_true, Bool.true_eq_false, Bool.false_eq_true, Bool.not_true, Bool.not_false, if_true, if_false, ite_true, ite_false, true_and, and_true, false_and, and_false, Int.toNat_natCast, toN_succ, Int.ofNat_eq_natCast, Int.ofNat_toNat, Nat.zero_add, Nat.add_zero, not_true_eq_false, not_false_eq_true, implies_true, wr64]
    rw [if_neg (by omega)]
    omega

theorem L32_23_ret (a0 : List TSeen) (a1 : List (List Int)) (hl : a1.length = 20) (h : ∀ i, i < a1.length → (a1.getD i []).length = 20) (h0 : a0.length ≤ 100) (hz : ∀ i, i < a0.length → 0 ≤ (a0.getD i TSeen.d).zone ∧ (a0.getD i TSeen.d).zone ≤ 19) :
    Ret (L32_23 a0 a1 ([], 0)) fun o => o.length ≤ 10000 := by
  unfold L32_23
  refine Ret.loop a0.length (fun i s => s.2 = (i : Int) ∧ s.1.length ≤ 100 * i) ⟨rfl, by simp⟩ ?_ ?_
  · rintro i ⟨o, u⟩ hi ⟨g1, g2⟩
    simp only at g1 g2
    subst g1
    unfold B32_23
    simp (disch := omega) only [Ret_some, Ret_none, Ret_bind, Ret_asrt, Ret_cond, Sum.elim_inl, Sum.elim_inr, decide_eq_true_eq, decide_eq_false_iff_not, Bool.not_eq_true', Bool.not_not, Bool.and_eq_true, Bool.or_eq_true, Bool.true_eq_false, Bool.false_eq_true, Bool.not_true, Bool.not_false, if_true, if_false, ite_true, ite_false, true_and, and_true, false_and, and_false, Int.toNat_natCast, toN_succ, Int.ofNat_eq_natCast, Int.ofNat_toNat, Nat.zero_add, Nat.add_zero, not_true_eq_false, not_false_eq_true, implies_true, wr64]
    rw [if_pos (by omega)]
    refine ⟨by omega, ?_⟩
    refine Ret.mono (L32_26_ret a0 a1 hl h h0 hz i hi o (by omega)) fun o2 h2 => ?_
    exact ⟨by omega, by omega⟩
  · rintro ⟨o, u⟩ ⟨g1, g2⟩
    simp only at g1 g2
    subst g1
    unfold B32_23
    simp (disch := omega) only [Ret_some, Ret_none, Ret_bind, Ret_asrt, Ret_cond, Sum.elim_inl, Sum.elim_inr, decide_eq_true_eq, decide_eq_false_iff_not, Bool.not_eq_true', Bool.not_not, Bool.and_eq_true, Bool.or_eq_true, Bool.true_eq_false, Bool.false_eq_true, Bool.not_true, Bool.not_false, if_true, if_false, ite_true, ite_false, true_and, and_true, false_and, and_false, Int.toNat_natCast, toN_succ, Int.ofNat_eq_natCast, Int.ofNat_toNat, Nat.zero_add, Nat.add_zero, not_true_eq_false, not_false_eq_true, implies_true, wr64]
    rw [if_neg (by omega)]
    omega

theorem F31_ret (a0 : List TSeen) (a1 : List (List Int)) : F31 a0 a1 = F32 a0 a1 ∧ Ret (F32 a0 a1) fun o => o.1.length ≤ 10000 := by
  unfold F31 F32
  rw [← F88b_eq]
  by_cases c : (100 : Int) < (a0.length : Int)
  · simp [c, Ret_some]
  · by_cases d : (a1.length : Int) = 20
    · obtain ⟨b, hb, hb2⟩ := F88_ret a1 (by omega)
      rw [hb]
      cases b with
      | true => simp [c, d, Ret_some]
      | false =>
        have h := hb2 rfl
        rw [L31_6_eq a1 (by omega) h, L31_12_eq, L31_19_eq]
        refine ⟨rfl, ?_⟩
        simp (disch := omega) only [Ret_some, Ret_none, Ret_bind, Ret_asrt, Ret_cond, Sum.elim_inl, Sum.elim_inr, decide_eq_true_eq, decide_eq_false_iff_not, Bool.not_eq_true', Bool.not_not, Bool.and_eq_true, Bool.or_eq_true, Bool.true_eq_false, Bool.false_eq_true, Bool.not_true, Bool.not_false, if_true, if_false, ite_true, ite_false, true_and, and_true, false_and, and_false, Int.toNat_natCast, toN_succ, Int.ofNat_eq_natCast, Int.ofNat_toNat, Nat.zero_add, Nat.add_zero, not_true_eq_false, not_false_eq_true, implies_true, wr64]
        first | rw [if_neg c, if_neg (by simp [d]), if_neg (by simp)] | rw [if_neg c, if_neg (by simp [d])] | skip
        refine Ret.mono (L32_6_ret a1 (by omega) h) ?_
        rintro (⟨⟩ | r) hr
        · simp (disch := omega) only [Ret_some, Ret_none, Ret_bind, Ret_asrt, Ret_cond, Sum.elim_inl, Sum.elim_inr, decide_eq_true_eq, decide_eq_false_iff_not, Bool.not_eq_true', Bool.not_not, Bool.and_eq_true, Bool.or_eq_true, Bool.true_eq_false, Bool.false_eq_true, Bool.not_true, Bool.not_false, if_true, if_false, ite_true, ite_false, true_and, and_true, false_and, and_false, Int.toNat_natCast, toN_succ, Int.ofNat_eq_natCast, Int.ofNat_toNat, Nat.zero_add, Nat.add_zero, not_true_eq_false, not_false_eq_true, implies_true, wr64]
          refine Ret.mono (L32_16_ret a0 (by omega)) ?_
          rintro (⟨⟩ | q) hq
          · simp (disch := omega) only [Ret_some, Ret_none, Ret_bind, Ret_asrt, Ret_cond, Sum.elim_inl, Sum.elim_inr, decide_eq_true_eq, decide_eq_false_iff_not, Bool.not_eq_true', Bool.not_not, Bool.and_eq_true, Bool.or_eq_true, Bool.true_eq_false, Bool.false_eq_true, Bool.not_true, Bool.not_false, if_true, if_false, ite_true, ite_false, true_and, and_true, false_and, and_false, Int.toNat_natCast, toN_succ, Int.ofNat_eq_natCast, Int.ofNat_toNat, Nat.zero_add, Nat.add_zero, not_true_eq_false, not_false_eq_true, implies_true, wr64]
            exact L32_23_ret a0 a1 (by omega) h (by omega) hq
          · simp (disch := omega) only [Ret_some, Ret_none, Ret_bind, Ret_asrt, Ret_cond, Sum.elim_inl, Sum.elim_inr, decide_eq_true_eq, decide_eq_false_iff_not, Bool.not_eq_true', Bool.not_not, Bool.and_eq_true, Bool.or_eq_true, Bool.true_eq_false, Bool.false_eq_true, Bool.not_true, Bool.not_false, if_true, if_false, ite_true, ite_false, true_and, and_true, false_and, and_false, Int.toNat_natCast, toN_succ, Int.ofNat_eq_natCast, Int.ofNat_toNat, Nat.zero_add, Nat.add_zero, not_true_eq_false, not_false_eq_true, implies_true, wr64]
            simp only at hq
            rw [hq]; simp
        · simp (disch := omega) only [Ret_some, Ret_none, Ret_bind, Ret_asrt, Ret_cond, Sum.elim_inl, Sum.elim_inr, decide_eq_true_eq, decide_eq_false_iff_not, Bool.not_eq_true', Bool.not_not, Bool.and_eq_true, Bool.or_eq_true, Bool.true_eq_false, Bool.false_eq_true, Bool.not_true, Bool.not_false, if_true, if_false, ite_true, ite_false, true_and, and_true, false_and, and_false, Int.toNat_natCast, toN_succ, Int.ofNat_eq_natCast, Int.ofNat_toNat, Nat.zero_add, Nat.add_zero, not_true_eq_false, not_false_eq_true, implies_true, wr64]
          simp only at hr
          rw [hr]; simp
    · simp [c, d, Ret_some]

theorem F33_self (l : List (List Int)) (h : l.length ≤ 10000) : F33 l l = some true := by
  have key : Ret (L33_4 l l 0) fun x => x = .inl () := by
    unfold L33_4
    refine Ret.loop l.length (fun i s => s = (i : Int)) rfl ?_ ?_
    · rintro i s hi rfl
      unfold B33_4
      simp (disch := omega) only [Ret_some, Ret_none, Ret_bind, Ret_asrt, Ret_cond, Sum.elim_inl, Sum.elim_inr, decide_eq_true_eq, decide_eq_false_iff_not, Bool.not_eq_true', Bool.not_not, Bool.and_eq_true, Bool.or_eq_true, Bool.true_eq_false, Bool.false_eq_true, Bool.not_true, Bool.not_false, if_true, if_false, ite_true, ite_false, true_and, and_true, false_and, and_false, Int.toNat_natCast, toN_succ, Int.ofNat_eq_natCast, Int.ofNat_toNat, Nat.zero_add, Nat.add_zero, not_true_eq_false, not_false_eq_true, implies_true, wr64]
      rw [if_pos (by omega)]
      refine ⟨by omega, by omega, ?_⟩
      simp
    · rintro s rfl
      unfold B33_4
      simp (disch := omega) only [Ret_some, Ret_none, Ret_bind, Ret_asrt, Ret_cond, Sum.elim_inl, Sum.elim_inr, decide_eq_true_eq, decide_eq_false_iff_not, Bool.not_eq_true', Bool.not_not, Bool.and_eq_true, Bool.or_eq_true, Bool.true_eq_false, Bool.false_eq_true, Bool.not_true, Bool.not_false, if_true, if_false, ite_true, ite_false, true_and, and_true, false_and, and_false, Int.toNat_natCast, toN_succ, Int.ofNat_eq_natCast, Int.ofNat_toNat, Nat.zero_add, Nat.add_zero, not_true_eq_false, not_false_eq_true, implies_true, wr64]
      rw [if_neg (by omega)]
      trivial
  obtain ⟨x, hx, rfl⟩ := key
  unfold F33
  simp [hx]

theorem F7_true (a0 : List TSeen) (a1 : List (List Int)) : F7 a0 a1 = some true := by
  obtain ⟨h1, o, h2, h3⟩ := F31_ret a0 a1
  unfold F7
  rw [h1, h2, F18_eq]
  simp [F33_self _ h3]

end Go.Proofs.Ytgghnfmabphbmaa
