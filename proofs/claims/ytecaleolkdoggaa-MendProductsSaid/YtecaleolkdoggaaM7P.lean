/- MendProducts: what its pure functions return. -/
import Derived.Test.YtecaleolkdoggaaA22
import Derived.Test.YtecaleolkdoggaaM7C
open Go Go.Proofs.Ytecaleolkdoggaa.Fw
namespace Go.Proofs.Ytecaleolkdoggaa
set_option maxRecDepth 100000
set_option linter.unusedVariables false
set_option linter.unusedSimpArgs false

/-! ### slices.Repeat -/

theorem F85_small : ∀ n : Fin 201, F85 (IntKind.wrap .u64 1) (IntKind.wrap .u64 (n.val : Int)) = some (0, (n.val : Int)) := by decide

theorem L57_8_ret {n : Nat} (hn : n ≤ 200) {m : List Int} {v : Nat} (hv : v ≤ n) (h0 : 0 < n → 0 < v) (hm : m.length = n) (hg : ∀ j, j < v → m.getD j 0 = (-4611686018427387904 : Int)) : L57_8 ((v : Int), m) = some (List.replicate n (-4611686018427387904 : Int)) := by
  refine Ret.eq ?_
  unfold L57_8
  refine Ret.while (fun st => ∃ v : Nat, st.1 = (v : Int) ∧ v ≤ n ∧ (0 < n → 0 < v) ∧ st.2.length = n ∧ ∀ j, j < v → st.2.getD j 0 = (-4611686018427387904 : Int)) (fun st => n - st.1.toNat) ⟨v, rfl, hv, h0, hm, hg⟩ ?_
  rintro ⟨x, m⟩ ⟨v, rfl, h1, h2, h3, h4⟩
  simp only at h3 h4
  unfold B57_8
  by_cases c : v < n
  · have e1 : ((m.length : Int) - (v : Int)).toNat = n - v := by omega
    have e2 : ((v : Int) - 0).toNat = v := by omega
    simp only [e1, e2, Int.toNat_natCast, Nat.zero_add]
    generalize hq : Nat.min (n - v) v = q
    have hq' : min (n - v) v = q := hq
    rw [hq']
    have h2 := h2 (by omega)
    have hq0 : 0 < q ∧ q ≤ n - v ∧ q ≤ v := by omega
    have hw : IntKind.wrap .i64 ((v : Int) + (q : Int)) = ((v + q : Nat) : Int) := wr64 (by omega) (by omega)
    simp (disch := omega) only [Ret_some, Ret_none, Ret_bind, Ret_asrt, Ret_cond, Sum.elim_inl, Sum.elim_inr, decide_eq_true_eq, decide_eq_false_iff_not, Bool.not_eq_true', Bool.not_not, Bool.and_eq_true, Bool.or_eq_true, Bool.true_eq_false, Bool.false_eq_true, Bool.not_true, Bool.not_false, if_true, if_false, ite_true, ite_false, true_and, and_true, false_and, and_false, Int.toNat_natCast, toN_succ, Int.ofNat_eq_natCast, Int.ofNat_toNat, Nat.zero_add, Nat.add_zero, not_true_eq_false, not_false_eq_true, implies_true, wr64, hw]
    rw [if_pos (by omega)]
    refine ⟨by omega, by omega, by omega, ⟨v + q, rfl, by omega, by omega, ?_, fun j hj => ?_⟩, by omega⟩
    · simp only [List.length_append, List.length_take, List.length_drop]; omega
    · by_cases c2 : j < v
      · rw [← h4 j c2]
        simp only [List.getD_eq_getElem?_getD]
        rw [List.getElem?_append_left (by rw [List.length_take]; omega), List.getElem?_take, if_pos c2]
      · rw [← h4 (j - v) (by omega)]
        simp only [List.getD_eq_getElem?_getD]
        rw [List.getElem?_append_right (by rw [List.length_take]; omega), List.length_take, Nat.min_eq_left (by omega), List.getElem?_append_left (by rw [List.length_take]; omega), List.getElem?_take, if_pos (by omega)]
  · obtain rfl : v = n := by omega
    simp (disch := omega) only [Ret_some, Ret_none, Ret_bind, Ret_asrt, Ret_cond, Sum.elim_inl, Sum.elim_inr, decide_eq_true_eq, decide_eq_false_iff_not, Bool.not_eq_true', Bool.not_not, Bool.and_eq_true, Bool.or_eq_true, Bool.true_eq_false, Bool.false_eq_true, Bool.not_true, Bool.not_false, if_true, if_false, ite_true, ite_false, true_and, and_true, false_and, and_false, Int.toNat_natCast, toN_succ, Int.ofNat_eq_natCast, Int.ofNat_toNat, Nat.zero_add, Nat.add_zero, not_true_eq_false, not_false_eq_true, implies_true, wr64]
    rw [if_neg (by omega)]
    refine list_ext_getD 0 (by simp [h3]) fun i hi => ?_
    rw [h4 i (by omega), getD_rep (by omega)]

theorem F57_eq {n : Nat} (hn : n ≤ 200) : F57 [(-4611686018427387904 : Int)] (n : Int) = some ((), List.replicate n (-4611686018427387904 : Int)) := by
  have h1 := F85_small ⟨n, by omega⟩
  simp only at h1
  have e1 : IntKind.wrap .u64 (([(-4611686018427387904 : Int)].length : Nat) : Int) = IntKind.wrap .u64 1 := rfl
  have e2 : IntKind.wrap .i64 (n : Int) = (n : Int) := wr64 (by omega) (by omega)
  have hneg : ¬ (n : Int) < 0 := by omega
  have hbig : ¬ (9223372036854775807 : Int) < (n : Int) := by omega
  unfold F57
  rw [e1, h1]
  simp only [hneg, hbig, decide_false, cond_false, Option.bind_some, Int.lt_irrefl, e2, Int.toNat_natCast]
  rw [asrt_eq ⟨by omega, by omega, by omega, by omega⟩, asrt_eq (by omega)]
  have hL := L57_8_ret (n := n) hn (v := min n 1) (m := List.take 0 (List.replicate n (0 : Int)) ++ (List.take (min n 1) [(-4611686018427387904 : Int)] ++ List.drop (0 + min n 1) (List.replicate n (0 : Int)))) (by omega) (by omega) (by simp; omega) (fun j hj => by
    obtain rfl : j = 0 := by omega
    have : min n 1 = 1 := by omega
    rw [this]
    rfl)
  have hL' : L57_8 (((min n [(-4611686018427387904 : Int)].length : Nat) : Int), List.take 0 (List.replicate n (Int.ofNat 0)) ++ (List.take (min n [(-4611686018427387904 : Int)].length) [(-4611686018427387904 : Int)] ++ List.drop (0 + min n [(-4611686018427387904 : Int)].length) (List.replicate n (Int.ofNat 0)))) = some (List.replicate n (-4611686018427387904 : Int)) := hL
  rw [hL']
  rfl
/-! ### what is wrong with tables -/

theorem F54_eq (n a b : Int) : F54 n a b = some (decide (a ≤ n ∧ n ≤ b)) := by
  unfold F54
  by_cases h : a ≤ n <;> simp [h]
theorem F51_F54 : F51 = F54 := rfl

def cell (m : List (List Int)) (k v : Nat) : Int := (m.getD k []).getD v 0

theorem lset_len {α : Type} (l : List α) (i : Nat) (v : α) : (l.set i v).length = l.length := by simp

/-- a right number -/
def Okn (x : Int) : Prop := x = (-4611686018427387904 : Int) ∨ (-1099511627776 ≤ x ∧ x ≤ 1099511627776)

def NumOk (m : List (List Int)) : Prop := ∀ i j, i < m.length → j < (m.getD i []).length → Okn (cell m i j)

theorem F70_ret {a0 a1 : List (List Int)} (hl : a0.length ≤ 8) (hl1 : a1.length ≤ 8) : Ret (F70 a0 a1) fun b => (b = true ↔ ∃ i, i < a0.length ∧ (a0.getD i []).length ≠ a1.length) := by
  have hL : Ret (L90_2 a0 a1 0) fun y => match y with | .inl _ => ∀ i, i < a0.length → (a0.getD i []).length = a1.length | .inr r => 0 ≤ r ∧ ∃ i, i < a0.length ∧ (a0.getD i []).length ≠ a1.length := by
    unfold L90_2
    refine Ret.loop a0.length (fun i s => s = (i : Int) ∧ ∀ j, j < i → (a0.getD j []).length = a1.length) ⟨rfl, fun j hj => by omega⟩ ?_ ?_
    · rintro i s hi ⟨rfl, hj⟩
      unfold B90_2 F71
      simp (disch := omega) only [Ret_some, Ret_none, Ret_bind, Ret_asrt, Ret_cond, Sum.elim_inl, Sum.elim_inr, decide_eq_true_eq, decide_eq_false_iff_not, Bool.not_eq_true', Bool.not_not, Bool.and_eq_true, Bool.or_eq_true, Bool.true_eq_false, Bool.false_eq_true, Bool.not_true, Bool.not_false, if_true, if_false, ite_true, ite_false, true_and, and_true, false_and, and_false, Int.toNat_natCast, toN_succ, Int.ofNat_eq_natCast, Int.ofNat_toNat, Nat.zero_add, Nat.add_zero, not_true_eq_false, not_false_eq_true, implies_true, wr64]
      rw [if_pos (by omega)]
      refine ⟨by omega, ?_⟩
      split
      · exact ⟨by omega, i, hi, by omega⟩
      · exact ⟨by omega, forall_lt_succ.2 ⟨hj, by omega⟩⟩
    · rintro s ⟨rfl, hj⟩
      unfold B90_2
      simp (disch := omega) only [Ret_some, Ret_none, Ret_bind, Ret_asrt, Ret_cond, Sum.elim_inl, Sum.elim_inr, decide_eq_true_eq, decide_eq_false_iff_not, Bool.not_eq_true', Bool.not_not, Bool.and_eq_true, Bool.or_eq_true, Bool.true_eq_false, Bool.false_eq_true, Bool.not_true, Bool.not_false, if_true, if_false, ite_true, ite_false, true_and, and_true, false_and, and_false, Int.toNat_natCast, toN_succ, Int.ofNat_eq_natCast, Int.ofNat_toNat, Nat.zero_add, Nat.add_zero, not_true_eq_false, not_false_eq_true, implies_true, wr64]
      rw [if_neg (by omega)]
      exact hj
  unfold F70 F90
  obtain ⟨y, hy, hp⟩ := hL
  rw [hy]
  rcases y with _ | r
  · refine ⟨false, by simp, by simp, ?_⟩
    rintro ⟨i, hi, e⟩
    exact absurd (hp i hi) e
  · exact ⟨true, by simp [hp.1], by simpa using hp.2⟩

theorem F70c_F70 : F70c = F70 := rfl

theorem F70b_ret {a1 : List (List Int)} (hl1 : a1.length ≤ 8) : Ret (F70b a1 a1) fun b => (b = true ↔ ∃ i, i < a1.length ∧ (a1.getD i []).length ≠ (a1.getD 0 []).length) := by
  have hL : Ret (L90b_2 a1 a1 0) fun y => match y with | .inl _ => ∀ i, i < a1.length → (a1.getD i []).length = (a1.getD 0 []).length | .inr r => 0 ≤ r ∧ ∃ i, i < a1.length ∧ (a1.getD i []).length ≠ (a1.getD 0 []).length := by
    unfold L90b_2
    refine Ret.loop a1.length (fun i s => s = (i : Int) ∧ ∀ j, j < i → (a1.getD j []).length = (a1.getD 0 []).length) ⟨rfl, fun j hj => by omega⟩ ?_ ?_
    · rintro i s hi ⟨rfl, hj⟩
      unfold B90b_2 F72
      simp (disch := omega) only [Ret_some, Ret_none, Ret_bind, Ret_asrt, Ret_cond, Sum.elim_inl, Sum.elim_inr, decide_eq_true_eq, decide_eq_false_iff_not, Bool.not_eq_true', Bool.not_not, Bool.and_eq_true, Bool.or_eq_true, Bool.true_eq_false, Bool.false_eq_true, Bool.not_true, Bool.not_false, if_true, if_false, ite_true, ite_false, true_and, and_true, false_and, and_false, Int.toNat_natCast, toN_succ, Int.ofNat_eq_natCast, Int.ofNat_toNat, Nat.zero_add, Nat.add_zero, not_true_eq_false, not_false_eq_true, implies_true, wr64]
      rw [if_pos (by omega)]
      refine ⟨by omega, by omega, ?_⟩
      split
      · exact ⟨by omega, i, hi, by omega⟩
      · exact ⟨by omega, forall_lt_succ.2 ⟨hj, by omega⟩⟩
    · rintro s ⟨rfl, hj⟩
      unfold B90b_2
      simp (disch := omega) only [Ret_some, Ret_none, Ret_bind, Ret_asrt, Ret_cond, Sum.elim_inl, Sum.elim_inr, decide_eq_true_eq, decide_eq_false_iff_not, Bool.not_eq_true', Bool.not_not, Bool.and_eq_true, Bool.or_eq_true, Bool.true_eq_false, Bool.false_eq_true, Bool.not_true, Bool.not_false, if_true, if_false, ite_true, ite_false, true_and, and_true, false_and, and_false, Int.toNat_natCast, toN_succ, Int.ofNat_eq_natCast, Int.ofNat_toNat, Nat.zero_add, Nat.add_zero, not_true_eq_false, not_false_eq_true, implies_true, wr64]
      rw [if_neg (by omega)]
      exact hj
  unfold F70b F90b
  obtain ⟨y, hy, hp⟩ := hL
  rw [hy]
  rcases y with _ | r
  · refine ⟨false, by simp, by simp, ?_⟩
    rintro ⟨i, hi, e⟩
    exact absurd (hp i hi) e
  · exact ⟨true, by simp [hp.1], by simpa using hp.2⟩

theorem F91_eq (x : Int) : Ret (F91 x) fun b => (b = true ↔ ¬ Okn x) := by
  unfold F91 Okn
  simp (disch := omega) only [Ret_some, Ret_none, Ret_bind, Ret_asrt, Ret_cond, Sum.elim_inl, Sum.elim_inr, decide_eq_true_eq, decide_eq_false_iff_not, Bool.not_eq_true', Bool.not_not, Bool.and_eq_true, Bool.or_eq_true, Bool.true_eq_false, Bool.false_eq_true, Bool.not_true, Bool.not_false, if_true, if_false, ite_true, ite_false, true_and, and_true, false_and, and_false, Int.toNat_natCast, toN_succ, Int.ofNat_eq_natCast, Int.ofNat_toNat, Nat.zero_add, Nat.add_zero, not_true_eq_false, not_false_eq_true, implies_true, wr64, F54_eq]
  split
  · rename_i c
    simp [c]
  · rename_i c
    simp [c]

theorem F47_ret {x : List Int} (h : x.length ≤ 8) : Ret (F47 x) fun b => (b = true ↔ ∃ i, i < x.length ∧ ¬ Okn (x.getD i 0)) := by
  have hL : Ret (L82_2 x 0) fun y => match y with | .inl _ => ∀ i, i < x.length → Okn (x.getD i 0) | .inr r => 0 ≤ r ∧ ∃ i, i < x.length ∧ ¬ Okn (x.getD i 0) := by
    unfold L82_2
    refine Ret.loop x.length (fun i s => s = (i : Int) ∧ ∀ j, j < i → Okn (x.getD j 0)) ⟨rfl, fun j hj => by omega⟩ ?_ ?_
    · rintro i s hi ⟨rfl, hj⟩
      obtain ⟨b, hb, hb1⟩ := F91_eq (x.getD i 0)
      unfold B82_2
      simp only [Int.toNat_natCast]
      rw [hb]
      simp (disch := omega) only [Ret_some, Ret_none, Ret_bind, Ret_asrt, Ret_cond, Sum.elim_inl, Sum.elim_inr, decide_eq_true_eq, decide_eq_false_iff_not, Bool.not_eq_true', Bool.not_not, Bool.and_eq_true, Bool.or_eq_true, Bool.true_eq_false, Bool.false_eq_true, Bool.not_true, Bool.not_false, if_true, if_false, ite_true, ite_false, true_and, and_true, false_and, and_false, Int.toNat_natCast, toN_succ, Int.ofNat_eq_natCast, Int.ofNat_toNat, Nat.zero_add, Nat.add_zero, not_true_eq_false, not_false_eq_true, implies_true, wr64]
      rw [if_pos (by omega)]
      refine ⟨by omega, ?_⟩
      split
      · rename_i c
        exact ⟨by omega, i, hi, hb1.1 c⟩
      · rename_i c
        exact ⟨by omega, forall_lt_succ.2 ⟨hj, Classical.byContradiction fun e => c (hb1.2 e)⟩⟩
    · rintro s ⟨rfl, hj⟩
      unfold B82_2
      simp (disch := omega) only [Ret_some, Ret_none, Ret_bind, Ret_asrt, Ret_cond, Sum.elim_inl, Sum.elim_inr, decide_eq_true_eq, decide_eq_false_iff_not, Bool.not_eq_true', Bool.not_not, Bool.and_eq_true, Bool.or_eq_true, Bool.true_eq_false, Bool.false_eq_true, Bool.not_true, Bool.not_false, if_true, if_false, ite_true, ite_false, true_and, and_true, false_and, and_false, Int.toNat_natCast, toN_succ, Int.ofNat_eq_natCast, Int.ofNat_toNat, Nat.zero_add, Nat.add_zero, not_true_eq_false, not_false_eq_true, implies_true, wr64]
      rw [if_neg (by omega)]
      exact hj
  unfold F47 F82
  obtain ⟨y, hy, hp⟩ := hL
  rw [hy]
  rcases y with _ | r
  · refine ⟨false, by simp, by simp, ?_⟩
    rintro ⟨i, hi, e⟩
    exact absurd (hp i hi) e
  · exact ⟨true, by simp [hp.1], by simpa using hp.2⟩

theorem F73_ret {m : List (List Int)} (h : m.length ≤ 8) (hr : ∀ i, i < m.length → (m.getD i []).length ≤ 8) : Ret (F73 m) fun r => (r = 0 ∧ NumOk m) ∨ (r = 2 ∧ ¬ NumOk m) := by
  have hL : Ret (L73_2 m 0) fun y => match y with | .inl _ => NumOk m | .inr r => r = 2 ∧ ¬ NumOk m := by
    unfold L73_2
    refine Ret.loop m.length (fun i s => s = (i : Int) ∧ ∀ k, k < i → ∀ j, j < (m.getD k []).length → Okn (cell m k j)) ⟨rfl, fun j hj => by omega⟩ ?_ ?_
    · rintro i s hi ⟨rfl, hj⟩
      obtain ⟨b, hb, hb1⟩ := F47_ret (hr i hi)
      unfold B73_2
      simp only [Int.toNat_natCast]
      rw [hb]
      simp (disch := omega) only [Ret_some, Ret_none, Ret_bind, Ret_asrt, Ret_cond, Sum.elim_inl, Sum.elim_inr, decide_eq_true_eq, decide_eq_false_iff_not, Bool.not_eq_true', Bool.not_not, Bool.and_eq_true, Bool.or_eq_true, Bool.true_eq_false, Bool.false_eq_true, Bool.not_true, Bool.not_false, if_true, if_false, ite_true, ite_false, true_and, and_true, false_and, and_false, Int.toNat_natCast, toN_succ, Int.ofNat_eq_natCast, Int.ofNat_toNat, Nat.zero_add, Nat.add_zero, not_true_eq_false, not_false_eq_true, implies_true, wr64]
      rw [if_pos (by omega)]
      refine ⟨by omega, ?_⟩
      split
      · rename_i c
        obtain ⟨j, hj, e⟩ := hb1.1 c
        exact fun hn => e (hn i j hi hj)
      · rename_i c
        refine ⟨by omega, forall_lt_succ.2 ⟨hj, fun j hj => Classical.byContradiction fun e => c (hb1.2 ⟨j, hj, e⟩)⟩⟩
    · rintro s ⟨rfl, hj⟩
      unfold B73_2
      simp (disch := omega) only [Ret_some, Ret_none, Ret_bind, Ret_asrt, Ret_cond, Sum.elim_inl, Sum.elim_inr, decide_eq_true_eq, decide_eq_false_iff_not, Bool.not_eq_true', Bool.not_not, Bool.and_eq_true, Bool.or_eq_true, Bool.true_eq_false, Bool.false_eq_true, Bool.not_true, Bool.not_false, if_true, if_false, ite_true, ite_false, true_and, and_true, false_and, and_false, Int.toNat_natCast, toN_succ, Int.ofNat_eq_natCast, Int.ofNat_toNat, Nat.zero_add, Nat.add_zero, not_true_eq_false, not_false_eq_true, implies_true, wr64]
      rw [if_neg (by omega)]
      exact fun i j hi => hj i hi j
  unfold F73
  obtain ⟨y, hy, hp⟩ := hL
  rw [hy]
  rcases y with _ | r
  · exact ⟨0, rfl, .inl ⟨rfl, hp⟩⟩
  · exact ⟨r, rfl, .inr hp⟩

theorem F74_ret {m : List (List Int)} (h : m.length ≤ 8) (hr : ∀ i, i < m.length → (m.getD i []).length ≤ 8) : Ret (F74 m) fun r => (r = 0 ∧ NumOk m) ∨ (r = 2 ∧ ¬ NumOk m) := by
  have hL : Ret (L74_2 m 0) fun y => match y with | .inl _ => NumOk m | .inr r => r = 2 ∧ ¬ NumOk m := by
    unfold L74_2
    refine Ret.loop m.length (fun i s => s = (i : Int) ∧ ∀ k, k < i → ∀ j, j < (m.getD k []).length → Okn (cell m k j)) ⟨rfl, fun j hj => by omega⟩ ?_ ?_
    · rintro i s hi ⟨rfl, hj⟩
      have hri := hr i hi
      have hI : Ret (L74_5 m (i : Int) 0) fun y => match y with | .inl _ => ∀ j, j < (m.getD i []).length → Okn (cell m i j) | .inr r => r = 2 ∧ ∃ j, j < (m.getD i []).length ∧ ¬ Okn (cell m i j) := by
        unfold L74_5
        refine Ret.loop (m.getD i []).length (fun j s => s = (j : Int) ∧ ∀ k, k < j → Okn (cell m i k)) ⟨rfl, fun j hj => by omega⟩ ?_ ?_
        · rintro j s hj ⟨rfl, hk⟩
          have hc : (m.getD i []).getD j 0 = cell m i j := rfl
          unfold B74_5
          rw [F51_F54]
          simp (disch := omega) only [Ret_some, Ret_none, Ret_bind, Ret_asrt, Ret_cond, Sum.elim_inl, Sum.elim_inr, decide_eq_true_eq, decide_eq_false_iff_not, Bool.not_eq_true', Bool.not_not, Bool.and_eq_true, Bool.or_eq_true, Bool.true_eq_false, Bool.false_eq_true, Bool.not_true, Bool.not_false, if_true, if_false, ite_true, ite_false, true_and, and_true, false_and, and_false, Int.toNat_natCast, toN_succ, Int.ofNat_eq_natCast, Int.ofNat_toNat, Nat.zero_add, Nat.add_zero, not_true_eq_false, not_false_eq_true, implies_true, wr64, F54_eq, hc]
          rw [if_pos (by omega)]
          refine ⟨by omega, ?_⟩
          split
          · split
            · exact ⟨j, hj, by unfold Okn; omega⟩
            · exact ⟨by omega, forall_lt_succ.2 ⟨hk, by unfold Okn; omega⟩⟩
          · exact ⟨by omega, forall_lt_succ.2 ⟨hk, by unfold Okn; omega⟩⟩
        · rintro s ⟨rfl, hk⟩
          unfold B74_5
          simp (disch := omega) only [Ret_some, Ret_none, Ret_bind, Ret_asrt, Ret_cond, Sum.elim_inl, Sum.elim_inr, decide_eq_true_eq, decide_eq_false_iff_not, Bool.not_eq_true', Bool.not_not, Bool.and_eq_true, Bool.or_eq_true, Bool.true_eq_false, Bool.false_eq_true, Bool.not_true, Bool.not_false, if_true, if_false, ite_true, ite_false, true_and, and_true, false_and, and_false, Int.toNat_natCast, toN_succ, Int.ofNat_eq_natCast, Int.ofNat_toNat, Nat.zero_add, Nat.add_zero, not_true_eq_false, not_false_eq_true, implies_true, wr64]
          rw [if_neg (by omega)]
          exact hk
      obtain ⟨y, hy, hp⟩ := hI
      unfold B74_2
      rw [hy]
      have hb : decide ((i : Int) < (m.length : Int)) = true := by simp; omega
      rw [hb, cond_true, asrt_eq (by omega), wr64 (by omega) (by omega)]
      rcases y with _ | r
      · exact ⟨_, rfl, by simp, forall_lt_succ.2 ⟨hj, hp⟩⟩
      · obtain ⟨e, j, hj, hn⟩ := hp
        exact ⟨_, rfl, e, fun hh => hn (hh i j hi hj)⟩
    · rintro s ⟨rfl, hj⟩
      unfold B74_2
      have hb : decide ((m.length : Int) < (m.length : Int)) = false := by simp
      rw [hb]
      exact ⟨_, rfl, fun i j hi => hj i hi j⟩
  unfold F74
  obtain ⟨y, hy, hp⟩ := hL
  rw [hy]
  rcases y with _ | r
  · exact ⟨0, rfl, .inl ⟨rfl, hp⟩⟩
  · exact ⟨r, rfl, .inr hp⟩

/-! ### products -/

/-- a place of the product, by the first k steps -/
noncomputable def pf (a b : List (List Int)) (i j : Nat) : Nat → Int
  | 0 => (-4611686018427387904 : Int)
  | k + 1 => if cell a i k ≠ (-4611686018427387904 : Int) ∧ cell b k j ≠ (-4611686018427387904 : Int) then max (pf a b i j k) (cell a i k + cell b k j) else pf a b i j k

section
variable {a b : List (List Int)} {p : Nat}

/-- two tables that fit -/
structure PrOk (a b : List (List Int)) (p : Nat) : Prop where
  la : a.length ≤ 8
  lb : b.length ≤ 8
  lp : p ≤ 8
  ra : ∀ i, i < a.length → (a.getD i []).length = b.length
  rb : ∀ i, i < b.length → (b.getD i []).length = p
  na : NumOk a
  nb : NumOk b

theorem PrOk.ca (h : PrOk a b p) {i k : Nat} (hi : i < a.length) (hk : k < b.length) : Okn (cell a i k) := h.na i k hi (by rw [h.ra i hi]; exact hk)
theorem PrOk.cb (h : PrOk a b p) {k j : Nat} (hk : k < b.length) (hj : j < p) : Okn (cell b k j) := h.nb k j hk (by rw [h.rb k hk]; exact hj)

theorem cell_set' {m : List (List Int)} {k : Nat} {t : Nat} {d : Int} (hk : k < m.length) (ht : t < (m.getD k []).length) (k' v : Nat) :
    cell (m.set k ((m.getD k []).set t d)) k' v = if k' = k ∧ v = t then d else cell m k' v := by
  unfold cell
  rw [lgetD_set]
  by_cases e : k = k'
  · subst e
    rw [if_pos ⟨rfl, hk⟩, lgetD_set]
    by_cases e2 : t = v
    · subst e2; rw [if_pos ⟨rfl, ht⟩, if_pos ⟨rfl, rfl⟩]
    · rw [if_neg (by omega), if_neg (by omega)]
  · rw [if_neg (by omega), if_neg (by omega)]

theorem row_set {m : List (List Int)} {k t : Nat} {d : Int} (i : Nat) : ((m.set k ((m.getD k []).set t d)).getD i []).length = (m.getD i []).length := by
  rw [lgetD_set]
  split
  · rename_i e; rw [lset_len, e.1]
  · rfl

theorem L29_26_ret (h : PrOk a b p) {i j : Nat} (hi : i < a.length) (hj : j < p) {m : List (List Int)} (hm : m.length = a.length) (hr : (m.getD i []).length = p) (h0 : cell m i j = (-4611686018427387904 : Int)) :
    Ret (L29_26 a b (i : Int) (j : Int) (0, m)) fun q => q.length = a.length ∧ (∀ k, (q.getD k []).length = (m.getD k []).length) ∧ cell q i j = pf a b i j b.length ∧ ∀ k v, ¬ (k = i ∧ v = j) → cell q k v = cell m k v := by
  have hla := h.la
  have hlb := h.lb
  have hlp := h.lp
  have hra := h.ra i hi
  unfold L29_26
  refine Ret.loop b.length (fun k s => s.1 = (k : Int) ∧ s.2.length = a.length ∧ (∀ k, (s.2.getD k []).length = (m.getD k []).length) ∧ cell s.2 i j = pf a b i j k ∧ ∀ k v, ¬ (k = i ∧ v = j) → cell s.2 k v = cell m k v) ⟨rfl, hm, fun _ => rfl, h0, fun _ _ _ => rfl⟩ ?_ ?_
  · rintro k ⟨y, q⟩ hk ⟨rfl, h1, h2, h3, h4⟩
    simp only at h1 h2 h3 h4
    have ha := h.ca hi hk
    have hb := h.cb hk hj
    have hrb := h.rb k hk
    have hri := h2 i
    have hca : (a.getD i []).getD k 0 = cell a i k := rfl
    have hcb : (b.getD k []).getD j 0 = cell b k j := rfl
    have hcq : (q.getD i []).getD j 0 = cell q i j := rfl
    have hcs := cell_set' (m := q) (k := i) (t := j) (d := max (cell q i j) (cell a i k + cell b k j)) (by omega) (by omega)
    unfold Okn at ha hb
    unfold B29_26
    by_cases ca : cell a i k = (-4611686018427387904 : Int)
    · simp (disch := omega) only [Ret_some, Ret_none, Ret_bind, Ret_asrt, Ret_cond, Sum.elim_inl, Sum.elim_inr, decide_eq_true_eq, decide_eq_false_iff_not, Bool.not_eq_true', Bool.not_not, Bool.and_eq_true, Bool.or_eq_true, Bool.true_eq_false, Bool.false_eq_true, Bool.not_true, Bool.not_false, if_true, if_false, ite_true, ite_false, true_and, and_true, false_and, and_false, Int.toNat_natCast, toN_succ, Int.ofNat_eq_natCast, Int.ofNat_toNat, Nat.zero_add, Nat.add_zero, not_true_eq_false, not_false_eq_true, implies_true, wr64, hca, hcb, ca]
      rw [if_pos (by omega)]
      refine ⟨by omega, by omega, h1, h2, ?_, h4⟩
      rw [h3, pf, if_neg (by simp [ca])]
    · by_cases cb : cell b k j = (-4611686018427387904 : Int)
      · simp (disch := omega) only [Ret_some, Ret_none, Ret_bind, Ret_asrt, Ret_cond, Sum.elim_inl, Sum.elim_inr, decide_eq_true_eq, decide_eq_false_iff_not, Bool.not_eq_true', Bool.not_not, Bool.and_eq_true, Bool.or_eq_true, Bool.true_eq_false, Bool.false_eq_true, Bool.not_true, Bool.not_false, if_true, if_false, ite_true, ite_false, true_and, and_true, false_and, and_false, Int.toNat_natCast, toN_succ, Int.ofNat_eq_natCast, Int.ofNat_toNat, Nat.zero_add, Nat.add_zero, not_true_eq_false, not_false_eq_true, implies_true, wr64, hca, hcb, ca, cb]
        rw [if_pos (by omega)]
        refine ⟨by omega, by omega, by omega, by omega, h1, h2, ?_, h4⟩
        rw [h3, pf, if_neg (by simp [cb])]
      · have hw : IntKind.wrap .i64 (cell a i k + cell b k j) = cell a i k + cell b k j := wr64 (by omega) (by omega)
        simp (disch := omega) only [Ret_some, Ret_none, Ret_bind, Ret_asrt, Ret_cond, Sum.elim_inl, Sum.elim_inr, decide_eq_true_eq, decide_eq_false_iff_not, Bool.not_eq_true', Bool.not_not, Bool.and_eq_true, Bool.or_eq_true, Bool.true_eq_false, Bool.false_eq_true, Bool.not_true, Bool.not_false, if_true, if_false, ite_true, ite_false, true_and, and_true, false_and, and_false, Int.toNat_natCast, toN_succ, Int.ofNat_eq_natCast, Int.ofNat_toNat, Nat.zero_add, Nat.add_zero, not_true_eq_false, not_false_eq_true, implies_true, wr64, hca, hcb, hcq, ca, cb, tblM, hw]
        rw [if_pos (by omega)]
        refine ⟨by omega, by omega, by omega, by omega, by omega, by omega, by omega, by omega, by rw [lset_len]; exact h1, fun k' => by rw [row_set]; exact h2 k', ?_, fun k' v hne => ?_⟩
        · rw [hcs, if_pos ⟨rfl, rfl⟩, h3, pf, if_pos ⟨ca, cb⟩]
        · rw [hcs, if_neg hne]; exact h4 k' v hne
  · rintro ⟨y, q⟩ ⟨rfl, h1, h2, h3, h4⟩
    unfold B29_26
    simp (disch := omega) only [Ret_some, Ret_none, Ret_bind, Ret_asrt, Ret_cond, Sum.elim_inl, Sum.elim_inr, decide_eq_true_eq, decide_eq_false_iff_not, Bool.not_eq_true', Bool.not_not, Bool.and_eq_true, Bool.or_eq_true, Bool.true_eq_false, Bool.false_eq_true, Bool.not_true, Bool.not_false, if_true, if_false, ite_true, ite_false, true_and, and_true, false_and, and_false, Int.toNat_natCast, toN_succ, Int.ofNat_eq_natCast, Int.ofNat_toNat, Nat.zero_add, Nat.add_zero, not_true_eq_false, not_false_eq_true, implies_true, wr64]
    rw [if_neg (by omega)]
    exact ⟨h1, h2, h3, h4⟩

theorem L29_23_ret (h : PrOk a b p) {i : Nat} (hi : i < a.length) {m : List (List Int)} (hm : m.length = a.length) (hr : (m.getD i []).length = p) (h0 : ∀ j, j < p → cell m i j = (-4611686018427387904 : Int)) :
    Ret (L29_23 a b (p : Int) (i : Int) (0, m)) fun q => q.length = a.length ∧ (∀ k, (q.getD k []).length = (m.getD k []).length) ∧ (∀ j, j < p → cell q i j = pf a b i j b.length) ∧ ∀ k v, k ≠ i → cell q k v = cell m k v := by
  have hlp := h.lp
  unfold L29_23
  refine Ret.loop p (fun j s => s.1 = (j : Int) ∧ s.2.length = a.length ∧ (∀ k, (s.2.getD k []).length = (m.getD k []).length) ∧ (∀ v, v < j → cell s.2 i v = pf a b i v b.length) ∧ (∀ v, j ≤ v → v < p → cell s.2 i v = (-4611686018427387904 : Int)) ∧ ∀ k v, k ≠ i → cell s.2 k v = cell m k v) ⟨rfl, hm, fun _ => rfl, fun v hv => by omega, fun v _ hv => h0 v hv, fun _ _ _ => rfl⟩ ?_ ?_
  · rintro j ⟨y, q⟩ hj ⟨rfl, h1, h2, h3, h4, h5⟩
    simp only at h1 h2 h3 h4 h5
    obtain ⟨q', hq, k1, k2, k3, k4⟩ := L29_26_ret h hi hj h1 (by rw [h2]; exact hr) (h4 j (Nat.le_refl _) hj)
    unfold B29_23
    rw [hq]
    simp (disch := omega) only [Ret_some, Ret_none, Ret_bind, Ret_asrt, Ret_cond, Sum.elim_inl, Sum.elim_inr, decide_eq_true_eq, decide_eq_false_iff_not, Bool.not_eq_true', Bool.not_not, Bool.and_eq_true, Bool.or_eq_true, Bool.true_eq_false, Bool.false_eq_true, Bool.not_true, Bool.not_false, if_true, if_false, ite_true, ite_false, true_and, and_true, false_and, and_false, Int.toNat_natCast, toN_succ, Int.ofNat_eq_natCast, Int.ofNat_toNat, Nat.zero_add, Nat.add_zero, not_true_eq_false, not_false_eq_true, implies_true, wr64]
    rw [if_pos (by omega)]
    refine ⟨by omega, k1, fun k => by rw [k2, h2], forall_lt_succ.2 ⟨fun v hv => by rw [k4 i v (by omega)]; exact h3 v hv, k3⟩, fun v hv hp => by rw [k4 i v (by omega)]; exact h4 v (by omega) hp, fun k v hne => by rw [k4 k v (by omega)]; exact h5 k v hne⟩
  · rintro ⟨y, q⟩ ⟨rfl, h1, h2, h3, h4, h5⟩
    unfold B29_23
    simp (disch := omega) only [Ret_some, Ret_none, Ret_bind, Ret_asrt, Ret_cond, Sum.elim_inl, Sum.elim_inr, decide_eq_true_eq, decide_eq_false_iff_not, Bool.not_eq_true', Bool.not_not, Bool.and_eq_true, Bool.or_eq_true, Bool.true_eq_false, Bool.false_eq_true, Bool.not_true, Bool.not_false, if_true, if_false, ite_true, ite_false, true_and, and_true, false_and, and_false, Int.toNat_natCast, toN_succ, Int.ofNat_eq_natCast, Int.ofNat_toNat, Nat.zero_add, Nat.add_zero, not_true_eq_false, not_false_eq_true, implies_true, wr64]
    rw [if_neg (by omega)]
    exact ⟨h1, h2, h3, h5⟩

/-- the product -/
def IsPr (a b : List (List Int)) (p : Nat) (q : List (List Int)) : Prop := q.length = a.length ∧ (∀ i, i < a.length → (q.getD i []).length = p) ∧ ∀ i j, i < a.length → j < p → cell q i j = pf a b i j b.length

theorem IsPr.uniq {q r : List (List Int)} (h : IsPr a b p q) (k : IsPr a b p r) : q = r := by
  refine list_ext_getD [] (by rw [h.1, k.1]) fun i hi => ?_
  rw [h.1] at hi
  refine list_ext_getD 0 (by rw [h.2.1 i hi, k.2.1 i hi]) fun v hv => ?_
  rw [h.2.1 i hi] at hv
  have h1 := h.2.2 i v hi hv
  have h2 := k.2.2 i v hi hv
  unfold cell at h1 h2
  rw [h1, h2]

theorem L29_19_ret (h : PrOk a b p) : Ret (L29_19 a b (p : Int) (0, List.replicate a.length [])) fun q => IsPr a b p q := by
  have hla := h.la
  have hlp := h.lp
  unfold L29_19
  refine Ret.loop a.length (fun i s => s.1 = (i : Int) ∧ s.2.length = a.length ∧ (∀ k, k < i → (s.2.getD k []).length = p) ∧ ∀ k j, k < i → j < p → cell s.2 k j = pf a b k j b.length) ⟨rfl, by simp, fun k hk => by omega, fun k j hk => by omega⟩ ?_ ?_
  · rintro i ⟨y, q⟩ hi ⟨rfl, h1, h2, h3⟩
    simp only at h1 h2 h3
    have hrep := F57_eq (n := p) (by omega)
    have hrow : ((q.set i (List.replicate p (-4611686018427387904 : Int))).getD i []) = List.replicate p (-4611686018427387904 : Int) := by rw [lgetD_set, if_pos ⟨rfl, by omega⟩]
    obtain ⟨q', hq, k1, k2, k3, k4⟩ := L29_23_ret h hi (m := q.set i (List.replicate p (-4611686018427387904 : Int))) (by rw [lset_len]; exact h1) (by rw [hrow]; simp) (fun j hj => by unfold cell; rw [hrow, getD_rep hj])
    unfold B29_19
    rw [hrep]
    simp only [Option.bind_some, Int.toNat_natCast, Nat.zero_add]
    rw [hq]
    simp (disch := omega) only [Ret_some, Ret_none, Ret_bind, Ret_asrt, Ret_cond, Sum.elim_inl, Sum.elim_inr, decide_eq_true_eq, decide_eq_false_iff_not, Bool.not_eq_true', Bool.not_not, Bool.and_eq_true, Bool.or_eq_true, Bool.true_eq_false, Bool.false_eq_true, Bool.not_true, Bool.not_false, if_true, if_false, ite_true, ite_false, true_and, and_true, false_and, and_false, Int.toNat_natCast, toN_succ, Int.ofNat_eq_natCast, Int.ofNat_toNat, Nat.zero_add, Nat.add_zero, not_true_eq_false, not_false_eq_true, implies_true, wr64]
    rw [if_pos (by omega)]
    refine ⟨by omega, by omega, by omega, by omega, k1, forall_lt_succ.2 ⟨fun k hk => ?_, ?_⟩, fun k j hk hj => ?_⟩
    · rw [k2, lgetD_set, if_neg (by omega)]; exact h2 k hk
    · rw [k2, hrow]; simp
    · by_cases e : k = i
      · subst e; exact k3 j hj
      · rw [k4 k j e]
        unfold cell
        rw [lgetD_set, if_neg (by omega)]
        exact h3 k j (by omega) hj
  · rintro ⟨y, q⟩ ⟨rfl, h1, h2, h3⟩
    unfold B29_19
    simp (disch := omega) only [Ret_some, Ret_none, Ret_bind, Ret_asrt, Ret_cond, Sum.elim_inl, Sum.elim_inr, decide_eq_true_eq, decide_eq_false_iff_not, Bool.not_eq_true', Bool.not_not, Bool.and_eq_true, Bool.or_eq_true, Bool.true_eq_false, Bool.false_eq_true, Bool.not_true, Bool.not_false, if_true, if_false, ite_true, ite_false, true_and, and_true, false_and, and_false, Int.toNat_natCast, toN_succ, Int.ofNat_eq_natCast, Int.ofNat_toNat, Nat.zero_add, Nat.add_zero, not_true_eq_false, not_false_eq_true, implies_true, wr64]
    rw [if_neg (by omega)]
    exact ⟨h1, h2, h3⟩

theorem L30_35_ret (h : PrOk a b p) {i k : Nat} (hi : i < a.length) (hk : k < b.length) {r : List Int} (hr : r.length = p) (h0 : ∀ j, j < p → r.getD j 0 = pf a b i j k) :
    Ret (L30_35 a b (i : Int) (k : Int) (0, r)) fun q => q.length = p ∧ ∀ j, j < p → q.getD j 0 = pf a b i j (k + 1) := by
  have hla := h.la
  have hlb := h.lb
  have hlp := h.lp
  have hrb := h.rb k hk
  unfold L30_35
  refine Ret.loop p (fun j s => s.1 = (j : Int) ∧ s.2.length = p ∧ (∀ v, v < j → s.2.getD v 0 = pf a b i v (k + 1)) ∧ ∀ v, j ≤ v → v < p → s.2.getD v 0 = pf a b i v k) ⟨rfl, hr, fun v hv => by omega, fun v _ hv => h0 v hv⟩ ?_ ?_
  · rintro j ⟨y, q⟩ hj ⟨rfl, h1, h2, h3⟩
    simp only at h1 h2 h3
    have ha := h.ca hi hk
    have hb := h.cb hk hj
    have hca : (a.getD i []).getD k 0 = cell a i k := rfl
    have hcb : (b.getD k []).getD j 0 = cell b k j := rfl
    have hqj := h3 j (Nat.le_refl _) hj
    unfold Okn at ha hb
    unfold B30_35
    by_cases ca : cell a i k = (-4611686018427387904 : Int)
    · simp (disch := omega) only [Ret_some, Ret_none, Ret_bind, Ret_asrt, Ret_cond, Sum.elim_inl, Sum.elim_inr, decide_eq_true_eq, decide_eq_false_iff_not, Bool.not_eq_true', Bool.not_not, Bool.and_eq_true, Bool.or_eq_true, Bool.true_eq_false, Bool.false_eq_true, Bool.not_true, Bool.not_false, if_true, if_false, ite_true, ite_false, true_and, and_true, false_and, and_false, Int.toNat_natCast, toN_succ, Int.ofNat_eq_natCast, Int.ofNat_toNat, Nat.zero_add, Nat.add_zero, not_true_eq_false, not_false_eq_true, implies_true, wr64, hca, hcb, ca]
      rw [if_pos (by omega)]
      refine ⟨by omega, by omega, h1, forall_lt_succ.2 ⟨h2, ?_⟩, fun v hv => h3 v (by omega)⟩
      rw [hqj, pf, if_neg (by simp [ca])]
    · by_cases cb : cell b k j = (-4611686018427387904 : Int)
      · simp (disch := omega) only [Ret_some, Ret_none, Ret_bind, Ret_asrt, Ret_cond, Sum.elim_inl, Sum.elim_inr, decide_eq_true_eq, decide_eq_false_iff_not, Bool.not_eq_true', Bool.not_not, Bool.and_eq_true, Bool.or_eq_true, Bool.true_eq_false, Bool.false_eq_true, Bool.not_true, Bool.not_false, if_true, if_false, ite_true, ite_false, true_and, and_true, false_and, and_false, Int.toNat_natCast, toN_succ, Int.ofNat_eq_natCast, Int.ofNat_toNat, Nat.zero_add, Nat.add_zero, not_true_eq_false, not_false_eq_true, implies_true, wr64, hca, hcb, ca, cb]
        rw [if_pos (by omega)]
        refine ⟨by omega, by omega, h1, forall_lt_succ.2 ⟨h2, ?_⟩, fun v hv => h3 v (by omega)⟩
        rw [hqj, pf, if_neg (by simp [cb])]
      · have hw : IntKind.wrap .i64 (cell a i k + cell b k j) = cell a i k + cell b k j := wr64 (by omega) (by omega)
        simp (disch := omega) only [Ret_some, Ret_none, Ret_bind, Ret_asrt, Ret_cond, Sum.elim_inl, Sum.elim_inr, decide_eq_true_eq, decide_eq_false_iff_not, Bool.not_eq_true', Bool.not_not, Bool.and_eq_true, Bool.or_eq_true, Bool.true_eq_false, Bool.false_eq_true, Bool.not_true, Bool.not_false, if_true, if_false, ite_true, ite_false, true_and, and_true, false_and, and_false, Int.toNat_natCast, toN_succ, Int.ofNat_eq_natCast, Int.ofNat_toNat, Nat.zero_add, Nat.add_zero, not_true_eq_false, not_false_eq_true, implies_true, wr64, hca, hcb, ca, cb, hw]
        rw [if_pos (by omega)]
        refine ⟨by omega, by omega, by omega, by omega, by rw [lset_len]; exact h1, forall_lt_succ.2 ⟨fun v hv => ?_, ?_⟩, fun v hv hvp => ?_⟩
        · rw [lgetD_set, if_neg (by omega)]; exact h2 v hv
        · rw [lgetD_set, if_pos ⟨rfl, by omega⟩, hqj, pf, if_pos ⟨ca, cb⟩]
        · rw [lgetD_set, if_neg (by omega)]; exact h3 v (by omega) hvp
  · rintro ⟨y, q⟩ ⟨rfl, h1, h2, h3⟩
    unfold B30_35
    simp (disch := omega) only [Ret_some, Ret_none, Ret_bind, Ret_asrt, Ret_cond, Sum.elim_inl, Sum.elim_inr, decide_eq_true_eq, decide_eq_false_iff_not, Bool.not_eq_true', Bool.not_not, Bool.and_eq_true, Bool.or_eq_true, Bool.true_eq_false, Bool.false_eq_true, Bool.not_true, Bool.not_false, if_true, if_false, ite_true, ite_false, true_and, and_true, false_and, and_false, Int.toNat_natCast, toN_succ, Int.ofNat_eq_natCast, Int.ofNat_toNat, Nat.zero_add, Nat.add_zero, not_true_eq_false, not_false_eq_true, implies_true, wr64]
    rw [if_neg (by omega)]
    exact ⟨h1, h2⟩

theorem L30_28_ret (h : PrOk a b p) : Ret (L30_28 a b (p : Int) ([], 0)) fun q => IsPr a b p q := by
  have hla := h.la
  have hlb := h.lb
  have hlp := h.lp
  unfold L30_28
  refine Ret.loop a.length (fun i s => s.2 = (i : Int) ∧ s.1.length = i ∧ (∀ k, k < i → (s.1.getD k []).length = p) ∧ ∀ k j, k < i → j < p → cell s.1 k j = pf a b k j b.length) ⟨rfl, rfl, fun k hk => by omega, fun k j hk => by omega⟩ ?_ ?_
  · rintro i ⟨q, y⟩ hi ⟨rfl, h1, h2, h3⟩
    simp only at h1 h2 h3
    have hrep := F57_eq (n := p) (by omega)
    have hra := h.ra i hi
    have hL : Ret (L30_32 a b (i : Int) (0, List.replicate p (-4611686018427387904 : Int))) fun r => r.length = p ∧ ∀ j, j < p → r.getD j 0 = pf a b i j b.length := by
      unfold L30_32
      refine Ret.loop b.length (fun k s => s.1 = (k : Int) ∧ s.2.length = p ∧ ∀ j, j < p → s.2.getD j 0 = pf a b i j k) ⟨rfl, by simp, fun j hj => by simp only; rw [getD_rep hj]; rfl⟩ ?_ ?_
      · rintro k ⟨y, r⟩ hk ⟨rfl, k1, k2⟩
        obtain ⟨r', hr', e1, e2⟩ := L30_35_ret h hi hk k1 k2
        unfold B30_32
        simp only [hr']
        simp (disch := omega) only [Ret_some, Ret_none, Ret_bind, Ret_asrt, Ret_cond, Sum.elim_inl, Sum.elim_inr, decide_eq_true_eq, decide_eq_false_iff_not, Bool.not_eq_true', Bool.not_not, Bool.and_eq_true, Bool.or_eq_true, Bool.true_eq_false, Bool.false_eq_true, Bool.not_true, Bool.not_false, if_true, if_false, ite_true, ite_false, true_and, and_true, false_and, and_false, Int.toNat_natCast, toN_succ, Int.ofNat_eq_natCast, Int.ofNat_toNat, Nat.zero_add, Nat.add_zero, not_true_eq_false, not_false_eq_true, implies_true, wr64]
        rw [if_pos (by omega)]
        exact ⟨by omega, by omega, by omega, e1, e2⟩
      · rintro ⟨y, r⟩ ⟨rfl, k1, k2⟩
        unfold B30_32
        simp (disch := omega) only [Ret_some, Ret_none, Ret_bind, Ret_asrt, Ret_cond, Sum.elim_inl, Sum.elim_inr, decide_eq_true_eq, decide_eq_false_iff_not, Bool.not_eq_true', Bool.not_not, Bool.and_eq_true, Bool.or_eq_true, Bool.true_eq_false, Bool.false_eq_true, Bool.not_true, Bool.not_false, if_true, if_false, ite_true, ite_false, true_and, and_true, false_and, and_false, Int.toNat_natCast, toN_succ, Int.ofNat_eq_natCast, Int.ofNat_toNat, Nat.zero_add, Nat.add_zero, not_true_eq_false, not_false_eq_true, implies_true, wr64]
        rw [if_neg (by omega)]
        exact ⟨k1, k2⟩
    obtain ⟨r, hr, r1, r2⟩ := hL
    unfold B30_28
    rw [hrep]
    simp only [Option.bind_some]
    rw [hr]
    simp only [Option.bind_some, List.take_length]
    simp (disch := omega) only [Ret_some, Ret_none, Ret_bind, Ret_asrt, Ret_cond, Sum.elim_inl, Sum.elim_inr, decide_eq_true_eq, decide_eq_false_iff_not, Bool.not_eq_true', Bool.not_not, Bool.and_eq_true, Bool.or_eq_true, Bool.true_eq_false, Bool.false_eq_true, Bool.not_true, Bool.not_false, if_true, if_false, ite_true, ite_false, true_and, and_true, false_and, and_false, Int.toNat_natCast, toN_succ, Int.ofNat_eq_natCast, Int.ofNat_toNat, Nat.zero_add, Nat.add_zero, not_true_eq_false, not_false_eq_true, implies_true, wr64]
    rw [if_pos (by omega)]
    have hg : ∀ k, (q ++ [r]).getD k [] = if k = i then r else q.getD k [] := fun k => by
      by_cases e : k = i
      · subst e
        rw [if_pos rfl, ← h1]
        simp [List.getD_eq_getElem?_getD]
      · rw [if_neg e]
        by_cases lt : k < q.length
        · simp [List.getD_eq_getElem?_getD, List.getElem?_append_left lt]
        · simp [List.getD_eq_getElem?_getD, List.getElem?_eq_none (by simp; omega : (q ++ [r]).length ≤ k), List.getElem?_eq_none (by omega : q.length ≤ k)]
    refine ⟨by omega, by omega, by omega, by omega, by simp; omega, forall_lt_succ.2 ⟨fun k hk => ?_, ?_⟩, fun k j hk hj => ?_⟩
    · rw [hg, if_neg (by omega)]; exact h2 k hk
    · rw [hg, if_pos rfl]; exact r1
    · unfold cell
      rw [hg]
      by_cases e : k = i
      · subst e; rw [if_pos rfl]; exact r2 j hj
      · rw [if_neg e]; exact h3 k j (by omega) hj
  · rintro ⟨q, y⟩ ⟨rfl, h1, h2, h3⟩
    unfold B30_28
    simp (disch := omega) only [Ret_some, Ret_none, Ret_bind, Ret_asrt, Ret_cond, Sum.elim_inl, Sum.elim_inr, decide_eq_true_eq, decide_eq_false_iff_not, Bool.not_eq_true', Bool.not_not, Bool.and_eq_true, Bool.or_eq_true, Bool.true_eq_false, Bool.false_eq_true, Bool.not_true, Bool.not_false, if_true, if_false, ite_true, ite_false, true_and, and_true, false_and, and_false, Int.toNat_natCast, toN_succ, Int.ofNat_eq_natCast, Int.ofNat_toNat, Nat.zero_add, Nat.add_zero, not_true_eq_false, not_false_eq_true, implies_true, wr64]
    rw [if_neg (by omega)]
    exact ⟨h1, h2, h3⟩

end
/-! ### Product, and what is wrong -/

section
variable {a0 a1 : List (List Int)}

def wid (a1 : List (List Int)) : Nat := if 0 < a1.length then (a1.getD 0 []).length else 0

theorem both_num {m : List (List Int)} (h0 : a0.length ≤ 8) (h1 : a1.length ≤ 8) (r0 : ∀ i, i < a0.length → (a0.getD i []).length ≤ 8) (r1 : ∀ i, i < a1.length → (a1.getD i []).length ≤ 8) (i : Nat) (hi : i < 2) : ([a0, a1].getD i []).length ≤ 8 ∧ ∀ j, j < ([a0, a1].getD i []).length → (([a0, a1].getD i []).getD j []).length ≤ 8 := by
  match i, hi with
  | 0, _ => exact ⟨h0, r0⟩
  | 1, _ => exact ⟨h1, r1⟩

theorem L29_11_ret (h0 : a0.length ≤ 8) (h1 : a1.length ≤ 8) (r0 : ∀ i, i < a0.length → (a0.getD i []).length ≤ 8) (r1 : ∀ i, i < a1.length → (a1.getD i []).length ≤ 8) : Ret (L29_11 a0 a1 0) fun x => match x with | .inl _ => NumOk a0 ∧ NumOk a1 | .inr r => r = ([], 2) ∧ ¬ (NumOk a0 ∧ NumOk a1) := by
  unfold L29_11
  refine Ret.loop 2 (fun i s => s = (i : Int) ∧ ∀ j, j < i → NumOk ([a0, a1].getD j [])) ⟨rfl, fun j hj => by omega⟩ ?_ ?_
  · rintro i s hi ⟨rfl, hj⟩
    obtain ⟨q1, q2⟩ := both_num (m := a0) h0 h1 r0 r1 i hi
    obtain ⟨r, hr, hp⟩ := F73_ret q1 q2
    unfold B29_11
    simp only [Int.toNat_natCast]
    rw [hr]
    have hb : decide ((i : Int) < 2) = true := by simp; omega
    rw [hb, cond_true, asrt_eq (by omega), wr64 (by omega) (by omega)]
    rcases hp with ⟨rfl, hn⟩ | ⟨rfl, hn⟩
    · exact ⟨_, rfl, by simp, forall_lt_succ.2 ⟨hj, hn⟩⟩
    · refine ⟨.inr (.inr ([], 2)), rfl, rfl, fun hh => ?_⟩
      match i, hi with
      | 0, _ => exact hn hh.1
      | 1, _ => exact hn hh.2
  · rintro s ⟨rfl, hj⟩
    unfold B29_11
    exact ⟨.inr (.inl ()), rfl, hj 0 (by omega), hj 1 (by omega)⟩

theorem L30_20_ret (h0 : a0.length ≤ 8) (h1 : a1.length ≤ 8) (r0 : ∀ i, i < a0.length → (a0.getD i []).length ≤ 8) (r1 : ∀ i, i < a1.length → (a1.getD i []).length ≤ 8) : Ret (L30_20 a0 a1 0) fun x => match x with | .inl _ => NumOk a0 ∧ NumOk a1 | .inr r => r = ([], 2) ∧ ¬ (NumOk a0 ∧ NumOk a1) := by
  unfold L30_20
  refine Ret.loop 2 (fun i s => s = (i : Int) ∧ ∀ j, j < i → NumOk ([a0, a1].getD j [])) ⟨rfl, fun j hj => by omega⟩ ?_ ?_
  · rintro i s hi ⟨rfl, hj⟩
    obtain ⟨q1, q2⟩ := both_num (m := a0) h0 h1 r0 r1 i hi
    obtain ⟨r, hr, hp⟩ := F74_ret q1 q2
    unfold B30_20
    simp only [Int.toNat_natCast]
    rw [hr]
    have hb : decide ((i : Int) < 2) = true := by simp; omega
    rw [hb, cond_true, asrt_eq (by simp; omega), wr64 (by omega) (by omega)]
    rcases hp with ⟨rfl, hn⟩ | ⟨rfl, hn⟩
    · exact ⟨_, rfl, by simp, forall_lt_succ.2 ⟨hj, hn⟩⟩
    · refine ⟨.inr (.inr ([], 2)), rfl, rfl, fun hh => ?_⟩
      match i, hi with
      | 0, _ => exact hn hh.1
      | 1, _ => exact hn hh.2
  · rintro s ⟨rfl, hj⟩
    unfold B30_20
    exact ⟨.inr (.inl ()), rfl, hj 0 (by omega), hj 1 (by omega)⟩

theorem L30_4_ret (h0 : a0.length ≤ 8) (h1 : a1.length ≤ 8) : Ret (L30_4 a0 a1 0) fun x => match x with | .inl _ => ∀ i, i < a0.length → (a0.getD i []).length = a1.length | .inr r => r = ([], 1) ∧ ∃ i, i < a0.length ∧ (a0.getD i []).length ≠ a1.length := by
  unfold L30_4
  refine Ret.loop a0.length (fun i s => s = (i : Int) ∧ ∀ j, j < i → (a0.getD j []).length = a1.length) ⟨rfl, fun j hj => by omega⟩ ?_ ?_
  · rintro i s hi ⟨rfl, hj⟩
    unfold B30_4
    have hb : decide ((i : Int) < (a0.length : Int)) = true := by simp; omega
    rw [hb, cond_true, asrt_eq (by omega), wr64 (by omega) (by omega), Int.toNat_natCast]
    by_cases c : ((a0.getD i []).length : Int) = (a1.length : Int)
    · rw [decide_eq_true c]
      exact ⟨_, rfl, by simp, forall_lt_succ.2 ⟨hj, by omega⟩⟩
    · rw [decide_eq_false c]
      exact ⟨_, rfl, rfl, i, hi, by omega⟩
  · rintro s ⟨rfl, hj⟩
    unfold B30_4
    have hb : decide ((a0.length : Int) < (a0.length : Int)) = false := by simp
    rw [hb]
    exact ⟨_, rfl, hj⟩

theorem L30_11_ret (h1 : a1.length ≤ 8) : Ret (L30_11 a1 (0, 0)) fun x => match x with | .inl p => p = (wid a1 : Int) ∧ ∀ i, i < a1.length → (a1.getD i []).length = (a1.getD 0 []).length | .inr r => r = ([], 1) ∧ ∃ i, i < a1.length ∧ (a1.getD i []).length ≠ (a1.getD 0 []).length := by
  unfold L30_11
  refine Ret.loop a1.length (fun i s => s.2 = (i : Int) ∧ (∀ j, j < i → (a1.getD j []).length = (a1.getD 0 []).length) ∧ s.1 = if 0 < i then ((a1.getD 0 []).length : Int) else 0) ⟨rfl, fun j hj => by omega, rfl⟩ ?_ ?_
  · rintro i ⟨w, s⟩ hi ⟨rfl, hj, hw⟩
    simp only at hw
    unfold B30_11
    have hb : decide ((i : Int) < (a1.length : Int)) = true := by simp; omega
    simp only []
    rw [hb, cond_true, asrt_eq (by omega), wr64 (by omega) (by omega), Int.toNat_natCast]
    by_cases c0 : 0 < i
    · rw [if_pos c0] at hw
      have : decide (0 < (i : Int)) = true := by simp; omega
      rw [this, cond_true]
      by_cases c : ((a1.getD i []).length : Int) = w
      · rw [decide_eq_true c]
        exact ⟨_, rfl, by simp, forall_lt_succ.2 ⟨hj, by omega⟩, by simp only; rw [if_pos (by omega)]; omega⟩
      · rw [decide_eq_false c]
        exact ⟨_, rfl, rfl, i, hi, by omega⟩
    · have : decide (0 < (i : Int)) = false := by simp; omega
      rw [this, cond_false]
      have i0 : i = 0 := by omega
      subst i0
      exact ⟨_, rfl, by simp, forall_lt_succ.2 ⟨hj, rfl⟩, by simp⟩
  · rintro ⟨w, s⟩ ⟨rfl, hj, hw⟩
    simp only at hw
    unfold B30_11
    have hb : decide ((a1.length : Int) < (a1.length : Int)) = false := by simp
    simp only []
    rw [hb]
    refine ⟨_, rfl, ?_, hj⟩
    rw [hw]
    unfold wid
    split <;> rfl

theorem prod_ret (a0 a1 : List (List Int)) : ∃ r, F29 a0 a1 = some r ∧ F30 a0 a1 = some r ∧ r.1.length ≤ 8 ∧ ∀ x ∈ r.1, x.length ≤ 8 := by
  have nil : ∀ c : Int, (([], c) : List (List Int) × Int).1.length ≤ 8 ∧ ∀ x ∈ (([], c) : List (List Int) × Int).1, x.length ≤ 8 := fun c => ⟨Nat.zero_le _, fun x hx => by cases hx⟩
  unfold F29 F30
  by_cases c0 : 8 < (a0.length : Int)
  · rw [decide_eq_true c0]; exact ⟨_, rfl, rfl, nil _⟩
  by_cases c1 : 8 < (a1.length : Int)
  · rw [decide_eq_false c0, decide_eq_true c1]; exact ⟨_, rfl, rfl, nil _⟩
  rw [decide_eq_false c0, decide_eq_false c1]
  simp only [cond_false]
  have h0 : a0.length ≤ 8 := by omega
  have h1 : a1.length ≤ 8 := by omega
  obtain ⟨b, hb, hb1⟩ := F70_ret h0 h1
  obtain ⟨x, hx, hx1⟩ := L30_4_ret h0 h1
  rw [hb, hx]
  rcases x with _ | r
  case inr =>
    have : b = true := hb1.2 hx1.2
    rw [this, hx1.1]
    exact ⟨_, rfl, rfl, nil _⟩
  have hra : ∀ i, i < a0.length → (a0.getD i []).length = a1.length := hx1
  have : b = false := by
    refine Bool.eq_false_iff.2 fun e => ?_
    obtain ⟨i, hi, hne⟩ := hb1.1 e
    exact hne (hra i hi)
  rw [this]
  simp only [Option.bind_some, cond_false, Sum.elim_inl]
  obtain ⟨b, hb, hb1⟩ := F70b_ret h1
  obtain ⟨x, hx, hx1⟩ := L30_11_ret h1
  rw [hb, hx]
  rcases x with p | r
  case inr =>
    have : b = true := hb1.2 hx1.2
    rw [this, hx1.1]
    exact ⟨_, rfl, rfl, nil _⟩
  obtain ⟨hp, hrb⟩ := hx1
  have : b = false := by
    refine Bool.eq_false_iff.2 fun e => ?_
    obtain ⟨i, hi, hne⟩ := hb1.1 e
    exact hne (hrb i hi)
  rw [this]
  simp only [Option.bind_some, cond_false, Sum.elim_inl]
  have hw : (bif decide (0 < (a1.length : Int)) then asrt (0 < (a1.length : Int)) (some ((a1.getD 0 []).length : Int)) else some 0) = some p := by
    rw [hp]
    unfold wid
    by_cases c : 0 < a1.length
    · rw [if_pos c, decide_eq_true (by omega : 0 < (a1.length : Int)), cond_true, asrt_eq (by omega)]
    · rw [if_neg c, decide_eq_false (by omega : ¬ 0 < (a1.length : Int))]; rfl
  have hrbp : ∀ i, i < a1.length → (a1.getD i []).length = wid a1 := fun i hi => by
    unfold wid
    rw [if_pos (by omega), hrb i hi]
  first | rw [hw] | (have hw' := hw; simp only [] at hw'; rw [hw'])
  simp only [Option.bind_some]
  by_cases c2 : 8 < p
  · rw [decide_eq_true c2]; exact ⟨_, rfl, rfl, nil _⟩
  rw [decide_eq_false c2]
  simp only [cond_false]
  have r0 : ∀ i, i < a0.length → (a0.getD i []).length ≤ 8 := fun i hi => by rw [hra i hi]; exact h1
  have r1 : ∀ i, i < a1.length → (a1.getD i []).length ≤ 8 := fun i hi => by rw [hrbp i hi]; omega
  obtain ⟨x, hx, hx1⟩ := L29_11_ret h0 h1 r0 r1
  obtain ⟨y, hy, hy1⟩ := L30_20_ret h0 h1 r0 r1
  rw [hx, hy]
  rcases x with _ | x <;> rcases y with _ | y
  · obtain ⟨n0, n1⟩ := hx1
    have hpr : PrOk a0 a1 (wid a1) := ⟨h0, h1, by omega, hra, hrbp, n0, n1⟩
    obtain ⟨q, hq, hq1⟩ := L29_19_ret hpr
    obtain ⟨r, hr, hr1⟩ := L30_28_ret hpr
    have := hq1.uniq hr1
    subst this
    simp only [Option.bind_some, Sum.elim_inl]
    rw [asrt_eq (by refine ⟨by omega, Int.le_refl _, by omega, by omega⟩), Int.toNat_natCast, hp, hq, hr]
    simp only [Option.bind_some]
    rw [asrt_eq (by omega)]
    refine ⟨_, rfl, rfl, by rw [hq1.1]; exact h0, fun x hx => ?_⟩
    obtain ⟨i, hi, rfl⟩ := mem_getD [] hx
    rw [hq1.1] at hi
    rw [hq1.2.1 i hi]
    omega
  · exact absurd hx1 hy1.2
  · exact absurd hy1 hx1.2
  · rw [hx1.1, hy1.1]
    exact ⟨_, rfl, rfl, nil _⟩

end
/-! ### closures: the law itself -/

/-- values of places that may be: those in S, none ahead of z -/
def Pot (n : Nat) (S : Nat → Prop) (z : Nat → Int) (c : Nat → Nat → Int) : Prop := ∀ i j, i < n → j < n → S i → c i j ≠ (-4611686018427387904 : Int) → S j ∧ z i + c i j ≤ z j

/-- the greatest sums of ways from i -/
structure Wrow (n : Nat) (c : Nat → Nat → Int) (i : Nat) (w : Nat → Int) : Prop where
  z0 : w i = 0
  cl : Pot n (fun j => w j ≠ (-4611686018427387904 : Int)) w c
  le : ∀ S z, Pot n S z c → S i → 0 ≤ z i → ∀ j, j < n → w j ≠ (-4611686018427387904 : Int) → S j ∧ w j ≤ z j

theorem Wrow.uniq {n : Nat} {c : Nat → Nat → Int} {i : Nat} {w u : Nat → Int} (h : Wrow n c i w) (k : Wrow n c i u) {j : Nat} (hj : j < n) : w j = u j := by
  have n0 : (0 : Int) ≠ (-4611686018427387904 : Int) := by decide
  have hw : w i ≠ (-4611686018427387904 : Int) := by rw [h.z0]; exact n0
  have hu : u i ≠ (-4611686018427387904 : Int) := by rw [k.z0]; exact n0
  by_cases cw : w j = (-4611686018427387904 : Int)
  · by_cases cu : u j = (-4611686018427387904 : Int)
    · rw [cw, cu]
    · exact absurd cw (k.le _ _ h.cl hw (by rw [h.z0]; exact Int.le_refl _) j hj cu).1
  · have h1 := h.le _ _ k.cl hu (by rw [k.z0]; exact Int.le_refl _) j hj cw
    have h2 := k.le _ _ h.cl hw (by rw [h.z0]; exact Int.le_refl _) j hj h1.1
    omega

/-- through the places below K nothing is better -/
def Thr (n K : Nat) (c : Nat → Nat → Int) : Prop := ∀ k i j, k < K → i < n → j < n → c i k ≠ (-4611686018427387904 : Int) → c k j ≠ (-4611686018427387904 : Int) → c i j ≠ (-4611686018427387904 : Int) ∧ c i k + c k j ≤ c i j

/-- one step: through K, too -/
noncomputable def updF (c : Nat → Nat → Int) (K i j : Nat) : Int := if c i K ≠ (-4611686018427387904 : Int) ∧ c K j ≠ (-4611686018427387904 : Int) then max (c i j) (c i K + c K j) else c i j

theorem updF_cases (c : Nat → Nat → Int) (K i j : Nat) : (updF c K i j = c i j) ∨ (c i K ≠ (-4611686018427387904 : Int) ∧ c K j ≠ (-4611686018427387904 : Int) ∧ updF c K i j = c i K + c K j) := by
  unfold updF
  split
  · rename_i h
    by_cases c1 : c i K + c K j ≤ c i j
    · left; omega
    · right; exact ⟨h.1, h.2, by omega⟩
  · exact .inl rfl

theorem updF_ge (c : Nat → Nat → Int) (K i j : Nat) : c i j ≤ updF c K i j := by
  unfold updF
  split
  · omega
  · exact Int.le_refl _

theorem updF_th {c : Nat → Nat → Int} {K i j : Nat} (h1 : c i K ≠ (-4611686018427387904 : Int)) (h2 : c K j ≠ (-4611686018427387904 : Int)) : c i K + c K j ≤ updF c K i j := by
  unfold updF
  rw [if_pos ⟨h1, h2⟩]
  omega

theorem Thr.step {n K : Nat} {c : Nat → Nat → Int} {B : Int} (hB : B ≤ 1846757322198614016) (hb : ∀ i j, i < n → j < n → c i j = (-4611686018427387904 : Int) ∨ (-B ≤ c i j ∧ c i j ≤ B)) (h : Thr n K c) (hK : K < n) (h0 : c K K ≤ 0) {d : Nat → Nat → Int} (hd : ∀ i j, i < n → j < n → d i j = updF c K i j) : Thr n (K + 1) d := by
  intro k i j hk hi hj h1 h2
  have hkn : k < n := by omega
  rw [hd i k hi hkn] at h1 ⊢
  rw [hd k j hkn hj] at h2 ⊢
  rw [hd i j hi hj]
  -- what is to be shown follows from a way through K, or from none
  have fin : ∀ x : Int, c i K ≠ (-4611686018427387904 : Int) → c K j ≠ (-4611686018427387904 : Int) → x ≤ c i K + c K j → updF c K i j ≠ (-4611686018427387904 : Int) ∧ x ≤ updF c K i j := fun x a1 a2 a3 => by
    have b1 := hb i K hi hK
    have b2 := hb K j hK hj
    have := updF_th a1 a2
    exact ⟨by omega, by omega⟩
  have ge := updF_ge c K i j
  have bij := hb i j hi hj
  by_cases e : k = K
  · subst e
    have f1 : c i k ≠ (-4611686018427387904 : Int) ∧ updF c k i k ≤ c i k := by
      rcases updF_cases c k i k with e | ⟨a1, a2, e⟩
      · exact ⟨by rw [← e]; exact h1, by omega⟩
      · exact ⟨a1, by omega⟩
    have f2 : c k j ≠ (-4611686018427387904 : Int) ∧ updF c k k j ≤ c k j := by
      rcases updF_cases c k k j with e | ⟨a1, a2, e⟩
      · exact ⟨by rw [← e]; exact h2, by omega⟩
      · exact ⟨a2, by omega⟩
    exact fin _ f1.1 f2.1 (by omega)
  · have hkK : k < K := by omega
    rcases updF_cases c K i k with e1 | ⟨a1, a2, e1⟩ <;> rcases updF_cases c K k j with e2 | ⟨b1, b2, e2⟩
    · rw [e1] at h1
      rw [e2] at h2
      obtain ⟨g1, g2⟩ := h k i j hkK hi hj h1 h2
      exact ⟨by omega, by omega⟩
    · rw [e1] at h1
      obtain ⟨g1, g2⟩ := h k i K hkK hi hK h1 b1
      exact fin _ g1 b2 (by omega)
    · rw [e2] at h2
      obtain ⟨g1, g2⟩ := h k K j hkK hK hj a2 h2
      exact fin _ a1 g1 (by omega)
    · obtain ⟨g1, g2⟩ := h k K K hkK hK hK a2 b1
      exact fin _ a1 b2 (by omega)

/-- the closure, out of what all steps have made -/
theorem Wrow.of {n : Nat} {a g : Nat → Nat → Int} (ha : ∀ i j, i < n → j < n → a i j ≤ g i j) (han : ∀ i j, i < n → j < n → a i j = (-4611686018427387904 : Int) ∨ -1099511627776 ≤ a i j) (hT : Thr n n g) (h0 : ∀ v, v < n → g v v ≤ 0) (hp : ∀ S z, Pot n S z a → Pot n S z g) {i : Nat} (hi : i < n) {w : Nat → Int} (hw : ∀ j, j < n → w j = if j = i then 0 else g i j) : Wrow n a i w := by
  have wi : w i = 0 := by rw [hw i hi, if_pos rfl]
  refine ⟨wi, fun k j hk hj h1 h2 => ?_, fun S z hz hS hz0 j hj hne => ?_⟩
  · have hg1 := ha k j hk hj
    have hg2 := han k j hk hj
    have hgkj : g k j ≠ (-4611686018427387904 : Int) := by omega
    simp only at h1 ⊢
    by_cases ek : k = i
    · subst ek
      rw [wi, hw j hj]
      by_cases ej : j = k
      · subst ej
        rw [if_pos rfl]
        have := h0 j hj
        exact ⟨by decide, by omega⟩
      · rw [if_neg ej]
        exact ⟨hgkj, by omega⟩
    · rw [hw k hk, if_neg ek] at h1 ⊢
      obtain ⟨g1, g2⟩ := hT k i j hk hi hj h1 hgkj
      rw [hw j hj]
      by_cases ej : j = i
      · subst ej
        rw [if_pos rfl]
        have := h0 j hj
        exact ⟨by decide, by omega⟩
      · rw [if_neg ej]
        exact ⟨g1, by omega⟩
  · rw [hw j hj] at hne ⊢
    by_cases ej : j = i
    · subst ej
      rw [if_pos rfl]
      exact ⟨hS, hz0⟩
    · rw [if_neg ej] at hne ⊢
      obtain ⟨p1, p2⟩ := hp S z hz i j hi hj hS hne
      exact ⟨p1, by omega⟩

/-- how many places have their last value -/
def cntE (r w : Nat → Int) : Nat → Nat
  | 0 => 0
  | n + 1 => cntE r w n + if r n = w n then 1 else 0

theorem cntE_le (r w : Nat → Int) : ∀ n, cntE r w n ≤ n
  | 0 => Nat.le_refl _
  | n + 1 => by have := cntE_le r w n; unfold cntE; split <;> omega

theorem cntE_all {r w : Nat → Int} : ∀ {n : Nat}, n ≤ cntE r w n → ∀ j, j < n → r j = w j
  | 0, _, j, hj => by omega
  | n + 1, h, j, hj => by
    have h1 := cntE_le r w n
    unfold cntE at h
    split at h
    · rename_i e
      by_cases c : j = n
      · subst c; exact e
      · exact cntE_all (n := n) (by omega) j (by omega)
    · omega

theorem cntE_mono {r q w : Nat → Int} : ∀ {n : Nat}, (∀ j, j < n → r j = w j → q j = w j) → cntE r w n ≤ cntE q w n ∧ ((∃ j, j < n ∧ r j ≠ w j ∧ q j = w j) → cntE r w n < cntE q w n)
  | 0, _ => ⟨Nat.le_refl _, fun ⟨j, hj, _⟩ => absurd hj (Nat.not_lt_zero _)⟩
  | n + 1, h => by
    obtain ⟨h1, h2⟩ := cntE_mono (r := r) (q := q) (w := w) (n := n) fun j hj => h j (by omega)
    have h3 := h n (by omega)
    unfold cntE
    constructor
    · by_cases c : r n = w n
      · rw [if_pos c, if_pos (h3 c)]; omega
      · rw [if_neg c]; omega
    · rintro ⟨j, hj, n1, n2⟩
      by_cases e : j = n
      · subst e
        rw [if_neg n1, if_pos n2]; omega
      · have := h2 ⟨j, by omega, n1, n2⟩
        by_cases c : r n = w n
        · rw [if_pos c, if_pos (h3 c)]; omega
        · rw [if_neg c]; omega

theorem cntE_pos {r w : Nat → Int} {i : Nat} : ∀ {n : Nat}, i < n → r i = w i → 1 ≤ cntE r w n
  | 0, h, _ => by omega
  | n + 1, h, e => by
    unfold cntE
    by_cases c : i = n
    · subst c; rw [if_pos e]; omega
    · have := cntE_pos (n := n) (by omega) e; omega

/-- a round over all arcs gives one more place its last value, if one is left -/
theorem one_more {n : Nat} {a : Nat → Nat → Int} {i : Nat} {w r q : Nat → Int} (hw : Wrow n a i w) (hi : i < n) (hr0 : r i = 0) (hrw : ∀ j, j < n → r j ≠ (-4611686018427387904 : Int) → w j ≠ (-4611686018427387904 : Int) ∧ r j ≤ w j) (hqw : ∀ j, j < n → q j ≠ (-4611686018427387904 : Int) → w j ≠ (-4611686018427387904 : Int) ∧ q j ≤ w j) (hrq : ∀ j, j < n → r j ≤ q j) (hrb : ∀ j, j < n → r j = (-4611686018427387904 : Int) ∨ -1099511627776000 ≤ r j) (hqb : ∀ j, j < n → q j = (-4611686018427387904 : Int) ∨ -1099511627776000 ≤ q j) (hab : ∀ k j, k < n → j < n → a k j = (-4611686018427387904 : Int) ∨ -1099511627776 ≤ a k j) (hsc : ∀ k j, k < n → j < n → r k ≠ (-4611686018427387904 : Int) → a k j ≠ (-4611686018427387904 : Int) → r k + a k j ≤ q j) :
    min (cntE r w n + 1) n ≤ cntE q w n := by
  have hkeep : ∀ j, j < n → r j = w j → q j = w j := fun j hj e => by
    by_cases c : w j = (-4611686018427387904 : Int)
    · by_cases cq : q j = (-4611686018427387904 : Int)
      · rw [c, cq]
      · exact absurd c (hqw j hj cq).1
    · have h1 := hrq j hj
      have h2 := hrb j hj
      have h3 := hqw j hj (by omega)
      omega
  obtain ⟨m1, m2⟩ := cntE_mono (n := n) hkeep
  by_cases hall : ∀ j, j < n → r j = w j
  · have : n ≤ cntE r w n := by
      have : ∀ m, m ≤ n → cntE r w m = m := fun m => by
        induction m with
        | zero => intro _; rfl
        | succ m ih =>
          intro hm
          unfold cntE
          rw [ih (by omega), if_pos (hall m (by omega))]
      rw [this n (Nat.le_refl _)]
      exact Nat.le_refl _
    omega
  · by_cases hex : ∃ j, j < n ∧ r j ≠ w j ∧ q j = w j
    · have := m2 hex; omega
    · exfalso
      refine hall fun j hj => Classical.byContradiction fun hne => ?_
      have hnew : ∀ j, j < n → r j ≠ w j → q j ≠ w j := fun j hj h1 h2 => hex ⟨j, hj, h1, h2⟩
      have hwn : ∀ j, j < n → r j ≠ w j → w j ≠ (-4611686018427387904 : Int) := fun j hj h1 h2 => by
        by_cases c : r j = (-4611686018427387904 : Int)
        · exact h1 (by rw [c, h2])
        · exact (hrw j hj c).1 h2
      have hp : Pot n (fun j => w j ≠ (-4611686018427387904 : Int)) (fun j => if r j = w j then w j else w j - 1) a := fun k j hk hj h1 h2 => by
        obtain ⟨p1, p2⟩ := hw.cl k j hk hj h1 h2
        refine ⟨p1, ?_⟩
        simp only at h1 ⊢
        by_cases ck : r k = w k
        · rw [if_pos ck]
          by_cases cj : r j = w j
          · rw [if_pos cj]; exact p2
          · rw [if_neg cj]
            have s1 := hsc k j hk hj (by rw [ck]; exact h1) h2
            have s2 := hrb k hk
            have s3 := hab k j hk hj
            have s4 := hqw j hj (by omega)
            have s5 := hnew j hj cj
            omega
        · rw [if_neg ck]
          by_cases cj : r j = w j
          · rw [if_pos cj]; omega
          · rw [if_neg cj]; omega
      have := (hw.le _ _ hp (by show w i ≠ (-4611686018427387904 : Int); rw [hw.z0]; decide) (show (0 : Int) ≤ if r i = w i then w i else w i - 1 from by rw [if_pos (by rw [hr0, hw.z0]), hw.z0]; exact Int.le_refl _) j hj (hwn j hj hne)).2
      rw [if_neg hne] at this
      omega
/-! ### Closure: through one place after the other -/

structure Shp (n P : Nat) (m : List (List Int)) : Prop where
  len : m.length = P
  row : ∀ k, k < P → (m.getD k []).length = n

theorem Shp.set {n P : Nat} {m : List (List Int)} (h : Shp n P m) {k t : Nat} {d : Int} : Shp n P (m.set k ((m.getD k []).set t d)) := by
  refine ⟨by rw [lset_len]; exact h.len, fun j hj => ?_⟩
  rw [row_set]
  exact h.row j hj

def Bd (c x : Int) : Prop := x = (-4611686018427387904 : Int) ∨ (-c ≤ x ∧ x ≤ c)

/-- is the place done? -/
def Dne (i j i' j' : Nat) : Prop := i' < i ∨ (i' = i ∧ j' < j)

instance (i j i' j' : Nat) : Decidable (Dne i j i' j') := by unfold Dne; infer_instance

/-- how great a place may be -/
def bdd (B : Int) (K i j i' j' : Nat) : Int := if ¬ Dne i j i' j' then B else if i' = K ∧ j' = K then 2 * B else if i' = K ∨ j' = K then 3 * B else 6 * B

structure FWI (n K : Nat) (B : Int) (m q : List (List Int)) (i j : Nat) : Prop where
  shp : Shp n n q
  bd : ∀ i' j', i' < n → j' < n → Bd (bdd B K i j i' j') (cell q i' j')
  mono : ∀ i' j', i' < n → j' < n → cell m i' j' ≤ cell q i' j'
  pot : ∀ S z, Pot n S z (cell m) → Pot n S z (cell q)
  upd : cell m K K ≤ 0 → ∀ i' j', i' < n → j' < n → cell q i' j' = if Dne i j i' j' then updF (cell m) K i' j' else cell m i' j'

theorem FWI.next {n K : Nat} {B : Int} {m q : List (List Int)} {i j : Nat} (h : FWI n K B m q i j) (hB0 : 0 ≤ B) (hB : B ≤ 307792887033102336) (hi : i < n) (hj : j < n) (hK : K < n) (hno : cell q i K = (-4611686018427387904 : Int) ∨ cell q K j = (-4611686018427387904 : Int)) (hbm : ∀ i j, i < n → j < n → Bd B (cell m i j)) : FWI n K B m q i (j + 1) := by
  refine ⟨h.shp, fun i' j' hi' hj' => ?_, h.mono, h.pot, fun h0 i' j' hi' hj' => ?_⟩
  · have := h.bd i' j' hi' hj'
    unfold Bd bdd Dne at this ⊢
    by_cases c : i' = i ∧ j' = j
    · obtain ⟨rfl, rfl⟩ := c
      rw [if_pos (by omega)] at this
      rw [if_neg (by omega)]
      split
      · omega
      · split <;> omega
    · by_cases d : i' < i ∨ i' = i ∧ j' < j
      · rw [if_neg (by omega)] at this ⊢
        exact this
      · rw [if_pos (by omega)] at this ⊢
        exact this
  · have e := h.upd h0 i' j' hi' hj'
    by_cases c : i' = i ∧ j' = j
    · obtain ⟨rfl, rfl⟩ := c
      rw [if_neg (by unfold Dne; omega)] at e
      rw [if_pos (by unfold Dne; omega), e]
      have e1 := h.upd h0 i' K hi hK
      have e2 := h.upd h0 K j' hK hj
      -- the places that are read have not changed
      have r1 : cell m i' K ≠ (-4611686018427387904 : Int) → cell m K j' ≠ (-4611686018427387904 : Int) → False := fun a1 a2 => by
        rcases hno with hno | hno
        · rw [hno] at e1
          split at e1
          · have := updF_ge (cell m) K i' K
            have := hbm i' K hi hK
            unfold Bd at this
            omega
          · exact a1 e1.symm
        · rw [hno] at e2
          split at e2
          · have := updF_ge (cell m) K K j'
            have := hbm K j' hK hj
            unfold Bd at this
            omega
          · exact a2 e2.symm
      unfold updF
      rw [if_neg fun hh => r1 hh.1 hh.2]
    · rw [e]
      by_cases d : Dne i j i' j'
      · rw [if_pos d, if_pos (by unfold Dne at d ⊢; omega)]
      · rw [if_neg d, if_neg (by unfold Dne at d ⊢; omega)]

theorem updF_K {c : Nat → Nat → Int} {K : Nat} (h0 : c K K ≤ 0) (j : Nat) : updF c K K j = c K j ∧ updF c K j K = c j K := by
  constructor
  · rcases updF_cases c K K j with e | ⟨_, _, e⟩
    · exact e
    · have := updF_ge c K K j; omega
  · rcases updF_cases c K j K with e | ⟨_, _, e⟩
    · exact e
    · have := updF_ge c K j K; omega

theorem FWI.put {n K : Nat} {B : Int} {m q : List (List Int)} {i j : Nat} (h : FWI n K B m q i j) (hB0 : 0 ≤ B) (hi : i < n) (hj : j < n) (hK : K < n) (n1 : cell q i K ≠ (-4611686018427387904 : Int)) (n2 : cell q K j ≠ (-4611686018427387904 : Int)) : FWI n K B m (q.set i ((q.getD i []).set j (max (cell q i j) (cell q i K + cell q K j)))) i (j + 1) := by
  have hcs := cell_set' (m := q) (k := i) (t := j) (d := max (cell q i j) (cell q i K + cell q K j)) (by rw [h.shp.len]; exact hi) (by rw [h.shp.row i hi]; exact hj)
  have b1 := h.bd i K hi hK
  have b2 := h.bd K j hK hj
  have b3 := h.bd i j hi hj
  refine ⟨h.shp.set, fun i' j' hi' hj' => ?_, fun i' j' hi' hj' => ?_, fun S z hz => ?_, fun h0 i' j' hi' hj' => ?_⟩
  · rw [hcs]
    by_cases c : i' = i ∧ j' = j
    · obtain ⟨rfl, rfl⟩ := c
      rw [if_pos ⟨rfl, rfl⟩]
      unfold Bd bdd Dne at *
      rw [if_pos (by omega)] at b3
      rw [if_neg (by omega)]
      right
      have b1 := b1.resolve_left n1
      have b2 := b2.resolve_left n2
      by_cases ci : i' = K
      · subst ci
        rw [if_pos (by omega)] at b2
        by_cases cj : j' = i'
        · subst cj
          rw [if_pos (by omega)] at b1
          rw [if_pos ⟨rfl, rfl⟩]
          rcases b3 with b3 | b3 <;> omega
        · rw [if_neg (by omega), if_pos (by omega)]
          by_cases ck : i' < j'
          · rw [if_neg (by omega), if_pos ⟨rfl, rfl⟩] at b1
            rcases b3 with b3 | b3 <;> omega
          · rw [if_pos (by omega)] at b1
            rcases b3 with b3 | b3 <;> omega
      · have c2 : -(3 * B) ≤ cell q K j' ∧ cell q K j' ≤ 3 * B ∧ (j' = K → -(2 * B) ≤ cell q K j' ∧ cell q K j' ≤ 2 * B) := by
          by_cases ck : K < i'
          · rw [if_neg (by omega)] at b2
            by_cases cj : j' = K
            · rw [if_pos ⟨rfl, cj⟩] at b2; omega
            · rw [if_neg (by omega), if_pos (by omega)] at b2; omega
          · rw [if_pos (by omega)] at b2; omega
        have c1 : -(3 * B) ≤ cell q i' K ∧ cell q i' K ≤ 3 * B ∧ (j' = K → -B ≤ cell q i' K ∧ cell q i' K ≤ B) := by
          by_cases ck : K < j'
          · rw [if_neg (by omega), if_neg (by omega), if_pos (by omega)] at b1; omega
          · rw [if_pos (by omega)] at b1; omega
        rw [if_neg (by omega)]
        by_cases cj : j' = K
        · have c1' := c1.2.2 cj
          have c2' := c2.2.2 cj
          rw [if_pos (by omega)]
          rcases b3 with b3 | b3 <;> omega
        · rw [if_neg (by omega)]
          rcases b3 with b3 | b3 <;> omega
    · rw [if_neg c]
      have := h.bd i' j' hi' hj'
      unfold Bd bdd Dne at this ⊢
      by_cases d : i' < i ∨ i' = i ∧ j' < j
      · rw [if_neg (by omega)] at this ⊢
        exact this
      · rw [if_pos (by omega)] at this ⊢
        exact this
  · rw [hcs]
    have := h.mono i' j' hi' hj'
    split
    · rename_i c; rw [c.1, c.2] at this ⊢; omega
    · exact this
  · have hq := h.pot S z hz
    intro i' j' hi' hj' hS hne
    rw [hcs] at hne ⊢
    by_cases c : i' = i ∧ j' = j
    · obtain ⟨rfl, rfl⟩ := c
      rw [if_pos ⟨rfl, rfl⟩]
      obtain ⟨s1, s2⟩ := hq i' K hi hK hS n1
      obtain ⟨s3, s4⟩ := hq K j' hK hj s1 n2
      refine ⟨s3, ?_⟩
      by_cases cn : cell q i' j' = (-4611686018427387904 : Int)
      · have p1 := b1.resolve_left n1
        have p2 := b2.resolve_left n2
        by_cases cm : cell q i' j' ≤ cell q i' K + cell q K j'
        · omega
        · rw [show max (cell q i' j') (cell q i' K + cell q K j') = cell q i' j' by omega]
          rw [if_pos ⟨rfl, rfl⟩] at hne
          exact absurd (by omega : max (cell q i' j') (cell q i' K + cell q K j') = (-4611686018427387904 : Int)) hne
      · have := (hq i' j' hi' hj' hS cn).2
        omega
    · rw [if_neg c] at hne ⊢
      exact hq i' j' hi' hj' hS hne
  · rw [hcs]
    have e := h.upd h0 i' j' hi' hj'
    by_cases c : i' = i ∧ j' = j
    · obtain ⟨rfl, rfl⟩ := c
      rw [if_neg (by unfold Dne; omega)] at e
      rw [if_pos ⟨rfl, rfl⟩, if_pos (by unfold Dne; omega), e]
      have e1 := h.upd h0 i' K hi hK
      have e2 := h.upd h0 K j' hK hj
      have k1 : cell q i' K = cell m i' K := by rw [e1]; split; exact (updF_K h0 i').2; rfl
      have k2 : cell q K j' = cell m K j' := by rw [e2]; split; exact (updF_K h0 j').1; rfl
      rw [k1] at n1 ⊢
      rw [k2] at n2 ⊢
      unfold updF
      rw [if_pos ⟨n1, n2⟩]
    · rw [if_neg c, e]
      by_cases d : Dne i j i' j'
      · rw [if_pos d, if_pos (by unfold Dne at d ⊢; omega)]
      · rw [if_neg d, if_neg (by unfold Dne at d ⊢; omega)]

theorem L31_21_ret {n K : Nat} {B : Int} (hn : n ≤ 8) (hB0 : 0 ≤ B) (hB : B ≤ 307792887033102336) (hK : K < n) {m : List (List Int)} (hbm : ∀ i j, i < n → j < n → Bd B (cell m i j)) {i : Nat} (hi : i < n) {q0 : List (List Int)} (h0 : FWI n K B m q0 i 0) :
    Ret (L31_21 (K : Int) (i : Int) q0 (0, q0)) fun q => FWI n K B m q (i + 1) 0 := by
  have hq0 := h0.shp.len
  unfold L31_21
  refine Ret.loop n (fun j s => s.1 = (j : Int) ∧ FWI n K B m s.2 i j) ⟨rfl, h0⟩ ?_ ?_
  · rintro j ⟨y, q⟩ hj ⟨rfl, w⟩
    simp only at w
    have hl := w.shp.len
    have hri := w.shp.row i hi
    have hrK := w.shp.row K hK
    have c1 : (q.getD i []).getD K 0 = cell q i K := rfl
    have c2 : (q.getD K []).getD j 0 = cell q K j := rfl
    have c3 : (q.getD i []).getD j 0 = cell q i j := rfl
    have b1 := w.bd i K hi hK
    have b2 := w.bd K j hK hj
    have hbd : ∀ i' j', bdd B K i j i' j' ≤ 6 * B := fun i' j' => by unfold bdd; repeat' split; all_goals omega
    have hbd1 := hbd i K
    have hbd2 := hbd K j
    unfold Bd at b1 b2
    unfold B31_21
    by_cases a1 : cell q i K = (-4611686018427387904 : Int)
    · simp (disch := omega) only [Ret_some, Ret_none, Ret_bind, Ret_asrt, Ret_cond, Sum.elim_inl, Sum.elim_inr, decide_eq_true_eq, decide_eq_false_iff_not, Bool.not_eq_true', Bool.not_not, Bool.and_eq_true, Bool.or_eq_true, Bool.true_eq_false, Bool.false_eq_true, Bool.not_true, Bool.not_false, if_true, if_false, ite_true, ite_false, true_and, and_true, false_and, and_false, Int.toNat_natCast, toN_succ, Int.ofNat_eq_natCast, Int.ofNat_toNat, Nat.zero_add, Nat.add_zero, not_true_eq_false, not_false_eq_true, implies_true, wr64, tblM, c1, a1]
      rw [if_pos (by omega)]
      exact ⟨by omega, by omega, by omega, by omega, by omega, w.next hB0 hB hi hj hK (.inl a1) hbm⟩
    · by_cases a2 : cell q K j = (-4611686018427387904 : Int)
      · simp (disch := omega) only [Ret_some, Ret_none, Ret_bind, Ret_asrt, Ret_cond, Sum.elim_inl, Sum.elim_inr, decide_eq_true_eq, decide_eq_false_iff_not, Bool.not_eq_true', Bool.not_not, Bool.and_eq_true, Bool.or_eq_true, Bool.true_eq_false, Bool.false_eq_true, Bool.not_true, Bool.not_false, if_true, if_false, ite_true, ite_false, true_and, and_true, false_and, and_false, Int.toNat_natCast, toN_succ, Int.ofNat_eq_natCast, Int.ofNat_toNat, Nat.zero_add, Nat.add_zero, not_true_eq_false, not_false_eq_true, implies_true, wr64, tblM, c1, c2, a1, a2]
        rw [if_pos (by omega)]
        exact ⟨by omega, by omega, by omega, by omega, by omega, by omega, by omega, by omega, by omega, w.next hB0 hB hi hj hK (.inr a2) hbm⟩
      · have hw : IntKind.wrap .i64 (cell q i K + cell q K j) = cell q i K + cell q K j := wr64 (by omega) (by omega)
        simp (disch := omega) only [Ret_some, Ret_none, Ret_bind, Ret_asrt, Ret_cond, Sum.elim_inl, Sum.elim_inr, decide_eq_true_eq, decide_eq_false_iff_not, Bool.not_eq_true', Bool.not_not, Bool.and_eq_true, Bool.or_eq_true, Bool.true_eq_false, Bool.false_eq_true, Bool.not_true, Bool.not_false, if_true, if_false, ite_true, ite_false, true_and, and_true, false_and, and_false, Int.toNat_natCast, toN_succ, Int.ofNat_eq_natCast, Int.ofNat_toNat, Nat.zero_add, Nat.add_zero, not_true_eq_false, not_false_eq_true, implies_true, wr64, tblM, c1, c2, c3, a1, a2, hw]
        rw [if_pos (by omega)]
        exact ⟨by omega, by omega, by omega, by omega, by omega, by omega, by omega, by omega, by omega, by omega, by omega, w.put hB0 hi hj hK a1 a2⟩
  · rintro ⟨y, q⟩ ⟨rfl, w⟩
    unfold B31_21
    simp (disch := omega) only [Ret_some, Ret_none, Ret_bind, Ret_asrt, Ret_cond, Sum.elim_inl, Sum.elim_inr, decide_eq_true_eq, decide_eq_false_iff_not, Bool.not_eq_true', Bool.not_not, Bool.and_eq_true, Bool.or_eq_true, Bool.true_eq_false, Bool.false_eq_true, Bool.not_true, Bool.not_false, if_true, if_false, ite_true, ite_false, true_and, and_true, false_and, and_false, Int.toNat_natCast, toN_succ, Int.ofNat_eq_natCast, Int.ofNat_toNat, Nat.zero_add, Nat.add_zero, not_true_eq_false, not_false_eq_true, implies_true, wr64]
    rw [if_neg (by omega)]
    refine ⟨w.shp, fun i' j' hi' hj' => ?_, w.mono, w.pot, fun h0 i' j' hi' hj' => ?_⟩
    · have := w.bd i' j' hi' hj'
      unfold Bd bdd Dne at this ⊢
      by_cases d : i' < i ∨ i' = i ∧ j' < n
      · rw [if_neg (by omega)] at this ⊢; exact this
      · rw [if_pos (by omega)] at this ⊢; exact this
    · rw [w.upd h0 i' j' hi' hj']
      by_cases d : Dne i n i' j'
      · rw [if_pos d, if_pos (by unfold Dne at d ⊢; omega)]
      · rw [if_neg d, if_neg (by unfold Dne at d ⊢; omega)]

theorem L31_18_ret {n K : Nat} {B : Int} (hn : n ≤ 8) (hB0 : 0 ≤ B) (hB : B ≤ 307792887033102336) (hK : K < n) {m : List (List Int)} (hm : Shp n n m) (hbm : ∀ i j, i < n → j < n → Bd B (cell m i j)) :
    Ret (L31_18 (K : Int) m (0, m)) fun q => FWI n K B m q n 0 := by
  have hl := hm.len
  unfold L31_18
  refine Ret.loop n (fun i s => s.1 = (i : Int) ∧ FWI n K B m s.2 i 0) ⟨rfl, hm, fun i' j' hi' hj' => ?_, fun _ _ _ _ => Int.le_refl _, fun _ _ h => h, fun _ i' j' _ _ => by rw [if_neg (by unfold Dne; omega)]⟩ ?_ ?_
  · unfold bdd Dne
    rw [if_pos (by omega)]
    exact hbm i' j' hi' hj'
  · rintro i ⟨y, q⟩ hi ⟨rfl, w⟩
    obtain ⟨q', hq', w'⟩ := L31_21_ret hn hB0 hB hK hbm hi w
    unfold B31_18
    simp only [hq']
    simp (disch := omega) only [Ret_some, Ret_none, Ret_bind, Ret_asrt, Ret_cond, Sum.elim_inl, Sum.elim_inr, decide_eq_true_eq, decide_eq_false_iff_not, Bool.not_eq_true', Bool.not_not, Bool.and_eq_true, Bool.or_eq_true, Bool.true_eq_false, Bool.false_eq_true, Bool.not_true, Bool.not_false, if_true, if_false, ite_true, ite_false, true_and, and_true, false_and, and_false, Int.toNat_natCast, toN_succ, Int.ofNat_eq_natCast, Int.ofNat_toNat, Nat.zero_add, Nat.add_zero, not_true_eq_false, not_false_eq_true, implies_true, wr64]
    rw [if_pos (by omega)]
    exact ⟨by omega, w'⟩
  · rintro ⟨y, q⟩ ⟨rfl, w⟩
    unfold B31_18
    simp (disch := omega) only [Ret_some, Ret_none, Ret_bind, Ret_asrt, Ret_cond, Sum.elim_inl, Sum.elim_inr, decide_eq_true_eq, decide_eq_false_iff_not, Bool.not_eq_true', Bool.not_not, Bool.and_eq_true, Bool.or_eq_true, Bool.true_eq_false, Bool.false_eq_true, Bool.not_true, Bool.not_false, if_true, if_false, ite_true, ite_false, true_and, and_true, false_and, and_false, Int.toNat_natCast, toN_succ, Int.ofNat_eq_natCast, Int.ofNat_toNat, Nat.zero_add, Nat.add_zero, not_true_eq_false, not_false_eq_true, implies_true, wr64]
    rw [if_neg (by omega)]
    exact w

def bK : Nat → Int
  | 0 => 1099511627776
  | k + 1 => 6 * bK k

theorem bK_le (k : Fin 9) : 1099511627776 ≤ bK k.val ∧ bK k.val ≤ 1846757322198614016 ∧ (k.val < 8 → bK k.val ≤ 307792887033102336) := by
  revert k; decide

/-- a table that may have a closure -/
structure SqOk (a : List (List Int)) : Prop where
  ln : a.length ≤ 8
  row : ∀ i, i < a.length → (a.getD i []).length = a.length
  num : NumOk a

theorem SqOk.cel {a : List (List Int)} (h : SqOk a) {i j : Nat} (hi : i < a.length) (hj : j < a.length) : Okn (cell a i j) := h.num i j hi (by rw [h.row i hi]; exact hj)

/-- the closure -/
structure Cls (a q : List (List Int)) : Prop where
  shp : Shp a.length a.length q
  row : ∀ i, i < a.length → Wrow a.length (cell a) i (cell q i)

theorem Cls.uniq {a q r : List (List Int)} (h : Cls a q) (k : Cls a r) : q = r := by
  refine list_ext_getD [] (by rw [h.shp.len, k.shp.len]) fun i hi => ?_
  rw [h.shp.len] at hi
  refine list_ext_getD 0 (by rw [h.shp.row i hi, k.shp.row i hi]) fun v hv => ?_
  rw [h.shp.row i hi] at hv
  exact (h.row i hi).uniq (k.row i hi) hv

theorem F31_steps {a : List (List Int)} (h : SqOk a) : Ret (L31_15 a (0, a)) fun g => Shp a.length a.length g ∧ (∀ i j, i < a.length → j < a.length → Bd 1846757322198614016 (cell g i j)) ∧ (∀ i j, i < a.length → j < a.length → cell a i j ≤ cell g i j) ∧ (∀ S z, Pot a.length S z (cell a) → Pot a.length S z (cell g)) ∧ ((∀ v, v < a.length → cell g v v ≤ 0) → Thr a.length a.length (cell g)) := by
  have hn := h.ln
  unfold L31_15
  refine Ret.loop a.length (fun K s => s.1 = (K : Int) ∧ Shp a.length a.length s.2 ∧ (∀ i j, i < a.length → j < a.length → Bd (bK K) (cell s.2 i j)) ∧ (∀ i j, i < a.length → j < a.length → cell a i j ≤ cell s.2 i j) ∧ (∀ S z, Pot a.length S z (cell a) → Pot a.length S z (cell s.2)) ∧ ((∀ v, v < a.length → cell s.2 v v ≤ 0) → Thr a.length K (cell s.2)))
    ⟨rfl, ⟨rfl, h.row⟩, fun i j hi hj => ?_, fun _ _ _ _ => Int.le_refl _, fun _ _ hh => hh, fun _ k i j hk => by omega⟩ ?_ ?_
  · have := h.cel hi hj
    unfold Okn at this
    unfold Bd bK
    omega
  · rintro K ⟨y, m⟩ hK ⟨rfl, h1, h2, h3, h4, h5⟩
    simp only at h1 h2 h3 h4 h5
    obtain ⟨k1, k2, k3⟩ := bK_le ⟨K, by omega⟩
    simp only at k1 k2 k3
    have k3 := k3 (by omega)
    obtain ⟨q, hq, w⟩ := L31_18_ret hn (by omega) k3 hK h1 h2
    unfold B31_15
    rw [hq]
    simp (disch := omega) only [Ret_some, Ret_none, Ret_bind, Ret_asrt, Ret_cond, Sum.elim_inl, Sum.elim_inr, decide_eq_true_eq, decide_eq_false_iff_not, Bool.not_eq_true', Bool.not_not, Bool.and_eq_true, Bool.or_eq_true, Bool.true_eq_false, Bool.false_eq_true, Bool.not_true, Bool.not_false, if_true, if_false, ite_true, ite_false, true_and, and_true, false_and, and_false, Int.toNat_natCast, toN_succ, Int.ofNat_eq_natCast, Int.ofNat_toNat, Nat.zero_add, Nat.add_zero, not_true_eq_false, not_false_eq_true, implies_true, wr64]
    rw [if_pos (by omega)]
    refine ⟨by omega, w.shp, fun i j hi hj => ?_, fun i j hi hj => Int.le_trans (h3 i j hi hj) (w.mono i j hi hj), fun S z hz => w.pot S z (h4 S z hz), fun h0 => ?_⟩
    · have := w.bd i j hi hj
      unfold Bd bdd Dne at this
      unfold Bd
      rw [if_neg (by omega)] at this
      rw [bK]
      split at this
      · omega
      · split at this <;> omega
    · have hm0 : ∀ v, v < a.length → cell m v v ≤ 0 := fun v hv => Int.le_trans (w.mono v v hv hv) (h0 v hv)
      refine Thr.step (B := bK K) (by omega) (fun i j hi hj => h2 i j hi hj) (h5 hm0) hK (hm0 K hK) fun i j hi hj => ?_
      rw [w.upd (hm0 K hK) i j hi hj, if_pos (by unfold Dne; omega)]
  · rintro ⟨y, m⟩ ⟨rfl, h1, h2, h3, h4, h5⟩
    unfold B31_15
    simp (disch := omega) only [Ret_some, Ret_none, Ret_bind, Ret_asrt, Ret_cond, Sum.elim_inl, Sum.elim_inr, decide_eq_true_eq, decide_eq_false_iff_not, Bool.not_eq_true', Bool.not_not, Bool.and_eq_true, Bool.or_eq_true, Bool.true_eq_false, Bool.false_eq_true, Bool.not_true, Bool.not_false, if_true, if_false, ite_true, ite_false, true_and, and_true, false_and, and_false, Int.toNat_natCast, toN_succ, Int.ofNat_eq_natCast, Int.ofNat_toNat, Nat.zero_add, Nat.add_zero, not_true_eq_false, not_false_eq_true, implies_true, wr64]
    rw [if_neg (by omega)]
    refine ⟨h1, fun i j hi hj => ?_, h3, h4, h5⟩
    obtain ⟨_, k2, _⟩ := bK_le ⟨a.length, by omega⟩
    have := h2 i j hi hj
    simp only at k2 this
    unfold Bd at this ⊢
    omega

theorem F67_eq {x : List Int} (h0 : 0 < x.length) (h : x.length ≤ 1000) : F67 x = some ((), x) := by
  unfold F67 both
  rw [if_neg (by omega), asrt_eq (by omega), List.nil_append]

theorem L31_10_eq {a : List (List Int)} (h : SqOk a) : L31_10 a (0, List.replicate a.length []) = some a := by
  have hn := h.ln
  refine Ret.eq ?_
  unfold L31_10
  refine Ret.loop a.length (fun i s => s.1 = (i : Int) ∧ s.2.length = a.length ∧ ∀ k, k < i → s.2.getD k [] = a.getD k []) ⟨rfl, by simp, fun k hk => by omega⟩ ?_ ?_
  · rintro i ⟨y, q⟩ hi ⟨rfl, h1, h2⟩
    simp only at h1 h2
    have hr := h.row i hi
    unfold B31_10
    simp only [Int.toNat_natCast]
    rw [F67_eq (by omega) (by omega)]
    simp (disch := omega) only [Ret_some, Ret_none, Ret_bind, Ret_asrt, Ret_cond, Sum.elim_inl, Sum.elim_inr, decide_eq_true_eq, decide_eq_false_iff_not, Bool.not_eq_true', Bool.not_not, Bool.and_eq_true, Bool.or_eq_true, Bool.true_eq_false, Bool.false_eq_true, Bool.not_true, Bool.not_false, if_true, if_false, ite_true, ite_false, true_and, and_true, false_and, and_false, Int.toNat_natCast, toN_succ, Int.ofNat_eq_natCast, Int.ofNat_toNat, Nat.zero_add, Nat.add_zero, not_true_eq_false, not_false_eq_true, implies_true, wr64]
    rw [if_pos (by omega)]
    refine ⟨by omega, by omega, by omega, by omega, by rw [lset_len]; exact h1, forall_lt_succ.2 ⟨fun k hk => ?_, ?_⟩⟩
    · rw [lgetD_set, if_neg (by omega)]; exact h2 k hk
    · rw [lgetD_set, if_pos ⟨rfl, by omega⟩]
  · rintro ⟨y, q⟩ ⟨rfl, h1, h2⟩
    simp only at h1 h2
    unfold B31_10
    simp (disch := omega) only [Ret_some, Ret_none, Ret_bind, Ret_asrt, Ret_cond, Sum.elim_inl, Sum.elim_inr, decide_eq_true_eq, decide_eq_false_iff_not, Bool.not_eq_true', Bool.not_not, Bool.and_eq_true, Bool.or_eq_true, Bool.true_eq_false, Bool.false_eq_true, Bool.not_true, Bool.not_false, if_true, if_false, ite_true, ite_false, true_and, and_true, false_and, and_false, Int.toNat_natCast, toN_succ, Int.ofNat_eq_natCast, Int.ofNat_toNat, Nat.zero_add, Nat.add_zero, not_true_eq_false, not_false_eq_true, implies_true, wr64]
    rw [if_neg (by omega)]
    exact list_ext_getD [] h1 fun k hk => h2 k (by omega)

/-- the last step: what stands for a place itself -/
theorem L31_29_ret {n : Nat} (hn : n ≤ 8) {p g : List (List Int)} (hp : p.length = n) (hg : Shp n n g) : Ret (L31_29 p (0, g)) fun x => match x with | .inl q => (∀ v, v < n → cell g v v ≤ 0) ∧ Shp n n q ∧ ∀ i j, i < n → j < n → cell q i j = if j = i then 0 else cell g i j | .inr r => r = ([], 5) ∧ ∃ v, v < n ∧ 0 < cell g v v := by
  unfold L31_29
  refine Ret.loop n (fun v s => s.1 = (v : Int) ∧ Shp n n s.2 ∧ (∀ k, k < v → cell g k k ≤ 0) ∧ ∀ i j, i < n → j < n → cell s.2 i j = if j = i ∧ i < v then 0 else cell g i j) ⟨rfl, hg, fun k hk => by omega, fun i j _ _ => by rw [if_neg (by omega)]⟩ ?_ ?_
  · rintro v ⟨y, q⟩ hv ⟨rfl, h1, h2, h3⟩
    simp only at h1 h2 h3
    have hl := h1.len
    have hr := h1.row v hv
    have c1 : (q.getD v []).getD v 0 = cell q v v := rfl
    have e := h3 v v hv hv
    rw [if_neg (by omega)] at e
    have hcs := cell_set' (m := q) (k := v) (t := v) (d := 0) (by omega) (by omega)
    unfold B31_29
    simp (disch := omega) only [Ret_some, Ret_none, Ret_bind, Ret_asrt, Ret_cond, Sum.elim_inl, Sum.elim_inr, decide_eq_true_eq, decide_eq_false_iff_not, Bool.not_eq_true', Bool.not_not, Bool.and_eq_true, Bool.or_eq_true, Bool.true_eq_false, Bool.false_eq_true, Bool.not_true, Bool.not_false, if_true, if_false, ite_true, ite_false, true_and, and_true, false_and, and_false, Int.toNat_natCast, toN_succ, Int.ofNat_eq_natCast, Int.ofNat_toNat, Nat.zero_add, Nat.add_zero, not_true_eq_false, not_false_eq_true, implies_true, wr64, tblM, c1]
    rw [if_pos (by omega)]
    refine ⟨by omega, by omega, by omega, by omega, ?_⟩
    split
    · exact ⟨v, hv, by omega⟩
    · refine ⟨by omega, h1.set, forall_lt_succ.2 ⟨h2, by omega⟩, fun i j hi hj => ?_⟩
      rw [hcs]
      by_cases c : i = v ∧ j = v
      · rw [if_pos c, if_pos (by omega)]
      · rw [if_neg c, h3 i j hi hj]
        by_cases d : j = i ∧ i < v
        · rw [if_pos d, if_pos (by omega)]
        · rw [if_neg d, if_neg (by omega)]
  · rintro ⟨y, q⟩ ⟨rfl, h1, h2, h3⟩
    unfold B31_29
    simp (disch := omega) only [Ret_some, Ret_none, Ret_bind, Ret_asrt, Ret_cond, Sum.elim_inl, Sum.elim_inr, decide_eq_true_eq, decide_eq_false_iff_not, Bool.not_eq_true', Bool.not_not, Bool.and_eq_true, Bool.or_eq_true, Bool.true_eq_false, Bool.false_eq_true, Bool.not_true, Bool.not_false, if_true, if_false, ite_true, ite_false, true_and, and_true, false_and, and_false, Int.toNat_natCast, toN_succ, Int.ofNat_eq_natCast, Int.ofNat_toNat, Nat.zero_add, Nat.add_zero, not_true_eq_false, not_false_eq_true, implies_true, wr64]
    rw [if_neg (by omega)]
    refine ⟨h2, h1, fun i j hi hj => ?_⟩
    rw [h3 i j hi hj]
    by_cases c : j = i
    · rw [if_pos (by omega), if_pos c]
    · rw [if_neg (by omega), if_neg c]

theorem F31_main {a : List (List Int)} (h : SqOk a) : Ret ((L31_10 a (0, List.replicate a.length [])).bind fun p => (L31_15 p (0, p)).bind fun p_4 => (L31_29 p_4 (0, p_4)).bind (Sum.elim (fun p_5 => asrt (0 + p_5.length ≤ p_5.length) (some (p_5, (0 : Int)))) fun r_6 => some r_6)) fun r => (r = ([], 5) ∧ ¬ ∃ q, Cls a q) ∨ (r.2 = 0 ∧ Cls a r.1) := by
  have hn := h.ln
  rw [L31_10_eq h, Option.bind_some]
  obtain ⟨g, hg, g1, g2, g3, g4, g5⟩ := F31_steps h
  obtain ⟨x, hx, hx1⟩ := L31_29_ret hn g1.len g1
  rw [hg, Option.bind_some, hx]
  rcases x with q | r
  · obtain ⟨q1, q2, q3⟩ := hx1
    refine ⟨(q, 0), by simp [asrt], .inr ⟨rfl, q2, fun i hi => ?_⟩⟩
    refine Wrow.of (g := cell g) g3 (fun i j hi hj => ?_) (g5 q1) q1 g4 hi fun j hj => q3 i j hi hj
    have := h.cel hi hj
    unfold Okn at this
    omega
  · obtain ⟨e, v, hv, hpos⟩ := hx1
    refine ⟨r, rfl, .inl ⟨e, ?_⟩⟩
    rintro ⟨q, hq⟩
    have hw := hq.row v hv
    have := (g4 _ _ hw.cl v v hv hv (by show cell q v v ≠ (-4611686018427387904 : Int); rw [hw.z0]; decide) (by omega)).2
    omega
/-! ### the reference: round by round, from each place -/

/-- what holds within a round; r0: the row at its head -/
structure BI (n i ro : Nat) (a : List (List Int)) (m : List (List Int)) (r0 : Nat → Int) (C : Int) (q : List (List Int)) : Prop where
  len : q.length = n
  rl : (q.getD i []).length = n
  oth : ∀ k, k ≠ i → q.getD k [] = m.getD k []
  bd : ∀ j, j < n → Bd C (cell q i j)
  mono : ∀ j, j < n → r0 j ≤ cell q i j
  lo : ∀ S z, Pot n S z (cell a) → S i → 0 ≤ z i → ∀ j, j < n → cell q i j ≠ (-4611686018427387904 : Int) → S j ∧ cell q i j ≤ z j
  z0 : cell q i i = 0
  last : ro = n → ∀ j, j < n → cell q i j = r0 j

/-- why a round ends it all -/
def Er (n i ro : Nat) (a : List (List Int)) (r0 : Nat → Int) : Prop := ∃ j d, j < n ∧ r0 j < d ∧ (∀ S z, Pot n S z (cell a) → S i → 0 ≤ z i → S j ∧ d ≤ z j) ∧ (ro = n ∨ j = i)

theorem L32_26_ret {a m : List (List Int)} (h : SqOk a) {i ro k : Nat} (hi : i < a.length) (hk : k < a.length) {r0 : Nat → Int} {C : Int} (hC0 : 0 ≤ C) (hC : C ≤ 1000000000000000) {q0 : List (List Int)} (h0 : BI a.length i ro a m r0 C q0) (hrb : ∀ j, j < a.length → r0 j = (-4611686018427387904 : Int) ∨ -1099511627776000 ≤ r0 j) {Dn : Nat → Nat → Prop} (hD : ∀ k' j, Dn k' j → k' < a.length → j < a.length → r0 k' ≠ (-4611686018427387904 : Int) → cell a k' j ≠ (-4611686018427387904 : Int) → r0 k' + cell a k' j ≤ cell q0 i j) :
    Ret (L32_26 a (i : Int) (ro : Int) (k : Int) (0, q0)) fun x => match x with
      | .inl q => BI a.length i ro a m r0 (C + 8796093022208) q ∧ (∀ k' j, (Dn k' j ∨ k' = k) → k' < a.length → j < a.length → r0 k' ≠ (-4611686018427387904 : Int) → cell a k' j ≠ (-4611686018427387904 : Int) → r0 k' + cell a k' j ≤ cell q i j)
      | .inr e => e = ([], 5) ∧ Er a.length i ro a r0 := by
  have hn := h.ln
  have hra := h.row k hk
  unfold L32_26
  refine Ret.loop a.length (fun j s => s.1 = (j : Int) ∧ BI a.length i ro a m r0 (C + 1099511627776 * j) s.2 ∧ (∀ k' j', (Dn k' j' ∨ (k' = k ∧ j' < j)) → k' < a.length → j' < a.length → r0 k' ≠ (-4611686018427387904 : Int) → cell a k' j' ≠ (-4611686018427387904 : Int) → r0 k' + cell a k' j' ≤ cell s.2 i j'))
    ⟨rfl, by simpa using h0, fun k' j' hd => hD k' j' (hd.resolve_right (by omega))⟩ ?_ ?_
  · rintro j ⟨y, q⟩ hj ⟨rfl, w, hs⟩
    simp only at w hs
    have hl := w.len
    have hrl := w.rl
    have c1 : (q.getD i []).getD k 0 = cell q i k := rfl
    have c2 : (a.getD k []).getD j 0 = cell a k j := rfl
    have c3 : (q.getD i []).getD j 0 = cell q i j := rfl
    have b1 := w.bd k hk
    have b2 := h.cel hk hj
    have b3 := w.bd j hj
    have mk := w.mono k hk
    unfold Bd at b1 b3
    unfold Okn at b2
    have hup : BI a.length i ro a m r0 (C + 1099511627776 * ((j + 1 : Nat) : Int)) q :=
      ⟨w.len, w.rl, w.oth, fun v hv => by have := w.bd v hv; unfold Bd at this ⊢; omega, w.mono, w.lo, w.z0, w.last⟩
    -- the arc asks for no more
    have hkeep : (r0 k ≠ (-4611686018427387904 : Int) → cell a k j ≠ (-4611686018427387904 : Int) → r0 k + cell a k j ≤ cell q i j) → (BI a.length i ro a m r0 (C + 1099511627776 * ((j + 1 : Nat) : Int)) q ∧ (∀ k' j', (Dn k' j' ∨ (k' = k ∧ j' < j + 1)) → k' < a.length → j' < a.length → r0 k' ≠ (-4611686018427387904 : Int) → cell a k' j' ≠ (-4611686018427387904 : Int) → r0 k' + cell a k' j' ≤ cell q i j')) := fun hh =>
      ⟨hup, fun k' j' hd hk' hj' => by
        by_cases c : k' = k ∧ j' = j
        · obtain ⟨rfl, rfl⟩ := c; exact hh
        · refine hs k' j' ?_ hk' hj'
          rcases hd with hd | hd
          · exact .inl hd
          · exact .inr (by omega)⟩
    unfold B32_26
    by_cases a1 : cell q i k = (-4611686018427387904 : Int)
    · simp (disch := omega) only [Ret_some, Ret_none, Ret_bind, Ret_asrt, Ret_cond, Sum.elim_inl, Sum.elim_inr, decide_eq_true_eq, decide_eq_false_iff_not, Bool.not_eq_true', Bool.not_not, Bool.and_eq_true, Bool.or_eq_true, Bool.true_eq_false, Bool.false_eq_true, Bool.not_true, Bool.not_false, if_true, if_false, ite_true, ite_false, true_and, and_true, false_and, and_false, Int.toNat_natCast, toN_succ, Int.ofNat_eq_natCast, Int.ofNat_toNat, Nat.zero_add, Nat.add_zero, not_true_eq_false, not_false_eq_true, implies_true, wr64, tblM, c1, a1]
      rw [if_pos (by omega)]
      exact ⟨by omega, by omega, by omega, by omega, by omega, hkeep fun e _ => by have := hrb k hk; omega⟩
    · by_cases a2 : cell a k j = (-4611686018427387904 : Int)
      · simp (disch := omega) only [Ret_some, Ret_none, Ret_bind, Ret_asrt, Ret_cond, Sum.elim_inl, Sum.elim_inr, decide_eq_true_eq, decide_eq_false_iff_not, Bool.not_eq_true', Bool.not_not, Bool.and_eq_true, Bool.or_eq_true, Bool.true_eq_false, Bool.false_eq_true, Bool.not_true, Bool.not_false, if_true, if_false, ite_true, ite_false, true_and, and_true, false_and, and_false, Int.toNat_natCast, toN_succ, Int.ofNat_eq_natCast, Int.ofNat_toNat, Nat.zero_add, Nat.add_zero, not_true_eq_false, not_false_eq_true, implies_true, wr64, tblM, c1, c2, a1, a2]
        rw [if_pos (by omega)]
        exact ⟨by omega, by omega, by omega, by omega, by omega, by omega, by omega, hkeep fun _ e => absurd a2 e⟩
      · have b1' := b1.resolve_left a1
        have b2' := b2.resolve_left a2
        have hw : IntKind.wrap .i64 (cell q i k + cell a k j) = cell q i k + cell a k j := wr64 (by omega) (by omega)
        have hz : ∀ S z, Pot a.length S z (cell a) → S i → 0 ≤ z i → S j ∧ cell q i k + cell a k j ≤ z j := fun S z hp hS h0 => by
          obtain ⟨s1, s2⟩ := w.lo S z hp hS h0 k hk a1
          obtain ⟨s3, s4⟩ := hp k j hk hj s1 a2
          exact ⟨s3, by omega⟩
        have mj := w.mono j hj
        have hEr : cell q i j < cell q i k + cell a k j → (ro = a.length ∨ j = i) → Er a.length i ro a r0 := fun hlt hro => ⟨j, cell q i k + cell a k j, hj, by omega, hz, hro⟩
        have hcs := cell_set' (m := q) (k := i) (t := j) (d := cell q i k + cell a k j) (by omega) (by omega)
        have hput : cell q i j < cell q i k + cell a k j → ro ≠ a.length → j ≠ i → (BI a.length i ro a m r0 (C + 1099511627776 * ((j + 1 : Nat) : Int)) (q.set i ((q.getD i []).set j (cell q i k + cell a k j))) ∧ (∀ k' j', (Dn k' j' ∨ (k' = k ∧ j' < j + 1)) → k' < a.length → j' < a.length → r0 k' ≠ (-4611686018427387904 : Int) → cell a k' j' ≠ (-4611686018427387904 : Int) → r0 k' + cell a k' j' ≤ cell (q.set i ((q.getD i []).set j (cell q i k + cell a k j))) i j')) := fun hlt hro hji => by
          refine ⟨⟨by rw [lset_len]; exact hl, by rw [row_set]; exact hrl, fun k' hk' => by rw [lgetD_set, if_neg (by omega)]; exact w.oth k' hk', fun v hv => ?_, fun v hv => ?_, fun S z hp hS h0 v hv hne => ?_, by rw [hcs, if_neg (by omega)]; exact w.z0, fun e => absurd e hro⟩, fun k' j' hd hk' hj' n1 n2 => ?_⟩
          · rw [hcs]
            split
            · unfold Bd; omega
            · have := w.bd v hv; unfold Bd at this ⊢; omega
          · rw [hcs]
            have := w.mono v hv
            split
            · rename_i e; rw [e.2]; omega
            · exact this
          · rw [hcs] at hne ⊢
            by_cases e : i = i ∧ v = j
            · rw [if_pos e, e.2]; exact hz S z hp hS h0
            · rw [if_neg e] at hne ⊢; exact w.lo S z hp hS h0 v hv hne
          · rw [hcs]
            by_cases c : k' = k ∧ j' = j
            · obtain ⟨rfl, rfl⟩ := c
              rw [if_pos ⟨rfl, rfl⟩]
              omega
            · have := hs k' j' (by rcases hd with hd | hd; exact .inl hd; exact .inr (by omega)) hk' hj' n1 n2
              split
              · rename_i e; rw [e.2] at this ⊢; omega
              · exact this
        by_cases c4 : cell q i j < cell q i k + cell a k j
        · simp (disch := omega) only [Ret_some, Ret_none, Ret_bind, Ret_asrt, Ret_cond, Sum.elim_inl, Sum.elim_inr, decide_eq_true_eq, decide_eq_false_iff_not, Bool.not_eq_true', Bool.not_not, Bool.and_eq_true, Bool.or_eq_true, Bool.true_eq_false, Bool.false_eq_true, Bool.not_true, Bool.not_false, if_true, if_false, ite_true, ite_false, true_and, and_true, false_and, and_false, Int.toNat_natCast, toN_succ, Int.ofNat_eq_natCast, Int.ofNat_toNat, Nat.zero_add, Nat.add_zero, not_true_eq_false, not_false_eq_true, implies_true, wr64, tblM, c1, c2, c3, a1, a2, hw]
          rw [if_pos (by omega)]
          refine ⟨by omega, by omega, by omega, by omega, by omega, by omega, by omega, by omega, by omega, by omega, by omega, by omega, by omega, by omega, ?_⟩
          rw [if_pos c4]
          split
          · rename_i e
            exact hEr c4 (.inl (by omega))
          · rename_i e
            split
            · rename_i e2
              have hji : j = i := by omega
              have := w.z0
              subst hji
              rw [if_pos (by omega)]
              exact hEr c4 (.inr rfl)
            · rename_i e2
              exact ⟨by omega, hput c4 (by omega) (by omega)⟩
        · simp (disch := omega) only [Ret_some, Ret_none, Ret_bind, Ret_asrt, Ret_cond, Sum.elim_inl, Sum.elim_inr, decide_eq_true_eq, decide_eq_false_iff_not, Bool.not_eq_true', Bool.not_not, Bool.and_eq_true, Bool.or_eq_true, Bool.true_eq_false, Bool.false_eq_true, Bool.not_true, Bool.not_false, if_true, if_false, ite_true, ite_false, true_and, and_true, false_and, and_false, Int.toNat_natCast, toN_succ, Int.ofNat_eq_natCast, Int.ofNat_toNat, Nat.zero_add, Nat.add_zero, not_true_eq_false, not_false_eq_true, implies_true, wr64, tblM, c1, c2, c3, a1, a2, hw]
          rw [if_pos (by omega)]
          refine ⟨by omega, by omega, by omega, by omega, by omega, by omega, by omega, by omega, by omega, by omega, by omega, by omega, by omega, by omega, ?_⟩
          rw [if_neg c4]
          exact ⟨by omega, hkeep fun _ _ => by omega⟩
  · rintro ⟨y, q⟩ ⟨rfl, w, hs⟩
    simp only at w hs
    unfold B32_26
    simp (disch := omega) only [Ret_some, Ret_none, Ret_bind, Ret_asrt, Ret_cond, Sum.elim_inl, Sum.elim_inr, decide_eq_true_eq, decide_eq_false_iff_not, Bool.not_eq_true', Bool.not_not, Bool.and_eq_true, Bool.or_eq_true, Bool.true_eq_false, Bool.false_eq_true, Bool.not_true, Bool.not_false, if_true, if_false, ite_true, ite_false, true_and, and_true, false_and, and_false, Int.toNat_natCast, toN_succ, Int.ofNat_eq_natCast, Int.ofNat_toNat, Nat.zero_add, Nat.add_zero, not_true_eq_false, not_false_eq_true, implies_true, wr64]
    rw [if_neg (by omega)]
    refine ⟨⟨w.len, w.rl, w.oth, fun v hv => by have := w.bd v hv; unfold Bd at this ⊢; omega, w.mono, w.lo, w.z0, w.last⟩, fun k' j hd hk' hj => hs k' j (by rcases hd with hd | hd; exact .inl hd; exact .inr ⟨hd, hj⟩) hk' hj⟩

theorem L32_23_ret {a m : List (List Int)} (h : SqOk a) {i ro : Nat} (hi : i < a.length) {r0 : Nat → Int} {C : Int} (hC0 : 0 ≤ C) (hC : C ≤ 900000000000000) {q0 : List (List Int)} (h0 : BI a.length i ro a m r0 C q0) (hrb : ∀ j, j < a.length → r0 j = (-4611686018427387904 : Int) ∨ -1099511627776000 ≤ r0 j) :
    Ret (L32_23 a (i : Int) (ro : Int) (0, q0)) fun x => match x with
      | .inl q => BI a.length i ro a m r0 (C + 70368744177664) q ∧ (∀ k j, k < a.length → j < a.length → r0 k ≠ (-4611686018427387904 : Int) → cell a k j ≠ (-4611686018427387904 : Int) → r0 k + cell a k j ≤ cell q i j)
      | .inr e => e = ([], 5) ∧ Er a.length i ro a r0 := by
  have hn := h.ln
  unfold L32_23
  refine Ret.loop a.length (fun k s => s.1 = (k : Int) ∧ BI a.length i ro a m r0 (C + 8796093022208 * k) s.2 ∧ (∀ k' j, k' < k → k' < a.length → j < a.length → r0 k' ≠ (-4611686018427387904 : Int) → cell a k' j ≠ (-4611686018427387904 : Int) → r0 k' + cell a k' j ≤ cell s.2 i j))
    ⟨rfl, by simpa using h0, fun k' j hd => absurd hd (Nat.not_lt_zero _)⟩ ?_ ?_
  · rintro k ⟨y, q⟩ hk ⟨rfl, w, hs⟩
    simp only at w hs
    obtain ⟨x, hx, hx1⟩ := L32_26_ret h hi hk (by omega) (by omega) w hrb (Dn := fun k' _ => k' < k) hs
    unfold B32_23
    rw [hx]
    have hb : decide ((k : Int) < (a.length : Int)) = true := by simp; omega
    rw [hb, cond_true, wr64 (by omega) (by omega)]
    rcases x with q' | e
    · obtain ⟨w', hs'⟩ := hx1
      refine ⟨_, rfl, by simp, ⟨w'.len, w'.rl, w'.oth, fun v hv => by have := w'.bd v hv; show Bd _ (cell q' i v); unfold Bd at this ⊢; omega, w'.mono, w'.lo, w'.z0, w'.last⟩, fun k' j hd => hs' k' j (by omega)⟩
    · exact ⟨_, rfl, hx1⟩
  · rintro ⟨y, q⟩ ⟨rfl, w, hs⟩
    simp only at w hs
    unfold B32_23
    have hb : decide ((a.length : Int) < (a.length : Int)) = false := by simp
    rw [hb]
    refine ⟨_, rfl, ⟨w.len, w.rl, w.oth, fun v hv => by have := w.bd v hv; show Bd _ (cell q i v); unfold Bd at this ⊢; omega, w.mono, w.lo, w.z0, w.last⟩, fun k j hk hj => hs k j hk hk hj⟩

theorem L32_20_ret {a m : List (List Int)} (h : SqOk a) {i : Nat} (hi : i < a.length) {q0 : List (List Int)} (hl : q0.length = a.length) (hrl : (q0.getD i []).length = a.length) (hoth : ∀ k, k ≠ i → q0.getD k [] = m.getD k []) (hc : ∀ j, j < a.length → cell q0 i j = if j = i then 0 else (-4611686018427387904 : Int)) :
    Ret (L32_20 a (i : Int) (0, q0)) fun x => match x with
      | .inl q => q.length = a.length ∧ (q.getD i []).length = a.length ∧ (∀ k, k ≠ i → q.getD k [] = m.getD k []) ∧ Wrow a.length (cell a) i (cell q i)
      | .inr e => e = ([], 5) ∧ ¬ ∃ w, Wrow a.length (cell a) i w := by
  have hn := h.ln
  have hab : ∀ k j, k < a.length → j < a.length → cell a k j = (-4611686018427387904 : Int) ∨ -1099511627776 ≤ cell a k j := fun k j hk hj => by
    have := h.cel hk hj
    unfold Okn at this
    omega
  have s0 : ∀ w, Wrow a.length (cell a) i w → (w i ≠ (-4611686018427387904 : Int)) := fun w hw => by rw [hw.z0]; decide
  unfold L32_20
  refine Ret.loop (a.length + 1) (fun ro s => s.1 = (ro : Int) ∧ BI a.length i (a.length + 1) a m (cell s.2 i) (70368744177664 * ro) s.2 ∧ (∀ w, Wrow a.length (cell a) i w → min (ro + 1) a.length ≤ cntE (cell s.2 i) w a.length) ∧ (ro = a.length + 1 → Pot a.length (fun j => cell s.2 i j ≠ (-4611686018427387904 : Int)) (cell s.2 i) (cell a)))
    ⟨rfl, ⟨hl, hrl, hoth, fun j hj => ?_, fun _ _ => Int.le_refl _, fun S z hp hS h0 j hj hne => ?_, by simp only; rw [hc i hi, if_pos rfl], fun e => by omega⟩, fun w hw => ?_, fun e => by omega⟩ ?_ ?_
  · simp only
    rw [hc j hj]
    unfold Bd
    split <;> omega
  · simp only at hne ⊢
    rw [hc j hj] at hne ⊢
    by_cases e : j = i
    · subst e; rw [if_pos rfl]; exact ⟨hS, h0⟩
    · rw [if_neg e] at hne; exact absurd rfl hne
  · have := cntE_pos (r := cell q0 i) (w := w) (i := i) hi (by rw [hc i hi, if_pos rfl, hw.z0])
    simp only
    omega
  · rintro ro ⟨y, q⟩ hro ⟨rfl, w, hcnt, _⟩
    simp only at w hcnt
    have w' : BI a.length i ro a m (cell q i) (70368744177664 * ro) q := ⟨w.len, w.rl, w.oth, w.bd, w.mono, w.lo, w.z0, fun _ _ _ => rfl⟩
    obtain ⟨x, hx, hx1⟩ := L32_23_ret h hi (by omega) (by omega) w' (fun j hj => by have := w.bd j hj; unfold Bd at this; omega)
    unfold B32_20
    simp only []
    rw [hx, wr64 (x := (a.length : Int) + 1) (by omega) (by omega)]
    have hb : decide ((ro : Int) < (a.length : Int) + 1) = true := by simp; omega
    rw [hb, cond_true, wr64 (by omega) (by omega)]
    rcases x with q' | e
    · obtain ⟨v, hs⟩ := hx1
      refine ⟨_, rfl, by simp, ⟨v.len, v.rl, v.oth, fun j hj => by have := v.bd j hj; show Bd _ (cell q' i j); unfold Bd at this ⊢; omega, fun _ _ => Int.le_refl _, v.lo, v.z0, fun e => by omega⟩, fun u hu => ?_, fun e => ?_⟩
      · have h1 := hcnt u hu
        have h2 := one_more (r := cell q i) (q := cell q' i) hu hi w.z0 (fun j hj hne => w.lo _ _ hu.cl (s0 u hu) (by rw [hu.z0]; exact Int.le_refl _) j hj hne) (fun j hj hne => v.lo _ _ hu.cl (s0 u hu) (by rw [hu.z0]; exact Int.le_refl _) j hj hne) v.mono (fun j hj => by have := w.bd j hj; unfold Bd at this; omega) (fun j hj => by have := v.bd j hj; unfold Bd at this; omega) hab hs
        simp only
        omega
      · have e : ro = a.length := by omega
        have hsame := v.last e
        intro k j hk hj h1 h2
        simp only at h1 ⊢
        rw [hsame k hk] at h1
        have h3 := hs k j hk hj h1 h2
        have h4 := hab k j hk hj
        have h5 := w.bd k hk
        unfold Bd at h5
        rw [hsame k hk]
        exact ⟨by omega, by omega⟩
    · obtain ⟨e1, j, d, hj, h1, h2, h3⟩ := hx1
      refine ⟨_, rfl, e1, ?_⟩
      rintro ⟨u, hu⟩
      have h4 := (h2 _ _ hu.cl (s0 u hu) (by rw [hu.z0]; exact Int.le_refl _)).2
      rcases h3 with h3 | h3
      · have h5 := hcnt u hu
        have h6 := cntE_all (r := cell q i) (w := u) (n := a.length) (by omega) j hj
        omega
      · subst h3
        have := w.z0
        have := hu.z0
        omega
  · rintro ⟨y, q⟩ ⟨rfl, w, hcnt, hcl⟩
    simp only at w hcl
    unfold B32_20
    simp only []
    rw [wr64 (x := (a.length : Int) + 1) (by omega) (by omega)]
    have hb : decide (((a.length + 1 : Nat) : Int) < (a.length : Int) + 1) = false := by simp
    rw [hb]
    exact ⟨_, rfl, w.len, w.rl, w.oth, w.z0, hcl trivial, w.lo⟩

theorem L32_15_ret {a : List (List Int)} (h : SqOk a) : Ret (L32_15 a (0, List.replicate a.length [])) fun x => match x with
      | .inl q => Cls a q
      | .inr e => e = ([], 5) ∧ ¬ ∃ q, Cls a q := by
  have hn := h.ln
  unfold L32_15
  refine Ret.loop a.length (fun i s => s.1 = (i : Int) ∧ s.2.length = a.length ∧ ∀ k, k < i → (s.2.getD k []).length = a.length ∧ Wrow a.length (cell a) k (cell s.2 k)) ⟨rfl, by simp, fun k hk => by omega⟩ ?_ ?_
  · rintro i ⟨y, m⟩ hi ⟨rfl, h1, h2⟩
    simp only at h1 h2
    have hrep := F57_eq (n := a.length) (by omega)
    have hrow : (m.set i (List.replicate a.length (-4611686018427387904 : Int))).getD i [] = List.replicate a.length (-4611686018427387904 : Int) := by rw [lgetD_set, if_pos ⟨rfl, by omega⟩]
    have hc : ∀ j, j < a.length → cell ((m.set i (List.replicate a.length (-4611686018427387904 : Int))).set i (((m.set i (List.replicate a.length (-4611686018427387904 : Int))).getD i []).set i 0)) i j = if j = i then 0 else (-4611686018427387904 : Int) := fun j hj => by
      rw [cell_set' (by rw [lset_len]; omega) (by rw [hrow]; simp; omega)]
      by_cases e : j = i
      · rw [if_pos ⟨rfl, e⟩, if_pos e]
      · rw [if_neg (by omega), if_neg e]
        unfold cell
        rw [hrow, getD_rep hj]
    obtain ⟨x, hx, hx1⟩ := L32_20_ret (m := m) h hi (q0 := (m.set i (List.replicate a.length (-4611686018427387904 : Int))).set i (((m.set i (List.replicate a.length (-4611686018427387904 : Int))).getD i []).set i 0)) (by rw [lset_len, lset_len]; exact h1) (by rw [row_set, hrow]; simp) (fun k hk => by rw [lgetD_set, if_neg (by omega), lgetD_set, if_neg (by omega)]) hc
    unfold B32_15
    rw [hrep]
    simp only [Option.bind_some, Int.toNat_natCast, Nat.zero_add, Nat.beq_refl, cond_true]
    rw [hx]
    have hb : decide ((i : Int) < (a.length : Int)) = true := by simp; omega
    rw [hb, cond_true, asrt_eq (by omega), asrt_eq (by omega), asrt_eq (by simp; omega), asrt_eq (by simp; omega), wr64 (by omega) (by omega)]
    rcases x with q | e
    · obtain ⟨q1, q2, q3, q4⟩ := hx1
      refine ⟨_, rfl, by simp, q1, forall_lt_succ.2 ⟨fun k hk => ?_, q2, q4⟩⟩
      have e := q3 k (by omega)
      have ec : cell q k = cell m k := by funext v; unfold cell; rw [e]
      simp only
      rw [e, ec]
      exact h2 k hk
    · refine ⟨_, rfl, hx1.1, ?_⟩
      rintro ⟨q, hq⟩
      exact hx1.2 ⟨_, hq.row i hi⟩
  · rintro ⟨y, m⟩ ⟨rfl, h1, h2⟩
    simp only at h1 h2
    unfold B32_15
    have hb : decide ((a.length : Int) < ((Int.toNat (a.length : Int) : Nat) : Int)) = false := by simp
    simp only []
    rw [hb]
    exact ⟨_, rfl, ⟨h1, fun k hk => (h2 k hk).1⟩, fun k hk => (h2 k hk).2⟩

/-! ### Closure -/

theorem L32_5_ret {a0 : List (List Int)} (h0 : a0.length ≤ 8) : Ret (L32_5 a0 0) fun x => match x with | .inl _ => ∀ i, i < a0.length → (a0.getD i []).length = a0.length | .inr r => r = ([], 1) ∧ ∃ i, i < a0.length ∧ (a0.getD i []).length ≠ a0.length := by
  unfold L32_5
  refine Ret.loop a0.length (fun i s => s = (i : Int) ∧ ∀ j, j < i → (a0.getD j []).length = a0.length) ⟨rfl, fun j hj => by omega⟩ ?_ ?_
  · rintro i s hi ⟨rfl, hj⟩
    unfold B32_5
    have hb : decide ((i : Int) < (a0.length : Int)) = true := by simp; omega
    rw [hb, cond_true, asrt_eq (by omega), wr64 (by omega) (by omega), Int.toNat_natCast]
    by_cases c : ((a0.getD i []).length : Int) = (a0.length : Int)
    · rw [decide_eq_true c]
      exact ⟨_, rfl, by simp, forall_lt_succ.2 ⟨hj, by omega⟩⟩
    · rw [decide_eq_false c]
      exact ⟨_, rfl, rfl, i, hi, by omega⟩
  · rintro s ⟨rfl, hj⟩
    unfold B32_5
    have hb : decide ((a0.length : Int) < (a0.length : Int)) = false := by simp
    rw [hb]
    exact ⟨_, rfl, hj⟩

theorem clos_ret (a0 : List (List Int)) : ∃ r, F31 a0 = some r ∧ F32 a0 = some r ∧ r.1.length ≤ 8 ∧ ∀ x ∈ r.1, x.length ≤ 8 := by
  have nil : ∀ c : Int, (([], c) : List (List Int) × Int).1.length ≤ 8 ∧ ∀ x ∈ (([], c) : List (List Int) × Int).1, x.length ≤ 8 := fun c => ⟨Nat.zero_le _, fun x hx => by cases hx⟩
  unfold F31 F32
  rw [F70c_F70]
  by_cases c0 : 8 < (a0.length : Int)
  · rw [decide_eq_true c0]; exact ⟨_, rfl, rfl, nil _⟩
  rw [decide_eq_false c0]
  simp only [cond_false]
  have h0 : a0.length ≤ 8 := by omega
  obtain ⟨b, hb, hb1⟩ := F70_ret h0 h0
  obtain ⟨x, hx, hx1⟩ := L32_5_ret h0
  rw [hb, hx]
  rcases x with _ | r
  case inr =>
    have : b = true := hb1.2 hx1.2
    rw [this, hx1.1]
    exact ⟨_, rfl, rfl, nil _⟩
  have hra : ∀ i, i < a0.length → (a0.getD i []).length = a0.length := hx1
  have : b = false := by
    refine Bool.eq_false_iff.2 fun e => ?_
    obtain ⟨i, hi, hne⟩ := hb1.1 e
    exact hne (hra i hi)
  rw [this]
  simp only [Option.bind_some, cond_false, Sum.elim_inl]
  have r0 : ∀ i, i < a0.length → (a0.getD i []).length ≤ 8 := fun i hi => by rw [hra i hi]; exact h0
  obtain ⟨x, hx, hx1⟩ := F73_ret h0 r0
  obtain ⟨y, hy, hy1⟩ := F74_ret h0 r0
  rw [hx, hy]
  rcases hx1 with ⟨rfl, hn⟩ | ⟨rfl, hn⟩ <;> rcases hy1 with ⟨rfl, hm⟩ | ⟨rfl, hm⟩
  · have hsq : SqOk a0 := ⟨h0, hra, hn⟩
    obtain ⟨r, hr, hr1⟩ := F31_main hsq
    obtain ⟨x, hx, hx1⟩ := L32_15_ret hsq
    simp only [decide_true, Bool.not_true, cond_false, Option.bind_some]
    rw [asrt_eq (by refine ⟨by omega, Int.le_refl _, by omega, by omega⟩), asrt_eq (by refine ⟨by omega, Int.le_refl _, by omega, by omega⟩), Int.toNat_natCast, hx]
    refine ⟨r, hr, ?_⟩
    rcases x with q | e
    · rcases hr1 with ⟨_, hno⟩ | ⟨e2, hq⟩
      · exact absurd ⟨q, hx1⟩ hno
      · obtain ⟨r1, r2⟩ := r
        simp only at e2 hq
        have := hq.uniq hx1
        subst this
        subst e2
        simp only [Option.bind_some, Sum.elim_inl]
        rw [asrt_eq (by omega)]
        refine ⟨rfl, by rw [hq.shp.len]; exact h0, fun x hx => ?_⟩
        obtain ⟨i, hi, rfl⟩ := mem_getD [] hx
        rw [hq.shp.len] at hi
        rw [hq.shp.row i hi]
        exact h0
    · rcases hr1 with ⟨rfl, _⟩ | ⟨_, hq⟩
      · rw [hx1.1]
        exact ⟨rfl, nil _⟩
      · exact absurd ⟨_, hq⟩ hx1.2
  · exact absurd hn hm
  · exact absurd hm hn
  · exact ⟨_, rfl, rfl, nil _⟩

/-! ### lists of lists, compared with themselves -/

theorem F28_refl {l : List Int} (hl : l.length ≤ 100000) : F28 l l = some true := by
  refine Ret.eq ?_
  unfold F28
  simp (disch := omega) only [Ret_some, Ret_none, Ret_bind, Ret_asrt, Ret_cond, Sum.elim_inl, Sum.elim_inr, decide_eq_true_eq, decide_eq_false_iff_not, Bool.not_eq_true', Bool.not_not, Bool.and_eq_true, Bool.or_eq_true, Bool.true_eq_false, Bool.false_eq_true, Bool.not_true, Bool.not_false, if_true, if_false, ite_true, ite_false, true_and, and_true, false_and, and_false, Int.toNat_natCast, toN_succ, Int.ofNat_eq_natCast, Int.ofNat_toNat, Nat.zero_add, Nat.add_zero, not_true_eq_false, not_false_eq_true, implies_true, wr64]
  unfold L28_4
  refine Ret.loop l.length (fun i s => s = (i : Int)) rfl ?_ ?_
  · rintro i s hi rfl
    unfold B28_4
    simp (disch := omega) only [Ret_some, Ret_none, Ret_bind, Ret_asrt, Ret_cond, Sum.elim_inl, Sum.elim_inr, decide_eq_true_eq, decide_eq_false_iff_not, Bool.not_eq_true', Bool.not_not, Bool.and_eq_true, Bool.or_eq_true, Bool.true_eq_false, Bool.false_eq_true, Bool.not_true, Bool.not_false, if_true, if_false, ite_true, ite_false, true_and, and_true, false_and, and_false, Int.toNat_natCast, toN_succ, Int.ofNat_eq_natCast, Int.ofNat_toNat, Nat.zero_add, Nat.add_zero, not_true_eq_false, not_false_eq_true, implies_true, wr64]
    rw [if_pos (by omega)]
    refine ⟨by omega, ?_⟩
    omega
  · rintro s rfl
    unfold B28_4
    simp (disch := omega) only [Ret_some, Ret_none, Ret_bind, Ret_asrt, Ret_cond, Sum.elim_inl, Sum.elim_inr, decide_eq_true_eq, decide_eq_false_iff_not, Bool.not_eq_true', Bool.not_not, Bool.and_eq_true, Bool.or_eq_true, Bool.true_eq_false, Bool.false_eq_true, Bool.not_true, Bool.not_false, if_true, if_false, ite_true, ite_false, true_and, and_true, false_and, and_false, Int.toNat_natCast, toN_succ, Int.ofNat_eq_natCast, Int.ofNat_toNat, Nat.zero_add, Nat.add_zero, not_true_eq_false, not_false_eq_true, implies_true, wr64]
    rw [if_neg (by omega)]
    trivial

theorem F21_refl {l : List (List Int)} (hl : l.length ≤ 1000) (h : ∀ x ∈ l, x.length ≤ 100000) : F21 l l = some true := by
  have : F61 l l = some true := by
    refine Ret.eq ?_
    unfold F61
    simp (disch := omega) only [Ret_some, Ret_none, Ret_bind, Ret_asrt, Ret_cond, Sum.elim_inl, Sum.elim_inr, decide_eq_true_eq, decide_eq_false_iff_not, Bool.not_eq_true', Bool.not_not, Bool.and_eq_true, Bool.or_eq_true, Bool.true_eq_false, Bool.false_eq_true, Bool.not_true, Bool.not_false, if_true, if_false, ite_true, ite_false, true_and, and_true, false_and, and_false, Int.toNat_natCast, toN_succ, Int.ofNat_eq_natCast, Int.ofNat_toNat, Nat.zero_add, Nat.add_zero, not_true_eq_false, not_false_eq_true, implies_true, wr64]
    unfold L61_4
    refine Ret.loop l.length (fun i s => s = (i : Int)) rfl ?_ ?_
    · rintro i s hi rfl
      have := F28_refl (h _ (getD_mem (d := []) hi))
      unfold B61_4
      simp only [Int.toNat_natCast]
      rw [this]
      simp (disch := omega) only [Ret_some, Ret_none, Ret_bind, Ret_asrt, Ret_cond, Sum.elim_inl, Sum.elim_inr, decide_eq_true_eq, decide_eq_false_iff_not, Bool.not_eq_true', Bool.not_not, Bool.and_eq_true, Bool.or_eq_true, Bool.true_eq_false, Bool.false_eq_true, Bool.not_true, Bool.not_false, if_true, if_false, ite_true, ite_false, true_and, and_true, false_and, and_false, Int.toNat_natCast, toN_succ, Int.ofNat_eq_natCast, Int.ofNat_toNat, Nat.zero_add, Nat.add_zero, not_true_eq_false, not_false_eq_true, implies_true, wr64]
      rw [if_pos (by omega)]
      refine ⟨by omega, ?_⟩
      omega
    · rintro s rfl
      unfold B61_4
      simp (disch := omega) only [Ret_some, Ret_none, Ret_bind, Ret_asrt, Ret_cond, Sum.elim_inl, Sum.elim_inr, decide_eq_true_eq, decide_eq_false_iff_not, Bool.not_eq_true', Bool.not_not, Bool.and_eq_true, Bool.or_eq_true, Bool.true_eq_false, Bool.false_eq_true, Bool.not_true, Bool.not_false, if_true, if_false, ite_true, ite_false, true_and, and_true, false_and, and_false, Int.toNat_natCast, toN_succ, Int.ofNat_eq_natCast, Int.ofNat_toNat, Nat.zero_add, Nat.add_zero, not_true_eq_false, not_false_eq_true, implies_true, wr64]
      rw [if_neg (by omega)]
      trivial
  unfold F21
  rw [this]
  rfl

theorem F7_true (a0 a1 : List (List Int)) : F7 a0 a1 = some true := by
  obtain ⟨r, h1, h2, h3, h4⟩ := prod_ret a0 a1
  obtain ⟨q, k1, k2, k3, k4⟩ := clos_ret a0
  have f1 := F21_refl (l := r.1) (by omega) (fun x hx => by have := h4 x hx; omega)
  have f2 := F21_refl (l := q.1) (by omega) (fun x hx => by have := k4 x hx; omega)
  unfold F7
  rw [h1, h2, k1, k2, show F15 = some true from rfl]
  simp [f1, f2]

end Go.Proofs.Ytecaleolkdoggaa
