/- FleetTurns: what its pure functions return. -/
import Derived.Test.YtciflideblafgaaA22
import Derived.Test.YtciflideblafgaaL9C
open Go Go.Proofs.Ytciflideblafgaa.Fw
namespace Go.Proofs.Ytciflideblafgaa
set_option maxRecDepth 100000
set_option linter.unusedVariables false
set_option linter.unusedSimpArgs false

/-- lists that are not too long -/
def Fit {α : Type} (l : List α) : Prop := l.length < 140737488355328

theorem F76_eq (n a b : Int) : F76 n a b = some (decide (a ≤ n ∧ n ≤ b)) := by
  unfold F76
  by_cases h : a ≤ n <;> simp [h]

/-! ### the order of tasks -/

noncomputable abbrev cmpT (l : List TTask) : Int → Int → Option Int := fun x y => F136 x y l

theorem s188n (k : Nat) : F188n k = fun a b c l m => Sort.F188n (cmpT l) k a b c m := by
  induction k with
  | zero => rfl
  | succ k ih =>
    show G188 (F188n k) = _
    rw [ih]
    rfl

theorem s188 : F188 = fun a b c l m => Sort.F188 (cmpT l) a b c m := by
  funext a b c l m
  unfold F188
  simp only [s188n]
  rfl

theorem s135 (l : List TTask) (m : List Int) : F135 l m = Sort.F135 (cmpT l) m := by
  unfold F135 F160 L160_7 B160_7 L160_9 B160_9
  rw [s188]
  rfl

/-- a task's second -/
def depK (l : List TTask) (x : Int) : Int := TTask.dep (List.getD l x.toNat TTask.d)

theorem F137_eq (a b : Int) : F137 a b = some (if a < b then -1 else if b < a then 1 else 0) := by
  unfold F137 F161
  by_cases h : a < b <;> by_cases h2 : b < a <;> simp [h, h2]

theorem cmpT_ok (l : List TTask) : Sort.Cmp (cmpT l) (depK l) fun x => 0 ≤ x ∧ x < (l.length : Int) := fun x y hx hy => by
  refine ⟨if depK l x < depK l y then -1 else if depK l y < depK l x then 1 else 0, ?_, ?_⟩
  · unfold cmpT F136
    rw [asrt_eq hx, asrt_eq hy, F137_eq]
    rfl
  · by_cases h : depK l x < depK l y
    · simp [h]
    · by_cases h2 : depK l y < depK l x <;> simp [h, h2]

/-- the numbers below n -/
def numsL (n : Nat) : List Int := (List.range n).map fun (i : Nat) => (i : Int)

theorem numsL_len (n : Nat) : (numsL n).length = n := by simp [numsL]
theorem numsL_mem {n : Nat} {x : Int} : x ∈ numsL n ↔ 0 ≤ x ∧ x < (n : Int) := by
  unfold numsL
  rw [List.mem_map]
  constructor
  · rintro ⟨i, hi, rfl⟩
    have := List.mem_range.1 hi
    omega
  · rintro ⟨h1, h2⟩
    exact ⟨x.toNat, List.mem_range.2 (by omega), by omega⟩
theorem numsL_getD {n i : Nat} (h : i < n) : (numsL n).getD i 0 = (i : Int) := by
  unfold numsL
  rw [List.getD_eq_getElem?_getD, List.getElem?_map, List.getElem?_range h]
  rfl

theorem F96_ret (l : List TTask) (h : l.length ≤ 1000) : ∃ r, F96 l = some r ∧ Sort.Srt (depK l) r ∧ Sort.Eqv (depK l) r (numsL l.length) := by
  have h96 : L96_3 l (0, List.replicate (Int.toNat (l.length : Int)) (Int.ofNat 0)) = some (numsL l.length) := by
    refine Ret.eq ?_
    unfold L96_3
    refine Ret.loop l.length (fun i s => s.1 = (i : Int) ∧ s.2.length = l.length ∧ ∀ j, j < i → s.2.getD j 0 = (j : Int)) ⟨rfl, by simp, fun j hj => by omega⟩ ?_ ?_
    · rintro i ⟨a, m⟩ hi ⟨h1, h2, h3⟩
      simp only at h1 h2 h3
      subst h1
      unfold B96_3
      simp (disch := omega) only [Ret_some, Ret_none, Ret_bind, Ret_asrt, Ret_cond, Sum.elim_inl, Sum.elim_inr, decide_eq_true_eq, decide_eq_false_iff_not, Bool.not_eq_true', Bool.not_not, Bool.and_eq_true, Bool.or_eq_true, Bool.true_eq_false, Bool.false_eq_true, Bool.not_true, Bool.not_false, if_true, if_false, ite_true, ite_false, true_and, and_true, false_and, and_false, Int.toNat_natCast, toN_succ, Int.ofNat_eq_natCast, Int.ofNat_toNat, Nat.zero_add, Nat.add_zero, not_true_eq_false, not_false_eq_true, implies_true, wr64]
      rw [if_pos (by omega)]
      refine ⟨by omega, by omega, by omega, by simp [h2], fun j hj => ?_⟩
      rw [lgetD_set]
      by_cases e : i = j
      · rw [if_pos ⟨e, by omega⟩, e]
      · rw [if_neg (by omega)]
        exact h3 j (by omega)
    · rintro ⟨a, m⟩ ⟨h1, h2, h3⟩
      simp only at h1 h2 h3
      subst h1
      unfold B96_3
      simp (disch := omega) only [Ret_some, Ret_none, Ret_bind, Ret_asrt, Ret_cond, Sum.elim_inl, Sum.elim_inr, decide_eq_true_eq, decide_eq_false_iff_not, Bool.not_eq_true', Bool.not_not, Bool.and_eq_true, Bool.or_eq_true, Bool.true_eq_false, Bool.false_eq_true, Bool.not_true, Bool.not_false, if_true, if_false, ite_true, ite_false, true_and, and_true, false_and, and_false, Int.toNat_natCast, toN_succ, Int.ofNat_eq_natCast, Int.ofNat_toNat, Nat.zero_add, Nat.add_zero, not_true_eq_false, not_false_eq_true, implies_true, wr64]
      rw [if_neg (by omega)]
      exact list_ext_getD 0 (by rw [h2, numsL_len]) fun j hj => by rw [h3 j (by omega), numsL_getD (by omega)]
  obtain ⟨r, h1, h2, h3⟩ := Sort.stable_ret (cmpT_ok l) (numsL l.length) (fun z hz => numsL_mem.1 hz) (by rw [numsL_len]; omega)
  have hl := h3.len
  refine ⟨r, ?_, h2, h3⟩
  unfold F96
  rw [asrt_eq (by refine ⟨by omega, by omega, ?_, ?_⟩ <;> omega), h96, Option.bind_some, s135, h1, Option.bind_some, asrt_eq hl, asrt_eq (by show 0 + (numsL l.length).length ≤ r.length; omega)]
  show some (r.take (numsL l.length).length) = some r
  rw [← hl, List.take_length]

/-! ### turns -/

theorem F95_eq : F95 = F49 := rfl

/-- a right task -/
structure TOk (t : TTask) : Prop where
  d0 : 0 ≤ t.dep
  d1 : t.dep ≤ 28800
  a0 : 0 ≤ t.arr
  a1 : t.arr ≤ 28800
  u1 : 1 ≤ t.units
  u4 : t.units ≤ 4

theorem F45_tok (a0 : List TTask) (h : Fit a0) : Ret (F45 a0) fun r => r = 0 → a0.length ≤ 40 ∧ ∀ i, i < a0.length → TOk (a0.getD i TTask.d) := by
  unfold Fit at h
  have hL : Ret (L45_4 a0 0) fun x => match x with | .inl _ => ∀ i, i < a0.length → TOk (a0.getD i TTask.d) | .inr r => r ≠ 0 := by
    unfold L45_4
    refine Ret.loop a0.length (fun i s => s = (i : Int) ∧ ∀ j, j < i → TOk (a0.getD j TTask.d)) ⟨rfl, fun j hj => by omega⟩ ?_ ?_
    · rintro i s hi ⟨rfl, hj⟩
      unfold B45_4
      simp (disch := omega) only [Ret_some, Ret_none, Ret_bind, Ret_asrt, Ret_cond, Sum.elim_inl, Sum.elim_inr, decide_eq_true_eq, decide_eq_false_iff_not, Bool.not_eq_true', Bool.not_not, Bool.and_eq_true, Bool.or_eq_true, Bool.true_eq_false, Bool.false_eq_true, Bool.not_true, Bool.not_false, if_true, if_false, ite_true, ite_false, true_and, and_true, false_and, and_false, Int.toNat_natCast, toN_succ, Int.ofNat_eq_natCast, Int.ofNat_toNat, Nat.zero_add, Nat.add_zero, not_true_eq_false, not_false_eq_true, implies_true, wr64, show F75 = F76 from rfl, F76_eq]
      rw [if_pos (by omega)]
      refine ⟨by omega, ?_⟩
      generalize ht : a0.getD i TTask.d = t
      repeat' split
      all_goals first
        | decide
        | (refine ⟨by omega, forall_lt_succ.2 ⟨hj, ?_⟩⟩
           rw [ht]
           constructor <;> omega)
    · rintro s ⟨rfl, hj⟩
      unfold B45_4
      simp (disch := omega) only [Ret_some, Ret_none, Ret_bind, Ret_asrt, Ret_cond, Sum.elim_inl, Sum.elim_inr, decide_eq_true_eq, decide_eq_false_iff_not, Bool.not_eq_true', Bool.not_not, Bool.and_eq_true, Bool.or_eq_true, Bool.true_eq_false, Bool.false_eq_true, Bool.not_true, Bool.not_false, if_true, if_false, ite_true, ite_false, true_and, and_true, false_and, and_false, Int.toNat_natCast, toN_succ, Int.ofNat_eq_natCast, Int.ofNat_toNat, Nat.zero_add, Nat.add_zero, not_true_eq_false, not_false_eq_true, implies_true, wr64]
      rw [if_neg (by omega)]
      exact hj
  obtain ⟨x, hx, hp⟩ := hL
  unfold F45
  rw [hx]
  by_cases c : 40 < (a0.length : Int)
  · exact ⟨4, by simp [c], by simp⟩
  · rcases x with _ | r
    · exact ⟨0, by simp [c], fun _ => ⟨by omega, hp⟩⟩
    · exact ⟨r, by simp [c], fun e => absurd e hp⟩

theorem F49_tok (a0 : List TTask) (a1 : Int) (h : Fit a0) : Ret (F49 a0 a1) fun r => r = 0 → (a0.length ≤ 40 ∧ ∀ i, i < a0.length → TOk (a0.getD i TTask.d)) ∧ 0 ≤ a1 ∧ a1 ≤ 28800 := by
  obtain ⟨r, hr, hp⟩ := F45_tok a0 h
  unfold F49
  rw [hr]
  by_cases c : r = 0
  · by_cases d : 0 ≤ a1 ∧ a1 ≤ 28800
    · exact ⟨0, by simp [c, show F75 = F76 from rfl, F76_eq, d], fun _ => ⟨hp c, d⟩⟩
    · exact ⟨2, by simp [c, show F75 = F76 from rfl, F76_eq, d], by simp⟩
  · exact ⟨r, by simp [c], fun e => absurd e c⟩

theorem F66_ret (x : List Int) (k : Int) (h : x.length ≤ 1000) : Ret (F66 x k) fun b => (b = true ↔ k ∈ x) := by
  have hL : Ret (L23_2 x k 0) fun y => match y with | .inl _ => k ∉ x | .inr r => 0 ≤ r ∧ k ∈ x := by
    unfold L23_2
    refine Ret.loop x.length (fun i s => s = (i : Int) ∧ ∀ j, j < i → k ≠ x.getD j 0) ⟨rfl, fun j hj => by omega⟩ ?_ ?_
    · rintro i s hi ⟨rfl, hj⟩
      unfold B23_2
      simp (disch := omega) only [Ret_some, Ret_none, Ret_bind, Ret_asrt, Ret_cond, Sum.elim_inl, Sum.elim_inr, decide_eq_true_eq, decide_eq_false_iff_not, Bool.not_eq_true', Bool.not_not, Bool.and_eq_true, Bool.or_eq_true, Bool.true_eq_false, Bool.false_eq_true, Bool.not_true, Bool.not_false, if_true, if_false, ite_true, ite_false, true_and, and_true, false_and, and_false, Int.toNat_natCast, toN_succ, Int.ofNat_eq_natCast, Int.ofNat_toNat, Nat.zero_add, Nat.add_zero, not_true_eq_false, not_false_eq_true, implies_true, wr64]
      rw [if_pos (by omega)]
      refine ⟨by omega, ?_⟩
      split
      · rename_i e
        exact ⟨by omega, by rw [e]; exact getD_mem hi⟩
      · rename_i e
        exact ⟨by omega, forall_lt_succ.2 ⟨hj, e⟩⟩
    · rintro s ⟨rfl, hj⟩
      unfold B23_2
      simp (disch := omega) only [Ret_some, Ret_none, Ret_bind, Ret_asrt, Ret_cond, Sum.elim_inl, Sum.elim_inr, decide_eq_true_eq, decide_eq_false_iff_not, Bool.not_eq_true', Bool.not_not, Bool.and_eq_true, Bool.or_eq_true, Bool.true_eq_false, Bool.false_eq_true, Bool.not_true, Bool.not_false, if_true, if_false, ite_true, ite_false, true_and, and_true, false_and, and_false, Int.toNat_natCast, toN_succ, Int.ofNat_eq_natCast, Int.ofNat_toNat, Nat.zero_add, Nat.add_zero, not_true_eq_false, not_false_eq_true, implies_true, wr64]
      rw [if_neg (by omega)]
      intro hm
      obtain ⟨i, hi, e⟩ := mem_getD 0 hm
      exact hj i hi e.symm
  unfold F66 F23
  obtain ⟨y, hy, hp⟩ := hL
  rw [hy]
  rcases y with _ | r
  · exact ⟨false, by simp, by simpa using hp⟩
  · exact ⟨true, by simp [hp.1], by simpa using hp.2⟩

/-! ### the order -/

/-- tasks with seconds below d, second by second -/
def ups (l : List TTask) : Nat → List Int
  | 0 => []
  | d + 1 => ups l d ++ (numsL l.length).filter (fun x => depK l x = (d : Int))

theorem numsL_succ (n : Nat) : numsL (n + 1) = numsL n ++ [(n : Int)] := by
  unfold numsL
  rw [List.range_succ, List.map_append]
  rfl

theorem filter_len {α : Type} (p : α → Bool) (l : List α) : (l.filter p).length ≤ l.length := List.length_filter_le p l

theorem L98_6_ret (l : List TTask) (h : l.length ≤ 40) (d : Nat) (v : List Int) (hv : v.length ≤ 40) :
    L98_6 l (d : Int) (v, 0) = some (v ++ (numsL l.length).filter (fun x => depK l x = (d : Int))) := by
  refine Ret.eq ?_
  unfold L98_6
  refine Ret.loop l.length (fun i s => s.2 = (i : Int) ∧ s.1 = v ++ (numsL i).filter (fun x => depK l x = (d : Int))) ⟨rfl, by simp [numsL]⟩ ?_ ?_
  · rintro i ⟨m, y⟩ hi ⟨rfl, rfl⟩
    have hl : ((numsL i).filter (fun x => depK l x = (d : Int))).length ≤ i := by
      have := filter_len (fun x => decide (depK l x = (d : Int))) (numsL i)
      rw [numsL_len] at this
      exact this
    have hk : depK l (i : Int) = TTask.dep (l.getD i TTask.d) := by unfold depK; rw [Int.toNat_natCast]
    unfold B98_6
    simp (disch := omega) only [Ret_some, Ret_none, Ret_bind, Ret_asrt, Ret_cond, Sum.elim_inl, Sum.elim_inr, decide_eq_true_eq, decide_eq_false_iff_not, Bool.not_eq_true', Bool.not_not, Bool.and_eq_true, Bool.or_eq_true, Bool.true_eq_false, Bool.false_eq_true, Bool.not_true, Bool.not_false, if_true, if_false, ite_true, ite_false, true_and, and_true, false_and, and_false, Int.toNat_natCast, toN_succ, Int.ofNat_eq_natCast, Int.ofNat_toNat, Nat.zero_add, Nat.add_zero, not_true_eq_false, not_false_eq_true, implies_true, wr64]
    rw [if_pos (by omega)]
    refine ⟨by omega, ?_⟩
    rw [numsL_succ, List.filter_append]
    split
    · rename_i e
      refine ⟨by rw [List.length_append]; omega, by omega, ?_⟩
      rw [List.append_assoc]
      have : [(i : Int)].filter (fun x => decide (depK l x = (d : Int))) = [(i : Int)] := by simp only [List.filter, hk, e, decide_true]
      rw [this]
    · rename_i e
      refine ⟨by omega, ?_⟩
      have : [(i : Int)].filter (fun x => decide (depK l x = (d : Int))) = [] := by simp only [List.filter, hk, e, decide_false]
      rw [this, List.append_nil]
  · rintro ⟨m, y⟩ ⟨rfl, rfl⟩
    unfold B98_6
    simp (disch := omega) only [Ret_some, Ret_none, Ret_bind, Ret_asrt, Ret_cond, Sum.elim_inl, Sum.elim_inr, decide_eq_true_eq, decide_eq_false_iff_not, Bool.not_eq_true', Bool.not_not, Bool.and_eq_true, Bool.or_eq_true, Bool.true_eq_false, Bool.false_eq_true, Bool.not_true, Bool.not_false, if_true, if_false, ite_true, ite_false, true_and, and_true, false_and, and_false, Int.toNat_natCast, toN_succ, Int.ofNat_eq_natCast, Int.ofNat_toNat, Nat.zero_add, Nat.add_zero, not_true_eq_false, not_false_eq_true, implies_true, wr64]
    rw [if_neg (by omega)]
    trivial

theorem ups_fil (l : List TTask) (v : Int) : ∀ d, (ups l d).filter (fun x => depK l x = v) = if 0 ≤ v ∧ v < (d : Int) then (numsL l.length).filter (fun x => depK l x = v) else []
  | 0 => by rw [if_neg (by omega)]; rfl
  | d + 1 => by
    simp only [ups, List.filter_append, ups_fil l v d, List.filter_filter]
    by_cases c : 0 ≤ v ∧ v < (d : Int)
    · rw [if_pos c, if_pos (by omega)]
      have : (numsL l.length).filter (fun x => decide (depK l x = v) && decide (depK l x = (d : Int))) = [] := by
        rw [List.filter_eq_nil_iff]
        intro x _
        simp only [Bool.and_eq_true, decide_eq_true_eq]
        omega
      rw [this, List.append_nil]
    · rw [if_neg c, List.nil_append]
      by_cases e : v = (d : Int)
      · subst e
        rw [if_pos (by omega)]
        congr 1
        funext x
        simp
      · rw [if_neg (by omega), List.filter_eq_nil_iff]
        intro x _
        simp only [Bool.and_eq_true, decide_eq_true_eq]
        omega

theorem ups_lt (l : List TTask) : ∀ d, ∀ x ∈ ups l d, depK l x < (d : Int)
  | 0, x, hx => by simp [ups] at hx
  | d + 1, x, hx => by
    simp only [ups, List.mem_append, List.mem_filter, decide_eq_true_eq] at hx
    rcases hx with hx | hx
    · have := ups_lt l d x hx; omega
    · omega

theorem ups_srt (l : List TTask) : ∀ d, Sort.Srt (depK l) (ups l d)
  | 0 => List.Pairwise.nil
  | d + 1 => by
    unfold ups
    refine Sort.Srt.app.2 ⟨ups_srt l d, ?_, fun a ha b hb => ?_⟩
    · unfold Sort.Srt
      refine List.Pairwise.imp_of_mem (R := fun _ _ => True) (fun {a b} ha hb _ => ?_) (List.pairwise_of_forall (fun _ _ => trivial))
      simp only [List.mem_filter, decide_eq_true_eq] at ha hb
      omega
    · have := ups_lt l d a ha
      simp only [List.mem_filter, decide_eq_true_eq] at hb
      omega

theorem ups_pre (l : List TTask) : ∀ {d e : Nat}, d ≤ e → ∃ t, ups l e = ups l d ++ t := by
  intro d e h
  induction h with
  | refl => exact ⟨[], by simp⟩
  | @step m _ ih =>
    obtain ⟨t, ht⟩ := ih
    exact ⟨t ++ (numsL l.length).filter (fun x => depK l x = (m : Int)), by simp only [ups, ht, List.append_assoc]⟩

theorem ups_eqv (l : List TTask) (h : ∀ i, i < l.length → TOk (l.getD i TTask.d)) : Sort.Eqv (depK l) (ups l 28801) (numsL l.length) := fun v => by
  rw [ups_fil]
  by_cases c : 0 ≤ v ∧ v < ((28801 : Nat) : Int)
  · rw [if_pos c]
  · rw [if_neg c]
    symm
    rw [List.filter_eq_nil_iff]
    intro x hx
    have hx := numsL_mem.1 hx
    have ht := h x.toNat (by omega)
    have h1 := ht.d0
    have h2 := ht.d1
    simp only [decide_eq_true_eq]
    unfold depK
    omega

theorem F98_ret (l : List TTask) (h : l.length ≤ 40) (ht : ∀ i, i < l.length → TOk (l.getD i TTask.d)) : F98 l = some (ups l 28801) := by
  have hfull : ∀ d, d ≤ 28801 → l.length ≤ (ups l d).length → ups l d = ups l 28801 := fun d hd hl => by
    obtain ⟨t, e⟩ := ups_pre l hd
    have := (ups_eqv l ht).len
    rw [e, List.length_append, numsL_len] at this
    have : t = [] := List.length_eq_zero_iff.1 (by omega)
    rw [e, this, List.append_nil]
  have hlen : ∀ d, d ≤ 28801 → (ups l d).length ≤ 40 := fun d hd => by
    obtain ⟨t, e⟩ := ups_pre l hd
    have := (ups_eqv l ht).len
    rw [e, List.length_append, numsL_len] at this
    omega
  have hL : L98_3 l ([], 0) = some (ups l 28801) := by
    refine Ret.eq ?_
    unfold L98_3
    refine Ret.while (fun s => ∃ d : Nat, d ≤ 28801 ∧ s = (ups l d, (d : Int))) (fun s => (28802 - s.2).toNat) ⟨0, by omega, rfl⟩ ?_
    rintro s ⟨d, hd, rfl⟩
    unfold B98_3
    simp (disch := omega) only [Ret_some, Ret_none, Ret_bind, Ret_asrt, Ret_cond, Sum.elim_inl, Sum.elim_inr, decide_eq_true_eq, decide_eq_false_iff_not, Bool.not_eq_true', Bool.not_not, Bool.and_eq_true, Bool.or_eq_true, Bool.true_eq_false, Bool.false_eq_true, Bool.not_true, Bool.not_false, if_true, if_false, ite_true, ite_false, true_and, and_true, false_and, and_false, Int.toNat_natCast, toN_succ, Int.ofNat_eq_natCast, Int.ofNat_toNat, Nat.zero_add, Nat.add_zero, not_true_eq_false, not_false_eq_true, implies_true, wr64]
    by_cases c : ((ups l d).length : Int) < (l.length : Int)
    · rw [if_pos c]
      by_cases c2 : (d : Int) ≤ 28800
      · rw [if_pos c2]
        refine Ret.of (L98_6_ret l h d _ (hlen d hd)) ?_
        refine ⟨⟨d + 1, by omega, ?_⟩, by omega⟩
        rfl
      · rw [if_neg c2]
        rw [show d = 28801 by omega]
    · rw [if_neg c]
      exact hfull d hd (by omega)
  unfold F98
  rw [hL]
  rfl

theorem order_eq (l : List TTask) (h : l.length ≤ 40) (ht : ∀ i, i < l.length → TOk (l.getD i TTask.d)) : F96 l = some (ups l 28801) := by
  obtain ⟨r, h1, h2, h3⟩ := F96_ret l (by omega)
  rw [h1, Sort.Srt.uniq h2 (ups_srt l 28801) (h3.trans (ups_eqv l ht).symm)]

/-! ### turn by turn -/

/-- the last task of a turn -/
def lst (m : List (List Int)) (i : Nat) : Int := (m.getD i []).getD ((m.getD i []).length - 1) 0

open Classical in
/-- is turn i better than the best one so far? -/
noncomputable def nx (a0 : List TTask) (a1 k : Int) (m : List (List Int)) (b : Int) (i : Nat) : Int :=
  if lst m i ≠ k ∧ (a0.getD (lst m i).toNat TTask.d).to0 = (a0.getD k.toNat TTask.d).from0 ∧ (a0.getD (lst m i).toNat TTask.d).arr + a1 ≤ (a0.getD k.toNat TTask.d).dep ∧ (b < 0 ∨ (a0.getD (lst m i).toNat TTask.d).arr < (a0.getD (lst m b.toNat).toNat TTask.d).arr) then (i : Int) else b

/-- the best of the first i turns -/
noncomputable def bsF (a0 : List TTask) (a1 k : Int) (m : List (List Int)) : Nat → Int
  | 0 => -1
  | i + 1 => nx a0 a1 k m (bsF a0 a1 k m i) i

theorem bsF_ok (a0 : List TTask) (a1 k : Int) (m : List (List Int)) : ∀ i, bsF a0 a1 k m i = -1 ∨ (0 ≤ bsF a0 a1 k m i ∧ bsF a0 a1 k m i < (i : Int))
  | 0 => .inl rfl
  | i + 1 => by
    have ih := bsF_ok a0 a1 k m i
    simp only [bsF, nx]
    split
    · right; omega
    · omega

/-- turns that are not too long -/
structure Rows (n T : Nat) (m : List (List Int)) : Prop where
  len : m.length ≤ T
  pos : ∀ x ∈ m, 0 < x.length
  row : ∀ x ∈ m, x.length ≤ T
  el : ∀ x ∈ m, ∀ e ∈ x, 0 ≤ e ∧ e < (n : Int)

theorem Rows.lst {n T : Nat} {m : List (List Int)} (h : Rows n T m) {i : Nat} (hi : i < m.length) : 0 ≤ lst m i ∧ lst m i < (n : Int) := by
  have hm := getD_mem (d := []) hi
  have hp := h.pos _ hm
  exact h.el _ hm _ (getD_mem (by omega))

theorem F97_eq {x y : TTask} {t : Int} (hx : TOk x) (h0 : 0 ≤ t) (h1 : t ≤ 28800) : F97 x y t = some (decide (y.from0 = x.to0 ∧ x.arr + t ≤ y.dep)) := by
  have := hx.a0
  have := hx.a1
  unfold F97
  rw [wr64 (by omega) (by omega)]
  by_cases c : y.from0 = x.to0 <;> simp [c]

section
variable {a0 : List TTask} {a1 : Int} {r : List Int} {m : List (List Int)} {T : Nat}

theorem L48_12_eq (hn : ∀ i, i < a0.length → TOk (a0.getD i TTask.d)) (hl : a0.length ≤ 40) (h0 : 0 ≤ a1) (h1 : a1 ≤ 28800) (hT : T ≤ 1000) (hm : Rows a0.length T m) {j : Nat} (hk : 0 ≤ r.getD j 0 ∧ r.getD j 0 < (a0.length : Int)) :
    L48_12 a0 a1 r (j : Int) m (-1, 0) = some (bsF a0 a1 (r.getD j 0) m m.length) := by
  refine Ret.eq ?_
  unfold L48_12
  refine Ret.loop m.length (fun i s => s.2 = (i : Int) ∧ s.1 = bsF a0 a1 (r.getD j 0) m i) ⟨rfl, rfl⟩ ?_ ?_
  · rintro i ⟨b, y⟩ hi ⟨rfl, rfl⟩
    have hb := bsF_ok a0 a1 (r.getD j 0) m i
    have hli := hm.lst hi
    have hpi := hm.pos _ (getD_mem (d := []) hi)
    have hri := hm.row _ (getD_mem (d := []) hi)
    have hml := hm.len
    have hti := hn (lst m i).toNat (by omega)
    have e1 : (IntKind.wrap .i64 (((m.getD i []).length : Int) - 1)) = ((m.getD i []).length : Int) - 1 := wr64 (by omega) (by omega)
    have e2 : (((m.getD i []).length : Int) - 1).toNat = (m.getD i []).length - 1 := by omega
    have f97 := F97_eq (y := a0.getD (r.getD j 0).toNat TTask.d) hti h0 h1
    simp only [bsF]
    generalize hbb : bsF a0 a1 (r.getD j 0) m i = b at hb ⊢
    unfold B48_12
    simp only [Int.toNat_natCast, Nat.zero_add, e1, e2]
    change Ret (bif decide ((i : Int) < (m.length : Int)) then _ else _) _
    rw [show (m.getD i []).getD ((m.getD i []).length - 1) 0 = lst m i from rfl, f97]
    have hbm : 0 ≤ b → b.toNat < m.length := by omega
    have hbl : 0 ≤ b → (0 ≤ lst m b.toNat ∧ lst m b.toNat < (a0.length : Int)) ∧ 0 < (m.getD b.toNat []).length ∧ (m.getD b.toNat []).length ≤ 1000 := fun q =>
      ⟨hm.lst (hbm q), hm.pos _ (getD_mem (d := []) (hbm q)), Nat.le_trans (hm.row _ (getD_mem (d := []) (hbm q))) hT⟩
    have e3 : 0 ≤ b → (IntKind.wrap .i64 (((m.getD b.toNat []).length : Int) - 1)) = ((m.getD b.toNat []).length : Int) - 1 := fun q => wr64 (by have := hbl q; omega) (by have := hbl q; omega)
    have e4 : 0 ≤ b → (((m.getD b.toNat []).length : Int) - 1).toNat = (m.getD b.toNat []).length - 1 := fun q => by have := hbl q; omega
    simp (disch := omega) only [Ret_some, Ret_none, Ret_bind, Ret_asrt, Ret_cond, Sum.elim_inl, Sum.elim_inr, decide_eq_true_eq, decide_eq_false_iff_not, Bool.not_eq_true', Bool.not_not, Bool.and_eq_true, Bool.or_eq_true, Bool.true_eq_false, Bool.false_eq_true, Bool.not_true, Bool.not_false, if_true, if_false, ite_true, ite_false, true_and, and_true, false_and, and_false, Int.toNat_natCast, toN_succ, Int.ofNat_eq_natCast, Int.ofNat_toNat, Nat.zero_add, Nat.add_zero, not_true_eq_false, not_false_eq_true, implies_true, wr64]
    rw [if_pos (by omega)]
    refine ⟨by omega, hi, by omega, ?_⟩
    unfold nx
    split
    · refine ⟨hli, hk, ?_⟩
      split
      · rename_i c
        split
        · exact ⟨by omega, by rw [if_pos (by omega)]⟩
        · rename_i c2
          have q : 0 ≤ b := by omega
          rw [e4 q, show (m.getD b.toNat []).getD ((m.getD b.toNat []).length - 1) 0 = lst m b.toNat from rfl]
          have := hbl q
          refine ⟨by omega, hbm q, by omega, by omega, ?_⟩
          split
          · exact ⟨by omega, by rw [if_pos (by omega)]⟩
          · exact ⟨by omega, by rw [if_neg (by omega)]⟩
      · exact ⟨by omega, by rw [if_neg (by omega)]⟩
    · exact ⟨by omega, by rw [if_neg (by omega)]⟩
  · rintro ⟨b, y⟩ ⟨rfl, rfl⟩
    unfold B48_12
    simp (disch := omega) only [Ret_some, Ret_none, Ret_bind, Ret_asrt, Ret_cond, Sum.elim_inl, Sum.elim_inr, decide_eq_true_eq, decide_eq_false_iff_not, Bool.not_eq_true', Bool.not_not, Bool.and_eq_true, Bool.or_eq_true, Bool.true_eq_false, Bool.false_eq_true, Bool.not_true, Bool.not_false, if_true, if_false, ite_true, ite_false, true_and, and_true, false_and, and_false, Int.toNat_natCast, toN_succ, Int.ofNat_eq_natCast, Int.ofNat_toNat, Nat.zero_add, Nat.add_zero, not_true_eq_false, not_false_eq_true, implies_true, wr64]
    rw [if_neg (by omega)]
    trivial

theorem L50_9_eq (hn : ∀ i, i < a0.length → TOk (a0.getD i TTask.d)) (hl : a0.length ≤ 40) (h0 : 0 ≤ a1) (h1 : a1 ≤ 28800) (hT : T ≤ 1000) (hm : Rows a0.length T m) {j : Nat} (hq : ∀ i, i < m.length → (r.getD j 0 ∈ m.getD i [] ↔ lst m i = r.getD j 0)) (hk : 0 ≤ r.getD j 0 ∧ r.getD j 0 < (a0.length : Int)) :
    L50_9 a0 a1 r (j : Int) m (-1, 0) = some (bsF a0 a1 (r.getD j 0) m m.length) := by
  refine Ret.eq ?_
  unfold L50_9
  refine Ret.loop m.length (fun i s => s.2 = (i : Int) ∧ s.1 = bsF a0 a1 (r.getD j 0) m i) ⟨rfl, rfl⟩ ?_ ?_
  · rintro i ⟨b, y⟩ hi ⟨rfl, rfl⟩
    have hb := bsF_ok a0 a1 (r.getD j 0) m i
    have hli := hm.lst hi
    have hpi := hm.pos _ (getD_mem (d := []) hi)
    have hri := hm.row _ (getD_mem (d := []) hi)
    have hml := hm.len
    have hti := hn (lst m i).toNat (by omega)
    have e1 : (IntKind.wrap .i64 (((m.getD i []).length : Int) - 1)) = ((m.getD i []).length : Int) - 1 := wr64 (by omega) (by omega)
    have e2 : (((m.getD i []).length : Int) - 1).toNat = (m.getD i []).length - 1 := by omega
    simp only [bsF]
    generalize hbb : bsF a0 a1 (r.getD j 0) m i = b at hb ⊢
    unfold B50_9
    simp only [Int.toNat_natCast, Nat.zero_add, e1, e2]
    change Ret (bif decide ((i : Int) < (m.length : Int)) then _ else _) _
    rw [show (m.getD i []).getD ((m.getD i []).length - 1) 0 = lst m i from rfl]
    have hbm : 0 ≤ b → b.toNat < m.length := by omega
    have hbl : 0 ≤ b → (0 ≤ lst m b.toNat ∧ lst m b.toNat < (a0.length : Int)) ∧ 0 < (m.getD b.toNat []).length ∧ (m.getD b.toNat []).length ≤ 1000 := fun q =>
      ⟨hm.lst (hbm q), hm.pos _ (getD_mem (d := []) (hbm q)), Nat.le_trans (hm.row _ (getD_mem (d := []) (hbm q))) hT⟩
    have e3 : 0 ≤ b → (IntKind.wrap .i64 (((m.getD b.toNat []).length : Int) - 1)) = ((m.getD b.toNat []).length : Int) - 1 := fun q => wr64 (by have := hbl q; omega) (by have := hbl q; omega)
    have e4 : 0 ≤ b → (((m.getD b.toNat []).length : Int) - 1).toNat = (m.getD b.toNat []).length - 1 := fun q => by have := hbl q; omega
    obtain ⟨bb, hb1, hb2⟩ := F66_ret (m.getD i []) (r.getD j 0) (by omega)
    have hqi := hq i hi
    rw [hb1]
    have hw : IntKind.wrap .i64 ((a0.getD (lst m i).toNat TTask.d).arr + a1) = (a0.getD (lst m i).toNat TTask.d).arr + a1 := wr64 (by have := hti.a0; omega) (by have := hti.a1; omega)
    simp (disch := omega) only [Ret_some, Ret_none, Ret_bind, Ret_asrt, Ret_cond, Sum.elim_inl, Sum.elim_inr, decide_eq_true_eq, decide_eq_false_iff_not, Bool.not_eq_true', Bool.not_not, Bool.and_eq_true, Bool.or_eq_true, Bool.true_eq_false, Bool.false_eq_true, Bool.not_true, Bool.not_false, if_true, if_false, ite_true, ite_false, true_and, and_true, false_and, and_false, Int.toNat_natCast, toN_succ, Int.ofNat_eq_natCast, Int.ofNat_toNat, Nat.zero_add, Nat.add_zero, not_true_eq_false, not_false_eq_true, implies_true, wr64, hw]
    rw [if_pos (by omega)]
    refine ⟨by omega, hi, by omega, hli, ?_⟩
    unfold nx
    split
    · rename_i c
      have c := hqi.1 (hb2.1 c)
      exact ⟨by omega, by rw [if_neg (by omega)]⟩
    · rename_i c
      have c : lst m i ≠ r.getD j 0 := fun e => c (hb2.2 (hqi.2 e))
      refine ⟨hk, ?_⟩
      split
      · exact ⟨by omega, by rw [if_neg (by omega)]⟩
      · split
        · exact ⟨by omega, by rw [if_neg (by omega)]⟩
        · split
          · exact ⟨by omega, by rw [if_pos (by omega)]⟩
          · rename_i c2
            have q : 0 ≤ b := by omega
            rw [e4 q, show (m.getD b.toNat []).getD ((m.getD b.toNat []).length - 1) 0 = lst m b.toNat from rfl]
            have := hbl q
            refine ⟨by omega, hbm q, by omega, by omega, ?_⟩
            split
            · exact ⟨by omega, by rw [if_pos (by omega)]⟩
            · exact ⟨by omega, by rw [if_neg (by omega)]⟩
  · rintro ⟨b, y⟩ ⟨rfl, rfl⟩
    unfold B50_9
    simp (disch := omega) only [Ret_some, Ret_none, Ret_bind, Ret_asrt, Ret_cond, Sum.elim_inl, Sum.elim_inr, decide_eq_true_eq, decide_eq_false_iff_not, Bool.not_eq_true', Bool.not_not, Bool.and_eq_true, Bool.or_eq_true, Bool.true_eq_false, Bool.false_eq_true, Bool.not_true, Bool.not_false, if_true, if_false, ite_true, ite_false, true_and, and_true, false_and, and_false, Int.toNat_natCast, toN_succ, Int.ofNat_eq_natCast, Int.ofNat_toNat, Nat.zero_add, Nat.add_zero, not_true_eq_false, not_false_eq_true, implies_true, wr64]
    rw [if_neg (by omega)]
    trivial

/-- a task is laid behind turn p, or into a turn of its own -/
def pt (k : Int) (m : List (List Int)) (p : Int) : List (List Int) := if p < 0 then m ++ [[k]] else m.set p.toNat (m.getD p.toNat [] ++ [k])

noncomputable def stU (a0 : List TTask) (a1 k : Int) (m : List (List Int)) : List (List Int) := pt k m (bsF a0 a1 k m m.length)

noncomputable def itU (a0 : List TTask) (a1 k : Int) (m : List (List Int)) : Nat → List (List Int)
  | 0 => m
  | c + 1 => stU a0 a1 k (itU a0 a1 k m c)

theorem mem_pt {k : Int} {m : List (List Int)} {p : Int} (hp : p = -1 ∨ (0 ≤ p ∧ p < (m.length : Int))) {x : List Int} (hx : x ∈ pt k m p) : x ∈ m ∨ x = [k] ∨ ∃ y ∈ m, x = y ++ [k] := by
  unfold pt at hx
  split at hx
  · rcases List.mem_append.1 hx with h | h
    · exact .inl h
    · simp at h; exact .inr (.inl h)
  · rcases List.mem_or_eq_of_mem_set hx with h | h
    · exact .inl h
    · exact .inr (.inr ⟨_, getD_mem (by omega), h⟩)

theorem Rows.pt {n T : Nat} {m : List (List Int)} {k p : Int} (h : Rows n T m) (hk : 0 ≤ k ∧ k < (n : Int)) (hp : p = -1 ∨ (0 ≤ p ∧ p < (m.length : Int))) : Rows n (T + 1) (pt k m p) := by
  refine ⟨?_, fun x hx => ?_, fun x hx => ?_, fun x hx => ?_⟩
  · have := h.len
    unfold Go.Proofs.Ytciflideblafgaa.pt
    split
    · simp; omega
    · simp; omega
  · rcases mem_pt hp hx with h' | rfl | ⟨y, hy, rfl⟩
    · exact h.pos x h'
    · simp
    · simp
  · rcases mem_pt hp hx with h' | rfl | ⟨y, hy, rfl⟩
    · have := h.row x h'; omega
    · simp
    · have := h.row y hy
      simp; omega
  · rcases mem_pt hp hx with h' | rfl | ⟨y, hy, rfl⟩
    · exact h.el x h'
    · intro e he; simp at he; subst he; exact hk
    · intro e he
      rcases List.mem_append.1 he with he | he
      · exact h.el y hy e he
      · simp at he; subst he; exact hk

/-- where it stands, it stands last -/
def Last (k : Int) (m : List (List Int)) : Prop := ∀ x ∈ m, k ∈ x → x.getD (x.length - 1) 0 = k

theorem Last.pt {m : List (List Int)} {k p : Int} (h : Last k m) (hp : p = -1 ∨ (0 ≤ p ∧ p < (m.length : Int))) : Last k (pt k m p) := fun x hx hkx => by
  rcases mem_pt hp hx with h' | rfl | ⟨y, hy, rfl⟩
  · exact h x h' hkx
  · rfl
  · simp [List.getD_eq_getElem?_getD]

theorem Last.q {n T : Nat} {m : List (List Int)} {k : Int} (h : Last k m) (hm : Rows n T m) : ∀ i, i < m.length → (k ∈ m.getD i [] ↔ lst m i = k) := fun i hi => by
  have hmem := getD_mem (d := []) hi
  have hp := hm.pos _ hmem
  refine ⟨h _ hmem, fun e => ?_⟩
  rw [← e]
  exact getD_mem (by omega)

theorem itU_ok {a0 : List TTask} {a1 k : Int} {m : List (List Int)} {T : Nat} (hm : Rows a0.length T m) (hl : Last k m) (hk : 0 ≤ k ∧ k < (a0.length : Int)) : ∀ c, Rows a0.length (T + c) (itU a0 a1 k m c) ∧ Last k (itU a0 a1 k m c)
  | 0 => ⟨hm, hl⟩
  | c + 1 => by
    obtain ⟨h1, h2⟩ := itU_ok hm hl hk c
    exact ⟨h1.pt hk (bsF_ok ..), h2.pt (bsF_ok ..)⟩

theorem set_last {α : Type} (m : List α) (x y : α) : (m ++ [x]).set m.length y = m ++ [y] := by
  rw [List.set_append_right _ _ (Nat.le_refl _)]
  simp

theorem getD_last {α : Type} (m : List α) (x d : α) : (m ++ [x]).getD m.length d = x := by simp [List.getD_eq_getElem?_getD]


theorem L48_9_eq (hn : ∀ i, i < a0.length → TOk (a0.getD i TTask.d)) (hl : a0.length ≤ 40) (h0 : 0 ≤ a1) (h1 : a1 ≤ 28800) (hT : T ≤ 900) (hm : Rows a0.length T m) {j : Nat} (hla : Last (r.getD j 0) m) (hk : 0 ≤ r.getD j 0 ∧ r.getD j 0 < (a0.length : Int)) :
    L48_9 a0 a1 r (j : Int) (0, m) = some (itU a0 a1 (r.getD j 0) m (a0.getD (r.getD j 0).toNat TTask.d).units.toNat) := by
  have ht := hn (r.getD j 0).toNat (by omega)
  have u1 := ht.u1
  have u4 := ht.u4
  refine Ret.eq ?_
  unfold L48_9
  refine Ret.loop (a0.getD (r.getD j 0).toNat TTask.d).units.toNat (fun c s => s.1 = (c : Int) ∧ s.2 = itU a0 a1 (r.getD j 0) m c) ⟨rfl, rfl⟩ ?_ ?_
  · rintro c ⟨y, m'⟩ hc ⟨rfl, rfl⟩
    obtain ⟨i1, i2⟩ := itU_ok (a1 := a1) hm hla hk c
    have hL := L48_12_eq (r := r) (j := j) hn hl h0 h1 (by omega) i1 hk
    have hb := bsF_ok a0 a1 (r.getD j 0) (itU a0 a1 (r.getD j 0) m c) (itU a0 a1 (r.getD j 0) m c).length
    have i1l := i1.len
    simp only [itU, stU]
    generalize itU a0 a1 (r.getD j 0) m c = m' at *
    generalize bsF a0 a1 (r.getD j 0) m' m'.length = p at *
    unfold B48_9
    simp only [Int.toNat_natCast]
    rw [hL]
    simp (disch := omega) only [Ret_some, Ret_none, Ret_bind, Ret_asrt, Ret_cond, Sum.elim_inl, Sum.elim_inr, decide_eq_true_eq, decide_eq_false_iff_not, Bool.not_eq_true', Bool.not_not, Bool.and_eq_true, Bool.or_eq_true, Bool.true_eq_false, Bool.false_eq_true, Bool.not_true, Bool.not_false, if_true, if_false, ite_true, ite_false, true_and, and_true, false_and, and_false, Int.toNat_natCast, toN_succ, Int.ofNat_eq_natCast, Int.ofNat_toNat, Nat.zero_add, Nat.add_zero, not_true_eq_false, not_false_eq_true, implies_true, wr64]
    rw [if_pos (by omega)]
    unfold pt
    rcases hb with rfl | hb
    · rw [if_pos (by omega), if_pos (by omega)]
      have e : (((m'.length + 1 : Nat) : Int) - 1).toNat = m'.length := by omega
      rw [e, getD_last, set_last]
      simp only [List.length_append, List.length_singleton, List.length_nil, List.nil_append]
      exact ⟨by omega, by omega, by omega, by omega, by omega, trivial⟩
    · rw [if_neg (by omega), if_neg (by omega)]
      have hr := i1.row _ (getD_mem (d := []) (i := p.toNat) (by omega))
      exact ⟨by omega, by omega, by omega, by omega, rfl⟩
  · rintro ⟨y, m'⟩ ⟨rfl, rfl⟩
    unfold B48_9
    simp (disch := omega) only [Ret_some, Ret_none, Ret_bind, Ret_asrt, Ret_cond, Sum.elim_inl, Sum.elim_inr, decide_eq_true_eq, decide_eq_false_iff_not, Bool.not_eq_true', Bool.not_not, Bool.and_eq_true, Bool.or_eq_true, Bool.true_eq_false, Bool.false_eq_true, Bool.not_true, Bool.not_false, if_true, if_false, ite_true, ite_false, true_and, and_true, false_and, and_false, Int.toNat_natCast, toN_succ, Int.ofNat_eq_natCast, Int.ofNat_toNat, Nat.zero_add, Nat.add_zero, not_true_eq_false, not_false_eq_true, implies_true, wr64]
    rw [if_neg (by omega)]
    trivial

theorem L50_6_eq (hn : ∀ i, i < a0.length → TOk (a0.getD i TTask.d)) (hl : a0.length ≤ 40) (h0 : 0 ≤ a1) (h1 : a1 ≤ 28800) (hT : T ≤ 900) (hm : Rows a0.length T m) {j : Nat} (hla : Last (r.getD j 0) m) (hk : 0 ≤ r.getD j 0 ∧ r.getD j 0 < (a0.length : Int)) :
    L50_6 a0 a1 r (j : Int) (0, m) = some (itU a0 a1 (r.getD j 0) m (a0.getD (r.getD j 0).toNat TTask.d).units.toNat) := by
  have ht := hn (r.getD j 0).toNat (by omega)
  have u1 := ht.u1
  have u4 := ht.u4
  refine Ret.eq ?_
  unfold L50_6
  refine Ret.loop (a0.getD (r.getD j 0).toNat TTask.d).units.toNat (fun c s => s.1 = (c : Int) ∧ s.2 = itU a0 a1 (r.getD j 0) m c) ⟨rfl, rfl⟩ ?_ ?_
  · rintro c ⟨y, m'⟩ hc ⟨rfl, rfl⟩
    obtain ⟨i1, i2⟩ := itU_ok (a1 := a1) hm hla hk c
    have hL := L50_9_eq (r := r) (j := j) hn hl h0 h1 (by omega) i1 (i2.q i1) hk
    have hb := bsF_ok a0 a1 (r.getD j 0) (itU a0 a1 (r.getD j 0) m c) (itU a0 a1 (r.getD j 0) m c).length
    have i1l := i1.len
    simp only [itU, stU]
    generalize itU a0 a1 (r.getD j 0) m c = m' at *
    generalize bsF a0 a1 (r.getD j 0) m' m'.length = p at *
    unfold B50_6
    simp only [Int.toNat_natCast]
    rw [hL]
    simp (disch := omega) only [Ret_some, Ret_none, Ret_bind, Ret_asrt, Ret_cond, Sum.elim_inl, Sum.elim_inr, decide_eq_true_eq, decide_eq_false_iff_not, Bool.not_eq_true', Bool.not_not, Bool.and_eq_true, Bool.or_eq_true, Bool.true_eq_false, Bool.false_eq_true, Bool.not_true, Bool.not_false, if_true, if_false, ite_true, ite_false, true_and, and_true, false_and, and_false, Int.toNat_natCast, toN_succ, Int.ofNat_eq_natCast, Int.ofNat_toNat, Nat.zero_add, Nat.add_zero, not_true_eq_false, not_false_eq_true, implies_true, wr64]
    rw [if_pos (by omega)]
    unfold pt
    rcases hb with rfl | hb
    · rw [if_pos (by omega), if_pos (by omega)]
      rw [getD_last, set_last]
      simp only [List.length_append, List.length_singleton, List.length_nil, List.nil_append]
      exact ⟨by omega, by omega, by omega, by omega, by omega, trivial⟩
    · rw [if_neg (by omega), if_neg (by omega)]
      have hr := i1.row _ (getD_mem (d := []) (i := p.toNat) (by omega))
      exact ⟨by omega, by omega, by omega, by omega, rfl⟩
  · rintro ⟨y, m'⟩ ⟨rfl, rfl⟩
    unfold B50_6
    simp (disch := omega) only [Ret_some, Ret_none, Ret_bind, Ret_asrt, Ret_cond, Sum.elim_inl, Sum.elim_inr, decide_eq_true_eq, decide_eq_false_iff_not, Bool.not_eq_true', Bool.not_not, Bool.and_eq_true, Bool.or_eq_true, Bool.true_eq_false, Bool.false_eq_true, Bool.not_true, Bool.not_false, if_true, if_false, ite_true, ite_false, true_and, and_true, false_and, and_false, Int.toNat_natCast, toN_succ, Int.ofNat_eq_natCast, Int.ofNat_toNat, Nat.zero_add, Nat.add_zero, not_true_eq_false, not_false_eq_true, implies_true, wr64]
    rw [if_neg (by omega)]
    trivial

end

/-- the turns of the first j tasks of an order -/
noncomputable def outR (a0 : List TTask) (a1 : Int) (r : List Int) : Nat → List (List Int)
  | 0 => []
  | j + 1 => itU a0 a1 (r.getD j 0) (outR a0 a1 r j) (a0.getD (r.getD j 0).toNat TTask.d).units.toNat

theorem mem_itU {a0 : List TTask} {a1 k : Int} {m : List (List Int)} {S : Int → Prop} (hk : S k) (h : ∀ x ∈ m, ∀ e ∈ x, S e) : ∀ c, ∀ x ∈ itU a0 a1 k m c, ∀ e ∈ x, S e
  | 0 => h
  | c + 1 => fun x hx => by
    have ih := mem_itU (a0 := a0) (a1 := a1) hk h c
    rcases mem_pt (bsF_ok ..) hx with h' | rfl | ⟨y, hy, rfl⟩
    · exact ih x h'
    · intro e he; simp at he; subst he; exact hk
    · intro e he
      rcases List.mem_append.1 he with he | he
      · exact ih y hy e he
      · simp at he; subst he; exact hk

theorem Rows.mono {n T T' : Nat} {m : List (List Int)} (h : Rows n T m) (hT : T ≤ T') : Rows n T' m :=
  ⟨Nat.le_trans h.len hT, h.pos, fun x hx => Nat.le_trans (h.row x hx) hT, h.el⟩

section
variable {a0 : List TTask} {a1 : Int} {r : List Int}

theorem outR_ok (hn : ∀ i, i < a0.length → TOk (a0.getD i TTask.d)) (hnd : r.Nodup) (hk : ∀ x ∈ r, 0 ≤ x ∧ x < (a0.length : Int)) : ∀ j, j ≤ r.length → Rows a0.length (4 * j) (outR a0 a1 r j) ∧ ∀ x ∈ outR a0 a1 r j, ∀ e ∈ x, e ∈ r.take j
  | 0, _ => ⟨⟨by simp [outR], fun x hx => by simp [outR] at hx, fun x hx => by simp [outR] at hx, fun x hx => by simp [outR] at hx⟩, fun x hx => by simp [outR] at hx⟩
  | j + 1, hj => by
    obtain ⟨h1, h2⟩ := outR_ok hn hnd hk j (by omega)
    have hm := getD_mem (d := 0) (l := r) (i := j) (by omega)
    have hkj := hk _ hm
    have ht := hn (r.getD j 0).toNat (by omega)
    have u4 := ht.u4
    have hla := last_of (j := j) hnd (by omega) h2
    obtain ⟨i1, _⟩ := itU_ok (a1 := a1) h1 hla hkj (a0.getD (r.getD j 0).toNat TTask.d).units.toNat
    refine ⟨i1.mono (by omega), ?_⟩
    have e : r.take (j + 1) = r.take j ++ [r.getD j 0] := take_succ' 0 (by omega)
    refine mem_itU (S := fun e => e ∈ r.take (j + 1)) (by rw [e]; simp) (fun x hx e' he => ?_) _
    rw [e]
    exact List.mem_append_left _ (h2 x hx e' he)
where
  last_of {m : List (List Int)} {j : Nat} (hnd : r.Nodup) (hj : j < r.length) (h : ∀ x ∈ m, ∀ e ∈ x, e ∈ r.take j) : Last (r.getD j 0) m := fun x hx hkx => by
    exfalso
    have := h x hx _ hkx
    have e : r = r.take j ++ r.drop j := (List.take_append_drop j r).symm
    rw [e] at hnd
    have hd := (List.nodup_append.1 hnd).2.2
    refine hd _ this (r.getD j 0) ?_ rfl
    rw [List.getD_eq_getElem?_getD, List.getElem?_eq_getElem hj, List.drop_eq_getElem_cons hj]
    exact List.mem_cons_self

theorem L48_6_eq (hn : ∀ i, i < a0.length → TOk (a0.getD i TTask.d)) (hl : a0.length ≤ 40) (h0 : 0 ≤ a1) (h1 : a1 ≤ 28800) (hnd : r.Nodup) (hrl : r.length ≤ 40) (hk : ∀ x ∈ r, 0 ≤ x ∧ x < (a0.length : Int)) :
    L48_6 a0 a1 r (0, []) = some (outR a0 a1 r r.length) := by
  refine Ret.eq ?_
  unfold L48_6
  refine Ret.loop r.length (fun j s => s.1 = (j : Int) ∧ s.2 = outR a0 a1 r j) ⟨rfl, rfl⟩ ?_ ?_
  · rintro j ⟨y, m⟩ hj ⟨rfl, rfl⟩
    obtain ⟨i1, i2⟩ := outR_ok (a1 := a1) hn hnd hk j (by omega)
    have hkj := hk _ (getD_mem (d := 0) (l := r) (i := j) hj)
    have hL := L48_9_eq (r := r) (j := j) hn hl h0 h1 (by omega) i1 (outR_ok.last_of hnd hj i2) hkj
    unfold B48_6
    simp only [Int.toNat_natCast]
    rw [hL]
    simp (disch := omega) only [Ret_some, Ret_none, Ret_bind, Ret_asrt, Ret_cond, Sum.elim_inl, Sum.elim_inr, decide_eq_true_eq, decide_eq_false_iff_not, Bool.not_eq_true', Bool.not_not, Bool.and_eq_true, Bool.or_eq_true, Bool.true_eq_false, Bool.false_eq_true, Bool.not_true, Bool.not_false, if_true, if_false, ite_true, ite_false, true_and, and_true, false_and, and_false, Int.toNat_natCast, toN_succ, Int.ofNat_eq_natCast, Int.ofNat_toNat, Nat.zero_add, Nat.add_zero, not_true_eq_false, not_false_eq_true, implies_true, wr64]
    rw [if_pos (by omega)]
    exact ⟨by omega, hkj, by omega, rfl⟩
  · rintro ⟨y, m⟩ ⟨rfl, rfl⟩
    unfold B48_6
    simp (disch := omega) only [Ret_some, Ret_none, Ret_bind, Ret_asrt, Ret_cond, Sum.elim_inl, Sum.elim_inr, decide_eq_true_eq, decide_eq_false_iff_not, Bool.not_eq_true', Bool.not_not, Bool.and_eq_true, Bool.or_eq_true, Bool.true_eq_false, Bool.false_eq_true, Bool.not_true, Bool.not_false, if_true, if_false, ite_true, ite_false, true_and, and_true, false_and, and_false, Int.toNat_natCast, toN_succ, Int.ofNat_eq_natCast, Int.ofNat_toNat, Nat.zero_add, Nat.add_zero, not_true_eq_false, not_false_eq_true, implies_true, wr64]
    rw [if_neg (by omega)]
    trivial

theorem L50_3_eq (hn : ∀ i, i < a0.length → TOk (a0.getD i TTask.d)) (hl : a0.length ≤ 40) (h0 : 0 ≤ a1) (h1 : a1 ≤ 28800) (hnd : r.Nodup) (hrl : r.length ≤ 40) (hk : ∀ x ∈ r, 0 ≤ x ∧ x < (a0.length : Int)) :
    L50_3 a0 a1 r (0, []) = some (outR a0 a1 r r.length) := by
  refine Ret.eq ?_
  unfold L50_3
  refine Ret.loop r.length (fun j s => s.1 = (j : Int) ∧ s.2 = outR a0 a1 r j) ⟨rfl, rfl⟩ ?_ ?_
  · rintro j ⟨y, m⟩ hj ⟨rfl, rfl⟩
    obtain ⟨i1, i2⟩ := outR_ok (a1 := a1) hn hnd hk j (by omega)
    have hkj := hk _ (getD_mem (d := 0) (l := r) (i := j) hj)
    have hL := L50_6_eq (r := r) (j := j) hn hl h0 h1 (by omega) i1 (outR_ok.last_of hnd hj i2) hkj
    unfold B50_3
    simp only [Int.toNat_natCast]
    rw [hL]
    simp (disch := omega) only [Ret_some, Ret_none, Ret_bind, Ret_asrt, Ret_cond, Sum.elim_inl, Sum.elim_inr, decide_eq_true_eq, decide_eq_false_iff_not, Bool.not_eq_true', Bool.not_not, Bool.and_eq_true, Bool.or_eq_true, Bool.true_eq_false, Bool.false_eq_true, Bool.not_true, Bool.not_false, if_true, if_false, ite_true, ite_false, true_and, and_true, false_and, and_false, Int.toNat_natCast, toN_succ, Int.ofNat_eq_natCast, Int.ofNat_toNat, Nat.zero_add, Nat.add_zero, not_true_eq_false, not_false_eq_true, implies_true, wr64]
    rw [if_pos (by omega)]
    exact ⟨by omega, hkj, by omega, rfl⟩
  · rintro ⟨y, m⟩ ⟨rfl, rfl⟩
    unfold B50_3
    simp (disch := omega) only [Ret_some, Ret_none, Ret_bind, Ret_asrt, Ret_cond, Sum.elim_inl, Sum.elim_inr, decide_eq_true_eq, decide_eq_false_iff_not, Bool.not_eq_true', Bool.not_not, Bool.and_eq_true, Bool.or_eq_true, Bool.true_eq_false, Bool.false_eq_true, Bool.not_true, Bool.not_false, if_true, if_false, ite_true, ite_false, true_and, and_true, false_and, and_false, Int.toNat_natCast, toN_succ, Int.ofNat_eq_natCast, Int.ofNat_toNat, Nat.zero_add, Nat.add_zero, not_true_eq_false, not_false_eq_true, implies_true, wr64]
    rw [if_neg (by omega)]
    trivial

end

/-! ### lists of lists, compared with themselves -/

theorem F31_refl {l : List Int} (hl : l.length ≤ 1000) : F31 l l = some true := by
  refine Ret.eq ?_
  unfold F31
  simp (disch := omega) only [Ret_some, Ret_none, Ret_bind, Ret_asrt, Ret_cond, Sum.elim_inl, Sum.elim_inr, decide_eq_true_eq, decide_eq_false_iff_not, Bool.not_eq_true', Bool.not_not, Bool.and_eq_true, Bool.or_eq_true, Bool.true_eq_false, Bool.false_eq_true, Bool.not_true, Bool.not_false, if_true, if_false, ite_true, ite_false, true_and, and_true, false_and, and_false, Int.toNat_natCast, toN_succ, Int.ofNat_eq_natCast, Int.ofNat_toNat, Nat.zero_add, Nat.add_zero, not_true_eq_false, not_false_eq_true, implies_true, wr64]
  unfold L31_4
  refine Ret.loop l.length (fun i s => s = (i : Int)) rfl ?_ ?_
  · rintro i s hi rfl
    unfold B31_4
    simp (disch := omega) only [Ret_some, Ret_none, Ret_bind, Ret_asrt, Ret_cond, Sum.elim_inl, Sum.elim_inr, decide_eq_true_eq, decide_eq_false_iff_not, Bool.not_eq_true', Bool.not_not, Bool.and_eq_true, Bool.or_eq_true, Bool.true_eq_false, Bool.false_eq_true, Bool.not_true, Bool.not_false, if_true, if_false, ite_true, ite_false, true_and, and_true, false_and, and_false, Int.toNat_natCast, toN_succ, Int.ofNat_eq_natCast, Int.ofNat_toNat, Nat.zero_add, Nat.add_zero, not_true_eq_false, not_false_eq_true, implies_true, wr64]
    rw [if_pos (by omega)]
    refine ⟨by omega, ?_⟩
    omega
  · rintro s rfl
    unfold B31_4
    simp (disch := omega) only [Ret_some, Ret_none, Ret_bind, Ret_asrt, Ret_cond, Sum.elim_inl, Sum.elim_inr, decide_eq_true_eq, decide_eq_false_iff_not, Bool.not_eq_true', Bool.not_not, Bool.and_eq_true, Bool.or_eq_true, Bool.true_eq_false, Bool.false_eq_true, Bool.not_true, Bool.not_false, if_true, if_false, ite_true, ite_false, true_and, and_true, false_and, and_false, Int.toNat_natCast, toN_succ, Int.ofNat_eq_natCast, Int.ofNat_toNat, Nat.zero_add, Nat.add_zero, not_true_eq_false, not_false_eq_true, implies_true, wr64]
    rw [if_neg (by omega)]
    trivial

theorem F42_refl {l : List (List Int)} (hl : l.length ≤ 1000) (h : ∀ x ∈ l, x.length ≤ 1000) : F42 l l = some true := by
  have : F82 l l = some true := by
    refine Ret.eq ?_
    unfold F82
    simp (disch := omega) only [Ret_some, Ret_none, Ret_bind, Ret_asrt, Ret_cond, Sum.elim_inl, Sum.elim_inr, decide_eq_true_eq, decide_eq_false_iff_not, Bool.not_eq_true', Bool.not_not, Bool.and_eq_true, Bool.or_eq_true, Bool.true_eq_false, Bool.false_eq_true, Bool.not_true, Bool.not_false, if_true, if_false, ite_true, ite_false, true_and, and_true, false_and, and_false, Int.toNat_natCast, toN_succ, Int.ofNat_eq_natCast, Int.ofNat_toNat, Nat.zero_add, Nat.add_zero, not_true_eq_false, not_false_eq_true, implies_true, wr64]
    unfold L82_4
    refine Ret.loop l.length (fun i s => s = (i : Int)) rfl ?_ ?_
    · rintro i s hi rfl
      have := F31_refl (h _ (getD_mem (d := []) hi))
      unfold B82_4
      simp only [Int.toNat_natCast]
      rw [this]
      simp (disch := omega) only [Ret_some, Ret_none, Ret_bind, Ret_asrt, Ret_cond, Sum.elim_inl, Sum.elim_inr, decide_eq_true_eq, decide_eq_false_iff_not, Bool.not_eq_true', Bool.not_not, Bool.and_eq_true, Bool.or_eq_true, Bool.true_eq_false, Bool.false_eq_true, Bool.not_true, Bool.not_false, if_true, if_false, ite_true, ite_false, true_and, and_true, false_and, and_false, Int.toNat_natCast, toN_succ, Int.ofNat_eq_natCast, Int.ofNat_toNat, Nat.zero_add, Nat.add_zero, not_true_eq_false, not_false_eq_true, implies_true, wr64]
      rw [if_pos (by omega)]
      refine ⟨by omega, ?_⟩
      omega
    · rintro s rfl
      unfold B82_4
      simp (disch := omega) only [Ret_some, Ret_none, Ret_bind, Ret_asrt, Ret_cond, Sum.elim_inl, Sum.elim_inr, decide_eq_true_eq, decide_eq_false_iff_not, Bool.not_eq_true', Bool.not_not, Bool.and_eq_true, Bool.or_eq_true, Bool.true_eq_false, Bool.false_eq_true, Bool.not_true, Bool.not_false, if_true, if_false, ite_true, ite_false, true_and, and_true, false_and, and_false, Int.toNat_natCast, toN_succ, Int.ofNat_eq_natCast, Int.ofNat_toNat, Nat.zero_add, Nat.add_zero, not_true_eq_false, not_false_eq_true, implies_true, wr64]
      rw [if_neg (by omega)]
      trivial
  unfold F42
  rw [this]
  rfl

theorem numsL_nodup (n : Nat) : (numsL n).Nodup := by
  unfold numsL
  refine List.Pairwise.map _ (fun a b h e => h ?_) List.nodup_range
  exact Int.ofNat.inj e

theorem F9_true (a0 : List TTask) (a1 : Int) (h : Fit a0) : F9 a0 a1 = some true := by
  obtain ⟨q, hq, hp⟩ := F49_tok a0 a1 h
  unfold F9 F48
  rw [F95_eq, hq, show F43 = some true from rfl]
  simp only [Option.bind_some]
  by_cases c : q = 0
  · subst c
    obtain ⟨⟨hl, hn⟩, h0, h1⟩ := hp rfl
    have he := ups_eqv a0 hn
    have hlen := he.len
    rw [numsL_len] at hlen
    have hnd : (ups a0 28801).Nodup := he.perm.nodup_iff.2 (numsL_nodup _)
    have hk : ∀ x ∈ ups a0 28801, 0 ≤ x ∧ x < (a0.length : Int) := fun x hx => numsL_mem.1 (he.mem.1 hx)
    have e1 := L48_6_eq (a1 := a1) hn hl h0 h1 hnd (by omega) hk
    have e2 := L50_3_eq (a1 := a1) hn hl h0 h1 hnd (by omega) hk
    obtain ⟨i1, _⟩ := outR_ok (a1 := a1) hn hnd hk (ups a0 28801).length (Nat.le_refl _)
    unfold F50
    rw [order_eq a0 hl hn, F98_ret a0 hl hn]
    simp only [Option.bind_some, e1, e2]
    generalize outR a0 a1 (ups a0 28801) (ups a0 28801).length = m at *
    have hf := F42_refl (l := m) (by have := i1.len; omega) (fun x hx => by have := i1.row x hx; omega)
    simp [asrt, List.take_length, hf]
  · simp [c]

end Go.Proofs.Ytciflideblafgaa
