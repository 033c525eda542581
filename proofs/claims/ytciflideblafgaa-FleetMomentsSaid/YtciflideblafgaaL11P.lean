/- FleetMoments: what its pure functions return. -/
import Derived.Test.YtciflideblafgaaA22
import Derived.Test.YtciflideblafgaaL11C
open Go Go.Proofs.Ytciflideblafgaa.Fw
namespace Go.Proofs.Ytciflideblafgaa
set_option maxRecDepth 100000
set_option linter.unusedVariables false
set_option linter.unusedSimpArgs false

/-- lists that are not too long -/
def Fit {α : Type} (l : List α) : Prop := l.length < 140737488355328

theorem F76_eq (n a b : Int) : F76 n a b = some (decide (a ≤ n ∧ n ≤ b)) := by
  unfold F76
  by_cases h : a ≤ n <;> simp [h]

/-! ### the order of tasks -/

noncomputable abbrev cmpT (l : List TTask) : Int → Int → Option Int := fun x y => F136 x y l

theorem s188n (k : Nat) : F188n k = fun a b c l m => Sort.F188n (cmpT l) k a b c m := by
  induction k with
  | zero => rfl
  | succ k ih =>
    show G188 (F188n k) = _
    rw [ih]
    rfl

theorem s188 : F188 = fun a b c l m => Sort.F188 (cmpT l) a b c m := by
  funext a b c l m
  unfold F188
  simp only [s188n]
  rfl

theorem s135 (l : List TTask) (m : List Int) : F135 l m = Sort.F135 (cmpT l) m := by
  unfold F135 F160 L160_7 B160_7 L160_9 B160_9
  rw [s188]
  rfl

/-- a task's second -/
def depK (l : List TTask) (x : Int) : Int := TTask.dep (List.getD l x.toNat TTask.d)

theorem F137_eq (a b : Int) : F137 a b = some (if a < b then -1 else if b < a then 1 else 0) := by
  unfold F137 F161
  by_cases h : a < b <;> by_cases h2 : b < a <;> simp [h, h2]

theorem cmpT_ok (l : List TTask) : Sort.Cmp (cmpT l) (depK l) fun x => 0 ≤ x ∧ x < (l.length : Int) := fun x y hx hy => by
  refine ⟨if depK l x < depK l y then -1 else if depK l y < depK l x then 1 else 0, ?_, ?_⟩
  · unfold cmpT F136
    rw [asrt_eq hx, asrt_eq hy, F137_eq]
    rfl
  · by_cases h : depK l x < depK l y
    · simp [h]
    · by_cases h2 : depK l y < depK l x <;> simp [h, h2]

/-- the numbers below n -/
def numsL (n : Nat) : List Int := (List.range n).map fun (i : Nat) => (i : Int)

theorem numsL_len (n : Nat) : (numsL n).length = n := by simp [numsL]
theorem numsL_mem {n : Nat} {x : Int} : x ∈ numsL n ↔ 0 ≤ x ∧ x < (n : Int) := by
  unfold numsL
  rw [List.mem_map]
  constructor
  · rintro ⟨i, hi, rfl⟩
    have := List.mem_range.1 hi
    omega
  · rintro ⟨h1, h2⟩
    exact ⟨x.toNat, List.mem_range.2 (by omega), by omega⟩
theorem numsL_getD {n i : Nat} (h : i < n) : (numsL n).getD i 0 = (i : Int) := by
  unfold numsL
  rw [List.getD_eq_getElem?_getD, List.getElem?_map, List.getElem?_range h]
  rfl

theorem F96_ret (l : List TTask) (h : l.length ≤ 1000) : ∃ r, F96 l = some r ∧ Sort.Srt (depK l) r ∧ Sort.Eqv (depK l) r (numsL l.length) := by
  have h96 : L96_3 l (0, List.replicate (Int.toNat (l.length : Int)) (Int.ofNat 0)) = some (numsL l.length) := by
    refine Ret.eq ?_
    unfold L96_3
    refine Ret.loop l.length (fun i s => s.1 = (i : Int) ∧ s.2.length = l.length ∧ ∀ j, j < i → s.2.getD j 0 = (j : Int)) ⟨rfl, by simp, fun j hj => by omega⟩ ?_ ?_
    · rintro i ⟨a, m⟩ hi ⟨h1, h2, h3⟩
      simp only at h1 h2 h3
      subst h1
      unfold B96_3
      simp (disch := omega) only [Ret_some, Ret_none, Ret_bind, Ret_asrt, Ret_cond, Sum.elim_inl, Sum.elim_inr, decide_eq_true_eq, decide_eq_false_iff_not, Bool.not_eq_true', Bool.not_not, Bool.and_eq_true, Bool.or_eq_true, Bool.true_eq_false, Bool.false_eq_true, Bool.not_true, Bool.not_false, if_true, if_false, ite_true, ite_false, true_and, and_true, false_and, and_false, Int.toNat_natCast, toN_succ, Int.ofNat_eq_natCast, Int.ofNat_toNat, Nat.zero_add, Nat.add_zero, not_true_eq_false, not_false_eq_true, implies_true, wr64]
      rw [if_pos (by omega)]
      refine ⟨by omega, by omega, by omega, by simp [h2], fun j hj => ?_⟩
      rw [lgetD_set]
      by_cases e : i = j
      · rw [if_pos ⟨e, by omega⟩, e]
      · rw [if_neg (by omega)]
        exact h3 j (by omega)
    · rintro ⟨a, m⟩ ⟨h1, h2, h3⟩
      simp only at h1 h2 h3
      subst h1
      unfold B96_3
      simp (disch := omega) only [Ret_some, Ret_none, Ret_bind, Ret_asrt, Ret_cond, Sum.elim_inl, Sum.elim_inr, decide_eq_true_eq, decide_eq_false_iff_not, Bool.not_eq_true', Bool.not_not, Bool.and_eq_true, Bool.or_eq_true, Bool.true_eq_false, Bool.false_eq_true, Bool.not_true, Bool.not_false, if_true, if_false, ite_true, ite_false, true_and, and_true, false_and, and_false, Int.toNat_natCast, toN_succ, Int.ofNat_eq_natCast, Int.ofNat_toNat, Nat.zero_add, Nat.add_zero, not_true_eq_false, not_false_eq_true, implies_true, wr64]
      rw [if_neg (by omega)]
      exact list_ext_getD 0 (by rw [h2, numsL_len]) fun j hj => by rw [h3 j (by omega), numsL_getD (by omega)]
  obtain ⟨r, h1, h2, h3⟩ := Sort.stable_ret (cmpT_ok l) (numsL l.length) (fun z hz => numsL_mem.1 hz) (by rw [numsL_len]; omega)
  have hl := h3.len
  refine ⟨r, ?_, h2, h3⟩
  unfold F96
  rw [asrt_eq (by refine ⟨by omega, by omega, ?_, ?_⟩ <;> omega), h96, Option.bind_some, s135, h1, Option.bind_some, asrt_eq hl, asrt_eq (by show 0 + (numsL l.length).length ≤ r.length; omega)]
  show some (r.take (numsL l.length).length) = some r
  rw [← hl, List.take_length]

/-! ### moments -/

theorem F95_eq : F95 = F49 := rfl

theorem F45_ret (a0 : List TTask) (h : Fit a0) : Ret (F45 a0) fun r => r = 0 → a0.length ≤ 40 := by
  unfold Fit at h
  have hL : Ret (L45_4 a0 0) fun x => match x with | .inl _ => True | .inr r => r ≠ 0 := by
    unfold L45_4
    refine Ret.loop a0.length (fun i s => s = (i : Int)) rfl ?_ ?_
    · rintro i s hi rfl
      unfold B45_4
      simp (disch := omega) only [Ret_some, Ret_none, Ret_bind, Ret_asrt, Ret_cond, Sum.elim_inl, Sum.elim_inr, decide_eq_true_eq, decide_eq_false_iff_not, Bool.not_eq_true', Bool.not_not, Bool.and_eq_true, Bool.or_eq_true, Bool.true_eq_false, Bool.false_eq_true, Bool.not_true, Bool.not_false, if_true, if_false, ite_true, ite_false, true_and, and_true, false_and, and_false, Int.toNat_natCast, toN_succ, Int.ofNat_eq_natCast, Int.ofNat_toNat, Nat.zero_add, Nat.add_zero, not_true_eq_false, not_false_eq_true, implies_true, wr64, show F75 = F76 from rfl, F76_eq]
      rw [if_pos (by omega)]
      refine ⟨by omega, ?_⟩
      repeat' (first | trivial | decide | omega | split)
    · rintro s rfl
      unfold B45_4
      simp (disch := omega) only [Ret_some, Ret_none, Ret_bind, Ret_asrt, Ret_cond, Sum.elim_inl, Sum.elim_inr, decide_eq_true_eq, decide_eq_false_iff_not, Bool.not_eq_true', Bool.not_not, Bool.and_eq_true, Bool.or_eq_true, Bool.true_eq_false, Bool.false_eq_true, Bool.not_true, Bool.not_false, if_true, if_false, ite_true, ite_false, true_and, and_true, false_and, and_false, Int.toNat_natCast, toN_succ, Int.ofNat_eq_natCast, Int.ofNat_toNat, Nat.zero_add, Nat.add_zero, not_true_eq_false, not_false_eq_true, implies_true, wr64]
      rw [if_neg (by omega)]
      trivial
  obtain ⟨x, hx, hp⟩ := hL
  unfold F45
  rw [hx]
  by_cases c : 40 < (a0.length : Int)
  · exact ⟨4, by simp [c], by simp⟩
  · rcases x with _ | r
    · exact ⟨0, by simp [c], fun _ => by omega⟩
    · exact ⟨r, by simp [c], fun e => absurd e hp⟩

theorem F49_ret (a0 : List TTask) (a1 : Int) (h : Fit a0) : Ret (F49 a0 a1) fun r => r = 0 → a0.length ≤ 40 := by
  obtain ⟨r, hr, hp⟩ := F45_ret a0 h
  unfold F49
  rw [hr]
  by_cases c : r = 0
  · by_cases d : 0 ≤ a1 ∧ a1 ≤ 28800
    · exact ⟨0, by simp [c, show F75 = F76 from rfl, F76_eq, d], fun _ => hp c⟩
    · exact ⟨2, by simp [c, show F75 = F76 from rfl, F76_eq, d], by simp⟩
  · exact ⟨r, by simp [c], hp⟩

noncomputable def shS (a0 : List TTask) (a1 p at0 : Int) : Int := (L99_3 a0 a1 p at0 (0, 0)).getD 0

theorem L99_ret (a0 : List TTask) (a1 p at0 : Int) (h : a0.length ≤ 40) : L99_3 a0 a1 p at0 (0, 0) = some (shS a0 a1 p at0) := by
  have : Ret (L99_3 a0 a1 p at0 (0, 0)) fun _ => True := by
    unfold L99_3
    refine Ret.loop a0.length (fun i s => s.2 = (i : Int)) rfl ?_ ?_
    · rintro i ⟨a, b⟩ hi h1
      simp only at h1
      subst h1
      unfold B99_3
      simp (disch := omega) only [Ret_some, Ret_none, Ret_bind, Ret_asrt, Ret_cond, Sum.elim_inl, Sum.elim_inr, decide_eq_true_eq, decide_eq_false_iff_not, Bool.not_eq_true', Bool.not_not, Bool.and_eq_true, Bool.or_eq_true, Bool.true_eq_false, Bool.false_eq_true, Bool.not_true, Bool.not_false, if_true, if_false, ite_true, ite_false, true_and, and_true, false_and, and_false, Int.toNat_natCast, toN_succ, Int.ofNat_eq_natCast, Int.ofNat_toNat, Nat.zero_add, Nat.add_zero, not_true_eq_false, not_false_eq_true, implies_true, wr64]
      rw [if_pos (by omega)]
      refine ⟨by omega, ?_⟩
      repeat' (first | trivial | omega | split)
    · rintro ⟨a, b⟩ h1
      simp only at h1
      subst h1
      unfold B99_3
      simp (disch := omega) only [Ret_some, Ret_none, Ret_bind, Ret_asrt, Ret_cond, Sum.elim_inl, Sum.elim_inr, decide_eq_true_eq, decide_eq_false_iff_not, Bool.not_eq_true', Bool.not_not, Bool.and_eq_true, Bool.or_eq_true, Bool.true_eq_false, Bool.false_eq_true, Bool.not_true, Bool.not_false, if_true, if_false, ite_true, ite_false, true_and, and_true, false_and, and_false, Int.toNat_natCast, toN_succ, Int.ofNat_eq_natCast, Int.ofNat_toNat, Nat.zero_add, Nat.add_zero, not_true_eq_false, not_false_eq_true, implies_true, wr64]
      rw [if_neg (by omega)]
      trivial
  obtain ⟨x, hx, _⟩ := this
  unfold shS
  rw [hx]
  rfl

/-- the greatest of f above zero, at the least place -/
def Bst (f : Int → Int) (ds : List Int) (o : Int × Int) : Prop := (o = (0, 0) ∧ ∀ d ∈ ds, f d ≤ 0) ∨ (0 < o.2 ∧ o.1 ∈ ds ∧ f o.1 = o.2 ∧ ∀ d ∈ ds, f d ≤ o.2 ∧ (f d = o.2 → o.1 ≤ d))

theorem Bst.uniq {f : Int → Int} {ds ds' : List Int} {o o' : Int × Int} (h : Bst f ds o) (h' : Bst f ds' o') (hm : ∀ d, d ∈ ds ↔ d ∈ ds') : o = o' := by
  obtain ⟨a, s⟩ := o
  obtain ⟨a', s'⟩ := o'
  rcases h with ⟨h1, h2⟩ | ⟨h1, h2, h3, h4⟩ <;> rcases h' with ⟨k1, k2⟩ | ⟨k1, k2, k3, k4⟩
  · rw [h1, k1]
  · have := h2 a' ((hm _).2 k2)
    simp only at k1 k3
    omega
  · have := k2 a ((hm _).1 h2)
    simp only at h1 h3
    omega
  · simp only at h1 h2 h3 h4 k1 k2 k3 k4
    have e1 := (k4 a ((hm _).1 h2)).1
    have e2 := (h4 a' ((hm _).2 k2)).1
    have es : s = s' := by omega
    have e3 := (k4 a ((hm _).1 h2)).2 (by omega)
    have e4 := (h4 a' ((hm _).2 k2)).2 (by omega)
    rw [es, show a = a' by omega]

theorem Bst.step {f : Int → Int} {ds : List Int} {o : Int × Int} (h : Bst f ds o) (d : Int) :
    Bst f (ds ++ [d]) (if o.2 < f d then (d, f d) else if f d = o.2 ∧ 0 < f d ∧ d < o.1 then (d, f d) else o) := by
  obtain ⟨a, s⟩ := o
  simp only
  have hm : ∀ x, x ∈ ds ++ [d] ↔ x ∈ ds ∨ x = d := fun x => by simp
  unfold Bst
  simp only [hm]
  rcases h with ⟨h1, h2⟩ | ⟨h1, h2, h3, h4⟩
  · obtain ⟨rfl, rfl⟩ := Prod.mk.inj h1
    split
    · rename_i c
      refine .inr ⟨c, .inr rfl, rfl, fun x hx => ?_⟩
      rcases hx with hx | rfl
      · have := h2 x hx
        simp only; omega
      · exact ⟨Int.le_refl _, fun _ => Int.le_refl _⟩
    · rename_i c
      rw [if_neg (by omega)]
      refine .inl ⟨rfl, fun x hx => ?_⟩
      rcases hx with hx | rfl
      · exact h2 x hx
      · omega
  · simp only at h1 h2 h3 h4
    split
    · rename_i c
      refine .inr ⟨by simp only; omega, .inr rfl, rfl, fun x hx => ?_⟩
      rcases hx with hx | rfl
      · have := (h4 x hx).1
        simp only; omega
      · exact ⟨Int.le_refl _, fun _ => Int.le_refl _⟩
    · rename_i c
      split
      · rename_i e
        refine .inr ⟨e.2.1, .inr rfl, rfl, fun x hx => ?_⟩
        rcases hx with hx | rfl
        · have := h4 x hx
          simp only
          omega
        · exact ⟨Int.le_refl _, fun _ => Int.le_refl _⟩
      · rename_i e
        refine .inr ⟨h1, .inl h2, h3, fun x hx => ?_⟩
        rcases hx with hx | rfl
        · exact h4 x hx
        · simp only; omega

theorem Bst.step2 {f : Int → Int} {ds : List Int} {o : Int × Int} (h : Bst f ds o) (d : Int) (hs : ∀ x ∈ ds, x ≤ d) : Bst f (ds ++ [d]) (if o.2 < f d then (d, f d) else o) := by
  have h0 := h.step d
  by_cases c : o.2 < f d
  · rw [if_pos c] at h0 ⊢; exact h0
  · rw [if_neg c] at h0 ⊢
    rw [if_neg] at h0
    · exact h0
    · rintro ⟨e1, e2, e3⟩
      rcases h with ⟨h1, h2⟩ | ⟨h1, h2, h3, h4⟩
      · rw [h1] at e1 e3; simp only at e1 e3; omega
      · have := hs _ h2; omega

theorem L55_ret (a0 : List TTask) (a1 p : Int) (h : a0.length ≤ 40) : Ret (L55_7 a0 a1 p (0, 0, 0)) (Bst (shS a0 a1 p) (a0.map TTask.dep)) := by
  unfold L55_7
  refine Ret.loop a0.length (fun i s => s.1 = (i : Int) ∧ Bst (shS a0 a1 p) ((a0.take i).map TTask.dep) s.2) ⟨rfl, .inl ⟨rfl, by simp⟩⟩ ?_ ?_
  · rintro i ⟨v, a, s⟩ hi ⟨h1, h2⟩
    simp only at h1 h2
    subst h1
    have h3 := h2.step (TTask.dep (a0.getD i TTask.d))
    rw [← List.map_singleton (f := TTask.dep), ← List.map_append, ← take_succ' TTask.d hi] at h3
    unfold B55_7 F99
    simp (disch := omega) only [Ret_some, Ret_none, Ret_bind, Ret_asrt, Ret_cond, Sum.elim_inl, Sum.elim_inr, decide_eq_true_eq, decide_eq_false_iff_not, Bool.not_eq_true', Bool.not_not, Bool.and_eq_true, Bool.or_eq_true, Bool.true_eq_false, Bool.false_eq_true, Bool.not_true, Bool.not_false, if_true, if_false, ite_true, ite_false, true_and, and_true, false_and, and_false, Int.toNat_natCast, toN_succ, Int.ofNat_eq_natCast, Int.ofNat_toNat, Nat.zero_add, Nat.add_zero, not_true_eq_false, not_false_eq_true, implies_true, wr64, L99_ret a0 a1 p _ h]
    rw [if_pos (by omega)]
    refine ⟨by omega, ?_⟩
    simp only at h3
    generalize shS a0 a1 p (TTask.dep (a0.getD i TTask.d)) = F at *
    generalize TTask.dep (a0.getD i TTask.d) = d at *
    by_cases c1 : s < F
    · rw [if_pos c1] at h3 ⊢
      exact ⟨by omega, h3⟩
    · rw [if_neg c1] at h3 ⊢
      by_cases c2 : F = s
      · by_cases c3 : 0 < F
        · by_cases c4 : d < a
          · rw [if_pos ⟨c2, c3, c4⟩] at h3
            rw [if_pos c2, if_pos c3, if_pos c4]
            exact ⟨by omega, h3⟩
          · rw [if_neg (by omega)] at h3
            rw [if_pos c2, if_pos c3, if_neg c4]
            exact ⟨by omega, h3⟩
        · rw [if_neg (by omega)] at h3
          rw [if_pos c2, if_neg c3]
          exact ⟨by omega, h3⟩
      · rw [if_neg (by omega)] at h3
        rw [if_neg c2]
        exact ⟨by omega, h3⟩
  · rintro ⟨v, a, s⟩ ⟨h1, h2⟩
    simp only at h1 h2
    subst h1
    unfold B55_7
    simp (disch := omega) only [Ret_some, Ret_none, Ret_bind, Ret_asrt, Ret_cond, Sum.elim_inl, Sum.elim_inr, decide_eq_true_eq, decide_eq_false_iff_not, Bool.not_eq_true', Bool.not_not, Bool.and_eq_true, Bool.or_eq_true, Bool.true_eq_false, Bool.false_eq_true, Bool.not_true, Bool.not_false, if_true, if_false, ite_true, ite_false, true_and, and_true, false_and, and_false, Int.toNat_natCast, toN_succ, Int.ofNat_eq_natCast, Int.ofNat_toNat, Nat.zero_add, Nat.add_zero, not_true_eq_false, not_false_eq_true, implies_true, wr64]
    rw [if_neg (by omega)]
    rwa [List.take_length] at h2

theorem L53_ret (a0 : List TTask) (a1 p : Int) (h : a0.length ≤ 40) (r : List Int) (hs : Sort.Srt (depK a0) r) (he : Sort.Eqv (depK a0) r (numsL a0.length)) : Ret (L53_10 a0 a1 p r (0, 0, 0)) (Bst (shS a0 a1 p) (r.map (depK a0))) := by
  have hl := he.len
  rw [numsL_len] at hl
  unfold L53_10
  refine Ret.loop r.length (fun i s => s.1 = (i : Int) ∧ Bst (shS a0 a1 p) ((r.take i).map (depK a0)) s.2) ⟨rfl, .inl ⟨rfl, by simp⟩⟩ ?_ ?_
  · rintro i ⟨v, a, s⟩ hi ⟨h1, h2⟩
    simp only at h1 h2
    subst h1
    have hr := numsL_mem.1 (he.mem.1 (getD_mem (d := 0) hi))
    have h3 := h2.step2 (depK a0 (r.getD i 0)) (fun x hx => by
      obtain ⟨y, hy, rfl⟩ := List.mem_map.1 hx
      obtain ⟨t, ht1, ht2, rfl⟩ := Sort.mem_take_getD hy
      exact hs.getD (by omega) hi)
    rw [← List.map_singleton (f := depK a0), ← List.map_append, ← take_succ' 0 hi] at h3
    unfold B53_10
    simp (disch := omega) only [Ret_some, Ret_none, Ret_bind, Ret_asrt, Ret_cond, Sum.elim_inl, Sum.elim_inr, decide_eq_true_eq, decide_eq_false_iff_not, Bool.not_eq_true', Bool.not_not, Bool.and_eq_true, Bool.or_eq_true, Bool.true_eq_false, Bool.false_eq_true, Bool.not_true, Bool.not_false, if_true, if_false, ite_true, ite_false, true_and, and_true, false_and, and_false, Int.toNat_natCast, toN_succ, Int.ofNat_eq_natCast, Int.ofNat_toNat, Nat.zero_add, Nat.add_zero, not_true_eq_false, not_false_eq_true, implies_true, wr64, show L53_14 a0 a1 p r (i : Int) = L99_3 a0 a1 p (TTask.dep (List.getD a0 (Int.toNat (List.getD r (Int.toNat (i : Int)) 0)) TTask.d)) from rfl, L99_ret a0 a1 p _ h]
    rw [if_pos (by omega)]
    refine ⟨by omega, hr, ?_⟩
    split
    · rename_i c
      have c' : (a, s).2 < shS a0 a1 p (depK a0 (r.getD i 0)) := c
      rw [if_pos c'] at h3
      exact ⟨by omega, h3⟩
    · rename_i c
      have c' : ¬ (a, s).2 < shS a0 a1 p (depK a0 (r.getD i 0)) := c
      rw [if_neg c'] at h3
      exact ⟨by omega, h3⟩
  · rintro ⟨v, a, s⟩ ⟨h1, h2⟩
    simp only at h1 h2
    subst h1
    unfold B53_10
    simp (disch := omega) only [Ret_some, Ret_none, Ret_bind, Ret_asrt, Ret_cond, Sum.elim_inl, Sum.elim_inr, decide_eq_true_eq, decide_eq_false_iff_not, Bool.not_eq_true', Bool.not_not, Bool.and_eq_true, Bool.or_eq_true, Bool.true_eq_false, Bool.false_eq_true, Bool.not_true, Bool.not_false, if_true, if_false, ite_true, ite_false, true_and, and_true, false_and, and_false, Int.toNat_natCast, toN_succ, Int.ofNat_eq_natCast, Int.ofNat_toNat, Nat.zero_add, Nat.add_zero, not_true_eq_false, not_false_eq_true, implies_true, wr64]
    rw [if_neg (by omega)]
    rwa [List.take_length] at h2

theorem loops_eq (a0 : List TTask) (a1 : Int) (h : a0.length ≤ 40) (s : List TMoment × Int) : L53_6 a0 a1 s = L55_3 a0 a1 s := by
  unfold L53_6 L55_3
  refine loopW_congr (fun s => ?_) s
  obtain ⟨r, e1, e2, e3⟩ := F96_ret a0 (by omega)
  obtain ⟨o, f1, f2⟩ := L53_ret a0 a1 s.2 h r e2 e3
  obtain ⟨o', g1, g2⟩ := L55_ret a0 a1 s.2 h
  have : o = o' := f2.uniq g2 fun d => by
    simp only [List.mem_map, e3.mem, numsL_mem]
    constructor
    · rintro ⟨x, hx, rfl⟩
      exact ⟨_, getD_mem (show x.toNat < a0.length by omega), rfl⟩
    · rintro ⟨t, ht, rfl⟩
      obtain ⟨i, hi, rfl⟩ := mem_getD TTask.d ht
      exact ⟨(i : Int), by omega, by simp [depK]⟩
  subst this
  have f1' : L53_10 a0 a1 s.2 r (0, Int.ofNat 0, Int.ofNat 0) = some o := f1
  have g1' : L55_7 a0 a1 s.2 (0, Int.ofNat 0, Int.ofNat 0) = some o := g1
  unfold B53_6 B55_3
  rw [e1, Option.bind_some, f1', g1']

theorem L55_3_ret (a0 : List TTask) (a1 : Int) (h : a0.length ≤ 40) : Ret (L55_3 a0 a1 ([], 0)) fun l => l.length ≤ 12 := by
  unfold L55_3
  refine Ret.loop 12 (fun i s => s.2 = (i : Int) ∧ s.1.length ≤ i) ⟨rfl, Nat.le_refl _⟩ ?_ ?_
  · rintro i ⟨l, v⟩ hi ⟨h1, h2⟩
    simp only at h1 h2
    subst h1
    obtain ⟨o', g1, g2⟩ := L55_ret a0 a1 (i : Int) h
    unfold B55_3
    simp (disch := omega) only [Ret_some, Ret_none, Ret_bind, Ret_asrt, Ret_cond, Sum.elim_inl, Sum.elim_inr, decide_eq_true_eq, decide_eq_false_iff_not, Bool.not_eq_true', Bool.not_not, Bool.and_eq_true, Bool.or_eq_true, Bool.true_eq_false, Bool.false_eq_true, Bool.not_true, Bool.not_false, if_true, if_false, ite_true, ite_false, true_and, and_true, false_and, and_false, Int.toNat_natCast, toN_succ, Int.ofNat_eq_natCast, Int.ofNat_toNat, Nat.zero_add, Nat.add_zero, not_true_eq_false, not_false_eq_true, implies_true, wr64]
    rw [if_pos (by omega)]
    refine Ret.of (v := o') g1 ?_
    split
    · refine ⟨by omega, by omega, ?_⟩
      simp only [List.length_append, List.length_cons, List.length_nil]
      omega
    · exact ⟨by omega, by omega⟩
  · rintro ⟨l, v⟩ ⟨h1, h2⟩
    simp only at h1 h2
    subst h1
    unfold B55_3
    simp (disch := omega) only [Ret_some, Ret_none, Ret_bind, Ret_asrt, Ret_cond, Sum.elim_inl, Sum.elim_inr, decide_eq_true_eq, decide_eq_false_iff_not, Bool.not_eq_true', Bool.not_not, Bool.and_eq_true, Bool.or_eq_true, Bool.true_eq_false, Bool.false_eq_true, Bool.not_true, Bool.not_false, if_true, if_false, ite_true, ite_false, true_and, and_true, false_and, and_false, Int.toNat_natCast, toN_succ, Int.ofNat_eq_natCast, Int.ofNat_toNat, Nat.zero_add, Nat.add_zero, not_true_eq_false, not_false_eq_true, implies_true, wr64]
    rw [if_neg (by omega)]
    exact h2

theorem F54_ret (l : List TMoment) (h : l.length ≤ 1000) : F54 l l = some true := by
  have key : Ret (L54_4 l l 0) fun x => x = .inl () := by
    unfold L54_4
    refine Ret.loop l.length (fun i s => s = (i : Int)) rfl ?_ ?_
    · rintro i s hi rfl
      unfold B54_4
      simp (disch := omega) only [Ret_some, Ret_none, Ret_bind, Ret_asrt, Ret_cond, Sum.elim_inl, Sum.elim_inr, decide_eq_true_eq, decide_eq_false_iff_not, Bool.not_eq_true', Bool.not_not, Bool.and_eq_true, Bool.or_eq_true, Bool.true_eq_false, Bool.false_eq_true, Bool.not_true, Bool.not_false, if_true, if_false, ite_true, ite_false, true_and, and_true, false_and, and_false, Int.toNat_natCast, toN_succ, Int.ofNat_eq_natCast, Int.ofNat_toNat, Nat.zero_add, Nat.add_zero, not_true_eq_false, not_false_eq_true, implies_true, wr64]
      rw [if_pos (by omega)]
      refine ⟨by omega, by omega, ?_⟩
      simp
    · rintro s rfl
      unfold B54_4
      simp (disch := omega) only [Ret_some, Ret_none, Ret_bind, Ret_asrt, Ret_cond, Sum.elim_inl, Sum.elim_inr, decide_eq_true_eq, decide_eq_false_iff_not, Bool.not_eq_true', Bool.not_not, Bool.and_eq_true, Bool.or_eq_true, Bool.true_eq_false, Bool.false_eq_true, Bool.not_true, Bool.not_false, if_true, if_false, ite_true, ite_false, true_and, and_true, false_and, and_false, Int.toNat_natCast, toN_succ, Int.ofNat_eq_natCast, Int.ofNat_toNat, Nat.zero_add, Nat.add_zero, not_true_eq_false, not_false_eq_true, implies_true, wr64]
      rw [if_neg (by omega)]
      trivial
  obtain ⟨x, hx, rfl⟩ := key
  unfold F54
  rw [hx]
  simp

theorem F11_true (a0 : List TTask) (a1 : Int) (h : Fit a0) : F11 a0 a1 = some true := by
  obtain ⟨r, hr, hp⟩ := F49_ret a0 a1 h
  unfold F11 F53
  rw [F95_eq, hr, show F43 = some true from rfl]
  simp only [Option.bind_some]
  by_cases c : r = 0
  · subst c
    have hl := hp rfl
    obtain ⟨l, e1, e2⟩ := L55_3_ret a0 a1 hl
    unfold F55
    rw [loops_eq a0 a1 hl, e1]
    simp [F54_ret l (by omega)]
  · simp [c]


end Go.Proofs.Ytciflideblafgaa
