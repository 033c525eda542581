/- FarePacks: what its pure functions return. -/
import Derived.Test.YtgghnfmabphbmaaA21
import Derived.Test.YtgghnfmabphbmaaA22
import Derived.Test.YtgghnfmabphbmaaR14C
import Derived.Test.YtgghnfmabphbmaaA18
open Go Go.Proofs.Ytgghnfmabphbmaa.Fw
namespace Go.Proofs.Ytgghnfmabphbmaa
set_option maxRecDepth 100000
set_option linter.unusedVariables false
set_option linter.unusedSimpArgs false
theorem F79_eq (n a b : Int) : F79 n a b = some (decide (a ≤ n ∧ n ≤ b)) := by
  unfold F79
  by_cases h : a ≤ n <;> simp [h]
theorem F81_eq (n a b : Int) : F81 n a b = some (decide (a ≤ n ∧ n ≤ b)) := F79_eq n a b
theorem F145_eq (n : Int) : F145 n = some false := by simp [F145]
theorem F105_eq (a b : Int) : F105 a b = some (if a < b then -1 else if b < a then 1 else 0) := by
  unfold F105
  simp only [F145_eq, Option.bind_some, cond_false]
  by_cases h : a < b <;> by_cases h2 : b < a <;> simp [h, h2]
/-! ### the order of spans -/
noncomputable abbrev cmpT (l : List TSpan) : Int → Int → Option Int := fun x y => F115 x y l
theorem s162n (k : Nat) : F162n k = fun a b c l m => Sort.F188n (cmpT l) k a b c m := by
  induction k with
  | zero => rfl
  | succ k ih =>
    show G162 (F162n k) = _
    rw [ih]
    rfl
theorem s162 : F162 = fun a b c l m => Sort.F188 (cmpT l) a b c m := by
  funext a b c l m
  unfold F162
  simp only [s162n]
  rfl
theorem s112 (l : List TSpan) (m : List Int) : F112 l m = Sort.F135 (cmpT l) m := by
  unfold F112 F147 L147_7 B147_7 L147_9 B147_9
  rw [s162]
  rfl
def fr (l : List TSpan) (i : Nat) : Int := (l.getD i TSpan.d).from0
def to (l : List TSpan) (i : Nat) : Int := (l.getD i TSpan.d).to0
def kS (l : List TSpan) (x : Int) : Int := fr l x.toNat
theorem cmpT_ok (l : List TSpan) : Sort.Cmp (cmpT l) (kS l) fun x => 0 ≤ x ∧ x < (l.length : Int) := fun x y hx hy => by
  refine ⟨if kS l x < kS l y then -1 else if kS l y < kS l x then 1 else 0, ?_, ?_⟩
  · unfold cmpT F115
    rw [asrt_eq hx, asrt_eq hy, F105_eq]
    rfl
  · by_cases h : kS l x < kS l y
    · simp [h]
    · by_cases h2 : kS l y < kS l x <;> simp [h, h2]
def numsL (n : Nat) : List Int := (List.range n).map fun (i : Nat) => (i : Int)
theorem numsL_len (n : Nat) : (numsL n).length = n := by simp [numsL]
theorem numsL_mem {n : Nat} {x : Int} : x ∈ numsL n ↔ 0 ≤ x ∧ x < (n : Int) := by
  unfold numsL
  rw [List.mem_map]
  constructor
  · rintro ⟨i, hi, rfl⟩
    have := List.mem_range.1 hi
    omega
  · rintro ⟨h1, h2⟩
    exact ⟨x.toNat, List.mem_range.2 (by omega), by omega⟩
theorem numsL_lt (n : Nat) : (numsL n).Pairwise (· < ·) := by
  unfold numsL
  rw [List.pairwise_map]
  exact List.pairwise_lt_range.imp (fun h => by omega)
theorem numsL_getD {n i : Nat} (h : i < n) : (numsL n).getD i 0 = (i : Int) := by
  unfold numsL
  rw [List.getD_eq_getElem?_getD, List.getElem?_map, List.getElem?_range h]
  rfl
theorem list_same {a b : List Int} (hl : a.length = b.length) (h : ∀ i, i < a.length → a.getD i 0 = b.getD i 0) : a = b := by
  refine List.ext_getElem hl fun i h1 h2 => ?_
  have := h i h1
  simpa [List.getD_eq_getElem?_getD, List.getElem?_eq_getElem h1, List.getElem?_eq_getElem h2] using this
structure Ord (l : List TSpan) (o : List Int) : Prop where
  len : o.length = l.length
  mem : ∀ x, x ∈ o ↔ 0 ≤ x ∧ x < (l.length : Int)
  nd : o.Nodup
  lt : ∀ s t, s < t → t < o.length → fr l (o.getD s 0).toNat < fr l (o.getD t 0).toNat ∨ (fr l (o.getD s 0).toNat = fr l (o.getD t 0).toNat ∧ o.getD s 0 < o.getD t 0)
theorem ord_of {l : List TSpan} {o : List Int} (h1 : Sort.Srt (kS l) o) (h2 : Sort.Eqv (kS l) o (numsL l.length)) : Ord l o := by
  have hp := h2.perm
  refine ⟨by rw [h2.len, numsL_len], fun x => by rw [h2.mem, numsL_mem], hp.nodup_iff.2 ((numsL_lt _).imp fun h => by omega), fun s t hst ht => ?_⟩
  have h3 := h1.getD (Nat.le_of_lt hst) ht
  by_cases c : kS l (o.getD s 0) = kS l (o.getD t 0)
  · refine .inr ⟨c, ?_⟩
    have h4 : (o.filter fun x => kS l x = kS l (o.getD s 0)).Pairwise (· < ·) := by
      rw [h2 (kS l (o.getD s 0))]
      exact (numsL_lt _).filter _
    rw [List.pairwise_filter] at h4
    have h5 := List.pairwise_iff_getElem.1 h4 s t (by omega) ht hst
    rw [List.getD_eq_getElem?_getD, List.getD_eq_getElem?_getD, List.getElem?_eq_getElem (show s < o.length by omega), List.getElem?_eq_getElem ht] at c ⊢
    simp only [Option.getD_some] at c ⊢
    rw [List.getD_eq_getElem?_getD, List.getElem?_eq_getElem (show s < o.length by omega)] at h5
    exact h5 (by simp) (by simpa using c.symm)
  · refine .inl ?_
    unfold kS at h3 c
    omega
theorem F112_ret (l : List TSpan) (h : l.length ≤ 1000) : ∃ o, F112 l (numsL l.length) = some ((), o) ∧ Ord l o := by
  obtain ⟨o, h1, h2, h3⟩ := Sort.stable_ret (cmpT_ok l) (numsL l.length) (fun z hz => numsL_mem.1 hz) (by rw [numsL_len]; omega)
  exact ⟨o, by rw [s112]; exact h1, ord_of h2 h3⟩
/-! ### spans that are right -/
structure LOk (l : List TSpan) (stops : Int) : Prop where
  f0 : ∀ i, i < l.length → 0 ≤ fr l i
  ft : ∀ i, i < l.length → fr l i < to l i
  ts : ∀ i, i < l.length → to l i < stops
theorem F114_eq (a b c : Int) : F114 a b c = some (decide (0 ≤ a ∧ a < b ∧ b < c)) := by
  unfold F114
  by_cases h : 0 ≤ a <;> by_cases h2 : a < b <;> simp [h, h2]
theorem L55_7_ret {l : List TSpan} {stops : Int} (hl : l.length ≤ 200) {m : List Int} (hm : m.length = l.length) : Ret (L55_7 l stops (0, m)) fun x => match x with
    | .inl o => o = numsL l.length ∧ LOk l stops
    | .inr r => r = ([], 2) ∧ ¬ LOk l stops := by
  unfold L55_7
  refine Ret.loop l.length (fun i s => s.1 = (i : Int) ∧ s.2.length = l.length ∧ (∀ j, j < i → s.2.getD j 0 = (j : Int)) ∧ ∀ j, j < i → 0 ≤ fr l j ∧ fr l j < to l j ∧ to l j < stops) ⟨rfl, hm, fun j hj => by omega, fun j hj => by omega⟩ ?_ ?_
  · rintro i ⟨x, m⟩ hi ⟨rfl, h1, h2, h3⟩
    simp only at h1 h2
    unfold B55_7
    simp (disch := omega) only [Ret_some, Ret_none, Ret_bind, Ret_asrt, Ret_cond, Sum.elim_inl, Sum.elim_inr, decide_eq_true_eq, decide_eq_false_iff_not, Bool.not_eq_true', Bool.not_not, Bool.and_eq_true, Bool.or_eq_true, Bool.true_eq_false, Bool.false_eq_true, Bool.not_true, Bool.not_false, if_true, if_false, ite_true, ite_false, true_and, and_true, false_and, and_false, Int.toNat_natCast, toN_succ, Int.ofNat_eq_natCast, Int.ofNat_toNat, Nat.zero_add, Nat.add_zero, not_true_eq_false, not_false_eq_true, implies_true, wr64, F114_eq]
    rw [if_pos (by omega)]
    refine ⟨by omega, ?_⟩
    have e1 : (l.getD i TSpan.d).from0 = fr l i := rfl
    have e2 : (l.getD i TSpan.d).to0 = to l i := rfl
    rw [e1, e2]
    split
    · rename_i c
      exact fun q => c ⟨q.f0 i hi, q.ft i hi, q.ts i hi⟩
    · rename_i c
      have c := Classical.not_not.1 c
      refine ⟨by omega, by omega, by omega, by rw [List.length_set]; exact h1, fun j hj => ?_, fun j hj => ?_⟩
      · rw [lgetD_set]
        by_cases e : i = j
        · subst e; rw [if_pos ⟨rfl, by omega⟩]
        · rw [if_neg (fun q => e q.1)]; exact h2 j (by omega)
      · by_cases e : j = i
        · subst e; exact c
        · exact h3 j (by omega)
  · rintro ⟨x, m⟩ ⟨rfl, h1, h2, h3⟩
    simp only at h1 h2
    unfold B55_7
    simp (disch := omega) only [Ret_some, Ret_none, Ret_bind, Ret_asrt, Ret_cond, Sum.elim_inl, Sum.elim_inr, decide_eq_true_eq, decide_eq_false_iff_not, Bool.not_eq_true', Bool.not_not, Bool.and_eq_true, Bool.or_eq_true, Bool.true_eq_false, Bool.false_eq_true, Bool.not_true, Bool.not_false, if_true, if_false, ite_true, ite_false, true_and, and_true, false_and, and_false, Int.toNat_natCast, toN_succ, Int.ofNat_eq_natCast, Int.ofNat_toNat, Nat.zero_add, Nat.add_zero, not_true_eq_false, not_false_eq_true, implies_true, wr64]
    rw [if_neg (by omega)]
    exact ⟨list_same (by rw [numsL_len]; exact h1) fun i hi => by rw [h2 i (by omega), numsL_getD (by omega)], fun i hi => (h3 i hi).1, fun i hi => (h3 i hi).2.1, fun i hi => (h3 i hi).2.2⟩
theorem L56_6_ret {l : List TSpan} {stops : Int} (hl : l.length ≤ 200) : Ret (L56_6 l stops 0) fun x => match x with
    | .inl _ => LOk l stops
    | .inr r => r = ([], 2) ∧ ¬ LOk l stops := by
  unfold L56_6
  refine Ret.loop l.length (fun i s => s = (i : Int) ∧ ∀ j, j < i → 0 ≤ fr l j ∧ fr l j < to l j ∧ to l j < stops) ⟨rfl, fun j hj => by omega⟩ ?_ ?_
  · rintro i s hi ⟨rfl, h3⟩
    have e1 : (l.getD i TSpan.d).from0 = fr l i := rfl
    have e2 : (l.getD i TSpan.d).to0 = to l i := rfl
    unfold B56_6
    simp only [Int.toNat_natCast, e1, e2]
    simp (disch := omega) only [Ret_some, Ret_none, Ret_bind, Ret_asrt, Ret_cond, Sum.elim_inl, Sum.elim_inr, decide_eq_true_eq, decide_eq_false_iff_not, Bool.not_eq_true', Bool.not_not, Bool.and_eq_true, Bool.or_eq_true, Bool.true_eq_false, Bool.false_eq_true, Bool.not_true, Bool.not_false, if_true, if_false, ite_true, ite_false, true_and, and_true, false_and, and_false, Int.toNat_natCast, toN_succ, Int.ofNat_eq_natCast, Int.ofNat_toNat, Nat.zero_add, Nat.add_zero, not_true_eq_false, not_false_eq_true, implies_true, wr64]
    rw [if_pos (by omega)]
    refine ⟨by omega, ?_⟩
    split
    · exact fun q => by have := q.f0 i hi; omega
    · split
      · exact fun q => by have := q.ft i hi; omega
      · split
        · exact fun q => by have := q.ts i hi; omega
        · refine ⟨by omega, fun j hj => ?_⟩
          by_cases e : j = i
          · subst e; omega
          · exact h3 j (by omega)
  · rintro s ⟨rfl, h3⟩
    unfold B56_6
    simp (disch := omega) only [Ret_some, Ret_none, Ret_bind, Ret_asrt, Ret_cond, Sum.elim_inl, Sum.elim_inr, decide_eq_true_eq, decide_eq_false_iff_not, Bool.not_eq_true', Bool.not_not, Bool.and_eq_true, Bool.or_eq_true, Bool.true_eq_false, Bool.false_eq_true, Bool.not_true, Bool.not_false, if_true, if_false, ite_true, ite_false, true_and, and_true, false_and, and_false, Int.toNat_natCast, toN_succ, Int.ofNat_eq_natCast, Int.ofNat_toNat, Nat.zero_add, Nat.add_zero, not_true_eq_false, not_false_eq_true, implies_true, wr64]
    rw [if_neg (by omega)]
    exact ⟨fun i hi => (h3 i hi).1, fun i hi => (h3 i hi).2.1, fun i hi => (h3 i hi).2.2⟩
/-! ### seats, one span after the other -/
structure Seats (l : List TSpan) (o : List Int) (S : Int) (t : Nat) (e out : List Int) : Prop where
  el : (e.length : Int) = S
  ol : out.length = l.length
  un : ∀ i, i < l.length → (i : Int) ∉ o.take t → out.getD i 0 = -1
  rg : ∀ i, i < l.length → (i : Int) ∈ o.take t → 0 ≤ out.getD i 0 ∧ out.getD i 0 < S
  ub : ∀ i, i < l.length → (i : Int) ∈ o.take t → to l i ≤ e.getD (out.getD i 0).toNat 0
  wt : ∀ s, (s : Nat) < e.length → e.getD s 0 = 0 ∨ ∃ i, i < l.length ∧ (i : Int) ∈ o.take t ∧ out.getD i 0 = (s : Int) ∧ to l i = e.getD s 0
  nn : ∀ s, s < e.length → 0 ≤ e.getD s 0
def First (e : List Int) (x : Int) (r : Nat) : Prop := r < e.length ∧ e.getD r 0 ≤ x ∧ ∀ s, s < r → x < e.getD s 0
theorem nd_take {o : List Int} (h : o.Nodup) {t : Nat} (ht : t < o.length) : o.getD t 0 ∉ o.take t := by
  rw [← List.take_append_drop t o] at h
  have hd := (List.nodup_append.1 h).2.2
  intro hm
  refine hd _ hm _ ?_ rfl
  rw [List.getD_eq_getElem?_getD, List.getElem?_eq_getElem ht, List.mem_drop_iff_getElem]
  exact ⟨0, by omega, by simp⟩
theorem Seats.step {l : List TSpan} {o : List Int} {S stops : Int} {t : Nat} {e out : List Int} (hL : LOk l stops) (ho : Ord l o) (ht : t < o.length) (h : Seats l o S t e out) {r : Nat} (hr : First e (fr l (o.getD t 0).toNat) r) :
    Seats l o S (t + 1) (e.set r (to l (o.getD t 0).toNat)) (out.set (o.getD t 0).toNat (r : Int)) := by
  have hx := (ho.mem _).1 (getD_mem (d := 0) ht)
  have hol := h.ol
  have hnd := nd_take ho.nd ht
  obtain ⟨i0, hi0⟩ : ∃ i0 : Nat, o.getD t 0 = (i0 : Int) := ⟨(o.getD t 0).toNat, by omega⟩
  rw [hi0] at hx hr hnd ⊢
  simp only [Int.toNat_natCast] at hr ⊢
  have hi0l : i0 < l.length := by omega
  have hmem : ∀ i : Nat, (i : Int) ∈ o.take (t + 1) ↔ (i : Int) ∈ o.take t ∨ i = i0 := fun i => by
    rw [take_succ' 0 ht, hi0, List.mem_append, List.mem_singleton, Int.natCast_inj]
  have hout : ∀ i, (out.set i0 (r : Int)).getD i 0 = if i = i0 then (r : Int) else out.getD i 0 := fun i => by
    rw [lgetD_set]
    by_cases c : i0 = i
    · rw [if_pos ⟨c, by omega⟩, if_pos c.symm]
    · rw [if_neg (fun q => c q.1), if_neg (fun q => c q.symm)]
  have he : ∀ s, (e.set r (to l i0)).getD s 0 = if s = r then to l i0 else e.getD s 0 := fun s => by
    rw [lgetD_set]
    by_cases c : r = s
    · rw [if_pos ⟨c, hr.1⟩, if_pos c.symm]
    · rw [if_neg (fun q => c q.1), if_neg (fun q => c q.symm)]
  have hft := hL.ft i0 hi0l
  have hf0 := hL.f0 i0 hi0l
  have hr2 := hr.2.1
  refine ⟨by rw [List.length_set]; exact h.el, by rw [List.length_set]; exact hol, fun i hi hm => ?_, fun i hi hm => ?_, fun i hi hm => ?_, fun s hs => ?_, fun s hs => ?_⟩
  · rw [hmem] at hm
    rw [hout, if_neg (fun q => hm (.inr q))]
    exact h.un i hi (fun q => hm (.inl q))
  · rw [hmem] at hm
    rw [hout]
    split
    · have := hr.1; have := h.el; omega
    · rename_i c
      exact h.rg i hi (hm.resolve_right c)
  · rw [hmem] at hm
    rw [hout]
    by_cases c : i = i0
    · subst c
      rw [if_pos rfl, Int.toNat_natCast, he, if_pos rfl]
      exact Int.le_refl _
    · have hm := hm.resolve_right c
      rw [if_neg c, he]
      have := h.ub i hi hm
      split
      · rename_i c2
        rw [c2] at this
        omega
      · exact this
  · rw [List.length_set] at hs
    rw [he]
    by_cases c : s = r
    · subst c
      rw [if_pos rfl]
      exact .inr ⟨i0, hi0l, (hmem i0).2 (.inr rfl), by rw [hout, if_pos rfl], rfl⟩
    · rw [if_neg c]
      rcases h.wt s hs with q | ⟨i, q1, q2, q3, q4⟩
      · exact .inl q
      · refine .inr ⟨i, q1, (hmem i).2 (.inl q2), ?_, q4⟩
        rw [hout, if_neg (by rintro rfl; exact hnd q2)]
        exact q3
  · rw [List.length_set] at hs
    rw [he]
    have := h.nn s hs
    split <;> omega
theorem Seats.free {l : List TSpan} {o : List Int} {S stops : Int} {t : Nat} {e out : List Int} (hL : LOk l stops) (ho : Ord l o) (ht : t < o.length) (h : Seats l o S t e out) {i0 : Nat} (hi0 : o.getD t 0 = (i0 : Int)) {s : Nat} (hs : s < e.length) :
    e.getD s 0 ≤ fr l i0 ↔ ∀ k, k < l.length → ¬ (out.getD k 0 = (s : Int) ∧ fr l k < to l i0 ∧ fr l i0 < to l k) := by
  have hx := (ho.mem _).1 (getD_mem (l := o) (i := t) (d := 0) ht)
  have hi0l : i0 < l.length := by omega
  constructor
  · rintro hle k hk ⟨h1, h2, h3⟩
    by_cases c : (k : Int) ∈ o.take t
    · have := h.ub k hk c
      rw [h1, Int.toNat_natCast] at this
      omega
    · have := h.un k hk c
      omega
  · intro hn
    rcases h.wt s hs with q | ⟨k, q1, q2, q3, q4⟩
    · have := hL.f0 i0 hi0l; omega
    · rcases Int.lt_or_le (fr l i0) (e.getD s 0) with c | c
      · exfalso
        refine hn k q1 ⟨q3, ?_, by omega⟩
        obtain ⟨u, hu, hue⟩ := mem_getD 0 q2
        rw [List.length_take] at hu
        rw [getD_take (by omega)] at hue
        have hlt := ho.lt u t (by omega) ht
        rw [hue, hi0, Int.toNat_natCast, Int.toNat_natCast] at hlt
        have := hL.ft i0 hi0l
        omega
      · exact c
theorem First.uniq {e : List Int} {x : Int} {r q : Nat} (h : First e x r) (k : First e x q) : r = q := by
  rcases Nat.lt_trichotomy r q with c | c | c
  · have := k.2.2 r c; have := h.2.1; omega
  · exact c
  · have := h.2.2 q c; have := k.2.1; omega
open Classical in
noncomputable def stp (l : List TSpan) (o : List Int) (S : Nat) : Nat → Option (List Int × List Int)
  | 0 => some (List.replicate S 0, List.replicate l.length (-1))
  | t + 1 => (stp l o S t).bind fun x => if h : ∃ r, First x.1 (fr l (o.getD t 0).toNat) r then some (x.1.set h.choose (to l (o.getD t 0).toNat), x.2.set (o.getD t 0).toNat (h.choose : Int)) else none
theorem stp_yes {l : List TSpan} {o : List Int} {S t r : Nat} {x : List Int × List Int} (h : stp l o S t = some x) (hr : First x.1 (fr l (o.getD t 0).toNat) r) : stp l o S (t + 1) = some (x.1.set r (to l (o.getD t 0).toNat), x.2.set (o.getD t 0).toNat (r : Int)) := by
  unfold stp
  rw [h]
  have he : ∃ r, First x.1 (fr l (o.getD t 0).toNat) r := ⟨r, hr⟩
  simp only [Option.bind_some]
  rw [dif_pos he, he.choose_spec.uniq hr]
theorem stp_no {l : List TSpan} {o : List Int} {S t : Nat} {x : List Int × List Int} (h : stp l o S t = some x) (hr : ¬ ∃ r, First x.1 (fr l (o.getD t 0).toNat) r) : stp l o S (t + 1) = none := by
  unfold stp
  rw [h]
  simp only [Option.bind_some]
  rw [dif_neg hr]
theorem stp_none {l : List TSpan} {o : List Int} {S t : Nat} (h : stp l o S t = none) : ∀ {m : Nat}, t ≤ m → stp l o S m = none
  | 0, hi => by obtain rfl : t = 0 := by omega
                exact h
  | m + 1, hi => by
    by_cases e : t = m + 1
    · subst e; exact h
    · unfold stp
      rw [stp_none h (by omega : t ≤ m)]
      rfl
theorem stp_ok {l : List TSpan} {o : List Int} {S : Nat} {stops : Int} (hL : LOk l stops) (ho : Ord l o) : ∀ {t : Nat} {x : List Int × List Int}, t ≤ o.length → stp l o S t = some x → Seats l o (S : Int) t x.1 x.2
  | 0, x, _, h => by
    unfold stp at h
    obtain rfl := Option.some.inj h
    refine ⟨by simp, by simp, fun i hi _ => getD_rep hi, fun i hi q => by simp at q, fun i hi q => by simp at q, fun s hs => .inl (getD_rep (by simpa using hs)), fun s hs => ?_⟩
    simp only at hs ⊢
    rw [getD_rep (by simpa using hs)]
    exact Int.le_refl _
  | t + 1, x, ht, h => by
    cases hx : stp l o S t with
    | none => rw [stp_none hx (Nat.le_succ t)] at h; simp at h
    | some y =>
      have ih := stp_ok hL ho (t := t) (by omega) hx
      by_cases c : ∃ r, First y.1 (fr l (o.getD t 0).toNat) r
      · obtain ⟨r, hr⟩ := c
        rw [stp_yes hx hr] at h
        obtain rfl := Option.some.inj h
        exact ih.step hL ho (by omega) hr
      · rw [stp_no hx c] at h; simp at h
/-! ### the reference's search for a seat -/
theorem L56_21_ret {l : List TSpan} {o : List Int} {S : Nat} {stops : Int} {t : Nat} {e out : List Int} (hn : l.length ≤ 200) (hS : S ≤ 80) (hL : LOk l stops) (ho : Ord l o) (ht : t < o.length) (h : Seats l o (S : Int) t e out) {i0 : Nat} (hi0 : o.getD t 0 = (i0 : Int)) :
    Ret (L56_21 l (i0 : Int) out (0, 0)) fun r => ∃ n : Nat, r = (n : Int) ∧ n ≤ S ∧ (n < S → First e (fr l i0) n) ∧ (n = S → ¬ ∃ q, First e (fr l i0) q) := by
  have hol := h.ol
  have hel := h.el
  have hx := (ho.mem _).1 (getD_mem (l := o) (i := t) (d := 0) ht)
  unfold L56_21
  refine Ret.while (fun st => ∃ s k : Nat, st.1 = (s : Int) ∧ st.2 = (k : Int) ∧ s ≤ S ∧ k ≤ l.length ∧ (∀ k', k' < k → ¬ (out.getD k' 0 = (s : Int) ∧ fr l k' < to l i0 ∧ fr l i0 < to l k')) ∧ ∀ s', s' < s → fr l i0 < e.getD s' 0) (fun st => (S - st.1.toNat) * (l.length + 1) + (l.length - st.2.toNat)) ⟨0, 0, rfl, rfl, Nat.zero_le _, Nat.zero_le _, fun k hk => by omega, fun s hs => by omega⟩ ?_
  rintro ⟨x, y⟩ ⟨s, k, rfl, rfl, h1, h2, h3, h4⟩
  have e1 : (l.getD k TSpan.d).from0 = fr l k := rfl
  have e2 : (l.getD k TSpan.d).to0 = to l k := rfl
  have e3 : (l.getD i0 TSpan.d).from0 = fr l i0 := rfl
  have e4 : (l.getD i0 TSpan.d).to0 = to l i0 := rfl
  unfold B56_21
  simp only [Int.toNat_natCast, Nat.zero_add, e1, e2, e3, e4]
  by_cases ck : k < l.length
  · have hno : (out.getD k 0 = (s : Int) ∧ fr l k < to l i0 ∧ fr l i0 < to l k) → s < S ∧ fr l i0 < e.getD s 0 := fun hc => by
      have hs : s < S := by
        by_cases c : (k : Int) ∈ o.take t
        · have := h.rg k ck c; omega
        · have := h.un k ck c; omega
      refine ⟨hs, ?_⟩
      have := h.free hL ho ht hi0 (s := s) (by omega)
      rcases Int.lt_or_le (fr l i0) (e.getD s 0) with q | q
      · exact q
      · exact absurd hc (this.1 q k ck)
    have next : ¬ (out.getD k 0 = (s : Int) ∧ fr l k < to l i0 ∧ fr l i0 < to l k) → (∃ s' k' : Nat, (s : Int) = (s' : Int) ∧ ((k + 1 : Nat) : Int) = (k' : Int) ∧ s' ≤ S ∧ k' ≤ l.length ∧ (∀ k'', k'' < k' → ¬ (out.getD k'' 0 = (s' : Int) ∧ fr l k'' < to l i0 ∧ fr l i0 < to l k'')) ∧ ∀ s'', s'' < s' → fr l i0 < e.getD s'' 0) ∧ (S - s) * (l.length + 1) + (l.length - (k + 1)) < (S - s) * (l.length + 1) + (l.length - k) := fun hc => by
      refine ⟨⟨s, k + 1, rfl, rfl, h1, by omega, fun k' hk' => ?_, h4⟩, by omega⟩
      by_cases e : k' = k
      · subst e; exact hc
      · exact h3 k' (by omega)
    have hw : IntKind.wrap .i64 ((k : Int) + 1) = ((k + 1 : Nat) : Int) := wr64 (by omega) (by omega)
    have hw2 : IntKind.wrap .i64 ((s : Int) + 1) = ((s + 1 : Nat) : Int) := wr64 (by omega) (by omega)
    have hw3 : IntKind.wrap .i64 (-1 + 1) = ((0 : Nat) : Int) := by decide
    simp (disch := omega) only [Ret_some, Ret_none, Ret_bind, Ret_asrt, Ret_cond, Sum.elim_inl, Sum.elim_inr, decide_eq_true_eq, decide_eq_false_iff_not, Bool.not_eq_true', Bool.not_not, Bool.and_eq_true, Bool.or_eq_true, Bool.true_eq_false, Bool.false_eq_true, Bool.not_true, Bool.not_false, if_true, if_false, ite_true, ite_false, true_and, and_true, false_and, and_false, Int.toNat_natCast, toN_succ, Int.ofNat_eq_natCast, Int.ofNat_toNat, Nat.zero_add, Nat.add_zero, not_true_eq_false, not_false_eq_true, implies_true, wr64, hw, hw2, hw3]
    rw [if_pos (by omega)]
    refine ⟨by omega, by omega, ?_⟩
    split
    · rename_i c1
      refine ⟨by omega, ?_⟩
      split
      · rename_i c2
        split
        · rename_i c3
          obtain ⟨q1, q2⟩ := hno ⟨c1, c2, c3⟩
          refine ⟨⟨s + 1, 0, rfl, rfl, by omega, Nat.zero_le _, fun k' hk' => by omega, fun s' hs' => ?_⟩, ?_⟩
          · by_cases e5 : s' = s
            · subst e5; exact q2
            · exact h4 s' (by omega)
          · have : S - s = S - (s + 1) + 1 := by omega
            rw [this, Nat.add_mul]
            omega
        · rename_i c3
          exact next fun q => c3 q.2.2
      · rename_i c2
        exact next fun q => c2 q.2.1
    · rename_i c1
      exact next fun q => c1 q.1
  · obtain rfl : k = l.length := by omega
    simp (disch := omega) only [Ret_some, Ret_none, Ret_bind, Ret_asrt, Ret_cond, Sum.elim_inl, Sum.elim_inr, decide_eq_true_eq, decide_eq_false_iff_not, Bool.not_eq_true', Bool.not_not, Bool.and_eq_true, Bool.or_eq_true, Bool.true_eq_false, Bool.false_eq_true, Bool.not_true, Bool.not_false, if_true, if_false, ite_true, ite_false, true_and, and_true, false_and, and_false, Int.toNat_natCast, toN_succ, Int.ofNat_eq_natCast, Int.ofNat_toNat, Nat.zero_add, Nat.add_zero, not_true_eq_false, not_false_eq_true, implies_true, wr64]
    rw [if_neg (by omega)]
    refine ⟨s, rfl, h1, fun hs => ⟨by omega, (h.free hL ho ht hi0 (by omega)).2 h3, h4⟩, fun hs q => ?_⟩
    obtain ⟨q, q1, q2, _⟩ := q
    have := h4 q (by omega)
    omega
def Done (l : List TSpan) (o : List Int) (t : Nat) (f : Int) (i : Nat) : Prop := ∀ j, j < l.length → ((j : Int) ∈ o.take t ↔ fr l j < f ∨ (fr l j = f ∧ j < i))
theorem next_is {l : List TSpan} {o : List Int} (ho : Ord l o) {t i : Nat} {f : Int} (hd : Done l o t f i) (hi : i < l.length) (hf : fr l i = f) : t < o.length ∧ o.getD t 0 = (i : Int) := by
  have hol := ho.len
  have hni : (i : Int) ∉ o.take t := fun q => by have := (hd i hi).1 q; omega
  have him : (i : Int) ∈ o := (ho.mem _).2 (by omega)
  obtain ⟨u, hu, hue⟩ := mem_getD 0 him
  have htu : t ≤ u := by
    rcases Nat.lt_or_ge u t with c | c
    · exfalso
      refine hni ?_
      rw [← hue, ← getD_take c]
      exact getD_mem (by rw [List.length_take]; omega)
    · exact c
  have ht : t < o.length := by omega
  refine ⟨ht, ?_⟩
  by_cases e : t = u
  · subst e; exact hue
  · exfalso
    have hlt := ho.lt t u (by omega) hu
    rw [hue, Int.toNat_natCast] at hlt
    have hx := (ho.mem _).1 (getD_mem (l := o) (i := t) (d := 0) ht)
    have hnx := nd_take ho.nd ht
    obtain ⟨j, hj⟩ : ∃ j : Nat, o.getD t 0 = (j : Int) := ⟨(o.getD t 0).toNat, by omega⟩
    rw [hj] at hlt hnx
    rw [Int.toNat_natCast] at hlt
    have : ¬ (fr l j < f ∨ (fr l j = f ∧ j < i)) := fun q => hnx ((hd j (by omega)).2 q)
    omega
theorem L56_16_ret {l : List TSpan} {o : List Int} {S : Nat} {stops f : Int} {t : Nat} {x : List Int × List Int} (hn : l.length ≤ 200) (hS : S ≤ 80) (hL : LOk l stops) (ho : Ord l o) (htl : t ≤ o.length) (hx : stp l o S t = some x) (hd : Done l o t f 0) :
    Ret (L56_16 l (S : Int) f (0, x.2)) fun r => match r with
      | .inl m => ∃ t' x', t' ≤ o.length ∧ stp l o S t' = some x' ∧ m = x'.2 ∧ Done l o t' (f + 1) 0
      | .inr r => r = ([], 14) ∧ stp l o S o.length = none := by
  have hol := ho.len
  unfold L56_16
  refine Ret.loop l.length (fun i st => st.1 = (i : Int) ∧ ∃ t x, t ≤ o.length ∧ stp l o S t = some x ∧ st.2 = x.2 ∧ Done l o t f i) ⟨rfl, t, x, htl, hx, rfl, hd⟩ ?_ ?_
  · rintro i ⟨y, m⟩ hi ⟨rfl, t, x, h1, h2, rfl, h4⟩
    have hs := stp_ok hL ho h1 h2
    have hxl := hs.ol
    have e3 : (l.getD i TSpan.d).from0 = fr l i := rfl
    unfold B56_16
    simp only [Int.toNat_natCast, e3]
    simp (disch := omega) only [Ret_some, Ret_none, Ret_bind, Ret_asrt, Ret_cond, Sum.elim_inl, Sum.elim_inr, decide_eq_true_eq, decide_eq_false_iff_not, Bool.not_eq_true', Bool.not_not, Bool.and_eq_true, Bool.or_eq_true, Bool.true_eq_false, Bool.false_eq_true, Bool.not_true, Bool.not_false, if_true, if_false, ite_true, ite_false, true_and, and_true, false_and, and_false, Int.toNat_natCast, toN_succ, Int.ofNat_eq_natCast, Int.ofNat_toNat, Nat.zero_add, Nat.add_zero, not_true_eq_false, not_false_eq_true, implies_true, wr64]
    rw [if_pos (by omega)]
    refine ⟨by omega, ?_⟩
    by_cases c : fr l i = f
    · rw [if_neg (by simpa using c)]
      obtain ⟨n1, n2⟩ := next_is ho h4 hi c
      refine (L56_21_ret hn hS hL ho n1 hs n2).mono fun r ⟨n, q0, q1, q2, q3⟩ => ?_
      subst q0
      by_cases c2 : n = S
      · rw [if_pos (by omega)]
        have := stp_no h2 (by rw [n2, Int.toNat_natCast]; exact q3 c2)
        exact stp_none this (by omega)
      · rw [if_neg (by omega)]
        have hy := stp_yes h2 (r := n) (by rw [n2, Int.toNat_natCast]; exact q2 (by omega))
        rw [n2, Int.toNat_natCast] at hy
        refine ⟨by omega, by omega, by omega, t + 1, _, by omega, hy, rfl, fun j hj => ?_⟩
        rw [take_succ' 0 n1, n2, List.mem_append, List.mem_singleton, Int.natCast_inj, h4 j hj]
        constructor
        · rintro (q | rfl)
          · omega
          · exact .inr ⟨c, by omega⟩
        · intro q
          by_cases e : j = i
          · exact .inr e
          · exact .inl (by omega)
    · rw [if_pos (by simpa using c)]
      refine ⟨by omega, t, x, h1, h2, rfl, fun j hj => ?_⟩
      rw [h4 j hj]
      constructor
      · omega
      · intro q
        by_cases e : j = i
        · subst e; omega
        · omega
  · rintro ⟨y, m⟩ ⟨rfl, t, x, h1, h2, rfl, h4⟩
    unfold B56_16
    simp (disch := omega) only [Ret_some, Ret_none, Ret_bind, Ret_asrt, Ret_cond, Sum.elim_inl, Sum.elim_inr, decide_eq_true_eq, decide_eq_false_iff_not, Bool.not_eq_true', Bool.not_not, Bool.and_eq_true, Bool.or_eq_true, Bool.true_eq_false, Bool.false_eq_true, Bool.not_true, Bool.not_false, if_true, if_false, ite_true, ite_false, true_and, and_true, false_and, and_false, Int.toNat_natCast, toN_succ, Int.ofNat_eq_natCast, Int.ofNat_toNat, Nat.zero_add, Nat.add_zero, not_true_eq_false, not_false_eq_true, implies_true, wr64]
    rw [if_neg (by omega)]
    refine ⟨t, x, h1, h2, rfl, fun j hj => ?_⟩
    rw [h4 j hj]
    omega
theorem L56_13_ret {l : List TSpan} {o : List Int} {S : Nat} {stops : Int} (hn : l.length ≤ 200) (hS : S ≤ 80) (hs0 : 0 ≤ stops) (hs1 : stops ≤ 12) (hL : LOk l stops) (ho : Ord l o) :
    Ret (L56_13 l (S : Int) stops (0, List.replicate l.length (-1))) fun r => match r with
      | .inl m => ∃ x, stp l o S o.length = some x ∧ m = x.2
      | .inr r => r = ([], 14) ∧ stp l o S o.length = none := by
  have hol := ho.len
  unfold L56_13
  refine Ret.loop stops.toNat (fun i st => st.1 = (i : Int) ∧ ∃ t x, t ≤ o.length ∧ stp l o S t = some x ∧ st.2 = x.2 ∧ Done l o t (i : Int) 0) ⟨rfl, 0, _, Nat.zero_le _, rfl, rfl, fun j hj => ?_⟩ ?_ ?_
  · have := hL.f0 j hj
    simp
    omega
  · rintro i ⟨y, m⟩ hi ⟨rfl, t, x, h1, h2, rfl, h4⟩
    unfold B56_13
    simp (disch := omega) only [Ret_some, Ret_none, Ret_bind, Ret_asrt, Ret_cond, Sum.elim_inl, Sum.elim_inr, decide_eq_true_eq, decide_eq_false_iff_not, Bool.not_eq_true', Bool.not_not, Bool.and_eq_true, Bool.or_eq_true, Bool.true_eq_false, Bool.false_eq_true, Bool.not_true, Bool.not_false, if_true, if_false, ite_true, ite_false, true_and, and_true, false_and, and_false, Int.toNat_natCast, toN_succ, Int.ofNat_eq_natCast, Int.ofNat_toNat, Nat.zero_add, Nat.add_zero, not_true_eq_false, not_false_eq_true, implies_true, wr64]
    rw [if_pos (by omega)]
    refine (L56_16_ret hn hS hL ho h1 h2 h4).mono fun r hr => ?_
    rcases r with m | r
    · obtain ⟨t', x', q1, q2, rfl, q3⟩ := hr
      simp (disch := omega) only [Ret_some, Ret_none, Ret_bind, Ret_asrt, Ret_cond, Sum.elim_inl, Sum.elim_inr, decide_eq_true_eq, decide_eq_false_iff_not, Bool.not_eq_true', Bool.not_not, Bool.and_eq_true, Bool.or_eq_true, Bool.true_eq_false, Bool.false_eq_true, Bool.not_true, Bool.not_false, if_true, if_false, ite_true, ite_false, true_and, and_true, false_and, and_false, Int.toNat_natCast, toN_succ, Int.ofNat_eq_natCast, Int.ofNat_toNat, Nat.zero_add, Nat.add_zero, not_true_eq_false, not_false_eq_true, implies_true, wr64]
      exact ⟨by omega, t', x', q1, q2, rfl, q3⟩
    · obtain ⟨rfl, hr⟩ := hr
      simp (disch := omega) only [Ret_some, Ret_none, Ret_bind, Ret_asrt, Ret_cond, Sum.elim_inl, Sum.elim_inr, decide_eq_true_eq, decide_eq_false_iff_not, Bool.not_eq_true', Bool.not_not, Bool.and_eq_true, Bool.or_eq_true, Bool.true_eq_false, Bool.false_eq_true, Bool.not_true, Bool.not_false, if_true, if_false, ite_true, ite_false, true_and, and_true, false_and, and_false, Int.toNat_natCast, toN_succ, Int.ofNat_eq_natCast, Int.ofNat_toNat, Nat.zero_add, Nat.add_zero, not_true_eq_false, not_false_eq_true, implies_true, wr64]
      exact hr
  · rintro ⟨y, m⟩ ⟨rfl, t, x, h1, h2, rfl, h4⟩
    unfold B56_13
    simp (disch := omega) only [Ret_some, Ret_none, Ret_bind, Ret_asrt, Ret_cond, Sum.elim_inl, Sum.elim_inr, decide_eq_true_eq, decide_eq_false_iff_not, Bool.not_eq_true', Bool.not_not, Bool.and_eq_true, Bool.or_eq_true, Bool.true_eq_false, Bool.false_eq_true, Bool.not_true, Bool.not_false, if_true, if_false, ite_true, ite_false, true_and, and_true, false_and, and_false, Int.toNat_natCast, toN_succ, Int.ofNat_eq_natCast, Int.ofNat_toNat, Nat.zero_add, Nat.add_zero, not_true_eq_false, not_false_eq_true, implies_true, wr64]
    rw [if_neg (by omega)]
    have htl : t = o.length := by
      rcases Nat.lt_or_ge t o.length with c | c
      · exfalso
        have hx := (ho.mem _).1 (getD_mem (l := o) (i := t) (d := 0) c)
        have hnx := nd_take ho.nd c
        obtain ⟨j, hj⟩ : ∃ j : Nat, o.getD t 0 = (j : Int) := ⟨(o.getD t 0).toNat, by omega⟩
        rw [hj] at hnx
        have := hL.ts j (by omega)
        have := hL.ft j (by omega)
        exact hnx ((h4 j (by omega)).2 (.inl (by omega)))
      · omega
    subst htl
    exact ⟨x, h2, rfl⟩
/-! ### slices.Repeat -/
theorem F148_small : ∀ n : Fin 201, F148 (IntKind.wrap .u64 1) (IntKind.wrap .u64 (n.val : Int)) = some (0, (n.val : Int)) := by decide
theorem L118_8_ret {n : Nat} (hn : n ≤ 200) {m : List Int} {v : Nat} (hv : v ≤ n) (h0 : 0 < n → 0 < v) (hm : m.length = n) (hg : ∀ j, j < v → m.getD j 0 = -1) : L118_8 ((v : Int), m) = some (List.replicate n (-1)) := by
  refine Ret.eq ?_
  unfold L118_8
  refine Ret.while (fun st => ∃ v : Nat, st.1 = (v : Int) ∧ v ≤ n ∧ (0 < n → 0 < v) ∧ st.2.length = n ∧ ∀ j, j < v → st.2.getD j 0 = -1) (fun st => n - st.1.toNat) ⟨v, rfl, hv, h0, hm, hg⟩ ?_
  rintro ⟨x, m⟩ ⟨v, rfl, h1, h2, h3, h4⟩
  simp only at h3 h4
  unfold B118_8
  by_cases c : v < n
  · have e1 : ((m.length : Int) - (v : Int)).toNat = n - v := by omega
    have e2 : ((v : Int) - 0).toNat = v := by omega
    simp only [e1, e2, Int.toNat_natCast, Nat.zero_add]
    generalize hq : Nat.min (n - v) v = q
    have hq' : min (n - v) v = q := hq
    rw [hq']
    have h2 := h2 (by omega)
    have hq0 : 0 < q ∧ q ≤ n - v ∧ q ≤ v := by omega
    have hw : IntKind.wrap .i64 ((v : Int) + (q : Int)) = ((v + q : Nat) : Int) := wr64 (by omega) (by omega)
    simp (disch := omega) only [Ret_some, Ret_none, Ret_bind, Ret_asrt, Ret_cond, Sum.elim_inl, Sum.elim_inr, decide_eq_true_eq, decide_eq_false_iff_not, Bool.not_eq_true', Bool.not_not, Bool.and_eq_true, Bool.or_eq_true, Bool.true_eq_false, Bool.false_eq_true, Bool.not_true, Bool.not_false, if_true, if_false, ite_true, ite_false, true_and, and_true, false_and, and_false, Int.toNat_natCast, toN_succ, Int.ofNat_eq_natCast, Int.ofNat_toNat, Nat.zero_add, Nat.add_zero, not_true_eq_false, not_false_eq_true, implies_true, wr64, hw]
    rw [if_pos (by omega)]
    refine ⟨by omega, by omega, by omega, ⟨v + q, rfl, by omega, by omega, ?_, fun j hj => ?_⟩, by omega⟩
    · simp only [List.length_append, List.length_take, List.length_drop]; omega
    · by_cases c2 : j < v
      · rw [← h4 j c2]
        simp only [List.getD_eq_getElem?_getD]
        rw [List.getElem?_append_left (by rw [List.length_take]; omega), List.getElem?_take, if_pos c2]
      · rw [← h4 (j - v) (by omega)]
        simp only [List.getD_eq_getElem?_getD]
        rw [List.getElem?_append_right (by rw [List.length_take]; omega), List.length_take, Nat.min_eq_left (by omega), List.getElem?_append_left (by rw [List.length_take]; omega), List.getElem?_take, if_pos (by omega)]
  · obtain rfl : v = n := by omega
    simp (disch := omega) only [Ret_some, Ret_none, Ret_bind, Ret_asrt, Ret_cond, Sum.elim_inl, Sum.elim_inr, decide_eq_true_eq, decide_eq_false_iff_not, Bool.not_eq_true', Bool.not_not, Bool.and_eq_true, Bool.or_eq_true, Bool.true_eq_false, Bool.false_eq_true, Bool.not_true, Bool.not_false, if_true, if_false, ite_true, ite_false, true_and, and_true, false_and, and_false, Int.toNat_natCast, toN_succ, Int.ofNat_eq_natCast, Int.ofNat_toNat, Nat.zero_add, Nat.add_zero, not_true_eq_false, not_false_eq_true, implies_true, wr64]
    rw [if_neg (by omega)]
    refine list_same (by simp [h3]) fun i hi => ?_
    rw [h4 i (by omega), getD_rep (by omega)]
theorem F118_eq {n : Nat} (hn : n ≤ 200) : F118 [-1] (n : Int) = some ((), List.replicate n (-1)) := by
  have h1 := F148_small ⟨n, by omega⟩
  simp only at h1
  have e1 : IntKind.wrap .u64 (([(-1 : Int)].length : Nat) : Int) = IntKind.wrap .u64 1 := rfl
  have e2 : IntKind.wrap .i64 (n : Int) = (n : Int) := wr64 (by omega) (by omega)
  have hneg : ¬ (n : Int) < 0 := by omega
  have hbig : ¬ (9223372036854775807 : Int) < (n : Int) := by omega
  unfold F118
  rw [e1, h1]
  simp only [hneg, hbig, decide_false, cond_false, Option.bind_some, Int.lt_irrefl, e2, Int.toNat_natCast]
  rw [asrt_eq ⟨by omega, by omega, by omega, by omega⟩, asrt_eq (by omega)]
  have hL := L118_8_ret (n := n) hn (v := min n 1) (m := List.take 0 (List.replicate n (0 : Int)) ++ (List.take (min n 1) [-1] ++ List.drop (0 + min n 1) (List.replicate n (0 : Int)))) (by omega) (by omega) (by simp; omega) (fun j hj => by
    obtain rfl : j = 0 := by omega
    have : min n 1 = 1 := by omega
    rw [this]
    rfl)
  have hL' : L118_8 (((min n [(-1 : Int)].length : Nat) : Int), List.take 0 (List.replicate n (Int.ofNat 0)) ++ (List.take (min n [(-1 : Int)].length) [-1] ++ List.drop (0 + min n [(-1 : Int)].length) (List.replicate n (Int.ofNat 0)))) = some (List.replicate n (-1)) := hL
  rw [hL']
  rfl
/-! ### the program's seats -/
theorem F116_ret {l : List TSpan} {i0 : Nat} {e : List Int} (hi : i0 < l.length) (he : e.length ≤ 1000) : Ret (F116 (l, (i0 : Int)) e) fun r => r.2 = e ∧ ((∃ n : Nat, r.1 = (n : Int) ∧ First e (fr l i0) n) ∨ (r.1 = -1 ∧ ¬ ∃ q, First e (fr l i0) q)) := by
  unfold F116
  simp (disch := omega) only [Ret_some, Ret_none, Ret_bind, Ret_asrt, Ret_cond, Sum.elim_inl, Sum.elim_inr, decide_eq_true_eq, decide_eq_false_iff_not, Bool.not_eq_true', Bool.not_not, Bool.and_eq_true, Bool.or_eq_true, Bool.true_eq_false, Bool.false_eq_true, Bool.not_true, Bool.not_false, if_true, if_false, ite_true, ite_false, true_and, and_true, false_and, and_false, Int.toNat_natCast, toN_succ, Int.ofNat_eq_natCast, Int.ofNat_toNat, Nat.zero_add, Nat.add_zero, not_true_eq_false, not_false_eq_true, implies_true, wr64]
  unfold L116_2
  refine Ret.loop e.length (fun i s => s = (i : Int) ∧ ∀ s', s' < i → fr l i0 < e.getD s' 0) ⟨rfl, fun s hs => by omega⟩ ?_ ?_
  · rintro i s hs ⟨rfl, h⟩
    have e1 : (l.getD i0 TSpan.d).from0 = fr l i0 := rfl
    unfold B116_2 F117
    simp only [Int.toNat_natCast, Nat.zero_add, e1]
    simp (disch := omega) only [Ret_some, Ret_none, Ret_bind, Ret_asrt, Ret_cond, Sum.elim_inl, Sum.elim_inr, decide_eq_true_eq, decide_eq_false_iff_not, Bool.not_eq_true', Bool.not_not, Bool.and_eq_true, Bool.or_eq_true, Bool.true_eq_false, Bool.false_eq_true, Bool.not_true, Bool.not_false, if_true, if_false, ite_true, ite_false, true_and, and_true, false_and, and_false, Int.toNat_natCast, toN_succ, Int.ofNat_eq_natCast, Int.ofNat_toNat, Nat.zero_add, Nat.add_zero, not_true_eq_false, not_false_eq_true, implies_true, wr64]
    rw [if_pos (by omega)]
    refine ⟨by omega, by omega, by omega, ?_⟩
    split
    · rename_i c
      exact .inl ⟨i, rfl, hs, c, h⟩
    · rename_i c
      refine ⟨by omega, fun s' hs' => ?_⟩
      by_cases e5 : s' = i
      · subst e5; omega
      · exact h s' (by omega)
  · rintro s ⟨rfl, h⟩
    unfold B116_2
    simp (disch := omega) only [Ret_some, Ret_none, Ret_bind, Ret_asrt, Ret_cond, Sum.elim_inl, Sum.elim_inr, decide_eq_true_eq, decide_eq_false_iff_not, Bool.not_eq_true', Bool.not_not, Bool.and_eq_true, Bool.or_eq_true, Bool.true_eq_false, Bool.false_eq_true, Bool.not_true, Bool.not_false, if_true, if_false, ite_true, ite_false, true_and, and_true, false_and, and_false, Int.toNat_natCast, toN_succ, Int.ofNat_eq_natCast, Int.ofNat_toNat, Nat.zero_add, Nat.add_zero, not_true_eq_false, not_false_eq_true, implies_true, wr64]
    rw [if_neg (by omega)]
    refine .inr fun ⟨q, q1, q2, _⟩ => ?_
    have := h q q1
    omega
theorem L55_17_ret {l : List TSpan} {o p : List Int} {r6 : Unit × List Int} {S : Nat} {stops : Int} (hn : l.length ≤ 200) (hS : S ≤ 80) (hL : LOk l stops) (ho : Ord l o) (hp : p.length = l.length) (h6 : r6.2 = o) :
    Ret (L55_17 l p r6 (0, List.replicate S 0, List.replicate l.length 0)) fun r => match r with
      | .inl m => ∃ x, stp l o S o.length = some x ∧ m.2 = x.2
      | .inr r => r = ([], 14) ∧ stp l o S o.length = none := by
  have hol := ho.len
  unfold L55_17
  refine Ret.loop l.length (fun t st => st.1 = (t : Int) ∧ ∃ x, stp l o S t = some x ∧ st.2.1 = x.1 ∧ st.2.2.length = l.length ∧ ∀ j, j < l.length → (j : Int) ∈ o.take t → st.2.2.getD j 0 = x.2.getD j 0) ⟨rfl, _, rfl, rfl, by simp, fun j hj q => by simp at q⟩ ?_ ?_
  · rintro t ⟨y, e, m⟩ ht ⟨rfl, x, h1, rfl, h2, h3⟩
    simp only at h2 h3
    have hs := stp_ok hL ho (by omega) h1
    have hel := hs.el
    have hxl := hs.ol
    have hx := (ho.mem _).1 (getD_mem (l := o) (i := t) (d := 0) (by omega))
    obtain ⟨i0, hi0⟩ : ∃ i0 : Nat, o.getD t 0 = (i0 : Int) := ⟨(o.getD t 0).toNat, by omega⟩
    have e2 : (l.getD i0 TSpan.d).to0 = to l i0 := rfl
    unfold B55_17
    simp only [h6, Int.toNat_natCast, Nat.zero_add, hi0, e2]
    simp (disch := omega) only [Ret_some, Ret_none, Ret_bind, Ret_asrt, Ret_cond, Sum.elim_inl, Sum.elim_inr, decide_eq_true_eq, decide_eq_false_iff_not, Bool.not_eq_true', Bool.not_not, Bool.and_eq_true, Bool.or_eq_true, Bool.true_eq_false, Bool.false_eq_true, Bool.not_true, Bool.not_false, if_true, if_false, ite_true, ite_false, true_and, and_true, false_and, and_false, Int.toNat_natCast, toN_succ, Int.ofNat_eq_natCast, Int.ofNat_toNat, Nat.zero_add, Nat.add_zero, not_true_eq_false, not_false_eq_true, implies_true, wr64]
    rw [if_pos (by omega)]
    refine ⟨by omega, by omega, ?_⟩
    refine (F116_ret (i0 := i0) (by omega) (by omega)).mono fun r hr => ?_
    obtain ⟨r1, r2⟩ := r
    obtain ⟨hr0, hr⟩ := hr
    simp only at hr0 hr
    subst hr0
    refine ⟨rfl, ?_⟩
    dsimp only
    rcases hr with ⟨n, rfl, hf⟩ | ⟨rfl, hf⟩
    · rw [if_neg (by omega)]
      have hfl := hf.1
      have hy := stp_yes h1 (r := n) (by rw [hi0, Int.toNat_natCast]; exact hf)
      rw [hi0, Int.toNat_natCast] at hy
      simp only [Int.toNat_natCast]
      refine ⟨by omega, by omega, by omega, by omega, by omega, by omega, _, hy, rfl, by rw [List.length_set]; exact h2, fun j hj hm => ?_⟩
      rw [take_succ' 0 (by omega), hi0, List.mem_append, List.mem_singleton, Int.natCast_inj] at hm
      rw [lgetD_set, lgetD_set]
      by_cases c : i0 = j
      · rw [if_pos ⟨c, by omega⟩, if_pos ⟨c, by omega⟩]
      · rw [if_neg (fun q => c q.1), if_neg (fun q => c q.1)]
        exact h3 j hj (hm.resolve_right fun q => c q.symm)
    · rw [if_pos (by decide)]
      have := stp_no h1 (by rw [hi0, Int.toNat_natCast]; exact hf)
      exact stp_none this (by omega)
  · rintro ⟨y, e, m⟩ ⟨rfl, x, h1, rfl, h2, h3⟩
    simp only at h2 h3
    have hs := stp_ok hL ho (by omega) h1
    unfold B55_17
    simp (disch := omega) only [Ret_some, Ret_none, Ret_bind, Ret_asrt, Ret_cond, Sum.elim_inl, Sum.elim_inr, decide_eq_true_eq, decide_eq_false_iff_not, Bool.not_eq_true', Bool.not_not, Bool.and_eq_true, Bool.or_eq_true, Bool.true_eq_false, Bool.false_eq_true, Bool.not_true, Bool.not_false, if_true, if_false, ite_true, ite_false, true_and, and_true, false_and, and_false, Int.toNat_natCast, toN_succ, Int.ofNat_eq_natCast, Int.ofNat_toNat, Nat.zero_add, Nat.add_zero, not_true_eq_false, not_false_eq_true, implies_true, wr64]
    rw [if_neg (by omega)]
    refine ⟨x, by rw [hol]; exact h1, list_same (by rw [h2, hs.ol]) fun i hi => ?_⟩
    refine h3 i (by omega) ?_
    rw [← hol, List.take_length]
    exact (ho.mem _).2 (by omega)
theorem F25_refl {l : List Int} (hl : l.length ≤ 1000) : F25 l l = some true := by
  refine Ret.eq ?_
  unfold F25
  simp (disch := omega) only [Ret_some, Ret_none, Ret_bind, Ret_asrt, Ret_cond, Sum.elim_inl, Sum.elim_inr, decide_eq_true_eq, decide_eq_false_iff_not, Bool.not_eq_true', Bool.not_not, Bool.and_eq_true, Bool.or_eq_true, Bool.true_eq_false, Bool.false_eq_true, Bool.not_true, Bool.not_false, if_true, if_false, ite_true, ite_false, true_and, and_true, false_and, and_false, Int.toNat_natCast, toN_succ, Int.ofNat_eq_natCast, Int.ofNat_toNat, Nat.zero_add, Nat.add_zero, not_true_eq_false, not_false_eq_true, implies_true, wr64]
  unfold L25_4
  refine Ret.loop l.length (fun i s => s = (i : Int)) rfl ?_ ?_
  · rintro i s hi rfl
    unfold B25_4
    simp (disch := omega) only [Ret_some, Ret_none, Ret_bind, Ret_asrt, Ret_cond, Sum.elim_inl, Sum.elim_inr, decide_eq_true_eq, decide_eq_false_iff_not, Bool.not_eq_true', Bool.not_not, Bool.and_eq_true, Bool.or_eq_true, Bool.true_eq_false, Bool.false_eq_true, Bool.not_true, Bool.not_false, if_true, if_false, ite_true, ite_false, true_and, and_true, false_and, and_false, Int.toNat_natCast, toN_succ, Int.ofNat_eq_natCast, Int.ofNat_toNat, Nat.zero_add, Nat.add_zero, not_true_eq_false, not_false_eq_true, implies_true, wr64]
    rw [if_pos (by omega)]
    refine ⟨by omega, ?_⟩
    omega
  · rintro s rfl
    unfold B25_4
    simp (disch := omega) only [Ret_some, Ret_none, Ret_bind, Ret_asrt, Ret_cond, Sum.elim_inl, Sum.elim_inr, decide_eq_true_eq, decide_eq_false_iff_not, Bool.not_eq_true', Bool.not_not, Bool.and_eq_true, Bool.or_eq_true, Bool.true_eq_false, Bool.false_eq_true, Bool.not_true, Bool.not_false, if_true, if_false, ite_true, ite_false, true_and, and_true, false_and, and_false, Int.toNat_natCast, toN_succ, Int.ofNat_eq_natCast, Int.ofNat_toNat, Nat.zero_add, Nat.add_zero, not_true_eq_false, not_false_eq_true, implies_true, wr64]
    rw [if_neg (by omega)]
    trivial
theorem F14_true (l : List TSpan) (S stops : Int) : F14 l S stops = some true := by
  have key : ∃ r, F55 l S stops = some r ∧ F56 l S stops = some r ∧ r.1.length ≤ 1000 := by
    unfold F55 F56
    simp only [F79_eq, F81_eq, Option.bind_some]
    by_cases c1 : (200 : Int) < (l.length : Int)
    · exact ⟨([], 4), by simp [c1], by simp [c1], by simp⟩
    · by_cases c2 : 1 ≤ S ∧ S ≤ 80
      · by_cases c3 : 2 ≤ stops ∧ stops ≤ 12
        · obtain ⟨Sn, rfl⟩ : ∃ Sn : Nat, S = (Sn : Int) := ⟨S.toNat, by omega⟩
          have hn : l.length ≤ 200 := by omega
          obtain ⟨x, x1, x2⟩ := L55_7_ret (stops := stops) hn (m := List.replicate l.length 0) (by simp)
          obtain ⟨y, y1, y2⟩ := L56_6_ret (stops := stops) hn
          have x1' : L55_7 l stops (0, List.replicate l.length (Int.ofNat 0)) = some x := x1
          simp only [c1, c2, c3, and_self, decide_true, decide_false, Bool.not_true, cond_false, Int.toNat_natCast, y1, Option.bind_some]
          rw [asrt_eq ⟨by omega, by omega, by omega, by omega⟩, x1']
          simp only [Option.bind_some]
          rcases x with x | x
          · rcases y with y | y
            · obtain ⟨rfl, hL⟩ := x2
              obtain ⟨o, e112, ho⟩ := F112_ret l (by omega)
              have hol := ho.len
              obtain ⟨z, z1, z2⟩ := L55_17_ret (S := Sn) (p := numsL l.length) (r6 := ((), o)) hn (by omega) hL ho (numsL_len _) rfl
              obtain ⟨v, v1, v2⟩ := L56_13_ret (S := Sn) hn (by omega) (by omega) (by omega) hL ho
              have z1' : L55_17 l (numsL l.length) ((), o) (0, List.replicate Sn (Int.ofNat 0), List.replicate l.length (Int.ofNat 0)) = some z := z1
              simp only [Sum.elim_inl, e112, Option.bind_some, F118_eq hn, v1]
              rw [asrt_eq (by rw [numsL_len]; exact hol), asrt_eq ⟨by omega, by omega, by omega, by omega⟩, z1']
              simp only [Option.bind_some]
              rcases z with ⟨z, w⟩ | z
              · obtain ⟨a, a1, a2⟩ := z2
                simp only at a2
                subst a2
                rcases v with v | v
                · obtain ⟨b, b1, rfl⟩ := v2
                  rw [a1] at b1
                  obtain rfl := Option.some.inj b1
                  have hs := stp_ok hL ho (Nat.le_refl _) a1
                  have hal := hs.ol
                  refine ⟨(a.2, 0), ?_, ?_, by show a.2.length ≤ 1000; omega⟩
                  · simp only [Sum.elim_inl]
                    rw [asrt_eq (by omega), List.take_length]
                  · simp only [Sum.elim_inl]
                    rw [asrt_eq (by omega), List.take_length]
                · rw [v2.2] at a1; simp at a1
              · obtain ⟨rfl, z3⟩ := z2
                rcases v with v | v
                · obtain ⟨b, b1, _⟩ := v2
                  rw [z3] at b1; simp at b1
                · obtain ⟨rfl, _⟩ := v2
                  exact ⟨([], 14), rfl, rfl, by simp⟩
            · exact absurd x2.2 y2.2
          · rcases y with y | y
            · exact absurd y2 x2.2
            · obtain ⟨rfl, _⟩ := x2
              obtain ⟨rfl, _⟩ := y2
              exact ⟨([], 2), rfl, rfl, by simp⟩
        · exact ⟨([], 2), by simp [c1, c2, c3], by simp [c1, c2, c3], by simp⟩
      · exact ⟨([], 2), by simp [c1, c2], by simp [c1, c2], by simp⟩
  obtain ⟨r, h1, h2, h3⟩ := key
  unfold F14
  rw [h1, h2, F18_eq]
  simp [F25_refl h3]
end Go.Proofs.Ytgghnfmabphbmaa
