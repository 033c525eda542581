/- FareShares: what its pure functions return. -/
import Derived.Test.YtgghnfmabphbmaaA21
import Derived.Test.YtgghnfmabphbmaaA22
import Derived.Test.YtgghnfmabphbmaaR13C
import Derived.Test.YtgghnfmabphbmaaA18
open Go Go.Proofs.Ytgghnfmabphbmaa.Fw
namespace Go.Proofs.Ytgghnfmabphbmaa
set_option maxRecDepth 100000
set_option linter.unusedVariables false
set_option linter.unusedSimpArgs false
theorem F79_eq (n a b : Int) : F79 n a b = some (decide (a ≤ n ∧ n ≤ b)) := by
  unfold F79
  by_cases h : a ≤ n <;> simp [h]
theorem F81_eq (n a b : Int) : F81 n a b = some (decide (a ≤ n ∧ n ≤ b)) := F79_eq n a b
theorem F145_eq (n : Int) : F145 n = some false := by simp [F145]
theorem F105_eq (a b : Int) : F105 a b = some (if a < b then -1 else if b < a then 1 else 0) := by
  unfold F105
  simp only [F145_eq, Option.bind_some, cond_false]
  by_cases h : a < b <;> by_cases h2 : b < a <;> simp [h, h2]
/-! ### the same loop with more in hand -/
theorem loopF_map {S S' X X' : Type} {B : S → Option (S ⊕ X)} {B' : S' → Option (S' ⊕ X')} (φ : S' → S) (ψ : X' → X) (h : ∀ s, B (φ s) = (B' s).map (Sum.map φ ψ)) : ∀ (n : Nat) (s : S'), loopF B n (φ s) = (loopF B' n s).map ψ
  | 0, s => rfl
  | n + 1, s => by
    simp only [loopF, h s]
    cases B' s with
    | none => rfl
    | some o =>
      cases o with
      | inl s' => exact loopF_map φ ψ h n s'
      | inr x => rfl
theorem loopW_map {S S' X X' : Type} {B : S → Option (S ⊕ X)} {B' : S' → Option (S' ⊕ X')} (φ : S' → S) (ψ : X' → X) (h : ∀ s, B (φ s) = (B' s).map (Sum.map φ ψ)) (s : S') : loopW B (φ s) = (loopW B' s).map ψ := by
  cases e : loopW B' s with
  | some x =>
    obtain ⟨n, hn⟩ := loopW_iff.1 e
    exact loopW_of (n := n) (by rw [loopF_map φ ψ h, hn]; rfl)
  | none =>
    cases e2 : loopW B (φ s) with
    | none => rfl
    | some y =>
      obtain ⟨n, hn⟩ := loopW_iff.1 e2
      rw [loopF_map φ ψ h] at hn
      cases e3 : loopF B' n s with
      | none => rw [e3] at hn; simp at hn
      | some x => rw [loopW_of e3] at e; simp at e
/-! ### insertion -/
noncomputable def cmpS (P : Int) (l : List Int) (s : Int) (x y : Int) : Option Int := (F113 x y P l s).map fun r => r.1
theorem F113_cmp (P : Int) (l : List Int) (s x y : Int) : F113 x y P l s = (cmpS P l s x y).map fun r => (r, s) := by
  unfold cmpS F113 asrt
  by_cases c1 : 0 ≤ y ∧ y < (l.length : Int)
  · by_cases c2 : s = 0
    · simp [c1, c2]
    · by_cases c3 : 0 ≤ x ∧ x < (l.length : Int)
      · simp only [c1, c2, c3, F105_eq, if_true, and_self, decide_false, Bool.not_false, cond_true, Option.bind_some, Option.map_some]
      · simp [c1, c2, c3]
  · simp [c1]
theorem L161_4_sim (P : Int) (l : List Int) (s a1 : Int) (v : Int × List Int) : L161_4 a1 ((P, l), v.1, v.2, s) = (Sort.L187_4 (cmpS P l s) a1 v).map fun m => ((P, l), m, s) := by
  unfold L161_4 Sort.L187_4
  refine loopW_map (fun v : Int × List Int => ((P, l), v.1, v.2, s)) (fun m => ((P, l), m, s)) (fun w => ?_) v
  unfold B161_4 Sort.B187_4 asrt
  simp only [F113_cmp]
  by_cases c1 : a1 < w.1
  · simp only [c1, decide_true, cond_true]
    split
    · split
      · split
        · split
          · cases cmpS P l s (w.2.getD (0 + w.1.toNat) 0) (w.2.getD (0 + (IntKind.wrap .i64 (w.1 - 1)).toNat) 0) with
            | none => rfl
            | some r =>
              simp only [Option.map_some, Option.bind_some]
              by_cases c2 : r < 0
              · simp [c2]
              · simp [c2]
          · rfl
        · rfl
      · rfl
    · rfl
  · simp [c1]
theorem L161_1_sim (P : Int) (l : List Int) (s a1 a2 : Int) (v : Int × List Int) : L161_1 a1 a2 ((P, l), v.1, v.2, s) = (Sort.L187_1 (cmpS P l s) a1 a2 v).map fun m => (m, s) := by
  unfold L161_1 Sort.L187_1
  refine loopW_map (fun v : Int × List Int => ((P, l), v.1, v.2, s)) (fun m => (m, s)) (fun w => ?_) v
  unfold B161_1 Sort.B187_1
  by_cases c1 : w.1 < a2
  · simp only [c1, decide_true, cond_true]
    have := L161_4_sim P l s a1 (w.1, w.2)
    simp only at this
    rw [this]
    cases Sort.L187_4 (cmpS P l s) a1 (w.1, w.2) with
    | none => rfl
    | some m => rfl
  · simp [c1]
theorem F161_sim (P : Int) (l : List Int) (s a1 a2 : Int) (m : List Int) : F161 a1 a2 (P, l) m s = (Sort.F187 (cmpS P l s) a1 a2 m).map fun r => ((), r.2, s) := by
  unfold F161 Sort.F187
  have := L161_1_sim P l s a1 a2 (IntKind.wrap .i64 (a1 + 1), m)
  simp only at this
  rw [this]
  cases Sort.L187_1 (cmpS P l s) a1 a2 (IntKind.wrap .i64 (a1 + 1), m) with
  | none => rfl
  | some m => rfl
/-! ### shares -/
structure SOk (P : Int) (l : List Int) : Prop where
  p0 : 0 ≤ P
  p1 : P ≤ 100000
  n1 : 1 ≤ l.length
  n6 : l.length ≤ 6
  ge : ∀ i, i < l.length → 0 ≤ l.getD i 0
  le : ∀ i, i < l.length → l.getD i 0 ≤ 10000
  ne : l.sum ≠ 0
def qS (P : Int) (l : List Int) (i : Nat) : Int := Int.tdiv (P * l.getD i 0) l.sum
def rS (P : Int) (l : List Int) (i : Nat) : Int := Int.tmod (P * l.getD i 0) l.sum
def smI (f : Nat → Int) : Nat → Int
  | 0 => 0
  | n + 1 => smI f n + f n
theorem sum_take (l : List Int) : ∀ {i : Nat}, i ≤ l.length → (l.take i).sum = smI (fun j => l.getD j 0) i
  | 0, _ => rfl
  | i + 1, h => by
    rw [take_succ' 0 (by omega), List.sum_append, sum_take l (by omega)]
    simp [smI]
theorem sum_smI (l : List Int) : l.sum = smI (fun j => l.getD j 0) l.length := by
  rw [← sum_take l (Nat.le_refl _), List.take_length]
theorem smI_ge {f : Nat → Int} : ∀ {n : Nat}, (∀ i, i < n → 0 ≤ f i) → 0 ≤ smI f n
  | 0, _ => Int.le_refl _
  | n + 1, h => by
    have := smI_ge (f := f) (n := n) (fun i hi => h i (by omega))
    have := h n (by omega)
    simp only [smI]; omega
theorem smI_le {f : Nat → Int} {c : Int} : ∀ {n : Nat}, (∀ i, i < n → f i ≤ c) → smI f n ≤ n * c
  | 0, _ => by simp [smI]
  | n + 1, h => by
    have := smI_le (f := f) (n := n) (c := c) (fun i hi => h i (by omega))
    have := h n (by omega)
    simp only [smI]
    rw [Int.natCast_add, Int.add_mul]
    omega
theorem SOk.sum {P : Int} {l : List Int} (h : SOk P l) : 1 ≤ l.sum ∧ l.sum ≤ 60000 := by
  have h1 := smI_ge (f := fun j => l.getD j 0) (n := l.length) h.ge
  have h2 := smI_le (f := fun j => l.getD j 0) (n := l.length) (c := 10000) h.le
  rw [← sum_smI] at h1 h2
  have := h.ne
  have := h.n6
  omega
theorem SOk.mul {P : Int} {l : List Int} (h : SOk P l) {i : Nat} (hi : i < l.length) : 0 ≤ P * l.getD i 0 ∧ P * l.getD i 0 ≤ 1000000000 := by
  have h1 := h.ge i hi
  have h2 := h.le i hi
  refine ⟨Int.mul_nonneg h.p0 h1, ?_⟩
  have := Int.mul_le_mul h.p1 h2 h1 (by decide)
  omega
theorem SOk.div {P : Int} {l : List Int} (h : SOk P l) {i : Nat} (hi : i < l.length) : 0 ≤ qS P l i ∧ qS P l i ≤ 1000000000 ∧ 0 ≤ rS P l i ∧ rS P l i < l.sum ∧ l.sum * qS P l i + rS P l i = P * l.getD i 0 := by
  obtain ⟨h1, h2⟩ := h.mul hi
  obtain ⟨h3, _⟩ := h.sum
  unfold qS rS
  rw [Int.tdiv_eq_ediv_of_nonneg h1, Int.tmod_eq_emod_of_nonneg h1]
  have e := Int.mul_ediv_add_emod (P * l.getD i 0) l.sum
  have a1 := Int.emod_nonneg (P * l.getD i 0) (show l.sum ≠ 0 by omega)
  have a2 := Int.emod_lt_of_pos (P * l.getD i 0) (show 0 < l.sum by omega)
  have a3 := Int.ediv_nonneg h1 (show 0 ≤ l.sum by omega)
  have a4 := Int.ediv_le_self l.sum h1
  exact ⟨a3, by omega, a1, a2, e⟩
def lS (P : Int) (l : List Int) : Int := P - smI (qS P l) l.length
theorem smI_lin {P : Int} {l : List Int} (h : SOk P l) : ∀ {n : Nat}, n ≤ l.length → l.sum * smI (qS P l) n + smI (rS P l) n = P * smI (fun j => l.getD j 0) n
  | 0, _ => by simp [smI]
  | n + 1, hn => by
    have ih := smI_lin h (n := n) (by omega)
    have := (h.div (i := n) (by omega)).2.2.2.2
    simp only [smI]
    rw [Int.mul_add, Int.mul_add]
    omega
theorem SOk.left {P : Int} {l : List Int} (h : SOk P l) : 0 ≤ lS P l ∧ lS P l ≤ (l.length : Int) := by
  have h1 := smI_lin h (Nat.le_refl l.length)
  rw [← sum_smI] at h1
  obtain ⟨h2, _⟩ := h.sum
  have h3 := smI_ge (f := rS P l) (n := l.length) (fun i hi => (h.div hi).2.2.1)
  have h4 := smI_le (f := rS P l) (n := l.length) (c := l.sum) (fun i hi => by have := (h.div hi).2.2.2.1; omega)
  have h5 : l.sum * lS P l = smI (rS P l) l.length := by
    unfold lS
    rw [Int.mul_sub, Int.mul_comm l.sum P]
    omega
  refine ⟨?_, ?_⟩
  · refine Int.le_of_mul_le_mul_left (a := l.sum) ?_ (by omega)
    rw [h5, Int.mul_zero]; exact h3
  · refine Int.le_of_mul_le_mul_left (a := l.sum) ?_ (by omega)
    rw [h5, Int.mul_comm]; exact h4
/-! ### the order of remainders -/
def kS (P : Int) (l : List Int) (x : Int) : Int := - rS P l x.toNat
theorem cmpS_ok {P : Int} {l : List Int} (h : SOk P l) : Sort.Cmp (cmpS P l l.sum) (kS P l) fun x => 0 ≤ x ∧ x < (l.length : Int) := fun x y hx hy => by
  have hs := h.sum
  have w1 := h.mul (i := x.toNat) (by omega)
  have w2 := h.mul (i := y.toNat) (by omega)
  have e1 : IntKind.wrap .i64 (P * l.getD x.toNat 0) = P * l.getD x.toNat 0 := wr64 (by omega) (by omega)
  have e2 : IntKind.wrap .i64 (P * l.getD y.toNat 0) = P * l.getD y.toNat 0 := wr64 (by omega) (by omega)
  have hne : ¬ l.sum = 0 := by omega
  refine ⟨if rS P l y.toNat < rS P l x.toNat then -1 else if rS P l x.toNat < rS P l y.toNat then 1 else 0, ?_, ?_⟩
  · unfold cmpS F113
    rw [asrt_eq hy]
    simp only [hne, decide_false, Bool.not_false, cond_true]
    rw [asrt_eq hx]
    simp only [e1, e2, F105_eq, Option.bind_some, Option.map_some]
    rfl
  · unfold kS
    by_cases c : rS P l y.toNat < rS P l x.toNat
    · simp only [c, if_true]; omega
    · by_cases c2 : rS P l x.toNat < rS P l y.toNat
      · simp only [c, c2, if_true, if_false]; omega
      · simp only [c, c2, if_false]; omega
def numsL (n : Nat) : List Int := (List.range n).map fun (i : Nat) => (i : Int)
theorem numsL_len (n : Nat) : (numsL n).length = n := by simp [numsL]
theorem numsL_mem {n : Nat} {x : Int} : x ∈ numsL n ↔ 0 ≤ x ∧ x < (n : Int) := by
  unfold numsL
  rw [List.mem_map]
  constructor
  · rintro ⟨i, hi, rfl⟩
    have := List.mem_range.1 hi
    omega
  · rintro ⟨h1, h2⟩
    exact ⟨x.toNat, List.mem_range.2 (by omega), by omega⟩
theorem numsL_succ (n : Nat) : numsL (n + 1) = numsL n ++ [(n : Int)] := by simp [numsL, List.range_succ]
theorem numsL_lt (n : Nat) : (numsL n).Pairwise (· < ·) := by
  unfold numsL
  rw [List.pairwise_map]
  exact List.pairwise_lt_range.imp (fun h => by omega)
structure Ord (P : Int) (l o : List Int) : Prop where
  len : o.length = l.length
  mem : ∀ x, x ∈ o ↔ 0 ≤ x ∧ x < (l.length : Int)
  nd : o.Nodup
  lt : ∀ s t, s < t → t < o.length → rS P l (o.getD t 0).toNat < rS P l (o.getD s 0).toNat ∨ (rS P l (o.getD s 0).toNat = rS P l (o.getD t 0).toNat ∧ o.getD s 0 < o.getD t 0)
theorem ord_of {P : Int} {l o : List Int} (h1 : Sort.Srt (kS P l) o) (h2 : Sort.Eqv (kS P l) o (numsL l.length)) : Ord P l o := by
  have hp := h2.perm
  refine ⟨by rw [h2.len, numsL_len], fun x => by rw [h2.mem, numsL_mem], hp.nodup_iff.2 ((numsL_lt _).imp fun h => by omega), fun s t hst ht => ?_⟩
  have h3 := h1.getD (Nat.le_of_lt hst) ht
  by_cases c : kS P l (o.getD s 0) = kS P l (o.getD t 0)
  · refine .inr ⟨by unfold kS at c; omega, ?_⟩
    have h4 : (o.filter fun x => kS P l x = kS P l (o.getD s 0)).Pairwise (· < ·) := by
      rw [h2 (kS P l (o.getD s 0))]
      exact (numsL_lt _).filter _
    rw [List.pairwise_filter] at h4
    have h5 := List.pairwise_iff_getElem.1 h4 s t (by omega) ht hst
    rw [List.getD_eq_getElem?_getD, List.getD_eq_getElem?_getD, List.getElem?_eq_getElem (show s < o.length by omega), List.getElem?_eq_getElem ht] at c ⊢
    simp only [Option.getD_some] at c ⊢
    rw [List.getD_eq_getElem?_getD, List.getElem?_eq_getElem (show s < o.length by omega)] at h5
    exact h5 (by simp) (by simpa using c.symm)
  · refine .inl ?_
    unfold kS at h3 c
    omega
theorem F112_ret {P : Int} {l : List Int} (h : SOk P l) : ∃ o, F112 (P, l) (numsL l.length) l.sum = some ((), o, l.sum) ∧ Ord P l o := by
  have hn := h.n6
  obtain ⟨o, h1, h2, h3⟩ := Sort.insertion_ret (cmpS_ok h) [] (numsL l.length) [] (fun z hz => numsL_mem.1 hz) (by simp [numsL_len]; omega)
  simp only [List.nil_append, List.append_nil, List.length_nil, numsL_len, Nat.zero_add] at h1
  have hol := h3.len
  rw [numsL_len] at hol
  have h1' : F161 0 (l.length : Int) (P, l) (numsL l.length) l.sum = some ((), o, l.sum) := by
    rw [F161_sim]
    have : Sort.F187 (cmpS P l l.sum) 0 (l.length : Int) (numsL l.length) = some ((), o) := h1
    rw [this]; rfl
  refine ⟨o, ?_, ord_of h2 h3⟩
  unfold F112 F147
  have e2 : L147_2 (l.length : Int) ((P, l), 0, 20, numsL l.length, l.sum) = some ((P, l), 0, numsL l.length, l.sum) := by
    unfold L147_2
    rw [loopW_eq]
    unfold B147_2
    have : ¬ (20 : Int) ≤ (l.length : Int) := by omega
    simp [this]
  have e7 : L147_7 (l.length : Int) ((P, l), 20, o, l.sum) = some (o, l.sum) := by
    unfold L147_7
    rw [loopW_eq]
    unfold B147_7
    have : ¬ (20 : Int) < (l.length : Int) := by omega
    simp [this]
  rw [numsL_len]
  simp only [e2, Option.bind_some, h1']
  rw [asrt_eq (by rw [hol, numsL_len])]
  simp only [e7, Option.bind_some]
  rw [asrt_eq (by rw [hol])]
/-! ### what all have -/
structure Has (P : Int) (l o : List Int) (t : Nat) (m : List Int) : Prop where
  len : m.length = l.length
  get : ∀ j, j < l.length → m.getD j 0 = qS P l j + if (j : Int) ∈ o.take t then 1 else 0
theorem Has.uniq {P : Int} {l o m m' : List Int} {t : Nat} (h : Has P l o t m) (k : Has P l o t m') : m = m' := by
  refine List.ext_getElem (by rw [h.len, k.len]) fun i h1 h2 => ?_
  have e1 := h.get i (by rw [← h.len]; exact h1)
  have e2 := k.get i (by rw [← h.len]; exact h1)
  rw [← e2] at e1
  simpa [List.getD_eq_getElem?_getD, List.getElem?_eq_getElem h1, List.getElem?_eq_getElem h2] using e1
theorem nd_take {o : List Int} (h : o.Nodup) {t : Nat} (ht : t < o.length) : o.getD t 0 ∉ o.take t := by
  rw [← List.take_append_drop t o] at h
  have hd := (List.nodup_append.1 h).2.2
  intro hm
  refine hd _ hm _ ?_ rfl
  rw [List.getD_eq_getElem?_getD, List.getElem?_eq_getElem ht, List.mem_drop_iff_getElem]
  exact ⟨0, by omega, by simp⟩
theorem Has.step {P : Int} {l o m : List Int} {t : Nat} (ho : Ord P l o) (ht : t < o.length) (h : Has P l o t m) : 0 ≤ o.getD t 0 ∧ (o.getD t 0).toNat < l.length ∧ Has P l o (t + 1) (m.set (o.getD t 0).toNat (m.getD (o.getD t 0).toNat 0 + 1)) := by
  have hx := (ho.mem _).1 (getD_mem (d := 0) ht)
  have hl := h.len
  refine ⟨hx.1, by omega, by rw [List.length_set]; exact hl, fun j hj => ?_⟩
  rw [take_succ' 0 ht, lgetD_set]
  by_cases c : (o.getD t 0).toNat = j
  · rw [if_pos ⟨c, by omega⟩, h.get _ (by omega)]
    have e : (((o.getD t 0).toNat : Nat) : Int) = o.getD t 0 := by omega
    rw [e, if_neg (nd_take ho.nd ht), ← c, e, if_pos (by simp)]
    omega
  · rw [if_neg (fun q => c q.1), h.get j hj]
    have : (j : Int) ≠ o.getD t 0 := by omega
    simp only [List.mem_append, List.mem_singleton, this, or_false]
theorem Has.sml {P : Int} {l o m : List Int} {t : Nat} (hs : SOk P l) (h : Has P l o t m) {j : Nat} (hj : j < l.length) : 0 ≤ m.getD j 0 ∧ m.getD j 0 ≤ 1000000001 := by
  rw [h.get j hj]
  have := hs.div hj
  split <;> omega
/-! ### the walks -/
theorem L52_7_ret {l : List Int} (hn : l.length ≤ 6) : Ret (L52_7 l (0, 0)) fun x => match x with
    | .inl s => s = l.sum ∧ ∀ i, i < l.length → 0 ≤ l.getD i 0 ∧ l.getD i 0 ≤ 10000
    | .inr r => r = ([], 2) ∧ ¬ ∀ i, i < l.length → 0 ≤ l.getD i 0 ∧ l.getD i 0 ≤ 10000 := by
  unfold L52_7
  refine Ret.loop l.length (fun i s => s.1 = (i : Int) ∧ s.2 = smI (fun j => l.getD j 0) i ∧ ∀ j, j < i → 0 ≤ l.getD j 0 ∧ l.getD j 0 ≤ 10000) ⟨rfl, rfl, fun j hj => by omega⟩ ?_ ?_
  · rintro i ⟨x, y⟩ hi ⟨rfl, rfl, h⟩
    have h1 := smI_ge (f := fun j => l.getD j 0) (n := i) (fun j hj => (h j hj).1)
    have h2 := smI_le (f := fun j => l.getD j 0) (n := i) (c := 10000) (fun j hj => (h j hj).2)
    unfold B52_7
    simp (disch := omega) only [Ret_some, Ret_none, Ret_bind, Ret_asrt, Ret_cond, Sum.elim_inl, Sum.elim_inr, decide_eq_true_eq, decide_eq_false_iff_not, Bool.not_eq_true', Bool.not_not, Bool.and_eq_true, Bool.or_eq_true, Bool.true_eq_false, Bool.false_eq_true, Bool.not_true, Bool.not_false, if_true, if_false, ite_true, ite_false, true_and, and_true, false_and, and_false, Int.toNat_natCast, toN_succ, Int.ofNat_eq_natCast, Int.ofNat_toNat, Nat.zero_add, Nat.add_zero, not_true_eq_false, not_false_eq_true, implies_true, wr64, F79_eq]
    rw [if_pos (by omega)]
    refine ⟨by omega, ?_⟩
    split
    · exact fun q => by have := q i hi; omega
    · rename_i c
      refine ⟨by omega, rfl, fun j hj => ?_⟩
      by_cases e : j = i
      · subst e; omega
      · exact h j (by omega)
  · rintro ⟨x, y⟩ ⟨rfl, rfl, h⟩
    unfold B52_7
    simp (disch := omega) only [Ret_some, Ret_none, Ret_bind, Ret_asrt, Ret_cond, Sum.elim_inl, Sum.elim_inr, decide_eq_true_eq, decide_eq_false_iff_not, Bool.not_eq_true', Bool.not_not, Bool.and_eq_true, Bool.or_eq_true, Bool.true_eq_false, Bool.false_eq_true, Bool.not_true, Bool.not_false, if_true, if_false, ite_true, ite_false, true_and, and_true, false_and, and_false, Int.toNat_natCast, toN_succ, Int.ofNat_eq_natCast, Int.ofNat_toNat, Nat.zero_add, Nat.add_zero, not_true_eq_false, not_false_eq_true, implies_true, wr64]
    rw [if_neg (by omega)]
    exact ⟨(sum_smI l).symm, h⟩
theorem L53_7_ret {l : List Int} (hn : l.length ≤ 6) : Ret (L53_7 l (0, 0)) fun x => match x with
    | .inl s => s = l.sum ∧ ∀ i, i < l.length → 0 ≤ l.getD i 0 ∧ l.getD i 0 ≤ 10000
    | .inr r => r = 2 ∧ ¬ ∀ i, i < l.length → 0 ≤ l.getD i 0 ∧ l.getD i 0 ≤ 10000 := by
  unfold L53_7
  refine Ret.loop l.length (fun i s => s.2 = (i : Int) ∧ s.1 = smI (fun j => l.getD j 0) i ∧ ∀ j, j < i → 0 ≤ l.getD j 0 ∧ l.getD j 0 ≤ 10000) ⟨rfl, rfl, fun j hj => by omega⟩ ?_ ?_
  · rintro i ⟨x, y⟩ hi ⟨rfl, rfl, h⟩
    have h1 := smI_ge (f := fun j => l.getD j 0) (n := i) (fun j hj => (h j hj).1)
    have h2 := smI_le (f := fun j => l.getD j 0) (n := i) (c := 10000) (fun j hj => (h j hj).2)
    unfold B53_7
    simp (disch := omega) only [Ret_some, Ret_none, Ret_bind, Ret_asrt, Ret_cond, Sum.elim_inl, Sum.elim_inr, decide_eq_true_eq, decide_eq_false_iff_not, Bool.not_eq_true', Bool.not_not, Bool.and_eq_true, Bool.or_eq_true, Bool.true_eq_false, Bool.false_eq_true, Bool.not_true, Bool.not_false, if_true, if_false, ite_true, ite_false, true_and, and_true, false_and, and_false, Int.toNat_natCast, toN_succ, Int.ofNat_eq_natCast, Int.ofNat_toNat, Nat.zero_add, Nat.add_zero, not_true_eq_false, not_false_eq_true, implies_true, wr64, F81_eq]
    rw [if_pos (by omega)]
    refine ⟨by omega, ?_⟩
    split
    · exact fun q => by have := q i hi; omega
    · rename_i c
      refine ⟨by omega, rfl, fun j hj => ?_⟩
      by_cases e : j = i
      · subst e; omega
      · exact h j (by omega)
  · rintro ⟨x, y⟩ ⟨rfl, rfl, h⟩
    unfold B53_7
    simp (disch := omega) only [Ret_some, Ret_none, Ret_bind, Ret_asrt, Ret_cond, Sum.elim_inl, Sum.elim_inr, decide_eq_true_eq, decide_eq_false_iff_not, Bool.not_eq_true', Bool.not_not, Bool.and_eq_true, Bool.or_eq_true, Bool.true_eq_false, Bool.false_eq_true, Bool.not_true, Bool.not_false, if_true, if_false, ite_true, ite_false, true_and, and_true, false_and, and_false, Int.toNat_natCast, toN_succ, Int.ofNat_eq_natCast, Int.ofNat_toNat, Nat.zero_add, Nat.add_zero, not_true_eq_false, not_false_eq_true, implies_true, wr64]
    rw [if_neg (by omega)]
    exact ⟨(sum_smI l).symm, h⟩
theorem SOk.q1 {P : Int} {l : List Int} (h : SOk P l) {i : Nat} (hi : i < l.length) : IntKind.wrap .i64 (Int.tdiv (IntKind.wrap .i64 (P * l.getD i 0)) l.sum) = qS P l i := by
  have h1 := h.mul hi
  have h2 := h.div hi
  rw [wr64 (x := P * l.getD i 0) (by omega) (by omega)]
  exact wr64 (x := qS P l i) (by omega) (by omega)
theorem SOk.qs {P : Int} {l : List Int} (h : SOk P l) {i : Nat} (hi : i ≤ l.length) : 0 ≤ smI (qS P l) i ∧ smI (qS P l) i ≤ 6000000000 := by
  have h1 := smI_ge (f := qS P l) (n := i) (fun j hj => (h.div (by omega)).1)
  have h2 := smI_le (f := qS P l) (n := i) (c := 1000000000) (fun j hj => (h.div (by omega)).2.1)
  have := h.n6
  omega
theorem L52_18_ret {P : Int} {l : List Int} (h : SOk P l) : Ret (L52_18 P l l.sum (P, 0, [], [])) fun r => r.1 = lS P l ∧ r.2.2 = numsL l.length ∧ r.2.1.length = l.length ∧ ∀ j, j < l.length → r.2.1.getD j 0 = qS P l j := by
  have hn := h.n6
  have hs := h.sum
  have hne : ¬ l.sum = 0 := by omega
  unfold L52_18
  refine Ret.loop l.length (fun i s => s.2.1 = (i : Int) ∧ s.1 = P - smI (qS P l) i ∧ s.2.2.2 = numsL i ∧ s.2.2.1.length = i ∧ ∀ j, j < i → s.2.2.1.getD j 0 = qS P l j) ⟨rfl, by simp [smI], rfl, rfl, fun j hj => by omega⟩ ?_ ?_
  · rintro i ⟨x, y, m1, m2⟩ hi ⟨rfl, rfl, rfl, h3, h4⟩
    simp only at h3 h4
    have hq := h.q1 hi
    have hd := h.div hi
    have hqs := h.qs (i := i) (by omega)
    have hp0 := h.p0
    have hp1 := h.p1
    have hg : (m1 ++ [qS P l i]).getD i 0 = qS P l i := by simp [List.getD_eq_getElem?_getD, List.getElem?_append, h3]
    unfold B52_18
    simp only [Int.toNat_natCast, hq, hne, decide_false, Bool.not_false, cond_true]
    simp (disch := omega) only [Ret_some, Ret_none, Ret_bind, Ret_asrt, Ret_cond, Sum.elim_inl, Sum.elim_inr, decide_eq_true_eq, decide_eq_false_iff_not, Bool.not_eq_true', Bool.not_not, Bool.and_eq_true, Bool.or_eq_true, Bool.true_eq_false, Bool.false_eq_true, Bool.not_true, Bool.not_false, if_true, if_false, ite_true, ite_false, true_and, and_true, false_and, and_false, Int.toNat_natCast, toN_succ, Int.ofNat_eq_natCast, Int.ofNat_toNat, Nat.zero_add, Nat.add_zero, not_true_eq_false, not_false_eq_true, implies_true, wr64, hg, List.length_append, List.length_singleton, h3, numsL_len]
    rw [if_pos (by omega)]
    refine ⟨by omega, by omega, by omega, by omega, by omega, by omega, ?_, (numsL_succ i).symm, fun j hj => ?_⟩
    · simp only [smI]
      omega
    · by_cases e : j = i
      · subst e; exact hg
      · rw [← h4 j (by omega)]
        simp only [List.getD_eq_getElem?_getD]
        rw [List.getElem?_append_left (by omega)]
  · rintro ⟨x, y, m1, m2⟩ ⟨rfl, rfl, rfl, h3, h4⟩
    simp only at h3 h4
    unfold B52_18
    simp (disch := omega) only [Ret_some, Ret_none, Ret_bind, Ret_asrt, Ret_cond, Sum.elim_inl, Sum.elim_inr, decide_eq_true_eq, decide_eq_false_iff_not, Bool.not_eq_true', Bool.not_not, Bool.and_eq_true, Bool.or_eq_true, Bool.true_eq_false, Bool.false_eq_true, Bool.not_true, Bool.not_false, if_true, if_false, ite_true, ite_false, true_and, and_true, false_and, and_false, Int.toNat_natCast, toN_succ, Int.ofNat_eq_natCast, Int.ofNat_toNat, Nat.zero_add, Nat.add_zero, not_true_eq_false, not_false_eq_true, implies_true, wr64]
    rw [if_neg (by omega)]
    exact ⟨rfl, h3, h4⟩
theorem L52_26_ret {P : Int} {l o : List Int} {p3 : Int × List Int × List Int} {r6 : Unit × List Int × Int} (h : SOk P l) (ho : Ord P l o) (h3 : p3.1 = lS P l) (h6 : r6.2.1 = o) {m : List Int} (hm : Has P l o 0 m) : Ret (L52_26 p3 r6 (0, m)) fun r => Has P l o (lS P l).toNat r := by
  have hl := h.left
  have hol := ho.len
  have hn := h.n6
  unfold L52_26
  refine Ret.loop (lS P l).toNat (fun t s => s.1 = (t : Int) ∧ Has P l o t s.2) ⟨rfl, hm⟩ ?_ ?_
  · rintro t ⟨x, m⟩ ht ⟨rfl, hm⟩
    simp only at hm
    obtain ⟨s1, s2, s3⟩ := hm.step ho (t := t) (by omega)
    have hml := hm.len
    have hsm := hm.sml h (j := (o.getD t 0).toNat) s2
    unfold B52_26
    simp only [h3, h6, Int.sub_zero]
    simp (disch := omega) only [Ret_some, Ret_none, Ret_bind, Ret_asrt, Ret_cond, Sum.elim_inl, Sum.elim_inr, decide_eq_true_eq, decide_eq_false_iff_not, Bool.not_eq_true', Bool.not_not, Bool.and_eq_true, Bool.or_eq_true, Bool.true_eq_false, Bool.false_eq_true, Bool.not_true, Bool.not_false, if_true, if_false, ite_true, ite_false, true_and, and_true, false_and, and_false, Int.toNat_natCast, toN_succ, Int.ofNat_eq_natCast, Int.ofNat_toNat, Nat.zero_add, Nat.add_zero, not_true_eq_false, not_false_eq_true, implies_true, wr64]
    rw [if_pos (by omega)]
    exact ⟨by omega, by omega, by omega, by omega, by omega, s3⟩
  · rintro ⟨x, m⟩ ⟨rfl, hm⟩
    unfold B52_26
    simp only [h3, h6, Int.sub_zero]
    simp (disch := omega) only [Ret_some, Ret_none, Ret_bind, Ret_asrt, Ret_cond, Sum.elim_inl, Sum.elim_inr, decide_eq_true_eq, decide_eq_false_iff_not, Bool.not_eq_true', Bool.not_not, Bool.and_eq_true, Bool.or_eq_true, Bool.true_eq_false, Bool.false_eq_true, Bool.not_true, Bool.not_false, if_true, if_false, ite_true, ite_false, true_and, and_true, false_and, and_false, Int.toNat_natCast, toN_succ, Int.ofNat_eq_natCast, Int.ofNat_toNat, Nat.zero_add, Nat.add_zero, not_true_eq_false, not_false_eq_true, implies_true, wr64]
    rw [if_neg (by omega)]
    exact hm
theorem L54_3_ret {P : Int} {l : List Int} (h : SOk P l) : L54_3 l (0, 0) = some l.sum := by
  have hn := h.n6
  refine Ret.eq ?_
  unfold L54_3
  refine Ret.loop l.length (fun i s => s.2 = (i : Int) ∧ s.1 = smI (fun j => l.getD j 0) i) ⟨rfl, rfl⟩ ?_ ?_
  · rintro i ⟨x, y⟩ hi ⟨rfl, rfl⟩
    have h1 := smI_ge (f := fun j => l.getD j 0) (n := i) (fun j hj => h.ge j (by omega))
    have h2 := smI_le (f := fun j => l.getD j 0) (n := i) (c := 10000) (fun j hj => h.le j (by omega))
    have h3 := h.ge i hi
    have h4 := h.le i hi
    unfold B54_3
    simp (disch := omega) only [Ret_some, Ret_none, Ret_bind, Ret_asrt, Ret_cond, Sum.elim_inl, Sum.elim_inr, decide_eq_true_eq, decide_eq_false_iff_not, Bool.not_eq_true', Bool.not_not, Bool.and_eq_true, Bool.or_eq_true, Bool.true_eq_false, Bool.false_eq_true, Bool.not_true, Bool.not_false, if_true, if_false, ite_true, ite_false, true_and, and_true, false_and, and_false, Int.toNat_natCast, toN_succ, Int.ofNat_eq_natCast, Int.ofNat_toNat, Nat.zero_add, Nat.add_zero, not_true_eq_false, not_false_eq_true, implies_true, wr64]
    rw [if_pos (by omega)]
    exact ⟨by omega, by omega, rfl⟩
  · rintro ⟨x, y⟩ ⟨rfl, rfl⟩
    unfold B54_3
    simp (disch := omega) only [Ret_some, Ret_none, Ret_bind, Ret_asrt, Ret_cond, Sum.elim_inl, Sum.elim_inr, decide_eq_true_eq, decide_eq_false_iff_not, Bool.not_eq_true', Bool.not_not, Bool.and_eq_true, Bool.or_eq_true, Bool.true_eq_false, Bool.false_eq_true, Bool.not_true, Bool.not_false, if_true, if_false, ite_true, ite_false, true_and, and_true, false_and, and_false, Int.toNat_natCast, toN_succ, Int.ofNat_eq_natCast, Int.ofNat_toNat, Nat.zero_add, Nat.add_zero, not_true_eq_false, not_false_eq_true, implies_true, wr64]
    rw [if_neg (by omega)]
    exact (sum_smI l).symm
theorem L54_9_ret {P : Int} {l : List Int} (h : SOk P l) {m : List Int} (hm : m.length = l.length) : Ret (L54_9 P l l.sum (0, 0, m)) fun r => r.1 = smI (qS P l) l.length ∧ r.2.length = l.length ∧ ∀ j, j < l.length → r.2.getD j 0 = qS P l j := by
  have hn := h.n6
  have hs := h.sum
  have hne : ¬ l.sum = 0 := by omega
  unfold L54_9
  refine Ret.loop l.length (fun i s => s.2.1 = (i : Int) ∧ s.1 = smI (qS P l) i ∧ s.2.2.length = l.length ∧ ∀ j, j < i → s.2.2.getD j 0 = qS P l j) ⟨rfl, rfl, hm, fun j hj => by omega⟩ ?_ ?_
  · rintro i ⟨x, y, m⟩ hi ⟨rfl, rfl, h3, h4⟩
    simp only at h3 h4
    have hq := h.q1 hi
    have hd := h.div hi
    have hqs := h.qs (i := i) (by omega)
    have hg : (m.set i (qS P l i)).getD i 0 = qS P l i := by rw [lgetD_set, if_pos ⟨rfl, by omega⟩]
    unfold B54_9
    simp only [Int.toNat_natCast, hq, hne, decide_false, Bool.not_false, cond_true]
    simp (disch := omega) only [Ret_some, Ret_none, Ret_bind, Ret_asrt, Ret_cond, Sum.elim_inl, Sum.elim_inr, decide_eq_true_eq, decide_eq_false_iff_not, Bool.not_eq_true', Bool.not_not, Bool.and_eq_true, Bool.or_eq_true, Bool.true_eq_false, Bool.false_eq_true, Bool.not_true, Bool.not_false, if_true, if_false, ite_true, ite_false, true_and, and_true, false_and, and_false, Int.toNat_natCast, toN_succ, Int.ofNat_eq_natCast, Int.ofNat_toNat, Nat.zero_add, Nat.add_zero, not_true_eq_false, not_false_eq_true, implies_true, wr64, hg, List.length_set, h3]
    rw [if_pos (by omega)]
    refine ⟨by omega, by omega, by omega, by omega, by omega, by omega, rfl, fun j hj => ?_⟩
    rw [lgetD_set]
    by_cases e : i = j
    · subst e; rw [if_pos ⟨rfl, by omega⟩]
    · rw [if_neg (fun q => e q.1)]
      exact h4 j (by omega)
  · rintro ⟨x, y, m⟩ ⟨rfl, rfl, h3, h4⟩
    simp only at h3 h4
    unfold B54_9
    simp (disch := omega) only [Ret_some, Ret_none, Ret_bind, Ret_asrt, Ret_cond, Sum.elim_inl, Sum.elim_inr, decide_eq_true_eq, decide_eq_false_iff_not, Bool.not_eq_true', Bool.not_not, Bool.and_eq_true, Bool.or_eq_true, Bool.true_eq_false, Bool.false_eq_true, Bool.not_true, Bool.not_false, if_true, if_false, ite_true, ite_false, true_and, and_true, false_and, and_false, Int.toNat_natCast, toN_succ, Int.ofNat_eq_natCast, Int.ofNat_toNat, Nat.zero_add, Nat.add_zero, not_true_eq_false, not_false_eq_true, implies_true, wr64]
    rw [if_neg (by omega)]
    exact ⟨h3, h4⟩
theorem SOk.r1 {P : Int} {l : List Int} (h : SOk P l) {i : Nat} (hi : i < l.length) : Int.tmod (IntKind.wrap .i64 (P * l.getD i 0)) l.sum = rS P l i := by
  have h1 := h.mul hi
  rw [wr64 (x := P * l.getD i 0) (by omega) (by omega)]
  rfl
theorem L54_19_ret {P : Int} {l o : List Int} {b : List Bool} {t : Nat} (h : SOk P l) (ho : Ord P l o) (ht : t < o.length) (hb : b.length = l.length) (hbt : ∀ j, j < l.length → b.getD j false = decide ((j : Int) ∈ o.take t)) :
    L54_19 P l l.sum b (-1, 0) = some (o.getD t 0) := by
  have hn := h.n6
  have hs := h.sum
  have hne : ¬ l.sum = 0 := by omega
  have hx := (ho.mem _).1 (getD_mem (l := o) (i := t) (d := 0) ht)
  have hnd := nd_take ho.nd ht
  refine Ret.eq ?_
  unfold L54_19
  refine Ret.loop l.length (fun i s => s.2 = (i : Int) ∧ ((s.1 = -1 ∧ ∀ j, j < i → (j : Int) ∈ o.take t) ∨ (∃ v : Nat, s.1 = (v : Int) ∧ v < i ∧ (v : Int) ∉ o.take t ∧ ∀ j, j < i → (j : Int) ∉ o.take t → rS P l j < rS P l v ∨ (rS P l j = rS P l v ∧ v ≤ j)))) ⟨rfl, .inl ⟨rfl, fun j hj => by omega⟩⟩ ?_ ?_
  · rintro i ⟨x, y⟩ hi ⟨rfl, h1⟩
    simp only at h1
    have hbi := hbt i hi
    have hri := h.r1 hi
    unfold B54_19
    simp only [Int.toNat_natCast, Nat.zero_add, hbi, hri]
    simp (disch := omega) only [Ret_some, Ret_none, Ret_bind, Ret_asrt, Ret_cond, Sum.elim_inl, Sum.elim_inr, decide_eq_true_eq, decide_eq_false_iff_not, Bool.not_eq_true', Bool.not_not, Bool.and_eq_true, Bool.or_eq_true, Bool.true_eq_false, Bool.false_eq_true, Bool.not_true, Bool.not_false, if_true, if_false, ite_true, ite_false, true_and, and_true, false_and, and_false, Int.toNat_natCast, toN_succ, Int.ofNat_eq_natCast, Int.ofNat_toNat, Nat.zero_add, Nat.add_zero, not_true_eq_false, not_false_eq_true, implies_true, wr64, hne]
    rw [if_pos (by omega)]
    refine ⟨by omega, by omega, by omega, ?_⟩
    by_cases c : (i : Int) ∈ o.take t
    · rw [if_neg (by simpa using c)]
      refine ⟨by omega, ?_⟩
      rcases h1 with ⟨h1, h2⟩ | ⟨v, h1, h2, h3, h4⟩
      · refine .inl ⟨h1, fun j hj => ?_⟩
        by_cases e : j = i
        · subst e; exact c
        · exact h2 j (by omega)
      · refine .inr ⟨v, h1, by omega, h3, fun j hj hjn => ?_⟩
        by_cases e : j = i
        · subst e; exact absurd c hjn
        · exact h4 j (by omega) hjn
    · rw [if_pos (by simpa using c)]
      rcases h1 with ⟨rfl, h2⟩ | ⟨v, rfl, h2, h3, h4⟩
      · rw [if_pos (by decide)]
        refine ⟨by omega, .inr ⟨i, rfl, by omega, c, fun j hj hjn => ?_⟩⟩
        by_cases e : j = i
        · subst e; exact .inr ⟨rfl, Nat.le_refl _⟩
        · exact absurd (h2 j (by omega)) hjn
      · rw [if_neg (by omega)]
        have hrv := h.r1 (i := v) (by omega)
        simp only [Int.toNat_natCast, hrv]
        refine ⟨by omega, ?_⟩
        by_cases c2 : rS P l v < rS P l i
        · rw [if_pos c2]
          refine ⟨by omega, .inr ⟨i, rfl, by omega, c, fun j hj hjn => ?_⟩⟩
          by_cases e : j = i
          · subst e; exact .inr ⟨rfl, Nat.le_refl _⟩
          · have := h4 j (by omega) hjn
            exact .inl (by omega)
        · rw [if_neg c2]
          refine ⟨by omega, .inr ⟨v, rfl, by omega, h3, fun j hj hjn => ?_⟩⟩
          by_cases e : j = i
          · subst e
            by_cases e2 : rS P l j = rS P l v
            · exact .inr ⟨e2, by omega⟩
            · exact .inl (by omega)
          · exact h4 j (by omega) hjn
  · rintro ⟨x, y⟩ ⟨rfl, h1⟩
    simp only at h1
    unfold B54_19
    simp (disch := omega) only [Ret_some, Ret_none, Ret_bind, Ret_asrt, Ret_cond, Sum.elim_inl, Sum.elim_inr, decide_eq_true_eq, decide_eq_false_iff_not, Bool.not_eq_true', Bool.not_not, Bool.and_eq_true, Bool.or_eq_true, Bool.true_eq_false, Bool.false_eq_true, Bool.not_true, Bool.not_false, if_true, if_false, ite_true, ite_false, true_and, and_true, false_and, and_false, Int.toNat_natCast, toN_succ, Int.ofNat_eq_natCast, Int.ofNat_toNat, Nat.zero_add, Nat.add_zero, not_true_eq_false, not_false_eq_true, implies_true, wr64]
    rw [if_neg (by omega)]
    have hxe : (((o.getD t 0).toNat : Nat) : Int) = o.getD t 0 := by omega
    rcases h1 with ⟨rfl, h2⟩ | ⟨v, rfl, h2, h3, h4⟩
    · have := h2 (o.getD t 0).toNat (by omega)
      rw [hxe] at this
      exact absurd this hnd
    · have h5 := h4 (o.getD t 0).toNat (by omega) (by rw [hxe]; exact hnd)
      have hv : (v : Int) ∈ o := (ho.mem _).2 (by omega)
      obtain ⟨u, hu, hue⟩ := mem_getD 0 hv
      by_cases e : u = t
      · subst e; exact hue.symm
      · by_cases c : u < t
        · exfalso
          refine h3 ?_
          rw [← hue, ← getD_take c]
          exact getD_mem (by rw [List.length_take]; omega)
        · have h6 := ho.lt t u (by omega) hu
          rw [hue, Int.toNat_natCast] at h6
          omega
theorem L54_15_ret {P : Int} {l o : List Int} (h : SOk P l) (ho : Ord P l o) {m : List Int} (hm : Has P l o 0 m) : Ret (L54_15 P l l.sum (smI (qS P l) l.length, m, List.replicate l.length false)) fun r => Has P l o (lS P l).toNat r.1 := by
  have hl := h.left
  have hol := ho.len
  have hn := h.n6
  have hqs := h.qs (Nat.le_refl l.length)
  have hlS : lS P l = P - smI (qS P l) l.length := rfl
  unfold L54_15
  refine Ret.loop (lS P l).toNat (fun t s => s.1 = smI (qS P l) l.length + t ∧ Has P l o t s.2.1 ∧ s.2.2.length = l.length ∧ ∀ j, j < l.length → s.2.2.getD j false = decide ((j : Int) ∈ o.take t)) ⟨by simp, hm, by simp, fun j hj => by simp only; rw [getD_rep hj]; simp⟩ ?_ ?_
  · rintro t ⟨x, m, b⟩ ht ⟨rfl, hm, hb, hbt⟩
    simp only at hm hb hbt
    obtain ⟨s1, s2, s3⟩ := hm.step ho (t := t) (by omega)
    have hml := hm.len
    have hsm := hm.sml h (j := (o.getD t 0).toNat) s2
    have hnx := L54_19_ret h ho (by omega) hb hbt
    unfold B54_15
    simp only [hnx, Option.bind_some, Nat.zero_add]
    simp (disch := omega) only [Ret_some, Ret_none, Ret_bind, Ret_asrt, Ret_cond, Sum.elim_inl, Sum.elim_inr, decide_eq_true_eq, decide_eq_false_iff_not, Bool.not_eq_true', Bool.not_not, Bool.and_eq_true, Bool.or_eq_true, Bool.true_eq_false, Bool.false_eq_true, Bool.not_true, Bool.not_false, if_true, if_false, ite_true, ite_false, true_and, and_true, false_and, and_false, Int.toNat_natCast, toN_succ, Int.ofNat_eq_natCast, Int.ofNat_toNat, Nat.zero_add, Nat.add_zero, not_true_eq_false, not_false_eq_true, implies_true, wr64, hb, hml]
    rw [if_pos (by omega)]
    refine ⟨by omega, by omega, by omega, by omega, by omega, s3, by rw [List.length_set]; exact hb, fun j hj => ?_⟩
    rw [lgetD_set, take_succ' 0 (by omega)]
    by_cases c : (o.getD t 0).toNat = j
    · rw [if_pos ⟨c, by omega⟩]
      have : (j : Int) = o.getD t 0 := by omega
      simp [this]
    · rw [if_neg (fun q => c q.1), hbt j hj]
      have : (j : Int) ≠ o.getD t 0 := by omega
      simp only [List.mem_append, List.mem_singleton, this, or_false]
  · rintro ⟨x, m, b⟩ ⟨rfl, hm, hb, hbt⟩
    unfold B54_15
    simp (disch := omega) only [Ret_some, Ret_none, Ret_bind, Ret_asrt, Ret_cond, Sum.elim_inl, Sum.elim_inr, decide_eq_true_eq, decide_eq_false_iff_not, Bool.not_eq_true', Bool.not_not, Bool.and_eq_true, Bool.or_eq_true, Bool.true_eq_false, Bool.false_eq_true, Bool.not_true, Bool.not_false, if_true, if_false, ite_true, ite_false, true_and, and_true, false_and, and_false, Int.toNat_natCast, toN_succ, Int.ofNat_eq_natCast, Int.ofNat_toNat, Nat.zero_add, Nat.add_zero, not_true_eq_false, not_false_eq_true, implies_true, wr64]
    rw [if_neg (by omega)]
    exact hm
theorem F25_refl {l : List Int} (hl : l.length ≤ 1000) : F25 l l = some true := by
  refine Ret.eq ?_
  unfold F25
  simp (disch := omega) only [Ret_some, Ret_none, Ret_bind, Ret_asrt, Ret_cond, Sum.elim_inl, Sum.elim_inr, decide_eq_true_eq, decide_eq_false_iff_not, Bool.not_eq_true', Bool.not_not, Bool.and_eq_true, Bool.or_eq_true, Bool.true_eq_false, Bool.false_eq_true, Bool.not_true, Bool.not_false, if_true, if_false, ite_true, ite_false, true_and, and_true, false_and, and_false, Int.toNat_natCast, toN_succ, Int.ofNat_eq_natCast, Int.ofNat_toNat, Nat.zero_add, Nat.add_zero, not_true_eq_false, not_false_eq_true, implies_true, wr64]
  unfold L25_4
  refine Ret.loop l.length (fun i s => s = (i : Int)) rfl ?_ ?_
  · rintro i s hi rfl
    unfold B25_4
    simp (disch := omega) only [Ret_some, Ret_none, Ret_bind, Ret_asrt, Ret_cond, Sum.elim_inl, Sum.elim_inr, decide_eq_true_eq, decide_eq_false_iff_not, Bool.not_eq_true', Bool.not_not, Bool.and_eq_true, Bool.or_eq_true, Bool.true_eq_false, Bool.false_eq_true, Bool.not_true, Bool.not_false, if_true, if_false, ite_true, ite_false, true_and, and_true, false_and, and_false, Int.toNat_natCast, toN_succ, Int.ofNat_eq_natCast, Int.ofNat_toNat, Nat.zero_add, Nat.add_zero, not_true_eq_false, not_false_eq_true, implies_true, wr64]
    rw [if_pos (by omega)]
    refine ⟨by omega, ?_⟩
    omega
  · rintro s rfl
    unfold B25_4
    simp (disch := omega) only [Ret_some, Ret_none, Ret_bind, Ret_asrt, Ret_cond, Sum.elim_inl, Sum.elim_inr, decide_eq_true_eq, decide_eq_false_iff_not, Bool.not_eq_true', Bool.not_not, Bool.and_eq_true, Bool.or_eq_true, Bool.true_eq_false, Bool.false_eq_true, Bool.not_true, Bool.not_false, if_true, if_false, ite_true, ite_false, true_and, and_true, false_and, and_false, Int.toNat_natCast, toN_succ, Int.ofNat_eq_natCast, Int.ofNat_toNat, Nat.zero_add, Nat.add_zero, not_true_eq_false, not_false_eq_true, implies_true, wr64]
    rw [if_neg (by omega)]
    trivial
theorem F13_true (P : Int) (l : List Int) : F13 P l = some true := by
  unfold F13 F52 F53
  simp only [F79_eq, F81_eq, Option.bind_some, F18_eq]
  by_cases c1 : 0 ≤ P ∧ P ≤ 100000
  · by_cases c2 : 1 ≤ (l.length : Int) ∧ (l.length : Int) ≤ 6
    · obtain ⟨x, x1, x2⟩ := L52_7_ret (l := l) (by omega)
      obtain ⟨y, y1, y2⟩ := L53_7_ret (l := l) (by omega)
      simp only [c1, c2, and_self, decide_true, Bool.not_true, cond_false, x1, y1, Option.bind_some]
      rcases x with x | x
      · rcases y with y | y
        · obtain ⟨rfl, x3⟩ := x2
          obtain ⟨rfl, y3⟩ := y2
          simp only [Sum.elim_inl]
          by_cases c3 : l.sum = 0
          · simp [c3]
          · have h : SOk P l := ⟨c1.1, c1.2, by omega, by omega, fun i hi => (x3 i hi).1, fun i hi => (x3 i hi).2, c3⟩
            have hn := h.n6
            have hl := h.left
            obtain ⟨⟨a1, a2, a3⟩, e18, e1, e2, e3, e4⟩ := L52_18_ret h
            simp only at e1 e2 e3 e4
            subst e1 e2
            obtain ⟨o, e112, ho⟩ := F112_ret h
            have hol := ho.len
            have hm0 : Has P l o 0 a2 := ⟨e3, fun j hj => by rw [e4 j hj]; simp⟩
            obtain ⟨m, e26, hm⟩ := L52_26_ret (p3 := (lS P l, a2, numsL l.length)) (r6 := ((), o, l.sum)) h ho rfl rfl hm0
            obtain ⟨⟨g1, g2⟩, e9, f1, f2, f3⟩ := L54_9_ret (m := List.replicate l.length 0) h (by simp)
            simp only at f1 f2 f3
            subst f1
            have hm1 : Has P l o 0 g2 := ⟨f2, fun j hj => by rw [f3 j hj]; simp⟩
            obtain ⟨⟨m2, b2⟩, e15, hm2⟩ := L54_15_ret h ho hm1
            simp only at hm2
            obtain rfl := hm.uniq hm2
            have hml := hm.len
            have hF54 : F54 P l = some m := by
              unfold F54
              rw [L54_3_ret h]
              simp only [Option.bind_some, Int.toNat_natCast]
              rw [asrt_eq ⟨by omega, by omega, by omega, by omega⟩]
              have e9' : L54_9 P l l.sum (0, 0, List.replicate l.length (Int.ofNat 0)) = some (smI (qS P l) l.length, g2) := e9
              simp only [e9', Option.bind_some]
              rw [asrt_eq (by omega)]
              simp only [e15, Option.bind_some]
              rw [asrt_eq (by omega), List.take_length]
            simp only [c3, decide_false, cond_false, e18, Option.bind_some, e112]
            rw [asrt_eq (by rw [numsL_len]; exact hol), asrt_eq (by rw [numsL_len]; omega)]
            simp only [e26, Option.bind_some]
            rw [asrt_eq (by omega), List.take_length]
            simp [hF54, F25_refl (l := m) (by omega)]
        · exact absurd x2.2 y2.2
      · rcases y with y | y
        · exact absurd y2.2 x2.2
        · obtain ⟨rfl, _⟩ := x2
          obtain ⟨rfl, _⟩ := y2
          simp
    · simp only [c1, c2, and_self, decide_true, decide_false, Bool.not_true, Bool.not_false, cond_false, cond_true, Option.bind_some]
      simp
  · simp only [c1, decide_false, Bool.not_false, cond_true, Option.bind_some]
    simp
end Go.Proofs.Ytgghnfmabphbmaa
