/- FareCheapest: what its pure functions return. -/
import Derived.Test.YtgghnfmabphbmaaA21
import Derived.Test.YtgghnfmabphbmaaR11C
import Derived.Test.YtgghnfmabphbmaaA18
open Go Go.Proofs.Ytgghnfmabphbmaa.Fw
namespace Go.Proofs.Ytgghnfmabphbmaa
set_option maxRecDepth 100000
set_option linter.unusedVariables false
set_option linter.unusedSimpArgs false
def Fit {α : Type} (l : List α) : Prop := l.length < 140737488355328
theorem F79_eq (n a b : Int) : F79 n a b = some (decide (a ≤ n ∧ n ≤ b)) := by
  unfold F79
  by_cases h : a ≤ n <;> simp [h]
theorem F81_eq (n a b : Int) : F81 n a b = some (decide (a ≤ n ∧ n ≤ b)) := F79_eq n a b
/-! ### trees -/
mutual
def levT : Tr → Nat
  | .mk _ l => levTs l + 1
def levTs : List Tr → Nat
  | [] => 0
  | x :: r => max (levT x) (levTs r)
end
theorem sumL_mem {α : Type} (f : α → Nat) {x : α} : ∀ {l : List α}, x ∈ l → f x ≤ sumL f l
  | [], h => by simp at h
  | y :: r, h => by
    simp only [sumL]
    rcases List.mem_cons.1 h with rfl | h
    · omega
    · have := sumL_mem f h
      omega
theorem sizT_eq (t : Tr) : sizT t = sizTs t.kids + 1 := by cases t; simp [sizT, Tr.kids]
theorem levT_eq (t : Tr) : levT t = levTs t.kids + 1 := by cases t; simp [levT, Tr.kids]
theorem sizTs_take {l : List Tr} {i : Nat} (h : i < l.length) : sizTs (l.take (i + 1)) = sizTs (l.take i) + sizT (l.getD i Tr.d) := by
  induction l generalizing i with
  | nil => simp at h
  | cons x r ih =>
    cases i with
    | zero => simp [sizTs]
    | succ i => have := ih (i := i) (by simpa using h); simp only [List.take_succ_cons, sizTs, List.getD_cons_succ, this]; omega
theorem levTs_take {l : List Tr} {i : Nat} (h : i < l.length) : levTs (l.take (i + 1)) = max (levTs (l.take i)) (levT (l.getD i Tr.d)) := by
  induction l generalizing i with
  | nil => simp at h
  | cons x r ih =>
    cases i with
    | zero => simp [levTs]
    | succ i => have := ih (i := i) (by simpa using h); simp only [List.take_succ_cons, levTs, List.getD_cons_succ, this]; omega
theorem sizTs_take_le : ∀ (l : List Tr) (i : Nat), sizTs (l.take i) ≤ sizTs l
  | [], i => by simp
  | x :: r, 0 => by simp [sizTs]
  | x :: r, i + 1 => by have := sizTs_take_le r i; simp only [List.take_succ_cons, sizTs]; omega
theorem sizT_pos (t : Tr) : 1 ≤ sizT t := by rw [sizT_eq]; omega
theorem levTs_le : ∀ (n : Nat), (∀ t, sizT t ≤ n → levT t ≤ sizT t) ∧ ∀ l, sizTs l ≤ n → levTs l ≤ sizTs l := by
  intro n
  induction n with
  | zero =>
    refine ⟨fun t h => by have := sizT_pos t; omega, fun l h => ?_⟩
    cases l with
    | nil => exact Nat.le_refl _
    | cons x r => have := sizT_pos x; simp only [sizTs] at h; omega
  | succ n ih =>
    have h1 : ∀ t, sizT t ≤ n + 1 → levT t ≤ sizT t := fun t h => by
      rw [sizT_eq] at h ⊢
      rw [levT_eq]
      have := ih.2 t.kids (by omega)
      omega
    refine ⟨h1, ?_⟩
    intro l
    induction l with
    | nil => exact fun _ => Nat.le_refl _
    | cons x r ih2 =>
      intro h
      simp only [sizTs] at h
      have := h1 x (by omega)
      have := ih2 (by have := sizT_pos x; omega)
      simp only [sizTs, levTs]
      omega
theorem levT_le (t : Tr) : levT t ≤ sizT t := (levTs_le (sizT t)).1 t (Nat.le_refl _)
theorem kids_len (l : List Tr) : l.length ≤ sizTs l := by
  induction l with
  | nil => exact Nat.le_refl _
  | cons x r ih => have := sizT_pos x; simp only [sizTs, List.length_cons]; omega
theorem kid_lt {t : Tr} {i : Nat} (h : i < t.kids.length) : sizT (t.kids.getD i Tr.d) < sizT t := by
  have h1 := sizTs_take h
  have h2 := sizTs_take_le t.kids (i + 1)
  rw [sizT_eq t]
  omega
def FitT (t : Tr) : Prop := sizT t ≤ 1048576
theorem FitT.kid {t : Tr} (h : FitT t) {i : Nat} (hi : i < t.kids.length) : FitT (t.kids.getD i Tr.d) := by
  have := kid_lt hi
  unfold FitT at h ⊢
  omega
theorem FitT.len {t : Tr} (h : FitT t) : t.kids.length ≤ 1048576 := by
  have := kids_len t.kids
  unfold FitT at h
  rw [sizT_eq] at h
  omega
theorem F131n_ret : ∀ (n : Nat) (t : Tr), sizT t ≤ n → FitT t → ∀ k, n ≤ k → F131n k t = some ((sizT t : Int), (levT t : Int))
  | 0, t, h, _, k, _ => by have := sizT_pos t; omega
  | n + 1, t, h, hf, 0, hk => by omega
  | n + 1, t, h, hf, k + 1, hk => by
    show G131 (F131n k) t = _
    refine Ret.eq ?_
    have hlen := hf.len
    have hft := hf
    unfold FitT at hft
    have hle := levT_le t
    unfold G131 L131_3
    simp (disch := omega) only [Ret_some, Ret_none, Ret_bind, Ret_asrt, Ret_cond, Sum.elim_inl, Sum.elim_inr, decide_eq_true_eq, decide_eq_false_iff_not, Bool.not_eq_true', Bool.not_not, Bool.and_eq_true, Bool.or_eq_true, Bool.true_eq_false, Bool.false_eq_true, Bool.not_true, Bool.not_false, if_true, if_false, ite_true, ite_false, true_and, and_true, false_and, and_false, Int.toNat_natCast, toN_succ, Int.ofNat_eq_natCast, Int.ofNat_toNat, Nat.zero_add, Nat.add_zero, not_true_eq_false, not_false_eq_true, implies_true, wr64]
    refine Ret.loop t.kids.length (fun i s => s.2.2 = (i : Int) ∧ s.1 = ((sizTs (t.kids.take i) + 1 : Nat) : Int) ∧ s.2.1 = ((levTs (t.kids.take i) : Nat) : Int)) ⟨rfl, rfl, rfl⟩ ?_ ?_
    · rintro i ⟨a, b, c⟩ hi ⟨h1, h2, h3⟩
      simp only at h1 h2 h3
      subst h1 h2 h3
      have hk' := kid_lt hi
      have hn := sizTs_take hi
      have hl := levTs_take hi
      have hle2 := sizTs_take_le t.kids (i + 1)
      rw [sizT_eq t] at hft
      unfold B131_3
      simp (disch := omega) only [Ret_some, Ret_none, Ret_bind, Ret_asrt, Ret_cond, Sum.elim_inl, Sum.elim_inr, decide_eq_true_eq, decide_eq_false_iff_not, Bool.not_eq_true', Bool.not_not, Bool.and_eq_true, Bool.or_eq_true, Bool.true_eq_false, Bool.false_eq_true, Bool.not_true, Bool.not_false, if_true, if_false, ite_true, ite_false, true_and, and_true, false_and, and_false, Int.toNat_natCast, toN_succ, Int.ofNat_eq_natCast, Int.ofNat_toNat, Nat.zero_add, Nat.add_zero, not_true_eq_false, not_false_eq_true, implies_true, wr64, F131n_ret n (t.kids.getD i Tr.d) (by omega) (hf.kid hi) k (by omega)]
      rw [if_pos (by omega)]
      refine ⟨by omega, by omega, by omega, by omega⟩
    · rintro ⟨a, b, c⟩ ⟨h1, h2, h3⟩
      simp only at h1 h2 h3
      subst h1 h2 h3
      unfold B131_3
      simp (disch := omega) only [Ret_some, Ret_none, Ret_bind, Ret_asrt, Ret_cond, Sum.elim_inl, Sum.elim_inr, decide_eq_true_eq, decide_eq_false_iff_not, Bool.not_eq_true', Bool.not_not, Bool.and_eq_true, Bool.or_eq_true, Bool.true_eq_false, Bool.false_eq_true, Bool.not_true, Bool.not_false, if_true, if_false, ite_true, ite_false, true_and, and_true, false_and, and_false, Int.toNat_natCast, toN_succ, Int.ofNat_eq_natCast, Int.ofNat_toNat, Nat.zero_add, Nat.add_zero, not_true_eq_false, not_false_eq_true, implies_true, wr64]
      rw [if_neg (by omega), List.take_length]
      rw [sizT_eq] at hle
      rw [levT_eq] at hle
      rw [sizT_eq] at hft
      rw [sizT_eq, levT_eq]
      rw [wr64 (by omega) (by omega)]
      rfl
theorem F131_ret (t : Tr) (h : FitT t) : F131 t = some ((sizT t : Int), (levT t : Int)) := by
  unfold F131
  exact evF_of (sizT t) fun k hk => F131n_ret (sizT t) t (Nat.le_refl _) h k hk
def shpOk (t : Tr) (left : Int) (o : Int × Int) : Prop := if (sizT t : Int) ≤ left then o = ((levT t : Int), left - sizT t) else o.2 < 0
theorem F85n_ret : ∀ (n : Nat) (t : Tr), sizT t ≤ n → FitT t → ∀ k, n ≤ k → ∀ left : Int, 0 ≤ left → left ≤ 40 → Ret (F85n k t left) (shpOk t left)
  | 0, t, h, _, k, _, _, _, _ => by have := sizT_pos t; omega
  | n + 1, t, h, hf, 0, hk, _, _, _ => by omega
  | n + 1, t, h, hf, k + 1, hk, left, h0, h40 => by
    show Ret (G85 (F85n k) t left) _
    have hlen := hf.len
    have hpos := sizT_pos t
    have hft := hf
    unfold FitT at hft
    have hle := levT_le t
    unfold G85
    simp (disch := omega) only [Ret_some, Ret_none, Ret_bind, Ret_asrt, Ret_cond, Sum.elim_inl, Sum.elim_inr, decide_eq_true_eq, decide_eq_false_iff_not, Bool.not_eq_true', Bool.not_not, Bool.and_eq_true, Bool.or_eq_true, Bool.true_eq_false, Bool.false_eq_true, Bool.not_true, Bool.not_false, if_true, if_false, ite_true, ite_false, true_and, and_true, false_and, and_false, Int.toNat_natCast, toN_succ, Int.ofNat_eq_natCast, Int.ofNat_toNat, Nat.zero_add, Nat.add_zero, not_true_eq_false, not_false_eq_true, implies_true, wr64]
    split
    · unfold shpOk; rw [if_neg (by omega)]; assumption
    unfold L85_5
    refine Ret.loop t.kids.length (fun i s => s.2.1 = (i : Int) ∧ s.2.2 = left - 1 - (sizTs (t.kids.take i) : Int) ∧ 0 ≤ s.2.2 ∧ s.1 = ((levTs (t.kids.take i) : Nat) : Int)) ?_ ?_ ?_
    · exact ⟨rfl, by simp [sizTs], show (0 : Int) ≤ left - 1 by omega, rfl⟩
    · rintro i ⟨a, b, c⟩ hi ⟨h1, h2, h2', h3⟩
      simp only at h1 h2 h2' h3
      subst h1 h2 h3
      have hk' := kid_lt hi
      have hn := sizTs_take hi
      have hl := levTs_take hi
      have hle2 := sizTs_take_le t.kids (i + 1)
      have hlk := levT_le (t.kids.getD i Tr.d)
      unfold B85_5
      simp (disch := omega) only [Ret_some, Ret_none, Ret_bind, Ret_asrt, Ret_cond, Sum.elim_inl, Sum.elim_inr, decide_eq_true_eq, decide_eq_false_iff_not, Bool.not_eq_true', Bool.not_not, Bool.and_eq_true, Bool.or_eq_true, Bool.true_eq_false, Bool.false_eq_true, Bool.not_true, Bool.not_false, if_true, if_false, ite_true, ite_false, true_and, and_true, false_and, and_false, Int.toNat_natCast, toN_succ, Int.ofNat_eq_natCast, Int.ofNat_toNat, Nat.zero_add, Nat.add_zero, not_true_eq_false, not_false_eq_true, implies_true, wr64]
      rw [if_pos (by omega)]
      refine ⟨by omega, ?_⟩
      refine (F85n_ret n (t.kids.getD i Tr.d) (by omega) (hf.kid hi) k (by omega) _ h2' (by omega)).mono ?_
      rintro ⟨lv, lf⟩ ho
      unfold shpOk at ho
      simp only at ho
      have e := sizT_eq t
      have e' := levT_eq t
      simp (disch := omega) only [Ret_some, Ret_none, Ret_bind, Ret_asrt, Ret_cond, Sum.elim_inl, Sum.elim_inr, decide_eq_true_eq, decide_eq_false_iff_not, Bool.not_eq_true', Bool.not_not, Bool.and_eq_true, Bool.or_eq_true, Bool.true_eq_false, Bool.false_eq_true, Bool.not_true, Bool.not_false, if_true, if_false, ite_true, ite_false, true_and, and_true, false_and, and_false, Int.toNat_natCast, toN_succ, Int.ofNat_eq_natCast, Int.ofNat_toNat, Nat.zero_add, Nat.add_zero, not_true_eq_false, not_false_eq_true, implies_true, wr64]
      split at ho
      · simp only [Prod.mk.injEq] at ho
        obtain ⟨rfl, rfl⟩ := ho
        rw [if_neg (by omega)]
        refine ⟨by omega, by omega, by omega, by omega⟩
      · rw [if_pos ho]
        unfold shpOk
        rw [if_neg (by omega)]
        exact ho
    · rintro ⟨a, b, c⟩ ⟨h1, h2, h2', h3⟩
      simp only at h1 h2 h2' h3
      subst h1 h2 h3
      unfold B85_5
      simp (disch := omega) only [Ret_some, Ret_none, Ret_bind, Ret_asrt, Ret_cond, Sum.elim_inl, Sum.elim_inr, decide_eq_true_eq, decide_eq_false_iff_not, Bool.not_eq_true', Bool.not_not, Bool.and_eq_true, Bool.or_eq_true, Bool.true_eq_false, Bool.false_eq_true, Bool.not_true, Bool.not_false, if_true, if_false, ite_true, ite_false, true_and, and_true, false_and, and_false, Int.toNat_natCast, toN_succ, Int.ofNat_eq_natCast, Int.ofNat_toNat, Nat.zero_add, Nat.add_zero, not_true_eq_false, not_false_eq_true, implies_true, wr64]
      have e := sizT_eq t
      have e' := levT_eq t
      rw [List.take_length] at h2' ⊢
      rw [if_neg (by omega)]
      unfold shpOk
      rw [if_pos (by omega), wr64 (by omega) (by omega)]
      simp only [Prod.mk.injEq]
      omega
theorem Ret.bif {α : Type} {c : Bool} {x y : Option α} (h1 : Ret x fun _ => True) (h2 : Ret y fun _ => True) : Ret (bif c then x else y) fun _ => True := by cases c <;> assumption
theorem Ret.bnd {α β : Type} {a : Option β} {f : β → Option α} (h1 : Ret a fun _ => True) (h2 : ∀ x, Ret (f x) fun _ => True) : Ret (a.bind f) fun _ => True := Ret_bind.2 (h1.mono fun x _ => h2 x)
theorem Ret.elim {α X Y : Type} {f : X → Option α} {g : Y → Option α} {x : X ⊕ Y} (h1 : ∀ p, Ret (f p) fun _ => True) (h2 : ∀ p, Ret (g p) fun _ => True) : Ret (Sum.elim f g x) fun _ => True := by
  cases x with
  | inl p => exact h1 p
  | inr p => exact h2 p
theorem Ret.some {α : Type} {x : α} : Ret (some x) fun _ => True := ⟨x, rfl, trivial⟩
theorem evF_unif {α : Type} {f : Nat → Option α} (n : Nat) (h : ∀ k, n ≤ k → f k = f n) : evF f = f n := by
  cases e : f n with
  | some r => exact evF_of n fun k hk => by rw [h k hk, e]
  | none =>
    unfold evF
    rw [dif_neg]
    rintro ⟨r, k0, hk⟩
    have h1 := hk (max k0 n) (by omega)
    rw [h (max k0 n) (by omega), e] at h1
    cases h1
theorem G85_congr {rec rec' : Tr → Int → Option (Int × Int)} {t : Tr} (h : ∀ i, i < t.kids.length → rec (t.kids.getD i Tr.d) = rec' (t.kids.getD i Tr.d)) : G85 rec t = G85 rec' t := by
  have hl : L85_5 t rec = L85_5 t rec' := by
    funext s
    unfold L85_5
    refine loopW_congr (fun s => ?_) s
    unfold B85_5
    by_cases c : 0 ≤ s.2.1 ∧ s.2.1 < (t.kids.length : Int)
    · rw [h s.2.1.toNat (by omega)]
    · simp only [asrt, if_neg c]
  unfold G85
  rw [hl]
theorem F85n_unif : ∀ (n : Nat) (t : Tr), sizT t ≤ n → ∀ k, n ≤ k → F85n k t = F85n n t
  | 0, t, h, _, _ => by have := sizT_pos t; omega
  | n + 1, t, h, 0, hk => by omega
  | n + 1, t, h, k + 1, hk => by
    show G85 (F85n k) t = G85 (F85n n) t
    exact G85_congr fun i hi => F85n_unif n _ (by have := kid_lt hi; omega) k (by omega)
theorem F85_ret (t : Tr) (h : FitT t) : Ret (F85 t 40) (shpOk t 40) := by
  unfold F85
  rw [evF_unif (sizT t) fun k hk => by rw [F85n_unif (sizT t) t (Nat.le_refl _) k hk]]
  exact F85n_ret (sizT t) t (Nat.le_refl _) h _ (Nat.le_refl _) 40 (by omega) (by omega)
/-! ### the inner check -/
theorem L132_eq : L132_11 = L86_20 := rfl
theorem F159_eq : F159 = F140 := rfl
theorem G132_eq : G132 = G86 := by
  funext rec t
  unfold G132 G86
  rw [L132_eq, F159_eq]
  simp only [F79_eq, F81_eq]
  generalize L86_20 t rec 0 = M
  generalize List.getD t.ns 0 0 = K
  generalize List.getD t.ns (0 + 1) 0 = A
  generalize List.getD t.ns (0 + 1 + 1) 0 = B
  generalize (t.kids.length : Int) = L
  by_cases hK : 0 ≤ K ∧ K ≤ 11
  · have hK' : K = 0 ∨ K = 1 ∨ K = 2 ∨ K = 3 ∨ K = 4 ∨ K = 5 ∨ K = 6 ∨ K = 7 ∨ K = 8 ∨ K = 9 ∨ K = 10 ∨ K = 11 := by omega
    by_cases hA : 0 ≤ A ∧ A ≤ 28800
    · by_cases hB : 0 ≤ B ∧ B ≤ 28800
      · rcases hK' with rfl | rfl | rfl | rfl | rfl | rfl | rfl | rfl | rfl | rfl | rfl | rfl <;> simp [F140, hA, hB] <;> by_cases a1 : A = 0 <;> by_cases b1 : B = 0 <;> by_cases ab : B < A <;> by_cases b0 : B < 0 <;> by_cases a0 : 0 < A <;> by_cases l0 : 0 < L <;> by_cases l1 : L = 1 <;> by_cases l2 : L < 2 <;> simp [a1, b1, ab, b0, a0, l0, l1, l2] <;> omega
      · rcases hK' with rfl | rfl | rfl | rfl | rfl | rfl | rfl | rfl | rfl | rfl | rfl | rfl <;> simp [F140, hA, hB]
    · rcases hK' with rfl | rfl | rfl | rfl | rfl | rfl | rfl | rfl | rfl | rfl | rfl | rfl <;> simp [F140, hA]
  · have h1 : ∃ r, F140 K = some r := by
      unfold F140
      by_cases c2 : K = 2 <;> by_cases c3 : K = 3 <;> by_cases c4 : K = 4 <;> by_cases c5 : K = 5 <;> by_cases c6 : K = 6 <;> by_cases c7 : K = 7 <;> by_cases c8 : K = 8 <;> simp [c2, c3, c4, c5, c6, c7, c8]
    obtain ⟨r, h1⟩ := h1
    simp [h1, hK]
theorem F132n_eq : ∀ k, F132n k = F86n k
  | 0 => rfl
  | k + 1 => by show G132 (F132n k) = G86 (F86n k); rw [F132n_eq k, G132_eq]
theorem F132_eq : F132 = F86 := by
  funext t
  unfold F132 F86
  simp only [F132n_eq]
theorem F80_eq (t : Tr) (h : FitT t) : F80 t = F27 t := by
  unfold F80 F27
  rw [F131_ret t h, F132_eq]
  obtain ⟨o, ho, hs⟩ := F85_ret t h
  rw [ho]
  simp only [Option.bind_some]
  unfold shpOk at hs
  split at hs
  · subst hs
    simp only [show decide ((40 : Int) < (sizT t : Int)) = false from decide_eq_false (by omega), show decide ((40 : Int) - (sizT t : Int) < 0) = false from decide_eq_false (by omega)]
  · simp only [show decide ((40 : Int) < (sizT t : Int)) = true from decide_eq_true (by omega), show decide (o.2 < 0) = true from decide_eq_true hs, cond_true]
theorem F86n_ret : ∀ (n : Nat) (t : Tr), sizT t ≤ n → FitT t → ∀ k, n ≤ k → Ret (F86n k t) fun _ => True
  | 0, t, h, _, _, _ => by have := sizT_pos t; omega
  | n + 1, t, h, hf, 0, hk => by omega
  | n + 1, t, h, hf, k + 1, hk => by
    show Ret (G86 (F86n k) t) _
    have hL : Ret (L86_20 t (F86n k) 0) fun _ => True := by
      have hlen := hf.len
      unfold L86_20
      refine Ret.loop t.kids.length (fun i s => s = (i : Int)) rfl ?_ ?_
      · rintro i s hi rfl
        unfold B86_20
        simp (disch := omega) only [Ret_some, Ret_none, Ret_bind, Ret_asrt, Ret_cond, Sum.elim_inl, Sum.elim_inr, decide_eq_true_eq, decide_eq_false_iff_not, Bool.not_eq_true', Bool.not_not, Bool.and_eq_true, Bool.or_eq_true, Bool.true_eq_false, Bool.false_eq_true, Bool.not_true, Bool.not_false, if_true, if_false, ite_true, ite_false, true_and, and_true, false_and, and_false, Int.toNat_natCast, toN_succ, Int.ofNat_eq_natCast, Int.ofNat_toNat, Nat.zero_add, Nat.add_zero, not_true_eq_false, not_false_eq_true, implies_true, wr64]
        rw [if_pos (by omega)]
        refine ⟨by omega, ?_⟩
        refine (F86n_ret n (t.kids.getD i Tr.d) (by have := kid_lt hi; omega) (hf.kid hi) k (by omega)).mono fun r _ => ?_
        split
        · trivial
        · omega
      · rintro s rfl
        unfold B86_20
        simp (disch := omega) only [Ret_some, Ret_none, Ret_bind, Ret_asrt, Ret_cond, Sum.elim_inl, Sum.elim_inr, decide_eq_true_eq, decide_eq_false_iff_not, Bool.not_eq_true', Bool.not_not, Bool.and_eq_true, Bool.or_eq_true, Bool.true_eq_false, Bool.false_eq_true, Bool.not_true, Bool.not_false, if_true, if_false, ite_true, ite_false, true_and, and_true, false_and, and_false, Int.toNat_natCast, toN_succ, Int.ofNat_eq_natCast, Int.ofNat_toNat, Nat.zero_add, Nat.add_zero, not_true_eq_false, not_false_eq_true, implies_true, wr64]
        rw [if_neg (by omega)]
        trivial
    have h140 : ∀ K, Ret (F140 K) fun _ => True := by
      intro K
      unfold F140
      simp (disch := omega) only [Ret_some, Ret_none, Ret_bind, Ret_asrt, Ret_cond, Sum.elim_inl, Sum.elim_inr, decide_eq_true_eq, decide_eq_false_iff_not, Bool.not_eq_true', Bool.not_not, Bool.and_eq_true, Bool.or_eq_true, Bool.true_eq_false, Bool.false_eq_true, Bool.not_true, Bool.not_false, if_true, if_false, ite_true, ite_false, true_and, and_true, false_and, and_false, Int.toNat_natCast, toN_succ, Int.ofNat_eq_natCast, Int.ofNat_toNat, Nat.zero_add, Nat.add_zero, not_true_eq_false, not_false_eq_true, implies_true, wr64]
      repeat' (first | trivial | omega | split | (refine ⟨?_, ?_⟩))
    obtain ⟨m, hm, _⟩ := hL
    unfold G86
    simp only [hm, F81_eq]
    have hm' : Ret ((some m).bind (Sum.elim (fun (p_3 : Unit) ↦ some (0 : Int)) fun (r_10 : Int) ↦ some r_10)) fun _ => True := by
      cases m <;> exact ⟨_, rfl, trivial⟩
    obtain ⟨r, hr, _⟩ := h140 (List.getD t.ns 0 0)
    rw [hr]
    obtain ⟨m', hm', _⟩ := hm'
    simp only [hm', Option.bind_some]
    repeat' (first | exact Ret.some | (refine Ret.bif ?_ ?_) | (refine Ret.bnd ?_ fun _ => ?_) | (refine Ret.elim (fun _ => ?_) fun _ => ?_) | assumption | solve_by_elim)
theorem G86_congr {rec rec' : Tr → Option Int} {t : Tr} (h : ∀ i, i < t.kids.length → rec (t.kids.getD i Tr.d) = rec' (t.kids.getD i Tr.d)) : G86 rec t = G86 rec' t := by
  have hl : L86_20 t rec = L86_20 t rec' := by
    funext s
    unfold L86_20
    refine loopW_congr (fun s => ?_) s
    unfold B86_20
    by_cases c : 0 ≤ s ∧ s < (t.kids.length : Int)
    · rw [h s.toNat (by omega)]
    · simp only [asrt, if_neg c]
  unfold G86
  rw [hl]
theorem F86n_unif : ∀ (n : Nat) (t : Tr), sizT t ≤ n → ∀ k, n ≤ k → F86n k t = F86n n t
  | 0, t, h, _, _ => by have := sizT_pos t; omega
  | n + 1, t, h, 0, hk => by omega
  | n + 1, t, h, k + 1, hk => by
    show G86 (F86n k) t = G86 (F86n n) t
    exact G86_congr fun i hi => F86n_unif n _ (by have := kid_lt hi; omega) k (by omega)
theorem F86_ret (t : Tr) (h : FitT t) : Ret (F86 t) fun _ => True := by
  unfold F86
  rw [evF_unif (sizT t) fun k hk => F86n_unif (sizT t) t (Nat.le_refl _) k hk]
  exact F86n_ret (sizT t) t (Nat.le_refl _) h _ (Nat.le_refl _)
theorem F27_ret (t : Tr) (h : FitT t) : Ret (F27 t) fun _ => True := by
  obtain ⟨o, ho, _⟩ := F85_ret t h
  obtain ⟨r, hr, _⟩ := F86_ret t h
  unfold F27
  rw [ho]
  simp only [hr]
  simp (disch := omega) only [Ret_some, Ret_none, Ret_bind, Ret_asrt, Ret_cond, Sum.elim_inl, Sum.elim_inr, decide_eq_true_eq, decide_eq_false_iff_not, Bool.not_eq_true', Bool.not_not, Bool.and_eq_true, Bool.or_eq_true, Bool.true_eq_false, Bool.false_eq_true, Bool.not_true, Bool.not_false, if_true, if_false, ite_true, ite_false, true_and, and_true, false_and, and_false, Int.toNat_natCast, toN_succ, Int.ofNat_eq_natCast, Int.ofNat_toNat, Nat.zero_add, Nat.add_zero, not_true_eq_false, not_false_eq_true, implies_true, wr64]
  repeat' (first | trivial | omega | split | (refine ⟨?_, ?_⟩))
/-! ### the law -/
theorem getD_fit {l : List TRule} (h : ∀ x ∈ l, FitT x.if0) (i : Nat) (hi : i < l.length) : FitT (l.getD i TRule.d).if0 := h _ (getD_mem hi)
theorem L19_4_eq (a0 : TTariff) : L19_4 a0 = L20_4 a0 := by
  funext s
  unfold L19_4 L20_4
  exact loopW_congr (fun s => by unfold B19_4 B20_4; simp only [F79_eq, F81_eq]) s
theorem B19_14_eq (a0 : TTariff) (h : ∀ x ∈ a0.rules, FitT x.if0) (s : Int) : B19_14 a0 s = B20_14 a0 s := by
  unfold B19_14 B20_14
  by_cases c : 0 ≤ s ∧ s < (a0.rules.length : Int)
  · rw [F80_eq _ (getD_fit h s.toNat (by omega))]
    simp only [F79_eq, F81_eq, Option.bind_some]
    generalize F27 _ = M
    generalize (a0.rules.getD s.toNat TRule.d).do0 = K
    generalize (a0.rules.getD s.toNat TRule.d).n = N
    cases M with
    | none => rfl
    | some m =>
      simp only [Option.bind_some]
      by_cases k : K = 1
      · subst k; simp
      · simp [k]
  · simp only [asrt, if_neg c]
theorem L19_14_eq (a0 : TTariff) (h : ∀ x ∈ a0.rules, FitT x.if0) : L19_14 a0 = L20_14 a0 := by
  funext s
  unfold L19_14 L20_14
  exact loopW_congr (B19_14_eq a0 h) s
theorem F19_eq (a0 : TTariff) (h : ∀ x ∈ a0.rules, FitT x.if0) : F19 a0 = F20 a0 := by
  unfold F19 F20
  simp only [L19_4_eq, L19_14_eq a0 h, F79_eq, F81_eq]
theorem F20_ret (a0 : TTariff) (h : ∀ x ∈ a0.rules, FitT x.if0) (hb : Fit a0.bands) (hr : Fit a0.rules) : Ret (F20 a0) fun _ => True := by
  unfold Fit at hb hr
  have h1 : Ret (L20_4 a0 0) fun _ => True := by
    unfold L20_4
    refine Ret.loop a0.bands.length (fun i s => s = (i : Int)) rfl ?_ ?_
    · rintro i s hi rfl
      unfold B20_4
      simp (disch := omega) only [Ret_some, Ret_none, Ret_bind, Ret_asrt, Ret_cond, Sum.elim_inl, Sum.elim_inr, decide_eq_true_eq, decide_eq_false_iff_not, Bool.not_eq_true', Bool.not_not, Bool.and_eq_true, Bool.or_eq_true, Bool.true_eq_false, Bool.false_eq_true, Bool.not_true, Bool.not_false, if_true, if_false, ite_true, ite_false, true_and, and_true, false_and, and_false, Int.toNat_natCast, toN_succ, Int.ofNat_eq_natCast, Int.ofNat_toNat, Nat.zero_add, Nat.add_zero, not_true_eq_false, not_false_eq_true, implies_true, wr64, F81_eq]
      rw [if_pos (by omega)]
      refine ⟨by omega, ?_⟩
      repeat' (first | trivial | omega | split | (refine ⟨?_, ?_⟩))
    · rintro s rfl
      unfold B20_4
      simp (disch := omega) only [Ret_some, Ret_none, Ret_bind, Ret_asrt, Ret_cond, Sum.elim_inl, Sum.elim_inr, decide_eq_true_eq, decide_eq_false_iff_not, Bool.not_eq_true', Bool.not_not, Bool.and_eq_true, Bool.or_eq_true, Bool.true_eq_false, Bool.false_eq_true, Bool.not_true, Bool.not_false, if_true, if_false, ite_true, ite_false, true_and, and_true, false_and, and_false, Int.toNat_natCast, toN_succ, Int.ofNat_eq_natCast, Int.ofNat_toNat, Nat.zero_add, Nat.add_zero, not_true_eq_false, not_false_eq_true, implies_true, wr64]
      rw [if_neg (by omega)]
      trivial
  have h2 : Ret (L20_14 a0 0) fun _ => True := by
    unfold L20_14
    refine Ret.loop a0.rules.length (fun i s => s = (i : Int)) rfl ?_ ?_
    · rintro i s hi rfl
      unfold B20_14
      obtain ⟨m, hm, _⟩ := F27_ret _ (getD_fit h i hi)
      simp (disch := omega) only [Ret_some, Ret_none, Ret_bind, Ret_asrt, Ret_cond, Sum.elim_inl, Sum.elim_inr, decide_eq_true_eq, decide_eq_false_iff_not, Bool.not_eq_true', Bool.not_not, Bool.and_eq_true, Bool.or_eq_true, Bool.true_eq_false, Bool.false_eq_true, Bool.not_true, Bool.not_false, if_true, if_false, ite_true, ite_false, true_and, and_true, false_and, and_false, Int.toNat_natCast, toN_succ, Int.ofNat_eq_natCast, Int.ofNat_toNat, Nat.zero_add, Nat.add_zero, not_true_eq_false, not_false_eq_true, implies_true, wr64, F81_eq, hm]
      rw [if_pos (by omega)]
      refine ⟨by omega, ?_⟩
      repeat' (first | trivial | omega | split | (refine ⟨?_, ?_⟩))
    · rintro s rfl
      unfold B20_14
      simp (disch := omega) only [Ret_some, Ret_none, Ret_bind, Ret_asrt, Ret_cond, Sum.elim_inl, Sum.elim_inr, decide_eq_true_eq, decide_eq_false_iff_not, Bool.not_eq_true', Bool.not_not, Bool.and_eq_true, Bool.or_eq_true, Bool.true_eq_false, Bool.false_eq_true, Bool.not_true, Bool.not_false, if_true, if_false, ite_true, ite_false, true_and, and_true, false_and, and_false, Int.toNat_natCast, toN_succ, Int.ofNat_eq_natCast, Int.ofNat_toNat, Nat.zero_add, Nat.add_zero, not_true_eq_false, not_false_eq_true, implies_true, wr64]
      rw [if_neg (by omega)]
      trivial
  obtain ⟨m1, e1, _⟩ := h1
  obtain ⟨m2, e2, _⟩ := h2
  unfold F20
  simp only [F81_eq, Option.bind_some, e1, e2]
  repeat' (first | exact Ret.some | (refine Ret.bif ?_ ?_) | (refine Ret.bnd ?_ fun _ => ?_) | (refine Ret.elim (fun _ => ?_) fun _ => ?_) | assumption | solve_by_elim)
theorem L82_eq (a0 : TTrip) : L82_2 a0.zones false = L22_6 a0 := by
  funext s
  unfold L82_2 L22_6
  refine loopW_congr (fun s => ?_) s
  unfold B82_2 B22_6
  simp only [F79_eq, F81_eq, cond_false]
theorem F21_eq (a0 : TTrip) : F21 a0 = F22 a0 := by
  unfold F21 F22 F82
  simp only [L82_eq, F79_eq, F81_eq]
  cases L22_6 a0 0 with
  | none => rfl
  | some x => cases x <;> rfl
theorem F22_ret (a0 : TTrip) (hz : Fit a0.zones) : Ret (F22 a0) fun _ => True := by
  unfold Fit at hz
  have h1 : Ret (L22_6 a0 0) fun _ => True := by
    unfold L22_6
    refine Ret.loop a0.zones.length (fun i s => s = (i : Int)) rfl ?_ ?_
    · rintro i s hi rfl
      unfold B22_6
      simp (disch := omega) only [Ret_some, Ret_none, Ret_bind, Ret_asrt, Ret_cond, Sum.elim_inl, Sum.elim_inr, decide_eq_true_eq, decide_eq_false_iff_not, Bool.not_eq_true', Bool.not_not, Bool.and_eq_true, Bool.or_eq_true, Bool.true_eq_false, Bool.false_eq_true, Bool.not_true, Bool.not_false, if_true, if_false, ite_true, ite_false, true_and, and_true, false_and, and_false, Int.toNat_natCast, toN_succ, Int.ofNat_eq_natCast, Int.ofNat_toNat, Nat.zero_add, Nat.add_zero, not_true_eq_false, not_false_eq_true, implies_true, wr64, F81_eq]
      rw [if_pos (by omega)]
      refine ⟨by omega, ?_⟩
      repeat' (first | trivial | omega | split | (refine ⟨?_, ?_⟩))
    · rintro s rfl
      unfold B22_6
      simp (disch := omega) only [Ret_some, Ret_none, Ret_bind, Ret_asrt, Ret_cond, Sum.elim_inl, Sum.elim_inr, decide_eq_true_eq, decide_eq_false_iff_not, Bool.not_eq_true', Bool.not_not, Bool.and_eq_true, Bool.or_eq_true, Bool.true_eq_false, Bool.false_eq_true, Bool.not_true, Bool.not_false, if_true, if_false, ite_true, ite_false, true_and, and_true, false_and, and_false, Int.toNat_natCast, toN_succ, Int.ofNat_eq_natCast, Int.ofNat_toNat, Nat.zero_add, Nat.add_zero, not_true_eq_false, not_false_eq_true, implies_true, wr64]
      rw [if_neg (by omega)]
      trivial
  obtain ⟨m1, e1, _⟩ := h1
  unfold F22
  simp only [F81_eq, Option.bind_some, e1]
  repeat' (first | exact Ret.some | (refine Ret.bif ?_ ?_) | (refine Ret.bnd ?_ fun _ => ?_) | (refine Ret.elim (fun _ => ?_) fun _ => ?_) | assumption | solve_by_elim)
theorem F22_inv {a0 : TTrip} (h : F22 a0 = some 0) : (0 ≤ a0.km ∧ a0.km ≤ 1000) ∧ 1 ≤ a0.zones.length ∧ a0.zones.length ≤ 10 := by
  unfold F22 at h
  simp only [F81_eq, Option.bind_some] at h
  by_cases c1 : 0 ≤ a0.day ∧ a0.day ≤ 6 <;> by_cases c2 : 0 ≤ a0.at0 ∧ a0.at0 ≤ 28800 <;> by_cases c3 : 0 ≤ a0.km ∧ a0.km ≤ 1000 <;> by_cases c4 : 0 ≤ a0.age ∧ a0.age ≤ 120 <;> by_cases c5 : 1 ≤ (a0.zones.length : Int) ∧ (a0.zones.length : Int) ≤ 10 <;> simp [c1, c2, c3, c4, c5] at h
  refine ⟨c3, by omega, by omega⟩
/-! ### which trees hold -/
abbrev kd (t : Tr) : Int := List.getD t.ns 0 0
abbrev nk (t : Tr) : Tr := Tr.mk [List.getD (Tr.ns (List.getD (Tr.kids t) (Int.toNat 0) Tr.d)) 0 0, List.getD (Tr.ns (List.getD (Tr.kids t) 0 Tr.d)) 1 0, List.getD (Tr.ns (List.getD (Tr.kids t) 0 Tr.d)) 2 0] (Tr.kids (List.getD (Tr.kids t) 0 Tr.d))
def VT : Nat → Tr → Prop
  | 0, _ => True
  | n + 1, t => (kd t = 9 → t.kids.length = 1) ∧ ∀ i, i < t.kids.length → VT n (t.kids.getD i Tr.d)
theorem VT_nk {n : Nat} {t : Tr} (h : VT (n + 1) t) (h9 : kd t = 9) : VT n (nk t) := by
  have h1 := h.1 h9
  have h2 := h.2 0 (by omega)
  cases n with
  | zero => trivial
  | succ n => exact h2
theorem sizT_nk {t : Tr} (h : 0 < t.kids.length) : sizT (nk t) < sizT t := by
  have := kid_lt h
  rw [sizT_eq] at this ⊢
  exact this
theorem L86_ret {rec : Tr → Option Int} {t : Tr} (hl : t.kids.length ≤ 1048576) (h : ∀ i, i < t.kids.length → Ret (rec (t.kids.getD i Tr.d)) fun _ => True) :
    Ret (L86_20 t rec 0) fun x => match x with | .inl _ => ∀ i, i < t.kids.length → rec (t.kids.getD i Tr.d) = some 0 | .inr r => r ≠ 0 := by
  unfold L86_20
  refine Ret.loop t.kids.length (fun i s => s = (i : Int) ∧ ∀ j, j < i → rec (t.kids.getD j Tr.d) = some 0) ⟨rfl, fun j hj => by omega⟩ ?_ ?_
  · rintro i s hi ⟨rfl, hs⟩
    obtain ⟨r, hr, _⟩ := h i hi
    unfold B86_20
    simp (disch := omega) only [Ret_some, Ret_none, Ret_bind, Ret_asrt, Ret_cond, Sum.elim_inl, Sum.elim_inr, decide_eq_true_eq, decide_eq_false_iff_not, Bool.not_eq_true', Bool.not_not, Bool.and_eq_true, Bool.or_eq_true, Bool.true_eq_false, Bool.false_eq_true, Bool.not_true, Bool.not_false, if_true, if_false, ite_true, ite_false, true_and, and_true, false_and, and_false, Int.toNat_natCast, toN_succ, Int.ofNat_eq_natCast, Int.ofNat_toNat, Nat.zero_add, Nat.add_zero, not_true_eq_false, not_false_eq_true, implies_true, wr64, hr]
    rw [if_pos (by omega)]
    refine ⟨by omega, ?_⟩
    split
    · rename_i h0; exact h0
    · rename_i h0
      have h0 : r = 0 := by simpa using h0
      subst h0
      refine ⟨by omega, forall_lt_succ.2 ⟨hs, hr⟩⟩
  · rintro s ⟨rfl, hs⟩
    unfold B86_20
    simp (disch := omega) only [Ret_some, Ret_none, Ret_bind, Ret_asrt, Ret_cond, Sum.elim_inl, Sum.elim_inr, decide_eq_true_eq, decide_eq_false_iff_not, Bool.not_eq_true', Bool.not_not, Bool.and_eq_true, Bool.or_eq_true, Bool.true_eq_false, Bool.false_eq_true, Bool.not_true, Bool.not_false, if_true, if_false, ite_true, ite_false, true_and, and_true, false_and, and_false, Int.toNat_natCast, toN_succ, Int.ofNat_eq_natCast, Int.ofNat_toNat, Nat.zero_add, Nat.add_zero, not_true_eq_false, not_false_eq_true, implies_true, wr64]
    rw [if_neg (by omega)]
    exact hs
set_option maxHeartbeats 4000000 in
theorem G86_inv {rec : Tr → Option Int} {t : Tr} (h : G86 rec t = some 0) : (kd t = 9 → t.kids.length = 1) ∧ ∀ x, L86_20 t rec 0 = some x → x = .inl () ∨ x = .inr 0 := by
  unfold G86 at h
  simp only [F81_eq] at h
  revert h
  unfold kd
  generalize L86_20 t rec 0 = M
  generalize List.getD t.ns 0 0 = K
  generalize List.getD t.ns (0 + 1) 0 = A
  generalize List.getD t.ns (0 + 1 + 1) 0 = B
  rw [show (t.kids.length = 1 ↔ (t.kids.length : Int) = 1) by omega]
  generalize (t.kids.length : Int) = L
  by_cases hK : 0 ≤ K ∧ K ≤ 11
  · have hK' : K = 0 ∨ K = 1 ∨ K = 2 ∨ K = 3 ∨ K = 4 ∨ K = 5 ∨ K = 6 ∨ K = 7 ∨ K = 8 ∨ K = 9 ∨ K = 10 ∨ K = 11 := by omega
    by_cases hA : 0 ≤ A ∧ A ≤ 28800
    · by_cases hB : 0 ≤ B ∧ B ≤ 28800
      · rcases M with _ | ⟨_ | r⟩ <;> rcases hK' with rfl | rfl | rfl | rfl | rfl | rfl | rfl | rfl | rfl | rfl | rfl | rfl <;> simp [F140, hA, hB] <;> by_cases a1 : A = 0 <;> by_cases b1 : B = 0 <;> by_cases ab : B < A <;> by_cases b0 : B < 0 <;> by_cases a0 : 0 < A <;> by_cases l0 : 0 < L <;> by_cases l1 : L = 1 <;> by_cases l2 : L < 2 <;> simp [a1, b1, ab, b0, a0, l0, l1, l2] <;> omega
      · rcases hK' with rfl | rfl | rfl | rfl | rfl | rfl | rfl | rfl | rfl | rfl | rfl | rfl <;> simp [F140, hA, hB]
    · rcases hK' with rfl | rfl | rfl | rfl | rfl | rfl | rfl | rfl | rfl | rfl | rfl | rfl <;> simp [F140, hA]
  · simp [hK]
theorem VT_of : ∀ (n : Nat) (t : Tr), sizT t ≤ n → FitT t → ∀ k, n ≤ k → F86n k t = some 0 → VT n t
  | 0, t, h, _, _, _, _ => trivial
  | n + 1, t, h, hf, 0, hk, _ => by omega
  | n + 1, t, h, hf, k + 1, hk, h0 => by
    have hr : ∀ i, i < t.kids.length → Ret (F86n k (t.kids.getD i Tr.d)) fun _ => True := fun i hi => F86n_ret n _ (by have := kid_lt hi; omega) (hf.kid hi) k (by omega)
    obtain ⟨x, hx, hp⟩ := L86_ret hf.len hr
    obtain ⟨h1, h2⟩ := G86_inv (show G86 (F86n k) t = some 0 from h0)
    refine ⟨h1, fun i hi => ?_⟩
    rcases h2 x hx with rfl | rfl
    · exact VT_of n _ (by have := kid_lt hi; omega) (hf.kid hi) k (by omega) (hp i hi)
    · exact absurd rfl hp
theorem VT_F86 {t : Tr} (hf : FitT t) (h : F86 t = some 0) : VT (sizT t) t := by
  unfold F86 at h
  rw [evF_unif (sizT t) fun k hk => F86n_unif (sizT t) t (Nat.le_refl _) k hk] at h
  exact VT_of _ t (Nat.le_refl _) hf _ (Nat.le_refl _) h
theorem F27_inv {t : Tr} (hf : FitT t) (h : F27 t = some 0) : VT (sizT t) t := by
  obtain ⟨o, ho, _⟩ := F85_ret t hf
  obtain ⟨r, hr, _⟩ := F86_ret t hf
  refine VT_F86 hf ?_
  unfold F27 at h
  rw [ho, hr] at h
  rw [hr]
  simp only [Option.bind_some] at h
  by_cases c1 : o.2 < 0
  · simp [c1] at h
  · by_cases c2 : 6 < o.1
    · simp [c1, c2] at h
    · simpa [c1, c2] using h
noncomputable def hld : Nat → Tr → TTrip → Bool
  | 0, _, _ => true
  | n + 1, t, z => if kd t = 9 then !(hld n (nk t) z) else if kd t = 10 then t.kids.all fun x => hld n x z else if kd t = 11 then t.kids.any fun x => hld n x z else (G84 (fun _ _ => none) t z).getD true
theorem all_getD {f : Tr → Bool} {l : List Tr} : l.all f = true ↔ ∀ i, i < l.length → f (l.getD i Tr.d) = true := by
  rw [List.all_eq_true]
  constructor
  · exact fun h i hi => h _ (getD_mem hi)
  · intro h x hx
    obtain ⟨i, hi, rfl⟩ := mem_getD Tr.d hx
    exact h i hi
theorem any_getD {f : Tr → Bool} {l : List Tr} : l.any f = true ↔ ∃ i, i < l.length ∧ f (l.getD i Tr.d) = true := by
  rw [List.any_eq_true]
  constructor
  · rintro ⟨x, hx, h⟩
    obtain ⟨i, hi, rfl⟩ := mem_getD Tr.d hx
    exact ⟨i, hi, h⟩
  · rintro ⟨i, hi, h⟩
    exact ⟨_, getD_mem hi, h⟩
section
variable {rec : Tr → TTrip → Option Bool} {t : Tr} {z : TTrip} {f : Tr → Bool} (hl : t.kids.length ≤ 1048576) (h : ∀ i, i < t.kids.length → rec (t.kids.getD i Tr.d) z = some (f (t.kids.getD i Tr.d)))
include hl h
theorem L28_and : Ret (L28_23 t z rec (0, 0)) fun p => decide (p = (t.kids.length : Int)) = t.kids.all f := by
  unfold L28_23
  have key : Ret (loopW (fun s => B28_23 t z rec s.1 s.2) (0, 0)) fun p => (p = (t.kids.length : Int) ↔ ∀ i, i < t.kids.length → f (t.kids.getD i Tr.d) = true) := by
    refine Ret.loop t.kids.length (fun i s => s.2 = (i : Int) ∧ (0 ≤ s.1 ∧ s.1 ≤ i) ∧ (s.1 = (i : Int) ↔ ∀ j, j < i → f (t.kids.getD j Tr.d) = true)) ⟨rfl, by simp, by simp⟩ ?_ ?_
    · rintro i ⟨a, b⟩ hi ⟨h1, h2, h3⟩
      simp only at h1 h2 h3
      subst h1
      unfold B28_23
      simp (disch := omega) only [Ret_some, Ret_none, Ret_bind, Ret_asrt, Ret_cond, Sum.elim_inl, Sum.elim_inr, decide_eq_true_eq, decide_eq_false_iff_not, Bool.not_eq_true', Bool.not_not, Bool.and_eq_true, Bool.or_eq_true, Bool.true_eq_false, Bool.false_eq_true, Bool.not_true, Bool.not_false, if_true, if_false, ite_true, ite_false, true_and, and_true, false_and, and_false, Int.toNat_natCast, toN_succ, Int.ofNat_eq_natCast, Int.ofNat_toNat, Nat.zero_add, Nat.add_zero, not_true_eq_false, not_false_eq_true, implies_true, wr64, h i hi]
      rw [if_pos (by omega)]
      refine ⟨by omega, ?_⟩
      rw [forall_lt_succ]
      split
      · rename_i hc
        refine ⟨by omega, by omega, ?_⟩
        rw [← h3]
        constructor
        · exact fun h => ⟨by omega, hc⟩
        · rintro ⟨h, _⟩; omega
      · rename_i hc
        refine ⟨by omega, by omega, ?_⟩
        constructor
        · intro h; omega
        · rintro ⟨_, h⟩; exact absurd h hc
    · rintro ⟨a, b⟩ ⟨h1, h2, h3⟩
      simp only at h1 h2 h3
      subst h1
      unfold B28_23
      simp (disch := omega) only [Ret_some, Ret_none, Ret_bind, Ret_asrt, Ret_cond, Sum.elim_inl, Sum.elim_inr, decide_eq_true_eq, decide_eq_false_iff_not, Bool.not_eq_true', Bool.not_not, Bool.and_eq_true, Bool.or_eq_true, Bool.true_eq_false, Bool.false_eq_true, Bool.not_true, Bool.not_false, if_true, if_false, ite_true, ite_false, true_and, and_true, false_and, and_false, Int.toNat_natCast, toN_succ, Int.ofNat_eq_natCast, Int.ofNat_toNat, Nat.zero_add, Nat.add_zero, not_true_eq_false, not_false_eq_true, implies_true, wr64]
      rw [if_neg (by omega)]
      exact h3
  refine key.mono fun p hp => ?_
  rw [Bool.eq_iff_iff, decide_eq_true_eq, hp, all_getD]
theorem L28_or : Ret (L28_31 t z rec 0) fun x => Sum.elim (fun _ => false) id x = t.kids.any f := by
  unfold L28_31
  refine Ret.loop t.kids.length (fun i s => s = (i : Int) ∧ ∀ j, j < i → ¬ f (t.kids.getD j Tr.d) = true) ⟨rfl, by simp⟩ ?_ ?_
  · rintro i s hi ⟨rfl, hs⟩
    unfold B28_31
    simp (disch := omega) only [Ret_some, Ret_none, Ret_bind, Ret_asrt, Ret_cond, Sum.elim_inl, Sum.elim_inr, decide_eq_true_eq, decide_eq_false_iff_not, Bool.not_eq_true', Bool.not_not, Bool.and_eq_true, Bool.or_eq_true, Bool.true_eq_false, Bool.false_eq_true, Bool.not_true, Bool.not_false, if_true, if_false, ite_true, ite_false, true_and, and_true, false_and, and_false, Int.toNat_natCast, toN_succ, Int.ofNat_eq_natCast, Int.ofNat_toNat, Nat.zero_add, Nat.add_zero, not_true_eq_false, not_false_eq_true, implies_true, wr64, h i hi]
    rw [if_pos (by omega)]
    refine ⟨by omega, ?_⟩
    split
    · rename_i hc
      exact (any_getD.2 ⟨i, hi, hc⟩).symm
    · rename_i hc
      exact ⟨by omega, forall_lt_succ.2 ⟨hs, hc⟩⟩
  · rintro s ⟨rfl, hs⟩
    unfold B28_31
    simp (disch := omega) only [Ret_some, Ret_none, Ret_bind, Ret_asrt, Ret_cond, Sum.elim_inl, Sum.elim_inr, decide_eq_true_eq, decide_eq_false_iff_not, Bool.not_eq_true', Bool.not_not, Bool.and_eq_true, Bool.or_eq_true, Bool.true_eq_false, Bool.false_eq_true, Bool.not_true, Bool.not_false, if_true, if_false, ite_true, ite_false, true_and, and_true, false_and, and_false, Int.toNat_natCast, toN_succ, Int.ofNat_eq_natCast, Int.ofNat_toNat, Nat.zero_add, Nat.add_zero, not_true_eq_false, not_false_eq_true, implies_true, wr64]
    rw [if_neg (by omega)]
    refine (Bool.eq_false_iff.2 fun hc => ?_).symm
    obtain ⟨i, hi, hc⟩ := any_getD.1 hc
    exact hs i hi hc
theorem F137_ret : F137 rec t.kids z = some (!t.kids.all f) := by
  have key : Ret (L160_2 t.kids z rec 0) fun x => match x with | .inl _ => t.kids.all f = true | .inr v => 0 ≤ v ∧ t.kids.all f = false := by
    unfold L160_2
    refine Ret.loop t.kids.length (fun i s => s = (i : Int) ∧ ∀ j, j < i → f (t.kids.getD j Tr.d) = true) ⟨rfl, by simp⟩ ?_ ?_
    · rintro i s hi ⟨rfl, hs⟩
      unfold B160_2 F138
      simp (disch := omega) only [Ret_some, Ret_none, Ret_bind, Ret_asrt, Ret_cond, Sum.elim_inl, Sum.elim_inr, decide_eq_true_eq, decide_eq_false_iff_not, Bool.not_eq_true', Bool.not_not, Bool.and_eq_true, Bool.or_eq_true, Bool.true_eq_false, Bool.false_eq_true, Bool.not_true, Bool.not_false, if_true, if_false, ite_true, ite_false, true_and, and_true, false_and, and_false, Int.toNat_natCast, toN_succ, Int.ofNat_eq_natCast, Int.ofNat_toNat, Nat.zero_add, Nat.add_zero, not_true_eq_false, not_false_eq_true, implies_true, wr64, h i hi]
      rw [if_pos (by omega)]
      refine ⟨by omega, ?_⟩
      split
      · rename_i hc
        refine ⟨by omega, Bool.eq_false_iff.2 fun h => ?_⟩
        have h' := all_getD.1 h i hi
        rw [h'] at hc
        exact Bool.noConfusion hc
      · rename_i hc
        exact ⟨by omega, forall_lt_succ.2 ⟨hs, by simpa using hc⟩⟩
    · rintro s ⟨rfl, hs⟩
      unfold B160_2
      simp (disch := omega) only [Ret_some, Ret_none, Ret_bind, Ret_asrt, Ret_cond, Sum.elim_inl, Sum.elim_inr, decide_eq_true_eq, decide_eq_false_iff_not, Bool.not_eq_true', Bool.not_not, Bool.and_eq_true, Bool.or_eq_true, Bool.true_eq_false, Bool.false_eq_true, Bool.not_true, Bool.not_false, if_true, if_false, ite_true, ite_false, true_and, and_true, false_and, and_false, Int.toNat_natCast, toN_succ, Int.ofNat_eq_natCast, Int.ofNat_toNat, Nat.zero_add, Nat.add_zero, not_true_eq_false, not_false_eq_true, implies_true, wr64]
      rw [if_neg (by omega)]
      exact all_getD.2 hs
  obtain ⟨x, hx, hp⟩ := key
  unfold F137 F160
  rw [hx]
  cases x with
  | inl _ => simp only at hp; rw [hp]; rfl
  | inr v => simp only at hp; rw [hp.2]; simp [hp.1]
theorem F137b_ret : F137b rec t.kids z = some (t.kids.any f) := by
  have key : Ret (L160b_2 t.kids z rec 0) fun x => match x with | .inl _ => t.kids.any f = false | .inr v => 0 ≤ v ∧ t.kids.any f = true := by
    unfold L160b_2
    refine Ret.loop t.kids.length (fun i s => s = (i : Int) ∧ ∀ j, j < i → ¬ f (t.kids.getD j Tr.d) = true) ⟨rfl, by simp⟩ ?_ ?_
    · rintro i s hi ⟨rfl, hs⟩
      unfold B160b_2 F139
      simp (disch := omega) only [Ret_some, Ret_none, Ret_bind, Ret_asrt, Ret_cond, Sum.elim_inl, Sum.elim_inr, decide_eq_true_eq, decide_eq_false_iff_not, Bool.not_eq_true', Bool.not_not, Bool.and_eq_true, Bool.or_eq_true, Bool.true_eq_false, Bool.false_eq_true, Bool.not_true, Bool.not_false, if_true, if_false, ite_true, ite_false, true_and, and_true, false_and, and_false, Int.toNat_natCast, toN_succ, Int.ofNat_eq_natCast, Int.ofNat_toNat, Nat.zero_add, Nat.add_zero, not_true_eq_false, not_false_eq_true, implies_true, wr64, h i hi]
      rw [if_pos (by omega)]
      refine ⟨by omega, ?_⟩
      split
      · rename_i hc
        exact ⟨by omega, any_getD.2 ⟨i, hi, hc⟩⟩
      · rename_i hc
        exact ⟨by omega, forall_lt_succ.2 ⟨hs, hc⟩⟩
    · rintro s ⟨rfl, hs⟩
      unfold B160b_2
      simp (disch := omega) only [Ret_some, Ret_none, Ret_bind, Ret_asrt, Ret_cond, Sum.elim_inl, Sum.elim_inr, decide_eq_true_eq, decide_eq_false_iff_not, Bool.not_eq_true', Bool.not_not, Bool.and_eq_true, Bool.or_eq_true, Bool.true_eq_false, Bool.false_eq_true, Bool.not_true, Bool.not_false, if_true, if_false, ite_true, ite_false, true_and, and_true, false_and, and_false, Int.toNat_natCast, toN_succ, Int.ofNat_eq_natCast, Int.ofNat_toNat, Nat.zero_add, Nat.add_zero, not_true_eq_false, not_false_eq_true, implies_true, wr64]
      rw [if_neg (by omega)]
      refine Bool.eq_false_iff.2 fun hc => ?_
      obtain ⟨i, hi, hc⟩ := any_getD.1 hc
      exact hs i hi hc
  obtain ⟨x, hx, hp⟩ := key
  unfold F137b F160b
  rw [hx]
  cases x with
  | inl _ => simp only at hp; rw [hp]; rfl
  | inr v => simp only at hp; rw [hp.2]; simp [hp.1]
end
theorem F87_ret (l : List Int) (h : Fit l) (a : Int) : Ret (F87 l a) fun _ => True := by
  have key : Ret (L141_2 l a 0) fun _ => True := by
    unfold Fit at h
    unfold L141_2
    refine Ret.loop l.length (fun i s => s = (i : Int)) rfl ?_ ?_
    · rintro i s hi rfl
      unfold B141_2
      simp (disch := omega) only [Ret_some, Ret_none, Ret_bind, Ret_asrt, Ret_cond, Sum.elim_inl, Sum.elim_inr, decide_eq_true_eq, decide_eq_false_iff_not, Bool.not_eq_true', Bool.not_not, Bool.and_eq_true, Bool.or_eq_true, Bool.true_eq_false, Bool.false_eq_true, Bool.not_true, Bool.not_false, if_true, if_false, ite_true, ite_false, true_and, and_true, false_and, and_false, Int.toNat_natCast, toN_succ, Int.ofNat_eq_natCast, Int.ofNat_toNat, Nat.zero_add, Nat.add_zero, not_true_eq_false, not_false_eq_true, implies_true, wr64]
      rw [if_pos (by omega)]
      refine ⟨by omega, ?_⟩
      repeat' (first | trivial | omega | split | (refine ⟨?_, ?_⟩))
    · rintro s rfl
      unfold B141_2
      simp (disch := omega) only [Ret_some, Ret_none, Ret_bind, Ret_asrt, Ret_cond, Sum.elim_inl, Sum.elim_inr, decide_eq_true_eq, decide_eq_false_iff_not, Bool.not_eq_true', Bool.not_not, Bool.and_eq_true, Bool.or_eq_true, Bool.true_eq_false, Bool.false_eq_true, Bool.not_true, Bool.not_false, if_true, if_false, ite_true, ite_false, true_and, and_true, false_and, and_false, Int.toNat_natCast, toN_succ, Int.ofNat_eq_natCast, Int.ofNat_toNat, Nat.zero_add, Nat.add_zero, not_true_eq_false, not_false_eq_true, implies_true, wr64]
      rw [if_neg (by omega)]
      trivial
  obtain ⟨x, hx, _⟩ := key
  unfold F87 F141
  rw [hx]
  repeat' (first | exact Ret.some | (refine Ret.bif ?_ ?_) | (refine Ret.bnd ?_ fun _ => ?_) | (refine Ret.elim (fun _ => ?_) fun _ => ?_) | assumption | solve_by_elim)
theorem leaf_ret (t : Tr) (z : TTrip) (hz : Fit z.zones) (hz0 : 0 < z.zones.length) (h9 : kd t ≠ 9) (h10 : kd t ≠ 10) (h11 : kd t ≠ 11) (rec rec' : Tr → TTrip → Option Bool) :
    G84 rec t z = some ((G84 (fun _ _ => none) t z).getD true) ∧ G28 rec' t z = some ((G84 (fun _ _ => none) t z).getD true) := by
  obtain ⟨r, hr, _⟩ := F87_ret z.zones hz (List.getD t.ns (0 + 1) 0)
  unfold Fit at hz
  unfold kd at h9 h10 h11
  unfold G84 G28
  rw [hr]
  have e9 : decide (List.getD t.ns 0 0 = 9) = false := decide_eq_false h9
  have e10 : decide (List.getD t.ns 0 0 = 10) = false := decide_eq_false h10
  have e11 : decide (List.getD t.ns 0 0 = 11) = false := decide_eq_false h11
  simp only [e9, e10, e11, F136, F79_eq, F81_eq, Option.bind_some, cond_false]
  rw [wr64 (by omega) (by omega)]
  simp only [asrt, show (0 : Int) < (z.zones.length : Int) from by omega, show (0 : Int) ≤ (z.zones.length : Int) - 1 ∧ (z.zones.length : Int) - 1 < (z.zones.length : Int) from by omega, if_true, and_self]
  generalize List.getD t.ns 0 0 = K
  by_cases c1 : K = 1 <;> by_cases c2 : K = 2 <;> by_cases c3 : K = 3 <;> by_cases c4 : K = 4 <;> by_cases c5 : K = 5 <;> by_cases c6 : K = 6 <;> by_cases c7 : K = 7 <;> by_cases c8 : K = 8 <;> simp [c1, c2, c3, c4, c5, c6, c7, c8]
theorem hld_ret (z : TTrip) (hz : Fit z.zones) (hz0 : 0 < z.zones.length) : ∀ (n : Nat) (t : Tr), sizT t ≤ n → FitT t → VT n t → ∀ k, n ≤ k → F84n k t z = some (hld n t z) ∧ F28n k t z = some (hld n t z)
  | 0, t, h, _, _, _, _ => by have := sizT_pos t; omega
  | n + 1, t, h, hf, hv, 0, hk => by omega
  | n + 1, t, h, hf, hv, k + 1, hk => by
    show G84 (F84n k) t z = _ ∧ G28 (F28n k) t z = _
    have ih := fun i (hi : i < t.kids.length) => hld_ret z hz hz0 n (t.kids.getD i Tr.d) (by have := kid_lt hi; omega) (hf.kid hi) (hv.2 i hi) k (by omega)
    unfold hld
    by_cases h9 : kd t = 9
    · have h1 := hv.1 h9
      have hn := sizT_nk (t := t) (by omega)
      have ihn := hld_ret z hz hz0 n (nk t) (by omega) (by unfold FitT at hf ⊢; omega) (VT_nk hv h9) k (by omega)
      have h9' : List.getD t.ns 0 0 = 9 := h9
      rw [if_pos h9]
      unfold G84 G28
      rw [ihn.1, ihn.2]
      simp only [h9', asrt, h1]
      simp
    · by_cases h10 : kd t = 10
      · have h10' : List.getD t.ns 0 0 = 10 := h10
        rw [if_neg h9, if_pos h10]
        obtain ⟨p, hp, hp2⟩ := L28_and hf.len (f := fun x => hld n x z) (rec := F28n k) (z := z) fun i hi => (ih i hi).2
        unfold G84 G28
        rw [F137_ret hf.len (f := fun x => hld n x z) (rec := F84n k) (z := z) fun i hi => (ih i hi).1, hp, ← hp2]
        simp only [h10']
        simp
      · by_cases h11 : kd t = 11
        · have h11' : List.getD t.ns 0 0 = 11 := h11
          rw [if_neg h9, if_neg h10, if_pos h11]
          obtain ⟨p, hp, hp2⟩ := L28_or hf.len (f := fun x => hld n x z) (rec := F28n k) (z := z) fun i hi => (ih i hi).2
          unfold G84 G28
          rw [F137b_ret hf.len (f := fun x => hld n x z) (rec := F84n k) (z := z) fun i hi => (ih i hi).1, hp, ← hp2]
          simp only [h11']
          cases p <;> simp
        · rw [if_neg h9, if_neg h10, if_neg h11]
          exact leaf_ret t z hz hz0 h9 h10 h11 _ _
theorem F84_ret (z : TTrip) (hz : Fit z.zones) (hz0 : 0 < z.zones.length) (t : Tr) (hf : FitT t) (hv : VT (sizT t) t) : F84 t z = some (hld (sizT t) t z) := by
  unfold F84
  exact evF_of (sizT t) fun k hk => (hld_ret z hz hz0 (sizT t) t (Nat.le_refl _) hf hv k hk).1
theorem F28_ret (z : TTrip) (hz : Fit z.zones) (hz0 : 0 < z.zones.length) (t : Tr) (hf : FitT t) (hv : VT (sizT t) t) : F28 t z = some (hld (sizT t) t z) := by
  unfold F28
  exact evF_of (sizT t) fun k hk => (hld_ret z hz hz0 (sizT t) t (Nat.le_refl _) hf hv k hk).2
/-! ### prices -/
def bandsOk (a0 : TTariff) : Prop := ∀ i, i < a0.bands.length → 0 ≤ (a0.bands.getD i TBand.d).price ∧ (a0.bands.getD i TBand.d).price ≤ 100000
def ruleOk (r : TRule) : Prop := F27 r.if0 = some 0 ∧ (1 ≤ r.do0 ∧ r.do0 ≤ 6) ∧ (r.do0 = 1 → 0 ≤ r.n ∧ r.n ≤ 200) ∧ (r.do0 ≠ 1 → 0 ≤ r.n ∧ r.n ≤ 100000)
def rulesOk (a0 : TTariff) : Prop := ∀ i, i < a0.rules.length → ruleOk (a0.rules.getD i TRule.d)
theorem L20_4_inv (a0 : TTariff) (hb : Fit a0.bands) : Ret (L20_4 a0 0) fun x => match x with | .inl _ => bandsOk a0 | .inr r => r ≠ 0 := by
  unfold Fit at hb
  unfold L20_4 bandsOk
  refine Ret.loop a0.bands.length (fun i s => s = (i : Int) ∧ ∀ j, j < i → 0 ≤ (a0.bands.getD j TBand.d).price ∧ (a0.bands.getD j TBand.d).price ≤ 100000) ⟨rfl, by simp⟩ ?_ ?_
  · rintro i s hi ⟨rfl, hs⟩
    unfold B20_4
    simp (disch := omega) only [Ret_some, Ret_none, Ret_bind, Ret_asrt, Ret_cond, Sum.elim_inl, Sum.elim_inr, decide_eq_true_eq, decide_eq_false_iff_not, Bool.not_eq_true', Bool.not_not, Bool.and_eq_true, Bool.or_eq_true, Bool.true_eq_false, Bool.false_eq_true, Bool.not_true, Bool.not_false, if_true, if_false, ite_true, ite_false, true_and, and_true, false_and, and_false, Int.toNat_natCast, toN_succ, Int.ofNat_eq_natCast, Int.ofNat_toNat, Nat.zero_add, Nat.add_zero, not_true_eq_false, not_false_eq_true, implies_true, wr64, F81_eq]
    rw [if_pos (by omega)]
    refine ⟨by omega, ?_⟩
    rw [forall_lt_succ]
    generalize (a0.bands.getD i TBand.d).price = P at *
    generalize (a0.bands.getD i TBand.d).upto = U at *
    split
    · decide
    · split
      · decide
      · rename_i hp
        have hp : 0 ≤ P ∧ P ≤ 100000 := by simpa using hp
        split
        · refine ⟨by omega, ?_⟩
          split
          · decide
          · split
            · decide
            · exact ⟨by omega, hs, hp⟩
        · exact ⟨by omega, hs, hp⟩
  · rintro s ⟨rfl, hs⟩
    unfold B20_4
    simp (disch := omega) only [Ret_some, Ret_none, Ret_bind, Ret_asrt, Ret_cond, Sum.elim_inl, Sum.elim_inr, decide_eq_true_eq, decide_eq_false_iff_not, Bool.not_eq_true', Bool.not_not, Bool.and_eq_true, Bool.or_eq_true, Bool.true_eq_false, Bool.false_eq_true, Bool.not_true, Bool.not_false, if_true, if_false, ite_true, ite_false, true_and, and_true, false_and, and_false, Int.toNat_natCast, toN_succ, Int.ofNat_eq_natCast, Int.ofNat_toNat, Nat.zero_add, Nat.add_zero, not_true_eq_false, not_false_eq_true, implies_true, wr64]
    rw [if_neg (by omega)]
    exact hs
theorem L20_14_inv (a0 : TTariff) (h : ∀ x ∈ a0.rules, FitT x.if0) (hr : Fit a0.rules) : Ret (L20_14 a0 0) fun x => match x with | .inl _ => rulesOk a0 | .inr r => r ≠ 0 := by
  unfold Fit at hr
  unfold L20_14 rulesOk
  refine Ret.loop a0.rules.length (fun i s => s = (i : Int) ∧ ∀ j, j < i → ruleOk (a0.rules.getD j TRule.d)) ⟨rfl, by simp⟩ ?_ ?_
  · rintro i s hi ⟨rfl, hs⟩
    unfold B20_14
    obtain ⟨m, hm, _⟩ := F27_ret _ (getD_fit h i hi)
    simp (disch := omega) only [Ret_some, Ret_none, Ret_bind, Ret_asrt, Ret_cond, Sum.elim_inl, Sum.elim_inr, decide_eq_true_eq, decide_eq_false_iff_not, Bool.not_eq_true', Bool.not_not, Bool.and_eq_true, Bool.or_eq_true, Bool.true_eq_false, Bool.false_eq_true, Bool.not_true, Bool.not_false, if_true, if_false, ite_true, ite_false, true_and, and_true, false_and, and_false, Int.toNat_natCast, toN_succ, Int.ofNat_eq_natCast, Int.ofNat_toNat, Nat.zero_add, Nat.add_zero, not_true_eq_false, not_false_eq_true, implies_true, wr64, F81_eq, hm]
    rw [if_pos (by omega)]
    refine ⟨by omega, ?_⟩
    rw [forall_lt_succ]
    unfold ruleOk at hs ⊢
    rw [hm]
    generalize (a0.rules.getD i TRule.d).do0 = K at *
    generalize (a0.rules.getD i TRule.d).n = N at *
    split
    · rename_i h0; exact h0
    · rename_i h0
      have h0 : m = 0 := by simpa using h0
      subst h0
      split
      · decide
      · rename_i hk
        have hk : 1 ≤ K ∧ K ≤ 6 := by simpa using hk
        split
        · rename_i k1
          split
          · decide
          · rename_i hn
            have hn : 0 ≤ N ∧ N ≤ 200 := by simpa using hn
            exact ⟨by omega, hs, rfl, hk, fun _ => hn, fun h => absurd k1 h⟩
        · rename_i k1
          split
          · decide
          · rename_i hn
            have hn : 0 ≤ N ∧ N ≤ 100000 := by simpa using hn
            exact ⟨by omega, hs, rfl, hk, fun h => absurd h k1, fun _ => hn⟩
  · rintro s ⟨rfl, hs⟩
    unfold B20_14
    simp (disch := omega) only [Ret_some, Ret_none, Ret_bind, Ret_asrt, Ret_cond, Sum.elim_inl, Sum.elim_inr, decide_eq_true_eq, decide_eq_false_iff_not, Bool.not_eq_true', Bool.not_not, Bool.and_eq_true, Bool.or_eq_true, Bool.true_eq_false, Bool.false_eq_true, Bool.not_true, Bool.not_false, if_true, if_false, ite_true, ite_false, true_and, and_true, false_and, and_false, Int.toNat_natCast, toN_succ, Int.ofNat_eq_natCast, Int.ofNat_toNat, Nat.zero_add, Nat.add_zero, not_true_eq_false, not_false_eq_true, implies_true, wr64]
    rw [if_neg (by omega)]
    exact hs
theorem F20_inv (a0 : TTariff) (h : ∀ x ∈ a0.rules, FitT x.if0) (hb : Fit a0.bands) (hr : Fit a0.rules) (h0 : F20 a0 = some 0) :
    (1 ≤ a0.bands.length ∧ a0.bands.length ≤ 8) ∧ a0.rules.length ≤ 20 ∧ (1 ≤ a0.round ∧ a0.round ≤ 100) ∧ bandsOk a0 ∧ rulesOk a0 := by
  obtain ⟨x, hx, px⟩ := L20_4_inv a0 hb
  obtain ⟨y, hy, py⟩ := L20_14_inv a0 h hr
  unfold F20 at h0
  simp only [F81_eq, Option.bind_some, hx, hy] at h0
  by_cases c1 : 1 ≤ (a0.bands.length : Int) ∧ (a0.bands.length : Int) ≤ 8 <;> by_cases c2 : 20 < (a0.rules.length : Int) <;> by_cases c3 : 1 ≤ a0.round ∧ a0.round ≤ 100 <;>
    simp only [c1, c2, c3, decide_true, decide_false, Bool.not_true, Bool.not_false, cond_true, cond_false] at h0
  all_goals first
    | (exfalso; revert h0; simp; done)
    | (rcases x with _ | r
       · simp only [Sum.elim_inl, Bool.not_false, Bool.not_true, cond_true, cond_false] at h0
         first
         | (exfalso; revert h0; simp; done)
         | (rcases y with _ | r'
            · exact ⟨by omega, by omega, c3, px, py⟩
            · exact absurd (by simpa using h0) py)
       · exact absurd (by simpa using h0) px)
theorem do_eq {r : TRule} (h : ruleOk r) {v : Int} (hv : 0 ≤ v ∧ v ≤ 100000) : ∃ w, (0 ≤ w ∧ w ≤ 100000) ∧ F135 r v = some w ∧
    (bif decide (r.do0 = 1) then some (Min.min (IntKind.wrap .i64 (Int.tdiv (IntKind.wrap .i64 (v * r.n)) 100)) 100000) else bif decide (r.do0 = 2) then some (Max.max (IntKind.wrap .i64 (v - r.n)) 0) else bif decide (r.do0 = 3) then some (Min.min (IntKind.wrap .i64 (v + r.n)) 100000) else bif decide (r.do0 = 4) then some (r.n) else bif decide (r.do0 = 5) then some (Min.min v r.n) else bif decide (r.do0 = 6) then some (Max.max v r.n) else some v) = some w := by
  obtain ⟨_, hk, h1, h2⟩ := h
  unfold F135
  generalize r.do0 = K at *
  generalize r.n = N at *
  have hK : K = 1 ∨ K = 2 ∨ K = 3 ∨ K = 4 ∨ K = 5 ∨ K = 6 := by omega
  rcases hK with rfl | rfl | rfl | rfl | rfl | rfl
  · have hn := h1 rfl
    have hm : 0 ≤ v * N := Int.mul_nonneg hv.1 hn.1
    have hm2 : v * N ≤ 100000 * 200 := Int.mul_le_mul hv.2 hn.2 hn.1 (by omega)
    generalize v * N = M at *
    rw [wr64 (x := M) (by omega) (by omega), Int.tdiv_eq_ediv_of_nonneg hm, wr64 (x := M / 100) (by omega) (by omega)]
    exact ⟨Min.min 100000 (M / 100), by omega, rfl, by simp; omega⟩
  · have hn := h2 (by omega)
    rw [wr64 (x := v - N) (by omega) (by omega)]
    exact ⟨Max.max 0 (v - N), by omega, rfl, by simp; omega⟩
  · have hn := h2 (by omega)
    rw [wr64 (x := v + N) (by omega) (by omega)]
    exact ⟨Min.min 100000 (v + N), by omega, rfl, by simp; omega⟩
  · have hn := h2 (by omega)
    exact ⟨N, hn, rfl, rfl⟩
  · have hn := h2 (by omega)
    exact ⟨Min.min v N, by omega, rfl, rfl⟩
  · have hn := h2 (by omega)
    exact ⟨Max.max v N, by omega, rfl, rfl⟩
section
variable {a0 : TTariff} {a1 : TTrip} (h : ∀ x ∈ a0.rules, FitT x.if0) (hz : Fit a1.zones) (hz0 : 0 < a1.zones.length) (hn : a0.rules.length ≤ 20) (hR : rulesOk a0)
include h hz hz0 hn hR
theorem rules_ret (v : Int) (hv : 0 ≤ v ∧ v ≤ 100000) : Ret (L83_10 a0 a1 (v, [], 0)) fun o => (0 ≤ o.1 ∧ o.1 ≤ 100000) ∧ L24_12 a0 a1 (v, [], 0) = some o := by
  have hh := fun i (hi : i < a0.rules.length) => F84_ret a1 hz hz0 _ (getD_fit h i hi) (F27_inv (getD_fit h i hi) (hR i hi).1)
  have hg := fun i (hi : i < a0.rules.length) => F28_ret a1 hz hz0 _ (getD_fit h i hi) (F27_inv (getD_fit h i hi) (hR i hi).1)
  -- both loops as one
  have key : ∀ (k i : Nat) (v : Int) (l : List Int), a0.rules.length - i = k → i ≤ a0.rules.length → 0 ≤ v ∧ v ≤ 100000 → l.length ≤ i → ∃ o : Int × List Int, (0 ≤ o.1 ∧ o.1 ≤ 100000) ∧ L83_10 a0 a1 (v, l, (i : Int)) = some o ∧ L24_12 a0 a1 (v, l, (i : Int)) = some o := by
    intro k
    induction k with
    | zero =>
      intro i v l hk hi hv hl
      refine ⟨(v, l), hv, ?_, ?_⟩
      · unfold L83_10
        rw [loopW_eq]
        unfold B83_10
        simp only [decide_eq_false (show ¬ (i : Int) < (a0.rules.length : Int) by omega), cond_false]
        rfl
      · unfold L24_12
        rw [loopW_eq]
        unfold B24_12
        simp only [decide_eq_false (show ¬ (i : Int) < (a0.rules.length : Int) by omega), cond_false]
        rfl
    | succ k ih =>
      intro i v l hk hi hv hl
      have hlt : i < a0.rules.length := by omega
      obtain ⟨w, hw, e1, e2⟩ := do_eq (hR i hlt) hv
      have eh := hh i hlt
      have eg := hg i hlt
      have hw' : IntKind.wrap .i64 ((i : Int) + 1) = ((i + 1 : Nat) : Int) := by rw [wr64 (by omega) (by omega)]; rfl
      cases hb : hld (sizT (a0.rules.getD i TRule.d).if0) (a0.rules.getD i TRule.d).if0 a1 with
      | false =>
        rw [hb] at eh eg
        obtain ⟨o, h1, h2, h3⟩ := ih (i + 1) v l (by omega) (by omega) hv (by omega)
        refine ⟨o, h1, ?_, ?_⟩
        · rw [← h2]
          unfold L83_10
          rw [loopW_eq]
          simp only [B83_10, decide_eq_true (show (i : Int) < (a0.rules.length : Int) by omega), cond_true, asrt, if_pos (show 0 ≤ (i : Int) ∧ (i : Int) < (a0.rules.length : Int) by omega), Int.toNat_natCast, eh, Option.bind_some, Bool.not_false, hw']
        · rw [← h3]
          unfold L24_12
          rw [loopW_eq]
          simp only [B24_12, decide_eq_true (show (i : Int) < (a0.rules.length : Int) by omega), cond_true, asrt, if_pos (show 0 ≤ (i : Int) ∧ (i : Int) < (a0.rules.length : Int) by omega), Int.toNat_natCast, eg, Option.bind_some, Bool.not_false, hw']
      | true =>
        rw [hb] at eh eg
        cases hst : (a0.rules.getD i TRule.d).stop with
        | true =>
          refine ⟨(w, l ++ [(i : Int)]), hw, ?_, ?_⟩
          · unfold L83_10
            rw [loopW_eq]
            simp only [B83_10, decide_eq_true (show (i : Int) < (a0.rules.length : Int) by omega), cond_true, cond_false, asrt, if_pos (show 0 ≤ (i : Int) ∧ (i : Int) < (a0.rules.length : Int) by omega), Int.toNat_natCast, eh, Option.bind_some, Bool.not_true, hw', if_pos (show l.length + 1 ≤ 140737488355328 ∧ (l.length + 1) * 8 ≤ 140737488355328 by omega), e1, hst]
          · unfold L24_12
            rw [loopW_eq]
            simp only [B24_12, decide_eq_true (show (i : Int) < (a0.rules.length : Int) by omega), cond_true, cond_false, asrt, if_pos (show 0 ≤ (i : Int) ∧ (i : Int) < (a0.rules.length : Int) by omega), Int.toNat_natCast, eg, Option.bind_some, Bool.not_true, hw', if_pos (show l.length + 1 ≤ 140737488355328 ∧ (l.length + 1) * 8 ≤ 140737488355328 by omega), e2, hst]
        | false =>
          obtain ⟨o, h1, h2, h3⟩ := ih (i + 1) w (l ++ [(i : Int)]) (by omega) (by omega) hw (by simp; omega)
          refine ⟨o, h1, ?_, ?_⟩
          · rw [← h2]
            unfold L83_10
            rw [loopW_eq]
            simp only [B83_10, decide_eq_true (show (i : Int) < (a0.rules.length : Int) by omega), cond_true, cond_false, asrt, if_pos (show 0 ≤ (i : Int) ∧ (i : Int) < (a0.rules.length : Int) by omega), Int.toNat_natCast, eh, Option.bind_some, Bool.not_true, hw', if_pos (show l.length + 1 ≤ 140737488355328 ∧ (l.length + 1) * 8 ≤ 140737488355328 by omega), e1, hst]
          · rw [← h3]
            unfold L24_12
            rw [loopW_eq]
            simp only [B24_12, decide_eq_true (show (i : Int) < (a0.rules.length : Int) by omega), cond_true, cond_false, asrt, if_pos (show 0 ≤ (i : Int) ∧ (i : Int) < (a0.rules.length : Int) by omega), Int.toNat_natCast, eg, Option.bind_some, Bool.not_true, hw', if_pos (show l.length + 1 ≤ 140737488355328 ∧ (l.length + 1) * 8 ≤ 140737488355328 by omega), e2, hst]
  obtain ⟨o, h1, h2, h3⟩ := key _ 0 v [] rfl (Nat.zero_le _) hv (Nat.le_refl _)
  exact ⟨o, h2, h1, h3⟩
theorem rules_len (v : Int) (hv : 0 ≤ v ∧ v ≤ 100000) : Ret (L83_10 a0 a1 (v, [], 0)) fun o => o.2.length ≤ 20 := by
  have hh := fun i (hi : i < a0.rules.length) => F84_ret a1 hz hz0 _ (getD_fit h i hi) (F27_inv (getD_fit h i hi) (hR i hi).1)
  unfold L83_10
  refine Ret.loop a0.rules.length (fun i s => s.2.2 = (i : Int) ∧ s.2.1.length ≤ i ∧ 0 ≤ s.1 ∧ s.1 ≤ 100000) ⟨rfl, Nat.le_refl _, hv⟩ ?_ ?_
  · rintro i ⟨a, b, c⟩ hi ⟨h1, h2, h3⟩
    simp only at h1 h2 h3
    subst h1
    obtain ⟨w, hw, e1, _⟩ := do_eq (hR i hi) h3
    unfold B83_10
    simp (disch := omega) only [Ret_some, Ret_none, Ret_bind, Ret_asrt, Ret_cond, Sum.elim_inl, Sum.elim_inr, decide_eq_true_eq, decide_eq_false_iff_not, Bool.not_eq_true', Bool.not_not, Bool.and_eq_true, Bool.or_eq_true, Bool.true_eq_false, Bool.false_eq_true, Bool.not_true, Bool.not_false, if_true, if_false, ite_true, ite_false, true_and, and_true, false_and, and_false, Int.toNat_natCast, toN_succ, Int.ofNat_eq_natCast, Int.ofNat_toNat, Nat.zero_add, Nat.add_zero, not_true_eq_false, not_false_eq_true, implies_true, wr64, hh i hi, e1]
    rw [if_pos (by omega)]
    refine ⟨by omega, ?_⟩
    split
    · exact ⟨by omega, by omega, h3⟩
    · refine ⟨by omega, ?_⟩
      have : (b ++ [(i : Int)]).length = b.length + 1 := by simp
      split
      · omega
      · exact ⟨by omega, by omega, hw⟩
  · rintro ⟨a, b, c⟩ ⟨h1, h2, h3⟩
    simp only at h1 h2 h3
    subst h1
    unfold B83_10
    simp (disch := omega) only [Ret_some, Ret_none, Ret_bind, Ret_asrt, Ret_cond, Sum.elim_inl, Sum.elim_inr, decide_eq_true_eq, decide_eq_false_iff_not, Bool.not_eq_true', Bool.not_not, Bool.and_eq_true, Bool.or_eq_true, Bool.true_eq_false, Bool.false_eq_true, Bool.not_true, Bool.not_false, if_true, if_false, ite_true, ite_false, true_and, and_true, false_and, and_false, Int.toNat_natCast, toN_succ, Int.ofNat_eq_natCast, Int.ofNat_toNat, Nat.zero_add, Nat.add_zero, not_true_eq_false, not_false_eq_true, implies_true, wr64]
    rw [if_neg (by omega)]
    omega
end
def isBand (l : List TBand) (p : Int) (i : Nat) : Prop := i < l.length ∧ (∀ j, j < i → ¬ p ≤ (l.getD j TBand.d).upto) ∧ (p ≤ (l.getD i TBand.d).upto ∨ i = l.length - 1)
theorem F133_ret (l : List TBand) (p : Int) (h1 : 1 ≤ l.length) (h8 : l.length ≤ 8) : Ret (F133 l p) fun o => ∃ i : Nat, isBand l p i ∧ (if o.1 < 0 then ((l.length : Int) - 1) else o.1) = (i : Int) ∧ (o.1 < 0 ∨ o.1 = (i : Int)) := by
  have key : Ret (L133_2 l (0, p)) fun x => match x with | .inl _ => ∀ j, j < l.length → ¬ p ≤ (l.getD j TBand.d).upto | .inr o => ∃ i : Nat, o.1 = (i : Int) ∧ isBand l p i := by
    unfold L133_2
    refine Ret.loop l.length (fun i s => s.1 = (i : Int) ∧ s.2 = p ∧ ∀ j, j < i → ¬ p ≤ (l.getD j TBand.d).upto) ⟨rfl, rfl, by simp⟩ ?_ ?_
    · rintro i ⟨a, b⟩ hi ⟨e1, e2, hs⟩
      simp only at e1 e2
      subst e1 e2
      unfold B133_2 F134
      simp (disch := omega) only [Ret_some, Ret_none, Ret_bind, Ret_asrt, Ret_cond, Sum.elim_inl, Sum.elim_inr, decide_eq_true_eq, decide_eq_false_iff_not, Bool.not_eq_true', Bool.not_not, Bool.and_eq_true, Bool.or_eq_true, Bool.true_eq_false, Bool.false_eq_true, Bool.not_true, Bool.not_false, if_true, if_false, ite_true, ite_false, true_and, and_true, false_and, and_false, Int.toNat_natCast, toN_succ, Int.ofNat_eq_natCast, Int.ofNat_toNat, Nat.zero_add, Nat.add_zero, not_true_eq_false, not_false_eq_true, implies_true, wr64]
      rw [if_pos (by omega)]
      refine ⟨by omega, ?_⟩
      split
      · rename_i hc
        exact ⟨i, rfl, hi, hs, .inl hc⟩
      · rename_i hc
        exact ⟨by omega, forall_lt_succ.2 ⟨hs, hc⟩⟩
    · rintro ⟨a, b⟩ ⟨e1, e2, hs⟩
      simp only at e1 e2
      subst e1 e2
      unfold B133_2
      simp (disch := omega) only [Ret_some, Ret_none, Ret_bind, Ret_asrt, Ret_cond, Sum.elim_inl, Sum.elim_inr, decide_eq_true_eq, decide_eq_false_iff_not, Bool.not_eq_true', Bool.not_not, Bool.and_eq_true, Bool.or_eq_true, Bool.true_eq_false, Bool.false_eq_true, Bool.not_true, Bool.not_false, if_true, if_false, ite_true, ite_false, true_and, and_true, false_and, and_false, Int.toNat_natCast, toN_succ, Int.ofNat_eq_natCast, Int.ofNat_toNat, Nat.zero_add, Nat.add_zero, not_true_eq_false, not_false_eq_true, implies_true, wr64]
      rw [if_neg (by omega)]
      exact hs
  obtain ⟨x, hx, hp⟩ := key
  unfold F133
  rw [hx]
  cases x with
  | inl q => exact ⟨(-1, q), rfl, l.length - 1, ⟨by omega, fun j hj => hp j (by omega), .inr rfl⟩, by simp only; rw [if_pos (by decide)]; omega, .inl (show (-1 : Int) < 0 by decide)⟩
  | inr o =>
    obtain ⟨i, e, hi⟩ := hp
    exact ⟨o, rfl, i, hi, by rw [if_neg (by omega), e], .inr e⟩
theorem isBand_un {l : List TBand} {p : Int} {i j : Nat} (h : isBand l p i) (k : isBand l p j) : i = j := by
  obtain ⟨h1, h2, h3⟩ := h
  obtain ⟨k1, k2, k3⟩ := k
  rcases Nat.lt_trichotomy i j with c | c | c
  · rcases h3 with h3 | h3
    · exact absurd h3 (k2 i c)
    · omega
  · exact c
  · rcases k3 with k3 | k3
    · exact absurd k3 (h2 j c)
    · omega
theorem L24_6_ret (a0 : TTariff) (p : Int) (h1 : 1 ≤ a0.bands.length) (h8 : a0.bands.length ≤ 8) (i : Nat) (hb : isBand a0.bands p i) :
    L24_6 a0 p ((a0.bands.getD (a0.bands.length - 1) TBand.d).price, (a0.bands.length : Int) - 1) = some (a0.bands.getD i TBand.d).price := by
  refine Ret.eq ?_
  unfold L24_6
  refine Ret.while (fun s => (-1 ≤ s.2 ∧ s.2 < a0.bands.length) ∧ ∃ m : Nat, m < a0.bands.length ∧ s.1 = (a0.bands.getD m TBand.d).price ∧ s.2 < (m : Int) + 1 ∧ (∀ j : Nat, s.2 < (j : Int) → j < m → ¬ p ≤ (a0.bands.getD j TBand.d).upto) ∧ (p ≤ (a0.bands.getD m TBand.d).upto ∨ m = a0.bands.length - 1)) (fun s => (s.2 + 1).toNat) ?_ ?_
  · exact ⟨⟨by show -1 ≤ (a0.bands.length : Int) - 1; omega, by show (a0.bands.length : Int) - 1 < _; omega⟩, a0.bands.length - 1, by omega, rfl, by show (a0.bands.length : Int) - 1 < _; omega, fun j hj hj2 => by simp only at hj; omega, .inr rfl⟩
  · rintro ⟨a, b⟩ ⟨hb2, m, hm, e, hlt, hno, hyes⟩
    simp only at hb2 hm e hlt hno hyes
    subst e
    unfold B24_6
    simp (disch := omega) only [Ret_some, Ret_none, Ret_bind, Ret_asrt, Ret_cond, Sum.elim_inl, Sum.elim_inr, decide_eq_true_eq, decide_eq_false_iff_not, Bool.not_eq_true', Bool.not_not, Bool.and_eq_true, Bool.or_eq_true, Bool.true_eq_false, Bool.false_eq_true, Bool.not_true, Bool.not_false, if_true, if_false, ite_true, ite_false, true_and, and_true, false_and, and_false, Int.toNat_natCast, toN_succ, Int.ofNat_eq_natCast, Int.ofNat_toNat, Nat.zero_add, Nat.add_zero, not_true_eq_false, not_false_eq_true, implies_true, wr64]
    split
    · rename_i c
      refine ⟨by omega, ?_⟩
      split
      · rename_i d
        refine ⟨⟨by omega, b.toNat, by omega, rfl, by omega, fun j hj hj2 => by omega, .inl d⟩, by omega⟩
      · rename_i d
        refine ⟨⟨by omega, m, hm, rfl, by omega, fun j hj hj2 => ?_, hyes⟩, by omega⟩
        by_cases hjb : (j : Int) = b
        · rw [show b.toNat = j by omega] at d; exact d
        · exact hno j (by omega) hj2
    · rename_i c
      have := isBand_un hb ⟨hm, fun j hj => hno j (by omega) hj, hyes⟩
      rw [this]
theorem round_ret (a0 : TTariff) (hR : 1 ≤ a0.round ∧ a0.round ≤ 100) (v : Int) (hv : 0 ≤ v ∧ v ≤ 100000) : L24_31 a0 v = some ((v + a0.round - 1) / a0.round * a0.round) := by
  refine Ret.eq ?_
  unfold L24_31
  generalize hRR : a0.round = R at *
  have hR0 : R ≠ 0 := by omega
  have hq : (v + R - 1) / R * R ≤ v + R - 1 ∧ v ≤ (v + R - 1) / R * R := by
    have e := Int.ediv_mul_add_emod (v + R - 1) R
    have m1 := Int.emod_nonneg (v + R - 1) hR0
    have m2 := Int.emod_lt_of_pos (v + R - 1) (show 0 < R by omega)
    omega
  have hd : ((v + R - 1) / R * R) % R = 0 := Int.mul_emod_left _ _
  generalize (v + R - 1) / R * R = T at *
  refine Ret.while (fun s => v ≤ s ∧ s ≤ T) (fun s => (T - s).toNat) ⟨Int.le_refl _, hq.2⟩ ?_
  rintro s ⟨h1, h2⟩
  unfold B24_31
  rw [hRR, Int.tmod_eq_emod_of_nonneg (show 0 ≤ s by omega)]
  simp (disch := omega) only [Ret_some, Ret_none, Ret_bind, Ret_asrt, Ret_cond, Sum.elim_inl, Sum.elim_inr, decide_eq_true_eq, decide_eq_false_iff_not, Bool.not_eq_true', Bool.not_not, Bool.and_eq_true, Bool.or_eq_true, Bool.true_eq_false, Bool.false_eq_true, Bool.not_true, Bool.not_false, if_true, if_false, ite_true, ite_false, true_and, and_true, false_and, and_false, Int.toNat_natCast, toN_succ, Int.ofNat_eq_natCast, Int.ofNat_toNat, Nat.zero_add, Nat.add_zero, not_true_eq_false, not_false_eq_true, implies_true, wr64, hR0]
  split
  · rename_i c
    have : s ≠ T := by rintro rfl; exact c hd
    omega
  · rename_i c
    have c : s % R = 0 := by simpa using c
    -- multiples less than R apart
    by_cases d : s = T
    · exact d
    · exfalso
      have e1 := Int.ediv_mul_add_emod s R
      have e2 := Int.ediv_mul_add_emod T R
      rw [c] at e1
      rw [hd] at e2
      have h3 : s / R * R < T / R * R := by omega
      have h4 : s / R < T / R := Int.lt_of_mul_lt_mul_right h3 (by omega)
      have h5 : (s / R + 1) * R ≤ T / R * R := Int.mul_le_mul_of_nonneg_right (by omega) (by omega)
      rw [Int.add_mul, Int.one_mul] at h5
      omega
theorem F25_ret (l : List Int) (h : l.length ≤ 20) : F25 l l = some true := by
  have key : Ret (L25_4 l l 0) fun x => x = .inl () := by
    unfold L25_4
    refine Ret.loop l.length (fun i s => s = (i : Int)) rfl ?_ ?_
    · rintro i s hi rfl
      unfold B25_4
      simp (disch := omega) only [Ret_some, Ret_none, Ret_bind, Ret_asrt, Ret_cond, Sum.elim_inl, Sum.elim_inr, decide_eq_true_eq, decide_eq_false_iff_not, Bool.not_eq_true', Bool.not_not, Bool.and_eq_true, Bool.or_eq_true, Bool.true_eq_false, Bool.false_eq_true, Bool.not_true, Bool.not_false, if_true, if_false, ite_true, ite_false, true_and, and_true, false_and, and_false, Int.toNat_natCast, toN_succ, Int.ofNat_eq_natCast, Int.ofNat_toNat, Nat.zero_add, Nat.add_zero, not_true_eq_false, not_false_eq_true, implies_true, wr64]
      rw [if_pos (by omega)]
      refine ⟨by omega, by omega, ?_⟩
      simp
    · rintro s rfl
      unfold B25_4
      simp (disch := omega) only [Ret_some, Ret_none, Ret_bind, Ret_asrt, Ret_cond, Sum.elim_inl, Sum.elim_inr, decide_eq_true_eq, decide_eq_false_iff_not, Bool.not_eq_true', Bool.not_not, Bool.and_eq_true, Bool.or_eq_true, Bool.true_eq_false, Bool.false_eq_true, Bool.not_true, Bool.not_false, if_true, if_false, ite_true, ite_false, true_and, and_true, false_and, and_false, Int.toNat_natCast, toN_succ, Int.ofNat_eq_natCast, Int.ofNat_toNat, Nat.zero_add, Nat.add_zero, not_true_eq_false, not_false_eq_true, implies_true, wr64]
      rw [if_neg (by omega)]
      trivial
  obtain ⟨x, hx, rfl⟩ := key
  unfold F25
  rw [hx]
  simp
theorem price_ret (a0 : TTariff) (a1 : TTrip) (h : ∀ x ∈ a0.rules, FitT x.if0) (hb : Fit a0.bands) (hr : Fit a0.rules) (hz : Fit a1.zones) (h0 : F20 a0 = some 0) (k0 : F22 a1 = some 0) :
    ∃ o : Int × List Int, o.2.length ≤ 20 ∧ F83 a0 a1 = some o ∧ F24 a0 a1 = some o := by
  obtain ⟨hB, hn, hR, hbo, hru⟩ := F20_inv a0 h hb hr h0
  obtain ⟨hkm, hz1, hz2⟩ := F22_inv k0
  unfold F83 F24
  have hp : ∃ p, (bif TTariff.byKm a0 then some (TTrip.km a1) else some ((TTrip.zones a1).length : Int)) = some p := by
    cases a0.byKm
    · exact ⟨_, rfl⟩
    · exact ⟨_, rfl⟩
  obtain ⟨p, hp⟩ := hp
  rw [hp]
  simp only [Option.bind_some]
  obtain ⟨⟨o1, o2⟩, e133, i, hi, hi2, hi3⟩ := F133_ret a0.bands p hB.1 hB.2
  simp only at hi2 hi3
  have hil := hi.1
  have hpr := hbo i hil
  obtain ⟨o, ho2, ho1, ho3⟩ := rules_ret h hz hz1 hn hru (v := (a0.bands.getD i TBand.d).price) hpr
  have hlen : o.2.length ≤ 20 := by
    have key : Ret (L83_10 a0 a1 ((a0.bands.getD i TBand.d).price, [], 0)) fun o => o.2.length ≤ 20 := rules_len h hz hz1 hn hru _ hpr
    obtain ⟨o', e, k⟩ := key
    rw [ho2] at e
    cases e
    exact k
  have ew : IntKind.wrap .i64 ((a0.bands.length : Int) - 1) = (a0.bands.length : Int) - 1 := wr64 (by omega) (by omega)
  have el : ((a0.bands.length : Int) - 1).toNat = a0.bands.length - 1 := by omega
  refine ⟨(((o.1 + a0.round - 1) / a0.round * a0.round), o.2), hlen, ?_, ?_⟩
  · rw [e133]
    simp only [Option.bind_some]
    have e2 : (bif decide (o1 < 0) then some (IntKind.wrap .i64 ((a0.bands.length : Int) - 1)) else some o1) = some (i : Int) := by
      rw [ew, ← hi2]
      by_cases c : o1 < 0
      · simp [c]
      · simp [c]
    rw [e2]
    simp only [Option.bind_some, asrt, if_pos (show 0 ≤ (i : Int) ∧ (i : Int) < (a0.bands.length : Int) by omega), Int.toNat_natCast, ho2, decide_eq_false (show a0.round ≠ 0 by omega), Bool.not_false, cond_true]
    have hq : 0 ≤ (o.1 + a0.round - 1) / a0.round * a0.round ∧ (o.1 + a0.round - 1) / a0.round * a0.round ≤ o.1 + a0.round - 1 := by
      have e := Int.ediv_mul_add_emod (o.1 + a0.round - 1) a0.round
      have m1 := Int.emod_nonneg (o.1 + a0.round - 1) (show a0.round ≠ 0 by omega)
      have m2 := Int.emod_lt_of_pos (o.1 + a0.round - 1) (show 0 < a0.round by omega)
      refine ⟨?_, by omega⟩
      exact Int.mul_nonneg (Int.ediv_nonneg (by omega) (by omega)) (by omega)
    have hq2 : 0 ≤ (o.1 + a0.round - 1) / a0.round ∧ (o.1 + a0.round - 1) / a0.round ≤ o.1 + a0.round - 1 :=
      ⟨Int.ediv_nonneg (by omega) (by omega), Int.ediv_le_self _ (by omega)⟩
    rw [wr64 (x := o.1 + a0.round) (by omega) (by omega), wr64 (x := o.1 + a0.round - 1) (by omega) (by omega), Int.tdiv_eq_ediv_of_nonneg (by omega), wr64 (x := (o.1 + a0.round - 1) / a0.round) (by omega) (by omega), wr64 (by omega) (by omega)]
  · rw [ew, el, L24_6_ret a0 p hB.1 hB.2 i hi]
    simp only [asrt, if_pos (show 0 ≤ (a0.bands.length : Int) - 1 ∧ (a0.bands.length : Int) - 1 < (a0.bands.length : Int) by omega), Option.bind_some, ho3]
    rw [round_ret a0 hR o.1 ho1]
    rfl
/-! ### powers modulo a number -/
theorem tmod_nn {a b : Int} (ha : 0 ≤ a) : Int.tmod a b = a % b := by
  rw [Int.tmod_eq_emod_of_nonneg ha]
theorem mod_rng {a n : Int} (hn : 0 < n) : 0 ≤ a % n ∧ a % n < n := ⟨Int.emod_nonneg _ (by omega), Int.emod_lt_of_pos _ hn⟩
theorem mul_rng {a b n : Int} (ha : 0 ≤ a ∧ a < n) (hb : 0 ≤ b ∧ b < n) (hn : n ≤ 1072497001) : 0 ≤ a * b ∧ a * b < 9223372036854775808 := by
  constructor
  · exact Int.mul_nonneg ha.1 hb.1
  · have h1 : a * b ≤ 1072497001 * 1072497001 := Int.mul_le_mul (by omega) (by omega) hb.1 (by omega)
    have : (1072497001 : Int) * 1072497001 < 9223372036854775808 := by decide
    omega
def pw (a n : Int) (k : Nat) : Int := a ^ k % n
theorem mul_mod_l (a b n : Int) : (a % n * b) % n = (a * b) % n := by rw [Int.mul_emod, Int.emod_emod_of_dvd _ (Int.dvd_refl n), ← Int.mul_emod]
theorem mul_mod_r (a b n : Int) : (a * (b % n)) % n = (a * b) % n := by rw [Int.mul_emod, Int.emod_emod_of_dvd _ (Int.dvd_refl n), ← Int.mul_emod]
theorem shr1 (v : Int) : shrI .i64 v 1 = v / 2 := by
  unfold shrI
  show v.fdiv (2 ^ min (1 : Int).toNat 64) = v / 2
  rw [show (2 : Int) ^ min (1 : Int).toNat 64 = 2 from by decide]
  exact Int.fdiv_eq_ediv_of_nonneg v (by decide)
theorem and1 (v : Int) (h : 0 ≤ v) (h2 : v < 9223372036854775808) : andI .i64 v 1 = v % 2 := by
  unfold andI
  have e : (BitVec.ofInt IntKind.i64.bits v &&& BitVec.ofInt IntKind.i64.bits 1).toNat = (v % 2).toNat := by
    rw [BitVec.toNat_and]
    show (BitVec.ofInt 64 v).toNat &&& (BitVec.ofInt 64 1).toNat = _
    rw [show (BitVec.ofInt 64 1).toNat = 1 from rfl, Nat.and_one_is_mod, BitVec.toNat_ofInt]
    omega
  rw [e, wr64 (by omega) (by omega)]
  omega
theorem pw_two (x : Int) (q : Nat) : x ^ (2 * q) = (x * x) ^ q := by
  rw [Int.pow_mul]
  congr 1
  rw [Int.pow_succ, Int.pow_succ, Int.pow_zero, Int.one_mul]
theorem pw_odd (x : Int) (q : Nat) : x ^ (2 * q + 1) = (x * x) ^ q * x := by rw [Int.pow_succ, pw_two]
theorem pow_mod (x n : Int) : ∀ k : Nat, (x % n) ^ k % n = x ^ k % n
  | 0 => by rw [Int.pow_zero, Int.pow_zero]
  | k + 1 => by rw [Int.pow_succ, Int.pow_succ, mul_mod_r, Int.mul_emod, pow_mod x n k, ← Int.mul_emod]
theorem bitI (v i : Nat) (hv : v < 9223372036854775808) : andI .i64 (shrI .i64 (v : Int) (i : Int)) 1 = ((v / 2 ^ i % 2 : Nat) : Int) := by
  have e : shrI .i64 (v : Int) (i : Int) = ((v / 2 ^ min i 64 : Nat) : Int) := by
    unfold shrI
    show (v : Int).fdiv (2 ^ min (i : Int).toNat 64) = _
    rw [Int.toNat_natCast, Int.fdiv_eq_ediv_of_nonneg _ (Int.le_of_lt (Int.pow_pos (by decide))), Int.natCast_ediv, Int.natCast_pow]
    rfl
  have h2 : v / 2 ^ min i 64 = v / 2 ^ i := by
    by_cases c : i ≤ 64
    · rw [Nat.min_eq_left c]
    · have h1 : (2 : Nat) ^ 64 ≤ 2 ^ i := Nat.pow_le_pow_right (by omega) (by omega)
      have h0 : (2 : Nat) ^ 64 = 18446744073709551616 := by decide
      rw [Nat.min_eq_right (by omega), Nat.div_eq_of_lt (by omega), Nat.div_eq_of_lt (by omega)]
  rw [e, h2, and1 _ (Int.natCast_nonneg _) (by have := Nat.div_le_self v (2 ^ i); omega)]
  omega
def bitS (v i : Nat) : Bool := decide (v / 2 ^ i % 2 = 1)
theorem bit0 (v i : Nat) (hv : v < 9223372036854775808) : decide (andI .i64 (shrI .i64 (v : Int) (i : Int)) 1 = 0) = !bitS v i := by
  rw [bitI v i hv]; unfold bitS
  have : v / 2 ^ i % 2 < 2 := Nat.mod_lt _ (by omega)
  by_cases c : v / 2 ^ i % 2 = 1
  · simp [c]
  · have : v / 2 ^ i % 2 = 0 := by omega
    simp [this]
theorem bit1 (v i : Nat) (hv : v < 9223372036854775808) : decide (andI .i64 (shrI .i64 (v : Int) (i : Int)) 1 = 1) = bitS v i := by
  rw [bitI v i hv]; unfold bitS
  by_cases c : v / 2 ^ i % 2 = 1
  · simp [c]
  · simp only [c, decide_false, decide_eq_false_iff_not]; omega
theorem shl1 (n : Nat) (h : n < 63) : shlI .i64 1 (n : Int) = ((2 ^ n : Nat) : Int) := by
  have : ∀ n : Fin 63, shlI .i64 1 ((n.val : Nat) : Int) = ((2 ^ n.val : Nat) : Int) := by decide
  exact this ⟨n, h⟩
theorem bits_zero : ∀ (n v : Nat), v < 2 ^ n → (∀ i, i < n → bitS v i = false) → v = 0
  | 0, v, h, _ => by simpa using h
  | n + 1, v, h, hb => by
    have h0 := hb 0 (by omega)
    have hv : v / 2 = 0 := bits_zero n (v / 2) (by rw [Nat.pow_succ] at h; omega) fun i hi => by
      have := hb (i + 1) (by omega)
      unfold bitS at this ⊢
      rwa [Nat.pow_succ, Nat.mul_comm, ← Nat.div_div_eq_div_mul] at this
    unfold bitS at h0
    have : ¬ (v % 2 = 1) := by simpa using h0
    omega
theorem loop_step {S X : Type} {B : S → Option (S ⊕ X)} {s : S} : loopW B s = (B s).bind (Sum.elim (loopW B) some) := by
  rw [loopW_eq]
  congr 1
  funext o
  cases o <;> rfl
/-! ### passes -/
theorem L82_47 (a2 : List TPass) (v : Int) : L82_2 (a2.getD v.toNat TPass.d).zones true = L47_19 a2 v := by
  funext s
  unfold L82_2 L47_19
  refine loopW_congr (fun s => ?_) s
  unfold B82_2 B47_19
  simp only [F79_eq, F81_eq, cond_true]
  generalize (a2.getD v.toNat TPass.d).zones = z
  generalize IntKind.wrap .i64 (s - 1) = t
  by_cases c1 : z.getD s.toNat 0 = z.getD t.toNat 0
  · have : z.getD s.toNat 0 ≤ z.getD t.toNat 0 := by omega
    simp only [c1, Int.le_refl, decide_true, cond_true]
  · by_cases c2 : z.getD s.toNat 0 < z.getD t.toNat 0
    · have : z.getD s.toNat 0 ≤ z.getD t.toNat 0 := by omega
      simp only [c1, c2, this, decide_true, decide_false, cond_true, cond_false]
    · have : ¬ z.getD s.toNat 0 ≤ z.getD t.toNat 0 := by omega
      simp only [c1, c2, this, decide_false, cond_false]
theorem L47_19_ret (a2 : List TPass) (v : Nat) (h : Fit (a2.getD v TPass.d).zones) : Ret (L47_19 a2 (v : Int) 0) fun x => match x with | .inl _ => True | .inr r => r ≠ 0 := by
  unfold Fit at h
  unfold L47_19
  refine Ret.loop (a2.getD v TPass.d).zones.length (fun i s => s = (i : Int)) rfl ?_ ?_
  · rintro i s hi rfl
    unfold B47_19
    simp (disch := omega) only [Ret_some, Ret_none, Ret_bind, Ret_asrt, Ret_cond, Sum.elim_inl, Sum.elim_inr, decide_eq_true_eq, decide_eq_false_iff_not, Bool.not_eq_true', Bool.not_not, Bool.and_eq_true, Bool.or_eq_true, Bool.true_eq_false, Bool.false_eq_true, Bool.not_true, Bool.not_false, if_true, if_false, ite_true, ite_false, true_and, and_true, false_and, and_false, Int.toNat_natCast, toN_succ, Int.ofNat_eq_natCast, Int.ofNat_toNat, Nat.zero_add, Nat.add_zero, not_true_eq_false, not_false_eq_true, implies_true, wr64, F81_eq]
    rw [if_pos (by omega)]
    refine ⟨by omega, ?_⟩
    split
    · omega
    · split
      · refine ⟨by omega, ?_⟩
        split
        · omega
        · omega
      · omega
  · rintro s rfl
    unfold B47_19
    simp (disch := omega) only [Ret_some, Ret_none, Ret_bind, Ret_asrt, Ret_cond, Sum.elim_inl, Sum.elim_inr, decide_eq_true_eq, decide_eq_false_iff_not, Bool.not_eq_true', Bool.not_not, Bool.and_eq_true, Bool.or_eq_true, Bool.true_eq_false, Bool.false_eq_true, Bool.not_true, Bool.not_false, if_true, if_false, ite_true, ite_false, true_and, and_true, false_and, and_false, Int.toNat_natCast, toN_succ, Int.ofNat_eq_natCast, Int.ofNat_toNat, Nat.zero_add, Nat.add_zero, not_true_eq_false, not_false_eq_true, implies_true, wr64]
    rw [if_neg (by omega)]
    trivial
def passOk (p : TPass) : Prop := (1 ≤ p.days ∧ p.days ≤ 7) ∧ (0 ≤ p.price ∧ p.price ≤ 100000)
theorem passes_ret (a2 : List TPass) (h : ∀ p ∈ a2, Fit p.zones) (hl : a2.length ≤ 2) :
    Ret (L46_17 a2 0) fun x => match x with | .inl _ => L47_14 a2 0 = some (.inl ()) ∧ ∀ i, i < a2.length → passOk (a2.getD i TPass.d) | .inr r => r.1 = 0 ∧ r.2.1 = [] ∧ r.2.2 ≠ 0 ∧ L47_14 a2 0 = some (.inr r.2.2) := by
  unfold L46_17
  refine Ret.loop a2.length (fun i s => s = (i : Int) ∧ L47_14 a2 0 = L47_14 a2 (i : Int) ∧ ∀ j, j < i → passOk (a2.getD j TPass.d)) ⟨rfl, rfl, fun j hj => by omega⟩ ?_ ?_
  · rintro i s hi ⟨rfl, he, hj⟩
    obtain ⟨x, hx, hx2⟩ := L47_19_ret a2 i (h _ (getD_mem hi))
    have hb : L47_14 a2 (i : Int) = (B47_14 a2 (i : Int)).bind (Sum.elim (L47_14 a2) some) := loop_step
    have h82 : F82 (a2.getD i TPass.d).zones true = some (Sum.elim (fun _ => 0) id x) := by
      have := L82_47 a2 (i : Int)
      rw [Int.toNat_natCast] at this
      unfold F82
      rw [this, hx]
      cases x <;> rfl
    have c0 : (i : Int) < (a2.length : Int) := by omega
    have c1 : (0 : Int) ≤ (i : Int) ∧ (i : Int) < (a2.length : Int) := by omega
    unfold B46_17
    unfold B47_14 at hb
    simp only [c0, decide_true, cond_true, asrt, if_pos c1, Int.toNat_natCast, F81_eq, Option.bind_some, hx] at hb
    simp only [c0, decide_true, cond_true, asrt, if_pos c1, Int.toNat_natCast, F79_eq, Option.bind_some, h82]
    have hw : IntKind.wrap .i64 ((i : Int) + 1) = ((i + 1 : Nat) : Int) := by rw [wr64 (by omega) (by omega)]; rfl
    rw [hw] at hb ⊢
    by_cases d1 : 1 ≤ (a2.getD i TPass.d).days ∧ (a2.getD i TPass.d).days ≤ 7
    · by_cases d2 : 0 ≤ (a2.getD i TPass.d).price ∧ (a2.getD i TPass.d).price ≤ 100000
      · simp only [d1, d2, and_self, decide_true, Bool.not_true, cond_false] at hb ⊢
        cases x with
        | inl u =>
          simp only [Sum.elim_inl, Option.bind_some] at hb ⊢
          simp only [decide_true, Bool.not_true, cond_false]
          refine Ret_some.2 ⟨rfl, he.trans hb, fun j hj2 => ?_⟩
          by_cases e : j = i
          · subst e; exact ⟨d1, d2⟩
          · exact hj j (by omega)
        | inr r =>
          simp only at hx2
          simp only [Sum.elim_inr, Option.bind_some, id_eq] at hb ⊢
          simp only [hx2, decide_false, Bool.not_false, cond_true]
          exact Ret_some.2 ⟨rfl, rfl, hx2, he.trans hb⟩
      · simp only [d1, d2, and_self, decide_true, decide_false, Bool.not_true, Bool.not_false, cond_false, cond_true] at hb ⊢
        exact Ret_some.2 ⟨rfl, rfl, by simp, he.trans hb⟩
    · simp only [d1, decide_false, Bool.not_false, cond_true] at hb ⊢
      exact Ret_some.2 ⟨rfl, rfl, by simp, he.trans hb⟩
  · rintro s ⟨rfl, he, hj⟩
    have hb : L47_14 a2 (a2.length : Int) = (B47_14 a2 (a2.length : Int)).bind (Sum.elim (L47_14 a2) some) := loop_step
    unfold B47_14 at hb
    unfold B46_17
    simp only [Int.lt_irrefl, decide_false, cond_false, Option.bind_some] at hb ⊢
    exact Ret_some.2 ⟨he.trans hb, hj⟩
/-! ### trips -/
def pricesOk (a0 : TTariff) (a1 : List TTrip) (p : List Int) : Prop := p.length = a1.length ∧ ∀ i, i < a1.length → ∃ l, F24 a0 (a1.getD i TTrip.d) = some (p.getD i 0, l)
theorem trips_ret (a0 : TTariff) (a1 : List TTrip) (h : ∀ x ∈ a0.rules, FitT x.if0) (hb : Fit a0.bands) (hr : Fit a0.rules) (h0 : F20 a0 = some 0) (hz : ∀ t ∈ a1, Fit t.zones) (hl : a1.length ≤ 12) :
    Ret (L46_8 a0 a1 ([], 0)) fun x => match x with | .inl p => L47_7 a1 0 = some (.inl ()) ∧ pricesOk a0 a1 p | .inr r => r.1 = 0 ∧ r.2.1 = [] ∧ r.2.2 ≠ 0 ∧ L47_7 a1 0 = some (.inr r.2.2) := by
  unfold L46_8
  refine Ret.loop a1.length (fun i s => s.2 = (i : Int) ∧ L47_7 a1 0 = L47_7 a1 (i : Int) ∧ s.1.length = i ∧ ∀ j, j < i → ∃ l, F24 a0 (a1.getD j TTrip.d) = some (s.1.getD j 0, l)) ⟨rfl, rfl, rfl, fun j hj => by omega⟩ ?_ ?_
  · rintro i ⟨p, s⟩ hi ⟨rfl, he, hp, hj⟩
    simp only at he hp hj
    have hzi := hz _ (getD_mem (d := TTrip.d) hi)
    obtain ⟨y, hy, _⟩ := F22_ret _ hzi
    have hbb : L47_7 a1 (i : Int) = (B47_7 a1 (i : Int)).bind (Sum.elim (L47_7 a1) some) := loop_step
    have c0 : (i : Int) < (a1.length : Int) := by omega
    have c1 : (0 : Int) ≤ (i : Int) ∧ (i : Int) < (a1.length : Int) := by omega
    have hw : IntKind.wrap .i64 ((i : Int) + 1) = ((i + 1 : Nat) : Int) := by rw [wr64 (by omega) (by omega)]; rfl
    unfold B46_8
    unfold B47_7 at hbb
    simp only [c0, decide_true, cond_true, asrt, if_pos c1, Int.toNat_natCast, Option.bind_some, hy, hw] at hbb
    simp only [c0, decide_true, cond_true, asrt, if_pos c1, Int.toNat_natCast, Option.bind_some, F21_eq, hy, hw]
    by_cases d : y = 0
    · subst d
      obtain ⟨o, _, h1, h2⟩ := price_ret a0 _ h hb hr hzi h0 hy
      have c2 : ((p.length : Nat) : Int) + 1 ≤ 140737488355328 ∧ (((p.length : Nat) : Int) + 1) * 8 ≤ 140737488355328 := by omega
      have c3 : p.length + 1 ≤ 140737488355328 ∧ (p.length + 1) * 8 ≤ 140737488355328 := by omega
      simp only [decide_true, Bool.not_true, cond_false, Option.bind_some] at hbb
      simp only [decide_true, Bool.not_true, cond_false, h1, Option.bind_some]
      first | rw [if_pos c3] | rw [if_pos c2]
      refine Ret_some.2 ⟨rfl, he.trans hbb, by simp [hp], fun j hj2 => ?_⟩
      by_cases e : j = i
      · subst e
        refine ⟨o.2, ?_⟩
        rw [h2]
        have : (p ++ [o.1]).getD p.length 0 = o.1 := by simp
        rw [hp] at this
        rw [this]
      · obtain ⟨l, hl2⟩ := hj j (by omega)
        refine ⟨l, ?_⟩
        have : (p ++ [o.1]).getD j 0 = p.getD j 0 := by
          rw [List.getD_eq_getElem?_getD, List.getD_eq_getElem?_getD, List.getElem?_append_left (by omega)]
        rw [this]; exact hl2
    · simp only [d, decide_false, Bool.not_false, cond_true, Option.bind_some] at hbb
      simp only [d, decide_false, Bool.not_false, cond_true]
      exact Ret_some.2 ⟨rfl, rfl, d, he.trans hbb⟩
  · rintro ⟨p, s⟩ ⟨rfl, he, hp, hj⟩
    simp only at he hp hj
    have hbb : L47_7 a1 (a1.length : Int) = (B47_7 a1 (a1.length : Int)).bind (Sum.elim (L47_7 a1) some) := loop_step
    unfold B47_7 at hbb
    unfold B46_8
    simp only [Int.lt_irrefl, decide_false, cond_false, Option.bind_some] at hbb ⊢
    exact Ret_some.2 ⟨he.trans hbb, hp, hj⟩
/-! ### what is bought -/
def goodB (a2 : List TPass) (l : List TBuy) : Prop := l.length ≤ 14 ∧ ∀ i, i < l.length → (0 ≤ (l.getD i TBuy.d).day ∧ (l.getD i TBuy.d).day ≤ 6) ∧ (0 ≤ (l.getD i TBuy.d).pass ∧ (l.getD i TBuy.d).pass < (a2.length : Int))
theorem getD_snoc {α : Type} {l : List α} {x d : α} {i : Nat} : (l ++ [x]).getD i d = if i < l.length then l.getD i d else if i = l.length then x else d := by
  simp only [List.getD_eq_getElem?_getD]
  by_cases h : i < l.length
  · rw [if_pos h, List.getElem?_append_left h]
  · rw [if_neg h, List.getElem?_append_right (by omega)]
    by_cases e : i = l.length
    · subst e; simp
    · rw [if_neg e]
      have : i - l.length = (i - l.length - 1) + 1 := by omega
      rw [this]; simp
theorem buys_ret (a2 : List TPass) (hl : a2.length ≤ 2) (v : Nat) (hv : v < 9223372036854775808) : Ret (L46_32 a2 (v : Int) ([], 0)) (goodB a2) := by
  unfold L46_32
  refine Ret.loop (7 * a2.length) (fun i s => s.2 = (i : Int) ∧ s.1.length ≤ i ∧ ∀ j, j < s.1.length → (0 ≤ (s.1.getD j TBuy.d).day ∧ (s.1.getD j TBuy.d).day ≤ 6) ∧ (0 ≤ (s.1.getD j TBuy.d).pass ∧ (s.1.getD j TBuy.d).pass < (a2.length : Int))) ⟨rfl, by simp, fun j hj => by simp at hj⟩ ?_ ?_
  · rintro i ⟨l, u⟩ hi ⟨rfl, hn, hj⟩
    simp only at hn hj
    have e0 : (0 : Int) ≤ (i : Int) := Int.natCast_nonneg i
    have ed : Int.tdiv (i : Int) (a2.length : Int) = (i : Int) / (a2.length : Int) := Int.tdiv_eq_ediv_of_nonneg e0
    have em : Int.tmod (i : Int) (a2.length : Int) = (i : Int) % (a2.length : Int) := tmod_nn e0
    have hr : (0 ≤ (i : Int) / (a2.length : Int) ∧ (i : Int) / (a2.length : Int) ≤ 6) ∧ (0 ≤ (i : Int) % (a2.length : Int) ∧ (i : Int) % (a2.length : Int) < (a2.length : Int)) := by
      have : a2.length = 1 ∨ a2.length = 2 := by omega
      rcases this with e | e <;> rw [e] at hi ⊢ <;> omega
    unfold B46_32
    simp (disch := omega) only [Ret_some, Ret_none, Ret_bind, Ret_asrt, Ret_cond, Sum.elim_inl, Sum.elim_inr, decide_eq_true_eq, decide_eq_false_iff_not, Bool.not_eq_true', Bool.not_not, Bool.and_eq_true, Bool.or_eq_true, Bool.true_eq_false, Bool.false_eq_true, Bool.not_true, Bool.not_false, if_true, if_false, ite_true, ite_false, true_and, and_true, false_and, and_false, Int.toNat_natCast, toN_succ, Int.ofNat_eq_natCast, Int.ofNat_toNat, Nat.zero_add, Nat.add_zero, not_true_eq_false, not_false_eq_true, implies_true, wr64, bit1 v i hv, ed, em, List.length_append, List.length_singleton]
    rw [if_pos (by omega), if_pos (by omega)]
    split
    · rw [if_pos (by omega)]
      first | rw [if_pos (by omega)] | skip
      refine ⟨by omega, by omega, by omega, fun j hj2 => ?_⟩
      rw [getD_snoc]
      by_cases c : j < l.length
      · rw [if_pos c]; exact hj j c
      · rw [if_neg c, if_pos (by omega)]
        exact hr
    · exact ⟨by omega, by omega, hj⟩
  · rintro ⟨l, u⟩ ⟨rfl, hn, hj⟩
    simp only at hn hj
    unfold B46_32
    simp (disch := omega) only [Ret_some, Ret_none, Ret_bind, Ret_asrt, Ret_cond, Sum.elim_inl, Sum.elim_inr, decide_eq_true_eq, decide_eq_false_iff_not, Bool.not_eq_true', Bool.not_not, Bool.and_eq_true, Bool.or_eq_true, Bool.true_eq_false, Bool.false_eq_true, Bool.not_true, Bool.not_false, if_true, if_false, ite_true, ite_false, true_and, and_true, false_and, and_false, Int.toNat_natCast, toN_succ, Int.ofNat_eq_natCast, Int.ofNat_toNat, Nat.zero_add, Nat.add_zero, not_true_eq_false, not_false_eq_true, implies_true, wr64]
    rw [if_neg (by omega)]
    exact ⟨by omega, hj⟩
theorem L48_9_eq : L48_9 = L46_32 := rfl
theorem L108_3_eq : L108_3 = L46_39 := rfl
theorem sum_ret (a2 : List TPass) (l : List TBuy) (h : goodB a2 l) : Ret (L46_39 a2 l (0, 0)) fun _ => True := by
  obtain ⟨h1, h2⟩ := h
  unfold L46_39
  refine Ret.loop l.length (fun i s => s.2 = (i : Int)) rfl ?_ ?_
  · rintro i ⟨q, u⟩ hi rfl
    have := h2 i hi
    unfold B46_39
    simp (disch := omega) only [Ret_some, Ret_none, Ret_bind, Ret_asrt, Ret_cond, Sum.elim_inl, Sum.elim_inr, decide_eq_true_eq, decide_eq_false_iff_not, Bool.not_eq_true', Bool.not_not, Bool.and_eq_true, Bool.or_eq_true, Bool.true_eq_false, Bool.false_eq_true, Bool.not_true, Bool.not_false, if_true, if_false, ite_true, ite_false, true_and, and_true, false_and, and_false, Int.toNat_natCast, toN_succ, Int.ofNat_eq_natCast, Int.ofNat_toNat, Nat.zero_add, Nat.add_zero, not_true_eq_false, not_false_eq_true, implies_true, wr64]
    rw [if_pos (by omega)]
    exact ⟨by omega, by omega, by omega⟩
  · rintro ⟨q, u⟩ rfl
    unfold B46_39
    simp (disch := omega) only [Ret_some, Ret_none, Ret_bind, Ret_asrt, Ret_cond, Sum.elim_inl, Sum.elim_inr, decide_eq_true_eq, decide_eq_false_iff_not, Bool.not_eq_true', Bool.not_not, Bool.and_eq_true, Bool.or_eq_true, Bool.true_eq_false, Bool.false_eq_true, Bool.not_true, Bool.not_false, if_true, if_false, ite_true, ite_false, true_and, and_true, false_and, and_false, Int.toNat_natCast, toN_succ, Int.ofNat_eq_natCast, Int.ofNat_toNat, Nat.zero_add, Nat.add_zero, not_true_eq_false, not_false_eq_true, implies_true, wr64]
    rw [if_neg (by omega)]
    trivial
/-! ### what is covered -/
noncomputable def con (l : List Int) (z : Int) : Bool := (F87 l z).getD false
theorem F87_con (l : List Int) (h : Fit l) (z : Int) : F87 l z = some (con l z) := by
  obtain ⟨o, h, _⟩ := F87_ret l h z
  unfold con
  rw [h]; rfl
noncomputable def allC (p : TPass) (t : TTrip) : Bool := (List.range t.zones.length).all fun j => con p.zones (t.zones.getD j 0)
theorem allC_iff (p : TPass) (t : TTrip) : allC p t = true ↔ ∀ j, j < t.zones.length → con p.zones (t.zones.getD j 0) = true := by
  unfold allC
  simp [List.all_eq_true, List.mem_range]
theorem allC_false {p : TPass} {t : TTrip} {j : Nat} (hj : j < t.zones.length) (h : con p.zones (t.zones.getD j 0) = false) : allC p t = false := by
  rw [Bool.eq_false_iff]
  intro c
  have := (allC_iff p t).1 c j hj
  rw [h] at this; simp at this
theorem F62_ret (p : TPass) (hp : Fit p.zones) (t : TTrip) (hz : Fit t.zones) : F62 t.zones p = some (!allC p t) := by
  unfold Fit at hz
  refine Ret.eq ?_
  unfold F62 F116
  simp (disch := omega) only [Ret_some, Ret_none, Ret_bind, Ret_asrt, Ret_cond, Sum.elim_inl, Sum.elim_inr, decide_eq_true_eq, decide_eq_false_iff_not, Bool.not_eq_true', Bool.not_not, Bool.and_eq_true, Bool.or_eq_true, Bool.true_eq_false, Bool.false_eq_true, Bool.not_true, Bool.not_false, if_true, if_false, ite_true, ite_false, true_and, and_true, false_and, and_false, Int.toNat_natCast, toN_succ, Int.ofNat_eq_natCast, Int.ofNat_toNat, Nat.zero_add, Nat.add_zero, not_true_eq_false, not_false_eq_true, implies_true, wr64]
  refine Ret.mono (Q := fun x => match x with | .inl _ => allC p t = true | .inr q => 0 ≤ q ∧ allC p t = false) ?_ ?_
  · unfold L116_2
    refine Ret.loop t.zones.length (fun i s => s = (i : Int) ∧ ∀ j, j < i → con p.zones (t.zones.getD j 0) = true) ⟨rfl, fun j hj => by omega⟩ ?_ ?_
    · rintro i s hi ⟨rfl, hj⟩
      unfold B116_2 F144
      simp (disch := omega) only [Ret_some, Ret_none, Ret_bind, Ret_asrt, Ret_cond, Sum.elim_inl, Sum.elim_inr, decide_eq_true_eq, decide_eq_false_iff_not, Bool.not_eq_true', Bool.not_not, Bool.and_eq_true, Bool.or_eq_true, Bool.true_eq_false, Bool.false_eq_true, Bool.not_true, Bool.not_false, if_true, if_false, ite_true, ite_false, true_and, and_true, false_and, and_false, Int.toNat_natCast, toN_succ, Int.ofNat_eq_natCast, Int.ofNat_toNat, Nat.zero_add, Nat.add_zero, not_true_eq_false, not_false_eq_true, implies_true, wr64, F87_con _ hp]
      rw [if_pos (by omega)]
      refine ⟨by omega, ?_⟩
      split
      · rename_i c
        exact ⟨Int.natCast_nonneg _, allC_false hi (by simpa using c)⟩
      · rename_i c
        refine ⟨by omega, fun j hj2 => ?_⟩
        by_cases e : j = i
        · subst e; simpa using c
        · exact hj j (by omega)
    · rintro s ⟨rfl, hj⟩
      unfold B116_2
      simp (disch := omega) only [Ret_some, Ret_none, Ret_bind, Ret_asrt, Ret_cond, Sum.elim_inl, Sum.elim_inr, decide_eq_true_eq, decide_eq_false_iff_not, Bool.not_eq_true', Bool.not_not, Bool.and_eq_true, Bool.or_eq_true, Bool.true_eq_false, Bool.false_eq_true, Bool.not_true, Bool.not_false, if_true, if_false, ite_true, ite_false, true_and, and_true, false_and, and_false, Int.toNat_natCast, toN_succ, Int.ofNat_eq_natCast, Int.ofNat_toNat, Nat.zero_add, Nat.add_zero, not_true_eq_false, not_false_eq_true, implies_true, wr64]
      rw [if_neg (by omega)]
      exact (allC_iff p t).2 hj
  · rintro (⟨⟩ | q) h
    · simp (disch := omega) only [Ret_some, Ret_none, Ret_bind, Ret_asrt, Ret_cond, Sum.elim_inl, Sum.elim_inr, decide_eq_true_eq, decide_eq_false_iff_not, Bool.not_eq_true', Bool.not_not, Bool.and_eq_true, Bool.or_eq_true, Bool.true_eq_false, Bool.false_eq_true, Bool.not_true, Bool.not_false, if_true, if_false, ite_true, ite_false, true_and, and_true, false_and, and_false, Int.toNat_natCast, toN_succ, Int.ofNat_eq_natCast, Int.ofNat_toNat, Nat.zero_add, Nat.add_zero, not_true_eq_false, not_false_eq_true, implies_true, wr64]
      simp only at h
      rw [h]; rfl
    · simp (disch := omega) only [Ret_some, Ret_none, Ret_bind, Ret_asrt, Ret_cond, Sum.elim_inl, Sum.elim_inr, decide_eq_true_eq, decide_eq_false_iff_not, Bool.not_eq_true', Bool.not_not, Bool.and_eq_true, Bool.or_eq_true, Bool.true_eq_false, Bool.false_eq_true, Bool.not_true, Bool.not_false, if_true, if_false, ite_true, ite_false, true_and, and_true, false_and, and_false, Int.toNat_natCast, toN_succ, Int.ofNat_eq_natCast, Int.ofNat_toNat, Nat.zero_add, Nat.add_zero, not_true_eq_false, not_false_eq_true, implies_true, wr64]
      simp only at h
      rw [h.2]
      simpa using h.1
theorem L146_4_ret (p : TPass) (hp : Fit p.zones) (t : TTrip) (hz : Fit t.zones) : L146_4 p t 0 = some (bif allC p t then .inl () else .inr false) := by
  unfold Fit at hz
  refine Ret.eq ?_
  unfold L146_4
  refine Ret.loop t.zones.length (fun i s => s = (i : Int) ∧ ∀ j, j < i → con p.zones (t.zones.getD j 0) = true) ⟨rfl, fun j hj => by omega⟩ ?_ ?_
  · rintro i s hi ⟨rfl, hj⟩
    unfold B146_4
    simp (disch := omega) only [Ret_some, Ret_none, Ret_bind, Ret_asrt, Ret_cond, Sum.elim_inl, Sum.elim_inr, decide_eq_true_eq, decide_eq_false_iff_not, Bool.not_eq_true', Bool.not_not, Bool.and_eq_true, Bool.or_eq_true, Bool.true_eq_false, Bool.false_eq_true, Bool.not_true, Bool.not_false, if_true, if_false, ite_true, ite_false, true_and, and_true, false_and, and_false, Int.toNat_natCast, toN_succ, Int.ofNat_eq_natCast, Int.ofNat_toNat, Nat.zero_add, Nat.add_zero, not_true_eq_false, not_false_eq_true, implies_true, wr64, F87_con _ hp]
    rw [if_pos (by omega)]
    refine ⟨by omega, ?_⟩
    split
    · rename_i c
      rw [allC_false hi c]; rfl
    · rename_i c
      refine ⟨by omega, fun j hj2 => ?_⟩
      by_cases e : j = i
      · subst e; simpa using c
      · exact hj j (by omega)
  · rintro s ⟨rfl, hj⟩
    unfold B146_4
    simp (disch := omega) only [Ret_some, Ret_none, Ret_bind, Ret_asrt, Ret_cond, Sum.elim_inl, Sum.elim_inr, decide_eq_true_eq, decide_eq_false_iff_not, Bool.not_eq_true', Bool.not_not, Bool.and_eq_true, Bool.or_eq_true, Bool.true_eq_false, Bool.false_eq_true, Bool.not_true, Bool.not_false, if_true, if_false, ite_true, ite_false, true_and, and_true, false_and, and_false, Int.toNat_natCast, toN_succ, Int.ofNat_eq_natCast, Int.ofNat_toNat, Nat.zero_add, Nat.add_zero, not_true_eq_false, not_false_eq_true, implies_true, wr64]
    rw [if_neg (by omega), (allC_iff p t).2 hj]
    rfl
noncomputable def cov (p : TPass) (d : Int) (t : TTrip) : Bool := decide (d ≤ t.day ∧ t.day ≤ d + p.days - 1) && allC p t
theorem F103_ret (p : TPass) (ho : passOk p) (hp : Fit p.zones) (d : Int) (hd : 0 ≤ d ∧ d ≤ 6) (t : TTrip) (hz : Fit t.zones) : F103 p d t = some (cov p d t) ∧ F146 p d t = some (cov p d t) := by
  unfold passOk at ho
  have e1 : IntKind.wrap .i64 (d + p.days) = d + p.days := wr64 (by omega) (by omega)
  have e2 : IntKind.wrap .i64 (d + p.days - 1) = d + p.days - 1 := wr64 (by omega) (by omega)
  unfold F103 F146 cov
  simp only [e1, e2, F79_eq, Option.bind_some, F62_ret p hp t hz, L146_4_ret p hp t hz, Bool.not_not]
  by_cases c1 : t.day < d
  · have : ¬ (d ≤ t.day ∧ t.day ≤ d + p.days - 1) := by omega
    simp [c1, this]
  · by_cases c2 : d + p.days ≤ t.day
    · have : ¬ (d ≤ t.day ∧ t.day ≤ d + p.days - 1) := by omega
      simp [c1, c2, this]
    · have : d ≤ t.day ∧ t.day ≤ d + p.days - 1 := by omega
      simp only [c1, c2, this, and_self, decide_true, decide_false, cond_true, cond_false, Bool.true_and]
      cases allC p t <;> simp
noncomputable def cvB (a2 : List TPass) (l : List TBuy) (t : TTrip) (j : Nat) : Bool := cov (a2.getD (l.getD j TBuy.d).pass.toNat TPass.d) (l.getD j TBuy.d).day t
noncomputable def anyB (a2 : List TPass) (l : List TBuy) (t : TTrip) (n : Nat) : Bool := (List.range n).any (cvB a2 l t)
theorem anyB_succ (a2 : List TPass) (l : List TBuy) (t : TTrip) (n : Nat) : anyB a2 l t (n + 1) = (anyB a2 l t n || cvB a2 l t n) := by
  unfold anyB
  rw [List.range_succ, List.any_append]
  simp
theorem anyB_true {a2 : List TPass} {l : List TBuy} {t : TTrip} {n j : Nat} (hj : j < n) (h : cvB a2 l t j = true) : anyB a2 l t n = true := by
  unfold anyB
  exact List.any_eq_true.2 ⟨j, List.mem_range.2 hj, h⟩
theorem anyB_false {a2 : List TPass} {l : List TBuy} {t : TTrip} {n : Nat} (h : ∀ j, j < n → cvB a2 l t j = false) : anyB a2 l t n = false := by
  unfold anyB
  rw [List.any_eq_false]
  intro j hj
  rw [h j (List.mem_range.1 hj)]; simp
theorem cv_ret (a2 : List TPass) (hp : ∀ p ∈ a2, Fit p.zones) (ho : ∀ i, i < a2.length → passOk (a2.getD i TPass.d)) (l : List TBuy) (h : goodB a2 l) (t : TTrip) (hz : Fit t.zones) (j : Nat) (hj : j < l.length) :
    F103 (a2.getD (l.getD j TBuy.d).pass.toNat TPass.d) (l.getD j TBuy.d).day t = some (cvB a2 l t j) ∧ F146 (a2.getD (l.getD j TBuy.d).pass.toNat TPass.d) (l.getD j TBuy.d).day t = some (cvB a2 l t j) := by
  have := h.2 j hj
  exact F103_ret _ (ho _ (by omega)) (hp _ (getD_mem (by omega))) _ (by omega) t hz
theorem F101_ret (a2 : List TPass) (hp : ∀ p ∈ a2, Fit p.zones) (ho : ∀ i, i < a2.length → passOk (a2.getD i TPass.d)) (l : List TBuy) (h : goodB a2 l) (t : TTrip) (hz : Fit t.zones) :
    F101 l a2 t.day t.at0 t.km t.age t.card t.zones = some (anyB a2 l t l.length, t.day, t.at0, t.km, t.age, t.card, t.zones) := by
  have hl := h.1
  refine Ret.eq ?_
  unfold F101 F143
  simp (disch := omega) only [Ret_some, Ret_none, Ret_bind, Ret_asrt, Ret_cond, Sum.elim_inl, Sum.elim_inr, decide_eq_true_eq, decide_eq_false_iff_not, Bool.not_eq_true', Bool.not_not, Bool.and_eq_true, Bool.or_eq_true, Bool.true_eq_false, Bool.false_eq_true, Bool.not_true, Bool.not_false, if_true, if_false, ite_true, ite_false, true_and, and_true, false_and, and_false, Int.toNat_natCast, toN_succ, Int.ofNat_eq_natCast, Int.ofNat_toNat, Nat.zero_add, Nat.add_zero, not_true_eq_false, not_false_eq_true, implies_true, wr64]
  refine Ret.mono (Q := fun x => match x with | .inl q => q = (t.day, t.at0, t.km, t.age, t.card, t.zones) ∧ anyB a2 l t l.length = false | .inr q => q.2 = (t.day, t.at0, t.km, t.age, t.card, t.zones) ∧ 0 ≤ q.1 ∧ anyB a2 l t l.length = true) ?_ ?_
  · unfold L143_2
    refine Ret.loop l.length (fun i s => s.1 = (i : Int) ∧ s.2 = (t.day, t.at0, t.km, t.age, t.card, t.zones) ∧ ∀ j, j < i → cvB a2 l t j = false) ⟨rfl, rfl, fun j hj => by omega⟩ ?_ ?_
    · rintro i ⟨u, q⟩ hi ⟨rfl, rfl, hj⟩
      have := h.2 i hi
      unfold B143_2 F102
      simp (disch := omega) only [Ret_some, Ret_none, Ret_bind, Ret_asrt, Ret_cond, Sum.elim_inl, Sum.elim_inr, decide_eq_true_eq, decide_eq_false_iff_not, Bool.not_eq_true', Bool.not_not, Bool.and_eq_true, Bool.or_eq_true, Bool.true_eq_false, Bool.false_eq_true, Bool.not_true, Bool.not_false, if_true, if_false, ite_true, ite_false, true_and, and_true, false_and, and_false, Int.toNat_natCast, toN_succ, Int.ofNat_eq_natCast, Int.ofNat_toNat, Nat.zero_add, Nat.add_zero, not_true_eq_false, not_false_eq_true, implies_true, wr64, (cv_ret a2 hp ho l h t hz i hi).1]
      rw [if_pos (by omega)]
      refine ⟨by omega, by omega, ?_⟩
      split
      · rename_i c
        exact ⟨Int.natCast_nonneg _, anyB_true hi c⟩
      · rename_i c
        refine ⟨by omega, fun j hj2 => ?_⟩
        by_cases e : j = i
        · subst e; simpa using c
        · exact hj j (by omega)
    · rintro ⟨u, q⟩ ⟨rfl, rfl, hj⟩
      unfold B143_2
      simp (disch := omega) only [Ret_some, Ret_none, Ret_bind, Ret_asrt, Ret_cond, Sum.elim_inl, Sum.elim_inr, decide_eq_true_eq, decide_eq_false_iff_not, Bool.not_eq_true', Bool.not_not, Bool.and_eq_true, Bool.or_eq_true, Bool.true_eq_false, Bool.false_eq_true, Bool.not_true, Bool.not_false, if_true, if_false, ite_true, ite_false, true_and, and_true, false_and, and_false, Int.toNat_natCast, toN_succ, Int.ofNat_eq_natCast, Int.ofNat_toNat, Nat.zero_add, Nat.add_zero, not_true_eq_false, not_false_eq_true, implies_true, wr64]
      rw [if_neg (by omega)]
      exact anyB_false hj
  · rintro (q | q) hq
    · simp only at hq
      obtain ⟨rfl, hq⟩ := hq
      simp (disch := omega) only [Ret_some, Ret_none, Ret_bind, Ret_asrt, Ret_cond, Sum.elim_inl, Sum.elim_inr, decide_eq_true_eq, decide_eq_false_iff_not, Bool.not_eq_true', Bool.not_not, Bool.and_eq_true, Bool.or_eq_true, Bool.true_eq_false, Bool.false_eq_true, Bool.not_true, Bool.not_false, if_true, if_false, ite_true, ite_false, true_and, and_true, false_and, and_false, Int.toNat_natCast, toN_succ, Int.ofNat_eq_natCast, Int.ofNat_toNat, Nat.zero_add, Nat.add_zero, not_true_eq_false, not_false_eq_true, implies_true, wr64]
      rw [hq]
      rfl
    · simp only at hq
      obtain ⟨h1, h2, h3⟩ := hq
      simp (disch := omega) only [Ret_some, Ret_none, Ret_bind, Ret_asrt, Ret_cond, Sum.elim_inl, Sum.elim_inr, decide_eq_true_eq, decide_eq_false_iff_not, Bool.not_eq_true', Bool.not_not, Bool.and_eq_true, Bool.or_eq_true, Bool.true_eq_false, Bool.false_eq_true, Bool.not_true, Bool.not_false, if_true, if_false, ite_true, ite_false, true_and, and_true, false_and, and_false, Int.toNat_natCast, toN_succ, Int.ofNat_eq_natCast, Int.ofNat_toNat, Nat.zero_add, Nat.add_zero, not_true_eq_false, not_false_eq_true, implies_true, wr64]
      rw [h3, h1]
      simp [h2]
theorem L108_12_ret (a1 : List TTrip) (a2 : List TPass) (hp : ∀ p ∈ a2, Fit p.zones) (ho : ∀ i, i < a2.length → passOk (a2.getD i TPass.d)) (l : List TBuy) (h : goodB a2 l) (k : Nat) (hz : Fit (a1.getD k TTrip.d).zones) :
    L108_12 a1 a2 l (k : Int) (false, 0) = some (anyB a2 l (a1.getD k TTrip.d) l.length) := by
  have hl := h.1
  refine Ret.eq ?_
  unfold L108_12
  refine Ret.loop l.length (fun i s => s.2 = (i : Int) ∧ s.1 = anyB a2 l (a1.getD k TTrip.d) i) ⟨rfl, rfl⟩ ?_ ?_
  · rintro i ⟨b, u⟩ hi ⟨rfl, rfl⟩
    have := h.2 i hi
    unfold B108_12
    simp (disch := omega) only [Ret_some, Ret_none, Ret_bind, Ret_asrt, Ret_cond, Sum.elim_inl, Sum.elim_inr, decide_eq_true_eq, decide_eq_false_iff_not, Bool.not_eq_true', Bool.not_not, Bool.and_eq_true, Bool.or_eq_true, Bool.true_eq_false, Bool.false_eq_true, Bool.not_true, Bool.not_false, if_true, if_false, ite_true, ite_false, true_and, and_true, false_and, and_false, Int.toNat_natCast, toN_succ, Int.ofNat_eq_natCast, Int.ofNat_toNat, Nat.zero_add, Nat.add_zero, not_true_eq_false, not_false_eq_true, implies_true, wr64, (cv_ret a2 hp ho l h _ hz i hi).2]
    rw [if_pos (by omega)]
    refine ⟨by omega, ?_⟩
    split
    · rename_i c
      refine ⟨by omega, ?_⟩
      rw [anyB_succ, c]; rfl
    · rename_i c
      refine ⟨by omega, by omega, ?_⟩
      rw [anyB_succ]
      have : anyB a2 l (a1.getD k TTrip.d) i = false := by simpa using c
      rw [this]; rfl
  · rintro ⟨b, u⟩ ⟨rfl, rfl⟩
    unfold B108_12
    simp (disch := omega) only [Ret_some, Ret_none, Ret_bind, Ret_asrt, Ret_cond, Sum.elim_inl, Sum.elim_inr, decide_eq_true_eq, decide_eq_false_iff_not, Bool.not_eq_true', Bool.not_not, Bool.and_eq_true, Bool.or_eq_true, Bool.true_eq_false, Bool.false_eq_true, Bool.not_true, Bool.not_false, if_true, if_false, ite_true, ite_false, true_and, and_true, false_and, and_false, Int.toNat_natCast, toN_succ, Int.ofNat_eq_natCast, Int.ofNat_toNat, Nat.zero_add, Nat.add_zero, not_true_eq_false, not_false_eq_true, implies_true, wr64]
    rw [if_neg (by omega)]
    trivial
theorem total_ret (a0 : TTariff) (a1 : List TTrip) (hl : a1.length ≤ 12) (hz : ∀ t ∈ a1, Fit t.zones) (a2 : List TPass) (hp : ∀ p ∈ a2, Fit p.zones) (ho : ∀ i, i < a2.length → passOk (a2.getD i TPass.d)) (l : List TBuy) (h : goodB a2 l) (p : List Int) (hpr : pricesOk a0 a1 p) (q : Int) :
    Ret (L46_44 a1 a2 p l (q, 0)) fun x => L108_8 a0 a1 a2 l (q, 0) = some x := by
  unfold L46_44
  refine Ret.loop a1.length (fun i s => s.2 = (i : Int) ∧ L108_8 a0 a1 a2 l (q, 0) = L108_8 a0 a1 a2 l s) ⟨rfl, rfl⟩ ?_ ?_
  · rintro i ⟨m, u⟩ hi ⟨rfl, he⟩
    have hzi := hz _ (getD_mem (d := TTrip.d) hi)
    obtain ⟨pl, hpl⟩ := hpr.2 i hi
    have hp1 := hpr.1
    have hbb : L108_8 a0 a1 a2 l (m, (i : Int)) = (B108_8 a0 a1 a2 l m (i : Int)).bind (Sum.elim (L108_8 a0 a1 a2 l) some) := loop_step
    have c0 : (i : Int) < (a1.length : Int) := by omega
    have c1 : (0 : Int) ≤ (i : Int) ∧ (i : Int) < (a1.length : Int) := by omega
    have c2 : (i : Int) < (p.length : Int) := by omega
    have hw : IntKind.wrap .i64 ((i : Int) + 1) = ((i + 1 : Nat) : Int) := by rw [wr64 (by omega) (by omega)]; rfl
    unfold B108_8 at hbb
    unfold B46_44
    simp only [c0, decide_true, cond_true, asrt, if_pos c1, Int.toNat_natCast, Option.bind_some, hw, L108_12_ret a1 a2 hp ho l h i hzi, hpl] at hbb
    simp only [c0, decide_true, cond_true, asrt, if_pos c1, if_pos c2, Int.toNat_natCast, Option.bind_some, hw, F101_ret a2 hp ho l h _ hzi]
    cases hb : anyB a2 l (a1.getD i TTrip.d) l.length with
    | true =>
      rw [hb] at hbb
      simp only [Bool.not_true, cond_false, Option.bind_some, Sum.elim_inl] at hbb ⊢
      exact Ret_some.2 ⟨rfl, he.trans hbb⟩
    | false =>
      rw [hb] at hbb
      simp only [Bool.not_false, cond_true, Option.bind_some, Sum.elim_inl] at hbb ⊢
      exact Ret_some.2 ⟨rfl, he.trans hbb⟩
  · rintro ⟨m, u⟩ ⟨rfl, he⟩
    have hbb : L108_8 a0 a1 a2 l (m, (a1.length : Int)) = (B108_8 a0 a1 a2 l m (a1.length : Int)).bind (Sum.elim (L108_8 a0 a1 a2 l) some) := loop_step
    unfold B108_8 at hbb
    unfold B46_44
    simp only [Int.lt_irrefl, decide_false, cond_false, Option.bind_some, Sum.elim_inr] at hbb ⊢
    exact Ret_some.2 (he.trans hbb)
/-! ### comparing -/
def sgn (a b : Int) : Int := if a < b then -1 else if b < a then 1 else 0
theorem F105_eq (a b : Int) : F105 a b = some (sgn a b) := by
  unfold F105 F145 sgn
  simp only [decide_true, Bool.not_true, Option.bind_some, cond_false]
  by_cases c : a < b
  · simp [c]
  · by_cases d : b < a
    · simp [c, d]
    · simp [c, d]
theorem F104_2 (a b : Int) : F104 [a, b] = some (if a ≠ 0 then a else b) := by
  have w0 : IntKind.wrap .i64 1 = 1 := by decide
  have w1 : IntKind.wrap .i64 2 = 2 := by decide
  have t2 : L104_3 [a, b] 2 = some (.inl ()) := by
    have : L104_3 [a, b] 2 = (B104_3 [a, b] 2).bind (Sum.elim (L104_3 [a, b]) some) := loop_step
    rw [this]; simp [B104_3]
  have t1 : L104_3 [a, b] 1 = some (if b ≠ 0 then .inr b else .inl ()) := by
    have : L104_3 [a, b] 1 = (B104_3 [a, b] 1).bind (Sum.elim (L104_3 [a, b]) some) := loop_step
    rw [this]
    by_cases c : b = 0
    · subst c; simp [B104_3, asrt, w1, t2]
    · simp [B104_3, asrt, c]
  have t0 : L104_3 [a, b] 0 = some (if a ≠ 0 then .inr a else if b ≠ 0 then .inr b else .inl ()) := by
    have : L104_3 [a, b] 0 = (B104_3 [a, b] 0).bind (Sum.elim (L104_3 [a, b]) some) := loop_step
    rw [this]
    by_cases c : a = 0
    · subst c; simp [B104_3, asrt, w0, t1]
    · simp [B104_3, asrt, c]
  unfold F104
  rw [t0]
  by_cases c : a = 0
  · by_cases d : b = 0 <;> simp [c, d]
  · simp [c]
theorem F104_3 (a b c : Int) : F104 [a, b, c] = some (if a ≠ 0 then a else if b ≠ 0 then b else c) := by
  have w0 : IntKind.wrap .i64 1 = 1 := by decide
  have w1 : IntKind.wrap .i64 2 = 2 := by decide
  have w2 : IntKind.wrap .i64 3 = 3 := by decide
  have t3 : L104_3 [a, b, c] 3 = some (.inl ()) := by
    have : L104_3 [a, b, c] 3 = (B104_3 [a, b, c] 3).bind (Sum.elim (L104_3 [a, b, c]) some) := loop_step
    rw [this]; simp [B104_3]
  have t2 : L104_3 [a, b, c] 2 = some (if c ≠ 0 then .inr c else .inl ()) := by
    have : L104_3 [a, b, c] 2 = (B104_3 [a, b, c] 2).bind (Sum.elim (L104_3 [a, b, c]) some) := loop_step
    rw [this]
    by_cases d : c = 0
    · subst d; simp [B104_3, asrt, w2, t3]
    · simp [B104_3, asrt, d]
  have t1 : L104_3 [a, b, c] 1 = some (if b ≠ 0 then .inr b else if c ≠ 0 then .inr c else .inl ()) := by
    have : L104_3 [a, b, c] 1 = (B104_3 [a, b, c] 1).bind (Sum.elim (L104_3 [a, b, c]) some) := loop_step
    rw [this]
    by_cases d : b = 0
    · subst d; simp [B104_3, asrt, w1, t2]
    · simp [B104_3, asrt, d]
  have t0 : L104_3 [a, b, c] 0 = some (if a ≠ 0 then .inr a else if b ≠ 0 then .inr b else if c ≠ 0 then .inr c else .inl ()) := by
    have : L104_3 [a, b, c] 0 = (B104_3 [a, b, c] 0).bind (Sum.elim (L104_3 [a, b, c]) some) := loop_step
    rw [this]
    by_cases d : a = 0
    · subst d; simp [B104_3, asrt, w0, t1]
    · simp [B104_3, asrt, d]
  unfold F104
  rw [t0]
  by_cases d : a = 0
  · by_cases e : b = 0
    · by_cases f : c = 0 <;> simp [d, e, f]
    · simp [d, e]
  · simp [d]
def eqBuy (a b : TBuy) : Prop := a.day = b.day ∧ a.pass = b.pass
def ltBuy (a b : TBuy) : Prop := a.day < b.day ∨ (a.day = b.day ∧ a.pass < b.pass)
theorem F107_ret (a b : TBuy) : Ret (F107 a b) fun r => (r = 0 ↔ eqBuy a b) ∧ (r < 0 ↔ ltBuy a b) := by
  unfold F107
  rw [F105_eq, F105_eq]
  simp only [Option.bind_some, F104_2]
  refine Ret_some.2 ?_
  unfold sgn eqBuy ltBuy
  by_cases c : a.day < b.day
  · simp [c]; omega
  · by_cases d : b.day < a.day
    · simp [c, d]; omega
    · by_cases e : a.pass < b.pass
      · simp [c, d, e]; omega
      · by_cases f : b.pass < a.pass
        · simp [c, d, e, f]; omega
        · simp [c, d, e, f]; omega
theorem F109_ret (a b : TBuy) (ha : (0 ≤ a.day ∧ a.day ≤ 6) ∧ (0 ≤ a.pass ∧ a.pass < 2)) (hb : (0 ≤ b.day ∧ b.day ≤ 6) ∧ (0 ≤ b.pass ∧ b.pass < 2)) : Ret (F109 a b) fun r => (r = 0 ↔ eqBuy a b) ∧ (r < 0 ↔ ltBuy a b) := by
  unfold F109 eqBuy ltBuy
  simp (disch := omega) only [Ret_some, Ret_none, Ret_bind, Ret_asrt, Ret_cond, Sum.elim_inl, Sum.elim_inr, decide_eq_true_eq, decide_eq_false_iff_not, Bool.not_eq_true', Bool.not_not, Bool.and_eq_true, Bool.or_eq_true, Bool.true_eq_false, Bool.false_eq_true, Bool.not_true, Bool.not_false, if_true, if_false, ite_true, ite_false, true_and, and_true, false_and, and_false, Int.toNat_natCast, toN_succ, Int.ofNat_eq_natCast, Int.ofNat_toNat, Nat.zero_add, Nat.add_zero, not_true_eq_false, not_false_eq_true, implies_true, wr64]
  split <;> constructor <;> omega
def cmpAt (l m : List TBuy) (i : Nat) : Prop := i < m.length ∧ eqBuy (l.getD i TBuy.d) (m.getD i TBuy.d)
def cmpPost (l m : List TBuy) (x : Unit ⊕ Int) : Prop :=
  match x with
  | .inl _ => ∀ j, j < l.length → cmpAt l m j
  | .inr r => ∃ i, i < l.length ∧ (∀ j, j < i → cmpAt l m j) ∧ ¬ cmpAt l m i ∧ ((m.length ≤ i ∧ r = 1) ∨ (i < m.length ∧ (r < 0 ↔ ltBuy (l.getD i TBuy.d) (m.getD i TBuy.d))))
theorem L106_ret (l m : List TBuy) (hl : l.length ≤ 14) : Ret (L106_2 l m 0) (cmpPost l m) := by
  unfold L106_2
  refine Ret.loop l.length (fun i s => s = (i : Int) ∧ ∀ j, j < i → cmpAt l m j) ⟨rfl, fun j hj => by omega⟩ ?_ ?_
  · rintro i s hi ⟨rfl, hj⟩
    obtain ⟨r, hr, h0, h1⟩ := F107_ret (l.getD i TBuy.d) (m.getD i TBuy.d)
    unfold B106_2
    simp (disch := omega) only [Ret_some, Ret_none, Ret_bind, Ret_asrt, Ret_cond, Sum.elim_inl, Sum.elim_inr, decide_eq_true_eq, decide_eq_false_iff_not, Bool.not_eq_true', Bool.not_not, Bool.and_eq_true, Bool.or_eq_true, Bool.true_eq_false, Bool.false_eq_true, Bool.not_true, Bool.not_false, if_true, if_false, ite_true, ite_false, true_and, and_true, false_and, and_false, Int.toNat_natCast, toN_succ, Int.ofNat_eq_natCast, Int.ofNat_toNat, Nat.zero_add, Nat.add_zero, not_true_eq_false, not_false_eq_true, implies_true, wr64, hr]
    rw [if_pos (by omega)]
    refine ⟨by omega, ?_⟩
    split
    · exact ⟨i, hi, hj, fun h => by have := h.1; omega, .inl ⟨by omega, rfl⟩⟩
    · refine ⟨by omega, ?_⟩
      split
      · rename_i c
        exact ⟨i, hi, hj, fun h => c (h0.2 h.2), .inr ⟨by omega, h1⟩⟩
      · rename_i c
        refine ⟨by omega, fun j hj2 => ?_⟩
        by_cases e : j = i
        · subst e; exact ⟨by omega, h0.1 (by omega)⟩
        · exact hj j (by omega)
  · rintro s ⟨rfl, hj⟩
    unfold B106_2
    simp (disch := omega) only [Ret_some, Ret_none, Ret_bind, Ret_asrt, Ret_cond, Sum.elim_inl, Sum.elim_inr, decide_eq_true_eq, decide_eq_false_iff_not, Bool.not_eq_true', Bool.not_not, Bool.and_eq_true, Bool.or_eq_true, Bool.true_eq_false, Bool.false_eq_true, Bool.not_true, Bool.not_false, if_true, if_false, ite_true, ite_false, true_and, and_true, false_and, and_false, Int.toNat_natCast, toN_succ, Int.ofNat_eq_natCast, Int.ofNat_toNat, Nat.zero_add, Nat.add_zero, not_true_eq_false, not_false_eq_true, implies_true, wr64]
    rw [if_neg (by omega)]
    exact hj
theorem L106b_ret (a2 : List TPass) (h2 : a2.length ≤ 2) (l m : List TBuy) (hgl : goodB a2 l) (hgm : goodB a2 m) : Ret (L106b_2 l m 0) (cmpPost l m) := by
  have hl := hgl.1
  unfold L106b_2
  refine Ret.loop l.length (fun i s => s = (i : Int) ∧ ∀ j, j < i → cmpAt l m j) ⟨rfl, fun j hj => by omega⟩ ?_ ?_
  · rintro i s hi ⟨rfl, hj⟩
    unfold B106b_2
    by_cases cm : i < m.length
    · have e1 := hgl.2 i hi
      have e2 := hgm.2 i cm
      obtain ⟨r, hr, h0, h1⟩ := F109_ret (l.getD i TBuy.d) (m.getD i TBuy.d) (by omega) (by omega)
      simp (disch := omega) only [Ret_some, Ret_none, Ret_bind, Ret_asrt, Ret_cond, Sum.elim_inl, Sum.elim_inr, decide_eq_true_eq, decide_eq_false_iff_not, Bool.not_eq_true', Bool.not_not, Bool.and_eq_true, Bool.or_eq_true, Bool.true_eq_false, Bool.false_eq_true, Bool.not_true, Bool.not_false, if_true, if_false, ite_true, ite_false, true_and, and_true, false_and, and_false, Int.toNat_natCast, toN_succ, Int.ofNat_eq_natCast, Int.ofNat_toNat, Nat.zero_add, Nat.add_zero, not_true_eq_false, not_false_eq_true, implies_true, wr64, hr]
      rw [if_pos (by omega)]
      refine ⟨by omega, ?_⟩
      rw [if_neg (by omega)]
      refine ⟨by omega, ?_⟩
      split
      · rename_i c
        exact ⟨i, hi, hj, fun h => c (h0.2 h.2), .inr ⟨cm, h1⟩⟩
      · rename_i c
        refine ⟨by omega, fun j hj2 => ?_⟩
        by_cases e : j = i
        · subst e; exact ⟨by omega, h0.1 (by omega)⟩
        · exact hj j (by omega)
    · simp (disch := omega) only [Ret_some, Ret_none, Ret_bind, Ret_asrt, Ret_cond, Sum.elim_inl, Sum.elim_inr, decide_eq_true_eq, decide_eq_false_iff_not, Bool.not_eq_true', Bool.not_not, Bool.and_eq_true, Bool.or_eq_true, Bool.true_eq_false, Bool.false_eq_true, Bool.not_true, Bool.not_false, if_true, if_false, ite_true, ite_false, true_and, and_true, false_and, and_false, Int.toNat_natCast, toN_succ, Int.ofNat_eq_natCast, Int.ofNat_toNat, Nat.zero_add, Nat.add_zero, not_true_eq_false, not_false_eq_true, implies_true, wr64]
      rw [if_pos (by omega)]
      refine ⟨by omega, ?_⟩
      rw [if_pos (by omega)]
      exact ⟨i, hi, hj, fun h => by have := h.1; omega, .inl ⟨by omega, rfl⟩⟩
  · rintro s ⟨rfl, hj⟩
    unfold B106b_2
    simp (disch := omega) only [Ret_some, Ret_none, Ret_bind, Ret_asrt, Ret_cond, Sum.elim_inl, Sum.elim_inr, decide_eq_true_eq, decide_eq_false_iff_not, Bool.not_eq_true', Bool.not_not, Bool.and_eq_true, Bool.or_eq_true, Bool.true_eq_false, Bool.false_eq_true, Bool.not_true, Bool.not_false, if_true, if_false, ite_true, ite_false, true_and, and_true, false_and, and_false, Int.toNat_natCast, toN_succ, Int.ofNat_eq_natCast, Int.ofNat_toNat, Nat.zero_add, Nat.add_zero, not_true_eq_false, not_false_eq_true, implies_true, wr64]
    rw [if_neg (by omega)]
    exact hj
theorem cmp_ret (a2 : List TPass) (h2 : a2.length ≤ 2) (l m : List TBuy) (hgl : goodB a2 l) (hgm : goodB a2 m) : ∃ x y, F106 l m = some x ∧ F106b l m = some y ∧ (x < 0 ↔ y < 0) := by
  obtain ⟨x, hx, px⟩ := L106_ret l m hgl.1
  obtain ⟨y, hy, py⟩ := L106b_ret a2 h2 l m hgl hgm
  unfold F106 F106b
  rw [hx, hy]
  rcases x with ⟨⟩ | r
  · rcases y with ⟨⟩ | q
    · by_cases c : ((l.length : Nat) : Int) < ((m.length : Nat) : Int)
      · exact ⟨-1, -1, by simp [c], by simp [c], Iff.rfl⟩
      · exact ⟨0, 0, by simp [c], by simp [c], Iff.rfl⟩
    · obtain ⟨i, hi, _, h, _⟩ := py
      exact absurd (px i hi) h
  · rcases y with ⟨⟩ | q
    · obtain ⟨i, hi, _, h, _⟩ := px
      exact absurd (py i hi) h
    · obtain ⟨i, hi, hb, hn, hc⟩ := px
      obtain ⟨j, hj, kb, kn, kc⟩ := py
      have e : i = j := by
        rcases Nat.lt_trichotomy i j with h | h | h
        · exact absurd (kb i h) hn
        · exact h
        · exact absurd (hb j h) kn
      subst e
      refine ⟨r, q, rfl, rfl, ?_⟩
      rcases hc with ⟨h1, rfl⟩ | ⟨h1, h3⟩
      · rcases kc with ⟨_, rfl⟩ | ⟨k1, _⟩
        · exact Iff.rfl
        · omega
      · rcases kc with ⟨k1, _⟩ | ⟨_, k3⟩
        · omega
        · rw [h3, k3]
/-! ### all sets -/
theorem body_ret (a0 : TTariff) (a1 : List TTrip) (hl : a1.length ≤ 12) (hz : ∀ t ∈ a1, Fit t.zones) (a2 : List TPass) (h2 : a2.length ≤ 2) (hp : ∀ p ∈ a2, Fit p.zones) (ho : ∀ i, i < a2.length → passOk (a2.getD i TPass.d)) (p : List Int) (hpr : pricesOk a0 a1 p)
    (b : List TBuy) (hb : goodB a2 b) (m : Int) (s : Nat) (hs : s < 2 ^ (7 * a2.length)) :
    ∃ b' m', goodB a2 b' ∧ B46_28 a1 a2 p b m (s : Int) = some (.inl (b', m', ((s + 1 : Nat) : Int))) ∧ B48_5 a0 a1 a2 b m (s : Int) = some (.inl (b', m', ((s + 1 : Nat) : Int))) := by
  have hpw : 2 ^ (7 * a2.length) ≤ 2 ^ 14 := Nat.pow_le_pow_right (by omega) (by omega)
  have hp14 : (2 : Nat) ^ 14 = 16384 := by decide
  have hw7 : IntKind.wrap .i64 (7 * (a2.length : Int)) = ((7 * a2.length : Nat) : Int) := by rw [wr64 (by omega) (by omega)]; omega
  have hsl := shl1 (7 * a2.length) (by omega)
  have c0 : (s : Int) < ((2 ^ (7 * a2.length) : Nat) : Int) := by omega
  have hw : IntKind.wrap .i64 ((s : Int) + 1) = ((s + 1 : Nat) : Int) := by rw [wr64 (by omega) (by omega)]; rfl
  obtain ⟨l, hl1, hg⟩ := buys_ret a2 h2 s (by omega)
  obtain ⟨q, hq, _⟩ := sum_ret a2 l hg
  obtain ⟨r, hr1, hr2⟩ := total_ret a0 a1 hl hz a2 hp ho l hg p hpr q
  obtain ⟨x, y, hx, hy, hxy⟩ := cmp_ret a2 h2 l b hg hb
  have hf : F108 a0 a1 a2 l = some r := by
    unfold F108
    rw [L108_3_eq, hq]
    simp only [Option.bind_some, hr2]
  unfold B46_28 B48_5
  rw [L48_9_eq]
  simp only [hw7, hsl, c0, decide_true, cond_true, hl1, hq, hr1, hf, Option.bind_some, F105_eq, hx, F104_3, hy, hw]
  by_cases d0 : m < 0
  · exact ⟨l, r, hg, by simp [d0], by simp [d0]⟩
  · by_cases d1 : r < m
    · refine ⟨l, r, hg, ?_, by simp [d0, d1]⟩
      simp [d0, d1, sgn]
    · by_cases d2 : m < r
      · have : ¬ r = m := by omega
        refine ⟨b, m, hb, ?_, by simp [d0, d1, this]⟩
        simp [d0, d1, d2, sgn]
      · have e : r = m := by omega
        subst e
        by_cases d3 : ((l.length : Nat) : Int) < ((b.length : Nat) : Int)
        · refine ⟨l, r, hg, ?_, by simp [d0, d3]⟩
          simp [d0, d3, sgn]
        · by_cases d4 : ((b.length : Nat) : Int) < ((l.length : Nat) : Int)
          · have : ¬ ((l.length : Nat) : Int) = ((b.length : Nat) : Int) := by omega
            refine ⟨b, r, hb, ?_, ?_⟩
            · simp [d0, d3, d4, sgn]
            · simp only [d0, d3, this, decide_false, cond_false, Int.lt_irrefl, decide_true, cond_true]
          · have e4 : ((l.length : Nat) : Int) = ((b.length : Nat) : Int) := by omega
            by_cases d5 : y < 0
            · have := hxy.2 d5
              refine ⟨l, r, hg, ?_, ?_⟩
              · simp [d0, d3, d4, sgn, this]
              · simp only [d0, d3, e4, d5, decide_false, cond_false, Int.lt_irrefl, decide_true, cond_true]
            · have : ¬ x < 0 := fun c => d5 (hxy.1 c)
              refine ⟨b, r, hb, ?_, ?_⟩
              · simp [d0, d3, d4, sgn, this]
              · simp only [d0, d3, e4, d5, decide_false, cond_false, Int.lt_irrefl, decide_true, cond_true]
theorem sets_ret (a0 : TTariff) (a1 : List TTrip) (hl : a1.length ≤ 12) (hz : ∀ t ∈ a1, Fit t.zones) (a2 : List TPass) (h2 : a2.length ≤ 2) (hp : ∀ p ∈ a2, Fit p.zones) (ho : ∀ i, i < a2.length → passOk (a2.getD i TPass.d)) (p : List Int) (hpr : pricesOk a0 a1 p) :
    Ret (L46_28 a1 a2 p ([], -1, 0)) fun o => goodB a2 o.1 ∧ L48_5 a0 a1 a2 ([], -1, 0) = some o := by
  have hpw : 2 ^ (7 * a2.length) ≤ 2 ^ 14 := Nat.pow_le_pow_right (by omega) (by omega)
  have hp14 : (2 : Nat) ^ 14 = 16384 := by decide
  have hw7 : IntKind.wrap .i64 (7 * (a2.length : Int)) = ((7 * a2.length : Nat) : Int) := by rw [wr64 (by omega) (by omega)]; omega
  have hsl := shl1 (7 * a2.length) (by omega)
  unfold L46_28
  refine Ret.loop (2 ^ (7 * a2.length)) (fun i s => s.2.2 = (i : Int) ∧ goodB a2 s.1 ∧ L48_5 a0 a1 a2 ([], -1, 0) = L48_5 a0 a1 a2 s) ⟨rfl, ⟨by simp, fun i hi => by simp at hi⟩, rfl⟩ ?_ ?_
  · rintro s ⟨b, m, u⟩ hs ⟨rfl, hb, he⟩
    obtain ⟨b', m', hg, e1, e2⟩ := body_ret a0 a1 hl hz a2 h2 hp ho p hpr b hb m s hs
    have hbb : L48_5 a0 a1 a2 (b, m, (s : Int)) = (B48_5 a0 a1 a2 b m (s : Int)).bind (Sum.elim (L48_5 a0 a1 a2) some) := loop_step
    rw [e2] at hbb
    show Ret (B46_28 a1 a2 p b m (s : Int)) _
    rw [e1]
    exact Ret_some.2 ⟨rfl, hg, he.trans hbb⟩
  · rintro ⟨b, m, u⟩ ⟨rfl, hb, he⟩
    have hbb : L48_5 a0 a1 a2 (b, m, ((2 ^ (7 * a2.length) : Nat) : Int)) = (B48_5 a0 a1 a2 b m ((2 ^ (7 * a2.length) : Nat) : Int)).bind (Sum.elim (L48_5 a0 a1 a2) some) := loop_step
    unfold B48_5 at hbb
    unfold B46_28
    simp only [hw7, hsl, Int.lt_irrefl, decide_false, cond_false, Option.bind_some, Sum.elim_inr] at hbb ⊢
    exact Ret_some.2 ⟨hb, he.trans hbb⟩
theorem F49_self (l : List TBuy) (h : l.length ≤ 14) : F49 l l = some true := by
  have key : Ret (L49_4 l l 0) fun x => x = .inl () := by
    unfold L49_4
    refine Ret.loop l.length (fun i s => s = (i : Int)) rfl ?_ ?_
    · rintro i s hi rfl
      unfold B49_4
      simp (disch := omega) only [Ret_some, Ret_none, Ret_bind, Ret_asrt, Ret_cond, Sum.elim_inl, Sum.elim_inr, decide_eq_true_eq, decide_eq_false_iff_not, Bool.not_eq_true', Bool.not_not, Bool.and_eq_true, Bool.or_eq_true, Bool.true_eq_false, Bool.false_eq_true, Bool.not_true, Bool.not_false, if_true, if_false, ite_true, ite_false, true_and, and_true, false_and, and_false, Int.toNat_natCast, toN_succ, Int.ofNat_eq_natCast, Int.ofNat_toNat, Nat.zero_add, Nat.add_zero, not_true_eq_false, not_false_eq_true, implies_true, wr64]
      rw [if_pos (by omega)]
      refine ⟨by omega, by omega, ?_⟩
      simp
    · rintro s rfl
      unfold B49_4
      simp (disch := omega) only [Ret_some, Ret_none, Ret_bind, Ret_asrt, Ret_cond, Sum.elim_inl, Sum.elim_inr, decide_eq_true_eq, decide_eq_false_iff_not, Bool.not_eq_true', Bool.not_not, Bool.and_eq_true, Bool.or_eq_true, Bool.true_eq_false, Bool.false_eq_true, Bool.not_true, Bool.not_false, if_true, if_false, ite_true, ite_false, true_and, and_true, false_and, and_false, Int.toNat_natCast, toN_succ, Int.ofNat_eq_natCast, Int.ofNat_toNat, Nat.zero_add, Nat.add_zero, not_true_eq_false, not_false_eq_true, implies_true, wr64]
      rw [if_neg (by omega)]
      trivial
  obtain ⟨x, hx, rfl⟩ := key
  unfold F49
  simp [hx]
theorem F11_true (a0 : TTariff) (a1 : List TTrip) (a2 : List TPass) (h : ∀ x ∈ a0.rules, FitT x.if0) (hb : Fit a0.bands) (hr : Fit a0.rules) (hz : ∀ t ∈ a1, Fit t.zones) (hp : ∀ p ∈ a2, Fit p.zones) : F11 a0 a1 a2 = some true := by
  obtain ⟨x, hx, _⟩ := F20_ret a0 h hb hr
  unfold F11 F46 F47
  rw [F19_eq a0 h, hx, F18_eq]
  simp only [Option.bind_some]
  by_cases c : x = 0
  · subst c
    simp only [decide_true, Bool.not_true, cond_false]
    by_cases d1 : (12 : Int) < (a1.length : Int)
    · simp [d1]
    · by_cases d2 : (2 : Int) < (a2.length : Int)
      · simp [d1, d2]
      · simp only [d1, d2, decide_false, cond_false]
        obtain ⟨o, ho, q⟩ := trips_ret a0 a1 h hb hr hx hz (by omega)
        rw [ho]
        rcases o with p | ⟨r0, r1, r2⟩
        · obtain ⟨q1, q2⟩ := q
          rw [q1]
          simp only [Option.bind_some, Sum.elim_inl]
          obtain ⟨u, hu, k⟩ := passes_ret a2 hp (by omega)
          rw [hu]
          rcases u with ⟨⟩ | ⟨r0, r1, r2⟩
          · obtain ⟨k1, k2⟩ := k
            rw [k1]
            obtain ⟨v, hv, hg, hv2⟩ := sets_ret a0 a1 (by omega) hz a2 (by omega) hp k2 p q2
            have hw7 : IntKind.wrap .i64 (7 * (a2.length : Int)) = ((7 * a2.length : Nat) : Int) := by rw [wr64 (by omega) (by omega)]; omega
            have hn : (0 : Int) ≤ ((7 * a2.length : Nat) : Int) := Int.natCast_nonneg _
            unfold F48
            simp only [Option.bind_some, Sum.elim_inl, hw7, hn, decide_true, cond_true, hv, hv2, Bool.not_true, cond_false]
            rw [F49_self _ hg.1]
            rfl
          · obtain ⟨k1, k2, k3, k4⟩ := k
            simp only at k1 k2 k3 k4
            subst k1 k2
            rw [k4]
            simp [k3]
        · obtain ⟨k1, k2, k3, k4⟩ := q
          simp only at k1 k2 k3 k4
          subst k1 k2
          rw [k4]
          simp [k3]
  · simp [c]
end Go.Proofs.Ytgghnfmabphbmaa
