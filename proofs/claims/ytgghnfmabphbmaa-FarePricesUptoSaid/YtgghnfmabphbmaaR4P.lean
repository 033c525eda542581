/- FarePrices: what its pure functions return. -/
import Derived.Test.YtgghnfmabphbmaaA21
import Derived.Test.YtgghnfmabphbmaaR4C
import Derived.Test.YtgghnfmabphbmaaA18
open Go Go.Proofs.Ytgghnfmabphbmaa.Fw
namespace Go.Proofs.Ytgghnfmabphbmaa
set_option maxRecDepth 100000
set_option linter.unusedVariables false
set_option linter.unusedSimpArgs false

/-- lists that are not too long -/
def Fit {α : Type} (l : List α) : Prop := l.length < 140737488355328

theorem F79_eq (n a b : Int) : F79 n a b = some (decide (a ≤ n ∧ n ≤ b)) := by
  unfold F79
  by_cases h : a ≤ n <;> simp [h]

theorem F81_eq (n a b : Int) : F81 n a b = some (decide (a ≤ n ∧ n ≤ b)) := F79_eq n a b

/-! ### trees -/

mutual
def levT : Tr → Nat
  | .mk _ l => levTs l + 1
def levTs : List Tr → Nat
  | [] => 0
  | x :: r => max (levT x) (levTs r)
end

theorem sumL_mem {α : Type} (f : α → Nat) {x : α} : ∀ {l : List α}, x ∈ l → f x ≤ sumL f l
  | [], h => by simp at h
  | y :: r, h => by
    simp only [sumL]
    rcases List.mem_cons.1 h with rfl | h
    · omega
    · have := sumL_mem f h
      omega

theorem sizT_eq (t : Tr) : sizT t = sizTs t.kids + 1 := by cases t; simp [sizT, Tr.kids]
theorem levT_eq (t : Tr) : levT t = levTs t.kids + 1 := by cases t; simp [levT, Tr.kids]

theorem sizTs_take {l : List Tr} {i : Nat} (h : i < l.length) : sizTs (l.take (i + 1)) = sizTs (l.take i) + sizT (l.getD i Tr.d) := by
  induction l generalizing i with
  | nil => simp at h
  | cons x r ih =>
    cases i with
    | zero => simp [sizTs]
    | succ i => have := ih (i := i) (by simpa using h); simp only [List.take_succ_cons, sizTs, List.getD_cons_succ, this]; omega

theorem levTs_take {l : List Tr} {i : Nat} (h : i < l.length) : levTs (l.take (i + 1)) = max (levTs (l.take i)) (levT (l.getD i Tr.d)) := by
  induction l generalizing i with
  | nil => simp at h
  | cons x r ih =>
    cases i with
    | zero => simp [levTs]
    | succ i => have := ih (i := i) (by simpa using h); simp only [List.take_succ_cons, levTs, List.getD_cons_succ, this]; omega

theorem sizTs_take_le : ∀ (l : List Tr) (i : Nat), sizTs (l.take i) ≤ sizTs l
  | [], i => by simp
  | x :: r, 0 => by simp [sizTs]
  | x :: r, i + 1 => by have := sizTs_take_le r i; simp only [List.take_succ_cons, sizTs]; omega

theorem sizT_pos (t : Tr) : 1 ≤ sizT t := by rw [sizT_eq]; omega

theorem levTs_le : ∀ (n : Nat), (∀ t, sizT t ≤ n → levT t ≤ sizT t) ∧ ∀ l, sizTs l ≤ n → levTs l ≤ sizTs l := by
  intro n
  induction n with
  | zero =>
    refine ⟨fun t h => by have := sizT_pos t; omega, fun l h => ?_⟩
    cases l with
    | nil => exact Nat.le_refl _
    | cons x r => have := sizT_pos x; simp only [sizTs] at h; omega
  | succ n ih =>
    have h1 : ∀ t, sizT t ≤ n + 1 → levT t ≤ sizT t := fun t h => by
      rw [sizT_eq] at h ⊢
      rw [levT_eq]
      have := ih.2 t.kids (by omega)
      omega
    refine ⟨h1, ?_⟩
    intro l
    induction l with
    | nil => exact fun _ => Nat.le_refl _
    | cons x r ih2 =>
      intro h
      simp only [sizTs] at h
      have := h1 x (by omega)
      have := ih2 (by have := sizT_pos x; omega)
      simp only [sizTs, levTs]
      omega

theorem levT_le (t : Tr) : levT t ≤ sizT t := (levTs_le (sizT t)).1 t (Nat.le_refl _)

theorem kids_len (l : List Tr) : l.length ≤ sizTs l := by
  induction l with
  | nil => exact Nat.le_refl _
  | cons x r ih => have := sizT_pos x; simp only [sizTs, List.length_cons]; omega

theorem kid_lt {t : Tr} {i : Nat} (h : i < t.kids.length) : sizT (t.kids.getD i Tr.d) < sizT t := by
  have h1 := sizTs_take h
  have h2 := sizTs_take_le t.kids (i + 1)
  rw [sizT_eq t]
  omega

/-- trees that are not too great -/
def FitT (t : Tr) : Prop := sizT t ≤ 1048576

theorem FitT.kid {t : Tr} (h : FitT t) {i : Nat} (hi : i < t.kids.length) : FitT (t.kids.getD i Tr.d) := by
  have := kid_lt hi
  unfold FitT at h ⊢
  omega

theorem FitT.len {t : Tr} (h : FitT t) : t.kids.length ≤ 1048576 := by
  have := kids_len t.kids
  unfold FitT at h
  rw [sizT_eq] at h
  omega

theorem F131n_ret : ∀ (n : Nat) (t : Tr), sizT t ≤ n → FitT t → ∀ k, n ≤ k → F131n k t = some ((sizT t : Int), (levT t : Int))
  | 0, t, h, _, k, _ => by have := sizT_pos t; omega
  | n + 1, t, h, hf, 0, hk => by omega
  | n + 1, t, h, hf, k + 1, hk => by
    show G131 (F131n k) t = _
    refine Ret.eq ?_
    have hlen := hf.len
    have hft := hf
    unfold FitT at hft
    have hle := levT_le t
    unfold G131 L131_3
    simp (disch := omega) only [Ret_some, Ret_none, Ret_bind, Ret_asrt, Ret_cond, Sum.elim_inl, Sum.elim_inr, decide_eq_true_eq, decide_eq_false_iff_not, Bool.not_eq_true', Bool.not_not, Bool.and_eq_true, Bool.or_eq_true, Bool.true_eq_false, Bool.false_eq_true, Bool.not_true, Bool.not_false, if_true, if_false, ite_true, ite_false, true_and, and_true, false_and, and_false, Int.toNat_natCast, toN_succ, Int.ofNat_eq_natCast, Int.ofNat_toNat, Nat.zero_add, Nat.add_zero, not_true_eq_false, not_false_eq_true, implies_true, wr64]
    refine Ret.loop t.kids.length (fun i s => s.2.2 = (i : Int) ∧ s.1 = ((sizTs (t.kids.take i) + 1 : Nat) : Int) ∧ s.2.1 = ((levTs (t.kids.take i) : Nat) : Int)) ⟨rfl, rfl, rfl⟩ ?_ ?_
    · rintro i ⟨a, b, c⟩ hi ⟨h1, h2, h3⟩
      simp only at h1 h2 h3
      subst h1 h2 h3
      have hk' := kid_lt hi
      have hn := sizTs_take hi
      have hl := levTs_take hi
      have hle2 := sizTs_take_le t.kids (i + 1)
      rw [sizT_eq t] at hft
      unfold B131_3
      simp (disch := omega) only [Ret_some, Ret_none, Ret_bind, Ret_asrt, Ret_cond, Sum.elim_inl, Sum.elim_inr, decide_eq_true_eq, decide_eq_false_iff_not, Bool.not_eq_true', Bool.not_not, Bool.and_eq_true, Bool.or_eq_true, Bool.true_eq_false, Bool.false_eq_true, Bool.not_true, Bool.not_false, if_true, if_false, ite_true, ite_false, true_and, and_true, false_and, and_false, Int.toNat_natCast, toN_succ, Int.ofNat_eq_natCast, Int.ofNat_toNat, Nat.zero_add, Nat.add_zero, not_true_eq_false, not_false_eq_true, implies_true, wr64, F131n_ret n (t.kids.getD i Tr.d) (by omega) (hf.kid hi) k (by omega)]
      rw [if_pos (by omega)]
      refine ⟨by omega, by omega, by omega, by omega⟩
    · rintro ⟨a, b, c⟩ ⟨h1, h2, h3⟩
      simp only at h1 h2 h3
      subst h1 h2 h3
      unfold B131_3
      simp (disch := omega) only [Ret_some, Ret_none, Ret_bind, Ret_asrt, Ret_cond, Sum.elim_inl, Sum.elim_inr, decide_eq_true_eq, decide_eq_false_iff_not, Bool.not_eq_true', Bool.not_not, Bool.and_eq_true, Bool.or_eq_true, Bool.true_eq_false, Bool.false_eq_true, Bool.not_true, Bool.not_false, if_true, if_false, ite_true, ite_false, true_and, and_true, false_and, and_false, Int.toNat_natCast, toN_succ, Int.ofNat_eq_natCast, Int.ofNat_toNat, Nat.zero_add, Nat.add_zero, not_true_eq_false, not_false_eq_true, implies_true, wr64]
      rw [if_neg (by omega), List.take_length]
      rw [sizT_eq] at hle
      rw [levT_eq] at hle
      rw [sizT_eq] at hft
      rw [sizT_eq, levT_eq]
      rw [wr64 (by omega) (by omega)]
      rfl

theorem F131_ret (t : Tr) (h : FitT t) : F131 t = some ((sizT t : Int), (levT t : Int)) := by
  unfold F131
  exact evF_of (sizT t) fun k hk => F131n_ret (sizT t) t (Nat.le_refl _) h k hk

/-- what the other one counts: down from so many -/
def shpOk (t : Tr) (left : Int) (o : Int × Int) : Prop := if (sizT t : Int) ≤ left then o = ((levT t : Int), left - sizT t) else o.2 < 0

theorem F85n_ret : ∀ (n : Nat) (t : Tr), sizT t ≤ n → FitT t → ∀ k, n ≤ k → ∀ left : Int, 0 ≤ left → left ≤ 40 → Ret (F85n k t left) (shpOk t left)
  | 0, t, h, _, k, _, _, _, _ => by have := sizT_pos t; omega
  | n + 1, t, h, hf, 0, hk, _, _, _ => by omega
  | n + 1, t, h, hf, k + 1, hk, left, h0, h40 => by
    show Ret (G85 (F85n k) t left) _
    have hlen := hf.len
    have hpos := sizT_pos t
    have hft := hf
    unfold FitT at hft
    have hle := levT_le t
    unfold G85
    simp (disch := omega) only [Ret_some, Ret_none, Ret_bind, Ret_asrt, Ret_cond, Sum.elim_inl, Sum.elim_inr, decide_eq_true_eq, decide_eq_false_iff_not, Bool.not_eq_true', Bool.not_not, Bool.and_eq_true, Bool.or_eq_true, Bool.true_eq_false, Bool.false_eq_true, Bool.not_true, Bool.not_false, if_true, if_false, ite_true, ite_false, true_and, and_true, false_and, and_false, Int.toNat_natCast, toN_succ, Int.ofNat_eq_natCast, Int.ofNat_toNat, Nat.zero_add, Nat.add_zero, not_true_eq_false, not_false_eq_true, implies_true, wr64]
    split
    · unfold shpOk; rw [if_neg (by omega)]; assumption
    unfold L85_5
    refine Ret.loop t.kids.length (fun i s => s.2.1 = (i : Int) ∧ s.2.2 = left - 1 - (sizTs (t.kids.take i) : Int) ∧ 0 ≤ s.2.2 ∧ s.1 = ((levTs (t.kids.take i) : Nat) : Int)) ?_ ?_ ?_
    · exact ⟨rfl, by simp [sizTs], show (0 : Int) ≤ left - 1 by omega, rfl⟩
    · rintro i ⟨a, b, c⟩ hi ⟨h1, h2, h2', h3⟩
      simp only at h1 h2 h2' h3
      subst h1 h2 h3
      have hk' := kid_lt hi
      have hn := sizTs_take hi
      have hl := levTs_take hi
      have hle2 := sizTs_take_le t.kids (i + 1)
      have hlk := levT_le (t.kids.getD i Tr.d)
      unfold B85_5
      simp (disch := omega) only [Ret_some, Ret_none, Ret_bind, Ret_asrt, Ret_cond, Sum.elim_inl, Sum.elim_inr, decide_eq_true_eq, decide_eq_false_iff_not, Bool.not_eq_true', Bool.not_not, Bool.and_eq_true, Bool.or_eq_true, Bool.true_eq_false, Bool.false_eq_true, Bool.not_true, Bool.not_false, if_true, if_false, ite_true, ite_false, true_and, and_true, false_and, and_false, Int.toNat_natCast, toN_succ, Int.ofNat_eq_natCast, Int.ofNat_toNat, Nat.zero_add, Nat.add_zero, not_true_eq_false, not_false_eq_true, implies_true, wr64]
      rw [if_pos (by omega)]
      refine ⟨by omega, ?_⟩
      refine (F85n_ret n (t.kids.getD i Tr.d) (by omega) (hf.kid hi) k (by omega) _ h2' (by omega)).mono ?_
      rintro ⟨lv, lf⟩ ho
      unfold shpOk at ho
      simp only at ho
      have e := sizT_eq t
      have e' := levT_eq t
      simp (disch := omega) only [Ret_some, Ret_none, Ret_bind, Ret_asrt, Ret_cond, Sum.elim_inl, Sum.elim_inr, decide_eq_true_eq, decide_eq_false_iff_not, Bool.not_eq_true', Bool.not_not, Bool.and_eq_true, Bool.or_eq_true, Bool.true_eq_false, Bool.false_eq_true, Bool.not_true, Bool.not_false, if_true, if_false, ite_true, ite_false, true_and, and_true, false_and, and_false, Int.toNat_natCast, toN_succ, Int.ofNat_eq_natCast, Int.ofNat_toNat, Nat.zero_add, Nat.add_zero, not_true_eq_false, not_false_eq_true, implies_true, wr64]
      split at ho
      · simp only [Prod.mk.injEq] at ho
        obtain ⟨rfl, rfl⟩ := ho
        rw [if_neg (by omega)]
        refine ⟨by omega, by omega, by omega, by omega⟩
      · rw [if_pos ho]
        unfold shpOk
        rw [if_neg (by omega)]
        exact ho
    · rintro ⟨a, b, c⟩ ⟨h1, h2, h2', h3⟩
      simp only at h1 h2 h2' h3
      subst h1 h2 h3
      unfold B85_5
      simp (disch := omega) only [Ret_some, Ret_none, Ret_bind, Ret_asrt, Ret_cond, Sum.elim_inl, Sum.elim_inr, decide_eq_true_eq, decide_eq_false_iff_not, Bool.not_eq_true', Bool.not_not, Bool.and_eq_true, Bool.or_eq_true, Bool.true_eq_false, Bool.false_eq_true, Bool.not_true, Bool.not_false, if_true, if_false, ite_true, ite_false, true_and, and_true, false_and, and_false, Int.toNat_natCast, toN_succ, Int.ofNat_eq_natCast, Int.ofNat_toNat, Nat.zero_add, Nat.add_zero, not_true_eq_false, not_false_eq_true, implies_true, wr64]
      have e := sizT_eq t
      have e' := levT_eq t
      rw [List.take_length] at h2' ⊢
      rw [if_neg (by omega)]
      unfold shpOk
      rw [if_pos (by omega), wr64 (by omega) (by omega)]
      simp only [Prod.mk.injEq]
      omega

theorem Ret.bif {α : Type} {c : Bool} {x y : Option α} (h1 : Ret x fun _ => True) (h2 : Ret y fun _ => True) : Ret (bif c then x else y) fun _ => True := by cases c <;> assumption

theorem Ret.bnd {α β : Type} {a : Option β} {f : β → Option α} (h1 : Ret a fun _ => True) (h2 : ∀ x, Ret (f x) fun _ => True) : Ret (a.bind f) fun _ => True := Ret_bind.2 (h1.mono fun x _ => h2 x)

theorem Ret.elim {α X Y : Type} {f : X → Option α} {g : Y → Option α} {x : X ⊕ Y} (h1 : ∀ p, Ret (f p) fun _ => True) (h2 : ∀ p, Ret (g p) fun _ => True) : Ret (Sum.elim f g x) fun _ => True := by
  cases x with
  | inl p => exact h1 p
  | inr p => exact h2 p

theorem Ret.some {α : Type} {x : α} : Ret (Option.some x) fun _ => True := ⟨x, rfl, trivial⟩

theorem evF_unif {α : Type} {f : Nat → Option α} (n : Nat) (h : ∀ k, n ≤ k → f k = f n) : evF f = f n := by
  cases e : f n with
  | some r => exact evF_of n fun k hk => by rw [h k hk, e]
  | none =>
    unfold evF
    rw [dif_neg]
    rintro ⟨r, k0, hk⟩
    have h1 := hk (max k0 n) (by omega)
    rw [h (max k0 n) (by omega), e] at h1
    cases h1

theorem G85_congr {rec rec' : Tr → Int → Option (Int × Int)} {t : Tr} (h : ∀ i, i < t.kids.length → rec (t.kids.getD i Tr.d) = rec' (t.kids.getD i Tr.d)) : G85 rec t = G85 rec' t := by
  have hl : L85_5 t rec = L85_5 t rec' := by
    funext s
    unfold L85_5
    refine loopW_congr (fun s => ?_) s
    unfold B85_5
    by_cases c : 0 ≤ s.2.1 ∧ s.2.1 < (t.kids.length : Int)
    · rw [h s.2.1.toNat (by omega)]
    · simp only [asrt, if_neg c]
  unfold G85
  rw [hl]

theorem F85n_unif : ∀ (n : Nat) (t : Tr), sizT t ≤ n → ∀ k, n ≤ k → F85n k t = F85n n t
  | 0, t, h, _, _ => by have := sizT_pos t; omega
  | n + 1, t, h, 0, hk => by omega
  | n + 1, t, h, k + 1, hk => by
    show G85 (F85n k) t = G85 (F85n n) t
    exact G85_congr fun i hi => F85n_unif n _ (by have := kid_lt hi; omega) k (by omega)

theorem F85_ret (t : Tr) (h : FitT t) : Ret (F85 t 40) (shpOk t 40) := by
  unfold F85
  rw [evF_unif (sizT t) fun k hk => by rw [F85n_unif (sizT t) t (Nat.le_refl _) k hk]]
  exact F85n_ret (sizT t) t (Nat.le_refl _) h _ (Nat.le_refl _) 40 (by omega) (by omega)

/-! ### the inner check -/

theorem L132_eq : L132_11 = L86_20 := rfl

theorem F159_eq : F159 = F140 := rfl

theorem G132_eq : G132 = G86 := by
  funext rec t
  unfold G132 G86
  rw [L132_eq, F159_eq]
  simp only [F79_eq, F81_eq]
  generalize L86_20 t rec 0 = M
  generalize List.getD t.ns 0 0 = K
  generalize List.getD t.ns (0 + 1) 0 = A
  generalize List.getD t.ns (0 + 1 + 1) 0 = B
  generalize (t.kids.length : Int) = L
  by_cases hK : 0 ≤ K ∧ K ≤ 11
  · have hK' : K = 0 ∨ K = 1 ∨ K = 2 ∨ K = 3 ∨ K = 4 ∨ K = 5 ∨ K = 6 ∨ K = 7 ∨ K = 8 ∨ K = 9 ∨ K = 10 ∨ K = 11 := by omega
    by_cases hA : 0 ≤ A ∧ A ≤ 28800
    · by_cases hB : 0 ≤ B ∧ B ≤ 28800
      · rcases hK' with rfl | rfl | rfl | rfl | rfl | rfl | rfl | rfl | rfl | rfl | rfl | rfl <;> simp [F140, hA, hB] <;> by_cases a1 : A = 0 <;> by_cases b1 : B = 0 <;> by_cases ab : B < A <;> by_cases b0 : B < 0 <;> by_cases a0 : 0 < A <;> by_cases l0 : 0 < L <;> by_cases l1 : L = 1 <;> by_cases l2 : L < 2 <;> simp [a1, b1, ab, b0, a0, l0, l1, l2] <;> omega
      · rcases hK' with rfl | rfl | rfl | rfl | rfl | rfl | rfl | rfl | rfl | rfl | rfl | rfl <;> simp [F140, hA, hB]
    · rcases hK' with rfl | rfl | rfl | rfl | rfl | rfl | rfl | rfl | rfl | rfl | rfl | rfl <;> simp [F140, hA]
  · have h1 : ∃ r, F140 K = some r := by
      unfold F140
      by_cases c2 : K = 2 <;> by_cases c3 : K = 3 <;> by_cases c4 : K = 4 <;> by_cases c5 : K = 5 <;> by_cases c6 : K = 6 <;> by_cases c7 : K = 7 <;> by_cases c8 : K = 8 <;> simp [c2, c3, c4, c5, c6, c7, c8]
    obtain ⟨r, h1⟩ := h1
    simp [h1, hK]

theorem F132n_eq : ∀ k, F132n k = F86n k
  | 0 => rfl
  | k + 1 => by show G132 (F132n k) = G86 (F86n k); rw [F132n_eq k, G132_eq]

theorem F132_eq : F132 = F86 := by
  funext t
  unfold F132 F86
  simp only [F132n_eq]

theorem F80_eq (t : Tr) (h : FitT t) : F80 t = F27 t := by
  unfold F80 F27
  rw [F131_ret t h, F132_eq]
  obtain ⟨o, ho, hs⟩ := F85_ret t h
  rw [ho]
  simp only [Option.bind_some]
  unfold shpOk at hs
  split at hs
  · subst hs
    simp only [show decide ((40 : Int) < (sizT t : Int)) = false from decide_eq_false (by omega), show decide ((40 : Int) - (sizT t : Int) < 0) = false from decide_eq_false (by omega)]
  · simp only [show decide ((40 : Int) < (sizT t : Int)) = true from decide_eq_true (by omega), show decide (o.2 < 0) = true from decide_eq_true hs, cond_true]

theorem F86n_ret : ∀ (n : Nat) (t : Tr), sizT t ≤ n → FitT t → ∀ k, n ≤ k → Ret (F86n k t) fun _ => True
  | 0, t, h, _, _, _ => by have := sizT_pos t; omega
  | n + 1, t, h, hf, 0, hk => by omega
  | n + 1, t, h, hf, k + 1, hk => by
    show Ret (G86 (F86n k) t) _
    have hL : Ret (L86_20 t (F86n k) 0) fun _ => True := by
      have hlen := hf.len
      unfold L86_20
      refine Ret.loop t.kids.length (fun i s => s = (i : Int)) rfl ?_ ?_
      · rintro i s hi rfl
        unfold B86_20
        simp (disch := omega) only [Ret_some, Ret_none, Ret_bind, Ret_asrt, Ret_cond, Sum.elim_inl, Sum.elim_inr, decide_eq_true_eq, decide_eq_false_iff_not, Bool.not_eq_true', Bool.not_not, Bool.and_eq_true, Bool.or_eq_true, Bool.true_eq_false, Bool.false_eq_true, Bool.not_true, Bool.not_false, if_true, if_false, ite_true, ite_false, true_and, and_true, false_and, and_false, Int.toNat_natCast, toN_succ, Int.ofNat_eq_natCast, Int.ofNat_toNat, Nat.zero_add, Nat.add_zero, not_true_eq_false, not_false_eq_true, implies_true, wr64]
        rw [if_pos (by omega)]
        refine ⟨by omega, ?_⟩
        refine (F86n_ret n (t.kids.getD i Tr.d) (by have := kid_lt hi; omega) (hf.kid hi) k (by omega)).mono fun r _ => ?_
        split
        · trivial
        · omega
      · rintro s rfl
        unfold B86_20
        simp (disch := omega) only [Ret_some, Ret_none, Ret_bind, Ret_asrt, Ret_cond, Sum.elim_inl, Sum.elim_inr, decide_eq_true_eq, decide_eq_false_iff_not, Bool.not_eq_true', Bool.not_not, Bool.and_eq_true, Bool.or_eq_true, Bool.true_eq_false, Bool.false_eq_true, Bool.not_true, Bool.not_false, if_true, if_false, ite_true, ite_false, true_and, and_true, false_and, and_false, Int.toNat_natCast, toN_succ, Int.ofNat_eq_natCast, Int.ofNat_toNat, Nat.zero_add, Nat.add_zero, not_true_eq_false, not_false_eq_true, implies_true, wr64]
        rw [if_neg (by omega)]
        trivial
    have h140 : ∀ K, Ret (F140 K) fun _ => True := by
      intro K
      unfold F140
      simp (disch := omega) only [Ret_some, Ret_none, Ret_bind, Ret_asrt, Ret_cond, Sum.elim_inl, Sum.elim_inr, decide_eq_true_eq, decide_eq_false_iff_not, Bool.not_eq_true', Bool.not_not, Bool.and_eq_true, Bool.or_eq_true, Bool.true_eq_false, Bool.false_eq_true, Bool.not_true, Bool.not_false, if_true, if_false, ite_true, ite_false, true_and, and_true, false_and, and_false, Int.toNat_natCast, toN_succ, Int.ofNat_eq_natCast, Int.ofNat_toNat, Nat.zero_add, Nat.add_zero, not_true_eq_false, not_false_eq_true, implies_true, wr64]
      repeat' (first | trivial | omega | split | (refine ⟨?_, ?_⟩))
    obtain ⟨m, hm, _⟩ := hL
    unfold G86
    simp only [hm, F81_eq]
    have hm' : Ret ((some m).bind (Sum.elim (fun (p_3 : Unit) ↦ Option.some (0 : Int)) fun (r_10 : Int) ↦ Option.some r_10)) fun _ => True := by
      cases m <;> exact ⟨_, rfl, trivial⟩
    obtain ⟨r, hr, _⟩ := h140 (List.getD t.ns 0 0)
    rw [hr]
    obtain ⟨m', hm', _⟩ := hm'
    simp only [hm', Option.bind_some]
    repeat' (first | exact Ret.some | (refine Ret.bif ?_ ?_) | (refine Ret.bnd ?_ fun _ => ?_) | (refine Ret.elim (fun _ => ?_) fun _ => ?_) | assumption | solve_by_elim)

theorem G86_congr {rec rec' : Tr → Option Int} {t : Tr} (h : ∀ i, i < t.kids.length → rec (t.kids.getD i Tr.d) = rec' (t.kids.getD i Tr.d)) : G86 rec t = G86 rec' t := by
  have hl : L86_20 t rec = L86_20 t rec' := by
    funext s
    unfold L86_20
    refine loopW_congr (fun s => ?_) s
    unfold B86_20
    by_cases c : 0 ≤ s ∧ s < (t.kids.length : Int)
    · rw [h s.toNat (by omega)]
    · simp only [asrt, if_neg c]
  unfold G86
  rw [hl]

theorem F86n_unif : ∀ (n : Nat) (t : Tr), sizT t ≤ n → ∀ k, n ≤ k → F86n k t = F86n n t
  | 0, t, h, _, _ => by have := sizT_pos t; omega
  | n + 1, t, h, 0, hk => by omega
  | n + 1, t, h, k + 1, hk => by
    show G86 (F86n k) t = G86 (F86n n) t
    exact G86_congr fun i hi => F86n_unif n _ (by have := kid_lt hi; omega) k (by omega)

theorem F86_ret (t : Tr) (h : FitT t) : Ret (F86 t) fun _ => True := by
  unfold F86
  rw [evF_unif (sizT t) fun k hk => F86n_unif (sizT t) t (Nat.le_refl _) k hk]
  exact F86n_ret (sizT t) t (Nat.le_refl _) h _ (Nat.le_refl _)

theorem F27_ret (t : Tr) (h : FitT t) : Ret (F27 t) fun _ => True := by
  obtain ⟨o, ho, _⟩ := F85_ret t h
  obtain ⟨r, hr, _⟩ := F86_ret t h
  unfold F27
  rw [ho]
  simp only [hr]
  simp (disch := omega) only [Ret_some, Ret_none, Ret_bind, Ret_asrt, Ret_cond, Sum.elim_inl, Sum.elim_inr, decide_eq_true_eq, decide_eq_false_iff_not, Bool.not_eq_true', Bool.not_not, Bool.and_eq_true, Bool.or_eq_true, Bool.true_eq_false, Bool.false_eq_true, Bool.not_true, Bool.not_false, if_true, if_false, ite_true, ite_false, true_and, and_true, false_and, and_false, Int.toNat_natCast, toN_succ, Int.ofNat_eq_natCast, Int.ofNat_toNat, Nat.zero_add, Nat.add_zero, not_true_eq_false, not_false_eq_true, implies_true, wr64]
  repeat' (first | trivial | omega | split | (refine ⟨?_, ?_⟩))
/-! ### the law -/

theorem getD_fit {l : List TRule} (h : ∀ x ∈ l, FitT x.if0) (i : Nat) (hi : i < l.length) : FitT (l.getD i TRule.d).if0 := h _ (getD_mem hi)

theorem L19_4_eq (a0 : TTariff) : L19_4 a0 = L20_4 a0 := by
  funext s
  unfold L19_4 L20_4
  exact loopW_congr (fun s => by unfold B19_4 B20_4; simp only [F79_eq, F81_eq]) s

theorem B19_14_eq (a0 : TTariff) (h : ∀ x ∈ a0.rules, FitT x.if0) (s : Int) : B19_14 a0 s = B20_14 a0 s := by
  unfold B19_14 B20_14
  by_cases c : 0 ≤ s ∧ s < (a0.rules.length : Int)
  · rw [F80_eq _ (getD_fit h s.toNat (by omega))]
    simp only [F79_eq, F81_eq, Option.bind_some]
    generalize F27 _ = M
    generalize (a0.rules.getD s.toNat TRule.d).do0 = K
    generalize (a0.rules.getD s.toNat TRule.d).n = N
    cases M with
    | none => rfl
    | some m =>
      simp only [Option.bind_some]
      by_cases k : K = 1
      · subst k; simp
      · simp [k]
  · simp only [asrt, if_neg c]

theorem L19_14_eq (a0 : TTariff) (h : ∀ x ∈ a0.rules, FitT x.if0) : L19_14 a0 = L20_14 a0 := by
  funext s
  unfold L19_14 L20_14
  exact loopW_congr (B19_14_eq a0 h) s

theorem F19_eq (a0 : TTariff) (h : ∀ x ∈ a0.rules, FitT x.if0) : F19 a0 = F20 a0 := by
  unfold F19 F20
  simp only [L19_4_eq, L19_14_eq a0 h, F79_eq, F81_eq]

theorem F20_ret (a0 : TTariff) (h : ∀ x ∈ a0.rules, FitT x.if0) (hb : Fit a0.bands) (hr : Fit a0.rules) : Ret (F20 a0) fun _ => True := by
  unfold Fit at hb hr
  have h1 : Ret (L20_4 a0 0) fun _ => True := by
    unfold L20_4
    refine Ret.loop a0.bands.length (fun i s => s = (i : Int)) rfl ?_ ?_
    · rintro i s hi rfl
      unfold B20_4
      simp (disch := omega) only [Ret_some, Ret_none, Ret_bind, Ret_asrt, Ret_cond, Sum.elim_inl, Sum.elim_inr, decide_eq_true_eq, decide_eq_false_iff_not, Bool.not_eq_true', Bool.not_not, Bool.and_eq_true, Bool.or_eq_true, Bool.true_eq_false, Bool.false_eq_true, Bool.not_true, Bool.not_false, if_true, if_false, ite_true, ite_false, true_and, and_true, false_and, and_false, Int.toNat_natCast, toN_succ, Int.ofNat_eq_natCast, Int.ofNat_toNat, Nat.zero_add, Nat.add_zero, not_true_eq_false, not_false_eq_true, implies_true, wr64, F81_eq]
      rw [if_pos (by omega)]
      refine ⟨by omega, ?_⟩
      repeat' (first | trivial | omega | split | (refine ⟨?_, ?_⟩))
    · rintro s rfl
      unfold B20_4
      simp (disch := omega) only [Ret_some, Ret_none, Ret_bind, Ret_asrt, Ret_cond, Sum.elim_inl, Sum.elim_inr, decide_eq_true_eq, decide_eq_false_iff_not, Bool.not_eq_true', Bool.not_not, Bool.and_eq_true, Bool.or_eq_true, Bool.true_eq_false, Bool.false_eq_true, Bool.not_true, Bool.not_false, if_true, if_false, ite_true, ite_false, true_and, and_true, false_and, and_false, Int.toNat_natCast, toN_succ, Int.ofNat_eq_natCast, Int.ofNat_toNat, Nat.zero_add, Nat.add_zero, not_true_eq_false, not_false_eq_true, implies_true, wr64]
      rw [if_neg (by omega)]
      trivial
  have h2 : Ret (L20_14 a0 0) fun _ => True := by
    unfold L20_14
    refine Ret.loop a0.rules.length (fun i s => s = (i : Int)) rfl ?_ ?_
    · rintro i s hi rfl
      unfold B20_14
      obtain ⟨m, hm, _⟩ := F27_ret _ (getD_fit h i hi)
      simp (disch := omega) only [Ret_some, Ret_none, Ret_bind, Ret_asrt, Ret_cond, Sum.elim_inl, Sum.elim_inr, decide_eq_true_eq, decide_eq_false_iff_not, Bool.not_eq_true', Bool.not_not, Bool.and_eq_true, Bool.or_eq_true, Bool.true_eq_false, Bool.false_eq_true, Bool.not_true, Bool.not_false, if_true, if_false, ite_true, ite_false, true_and, and_true, false_and, and_false, Int.toNat_natCast, toN_succ, Int.ofNat_eq_natCast, Int.ofNat_toNat, Nat.zero_add, Nat.add_zero, not_true_eq_false, not_false_eq_true, implies_true, wr64, F81_eq, hm]
      rw [if_pos (by omega)]
      refine ⟨by omega, ?_⟩
      repeat' (first | trivial | omega | split | (refine ⟨?_, ?_⟩))
    · rintro s rfl
      unfold B20_14
      simp (disch := omega) only [Ret_some, Ret_none, Ret_bind, Ret_asrt, Ret_cond, Sum.elim_inl, Sum.elim_inr, decide_eq_true_eq, decide_eq_false_iff_not, Bool.not_eq_true', Bool.not_not, Bool.and_eq_true, Bool.or_eq_true, Bool.true_eq_false, Bool.false_eq_true, Bool.not_true, Bool.not_false, if_true, if_false, ite_true, ite_false, true_and, and_true, false_and, and_false, Int.toNat_natCast, toN_succ, Int.ofNat_eq_natCast, Int.ofNat_toNat, Nat.zero_add, Nat.add_zero, not_true_eq_false, not_false_eq_true, implies_true, wr64]
      rw [if_neg (by omega)]
      trivial
  obtain ⟨m1, e1, _⟩ := h1
  obtain ⟨m2, e2, _⟩ := h2
  unfold F20
  simp only [F81_eq, Option.bind_some, e1, e2]
  repeat' (first | exact Ret.some | (refine Ret.bif ?_ ?_) | (refine Ret.bnd ?_ fun _ => ?_) | (refine Ret.elim (fun _ => ?_) fun _ => ?_) | assumption | solve_by_elim)

theorem L82_eq (a0 : TTrip) : L82_2 a0.zones false = L22_6 a0 := by
  funext s
  unfold L82_2 L22_6
  refine loopW_congr (fun s => ?_) s
  unfold B82_2 B22_6
  simp only [F79_eq, F81_eq, cond_false]

theorem F21_eq (a0 : TTrip) : F21 a0 = F22 a0 := by
  unfold F21 F22 F82
  simp only [L82_eq, F79_eq, F81_eq]
  cases L22_6 a0 0 with
  | none => rfl
  | some x => cases x <;> rfl

theorem F22_ret (a0 : TTrip) (hz : Fit a0.zones) : Ret (F22 a0) fun _ => True := by
  unfold Fit at hz
  have h1 : Ret (L22_6 a0 0) fun _ => True := by
    unfold L22_6
    refine Ret.loop a0.zones.length (fun i s => s = (i : Int)) rfl ?_ ?_
    · rintro i s hi rfl
      unfold B22_6
      simp (disch := omega) only [Ret_some, Ret_none, Ret_bind, Ret_asrt, Ret_cond, Sum.elim_inl, Sum.elim_inr, decide_eq_true_eq, decide_eq_false_iff_not, Bool.not_eq_true', Bool.not_not, Bool.and_eq_true, Bool.or_eq_true, Bool.true_eq_false, Bool.false_eq_true, Bool.not_true, Bool.not_false, if_true, if_false, ite_true, ite_false, true_and, and_true, false_and, and_false, Int.toNat_natCast, toN_succ, Int.ofNat_eq_natCast, Int.ofNat_toNat, Nat.zero_add, Nat.add_zero, not_true_eq_false, not_false_eq_true, implies_true, wr64, F81_eq]
      rw [if_pos (by omega)]
      refine ⟨by omega, ?_⟩
      repeat' (first | trivial | omega | split | (refine ⟨?_, ?_⟩))
    · rintro s rfl
      unfold B22_6
      simp (disch := omega) only [Ret_some, Ret_none, Ret_bind, Ret_asrt, Ret_cond, Sum.elim_inl, Sum.elim_inr, decide_eq_true_eq, decide_eq_false_iff_not, Bool.not_eq_true', Bool.not_not, Bool.and_eq_true, Bool.or_eq_true, Bool.true_eq_false, Bool.false_eq_true, Bool.not_true, Bool.not_false, if_true, if_false, ite_true, ite_false, true_and, and_true, false_and, and_false, Int.toNat_natCast, toN_succ, Int.ofNat_eq_natCast, Int.ofNat_toNat, Nat.zero_add, Nat.add_zero, not_true_eq_false, not_false_eq_true, implies_true, wr64]
      rw [if_neg (by omega)]
      trivial
  obtain ⟨m1, e1, _⟩ := h1
  unfold F22
  simp only [F81_eq, Option.bind_some, e1]
  repeat' (first | exact Ret.some | (refine Ret.bif ?_ ?_) | (refine Ret.bnd ?_ fun _ => ?_) | (refine Ret.elim (fun _ => ?_) fun _ => ?_) | assumption | solve_by_elim)

theorem F22_inv {a0 : TTrip} (h : F22 a0 = some 0) : (0 ≤ a0.km ∧ a0.km ≤ 1000) ∧ 1 ≤ a0.zones.length ∧ a0.zones.length ≤ 10 := by
  unfold F22 at h
  simp only [F81_eq, Option.bind_some] at h
  by_cases c1 : 0 ≤ a0.day ∧ a0.day ≤ 6 <;> by_cases c2 : 0 ≤ a0.at0 ∧ a0.at0 ≤ 28800 <;> by_cases c3 : 0 ≤ a0.km ∧ a0.km ≤ 1000 <;> by_cases c4 : 0 ≤ a0.age ∧ a0.age ≤ 120 <;> by_cases c5 : 1 ≤ (a0.zones.length : Int) ∧ (a0.zones.length : Int) ≤ 10 <;> simp [c1, c2, c3, c4, c5] at h
  refine ⟨c3, by omega, by omega⟩

/-! ### which trees hold -/

/-- a kind -/
abbrev kd (t : Tr) : Int := List.getD t.ns 0 0

/-- the first kid, as it is handed on -/
abbrev nk (t : Tr) : Tr := Tr.mk [List.getD (Tr.ns (List.getD (Tr.kids t) (Int.toNat 0) Tr.d)) 0 0, List.getD (Tr.ns (List.getD (Tr.kids t) 0 Tr.d)) 1 0, List.getD (Tr.ns (List.getD (Tr.kids t) 0 Tr.d)) 2 0] (Tr.kids (List.getD (Tr.kids t) 0 Tr.d))

/-- no kind 9 without a kid, so deep -/
def VT : Nat → Tr → Prop
  | 0, _ => True
  | n + 1, t => (kd t = 9 → t.kids.length = 1) ∧ ∀ i, i < t.kids.length → VT n (t.kids.getD i Tr.d)

theorem VT_nk {n : Nat} {t : Tr} (h : VT (n + 1) t) (h9 : kd t = 9) : VT n (nk t) := by
  have h1 := h.1 h9
  have h2 := h.2 0 (by omega)
  cases n with
  | zero => trivial
  | succ n => exact h2

theorem sizT_nk {t : Tr} (h : 0 < t.kids.length) : sizT (nk t) < sizT t := by
  have := kid_lt h
  rw [sizT_eq] at this ⊢
  exact this

theorem L86_ret {rec : Tr → Option Int} {t : Tr} (hl : t.kids.length ≤ 1048576) (h : ∀ i, i < t.kids.length → Ret (rec (t.kids.getD i Tr.d)) fun _ => True) :
    Ret (L86_20 t rec 0) fun x => match x with | .inl _ => ∀ i, i < t.kids.length → rec (t.kids.getD i Tr.d) = some 0 | .inr r => r ≠ 0 := by
  unfold L86_20
  refine Ret.loop t.kids.length (fun i s => s = (i : Int) ∧ ∀ j, j < i → rec (t.kids.getD j Tr.d) = some 0) ⟨rfl, fun j hj => by omega⟩ ?_ ?_
  · rintro i s hi ⟨rfl, hs⟩
    obtain ⟨r, hr, _⟩ := h i hi
    unfold B86_20
    simp (disch := omega) only [Ret_some, Ret_none, Ret_bind, Ret_asrt, Ret_cond, Sum.elim_inl, Sum.elim_inr, decide_eq_true_eq, decide_eq_false_iff_not, Bool.not_eq_true', Bool.not_not, Bool.and_eq_true, Bool.or_eq_true, Bool.true_eq_false, Bool.false_eq_true, Bool.not_true, Bool.not_false, if_true, if_false, ite_true, ite_false, true_and, and_true, false_and, and_false, Int.toNat_natCast, toN_succ, Int.ofNat_eq_natCast, Int.ofNat_toNat, Nat.zero_add, Nat.add_zero, not_true_eq_false, not_false_eq_true, implies_true, wr64, hr]
    rw [if_pos (by omega)]
    refine ⟨by omega, ?_⟩
    split
    · rename_i h0; exact h0
    · rename_i h0
      have h0 : r = 0 := by simpa using h0
      subst h0
      refine ⟨by omega, forall_lt_succ.2 ⟨hs, hr⟩⟩
  · rintro s ⟨rfl, hs⟩
    unfold B86_20
    simp (disch := omega) only [Ret_some, Ret_none, Ret_bind, Ret_asrt, Ret_cond, Sum.elim_inl, Sum.elim_inr, decide_eq_true_eq, decide_eq_false_iff_not, Bool.not_eq_true', Bool.not_not, Bool.and_eq_true, Bool.or_eq_true, Bool.true_eq_false, Bool.false_eq_true, Bool.not_true, Bool.not_false, if_true, if_false, ite_true, ite_false, true_and, and_true, false_and, and_false, Int.toNat_natCast, toN_succ, Int.ofNat_eq_natCast, Int.ofNat_toNat, Nat.zero_add, Nat.add_zero, not_true_eq_false, not_false_eq_true, implies_true, wr64]
    rw [if_neg (by omega)]
    exact hs

set_option maxHeartbeats 4000000 in
theorem G86_inv {rec : Tr → Option Int} {t : Tr} (h : G86 rec t = some 0) : (kd t = 9 → t.kids.length = 1) ∧ ∀ x, L86_20 t rec 0 = some x → x = .inl () ∨ x = .inr 0 := by
  unfold G86 at h
  simp only [F81_eq] at h
  revert h
  unfold kd
  generalize L86_20 t rec 0 = M
  generalize List.getD t.ns 0 0 = K
  generalize List.getD t.ns (0 + 1) 0 = A
  generalize List.getD t.ns (0 + 1 + 1) 0 = B
  rw [show (t.kids.length = 1 ↔ (t.kids.length : Int) = 1) by omega]
  generalize (t.kids.length : Int) = L
  by_cases hK : 0 ≤ K ∧ K ≤ 11
  · have hK' : K = 0 ∨ K = 1 ∨ K = 2 ∨ K = 3 ∨ K = 4 ∨ K = 5 ∨ K = 6 ∨ K = 7 ∨ K = 8 ∨ K = 9 ∨ K = 10 ∨ K = 11 := by omega
    by_cases hA : 0 ≤ A ∧ A ≤ 28800
    · by_cases hB : 0 ≤ B ∧ B ≤ 28800
      · rcases M with _ | ⟨_ | r⟩ <;> rcases hK' with rfl | rfl | rfl | rfl | rfl | rfl | rfl | rfl | rfl | rfl | rfl | rfl <;> simp [F140, hA, hB] <;> by_cases a1 : A = 0 <;> by_cases b1 : B = 0 <;> by_cases ab : B < A <;> by_cases b0 : B < 0 <;> by_cases a0 : 0 < A <;> by_cases l0 : 0 < L <;> by_cases l1 : L = 1 <;> by_cases l2 : L < 2 <;> simp [a1, b1, ab, b0, a0, l0, l1, l2] <;> omega
      · rcases hK' with rfl | rfl | rfl | rfl | rfl | rfl | rfl | rfl | rfl | rfl | rfl | rfl <;> simp [F140, hA, hB]
    · rcases hK' with rfl | rfl | rfl | rfl | rfl | rfl | rfl | rfl | rfl | rfl | rfl | rfl <;> simp [F140, hA]
  · simp [hK]

theorem VT_of : ∀ (n : Nat) (t : Tr), sizT t ≤ n → FitT t → ∀ k, n ≤ k → F86n k t = some 0 → VT n t
  | 0, t, h, _, _, _, _ => trivial
  | n + 1, t, h, hf, 0, hk, _ => by omega
  | n + 1, t, h, hf, k + 1, hk, h0 => by
    have hr : ∀ i, i < t.kids.length → Ret (F86n k (t.kids.getD i Tr.d)) fun _ => True := fun i hi => F86n_ret n _ (by have := kid_lt hi; omega) (hf.kid hi) k (by omega)
    obtain ⟨x, hx, hp⟩ := L86_ret hf.len hr
    obtain ⟨h1, h2⟩ := G86_inv (show G86 (F86n k) t = some 0 from h0)
    refine ⟨h1, fun i hi => ?_⟩
    rcases h2 x hx with rfl | rfl
    · exact VT_of n _ (by have := kid_lt hi; omega) (hf.kid hi) k (by omega) (hp i hi)
    · exact absurd rfl hp

theorem VT_F86 {t : Tr} (hf : FitT t) (h : F86 t = some 0) : VT (sizT t) t := by
  unfold F86 at h
  rw [evF_unif (sizT t) fun k hk => F86n_unif (sizT t) t (Nat.le_refl _) k hk] at h
  exact VT_of _ t (Nat.le_refl _) hf _ (Nat.le_refl _) h

theorem F27_inv {t : Tr} (hf : FitT t) (h : F27 t = some 0) : VT (sizT t) t := by
  obtain ⟨o, ho, _⟩ := F85_ret t hf
  obtain ⟨r, hr, _⟩ := F86_ret t hf
  refine VT_F86 hf ?_
  unfold F27 at h
  rw [ho, hr] at h
  rw [hr]
  simp only [Option.bind_some] at h
  by_cases c1 : o.2 < 0
  · simp [c1] at h
  · by_cases c2 : 6 < o.1
    · simp [c1, c2] at h
    · simpa [c1, c2] using h

/-- whether it holds -/
noncomputable def hld : Nat → Tr → TTrip → Bool
  | 0, _, _ => true
  | n + 1, t, z => if kd t = 9 then !(hld n (nk t) z) else if kd t = 10 then t.kids.all fun x => hld n x z else if kd t = 11 then t.kids.any fun x => hld n x z else (G84 (fun _ _ => none) t z).getD true

theorem all_getD {f : Tr → Bool} {l : List Tr} : l.all f = true ↔ ∀ i, i < l.length → f (l.getD i Tr.d) = true := by
  rw [List.all_eq_true]
  constructor
  · exact fun h i hi => h _ (getD_mem hi)
  · intro h x hx
    obtain ⟨i, hi, rfl⟩ := mem_getD Tr.d hx
    exact h i hi

theorem any_getD {f : Tr → Bool} {l : List Tr} : l.any f = true ↔ ∃ i, i < l.length ∧ f (l.getD i Tr.d) = true := by
  rw [List.any_eq_true]
  constructor
  · rintro ⟨x, hx, h⟩
    obtain ⟨i, hi, rfl⟩ := mem_getD Tr.d hx
    exact ⟨i, hi, h⟩
  · rintro ⟨i, hi, h⟩
    exact ⟨_, getD_mem hi, h⟩

section
variable {rec : Tr → TTrip → Option Bool} {t : Tr} {z : TTrip} {f : Tr → Bool} (hl : t.kids.length ≤ 1048576) (h : ∀ i, i < t.kids.length → rec (t.kids.getD i Tr.d) z = some (f (t.kids.getD i Tr.d)))
include hl h

theorem L28_and : Ret (L28_23 t z rec (0, 0)) fun p => decide (p = (t.kids.length : Int)) = t.kids.all f := by
  unfold L28_23
  have key : Ret (loopW (fun s => B28_23 t z rec s.1 s.2) (0, 0)) fun p => (p = (t.kids.length : Int) ↔ ∀ i, i < t.kids.length → f (t.kids.getD i Tr.d) = true) := by
    refine Ret.loop t.kids.length (fun i s => s.2 = (i : Int) ∧ (0 ≤ s.1 ∧ s.1 ≤ i) ∧ (s.1 = (i : Int) ↔ ∀ j, j < i → f (t.kids.getD j Tr.d) = true)) ⟨rfl, by simp, by simp⟩ ?_ ?_
    · rintro i ⟨a, b⟩ hi ⟨h1, h2, h3⟩
      simp only at h1 h2 h3
      subst h1
      unfold B28_23
      simp (disch := omega) only [Ret_some, Ret_none, Ret_bind, Ret_asrt, Ret_cond, Sum.elim_inl, Sum.elim_inr, decide_eq_true_eq, decide_eq_false_iff_not, Bool.not_eq_true', Bool.not_not, Bool.and_eq_true, Bool.or_eq_true, Bool.true_eq_false, Bool.false_eq_true, Bool.not_true, Bool.not_false, if_true, if_false, ite_true, ite_false, true_and, and_true, false_and, and_false, Int.toNat_natCast, toN_succ, Int.ofNat_eq_natCast, Int.ofNat_toNat, Nat.zero_add, Nat.add_zero, not_true_eq_false, not_false_eq_true, implies_true, wr64, h i hi]
      rw [if_pos (by omega)]
      refine ⟨by omega, ?_⟩
      rw [forall_lt_succ]
      split
      · rename_i hc
        refine ⟨by omega, by omega, ?_⟩
        rw [← h3]
        constructor
        · exact fun h => ⟨by omega, hc⟩
        · rintro ⟨h, _⟩; omega
      · rename_i hc
        refine ⟨by omega, by omega, ?_⟩
        constructor
        · intro h; omega
        · rintro ⟨_, h⟩; exact absurd h hc
    · rintro ⟨a, b⟩ ⟨h1, h2, h3⟩
      simp only at h1 h2 h3
      subst h1
      unfold B28_23
      simp (disch := omega) only [Ret_some, Ret_none, Ret_bind, Ret_asrt, Ret_cond, Sum.elim_inl, Sum.elim_inr, decide_eq_true_eq, decide_eq_false_iff_not, Bool.not_eq_true', Bool.not_not, Bool.and_eq_true, Bool.or_eq_true, Bool.true_eq_false, Bool.false_eq_true, Bool.not_true, Bool.not_false, if_true, if_false, ite_true, ite_false, true_and, and_true, false_and, and_false, Int.toNat_natCast, toN_succ, Int.ofNat_eq_natCast, Int.ofNat_toNat, Nat.zero_add, Nat.add_zero, not_true_eq_false, not_false_eq_true, implies_true, wr64]
      rw [if_neg (by omega)]
      exact h3
  refine key.mono fun p hp => ?_
  rw [Bool.eq_iff_iff, decide_eq_true_eq, hp, all_getD]

theorem L28_or : Ret (L28_31 t z rec 0) fun x => Sum.elim (fun _ => false) id x = t.kids.any f := by
  unfold L28_31
  refine Ret.loop t.kids.length (fun i s => s = (i : Int) ∧ ∀ j, j < i → ¬ f (t.kids.getD j Tr.d) = true) ⟨rfl, by simp⟩ ?_ ?_
  · rintro i s hi ⟨rfl, hs⟩
    unfold B28_31
    simp (disch := omega) only [Ret_some, Ret_none, Ret_bind, Ret_asrt, Ret_cond, Sum.elim_inl, Sum.elim_inr, decide_eq_true_eq, decide_eq_false_iff_not, Bool.not_eq_true', Bool.not_not, Bool.and_eq_true, Bool.or_eq_true, Bool.true_eq_false, Bool.false_eq_true, Bool.not_true, Bool.not_false, if_true, if_false, ite_true, ite_false, true_and, and_true, false_and, and_false, Int.toNat_natCast, toN_succ, Int.ofNat_eq_natCast, Int.ofNat_toNat, Nat.zero_add, Nat.add_zero, not_true_eq_false, not_false_eq_true, implies_true, wr64, h i hi]
    rw [if_pos (by omega)]
    refine ⟨by omega, ?_⟩
    split
    · rename_i hc
      exact (any_getD.2 ⟨i, hi, hc⟩).symm
    · rename_i hc
      exact ⟨by omega, forall_lt_succ.2 ⟨hs, hc⟩⟩
  · rintro s ⟨rfl, hs⟩
    unfold B28_31
    simp (disch := omega) only [Ret_some, Ret_none, Ret_bind, Ret_asrt, Ret_cond, Sum.elim_inl, Sum.elim_inr, decide_eq_true_eq, decide_eq_false_iff_not, Bool.not_eq_true', Bool.not_not, Bool.and_eq_true, Bool.or_eq_true, Bool.true_eq_false, Bool.false_eq_true, Bool.not_true, Bool.not_false, if_true, if_false, ite_true, ite_false, true_and, and_true, false_and, and_false, Int.toNat_natCast, toN_succ, Int.ofNat_eq_natCast, Int.ofNat_toNat, Nat.zero_add, Nat.add_zero, not_true_eq_false, not_false_eq_true, implies_true, wr64]
    rw [if_neg (by omega)]
    refine (Bool.eq_false_iff.2 fun hc => ?_).symm
    obtain ⟨i, hi, hc⟩ := any_getD.1 hc
    exact hs i hi hc

theorem F137_ret : F137 rec t.kids z = some (!t.kids.all f) := by
  have key : Ret (L160_2 t.kids z rec 0) fun x => match x with | .inl _ => t.kids.all f = true | .inr v => 0 ≤ v ∧ t.kids.all f = false := by
    unfold L160_2
    refine Ret.loop t.kids.length (fun i s => s = (i : Int) ∧ ∀ j, j < i → f (t.kids.getD j Tr.d) = true) ⟨rfl, by simp⟩ ?_ ?_
    · rintro i s hi ⟨rfl, hs⟩
      unfold B160_2 F138
      simp (disch := omega) only [Ret_some, Ret_none, Ret_bind, Ret_asrt, Ret_cond, Sum.elim_inl, Sum.elim_inr, decide_eq_true_eq, decide_eq_false_iff_not, Bool.not_eq_true', Bool.not_not, Bool.and_eq_true, Bool.or_eq_true, Bool.true_eq_false, Bool.false_eq_true, Bool.not_true, Bool.not_false, if_true, if_false, ite_true, ite_false, true_and, and_true, false_and, and_false, Int.toNat_natCast, toN_succ, Int.ofNat_eq_natCast, Int.ofNat_toNat, Nat.zero_add, Nat.add_zero, not_true_eq_false, not_false_eq_true, implies_true, wr64, h i hi]
      rw [if_pos (by omega)]
      refine ⟨by omega, ?_⟩
      split
      · rename_i hc
        refine ⟨by omega, Bool.eq_false_iff.2 fun h => ?_⟩
        have h' := all_getD.1 h i hi
        rw [h'] at hc
        exact Bool.noConfusion hc
      · rename_i hc
        exact ⟨by omega, forall_lt_succ.2 ⟨hs, by simpa using hc⟩⟩
    · rintro s ⟨rfl, hs⟩
      unfold B160_2
      simp (disch := omega) only [Ret_some, Ret_none, Ret_bind, Ret_asrt, Ret_cond, Sum.elim_inl, Sum.elim_inr, decide_eq_true_eq, decide_eq_false_iff_not, Bool.not_eq_true', Bool.not_not, Bool.and_eq_true, Bool.or_eq_true, Bool.true_eq_false, Bool.false_eq_true, Bool.not_true, Bool.not_false, if_true, if_false, ite_true, ite_false, true_and, and_true, false_and, and_false, Int.toNat_natCast, toN_succ, Int.ofNat_eq_natCast, Int.ofNat_toNat, Nat.zero_add, Nat.add_zero, not_true_eq_false, not_false_eq_true, implies_true, wr64]
      rw [if_neg (by omega)]
      exact all_getD.2 hs
  obtain ⟨x, hx, hp⟩ := key
  unfold F137 F160
  rw [hx]
  cases x with
  | inl _ => simp only at hp; rw [hp]; rfl
  | inr v => simp only at hp; rw [hp.2]; simp [hp.1]

theorem F137b_ret : F137b rec t.kids z = some (t.kids.any f) := by
  have key : Ret (L160b_2 t.kids z rec 0) fun x => match x with | .inl _ => t.kids.any f = false | .inr v => 0 ≤ v ∧ t.kids.any f = true := by
    unfold L160b_2
    refine Ret.loop t.kids.length (fun i s => s = (i : Int) ∧ ∀ j, j < i → ¬ f (t.kids.getD j Tr.d) = true) ⟨rfl, by simp⟩ ?_ ?_
    · rintro i s hi ⟨rfl, hs⟩
      unfold B160b_2 F139
      simp (disch := omega) only [Ret_some, Ret_none, Ret_bind, Ret_asrt, Ret_cond, Sum.elim_inl, Sum.elim_inr, decide_eq_true_eq, decide_eq_false_iff_not, Bool.not_eq_true', Bool.not_not, Bool.and_eq_true, Bool.or_eq_true, Bool.true_eq_false, Bool.false_eq_true, Bool.not_true, Bool.not_false, if_true, if_false, ite_true, ite_false, true_and, and_true, false_and, and_false, Int.toNat_natCast, toN_succ, Int.ofNat_eq_natCast, Int.ofNat_toNat, Nat.zero_add, Nat.add_zero, not_true_eq_false, not_false_eq_true, implies_true, wr64, h i hi]
      rw [if_pos (by omega)]
      refine ⟨by omega, ?_⟩
      split
      · rename_i hc
        exact ⟨by omega, any_getD.2 ⟨i, hi, hc⟩⟩
      · rename_i hc
        exact ⟨by omega, forall_lt_succ.2 ⟨hs, hc⟩⟩
    · rintro s ⟨rfl, hs⟩
      unfold B160b_2
      simp (disch := omega) only [Ret_some, Ret_none, Ret_bind, Ret_asrt, Ret_cond, Sum.elim_inl, Sum.elim_inr, decide_eq_true_eq, decide_eq_false_iff_not, Bool.not_eq_true', Bool.not_not, Bool.and_eq_true, Bool.or_eq_true, Bool.true_eq_false, Bool.false_eq_true, Bool.not_true, Bool.not_false, if_true, if_false, ite_true, ite_false, true_and, and_true, false_and, and_false, Int.toNat_natCast, toN_succ, Int.ofNat_eq_natCast, Int.ofNat_toNat, Nat.zero_add, Nat.add_zero, not_true_eq_false, not_false_eq_true, implies_true, wr64]
      rw [if_neg (by omega)]
      refine Bool.eq_false_iff.2 fun hc => ?_
      obtain ⟨i, hi, hc⟩ := any_getD.1 hc
      exact hs i hi hc
  obtain ⟨x, hx, hp⟩ := key
  unfold F137b F160b
  rw [hx]
  cases x with
  | inl _ => simp only at hp; rw [hp]; rfl
  | inr v => simp only at hp; rw [hp.2]; simp [hp.1]
end

theorem F87_ret (l : List Int) (h : Fit l) (a : Int) : Ret (F87 l a) fun _ => True := by
  have key : Ret (L141_2 l a 0) fun _ => True := by
    unfold Fit at h
    unfold L141_2
    refine Ret.loop l.length (fun i s => s = (i : Int)) rfl ?_ ?_
    · rintro i s hi rfl
      unfold B141_2
      simp (disch := omega) only [Ret_some, Ret_none, Ret_bind, Ret_asrt, Ret_cond, Sum.elim_inl, Sum.elim_inr, decide_eq_true_eq, decide_eq_false_iff_not, Bool.not_eq_true', Bool.not_not, Bool.and_eq_true, Bool.or_eq_true, Bool.true_eq_false, Bool.false_eq_true, Bool.not_true, Bool.not_false, if_true, if_false, ite_true, ite_false, true_and, and_true, false_and, and_false, Int.toNat_natCast, toN_succ, Int.ofNat_eq_natCast, Int.ofNat_toNat, Nat.zero_add, Nat.add_zero, not_true_eq_false, not_false_eq_true, implies_true, wr64]
      rw [if_pos (by omega)]
      refine ⟨by omega, ?_⟩
      repeat' (first | trivial | omega | split | (refine ⟨?_, ?_⟩))
    · rintro s rfl
      unfold B141_2
      simp (disch := omega) only [Ret_some, Ret_none, Ret_bind, Ret_asrt, Ret_cond, Sum.elim_inl, Sum.elim_inr, decide_eq_true_eq, decide_eq_false_iff_not, Bool.not_eq_true', Bool.not_not, Bool.and_eq_true, Bool.or_eq_true, Bool.true_eq_false, Bool.false_eq_true, Bool.not_true, Bool.not_false, if_true, if_false, ite_true, ite_false, true_and, and_true, false_and, and_false, Int.toNat_natCast, toN_succ, Int.ofNat_eq_natCast, Int.ofNat_toNat, Nat.zero_add, Nat.add_zero, not_true_eq_false, not_false_eq_true, implies_true, wr64]
      rw [if_neg (by omega)]
      trivial
  obtain ⟨x, hx, _⟩ := key
  unfold F87 F141
  rw [hx]
  repeat' (first | exact Ret.some | (refine Ret.bif ?_ ?_) | (refine Ret.bnd ?_ fun _ => ?_) | (refine Ret.elim (fun _ => ?_) fun _ => ?_) | assumption | solve_by_elim)

theorem leaf_ret (t : Tr) (z : TTrip) (hz : Fit z.zones) (hz0 : 0 < z.zones.length) (h9 : kd t ≠ 9) (h10 : kd t ≠ 10) (h11 : kd t ≠ 11) (rec rec' : Tr → TTrip → Option Bool) :
    G84 rec t z = some ((G84 (fun _ _ => none) t z).getD true) ∧ G28 rec' t z = some ((G84 (fun _ _ => none) t z).getD true) := by
  obtain ⟨r, hr, _⟩ := F87_ret z.zones hz (List.getD t.ns (0 + 1) 0)
  unfold Fit at hz
  unfold kd at h9 h10 h11
  unfold G84 G28
  rw [hr]
  have e9 : decide (List.getD t.ns 0 0 = 9) = false := decide_eq_false h9
  have e10 : decide (List.getD t.ns 0 0 = 10) = false := decide_eq_false h10
  have e11 : decide (List.getD t.ns 0 0 = 11) = false := decide_eq_false h11
  simp only [e9, e10, e11, F136, F79_eq, F81_eq, Option.bind_some, cond_false]
  rw [wr64 (by omega) (by omega)]
  simp only [asrt, show (0 : Int) < (z.zones.length : Int) from by omega, show (0 : Int) ≤ (z.zones.length : Int) - 1 ∧ (z.zones.length : Int) - 1 < (z.zones.length : Int) from by omega, if_true, and_self]
  generalize List.getD t.ns 0 0 = K
  by_cases c1 : K = 1 <;> by_cases c2 : K = 2 <;> by_cases c3 : K = 3 <;> by_cases c4 : K = 4 <;> by_cases c5 : K = 5 <;> by_cases c6 : K = 6 <;> by_cases c7 : K = 7 <;> by_cases c8 : K = 8 <;> simp [c1, c2, c3, c4, c5, c6, c7, c8]

theorem hld_ret (z : TTrip) (hz : Fit z.zones) (hz0 : 0 < z.zones.length) : ∀ (n : Nat) (t : Tr), sizT t ≤ n → FitT t → VT n t → ∀ k, n ≤ k → F84n k t z = some (hld n t z) ∧ F28n k t z = some (hld n t z)
  | 0, t, h, _, _, _, _ => by have := sizT_pos t; omega
  | n + 1, t, h, hf, hv, 0, hk => by omega
  | n + 1, t, h, hf, hv, k + 1, hk => by
    show G84 (F84n k) t z = _ ∧ G28 (F28n k) t z = _
    have ih := fun i (hi : i < t.kids.length) => hld_ret z hz hz0 n (t.kids.getD i Tr.d) (by have := kid_lt hi; omega) (hf.kid hi) (hv.2 i hi) k (by omega)
    unfold hld
    by_cases h9 : kd t = 9
    · have h1 := hv.1 h9
      have hn := sizT_nk (t := t) (by omega)
      have ihn := hld_ret z hz hz0 n (nk t) (by omega) (by unfold FitT at hf ⊢; omega) (VT_nk hv h9) k (by omega)
      have h9' : List.getD t.ns 0 0 = 9 := h9
      rw [if_pos h9]
      unfold G84 G28
      rw [ihn.1, ihn.2]
      simp only [h9', asrt, h1]
      simp
    · by_cases h10 : kd t = 10
      · have h10' : List.getD t.ns 0 0 = 10 := h10
        rw [if_neg h9, if_pos h10]
        obtain ⟨p, hp, hp2⟩ := L28_and hf.len (f := fun x => hld n x z) (rec := F28n k) (z := z) fun i hi => (ih i hi).2
        unfold G84 G28
        rw [F137_ret hf.len (f := fun x => hld n x z) (rec := F84n k) (z := z) fun i hi => (ih i hi).1, hp, ← hp2]
        simp only [h10']
        simp
      · by_cases h11 : kd t = 11
        · have h11' : List.getD t.ns 0 0 = 11 := h11
          rw [if_neg h9, if_neg h10, if_pos h11]
          obtain ⟨p, hp, hp2⟩ := L28_or hf.len (f := fun x => hld n x z) (rec := F28n k) (z := z) fun i hi => (ih i hi).2
          unfold G84 G28
          rw [F137b_ret hf.len (f := fun x => hld n x z) (rec := F84n k) (z := z) fun i hi => (ih i hi).1, hp, ← hp2]
          simp only [h11']
          cases p <;> simp
        · rw [if_neg h9, if_neg h10, if_neg h11]
          exact leaf_ret t z hz hz0 h9 h10 h11 _ _

theorem F84_ret (z : TTrip) (hz : Fit z.zones) (hz0 : 0 < z.zones.length) (t : Tr) (hf : FitT t) (hv : VT (sizT t) t) : F84 t z = some (hld (sizT t) t z) := by
  unfold F84
  exact evF_of (sizT t) fun k hk => (hld_ret z hz hz0 (sizT t) t (Nat.le_refl _) hf hv k hk).1

theorem F28_ret (z : TTrip) (hz : Fit z.zones) (hz0 : 0 < z.zones.length) (t : Tr) (hf : FitT t) (hv : VT (sizT t) t) : F28 t z = some (hld (sizT t) t z) := by
  unfold F28
  exact evF_of (sizT t) fun k hk => (hld_ret z hz hz0 (sizT t) t (Nat.le_refl _) hf hv k hk).2

/-! ### prices -/

def bandsOk (a0 : TTariff) : Prop := ∀ i, i < a0.bands.length → 0 ≤ (a0.bands.getD i TBand.d).price ∧ (a0.bands.getD i TBand.d).price ≤ 100000

def ruleOk (r : TRule) : Prop := F27 r.if0 = some 0 ∧ (1 ≤ r.do0 ∧ r.do0 ≤ 6) ∧ (r.do0 = 1 → 0 ≤ r.n ∧ r.n ≤ 200) ∧ (r.do0 ≠ 1 → 0 ≤ r.n ∧ r.n ≤ 100000)

def rulesOk (a0 : TTariff) : Prop := ∀ i, i < a0.rules.length → ruleOk (a0.rules.getD i TRule.d)

theorem L20_4_inv (a0 : TTariff) (hb : Fit a0.bands) : Ret (L20_4 a0 0) fun x => match x with | .inl _ => bandsOk a0 | .inr r => r ≠ 0 := by
  unfold Fit at hb
  unfold L20_4 bandsOk
  refine Ret.loop a0.bands.length (fun i s => s = (i : Int) ∧ ∀ j, j < i → 0 ≤ (a0.bands.getD j TBand.d).price ∧ (a0.bands.getD j TBand.d).price ≤ 100000) ⟨rfl, by simp⟩ ?_ ?_
  · rintro i s hi ⟨rfl, hs⟩
    unfold B20_4
    simp (disch := omega) only [Ret_some, Ret_none, Ret_bind, Ret_asrt, Ret_cond, Sum.elim_inl, Sum.elim_inr, decide_eq_true_eq, decide_eq_false_iff_not, Bool.not_eq_true', Bool.not_not, Bool.and_eq_true, Bool.or_eq_true, Bool.true_eq_false, Bool.false_eq_true, Bool.not_true, Bool.not_false, if_true, if_false, ite_true, ite_false, true_and, and_true, false_and, and_false, Int.toNat_natCast, toN_succ, Int.ofNat_eq_natCast, Int.ofNat_toNat, Nat.zero_add, Nat.add_zero, not_true_eq_false, not_false_eq_true, implies_true, wr64, F81_eq]
    rw [if_pos (by omega)]
    refine ⟨by omega, ?_⟩
    rw [forall_lt_succ]
    generalize (a0.bands.getD i TBand.d).price = P at *
    generalize (a0.bands.getD i TBand.d).upto = U at *
    split
    · decide
    · split
      · decide
      · rename_i hp
        have hp : 0 ≤ P ∧ P ≤ 100000 := by simpa using hp
        split
        · refine ⟨by omega, ?_⟩
          split
          · decide
          · split
            · decide
            · exact ⟨by omega, hs, hp⟩
        · exact ⟨by omega, hs, hp⟩
  · rintro s ⟨rfl, hs⟩
    unfold B20_4
    simp (disch := omega) only [Ret_some, Ret_none, Ret_bind, Ret_asrt, Ret_cond, Sum.elim_inl, Sum.elim_inr, decide_eq_true_eq, decide_eq_false_iff_not, Bool.not_eq_true', Bool.not_not, Bool.and_eq_true, Bool.or_eq_true, Bool.true_eq_false, Bool.false_eq_true, Bool.not_true, Bool.not_false, if_true, if_false, ite_true, ite_false, true_and, and_true, false_and, and_false, Int.toNat_natCast, toN_succ, Int.ofNat_eq_natCast, Int.ofNat_toNat, Nat.zero_add, Nat.add_zero, not_true_eq_false, not_false_eq_true, implies_true, wr64]
    rw [if_neg (by omega)]
    exact hs

theorem L20_14_inv (a0 : TTariff) (h : ∀ x ∈ a0.rules, FitT x.if0) (hr : Fit a0.rules) : Ret (L20_14 a0 0) fun x => match x with | .inl _ => rulesOk a0 | .inr r => r ≠ 0 := by
  unfold Fit at hr
  unfold L20_14 rulesOk
  refine Ret.loop a0.rules.length (fun i s => s = (i : Int) ∧ ∀ j, j < i → ruleOk (a0.rules.getD j TRule.d)) ⟨rfl, by simp⟩ ?_ ?_
  · rintro i s hi ⟨rfl, hs⟩
    unfold B20_14
    obtain ⟨m, hm, _⟩ := F27_ret _ (getD_fit h i hi)
    simp (disch := omega) only [Ret_some, Ret_none, Ret_bind, Ret_asrt, Ret_cond, Sum.elim_inl, Sum.elim_inr, decide_eq_true_eq, decide_eq_false_iff_not, Bool.not_eq_true', Bool.not_not, Bool.and_eq_true, Bool.or_eq_true, Bool.true_eq_false, Bool.false_eq_true, Bool.not_true, Bool.not_false, if_true, if_false, ite_true, ite_false, true_and, and_true, false_and, and_false, Int.toNat_natCast, toN_succ, Int.ofNat_eq_natCast, Int.ofNat_toNat, Nat.zero_add, Nat.add_zero, not_true_eq_false, not_false_eq_true, implies_true, wr64, F81_eq, hm]
    rw [if_pos (by omega)]
    refine ⟨by omega, ?_⟩
    rw [forall_lt_succ]
    unfold ruleOk at hs ⊢
    rw [hm]
    generalize (a0.rules.getD i TRule.d).do0 = K at *
    generalize (a0.rules.getD i TRule.d).n = N at *
    split
    · rename_i h0; exact h0
    · rename_i h0
      have h0 : m = 0 := by simpa using h0
      subst h0
      split
      · decide
      · rename_i hk
        have hk : 1 ≤ K ∧ K ≤ 6 := by simpa using hk
        split
        · rename_i k1
          split
          · decide
          · rename_i hn
            have hn : 0 ≤ N ∧ N ≤ 200 := by simpa using hn
            exact ⟨by omega, hs, rfl, hk, fun _ => hn, fun h => absurd k1 h⟩
        · rename_i k1
          split
          · decide
          · rename_i hn
            have hn : 0 ≤ N ∧ N ≤ 100000 := by simpa using hn
            exact ⟨by omega, hs, rfl, hk, fun h => absurd h k1, fun _ => hn⟩
  · rintro s ⟨rfl, hs⟩
    unfold B20_14
    simp (disch := omega) only [Ret_some, Ret_none, Ret_bind, Ret_asrt, Ret_cond, Sum.elim_inl, Sum.elim_inr, decide_eq_true_eq, decide_eq_false_iff_not, Bool.not_eq_true', Bool.not_not, Bool.and_eq_true, Bool.or_eq_true, Bool.true_eq_false, Bool.false_eq_true, Bool.not_true, Bool.not_false, if_true, if_false, ite_true, ite_false, true_and, and_true, false_and, and_false, Int.toNat_natCast, toN_succ, Int.ofNat_eq_natCast, Int.ofNat_toNat, Nat.zero_add, Nat.add_zero, not_true_eq_false, not_false_eq_true, implies_true, wr64]
    rw [if_neg (by omega)]
    exact hs

theorem F20_inv (a0 : TTariff) (h : ∀ x ∈ a0.rules, FitT x.if0) (hb : Fit a0.bands) (hr : Fit a0.rules) (h0 : F20 a0 = some 0) :
    (1 ≤ a0.bands.length ∧ a0.bands.length ≤ 8) ∧ a0.rules.length ≤ 20 ∧ (1 ≤ a0.round ∧ a0.round ≤ 100) ∧ bandsOk a0 ∧ rulesOk a0 := by
  obtain ⟨x, hx, px⟩ := L20_4_inv a0 hb
  obtain ⟨y, hy, py⟩ := L20_14_inv a0 h hr
  unfold F20 at h0
  simp only [F81_eq, Option.bind_some, hx, hy] at h0
  by_cases c1 : 1 ≤ (a0.bands.length : Int) ∧ (a0.bands.length : Int) ≤ 8 <;> by_cases c2 : 20 < (a0.rules.length : Int) <;> by_cases c3 : 1 ≤ a0.round ∧ a0.round ≤ 100 <;>
    simp only [c1, c2, c3, decide_true, decide_false, Bool.not_true, Bool.not_false, cond_true, cond_false] at h0
  all_goals first
    | (exfalso; revert h0; simp; done)
    | (rcases x with _ | r
       · simp only [Sum.elim_inl, Bool.not_false, Bool.not_true, cond_true, cond_false] at h0
         first
         | (exfalso; revert h0; simp; done)
         | (rcases y with _ | r'
            · exact ⟨by omega, by omega, c3, px, py⟩
            · exact absurd (by simpa using h0) py)
       · exact absurd (by simpa using h0) px)

theorem do_eq {r : TRule} (h : ruleOk r) {v : Int} (hv : 0 ≤ v ∧ v ≤ 100000) : ∃ w, (0 ≤ w ∧ w ≤ 100000) ∧ F135 r v = some w ∧
    (bif decide (r.do0 = 1) then Option.some (Min.min (Go.IntKind.wrap Go.IntKind.i64 (Int.tdiv (Go.IntKind.wrap Go.IntKind.i64 (v * r.n)) 100)) 100000) else bif decide (r.do0 = 2) then Option.some (Max.max (Go.IntKind.wrap Go.IntKind.i64 (v - r.n)) 0) else bif decide (r.do0 = 3) then Option.some (Min.min (Go.IntKind.wrap Go.IntKind.i64 (v + r.n)) 100000) else bif decide (r.do0 = 4) then Option.some (r.n) else bif decide (r.do0 = 5) then Option.some (Min.min v r.n) else bif decide (r.do0 = 6) then Option.some (Max.max v r.n) else Option.some v) = some w := by
  obtain ⟨_, hk, h1, h2⟩ := h
  unfold F135
  generalize r.do0 = K at *
  generalize r.n = N at *
  have hK : K = 1 ∨ K = 2 ∨ K = 3 ∨ K = 4 ∨ K = 5 ∨ K = 6 := by omega
  rcases hK with rfl | rfl | rfl | rfl | rfl | rfl
  · have hn := h1 rfl
    have hm : 0 ≤ v * N := Int.mul_nonneg hv.1 hn.1
    have hm2 : v * N ≤ 100000 * 200 := Int.mul_le_mul hv.2 hn.2 hn.1 (by omega)
    generalize v * N = M at *
    rw [wr64 (x := M) (by omega) (by omega), Int.tdiv_eq_ediv_of_nonneg hm, wr64 (x := M / 100) (by omega) (by omega)]
    exact ⟨Min.min 100000 (M / 100), by omega, rfl, by simp; omega⟩
  · have hn := h2 (by omega)
    rw [wr64 (x := v - N) (by omega) (by omega)]
    exact ⟨Max.max 0 (v - N), by omega, rfl, by simp; omega⟩
  · have hn := h2 (by omega)
    rw [wr64 (x := v + N) (by omega) (by omega)]
    exact ⟨Min.min 100000 (v + N), by omega, rfl, by simp; omega⟩
  · have hn := h2 (by omega)
    exact ⟨N, hn, rfl, rfl⟩
  · have hn := h2 (by omega)
    exact ⟨Min.min v N, by omega, rfl, rfl⟩
  · have hn := h2 (by omega)
    exact ⟨Max.max v N, by omega, rfl, rfl⟩

section
variable {a0 : TTariff} {a1 : TTrip} (h : ∀ x ∈ a0.rules, FitT x.if0) (hz : Fit a1.zones) (hz0 : 0 < a1.zones.length) (hn : a0.rules.length ≤ 20) (hR : rulesOk a0)
include h hz hz0 hn hR

theorem rules_ret (v : Int) (hv : 0 ≤ v ∧ v ≤ 100000) : Ret (L83_10 a0 a1 (v, [], 0)) fun o => (0 ≤ o.1 ∧ o.1 ≤ 100000) ∧ L24_12 a0 a1 (v, [], 0) = some o := by
  have hh := fun i (hi : i < a0.rules.length) => F84_ret a1 hz hz0 _ (getD_fit h i hi) (F27_inv (getD_fit h i hi) (hR i hi).1)
  have hg := fun i (hi : i < a0.rules.length) => F28_ret a1 hz hz0 _ (getD_fit h i hi) (F27_inv (getD_fit h i hi) (hR i hi).1)
  -- both loops as one
  have key : ∀ (k i : Nat) (v : Int) (l : List Int), a0.rules.length - i = k → i ≤ a0.rules.length → 0 ≤ v ∧ v ≤ 100000 → l.length ≤ i → ∃ o : Int × List Int, (0 ≤ o.1 ∧ o.1 ≤ 100000) ∧ L83_10 a0 a1 (v, l, (i : Int)) = some o ∧ L24_12 a0 a1 (v, l, (i : Int)) = some o := by
    intro k
    induction k with
    | zero =>
      intro i v l hk hi hv hl
      refine ⟨(v, l), hv, ?_, ?_⟩
      · unfold L83_10
        rw [loopW_eq]
        unfold B83_10
        simp only [decide_eq_false (show ¬ (i : Int) < (a0.rules.length : Int) by omega), cond_false]
        rfl
      · unfold L24_12
        rw [loopW_eq]
        unfold B24_12
        simp only [decide_eq_false (show ¬ (i : Int) < (a0.rules.length : Int) by omega), cond_false]
        rfl
    | succ k ih =>
      intro i v l hk hi hv hl
      have hlt : i < a0.rules.length := by omega
      obtain ⟨w, hw, e1, e2⟩ := do_eq (hR i hlt) hv
      have eh := hh i hlt
      have eg := hg i hlt
      have hw' : IntKind.wrap .i64 ((i : Int) + 1) = ((i + 1 : Nat) : Int) := by rw [wr64 (by omega) (by omega)]; rfl
      cases hb : hld (sizT (a0.rules.getD i TRule.d).if0) (a0.rules.getD i TRule.d).if0 a1 with
      | false =>
        rw [hb] at eh eg
        obtain ⟨o, h1, h2, h3⟩ := ih (i + 1) v l (by omega) (by omega) hv (by omega)
        refine ⟨o, h1, ?_, ?_⟩
        · rw [← h2]
          unfold L83_10
          rw [loopW_eq]
          simp only [B83_10, decide_eq_true (show (i : Int) < (a0.rules.length : Int) by omega), cond_true, asrt, if_pos (show 0 ≤ (i : Int) ∧ (i : Int) < (a0.rules.length : Int) by omega), Int.toNat_natCast, eh, Option.bind_some, Bool.not_false, hw']
        · rw [← h3]
          unfold L24_12
          rw [loopW_eq]
          simp only [B24_12, decide_eq_true (show (i : Int) < (a0.rules.length : Int) by omega), cond_true, asrt, if_pos (show 0 ≤ (i : Int) ∧ (i : Int) < (a0.rules.length : Int) by omega), Int.toNat_natCast, eg, Option.bind_some, Bool.not_false, hw']
      | true =>
        rw [hb] at eh eg
        cases hst : (a0.rules.getD i TRule.d).stop with
        | true =>
          refine ⟨(w, l ++ [(i : Int)]), hw, ?_, ?_⟩
          · unfold L83_10
            rw [loopW_eq]
            simp only [B83_10, decide_eq_true (show (i : Int) < (a0.rules.length : Int) by omega), cond_true, cond_false, asrt, if_pos (show 0 ≤ (i : Int) ∧ (i : Int) < (a0.rules.length : Int) by omega), Int.toNat_natCast, eh, Option.bind_some, Bool.not_true, hw', if_pos (show l.length + 1 ≤ 140737488355328 ∧ (l.length + 1) * 8 ≤ 140737488355328 by omega), e1, hst]
          · unfold L24_12
            rw [loopW_eq]
            simp only [B24_12, decide_eq_true (show (i : Int) < (a0.rules.length : Int) by omega), cond_true, cond_false, asrt, if_pos (show 0 ≤ (i : Int) ∧ (i : Int) < (a0.rules.length : Int) by omega), Int.toNat_natCast, eg, Option.bind_some, Bool.not_true, hw', if_pos (show l.length + 1 ≤ 140737488355328 ∧ (l.length + 1) * 8 ≤ 140737488355328 by omega), e2, hst]
        | false =>
          obtain ⟨o, h1, h2, h3⟩ := ih (i + 1) w (l ++ [(i : Int)]) (by omega) (by omega) hw (by simp; omega)
          refine ⟨o, h1, ?_, ?_⟩
          · rw [← h2]
            unfold L83_10
            rw [loopW_eq]
            simp only [B83_10, decide_eq_true (show (i : Int) < (a0.rules.length : Int) by omega), cond_true, cond_false, asrt, if_pos (show 0 ≤ (i : Int) ∧ (i : Int) < (a0.rules.length : Int) by omega), Int.toNat_natCast, eh, Option.bind_some, Bool.not_true, hw', if_pos (show l.length + 1 ≤ 140737488355328 ∧ (l.length + 1) * 8 ≤ 140737488355328 by omega), e1, hst]
          · rw [← h3]
            unfold L24_12
            rw [loopW_eq]
            simp only [B24_12, decide_eq_true (show (i : Int) < (a0.rules.length : Int) by omega), cond_true, cond_false, asrt, if_pos (show 0 ≤ (i : Int) ∧ (i : Int) < (a0.rules.length : Int) by omega), Int.toNat_natCast, eg, Option.bind_some, Bool.not_true, hw', if_pos (show l.length + 1 ≤ 140737488355328 ∧ (l.length + 1) * 8 ≤ 140737488355328 by omega), e2, hst]
  obtain ⟨o, h1, h2, h3⟩ := key _ 0 v [] rfl (Nat.zero_le _) hv (Nat.le_refl _)
  exact ⟨o, h2, h1, h3⟩
theorem rules_len (v : Int) (hv : 0 ≤ v ∧ v ≤ 100000) : Ret (L83_10 a0 a1 (v, [], 0)) fun o => o.2.length ≤ 20 := by
  have hh := fun i (hi : i < a0.rules.length) => F84_ret a1 hz hz0 _ (getD_fit h i hi) (F27_inv (getD_fit h i hi) (hR i hi).1)
  unfold L83_10
  refine Ret.loop a0.rules.length (fun i s => s.2.2 = (i : Int) ∧ s.2.1.length ≤ i ∧ 0 ≤ s.1 ∧ s.1 ≤ 100000) ⟨rfl, Nat.le_refl _, hv⟩ ?_ ?_
  · rintro i ⟨a, b, c⟩ hi ⟨h1, h2, h3⟩
    simp only at h1 h2 h3
    subst h1
    obtain ⟨w, hw, e1, _⟩ := do_eq (hR i hi) h3
    unfold B83_10
    simp (disch := omega) only [Ret_some, Ret_none, Ret_bind, Ret_asrt, Ret_cond, Sum.elim_inl, Sum.elim_inr, decide_eq_true_eq, decide_eq_false_iff_not, Bool.not_eq_true', Bool.not_not, Bool.and_eq_true, Bool.or_eq_true, Bool.true_eq_false, Bool.false_eq_true, Bool.not_true, Bool.not_false, if_true, if_false, ite_true, ite_false, true_and, and_true, false_and, and_false, Int.toNat_natCast, toN_succ, Int.ofNat_eq_natCast, Int.ofNat_toNat, Nat.zero_add, Nat.add_zero, not_true_eq_false, not_false_eq_true, implies_true, wr64, hh i hi, e1]
    rw [if_pos (by omega)]
    refine ⟨by omega, ?_⟩
    split
    · exact ⟨by omega, by omega, h3⟩
    · refine ⟨by omega, ?_⟩
      have : (b ++ [(i : Int)]).length = b.length + 1 := by simp
      split
      · omega
      · exact ⟨by omega, by omega, hw⟩
  · rintro ⟨a, b, c⟩ ⟨h1, h2, h3⟩
    simp only at h1 h2 h3
    subst h1
    unfold B83_10
    simp (disch := omega) only [Ret_some, Ret_none, Ret_bind, Ret_asrt, Ret_cond, Sum.elim_inl, Sum.elim_inr, decide_eq_true_eq, decide_eq_false_iff_not, Bool.not_eq_true', Bool.not_not, Bool.and_eq_true, Bool.or_eq_true, Bool.true_eq_false, Bool.false_eq_true, Bool.not_true, Bool.not_false, if_true, if_false, ite_true, ite_false, true_and, and_true, false_and, and_false, Int.toNat_natCast, toN_succ, Int.ofNat_eq_natCast, Int.ofNat_toNat, Nat.zero_add, Nat.add_zero, not_true_eq_false, not_false_eq_true, implies_true, wr64]
    rw [if_neg (by omega)]
    omega
end

/-- the band of so much: the first one that reaches, or else the last -/
def isBand (l : List TBand) (p : Int) (i : Nat) : Prop := i < l.length ∧ (∀ j, j < i → ¬ p ≤ (l.getD j TBand.d).upto) ∧ (p ≤ (l.getD i TBand.d).upto ∨ i = l.length - 1)

theorem F133_ret (l : List TBand) (p : Int) (h1 : 1 ≤ l.length) (h8 : l.length ≤ 8) : Ret (F133 l p) fun o => ∃ i : Nat, isBand l p i ∧ (if o.1 < 0 then ((l.length : Int) - 1) else o.1) = (i : Int) ∧ (o.1 < 0 ∨ o.1 = (i : Int)) := by
  have key : Ret (L133_2 l (0, p)) fun x => match x with | .inl _ => ∀ j, j < l.length → ¬ p ≤ (l.getD j TBand.d).upto | .inr o => ∃ i : Nat, o.1 = (i : Int) ∧ isBand l p i := by
    unfold L133_2
    refine Ret.loop l.length (fun i s => s.1 = (i : Int) ∧ s.2 = p ∧ ∀ j, j < i → ¬ p ≤ (l.getD j TBand.d).upto) ⟨rfl, rfl, by simp⟩ ?_ ?_
    · rintro i ⟨a, b⟩ hi ⟨e1, e2, hs⟩
      simp only at e1 e2
      subst e1 e2
      unfold B133_2 F134
      simp (disch := omega) only [Ret_some, Ret_none, Ret_bind, Ret_asrt, Ret_cond, Sum.elim_inl, Sum.elim_inr, decide_eq_true_eq, decide_eq_false_iff_not, Bool.not_eq_true', Bool.not_not, Bool.and_eq_true, Bool.or_eq_true, Bool.true_eq_false, Bool.false_eq_true, Bool.not_true, Bool.not_false, if_true, if_false, ite_true, ite_false, true_and, and_true, false_and, and_false, Int.toNat_natCast, toN_succ, Int.ofNat_eq_natCast, Int.ofNat_toNat, Nat.zero_add, Nat.add_zero, not_true_eq_false, not_false_eq_true, implies_true, wr64]
      rw [if_pos (by omega)]
      refine ⟨by omega, ?_⟩
      split
      · rename_i hc
        exact ⟨i, rfl, hi, hs, .inl hc⟩
      · rename_i hc
        exact ⟨by omega, forall_lt_succ.2 ⟨hs, hc⟩⟩
    · rintro ⟨a, b⟩ ⟨e1, e2, hs⟩
      simp only at e1 e2
      subst e1 e2
      unfold B133_2
      simp (disch := omega) only [Ret_some, Ret_none, Ret_bind, Ret_asrt, Ret_cond, Sum.elim_inl, Sum.elim_inr, decide_eq_true_eq, decide_eq_false_iff_not, Bool.not_eq_true', Bool.not_not, Bool.and_eq_true, Bool.or_eq_true, Bool.true_eq_false, Bool.false_eq_true, Bool.not_true, Bool.not_false, if_true, if_false, ite_true, ite_false, true_and, and_true, false_and, and_false, Int.toNat_natCast, toN_succ, Int.ofNat_eq_natCast, Int.ofNat_toNat, Nat.zero_add, Nat.add_zero, not_true_eq_false, not_false_eq_true, implies_true, wr64]
      rw [if_neg (by omega)]
      exact hs
  obtain ⟨x, hx, hp⟩ := key
  unfold F133
  rw [hx]
  cases x with
  | inl q => exact ⟨(-1, q), rfl, l.length - 1, ⟨by omega, fun j hj => hp j (by omega), .inr rfl⟩, by simp only; rw [if_pos (by decide)]; omega, .inl (show (-1 : Int) < 0 by decide)⟩
  | inr o =>
    obtain ⟨i, e, hi⟩ := hp
    exact ⟨o, rfl, i, hi, by rw [if_neg (by omega), e], .inr e⟩

theorem isBand_un {l : List TBand} {p : Int} {i j : Nat} (h : isBand l p i) (k : isBand l p j) : i = j := by
  obtain ⟨h1, h2, h3⟩ := h
  obtain ⟨k1, k2, k3⟩ := k
  rcases Nat.lt_trichotomy i j with c | c | c
  · rcases h3 with h3 | h3
    · exact absurd h3 (k2 i c)
    · omega
  · exact c
  · rcases k3 with k3 | k3
    · exact absurd k3 (h2 j c)
    · omega

theorem L24_6_ret (a0 : TTariff) (p : Int) (h1 : 1 ≤ a0.bands.length) (h8 : a0.bands.length ≤ 8) (i : Nat) (hb : isBand a0.bands p i) :
    L24_6 a0 p ((a0.bands.getD (a0.bands.length - 1) TBand.d).price, (a0.bands.length : Int) - 1) = some (a0.bands.getD i TBand.d).price := by
  refine Ret.eq ?_
  unfold L24_6
  refine Ret.while (fun s => (-1 ≤ s.2 ∧ s.2 < a0.bands.length) ∧ ∃ m : Nat, m < a0.bands.length ∧ s.1 = (a0.bands.getD m TBand.d).price ∧ s.2 < (m : Int) + 1 ∧ (∀ j : Nat, s.2 < (j : Int) → j < m → ¬ p ≤ (a0.bands.getD j TBand.d).upto) ∧ (p ≤ (a0.bands.getD m TBand.d).upto ∨ m = a0.bands.length - 1)) (fun s => (s.2 + 1).toNat) ?_ ?_
  · exact ⟨⟨by show -1 ≤ (a0.bands.length : Int) - 1; omega, by show (a0.bands.length : Int) - 1 < _; omega⟩, a0.bands.length - 1, by omega, rfl, by show (a0.bands.length : Int) - 1 < _; omega, fun j hj hj2 => by simp only at hj; omega, .inr rfl⟩
  · rintro ⟨a, b⟩ ⟨hb2, m, hm, e, hlt, hno, hyes⟩
    simp only at hb2 hm e hlt hno hyes
    subst e
    unfold B24_6
    simp (disch := omega) only [Ret_some, Ret_none, Ret_bind, Ret_asrt, Ret_cond, Sum.elim_inl, Sum.elim_inr, decide_eq_true_eq, decide_eq_false_iff_not, Bool.not_eq_true', Bool.not_not, Bool.and_eq_true, Bool.or_eq_true, Bool.true_eq_false, Bool.false_eq_true, Bool.not_true, Bool.not_false, if_true, if_false, ite_true, ite_false, true_and, and_true, false_and, and_false, Int.toNat_natCast, toN_succ, Int.ofNat_eq_natCast, Int.ofNat_toNat, Nat.zero_add, Nat.add_zero, not_true_eq_false, not_false_eq_true, implies_true, wr64]
    split
    · rename_i c
      refine ⟨by omega, ?_⟩
      split
      · rename_i d
        refine ⟨⟨by omega, b.toNat, by omega, rfl, by omega, fun j hj hj2 => by omega, .inl d⟩, by omega⟩
      · rename_i d
        refine ⟨⟨by omega, m, hm, rfl, by omega, fun j hj hj2 => ?_, hyes⟩, by omega⟩
        by_cases hjb : (j : Int) = b
        · rw [show b.toNat = j by omega] at d; exact d
        · exact hno j (by omega) hj2
    · rename_i c
      have := isBand_un hb ⟨hm, fun j hj => hno j (by omega) hj, hyes⟩
      rw [this]

theorem round_ret (a0 : TTariff) (hR : 1 ≤ a0.round ∧ a0.round ≤ 100) (v : Int) (hv : 0 ≤ v ∧ v ≤ 100000) : L24_31 a0 v = some ((v + a0.round - 1) / a0.round * a0.round) := by
  refine Ret.eq ?_
  unfold L24_31
  generalize hRR : a0.round = R at *
  have hR0 : R ≠ 0 := by omega
  have hq : (v + R - 1) / R * R ≤ v + R - 1 ∧ v ≤ (v + R - 1) / R * R := by
    have e := Int.ediv_mul_add_emod (v + R - 1) R
    have m1 := Int.emod_nonneg (v + R - 1) hR0
    have m2 := Int.emod_lt_of_pos (v + R - 1) (show 0 < R by omega)
    omega
  have hd : ((v + R - 1) / R * R) % R = 0 := Int.mul_emod_left _ _
  generalize (v + R - 1) / R * R = T at *
  refine Ret.while (fun s => v ≤ s ∧ s ≤ T) (fun s => (T - s).toNat) ⟨Int.le_refl _, hq.2⟩ ?_
  rintro s ⟨h1, h2⟩
  unfold B24_31
  rw [hRR, Int.tmod_eq_emod_of_nonneg (show 0 ≤ s by omega)]
  simp (disch := omega) only [Ret_some, Ret_none, Ret_bind, Ret_asrt, Ret_cond, Sum.elim_inl, Sum.elim_inr, decide_eq_true_eq, decide_eq_false_iff_not, Bool.not_eq_true', Bool.not_not, Bool.and_eq_true, Bool.or_eq_true, Bool.true_eq_false, Bool.false_eq_true, Bool.not_true, Bool.not_false, if_true, if_false, ite_true, ite_false, true_and, and_true, false_and, and_false, Int.toNat_natCast, toN_succ, Int.ofNat_eq_natCast, Int.ofNat_toNat, Nat.zero_add, Nat.add_zero, not_true_eq_false, not_false_eq_true, implies_true, wr64, hR0]
  split
  · rename_i c
    have : s ≠ T := by rintro rfl; exact c hd
    omega
  · rename_i c
    have c : s % R = 0 := by simpa using c
    -- multiples less than R apart
    by_cases d : s = T
    · exact d
    · exfalso
      have e1 := Int.ediv_mul_add_emod s R
      have e2 := Int.ediv_mul_add_emod T R
      rw [c] at e1
      rw [hd] at e2
      have h3 : s / R * R < T / R * R := by omega
      have h4 : s / R < T / R := Int.lt_of_mul_lt_mul_right h3 (by omega)
      have h5 : (s / R + 1) * R ≤ T / R * R := Int.mul_le_mul_of_nonneg_right (by omega) (by omega)
      rw [Int.add_mul, Int.one_mul] at h5
      omega

theorem F25_ret (l : List Int) (h : l.length ≤ 20) : F25 l l = some true := by
  have key : Ret (L25_4 l l 0) fun x => x = .inl () := by
    unfold L25_4
    refine Ret.loop l.length (fun i s => s = (i : Int)) rfl ?_ ?_
    · rintro i s hi rfl
      unfold B25_4
      simp (disch := omega) only [Ret_some, Ret_none, Ret_bind, Ret_asrt, Ret_cond, Sum.elim_inl, Sum.elim_inr, decide_eq_true_eq, decide_eq_false_iff_not, Bool.not_eq_true', Bool.not_not, Bool.and_eq_true, Bool.or_eq_true, Bool.true_eq_false, Bool.false_eq_true, Bool.not_true, Bool.not_false, if_true, if_false, ite_true, ite_false, true_and, and_true, false_and, and_false, Int.toNat_natCast, toN_succ, Int.ofNat_eq_natCast, Int.ofNat_toNat, Nat.zero_add, Nat.add_zero, not_true_eq_false, not_false_eq_true, implies_true, wr64]
      rw [if_pos (by omega)]
      refine ⟨by omega, by omega, ?_⟩
      simp
    · rintro s rfl
      unfold B25_4
      simp (disch := omega) only [Ret_some, Ret_none, Ret_bind, Ret_asrt, Ret_cond, Sum.elim_inl, Sum.elim_inr, decide_eq_true_eq, decide_eq_false_iff_not, Bool.not_eq_true', Bool.not_not, Bool.and_eq_true, Bool.or_eq_true, Bool.true_eq_false, Bool.false_eq_true, Bool.not_true, Bool.not_false, if_true, if_false, ite_true, ite_false, true_and, and_true, false_and, and_false, Int.toNat_natCast, toN_succ, Int.ofNat_eq_natCast, Int.ofNat_toNat, Nat.zero_add, Nat.add_zero, not_true_eq_false, not_false_eq_true, implies_true, wr64]
      rw [if_neg (by omega)]
      trivial
  obtain ⟨x, hx, rfl⟩ := key
  unfold F25
  rw [hx]
  simp

theorem price_ret (a0 : TTariff) (a1 : TTrip) (h : ∀ x ∈ a0.rules, FitT x.if0) (hb : Fit a0.bands) (hr : Fit a0.rules) (hz : Fit a1.zones) (h0 : F20 a0 = some 0) (k0 : F22 a1 = some 0) :
    ∃ o : Int × List Int, o.2.length ≤ 20 ∧ F83 a0 a1 = some o ∧ F24 a0 a1 = some o := by
  obtain ⟨hB, hn, hR, hbo, hru⟩ := F20_inv a0 h hb hr h0
  obtain ⟨hkm, hz1, hz2⟩ := F22_inv k0
  unfold F83 F24
  have hp : ∃ p, (bif TTariff.byKm a0 then Option.some (TTrip.km a1) else Option.some ((TTrip.zones a1).length : Int)) = some p := by
    cases a0.byKm
    · exact ⟨_, rfl⟩
    · exact ⟨_, rfl⟩
  obtain ⟨p, hp⟩ := hp
  rw [hp]
  simp only [Option.bind_some]
  obtain ⟨⟨o1, o2⟩, e133, i, hi, hi2, hi3⟩ := F133_ret a0.bands p hB.1 hB.2
  simp only at hi2 hi3
  have hil := hi.1
  have hpr := hbo i hil
  obtain ⟨o, ho2, ho1, ho3⟩ := rules_ret h hz hz1 hn hru (v := (a0.bands.getD i TBand.d).price) hpr
  have hlen : o.2.length ≤ 20 := by
    have key : Ret (L83_10 a0 a1 ((a0.bands.getD i TBand.d).price, [], 0)) fun o => o.2.length ≤ 20 := rules_len h hz hz1 hn hru _ hpr
    obtain ⟨o', e, k⟩ := key
    rw [ho2] at e
    cases e
    exact k
  have ew : IntKind.wrap .i64 ((a0.bands.length : Int) - 1) = (a0.bands.length : Int) - 1 := wr64 (by omega) (by omega)
  have el : ((a0.bands.length : Int) - 1).toNat = a0.bands.length - 1 := by omega
  refine ⟨(((o.1 + a0.round - 1) / a0.round * a0.round), o.2), hlen, ?_, ?_⟩
  · rw [e133]
    simp only [Option.bind_some]
    have e2 : (bif decide (o1 < 0) then Option.some (IntKind.wrap .i64 ((a0.bands.length : Int) - 1)) else Option.some o1) = some (i : Int) := by
      rw [ew, ← hi2]
      by_cases c : o1 < 0
      · simp [c]
      · simp [c]
    rw [e2]
    simp only [Option.bind_some, asrt, if_pos (show 0 ≤ (i : Int) ∧ (i : Int) < (a0.bands.length : Int) by omega), Int.toNat_natCast, ho2, decide_eq_false (show a0.round ≠ 0 by omega), Bool.not_false, cond_true]
    have hq : 0 ≤ (o.1 + a0.round - 1) / a0.round * a0.round ∧ (o.1 + a0.round - 1) / a0.round * a0.round ≤ o.1 + a0.round - 1 := by
      have e := Int.ediv_mul_add_emod (o.1 + a0.round - 1) a0.round
      have m1 := Int.emod_nonneg (o.1 + a0.round - 1) (show a0.round ≠ 0 by omega)
      have m2 := Int.emod_lt_of_pos (o.1 + a0.round - 1) (show 0 < a0.round by omega)
      refine ⟨?_, by omega⟩
      exact Int.mul_nonneg (Int.ediv_nonneg (by omega) (by omega)) (by omega)
    have hq2 : 0 ≤ (o.1 + a0.round - 1) / a0.round ∧ (o.1 + a0.round - 1) / a0.round ≤ o.1 + a0.round - 1 :=
      ⟨Int.ediv_nonneg (by omega) (by omega), Int.ediv_le_self _ (by omega)⟩
    rw [wr64 (x := o.1 + a0.round) (by omega) (by omega), wr64 (x := o.1 + a0.round - 1) (by omega) (by omega), Int.tdiv_eq_ediv_of_nonneg (by omega), wr64 (x := (o.1 + a0.round - 1) / a0.round) (by omega) (by omega), wr64 (by omega) (by omega)]
  · rw [ew, el, L24_6_ret a0 p hB.1 hB.2 i hi]
    simp only [asrt, if_pos (show 0 ≤ (a0.bands.length : Int) - 1 ∧ (a0.bands.length : Int) - 1 < (a0.bands.length : Int) by omega), Option.bind_some, ho3]
    rw [round_ret a0 hR o.1 ho1]
    rfl

theorem F4_true (a0 : TTariff) (a1 : TTrip) (h : ∀ x ∈ a0.rules, FitT x.if0) (hb : Fit a0.bands) (hr : Fit a0.rules) (hz : Fit a1.zones) : F4 a0 a1 = some true := by
  obtain ⟨x, hx, _⟩ := F20_ret a0 h hb hr
  obtain ⟨y, hy, _⟩ := F22_ret a1 hz
  unfold F4 F23
  rw [F19_eq a0 h, F21_eq a1, hx, hy, F18_eq]
  simp only [Option.bind_some]
  by_cases c : x = 0
  · subst c
    by_cases d : y = 0
    · subst d
      obtain ⟨o, hl, h1, h2⟩ := price_ret a0 a1 h hb hr hz hx hy
      rw [h1, h2]
      simp [F25_ret o.2 hl]
    · simp [d]
  · simp [c]

end Go.Proofs.Ytgghnfmabphbmaa
