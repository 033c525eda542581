/- FareTariffs: what its pure functions return. -/
import Derived.Test.YtgghnfmabphbmaaA21
import Derived.Test.YtgghnfmabphbmaaR3C
import Derived.Test.YtgghnfmabphbmaaA18
open Go Go.Proofs.Ytgghnfmabphbmaa.Fw
namespace Go.Proofs.Ytgghnfmabphbmaa
set_option maxRecDepth 100000
set_option linter.unusedVariables false
set_option linter.unusedSimpArgs false

/-- lists that are not too long -/
def Fit {α : Type} (l : List α) : Prop := l.length < 140737488355328

theorem F79_eq (n a b : Int) : F79 n a b = some (decide (a ≤ n ∧ n ≤ b)) := by
  unfold F79
  by_cases h : a ≤ n <;> simp [h]

theorem F81_eq (n a b : Int) : F81 n a b = some (decide (a ≤ n ∧ n ≤ b)) := F79_eq n a b

/-! ### trees -/

mutual
def levT : Tr → Nat
  | .mk _ l => levTs l + 1
def levTs : List Tr → Nat
  | [] => 0
  | x :: r => max (levT x) (levTs r)
end

theorem sumL_mem {α : Type} (f : α → Nat) {x : α} : ∀ {l : List α}, x ∈ l → f x ≤ sumL f l
  | [], h => by simp at h
  | y :: r, h => by
    simp only [sumL]
    rcases List.mem_cons.1 h with rfl | h
    · omega
    · have := sumL_mem f h
      omega

theorem sizT_eq (t : Tr) : sizT t = sizTs t.kids + 1 := by cases t; simp [sizT, Tr.kids]
theorem levT_eq (t : Tr) : levT t = levTs t.kids + 1 := by cases t; simp [levT, Tr.kids]

theorem sizTs_take {l : List Tr} {i : Nat} (h : i < l.length) : sizTs (l.take (i + 1)) = sizTs (l.take i) + sizT (l.getD i Tr.d) := by
  induction l generalizing i with
  | nil => simp at h
  | cons x r ih =>
    cases i with
    | zero => simp [sizTs]
    | succ i => have := ih (i := i) (by simpa using h); simp only [List.take_succ_cons, sizTs, List.getD_cons_succ, this]; omega

theorem levTs_take {l : List Tr} {i : Nat} (h : i < l.length) : levTs (l.take (i + 1)) = max (levTs (l.take i)) (levT (l.getD i Tr.d)) := by
  induction l generalizing i with
  | nil => simp at h
  | cons x r ih =>
    cases i with
    | zero => simp [levTs]
    | succ i => have := ih (i := i) (by simpa using h); simp only [List.take_succ_cons, levTs, List.getD_cons_succ, this]; omega

theorem sizTs_take_le : ∀ (l : List Tr) (i : Nat), sizTs (l.take i) ≤ sizTs l
  | [], i => by simp
  | x :: r, 0 => by simp [sizTs]
  | x :: r, i + 1 => by have := sizTs_take_le r i; simp only [List.take_succ_cons, sizTs]; omega

theorem sizT_pos (t : Tr) : 1 ≤ sizT t := by rw [sizT_eq]; omega

theorem levTs_le : ∀ (n : Nat), (∀ t, sizT t ≤ n → levT t ≤ sizT t) ∧ ∀ l, sizTs l ≤ n → levTs l ≤ sizTs l := by
  intro n
  induction n with
  | zero =>
    refine ⟨fun t h => by have := sizT_pos t; omega, fun l h => ?_⟩
    cases l with
    | nil => exact Nat.le_refl _
    | cons x r => have := sizT_pos x; simp only [sizTs] at h; omega
  | succ n ih =>
    have h1 : ∀ t, sizT t ≤ n + 1 → levT t ≤ sizT t := fun t h => by
      rw [sizT_eq] at h ⊢
      rw [levT_eq]
      have := ih.2 t.kids (by omega)
      omega
    refine ⟨h1, ?_⟩
    intro l
    induction l with
    | nil => exact fun _ => Nat.le_refl _
    | cons x r ih2 =>
      intro h
      simp only [sizTs] at h
      have := h1 x (by omega)
      have := ih2 (by have := sizT_pos x; omega)
      simp only [sizTs, levTs]
      omega

theorem levT_le (t : Tr) : levT t ≤ sizT t := (levTs_le (sizT t)).1 t (Nat.le_refl _)

theorem kids_len (l : List Tr) : l.length ≤ sizTs l := by
  induction l with
  | nil => exact Nat.le_refl _
  | cons x r ih => have := sizT_pos x; simp only [sizTs, List.length_cons]; omega

theorem kid_lt {t : Tr} {i : Nat} (h : i < t.kids.length) : sizT (t.kids.getD i Tr.d) < sizT t := by
  have h1 := sizTs_take h
  have h2 := sizTs_take_le t.kids (i + 1)
  rw [sizT_eq t]
  omega

/-- trees that are not too great -/
def FitT (t : Tr) : Prop := sizT t ≤ 1048576

theorem FitT.kid {t : Tr} (h : FitT t) {i : Nat} (hi : i < t.kids.length) : FitT (t.kids.getD i Tr.d) := by
  have := kid_lt hi
  unfold FitT at h ⊢
  omega

theorem FitT.len {t : Tr} (h : FitT t) : t.kids.length ≤ 1048576 := by
  have := kids_len t.kids
  unfold FitT at h
  rw [sizT_eq] at h
  omega

theorem F131n_ret : ∀ (n : Nat) (t : Tr), sizT t ≤ n → FitT t → ∀ k, n ≤ k → F131n k t = some ((sizT t : Int), (levT t : Int))
  | 0, t, h, _, k, _ => by have := sizT_pos t; omega
  | n + 1, t, h, hf, 0, hk => by omega
  | n + 1, t, h, hf, k + 1, hk => by
    show G131 (F131n k) t = _
    refine Ret.eq ?_
    have hlen := hf.len
    have hft := hf
    unfold FitT at hft
    have hle := levT_le t
    unfold G131 L131_3
    simp (disch := omega) only [Ret_some, Ret_none, Ret_bind, Ret_asrt, Ret_cond, Sum.elim_inl, Sum.elim_inr, decide_eq_true_eq, decide_eq_false_iff_not, Bool.not_eq_true', Bool.not_not, Bool.and_eq_true, Bool.or_eq_true, Bool.true_eq_false, Bool.false_eq_true, Bool.not_true, Bool.not_false, if_true, if_false, ite_true, ite_false, true_and, and_true, false_and, and_false, Int.toNat_natCast, toN_succ, Int.ofNat_eq_natCast, Int.ofNat_toNat, Nat.zero_add, Nat.add_zero, not_true_eq_false, not_false_eq_true, implies_true, wr64]
    refine Ret.loop t.kids.length (fun i s => s.2.2 = (i : Int) ∧ s.1 = ((sizTs (t.kids.take i) + 1 : Nat) : Int) ∧ s.2.1 = ((levTs (t.kids.take i) : Nat) : Int)) ⟨rfl, rfl, rfl⟩ ?_ ?_
    · rintro i ⟨a, b, c⟩ hi ⟨h1, h2, h3⟩
      simp only at h1 h2 h3
      subst h1 h2 h3
      have hk' := kid_lt hi
      have hn := sizTs_take hi
      have hl := levTs_take hi
      have hle2 := sizTs_take_le t.kids (i + 1)
      rw [sizT_eq t] at hft
      unfold B131_3
      simp (disch := omega) only [Ret_some, Ret_none, Ret_bind, Ret_asrt, Ret_cond, Sum.elim_inl, Sum.elim_inr, decide_eq_true_eq, decide_eq_false_iff_not, Bool.not_eq_true', Bool.not_not, Bool.and_eq_true, Bool.or_eq_true, Bool.true_eq_false, Bool.false_eq_true, Bool.not_true, Bool.not_false, if_true, if_false, ite_true, ite_false, true_and, and_true, false_and, and_false, Int.toNat_natCast, toN_succ, Int.ofNat_eq_natCast, Int.ofNat_toNat, Nat.zero_add, Nat.add_zero, not_true_eq_false, not_false_eq_true, implies_true, wr64, F131n_ret n (t.kids.getD i Tr.d) (by omega) (hf.kid hi) k (by omega)]
      rw [if_pos (by omega)]
      refine ⟨by omega, by omega, by omega, by omega⟩
    · rintro ⟨a, b, c⟩ ⟨h1, h2, h3⟩
      simp only at h1 h2 h3
      subst h1 h2 h3
      unfold B131_3
      simp (disch := omega) only [Ret_some, Ret_none, Ret_bind, Ret_asrt, Ret_cond, Sum.elim_inl, Sum.elim_inr, decide_eq_true_eq, decide_eq_false_iff_not, Bool.not_eq_true', Bool.not_not, Bool.and_eq_true, Bool.or_eq_true, Bool.true_eq_false, Bool.false_eq_true, Bool.not_true, Bool.not_false, if_true, if_false, ite_true, ite_false, true_and, and_true, false_and, and_false, Int.toNat_natCast, toN_succ, Int.ofNat_eq_natCast, Int.ofNat_toNat, Nat.zero_add, Nat.add_zero, not_true_eq_false, not_false_eq_true, implies_true, wr64]
      rw [if_neg (by omega), List.take_length]
      rw [sizT_eq] at hle
      rw [levT_eq] at hle
      rw [sizT_eq] at hft
      rw [sizT_eq, levT_eq]
      rw [wr64 (by omega) (by omega)]
      rfl

theorem F131_ret (t : Tr) (h : FitT t) : F131 t = some ((sizT t : Int), (levT t : Int)) := by
  unfold F131
  exact evF_of (sizT t) fun k hk => F131n_ret (sizT t) t (Nat.le_refl _) h k hk

/-- what the other one counts: down from so many -/
def shpOk (t : Tr) (left : Int) (o : Int × Int) : Prop := if (sizT t : Int) ≤ left then o = ((levT t : Int), left - sizT t) else o.2 < 0

theorem F85n_ret : ∀ (n : Nat) (t : Tr), sizT t ≤ n → FitT t → ∀ k, n ≤ k → ∀ left : Int, 0 ≤ left → left ≤ 40 → Ret (F85n k t left) (shpOk t left)
  | 0, t, h, _, k, _, _, _, _ => by have := sizT_pos t; omega
  | n + 1, t, h, hf, 0, hk, _, _, _ => by omega
  | n + 1, t, h, hf, k + 1, hk, left, h0, h40 => by
    show Ret (G85 (F85n k) t left) _
    have hlen := hf.len
    have hpos := sizT_pos t
    have hft := hf
    unfold FitT at hft
    have hle := levT_le t
    unfold G85
    simp (disch := omega) only [Ret_some, Ret_none, Ret_bind, Ret_asrt, Ret_cond, Sum.elim_inl, Sum.elim_inr, decide_eq_true_eq, decide_eq_false_iff_not, Bool.not_eq_true', Bool.not_not, Bool.and_eq_true, Bool.or_eq_true, Bool.true_eq_false, Bool.false_eq_true, Bool.not_true, Bool.not_false, if_true, if_false, ite_true, ite_false, true_and, and_true, false_and, and_false, Int.toNat_natCast, toN_succ, Int.ofNat_eq_natCast, Int.ofNat_toNat, Nat.zero_add, Nat.add_zero, not_true_eq_false, not_false_eq_true, implies_true, wr64]
    split
    · unfold shpOk; rw [if_neg (by omega)]; assumption
    unfold L85_5
    refine Ret.loop t.kids.length (fun i s => s.2.1 = (i : Int) ∧ s.2.2 = left - 1 - (sizTs (t.kids.take i) : Int) ∧ 0 ≤ s.2.2 ∧ s.1 = ((levTs (t.kids.take i) : Nat) : Int)) ?_ ?_ ?_
    · exact ⟨rfl, by simp [sizTs], show (0 : Int) ≤ left - 1 by omega, rfl⟩
    · rintro i ⟨a, b, c⟩ hi ⟨h1, h2, h2', h3⟩
      simp only at h1 h2 h2' h3
      subst h1 h2 h3
      have hk' := kid_lt hi
      have hn := sizTs_take hi
      have hl := levTs_take hi
      have hle2 := sizTs_take_le t.kids (i + 1)
      have hlk := levT_le (t.kids.getD i Tr.d)
      unfold B85_5
      simp (disch := omega) only [Ret_some, Ret_none, Ret_bind, Ret_asrt, Ret_cond, Sum.elim_inl, Sum.elim_inr, decide_eq_true_eq, decide_eq_false_iff_not, Bool.not_eq_true', Bool.not_not, Bool.and_eq_true, Bool.or_eq_true, Bool.true_eq_false, Bool.false_eq_true, Bool.not_true, Bool.not_false, if_true, if_false, ite_true, ite_false, true_and, and_true, false_and, and_false, Int.toNat_natCast, toN_succ, Int.ofNat_eq_natCast, Int.ofNat_toNat, Nat.zero_add, Nat.add_zero, not_true_eq_false, not_false_eq_true, implies_true, wr64]
      rw [if_pos (by omega)]
      refine ⟨by omega, ?_⟩
      refine (F85n_ret n (t.kids.getD i Tr.d) (by omega) (hf.kid hi) k (by omega) _ h2' (by omega)).mono ?_
      rintro ⟨lv, lf⟩ ho
      unfold shpOk at ho
      simp only at ho
      have e := sizT_eq t
      have e' := levT_eq t
      simp (disch := omega) only [Ret_some, Ret_none, Ret_bind, Ret_asrt, Ret_cond, Sum.elim_inl, Sum.elim_inr, decide_eq_true_eq, decide_eq_false_iff_not, Bool.not_eq_true', Bool.not_not, Bool.and_eq_true, Bool.or_eq_true, Bool.true_eq_false, Bool.false_eq_true, Bool.not_true, Bool.not_false, if_true, if_false, ite_true, ite_false, true_and, and_true, false_and, and_false, Int.toNat_natCast, toN_succ, Int.ofNat_eq_natCast, Int.ofNat_toNat, Nat.zero_add, Nat.add_zero, not_true_eq_false, not_false_eq_true, implies_true, wr64]
      split at ho
      · simp only [Prod.mk.injEq] at ho
        obtain ⟨rfl, rfl⟩ := ho
        rw [if_neg (by omega)]
        refine ⟨by omega, by omega, by omega, by omega⟩
      · rw [if_pos ho]
        unfold shpOk
        rw [if_neg (by omega)]
        exact ho
    · rintro ⟨a, b, c⟩ ⟨h1, h2, h2', h3⟩
      simp only at h1 h2 h2' h3
      subst h1 h2 h3
      unfold B85_5
      simp (disch := omega) only [Ret_some, Ret_none, Ret_bind, Ret_asrt, Ret_cond, Sum.elim_inl, Sum.elim_inr, decide_eq_true_eq, decide_eq_false_iff_not, Bool.not_eq_true', Bool.not_not, Bool.and_eq_true, Bool.or_eq_true, Bool.true_eq_false, Bool.false_eq_true, Bool.not_true, Bool.not_false, if_true, if_false, ite_true, ite_false, true_and, and_true, false_and, and_false, Int.toNat_natCast, toN_succ, Int.ofNat_eq_natCast, Int.ofNat_toNat, Nat.zero_add, Nat.add_zero, not_true_eq_false, not_false_eq_true, implies_true, wr64]
      have e := sizT_eq t
      have e' := levT_eq t
      rw [List.take_length] at h2' ⊢
      rw [if_neg (by omega)]
      unfold shpOk
      rw [if_pos (by omega), wr64 (by omega) (by omega)]
      simp only [Prod.mk.injEq]
      omega

theorem Ret.bif {α : Type} {c : Bool} {x y : Option α} (h1 : Ret x fun _ => True) (h2 : Ret y fun _ => True) : Ret (bif c then x else y) fun _ => True := by cases c <;> assumption

theorem Ret.bnd {α β : Type} {a : Option β} {f : β → Option α} (h1 : Ret a fun _ => True) (h2 : ∀ x, Ret (f x) fun _ => True) : Ret (a.bind f) fun _ => True := Ret_bind.2 (h1.mono fun x _ => h2 x)

theorem Ret.elim {α X Y : Type} {f : X → Option α} {g : Y → Option α} {x : X ⊕ Y} (h1 : ∀ p, Ret (f p) fun _ => True) (h2 : ∀ p, Ret (g p) fun _ => True) : Ret (Sum.elim f g x) fun _ => True := by
  cases x with
  | inl p => exact h1 p
  | inr p => exact h2 p

theorem Ret.some {α : Type} {x : α} : Ret (Option.some x) fun _ => True := ⟨x, rfl, trivial⟩

theorem evF_unif {α : Type} {f : Nat → Option α} (n : Nat) (h : ∀ k, n ≤ k → f k = f n) : evF f = f n := by
  cases e : f n with
  | some r => exact evF_of n fun k hk => by rw [h k hk, e]
  | none =>
    unfold evF
    rw [dif_neg]
    rintro ⟨r, k0, hk⟩
    have h1 := hk (max k0 n) (by omega)
    rw [h (max k0 n) (by omega), e] at h1
    cases h1

theorem G85_congr {rec rec' : Tr → Int → Option (Int × Int)} {t : Tr} (h : ∀ i, i < t.kids.length → rec (t.kids.getD i Tr.d) = rec' (t.kids.getD i Tr.d)) : G85 rec t = G85 rec' t := by
  have hl : L85_5 t rec = L85_5 t rec' := by
    funext s
    unfold L85_5
    refine loopW_congr (fun s => ?_) s
    unfold B85_5
    by_cases c : 0 ≤ s.2.1 ∧ s.2.1 < (t.kids.length : Int)
    · rw [h s.2.1.toNat (by omega)]
    · simp only [asrt, if_neg c]
  unfold G85
  rw [hl]

theorem F85n_unif : ∀ (n : Nat) (t : Tr), sizT t ≤ n → ∀ k, n ≤ k → F85n k t = F85n n t
  | 0, t, h, _, _ => by have := sizT_pos t; omega
  | n + 1, t, h, 0, hk => by omega
  | n + 1, t, h, k + 1, hk => by
    show G85 (F85n k) t = G85 (F85n n) t
    exact G85_congr fun i hi => F85n_unif n _ (by have := kid_lt hi; omega) k (by omega)

theorem F85_ret (t : Tr) (h : FitT t) : Ret (F85 t 40) (shpOk t 40) := by
  unfold F85
  rw [evF_unif (sizT t) fun k hk => by rw [F85n_unif (sizT t) t (Nat.le_refl _) k hk]]
  exact F85n_ret (sizT t) t (Nat.le_refl _) h _ (Nat.le_refl _) 40 (by omega) (by omega)

/-! ### the inner check -/

theorem L132_eq : L132_11 = L86_20 := rfl

theorem F159_eq : F159 = F140 := rfl

theorem G132_eq : G132 = G86 := by
  funext rec t
  unfold G132 G86
  rw [L132_eq, F159_eq]
  simp only [F79_eq, F81_eq]
  generalize L86_20 t rec 0 = M
  generalize List.getD t.ns 0 0 = K
  generalize List.getD t.ns (0 + 1) 0 = A
  generalize List.getD t.ns (0 + 1 + 1) 0 = B
  generalize (t.kids.length : Int) = L
  by_cases hK : 0 ≤ K ∧ K ≤ 11
  · have hK' : K = 0 ∨ K = 1 ∨ K = 2 ∨ K = 3 ∨ K = 4 ∨ K = 5 ∨ K = 6 ∨ K = 7 ∨ K = 8 ∨ K = 9 ∨ K = 10 ∨ K = 11 := by omega
    by_cases hA : 0 ≤ A ∧ A ≤ 28800
    · by_cases hB : 0 ≤ B ∧ B ≤ 28800
      · rcases hK' with rfl | rfl | rfl | rfl | rfl | rfl | rfl | rfl | rfl | rfl | rfl | rfl <;> simp [F140, hA, hB] <;> by_cases a1 : A = 0 <;> by_cases b1 : B = 0 <;> by_cases ab : B < A <;> by_cases b0 : B < 0 <;> by_cases a0 : 0 < A <;> by_cases l0 : 0 < L <;> by_cases l1 : L = 1 <;> by_cases l2 : L < 2 <;> simp [a1, b1, ab, b0, a0, l0, l1, l2] <;> omega
      · rcases hK' with rfl | rfl | rfl | rfl | rfl | rfl | rfl | rfl | rfl | rfl | rfl | rfl <;> simp [F140, hA, hB]
    · rcases hK' with rfl | rfl | rfl | rfl | rfl | rfl | rfl | rfl | rfl | rfl | rfl | rfl <;> simp [F140, hA]
  · have h1 : ∃ r, F140 K = some r := by
      unfold F140
      by_cases c2 : K = 2 <;> by_cases c3 : K = 3 <;> by_cases c4 : K = 4 <;> by_cases c5 : K = 5 <;> by_cases c6 : K = 6 <;> by_cases c7 : K = 7 <;> by_cases c8 : K = 8 <;> simp [c2, c3, c4, c5, c6, c7, c8]
    obtain ⟨r, h1⟩ := h1
    simp [h1, hK]

theorem F132n_eq : ∀ k, F132n k = F86n k
  | 0 => rfl
  | k + 1 => by show G132 (F132n k) = G86 (F86n k); rw [F132n_eq k, G132_eq]

theorem F132_eq : F132 = F86 := by
  funext t
  unfold F132 F86
  simp only [F132n_eq]

theorem F80_eq (t : Tr) (h : FitT t) : F80 t = F27 t := by
  unfold F80 F27
  rw [F131_ret t h, F132_eq]
  obtain ⟨o, ho, hs⟩ := F85_ret t h
  rw [ho]
  simp only [Option.bind_some]
  unfold shpOk at hs
  split at hs
  · subst hs
    simp only [show decide ((40 : Int) < (sizT t : Int)) = false from decide_eq_false (by omega), show decide ((40 : Int) - (sizT t : Int) < 0) = false from decide_eq_false (by omega)]
  · simp only [show decide ((40 : Int) < (sizT t : Int)) = true from decide_eq_true (by omega), show decide (o.2 < 0) = true from decide_eq_true hs, cond_true]

theorem F86n_ret : ∀ (n : Nat) (t : Tr), sizT t ≤ n → FitT t → ∀ k, n ≤ k → Ret (F86n k t) fun _ => True
  | 0, t, h, _, _, _ => by have := sizT_pos t; omega
  | n + 1, t, h, hf, 0, hk => by omega
  | n + 1, t, h, hf, k + 1, hk => by
    show Ret (G86 (F86n k) t) _
    have hL : Ret (L86_20 t (F86n k) 0) fun _ => True := by
      have hlen := hf.len
      unfold L86_20
      refine Ret.loop t.kids.length (fun i s => s = (i : Int)) rfl ?_ ?_
      · rintro i s hi rfl
        unfold B86_20
        simp (disch := omega) only [Ret_some, Ret_none, Ret_bind, Ret_asrt, Ret_cond, Sum.elim_inl, Sum.elim_inr, decide_eq_true_eq, decide_eq_false_iff_not, Bool.not_eq_true', Bool.not_not, Bool.and_eq_true, Bool.or_eq_true, Bool.true_eq_false, Bool.false_eq_true, Bool.not_true, Bool.not_false, if_true, if_false, ite_true, ite_false, true_and, and_true, false_and, and_false, Int.toNat_natCast, toN_succ, Int.ofNat_eq_natCast, Int.ofNat_toNat, Nat.zero_add, Nat.add_zero, not_true_eq_false, not_false_eq_true, implies_true, wr64]
        rw [if_pos (by omega)]
        refine ⟨by omega, ?_⟩
        refine (F86n_ret n (t.kids.getD i Tr.d) (by have := kid_lt hi; omega) (hf.kid hi) k (by omega)).mono fun r _ => ?_
        split
        · trivial
        · omega
      · rintro s rfl
        unfold B86_20
        simp (disch := omega) only [Ret_some, Ret_none, Ret_bind, Ret_asrt, Ret_cond, Sum.elim_inl, Sum.elim_inr, decide_eq_true_eq, decide_eq_false_iff_not, Bool.not_eq_true', Bool.not_not, Bool.and_eq_true, Bool.or_eq_true, Bool.true_eq_false, Bool.false_eq_true, Bool.not_true, Bool.not_false, if_true, if_false, ite_true, ite_false, true_and, and_true, false_and, and_false, Int.toNat_natCast, toN_succ, Int.ofNat_eq_natCast, Int.ofNat_toNat, Nat.zero_add, Nat.add_zero, not_true_eq_false, not_false_eq_true, implies_true, wr64]
        rw [if_neg (by omega)]
        trivial
    have h140 : ∀ K, Ret (F140 K) fun _ => True := by
      intro K
      unfold F140
      simp (disch := omega) only [Ret_some, Ret_none, Ret_bind, Ret_asrt, Ret_cond, Sum.elim_inl, Sum.elim_inr, decide_eq_true_eq, decide_eq_false_iff_not, Bool.not_eq_true', Bool.not_not, Bool.and_eq_true, Bool.or_eq_true, Bool.true_eq_false, Bool.false_eq_true, Bool.not_true, Bool.not_false, if_true, if_false, ite_true, ite_false, true_and, and_true, false_and, and_false, Int.toNat_natCast, toN_succ, Int.ofNat_eq_natCast, Int.ofNat_toNat, Nat.zero_add, Nat.add_zero, not_true_eq_false, not_false_eq_true, implies_true, wr64]
      repeat' (first | trivial | omega | split | (refine ⟨?_, ?_⟩))
    obtain ⟨m, hm, _⟩ := hL
    unfold G86
    simp only [hm, F81_eq]
    have hm' : Ret ((some m).bind (Sum.elim (fun (p_3 : Unit) ↦ Option.some (0 : Int)) fun (r_10 : Int) ↦ Option.some r_10)) fun _ => True := by
      cases m <;> exact ⟨_, rfl, trivial⟩
    obtain ⟨r, hr, _⟩ := h140 (List.getD t.ns 0 0)
    rw [hr]
    obtain ⟨m', hm', _⟩ := hm'
    simp only [hm', Option.bind_some]
    repeat' (first | exact Ret.some | (refine Ret.bif ?_ ?_) | (refine Ret.bnd ?_ fun _ => ?_) | (refine Ret.elim (fun _ => ?_) fun _ => ?_) | assumption | solve_by_elim)

theorem G86_congr {rec rec' : Tr → Option Int} {t : Tr} (h : ∀ i, i < t.kids.length → rec (t.kids.getD i Tr.d) = rec' (t.kids.getD i Tr.d)) : G86 rec t = G86 rec' t := by
  have hl : L86_20 t rec = L86_20 t rec' := by
    funext s
    unfold L86_20
    refine loopW_congr (fun s => ?_) s
    unfold B86_20
    by_cases c : 0 ≤ s ∧ s < (t.kids.length : Int)
    · rw [h s.toNat (by omega)]
    · simp only [asrt, if_neg c]
  unfold G86
  rw [hl]

theorem F86n_unif : ∀ (n : Nat) (t : Tr), sizT t ≤ n → ∀ k, n ≤ k → F86n k t = F86n n t
  | 0, t, h, _, _ => by have := sizT_pos t; omega
  | n + 1, t, h, 0, hk => by omega
  | n + 1, t, h, k + 1, hk => by
    show G86 (F86n k) t = G86 (F86n n) t
    exact G86_congr fun i hi => F86n_unif n _ (by have := kid_lt hi; omega) k (by omega)

theorem F86_ret (t : Tr) (h : FitT t) : Ret (F86 t) fun _ => True := by
  unfold F86
  rw [evF_unif (sizT t) fun k hk => F86n_unif (sizT t) t (Nat.le_refl _) k hk]
  exact F86n_ret (sizT t) t (Nat.le_refl _) h _ (Nat.le_refl _)

theorem F27_ret (t : Tr) (h : FitT t) : Ret (F27 t) fun _ => True := by
  obtain ⟨o, ho, _⟩ := F85_ret t h
  obtain ⟨r, hr, _⟩ := F86_ret t h
  unfold F27
  rw [ho]
  simp only [hr]
  simp (disch := omega) only [Ret_some, Ret_none, Ret_bind, Ret_asrt, Ret_cond, Sum.elim_inl, Sum.elim_inr, decide_eq_true_eq, decide_eq_false_iff_not, Bool.not_eq_true', Bool.not_not, Bool.and_eq_true, Bool.or_eq_true, Bool.true_eq_false, Bool.false_eq_true, Bool.not_true, Bool.not_false, if_true, if_false, ite_true, ite_false, true_and, and_true, false_and, and_false, Int.toNat_natCast, toN_succ, Int.ofNat_eq_natCast, Int.ofNat_toNat, Nat.zero_add, Nat.add_zero, not_true_eq_false, not_false_eq_true, implies_true, wr64]
  repeat' (first | trivial | omega | split | (refine ⟨?_, ?_⟩))
theorem L82_eq (a0 : TTrip) : L82_2 a0.zones false = L22_6 a0 := by
  funext s
  unfold L82_2 L22_6
  refine loopW_congr (fun s => ?_) s
  unfold B82_2 B22_6
  simp only [F79_eq, F81_eq, cond_false]

theorem F21_eq (a0 : TTrip) : F21 a0 = F22 a0 := by
  unfold F21 F22 F82
  simp only [L82_eq, F79_eq, F81_eq]
  cases L22_6 a0 0 with
  | none => rfl
  | some x => cases x <;> rfl

theorem F22_ret (a0 : TTrip) (hz : Fit a0.zones) : Ret (F22 a0) fun _ => True := by
  unfold Fit at hz
  have h1 : Ret (L22_6 a0 0) fun _ => True := by
    unfold L22_6
    refine Ret.loop a0.zones.length (fun i s => s = (i : Int)) rfl ?_ ?_
    · rintro i s hi rfl
      unfold B22_6
      simp (disch := omega) only [Ret_some, Ret_none, Ret_bind, Ret_asrt, Ret_cond, Sum.elim_inl, Sum.elim_inr, decide_eq_true_eq, decide_eq_false_iff_not, Bool.not_eq_true', Bool.not_not, Bool.and_eq_true, Bool.or_eq_true, Bool.true_eq_false, Bool.false_eq_true, Bool.not_true, Bool.not_false, if_true, if_false, ite_true, ite_false, true_and, and_true, false_and, and_false, Int.toNat_natCast, toN_succ, Int.ofNat_eq_natCast, Int.ofNat_toNat, Nat.zero_add, Nat.add_zero, not_true_eq_false, not_false_eq_true, implies_true, wr64, F81_eq]
      rw [if_pos (by omega)]
      refine ⟨by omega, ?_⟩
      repeat' (first | trivial | omega | split | (refine ⟨?_, ?_⟩))
    · rintro s rfl
      unfold B22_6
      simp (disch := omega) only [Ret_some, Ret_none, Ret_bind, Ret_asrt, Ret_cond, Sum.elim_inl, Sum.elim_inr, decide_eq_true_eq, decide_eq_false_iff_not, Bool.not_eq_true', Bool.not_not, Bool.and_eq_true, Bool.or_eq_true, Bool.true_eq_false, Bool.false_eq_true, Bool.not_true, Bool.not_false, if_true, if_false, ite_true, ite_false, true_and, and_true, false_and, and_false, Int.toNat_natCast, toN_succ, Int.ofNat_eq_natCast, Int.ofNat_toNat, Nat.zero_add, Nat.add_zero, not_true_eq_false, not_false_eq_true, implies_true, wr64]
      rw [if_neg (by omega)]
      trivial
  obtain ⟨m1, e1, _⟩ := h1
  unfold F22
  simp only [F81_eq, Option.bind_some, e1]
  repeat' (first | exact Ret.some | (refine Ret.bif ?_ ?_) | (refine Ret.bnd ?_ fun _ => ?_) | (refine Ret.elim (fun _ => ?_) fun _ => ?_) | assumption | solve_by_elim)

theorem F22_inv {a0 : TTrip} (h : F22 a0 = some 0) : (0 ≤ a0.km ∧ a0.km ≤ 1000) ∧ 1 ≤ a0.zones.length ∧ a0.zones.length ≤ 10 := by
  unfold F22 at h
  simp only [F81_eq, Option.bind_some] at h
  by_cases c1 : 0 ≤ a0.day ∧ a0.day ≤ 6 <;> by_cases c2 : 0 ≤ a0.at0 ∧ a0.at0 ≤ 28800 <;> by_cases c3 : 0 ≤ a0.km ∧ a0.km ≤ 1000 <;> by_cases c4 : 0 ≤ a0.age ∧ a0.age ≤ 120 <;> by_cases c5 : 1 ≤ (a0.zones.length : Int) ∧ (a0.zones.length : Int) ≤ 10 <;> simp [c1, c2, c3, c4, c5] at h
  refine ⟨c3, by omega, by omega⟩

/-! ### the law -/

theorem getD_fit {l : List TRule} (h : ∀ x ∈ l, FitT x.if0) (i : Nat) (hi : i < l.length) : FitT (l.getD i TRule.d).if0 := h _ (getD_mem hi)

theorem L19_4_eq (a0 : TTariff) : L19_4 a0 = L20_4 a0 := by
  funext s
  unfold L19_4 L20_4
  exact loopW_congr (fun s => by unfold B19_4 B20_4; simp only [F79_eq, F81_eq]) s

theorem B19_14_eq (a0 : TTariff) (h : ∀ x ∈ a0.rules, FitT x.if0) (s : Int) : B19_14 a0 s = B20_14 a0 s := by
  unfold B19_14 B20_14
  by_cases c : 0 ≤ s ∧ s < (a0.rules.length : Int)
  · rw [F80_eq _ (getD_fit h s.toNat (by omega))]
    simp only [F79_eq, F81_eq, Option.bind_some]
    generalize F27 _ = M
    generalize (a0.rules.getD s.toNat TRule.d).do0 = K
    generalize (a0.rules.getD s.toNat TRule.d).n = N
    cases M with
    | none => rfl
    | some m =>
      simp only [Option.bind_some]
      by_cases k : K = 1
      · subst k; simp
      · simp [k]
  · simp only [asrt, if_neg c]

theorem L19_14_eq (a0 : TTariff) (h : ∀ x ∈ a0.rules, FitT x.if0) : L19_14 a0 = L20_14 a0 := by
  funext s
  unfold L19_14 L20_14
  exact loopW_congr (B19_14_eq a0 h) s

theorem F19_eq (a0 : TTariff) (h : ∀ x ∈ a0.rules, FitT x.if0) : F19 a0 = F20 a0 := by
  unfold F19 F20
  simp only [L19_4_eq, L19_14_eq a0 h, F79_eq, F81_eq]

theorem F20_ret (a0 : TTariff) (h : ∀ x ∈ a0.rules, FitT x.if0) (hb : Fit a0.bands) (hr : Fit a0.rules) : Ret (F20 a0) fun _ => True := by
  unfold Fit at hb hr
  have h1 : Ret (L20_4 a0 0) fun _ => True := by
    unfold L20_4
    refine Ret.loop a0.bands.length (fun i s => s = (i : Int)) rfl ?_ ?_
    · rintro i s hi rfl
      unfold B20_4
      simp (disch := omega) only [Ret_some, Ret_none, Ret_bind, Ret_asrt, Ret_cond, Sum.elim_inl, Sum.elim_inr, decide_eq_true_eq, decide_eq_false_iff_not, Bool.not_eq_true', Bool.not_not, Bool.and_eq_true, Bool.or_eq_true, Bool.true_eq_false, Bool.false_eq_true, Bool.not_true, Bool.not_false, if_true, if_false, ite_true, ite_false, true_and, and_true, false_and, and_false, Int.toNat_natCast, toN_succ, Int.ofNat_eq_natCast, Int.ofNat_toNat, Nat.zero_add, Nat.add_zero, not_true_eq_false, not_false_eq_true, implies_true, wr64, F81_eq]
      rw [if_pos (by omega)]
      refine ⟨by omega, ?_⟩
      repeat' (first | trivial | omega | split | (refine ⟨?_, ?_⟩))
    · rintro s rfl
      unfold B20_4
      simp (disch := omega) only [Ret_some, Ret_none, Ret_bind, Ret_asrt, Ret_cond, Sum.elim_inl, Sum.elim_inr, decide_eq_true_eq, decide_eq_false_iff_not, Bool.not_eq_true', Bool.not_not, Bool.and_eq_true, Bool.or_eq_true, Bool.true_eq_false, Bool.false_eq_true, Bool.not_true, Bool.not_false, if_true, if_false, ite_true, ite_false, true_and, and_true, false_and, and_false, Int.toNat_natCast, toN_succ, Int.ofNat_eq_natCast, Int.ofNat_toNat, Nat.zero_add, Nat.add_zero, not_true_eq_false, not_false_eq_true, implies_true, wr64]
      rw [if_neg (by omega)]
      trivial
  have h2 : Ret (L20_14 a0 0) fun _ => True := by
    unfold L20_14
    refine Ret.loop a0.rules.length (fun i s => s = (i : Int)) rfl ?_ ?_
    · rintro i s hi rfl
      unfold B20_14
      obtain ⟨m, hm, _⟩ := F27_ret _ (getD_fit h i hi)
      simp (disch := omega) only [Ret_some, Ret_none, Ret_bind, Ret_asrt, Ret_cond, Sum.elim_inl, Sum.elim_inr, decide_eq_true_eq, decide_eq_false_iff_not, Bool.not_eq_true', Bool.not_not, Bool.and_eq_true, Bool.or_eq_true, Bool.true_eq_false, Bool.false_eq_true, Bool.not_true, Bool.not_false, if_true, if_false, ite_true, ite_false, true_and, and_true, false_and, and_false, Int.toNat_natCast, toN_succ, Int.ofNat_eq_natCast, Int.ofNat_toNat, Nat.zero_add, Nat.add_zero, not_true_eq_false, not_false_eq_true, implies_true, wr64, F81_eq, hm]
      rw [if_pos (by omega)]
      refine ⟨by omega, ?_⟩
      repeat' (first | trivial | omega | split | (refine ⟨?_, ?_⟩))
    · rintro s rfl
      unfold B20_14
      simp (disch := omega) only [Ret_some, Ret_none, Ret_bind, Ret_asrt, Ret_cond, Sum.elim_inl, Sum.elim_inr, decide_eq_true_eq, decide_eq_false_iff_not, Bool.not_eq_true', Bool.not_not, Bool.and_eq_true, Bool.or_eq_true, Bool.true_eq_false, Bool.false_eq_true, Bool.not_true, Bool.not_false, if_true, if_false, ite_true, ite_false, true_and, and_true, false_and, and_false, Int.toNat_natCast, toN_succ, Int.ofNat_eq_natCast, Int.ofNat_toNat, Nat.zero_add, Nat.add_zero, not_true_eq_false, not_false_eq_true, implies_true, wr64]
      rw [if_neg (by omega)]
      trivial
  obtain ⟨m1, e1, _⟩ := h1
  obtain ⟨m2, e2, _⟩ := h2
  unfold F20
  simp only [F81_eq, Option.bind_some, e1, e2]
  repeat' (first | exact Ret.some | (refine Ret.bif ?_ ?_) | (refine Ret.bnd ?_ fun _ => ?_) | (refine Ret.elim (fun _ => ?_) fun _ => ?_) | assumption | solve_by_elim)

theorem F3_true (a0 : TTariff) (a1 : TTrip) (h : ∀ x ∈ a0.rules, FitT x.if0) (hb : Fit a0.bands) (hr : Fit a0.rules) (hz : Fit a1.zones) : F3 a0 a1 = some true := by
  obtain ⟨x, hx, _⟩ := F20_ret a0 h hb hr
  obtain ⟨y, hy, _⟩ := F22_ret a1 hz
  unfold F3
  rw [F19_eq a0 h, F21_eq a1, hx, hy, F18_eq]
  simp

end Go.Proofs.Ytgghnfmabphbmaa
