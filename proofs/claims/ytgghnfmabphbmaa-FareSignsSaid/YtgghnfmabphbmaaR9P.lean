/- FareSigns: what its pure functions return. -/
import Derived.Test.YtgghnfmabphbmaaA21
import Derived.Test.YtgghnfmabphbmaaR9C
open Go Go.Proofs.Ytgghnfmabphbmaa.Fw
namespace Go.Proofs.Ytgghnfmabphbmaa
set_option maxRecDepth 100000
set_option linter.unusedVariables false
set_option linter.unusedSimpArgs false

/-- lists that are not too long -/
def Fit {α : Type} (l : List α) : Prop := l.length < 140737488355328

theorem F79_eq (n a b : Int) : F79 n a b = some (decide (a ≤ n ∧ n ≤ b)) := by
  unfold F79
  by_cases h : a ≤ n <;> simp [h]

/-! ### powers modulo a number -/

theorem tmod_nn {a b : Int} (ha : 0 ≤ a) : Int.tmod a b = a % b := by
  rw [Int.tmod_eq_emod_of_nonneg ha]

theorem mod_rng {a n : Int} (hn : 0 < n) : 0 ≤ a % n ∧ a % n < n := ⟨Int.emod_nonneg _ (by omega), Int.emod_lt_of_pos _ hn⟩

theorem mul_rng {a b n : Int} (ha : 0 ≤ a ∧ a < n) (hb : 0 ≤ b ∧ b < n) (hn : n ≤ 1072497001) : 0 ≤ a * b ∧ a * b < 9223372036854775808 := by
  constructor
  · exact Int.mul_nonneg ha.1 hb.1
  · have h1 : a * b ≤ 1072497001 * 1072497001 := Int.mul_le_mul (by omega) (by omega) hb.1 (by omega)
    have : (1072497001 : Int) * 1072497001 < 9223372036854775808 := by decide
    omega

/-- a to the k, modulo n -/
def pw (a n : Int) (k : Nat) : Int := a ^ k % n

theorem mul_mod_l (a b n : Int) : (a % n * b) % n = (a * b) % n := by rw [Int.mul_emod, Int.emod_emod_of_dvd _ (Int.dvd_refl n), ← Int.mul_emod]
theorem mul_mod_r (a b n : Int) : (a * (b % n)) % n = (a * b) % n := by rw [Int.mul_emod, Int.emod_emod_of_dvd _ (Int.dvd_refl n), ← Int.mul_emod]

theorem shr1 (v : Int) : shrI .i64 v 1 = v / 2 := by
  unfold shrI
  show v.fdiv (2 ^ min (1 : Int).toNat 64) = v / 2
  rw [show (2 : Int) ^ min (1 : Int).toNat 64 = 2 from by decide]
  exact Int.fdiv_eq_ediv_of_nonneg v (by decide)

theorem and1 (v : Int) (h : 0 ≤ v) (h2 : v < 9223372036854775808) : andI .i64 v 1 = v % 2 := by
  unfold andI
  have e : (BitVec.ofInt IntKind.i64.bits v &&& BitVec.ofInt IntKind.i64.bits 1).toNat = (v % 2).toNat := by
    rw [BitVec.toNat_and]
    show (BitVec.ofInt 64 v).toNat &&& (BitVec.ofInt 64 1).toNat = _
    rw [show (BitVec.ofInt 64 1).toNat = 1 from rfl, Nat.and_one_is_mod, BitVec.toNat_ofInt]
    omega
  rw [e, wr64 (by omega) (by omega)]
  omega

theorem pw_two (x : Int) (q : Nat) : x ^ (2 * q) = (x * x) ^ q := by
  rw [Int.pow_mul]
  congr 1
  rw [Int.pow_succ, Int.pow_succ, Int.pow_zero, Int.one_mul]

theorem pw_odd (x : Int) (q : Nat) : x ^ (2 * q + 1) = (x * x) ^ q * x := by rw [Int.pow_succ, pw_two]

theorem pow_mod (x n : Int) : ∀ k : Nat, (x % n) ^ k % n = x ^ k % n
  | 0 => by rw [Int.pow_zero, Int.pow_zero]
  | k + 1 => by rw [Int.pow_succ, Int.pow_succ, mul_mod_r, Int.mul_emod, pow_mod x n k, ← Int.mul_emod]

theorem F81_eq (n a b : Int) : F81 n a b = some (decide (a ≤ n ∧ n ≤ b)) := F79_eq n a b

theorem F97_ret (a k n : Int) (ha : 0 ≤ a) (hk : 0 ≤ k) (hk2 : k < 9223372036854775808) (hn : 1 < n) (hn2 : n ≤ 1072497001) : F97 a k n = some (pw a n k.toNat) := by
  refine Ret.eq ?_
  have hn0 : n ≠ 0 := by omega
  unfold F97 L97_3
  simp (disch := omega) only [Ret_some, Ret_none, Ret_bind, Ret_asrt, Ret_cond, Sum.elim_inl, Sum.elim_inr, decide_eq_true_eq, decide_eq_false_iff_not, Bool.not_eq_true', Bool.not_not, Bool.and_eq_true, Bool.or_eq_true, Bool.true_eq_false, Bool.false_eq_true, Bool.not_true, Bool.not_false, if_true, if_false, ite_true, ite_false, true_and, and_true, false_and, and_false, Int.toNat_natCast, toN_succ, Int.ofNat_eq_natCast, Int.ofNat_toNat, Nat.zero_add, Nat.add_zero, not_true_eq_false, not_false_eq_true, implies_true, wr64, tmod_nn ha, tmod_nn (show (0 : Int) ≤ 1 by omega), hn0]
  refine Ret.while (fun s => (0 ≤ s.1 ∧ s.1 < n) ∧ (0 ≤ s.2.1 ∧ s.2.1 < 9223372036854775808) ∧ (0 ≤ s.2.2 ∧ s.2.2 < n) ∧ (s.2.2 * s.1 ^ s.2.1.toNat) % n = a ^ k.toNat % n) (fun s => s.2.1.toNat) ?_ ?_
  · refine ⟨mod_rng (by omega), ⟨hk, hk2⟩, mod_rng (by omega), ?_⟩
    show ((1 : Int) % n * (a % n) ^ k.toNat) % n = _
    rw [mul_mod_l, Int.one_mul, pow_mod]
  · rintro ⟨x, v, o⟩ ⟨h1, h2, h3, h4⟩
    simp only at h1 h2 h3 h4
    have hxx := mul_rng h1 h1 hn2
    have hox := mul_rng h3 h1 hn2
    unfold B97_3
    simp (disch := omega) only [Ret_some, Ret_none, Ret_bind, Ret_asrt, Ret_cond, Sum.elim_inl, Sum.elim_inr, decide_eq_true_eq, decide_eq_false_iff_not, Bool.not_eq_true', Bool.not_not, Bool.and_eq_true, Bool.or_eq_true, Bool.true_eq_false, Bool.false_eq_true, Bool.not_true, Bool.not_false, if_true, if_false, ite_true, ite_false, true_and, and_true, false_and, and_false, Int.toNat_natCast, toN_succ, Int.ofNat_eq_natCast, Int.ofNat_toNat, Nat.zero_add, Nat.add_zero, not_true_eq_false, not_false_eq_true, implies_true, wr64, and1 v h2.1 h2.2, shr1, hn0, tmod_nn hxx.1, tmod_nn hox.1]
    split
    · rename_i hv
      have hm : (v / 2).toNat < v.toNat := by omega
      split
      · rename_i hb
        refine ⟨⟨mod_rng (by omega), by omega, mod_rng (by omega), ?_⟩, hm⟩
        rw [mul_mod_l, Int.mul_emod, pow_mod, ← Int.mul_emod, ← h4, show v.toNat = 2 * (v / 2).toNat + 1 by omega, pw_odd]
        congr 1
        rw [Int.mul_assoc, Int.mul_comm x]
      · rename_i hb
        refine ⟨⟨mod_rng (by omega), by omega, h3, ?_⟩, hm⟩
        rw [Int.mul_emod, pow_mod, ← Int.mul_emod, ← h4]
        conv => rhs; rw [show v.toNat = 2 * (v / 2).toNat by omega, pw_two]
    · rename_i hv
      have : v.toNat = 0 := by omega
      rw [this, Int.pow_zero, Int.mul_one, Int.emod_eq_of_lt h3.1 h3.2] at h4
      exact h4

theorem F98_ret (a k n : Int) (ha : 0 ≤ a) (hk : 0 ≤ k) (hk2 : k < 9223372036854775808) (hn : 1 < n) (hn2 : n ≤ 1072497001) : F98 a k n = some (pw a n k.toNat) := by
  refine Ret.eq ?_
  have hn0 : n ≠ 0 := by omega
  unfold F98 L98_3
  simp (disch := omega) only [Ret_some, Ret_none, Ret_bind, Ret_asrt, Ret_cond, Sum.elim_inl, Sum.elim_inr, decide_eq_true_eq, decide_eq_false_iff_not, Bool.not_eq_true', Bool.not_not, Bool.and_eq_true, Bool.or_eq_true, Bool.true_eq_false, Bool.false_eq_true, Bool.not_true, Bool.not_false, if_true, if_false, ite_true, ite_false, true_and, and_true, false_and, and_false, Int.toNat_natCast, toN_succ, Int.ofNat_eq_natCast, Int.ofNat_toNat, Nat.zero_add, Nat.add_zero, not_true_eq_false, not_false_eq_true, implies_true, wr64]
  refine Ret.loop 63 (fun i s => s.2 = 62 - (i : Int) ∧ s.1 = pw a n (k.toNat / 2 ^ (63 - i))) ?_ ?_ ?_
  · refine ⟨rfl, ?_⟩
    show (1 : Int) = a ^ (k.toNat / 2 ^ 63) % n
    have : k.toNat / 2 ^ 63 = 0 := Nat.div_eq_of_lt (by omega)
    rw [this, Int.pow_zero, Int.emod_eq_of_lt (by omega) (by omega)]
  · rintro i ⟨o, v⟩ hi ⟨h1, h2⟩
    simp only at h1 h2
    subst h1 h2
    have hp : 0 ≤ pw a n (k.toNat / 2 ^ (63 - i)) ∧ pw a n (k.toNat / 2 ^ (63 - i)) < n := mod_rng (by omega)
    have hpp := mul_rng hp hp hn2
    have hq := mod_rng (a := pw a n (k.toNat / 2 ^ (63 - i)) * pw a n (k.toNat / 2 ^ (63 - i))) (show 0 < n by omega)
    have har := mod_rng (a := a) (show 0 < n by omega)
    have hqa := mul_rng hq har hn2
    have hsh : shrI .i64 k (62 - (i : Int)) = ((k.toNat / 2 ^ (62 - i) : Nat) : Int) := by
      unfold shrI
      show k.fdiv (2 ^ min (62 - (i : Int)).toNat 64) = _
      rw [show min (62 - (i : Int)).toNat 64 = 62 - i by omega, Int.fdiv_eq_ediv_of_nonneg _ (Int.le_of_lt (Int.pow_pos (by decide)))]
      conv => lhs; rw [← Int.toNat_of_nonneg hk]
      rw [Int.natCast_ediv, Int.natCast_pow]
      rfl
    have hlt : k.toNat / 2 ^ (62 - i) < 9223372036854775808 := Nat.lt_of_le_of_lt (Nat.div_le_self _ _) (by omega)
    have hhalf : k.toNat / 2 ^ (63 - i) = k.toNat / 2 ^ (62 - i) / 2 := by rw [Nat.div_div_eq_div_mul, show 63 - i = 62 - i + 1 by omega, Nat.pow_succ]
    have e0 : 63 - (i + 1) = 62 - i := by omega
    unfold B98_3
    simp (disch := omega) only [Ret_some, Ret_none, Ret_bind, Ret_asrt, Ret_cond, Sum.elim_inl, Sum.elim_inr, decide_eq_true_eq, decide_eq_false_iff_not, Bool.not_eq_true', Bool.not_not, Bool.and_eq_true, Bool.or_eq_true, Bool.true_eq_false, Bool.false_eq_true, Bool.not_true, Bool.not_false, if_true, if_false, ite_true, ite_false, true_and, and_true, false_and, and_false, Int.toNat_natCast, toN_succ, Int.ofNat_eq_natCast, Int.ofNat_toNat, Nat.zero_add, Nat.add_zero, not_true_eq_false, not_false_eq_true, implies_true, wr64, hn0, hsh, tmod_nn hpp.1, tmod_nn ha, tmod_nn hqa.1, and1 _ (Int.natCast_nonneg _) (show ((k.toNat / 2 ^ (62 - i) : Nat) : Int) < 9223372036854775808 by omega), e0]
    rw [if_pos (by omega), if_pos (by omega)]
    generalize k.toNat / 2 ^ (62 - i) = m at *
    have sq : pw a n (m / 2) * pw a n (m / 2) % n = a ^ (2 * (m / 2)) % n := by
      unfold pw
      rw [← Int.mul_emod, pw_two, ← Int.mul_pow]
    rw [hhalf, sq]
    split
    · refine ⟨by omega, ?_⟩
      rw [mul_mod_l, mul_mod_r]
      unfold pw
      conv => rhs; rw [show m = 2 * (m / 2) + 1 by omega]
      rw [Int.pow_succ]
    · refine ⟨by omega, ?_⟩
      unfold pw
      conv => rhs; rw [show m = 2 * (m / 2) by omega]
  · rintro ⟨o, v⟩ ⟨h1, h2⟩
    simp only at h1 h2
    subst h1 h2
    unfold B98_3
    simp (disch := omega) only [Ret_some, Ret_none, Ret_bind, Ret_asrt, Ret_cond, Sum.elim_inl, Sum.elim_inr, decide_eq_true_eq, decide_eq_false_iff_not, Bool.not_eq_true', Bool.not_not, Bool.and_eq_true, Bool.or_eq_true, Bool.true_eq_false, Bool.false_eq_true, Bool.not_true, Bool.not_false, if_true, if_false, ite_true, ite_false, true_and, and_true, false_and, and_false, Int.toNat_natCast, toN_succ, Int.ofNat_eq_natCast, Int.ofNat_toNat, Nat.zero_add, Nat.add_zero, not_true_eq_false, not_false_eq_true, implies_true, wr64]
    rw [if_neg (by omega)]
    simp

theorem byteAt_rng (s : ByteArray) (i : Nat) : 0 ≤ byteAt s i ∧ byteAt s i < 256 := by
  unfold byteAt
  have := (s.data.getD i 0).toNat_lt
  omega

theorem F36_ret (s : ByteArray) (hs : s.size ≤ 9223372036854775807) : Ret (F36 s) fun h => 0 ≤ h := by
  unfold F36 L36_3
  simp (disch := omega) only [Ret_some, Ret_none, Ret_bind, Ret_asrt, Ret_cond, Sum.elim_inl, Sum.elim_inr, decide_eq_true_eq, decide_eq_false_iff_not, Bool.not_eq_true', Bool.not_not, Bool.and_eq_true, Bool.or_eq_true, Bool.true_eq_false, Bool.false_eq_true, Bool.not_true, Bool.not_false, if_true, if_false, ite_true, ite_false, true_and, and_true, false_and, and_false, Int.toNat_natCast, toN_succ, Int.ofNat_eq_natCast, Int.ofNat_toNat, Nat.zero_add, Nat.add_zero, not_true_eq_false, not_false_eq_true, implies_true, wr64]
  refine Ret.loop s.size (fun i t => t.2 = (i : Int) ∧ 0 ≤ t.1 ∧ t.1 < 999983) ⟨rfl, by decide, by decide⟩ ?_ ?_
  · rintro i ⟨h, v⟩ hi ⟨h1, h2⟩
    simp only at h1 h2
    subst h1
    have := byteAt_rng s i
    unfold B36_3
    simp (disch := omega) only [Ret_some, Ret_none, Ret_bind, Ret_asrt, Ret_cond, Sum.elim_inl, Sum.elim_inr, decide_eq_true_eq, decide_eq_false_iff_not, Bool.not_eq_true', Bool.not_not, Bool.and_eq_true, Bool.or_eq_true, Bool.true_eq_false, Bool.false_eq_true, Bool.not_true, Bool.not_false, if_true, if_false, ite_true, ite_false, true_and, and_true, false_and, and_false, Int.toNat_natCast, toN_succ, Int.ofNat_eq_natCast, Int.ofNat_toNat, Nat.zero_add, Nat.add_zero, not_true_eq_false, not_false_eq_true, implies_true, wr64]
    rw [if_pos (by omega), tmod_nn (by omega)]
    have := mod_rng (a := h * 257 + byteAt s i + 1) (show (0 : Int) < 999983 by omega)
    omega
  · rintro ⟨h, v⟩ ⟨h1, h2⟩
    simp only at h1 h2
    subst h1
    unfold B36_3
    simp (disch := omega) only [Ret_some, Ret_none, Ret_bind, Ret_asrt, Ret_cond, Sum.elim_inl, Sum.elim_inr, decide_eq_true_eq, decide_eq_false_iff_not, Bool.not_eq_true', Bool.not_not, Bool.and_eq_true, Bool.or_eq_true, Bool.true_eq_false, Bool.false_eq_true, Bool.not_true, Bool.not_false, if_true, if_false, ite_true, ite_false, true_and, and_true, false_and, and_false, Int.toNat_natCast, toN_succ, Int.ofNat_eq_natCast, Int.ofNat_toNat, Nat.zero_add, Nat.add_zero, not_true_eq_false, not_false_eq_true, implies_true, wr64]
    rw [if_neg (by omega)]
    exact h2.1

theorem F37_eq (s : ByteArray) : F37 s = F36 s := rfl
theorem F40_eq (k : TKey) (b : Bool) : F40 k b = F96 k b := rfl

theorem F96_ret (k : TKey) (b : Bool) : Ret (F96 k b) fun e => e = 0 → (1018081 ≤ k.n ∧ k.n ≤ 1072497001) ∧ (3 ≤ k.e0 ∧ k.e0 ≤ 32749) ∧ (b = true → 1 ≤ k.d0 ∧ k.d0 ≤ k.n - 1) := by
  unfold F96
  simp (disch := omega) only [Ret_some, Ret_none, Ret_bind, Ret_asrt, Ret_cond, Sum.elim_inl, Sum.elim_inr, decide_eq_true_eq, decide_eq_false_iff_not, Bool.not_eq_true', Bool.not_not, Bool.and_eq_true, Bool.or_eq_true, Bool.true_eq_false, Bool.false_eq_true, Bool.not_true, Bool.not_false, if_true, if_false, ite_true, ite_false, true_and, and_true, false_and, and_false, Int.toNat_natCast, toN_succ, Int.ofNat_eq_natCast, Int.ofNat_toNat, Nat.zero_add, Nat.add_zero, not_true_eq_false, not_false_eq_true, implies_true, wr64, F79_eq]
  split
  · intro h; omega
  split
  · intro h; omega
  rename_i h1 h2
  split
  · split
    · intro h; omega
    · rename_i h3 h4
      exact fun _ => ⟨by omega, by omega, fun _ => by omega⟩
  · rename_i h3
    exact fun _ => ⟨by omega, by omega, fun h => absurd h h3⟩

theorem F9_true (k : TKey) (s : ByteArray) (sign : Int) (hs : s.size ≤ 9223372036854775807) : F9 k s sign = some true := by
  obtain ⟨h, hh, h0⟩ := F36_ret s hs
  obtain ⟨e1, he1, k1⟩ := F96_ret k true
  obtain ⟨e2, he2, k2⟩ := F96_ret k false
  have s1 : F38 k s = some (if e1 = 0 then pw h k.n k.d0.toNat else 0, e1) := by
    unfold F38
    simp only [he1, hh, Option.bind_some]
    by_cases c : e1 = 0
    · obtain ⟨a1, a2, a3⟩ := k1 c
      have := a3 rfl
      rw [F97_ret h k.d0 k.n h0 (by omega) (by omega) (by omega) (by omega)]
      simp [c]
    · simp [c]
  have s2 : F39 k s sign = some (decide (e2 = 0 ∧ 0 ≤ sign ∧ sign < k.n ∧ pw sign k.n k.e0.toNat = h), e2) := by
    unfold F39
    simp only [he2, hh, Option.bind_some, F79_eq]
    by_cases c : e2 = 0
    · obtain ⟨a1, a2, a3⟩ := k2 c
      rw [wr64 (by omega) (by omega)]
      by_cases c2 : 0 ≤ sign ∧ sign ≤ k.n - 1
      · rw [F97_ret sign k.e0 k.n c2.1 (by omega) (by omega) (by omega) (by omega)]
        have c3 : 0 ≤ sign ∧ sign < k.n := by omega
        simp [c, c2, c3]
      · have c3 : ¬(0 ≤ sign ∧ sign < k.n ∧ pw sign k.n k.e0.toNat = h) := by omega
        simp [c, c2, c3]
    · simp [c]
  have s3 : e1 = 0 → F41 k s = some (pw h k.n k.d0.toNat) := by
    intro c
    obtain ⟨a1, a2, a3⟩ := k1 c
    have := a3 rfl
    unfold F41
    simp only [F37_eq, hh, Option.bind_some]
    rw [F98_ret h k.d0 k.n h0 (by omega) (by omega) (by omega) (by omega)]
    rfl
  have s4 : e2 = 0 → F42 k s sign = some (decide (0 ≤ sign ∧ sign < k.n ∧ pw sign k.n k.e0.toNat = h)) := by
    intro c
    obtain ⟨a1, a2, a3⟩ := k2 c
    unfold F42
    by_cases c2 : 0 ≤ sign
    · by_cases c3 : sign < k.n
      · rw [F98_ret sign k.e0 k.n c2 (by omega) (by omega) (by omega) (by omega)]
        simp [c2, c3, F37_eq, hh]
      · simp [c2, c3]
    · simp [c2]
  unfold F9
  simp only [F18_eq, F37_eq, F40_eq, hh, s1, s2, he1, he2, Option.bind_some]
  by_cases c1 : e1 = 0
  · have s3 := s3 c1
    by_cases c2 : e2 = 0
    · have s4 := s4 c2
      simp [c1, c2, s3, s4]
    · simp [c1, c2, s3]
  · by_cases c2 : e2 = 0
    · have s4 := s4 c2
      simp [c1, c2, s4]
    · simp [c1, c2]

end Go.Proofs.Ytgghnfmabphbmaa
