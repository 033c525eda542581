/- FareKeys: what its pure functions return. -/
import Derived.Test.YtgghnfmabphbmaaA21
import Derived.Test.YtgghnfmabphbmaaR8C
open Go Go.Proofs.Ytgghnfmabphbmaa.Fw
namespace Go.Proofs.Ytgghnfmabphbmaa
set_option maxRecDepth 100000
set_option linter.unusedVariables false
set_option linter.unusedSimpArgs false

/-- lists that are not too long -/
def Fit {α : Type} (l : List α) : Prop := l.length < 140737488355328

theorem F79_eq (n a b : Int) : F79 n a b = some (decide (a ≤ n ∧ n ≤ b)) := by
  unfold F79
  by_cases h : a ≤ n <;> simp [h]

theorem F92_ret (p : Int) (h : p ≤ 32749) : Ret (F92 p) fun _ => True := by
  unfold F92 L92_2
  simp (disch := omega) only [Ret_some, Ret_none, Ret_bind, Ret_asrt, Ret_cond, Sum.elim_inl, Sum.elim_inr, decide_eq_true_eq, decide_eq_false_iff_not, Bool.not_eq_true', Bool.not_not, Bool.and_eq_true, Bool.or_eq_true, Bool.true_eq_false, Bool.false_eq_true, Bool.not_true, Bool.not_false, if_true, if_false, ite_true, ite_false, true_and, and_true, false_and, and_false, Int.toNat_natCast, toN_succ, Int.ofNat_eq_natCast, Int.ofNat_toNat, Nat.zero_add, Nat.add_zero, not_true_eq_false, not_false_eq_true, implies_true, wr64]
  refine Ret.while (fun s => 2 ≤ s ∧ s ≤ 182) (fun s => (182 - s).toNat) (by omega) ?_
  intro s hs
  have h1 : s * s ≤ 182 * 182 := Int.mul_le_mul (by omega) (by omega) (by omega) (by omega)
  have h2 : 0 ≤ s * s := Int.mul_nonneg (by omega) (by omega)
  unfold B92_2
  simp (disch := omega) only [Ret_some, Ret_none, Ret_bind, Ret_asrt, Ret_cond, Sum.elim_inl, Sum.elim_inr, decide_eq_true_eq, decide_eq_false_iff_not, Bool.not_eq_true', Bool.not_not, Bool.and_eq_true, Bool.or_eq_true, Bool.true_eq_false, Bool.false_eq_true, Bool.not_true, Bool.not_false, if_true, if_false, ite_true, ite_false, true_and, and_true, false_and, and_false, Int.toNat_natCast, toN_succ, Int.ofNat_eq_natCast, Int.ofNat_toNat, Nat.zero_add, Nat.add_zero, not_true_eq_false, not_false_eq_true, implies_true, wr64]
  have h3 : s = 182 → s * s = 33124 := by intro e; subst e; decide
  split
  · rw [if_pos (by omega)]
    split
    · trivial
    · omega
  · trivial

theorem F94_eq (p : Int) : F94 p = F92 p := rfl

theorem tmod_nn {a b : Int} (ha : 0 ≤ a) : Int.tmod a b = a % b := by
  rw [Int.tmod_eq_emod_of_nonneg ha]

theorem F95n_ret : ∀ (n : Nat) (A B : Nat), B < n → ∀ k, n ≤ k → F95n k (A : Int) (B : Int) = some ((Nat.gcd A B : Nat) : Int)
  | 0, A, B, h, k, hk => by omega
  | n + 1, A, B, h, 0, hk => by omega
  | n + 1, A, B, h, k + 1, hk => by
    show G95 (F95n k) _ _ = _
    unfold G95
    by_cases c : B = 0
    · subst c; simp
    · have c' : ¬((B : Int) = 0) := by omega
      have hm : A % B < B := Nat.mod_lt _ (by omega)
      simp only [c', decide_false, cond_false, Bool.not_false, cond_true]
      rw [tmod_nn (Int.natCast_nonneg _), ← Int.natCast_emod, F95n_ret n B (A % B) (by omega) k (by omega)]
      simp only [Option.bind_some]
      congr 2
      conv => rhs; rw [Nat.gcd_comm, Nat.gcd_rec]
      exact Nat.gcd_comm _ _

theorem F95_ret (A B : Nat) : F95 (A : Int) (B : Int) = some ((Nat.gcd A B : Nat) : Int) := by
  unfold F95
  exact evF_of (B + 1) fun k hk => F95n_ret (B + 1) A B (by omega) k hk

/-- what holds at the head of the loop that looks for an inverse -/
def invI (e m : Nat) (s : Int × Int × Int × Int) : Prop :=
  ∃ A B X Y : Nat, ∃ sg : Int, (sg = 1 ∨ sg = -1) ∧ s.1 = (A : Int) ∧ s.2.1 = (B : Int) ∧ s.2.2.1 = sg * (X : Int) ∧ s.2.2.2 = -sg * (Y : Int) ∧ 1 ≤ A ∧ A ≤ m ∧ B ≤ m ∧ A * Y + B * X = m ∧ Nat.gcd A B = Nat.gcd e m ∧
    (∃ k, s.2.2.1 * (e : Int) - (A : Int) = k * (m : Int)) ∧ ∃ k, s.2.2.2 * (e : Int) - (B : Int) = k * (m : Int)

theorem F93_ret (e m : Nat) (he : 1 ≤ e) (hem : e < m) (hm : m ≤ 1072497001) :
    Ret (F93 (e : Int) (m : Int)) fun o => (o.2 = true ↔ Nat.gcd e m = 1) ∧ (o.2 = true → (0 ≤ o.1 ∧ o.1 < m) ∧ ∃ k, o.1 * (e : Int) - 1 = k * (m : Int)) ∧ (o.2 = false → o.1 = 0) := by
  have hm0 : ¬((m : Int) = 0) := by omega
  unfold F93 L93_2
  simp (disch := omega) only [Ret_some, Ret_none, Ret_bind, Ret_asrt, Ret_cond, Sum.elim_inl, Sum.elim_inr, decide_eq_true_eq, decide_eq_false_iff_not, Bool.not_eq_true', Bool.not_not, Bool.and_eq_true, Bool.or_eq_true, Bool.true_eq_false, Bool.false_eq_true, Bool.not_true, Bool.not_false, if_true, if_false, ite_true, ite_false, true_and, and_true, false_and, and_false, Int.toNat_natCast, toN_succ, Int.ofNat_eq_natCast, Int.ofNat_toNat, Nat.zero_add, Nat.add_zero, not_true_eq_false, not_false_eq_true, implies_true, wr64, hm0]
  rw [tmod_nn (Int.natCast_nonneg _), Int.emod_eq_of_lt (Int.natCast_nonneg _) (by omega)]
  refine Ret.while (invI e m) (fun s => s.2.1.toNat) ?_ ?_
  · exact ⟨e, m, 1, 0, 1, .inl rfl, rfl, rfl, by simp, by simp, he, by omega, Nat.le_refl _, by simp, rfl, ⟨0, by simp⟩, ⟨-1, by simp⟩⟩
  · rintro ⟨a, b, x, y⟩ ⟨A, B, X, Y, sg, hsg, h1, h2, h3, h4, h5, h5', h5b, h6, h7, ⟨k1, h8⟩, ⟨k2, h9⟩⟩
    simp only at h1 h2 h3 h4 h8 h9
    subst h1 h2
    unfold B93_2
    by_cases c : B = 0
    · subst c
      have e1 : ¬(0 : Int) < ((0 : Nat) : Int) := by omega
      simp (disch := omega) only [Ret_some, Ret_none, Ret_bind, Ret_asrt, Ret_cond, Sum.elim_inl, Sum.elim_inr, decide_eq_true_eq, decide_eq_false_iff_not, Bool.not_eq_true', Bool.not_not, Bool.and_eq_true, Bool.or_eq_true, Bool.true_eq_false, Bool.false_eq_true, Bool.not_true, Bool.not_false, if_true, if_false, ite_true, ite_false, true_and, and_true, false_and, and_false, Int.toNat_natCast, toN_succ, Int.ofNat_eq_natCast, Int.ofNat_toNat, Nat.zero_add, Nat.add_zero, not_true_eq_false, not_false_eq_true, implies_true, wr64, e1]
      rw [Nat.gcd_zero_right] at h7
      split
      · rename_i hne
        have : Nat.gcd e m ≠ 1 := by omega
        simp [this]
      · rename_i hA
        have hA : A = 1 := by omega
        have hx := Int.emod_emod_of_dvd x (Int.dvd_refl (m : Int))
        have r1 : -(m : Int) < Int.tmod x m ∧ Int.tmod x m < m := by
          have := Int.tmod_lt_of_pos x (show (0 : Int) < m by omega)
          have := Int.lt_tmod_of_pos x (show (0 : Int) < m by omega)
          omega
        rw [wr64 (by omega) (by omega), tmod_nn (by omega)]
        have r2 : (Int.tmod x m + m) % m = x % m := by
          rw [Int.add_emod_right, Int.tmod_eq_emod]
          split <;> simp [Int.sub_emod]
        rw [r2]
        refine ⟨by simp; omega, fun _ => ⟨⟨Int.emod_nonneg _ hm0, Int.emod_lt_of_pos _ (by omega)⟩, ?_⟩, by simp⟩
        refine ⟨k1 - (x / m) * e, ?_⟩
        have := Int.emod_add_mul_ediv x m
        have h10 : x % m = x - m * (x / m) := by omega
        rw [h10, Int.sub_mul, Int.sub_mul]
        have h11 : x * (e : Int) = k1 * m + 1 := by omega
        rw [h11]
        have : (m : Int) * (x / m) * e = x / m * e * m := by rw [Int.mul_assoc, Int.mul_comm]
        omega
    · have hB : 0 < B := by omega
      have e1 : (0 : Int) < (B : Int) := by omega
      have e2 : ¬((B : Int) = 0) := by omega
      have q1 : Int.tdiv (A : Int) (B : Int) = ((A / B : Nat) : Int) := by rw [Int.tdiv_eq_ediv_of_nonneg (Int.natCast_nonneg _)]; rfl
      have hdm := Nat.div_add_mod A B
      have q2 : A / B * B ≤ A := Nat.div_mul_le_self A B
      have hmlt : A % B < B := Nat.mod_lt A hB
      have hgc : Nat.gcd B (A % B) = Nat.gcd A B := by rw [Nat.gcd_comm A B, Nat.gcd_rec B A]; exact Nat.gcd_comm _ _
      have hq : A / B ≤ m := Nat.le_trans (Nat.div_le_self _ _) h5'
      generalize A / B = Q at *
      generalize A % B = R at *
      have key : B * (X + Q * Y) + R * Y = m := by
        rw [← h6]
        conv => rhs; rw [← hdm]
        rw [Nat.mul_add, Nat.add_mul, Nat.mul_assoc]
        omega
      have hY' : X + Q * Y ≤ m := by
        have : X + Q * Y ≤ B * (X + Q * Y) := Nat.le_mul_of_pos_left _ hB
        omega
      have c1 : ((Q : Nat) : Int) * (B : Int) = ((Q * B : Nat) : Int) := by rw [Int.natCast_mul]
      have c2 : ((Q : Nat) : Int) * y = -sg * ((Q * Y : Nat) : Int) := by rw [h4, Int.natCast_mul]; rw [← Int.mul_assoc, ← Int.mul_assoc, Int.mul_comm _ (-sg)]
      have c3 : x - ((Q : Nat) : Int) * y = sg * ((X + Q * Y : Nat) : Int) := by
        rw [c2, h3, Int.natCast_add, Int.mul_add]
        rw [Int.neg_mul]; omega
      have b1 : -(1072497001 : Int) ≤ -sg * ((Q * Y : Nat) : Int) ∧ -sg * ((Q * Y : Nat) : Int) ≤ 1072497001 := by
        rcases hsg with rfl | rfl <;> omega
      have b2 : -(1072497001 : Int) ≤ sg * ((X + Q * Y : Nat) : Int) ∧ sg * ((X + Q * Y : Nat) : Int) ≤ 1072497001 := by
        rcases hsg with rfl | rfl <;> omega
      simp (disch := omega) only [Ret_some, Ret_none, Ret_bind, Ret_asrt, Ret_cond, Sum.elim_inl, Sum.elim_inr, decide_eq_true_eq, decide_eq_false_iff_not, Bool.not_eq_true', Bool.not_not, Bool.and_eq_true, Bool.or_eq_true, Bool.true_eq_false, Bool.false_eq_true, Bool.not_true, Bool.not_false, if_true, if_false, ite_true, ite_false, true_and, and_true, false_and, and_false, Int.toNat_natCast, toN_succ, Int.ofNat_eq_natCast, Int.ofNat_toNat, Nat.zero_add, Nat.add_zero, not_true_eq_false, not_false_eq_true, implies_true, wr64, e1, e2, q1]
      have hmod : (A : Int) - (Q : Int) * (B : Int) = ((R : Nat) : Int) := by
        rw [c1]
        have : B * (Q) = Q * B := Nat.mul_comm _ _
        omega
      rw [hmod, c3]
      refine ⟨⟨B, R, Y, X + Q * Y, -sg, by omega, rfl, rfl, h4, by simp, by omega, h5b, by omega, by rw [← key], ?_, ⟨k2, h9⟩, ⟨k1 - ((Q : Nat) : Int) * k2, ?_⟩⟩, ?_⟩
      · rw [hgc, h7]
      · show sg * ((X + Q * Y : Nat) : Int) * (e : Int) - ((R : Nat) : Int) = _
        rw [← c3, ← hmod, Int.sub_mul]
        have h11 : x * (e : Int) = k1 * m + A := by omega
        have h12 : y * (e : Int) = k2 * m + B := by omega
        rw [h11, Int.mul_assoc, h12, Int.mul_add, Int.sub_mul, Int.mul_assoc (Q : Int) k2 m]
        omega
      · show ((R : Nat) : Int).toNat < ((B : Nat) : Int).toNat
        omega

/-- inverses are the same -/
theorem inv_uniq {e m d d' : Int} (hd : 0 ≤ d ∧ d < m) (hd' : 0 ≤ d' ∧ d' < m) {k k' : Int} (h : d * e - 1 = k * m) (h' : d' * e - 1 = k' * m) : d = d' := by
  have h1 : d * e = k * m + 1 := by omega
  have h2 : d' * e = k' * m + 1 := by omega
  have key : d - d' = (k * d' - k' * d) * m := by
    have a1 : d * (d' * e) = d * (k' * m) + d := by rw [h2, Int.mul_add, Int.mul_one]
    have a2 : d' * (d * e) = d' * (k * m) + d' := by rw [h1, Int.mul_add, Int.mul_one]
    have a3 : d * (d' * e) = d' * (d * e) := by rw [← Int.mul_assoc, ← Int.mul_assoc, Int.mul_comm d d']
    have a4 : d * (k' * m) = k' * d * m := by rw [← Int.mul_assoc, Int.mul_comm d k']
    have a5 : d' * (k * m) = k * d' * m := by rw [← Int.mul_assoc, Int.mul_comm d' k]
    rw [Int.sub_mul]
    omega
  have hm : 0 < m := by omega
  generalize k * d' - k' * d = t at key
  rcases Int.lt_trichotomy t 0 with h | h | h
  · have : t * m ≤ -1 * m := Int.mul_le_mul_of_nonneg_right (by omega) (by omega)
    omega
  · subst h; omega
  · have : 1 * m ≤ t * m := Int.mul_le_mul_of_nonneg_right (by omega) (by omega)
    omega

theorem F8_true (p q e : Int) : F8 p q e = some true := by
  have same : ∃ r, F34 p q e = some r ∧ F35 p q e = some r := by
    unfold F34 F35
    simp only [F79_eq, show ∀ n a b : Int, F81 n a b = some (decide (a ≤ n ∧ n ≤ b)) from F79_eq, Option.bind_some]
    by_cases hp : 1009 ≤ p ∧ p ≤ 32749
    · by_cases hq : 1009 ≤ q ∧ q ≤ 32749
      · by_cases he : 3 ≤ e ∧ e ≤ 32749
        · obtain ⟨bp, h1, _⟩ := F92_ret p hp.2
          obtain ⟨bq, h2, _⟩ := F92_ret q hq.2
          simp only [F94_eq, h1, h2, Option.bind_some]
          cases bp
          · simp [hp, hq, he]
          · cases bq
            · simp [hp, hq, he]
            · by_cases hpq : p = q
              · simp [hp, hq, he, hpq]
              · obtain ⟨m, hm⟩ : ∃ m : Nat, (m : Int) = (p - 1) * (q - 1) := ⟨((p - 1) * (q - 1)).toNat, Int.toNat_of_nonneg (Int.mul_nonneg (by omega) (by omega))⟩
                obtain ⟨n, rfl⟩ : ∃ n : Nat, (n : Int) = e := ⟨e.toNat, by omega⟩
                have hm1 : (p - 1) * (q - 1) ≤ 32748 * 32748 := Int.mul_le_mul (by omega) (by omega) (by omega) (by omega)
                have hm2 : 1008 * 1008 ≤ (p - 1) * (q - 1) := Int.mul_le_mul (by omega) (by omega) (by omega) (by omega)
                have hw : IntKind.wrap .i64 (IntKind.wrap .i64 (p - 1) * IntKind.wrap .i64 (q - 1)) = (m : Int) := by
                  rw [wr64 (x := p - 1) (by omega) (by omega), wr64 (x := q - 1) (by omega) (by omega), wr64 (by omega) (by omega), hm]
                rw [← hm] at hm1 hm2
                obtain ⟨⟨d, is⟩, h3, h4, h5, h6⟩ := F93_ret n m (by omega) (by omega) (by omega)
                simp only at h4 h5 h6
                rw [hw, h3, F95_ret]
                simp only [Option.bind_some]
                cases is with
                | false =>
                  have hg : ¬(Nat.gcd n m = 1) := fun h => by have := h4.2 h; cases this
                  have hg' : ¬(((Nat.gcd n m : Nat) : Int) = 1) := by omega
                  simp [hp, hq, he, hpq, hg']
                | true =>
                  have hg : Nat.gcd n m = 1 := h4.1 rfl
                  obtain ⟨hd, K, hK⟩ := h5 rfl
                  have hL : L35_10 p q n 0 = some (⟨IntKind.wrap .i64 (p * q), (n : Int), d⟩, 0) := by
                    refine Ret.eq ?_
                    have hn0 : ¬((n : Int) = 0) := by omega
                    have hde : 0 ≤ d * (n : Int) := Int.mul_nonneg hd.1 (by omega)
                    have hK0 : 0 ≤ K := by
                      rcases Int.lt_or_le K 0 with h | h
                      · have : K * m ≤ -1 * m := Int.mul_le_mul_of_nonneg_right (by omega) (by omega)
                        omega
                      · exact h
                    have hKn : K < n := by
                      rcases Int.lt_or_le K n with h | h
                      · exact h
                      · have h7 : (n : Int) * m ≤ K * m := Int.mul_le_mul_of_nonneg_right h (by omega)
                        have h8 : d * (n : Int) ≤ (m - 1) * n := Int.mul_le_mul_of_nonneg_right (by omega) (by omega)
                        rw [Int.sub_mul, Int.mul_comm (m : Int) n] at h8
                        omega
                    unfold L35_10
                    refine Ret.loop K.toNat (fun i s => s = (i : Int)) rfl ?_ ?_
                    · rintro i s hi rfl
                      have hi1 : (i : Int) * m ≤ 32749 * 1072431504 := Int.mul_le_mul (by omega) (by omega) (by omega) (by omega)
                      have hi2 : 0 ≤ (i : Int) * m := Int.mul_nonneg (by omega) (by omega)
                      unfold B35_10
                      rw [hw]
                      simp (disch := omega) only [Ret_some, Ret_none, Ret_bind, Ret_asrt, Ret_cond, Sum.elim_inl, Sum.elim_inr, decide_eq_true_eq, decide_eq_false_iff_not, Bool.not_eq_true', Bool.not_not, Bool.and_eq_true, Bool.or_eq_true, Bool.true_eq_false, Bool.false_eq_true, Bool.not_true, Bool.not_false, if_true, if_false, ite_true, ite_false, true_and, and_true, false_and, and_false, Int.toNat_natCast, toN_succ, Int.ofNat_eq_natCast, Int.ofNat_toNat, Nat.zero_add, Nat.add_zero, not_true_eq_false, not_false_eq_true, implies_true, wr64, hn0, tmod_nn (show 0 ≤ (i : Int) * m + 1 by omega)]
                      rw [if_neg]
                      · omega
                      · intro hz
                        have hdv := Int.emod_add_mul_ediv ((i : Int) * m + 1) n
                        rw [hz] at hdv
                        generalize hy : ((i : Int) * m + 1) / n = y at hdv
                        have hyn : y * n = i * m + 1 := by rw [Int.mul_comm]; omega
                        have hy0 : 0 ≤ y := by rw [← hy]; exact Int.ediv_nonneg (by omega) (by omega)
                        have hym : y < m := by
                          rcases Int.lt_or_le y m with h | h
                          · exact h
                          · have h7 : (m : Int) * n ≤ y * n := Int.mul_le_mul_of_nonneg_right h (by omega)
                            have h8 : (i : Int) * m ≤ (n - 1) * m := Int.mul_le_mul_of_nonneg_right (by omega) (by omega)
                            rw [Int.sub_mul, Int.mul_comm (n : Int) m] at h8
                            omega
                        have hdy : d = y := inv_uniq hd ⟨hy0, hym⟩ hK (show y * n - 1 = i * m by omega)
                        subst hdy
                        have h9 : (K - i) * m = 0 := by rw [Int.sub_mul]; omega
                        rcases Int.mul_eq_zero.1 h9 with h | h <;> omega
                    · rintro s rfl
                      have hKK : ((K.toNat : Nat) : Int) = K := by omega
                      have h10 : K * m + 1 = d * n := by omega
                      have h11 : d * (n : Int) ≤ 1072431504 * 32749 := Int.mul_le_mul (by omega) (by omega) (by omega) (by omega)
                      unfold B35_10
                      rw [hw, hKK]
                      have h12 : Int.tdiv (d * n) n = d := Int.mul_tdiv_cancel _ hn0
                      simp (disch := omega) only [Ret_some, Ret_none, Ret_bind, Ret_asrt, Ret_cond, Sum.elim_inl, Sum.elim_inr, decide_eq_true_eq, decide_eq_false_iff_not, Bool.not_eq_true', Bool.not_not, Bool.and_eq_true, Bool.or_eq_true, Bool.true_eq_false, Bool.false_eq_true, Bool.not_true, Bool.not_false, if_true, if_false, ite_true, ite_false, true_and, and_true, false_and, and_false, Int.toNat_natCast, toN_succ, Int.ofNat_eq_natCast, Int.ofNat_toNat, Nat.zero_add, Nat.add_zero, not_true_eq_false, not_false_eq_true, implies_true, wr64, hn0, h10, h12, tmod_nn hde, Int.mul_emod_left]
                  rw [hL]
                  simp [hp, hq, he, hpq, hg]
        · simp [hp, hq, he]
      · simp [hp, hq]
    · simp [hp]
  obtain ⟨r, h1, h2⟩ := same
  unfold F8
  simp [h1, h2, F18_eq]

end Go.Proofs.Ytgghnfmabphbmaa
