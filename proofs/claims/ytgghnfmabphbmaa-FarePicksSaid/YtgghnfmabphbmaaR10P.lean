/- FarePicks: what its pure functions return. -/
import Derived.Test.YtgghnfmabphbmaaA21
import Derived.Test.YtgghnfmabphbmaaR10C
import Derived.Test.YtgghnfmabphbmaaA18
open Go Go.Proofs.Ytgghnfmabphbmaa.Fw
namespace Go.Proofs.Ytgghnfmabphbmaa
set_option maxRecDepth 100000
set_option linter.unusedVariables false
set_option linter.unusedSimpArgs false

/-! ### powers modulo a number -/

theorem tmod_nn {a b : Int} (ha : 0 ≤ a) : Int.tmod a b = a % b := by
  rw [Int.tmod_eq_emod_of_nonneg ha]

theorem mod_rng {a n : Int} (hn : 0 < n) : 0 ≤ a % n ∧ a % n < n := ⟨Int.emod_nonneg _ (by omega), Int.emod_lt_of_pos _ hn⟩

theorem mul_rng {a b n : Int} (ha : 0 ≤ a ∧ a < n) (hb : 0 ≤ b ∧ b < n) (hn : n ≤ 1072497001) : 0 ≤ a * b ∧ a * b < 9223372036854775808 := by
  constructor
  · exact Int.mul_nonneg ha.1 hb.1
  · have h1 : a * b ≤ 1072497001 * 1072497001 := Int.mul_le_mul (by omega) (by omega) hb.1 (by omega)
    have : (1072497001 : Int) * 1072497001 < 9223372036854775808 := by decide
    omega

/-- a to the k, modulo n -/
def pw (a n : Int) (k : Nat) : Int := a ^ k % n

theorem mul_mod_l (a b n : Int) : (a % n * b) % n = (a * b) % n := by rw [Int.mul_emod, Int.emod_emod_of_dvd _ (Int.dvd_refl n), ← Int.mul_emod]
theorem mul_mod_r (a b n : Int) : (a * (b % n)) % n = (a * b) % n := by rw [Int.mul_emod, Int.emod_emod_of_dvd _ (Int.dvd_refl n), ← Int.mul_emod]

theorem shr1 (v : Int) : shrI .i64 v 1 = v / 2 := by
  unfold shrI
  show v.fdiv (2 ^ min (1 : Int).toNat 64) = v / 2
  rw [show (2 : Int) ^ min (1 : Int).toNat 64 = 2 from by decide]
  exact Int.fdiv_eq_ediv_of_nonneg v (by decide)

theorem and1 (v : Int) (h : 0 ≤ v) (h2 : v < 9223372036854775808) : andI .i64 v 1 = v % 2 := by
  unfold andI
  have e : (BitVec.ofInt IntKind.i64.bits v &&& BitVec.ofInt IntKind.i64.bits 1).toNat = (v % 2).toNat := by
    rw [BitVec.toNat_and]
    show (BitVec.ofInt 64 v).toNat &&& (BitVec.ofInt 64 1).toNat = _
    rw [show (BitVec.ofInt 64 1).toNat = 1 from rfl, Nat.and_one_is_mod, BitVec.toNat_ofInt]
    omega
  rw [e, wr64 (by omega) (by omega)]
  omega

theorem pw_two (x : Int) (q : Nat) : x ^ (2 * q) = (x * x) ^ q := by
  rw [Int.pow_mul]
  congr 1
  rw [Int.pow_succ, Int.pow_succ, Int.pow_zero, Int.one_mul]

theorem pw_odd (x : Int) (q : Nat) : x ^ (2 * q + 1) = (x * x) ^ q * x := by rw [Int.pow_succ, pw_two]

theorem pow_mod (x n : Int) : ∀ k : Nat, (x % n) ^ k % n = x ^ k % n
  | 0 => by rw [Int.pow_zero, Int.pow_zero]
  | k + 1 => by rw [Int.pow_succ, Int.pow_succ, mul_mod_r, Int.mul_emod, pow_mod x n k, ← Int.mul_emod]

theorem bitI (v i : Nat) (hv : v < 9223372036854775808) : andI .i64 (shrI .i64 (v : Int) (i : Int)) 1 = ((v / 2 ^ i % 2 : Nat) : Int) := by
  have e : shrI .i64 (v : Int) (i : Int) = ((v / 2 ^ min i 64 : Nat) : Int) := by
    unfold shrI
    show (v : Int).fdiv (2 ^ min (i : Int).toNat 64) = _
    rw [Int.toNat_natCast, Int.fdiv_eq_ediv_of_nonneg _ (Int.le_of_lt (Int.pow_pos (by decide))), Int.natCast_ediv, Int.natCast_pow]
    rfl
  have h2 : v / 2 ^ min i 64 = v / 2 ^ i := by
    by_cases c : i ≤ 64
    · rw [Nat.min_eq_left c]
    · have h1 : (2 : Nat) ^ 64 ≤ 2 ^ i := Nat.pow_le_pow_right (by omega) (by omega)
      have h0 : (2 : Nat) ^ 64 = 18446744073709551616 := by decide
      rw [Nat.min_eq_right (by omega), Nat.div_eq_of_lt (by omega), Nat.div_eq_of_lt (by omega)]
  rw [e, h2, and1 _ (Int.natCast_nonneg _) (by have := Nat.div_le_self v (2 ^ i); omega)]
  omega

/-- is number i in the set v? -/
def bitS (v i : Nat) : Bool := decide (v / 2 ^ i % 2 = 1)

theorem bit0 (v i : Nat) (hv : v < 9223372036854775808) : decide (andI .i64 (shrI .i64 (v : Int) (i : Int)) 1 = 0) = !bitS v i := by
  rw [bitI v i hv]; unfold bitS
  have : v / 2 ^ i % 2 < 2 := Nat.mod_lt _ (by omega)
  by_cases c : v / 2 ^ i % 2 = 1
  · simp [c]
  · have : v / 2 ^ i % 2 = 0 := by omega
    simp [this]

theorem bit1 (v i : Nat) (hv : v < 9223372036854775808) : decide (andI .i64 (shrI .i64 (v : Int) (i : Int)) 1 = 1) = bitS v i := by
  rw [bitI v i hv]; unfold bitS
  by_cases c : v / 2 ^ i % 2 = 1
  · simp [c]
  · simp only [c, decide_false, decide_eq_false_iff_not]; omega

theorem shl1 (n : Nat) (h : n < 63) : shlI .i64 1 (n : Int) = ((2 ^ n : Nat) : Int) := by
  have : ∀ n : Fin 63, shlI .i64 1 ((n.val : Nat) : Int) = ((2 ^ n.val : Nat) : Int) := by decide
  exact this ⟨n, h⟩

/-- a set without any number is empty -/
theorem bits_zero : ∀ (n v : Nat), v < 2 ^ n → (∀ i, i < n → bitS v i = false) → v = 0
  | 0, v, h, _ => by simpa using h
  | n + 1, v, h, hb => by
    have h0 := hb 0 (by omega)
    have hv : v / 2 = 0 := bits_zero n (v / 2) (by rw [Nat.pow_succ] at h; omega) fun i hi => by
      have := hb (i + 1) (by omega)
      unfold bitS at this ⊢
      rwa [Nat.pow_succ, Nat.mul_comm, ← Nat.div_div_eq_div_mul] at this
    unfold bitS at h0
    have : ¬ (v % 2 = 1) := by simpa using h0
    omega
theorem F79_eq (n a b : Int) : F79 n a b = some (decide (a ≤ n ∧ n ≤ b)) := by
  unfold F79
  by_cases h : a ≤ n <;> simp [h]
theorem F81_eq (n a b : Int) : F81 n a b = some (decide (a ≤ n ∧ n ≤ b)) := F79_eq n a b

/-! ### errors -/

theorem B99_6_eq (a0 : List TOffer) (a2 s : Int) : B99_6 a0 a2 s = B44_6 a0 a2 s := by
  unfold B99_6 B44_6 F114
  simp only [F79_eq, F81_eq, Option.bind_some]
  generalize (a0.getD s.toNat TOffer.d).from0 = f
  generalize (a0.getD s.toNat TOffer.d).to0 = t
  generalize (a0.getD s.toNat TOffer.d).value = u
  by_cases h1 : f < 0
  · have : ¬ (0 ≤ f) := by omega
    simp [h1, this]
  · have g1 : 0 ≤ f := by omega
    by_cases h2 : t ≤ f
    · have : ¬ (f < t) := by omega
      simp [h1, h2, this, g1]
    · have g2 : f < t := by omega
      by_cases h3 : a2 ≤ t
      · have : ¬ (t < a2) := by omega
        simp [h1, h2, h3, this, g1, g2]
      · have g3 : t < a2 := by omega
        simp [h1, h2, h3, g1, g2, g3]

theorem F99_eq (a0 : List TOffer) (a1 a2 : Int) : F99 a0 a1 a2 = F44 a0 a1 a2 := by
  unfold F99 F44
  have : L99_6 a0 a2 = L44_6 a0 a2 := by
    funext s
    unfold L99_6 L44_6
    exact loopW_congr (B99_6_eq a0 a2) s
  simp only [F79_eq, F81_eq, this]

/-- offers that may be -/
structure Good (a0 : List TOffer) (a1 a2 : Int) : Prop where
  len : a0.length ≤ 12
  seats : 1 ≤ a1 ∧ a1 ≤ 12
  stops : 2 ≤ a2 ∧ a2 ≤ 12
  ok : ∀ i, i < a0.length → 0 ≤ (a0.getD i TOffer.d).from0 ∧ (a0.getD i TOffer.d).from0 < (a0.getD i TOffer.d).to0 ∧ (a0.getD i TOffer.d).to0 < a2 ∧ 1 ≤ (a0.getD i TOffer.d).value ∧ (a0.getD i TOffer.d).value ≤ 200

theorem F44_ret (a0 : List TOffer) (a1 a2 : Int) : Ret (F44 a0 a1 a2) fun r => r = 0 → Good a0 a1 a2 := by
  unfold F44
  simp (disch := omega) only [Ret_some, Ret_none, Ret_bind, Ret_asrt, Ret_cond, Sum.elim_inl, Sum.elim_inr, decide_eq_true_eq, decide_eq_false_iff_not, Bool.not_eq_true', Bool.not_not, Bool.and_eq_true, Bool.or_eq_true, Bool.true_eq_false, Bool.false_eq_true, Bool.not_true, Bool.not_false, if_true, if_false, ite_true, ite_false, true_and, and_true, false_and, and_false, Int.toNat_natCast, toN_succ, Int.ofNat_eq_natCast, Int.ofNat_toNat, Nat.zero_add, Nat.add_zero, not_true_eq_false, not_false_eq_true, implies_true, wr64, F81_eq]
  split
  · omega
  · rename_i hl
    split
    · omega
    · rename_i h1
      split
      · omega
      · rename_i h2
        refine Ret.mono (Q := fun x => match x with | .inl _ => Good a0 a1 a2 | .inr r => r ≠ 0) ?_ ?_
        · unfold L44_6
          refine Ret.loop a0.length (fun i s => s = (i : Int) ∧ ∀ j, j < i → 0 ≤ (a0.getD j TOffer.d).from0 ∧ (a0.getD j TOffer.d).from0 < (a0.getD j TOffer.d).to0 ∧ (a0.getD j TOffer.d).to0 < a2 ∧ 1 ≤ (a0.getD j TOffer.d).value ∧ (a0.getD j TOffer.d).value ≤ 200) ⟨rfl, fun j hj => by omega⟩ ?_ ?_
          · rintro i s hi ⟨rfl, hj⟩
            unfold B44_6
            simp (disch := omega) only [Ret_some, Ret_none, Ret_bind, Ret_asrt, Ret_cond, Sum.elim_inl, Sum.elim_inr, decide_eq_true_eq, decide_eq_false_iff_not, Bool.not_eq_true', Bool.not_not, Bool.and_eq_true, Bool.or_eq_true, Bool.true_eq_false, Bool.false_eq_true, Bool.not_true, Bool.not_false, if_true, if_false, ite_true, ite_false, true_and, and_true, false_and, and_false, Int.toNat_natCast, toN_succ, Int.ofNat_eq_natCast, Int.ofNat_toNat, Nat.zero_add, Nat.add_zero, not_true_eq_false, not_false_eq_true, implies_true, wr64, F81_eq]
            rw [if_pos (by omega)]
            refine ⟨by omega, ?_⟩
            split
            · simp
            · split
              · simp
              · split
                · simp
                · split
                  · simp
                  · refine ⟨by omega, fun j hj2 => ?_⟩
                    by_cases e : j = i
                    · subst e; omega
                    · exact hj j (by omega)
          · rintro s ⟨rfl, hj⟩
            unfold B44_6
            simp (disch := omega) only [Ret_some, Ret_none, Ret_bind, Ret_asrt, Ret_cond, Sum.elim_inl, Sum.elim_inr, decide_eq_true_eq, decide_eq_false_iff_not, Bool.not_eq_true', Bool.not_not, Bool.and_eq_true, Bool.or_eq_true, Bool.true_eq_false, Bool.false_eq_true, Bool.not_true, Bool.not_false, if_true, if_false, ite_true, ite_false, true_and, and_true, false_and, and_false, Int.toNat_natCast, toN_succ, Int.ofNat_eq_natCast, Int.ofNat_toNat, Nat.zero_add, Nat.add_zero, not_true_eq_false, not_false_eq_true, implies_true, wr64]
            rw [if_neg (by omega)]
            exact ⟨by omega, by omega, by omega, hj⟩
        · rintro (⟨⟩ | r) h
          · exact Ret_some.2 fun _ => h
          · exact Ret_some.2 fun hr => absurd hr h

/-! ### what a set has -/

def chS (v : Nat) : Nat → List Int
  | 0 => []
  | i + 1 => bif bitS v i then chS v i ++ [(i : Int)] else chS v i
def smS (l : List TOffer) (v : Nat) : Nat → Int
  | 0 => 0
  | i + 1 => bif bitS v i then smS l v i + (l.getD i TOffer.d).value else smS l v i
def ldS (l : List TOffer) (v : Nat) : Nat → Nat → Int
  | 0, _ => 0
  | i + 1, k => bif bitS v i then (if (l.getD i TOffer.d).from0 ≤ (k : Int) ∧ (k : Int) < (l.getD i TOffer.d).to0 then ldS l v i k + 1 else ldS l v i k) else ldS l v i k

theorem ldS_nn (l : List TOffer) (v : Nat) : ∀ i k, 0 ≤ ldS l v i k ∧ ldS l v i k ≤ (i : Int)
  | 0, k => by simp [ldS]
  | i + 1, k => by
    have := ldS_nn l v i k
    unfold ldS
    cases bitS v i with
    | false => simp only [cond_false]; omega
    | true => simp only [cond_true]; split <;> omega

theorem ldS_out {l : List TOffer} {a1 a2 : Int} (h : Good l a1 a2) (v : Nat) : ∀ i, i ≤ l.length → ∀ k : Nat, a2 ≤ (k : Int) → ldS l v i k = 0
  | 0, _, k, _ => rfl
  | i + 1, hi, k, hk => by
    have := ldS_out h v i (by omega) k hk
    have := h.ok i (by omega)
    unfold ldS
    cases bitS v i with
    | false => simpa
    | true => simp only [cond_true]; rw [if_neg (by omega)]; assumption

theorem smS_rng {l : List TOffer} {a1 a2 : Int} (h : Good l a1 a2) (v : Nat) : ∀ i, i ≤ l.length → 0 ≤ smS l v i ∧ smS l v i ≤ 200 * (i : Int) ∧ ((∃ j, j < i ∧ bitS v j = true) → 0 < smS l v i) ∧ ((∀ j, j < i → bitS v j = false) → smS l v i = 0 ∧ chS v i = [] ∧ ∀ k, ldS l v i k = 0)
  | 0, _ => by simp [smS, chS, ldS]
  | i + 1, hi => by
    obtain ⟨h1, h2, h3, h4⟩ := smS_rng h v i (by omega)
    have := h.ok i (by omega)
    unfold smS chS
    cases hb : bitS v i with
    | false =>
      simp only [cond_false]
      refine ⟨h1, by omega, ?_, ?_⟩
      · rintro ⟨j, hj, hbj⟩
        refine h3 ⟨j, ?_, hbj⟩
        by_cases e : j = i
        · subst e; rw [hb] at hbj; simp at hbj
        · omega
      · intro hj
        obtain ⟨g1, g2, g3⟩ := h4 fun j hji => hj j (by omega)
        exact ⟨g1, g2, fun k => by unfold ldS; rw [hb]; exact g3 k⟩
    | true =>
      simp only [cond_true]
      exact ⟨by omega, by omega, fun _ => by omega, fun hj => by have := hj i (by omega); rw [hb] at this; simp at this⟩

theorem chS_len (v : Nat) : ∀ i, (chS v i).length ≤ i
  | 0 => by simp [chS]
  | i + 1 => by
    have := chS_len v i
    unfold chS
    cases bitS v i <;> simp <;> omega

/-! ### the program's loops -/

theorem L43_19_ret (l : List TOffer) (a1 : Int) (i : Nat) (ft : Bool) (m : List Int) (hm : m.length = 12) (h0 : 0 ≤ (l.getD i TOffer.d).from0) (h1 : (l.getD i TOffer.d).from0 < (l.getD i TOffer.d).to0) (h2 : (l.getD i TOffer.d).to0 < 12)
    (hc : ∀ k, k < 12 → 0 ≤ m.getD k 0 ∧ m.getD k 0 ≤ 100) (hf : ft = true ↔ ∀ k, k < 12 → m.getD k 0 ≤ a1) :
    Ret (L43_19 l a1 (i : Int) (ft, (l.getD i TOffer.d).from0, m)) fun o => o.2.length = 12 ∧ (∀ k : Nat, k < 12 → o.2.getD k 0 = if (l.getD i TOffer.d).from0 ≤ (k : Int) ∧ (k : Int) < (l.getD i TOffer.d).to0 then m.getD k 0 + 1 else m.getD k 0) ∧ (o.1 = true ↔ ∀ k, k < 12 → o.2.getD k 0 ≤ a1) := by
  have ei : (i : Int).toNat = i := Int.toNat_natCast i
  unfold L43_19 B43_19
  simp only [ei]
  generalize (l.getD i TOffer.d).from0 = f at *
  generalize (l.getD i TOffer.d).to0 = t at *
  refine Ret.loop (t - f).toNat (fun j s => s.2.1 = f + (j : Int) ∧ s.2.2.length = 12 ∧ (∀ k : Nat, k < 12 → s.2.2.getD k 0 = if f ≤ (k : Int) ∧ (k : Int) < f + (j : Int) then m.getD k 0 + 1 else m.getD k 0) ∧ (s.1 = true ↔ ∀ k, k < 12 → s.2.2.getD k 0 ≤ a1)) ?_ ?_ ?_
  · refine ⟨by simp, hm, fun k hk => ?_, hf⟩
    rw [if_neg (by omega)]
  · rintro j ⟨b, u, q⟩ hj ⟨g1, g2, g3, g4⟩
    simp only at g1 g2 g3 g4
    subst g1
    have hidx : (f + (j : Int)).toNat < 12 := by omega
    have hval := g3 (f + (j : Int)).toNat hidx
    rw [if_neg (by omega)] at hval
    have hb := hc (f + (j : Int)).toNat hidx
    have hset : ∀ k : Nat, k < 12 → (q.set (f + (j : Int)).toNat (q.getD (f + (j : Int)).toNat 0 + 1)).getD k 0 = if f ≤ (k : Int) ∧ (k : Int) < f + ((j + 1 : Nat) : Int) then m.getD k 0 + 1 else m.getD k 0 := fun k hk => by
      rw [lgetD_set]
      by_cases e : (f + (j : Int)).toNat = k
      · rw [if_pos ⟨e, by omega⟩, if_pos (by omega), hval, e]
      · rw [if_neg (fun h => e h.1), g3 k hk]
        by_cases c : f ≤ (k : Int) ∧ (k : Int) < f + (j : Int)
        · rw [if_pos c, if_pos (by omega)]
        · rw [if_neg c, if_neg (by omega)]
    have hwr : IntKind.wrap .i64 (q.getD (f + (j : Int)).toNat 0 + 1) = q.getD (f + (j : Int)).toNat 0 + 1 := wr64 (by omega) (by omega)
    have hall : (b && decide ((q.set (f + (j : Int)).toNat (q.getD (f + (j : Int)).toNat 0 + 1)).getD (f + (j : Int)).toNat 0 ≤ a1)) = true ↔ ∀ k, k < 12 → (q.set (f + (j : Int)).toNat (q.getD (f + (j : Int)).toNat 0 + 1)).getD k 0 ≤ a1 := by
      rw [Bool.and_eq_true, decide_eq_true_eq, g4]
      constructor
      · rintro ⟨q1, q2⟩ k hk
        rw [lgetD_set] at q2 ⊢
        rw [if_pos ⟨rfl, by omega⟩] at q2
        split
        · exact q2
        · exact q1 k hk
      · intro q1
        refine ⟨fun k hk => ?_, q1 _ hidx⟩
        have := q1 k hk
        rw [lgetD_set] at this
        split at this
        · rename_i e
          obtain ⟨e, _⟩ := e
          subst e; omega
        · exact this
    simp (disch := omega) only [Ret_some, Ret_none, Ret_bind, Ret_asrt, Ret_cond, Sum.elim_inl, Sum.elim_inr, decide_eq_true_eq, decide_eq_false_iff_not, Bool.not_eq_true', Bool.not_not, Bool.and_eq_true, Bool.or_eq_true, Bool.true_eq_false, Bool.false_eq_true, Bool.not_true, Bool.not_false, if_true, if_false, ite_true, ite_false, true_and, and_true, false_and, and_false, Int.toNat_natCast, toN_succ, Int.ofNat_eq_natCast, Int.ofNat_toNat, Nat.zero_add, Nat.add_zero, not_true_eq_false, not_false_eq_true, implies_true, wr64, hwr]
    refine ⟨by omega, ?_⟩
    rw [if_pos (by omega)]
    refine ⟨by omega, by omega, by omega, ?_⟩
    cases b with
    | true =>
      simp only [if_true]
      refine ⟨by omega, by omega, by omega, by simp [g2], hset, ?_⟩
      simpa using hall
    | false =>
      simp only [Bool.false_eq_true, if_false]
      refine ⟨by omega, by simp [g2], hset, ?_⟩
      simpa using hall
  · rintro ⟨b, u, q⟩ ⟨g1, g2, g3, g4⟩
    simp only at g1 g2 g3 g4
    subst g1
    simp (disch := omega) only [Ret_some, Ret_none, Ret_bind, Ret_asrt, Ret_cond, Sum.elim_inl, Sum.elim_inr, decide_eq_true_eq, decide_eq_false_iff_not, Bool.not_eq_true', Bool.not_not, Bool.and_eq_true, Bool.or_eq_true, Bool.true_eq_false, Bool.false_eq_true, Bool.not_true, Bool.not_false, if_true, if_false, ite_true, ite_false, true_and, and_true, false_and, and_false, Int.toNat_natCast, toN_succ, Int.ofNat_eq_natCast, Int.ofNat_toNat, Nat.zero_add, Nat.add_zero, not_true_eq_false, not_false_eq_true, implies_true, wr64]
    refine ⟨by omega, ?_⟩
    rw [if_neg (by omega)]
    refine ⟨g2, fun k hk => ?_, g4⟩
    rw [g3 k hk]
    have : f + (((t - f).toNat : Nat) : Int) = t := by omega
    rw [this]

theorem L43_13_ret {l : List TOffer} {a1 a2 : Int} (h : Good l a1 a2) (v : Nat) (hv : v < 9223372036854775808) :
    Ret (L43_13 l a1 (v : Int) ([], 0, true, 0, [0, 0, 0, 0, 0, 0, 0, 0, 0, 0, 0, 0])) fun o => o.1 = chS v l.length ∧ o.2.1 = smS l v l.length ∧ (o.2.2.1 = true ↔ ∀ k, k < 12 → ldS l v l.length k ≤ a1) ∧ o.2.2.2.length = 12 := by
  have hl := h.len
  have hs1 := h.seats
  have hs2 := h.stops
  unfold L43_13
  refine Ret.loop l.length (fun i s => s.1 = chS v i ∧ s.2.1 = smS l v i ∧ (s.2.2.1 = true ↔ ∀ k, k < 12 → ldS l v i k ≤ a1) ∧ s.2.2.2.1 = (i : Int) ∧ s.2.2.2.2.length = 12 ∧ ∀ k : Nat, k < 12 → s.2.2.2.2.getD k 0 = ldS l v i k) ?_ ?_ ?_
  · refine ⟨rfl, rfl, ?_, rfl, rfl, fun k hk => ?_⟩
    · simp only [true_iff]
      exact fun k hk => by simp only [ldS]; omega
    · simp only [ldS]
      have : ∀ k : Fin 12, ([0, 0, 0, 0, 0, 0, 0, 0, 0, 0, 0, 0] : List Int).getD k.val 0 = 0 := by decide
      exact this ⟨k, hk⟩
  · rintro i ⟨c, sm, ft, u, m⟩ hi ⟨g1, g2, g3, g4, g5, g6⟩
    simp only at g1 g2 g3 g4 g5 g6
    subst g1 g2 g4
    have ho := h.ok i hi
    have hr := smS_rng h v i (by omega)
    have hcl := chS_len v i
    unfold B43_13
    simp (disch := omega) only [Ret_some, Ret_none, Ret_bind, Ret_asrt, Ret_cond, Sum.elim_inl, Sum.elim_inr, decide_eq_true_eq, decide_eq_false_iff_not, Bool.not_eq_true', Bool.not_not, Bool.and_eq_true, Bool.or_eq_true, Bool.true_eq_false, Bool.false_eq_true, Bool.not_true, Bool.not_false, if_true, if_false, ite_true, ite_false, true_and, and_true, false_and, and_false, Int.toNat_natCast, toN_succ, Int.ofNat_eq_natCast, Int.ofNat_toNat, Nat.zero_add, Nat.add_zero, not_true_eq_false, not_false_eq_true, implies_true, wr64, bit0 v i hv, List.length_append, List.length_singleton]
    refine ⟨by omega, ?_⟩
    rw [if_pos (by omega)]
    refine ⟨by omega, ?_⟩
    rw [if_pos (by omega)]
    cases hb : bitS v i with
    | false =>
      rw [if_pos rfl]
      refine ⟨by simp [chS, hb], by simp [smS, hb], ?_, by omega, g5, fun k hk => ?_⟩
      · simp only [ldS, hb, cond_false]; exact g3
      · simp only [ldS, hb, cond_false]; exact g6 k hk
    | true =>
      rw [if_neg (by simp)]
      refine ⟨by omega, ?_⟩
      refine Ret.mono (L43_19_ret l a1 i ft m g5 (by omega) (by omega) (by omega) (fun k hk => by rw [g6 k hk]; have := ldS_nn l v i k; omega) (by rw [g3]; exact ⟨fun q k hk => by rw [g6 k hk]; exact q k hk, fun q k hk => by rw [← g6 k hk]; exact q k hk⟩)) ?_
      rintro ⟨b2, m2⟩ ⟨q1, q2, q3⟩
      simp only at q1 q2 q3
      have hm2 : ∀ k : Nat, k < 12 → m2.getD k 0 = ldS l v (i + 1) k := fun k hk => by
        rw [q2 k hk]; simp only [ldS, hb, cond_true, g6 k hk]
      refine ⟨by omega, by simp [chS, hb], ?_, ?_, by omega, q1, hm2⟩
      · simp only [smS, hb, cond_true]
      · rw [q3]
        exact ⟨fun q k hk => by rw [← hm2 k hk]; exact q k hk, fun q k hk => by rw [hm2 k hk]; exact q k hk⟩
  · rintro ⟨c, sm, ft, u, m⟩ ⟨g1, g2, g3, g4, g5, g6⟩
    simp only at g1 g2 g3 g4 g5 g6
    subst g4
    unfold B43_13
    simp (disch := omega) only [Ret_some, Ret_none, Ret_bind, Ret_asrt, Ret_cond, Sum.elim_inl, Sum.elim_inr, decide_eq_true_eq, decide_eq_false_iff_not, Bool.not_eq_true', Bool.not_not, Bool.and_eq_true, Bool.or_eq_true, Bool.true_eq_false, Bool.false_eq_true, Bool.not_true, Bool.not_false, if_true, if_false, ite_true, ite_false, true_and, and_true, false_and, and_false, Int.toNat_natCast, toN_succ, Int.ofNat_eq_natCast, Int.ofNat_toNat, Nat.zero_add, Nat.add_zero, not_true_eq_false, not_false_eq_true, implies_true, wr64]
    refine ⟨by omega, ?_⟩
    rw [if_neg (by omega)]
    exact ⟨g1, g2, g3, g5⟩

/-! ### the reference's loops -/

theorem L45_15_ret (l : List TOffer) (n : Nat) (i : Nat) (m : List Int) (hm : m.length = n) (h0 : 0 ≤ (l.getD i TOffer.d).from0) (h1 : (l.getD i TOffer.d).from0 < (l.getD i TOffer.d).to0) (h2 : (l.getD i TOffer.d).to0 < (n : Int)) (hn : n ≤ 12)
    (hc : ∀ k, k < n → 0 ≤ m.getD k 0 ∧ m.getD k 0 ≤ 100) :
    Ret (L45_15 l (i : Int) ((l.getD i TOffer.d).from0, m)) fun o => o.length = n ∧ ∀ k : Nat, k < n → o.getD k 0 = if (l.getD i TOffer.d).from0 ≤ (k : Int) ∧ (k : Int) < (l.getD i TOffer.d).to0 then m.getD k 0 + 1 else m.getD k 0 := by
  have ei : (i : Int).toNat = i := Int.toNat_natCast i
  unfold L45_15 B45_15
  simp only [ei]
  generalize (l.getD i TOffer.d).from0 = f at *
  generalize (l.getD i TOffer.d).to0 = t at *
  refine Ret.loop (t - f).toNat (fun j s => s.1 = f + (j : Int) ∧ s.2.length = n ∧ ∀ k : Nat, k < n → s.2.getD k 0 = if f ≤ (k : Int) ∧ (k : Int) < f + (j : Int) then m.getD k 0 + 1 else m.getD k 0) ?_ ?_ ?_
  · refine ⟨by simp, hm, fun k hk => ?_⟩
    rw [if_neg (by omega)]
  · rintro j ⟨u, q⟩ hj ⟨g1, g2, g3⟩
    simp only at g1 g2 g3
    subst g1
    have hidx : (f + (j : Int)).toNat < n := by omega
    have hval := g3 (f + (j : Int)).toNat hidx
    rw [if_neg (by omega)] at hval
    have hb := hc (f + (j : Int)).toNat hidx
    have hwr : IntKind.wrap .i64 (q.getD (f + (j : Int)).toNat 0 + 1) = q.getD (f + (j : Int)).toNat 0 + 1 := wr64 (by omega) (by omega)
    simp (disch := omega) only [Ret_some, Ret_none, Ret_bind, Ret_asrt, Ret_cond, Sum.elim_inl, Sum.elim_inr, decide_eq_true_eq, decide_eq_false_iff_not, Bool.not_eq_true', Bool.not_not, Bool.and_eq_true, Bool.or_eq_true, Bool.true_eq_false, Bool.false_eq_true, Bool.not_true, Bool.not_false, if_true, if_false, ite_true, ite_false, true_and, and_true, false_and, and_false, Int.toNat_natCast, toN_succ, Int.ofNat_eq_natCast, Int.ofNat_toNat, Nat.zero_add, Nat.add_zero, not_true_eq_false, not_false_eq_true, implies_true, wr64, hwr]
    rw [if_pos (by omega)]
    refine ⟨by omega, by omega, by omega, by simp [g2], fun k hk => ?_⟩
    rw [lgetD_set]
    by_cases e : (f + (j : Int)).toNat = k
    · rw [if_pos ⟨e, by omega⟩, if_pos (by omega), hval, e]
    · rw [if_neg (fun h => e h.1), g3 k hk]
      by_cases c : f ≤ (k : Int) ∧ (k : Int) < f + (j : Int)
      · rw [if_pos c, if_pos (by omega)]
      · rw [if_neg c, if_neg (by omega)]
  · rintro ⟨u, q⟩ ⟨g1, g2, g3⟩
    simp only at g1 g2 g3
    subst g1
    simp (disch := omega) only [Ret_some, Ret_none, Ret_bind, Ret_asrt, Ret_cond, Sum.elim_inl, Sum.elim_inr, decide_eq_true_eq, decide_eq_false_iff_not, Bool.not_eq_true', Bool.not_not, Bool.and_eq_true, Bool.or_eq_true, Bool.true_eq_false, Bool.false_eq_true, Bool.not_true, Bool.not_false, if_true, if_false, ite_true, ite_false, true_and, and_true, false_and, and_false, Int.toNat_natCast, toN_succ, Int.ofNat_eq_natCast, Int.ofNat_toNat, Nat.zero_add, Nat.add_zero, not_true_eq_false, not_false_eq_true, implies_true, wr64]
    rw [if_neg (by omega)]
    refine ⟨g2, fun k hk => ?_⟩
    rw [g3 k hk]
    have : f + (((t - f).toNat : Nat) : Int) = t := by omega
    rw [this]

theorem L45_9_ret {l : List TOffer} {a1 a2 : Int} (h : Good l a1 a2) (v : Nat) (hv : v < 9223372036854775808) :
    Ret (L45_9 l (v : Int) ([], 0, 0, List.replicate a2.toNat 0)) fun o => o.1 = chS v l.length ∧ o.2.1 = smS l v l.length ∧ o.2.2.length = a2.toNat ∧ ∀ k : Nat, k < a2.toNat → o.2.2.getD k 0 = ldS l v l.length k := by
  have hl := h.len
  have hs1 := h.seats
  have hs2 := h.stops
  unfold L45_9
  refine Ret.loop l.length (fun i s => s.1 = chS v i ∧ s.2.1 = smS l v i ∧ s.2.2.1 = (i : Int) ∧ s.2.2.2.length = a2.toNat ∧ ∀ k : Nat, k < a2.toNat → s.2.2.2.getD k 0 = ldS l v i k) ?_ ?_ ?_
  · refine ⟨rfl, rfl, rfl, by simp, fun k hk => ?_⟩
    simp only [ldS]
    exact getD_rep hk
  · rintro i ⟨c, sm, u, m⟩ hi ⟨g1, g2, g4, g5, g6⟩
    simp only at g1 g2 g4 g5 g6
    subst g1 g2 g4
    have ho := h.ok i hi
    have hr := smS_rng h v i (by omega)
    have hcl := chS_len v i
    unfold B45_9
    simp (disch := omega) only [Ret_some, Ret_none, Ret_bind, Ret_asrt, Ret_cond, Sum.elim_inl, Sum.elim_inr, decide_eq_true_eq, decide_eq_false_iff_not, Bool.not_eq_true', Bool.not_not, Bool.and_eq_true, Bool.or_eq_true, Bool.true_eq_false, Bool.false_eq_true, Bool.not_true, Bool.not_false, if_true, if_false, ite_true, ite_false, true_and, and_true, false_and, and_false, Int.toNat_natCast, toN_succ, Int.ofNat_eq_natCast, Int.ofNat_toNat, Nat.zero_add, Nat.add_zero, not_true_eq_false, not_false_eq_true, implies_true, wr64, bit1 v i hv, List.length_append, List.length_singleton]
    rw [if_pos (by omega)]
    refine ⟨by omega, ?_⟩
    rw [if_pos (by omega)]
    cases hb : bitS v i with
    | false =>
      simp only [Bool.false_eq_true, if_false]
      refine ⟨by simp [chS, hb], by simp [smS, hb], by omega, g5, fun k hk => ?_⟩
      simp only [ldS, hb, cond_false]; exact g6 k hk
    | true =>
      simp only [if_true]
      refine ⟨by omega, ?_⟩
      refine Ret.mono (L45_15_ret l a2.toNat i m g5 (by omega) (by omega) (by omega) (by omega) (fun k hk => by rw [g6 k hk]; have := ldS_nn l v i k; omega)) ?_
      rintro m2 ⟨q1, q2⟩
      refine ⟨by simp [chS, hb], by simp only [smS, hb, cond_true], by omega, q1, fun k hk => ?_⟩
      rw [q2 k hk]; simp only [ldS, hb, cond_true, g6 k hk]
  · rintro ⟨c, sm, u, m⟩ ⟨g1, g2, g4, g5, g6⟩
    simp only at g1 g2 g4 g5 g6
    subst g4
    unfold B45_9
    simp (disch := omega) only [Ret_some, Ret_none, Ret_bind, Ret_asrt, Ret_cond, Sum.elim_inl, Sum.elim_inr, decide_eq_true_eq, decide_eq_false_iff_not, Bool.not_eq_true', Bool.not_not, Bool.and_eq_true, Bool.or_eq_true, Bool.true_eq_false, Bool.false_eq_true, Bool.not_true, Bool.not_false, if_true, if_false, ite_true, ite_false, true_and, and_true, false_and, and_false, Int.toNat_natCast, toN_succ, Int.ofNat_eq_natCast, Int.ofNat_toNat, Nat.zero_add, Nat.add_zero, not_true_eq_false, not_false_eq_true, implies_true, wr64]
    rw [if_neg (by omega)]
    exact ⟨g1, g2, g5, g6⟩

theorem F100_ret (l : List Int) (h0 : 0 < l.length) (h1 : l.length < 140737488355328) : Ret (F100 l) fun r => ∀ a, r ≤ a ↔ ∀ k, k < l.length → l.getD k 0 ≤ a := by
  unfold F100
  simp (disch := omega) only [Ret_some, Ret_none, Ret_bind, Ret_asrt, Ret_cond, Sum.elim_inl, Sum.elim_inr, decide_eq_true_eq, decide_eq_false_iff_not, Bool.not_eq_true', Bool.not_not, Bool.and_eq_true, Bool.or_eq_true, Bool.true_eq_false, Bool.false_eq_true, Bool.not_true, Bool.not_false, if_true, if_false, ite_true, ite_false, true_and, and_true, false_and, and_false, Int.toNat_natCast, toN_succ, Int.ofNat_eq_natCast, Int.ofNat_toNat, Nat.zero_add, Nat.add_zero, not_true_eq_false, not_false_eq_true, implies_true, wr64]
  rw [if_neg (by omega)]
  refine ⟨by omega, ?_⟩
  unfold L100_5
  refine Ret.loop (l.length - 1) (fun i s => s.2 = (i : Int) + 1 ∧ ∀ a, s.1 ≤ a ↔ ∀ k, k < i + 1 → l.getD k 0 ≤ a) ?_ ?_ ?_
  · refine ⟨by simp, fun a => ?_⟩
    constructor
    · intro h k hk
      obtain rfl : k = 0 := by omega
      exact h
    · exact fun h => h 0 (by omega)
  · rintro i ⟨m, u⟩ hi ⟨g1, g2⟩
    simp only at g1 g2
    subst g1
    have e : ((i : Int) + 1).toNat = i + 1 := by omega
    unfold B100_5
    simp (disch := omega) only [Ret_some, Ret_none, Ret_bind, Ret_asrt, Ret_cond, Sum.elim_inl, Sum.elim_inr, decide_eq_true_eq, decide_eq_false_iff_not, Bool.not_eq_true', Bool.not_not, Bool.and_eq_true, Bool.or_eq_true, Bool.true_eq_false, Bool.false_eq_true, Bool.not_true, Bool.not_false, if_true, if_false, ite_true, ite_false, true_and, and_true, false_and, and_false, Int.toNat_natCast, toN_succ, Int.ofNat_eq_natCast, Int.ofNat_toNat, Nat.zero_add, Nat.add_zero, not_true_eq_false, not_false_eq_true, implies_true, wr64, e]
    rw [if_pos (by omega)]
    refine ⟨by omega, by omega, fun a => ?_⟩
    rw [forall_lt_succ, ← g2 a]
    omega
  · rintro ⟨m, u⟩ ⟨g1, g2⟩
    simp only at g1 g2
    subst g1
    unfold B100_5
    simp (disch := omega) only [Ret_some, Ret_none, Ret_bind, Ret_asrt, Ret_cond, Sum.elim_inl, Sum.elim_inr, decide_eq_true_eq, decide_eq_false_iff_not, Bool.not_eq_true', Bool.not_not, Bool.and_eq_true, Bool.or_eq_true, Bool.true_eq_false, Bool.false_eq_true, Bool.not_true, Bool.not_false, if_true, if_false, ite_true, ite_false, true_and, and_true, false_and, and_false, Int.toNat_natCast, toN_succ, Int.ofNat_eq_natCast, Int.ofNat_toNat, Nat.zero_add, Nat.add_zero, not_true_eq_false, not_false_eq_true, implies_true, wr64]
    rw [if_neg (by omega)]
    intro a
    have := g2 a
    rwa [show l.length - 1 + 1 = l.length by omega] at this

theorem F105_ret (a b : Int) : Ret (F105 a b) fun _ => True := by
  unfold F105 F145
  simp (disch := omega) only [Ret_some, Ret_none, Ret_bind, Ret_asrt, Ret_cond, Sum.elim_inl, Sum.elim_inr, decide_eq_true_eq, decide_eq_false_iff_not, Bool.not_eq_true', Bool.not_not, Bool.and_eq_true, Bool.or_eq_true, Bool.true_eq_false, Bool.false_eq_true, Bool.not_true, Bool.not_false, if_true, if_false, ite_true, ite_false, true_and, and_true, false_and, and_false, Int.toNat_natCast, toN_succ, Int.ofNat_eq_natCast, Int.ofNat_toNat, Nat.zero_add, Nat.add_zero, not_true_eq_false, not_false_eq_true, implies_true, wr64]
  repeat' (first | trivial | omega | split | (refine ⟨?_, ?_⟩))

theorem F61_ret (l m : List Int) (hl : l.length < 140737488355328) : Ret (F61 l m) fun _ => True := by
  unfold F61
  simp (disch := omega) only [Ret_some, Ret_none, Ret_bind, Ret_asrt, Ret_cond, Sum.elim_inl, Sum.elim_inr, decide_eq_true_eq, decide_eq_false_iff_not, Bool.not_eq_true', Bool.not_not, Bool.and_eq_true, Bool.or_eq_true, Bool.true_eq_false, Bool.false_eq_true, Bool.not_true, Bool.not_false, if_true, if_false, ite_true, ite_false, true_and, and_true, false_and, and_false, Int.toNat_natCast, toN_succ, Int.ofNat_eq_natCast, Int.ofNat_toNat, Nat.zero_add, Nat.add_zero, not_true_eq_false, not_false_eq_true, implies_true, wr64]
  refine Ret.mono (Q := fun _ => True) ?_ ?_
  · unfold L61_2
    refine Ret.loop l.length (fun i s => s = (i : Int)) rfl ?_ ?_
    · rintro i s hi rfl
      unfold B61_2
      simp (disch := omega) only [Ret_some, Ret_none, Ret_bind, Ret_asrt, Ret_cond, Sum.elim_inl, Sum.elim_inr, decide_eq_true_eq, decide_eq_false_iff_not, Bool.not_eq_true', Bool.not_not, Bool.and_eq_true, Bool.or_eq_true, Bool.true_eq_false, Bool.false_eq_true, Bool.not_true, Bool.not_false, if_true, if_false, ite_true, ite_false, true_and, and_true, false_and, and_false, Int.toNat_natCast, toN_succ, Int.ofNat_eq_natCast, Int.ofNat_toNat, Nat.zero_add, Nat.add_zero, not_true_eq_false, not_false_eq_true, implies_true, wr64]
      rw [if_pos (by omega)]
      refine ⟨by omega, ?_⟩
      split
      · trivial
      · refine ⟨by omega, ?_⟩
        refine Ret.mono (F105_ret _ _) fun r _ => ?_
        repeat' (first | trivial | omega | split | (refine ⟨?_, ?_⟩))
    · rintro s rfl
      unfold B61_2
      simp (disch := omega) only [Ret_some, Ret_none, Ret_bind, Ret_asrt, Ret_cond, Sum.elim_inl, Sum.elim_inr, decide_eq_true_eq, decide_eq_false_iff_not, Bool.not_eq_true', Bool.not_not, Bool.and_eq_true, Bool.or_eq_true, Bool.true_eq_false, Bool.false_eq_true, Bool.not_true, Bool.not_false, if_true, if_false, ite_true, ite_false, true_and, and_true, false_and, and_false, Int.toNat_natCast, toN_succ, Int.ofNat_eq_natCast, Int.ofNat_toNat, Nat.zero_add, Nat.add_zero, not_true_eq_false, not_false_eq_true, implies_true, wr64]
      rw [if_neg (by omega)]
      trivial
  · rintro (⟨⟩ | r) _
    · simp (disch := omega) only [Ret_some, Ret_none, Ret_bind, Ret_asrt, Ret_cond, Sum.elim_inl, Sum.elim_inr, decide_eq_true_eq, decide_eq_false_iff_not, Bool.not_eq_true', Bool.not_not, Bool.and_eq_true, Bool.or_eq_true, Bool.true_eq_false, Bool.false_eq_true, Bool.not_true, Bool.not_false, if_true, if_false, ite_true, ite_false, true_and, and_true, false_and, and_false, Int.toNat_natCast, toN_succ, Int.ofNat_eq_natCast, Int.ofNat_toNat, Nat.zero_add, Nat.add_zero, not_true_eq_false, not_false_eq_true, implies_true, wr64]
      repeat' (first | trivial | omega | split | (refine ⟨?_, ?_⟩))
    · simp (disch := omega) only [Ret_some, Ret_none, Ret_bind, Ret_asrt, Ret_cond, Sum.elim_inl, Sum.elim_inr, decide_eq_true_eq, decide_eq_false_iff_not, Bool.not_eq_true', Bool.not_not, Bool.and_eq_true, Bool.or_eq_true, Bool.true_eq_false, Bool.false_eq_true, Bool.not_true, Bool.not_false, if_true, if_false, ite_true, ite_false, true_and, and_true, false_and, and_false, Int.toNat_natCast, toN_succ, Int.ofNat_eq_natCast, Int.ofNat_toNat, Nat.zero_add, Nat.add_zero, not_true_eq_false, not_false_eq_true, implies_true, wr64]

/-! ### all sets -/

noncomputable def cmpS (l m : List Int) : Int := (F61 l m).getD 0

theorem F61_cmp (l m : List Int) (hl : l.length < 140737488355328) : F61 l m = some (cmpS l m) := by
  obtain ⟨o, h, _⟩ := F61_ret l m hl
  unfold cmpS
  rw [h]; rfl

def fitB (l : List TOffer) (a1 : Int) (s : Nat) : Bool := (List.range 12).all fun k => decide (ldS l s l.length k ≤ a1)

theorem fitB_iff (l : List TOffer) (a1 : Int) (s : Nat) : fitB l a1 s = true ↔ ∀ k, k < 12 → ldS l s l.length k ≤ a1 := by
  unfold fitB
  simp [List.all_eq_true, List.mem_range]

noncomputable def betB (l : List TOffer) (a1 : Int) (s : Nat) (b : List Int × Int) : Bool := fitB l a1 s && (decide (b.2 < smS l s l.length) || (decide (smS l s l.length = b.2) && (decide (0 < smS l s l.length) && decide (cmpS (chS s l.length) b.1 < 0))))

noncomputable def bestS (l : List TOffer) (a1 : Int) : Nat → List Int × Int
  | 0 => ([], 0)
  | s + 1 => bif betB l a1 s (bestS l a1 s) then (chS s l.length, smS l s l.length) else bestS l a1 s

theorem bestS_rng {l : List TOffer} {a1 a2 : Int} (h : Good l a1 a2) : ∀ s, 0 ≤ (bestS l a1 s).2 ∧ (bestS l a1 s).1.length ≤ 12
  | 0 => by simp [bestS]
  | s + 1 => by
    have := bestS_rng h s
    have h1 := smS_rng h s l.length (Nat.le_refl _)
    have h2 := chS_len s l.length
    have h3 := h.len
    unfold bestS
    cases betB l a1 s (bestS l a1 s) with
    | true => exact ⟨h1.1, by simp only [cond_true]; omega⟩
    | false => exact this

theorem best_zero {l : List TOffer} {a1 a2 : Int} (h : Good l a1 a2) : chS 0 l.length = [] ∧ smS l 0 l.length = 0 ∧ (∀ k, ldS l 0 l.length k = 0) ∧ bestS l a1 1 = ([], 0) := by
  have := (smS_rng h 0 l.length (Nat.le_refl _)).2.2.2 (fun j hj => by simp [bitS])
  refine ⟨this.2.1, this.1, this.2.2, ?_⟩
  unfold bestS betB
  rw [this.1]
  simp [bestS]

theorem sm_pos {l : List TOffer} {a1 a2 : Int} (h : Good l a1 a2) {v : Nat} (h0 : 0 < v) (hv : v < 2 ^ l.length) : 0 < smS l v l.length := by
  refine (smS_rng h v l.length (Nat.le_refl _)).2.2.1 ?_
  refine Classical.byContradiction fun hn => ?_
  have := bits_zero l.length v hv fun i hi => by
    cases hb : bitS v i with
    | false => rfl
    | true => exact absurd ⟨i, hi, hb⟩ hn
  omega

theorem pow12 {n : Nat} (h : n ≤ 12) : 2 ^ n ≤ 4096 := Nat.le_trans (Nat.pow_le_pow_right (by omega) h) (by decide)

theorem L43_7_ret {l : List TOffer} {a1 a2 : Int} (h : Good l a1 a2) : L43_7 l a1 (-1, [], 0) = some ((bestS l a1 (2 ^ l.length)).2, (bestS l a1 (2 ^ l.length)).1) := by
  have hl := h.len
  have hs1 := h.seats
  have hp := pow12 hl
  have hp0 : 0 < 2 ^ l.length := Nat.pow_pos (by omega)
  refine Ret.eq ?_
  unfold L43_7
  refine Ret.loop (2 ^ l.length) (fun s x => x.2.2 = (s : Int) ∧ ((s = 0 ∧ x.1 = -1 ∧ x.2.1 = []) ∨ (0 < s ∧ x.1 = (bestS l a1 s).2 ∧ x.2.1 = (bestS l a1 s).1))) ⟨rfl, .inl ⟨rfl, rfl, rfl⟩⟩ ?_ ?_
  · rintro s ⟨m, b, u⟩ hs ⟨g1, g2⟩
    simp only at g1 g2
    subst g1
    have hsl := shl1 l.length (by omega)
    have hcl := chS_len s l.length
    have hr := smS_rng h s l.length (Nat.le_refl _)
    unfold B43_7
    simp (disch := omega) only [Ret_some, Ret_none, Ret_bind, Ret_asrt, Ret_cond, Sum.elim_inl, Sum.elim_inr, decide_eq_true_eq, decide_eq_false_iff_not, Bool.not_eq_true', Bool.not_not, Bool.and_eq_true, Bool.or_eq_true, Bool.true_eq_false, Bool.false_eq_true, Bool.not_true, Bool.not_false, if_true, if_false, ite_true, ite_false, true_and, and_true, false_and, and_false, Int.toNat_natCast, toN_succ, Int.ofNat_eq_natCast, Int.ofNat_toNat, Nat.zero_add, Nat.add_zero, not_true_eq_false, not_false_eq_true, implies_true, wr64, hsl]
    rw [if_pos (by omega)]
    refine Ret.mono (L43_13_ret h s (by omega)) ?_
    rintro ⟨c, sm, ft, us⟩ ⟨q1, q2, q3, q4⟩
    simp only at q1 q2 q3 q4
    subst q1 q2
    simp (disch := omega) only [Ret_some, Ret_none, Ret_bind, Ret_asrt, Ret_cond, Sum.elim_inl, Sum.elim_inr, decide_eq_true_eq, decide_eq_false_iff_not, Bool.not_eq_true', Bool.not_not, Bool.and_eq_true, Bool.or_eq_true, Bool.true_eq_false, Bool.false_eq_true, Bool.not_true, Bool.not_false, if_true, if_false, ite_true, ite_false, true_and, and_true, false_and, and_false, Int.toNat_natCast, toN_succ, Int.ofNat_eq_natCast, Int.ofNat_toNat, Nat.zero_add, Nat.add_zero, not_true_eq_false, not_false_eq_true, implies_true, wr64, F61_cmp (chS s l.length) _ (show (chS s l.length).length < 140737488355328 by omega)]
    refine ⟨by omega, ?_⟩
    rcases g2 with ⟨rfl, rfl, rfl⟩ | ⟨g0, rfl, rfl⟩
    · obtain ⟨z1, z2, z3, z4⟩ := best_zero h
      have hft : ft = true := q3.2 fun k hk => by rw [z3]; omega
      rw [if_pos hft, z1, z2, if_pos (by omega)]
      exact ⟨by omega, .inr ⟨by omega, by rw [z4], by rw [z4]⟩⟩
    · have hpos := sm_pos h g0 hs
      have hfit : fitB l a1 s = ft := by
        have := fitB_iff l a1 s
        rw [← q3] at this
        cases ft <;> cases hh : fitB l a1 s <;> simp_all
      by_cases c1 : ft = true
      · rw [if_pos c1]
        by_cases c2 : (bestS l a1 s).2 < smS l s l.length
        · rw [if_pos c2]
          have hb : bestS l a1 (s + 1) = (chS s l.length, smS l s l.length) := by simp [bestS, betB, hfit, c1, c2]
          exact ⟨by omega, .inr ⟨by omega, by rw [hb], by rw [hb]⟩⟩
        · rw [if_neg c2]
          by_cases c3 : smS l s l.length = (bestS l a1 s).2
          · rw [if_pos c3]
            by_cases c4 : cmpS (chS s l.length) (bestS l a1 s).1 < 0
            · rw [if_pos c4]
              have hp3 := hpos; rw [c3] at hp3
              have hb : bestS l a1 (s + 1) = (chS s l.length, smS l s l.length) := by simp [bestS, betB, hfit, c1, c2, c3, c4, hp3]
              exact ⟨by omega, .inr ⟨by omega, by rw [hb], by rw [hb]⟩⟩
            · rw [if_neg c4]
              have hp3 := hpos; rw [c3] at hp3
              have hb : bestS l a1 (s + 1) = bestS l a1 s := by simp [bestS, betB, hfit, c1, c2, c3, c4, hp3]
              exact ⟨by omega, .inr ⟨by omega, by rw [hb], by rw [hb]⟩⟩
          · rw [if_neg c3]
            have hb : bestS l a1 (s + 1) = bestS l a1 s := by simp [bestS, betB, hfit, c1, c2, c3]
            exact ⟨by omega, .inr ⟨by omega, by rw [hb], by rw [hb]⟩⟩
      · rw [if_neg c1]
        have hb : bestS l a1 (s + 1) = bestS l a1 s := by simp [bestS, betB, hfit, c1]
        exact ⟨by omega, .inr ⟨by omega, by rw [hb], by rw [hb]⟩⟩
  · rintro ⟨m, b, u⟩ ⟨g1, g2⟩
    simp only at g1 g2
    subst g1
    unfold B43_7
    simp (disch := omega) only [Ret_some, Ret_none, Ret_bind, Ret_asrt, Ret_cond, Sum.elim_inl, Sum.elim_inr, decide_eq_true_eq, decide_eq_false_iff_not, Bool.not_eq_true', Bool.not_not, Bool.and_eq_true, Bool.or_eq_true, Bool.true_eq_false, Bool.false_eq_true, Bool.not_true, Bool.not_false, if_true, if_false, ite_true, ite_false, true_and, and_true, false_and, and_false, Int.toNat_natCast, toN_succ, Int.ofNat_eq_natCast, Int.ofNat_toNat, Nat.zero_add, Nat.add_zero, not_true_eq_false, not_false_eq_true, implies_true, wr64, shl1 l.length (by omega)]
    rw [if_neg (by omega)]
    rcases g2 with ⟨g0, _⟩ | ⟨_, rfl, rfl⟩
    · omega
    · rfl

theorem L45_3_ret {l : List TOffer} {a1 a2 : Int} (h : Good l a1 a2) : L45_3 l a1 a2 ([], 0, 0) = some (bestS l a1 (2 ^ l.length)) := by
  have hl := h.len
  have hs1 := h.seats
  have hs2 := h.stops
  have hp := pow12 hl
  refine Ret.eq ?_
  unfold L45_3
  refine Ret.loop (2 ^ l.length) (fun s x => x.2.2 = (s : Int) ∧ (x.1, x.2.1) = bestS l a1 s) ⟨rfl, rfl⟩ ?_ ?_
  · rintro s ⟨b, m, u⟩ hs ⟨g1, g2⟩
    simp only at g1 g2
    subst g1
    have e1 : b = (bestS l a1 s).1 := by rw [← g2]
    have e2 : m = (bestS l a1 s).2 := by rw [← g2]
    clear g2
    have hsl := shl1 l.length (by omega)
    have hcl := chS_len s l.length
    have h47 : (2 : Int) ^ 47 = 140737488355328 := by decide
    unfold B45_3
    simp (disch := omega) only [Ret_some, Ret_none, Ret_bind, Ret_asrt, Ret_cond, Sum.elim_inl, Sum.elim_inr, decide_eq_true_eq, decide_eq_false_iff_not, Bool.not_eq_true', Bool.not_not, Bool.and_eq_true, Bool.or_eq_true, Bool.true_eq_false, Bool.false_eq_true, Bool.not_true, Bool.not_false, if_true, if_false, ite_true, ite_false, true_and, and_true, false_and, and_false, Int.toNat_natCast, toN_succ, Int.ofNat_eq_natCast, Int.ofNat_toNat, Nat.zero_add, Nat.add_zero, not_true_eq_false, not_false_eq_true, implies_true, wr64, hsl]
    rw [if_pos (by omega)]
    refine ⟨by omega, ?_⟩
    refine Ret.mono (L45_9_ret h s (by omega)) ?_
    rintro ⟨c, sm, ld⟩ ⟨q1, q2, q3, q4⟩
    simp only at q1 q2 q3 q4
    subst q1 q2
    rw [List.take_of_length_le (Nat.le_refl _)]
    simp (disch := omega) only [Ret_some, Ret_none, Ret_bind, Ret_asrt, Ret_cond, Sum.elim_inl, Sum.elim_inr, decide_eq_true_eq, decide_eq_false_iff_not, Bool.not_eq_true', Bool.not_not, Bool.and_eq_true, Bool.or_eq_true, Bool.true_eq_false, Bool.false_eq_true, Bool.not_true, Bool.not_false, if_true, if_false, ite_true, ite_false, true_and, and_true, false_and, and_false, Int.toNat_natCast, toN_succ, Int.ofNat_eq_natCast, Int.ofNat_toNat, Nat.zero_add, Nat.add_zero, not_true_eq_false, not_false_eq_true, implies_true, wr64, F61_cmp (chS s l.length) _ (show (chS s l.length).length < 140737488355328 by omega)]
    refine ⟨by omega, ?_⟩
    refine Ret.mono (F100_ret ld (by omega) (by omega)) ?_
    intro r hr
    have hft : r ≤ a1 ↔ ∀ k, k < 12 → ldS l s l.length k ≤ a1 := by
      rw [hr a1]
      constructor
      · intro q k hk
        by_cases c : k < a2.toNat
        · rw [← q4 k c]; exact q k (by omega)
        · rw [ldS_out h s l.length (Nat.le_refl _) k (by omega)]; omega
      · intro q k hk
        rw [q4 k (by omega)]
        exact q k (by omega)
    have hfit : fitB l a1 s = decide (r ≤ a1) := by
      have := fitB_iff l a1 s
      rw [← hft] at this
      cases hh : fitB l a1 s <;> simp_all
    subst e1 e2
    by_cases c1 : r ≤ a1
    · rw [if_pos c1]
      by_cases c2 : (bestS l a1 s).2 < smS l s l.length
      · rw [if_pos c2]
        have hb : bestS l a1 (s + 1) = (chS s l.length, smS l s l.length) := by simp [bestS, betB, hfit, c1, c2]
        exact ⟨by omega, hb.symm⟩
      · rw [if_neg c2]
        by_cases c3 : smS l s l.length = (bestS l a1 s).2
        · rw [if_pos c3]
          by_cases c5 : 0 < smS l s l.length
          · rw [if_pos c5]
            by_cases c4 : cmpS (chS s l.length) (bestS l a1 s).1 < 0
            · rw [if_pos c4]
              have hp3 := c5; rw [c3] at hp3
              have hb : bestS l a1 (s + 1) = (chS s l.length, smS l s l.length) := by simp [bestS, betB, hfit, c1, c2, c3, c4, hp3]
              exact ⟨by omega, hb.symm⟩
            · rw [if_neg c4]
              have hp3 := c5; rw [c3] at hp3
              have hb : bestS l a1 (s + 1) = bestS l a1 s := by simp [bestS, betB, hfit, c1, c2, c3, c4, hp3]
              exact ⟨by omega, hb.symm⟩
          · rw [if_neg c5]
            have hp3 := c5; rw [c3] at hp3
            have hb : bestS l a1 (s + 1) = bestS l a1 s := by simp [bestS, betB, hfit, c1, c2, c3, hp3]
            exact ⟨by omega, hb.symm⟩
        · rw [if_neg c3]
          have hb : bestS l a1 (s + 1) = bestS l a1 s := by simp [bestS, betB, hfit, c1, c2, c3]
          exact ⟨by omega, hb.symm⟩
    · rw [if_neg c1]
      have hb : bestS l a1 (s + 1) = bestS l a1 s := by simp [bestS, betB, hfit, c1]
      exact ⟨by omega, hb.symm⟩
  · rintro ⟨b, m, u⟩ ⟨g1, g2⟩
    simp only at g1 g2
    subst g1
    unfold B45_3
    simp (disch := omega) only [Ret_some, Ret_none, Ret_bind, Ret_asrt, Ret_cond, Sum.elim_inl, Sum.elim_inr, decide_eq_true_eq, decide_eq_false_iff_not, Bool.not_eq_true', Bool.not_not, Bool.and_eq_true, Bool.or_eq_true, Bool.true_eq_false, Bool.false_eq_true, Bool.not_true, Bool.not_false, if_true, if_false, ite_true, ite_false, true_and, and_true, false_and, and_false, Int.toNat_natCast, toN_succ, Int.ofNat_eq_natCast, Int.ofNat_toNat, Nat.zero_add, Nat.add_zero, not_true_eq_false, not_false_eq_true, implies_true, wr64, shl1 l.length (by omega)]
    rw [if_neg (by omega)]
    exact g2

theorem F25_self (l : List Int) (h : l.length ≤ 20) : F25 l l = some true := by
  have key : Ret (L25_4 l l 0) fun x => x = .inl () := by
    unfold L25_4
    refine Ret.loop l.length (fun i s => s = (i : Int)) rfl ?_ ?_
    · rintro i s hi rfl
      unfold B25_4
      simp (disch := omega) only [Ret_some, Ret_none, Ret_bind, Ret_asrt, Ret_cond, Sum.elim_inl, Sum.elim_inr, decide_eq_true_eq, decide_eq_false_iff_not, Bool.not_eq_true', Bool.not_not, Bool.and_eq_true, Bool.or_eq_true, Bool.true_eq_false, Bool.false_eq_true, Bool.not_true, Bool.not_false, if_true, if_false, ite_true, ite_false, true_and, and_true, false_and, and_false, Int.toNat_natCast, toN_succ, Int.ofNat_eq_natCast, Int.ofNat_toNat, Nat.zero_add, Nat.add_zero, not_true_eq_false, not_false_eq_true, implies_true, wr64]
      rw [if_pos (by omega)]
      refine ⟨by omega, by omega, ?_⟩
      simp
    · rintro s rfl
      unfold B25_4
      simp (disch := omega) only [Ret_some, Ret_none, Ret_bind, Ret_asrt, Ret_cond, Sum.elim_inl, Sum.elim_inr, decide_eq_true_eq, decide_eq_false_iff_not, Bool.not_eq_true', Bool.not_not, Bool.and_eq_true, Bool.or_eq_true, Bool.true_eq_false, Bool.false_eq_true, Bool.not_true, Bool.not_false, if_true, if_false, ite_true, ite_false, true_and, and_true, false_and, and_false, Int.toNat_natCast, toN_succ, Int.ofNat_eq_natCast, Int.ofNat_toNat, Nat.zero_add, Nat.add_zero, not_true_eq_false, not_false_eq_true, implies_true, wr64]
      rw [if_neg (by omega)]
      trivial
  obtain ⟨x, hx, rfl⟩ := key
  unfold F25
  simp [hx]

theorem F10_true (a0 : List TOffer) (a1 a2 : Int) : F10 a0 a1 a2 = some true := by
  obtain ⟨r, hr, hg⟩ := F44_ret a0 a1 a2
  unfold F10 F43
  rw [F99_eq, hr, F18_eq]
  simp only [Option.bind_some]
  by_cases c : r = 0
  · subst c
    have h := hg rfl
    unfold F45
    rw [L43_7_ret h, L45_3_ret h]
    have := bestS_rng h (2 ^ a0.length)
    simp [F25_self _ (show (bestS a0 a1 (2 ^ a0.length)).1.length ≤ 20 by omega)]
  · simp [c]

end Go.Proofs.Ytgghnfmabphbmaa
