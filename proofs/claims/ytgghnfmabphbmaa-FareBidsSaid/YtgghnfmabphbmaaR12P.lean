/- FareBids: what its pure functions return. -/
import Derived.Test.YtgghnfmabphbmaaA22
import Derived.Test.YtgghnfmabphbmaaR12C
import Derived.Test.YtgghnfmabphbmaaA18
open Go Go.Proofs.Ytgghnfmabphbmaa.Fw
namespace Go.Proofs.Ytgghnfmabphbmaa
set_option maxRecDepth 100000
set_option linter.unusedVariables false
set_option linter.unusedSimpArgs false
/-! ### powers modulo a number -/
theorem tmod_nn {a b : Int} (ha : 0 ≤ a) : Int.tmod a b = a % b := by
  rw [Int.tmod_eq_emod_of_nonneg ha]
theorem mod_rng {a n : Int} (hn : 0 < n) : 0 ≤ a % n ∧ a % n < n := ⟨Int.emod_nonneg _ (by omega), Int.emod_lt_of_pos _ hn⟩
theorem mul_rng {a b n : Int} (ha : 0 ≤ a ∧ a < n) (hb : 0 ≤ b ∧ b < n) (hn : n ≤ 1072497001) : 0 ≤ a * b ∧ a * b < 9223372036854775808 := by
  constructor
  · exact Int.mul_nonneg ha.1 hb.1
  · have h1 : a * b ≤ 1072497001 * 1072497001 := Int.mul_le_mul (by omega) (by omega) hb.1 (by omega)
    have : (1072497001 : Int) * 1072497001 < 9223372036854775808 := by decide
    omega
def pw (a n : Int) (k : Nat) : Int := a ^ k % n
theorem mul_mod_l (a b n : Int) : (a % n * b) % n = (a * b) % n := by rw [Int.mul_emod, Int.emod_emod_of_dvd _ (Int.dvd_refl n), ← Int.mul_emod]
theorem mul_mod_r (a b n : Int) : (a * (b % n)) % n = (a * b) % n := by rw [Int.mul_emod, Int.emod_emod_of_dvd _ (Int.dvd_refl n), ← Int.mul_emod]
theorem shr1 (v : Int) : shrI .i64 v 1 = v / 2 := by
  unfold shrI
  show v.fdiv (2 ^ min (1 : Int).toNat 64) = v / 2
  rw [show (2 : Int) ^ min (1 : Int).toNat 64 = 2 from by decide]
  exact Int.fdiv_eq_ediv_of_nonneg v (by decide)
theorem and1 (v : Int) (h : 0 ≤ v) (h2 : v < 9223372036854775808) : andI .i64 v 1 = v % 2 := by
  unfold andI
  have e : (BitVec.ofInt IntKind.i64.bits v &&& BitVec.ofInt IntKind.i64.bits 1).toNat = (v % 2).toNat := by
    rw [BitVec.toNat_and]
    show (BitVec.ofInt 64 v).toNat &&& (BitVec.ofInt 64 1).toNat = _
    rw [show (BitVec.ofInt 64 1).toNat = 1 from rfl, Nat.and_one_is_mod, BitVec.toNat_ofInt]
    omega
  rw [e, wr64 (by omega) (by omega)]
  omega
theorem pw_two (x : Int) (q : Nat) : x ^ (2 * q) = (x * x) ^ q := by
  rw [Int.pow_mul]
  congr 1
  rw [Int.pow_succ, Int.pow_succ, Int.pow_zero, Int.one_mul]
theorem pw_odd (x : Int) (q : Nat) : x ^ (2 * q + 1) = (x * x) ^ q * x := by rw [Int.pow_succ, pw_two]
theorem pow_mod (x n : Int) : ∀ k : Nat, (x % n) ^ k % n = x ^ k % n
  | 0 => by rw [Int.pow_zero, Int.pow_zero]
  | k + 1 => by rw [Int.pow_succ, Int.pow_succ, mul_mod_r, Int.mul_emod, pow_mod x n k, ← Int.mul_emod]
theorem bitI (v i : Nat) (hv : v < 9223372036854775808) : andI .i64 (shrI .i64 (v : Int) (i : Int)) 1 = ((v / 2 ^ i % 2 : Nat) : Int) := by
  have e : shrI .i64 (v : Int) (i : Int) = ((v / 2 ^ min i 64 : Nat) : Int) := by
    unfold shrI
    show (v : Int).fdiv (2 ^ min (i : Int).toNat 64) = _
    rw [Int.toNat_natCast, Int.fdiv_eq_ediv_of_nonneg _ (Int.le_of_lt (Int.pow_pos (by decide))), Int.natCast_ediv, Int.natCast_pow]
    rfl
  have h2 : v / 2 ^ min i 64 = v / 2 ^ i := by
    by_cases c : i ≤ 64
    · rw [Nat.min_eq_left c]
    · have h1 : (2 : Nat) ^ 64 ≤ 2 ^ i := Nat.pow_le_pow_right (by omega) (by omega)
      have h0 : (2 : Nat) ^ 64 = 18446744073709551616 := by decide
      rw [Nat.min_eq_right (by omega), Nat.div_eq_of_lt (by omega), Nat.div_eq_of_lt (by omega)]
  rw [e, h2, and1 _ (Int.natCast_nonneg _) (by have := Nat.div_le_self v (2 ^ i); omega)]
  omega
def bitS (v i : Nat) : Bool := decide (v / 2 ^ i % 2 = 1)
theorem bit0 (v i : Nat) (hv : v < 9223372036854775808) : decide (andI .i64 (shrI .i64 (v : Int) (i : Int)) 1 = 0) = !bitS v i := by
  rw [bitI v i hv]; unfold bitS
  have : v / 2 ^ i % 2 < 2 := Nat.mod_lt _ (by omega)
  by_cases c : v / 2 ^ i % 2 = 1
  · simp [c]
  · have : v / 2 ^ i % 2 = 0 := by omega
    simp [this]
theorem bit1 (v i : Nat) (hv : v < 9223372036854775808) : decide (andI .i64 (shrI .i64 (v : Int) (i : Int)) 1 = 1) = bitS v i := by
  rw [bitI v i hv]; unfold bitS
  by_cases c : v / 2 ^ i % 2 = 1
  · simp [c]
  · simp only [c, decide_false, decide_eq_false_iff_not]; omega
theorem shl1 (n : Nat) (h : n < 63) : shlI .i64 1 (n : Int) = ((2 ^ n : Nat) : Int) := by
  have : ∀ n : Fin 63, shlI .i64 1 ((n.val : Nat) : Int) = ((2 ^ n.val : Nat) : Int) := by decide
  exact this ⟨n, h⟩
theorem bits_zero : ∀ (n v : Nat), v < 2 ^ n → (∀ i, i < n → bitS v i = false) → v = 0
  | 0, v, h, _ => by simpa using h
  | n + 1, v, h, hb => by
    have h0 := hb 0 (by omega)
    have hv : v / 2 = 0 := bits_zero n (v / 2) (by rw [Nat.pow_succ] at h; omega) fun i hi => by
      have := hb (i + 1) (by omega)
      unfold bitS at this ⊢
      rwa [Nat.pow_succ, Nat.mul_comm, ← Nat.div_div_eq_div_mul] at this
    unfold bitS at h0
    have : ¬ (v % 2 = 1) := by simpa using h0
    omega
theorem F79_eq (n a b : Int) : F79 n a b = some (decide (a ≤ n ∧ n ≤ b)) := by
  unfold F79
  by_cases h : a ≤ n <;> simp [h]
theorem F81_eq (n a b : Int) : F81 n a b = some (decide (a ≤ n ∧ n ≤ b)) := F79_eq n a b
/-! ### errors -/
theorem B99_6_eq (a0 : List TOffer) (a2 s : Int) : B99_6 a0 a2 s = B44_6 a0 a2 s := by
  unfold B99_6 B44_6 F114
  simp only [F79_eq, F81_eq, Option.bind_some]
  generalize (a0.getD s.toNat TOffer.d).from0 = f
  generalize (a0.getD s.toNat TOffer.d).to0 = t
  generalize (a0.getD s.toNat TOffer.d).value = u
  by_cases h1 : f < 0
  · have : ¬ (0 ≤ f) := by omega
    simp [h1, this]
  · have g1 : 0 ≤ f := by omega
    by_cases h2 : t ≤ f
    · have : ¬ (f < t) := by omega
      simp [h1, h2, this, g1]
    · have g2 : f < t := by omega
      by_cases h3 : a2 ≤ t
      · have : ¬ (t < a2) := by omega
        simp [h1, h2, h3, this, g1, g2]
      · have g3 : t < a2 := by omega
        simp [h1, h2, h3, g1, g2, g3]
theorem F99_eq (a0 : List TOffer) (a1 a2 : Int) : F99 a0 a1 a2 = F44 a0 a1 a2 := by
  unfold F99 F44
  have : L99_6 a0 a2 = L44_6 a0 a2 := by
    funext s
    unfold L99_6 L44_6
    exact loopW_congr (B99_6_eq a0 a2) s
  simp only [F79_eq, F81_eq, this]
structure Good (a0 : List TOffer) (a1 a2 : Int) : Prop where
  len : a0.length ≤ 12
  seats : 1 ≤ a1 ∧ a1 ≤ 12
  stops : 2 ≤ a2 ∧ a2 ≤ 12
  ok : ∀ i, i < a0.length → 0 ≤ (a0.getD i TOffer.d).from0 ∧ (a0.getD i TOffer.d).from0 < (a0.getD i TOffer.d).to0 ∧ (a0.getD i TOffer.d).to0 < a2 ∧ 1 ≤ (a0.getD i TOffer.d).value ∧ (a0.getD i TOffer.d).value ≤ 200
theorem F44_ret (a0 : List TOffer) (a1 a2 : Int) : Ret (F44 a0 a1 a2) fun r => r = 0 → Good a0 a1 a2 := by
  unfold F44
  simp (disch := omega) only [Ret_some, Ret_none, Ret_bind, Ret_asrt, Ret_cond, Sum.elim_inl, Sum.elim_inr, decide_eq_true_eq, decide_eq_false_iff_not, Bool.not_eq_true', Bool.not_not, Bool.and_eq_true, Bool.or_eq_true, Bool.true_eq_false, Bool.false_eq_true, Bool.not_true, Bool.not_false, if_true, if_false, ite_true, ite_false, true_and, and_true, false_and, and_false, Int.toNat_natCast, toN_succ, Int.ofNat_eq_natCast, Int.ofNat_toNat, Nat.zero_add, Nat.add_zero, not_true_eq_false, not_false_eq_true, implies_true, wr64, F81_eq]
  split
  · omega
  · rename_i hl
    split
    · omega
    · rename_i h1
      split
      · omega
      · rename_i h2
        refine Ret.mono (Q := fun x => match x with | .inl _ => Good a0 a1 a2 | .inr r => r ≠ 0) ?_ ?_
        · unfold L44_6
          refine Ret.loop a0.length (fun i s => s = (i : Int) ∧ ∀ j, j < i → 0 ≤ (a0.getD j TOffer.d).from0 ∧ (a0.getD j TOffer.d).from0 < (a0.getD j TOffer.d).to0 ∧ (a0.getD j TOffer.d).to0 < a2 ∧ 1 ≤ (a0.getD j TOffer.d).value ∧ (a0.getD j TOffer.d).value ≤ 200) ⟨rfl, fun j hj => by omega⟩ ?_ ?_
          · rintro i s hi ⟨rfl, hj⟩
            unfold B44_6
            simp (disch := omega) only [Ret_some, Ret_none, Ret_bind, Ret_asrt, Ret_cond, Sum.elim_inl, Sum.elim_inr, decide_eq_true_eq, decide_eq_false_iff_not, Bool.not_eq_true', Bool.not_not, Bool.and_eq_true, Bool.or_eq_true, Bool.true_eq_false, Bool.false_eq_true, Bool.not_true, Bool.not_false, if_true, if_false, ite_true, ite_false, true_and, and_true, false_and, and_false, Int.toNat_natCast, toN_succ, Int.ofNat_eq_natCast, Int.ofNat_toNat, Nat.zero_add, Nat.add_zero, not_true_eq_false, not_false_eq_true, implies_true, wr64, F81_eq]
            rw [if_pos (by omega)]
            refine ⟨by omega, ?_⟩
            split
            · simp
            · split
              · simp
              · split
                · simp
                · split
                  · simp
                  · refine ⟨by omega, fun j hj2 => ?_⟩
                    by_cases e : j = i
                    · subst e; omega
                    · exact hj j (by omega)
          · rintro s ⟨rfl, hj⟩
            unfold B44_6
            simp (disch := omega) only [Ret_some, Ret_none, Ret_bind, Ret_asrt, Ret_cond, Sum.elim_inl, Sum.elim_inr, decide_eq_true_eq, decide_eq_false_iff_not, Bool.not_eq_true', Bool.not_not, Bool.and_eq_true, Bool.or_eq_true, Bool.true_eq_false, Bool.false_eq_true, Bool.not_true, Bool.not_false, if_true, if_false, ite_true, ite_false, true_and, and_true, false_and, and_false, Int.toNat_natCast, toN_succ, Int.ofNat_eq_natCast, Int.ofNat_toNat, Nat.zero_add, Nat.add_zero, not_true_eq_false, not_false_eq_true, implies_true, wr64]
            rw [if_neg (by omega)]
            exact ⟨by omega, by omega, by omega, hj⟩
        · rintro (⟨⟩ | r) h
          · exact Ret_some.2 fun _ => h
          · exact Ret_some.2 fun hr => absurd hr h
/-! ### what a set has -/
def chS (v : Nat) : Nat → List Int
  | 0 => []
  | i + 1 => bif bitS v i then chS v i ++ [(i : Int)] else chS v i
def smS (l : List TOffer) (v : Nat) : Nat → Int
  | 0 => 0
  | i + 1 => bif bitS v i then smS l v i + (l.getD i TOffer.d).value else smS l v i
def ldS (l : List TOffer) (v : Nat) : Nat → Nat → Int
  | 0, _ => 0
  | i + 1, k => bif bitS v i then (if (l.getD i TOffer.d).from0 ≤ (k : Int) ∧ (k : Int) < (l.getD i TOffer.d).to0 then ldS l v i k + 1 else ldS l v i k) else ldS l v i k
theorem ldS_nn (l : List TOffer) (v : Nat) : ∀ i k, 0 ≤ ldS l v i k ∧ ldS l v i k ≤ (i : Int)
  | 0, k => by simp [ldS]
  | i + 1, k => by
    have := ldS_nn l v i k
    unfold ldS
    cases bitS v i with
    | false => simp only [cond_false]; omega
    | true => simp only [cond_true]; split <;> omega
theorem ldS_out {l : List TOffer} {a1 a2 : Int} (h : Good l a1 a2) (v : Nat) : ∀ i, i ≤ l.length → ∀ k : Nat, a2 ≤ (k : Int) → ldS l v i k = 0
  | 0, _, k, _ => rfl
  | i + 1, hi, k, hk => by
    have := ldS_out h v i (by omega) k hk
    have := h.ok i (by omega)
    unfold ldS
    cases bitS v i with
    | false => simpa
    | true => simp only [cond_true]; rw [if_neg (by omega)]; assumption
theorem smS_rng {l : List TOffer} {a1 a2 : Int} (h : Good l a1 a2) (v : Nat) : ∀ i, i ≤ l.length → 0 ≤ smS l v i ∧ smS l v i ≤ 200 * (i : Int) ∧ ((∃ j, j < i ∧ bitS v j = true) → 0 < smS l v i) ∧ ((∀ j, j < i → bitS v j = false) → smS l v i = 0 ∧ chS v i = [] ∧ ∀ k, ldS l v i k = 0)
  | 0, _ => by simp [smS, chS, ldS]
  | i + 1, hi => by
    obtain ⟨h1, h2, h3, h4⟩ := smS_rng h v i (by omega)
    have := h.ok i (by omega)
    unfold smS chS
    cases hb : bitS v i with
    | false =>
      simp only [cond_false]
      refine ⟨h1, by omega, ?_, ?_⟩
      · rintro ⟨j, hj, hbj⟩
        refine h3 ⟨j, ?_, hbj⟩
        by_cases e : j = i
        · subst e; rw [hb] at hbj; simp at hbj
        · omega
      · intro hj
        obtain ⟨g1, g2, g3⟩ := h4 fun j hji => hj j (by omega)
        exact ⟨g1, g2, fun k => by unfold ldS; rw [hb]; exact g3 k⟩
    | true =>
      simp only [cond_true]
      exact ⟨by omega, by omega, fun _ => by omega, fun hj => by have := hj i (by omega); rw [hb] at this; simp at this⟩
theorem chS_len (v : Nat) : ∀ i, (chS v i).length ≤ i
  | 0 => by simp [chS]
  | i + 1 => by
    have := chS_len v i
    unfold chS
    cases bitS v i <;> simp <;> omega
/-! ### the reference's loops -/
theorem L45_15_ret (l : List TOffer) (n : Nat) (i : Nat) (m : List Int) (hm : m.length = n) (h0 : 0 ≤ (l.getD i TOffer.d).from0) (h1 : (l.getD i TOffer.d).from0 < (l.getD i TOffer.d).to0) (h2 : (l.getD i TOffer.d).to0 < (n : Int)) (hn : n ≤ 12)
    (hc : ∀ k, k < n → 0 ≤ m.getD k 0 ∧ m.getD k 0 ≤ 100) :
    Ret (L45_15 l (i : Int) ((l.getD i TOffer.d).from0, m)) fun o => o.length = n ∧ ∀ k : Nat, k < n → o.getD k 0 = if (l.getD i TOffer.d).from0 ≤ (k : Int) ∧ (k : Int) < (l.getD i TOffer.d).to0 then m.getD k 0 + 1 else m.getD k 0 := by
  have ei : (i : Int).toNat = i := Int.toNat_natCast i
  unfold L45_15 B45_15
  simp only [ei]
  generalize (l.getD i TOffer.d).from0 = f at *
  generalize (l.getD i TOffer.d).to0 = t at *
  refine Ret.loop (t - f).toNat (fun j s => s.1 = f + (j : Int) ∧ s.2.length = n ∧ ∀ k : Nat, k < n → s.2.getD k 0 = if f ≤ (k : Int) ∧ (k : Int) < f + (j : Int) then m.getD k 0 + 1 else m.getD k 0) ?_ ?_ ?_
  · refine ⟨by simp, hm, fun k hk => ?_⟩
    rw [if_neg (by omega)]
  · rintro j ⟨u, q⟩ hj ⟨g1, g2, g3⟩
    simp only at g1 g2 g3
    subst g1
    have hidx : (f + (j : Int)).toNat < n := by omega
    have hval := g3 (f + (j : Int)).toNat hidx
    rw [if_neg (by omega)] at hval
    have hb := hc (f + (j : Int)).toNat hidx
    have hwr : IntKind.wrap .i64 (q.getD (f + (j : Int)).toNat 0 + 1) = q.getD (f + (j : Int)).toNat 0 + 1 := wr64 (by omega) (by omega)
    simp (disch := omega) only [Ret_some, Ret_none, Ret_bind, Ret_asrt, Ret_cond, Sum.elim_inl, Sum.elim_inr, decide_eq_true_eq, decide_eq_false_iff_not, Bool.not_eq_true', Bool.not_not, Bool.and_eq_true, Bool.or_eq_true, Bool.true_eq_false, Bool.false_eq_true, Bool.not_true, Bool.not_false, if_true, if_false, ite_true, ite_false, true_and, and_true, false_and, and_false, Int.toNat_natCast, toN_succ, Int.ofNat_eq_natCast, Int.ofNat_toNat, Nat.zero_add, Nat.add_zero, not_true_eq_false, not_false_eq_true, implies_true, wr64, hwr]
    rw [if_pos (by omega)]
    refine ⟨by omega, by omega, by omega, by simp [g2], fun k hk => ?_⟩
    rw [lgetD_set]
    by_cases e : (f + (j : Int)).toNat = k
    · rw [if_pos ⟨e, by omega⟩, if_pos (by omega), hval, e]
    · rw [if_neg (fun h => e h.1), g3 k hk]
      by_cases c : f ≤ (k : Int) ∧ (k : Int) < f + (j : Int)
      · rw [if_pos c, if_pos (by omega)]
      · rw [if_neg c, if_neg (by omega)]
  · rintro ⟨u, q⟩ ⟨g1, g2, g3⟩
    simp only at g1 g2 g3
    subst g1
    simp (disch := omega) only [Ret_some, Ret_none, Ret_bind, Ret_asrt, Ret_cond, Sum.elim_inl, Sum.elim_inr, decide_eq_true_eq, decide_eq_false_iff_not, Bool.not_eq_true', Bool.not_not, Bool.and_eq_true, Bool.or_eq_true, Bool.true_eq_false, Bool.false_eq_true, Bool.not_true, Bool.not_false, if_true, if_false, ite_true, ite_false, true_and, and_true, false_and, and_false, Int.toNat_natCast, toN_succ, Int.ofNat_eq_natCast, Int.ofNat_toNat, Nat.zero_add, Nat.add_zero, not_true_eq_false, not_false_eq_true, implies_true, wr64]
    rw [if_neg (by omega)]
    refine ⟨g2, fun k hk => ?_⟩
    rw [g3 k hk]
    have : f + (((t - f).toNat : Nat) : Int) = t := by omega
    rw [this]
theorem L45_9_ret {l : List TOffer} {a1 a2 : Int} (h : Good l a1 a2) (v : Nat) (hv : v < 9223372036854775808) :
    Ret (L45_9 l (v : Int) ([], 0, 0, List.replicate a2.toNat 0)) fun o => o.1 = chS v l.length ∧ o.2.1 = smS l v l.length ∧ o.2.2.length = a2.toNat ∧ ∀ k : Nat, k < a2.toNat → o.2.2.getD k 0 = ldS l v l.length k := by
  have hl := h.len
  have hs1 := h.seats
  have hs2 := h.stops
  unfold L45_9
  refine Ret.loop l.length (fun i s => s.1 = chS v i ∧ s.2.1 = smS l v i ∧ s.2.2.1 = (i : Int) ∧ s.2.2.2.length = a2.toNat ∧ ∀ k : Nat, k < a2.toNat → s.2.2.2.getD k 0 = ldS l v i k) ?_ ?_ ?_
  · refine ⟨rfl, rfl, rfl, by simp, fun k hk => ?_⟩
    simp only [ldS]
    exact getD_rep hk
  · rintro i ⟨c, sm, u, m⟩ hi ⟨g1, g2, g4, g5, g6⟩
    simp only at g1 g2 g4 g5 g6
    subst g1 g2 g4
    have ho := h.ok i hi
    have hr := smS_rng h v i (by omega)
    have hcl := chS_len v i
    unfold B45_9
    simp (disch := omega) only [Ret_some, Ret_none, Ret_bind, Ret_asrt, Ret_cond, Sum.elim_inl, Sum.elim_inr, decide_eq_true_eq, decide_eq_false_iff_not, Bool.not_eq_true', Bool.not_not, Bool.and_eq_true, Bool.or_eq_true, Bool.true_eq_false, Bool.false_eq_true, Bool.not_true, Bool.not_false, if_true, if_false, ite_true, ite_false, true_and, and_true, false_and, and_false, Int.toNat_natCast, toN_succ, Int.ofNat_eq_natCast, Int.ofNat_toNat, Nat.zero_add, Nat.add_zero, not_true_eq_false, not_false_eq_true, implies_true, wr64, bit1 v i hv, List.length_append, List.length_singleton]
    rw [if_pos (by omega)]
    refine ⟨by omega, ?_⟩
    rw [if_pos (by omega)]
    cases hb : bitS v i with
    | false =>
      simp only [Bool.false_eq_true, if_false]
      refine ⟨by simp [chS, hb], by simp [smS, hb], by omega, g5, fun k hk => ?_⟩
      simp only [ldS, hb, cond_false]; exact g6 k hk
    | true =>
      simp only [if_true]
      refine ⟨by omega, ?_⟩
      refine Ret.mono (L45_15_ret l a2.toNat i m g5 (by omega) (by omega) (by omega) (by omega) (fun k hk => by rw [g6 k hk]; have := ldS_nn l v i k; omega)) ?_
      rintro m2 ⟨q1, q2⟩
      refine ⟨by simp [chS, hb], by simp only [smS, hb, cond_true], by omega, q1, fun k hk => ?_⟩
      rw [q2 k hk]; simp only [ldS, hb, cond_true, g6 k hk]
  · rintro ⟨c, sm, u, m⟩ ⟨g1, g2, g4, g5, g6⟩
    simp only at g1 g2 g4 g5 g6
    subst g4
    unfold B45_9
    simp (disch := omega) only [Ret_some, Ret_none, Ret_bind, Ret_asrt, Ret_cond, Sum.elim_inl, Sum.elim_inr, decide_eq_true_eq, decide_eq_false_iff_not, Bool.not_eq_true', Bool.not_not, Bool.and_eq_true, Bool.or_eq_true, Bool.true_eq_false, Bool.false_eq_true, Bool.not_true, Bool.not_false, if_true, if_false, ite_true, ite_false, true_and, and_true, false_and, and_false, Int.toNat_natCast, toN_succ, Int.ofNat_eq_natCast, Int.ofNat_toNat, Nat.zero_add, Nat.add_zero, not_true_eq_false, not_false_eq_true, implies_true, wr64]
    rw [if_neg (by omega)]
    exact ⟨g1, g2, g5, g6⟩
theorem F100_ret (l : List Int) (h0 : 0 < l.length) (h1 : l.length < 140737488355328) : Ret (F100 l) fun r => ∀ a, r ≤ a ↔ ∀ k, k < l.length → l.getD k 0 ≤ a := by
  unfold F100
  simp (disch := omega) only [Ret_some, Ret_none, Ret_bind, Ret_asrt, Ret_cond, Sum.elim_inl, Sum.elim_inr, decide_eq_true_eq, decide_eq_false_iff_not, Bool.not_eq_true', Bool.not_not, Bool.and_eq_true, Bool.or_eq_true, Bool.true_eq_false, Bool.false_eq_true, Bool.not_true, Bool.not_false, if_true, if_false, ite_true, ite_false, true_and, and_true, false_and, and_false, Int.toNat_natCast, toN_succ, Int.ofNat_eq_natCast, Int.ofNat_toNat, Nat.zero_add, Nat.add_zero, not_true_eq_false, not_false_eq_true, implies_true, wr64]
  rw [if_neg (by omega)]
  refine ⟨by omega, ?_⟩
  unfold L100_5
  refine Ret.loop (l.length - 1) (fun i s => s.2 = (i : Int) + 1 ∧ ∀ a, s.1 ≤ a ↔ ∀ k, k < i + 1 → l.getD k 0 ≤ a) ?_ ?_ ?_
  · refine ⟨by simp, fun a => ?_⟩
    constructor
    · intro h k hk
      obtain rfl : k = 0 := by omega
      exact h
    · exact fun h => h 0 (by omega)
  · rintro i ⟨m, u⟩ hi ⟨g1, g2⟩
    simp only at g1 g2
    subst g1
    have e : ((i : Int) + 1).toNat = i + 1 := by omega
    unfold B100_5
    simp (disch := omega) only [Ret_some, Ret_none, Ret_bind, Ret_asrt, Ret_cond, Sum.elim_inl, Sum.elim_inr, decide_eq_true_eq, decide_eq_false_iff_not, Bool.not_eq_true', Bool.not_not, Bool.and_eq_true, Bool.or_eq_true, Bool.true_eq_false, Bool.false_eq_true, Bool.not_true, Bool.not_false, if_true, if_false, ite_true, ite_false, true_and, and_true, false_and, and_false, Int.toNat_natCast, toN_succ, Int.ofNat_eq_natCast, Int.ofNat_toNat, Nat.zero_add, Nat.add_zero, not_true_eq_false, not_false_eq_true, implies_true, wr64, e]
    rw [if_pos (by omega)]
    refine ⟨by omega, by omega, fun a => ?_⟩
    rw [forall_lt_succ, ← g2 a]
    omega
  · rintro ⟨m, u⟩ ⟨g1, g2⟩
    simp only at g1 g2
    subst g1
    unfold B100_5
    simp (disch := omega) only [Ret_some, Ret_none, Ret_bind, Ret_asrt, Ret_cond, Sum.elim_inl, Sum.elim_inr, decide_eq_true_eq, decide_eq_false_iff_not, Bool.not_eq_true', Bool.not_not, Bool.and_eq_true, Bool.or_eq_true, Bool.true_eq_false, Bool.false_eq_true, Bool.not_true, Bool.not_false, if_true, if_false, ite_true, ite_false, true_and, and_true, false_and, and_false, Int.toNat_natCast, toN_succ, Int.ofNat_eq_natCast, Int.ofNat_toNat, Nat.zero_add, Nat.add_zero, not_true_eq_false, not_false_eq_true, implies_true, wr64]
    rw [if_neg (by omega)]
    intro a
    have := g2 a
    rwa [show l.length - 1 + 1 = l.length by omega] at this
theorem F105_ret (a b : Int) : Ret (F105 a b) fun _ => True := by
  unfold F105 F145
  simp (disch := omega) only [Ret_some, Ret_none, Ret_bind, Ret_asrt, Ret_cond, Sum.elim_inl, Sum.elim_inr, decide_eq_true_eq, decide_eq_false_iff_not, Bool.not_eq_true', Bool.not_not, Bool.and_eq_true, Bool.or_eq_true, Bool.true_eq_false, Bool.false_eq_true, Bool.not_true, Bool.not_false, if_true, if_false, ite_true, ite_false, true_and, and_true, false_and, and_false, Int.toNat_natCast, toN_succ, Int.ofNat_eq_natCast, Int.ofNat_toNat, Nat.zero_add, Nat.add_zero, not_true_eq_false, not_false_eq_true, implies_true, wr64]
  repeat' (first | trivial | omega | split | (refine ⟨?_, ?_⟩))
theorem F61_ret (l m : List Int) (hl : l.length < 140737488355328) : Ret (F61 l m) fun _ => True := by
  unfold F61
  simp (disch := omega) only [Ret_some, Ret_none, Ret_bind, Ret_asrt, Ret_cond, Sum.elim_inl, Sum.elim_inr, decide_eq_true_eq, decide_eq_false_iff_not, Bool.not_eq_true', Bool.not_not, Bool.and_eq_true, Bool.or_eq_true, Bool.true_eq_false, Bool.false_eq_true, Bool.not_true, Bool.not_false, if_true, if_false, ite_true, ite_false, true_and, and_true, false_and, and_false, Int.toNat_natCast, toN_succ, Int.ofNat_eq_natCast, Int.ofNat_toNat, Nat.zero_add, Nat.add_zero, not_true_eq_false, not_false_eq_true, implies_true, wr64]
  refine Ret.mono (Q := fun _ => True) ?_ ?_
  · unfold L61_2
    refine Ret.loop l.length (fun i s => s = (i : Int)) rfl ?_ ?_
    · rintro i s hi rfl
      unfold B61_2
      simp (disch := omega) only [Ret_some, Ret_none, Ret_bind, Ret_asrt, Ret_cond, Sum.elim_inl, Sum.elim_inr, decide_eq_true_eq, decide_eq_false_iff_not, Bool.not_eq_true', Bool.not_not, Bool.and_eq_true, Bool.or_eq_true, Bool.true_eq_false, Bool.false_eq_true, Bool.not_true, Bool.not_false, if_true, if_false, ite_true, ite_false, true_and, and_true, false_and, and_false, Int.toNat_natCast, toN_succ, Int.ofNat_eq_natCast, Int.ofNat_toNat, Nat.zero_add, Nat.add_zero, not_true_eq_false, not_false_eq_true, implies_true, wr64]
      rw [if_pos (by omega)]
      refine ⟨by omega, ?_⟩
      split
      · trivial
      · refine ⟨by omega, ?_⟩
        refine Ret.mono (F105_ret _ _) fun r _ => ?_
        repeat' (first | trivial | omega | split | (refine ⟨?_, ?_⟩))
    · rintro s rfl
      unfold B61_2
      simp (disch := omega) only [Ret_some, Ret_none, Ret_bind, Ret_asrt, Ret_cond, Sum.elim_inl, Sum.elim_inr, decide_eq_true_eq, decide_eq_false_iff_not, Bool.not_eq_true', Bool.not_not, Bool.and_eq_true, Bool.or_eq_true, Bool.true_eq_false, Bool.false_eq_true, Bool.not_true, Bool.not_false, if_true, if_false, ite_true, ite_false, true_and, and_true, false_and, and_false, Int.toNat_natCast, toN_succ, Int.ofNat_eq_natCast, Int.ofNat_toNat, Nat.zero_add, Nat.add_zero, not_true_eq_false, not_false_eq_true, implies_true, wr64]
      rw [if_neg (by omega)]
      trivial
  · rintro (⟨⟩ | r) _
    · simp (disch := omega) only [Ret_some, Ret_none, Ret_bind, Ret_asrt, Ret_cond, Sum.elim_inl, Sum.elim_inr, decide_eq_true_eq, decide_eq_false_iff_not, Bool.not_eq_true', Bool.not_not, Bool.and_eq_true, Bool.or_eq_true, Bool.true_eq_false, Bool.false_eq_true, Bool.not_true, Bool.not_false, if_true, if_false, ite_true, ite_false, true_and, and_true, false_and, and_false, Int.toNat_natCast, toN_succ, Int.ofNat_eq_natCast, Int.ofNat_toNat, Nat.zero_add, Nat.add_zero, not_true_eq_false, not_false_eq_true, implies_true, wr64]
      repeat' (first | trivial | omega | split | (refine ⟨?_, ?_⟩))
    · simp (disch := omega) only [Ret_some, Ret_none, Ret_bind, Ret_asrt, Ret_cond, Sum.elim_inl, Sum.elim_inr, decide_eq_true_eq, decide_eq_false_iff_not, Bool.not_eq_true', Bool.not_not, Bool.and_eq_true, Bool.or_eq_true, Bool.true_eq_false, Bool.false_eq_true, Bool.not_true, Bool.not_false, if_true, if_false, ite_true, ite_false, true_and, and_true, false_and, and_false, Int.toNat_natCast, toN_succ, Int.ofNat_eq_natCast, Int.ofNat_toNat, Nat.zero_add, Nat.add_zero, not_true_eq_false, not_false_eq_true, implies_true, wr64]
/-! ### all sets -/
noncomputable def cmpS (l m : List Int) : Int := (F61 l m).getD 0
theorem F61_cmp (l m : List Int) (hl : l.length < 140737488355328) : F61 l m = some (cmpS l m) := by
  obtain ⟨o, h, _⟩ := F61_ret l m hl
  unfold cmpS
  rw [h]; rfl
def fitB (l : List TOffer) (a1 : Int) (s : Nat) : Bool := (List.range 12).all fun k => decide (ldS l s l.length k ≤ a1)
theorem fitB_iff (l : List TOffer) (a1 : Int) (s : Nat) : fitB l a1 s = true ↔ ∀ k, k < 12 → ldS l s l.length k ≤ a1 := by
  unfold fitB
  simp [List.all_eq_true, List.mem_range]
noncomputable def betB (l : List TOffer) (a1 : Int) (s : Nat) (b : List Int × Int) : Bool := fitB l a1 s && (decide (b.2 < smS l s l.length) || (decide (smS l s l.length = b.2) && (decide (0 < smS l s l.length) && decide (cmpS (chS s l.length) b.1 < 0))))
noncomputable def bestS (l : List TOffer) (a1 : Int) : Nat → List Int × Int
  | 0 => ([], 0)
  | s + 1 => bif betB l a1 s (bestS l a1 s) then (chS s l.length, smS l s l.length) else bestS l a1 s
theorem bestS_rng {l : List TOffer} {a1 a2 : Int} (h : Good l a1 a2) : ∀ s, 0 ≤ (bestS l a1 s).2 ∧ (bestS l a1 s).1.length ≤ 12
  | 0 => by simp [bestS]
  | s + 1 => by
    have := bestS_rng h s
    have h1 := smS_rng h s l.length (Nat.le_refl _)
    have h2 := chS_len s l.length
    have h3 := h.len
    unfold bestS
    cases betB l a1 s (bestS l a1 s) with
    | true => exact ⟨h1.1, by simp only [cond_true]; omega⟩
    | false => exact this
theorem best_zero {l : List TOffer} {a1 a2 : Int} (h : Good l a1 a2) : chS 0 l.length = [] ∧ smS l 0 l.length = 0 ∧ (∀ k, ldS l 0 l.length k = 0) ∧ bestS l a1 1 = ([], 0) := by
  have := (smS_rng h 0 l.length (Nat.le_refl _)).2.2.2 (fun j hj => by simp [bitS])
  refine ⟨this.2.1, this.1, this.2.2, ?_⟩
  unfold bestS betB
  rw [this.1]
  simp [bestS]
theorem sm_pos {l : List TOffer} {a1 a2 : Int} (h : Good l a1 a2) {v : Nat} (h0 : 0 < v) (hv : v < 2 ^ l.length) : 0 < smS l v l.length := by
  refine (smS_rng h v l.length (Nat.le_refl _)).2.2.1 ?_
  refine Classical.byContradiction fun hn => ?_
  have := bits_zero l.length v hv fun i hi => by
    cases hb : bitS v i with
    | false => rfl
    | true => exact absurd ⟨i, hi, hb⟩ hn
  omega
theorem pow12 {n : Nat} (h : n ≤ 12) : 2 ^ n ≤ 4096 := Nat.le_trans (Nat.pow_le_pow_right (by omega) h) (by decide)
theorem L45_3_ret {l : List TOffer} {a1 a2 : Int} (h : Good l a1 a2) : L45_3 l a1 a2 ([], 0, 0) = some (bestS l a1 (2 ^ l.length)) := by
  have hl := h.len
  have hs1 := h.seats
  have hs2 := h.stops
  have hp := pow12 hl
  refine Ret.eq ?_
  unfold L45_3
  refine Ret.loop (2 ^ l.length) (fun s x => x.2.2 = (s : Int) ∧ (x.1, x.2.1) = bestS l a1 s) ⟨rfl, rfl⟩ ?_ ?_
  · rintro s ⟨b, m, u⟩ hs ⟨g1, g2⟩
    simp only at g1 g2
    subst g1
    have e1 : b = (bestS l a1 s).1 := by rw [← g2]
    have e2 : m = (bestS l a1 s).2 := by rw [← g2]
    clear g2
    have hsl := shl1 l.length (by omega)
    have hcl := chS_len s l.length
    have h47 : (2 : Int) ^ 47 = 140737488355328 := by decide
    unfold B45_3
    simp (disch := omega) only [Ret_some, Ret_none, Ret_bind, Ret_asrt, Ret_cond, Sum.elim_inl, Sum.elim_inr, decide_eq_true_eq, decide_eq_false_iff_not, Bool.not_eq_true', Bool.not_not, Bool.and_eq_true, Bool.or_eq_true, Bool.true_eq_false, Bool.false_eq_true, Bool.not_true, Bool.not_false, if_true, if_false, ite_true, ite_false, true_and, and_true, false_and, and_false, Int.toNat_natCast, toN_succ, Int.ofNat_eq_natCast, Int.ofNat_toNat, Nat.zero_add, Nat.add_zero, not_true_eq_false, not_false_eq_true, implies_true, wr64, hsl]
    rw [if_pos (by omega)]
    refine ⟨by omega, ?_⟩
    refine Ret.mono (L45_9_ret h s (by omega)) ?_
    rintro ⟨c, sm, ld⟩ ⟨q1, q2, q3, q4⟩
    simp only at q1 q2 q3 q4
    subst q1 q2
    rw [List.take_of_length_le (Nat.le_refl _)]
    simp (disch := omega) only [Ret_some, Ret_none, Ret_bind, Ret_asrt, Ret_cond, Sum.elim_inl, Sum.elim_inr, decide_eq_true_eq, decide_eq_false_iff_not, Bool.not_eq_true', Bool.not_not, Bool.and_eq_true, Bool.or_eq_true, Bool.true_eq_false, Bool.false_eq_true, Bool.not_true, Bool.not_false, if_true, if_false, ite_true, ite_false, true_and, and_true, false_and, and_false, Int.toNat_natCast, toN_succ, Int.ofNat_eq_natCast, Int.ofNat_toNat, Nat.zero_add, Nat.add_zero, not_true_eq_false, not_false_eq_true, implies_true, wr64, F61_cmp (chS s l.length) _ (show (chS s l.length).length < 140737488355328 by omega)]
    refine ⟨by omega, ?_⟩
    refine Ret.mono (F100_ret ld (by omega) (by omega)) ?_
    intro r hr
    have hft : r ≤ a1 ↔ ∀ k, k < 12 → ldS l s l.length k ≤ a1 := by
      rw [hr a1]
      constructor
      · intro q k hk
        by_cases c : k < a2.toNat
        · rw [← q4 k c]; exact q k (by omega)
        · rw [ldS_out h s l.length (Nat.le_refl _) k (by omega)]; omega
      · intro q k hk
        rw [q4 k (by omega)]
        exact q k (by omega)
    have hfit : fitB l a1 s = decide (r ≤ a1) := by
      have := fitB_iff l a1 s
      rw [← hft] at this
      cases hh : fitB l a1 s <;> simp_all
    subst e1 e2
    by_cases c1 : r ≤ a1
    · rw [if_pos c1]
      by_cases c2 : (bestS l a1 s).2 < smS l s l.length
      · rw [if_pos c2]
        have hb : bestS l a1 (s + 1) = (chS s l.length, smS l s l.length) := by simp [bestS, betB, hfit, c1, c2]
        exact ⟨by omega, hb.symm⟩
      · rw [if_neg c2]
        by_cases c3 : smS l s l.length = (bestS l a1 s).2
        · rw [if_pos c3]
          by_cases c5 : 0 < smS l s l.length
          · rw [if_pos c5]
            by_cases c4 : cmpS (chS s l.length) (bestS l a1 s).1 < 0
            · rw [if_pos c4]
              have hp3 := c5; rw [c3] at hp3
              have hb : bestS l a1 (s + 1) = (chS s l.length, smS l s l.length) := by simp [bestS, betB, hfit, c1, c2, c3, c4, hp3]
              exact ⟨by omega, hb.symm⟩
            · rw [if_neg c4]
              have hp3 := c5; rw [c3] at hp3
              have hb : bestS l a1 (s + 1) = bestS l a1 s := by simp [bestS, betB, hfit, c1, c2, c3, c4, hp3]
              exact ⟨by omega, hb.symm⟩
          · rw [if_neg c5]
            have hp3 := c5; rw [c3] at hp3
            have hb : bestS l a1 (s + 1) = bestS l a1 s := by simp [bestS, betB, hfit, c1, c2, c3, hp3]
            exact ⟨by omega, hb.symm⟩
        · rw [if_neg c3]
          have hb : bestS l a1 (s + 1) = bestS l a1 s := by simp [bestS, betB, hfit, c1, c2, c3]
          exact ⟨by omega, hb.symm⟩
    · rw [if_neg c1]
      have hb : bestS l a1 (s + 1) = bestS l a1 s := by simp [bestS, betB, hfit, c1]
      exact ⟨by omega, hb.symm⟩
  · rintro ⟨b, m, u⟩ ⟨g1, g2⟩
    simp only at g1 g2
    subst g1
    unfold B45_3
    simp (disch := omega) only [Ret_some, Ret_none, Ret_bind, Ret_asrt, Ret_cond, Sum.elim_inl, Sum.elim_inr, decide_eq_true_eq, decide_eq_false_iff_not, Bool.not_eq_true', Bool.not_not, Bool.and_eq_true, Bool.or_eq_true, Bool.true_eq_false, Bool.false_eq_true, Bool.not_true, Bool.not_false, if_true, if_false, ite_true, ite_false, true_and, and_true, false_and, and_false, Int.toNat_natCast, toN_succ, Int.ofNat_eq_natCast, Int.ofNat_toNat, Nat.zero_add, Nat.add_zero, not_true_eq_false, not_false_eq_true, implies_true, wr64, shl1 l.length (by omega)]
    rw [if_neg (by omega)]
    exact g2
/-! ### circulations: where no set of places is cut off, there is one -/
structure Ed where
  a : Nat
  b : Nat
  l : Int
  u : Int
def Ed.c (e : Ed) (X : Nat → Bool) : Int := (bif !X e.a && X e.b then e.u else 0) - (bif X e.a && !X e.b then e.l else 0)
def dX : List Ed → (Nat → Bool) → Int
  | [], _ => 0
  | e :: E, X => e.c X + dX E X
theorem dX_app (X : Nat → Bool) : ∀ E F : List Ed, dX (E ++ F) X = dX E X + dX F X
  | [], F => by simp [dX]
  | e :: E, F => by
    simp only [List.cons_append, dX, dX_app X E F]
    omega
inductive Tgt : List Ed → List Ed → Prop
  | nil : Tgt [] []
  | cons {e e' : Ed} {E E' : List Ed} (ha : e'.a = e.a) (hb : e'.b = e.b) (hl : e.l ≤ e'.l) (hu : e'.u ≤ e.u) (h : Tgt E E') : Tgt (e :: E) (e' :: E')
theorem Tgt.refl : ∀ E, Tgt E E
  | [] => .nil
  | _ :: E => .cons rfl rfl (Int.le_refl _) (Int.le_refl _) (Tgt.refl E)
theorem Tgt.trans {E F G : List Ed} (h : Tgt E F) (k : Tgt F G) : Tgt E G := by
  induction h generalizing G with
  | nil => exact k
  | cons ha hb hl hu _ ih =>
    cases k with
    | cons ha' hb' hl' hu' k => exact .cons (ha'.trans ha) (hb'.trans hb) (Int.le_trans hl hl') (Int.le_trans hu' hu) (ih k)
theorem Tgt.mid {e e' : Ed} (ha : e'.a = e.a) (hb : e'.b = e.b) (hl : e.l ≤ e'.l) (hu : e'.u ≤ e.u) (F : List Ed) : ∀ E, Tgt (E ++ e :: F) (E ++ e' :: F)
  | [] => .cons ha hb hl hu (Tgt.refl F)
  | _ :: E => .cons rfl rfl (Int.le_refl _) (Int.le_refl _) (Tgt.mid ha hb hl hu F E)
theorem Ed.uncross (e : Ed) (h : e.l ≤ e.u) (X Y : Nat → Bool) : e.c (fun v => X v && Y v) + e.c (fun v => X v || Y v) + (bif X e.a && !X e.b && !Y e.a && Y e.b then e.u - e.l else 0) ≤ e.c X + e.c Y := by
  unfold Ed.c
  dsimp only
  generalize X e.a = xa
  generalize X e.b = xb
  generalize Y e.a = ya
  generalize Y e.b = yb
  cases xa <;> cases xb <;> cases ya <;> cases yb <;> simp <;> omega
theorem dX_uncross {X Y : Nat → Bool} : ∀ {E : List Ed}, (∀ e ∈ E, e.l ≤ e.u) → dX E (fun v => X v && Y v) + dX E (fun v => X v || Y v) ≤ dX E X + dX E Y
  | [], _ => by simp [dX]
  | e :: E, h => by
    have h1 := e.uncross (h e List.mem_cons_self) X Y
    have h2 := dX_uncross (X := X) (Y := Y) (E := E) fun e he => h e (List.mem_cons_of_mem _ he)
    have h3 := h e List.mem_cons_self
    simp only [dX]
    cases hb : (X e.a && !X e.b && !Y e.a && Y e.b) <;> rw [hb] at h1 <;> simp only [cond_true, cond_false] at h1 <;> omega
def gap (E : List Ed) : Nat := (E.map fun e => (e.u - e.l).toNat).sum
theorem gap_mid (E F : List Ed) (e e' : Ed) (h : (e'.u - e'.l).toNat < (e.u - e.l).toNat) : gap (E ++ e' :: F) < gap (E ++ e :: F) := by
  unfold gap
  simp only [List.map_append, List.map_cons, List.sum_append, List.sum_cons]
  omega
theorem circ : ∀ (N : Nat) (E : List Ed), gap E ≤ N → (∀ e ∈ E, e.l ≤ e.u) → (∀ X, 0 ≤ dX E X) → ∃ E', Tgt E E' ∧ (∀ e ∈ E', e.l = e.u) ∧ ∀ X, 0 ≤ dX E' X := by
  intro N
  induction N with
  | zero =>
    intro E hg hlu hd
    refine ⟨E, Tgt.refl E, fun e he => ?_, hd⟩
    obtain ⟨E1, E2, rfl⟩ := List.append_of_mem he
    have := hlu e he
    unfold gap at hg
    simp only [List.map_append, List.map_cons, List.sum_append, List.sum_cons] at hg
    omega
  | succ N ih =>
    intro E hg hlu hd
    by_cases hall : ∀ e ∈ E, e.l = e.u
    · exact ⟨E, Tgt.refl E, hall, hd⟩
    · obtain ⟨e, he, hne⟩ : ∃ e, e ∈ E ∧ e.l ≠ e.u := Classical.byContradiction fun hno => hall fun e he => Classical.byContradiction fun hne => hno ⟨e, he, hne⟩
      have hle := hlu e he
      obtain ⟨E1, E2, rfl⟩ := List.append_of_mem he
      -- more at least, or less at most
      have up : ∀ e' : Ed, e'.a = e.a → e'.b = e.b → e.l ≤ e'.l → e'.u ≤ e.u → e'.l ≤ e'.u → (e'.u - e'.l).toNat < (e.u - e.l).toNat → (∀ X, 0 ≤ dX (E1 ++ e' :: E2) X) → ∃ E', Tgt (E1 ++ e :: E2) E' ∧ (∀ e ∈ E', e.l = e.u) ∧ ∀ X, 0 ≤ dX E' X := fun e' h1 h2 h3 h4 h5 h6 h7 => by
        obtain ⟨E', k1, k2, k3⟩ := ih (E1 ++ e' :: E2) (by have := gap_mid E1 E2 e e' h6; omega) (fun x hx => by
          rcases List.mem_append.1 hx with hx | hx
          · exact hlu x (by simp [hx])
          · rcases List.mem_cons.1 hx with rfl | hx
            · exact h5
            · exact hlu x (by simp [hx])) h7
        exact ⟨E', (Tgt.mid h1 h2 h3 h4 E2 E1).trans k1, k2, k3⟩
      have hc : ∀ (e' : Ed) X, dX (E1 ++ e' :: E2) X = dX E1 X + e'.c X + dX E2 X := fun e' X => by rw [dX_app]; simp only [dX]; omega
      by_cases h1 : ∀ X, 0 ≤ dX (E1 ++ ⟨e.a, e.b, e.l + 1, e.u⟩ :: E2) X
      · exact up ⟨e.a, e.b, e.l + 1, e.u⟩ rfl rfl (by simp only; omega) (Int.le_refl _) (by simp only; omega) (by simp only; omega) h1
      by_cases h2 : ∀ X, 0 ≤ dX (E1 ++ ⟨e.a, e.b, e.l, e.u - 1⟩ :: E2) X
      · exact up ⟨e.a, e.b, e.l, e.u - 1⟩ rfl rfl (Int.le_refl _) (by simp only; omega) (by simp only; omega) (by simp only; omega) h2
      exfalso
      obtain ⟨X, hX⟩ : ∃ X, ¬ 0 ≤ dX (E1 ++ ⟨e.a, e.b, e.l + 1, e.u⟩ :: E2) X := Classical.byContradiction fun hno => h1 fun X => Classical.byContradiction fun hh => hno ⟨X, hh⟩
      obtain ⟨Y, hY⟩ : ∃ Y, ¬ 0 ≤ dX (E1 ++ ⟨e.a, e.b, e.l, e.u - 1⟩ :: E2) Y := Classical.byContradiction fun hno => h2 fun X => Classical.byContradiction fun hh => hno ⟨X, hh⟩
      have dx := hd X
      have dy := hd Y
      have di := hd (fun v => X v && Y v)
      have du := hd (fun v => X v || Y v)
      rw [hc] at hX hY dx dy di du
      have s1 := dX_uncross (X := X) (Y := Y) (E := E1) fun x hx => hlu x (by simp [hx])
      have s2 := dX_uncross (X := X) (Y := Y) (E := E2) fun x hx => hlu x (by simp [hx])
      have s3 := e.uncross hle X Y
      have eX : X e.a = true ∧ X e.b = false ∧ e.c X = (Ed.c ⟨e.a, e.b, e.l + 1, e.u⟩ X) + 1 := by
        unfold Ed.c at hX dx ⊢
        simp only at hX dx ⊢
        cases xa : X e.a <;> cases xb : X e.b <;> simp [xa, xb] at hX dx ⊢ <;> omega
      have eY : Y e.a = false ∧ Y e.b = true ∧ e.c Y = (Ed.c ⟨e.a, e.b, e.l, e.u - 1⟩ Y) + 1 := by
        unfold Ed.c at hY dy ⊢
        simp only at hY dy ⊢
        cases xa : Y e.a <;> cases xb : Y e.b <;> simp [xa, xb] at hY dy ⊢ <;> omega
      rw [eX.1, eX.2.1, eY.1, eY.2.1] at s3
      simp only [Bool.not_false, Bool.and_self, cond_true] at s3
      omega
/-! ### offers, bids, and what they come to -/
structure Of where
  f : Nat
  t : Nat
  v : Int
def smZ (h : Nat → Int) : Nat → Int
  | 0 => 0
  | m + 1 => smZ h m + h m
theorem smZ_congr {h g : Nat → Int} : ∀ {m : Nat}, (∀ k, k < m → h k = g k) → smZ h m = smZ g m
  | 0, _ => rfl
  | m + 1, e => by simp only [smZ]; rw [smZ_congr (m := m) fun k hk => e k (by omega), e m (by omega)]
theorem smZ_le {h g : Nat → Int} : ∀ {m : Nat}, (∀ k, k < m → h k ≤ g k) → smZ h m ≤ smZ g m
  | 0, _ => Int.le_refl _
  | m + 1, e => by
    have h1 := smZ_le (m := m) fun k hk => e k (by omega)
    have h2 := e m (by omega)
    simp only [smZ]
    omega
theorem smZ_add (h g : Nat → Int) : ∀ m, smZ (fun k => h k + g k) m = smZ h m + smZ g m
  | 0 => rfl
  | m + 1 => by simp only [smZ]; rw [smZ_add h g m]; omega
theorem smZ_zero : ∀ m, smZ (fun _ => 0) m = 0
  | 0 => rfl
  | m + 1 => by simp only [smZ]; rw [smZ_zero m]; rfl
def ind (f t k : Nat) : Int := bif decide (f ≤ k) && decide (k < t) then 1 else 0
theorem ind_in {f t k : Nat} (h : f ≤ k ∧ k < t) : ind f t k = 1 := by unfold ind; simp [h]
theorem ind_out {f t k : Nat} (h : ¬ (f ≤ k ∧ k < t)) : ind f t k = 0 := by
  unfold ind
  have : (decide (f ≤ k) && decide (k < t)) = false := by
    by_cases c : f ≤ k
    · have : ¬ k < t := fun d => h ⟨c, d⟩
      simp [this]
    · simp [c]
  rw [this]; rfl
theorem tele (p : Nat → Int) : ∀ m {f t : Nat}, f ≤ t → t ≤ m → smZ (fun k => (p (k + 1) - p k) * ind f t k) m = p t - p f
  | 0, f, t, h, k => by
    have h1 : t = 0 := by omega
    have h2 : f = 0 := by omega
    subst h1; subst h2
    simp [smZ]
  | m + 1, f, t, h, k => by
    simp only [smZ]
    by_cases c : t ≤ m
    · rw [tele p m h c, ind_out (by omega), Int.mul_zero, Int.add_zero]
    · have : t = m + 1 := by omega
      subst this
      by_cases d : f = m + 1
      · subst d
        rw [smZ_congr (g := fun _ => 0) (fun k hk => by rw [ind_out (by omega), Int.mul_zero]), smZ_zero, ind_out (by omega), Int.mul_zero]
        omega
      · rw [smZ_congr (g := fun k => (p (k + 1) - p k) * ind f m k) (fun k hk => ?_), tele p m (by omega) (Nat.le_refl _), ind_in (by omega), Int.mul_one]
        · omega
        · by_cases e : f ≤ k
          · rw [ind_in (by omega), ind_in (by omega)]
          · rw [ind_out (by omega), ind_out (by omega)]
def redc (p : Nat → Int) (o : Of) : Int := o.v - p o.t + p o.f
def dsum (p : Nat → Int) : List Of → Int
  | [] => 0
  | o :: l => max 0 (redc p o) + dsum p l
def dual (s : Int) (n : Nat) (p : Nat → Int) (l : List Of) : Int := s * p (n - 1) + dsum p l
def Mono (p : Nat → Int) (n : Nat) : Prop := ∀ k, k + 1 < n → p k ≤ p (k + 1)
def val : List Of → List Int → Int
  | o :: l, y :: x => y * o.v + val l x
  | _, _ => 0
def use (k : Nat) : List Of → List Int → Int
  | o :: l, y :: x => y * ind o.f o.t k + use k l x
  | _, _ => 0
def rsum (p : Nat → Int) : List Of → List Int → Int
  | o :: l, y :: x => y * redc p o + rsum p l x
  | _, _ => 0
def Bits (x : List Int) : Prop := ∀ y ∈ x, y = 0 ∨ y = 1
def OfOk (n : Nat) (l : List Of) : Prop := ∀ o ∈ l, o.f < o.t ∧ o.t < n
theorem val_split (p : Nat → Int) {n : Nat} (hn : 1 ≤ n) : ∀ {l : List Of} {x : List Int}, OfOk n l → Bits x → val l x = rsum p l x + smZ (fun k => (p (k + 1) - p k) * use k l x) (n - 1)
  | [], x, _, _ => by
    have : ∀ x : List Int, smZ (fun k => (p (k + 1) - p k) * use k [] x) (n - 1) = 0 := fun x => by
      rw [smZ_congr (g := fun _ => 0) (fun k _ => by simp [use]), smZ_zero]
    rw [this]
    simp [val, rsum]
  | o :: l, [], _, _ => by
    rw [smZ_congr (g := fun _ => 0) (fun k _ => by simp [use]), smZ_zero]
    simp [val, rsum]
  | o :: l, y :: x, h, hx => by
    have ih := val_split p hn (l := l) (x := x) (fun q hq => h q (List.mem_cons_of_mem _ hq)) (fun q hq => hx q (List.mem_cons_of_mem _ hq))
    obtain ⟨h1, h2⟩ := h o List.mem_cons_self
    have ht := tele p (n - 1) (f := o.f) (t := o.t) (by omega) (by omega)
    simp only [val, rsum, use]
    rw [ih]
    rcases hx y List.mem_cons_self with rfl | rfl
    · have e : smZ (fun k => (p (k + 1) - p k) * (0 * ind o.f o.t k + use k l x)) (n - 1) = smZ (fun k => (p (k + 1) - p k) * use k l x) (n - 1) := smZ_congr fun k _ => by rw [Int.zero_mul, Int.zero_add]
      rw [e]
      simp
    · have e : smZ (fun k => (p (k + 1) - p k) * (1 * ind o.f o.t k + use k l x)) (n - 1) = smZ (fun k => (p (k + 1) - p k) * ind o.f o.t k + (p (k + 1) - p k) * use k l x) (n - 1) := smZ_congr fun k _ => by rw [Int.one_mul, Int.mul_add]
      rw [e, smZ_add, ht]
      unfold redc
      omega
theorem smZ_s (p : Nat → Int) (s : Int) : ∀ m, smZ (fun k => (p (k + 1) - p k) * s) m = s * p m - s * p 0
  | 0 => by simp [smZ]
  | m + 1 => by
    simp only [smZ]
    rw [smZ_s p s m, Int.sub_mul, Int.mul_comm (p (m + 1)) s, Int.mul_comm (p m) s]
    omega
structure Fits (s : Int) (n : Nat) (l : List Of) (x : List Int) : Prop where
  len : x.length = l.length
  bits : Bits x
  use : ∀ k, k + 1 < n → use k l x ≤ s
theorem rsum_le (p : Nat → Int) : ∀ {l : List Of} {x : List Int}, Bits x → rsum p l x ≤ dsum p l
  | [], x, _ => by
    have : ∀ x : List Int, rsum p [] x = 0 := fun x => by simp [rsum]
    rw [this]; exact Int.le_refl _
  | o :: l, [], _ => by
    have : ∀ l : List Of, 0 ≤ dsum p l := fun l => by
      induction l with
      | nil => exact Int.le_refl _
      | cons o l ih => simp only [dsum]; omega
    simp only [rsum]
    exact this _
  | o :: l, y :: x, hx => by
    have ih := rsum_le p (l := l) (x := x) fun q hq => hx q (List.mem_cons_of_mem _ hq)
    simp only [rsum, dsum]
    rcases hx y List.mem_cons_self with rfl | rfl <;> omega
theorem weak {s : Int} {n : Nat} {p : Nat → Int} {l : List Of} {x : List Int} (hn : 1 ≤ n) (hp : Mono p n) (h0 : p 0 = 0) (hl : OfOk n l) (hx : Fits s n l x) : val l x ≤ dual s n p l := by
  rw [val_split p hn hl hx.bits]
  have h1 := rsum_le p (l := l) hx.bits
  have h2 : smZ (fun k => (p (k + 1) - p k) * use k l x) (n - 1) ≤ smZ (fun k => (p (k + 1) - p k) * s) (n - 1) := smZ_le fun k hk => Int.mul_le_mul_of_nonneg_left (hx.use k (by omega)) (by have := hp k (by omega); omega)
  rw [smZ_s, h0, Int.mul_zero, Int.sub_zero] at h2
  unfold dual
  omega
/-! ### where no set of stations can be moved to better sums, some choice is worth as much -/
def b2i (b : Bool) : Int := bif b then 1 else 0
def mv (p : Nat → Int) (X : Nat → Bool) (k : Nat) : Int := p k + b2i (X 0) - b2i (X k)
def loO (p : Nat → Int) (o : Of) : Int := bif decide (0 < redc p o) then 1 else 0
def hiO (p : Nat → Int) (o : Of) : Int := bif decide (0 ≤ redc p o) then 1 else 0
def edO (p : Nat → Int) (o : Of) : Ed := ⟨o.f, o.t, loO p o, hiO p o⟩
def edI (p : Nat → Int) (B : Int) (k : Nat) : Ed := ⟨k, k + 1, 0, bif decide (p k = p (k + 1)) then B else 0⟩
theorem lohi (p : Nat → Int) (o : Of) : 0 ≤ loO p o ∧ loO p o ≤ hiO p o ∧ hiO p o ≤ 1 ∧ (0 < redc p o → loO p o = 1) ∧ (redc p o < 0 → hiO p o = 0) := by
  unfold loO hiO
  by_cases a : 0 < redc p o
  · have b : 0 ≤ redc p o := by omega
    simp [a, b] <;> omega
  · by_cases b : 0 ≤ redc p o
    · simp [a, b] <;> omega
    · simp [a, b] <;> omega
theorem move_off (p : Nat → Int) (X : Nat → Bool) : ∀ l : List Of, dX (l.map (edO p)) X = dsum (mv p X) l - dsum p l
  | [] => by simp [dX, dsum]
  | o :: l => by
    have ih := move_off p X l
    simp only [List.map_cons, dX, dsum]
    rw [ih]
    have : (edO p o).c X = max 0 (redc (mv p X) o) - max 0 (redc p o) := by
      have hr : redc (mv p X) o = redc p o + b2i (X o.t) - b2i (X o.f) := by unfold redc mv; omega
      rw [hr]
      unfold Ed.c edO loO hiO b2i
      simp only
      generalize redc p o = r
      cases X o.f <;> cases X o.t
      · simp
      · by_cases a : 0 ≤ r <;> simp [a] <;> omega
      · by_cases a : 0 < r <;> simp [a] <;> omega
      · simp <;> omega
    omega
theorem dX_lo (X : Nat → Bool) (p : Nat → Int) : ∀ l : List Of, -(l.length : Int) ≤ dX (l.map (edO p)) X
  | [] => by simp [dX]
  | o :: l => by
    have ih := dX_lo X p l
    obtain ⟨h1, h2, h3, _⟩ := lohi p o
    simp only [List.map_cons, dX, List.length_cons]
    have : -1 ≤ (edO p o).c X := by
      unfold Ed.c edO
      simp only
      cases X o.f <;> cases X o.t <;> simp <;> omega
    omega
theorem dX_idle {p : Nat → Int} {B : Int} (hB : 0 ≤ B) (X : Nat → Bool) : ∀ m, 0 ≤ dX ((List.range m).map (edI p B)) X ∧ ((∃ k, k < m ∧ X k = false ∧ X (k + 1) = true ∧ p k = p (k + 1)) → B ≤ dX ((List.range m).map (edI p B)) X)
  | 0 => ⟨Int.le_refl _, fun ⟨k, hk, _⟩ => absurd hk (Nat.not_lt_zero k)⟩
  | m + 1 => by
    obtain ⟨h1, h2⟩ := dX_idle (p := p) hB X m
    rw [List.range_succ, List.map_append, dX_app]
    have e : dX ([m].map (edI p B)) X = (edI p B m).c X := by simp [dX]
    have hc : 0 ≤ (edI p B m).c X ∧ (X m = false ∧ X (m + 1) = true ∧ p m = p (m + 1) → B = (edI p B m).c X) := by
      unfold Ed.c edI
      simp only
      cases X m <;> cases X (m + 1) <;> by_cases a : p m = p (m + 1) <;> simp [a] <;> omega
    rw [e]
    refine ⟨by omega, ?_⟩
    rintro ⟨k, hk, a1, a2, a3⟩
    by_cases c : k = m
    · subst c
      have := hc.2 ⟨a1, a2, a3⟩
      omega
    · have := h2 ⟨k, by omega, a1, a2, a3⟩
      omega
def edR (n : Nat) (s : Int) : Ed := ⟨n - 1, 0, s, s⟩
def arcs (s : Int) (n : Nat) (p : Nat → Int) (l : List Of) : List Ed := l.map (edO p) ++ ((List.range (n - 1)).map (edI p (s + l.length)) ++ [edR n s])
theorem cuts {s : Int} {n : Nat} {p : Nat → Int} {l : List Of} (hs : 0 ≤ s) (hn : 1 ≤ n) (hp : Mono p n) (hloc : ∀ X, Mono (mv p X) n → dual s n p l ≤ dual s n (mv p X) l) (X : Nat → Bool) : 0 ≤ dX (arcs s n p l) X := by
  unfold arcs
  rw [dX_app, dX_app]
  obtain ⟨h1, h2⟩ := dX_idle (p := p) (B := s + l.length) (by omega) X (n - 1)
  have h3 := dX_lo X p l
  have hr : dX [edR n s] X = s * (b2i (X 0) - b2i (X (n - 1))) := by
    unfold edR b2i
    simp only [dX, Ed.c]
    cases X 0 <;> cases X (n - 1) <;> simp <;> omega
  have hr2 : -s ≤ dX [edR n s] X := by
    rw [hr]
    unfold b2i
    cases X 0 <;> cases X (n - 1) <;> simp <;> omega
  by_cases c : ∃ k, k < n - 1 ∧ X k = false ∧ X (k + 1) = true ∧ p k = p (k + 1)
  · have := h2 c
    omega
  · have hm : Mono (mv p X) n := fun k hk => by
      have := hp k hk
      unfold mv b2i
      by_cases e : p k = p (k + 1)
      · cases a1 : X k <;> cases a2 : X (k + 1) <;> simp <;> first | omega | (exfalso; exact c ⟨k, by omega, a1, a2, e⟩)
      · cases a1 : X k <;> cases a2 : X (k + 1) <;> simp <;> omega
    have h4 := hloc X hm
    have h5 := move_off p X l
    unfold dual at h4
    have e : s * mv p X (n - 1) = s * p (n - 1) + s * (b2i (X 0) - b2i (X (n - 1))) := by
      rw [← Int.mul_add]
      congr 1
      unfold mv
      omega
    omega
theorem Tgt.app_inv : ∀ {A B E' : List Ed}, Tgt (A ++ B) E' → ∃ A' B', E' = A' ++ B' ∧ Tgt A A' ∧ Tgt B B'
  | [], B, E', h => ⟨[], E', rfl, .nil, h⟩
  | e :: A, B, E', h => by
    cases h with
    | cons ha hb hl hu h =>
      obtain ⟨A', B', rfl, h1, h2⟩ := Tgt.app_inv h
      exact ⟨_ :: A', B', rfl, .cons ha hb hl hu h1, h2⟩
theorem dX_neg (X : Nat → Bool) : ∀ {E : List Ed}, (∀ e ∈ E, e.l = e.u) → dX E (fun v => !X v) = - dX E X
  | [], _ => by simp [dX]
  | e :: E, h => by
    have ih := dX_neg X (E := E) fun x hx => h x (List.mem_cons_of_mem _ hx)
    have h1 := h e List.mem_cons_self
    simp only [dX]
    have : e.c (fun v => !X v) = - e.c X := by
      unfold Ed.c
      simp only [h1]
      cases X e.a <;> cases X e.b <;> simp
    omega
def upTo (k v : Nat) : Bool := decide (v ≤ k)
theorem off_out {p : Nat → Int} {n : Nat} : ∀ {l : List Of} {A' : List Ed}, Tgt (l.map (edO p)) A' → (∀ e ∈ A', e.l = e.u) → OfOk n l → (A'.map Ed.l).length = l.length ∧ Bits (A'.map Ed.l) ∧ rsum p l (A'.map Ed.l) = dsum p l ∧ ∀ k, dX A' (upTo k) = - use k l (A'.map Ed.l)
  | [], A', h, ht, _ => by
    cases h
    exact ⟨rfl, fun y hy => (by cases hy), rfl, fun k => (by simp [dX, use])⟩
  | o :: l, A', h, ht, hl => by
    cases h with
    | @cons _ e' _ E' ha hb hlo hhi h =>
      obtain ⟨k1, k2, k3, k4⟩ := off_out h (fun x hx => ht x (List.mem_cons_of_mem _ hx)) fun x hx => hl x (List.mem_cons_of_mem _ hx)
      obtain ⟨f1, f2⟩ := hl o List.mem_cons_self
      have htt := ht e' List.mem_cons_self
      obtain ⟨q1, q2, q3, q4, q5⟩ := lohi p o
      have ha : e'.a = o.f := ha
      have hb : e'.b = o.t := hb
      have hlo : loO p o ≤ e'.l := hlo
      have hhi : e'.u ≤ hiO p o := hhi
      refine ⟨by simpa using k1, fun y hy => ?_, ?_, fun k => ?_⟩
      · rcases List.mem_cons.1 hy with rfl | hy
        · omega
        · exact k2 y hy
      · simp only [List.map_cons, rsum, dsum, k3]
        have hy : e'.l = 0 ∨ e'.l = 1 := by omega
        by_cases r1 : 0 < redc p o
        · have := q4 r1
          rw [show e'.l = 1 by omega]
          omega
        · by_cases r2 : redc p o < 0
          · have := q5 r2
            rw [show e'.l = 0 by omega]
            omega
          · rw [show redc p o = 0 by omega]
            simp
      · simp only [List.map_cons, dX, use, k4 k]
        have hc : e'.c (upTo k) = - (e'.l * ind o.f o.t k) := by
          unfold Ed.c upTo
          rw [ha, hb, ← htt]
          by_cases c1 : o.f ≤ k
          · by_cases c2 : o.t ≤ k
            · rw [ind_out (by omega)]; simp [c1, c2]
            · rw [ind_in (by omega)]; simp [c1, c2]
          · have c2 : ¬ o.t ≤ k := by omega
            rw [ind_out (by omega)]; simp [c1, c2]
        omega
theorem idle_out {p : Nat → Int} {B : Int} : ∀ (m : Nat) {B' : List Ed}, Tgt ((List.range m).map (edI p B)) B' → (∀ e ∈ B', e.l = e.u) → ∀ k, (k < m → ∃ y, 0 ≤ y ∧ (p k ≠ p (k + 1) → y = 0) ∧ dX B' (upTo k) = -y) ∧ (m ≤ k → dX B' (upTo k) = 0)
  | 0, B', h, _, k => by
    cases h
    exact ⟨fun h => by omega, fun _ => rfl⟩
  | m + 1, B', h, ht, k => by
    rw [List.range_succ, List.map_append] at h
    obtain ⟨A', C', rfl, h1, h2⟩ := h.app_inv
    obtain ⟨g1, g2⟩ := idle_out m h1 (fun e he => ht e (List.mem_append_left _ he)) k
    cases h2 with
    | @cons _ e' _ E' ha hb hlo hhi h3 =>
      cases h3
      have htt := ht e' (by simp)
      have ha : e'.a = m := ha
      have hb : e'.b = m + 1 := hb
      have hlo : 0 ≤ e'.l := hlo
      have hhi : e'.u ≤ bif decide (p m = p (m + 1)) then B else 0 := hhi
      rw [dX_app]
      have e : dX [e'] (upTo k) = e'.c (upTo k) := by simp [dX]
      rw [e]
      have hc : e'.c (upTo k) = if k = m then - e'.l else 0 := by
        unfold Ed.c upTo
        rw [ha, hb]
        by_cases c1 : k = m
        · subst c1
          have : ¬ k + 1 ≤ k := by omega
          simp [this]
        · by_cases c2 : m ≤ k
          · have c3 : m + 1 ≤ k := by omega
            simp [c1, c2, c3]
          · have c3 : ¬ m + 1 ≤ k := by omega
            simp [c1, c2, c3]
      rw [hc]
      constructor
      · intro hk
        by_cases c : k = m
        · subst c
          rw [if_pos rfl, g2 (Nat.le_refl _)]
          refine ⟨e'.l, hlo, fun hne => ?_, by omega⟩
          rw [decide_eq_false hne] at hhi
          simp only [cond_false] at hhi
          omega
        · obtain ⟨y, y1, y2, y3⟩ := g1 (by omega)
          rw [if_neg c]
          exact ⟨y, y1, y2, by omega⟩
      · intro hk
        rw [if_neg (by omega), g2 (by omega)]
        rfl
theorem strong {s : Int} {n : Nat} {p : Nat → Int} {l : List Of} (hs : 0 ≤ s) (hn : 1 ≤ n) (hp : Mono p n) (h0 : p 0 = 0) (hl : OfOk n l) (hloc : ∀ X, Mono (mv p X) n → dual s n p l ≤ dual s n (mv p X) l) : ∃ x, Fits s n l x ∧ val l x = dual s n p l := by
  have hlu : ∀ e ∈ arcs s n p l, e.l ≤ e.u := fun e he => by
    unfold arcs at he
    rcases List.mem_append.1 he with he | he
    · obtain ⟨o, _, rfl⟩ := List.mem_map.1 he
      exact (lohi p o).2.1
    · rcases List.mem_append.1 he with he | he
      · obtain ⟨k, _, rfl⟩ := List.mem_map.1 he
        unfold edI
        simp only
        by_cases c : p k = p (k + 1) <;> simp [c] <;> omega
      · simp at he
        subst he
        exact Int.le_refl _
  obtain ⟨E', h1, h2, h3⟩ := circ (gap (arcs s n p l)) (arcs s n p l) (Nat.le_refl _) hlu (cuts hs hn hp hloc)
  have hz : ∀ X, dX E' X = 0 := fun X => by
    have a1 := h3 X
    have a2 := h3 (fun v => !X v)
    rw [dX_neg X h2] at a2
    omega
  unfold arcs at h1
  obtain ⟨A', R', rfl, hA, hR⟩ := h1.app_inv
  obtain ⟨B', C', rfl, hB, hC⟩ := hR.app_inv
  obtain ⟨k1, k2, k3, k4⟩ := off_out hA (fun e he => h2 e (by simp [he])) hl
  have hret : ∀ k, k + 1 < n → dX C' (upTo k) = s := fun k hk => by
    cases hC with
    | @cons _ e' _ E' ha hb hlo hhi h4 =>
      cases h4
      have htt := h2 e' (by simp)
      have ha : e'.a = n - 1 := ha
      have hb : e'.b = 0 := hb
      have hlo : s ≤ e'.l := hlo
      have hhi : e'.u ≤ s := hhi
      have c : ¬ n - 1 ≤ k := by omega
      unfold dX Ed.c upTo
      rw [ha, hb]
      simp [c, dX]
      omega
  have huse : ∀ k, k + 1 < n → ∃ y, 0 ≤ y ∧ (p k ≠ p (k + 1) → y = 0) ∧ use k l (A'.map Ed.l) = s - y := fun k hk => by
    obtain ⟨y, y1, y2, y3⟩ := (idle_out (n - 1) hB (fun e he => h2 e (by simp [he])) k).1 (by omega)
    have := hz (upTo k)
    rw [dX_app, dX_app, k4 k, y3, hret k hk] at this
    exact ⟨y, y1, y2, by omega⟩
  refine ⟨A'.map Ed.l, ⟨k1, k2, fun k hk => ?_⟩, ?_⟩
  · obtain ⟨y, y1, _, y3⟩ := huse k hk
    omega
  · rw [val_split p hn hl k2, k3, smZ_congr (g := fun k => (p (k + 1) - p k) * s) (fun k hk => ?_), smZ_s, h0, Int.mul_zero]
    · unfold dual; omega
    · obtain ⟨y, y1, y2, y3⟩ := huse k (by omega)
      by_cases c : p k = p (k + 1)
      · rw [show p (k + 1) - p k = 0 by omega, Int.zero_mul, Int.zero_mul]
      · rw [y3, y2 c, Int.sub_zero]
/-! ### choices as sets of bits -/
theorem bitS_lt {v m : Nat} (h : v < 2 ^ m) : bitS v m = false := by
  unfold bitS
  rw [Nat.div_eq_of_lt h]
  rfl
theorem bitS_top {v m : Nat} (h : v < 2 ^ m) : bitS (v + 2 ^ m) m = true := by
  unfold bitS
  rw [Nat.add_div_right _ (Nat.two_pow_pos m), Nat.div_eq_of_lt h]
  rfl
theorem bitS_add {v m i : Nat} (h : i < m) : bitS (v + 2 ^ m) i = bitS v i := by
  unfold bitS
  obtain ⟨k, rfl⟩ : ∃ k, m = i + (k + 1) := ⟨m - i - 1, by omega⟩
  rw [Nat.pow_add, Nat.add_mul_div_left _ _ (Nat.two_pow_pos i), Nat.pow_succ, Nat.add_mod, Nat.mul_mod_left]
  simp
theorem bits_of (g : Nat → Bool) : ∀ m, ∃ v, v < 2 ^ m ∧ ∀ i, i < m → bitS v i = g i
  | 0 => ⟨0, by decide, fun i hi => by omega⟩
  | m + 1 => by
    obtain ⟨v, hv, h⟩ := bits_of g m
    cases hg : g m with
    | true =>
      refine ⟨v + 2 ^ m, by rw [Nat.pow_succ]; omega, fun i hi => ?_⟩
      by_cases e : i = m
      · subst e; rw [bitS_top hv, hg]
      · rw [bitS_add (by omega)]; exact h i (by omega)
    | false =>
      refine ⟨v, by rw [Nat.pow_succ]; omega, fun i hi => ?_⟩
      by_cases e : i = m
      · subst e; rw [bitS_lt hv, hg]
      · exact h i (by omega)
def ofs (l : List TOffer) : List Of := l.map fun o => ⟨o.from0.toNat, o.to0.toNat, o.value⟩
def bx (v : Nat) (n : Nat) : List Int := (List.range n).map fun i => b2i (bitS v i)
theorem val_app (p : Of) (y : Int) : ∀ {l : List Of} {x : List Int}, x.length = l.length → val (l ++ [p]) (x ++ [y]) = val l x + y * p.v
  | [], [], _ => by simp [val]
  | o :: l, z :: x, h => by
    simp only [List.cons_append, val]
    rw [val_app p y (l := l) (x := x) (by simpa using h)]
    omega
theorem use_app (k : Nat) (p : Of) (y : Int) : ∀ {l : List Of} {x : List Int}, x.length = l.length → use k (l ++ [p]) (x ++ [y]) = use k l x + y * ind p.f p.t k
  | [], [], _ => by simp [use]
  | o :: l, z :: x, h => by
    simp only [List.cons_append, use]
    rw [use_app k p y (l := l) (x := x) (by simpa using h)]
    omega
theorem bx_len (v n : Nat) : (bx v n).length = n := by simp [bx]
theorem bx_succ (v n : Nat) : bx v (n + 1) = bx v n ++ [b2i (bitS v n)] := by unfold bx; rw [List.range_succ, List.map_append]; rfl
theorem ofs_len (l : List TOffer) : (ofs l).length = l.length := by simp [ofs]
theorem smS_val {l : List TOffer} (v : Nat) : ∀ i, i ≤ l.length → smS l v i = val (ofs (l.take i)) (bx v i)
  | 0, _ => rfl
  | i + 1, hi => by
    have ih := smS_val (l := l) v i (by omega)
    have e : ofs (l.take (i + 1)) = ofs (l.take i) ++ ofs [l.getD i TOffer.d] := by
      rw [take_succ' TOffer.d (by omega)]; unfold ofs; rw [List.map_append]
    have ev : (ofs [l.getD i TOffer.d]) = [⟨(l.getD i TOffer.d).from0.toNat, (l.getD i TOffer.d).to0.toNat, (l.getD i TOffer.d).value⟩] := rfl
    rw [e, ev, bx_succ, val_app _ _ (by rw [bx_len, ofs_len, List.length_take]; omega), ← ih]
    simp only [smS, b2i]
    cases bitS v i <;> simp
theorem ldS_use {l : List TOffer} {a1 a2 : Int} (h : Good l a1 a2) (v k : Nat) : ∀ i, i ≤ l.length → ldS l v i k = use k (ofs (l.take i)) (bx v i)
  | 0, _ => rfl
  | i + 1, hi => by
    have ih := ldS_use h v k i (by omega)
    have ho := h.ok i (by omega)
    have e : ofs (l.take (i + 1)) = ofs (l.take i) ++ ofs [l.getD i TOffer.d] := by
      rw [take_succ' TOffer.d (by omega)]; unfold ofs; rw [List.map_append]
    have ev : (ofs [l.getD i TOffer.d]) = [⟨(l.getD i TOffer.d).from0.toNat, (l.getD i TOffer.d).to0.toNat, (l.getD i TOffer.d).value⟩] := rfl
    rw [e, ev, bx_succ, use_app k _ _ (by rw [bx_len, ofs_len, List.length_take]; omega), ← ih]
    simp only [ldS, b2i]
    cases bitS v i
    · simp
    · simp only [cond_true, Int.one_mul]
      by_cases c : (l.getD i TOffer.d).from0 ≤ (k : Int) ∧ (k : Int) < (l.getD i TOffer.d).to0
      · rw [if_pos c, ind_in (by omega)]
      · rw [if_neg c, ind_out (by omega)]; omega
theorem bx_bits (v n : Nat) : Bits (bx v n) := fun y hy => by
  unfold bx at hy
  obtain ⟨i, _, rfl⟩ := List.mem_map.1 hy
  unfold b2i
  cases bitS v i <;> simp
theorem bx_of {x : List Int} (hx : Bits x) : ∃ v, v < 2 ^ x.length ∧ bx v x.length = x := by
  obtain ⟨v, hv, h⟩ := bits_of (fun i => decide (x.getD i 0 = 1)) x.length
  refine ⟨v, hv, list_ext_getD 0 (bx_len v _) fun i hi => ?_⟩
  rw [bx_len] at hi
  have e : (bx v x.length).getD i 0 = b2i (bitS v i) := by
    unfold bx
    rw [List.getD_eq_getElem?_getD, List.getElem?_map, List.getElem?_range hi]
    rfl
  rw [e, h i hi]
  unfold b2i
  rcases hx _ (getD_mem (d := 0) hi) with c | c
  · rw [c]; rfl
  · rw [c]; rfl
theorem bestS_ge {l : List TOffer} {a1 : Int} : ∀ (N v : Nat), v < N → fitB l a1 v = true → smS l v l.length ≤ (bestS l a1 N).2
  | 0, v, h, _ => by omega
  | N + 1, v, h, hf => by
    have hmono : (bestS l a1 N).2 ≤ (bestS l a1 (N + 1)).2 := by
      rw [bestS]
      cases hb : betB l a1 N (bestS l a1 N) with
      | false => exact Int.le_refl _
      | true =>
        unfold betB at hb
        simp only [Bool.and_eq_true, Bool.or_eq_true, decide_eq_true_eq] at hb
        simp only [cond_true]
        omega
    by_cases e : v = N
    · subst e
      rw [bestS]
      cases hb : betB l a1 v (bestS l a1 v) with
      | true => exact Int.le_refl _
      | false =>
        unfold betB at hb
        rw [hf] at hb
        simp only [Bool.true_and, Bool.or_eq_false_iff, decide_eq_false_iff_not] at hb
        simp only [cond_false]
        omega
    · exact Int.le_trans (bestS_ge N v (by omega) hf) hmono
theorem bestS_at {l : List TOffer} {a1 : Int} : ∀ N, (bestS l a1 N).2 = 0 ∨ ∃ v, v < N ∧ fitB l a1 v = true ∧ (bestS l a1 N).2 = smS l v l.length
  | 0 => .inl rfl
  | N + 1 => by
    rw [bestS]
    cases hb : betB l a1 N (bestS l a1 N) with
    | true =>
      unfold betB at hb
      simp only [Bool.and_eq_true] at hb
      exact .inr ⟨N, by omega, hb.1, rfl⟩
    | false =>
      rcases bestS_at (l := l) (a1 := a1) N with h | ⟨v, h1, h2, h3⟩
      · exact .inl h
      · exact .inr ⟨v, by omega, h2, h3⟩
theorem ofs_ok {l : List TOffer} {a1 a2 : Int} (h : Good l a1 a2) : OfOk a2.toNat (ofs l) := fun o ho => by
  unfold ofs at ho
  obtain ⟨t, ht, rfl⟩ := List.mem_map.1 ho
  obtain ⟨i, hi, rfl⟩ := mem_getD TOffer.d ht
  have := h.ok i hi
  simp only
  omega
theorem best_dual {l : List TOffer} {a1 a2 : Int} (h : Good l a1 a2) {p : Nat → Int} (hp : Mono p a2.toNat) (h0 : p 0 = 0) (hloc : ∀ X, Mono (mv p X) a2.toNat → dual a1 a2.toNat p (ofs l) ≤ dual a1 a2.toNat (mv p X) (ofs l)) : (bestS l a1 (2 ^ l.length)).2 = dual a1 a2.toNat p (ofs l) := by
  have hs := h.seats
  have hst := h.stops
  have hok := ofs_ok h
  have htk : l.take l.length = l := List.take_length
  have d0 : 0 ≤ dual a1 a2.toNat p (ofs l) := by
    have hx : Fits a1 a2.toNat (ofs l) (bx 0 l.length) := by
      refine ⟨by rw [bx_len, ofs_len], bx_bits _ _, fun k _ => ?_⟩
      have := ldS_use h 0 k l.length (Nat.le_refl _)
      rw [htk] at this
      rw [← this, (best_zero h).2.2.1 k]
      omega
    have := weak (by omega) hp h0 hok hx
    have e := smS_val (l := l) 0 l.length (Nat.le_refl _)
    rw [htk, (best_zero h).2.1] at e
    omega
  have hle : (bestS l a1 (2 ^ l.length)).2 ≤ dual a1 a2.toNat p (ofs l) := by
    rcases bestS_at (l := l) (a1 := a1) (2 ^ l.length) with e | ⟨v, hv, hf, e⟩
    · rw [e]; exact d0
    · rw [e, smS_val v l.length (Nat.le_refl _), htk]
      refine weak (by omega) hp h0 hok ⟨by rw [bx_len, ofs_len], bx_bits _ _, fun k hk => ?_⟩
      have := ldS_use h v k l.length (Nat.le_refl _)
      rw [htk] at this
      rw [← this]
      exact (fitB_iff l a1 v).1 hf k (by omega)
  have hge : dual a1 a2.toNat p (ofs l) ≤ (bestS l a1 (2 ^ l.length)).2 := by
    obtain ⟨x, hx, e⟩ := strong (s := a1) (by omega) (by omega) hp h0 hok hloc
    have hxl := hx.len
    rw [ofs_len] at hxl
    obtain ⟨v, hv, ev⟩ := bx_of hx.bits
    rw [hxl] at hv ev
    have h1 : fitB l a1 v = true := (fitB_iff l a1 v).2 fun k _ => by
      have e1 := ldS_use h v k l.length (Nat.le_refl _)
      rw [htk, ev] at e1
      by_cases c : k + 1 < a2.toNat
      · rw [e1]; exact hx.use k c
      · by_cases c2 : k + 1 = a2.toNat
        · have : ldS l v l.length k = 0 := by
            rw [e1]
            have : ∀ (l : List Of) (x : List Int), OfOk a2.toNat l → use k l x = 0 := fun l => by
              induction l with
              | nil => intro x _; rfl
              | cons o l ih =>
                intro x ho
                cases x with
                | nil => rfl
                | cons y x =>
                  have := ho o List.mem_cons_self
                  simp only [use]
                  rw [ih x fun q hq => ho q (List.mem_cons_of_mem _ hq), ind_out (by omega)]
                  omega
            exact this _ _ hok
          omega
        · rw [ldS_out h v l.length (Nat.le_refl _) k (by omega)]; omega
    have := bestS_ge (2 ^ l.length) v hv h1
    rw [smS_val v l.length (Nat.le_refl _), htk, ev, e] at this
    exact this
  omega
/-! ### the program: better sums as long as there are some -/
theorem dsum_app (p : Nat → Int) (o : Of) : ∀ l, dsum p (l ++ [o]) = dsum p l + max 0 (redc p o)
  | [] => by simp [dsum]
  | q :: l => by simp only [List.cons_append, dsum]; rw [dsum_app p o l]; omega
theorem dsum_take {l : List TOffer} (p : Nat → Int) {i : Nat} (hi : i < l.length) : dsum p (ofs (l.take (i + 1))) = dsum p (ofs (l.take i)) + max 0 ((l.getD i TOffer.d).value - p (l.getD i TOffer.d).to0.toNat + p (l.getD i TOffer.d).from0.toNat) := by
  have e : ofs (l.take (i + 1)) = ofs (l.take i) ++ [⟨(l.getD i TOffer.d).from0.toNat, (l.getD i TOffer.d).to0.toNat, (l.getD i TOffer.d).value⟩] := by
    rw [take_succ' TOffer.d hi]; unfold ofs; rw [List.map_append]; rfl
  rw [e, dsum_app]
  rfl
theorem dsum_nn (p : Nat → Int) : ∀ l, 0 ≤ dsum p l
  | [] => Int.le_refl _
  | o :: l => by have := dsum_nn p l; simp only [dsum]; omega
theorem dsum_congr {p q : Nat → Int} {n : Nat} : ∀ {l : List Of}, OfOk n l → (∀ k, k < n → p k = q k) → dsum p l = dsum q l
  | [], _, _ => rfl
  | o :: l, h, e => by
    obtain ⟨h1, h2⟩ := h o List.mem_cons_self
    simp only [dsum]
    rw [dsum_congr (l := l) (fun x hx => h x (List.mem_cons_of_mem _ hx)) e]
    unfold redc
    rw [e o.t h2, e o.f (by omega)]
def vl (p : List Int) (k : Nat) : Int := p.getD k 0
section
variable {l : List TOffer} {a1 a2 : Int}
theorem mul12 {a x B : Int} (ha : 1 ≤ a ∧ a ≤ 12) (hx : -B ≤ x ∧ x ≤ B) (hB : 0 ≤ B) : -(12 * B) ≤ a * x ∧ a * x ≤ 12 * B := by
  have h : ∀ k : Fin 12, -(12 * B) ≤ ((k.val : Int) + 1) * x ∧ ((k.val : Int) + 1) * x ≤ 12 * B := fun k => by
    match k with
    | ⟨0, _⟩ | ⟨1, _⟩ | ⟨2, _⟩ | ⟨3, _⟩ | ⟨4, _⟩ | ⟨5, _⟩ | ⟨6, _⟩ | ⟨7, _⟩ | ⟨8, _⟩ | ⟨9, _⟩ | ⟨10, _⟩ | ⟨11, _⟩ => constructor <;> simp only [] <;> omega
  have := h ⟨(a - 1).toNat, by omega⟩
  simp only at this
  rwa [show (((a - 1).toNat : Nat) : Int) + 1 = a by omega] at this
theorem F110_ret (h : Good l a1 a2) {p : List Int} (hp : p.length = a2.toNat) (hb : ∀ k, k < a2.toNat → -10000 ≤ vl p k ∧ vl p k ≤ 10000) :
    Ret (F110 p a1 a2 l) fun r => (Mono (vl p) a2.toNat ∧ r = dual a1 a2.toNat (vl p) (ofs l)) ∨ (¬ Mono (vl p) a2.toNat ∧ r = -1) := by
  have hs := h.seats
  have hst := h.stops
  have hll := h.len
  have hM : Ret (L110_3 p a2 1) fun x => match x with | .inl _ => Mono (vl p) a2.toNat | .inr r => ¬ Mono (vl p) a2.toNat ∧ r = -1 := by
    unfold L110_3
    refine Ret.loop (a2.toNat - 1) (fun i s => s = (i : Int) + 1 ∧ ∀ k, k < i → vl p k ≤ vl p (k + 1)) ⟨rfl, fun k hk => by omega⟩ ?_ ?_
    · rintro i s hi ⟨rfl, hk⟩
      have e1 : ((i : Int) + 1).toNat = i + 1 := by omega
      have e2 : ((i : Int) + 1 - 1).toNat = i := by omega
      have c1 : p.getD (i + 1) 0 = vl p (i + 1) := rfl
      have c2 : p.getD i 0 = vl p i := rfl
      unfold B110_3
      simp (disch := omega) only [Ret_some, Ret_none, Ret_bind, Ret_asrt, Ret_cond, Sum.elim_inl, Sum.elim_inr, decide_eq_true_eq, decide_eq_false_iff_not, Bool.not_eq_true', Bool.not_not, Bool.and_eq_true, Bool.or_eq_true, Bool.true_eq_false, Bool.false_eq_true, Bool.not_true, Bool.not_false, if_true, if_false, ite_true, ite_false, true_and, and_true, false_and, and_false, Int.toNat_natCast, toN_succ, Int.ofNat_eq_natCast, Int.ofNat_toNat, Nat.zero_add, Nat.add_zero, not_true_eq_false, not_false_eq_true, implies_true, wr64, e1, e2, c1, c2]
      rw [if_pos (by omega)]
      refine ⟨by omega, by omega, ?_⟩
      split
      · rename_i c
        intro hm
        have := hm i (by omega)
        omega
      · rename_i c
        exact ⟨by omega, forall_lt_succ.2 ⟨hk, by omega⟩⟩
    · rintro s ⟨rfl, hk⟩
      unfold B110_3
      simp (disch := omega) only [Ret_some, Ret_none, Ret_bind, Ret_asrt, Ret_cond, Sum.elim_inl, Sum.elim_inr, decide_eq_true_eq, decide_eq_false_iff_not, Bool.not_eq_true', Bool.not_not, Bool.and_eq_true, Bool.or_eq_true, Bool.true_eq_false, Bool.false_eq_true, Bool.not_true, Bool.not_false, if_true, if_false, ite_true, ite_false, true_and, and_true, false_and, and_false, Int.toNat_natCast, toN_succ, Int.ofNat_eq_natCast, Int.ofNat_toNat, Nat.zero_add, Nat.add_zero, not_true_eq_false, not_false_eq_true, implies_true, wr64]
      rw [if_neg (by omega)]
      exact fun k hk' => hk k (by omega)
  have e1 : (a2 - 1).toNat = a2.toNat - 1 := by omega
  have hlast := hb (a2.toNat - 1) (by omega)
  have hmul := mul12 hs hlast (by omega)
  have hD : Ret (L110_8 p l (a1 * vl p (a2.toNat - 1), 0)) fun r => r = dual a1 a2.toNat (vl p) (ofs l) := by
    unfold L110_8
    refine Ret.loop l.length (fun i s => s.2 = (i : Int) ∧ s.1 = a1 * vl p (a2.toNat - 1) + dsum (vl p) (ofs (l.take i)) ∧ s.1 ≤ 120000 + 20200 * i) ⟨rfl, by simp [ofs, dsum], by simp only; omega⟩ ?_ ?_
    · rintro i ⟨s, y⟩ hi ⟨rfl, h1, h2⟩
      simp only at h1 h2
      have ho := h.ok i hi
      have hd := dsum_take (l := l) (vl p) hi
      have hnn := dsum_nn (vl p) (ofs (l.take i))
      obtain ⟨o, hxx⟩ : ∃ o, l.getD i TOffer.d = o := ⟨_, rfl⟩
      rw [hxx] at ho hd
      have b1 := hb o.to0.toNat (by omega)
      have b2 := hb o.from0.toNat (by omega)
      have c1 : p.getD o.to0.toNat 0 = vl p o.to0.toNat := rfl
      have c2 : p.getD o.from0.toNat 0 = vl p o.from0.toNat := rfl
      have hw1 : IntKind.wrap .i64 (o.value - vl p o.to0.toNat) = o.value - vl p o.to0.toNat := wr64 (by omega) (by omega)
      have hw2 : IntKind.wrap .i64 (o.value - vl p o.to0.toNat + vl p o.from0.toNat) = o.value - vl p o.to0.toNat + vl p o.from0.toNat := wr64 (by omega) (by omega)
      have hw3 : IntKind.wrap .i64 (s + max 0 (o.value - vl p o.to0.toNat + vl p o.from0.toNat)) = s + max 0 (o.value - vl p o.to0.toNat + vl p o.from0.toNat) := wr64 (by omega) (by omega)
      unfold B110_8
      simp only [Int.toNat_natCast, hxx]
      simp (disch := omega) only [Ret_some, Ret_none, Ret_bind, Ret_asrt, Ret_cond, Sum.elim_inl, Sum.elim_inr, decide_eq_true_eq, decide_eq_false_iff_not, Bool.not_eq_true', Bool.not_not, Bool.and_eq_true, Bool.or_eq_true, Bool.true_eq_false, Bool.false_eq_true, Bool.not_true, Bool.not_false, if_true, if_false, ite_true, ite_false, true_and, and_true, false_and, and_false, Int.toNat_natCast, toN_succ, Int.ofNat_eq_natCast, Int.ofNat_toNat, Nat.zero_add, Nat.add_zero, not_true_eq_false, not_false_eq_true, implies_true, wr64, c1, c2, hw1, hw2, hw3]
      rw [if_pos (by omega)]
      exact ⟨by omega, by omega, by omega, by omega, by omega, by omega⟩
    · rintro ⟨s, y⟩ ⟨rfl, h1, h2⟩
      simp only at h1
      unfold B110_8
      simp (disch := omega) only [Ret_some, Ret_none, Ret_bind, Ret_asrt, Ret_cond, Sum.elim_inl, Sum.elim_inr, decide_eq_true_eq, decide_eq_false_iff_not, Bool.not_eq_true', Bool.not_not, Bool.and_eq_true, Bool.or_eq_true, Bool.true_eq_false, Bool.false_eq_true, Bool.not_true, Bool.not_false, if_true, if_false, ite_true, ite_false, true_and, and_true, false_and, and_false, Int.toNat_natCast, toN_succ, Int.ofNat_eq_natCast, Int.ofNat_toNat, Nat.zero_add, Nat.add_zero, not_true_eq_false, not_false_eq_true, implies_true, wr64]
      rw [if_neg (by omega)]
      rw [List.take_length] at h1
      exact h1
  unfold F110
  rw [wr64 (by omega) (by omega), asrt_eq (by omega), Option.bind_some, e1]
  obtain ⟨x, hx, hxp⟩ := hM
  rw [hx]
  rcases x with _ | r
  · simp only [Option.bind_some, Sum.elim_inl]
    have c : p.getD (a2.toNat - 1) 0 = vl p (a2.toNat - 1) := rfl
    rw [c, wr64 (by omega) (by omega)]
    obtain ⟨r, hr, hrp⟩ := hD
    rw [hr]
    exact ⟨r, rfl, .inl ⟨hxp, hrp⟩⟩
  · exact ⟨r, rfl, .inr hxp⟩
def shf (P : Nat → Int) (v : Nat) (by0 : Int) (k : Nat) : Int := bif bitS v k then P k + by0 else P k
theorem dual_congr (h : Good l a1 a2) {p q : Nat → Int} (e : ∀ k, k < a2.toNat → p k = q k) : dual a1 a2.toNat p (ofs l) = dual a1 a2.toNat q (ofs l) := by
  have hst := h.stops
  unfold dual
  rw [dsum_congr (ofs_ok h) e, e (a2.toNat - 1) (by omega)]
theorem mono_congr {n : Nat} {p q : Nat → Int} (e : ∀ k, k < n → p k = q k) : Mono p n ↔ Mono q n := by
  constructor
  · intro h k hk; rw [← e k (by omega), ← e (k + 1) hk]; exact h k hk
  · intro h k hk; rw [e k (by omega), e (k + 1) hk]; exact h k hk
structure SOk (l : List TOffer) (a1 a2 : Int) (p : List Int) (now : Int) : Prop where
  len : p.length = a2.toNat
  z : vl p 0 = 0
  mono : Mono (vl p) a2.toNat
  hnow : now = dual a1 a2.toNat (vl p) (ofs l)
  le : now ≤ 2400
theorem mono_le {P : Nat → Int} {n : Nat} (h : Mono P n) : ∀ j, j < n → ∀ i, i ≤ j → P i ≤ P j := by
  intro j
  induction j with
  | zero => intro _ i hi; rw [show i = 0 by omega]; exact Int.le_refl _
  | succ j ih =>
    intro hj i hi
    by_cases e : i = j + 1
    · subst e; exact Int.le_refl _
    · have := ih (by omega) i (by omega)
      have := h j hj
      omega
theorem SOk.rng (h : Good l a1 a2) {p : List Int} {now : Int} (w : SOk l a1 a2 p now) {k : Nat} (hk : k < a2.toNat) : 0 ≤ vl p k ∧ vl p k ≤ 2400 := by
  have hs := h.seats
  have h1 := mono_le w.mono k hk 0 (by omega)
  have h2 := mono_le w.mono (a2.toNat - 1) (by omega) k (by omega)
  have h3 := dsum_nn (vl p) (ofs l)
  have h4 := w.hnow
  have h5 := w.le
  have h6 := w.z
  unfold dual at h4
  have h7 : 1 * vl p (a2.toNat - 1) ≤ a1 * vl p (a2.toNat - 1) := Int.mul_le_mul_of_nonneg_right hs.1 (by omega)
  omega
theorem F111_eq {x : List Int} (h0 : 0 < x.length) (h : x.length ≤ 1000) : F111 x = some ((), x) := by
  unfold F111 both
  rw [if_neg (by omega), asrt_eq (by omega), List.nil_append]
def byS (st : Int) (j : Nat) : Int := if j = 0 then st else -st
theorem L50_21_ret (h : Good l a1 a2) {st : Int} (h1 : 1 ≤ st ∧ st ≤ 64) {i5 : Nat} (hst : [64, 16, 4, 1, 1].getD i5 (0 : Int) = st) {v : Nat} (hv : v < 4096) {j : Nat} (hj : j < 2) {p : List Int} (hp : p.length = a2.toNat) (hb : ∀ k, k < a2.toNat → -10000 ≤ vl p k ∧ vl p k ≤ 9000) (c : Int × Int × List TOffer) :
    Ret (L50_21 (i5 : Int) (v : Int) (j : Int) ((), p) (c, 0, p)) fun o => o.1 = c ∧ o.2.length = a2.toNat ∧ ∀ k, k < a2.toNat → vl o.2 k = shf (vl p) v (byS st j) k := by
  have hs2 := h.stops
  unfold L50_21
  refine Ret.loop a2.toNat (fun i s => s.1 = c ∧ s.2.1 = (i : Int) ∧ s.2.2.length = a2.toNat ∧ (∀ k, k < i → vl s.2.2 k = shf (vl p) v (byS st j) k) ∧ ∀ k, i ≤ k → vl s.2.2 k = vl p k) ⟨rfl, rfl, hp, fun k hk => by omega, fun _ _ => rfl⟩ ?_ ?_
  · rintro i ⟨c', y, m⟩ hi ⟨rfl, rfl, g1, g2, g3⟩
    simp only at g1 g2 g3
    have g3i := g3 i (Nat.le_refl _)
    have hbi := hb i hi
    have c1 : m.getD i 0 = vl p i := g3i
    have hby : [st, IntKind.wrap .i64 (0 - st)].getD j 0 = byS st j := by
      rw [wr64 (by omega) (by omega)]
      unfold byS
      match j, hj with
      | 0, _ => rfl
      | 1, _ => show 0 - st = _; rw [if_neg (by omega)]; omega
    have hbr : -64 ≤ byS st j ∧ byS st j ≤ 64 := by unfold byS; split <;> omega
    unfold B50_21
    simp only [Int.toNat_natCast, hst, hby, bit1 v i (by omega)]
    simp (disch := omega) only [Ret_some, Ret_none, Ret_bind, Ret_asrt, Ret_cond, Sum.elim_inl, Sum.elim_inr, decide_eq_true_eq, decide_eq_false_iff_not, Bool.not_eq_true', Bool.not_not, Bool.and_eq_true, Bool.or_eq_true, Bool.true_eq_false, Bool.false_eq_true, Bool.not_true, Bool.not_false, if_true, if_false, ite_true, ite_false, true_and, and_true, false_and, and_false, Int.toNat_natCast, toN_succ, Int.ofNat_eq_natCast, Int.ofNat_toNat, Nat.zero_add, Nat.add_zero, not_true_eq_false, not_false_eq_true, implies_true, wr64, c1]
    rw [if_pos (by omega), if_pos (by omega)]
    cases hbit : bitS v i with
    | false =>
      rw [if_neg (by simp)]
      refine ⟨by omega, g1, forall_lt_succ.2 ⟨g2, ?_⟩, fun k hk => g3 k (by omega)⟩
      rw [g3i]; unfold shf; rw [hbit]; rfl
    | true =>
      rw [if_pos rfl]
      refine ⟨by omega, by omega, by omega, by simp; omega, forall_lt_succ.2 ⟨fun k hk => ?_, ?_⟩, fun k hk => ?_⟩
      · have := g2 k hk
        unfold vl at this ⊢
        rw [lgetD_set, if_neg (by omega)]; exact this
      · unfold vl shf
        rw [lgetD_set, if_pos ⟨rfl, by omega⟩, hbit]; rfl
      · have := g3 k (by omega)
        unfold vl at this ⊢
        rw [lgetD_set, if_neg (by omega)]; exact this
  · rintro ⟨c', y, m⟩ ⟨rfl, rfl, g1, g2, g3⟩
    unfold B50_21
    simp only
    simp (disch := omega) only [Ret_some, Ret_none, Ret_bind, Ret_asrt, Ret_cond, Sum.elim_inl, Sum.elim_inr, decide_eq_true_eq, decide_eq_false_iff_not, Bool.not_eq_true', Bool.not_not, Bool.and_eq_true, Bool.or_eq_true, Bool.true_eq_false, Bool.false_eq_true, Bool.not_true, Bool.not_false, if_true, if_false, ite_true, ite_false, true_and, and_true, false_and, and_false, Int.toNat_natCast, toN_succ, Int.ofNat_eq_natCast, Int.ofNat_toNat, Nat.zero_add, Nat.add_zero, not_true_eq_false, not_false_eq_true, implies_true, wr64]
    rw [if_neg (by omega)]
    exact ⟨g1, g2⟩
def NoB (l : List TOffer) (a1 a2 : Int) (p : List Int) (now : Int) (v : Nat) (b : Int) : Prop := Mono (shf (vl p) v b) a2.toNat → now ≤ dual a1 a2.toNat (shf (vl p) v b) (ofs l)
theorem bit0_even {v : Nat} (h : v % 2 = 0) : bitS v 0 = false := by
  unfold bitS
  simp [h]
theorem move_ret (h : Good l a1 a2) {st : Int} (h1 : 1 ≤ st ∧ st ≤ 64) {v : Nat} (hev : v % 2 = 0) {j : Nat} {p q : List Int} {now : Int} (w : SOk l a1 a2 p now) (hq : q.length = a2.toNat) (hqv : ∀ k, k < a2.toNat → vl q k = shf (vl p) v (byS st j) k) :
    Ret (F110 q a1 a2 l) fun r => if 0 ≤ r ∧ r < now then SOk l a1 a2 q r else NoB l a1 a2 p now v (byS st j) := by
  have hs2 := h.stops
  have hbr : -64 ≤ byS st j ∧ byS st j ≤ 64 := by unfold byS; split <;> omega
  have hqb : ∀ k, k < a2.toNat → -10000 ≤ vl q k ∧ vl q k ≤ 10000 := fun k hk => by
    have := w.rng h hk
    rw [hqv k hk]
    unfold shf
    cases bitS v k <;> simp only [cond_true, cond_false] <;> omega
  have hm := mono_congr (n := a2.toNat) (p := vl q) (q := shf (vl p) v (byS st j)) hqv
  have hd := dual_congr h (p := vl q) (q := shf (vl p) v (byS st j)) hqv
  obtain ⟨r, hr, hrp⟩ := F110_ret h hq hqb
  refine ⟨r, hr, ?_⟩
  rcases hrp with ⟨m1, m2⟩ | ⟨m1, m2⟩
  · split
    · rename_i c
      refine ⟨hq, ?_, m1, m2, by have := w.le; omega⟩
      rw [hqv 0 (by omega)]
      unfold shf
      rw [bit0_even hev]
      exact w.z
    · rename_i c
      intro _
      have hz : vl q 0 = 0 := by
        rw [hqv 0 (by omega)]
        unfold shf
        rw [bit0_even hev]
        exact w.z
      have h5 := mono_le m1 (a2.toNat - 1) (by omega) 0 (by omega)
      have h6 := dsum_nn (vl q) (ofs l)
      have h7 : 0 ≤ a1 * vl q (a2.toNat - 1) := Int.mul_nonneg (by have := h.seats; omega) (by omega)
      have : 0 ≤ r := by rw [m2]; unfold dual; omega
      omega
  · rw [if_neg (by omega)]
    intro hh
    exact absurd (hm.2 hh) m1
structure Ps (l : List TOffer) (a1 a2 : Int) (st : Int) (p0 : List Int) (now0 : Int) (done : Nat → Nat → Prop) (p : List Int) (c : Int × Int × List TOffer) (now : Int) (ag : Bool) : Prop where
  ok : SOk l a1 a2 p now
  c : c = (a1, a2, l)
  no : ag = false → p = p0 ∧ now = now0 ∧ ∀ v j, done v j → NoB l a1 a2 p0 now0 v (byS st j)
  yes : ag = true → now < now0
theorem L50_17_ret (h : Good l a1 a2) {st : Int} (h1 : 1 ≤ st ∧ st ≤ 64) {i5 : Nat} (hst : [64, 16, 4, 1, 1].getD i5 (0 : Int) = st) {v : Nat} (hv : v < 4096) (hev : v % 2 = 0) {p0 : List Int} {now0 : Int} {done : Nat → Nat → Prop} {p : List Int} {now : Int} {ag : Bool} (w : Ps l a1 a2 st p0 now0 done p (a1, a2, l) now ag) :
    Ret (L50_17 (i5 : Int) (v : Int) (p, (a1, a2, l), now, ag, 0)) fun o => Ps l a1 a2 st p0 now0 (fun v' j => done v' j ∨ (v' = v ∧ j < 2)) o.1 o.2.1 o.2.2.1 o.2.2.2 := by
  have hs2 := h.stops
  unfold L50_17
  refine Ret.loop 2 (fun i s => s.2.2.2.2 = (i : Int) ∧ Ps l a1 a2 st p0 now0 (fun v' j => done v' j ∨ (v' = v ∧ j < i)) s.1 s.2.1 s.2.2.1 s.2.2.2.1)
    ⟨rfl, ⟨w.ok, w.c, fun e => ⟨(w.no e).1, (w.no e).2.1, fun v' j hd => (w.no e).2.2 v' j (hd.resolve_right (by omega))⟩, w.yes⟩⟩ ?_ ?_
  · rintro i ⟨p, c, now, ag, y⟩ hi ⟨rfl, w⟩
    simp only at w
    obtain rfl := w.c
    have hpl := w.ok.len
    obtain ⟨o, ho, o1, o2, o3⟩ := L50_21_ret h h1 hst hv hi hpl (fun k hk => by have := w.ok.rng h hk; omega) (a1, a2, l)
    obtain ⟨c', q⟩ := o
    simp only at o1 o2 o3
    subst o1
    obtain ⟨r, hr, hrp⟩ := move_ret h h1 hev w.ok o2 o3
    have hno : NoB l a1 a2 p now v (byS st i) → Ps l a1 a2 st p0 now0 (fun v' j => done v' j ∨ (v' = v ∧ j < i + 1)) p (a1, a2, l) now ag := fun hn =>
      ⟨w.ok, rfl, fun e => ⟨(w.no e).1, (w.no e).2.1, fun v' j hd => by
        by_cases cj : v' = v ∧ j = i
        · obtain ⟨rfl, rfl⟩ := cj
          have e1 := (w.no e).1
          have e2 := (w.no e).2.1
          subst e1
          subst e2
          exact hn
        · refine (w.no e).2.2 v' j ?_
          rcases hd with hd | hd
          · exact .inl hd
          · exact .inr (by omega)⟩, w.yes⟩
    have hyes : SOk l a1 a2 q r → r < now → Ps l a1 a2 st p0 now0 (fun v' j => done v' j ∨ (v' = v ∧ j < i + 1)) q (a1, a2, l) r true := fun hk hlt =>
      ⟨hk, rfl, fun e => (by cases e), fun _ => by
        by_cases e : ag = true
        · have := w.yes e; omega
        · have := (w.no (by simpa using e)).2.1; omega⟩
    unfold B50_17
    simp only []
    rw [F111_eq (x := p) (by omega) (by omega)]
    simp only [Option.bind_some, ho, List.take_length, hr]
    have hb : decide ((i : Int) < 2) = true := by simp; omega
    rw [hb, cond_true, asrt_eq (by omega), asrt_eq (by omega), wr64 (by omega) (by omega)]
    by_cases c1 : 0 ≤ r
    · by_cases c2 : r < now
      · rw [decide_eq_true c1, decide_eq_true c2]
        rw [if_pos ⟨c1, c2⟩] at hrp
        exact ⟨_, rfl, by simp, hyes hrp c2⟩
      · rw [decide_eq_true c1, decide_eq_false c2]
        rw [if_neg (by omega)] at hrp
        exact ⟨_, rfl, by simp, hno hrp⟩
    · rw [decide_eq_false c1]
      rw [if_neg (by omega)] at hrp
      exact ⟨_, rfl, by simp, hno hrp⟩
  · rintro ⟨p, c, now, ag, y⟩ ⟨rfl, w⟩
    unfold B50_17
    exact ⟨.inr (p, c, now, ag), rfl, w⟩
end
/-! ### all moves -/
section
variable {l : List TOffer} {a1 a2 : Int}
def Tr (n v j : Nat) : Prop := v % 2 = 0 ∧ 2 ≤ v ∧ v < 2 ^ n ∧ j < 2
theorem L50_14_ret (h : Good l a1 a2) {st : Int} (h1 : 1 ≤ st ∧ st ≤ 64) {i5 : Nat} (hst : [64, 16, 4, 1, 1].getD i5 (0 : Int) = st) {p0 : List Int} {now0 : Int} (w0 : SOk l a1 a2 p0 now0) :
    Ret (L50_14 a2 (i5 : Int) (p0, (a1, a2, l), now0, false, 2)) fun o => Ps l a1 a2 st p0 now0 (Tr a2.toNat) o.1 o.2.1 o.2.2.1 o.2.2.2 := by
  have hs2 := h.stops
  have h2p : 2 ^ a2.toNat ≤ 4096 := pow12 (by omega)
  have e2 : 2 ^ a2.toNat = 2 * 2 ^ (a2.toNat - 1) := by
    rw [show a2.toNat = (a2.toNat - 1) + 1 by omega, Nat.pow_succ, Nat.mul_comm]; simp
  have hpos : 0 < 2 ^ (a2.toNat - 1) := Nat.two_pow_pos _
  have hsh : shlI .i64 1 a2 = ((2 ^ a2.toNat : Nat) : Int) := by
    rw [← shl1 a2.toNat (by omega), Int.toNat_of_nonneg (by omega)]
  unfold L50_14
  refine Ret.loop (2 ^ (a2.toNat - 1) - 1) (fun i s => s.2.2.2.2 = ((2 + 2 * i : Nat) : Int) ∧ Ps l a1 a2 st p0 now0 (fun v j => Tr a2.toNat v j ∧ v < 2 + 2 * i) s.1 s.2.1 s.2.2.1 s.2.2.2.1)
    ⟨rfl, ⟨w0, rfl, fun _ => ⟨rfl, rfl, fun v j hd => by obtain ⟨⟨_, h2, _⟩, h3⟩ := hd; omega⟩, fun e => (by cases e)⟩⟩ ?_ ?_
  · rintro i ⟨p, c, now, ag, y⟩ hi ⟨rfl, w⟩
    simp only at w
    obtain rfl := w.c
    obtain ⟨o, ho, w'⟩ := L50_17_ret h h1 hst (v := 2 + 2 * i) (by omega) (by omega) w
    unfold B50_14
    simp only [hsh]
    have b1 : decide (0 ≤ a2) = true := by simp; omega
    have b2 : decide (((2 + 2 * i : Nat) : Int) < ((2 ^ a2.toNat : Nat) : Int)) = true := by simp only [decide_eq_true_eq]; omega
    rw [b1, b2, cond_true, cond_true, ho, Option.bind_some, wr64 (by omega) (by omega)]
    refine ⟨_, rfl, by simp only; omega, w'.ok, w'.c, fun e => ⟨(w'.no e).1, (w'.no e).2.1, fun v j hd => (w'.no e).2.2 v j ?_⟩, w'.yes⟩
    obtain ⟨⟨t1, t2, t3, t4⟩, t5⟩ := hd
    by_cases c : v = 2 + 2 * i
    · exact .inr ⟨c, t4⟩
    · exact .inl ⟨⟨t1, t2, t3, t4⟩, by omega⟩
  · rintro ⟨p, c, now, ag, y⟩ ⟨rfl, w⟩
    simp only at w
    unfold B50_14
    simp only [hsh]
    have b1 : decide (0 ≤ a2) = true := by simp; omega
    have b2 : decide (((2 + 2 * (2 ^ (a2.toNat - 1) - 1) : Nat) : Int) < ((2 ^ a2.toNat : Nat) : Int)) = false := by simp only [decide_eq_false_iff_not]; omega
    rw [b1, b2]
    refine ⟨.inr (p, c, now, ag), rfl, w.ok, w.c, fun e => ⟨(w.no e).1, (w.no e).2.1, fun v j hd => (w.no e).2.2 v j ⟨hd, ?_⟩⟩, w.yes⟩
    have := hd.2.2.1
    omega
theorem SOk.nn (h : Good l a1 a2) {p : List Int} {now : Int} (w : SOk l a1 a2 p now) : 0 ≤ now := by
  have hs := h.seats
  have hst := h.stops
  have h1 := w.rng h (k := a2.toNat - 1) (by omega)
  have h2 := dsum_nn (vl p) (ofs l)
  have h3 := w.hnow
  have h4 : 0 ≤ a1 * vl p (a2.toNat - 1) := Int.mul_nonneg (by omega) h1.1
  unfold dual at h3
  omega
theorem L50_11_ret (h : Good l a1 a2) {st : Int} (h1 : 1 ≤ st ∧ st ≤ 64) {i5 : Nat} (hst : [64, 16, 4, 1, 1].getD i5 (0 : Int) = st) {p0 : List Int} {now0 : Int} (w0 : SOk l a1 a2 p0 now0) :
    Ret (L50_11 a2 (i5 : Int) (p0, (a1, a2, l), now0, true)) fun o => SOk l a1 a2 o.1 o.2.2 ∧ o.2.1 = (a1, a2, l) ∧ ∀ v j, Tr a2.toNat v j → NoB l a1 a2 o.1 o.2.2 v (byS st j) := by
  unfold L50_11
  refine Ret.while (fun s => SOk l a1 a2 s.1 s.2.2.1 ∧ s.2.1 = (a1, a2, l) ∧ (s.2.2.2 = false → ∀ v j, Tr a2.toNat v j → NoB l a1 a2 s.1 s.2.2.1 v (byS st j))) (fun s => s.2.2.1.toNat + if s.2.2.2 = true then 1 else 0) ⟨w0, rfl, fun e => (by cases e)⟩ ?_
  rintro ⟨p, c, now, ag⟩ ⟨g1, g2, g3⟩
  simp only at g1 g2 g3
  subst g2
  unfold B50_11
  rcases ag with _ | _
  · exact ⟨.inr (p, (a1, a2, l), now), rfl, g1, rfl, g3 rfl⟩
  · obtain ⟨o, ho, w⟩ := L50_14_ret h h1 hst g1
    simp only [cond_true]
    rw [ho]
    refine Ret_some.2 ⟨⟨w.ok, w.c, fun e v j ht => ?_⟩, ?_⟩
    · obtain ⟨e1, e2, e3⟩ := w.no e
      simp only
      rw [e1, e2]
      exact e3 v j ht
    · have n1 := w.ok.nn h
      have n2 := g1.nn h
      simp only
      rcases ho1 : o.2.2.2 with _ | _
      · rw [(w.no ho1).2.1]; simp
      · have := w.yes ho1; simp; omega
theorem L50_8_ret (h : Good l a1 a2) {p0 : List Int} {now0 : Int} (w0 : SOk l a1 a2 p0 now0) :
    Ret (L50_8 a2 (p0, (a1, a2, l), now0, 0)) fun p => ∃ now, SOk l a1 a2 p now ∧ ∀ v j, Tr a2.toNat v j → NoB l a1 a2 p now v (byS 1 j) := by
  unfold L50_8
  refine Ret.loop 5 (fun i s => s.2.2.2 = (i : Int) ∧ SOk l a1 a2 s.1 s.2.2.1 ∧ s.2.1 = (a1, a2, l) ∧ (i = 5 → ∀ v j, Tr a2.toNat v j → NoB l a1 a2 s.1 s.2.2.1 v (byS 1 j))) ⟨rfl, w0, rfl, fun e => (by cases e)⟩ ?_ ?_
  · rintro i ⟨p, c, now, y⟩ hi ⟨rfl, g1, g2, _⟩
    simp only at g1 g2
    subst g2
    have hst : ∃ st, [64, 16, 4, 1, 1].getD i (0 : Int) = st ∧ (1 ≤ st ∧ st ≤ 64) ∧ (i = 4 → st = 1) := by
      match i, hi with
      | 0, _ => exact ⟨64, rfl, by decide, by decide⟩
      | 1, _ => exact ⟨16, rfl, by decide, by decide⟩
      | 2, _ => exact ⟨4, rfl, by decide, by decide⟩
      | 3, _ => exact ⟨1, rfl, by decide, by decide⟩
      | 4, _ => exact ⟨1, rfl, by decide, by decide⟩
    obtain ⟨st, s1, s2, s3⟩ := hst
    obtain ⟨o, ho, o1, o2, o3⟩ := L50_11_ret h s2 s1 g1
    unfold B50_8
    simp only []
    rw [ho]
    have hb : decide ((i : Int) < 5) = true := by simp; omega
    rw [hb, cond_true, asrt_eq (by omega), wr64 (by omega) (by omega)]
    refine ⟨_, rfl, by simp, o1, ?_, fun e v j ht => ?_⟩
    · simp only; rw [o2]
    · have := o3 v j ht
      rw [s3 (by omega)] at this
      exact this
  · rintro ⟨p, c, now, y⟩ ⟨rfl, g1, g2, g3⟩
    unfold B50_8
    exact ⟨.inr p, rfl, now, g1, g3 rfl⟩
theorem loc_of (h : Good l a1 a2) {p : List Int} {now : Int} (w : SOk l a1 a2 p now) (hno : ∀ v j, Tr a2.toNat v j → NoB l a1 a2 p now v (byS 1 j)) (X : Nat → Bool) (hX : Mono (mv (vl p) X) a2.toNat) : dual a1 a2.toNat (vl p) (ofs l) ≤ dual a1 a2.toNat (mv (vl p) X) (ofs l) := by
  have hs2 := h.stops
  obtain ⟨v, hv, hb⟩ := bits_of (fun k => X 0 != X k) a2.toNat
  have hv0 : v % 2 = 0 := by
    have := hb 0 (by omega)
    unfold bitS at this
    simp at this
    omega
  have key : ∀ k, k < a2.toNat → mv (vl p) X k = shf (vl p) v (byS 1 (bif X 0 then 0 else 1)) k := fun k hk => by
    unfold mv shf byS b2i
    rw [hb k hk]
    cases X 0 <;> cases X k <;> simp <;> omega
  by_cases c : 2 ≤ v
  · have := hno v (bif X 0 then 0 else 1) ⟨hv0, c, hv, by cases X 0 <;> decide⟩ ((mono_congr key).1 hX)
    rw [dual_congr h key, ← w.hnow]
    exact this
  · have hv' : v = 0 := by omega
    subst hv'
    rw [dual_congr h (p := mv (vl p) X) (q := vl p) fun k hk => by
      rw [key k hk]
      unfold shf
      have : bitS 0 k = false := by unfold bitS; simp
      rw [this]; rfl]
    exact Int.le_refl _
theorem L50_33_ret (h : Good l a1 a2) {p : List Int} {now : Int} (w : SOk l a1 a2 p now) : Ret (L50_33 a2 p ([], 1)) fun o => o.length = a2.toNat - 1 ∧ ∀ k, k < a2.toNat - 1 → o.getD k 0 = vl p (k + 1) - vl p k := by
  have hs2 := h.stops
  have hpl := w.len
  unfold L50_33
  refine Ret.loop (a2.toNat - 1) (fun i s => s.2 = (i : Int) + 1 ∧ s.1.length = i ∧ ∀ k, k < i → s.1.getD k 0 = vl p (k + 1) - vl p k) ⟨rfl, rfl, fun k hk => by omega⟩ ?_ ?_
  · rintro i ⟨o, y⟩ hi ⟨rfl, g1, g2⟩
    simp only at g1 g2
    have e1 : ((i : Int) + 1).toNat = i + 1 := by omega
    have e2 : ((i : Int) + 1 - 1).toNat = i := by omega
    have c1 : p.getD (i + 1) 0 = vl p (i + 1) := rfl
    have c2 : p.getD i 0 = vl p i := rfl
    have r1 := w.rng h (k := i + 1) (by omega)
    have r2 := w.rng h (k := i) (by omega)
    unfold B50_33
    simp (disch := omega) only [Ret_some, Ret_none, Ret_bind, Ret_asrt, Ret_cond, Sum.elim_inl, Sum.elim_inr, decide_eq_true_eq, decide_eq_false_iff_not, Bool.not_eq_true', Bool.not_not, Bool.and_eq_true, Bool.or_eq_true, Bool.true_eq_false, Bool.false_eq_true, Bool.not_true, Bool.not_false, if_true, if_false, ite_true, ite_false, true_and, and_true, false_and, and_false, Int.toNat_natCast, toN_succ, Int.ofNat_eq_natCast, Int.ofNat_toNat, Nat.zero_add, Nat.add_zero, not_true_eq_false, not_false_eq_true, implies_true, wr64, e1, e2, c1, c2]
    rw [if_pos (by omega)]
    refine ⟨by omega, by omega, by omega, by omega, by simp; omega, forall_lt_succ.2 ⟨fun k hk => ?_, ?_⟩⟩
    · rw [← g2 k hk]
      simp [List.getD_eq_getElem?_getD, List.getElem?_append_left (show k < o.length by omega)]
    · rw [← g1]
      simp [List.getD_eq_getElem?_getD]
  · rintro ⟨o, y⟩ ⟨rfl, g1, g2⟩
    unfold B50_33
    simp (disch := omega) only [Ret_some, Ret_none, Ret_bind, Ret_asrt, Ret_cond, Sum.elim_inl, Sum.elim_inr, decide_eq_true_eq, decide_eq_false_iff_not, Bool.not_eq_true', Bool.not_not, Bool.and_eq_true, Bool.or_eq_true, Bool.true_eq_false, Bool.false_eq_true, Bool.not_true, Bool.not_false, if_true, if_false, ite_true, ite_false, true_and, and_true, false_and, and_false, Int.toNat_natCast, toN_succ, Int.ofNat_eq_natCast, Int.ofNat_toNat, Nat.zero_add, Nat.add_zero, not_true_eq_false, not_false_eq_true, implies_true, wr64]
    rw [if_neg (by omega)]
    exact ⟨g1, g2⟩
end
/-! ### the bids' sum; the law -/
section
variable {l : List TOffer} {a1 a2 : Int}
theorem F51_ret (h : Good l a1 a2) {p : List Int} {now : Int} (w : SOk l a1 a2 p now) {b : List Int} (hb : b.length = a2.toNat - 1) (hbk : ∀ k, k < a2.toNat - 1 → b.getD k 0 = vl p (k + 1) - vl p k) :
    F51 l a1 b = some (dual a1 a2.toNat (vl p) (ofs l)) := by
  have hs := h.seats
  have hs2 := h.stops
  have hll := h.len
  have hL3 : L51_3 a1 b (0, 0) = some (a1 * vl p (a2.toNat - 1)) := by
    refine Ret.eq ?_
    unfold L51_3
    refine Ret.loop (a2.toNat - 1) (fun i s => s.2 = (i : Int) ∧ s.1 = a1 * vl p i) ⟨rfl, by simp only; rw [w.z, Int.mul_zero]⟩ ?_ ?_
    · rintro i ⟨s, y⟩ hi ⟨rfl, g1⟩
      simp only at g1
      subst g1
      have r1 := w.rng h (k := i + 1) (by omega)
      have r2 := w.rng h (k := i) (by omega)
      have m1 := mul12 (x := vl p (i + 1)) (B := 2400) hs (by omega) (by omega)
      have m2 := mul12 (x := vl p i) (B := 2400) hs (by omega) (by omega)
      have hk := hbk i hi
      have hm : a1 * (vl p (i + 1) - vl p i) = a1 * vl p (i + 1) - a1 * vl p i := Int.mul_sub ..
      have hw1 : IntKind.wrap .i64 (a1 * vl p (i + 1) - a1 * vl p i) = a1 * vl p (i + 1) - a1 * vl p i := wr64 (by omega) (by omega)
      have hw2 : IntKind.wrap .i64 (a1 * vl p i + (a1 * vl p (i + 1) - a1 * vl p i)) = a1 * vl p i + (a1 * vl p (i + 1) - a1 * vl p i) := wr64 (by omega) (by omega)
      unfold B51_3
      simp only [Int.toNat_natCast, hk, hm, hw1, hw2]
      have hd : decide ((i : Int) < (b.length : Int)) = true := by simp; omega
      rw [hd, cond_true, asrt_eq (by omega), wr64 (by omega) (by omega)]
      exact ⟨_, rfl, by simp, by simp only; omega⟩
    · rintro ⟨s, y⟩ ⟨rfl, g1⟩
      simp only at g1
      unfold B51_3
      have hd : decide (((a2.toNat - 1 : Nat) : Int) < (b.length : Int)) = false := by simp; omega
      simp only []
      rw [hd]
      exact ⟨.inr s, rfl, g1⟩
  have hlast := w.rng h (k := a2.toNat - 1) (by omega)
  have hmul := mul12 (x := vl p (a2.toNat - 1)) (B := 2400) hs (by omega) (by omega)
  have hL8 : Ret (L51_8 l b (a1 * vl p (a2.toNat - 1), 0)) fun r => r = dual a1 a2.toNat (vl p) (ofs l) := by
    unfold L51_8
    refine Ret.loop l.length (fun i s => s.2 = (i : Int) ∧ s.1 = a1 * vl p (a2.toNat - 1) + dsum (vl p) (ofs (l.take i)) ∧ s.1 ≤ 30000 + 5000 * i) ⟨rfl, by simp [ofs, dsum], by simp only; omega⟩ ?_ ?_
    · rintro i ⟨s, y⟩ hi ⟨rfl, g1, g2⟩
      simp only at g1 g2
      have ho := h.ok i hi
      have hd := dsum_take (l := l) (vl p) hi
      have hnn := dsum_nn (vl p) (ofs (l.take i))
      obtain ⟨o, hxx⟩ : ∃ o, l.getD i TOffer.d = o := ⟨_, rfl⟩
      rw [hxx] at ho hd
      have hI : L51_12 l b (i : Int) (o.value, o.from0) = some (o.value - (vl p o.to0.toNat - vl p o.from0.toNat)) := by
        refine Ret.eq ?_
        unfold L51_12
        refine Ret.loop (o.to0 - o.from0).toNat (fun j s => s.2 = o.from0 + (j : Int) ∧ s.1 = o.value - (vl p (o.from0.toNat + j) - vl p o.from0.toNat)) ⟨by simp, by simp⟩ ?_ ?_
        · rintro j ⟨s, y⟩ hj ⟨g1, g2⟩
          simp only at g1 g2
          subst g1
          have ej : (o.from0 + (j : Int)).toNat = o.from0.toNat + j := by omega
          have hk := hbk (o.from0.toNat + j) (by omega)
          have r1 := w.rng h (k := o.from0.toNat + j + 1) (by omega)
          have r2 := w.rng h (k := o.from0.toNat + j) (by omega)
          have r3 := w.rng h (k := o.from0.toNat) (by omega)
          unfold B51_12
          simp only [Int.toNat_natCast, hxx, ej, hk]
          have hdd : decide (o.from0 + (j : Int) < o.to0) = true := by simp; omega
          rw [hdd, cond_true, asrt_eq (by omega), wr64 (x := s - _) (by omega) (by omega), wr64 (by omega) (by omega)]
          refine ⟨_, rfl, by simp only; omega, ?_⟩
          simp only
          rw [show o.from0.toNat + (j + 1) = o.from0.toNat + j + 1 by omega]
          omega
        · rintro ⟨s, y⟩ ⟨g1, g2⟩
          simp only at g1 g2
          subst g1
          unfold B51_12
          simp only [Int.toNat_natCast, hxx]
          have hdd : decide (o.from0 + (((o.to0 - o.from0).toNat : Nat) : Int) < o.to0) = false := by simp; omega
          rw [hdd]
          refine ⟨.inr s, rfl, ?_⟩
          rw [g2, show o.from0.toNat + (o.to0 - o.from0).toNat = o.to0.toNat by omega]
      have r1 := w.rng h (k := o.to0.toNat) (by omega)
      have r2 := w.rng h (k := o.from0.toNat) (by omega)
      unfold B51_8
      simp only [Int.toNat_natCast, hxx, hI, Option.bind_some]
      have hdd : decide ((i : Int) < (l.length : Int)) = true := by simp; omega
      rw [hdd, cond_true, asrt_eq (by omega), wr64 (x := s + _) (by omega) (by omega), wr64 (by omega) (by omega)]
      exact ⟨_, rfl, by simp, by simp only; omega, by simp only; omega⟩
    · rintro ⟨s, y⟩ ⟨rfl, g1, g2⟩
      simp only at g1
      unfold B51_8
      have hdd : decide ((l.length : Int) < (l.length : Int)) = false := by simp
      simp only []
      rw [hdd]
      rw [List.take_length] at g1
      exact ⟨.inr s, rfl, g1⟩
  obtain ⟨r, hr, rfl⟩ := hL8
  unfold F51
  rw [hL3, Option.bind_some, hr]
  rfl
theorem L12_8_eq (h : Good l a1 a2) {p : List Int} {now : Int} (w : SOk l a1 a2 p now) {b : List Int} (hb : b.length = a2.toNat - 1) (hbk : ∀ k, k < a2.toNat - 1 → b.getD k 0 = vl p (k + 1) - vl p k) (c : Int) :
    L12_8 (b, c) 0 = some (.inl ()) := by
  have hs2 := h.stops
  refine Ret.eq ?_
  unfold L12_8
  refine Ret.loop b.length (fun i s => s = (i : Int)) rfl ?_ ?_
  · rintro i s hi rfl
    have hk := hbk i (by omega)
    have r1 := w.rng h (k := i + 1) (by omega)
    have r2 := w.rng h (k := i) (by omega)
    have r3 := w.mono i (by omega)
    unfold B12_8
    simp only [Int.toNat_natCast, hk]
    have d1 : decide ((i : Int) < (b.length : Int)) = true := by simp; omega
    have d2 : decide (vl p (i + 1) - vl p i < 0) = false := by simp; omega
    have d3 : decide (1099511627776 < vl p (i + 1) - vl p i) = false := by simp; omega
    rw [d1, cond_true, asrt_eq (by omega), d2, d3, wr64 (by omega) (by omega)]
    exact ⟨_, rfl, by simp⟩
  · rintro s rfl
    unfold B12_8
    have d1 : decide ((b.length : Int) < (b.length : Int)) = false := by simp
    simp only []
    rw [d1]
    exact ⟨_, rfl, rfl⟩
theorem dsum_zero (h : Good l a1 a2) : ∀ i, i ≤ l.length → dsum (fun _ => 0) (ofs (l.take i)) ≤ 200 * (i : Int)
  | 0, _ => by simp [ofs, dsum]
  | i + 1, hi => by
    have ih := dsum_zero h i (by omega)
    have hd := dsum_take (l := l) (fun _ => 0) (i := i) (by omega)
    have ho := h.ok i (by omega)
    omega
theorem F12_true (a0 : List TOffer) (a1 a2 : Int) : F12 a0 a1 a2 = some true := by
  obtain ⟨r, hr, hg⟩ := F44_ret a0 a1 a2
  unfold F12 F50
  rw [F99_eq, hr, F18_eq]
  simp only [Option.bind_some]
  by_cases c : r = 0
  case neg => simp [c]
  subst c
  have h := hg rfl
  have hs := h.seats
  have hs2 := h.stops
  have hll := h.len
  have hz : ∀ k, k < a2.toNat → vl (List.replicate a2.toNat 0) k = 0 := fun k hk => by unfold vl; exact getD_rep hk
  have hmz : Mono (vl (List.replicate a2.toNat 0)) a2.toNat := fun k hk => by rw [hz k (by omega), hz (k + 1) hk]; exact Int.le_refl _
  obtain ⟨n0, hn0, hn1⟩ := F110_ret h (p := List.replicate a2.toNat 0) (by simp) (fun k hk => by rw [hz k hk]; omega)
  have hn1 := hn1.resolve_right fun e => e.1 hmz
  have w0 : SOk a0 a1 a2 (List.replicate a2.toNat 0) n0 := by
    refine ⟨by simp, hz 0 (by omega), hmz, hn1.2, ?_⟩
    rw [hn1.2, dual_congr h (q := fun _ => 0) hz]
    have := dsum_zero h a0.length (Nat.le_refl _)
    rw [List.take_length] at this
    unfold dual
    simp only [Int.mul_zero]
    omega
  obtain ⟨p, hp, now, w, hno⟩ := L50_8_ret h w0
  obtain ⟨b, hb, b1, b2⟩ := L50_33_ret h w
  have hbest := best_dual h w.mono w.z (loc_of h w hno)
  have h51 := F51_ret h w b1 b2
  have h12 := L12_8_eq h w b1 b2 0
  have e0 : (Int.ofNat 0 : Int) = 0 := rfl
  simp only [decide_true, Bool.not_true, cond_false]
  rw [asrt_eq (by refine ⟨by omega, Int.le_refl _, by omega, by omega⟩)]
  simp only [e0, hn0, hp, hb, Option.bind_some]
  have hlen : decide ((b.length : Int) = IntKind.wrap .i64 (a2 - 1)) = true := by
    rw [wr64 (by omega) (by omega)]; simp; omega
  unfold F45
  rw [L45_3_ret h]
  simp [hlen, h12, h51, hbest]
end
end Go.Proofs.Ytgghnfmabphbmaa
