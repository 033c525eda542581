/- FleetInspects: what its pure functions return. -/
import Derived.Test.YtciflideblafgaaA22
import Derived.Test.YtciflideblafgaaL13C
open Go Go.Proofs.Ytciflideblafgaa.Fw
namespace Go.Proofs.Ytciflideblafgaa
set_option maxRecDepth 100000
set_option linter.unusedVariables false
set_option linter.unusedSimpArgs false

/-- lists that are not too long -/
def Fit {α : Type} (l : List α) : Prop := l.length < 140737488355328

theorem F76_eq (n a b : Int) : F76 n a b = some (decide (a ≤ n ∧ n ≤ b)) := by
  unfold F76
  by_cases h : a ≤ n <;> simp [h]

/-! ### kilometres between inspections: the law itself -/

/-- what a set runs: kilometres by position, where it may be looked at -/
structure Pb where
  K : Nat → Int
  my : Nat → Bool
  k0 : Int
  L : Int
  n : Nat
  K0 : ∀ i, 0 ≤ K i
  k00 : 0 ≤ k0

namespace Pb
variable (P : Pb)

/-- kilometres since the last look, behind i tasks -/
def st (A : List Int) : Nat → Int
  | 0 => P.k0
  | i + 1 => (if (i : Int) ∈ A then 0 else st A i) + P.K i

/-- never too many before m -/
def KT (A : List Int) (m : Nat) : Prop := ∀ i, i < m → P.st A (i + 1) ≤ P.L

structure Sub (A : List Int) : Prop where
  srt : A.Pairwise (· < ·)
  el : ∀ x ∈ A, ∃ i : Nat, x = (i : Int) ∧ i ≤ P.n ∧ P.my i = true

/-- no choice that keeps the limit is ahead of C -/
def Dom (C : List Int) : Prop := ∀ A, P.Sub A → P.KT A P.n → C.length ≤ A.length ∧ ∀ i, i < C.length → A.getD i 0 ≤ C.getD i 0

def Best : Option (List Int) → Prop
  | some C => P.Sub C ∧ P.KT C P.n ∧ P.Dom C
  | none => ∀ A, P.Sub A → ¬ P.KT A P.n

variable {P}

theorem Best.uniq : ∀ {a b : Option (List Int)}, P.Best a → P.Best b → a = b
  | none, none, _, _ => rfl
  | none, some C, h, g => absurd g.2.1 (h C g.1)
  | some C, none, h, g => absurd h.2.1 (g C h.1)
  | some C, some D, h, g => by
    have h1 := h.2.2 D g.1 g.2.1
    have h2 := g.2.2 C h.1 h.2.1
    refine congrArg some (list_ext_getD 0 (by omega) fun i hi => ?_)
    have := h1.2 i hi
    have := h2.2 i (by omega)
    omega

theorem st_nn (A : List Int) : ∀ m, 0 ≤ P.st A m
  | 0 => P.k00
  | m + 1 => by
    have := st_nn A m
    have := P.K0 m
    unfold st
    split <;> omega

theorem cmp {A C : List Int} : ∀ {m : Nat}, (∀ i : Nat, i < m → (i : Int) ∈ A → ∃ c ∈ C, (i : Int) ≤ c ∧ c < (m : Int)) → P.st C m ≤ P.st A m
  | 0, _ => Int.le_refl _
  | m + 1, h => by
    have hA := st_nn (P := P) A m
    unfold st
    by_cases c : (m : Int) ∈ C
    · rw [if_pos c]
      split <;> omega
    · have hm : (m : Int) ∉ A := fun hm => by
        obtain ⟨x, hx, h1, h2⟩ := h m (by omega) hm
        have : x = (m : Int) := by omega
        exact c (this ▸ hx)
      rw [if_neg c, if_neg hm]
      have := cmp (A := A) (C := C) (m := m) fun i hi hiA => by
        obtain ⟨x, hx, h1, h2⟩ := h i (by omega) hiA
        have : x ≠ (m : Int) := fun e => c (e ▸ hx)
        exact ⟨x, hx, h1, by omega⟩
      omega

theorem st_app (C : List Int) (v : Int) (m : Nat) : P.st (C ++ [v]) m ≤ P.st C m :=
  cmp fun i hi h => ⟨i, List.mem_append_left _ h, Int.le_refl _, by omega⟩

theorem KT_app {C : List Int} (v : Int) {m : Nat} (h : P.KT C m) : P.KT (C ++ [v]) m := fun i hi => Int.le_trans (st_app C v _) (h i hi)

theorem stuck {C : List Int} {at0 : Nat} (hn : at0 < P.n) (hv : P.L < P.st C (at0 + 1)) (hm : ∀ i : Nat, i ≤ at0 → P.my i = true → ∃ c ∈ C, (i : Int) ≤ c ∧ c ≤ (at0 : Int)) : P.Best none := fun A hA hk => by
  have h1 := hk at0 hn
  have := cmp (P := P) (A := A) (C := C) (m := at0 + 1) fun i hi hiA => by
    obtain ⟨j, e, _, hj⟩ := hA.el _ hiA
    obtain ⟨c, h1, h2, h3⟩ := hm i (by omega) (by rw [show i = j by omega]; exact hj)
    exact ⟨c, h1, h2, by omega⟩
  omega

theorem srt_le {A : List Int} (h : A.Pairwise (· < ·)) {i j : Nat} (hij : i ≤ j) (hj : j < A.length) : A.getD i 0 ≤ A.getD j 0 := by
  by_cases e : i = j
  · subst e; exact Int.le_refl _
  · have := List.pairwise_iff_getElem.1 h i j (by omega) hj (by omega)
    rw [List.getD_eq_getElem?_getD, List.getD_eq_getElem?_getD, List.getElem?_eq_getElem hj, List.getElem?_eq_getElem (by omega : i < A.length)]
    exact Int.le_of_lt this

theorem dom_app {C : List Int} {at0 : Nat} {v : Int} (hd : P.Dom C) (hn : at0 < P.n) (hv : P.L < P.st C (at0 + 1)) (hc : ∀ c ∈ C, c ≤ (at0 : Int)) (hm : ∀ i : Nat, i ≤ at0 → P.my i = true → (i : Int) ≤ v) : P.Dom (C ++ [v]) := fun A hA hk => by
  obtain ⟨h1, h2⟩ := hd A hA hk
  have key : C.length < A.length ∧ A.getD C.length 0 ≤ (at0 : Int) := by
    refine Classical.byContradiction fun hno => ?_
    have h3 := hk at0 hn
    have := cmp (P := P) (A := A) (C := C) (m := at0 + 1) fun i hi hiA => by
      obtain ⟨j, hj, e⟩ := mem_getD 0 hiA
      have hjc : j < C.length := by
        refine Classical.byContradiction fun hge => hno ⟨by omega, ?_⟩
        have := srt_le hA.srt (i := C.length) (j := j) (by omega) hj
        omega
      have h4 := h2 j hjc
      have h5 := hc _ (getD_mem (d := 0) hjc)
      exact ⟨C.getD j 0, getD_mem hjc, by omega, by omega⟩
    omega
  refine ⟨by simp; omega, fun i hi => ?_⟩
  simp at hi
  by_cases e : i < C.length
  · have : (C ++ [v]).getD i 0 = C.getD i 0 := by simp [List.getD_eq_getElem?_getD, List.getElem?_append_left e]
    rw [this]
    exact h2 i e
  · have e : i = C.length := by omega
    subst e
    have : (C ++ [v]).getD C.length 0 = v := by simp [List.getD_eq_getElem?_getD]
    rw [this]
    obtain ⟨j, e, _, hj⟩ := hA.el _ (getD_mem (d := 0) key.1)
    have := hm j (by omega) hj
    omega

theorem dom_nil : P.Dom [] := fun A _ _ => ⟨Nat.zero_le _, fun i hi => absurd hi (Nat.not_lt_zero i)⟩

theorem sub_nil : P.Sub [] := ⟨List.Pairwise.nil, fun x hx => by cases hx⟩

theorem sub_app {C : List Int} {v : Nat} (h : P.Sub C) (hl : ∀ c ∈ C, c < (v : Int)) (hv : v ≤ P.n) (hm : P.my v = true) : P.Sub (C ++ [(v : Int)]) := by
  refine ⟨List.pairwise_append.2 ⟨h.srt, by simp, fun a ha b hb => ?_⟩, fun x hx => ?_⟩
  · simp at hb
    subst hb
    exact hl a ha
  · rcases List.mem_append.1 hx with hx | hx
    · exact h.el x hx
    · simp at hx
      exact ⟨v, hx, hv, hm⟩

/-- where it is too many first -/
theorem first {A : List Int} : ∀ {n : Nat}, ¬ P.KT A n → ∃ m, m < n ∧ P.KT A m ∧ P.L < P.st A (m + 1)
  | 0, h => absurd (fun i hi => absurd hi (Nat.not_lt_zero i)) h
  | n + 1, h => by
    by_cases c : P.KT A n
    · refine ⟨n, by omega, c, ?_⟩
      refine Classical.byContradiction fun hle => h fun i hi => ?_
      by_cases e : i = n
      · subst e; omega
      · exact c i (by omega)
    · obtain ⟨m, h1, h2, h3⟩ := first c
      exact ⟨m, by omega, h2, h3⟩

theorem KT_le {A : List Int} {m k : Nat} (h : P.KT A m) (hk : k ≤ m) : P.KT A k := fun i hi => h i (by omega)

theorem KT_at {A : List Int} {m v : Nat} (h : P.KT A m) (hv : P.L < P.st A (m + 1)) : P.KT A v ↔ v ≤ m := by
  constructor
  · intro hk
    refine Classical.byContradiction fun hlt => ?_
    have := hk m (by omega)
    omega
  · exact KT_le h

end Pb
/-! ### what the program computes -/

/-- a right task -/
structure TOk (t : TTask) : Prop where
  d0 : 0 ≤ t.dep
  d1 : t.dep ≤ 28800
  a0 : 0 ≤ t.arr
  a1 : t.arr ≤ 28800
  da : t.dep < t.arr
  k0 : 0 ≤ t.km
  k1 : t.km ≤ 10000

theorem F45_eq : F45 = F44 := rfl
theorem F102_eq : F102 = F100 := rfl
theorem F139_eq : F139 = F138 := rfl

theorem F44_tok (a0 : List TTask) (h : Fit a0) : Ret (F44 a0) fun r => r = 0 → a0.length ≤ 40 ∧ ∀ i, i < a0.length → TOk (a0.getD i TTask.d) := by
  unfold Fit at h
  have hL : Ret (L44_4 a0 0) fun x => match x with | .inl _ => ∀ i, i < a0.length → TOk (a0.getD i TTask.d) | .inr r => r ≠ 0 := by
    unfold L44_4
    refine Ret.loop a0.length (fun i s => s = (i : Int) ∧ ∀ j, j < i → TOk (a0.getD j TTask.d)) ⟨rfl, fun j hj => by omega⟩ ?_ ?_
    · rintro i s hi ⟨rfl, hj⟩
      unfold B44_4
      simp (disch := omega) only [Ret_some, Ret_none, Ret_bind, Ret_asrt, Ret_cond, Sum.elim_inl, Sum.elim_inr, decide_eq_true_eq, decide_eq_false_iff_not, Bool.not_eq_true', Bool.not_not, Bool.and_eq_true, Bool.or_eq_true, Bool.true_eq_false, Bool.false_eq_true, Bool.not_true, Bool.not_false, if_true, if_false, ite_true, ite_false, true_and, and_true, false_and, and_false, Int.toNat_natCast, toN_succ, Int.ofNat_eq_natCast, Int.ofNat_toNat, Nat.zero_add, Nat.add_zero, not_true_eq_false, not_false_eq_true, implies_true, wr64, F76_eq]
      rw [if_pos (by omega)]
      refine ⟨by omega, ?_⟩
      generalize ht : a0.getD i TTask.d = t
      repeat' split
      all_goals first
        | decide
        | (refine ⟨by omega, forall_lt_succ.2 ⟨hj, ?_⟩⟩
           rw [ht]
           constructor <;> omega)
    · rintro s ⟨rfl, hj⟩
      unfold B44_4
      simp (disch := omega) only [Ret_some, Ret_none, Ret_bind, Ret_asrt, Ret_cond, Sum.elim_inl, Sum.elim_inr, decide_eq_true_eq, decide_eq_false_iff_not, Bool.not_eq_true', Bool.not_not, Bool.and_eq_true, Bool.or_eq_true, Bool.true_eq_false, Bool.false_eq_true, Bool.not_true, Bool.not_false, if_true, if_false, ite_true, ite_false, true_and, and_true, false_and, and_false, Int.toNat_natCast, toN_succ, Int.ofNat_eq_natCast, Int.ofNat_toNat, Nat.zero_add, Nat.add_zero, not_true_eq_false, not_false_eq_true, implies_true, wr64]
      rw [if_neg (by omega)]
      exact hj
  obtain ⟨x, hx, hp⟩ := hL
  unfold F44
  rw [hx]
  by_cases c : 40 < (a0.length : Int)
  · exact ⟨4, by simp [c], by simp⟩
  · rcases x with _ | r
    · exact ⟨0, by simp [c], fun _ => ⟨by omega, hp⟩⟩
    · exact ⟨r, by simp [c], fun e => absurd e hp⟩

/-- right sets and a right shop -/
structure SOk (a2 : List TSet) (a3 : TShop) : Prop where
  len : a2.length ≤ 40
  set : ∀ i, i < a2.length → 0 ≤ (a2.getD i TSet.d).km ∧ (a2.getD i TSet.d).km ≤ a3.limit
  l0 : 0 ≤ a3.long
  l1 : a3.long ≤ 28800
  m0 : 0 ≤ a3.limit
  m1 : a3.limit ≤ 10000

theorem F100_sok (a2 : List TSet) (a3 : TShop) (h : Fit a2) : Ret (F100 a2 a3 40) fun r => r = 0 → SOk a2 a3 := by
  unfold Fit at h
  have hL : Ret (L100_4 a2 a3 0) fun x => match x with | .inl _ => ∀ i, i < a2.length → 0 ≤ (a2.getD i TSet.d).km ∧ (a2.getD i TSet.d).km ≤ a3.limit | .inr r => r ≠ 0 := by
    unfold L100_4
    refine Ret.loop a2.length (fun i s => s = (i : Int) ∧ ∀ j, j < i → 0 ≤ (a2.getD j TSet.d).km ∧ (a2.getD j TSet.d).km ≤ a3.limit) ⟨rfl, fun j hj => by omega⟩ ?_ ?_
    · rintro i s hi ⟨rfl, hj⟩
      unfold B100_4
      simp (disch := omega) only [Ret_some, Ret_none, Ret_bind, Ret_asrt, Ret_cond, Sum.elim_inl, Sum.elim_inr, decide_eq_true_eq, decide_eq_false_iff_not, Bool.not_eq_true', Bool.not_not, Bool.and_eq_true, Bool.or_eq_true, Bool.true_eq_false, Bool.false_eq_true, Bool.not_true, Bool.not_false, if_true, if_false, ite_true, ite_false, true_and, and_true, false_and, and_false, Int.toNat_natCast, toN_succ, Int.ofNat_eq_natCast, Int.ofNat_toNat, Nat.zero_add, Nat.add_zero, not_true_eq_false, not_false_eq_true, implies_true, wr64, F76_eq]
      rw [if_pos (by omega)]
      refine ⟨by omega, ?_⟩
      repeat' split
      all_goals first
        | decide
        | (refine ⟨by omega, forall_lt_succ.2 ⟨hj, ?_⟩⟩
           omega)
    · rintro s ⟨rfl, hj⟩
      unfold B100_4
      simp (disch := omega) only [Ret_some, Ret_none, Ret_bind, Ret_asrt, Ret_cond, Sum.elim_inl, Sum.elim_inr, decide_eq_true_eq, decide_eq_false_iff_not, Bool.not_eq_true', Bool.not_not, Bool.and_eq_true, Bool.or_eq_true, Bool.true_eq_false, Bool.false_eq_true, Bool.not_true, Bool.not_false, if_true, if_false, ite_true, ite_false, true_and, and_true, false_and, and_false, Int.toNat_natCast, toN_succ, Int.ofNat_eq_natCast, Int.ofNat_toNat, Nat.zero_add, Nat.add_zero, not_true_eq_false, not_false_eq_true, implies_true, wr64]
      rw [if_neg (by omega)]
      exact hj
  unfold F100
  simp (disch := omega) only [Ret_some, Ret_none, Ret_bind, Ret_asrt, Ret_cond, Sum.elim_inl, Sum.elim_inr, decide_eq_true_eq, decide_eq_false_iff_not, Bool.not_eq_true', Bool.not_not, Bool.and_eq_true, Bool.or_eq_true, Bool.true_eq_false, Bool.false_eq_true, Bool.not_true, Bool.not_false, if_true, if_false, ite_true, ite_false, true_and, and_true, false_and, and_false, Int.toNat_natCast, toN_succ, Int.ofNat_eq_natCast, Int.ofNat_toNat, Nat.zero_add, Nat.add_zero, not_true_eq_false, not_false_eq_true, implies_true, wr64, F76_eq]
  split
  · exact fun h => absurd h (by decide)
  · rename_i c
    refine hL.mono fun x hx => ?_
    rcases x with _ | r
    · simp (disch := omega) only [Ret_some, Ret_none, Ret_bind, Ret_asrt, Ret_cond, Sum.elim_inl, Sum.elim_inr, decide_eq_true_eq, decide_eq_false_iff_not, Bool.not_eq_true', Bool.not_not, Bool.and_eq_true, Bool.or_eq_true, Bool.true_eq_false, Bool.false_eq_true, Bool.not_true, Bool.not_false, if_true, if_false, ite_true, ite_false, true_and, and_true, false_and, and_false, Int.toNat_natCast, toN_succ, Int.ofNat_eq_natCast, Int.ofNat_toNat, Nat.zero_add, Nat.add_zero, not_true_eq_false, not_false_eq_true, implies_true, wr64, F76_eq]
      simp only at hx
      repeat' split
      all_goals first
        | decide
        | (intro _
           constructor <;> first | exact hx | omega)
    · simp (disch := omega) only [Ret_some, Ret_none, Ret_bind, Ret_asrt, Ret_cond, Sum.elim_inl, Sum.elim_inr, decide_eq_true_eq, decide_eq_false_iff_not, Bool.not_eq_true', Bool.not_not, Bool.and_eq_true, Bool.or_eq_true, Bool.true_eq_false, Bool.false_eq_true, Bool.not_true, Bool.not_false, if_true, if_false, ite_true, ite_false, true_and, and_true, false_and, and_false, Int.toNat_natCast, toN_succ, Int.ofNat_eq_natCast, Int.ofNat_toNat, Nat.zero_add, Nat.add_zero, not_true_eq_false, not_false_eq_true, implies_true, wr64]
      exact fun e => absurd e hx

/-- a row of tasks that a set can run -/
structure ROk (a0 : List TTask) (t : List Int) : Prop where
  len : t.length ≤ 28801
  el : ∀ i, i < t.length → 0 ≤ t.getD i 0 ∧ t.getD i 0 < (a0.length : Int)

section
variable {a0 : List TTask}

theorem F97_0 {x y : TTask} (hx : TOk x) : F97 x y 0 = some (decide (y.from0 = x.to0 ∧ x.arr ≤ y.dep)) := by
  have := hx.a0
  have := hx.a1
  unfold F97
  rw [wr64 (by omega) (by omega), Int.add_zero]
  by_cases c : y.from0 = x.to0 <;> simp [c]

theorem B58_13_eq (hl : a0.length ≤ 40) (hn : ∀ i, i < a0.length → TOk (a0.getD i TTask.d)) (a1 : List (List Int)) (a2 : List TSet) (i j : Int) : B58_13 a0 a1 a2 i j = B59_10 a0 a1 a2 i j := by
  unfold B58_13 B59_10
  generalize a1.getD i.toNat [] = t
  by_cases c : j < (t.length : Int)
  case neg =>
    simp only [c, decide_false, cond_false]
  by_cases c0 : 0 ≤ j
  case neg =>
    simp [c, c0, asrt]
  simp only [c, c0, asrt, decide_true, cond_true, and_self, if_true, F76_eq, Option.bind_some]
  rw [wr64 (x := (a0.length : Int) - 1) (by omega) (by omega)]
  generalize t.getD j.toNat 0 = y
  by_cases y0 : 0 ≤ y
  case neg =>
    have : ¬ (0 ≤ y ∧ y ≤ (a0.length : Int) - 1) := by omega
    simp [this, show y < 0 by omega]
  by_cases y1 : y < (a0.length : Int)
  case neg =>
    have : ¬ (0 ≤ y ∧ y ≤ (a0.length : Int) - 1) := by omega
    simp [this, show ¬ y < 0 by omega, show (a0.length : Int) ≤ y by omega]
  have hy : 0 ≤ y ∧ y ≤ (a0.length : Int) - 1 := by omega
  simp only [hy, y0, y1, decide_true, Bool.not_true, cond_false, show ¬ y < 0 by omega, show ¬ (a0.length : Int) ≤ y by omega, decide_false, and_self, if_true]
  by_cases j0 : j = 0
  · subst j0
    generalize a0.getD y.toNat TTask.d = ty
    generalize a2.getD i.toNat TSet.d = ts
    by_cases ci : 0 ≤ i ∧ i < (a2.length : Int)
    · by_cases ch : ty.from0 = ts.home <;> simp [ci, ch]
    · simp [ci]
  · simp only [j0, decide_false, cond_false, show 0 < j by omega, decide_true, cond_true, Option.bind_some, Sum.elim_inl]
    by_cases cw : 0 ≤ IntKind.wrap .i64 (j - 1) ∧ IntKind.wrap .i64 (j - 1) < (t.length : Int)
    case neg =>
      simp [cw]
    simp only [cw, and_self, if_true]
    generalize t.getD (IntKind.wrap .i64 (j - 1)).toNat 0 = z
    by_cases cz : 0 ≤ z ∧ z < (a0.length : Int)
    case neg =>
      simp [cz]
    simp only [cz, and_self, if_true]
    rw [F97_0 (hn z.toNat (by omega))]
    generalize a0.getD y.toNat TTask.d = ty
    generalize a0.getD z.toNat TTask.d = tz
    by_cases e1 : ty.from0 = tz.to0
    · by_cases e2 : tz.arr ≤ ty.dep
      · simp [e1, e2, show ¬ ty.dep < tz.arr by omega]
      · simp [e1, e2, show ty.dep < tz.arr by omega]
    · simp [e1, show ¬ tz.to0 = ty.from0 from fun e => e1 e.symm]

theorem L59_10_ret (hl : a0.length ≤ 40) (hn : ∀ i, i < a0.length → TOk (a0.getD i TTask.d)) (a1 : List (List Int)) (a2 : List TSet) (i : Nat) (hi : i < a2.length) : Ret (L59_10 a0 a1 a2 (i : Int) 0) fun x => match x with | .inl _ => ROk a0 (a1.getD i []) | .inr r => r.1 = [] ∧ r.2 ≠ 0 := by
  unfold L59_10
  refine Ret.loop (a1.getD i []).length (fun j s => s = (j : Int) ∧ (∀ k, k < j → 0 ≤ (a1.getD i []).getD k 0 ∧ (a1.getD i []).getD k 0 < (a0.length : Int)) ∧ (0 < j → (j : Int) ≤ (a0.getD ((a1.getD i []).getD (j - 1) 0).toNat TTask.d).dep + 1)) ⟨rfl, fun k hk => by omega, fun h => by omega⟩ ?_ ?_
  · rintro j s hj ⟨rfl, h1, h2⟩
    have hb : (j : Int) ≤ 28801 := by
      by_cases c : 0 < j
      · have := h2 c
        have h3 := h1 (j - 1) (by omega)
        have := (hn ((a1.getD i []).getD (j - 1) 0).toNat (by omega)).d1
        omega
      · omega
    unfold B59_10
    rw [Int.toNat_natCast]
    generalize hrow : a1.getD i [] = t at *
    simp (disch := omega) only [Ret_some, Ret_none, Ret_bind, Ret_asrt, Ret_cond, Sum.elim_inl, Sum.elim_inr, decide_eq_true_eq, decide_eq_false_iff_not, Bool.not_eq_true', Bool.not_not, Bool.and_eq_true, Bool.or_eq_true, Bool.true_eq_false, Bool.false_eq_true, Bool.not_true, Bool.not_false, if_true, if_false, ite_true, ite_false, true_and, and_true, false_and, and_false, Int.toNat_natCast, toN_succ, Int.ofNat_eq_natCast, Int.ofNat_toNat, Nat.zero_add, Nat.add_zero, not_true_eq_false, not_false_eq_true, implies_true, wr64]
    rw [if_pos (by omega)]
    refine ⟨by omega, ?_⟩
    split
    · decide
    · split
      · decide
      · rename_i y0 y1
        split
        · rename_i e
          refine ⟨by omega, by omega, ?_⟩
          split
          · decide
          · rw [if_neg (by omega)]
            refine ⟨by omega, forall_lt_succ.2 ⟨h1, by omega⟩, fun _ => ?_⟩
            have := (hn (t.getD j 0).toNat (by omega)).d0
            rw [Nat.add_sub_cancel]
            omega
        · rename_i e
          rw [if_pos (by omega)]
          have h3 := h1 (j - 1) (by omega)
          have ej : ((j : Int) - 1).toNat = j - 1 := by omega
          rw [ej]
          refine ⟨by omega, by omega, by omega, ?_⟩
          split
          · decide
          · split
            · decide
            · refine ⟨by omega, forall_lt_succ.2 ⟨h1, by omega⟩, fun _ => ?_⟩
              have := h2 (by omega)
              have := (hn (t.getD (j - 1) 0).toNat (by omega)).da
              rw [Nat.add_sub_cancel]
              omega
  · rintro s ⟨rfl, h1, h2⟩
    unfold B59_10
    rw [Int.toNat_natCast]
    generalize hrow : a1.getD i [] = t at *
    simp (disch := omega) only [Ret_some, Ret_none, Ret_bind, Ret_asrt, Ret_cond, Sum.elim_inl, Sum.elim_inr, decide_eq_true_eq, decide_eq_false_iff_not, Bool.not_eq_true', Bool.not_not, Bool.and_eq_true, Bool.or_eq_true, Bool.true_eq_false, Bool.false_eq_true, Bool.not_true, Bool.not_false, if_true, if_false, ite_true, ite_false, true_and, and_true, false_and, and_false, Int.toNat_natCast, toN_succ, Int.ofNat_eq_natCast, Int.ofNat_toNat, Nat.zero_add, Nat.add_zero, not_true_eq_false, not_false_eq_true, implies_true, wr64]
    rw [if_neg (by omega)]
    refine ⟨?_, h1⟩
    by_cases c : 0 < t.length
    · have := h2 c
      have h3 := h1 (t.length - 1) (by omega)
      have := (hn (t.getD (t.length - 1) 0).toNat (by omega)).d1
      omega
    · omega

end
/-! ### one turn -/

/-- kilometres, by position -/
noncomputable def pbK (a0 : List TTask) (t : List Int) (i : Nat) : Int := (a0.getD (t.getD i 0).toNat TTask.d).km

/-- may it be looked at there? -/
noncomputable def myF (a0 : List TTask) (t : List Int) (a2 : TSet) (a3 : TShop) (i : Nat) : Bool := (F138 a0 t a2 a3 (i : Int)).getD false

structure Rw (a0 : List TTask) (t : List Int) (a2 : TSet) (a3 : TShop) : Prop where
  hl : a0.length ≤ 40
  hn : ∀ i, i < a0.length → TOk (a0.getD i TTask.d)
  row : ROk a0 t
  s0 : 0 ≤ a2.km
  s1 : a2.km ≤ a3.limit
  l0 : 0 ≤ a3.long
  l1 : a3.long ≤ 28800
  m1 : a3.limit ≤ 10000

theorem pbK_ok {a0 : List TTask} (hn : ∀ i, i < a0.length → TOk (a0.getD i TTask.d)) (t : List Int) (i : Nat) : 0 ≤ pbK a0 t i ∧ pbK a0 t i ≤ 10000 := by
  unfold pbK
  by_cases c : (t.getD i 0).toNat < a0.length
  · exact ⟨(hn _ c).k0, (hn _ c).k1⟩
  · have : a0.getD (t.getD i 0).toNat TTask.d = TTask.d := by
      rw [List.getD_eq_getElem?_getD, List.getElem?_eq_none (by omega)]
      rfl
    rw [this]
    exact ⟨by decide, by decide⟩

noncomputable def pb {a0 : List TTask} {t : List Int} {a2 : TSet} {a3 : TShop} (h : Rw a0 t a2 a3) : Pb where
  K := pbK a0 t
  my := myF a0 t a2 a3
  k0 := a2.km
  L := a3.limit
  n := t.length
  K0 := fun i => (pbK_ok h.hn t i).1
  k00 := h.s0

theorem F66_ret (x : List Int) (k : Int) (h : x.length ≤ 100000) : Ret (F66 x k) fun b => (b = true ↔ k ∈ x) := by
  have hL : Ret (L23_2 x k 0) fun y => match y with | .inl _ => k ∉ x | .inr r => 0 ≤ r ∧ k ∈ x := by
    unfold L23_2
    refine Ret.loop x.length (fun i s => s = (i : Int) ∧ ∀ j, j < i → k ≠ x.getD j 0) ⟨rfl, fun j hj => by omega⟩ ?_ ?_
    · rintro i s hi ⟨rfl, hj⟩
      unfold B23_2
      simp (disch := omega) only [Ret_some, Ret_none, Ret_bind, Ret_asrt, Ret_cond, Sum.elim_inl, Sum.elim_inr, decide_eq_true_eq, decide_eq_false_iff_not, Bool.not_eq_true', Bool.not_not, Bool.and_eq_true, Bool.or_eq_true, Bool.true_eq_false, Bool.false_eq_true, Bool.not_true, Bool.not_false, if_true, if_false, ite_true, ite_false, true_and, and_true, false_and, and_false, Int.toNat_natCast, toN_succ, Int.ofNat_eq_natCast, Int.ofNat_toNat, Nat.zero_add, Nat.add_zero, not_true_eq_false, not_false_eq_true, implies_true, wr64]
      rw [if_pos (by omega)]
      refine ⟨by omega, ?_⟩
      split
      · rename_i e
        exact ⟨by omega, by rw [e]; exact getD_mem hi⟩
      · rename_i e
        exact ⟨by omega, forall_lt_succ.2 ⟨hj, e⟩⟩
    · rintro s ⟨rfl, hj⟩
      unfold B23_2
      simp (disch := omega) only [Ret_some, Ret_none, Ret_bind, Ret_asrt, Ret_cond, Sum.elim_inl, Sum.elim_inr, decide_eq_true_eq, decide_eq_false_iff_not, Bool.not_eq_true', Bool.not_not, Bool.and_eq_true, Bool.or_eq_true, Bool.true_eq_false, Bool.false_eq_true, Bool.not_true, Bool.not_false, if_true, if_false, ite_true, ite_false, true_and, and_true, false_and, and_false, Int.toNat_natCast, toN_succ, Int.ofNat_eq_natCast, Int.ofNat_toNat, Nat.zero_add, Nat.add_zero, not_true_eq_false, not_false_eq_true, implies_true, wr64]
      rw [if_neg (by omega)]
      intro hm
      obtain ⟨i, hi, e⟩ := mem_getD 0 hm
      exact hj i hi e.symm
  unfold F66 F23
  obtain ⟨y, hy, hp⟩ := hL
  rw [hy]
  rcases y with _ | r
  · exact ⟨false, by simp, by simpa using hp⟩
  · exact ⟨true, by simp [hp.1], by simpa using hp.2⟩

section
variable {a0 : List TTask} {t : List Int} {a2 : TSet} {a3 : TShop}

theorem F138_my (h : Rw a0 t a2 a3) {i : Nat} (hi : i ≤ t.length) : F138 a0 t a2 a3 (i : Int) = some (myF a0 t a2 a3 i) := by
  have : Ret (F138 a0 t a2 a3 (i : Int)) fun _ => True := by
    have hr := h.row
    have hrl := hr.len
    have hl0 := h.l0
    have hl1 := h.l1
    have key : ∀ p : Int × Int, 0 ≤ p.2 → p.2 ≤ 28800 → Ret (bif decide (Prod.fst p = TShop.place a3) then bif decide ((i : Int) = (t.length : Int)) then some true else asrt (0 ≤ (i : Int) ∧ (i : Int) < (t.length : Int)) (asrt (0 ≤ t.getD (Int.toNat (i : Int)) 0 ∧ t.getD (Int.toNat (i : Int)) 0 < (a0.length : Int)) (some (decide (IntKind.wrap .i64 (Prod.snd p + TShop.long a3) ≤ TTask.dep (a0.getD (Int.toNat (t.getD (Int.toNat (i : Int)) 0)) TTask.d))))) else some false) fun _ => True := by
      intro p h1 h2
      simp (disch := omega) only [Ret_some, Ret_none, Ret_bind, Ret_asrt, Ret_cond, Sum.elim_inl, Sum.elim_inr, decide_eq_true_eq, decide_eq_false_iff_not, Bool.not_eq_true', Bool.not_not, Bool.and_eq_true, Bool.or_eq_true, Bool.true_eq_false, Bool.false_eq_true, Bool.not_true, Bool.not_false, if_true, if_false, ite_true, ite_false, true_and, and_true, false_and, and_false, Int.toNat_natCast, toN_succ, Int.ofNat_eq_natCast, Int.ofNat_toNat, Nat.zero_add, Nat.add_zero, not_true_eq_false, not_false_eq_true, implies_true, wr64]
      split
      · split
        · trivial
        · have := hr.el i (by omega)
          exact ⟨by omega, by omega⟩
      · trivial
    unfold F138
    by_cases c : 0 < (i : Int)
    · have ei : ((i : Int) - 1).toNat = i - 1 := by omega
      have h1 := hr.el (i - 1) (by omega)
      have h2 := h.hn (t.getD (i - 1) 0).toNat (by omega)
      simp only [c, decide_true, cond_true]
      rw [wr64 (by omega) (by omega), ei, asrt_eq (by omega), asrt_eq h1]
      exact key _ h2.a0 h2.a1
    · simp only [c, decide_false, cond_false]
      exact key (_, 0) (Int.le_refl _) (by show (0 : Int) ≤ 28800; decide)
  obtain ⟨b, hb, _⟩ := this
  unfold myF
  rw [hb]
  rfl

theorem F141_ret' (h : Rw a0 t a2 a3) {v : Nat} (hv : v ≤ t.length) {u : List Int} (hu : u.length = v) (hg : ∀ i, i < v → u.getD i 0 = t.getD i 0) {A : List Int} (hA : A.length ≤ 100000) : Ret (F141 a0 u a2 a3 A) fun b => (b = true ↔ (pb h).KT A v) := by
  have hrl := h.row.len
  have hm1 := h.m1
  have hL : Ret (L141_3 a0 u a3 A (a2.km, 0)) fun x => match x with | .inl _ => (pb h).KT A v | .inr b => b = false ∧ ¬ (pb h).KT A v := by
    unfold L141_3
    refine Ret.loop (v + 1) (fun i s => s.2 = (i : Int) ∧ (i ≤ v → s.1 = (pb h).st A i) ∧ (pb h).KT A (min i v)) ⟨rfl, fun _ => rfl, fun i hi => by omega⟩ ?_ ?_
    · rintro i ⟨m, y⟩ hi ⟨rfl, h1, h2⟩
      simp only at h1
      have h1 := h1 (by omega)
      have hmin : min i v = i := by omega
      rw [hmin] at h2
      obtain ⟨b, hb1, hb2⟩ := F66_ret A (i : Int) hA
      have hs0 := Pb.st_nn (P := pb h) A i
      have hsL : (pb h).st A i ≤ a3.limit := by
        rcases i with _ | i
        · exact h.s1
        · exact h2 i (by omega)
      have hst : (pb h).st A (i + 1) = (if (i : Int) ∈ A then 0 else (pb h).st A i) + pbK a0 t i := rfl
      have hk := pbK_ok h.hn t i
      unfold B141_3
      rw [hb1]
      by_cases c : i < v
      · have hgi := hg i c
        have hel := h.row.el i (by omega)
        have hmin' : min (i + 1) v = i + 1 := by omega
        have hKT : (pb h).st A (i + 1) ≤ a3.limit → (pb h).KT A (i + 1) := fun hle j hj => by
          by_cases e : j = i
          · subst e; exact hle
          · exact h2 j (by omega)
        have hK : (a0.getD (t.getD i 0).toNat TTask.d).km = pbK a0 t i := rfl
        have hno : a3.limit < (pb h).st A (i + 1) → ¬ (pb h).KT A v := fun hlt hk => by
          have : (pb h).st A (i + 1) ≤ a3.limit := hk i c
          omega
        by_cases cb : b = true
        · have hmem := hb2.1 cb
          rw [if_pos hmem] at hst
          simp (disch := omega) only [Ret_some, Ret_none, Ret_bind, Ret_asrt, Ret_cond, Sum.elim_inl, Sum.elim_inr, decide_eq_true_eq, decide_eq_false_iff_not, Bool.not_eq_true', Bool.not_not, Bool.and_eq_true, Bool.or_eq_true, Bool.true_eq_false, Bool.false_eq_true, Bool.not_true, Bool.not_false, if_true, if_false, ite_true, ite_false, true_and, and_true, false_and, and_false, Int.toNat_natCast, toN_succ, Int.ofNat_eq_natCast, Int.ofNat_toNat, Nat.zero_add, Nat.add_zero, not_true_eq_false, not_false_eq_true, implies_true, wr64, hgi, hK, cb]
          rw [if_pos (by omega), if_pos (by omega)]
          refine ⟨by omega, by omega, ?_⟩
          split
          · exact hno (by omega)
          · rw [hmin']
            exact ⟨by omega, fun _ => by omega, hKT (by omega)⟩
        · have hmem : (i : Int) ∉ A := fun e => cb (hb2.2 e)
          rw [if_neg hmem] at hst
          simp (disch := omega) only [Ret_some, Ret_none, Ret_bind, Ret_asrt, Ret_cond, Sum.elim_inl, Sum.elim_inr, decide_eq_true_eq, decide_eq_false_iff_not, Bool.not_eq_true', Bool.not_not, Bool.and_eq_true, Bool.or_eq_true, Bool.true_eq_false, Bool.false_eq_true, Bool.not_true, Bool.not_false, if_true, if_false, ite_true, ite_false, true_and, and_true, false_and, and_false, Int.toNat_natCast, toN_succ, Int.ofNat_eq_natCast, Int.ofNat_toNat, Nat.zero_add, Nat.add_zero, not_true_eq_false, not_false_eq_true, implies_true, wr64, hgi, hK, cb]
          rw [if_pos (by omega), if_pos (by omega)]
          refine ⟨by omega, by omega, ?_⟩
          split
          · exact hno (by omega)
          · rw [hmin']
            exact ⟨by omega, fun _ => by omega, hKT (by omega)⟩
      · have hmin' : min (i + 1) v = i := by omega
        simp (disch := omega) only [Ret_some, Ret_none, Ret_bind, Ret_asrt, Ret_cond, Sum.elim_inl, Sum.elim_inr, decide_eq_true_eq, decide_eq_false_iff_not, Bool.not_eq_true', Bool.not_not, Bool.and_eq_true, Bool.or_eq_true, Bool.true_eq_false, Bool.false_eq_true, Bool.not_true, Bool.not_false, if_true, if_false, ite_true, ite_false, true_and, and_true, false_and, and_false, Int.toNat_natCast, toN_succ, Int.ofNat_eq_natCast, Int.ofNat_toNat, Nat.zero_add, Nat.add_zero, not_true_eq_false, not_false_eq_true, implies_true, wr64]
        rw [if_pos (by omega), hmin']
        split
        · rw [if_neg (by omega)]
          exact ⟨by omega, fun _ => by omega, h2⟩
        · rw [if_neg (by omega)]
          exact ⟨by omega, fun _ => by omega, h2⟩
    · rintro ⟨m, y⟩ ⟨rfl, h1, h2⟩
      unfold B141_3
      simp (disch := omega) only [Ret_some, Ret_none, Ret_bind, Ret_asrt, Ret_cond, Sum.elim_inl, Sum.elim_inr, decide_eq_true_eq, decide_eq_false_iff_not, Bool.not_eq_true', Bool.not_not, Bool.and_eq_true, Bool.or_eq_true, Bool.true_eq_false, Bool.false_eq_true, Bool.not_true, Bool.not_false, if_true, if_false, ite_true, ite_false, true_and, and_true, false_and, and_false, Int.toNat_natCast, toN_succ, Int.ofNat_eq_natCast, Int.ofNat_toNat, Nat.zero_add, Nat.add_zero, not_true_eq_false, not_false_eq_true, implies_true, wr64]
      rw [if_neg (by omega)]
      rwa [show min (v + 1) v = v by omega] at h2
  unfold F141
  obtain ⟨x, hx, hp⟩ := hL
  rw [hx]
  rcases x with _ | b
  · exact ⟨true, rfl, by simpa using hp⟩
  · exact ⟨b, rfl, by simp [hp.1, hp.2]⟩

theorem F141_ret (h : Rw a0 t a2 a3) {A : List Int} (hA : A.length ≤ 100000) : Ret (F141 a0 t a2 a3 A) fun b => (b = true ↔ (pb h).KT A (pb h).n) :=
  F141_ret' h (Nat.le_refl _) rfl (fun _ _ => rfl) hA

theorem F141_take (h : Rw a0 t a2 a3) {v : Nat} (hv : v ≤ t.length) {A : List Int} (hA : A.length ≤ 100000) : Ret (F141 a0 (t.take v) a2 a3 A) fun b => (b = true ↔ (pb h).KT A v) :=
  F141_ret' h hv (by rw [List.length_take]; omega) (fun i hi => getD_take hi) hA

/-! ### the program: one walk -/

/-- what holds at the head of the walk -/
structure Wk (P : Pb) (at0 : Nat) (C : List Int) (km last lastc since : Int) : Prop where
  sub : P.Sub C
  lt : ∀ c ∈ C, c < (at0 : Int)
  hkm : km = P.st C at0
  kt : P.KT C at0
  dom : P.Dom C
  len : C.length ≤ at0
  l1 : last = -1 ∨ (0 ≤ last ∧ P.my last.toNat = true)
  l2 : last < (at0 : Int)
  l3 : ∀ i : Nat, i < at0 → P.my i = true → (i : Int) ≤ last
  c1 : lastc = -1 ∨ lastc ∈ C
  c2 : ∀ c ∈ C, c ≤ lastc
  cl : lastc ≤ last
  s0 : 0 ≤ since
  s1 : since ≤ km
  s2 : lastc < last → since = P.st (C ++ [last]) at0

theorem Pb.st_succ (P : Pb) (A : List Int) (i : Nat) : P.st A (i + 1) = (if (i : Int) ∈ A then 0 else P.st A i) + P.K i := rfl

theorem F101_ret (h : Rw a0 t a2 a3) : Ret (F101 a0 t a2 a3) fun r => (r.1.length ≤ 30000 ∧ (r.2 = false → r.1 = [])) ∧ (pb h).Best (if r.2 = true then some r.1 else none) := by
  have hrl := h.row.len
  have hm1 := h.m1
  have hL : Ret (L101_5 a0 t a2 a3 ([], a2.km, -1, -1, 0, 0)) fun x => match x with | .inl C => C.length ≤ 30000 ∧ (pb h).Best (some C) | .inr r => r = ([], false) ∧ (pb h).Best none := by
    unfold L101_5
    refine Ret.loop t.length (fun i s => s.2.2.2.2.2 = (i : Int) ∧ Wk (pb h) i s.1 s.2.1 s.2.2.1 s.2.2.2.1 s.2.2.2.2.1) ⟨rfl, ?_⟩ ?_ ?_
    · exact ⟨Pb.sub_nil, fun c hc => (by cases hc), rfl, fun i hi => by omega, Pb.dom_nil, Nat.le_refl _, .inl rfl, by show (-1 : Int) < 0; decide, fun i hi => by omega, .inl rfl, fun c hc => (by cases hc), Int.le_refl _, Int.le_refl _, h.s0, fun h => absurd h (by show ¬ (-1 : Int) < -1; decide)⟩
    · rintro i ⟨C, km, last, lastc, since, y⟩ hi ⟨rfl, w⟩
      simp only at w
      have hel := h.row.el i hi
      have hk := pbK_ok h.hn t i
      have hK : (a0.getD (t.getD i 0).toNat TTask.d).km = pbK a0 t i := rfl
      have hmy := F138_my h (Nat.le_of_lt hi)
      have hkm0 : 0 ≤ km := by rw [w.hkm]; exact Pb.st_nn C i
      have hkmL : km ≤ a3.limit := by
        rw [w.hkm]
        rcases i with _ | i
        · exact h.s1
        · exact w.kt i (by omega)
      have hiC : (i : Int) ∉ C := fun e => by have := w.lt _ e; omega
      have hst : (pb h).st C (i + 1) = km + pbK a0 t i := by
        rw [Pb.st_succ, if_neg hiC, ← w.hkm]; rfl
      unfold B101_5
      simp only [hmy, Option.bind_some]
      have hw : IntKind.wrap .i64 ((t.length : Int) + 1) = (t.length : Int) + 1 := wr64 (by omega) (by omega)
      rw [hw]
      have hb : decide ((i : Int) < (t.length : Int) + 1) = true := by simp; omega
      rw [hb]
      simp only [cond_true]
      refine Ret.bind (P := fun p => (p.1 = (i : Int) ∧ p.2 = 0 ∧ myF a0 t a2 a3 i = true) ∨ (p.1 = last ∧ p.2 = since ∧ myF a0 t a2 a3 i = false)) ?_ ?_
      · by_cases cm : myF a0 t a2 a3 i = true
        · exact ⟨((i : Int), 0), by simp [cm], .inl ⟨rfl, rfl, cm⟩⟩
        · have cm : myF a0 t a2 a3 i = false := by simpa using cm
          exact ⟨(last, since), by simp [cm], .inr ⟨rfl, rfl, cm⟩⟩
      rintro ⟨last', since'⟩ hls
      simp only at hls
      have hmyP : (pb h).my = myF a0 t a2 a3 := rfl
      have q1 : last' = -1 ∨ (0 ≤ last' ∧ (pb h).my last'.toNat = true) := by
        rcases hls with ⟨rfl, _, hm⟩ | ⟨rfl, _, _⟩
        · exact .inr ⟨by omega, by rw [Int.toNat_natCast]; exact hm⟩
        · exact w.l1
      have q2 : last' ≤ (i : Int) := by
        have := w.l2
        rcases hls with ⟨rfl, _, hm⟩ | ⟨rfl, _, _⟩ <;> omega
      have q3 : ∀ j : Nat, j < i + 1 → (pb h).my j = true → (j : Int) ≤ last' := by
        intro j hj hm
        rcases hls with ⟨rfl, _, _⟩ | ⟨rfl, _, hf⟩
        · omega
        · refine w.l3 j ?_ hm
          have : j ≠ i := by
            rintro rfl
            rw [hmyP, hf] at hm
            cases hm
          omega
      have q0 : -1 ≤ lastc := by
        rcases w.c1 with hc | hc
        · omega
        · obtain ⟨j, e, _⟩ := w.sub.el _ hc
          omega
      have q4 : lastc < (i : Int) := by
        rcases w.c1 with hc | hc
        · omega
        · exact w.lt _ hc
      have q5 : lastc ≤ last' := by
        have := w.cl
        rcases hls with ⟨rfl, _, hm⟩ | ⟨rfl, _, _⟩ <;> omega
      have q6 : 0 ≤ since' ∧ since' ≤ km := by
        have := w.s0
        have := w.s1
        rcases hls with ⟨_, rfl, hm⟩ | ⟨_, rfl, _⟩ <;> omega
      have q7 : lastc < last' → (pb h).st (C ++ [last']) (i + 1) = since' + pbK a0 t i := by
        intro hlt
        rw [Pb.st_succ]
        rcases hls with ⟨rfl, rfl, hm⟩ | ⟨rfl, rfl, hf⟩
        · rw [if_pos (by simp)]; rfl
        · have hne : (i : Int) ∉ C ++ [last'] := by
            intro e
            rcases List.mem_append.1 e with e | e
            · exact hiC e
            · simp at e
              have := w.l2
              omega
          rw [if_neg hne, ← w.s2 hlt]; rfl
      simp (disch := omega) only [Ret_some, Ret_none, Ret_bind, Ret_asrt, Ret_cond, Sum.elim_inl, Sum.elim_inr, decide_eq_true_eq, decide_eq_false_iff_not, Bool.not_eq_true', Bool.not_not, Bool.and_eq_true, Bool.or_eq_true, Bool.true_eq_false, Bool.false_eq_true, Bool.not_true, Bool.not_false, if_true, if_false, ite_true, ite_false, true_and, and_true, false_and, and_false, Int.toNat_natCast, toN_succ, Int.ofNat_eq_natCast, Int.ofNat_toNat, Nat.zero_add, Nat.add_zero, not_true_eq_false, not_false_eq_true, implies_true, wr64, hK]
      rw [if_neg (by omega)]
      refine ⟨by omega, by omega, ?_⟩
      have hlen := w.len
      split
      · rename_i c
        refine ⟨by omega, ?_⟩
        exact
          { sub := w.sub, lt := fun c hc => by have := w.lt c hc; omega, hkm := hst.symm
            kt := fun j hj => by
              by_cases e : j = i
              · subst e; rw [hst]; exact c
              · exact w.kt j (by omega)
            dom := w.dom, len := by omega, l1 := q1, l2 := by omega, l3 := q3, c1 := w.c1, c2 := w.c2, cl := q5
            s0 := by omega, s1 := by omega, s2 := fun hlt => (q7 hlt).symm }
      · rename_i c
        have hv : (pb h).L < (pb h).st C (i + 1) := by rw [hst]; show a3.limit < _; omega
        split
        · rename_i c2
          refine Pb.stuck (C := C) (at0 := i) hi hv fun j hj hm => ?_
          have := q3 j (by omega) hm
          rcases w.c1 with hc | hc
          · omega
          · exact ⟨lastc, hc, by omega, by omega⟩
        · rename_i c2
          have q7 := q7 (by omega)
          split
          · rename_i c3
            exact Pb.stuck (C := C ++ [last']) (at0 := i) hi (by rw [q7]; exact c3) fun j hj hm => ⟨last', by simp, q3 j (by omega) hm, q2⟩
          · rename_i c3
            refine ⟨by omega, by omega, ?_⟩
            obtain ⟨v, rfl⟩ : ∃ v : Nat, last' = (v : Int) := ⟨last'.toNat, by omega⟩
            have hmv : (pb h).my v = true := by
              rcases q1 with q1 | q1
              · omega
              · have := q1.2; rwa [Int.toNat_natCast] at this
            exact
              { sub := Pb.sub_app w.sub (fun c hc => by have := w.c2 c hc; omega) (by show v ≤ t.length; omega) hmv
                lt := fun c hc => by
                  rcases List.mem_append.1 hc with hc | hc
                  · have := w.lt c hc; omega
                  · simp at hc; omega
                hkm := q7.symm
                kt := fun j hj => by
                  by_cases e : j = i
                  · subst e; rw [q7]; show _ ≤ a3.limit; omega
                  · exact Pb.KT_app _ w.kt j (by omega)
                dom := Pb.dom_app w.dom hi hv (fun c hc => by have := w.lt c hc; omega) (fun j hj hm => q3 j (by omega) hm)
                len := by simp; omega
                l1 := q1, l2 := by omega, l3 := q3, c1 := .inr (by simp)
                c2 := fun c hc => by
                  rcases List.mem_append.1 hc with hc | hc
                  · have := w.c2 c hc; omega
                  · simp at hc; omega
                cl := Int.le_refl _, s0 := by omega, s1 := Int.le_refl _, s2 := fun hlt => absurd hlt (by omega) }
    · rintro ⟨C, km, last, lastc, since, y⟩ ⟨rfl, w⟩
      simp only at w
      have hlen := w.len
      have hmy := F138_my h (Nat.le_refl t.length)
      unfold B101_5
      simp only [hmy, Option.bind_some]
      have hw : IntKind.wrap .i64 ((t.length : Int) + 1) = (t.length : Int) + 1 := wr64 (by omega) (by omega)
      rw [hw]
      have hb : decide ((t.length : Int) < (t.length : Int) + 1) = true := by simp; omega
      rw [hb]
      have goal : C.length ≤ 30000 ∧ (pb h).Best (some C) := ⟨by omega, w.sub, w.kt, w.dom⟩
      by_cases cm : myF a0 t a2 a3 t.length = true
      · simp [cm, Ret_some, goal]
      · simp [cm, Ret_some, goal]
  obtain ⟨x, hx, hp⟩ := hL
  unfold F101
  rw [hx]
  rcases x with C | r
  · exact ⟨(C, true), rfl, ⟨hp.1, fun e => by cases e⟩, hp.2⟩
  · obtain ⟨rfl, hb⟩ := hp
    exact ⟨([], false), rfl, ⟨Nat.zero_le _, fun _ => rfl⟩, hb⟩

end
/-! ### the reference: where it may be looked at -/

/-- the places where it may be looked at -/
structure Mays (P : Pb) (p : List Int) : Prop where
  srt : p.Pairwise (· < ·)
  mem : ∀ x, x ∈ p ↔ ∃ i : Nat, x = (i : Int) ∧ i ≤ P.n ∧ P.my i = true

theorem Mays.sub {P : Pb} {p A : List Int} (hp : Mays P p) (h1 : A.Pairwise (· < ·)) (h2 : ∀ x ∈ A, x ∈ p) : P.Sub A := ⟨h1, fun x hx => (hp.mem x).1 (h2 x hx)⟩

theorem srt_lt {A : List Int} (h : A.Pairwise (· < ·)) {i j : Nat} (hij : i < j) (hj : j < A.length) : A.getD i 0 < A.getD j 0 := by
  have := List.pairwise_iff_getElem.1 h i j (by omega) hj (by omega)
  rw [List.getD_eq_getElem?_getD, List.getD_eq_getElem?_getD, List.getElem?_eq_getElem hj, List.getElem?_eq_getElem (by omega : i < A.length)]
  exact this

/-- behind all of them: behind the last one -/
theorem lt_last {C : List Int} (h : C.Pairwise (· < ·)) (hc : 0 < C.length) (v : Int) : (∀ c ∈ C, c < v) ↔ C.getD (C.length - 1) 0 < v := by
  constructor
  · exact fun k => k _ (getD_mem (by omega))
  · intro k c hcC
    obtain ⟨i, hi, rfl⟩ := mem_getD 0 hcC
    have := Pb.srt_le h (i := i) (j := C.length - 1) (by omega) (by omega)
    omega

section
variable {a0 : List TTask} {t : List Int} {a2 : TSet} {a3 : TShop}

theorem L103_3_ret (h : Rw a0 t a2 a3) : Ret (L103_3 a0 t a2 a3 ([], 0)) fun p => Mays (pb h) p ∧ p.length ≤ 30000 := by
  have hrl := h.row.len
  unfold L103_3
  refine Ret.loop (t.length + 1) (fun i s => s.2 = (i : Int) ∧ s.1.length ≤ i ∧ s.1.Pairwise (· < ·) ∧ ∀ x, x ∈ s.1 ↔ ∃ j : Nat, x = (j : Int) ∧ j < i ∧ (pb h).my j = true) ⟨rfl, Nat.le_refl _, List.Pairwise.nil, fun x => ⟨fun hx => (by cases hx), fun ⟨j, _, hj, _⟩ => absurd hj (Nat.not_lt_zero j)⟩⟩ ?_ ?_
  · rintro i ⟨p, y⟩ hi ⟨rfl, h1, h2, h3⟩
    simp only at h1 h2 h3
    have hmy := F138_my h (i := i) (by omega)
    have hm : (pb h).my i = myF a0 t a2 a3 i := rfl
    unfold B103_3
    rw [F139_eq]
    simp only [hmy]
    simp (disch := omega) only [Ret_some, Ret_none, Ret_bind, Ret_asrt, Ret_cond, Sum.elim_inl, Sum.elim_inr, decide_eq_true_eq, decide_eq_false_iff_not, Bool.not_eq_true', Bool.not_not, Bool.and_eq_true, Bool.or_eq_true, Bool.true_eq_false, Bool.false_eq_true, Bool.not_true, Bool.not_false, if_true, if_false, ite_true, ite_false, true_and, and_true, false_and, and_false, Int.toNat_natCast, toN_succ, Int.ofNat_eq_natCast, Int.ofNat_toNat, Nat.zero_add, Nat.add_zero, not_true_eq_false, not_false_eq_true, implies_true, wr64]
    rw [if_pos (by omega)]
    split
    · rename_i c
      refine ⟨by omega, by omega, by simp; omega, List.pairwise_append.2 ⟨h2, by simp, fun a ha b hb => ?_⟩, fun x => ?_⟩
      · simp at hb
        obtain ⟨j, e, hj, _⟩ := (h3 a).1 ha
        omega
      · rw [List.mem_append, h3]
        constructor
        · rintro (⟨j, e, hj, k⟩ | hx)
          · exact ⟨j, e, by omega, k⟩
          · simp at hx
            exact ⟨i, hx, by omega, by rw [hm]; exact c⟩
        · rintro ⟨j, e, hj, k⟩
          by_cases e' : j = i
          · subst e'; right; simp [e]
          · exact .inl ⟨j, e, by omega, k⟩
    · rename_i c
      refine ⟨by omega, by omega, h2, fun x => ?_⟩
      rw [h3]
      constructor
      · rintro ⟨j, e, hj, k⟩
        exact ⟨j, e, by omega, k⟩
      · rintro ⟨j, e, hj, k⟩
        refine ⟨j, e, ?_, k⟩
        have : j ≠ i := by
          rintro rfl
          exact c (hm ▸ k)
        omega
  · rintro ⟨p, y⟩ ⟨rfl, h1, h2, h3⟩
    unfold B103_3
    have hmy : ∀ (f : Bool → Option (List Int × Int ⊕ List Int)), (bif decide (((t.length + 1 : Nat) : Int) < IntKind.wrap .i64 ((t.length : Int) + 1)) then (F139 a0 t a2 a3 ((t.length + 1 : Nat) : Int)).bind f else some (.inr p)) = some (.inr p) := fun f => by
      rw [wr64 (by omega) (by omega)]
      have : decide (((t.length + 1 : Nat) : Int) < (t.length : Int) + 1) = false := by simp
      rw [this]; rfl
    rw [hmy]
    refine Ret_some.2 ⟨⟨h2, fun x => ?_⟩, by simp only at h1; omega⟩
    rw [h3]
    constructor
    · rintro ⟨j, e, hj, k⟩; exact ⟨j, e, by show j ≤ t.length; omega, k⟩
    · rintro ⟨j, e, hj, k⟩; exact ⟨j, e, by have : j ≤ t.length := hj; omega, k⟩

/-! ### many places: the latest that goes -/

/-- may be looked at next -/
def Okv (P : Pb) (C : List Int) (v : Int) : Prop := (∀ c ∈ C, c < v) ∧ P.KT C v.toNat

theorem L140_8_ret (h : Rw a0 t a2 a3) {p C : List Int} (hp : Mays (pb h) p) (hpl : p.length ≤ 30000) (hC : (pb h).Sub C) (hCl : C.length ≤ 30001) :
    Ret (L140_8 a0 t a2 a3 p C (-1, 0)) fun b => (b = -1 ∧ ∀ j, j < p.length → ¬ Okv (pb h) C (p.getD j 0)) ∨ (∃ j, j < p.length ∧ b = p.getD j 0 ∧ Okv (pb h) C b ∧ ∀ i, i < p.length → Okv (pb h) C (p.getD i 0) → p.getD i 0 ≤ b) := by
  unfold L140_8
  refine Ret.loop p.length (fun i s => s.2 = (i : Int) ∧ ((s.1 = -1 ∧ ∀ j, j < i → ¬ Okv (pb h) C (p.getD j 0)) ∨ (∃ j, j < i ∧ s.1 = p.getD j 0 ∧ Okv (pb h) C s.1 ∧ ∀ k, k < i → Okv (pb h) C (p.getD k 0) → p.getD k 0 ≤ s.1))) ⟨rfl, .inl ⟨rfl, fun j hj => by omega⟩⟩ ?_ ?_
  · rintro i ⟨b, y⟩ hi ⟨rfl, h1⟩
    simp only at h1
    have hyes : Okv (pb h) C (p.getD i 0) → ∃ j, j < i + 1 ∧ p.getD i 0 = p.getD j 0 ∧ Okv (pb h) C (p.getD i 0) ∧ ∀ k, k < i + 1 → Okv (pb h) C (p.getD k 0) → p.getD k 0 ≤ p.getD i 0 := fun ho =>
      ⟨i, by omega, rfl, ho, fun k hk _ => Pb.srt_le hp.srt (by omega) hi⟩
    have hno : ¬ Okv (pb h) C (p.getD i 0) → ((b = -1 ∧ ∀ j, j < i + 1 → ¬ Okv (pb h) C (p.getD j 0)) ∨ (∃ j, j < i + 1 ∧ b = p.getD j 0 ∧ Okv (pb h) C b ∧ ∀ k, k < i + 1 → Okv (pb h) C (p.getD k 0) → p.getD k 0 ≤ b)) := fun ho => by
      rcases h1 with ⟨e, h1⟩ | ⟨j, hj, e, h2, h3⟩
      · exact .inl ⟨e, forall_lt_succ.2 ⟨h1, ho⟩⟩
      · exact .inr ⟨j, by omega, e, h2, forall_lt_succ.2 ⟨h3, fun hh => absurd hh ho⟩⟩
    obtain ⟨v, ev, hv, hmv⟩ := (hp.mem _).1 (getD_mem (d := 0) hi)
    have hv : v ≤ t.length := hv
    obtain ⟨r, hr1, hr2⟩ := F141_take h hv (A := C) (by omega)
    rw [ev] at hyes hno
    have hOk : (∀ c ∈ C, c < (v : Int)) → (Okv (pb h) C (v : Int) ↔ r = true) := fun hc => by
      unfold Okv
      rw [hr2, Int.toNat_natCast]
      exact ⟨fun q => q.2, fun q => ⟨hc, q⟩⟩
    have tail : (∀ c ∈ C, c < (v : Int)) → Ret (asrt (0 ≤ (v : Int) ∧ (v : Int) ≤ (t.length : Int)) ((F141 a0 (List.take (Int.toNat ((v : Int) - 0)) t) a2 a3 C).bind fun r => bif r then some (Sum.inl ((v : Int), IntKind.wrap .i64 ((i : Int) + 1))) else some (Sum.inl (b, IntKind.wrap .i64 ((i : Int) + 1)))) : Option (Int × Int ⊕ Int)) fun o => match o with
        | .inl s' => s'.2 = ((i + 1 : Nat) : Int) ∧ ((s'.1 = -1 ∧ ∀ j, j < i + 1 → ¬ Okv (pb h) C (p.getD j 0)) ∨ (∃ j, j < i + 1 ∧ s'.1 = p.getD j 0 ∧ Okv (pb h) C s'.1 ∧ ∀ k, k < i + 1 → Okv (pb h) C (p.getD k 0) → p.getD k 0 ≤ s'.1))
        | .inr x => (x = -1 ∧ ∀ j, j < p.length → ¬ Okv (pb h) C (p.getD j 0)) ∨ (∃ j, j < p.length ∧ x = p.getD j 0 ∧ Okv (pb h) C x ∧ ∀ i, i < p.length → Okv (pb h) C (p.getD i 0) → p.getD i 0 ≤ x) := fun hc => by
      rw [Int.sub_zero, Int.toNat_natCast, hr1]
      rw [wr64 (by omega) (by omega)]
      refine Ret_asrt.2 ⟨by omega, ?_⟩
      by_cases cr : r = true
      · rw [cr]
        exact ⟨_, rfl, by simp, .inr (hyes ((hOk hc).2 cr))⟩
      · have cr' : r = false := by simpa using cr
        rw [cr']
        exact ⟨_, rfl, by simp, hno fun ho => cr ((hOk hc).1 ho)⟩
    unfold B140_8
    simp only [Int.toNat_natCast, ev]
    have hb : decide ((i : Int) < (p.length : Int)) = true := by simp; omega
    rw [hb, cond_true, asrt_eq (by omega)]
    by_cases c0 : 0 < (C.length : Int)
    · have hl := lt_last hC.srt (by omega) (v : Int)
      have e1 : IntKind.wrap .i64 ((C.length : Int) - 1) = (C.length : Int) - 1 := wr64 (by omega) (by omega)
      have e2 : ((C.length : Int) - 1).toNat = C.length - 1 := by omega
      rw [e1, e2, asrt_eq (by omega)]
      simp only [c0, decide_true, cond_true]
      by_cases c1 : (v : Int) ≤ C.getD (C.length - 1) 0
      · simp only [c1, decide_true, cond_true]
        rw [wr64 (by omega) (by omega)]
        exact ⟨_, rfl, by simp, hno fun ho => by have := hl.1 ho.1; omega⟩
      · simp only [c1, decide_false, cond_false]
        exact (tail (hl.2 (by omega))).mono fun o ho => by rcases o with _ | _ <;> exact ho
    · simp only [c0, decide_false, cond_false]
      have : C = [] := List.length_eq_zero_iff.1 (by omega)
      exact (tail (fun c hc => by rw [this] at hc; cases hc)).mono fun o ho => by rcases o with _ | _ <;> exact ho
  · rintro ⟨b, y⟩ ⟨rfl, h1⟩
    unfold B140_8
    have hb : decide (((p.length : Nat) : Int) < (p.length : Int)) = false := by simp
    rw [hb, cond_false]
    exact Ret_some.2 h1

theorem F140_ret (h : Rw a0 t a2 a3) {p : List Int} (hp : Mays (pb h) p) (hpl : p.length ≤ 30000) : Ret (F140 a0 t a2 a3 p) fun r => (r.2 = false → r.1 = []) ∧ (pb h).Best (if r.2 = true then some r.1 else none) := by
  have hL : Ret (L140_3 a0 t a2 a3 p ([], 0)) fun x => match x with | .inl _ => False | .inr r => (r.2 = false → r.1 = []) ∧ (pb h).Best (if r.2 = true then some r.1 else none) := by
    unfold L140_3
    refine Ret.loop (p.length + 1) (fun k s => s.2 = (k : Int) ∧ s.1.length = k ∧ (pb h).Sub s.1 ∧ (pb h).Dom s.1 ∧ (∀ c ∈ s.1, (pb h).KT s.1 c.toNat) ∧ ∃ j, k ≤ j ∧ j ≤ p.length ∧ (0 < k → s.1.getD (k - 1) 0 = p.getD (j - 1) 0)) ⟨rfl, rfl, Pb.sub_nil, Pb.dom_nil, fun c hc => (by cases hc), 0, Nat.le_refl _, Nat.zero_le _, fun hk => by omega⟩ ?_ ?_
    · rintro k ⟨C, y⟩ hk ⟨rfl, h1, h2, h3, h4, j, h5, h6, h7⟩
      simp only at h1 h2 h3 h4 h7
      obtain ⟨b, hb1, hb2⟩ := F141_ret h (A := C) (by omega)
      obtain ⟨q, hq1, hq2⟩ := L140_8_ret h hp hpl h2 (by omega)
      unfold B140_3
      rw [hb1, hq1]
      simp (disch := omega) only [Ret_some, Ret_none, Ret_bind, Ret_asrt, Ret_cond, Sum.elim_inl, Sum.elim_inr, decide_eq_true_eq, decide_eq_false_iff_not, Bool.not_eq_true', Bool.not_not, Bool.and_eq_true, Bool.or_eq_true, Bool.true_eq_false, Bool.false_eq_true, Bool.not_true, Bool.not_false, if_true, if_false, ite_true, ite_false, true_and, and_true, false_and, and_false, Int.toNat_natCast, toN_succ, Int.ofNat_eq_natCast, Int.ofNat_toNat, Nat.zero_add, Nat.add_zero, not_true_eq_false, not_false_eq_true, implies_true, wr64]
      rw [if_pos (by omega)]
      split
      · rename_i c
        exact ⟨fun e => absurd e (by simp), h2, hb2.1 c, h3⟩
      · rename_i c
        obtain ⟨m, m1, m2, m3⟩ := Pb.first (fun hh => c (hb2.2 hh))
        have hin : ∀ i : Nat, i ≤ m → (pb h).my i = true → ∃ u, u < p.length ∧ p.getD u 0 = (i : Int) := fun i hi hm => mem_getD 0 ((hp.mem _).2 ⟨i, rfl, by omega, hm⟩)
        have hcm : ∀ c ∈ C, c ≤ (m : Int) := fun c hc => by
          obtain ⟨i, e, _, _⟩ := h2.el c hc
          have h8 := (Pb.KT_at m2 m3).1 (h4 c hc)
          omega
        split
        · rename_i c2
          rcases hq2 with ⟨rfl, hq⟩ | ⟨u, hu, rfl, _⟩
          · refine Pb.stuck m1 m3 fun i hi hm => ?_
            obtain ⟨u, hu, e⟩ := hin i hi hm
            have hno := hq u hu
            rw [e] at hno
            refine Classical.byContradiction fun hne => hno ⟨fun c hc => ?_, by rw [Int.toNat_natCast]; exact Pb.KT_le m2 hi⟩
            refine Classical.byContradiction fun hlt => hne ⟨c, hc, by omega, hcm c hc⟩
          · obtain ⟨i, e, _⟩ := (hp.mem _).1 (getD_mem (d := 0) hu)
            omega
        · rename_i c2
          rcases hq2 with ⟨rfl, _⟩ | ⟨u, hu, e, ho, hmax⟩
          · omega
          · obtain ⟨v, ev, hvn, hmv⟩ := (hp.mem _).1 (getD_mem (d := 0) hu)
            rw [← e] at ev
            subst ev
            have hvm : v ≤ m := by
              have := ho.2
              rw [Int.toNat_natCast] at this
              exact (Pb.KT_at m2 m3).1 this
            refine ⟨by omega, by omega, by simp; omega, Pb.sub_app h2 ho.1 hvn hmv, Pb.dom_app h3 m1 m3 hcm (fun i hi hm => ?_), fun c hc => ?_, u + 1, ?_, by omega, fun _ => ?_⟩
            · obtain ⟨w, hw, ew⟩ := hin i hi hm
              have hmx := hmax w hw
              rw [ew] at hmx
              by_cases ca : ∀ c ∈ C, c < (i : Int)
              · exact hmx ⟨ca, by rw [Int.toNat_natCast]; exact Pb.KT_le m2 hi⟩
              · refine Classical.byContradiction fun hlt => ca fun c hc => ?_
                have := ho.1 c hc
                omega
            · rcases List.mem_append.1 hc with hc | hc
              · exact Pb.KT_app _ (h4 c hc)
              · simp at hc
                subst hc
                exact Pb.KT_app _ ho.2
            · by_cases ck : 0 < k
              · have h8 := h7 ck
                have h9 := ho.1 _ (getD_mem (d := 0) (l := C) (i := k - 1) (by omega))
                have : j ≤ u := by
                  refine Classical.byContradiction fun hlt => ?_
                  have := Pb.srt_le hp.srt (i := u) (j := j - 1) (by omega) (by omega)
                  omega
                omega
              · omega
            · have : k = C.length := by omega
              subst this
              simp only [Nat.add_sub_cancel]
              rw [← e]
              simp [List.getD_eq_getElem?_getD]
    · rintro ⟨C, y⟩ ⟨rfl, h1, h2, h3, h4, j, h5, h6, h7⟩
      exfalso
      omega
  obtain ⟨x, hx, hp⟩ := hL
  unfold F140
  rw [hx]
  rcases x with _ | r
  · exact hp.elim
  · exact ⟨r, rfl, hp⟩

end
/-! ### powers modulo a number -/

theorem tmod_nn {a b : Int} (ha : 0 ≤ a) : Int.tmod a b = a % b := by
  rw [Int.tmod_eq_emod_of_nonneg ha]

theorem mod_rng {a n : Int} (hn : 0 < n) : 0 ≤ a % n ∧ a % n < n := ⟨Int.emod_nonneg _ (by omega), Int.emod_lt_of_pos _ hn⟩

theorem mul_rng {a b n : Int} (ha : 0 ≤ a ∧ a < n) (hb : 0 ≤ b ∧ b < n) (hn : n ≤ 1072497001) : 0 ≤ a * b ∧ a * b < 9223372036854775808 := by
  constructor
  · exact Int.mul_nonneg ha.1 hb.1
  · have h1 : a * b ≤ 1072497001 * 1072497001 := Int.mul_le_mul (by omega) (by omega) hb.1 (by omega)
    have : (1072497001 : Int) * 1072497001 < 9223372036854775808 := by decide
    omega

/-- a to the k, modulo n -/
def pw (a n : Int) (k : Nat) : Int := a ^ k % n

theorem mul_mod_l (a b n : Int) : (a % n * b) % n = (a * b) % n := by rw [Int.mul_emod, Int.emod_emod_of_dvd _ (Int.dvd_refl n), ← Int.mul_emod]
theorem mul_mod_r (a b n : Int) : (a * (b % n)) % n = (a * b) % n := by rw [Int.mul_emod, Int.emod_emod_of_dvd _ (Int.dvd_refl n), ← Int.mul_emod]

theorem shr1 (v : Int) : shrI .i64 v 1 = v / 2 := by
  unfold shrI
  show v.fdiv (2 ^ min (1 : Int).toNat 64) = v / 2
  rw [show (2 : Int) ^ min (1 : Int).toNat 64 = 2 from by decide]
  exact Int.fdiv_eq_ediv_of_nonneg v (by decide)

theorem and1 (v : Int) (h : 0 ≤ v) (h2 : v < 9223372036854775808) : andI .i64 v 1 = v % 2 := by
  unfold andI
  have e : (BitVec.ofInt IntKind.i64.bits v &&& BitVec.ofInt IntKind.i64.bits 1).toNat = (v % 2).toNat := by
    rw [BitVec.toNat_and]
    show (BitVec.ofInt 64 v).toNat &&& (BitVec.ofInt 64 1).toNat = _
    rw [show (BitVec.ofInt 64 1).toNat = 1 from rfl, Nat.and_one_is_mod, BitVec.toNat_ofInt]
    omega
  rw [e, wr64 (by omega) (by omega)]
  omega

theorem pw_two (x : Int) (q : Nat) : x ^ (2 * q) = (x * x) ^ q := by
  rw [Int.pow_mul]
  congr 1
  rw [Int.pow_succ, Int.pow_succ, Int.pow_zero, Int.one_mul]

theorem pw_odd (x : Int) (q : Nat) : x ^ (2 * q + 1) = (x * x) ^ q * x := by rw [Int.pow_succ, pw_two]

theorem pow_mod (x n : Int) : ∀ k : Nat, (x % n) ^ k % n = x ^ k % n
  | 0 => by rw [Int.pow_zero, Int.pow_zero]
  | k + 1 => by rw [Int.pow_succ, Int.pow_succ, mul_mod_r, Int.mul_emod, pow_mod x n k, ← Int.mul_emod]

theorem bitI (v i : Nat) (hv : v < 9223372036854775808) : andI .i64 (shrI .i64 (v : Int) (i : Int)) 1 = ((v / 2 ^ i % 2 : Nat) : Int) := by
  have e : shrI .i64 (v : Int) (i : Int) = ((v / 2 ^ min i 64 : Nat) : Int) := by
    unfold shrI
    show (v : Int).fdiv (2 ^ min (i : Int).toNat 64) = _
    rw [Int.toNat_natCast, Int.fdiv_eq_ediv_of_nonneg _ (Int.le_of_lt (Int.pow_pos (by decide))), Int.natCast_ediv, Int.natCast_pow]
    rfl
  have h2 : v / 2 ^ min i 64 = v / 2 ^ i := by
    by_cases c : i ≤ 64
    · rw [Nat.min_eq_left c]
    · have h1 : (2 : Nat) ^ 64 ≤ 2 ^ i := Nat.pow_le_pow_right (by omega) (by omega)
      have h0 : (2 : Nat) ^ 64 = 18446744073709551616 := by decide
      rw [Nat.min_eq_right (by omega), Nat.div_eq_of_lt (by omega), Nat.div_eq_of_lt (by omega)]
  rw [e, h2, and1 _ (Int.natCast_nonneg _) (by have := Nat.div_le_self v (2 ^ i); omega)]
  omega

/-- is number i in the set v? -/
def bitS (v i : Nat) : Bool := decide (v / 2 ^ i % 2 = 1)

theorem bit0 (v i : Nat) (hv : v < 9223372036854775808) : decide (andI .i64 (shrI .i64 (v : Int) (i : Int)) 1 = 0) = !bitS v i := by
  rw [bitI v i hv]; unfold bitS
  have : v / 2 ^ i % 2 < 2 := Nat.mod_lt _ (by omega)
  by_cases c : v / 2 ^ i % 2 = 1
  · simp [c]
  · have : v / 2 ^ i % 2 = 0 := by omega
    simp [this]

theorem bit1 (v i : Nat) (hv : v < 9223372036854775808) : decide (andI .i64 (shrI .i64 (v : Int) (i : Int)) 1 = 1) = bitS v i := by
  rw [bitI v i hv]; unfold bitS
  by_cases c : v / 2 ^ i % 2 = 1
  · simp [c]
  · simp only [c, decide_false, decide_eq_false_iff_not]; omega

theorem shl1 (n : Nat) (h : n < 63) : shlI .i64 1 (n : Int) = ((2 ^ n : Nat) : Int) := by
  have : ∀ n : Fin 63, shlI .i64 1 ((n.val : Nat) : Int) = ((2 ^ n.val : Nat) : Int) := by decide
  exact this ⟨n, h⟩

/-- a set without any number is empty -/
theorem bits_zero : ∀ (n v : Nat), v < 2 ^ n → (∀ i, i < n → bitS v i = false) → v = 0
  | 0, v, h, _ => by simpa using h
  | n + 1, v, h, hb => by
    have h0 := hb 0 (by omega)
    have hv : v / 2 = 0 := bits_zero n (v / 2) (by rw [Nat.pow_succ] at h; omega) fun i hi => by
      have := hb (i + 1) (by omega)
      unfold bitS at this ⊢
      rwa [Nat.pow_succ, Nat.mul_comm, ← Nat.div_div_eq_div_mul] at this
    unfold bitS at h0
    have : ¬ (v % 2 = 1) := by simpa using h0
    omega
/-! ### few places: all choices -/

/-- the choice that a number tells -/
def pk (p : List Int) (v : Nat) : Nat → List Int
  | 0 => []
  | m + 1 => pk p v m ++ (if bitS v m = true then [p.getD m 0] else [])

theorem pk_mem {p : List Int} {v : Nat} : ∀ {m : Nat}, ∀ x ∈ pk p v m, ∃ i, i < m ∧ x = p.getD i 0
  | 0, x, hx => by cases hx
  | m + 1, x, hx => by
    rcases List.mem_append.1 hx with hx | hx
    · obtain ⟨i, hi, e⟩ := pk_mem x hx
      exact ⟨i, by omega, e⟩
    · by_cases c : bitS v m = true
      · rw [if_pos c] at hx
        simp at hx
        exact ⟨m, by omega, by simpa using hx⟩
      · rw [if_neg c] at hx
        cases hx

theorem pk_len {p : List Int} {v : Nat} : ∀ m, (pk p v m).length ≤ m
  | 0 => Nat.le_refl _
  | m + 1 => by
    have := pk_len (p := p) (v := v) m
    unfold pk
    split <;> simp <;> omega

theorem pk_srt {p : List Int} (hp : p.Pairwise (· < ·)) {v : Nat} : ∀ {m : Nat}, m ≤ p.length → (pk p v m).Pairwise (· < ·)
  | 0, _ => List.Pairwise.nil
  | m + 1, hm => by
    have ih := pk_srt hp (v := v) (m := m) (by omega)
    unfold pk
    split
    · refine List.pairwise_append.2 ⟨ih, by simp, fun a ha b hb => ?_⟩
      obtain ⟨i, hi, rfl⟩ := pk_mem a ha
      simp only [List.mem_singleton] at hb
      subst hb
      exact srt_lt hp hi (by omega)
    · simpa using ih

theorem pk_congr {p : List Int} {v w : Nat} : ∀ {m : Nat}, (∀ i, i < m → bitS v i = bitS w i) → pk p v m = pk p w m
  | 0, _ => rfl
  | m + 1, h => by
    unfold pk
    rw [pk_congr (m := m) fun i hi => h i (by omega), h m (by omega)]

theorem bitS_lt {v m : Nat} (h : v < 2 ^ m) : bitS v m = false := by
  unfold bitS
  rw [Nat.div_eq_of_lt h]
  rfl

theorem bitS_top {v m : Nat} (h : v < 2 ^ m) : bitS (v + 2 ^ m) m = true := by
  unfold bitS
  rw [Nat.add_div_right _ (Nat.two_pow_pos m), Nat.div_eq_of_lt h]
  rfl

theorem bitS_add {v m i : Nat} (h : i < m) : bitS (v + 2 ^ m) i = bitS v i := by
  unfold bitS
  obtain ⟨k, rfl⟩ : ∃ k, m = i + (k + 1) := ⟨m - i - 1, by omega⟩
  rw [Nat.pow_add, Nat.add_mul_div_left _ _ (Nat.two_pow_pos i), Nat.pow_succ, Nat.add_mod, Nat.mul_mod_left]
  simp

theorem pk_sur {p : List Int} (hp : p.Pairwise (· < ·)) : ∀ {m : Nat}, m ≤ p.length → ∀ G : List Int, G.Pairwise (· < ·) → (∀ x ∈ G, ∃ i, i < m ∧ x = p.getD i 0) → ∃ v, v < 2 ^ m ∧ pk p v m = G
  | 0, _, G, _, h => by
    refine ⟨0, by decide, ?_⟩
    rcases G with _ | ⟨x, G⟩
    · rfl
    · obtain ⟨i, hi, _⟩ := h x List.mem_cons_self
      omega
  | m + 1, hm, G, hG, h => by
    by_cases c : p.getD m 0 ∈ G
    · obtain ⟨l, x, rfl⟩ : ∃ l x, G = l ++ [x] := by
        rcases List.eq_nil_or_concat G with e | ⟨l, x, e⟩
        · rw [e] at c; cases c
        · exact ⟨l, x, by rw [e, List.concat_eq_append]⟩
      have hlx := (List.pairwise_append.1 hG).2.2
      have hx : x = p.getD m 0 := by
        obtain ⟨i, hi, e⟩ := h x (by simp)
        rcases List.mem_append.1 c with c | c
        · have := hlx _ c x (by simp)
          have := Pb.srt_le hp (i := i) (j := m) (by omega) (by omega)
          omega
        · simp only [List.mem_singleton] at c
          exact c.symm
      obtain ⟨v, hv, e⟩ := pk_sur hp (m := m) (by omega) l (List.pairwise_append.1 hG).1 fun y hy => by
        obtain ⟨i, hi, e⟩ := h y (List.mem_append_left _ hy)
        have := hlx y hy x (by simp)
        have : i ≠ m := by rintro rfl; omega
        exact ⟨i, by omega, e⟩
      refine ⟨v + 2 ^ m, by rw [Nat.pow_succ]; omega, ?_⟩
      unfold pk
      rw [bitS_top hv, if_pos rfl, pk_congr (w := v) fun i hi => bitS_add hi, e, hx]
    · obtain ⟨v, hv, e⟩ := pk_sur hp (m := m) (by omega) G hG fun y hy => by
        obtain ⟨i, hi, e⟩ := h y hy
        have : i ≠ m := by rintro rfl; exact c (e ▸ hy)
        exact ⟨i, by omega, e⟩
      refine ⟨v, by rw [Nat.pow_succ]; omega, ?_⟩
      unfold pk
      rw [bitS_lt hv, if_neg (by simp), List.append_nil, e]

theorem F137_eq (a b : Int) : F137 a b = some (if a < b then -1 else if b < a then 1 else 0) := by
  unfold F137 F161
  by_cases h : a < b <;> by_cases h2 : b < a <;> simp [h, h2]

/-- which of two choices of the same size is greater -/
theorem F120_ret {x y : List Int} (hl : x.length = y.length) (hx : x.length ≤ 1000) : Ret (F120 x y) fun r => ((∀ i, i < x.length → y.getD i 0 ≤ x.getD i 0) → 0 < r ∨ x = y) ∧ ((∀ i, i < x.length → x.getD i 0 ≤ y.getD i 0) → ¬ 0 < r) := by
  have hL : Ret (L120_2 x y 0) fun z => match z with | .inl _ => x = y | .inr r => ((∀ i, i < x.length → y.getD i 0 ≤ x.getD i 0) → 0 < r ∨ x = y) ∧ ((∀ i, i < x.length → x.getD i 0 ≤ y.getD i 0) → ¬ 0 < r) := by
    unfold L120_2
    refine Ret.loop x.length (fun i s => s = (i : Int) ∧ ∀ j, j < i → x.getD j 0 = y.getD j 0) ⟨rfl, fun j hj => by omega⟩ ?_ ?_
    · rintro i s hi ⟨rfl, hj⟩
      unfold B120_2
      simp (disch := omega) only [Ret_some, Ret_none, Ret_bind, Ret_asrt, Ret_cond, Sum.elim_inl, Sum.elim_inr, decide_eq_true_eq, decide_eq_false_iff_not, Bool.not_eq_true', Bool.not_not, Bool.and_eq_true, Bool.or_eq_true, Bool.true_eq_false, Bool.false_eq_true, Bool.not_true, Bool.not_false, if_true, if_false, ite_true, ite_false, true_and, and_true, false_and, and_false, Int.toNat_natCast, toN_succ, Int.ofNat_eq_natCast, Int.ofNat_toNat, Nat.zero_add, Nat.add_zero, not_true_eq_false, not_false_eq_true, implies_true, wr64, F137_eq]
      rw [if_pos (by omega)]
      refine ⟨by omega, ?_⟩
      rw [if_neg (by omega)]
      refine ⟨by omega, ?_⟩
      by_cases c1 : x.getD i 0 < y.getD i 0
      · rw [if_pos c1, if_pos (by decide)]
        refine ⟨fun hh => ?_, fun _ => by decide⟩
        have := hh i hi
        omega
      · rw [if_neg c1]
        by_cases c2 : y.getD i 0 < x.getD i 0
        · rw [if_pos c2, if_pos (by decide)]
          refine ⟨fun _ => .inl (by decide), fun hh => ?_⟩
          have := hh i hi
          omega
        · rw [if_neg c2, if_neg (by decide)]
          exact ⟨by omega, forall_lt_succ.2 ⟨hj, by omega⟩⟩
    · rintro s ⟨rfl, hj⟩
      unfold B120_2
      simp (disch := omega) only [Ret_some, Ret_none, Ret_bind, Ret_asrt, Ret_cond, Sum.elim_inl, Sum.elim_inr, decide_eq_true_eq, decide_eq_false_iff_not, Bool.not_eq_true', Bool.not_not, Bool.and_eq_true, Bool.or_eq_true, Bool.true_eq_false, Bool.false_eq_true, Bool.not_true, Bool.not_false, if_true, if_false, ite_true, ite_false, true_and, and_true, false_and, and_false, Int.toNat_natCast, toN_succ, Int.ofNat_eq_natCast, Int.ofNat_toNat, Nat.zero_add, Nat.add_zero, not_true_eq_false, not_false_eq_true, implies_true, wr64]
      rw [if_neg (by omega)]
      exact list_ext_getD 0 hl hj
  obtain ⟨z, hz, hp⟩ := hL
  unfold F120
  rw [hz]
  rcases z with _ | r
  · refine ⟨0, ?_, fun _ => .inr hp, fun _ => by decide⟩
    simp [hl]
  · exact ⟨r, rfl, hp⟩

section
variable {a0 : List TTask} {t : List Int} {a2 : TSet} {a3 : TShop}

theorem L103_20_eq {p : List Int} (hpl : p.length ≤ 12) {v : Nat} (hv : v < 2 ^ 12) : L103_20 p (v : Int) ([], 0) = some (pk p v p.length) := by
  refine Ret.eq ?_
  unfold L103_20
  refine Ret.loop p.length (fun i s => s.2 = (i : Int) ∧ s.1 = pk p v i) ⟨rfl, rfl⟩ ?_ ?_
  · rintro i ⟨A, y⟩ hi ⟨rfl, rfl⟩
    have hl := pk_len (p := p) (v := v) i
    have hb := bit1 v i (by omega)
    unfold B103_20
    simp only [hb]
    simp (disch := omega) only [Ret_some, Ret_none, Ret_bind, Ret_asrt, Ret_cond, Sum.elim_inl, Sum.elim_inr, decide_eq_true_eq, decide_eq_false_iff_not, Bool.not_eq_true', Bool.not_not, Bool.and_eq_true, Bool.or_eq_true, Bool.true_eq_false, Bool.false_eq_true, Bool.not_true, Bool.not_false, if_true, if_false, ite_true, ite_false, true_and, and_true, false_and, and_false, Int.toNat_natCast, toN_succ, Int.ofNat_eq_natCast, Int.ofNat_toNat, Nat.zero_add, Nat.add_zero, not_true_eq_false, not_false_eq_true, implies_true, wr64]
    rw [if_pos (by omega)]
    refine ⟨by omega, ?_⟩
    rw [if_pos (by omega)]
    split
    · rename_i c
      refine ⟨by omega, by omega, ?_⟩
      simp only [pk, c, if_true]
    · rename_i c
      refine ⟨by omega, ?_⟩
      simp only [pk, c, List.append_nil]
      simp
  · rintro ⟨A, y⟩ ⟨rfl, rfl⟩
    unfold B103_20
    simp (disch := omega) only [Ret_some, Ret_none, Ret_bind, Ret_asrt, Ret_cond, Sum.elim_inl, Sum.elim_inr, decide_eq_true_eq, decide_eq_false_iff_not, Bool.not_eq_true', Bool.not_not, Bool.and_eq_true, Bool.or_eq_true, Bool.true_eq_false, Bool.false_eq_true, Bool.not_true, Bool.not_false, if_true, if_false, ite_true, ite_false, true_and, and_true, false_and, and_false, Int.toNat_natCast, toN_succ, Int.ofNat_eq_natCast, Int.ofNat_toNat, Nat.zero_add, Nat.add_zero, not_true_eq_false, not_false_eq_true, implies_true, wr64]
    rw [if_neg (by omega)]
    trivial

/-- what the choices of size g come to -/
def Gd (P : Pb) (g : Nat) (r : List Int × Bool) : Prop :=
  (r = ([], false) ∧ ∀ A, P.Sub A → A.length = g → ¬ P.KT A P.n) ∨ (r.2 = true ∧ P.Sub r.1 ∧ P.KT r.1 P.n ∧ r.1.length = g ∧ ∀ G, P.Best (some G) → G.length = g → r.1 = G)

theorem L103_16_ret (h : Rw a0 t a2 a3) {p : List Int} (hp : Mays (pb h) p) (hpl : p.length ≤ 12) {g : Nat} (hg : g ≤ 12) : Ret (L103_16 a0 t a2 a3 p (g : Int) ([], false, 0)) fun r => Gd (pb h) g r := by
  have hps : ∀ v, (pb h).Sub (pk p v p.length) := fun v => hp.sub (pk_srt hp.srt (Nat.le_refl _)) fun x hx => by
    obtain ⟨i, hi, e⟩ := pk_mem x hx
    rw [e]
    exact getD_mem hi
  have hsu : ∀ A, (pb h).Sub A → ∃ v, v < 2 ^ p.length ∧ pk p v p.length = A := fun A hA => pk_sur hp.srt (Nat.le_refl _) A hA.srt fun x hx => by
    obtain ⟨i, hi, e⟩ := mem_getD 0 ((hp.mem x).2 (hA.el x hx))
    exact ⟨i, hi, e.symm⟩
  have h2p : 2 ^ p.length ≤ 2 ^ 12 := Nat.pow_le_pow_right (by omega) hpl
  have h12 : (2 : Nat) ^ 12 = 4096 := by decide
  unfold L103_16
  refine Ret.loop (2 ^ p.length) (fun v s => s.2.2 = (v : Int) ∧ ((s.1 = [] ∧ s.2.1 = false ∧ ∀ w, w < v → (pk p w p.length).length = g → ¬ (pb h).KT (pk p w p.length) (pb h).n) ∨ (s.2.1 = true ∧ (pb h).Sub s.1 ∧ (pb h).KT s.1 (pb h).n ∧ s.1.length = g ∧ ∀ G, (pb h).Best (some G) → G.length = g → (∃ w, w < v ∧ pk p w p.length = G) → s.1 = G))) ⟨rfl, .inl ⟨rfl, rfl, fun w hw => by omega⟩⟩ ?_ ?_
  · rintro v ⟨b, fl, y⟩ hv ⟨rfl, h1⟩
    simp only at h1
    have hlen := pk_len (p := p) (v := v) p.length
    have hsv := hps v
    have h20 := L103_20_eq hpl (v := v) (by omega)
    have hsh := shl1 p.length (by omega)
    obtain ⟨r, hr1, hr2⟩ := F141_ret h (A := pk p v p.length) (by omega)
    -- nothing new at v
    have hkeep : (∀ G, (pb h).Best (some G) → G.length = g → pk p v p.length = G → fl = true ∧ b = G) → (fl = false → (pk p v p.length).length = g → ¬ (pb h).KT (pk p v p.length) (pb h).n) → ((b = [] ∧ fl = false ∧ ∀ w, w < v + 1 → (pk p w p.length).length = g → ¬ (pb h).KT (pk p w p.length) (pb h).n) ∨ (fl = true ∧ (pb h).Sub b ∧ (pb h).KT b (pb h).n ∧ b.length = g ∧ ∀ G, (pb h).Best (some G) → G.length = g → (∃ w, w < v + 1 ∧ pk p w p.length = G) → b = G)) := by
      intro k1 k2
      rcases h1 with ⟨e1, e2, h1⟩ | ⟨e1, e2, e3, e4, h1⟩
      · exact .inl ⟨e1, e2, forall_lt_succ.2 ⟨h1, k2 e2⟩⟩
      · refine .inr ⟨e1, e2, e3, e4, fun G hG hl => ?_⟩
        rintro ⟨w, hw, e⟩
        by_cases c : w = v
        · subst c; exact (k1 G hG hl e).2
        · exact h1 G hG hl ⟨w, by omega, e⟩
    unfold B103_16
    simp only [h20, hsh, hr1]
    simp (disch := omega) only [Ret_some, Ret_none, Ret_bind, Ret_asrt, Ret_cond, Sum.elim_inl, Sum.elim_inr, decide_eq_true_eq, decide_eq_false_iff_not, Bool.not_eq_true', Bool.not_not, Bool.and_eq_true, Bool.or_eq_true, Bool.true_eq_false, Bool.false_eq_true, Bool.not_true, Bool.not_false, if_true, if_false, ite_true, ite_false, true_and, and_true, false_and, and_false, Int.toNat_natCast, toN_succ, Int.ofNat_eq_natCast, Int.ofNat_toNat, Nat.zero_add, Nat.add_zero, not_true_eq_false, not_false_eq_true, implies_true, wr64]
    rw [if_pos (by omega)]
    generalize hA : pk p v p.length = A at *
    by_cases c1 : A.length = g
    case neg =>
      rw [if_neg (by omega)]
      exact ⟨by omega, hkeep (fun G _ hl e => absurd (e ▸ hl) c1) (fun _ e => absurd e c1)⟩
    rw [if_pos (by omega)]
    refine Ret.of hr1 ?_
    by_cases c2 : r = true
    case neg =>
      rw [if_neg c2]
      have hnk : ¬ (pb h).KT A (pb h).n := fun hk => c2 (hr2.2 hk)
      exact ⟨by omega, hkeep (fun G hG hl e => absurd (e ▸ hG.2.1) hnk) (fun _ _ => hnk)⟩
    rw [if_pos c2]
    have hk := hr2.1 c2
    rcases h1 with ⟨e1, e2, h1⟩ | ⟨e1, e2, e3, e4, h1⟩
    · rw [if_pos e2]
      refine ⟨by omega, .inr ⟨hsv, hk, c1, fun G hG hl => ?_⟩⟩
      rintro ⟨w, hw, e⟩
      by_cases c : w = v
      · subst c; rw [← hA]; exact e
      · exact absurd (e ▸ hG.2.1) (h1 w (by omega) (e ▸ hl))
    · rw [if_neg (by simp [e1])]
      obtain ⟨q, hq1, hq2, hq3⟩ := F120_ret (x := A) (y := b) (by omega) (by omega)
      refine Ret.of hq1 ?_
      split
      · rename_i c
        refine ⟨by omega, .inr ⟨hsv, hk, c1, fun G hG hl => ?_⟩⟩
        rintro ⟨w, hw, e⟩
        by_cases cw : w = v
        · subst cw; rw [← hA]; exact e
        · exfalso
          have := h1 G hG hl ⟨w, by omega, e⟩
          subst this
          exact hq3 (fun i hi => (hG.2.2 A hsv hk).2 i (by omega)) c
      · rename_i c
        refine ⟨by omega, hkeep (fun G hG hl e => ⟨e1, ?_⟩) (fun e => by rw [e1] at e; cases e)⟩
        subst e
        rcases hq2 (fun i hi => (hG.2.2 b e2 e3).2 i hi) with h' | h'
        · exact absurd h' c
        · exact h'.symm
  · rintro ⟨b, fl, y⟩ ⟨rfl, h1⟩
    simp only at h1
    have hsh := shl1 p.length (by omega)
    unfold B103_16
    simp only [hsh]
    have hb : decide (((2 ^ p.length : Nat) : Int) < ((2 ^ p.length : Nat) : Int)) = false := by simp
    rw [hb, cond_false]
    refine Ret_some.2 ?_
    rcases h1 with ⟨e1, e2, h1⟩ | ⟨e1, e2, e3, e4, h1⟩
    · refine .inl ⟨by rw [show b = [] from e1, show fl = false from e2], fun A hA hl hk => ?_⟩
      obtain ⟨w, hw, e⟩ := hsu A hA
      exact h1 w hw (by rw [e]; exact hl) (by rw [e]; exact hk)
    · exact .inr ⟨e1, e2, e3, e4, fun G hG hl => h1 G hG hl (hsu G hG.1)⟩

theorem F103_ret (h : Rw a0 t a2 a3) : Ret (F103 a0 t a2 a3) fun r => (r.2 = false → r.1 = []) ∧ (pb h).Best (if r.2 = true then some r.1 else none) := by
  obtain ⟨p, hp1, hp, hpl⟩ := L103_3_ret h
  unfold F103
  rw [hp1, Option.bind_some]
  by_cases c : 12 < (p.length : Int)
  · simp only [c, decide_true, cond_true]
    obtain ⟨r, hr, hq⟩ := F140_ret h hp hpl
    rw [hr]
    exact ⟨r, rfl, hq⟩
  · simp only [c, decide_false, cond_false]
    have hpl : p.length ≤ 12 := by omega
    have hin : ∀ A, (pb h).Sub A → A.length ≤ p.length := fun A hA => by
      obtain ⟨v, _, e⟩ := pk_sur hp.srt (Nat.le_refl _) A hA.srt fun x hx => by
        obtain ⟨i, hi, e⟩ := mem_getD 0 ((hp.mem x).2 (hA.el x hx))
        exact ⟨i, hi, e.symm⟩
      rw [← e]
      exact pk_len _
    have hL : Ret (L103_11 a0 t a2 a3 p 0) fun x => match x with | .inl _ => (pb h).Best none | .inr r => r.2 = true ∧ (pb h).Best (some r.1) := by
      unfold L103_11
      refine Ret.loop (p.length + 1) (fun g s => s = (g : Int) ∧ ∀ A, (pb h).Sub A → A.length < g → ¬ (pb h).KT A (pb h).n) ⟨rfl, fun A _ hA => by omega⟩ ?_ ?_
      · rintro g s hg ⟨rfl, hs⟩
        obtain ⟨r, hr1, hr2⟩ := L103_16_ret h hp hpl (g := g) (by omega)
        unfold B103_11
        simp only [hr1]
        simp (disch := omega) only [Ret_some, Ret_none, Ret_bind, Ret_asrt, Ret_cond, Sum.elim_inl, Sum.elim_inr, decide_eq_true_eq, decide_eq_false_iff_not, Bool.not_eq_true', Bool.not_not, Bool.and_eq_true, Bool.or_eq_true, Bool.true_eq_false, Bool.false_eq_true, Bool.not_true, Bool.not_false, if_true, if_false, ite_true, ite_false, true_and, and_true, false_and, and_false, Int.toNat_natCast, toN_succ, Int.ofNat_eq_natCast, Int.ofNat_toNat, Nat.zero_add, Nat.add_zero, not_true_eq_false, not_false_eq_true, implies_true, wr64]
        rw [if_pos (by omega)]
        rcases hr2 with ⟨rfl, hno⟩ | ⟨k1, k2, k3, k4, k5⟩
        · rw [if_neg (by simp)]
          refine ⟨by omega, fun A hA hl => ?_⟩
          by_cases e : A.length = g
          · exact hno A hA e
          · exact hs A hA (by omega)
        · rw [if_pos k1]
          refine (⟨trivial, ?_⟩ : True ∧ _).2
          obtain ⟨q, _, _, hq⟩ := F101_ret h
          by_cases cq : q.2 = true
          · rw [if_pos cq] at hq
            have hle := (hq.2.2 r.1 k2 k3).1
            have hge : ¬ q.1.length < g := fun hlt => hs _ hq.1 hlt hq.2.1
            have : r.1 = q.1 := k5 _ hq (by omega)
            rw [this]
            exact hq
          · rw [if_neg cq] at hq
            exact absurd k3 (hq _ k2)
      · rintro s ⟨rfl, hs⟩
        unfold B103_11
        simp (disch := omega) only [Ret_some, Ret_none, Ret_bind, Ret_asrt, Ret_cond, Sum.elim_inl, Sum.elim_inr, decide_eq_true_eq, decide_eq_false_iff_not, Bool.not_eq_true', Bool.not_not, Bool.and_eq_true, Bool.or_eq_true, Bool.true_eq_false, Bool.false_eq_true, Bool.not_true, Bool.not_false, if_true, if_false, ite_true, ite_false, true_and, and_true, false_and, and_false, Int.toNat_natCast, toN_succ, Int.ofNat_eq_natCast, Int.ofNat_toNat, Nat.zero_add, Nat.add_zero, not_true_eq_false, not_false_eq_true, implies_true, wr64]
        rw [if_neg (by omega)]
        intro A hA
        have := hin A hA
        exact hs A hA (by omega)
    obtain ⟨x, hx, hq⟩ := hL
    rw [hx]
    rcases x with _ | r
    · exact ⟨([], false), rfl, fun _ => rfl, hq⟩
    · obtain ⟨q1, q2⟩ := hq
      exact ⟨r, rfl, fun e => absurd (q1.symm.trans e) (by simp), by rw [if_pos q1]; exact q2⟩

theorem F101_F103 (h : Rw a0 t a2 a3) : F101 a0 t a2 a3 = F103 a0 t a2 a3 := by
  obtain ⟨r, hr, ⟨_, hr0⟩, hr1⟩ := F101_ret h
  obtain ⟨q, hq, hq0, hq1⟩ := F103_ret h
  rw [hr, hq]
  have e := hr1.uniq hq1
  rcases r with ⟨r, b⟩
  rcases q with ⟨q, c⟩
  rcases b with _ | _ <;> rcases c with _ | _ <;> simp_all

end
/-! ### all turns -/

theorem F31_refl {l : List Int} (hl : l.length ≤ 100000) : F31 l l = some true := by
  refine Ret.eq ?_
  unfold F31
  simp (disch := omega) only [Ret_some, Ret_none, Ret_bind, Ret_asrt, Ret_cond, Sum.elim_inl, Sum.elim_inr, decide_eq_true_eq, decide_eq_false_iff_not, Bool.not_eq_true', Bool.not_not, Bool.and_eq_true, Bool.or_eq_true, Bool.true_eq_false, Bool.false_eq_true, Bool.not_true, Bool.not_false, if_true, if_false, ite_true, ite_false, true_and, and_true, false_and, and_false, Int.toNat_natCast, toN_succ, Int.ofNat_eq_natCast, Int.ofNat_toNat, Nat.zero_add, Nat.add_zero, not_true_eq_false, not_false_eq_true, implies_true, wr64]
  unfold L31_4
  refine Ret.loop l.length (fun i s => s = (i : Int)) rfl ?_ ?_
  · rintro i s hi rfl
    unfold B31_4
    simp (disch := omega) only [Ret_some, Ret_none, Ret_bind, Ret_asrt, Ret_cond, Sum.elim_inl, Sum.elim_inr, decide_eq_true_eq, decide_eq_false_iff_not, Bool.not_eq_true', Bool.not_not, Bool.and_eq_true, Bool.or_eq_true, Bool.true_eq_false, Bool.false_eq_true, Bool.not_true, Bool.not_false, if_true, if_false, ite_true, ite_false, true_and, and_true, false_and, and_false, Int.toNat_natCast, toN_succ, Int.ofNat_eq_natCast, Int.ofNat_toNat, Nat.zero_add, Nat.add_zero, not_true_eq_false, not_false_eq_true, implies_true, wr64]
    rw [if_pos (by omega)]
    refine ⟨by omega, ?_⟩
    omega
  · rintro s rfl
    unfold B31_4
    simp (disch := omega) only [Ret_some, Ret_none, Ret_bind, Ret_asrt, Ret_cond, Sum.elim_inl, Sum.elim_inr, decide_eq_true_eq, decide_eq_false_iff_not, Bool.not_eq_true', Bool.not_not, Bool.and_eq_true, Bool.or_eq_true, Bool.true_eq_false, Bool.false_eq_true, Bool.not_true, Bool.not_false, if_true, if_false, ite_true, ite_false, true_and, and_true, false_and, and_false, Int.toNat_natCast, toN_succ, Int.ofNat_eq_natCast, Int.ofNat_toNat, Nat.zero_add, Nat.add_zero, not_true_eq_false, not_false_eq_true, implies_true, wr64]
    rw [if_neg (by omega)]
    trivial

theorem F42_refl {l : List (List Int)} (hl : l.length ≤ 1000) (h : ∀ x ∈ l, x.length ≤ 100000) : F42 l l = some true := by
  have : F82 l l = some true := by
    refine Ret.eq ?_
    unfold F82
    simp (disch := omega) only [Ret_some, Ret_none, Ret_bind, Ret_asrt, Ret_cond, Sum.elim_inl, Sum.elim_inr, decide_eq_true_eq, decide_eq_false_iff_not, Bool.not_eq_true', Bool.not_not, Bool.and_eq_true, Bool.or_eq_true, Bool.true_eq_false, Bool.false_eq_true, Bool.not_true, Bool.not_false, if_true, if_false, ite_true, ite_false, true_and, and_true, false_and, and_false, Int.toNat_natCast, toN_succ, Int.ofNat_eq_natCast, Int.ofNat_toNat, Nat.zero_add, Nat.add_zero, not_true_eq_false, not_false_eq_true, implies_true, wr64]
    unfold L82_4
    refine Ret.loop l.length (fun i s => s = (i : Int)) rfl ?_ ?_
    · rintro i s hi rfl
      have := F31_refl (h _ (getD_mem (d := []) hi))
      unfold B82_4
      simp only [Int.toNat_natCast]
      rw [this]
      simp (disch := omega) only [Ret_some, Ret_none, Ret_bind, Ret_asrt, Ret_cond, Sum.elim_inl, Sum.elim_inr, decide_eq_true_eq, decide_eq_false_iff_not, Bool.not_eq_true', Bool.not_not, Bool.and_eq_true, Bool.or_eq_true, Bool.true_eq_false, Bool.false_eq_true, Bool.not_true, Bool.not_false, if_true, if_false, ite_true, ite_false, true_and, and_true, false_and, and_false, Int.toNat_natCast, toN_succ, Int.ofNat_eq_natCast, Int.ofNat_toNat, Nat.zero_add, Nat.add_zero, not_true_eq_false, not_false_eq_true, implies_true, wr64]
      rw [if_pos (by omega)]
      refine ⟨by omega, ?_⟩
      omega
    · rintro s rfl
      unfold B82_4
      simp (disch := omega) only [Ret_some, Ret_none, Ret_bind, Ret_asrt, Ret_cond, Sum.elim_inl, Sum.elim_inr, decide_eq_true_eq, decide_eq_false_iff_not, Bool.not_eq_true', Bool.not_not, Bool.and_eq_true, Bool.or_eq_true, Bool.true_eq_false, Bool.false_eq_true, Bool.not_true, Bool.not_false, if_true, if_false, ite_true, ite_false, true_and, and_true, false_and, and_false, Int.toNat_natCast, toN_succ, Int.ofNat_eq_natCast, Int.ofNat_toNat, Nat.zero_add, Nat.add_zero, not_true_eq_false, not_false_eq_true, implies_true, wr64]
      rw [if_neg (by omega)]
      trivial
  unfold F42
  rw [this]
  rfl

section
variable {a0 : List TTask} {a1 : List (List Int)} {a2 : List TSet} {a3 : TShop}

theorem L58_10_eq (hl : a0.length ≤ 40) (hn : ∀ i, i < a0.length → TOk (a0.getD i TTask.d)) (s : Int) : L58_10 a0 a1 a2 s = L59_7 a0 a1 a2 s := by
  unfold L58_10 L59_7
  refine loopW_congr (fun v => ?_) s
  have : L58_13 a0 a1 a2 v 0 = L59_10 a0 a1 a2 v 0 := by
    unfold L58_13 L59_10
    exact loopW_congr (fun j => B58_13_eq hl hn a1 a2 v j) 0
  unfold B58_10 B59_7
  rw [this]

theorem L59_7_ret (hl : a0.length ≤ 40) (hn : ∀ i, i < a0.length → TOk (a0.getD i TTask.d)) (h12 : a1.length = a2.length) (h2 : a2.length ≤ 40) : Ret (L59_7 a0 a1 a2 0) fun x => match x with | .inl _ => ∀ i, i < a1.length → ROk a0 (a1.getD i []) | .inr r => r.1 = [] ∧ r.2 ≠ 0 := by
  unfold L59_7
  refine Ret.loop a1.length (fun i s => s = (i : Int) ∧ ∀ j, j < i → ROk a0 (a1.getD j [])) ⟨rfl, fun j hj => by omega⟩ ?_ ?_
  · rintro i s hi ⟨rfl, hj⟩
    obtain ⟨x, hx, hp⟩ := L59_10_ret hl hn a1 a2 i (by omega)
    unfold B59_7
    rw [hx]
    have hb : decide ((i : Int) < (a1.length : Int)) = true := by simp; omega
    rw [hb, cond_true, asrt_eq (by omega), wr64 (by omega) (by omega)]
    rcases x with _ | r
    · exact ⟨_, rfl, by simp, forall_lt_succ.2 ⟨hj, hp⟩⟩
    · exact ⟨_, rfl, hp⟩
  · rintro s ⟨rfl, hj⟩
    unfold B59_7
    have hb : decide ((a1.length : Int) < (a1.length : Int)) = false := by simp
    rw [hb]
    exact ⟨_, rfl, hj⟩

theorem L59_24_ret (hrw : ∀ i, i < a1.length → Rw a0 (a1.getD i []) (a2.getD i TSet.d) a3) (h12 : a1.length = a2.length) (h2 : a2.length ≤ 40) : L58_23 a0 a1 a2 a3 ([], 0) = L59_24 a0 a1 a2 a3 ([], 0) ∧ Ret (L59_24 a0 a1 a2 a3 ([], 0)) fun x => match x with | .inl m => m.length ≤ 40 ∧ ∀ y ∈ m, y.length ≤ 30000 | .inr r => r.1 = [] := by
  constructor
  · unfold L58_23 L59_24
    refine loopW_congr (fun s => ?_) _
    obtain ⟨m, v⟩ := s
    unfold B58_23 B59_24
    by_cases c : v < (a1.length : Int)
    · by_cases c0 : 0 ≤ v
      · obtain ⟨i, rfl⟩ : ∃ i : Nat, v = (i : Int) := ⟨v.toNat, by omega⟩
        have := F101_F103 (hrw i (by omega))
        simp only [Int.toNat_natCast, this]
      · simp [c, c0, asrt]
    · simp only [c, decide_false, cond_false]
  · unfold L59_24
    refine Ret.loop a1.length (fun i s => s.2 = (i : Int) ∧ s.1.length = i ∧ ∀ y ∈ s.1, y.length ≤ 30000) ⟨rfl, rfl, fun y hy => by cases hy⟩ ?_ ?_
    · rintro i ⟨m, v⟩ hi ⟨rfl, h1, h3⟩
      simp only at h1 h3
      obtain ⟨r, hr, ⟨hr1, hr2⟩, _⟩ := F101_ret (hrw i hi)
      rw [F101_F103 (hrw i hi)] at hr
      unfold B59_24
      simp only [Int.toNat_natCast, hr]
      simp (disch := omega) only [Ret_some, Ret_none, Ret_bind, Ret_asrt, Ret_cond, Sum.elim_inl, Sum.elim_inr, decide_eq_true_eq, decide_eq_false_iff_not, Bool.not_eq_true', Bool.not_not, Bool.and_eq_true, Bool.or_eq_true, Bool.true_eq_false, Bool.false_eq_true, Bool.not_true, Bool.not_false, if_true, if_false, ite_true, ite_false, true_and, and_true, false_and, and_false, Int.toNat_natCast, toN_succ, Int.ofNat_eq_natCast, Int.ofNat_toNat, Nat.zero_add, Nat.add_zero, not_true_eq_false, not_false_eq_true, implies_true, wr64]
      rw [if_pos (by omega)]
      refine ⟨by omega, by omega, ?_⟩
      split
      · trivial
      · refine ⟨by omega, by omega, by simp; omega, fun y hy => ?_⟩
        rcases List.mem_append.1 hy with hy | hy
        · exact h3 y hy
        · simp at hy
          rw [hy]
          exact hr1
    · rintro ⟨m, v⟩ ⟨rfl, h1, h3⟩
      unfold B59_24
      simp (disch := omega) only [Ret_some, Ret_none, Ret_bind, Ret_asrt, Ret_cond, Sum.elim_inl, Sum.elim_inr, decide_eq_true_eq, decide_eq_false_iff_not, Bool.not_eq_true', Bool.not_not, Bool.and_eq_true, Bool.or_eq_true, Bool.true_eq_false, Bool.false_eq_true, Bool.not_true, Bool.not_false, if_true, if_false, ite_true, ite_false, true_and, and_true, false_and, and_false, Int.toNat_natCast, toN_succ, Int.ofNat_eq_natCast, Int.ofNat_toNat, Nat.zero_add, Nat.add_zero, not_true_eq_false, not_false_eq_true, implies_true, wr64]
      rw [if_neg (by omega)]
      simp only at h1
      exact ⟨by omega, h3⟩

theorem F58_ret (h0 : Fit a0) (h2 : Fit a2) : ∃ q, F44 a0 = some q ∧ Ret (F58 a0 a1 a2 a3) fun r => (r.1.length ≤ 40 ∧ ∀ y ∈ r.1, y.length ≤ 30000) ∧ ((q ≠ 0 → r = ([], q)) ∧ (q = 0 → F59 a0 a1 a2 a3 40 = some r)) := by
  obtain ⟨q, hq, hp⟩ := F44_tok a0 h0
  refine ⟨q, hq, ?_⟩
  unfold F58
  rw [hq, Option.bind_some]
  by_cases c : q = 0
  · subst c
    obtain ⟨hl, hn⟩ := hp rfl
    obtain ⟨u, hu, hup⟩ := F100_sok a2 a3 h2
    unfold F59
    rw [F102_eq, hu]
    simp only [decide_true, Bool.not_true, cond_false, Option.bind_some]
    by_cases cu : u = 0
    · subst cu
      have hs := hup rfl
      have hsl := hs.len
      simp only [decide_true, Bool.not_true, cond_false]
      by_cases c12 : (a1.length : Int) = (a2.length : Int)
      · simp only [c12, decide_true, Bool.not_true, cond_false]
        have c12 : a1.length = a2.length := by omega
        obtain ⟨x, hx, hxp⟩ := L59_7_ret hl hn c12 hs.len
        rw [L58_10_eq hl hn, hx]
        rcases x with _ | r
        · have hrw : ∀ i, i < a1.length → Rw a0 (a1.getD i []) (a2.getD i TSet.d) a3 := fun i hi =>
            { hl := hl, hn := hn, row := hxp i hi, s0 := (hs.set i (by omega)).1, s1 := (hs.set i (by omega)).2, l0 := hs.l0, l1 := hs.l1, m1 := hs.m1 }
          obtain ⟨e, y, hy, hyp⟩ := L59_24_ret hrw c12 hs.len
          simp only [Option.bind_some, Sum.elim_inl, e, hy]
          rcases y with m | r
          · exact ⟨(m, 0), rfl, hyp, fun k => absurd rfl k, fun _ => rfl⟩
          · have hyp : r.1 = [] := hyp
            exact ⟨r, rfl, ⟨by rw [hyp]; exact Nat.zero_le _, fun y hy => by rw [hyp] at hy; cases hy⟩, fun k => absurd rfl k, fun _ => rfl⟩
        · obtain ⟨hyp, _⟩ := hxp
          exact ⟨r, rfl, ⟨by rw [hyp]; exact Nat.zero_le _, fun y hy => by rw [hyp] at hy; cases hy⟩, fun k => absurd rfl k, fun _ => rfl⟩
      · simp only [c12, decide_false, Bool.not_false, cond_true]
        exact ⟨_, rfl, ⟨Nat.zero_le _, fun y hy => by cases hy⟩, fun k => absurd rfl k, fun _ => rfl⟩
    · simp only [cu, decide_false, Bool.not_false, cond_true]
      exact ⟨_, rfl, ⟨Nat.zero_le _, fun y hy => by cases hy⟩, fun k => absurd rfl k, fun _ => rfl⟩
  · have e : decide (q = 0) = false := by simp [c]
    rw [e]
    exact ⟨_, rfl, ⟨Nat.zero_le _, fun y hy => by cases hy⟩, fun _ => rfl, fun k => absurd k c⟩

theorem F13_true (a0 : List TTask) (a1 : List (List Int)) (a2 : List TSet) (a3 : TShop) (h0 : Fit a0) (h2 : Fit a2) : F13 a0 a1 a2 a3 = some true := by
  obtain ⟨q, hq, r, hr, ⟨k1, k2⟩, k3, k4⟩ := F58_ret (a1 := a1) (a3 := a3) h0 h2
  have hf := F42_refl (l := r.1) (by omega) (fun x hx => by have := k2 x hx; omega)
  unfold F13
  rw [hr, F45_eq, hq, show F43 = some true from rfl]
  simp only [Option.bind_some]
  by_cases c : q = 0
  · rw [k4 c]
    simp [c, hf]
  · have := k3 c
    subst this
    simp [c, hf]

end

end Go.Proofs.Ytciflideblafgaa
