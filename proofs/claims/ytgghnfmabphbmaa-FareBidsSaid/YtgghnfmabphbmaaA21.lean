/- How the pure functions are reasoned about: what they return, loops by what holds at their heads. -/
import Derived.Test.YtgghnfmabphbmaaA20
namespace Go.Proofs.Ytgghnfmabphbmaa.Fw
open Go
set_option linter.unusedSimpArgs false

/-- it returns, and what it returns is as Q says -/
def Ret {α : Type} (m : Option α) (Q : α → Prop) : Prop := ∃ o, m = some o ∧ Q o

section
variable {α β S X Y : Type}

theorem Ret_some {o : α} {Q : α → Prop} : Ret (some o) Q ↔ Q o := by
  constructor
  · rintro ⟨o', h, q⟩; cases h; exact q
  · exact fun h => ⟨o, rfl, h⟩

theorem Ret_none {Q : α → Prop} : Ret (none : Option α) Q ↔ False := by
  constructor
  · rintro ⟨o', h, q⟩; cases h
  · exact False.elim

theorem Ret_bind {a : Option β} {f : β → Option α} {Q : α → Prop} : Ret (a.bind f) Q ↔ Ret a fun x => Ret (f x) Q := by
  constructor
  · rintro ⟨o, h, q⟩
    obtain ⟨x, hx, h⟩ := Option.bind_eq_some_iff.1 h
    exact ⟨x, hx, o, h, q⟩
  · rintro ⟨x, hx, o, h, q⟩
    exact ⟨o, Option.bind_eq_some_iff.2 ⟨x, hx, h⟩, q⟩

theorem Ret_asrt {p : Prop} [Decidable p] {k : Option α} {Q : α → Prop} : Ret (asrt p k) Q ↔ p ∧ Ret k Q := by
  unfold asrt
  by_cases h : p
  · simp [h]
  · simp [h, Ret_none]

theorem Ret_both {n : Nat} {x y : Option α} {Q : α → Prop} : Ret (both n x y) Q ↔ if n = 0 then x = y ∧ Ret x Q else Ret y Q := by
  unfold both
  by_cases h : n = 0
  · rw [if_pos h, if_pos h]
    by_cases e : x = y
    · rw [if_pos e]; simp [e]
    · rw [if_neg e]; simp [e, Ret_none]
  · rw [if_neg h, if_neg h]

theorem Ret_cond {b : Bool} {x y : Option α} {Q : α → Prop} : Ret (bif b then x else y) Q ↔ if b = true then Ret x Q else Ret y Q := by cases b <;> simp

theorem Ret_elim_l {p : X} {f : X → Option α} {g : Y → Option α} {Q : α → Prop} : Ret (Sum.elim f g (.inl p)) Q ↔ Ret (f p) Q := Iff.rfl
theorem Ret_elim_r {p : Y} {f : X → Option α} {g : Y → Option α} {Q : α → Prop} : Ret (Sum.elim f g (.inr p)) Q ↔ Ret (g p) Q := Iff.rfl

theorem Ret.mono {m : Option α} {Q R : α → Prop} (h : Ret m Q) (k : ∀ o, Q o → R o) : Ret m R := ⟨h.choose, h.choose_spec.1, k _ h.choose_spec.2⟩

theorem Ret.eq {m : Option α} {v : α} (h : Ret m fun o => o = v) : m = some v := by
  obtain ⟨o, h1, rfl⟩ := h
  exact h1

theorem Ret.of {m : Option α} {v : α} {Q : α → Prop} (h : m = some v) (k : Q v) : Ret m Q := ⟨v, h, k⟩

theorem Ret_eq {m : Option α} {v : α} {Q : α → Prop} (h : m = some v) : Ret m Q ↔ Q v := by rw [h]; exact Ret_some

theorem Ret.and {m : Option α} {Q R : α → Prop} (h : Ret m Q) (k : Ret m R) : Ret m fun o => Q o ∧ R o := by
  obtain ⟨o, h1, h2⟩ := h
  obtain ⟨o', k1, k2⟩ := k
  rw [h1] at k1
  cases k1
  exact ⟨o, h1, h2, k2⟩

/-- a call, by what is known of it -/
theorem Ret.bind {a : Option β} {f : β → Option α} {P : β → Prop} {Q : α → Prop} (h : Ret a P) (k : ∀ x, P x → Ret (f x) Q) : Ret (a.bind f) Q := Ret_bind.2 (h.mono k)

/-- A loop over numbers: what holds at its head, by the number. -/
theorem Ret.loop {B : S → Option (S ⊕ X)} {s0 : S} {Q : X → Prop} (n : Nat) (I : Nat → S → Prop) (h0 : I 0 s0)
    (hs : ∀ i s, i < n → I i s → Ret (B s) fun o => match o with | .inl s' => I (i + 1) s' | .inr x => Q x)
    (he : ∀ s, I n s → Ret (B s) fun o => match o with | .inl _ => False | .inr x => Q x) : Ret (loopW B s0) Q := by
  have key : ∀ k i s, n - i = k → i ≤ n → I i s → Ret (loopW B s) Q := by
    intro k
    induction k with
    | zero =>
      intro i s hk hi h
      obtain rfl : i = n := by omega
      obtain ⟨o, h1, h2⟩ := he s h
      cases o with
      | inl _ => exact h2.elim
      | inr x => exact ⟨x, by rw [loopW_eq, h1]; rfl, h2⟩
    | succ k ih =>
      intro i s hk hi h
      obtain ⟨o, h1, h2⟩ := hs i s (by omega) h
      cases o with
      | inl s' =>
        obtain ⟨x, h3, h4⟩ := ih (i + 1) s' (by omega) (by omega) h2
        exact ⟨x, by rw [loopW_eq, h1]; exact h3, h4⟩
      | inr x => exact ⟨x, by rw [loopW_eq, h1]; rfl, h2⟩
  exact key n 0 s0 rfl (Nat.zero_le _) h0

/-- A loop: what holds at its head, and a number that each round lowers. -/
theorem Ret.while {B : S → Option (S ⊕ X)} {s0 : S} {Q : X → Prop} (I : S → Prop) (μ : S → Nat) (h0 : I s0)
    (hs : ∀ s, I s → Ret (B s) fun o => match o with | .inl s' => I s' ∧ μ s' < μ s | .inr x => Q x) : Ret (loopW B s0) Q := by
  refine loopW_inv I Q μ h0 fun s h => ?_
  obtain ⟨o, h1, h2⟩ := hs s h
  cases o with
  | inl s' => exact .inl ⟨s', h1, h2⟩
  | inr x => exact .inr ⟨x, h1, h2⟩

/-- the same loop -/
theorem loopW_congr {B B' : S → Option (S ⊕ X)} (h : ∀ s, B s = B' s) (s : S) : loopW B s = loopW B' s := by rw [show B = B' from funext h]

end

theorem wr64 {x : Int} (h1 : -9223372036854775808 ≤ x) (h2 : x < 9223372036854775808) : IntKind.wrap .i64 x = x := by
  unfold IntKind.wrap
  have e1 : (2 : Int) ^ 64 = 18446744073709551616 := by decide
  have e2 : (2 : Int) ^ (64 - 1) = 9223372036854775808 := by decide
  simp only [IntKind.bits, IntKind.signed, Bool.true_and, decide_eq_true_eq, e1, e2]
  split <;> omega

theorem getD_mem {α : Type} {l : List α} {i : Nat} {d : α} (h : i < l.length) : l.getD i d ∈ l := by
  rw [List.getD_eq_getElem?_getD, List.getElem?_eq_getElem h]
  exact List.getElem_mem h

theorem mem_getD {α : Type} {l : List α} {x : α} (d : α) (h : x ∈ l) : ∃ i, i < l.length ∧ l.getD i d = x := by
  obtain ⟨i, hi, rfl⟩ := List.getElem_of_mem h
  exact ⟨i, hi, by rw [List.getD_eq_getElem?_getD, List.getElem?_eq_getElem hi]; rfl⟩

theorem take_succ' {α : Type} {l : List α} {i : Nat} (d : α) (h : i < l.length) : l.take (i + 1) = l.take i ++ [l.getD i d] := by
  rw [List.take_add_one, List.getD_eq_getElem?_getD, List.getElem?_eq_getElem h]
  rfl

theorem lgetD_set {α : Type} {l : List α} {i j : Nat} {v d : α} : (l.set i v).getD j d = if i = j ∧ i < l.length then v else l.getD j d := by
  simp only [List.getD_eq_getElem?_getD, List.getElem?_set]
  by_cases h : i = j
  · subst h
    by_cases h2 : i < l.length
    · simp [h2]
    · simp [h2]
  · simp [h]

theorem getD_take {α : Type} {l : List α} {n j : Nat} {d : α} (h : j < n) : (l.take n).getD j d = l.getD j d := by
  simp [List.getD_eq_getElem?_getD, List.getElem?_take, h]

theorem getD_drop {α : Type} {l : List α} {n j : Nat} {d : α} : (l.drop n).getD j d = l.getD (n + j) d := by
  simp [List.getD_eq_getElem?_getD, List.getElem?_drop]

theorem getD_rep {α : Type} {n j : Nat} {v d : α} (h : j < n) : (List.replicate n v).getD j d = v := by
  simp [List.getD_eq_getElem?_getD, List.getElem?_replicate, h]

theorem list_ext_getD {α : Type} {l m : List α} (d : α) (h : l.length = m.length) (k : ∀ i, i < l.length → l.getD i d = m.getD i d) : l = m := by
  refine List.ext_getElem h fun i h1 h2 => ?_
  have := k i h1
  rwa [List.getD_eq_getElem?_getD, List.getD_eq_getElem?_getD, List.getElem?_eq_getElem h1, List.getElem?_eq_getElem h2] at this

theorem exists_lt_succ {P : Nat → Prop} {n : Nat} : (∃ e, e < n + 1 ∧ P e) ↔ (∃ e, e < n ∧ P e) ∨ P n := by
  constructor
  · rintro ⟨e, h, p⟩
    by_cases c : e = n
    · exact .inr (c ▸ p)
    · exact .inl ⟨e, by omega, p⟩
  · rintro (⟨e, h, p⟩ | p)
    · exact ⟨e, by omega, p⟩
    · exact ⟨n, by omega, p⟩

theorem forall_lt_succ {P : Nat → Prop} {n : Nat} : (∀ e, e < n + 1 → P e) ↔ (∀ e, e < n → P e) ∧ P n := by
  constructor
  · exact fun h => ⟨fun e he => h e (by omega), h n (by omega)⟩
  · rintro ⟨h, p⟩ e he
    by_cases c : e = n
    · exact c ▸ p
    · exact h e (by omega)

theorem exists_lt_zero {P : Nat → Prop} : (∃ e, e < 0 ∧ P e) ↔ False := ⟨fun ⟨e, h, _⟩ => absurd h (Nat.not_lt_zero e), False.elim⟩

theorem toN_succ {i : Nat} : ((i : Int) + 1).toNat = i + 1 := by omega

end Go.Proofs.Ytgghnfmabphbmaa.Fw
