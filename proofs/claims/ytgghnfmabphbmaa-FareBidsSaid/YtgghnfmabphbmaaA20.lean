/- Pure functions, and what ties the walk to them. -/
import Derived.Test.YtgghnfmabphbmaaA17
namespace Go.Proofs.Ytgghnfmabphbmaa.Fw
open Go
set_option linter.unusedVariables false
set_option linter.unusedSimpArgs false

/-- go on if p holds -/
def asrt {α : Type} (p : Prop) [Decidable p] (k : Option α) : Option α := if p then k else none

theorem asrt_eq {α : Type} {p : Prop} [Decidable p] {k : Option α} (h : p) : asrt p k = k := if_pos h

theorem asrt_iff {α : Type} {p : Prop} [Decidable p] {k : Option α} {o : α} : asrt p k = some o ↔ p ∧ k = some o := by
  unfold asrt
  by_cases h : p
  · simp [h]
  · simp [h]

/-- a loop, n rounds at most: a round gives the next state, or ends the loop -/
def loopF {S X : Type} (body : S → Option (S ⊕ X)) : Nat → S → Option X
  | 0, _ => none
  | n + 1, s =>
    match body s with
    | none => none
    | some (.inl s') => loopF body n s'
    | some (.inr x) => some x

theorem loopF_mono {S X : Type} {body : S → Option (S ⊕ X)} {x : X} : ∀ {n : Nat} {s : S}, loopF body n s = some x → ∀ m, n ≤ m → loopF body m s = some x
  | 0, s, h, _, _ => by simp [loopF] at h
  | n + 1, s, h, 0, hm => by omega
  | n + 1, s, h, m + 1, hm => by
    simp only [loopF] at h ⊢
    cases hb : body s with
    | none => rw [hb] at h; simp at h
    | some o =>
      rw [hb] at h
      cases o with
      | inl s' => exact loopF_mono h m (by omega)
      | inr y => exact h

/-- a loop -/
noncomputable def loopW {S X : Type} (body : S → Option (S ⊕ X)) (s : S) : Option X :=
  open Classical in if h : ∃ x n, loopF body n s = some x then some h.choose else none

theorem loopW_of {S X : Type} {body : S → Option (S ⊕ X)} {s : S} {x : X} {n : Nat} (h : loopF body n s = some x) : loopW body s = some x := by
  unfold loopW
  have he : ∃ x n, loopF body n s = some x := ⟨x, n, h⟩
  rw [dif_pos he]
  obtain ⟨m, hm⟩ := he.choose_spec
  have h1 := loopF_mono h (max n m) (by omega)
  have h2 := loopF_mono hm (max n m) (by omega)
  rw [h1] at h2
  exact congrArg some (Option.some.inj h2).symm

theorem loopW_iff {S X : Type} {body : S → Option (S ⊕ X)} {s : S} {x : X} : loopW body s = some x ↔ ∃ n, loopF body n s = some x := by
  refine ⟨fun h => ?_, fun ⟨n, h⟩ => loopW_of h⟩
  unfold loopW at h
  split at h
  · rename_i he
    obtain ⟨n, hn⟩ := he.choose_spec
    exact ⟨n, by rw [hn]; exact h⟩
  · simp at h

/-- a loop, unrolled once -/
theorem loopW_eq {S X : Type} (body : S → Option (S ⊕ X)) (s : S) : loopW body s = (body s).bind fun o => match o with | .inl s' => loopW body s' | .inr x => some x := by
  have key : ∀ x, loopW body s = some x ↔ ((body s).bind fun o => match o with | .inl s' => loopW body s' | .inr x => some x) = some x := by
    intro x
    rw [loopW_iff]
    constructor
    · rintro ⟨n, h⟩
      cases n with
      | zero => simp [loopF] at h
      | succ n =>
        simp only [loopF] at h
        cases hb : body s with
        | none => rw [hb] at h; simp at h
        | some o =>
          rw [hb] at h
          cases o with
          | inl s' => exact loopW_of h
          | inr y => exact h
    · intro h
      cases hb : body s with
      | none => rw [hb] at h; simp at h
      | some o =>
        rw [hb] at h
        cases o with
        | inl s' =>
          obtain ⟨n, hn⟩ := loopW_iff.1 h
          exact ⟨n + 1, by simp only [loopF, hb]; exact hn⟩
        | inr y => exact ⟨1, by simp only [loopF, hb]; exact h⟩
  cases h1 : loopW body s with
  | some x => exact ((key x).1 h1).symm
  | none =>
    cases h2 : (body s).bind fun o => match o with | .inl s' => loopW body s' | .inr x => some x with
    | none => rfl
    | some x => rw [(key x).2 h2] at h1; cases h1

/-- how a loop is proved: what holds at its head, and a number that each round lowers -/
theorem loopW_inv {S X : Type} {body : S → Option (S ⊕ X)} (I : S → Prop) (R : X → Prop) (μ : S → Nat) {s : S} (hs : I s)
    (h : ∀ s, I s → (∃ s', body s = some (.inl s') ∧ I s' ∧ μ s' < μ s) ∨ ∃ x, body s = some (.inr x) ∧ R x) : ∃ x, loopW body s = some x ∧ R x := by
  have key : ∀ n s, I s → μ s < n → ∃ x, loopW body s = some x ∧ R x := by
    intro n
    induction n with
    | zero => intro s _ h; omega
    | succ n ih =>
      intro s hi hm
      rcases h s hi with ⟨s', h1, h2, h3⟩ | ⟨x, h1, h2⟩
      · obtain ⟨x, h4, h5⟩ := ih s' h2 (by omega)
        exact ⟨x, by rw [loopW_eq, h1]; exact h4, h5⟩
      · exact ⟨x, by rw [loopW_eq, h1]; rfl, h2⟩
  exact key _ s hs (Nat.lt_succ_self _)

/-- whatever a comes to, b comes to -/
def Ole {α : Type} (a b : Option α) : Prop := ∀ o, a = some o → b = some o

theorem Ole.refl {α : Type} (a : Option α) : Ole a a := fun _ h => h

theorem Ole.bind {α β : Type} {a a' : Option α} {f f' : α → Option β} (h : Ole a a') (k : ∀ x, Ole (f x) (f' x)) : Ole (a.bind f) (a'.bind f') := fun o ho => by
  obtain ⟨x, h1, h2⟩ := Option.bind_eq_some_iff.1 ho
  exact Option.bind_eq_some_iff.2 ⟨x, h x h1, k x o h2⟩

theorem Ole.cond {α : Type} {b : Bool} {x x' y y' : Option α} (h : Ole x x') (k : Ole y y') : Ole (bif b then x else y) (bif b then x' else y') := by cases b <;> assumption

theorem Ole.asrt {α : Type} {p : Prop} [Decidable p] {x x' : Option α} (h : Ole x x') : Ole (Fw.asrt p x) (Fw.asrt p x') := fun o ho => by
  rw [asrt_iff] at ho ⊢
  exact ⟨ho.1, h o ho.2⟩

theorem Ole.elim {α X Y : Type} {f f' : X → Option α} {g g' : Y → Option α} {x : X ⊕ Y} (h : ∀ p, Ole (f p) (f' p)) (k : ∀ p, Ole (g p) (g' p)) : Ole (Sum.elim f g x) (Sum.elim f' g' x) := by
  cases x with
  | inl p => exact h p
  | inr p => exact k p

theorem Ole.loop {S X : Type} {b b' : S → Option (S ⊕ X)} (h : ∀ s, Ole (b s) (b' s)) (n : Nat) (s : S) : Ole (loopF b n s) (loopW b' s) := by
  have key : ∀ n s o, loopF b n s = some o → loopF b' n s = some o := by
    intro n
    induction n with
    | zero => intro s o ho; simp [loopF] at ho
    | succ n ih =>
      intro s o ho
      simp only [loopF] at ho ⊢
      cases hb : b s with
      | none => rw [hb] at ho; simp at ho
      | some r =>
        rw [hb] at ho
        rw [h s r hb]
        cases r with
        | inl s' => exact ih s' o ho
        | inr x => exact ho
  exact fun o ho => loopW_of (key n s o ho)

/-- what a function that calls itself comes to, where calls may go deep enough -/
noncomputable def evF {α : Type} (f : Nat → Option α) : Option α :=
  open Classical in if h : ∃ r k0, ∀ k, k0 ≤ k → f k = some r then some h.choose else none

theorem evF_of {α : Type} {f : Nat → Option α} {r : α} (k0 : Nat) (h : ∀ k, k0 ≤ k → f k = some r) : evF f = some r := by
  unfold evF
  have he : ∃ r k0, ∀ k, k0 ≤ k → f k = some r := ⟨r, k0, h⟩
  rw [dif_pos he]
  obtain ⟨m, hm⟩ := he.choose_spec
  have h1 := h (max k0 m) (by omega)
  rw [hm (max k0 m) (by omega)] at h1
  exact h1

theorem evF_some {α : Type} {f : Nat → Option α} {r : α} (h : evF f = some r) : ∃ k, f k = some r := by
  unfold evF at h
  split at h
  · rename_i he
    obtain ⟨k, hk⟩ := he.choose_spec
    exact ⟨k, by rw [hk k (Nat.le_refl _)]; exact h⟩
  · simp at h

section
variable {α β : Type} {A B : Prop} {o : α}

theorem brC {b : Bool} {x y : Option α} (f : b = true → x = some o → A) (g : b = false → y = some o → B) (h : (bif b then x else y) = some o) : br b A B := by
  cases b with
  | true => exact f rfl h
  | false => exact g rfl h

theorem asC {p : Prop} [Decidable p] {k : Option α} (f : p → k = some o → A) (h : asrt p k = some o) : p ∧ A :=
  ⟨(asrt_iff.1 h).1, f (asrt_iff.1 h).1 (asrt_iff.1 h).2⟩

theorem asD {p : Prop} {k : Option α} (hp : p) (f : p → k = some o → A) (h : k = some o) : p ∧ A := ⟨hp, f hp h⟩

theorem asQ {p q : Prop} [Decidable q] {k : Option α} (to : q → p) (f : p → k = some o → A) (h : asrt q k = some o) : p ∧ A :=
  ⟨to (asrt_iff.1 h).1, f (to (asrt_iff.1 h).1) (asrt_iff.1 h).2⟩

theorem asX {p : Prop} [Decidable p] {k : Option α} (f : p → k = some o → A) (h : asrt p k = some o) : A := f (asrt_iff.1 h).1 (asrt_iff.1 h).2

theorem falsC (h : (none : Option α) = some o) : False := by simp at h

theorem bothC {x : Option α} (f : x = some o → A) (g : x = some o → B) (h : x = some o) : A ∧ B := ⟨f h, g h⟩

theorem bothE {x y : Option α} (f : x = some o → A) (g : y = some o → B) (e : x = some o → y = some o) (h : x = some o) : A ∧ B := ⟨f h, g (e h)⟩

/-- is it nil? it has elements -/
theorem nilC {n : Nat} {K : Bool → Prop} {k : Option α} (f : n ≠ 0 → k = some o → K false) (h : asrt (n ≠ 0) k = some o) : ∀ b : Bool, (b = true → n = 0) → K b := by
  obtain ⟨h1, h2⟩ := asrt_iff.1 h
  intro b hb
  cases b with
  | true => exact absurd (hb rfl) h1
  | false => exact f h1 h2

/-- if it is empty, it comes out alike whether it is nil or not -/
noncomputable def both (n : Nat) (x y : Option α) : Option α := open Classical in if n = 0 then (if x = y then x else none) else y

/-- is it nil? -/
theorem nilB {n : Nat} {K : Bool → Prop} {x y : Option α} (f : n = 0 → x = some o → K true) (g : y = some o → K false) (h : both n x y = some o) : ∀ b : Bool, (b = true → n = 0) → K b := by
  unfold both at h
  intro b hb
  by_cases c : n = 0
  · rw [if_pos c] at h
    by_cases e : x = y
    · rw [if_pos e] at h
      cases b with
      | true => exact f c h
      | false => exact g (e ▸ h)
    · rw [if_neg e] at h; simp at h
  · rw [if_neg c] at h
    cases b with
    | true => exact absurd (hb rfl) c
    | false => exact g h

theorem bindC {F : Option β} {k : β → Option α} (f : ∀ x, F = some x → k x = some o → A) (h : F.bind k = some o) : A := by
  obtain ⟨x, hx, h⟩ := Option.bind_eq_some_iff.1 h
  exact f x hx h

theorem elimL {X Y : Type} {x : X ⊕ Y} {p : X} {f : X → Option α} {g : Y → Option α} (e : x = .inl p) (h : Sum.elim f g x = some o) : f p = some o := by subst e; exact h
theorem elimR {X Y : Type} {x : X ⊕ Y} {p : Y} {f : X → Option α} {g : Y → Option α} (e : x = .inr p) (h : Sum.elim f g x = some o) : g p = some o := by subst e; exact h

end

theorem sub1 {X : Type} {x : X} {C : X → Prop} (c : C x) : ∀ p, x = p → C p := by rintro p rfl; exact c

/-- what is known first -/
theorem useH {P A : Prop} (h : P) (f : P → A) : A := f h

theorem el1_0 {α : Type} {o : α} {X0 : Type} {f0 : X0 → Option α} {x : X0} {p : X0} (e : x = p) (h : f0 x = some o) : f0 p = some o := by subst e; exact h
theorem el2_0 {α : Type} {o : α} {X0 : Type} {X1 : Type} {f0 : X0 → Option α} {f1 : X1 → Option α} {x : (X0 ⊕ X1)} {p : X0} (e : x = (.inl p)) (h : (Sum.elim f0 f1) x = some o) : f0 p = some o := by subst e; exact h
theorem el2_1 {α : Type} {o : α} {X0 : Type} {X1 : Type} {f0 : X0 → Option α} {f1 : X1 → Option α} {x : (X0 ⊕ X1)} {p : X1} (e : x = (.inr p)) (h : (Sum.elim f0 f1) x = some o) : f1 p = some o := by subst e; exact h
theorem el3_0 {α : Type} {o : α} {X0 : Type} {X1 : Type} {X2 : Type} {f0 : X0 → Option α} {f1 : X1 → Option α} {f2 : X2 → Option α} {x : (X0 ⊕ (X1 ⊕ X2))} {p : X0} (e : x = (.inl p)) (h : (Sum.elim f0 (Sum.elim f1 f2)) x = some o) : f0 p = some o := by subst e; exact h
theorem el3_1 {α : Type} {o : α} {X0 : Type} {X1 : Type} {X2 : Type} {f0 : X0 → Option α} {f1 : X1 → Option α} {f2 : X2 → Option α} {x : (X0 ⊕ (X1 ⊕ X2))} {p : X1} (e : x = (.inr (.inl p))) (h : (Sum.elim f0 (Sum.elim f1 f2)) x = some o) : f1 p = some o := by subst e; exact h
theorem el3_2 {α : Type} {o : α} {X0 : Type} {X1 : Type} {X2 : Type} {f0 : X0 → Option α} {f1 : X1 → Option α} {f2 : X2 → Option α} {x : (X0 ⊕ (X1 ⊕ X2))} {p : X2} (e : x = (.inr (.inr p))) (h : (Sum.elim f0 (Sum.elim f1 f2)) x = some o) : f2 p = some o := by subst e; exact h
theorem el4_0 {α : Type} {o : α} {X0 : Type} {X1 : Type} {X2 : Type} {X3 : Type} {f0 : X0 → Option α} {f1 : X1 → Option α} {f2 : X2 → Option α} {f3 : X3 → Option α} {x : (X0 ⊕ (X1 ⊕ (X2 ⊕ X3)))} {p : X0} (e : x = (.inl p)) (h : (Sum.elim f0 (Sum.elim f1 (Sum.elim f2 f3))) x = some o) : f0 p = some o := by subst e; exact h
theorem el4_1 {α : Type} {o : α} {X0 : Type} {X1 : Type} {X2 : Type} {X3 : Type} {f0 : X0 → Option α} {f1 : X1 → Option α} {f2 : X2 → Option α} {f3 : X3 → Option α} {x : (X0 ⊕ (X1 ⊕ (X2 ⊕ X3)))} {p : X1} (e : x = (.inr (.inl p))) (h : (Sum.elim f0 (Sum.elim f1 (Sum.elim f2 f3))) x = some o) : f1 p = some o := by subst e; exact h
theorem el4_2 {α : Type} {o : α} {X0 : Type} {X1 : Type} {X2 : Type} {X3 : Type} {f0 : X0 → Option α} {f1 : X1 → Option α} {f2 : X2 → Option α} {f3 : X3 → Option α} {x : (X0 ⊕ (X1 ⊕ (X2 ⊕ X3)))} {p : X2} (e : x = (.inr (.inr (.inl p)))) (h : (Sum.elim f0 (Sum.elim f1 (Sum.elim f2 f3))) x = some o) : f2 p = some o := by subst e; exact h
theorem el4_3 {α : Type} {o : α} {X0 : Type} {X1 : Type} {X2 : Type} {X3 : Type} {f0 : X0 → Option α} {f1 : X1 → Option α} {f2 : X2 → Option α} {f3 : X3 → Option α} {x : (X0 ⊕ (X1 ⊕ (X2 ⊕ X3)))} {p : X3} (e : x = (.inr (.inr (.inr p)))) (h : (Sum.elim f0 (Sum.elim f1 (Sum.elim f2 f3))) x = some o) : f3 p = some o := by subst e; exact h
theorem el5_0 {α : Type} {o : α} {X0 : Type} {X1 : Type} {X2 : Type} {X3 : Type} {X4 : Type} {f0 : X0 → Option α} {f1 : X1 → Option α} {f2 : X2 → Option α} {f3 : X3 → Option α} {f4 : X4 → Option α} {x : (X0 ⊕ (X1 ⊕ (X2 ⊕ (X3 ⊕ X4))))} {p : X0} (e : x = (.inl p)) (h : (Sum.elim f0 (Sum.elim f1 (Sum.elim f2 (Sum.elim f3 f4)))) x = some o) : f0 p = some o := by subst e; exact h
theorem el5_1 {α : Type} {o : α} {X0 : Type} {X1 : Type} {X2 : Type} {X3 : Type} {X4 : Type} {f0 : X0 → Option α} {f1 : X1 → Option α} {f2 : X2 → Option α} {f3 : X3 → Option α} {f4 : X4 → Option α} {x : (X0 ⊕ (X1 ⊕ (X2 ⊕ (X3 ⊕ X4))))} {p : X1} (e : x = (.inr (.inl p))) (h : (Sum.elim f0 (Sum.elim f1 (Sum.elim f2 (Sum.elim f3 f4)))) x = some o) : f1 p = some o := by subst e; exact h
theorem el5_2 {α : Type} {o : α} {X0 : Type} {X1 : Type} {X2 : Type} {X3 : Type} {X4 : Type} {f0 : X0 → Option α} {f1 : X1 → Option α} {f2 : X2 → Option α} {f3 : X3 → Option α} {f4 : X4 → Option α} {x : (X0 ⊕ (X1 ⊕ (X2 ⊕ (X3 ⊕ X4))))} {p : X2} (e : x = (.inr (.inr (.inl p)))) (h : (Sum.elim f0 (Sum.elim f1 (Sum.elim f2 (Sum.elim f3 f4)))) x = some o) : f2 p = some o := by subst e; exact h
theorem el5_3 {α : Type} {o : α} {X0 : Type} {X1 : Type} {X2 : Type} {X3 : Type} {X4 : Type} {f0 : X0 → Option α} {f1 : X1 → Option α} {f2 : X2 → Option α} {f3 : X3 → Option α} {f4 : X4 → Option α} {x : (X0 ⊕ (X1 ⊕ (X2 ⊕ (X3 ⊕ X4))))} {p : X3} (e : x = (.inr (.inr (.inr (.inl p))))) (h : (Sum.elim f0 (Sum.elim f1 (Sum.elim f2 (Sum.elim f3 f4)))) x = some o) : f3 p = some o := by subst e; exact h
theorem el5_4 {α : Type} {o : α} {X0 : Type} {X1 : Type} {X2 : Type} {X3 : Type} {X4 : Type} {f0 : X0 → Option α} {f1 : X1 → Option α} {f2 : X2 → Option α} {f3 : X3 → Option α} {f4 : X4 → Option α} {x : (X0 ⊕ (X1 ⊕ (X2 ⊕ (X3 ⊕ X4))))} {p : X4} (e : x = (.inr (.inr (.inr (.inr p))))) (h : (Sum.elim f0 (Sum.elim f1 (Sum.elim f2 (Sum.elim f3 f4)))) x = some o) : f4 p = some o := by subst e; exact h
theorem el6_0 {α : Type} {o : α} {X0 : Type} {X1 : Type} {X2 : Type} {X3 : Type} {X4 : Type} {X5 : Type} {f0 : X0 → Option α} {f1 : X1 → Option α} {f2 : X2 → Option α} {f3 : X3 → Option α} {f4 : X4 → Option α} {f5 : X5 → Option α} {x : (X0 ⊕ (X1 ⊕ (X2 ⊕ (X3 ⊕ (X4 ⊕ X5)))))} {p : X0} (e : x = (.inl p)) (h : (Sum.elim f0 (Sum.elim f1 (Sum.elim f2 (Sum.elim f3 (Sum.elim f4 f5))))) x = some o) : f0 p = some o := by subst e; exact h
theorem el6_1 {α : Type} {o : α} {X0 : Type} {X1 : Type} {X2 : Type} {X3 : Type} {X4 : Type} {X5 : Type} {f0 : X0 → Option α} {f1 : X1 → Option α} {f2 : X2 → Option α} {f3 : X3 → Option α} {f4 : X4 → Option α} {f5 : X5 → Option α} {x : (X0 ⊕ (X1 ⊕ (X2 ⊕ (X3 ⊕ (X4 ⊕ X5)))))} {p : X1} (e : x = (.inr (.inl p))) (h : (Sum.elim f0 (Sum.elim f1 (Sum.elim f2 (Sum.elim f3 (Sum.elim f4 f5))))) x = some o) : f1 p = some o := by subst e; exact h
theorem el6_2 {α : Type} {o : α} {X0 : Type} {X1 : Type} {X2 : Type} {X3 : Type} {X4 : Type} {X5 : Type} {f0 : X0 → Option α} {f1 : X1 → Option α} {f2 : X2 → Option α} {f3 : X3 → Option α} {f4 : X4 → Option α} {f5 : X5 → Option α} {x : (X0 ⊕ (X1 ⊕ (X2 ⊕ (X3 ⊕ (X4 ⊕ X5)))))} {p : X2} (e : x = (.inr (.inr (.inl p)))) (h : (Sum.elim f0 (Sum.elim f1 (Sum.elim f2 (Sum.elim f3 (Sum.elim f4 f5))))) x = some o) : f2 p = some o := by subst e; exact h
theorem el6_3 {α : Type} {o : α} {X0 : Type} {X1 : Type} {X2 : Type} {X3 : Type} {X4 : Type} {X5 : Type} {f0 : X0 → Option α} {f1 : X1 → Option α} {f2 : X2 → Option α} {f3 : X3 → Option α} {f4 : X4 → Option α} {f5 : X5 → Option α} {x : (X0 ⊕ (X1 ⊕ (X2 ⊕ (X3 ⊕ (X4 ⊕ X5)))))} {p : X3} (e : x = (.inr (.inr (.inr (.inl p))))) (h : (Sum.elim f0 (Sum.elim f1 (Sum.elim f2 (Sum.elim f3 (Sum.elim f4 f5))))) x = some o) : f3 p = some o := by subst e; exact h
theorem el6_4 {α : Type} {o : α} {X0 : Type} {X1 : Type} {X2 : Type} {X3 : Type} {X4 : Type} {X5 : Type} {f0 : X0 → Option α} {f1 : X1 → Option α} {f2 : X2 → Option α} {f3 : X3 → Option α} {f4 : X4 → Option α} {f5 : X5 → Option α} {x : (X0 ⊕ (X1 ⊕ (X2 ⊕ (X3 ⊕ (X4 ⊕ X5)))))} {p : X4} (e : x = (.inr (.inr (.inr (.inr (.inl p)))))) (h : (Sum.elim f0 (Sum.elim f1 (Sum.elim f2 (Sum.elim f3 (Sum.elim f4 f5))))) x = some o) : f4 p = some o := by subst e; exact h
theorem el6_5 {α : Type} {o : α} {X0 : Type} {X1 : Type} {X2 : Type} {X3 : Type} {X4 : Type} {X5 : Type} {f0 : X0 → Option α} {f1 : X1 → Option α} {f2 : X2 → Option α} {f3 : X3 → Option α} {f4 : X4 → Option α} {f5 : X5 → Option α} {x : (X0 ⊕ (X1 ⊕ (X2 ⊕ (X3 ⊕ (X4 ⊕ X5)))))} {p : X5} (e : x = (.inr (.inr (.inr (.inr (.inr p)))))) (h : (Sum.elim f0 (Sum.elim f1 (Sum.elim f2 (Sum.elim f3 (Sum.elim f4 f5))))) x = some o) : f5 p = some o := by subst e; exact h

/-- a call of a function that writes no memory -/
theorem callC {P : Program} {α β : Type} {o : α} {emb : β → AVal} {f : Nat} {args : List AVal} {k : β → Prop} {F : Option β} {kp : β → Option α}
    (hc : ∀ y, F = some y → CallOK P f args [] fun r _ => r = emb y) (g : ∀ y, kp y = some o → k y) (h : F.bind kp = some o) : CallT P (sh β emb) f args [] k := by
  obtain ⟨y, hy, h⟩ := Option.bind_eq_some_iff.1 h
  exact (hc y hy).callT (g y h)

/-- a call of a function that is handed memory -/
theorem callMC {P : Program} {α β : Type} {o : α} {emb : β → AVal} {mem : β → List Blk} {f : Nat} {args : List AVal} {L : List Blk} {k : β → Prop} {F : Option β} {kp : β → Option α}
    (hc : ∀ y, F = some y → CallOK P f args L fun r L' => r = emb y ∧ L' = mem y) (g : ∀ y, kp y = some o → k y) (h : F.bind kp = some o) : CallT P (shm β emb mem) f args L k := by
  obtain ⟨y, hy, h⟩ := Option.bind_eq_some_iff.1 h
  exact (hc y hy).callM (g y h)

/-- a call of a function that returns new memory, too -/
theorem callGC {P : Program} {α β : Type} {o : α} {emb : β → AVal} {mem : β → List Blk} {f : Nat} {args : List AVal} {L : List Blk} {k : β → Prop} {F : Option β} {kp : β → Option α}
    (hc : ∀ y, F = some y → CallG P f args L fun r L' => r = emb y ∧ L' = mem y) (g : ∀ y, kp y = some o → k y) (h : F.bind kp = some o) : CallT P (shm β emb mem) f args L k := by
  obtain ⟨y, hy, h⟩ := Option.bind_eq_some_iff.1 h
  exact CallG.mono (hc y hy) fun r _ ⟨hr, hl⟩ => ⟨y, hr, fun _ => hl, fun h => by simp at h, g y h⟩

/-- a loop's end -/
def exitQ (live liveX : List Nat) (n : Nat) (Q : Exit → St → Prop) (N : St → Prop) : Exit → St → Prop :=
  cutQ live liveX n N (fun id t => ∃ t', Le t t' ∧ Q (.exit id) t') (Q .ret)

/-- A loop, by what it computes. -/
theorem LoopK.lift {R : (Exit → St → Prop) → St → Prop} {Q : Exit → St → Prop} {st : St} {S X : Type} {body : S → Option (S ⊕ X)} {s0 : S} {x : X} (live liveX : List Nat) (n : Nat) (I : S → St) (Rr : St → Prop) (hR : Q .ret = Rr)
    (h0 : Le st (I s0)) (hx : loopW body s0 = some x)
    (hb : ∀ s o (N : St → Prop), body s = some o → (∀ s', o = .inl s' → ∀ t, Le t (I s') → N t) → (∀ y, o = .inr y → y = x) →
      R (cutQ live liveX n N (fun id t => ∃ t', Le t t' ∧ Q (.exit id) t') Rr) (I s)) : LoopK R Q st := by
  subst hR
  obtain ⟨m0, hm0⟩ := loopW_iff.1 hx
  refine ⟨{p : Nat × S // loopF body p.1 p.2 = some x}, fun p => I p.1.2, fun p => p.1.1, ⟨(m0, s0), hm0⟩,
    fun p => cutQ live liveX n (fun t => ∃ s', loopF body (p.1.1 - 1) s' = some x ∧ 1 ≤ p.1.1 ∧ Le t (I s')) (fun id t => ∃ t', Le t t' ∧ Q (.exit id) t') (Q .ret), h0, ?_, ?_, ?_⟩
  · rintro ⟨⟨m, s⟩, hm⟩ st' hn
    obtain ⟨h1, s', h2, h3, h4⟩ := needE hn
    refine ⟨⟨(m - 1, s'), h2⟩, fun a w O ad hS => ?_, by simp only at h3 ⊢; omega⟩
    obtain ⟨O1, ad1, g1, g2⟩ := cut_le h1 a w O ad hS
    obtain ⟨O2, ad2, g3, g4⟩ := h4 a w O1 ad1 g1
    exact ⟨O2, ad2, g3, g2.trans g4⟩
  · rintro ⟨⟨m, s⟩, hm⟩ e st' he hq
    cases e with
    | normal => exact absurd rfl he
    | exit id =>
      obtain ⟨h1, t', h2, h3⟩ := needE hq
      exact ⟨t', (cut_le h1).trans h2, h3⟩
    | ret => exact ⟨st', Le.refl _, hq⟩
    | goto l => exact hq.elim
    | panic c => exact hq.elim
    | outgrown => exact hq.elim
  · rintro ⟨⟨m, s⟩, hm⟩
    simp only at hm ⊢
    cases m with
    | zero => simp [loopF] at hm
    | succ m =>
      simp only [loopF] at hm
      cases hbs : body s with
      | none => rw [hbs] at hm; simp at hm
      | some o =>
        rw [hbs] at hm
        refine hb s o _ hbs ?_ ?_
        · rintro s' rfl t ht
          exact ⟨s', hm, by omega, ht⟩
        · rintro y rfl
          exact Option.some.inj hm

/-- A cut, by what is computed ahead of it. -/
theorem JoinK.lift {R : (Exit → St → Prop) → St → Prop} {Q : Exit → St → Prop} {st : St} (live liveX : List Nat) (n : Nat) (Rr : St → Prop) (hR : Q .ret = Rr)
    (h : R (cutQ live liveX n (fun t => ∃ t', Le t t' ∧ Q .normal t') (fun id t => ∃ t', Le t t' ∧ Q (.exit id) t') Rr) st) : JoinK R Q st := by
  subst hR
  refine ⟨_, fun e s he => ?_, h⟩
  cases e with
  | normal => obtain ⟨h1, t', h2, h3⟩ := needE he; exact ⟨t', (cut_le h1).trans h2, h3⟩
  | exit id => obtain ⟨h1, t', h2, h3⟩ := needE he; exact ⟨t', (cut_le h1).trans h2, h3⟩
  | ret => exact ⟨s, Le.refl _, he⟩
  | goto l => exact he.elim
  | panic c => exact he.elim
  | outgrown => exact he.elim

/-- A result is told less of; so is what is handed back. -/
theorem CallOK.leM {P : Program} {f : Nat} {args : List AVal} {L : List Blk} {y : AVal} {M : List Blk} (h : CallOK P f args L fun r L' => Vle r y ∧ HeapLe L' M) : CallOK P f args L fun r L' => r = y ∧ L' = M :=
  ⟨h.1, fun w O ad vs h1 h2 h3 h4 h5 => (h.2 w O ad vs h1 h2 h3 h4 h5).mono fun e w' ⟨r, rv, O', L', g1, ⟨g2, g2'⟩, g3, g4, g5, g6⟩ => ⟨y, rv, O', M, g1, ⟨rfl, rfl⟩, by rw [g2'.len]; exact g3, g2 _ _ _ _ _ (by simp) g4, g2'.rel g5, g6⟩⟩

/-- what is handed over is told less of -/
theorem CallOK.mem {P : Program} {f : Nat} {args : List AVal} {L L' : List Blk} {K : AVal → List Blk → Prop} (hc : CallOK P f args L' K) (h : HeapLe L L') : CallOK P f args L K :=
  ⟨hc.1, fun w O ad vs h1 h2 h3 h4 h5 => (hc.2 w O ad vs h1 h2 (h.rel h3) (by rw [h.len]; exact h4) h5).mono fun e w' ⟨r, rv, O', L2, g1, g2, g3, g4⟩ => ⟨r, rv, O', L2, g1, g2, by rw [g3, h.len], g4⟩⟩

/-- the same where new memory comes back -/
theorem CallG.leM {P : Program} {f : Nat} {args : List AVal} {L : List Blk} {y : AVal} {M : List Blk} (h : CallG P f args L fun r L' => Vle r y ∧ HeapLe L' M) : CallG P f args L fun r L' => r = y ∧ L' = M :=
  ⟨h.1, fun w O ad vs h1 h2 h3 h4 h5 => (h.2 w O ad vs h1 h2 h3 h4 h5).mono fun e w' ⟨r, rv, O', L', ad', g1, ⟨g2, g2'⟩, g3, g4, g5, g6, g7⟩ => ⟨y, rv, O', M, ad', g1, ⟨rfl, rfl⟩, by rw [g2'.len]; exact g3, g4, g2 _ _ _ _ _ (by simp) g5, g2'.rel g6, g7⟩⟩

/-- what is returned with a row of its own, or nil in its place -/
def NewLe (v : AVal) (L' : List Blk) (y : AVal) (M : List Blk) : Prop :=
  (Vle v y ∧ HeapLe L' M) ∨ ∃ o s s' el ow e M0, v = .pv o (.lst s' .isNil 0 e) ∧ HeapLe L' M0 ∧ y = .arr M0.length s 0 0 ∧ M = M0 ++ [.row s 0 el ow]

theorem NewLe.nil {o : Bool} {s s' : Nat} {e el : Nat → Nat → PV} {ow : Nat → Nat → Bool} {L' M0 M : List Blk} {y : AVal} (hL : HeapLe L' M0) (hy : y = .arr M0.length s 0 0) (hM : M = M0 ++ [.row s 0 el ow]) :
    NewLe (.pv o (.lst s' .isNil 0 e)) L' y M := .inr ⟨o, s, s', el, ow, e, M0, rfl, hL, hy, hM⟩

theorem CallG.leN {P : Program} {f : Nat} {args : List AVal} {L : List Blk} {y : AVal} {M : List Blk} (h : CallG P f args L fun r L' => NewLe r L' y M) : CallG P f args L fun r L' => r = y ∧ L' = M :=
  ⟨h.1, fun w O ad vs h1 h2 h3 h4 h5 => (h.2 w O ad vs h1 h2 h3 h4 h5).mono fun e w' ⟨r, rv, O', L', ad', g1, g2, g3, g4, g5, g6, g7⟩ => by
    rcases g2 with ⟨q1, q2⟩ | ⟨o, s, s', el, ow, e0, M0, rfl, q2, rfl, rfl⟩
    · exact ⟨y, rv, O', M, ad', g1, ⟨rfl, rfl⟩, by rw [q2.len]; exact g3, g4, q1 _ _ _ _ _ (by simp) g5, q2.rel g6, g7⟩
    · have hl : ad'.length = M0.length := by rw [q2.len]; exact g3
      have hk : Fw.nth (ad' ++ [0]) M0.length = some 0 := by rw [← hl]; exact nth_last _ _
      have hr := g5.nilN (s := s) (k := M0.length) (c := 0) (ad := ad') 
      refine ⟨_, rv, O', _, ad' ++ [0], g1, ⟨rfl, rfl⟩, by simp [hl], fun i B hB => nth_ext _ i B (g4 i B hB), ?_, ?_, g7⟩
      · have g5' : VRel w' O' (ad' ++ [0]) .ret (.pv o (.lst s' .isNil 0 e0)) rv := by
          have := g5.renum (g := fun k => k) (ok := fun _ => true) (ad' := ad' ++ [0]) (O' := O') (fun _ _ _ hi => hi) (fun k B _ h => nth_ext _ k B h) .ret (fun hn => ⟨hn, fun _ _ h => h⟩) (fun i hn => ⟨hn, fun _ _ h => h⟩) (okV_all _) (.inr rfl)
          rwa [renV_id] at this
        exact g5'.nilN hk
      · intro k b hb
        rcases nth_snoc hb with hb | ⟨rfl, rfl⟩
        · obtain ⟨d, k1, k2⟩ := q2.rel g6 k b hb
          refine ⟨d, nth_ext _ k d k1, k2.imp id ?_⟩
          rintro ⟨B, x, e1, e2, e3, e4⟩
          refine ⟨B, x, e1, e2, e3, ?_⟩
          have := e4.ren (g := fun k => k) (ok := fun _ => true) (ad' := ad' ++ [0]) (k' := k) (O' := O') (fun _ _ _ hi => hi) (fun k B _ h => nth_ext _ k B h) (fun i j hn => ⟨hn, fun _ _ h => h⟩) (okB_all b) (.inl ⟨fun _ _ _ _ _ _ h => h, fun _ _ h => h⟩)
          rwa [renB_id] at this
        · exact ⟨0, hk, .inl ⟨rfl, rfl⟩⟩⟩

theorem CallG.mem {P : Program} {f : Nat} {args : List AVal} {L L' : List Blk} {K : AVal → List Blk → Prop} (hc : CallG P f args L' K) (h : HeapLe L L') : CallG P f args L K :=
  ⟨hc.1, fun w O ad vs h1 h2 h3 h4 h5 => hc.2 w O ad vs h1 h2 (h.rel h3) (by rw [h.len]; exact h4) h5⟩

theorem CallG.args {P : Program} {f : Nat} {args args' : List AVal} {L : List Blk} {K : AVal → List Blk → Prop} (hc : CallG P f args' L K) (h : AlenL args args') : CallG P f args L K :=
  ⟨hc.1, fun w O ad vs h1 h2 h3 h4 h5 => hc.2 w O ad vs (by rw [h.len]; exact h1) (fun i b hb => by
    obtain ⟨a, g1, g2⟩ := h.nth hb
    exact g2 _ _ _ _ (h2 i a g1)) h3 h4 h5⟩

/-- a pointer to a datum that nobody writes any more, or nil -/
def optP {α : Type} (s : Nat) (E : α → Nat → PV) (d : α) (o : Option α) : PV := .optr o.isSome s (E (o.getD d))

theorem Ple.optN {α : Type} {s : Nat} {E : α → Nat → PV} {d : α} : Ple .nilp (optP s E d none) := fun w O v hv => by
  cases hv with
  | nilp => exact .optrN

theorem Ple.optC {α : Type} {s : Nat} {E : α → Nat → PV} {d x : α} {c : Nat → PV} (h : Ple (.cptr s c 0) (.cptr s (E x) 0)) : Ple (.cptr s c 0) (optP s E d (some x)) := fun w O v hv => .optrS (h w O v hv)

/-! ### data as cells -/

def eI (n : Int) (_ : Nat) : PV := .int .i64 n
def eB (b : Bool) (_ : Nat) : PV := .bool b
def eS (s : ByteArray) (_ : Nat) : PV := .str s
def eK (k : IntKind) (n : Int) (_ : Nat) : PV := .int k n
/-- element i, cell j -/
def lstE {α : Type} (E : α → Nat → PV) (d : α) (l : List α) (i j : Nat) : PV := E (l.getD i d) j
/-- a list of data -/
def lstP {α : Type} (sz : Nat) (E : α → Nat → PV) (d : α) (l : List α) : PV := .lst sz .any l.length (lstE E d l)
/-- an array of data: cell j -/
def eA {α : Type} (sz : Nat) (E : α → Nat → PV) (d : α) (l : List α) (j : Nat) : PV := E (l.getD (j / sz) d) (j % sz)
def eL {α : Type} (sz : Nat) (E : α → Nat → PV) (d : α) (l : List α) (_ : Nat) : PV := lstP sz E d l

/-- cells that tell a list of data -/
structure Lis {α : Type} (n s : Nat) (e : Nat → Nat → PV) (E : α → Nat → PV) (d : α) (l : List α) : Prop where
  len : n = l.length
  cel : ∀ i, i < n → ∀ j, j < s → Ple (e i j) (E (l.getD i d) j)

section
variable {α : Type} {n m s : Nat} {e e2 : Nat → Nat → PV} {E : α → Nat → PV} {d : α} {l l2 : List α}

theorem Lis.base {s : Nat} {E : α → Nat → PV} {d : α} {l : List α} : Lis l.length s (lstE E d l) E d l := ⟨rfl, fun _ _ _ _ => Ple.refl _⟩

theorem Lis.of {n s : Nat} {E : α → Nat → PV} {d : α} {l : List α} (h : n = l.length) : Lis n s (lstE E d l) E d l := ⟨h, fun _ _ _ _ => Ple.refl _⟩

theorem Lis.takeB {n s : Nat} {E : α → Nat → PV} {d : α} {l : List α} (h : n ≤ l.length) : Lis n s (lstE E d l) E d (l.take n) :=
  ⟨by rw [List.length_take]; omega, fun i hi j _ => Ple.of_eq (by simp [lstE, List.getD_eq_getElem?_getD, List.getElem?_take, hi])⟩

theorem Lis.none {s : Nat} {e : Nat → Nat → PV} {E : α → Nat → PV} {d : α} : Lis 0 s e E d [] := ⟨rfl, fun _ h => by omega⟩

theorem Lis.cast (h : Lis n s e E d l) (hn : m = n) : Lis m s e E d l := hn ▸ h

theorem Lis.app (h : Lis n s e E d l) (h2 : Lis m s e2 E d l2) : Lis (n + m) s (appEl n e e2) E d (l ++ l2) := by
  refine ⟨by rw [List.length_append, ← h.len, ← h2.len], fun i hi j hj => ?_⟩
  unfold appEl
  by_cases c : i < n
  · rw [show Nat.blt i n = true from Nat.ble_eq_true_of_le c, cond_true]
    have := h.cel i c j hj
    rwa [show (l ++ l2).getD i d = l.getD i d by
      have : i < l.length := by rw [← h.len]; exact c
      simp [List.getD_eq_getElem?_getD, List.getElem?_append, this]]
  · have hb : Nat.blt i n = false := Bool.eq_false_iff.2 fun h => c (Nat.le_of_ble_eq_true h)
    rw [hb, cond_false]
    have := h2.cel (i - n) (by omega) j hj
    rwa [show (l ++ l2).getD i d = l2.getD (i - n) d by
      have hl : ¬ i < l.length := by rw [← h.len]; exact c
      simp [List.getD_eq_getElem?_getD, List.getElem?_append, hl, h.len]]

theorem Lis.copy {off : Nat} (h : Lis n s e E d l) (h2 : Lis m s e2 E d l2) (hb : off + m ≤ n) : Lis n s (cpEl off m e2 e) E d (l.take off ++ (l2 ++ l.drop (off + m))) := by
  have h1 := h.len
  have h3 := h2.len
  refine ⟨by simp only [List.length_append, List.length_take, List.length_drop]; omega, fun i hi j hj => ?_⟩
  unfold cpEl
  by_cases c : off ≤ i ∧ i < off + m
  · have hc : (Nat.ble off i && Nat.blt i (off + m)) = true := by
      rw [Bool.and_eq_true]
      exact ⟨Nat.ble_eq_true_of_le c.1, Nat.ble_eq_true_of_le c.2⟩
    rw [hc, cond_true]
    have := h2.cel (i - off) (by omega) j hj
    rwa [show (l.take off ++ (l2 ++ l.drop (off + m))).getD i d = l2.getD (i - off) d by
      rw [List.getD_eq_getElem?_getD, List.getElem?_append_right (by rw [List.length_take]; omega), List.length_take, Nat.min_eq_left (by omega), List.getElem?_append_left (by omega), List.getD_eq_getElem?_getD]]
  · have hc : (Nat.ble off i && Nat.blt i (off + m)) = false := by
      rw [Bool.eq_false_iff]
      intro hh
      rw [Bool.and_eq_true] at hh
      exact c ⟨Nat.le_of_ble_eq_true hh.1, Nat.le_of_ble_eq_true hh.2⟩
    rw [hc, cond_false]
    have := h.cel i hi j hj
    rwa [show (l.take off ++ (l2 ++ l.drop (off + m))).getD i d = l.getD i d by
      rw [List.getD_eq_getElem?_getD, List.getD_eq_getElem?_getD]
      by_cases c2 : i < off
      · rw [List.getElem?_append_left (by rw [List.length_take]; omega), List.getElem?_take]
        simp [c2]
      · rw [List.getElem?_append_right (by rw [List.length_take]; omega), List.length_take, Nat.min_eq_left (by omega), List.getElem?_append_right (by omega), List.getElem?_drop]
        rw [show off + m + (i - off - l2.length) = i by omega]]

theorem Lis.cons {v : α} (hv : ∀ j, j < s → Ple (e 0 j) (E v j)) (h : Lis n s (fun i j => e (i + 1) j) E d l) : Lis (n + 1) s e E d (v :: l) := by
  refine ⟨by simp [← h.len], fun i hi j hj => ?_⟩
  cases i with
  | zero => exact hv j hj
  | succ i => exact h.cel i (by omega) j hj

theorem Lis.rep {c : Nat → PV} {z : α} (h : ∀ j, j < s → Ple (c j) (E z j)) : Lis n s (fun _ j => c j) E d (List.replicate n z) := by
  refine ⟨by simp, fun i hi j hj => ?_⟩
  rw [show (List.replicate n z).getD i d = z by simp [List.getD_eq_getElem?_getD, hi]]
  exact h j hj

theorem Lis.sub {a : Nat} (h : Lis n s e E d l) (ha : a + m ≤ n) : Lis m s (fun i j => e (a + i) j) E d ((l.drop a).take m) := by
  refine ⟨by rw [List.length_take, List.length_drop, ← h.len]; omega, fun i hi j hj => ?_⟩
  have := h.cel (a + i) (by omega) j hj
  rwa [show ((l.drop a).take m).getD i d = l.getD (a + i) d by simp [List.getD_eq_getElem?_getD, hi, List.getElem?_take, List.getElem?_drop]]

theorem Lis.sub' {a : Nat} (h : Lis n s e E d l) (ha : a + m ≤ n) : Lis m s (fun i j => e (i + a) j) E d ((l.drop a).take m) := by
  have := h.sub ha
  rwa [show (fun i j => e (i + a) j) = fun i j => e (a + i) j from funext fun i => funext fun j => by rw [Nat.add_comm]]

theorem Lis.sub0 (h : Lis n s e E d l) (ha : 0 + m ≤ n) : Lis m s (fun i j => e (0 + i) j) E d (l.take m) := by
  have := h.sub ha
  rwa [List.drop_zero] at this

theorem Lis.sub'0 (h : Lis n s e E d l) (ha : 0 + m ≤ n) : Lis m s (fun i j => e (i + 0) j) E d (l.take m) := by
  have := h.sub' ha
  rwa [List.drop_zero] at this

theorem Lis.setC {i q : Nat} {x : PV} {v : α} (h : Lis n s e E d l) (hi : i < n) (hq : Ple x (E v q)) (ho : ∀ j, j < s → j ≠ q → E v j = E (l.getD i d) j) :
    Lis n s (fun a b => bif Nat.beq a i && Nat.beq b q then x else e a b) E d (l.set i v) := by
  refine ⟨by rw [List.length_set]; exact h.len, fun a ha b hb => ?_⟩
  have hil : i < l.length := by rw [← h.len]; exact hi
  by_cases c : a = i
  · subst c
    rw [show (l.set a v).getD a d = v by simp [List.getD_eq_getElem?_getD, hil], beq_tt, Bool.true_and]
    by_cases cb : b = q
    · subst cb; rw [beq_tt]; exact hq
    · rw [beq_ff cb, cond_false, ho b hb cb]; exact h.cel a ha b hb
  · rw [beq_ff c, Bool.false_and, cond_false, show (l.set i v).getD a d = l.getD a d by simp [List.getD_eq_getElem?_getD, List.getElem?_set, Ne.symm c]]
    exact h.cel a ha b hb

theorem Lis.setR {i : Nat} {c : Nat → PV} {v : α} (h : Lis n s e E d l) (hi : i < n) (hv : ∀ b, b < s → Ple (c b) (E v b)) :
    Lis n s (fun a b => bif Nat.beq a i then c b else e a b) E d (l.set i v) := by
  refine ⟨by rw [List.length_set]; exact h.len, fun a ha b hb => ?_⟩
  have hil : i < l.length := by rw [← h.len]; exact hi
  by_cases q : a = i
  · subst q
    rw [show (l.set a v).getD a d = v by simp [List.getD_eq_getElem?_getD, hil], beq_tt]
    exact hv b hb
  · rw [beq_ff q, cond_false, show (l.set i v).getD a d = l.getD a d by simp [List.getD_eq_getElem?_getD, List.getElem?_set, Ne.symm q]]
    exact h.cel a ha b hb

/-- one of two lists -/
theorem Lis.cond {b : Bool} (h : Lis n s e E d l) : Lis (bif b then n else 0) s e E d (bif b then l else []) := by
  cases b with
  | true => exact h
  | false => exact Lis.none

theorem Ple.lis {nf : NF} (h : Lis n s e E d l) : Ple (.lst s nf n e) (lstP s E d l) := by
  unfold lstP
  rw [← h.len]
  exact Ple.lst' (.inr rfl) h.cel

/-- a list that is nil if it is empty, and only then -/
def lstI {α : Type} (sz : Nat) (E : α → Nat → PV) (d : α) (l : List α) : PV := .lst sz .iff l.length (lstE E d l)

theorem Ple.iffN {s' : Nat} {e : Nat → Nat → PV} : Ple (.lst s' .isNil 0 e) (lstI s E d []) := fun w O v hv => by
  cases hv with
  | lst _ _ _ _ _ hn => exact hn.elim
  | lstE _ hn => exact hn.elim
  | lstNil _ _ => exact .lstNil (by simp) (by simp)

theorem Ple.iffC {nf : NF} (h : Lis n s e E d l) (hl : 0 < l.length) : Ple (.lst s nf n e) (lstI s E d l) := by
  unfold lstI
  rw [← h.len]
  have hn : 0 < n := by rw [h.len]; exact hl
  intro w O v hv
  cases hv with
  | lst vals hc hr hcap hf hk => exact .lst vals hc (fun i hi j hj => h.cel i hi j hj _ _ _ (hr i hi j hj)) hcap (by simp) hn
  | lstE _ _ => exact absurd hn (Nat.lt_irrefl 0)
  | lstNil _ _ => exact absurd hn (Nat.lt_irrefl 0)

theorem Ple.iffI (h : Lis n s e E d l) : Ple (.lst s .iff n e) (lstI s E d l) := by
  unfold lstI
  rw [← h.len]
  exact Ple.lst' (.inl rfl) h.cel

theorem Ple.lisNil {s' : Nat} {nf : NF} {e : Nat → Nat → PV} : Ple (.lst s' nf 0 e) (lstP s E d []) := Ple.nil (.inr rfl)

theorem Ple.cptr {n : Nat} {c c' : Nat → PV} {j : Nat} (h : ∀ i, i < n → Ple (c i) (c' i)) : Ple (.cptr n c j) (.cptr n c' j) := fun w O v hv => by
  cases hv with
  | cptr vals hc hr => exact .cptr vals hc (fun i hi => h i hi _ _ _ (hr i hi))

theorem Wle.avL {h : Lis n s e E d l} : Wle (.av s n e) (.av s n (lstE E d l)) := fun w O ad p v hv => by
  cases hv with
  | av a hs hr => exact .av a hs (fun i hi j hj => h.cel i hi j hj _ _ _ (hr i hi j hj))

theorem Vle.avL (h : Lis n s e E d l) : Vle (.av s n e) (.av s n (lstE E d l)) := (Wle.avL (h := h)).vle

theorem Vle.lis {o : Bool} {nf : NF} (h : Lis n s e E d l) : Vle (.pv o (.lst s nf n e)) (.pv false (lstP s E d l)) := Vle.pv (Ple.lis h)

theorem Vle.own' {nf : NF} (h : Lis n s e E d l) : Vle (.pv true (.lst s nf n e)) (.pv true (lstP s E d l)) := fun w O ad p v hp hv => by
  cases hv with
  | own hv ho =>
    have := Ple.lis (E := E) (d := d) (l := l) h w O v hv
    unfold lstP at this ⊢
    refine .own this ?_
    rw [← h.len]
    exact ho

theorem Vle.nilOwn {o : Bool} {s' : Nat} {e : Nat → Nat → PV} : Vle (.pv o (.lst s' .isNil 0 e)) (.pv true (lstP s E d [])) := fun w O ad p v hp hv => by
  cases prel_of hv with
  | lst _ _ _ _ _ hn => exact hn.elim
  | lstE _ hn => exact hn.elim
  | lstNil _ _ => exact .own (.lstNil (by simp) (by simp)) ⟨hp, .inl rfl⟩

end

theorem Alen.arr {k s o n n' : Nat} (h : n = n') : Alen (.arr k s o n) (.arr k s o n') := h ▸ Alen.refl _

theorem Vle.arr {k s o n n' : Nat} (h : n = n') : Vle (.arr k s o n) (.arr k s o n') := h ▸ Vle.refl _

/-- temporaries, one by one -/
inductive EnvP : List (Nat × AVal) → List (Nat × AVal) → Prop
  | nil : EnvP [] []
  | same {d : Nat} {v : AVal} {e e' : List (Nat × AVal)} (h : EnvP e e') : EnvP ((d, v) :: e) ((d, v) :: e')
  | cons {d : Nat} {a b : AVal} {e e' : List (Nat × AVal)} (h : Vle a b) (r : EnvP e e') : EnvP ((d, a) :: e) ((d, b) :: e')
  | drop {d : Nat} {a : AVal} {e e' : List (Nat × AVal)} (r : EnvP e e') : EnvP ((d, a) :: e) ((d, .undef) :: e')

theorem EnvP.le {e e' : List (Nat × AVal)} (h : EnvP e e') : EnvLe e e' := by
  induction h with
  | nil => exact EnvLe.nil _
  | @same d v e e' h ih =>
    intro t
    simp only [get]
    by_cases c : d = t
    · subst c; rw [beq_tt]; exact .inr (Vle.refl _)
    · rw [beq_ff c]; exact ih t
  | @cons d a b e e' h r ih =>
    intro t
    simp only [get]
    by_cases c : d = t
    · subst c; rw [beq_tt]; exact .inr h
    · rw [beq_ff c]; exact ih t
  | @drop d a e e' r ih =>
    intro t
    simp only [get]
    by_cases c : d = t
    · subst c; rw [beq_tt]; exact .inl rfl
    · rw [beq_ff c]; exact ih t

theorem Le.pos {nt nb : Nat} {pin : Nat → Nat} {e e' : List (Nat × AVal)} {H H' : List Blk} (he : EnvP e e') (hh : HeapLe H H') : Le ⟨nt, e, H, nb, pin⟩ ⟨nt, e', H', nb, pin⟩ :=
  Le.all rfl rfl rfl he.le hh

/-- cells that tell a list of data, and own their lists -/
structure LisO {α : Type} (n s : Nat) (e : Nat → Nat → PV) (ow : Nat → Nat → Bool) (E : α → Nat → PV) (d : α) (l : List α) : Prop where
  len : n = l.length
  cel : ∀ i, i < n → ∀ j, j < s → Vle (.pv (ow i j) (e i j)) (.pv true (E (l.getD i d) j))

section
variable {α : Type} {n s : Nat} {e : Nat → Nat → PV} {ow : Nat → Nat → Bool} {E : α → Nat → PV} {d : α} {l : List α}

theorem LisO.base {s : Nat} {E : α → Nat → PV} {d : α} {l : List α} : LisO l.length s (lstE E d l) (fun _ _ => true) E d l := ⟨rfl, fun _ _ _ _ => Vle.refl _⟩

theorem LisO.rep {c : Nat → PV} {o : Nat → Bool} {z : α} (h : ∀ j, j < s → Vle (.pv (o j) (c j)) (.pv true (E z j))) : LisO n s (fun _ j => c j) (fun _ j => o j) E d (List.replicate n z) := by
  refine ⟨by simp, fun i hi j hj => ?_⟩
  rw [show (List.replicate n z).getD i d = z by simp [List.getD_eq_getElem?_getD, hi]]
  exact h j hj

theorem LisO.set1 {i : Nat} {x : PV} {o : Bool} {v : α} (h : LisO n 1 e ow E d l) (hi : i < n) (hx : Vle (.pv o x) (.pv true (E v 0))) :
    LisO n 1 (fun a b => bif Nat.beq a i && Nat.beq b 0 then x else e a b) (fun a b => bif Nat.beq a i && Nat.beq b 0 then o else ow a b) E d (l.set i v) := by
  refine ⟨by rw [List.length_set]; exact h.len, fun a ha b hb => ?_⟩
  obtain rfl : b = 0 := by omega
  have hil : i < l.length := by rw [← h.len]; exact hi
  by_cases c : a = i
  · subst c
    rw [show (l.set a v).getD a d = v by simp [List.getD_eq_getElem?_getD, hil], beq_tt]
    exact hx
  · rw [beq_ff c, Bool.false_and, cond_false, cond_false, show (l.set i v).getD a d = l.getD a d by simp [List.getD_eq_getElem?_getD, List.getElem?_set, Ne.symm c]]
    exact h.cel a ha 0 hb

/-- a list is taken out, and another one laid in -/
theorem LisO.put1 {i : Nat} {x : PV} {o o' : Bool} {v : α} (h : LisO n 1 e ow E d l) (hi : i < n) (hx : Vle (.pv o x) (.pv true (E v 0))) :
    LisO n 1 (fun a b => bif Nat.beq a i && Nat.beq b 0 then x else e a b) (fun a b => bif Nat.beq a i && Nat.beq b 0 then o else bif Nat.beq a i && Nat.beq b 0 then o' else ow a b) E d (l.set i v) := by
  refine ⟨by rw [List.length_set]; exact h.len, fun a ha b hb => ?_⟩
  obtain rfl : b = 0 := by omega
  have hil : i < l.length := by rw [← h.len]; exact hi
  by_cases c : a = i
  · subst c
    rw [show (l.set a v).getD a d = v by simp [List.getD_eq_getElem?_getD, hil], beq_tt]
    exact hx
  · rw [beq_ff c, Bool.false_and, cond_false, cond_false, cond_false, show (l.set i v).getD a d = l.getD a d by simp [List.getD_eq_getElem?_getD, List.getElem?_set, Ne.symm c]]
    exact h.cel a ha 0 hb

theorem LisO.app {m : Nat} {e2 : Nat → Nat → PV} {ow2 : Nat → Nat → Bool} {l2 : List α} (h : LisO n s e ow E d l) (h2 : LisO m s e2 ow2 E d l2) :
    LisO (n + m) s (appEl n e e2) (fun i j => bif Nat.blt i n then ow i j else ow2 (i - n) j) E d (l ++ l2) := by
  refine ⟨by rw [List.length_append, ← h.len, ← h2.len], fun i hi j hj => ?_⟩
  by_cases c : i < n
  · have hb : Nat.blt i n = true := Nat.ble_eq_true_of_le c
    simp only [appEl, hb, cond_true]
    rw [show (l ++ l2).getD i d = l.getD i d by simp [List.getD_eq_getElem?_getD, List.getElem?_append, ← h.len, c]]
    exact h.cel i c j hj
  · have hb : Nat.blt i n = false := Bool.eq_false_iff.2 fun h => c (Nat.le_of_ble_eq_true h)
    simp only [appEl, hb, cond_false]
    rw [show (l ++ l2).getD i d = l2.getD (i - n) d by simp [List.getD_eq_getElem?_getD, List.getElem?_append, ← h.len, c]]
    exact h2.cel (i - n) (by omega) j hj

theorem LisO.one {o : Bool} {v : α} (hx : Vle (.pv o (e 0 0)) (.pv true (E v 0))) : LisO 1 1 e (fun _ _ => o) E d [v] := by
  refine ⟨rfl, fun i hi j hj => ?_⟩
  obtain rfl : i = 0 := by omega
  obtain rfl : j = 0 := by omega
  exact hx

theorem Ble.lisO (h : LisO n s e ow E d l) : Ble (.row s n e ow) (.row s l.length (lstE E d l) fun _ _ => true) := ⟨rfl, h.len.symm, h.cel⟩

theorem Ble.lisON (h : LisO n s e ow E d l) : Ble (.row s n e ow) (.row s n (lstE E d l) fun _ _ => true) := ⟨rfl, rfl, h.cel⟩

end

/-- blocks in another order -/
theorem Le.permT {st c : St} (ks : List Nat) (h : (uniqN ks && (pickOk (fun k => memN k ks) st.heap ks && (okE (fun k => memN k ks) st.env && pinOk ks st.nb))) = true) (k : Le (permSt ks st) c) : Le st c :=
  (Le.perm ks h rfl).trans k

/-! tables -/

def tblM {α : Type} (l : List (List α)) (i : Nat) : Nat := (l.getD i []).length
def tblE {α : Type} (E : α → Nat → PV) (d : α) (l : List (List α)) (i j : Nat) : PV := E ((l.getD i []).getD j d) 0

/-- rows that tell a list of lists -/
structure Tbl {α : Type} (n : Nat) (m : Nat → Nat) (e : Nat → Nat → PV) (E : α → Nat → PV) (d : α) (l : List (List α)) : Prop where
  len : n = l.length
  row : ∀ i, i < n → tblM l i = m i
  cel : ∀ i, i < n → ∀ j, j < m i → Ple (e i j) (tblE E d l i j)

section
variable {α : Type} {n : Nat} {m : Nat → Nat} {e : Nat → Nat → PV} {E : α → Nat → PV} {d : α} {l : List (List α)}

theorem Tbl.base {E : α → Nat → PV} {d : α} {l : List (List α)} : Tbl l.length (tblM l) (tblE E d l) E d l := ⟨rfl, fun _ _ => rfl, fun _ _ _ _ => Ple.refl _⟩

theorem Tbl.new {n : Nat} {e : Nat → Nat → PV} {E : α → Nat → PV} {d : α} : Tbl n (fun _ => 0) e E d (List.replicate n []) := by
  refine ⟨by simp, fun i hi => ?_, fun i _ j hj => by omega⟩
  simp [tblM, List.getD_eq_getElem?_getD, hi]

theorem Tbl.cell {i j : Nat} {p : PV} {v : α} (h : Tbl n m e E d l) (hi : i < n) (hj : j < m i) (hp : Ple p (E v 0)) :
    Tbl n m (fun a b => bif Nat.beq a i && Nat.beq b j then p else e a b) E d (l.set i ((l.getD i []).set j v)) := by
  have hil : i < l.length := by rw [← h.len]; exact hi
  refine ⟨by rw [List.length_set]; exact h.len, fun a ha => ?_, fun a ha b hb => ?_⟩
  · rw [← h.row a ha]
    unfold tblM
    by_cases c : a = i
    · subst c; simp [List.getD_eq_getElem?_getD, hil]
    · simp [List.getD_eq_getElem?_getD, List.getElem?_set, Ne.symm c]
  · by_cases c : a = i
    · subst c
      have hr := h.row a ha
      by_cases c2 : b = j
      · subst c2
        rw [beq_tt, beq_tt, Bool.and_self, cond_true]
        have : tblE E d (l.set a ((l.getD a []).set b v)) a b = E v 0 := by
          have hb' : b < (l.getD a []).length := by unfold tblM at hr; omega
          unfold tblE
          simp only [List.getD_eq_getElem?_getD, List.getElem?_set_self hil, Option.getD_some] at hb' ⊢
          rw [List.getElem?_set_self hb']; rfl
        rw [this]; exact hp
      · rw [beq_ff c2, Bool.and_false, cond_false]
        have : tblE E d (l.set a ((l.getD a []).set j v)) a b = tblE E d l a b := by
          unfold tblE
          simp only [List.getD_eq_getElem?_getD, List.getElem?_set_self hil, Option.getD_some]
          rw [List.getElem?_set_ne (Ne.symm c2)]
        rw [this]; exact h.cel a ha b hb
    · rw [beq_ff c, Bool.false_and, cond_false]
      have : tblE E d (l.set i ((l.getD i []).set j v)) a b = tblE E d l a b := by
        unfold tblE
        simp only [List.getD_eq_getElem?_getD]
        rw [List.getElem?_set_ne (Ne.symm c)]
      rw [this]; exact h.cel a ha b hb

theorem Tbl.put {i q : Nat} {e2 : Nat → Nat → PV} {r : List α} (h : Tbl n m e E d l) (h2 : Lis q 1 e2 E d r) (hi : i < n) :
    Tbl n (fun a => bif Nat.beq a i then q else m a) (fun a b => bif Nat.beq a i then e2 b 0 else e a b) E d (l.set i r) := by
  have hil : i < l.length := by rw [← h.len]; exact hi
  refine ⟨by rw [List.length_set]; exact h.len, fun a ha => ?_, fun a ha b hb => ?_⟩
  · by_cases c : a = i
    · subst c
      rw [beq_tt, cond_true, h2.len]
      simp [tblM, List.getD_eq_getElem?_getD, hil]
    · rw [beq_ff c, cond_false, ← h.row a ha]
      simp [tblM, List.getD_eq_getElem?_getD, List.getElem?_set, Ne.symm c]
  · by_cases c : a = i
    · subst c
      rw [beq_tt, cond_true] at hb ⊢
      have : tblE E d (l.set a r) a b = E (r.getD b d) 0 := by simp [tblE, List.getD_eq_getElem?_getD, hil]
      rw [this]; exact h2.cel b hb 0 (by omega)
    · rw [beq_ff c, cond_false] at hb ⊢
      have : tblE E d (l.set i r) a b = tblE E d l a b := by simp [tblE, List.getD_eq_getElem?_getD, List.getElem?_set, Ne.symm c]
      rw [this]; exact h.cel a ha b hb

/-- a table that is not written any more -/
theorem Tbl.lis (h : Tbl n m e E d l) : Lis n 1 (tblR m e) (eL 1 E d) [] l := by
  refine ⟨h.len, fun i hi j _ => ?_⟩
  have hr := h.row i hi
  unfold tblM at hr
  show Ple (.lst 1 .any (m i) fun j _ => e i j) (lstP 1 E d (l.getD i []))
  exact Ple.lis ⟨hr.symm, fun b hb c hc => by
    obtain rfl : c = 0 := by omega
    exact h.cel i hi b hb⟩

theorem Ble.tbl (h : Tbl n m e E d l) : Ble (.mat n m e) (.mat l.length (tblM l) (tblE E d l)) := ⟨h.len.symm, fun i hi => ⟨h.row i hi, fun j hj => h.cel i hi j hj⟩⟩

end

/-- rows and variables, one by one -/
theorem Ble.lis {α : Type} {s n : Nat} {e : Nat → Nat → PV} {ow : Nat → Nat → Bool} {E : α → Nat → PV} {d : α} {l : List α} (h : Lis n s e E d l) : Ble (.row s n e ow) (.row s l.length (lstE E d l) fun _ _ => false) :=
  ⟨rfl, h.len.symm, fun i hi j hj => Vle.pv (h.cel i hi j hj)⟩

theorem Ble.lisN {α : Type} {s n : Nat} {e : Nat → Nat → PV} {ow : Nat → Nat → Bool} {E : α → Nat → PV} {d : α} {l : List α} (h : Lis n s e E d l) : Ble (.row s n e ow) (.row s n (lstE E d l) fun _ _ => false) :=
  ⟨rfl, rfl, fun i hi j hj => Vle.pv (h.cel i hi j hj)⟩

inductive CelP : List AVal → List AVal → Prop
  | nil : CelP [] []
  | same {v : AVal} {e e' : List AVal} (h : CelP e e') : CelP (v :: e) (v :: e')
  | cons {a b : AVal} {e e' : List AVal} (h : Vle a b) (r : CelP e e') : CelP (a :: e) (b :: e')

theorem CelP.len {e e' : List AVal} (h : CelP e e') : e'.length = e.length := by
  induction h with
  | nil => rfl
  | same _ ih => simp [ih]
  | cons _ _ ih => simp [ih]

theorem CelP.nth {e e' : List AVal} (h : CelP e e') : ∀ {i : Nat} {y : AVal}, Fw.nth e' i = some y → ∃ x, Fw.nth e i = some x ∧ Vle x y := by
  induction h with
  | nil => intro i y hy; simp [Fw.nth] at hy
  | @same v _ _ h ih =>
    intro i y hy
    cases i with
    | zero => simp [Fw.nth] at hy; subst hy; exact ⟨v, rfl, Vle.refl _⟩
    | succ i => exact ih (by simpa [Fw.nth] using hy)
  | @cons a b _ _ h r ih =>
    intro i y hy
    cases i with
    | zero => simp [Fw.nth] at hy; subst hy; exact ⟨a, rfl, h⟩
    | succ i => exact ih (by simpa [Fw.nth] using hy)

theorem Ble.box {cs cs' : List AVal} (h : CelP cs cs') : Ble (.box cs) (.box cs') := ⟨h.len, fun _ _ hy => h.nth hy⟩

/-- results, one by one -/
inductive TupP : List AVal → List AVal → Prop
  | nil : TupP [] []
  | same {v : AVal} {e e' : List AVal} (h : TupP e e') : TupP (v :: e) (v :: e')
  | cons {a b : AVal} {e e' : List AVal} (h : Wle a b) (r : TupP e e') : TupP (a :: e) (b :: e')

theorem TupP.wle {e e' : List AVal} (h : TupP e e') : WleL e e' := by
  induction h with
  | nil => exact .nil
  | same _ ih => exact .same ih
  | cons h _ ih => exact .cons h ih

theorem Vle.tupP {e e' : List AVal} (h : TupP e e') : Vle (.tup e) (.tup e') := (Wle.tup h.wle).vle
theorem Vle.aggP {e e' : List AVal} (h : TupP e e') : Vle (.agg e) (.agg e') := (Wle.agg h.wle).vle
theorem Wle.aggP {e e' : List AVal} (h : TupP e e') : Wle (.agg e) (.agg e') := Wle.agg h.wle
theorem Wle.lis {α : Type} {s n : Nat} {e : Nat → Nat → PV} {E : α → Nat → PV} {d : α} {l : List α} {o : Bool} {nf : NF} (h : Lis n s e E d l) : Wle (.pv o (.lst s nf n e)) (.pv false (lstP s E d l)) := Wle.pv (Ple.lis h)
theorem Wle.lisNil {α : Type} {s s' : Nat} {e : Nat → Nat → PV} {E : α → Nat → PV} {d : α} {o : Bool} {nf : NF} : Wle (.pv o (.lst s' nf 0 e)) (.pv false (lstP s E d [])) := Wle.pv Ple.lisNil
theorem Ple.fnP {f n : Nat} {c c' : Nat → PV} (h : ∀ i, i < n → Ple (c i) (c' i)) : Ple (.fn f n c) (.fn f n c') := fun w O v hv => by
  cases hv with
  | fn a hs hr => exact .fn a hs (fun i hi => h i hi _ _ _ (hr i hi))

theorem Wle.fnA {f : Nat} {e e' : List AVal} (h : TupP e e') : Wle (.fn f e) (.fn f e') := fun w O ad p v hv => by
  have h := h.wle
  cases hv with
  | fn arr hs hr =>
    refine .fn arr (by rw [h.len]; exact hs) (fun i b hb => ?_)
    obtain ⟨a, h1, h2⟩ := h.nth hb
    exact h2 _ _ _ _ _ (hr i a h1)

theorem Wle.alen {a b : AVal} (h : Wle a b) : Alen a b := fun w O ad v hv => h w O ad _ v hv

theorem AlenL.tup {e e' : List AVal} (h : TupP e e') : AlenL e e' := by
  induction h with
  | nil => exact .nil
  | same _ ih => exact .same ih
  | cons h _ ih => exact .cons h.alen ih

/-- the cells of a datum that holds data of its kind -/
def treeC (m : Nat) (x : Tr) : List AVal := cellsFrom (trC m x) 0 (m + 1)

theorem Ple.tree {p : PV} {m : Nat} {l : List Tr} (h : Ple p (lstP (m + 1) (trC m) Tr.d l)) : Ple p (.tree m l) := fun w O v hv => .tree (h w O v hv)

theorem Ple.treeL {m : Nat} {l : List Tr} : Ple (.tree m l) (lstP (m + 1) (trC m) Tr.d l) := fun w O v hv => by
  cases hv with
  | tree h => exact h

end Go.Proofs.Ytgghnfmabphbmaa.Fw
