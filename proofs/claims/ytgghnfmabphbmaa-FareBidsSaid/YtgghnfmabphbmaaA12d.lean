/- Regions whose order is open: what only reads may be taken first. -/
import Derived.Test.YtgghnfmabphbmaaA12c
import Derived.OrdersHeld
namespace Go.Proofs.Ytgghnfmabphbmaa.Fw
open Go
set_option linter.unusedSimpArgs false
set_option linter.unusedVariables false

def LiveLe (w : World) (O O' : Nat → Own) : Prop := ∀ B o, B < w.heap.size → live O B o → live O' B o

section
variable {P : Program} {ops : Array Oper} {Q : Exit → Act → World → Prop}

/-- whatever order is picked from here on, S holds behind every operation -/
def wpAnyI (P : Program) (ops : Array Oper) (Q : Exit → Act → World → Prop) (S : Array Bool → World → Prop) : Nat → Array Bool → Act → World → Prop
  | 0, listed, a, w => Region.ready .any ops listed = [] ∧ Q .normal a w
  | fuel + 1, listed, a, w => (Region.ready .any ops listed = [] → Q .normal a w) ∧
    ∀ i ∈ Region.ready .any ops listed, wpOp P ops Q i (fun a' w' => S (listed.setIfInBounds i true) w' ∧ wpAnyI P ops Q S fuel (listed.setIfInBounds i true) a' w') a w

theorem wpAny_of_I {S : Array Bool → World → Prop} : ∀ (fuel : Nat) (listed : Array Bool) (a : Act) (w : World), wpAnyI P ops Q S fuel listed a w → wpAny P .any ops Q fuel listed a w
  | 0, _, _, _, h => h
  | fuel + 1, _, _, _, h => ⟨h.1, fun i hi => wpOp_mono (fun a' w' h' => wpAny_of_I fuel _ a' w' h'.2) (h.2 i hi)⟩

/-- behind each operation that is listed, those that it waits for are -/
def Down (ops : Array Oper) (L : Array Bool) : Prop := ∀ k o, ops[k]? = some o → L.getD k false = true → ∀ e ∈ o.after, Region.binds .any e = true → L.getD e.on false = true

theorem Down.set {L : Array Bool} (h : Down ops L) {i : Nat} (hi : i ∈ Region.ready .any ops L) : Down ops (L.setIfInBounds i true) := by
  intro k o hk hl e he hb
  obtain ⟨h0, o', ho', hall⟩ := mem_ready.1 hi
  by_cases hki : i = k
  · subst hki
    rw [ho'] at hk; obtain rfl := Option.some.inj hk
    exact getD_set_true (hall e he hb)
  · rw [getD_set_ne false hki] at hl
    exact getD_set_true (h k o hk hl e he hb)

theorem wpAnyI_first {S : Array Bool → World → Prop} {S' : World → Prop} {i : Nat} {oi : Oper} {v : Value} (hi : ops[i]? = some oi) (hsel : ∀ (j : Nat) (o : Oper) cs b, ops[j]? = some o → o.op ≠ .select cs b)
    (hQ : ∀ c a w, ¬ Q (.panic c) a w) (hS' : ∀ L w, Down ops L → L.getD i true = false → S L w → S' w) (hSi : ∀ L w, S (L.setIfInBounds i true) w → S L w) (hSs : ∀ L w, S L w → S (L.setIfInBounds i true) w) :
    ∀ (fuel : Nat) (listed : Array Bool) (a : Act) (w : World),
      (∀ j oj, ops[j]? = some oj → j ≠ i → listed.getD j true = false → (∀ e ∈ oj.after, Region.binds .any e = true → e.on ≠ i) → oi.apart ops oj = true) →
      i ∈ Region.ready .any ops listed → Down ops listed → YieldsIf P ops S' oi v a → S listed w →
      wpAnyI P ops Q S fuel (listed.setIfInBounds i true) (a.put oi.dst v) w → wpAnyI P ops Q S (fuel + 1) listed a w := by
  intro fuel
  induction fuel with
  | zero =>
    intro listed a w _ hr hd hy hS H
    refine ⟨fun h => (by rw [h] at hr; cases hr), fun j hj => ?_⟩
    by_cases hji : j = i
    · subst hji; exact hy.wpOp hi (hS' _ _ hd (mem_ready.1 hr).1 hS) ⟨hSs _ _ hS, H⟩
    · have := ready_mono hj hji
      rw [H.1] at this
      cases this
  | succ fuel ih =>
    intro listed a w hfree hr hd hy hS H
    refine ⟨fun h => (by rw [h] at hr; cases hr), fun j hj => ?_⟩
    by_cases hji : j = i
    · subst hji; exact hy.wpOp hi (hS' _ _ hd (mem_ready.1 hr).1 hS) ⟨hSs _ _ hS, H⟩
    · have h1 := H.2 j (ready_mono hj hji)
      obtain ⟨hjun, oj, hoj, hall⟩ := mem_ready.1 hj
      have hnot : ∀ e ∈ oj.after, Region.binds .any e = true → e.on ≠ i := fun e he hb heq => by
        have h1 := hall e he hb
        have h0 := (mem_ready.1 hr).1
        rw [heq] at h1
        rcases Nat.lt_or_ge i listed.size with h' | h'
        · simp [h'] at h0 h1; rw [h0] at h1; cases h1
        · simp [Array.getElem?_eq_none h'] at h1
      have h2 := wpOp_putIf hoj (hfree j oj hoj hji hjun hnot) (fun cs b => hsel i oi cs b hi) (fun cs b => hsel j oj cs b hoj) (fun c a w h => absurd h (hQ c _ w)) hy h1
      have hfree' : ∀ k ok, ops[k]? = some ok → k ≠ i → (listed.setIfInBounds j true).getD k true = false →
          (∀ e ∈ ok.after, Region.binds .any e = true → e.on ≠ i) → oi.apart ops ok = true := fun k ok hk hki hun hno => by
        refine hfree k ok hk hki ?_ hno
        by_cases hjk : j = k
        · subst hjk; exact hjun
        · rw [getD_set_ne true hjk] at hun; exact hun
      refine wpOp_mono (fun a' w' h3 => ?_) h2
      have hcomm : (listed.setIfInBounds i true).setIfInBounds j true = (listed.setIfInBounds j true).setIfInBounds i true := Array.setIfInBounds_comm _ _ (Ne.symm hji)
      obtain ⟨h4, h5, h6⟩ := h3
      rw [hcomm] at h5 h6
      have h7 := hSi _ _ h5
      exact ⟨h7, ih (listed.setIfInBounds j true) a' w' hfree' (ready_mono hr (Ne.symm hji)) (hd.set hj) h4 h7 h6⟩

theorem wpAnyI_mono {S S' : Array Bool → World → Prop} (h : ∀ L w, S L w → S' L w) : ∀ (fuel : Nat) (listed : Array Bool) (a : Act) (w : World), wpAnyI P ops Q S fuel listed a w → wpAnyI P ops Q S' fuel listed a w
  | 0, _, _, _, H => H
  | fuel + 1, _, _, _, H => ⟨H.1, fun i hi => wpOp_mono (fun a' w' h' => ⟨h _ _ h'.1, wpAnyI_mono h fuel _ a' w' h'.2⟩) (H.2 i hi)⟩

end

/-- operations that leave memory alone -/
def isQuiet : Op → Bool
  | .move _ | .assign _ | .pick _ _ _ | .load _ _ | .fieldAddr _ _ _ | .indexAddr _ _ _ | .index _ _ _ | .field _ _ _ | .binOp _ _ _ _ _ | .unOp _ _ _ | .convert _ _ _ | .makeFunc _ _ _ | .slice _ _ _ _ _ | .build _ _ | .extract _ _ | .nilCheck _ => true
  | .call ⟨.builtin .len, _, _⟩ | .call ⟨.builtin .max, _, _⟩ | .call ⟨.builtin .min, _, _⟩ => true
  | _ => false

theorem isQuiet_store {C : Nat → Shape} {fg : Nat} {op : Op} (h : isQuiet op = true) : isStoreC C fg op = false := by
  unfold isStoreC
  split
  · simp [isQuiet] at h
  · simp [isQuiet] at h
  · simp [isQuiet] at h
  · simp [isQuiet] at h
  · cases op <;> first | rfl | simp [isQuiet] at h

def waits (ops : Array Oper) (k i : Nat) : Bool :=
  match ops[k]? with
  | some o => o.after.any fun e => Region.binds .any e && e.on == i
  | none => false

/-- the same, by way of others -/
def waitsT (ops : Array Oper) : Nat → Nat → Nat → Bool
  | 0, _, _ => false
  | n + 1, k, i =>
    match ops[k]? with
    | some o => o.after.any fun e => Region.binds .any e && (e.on == i || waitsT ops n e.on i)
    | none => false

theorem waitsT_down {ops : Array Oper} {L : Array Bool} (hd : Down ops L) {i : Nat} : ∀ {n k : Nat}, waitsT ops n k i = true → L.getD k false = true → L.getD i false = true
  | 0, k, h, _ => by simp [waitsT] at h
  | n + 1, k, h, hl => by
    unfold waitsT at h
    split at h
    · rename_i o ho
      obtain ⟨e, he, hb⟩ := Array.any_eq_true'.1 h
      simp only [Bool.and_eq_true, Bool.or_eq_true, beq_iff_eq] at hb
      have h1 := hd k o ho hl e he hb.1
      rcases hb.2 with h2 | h2
      · rw [← h2]; exact h1
      · exact waitsT_down hd h2 h1
    · simp at h

/-- every store that is still to come waits for operation i -/
def storesWait (C : Nat → Shape) (fl : Nat → Nat) (ops : Array Oper) (listed : Array Bool) (i : Nat) : Bool := (List.range ops.size).all fun k =>
  match ops[k]? with
  | some o => !isStoreC C (fl k) o.op || (listed.getD k false || (k != i && waitsT ops 4 k i))
  | none => true

/-- may operation i be taken first? -/
def takable (ops : Array Oper) (listed : Array Bool) (i : Nat) : Bool :=
  match ops[i]? with
  | some o => isQuiet o.op && Region.free .any ops listed i
  | none => false

/-- How a region is walked: the next operation; one that only reads what is not written any more; several orders. -/
inductive Plan where
  | done
  | one (i : Nat) (p : Plan)
  | im (i : Nat) (p : Plan)
  | both (p q : Plan)

def forkL (f : Nat → Option Plan) : List Nat → Option Plan
  | [] => none
  | i :: r => match f i, r with
    | some p, [] => some p
    | some p, r => (forkL f r).map (.both p ·)
    | none, _ => none

/-- What comes up alone, or leaves memory alone and may be taken first; else whatever is ready. -/
def mkPlan (C : Nat → Shape) (fl : Nat → Nat) (ops : Array Oper) : Nat → Array Bool → Option Plan
  | 0, listed => bif (Region.ready .any ops listed).isEmpty then some .done else none
  | g + 1, listed =>
    match Region.ready .any ops listed with
    | [] => some .done
    | [i] => (mkPlan C fl ops g (listed.setIfInBounds i true)).map (.one i ·)
    | is =>
      match is.find? (fun i => takable ops listed i && storesWait C fl ops listed i) with
      | some i => (mkPlan C fl ops g (listed.setIfInBounds i true)).map (.one i ·)
      | none =>
        match is.find? (fun i => takable ops listed i && !Nat.beq (fl i) 32) with
        | some i => (mkPlan C fl ops g (listed.setIfInBounds i true)).map (.im i ·)
        | none => forkL (fun i => (mkPlan C fl ops g (listed.setIfInBounds i true)).map (.one i ·)) is

end Go.Proofs.Ytgghnfmabphbmaa.Fw
