/- Forgetting: what a loop's head keeps. -/
import Derived.Test.YtgghnfmabphbmaaA15
namespace Go.Proofs.Ytgghnfmabphbmaa.Fw
open Go
set_option linter.unusedSimpArgs false
set_option linter.unusedVariables false

/-- nothing is a slice that may grow -/
theorem Vle.nil {s s' : Nat} {e e' : Nat → Nat → PV} {o : Bool} : Vle (.pv o (.lst s .isNil 0 e)) (.pv true (.lst s' .any 0 e')) := fun w O ad p v hp hv => by
  cases prel_of hv with
  | lst _ _ _ _ _ hn => exact hn.elim
  | lstE _ hn => exact hn.elim
  | lstNil _ _ => exact .own (.lstNil (by simp) (by simp)) ⟨hp, .inl rfl⟩

theorem Ple.lst {s n : Nat} {nf nf' : NF} {e e' : Nat → Nat → PV} (hnf : nf' = nf ∨ nf' = .any) (h : ∀ i, i < n → ∀ j, j < s → e i j = e' i j) : Ple (.lst s nf n e) (.lst s nf' n e') := fun w O v hv => by
  cases hv with
  | lst vals hc hr hcap hf hn =>
    refine .lst vals hc (fun i hi j hj => by rw [← h i hi j hj]; exact hr i hi j hj) hcap (fun hh => hf ?_) ?_
    · rcases hnf with rfl | rfl
      · exact hh
      · simp at hh
    · rcases hnf with rfl | rfl
      · exact hn
      · simp
  | lstNil hn hn' =>
    refine .lstNil ?_ ?_
    · rcases hnf with rfl | rfl
      · exact hn
      · simp
    · rcases hnf with rfl | rfl
      · exact hn'
      · simp
  | lstE b hn =>
    refine .lstE b ?_
    rcases hnf with rfl | rfl
    · exact hn
    · simp

/-- no elements: the elements' size doesn't matter -/
theorem Ple.nil {s s' : Nat} {nf nf' : NF} {e e' : Nat → Nat → PV} (hnf : nf' = nf ∨ nf' = .any) : Ple (.lst s nf 0 e) (.lst s' nf' 0 e') := fun w O v hv => by
  cases hv with
  | lst vals hc hr hcap hf hn =>
    refine .lst vals (fun i hi => by omega) (fun i hi => by omega) hcap (fun hh => hf ?_) ?_
    · rcases hnf with rfl | rfl
      · exact hh
      · simp at hh
    · rcases hnf with rfl | rfl
      · exact hn
      · simp
  | lstNil hn hn' =>
    refine .lstNil ?_ ?_
    · rcases hnf with rfl | rfl
      · exact hn
      · simp
    · rcases hnf with rfl | rfl
      · exact hn'
      · simp
  | lstE b hn =>
    refine .lstE b ?_
    rcases hnf with rfl | rfl
    · exact hn
    · simp

theorem Vle.own {s n : Nat} {nf nf' : NF} {e e' : Nat → Nat → PV} (hnf : nf' = nf ∨ nf' = .any) (h : ∀ i, i < n → ∀ j, j < s → e i j = e' i j) : Vle (.pv true (.lst s nf n e)) (.pv true (.lst s nf' n e')) := fun w O ad p v hp hv => by
  cases hv with
  | own hv ho => exact .own (Ple.lst hnf h w O v hv) ho

def EnvLe (e e' : List (Nat × AVal)) : Prop := ∀ d, get e' d = .undef ∨ Vle (get e d) (get e' d)

theorem EnvLe.nil (e : List (Nat × AVal)) : EnvLe e [] := fun _ => .inl rfl

theorem EnvLe.cons {e r : List (Nat × AVal)} {d : Nat} {v : AVal} (h : Vle (get e d) v) (hr : EnvLe e r) : EnvLe e ((d, v) :: r) := fun t => by
  simp only [get]
  by_cases ht : d = t
  · subst ht; rw [beq_tt]; exact .inr h
  · rw [beq_ff ht]; exact hr t

mutual
/-- all memory that is led to has a number below n -/
def closedV (n : Nat) : AVal → Bool
  | .ptr k _ _ _ => Nat.blt k n
  | .arr k _ _ _ => Nat.blt k n
  | .mref k => Nat.blt k n
  | .sub k _ _ => Nat.blt k n
  | .psub k _ _ => Nat.blt k n
  | .agg cs => closedL n cs
  | .fn _ cs => closedL n cs
  | .tup cs => closedL n cs
  | .pv _ _ | .av _ _ _ | .undef => true
def closedL (n : Nat) : List AVal → Bool
  | [] => true
  | v :: r => closedV n v && closedL n r
end

def closedE (n : Nat) : List (Nat × AVal) → Bool
  | [] => true
  | (_, v) :: r => closedV n v && closedE n r

def closedB (n : Nat) : Blk → Bool
  | .box cs => closedL n cs
  | .row _ _ _ _ | .mp _ _ _ | .mat _ _ _ => true

def closedH (n : Nat) : List Blk → Bool
  | [] => true
  | b :: r => closedB n b && closedH n r

section
variable {w : World} {O : Nat → Own} {ad : List Nat}

theorem closedL_nth {n : Nat} : ∀ {l : List AVal} {i : Nat} {x : AVal}, closedL n l = true → nth l i = some x → closedV n x = true
  | [], _, _, _, h => by simp [nth] at h
  | y :: r, 0, x, ha, h => by simp [nth] at h; subst h; simp only [closedL, Bool.and_eq_true] at ha; exact ha.1
  | y :: r, k + 1, x, ha, h => by simp only [nth] at h; simp only [closedL, Bool.and_eq_true] at ha; exact closedL_nth ha.2 h

theorem closedH_nth {n : Nat} : ∀ {l : List Blk} {i : Nat} {x : Blk}, closedH n l = true → nth l i = some x → closedB n x = true
  | [], _, _, _, h => by simp [nth] at h
  | y :: r, 0, x, ha, h => by simp [nth] at h; subst h; simp only [closedH, Bool.and_eq_true] at ha; exact ha.1
  | y :: r, k + 1, x, ha, h => by simp only [nth] at h; simp only [closedH, Bool.and_eq_true] at ha; exact closedH_nth ha.2 h

theorem closedE_get {n : Nat} : ∀ {l : List (Nat × AVal)} (d : Nat), closedE n l = true → closedV n (get l d) = true
  | [], _, _ => rfl
  | (t, v) :: r, d, h => by
    simp only [closedE, Bool.and_eq_true] at h
    simp only [get]
    by_cases e : t = d
    · subst e; rw [beq_tt]; exact h.1
    · rw [beq_ff e]; exact closedE_get d h.2

theorem VRel.cut {n : Nat} {p : Pos} {x : AVal} {v : Value} (h : VRel w O ad p x v) : closedV n x = true → VRel w O (ad.take n) p x v := by
  have tk : ∀ {k B}, nth ad k = some B → Nat.blt k n = true → nth (ad.take n) k = some B := fun hk hb => by
    rw [nth_take, if_pos (bltE hb)]; exact hk
  induction h with
  | pv h => exact fun _ => .pv h
  | own h ho => exact fun _ => .own h ho
  | ptr h => exact fun hc => .ptr (tk h (by simpa [closedV] using hc))
  | arrE h hv => exact fun hc => .arrE (tk h (by simpa [closedV] using hc)) hv
  | arr h hcap hr => exact fun hc => .arr (tk h (by simpa [closedV] using hc)) hcap hr
  | mref h => exact fun hc => .mref (tk h (by simpa [closedV] using hc))
  | subE h hv => exact fun hc => .subE (tk h (by simpa [closedV] using hc)) hv
  | sub h h2 h3 => exact fun hc => .sub (tk h (by simpa [closedV] using hc)) h2 h3
  | psub h h2 => exact fun hc => .psub (tk h (by simpa [closedV] using hc)) h2
  | fn a hs hr ih => exact fun hc => .fn a hs (fun i x hx => ih i x hx (closedL_nth (by simpa [closedV] using hc) hx))
  | agg a hs hr ih => exact fun hc => .agg a hs (fun i x hx => ih i x hx (closedL_nth (by simpa [closedV] using hc) hx))
  | av a hs hr => exact fun _ => .av a hs hr
  | tup a hs hr ih => exact fun hc => .tup a hs (fun i x hx => ih i x hx (closedL_nth (by simpa [closedV] using hc) hx))
  | undef v => exact fun _ => .undef v

/-- A state that tells less. -/
theorem Le.mk {st st' : St} (n : Nat) (hb : st'.nb = st.nb) (hp : st'.pin = st.pin) (hbn : st.nb ≤ n) (hn : st'.nt = st.nt) (he : EnvLe st.env st'.env) (hh : st'.heap = st.heap.take n) (h1 : closedE n st'.env = true) (h2 : closedH n st'.heap = true) : Le st st' := by
  intro a w O ad hS
  refine ⟨O, ad.take n, ⟨⟨hS.env.1.trans hn.symm, fun d => ?_⟩, fun k b hb => ?_, by rw [hh, List.length_take, List.length_take, hS.len], fun k hk => by
    rw [hb] at hk
    rw [hp, nth_take, if_pos (by omega)]; exact hS.pin k hk, hS.dn, hS.fresh⟩, Step.refl w O⟩
  · rcases he d with h | h
    · rw [h]; exact .undef _
    · exact (h w O ad _ _ (by simp) (hS.env.2 d)).cut (closedE_get d h1)
  · have hb' : nth st.heap k = some b ∧ k < n := by
      rw [hh, nth_take] at hb
      split at hb
      · exact ⟨hb, by assumption⟩
      · simp at hb
    obtain ⟨d, g1, ⟨g2, hg⟩ | ⟨B, x, rfl, g2, g3, g4⟩⟩ := hS.heap k b hb'.1
    · exact ⟨d, by rw [nth_take, if_pos hb'.2]; exact g1, .inl ⟨g2, hg⟩⟩
    refine ⟨B + 1, by rw [nth_take, if_pos hb'.2]; exact g1, .inr ⟨B, x, rfl, g2, g3, ?_⟩⟩
    have hc := closedH_nth h2 hb
    cases x with
    | cells arr ty fz =>
      cases b with
      | box cs => exact ⟨g4.1, g4.2.1, fun i x hx => (g4.2.2 i x hx).cut (closedL_nth hc hx)⟩
      | row sz m el ow => exact ⟨g4.1, g4.2.1, fun i hi j hj => (g4.2.2 i hi j hj).cut rfl⟩
      | mp _ _ _ => exact g4.2.elim
      | mat m q el => exact g4
    | map es c =>
      cases b with
      | mp q has val => exact g4
      | _ => exact g4.elim
    | _ => cases b <;> exact g4.elim

def St.cut (live : List Nat) (n : Nat) (st : St) : St := ⟨st.nt, restrict st.env live, st.heap.take n, st.nb, st.pin⟩

theorem restrict_le (e : List (Nat × AVal)) : ∀ live, EnvLe e (restrict e live)
  | [] => EnvLe.nil e
  | d :: r => EnvLe.cons (Vle.refl _) (restrict_le e r)

theorem cut_le {live : List Nat} {n : Nat} {st : St} (h : (Nat.ble st.nb n && (closedE n (restrict st.env live) && closedH n (st.heap.take n))) = true) : Le st (St.cut live n st) :=
  Le.mk n rfl rfl (Nat.le_of_ble_eq_true (andE h).1) rfl (restrict_le _ _) rfl (andE (andE h).2).1 (andE (andE h).2).2

/-- What follows in a loop's body: the next round; an exit; a return. -/
def cutQ (live liveX : List Nat) (n : Nat) (N : St → Prop) (X : Nat → St → Prop) (R : St → Prop) : Exit → St → Prop := fun e st =>
  match e with
  | .normal => need (Nat.ble st.nb n && (closedE n (restrict st.env live) && closedH n (st.heap.take n))) (N (St.cut live n st))
  | .exit id => need (Nat.ble st.nb n && (closedE n (restrict st.env liveX) && closedH n (st.heap.take n))) (X id (St.cut liveX n st))
  | .ret => R st
  | _ => False

/-- A loop over states that are told by a datum: N, X, R are what the round leaves. -/
theorem LoopK.mk {R : (Exit → St → Prop) → St → Prop} {Q : Exit → St → Prop} {st : St} {X : Type} (live liveX : List Nat) (n : Nat) (I : X → St) (μ : X → Nat) (x0 : X) (h0 : Le st (I x0))
    (h : ∀ x, R (cutQ live liveX n (fun s => ∃ y, Le s (I y) ∧ μ y < μ x) (fun id s => Q (.exit id) s) (Q .ret)) (I x)) : LoopK R Q st := by
  refine ⟨X, I, μ, x0, fun x => cutQ live liveX n (fun s => ∃ y, Le s (I y) ∧ μ y < μ x) (fun id s => Q (.exit id) s) (Q .ret), h0, fun x st' hn => ?_, fun x e st' he hq => ?_, h⟩
  · obtain ⟨h1, y, h2, h3⟩ := needE hn
    refine ⟨y, fun a w O ad hS => ?_, h3⟩
    obtain ⟨O1, ad1, g1, g2⟩ := cut_le h1 a w O ad hS
    obtain ⟨O2, ad2, g3, g4⟩ := h2 a w O1 ad1 g1
    exact ⟨O2, ad2, g3, g2.trans g4⟩
  · cases e with
    | normal => exact absurd rfl he
    | exit id =>
      obtain ⟨h1, h2⟩ := needE hq
      exact ⟨_, cut_le h1, h2⟩
    | ret => exact ⟨st', Le.refl _, hq⟩
    | goto l => exact hq.elim
    | panic c => exact hq.elim
    | outgrown => exact hq.elim

end
end Go.Proofs.Ytgghnfmabphbmaa.Fw
