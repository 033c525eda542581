/- Forgetting: what a loop's head keeps. -/
import Derived.Test.YtciflideblafgaaA15
namespace Go.Proofs.Ytciflideblafgaa.Fw
open Go
set_option linter.unusedSimpArgs false
set_option linter.unusedVariables false

/-- whatever a tells is told by b, too -/
def Vle (a b : AVal) : Prop := ∀ w O ad p v, p ≠ .no → VRel w O ad p a v → VRel w O ad p b v

theorem Vle.refl (a : AVal) : Vle a a := fun _ _ _ _ _ _ h => h
theorem Vle.of_eq {a b : AVal} (h : a = b) : Vle a b := h ▸ Vle.refl a

def Ple (a b : PV) : Prop := ∀ w O v, PRel w O a v → PRel w O b v

theorem Ple.refl (a : PV) : Ple a a := fun _ _ _ h => h

theorem Vle.pv {a b : PV} {o : Bool} (h : Ple a b) : Vle (.pv o a) (.pv false b) := fun w O ad p v hp hv => .pv (h w O v (prel_of hv))

/-- nothing is a slice that may grow -/
theorem Vle.nil {s s' : Nat} {e e' : Nat → Nat → PV} {o : Bool} : Vle (.pv o (.lst s .isNil 0 e)) (.pv true (.lst s' .any 0 e')) := fun w O ad p v hp hv => by
  cases prel_of hv with
  | lst _ _ _ _ _ hn => exact absurd rfl hn
  | lstE _ hn => exact absurd rfl hn
  | lstNil _ _ => exact .own (.lstNil (by simp) (by simp)) ⟨hp, .inl rfl⟩

theorem Ple.lst {s n : Nat} {nf nf' : NF} {e e' : Nat → Nat → PV} (hnf : nf' = nf ∨ nf' = .any) (h : ∀ i, i < n → ∀ j, j < s → e i j = e' i j) : Ple (.lst s nf n e) (.lst s nf' n e') := fun w O v hv => by
  cases hv with
  | lst vals hc hr hcap hf hn =>
    refine .lst vals hc (fun i hi j hj => by rw [← h i hi j hj]; exact hr i hi j hj) hcap (fun hh => hf ?_) ?_
    · rcases hnf with rfl | rfl
      · exact hh
      · simp at hh
    · rcases hnf with rfl | rfl
      · exact hn
      · simp
  | lstNil hn hn' =>
    refine .lstNil ?_ ?_
    · rcases hnf with rfl | rfl
      · exact hn
      · simp
    · rcases hnf with rfl | rfl
      · exact hn'
      · simp
  | lstE b hn =>
    refine .lstE b ?_
    rcases hnf with rfl | rfl
    · exact hn
    · simp

/-- no elements: the elements' size doesn't matter -/
theorem Ple.nil {s s' : Nat} {nf nf' : NF} {e e' : Nat → Nat → PV} (hnf : nf' = nf ∨ nf' = .any) : Ple (.lst s nf 0 e) (.lst s' nf' 0 e') := fun w O v hv => by
  cases hv with
  | lst vals hc hr hcap hf hn =>
    refine .lst vals (fun i hi => by omega) (fun i hi => by omega) hcap (fun hh => hf ?_) ?_
    · rcases hnf with rfl | rfl
      · exact hh
      · simp at hh
    · rcases hnf with rfl | rfl
      · exact hn
      · simp
  | lstNil hn hn' =>
    refine .lstNil ?_ ?_
    · rcases hnf with rfl | rfl
      · exact hn
      · simp
    · rcases hnf with rfl | rfl
      · exact hn'
      · simp
  | lstE b hn =>
    refine .lstE b ?_
    rcases hnf with rfl | rfl
    · exact hn
    · simp

theorem Vle.own {s n : Nat} {nf nf' : NF} {e e' : Nat → Nat → PV} (hnf : nf' = nf ∨ nf' = .any) (h : ∀ i, i < n → ∀ j, j < s → e i j = e' i j) : Vle (.pv true (.lst s nf n e)) (.pv true (.lst s nf' n e')) := fun w O ad p v hp hv => by
  cases hv with
  | own hv ho => exact .own (Ple.lst hnf h w O v hv) ho

def EnvLe (e e' : List (Nat × AVal)) : Prop := ∀ d, get e' d = .undef ∨ Vle (get e d) (get e' d)

theorem EnvLe.nil (e : List (Nat × AVal)) : EnvLe e [] := fun _ => .inl rfl

theorem EnvLe.cons {e r : List (Nat × AVal)} {d : Nat} {v : AVal} (h : Vle (get e d) v) (hr : EnvLe e r) : EnvLe e ((d, v) :: r) := fun t => by
  simp only [get]
  by_cases ht : d = t
  · subst ht; rw [beq_tt]; exact .inr h
  · rw [beq_ff ht]; exact hr t

mutual
/-- all memory that is led to has a number below n -/
def closedV (n : Nat) : AVal → Bool
  | .ptr k _ _ _ => Nat.blt k n
  | .arr k _ _ _ => Nat.blt k n
  | .mref k => Nat.blt k n
  | .agg cs => closedL n cs
  | .fn _ cs => closedL n cs
  | .tup cs => closedL n cs
  | .pv _ _ | .av _ _ _ | .undef => true
def closedL (n : Nat) : List AVal → Bool
  | [] => true
  | v :: r => closedV n v && closedL n r
end

def closedE (n : Nat) : List (Nat × AVal) → Bool
  | [] => true
  | (_, v) :: r => closedV n v && closedE n r

def closedB (n : Nat) : Blk → Bool
  | .box cs => closedL n cs
  | .row _ _ _ _ | .mp _ _ _ => true

def closedH (n : Nat) : List Blk → Bool
  | [] => true
  | b :: r => closedB n b && closedH n r

section
variable {w : World} {O : Nat → Own} {ad : List Nat}

theorem closedL_nth {n : Nat} : ∀ {l : List AVal} {i : Nat} {x : AVal}, closedL n l = true → nth l i = some x → closedV n x = true
  | [], _, _, _, h => by simp [nth] at h
  | y :: r, 0, x, ha, h => by simp [nth] at h; subst h; simp only [closedL, Bool.and_eq_true] at ha; exact ha.1
  | y :: r, k + 1, x, ha, h => by simp only [nth] at h; simp only [closedL, Bool.and_eq_true] at ha; exact closedL_nth ha.2 h

theorem closedH_nth {n : Nat} : ∀ {l : List Blk} {i : Nat} {x : Blk}, closedH n l = true → nth l i = some x → closedB n x = true
  | [], _, _, _, h => by simp [nth] at h
  | y :: r, 0, x, ha, h => by simp [nth] at h; subst h; simp only [closedH, Bool.and_eq_true] at ha; exact ha.1
  | y :: r, k + 1, x, ha, h => by simp only [nth] at h; simp only [closedH, Bool.and_eq_true] at ha; exact closedH_nth ha.2 h

theorem closedE_get {n : Nat} : ∀ {l : List (Nat × AVal)} (d : Nat), closedE n l = true → closedV n (get l d) = true
  | [], _, _ => rfl
  | (t, v) :: r, d, h => by
    simp only [closedE, Bool.and_eq_true] at h
    simp only [get]
    by_cases e : t = d
    · subst e; rw [beq_tt]; exact h.1
    · rw [beq_ff e]; exact closedE_get d h.2

theorem VRel.cut {n : Nat} {p : Pos} {x : AVal} {v : Value} (h : VRel w O ad p x v) : closedV n x = true → VRel w O (ad.take n) p x v := by
  have tk : ∀ {k B}, nth ad k = some B → Nat.blt k n = true → nth (ad.take n) k = some B := fun hk hb => by
    rw [nth_take, if_pos (bltE hb)]; exact hk
  induction h with
  | pv h => exact fun _ => .pv h
  | own h ho => exact fun _ => .own h ho
  | ptr h => exact fun hc => .ptr (tk h (by simpa [closedV] using hc))
  | arr h hcap hr => exact fun hc => .arr (tk h (by simpa [closedV] using hc)) hcap hr
  | mref h => exact fun hc => .mref (tk h (by simpa [closedV] using hc))
  | fn a hs hr ih => exact fun hc => .fn a hs (fun i x hx => ih i x hx (closedL_nth (by simpa [closedV] using hc) hx))
  | agg a hs hr ih => exact fun hc => .agg a hs (fun i x hx => ih i x hx (closedL_nth (by simpa [closedV] using hc) hx))
  | av a hs hr => exact fun _ => .av a hs hr
  | tup a hs hr ih => exact fun hc => .tup a hs (fun i x hx => ih i x hx (closedL_nth (by simpa [closedV] using hc) hx))
  | undef v => exact fun _ => .undef v

/-- A state that tells less. -/
theorem Le.mk {st st' : St} (n : Nat) (hb : st'.nb = st.nb) (hp : st'.pin = st.pin) (hbn : st.nb ≤ n) (hn : st'.nt = st.nt) (he : EnvLe st.env st'.env) (hh : st'.heap = st.heap.take n) (h1 : closedE n st'.env = true) (h2 : closedH n st'.heap = true) : Le st st' := by
  intro a w O ad hS
  refine ⟨O, ad.take n, ⟨⟨hS.env.1.trans hn.symm, fun d => ?_⟩, fun k b hb => ?_, by rw [hh, List.length_take, List.length_take, hS.len], fun k hk => by
    rw [hb] at hk
    rw [hp, nth_take, if_pos (by omega)]; exact hS.pin k hk, hS.dn, hS.fresh⟩, Step.refl w O⟩
  · rcases he d with h | h
    · rw [h]; exact .undef _
    · exact (h w O ad _ _ (by simp) (hS.env.2 d)).cut (closedE_get d h1)
  · have hb' : nth st.heap k = some b ∧ k < n := by
      rw [hh, nth_take] at hb
      split at hb
      · exact ⟨hb, by assumption⟩
      · simp at hb
    obtain ⟨B, x, g1, g2, g3, g4⟩ := hS.heap k b hb'.1
    refine ⟨B, x, by rw [nth_take, if_pos hb'.2]; exact g1, g2, g3, ?_⟩
    have hc := closedH_nth h2 hb
    cases x with
    | cells arr ty fz =>
      cases b with
      | box cs => exact ⟨g4.1, g4.2.1, fun i x hx => (g4.2.2 i x hx).cut (closedL_nth hc hx)⟩
      | row sz m el ow => exact ⟨g4.1, g4.2.1, fun i hi j hj => (g4.2.2 i hi j hj).cut rfl⟩
      | mp _ _ _ => exact g4.2.elim
    | map es c =>
      cases b with
      | mp q has val => exact g4
      | _ => exact g4.elim
    | _ => cases b <;> exact g4.elim

def St.cut (live : List Nat) (n : Nat) (st : St) : St := ⟨st.nt, restrict st.env live, st.heap.take n, st.nb, st.pin⟩

theorem restrict_le (e : List (Nat × AVal)) : ∀ live, EnvLe e (restrict e live)
  | [] => EnvLe.nil e
  | d :: r => EnvLe.cons (Vle.refl _) (restrict_le e r)

theorem cut_le {live : List Nat} {n : Nat} {st : St} (h : (Nat.ble st.nb n && (closedE n (restrict st.env live) && closedH n (st.heap.take n))) = true) : Le st (St.cut live n st) :=
  Le.mk n rfl rfl (Nat.le_of_ble_eq_true (andE h).1) rfl (restrict_le _ _) rfl (andE (andE h).2).1 (andE (andE h).2).2

/-- What follows in a loop's body: the next round; an exit; a return. -/
def cutQ (live liveX : List Nat) (n : Nat) (N : St → Prop) (X : Nat → St → Prop) (R : St → Prop) : Exit → St → Prop := fun e st =>
  match e with
  | .normal => need (Nat.ble st.nb n && (closedE n (restrict st.env live) && closedH n (st.heap.take n))) (N (St.cut live n st))
  | .exit id => need (Nat.ble st.nb n && (closedE n (restrict st.env liveX) && closedH n (st.heap.take n))) (X id (St.cut liveX n st))
  | .ret => R st
  | _ => False

/-- A loop over states that are told by a datum: N, X, R are what the round leaves. -/
theorem LoopK.mk {R : (Exit → St → Prop) → St → Prop} {Q : Exit → St → Prop} {st : St} {X : Type} (live liveX : List Nat) (n : Nat) (I : X → St) (μ : X → Nat) (x0 : X) (h0 : Le st (I x0))
    (h : ∀ x, R (cutQ live liveX n (fun s => ∃ y, Le s (I y) ∧ μ y < μ x) (fun id s => Q (.exit id) s) (Q .ret)) (I x)) : LoopK R Q st := by
  refine ⟨X, I, μ, x0, fun x => cutQ live liveX n (fun s => ∃ y, Le s (I y) ∧ μ y < μ x) (fun id s => Q (.exit id) s) (Q .ret), h0, fun x st' hn => ?_, fun x e st' he hq => ?_, h⟩
  · obtain ⟨h1, y, h2, h3⟩ := needE hn
    refine ⟨y, fun a w O ad hS => ?_, h3⟩
    obtain ⟨O1, ad1, g1, g2⟩ := cut_le h1 a w O ad hS
    obtain ⟨O2, ad2, g3, g4⟩ := h2 a w O1 ad1 g1
    exact ⟨O2, ad2, g3, g2.trans g4⟩
  · cases e with
    | normal => exact absurd rfl he
    | exit id =>
      obtain ⟨h1, h2⟩ := needE hq
      exact ⟨_, cut_le h1, h2⟩
    | ret => exact ⟨st', Le.refl _, hq⟩
    | goto l => exact hq.elim
    | panic c => exact hq.elim
    | outgrown => exact hq.elim

/-- blocks in another order -/
def renE (g : Nat → Nat) : List (Nat × AVal) → List (Nat × AVal)
  | [] => []
  | (d, v) :: r => (d, renV g v) :: renE g r

def okE (p : Nat → Bool) : List (Nat × AVal) → Bool
  | [] => true
  | (_, v) :: r => okV p v && okE p r

def pinOk (ks : List Nat) : Nat → Bool
  | 0 => true
  | n + 1 => Nat.beq (getN ks n) n && (Nat.blt n ks.length && pinOk ks n)

def permSt (ks : List Nat) (st : St) : St := ⟨st.nt, renE (fun k => idxN k ks) st.env, pickH (fun k => idxN k ks) st.heap ks, st.nb, st.pin⟩

def permO (ks : List Nat) (O : Nat → Own) : Nat → Own := fun B =>
  match O B with
  | .blk k => .blk (idxN k ks)
  | .lst (.cell k i j) fill => .lst (.cell (idxN k ks) i j) fill
  | x => x

theorem permO_im {ks : List Nat} {B o : Nat} : im (permO ks O) B o ↔ im O B o := by
  unfold im permO
  cases O B with
  | lst p fill => cases p <;> rfl
  | _ => rfl

theorem get_renE {g : Nat → Nat} (hg : renV g .undef = .undef) : ∀ (e : List (Nat × AVal)) (d : Nat), get (renE g e) d = renV g (get e d)
  | [], d => rfl
  | (t, v) :: r, d => by
    simp only [renE, get]
    cases Nat.beq t d with
    | true => rfl
    | false => exact get_renE hg r d

theorem okE_get {p : Nat → Bool} : ∀ {e : List (Nat × AVal)} (d : Nat), okE p e = true → okV p (get e d) = true
  | [], d, _ => rfl
  | (t, v) :: r, d, h => by
    simp only [okE, Bool.and_eq_true] at h
    simp only [get]
    cases Nat.beq t d with
    | true => exact h.1
    | false => exact okE_get d h.2

theorem pinOk_get {ks : List Nat} : ∀ {n k : Nat}, pinOk ks n = true → k < n → getN ks k = k ∧ k < ks.length
  | 0, k, _, h => by omega
  | n + 1, k, ho, h => by
    simp only [pinOk, Bool.and_eq_true] at ho
    by_cases e : k = n
    · subst e; exact ⟨beqE ho.1, bltE ho.2.1⟩
    · exact pinOk_get ho.2.2 (by omega)

theorem Le.perm {st st' : St} (ks : List Nat) (h : (uniqN ks && (pickOk (fun k => memN k ks) st.heap ks && (okE (fun k => memN k ks) st.env && pinOk ks st.nb))) = true) (e : st' = permSt ks st) : Le st st' := by
  subst e
  obtain ⟨hu, h⟩ := andE h
  obtain ⟨hpick, h⟩ := andE h
  obtain ⟨henv, hpin⟩ := andE h
  intro a w O ad hS
  have hkl : ∀ k, memN k ks = true → ∃ B, nth ad k = some B := fun k hk => by
    have := pickOk_lt hpick hk
    rw [← hS.len] at this
    exact nth_some this
  let ad' : List Nat := ks.map fun k => (nth ad k).getD 0
  have had1 : ∀ k B, memN k ks = true → nth ad k = some B → nth ad' (idxN k ks) = some B := fun k B hk hB => by
    obtain ⟨h1, h2⟩ := memN_getN hk
    have : nth ad' (idxN k ks) = some ((nth ad (getN ks (idxN k ks))).getD 0) := nth_map_getN h1
    rw [this, h2, hB]; rfl
  have him : ∀ B o, B < w.heap.size → im O B o → im (permO ks O) B o := fun B o _ hi => permO_im.2 hi
  have pn : ∀ p', PosTo O (permO ks O) .no p' := fun p' h => absurd rfl h
  refine ⟨permO ks O, ad', ⟨⟨hS.env.1, fun d => ?_⟩, fun i b hb => ?_, by simp [ad', permSt, length_pickH], fun k hk => ?_, hS.dn, fun B hB => by simp [permO, hS.fresh B hB]⟩,
    ⟨fun _ arr _ _ h => ⟨arr, h, rfl⟩, rfl, rfl, rfl, Nat.le_refl _, fun B o _ hi => ⟨permO_im.2 hi, rfl⟩, fun B _ hf => ⟨?_, rfl⟩, fun B k _ hk => .inl ⟨idxN k ks, by simp [permO, hk]⟩⟩⟩
  · show VRel w (permO ks O) ad' (.tmp d) (get (renE _ st.env) d) _
    rw [get_renE rfl]
    exact (hS.env.2 d).renum (ok := fun k => memN k ks) him had1 _ (fun _ => ⟨by simp, fun B fill hB => by simp [permO, hB]⟩) (fun i _ => ⟨by simp [Pos.sub], fun B fill hB => by have hB : O B = .lst (.tup d i) fill := hB; simp [permO, hB, Pos.sub]⟩) (okE_get d henv)
  · obtain ⟨hi, c, hc, rfl, hokc⟩ := nth_pickH hpick hb
    obtain ⟨B, x, h1, h2, h3, h4⟩ := hS.heap _ c hc
    have hix := idxN_getN hu hi
    refine ⟨B, x, ?_, ?_, h3, h4.ren (ok := fun k => memN k ks) him had1 (fun a b _ => ⟨by simp, fun B' fill hB' => ?_⟩) hokc⟩
    · have := had1 _ B (getN_mem hi) h1; rwa [hix] at this
    · simp [permO, h2, hix]
    · simp [permO, hB', hix]
  · obtain ⟨h1, h2⟩ := pinOk_get hpin hk
    have : nth ad' k = some ((nth ad (getN ks k)).getD 0) := nth_map_getN h2
    rw [this, h1, hS.pin k hk]; rfl
  · unfold permO
    cases hO : O B with
    | lst p fill => rw [hO] at hf; exact hf.elim
    | blk k => rw [hO] at hf; exact hf.elim
    | _ => rfl

end
end Go.Proofs.Ytciflideblafgaa.Fw
