/- Forgetting; states that tell the same. -/
import Derived.Test.YtgghnfmabphbmaaA12d
namespace Go.Proofs.Ytgghnfmabphbmaa.Fw
open Go
set_option linter.unusedSimpArgs false
set_option linter.unusedVariables false

/-- whatever st tells is told by st', too -/
def Le (st st' : St) : Prop := ∀ a w O ad, Sat st a w O ad → ∃ O' ad', Sat st' a w O' ad' ∧ Step w O w O'

theorem Le.refl (st : St) : Le st st := fun _ w O ad h => ⟨O, ad, h, Step.refl w O⟩

/-- what a list of temporaries holds -/
def restrict (e : List (Nat × AVal)) : List Nat → List (Nat × AVal)
  | [] => []
  | d :: r => (d, get e d) :: restrict e r

def St.only (l : Option (List Nat)) (st : St) : St :=
  match l with
  | some l => ⟨st.nt, restrict st.env l, st.heap, st.nb, st.pin⟩
  | none => st

def keysE : List (Nat × AVal) → List Nat
  | [] => []
  | (d, _) :: r => d :: keysE r

theorem get_restrict (e : List (Nat × AVal)) (d : Nat) : ∀ l, get (restrict e l) d = get e d ∨ get (restrict e l) d = .undef
  | [] => .inr rfl
  | c :: r => by
    simp only [restrict, get]
    by_cases h : c = d
    · subst h; rw [beq_tt]; exact .inl rfl
    · rw [beq_ff h]; exact get_restrict e d r

theorem only_le (l : Option (List Nat)) (st : St) : Le st (St.only l st) := by
  intro a w O ad hS
  refine ⟨O, ad, ?_, Step.refl w O⟩
  cases l with
  | none => exact hS
  | some l =>
    refine ⟨⟨hS.env.1, fun d => ?_⟩, hS.heap, hS.len, hS.pin, hS.dn, hS.fresh⟩
    rcases get_restrict st.env d l with h | h
    · show VRel w O ad (.tmp d) (get (restrict st.env l) d) _
      rw [h]; exact hS.env.2 d
    · show VRel w O ad (.tmp d) (get (restrict st.env l) d) _
      rw [h]; exact .undef _

def nubN : List Nat → List Nat → List Nat
  | _, [] => []
  | l, d :: r => bif memN d l then nubN l r else d :: nubN (d :: l) r

/-- each temporary once -/
def St.tidy (st : St) : St := St.only (some (nubN [] (keysE st.env))) st

/-- whatever a tells is told by b, too -/
def Vle (a b : AVal) : Prop := ∀ w O ad p v, p ≠ .no → VRel w O ad p a v → VRel w O ad p b v

theorem Vle.refl (a : AVal) : Vle a a := fun _ _ _ _ _ _ h => h
theorem Vle.of_eq {a b : AVal} (h : a = b) : Vle a b := h ▸ Vle.refl a

def Ple (a b : PV) : Prop := ∀ w O v, PRel w O a v → PRel w O b v

theorem Ple.refl (a : PV) : Ple a a := fun _ _ _ h => h

theorem Vle.pv {a b : PV} {o : Bool} (h : Ple a b) : Vle (.pv o a) (.pv false b) := fun w O ad p v hp hv => .pv (h w O v (prel_of hv))

/-- blocks in another order -/
def renE (g : Nat → Nat) : List (Nat × AVal) → List (Nat × AVal)
  | [] => []
  | (d, v) :: r => (d, renV g v) :: renE g r

def okE (p : Nat → Bool) : List (Nat × AVal) → Bool
  | [] => true
  | (_, v) :: r => okV p v && okE p r

def pinOk (ks : List Nat) : Nat → Bool
  | 0 => true
  | n + 1 => Nat.beq (getN ks n) n && (Nat.blt n ks.length && pinOk ks n)

def permSt (ks : List Nat) (st : St) : St := ⟨st.nt, renE (fun k => idxN k ks) st.env, pickH (fun k => idxN k ks) st.heap ks, st.nb, st.pin⟩

def permO (ks : List Nat) (O : Nat → Own) : Nat → Own := fun B =>
  match O B with
  | .blk k => .blk (idxN k ks)
  | .lst (.cell k i j) fill => .lst (.cell (idxN k ks) i j) fill
  | .inn k i => bif memN k ks then .inn (idxN k ks) i else .out (fun _ => False)
  | x => x

theorem permO_inn {O : Nat → Own} {ks : List Nat} {B j i : Nat} (h : permO ks O B = .inn j i) : ∃ k, O B = .inn k i ∧ memN k ks = true ∧ j = idxN k ks := by
  unfold permO at h
  cases hO : O B with
  | lst p fill => rw [hO] at h; cases p <;> simp at h
  | inn k i' =>
    rw [hO] at h
    cases hm : memN k ks with
    | true => simp [hm] at h; exact ⟨k, by rw [h.2], hm, h.1.symm⟩
    | false => simp [hm] at h
  | _ => rw [hO] at h; simp at h

theorem permO_uni {O : Nat → Own} {ks : List Nat} (h : Uni O) : Uni (permO ks O) := fun B B' j i h1 h2 => by
  obtain ⟨k, a1, a2, a3⟩ := permO_inn h1
  obtain ⟨k', b1, b2, b3⟩ := permO_inn h2
  have e1 := (memN_getN a2).2
  have e2 := (memN_getN b2).2
  rw [← a3] at e1
  rw [← b3] at e2
  have : k = k' := e1.symm.trans e2
  subst this
  exact h _ _ _ _ a1 b1

theorem permO_im {O : Nat → Own} {ks : List Nat} {B o : Nat} : im (permO ks O) B o ↔ im O B o := by
  unfold im permO
  cases O B with
  | lst p fill => cases p <;> rfl
  | inn k i => simp only; cases memN k ks <;> exact Iff.rfl
  | _ => rfl

theorem get_renE {g : Nat → Nat} (hg : renV g .undef = .undef) : ∀ (e : List (Nat × AVal)) (d : Nat), get (renE g e) d = renV g (get e d)
  | [], d => rfl
  | (t, v) :: r, d => by
    simp only [renE, get]
    cases Nat.beq t d with
    | true => rfl
    | false => exact get_renE hg r d

theorem okE_get {p : Nat → Bool} : ∀ {e : List (Nat × AVal)} (d : Nat), okE p e = true → okV p (get e d) = true
  | [], d, _ => rfl
  | (t, v) :: r, d, h => by
    simp only [okE, Bool.and_eq_true] at h
    simp only [get]
    cases Nat.beq t d with
    | true => exact h.1
    | false => exact okE_get d h.2

theorem pinOk_get {ks : List Nat} : ∀ {n k : Nat}, pinOk ks n = true → k < n → getN ks k = k ∧ k < ks.length
  | 0, k, _, h => by omega
  | n + 1, k, ho, h => by
    simp only [pinOk, Bool.and_eq_true] at ho
    by_cases e : k = n
    · subst e; exact ⟨beqE ho.1, bltE ho.2.1⟩
    · exact pinOk_get ho.2.2 (by omega)

theorem Le.perm {st st' : St} (ks : List Nat) (h : (uniqN ks && (pickOk (fun k => memN k ks) st.heap ks && (okE (fun k => memN k ks) st.env && pinOk ks st.nb))) = true) (e : st' = permSt ks st) : Le st st' := by
  subst e
  obtain ⟨hu, h⟩ := andE h
  obtain ⟨hpick, h⟩ := andE h
  obtain ⟨henv, hpin⟩ := andE h
  intro a w O ad hS
  have hkl : ∀ k, memN k ks = true → ∃ B, nth ad k = some B := fun k hk => by
    have := pickOk_lt hpick hk
    rw [← hS.len] at this
    exact nth_some this
  let ad' : List Nat := ks.map fun k => (nth ad k).getD 0
  have had1 : ∀ k B, memN k ks = true → nth ad k = some B → nth ad' (idxN k ks) = some B := fun k B hk hB => by
    obtain ⟨h1, h2⟩ := memN_getN hk
    have : nth ad' (idxN k ks) = some ((nth ad (getN ks (idxN k ks))).getD 0) := nth_map_getN h1
    rw [this, h2, hB]; rfl
  have him : ∀ B o, B < w.heap.size → im O B o → im (permO ks O) B o := fun B o _ hi => permO_im.2 hi
  have pn : ∀ p', PosTo O (permO ks O) .no p' := fun p' h => absurd rfl h
  refine ⟨permO ks O, ad', ⟨⟨hS.env.1, fun d => ?_⟩, fun i b hb => ?_, by simp [ad', permSt, length_pickH], fun k hk => ?_, hS.dn, ⟨fun B hB => by simp [permO, hS.fresh.fr B hB], permO_uni hS.fresh.uni⟩⟩,
    ⟨fun _ arr _ _ h => ⟨arr, h, rfl⟩, rfl, rfl, rfl, Nat.le_refl _, fun B o _ hi => ⟨permO_im.2 hi, rfl⟩, fun B _ hf => ⟨?_, rfl⟩, fun B _ hk => by
      unfold permO
      cases hO : O B with
      | lst p fill => rw [hO] at hk; exact hk.elim
      | inn k i => simp only; cases memN k ks <;> simp [Own.mem, Own.fixed]
      | blk k => exact .inl trivial
      | _ => rw [hO] at hk; exact hk.elim⟩⟩
  · show VRel w (permO ks O) ad' (.tmp d) (get (renE _ st.env) d) _
    rw [get_renE rfl]
    exact (hS.env.2 d).renum (ok := fun k => memN k ks) him had1 _ (fun _ => ⟨by simp, fun B fill hB => by simp [permO, hB]⟩) (fun i _ => ⟨by simp [Pos.sub], fun B fill hB => by have hB : O B = .lst (.tup d i) fill := hB; simp [permO, hB, Pos.sub]⟩) (okE_get d henv) (.inl fun B k i _ hk _ h => by simp [permO, h, hk])
  · obtain ⟨hi, c, hc, rfl, hokc⟩ := nth_pickH hpick hb
    have hix := idxN_getN hu hi
    obtain ⟨d, h1, ⟨rfl, hg⟩ | ⟨B, x, rfl, h2, h3, h4⟩⟩ := hS.heap _ c hc
    · exact ⟨0, by have := had1 _ _ (getN_mem hi) h1; rwa [hix] at this, .inl ⟨rfl, renB_ghost.2 hg⟩⟩
    refine ⟨B + 1, ?_, .inr ⟨B, x, rfl, ?_, h3, h4.ren (ok := fun k => memN k ks) him had1 (fun a b _ => ⟨by simp, fun B' fill hB' => ?_⟩) hokc (.inl ⟨fun B k i _ hk _ h => by simp [permO, h, hk], fun B i h => by simp [permO, h, getN_mem hi, hix]⟩)⟩⟩
    · have := had1 _ _ (getN_mem hi) h1; rwa [hix] at this
    · simp [permO, h2, hix]
    · simp [permO, hB', hix]
  · obtain ⟨h1, h2⟩ := pinOk_get hpin hk
    have : nth ad' k = some ((nth ad (getN ks k)).getD 0) := nth_map_getN h2
    rw [this, h1, hS.pin k hk]; rfl
  · unfold permO
    cases hO : O B with
    | lst p fill => rw [hO] at hf; exact hf.elim
    | blk k => rw [hO] at hf; exact hf.elim
    | inn k i => rw [hO] at hf; exact hf.elim
    | _ => rfl


/-- all i below n -/
def allB (f : Nat → Bool) : Nat → Bool
  | 0 => true
  | n + 1 => f n && allB f n

theorem allB_get {f : Nat → Bool} : ∀ {n i : Nat}, allB f n = true → i < n → f i = true
  | 0, i, _, h => by omega
  | n + 1, i, ho, h => by
    simp only [allB, Bool.and_eq_true] at ho
    by_cases e : i = n
    · subst e; exact ho.1
    · exact allB_get ho.2 (by omega)

theorem allB2 {f : Nat → Nat → Bool} {m n i j : Nat} (h : allB (fun i => allB (fun j => f i j) m) n = true) (hi : i < n) (hj : j < m) : f i j = true := allB_get (f := fun j => f i j) (allB_get (f := fun i => allB (fun j => f i j) m) h hi) hj

/-- data that are the same as far as they are told -/
def eqP : PV → PV → Bool
  | .bool a, q => match q with | .bool b => decide (a = b) | _ => false
  | .int k n, q => match q with | .int k' n' => decide (k = k') && decide (n = n') | _ => false
  | .str s, q => match q with | .str t => decide (s.data.toList = t.data.toList) | _ => false
  | .lst sz nf n el, q => match q with | .lst sz' nf' n' el' => Nat.beq sz sz' && (decide (nf = nf') && (Nat.beq n n' && allB (fun i => allB (fun j => eqP (el i j) (el' i j)) sz) n)) | _ => false
  | .optr _ _ _, _ => false
  | .cptr n c j, q => match q with | .cptr n' c' j' => Nat.beq n n' && (Nat.beq j j' && allB (fun i => eqP (c i) (c' i)) n) | _ => false
  | .fn f n c, q => match q with | .fn f' n' c' => Nat.beq f f' && (Nat.beq n n' && allB (fun i => eqP (c i) (c' i)) n) | _ => false
  | .nilp, q => match q with | .nilp => true | _ => false
  | .nilm, q => match q with | .nilm => true | _ => false
  | .nilf, q => match q with | .nilf => true | _ => false
  | .nili, q => match q with | .nili => true | _ => false
  | .junk, q => match q with | .junk => true | _ => false
  | .tree _ _, _ => false

theorem eqP_lst {sz n : Nat} {nf : NF} {el : Nat → Nat → PV} {q : PV} (h : eqP (.lst sz nf n el) q = true) : ∃ el', q = .lst sz nf n el' ∧ ∀ i, i < n → ∀ j, j < sz → eqP (el i j) (el' i j) = true := by
  unfold eqP at h
  split at h
  · obtain ⟨h1, k1⟩ := andE h
    obtain ⟨h2, k2⟩ := andE k1
    obtain ⟨h3, k3⟩ := andE k2
    obtain rfl := beqE h1
    obtain rfl := of_decide_eq_true h2
    obtain rfl := beqE h3
    exact ⟨_, rfl, fun i hi j hj => allB2 k3 hi hj⟩
  · simp at h

theorem eqP_le : ∀ {a b : PV}, eqP a b = true → Ple a b := by
  intro a
  induction a with
  | bool x => intro b h; unfold eqP at h; split at h <;> first | (obtain rfl := of_decide_eq_true h; exact Ple.refl _) | simp at h
  | int k n =>
    intro b h; unfold eqP at h; split at h
    · obtain ⟨h1, h2⟩ := andE h
      obtain rfl := of_decide_eq_true h1
      obtain rfl := of_decide_eq_true h2
      exact Ple.refl _
    · simp at h
  | str s =>
    intro b h; unfold eqP at h; split at h
    · rename_i t
      have h := of_decide_eq_true h
      have e : s = t := by
        rcases s with ⟨⟨l⟩⟩; rcases t with ⟨⟨m⟩⟩
        simp only at h
        rw [h]
      subst e; exact Ple.refl _
    · simp at h
  | lst sz nf n el ih =>
    intro b h
    obtain ⟨el', rfl, h2⟩ := eqP_lst h
    intro w O v hv
    cases hv with
    | lst vals hc hr hcap hf hn => exact .lst vals hc (fun i hi j hj => ih i j (h2 i hi j hj) w O _ (hr i hi j hj)) hcap hf hn
    | lstNil hn hn' => exact .lstNil hn hn'
    | lstE b hn => exact .lstE b hn
  | cptr n c j ih =>
    intro b h; unfold eqP at h; split at h
    · obtain ⟨h1, k1⟩ := andE h
      obtain ⟨h2, k2⟩ := andE k1
      obtain rfl := beqE h1
      obtain rfl := beqE h2
      intro w O v hv
      cases hv with
      | cptr vals hc hr => exact .cptr vals hc fun i hi => ih i (allB_get k2 hi) w O _ (hr i hi)
    · simp at h
  | optr b n c ih => intro b h; simp [eqP] at h
  | fn f n c ih =>
    intro b h; unfold eqP at h; split at h
    · obtain ⟨h1, k1⟩ := andE h
      obtain ⟨h2, k2⟩ := andE k1
      obtain rfl := beqE h1
      obtain rfl := beqE h2
      intro w O v hv
      cases hv with
      | fn a hs hr => exact .fn a hs fun i hi => ih i (allB_get k2 hi) w O _ (hr i hi)
    · simp at h
  | nilp => intro b h; unfold eqP at h; split at h <;> first | exact Ple.refl _ | simp at h
  | nilm => intro b h; unfold eqP at h; split at h <;> first | exact Ple.refl _ | simp at h
  | nilf => intro b h; unfold eqP at h; split at h <;> first | exact Ple.refl _ | simp at h
  | nili => intro b h; unfold eqP at h; split at h <;> first | exact Ple.refl _ | simp at h
  | junk => intro b h; unfold eqP at h; split at h <;> first | exact Ple.refl _ | simp at h
  | tree m l => intro b h; simp [eqP] at h

mutual
def eqV : AVal → AVal → Bool
  | .pv o p, y => match y with | .pv o' p' => decide (o = o') && eqP p p' | _ => false
  | .ptr k s i j, y => match y with | .ptr k' s' i' j' => Nat.beq k k' && (Nat.beq s s' && (Nat.beq i i' && Nat.beq j j')) | _ => false
  | .arr k s o n, y => match y with | .arr k' s' o' n' => Nat.beq k k' && (Nat.beq s s' && (Nat.beq o o' && Nat.beq n n')) | _ => false
  | .mref k, y => match y with | .mref k' => Nat.beq k k' | _ => false
  | .fn f cs, y => match y with | .fn f' cs' => Nat.beq f f' && eqL cs cs' | _ => false
  | .agg cs, y => match y with | .agg cs' => eqL cs cs' | _ => false
  | .av s n el, y => match y with | .av s' n' el' => Nat.beq s s' && (Nat.beq n n' && allB (fun i => allB (fun j => eqP (el i j) (el' i j)) s) n) | _ => false
  | .tup cs, y => match y with | .tup cs' => eqL cs cs' | _ => false
  | .undef, y => match y with | .undef => true | _ => false
  | .sub k i n, y => match y with | .sub k' i' n' => Nat.beq k k' && (Nat.beq i i' && Nat.beq n n') | _ => false
  | .psub k i n, y => match y with | .psub k' i' n' => Nat.beq k k' && (Nat.beq i i' && Nat.beq n n') | _ => false
def eqL : List AVal → List AVal → Bool
  | [], y => match y with | [] => true | _ => false
  | x :: r, y => match y with | x' :: r' => eqV x x' && eqL r r' | [] => false
end

/-- whatever the one tells, the other tells, too -/
def Vsame (a b : AVal) : Prop := ∀ w O ad p v, VRel w O ad p a v → VRel w O ad p b v

mutual
theorem eqV_le : ∀ {a b : AVal}, eqV a b = true → Vsame a b
  | .pv o p, b, h => by
    unfold eqV at h; split at h
    · obtain ⟨h1, h2⟩ := andE h
      obtain rfl := of_decide_eq_true h1
      intro w O ad q v hv
      cases hv with
      | pv hp => exact .pv (eqP_le h2 w O v hp)
      | own hp ho =>
        obtain ⟨el', rfl, _⟩ := eqP_lst h2
        exact .own (eqP_le h2 w O v hp) ho
    · simp at h
  | .ptr k s i j, b, h => by
    unfold eqV at h; split at h
    · obtain ⟨h1, k1⟩ := andE h
      obtain ⟨h2, k2⟩ := andE k1
      obtain ⟨h3, h4⟩ := andE k2
      obtain rfl := beqE h1
      obtain rfl := beqE h2
      obtain rfl := beqE h3
      obtain rfl := beqE h4
      exact fun _ _ _ _ _ h => h
    · simp at h
  | .sub k i j, b, h => by
    unfold eqV at h; split at h
    · obtain ⟨h1, k1⟩ := andE h
      obtain ⟨h2, h3⟩ := andE k1
      obtain rfl := beqE h1
      obtain rfl := beqE h2
      obtain rfl := beqE h3
      exact fun _ _ _ _ _ h => h
    · simp at h
  | .psub k i j, b, h => by
    unfold eqV at h; split at h
    · obtain ⟨h1, k1⟩ := andE h
      obtain ⟨h2, h3⟩ := andE k1
      obtain rfl := beqE h1
      obtain rfl := beqE h2
      obtain rfl := beqE h3
      exact fun _ _ _ _ _ h => h
    · simp at h
  | .arr k s i j, b, h => by
    unfold eqV at h; split at h
    · obtain ⟨h1, k1⟩ := andE h
      obtain ⟨h2, k2⟩ := andE k1
      obtain ⟨h3, h4⟩ := andE k2
      obtain rfl := beqE h1
      obtain rfl := beqE h2
      obtain rfl := beqE h3
      obtain rfl := beqE h4
      exact fun _ _ _ _ _ h => h
    · simp at h
  | .mref k, b, h => by
    unfold eqV at h; split at h
    · obtain rfl := beqE h
      exact fun _ _ _ _ _ h => h
    · simp at h
  | .fn f cs, b, h => by
    unfold eqV at h; split at h
    · obtain ⟨h1, h2⟩ := andE h
      obtain rfl := beqE h1
      obtain ⟨hl, hr'⟩ := eqL_le h2
      intro w O ad q v hv
      cases hv with
      | fn a hs hr =>
        refine .fn a (hs.trans hl) fun i x hx => ?_
        obtain ⟨y, hy, hxy⟩ := hr' i x hx
        exact hxy _ _ _ _ _ (hr i y hy)
    · simp at h
  | .agg cs, b, h => by
    unfold eqV at h; split at h
    · obtain ⟨hl, hr'⟩ := eqL_le h
      intro w O ad q v hv
      cases hv with
      | agg a hs hr =>
        refine .agg a (hs.trans hl) fun i x hx => ?_
        obtain ⟨y, hy, hxy⟩ := hr' i x hx
        exact hxy _ _ _ _ _ (hr i y hy)
    · simp at h
  | .av s n el, b, h => by
    unfold eqV at h; split at h
    · obtain ⟨h1, k1⟩ := andE h
      obtain ⟨h2, k2⟩ := andE k1
      obtain rfl := beqE h1
      obtain rfl := beqE h2
      intro w O ad q v hv
      cases hv with
      | av a hs hr => exact .av a hs fun i hi j hj => eqP_le (allB2 k2 hi hj) w O _ (hr i hi j hj)
    · simp at h
  | .tup cs, b, h => by
    unfold eqV at h; split at h
    · obtain ⟨hl, hr'⟩ := eqL_le h
      intro w O ad q v hv
      cases hv with
      | tup a hs hr =>
        refine .tup a (hs.trans hl) fun i x hx => ?_
        obtain ⟨y, hy, hxy⟩ := hr' i x hx
        exact hxy _ _ _ _ _ (hr i y hy)
    · simp at h
  | .undef, b, h => by
    unfold eqV at h; split at h
    · exact fun _ _ _ _ _ h => h
    · simp at h
theorem eqL_le : ∀ {l m : List AVal}, eqL l m = true → l.length = m.length ∧ ∀ i x, nth m i = some x → ∃ y, nth l i = some y ∧ Vsame y x
  | [], m, h => by
    unfold eqL at h; split at h
    · exact ⟨rfl, fun i x hx => by simp [nth] at hx⟩
    · simp at h
  | v :: r, m, h => by
    unfold eqL at h; split at h
    · obtain ⟨h1, h2⟩ := andE h
      obtain ⟨hl, hr⟩ := eqL_le h2
      refine ⟨by simp [hl], fun i x hx => ?_⟩
      cases i with
      | zero => simp only [nth, Option.some.injEq] at hx; subst hx; exact ⟨v, rfl, eqV_le h1⟩
      | succ i => exact hr i x hx
    · simp at h
end

def eqB : Blk → Blk → Bool
  | .box cs, y => match y with | .box cs' => eqL cs cs' | _ => false
  | .row s n el ow, y => match y with | .row s' n' el' ow' => Nat.beq s s' && (Nat.beq n n' && allB (fun i => allB (fun j => decide (ow i j = ow' i j) && eqP (el i j) (el' i j)) s) n) | _ => false
  | .mp _ _ _, _ => false
  | .mat _ _ _, _ => false

theorem eqB_le {w : World} {O : Nat → Own} {ad : List Nat} {k : Nat} {x : Obj} {a b : Blk} (h : eqB a b = true) (hx : ObjRel w O ad k x a) : ObjRel w O ad k x b := by
  unfold eqB at h
  split at h
  · split at h
    · rename_i cs _ cs'
      obtain ⟨hl, hr⟩ := eqL_le h
      cases x with
      | cells arr ty fz =>
        refine ⟨hx.1, hx.2.1.trans hl, fun i y hy => ?_⟩
        obtain ⟨z, hz, hzy⟩ := hr i y hy
        exact hzy _ _ _ _ _ (hx.2.2 i z hz)
      | _ => exact hx.elim
    · simp at h
  · split at h
    · rename_i s n el ow _ s' n' el' ow'
      obtain ⟨h1, k1⟩ := andE h
      obtain ⟨h2, k2⟩ := andE k1
      obtain rfl := beqE h1
      obtain rfl := beqE h2
      cases x with
      | cells arr ty fz => exact ⟨hx.1, hx.2.1, fun i hi j hj => by
          have h3 := allB2 k2 hi hj
          have e : eqV (.pv (ow i j) (el i j)) (.pv (ow' i j) (el' i j)) = true := by unfold eqV; exact h3
          exact eqV_le e _ _ _ _ _ (hx.2.2 i hi j hj)⟩
      | _ => exact hx.elim
    · simp at h
  · simp at h
  · simp at h

theorem eqB_ghost {a b : Blk} (h : eqB a b = true) (hg : a.ghost) : b.ghost := by
  unfold eqB at h
  split at h
  · exact hg.elim
  · split at h
    · obtain ⟨h1, k1⟩ := andE h
      obtain ⟨h2, k2⟩ := andE k1
      obtain rfl := beqE h2
      exact hg
    · simp at h
  · exact hg.elim
  · exact hg.elim

def eqH : List Blk → List Blk → Bool
  | [], y => match y with | [] => true | _ => false
  | x :: r, y => match y with | x' :: r' => eqB x x' && eqH r r' | [] => false

theorem eqH_len : ∀ {l m : List Blk}, eqH l m = true → l.length = m.length
  | [], m, h => by unfold eqH at h; split at h <;> first | rfl | simp at h
  | v :: r, m, h => by
    unfold eqH at h; split at h
    · simp [eqH_len (andE h).2]
    · simp at h

theorem eqH_nth : ∀ {l m : List Blk}, eqH l m = true → ∀ i x, nth m i = some x → ∃ y, nth l i = some y ∧ eqB y x = true
  | [], m, h => by
    unfold eqH at h; split at h
    · exact fun i x hx => by simp [nth] at hx
    · simp at h
  | v :: r, m, h => by
    unfold eqH at h; split at h
    · intro i x hx
      cases i with
      | zero => simp only [nth, Option.some.injEq] at hx; subst hx; exact ⟨v, rfl, (andE h).1⟩
      | succ i => exact eqH_nth (andE h).2 i x hx
    · simp at h

def eqE : List (Nat × AVal) → List (Nat × AVal) → Bool
  | [], y => match y with | [] => true | _ => false
  | (d, v) :: r, y => match y with | (d', v') :: r' => Nat.beq d d' && (eqV v v' && eqE r r') | [] => false

theorem eqE_get : ∀ {l m : List (Nat × AVal)}, eqE l m = true → ∀ d, Vsame (get l d) (get m d)
  | [], m, h => by
    unfold eqE at h; split at h
    · exact fun d _ _ _ _ _ h => h
    · simp at h
  | (d, v) :: r, m, h => by
    unfold eqE at h; split at h
    · obtain ⟨h1, k1⟩ := andE h
      obtain ⟨h2, h3⟩ := andE k1
      obtain rfl := beqE h1
      intro t
      simp only [get]
      cases Nat.beq d t with
      | true => exact eqV_le h2
      | false => exact eqE_get h3 t
    · simp at h

/-- states that tell the same -/
def sameSt (s s' : St) : Prop := need (Nat.beq s.nt s'.nt && (Nat.beq s.nb s'.nb && (eqE s.env s'.env && eqH s.heap s'.heap))) (s.pin = s'.pin ∧ True)

theorem sameSt_le {s s' : St} (h : sameSt s s') : Le s s' := by
  obtain ⟨h, hp, _⟩ := needE h
  obtain ⟨h1, k1⟩ := andE h
  obtain ⟨h2, k2⟩ := andE k1
  obtain ⟨h3, h4⟩ := andE k2
  have h1 := beqE h1
  have h2 := beqE h2
  intro a w O ad hS
  refine ⟨O, ad, ⟨⟨by rw [← h1]; exact hS.env.1, fun d => eqE_get h3 d _ _ _ _ _ (hS.env.2 d)⟩, fun k b hb => ?_, by rw [← eqH_len h4]; exact hS.len, fun k hk => by rw [← hp]; exact hS.pin k (by rw [h2]; exact hk), hS.dn, hS.fresh⟩, Step.refl w O⟩
  obtain ⟨c, hc, hcb⟩ := eqH_nth h4 k b hb
  obtain ⟨d, g1, ⟨g2, hg⟩ | ⟨B, x, rfl, g2, g3, g4⟩⟩ := hS.heap k c hc
  · exact ⟨d, g1, .inl ⟨g2, eqB_ghost hcb hg⟩⟩
  · exact ⟨B + 1, g1, .inr ⟨B, x, rfl, g2, g3, eqB_le hcb g4⟩⟩

theorem Le.trans {s s' s'' : St} (h : Le s s') (k : Le s' s'') : Le s s'' := fun a w O ad hS => by
  obtain ⟨O1, ad1, h1, h2⟩ := h a w O ad hS
  obtain ⟨O2, ad2, h3, h4⟩ := k a w O1 ad1 h1
  exact ⟨O2, ad2, h3, h2.trans h4⟩

def refsE : List (Nat × AVal) → List Nat
  | [] => []
  | (_, v) :: r => appN (refsV v) (refsE r)

def keysIn (e : List (Nat × AVal)) : Nat → List Nat
  | 0 => []
  | n + 1 => bif memN n (keysE e) then n :: keysIn e n else keysIn e n

/-- what is left of a state that tells what temporaries lead to -/
def canonE (st : St) : St := St.only (some (keysIn st.env st.nt)) st
def canonL (st : St) : List Nat := reach st.heap 2000 (refsE st.env) (seqN 0 st.nb)
/-- the state, its memory numbered as it is led to -/
def canonK (st : St) (K : St → Prop) : Prop :=
  (fun s => (fun ks => need (uniqN ks && (pickOk (fun k => memN k ks) s.heap ks && (okE (fun k => memN k ks) s.env && pinOk ks s.nb))) (K (permSt ks s))) (canonL s)) (canonE st)

theorem canonK_le {st : St} {K : St → Prop} (h : canonK st K) : ∃ s, Le st s ∧ K s := by
  obtain ⟨h1, h2⟩ := needE h
  exact ⟨_, (only_le _ st).trans (Le.perm _ h1 rfl), h2⟩

end Go.Proofs.Ytgghnfmabphbmaa.Fw
