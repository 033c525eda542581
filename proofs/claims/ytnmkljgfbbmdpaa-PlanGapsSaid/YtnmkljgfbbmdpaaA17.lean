/- Words for specifications of functions. -/
import Derived.Test.YtnmkljgfbbmdpaaA16
import Derived.KernelRfl
namespace Go.Proofs.Ytnmkljgfbbmdpaa.Fw
open Go
set_option linter.unusedVariables false

/-- A loop over data x of which p holds. -/
theorem LoopK.for {R : (Exit → St → Prop) → St → Prop} {Q : Exit → St → Prop} {st : St} {X : Type} (live liveX : List Nat) (n : Nat) (I : X → St) (p : X → Prop) (μ : X → Nat) (x0 : X) (Rr : St → Prop)
    (hR : Q .ret = Rr) (h0 : Le st (I x0)) (hp : p x0)
    (h : ∀ x, p x → R (cutQ live liveX n (fun s => ∃ y, p y ∧ Le s (I y) ∧ μ y < μ x) (fun id s => Q (.exit id) s) Rr) (I x)) : LoopK R Q st := by
  subst hR
  refine ⟨{x // p x}, fun x => I x.1, fun x => μ x.1, ⟨x0, hp⟩, fun x => cutQ live liveX n (fun s => ∃ y, p y ∧ Le s (I y) ∧ μ y < μ x.1) (fun id s => Q (.exit id) s) (Q .ret), h0, fun x st' hn => ?_, fun x e st' he hq => ?_, fun x => h x.1 x.2⟩
  · obtain ⟨h1, y, h2, h3, h4⟩ := needE hn
    refine ⟨⟨y, h2⟩, fun a w O ad hS => ?_, h4⟩
    obtain ⟨O1, ad1, g1, g2⟩ := cut_le h1 a w O ad hS
    obtain ⟨O2, ad2, g3, g4⟩ := h3 a w O1 ad1 g1
    exact ⟨O2, ad2, g3, g2.trans g4⟩
  · cases e with
    | normal => exact absurd rfl he
    | exit id =>
      obtain ⟨h1, h2⟩ := needE hq
      exact ⟨_, cut_le h1, h2⟩
    | ret => exact ⟨st', Le.refl _, hq⟩
    | goto l => exact hq.elim
    | panic c => exact hq.elim
    | outgrown => exact hq.elim

theorem Le.of_eq {st st' : St} (h : st = st') : Le st st' := h ▸ Le.refl st

/-- the same heap, temporaries that tell less -/
theorem Le.env {nt : Nat} {e e' : List (Nat × AVal)} {H : List Blk} {nb : Nat} {pin : Nat → Nat} (h : EnvLe e e') : Le ⟨nt, e, H, nb, pin⟩ ⟨nt, e', H, nb, pin⟩ := fun a w O ad hS =>
  ⟨O, ad, ⟨⟨hS.env.1, fun d => by
    show VRel w O ad (.tmp d) (get e' d) _
    rcases h d with h | h
    · rw [h]; exact .undef _
    · exact h w O ad _ _ (by simp) (hS.env.2 d)⟩, hS.heap, hS.len, hS.pin, hS.dn, hS.fresh⟩, Step.refl w O⟩

/-- one temporary tells less; the others are as they were -/
theorem EnvLe.same {d : Nat} {v : AVal} {e r : List (Nat × AVal)} (hg : get e d = v) (hr : EnvLe e r) : EnvLe e ((d, v) :: r) := EnvLe.cons (hg ▸ Vle.refl _) hr

theorem CallOK.callT {P : Program} {α : Type} {emb : α → AVal} {f : Nat} {args : List AVal} {k : α → Prop} {y : α} (h : CallOK P f args [] fun r _ => r = emb y) (hk : k y) : CallT P (sh α emb) f args [] k :=
  CallG.mono h.g fun r _ ⟨hr, hl⟩ => ⟨y, hr, fun h => by simp at h, fun _ => List.length_eq_zero_iff.1 hl, hk⟩

theorem CallOK.callM {P : Program} {α : Type} {emb : α → AVal} {mem : α → List Blk} {f : Nat} {args : List AVal} {L : List Blk} {k : α → Prop} {y : α} (h : CallOK P f args L fun r L' => r = emb y ∧ L' = mem y) (hk : k y) : CallT P (shm α emb mem) f args L k :=
  CallG.mono h.g fun r _ ⟨hr, _⟩ => ⟨y, hr.1, fun _ => hr.2, fun h => by simp at h, hk⟩

/-- whatever a tells of an argument is told by b, too -/
def Alen (a b : AVal) : Prop := ∀ w O ad v, VRel w O ad .no a v → VRel w O ad .no b v

theorem Alen.refl (a : AVal) : Alen a a := fun _ _ _ _ h => h

theorem Alen.pv {a b : PV} {o : Bool} (h : Ple a b) : Alen (.pv o a) (.pv false b) := fun w O ad v hv => .pv (h w O v (prel_of hv))

inductive AlenL : List AVal → List AVal → Prop
  | nil : AlenL [] []
  | cons {a b : AVal} {x y : List AVal} (h : Alen a b) (hr : AlenL x y) : AlenL (a :: x) (b :: y)

theorem AlenL.same {a : AVal} {x y : List AVal} (hr : AlenL x y) : AlenL (a :: x) (a :: y) := .cons (.refl a) hr

theorem AlenL.refl : ∀ (x : List AVal), AlenL x x
  | [] => .nil
  | _ :: r => .same (AlenL.refl r)

theorem AlenL.len {x y : List AVal} (h : AlenL x y) : y.length = x.length := by
  induction h with
  | nil => rfl
  | cons _ _ ih => simp [ih]

theorem AlenL.nth {x y : List AVal} (h : AlenL x y) : ∀ {i : Nat} {b : AVal}, Fw.nth y i = some b → ∃ a, Fw.nth x i = some a ∧ Alen a b := by
  induction h with
  | nil => intro i b hb; simp [Fw.nth] at hb
  | @cons a c _ _ h hr ih =>
    intro i b hb
    cases i with
    | zero => simp [Fw.nth] at hb; subst hb; exact ⟨a, rfl, h⟩
    | succ i => exact ih (i := i) (by simpa [Fw.nth] using hb)

theorem Alen.agg {x y : List AVal} (h : AlenL x y) : Alen (.agg x) (.agg y) := fun w O ad v hv => by
  cases hv with
  | agg arr hs hr =>
    refine .agg arr (by rw [h.len]; exact hs) (fun i b hb => ?_)
    obtain ⟨a, h1, h2⟩ := h.nth hb
    exact h2 _ _ _ _ (hr i a h1)

theorem CallOK.args {P : Program} {f : Nat} {args args' : List AVal} {L : List Blk} {K : AVal → List Blk → Prop} (hc : CallOK P f args' L K) (h : AlenL args args') : CallOK P f args L K :=
  ⟨hc.1, fun w O ad vs h1 h2 h3 h4 h5 => hc.2 w O ad vs (by rw [h.len]; exact h1) (fun i b hb => by
    obtain ⟨a, g1, g2⟩ := h.nth hb
    exact g2 _ _ _ _ (h2 i a g1)) h3 h4 h5⟩

/-- A result may be told less of. -/
theorem CallOK.le {P : Program} {f : Nat} {args : List AVal} {L : List Blk} {y : AVal} (h : CallOK P f args L fun r _ => Vle r y) : CallOK P f args L fun r _ => r = y :=
  ⟨h.1, fun w O ad vs h1 h2 h3 h4 h5 => (h.2 w O ad vs h1 h2 h3 h4 h5).mono fun e w' ⟨r, rv, O', L', g1, g2, g3, g4, g5⟩ => ⟨y, rv, O', L', g1, rfl, g3, g2 _ _ _ _ _ (by simp) g4, g5⟩⟩

theorem Vle.tup {x y : List AVal} (h : y.length = x.length) (hr : ∀ i b, Fw.nth y i = some b → ∃ a, Fw.nth x i = some a ∧ Vle a b ∧ Alen a b) : Vle (.tup x) (.tup y) := fun w O ad p v hp hv => by
  cases hv with
  | tup arr hs hr' =>
    refine .tup arr (by rw [h]; exact hs) (fun i b hb => ?_)
    obtain ⟨a, h1, h2, h3⟩ := hr i b hb
    by_cases e : p.sub i = .no
    · have := hr' i a h1
      rw [e] at this ⊢
      exact h3 _ _ _ _ this
    · exact h2 _ _ _ _ _ e (hr' i a h1)

theorem Ple.trans {a b c : PV} (h : Ple a b) (k : Ple b c) : Ple a c := fun w O v hv => k w O v (h w O v hv)
theorem Ple.of_eq {a b : PV} (h : a = b) : Ple a b := h ▸ Ple.refl a

theorem Ple.lst' {s n : Nat} {nf nf' : NF} {e e' : Nat → Nat → PV} (hnf : nf' = nf ∨ nf' = .any) (h : ∀ i, i < n → ∀ j, j < s → Ple (e i j) (e' i j)) : Ple (.lst s nf n e) (.lst s nf' n e') := fun w O v hv => by
  cases hv with
  | lst vals hc hr hcap hf hn =>
    refine .lst vals hc (fun i hi j hj => h i hi j hj _ _ _ (hr i hi j hj)) hcap (fun hh => hf ?_) ?_
    · rcases hnf with rfl | rfl
      · exact hh
      · simp at hh
    · rcases hnf with rfl | rfl
      · exact hn
      · simp
  | lstNil hn hn' =>
    refine .lstNil ?_ ?_
    · rcases hnf with rfl | rfl
      · exact hn
      · simp
    · rcases hnf with rfl | rfl
      · exact hn'
      · simp
  | lstE b hn =>
    refine .lstE b ?_
    rcases hnf with rfl | rfl
    · exact hn
    · simp

theorem br_dec {p : Prop} [Decidable p] {A B : Prop} (h1 : p → A) (h2 : ¬p → B) : br (decide p) A B :=
  br_mk (fun h => h1 (of_decide_eq_true h)) (fun h => h2 (of_decide_eq_false h))

theorem need_mk {b : Bool} {K : Prop} (h : b = true) (k : K) : need b K := need_iff.2 ⟨h, k⟩

theorem br_not {b : Bool} {A B : Prop} (h1 : b = false → A) (h2 : b = true → B) : br (!b) A B :=
  br_mk (fun h => h1 (by simpa using h)) (fun h => h2 (by simpa using h))

theorem br_ndec {p : Prop} [Decidable p] {A B : Prop} (h1 : ¬p → A) (h2 : p → B) : br (!decide p) A B :=
  br_mk (fun h => h1 (by simpa using h)) (fun h => h2 (by simpa using h))

/-- a block that tells less -/
def Ble (b b' : Blk) : Prop :=
  match b, b' with
  | .row s n el ow, .row s' n' el' ow' => s' = s ∧ n' = n ∧ ∀ i, i < n → ∀ j, j < s → Vle (.pv (ow i j) (el i j)) (.pv (ow' i j) (el' i j))
  | .box cs, .box cs' => cs'.length = cs.length ∧ ∀ i y, Fw.nth cs' i = some y → ∃ x, Fw.nth cs i = some x ∧ Vle x y
  | b, b' => b = b'

theorem Ble.refl : ∀ (b : Blk), Ble b b
  | .row s n el ow => ⟨rfl, rfl, fun _ _ _ _ => Vle.refl _⟩
  | .box cs => ⟨rfl, fun i y hy => ⟨y, hy, Vle.refl _⟩⟩
  | .mp _ _ _ => rfl

theorem Ble.rel {w : World} {O : Nat → Own} {ad : List Nat} {k : Nat} {x : Obj} {b b' : Blk} (hb : Ble b b') (h : ObjRel w O ad k x b) : ObjRel w O ad k x b' := by
  cases b with
  | row s n el ow =>
    cases b' with
    | row s' n' el' ow' =>
      obtain ⟨rfl, rfl, hv⟩ := hb
      cases x with
      | cells arr ty fz =>
        obtain ⟨h0, h1, h2⟩ : fz = (0, 0) ∧ BlkRel w O ad k arr (.row s' n' el ow) := h
        exact ⟨h0, h1, fun i hi j hj => hv i hi j hj _ _ _ _ _ (by simp) (h2 i hi j hj)⟩
      | _ => exact h.elim
    | _ => cases hb
  | box cs =>
    cases b' with
    | box cs' =>
      cases x with
      | cells arr ty fz =>
        obtain ⟨h0, h1, h2⟩ : fz = (0, 0) ∧ BlkRel w O ad k arr (.box cs) := h
        refine ⟨h0, by rw [h1, hb.1], fun i y hy => ?_⟩
        obtain ⟨z, hz, hv⟩ := hb.2 i y hy
        exact hv _ _ _ _ _ (by simp) (h2 i z hz)
      | _ => exact h.elim
    | _ => cases hb
  | mp q has val =>
    cases b' with
    | mp q' has' val' => cases hb; exact h
    | _ => cases hb

inductive HeapLe : List Blk → List Blk → Prop
  | nil : HeapLe [] []
  | cons {b b' : Blk} {H H' : List Blk} (h : Ble b b') (hr : HeapLe H H') : HeapLe (b :: H) (b' :: H')

theorem HeapLe.same {b : Blk} {H H' : List Blk} (hr : HeapLe H H') : HeapLe (b :: H) (b :: H') := .cons (.refl b) hr

theorem HeapLe.refl : ∀ (H : List Blk), HeapLe H H
  | [] => .nil
  | _ :: r => .same (HeapLe.refl r)

theorem HeapLe.nth {H H' : List Blk} (h : HeapLe H H') : ∀ {k : Nat} {b' : Blk}, Fw.nth H' k = some b' → ∃ b, Fw.nth H k = some b ∧ Ble b b' := by
  induction h with
  | nil => intro k b' h; simp [Fw.nth] at h
  | @cons b c _ _ h hr ih =>
    intro k b' hk
    cases k with
    | zero => simp [Fw.nth] at hk; subst hk; exact ⟨b, rfl, h⟩
    | succ k => exact ih (k := k) (by simpa [Fw.nth] using hk)

theorem HeapLe.len {H H' : List Blk} (h : HeapLe H H') : H'.length = H.length := by
  induction h with
  | nil => rfl
  | cons _ _ ih => simp [ih]

/-- temporaries and memory that tell less -/
theorem Le.all {st st' : St} (hn : st'.nt = st.nt) (hb : st'.nb = st.nb) (hp : st'.pin = st.pin) (he : EnvLe st.env st'.env) (hh : HeapLe st.heap st'.heap) : Le st st' := fun a w O ad hS =>
  ⟨O, ad, ⟨⟨hS.env.1.trans hn.symm, fun d => by
    rcases he d with h | h
    · rw [h]; exact .undef _
    · exact h w O ad _ _ (by simp) (hS.env.2 d)⟩, fun k b hk => by
      obtain ⟨c, hc, hbl⟩ := hh.nth hk
      obtain ⟨B, x, h1, h2, h3, h4⟩ := hS.heap k c hc
      exact ⟨B, x, h1, h2, h3, hbl.rel h4⟩, by rw [hh.len]; exact hS.len, fun k hk => by rw [hb] at hk; rw [hp]; exact hS.pin k hk, hS.dn, hS.fresh⟩, Step.refl w O⟩

theorem EnvLe.refl (e : List (Nat × AVal)) : EnvLe e e := fun _ => .inr (Vle.refl _)

/-- whatever a tells is told by b, wherever it stands -/
def Wle (a b : AVal) : Prop := ∀ w O ad p v, VRel w O ad p a v → VRel w O ad p b v

theorem Wle.refl (a : AVal) : Wle a a := fun _ _ _ _ _ h => h
theorem Wle.pv {a b : PV} {o : Bool} (h : Ple a b) : Wle (.pv o a) (.pv false b) := fun w O ad p v hv => .pv (h w O v (prel_of hv))
theorem Wle.vle {a b : AVal} (h : Wle a b) : Vle a b := fun w O ad p v _ hv => h w O ad p v hv

inductive WleL : List AVal → List AVal → Prop
  | nil : WleL [] []
  | cons {a b : AVal} {x y : List AVal} (h : Wle a b) (hr : WleL x y) : WleL (a :: x) (b :: y)

theorem WleL.same {a : AVal} {x y : List AVal} (hr : WleL x y) : WleL (a :: x) (a :: y) := .cons (.refl a) hr

theorem WleL.refl : ∀ (x : List AVal), WleL x x
  | [] => .nil
  | _ :: r => .same (WleL.refl r)

theorem WleL.len {x y : List AVal} (h : WleL x y) : y.length = x.length := by
  induction h with
  | nil => rfl
  | cons _ _ ih => simp [ih]

theorem WleL.nth {x y : List AVal} (h : WleL x y) : ∀ {i : Nat} {b : AVal}, Fw.nth y i = some b → ∃ a, Fw.nth x i = some a ∧ Wle a b := by
  induction h with
  | nil => intro i b hb; simp [Fw.nth] at hb
  | @cons a c _ _ h hr ih =>
    intro i b hb
    cases i with
    | zero => simp [Fw.nth] at hb; subst hb; exact ⟨a, rfl, h⟩
    | succ i => exact ih (i := i) (by simpa [Fw.nth] using hb)

theorem Wle.agg {x y : List AVal} (h : WleL x y) : Wle (.agg x) (.agg y) := fun w O ad p v hv => by
  cases hv with
  | agg arr hs hr =>
    refine .agg arr (by rw [h.len]; exact hs) (fun i b hb => ?_)
    obtain ⟨a, h1, h2⟩ := h.nth hb
    exact h2 _ _ _ _ _ (hr i a h1)

theorem Wle.tup {x y : List AVal} (h : WleL x y) : Wle (.tup x) (.tup y) := fun w O ad p v hv => by
  cases hv with
  | tup arr hs hr =>
    refine .tup arr (by rw [h.len]; exact hs) (fun i b hb => ?_)
    obtain ⟨a, h1, h2⟩ := h.nth hb
    exact h2 _ _ _ _ _ (hr i a h1)

/-- what a value tells when row k is not written any more -/
def FrzV (k s m : Nat) (el : Nat → Nat → PV) (x y : AVal) : Prop :=
  (∃ o n, x = .arr k s o n ∧ o + n ≤ m ∧ y = .pv false (.lst s .any n fun i j => el (o + i) j)) ∨ (y = x ∧ okV (fun k' => !Nat.beq k' k) x = true) ∨ y = .undef

def FrzB (k s m : Nat) (el : Nat → Nat → PV) (b b' : Blk) : Prop :=
  (b' = b ∧ okB (fun k' => !Nat.beq k' k) b = true) ∨ ∃ cs cs', b = .box cs ∧ b' = .box cs' ∧ cs'.length = cs.length ∧ ∀ i y, Fw.nth cs' i = some y → ∃ x, Fw.nth cs i = some x ∧ FrzV k s m el x y

/-- The last row is not written any more. -/
theorem Le.freeze {st st' : St} {k s m : Nat} {el : Nat → Nat → PV} {ow : Nat → Nat → Bool} (hk : nth st.heap k = some (.row s m el ow)) (hl : k + 1 = st.heap.length) (hnb : st.nb ≤ k) (hn : st'.nt = st.nt) (hb : st'.nb = st.nb) (hp : st'.pin = st.pin)
    (henv : ∀ d, FrzV k s m el (get st.env d) (get st'.env d)) (hlen : st'.heap.length = k) (hheap : ∀ i b', nth st'.heap i = some b' → ∃ b, nth st.heap i = some b ∧ FrzB k s m el b b') : Le st st' := by
  intro a w O ad hS
  obtain ⟨B, arr, ty, h1, h2, h3, h4, h5⟩ := hS.heap.cells hk rfl
  have hlt : B < w.heap.size := (Array.getElem?_eq_some_iff.1 h3).1
  have hne : ∀ C, C ≠ B → upd O B .free C = O C := fun C h => upd_ne _ _ h
  have him : ∀ C o, C < w.heap.size → im O C o → im (upd O B .free) C o := fun C o _ hi => by
    by_cases e : C = B
    · subst e; simp [im, upd_same]
    · unfold im at hi ⊢; rw [hne C e]; exact hi
  have hlst : ∀ C p fill, O C = .lst p fill → upd O B .free C = .lst p fill := fun C p fill h => by
    rw [hne C (by rintro rfl; rw [h2] at h; simp at h)]; exact h
  have had : ∀ k' B', (!Nat.beq k' k) = true → nth ad k' = some B' → nth (ad.take k) k' = some B' := fun k' B' ha hb => by
    have hlt := nth_lt hb
    have hne : k' ≠ k := fun e => by subst e; simp at ha
    rw [hS.len, ← hl] at hlt
    rw [nth_take, if_pos (by omega)]; exact hb
  have keep : ∀ {p : Pos} {x : AVal} {v : Value}, VRel w O ad p x v → okV (fun k' => !Nat.beq k' k) x = true → VRel w (upd O B .free) (ad.take k) p x v := fun {p x v} h hx => by
    have := h.renum (g := fun k => k) (ok := fun k' => !Nat.beq k' k) (ad' := ad.take k) (O' := upd O B .free) him had p (fun hn => ⟨hn, fun C fill hC => hlst C _ _ hC⟩) (fun i hn => ⟨hn, fun C fill hC => hlst C _ _ hC⟩) hx
    rwa [renV_id] at this
  have frz : ∀ {p : Pos} {x y : AVal} {v : Value}, FrzV k s m el x y → VRel w O ad p x v → VRel w (upd O B .free) (ad.take k) p y v := fun {p x y v} hf h => by
    rcases hf with ⟨o, n, rfl, hle, rfl⟩ | ⟨rfl, hx⟩ | rfl
    · cases h with
      | @arr _ _ _ _ _ B' cap hk' hc _ =>
        rw [h1] at hk'; obtain rfl := Option.some.inj hk'
        refine .pv (.lst (fun i j => arr.getD ((o + i) * s + j) undef) (fun i hi j hj => ⟨?_, by simp [im, upd_same]⟩) (fun i hi j hj => ?_) hc (by simp) (by simp))
        · have hl2 : (o + i) * s + j < arr.size := Nat.lt_of_lt_of_le (idx_lt (n := m) (by omega) hj) h4
          rw [show o * s + i * s + j = (o + i) * s + j by rw [Nat.add_mul]]
          exact cell_of_block' h3 hl2
        · exact (prel_of (h5 (o + i) (by omega) j hj)).change fun C q hC hi => ⟨him C q hC hi, rfl⟩
    · exact keep h hx
    · exact .undef _
  refine ⟨upd O B .free, ad.take k, ⟨⟨hS.env.1.trans hn.symm, fun d => frz (henv d) (hS.env.2 d)⟩, fun i b' hb' => ?_, by rw [hlen, List.length_take, hS.len, ← hl]; omega, fun k' hk' => ?_, hS.dn, fun C hC => ?_⟩,
    ⟨fun _ arr _ _ h => ⟨arr, h, rfl⟩, rfl, rfl, rfl, Nat.le_refl _, fun C o hC hi => ⟨him C o hC hi, rfl⟩, fun C _ hf => ⟨hne C (by rintro rfl; rw [h2] at hf; exact hf.elim), rfl⟩, fun C j _ hj => ?_⟩⟩
  · obtain ⟨b, hbk, hfb⟩ := hheap i b' hb'
    have hi : i < k := by have := nth_lt hb'; omega
    obtain ⟨B2, x, g1, g2, g3, g4⟩ := hS.heap i b hbk
    have hB2 : B2 ≠ B := by rintro rfl; rw [h2] at g2; simp at g2; omega
    refine ⟨B2, x, by rw [nth_take, if_pos hi]; exact g1, by rw [hne B2 hB2]; exact g2, g3, ?_⟩
    rcases hfb with ⟨rfl, hok⟩ | ⟨cs, cs', rfl, rfl, hl2, hcs⟩
    · have := g4.ren (g := fun k => k) (ok := fun k' => !Nat.beq k' k) (ad' := ad.take k) (O' := upd O B .free) (k' := i) him had (fun a b _ => ⟨by simp, fun C fill hC => hlst C _ _ hC⟩) hok
      have e : renB (fun k => k) b' = b' := by cases b' <;> simp [renB, renL_id]
      rwa [e] at this
    · cases x with
      | cells arr2 ty2 fz =>
        obtain ⟨q0, q1, q2⟩ : fz = (0, 0) ∧ BlkRel w O ad i arr2 (.box cs) := g4
        refine ⟨q0, by rw [q1, hl2], fun j y hy => ?_⟩
        obtain ⟨z, hz, hf⟩ := hcs j y hy
        exact frz hf (q2 j z hz)
      | _ => exact g4.elim
  · rw [hb] at hk'
    rw [hp, nth_take, if_pos (by omega)]; exact hS.pin k' hk'
  · rw [hne C (by rintro rfl; omega)]; exact hS.fresh C hC
  · by_cases e : C = B
    · subst e; exact .inr (upd_same _ _ _)
    · exact .inl ⟨j, by rw [hne C e]; exact hj⟩

end Go.Proofs.Ytnmkljgfbbmdpaa.Fw
