/- Words for specifications of functions. -/
import Derived.Test.YtgghnfmabphbmaaA16
import Derived.KernelRfl
namespace Go.Proofs.Ytgghnfmabphbmaa.Fw
open Go
set_option linter.unusedVariables false

/-- A loop over data x of which p holds. -/
theorem LoopK.for {R : (Exit → St → Prop) → St → Prop} {Q : Exit → St → Prop} {st : St} {X : Type} (live liveX : List Nat) (n : Nat) (I : X → St) (p : X → Prop) (μ : X → Nat) (x0 : X) (Rr : St → Prop)
    (hR : Q .ret = Rr) (h0 : Le st (I x0)) (hp : p x0)
    (h : ∀ x, p x → R (cutQ live liveX n (fun s => ∃ y, p y ∧ Le s (I y) ∧ μ y < μ x) (fun id s => Q (.exit id) s) Rr) (I x)) : LoopK R Q st := by
  subst hR
  refine ⟨{x // p x}, fun x => I x.1, fun x => μ x.1, ⟨x0, hp⟩, fun x => cutQ live liveX n (fun s => ∃ y, p y ∧ Le s (I y) ∧ μ y < μ x.1) (fun id s => Q (.exit id) s) (Q .ret), h0, fun x st' hn => ?_, fun x e st' he hq => ?_, fun x => h x.1 x.2⟩
  · obtain ⟨h1, y, h2, h3, h4⟩ := needE hn
    refine ⟨⟨y, h2⟩, fun a w O ad hS => ?_, h4⟩
    obtain ⟨O1, ad1, g1, g2⟩ := cut_le h1 a w O ad hS
    obtain ⟨O2, ad2, g3, g4⟩ := h3 a w O1 ad1 g1
    exact ⟨O2, ad2, g3, g2.trans g4⟩
  · cases e with
    | normal => exact absurd rfl he
    | exit id =>
      obtain ⟨h1, h2⟩ := needE hq
      exact ⟨_, cut_le h1, h2⟩
    | ret => exact ⟨st', Le.refl _, hq⟩
    | goto l => exact hq.elim
    | panic c => exact hq.elim
    | outgrown => exact hq.elim

theorem Le.of_eq {st st' : St} (h : st = st') : Le st st' := h ▸ Le.refl st

/-- the same heap, temporaries that tell less -/
theorem Le.env {nt : Nat} {e e' : List (Nat × AVal)} {H : List Blk} {nb : Nat} {pin : Nat → Nat} (h : EnvLe e e') : Le ⟨nt, e, H, nb, pin⟩ ⟨nt, e', H, nb, pin⟩ := fun a w O ad hS =>
  ⟨O, ad, ⟨⟨hS.env.1, fun d => by
    show VRel w O ad (.tmp d) (get e' d) _
    rcases h d with h | h
    · rw [h]; exact .undef _
    · exact h w O ad _ _ (by simp) (hS.env.2 d)⟩, hS.heap, hS.len, hS.pin, hS.dn, hS.fresh⟩, Step.refl w O⟩

/-- one temporary tells less; the others are as they were -/
theorem EnvLe.same {d : Nat} {v : AVal} {e r : List (Nat × AVal)} (hg : get e d = v) (hr : EnvLe e r) : EnvLe e ((d, v) :: r) := EnvLe.cons (hg ▸ Vle.refl _) hr

theorem CallOK.callT {P : Program} {α : Type} {emb : α → AVal} {f : Nat} {args : List AVal} {k : α → Prop} {y : α} (h : CallOK P f args [] fun r _ => r = emb y) (hk : k y) : CallT P (sh α emb) f args [] k :=
  CallG.mono h.g fun r _ ⟨hr, hl⟩ => ⟨y, hr, fun h => by simp at h, fun _ => List.length_eq_zero_iff.1 hl, hk⟩

theorem CallOK.callM {P : Program} {α : Type} {emb : α → AVal} {mem : α → List Blk} {f : Nat} {args : List AVal} {L : List Blk} {k : α → Prop} {y : α} (h : CallOK P f args L fun r L' => r = emb y ∧ L' = mem y) (hk : k y) : CallT P (shm α emb mem) f args L k :=
  CallG.mono h.g fun r _ ⟨hr, _⟩ => ⟨y, hr.1, fun _ => hr.2, fun h => by simp at h, hk⟩

/-- whatever a tells of an argument is told by b, too -/
def Alen (a b : AVal) : Prop := ∀ w O ad v, VRel w O ad .no a v → VRel w O ad .no b v

theorem Alen.refl (a : AVal) : Alen a a := fun _ _ _ _ h => h

theorem Alen.pv {a b : PV} {o : Bool} (h : Ple a b) : Alen (.pv o a) (.pv false b) := fun w O ad v hv => .pv (h w O v (prel_of hv))

inductive AlenL : List AVal → List AVal → Prop
  | nil : AlenL [] []
  | cons {a b : AVal} {x y : List AVal} (h : Alen a b) (hr : AlenL x y) : AlenL (a :: x) (b :: y)

theorem AlenL.same {a : AVal} {x y : List AVal} (hr : AlenL x y) : AlenL (a :: x) (a :: y) := .cons (.refl a) hr

theorem AlenL.refl : ∀ (x : List AVal), AlenL x x
  | [] => .nil
  | _ :: r => .same (AlenL.refl r)

theorem AlenL.len {x y : List AVal} (h : AlenL x y) : y.length = x.length := by
  induction h with
  | nil => rfl
  | cons _ _ ih => simp [ih]

theorem AlenL.nth {x y : List AVal} (h : AlenL x y) : ∀ {i : Nat} {b : AVal}, Fw.nth y i = some b → ∃ a, Fw.nth x i = some a ∧ Alen a b := by
  induction h with
  | nil => intro i b hb; simp [Fw.nth] at hb
  | @cons a c _ _ h hr ih =>
    intro i b hb
    cases i with
    | zero => simp [Fw.nth] at hb; subst hb; exact ⟨a, rfl, h⟩
    | succ i => exact ih (i := i) (by simpa [Fw.nth] using hb)

theorem Alen.agg {x y : List AVal} (h : AlenL x y) : Alen (.agg x) (.agg y) := fun w O ad v hv => by
  cases hv with
  | agg arr hs hr =>
    refine .agg arr (by rw [h.len]; exact hs) (fun i b hb => ?_)
    obtain ⟨a, h1, h2⟩ := h.nth hb
    exact h2 _ _ _ _ (hr i a h1)

theorem CallOK.args {P : Program} {f : Nat} {args args' : List AVal} {L : List Blk} {K : AVal → List Blk → Prop} (hc : CallOK P f args' L K) (h : AlenL args args') : CallOK P f args L K :=
  ⟨hc.1, fun w O ad vs h1 h2 h3 h4 h5 => hc.2 w O ad vs (by rw [h.len]; exact h1) (fun i b hb => by
    obtain ⟨a, g1, g2⟩ := h.nth hb
    exact g2 _ _ _ _ (h2 i a g1)) h3 h4 h5⟩

/-- A result may be told less of. -/
theorem CallOK.le {P : Program} {f : Nat} {args : List AVal} {L : List Blk} {y : AVal} (h : CallOK P f args L fun r _ => Vle r y) : CallOK P f args L fun r _ => r = y :=
  ⟨h.1, fun w O ad vs h1 h2 h3 h4 h5 => (h.2 w O ad vs h1 h2 h3 h4 h5).mono fun e w' ⟨r, rv, O', L', g1, g2, g3, g4, g5⟩ => ⟨y, rv, O', L', g1, rfl, g3, g2 _ _ _ _ _ (by simp) g4, g5⟩⟩

theorem Vle.tup {x y : List AVal} (h : y.length = x.length) (hr : ∀ i b, Fw.nth y i = some b → ∃ a, Fw.nth x i = some a ∧ Vle a b ∧ Alen a b) : Vle (.tup x) (.tup y) := fun w O ad p v hp hv => by
  cases hv with
  | tup arr hs hr' =>
    refine .tup arr (by rw [h]; exact hs) (fun i b hb => ?_)
    obtain ⟨a, h1, h2, h3⟩ := hr i b hb
    by_cases e : p.sub i = .no
    · have := hr' i a h1
      rw [e] at this ⊢
      exact h3 _ _ _ _ this
    · exact h2 _ _ _ _ _ e (hr' i a h1)

theorem Ple.trans {a b c : PV} (h : Ple a b) (k : Ple b c) : Ple a c := fun w O v hv => k w O v (h w O v hv)
theorem Ple.of_eq {a b : PV} (h : a = b) : Ple a b := h ▸ Ple.refl a

theorem Ple.lst' {s n : Nat} {nf nf' : NF} {e e' : Nat → Nat → PV} (hnf : nf' = nf ∨ nf' = .any) (h : ∀ i, i < n → ∀ j, j < s → Ple (e i j) (e' i j)) : Ple (.lst s nf n e) (.lst s nf' n e') := fun w O v hv => by
  cases hv with
  | lst vals hc hr hcap hf hn =>
    refine .lst vals hc (fun i hi j hj => h i hi j hj _ _ _ (hr i hi j hj)) hcap (fun hh => hf ?_) ?_
    · rcases hnf with rfl | rfl
      · exact hh
      · simp at hh
    · rcases hnf with rfl | rfl
      · exact hn
      · simp
  | lstNil hn hn' =>
    refine .lstNil ?_ ?_
    · rcases hnf with rfl | rfl
      · exact hn
      · simp
    · rcases hnf with rfl | rfl
      · exact hn'
      · simp
  | lstE b hn =>
    refine .lstE b ?_
    rcases hnf with rfl | rfl
    · exact hn
    · simp

theorem br_dec {p : Prop} [Decidable p] {A B : Prop} (h1 : p → A) (h2 : ¬p → B) : br (decide p) A B :=
  br_mk (fun h => h1 (of_decide_eq_true h)) (fun h => h2 (of_decide_eq_false h))

theorem need_mk {b : Bool} {K : Prop} (h : b = true) (k : K) : need b K := need_iff.2 ⟨h, k⟩

theorem br_not {b : Bool} {A B : Prop} (h1 : b = false → A) (h2 : b = true → B) : br (!b) A B :=
  br_mk (fun h => h1 (by simpa using h)) (fun h => h2 (by simpa using h))

theorem br_ndec {p : Prop} [Decidable p] {A B : Prop} (h1 : ¬p → A) (h2 : p → B) : br (!decide p) A B :=
  br_mk (fun h => h1 (by simpa using h)) (fun h => h2 (by simpa using h))

/-- a block that tells less -/
def Ble (b b' : Blk) : Prop :=
  match b, b' with
  | .row s n el ow, .row s' n' el' ow' => s' = s ∧ n' = n ∧ ∀ i, i < n → ∀ j, j < s → Vle (.pv (ow i j) (el i j)) (.pv (ow' i j) (el' i j))
  | .box cs, .box cs' => cs'.length = cs.length ∧ ∀ i y, Fw.nth cs' i = some y → ∃ x, Fw.nth cs i = some x ∧ Vle x y
  | .mat n m el, .mat n' m' el' => n' = n ∧ ∀ i, i < n → m' i = m i ∧ ∀ j, j < m i → Ple (el i j) (el' i j)
  | b, b' => b = b'

theorem Ble.refl : ∀ (b : Blk), Ble b b
  | .row s n el ow => ⟨rfl, rfl, fun _ _ _ _ => Vle.refl _⟩
  | .box cs => ⟨rfl, fun i y hy => ⟨y, hy, Vle.refl _⟩⟩
  | .mp _ _ _ => rfl
  | .mat n m el => ⟨rfl, fun _ _ => ⟨rfl, fun _ _ => Ple.refl _⟩⟩

theorem Ble.rel {w : World} {O : Nat → Own} {ad : List Nat} {k : Nat} {x : Obj} {b b' : Blk} (hb : Ble b b') (h : ObjRel w O ad k x b) : ObjRel w O ad k x b' := by
  cases b with
  | row s n el ow =>
    cases b' with
    | row s' n' el' ow' =>
      obtain ⟨rfl, rfl, hv⟩ := hb
      cases x with
      | cells arr ty fz =>
        obtain ⟨h0, h1, h2⟩ : fz = (0, 0) ∧ BlkRel w O ad k arr (.row s' n' el ow) := h
        exact ⟨h0, h1, fun i hi j hj => hv i hi j hj _ _ _ _ _ (by simp) (h2 i hi j hj)⟩
      | _ => exact h.elim
    | _ => cases hb
  | box cs =>
    cases b' with
    | box cs' =>
      cases x with
      | cells arr ty fz =>
        obtain ⟨h0, h1, h2⟩ : fz = (0, 0) ∧ BlkRel w O ad k arr (.box cs) := h
        refine ⟨h0, by rw [h1, hb.1], fun i y hy => ?_⟩
        obtain ⟨z, hz, hv⟩ := hb.2 i y hy
        exact hv _ _ _ _ _ (by simp) (h2 i z hz)
      | _ => exact h.elim
    | _ => cases hb
  | mp q has val =>
    cases b' with
    | mp q' has' val' => cases hb; exact h
    | _ => cases hb
  | mat n m el =>
    cases b' with
    | mat n' m' el' =>
      obtain ⟨rfl, hv⟩ := hb
      cases x with
      | cells arr ty fz =>
        obtain ⟨h0, h1, h2⟩ : fz = (0, 0) ∧ BlkRel w O ad k arr (.mat n' m el) := h
        refine ⟨h0, h1, fun i hi => ?_⟩
        obtain ⟨e1, e2⟩ := hv i hi
        rcases h2 i hi with ⟨g1, g2⟩ | ⟨B, cap, arr2, ty2, g1, g2, g3, g4, g5, g6⟩
        · exact .inl ⟨by rw [e1]; exact g1, g2⟩
        · exact .inr ⟨B, cap, arr2, ty2, by rw [e1]; exact g1, g2, g3, by rw [e1]; exact g4, g5, fun j hj => e2 j (by rw [← e1]; exact hj) w O _ (g6 j (by rw [← e1]; exact hj))⟩
      | _ => exact h.elim
    | _ => cases hb

theorem Ble.ghost {b b' : Blk} (hb : Ble b b') (hg : b.ghost) : b'.ghost := by
  cases b with
  | row s n el ow =>
    cases b' with
    | row s' n' el' ow' =>
      obtain ⟨rfl, rfl, hv⟩ := hb
      exact hg
    | _ => cases hb
  | _ => exact hg.elim

inductive HeapLe : List Blk → List Blk → Prop
  | nil : HeapLe [] []
  | cons {b b' : Blk} {H H' : List Blk} (h : Ble b b') (hr : HeapLe H H') : HeapLe (b :: H) (b' :: H')

theorem HeapLe.same {b : Blk} {H H' : List Blk} (hr : HeapLe H H') : HeapLe (b :: H) (b :: H') := .cons (.refl b) hr

theorem HeapLe.refl : ∀ (H : List Blk), HeapLe H H
  | [] => .nil
  | _ :: r => .same (HeapLe.refl r)

theorem HeapLe.nth {H H' : List Blk} (h : HeapLe H H') : ∀ {k : Nat} {b' : Blk}, Fw.nth H' k = some b' → ∃ b, Fw.nth H k = some b ∧ Ble b b' := by
  induction h with
  | nil => intro k b' h; simp [Fw.nth] at h
  | @cons b c _ _ h hr ih =>
    intro k b' hk
    cases k with
    | zero => simp [Fw.nth] at hk; subst hk; exact ⟨b, rfl, h⟩
    | succ k => exact ih (k := k) (by simpa [Fw.nth] using hk)

theorem HeapLe.len {H H' : List Blk} (h : HeapLe H H') : H'.length = H.length := by
  induction h with
  | nil => rfl
  | cons _ _ ih => simp [ih]

theorem HeapLe.rel {H H' : List Blk} (hh : HeapLe H H') {w : World} {O : Nat → Own} {ad : List Nat} (h : HeapRel w O ad H) : HeapRel w O ad H' := fun k b hk => by
  obtain ⟨c, hc, hbl⟩ := hh.nth hk
  obtain ⟨d, h1, ⟨h2, hg⟩ | ⟨B, x, rfl, h2, h3, h4⟩⟩ := h k c hc
  · exact ⟨d, h1, .inl ⟨h2, hbl.ghost hg⟩⟩
  · exact ⟨B + 1, h1, .inr ⟨B, x, rfl, h2, h3, hbl.rel h4⟩⟩

/-- temporaries and memory that tell less -/
theorem Le.all {st st' : St} (hn : st'.nt = st.nt) (hb : st'.nb = st.nb) (hp : st'.pin = st.pin) (he : EnvLe st.env st'.env) (hh : HeapLe st.heap st'.heap) : Le st st' := fun a w O ad hS =>
  ⟨O, ad, ⟨⟨hS.env.1.trans hn.symm, fun d => by
    rcases he d with h | h
    · rw [h]; exact .undef _
    · exact h w O ad _ _ (by simp) (hS.env.2 d)⟩, fun k b hk => by
      obtain ⟨c, hc, hbl⟩ := hh.nth hk
      obtain ⟨d, h1, ⟨h2, hg⟩ | ⟨B, x, rfl, h2, h3, h4⟩⟩ := hS.heap k c hc
      · exact ⟨d, h1, .inl ⟨h2, hbl.ghost hg⟩⟩
      · exact ⟨B + 1, h1, .inr ⟨B, x, rfl, h2, h3, hbl.rel h4⟩⟩, by rw [hh.len]; exact hS.len, fun k hk => by rw [hb] at hk; rw [hp]; exact hS.pin k hk, hS.dn, hS.fresh⟩, Step.refl w O⟩

theorem EnvLe.refl (e : List (Nat × AVal)) : EnvLe e e := fun _ => .inr (Vle.refl _)

/-- whatever a tells is told by b, wherever it stands -/
def Wle (a b : AVal) : Prop := ∀ w O ad p v, VRel w O ad p a v → VRel w O ad p b v

theorem Wle.refl (a : AVal) : Wle a a := fun _ _ _ _ _ h => h
theorem Wle.pv {a b : PV} {o : Bool} (h : Ple a b) : Wle (.pv o a) (.pv false b) := fun w O ad p v hv => .pv (h w O v (prel_of hv))
theorem Wle.vle {a b : AVal} (h : Wle a b) : Vle a b := fun w O ad p v _ hv => h w O ad p v hv

inductive WleL : List AVal → List AVal → Prop
  | nil : WleL [] []
  | cons {a b : AVal} {x y : List AVal} (h : Wle a b) (hr : WleL x y) : WleL (a :: x) (b :: y)

theorem WleL.same {a : AVal} {x y : List AVal} (hr : WleL x y) : WleL (a :: x) (a :: y) := .cons (.refl a) hr

theorem WleL.refl : ∀ (x : List AVal), WleL x x
  | [] => .nil
  | _ :: r => .same (WleL.refl r)

theorem WleL.len {x y : List AVal} (h : WleL x y) : y.length = x.length := by
  induction h with
  | nil => rfl
  | cons _ _ ih => simp [ih]

theorem WleL.nth {x y : List AVal} (h : WleL x y) : ∀ {i : Nat} {b : AVal}, Fw.nth y i = some b → ∃ a, Fw.nth x i = some a ∧ Wle a b := by
  induction h with
  | nil => intro i b hb; simp [Fw.nth] at hb
  | @cons a c _ _ h hr ih =>
    intro i b hb
    cases i with
    | zero => simp [Fw.nth] at hb; subst hb; exact ⟨a, rfl, h⟩
    | succ i => exact ih (i := i) (by simpa [Fw.nth] using hb)

theorem Wle.agg {x y : List AVal} (h : WleL x y) : Wle (.agg x) (.agg y) := fun w O ad p v hv => by
  cases hv with
  | agg arr hs hr =>
    refine .agg arr (by rw [h.len]; exact hs) (fun i b hb => ?_)
    obtain ⟨a, h1, h2⟩ := h.nth hb
    exact h2 _ _ _ _ _ (hr i a h1)

theorem Wle.tup {x y : List AVal} (h : WleL x y) : Wle (.tup x) (.tup y) := fun w O ad p v hv => by
  cases hv with
  | tup arr hs hr =>
    refine .tup arr (by rw [h.len]; exact hs) (fun i b hb => ?_)
    obtain ⟨a, h1, h2⟩ := h.nth hb
    exact h2 _ _ _ _ _ (hr i a h1)

/-- slices that are nil, told as empty rows -/
inductive EnvN (k s : Nat) : List (Nat × AVal) → List (Nat × AVal) → Prop
  | nil : EnvN k s [] []
  | same {d : Nat} {v : AVal} {e e' : List (Nat × AVal)} (h : EnvN k s e e') : EnvN k s ((d, v) :: e) ((d, v) :: e')
  | put {d s' : Nat} {o : Bool} {f : Nat → Nat → PV} {e e' : List (Nat × AVal)} (h : EnvN k s e e') : EnvN k s ((d, .pv o (.lst s' .isNil 0 f)) :: e) ((d, .arr k s 0 0) :: e')

inductive CelN (k s : Nat) : List AVal → List AVal → Prop
  | nil : CelN k s [] []
  | same {v : AVal} {e e' : List AVal} (h : CelN k s e e') : CelN k s (v :: e) (v :: e')
  | put {s' : Nat} {o : Bool} {f : Nat → Nat → PV} {e e' : List AVal} (h : CelN k s e e') : CelN k s (.pv o (.lst s' .isNil 0 f) :: e) (.arr k s 0 0 :: e')

inductive HeapN (k s : Nat) : List Blk → List Blk → Prop
  | nil : HeapN k s [] []
  | same {b : Blk} {e e' : List Blk} (h : HeapN k s e e') : HeapN k s (b :: e) (b :: e')
  | box {cs cs' : List AVal} {e e' : List Blk} (hc : CelN k s cs cs') (h : HeapN k s e e') : HeapN k s (.box cs :: e) (.box cs' :: e')

theorem VRel.nilN {w : World} {O : Nat → Own} {ad : List Nat} {p : Pos} {k s s' c : Nat} {o : Bool} {f : Nat → Nat → PV} {v : Value} (hk : Fw.nth ad k = some c) (h : VRel w O ad p (.pv o (.lst s' .isNil 0 f)) v) : VRel w O ad p (.arr k s 0 0) v := by
  cases prel_of h with
  | lst _ _ _ _ _ hn => exact hn.elim
  | lstE _ hn => exact hn.elim
  | lstNil _ _ => exact .arrE hk (.inl rfl)

theorem EnvN.get {k s : Nat} {e e' : List (Nat × AVal)} (h : EnvN k s e e') {w : World} {O : Nat → Own} {ad : List Nat} {c : Nat} (hk : Fw.nth ad k = some c) {p : Pos} {v : Value} (d : Nat) (hv : VRel w O ad p (Fw.get e d) v) : VRel w O ad p (Fw.get e' d) v := by
  induction h with
  | nil => exact hv
  | @same t x _ _ _ ih =>
    simp only [Fw.get] at hv ⊢
    cases hb : Nat.beq t d with
    | true => rw [hb] at hv; exact hv
    | false => rw [hb] at hv; exact ih hv
  | @put t _ _ _ _ _ _ ih =>
    simp only [Fw.get] at hv ⊢
    cases hb : Nat.beq t d with
    | true => rw [hb] at hv; exact hv.nilN hk
    | false => rw [hb] at hv; exact ih hv

theorem CelN.len {k s : Nat} {e e' : List AVal} (h : CelN k s e e') : e'.length = e.length := by
  induction h with
  | nil => rfl
  | same _ ih => simp [ih]
  | put _ ih => simp [ih]

theorem CelN.rel {k s : Nat} {e e' : List AVal} (h : CelN k s e e') {w : World} {O : Nat → Own} {ad : List Nat} {c : Nat} (hk : Fw.nth ad k = some c) : ∀ {p : Nat → Pos} {g : Nat → Value}, (∀ i x, Fw.nth e i = some x → VRel w O ad (p i) x (g i)) → ∀ i x, Fw.nth e' i = some x → VRel w O ad (p i) x (g i) := by
  induction h with
  | nil => intro p g _ i x hx; simp [Fw.nth] at hx
  | same _ ih =>
    intro p g hr i x hx
    cases i with
    | zero => exact hr 0 x hx
    | succ i => exact ih (p := fun i => p (i + 1)) (g := fun i => g (i + 1)) (fun i y hy => hr (i + 1) y hy) i x hx
  | put _ ih =>
    intro p g hr i x hx
    cases i with
    | zero => simp [Fw.nth] at hx; subst hx; exact (hr 0 _ rfl).nilN hk
    | succ i => exact ih (p := fun i => p (i + 1)) (g := fun i => g (i + 1)) (fun i y hy => hr (i + 1) y hy) i x hx

theorem HeapN.len {k s : Nat} {e e' : List Blk} (h : HeapN k s e e') : e'.length = e.length := by
  induction h with
  | nil => rfl
  | same _ ih => simp [ih]
  | box _ _ ih => simp [ih]

theorem HeapN.nth {k s : Nat} {e e' : List Blk} (h : HeapN k s e e') : ∀ {i : Nat} {b' : Blk}, Fw.nth e' i = some b' → ∃ b, Fw.nth e i = some b ∧ (b' = b ∨ ∃ cs cs', b = .box cs ∧ b' = .box cs' ∧ CelN k s cs cs') := by
  induction h with
  | nil => intro i b' hx; simp [Fw.nth] at hx
  | same _ ih =>
    intro i b' hx
    cases i with
    | zero => exact ⟨_, hx, .inl rfl⟩
    | succ i => exact ih (i := i) hx
  | box hc _ ih =>
    intro i b' hx
    cases i with
    | zero => simp [Fw.nth] at hx; subst hx; exact ⟨_, rfl, .inr ⟨_, _, rfl, rfl, hc⟩⟩
    | succ i => exact ih (i := i) hx

/-- Slices that are nil are told as an empty row. -/
theorem Le.ghost {st : St} {k s : Nat} {e' : List (Nat × AVal)} {H' : List Blk} {el : Nat → Nat → PV} {ow : Nat → Nat → Bool} (hk : k = st.heap.length) (he : EnvN k s st.env e') (hh : HeapN k s st.heap H') :
    Le st ⟨st.nt, e', H' ++ [.row s 0 el ow], st.nb, st.pin⟩ := by
  intro a w O ad hS
  have h := hS.pushG s el ow
  have hkk : Fw.nth (ad ++ [0]) k = some 0 := by rw [hk, ← hS.len]; exact nth_last _ _
  refine ⟨O, ad ++ [0], ⟨⟨h.env.1, fun d => he.get hkk d (h.env.2 d)⟩, fun i b hb => ?_, by have := h.len; simp at this ⊢; rw [hh.len]; exact this, h.pin, h.dn, h.fresh⟩, Step.refl w O⟩
  rcases nth_snoc hb with hb | ⟨rfl, rfl⟩
  · obtain ⟨b0, h1, h2⟩ := hh.nth hb
    have h1' : Fw.nth (st.heap ++ [.row s 0 el ow]) i = some b0 := by rw [nth_append, if_pos (nth_lt h1)]; exact h1
    rcases h2 with rfl | ⟨cs, cs', rfl, rfl, hc⟩
    · exact h.heap i _ h1'
    · obtain ⟨d, g1, ⟨_, g2⟩ | ⟨B, x, rfl, g2, g3, g4⟩⟩ := h.heap i _ h1'
      · exact g2.elim
      · refine ⟨B + 1, g1, .inr ⟨B, x, rfl, g2, g3, ?_⟩⟩
        cases x with
        | cells arr ty fz =>
          obtain ⟨q0, q1, q2⟩ : fz = (0, 0) ∧ BlkRel w O (ad ++ [0]) i arr (.box cs) := g4
          exact ⟨q0, by rw [q1, hc.len], hc.rel hkk q2⟩
        | _ => exact g4.elim
  · exact h.heap _ _ (by rw [hh.len]; exact nth_last _ _)

end Go.Proofs.Ytgghnfmabphbmaa.Fw
