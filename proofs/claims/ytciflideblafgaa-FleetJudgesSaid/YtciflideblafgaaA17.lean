/- Words for specifications of functions. -/
import Derived.Test.YtciflideblafgaaA16
import Derived.KernelRfl
namespace Go.Proofs.Ytciflideblafgaa.Fw
open Go
set_option linter.unusedVariables false

/-- A loop over data x of which p holds. -/
theorem LoopK.for {R : (Exit → St → Prop) → St → Prop} {Q : Exit → St → Prop} {st : St} {X : Type} (live liveX : List Nat) (n : Nat) (I : X → St) (p : X → Prop) (μ : X → Nat) (x0 : X) (Rr : St → Prop)
    (hR : Q .ret = Rr) (h0 : Le st (I x0)) (hp : p x0)
    (h : ∀ x, p x → R (cutQ live liveX n (fun s => ∃ y, p y ∧ Le s (I y) ∧ μ y < μ x) (fun id s => Q (.exit id) s) Rr) (I x)) : LoopK R Q st := by
  subst hR
  refine ⟨{x // p x}, fun x => I x.1, fun x => μ x.1, ⟨x0, hp⟩, fun x => cutQ live liveX n (fun s => ∃ y, p y ∧ Le s (I y) ∧ μ y < μ x.1) (fun id s => Q (.exit id) s) (Q .ret), h0, fun x st' hn => ?_, fun x e st' he hq => ?_, fun x => h x.1 x.2⟩
  · obtain ⟨h1, y, h2, h3, h4⟩ := needE hn
    refine ⟨⟨y, h2⟩, fun a w O ad hS => ?_, h4⟩
    obtain ⟨O1, ad1, g1, g2⟩ := cut_le h1 a w O ad hS
    obtain ⟨O2, ad2, g3, g4⟩ := h3 a w O1 ad1 g1
    exact ⟨O2, ad2, g3, g2.trans g4⟩
  · cases e with
    | normal => exact absurd rfl he
    | exit id =>
      obtain ⟨h1, h2⟩ := needE hq
      exact ⟨_, cut_le h1, h2⟩
    | ret => exact ⟨st', Le.refl _, hq⟩
    | goto l => exact hq.elim
    | panic c => exact hq.elim
    | outgrown => exact hq.elim

theorem Le.of_eq {st st' : St} (h : st = st') : Le st st' := h ▸ Le.refl st

/-- the same heap, temporaries that tell less -/
theorem Le.env {nt : Nat} {e e' : List (Nat × AVal)} {H : List Blk} {nb : Nat} {pin : Nat → Nat} (h : EnvLe e e') : Le ⟨nt, e, H, nb, pin⟩ ⟨nt, e', H, nb, pin⟩ := fun a w O ad hS =>
  ⟨O, ad, ⟨⟨hS.env.1, fun d => by
    show VRel w O ad (.tmp d) (get e' d) _
    rcases h d with h | h
    · rw [h]; exact .undef _
    · exact h w O ad _ _ (by simp) (hS.env.2 d)⟩, hS.heap, hS.len, hS.pin, hS.dn, hS.fresh⟩, Step.refl w O⟩

/-- one temporary tells less; the others are as they were -/
theorem EnvLe.same {d : Nat} {v : AVal} {e r : List (Nat × AVal)} (hg : get e d = v) (hr : EnvLe e r) : EnvLe e ((d, v) :: r) := EnvLe.cons (hg ▸ Vle.refl _) hr

theorem CallOK.callT {P : Program} {α : Type} {emb : α → AVal} {f : Nat} {args : List AVal} {k : α → Prop} {y : α} (h : CallOK P f args [] fun r _ => r = emb y) (hk : k y) : CallT P (sh α emb) f args [] k :=
  h.mono fun r _ hr => ⟨y, hr, fun h => by simp at h, hk⟩

theorem CallOK.callM {P : Program} {α : Type} {emb : α → AVal} {mem : α → List Blk} {f : Nat} {args : List AVal} {L : List Blk} {k : α → Prop} {y : α} (h : CallOK P f args L fun r L' => r = emb y ∧ L' = mem y) (hk : k y) : CallT P (shm α emb mem) f args L k :=
  h.mono fun r _ hr => ⟨y, hr.1, fun _ => hr.2, hk⟩

/-- whatever a tells of an argument is told by b, too -/
def Alen (a b : AVal) : Prop := ∀ w O ad v, VRel w O ad .no a v → VRel w O ad .no b v

theorem Alen.refl (a : AVal) : Alen a a := fun _ _ _ _ h => h

theorem Alen.pv {a b : PV} {o : Bool} (h : Ple a b) : Alen (.pv o a) (.pv false b) := fun w O ad v hv => .pv (h w O v (prel_of hv))

inductive AlenL : List AVal → List AVal → Prop
  | nil : AlenL [] []
  | cons {a b : AVal} {x y : List AVal} (h : Alen a b) (hr : AlenL x y) : AlenL (a :: x) (b :: y)

theorem AlenL.same {a : AVal} {x y : List AVal} (hr : AlenL x y) : AlenL (a :: x) (a :: y) := .cons (.refl a) hr

theorem AlenL.refl : ∀ (x : List AVal), AlenL x x
  | [] => .nil
  | _ :: r => .same (AlenL.refl r)

theorem AlenL.len {x y : List AVal} (h : AlenL x y) : y.length = x.length := by
  induction h with
  | nil => rfl
  | cons _ _ ih => simp [ih]

theorem AlenL.nth {x y : List AVal} (h : AlenL x y) : ∀ {i : Nat} {b : AVal}, Fw.nth y i = some b → ∃ a, Fw.nth x i = some a ∧ Alen a b := by
  induction h with
  | nil => intro i b hb; simp [Fw.nth] at hb
  | @cons a c _ _ h hr ih =>
    intro i b hb
    cases i with
    | zero => simp [Fw.nth] at hb; subst hb; exact ⟨a, rfl, h⟩
    | succ i => exact ih (i := i) (by simpa [Fw.nth] using hb)

theorem Alen.agg {x y : List AVal} (h : AlenL x y) : Alen (.agg x) (.agg y) := fun w O ad v hv => by
  cases hv with
  | agg arr hs hr =>
    refine .agg arr (by rw [h.len]; exact hs) (fun i b hb => ?_)
    obtain ⟨a, h1, h2⟩ := h.nth hb
    exact h2 _ _ _ _ (hr i a h1)

theorem CallOK.args {P : Program} {f : Nat} {args args' : List AVal} {L : List Blk} {K : AVal → List Blk → Prop} (hc : CallOK P f args' L K) (h : AlenL args args') : CallOK P f args L K :=
  ⟨hc.1, fun w O ad vs h1 h2 h3 h4 h5 => hc.2 w O ad vs (by rw [h.len]; exact h1) (fun i b hb => by
    obtain ⟨a, g1, g2⟩ := h.nth hb
    exact g2 _ _ _ _ (h2 i a g1)) h3 h4 h5⟩

theorem Ple.trans {a b c : PV} (h : Ple a b) (k : Ple b c) : Ple a c := fun w O v hv => k w O v (h w O v hv)
theorem Ple.of_eq {a b : PV} (h : a = b) : Ple a b := h ▸ Ple.refl a

theorem Ple.lst' {s n : Nat} {nf nf' : NF} {e e' : Nat → Nat → PV} (hnf : nf' = nf ∨ nf' = .any) (h : ∀ i, i < n → ∀ j, j < s → Ple (e i j) (e' i j)) : Ple (.lst s nf n e) (.lst s nf' n e') := fun w O v hv => by
  cases hv with
  | lst vals hc hr hcap hf hn =>
    refine .lst vals hc (fun i hi j hj => h i hi j hj _ _ _ (hr i hi j hj)) hcap (fun hh => hf ?_) ?_
    · rcases hnf with rfl | rfl
      · exact hh
      · simp at hh
    · rcases hnf with rfl | rfl
      · exact hn
      · simp
  | lstNil hn hn' =>
    refine .lstNil ?_ ?_
    · rcases hnf with rfl | rfl
      · exact hn
      · simp
    · rcases hnf with rfl | rfl
      · exact hn'
      · simp
  | lstE b hn =>
    refine .lstE b ?_
    rcases hnf with rfl | rfl
    · exact hn
    · simp

theorem br_dec {p : Prop} [Decidable p] {A B : Prop} (h1 : p → A) (h2 : ¬p → B) : br (decide p) A B :=
  br_mk (fun h => h1 (of_decide_eq_true h)) (fun h => h2 (of_decide_eq_false h))

theorem need_mk {b : Bool} {K : Prop} (h : b = true) (k : K) : need b K := need_iff.2 ⟨h, k⟩

theorem br_not {b : Bool} {A B : Prop} (h1 : b = false → A) (h2 : b = true → B) : br (!b) A B :=
  br_mk (fun h => h1 (by simpa using h)) (fun h => h2 (by simpa using h))

theorem br_ndec {p : Prop} [Decidable p] {A B : Prop} (h1 : ¬p → A) (h2 : p → B) : br (!decide p) A B :=
  br_mk (fun h => h1 (by simpa using h)) (fun h => h2 (by simpa using h))

end Go.Proofs.Ytciflideblafgaa.Fw
