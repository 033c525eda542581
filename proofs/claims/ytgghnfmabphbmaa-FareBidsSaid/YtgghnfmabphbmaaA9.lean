/- Who owns what: moves; stores. -/
import Derived.Test.YtgghnfmabphbmaaA8
import Derived.Laws.Append
namespace Go.Proofs.Ytgghnfmabphbmaa.Fw
open Go
set_option linter.unusedSimpArgs false
set_option linter.unusedVariables false

def renO (f : Pos → Pos) (O : Nat → Own) : Nat → Own := fun B =>
  match O B with
  | .lst p fill => .lst (f p) fill
  | x => x

section
variable {P : Program} {T : Tab} {w : World} {O : Nat → Own} {ad : List Nat} {st : St} {a : Act} {o : Oper} {Q : Exit → Act → World → Prop} {K : St → Prop}

theorem renO_lst {f : Pos → Pos} {B : Nat} {p : Pos} {fill : Nat} (h : O B = .lst p fill) : renO f O B = .lst (f p) fill := by simp [renO, h]
theorem renO_free {f : Pos → Pos} {B : Nat} (h : O B = .free) : renO f O B = .free := by simp [renO, h]
theorem renO_blk {f : Pos → Pos} {B k : Nat} (h : O B = .blk k) : renO f O B = .blk k := by simp [renO, h]
theorem renO_inn {f : Pos → Pos} {B k i : Nat} (h : O B = .inn k i) : renO f O B = .inn k i := by simp [renO, h]
theorem renI (O : Nat → Own) (f : Pos → Pos) : InnK O (renO f O) := fun _ _ _ h => renO_inn h
theorem renO_inn' {f : Pos → Pos} {B k i : Nat} (h : renO f O B = .inn k i) : O B = .inn k i := by
  unfold renO at h
  cases hO : O B <;> rw [hO] at h <;> first | exact h | simp at h

theorem im_ren (f : Pos → Pos) (B o : Nat) : im (renO f O) B o ↔ im O B o := by
  unfold im renO
  cases O B <;> rfl

theorem ren_step (w : World) (O : Nat → Own) (f : Pos → Pos) : Step w O w (renO f O) :=
  ⟨fun _ arr _ _ h => ⟨arr, h, rfl⟩, rfl, rfl, rfl, Nat.le_refl _, fun B o _ h => ⟨(im_ren f B o).2 h, rfl⟩, fun B _ h => ⟨by unfold renO; cases hO : O B <;> simp_all [Own.fixed], rfl⟩, fun B _ h => .inl (by unfold renO; cases hO : O B <;> simp_all [Own.mem])⟩

theorem ren_fresh {f : Pos → Pos} (h : Fresh w O) : Fresh w (renO f O) := ⟨fun B hB => renO_free (h.fr B hB), fun _ _ _ _ h1 h2 => h.uni _ _ _ _ (renO_inn' h1) (renO_inn' h2)⟩

/-- A value whose own places are renamed. -/
theorem VRel.ren {f : Pos → Pos} {p q : Pos} {x : AVal} {v : Value} (h : VRel w O ad p x v) (h1 : p ≠ .no → f p = q ∧ q ≠ .no)
    (h2 : ∀ cs, x = .tup cs → ∀ i, p.sub i ≠ .no → f (p.sub i) = q.sub i ∧ q.sub i ≠ .no) : VRel w (renO f O) ad q x v := by
  have hs := ren_step w O f
  have own : ∀ {p q : Pos} {sz n : Nat} {u : Value}, (p ≠ .no → f p = q ∧ q ≠ .no) → OwnOk w O p sz n u → OwnOk w (renO f O) q sz n u := by
    intro p q sz n u h1 ⟨h0, ho⟩
    obtain ⟨e1, e2⟩ := h1 h0
    refine ⟨e2, ho.imp id (Or.imp id ?_)⟩
    rintro ⟨B, off, cap, arr, ty, g1, g2, g3, g4⟩
    exact ⟨B, off, cap, arr, ty, g1, by rw [renO_lst g2, e1], g3, g4⟩
  cases h with
  | pv h => exact .pv (h.step hs)
  | own h ho => exact .own (h.step hs) (own h1 ho)
  | ptr h => exact .ptr h
  | arrE h hv => exact .arrE h hv
  | arr h hc hr => exact .arr h hc hr
  | mref h => exact .mref h
  | fn a hs' hr => exact .fn a hs' (fun i x hx => (hr i x hx).step hs (renI O f) (fun _ _ h => h) .no)
  | agg a hs' hr => exact .agg a hs' (fun i x hx => (hr i x hx).step hs (renI O f) (fun _ _ h => h) .no)
  | av a hs' hr => exact .av a hs' (fun i hi j hj => (hr i hi j hj).step hs)
  | tup a hs' hr =>
    refine .tup a hs' (fun i x hx => ?_)
    have hi := hr i x hx
    revert hi
    generalize a.getD i Go.undef = u
    intro hi
    cases hi with
    | pv h => exact .pv (h.step hs)
    | own h ho => exact .own (h.step hs) (own (h2 _ rfl i) ho)
    | ptr h => exact .ptr h
    | arrE h hv => exact .arrE h hv
    | arr h hc hr => exact .arr h hc hr
    | mref h => exact .mref h
    | fn a hs' hr => exact .fn a hs' (fun i x hx => (hr i x hx).step hs (renI O f) (fun _ _ h => h) .no)
    | agg a hs' hr => exact .agg a hs' (fun i x hx => (hr i x hx).step hs (renI O f) (fun _ _ h => h) .no)
    | av a hs' hr => exact .av a hs' (fun i hi j hj => (hr i hi j hj).step hs)
    | tup a2 hs2 hr2 => exact .tup a2 hs2 (fun j x hx => by
        have := hr2 j x hx
        rw [p.sub_sub i j] at this
        rw [q.sub_sub i j]
        exact this.step hs (renI O f) (fun _ _ h => h) .no)
    | undef _ => exact .undef _
    | subE ha hv => exact .subE ha hv
    | sub ha h hc => exact .sub ha (renO_inn h) hc
    | psub ha h => exact .psub ha (renO_inn h)
  | undef _ => exact .undef _
  | subE ha hv => exact .subE ha hv
  | sub ha h hc => exact .sub ha (renO_inn h) hc
  | psub ha h => exact .psub ha (renO_inn h)

/-- f leaves p and its parts alone -/
def Fixes (f : Pos → Pos) (p : Pos) : Prop := f p = p ∧ ∀ i, f (p.sub i) = p.sub i

theorem VRel.fix {f : Pos → Pos} {p : Pos} {x : AVal} {v : Value} (h : VRel w O ad p x v) (hf : Fixes f p) : VRel w (renO f O) ad p x v :=
  h.ren (fun hn => ⟨hf.1, hn⟩) (fun _ _ i hn => ⟨hf.2 i, hn⟩)

/-- what owns nothing doesn't mind -/
theorem VRel.shed_ren {f : Pos → Pos} {p : Pos} (q : Pos) {x : AVal} {v : Value} (h : VRel w O ad p x v) : VRel w (renO f O) ad q x.shed v :=
  (((h.shed .no).step (ren_step w O f) (renI O f) (fun _ _ h => h)) .no).any q

theorem BlkRel.fix {f : Pos → Pos} {k : Nat} {arr : Array Value} {b : Blk} (hf : ∀ i j, Fixes f (.cell k i j)) (h : BlkRel w O ad k arr b) : BlkRel w (renO f O) ad k arr b := by
  cases b with
  | box cs => exact ⟨h.1, fun i x hx => (h.2 i x hx).fix (hf 0 i)⟩
  | row sz n el ow => exact ⟨h.1, fun i hi j hj => (h.2 i hi j hj).fix (hf i j)⟩
  | mp q has val => exact h.elim
  | mat n m el => exact ⟨h.1, fun i hi => (h.2 i hi).step (ren_step w O f) fun B hB => ⟨renO_inn hB, rfl⟩⟩

theorem ObjRel.fix {f : Pos → Pos} {k : Nat} {x : Obj} {b : Blk} (hf : ∀ i j, Fixes f (.cell k i j)) (h : ObjRel w O ad k x b) : ObjRel w (renO f O) ad k x b := by
  cases x with
  | cells arr ty fz =>
    have h' : fz = (0, 0) ∧ BlkRel w O ad k arr b := by cases b <;> exact h
    have := h'.2.fix hf
    cases b <;> exact ⟨h'.1, this⟩
  | map es c =>
    cases b with
    | mp q has val => exact ⟨h.ok, h.apart, h.has, fun e he => (h.val e he).step (ren_step w O f) (renI O f) (fun _ _ h => h) .no⟩
    | _ => exact h.elim
  | _ => cases b <;> exact h.elim

theorem HeapRel.fix {f : Pos → Pos} {H : List Blk} (hf : ∀ k i j, Fixes f (.cell k i j)) (h : HeapRel w O ad H) : HeapRel w (renO f O) ad H := by
  intro k b hb
  obtain ⟨c, h1, ⟨h2, hg⟩ | ⟨B, x, rfl, h2, h3, h4⟩⟩ := h k b hb
  · exact ⟨c, h1, .inl ⟨h2, hg⟩⟩
  · exact ⟨B + 1, h1, .inr ⟨B, x, rfl, renO_blk h2, h3, h4.fix (hf k)⟩⟩

/-- from temporary t to place q -/
def mvT (t : Nat) (q : Pos) (p : Pos) : Pos :=
  match p with
  | .tmp s => bif Nat.beq s t then q else .tmp s
  | .tup s i => bif Nat.beq s t then q.sub i else .tup s i
  | p => p

theorem beq_ff {s t : Nat} (h : s ≠ t) : Nat.beq s t = false := Bool.eq_false_iff.2 fun e => h (Nat.eq_of_beq_eq_true e)
theorem beq_tt (s : Nat) : Nat.beq s s = true := Nat.beq_refl s

theorem mvT_fix {t : Nat} {q : Pos} {s : Nat} (h : s ≠ t) : Fixes (mvT t q) (.tmp s) := ⟨by simp [mvT, beq_ff h], fun i => by simp [mvT, Pos.sub, beq_ff h]⟩
theorem mvT_cell {t : Nat} {q : Pos} (k i j : Nat) : Fixes (mvT t q) (.cell k i j) := ⟨rfl, fun i => rfl⟩

/-- The value of temporary t is handed on to q; what stays in t owns nothing any more. -/
theorem Sat.take (hS : Sat st a w O ad) {t : Nat} {q : Pos} (hq : q ≠ .no) (hqs : ∀ cs, get st.env t = .tup cs → ∀ i, q.sub i ≠ .no) :
    VRel w (renO (mvT t q) O) ad q (get st.env t) (a.tmps.getD t undef) ∧ Sat { st with env := (t, (get st.env t).shed) :: st.env } a w (renO (mvT t q) O) ad ∧ Step w O w (renO (mvT t q) O) := by
  refine ⟨?_, ⟨⟨hS.env.1, fun s => ?_⟩, hS.heap.fix (fun k i j => mvT_cell k i j), hS.len, hS.pin, hS.dn, ren_fresh hS.fresh⟩, ren_step _ _ _⟩
  · exact (hS.env.2 t).ren (fun _ => ⟨by simp [mvT], hq⟩) (fun cs hc i _ => ⟨by simp [mvT, Pos.sub], hqs cs hc i⟩)
  · simp only [get]
    by_cases h : t = s
    · subst h; rw [beq_tt]; exact (hS.env.2 t).shed_ren _
    · rw [beq_ff h]; exact (hS.env.2 s).fix (mvT_fix (fun e => h e.symm))

/-- a block replaced -/
def World.setO (w : World) (B : Nat) (x : Obj) : World := { w with heap := w.heap.setIfInBounds B x }

/-- the block's cells replaced -/
abbrev World.setBlk (w : World) (B : Nat) (arr : Array Value) (ty : TypeId) : World := World.setO w B (.cells arr ty)

theorem setO_at {y : Obj} {B : Nat} {x : Obj} (h : w.heap[B]? = some x) : (World.setO w B y).heap[B]? = some y := by
  have := (Array.getElem?_eq_some_iff.1 h).1
  simp [World.setO, this]

theorem setBlk_at {arr' : Array Value} {ty : TypeId} {B : Nat} {x : Obj} (h : w.heap[B]? = some x) : (World.setBlk w B arr' ty).heap[B]? = some (.cells arr' ty (0, 0)) := setO_at h

theorem setO_ne {y : Obj} {B B' : Nat} (h : B' ≠ B) : (World.setO w B y).heap[B']? = w.heap[B']? := by
  simp only [World.setO]
  exact Array.getElem?_setIfInBounds_ne (fun e => h e.symm)

theorem setBlk_ne {arr' : Array Value} {ty : TypeId} {B B' : Nat} (h : B' ≠ B) : (World.setBlk w B arr' ty).heap[B']? = w.heap[B']? := setO_ne h

theorem setO_size {y : Obj} {B : Nat} : (World.setO w B y).heap.size = w.heap.size := by simp [World.setO]

theorem setBlk_size {arr' : Array Value} {ty : TypeId} {B : Nat} : (World.setBlk w B arr' ty).heap.size = w.heap.size := setO_size

theorem setCell_eq {B o : Nat} {arr : Array Value} {ty : TypeId} {v : Value} (h : w.heap[B]? = some (.cells arr ty (0, 0))) : w.setCell ⟨B, o, none⟩ v = World.setBlk w B (arr.setIfInBounds o v) ty := by
  simp only [World.setCell, World.setBlk, World.setO]
  congr 1
  obtain ⟨h1, h2⟩ := Array.getElem?_eq_some_iff.1 h
  apply Array.ext'
  apply List.ext_getElem?
  intro i
  simp only [Array.getElem?_toList]
  by_cases e : B = i
  · subst e; rw [Array.getElem?_modify, if_pos rfl, h]; simp [h1]
  · rw [Array.getElem?_setIfInBounds_ne e, Array.getElem?_modify, if_neg e]

theorem run_store {B o : Nat} {arr : Array Value} {ty : TypeId} {v : Value} (h : w.heap[B]? = some (.cells arr ty (0, 0))) (ho : o < arr.size) (hv : oneC v = true) :
    (Go.store ⟨B, o, none⟩ v).run P w = .ok () (World.setBlk w B (arr.setIfInBounds o v) ty) := by
  have hc : w.cell? ⟨B, o, none⟩ = some (arr.getD o undef) := cell_of_block' h ho
  have hf : w.frozen? ⟨B, o, none⟩ = false := by simp [World.frozen?, h]
  rw [← setCell_eq h]
  unfold Go.store
  cases v <;> first | (simp [oneC] at hv; done) | simp [Sem.run, hc, hf]

theorem setBlk_setBlk {B : Nat} {arr arr' : Array Value} {ty : TypeId} : World.setBlk (World.setBlk w B arr ty) B arr' ty = World.setBlk w B arr' ty := by
  simp [World.setBlk, World.setO]

theorem run_storeCells {B o : Nat} {ty : TypeId} : ∀ (vs : List Value) (i : Nat) (arr : Array Value) (w : World), w.heap[B]? = some (.cells arr ty (0, 0)) → o + i + vs.length ≤ arr.size → (∀ v ∈ vs, oneC v = true) →
    ∃ arr', (storeCells ⟨B, o, none⟩ vs i).run P w = .ok () (World.setBlk w B arr' ty) ∧ arr'.size = arr.size ∧
      ∀ q, arr'.getD q undef = if o + i ≤ q ∧ q < o + i + vs.length then vs.getD (q - (o + i)) undef else arr.getD q undef
  | [], i, arr, w, h, _, _ => by
    refine ⟨arr, ?_, rfl, fun q => by simp; intro h1 h2; omega⟩
    have : w.heap.setIfInBounds B (.cells arr ty) = w.heap := by
      obtain ⟨h1, h2⟩ := Array.getElem?_eq_some_iff.1 h
      apply Array.ext'
      apply List.ext_getElem?
      intro j
      simp only [Array.getElem?_toList]
      by_cases e : B = j
      · subst e; rw [h]; simp [h1]
      · rw [Array.getElem?_setIfInBounds_ne e]
    have : World.setBlk w B arr ty = w := by
      simp only [World.setBlk, World.setO, this]
    rw [this]; rfl
  | v :: vs, i, arr, w, h, hl, hv => by
    simp only [List.length_cons] at hl
    have hs := run_store (P := P) (o := o + i) (v := v) h (by omega) (hv v (by simp))
    obtain ⟨arr', h1, h2, h3⟩ := run_storeCells (B := B) (o := o) (ty := ty) vs (i + 1) (arr.setIfInBounds (o + i) v) (World.setBlk w B (arr.setIfInBounds (o + i) v) ty) (setBlk_at h) (by simp; omega) (fun u hu => hv u (by simp [hu]))
    refine ⟨arr', ?_, by rw [h2]; simp, fun q => ?_⟩
    · unfold storeCells
      rw [run_bind, add_none, hs]
      simp only
      rw [h1, setBlk_setBlk]
    · rw [h3 q]
      simp only [List.length_cons]
      by_cases c1 : q = o + i
      · subst c1
        rw [if_neg (by omega), if_pos (by omega), getD_set (show o + i < arr.size by omega)]
        simp
      · by_cases c2 : o + (i + 1) ≤ q ∧ q < o + (i + 1) + vs.length
        · rw [if_pos c2, if_pos (by omega), show q - (o + i) = (q - (o + (i + 1))) + 1 by omega]
          simp
        · rw [if_neg c2, if_neg (by omega), getD_set (show o + i < arr.size by omega), if_neg (fun e => c1 e.symm)]

/-- A block of the call's own is replaced. -/
theorem Sat.storeO (hS : Sat st a w O ad) {k B : Nat} {x y : Obj} {b b' : Blk} (hk : nth st.heap k = some b) (hB : nth ad k = some (B + 1)) (hO : O B = .blk k) (hw : w.heap[B]? = some x)
    (hsz : ∀ arr ty fz, x = .cells arr ty fz → ∃ arr', y = .cells arr' ty fz ∧ arr'.size = arr.size)
    (hb : ObjRel w O ad k y b') : Step w O (World.setO w B y) O ∧ Sat { st with heap := st.heap.set k b' } a (World.setO w B y) O ad := by
  have hst : Step w O (World.setO w B y) O := by
    refine ⟨fun C arr ty fz hC => ?_, rfl, rfl, rfl, by rw [setO_size]; exact Nat.le_refl _, fun C q hC hi => ⟨hi, ?_⟩, fun C hC hf => ⟨rfl, ?_⟩, fun C _ h => .inl h⟩
    · by_cases e : C = B
      · subst e
        rw [hw] at hC
        obtain ⟨arr', g1, g2⟩ := hsz arr ty fz (Option.some.inj hC)
        exact ⟨arr', by rw [setO_at hw, g1], g2⟩
      · exact ⟨arr, by rw [setO_ne e]; exact hC, rfl⟩
    · have : C ≠ B := by rintro rfl; simp [im, hO] at hi
      simp only [World.cell?, setO_ne this]
    · exact setO_ne (by rintro rfl; rw [hO] at hf; exact hf.elim)
  have hka : ∀ p, KeptAt w O (World.setO w B y) O p := fun p => ⟨fun q C fill _ _ hC => ⟨hC, setO_ne (by rintro rfl; rw [hO] at hC; simp at hC)⟩, fun _ _ _ i C _ hC => ⟨hC, setO_ne (by rintro rfl; rw [hO] at hC; simp at hC)⟩⟩
  refine ⟨hst, ⟨hS.env.1, fun d => (hS.env.2 d).step hst (InnK.refl O) (fun _ _ h => h) (hka _)⟩, fun k' c hc => ?_, by simp [hS.len], hS.pin, hS.dn, ⟨fun C hC => hS.fresh.fr C (by rwa [setO_size] at hC), hS.fresh.uni⟩⟩
  have hkl := nth_lt hk
  by_cases e : k' = k
  · subst e
    have : c = b' := by simp only [nth_eq] at hc; simp [hkl] at hc; exact hc.symm
    subst this
    exact ⟨B + 1, hB, .inr ⟨B, y, rfl, hO, setO_at hw, hb.step hst (InnK.refl O) (fun _ _ h => h) (fun i j => hka _)⟩⟩
  · have hc' : nth st.heap k' = some c := by
      simp only [nth_eq] at hc ⊢
      rwa [List.getElem?_set_ne (fun h => e h.symm)] at hc
    obtain ⟨d, h1, ⟨h2, hg⟩ | ⟨B', x2, rfl, h2, h3, h4⟩⟩ := hS.heap k' c hc'
    · exact ⟨d, h1, .inl ⟨h2, hg⟩⟩
    have hne : B' ≠ B := by rintro rfl; rw [hO] at h2; simp at h2; exact e h2.symm
    exact ⟨B' + 1, h1, .inr ⟨B', x2, rfl, h2, (setO_ne hne).trans h3, h4.step hst (InnK.refl O) (fun _ _ h => h) (fun i j => hka _)⟩⟩

/-- A store into memory of the call's own. -/
theorem Sat.store (hS : Sat st a w O ad) {k B : Nat} {arr arr' : Array Value} {ty : TypeId} {b b' : Blk} (hk : nth st.heap k = some b) (hB : nth ad k = some (B + 1)) (hO : O B = .blk k) (hw : w.heap[B]? = some (.cells arr ty (0, 0)))
    (hsz : arr'.size = arr.size) (hb : BlkRel w O ad k arr' b') : Step w O (World.setBlk w B arr' ty) O ∧ Sat { st with heap := st.heap.set k b' } a (World.setBlk w B arr' ty) O ad :=
  hS.storeO hk hB hO hw (fun arr2 ty2 fz h => by cases h; exact ⟨arr', rfl, hsz⟩) (by cases b' <;> exact ⟨rfl, hb⟩)

/-- A store into a row of a table. -/
theorem Sat.storeInn (hS : Sat st a w O ad) {k i j B n : Nat} {m : Nat → Nat} {el : Nat → Nat → PV} {arr : Array Value} {ty : TypeId} {p : PV} {v : Value} (hk : nth st.heap k = some (.mat n m el)) (hO : O B = .inn k i)
    (hw : w.heap[B]? = some (.cells arr ty (0, 0))) (hv : PRel w O p v) (hj : j < arr.size) :
    Step w O (World.setBlk w B (arr.setIfInBounds j v) ty) O ∧ Sat { st with heap := st.heap.set k (.mat n m fun a b => bif Nat.beq a i && Nat.beq b j then p else el a b) } a (World.setBlk w B (arr.setIfInBounds j v) ty) O ad := by
  have hst : Step w O (World.setBlk w B (arr.setIfInBounds j v) ty) O := by
    refine ⟨fun C arr2 ty2 fz hC => ?_, rfl, rfl, rfl, by rw [setBlk_size]; exact Nat.le_refl _, fun C q hC hi => ⟨hi, ?_⟩, fun C hC hf => ⟨rfl, ?_⟩, fun C _ h => .inl h⟩
    · by_cases e : C = B
      · subst e
        rw [hw] at hC
        simp only [Option.some.injEq, Obj.cells.injEq] at hC
        obtain ⟨rfl, rfl, rfl⟩ := hC
        exact ⟨_, setBlk_at hw, by simp⟩
      · exact ⟨arr2, by rw [setBlk_ne e]; exact hC, rfl⟩
    · have : C ≠ B := by rintro rfl; simp [im, hO] at hi
      simp only [World.cell?, setBlk_ne this]
    · exact setBlk_ne (by rintro rfl; rw [hO] at hf; exact hf.elim)
  have hka : ∀ p, (∀ a b, p ≠ .cell k a b) → KeptAt w O (World.setBlk w B (arr.setIfInBounds j v) ty) O p := fun p hp => ⟨fun q C fill _ _ hC => ⟨hC, setBlk_ne (by rintro rfl; rw [hO] at hC; simp at hC)⟩, fun k' a b i' C e hC => ⟨hC, setBlk_ne (by
    rintro rfl
    rw [hO] at hC
    simp at hC
    exact hp a b (by rw [e, hC.1]))⟩⟩
  refine ⟨hst, ⟨hS.env.1, fun d => (hS.env.2 d).step hst (InnK.refl O) (fun _ _ h => h) (hka _ (by simp))⟩, fun k' c hc => ?_, by simp [hS.len], hS.pin, hS.dn, ⟨fun C hC => hS.fresh.fr C (by rwa [setBlk_size] at hC), hS.fresh.uni⟩⟩
  have hkl := nth_lt hk
  by_cases e : k' = k
  · subst e
    have : c = .mat n m fun a b => bif Nat.beq a i && Nat.beq b j then p else el a b := by simp only [nth_eq] at hc; simp [hkl] at hc; exact hc.symm
    subst this
    obtain ⟨B0, arr0, ty0, g1, g2, g3, g4, g5⟩ := hS.heap.cells hk rfl (fun h => h)
    have hne : B0 ≠ B := by rintro rfl; rw [hO] at g2; simp at g2
    refine ⟨B0 + 1, g1, .inr ⟨B0, .cells arr0 ty0 (0, 0), rfl, g2, (setBlk_ne hne).trans g3, rfl, g4, fun a ha => ?_⟩⟩
    rcases g5 a ha with h | ⟨B2, cap, arr2, ty2, h1, h2, h3, h4, h5, h6⟩
    · exact .inl h
    · by_cases e : a = i
      · subst e
        obtain rfl := hS.fresh.uni _ _ _ _ hO h2
        rw [hw] at h3
        simp only [Option.some.injEq, Obj.cells.injEq] at h3
        obtain ⟨rfl, rfl, _⟩ := h3
        refine .inr ⟨B, cap, _, ty, h1, hO, setBlk_at hw, h4, by simpa using h5, fun b hb => ?_⟩
        rw [getD_set hj]
        by_cases e2 : j = b
        · subst e2
          simp only [beq_tt, Bool.and_self, cond_true, if_true]
          exact hv.step hst
        · rw [if_neg e2]
          simp only [beq_tt, beq_ff (Ne.symm e2), Bool.and_false, cond_false]
          exact (h6 b hb).step hst
      · have hne2 : B2 ≠ B := by rintro rfl; rw [hO] at h2; simp at h2; exact e h2.symm
        refine .inr ⟨B2, cap, arr2, ty2, h1, h2, (setBlk_ne hne2).trans h3, h4, h5, fun b hb => ?_⟩
        simp only [beq_ff e, Bool.false_and, cond_false]
        exact (h6 b hb).step hst
  · have hc' : nth st.heap k' = some c := by
      simp only [nth_eq] at hc ⊢
      rwa [List.getElem?_set_ne (fun h => e h.symm)] at hc
    obtain ⟨d, h1, ⟨h2, hg⟩ | ⟨B', x2, rfl, h2, h3, h4⟩⟩ := hS.heap k' c hc'
    · exact ⟨d, h1, .inl ⟨h2, hg⟩⟩
    have hne : B' ≠ B := by rintro rfl; rw [hO] at h2; simp at h2
    exact ⟨B' + 1, h1, .inr ⟨B', x2, rfl, h2, (setBlk_ne hne).trans h3, h4.step hst (InnK.refl O) (fun _ _ h => h) (fun i j => hka _ (by intro a b h; simp at h; exact e h.1))⟩⟩

end
end Go.Proofs.Ytgghnfmabphbmaa.Fw
