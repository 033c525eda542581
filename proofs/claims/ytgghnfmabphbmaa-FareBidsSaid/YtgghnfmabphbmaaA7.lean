/- How what is told survives a step: memory that nobody writes stays; what is owned stays with its owner. -/
import Derived.Test.YtgghnfmabphbmaaA6
namespace Go.Proofs.Ytgghnfmabphbmaa.Fw
open Go
set_option linter.unusedSimpArgs false
set_option linter.unusedVariables false

/-- From w to w' nothing has changed that nobody may write. -/
structure Step (w : World) (O : Nat → Own) (w' : World) (O' : Nat → Own) : Prop where
  sz : ∀ (B : Nat) (arr : Array Value) (ty : TypeId) (fz : Nat × Nat), w.heap[B]? = some (.cells arr ty fz) → ∃ arr' : Array Value, w'.heap[B]? = some (.cells arr' ty fz) ∧ arr'.size = arr.size
  os : w'.os = w.os
  tape : w'.tape = w.tape
  output : w'.output = w.output
  size : w.heap.size ≤ w'.heap.size
  cell : ∀ B o, B < w.heap.size → im O B o → im O' B o ∧ w'.cell? ⟨B, o, none⟩ = w.cell? ⟨B, o, none⟩
  free : ∀ B, B < w.heap.size → (O B).fixed → O' B = O B ∧ w'.heap[B]? = w.heap[B]?
  blk : ∀ B, B < w.heap.size → (O B).mem → (O' B).mem ∨ (O' B).fixed

theorem Step.refl (w : World) (O : Nat → Own) : Step w O w O := ⟨fun _ arr _ _ h => ⟨arr, h, rfl⟩, rfl, rfl, rfl, Nat.le_refl _, fun _ _ _ h => ⟨h, rfl⟩, fun _ _ _ => ⟨rfl, rfl⟩, fun _ _ h => .inl h⟩

theorem Step.trans {w w' w'' : World} {O O' O'' : Nat → Own} (h : Step w O w' O') (k : Step w' O' w'' O'') : Step w O w'' O'' :=
  ⟨fun B arr ty fz hB => by
    obtain ⟨a1, g1, g2⟩ := h.sz B arr ty fz hB
    obtain ⟨a2, g3, g4⟩ := k.sz B a1 ty fz g1
    exact ⟨a2, g3, g4.trans g2⟩, k.os.trans h.os, k.tape.trans h.tape, k.output.trans h.output, Nat.le_trans h.size k.size,
   fun B o hb hi => by
    obtain ⟨h1, h2⟩ := h.cell B o hb hi
    obtain ⟨h3, h4⟩ := k.cell B o (Nat.lt_of_lt_of_le hb h.size) h1
    exact ⟨h3, h4.trans h2⟩,
   fun B hb hf => by
    obtain ⟨h1, h2⟩ := h.free B hb hf
    obtain ⟨h3, h4⟩ := k.free B (Nat.lt_of_lt_of_le hb h.size) (by rw [h1]; exact hf)
    exact ⟨h3.trans h1, h4.trans h2⟩,
   fun B hb hB => by
    rcases h.blk B hb hB with h1 | h1
    · exact k.blk B (Nat.lt_of_lt_of_le hb h.size) h1
    · exact .inr (by rw [(k.free B (Nat.lt_of_lt_of_le hb h.size) h1).1]; exact h1)⟩

theorem PRel.step {w w' : World} {O O' : Nat → Own} (hs : Step w O w' O') {x : PV} {v : Value} (h : PRel w O x v) : PRel w' O' x v := by
  induction h with
  | bool b => exact .bool b
  | int k n => exact .int k n
  | str s => exact .str s
  | lst vals hc hr hcap hf hn ih =>
    exact .lst vals (fun i hi j hj => by
      obtain ⟨h1, h2⟩ := hc i hi j hj
      obtain ⟨h3, h4⟩ := hs.cell _ _ (cell_lt h1) h2
      exact ⟨h4.trans h1, h3⟩) ih hcap hf hn
  | lstNil hn hn' => exact .lstNil hn hn'
  | lstE b hn => exact .lstE b hn
  | cptr vals hc hr ih =>
    exact .cptr vals (fun j hj => by
      obtain ⟨h1, h2⟩ := hc j hj
      obtain ⟨h3, h4⟩ := hs.cell _ _ (cell_lt h1) h2
      exact ⟨h4.trans h1, h3⟩) ih
  | optrS _ ih => exact .optrS ih
  | optrN => exact .optrN
  | fn a hs' hr ih => exact .fn a hs' ih
  | nilp => exact .nilp
  | nilm => exact .nilm
  | nilf => exact .nilf
  | nili => exact .nili
  | junk v h => exact .junk v h
  | tree _ ih => exact .tree ih

/-- What stands at p (and what stands in parts of it) is still its. -/
structure KeptAt (w : World) (O : Nat → Own) (w' : World) (O' : Nat → Own) (p : Pos) : Prop where
  lst : ∀ q B fill, (q = p ∨ ∃ i, q = p.sub i) → q ≠ .no → O B = .lst q fill → O' B = .lst q fill ∧ w'.heap[B]? = w.heap[B]?
  inn : ∀ k a b i B, p = .cell k a b → O B = .inn k i → O' B = .inn k i ∧ w'.heap[B]? = w.heap[B]?

/-- rows of tables are still theirs -/
def InnK (O O' : Nat → Own) : Prop := ∀ B k i, O B = .inn k i → O' B = .inn k i

theorem InnK.refl (O : Nat → Own) : InnK O O := fun _ _ _ h => h

theorem OwnOk.step {w w' : World} {O O' : Nat → Own} {p : Pos} {sz n : Nat} {v : Value} (h : OwnOk w O p sz n v)
    (hk : ∀ B fill, O B = .lst p fill → O' B = .lst p fill ∧ w'.heap[B]? = w.heap[B]?) : OwnOk w' O' p sz n v := by
  obtain ⟨h0, h | h | ⟨B, off, cap, arr, ty, h1, h2, h3, h4⟩⟩ := h
  · exact ⟨h0, .inl h⟩
  · exact ⟨h0, .inr (.inl h)⟩
  · obtain ⟨h5, h6⟩ := hk B _ h2
    exact ⟨h0, .inr (.inr ⟨B, off, cap, arr, ty, h1, h5, h6.trans h3, h4⟩)⟩

theorem VRel.step {w w' : World} {O O' : Nat → Own} {ad ad' : List Nat} (hs : Step w O w' O') (hin : InnK O O') (had : ∀ k B, nth ad k = some B → nth ad' k = some B) {p : Pos} {x : AVal} {v : Value}
    (h : VRel w O ad p x v) : KeptAt w O w' O' p → VRel w' O' ad' p x v := by
  induction h with
  | pv h => exact fun _ => .pv (h.step hs)
  | own h ho => exact fun hk => .own (h.step hs) (ho.step fun B fill hB => hk.lst _ B fill (.inl rfl) ho.1 hB)
  | ptr h => exact fun _ => .ptr (had _ _ h)
  | arrE h hv => exact fun _ => .arrE (had _ _ h) hv
  | arr h hc hr => exact fun _ => .arr (had _ _ h) hc (by
      obtain ⟨a1, ty, fz, g1, g2⟩ := hr
      obtain ⟨a2, g3, g4⟩ := hs.sz _ a1 ty fz g1
      exact ⟨a2, ty, fz, g3, by omega⟩)
  | mref h => exact fun _ => .mref (had _ _ h)
  | fn a hs' hr ih => exact fun _ => .fn a hs' (fun i x hx => ih i x hx ⟨fun q B fill hq hn _ => by rcases hq with rfl | ⟨i, rfl⟩ <;> exact absurd rfl hn, fun _ _ _ _ _ e => by simp at e⟩)
  | agg a hs' hr ih => exact fun _ => .agg a hs' (fun i x hx => ih i x hx ⟨fun q B fill hq hn _ => by rcases hq with rfl | ⟨i, rfl⟩ <;> exact absurd rfl hn, fun _ _ _ _ _ e => by simp at e⟩)
  | av a hs' hr => exact fun _ => .av a hs' (fun i hi j hj => (hr i hi j hj).step hs)
  | @tup p cs a hs' hr ih =>
    exact fun hk => .tup a hs' (fun i x hx => ih i x hx ⟨fun q B fill hq hn hB => by
      rcases hq with rfl | ⟨j, rfl⟩
      · exact hk.lst _ B fill (.inr ⟨i, rfl⟩) hn hB
      · rw [p.sub_sub i j] at hn; exact absurd rfl hn, fun _ _ _ _ _ e => by cases p <;> simp [Pos.sub] at e⟩)
  | undef v => exact fun _ => .undef v
  | subE ha hv => exact fun _ => .subE (had _ _ ha) hv
  | sub ha h hc => exact fun _ => .sub (had _ _ ha) (hin _ _ _ h) hc
  | psub ha h => exact fun _ => .psub (had _ _ ha) (hin _ _ _ h)

theorem KeptAt.no {w w' : World} {O O' : Nat → Own} : KeptAt w O w' O' .no := ⟨fun q B fill hq hn _ => by
  rcases hq with rfl | ⟨i, rfl⟩ <;> exact absurd rfl hn, fun _ _ _ _ _ e => by simp at e⟩

/-- All that is owned is still its owner's, and so is what nobody else reads. -/
def KeptAll (w : World) (O : Nat → Own) (w' : World) (O' : Nat → Own) : Prop :=
  ∀ B, B < w.heap.size → O B ≠ .free → O' B = O B ∧ w'.heap[B]? = w.heap[B]?

theorem KeptAll.refl (w : World) (O : Nat → Own) : KeptAll w O w O := fun _ _ _ => ⟨rfl, rfl⟩

/-- blocks that are not there belong to nobody -/
structure Fresh (w : World) (O : Nat → Own) : Prop where
  fr : ∀ B, w.heap.size ≤ B → O B = .free
  uni : Uni O

theorem Fresh.lt {w : World} {O : Nat → Own} (hf : Fresh w O) {B : Nat} (h : O B ≠ .free) : B < w.heap.size := by
  rcases Nat.lt_or_ge B w.heap.size with h' | h'
  · exact h'
  · exact absurd (hf.fr B h') h

theorem KeptAll.at {w w' : World} {O O' : Nat → Own} (h : KeptAll w O w' O') (hf : Fresh w O) (p : Pos) : KeptAt w O w' O' p := ⟨fun q B fill _ _ hB => by
  obtain ⟨h1, h2⟩ := h B (hf.lt (by rw [hB]; simp)) (by rw [hB]; simp)
  exact ⟨h1.trans hB, h2⟩, fun k _ _ i B _ hB => by
  obtain ⟨h1, h2⟩ := h B (hf.lt (by rw [hB]; simp)) (by rw [hB]; simp)
  exact ⟨h1.trans hB, h2⟩⟩

theorem KeptAll.inn {w w' : World} {O O' : Nat → Own} (h : KeptAll w O w' O') (hf : Fresh w O) : InnK O O' := fun B k i hB =>
  (h B (hf.lt (by rw [hB]; simp)) (by rw [hB]; simp)).1.trans hB

theorem Hdr.step {w w' : World} {O O' : Nat → Own} (hs : Step w O w' O') {k i m : Nat} {el : Nat → PV} {v : Value} (hk : ∀ B, O B = .inn k i → O' B = .inn k i ∧ w'.heap[B]? = w.heap[B]?) (h : Hdr w O k i m el v) : Hdr w' O' k i m el v := by
  rcases h with h | ⟨B, cap, arr, ty, h1, h2, h3, h4, h5, h6⟩
  · exact .inl h
  · obtain ⟨g1, g2⟩ := hk B h2
    exact .inr ⟨B, cap, arr, ty, h1, g1, g2.trans h3, h4, h5, fun j hj => (h6 j hj).step hs⟩

theorem BlkRel.step {w w' : World} {O O' : Nat → Own} {ad ad' : List Nat} (hs : Step w O w' O') (hin : InnK O O') (had : ∀ k B, nth ad k = some B → nth ad' k = some B) {k : Nat} {arr : Array Value} {b : Blk}
    (hk : ∀ i j, KeptAt w O w' O' (.cell k i j)) (h : BlkRel w O ad k arr b) : BlkRel w' O' ad' k arr b := by
  cases b with
  | box cs => exact ⟨h.1, fun i x hx => (h.2 i x hx).step hs hin had (hk 0 i)⟩
  | row sz n el ow => exact ⟨h.1, fun i hi j hj => (h.2 i hi j hj).step hs hin had (hk i j)⟩
  | mp q has val => exact h.elim
  | mat n m el => exact ⟨h.1, fun i hi => (h.2 i hi).step hs fun B hB => (hk 0 0).inn k 0 0 i B rfl hB⟩

theorem ObjRel.step {w w' : World} {O O' : Nat → Own} {ad ad' : List Nat} (hs : Step w O w' O') (hin : InnK O O') (had : ∀ k B, nth ad k = some B → nth ad' k = some B) {k : Nat} {x : Obj} {b : Blk}
    (hk : ∀ i j, KeptAt w O w' O' (.cell k i j)) (h : ObjRel w O ad k x b) : ObjRel w' O' ad' k x b := by
  cases x with
  | cells arr ty fz =>
    have h' : fz = (0, 0) ∧ BlkRel w O ad k arr b := by cases b <;> exact h
    have := h'.2.step hs hin had hk
    cases b <;> exact ⟨h'.1, this⟩
  | map es c =>
    cases b with
    | mp q has val => exact ⟨h.ok, h.apart, h.has, fun e he => (h.val e he).step hs hin (fun _ _ h => h) .no⟩
    | _ => exact h.elim
  | _ => cases b <;> exact h.elim

theorem HeapRel.step {w w' : World} {O O' : Nat → Own} {ad ad' : List Nat} (hs : Step w O w' O') (had : ∀ k B, nth ad k = some B → nth ad' k = some B) {H : List Blk}
    (hk : KeptAll w O w' O') (hf : Fresh w O) (h : HeapRel w O ad H) : HeapRel w' O' ad' H := by
  intro k b hb
  obtain ⟨c, h1, ⟨rfl, hg⟩ | ⟨B, x, rfl, h2, h3, h4⟩⟩ := h k b hb
  · exact ⟨0, had _ _ h1, .inl ⟨rfl, hg⟩⟩
  have hlt : B < w.heap.size := (Array.getElem?_eq_some_iff.1 h3).1
  obtain ⟨h5, h6⟩ := hk B hlt (by rw [h2]; simp)
  exact ⟨B + 1, had _ _ h1, .inr ⟨B, x, rfl, h5.trans h2, h6.trans h3, h4.step hs (hk.inn hf) had (fun i j => hk.at hf _)⟩⟩

theorem EnvRel.step {w w' : World} {O O' : Nat → Own} {ad ad' : List Nat} (hs : Step w O w' O') (had : ∀ k B, nth ad k = some B → nth ad' k = some B) {nt : Nat} {e : List (Nat × AVal)} {ts : Array Value}
    (hk : KeptAll w O w' O') (hf : Fresh w O) (h : EnvRel w O ad nt e ts) : EnvRel w' O' ad' nt e ts := ⟨h.1, fun d => (h.2 d).step hs (hk.inn hf) had (hk.at hf _)⟩

theorem getD_set {ts : Array Value} {d t : Nat} {v : Value} (h : d < ts.size) : (ts.setIfInBounds d v).getD t undef = if d = t then v else ts.getD t undef := by
  simp only [Array.getD, Array.size_setIfInBounds]
  by_cases e : d = t
  · subst e; simp [h]
  · rw [if_neg e]
    split
    · rename_i hlt; exact Array.getElem_setIfInBounds_ne (by simpa using hlt) e
    · rfl

theorem EnvRel.put {w : World} {O : Nat → Own} {ad : List Nat} {nt : Nat} {e : List (Nat × AVal)} {ts : Array Value} (h : EnvRel w O ad nt e ts) {d : Nat} {x : AVal} {v : Value} (hd : d < nt)
    (hv : VRel w O ad (.tmp d) x v) : EnvRel w O ad nt ((d, x) :: e) (ts.setIfInBounds d v) := by
  refine ⟨by simp [h.1], fun t => ?_⟩
  rw [getD_set (by rw [h.1]; exact hd)]
  simp only [get]
  by_cases ht : d = t
  · subst ht; simp; exact hv
  · rw [if_neg ht]
    have : Nat.beq d t = false := Bool.eq_false_iff.2 fun h => ht (Nat.eq_of_beq_eq_true h)
    rw [this]; exact h.2 t

structure Sat (st : St) (a : Act) (w : World) (O : Nat → Own) (ad : List Nat) : Prop where
  env : EnvRel w O ad st.nt st.env a.tmps
  heap : HeapRel w O ad st.heap
  len : ad.length = st.heap.length
  pin : ∀ k, k < st.nb → nth ad k = some (st.pin k)
  dn : a.defers = []
  fresh : Fresh w O

theorem Sat.ev {st : St} {a : Act} {w : World} {O : Nat → Own} {ad : List Nat} (h : Sat st a w O ad) (x : Operand) : VRel w O ad (posOf x) (ev st.env x) (a.eval x) := by
  cases x with
  | tmp t => exact (h.env.2 t).unf
  | const v => exact avalOf_rel _ v
  | global g => exact .undef _
  | func f => exact .pv (.fn #[] rfl (fun i hi => by omega))

theorem Sat.getOwn {st : St} {a : Act} {w : World} {O : Nat → Own} {ad : List Nat} (h : Sat st a w O ad) {t : Nat} {q : PV} (e : (get st.env t).unf = AVal.pv true q) : get st.env t = AVal.pv true q := (h.env.2 t).unfOwn e

def upd (O : Nat → Own) (B : Nat) (x : Own) : Nat → Own := fun B' => if B' = B then x else O B'

theorem upd_same (O : Nat → Own) (B : Nat) (x : Own) : upd O B x B = x := by simp [upd]
theorem upd_ne (O : Nat → Own) {B B' : Nat} (x : Own) (h : B' ≠ B) : upd O B x B' = O B' := by simp [upd, h]

/-- a new block -/
def World.pushO (w : World) (x : Obj) : World := { w with heap := w.heap.push x }

/-- a new block of cells -/
abbrev World.push (w : World) (arr : Array Value) (ty : TypeId) : World := World.pushO w (.cells arr ty)

theorem pushO_at (w : World) (x : Obj) : (World.pushO w x).heap[w.heap.size]? = some x := by
  show (w.heap.push _)[w.heap.size]? = _
  simp

theorem push_at (w : World) (arr : Array Value) (ty : TypeId) : (World.push w arr ty).heap[w.heap.size]? = some (.cells arr ty (0, 0)) := pushO_at w _

theorem pushO_lt (w : World) (x : Obj) {B : Nat} (h : B < w.heap.size) : (World.pushO w x).heap[B]? = w.heap[B]? := by
  show (w.heap.push _)[B]? = _
  rw [Array.getElem?_push, if_neg (by omega)]

theorem push_lt (w : World) (arr : Array Value) (ty : TypeId) {B : Nat} (h : B < w.heap.size) : (World.push w arr ty).heap[B]? = w.heap[B]? := pushO_lt w _ h

theorem pushO_size (w : World) (x : Obj) : (World.pushO w x).heap.size = w.heap.size + 1 := by simp [World.pushO]

theorem push_size (w : World) (arr : Array Value) (ty : TypeId) : (World.push w arr ty).heap.size = w.heap.size + 1 := pushO_size w _

theorem pushO_step {w : World} {O : Nat → Own} (hf : Fresh w O) (y : Obj) (x : Own) (hx : ∀ k i, x ≠ .inn k i := by simp) :
    Step w O (World.pushO w y) (upd O w.heap.size x) ∧ KeptAll w O (World.pushO w y) (upd O w.heap.size x) ∧ Fresh (World.pushO w y) (upd O w.heap.size x) := by
  refine ⟨⟨fun B arr ty fz hB => ⟨arr, by rw [pushO_lt w y (Array.getElem?_eq_some_iff.1 hB).1]; exact hB, rfl⟩, rfl, rfl, rfl, by rw [pushO_size]; omega, fun B o hb hi => ?_, fun B hb hO => ?_, fun B hb hB => .inl (by rw [upd_ne O x (by omega)]; exact hB)⟩, fun B hb hO => ?_, fun B hb => ?_, fun B B' k i h1 h2 => ?_⟩
  · refine ⟨?_, by simp [World.cell?, pushO_lt w y hb]⟩
    unfold im at *
    rw [upd_ne O x (by omega)]; exact hi
  · rw [upd_ne O x (by omega)]; exact ⟨rfl, pushO_lt w y hb⟩
  · rw [upd_ne O x (by omega)]; exact ⟨rfl, pushO_lt w y hb⟩
  · rw [pushO_size] at hb
    rw [upd_ne O x (by omega)]; exact hf.fr B (by omega)
  · have ne : ∀ C, upd O w.heap.size x C = .inn k i → C ≠ w.heap.size := fun C h e => by subst e; rw [upd_same] at h; exact hx _ _ h
    have n1 := ne _ h1
    have n2 := ne _ h2
    rw [upd_ne O x n1] at h1
    rw [upd_ne O x n2] at h2
    exact hf.uni _ _ _ _ h1 h2

theorem push_step {w : World} {O : Nat → Own} (hf : Fresh w O) (arr : Array Value) (ty : TypeId) (x : Own) (hx : ∀ k i, x ≠ .inn k i := by simp) :
    Step w O (World.push w arr ty) (upd O w.heap.size x) ∧ KeptAll w O (World.push w arr ty) (upd O w.heap.size x) ∧ Fresh (World.push w arr ty) (upd O w.heap.size x) := pushO_step hf _ x hx

def St.put (st : St) (dst : Option Nat) (v : AVal) : St :=
  match dst with
  | some d => { st with env := (d, v) :: st.env }
  | none => st

def okDst (st : St) : Option Nat → Bool
  | some d => Nat.blt d st.nt
  | none => true

/-- where the result goes -/
def dpos : Option Nat → Pos
  | some d => .tmp d
  | none => .no

theorem Sat.put {st : St} {a : Act} {w : World} {O : Nat → Own} {ad : List Nat} (h : Sat st a w O ad) {dst : Option Nat} (hd : okDst st dst = true) {x : AVal} {v : Value}
    (hv : dst ≠ none → VRel w O ad (dpos dst) x v) : Sat (st.put dst x) (a.put dst v) w O ad := by
  cases dst with
  | none => exact h
  | some d =>
    have hd : d < st.nt := Nat.le_of_ble_eq_true hd
    exact ⟨h.env.put hd (hv (by simp)), h.heap, h.len, h.pin, h.dn, h.fresh⟩

theorem nth_snoc {α : Type} {l : List α} {x y : α} {k : Nat} (h : nth (l ++ [x]) k = some y) : nth l k = some y ∨ (k = l.length ∧ y = x) := by
  rw [nth_append] at h
  split at h
  · exact .inl h
  · rename_i hk
    right
    cases hz : k - l.length with
    | zero => rw [hz] at h; simp [nth] at h; exact ⟨by omega, h.symm⟩
    | succ n => rw [hz] at h; simp [nth] at h

theorem nth_ext {l : List Nat} (x : Nat) (k B : Nat) (h : nth l k = some B) : nth (l ++ [x]) k = some B := by
  rw [nth_append, if_pos (nth_lt h)]; exact h

theorem nth_last {α : Type} (l : List α) (x : α) : nth (l ++ [x]) l.length = some x := by
  rw [nth_append, if_neg (by omega)]; simp [nth]

/-- A new block that becomes memory of the call's own. -/
theorem Sat.pushO {st : St} {a : Act} {w : World} {O : Nat → Own} {ad : List Nat} (h : Sat st a w O ad) {y : Obj} {b : Blk} (hb : ObjRel w O ad st.heap.length y b) :
    Step w O (World.pushO w y) (upd O w.heap.size (.blk st.heap.length)) ∧
      Sat { st with heap := st.heap ++ [b] } a (World.pushO w y) (upd O w.heap.size (.blk st.heap.length)) (ad ++ [w.heap.size + 1]) := by
  obtain ⟨h1, h2, h3⟩ := pushO_step h.fresh y (.blk st.heap.length)
  refine ⟨h1, h.env.step h1 (nth_ext _) h2 h.fresh, ?_, by simp [h.len], fun k hk => nth_ext _ k _ (h.pin k hk), h.dn, h3⟩
  intro k c hc
  rcases nth_snoc hc with hc | ⟨rfl, rfl⟩
  · exact h.heap.step h1 (nth_ext _) h2 h.fresh k c hc
  · exact ⟨w.heap.size + 1, by rw [← h.len]; exact nth_last _ _, .inr ⟨w.heap.size, y, rfl, upd_same _ _ _, pushO_at w y, hb.step h1 (h2.inn h.fresh) (nth_ext _) (fun i j => h2.at h.fresh _)⟩⟩

theorem Sat.push {st : St} {a : Act} {w : World} {O : Nat → Own} {ad : List Nat} (h : Sat st a w O ad) {arr : Array Value} (ty : TypeId) {b : Blk}
    (hb : BlkRel w O ad st.heap.length arr b) :
    Step w O (World.push w arr ty) (upd O w.heap.size (.blk st.heap.length)) ∧
      Sat { st with heap := st.heap ++ [b] } a (World.push w arr ty) (upd O w.heap.size (.blk st.heap.length)) (ad ++ [w.heap.size + 1]) :=
  h.pushO (by cases b <;> exact ⟨rfl, hb⟩)

/-- A new block that nobody writes any more, or that a slice may grow in. -/
theorem Sat.push_im {st : St} {a : Act} {w : World} {O : Nat → Own} {ad : List Nat} (h : Sat st a w O ad) (arr : Array Value) (ty : TypeId) (x : Own) (hx : ∀ k i, x ≠ .inn k i := by simp) :
    Step w O (World.push w arr ty) (upd O w.heap.size x) ∧ Sat st a (World.push w arr ty) (upd O w.heap.size x) ad := by
  obtain ⟨h1, h2, h3⟩ := push_step h.fresh arr ty x hx
  exact ⟨h1, h.env.step h1 (fun _ _ h => h) h2 h.fresh, h.heap.step h1 (fun _ _ h => h) h2 h.fresh, h.len, h.pin, h.dn, h3⟩

/-- An empty row that has no block of the machine's. -/
theorem Sat.pushG {st : St} {a : Act} {w : World} {O : Nat → Own} {ad : List Nat} (h : Sat st a w O ad) (s : Nat) (el : Nat → Nat → PV) (ow : Nat → Nat → Bool) :
    Sat { st with heap := st.heap ++ [.row s 0 el ow] } a w O (ad ++ [0]) := by
  refine ⟨h.env.step (Step.refl w O) (nth_ext _) (KeptAll.refl w O) h.fresh, fun k c hc => ?_, by simp [h.len], fun k hk => nth_ext _ k _ (h.pin k hk), h.dn, h.fresh⟩
  rcases nth_snoc hc with hc | ⟨rfl, rfl⟩
  · exact h.heap.step (Step.refl w O) (nth_ext _) (KeptAll.refl w O) h.fresh k c hc
  · exact ⟨0, by rw [← h.len]; exact nth_last _ _, .inl ⟨rfl, rfl⟩⟩

end Go.Proofs.Ytgghnfmabphbmaa.Fw
