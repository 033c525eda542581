/- What the abstract values and the abstract memory say of the machine's. -/
import Derived.Test.YtgghnfmabphbmaaA1
namespace Go.Proofs.Ytgghnfmabphbmaa.Fw
open Go

/-- Where a value that owns what lies behind its end may stand. -/
inductive Pos where
  | no
  | tmp (d : Nat)
  | tup (d i : Nat)
  | cell (k i j : Nat)
  | ret
  | reti (i : Nat)

/-- Where a part of several results stands. -/
def Pos.sub : Pos → Nat → Pos
  | .tmp d, i => .tup d i
  | .ret, i => .reti i
  | _, _ => .no

/-- Whose a block is: nobody's (it is not written any more); a slice's that may grow in it; a row's or variable's; a caller's. -/
inductive Own where
  | free
  | lst (p : Pos) (fill : Nat)
  | blk (k : Nat)
  | out (s : Nat → Prop)
  | inn (k i : Nat)   -- row i of table k

/-- It is not for us to write to. -/
def Own.fixed : Own → Prop
  | .free | .out _ => True
  | _ => False

/-- memory of the call's own, or handed to it -/
def Own.mem : Own → Prop
  | .blk _ | .inn _ _ => True
  | _ => False

/-- Cells that are not written any more. -/
def im (O : Nat → Own) (B o : Nat) : Prop :=
  match O B with
  | .free => True
  | .lst _ fill => o < fill
  | .blk _ => False
  | .out s => s o
  | .inn _ _ => False

inductive PRel (w : World) (O : Nat → Own) : PV → Value → Prop
  | bool (b : Bool) : PRel w O (.bool b) (.bool b)
  | int (k : IntKind) (n : Int) : PRel w O (.int k n) (.int k n)
  | str (s : ByteArray) : PRel w O (.str s) (.string s)
  | lst {sz : Nat} {nf : NF} {n : Nat} {el : Nat → Nat → PV} {B off cap : Nat} (vals : Nat → Nat → Value)
      (hc : ∀ i, i < n → ∀ j, j < sz → w.cell? ⟨B, off + i * sz + j, none⟩ = some (vals i j) ∧ im O B (off + i * sz + j))
      (hr : ∀ i, i < n → ∀ j, j < sz → PRel w O (el i j) (vals i j)) (hcap : n ≤ cap)
      (hf : nf = .full ∨ nf = .fullAny → cap = n) (hn : nf.fits n) : PRel w O (.lst sz nf n el) (.slice (some ⟨B, off, none⟩) n cap)
  | lstNil {sz : Nat} {nf : NF} {el : Nat → Nat → PV} (hn : nf ≠ .full) (hn' : nf ≠ .notNil) : PRel w O (.lst sz nf 0 el) (.slice none 0 0)
  | lstE {sz : Nat} {nf : NF} {el : Nat → Nat → PV} (b : Addr) (hn : nf.fits 0) : PRel w O (.lst sz nf 0 el) (.slice (some b) 0 0)
  | cptr {n : Nat} {c : Nat → PV} {j B off : Nat} (vals : Nat → Value)
      (hc : ∀ j, j < n → w.cell? ⟨B, off + j, none⟩ = some (vals j) ∧ im O B (off + j)) (hr : ∀ j, j < n → PRel w O (c j) (vals j)) :
      PRel w O (.cptr n c j) (.pointer (some ⟨B, off + j, none⟩))
  | optrS {n : Nat} {c : Nat → PV} {v : Value} (h : PRel w O (.cptr n c 0) v) : PRel w O (.optr true n c) v
  | optrN {n : Nat} {c : Nat → PV} : PRel w O (.optr false n c) (.pointer none)
  | fn {f n : Nat} {c : Nat → PV} (a : Array Value) (hs : a.size = n) (hr : ∀ i, i < n → PRel w O (c i) (a.getD i undef)) : PRel w O (.fn f n c) (.func (.func f) #[] a)
  | nilp : PRel w O .nilp (.pointer none)
  | nilm : PRel w O .nilm (.map none)
  | nilf : PRel w O .nilf .nilFunc
  | nili : PRel w O .nili .nilIface
  | junk (v : Value) (h : oneC v = true) : PRel w O .junk v
  | tree {m : Nat} {l : List Tr} {v : Value} (h : PRel w O (trP m l) v) : PRel w O (.tree m l) v

def OwnOk (w : World) (O : Nat → Own) (p : Pos) (sz n : Nat) (v : Value) : Prop :=
  p ≠ .no ∧ (v = .slice none 0 0 ∨ (∃ a, v = .slice (some a) n n) ∨ ∃ B off cap arr ty, v = .slice (some ⟨B, off, none⟩) n cap ∧ O B = .lst p (off + n * sz) ∧
    w.heap[B]? = some (.cells arr ty (0, 0)) ∧ off + cap * sz ≤ arr.size)

/-- the block has so many cells -/
def RoomAt (w : World) (B m : Nat) : Prop := ∃ (arr : Array Value) (ty : TypeId) (fz : Nat × Nat), w.heap[B]? = some (.cells arr ty fz) ∧ m ≤ arr.size

inductive VRel (w : World) (O : Nat → Own) (ad : List Nat) : Pos → AVal → Value → Prop
  | pv {p : Pos} {x : PV} {v : Value} (h : PRel w O x v) : VRel w O ad p (.pv false x) v
  | own {p : Pos} {sz : Nat} {nf : NF} {n : Nat} {el : Nat → Nat → PV} {v : Value} (h : PRel w O (.lst sz nf n el) v) (ho : OwnOk w O p sz n v) :
      VRel w O ad p (.pv true (.lst sz nf n el)) v
  | ptr {p : Pos} {k sz i j B : Nat} (h : nth ad k = some (B + 1)) : VRel w O ad p (.ptr k sz i j) (.pointer (some ⟨B, i * sz + j, none⟩))
  | arrE {p : Pos} {k sz off c : Nat} {v : Value} (h : nth ad k = some c) (hv : v = .slice none 0 0 ∨ ∃ a, v = .slice (some a) 0 0) : VRel w O ad p (.arr k sz off 0) v
  | arr {p : Pos} {k sz off n B cap : Nat} (h : nth ad k = some (B + 1)) (hc : n ≤ cap) (hr : RoomAt w B ((off + cap) * sz)) : VRel w O ad p (.arr k sz off n) (.slice (some ⟨B, off * sz, none⟩) n cap)
  | mref {p : Pos} {k B : Nat} (h : nth ad k = some (B + 1)) : VRel w O ad p (.mref k) (.map (some B))
  | fn {p : Pos} {f : Nat} {cs : List AVal} (a : Array Value) (hs : a.size = cs.length) (hr : ∀ i x, nth cs i = some x → VRel w O ad .no x (a.getD i undef)) :
      VRel w O ad p (.fn f cs) (.func (.func f) #[] a)
  | agg {p : Pos} {cs : List AVal} (a : Array Value) (hs : a.size = cs.length) (hr : ∀ i x, nth cs i = some x → VRel w O ad .no x (a.getD i undef)) :
      VRel w O ad p (.agg cs) (.agg a)
  | av {p : Pos} {sz n : Nat} {el : Nat → Nat → PV} (a : Array Value) (hs : a.size = n * sz) (hr : ∀ i, i < n → ∀ j, j < sz → PRel w O (el i j) (a.getD (i * sz + j) undef)) :
      VRel w O ad p (.av sz n el) (.agg a)
  | tup {p : Pos} {cs : List AVal} (a : Array Value) (hs : a.size = cs.length)
      (hr : ∀ i x, nth cs i = some x → VRel w O ad (p.sub i) x (a.getD i undef)) : VRel w O ad p (.tup cs) (.tuple a)
  | undef {p : Pos} (v : Value) : VRel w O ad p .undef v
  | subE {p : Pos} {k i c : Nat} {v : Value} (ha : nth ad k = some c) (hv : v = .slice none 0 0 ∨ ∃ a, v = .slice (some a) 0 0) : VRel w O ad p (.sub k i 0) v
  | sub {p : Pos} {k i n B cap c : Nat} (ha : nth ad k = some c) (h : O B = .inn k i) (hc : n ≤ cap) : VRel w O ad p (.sub k i n) (.slice (some ⟨B, 0, none⟩) n cap)
  | psub {p : Pos} {k i j B c : Nat} (ha : nth ad k = some c) (h : O B = .inn k i) : VRel w O ad p (.psub k i j) (.pointer (some ⟨B, j, none⟩))

/-- what stands at the head of a table's row -/
def Hdr (w : World) (O : Nat → Own) (k i m : Nat) (el : Nat → PV) (v : Value) : Prop :=
  (m = 0 ∧ (v = .slice none 0 0 ∨ ∃ a, v = .slice (some a) 0 0)) ∨
  ∃ B cap arr ty, v = .slice (some ⟨B, 0, none⟩) m cap ∧ O B = .inn k i ∧ w.heap[B]? = some (.cells arr ty (0, 0)) ∧ m ≤ cap ∧ cap ≤ arr.size ∧ ∀ j, j < m → PRel w O (el j) (arr.getD j undef)

/-- What is laid into memory is told cell by cell. -/
def BlkRel (w : World) (O : Nat → Own) (ad : List Nat) (k : Nat) (arr : Array Value) : Blk → Prop
  | .box cs => arr.size = cs.length ∧ ∀ i x, nth cs i = some x → VRel w O ad (.cell k 0 i) x (arr.getD i undef)
  | .row sz n el ow => n * sz ≤ arr.size ∧ ∀ i, i < n → ∀ j, j < sz → VRel w O ad (.cell k i j) (.pv (ow i j) (el i j)) (arr.getD (i * sz + j) undef)
  | .mp _ _ _ => False
  | .mat n m el => n ≤ arr.size ∧ ∀ i, i < n → Hdr w O k i (m i) (el i) (arr.getD i undef)

/-- A map's entries: keys of one kind, each once; what stands at each. -/
structure MapRel (w : World) (O : Nat → Own) (es : List MapEntry) (q : KD) (has : Value → Bool) (val : Value → AVal) : Prop where
  ok : ∀ e ∈ es, keyOk q e.key = true
  apart : es.Pairwise fun x y => x.key ≠ y.key
  has : ∀ u, keyOk q u = true → (has u = true ↔ ∃ e ∈ es, e.key = u)
  val : ∀ e ∈ es, VRel w O [] .no (val e.key) e.val

def ObjRel (w : World) (O : Nat → Own) (ad : List Nat) (k : Nat) : Obj → Blk → Prop
  | .map es _, .mp q has val => MapRel w O es.toList q has val
  | .cells arr _ fz, b => fz = (0, 0) ∧ BlkRel w O ad k arr b
  | _, _ => False

def HeapRel (w : World) (O : Nat → Own) (ad : List Nat) (H : List Blk) : Prop :=
  ∀ k b, nth H k = some b → ∃ c, nth ad k = some c ∧ ((c = 0 ∧ b.ghost) ∨ ∃ B x, c = B + 1 ∧ O B = .blk k ∧ w.heap[B]? = some x ∧ ObjRel w O ad k x b)

theorem HeapRel.real {w : World} {O : Nat → Own} {ad : List Nat} {H : List Blk} (h : HeapRel w O ad H) {k : Nat} {b : Blk} (hk : nth H k = some b) (hg : ¬ b.ghost) :
    ∃ B x, nth ad k = some (B + 1) ∧ O B = .blk k ∧ w.heap[B]? = some x ∧ ObjRel w O ad k x b := by
  obtain ⟨c, h1, ⟨_, h⟩ | ⟨B, x, rfl, h2, h3, h4⟩⟩ := h k b hk
  · exact absurd h hg
  · exact ⟨B, x, h1, h2, h3, h4⟩

theorem HeapRel.realB {w : World} {O : Nat → Own} {ad : List Nat} {H : List Blk} (h : HeapRel w O ad H) {k B : Nat} {b : Blk} (hk : nth H k = some b) (hB : nth ad k = some (B + 1)) :
    ∃ x, O B = .blk k ∧ w.heap[B]? = some x ∧ ObjRel w O ad k x b := by
  obtain ⟨c, h1, ⟨h, _⟩ | ⟨B', x, rfl, h2, h3, h4⟩⟩ := h k b hk
  · rw [hB] at h1; have := Option.some.inj h1; omega
  · rw [hB] at h1
    obtain rfl := Nat.succ.inj (Option.some.inj h1)
    exact ⟨x, h2, h3, h4⟩

/-- a block that is no map -/
def Blk.flat : Blk → Bool
  | .mp _ _ _ => false
  | _ => true

theorem HeapRel.cells {w : World} {O : Nat → Own} {ad : List Nat} {H : List Blk} (h : HeapRel w O ad H) {k : Nat} {b : Blk} (hk : nth H k = some b) (hb : b.flat = true) (hg : ¬ b.ghost) :
    ∃ B arr ty, nth ad k = some (B + 1) ∧ O B = .blk k ∧ w.heap[B]? = some (.cells arr ty (0, 0)) ∧ BlkRel w O ad k arr b := by
  obtain ⟨B, x, h1, h2, h3, h4⟩ := h.real hk hg
  cases x with
  | cells arr ty fz =>
    have : fz = (0, 0) ∧ BlkRel w O ad k arr b := by cases b <;> exact h4
    obtain ⟨rfl, h5⟩ := this
    exact ⟨B, arr, ty, h1, h2, h3, h5⟩
  | map es c => cases b <;> first | exact h4.elim | simp [Blk.flat] at hb
  | _ => cases b <;> exact h4.elim

/-- the same, where the block is known to be there -/
theorem HeapRel.cellsB {w : World} {O : Nat → Own} {ad : List Nat} {H : List Blk} (h : HeapRel w O ad H) {k B : Nat} {b : Blk} (hk : nth H k = some b) (hb : b.flat = true) (hB : nth ad k = some (B + 1)) :
    ∃ B' arr ty, B = B' ∧ O B' = .blk k ∧ w.heap[B']? = some (.cells arr ty (0, 0)) ∧ BlkRel w O ad k arr b := by
  obtain ⟨x, h2, h3, h4⟩ := h.realB hk hB
  cases x with
  | cells arr ty fz =>
    have : fz = (0, 0) ∧ BlkRel w O ad k arr b := by cases b <;> exact h4
    obtain ⟨rfl, h5⟩ := this
    exact ⟨B, arr, ty, rfl, h2, h3, h5⟩
  | map es c => cases b <;> first | exact h4.elim | simp [Blk.flat] at hb
  | _ => cases b <;> exact h4.elim

theorem HeapRel.map {w : World} {O : Nat → Own} {ad : List Nat} {H : List Blk} (h : HeapRel w O ad H) {k : Nat} {q : KD} {has : Value → Bool} {val : Value → AVal} (hk : nth H k = some (.mp q has val)) :
    ∃ B es c, nth ad k = some (B + 1) ∧ O B = .blk k ∧ w.heap[B]? = some (.map es c) ∧ MapRel w O es.toList q has val := by
  obtain ⟨B, x, h1, h2, h3, h4⟩ := h.real hk (fun h => h)
  cases x with
  | map es c => exact ⟨B, es, c, h1, h2, h3, h4⟩
  | cells arr ty fz => exact h4.2.elim
  | _ => exact h4.elim

def EnvRel (w : World) (O : Nat → Own) (ad : List Nat) (nt : Nat) (e : List (Nat × AVal)) (ts : Array Value) : Prop :=
  ts.size = nt ∧ ∀ d, VRel w O ad (.tmp d) (get e d) (ts.getD d undef)

/-- a row of a table has one block -/
def Uni (O : Nat → Own) : Prop := ∀ B B' k i, O B = .inn k i → O B' = .inn k i → B = B'

/-- Cells that the abstract state speaks of. -/
def live (O : Nat → Own) (B o : Nat) : Prop :=
  match O B with
  | .lst _ fill => o < fill
  | _ => True

theorem live_blk {O : Nat → Own} {B k : Nat} (h : O B = .blk k) (o : Nat) : live O B o := by simp [live, h]

def Agree (O : Nat → Own) (w w' : World) : Prop := ∀ B o, B < w.heap.size → live O B o → w'.cell? ⟨B, o, none⟩ = w.cell? ⟨B, o, none⟩

theorem Agree.refl (O : Nat → Own) (w : World) : Agree O w w := fun _ _ _ _ => rfl

theorem cell_lt {w : World} {B o : Nat} {v : Value} (h : w.cell? ⟨B, o, none⟩ = some v) : B < w.heap.size := by
  unfold World.cell? at h
  split at h
  · rename_i hb; exact (Array.getElem?_eq_some_iff.1 hb).1
  · simp at h

theorem cell_of_block {w : World} {B : Nat} {arr : Array Value} {ty : TypeId} {fz : Nat × Nat} (h : w.heap[B]? = some (.cells arr ty fz)) (o : Nat) :
    w.cell? ⟨B, o, none⟩ = arr[o]? := by
  simp [World.cell?, h]

theorem cell_of_block' {w : World} {B : Nat} {arr : Array Value} {ty : TypeId} {fz : Nat × Nat} (h : w.heap[B]? = some (.cells arr ty fz)) {o : Nat} (ho : o < arr.size) :
    w.cell? ⟨B, o, none⟩ = some (arr.getD o undef) := by
  rw [cell_of_block h]; simp [Array.getD, ho]

theorem nth_lt {α : Type} : ∀ {l : List α} {i : Nat} {x : α}, nth l i = some x → i < l.length
  | [], _, _, h => by simp [nth] at h
  | _ :: _, 0, _, _ => by simp
  | _ :: r, n + 1, x, h => by have := nth_lt (l := r) (i := n) h; simp; omega

theorem nth_eq {α : Type} : ∀ (l : List α) (i : Nat), nth l i = l[i]?
  | [], _ => by simp [nth]
  | _ :: _, 0 => by simp [nth]
  | _ :: r, n + 1 => by simp [nth, nth_eq r n]

theorem nth_shedAll {x : AVal} : ∀ {l : List AVal} {i : Nat}, nth (shedAll l) i = some x → ∃ y, nth l i = some y ∧ x = y.shed1
  | [], _, h => by simp [shedAll, nth] at h
  | y :: _, 0, h => by simp [shedAll, nth] at h; exact ⟨y, rfl, h.symm⟩
  | _ :: r, n + 1, h => by simp only [shedAll, nth] at h; exact nth_shedAll (i := n) (l := r) h

theorem length_shedAll : ∀ (l : List AVal), (shedAll l).length = l.length
  | [] => rfl
  | _ :: r => by simp [shedAll, length_shedAll r]

theorem Pos.sub_sub (p : Pos) (i j : Nat) : (p.sub i).sub j = .no := by cases p <;> rfl

theorem VRel.shed1' {w : World} {O : Nat → Own} {ad : List Nat} {p q : Pos} {x : AVal} {v : Value} (hp : ∀ i, p.sub i = .no) (hq : ∀ i, q.sub i = .no) (h : VRel w O ad p x v) :
    VRel w O ad q x.shed1 v := by
  cases h with
  | tup a hs hr => exact .tup a hs (fun i x hx => by have := hr i x hx; rw [hp i] at this; rw [hq i]; exact this)
  | pv h => exact .pv h
  | own h _ => exact .pv h
  | ptr h => exact .ptr h
  | arrE h hv => exact .arrE h hv
  | arr h hc hr => exact .arr h hc hr
  | mref h => exact .mref h
  | fn a hs hr => exact .fn a hs hr
  | agg a hs hr => exact .agg a hs hr
  | av a hs hr => exact .av a hs hr
  | undef _ => exact .undef _
  | subE ha hv => exact .subE ha hv
  | sub ha h hc => exact .sub ha h hc
  | psub ha h => exact .psub ha h

theorem VRel.shed {w : World} {O : Nat → Own} {ad : List Nat} {p : Pos} (q : Pos) {x : AVal} {v : Value} (h : VRel w O ad p x v) : VRel w O ad q x.shed v := by
  cases h with
  | tup a hs hr =>
    refine .tup a (by rw [length_shedAll]; exact hs) ?_
    intro i x hx
    obtain ⟨y, hy, rfl⟩ := nth_shedAll hx
    exact (hr i y hy).shed1' (fun j => p.sub_sub i j) (fun j => q.sub_sub i j)
  | pv h => exact .pv h
  | own h _ => exact .pv h
  | ptr h => exact .ptr h
  | arrE h hv => exact .arrE h hv
  | arr h hc hr => exact .arr h hc hr
  | mref h => exact .mref h
  | fn a hs hr => exact .fn a hs hr
  | agg a hs hr => exact .agg a hs hr
  | av a hs hr => exact .av a hs hr
  | undef _ => exact .undef _
  | subE ha hv => exact .subE ha hv
  | sub ha h hc => exact .sub ha h hc
  | psub ha h => exact .psub ha h

theorem VRel.any' {w : World} {O : Nat → Own} {ad : List Nat} (q : Pos) (hq : ∀ i, q.sub i = .no) {x : AVal} {v : Value} (h : VRel w O ad .no x v) : VRel w O ad q x v := by
  cases h with
  | tup a hs hr => exact .tup a hs (fun i x hx => by have := hr i x hx; rw [hq i]; exact this)
  | pv h => exact .pv h
  | own _ ho => exact absurd rfl ho.1
  | ptr h => exact .ptr h
  | arrE h hv => exact .arrE h hv
  | arr h hc hr => exact .arr h hc hr
  | mref h => exact .mref h
  | fn a hs hr => exact .fn a hs hr
  | agg a hs hr => exact .agg a hs hr
  | av a hs hr => exact .av a hs hr
  | undef _ => exact .undef _
  | subE ha hv => exact .subE ha hv
  | sub ha h hc => exact .sub ha h hc
  | psub ha h => exact .psub ha h

/-- what owns nothing may stand anywhere -/
theorem VRel.any {w : World} {O : Nat → Own} {ad : List Nat} (q : Pos) {x : AVal} {v : Value} (h : VRel w O ad .no x v) : VRel w O ad q x v := by
  cases h with
  | tup a hs hr => exact .tup a hs (fun i x hx => (hr i x hx).any' _ (fun j => q.sub_sub i j))
  | pv h => exact .pv h
  | own _ ho => exact absurd rfl ho.1
  | ptr h => exact .ptr h
  | arrE h hv => exact .arrE h hv
  | arr h hc hr => exact .arr h hc hr
  | mref h => exact .mref h
  | fn a hs hr => exact .fn a hs hr
  | agg a hs hr => exact .agg a hs hr
  | av a hs hr => exact .av a hs hr
  | undef _ => exact .undef _
  | subE ha hv => exact .subE ha hv
  | sub ha h hc => exact .sub ha h hc
  | psub ha h => exact .psub ha h

/-- kids, told as a slice -/
theorem VRel.unf {w : World} {O : Nat → Own} {ad : List Nat} {p : Pos} {x : AVal} {v : Value} (h : VRel w O ad p x v) : VRel w O ad p x.unf v := by
  unfold AVal.unf
  cases hx : x.isTree with
  | false => exact h
  | true =>
    rw [cond_true]
    cases h with
    | pv h =>
      cases h with
      | tree h => exact .pv h
      | _ => simp [AVal.isTree, PV.isTree] at hx
    | own h _ => simp [AVal.isTree, PV.isTree] at hx
    | _ => simp [AVal.isTree] at hx

theorem VRel.unfOwn {w : World} {O : Nat → Own} {ad : List Nat} {p : Pos} {x : AVal} {v : Value} {q : PV} (h : VRel w O ad p x v) (e : x.unf = .pv true q) : x = .pv true q := by
  unfold AVal.unf at e
  cases hx : x.isTree with
  | false => rw [hx] at e; exact e
  | true =>
    rw [hx, cond_true] at e
    cases h with
    | pv h => simp [AVal.unfT] at e
    | own h _ => simp [AVal.isTree, PV.isTree] at hx
    | _ => simp [AVal.isTree] at hx

end Go.Proofs.Ytgghnfmabphbmaa.Fw
