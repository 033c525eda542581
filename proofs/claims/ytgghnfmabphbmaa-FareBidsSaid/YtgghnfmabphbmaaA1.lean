/- The words of a symbolic executor for loaded Go functions: abstract values, abstract memory, and what one operation makes of them. -/
import Derived.Orders
import Derived.Below
namespace Go.Proofs.Ytgghnfmabphbmaa.Fw
open Go

/-- What is known of a slice's being nil: it is nil; its capacity is its length and it is not nil; it is not nil; nothing; its capacity is its length. -/
inductive NF where
  | isNil | full | notNil | any | fullAny
  | iff   -- nil if it is empty, and only then
  deriving DecidableEq

/-- may a slice of n elements that is not nil be told so? -/
@[simp] def NF.fits : NF → Nat → Prop
  | .isNil, _ => False
  | .iff, n => 0 < n
  | _, _ => True

/-- Data that hold data of their own kind: numbers, kids. -/
inductive Tr where
  | mk (ns : List Int) (kids : List Tr)

def Tr.ns : Tr → List Int
  | .mk a _ => a

def Tr.kids : Tr → List Tr
  | .mk _ b => b

def Tr.d : Tr := .mk [] []

/-- Values that lead to memory that nobody writes any more. -/
inductive PV where
  | bool (b : Bool)
  | int (k : IntKind) (n : Int)
  | str (s : ByteArray)
  | lst (sz : Nat) (nf : NF) (n : Nat) (el : Nat → Nat → PV)
  | cptr (n : Nat) (c : Nat → PV) (j : Nat)
  | optr (b : Bool) (n : Nat) (c : Nat → PV)   -- a pointer to n cells, or nil
  | fn (f : FuncId) (n : Nat) (cap : Nat → PV)
  | nilp | nilm | nilf | nili
  | junk
  | tree (m : Nat) (l : List Tr)

/-- cell j of a datum that holds data of its kind: m numbers, then its kids -/
def trC (m : Nat) (x : Tr) (j : Nat) : PV := bif Nat.blt j m then .int .i64 (x.ns.getD j 0) else .tree m x.kids

/-- kids, as a slice -/
def trP (m : Nat) (l : List Tr) : PV := .lst (m + 1) .any l.length fun i j => trC m (l.getD i Tr.d) j

def PV.isTree : PV → Bool
  | .tree _ _ => true
  | _ => false

def PV.unf : PV → PV
  | .tree m l => trP m l
  | p => p

/-- Values of temporaries. `own`: a slice behind whose end nobody else may write. -/
inductive AVal where
  | pv (own : Bool) (p : PV)
  | ptr (k sz i j : Nat)
  | arr (k sz off n : Nat)
  | mref (k : Nat)
  | fn (f : FuncId) (caps : List AVal)
  | agg (cs : List AVal)
  | av (sz n : Nat) (el : Nat → Nat → PV)
  | tup (vs : List AVal)
  | undef
  | sub (k i n : Nat)    -- row i of a table
  | psub (k i j : Nat)   -- its cell j

/-- Kinds of keys of maps. -/
inductive KD where
  | int (q : IntKind)
  | str
  | bool
  deriving DecidableEq

/-- Memory of the call's own, or handed to it: a variable; a row of elements; a map. -/
inductive Blk where
  | box (cs : List AVal)
  | row (sz n : Nat) (el : Nat → Nat → PV) (ow : Nat → Nat → Bool)
  | mp (q : KD) (has : Value → Bool) (val : Value → AVal)
  | mat (n : Nat) (m : Nat → Nat) (el : Nat → Nat → PV)   -- a table: n rows of m i cells, each in memory of its own

/-- an empty row: no block of the machine's need be there -/
def Blk.ghost : Blk → Prop
  | .row _ n _ _ => n = 0
  | _ => False

structure St where
  nt : Nat
  env : List (Nat × AVal)
  heap : List Blk
  nb : Nat := 0
  pin : Nat → Nat := fun _ => 0

def get : List (Nat × AVal) → Nat → AVal
  | [], _ => .undef
  | (d, v) :: r, t => bif Nat.beq d t then v else get r t

def AVal.isTree : AVal → Bool
  | .pv _ p => p.isTree
  | _ => false

def AVal.unfT : AVal → AVal
  | .pv o p => .pv o p.unf
  | v => v

/-- kids are told as a slice -/
def AVal.unf (v : AVal) : AVal := bif v.isTree then v.unfT else v

def AVal.shed1 : AVal → AVal
  | .pv _ p => .pv false p
  | v => v

def shedAll : List AVal → List AVal
  | [] => []
  | v :: r => v.shed1 :: shedAll r

/-- the value without the right to write behind its end -/
def AVal.shed : AVal → AVal
  | .tup vs => .tup (shedAll vs)
  | v => v.shed1

mutual
def AVal.hasOwn : AVal → Bool
  | .pv o _ => o
  | .agg cs => ownAny cs
  | .tup cs => ownAny cs
  | .fn _ cs => ownAny cs
  | _ => false
def ownAny : List AVal → Bool
  | [] => false
  | v :: r => v.hasOwn || ownAny r
end

/-- What the executor asks of the table of types. -/
structure TI where
  desc : TypeDesc
  size : Nat
  bytes : Nat
  zero : Value

structure Tab where
  f : TypeId → Option TI
  /-- conditions are computed -/
  conc : Bool
  /-- functions whose bodies are carried out in their calls' places -/
  inl : Nat → Option (List AVal → List Blk → (AVal → List Blk → Prop) → Prop)
  /-- structs that may be compared -/
  cmp : TypeId → Bool

instance : CoeFun Tab (fun _ => TypeId → Option TI) := ⟨Tab.f⟩

structure TabOk (P : Program) (T : Tab) : Prop where
  ok : ∀ t x, T t = some x → P.underlying t = some x.desc ∧ ∃ i, P.info? t = some i ∧ i.size = x.size ∧ i.bytes = x.bytes ∧ i.zero = some x.zero
  cmp : ∀ t, T.cmp t = true → P.stoodInHeld t = false ∧ P.eqGuardType P.depth t = false ∧ ∀ fs, P.underlying t = some (.struct fs) → ∀ f ∈ fs.toList, f.name ≠ "_"

def pvOf : Value → PV
  | .bool b => .bool b
  | .int k n => .int k n
  | .string s => .str s
  | .slice none n c => bif Nat.beq n 0 && Nat.beq c 0 then .lst 0 .isNil 0 (fun _ _ => .junk) else .junk
  | .pointer none => .nilp
  | .map none => .nilm
  | .nilFunc => .nilf
  | .nilIface => .nili
  | .func (.func f) x y => bif Nat.beq x.size 0 && Nat.beq y.size 0 then .fn f 0 (fun _ => .junk) else .junk
  | _ => .junk

def oneC : Value → Bool
  | .agg _ | .tuple _ => false
  | _ => true

def avalsOf : List Value → List AVal
  | [] => []
  | v :: r => .pv false (pvOf v) :: avalsOf r

def avalOf : Value → AVal
  | .agg cs => bif cs.toList.all oneC then .agg (avalsOf cs.toList) else .undef
  | .tuple _ => .undef
  | v => .pv false (pvOf v)

def ev (e : List (Nat × AVal)) : Operand → AVal
  | .tmp t => (get e t).unf
  | .const v => avalOf v
  | .func f => .pv false (.fn f 0 fun _ => .junk)
  | .global _ => .undef

/-- the cells of a row of elements, from number q on -/
def avCells (sz : Nat) (el : Nat → Nat → PV) : Nat → Nat → List AVal
  | _, 0 => []
  | q, m + 1 => .pv false (el (q / sz) (q % sz)) :: avCells sz el (q + 1) m

/-- The cells of a value, one by one. -/
def AVal.cells : AVal → List AVal
  | .agg cs => cs
  | .av sz n el => avCells sz el 0 (n * sz)
  | v => [v]

/-- a value whose cells are told -/
def AVal.told : AVal → Bool
  | .tup _ | .undef => false
  | _ => true

def isAgg : TypeDesc → Bool
  | .struct _ | .array _ _ => true
  | _ => false

/-- cells j, j+1, .. of a run of cells, as a value of a type -/
def cellsFrom (c : Nat → PV) (j : Nat) : Nat → List AVal
  | 0 => []
  | n + 1 => .pv false (c j) :: cellsFrom c (j + 1) n

def isPv : AVal → Bool
  | .pv _ _ => true
  | _ => false

def asPv : AVal → PV
  | .pv _ p => p
  | _ => .junk

def nth {α : Type} : List α → Nat → Option α
  | [], _ => none
  | v :: _, 0 => some v
  | _ :: r, n + 1 => nth r n

def shedL : List AVal → List AVal
  | [] => []
  | v :: r => v.shed :: shedL r

/-- cells j, .., j + n - 1 of a list of cells, if they are there -/
def part (cs : List AVal) : Nat → Nat → Option (List AVal)
  | _, 0 => some []
  | j, n + 1 =>
    match nth cs j, part cs (j + 1) n with
    | some v, some r => some (v.shed :: r)
    | _, _ => none

/-- one of two, by a test -/
def br (b : Bool) (A B : Prop) : Prop :=
  match b with
  | true => A
  | false => B

theorem br_iff {b : Bool} {A B : Prop} : br b A B ↔ (b = true → A) ∧ (b = false → B) := by cases b <;> simp [br]

theorem br_mk {b : Bool} {A B : Prop} (h1 : b = true → A) (h2 : b = false → B) : br b A B := br_iff.2 ⟨h1, h2⟩

/-- a closed fact that must hold -/
def need (b : Bool) (K : Prop) : Prop := br b K False

theorem need_iff {b : Bool} {K : Prop} : need b K ↔ b = true ∧ K := by cases b <;> simp [need, br]

theorem needE {b : Bool} {K : Prop} (h : need b K) : b = true ∧ K := need_iff.1 h

/-- a condition: to be shown, or computed -/
def cnd (c : Bool) (p : Prop) [Decidable p] (K : Prop) : Prop :=
  match c with
  | true => need (decide p) K
  | false => p ∧ K

theorem cndE {c : Bool} {p : Prop} [Decidable p] {K : Prop} (h : cnd c p K) : p ∧ K := by
  cases c with
  | false => exact h
  | true => exact ⟨of_decide_eq_true (needE h).1, (needE h).2⟩

theorem needC {b c : Bool} {p : Prop} [Decidable p] {K : Prop} (h : need b (cnd c p K)) : b = true ∧ p ∧ K := ⟨(needE h).1, cndE (needE h).2⟩

theorem beqE {a b : Nat} (h : Nat.beq a b = true) : a = b := Nat.eq_of_beq_eq_true h
theorem bleE {a b : Nat} (h : Nat.ble a b = true) : a ≤ b := Nat.le_of_ble_eq_true h
theorem bltE {a b : Nat} (h : Nat.blt a b = true) : a < b := Nat.le_of_ble_eq_true h
theorem andE {a b : Bool} (h : (a && b) = true) : a = true ∧ b = true := by simpa using h
theorem nbeqE {a b : Nat} (h : (!Nat.beq a b) = true) : a ≠ b := by rintro rfl; simp at h

def shlI (k : IntKind) (a b : Int) : Int := k.wrap (a * 2 ^ min b.toNat k.bits)
def shrI (k : IntKind) (a b : Int) : Int := a.fdiv (2 ^ min b.toNat k.bits)
def andI (k : IntKind) (a b : Int) : Int := k.wrap (BitVec.ofInt k.bits a &&& BitVec.ofInt k.bits b).toNat
def orI (k : IntKind) (a b : Int) : Int := k.wrap (BitVec.ofInt k.bits a ||| BitVec.ofInt k.bits b).toNat
def xorI (k : IntKind) (a b : Int) : Int := k.wrap (BitVec.ofInt k.bits a ^^^ BitVec.ofInt k.bits b).toNat
def andNotI (k : IntKind) (a b : Int) : Int := k.wrap (BitVec.ofInt k.bits a &&& ~~~BitVec.ofInt k.bits b).toNat

/-- shifts -/
def shiftK (op : BinOp) (k : IntKind) (a b : Int) (K : AVal → Prop) : Prop :=
  match op with
  | .shl => need (decide (0 ≤ b)) (K (.pv false (.int k (shlI k a b))))
  | .shr => need (decide (0 ≤ b)) (K (.pv false (.int k (shrI k a b))))
  | _ => False

def intK (op : BinOp) (k : IntKind) (a b : Int) (K : AVal → Prop) : Prop :=
  match op with
  | .and => K (.pv false (.int k (andI k a b)))
  | .or => K (.pv false (.int k (orI k a b)))
  | .xor => K (.pv false (.int k (xorI k a b)))
  | .andNot => K (.pv false (.int k (andNotI k a b)))
  | .shl => shiftK .shl k a b K
  | .shr => shiftK .shr k a b K
  | .add => K (.pv false (.int k (k.wrap (a + b))))
  | .sub => K (.pv false (.int k (k.wrap (a - b))))
  | .mul => K (.pv false (.int k (k.wrap (a * b))))
  | .quo => need (!decide (b = 0)) (K (.pv false (.int k (k.wrap (a.tdiv b)))))
  | .rem => need (!decide (b = 0)) (K (.pv false (.int k (a.tmod b))))
  | .eql => K (.pv false (.bool (decide (a = b))))
  | .neq => K (.pv false (.bool (!decide (a = b))))
  | .lss => K (.pv false (.bool (decide (a < b))))
  | .leq => K (.pv false (.bool (decide (a ≤ b))))
  | .gtr => K (.pv false (.bool (decide (b < a))))
  | .geq => K (.pv false (.bool (decide (b ≤ a))))

/-- is a slice nil? -/
def nilK (c : Bool) (nf : NF) (n : Nat) (K : Bool → Prop) : Prop :=
  match nf with
  | .isNil => K true
  | .full | .notNil => K false
  | .iff => K (Nat.beq n 0)
  | _ => bif c && !Nat.beq n 0 then K false else ∀ b : Bool, (b = true → n = 0) → K b

theorem nilK_base {c : Bool} {nf : NF} {n : Nat} {K : Bool → Prop} (h : nilK c nf n K) : nilK false nf n K := by
  cases nf with
  | isNil => exact h
  | full => exact h
  | notNil => exact h
  | iff => exact h
  | any =>
    unfold nilK at h
    cases hc : (c && !Nat.beq n 0) with
    | false => rw [hc] at h; exact h
    | true =>
      rw [hc] at h
      intro b hb
      cases b with
      | false => exact h
      | true => exact absurd (hb rfl) (nbeqE (andE hc).2)
  | fullAny =>
    unfold nilK at h
    cases hc : (c && !Nat.beq n 0) with
    | false => rw [hc] at h; exact h
    | true =>
      rw [hc] at h
      intro b hb
      cases b with
      | false => exact h
      | true => exact absurd (hb rfl) (nbeqE (andE hc).2)

/-- are structs of numbers, truths and strings the same? -/
def eqK (T : Tab) (xs ys : List AVal) : List Field → (Bool → Prop) → Prop
  | [], K => K true
  | f :: fs, K =>
    match T f.type, nth xs f.offset, nth ys f.offset with
    | some ⟨.int _, _, _, _⟩, some (.pv _ (.int k a)), some (.pv _ (.int k' b)) => need (decide (k = k')) (eqK T xs ys fs fun r => K (decide (a = b) && r))
    | some ⟨.bool, _, _, _⟩, some (.pv _ (.bool a)), some (.pv _ (.bool b)) => eqK T xs ys fs fun r => K ((a == b) && r)
    | some ⟨.string, _, _, _⟩, some (.pv _ (.str a)), some (.pv _ (.str b)) => eqK T xs ys fs fun r => K (decide (a = b) && r)
    | _, _, _ => False

/-- are rows of n numbers the same? (from the last one on) -/
def eqAK (el el' : Nat → Nat → PV) : Nat → (Bool → Prop) → Prop
  | 0, K => K true
  | n + 1, K =>
    match el n 0, el' n 0 with
    | .int k a, .int k' b => need (decide (k = k')) (eqAK el el' n fun r => K (r && decide (a = b)))
    | _, _ => False

/-- strings, joined or compared -/
def strK (c : Bool) (op : BinOp) (a b : ByteArray) (K : AVal → Prop) : Prop :=
  match op with
  | .add => cnd c (a.size + b.size ≤ 9223372036854775807) (K (.pv false (.str (a ++ b))))
  | .eql => K (.pv false (.bool (decide (a = b))))
  | .neq => K (.pv false (.bool (!decide (a = b))))
  | .lss => K (.pv false (.bool (Op.bytesLess a.toList b.toList)))
  | .leq => K (.pv false (.bool (Op.bytesLess a.toList b.toList || decide (a = b))))
  | .gtr => K (.pv false (.bool (!(Op.bytesLess a.toList b.toList || decide (a = b)))))
  | .geq => K (.pv false (.bool (!Op.bytesLess a.toList b.toList)))
  | _ => False

def binK (T : Tab) (op : BinOp) (t : TypeId) (x y : AVal) (K : AVal → Prop) : Prop :=
  match x, y with
  | .pv _ (.int k a), .pv _ (.int k' b) => bif decide (k = k') then intK op k a b K else shiftK op k a b K
  | .pv _ (.bool a), .pv _ (.bool b) =>
    match T t, op with
    | some ⟨.bool, _, _, _⟩, .eql => K (.pv false (.bool (a == b)))
    | some ⟨.bool, _, _, _⟩, .neq => K (.pv false (.bool (!(a == b))))
    | _, _ => False
  | .pv _ (.lst _ nf n _), .pv _ (.lst _ .isNil 0 _) =>
    match T t, op with
    | some ⟨.slice _, _, _, _⟩, .eql => nilK T.conc nf n fun b => K (.pv false (.bool b))
    | some ⟨.slice _, _, _, _⟩, .neq => nilK T.conc nf n fun b => K (.pv false (.bool (!b)))
    | _, _ => False
  | .arr _ _ _ n, .pv _ (.lst _ .isNil 0 _) =>
    match T t, op with
    | some ⟨.slice _, _, _, _⟩, .eql => nilK T.conc .any n fun b => K (.pv false (.bool b))
    | some ⟨.slice _, _, _, _⟩, .neq => nilK T.conc .any n fun b => K (.pv false (.bool (!b)))
    | _, _ => False
  | .pv _ (.str a), .pv _ (.str b) => strK T.conc op a b K
  | .agg xs, .agg ys =>
    match T t, op with
    | some ⟨.struct fs, _, _, _⟩, .eql => need (T.cmp t) (eqK T xs ys fs.toList fun r => K (.pv false (.bool r)))
    | some ⟨.struct fs, _, _, _⟩, .neq => need (T.cmp t) (eqK T xs ys fs.toList fun r => K (.pv false (.bool (!r))))
    | _, _ => False
  | .av s n el, .av s' n' el' =>
    match T t, op with
    | some ⟨.array len e, _, _, _⟩, .eql => need (T.cmp t && (Nat.beq s 1 && (Nat.beq s' 1 && (Nat.beq n len && Nat.beq n' len)))) <| match T e with
      | some ⟨.int _, 1, _, _⟩ => eqAK el el' len fun r => K (.pv false (.bool r))
      | _ => False
    | some ⟨.array len e, _, _, _⟩, .neq => need (T.cmp t && (Nat.beq s 1 && (Nat.beq s' 1 && (Nat.beq n len && Nat.beq n' len)))) <| match T e with
      | some ⟨.int _, 1, _, _⟩ => eqAK el el' len fun r => K (.pv false (.bool !r))
      | _ => False
    | _, _ => False
  | _, _ => False

def loadK (T : Tab) (H : List Blk) (t : TypeId) (a : AVal) (K : AVal → Prop) : Prop :=
  match T t with
  | none => False
  | some ti =>
    match a with
    | .pv _ (.cptr n c j) =>
      match ti.desc with
      | .struct _ => need (Nat.ble (j + ti.size) n) (K (.agg (cellsFrom c j ti.size)))
      | .array len e =>
        match T e with
        | some te => need (Nat.beq ti.size (len * te.size) && Nat.ble (j + ti.size) n) (K (.av te.size len fun i l => c (j + i * te.size + l)))
        | none => False
      | _ => need (Nat.blt j n) (K (.pv false (c j)))
    | .ptr k sz i j =>
      match nth H k with
      | some (.box cs) =>
        match ti.desc with
        | .struct _ =>
          match part cs (i * sz + j) ti.size with
          | some l => K (.agg l)
          | none => False
        | .array _ _ => False
        | _ =>
          match nth cs (i * sz + j) with
          | some v => K v.shed
          | none => False
      | some (.row s n el _) =>
        match ti.desc with
        | .struct _ => need (Nat.beq sz s && Nat.ble (j + ti.size) s) (cnd T.conc (i < n) <| K (.agg (cellsFrom (el i) j ti.size)))
        | .array len _ => need (Nat.beq sz s && (Nat.beq i 0 && (Nat.beq j 0 && (Nat.beq len n && Nat.beq ti.size (len * s))))) (K (.av s n el))
        | _ => need (Nat.beq sz s && Nat.blt j s) (cnd T.conc (i < n) <| K (.pv false (el i j)))
      | some (.mat n m _) => need (Nat.beq sz 1 && (Nat.beq j 0 && !isAgg ti.desc)) (cnd T.conc (i < n) <| K (.sub k i (m i)))
      | _ => False
    | .psub k i j =>
      match nth H k with
      | some (.mat n m el) => need (!isAgg ti.desc) (cnd T.conc (i < n ∧ j < m i) <| K (.pv false (el i j)))
      | _ => False
    | _ => False

def fieldK (T : Tab) (s : TypeId) (x : AVal) (f : Nat) (K : AVal → Prop) : Prop :=
  match T s with
  | some ⟨.struct fs, _, _, _⟩ =>
    match fs[f]? with
    | some fd =>
      match T fd.type with
      | some tf =>
        match x with
        | .pv _ (.cptr n c j) => need (!Nat.beq tf.size 0) (K (.pv false (.cptr n c (j + fd.offset))))
        | .ptr k sz i j => need (!Nat.beq tf.size 0) (K (.ptr k sz i (j + fd.offset)))
        | _ => False
      | none => False
    | none => False
  | _ => False

def elemSize (T : Tab) (e : TypeId) : Option Nat :=
  match T e with
  | some te => some te.size
  | none => none

def indexAddrK (T : Tab) (H : List Blk) (t : TypeId) (x ix : AVal) (K : AVal → Prop) : Prop :=
  match T t, ix with
  | some ⟨.slice e, _, _, _⟩, .pv _ (.int _ q) =>
    match elemSize T e, x with
    | some s, .pv _ (.lst sz _ n el) => need (Nat.beq sz s) (cnd T.conc (0 ≤ q ∧ q < (n : Int)) <| K (.pv false (.cptr sz (el q.toNat) 0)))
    | some s, .arr k sz off n => need (Nat.beq sz s) (cnd T.conc (0 ≤ q ∧ q < (n : Int)) <| K (.ptr k sz (off + q.toNat) 0))
    | some s, .sub k i n => need (Nat.beq s 1) (cnd T.conc (0 ≤ q ∧ q < (n : Int)) <| K (.psub k i q.toNat))
    | _, _ => False
  | some ⟨.array len e, _, _, _⟩, .pv _ (.int _ q) =>
    match elemSize T e, x with
    | some s, .pv _ (.cptr n c j) => need (Nat.ble (j + len * s) n) (cnd T.conc (0 ≤ q ∧ q < (len : Int)) <| K (.pv false (.cptr s (fun l => c (j + q.toNat * s + l)) 0)))
    | some s, .ptr k sz i j =>
      match nth H k with
      | some (.row s' n _ _) => bif T.conc && !Nat.beq sz s then cnd T.conc (0 ≤ q ∧ q < (len : Int)) (K (.ptr k sz i (j + q.toNat * s)))
        else need (Nat.beq sz s && (Nat.beq s' s && (Nat.beq n len && (Nat.beq i 0 && Nat.beq j 0)))) (cnd T.conc (0 ≤ q ∧ q < (len : Int)) <| K (.ptr k sz q.toNat 0))
      | _ => False
    | _, _ => False
  | _, _ => False

/-- byte number i of a string -/
def byteAt (s : ByteArray) (i : Nat) : Int := ((s.data.getD i 0).toNat : Int)

def indexK (T : Tab) (t : TypeId) (x ix : AVal) (K : AVal → Prop) : Prop :=
  match T t, x, ix with
  | some ⟨.array len e, _, _, _⟩, .av sz n el, .pv _ (.int _ q) =>
    match T e with
    | some te =>
      match te.desc with
      | .struct _ => need (Nat.beq sz te.size && Nat.beq n len) (cnd T.conc (0 ≤ q ∧ q < (len : Int)) <| K (.agg (cellsFrom (el q.toNat) 0 te.size)))
      | .array _ _ => False
      | _ => need (Nat.beq sz 1 && (Nat.beq te.size 1 && Nat.beq n len)) (cnd T.conc (0 ≤ q ∧ q < (len : Int)) <| K (.pv false (el q.toNat 0)))
    | none => False
  | some ⟨.string, _, _, _⟩, .pv _ (.str s), .pv _ (.int _ q) => cnd T.conc (0 ≤ q ∧ q < (s.size : Int)) <| K (.pv false (.int .u8 (byteAt s q.toNat)))
  | _, _, _ => False

def fieldVK (T : Tab) (t : TypeId) (x : AVal) (f : Nat) (K : AVal → Prop) : Prop :=
  match T t, x with
  | some ⟨.struct fs, _, _, _⟩, .agg cs =>
    match fs[f]? with
    | some fd =>
      match T fd.type with
      | some tf =>
        match tf.desc with
        | .struct _ =>
          match part cs fd.offset tf.size with
          | some l => K (.agg l)
          | none => False
        | .array _ _ => False
        | _ =>
          match nth cs fd.offset with
          | some v => K v.shed
          | none => False
      | none => False
    | none => False
  | _, _ => False

def unK (op : UnOp) (x : AVal) (K : AVal → Prop) : Prop :=
  match op, x with
  | .not, .pv _ (.bool b) => K (.pv false (.bool (!b)))
  | .neg, .pv _ (.int k n) => K (.pv false (.int k (k.wrap (0 - n))))
  | _, _ => False

def convertK (T : Tab) (src dst : TypeId) (x : AVal) (K : AVal → Prop) : Prop :=
  match T src, T dst, x with
  | some _, some ⟨.int k, _, _, _⟩, .pv _ (.int _ n) => K (.pv false (.int k (k.wrap n)))
  | some _, some ⟨.string, _, _, _⟩, .pv _ (.str s) => K (.pv false (.str s))
  | _, _, _ => False

def evAll (e : Operand → AVal) : List Operand → List AVal
  | [] => []
  | x :: r => e x :: evAll e r

def allPv : List AVal → Bool
  | [] => true
  | v :: r => isPv v && allPv r

def pvAt (l : List AVal) (i : Nat) : PV :=
  match nth l i with
  | some v => asPv v
  | none => .junk

/-- a bound of a slice expression: what is there, or what stands for it -/
def boundK (o : Option AVal) (d : Int) (K : Int → Prop) : Prop :=
  match o with
  | none => K d
  | some (.pv _ (.int _ q)) => K q
  | _ => False

def nfCut (nf : NF) (whole : Bool) : NF :=
  match nf, whole with
  | .isNil, _ => .isNil
  | .full, true => .full
  | .full, false => .notNil
  | .notNil, _ => .notNil
  | .any, _ => .any
  | .iff, _ => .any
  | .fullAny, true => .fullAny
  | .fullAny, false => .any

def nfCap (nf : NF) : NF :=
  match nf with
  | .isNil => .isNil
  | .full | .notNil => .full
  | _ => .fullAny

theorem nfCut_fits {nf : NF} {w : Bool} {n m : Nat} (h : nf.fits n) : (nfCut nf w).fits m := by cases nf <;> cases w <;> first | trivial | exact h.elim
theorem nfCap_fits {nf : NF} {n m : Nat} (h : nf.fits n) : (nfCap nf).fits m := by cases nf <;> first | trivial | exact h.elim
theorem nfCut_nn {nf : NF} {w : Bool} (h : nf ≠ .full) (k : nf ≠ .notNil) : nfCut nf w ≠ .full ∧ nfCut nf w ≠ .notNil := by cases nf <;> cases w <;> first | exact ⟨NF.noConfusion, NF.noConfusion⟩ | exact absurd rfl h | exact absurd rfl k
theorem nfCap_nn {nf : NF} (h : nf ≠ .full) (k : nf ≠ .notNil) : nfCap nf ≠ .full ∧ nfCap nf ≠ .notNil := by cases nf <;> first | exact ⟨NF.noConfusion, NF.noConfusion⟩ | exact absurd rfl h | exact absurd rfl k
theorem nfCut_full {nf : NF} {w : Bool} (h : nfCut nf w = .full ∨ nfCut nf w = .fullAny) : w = true ∧ (nf = .full ∨ nf = .fullAny) := by cases nf <;> cases w <;> first | exact ⟨rfl, .inl rfl⟩ | exact ⟨rfl, .inr rfl⟩ | (rcases h with h | h <;> exact NF.noConfusion h)

def sliceK (T : Tab) (t : TypeId) (x : AVal) (lo hi mx : Option AVal) (K : AVal → Prop) : Prop :=
  match T t, x with
  | some ⟨.slice e, _, _, _⟩, .pv _ (.lst sz nf n el) =>
    match elemSize T e, mx with
    | some s, none =>
      boundK lo 0 fun l => boundK hi n fun h => need (Nat.beq sz s) (cnd T.conc (0 ≤ l ∧ l ≤ h ∧ h ≤ (n : Int)) <| K (.pv false (.lst sz (nfCut nf hi.isNone) (h - l).toNat fun i j => el (l.toNat + i) j)))
    | some s, some m =>
      boundK lo 0 fun l => boundK hi n fun h => boundK (some m) n fun q => need (Nat.beq sz s && hi.isSome) (cnd T.conc (0 ≤ l ∧ l ≤ h ∧ h = q ∧ h ≤ (n : Int)) <| K (.pv false (.lst sz (nfCap nf) (h - l).toNat fun i j => el (l.toNat + i) j)))
    | _, _ => False
  | some ⟨.slice e, _, _, _⟩, .arr k sz off n =>
    match elemSize T e, mx with
    | some s, none =>
      boundK lo 0 fun l => boundK hi n fun h => need (Nat.beq sz s) (cnd T.conc (0 ≤ l ∧ l ≤ h ∧ h ≤ (n : Int)) <| K (.arr k sz (off + l.toNat) (h - l).toNat))
    | _, _ => False
  | some ⟨.string, _, _, _⟩, .pv _ (.str s) =>
    match mx with
    | none => boundK lo 0 fun l => boundK hi s.size fun h => cnd T.conc (0 ≤ l ∧ l ≤ h ∧ h ≤ (s.size : Int)) <| K (.pv false (.str (s.extract l.toNat h.toNat)))
    | some _ => False
  | _, _ => False

def lenK (T : Tab) (ts : Array TypeId) (x : Option AVal) (K : AVal → Prop) : Prop :=
  match ts[0]? with
  | none => False
  | some t =>
    match T t, x with
    | some ⟨.string, _, _, _⟩, some (.pv _ (.str s)) => K (.pv false (.int .i64 s.size))
    | some ⟨.slice _, _, _, _⟩, some (.pv _ (.lst _ _ n _)) => K (.pv false (.int .i64 n))
    | some ⟨.slice _, _, _, _⟩, some (.arr _ _ _ n) => K (.pv false (.int .i64 n))
    | some ⟨.slice _, _, _, _⟩, some (.sub _ _ n) => K (.pv false (.int .i64 n))
    | some ⟨.array n _, _, _, _⟩, some _ => K (.pv false (.int .i64 n))
    | _, _ => False

/-- parts laid into cells -/
def fillK (place : Nat → Option (Nat × Nat)) : List AVal → List (Nat × AVal) → Option (List AVal)
  | cs, [] => some cs
  | cs, (i, v) :: r =>
    match place i with
    | none => none
    | some (off, size) =>
      bif v.told && (Nat.beq v.cells.length size && Nat.ble (off + size) cs.length) then fillK place (cs.take off ++ shedAll v.cells ++ cs.drop (off + size)) r else none

def evParts (e : Operand → AVal) : List (Nat × Operand) → List (Nat × AVal)
  | [] => []
  | (i, x) :: r => (i, e x) :: evParts e r

def fieldPlaces (T : Tab) (fs : Array Field) (i : Nat) : Option (Nat × Nat) :=
  match fs[i]? with
  | some f =>
    match T f.type with
    | some tf => some (f.offset, tf.size)
    | none => none
  | none => none

def allL {α : Type} (p : α → Bool) : List α → Bool
  | [] => true
  | x :: r => p x && allL p r

theorem allL_mem {α : Type} {p : α → Bool} {x : α} : ∀ {l : List α}, allL p l = true → x ∈ l → p x = true
  | [], _, h => by simp at h
  | y :: r, ha, h => by
    simp only [allL, Bool.and_eq_true] at ha
    rcases List.mem_cons.1 h with rfl | h
    · exact ha.1
    · exact allL_mem ha.2 h

def placesOk (T : Tab) (fs : Array Field) : Bool := allL (fun f => (T f.type).isSome) fs.toList

def buildK (T : Tab) (t : TypeId) (ps : List (Nat × AVal)) (K : AVal → Prop) : Prop :=
  match T t with
  | some ⟨.struct fs, _, _, z⟩ =>
    match fillK (fieldPlaces T fs) (avalOf z).cells ps with
    | some cs => need (placesOk T fs && (avalOf z).told) (K (.agg cs))
    | none => False
  | some ⟨.array len e, size, _, z⟩ =>
    match elemSize T e with
    | some s =>
      match fillK (fun i => some (i * s, s)) (avalOf z).cells ps with
      | some cs => need (allPv cs && (Nat.beq size (len * s) && (Nat.beq cs.length size && (avalOf z).told))) (K (.av s len fun i j => pvAt cs (i * s + j)))
      | none => False
    | none => False
  | _ => False

/-- a key as the machine has it -/
def keyV : AVal → Option Value
  | .pv _ (.int k n) => some (.int k n)
  | .pv _ (.str s) => some (.string s)
  | .pv _ (.bool b) => some (.bool b)
  | _ => none

def kdOf : TypeDesc → Option KD
  | .int q => some (.int q)
  | .string => some .str
  | .bool => some .bool
  | _ => none

def keyOk : KD → Value → Bool
  | .int q, .int k _ => decide (k = q)
  | .str, .string _ => true
  | .bool, .bool _ => true
  | _, _ => false

/-- are keys the same? -/
def veq : Value → Value → Bool
  | .int k a, .int k' b => decide (k = k') && decide (a = b)
  | .string a, .string b => decide (a = b)
  | .bool a, .bool b => a == b
  | _, _ => false

/-- one of two values of one form -/
def mix1 (b : Bool) : AVal → AVal → AVal
  | .pv _ (.bool x), .pv _ (.bool y) => .pv false (.bool (bif b then x else y))
  | .pv _ (.int k x), .pv _ (.int k' y) => bif decide (k = k') then .pv false (.int k (bif b then x else y)) else .undef
  | .pv _ (.str x), .pv _ (.str y) => .pv false (.str (bif b then x else y))
  | .pv _ (.lst sz _ n el), .pv _ (.lst _ _ n' _) => bif Nat.beq n' 0 then .pv false (.lst sz .any (bif b then n else 0) el) else .undef
  | _, _ => .undef

def mixL (b : Bool) : List AVal → List AVal → List AVal
  | x :: xs, y :: ys => mix1 b x y :: mixL b xs ys
  | xs, ys => bif b then xs else ys

def mixV (b : Bool) : AVal → AVal → AVal
  | .agg xs, .agg ys => .agg (mixL b xs ys)
  | x, y => mix1 b x y

/-- what stands in a map at a key -/
def lookupK (T : Tab) (H : List Blk) (t : TypeId) (x ix : AVal) (ok : Bool) (K : AVal → Prop) : Prop :=
  match T t with
  | some ⟨.map kt et, _, _, _⟩ =>
    match T kt, T et, x with
    | some tk, some te, .mref k =>
      match nth H k, keyV ix with
      | some (.mp q has val), some kv => need (decide (kdOf tk.desc = some q) && keyOk q kv) <|
          K (bif ok then .tup [mixV (has kv) (val kv) (avalOf te.zero), .pv false (.bool (has kv))] else mixV (has kv) (val kv) (avalOf te.zero))
      | _, _ => False
    | _, _, _ => False
  | _ => False

/-- the greatest, or the least, of numbers -/
def mmK (f : Int → Int → Int) (k : IntKind) : Int → List AVal → (AVal → Prop) → Prop
  | a, [], K => K (.pv false (.int k a))
  | a, .pv _ (.int _ b) :: r, K => mmK f k (f a b) r K
  | _, _, _ => False

/-- Operations that leave memory alone. -/
def vop (T : Tab) (H : List Blk) (e : Operand → AVal) (op : Op) (K : AVal → Prop) : Prop :=
  match op with
  | .move x | .assign x => K (e x).shed
  | .pick c a b =>
    match e c with
    | .pv _ (.bool t) => br t (K (e a).shed) (K (e b).shed)
    | _ => False
  | .load t a => loadK T H t (e a) K
  | .fieldAddr s x f => fieldK T s (e x) f K
  | .indexAddr t x ix => indexAddrK T H t (e x) (e ix) K
  | .index t x ix => indexK T t (e x) (e ix) K
  | .field t x f => fieldVK T t (e x) f K
  | .binOp op t x y _ => binK T op t (e x) (e y) K
  | .unOp op _ x => unK op (e x) K
  | .convert s d x => convertK T s d (e x) K
  | .makeFunc (.func f) first caps =>
    let l := evAll e caps.toList
    need (Nat.beq first.size 0) (bif allPv l then K (.pv false (.fn f l.length (pvAt l))) else K (.fn f (shedL l)))
  | .slice t x lo hi mx => sliceK T t (e x) (lo.map e) (hi.map e) (mx.map e) K
  | .build t ps => buildK T t (evParts e ps.toList) K
  | .extract x i =>
    match e x with
    | .tup vs =>
      match nth vs i with
      | some v => K v.shed
      | none => False
    | _ => False
  | .nilCheck x =>
    match e x with
    | .pv _ (.cptr n c j) => K (.pv false (.cptr n c j))
    | .pv _ (.optr b n c) => cnd T.conc (b = true) (K (.pv false (.cptr n c 0)))
    | .ptr k sz i j => K (.ptr k sz i j)
    | .pv _ (.fn f n c) => K (.pv false (.fn f n c))
    | .fn f cs => K (.fn f cs)
    | _ => False
  | .call ⟨.builtin .len, args, ts⟩ => lenK T ts ((args[0]?).map e) K
  | .call ⟨.builtin .max, args, _⟩ =>
    match evAll e args.toList with
    | .pv _ (.int k a) :: r => mmK max k a r K
    | _ => False
  | .call ⟨.builtin .min, args, _⟩ =>
    match evAll e args.toList with
    | .pv _ (.int k a) :: r => mmK min k a r K
    | _ => False
  | _ => False

end Go.Proofs.Ytgghnfmabphbmaa.Fw
