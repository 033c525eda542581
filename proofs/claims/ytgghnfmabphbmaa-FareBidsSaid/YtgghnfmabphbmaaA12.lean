/- Calls. -/
import Derived.Test.YtgghnfmabphbmaaA11m
namespace Go.Proofs.Ytgghnfmabphbmaa.Fw
open Go
set_option linter.unusedSimpArgs false
set_option linter.unusedVariables false

/-- Called with these values over this memory, the function returns a value of which K holds, with the memory as it then is; nothing else has changed. -/
def CallOK (P : Program) (f : Nat) (args : List AVal) (L : List Blk) (K : AVal → List Blk → Prop) : Prop :=
  (∃ fn, P.funcs[f]? = some fn ∧ (fn.name == "runtime.NumGoroutine") = false ∧ fn.body.isNone = false) ∧
  ∀ w O ad (vs : Array Value), vs.size = args.length → (∀ i x, nth args i = some x → VRel w O ad .no x (vs.getD i undef)) → HeapRel w O ad L → ad.length = L.length → Fresh w O →
    Calls P f vs w fun e w' => ∃ r rv O' L', e = .returned rv ∧ K r L' ∧ L'.length = L.length ∧ VRel w' O' ad .ret r rv ∧ HeapRel w' O' ad L' ∧ Step w O w' O' ∧ Fresh w' O'

theorem CallOK.mono {P : Program} {f : Nat} {args : List AVal} {L : List Blk} {K K' : AVal → List Blk → Prop} (h : CallOK P f args L K) (hk : ∀ r L', K r L' → K' r L') : CallOK P f args L K' :=
  ⟨h.1, fun w O ad vs h1 h2 h3 h4 h5 => (h.2 w O ad vs h1 h2 h3 h4 h5).mono fun e w' ⟨r, rv, O', L', g1, g2, g3⟩ => ⟨r, rv, O', L', g1, hk r L' g2, g3⟩⟩

/-- The same, where the function may return new memory, too: told behind what it was handed. -/
def CallG (P : Program) (f : Nat) (args : List AVal) (L : List Blk) (K : AVal → List Blk → Prop) : Prop :=
  (∃ fn, P.funcs[f]? = some fn ∧ (fn.name == "runtime.NumGoroutine") = false ∧ fn.body.isNone = false) ∧
  ∀ w O ad (vs : Array Value), vs.size = args.length → (∀ i x, nth args i = some x → VRel w O ad .no x (vs.getD i undef)) → HeapRel w O ad L → ad.length = L.length → Fresh w O →
    Calls P f vs w fun e w' => ∃ r rv O' L' ad', e = .returned rv ∧ K r L' ∧ ad'.length = L'.length ∧ (∀ i B, nth ad i = some B → nth ad' i = some B) ∧ VRel w' O' ad' .ret r rv ∧ HeapRel w' O' ad' L' ∧ Step w O w' O' ∧ Fresh w' O'

theorem CallG.mono {P : Program} {f : Nat} {args : List AVal} {L : List Blk} {K K' : AVal → List Blk → Prop} (h : CallG P f args L K) (hk : ∀ r L', K r L' → K' r L') : CallG P f args L K' :=
  ⟨h.1, fun w O ad vs h1 h2 h3 h4 h5 => (h.2 w O ad vs h1 h2 h3 h4 h5).mono fun e w' ⟨r, rv, O', L', ad', g1, g2, g3⟩ => ⟨r, rv, O', L', ad', g1, hk r L' g2, g3⟩⟩

theorem CallOK.g {P : Program} {f : Nat} {args : List AVal} {L : List Blk} {K : AVal → List Blk → Prop} (h : CallOK P f args L K) : CallG P f args L fun r L' => K r L' ∧ L'.length = L.length :=
  ⟨h.1, fun w O ad vs h1 h2 h3 h4 h5 => (h.2 w O ad vs h1 h2 h3 h4 h5).mono fun e w' ⟨r, rv, O', L', g1, g2, g3, g4⟩ => ⟨r, rv, O', L', ad, g1, ⟨g2, g3⟩, by omega, fun _ _ h => h, g4⟩⟩

/-- a function value: the function, what it has captured -/
def calleeOf : AVal → Option (Nat × List AVal)
  | .pv _ (.fn f n cap) => some (f, cellsFrom cap 0 n)
  | .fn f cs => some (f, cs)
  | _ => none

/-- How a function's results are told; whether it is handed memory, and how this is told behind the call. -/
structure Shape where
  α : Type
  emb : α → AVal
  hand : Bool
  mem : α → List Blk

/-- of a function that writes no memory -/
abbrev sh (α : Type) (emb : α → AVal) : Shape := ⟨α, emb, false, fun _ => []⟩
/-- of a function that is handed memory -/
abbrev shm (α : Type) (emb : α → AVal) (mem : α → List Blk) : Shape := ⟨α, emb, true, mem⟩

/-- a call whose results are told so -/
def CallT (P : Program) (s : Shape) (f : Nat) (args : List AVal) (L : List Blk) (k : s.α → Prop) : Prop := CallG P f args L fun r L' => ∃ x, r = s.emb x ∧ (s.hand = true → L' = s.mem x) ∧ (s.hand = false → L' = []) ∧ k x

def memN (k : Nat) : List Nat → Bool
  | [] => false
  | x :: r => Nat.beq x k || memN k r

def idxN (k : Nat) : List Nat → Nat
  | [] => 0
  | x :: r => bif Nat.beq x k then 0 else idxN k r + 1

def getN : List Nat → Nat → Nat
  | [], _ => 0
  | x :: _, 0 => x
  | _ :: r, n + 1 => getN r n

def uniqN : List Nat → Bool
  | [] => true
  | x :: r => !memN x r && uniqN r

mutual
/-- the memory that a value leads to -/
def refsV : AVal → List Nat
  | .ptr k _ _ _ => [k]
  | .arr k _ _ _ => [k]
  | .mref k => [k]
  | .sub k _ _ => [k]
  | .psub k _ _ => [k]
  | .agg cs => refsL cs
  | .fn _ cs => refsL cs
  | .tup cs => refsL cs
  | .pv _ _ => []
  | .av _ _ _ => []
  | .undef => []
def refsL : List AVal → List Nat
  | [] => []
  | v :: r => refsV v ++ refsL r
end

def refsB : Blk → List Nat
  | .box cs => refsL cs
  | _ => []

def reach (H : List Blk) : Nat → List Nat → List Nat → List Nat
  | 0, _, done => done
  | _ + 1, [], done => done
  | n + 1, k :: r, done => bif memN k done then reach H n r done else match nth H k with
    | some b => reach H n (r ++ refsB b) (done ++ [k])
    | none => reach H n r (done ++ [k])

mutual
def renV (g : Nat → Nat) : AVal → AVal
  | .ptr k s i j => .ptr (g k) s i j
  | .arr k s o n => .arr (g k) s o n
  | .mref k => .mref (g k)
  | .sub k i n => .sub (g k) i n
  | .psub k i j => .psub (g k) i j
  | .agg cs => .agg (renL g cs)
  | .fn f cs => .fn f (renL g cs)
  | .tup cs => .tup (renL g cs)
  | .pv o p => .pv o p
  | .av s n el => .av s n el
  | .undef => .undef
def renL (g : Nat → Nat) : List AVal → List AVal
  | [] => []
  | v :: r => renV g v :: renL g r
end

mutual
/-- all memory that is led to has a number of which p holds -/
def okV (p : Nat → Bool) : AVal → Bool
  | .ptr k _ _ _ => p k
  | .arr k _ _ _ => p k
  | .mref k => p k
  | .sub k _ _ => p k
  | .psub k _ _ => p k
  | .agg cs => okL p cs
  | .fn _ cs => okL p cs
  | .tup cs => okL p cs
  | .pv _ _ => true
  | .av _ _ _ => true
  | .undef => true
def okL (p : Nat → Bool) : List AVal → Bool
  | [] => true
  | v :: r => okV p v && okL p r
end

mutual
/-- it leads to no row of a table -/
def noSV : AVal → Bool
  | .sub _ _ _ => false
  | .psub _ _ _ => false
  | .agg cs => noSL cs
  | .fn _ cs => noSL cs
  | .tup cs => noSL cs
  | .ptr _ _ _ _ => true
  | .arr _ _ _ _ => true
  | .mref _ => true
  | .pv _ _ => true
  | .av _ _ _ => true
  | .undef => true
def noSL : List AVal → Bool
  | [] => true
  | v :: r => noSV v && noSL r
end

/-- no table, and nothing that leads to a row of one -/
def noSB : Blk → Bool
  | .box cs => noSL cs
  | .row _ _ _ _ => true
  | .mp _ _ _ => true
  | .mat _ _ _ => false

def noSH : List Blk → Bool
  | [] => true
  | b :: r => noSB b && noSH r

def renB (g : Nat → Nat) : Blk → Blk
  | .box cs => .box (renL g cs)
  | .row s n el ow => .row s n el ow
  | .mp q has val => .mp q has val
  | .mat n m el => .mat n m el

def okB (p : Nat → Bool) : Blk → Bool
  | .box cs => okL p cs
  | .row _ _ _ _ => true
  | .mp _ _ _ => true
  | .mat _ _ _ => true

def okH (p : Nat → Bool) : List Blk → Bool
  | [] => true
  | b :: r => okB p b && okH p r

/-- the blocks that are handed over -/
def pickH (g : Nat → Nat) (H : List Blk) : List Nat → List Blk
  | [] => []
  | k :: r => (match nth H k with | some b => renB g b | none => .box []) :: pickH g H r

def pickOk (p : Nat → Bool) (H : List Blk) : List Nat → Bool
  | [] => true
  | k :: r => (match nth H k with | some b => okB p b | none => false) && pickOk p H r

def pickN (H : List Blk) : List Nat → Bool
  | [] => true
  | k :: r => (match nth H k with | some b => noSB b | none => false) && pickN H r

/-- the blocks that come back -/
def putH (g : Nat → Nat) (H : List Blk) : List Nat → List Blk → List Blk
  | k :: ks, b :: bs => putH g (setBlkL H k (renB g b)) ks bs
  | _, _ => H

def renH (g : Nat → Nat) : List Blk → List Blk
  | [] => []
  | b :: r => renB g b :: renH g r

def takeB : Nat → List Blk → List Blk
  | 0, _ => []
  | _, [] => []
  | n + 1, b :: r => b :: takeB n r

def dropB' : Nat → List Blk → List Blk
  | 0, l => l
  | _, [] => []
  | n + 1, _ :: r => dropB' n r

def lenB : List Blk → Nat
  | [] => 0
  | _ :: r => lenB r + 1

def seqN : Nat → Nat → List Nat
  | _, 0 => []
  | s, n + 1 => s :: seqN (s + 1) n

def appN : List Nat → List Nat → List Nat
  | [], l => l
  | x :: r, l => x :: appN r l

def appB : List Blk → List Blk → List Blk
  | [], l => l
  | x :: r, l => x :: appB r l

/-- the caller's numbers of what comes back: m new blocks behind n of its own -/
def backN (ks : List Nat) (n m : Nat) : List Nat := appN ks (seqN n m)

/-- what the caller has behind a call that returns L', handed blocks first -/
def backK (st : St) (dst : Option Nat) (ks : List Nat) (r : AVal) (L' : List Blk) (K : St → Prop) : Prop :=
  need (Nat.ble ks.length (lenB L') && (okV (fun i => Nat.blt i (lenB L')) r && (okH (fun i => Nat.blt i (lenB L')) L' && (noSV r && noSH L')))) <|
  K (St.put { st with heap := appB (putH (getN (backN ks (lenB st.heap) (lenB L' - ks.length))) st.heap ks (takeB ks.length L')) (renH (getN (backN ks (lenB st.heap) (lenB L' - ks.length))) (dropB' ks.length L')) } dst (renV (getN (backN ks (lenB st.heap) (lenB L' - ks.length))) r))

/-- a call that is handed memory -/
def callHand (P : Program) (s : Shape) (st : St) (dst : Option Nat) (f : Nat) (as : List AVal) (K : St → Prop) (ks : List Nat) : Prop :=
  need (uniqN ks && (okL (fun k => memN k ks) as && (pickOk (fun k => memN k ks) st.heap ks && (noSL as && pickN st.heap ks)))) <|
  CallT P s f (renL (fun k => idxN k ks) as) (pickH (fun k => idxN k ks) st.heap ks) fun x => backK st dst ks (s.emb x) (s.mem x) K

/-- the same, where the callee's body is carried out -/
def callHandI (W : List AVal → List Blk → (AVal → List Blk → Prop) → Prop) (st : St) (dst : Option Nat) (as : List AVal) (K : St → Prop) (ks : List Nat) : Prop :=
  need (uniqN ks && (okL (fun k => memN k ks) as && (pickOk (fun k => memN k ks) st.heap ks && (noSL as && pickN st.heap ks)))) <|
  W (renL (fun k => idxN k ks) as) (pickH (fun k => idxN k ks) st.heap ks) fun r L' => backK st dst ks r L' K

/-- bodies that are carried out in their calls' places tell the truth -/
class InlOk (P : Program) (T : Tab) : Prop where
  ok : ∀ f W, T.inl f = some W → ∀ args L K, W args L K → CallG P f args L K

/-- from row number off on -/
def shM (off : Nat) (m : Nat → Nat) : Nat → Nat := bif Nat.beq off 0 then m else fun i => m (off + i)
def shE (off : Nat) (el : Nat → Nat → PV) : Nat → Nat → PV := bif Nat.beq off 0 then el else fun i j => el (off + i) j
/-- the rows of a table, as lists -/
def tblR (m : Nat → Nat) (el : Nat → Nat → PV) (i _ : Nat) : PV := .lst 1 .any (m i) fun j _ => el i j

theorem shM_eq {off : Nat} {m : Nat → Nat} (i : Nat) : shM off m i = m (off + i) := by
  unfold shM
  cases h : Nat.beq off 0 with
  | true => obtain rfl := beqE h; simp
  | false => rfl

theorem shE_eq {off : Nat} {el : Nat → Nat → PV} (i : Nat) : shE off el i = el (off + i) := by
  unfold shE
  cases h : Nat.beq off 0 with
  | true => obtain rfl := beqE h; simp
  | false => rfl

/-- a slice whose row is only read -/
def readC (H : List Blk) (v : AVal) (K : AVal → Prop) : Prop :=
  match v with
  | .arr k sz off n =>
    match nth H k with
    | some (.row s m el _) => need (Nat.beq sz s) <| off + n ≤ m ∧ K (.pv false (.lst sz .any n fun i j => el (i + off) j))
    | some (.mat q m el) => need (Nat.beq sz 1) <| off + n ≤ q ∧ K (.pv false (.lst 1 .any n (tblR (shM off m) (shE off el))))
    | _ => False
  | .sub k i n =>
    match nth H k with
    | some (.mat q m el) => i < q ∧ n ≤ m i ∧ K (.pv false (.lst 1 .any n fun j _ => el i j))
    | _ => False
  | v => need (pureV v) (K v)

def readCs (H : List Blk) : List AVal → (List AVal → Prop) → Prop
  | [], K => K []
  | v :: r, K => readC H v fun x => readCs H r fun xs => K (x :: xs)

def readV (H : List Blk) (v : AVal) (K : AVal → Prop) : Prop :=
  match v with
  | .agg cs => readCs H cs fun xs => K (.agg xs)
  | v => readC H v K

def readL (H : List Blk) : List AVal → (List AVal → Prop) → Prop
  | [], K => K []
  | v :: r, K => readV H v fun x => readL H r fun xs => K (x :: xs)

def flatP : PV → Bool
  | .bool _ | .int _ _ | .str _ | .nilp | .nilm | .nilf | .nili => true
  | _ => false

mutual
/-- a value that leads to no memory -/
def flatV : AVal → Bool
  | .pv _ p => flatP p
  | .tup cs => flatL cs
  | .agg cs => flatL cs
  | _ => false
def flatL : List AVal → Bool
  | [] => true
  | v :: r => flatV v && flatL r
end

/-- a call -/
def callOp (P : Program) (T : Tab) (C : Nat → Shape) (st : St) (dst : Option Nat) (fv : AVal) (args : List AVal) (K : St → Prop) : Prop :=
  match calleeOf fv with
  | some (f, caps) =>
    match T.inl f with
    | some W => bif (C f).hand then callHandI W st dst (shedL args ++ caps) K (reach st.heap 100 (refsL (shedL args ++ caps)) [])
      else need (pureL (shedL args ++ caps)) <| W (shedL args ++ caps) [] fun r L' => need (Nat.beq (lenB L') 0) <| K (st.put dst r)
    | none =>
    bif (C f).hand then callHand P (C f) st dst f (shedL args ++ caps) K (reach st.heap 100 (refsL (shedL args ++ caps)) [])
    else bif pureL (shedL args ++ caps) then CallT P (C f) f (shedL args ++ caps) [] fun x => K (st.put dst ((C f).emb x))
    else readL st.heap (shedL args ++ caps) fun as => CallT P (C f) f as [] fun x => need (flatV ((C f).emb x)) <| K (st.put dst ((C f).emb x))
  | none => False

/-- a call that is handed no memory, and may return some -/
def callNewOp (T : Tab) (st : St) (dst : Option Nat) (fv : AVal) (args : List AVal) (K : St → Prop) : Prop :=
  match calleeOf fv with
  | some (f, caps) =>
    match T.inl f with
    | some W => need (pureL (shedL args ++ caps)) <| W (shedL args ++ caps) [] fun r L' => backK st dst [] r L' K
    | none => False
  | none => False

/-- may the operation change what is told? -/
def isStoreC (C : Nat → Shape) (fg : Nat) : Op → Bool
  | .call ⟨.value (.func g), _, _⟩ => (C g).hand && !Nat.ble 31 fg
  | .call ⟨.value _, _, _⟩ => !Nat.ble 31 fg
  | .call ⟨.builtin .append, _, _⟩ => Nat.beq fg 8
  | .call ⟨.builtin .copy, _, _⟩ => true
  | op => isStore op

/-- as OpOk, for calls, too -/
def OpOkC (P : Program) (C : Nat → Shape) (fg : Nat) (o : Oper) (a : Act) (w : World) (O : Nat → Own) (Q : Exit → Act → World → Prop) (K : St → Prop) : Prop :=
  o.wp P a w (fun a' w' => ∃ st' O' ad', K st' ∧ Sat st' a' w' O' ad' ∧ Step w O w' O' ∧ (isStoreC C fg o.op = false → Agree O w w')) Q

/-- what a callee sees of the blocks that are there: those with these numbers are its own -/
def hide (w : World) (O : Nat → Own) (ks : List Nat) : Nat → Own := fun B =>
  if B < w.heap.size then
    match O B with
    | .blk k => bif memN k ks then .blk (idxN k ks) else .out (im O B)
    | .lst (.cell k i j) fill => bif memN k ks then .lst (.cell (idxN k ks) i j) fill else .out (im O B)
    | _ => .out (im O B)
  else .free

/-- the same, where these are only read -/
def hideR (w : World) (O : Nat → Own) : Nat → Own := fun B =>
  if B < w.heap.size then
    match O B with
    | .blk _ => .out (fun _ => True)
    | .inn _ _ => .out (fun _ => True)
    | _ => .out (im O B)
  else .free

def conv (ks : List Nat) (q : Pos) : Own → Own
  | .lst .ret fill => .lst q fill
  | .lst (.reti i) fill => .lst (q.sub i) fill
  | .lst (.cell i a b) fill => bif Nat.blt i ks.length then .lst (.cell (getN ks i) a b) fill else .free
  | .blk i => bif Nat.blt i ks.length then .blk (getN ks i) else .free
  | _ => .free

/-- what the caller sees behind the call -/
def back (H O O' : Nat → Own) (ks : List Nat) (q : Pos) : Nat → Own := fun B =>
  match H B with
  | .out _ => O B
  | _ => conv ks q (O' B)

section
variable {P : Program} {T : Tab} {w : World} {O : Nat → Own} {ad : List Nat} {st : St} {a : Act} {o : Oper} {Q : Exit → Act → World → Prop} {K : St → Prop}

theorem OpOk.c {C : Nat → Shape} {fg : Nat} (h : OpOk P o a w O Q K) : OpOkC P C fg o a w O Q K := by
  refine Oper.wp_mono (fun a' w' => ?_) h
  rintro ⟨st', O', ad', h1, h2, h3, h4⟩
  refine ⟨st', O', ad', h1, h2, h3, fun hs => h4 ?_⟩
  unfold isStoreC at hs
  split at hs
  · rename_i e; rw [e]; rfl
  · rename_i e; rw [e]; rfl
  · rename_i e; rw [e]; rfl
  · rename_i e; rw [e]; rfl
  · exact hs

theorem memN_getN : ∀ {ks : List Nat} {k : Nat}, memN k ks = true → idxN k ks < ks.length ∧ getN ks (idxN k ks) = k
  | [], k, h => by simp [memN] at h
  | x :: r, k, h => by
    simp only [memN, Bool.or_eq_true] at h
    by_cases e : x = k
    · subst e; simp [idxN, getN]
    · have hb : Nat.beq x k = false := beq_ff e
      rcases h with h | h
      · rw [hb] at h; simp at h
      · obtain ⟨h1, h2⟩ := memN_getN h
        simp only [idxN, hb, cond_false, List.length_cons, getN]
        exact ⟨by omega, h2⟩

theorem getN_mem : ∀ {ks : List Nat} {i : Nat}, i < ks.length → memN (getN ks i) ks = true
  | [], i, h => by simp at h
  | x :: r, 0, h => by simp [memN, getN]
  | x :: r, i + 1, h => by
    simp only [List.length_cons] at h
    simp only [memN, getN, Bool.or_eq_true]
    exact .inr (getN_mem (by omega))

theorem idxN_getN : ∀ {ks : List Nat} {i : Nat}, uniqN ks = true → i < ks.length → idxN (getN ks i) ks = i
  | [], i, _, h => by simp at h
  | x :: r, 0, _, h => by simp [idxN, getN]
  | x :: r, i + 1, hu, h => by
    simp only [List.length_cons] at h
    simp only [uniqN, Bool.and_eq_true, Bool.not_eq_true'] at hu
    have hne : x ≠ getN r i := fun e => by
      have := getN_mem (ks := r) (i := i) (by omega)
      rw [← e, hu.1] at this; simp at this
    simp only [idxN, getN, beq_ff hne, cond_false, idxN_getN hu.2 (show i < r.length by omega)]

theorem nth_getN {l : List Nat} : ∀ {ks : List Nat} {i : Nat} {B : Nat}, nth ks i = some B → getN ks i = B
  | [], _, _, h => by simp [nth] at h
  | x :: r, 0, _, h => by simp [nth] at h; exact h
  | x :: r, i + 1, _, h => nth_getN (l := l) (ks := r) h

theorem length_renL {g : Nat → Nat} : ∀ {l : List AVal}, (renL g l).length = l.length
  | [] => rfl
  | _ :: r => by simp [renL, length_renL]

theorem nth_renL {g : Nat → Nat} : ∀ {l : List AVal} {i : Nat} {x : AVal}, nth (renL g l) i = some x → ∃ y, nth l i = some y ∧ x = renV g y
  | [], _, _, h => by simp [renL, nth] at h
  | y :: r, 0, x, h => by simp [renL, nth] at h; exact ⟨y, rfl, h.symm⟩
  | y :: r, i + 1, x, h => by simp only [renL, nth] at h; exact nth_renL (l := r) (i := i) h

theorem okL_nth {p : Nat → Bool} : ∀ {l : List AVal} {i : Nat} {x : AVal}, okL p l = true → nth l i = some x → okV p x = true
  | [], _, _, _, h => by simp [nth] at h
  | y :: r, 0, x, ha, h => by simp [nth] at h; subst h; simp only [okL, Bool.and_eq_true] at ha; exact ha.1
  | y :: r, k + 1, x, ha, h => by simp only [nth] at h; simp only [okL, Bool.and_eq_true] at ha; exact okL_nth ha.2 h

theorem noSL_nth : ∀ {l : List AVal} {i : Nat} {x : AVal}, noSL l = true → nth l i = some x → noSV x = true
  | [], _, _, _, h => by simp [nth] at h
  | y :: r, 0, x, ha, h => by simp [nth] at h; subst h; simp only [noSL, Bool.and_eq_true] at ha; exact ha.1
  | y :: r, k + 1, x, ha, h => by simp only [nth] at h; simp only [noSL, Bool.and_eq_true] at ha; exact noSL_nth ha.2 h

theorem noSH_nth : ∀ {l : List Blk} {i : Nat} {x : Blk}, noSH l = true → nth l i = some x → noSB x = true
  | [], _, _, _, h => by simp [nth] at h
  | y :: r, 0, x, ha, h => by simp [nth] at h; subst h; simp only [noSH, Bool.and_eq_true] at ha; exact ha.1
  | y :: r, k + 1, x, ha, h => by simp only [nth] at h; simp only [noSH, Bool.and_eq_true] at ha; exact noSH_nth ha.2 h

theorem pickN_nth {H : List Blk} : ∀ {ks : List Nat} {i : Nat} {c : Blk}, pickN H ks = true → i < ks.length → nth H (getN ks i) = some c → noSB c = true
  | [], _, _, _, h, _ => by simp at h
  | k :: r, 0, c, ho, _, h => by
    simp only [pickN, Bool.and_eq_true] at ho
    have h : nth H k = some c := h
    have := ho.1
    rw [h] at this
    exact this
  | k :: r, i + 1, c, ho, hl, h => by
    simp only [pickN, Bool.and_eq_true] at ho
    exact pickN_nth (ks := r) (i := i) ho.2 (by simpa using hl) h

theorem okH_nth {p : Nat → Bool} : ∀ {l : List Blk} {i : Nat} {x : Blk}, okH p l = true → nth l i = some x → okB p x = true
  | [], _, _, _, h => by simp [nth] at h
  | y :: r, 0, x, ha, h => by simp [nth] at h; subst h; simp only [okH, Bool.and_eq_true] at ha; exact ha.1
  | y :: r, k + 1, x, ha, h => by simp only [nth] at h; simp only [okH, Bool.and_eq_true] at ha; exact okH_nth ha.2 h

theorem length_pickH {g : Nat → Nat} {H : List Blk} : ∀ {ks : List Nat}, (pickH g H ks).length = ks.length
  | [] => rfl
  | _ :: r => by simp [pickH, length_pickH]

theorem nth_pickH {g : Nat → Nat} {p : Nat → Bool} {H : List Blk} : ∀ {ks : List Nat} {i : Nat} {b : Blk}, pickOk p H ks = true → nth (pickH g H ks) i = some b →
    i < ks.length ∧ ∃ c, nth H (getN ks i) = some c ∧ b = renB g c ∧ okB p c = true
  | [], _, _, _, h => by simp [pickH, nth] at h
  | k :: r, 0, b, ho, h => by
    simp only [pickOk, Bool.and_eq_true] at ho
    simp only [pickH, nth, Option.some.injEq] at h
    cases hk : nth H k with
    | none => rw [hk] at ho; simp at ho
    | some c => rw [hk] at h ho; exact ⟨by simp, c, by simpa [getN] using hk, h.symm, ho.1⟩
  | k :: r, i + 1, b, ho, h => by
    simp only [pickOk, Bool.and_eq_true] at ho
    simp only [pickH, nth] at h
    obtain ⟨h1, h2⟩ := nth_pickH ho.2 h
    exact ⟨by simp; omega, by simpa [getN] using h2⟩

theorem pickOk_lt {p : Nat → Bool} {H : List Blk} : ∀ {ks : List Nat} {k : Nat}, pickOk p H ks = true → memN k ks = true → k < H.length
  | [], _, _, h => by simp [memN] at h
  | x :: r, k, ho, h => by
    simp only [pickOk, Bool.and_eq_true] at ho
    simp only [memN, Bool.or_eq_true] at h
    rcases h with h | h
    · have := beqE h; subst this
      cases hk : nth H x with
      | none => rw [hk] at ho; simp at ho
      | some c => exact nth_lt hk
    · exact pickOk_lt ho.2 h

theorem length_putH {g : Nat → Nat} : ∀ {ks : List Nat} {H L : List Blk}, (putH g H ks L).length = H.length
  | [], _, _ => by simp [putH]
  | k :: r, H, [] => by simp [putH]
  | k :: r, H, b :: bs => by simp only [putH]; rw [length_putH, setBlkL_eq, List.length_set]

theorem nth_set {α : Type} : ∀ (l : List α) (n i : Nat) (v : α), n < l.length → nth (l.set n v) i = if i = n then some v else nth l i
  | [], n, i, v, h => by simp at h
  | x :: r, 0, 0, v, _ => by simp [nth]
  | x :: r, 0, i + 1, v, _ => by simp [nth]
  | x :: r, n + 1, 0, v, _ => by simp [nth]
  | x :: r, n + 1, i + 1, v, h => by
    simp only [List.length_cons] at h
    simp only [List.set_cons_succ, nth]
    rw [nth_set r n i v (by omega)]
    simp

theorem nth_putH {g : Nat → Nat} : ∀ {ks : List Nat} {H L : List Blk} {k : Nat} {b : Blk}, L.length = ks.length → (∀ k, memN k ks = true → k < H.length) → uniqN ks = true → nth (putH g H ks L) k = some b →
    (memN k ks = false ∧ nth H k = some b) ∨ (memN k ks = true ∧ ∃ c, nth L (idxN k ks) = some c ∧ b = renB g c)
  | [], H, L, k, b, _, _, _, h => .inl ⟨rfl, by simpa [putH] using h⟩
  | x :: r, H, [], k, b, hl, _, _, h => by simp at hl
  | x :: r, H, c :: cs, k, b, hl, hm, hu, h => by
    simp only [uniqN, Bool.and_eq_true, Bool.not_eq_true'] at hu
    simp only [putH] at h
    rw [setBlkL_eq] at h
    have hx : x < H.length := hm x (by simp [memN])
    rcases nth_putH (by simpa using hl) (fun k hk => by rw [List.length_set]; exact hm k (by simp [memN, hk])) hu.2 h with ⟨h1, h2⟩ | ⟨h1, h2⟩
    · rw [nth_set _ _ _ _ hx] at h2
      by_cases e : k = x
      · subst e
        rw [if_pos rfl] at h2
        refine .inr ⟨by simp [memN], c, by simp [idxN, nth], (Option.some.inj h2).symm⟩
      · rw [if_neg e] at h2
        refine .inl ⟨by simp only [memN, h1, Bool.or_false]; exact beq_ff (Ne.symm e), h2⟩
    · by_cases e : k = x
      · subst e; rw [hu.1] at h1; simp at h1
      · refine .inr ⟨by simp [memN, h1], ?_⟩
        simp only [idxN, beq_ff (Ne.symm e), cond_false, nth]
        exact h2

/-- a place becomes another one -/
def PosTo (O O' : Nat → Own) (p p' : Pos) : Prop := p ≠ .no → p' ≠ .no ∧ ∀ B fill, O B = .lst p fill → O' B = .lst p' fill

theorem VRel.renum {O' : Nat → Own} {ad' : List Nat} {g : Nat → Nat} {ok : Nat → Bool} (him : ∀ B o, B < w.heap.size → im O B o → im O' B o) (had : ∀ k B, ok k = true → nth ad k = some B → nth ad' (g k) = some B) {p : Pos} {x : AVal} {v : Value}
    (h : VRel w O ad p x v) : ∀ p', PosTo O O' p p' → (∀ i, PosTo O O' (p.sub i) (p'.sub i)) → okV ok x = true → ((∀ B k i c, ok k = true → nth ad k = some c → O B = .inn k i → O' B = .inn (g k) i) ∨ noSV x = true) → VRel w O' ad' p' (renV g x) v := by
  have hc : ∀ {x v}, PRel w O x v → PRel w O' x v := fun hp => hp.change fun B o hB hi => ⟨him B o hB hi, rfl⟩
  have pn : ∀ p', PosTo O O' .no p' := fun p' h => absurd rfl h
  induction h with
  | pv h => intro p' _ _ _ _; exact .pv (hc h)
  | @own p sz nf n el v h ho =>
    intro p' hp _ _ _
    obtain ⟨h0, h1⟩ := hp ho.1
    refine .own (hc h) ⟨h0, ho.2.imp id (Or.imp id ?_)⟩
    rintro ⟨B, off, cap, arr, ty, g1, g2, g3, g4⟩
    exact ⟨B, off, cap, arr, ty, g1, h1 B _ g2, g3, g4⟩
  | ptr h => intro p' _ _ hk _; exact .ptr (had _ _ hk h)
  | arrE h hv => intro p' _ _ hk _; exact .arrE (had _ _ hk h) hv
  | arr h hcap hr => intro p' _ _ hk _; exact .arr (had _ _ hk h) hcap hr
  | mref h => intro p' _ _ hk _; exact .mref (had _ _ hk h)
  | subE ha hv => intro p' _ _ hk _; exact .subE (had _ _ hk ha) hv
  | sub ha h hcap =>
    intro p' _ _ hk hn
    rcases hn with hn | hn
    · exact .sub (had _ _ hk ha) (hn _ _ _ _ hk ha h) hcap
    · simp [noSV] at hn
  | psub ha h =>
    intro p' _ _ hk hn
    rcases hn with hn | hn
    · exact .psub (had _ _ hk ha) (hn _ _ _ _ hk ha h)
    · simp [noSV] at hn
  | fn a hs hr ih =>
    intro p' _ _ hk hn
    refine .fn a (by rw [length_renL]; exact hs) (fun i x hx => ?_)
    obtain ⟨y, hy, rfl⟩ := nth_renL hx
    exact ih i y hy .no (pn _) (fun _ => pn _) (okL_nth hk hy) (hn.imp id fun hn => noSL_nth hn hy)
  | agg a hs hr ih =>
    intro p' _ _ hk hn
    refine .agg a (by rw [length_renL]; exact hs) (fun i x hx => ?_)
    obtain ⟨y, hy, rfl⟩ := nth_renL hx
    exact ih i y hy .no (pn _) (fun _ => pn _) (okL_nth hk hy) (hn.imp id fun hn => noSL_nth hn hy)
  | av a hs hr => intro p' _ _ _ _; exact .av a hs (fun i hi j hj => hc (hr i hi j hj))
  | @tup p cs a hs hr ih =>
    intro p' hp hsub hk hn
    refine .tup a (by rw [length_renL]; exact hs) (fun i x hx => ?_)
    obtain ⟨y, hy, rfl⟩ := nth_renL hx
    exact ih i y hy _ (hsub i) (fun j => by rw [p.sub_sub i j]; exact pn _) (okL_nth hk hy) (hn.imp id fun hn => noSL_nth hn hy)
  | undef v => intro p' _ _ _ _; exact .undef v

mutual
theorem renV_id : ∀ (x : AVal), renV (fun k => k) x = x
  | .pv .. => rfl
  | .ptr .. => rfl
  | .arr .. => rfl
  | .mref _ => rfl
  | .sub .. => rfl
  | .psub .. => rfl
  | .fn f cs => by simp only [renV, renL_id cs]
  | .agg cs => by simp only [renV, renL_id cs]
  | .av .. => rfl
  | .tup cs => by simp only [renV, renL_id cs]
  | .undef => rfl
theorem renL_id : ∀ (l : List AVal), renL (fun k => k) l = l
  | [] => rfl
  | x :: r => by simp only [renL, renV_id x, renL_id r]
end

mutual
theorem okV_all : ∀ (x : AVal), okV (fun _ => true) x = true
  | .pv .. => rfl
  | .ptr .. => rfl
  | .arr .. => rfl
  | .mref _ => rfl
  | .sub .. => rfl
  | .psub .. => rfl
  | .fn f cs => by simp only [okV, okL_all cs]
  | .agg cs => by simp only [okV, okL_all cs]
  | .av .. => rfl
  | .tup cs => by simp only [okV, okL_all cs]
  | .undef => rfl
theorem okL_all : ∀ (l : List AVal), okL (fun _ => true) l = true
  | [] => rfl
  | x :: r => by simp only [okL, okV_all x, okL_all r, Bool.and_self]
end

mutual
theorem pureV_ok {p : Nat → Bool} {g : Nat → Nat} : ∀ {x : AVal}, pureV x = true → okV p x = true ∧ renV g x = x
  | .pv _ _, _ => ⟨rfl, rfl⟩
  | .av _ _ _, _ => ⟨rfl, rfl⟩
  | .undef, _ => ⟨rfl, rfl⟩
  | .agg cs, h => by
    have := pureL_ok (p := p) (g := g) (l := cs) (by simpa [pureV] using h)
    exact ⟨by simp only [okV]; exact this.1, by simp only [renV]; rw [this.2]⟩
  | .fn f cs, h => by
    have := pureL_ok (p := p) (g := g) (l := cs) (by simpa [pureV] using h)
    exact ⟨by simp only [okV]; exact this.1, by simp only [renV]; rw [this.2]⟩
  | .ptr _ _ _ _, h => by simp [pureV] at h
  | .arr _ _ _ _, h => by simp [pureV] at h
  | .mref _, h => by simp [pureV] at h
  | .tup _, h => by simp [pureV] at h
  | .sub .., h => by simp [pureV] at h
  | .psub .., h => by simp [pureV] at h
theorem pureL_ok {p : Nat → Bool} {g : Nat → Nat} : ∀ {l : List AVal}, pureL l = true → okL p l = true ∧ renL g l = l
  | [], _ => ⟨rfl, rfl⟩
  | x :: r, h => by
    simp only [pureL, Bool.and_eq_true] at h
    have h1 := pureV_ok (p := p) (g := g) h.1
    have h2 := pureL_ok (p := p) (g := g) h.2
    exact ⟨by simp only [okL]; rw [h1.1, h2.1]; rfl, by simp only [renL]; rw [h1.2, h2.2]⟩
end

mutual
theorem pureV_noS : ∀ {x : AVal}, pureV x = true → noSV x = true
  | .pv _ _, _ => rfl
  | .av _ _ _, _ => rfl
  | .undef, _ => rfl
  | .agg cs, h => by simp only [noSV]; exact pureL_noS (by simpa [pureV] using h)
  | .fn f cs, h => by simp only [noSV]; exact pureL_noS (by simpa [pureV] using h)
  | .ptr _ _ _ _, _ => rfl
  | .arr _ _ _ _, _ => rfl
  | .mref _, _ => rfl
  | .tup _, h => by simp [pureV] at h
  | .sub .., h => by simp [pureV] at h
  | .psub .., h => by simp [pureV] at h
theorem pureL_noS : ∀ {l : List AVal}, pureL l = true → noSL l = true
  | [], _ => rfl
  | x :: r, h => by
    simp only [pureL, Bool.and_eq_true] at h
    simp only [noSL, pureV_noS h.1, pureL_noS h.2, Bool.and_self]
end

theorem okB_all (b : Blk) : okB (fun _ => true) b = true := by cases b <;> simp [okB, okL_all]

theorem renB_id (b : Blk) : renB (fun k => k) b = b := by cases b <;> simp [renB, renL_id]

theorem renB_ghost {g : Nat → Nat} {b : Blk} : (renB g b).ghost ↔ b.ghost := by cases b <;> exact Iff.rfl

theorem VRel.chgO {O' : Nat → Own} (him : ∀ B o, B < w.heap.size → im O B o → im O' B o) {p : Pos} {x : AVal} {v : Value} (hl : p ≠ .no → ∀ q, q ≠ .no → ∀ B fill, O B = .lst q fill → O' B = .lst q fill) (h : VRel w O ad p x v) (hin : InnK O O' ∨ noSV x = true) : VRel w O' ad p x v := by
  have := h.renum (g := fun k => k) (ok := fun _ => true) (ad' := ad) him (fun _ _ _ h => h) p (fun hn => ⟨hn, hl hn p hn⟩) (fun i hn => ⟨hn, hl (fun e => by rw [e] at hn; exact hn rfl) _ hn⟩) (okV_all x) (hin.imp (fun hin B k i _ _ _ h => hin B k i h) id)
  rwa [renV_id] at this

/-- what leads to no memory of the call's own doesn't mind where this lies -/
theorem VRel.chgA {ad' : List Nat} {p : Pos} {x : AVal} {v : Value} (h : VRel w O ad p x v) (hx : okV (fun _ => false) x = true) : VRel w O ad' p x v := by
  have := h.renum (g := fun k => k) (ok := fun _ => false) (ad' := ad') (O' := O) (fun B o _ hi => hi) (fun _ _ h _ => by simp at h) p (fun hn => ⟨hn, fun _ _ h => h⟩) (fun i hn => ⟨hn, fun _ _ h => h⟩) hx (.inl fun _ _ _ _ h => by simp at h)
  rwa [renV_id] at this

/-- rows of tables are numbered anew, too, or there are none -/
def RenS (O O' : Nat → Own) (ad : List Nat) (g : Nat → Nat) (ok : Nat → Bool) (k k' : Nat) (b : Blk) : Prop :=
  ((∀ B j i c, ok j = true → nth ad j = some c → O B = .inn j i → O' B = .inn (g j) i) ∧ ∀ B i, O B = .inn k i → O' B = .inn k' i) ∨ noSB b = true

theorem BlkRel.ren {O' : Nat → Own} {ad' : List Nat} {g : Nat → Nat} {ok : Nat → Bool} (him : ∀ B o, B < w.heap.size → im O B o → im O' B o) (had : ∀ k B, ok k = true → nth ad k = some B → nth ad' (g k) = some B) {k k' : Nat} {arr : Array Value} {b : Blk}
    (hp : ∀ i j, PosTo O O' (.cell k i j) (.cell k' i j)) (hk : okB ok b = true) (hn : RenS O O' ad g ok k k' b) (h : BlkRel w O ad k arr b) : BlkRel w O' ad' k' arr (renB g b) := by
  have pn : ∀ p', PosTo O O' .no p' := fun p' h => absurd rfl h
  cases b with
  | box cs =>
    refine ⟨by rw [length_renL]; exact h.1, fun i x hx => ?_⟩
    obtain ⟨y, hy, rfl⟩ := nth_renL hx
    exact (h.2 i y hy).renum him had _ (hp 0 i) (fun _ => pn _) (okL_nth hk hy) (hn.imp (fun h => h.1) fun hn => noSL_nth hn hy)
  | row sz n el ow => exact ⟨h.1, fun i hi j hj => by
      have := (h.2 i hi j hj).renum (g := g) (ok := ok) him had _ (hp i j) (fun _ => pn _) rfl (.inr rfl)
      simpa only [renV] using this⟩
  | mp q has val => exact h.elim
  | mat n m el =>
    have hn : ∀ B i, O B = .inn k i → O' B = .inn k' i := by
      rcases hn with hn | hn
      · exact hn.2
      · simp [noSB] at hn
    refine ⟨h.1, fun i hi => ?_⟩
    rcases h.2 i hi with h | ⟨B, cap, arr2, ty, h1, h2, h3, h4, h5, h6⟩
    · exact .inl h
    · exact .inr ⟨B, cap, arr2, ty, h1, hn _ _ h2, h3, h4, h5, fun j hj => (h6 j hj).change fun B o hB hi => ⟨him B o hB hi, rfl⟩⟩

theorem VRel.chg0 {O' : Nat → Own} (him : ∀ B o, B < w.heap.size → im O B o → im O' B o) {x : AVal} {v : Value} (h : VRel w O [] .no x v) : VRel w O' [] .no x v := by
  have hc : ∀ {x v}, PRel w O x v → PRel w O' x v := fun hp => hp.change fun B o hB hi => ⟨him B o hB hi, rfl⟩
  have inner : ∀ {p : Pos} {x : AVal} {v : Value}, VRel w O [] p x v → p = .no → VRel w O' [] .no x v := by
    intro p x v hx
    induction hx with
    | pv h => exact fun _ => .pv (hc h)
    | own _ ho => intro hp; subst hp; exact absurd rfl ho.1
    | ptr h => simp [nth] at h
    | arrE h _ => simp [nth] at h
    | arr h _ => simp [nth] at h
    | mref h => simp [nth] at h
    | subE h _ => simp [nth] at h
    | sub h _ _ => simp [nth] at h
    | psub h _ => simp [nth] at h
    | fn a hs hr ih => exact fun _ => .fn a hs (fun i x hx => ih i x hx rfl)
    | agg a hs hr ih => exact fun _ => .agg a hs (fun i x hx => ih i x hx rfl)
    | av a hs hr => exact fun _ => .av a hs (fun i hi j hj => hc (hr i hi j hj))
    | @tup p cs a hs hr ih => intro hp; subst hp; exact .tup a hs (fun i x hx => ih i x hx rfl)
    | undef v => exact fun _ => .undef v
  exact inner h rfl

theorem ObjRel.ren {O' : Nat → Own} {ad' : List Nat} {g : Nat → Nat} {ok : Nat → Bool} (him : ∀ B o, B < w.heap.size → im O B o → im O' B o) (had : ∀ k B, ok k = true → nth ad k = some B → nth ad' (g k) = some B) {k k' : Nat} {x : Obj} {b : Blk}
    (hp : ∀ i j, PosTo O O' (.cell k i j) (.cell k' i j)) (hk : okB ok b = true) (hn : RenS O O' ad g ok k k' b) (h : ObjRel w O ad k x b) : ObjRel w O' ad' k' x (renB g b) := by
  cases x with
  | cells arr ty fz =>
    have h' : fz = (0, 0) ∧ BlkRel w O ad k arr b := by cases b <;> exact h
    have := h'.2.ren him had hp hk hn
    cases b <;> exact ⟨h'.1, this⟩
  | map es c =>
    cases b with
    | mp q has val => exact ⟨h.ok, h.apart, h.has, fun e he => by
        exact (h.val e he).chg0 him⟩
    | _ => exact h.elim
  | _ => cases b <;> exact h.elim

theorem OpOkC.call {C : Nat → Shape} {fg : Nat} {g : Nat} {vs : Array Value} (hrun : (execOp a.eval o).run P w = .ok (.enter g vs) w)
    (h : Calls P g vs w fun e w' => ∃ rv, e = .returned rv ∧ ∃ st' O' ad', K st' ∧ Sat st' (a.put o.dst rv) w' O' ad' ∧ Step w O w' O' ∧ (isStoreC C fg o.op = false → Agree O w w')) : OpOkC P C fg o a w O Q K := by
  unfold OpOkC Oper.wp
  rw [hrun]
  simp only [Oper.upon]
  refine h.mono fun e w' ⟨rv, he, st', O', ad', h1, h2, h3, h4⟩ => ?_
  subst he
  exact ⟨st', O', ad', h1, h2, h3, h4⟩

theorem callee_rel {p : Pos} {fv : AVal} {v : Value} {f : Nat} {caps : List AVal} (h : VRel w O ad p fv v) (hc : calleeOf fv = some (f, caps)) :
    ∃ arr : Array Value, v = .func (.func f) #[] arr ∧ arr.size = caps.length ∧ ∀ i x, nth caps i = some x → VRel w O ad .no x (arr.getD i undef) := by
  unfold calleeOf at hc
  split at hc
  · rename_i o' f' n cap
    simp only [Option.some.injEq, Prod.mk.injEq] at hc
    obtain ⟨rfl, rfl⟩ := hc
    cases prel_of h with
    | fn arr hs hr =>
      refine ⟨arr, rfl, by rw [length_cellsFrom]; exact hs, fun i x hx => ?_⟩
      obtain ⟨hi, rfl⟩ := nth_cellsFrom hx
      rw [Nat.zero_add]
      exact .pv (hr i hi)
  · rename_i f' cs
    simp only [Option.some.injEq, Prod.mk.injEq] at hc
    obtain ⟨rfl, rfl⟩ := hc
    cases h with
    | fn arr hs hr => exact ⟨arr, rfl, hs, hr⟩
  · simp at hc

theorem args_rel {e : Operand → AVal} {ρ : Operand → Value} (he : ∀ x, VRel w O ad (posOf x) (e x) (ρ x)) {xs : Array Operand} {caps : List AVal} {arr : Array Value} (hs : arr.size = caps.length)
    (hr : ∀ i x, nth caps i = some x → VRel w O ad .no x (arr.getD i undef)) : (xs.map ρ ++ arr).size = (shedL (evAll e xs.toList) ++ caps).length ∧
      ∀ i x, nth (shedL (evAll e xs.toList) ++ caps) i = some x → VRel w O ad .no x ((xs.map ρ ++ arr).getD i undef) := by
  have hl : (shedL (evAll e xs.toList)).length = xs.size := by rw [length_shedL, length_evAll]; simp
  refine ⟨by simp [hl, hs], fun i x hx => ?_⟩
  rw [nth_append, hl] at hx
  by_cases c : i < xs.size
  · rw [if_pos c] at hx
    obtain ⟨y, hy, rfl⟩ := nth_shedL hx
    obtain ⟨z, hz, rfl⟩ := nth_evAll hy
    have e1 : (xs.map ρ ++ arr).getD i undef = (xs.map ρ).getD i undef := by
      simp only [Array.getD_eq_getD_getElem?, Array.getElem?_append, Array.size_map, c, if_true]
    rw [e1, getD_map' hz]
    exact (he z).shed .no
  · rw [if_neg c] at hx
    have e1 : (xs.map ρ ++ arr).getD i undef = arr.getD (i - xs.size) undef := by
      simp only [Array.getD_eq_getD_getElem?, Array.getElem?_append, Array.size_map, c, if_false]
    rw [e1]
    exact hr _ x hx

theorem enter_run {f : Operand} {xs : Array Operand} {ts : Array TypeId} (ho : o.op = .call ⟨.value f, xs, ts⟩) {g : Nat} {arr : Array Value} (hf : a.eval f = .func (.func g) #[] arr)
    (hfn : ∃ fn, P.funcs[g]? = some fn ∧ (fn.name == "runtime.NumGoroutine") = false ∧ fn.body.isNone = false) : (execOp a.eval o).run P w = .ok (.enter g (xs.map a.eval ++ arr)) w := by
  obtain ⟨fn, h1, h2, h3⟩ := hfn
  unfold execOp
  simp only [ho, resolve, run_bind, hf, Deferred.ofValue, run_pure, invoke, callFunc, program, Sem.run, h1, h2, h3, Bool.false_eq_true, if_false]
  simp


theorem hide_cases {ks : List Nat} {B : Nat} (hB : B < w.heap.size) : (hide w O ks B = .out (im O B) ∧ (∀ k, O B = .blk k → memN k ks = false) ∧ ∀ k i j fill, O B = .lst (.cell k i j) fill → memN k ks = false) ∨
    (∃ k, O B = .blk k ∧ memN k ks = true ∧ hide w O ks B = .blk (idxN k ks)) ∨ (∃ k i j fill, O B = .lst (.cell k i j) fill ∧ memN k ks = true ∧ hide w O ks B = .lst (.cell (idxN k ks) i j) fill) := by
  unfold hide
  rw [if_pos hB]
  cases h : O B with
  | blk k =>
    cases hm : memN k ks with
    | true => exact .inr (.inl ⟨k, rfl, hm, by simp [hm]⟩)
    | false => exact .inl ⟨by simp [hm], fun k' e => by simp at e; subst e; exact hm, fun _ _ _ _ e => by simp at e⟩
  | lst p fill =>
    cases p with
    | cell k i j =>
      cases hm : memN k ks with
      | true => exact .inr (.inr ⟨k, i, j, fill, rfl, hm, by simp [hm]⟩)
      | false => exact .inl ⟨by simp [hm], fun _ e => by simp at e, fun k' i' j' f' e => by simp at e; obtain ⟨⟨rfl, _⟩, _⟩ := e; exact hm⟩
    | _ => exact .inl ⟨rfl, fun _ e => by simp at e, fun _ _ _ _ e => by simp at e⟩
  | free => exact .inl ⟨rfl, fun _ e => by simp at e, fun _ _ _ _ e => by simp at e⟩
  | out s => exact .inl ⟨rfl, fun _ e => by simp at e, fun _ _ _ _ e => by simp at e⟩
  | inn k i => exact .inl ⟨rfl, fun _ e => by simp at e, fun _ _ _ _ e => by simp at e⟩

theorem im_hide {ks : List Nat} {B o : Nat} (hB : B < w.heap.size) : im (hide w O ks) B o ↔ im O B o := by
  rcases hide_cases (O := O) (ks := ks) hB with ⟨h, _⟩ | ⟨k, h0, _, h⟩ | ⟨k, i, j, fill, h0, _, h⟩
  · simp only [im, h]
  · simp only [im, h, h0]
  · simp only [im, h, h0]

theorem hide_noInn {ks : List Nat} {B k i : Nat} : hide w O ks B ≠ .inn k i := by
  intro h
  by_cases hB : B < w.heap.size
  · rcases hide_cases (O := O) (ks := ks) hB with ⟨h1, _⟩ | ⟨_, _, _, h1⟩ | ⟨_, _, _, _, _, _, h1⟩ <;> rw [h1] at h <;> simp at h
  · unfold hide at h; rw [if_neg hB] at h; simp at h

theorem hide_fresh {ks : List Nat} : Fresh w (hide w O ks) := ⟨fun B hB => by unfold hide; rw [if_neg (by omega)], fun _ _ _ _ h => absurd h hide_noInn⟩

/-- what is hidden is as it was -/
theorem hidden_step {H : Nat → Own} {w' : World} {O' : Nat → Own} (h : Step w H w' O') {B : Nat} {s : Nat → Prop} (hB : B < w.heap.size) (hs : H B = .out s) : O' B = .out s ∧ w'.heap[B]? = w.heap[B]? := by
  obtain ⟨h1, h2⟩ := h.free B hB (by rw [hs]; trivial)
  exact ⟨h1.trans hs, h2⟩

theorem conv_im {ks : List Nat} {q : Pos} {x : Own} {o : Nat} {X : Nat → Own} {B : Nat} (hX : X B = conv ks q x) {Y : Nat → Own} (hY : Y B = x) (hi : im Y B o) : im X B o := by
  unfold im at *
  rw [hX]
  rw [hY] at hi
  cases x with
  | free => simp [conv]
  | out s => simp [conv]
  | blk k => exact hi.elim
  | inn k i => exact hi.elim
  | lst p fill =>
    cases p <;> simp only [conv] <;> first | exact hi | trivial | skip
    rename_i i a b
    cases Nat.blt i ks.length <;> simp only [cond_true, cond_false] <;> first | exact hi | trivial

theorem nth_map_getN {f : Nat → Nat} : ∀ {ks : List Nat} {i : Nat}, i < ks.length → nth (ks.map f) i = some (f (getN ks i))
  | [], _, h => by simp at h
  | x :: _, 0, _ => rfl
  | _ :: r, i + 1, h => nth_map_getN (ks := r) (by simpa using h)

mutual
theorem ren_nilV {w : World} {O : Nat → Own} {g : Nat → Nat} {ok : Nat → Bool} {p : Pos} {v : Value} : ∀ {x : AVal}, VRel w O [] p x v → renV g x = x ∧ okV ok x = true ∧ noSV x = true
  | .pv o x, h => ⟨rfl, rfl, rfl⟩
  | .av .., h => ⟨rfl, rfl, rfl⟩
  | .undef, h => ⟨rfl, rfl, rfl⟩
  | .sub .., h => by cases h with | subE h => simp [nth] at h | sub h => simp [nth] at h
  | .psub .., h => by cases h with | psub h => simp [nth] at h
  | .ptr .., h => by cases h with | ptr h => simp [nth] at h
  | .arr .., h => by cases h with | arrE h => simp [nth] at h | arr h => simp [nth] at h
  | .mref _, h => by cases h with | mref h => simp [nth] at h
  | .fn f cs, h => by
    cases h with
    | fn a hs hr =>
      have := ren_nilL (g := g) (ok := ok) hr
      exact ⟨by simp only [renV, this.1], by simp only [okV, this.2.1], by simp only [noSV, this.2.2]⟩
  | .agg cs, h => by
    cases h with
    | agg a hs hr =>
      have := ren_nilL (g := g) (ok := ok) hr
      exact ⟨by simp only [renV, this.1], by simp only [okV, this.2.1], by simp only [noSV, this.2.2]⟩
  | .tup cs, h => by
    cases h with
    | tup a hs hr =>
      have := ren_nilL (g := g) (ok := ok) hr
      exact ⟨by simp only [renV, this.1], by simp only [okV, this.2.1], by simp only [noSV, this.2.2]⟩
theorem ren_nilL {w : World} {O : Nat → Own} {g : Nat → Nat} {ok : Nat → Bool} {p : Nat → Pos} {f : Nat → Value} : ∀ {l : List AVal}, (∀ i x, nth l i = some x → VRel w O [] (p i) x (f i)) → renL g l = l ∧ okL ok l = true ∧ noSL l = true
  | [], h => ⟨rfl, rfl, rfl⟩
  | x :: r, h => by
    have h1 := ren_nilV (g := g) (ok := ok) (h 0 x rfl)
    have h2 := ren_nilL (g := g) (ok := ok) (p := fun i => p (i + 1)) (f := fun i => f (i + 1)) (l := r) (fun i y hy => h (i + 1) y (by simpa [nth] using hy))
    exact ⟨by simp only [renL, h1.1, h2.1], by simp only [okL, h1.2.1, h2.2.1, Bool.and_self], by simp only [noSL, h1.2.2, h2.2.2, Bool.and_self]⟩
end

theorem ren_nil {g : Nat → Nat} {ok : Nat → Bool} {p : Pos} {x : AVal} {v : Value} (h : VRel w O [] p x v) : renV g x = x ∧ okV ok x = true ∧ noSV x = true := ren_nilV h

/-- what the callee sees of a caller's memory: hidden, or handed over -/
structure Seen (w : World) (O H : Nat → Own) (ks : List Nat) : Prop where
  out : ∀ B, B < w.heap.size → (∃ s, H B = .out s) ∨ (∃ k, O B = .blk k ∧ memN k ks = true ∧ ∃ i, H B = .blk i) ∨ (∃ k i j fill, O B = .lst (.cell k i j) fill ∧ memN k ks = true ∧ ∃ p f, H B = .lst p f)
  imm : ∀ B o, B < w.heap.size → im O B o → im H B o
  fre : ∀ B, ¬ B < w.heap.size → H B = .free

theorem hide_seen {ks : List Nat} : Seen w O (hide w O ks) ks := by
  refine ⟨fun B hB => ?_, fun B o hB hi => (im_hide hB).2 hi, fun B hB => by unfold hide; rw [if_neg hB]⟩
  rcases hide_cases (O := O) (ks := ks) hB with ⟨h, _⟩ | ⟨k, h0, h1, h2⟩ | ⟨k, i, j, fill, h0, h1, h2⟩
  · exact .inl ⟨_, h⟩
  · exact .inr (.inl ⟨k, h0, h1, _, h2⟩)
  · exact .inr (.inr ⟨k, i, j, fill, h0, h1, _, _, h2⟩)

theorem hideR_seen : Seen w O (hideR w O) [] := by
  refine ⟨fun B hB => .inl ?_, fun B o hB hi => ?_, fun B hB => by unfold hideR; rw [if_neg hB]⟩
  · unfold hideR
    rw [if_pos hB]
    cases h : O B <;> simp
  · unfold im hideR at *
    rw [if_pos hB]
    cases h : O B <;> simp_all [im]

section
variable {H : Nat → Own} {ks ks2 : List Nat} {w' : World} {O' : Nat → Own}

theorem back_out {q : Pos} {B : Nat} {s : Nat → Prop} (hs : H B = .out s) : back H O O' ks2 q B = O B := by simp [back, hs]

theorem back_conv {q : Pos} {B : Nat} (hs : ∀ s, H B ≠ .out s) : back H O O' ks2 q B = conv ks2 q (O' B) := by
  unfold back
  cases h : H B <;> simp_all

theorem back_im (hS : Seen w O H ks) (h : Step w H w' O') (q : Pos) {B o : Nat} (hB : B < w.heap.size) (hi : im O B o) : im (back H O O' ks2 q) B o := by
  by_cases hh : ∃ s, H B = .out s
  · obtain ⟨s, hs⟩ := hh
    unfold im at *; rw [back_out hs]; exact hi
  · exact conv_im (back_conv fun s hs => hh ⟨s, hs⟩) rfl (h.cell B o hB (hS.imm B o hB hi)).1

theorem back_step (hS : Seen w O H ks) (h : Step w H w' O') (q : Pos) : Step w O w' (back H O O' ks2 q) := by
  refine ⟨h.sz, h.os, h.tape, h.output, h.size, fun B o hB hi => ⟨back_im hS h q hB hi, (h.cell B o hB (hS.imm B o hB hi)).2⟩, fun B hB hf => ?_, fun B hB hk => ?_⟩
  · rcases hS.out B hB with ⟨s, hs⟩ | ⟨k, hk, _⟩ | ⟨k, i, j, fill, hk, _⟩
    · exact ⟨back_out hs, (hidden_step h hB hs).2⟩
    · rw [hk] at hf; exact hf.elim
    · rw [hk] at hf; exact hf.elim
  · rcases hS.out B hB with ⟨s, hs⟩ | ⟨k', _, _, i, hi⟩ | ⟨k', i, j, fill, hk', _⟩
    · exact .inl (by rw [back_out hs]; exact hk)
    · rw [back_conv (by simp [hi])]
      have := h.blk B hB (by rw [hi]; trivial)
      cases hO : O' B with
      | lst p fill => rw [hO] at this; simp [Own.mem, Own.fixed] at this
      | blk i' => simp only [conv]; cases Nat.blt i' ks2.length <;> simp [Own.mem, Own.fixed]
      | _ => simp [conv, Own.mem, Own.fixed]
    · rw [hk'] at hk; exact hk.elim

theorem conv_noInn {q : Pos} {x : Own} {k i : Nat} : conv ks2 q x ≠ .inn k i := by
  cases x with
  | lst p fill =>
    cases p with
    | cell j _ _ => simp only [conv]; cases Nat.blt j ks2.length <;> simp
    | _ => simp [conv]
  | blk j => simp only [conv]; cases Nat.blt j ks2.length <;> simp
  | _ => simp [conv]

theorem back_inn' {q : Pos} {B k i : Nat} (h : back H O O' ks2 q B = .inn k i) : O B = .inn k i := by
  by_cases hh : ∃ s, H B = .out s
  · obtain ⟨s, hs⟩ := hh
    rwa [back_out hs] at h
  · rw [back_conv fun s hs => hh ⟨s, hs⟩] at h
    exact absurd h conv_noInn

theorem back_inn (hS : Seen w O H ks) (hf : Fresh w O) (q : Pos) : InnK O (back H O O' ks2 q) := fun B k i hB => by
  have hlt := hf.lt (B := B) (by rw [hB]; simp)
  rcases hS.out B hlt with ⟨s, hs⟩ | ⟨k', hk, _⟩ | ⟨k', i', j, fill', hk, _⟩
  · exact (back_out hs).trans hB
  · rw [hk] at hB; simp at hB
  · rw [hk] at hB; simp at hB

theorem back_fresh (hS : Seen w O H ks) (hO : Uni O) (h : Step w H w' O') (hf : Fresh w' O') (q : Pos) : Fresh w' (back H O O' ks2 q) := by
  refine ⟨fun B hB => ?_, fun _ _ _ _ h1 h2 => hO _ _ _ _ (back_inn' h1) (back_inn' h2)⟩
  have := h.size
  have h1 := hS.fre B (by omega)
  rw [back_conv (by simp [h1]), hf.fr B hB]; rfl

/-- what is not handed over is kept -/
theorem back_kept (hS : Seen w O H ks) (h : Step w H w' O') (hf : Fresh w O) (q p : Pos) (hp : ∀ k i j, p = .cell k i j → memN k ks = false) : KeptAt w O w' (back H O O' ks2 q) p := by
  refine ⟨fun r B fill hr hn hB => ?_, fun _ _ _ i B _ hB => ?_⟩
  case refine_2 =>
    have hlt := hf.lt (B := B) (by rw [hB]; simp)
    rcases hS.out B hlt with ⟨s, hs⟩ | ⟨k', hk, _⟩ | ⟨k', i', j, fill', hk, _⟩
    · exact ⟨(back_out hs).trans hB, (hidden_step h hlt hs).2⟩
    · rw [hk] at hB; simp at hB
    · rw [hk] at hB; simp at hB
  have hlt : B < w.heap.size := hf.lt (by rw [hB]; simp)
  have hrp : ∀ k i j, r = .cell k i j → memN k ks = false := by
    intro k i j e
    rcases hr with hr | ⟨i', hr⟩
    · exact hp k i j (hr ▸ e)
    · rw [hr] at e; cases p <;> simp [Pos.sub] at e
  rcases hS.out B hlt with ⟨s, hs⟩ | ⟨k, hk, _⟩ | ⟨k, i, j, fill', hk, hm, _⟩
  · exact ⟨(back_out hs).trans hB, (hidden_step h hlt hs).2⟩
  · rw [hk] at hB; simp at hB
  · rw [hk] at hB; simp at hB
    rw [hrp k i j hB.1.symm] at hm; simp at hm

theorem back_env (hS : Seen w O H ks) (h : Step w H w' O') (hf : Fresh w O) (q : Pos) {nt : Nat} {e : List (Nat × AVal)} {ts : Array Value} (he : EnvRel w O ad nt e ts) : EnvRel w' (back H O O' ks2 q) ad nt e ts :=
  ⟨he.1, fun d => (he.2 d).step (back_step hS h q) (back_inn hS hf q) (fun _ _ h => h) (back_kept hS h hf q _ (by simp))⟩

/-- a block that is not handed over -/
theorem back_blk (hS : Seen w O H ks) (h : Step w H w' O') (hf : Fresh w O) (q : Pos) {L : List Blk} (hH : HeapRel w O ad L) {k : Nat} {b : Blk} (hk : memN k ks = false) (hb : nth L k = some b) :
    ∃ c, nth ad k = some c ∧ ((c = 0 ∧ b.ghost) ∨ ∃ B x, c = B + 1 ∧ back H O O' ks2 q B = .blk k ∧ w'.heap[B]? = some x ∧ ObjRel w' (back H O O' ks2 q) ad k x b) := by
  obtain ⟨c, h1, ⟨h2, hg⟩ | ⟨B, x, rfl, h2, h3, h4⟩⟩ := hH k b hb
  · exact ⟨c, h1, .inl ⟨h2, hg⟩⟩
  have hlt : B < w.heap.size := (Array.getElem?_eq_some_iff.1 h3).1
  rcases hS.out B hlt with ⟨s, hs⟩ | ⟨k', hk', hm, _⟩ | ⟨k', i, j, fill', hk', _⟩
  · exact ⟨B + 1, h1, .inr ⟨B, x, rfl, (back_out hs).trans h2, (hidden_step h hlt hs).2.trans h3, h4.step (back_step hS h q) (back_inn hS hf q) (fun _ _ h => h) (fun i j => back_kept hS h hf q _ (fun k' _ _ e => by simp at e; rw [← e.1]; exact hk))⟩⟩
  · rw [h2] at hk'; simp at hk'; subst hk'; rw [hk] at hm; simp at hm
  · rw [h2] at hk'; simp at hk'

/-- where the callee's lists go -/
theorem nout (hS : Seen w O H ks) (h : Step w H w' O') {B : Nat} {p : Pos} {fill : Nat} (hp : O' B = .lst p fill) : ∀ s, H B ≠ .out s := fun s hs => by
  by_cases hB : B < w.heap.size
  · rw [(hidden_step h hB hs).1] at hp; simp at hp
  · rw [hS.fre B hB] at hs; simp at hs

/-- the result as the caller has it -/
theorem back_rel {ad' : List Nat} (hS : Seen w O H ks) (h : Step w H w' O') (d : Nat) {x : AVal} {v : Value} (him : ∀ B o, B < w'.heap.size → im O' B o → im (back H O O' ks2 (.tmp d)) B o)
    (had : ∀ i B, Nat.blt i ks2.length = true → nth ad' i = some B → nth ad (getN ks2 i) = some B) (hr : VRel w' O' ad' .ret x v) (hx : okV (fun i => Nat.blt i ks2.length) x = true) (hn : noSV x = true) : VRel w' (back H O O' ks2 (.tmp d)) ad (.tmp d) (renV (getN ks2) x) v := by
  refine hr.renum (ok := fun i => Nat.blt i ks2.length) him had (.tmp d) (fun _ => ⟨by simp, fun B fill hB => ?_⟩) (fun i _ => ⟨by simp [Pos.sub], fun B fill hB => ?_⟩) hx (.inr hn)
  · rw [back_conv (nout hS h hB), hB]; rfl
  · have hB : O' B = .lst (.reti i) fill := hB
    rw [back_conv (nout hS h hB), hB]; rfl

end

mutual
theorem flatV_rel {w w' : World} {O O' : Nat → Own} {ad ad' : List Nat} {p p' : Pos} {v : Value} : ∀ {x : AVal}, flatV x = true → VRel w O ad p x v → VRel w' O' ad' p' x v
  | .pv o x, hf, h => by
    have hp : PRel w' O' x v := by
      have := prel_of h
      cases this <;> first | exact .bool _ | exact .int _ _ | exact .str _ | exact .nilp | exact .nilm | exact .nilf | exact .nili | simp [flatV, flatP] at hf
    cases h with
    | pv _ => exact .pv hp
    | own _ _ => simp [flatV, flatP] at hf
  | .tup cs, hf, h => by
    cases h with
    | tup a hs hr => exact .tup a hs (fun i x hx => flatL_rel (by simpa [flatV] using hf) hx (hr i x hx))
  | .agg cs, hf, h => by
    cases h with
    | agg a hs hr => exact .agg a hs (fun i x hx => flatL_rel (by simpa [flatV] using hf) hx (hr i x hx))
  | .ptr .., hf, _ => by simp [flatV] at hf
  | .arr .., hf, _ => by simp [flatV] at hf
  | .mref _, hf, _ => by simp [flatV] at hf
  | .fn .., hf, _ => by simp [flatV] at hf
  | .av .., hf, _ => by simp [flatV] at hf
  | .undef, hf, _ => by simp [flatV] at hf
theorem flatL_rel {w w' : World} {O O' : Nat → Own} {ad ad' : List Nat} {p p' : Pos} {v : Value} {x : AVal} : ∀ {l : List AVal} {i : Nat}, flatL l = true → nth l i = some x → VRel w O ad p x v → VRel w' O' ad' p' x v
  | [], _, _, h, _ => by simp [nth] at h
  | y :: r, 0, hf, h, hr => by
    simp only [nth, Option.some.injEq] at h
    subst h
    simp only [flatL, Bool.and_eq_true] at hf
    exact flatV_rel hf.1 hr
  | y :: r, i + 1, hf, h, hr => by
    simp only [flatL, Bool.and_eq_true] at hf
    exact flatL_rel (l := r) (i := i) hf.2 h hr
end

/-- memory that is read: a row's, a table's -/
def rdO (O : Nat → Own) (B : Nat) : Prop := (∃ k, O B = .blk k) ∨ ∃ k i, O B = .inn k i

/-- a row of a table, as a list -/
theorem Hdr.prel {O' : Nat → Own} {k i m : Nat} {el : Nat → PV} {v : Value} (h : Hdr w O k i m el v) (him : ∀ B o, B < w.heap.size → im O B o → im O' B o) (hin : ∀ B o, B < w.heap.size → O B = .inn k i → im O' B o) :
    PRel w O' (.lst 1 .any m fun j _ => el j) v := by
  rcases h with ⟨rfl, hv⟩ | ⟨B, cap, arr, ty, rfl, h2, h3, h4, h5, h6⟩
  · rcases hv with rfl | ⟨b, rfl⟩
    · exact .lstNil (by simp) (by simp)
    · exact .lstE b (by simp)
  · have hlt : B < w.heap.size := (Array.getElem?_eq_some_iff.1 h3).1
    refine .lst (fun j _ => arr.getD j undef) (fun j hj l hl => ⟨?_, hin B _ hlt h2⟩) (fun j hj l hl => (h6 j hj).change fun B o hB hi => ⟨him B o hB hi, rfl⟩) h4 (by simp) (by simp)
    rw [show 0 + j * 1 + l = j by omega]
    exact cell_of_block' h3 (by omega)

theorem readC_ok (hU : Uni O) (hH : HeapRel w O ad st.heap) {v : AVal} {u : Value} {p : Pos} (hp : p = .no) {K : AVal → Prop} (hv : VRel w O ad p v u) (h : readC st.heap v K) :
    ∃ y, K y ∧ ∀ O', (∀ B o, B < w.heap.size → im O B o ∨ rdO O B → im O' B o) → VRel w O' [] .no y u := by
  subst hp
  unfold readC at h
  split at h
  · rename_i k sz off n
    split at h
    · rename_i s m el ow hk
      replace h := needE h
      obtain ⟨e1, hle, h⟩ := h
      obtain rfl := beqE e1
      refine ⟨_, h, fun O' hO' => ?_⟩
      cases hv with
      | arrE _ hv =>
        rcases hv with rfl | ⟨b, rfl⟩
        · exact .pv (.lstNil (by simp) (by simp))
        · exact .pv (.lstE b (by simp))
      | @arr _ _ _ _ _ B' cap hk' hc _ =>
        obtain ⟨B, arr, ty, h1, h2, h3, h4, h5⟩ := hH.cellsB hk rfl hk'
        obtain rfl := h1
        have hlt : B' < w.heap.size := (Array.getElem?_eq_some_iff.1 h3).1
        refine .pv (.lst (fun i j => arr.getD ((i + off) * sz + j) undef) (fun i hi j hj => ⟨?_, hO' _ _ hlt (.inr (.inl ⟨k, h2⟩))⟩) (fun i hi j hj => ?_) hc (by simp) (by simp))
        · have hl : (i + off) * sz + j < arr.size := Nat.lt_of_lt_of_le (idx_lt (n := m) (by omega) hj) h4
          rw [show off * sz + i * sz + j = (i + off) * sz + j by rw [Nat.add_mul]; omega]
          exact cell_of_block' h3 hl
        · exact (prel_of (h5 (i + off) (by omega) j hj)).change fun B o hB hi => ⟨hO' B o hB (.inl hi), rfl⟩
    · rename_i q m el hk
      replace h := needE h
      obtain ⟨e1, hle, h⟩ := h
      obtain rfl := beqE e1
      refine ⟨_, h, fun O' hO' => ?_⟩
      cases hv with
      | arrE _ hv =>
        rcases hv with rfl | ⟨b, rfl⟩
        · exact .pv (.lstNil (by simp) (by simp))
        · exact .pv (.lstE b (by simp))
      | @arr _ _ _ _ _ B' cap hk' hc _ =>
        obtain ⟨B, arr, ty, h1, h2, h3, h4, h5⟩ := hH.cellsB hk rfl hk'
        obtain rfl := h1
        have hlt : B' < w.heap.size := (Array.getElem?_eq_some_iff.1 h3).1
        refine .pv (.lst (fun i j => arr.getD (off + i) undef) (fun i hi j hj => ⟨?_, hO' _ _ hlt (.inr (.inl ⟨k, h2⟩))⟩) (fun i hi j hj => ?_) hc (by simp) (by simp))
        · rw [show off * 1 + i * 1 + j = off + i by omega]
          exact cell_of_block' h3 (by omega)
        · have := (h5 (off + i) (by omega)).prel (fun B o hB hi => hO' B o hB (.inl hi)) (fun B o hB hi => hO' B o hB (.inr (.inr ⟨_, _, hi⟩)))
          simp only [tblR, shM_eq, shE_eq]
          exact this
    · exact h.elim
  · rename_i k i n
    split at h
    · rename_i q m el hk
      obtain ⟨hi, hle, h⟩ := h
      refine ⟨_, h, fun O' hO' => ?_⟩
      cases hv with
      | subE _ hv =>
        rcases hv with rfl | ⟨b, rfl⟩
        · exact .pv (.lstNil (by simp) (by simp))
        · exact .pv (.lstE b (by simp))
      | @sub _ _ _ _ B cap c ha hO hc =>
        by_cases hn : n = 0
        · subst hn
          refine .pv (.lst (fun j _ => undef) (fun j hj => by omega) (fun j hj => by omega) hc (by simp) (by simp))
        obtain ⟨B0, arr, ty, h1, h2, h3, h4, h5⟩ := hH.cells hk rfl (fun h => h)
        rcases h5 i hi with ⟨h6, _⟩ | ⟨B2, cap2, arr2, ty2, g1, g2, g3, g4, g5, g6⟩
        · omega
        · obtain rfl := hU _ _ _ _ hO g2
          have hlt : B < w.heap.size := (Array.getElem?_eq_some_iff.1 g3).1
          refine .pv (.lst (fun j _ => arr2.getD j undef) (fun j hj l hl => ⟨?_, hO' _ _ hlt (.inr (.inr ⟨_, _, hO⟩))⟩) (fun j hj l hl => (g6 j (by omega)).change fun B o hB hi => ⟨hO' B o hB (.inl hi), rfl⟩) hc (by simp) (by simp))
          rw [show 0 + j * 1 + l = j by omega]
          exact cell_of_block' g3 (by omega)
    · exact h.elim
  · obtain ⟨hp, h⟩ := needE h
    exact ⟨_, h, fun O' hO' => hv.pure (fun B o hB hi => hO' B o hB (.inl hi)) rfl hp⟩

theorem readCs_ok (hU : Uni O) (hH : HeapRel w O ad st.heap) : ∀ {l : List AVal} {K : List AVal → Prop} {f : Nat → Value}, (∀ i x, nth l i = some x → VRel w O ad .no x (f i)) → readCs st.heap l K →
    ∃ as, K as ∧ as.length = l.length ∧ ∀ O', (∀ B o, B < w.heap.size → im O B o ∨ rdO O B → im O' B o) → ∀ i x, nth as i = some x → VRel w O' [] .no x (f i)
  | [], K, f, _, h => ⟨[], h, rfl, fun _ _ i x hx => by simp [nth] at hx⟩
  | v :: r, K, f, hr, h => by
    simp only [readCs] at h
    obtain ⟨y, h1, h2⟩ := readC_ok hU hH rfl (hr 0 v rfl) h
    obtain ⟨as, g1, g2, g3⟩ := readCs_ok hU hH (f := fun i => f (i + 1)) (fun i x hx => hr (i + 1) x (by simpa [nth] using hx)) h1
    refine ⟨y :: as, g1, by simp [g2], fun O' hO' i x hx => ?_⟩
    cases i with
    | zero => simp [nth] at hx; subst hx; exact h2 O' hO'
    | succ i => exact g3 O' hO' i x hx

theorem readL_ok (hU : Uni O) (hH : HeapRel w O ad st.heap) : ∀ {l : List AVal} {K : List AVal → Prop} {f : Nat → Value}, (∀ i x, nth l i = some x → VRel w O ad .no x (f i)) → readL st.heap l K →
    ∃ as, K as ∧ as.length = l.length ∧ ∀ O', (∀ B o, B < w.heap.size → im O B o ∨ rdO O B → im O' B o) → ∀ i x, nth as i = some x → VRel w O' [] .no x (f i)
  | [], K, f, _, h => ⟨[], h, rfl, fun _ _ i x hx => by simp [nth] at hx⟩
  | v :: r, K, f, hr, h => by
    simp only [readL] at h
    have one : ∃ y, readL st.heap r (fun xs => K (y :: xs)) ∧ ∀ O', (∀ B o, B < w.heap.size → im O B o ∨ rdO O B → im O' B o) → VRel w O' [] .no y (f 0) := by
      have hv := hr 0 v rfl
      unfold readV at h
      split at h
      · rename_i cs
        revert hv
        generalize f 0 = u
        intro hv
        cases hv with
        | agg a hs hr2 =>
          obtain ⟨as, g1, g2, g3⟩ := readCs_ok hU hH hr2 h
          exact ⟨_, g1, fun O' hO' => .agg a (by rw [g2]; exact hs) (g3 O' hO')⟩
      · exact readC_ok hU hH rfl hv h
    obtain ⟨y, h1, h2⟩ := one
    obtain ⟨as, g1, g2, g3⟩ := readL_ok hU hH (f := fun i => f (i + 1)) (fun i x hx => hr (i + 1) x (by simpa [nth] using hx)) h1
    refine ⟨y :: as, g1, by simp [g2], fun O' hO' i x hx => ?_⟩
    cases i with
    | zero => simp [nth] at hx; subst hx; exact h2 O' hO'
    | succ i => exact g3 O' hO' i x hx

theorem hideR_im {B o : Nat} (hB : B < w.heap.size) (h : im O B o ∨ rdO O B) : im (hideR w O) B o := by
  unfold im hideR at *
  rw [if_pos hB]
  rcases h with h | ⟨k, h⟩ | ⟨k, i, h⟩
  · cases hO : O B <;> simp_all [im]
  · rw [h]; trivial
  · rw [h]; trivial

/-- a call that writes nothing of the caller's -/
theorem call_quiet {C : Nat → Shape} {fg : Nat} (hS : Sat st a w O ad) (hd : okDst st o.dst = true) {H : Nat → Own} (hH : Seen w O H []) (hno : ∀ B, B < w.heap.size → ∃ s, H B = .out s) {g : Nat} {vs : Array Value} {args : List AVal} (hrun : (execOp a.eval o).run P w = .ok (.enter g vs) w)
    (hsz : vs.size = args.length) (hargs : ∀ i x, nth args i = some x → VRel w H [] .no x (vs.getD i undef)) (h : CallOK P g args [] fun r _ => K (st.put o.dst r) ∧ (flatV r = true ∨ H = hide w O [])) : OpOkC P C fg o a w O Q K := by
  refine .call hrun ?_
  refine (h.2 w H [] _ hsz hargs (fun k b hb => by simp [nth] at hb) rfl ⟨fun B hB => hH.fre B (by omega), fun B _ k i h1 _ => by
    exfalso
    by_cases hB : B < w.heap.size
    · obtain ⟨s, hs⟩ := hno B hB
      rw [hs] at h1; simp at h1
    · rw [hH.fre B hB] at h1; simp at h1⟩).mono ?_
  rintro e w' ⟨r, rv, O', L', rfl, ⟨hk, hfl⟩, _, hr, _, hst, hfr⟩
  have hag : Agree O w w' := fun B q hB _ => by
    obtain ⟨s, hs⟩ := hno B hB
    simp only [World.cell?, (hidden_step hst hB hs).2]
  have sat : ∀ q, Sat st a w' (back H O O' [] q) ad := fun q => ⟨back_env hH hst hS.fresh q hS.env, fun k b hb => back_blk hH hst hS.fresh q hS.heap rfl hb, hS.len, hS.pin, hS.dn, back_fresh hH hS.fresh.uni hst hfr q⟩
  cases hdd : o.dst with
  | none =>
    rw [hdd] at hk
    exact ⟨rv, rfl, st, back H O O' [] (.tmp 0), ad, hk, sat _, back_step hH hst _, fun _ => hag⟩
  | some d =>
    rw [hdd] at hk
    refine ⟨rv, rfl, _, _, ad, hk, (sat (.tmp d)).put (dst := some d) (by rw [hdd] at hd; exact hd) (fun _ => ?_), back_step hH hst _, fun _ => hag⟩
    rcases hfl with hfl | hfl
    · exact flatV_rel hfl hr
    · subst hfl
      have hren : renV (getN []) r = r ∧ okV (fun i => Nat.blt i ([] : List Nat).length) r = true ∧ noSV r = true := ren_nil hr
      have := back_rel (ad := ad) hide_seen hst d (fun B o' hB hi => ?_) (fun i B hi => by simp at hi) hr hren.2.1 hren.2.2
      · rw [hren.1] at this; exact this
      · by_cases hh : B < w.heap.size
        · obtain ⟨s, hs⟩ := hno B hh
          have e : s = im O B := by
            rcases hide_cases (O := O) (ks := []) hh with ⟨h, _⟩ | ⟨k, _, hm, _⟩ | ⟨k, i, j, fill, _, hm, _⟩
            · rw [h] at hs; simp at hs; exact hs.symm
            · simp [memN] at hm
            · simp [memN] at hm
          have h1 := (hidden_step hst hh hs).1
          unfold im at hi ⊢
          rw [h1] at hi
          rw [back_out hs]
          rw [e] at hi
          exact hi
        · exact conv_im (back_conv (by simp [hide_seen.fre B hh])) rfl hi

theorem lenB_eq : ∀ (l : List Blk), lenB l = l.length
  | [] => rfl
  | _ :: r => by simp [lenB, lenB_eq r]

theorem takeB_eq : ∀ (n : Nat) (l : List Blk), takeB n l = l.take n
  | 0, _ => by simp [takeB]
  | _ + 1, [] => rfl
  | n + 1, _ :: r => by simp [takeB, takeB_eq n r]

theorem dropB'_eq : ∀ (n : Nat) (l : List Blk), dropB' n l = l.drop n
  | 0, _ => by simp [dropB']
  | _ + 1, [] => rfl
  | n + 1, _ :: r => by simp [dropB', dropB'_eq n r]

theorem appN_eq : ∀ (l m : List Nat), appN l m = l ++ m
  | [], _ => rfl
  | x :: r, m => by simp [appN, appN_eq r m]

theorem appB_eq : ∀ (l m : List Blk), appB l m = l ++ m
  | [], _ => rfl
  | x :: r, m => by simp [appB, appB_eq r m]

theorem length_seqN : ∀ (s n : Nat), (seqN s n).length = n
  | _, 0 => rfl
  | s, n + 1 => by simp [seqN, length_seqN (s + 1) n]

theorem getN_seqN : ∀ {n s i : Nat}, i < n → getN (seqN s n) i = s + i
  | 0, _, _, h => by omega
  | n + 1, s, 0, _ => rfl
  | n + 1, s, i + 1, h => by simp only [seqN, getN]; rw [getN_seqN (by omega)]; omega

theorem getN_append : ∀ {l m : List Nat} {i : Nat}, getN (l ++ m) i = if i < l.length then getN l i else getN m (i - l.length)
  | [], m, i => by simp
  | x :: r, m, 0 => by simp [getN]
  | x :: r, m, i + 1 => by
    simp only [List.cons_append, getN, List.length_cons]
    rw [getN_append]
    by_cases h : i < r.length
    · rw [if_pos h, if_pos (by omega)]
    · rw [if_neg h, if_neg (by omega), show i + 1 - (r.length + 1) = i - r.length by omega]

theorem nth_renH {g : Nat → Nat} : ∀ {l : List Blk} {i : Nat} {b : Blk}, nth (renH g l) i = some b → ∃ c, nth l i = some c ∧ b = renB g c
  | [], _, _, h => by simp [renH, nth] at h
  | y :: r, 0, b, h => by simp [renH, nth] at h; exact ⟨y, rfl, h.symm⟩
  | y :: r, i + 1, b, h => by simp only [renH, nth] at h; exact nth_renH (l := r) (i := i) h

theorem length_renH {g : Nat → Nat} : ∀ {l : List Blk}, (renH g l).length = l.length
  | [] => rfl
  | _ :: r => by simp [renH, length_renH]

theorem nth_drop' {α : Type} : ∀ {n : Nat} {l : List α} {i : Nat}, nth (l.drop n) i = nth l (n + i)
  | 0, l, i => by simp
  | n + 1, [], i => by simp [nth]
  | n + 1, x :: r, i => by
    rw [List.drop_succ_cons, nth_drop', show n + 1 + i = (n + i) + 1 by omega]
    rfl

theorem nth_take' {α : Type} : ∀ {n : Nat} {l : List α} {i : Nat}, nth (l.take n) i = if i < n then nth l i else none
  | 0, l, i => by simp [nth]
  | n + 1, [], i => by simp [nth]
  | n + 1, x :: r, 0 => by simp [nth]
  | n + 1, x :: r, i + 1 => by
    simp only [List.take_succ_cons, nth]
    rw [nth_take']
    simp

/-- a call that is handed memory -/
theorem call_handG {C : Nat → Shape} {fg : Nat} (hS : Sat st a w O ad) (hd : okDst st o.dst = true) {g : Nat} {vs : Array Value} {as : List AVal} {ks : List Nat} (hrun : (execOp a.eval o).run P w = .ok (.enter g vs) w) (hstore : isStoreC C fg o.op = true ∨ ks = [])
    (hsz : vs.size = as.length) (hargs : ∀ i x, nth as i = some x → VRel w O ad .no x (vs.getD i undef)) (h : need (uniqN ks && (okL (fun k => memN k ks) as && (pickOk (fun k => memN k ks) st.heap ks && (noSL as && pickN st.heap ks)))) (CallG P g (renL (fun k => idxN k ks) as) (pickH (fun k => idxN k ks) st.heap ks) fun r L' => backK st o.dst ks r L' K)) : OpOkC P C fg o a w O Q K := by
  obtain ⟨hb, h⟩ := needE h
  obtain ⟨hu, hb⟩ := andE hb
  obtain ⟨hok, hb⟩ := andE hb
  obtain ⟨hpick, hb⟩ := andE hb
  obtain ⟨hnos, hpn⟩ := andE hb
  have hkl : ∀ k, memN k ks = true → k < st.heap.length := fun k hk => pickOk_lt hpick hk
  have hadk : ∀ k, memN k ks = true → ∃ B, nth ad k = some B := fun k hk => by
    have := hkl k hk
    rw [← hS.len] at this
    exact nth_some this
  let ad' : List Nat := ks.map fun k => (nth ad k).getD 0
  have had1 : ∀ k B, memN k ks = true → nth ad k = some B → nth ad' (idxN k ks) = some B := fun k B hk hB => by
    obtain ⟨h1, h2⟩ := memN_getN hk
    have : nth ad' (idxN k ks) = some ((nth ad (getN ks (idxN k ks))).getD 0) := nth_map_getN h1
    rw [this, h2, hB]; rfl
  have had2 : ∀ i B, Nat.blt i ks.length = true → nth ad' i = some B → nth ad (getN ks i) = some B := fun i B hi hB => by
    have hi := bltE hi
    have : nth ad' i = some ((nth ad (getN ks i)).getD 0) := nth_map_getN hi
    rw [this] at hB
    obtain ⟨B', h1⟩ := hadk _ (getN_mem hi)
    rw [h1] at hB ⊢; exact hB
  have pn : ∀ {O1 O2 : Nat → Own} p', PosTo O1 O2 .no p' := fun p' h => absurd rfl h
  have hin : ∀ B o, B < w.heap.size → im O B o → im (hide w O ks) B o := fun B o hB hi => (im_hide hB).2 hi
  refine .call hrun ?_
  refine (h.2 w (hide w O ks) ad' _ (by rw [length_renL]; exact hsz) (fun i x hx => ?_) (fun i b hb => ?_) (by rw [length_pickH]; simp [ad']) hide_fresh).mono ?_
  · obtain ⟨y, hy, rfl⟩ := nth_renL hx
    exact (hargs i y hy).renum (ok := fun k => memN k ks) hin had1 .no (pn _) (fun _ => pn _) (okL_nth hok hy) (.inr (noSL_nth hnos hy))
  · obtain ⟨hi, c, hc, rfl, hokc⟩ := nth_pickH hpick hb
    have hm := getN_mem hi
    have hix := idxN_getN hu hi
    obtain ⟨cd, h1, ⟨rfl, hg⟩ | ⟨B, x, rfl, h2, h3, h4⟩⟩ := hS.heap _ c hc
    · exact ⟨0, by have := had1 _ 0 hm h1; rwa [hix] at this, .inl ⟨rfl, renB_ghost.2 hg⟩⟩
    have hlt : B < w.heap.size := (Array.getElem?_eq_some_iff.1 h3).1
    refine ⟨B + 1, ?_, .inr ⟨B, x, rfl, ?_, h3, h4.ren (ok := fun k => memN k ks) hin had1 (fun a b _ => ⟨by simp, fun B' fill hB' => ?_⟩) hokc (.inr (pickN_nth hpn hi hc))⟩⟩
    · have := had1 _ _ hm h1; rwa [hix] at this
    · unfold hide; rw [if_pos hlt, h2]; simp [hm, hix]
    · have hlt' : B' < w.heap.size := by
        exact hS.fresh.lt (by rw [hB']; simp)
      unfold hide; rw [if_pos hlt', hB']; simp [hm, hix]
  rintro e w' ⟨r, rv, O', L', ad2, rfl, hk, hlen2, hpre, hr, hheap, hst, hfr⟩
  unfold backK at hk
  rw [lenB_eq, lenB_eq, takeB_eq, dropB'_eq, appB_eq] at hk
  obtain ⟨hb, hk⟩ := needE hk
  obtain ⟨hl, hb⟩ := andE hb
  obtain ⟨hor, hb⟩ := andE hb
  obtain ⟨hoh, hb⟩ := andE hb
  obtain ⟨hnr, hnh⟩ := andE hb
  have hl := Nat.le_of_ble_eq_true hl
  generalize hks2 : backN ks st.heap.length (L'.length - ks.length) = ks2 at hk
  have hks2' : ks2 = ks ++ seqN st.heap.length (L'.length - ks.length) := by rw [← hks2]; exact appN_eq _ _
  have hk2l : ks2.length = L'.length := by rw [hks2', List.length_append, length_seqN]; omega
  rw [← hk2l] at hor hoh
  have hg1 : ∀ i, i < ks.length → getN ks2 i = getN ks i := fun i hi => by rw [hks2', getN_append, if_pos hi]
  have hg2 : ∀ i, ks.length ≤ i → i < L'.length → getN ks2 i = st.heap.length + (i - ks.length) := fun i hi hi2 => by
    rw [hks2', getN_append, if_neg (by omega), getN_seqN (by omega)]
  have hH := hide_seen (w := w) (O := O) (ks := ks)
  let adN : List Nat := ad ++ ad2.drop ks.length
  have hadN : ∀ k B, nth ad k = some B → nth adN k = some B := fun k B h => by
    show nth (ad ++ ad2.drop ks.length) k = some B
    rw [nth_append, if_pos (nth_lt h)]; exact h
  have had3 : ∀ i B, Nat.blt i ks2.length = true → nth ad2 i = some B → nth adN (getN ks2 i) = some B := fun i B hi hB => by
    have hi := bltE hi
    by_cases c : i < ks.length
    · rw [hg1 i c]
      obtain ⟨B', h1⟩ := hadk _ (getN_mem c)
      have h2 : nth ad' i = some B' := by
        have : nth ad' i = some ((nth ad (getN ks i)).getD 0) := nth_map_getN c
        rw [this, h1]; rfl
      have h3 := hpre i B' h2
      rw [hB] at h3
      obtain rfl := Option.some.inj h3
      exact hadN _ _ h1
    · rw [hg2 i (by omega) (by omega)]
      show nth (ad ++ ad2.drop ks.length) _ = some B
      rw [nth_append, if_neg (by rw [hS.len]; omega), hS.len, nth_drop', show ks.length + (st.heap.length + (i - ks.length) - st.heap.length) = i by omega]
      exact hB
  have himw : ∀ q B o, B < w'.heap.size → im O' B o → im (back (hide w O ks) O O' ks2 q) B o := fun q B o hB hi => by
    by_cases hh : ∃ s, hide w O ks B = .out s
    · obtain ⟨s', hs'⟩ := hh
      have hlt : B < w.heap.size := by
        rcases Nat.lt_or_ge B w.heap.size with h | h
        · exact h
        · rw [hide_fresh.fr B h] at hs'; simp at hs'
      have e : s' = im O B := by
        rcases hide_cases (O := O) (ks := ks) hlt with ⟨h, _⟩ | ⟨k, _, _, h⟩ | ⟨k, i, j, fill, _, _, h⟩
        · rw [h] at hs'; simp at hs'; exact hs'.symm
        · rw [h] at hs'; simp at hs'
        · rw [h] at hs'; simp at hs'
      have h1 := (hidden_step hst hlt hs').1
      unfold im at hi ⊢
      rw [h1] at hi
      rw [back_out hs']
      rw [e] at hi
      exact hi
    · exact conv_im (back_conv fun s hs => hh ⟨s, hs⟩) rfl hi
  -- a block that comes back
  have comes : ∀ q i c, nth L' i = some c → ∃ cd, nth adN (getN ks2 i) = some cd ∧ ((cd = 0 ∧ (renB (getN ks2) c).ghost) ∨ ∃ B y, cd = B + 1 ∧ back (hide w O ks) O O' ks2 q B = .blk (getN ks2 i) ∧ w'.heap[B]? = some y ∧ ObjRel w' (back (hide w O ks) O O' ks2 q) adN (getN ks2 i) y (renB (getN ks2) c)) := fun q i c hc => by
    have hi2 : i < ks2.length := by rw [hk2l]; exact nth_lt hc
    have hblt : Nat.blt i ks2.length = true := Nat.ble_eq_true_of_le hi2
    obtain ⟨cd, g1, ⟨rfl, hg⟩ | ⟨B, y, rfl, g2, g3, g4⟩⟩ := hheap i c hc
    · exact ⟨0, had3 i _ hblt g1, .inl ⟨rfl, renB_ghost.2 hg⟩⟩
    refine ⟨B + 1, had3 i _ hblt g1, .inr ⟨B, y, rfl, ?_, g3, ?_⟩⟩
    · have hno : ∀ s, hide w O ks B ≠ .out s := fun s hs => by
        by_cases hB : B < w.heap.size
        · rw [(hidden_step hst hB hs).1] at g2; simp at g2
        · rw [hide_fresh.fr B (by omega)] at hs; simp at hs
      rw [back_conv hno, g2]
      simp only [conv]
      rw [hblt]; rfl
    · refine g4.ren (ok := fun i => Nat.blt i ks2.length) (himw q) had3 (fun a b _ => ⟨by simp, fun B' fill hB' => ?_⟩) (okH_nth hoh hc) (.inr (noSH_nth hnh hc))
      rw [back_conv (nout hH hst hB'), hB']
      simp only [conv]
      rw [hblt]; rfl
  have toN : ∀ {p x v q}, VRel w' (back (hide w O ks) O O' ks2 q) ad p x v → VRel w' (back (hide w O ks) O O' ks2 q) adN p x v := fun {p x v q} h => by
    have := h.renum (g := fun k => k) (ok := fun _ => true) (ad' := adN) (O' := back (hide w O ks) O O' ks2 q) (fun _ _ _ hi => hi) (fun k B _ h => hadN k B h) p (fun hn => ⟨hn, fun _ _ h => h⟩) (fun i hn => ⟨hn, fun _ _ h => h⟩) (okV_all x) (.inl fun _ _ _ _ _ _ h => h)
    rwa [renV_id] at this
  have sat : ∀ q, Sat { st with heap := putH (getN ks2) st.heap ks (L'.take ks.length) ++ renH (getN ks2) (L'.drop ks.length) } a w' (back (hide w O ks) O O' ks2 q) adN := fun q => by
    have hlt : (L'.take ks.length).length = ks.length := by rw [List.length_take]; omega
    have hpl : (putH (getN ks2) st.heap ks (L'.take ks.length)).length = st.heap.length := length_putH
    have he := back_env (ks2 := ks2) hH hst hS.fresh q hS.env
    refine ⟨⟨he.1, fun d => toN (he.2 d)⟩, fun k b hb => ?_, ?_, fun k hk => hadN _ _ (hS.pin k hk), hS.dn, back_fresh hH hS.fresh.uni hst hfr q⟩
    · rw [nth_append, hpl] at hb
      by_cases c : k < st.heap.length
      · rw [if_pos c] at hb
        rcases nth_putH hlt hkl hu hb with ⟨h1, h2⟩ | ⟨h1, c, h2, rfl⟩
        · obtain ⟨cd, k1, ⟨k2, hg⟩ | ⟨B, x, rfl, k2, k3, k4⟩⟩ := back_blk (ks2 := ks2) hH hst hS.fresh q hS.heap h1 h2
          · exact ⟨cd, hadN _ _ k1, .inl ⟨k2, hg⟩⟩
          refine ⟨B + 1, hadN _ _ k1, .inr ⟨B, x, rfl, k2, k3, ?_⟩⟩
          have := k4.ren (g := fun k => k) (ok := fun _ => true) (ad' := adN) (k' := k) (fun _ _ _ hi => hi) (fun k B _ h => hadN k B h) (fun i j hn => ⟨hn, fun _ _ h => h⟩) (okB_all b) (.inl ⟨fun _ _ _ _ _ _ h => h, fun _ _ h => h⟩)
          rwa [renB_id] at this
        · rw [nth_take'] at h2
          obtain ⟨hi, hgk⟩ := memN_getN h1
          rw [if_pos hi] at h2
          have := comes q _ c h2
          rwa [hg1 _ hi, hgk] at this
      · rw [if_neg c] at hb
        obtain ⟨c', h2, rfl⟩ := nth_renH hb
        rw [nth_drop'] at h2
        have := comes q _ c' h2
        rwa [hg2 _ (by omega) (nth_lt h2), show st.heap.length + (ks.length + (k - st.heap.length) - ks.length) = k by omega] at this
    · show (ad ++ ad2.drop ks.length).length = (putH (getN ks2) st.heap ks (L'.take ks.length) ++ renH (getN ks2) (L'.drop ks.length)).length
      rw [List.length_append, List.length_append, hpl, length_renH, List.length_drop, List.length_drop, hS.len, hlen2]
  have hag : isStoreC C fg o.op = false → Agree O w w' := fun h => by
    rcases hstore with e | e
    · rw [e] at h; simp at h
    · subst e
      intro B q hB _
      rcases hide_cases (O := O) (ks := []) hB with ⟨h, _⟩ | ⟨k, _, hm, _⟩ | ⟨k, i, j, fill, _, hm, _⟩
      · simp only [World.cell?, (hidden_step hst hB h).2]
      · simp [memN] at hm
      · simp [memN] at hm
  have hstep : ∀ q, Step w O w' (back (hide w O ks) O O' ks2 q) := fun q => back_step hH hst q
  cases hdd : o.dst with
  | none =>
    rw [hdd] at hk
    exact ⟨rv, rfl, _, back (hide w O ks) O O' ks2 (.tmp 0), adN, hk, sat _, hstep _, hag⟩
  | some d =>
    rw [hdd] at hk
    refine ⟨rv, rfl, _, _, adN, hk, (sat (.tmp d)).put (dst := some d) (by rw [hdd] at hd; exact hd) (fun _ => ?_), hstep _, hag⟩
    exact back_rel hH hst d (himw _) had3 hr hor hnr

theorem call_hand {C : Nat → Shape} {fg : Nat} (hS : Sat st a w O ad) (hd : okDst st o.dst = true) {s : Shape} {g : Nat} {vs : Array Value} {as : List AVal} {ks : List Nat} (hrun : (execOp a.eval o).run P w = .ok (.enter g vs) w) (hstore : isStoreC C fg o.op = true)
    (hsz : vs.size = as.length) (hargs : ∀ i x, nth as i = some x → VRel w O ad .no x (vs.getD i undef)) (hs : s.hand = true) (h : callHand P s st o.dst g as K ks) : OpOkC P C fg o a w O Q K := by
  refine call_handG hS hd hrun (.inl hstore) hsz hargs (need_iff.2 ⟨(needE h).1, CallG.mono (needE h).2 ?_⟩)
  rintro r L' ⟨x, rfl, hm, _, hk⟩
  obtain rfl := hm hs
  exact hk

theorem CallG.ok0 {f : Nat} {args : List AVal} {K : AVal → List Blk → Prop} {K' : AVal → Prop} (h : CallG P f args [] K) (hk : ∀ r L', K r L' → L' = [] ∧ K' r) : CallOK P f args [] fun r _ => K' r :=
  ⟨h.1, fun w O ad vs h1 h2 h3 h4 h5 => (h.2 w O ad vs h1 h2 h3 h4 h5).mono fun e w' ⟨r, rv, O', L', ad', g1, g2, g3, g4, g5, g6⟩ => by
    obtain ⟨e0, k2⟩ := hk r L' g2
    subst e0
    obtain rfl : ad' = [] := List.length_eq_zero_iff.1 g3
    obtain rfl : ad = [] := List.length_eq_zero_iff.1 h4
    exact ⟨r, rv, O', [], g1, k2, rfl, g5, g6⟩⟩

theorem call_ok [hI : InlOk P T] {C : Nat → Shape} {fg : Nat} (hS : Sat st a w O ad) (hd : okDst st o.dst = true) {f : Operand} {xs : Array Operand} {ts : Array TypeId} (ho : o.op = .call ⟨.value f, xs, ts⟩)
    (h31 : Nat.ble 31 fg = false) (h : callOp P T C st o.dst (ev st.env f) (evAll (ev st.env) xs.toList) K) : OpOkC P C fg o a w O Q K := by
  unfold callOp at h
  split at h
  case h_2 => exact h.elim
  rename_i g caps hc
  obtain ⟨arr, h1, h2, h3⟩ := callee_rel (hS.ev f) hc
  obtain ⟨h4, h5⟩ := args_rel hS.ev (xs := xs) h2 h3
  have out : ∀ B, B < w.heap.size → ∃ s, hide w O [] B = .out s := fun B hB => by
    rcases hide_cases (O := O) (ks := []) hB with ⟨h, _⟩ | ⟨k, _, hm, _⟩ | ⟨k, i, j, fill, _, hm, _⟩
    · exact ⟨_, h⟩
    · simp [memN] at hm
    · simp [memN] at hm
  have hsto : (C g).hand = true → isStoreC C fg o.op = true := fun hh => by
    rw [ho]
    unfold isStoreC
    split
    · rename_i g' _ _ e
      simp only [Op.call.injEq, Deferred.mk.injEq, Callee.value.injEq] at e
      obtain ⟨rfl, _⟩ := e
      simp only [ev, calleeOf, Option.some.injEq, Prod.mk.injEq] at hc
      rw [hc.1, hh, h31]; rfl
    · rw [h31]; rfl
    · rename_i e; simp at e
    · rename_i e; simp at e
    · rename_i hn1 hn2 hn3 hn4; exact absurd rfl (hn2 _ _ _)
  split at h
  · rename_i W hW
    cases hh : (C g).hand with
    | true =>
      rw [hh, cond_true] at h
      obtain ⟨hb, h⟩ := needE h
      have hcall := hI.ok g W hW _ _ _ h
      exact call_handG hS hd (enter_run ho h1 hcall.1) (.inl (hsto hh)) h4 h5 (need_iff.2 ⟨hb, hcall⟩)
    | false =>
      rw [hh, cond_false] at h
      obtain ⟨hp, h⟩ := needE h
      have hcall := hI.ok g W hW _ _ _ h
      have hcall : CallOK P g (shedL (evAll (ev st.env) xs.toList) ++ caps) [] fun r _ => K (st.put o.dst r) := ⟨hcall.1, fun w O ad vs h1 h2 h3 h4 h5 => (hcall.2 w O ad vs h1 h2 h3 h4 h5).mono fun e w' ⟨r, rv, O', L', ad', g1, g2, g3, g4, g5, g6⟩ => by
        obtain ⟨e0, g2⟩ := needE g2
        have e0 := beqE e0
        rw [lenB_eq] at e0
        obtain rfl : L' = [] := List.length_eq_zero_iff.1 e0
        obtain rfl : ad' = [] := List.length_eq_zero_iff.1 g3
        obtain rfl : ad = [] := List.length_eq_zero_iff.1 h4
        exact ⟨r, rv, O', [], g1, g2, rfl, g5, g6⟩⟩
      exact call_quiet hS hd hide_seen out (enter_run ho h1 hcall.1) h4 (fun i x hx => (h5 i x hx).pure (fun B o' hB hi => (im_hide hB).2 hi) rfl (pureL_nth hp hx)) (CallOK.mono hcall fun r _ hk => ⟨hk, .inr rfl⟩)
  cases hh : (C g).hand with
  | true =>
    rw [hh, cond_true] at h
    have hfn : ∃ fn, P.funcs[g]? = some fn ∧ (fn.name == "runtime.NumGoroutine") = false ∧ fn.body.isNone = false := by
      unfold callHand at h; exact (needE h).2.1
    exact call_hand hS hd (enter_run ho h1 hfn) (hsto hh) h4 h5 hh h
  | false =>
    rw [hh, cond_false] at h
    cases hp : pureL (shedL (evAll (ev st.env) xs.toList) ++ caps) with
    | true =>
      rw [hp, cond_true] at h
      refine call_quiet hS hd hide_seen out (enter_run ho h1 h.1) h4 (fun i x hx => (h5 i x hx).pure (fun B o' hB hi => (im_hide hB).2 hi) rfl (pureL_nth hp hx)) (CallG.ok0 h fun r L' ⟨x, hx, _, h0, hk⟩ => ⟨h0 hh, by rw [hx]; exact ⟨hk, .inr rfl⟩⟩)
    | false =>
      rw [hp, cond_false] at h
      obtain ⟨as, g1, g2, g3⟩ := readL_ok hS.fresh.uni hS.heap (fun i x hx => h5 i x hx) h
      refine call_quiet hS hd hideR_seen (fun B hB => ?_) (enter_run ho h1 g1.1) (h4.trans g2.symm) (g3 _ (fun B o hB hi => hideR_im hB hi)) (CallG.ok0 g1 fun r L' ⟨x, hx, _, h0, hk⟩ => ⟨h0 hh, by rw [hx]; exact ⟨(needE hk).2, .inl (needE hk).1⟩⟩)
      unfold hideR; rw [if_pos hB]; cases O B <;> simp

theorem callNew_ok [hI : InlOk P T] {C : Nat → Shape} {fg : Nat} (hS : Sat st a w O ad) (hd : okDst st o.dst = true) {f : Operand} {xs : Array Operand} {ts : Array TypeId} (ho : o.op = .call ⟨.value f, xs, ts⟩)
    (h : callNewOp T st o.dst (ev st.env f) (evAll (ev st.env) xs.toList) K) : OpOkC P C fg o a w O Q K := by
  unfold callNewOp at h
  split at h
  case h_2 => exact h.elim
  rename_i g caps hc
  obtain ⟨arr, h1, h2, h3⟩ := callee_rel (hS.ev f) hc
  obtain ⟨h4, h5⟩ := args_rel hS.ev (xs := xs) h2 h3
  split at h
  case h_2 => exact h.elim
  rename_i W hW
  obtain ⟨hp, h⟩ := needE h
  have hcall := hI.ok g W hW _ _ _ h
  have hpu : ∀ {l : List AVal}, pureL l = true → okL (fun k => memN k []) l = true ∧ renL (fun k => idxN k []) l = l := fun {l} hl => pureL_ok hl
  have hpn := pureL_noS hp
  have := hpu hp
  refine call_handG hS hd (enter_run ho h1 hcall.1) (.inr rfl) h4 h5 (need_iff.2 ⟨by simp [uniqN, this.1, pickOk, pickN, hpn], ?_⟩)
  rw [this.2]
  exact hcall

end
end Go.Proofs.Ytgghnfmabphbmaa.Fw
