/- Stores and moves as operations. -/
import Derived.Test.YtgghnfmabphbmaaA9
namespace Go.Proofs.Ytgghnfmabphbmaa.Fw
open Go
set_option linter.unusedSimpArgs false
set_option linter.unusedVariables false

def setNth (l : List AVal) : Nat → AVal → List AVal
  | 0, v => match l with
    | [] => []
    | _ :: r => v :: r
  | n + 1, v => match l with
    | [] => []
    | x :: r => x :: setNth r n v

def setBlkL (l : List Blk) : Nat → Blk → List Blk
  | 0, v => match l with
    | [] => []
    | _ :: r => v :: r
  | n + 1, v => match l with
    | [] => []
    | x :: r => x :: setBlkL r n v

theorem setBlkL_eq : ∀ (l : List Blk) (n : Nat) (v : Blk), setBlkL l n v = l.set n v
  | [], 0, v => rfl
  | [], n + 1, v => rfl
  | _ :: _, 0, v => rfl
  | _ :: r, n + 1, v => by simp [setBlkL, setBlkL_eq r n v]

theorem nth_setNth : ∀ (l : List AVal) (n i : Nat) (v : AVal), n < l.length → nth (setNth l n v) i = if i = n then some v else nth l i
  | [], n, i, v, h => by simp at h
  | x :: r, 0, 0, v, _ => by simp [setNth, nth]
  | x :: r, 0, i + 1, v, _ => by simp [setNth, nth]
  | x :: r, n + 1, 0, v, _ => by simp [setNth, nth]
  | x :: r, n + 1, i + 1, v, h => by simp [setNth, nth, nth_setNth r n i v (by simpa using h)]

theorem length_setNth : ∀ (l : List AVal) (n : Nat) (v : AVal), (setNth l n v).length = l.length
  | [], 0, _ => rfl
  | [], _ + 1, _ => rfl
  | _ :: _, 0, _ => rfl
  | _ :: r, n + 1, v => by simp [setNth, length_setNth r n v]

/-- an operand's value that owns: which temporary it stands in -/
def ownTmp (e : List (Nat × AVal)) (x : Operand) : Option Nat :=
  match x with
  | .tmp t => bif (get e t).hasOwn then some t else none
  | _ => none

/-- values of one cell -/
def cell1 : AVal → Bool
  | .pv _ _ | .ptr _ _ _ _ | .arr _ _ _ _ | .mref _ | .fn _ _ | .sub _ _ _ | .psub _ _ _ => true
  | _ => false

def allC1 : List AVal → Bool
  | [] => true
  | v :: r => cell1 v && allC1 r

/-- into cell q of a variable -/
def storeBox (st : St) (k : Nat) (cs : List AVal) (q size : Nat) (v : AVal) (x : Operand) (K : St → Prop) : Prop :=
  match ownTmp st.env x, v with
  | some t, .pv true p => need (Nat.beq size 1 && Nat.blt q cs.length) <| K { st with env := (t, .pv false p) :: st.env, heap := setBlkL st.heap k (.box (setNth cs q (.pv true p))) }
  | _, _ =>
    bif Nat.beq size 1 then need (v.told && (Nat.beq v.cells.length 1 && (Nat.blt q cs.length && allC1 v.cells))) <| K { st with heap := setBlkL st.heap k (.box (setNth cs q (match v.cells with | y :: _ => y.shed1 | [] => .undef))) }
    else need (v.told && (Nat.beq v.cells.length size && (Nat.ble (q + size) cs.length && allC1 v.cells))) <| K { st with heap := setBlkL st.heap k (.box (cs.take q ++ shedAll v.cells ++ cs.drop (q + size))) }

def storeRow (cc : Bool) (st : St) (k sz i j s n : Nat) (el : Nat → Nat → PV) (ow : Nat → Nat → Bool) (size : Nat) (v : AVal) (x : Operand) (K : St → Prop) : Prop :=
  match v with
  | .pv o p =>
    match ownTmp st.env x with
    | some t => need (Nat.beq size 1 && (Nat.beq sz s && (Nat.blt j s && o))) <| cnd cc (i < n) <| K { st with env := (t, .pv false p) :: st.env, heap := setBlkL st.heap k (.row s n (fun a b => bif Nat.beq a i && Nat.beq b j then p else el a b) (fun a b => bif Nat.beq a i && Nat.beq b j then true else ow a b)) }
    | none => need (Nat.beq size 1 && (Nat.beq sz s && Nat.blt j s)) <| cnd cc (i < n) <| K { st with heap := setBlkL st.heap k (.row s n (fun a b => bif Nat.beq a i && Nat.beq b j then p else el a b) (fun a b => bif Nat.beq a i && Nat.beq b j then false else ow a b)) }
  | .agg cs => need (Nat.beq size s && (Nat.beq sz s && (Nat.beq j 0 && (Nat.beq cs.length s && allPv cs)))) <| cnd cc (i < n) <| K { st with heap := setBlkL st.heap k (.row s n (fun a b => bif Nat.beq a i then pvAt cs b else el a b) (fun a b => bif Nat.beq a i then false else ow a b)) }
  | .av s' n' el' => need (Nat.beq size (n * s) && (Nat.beq sz s && (Nat.beq s' s && (Nat.beq n' n && (Nat.beq i 0 && Nat.beq j 0))))) <| K { st with heap := setBlkL st.heap k (.row s n el' (fun _ _ => false)) }
  | _ => False

def storeOp (T : Tab) (st : St) (t : TypeId) (a : AVal) (x : Operand) (K : St → Prop) : Prop :=
  match T t, a with
  | some ti, .ptr k sz i j =>
    match nth st.heap k with
    | some (.box cs) => storeBox st k cs (i * sz + j) ti.size (ev st.env x) x K
    | some (.row s n el ow) => storeRow T.conc st k sz i j s n el ow ti.size (ev st.env x) x K
    | _ => False
  | some ti, .psub k i j =>
    match nth st.heap k with
    | some (.mat n m el) =>
      match ownTmp st.env x, ev st.env x with
      | none, .pv _ p => need (Nat.beq ti.size 1) <| cnd T.conc (i < n ∧ j < m i) <| K { st with heap := setBlkL st.heap k (.mat n m fun a b => bif Nat.beq a i && Nat.beq b j then p else el a b) }
      | _, _ => False
    | _ => False
  | _, _ => False

section
variable {P : Program} {T : Tab} {w : World} {O : Nat → Own} {ad : List Nat} {st : St} {a : Act} {o : Oper} {Q : Exit → Act → World → Prop} {K : St → Prop}

theorem OpOk.skip {w' : World} {st' : St} {O' : Nat → Own} {ad' : List Nat} (hrun : (execOp a.eval o).run P w = .ok .skip w') (hk : K st')
    (hs : Sat st' (a.put o.dst undef) w' O' ad') (hst : Step w O w' O') (hst2 : isStore o.op = true) : OpOk P o a w O Q K := by
  unfold OpOk Oper.wp
  rw [hrun]
  exact ⟨st', O', ad', hk, hs, hst, fun h => by rw [hst2] at h; simp at h⟩

/-- the run of a store of cells into a block -/
theorem storeRun (hT : TabOk P T) {t : TypeId} {ti : TI} (hti : T t = some ti) {B off : Nat} {v : Value} {arr : Array Value} {ty : TypeId} (hw : w.heap[B]? = some (.cells arr ty (0, 0)))
    (hsz : v.cells.size = ti.size) (hle : off + v.cells.size ≤ arr.size) (hone : ∀ u ∈ v.cells.toList, oneC u = true) :
    ∃ arr', (Instr.storeAt t (.pointer (some ⟨B, off, none⟩)) v).run P w = .ok () (World.setBlk w B arr' ty) ∧ arr'.size = arr.size ∧
      ∀ q, arr'.getD q undef = if off ≤ q ∧ q < off + v.cells.size then v.cells.getD (q - off) undef else arr.getD q undef := by
  obtain ⟨arr', h1, h2, h3⟩ := run_storeCells (P := P) (B := B) (o := off) (ty := ty) v.cells.toList 0 arr w hw (by simpa using hle) hone
  refine ⟨arr', ?_, h2, fun q => ?_⟩
  · simp only [Instr.storeAt, Instr.sureAddr, run_bind, run_pure, storeVar, run_sizeOf_of hT hti]
    rw [if_neg (by simp [hsz])]
    exact h1
  · rw [h3 q, getD_list]; simp

theorem cell1_one {p : Pos} {x : AVal} {v : Value} (h : VRel w O ad p x v) (hc : cell1 x = true) : oneC v = true := by
  cases h with
  | pv h => exact prel_one h
  | own h _ => exact prel_one h
  | ptr _ => rfl
  | arrE _ hv => rcases hv with rfl | ⟨_, rfl⟩ <;> rfl
  | arr _ _ => rfl
  | mref _ => rfl
  | fn _ _ _ => rfl
  | agg => simp [cell1] at hc
  | av => simp [cell1] at hc
  | tup => simp [cell1] at hc
  | undef => simp [cell1] at hc
  | subE _ hv => rcases hv with rfl | ⟨_, rfl⟩ <;> rfl
  | sub _ _ _ => rfl
  | psub _ _ => rfl

theorem allC1_nth : ∀ {l : List AVal} {i : Nat} {x : AVal}, allC1 l = true → nth l i = some x → cell1 x = true
  | [], _, _, _, h => by simp [nth] at h
  | y :: r, 0, x, ha, h => by simp [nth] at h; subst h; simp only [allC1, Bool.and_eq_true] at ha; exact ha.1
  | y :: r, n + 1, x, ha, h => by simp only [nth] at h; simp only [allC1, Bool.and_eq_true] at ha; exact allC1_nth ha.2 h

theorem cell1_shed1 (x : AVal) : cell1 x.shed1 = cell1 x := by cases x <;> rfl

/-- cells of what may be laid into memory are single -/
theorem cells_one' {cs : List AVal} {arr : Array Value} (h : CellsRel w O ad (shedAll cs) arr) (hc : allC1 cs = true) : ∀ u ∈ arr.toList, oneC u = true := by
  intro u hu
  obtain ⟨i, hi, rfl⟩ := List.getElem_of_mem hu
  have hi' : i < arr.size := by simpa using hi
  obtain ⟨x, hx⟩ := nth_some (l := shedAll cs) (i := i) (by rw [← h.1]; exact hi')
  obtain ⟨y, hy, rfl⟩ := nth_shedAll hx
  have := cell1_one (h.2 i _ hx) (by rw [cell1_shed1]; exact allC1_nth hc hy)
  simpa [Array.getD, hi'] using this

theorem allPv_c1 : ∀ {l : List AVal}, allPv l = true → allC1 l = true
  | [], _ => rfl
  | y :: r, h => by
    simp only [allPv, Bool.and_eq_true] at h
    simp only [allC1, Bool.and_eq_true]
    exact ⟨by cases y <;> simp_all [isPv, cell1], allPv_c1 h.2⟩

theorem allPv_shed {l : List AVal} : allPv (shedAll l) = allPv l := by
  induction l with
  | nil => rfl
  | cons y r ih => simp only [shedAll, allPv, ih]; cases y <;> rfl

theorem pvAt_shed (l : List AVal) (i : Nat) : pvAt (shedAll l) i = pvAt l i := by
  unfold pvAt
  have : ∀ (l : List AVal) (i : Nat), nth (shedAll l) i = (nth l i).map AVal.shed1 := by
    intro l
    induction l with
    | nil => intro i; rfl
    | cons y r ih => intro i; cases i <;> simp [shedAll, nth, ih]
  rw [this]
  cases nth l i with
  | none => rfl
  | some y => cases y <;> rfl

theorem box_shed {k : Nat} {cs : List AVal} {arr : Array Value} (h : BlkRel w O ad k arr (.box cs)) : arr.size = cs.length ∧ ∀ i x, nth cs i = some x → VRel w O ad (.cell k 0 i) x (arr.getD i undef) := h

theorem storeBox_ok (hT : TabOk P T) (hS : Sat st a w O ad) {t : TypeId} {x : Operand} {addr : Operand} (ho : o.op = .store t addr x) (hdst : o.dst = none) {ti : TI} (hti : T t = some ti) {k B : Nat} {cs : List AVal} {q : Nat}
    (hk : nth st.heap k = some (.box cs)) (hB : nth ad k = some (B + 1)) (haddr : a.eval addr = .pointer (some ⟨B, q, none⟩)) (h : storeBox st k cs q ti.size (ev st.env x) x K) : OpOk P o a w O Q K := by
  have hput : ∀ v, a.put o.dst v = a := fun v => by rw [hdst]; rfl
  have run : ∀ {w' : World}, (Instr.storeAt t (a.eval addr) (a.eval x)).run P w = .ok () w' → (execOp a.eval o).run P w = .ok .skip w' := by
    intro w' hr
    unfold execOp; simp only [ho, run_bind, hr, run_pure]
  obtain ⟨B', arr, ty, hB', hO, hw, hbs, hbc⟩ := hS.heap.cellsB hk rfl hB
  obtain rfl := hB'
  unfold storeBox at h
  split at h
  · rename_i s p hs hv
    replace h := needE h
    obtain ⟨hb', h⟩ := h
    obtain ⟨hsz, hq⟩ := andE hb'
    have hsz := beqE hsz
    have hq := bltE hq
    have hx : x = .tmp s := by
      cases x with
      | tmp t => simp only [ownTmp] at hs; cases hh : (get st.env t).hasOwn <;> simp [hh] at hs; rw [hs]
      | _ => simp [ownTmp] at hs
    subst hx
    have hget : get st.env s = .pv true p := hS.getOwn hv
    obtain ⟨g1, g2, g3⟩ := hS.take (t := s) (q := .cell k 0 q) (by simp) (fun cs hc => by rw [hget] at hc; simp at hc)
    rw [hget] at g1 g2
    have hone : oneC (a.tmps.getD s undef) = true := prel_one (prel_of g1)
    have hcl := cells_one hone
    have hat : a.eval (.tmp s) = a.tmps.getD s undef := rfl
    obtain ⟨arr', h1, h2, h3⟩ := storeRun (P := P) hT hti (off := q) (v := a.eval (.tmp s)) hw (by rw [hat, hcl]; simp [hsz]) (by rw [hat, hcl, hbs]; simp; omega) (by rw [hat, hcl]; simpa using hone)
    have hbr : BlkRel w (renO (mvT s (.cell k 0 q)) O) ad k arr' (.box (setNth cs q (.pv true p))) := by
      refine ⟨by rw [h2, length_setNth]; exact hbs, fun i y hy => ?_⟩
      rw [nth_setNth _ _ _ _ hq] at hy
      rw [h3 i, hat, hcl]
      by_cases e : i = q
      · subst e
        simp at hy; subst hy
        simpa using g1
      · rw [if_neg e] at hy
        rw [if_neg (by simp; omega)]
        exact (hbc i y hy).fix (mvT_cell _ _ _)
    obtain ⟨s1, s2⟩ := g2.store (k := k) hk hB (renO_blk hO) hw h2 hbr
    refine .skip (ad' := ad) (run (by rw [haddr]; exact h1)) h ?_ (g3.trans s1) (by rw [ho]; rfl)
    rw [hput, setBlkL_eq]
    exact s2
  · rename_i hne
    have hv := hS.ev x
    have key : ∀ cs', (ev st.env x).told = true → allC1 (ev st.env x).cells = true → (ev st.env x).cells.length = ti.size → q + ti.size ≤ cs.length → K { st with heap := setBlkL st.heap k (.box cs') } →
        cs'.length = cs.length → (∀ i y, nth cs' i = some y → if q ≤ i ∧ i < q + ti.size then nth (shedAll (ev st.env x).cells) (i - q) = some y else nth cs i = some y) → OpOk P o a w O Q K := by
      intro cs' h1 h2 h3 h4 h5 h6 h7
      have hcr := cells_rel hv h1
      have hlen : (a.eval x).cells.size = ti.size := by rw [hcr.1, length_shedAll, h3]
      obtain ⟨arr', g1, g2, g3⟩ := storeRun (P := P) hT hti (off := q) (v := a.eval x) hw hlen (by rw [hlen, hbs]; exact h4) (cells_one' hcr h2)
      have hbr : BlkRel w O ad k arr' (.box cs') := by
        refine ⟨by rw [g2, h6]; exact hbs, fun i y hy => ?_⟩
        have := h7 i y hy
        rw [g3 i, hlen]
        split at this
        · rename_i hc
          rw [if_pos hc]
          exact (hcr.2 _ y this).any _
        · rename_i hc
          rw [if_neg hc]
          exact hbc i y this
      obtain ⟨s1, s2⟩ := hS.store (k := k) hk hB hO hw (by assumption) hbr
      refine .skip (ad' := ad) (run (by rw [haddr]; exact g1)) h5 ?_ s1 (by rw [ho]; rfl)
      rw [hput, setBlkL_eq]
      exact s2
    cases hb : Nat.beq ti.size 1 with
    | true =>
      have hs1 := Nat.eq_of_beq_eq_true hb
      simp only [hb, cond_true] at h
      replace h := needE h
      obtain ⟨hb', h⟩ := h
      obtain ⟨h1, hb'⟩ := andE hb'
      obtain ⟨h2, hb'⟩ := andE hb'
      obtain ⟨h3, h4⟩ := andE hb'
      have h2 := beqE h2
      have h3 := bltE h3
      refine key _ h1 h4 (by omega) (by omega) h (length_setNth _ _ _) (fun i y hy => ?_)
      rw [nth_setNth _ _ _ _ h3] at hy
      cases hcs : (ev st.env x).cells with
      | nil => rw [hcs] at h2; simp at h2
      | cons z r =>
        rw [hcs] at hy
        by_cases e : i = q
        · subst e
          rw [if_pos (by omega)]
          simp at hy ⊢
          simp [shedAll, nth, hy]
        · rw [if_neg e] at hy
          rw [if_neg (by omega)]
          exact hy
    | false =>
      simp only [hb, cond_false] at h
      replace h := needE h
      obtain ⟨hb', h⟩ := h
      obtain ⟨h1, hb'⟩ := andE hb'
      obtain ⟨h2, hb'⟩ := andE hb'
      obtain ⟨h3, h4⟩ := andE hb'
      have h2 := beqE h2
      have h3 := bleE h3
      refine key _ h1 h4 h2 h3 h (by simp [length_shedAll]; omega) (fun i y hy => ?_)
      rw [List.append_assoc, nth_append, nth_append, nth_take, nth_drop, length_shedAll] at hy
      have ht : (cs.take q).length = q := by simp; omega
      rw [ht] at hy
      by_cases c1 : i < q
      · rw [if_pos c1, if_pos c1] at hy
        rw [if_neg (by omega)]
        exact hy
      · rw [if_neg c1] at hy
        by_cases c2 : i - q < (ev st.env x).cells.length
        · rw [if_pos c2] at hy
          rw [if_pos (by omega)]
          exact hy
        · rw [if_neg c2] at hy
          rw [if_neg (by omega)]
          rw [show q + ti.size + (i - q - (ev st.env x).cells.length) = i by omega] at hy
          exact hy

theorem idx_lt {i j n s : Nat} (hi : i < n) (hj : j < s) : i * s + j < n * s := by
  calc i * s + j < i * s + s := by omega
    _ = (i + 1) * s := by rw [Nat.add_mul, Nat.one_mul]
    _ ≤ n * s := Nat.mul_le_mul_right _ (by omega)

theorem idx_inj {i j i' j' s : Nat} (hj : j < s) (hj' : j' < s) (h : i * s + j = i' * s + j') : i = i' ∧ j = j' := by
  have h1 : (i * s + j) / s = i := by rw [Nat.mul_comm, Nat.mul_add_div (by omega)]; rw [Nat.div_eq_of_lt hj]; omega
  have h2 : (i' * s + j') / s = i' := by rw [Nat.mul_comm, Nat.mul_add_div (by omega)]; rw [Nat.div_eq_of_lt hj']; omega
  have : i = i' := by rw [← h1, ← h2, h]
  subst this
  exact ⟨rfl, by omega⟩

theorem beq_eq (a b : Nat) : Nat.beq a b = decide (a = b) := by
  by_cases h : a = b
  · subst h; simp
  · rw [beq_ff h]; simp [h]

theorem storeRow_ok (hT : TabOk P T) (hS : Sat st a w O ad) {t : TypeId} {x : Operand} {addr : Operand} (ho : o.op = .store t addr x) (hdst : o.dst = none) {ti : TI} (hti : T t = some ti) {k B sz i j s n : Nat}
    {el : Nat → Nat → PV} {ow : Nat → Nat → Bool} (hk : nth st.heap k = some (.row s n el ow)) (hB : nth ad k = some (B + 1)) (haddr : a.eval addr = .pointer (some ⟨B, i * sz + j, none⟩))
    (h : storeRow T.conc st k sz i j s n el ow ti.size (ev st.env x) x K) : OpOk P o a w O Q K := by
  have hput : ∀ v, a.put o.dst v = a := fun v => by rw [hdst]; rfl
  have run : ∀ {w' : World}, (Instr.storeAt t (a.eval addr) (a.eval x)).run P w = .ok () w' → (execOp a.eval o).run P w = .ok .skip w' := by
    intro w' hr
    unfold execOp; simp only [ho, run_bind, hr, run_pure]
  obtain ⟨B', arr, ty, hB', hO, hw, hbs, hbc⟩ := hS.heap.cellsB hk rfl hB
  obtain rfl := hB'
  have hv := hS.ev x
  unfold storeRow at h
  split at h
  · rename_i ow' p hev
    rw [hev] at hv
    split at h
    · rename_i s' hs
      replace h := needC h
      obtain ⟨hb', hi, h⟩ := h
      obtain ⟨hsz, hb'⟩ := andE hb'
      obtain ⟨e1, hb'⟩ := andE hb'
      obtain ⟨hj, e2⟩ := andE hb'
      have hsz := beqE hsz
      obtain rfl := beqE e1
      have hj := bltE hj
      subst e2
      have hx : x = .tmp s' := by
        cases x with
        | tmp t => simp only [ownTmp] at hs; cases hh : (get st.env t).hasOwn <;> simp [hh] at hs; rw [hs]
        | _ => simp [ownTmp] at hs
      subst hx
      have hget : get st.env s' = .pv true p := hS.getOwn hev
      obtain ⟨g1, g2, g3⟩ := hS.take (t := s') (q := .cell k i j) (by simp) (fun cs hc => by rw [hget] at hc; simp at hc)
      rw [hget] at g1 g2
      have hone : oneC (a.tmps.getD s' undef) = true := prel_one (prel_of g1)
      have hcl := cells_one hone
      have hat : a.eval (.tmp s') = a.tmps.getD s' undef := rfl
      have hlt := idx_lt hi hj
      obtain ⟨arr', h1, h2, h3⟩ := storeRun (P := P) hT hti (off := i * sz + j) (v := a.eval (.tmp s')) hw (by rw [hat, hcl]; simp [hsz]) (by rw [hat, hcl]; simp; omega) (by rw [hat, hcl]; simpa using hone)
      have hbr : BlkRel w (renO (mvT s' (.cell k i j)) O) ad k arr' (.row sz n (fun a b => bif Nat.beq a i && Nat.beq b j then p else el a b) (fun a b => bif Nat.beq a i && Nat.beq b j then true else ow a b)) := by
        refine ⟨by rw [h2]; exact hbs, fun i' hi' j' hj' => ?_⟩
        rw [h3, hat, hcl]
        by_cases e : i' = i ∧ j' = j
        · obtain ⟨rfl, rfl⟩ := e
          simpa using g1
        · have : (Nat.beq i' i && Nat.beq j' j) = false := by rw [beq_eq, beq_eq]; simp; omega
          simp only [this, cond_false]
          rw [if_neg (fun hh => e (idx_inj hj' hj (by obtain ⟨h4, h5⟩ := hh; simp only [Array.size_singleton, List.size_toArray, List.length_singleton] at h5; omega)))]
          exact (hbc i' hi' j' hj').fix (mvT_cell _ _ _)
      obtain ⟨s1, s2⟩ := g2.store (k := k) hk hB (renO_blk hO) hw h2 hbr
      refine .skip (ad' := ad) (run (by rw [haddr]; exact h1)) h ?_ (g3.trans s1) (by rw [ho]; rfl)
      rw [hput, setBlkL_eq]
      exact s2
    · replace h := needC h
      obtain ⟨hb', hi, h⟩ := h
      obtain ⟨hsz, hb'⟩ := andE hb'
      obtain ⟨e1, hj⟩ := andE hb'
      have hsz := beqE hsz
      obtain rfl := beqE e1
      have hj := bltE hj
      have hone : oneC (a.eval x) = true := prel_one (prel_of hv)
      have hcl := cells_one hone
      have hlt := idx_lt hi hj
      obtain ⟨arr', h1, h2, h3⟩ := storeRun (P := P) hT hti (off := i * sz + j) (v := a.eval x) hw (by rw [hcl]; simp [hsz]) (by rw [hcl]; simp; omega) (by rw [hcl]; simpa using hone)
      have hbr : BlkRel w O ad k arr' (.row sz n (fun a b => bif Nat.beq a i && Nat.beq b j then p else el a b) (fun a b => bif Nat.beq a i && Nat.beq b j then false else ow a b)) := by
        refine ⟨by rw [h2]; exact hbs, fun i' hi' j' hj' => ?_⟩
        rw [h3, hcl]
        by_cases e : i' = i ∧ j' = j
        · obtain ⟨rfl, rfl⟩ := e
          simpa using VRel.pv (ad := ad) (p := .cell k i' j') (prel_of hv)
        · have : (Nat.beq i' i && Nat.beq j' j) = false := by rw [beq_eq, beq_eq]; simp; omega
          simp only [this, cond_false]
          rw [if_neg (fun hh => e (idx_inj hj' hj (by obtain ⟨h4, h5⟩ := hh; simp only [Array.size_singleton, List.size_toArray, List.length_singleton] at h5; omega)))]
          exact hbc i' hi' j' hj'
      obtain ⟨s1, s2⟩ := hS.store (k := k) hk hB hO hw (by assumption) hbr
      refine .skip (ad' := ad) (run (by rw [haddr]; exact h1)) h ?_ s1 (by rw [ho]; rfl)
      rw [hput, setBlkL_eq]
      exact s2
  · rename_i cs hev
    replace h := needC h
    obtain ⟨hb', hi, h⟩ := h
    obtain ⟨hsz, hb'⟩ := andE hb'
    obtain ⟨e1, hb'⟩ := andE hb'
    obtain ⟨e2, hb'⟩ := andE hb'
    obtain ⟨hl, hall⟩ := andE hb'
    have hsz := beqE hsz
    obtain rfl := beqE e1
    obtain rfl := beqE e2
    have hl := beqE hl
    rw [hev] at hv
    have hcr := cells_rel hv rfl
    have hlen : (a.eval x).cells.size = sz := by rw [hcr.1, length_shedAll]; exact hl
    have hle : i * sz + sz ≤ n * sz := by
      have : (i + 1) * sz ≤ n * sz := Nat.mul_le_mul_right _ (by omega)
      rwa [Nat.add_mul, Nat.one_mul] at this
    obtain ⟨arr', h1, h2, h3⟩ := storeRun (P := P) hT hti (off := i * sz + 0) (v := a.eval x) hw (by rw [hlen, hsz]) (by rw [hlen]; omega) (cells_one' hcr (allPv_c1 hall))
    have hbr : BlkRel w O ad k arr' (.row sz n (fun a b => bif Nat.beq a i then pvAt cs b else el a b) (fun a b => bif Nat.beq a i then false else ow a b)) := by
      refine ⟨by rw [h2]; exact hbs, fun i' hi' j' hj' => ?_⟩
      rw [h3, hlen]
      by_cases e : i' = i
      · subst e
        simp only [beq_tt, cond_true]
        rw [if_pos (by omega)]
        have := allPv_prel (by rw [allPv_shed]; exact hall) hcr (i := j') (by rw [length_shedAll]; show j' < cs.length; omega)
        rw [pvAt_shed] at this
        rw [show i' * sz + j' - (i' * sz + 0) = j' by omega]
        exact .pv this
      · simp only [beq_ff e, cond_false]
        rw [if_neg]
        · exact hbc i' hi' j' hj'
        · rintro ⟨h4, h5⟩
          have h6 : (i' * sz + j') / sz = i' := by rw [Nat.mul_comm, Nat.mul_add_div (by omega), Nat.div_eq_of_lt hj']; omega
          have h7 : (i' * sz + j') / sz = i := by
            have : i' * sz + j' = sz * i + (i' * sz + j' - i * sz) := by rw [Nat.mul_comm sz i]; omega
            rw [this, Nat.mul_add_div (by omega), Nat.div_eq_of_lt (by omega)]; omega
          exact e (h6.symm.trans h7)
    obtain ⟨s1, s2⟩ := hS.store (k := k) hk hB hO hw (by assumption) hbr
    refine .skip (ad' := ad) (run (by rw [haddr]; exact h1)) h ?_ s1 (by rw [ho]; rfl)
    rw [hput, setBlkL_eq]
    exact s2
  · rename_i s' n' el' hev
    replace h := needE h
    obtain ⟨hb', h⟩ := h
    obtain ⟨hsz, hb'⟩ := andE hb'
    obtain ⟨e1, hb'⟩ := andE hb'
    obtain ⟨e2, hb'⟩ := andE hb'
    obtain ⟨e3, hb'⟩ := andE hb'
    obtain ⟨e4, e5⟩ := andE hb'
    have hsz := beqE hsz
    have e1 := beqE e1
    have e2 := beqE e2
    have e3 := beqE e3
    have e4 := beqE e4
    have e5 := beqE e5
    obtain ⟨rfl, rfl, rfl, rfl, rfl⟩ : sz = s ∧ s' = s ∧ n' = n ∧ i = 0 ∧ j = 0 := ⟨e1, e2, e3, e4, e5⟩
    rw [hev] at hv
    revert hv run
    generalize a.eval x = v
    intro run hv
    cases hv with
    | av arr2 hs2 hr2 =>
      obtain ⟨arr', h1, h2, h3⟩ := storeRun (P := P) hT hti (off := 0 * s' + 0) (v := .agg arr2) hw (by show arr2.size = _; omega) (by show _ + arr2.size ≤ _; omega) (by
        intro u hu
        obtain ⟨m, hm, rfl⟩ := List.getElem_of_mem hu
        have hm' : m < arr2.size := by simpa [Value.cells] using hm
        have hs0 : 0 < s' := by
          rcases Nat.eq_zero_or_pos s' with h | h
          · subst h; rw [Nat.mul_zero] at hs2; omega
          · exact h
        have := prel_one (hr2 (m / s') (by rw [Nat.div_lt_iff_lt_mul hs0]; omega) (m % s') (Nat.mod_lt _ hs0))
        rw [Nat.mul_comm, Nat.div_add_mod] at this
        simpa [Array.getD, hm', Value.cells] using this)
      have hbr : BlkRel w O ad k arr' (.row s' n' el' (fun _ _ => false)) := by
        refine ⟨by rw [h2]; exact hbs, fun i' hi' j' hj' => ?_⟩
        rw [h3]
        have : (Value.agg arr2).cells = arr2 := rfl
        rw [this, if_pos ⟨by omega, by have := idx_lt hi' hj'; omega⟩]
        simpa using VRel.pv (ad := ad) (p := .cell k i' j') (hr2 i' hi' j' hj')
      obtain ⟨s1, s2⟩ := hS.store (k := k) hk hB hO hw (by assumption) hbr
      refine .skip (ad' := ad) (run (by rw [haddr]; exact h1)) h ?_ s1 (by rw [ho]; rfl)
      rw [hput, setBlkL_eq]
      exact s2
  · exact h.elim

theorem store_ok (hT : TabOk P T) (hS : Sat st a w O ad) {t : TypeId} {x addr : Operand} (ho : o.op = .store t addr x) (hdst : o.dst = none) (h : storeOp T st t (ev st.env addr) x K) : OpOk P o a w O Q K := by
  unfold storeOp at h
  split at h
  · rename_i ti k sz i j hti ha
    have hv := hS.ev addr
    rw [ha] at hv
    have : ∃ B, nth ad k = some (B + 1) ∧ a.eval addr = .pointer (some ⟨B, i * sz + j, none⟩) := by
      revert hv
      generalize a.eval addr = u
      intro hv
      cases hv with
      | ptr hk => exact ⟨_, hk, rfl⟩
    obtain ⟨B, hB, haddr⟩ := this
    split at h
    · rename_i cs hk; exact storeBox_ok hT hS ho hdst hti hk hB haddr h
    · rename_i s n el ow hk; exact storeRow_ok hT hS ho hdst hti hk hB haddr h
    · exact h.elim
  · rename_i ti k i j hti ha
    have hv := hS.ev addr
    rw [ha] at hv
    have : ∃ B, O B = .inn k i ∧ a.eval addr = .pointer (some ⟨B, j, none⟩) := by
      revert hv
      generalize a.eval addr = u
      intro hv
      cases hv with
      | psub _ hk => exact ⟨_, hk, rfl⟩
    obtain ⟨B, hO, haddr⟩ := this
    split at h
    · rename_i n m el hk
      split at h
      · rename_i o' p _ hev
        obtain ⟨hsz, ⟨hi, hj⟩, h⟩ := needC h
        have hsz := beqE hsz
        have hx := hS.ev x
        rw [hev] at hx
        have hp := prel_of hx
        have hone : oneC (a.eval x) = true := prel_one hp
        have hcl := cells_one hone
        obtain ⟨B0, arr0, ty0, g1, g2, g3, g4, g5⟩ := hS.heap.cells hk rfl (fun h => h)
        rcases g5 i hi with ⟨h0, _⟩ | ⟨B2, cap, arr2, ty2, h1, h2, h3, h4, h5, h6⟩
        · omega
        obtain rfl := hS.fresh.uni _ _ _ _ hO h2
        have hst := run_store (P := P) (o := j) (v := a.eval x) h3 (by omega) hone
        obtain ⟨s1, s2⟩ := hS.storeInn (j := j) hk hO h3 hp (by omega)
        have hput : ∀ v, a.put o.dst v = a := fun v => by rw [hdst]; rfl
        refine .skip (w' := World.setBlk w B (arr2.setIfInBounds j (a.eval x)) ty2) (ad' := ad) ?_ h ?_ s1 (by rw [ho]; rfl)
        · have hrun : (Instr.storeAt t (a.eval addr) (a.eval x)).run P w = .ok () (World.setBlk w B (arr2.setIfInBounds j (a.eval x)) ty2) := by
            rw [haddr]
            simp only [Instr.storeAt, Instr.sureAddr, run_bind, run_pure, storeVar, run_sizeOf_of hT hti]
            rw [if_neg (by rw [hcl]; simp [hsz])]
            rw [hcl]
            simp only [storeCells, run_bind, add_none, Nat.add_zero, hst, run_pure]
          unfold execOp; simp only [ho, run_bind, hrun, run_pure]
        · rw [hput, setBlkL_eq]
          exact s2
      · exact h.elim
    · exact h.elim
  · exact h.elim

/-- a value handed on with what it owns -/
def moveOp (st : St) (dst : Option Nat) (t : Nat) (K : St → Prop) : Prop :=
  match dst with
  | some d => need (!Nat.beq d t) <| K { st with env := (d, get st.env t) :: (t, (get st.env t).shed) :: st.env }
  | none => False

theorem move_ok (hS : Sat st a w O ad) {t : Nat} (ho : o.op = .move (.tmp t) ∨ o.op = .assign (.tmp t)) (hd : okDst st o.dst = true) (h : moveOp st o.dst t K) : OpOk P o a w O Q K := by
  unfold moveOp at h
  split at h
  · rename_i d hdd
    replace h := needE h
    obtain ⟨h1, h⟩ := h
    rw [hdd] at hd
    obtain ⟨g1, g2, g3⟩ := hS.take (t := t) (q := .tmp d) (by simp) (fun _ _ i => by simp [Pos.sub])
    have hrun : (execOp a.eval o).run P w = .ok (.value (a.tmps.getD t undef)) w := by
      unfold execOp; rcases ho with ho | ho <;> rw [ho] <;> rfl
    refine .value (ad' := ad) hrun h ?_ g3 (Agree.refl O w)
    have := g2.put (dst := o.dst) (by rw [hdd]; exact hd) (x := get st.env t) (v := a.tmps.getD t undef) (fun _ => by rw [hdd]; exact g1)
    rw [hdd] at this ⊢
    exact this
  · exact h.elim

end
end Go.Proofs.Ytgghnfmabphbmaa.Fw
