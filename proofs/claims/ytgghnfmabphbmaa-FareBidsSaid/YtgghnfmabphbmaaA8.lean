/- Operations that make memory. -/
import Derived.Test.YtgghnfmabphbmaaA7
namespace Go.Proofs.Ytgghnfmabphbmaa.Fw
open Go
set_option linter.unusedSimpArgs false
set_option linter.unusedVariables false

/-- A variable: memory that is written (a box), or (fl = 1) that nobody writes any more. -/
def boxK (fl : Nat) (st : St) (dst : Option Nat) (cs : List AVal) (K : St → Prop) : Prop :=
  bif Nat.beq fl 1 then need (allPv cs) (K (st.put dst (.pv false (.cptr cs.length (pvAt cs) 0))))
  else K (St.put { st with heap := st.heap ++ [.box cs] } dst (.ptr st.heap.length 0 0 0))

def rowK (st : St) (dst : Option Nat) (sz n : Nat) (el : Nat → Nat → PV) (K : St → Prop) : Prop :=
  K (St.put { st with heap := st.heap ++ [.row sz n el fun _ _ => false] } dst (.ptr st.heap.length sz 0 0))

def boxOp (fl : Nat) (st : St) (dst : Option Nat) (v : AVal) (K : St → Prop) : Prop :=
  match v with
  | .av sz n el => rowK st dst sz n el K
  | _ => need v.told (boxK fl st dst (shedAll v.cells) K)

/-- a slice that is nil, told as one that is nil only if it is empty -/
def iffV : AVal → AVal
  | .pv o (.lst s .isNil 0 e) => .pv false (.lst s .iff 0 e)
  | v => v

def iffL : List AVal → List AVal
  | [] => []
  | v :: r => iffV v :: iffL r

def allocOp (T : Tab) (fl : Nat) (st : St) (dst : Option Nat) (t : TypeId) (K : St → Prop) : Prop :=
  match T t with
  | some ⟨.array len e, size, _, z⟩ =>
    match elemSize T e with
    | some s => need (allPv (avalOf z).cells && ((avalOf z).told && (Nat.beq size (len * s) && Nat.beq (avalOf z).cells.length size)))
        (rowK st dst s len (fun i j => pvAt (avalOf z).cells (i * s + j)) K)
    | none => False
  | some ⟨_, _, _, z⟩ => need (avalOf z).told (boxK (bif Nat.beq fl 4 then 1 else 0) st dst (shedAll (avalOf z).cells) K)
  | none => False

/-- cells repeated -/
def rep (zc : List AVal) : Nat → List AVal
  | 0 => []
  | n + 1 => zc ++ rep zc n

/-- the value of a new slice: fl = 2: memory of the call's own; 3: a slice that may grow; else one that nobody writes any more -/
def newSliceK (fl : Nat) (st : St) (dst : Option Nat) (sz n : Nat) (nf : NF) (el : Nat → Nat → PV) (K : St → Prop) : Prop :=
  bif Nat.beq fl 2 then K (St.put { st with heap := st.heap ++ [.row sz n el fun _ _ => false] } dst (.arr st.heap.length sz 0 n))
  else bif Nat.beq fl 3 then need dst.isSome (K (st.put dst (.pv true (.lst sz .notNil n el))))
  else K (st.put dst (.pv false (.lst sz nf n el)))

def buildSliceOp (T : Tab) (fl : Nat) (st : St) (dst : Option Nat) (t : TypeId) (len : Nat) (ps : List (Nat × AVal)) (K : St → Prop) : Prop :=
  match T t with
  | some ⟨.slice e, _, _, _⟩ =>
    match T e with
    | some te =>
      match fillK (fun i => some (i * te.size, te.size)) (rep (avalOf te.zero).cells len) ps with
      | some cs => need (allPv cs && ((avalOf te.zero).told && (Nat.beq (avalOf te.zero).cells.length te.size && (Nat.ble 1 te.size && (Nat.ble (len * te.size) 16777216 && Nat.beq cs.length (len * te.size))))))
          (newSliceK fl st dst te.size len .full (fun i j => pvAt cs (i * te.size + j)) K)
      | none => False
    | none => False
  | _ => False

/-- a nil slice -/
def isNilV : AVal → Bool
  | .pv _ (.lst _ .isNil 0 _) => true
  | _ => false

/-- fl = 0: memory of the call's own; 40: a table -/
def makeSliceOp (T : Tab) (fl : Nat) (st : St) (dst : Option Nat) (t : TypeId) (l c : AVal) (K : St → Prop) : Prop :=
  match T t, l, c with
  | some ⟨.slice e, _, _, _⟩, .pv _ (.int _ l), .pv _ (.int _ c) =>
    match T e with
    | some te => bif Nat.beq fl 40 then need (isNilV (avalOf te.zero) && Nat.beq te.size 1)
        (cnd T.conc (0 ≤ l ∧ l ≤ c ∧ c ≤ 2 ^ 47 ∧ te.bytes * c ≤ 2 ^ 47) <| K (St.put { st with heap := st.heap ++ [.mat l.toNat (fun _ => 0) fun _ _ => .junk] } dst (.arr st.heap.length 1 0 l.toNat)))
      else bif Nat.beq fl 33 then need ((avalOf te.zero).told && (Nat.beq (avalOf te.zero).cells.length te.size && Nat.ble 1 te.size))
        (cnd T.conc (0 ≤ l ∧ l = c ∧ c ≤ 2 ^ 47 ∧ te.bytes * c ≤ 2 ^ 47) <| K (St.put { st with heap := st.heap ++ [.box (rep (avalOf te.zero).cells l.toNat)] } dst (.arr st.heap.length te.size 0 l.toNat)))
      else need (allPv (avalOf te.zero).cells && ((avalOf te.zero).told && (Nat.beq (avalOf te.zero).cells.length te.size && Nat.ble 1 te.size)))
        (cnd T.conc (0 ≤ l ∧ l ≤ c ∧ c ≤ 2 ^ 47 ∧ te.bytes * c ≤ 2 ^ 47) <| newSliceK (bif Nat.beq fl 0 then 2 else fl) st dst te.size l.toNat .notNil (fun _ j => pvAt (avalOf te.zero).cells j) K)
    | none => False
  | _, _, _ => False

section
variable {P : Program} {T : Tab} {w : World} {O : Nat → Own} {ad : List Nat} {st : St} {a : Act} {o : Oper} {Q : Exit → Act → World → Prop} {K : St → Prop}

def isStore : Op → Bool
  | .store _ _ _ | .mapUpdate _ _ _ _ | .insert _ _ _ _ => true
  | _ => false

/-- What an operation leaves is told by a state of which K holds. -/
def OpOk (P : Program) (o : Oper) (a : Act) (w : World) (O : Nat → Own) (Q : Exit → Act → World → Prop) (K : St → Prop) : Prop :=
  o.wp P a w (fun a' w' => ∃ st' O' ad', K st' ∧ Sat st' a' w' O' ad' ∧ Step w O w' O' ∧ (isStore o.op = false → Agree O w w')) Q

theorem push_agree (O : Nat → Own) (arr : Array Value) (ty : TypeId) : Agree O w (World.push w arr ty) := by
  intro B o hB _
  simp only [World.cell?, push_lt w arr ty hB]

theorem OpOk.value {rv : Value} {w' : World} {st' : St} {O' : Nat → Own} {ad' : List Nat} (hrun : (execOp a.eval o).run P w = .ok (.value rv) w') (hk : K st')
    (hs : Sat st' (a.put o.dst rv) w' O' ad') (hst : Step w O w' O') (hag : Agree O w w') : OpOk P o a w O Q K := by
  unfold OpOk Oper.wp
  rw [hrun]
  exact ⟨st', O', ad', hk, hs, hst, fun _ => hag⟩

theorem newObj_run (x : Obj) (w : World) : (newObj x).run P w = .ok w.heap.size { w with heap := w.heap.push x } := rfl

theorem newRow_run (ty : TypeId) (cells : Array Value) (w : World) : (newRow ty cells).run P w = .ok ⟨w.heap.size, 0, none⟩ (World.push w cells ty) := by
  unfold newRow; rw [run_bind, newObj_run]; rfl

theorem CellsRel.step {w' : World} {O' : Nat → Own} {ad' : List Nat} (hs : Step w O w' O') (hin : InnK O O') (had : ∀ k B, nth ad k = some B → nth ad' k = some B) {cs : List AVal} {arr : Array Value} (h : CellsRel w O ad cs arr) :
    CellsRel w' O' ad' cs arr := ⟨h.1, fun i x hx => (h.2 i x hx).step hs hin had .no⟩

theorem BlkRel.of_cells {cs : List AVal} {arr : Array Value} (h : CellsRel w O ad cs arr) (k : Nat) : BlkRel w O ad k arr (.box cs) := ⟨h.1, fun i x hx => (h.2 i x hx).any _⟩

/-- a new variable -/
theorem boxK_ok (hS : Sat st a w O ad) {fl : Nat} {cs : List AVal} {arr : Array Value} {ty : TypeId} (hd : okDst st o.dst = true) (hc : CellsRel w O ad cs arr) (h : boxK fl st o.dst cs K)
    (hrun : (execOp a.eval o).run P w = .ok (.value (.pointer (some ⟨w.heap.size, 0, none⟩))) (World.push w arr ty)) : OpOk P o a w O Q K := by
  unfold boxK at h
  cases hf : Nat.beq fl 1 with
  | true =>
    simp only [hf, cond_true] at h
    replace h := needE h
    obtain ⟨hall, h⟩ := h
    obtain ⟨h1, h2⟩ := hS.push_im arr ty .free
    refine .value hrun h (h2.put hd fun _ => .pv (.cptr (fun j => arr.getD j undef) (fun j hj => ?_) (fun j hj => ?_))) h1 (push_agree O _ _)
    · refine ⟨by rw [Nat.zero_add]; exact cell_of_block' (push_at w arr ty) (by rw [hc.1]; omega), ?_⟩
      unfold im; rw [upd_same]; trivial
    · exact (allPv_prel hall hc hj).step h1
  | false =>
    simp only [hf, cond_false] at h
    obtain ⟨h1, h2⟩ := hS.push ty (BlkRel.of_cells hc _)
    refine .value hrun h (h2.put hd fun _ => ?_) h1 (push_agree O _ _)
    have := VRel.ptr (w := World.push w arr ty) (O := upd O w.heap.size (.blk st.heap.length)) (p := dpos o.dst) (ad := ad ++ [w.heap.size + 1]) (k := st.heap.length) (sz := 0) (i := 0) (j := 0) (by rw [← hS.len]; exact nth_last _ _)
    simpa using this

theorem rowK_ok (hS : Sat st a w O ad) {sz n : Nat} {el : Nat → Nat → PV} {arr : Array Value} {ty : TypeId} (hd : okDst st o.dst = true) (hsz : n * sz ≤ arr.size)
    (hc : ∀ i, i < n → ∀ j, j < sz → PRel w O (el i j) (arr.getD (i * sz + j) undef)) (h : rowK st o.dst sz n el K)
    (hrun : (execOp a.eval o).run P w = .ok (.value (.pointer (some ⟨w.heap.size, 0, none⟩))) (World.push w arr ty)) : OpOk P o a w O Q K := by
  unfold rowK at h
  obtain ⟨h1, h2⟩ := hS.push ty (arr := arr) (b := .row sz n el fun _ _ => false) ⟨hsz, fun i hi j hj => .pv (hc i hi j hj)⟩
  refine .value hrun h (h2.put hd fun _ => ?_) h1 (push_agree O _ _)
  have := VRel.ptr (w := World.push w arr ty) (O := upd O w.heap.size (.blk st.heap.length)) (p := dpos o.dst) (ad := ad ++ [w.heap.size + 1]) (k := st.heap.length) (sz := sz) (i := 0) (j := 0) (by rw [← hS.len]; exact nth_last _ _)
  simpa using this

theorem box_ok (hS : Sat st a w O ad) (hd : okDst st o.dst = true) {t : TypeId} {x : Operand} (ho : o.op = .box t x) {fl : Nat} (h : boxOp fl st o.dst (ev st.env x) K) : OpOk P o a w O Q K := by
  have hrun : (execOp a.eval o).run P w = .ok (.value (.pointer (some ⟨w.heap.size, 0, none⟩))) (World.push w (a.eval x).cells t) := by
    unfold execOp; simp only [ho, Instr.box, newVar, run_bind, newRow_run, run_pure]
  have hv := hS.ev x
  unfold boxOp at h
  split at h
  · rename_i sz n el hx
    rw [hx] at hv
    revert hv hrun
    generalize a.eval x = v
    intro hrun hv
    cases hv with
    | av arr hs hr => exact rowK_ok hS hd (Nat.le_of_eq hs.symm) hr h hrun
  · replace h := needE h
    obtain ⟨ht, h⟩ := h
    exact boxK_ok hS hd (cells_rel hv ht) h hrun

theorem iffV_rel {p : Pos} {x : AVal} {v : Value} (h : VRel w O ad p x v) : VRel w O ad p (iffV x) v := by
  unfold iffV
  split
  · rename_i o' s e
    have := prel_of h
    cases this with
    | lst _ _ _ _ _ hn => exact hn.elim
    | lstE _ hn => exact hn.elim
    | lstNil _ _ => exact .pv (.lstNil (by simp) (by simp))
  · exact h

theorem iffL_len : ∀ cs : List AVal, (iffL cs).length = cs.length
  | [] => rfl
  | _ :: r => by simp [iffL, iffL_len r]

theorem nth_iffL : ∀ {cs : List AVal} {i : Nat} {x : AVal}, nth (iffL cs) i = some x → ∃ y, nth cs i = some y ∧ x = iffV y
  | [], _, _, h => by simp [iffL, nth] at h
  | y :: r, 0, x, h => by simp [iffL, nth] at h; exact ⟨y, rfl, h.symm⟩
  | y :: r, i + 1, x, h => by simp only [iffL, nth] at h; exact nth_iffL (cs := r) (i := i) h

theorem cells_iff {cs : List AVal} {arr : Array Value} (h : CellsRel w O ad cs arr) : CellsRel w O ad (iffL cs) arr :=
  ⟨by rw [iffL_len]; exact h.1, fun i x hx => by
    obtain ⟨y, hy, rfl⟩ := nth_iffL hx
    exact iffV_rel (h.2 i y hy)⟩

theorem alloc_ok (hT : TabOk P T) (hS : Sat st a w O ad) (hd : okDst st o.dst = true) {t : TypeId} (ho : o.op = .alloc t) {fl : Nat} (h : allocOp T fl st o.dst t K) : OpOk P o a w O Q K := by
  have hrun : ∀ ti, T t = some ti → (execOp a.eval o).run P w = .ok (.value (.pointer (some ⟨w.heap.size, 0, none⟩))) (World.push w ti.zero.cells t) := by
    intro ti hti
    unfold execOp; simp only [ho, Instr.alloc, newVar, run_bind, zeroValue_run hT hti, newRow_run, run_pure]
  unfold allocOp at h
  split at h
  · rename_i len e size by_ z ht
    split at h
    · rename_i s hs
      replace h := needE h
      obtain ⟨hb', h⟩ := h
      obtain ⟨h1, hb'⟩ := andE hb'
      obtain ⟨h2, hb'⟩ := andE hb'
      obtain ⟨h3, h4⟩ := andE hb'
      have h3 := beqE h3
      have h4 := beqE h4
      rcases avalCells (w := w) (O := O) (ad := ad) z with hz | hz
      · refine rowK_ok hS hd (by rw [hz.1]; omega) (fun i hi j hj => allPv_prel h1 hz ?_) h (hrun _ ht)
        rw [h4, h3]
        calc i * s + j < i * s + s := by omega
          _ = (i + 1) * s := by rw [Nat.add_mul, Nat.one_mul]
          _ ≤ len * s := Nat.mul_le_mul_right _ (by omega)
      · rw [hz] at h2; simp [AVal.told] at h2
    · exact h.elim
  · rename_i d size by_ z hne ht
    replace h := needE h
    obtain ⟨h1, h⟩ := h
    exact boxK_ok hS hd (cells_rel (avalOf_rel .no z) h1) h (hrun _ ht)
  · exact h.elim

/-- a variable whose slices are nil only if they are empty -/
def allocIffOp (T : Tab) (st : St) (dst : Option Nat) (t : TypeId) (K : St → Prop) : Prop :=
  match T t with
  | some ti => need (avalOf ti.zero).told (boxK 0 st dst (iffL (shedAll (avalOf ti.zero).cells)) K)
  | none => False

theorem allocIff_ok (hT : TabOk P T) (hS : Sat st a w O ad) (hd : okDst st o.dst = true) {t : TypeId} (ho : o.op = .alloc t) (h : allocIffOp T st o.dst t K) : OpOk P o a w O Q K := by
  have hrun : ∀ ti, T t = some ti → (execOp a.eval o).run P w = .ok (.value (.pointer (some ⟨w.heap.size, 0, none⟩))) (World.push w ti.zero.cells t) := by
    intro ti hti
    unfold execOp; simp only [ho, Instr.alloc, newVar, run_bind, zeroValue_run hT hti, newRow_run, run_pure]
  unfold allocIffOp at h
  split at h
  · rename_i ti ht
    obtain ⟨h1, h⟩ := needE h
    exact boxK_ok hS hd (cells_iff (cells_rel (avalOf_rel .no ti.zero) h1)) h (hrun _ ht)
  · exact h.elim

/-- a new slice over a new block -/
theorem newSlice_ok (hS : Sat st a w O ad) {fl sz n cap : Nat} {nf : NF} {el : Nat → Nat → PV} {arr : Array Value} {ty : TypeId} (hd : okDst st o.dst = true) (hn : n ≤ cap) (hsz : cap * sz ≤ arr.size)
    (hnf : nf.fits n) (hf : nf = .full ∨ nf = .fullAny → cap = n)
    (hc : ∀ i, i < n → ∀ j, j < sz → PRel w O (el i j) (arr.getD (i * sz + j) undef)) (h : newSliceK fl st o.dst sz n nf el K)
    (hrun : (execOp a.eval o).run P w = .ok (.value (.slice (some ⟨w.heap.size, 0, none⟩) n cap)) (World.push w arr ty)) : OpOk P o a w O Q K := by
  have lt : ∀ i j, i < n → j < sz → i * sz + j < n * sz := fun i j hi hj => by
    calc i * sz + j < i * sz + sz := by omega
      _ = (i + 1) * sz := by rw [Nat.add_mul, Nat.one_mul]
      _ ≤ n * sz := Nat.mul_le_mul_right _ (by omega)
  have hns : n * sz ≤ arr.size := Nat.le_trans (Nat.mul_le_mul_right _ hn) hsz
  have lst : ∀ (x : Own) (nf' : NF), nf'.fits n → (nf' = .full ∨ nf' = .fullAny → cap = n) → (∀ m, m < n * sz → im (upd O w.heap.size x) w.heap.size m) → Step w O (World.push w arr ty) (upd O w.heap.size x) →
      PRel (World.push w arr ty) (upd O w.heap.size x) (.lst sz nf' n el) (.slice (some ⟨w.heap.size, 0, none⟩) n cap) := by
    intro x nf' hn1 hn2 him hst
    refine .lst (fun i j => arr.getD (i * sz + j) undef) (fun i hi j hj => ?_) (fun i hi j hj => (hc i hi j hj).step hst) hn hn2 hn1
    rw [Nat.zero_add]
    exact ⟨cell_of_block' (push_at w arr ty) (Nat.lt_of_lt_of_le (lt i j hi hj) hns), him _ (lt i j hi hj)⟩
  unfold newSliceK at h
  cases h2 : Nat.beq fl 2 with
  | true =>
    simp only [h2, cond_true] at h
    obtain ⟨g1, g2⟩ := hS.push ty (arr := arr) (b := .row sz n el fun _ _ => false) ⟨hns, fun i hi j hj => .pv (hc i hi j hj)⟩
    refine .value hrun h (g2.put hd fun _ => ?_) g1 (push_agree O _ _)
    have := VRel.arr (w := World.push w arr ty) (O := upd O w.heap.size (.blk st.heap.length)) (p := dpos o.dst) (ad := ad ++ [w.heap.size + 1]) (k := st.heap.length) (sz := sz) (off := 0) (n := n) (cap := cap) (by rw [← hS.len]; exact nth_last _ _) hn ⟨arr, ty, (0, 0), push_at w arr ty, by rw [Nat.zero_add]; exact hsz⟩
    simpa using this
  | false =>
    simp only [h2, cond_false] at h
    cases h3 : Nat.beq fl 3 with
    | true =>
      simp only [h3, cond_true] at h
      replace h := needE h
      obtain ⟨hds, h⟩ := h
      cases hdd : o.dst with
      | none => simp [hdd] at hds
      | some d =>
        obtain ⟨g1, g2⟩ := hS.push_im arr ty (.lst (.tmp d) (n * sz))
        refine .value hrun h (g2.put hd fun _ => ?_) g1 (push_agree O _ _)
        rw [hdd]
        refine .own (lst _ _ (by simp) (by simp) (fun m hm => by unfold im; rw [upd_same]; exact hm) g1) ⟨by simp [dpos], .inr (.inr ⟨w.heap.size, 0, cap, arr, ty, rfl, ?_, push_at w arr ty, by omega⟩)⟩
        rw [upd_same]; simp [dpos]
    | false =>
      simp only [h3, cond_false] at h
      obtain ⟨g1, g2⟩ := hS.push_im arr ty .free
      exact .value hrun h (g2.put hd fun _ => .pv (lst _ _ hnf hf (fun m hm => by unfold im; rw [upd_same]; trivial) g1)) g1 (push_agree O _ _)

theorem rep_rel {zc : List AVal} {za : Array Value} (hz : CellsRel w O ad zc za) (hpos : 1 ≤ za.size) : ∀ n, CellsRel w O ad (rep zc n) ((Array.range (n * za.size)).map (za[· % za.size]!)) := by
  intro n
  have hl : ∀ n, (rep zc n).length = n * za.size := by
    intro n
    induction n with
    | zero => simp [rep]
    | succ n ih => simp [rep, ih, ← hz.1]; rw [Nat.add_mul]; omega
  have hg : ∀ n i, i < n * za.size → nth (rep zc n) i = nth zc (i % za.size) := by
    intro n
    induction n with
    | zero => intro i hi; simp at hi
    | succ n ih =>
      intro i hi
      simp only [rep, nth_append, ← hz.1]
      by_cases c : i < za.size
      · rw [if_pos c, Nat.mod_eq_of_lt c]
      · rw [if_neg c, ih (i - za.size) (by rw [Nat.add_mul] at hi; omega), ← Nat.mod_eq_sub_mod (by omega)]
  refine ⟨by simp [hl], fun i x hx => ?_⟩
  have hi : i < n * za.size := by have := nth_lt hx; rwa [hl] at this
  rw [hg n i hi] at hx
  have hlt : i % za.size < za.size := Nat.mod_lt _ (by omega)
  have := hz.2 _ x hx
  have e : ((Array.range (n * za.size)).map (za[· % za.size]!)).getD i undef = za.getD (i % za.size) undef := by
    simp [Array.getD, hi, hlt]
  rw [e]; exact this

theorem told_cells {v : Value} (h : (avalOf v).told = true) : CellsRel w O ad (avalOf v).cells v.cells := by
  rcases avalCells (w := w) (O := O) (ad := ad) v with hz | hz
  · exact hz
  · rw [hz] at h; simp [AVal.told] at h

theorem buildSlice_ok (hT : TabOk P T) (hS : Sat st a w O ad) (hd : okDst st o.dst = true) {t : TypeId} {len : Nat} {ps : Array (Nat × Operand)} (ho : o.op = .buildSlice t len ps) {fl : Nat}
    (h : buildSliceOp T fl st o.dst t len (evParts (ev st.env) ps.toList) K) : OpOk P o a w O Q K := by
  obtain ⟨hl, hr⟩ := evParts_spec (e := ev st.env) (ρ := a.eval) hS.ev ps.toList
  unfold buildSliceOp at h
  split at h
  · rename_i e s1 s2 s3 ht
    split at h
    · rename_i te hte
      split at h
      · rename_i cs hcs
        replace h := needE h
        obtain ⟨hb', h⟩ := h
        obtain ⟨hall, hb'⟩ := andE hb'
        obtain ⟨htold, hb'⟩ := andE hb'
        obtain ⟨hlen, hb'⟩ := andE hb'
        obtain ⟨hpos, hb'⟩ := andE hb'
        obtain ⟨hmax, hcl⟩ := andE hb'
        have hlen := beqE hlen
        have hpos := bleE hpos
        have hmax := bleE hmax
        have hcl := beqE hcl
        have hz := told_cells (w := w) (O := O) (ad := ad) htold
        have hzs : te.zero.cells.size = te.size := by rw [hz.1, hlen]
        obtain ⟨arr, h1, h2⟩ := fill_ok (rep_rel hz (by omega) len) hl hr hcs
        rw [hzs] at h1
        refine newSlice_ok (ty := e) hS hd (Nat.le_refl _) (by rw [h2.1, hcl]; exact Nat.le_refl _) (by simp) (fun _ => rfl) (fun i hi j hj => allPv_prel hall h2 ?_) h ?_
        · rw [hcl]
          calc i * te.size + j < i * te.size + te.size := by omega
            _ = (i + 1) * te.size := by rw [Nat.add_mul, Nat.one_mul]
            _ ≤ len * te.size := Nat.mul_le_mul_right _ (by omega)
        · unfold execOp
          simp only [ho, Instr.buildSlice, run_bind, run_underlying_of hT ht, run_sizeOf_of hT hte]
          rw [if_neg (by have : (2 : Nat) ^ 24 = 16777216 := by decide
                         omega)]
          cases hz0 : len * te.size with
          | zero =>
            simp only [run_bind, if_true, run_pure]
            rw [hz0] at h1
            simp only [map_toList] at h1 ⊢
            have e1 : (Array.range 0).map (fun x => te.zero.cells[x % te.size]!) = (Array.range 0).map (fun x => (#[] : Array Value)[x % (#[] : Array Value).size]!) := by simp
            rw [e1] at h1
            simp only [h1, run_bind, newRow_run, run_pure]
          | succ m =>
            simp only [run_bind, zeroValue_run hT hte, run_pure, Nat.succ_ne_zero, if_false, hzs]
            rw [hz0] at h1
            simp only [map_toList] at h1 ⊢
            simp only [h1, run_bind, newRow_run, run_pure]
      · exact h.elim
    · exact h.elim
  · exact h.elim

theorem wrap_i64 {n : Int} (h0 : -9223372036854775808 ≤ n) (h1 : n ≤ 9223372036854775807) : IntKind.i64.wrap n = n := by
  have e : IntKind.i64.wrap n = if (9223372036854775808 : Int) ≤ n % 18446744073709551616 then n % 18446744073709551616 - 18446744073709551616 else n % 18446744073709551616 := by
    simp [IntKind.wrap, IntKind.bits, IntKind.signed]
  rw [e]
  split <;> omega

theorem asInt_run {k : IntKind} {q : Int} (w : World) : (asInt (.int k q)).run P w = .ok q w := rfl

theorem askRoom_run (n : Nat) (w : World) : (askRoom n).run P w = .ok () w := by
  unfold askRoom; split <;> rfl

theorem makeSlice_ok (hT : TabOk P T) (hS : Sat st a w O ad) (hd : okDst st o.dst = true) {t : TypeId} {l c : Operand} (ho : o.op = .makeSlice t l c) {fl : Nat}
    (h : makeSliceOp T fl st o.dst t (ev st.env l) (ev st.env c) K) : OpOk P o a w O Q K := by
  have h1 := hS.ev l
  have h2 := hS.ev c
  unfold makeSliceOp at h
  split at h
  · rename_i e s1 s2 s3 o1 k1 q o2 k2 r ht hl hc
    rw [hl] at h1
    rw [hc] at h2
    have h1 := int_of h1
    have h2 := int_of h2
    split at h
    · rename_i te hte
      have hrun : (avalOf te.zero).told = true → (avalOf te.zero).cells.length = te.size → 0 ≤ q → q ≤ r → r ≤ 2 ^ 47 → te.bytes * r ≤ 2 ^ 47 →
          (execOp a.eval o).run P w = .ok (.value (.slice (some ⟨w.heap.size, 0, none⟩) q.toNat r.toNat)) (World.push w ((Array.range (r.toNat * te.size)).map (te.zero.cells[· % te.zero.cells.size]!)) e) := by
        intro htold hlen h3 h4 h5 h6
        have hz := told_cells (w := w) (O := O) (ad := ad) htold
        have hzs : te.zero.cells.size = te.size := by rw [hz.1, hlen]
        obtain ⟨i, hi1, hi2, hi3, hir⟩ := run_typeInfo_of hT hte
        have hwl : IntKind.i64.wrap q = q := wrap_i64 (by omega) (by omega)
        have hwc : IntKind.i64.wrap r = r := wrap_i64 (by omega) (by omega)
        unfold execOp
        simp only [ho, Instr.makeSlice, run_bind, run_underlying_of hT ht, h1, h2, asInt_run, hir, hi2, hwl, hwc]
        rw [if_neg (by
          simp only [Bool.or_eq_true, decide_eq_true_eq, not_or]
          have : (2 : Int) ^ 48 = 281474976710656 := by decide
          omega)]
        simp only [run_bind, run_pure, askRoom_run, run_sizeOf_of hT hte]
        by_cases hz0 : r.toNat * te.size = 0
        · rw [if_pos hz0, hz0]
          have e1 : ∀ f : Nat → Value, (Array.range 0).map f = #[] := fun f => by simp
          simp only [run_bind, run_pure, newRow_run, e1]
        · rw [if_neg hz0]
          simp only [run_bind, zeroValue_run hT hte, run_pure, newRow_run]
      cases h40 : Nat.beq fl 40 with
      | true =>
        rw [h40, cond_true] at h
        obtain ⟨hb', ⟨h3, h4, h5, h6⟩, h⟩ := needC h
        obtain ⟨hnil, hsz1⟩ := andE hb'
        have hsz1 := beqE hsz1
        have hnv : ∃ o s e, avalOf te.zero = .pv o (.lst s .isNil 0 e) := by
          unfold isNilV at hnil
          split at hnil
          · exact ⟨_, _, _, by assumption⟩
          · simp at hnil
        obtain ⟨o', s', e', hnv⟩ := hnv
        have htold : (avalOf te.zero).told = true := by rw [hnv]; rfl
        have hlen : (avalOf te.zero).cells.length = te.size := by rw [hnv, hsz1]; rfl
        have hz := told_cells (w := w) (O := O) (ad := ad) htold
        have hzs : te.zero.cells.size = te.size := by rw [hz.1, hlen]
        have hz0 : te.zero.cells.getD 0 undef = .slice none 0 0 := by
          have := hz.2 0 (.pv o' (.lst s' .isNil 0 e')) (by rw [hnv]; rfl)
          revert this
          generalize te.zero.cells.getD 0 undef = u
          intro this
          cases prel_of this with
          | lst _ _ _ _ _ hn => exact hn.elim
          | lstE _ hn => exact hn.elim
          | lstNil _ _ => rfl
        have hrun := hrun htold hlen h3 h4 h5 h6
        have hcell : ∀ i, i < q.toNat → ((Array.range (r.toNat * te.size)).map (te.zero.cells[· % te.zero.cells.size]!)).getD i undef = .slice none 0 0 := fun i hi => by
          have hlt : i < r.toNat * te.size := by rw [hsz1]; omega
          have h0 : 0 < te.zero.cells.size := by omega
          have e1 : ((Array.range (r.toNat * te.size)).map (te.zero.cells[· % te.zero.cells.size]!)).getD i undef = te.zero.cells[i % te.zero.cells.size]! := by simp [Array.getD, hlt]
          rw [← hz0, e1, show i % te.zero.cells.size = 0 by rw [hzs, hsz1, Nat.mod_one]]
          simp [Array.getD, h0]
        obtain ⟨g1, g2⟩ := hS.push e (arr := (Array.range (r.toNat * te.size)).map (te.zero.cells[· % te.zero.cells.size]!)) (b := .mat q.toNat (fun _ => 0) fun _ _ => .junk) ⟨by simp [hsz1]; omega, fun i hi => .inl ⟨rfl, .inl (hcell i hi)⟩⟩
        · refine .value hrun h (g2.put hd fun _ => ?_) g1 (push_agree O _ _)
          have := VRel.arr (w := World.push w ((Array.range (r.toNat * te.size)).map (te.zero.cells[· % te.zero.cells.size]!)) e) (O := upd O w.heap.size (.blk st.heap.length)) (p := dpos o.dst) (ad := ad ++ [w.heap.size + 1]) (k := st.heap.length) (sz := 1) (off := 0) (n := q.toNat) (cap := r.toNat) (by rw [← hS.len]; exact nth_last _ _) (by omega) ⟨_, e, (0, 0), push_at w _ e, by rw [Nat.zero_add]; simp [hsz1]⟩
          simpa using this
      | false =>
      rw [h40, cond_false] at h
      cases h33 : Nat.beq fl 33 with
      | true =>
        rw [h33, cond_true] at h
        replace h := needC h
        obtain ⟨hb', ⟨h3, h4, h5, h6⟩, h⟩ := h
        obtain ⟨htold, hb'⟩ := andE hb'
        obtain ⟨hlen, hpos⟩ := andE hb'
        have hlen := beqE hlen
        have hpos := bleE hpos
        subst h4
        have hz := told_cells (w := w) (O := O) (ad := ad) htold
        have hzs : te.zero.cells.size = te.size := by rw [hz.1, hlen]
        have hr := rep_rel hz (by omega) q.toNat
        rw [hzs] at hr
        have hrun := hrun htold hlen h3 (Int.le_refl _) h5 h6
        rw [hzs] at hrun
        obtain ⟨g1, g2⟩ := hS.push e (b := .box (rep (avalOf te.zero).cells q.toNat)) (BlkRel.of_cells hr _)
        refine .value hrun h (g2.put hd fun _ => ?_) g1 (push_agree O _ _)
        have := VRel.arr (w := World.push w ((Array.range (q.toNat * te.size)).map (te.zero.cells[· % te.size]!)) e) (O := upd O w.heap.size (.blk st.heap.length)) (p := dpos o.dst) (ad := ad ++ [w.heap.size + 1]) (k := st.heap.length) (sz := te.size) (off := 0) (n := q.toNat) (cap := q.toNat) (by rw [← hS.len]; exact nth_last _ _) (Nat.le_refl _) ⟨_, e, (0, 0), push_at w _ e, by rw [Nat.zero_add]; simp⟩
        simpa using this
      | false =>
        rw [h33, cond_false] at h
        replace h := needC h
        obtain ⟨hb', ⟨h3, h4, h5, h6⟩, h⟩ := h
        obtain ⟨hall, hb'⟩ := andE hb'
        obtain ⟨htold, hb'⟩ := andE hb'
        obtain ⟨hlen, hpos⟩ := andE hb'
        have hlen := beqE hlen
        have hpos := bleE hpos
        have hz := told_cells (w := w) (O := O) (ad := ad) htold
        have hzs : te.zero.cells.size = te.size := by rw [hz.1, hlen]
        refine newSlice_ok (ty := e) (arr := (Array.range (r.toNat * te.size)).map (te.zero.cells[· % te.zero.cells.size]!)) (cap := r.toNat) hS hd (by omega) (by simp) (by simp) (by simp) (fun i hi j hj => ?_) h (hrun htold hlen h3 h4 h5 h6)
        have hzp := allPv_prel hall hz (i := j) (by omega)
        have hlt : i * te.size + j < r.toNat * te.size := by
          calc i * te.size + j < i * te.size + te.size := by omega
            _ = (i + 1) * te.size := by rw [Nat.add_mul, Nat.one_mul]
            _ ≤ r.toNat * te.size := Nat.mul_le_mul_right _ (by omega)
        have hm : (i * te.size + j) % te.size = j := by rw [Nat.mul_comm, Nat.mul_add_mod]; exact Nat.mod_eq_of_lt hj
        have e1 : ((Array.range (r.toNat * te.size)).map (te.zero.cells[· % te.zero.cells.size]!)).getD (i * te.size + j) undef = te.zero.cells.getD j undef := by
          simp [Array.getD, hlt, hzs, hm, hj]
        rw [e1]; exact hzp
    · exact h.elim
  · exact h.elim

end
end Go.Proofs.Ytgghnfmabphbmaa.Fw
