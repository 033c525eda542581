/- Rows of the call's own that grow; lists that are taken out of memory of the call's own. -/
import Derived.Test.YtgghnfmabphbmaaA12
namespace Go.Proofs.Ytgghnfmabphbmaa.Fw
open Go
set_option linter.unusedSimpArgs false
set_option linter.unusedVariables false

mutual
/-- what leads to block k is forgotten -/
def dropV (k : Nat) : AVal → AVal
  | .ptr k' s i j => bif Nat.beq k' k then .undef else .ptr k' s i j
  | .arr k' s o n => bif Nat.beq k' k then .undef else .arr k' s o n
  | .mref k' => bif Nat.beq k' k then .undef else .mref k'
  | .sub k' i n => bif Nat.beq k' k then .undef else .sub k' i n
  | .psub k' i j => bif Nat.beq k' k then .undef else .psub k' i j
  | .agg cs => .agg (dropL k cs)
  | .fn f cs => .fn f (dropL k cs)
  | .tup cs => .tup (dropL k cs)
  | .pv o p => .pv o p
  | .av s n el => .av s n el
  | .undef => .undef
def dropL (k : Nat) : List AVal → List AVal
  | [] => []
  | v :: r => dropV k v :: dropL k r
end

def dropE (k : Nat) : List (Nat × AVal) → List (Nat × AVal)
  | [] => []
  | (d, v) :: r => (d, dropV k v) :: dropE k r

def dropB (k : Nat) : Blk → Blk
  | .box cs => .box (dropL k cs)
  | .row s n el ow => .row s n el ow
  | .mp q has val => .mp q has val
  | .mat n m el => .mat n m el

def dropH (k : Nat) : List Blk → List Blk
  | [] => []
  | b :: r => dropB k b :: dropH k r

/-- the state behind an append to row k -/
def grown (st : St) (dst : Option Nat) (k sz n m : Nat) (el el2 : Nat → Nat → PV) (ow ow2 : Nat → Nat → Bool) : St :=
  St.put ⟨st.nt, dropE k st.env, setBlkL (dropH k st.heap) k (.row sz (n + m) (appEl n el el2) fun i j => bif Nat.blt i n then ow i j else ow2 (i - n) j), st.nb, st.pin⟩ dst (.arr k sz 0 (n + m))

def appendRowOp (T : Tab) (st : St) (dst : Option Nat) (ts : Array TypeId) (s x : Operand) (K : St → Prop) : Prop :=
  match (ts[0]?).bind T.f, (ts[1]?).bind T.f, ev st.env s with
  | some ⟨.slice e, _, _, _⟩, some ⟨.slice _, _, _, _⟩, .arr k sz off n =>
    match T e, nth st.heap k with
    | some te, some (.row s' n' el ow) =>
      need (Nat.beq sz te.size && (Nat.beq s' te.size && (Nat.beq off 0 && ((avalOf te.zero).told && (Nat.beq (avalOf te.zero).cells.length te.size && (Nat.ble 1 te.size && Nat.ble st.nb k)))))) <|
      match ev st.env x with
      | .pv _ (.lst sz2 _ m el2) => need (Nat.beq sz2 te.size || Nat.beq m 0) <| cnd T.conc (n' = n ∧ n + m ≤ 2 ^ 47 ∧ (n + m) * te.bytes ≤ 2 ^ 47) <| K (grown st dst k te.size n m el el2 ow fun _ _ => false)
      | .arr k2 sz2 off2 m =>
        match nth st.heap k2 with
        | some (.row s2 m2 el2 ow2) => need (!Nat.beq k2 k && (Nat.beq sz2 te.size && (Nat.beq s2 te.size && Nat.beq off2 0))) <| cnd T.conc (n' = n ∧ m2 = m ∧ n + m ≤ 2 ^ 47 ∧ (n + m) * te.bytes ≤ 2 ^ 47) <|
            K (grown { st with heap := setBlkL st.heap k2 (.row s2 m2 el2 fun _ _ => false) } dst k te.size n m el el2 ow ow2)
        | _ => False
      | _ => False
    | _, _ => False
  | _, _, _ => False

/-- a list is taken out of a cell -/
def takeLoadOp (T : Tab) (st : St) (dst : Option Nat) (t : TypeId) (a : AVal) (K : St → Prop) : Prop :=
  match T t, a, dst with
  | some ti, .ptr k sz i j, some d =>
    need (!isAgg ti.desc) <|
    match nth st.heap k with
    | some (.box cs) =>
      match nth cs (i * sz + j) with
      | some (.pv true p) => K (St.put { st with heap := setBlkL st.heap k (.box (setNth cs (i * sz + j) (.pv false p))) } (some d) (.pv true p))
      | _ => False
    | some (.row s n el ow) => need (Nat.beq sz s && (Nat.blt j s && ow i j)) <| cnd T.conc (i < n) <|
        K (St.put { st with heap := setBlkL st.heap k (.row s n el fun a b => bif Nat.beq a i && Nat.beq b j then false else ow a b) } (some d) (.pv true (el i j)))
    | _ => False
  | _, _, _ => False

/-- a list that may grow, cut from the front: it may still grow -/
def sliceOwnOp (T : Tab) (st : St) (dst : Option Nat) (t : TypeId) (s : Operand) (lo : Option Operand) (K : St → Prop) : Prop :=
  match T t, s, dst with
  | some ⟨.slice e, _, _, _⟩, .tmp x, some d =>
    match elemSize T e, get st.env x with
    | some z, .pv true (.lst sz nf n el) =>
      boundK (lo.map (ev st.env)) 0 fun l => need (Nat.beq sz z) (cnd T.conc (0 ≤ l ∧ l ≤ (n : Int)) <|
        K (St.put { st with env := (x, .pv false (.lst sz nf n el)) :: st.env } (some d) (.pv true (.lst sz .any (n - l.toNat) fun i j => el (l.toNat + i) j))))
    | _, _ => False
  | _, _, _ => False

/-- a slice of one element that is handed over: a row of the call's own -/
def buildOwnOp (T : Tab) (st : St) (dst : Option Nat) (t : TypeId) (len : Nat) (ps : List (Nat × Operand)) (K : St → Prop) : Prop :=
  match T t, ps with
  | some ⟨.slice e, _, _, _⟩, [(0, .tmp s)] =>
    match T e, get st.env s with
    | some te, .pv true p => need (Nat.beq len 1 && (Nat.beq te.size 1 && ((avalOf te.zero).told && Nat.beq (avalOf te.zero).cells.length 1))) <|
        K (St.put { st with env := (s, .pv false p) :: st.env, heap := st.heap ++ [.row 1 1 (fun _ _ => p) fun _ _ => true] } dst (.arr st.heap.length 1 0 1))
    | _, _ => False
  | _, _ => False

/-- a row that is appended to nothing: a new row, with what the other one's cells own -/
def appendNewOp (T : Tab) (st : St) (dst : Option Nat) (ts : Array TypeId) (s x : Operand) (K : St → Prop) : Prop :=
  match (ts[0]?).bind T.f, (ts[1]?).bind T.f, ev st.env s, ev st.env x with
  | some ⟨.slice e, _, _, _⟩, some ⟨.slice _, _, _, _⟩, .pv _ (.lst _ nf 0 _), .arr k2 sz2 off2 m =>
    match T e, nth st.heap k2 with
    | some te, some (.row s2 m2 el2 ow2) => need ((decide (nf = .isNil) || (decide (nf = .full) || decide (nf = .fullAny))) && (Nat.beq sz2 te.size && (Nat.beq s2 te.size && (Nat.beq off2 0 && ((avalOf te.zero).told && (Nat.beq (avalOf te.zero).cells.length te.size && Nat.ble 1 te.size)))))) <|
        cnd T.conc (m2 = m ∧ m ≤ 2 ^ 47 ∧ m * te.bytes ≤ 2 ^ 47) <|
        K (St.put { st with heap := setBlkL st.heap k2 (.row s2 m2 el2 fun _ _ => false) ++ [.row te.size m el2 ow2] } dst (.arr st.heap.length te.size 0 m))
    | _, _ => False
  | _, _, _, _ => False

section
variable {P : Program} {T : Tab} {C : Nat → Shape} {fg : Nat} {w : World} {O : Nat → Own} {ad : List Nat} {st : St} {a : Act} {o : Oper} {Q : Exit → Act → World → Prop} {K : St → Prop}

theorem length_dropL {k : Nat} : ∀ {l : List AVal}, (dropL k l).length = l.length
  | [] => rfl
  | _ :: r => by simp [dropL, length_dropL]

theorem nth_dropL {k : Nat} : ∀ {l : List AVal} {i : Nat} {x : AVal}, nth (dropL k l) i = some x → ∃ y, nth l i = some y ∧ x = dropV k y
  | [], _, _, h => by simp [dropL, nth] at h
  | y :: r, 0, x, h => by simp [dropL, nth] at h; exact ⟨y, rfl, h.symm⟩
  | y :: r, i + 1, x, h => by simp only [dropL, nth] at h; exact nth_dropL (l := r) (i := i) h

mutual
theorem okV_drop {k : Nat} : ∀ (x : AVal), okV (fun k' => !Nat.beq k' k) (dropV k x) = true
  | .ptr k' .. => by unfold dropV; cases h : Nat.beq k' k <;> simp [okV, h]
  | .arr k' .. => by unfold dropV; cases h : Nat.beq k' k <;> simp [okV, h]
  | .mref k' => by unfold dropV; cases h : Nat.beq k' k <;> simp [okV, h]
  | .sub k' .. => by unfold dropV; cases h : Nat.beq k' k <;> simp [okV, h]
  | .psub k' .. => by unfold dropV; cases h : Nat.beq k' k <;> simp [okV, h]
  | .agg cs => by simp only [dropV, okV, okL_drop cs]
  | .fn _ cs => by simp only [dropV, okV, okL_drop cs]
  | .tup cs => by simp only [dropV, okV, okL_drop cs]
  | .pv .. => rfl
  | .av .. => rfl
  | .undef => rfl
theorem okL_drop {k : Nat} : ∀ (l : List AVal), okL (fun k' => !Nat.beq k' k) (dropL k l) = true
  | [] => rfl
  | x :: r => by simp only [dropL, okL, okV_drop x, okL_drop r, Bool.and_self]
end

theorem VRel.drop {k : Nat} {p : Pos} {x : AVal} {v : Value} (h : VRel w O ad p x v) : VRel w O ad p (dropV k x) v := by
  induction h with
  | pv h => exact .pv h
  | own h ho => exact .own h ho
  | @ptr p k' s i j B h => unfold dropV; cases Nat.beq k' k; exact .ptr h; exact .undef _
  | @arrE p k' s o c v h hv => unfold dropV; cases Nat.beq k' k; exact .arrE h hv; exact .undef _
  | @arr p k' s o n B cap h hc hr => unfold dropV; cases Nat.beq k' k; exact .arr h hc hr; exact .undef _
  | @mref p k' B h => unfold dropV; cases Nat.beq k' k; exact .mref h; exact .undef _
  | @subE p k' i c v ha hv => unfold dropV; cases Nat.beq k' k; exact .subE ha hv; exact .undef _
  | @sub p k' i n B cap c ha h hc => unfold dropV; cases Nat.beq k' k; exact .sub ha h hc; exact .undef _
  | @psub p k' i j B c ha h => unfold dropV; cases Nat.beq k' k; exact .psub ha h; exact .undef _
  | fn a hs hr ih =>
    refine .fn a (by rw [length_dropL]; exact hs) (fun i x hx => ?_)
    obtain ⟨y, hy, rfl⟩ := nth_dropL hx
    exact ih i y hy
  | agg a hs hr ih =>
    refine .agg a (by rw [length_dropL]; exact hs) (fun i x hx => ?_)
    obtain ⟨y, hy, rfl⟩ := nth_dropL hx
    exact ih i y hy
  | av a hs hr => exact .av a hs hr
  | tup a hs hr ih =>
    refine .tup a (by rw [length_dropL]; exact hs) (fun i x hx => ?_)
    obtain ⟨y, hy, rfl⟩ := nth_dropL hx
    exact ih i y hy
  | undef v => exact .undef v

theorem BlkRel.drop {k k' : Nat} {arr : Array Value} {b : Blk} (h : BlkRel w O ad k' arr b) : BlkRel w O ad k' arr (dropB k b) := by
  cases b with
  | box cs =>
    refine ⟨by rw [length_dropL]; exact h.1, fun i x hx => ?_⟩
    obtain ⟨y, hy, rfl⟩ := nth_dropL hx
    exact (h.2 i y hy).drop
  | row sz n el ow => exact h
  | mp q has val => exact h
  | mat n m el => exact h

theorem ObjRel.drop {k k' : Nat} {x : Obj} {b : Blk} (h : ObjRel w O ad k' x b) : ObjRel w O ad k' x (dropB k b) := by
  cases x with
  | cells arr ty fz =>
    have h' : fz = (0, 0) ∧ BlkRel w O ad k' arr b := by cases b <;> exact h
    have := h'.2.drop (k := k)
    cases b <;> exact ⟨h'.1, this⟩
  | map es c => cases b <;> exact h
  | _ => cases b <;> exact h.elim

theorem get_dropE {k : Nat} : ∀ (e : List (Nat × AVal)) (d : Nat), get (dropE k e) d = dropV k (get e d)
  | [], d => rfl
  | (t, v) :: r, d => by
    simp only [dropE, get]
    cases Nat.beq t d with
    | true => rfl
    | false => exact get_dropE r d

theorem length_dropH {k : Nat} : ∀ (H : List Blk), (dropH k H).length = H.length
  | [] => rfl
  | _ :: r => by simp [dropH, length_dropH r]

theorem nth_dropH {k : Nat} : ∀ {H : List Blk} {i : Nat} {b : Blk}, nth (dropH k H) i = some b → ∃ c, nth H i = some c ∧ b = dropB k c
  | [], _, _, h => by simp [dropH, nth] at h
  | c :: r, 0, b, h => by simp [dropH, nth] at h; exact ⟨c, rfl, h.symm⟩
  | c :: r, i + 1, b, h => by simp only [dropH, nth] at h; exact nth_dropH (H := r) (i := i) h

theorem dropB_ghost {k : Nat} {b : Blk} : (dropB k b).ghost ↔ b.ghost := by cases b <;> exact Iff.rfl

/-- forgetting -/
theorem Sat.drop (hS : Sat st a w O ad) (k : Nat) : Sat ⟨st.nt, dropE k st.env, dropH k st.heap, st.nb, st.pin⟩ a w O ad := by
  refine ⟨⟨hS.env.1, fun d => ?_⟩, fun i b hb => ?_, by rw [hS.len, length_dropH], hS.pin, hS.dn, hS.fresh⟩
  · show VRel w O ad (.tmp d) (get (dropE k st.env) d) _
    rw [get_dropE]; exact (hS.env.2 d).drop
  · obtain ⟨c, hc, rfl⟩ := nth_dropH hb
    obtain ⟨d, h1, ⟨h2, hg⟩ | ⟨B, x, rfl, h2, h3, h4⟩⟩ := hS.heap i c hc
    · exact ⟨d, h1, .inl ⟨h2, dropB_ghost.2 hg⟩⟩
    · exact ⟨B + 1, h1, .inr ⟨B, x, rfl, h2, h3, h4.drop⟩⟩

theorem dropH_set {k : Nat} {s n : Nat} {el : Nat → Nat → PV} {ow : Nat → Nat → Bool} : ∀ (H : List Blk) (i : Nat), dropH k (H.set i (.row s n el ow)) = (dropH k H).set i (.row s n el ow)
  | [], _ => rfl
  | b :: r, 0 => rfl
  | b :: r, i + 1 => by simp only [List.set_cons_succ, dropH, dropH_set r i]

/-- the block that was there is given up -/
def gv (O : Nat → Own) (c : Nat) : Nat → Own := fun B => if B + 1 = c then .free else O B

/-- A row moves to a new block (or gets its first one). -/
theorem Sat.moved (hS : Sat st a w O ad) {k c : Nat} {b b' : Blk} (hk : nth st.heap k = some b) (hB : nth ad k = some c) (hO : ∀ B, B + 1 = c → O B = .blk k) (hnb : st.nb ≤ k) {arr' : Array Value} {ty : TypeId}
    (hb : ∀ (h : Step w O (World.push w arr' ty) (upd (gv O c) w.heap.size (.blk k))), (∀ p, KeptAt w O (World.push w arr' ty) (upd (gv O c) w.heap.size (.blk k)) p) → InnK O (upd (gv O c) w.heap.size (.blk k)) →
      BlkRel (World.push w arr' ty) (upd (gv O c) w.heap.size (.blk k)) (ad.set k (w.heap.size + 1)) k arr' b') :
    Step w O (World.push w arr' ty) (upd (gv O c) w.heap.size (.blk k)) ∧
      Sat ⟨st.nt, dropE k st.env, (dropH k st.heap).set k b', st.nb, st.pin⟩ a (World.push w arr' ty) (upd (gv O c) w.heap.size (.blk k)) (ad.set k (w.heap.size + 1)) := by
  have hne : ∀ C, C < w.heap.size → C + 1 ≠ c → upd (gv O c) w.heap.size (.blk k) C = O C := fun C h1 h2 => by rw [upd_ne _ _ (by omega)]; simp [gv, h2]
  have hst : Step w O (World.push w arr' ty) (upd (gv O c) w.heap.size (.blk k)) := by
    refine ⟨fun C arr2 ty2 fz hC => ⟨arr2, by rw [push_lt w arr' ty (Array.getElem?_eq_some_iff.1 hC).1]; exact hC, rfl⟩, rfl, rfl, rfl, by rw [push_size]; omega, fun C q hC hi => ⟨?_, by simp only [World.cell?, push_lt w arr' ty hC]⟩, fun C hC hf => ⟨?_, push_lt w arr' ty hC⟩, fun C hC hj => ?_⟩
    · by_cases e : C + 1 = c
      · simp [im, hO C e] at hi
      · unfold im at hi ⊢; rw [hne C hC e]; exact hi
    · refine hne C hC ?_
      intro e; rw [hO C e] at hf; exact hf.elim
    · by_cases e : C + 1 = c
      · exact .inr (by rw [upd_ne _ _ (by omega)]; simp [gv, e, Own.fixed])
      · exact .inl (by rw [hne C hC e]; exact hj)
  have hka : ∀ p, KeptAt w O (World.push w arr' ty) (upd (gv O c) w.heap.size (.blk k)) p := fun p => ⟨fun q C fill _ _ hC => by
    have hlt : C < w.heap.size := hS.fresh.lt (by rw [hC]; simp)
    exact ⟨by rw [hne C hlt (by intro e; rw [hO C e] at hC; simp at hC)]; exact hC, push_lt w arr' ty hlt⟩, fun _ _ _ i C _ hC => by
    have hlt : C < w.heap.size := hS.fresh.lt (by rw [hC]; simp)
    exact ⟨by rw [hne C hlt (by intro e; rw [hO C e] at hC; simp at hC)]; exact hC, push_lt w arr' ty hlt⟩⟩
  have hin : InnK O (upd (gv O c) w.heap.size (.blk k)) := fun C k' i hC => by
    have hlt : C < w.heap.size := hS.fresh.lt (by rw [hC]; simp)
    rw [hne C hlt (by intro e; rw [hO C e] at hC; simp at hC)]; exact hC
  have hkl : k < ad.length := nth_lt hB
  have had : ∀ k' B', (!Nat.beq k' k) = true → nth ad k' = some B' → nth (ad.set k (w.heap.size + 1)) k' = some B' := fun k' B' h1 h2 => by
    have hne : k' ≠ k := fun e => by subst e; simp at h1
    rw [nth_set _ _ _ _ hkl, if_neg hne]; exact h2
  have hv : ∀ {p : Pos} {x : AVal} {v : Value}, VRel w O ad p x v → VRel (World.push w arr' ty) (upd (gv O c) w.heap.size (.blk k)) (ad.set k (w.heap.size + 1)) p (dropV k x) v := fun {p x v} h => by
    have h1 := (h.drop (k := k)).renum (g := fun k => k) (ok := fun k' => !Nat.beq k' k) (ad' := ad.set k (w.heap.size + 1)) (O' := O) (fun B o _ hi => hi) had p (fun hn => ⟨hn, fun _ _ h => h⟩) (fun i hn => ⟨hn, fun _ _ h => h⟩) (okV_drop x) (.inl fun _ _ _ _ _ _ h => h)
    rw [renV_id] at h1
    exact h1.step hst hin (fun _ _ h => h) (hka _)
  refine ⟨hst, ⟨hS.env.1, fun d => ?_⟩, fun i c0 hc => ?_, by simp [hS.len, length_dropH], fun k' hk' => ?_, hS.dn, ⟨fun C hC => ?_, fun C C' j i h1 h2 => ?_⟩⟩
  · show VRel _ _ _ (.tmp d) (get (dropE k st.env) d) _
    rw [get_dropE]; exact hv (hS.env.2 d)
  · have hkl' : k < (dropH k st.heap).length := by rw [length_dropH]; exact nth_lt hk
    have hc : nth ((dropH k st.heap).set k b') i = some c0 := hc
    rw [nth_set _ _ _ _ hkl'] at hc
    by_cases e : i = k
    · subst e
      rw [if_pos rfl] at hc
      obtain rfl := Option.some.inj hc
      refine ⟨w.heap.size + 1, by rw [nth_set _ _ _ _ hkl, if_pos rfl], .inr ⟨w.heap.size, .cells arr' ty (0, 0), rfl, upd_same _ _ _, push_at w arr' ty, ?_⟩⟩
      have := hb hst hka hin
      cases b' <;> exact ⟨rfl, this⟩
    · rw [if_neg e] at hc
      obtain ⟨c1, hc0, rfl⟩ := nth_dropH hc
      obtain ⟨d, h1, ⟨h2, hg⟩ | ⟨B2, x, rfl, h2, h3, h4⟩⟩ := hS.heap i c1 hc0
      · exact ⟨d, by rw [nth_set _ _ _ _ hkl, if_neg e]; exact h1, .inl ⟨h2, dropB_ghost.2 hg⟩⟩
      have hlt : B2 < w.heap.size := (Array.getElem?_eq_some_iff.1 h3).1
      have hB2 : B2 + 1 ≠ c := by intro e2; have := hO B2 e2; rw [h2] at this; simp at this; exact e this
      refine ⟨B2 + 1, by rw [nth_set _ _ _ _ hkl, if_neg e]; exact h1, .inr ⟨B2, x, rfl, by rw [hne B2 hlt hB2]; exact h2, (push_lt w arr' ty hlt).trans h3, ?_⟩⟩
      cases x with
      | cells arr2 ty2 fz =>
        have h' : fz = (0, 0) ∧ BlkRel w O ad i arr2 c1 := by cases c1 <;> exact h4
        have : BlkRel (World.push w arr' ty) (upd (gv O c) w.heap.size (.blk k)) (ad.set k (w.heap.size + 1)) i arr2 (dropB k c1) := by
          cases c1 with
          | box cs =>
            refine ⟨by rw [length_dropL]; exact h'.2.1, fun q y hy => ?_⟩
            obtain ⟨z, hz, rfl⟩ := nth_dropL hy
            exact hv (h'.2.2 q z hz)
          | row sz n el ow => exact ⟨h'.2.1, fun q hq j hj => hv (h'.2.2 q hq j hj)⟩
          | mp q has val => exact h'.2.elim
          | mat n m el => exact ⟨h'.2.1, fun q hq => (h'.2.2 q hq).step hst fun B hB => (hka (.cell i 0 0)).inn i 0 0 q B rfl hB⟩
        cases c1 <;> exact ⟨h'.1, this⟩
      | map es c =>
        cases c1 with
        | mp q has val => exact ⟨h4.ok, h4.apart, h4.has, fun e he => (h4.val e he).step hst hin (fun _ _ h => h) .no⟩
        | _ => exact h4.elim
      | _ => cases c1 <;> exact h4.elim
  · have hk' : k' < st.nb := hk'
    rw [nth_set _ _ _ _ hkl, if_neg (by omega)]; exact hS.pin k' hk'
  · rw [push_size] at hC
    rw [upd_ne _ _ (by omega)]
    unfold gv
    split
    · rfl
    · exact hS.fresh.fr C (by omega)
  · have bk : ∀ D, upd (gv O c) w.heap.size (.blk k) D = .inn j i → O D = .inn j i := fun D h => by
      by_cases e : D = w.heap.size
      · subst e; rw [upd_same] at h; simp at h
      · rw [upd_ne _ _ e] at h
        unfold gv at h
        split at h
        · simp at h
        · exact h
    exact hS.fresh.uni _ _ _ _ (bk _ h1) (bk _ h2)

/-- An empty row is told anew. -/
theorem Sat.row0 (hS : Sat st a w O ad) {k s s' : Nat} {el el' : Nat → Nat → PV} {ow ow' : Nat → Nat → Bool} (hk : nth st.heap k = some (.row s 0 el ow)) :
    Sat { st with heap := st.heap.set k (.row s' 0 el' ow') } a w O ad := by
  refine ⟨hS.env, fun i c hc => ?_, by simp [hS.len], hS.pin, hS.dn, hS.fresh⟩
  have hc : nth (st.heap.set k (.row s' 0 el' ow')) i = some c := hc
  rw [nth_set _ _ _ _ (nth_lt hk)] at hc
  by_cases e : i = k
  · subst e
    rw [if_pos rfl] at hc
    obtain rfl := Option.some.inj hc
    obtain ⟨d, h1, ⟨h2, hg⟩ | ⟨B, x, rfl, h2, h3, h4⟩⟩ := hS.heap i _ hk
    · exact ⟨d, h1, .inl ⟨h2, rfl⟩⟩
    · refine ⟨B + 1, h1, .inr ⟨B, x, rfl, h2, h3, ?_⟩⟩
      cases x with
      | cells arr ty fz => exact ⟨h4.1, by simp, fun i hi => by omega⟩
      | _ => exact h4.elim
  · rw [if_neg e] at hc
    exact hS.heap i c hc

/-- A row is told in other words. -/
theorem Sat.rowEq (hS : Sat st a w O ad) {k s m : Nat} {el el' : Nat → Nat → PV} {ow ow' : Nat → Nat → Bool} (hk : nth st.heap k = some (.row s m el ow)) (he : ∀ i j, el' i j = el i j ∧ ow' i j = ow i j) :
    Sat { st with heap := st.heap.set k (.row s m el' ow') } a w O ad := by
  have e1 : el' = el := funext fun i => funext fun j => (he i j).1
  have e2 : ow' = ow := funext fun i => funext fun j => (he i j).2
  subst e1 e2
  have : st.heap.set k (.row s m el' ow') = st.heap := by
    rw [nth_eq] at hk
    apply List.ext_getElem?
    intro i
    by_cases e : k = i
    · subst e
      have hl := (List.getElem?_eq_some_iff.1 hk).1
      rw [List.getElem?_set_self hl, hk]
    · rw [List.getElem?_set_ne e]
  rw [this]; exact hS

/-- the cells of a row -/
theorem rowCells_run {B size n : Nat} {arr : Array Value} {ty : TypeId} (hw : w.heap[B]? = some (.cells arr ty (0, 0))) (hs : n * size ≤ arr.size) (cap : Nat) :
    ∃ xa : Array Value, (∀ w' : World, w'.heap = w.heap → (Builtin.firstCells size n (.slice (some ⟨B, 0, none⟩) n cap)).run P w' = .ok xa w') ∧ xa.size = n * size ∧ ∀ q, q < n * size → xa.getD q undef = arr.getD q undef := by
  refine ⟨((List.range (n * size)).map fun q => arr.getD q undef).toArray, fun w' hw' => run_loadCells (f := fun q => arr.getD q undef) (fun q hq => ?_), by simp, fun q hq => getD_map_range _ hq⟩
  have : w'.heap[B]? = some (.cells arr ty (0, 0)) := by rw [hw']; exact hw
  rw [Nat.zero_add]
  exact cell_of_block' this (by omega)

theorem OpOkC.value {rv : Value} {w' : World} {st' : St} {O' : Nat → Own} {ad' : List Nat} (hrun : (execOp a.eval o).run P w = .ok (.value rv) w') (hk : K st')
    (hs : Sat st' (a.put o.dst rv) w' O' ad') (hst : Step w O w' O') (hstore : isStoreC C fg o.op = true) : OpOkC P C fg o a w O Q K := by
  unfold OpOkC Oper.wp
  rw [hrun]
  exact ⟨st', O', ad', hk, hs, hst, fun h => by rw [hstore] at h; simp at h⟩

/-- an append to a row, whatever comes behind it -/
theorem appendRow_core (hT : TabOk P T) (hS : Sat st a w O ad) (hd : okDst st o.dst = true) {ts : Array TypeId} {s x : Operand} (ho : o.op = .call ⟨.builtin .append, #[s, x], ts⟩)
    {ty t2 e e2 : TypeId} {s1 s2 s1' s2' : Nat} {s3 s3' : Value} (h0 : ts[0]? = some ty) (ht : T ty = some ⟨.slice e, s1, s2, s3⟩) (h1 : ts[1]? = some t2) (ht2 : T t2 = some ⟨.slice e2, s1', s2', s3'⟩) {te : TI} (hte : T e = some te)
    {k n m cap B : Nat} {el el2 : Nat → Nat → PV} {ow ow2 : Nat → Nat → Bool} (hk : nth st.heap k = some (.row te.size n el ow)) (hB : nth ad k = some (B + 1)) (hsv : a.eval s = .slice (some ⟨B, 0, none⟩) n cap) (hcap : n ≤ cap) (hroom : RoomAt w B (cap * te.size))
    (hnb : st.nb ≤ k) (htold : (avalOf te.zero).told = true) (hzl : (avalOf te.zero).cells.length = te.size) (hb1 : n + m ≤ 2 ^ 47) (hb2 : (n + m) * te.bytes ≤ 2 ^ 47)
    (hlen : ∀ w, (Builtin.lenOf (a.eval x)).run P w = .ok m w) {xa : Array Value} (x1 : ∀ w' : World, w'.heap = w.heap → (Builtin.firstCells te.size m (a.eval x)).run P w' = .ok xa w') (x2 : xa.size = m * te.size)
    (x3 : ∀ i, i < m → ∀ j, j < te.size → VRel w O ad (.cell k (n + i) j) (.pv (ow2 i j) (el2 i j)) (xa.getD (i * te.size + j) undef)) (x5 : ∀ u ∈ xa.toList, oneC u = true)
    (hstore : isStoreC C fg o.op = true) (h : K (grown st o.dst k te.size n m el el2 ow ow2)) : OpOkC P C fg o a w O Q K := by
  obtain ⟨B', arr, ety, g1, g2, g3, g4, g5⟩ := hS.heap.cellsB hk rfl hB
  obtain rfl := g1
  have hz := told_cells (w := w) (O := O) (ad := ad) htold
  have hzs : te.zero.cells.size = te.size := by rw [hz.1, hzl]
  have hrunop : ∀ {rv w'}, (Builtin.append_ ts o.type #[a.eval s, a.eval x]).run P w = .ok rv w' → (execOp a.eval o).run P w = .ok (.value rv) w' := by
    intro rv w' hr
    unfold execOp
    simp only [ho, resolve, run_bind, run_pure, invoke, builtin]
    have : #[s, x].map a.eval = #[a.eval s, a.eval x] := by simp
    rw [this, hr]
  -- the cells of the longer row
  have rel : ∀ (arr' : Array Value), (∀ q, q < n * te.size → arr'.getD q undef = arr.getD q undef) → (∀ q, q < m * te.size → arr'.getD (n * te.size + q) undef = xa.getD q undef) →
      ∀ i, i < n + m → ∀ j, j < te.size → VRel w O ad (.cell k i j) (.pv (bif Nat.blt i n then ow i j else ow2 (i - n) j) (appEl n el el2 i j)) (arr'.getD (i * te.size + j) undef) := by
    intro arr' c1 c2 i hi j hj
    by_cases c : i < n
    · have hb : Nat.blt i n = true := Nat.ble_eq_true_of_le c
      simp only [appEl, hb, cond_true]
      rw [c1 _ (idx_lt c hj)]
      exact g5 i c j hj
    · have hb : Nat.blt i n = false := Bool.eq_false_iff.2 fun h => c (Nat.le_of_ble_eq_true h)
      simp only [appEl, hb, cond_false]
      have hi2 : i - n < m := by omega
      have e1 : i * te.size + j = n * te.size + ((i - n) * te.size + j) := by
        rw [← Nat.add_assoc, ← Nat.add_mul]; congr 2; omega
      rw [e1, c2 _ (idx_lt hi2 hj)]
      have := x3 (i - n) hi2 j hj
      rwa [show n + (i - n) = i by omega] at this
  by_cases hfit : n + m ≤ cap
  · -- in place
    have hroom' : cap * te.size ≤ arr.size := by
      obtain ⟨a2, t2', fz, r1, r2⟩ := hroom
      rw [g3] at r1; cases r1; exact r2
    have hle : n * te.size + m * te.size ≤ arr.size := by
      rw [← Nat.add_mul]; exact Nat.le_trans (Nat.mul_le_mul_right _ hfit) hroom'
    obtain ⟨arr', r1, r2, r3⟩ := run_storeCells (P := P) (B := B) (o := n * te.size) (ty := ety) xa.toList 0 arr w g3 (by simp [x2]; omega) x5
    have hrun := append_fits_run (P := P) (rt := o.type) hT h0 ht h1 ht2 hte (base := some ⟨B, 0, none⟩) (n := n) (cap := cap) (m := m) (xv := a.eval x) hfit hlen (x1 w rfl) (w' := World.setBlk w B arr' ety)
      (fun c hc => by obtain rfl := Option.some.inj hc; rw [add_none, Nat.zero_add]; exact r1) (by simp)
    rw [← hsv] at hrun
    have c1 : ∀ q, q < n * te.size → arr'.getD q undef = arr.getD q undef := fun q hq => by rw [r3 q, if_neg (by omega)]
    have c2 : ∀ q, q < m * te.size → arr'.getD (n * te.size + q) undef = xa.getD q undef := fun q hq => by
      rw [r3 _, if_pos (by simp [x2]; omega), getD_list]; congr 1; omega
    obtain ⟨s1, s2⟩ := hS.store (arr' := arr') (b' := .row te.size (n + m) (appEl n el el2) fun i j => bif Nat.blt i n then ow i j else ow2 (i - n) j) hk hB g2 g3 r2 ⟨by rw [Nat.add_mul, r2]; exact hle, rel arr' c1 c2⟩
    have s3 := s2.drop k
    have e : dropH k (st.heap.set k (.row te.size (n + m) (appEl n el el2) fun i j => bif Nat.blt i n then ow i j else ow2 (i - n) j)) = setBlkL (dropH k st.heap) k (.row te.size (n + m) (appEl n el el2) fun i j => bif Nat.blt i n then ow i j else ow2 (i - n) j) := by
      rw [dropH_set, setBlkL_eq]
    simp only [e] at s3
    refine .value (ad' := ad) (hrunop hrun) h (s3.put (x := .arr k te.size 0 (n + m)) (by cases hdd : o.dst <;> simp_all [okDst]) fun _ => ?_) s1 hstore
    have := VRel.arr (w := World.setBlk w B arr' ety) (O := O) (p := dpos o.dst) (ad := ad) (k := k) (sz := te.size) (off := 0) (n := n + m) (cap := cap) hB hfit ⟨arr', ety, (0, 0), setBlk_at g3, by rw [Nat.zero_add, r2]; exact hroom'⟩
    simpa using this
  · -- a new block
    obtain ⟨sa, y1, y2, y3⟩ := rowCells_run (P := P) g3 g4 cap
    obtain ⟨newCap, dk, hnc, hrun⟩ := append_grows_run (P := P) (rt := o.type) (w := w) hT h0 ht h1 ht2 hte (base := some ⟨B, 0, none⟩) (n := n) (cap := cap) (m := m) (by omega) hlen hb1 hb2 (fun k => y1 _ rfl) (fun k => x1 _ rfl)
    rw [← hsv] at hrun
    have hS' := hS.drawn dk
    have hsize : (sa ++ xa ++ Builtin.zeroCells te.zero.cells (newCap - (n + m))).size = newCap * te.size := by
      rw [Array.size_append, Array.size_append, zeroCells_size, y2, x2, hzs, ← Nat.add_mul, ← Nat.add_mul]
      congr 1; omega
    have c1 : ∀ q, q < n * te.size → (sa ++ xa ++ Builtin.zeroCells te.zero.cells (newCap - (n + m))).getD q undef = arr.getD q undef := fun q hq => by
      rw [getD_append3, if_pos (by omega)]; exact y3 q hq
    have c2 : ∀ q, q < m * te.size → (sa ++ xa ++ Builtin.zeroCells te.zero.cells (newCap - (n + m))).getD (n * te.size + q) undef = xa.getD q undef := fun q hq => by
      rw [getD_append3, if_neg (by omega), if_pos (by omega)]; congr 1; omega
    have hdr := (drawn_step w O dk).1
    obtain ⟨s1, s2⟩ := hS'.moved (arr' := sa ++ xa ++ Builtin.zeroCells te.zero.cells (newCap - (n + m))) (ty := e) (b' := .row te.size (n + m) (appEl n el el2) fun i j => bif Nat.blt i n then ow i j else ow2 (i - n) j) hk hB (fun B' e => (show B' = B by omega) ▸ g2) hnb (fun hst hka hin =>
      ⟨by rw [hsize]; exact Nat.mul_le_mul_right _ hnc, fun i hi j hj => by
        have r := rel _ c1 c2 i hi j hj
        have r := r.step hdr (InnK.refl _) (fun _ _ h => h) ((drawn_step w O dk).2.at hS.fresh _)
        have r := r.step (ad' := ad) hst hin (fun _ _ h => h) (hka _)
        exact r.chgA rfl⟩)
    have e3 : (dropH k st.heap).set k (.row te.size (n + m) (appEl n el el2) fun i j => bif Nat.blt i n then ow i j else ow2 (i - n) j) = setBlkL (dropH k st.heap) k (.row te.size (n + m) (appEl n el el2) fun i j => bif Nat.blt i n then ow i j else ow2 (i - n) j) := by
      rw [setBlkL_eq]
    rw [e3] at s2
    refine .value (ad' := ad.set k (w.heap.size + 1)) (hrunop hrun) h (s2.put (x := .arr k te.size 0 (n + m)) (by cases hdd : o.dst <;> simp_all [okDst]) fun _ => ?_) (hdr.trans s1) hstore
    have := VRel.arr (w := World.push { w with drawn := dk } (sa ++ xa ++ Builtin.zeroCells te.zero.cells (newCap - (n + m))) e) (O := upd (gv O (B + 1)) w.heap.size (.blk k)) (p := dpos o.dst) (ad := ad.set k (w.heap.size + 1)) (k := k) (B := w.heap.size)
      (sz := te.size) (off := 0) (n := n + m) (cap := newCap) (by rw [nth_set _ _ _ _ (nth_lt hB), if_pos rfl]) hnc ⟨_, e, (0, 0), push_at _ _ _, by rw [Nat.zero_add, hsize]; exact Nat.le_refl _⟩
    simpa using this

theorem nth_dropH' {k i : Nat} : ∀ {H : List Blk} {c : Blk}, nth H i = some c → nth (dropH k H) i = some (dropB k c)
  | [], c, h => by simp [nth] at h
  | b :: r, c, h => by
    cases i with
    | zero => simp [nth] at h; subst h; simp [dropH, nth]
    | succ i => simp only [dropH, nth] at h ⊢; exact nth_dropH' h

/-- an append to an empty row behind which there is no room -/
theorem appendRow_core0 (hT : TabOk P T) (hS : Sat st a w O ad) (hd : okDst st o.dst = true) {ts : Array TypeId} {s x : Operand} (ho : o.op = .call ⟨.builtin .append, #[s, x], ts⟩)
    {ty t2 e e2 : TypeId} {s1 s2 s1' s2' : Nat} {s3 s3' : Value} (h0 : ts[0]? = some ty) (ht : T ty = some ⟨.slice e, s1, s2, s3⟩) (h1 : ts[1]? = some t2) (ht2 : T t2 = some ⟨.slice e2, s1', s2', s3'⟩) {te : TI} (hte : T e = some te)
    {k m c : Nat} {base : Option Addr} {el el2 : Nat → Nat → PV} {ow ow2 : Nat → Nat → Bool} (hk : nth st.heap k = some (.row te.size 0 el ow)) (hc : nth ad k = some c) (hsv : a.eval s = .slice base 0 0)
    (hnb : st.nb ≤ k) (htold : (avalOf te.zero).told = true) (hzl : (avalOf te.zero).cells.length = te.size) (hb1 : 0 + m ≤ 2 ^ 47) (hb2 : (0 + m) * te.bytes ≤ 2 ^ 47)
    (hlen : ∀ w, (Builtin.lenOf (a.eval x)).run P w = .ok m w) {xa : Array Value} (x1 : ∀ w' : World, w'.heap = w.heap → (Builtin.firstCells te.size m (a.eval x)).run P w' = .ok xa w') (x2 : xa.size = m * te.size)
    (x3 : ∀ i, i < m → ∀ j, j < te.size → VRel w O ad (.cell k (0 + i) j) (.pv (ow2 i j) (el2 i j)) (xa.getD (i * te.size + j) undef))
    (hstore : isStoreC C fg o.op = true) (h : K (grown st o.dst k te.size 0 m el el2 ow ow2)) : OpOkC P C fg o a w O Q K := by
  have hz := told_cells (w := w) (O := O) (ad := ad) htold
  have hzs : te.zero.cells.size = te.size := by rw [hz.1, hzl]
  have hrunop : ∀ {rv w'}, (Builtin.append_ ts o.type #[a.eval s, a.eval x]).run P w = .ok rv w' → (execOp a.eval o).run P w = .ok (.value rv) w' := by
    intro rv w' hr
    unfold execOp
    simp only [ho, resolve, run_bind, run_pure, invoke, builtin]
    have : #[s, x].map a.eval = #[a.eval s, a.eval x] := by simp
    rw [this, hr]
  by_cases hm : m = 0
  · subst hm
    have hx0 : xa.toList = [] := by
      have : xa.size = 0 := by rw [x2]; simp
      have := Array.size_eq_zero_iff.1 this
      rw [this]
    have hrun : (Builtin.append_ ts o.type #[a.eval s, a.eval x]).run P w = .ok (.slice base 0 0) w := by
      rw [hsv]
      exact append_fits_run (n := 0) (m := 0) (cap := 0) hT h0 ht h1 ht2 hte (by omega) hlen (x1 w rfl) (fun c hc => by rw [hx0]; rfl) (fun _ => rfl)
    have s3 := (hS.drop k).row0 (s' := te.size) (el' := appEl 0 el el2) (ow' := fun i j => bif Nat.blt i 0 then ow i j else ow2 (i - 0) j) (nth_dropH' (k := k) hk)
    rw [← setBlkL_eq] at s3
    refine .value (ad' := ad) (hrunop hrun) h (s3.put (x := .arr k te.size 0 (0 + 0)) (by cases hdd : o.dst <;> simp_all [okDst]) fun _ => ?_) (Step.refl _ _) hstore
    exact .arrE hc (by cases base <;> simp)
  · obtain ⟨newCap, dk, hnc, hrun⟩ := append_grows_run (P := P) (rt := o.type) (w := w) hT h0 ht h1 ht2 hte (base := base) (n := 0) (cap := 0) (m := m) (by omega) hlen hb1 hb2 (old := #[]) (fun k => by cases base <;> simp [Builtin.firstCells, loadCells, loadCellsFrom, run_pure]) (fun k => x1 _ rfl)
    rw [← hsv] at hrun
    have hS' := hS.drawn dk
    have hsize : (#[] ++ xa ++ Builtin.zeroCells te.zero.cells (newCap - (0 + m))).size = newCap * te.size := by
      rw [Array.size_append, Array.size_append, zeroCells_size, x2, hzs]
      simp only [List.size_toArray, List.length_nil, Nat.zero_add]
      rw [← Nat.add_mul]; congr 1; omega
    have c2 : ∀ q, q < m * te.size → (#[] ++ xa ++ Builtin.zeroCells te.zero.cells (newCap - (0 + m))).getD q undef = xa.getD q undef := fun q hq => by
      rw [getD_append3, if_neg (by simp), if_pos (by simp [x2]; omega)]
      simp only [List.size_toArray, List.length_nil, Nat.sub_zero]
    have hdr := (drawn_step w O dk).1
    obtain ⟨s1, s2⟩ := hS'.moved (arr' := #[] ++ xa ++ Builtin.zeroCells te.zero.cells (newCap - (0 + m))) (ty := e) (b' := .row te.size (0 + m) (appEl 0 el el2) fun i j => bif Nat.blt i 0 then ow i j else ow2 (i - 0) j) hk hc
      (fun B e => by subst e; exact (hS.heap.realB hk hc).choose_spec.1) hnb (fun hst hka hin =>
      ⟨by rw [hsize]; exact Nat.mul_le_mul_right _ hnc, fun i hi j hj => by
        have r := x3 i (by omega) j hj
        have hb : Nat.blt i 0 = false := by cases i <;> rfl
        simp only [appEl, hb, cond_false, Nat.sub_zero]
        rw [c2 _ (idx_lt (by omega) hj)]
        rw [Nat.zero_add] at r
        have r := r.step hdr (InnK.refl _) (fun _ _ h => h) ((drawn_step w O dk).2.at hS.fresh _)
        have r := r.step (ad' := ad) hst hin (fun _ _ h => h) (hka _)
        exact r.chgA rfl⟩)
    rw [← setBlkL_eq] at s2
    refine .value (ad' := ad.set k (w.heap.size + 1)) (hrunop hrun) h (s2.put (x := .arr k te.size 0 (0 + m)) (by cases hdd : o.dst <;> simp_all [okDst]) fun _ => ?_) (hdr.trans s1) hstore
    have := VRel.arr (w := World.push { w with drawn := dk } (#[] ++ xa ++ Builtin.zeroCells te.zero.cells (newCap - (0 + m))) e) (O := upd (gv O c) w.heap.size (.blk k)) (p := dpos o.dst) (ad := ad.set k (w.heap.size + 1)) (k := k) (B := w.heap.size)
      (sz := te.size) (off := 0) (n := 0 + m) (cap := newCap) (by rw [nth_set _ _ _ _ (nth_lt hc), if_pos rfl]) hnc ⟨_, e, (0, 0), push_at _ _ _, by rw [Nat.zero_add, hsize]; exact Nat.le_refl _⟩
    simpa using this

/-- A block's lists change hands. -/
theorem Sat.reblk (hS : Sat st a w O ad) {f : Pos → Pos} {k : Nat} {b b' : Blk} (hft : ∀ s, Fixes f (.tmp s)) (hfc : ∀ k', k' ≠ k → ∀ i j, Fixes f (.cell k' i j)) (hk : nth st.heap k = some b) (hfl : b.flat = true) (hgh : b.ghost → b'.ghost)
    (hb : ∀ arr, BlkRel w O ad k arr b → BlkRel w (renO f O) ad k arr b') : Sat { st with heap := st.heap.set k b' } a w (renO f O) ad ∧ Step w O w (renO f O) := by
  refine ⟨⟨⟨hS.env.1, fun d => (hS.env.2 d).fix (hft d)⟩, fun i c hc => ?_, by simp [hS.len], hS.pin, hS.dn, ren_fresh hS.fresh⟩, ren_step _ _ _⟩
  have hc : nth (st.heap.set k b') i = some c := hc
  rw [nth_set _ _ _ _ (nth_lt hk)] at hc
  by_cases e : i = k
  · subst e
    rw [if_pos rfl] at hc
    obtain rfl := Option.some.inj hc
    obtain ⟨d, h1, ⟨h2, hg⟩ | ⟨B0, x0, rfl, _, _, _⟩⟩ := hS.heap i _ hk
    · exact ⟨d, h1, .inl ⟨h2, hgh hg⟩⟩
    obtain ⟨B, arr, ty, e1, h2, h3, h4⟩ := hS.heap.cellsB hk hfl h1
    obtain rfl := e1
    refine ⟨B0 + 1, h1, .inr ⟨B0, .cells arr ty (0, 0), rfl, renO_blk h2, h3, ?_⟩⟩
    have := hb arr h4
    cases b' <;> exact ⟨rfl, this⟩
  · rw [if_neg e] at hc
    obtain ⟨d, h1, ⟨h2, hg⟩ | ⟨B, x, rfl, h2, h3, h4⟩⟩ := hS.heap i c hc
    · exact ⟨d, h1, .inl ⟨h2, hg⟩⟩
    · exact ⟨B + 1, h1, .inr ⟨B, x, rfl, renO_blk h2, h3, h4.fix (hfc i e)⟩⟩

theorem OpOkC.from {O2 : Nat → Own} (h : OpOkC P C fg o a w O2 Q K) (hst : Step w O w O2) (hstore : isStoreC C fg o.op = true) : OpOkC P C fg o a w O Q K := by
  refine Oper.wp_mono (fun a' w' => ?_) h
  rintro ⟨st', O', ad', h1, h2, h3, _⟩
  exact ⟨st', O', ad', h1, h2, hst.trans h3, fun h => by rw [hstore] at h; simp at h⟩

/-- from row k2's places to row k's, from n on -/
def mvR (k2 k n : Nat) (p : Pos) : Pos :=
  match p with
  | .cell a b c => bif Nat.beq a k2 then .cell k (n + b) c else .cell a b c
  | p => p

theorem mvR_tmp (k2 k n s : Nat) : Fixes (mvR k2 k n) (.tmp s) := ⟨rfl, fun _ => rfl⟩
theorem mvR_cell {k2 k n k' : Nat} (h : k' ≠ k2) (i j : Nat) : Fixes (mvR k2 k n) (.cell k' i j) := ⟨by simp [mvR, beq_ff h], fun _ => rfl⟩

/-- the cells of a row that is appended -/
theorem rowArg_run (hS : Sat st a w O ad) {k2 sz m2 : Nat} {el2 : Nat → Nat → PV} {ow2 : Nat → Nat → Bool} (hk2 : nth st.heap k2 = some (.row sz m2 el2 ow2)) {p : Pos} {xv : Value} (hvx : VRel w O ad p (.arr k2 sz 0 m2) xv)
    {f : Pos → Pos} {q : Nat → Nat → Pos} (hf : ∀ i j, f (.cell k2 i j) = q i j ∧ q i j ≠ .no) :
    ∃ xa : Array Value, (∀ w' : World, w'.heap = w.heap → (Builtin.firstCells sz m2 xv).run P w' = .ok xa w') ∧ xa.size = m2 * sz ∧
      ∀ i, i < m2 → ∀ j, j < sz → VRel w (renO f O) ad (q i j) (.pv (ow2 i j) (el2 i j)) (xa.getD (i * sz + j) undef) := by
  cases hvx with
  | arrE _ hv => exact ⟨#[], fun w' _ => by rcases hv with rfl | ⟨b, rfl⟩ <;> simp [Builtin.firstCells, loadCells, loadCellsFrom, run_pure], by simp, fun i hi => by omega⟩
  | @arr _ _ _ _ _ B2 cap2 hB2 _ _ =>
    obtain ⟨B', arr2, ty2, g1, g2, g3, g4, g5⟩ := hS.heap.cellsB hk2 rfl hB2
    obtain rfl := g1
    rw [Nat.zero_mul]
    obtain ⟨xa, x1, x2, x3⟩ := rowCells_run (P := P) g3 g4 cap2
    refine ⟨xa, x1, x2, fun i hi j hj => ?_⟩
    rw [x3 _ (idx_lt hi hj)]
    exact (g5 i hi j hj).ren (fun _ => ⟨(hf i j).1, (hf i j).2⟩) (fun cs h => by simp at h)

theorem appendRow_ok (hT : TabOk P T) (hS : Sat st a w O ad) (hd : okDst st o.dst = true) {ts : Array TypeId} {s x : Operand} (ho : o.op = .call ⟨.builtin .append, #[s, x], ts⟩)
    (hfg : Nat.beq fg 8 = true) (h : appendRowOp T st o.dst ts s x K) : OpOkC P C fg o a w O Q K := by
  have hstore : isStoreC C fg o.op = true := by rw [ho]; exact hfg
  unfold appendRowOp at h
  split at h
  case h_2 => exact h.elim
  rename_i e s1 s2 s3 e2 s1' s2' s3' k sz off n ht ht2 hs
  split at h
  case h_2 => exact h.elim
  rename_i te s' n' el ow hte hk
  replace h := needE h
  obtain ⟨hb', h⟩ := h
  obtain ⟨c1, hb'⟩ := andE hb'
  obtain ⟨c2, hb'⟩ := andE hb'
  obtain ⟨c3, hb'⟩ := andE hb'
  obtain ⟨htold, hb'⟩ := andE hb'
  obtain ⟨hzl, hb'⟩ := andE hb'
  obtain ⟨hpos, hnb⟩ := andE hb'
  obtain rfl := beqE c1
  obtain rfl := beqE c2
  obtain rfl := beqE c3
  have hzl := beqE hzl
  have hnb := Nat.le_of_ble_eq_true hnb
  obtain ⟨ty, h0, ht⟩ := Option.bind_eq_some_iff.1 ht
  obtain ⟨t2, h1, ht2⟩ := Option.bind_eq_some_iff.1 ht2
  have hvs := hS.ev s
  rw [hs] at hvs
  have hvx := hS.ev x
  have hvs2 : (∃ B cap, nth ad k = some (B + 1) ∧ n ≤ cap ∧ RoomAt w B (cap * te.size) ∧ a.eval s = .slice (some ⟨B, 0, none⟩) n cap) ∨ (n = 0 ∧ ∃ c base, nth ad k = some c ∧ a.eval s = .slice base 0 0) := by
    revert hvs
    generalize a.eval s = sv
    intro hvs
    cases hvs with
    | @arr _ _ _ _ _ B cap hB hcap hroom =>
      rw [Nat.zero_add] at hroom
      exact .inl ⟨B, cap, hB, hcap, hroom, by rw [Nat.zero_mul]⟩
    | arrE hc hv => rcases hv with rfl | ⟨b, rfl⟩ <;> exact .inr ⟨rfl, _, _, hc, rfl⟩
  split at h
  · rename_i own2 sz2 nf2 m el2 hx
    replace h := needC h
    obtain ⟨hb2, ⟨hn, hm1, hm2⟩, h⟩ := h
    subst hn
    rw [hx] at hvx
    have hpx := prel_of hvx
    have hsz2 : m = 0 ∨ sz2 = te.size := by
      rcases Bool.or_eq_true _ _ ▸ hb2 with e | e
      · exact .inr (beqE e)
      · exact .inl (beqE e)
    have hlen : ∀ w, (Builtin.lenOf (a.eval x)).run P w = .ok m w := by
      intro w
      revert hpx
      generalize a.eval x = xv
      intro hpx
      cases hpx <;> rfl
    obtain ⟨xa, x1, x2, x3, x4, x5⟩ := firstCells_run (P := P) hpx hsz2
    rcases hvs2 with ⟨B, cap, hB, hcap, hroom, hsv⟩ | ⟨rfl, c, base, hc, hsv⟩
    · exact appendRow_core hT hS hd ho h0 ht h1 ht2 hte hk hB hsv hcap hroom hnb htold hzl hm1 hm2 hlen x1 x2 (fun i hi j hj => .pv (x3 i hi j hj)) x5 hstore h
    · exact appendRow_core0 hT hS hd ho h0 ht h1 ht2 hte hk hc hsv hnb htold hzl hm1 hm2 hlen x1 x2 (fun i hi j hj => .pv (x3 i hi j hj)) hstore h
  · rename_i k2 sz2 off2 m hx
    split at h
    case h_2 => exact h.elim
    rename_i s2 m2 el2 ow2 hk2
    replace h := needC h
    obtain ⟨hb2, ⟨hn, hmm, hm1, hm2⟩, h⟩ := h
    subst hn hmm
    obtain ⟨d1, hb2⟩ := andE hb2
    obtain ⟨d2, hb2⟩ := andE hb2
    obtain ⟨d3, d4⟩ := andE hb2
    have hne : k2 ≠ k := fun e => by subst e; simp at d1
    obtain rfl := beqE d2
    obtain rfl := beqE d3
    obtain rfl := beqE d4
    rw [hx] at hvx
    have hft : ∀ s, Fixes (mvR k2 k n') (.tmp s) := mvR_tmp k2 k n'
    obtain ⟨r1, r2⟩ := hS.reblk (f := mvR k2 k n') (b' := .row te.size m2 el2 fun _ _ => false) hft (fun k' hk' => mvR_cell hk') hk2 rfl (fun h => h) (fun arr hb => ⟨hb.1, fun i hi j hj => (hb.2 i hi j hj).shed_ren _⟩)
    have hlen : ∀ w, (Builtin.lenOf (a.eval x)).run P w = .ok m2 w := by
      intro w
      revert hvx
      generalize a.eval x = xv
      intro hvx
      cases hvx with
      | arr => rfl
      | arrE _ hv => rcases hv with rfl | ⟨b, rfl⟩ <;> rfl
    obtain ⟨xa, x1, x2, hx3⟩ := rowArg_run (P := P) hS hk2 hvx (f := mvR k2 k n') (q := fun i j => .cell k (n' + i) j) (fun i j => ⟨by simp [mvR], by simp⟩)
    have hk' : nth (st.heap.set k2 (.row te.size m2 el2 fun _ _ => false)) k = some (.row te.size n' el ow) := by
      rw [nth_set _ _ _ _ (nth_lt hk2), if_neg (fun e => hne e.symm)]; exact hk
    have hx5 : ∀ u ∈ xa.toList, oneC u = true := fun u hu => by
      obtain ⟨q, hq, rfl⟩ := List.getElem_of_mem hu
      have hq' : q < m2 * te.size := by rw [← x2]; simpa using hq
      have hp0 : 0 < te.size := by
        rcases Nat.eq_zero_or_pos te.size with e | e
        · rw [e, Nat.mul_zero] at hq'; omega
        · exact e
      have e1 : q / te.size * te.size + q % te.size = q := by rw [Nat.mul_comm]; exact Nat.div_add_mod q te.size
      have r := hx3 (q / te.size) (by rw [Nat.div_lt_iff_lt_mul hp0]; exact hq') (q % te.size) (Nat.mod_lt _ hp0)
      rw [e1] at r
      have e2 : xa.toList[q] = xa.getD q undef := by
        have : q < xa.size := by simpa using hq
        simp [Array.getD, this]
      rw [e2]
      revert r
      generalize ow2 (q / te.size) (q % te.size) = bo
      generalize el2 (q / te.size) (q % te.size) = eo
      intro r
      cases r with
      | pv h => exact prel_one h
      | own h _ => exact prel_one h
    rw [setBlkL_eq] at h
    rcases hvs2 with ⟨B, cap, hB, hcap, hroom, hsv⟩ | ⟨rfl, c, base, hc, hsv⟩
    · exact (appendRow_core (st := { st with heap := st.heap.set k2 (.row te.size m2 el2 fun _ _ => false) }) hT r1 hd ho h0 ht h1 ht2 hte hk' hB hsv hcap hroom hnb htold hzl hm1 hm2 hlen x1 x2 hx3 hx5 hstore h).from r2 hstore
    · exact (appendRow_core0 (st := { st with heap := st.heap.set k2 (.row te.size m2 el2 fun _ _ => false) }) hT r1 hd ho h0 ht h1 ht2 hte hk' hc hsv hnb htold hzl hm1 hm2 hlen x1 x2 hx3 hstore h).from r2 hstore
  · exact h.elim

theorem appendNew_ok (hT : TabOk P T) (hS : Sat st a w O ad) (hd : okDst st o.dst = true) {ts : Array TypeId} {s x : Operand} (ho : o.op = .call ⟨.builtin .append, #[s, x], ts⟩)
    (hfg : Nat.beq fg 8 = true) (h : appendNewOp T st o.dst ts s x K) : OpOkC P C fg o a w O Q K := by
  have hstore : isStoreC C fg o.op = true := by rw [ho]; exact hfg
  unfold appendNewOp at h
  split at h
  case h_2 => exact h.elim
  rename_i e s1 s2 s3 e2 s1' s2' s3' own szn nfn eln k2 sz2 off2 m ht ht2 hs hx
  split at h
  case h_2 => exact h.elim
  rename_i te s2 m2 el2 ow2 hte hk2
  replace h := needC h
  obtain ⟨hb', ⟨hmm, hm1, hm2⟩, h⟩ := h
  subst hmm
  obtain ⟨dnf, hb'⟩ := andE hb'
  obtain ⟨d2, hb'⟩ := andE hb'
  obtain ⟨d3, hb'⟩ := andE hb'
  obtain ⟨d4, hb'⟩ := andE hb'
  obtain ⟨htold, hb'⟩ := andE hb'
  obtain ⟨hzl, hpos⟩ := andE hb'
  have hzl := beqE hzl
  obtain rfl := beqE d2
  obtain rfl := beqE d3
  obtain rfl := beqE d4
  obtain ⟨ty, h0, ht⟩ := Option.bind_eq_some_iff.1 ht
  obtain ⟨t2, h1, ht2⟩ := Option.bind_eq_some_iff.1 ht2
  have hz := told_cells (w := w) (O := O) (ad := ad) htold
  have hzs : te.zero.cells.size = te.size := by rw [hz.1, hzl]
  have hvs := hS.ev s
  rw [hs] at hvs
  have hsv : ∃ base, a.eval s = .slice base 0 0 := by
    revert hvs
    generalize a.eval s = v
    intro hvs
    have dnf : nfn = .isNil ∨ nfn = .full ∨ nfn = .fullAny := by simpa using dnf
    cases prel_of hvs with
    | lst vals hc hr hcap hf hn =>
      rcases dnf with e | e
      · rw [e] at hn; exact hn.elim
      · have := hf e; subst this; exact ⟨_, rfl⟩
    | lstNil _ _ => exact ⟨_, rfl⟩
    | lstE _ hn => exact ⟨_, rfl⟩
  obtain ⟨base, hsv⟩ := hsv
  have hvx := hS.ev x
  rw [hx] at hvx
  obtain ⟨r1, r2⟩ := hS.reblk (f := mvR k2 st.heap.length 0) (b' := .row te.size m2 el2 fun _ _ => false) (mvR_tmp k2 _ 0) (fun k' hk' => mvR_cell hk') hk2 rfl (fun h => h) (fun arr hb => ⟨hb.1, fun i hi j hj => (hb.2 i hi j hj).shed_ren _⟩)
  have hlen : ∀ w, (Builtin.lenOf (a.eval x)).run P w = .ok m2 w := by
    intro w
    revert hvx
    generalize a.eval x = xv
    intro hvx
    cases hvx with
    | arr => rfl
    | arrE _ hv => rcases hv with rfl | ⟨b, rfl⟩ <;> rfl
  obtain ⟨xa, x1, x2, x3⟩ := rowArg_run (P := P) hS hk2 hvx (f := mvR k2 st.heap.length 0) (q := fun i j => .cell st.heap.length i j) (fun i j => ⟨by simp [mvR], by simp⟩)
  have hrunop : ∀ {rv w'}, (Builtin.append_ ts o.type #[a.eval s, a.eval x]).run P w = .ok rv w' → (execOp a.eval o).run P w = .ok (.value rv) w' := by
    intro rv w' hr
    unfold execOp
    simp only [ho, resolve, run_bind, run_pure, invoke, builtin]
    have : #[s, x].map a.eval = #[a.eval s, a.eval x] := by simp
    rw [this, hr]
  have hl : (st.heap.set k2 (.row te.size m2 el2 fun _ _ => false)).length = st.heap.length := by simp
  rw [setBlkL_eq] at h
  by_cases hm : m2 = 0
  · subst hm
    have hx0 : xa.toList = [] := by
      have : xa.size = 0 := by rw [x2]; simp
      have := Array.size_eq_zero_iff.1 this
      rw [this]
    have hrun : (Builtin.append_ ts o.type #[a.eval s, a.eval x]).run P w = .ok (.slice base 0 0) w := by
      rw [hsv]
      exact append_fits_run (n := 0) (m := 0) (cap := 0) hT h0 ht h1 ht2 hte (by omega) hlen (x1 w rfl) (fun c hc => by rw [hx0]; rfl) (fun _ => rfl)
    have p3 := r1.pushG te.size el2 ow2
    refine .value (ad' := ad ++ [0]) (hrunop hrun) h (p3.put (x := .arr st.heap.length te.size 0 0) (by cases hdd : o.dst <;> simp_all [okDst]) fun _ => ?_) r2 hstore
    exact .arrE (c := 0) (by rw [← hS.len]; exact nth_last _ _) (by cases base <;> simp)
  obtain ⟨newCap, dk, hnc, hrun⟩ := append_grows_run (P := P) (rt := o.type) (w := w) hT h0 ht h1 ht2 hte (base := base) (n := 0) (cap := 0) (m := m2) (by omega) hlen (by omega) (by rw [Nat.zero_add]; exact hm2) (old := #[]) (fun k => by cases base <;> simp [Builtin.firstCells, loadCells, loadCellsFrom, run_pure]) (fun k => x1 _ rfl)
  rw [← hsv] at hrun
  rw [Nat.zero_add] at hnc hrun
  have hS' := r1.drawn dk
  have hsize : (#[] ++ xa ++ Builtin.zeroCells te.zero.cells (newCap - m2)).size = newCap * te.size := by
    rw [Array.size_append, Array.size_append, zeroCells_size, x2, hzs]
    simp only [List.size_toArray, List.length_nil, Nat.zero_add]
    rw [← Nat.add_mul]; congr 1; omega
  have c2 : ∀ q, q < m2 * te.size → (#[] ++ xa ++ Builtin.zeroCells te.zero.cells (newCap - m2)).getD q undef = xa.getD q undef := fun q hq => by
    rw [getD_append3, if_neg (by simp), if_pos (by simp [x2]; omega)]
    simp only [List.size_toArray, List.length_nil, Nat.sub_zero]
  have hkk : ∀ i j, KeptAt w (renO (mvR k2 st.heap.length 0) O) { w with drawn := dk } (renO (mvR k2 st.heap.length 0) O) (.cell st.heap.length i j) := fun i j => (drawn_step w _ dk).2.at r1.fresh _
  obtain ⟨p1, p2⟩ := hS'.push e (arr := #[] ++ xa ++ Builtin.zeroCells te.zero.cells (newCap - m2)) (b := .row te.size m2 el2 ow2)
    ⟨by rw [hsize]; exact Nat.mul_le_mul_right _ hnc, fun i hi j hj => by
      rw [c2 _ (idx_lt hi hj)]
      have r := x3 i hi j hj
      have r := r.step (drawn_step w _ dk).1 (InnK.refl _) (fun _ _ h => h) (hkk i j)
      show VRel _ _ ad (.cell (st.heap.set k2 _).length i j) _ _
      rw [hl]; exact r⟩
  have p3 : Sat { st with heap := st.heap.set k2 (.row te.size m2 el2 fun _ _ => false) ++ [.row te.size m2 el2 ow2] } a _ _ _ := p2
  refine .value (ad' := ad ++ [w.heap.size + 1]) (hrunop hrun) h (p3.put (x := .arr st.heap.length te.size 0 m2) (by cases hdd : o.dst <;> simp_all [okDst]) fun _ => ?_) (r2.trans ((drawn_step w _ dk).1.trans p1)) hstore
  have := VRel.arr (w := World.push { w with drawn := dk } (#[] ++ xa ++ Builtin.zeroCells te.zero.cells (newCap - m2)) e) (O := upd (renO (mvR k2 st.heap.length 0) O) w.heap.size (.blk (st.heap.set k2 (.row te.size m2 el2 fun _ _ => false)).length)) (p := dpos o.dst) (ad := ad ++ [w.heap.size + 1]) (k := st.heap.length) (B := w.heap.size)
    (sz := te.size) (off := 0) (n := m2) (cap := newCap) (by rw [← hS.len]; exact nth_last _ _) hnc ⟨_, e, (0, 0), push_at _ _ _, by rw [Nat.zero_add, hsize]; exact Nat.le_refl _⟩
  simpa using this

/-- one cell's place becomes another -/
def mvC (k i j : Nat) (q : Pos) (p : Pos) : Pos :=
  match p with
  | .cell a b c => bif Nat.beq a k && (Nat.beq b i && Nat.beq c j) then q else .cell a b c
  | p => p

theorem mvC_tmp (k i j : Nat) (q : Pos) (s : Nat) : Fixes (mvC k i j q) (.tmp s) := ⟨rfl, fun _ => rfl⟩
theorem mvC_ne {k i j a b c : Nat} {q : Pos} (h : ¬(a = k ∧ b = i ∧ c = j)) : Fixes (mvC k i j q) (.cell a b c) := by
  refine ⟨?_, fun _ => rfl⟩
  have : (Nat.beq a k && (Nat.beq b i && Nat.beq c j)) = false := by
    rw [Bool.eq_false_iff]
    intro hh
    obtain ⟨h1, h2⟩ := andE hh
    obtain ⟨h2, h3⟩ := andE h2
    exact h ⟨beqE h1, beqE h2, beqE h3⟩
  simp [mvC, this]
theorem mvC_eq (k i j : Nat) (q : Pos) : mvC k i j q (.cell k i j) = q := by simp [mvC]

theorem takeLoad_core (hT : TabOk P T) (hS : Sat st a w O ad) (hd : okDst st o.dst = true) {t : TypeId} {x : Operand} (ho : o.op = .load t x) (h : takeLoadOp T st o.dst t (ev st.env x) K) :
    ∃ st' v f, K st' ∧ Sat st' (a.put o.dst v) w (renO f O) ad ∧ Step w O w (renO f O) ∧ ∀ w', Agree O w w' → (execOp a.eval o).run P w' = .ok (.value v) w' := by
  unfold takeLoadOp at h
  split at h
  case h_2 => exact h.elim
  rename_i ti k sz i j d hti hx hdd
  replace h := needE h
  obtain ⟨hag, h⟩ := h
  have hag : isAgg ti.desc = false := by simpa using hag
  have hvx := hS.ev x
  rw [hx] at hvx
  revert hvx
  generalize hxv : a.eval x = xv
  intro hvx
  cases hvx with
  | @ptr _ _ _ _ _ B hB =>
    have hrun : ∀ {v : Value} {w' : World}, w'.cell? ⟨B, i * sz + j, none⟩ = some v → (execOp a.eval o).run P w' = .ok (.value v) w' := fun {v w'} hc => by
      have := run_load_one (P := P) hT hti hag hc
      unfold execOp
      simp only [ho, hxv, this, run_bind, run_pure]
    split at h
    · rename_i cs hk
      split at h
      case h_2 => exact h.elim
      rename_i p hp
      obtain ⟨B', arr, ty, g1, g2, g3, g4, g5⟩ := hS.heap.cellsB hk rfl hB
      obtain rfl := g1
      have hcell : w.cell? ⟨B, i * sz + j, none⟩ = some (arr.getD (i * sz + j) undef) := cell_of_block' g3 (by rw [g4]; exact nth_lt hp)
      obtain ⟨r1, r2⟩ := hS.reblk (f := mvC k 0 (i * sz + j) (.tmp d)) (b' := .box (setNth cs (i * sz + j) (.pv false p))) (mvC_tmp _ _ _ _) (fun k' hk' a b => mvC_ne (fun e => hk' e.1)) hk rfl (fun h => h) (fun arr hb => by
        refine ⟨by rw [hb.1]; simp [length_setNth], fun q y hy => ?_⟩
        rw [nth_setNth _ _ _ _ (nth_lt hp)] at hy
        by_cases e : q = i * sz + j
        · subst e
          rw [if_pos rfl] at hy
          obtain rfl := Option.some.inj hy
          exact (hb.2 _ _ hp).shed_ren _
        · rw [if_neg e] at hy
          exact (hb.2 q y hy).fix (mvC_ne (fun h => e h.2.2)))
      have hown : VRel w (renO (mvC k 0 (i * sz + j) (.tmp d)) O) ad (.tmp d) (.pv true p) (arr.getD (i * sz + j) undef) := (g5 _ _ hp).ren (fun _ => ⟨mvC_eq _ _ _ _, by simp⟩) (fun cs h => by simp at h)
      rw [setBlkL_eq] at h
      have hput := r1.put (dst := some d) (by rw [hdd] at hd; exact hd) (fun _ => hown)
      exact ⟨_, _, _, h, by rw [hdd]; exact hput, r2, fun w' hw' => hrun (by rw [hw' _ _ (Array.getElem?_eq_some_iff.1 g3).1 (live_blk g2 _)]; exact hcell)⟩
    · rename_i s n el ow hk
      replace h := needC h
      obtain ⟨hb2, hi, h⟩ := h
      obtain ⟨c1, hb2⟩ := andE hb2
      obtain ⟨c2, c3⟩ := andE hb2
      obtain rfl := beqE c1
      have hj := bltE c2
      obtain ⟨B', arr, ty, g1, g2, g3, g4, g5⟩ := hS.heap.cellsB hk rfl hB
      obtain rfl := g1
      have hcell : w.cell? ⟨B, i * sz + j, none⟩ = some (arr.getD (i * sz + j) undef) := cell_of_block' g3 (Nat.lt_of_lt_of_le (idx_lt hi hj) g4)
      obtain ⟨r1, r2⟩ := hS.reblk (f := mvC k i j (.tmp d)) (b' := .row sz n el fun a b => bif Nat.beq a i && Nat.beq b j then false else ow a b) (mvC_tmp _ _ _ _) (fun k' hk' a b => mvC_ne (fun e => hk' e.1)) hk rfl (fun h => h) (fun arr hb => by
        refine ⟨hb.1, fun i' hi' j' hj' => ?_⟩
        by_cases e : i' = i ∧ j' = j
        · obtain ⟨rfl, rfl⟩ := e
          simp only [beq_tt, Bool.and_self, cond_true]
          exact (hb.2 _ hi' _ hj').shed_ren _
        · have hf : (Nat.beq i' i && Nat.beq j' j) = false := by
            rw [Bool.eq_false_iff]
            intro hh
            obtain ⟨h1, h2⟩ := andE hh
            exact e ⟨beqE h1, beqE h2⟩
          simp only [hf, cond_false]
          exact (hb.2 _ hi' _ hj').fix (mvC_ne (fun h => e h.2)))
      have hown : VRel w (renO (mvC k i j (.tmp d)) O) ad (.tmp d) (.pv true (el i j)) (arr.getD (i * sz + j) undef) := by
        have := g5 i hi j hj
        rw [c3] at this
        exact this.ren (fun _ => ⟨mvC_eq _ _ _ _, by simp⟩) (fun cs h => by simp at h)
      rw [setBlkL_eq] at h
      have hput := r1.put (dst := some d) (by rw [hdd] at hd; exact hd) (fun _ => hown)
      exact ⟨_, _, _, h, by rw [hdd]; exact hput, r2, fun w' hw' => hrun (by rw [hw' _ _ (Array.getElem?_eq_some_iff.1 g3).1 (live_blk g2 _)]; exact hcell)⟩
    · exact h.elim

theorem takeLoad_ok (hT : TabOk P T) (hS : Sat st a w O ad) (hd : okDst st o.dst = true) {t : TypeId} {x : Operand} (ho : o.op = .load t x) (h : takeLoadOp T st o.dst t (ev st.env x) K) : OpOkC P C fg o a w O Q K := by
  obtain ⟨st', v, f, h1, h2, h3, h4⟩ := takeLoad_core hT hS hd ho h
  exact (OpOk.value (ad' := ad) (h4 w (Agree.refl O w)) h1 h2 h3 (Agree.refl O w)).c

theorem fill_one {z : Array Value} {v : Value} (hz : z.size = 1) (hv : v.cells = #[v]) : Instr.fill (fun i => some (i * 1, 1)) z [(0, v)] = some #[v] := by
  rcases z with ⟨l⟩
  match l, hz with
  | [u], _ => simp [Instr.fill, hv]

theorem buildOwn_ok (hT : TabOk P T) (hS : Sat st a w O ad) (hd : okDst st o.dst = true) {t : TypeId} {len : Nat} {ps : Array (Nat × Operand)} (ho : o.op = .buildSlice t len ps)
    (h : buildOwnOp T st o.dst t len ps.toList K) : OpOkC P C fg o a w O Q K := by
  unfold buildOwnOp at h
  split at h
  case h_2 => exact h.elim
  rename_i e s1 s2 s3 s ht hps
  split at h
  case h_2 => exact h.elim
  rename_i te p hte hs
  replace h := needE h
  obtain ⟨hb, h⟩ := h
  obtain ⟨c1, hb⟩ := andE hb
  obtain ⟨c2, hb⟩ := andE hb
  obtain ⟨htold, c4⟩ := andE hb
  obtain rfl := beqE c1
  have c2 := beqE c2
  have c4 := beqE c4
  have hz := told_cells (w := w) (O := O) (ad := ad) htold
  have hzs : te.zero.cells.size = te.size := by rw [hz.1, c4, c2]
  have hps' : ps = #[(0, .tmp s)] := by apply Array.ext'; simpa using hps
  subst hps'
  obtain ⟨g1, g2, g3⟩ := hS.take (t := s) (q := .cell st.heap.length 0 0) (by simp) (fun cs hc => by rw [hs] at hc; simp at hc)
  have hvs := hS.env.2 s
  rw [hs] at hvs
  rw [hs] at g1 g2
  have hcs : (a.tmps.getD s undef).cells = #[a.tmps.getD s undef] := by
    revert hvs
    generalize a.tmps.getD s undef = v
    intro hvs
    exact cells_one (prel_one (prel_of hvs))
  have hone : oneC (a.tmps.getD s undef) = true := prel_one (prel_of hvs)
  obtain ⟨h1, h2⟩ := g2.push e (arr := #[a.tmps.getD s undef]) (b := .row 1 1 (fun _ _ => p) fun _ _ => true) ⟨by simp, fun i hi j hj => by
    obtain rfl : i = 0 := by omega
    obtain rfl : j = 0 := by omega
    simpa using g1⟩
  have hrun : (execOp a.eval o).run P w = .ok (.value (.slice (some ⟨w.heap.size, 0, none⟩) 1 1)) (World.push w #[a.tmps.getD s undef] e) := by
    unfold execOp
    have hz1 : ((Array.range (1 * te.size)).map (te.zero.cells[· % te.zero.cells.size]!)).size = 1 := by simp [c2]
    have hfill := fill_one hz1 hcs
    simp only [ho, Instr.buildSlice, run_bind, run_underlying_of hT ht, run_sizeOf_of hT hte]
    rw [if_neg (by rw [c2]; decide)]
    rw [if_neg (by rw [c2]; decide)]
    simp only [run_bind, zeroValue_run hT hte, run_pure]
    have hp : ∀ (f : Nat × Operand → Nat × Value), (Array.map f #[(0, Operand.tmp s)]).toList = [f (0, .tmp s)] := fun f => by simp
    have e2 : (fun i => some (i * te.size, te.size)) = fun i => some (i * 1, 1) := by rw [c2]
    rw [hp, e2]
    have hfill' : Instr.fill (fun i => some (i * 1, 1)) ((Array.range (1 * te.size)).map (te.zero.cells[· % te.zero.cells.size]!)) [(0, a.eval (.tmp s))] = some #[a.tmps.getD s undef] := hfill
    rw [hfill']
    simp only [run_bind, newRow_run, run_pure]
  refine (OpOk.value (ad' := ad ++ [w.heap.size + 1]) hrun h (h2.put (by cases hdd : o.dst <;> simp_all [okDst]) fun _ => ?_) (g3.trans h1) (push_agree O _ _)).c
  have := VRel.arr (w := World.push w #[a.tmps.getD s undef] e) (O := upd (renO (mvT s (.cell st.heap.length 0 0)) O) w.heap.size (.blk st.heap.length)) (p := dpos o.dst) (ad := ad ++ [w.heap.size + 1]) (k := st.heap.length) (sz := 1) (off := 0) (n := 1) (cap := 1)
    (by rw [← hS.len]; exact nth_last _ _) (Nat.le_refl _) ⟨_, e, (0, 0), push_at _ _ _, by simp⟩
  simpa using this

theorem sliceOwn_core (hT : TabOk P T) (hS : Sat st a w O ad) (hd : okDst st o.dst = true) {t : TypeId} {s : Operand} {lo : Option Operand} (ho : o.op = .slice t s lo none none)
    (h : sliceOwnOp T st o.dst t s lo K) :
    ∃ st' v f, K st' ∧ Sat st' (a.put o.dst v) w (renO f O) ad ∧ Step w O w (renO f O) ∧ ∀ w', (execOp a.eval o).run P w' = .ok (.value v) w' := by
  unfold sliceOwnOp at h
  split at h
  case h_2 => exact h.elim
  rename_i e s1 s2 s3 x d ht hdst
  split at h
  case h_2 => exact h.elim
  rename_i z sz nf n el hz hx
  obtain ⟨te, hte, hsz⟩ := elemSize_of hz
  have hlo : (lo.map (ev st.env) = none ∧ lo.map a.eval = none) ∨ ∃ p y v, lo.map (ev st.env) = some y ∧ lo.map a.eval = some v ∧ VRel w O ad p y v := by
    cases lo with
    | none => exact .inl ⟨rfl, rfl⟩
    | some y => exact .inr ⟨_, _, _, rfl, rfl, hS.ev y⟩
  obtain ⟨l, g1, hl⟩ := bound_ok hlo h
  obtain ⟨e1, ⟨h0, h1⟩, hk⟩ := needC g1
  obtain rfl := beqE e1
  have hl' : (lo.map a.eval = none ∧ l = 0) ∨ ∃ k, lo.map a.eval = some (.int k l) := hl.imp (fun h => h.2) (fun ⟨k, h⟩ => ⟨k, h.2⟩)
  obtain ⟨t1, t2, t3⟩ := hS.take (t := x) (q := .tmp d) (by simp) (fun cs hc => by rw [hx] at hc; simp at hc)
  rw [hx] at t1 t2
  have run : ∀ (base : Option Addr) (cap : Nat), a.tmps.getD x undef = .slice base n cap → n ≤ cap → ∀ w', (execOp a.eval o).run P w' =
      .ok (.value (.slice (if cap = l.toNat then base else base.map (·.add (l.toNat * sz))) (n - l.toNat) (cap - l.toNat))) w' := by
    intro base cap hv hcap w'
    have hev : a.eval (.tmp x) = .slice base n cap := hv
    have : (Instr.sliceAt t (.slice base n cap) (lo.map a.eval) none none).run P w' = .ok (.slice (if cap = l.toNat then base else base.map (·.add (l.toNat * sz))) (n - l.toNat) (cap - l.toNat)) w' := by
      simp only [Instr.sliceAt, run_bind, run_underlying_of hT ht]
      have e2 : ((n : Int)).toNat = n := Int.toNat_natCast n
      simp only [Instr.slice, run_bind, run_underlying_of hT ht, sliceBounds_run hl' (.inl ⟨rfl, rfl⟩) h0 h1 (show ((n : Nat) : Int) ≤ (cap : Int) by omega), run_sizeOf_of hT hte, hsz, run_pure, e2]
    unfold execOp
    simp only [ho, hev]
    simp only [Option.map_none, run_bind, this, run_pure]
  have hval : ∃ v, VRel w (renO (mvT x (.tmp d)) O) ad (.tmp d) (.pv true (.lst sz .any (n - l.toNat) fun i j => el (l.toNat + i) j)) v ∧ ∀ w', (execOp a.eval o).run P w' = .ok (.value v) w' := by
    revert t1 run
    generalize a.tmps.getD x undef = u
    intro t1 run
    cases t1 with
    | own hp hown =>
      obtain ⟨p0, hown⟩ := hown
      cases hp with
      | lstNil _ _ =>
        have e3 : l.toNat = 0 := by omega
        refine ⟨.slice none 0 0, ?_, fun w' => by rw [run _ _ rfl (Nat.le_refl _) w', e3]; rfl⟩
        rw [e3]
        exact .own (.lstNil (by simp) (by simp)) ⟨p0, .inl rfl⟩
      | lstE b _ =>
        have e3 : l.toNat = 0 := by omega
        refine ⟨.slice (some b) 0 0, ?_, fun w' => by rw [run _ _ rfl (Nat.le_refl _) w', e3]; rfl⟩
        rw [e3]
        exact .own (.lstE b (by simp)) ⟨p0, .inr (.inl ⟨b, rfl⟩)⟩
      | @lst _ _ _ _ B off cap vals hc hr hcap hf hn =>
        refine ⟨_, ?_, fun w' => run _ _ rfl hcap w'⟩
        have e0 : (if cap = l.toNat then (some ⟨B, off, none⟩ : Option Addr) else (some (⟨B, off, none⟩ : Addr)).map (·.add (l.toNat * sz))) = some ⟨B, (if cap = l.toNat then off else off + l.toNat * sz), none⟩ := by
          split <;> simp [add_none]
        rw [e0]
        refine .own (.lst (fun i j => vals (l.toNat + i) j) (fun i hi j hj => ?_) (fun i hi j hj => hr _ (by omega) j hj) (by omega) (by simp) (by simp)) ⟨p0, ?_⟩
        · rw [if_neg (by omega)]
          have := hc (l.toNat + i) (by omega) j hj
          rwa [Nat.add_mul, ← Nat.add_assoc] at this
        · rcases hown with hh | ⟨b, hh⟩ | ⟨B', off', cap', arr, ty, g1, g2, g3, g4⟩
          · simp at hh
          · obtain ⟨_, rfl⟩ : _ ∧ cap = n := by simpa using hh
            exact .inr (.inl ⟨_, rfl⟩)
          · simp only [Value.slice.injEq, Option.some.injEq, Addr.mk.injEq, true_and] at g1
            obtain ⟨⟨rfl, rfl, _⟩, rfl⟩ := g1
            by_cases c : cap = l.toNat
            · have e3 : n - l.toNat = cap - l.toNat := by omega
              rw [e3]
              exact .inr (.inl ⟨_, rfl⟩)
            · refine .inr (.inr ⟨B, off + l.toNat * sz, cap - l.toNat, arr, ty, by rw [if_neg c], ?_, g3, ?_⟩)
              · rw [g2]; congr 1
                rw [Nat.add_assoc, ← Nat.add_mul]; congr 2; omega
              · rw [Nat.add_assoc, ← Nat.add_mul, show l.toNat + (cap - l.toNat) = cap by omega]; exact g4
  obtain ⟨v, hv, hrun⟩ := hval
  have hfin := t2.put (dst := some d) (by rw [hdst] at hd; exact hd) (fun _ => hv)
  exact ⟨_, v, _, hk, by rw [hdst]; exact hfin, t3, hrun⟩

theorem sliceOwn_ok (hT : TabOk P T) (hS : Sat st a w O ad) (hd : okDst st o.dst = true) {t : TypeId} {s : Operand} {lo : Option Operand} (ho : o.op = .slice t s lo none none)
    (h : sliceOwnOp T st o.dst t s lo K) : OpOkC P C fg o a w O Q K := by
  obtain ⟨st', v, f, h1, h2, h3, h4⟩ := sliceOwn_core (P := P) hT hS hd ho h
  exact (OpOk.value (ad' := ad) (h4 w) h1 h2 h3 (Agree.refl O w)).c

end
end Go.Proofs.Ytgghnfmabphbmaa.Fw
