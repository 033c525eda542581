/- Tables: rows of rows that are written. -/
import Derived.Test.YtgghnfmabphbmaaA12f
namespace Go.Proofs.Ytgghnfmabphbmaa.Fw
open Go
set_option linter.unusedSimpArgs false
set_option linter.unusedVariables false

mutual
/-- what leads to block k2, or to rows of table k, is forgotten -/
def tabV (k k2 : Nat) : AVal → AVal
  | .ptr k' s i j => bif Nat.beq k' k2 then .undef else .ptr k' s i j
  | .arr k' s o n => bif Nat.beq k' k2 then .undef else .arr k' s o n
  | .mref k' => bif Nat.beq k' k2 then .undef else .mref k'
  | .sub k' i n => bif Nat.beq k' k2 || Nat.beq k' k then .undef else .sub k' i n
  | .psub k' i j => bif Nat.beq k' k2 || Nat.beq k' k then .undef else .psub k' i j
  | .agg cs => .agg (tabL k k2 cs)
  | .fn f cs => .fn f (tabL k k2 cs)
  | .tup cs => .tup (tabL k k2 cs)
  | .pv o p => .pv o p
  | .av s n el => .av s n el
  | .undef => .undef
def tabL (k k2 : Nat) : List AVal → List AVal
  | [] => []
  | v :: r => tabV k k2 v :: tabL k k2 r
end

def tabE (k k2 : Nat) : List (Nat × AVal) → List (Nat × AVal)
  | [] => []
  | (d, v) :: r => (d, tabV k k2 v) :: tabE k k2 r

def tabB (k k2 : Nat) : Blk → Blk
  | .box cs => .box (tabL k k2 cs)
  | .row s n el ow => .row s n el ow
  | .mp q has val => .mp q has val
  | .mat n m el => .mat n m el

def tabH (k k2 : Nat) : List Blk → List Blk
  | [] => []
  | b :: r => tabB k k2 b :: tabH k k2 r

/-- row k2 becomes row i of table k -/
def tabSt (st : St) (k i q k2 n : Nat) (m : Nat → Nat) (el el2 : Nat → Nat → PV) : St :=
  ⟨st.nt, tabE k k2 st.env, setBlkL (setBlkL (tabH k k2 st.heap) k2 (.row 1 0 (fun _ _ => .junk) fun _ _ => false)) k (.mat n (fun a => bif Nat.beq a i then q else m a) fun a b => bif Nat.beq a i then el2 b 0 else el a b), st.nb, st.pin⟩

/-- a row is laid into a table -/
def storeTabOp (T : Tab) (st : St) (t : TypeId) (addr x : AVal) (K : St → Prop) : Prop :=
  match T t, addr, x with
  | some ti, .ptr k sz i j, .arr k2 sz2 off2 q =>
    match nth st.heap k, nth st.heap k2 with
    | some (.mat n m el), some (.row s2 n2 el2 _) =>
      need (Nat.beq sz 1 && (Nat.beq j 0 && (Nat.beq ti.size 1 && (Nat.beq sz2 1 && (Nat.beq s2 1 && (Nat.beq off2 0 && (!Nat.beq k k2 && Nat.ble st.nb k2))))))) <|
      cnd T.conc (i < n ∧ q ≤ n2) <| K (tabSt st k i q k2 n m el el2)
    | _, _ => False
  | _, _, _ => False

/-- the state behind a row that is not written any more -/
def frzRSt (st : St) (k : Nat) : St := ⟨st.nt, dropE k st.env, setBlkL (dropH k st.heap) k (.row 0 0 (fun _ _ => .junk) fun _ _ => false), st.nb, st.pin⟩

/-- a row is handed on, and not written any more -/
def frzRowOp (T : Tab) (st : St) (dst : Option Nat) (t : Nat) (K : St → Prop) : Prop :=
  match get st.env t with
  | .arr k s o n =>
    match nth st.heap k with
    | some (.row s' m el _) => need (Nat.beq s s' && Nat.ble st.nb k) <| cnd T.conc (o + n ≤ m) <| K (St.put (frzRSt st k) dst (.pv false (.lst s .any n fun i j => el (o + i) j)))
    | _ => False
  | _ => False

section
variable {P : Program} {T : Tab} {w : World} {O : Nat → Own} {ad : List Nat} {st : St} {a : Act} {o : Oper} {Q : Exit → Act → World → Prop} {K : St → Prop}

theorem length_tabL {k k2 : Nat} : ∀ {l : List AVal}, (tabL k k2 l).length = l.length
  | [] => rfl
  | _ :: r => by simp [tabL, length_tabL]

theorem nth_tabL {k k2 : Nat} : ∀ {l : List AVal} {i : Nat} {x : AVal}, nth (tabL k k2 l) i = some x → ∃ y, nth l i = some y ∧ x = tabV k k2 y
  | [], _, _, h => by simp [tabL, nth] at h
  | y :: r, 0, x, h => by simp [tabL, nth] at h; exact ⟨y, rfl, h.symm⟩
  | y :: r, i + 1, x, h => by simp only [tabL, nth] at h; exact nth_tabL (l := r) (i := i) h

theorem get_tabE {k k2 : Nat} : ∀ (e : List (Nat × AVal)) (d : Nat), get (tabE k k2 e) d = tabV k k2 (get e d)
  | [], d => rfl
  | (t, v) :: r, d => by
    simp only [tabE, get]
    cases Nat.beq t d with
    | true => rfl
    | false => exact get_tabE r d

theorem length_tabH {k k2 : Nat} : ∀ (H : List Blk), (tabH k k2 H).length = H.length
  | [] => rfl
  | _ :: r => by simp [tabH, length_tabH r]

theorem nth_tabH {k k2 : Nat} : ∀ {H : List Blk} {i : Nat} {b : Blk}, nth (tabH k k2 H) i = some b → ∃ c, nth H i = some c ∧ b = tabB k k2 c
  | [], _, _, h => by simp [tabH, nth] at h
  | c :: r, 0, b, h => by simp [tabH, nth] at h; exact ⟨c, rfl, h.symm⟩
  | c :: r, i + 1, b, h => by simp only [tabH, nth] at h; exact nth_tabH (H := r) (i := i) h

theorem tabB_ghost {k k2 : Nat} {b : Blk} : (tabB k k2 b).ghost ↔ b.ghost := by cases b <;> exact Iff.rfl

theorem VRel.tab {O' : Nat → Own} {ad' : List Nat} {k k2 : Nat} (him : ∀ B o, B < w.heap.size → im O B o → im O' B o) (hl : ∀ B p fill, O B = .lst p fill → O' B = .lst p fill) (hinn : ∀ B k' i, k' ≠ k → O B = .inn k' i → O' B = .inn k' i)
    (had : ∀ k' c, k' ≠ k2 → nth ad k' = some c → nth ad' k' = some c) {p : Pos} {x : AVal} {v : Value} (h : VRel w O ad p x v) : VRel w O' ad' p (tabV k k2 x) v := by
  have hc : ∀ {x v}, PRel w O x v → PRel w O' x v := fun hp => hp.change fun B o hB hi => ⟨him B o hB hi, rfl⟩
  have ne : ∀ {a b : Nat}, Nat.beq a b = false → a ≠ b := fun h e => by subst e; simp at h
  induction h with
  | pv h => exact .pv (hc h)
  | own h ho =>
    refine .own (hc h) ⟨ho.1, ho.2.imp id (Or.imp id ?_)⟩
    rintro ⟨B, off, cap, arr, ty, g1, g2, g3, g4⟩
    exact ⟨B, off, cap, arr, ty, g1, hl B _ _ g2, g3, g4⟩
  | @ptr p k' s i j B h => unfold tabV; cases e : Nat.beq k' k2; exact .ptr (had _ _ (ne e) h); exact .undef _
  | @arrE p k' s o c v h hv => unfold tabV; cases e : Nat.beq k' k2; exact .arrE (had _ _ (ne e) h) hv; exact .undef _
  | @arr p k' s o n B cap h hcap hr => unfold tabV; cases e : Nat.beq k' k2; exact .arr (had _ _ (ne e) h) hcap hr; exact .undef _
  | @mref p k' B h => unfold tabV; cases e : Nat.beq k' k2; exact .mref (had _ _ (ne e) h); exact .undef _
  | @subE p k' i c v ha hv =>
    unfold tabV
    cases e : Nat.beq k' k2 with
    | true => exact .undef _
    | false =>
      cases e2 : Nat.beq k' k with
      | true => exact .undef _
      | false => exact .subE (had _ _ (ne e) ha) hv
  | @sub p k' i n B cap c ha h hcap =>
    unfold tabV
    cases e : Nat.beq k' k2 with
    | true => exact .undef _
    | false =>
      cases e2 : Nat.beq k' k with
      | true => exact .undef _
      | false => exact .sub (had _ _ (ne e) ha) (hinn _ _ _ (ne e2) h) hcap
  | @psub p k' i j B c ha h =>
    unfold tabV
    cases e : Nat.beq k' k2 with
    | true => exact .undef _
    | false =>
      cases e2 : Nat.beq k' k with
      | true => exact .undef _
      | false => exact .psub (had _ _ (ne e) ha) (hinn _ _ _ (ne e2) h)
  | fn a hs hr ih =>
    refine .fn a (by rw [length_tabL]; exact hs) (fun i x hx => ?_)
    obtain ⟨y, hy, rfl⟩ := nth_tabL hx
    exact ih i y hy
  | agg a hs hr ih =>
    refine .agg a (by rw [length_tabL]; exact hs) (fun i x hx => ?_)
    obtain ⟨y, hy, rfl⟩ := nth_tabL hx
    exact ih i y hy
  | av a hs hr => exact .av a hs (fun i hi j hj => hc (hr i hi j hj))
  | tup a hs hr ih =>
    refine .tup a (by rw [length_tabL]; exact hs) (fun i x hx => ?_)
    obtain ⟨y, hy, rfl⟩ := nth_tabL hx
    exact ih i y hy
  | undef v => exact .undef v

/-- What becomes of memory when row k2 becomes row i of table k. -/
structure TabTo (w : World) (O O' : Nat → Own) (ad ad' : List Nat) (k i k2 : Nat) : Prop where
  im : ∀ B o, im O B o → im O' B o
  fix : ∀ B, (O B).fixed → O' B = O B
  mem : ∀ B, (O B).mem → (O' B).mem ∨ (O' B).fixed
  lst : ∀ B p fill, O B = .lst p fill → O' B = .lst p fill
  inn : ∀ B k' i', (k' ≠ k ∨ i' ≠ i) → O B = .inn k' i' → O' B = .inn k' i'
  blk : ∀ B k', k' ≠ k2 → O B = .blk k' → O' B = .blk k'
  adr : ∀ k' c, k' ≠ k2 → nth ad k' = some c → nth ad' k' = some c
  len : ad'.length = ad.length
  fresh : Fresh w O'
  old : ∃ c, nth ad' k2 = some c ∧ (c = 0 ∨ ∃ B arr ty, c = B + 1 ∧ O' B = .blk k2 ∧ w.heap[B]? = some (.cells arr ty (0, 0)))

theorem Sat.moveIn (hS : Sat st a w O ad) {O' : Nat → Own} {ad' : List Nat} {k i k2 n q n2 B0 : Nat} {m : Nat → Nat} {el el2 : Nat → Nat → PV} {ow2 : Nat → Nat → Bool} {arr0 : Array Value} {ty0 : TypeId} {v : Value} (ht : TabTo w O O' ad ad' k i k2)
    (hk : nth st.heap k = some (.mat n m el)) (hk2 : nth st.heap k2 = some (.row 1 n2 el2 ow2)) (hne : k ≠ k2) (hnb : st.nb ≤ k2) (hi : i < n) (g1 : nth ad k = some (B0 + 1)) (g2 : O B0 = .blk k) (g3 : w.heap[B0]? = some (.cells arr0 ty0 (0, 0)))
    (g4 : n ≤ arr0.size) (g5 : ∀ i, i < n → Hdr w O k i (m i) (el i) (arr0.getD i undef)) (hh : Hdr w O' k i q (fun b => el2 b 0) v) :
    Step w O (World.setBlk w B0 (arr0.setIfInBounds i v) ty0) O' ∧ Sat (tabSt st k i q k2 n m el el2) a (World.setBlk w B0 (arr0.setIfInBounds i v) ty0) O' ad' := by
  have hB0 : O' B0 = .blk k := ht.blk _ _ hne g2
  -- the store alone
  have st2 : Step w O' (World.setBlk w B0 (arr0.setIfInBounds i v) ty0) O' := by
    refine ⟨fun C arr2 ty2 fz hC => ?_, rfl, rfl, rfl, by rw [setBlk_size]; exact Nat.le_refl _, fun C q hC hi => ⟨hi, ?_⟩, fun C hC hf => ⟨rfl, ?_⟩, fun C _ h => .inl h⟩
    · by_cases e : C = B0
      · subst e
        rw [g3] at hC
        simp only [Option.some.injEq, Obj.cells.injEq] at hC
        obtain ⟨rfl, rfl, rfl⟩ := hC
        exact ⟨_, setBlk_at g3, by simp⟩
      · exact ⟨arr2, by rw [setBlk_ne e]; exact hC, rfl⟩
    · have : C ≠ B0 := by rintro rfl; simp [Fw.im, hB0] at hi
      simp only [World.cell?, setBlk_ne this]
    · exact setBlk_ne (by rintro rfl; rw [hB0] at hf; exact hf.elim)
  have st1 : Step w O w O' := ⟨fun _ arr _ _ h => ⟨arr, h, rfl⟩, rfl, rfl, rfl, Nat.le_refl _, fun B o _ h => ⟨ht.im B o h, rfl⟩, fun B _ hf => ⟨ht.fix B hf, rfl⟩, fun B _ h => ht.mem B h⟩
  have hka : ∀ p, KeptAt w O' (World.setBlk w B0 (arr0.setIfInBounds i v) ty0) O' p := fun p => ⟨fun q C fill _ _ hC => ⟨hC, setBlk_ne (by rintro rfl; rw [hB0] at hC; simp at hC)⟩, fun _ _ _ j C _ hC => ⟨hC, setBlk_ne (by rintro rfl; rw [hB0] at hC; simp at hC)⟩⟩
  have keep : ∀ {p : Pos} {x : AVal} {u : Value}, VRel w O ad p x u → VRel (World.setBlk w B0 (arr0.setIfInBounds i v) ty0) O' ad' p (tabV k k2 x) u := fun h =>
    (h.tab (fun B o _ hi => ht.im B o hi) ht.lst (fun B k' i' hk' h => ht.inn B k' i' (.inl hk') h) ht.adr).step st2 (InnK.refl _) (fun _ _ h => h) (hka _)
  have hdr : ∀ {k' i' m' : Nat} {e : Nat → PV} {u : Value}, (k' ≠ k ∨ i' ≠ i) → Hdr w O k' i' m' e u → Hdr (World.setBlk w B0 (arr0.setIfInBounds i v) ty0) O' k' i' m' e u := fun {k' i' m' e u} hn h =>
    (h.step st1 fun B hB => ⟨ht.inn B k' i' hn hB, rfl⟩).step st2 fun B hB => ⟨hB, setBlk_ne (by rintro rfl; rw [hB0] at hB; simp at hB)⟩
  have hkl := nth_lt hk
  have hkl2 := nth_lt hk2
  refine ⟨st1.trans st2, ⟨hS.env.1, fun d => ?_⟩, fun j c0 hc => ?_, ?_, fun k' hk' => ?_, hS.dn, ⟨fun C hC => ht.fresh.fr C (by rwa [setBlk_size] at hC), ht.fresh.uni⟩⟩
  · show VRel _ _ _ (.tmp d) (get (tabE k k2 st.env) d) _
    rw [get_tabE]
    exact keep (hS.env.2 d)
  · have hc : nth (setBlkL (setBlkL (tabH k k2 st.heap) k2 (.row 1 0 (fun _ _ => .junk) fun _ _ => false)) k (.mat n (fun a => bif Nat.beq a i then q else m a) fun a b => bif Nat.beq a i then el2 b 0 else el a b)) j = some c0 := hc
    rw [setBlkL_eq, setBlkL_eq, nth_set _ _ _ _ (by rw [List.length_set, length_tabH]; exact hkl)] at hc
    by_cases e : j = k
    · subst e
      rw [if_pos rfl] at hc
      obtain rfl := Option.some.inj hc
      refine ⟨B0 + 1, ht.adr _ _ hne g1, .inr ⟨B0, .cells (arr0.setIfInBounds i v) ty0 (0, 0), rfl, hB0, setBlk_at g3, rfl, by simpa using g4, fun b hb => ?_⟩⟩
      rw [getD_set (by omega)]
      by_cases e2 : i = b
      · subst e2
        rw [if_pos rfl]
        simp only [beq_tt, cond_true]
        exact hh.step st2 fun B hB => ⟨hB, setBlk_ne (by rintro rfl; rw [hB0] at hB; simp at hB)⟩
      · rw [if_neg e2]
        simp only [beq_ff (Ne.symm e2), cond_false]
        exact hdr (.inr (Ne.symm e2)) (g5 b hb)
    · rw [if_neg e, nth_set _ _ _ _ (by rw [length_tabH]; exact hkl2)] at hc
      by_cases e2 : j = k2
      · subst e2
        rw [if_pos rfl] at hc
        obtain rfl := Option.some.inj hc
        obtain ⟨c, h1, rfl | ⟨B, arr, ty, rfl, h2, h3⟩⟩ := ht.old
        · exact ⟨0, h1, .inl ⟨rfl, rfl⟩⟩
        · have hne2 : B ≠ B0 := by rintro rfl; rw [hB0] at h2; simp at h2; exact hne h2
          exact ⟨B + 1, h1, .inr ⟨B, .cells arr ty (0, 0), rfl, h2, (setBlk_ne hne2).trans h3, rfl, by simp, fun i hi => by omega⟩⟩
      · rw [if_neg e2] at hc
        obtain ⟨c1, hc0, rfl⟩ := nth_tabH hc
        obtain ⟨d, h1, ⟨h2, hg⟩ | ⟨B2, x, rfl, h2, h3, h4⟩⟩ := hS.heap j c1 hc0
        · exact ⟨d, ht.adr _ _ e2 h1, .inl ⟨h2, tabB_ghost.2 hg⟩⟩
        have hB2 : B2 ≠ B0 := by rintro rfl; rw [g2] at h2; simp at h2; exact e h2.symm
        refine ⟨B2 + 1, ht.adr _ _ e2 h1, .inr ⟨B2, x, rfl, ht.blk _ _ e2 h2, (setBlk_ne hB2).trans h3, ?_⟩⟩
        cases x with
        | cells arr2 ty2 fz =>
          have h' : fz = (0, 0) ∧ BlkRel w O ad j arr2 c1 := by cases c1 <;> exact h4
          have : BlkRel (World.setBlk w B0 (arr0.setIfInBounds i v) ty0) O' ad' j arr2 (tabB k k2 c1) := by
            cases c1 with
            | box cs =>
              refine ⟨by rw [length_tabL]; exact h'.2.1, fun b y hy => ?_⟩
              obtain ⟨z, hz, rfl⟩ := nth_tabL hy
              exact keep (h'.2.2 b z hz)
            | row sz n el ow => exact ⟨h'.2.1, fun b hb c hc => keep (h'.2.2 b hb c hc)⟩
            | mp q has val => exact h'.2.elim
            | mat n m el => exact ⟨h'.2.1, fun b hb => hdr (.inl e) (h'.2.2 b hb)⟩
          cases c1 <;> exact ⟨h'.1, this⟩
        | map es c =>
          cases c1 with
          | mp q has val => exact ⟨h4.ok, h4.apart, h4.has, fun e he => ((h4.val e he).chg0 fun B o _ hi => ht.im B o hi).step st2 (InnK.refl _) (fun _ _ h => h) .no⟩
          | _ => exact h4.elim
        | _ => cases c1 <;> exact h4.elim
  · show ad'.length = (setBlkL (setBlkL (tabH k k2 st.heap) k2 _) k _).length
    rw [setBlkL_eq, setBlkL_eq, List.length_set, List.length_set, length_tabH, ht.len]
    exact hS.len
  · have hk' : k' < st.nb := hk'
    exact ht.adr _ _ (by omega) (hS.pin k' hk')

/-- the block that was row i of table k is given up -/
def clr (O : Nat → Own) (k i : Nat) : Nat → Own := fun B =>
  match O B with
  | .inn a b => bif Nat.beq a k && Nat.beq b i then .free else .inn a b
  | x => x

theorem clr_no {k i B : Nat} (h : ∀ a b, O B ≠ .inn a b) : clr O k i B = O B := by
  unfold clr
  cases hO : O B <;> first | rfl | exact absurd hO (h _ _)

theorem clr_inn {k i B k' i' : Nat} (hn : k' ≠ k ∨ i' ≠ i) (h : O B = .inn k' i') : clr O k i B = .inn k' i' := by
  unfold clr
  rw [h]
  have : (Nat.beq k' k && Nat.beq i' i) = false := by
    rcases hn with hn | hn
    · rw [beq_ff hn]; rfl
    · rw [beq_ff hn]; simp
  simp only [this, cond_false]

theorem clr_inn' {k i B k' i' : Nat} (h : clr O k i B = .inn k' i') : O B = .inn k' i' ∧ ¬ (k' = k ∧ i' = i) := by
  unfold clr at h
  cases hO : O B with
  | inn a b =>
    rw [hO] at h
    cases hb : (Nat.beq a k && Nat.beq b i) with
    | true => simp [hb] at h
    | false =>
      simp [hb] at h
      obtain ⟨rfl, rfl⟩ := h
      refine ⟨rfl, fun ⟨e1, e2⟩ => ?_⟩
      subst e1 e2
      simp at hb
  | _ => rw [hO] at h; simp at h

theorem clr_im {k i B o : Nat} (h : im O B o) : im (clr O k i) B o := by
  unfold im at *
  rw [clr_no (fun a b e => by rw [e] at h; exact h)]
  exact h

theorem clr_to (hf : Fresh w O) {k i k2 : Nat} (hold : ∃ c, nth ad k2 = some c ∧ (c = 0 ∨ ∃ B arr ty, c = B + 1 ∧ O B = .blk k2 ∧ w.heap[B]? = some (.cells arr ty (0, 0)))) : TabTo w O (clr O k i) ad ad k i k2 := by
  refine ⟨fun _ _ h => clr_im h, fun B h => clr_no fun a b e => by rw [e] at h; exact h, fun B h => ?_, fun B p fill h => ?_, fun B k' i' hn h => clr_inn hn h, fun B k' _ h => ?_, fun _ _ _ h => h, rfl, ⟨fun B hB => ?_, fun B B' k' i' h1 h2 => hf.uni _ _ _ _ (clr_inn' h1).1 (clr_inn' h2).1⟩, ?_⟩
  · unfold clr
    cases hO : O B with
    | inn a b => simp only; cases (Nat.beq a k && Nat.beq b i) <;> simp [Own.mem, Own.fixed]
    | blk j => exact .inl trivial
    | _ => rw [hO] at h; exact h.elim
  · rw [clr_no (fun a b e => by rw [h] at e; simp at e)]; exact h
  · rw [clr_no (fun a b e => by rw [h] at e; simp at e)]; exact h
  · have := hf.fr B hB
    rw [clr_no (fun a b e => by rw [this] at e; simp at e)]; exact this
  · obtain ⟨c, h1, h2 | ⟨B, arr, ty, h2, h3, h4⟩⟩ := hold
    · exact ⟨c, h1, .inl h2⟩
    · exact ⟨c, h1, .inr ⟨B, arr, ty, h2, by rw [clr_no (fun a b e => by rw [h3] at e; simp at e)]; exact h3, h4⟩⟩

theorem upd_to (hf : Fresh w O) {k i k2 B2 : Nat} (h2 : O B2 = .blk k2) (hlt : B2 < w.heap.size) (had : k2 < ad.length) : TabTo w O (upd (clr O k i) B2 (.inn k i)) ad (ad.set k2 0) k i k2 := by
  have hne : ∀ B, O B ≠ .blk k2 → upd (clr O k i) B2 (.inn k i) B = clr O k i B := fun B h => upd_ne _ _ (by rintro rfl; exact h h2)
  refine ⟨fun B o h => ?_, fun B h => ?_, fun B h => ?_, fun B p fill h => ?_, fun B k' i' hn h => ?_, fun B k' hk' h => ?_, fun k' c hk' h => ?_, by simp, ⟨fun B hB => ?_, fun B B' k' i' g1 g2 => ?_⟩, 0, by rw [nth_set _ _ _ _ had, if_pos rfl], .inl rfl⟩
  · unfold im
    rw [hne B (by intro e; unfold im at h; rw [e] at h; exact h)]
    exact clr_im h
  · rw [hne B (by intro e; rw [e] at h; exact h)]
    exact clr_no fun a b e => by rw [e] at h; exact h
  · by_cases e : B = B2
    · subst e; rw [upd_same]; exact .inl trivial
    · rw [upd_ne _ _ e]
      unfold clr
      cases hO : O B with
      | inn a b => simp only; cases (Nat.beq a k && Nat.beq b i) <;> simp [Own.mem, Own.fixed]
      | blk j => exact .inl trivial
      | _ => rw [hO] at h; exact h.elim
  · rw [hne B (by rw [h]; simp), clr_no (fun a b e => by rw [h] at e; simp at e)]; exact h
  · rw [hne B (by rw [h]; simp)]; exact clr_inn hn h
  · rw [hne B (by rw [h]; simp; exact hk'), clr_no (fun a b e => by rw [h] at e; simp at e)]; exact h
  · rw [nth_set _ _ _ _ had, if_neg hk']; exact h
  · have := hf.fr B hB
    rw [hne B (by rw [this]; simp), clr_no (fun a b e => by rw [this] at e; simp at e)]; exact this
  · by_cases e1 : B = B2
    · by_cases e2 : B' = B2
      · rw [e1, e2]
      · exfalso
        subst e1
        rw [upd_same] at g1
        rw [upd_ne _ _ e2] at g2
        simp at g1
        exact (clr_inn' g2).2 ⟨g1.1.symm, g1.2.symm⟩
    · rw [upd_ne _ _ e1] at g1
      by_cases e2 : B' = B2
      · exfalso
        subst e2
        rw [upd_same] at g2
        simp at g2
        exact (clr_inn' g1).2 ⟨g2.1.symm, g2.2.symm⟩
      · rw [upd_ne _ _ e2] at g2
        exact hf.uni _ _ _ _ (clr_inn' g1).1 (clr_inn' g2).1

theorem storeTab_ok (hT : TabOk P T) (hS : Sat st a w O ad) {t : TypeId} {x addr : Operand} (ho : o.op = .store t addr x) (hdst : o.dst = none) (h : storeTabOp T st t (ev st.env addr) (ev st.env x) K) : OpOk P o a w O Q K := by
  unfold storeTabOp at h
  split at h
  case h_2 => exact h.elim
  rename_i ti k sz i j k2 sz2 off2 q hti ha hx
  split at h
  case h_2 => exact h.elim
  rename_i n m el s2 n2 el2 ow2 hk hk2
  obtain ⟨hb, ⟨hi, hq⟩, hK⟩ := needC h
  obtain ⟨e1, hb⟩ := andE hb
  obtain ⟨e2, hb⟩ := andE hb
  obtain ⟨e3, hb⟩ := andE hb
  obtain ⟨e4, hb⟩ := andE hb
  obtain ⟨e5, hb⟩ := andE hb
  obtain ⟨e6, hb⟩ := andE hb
  obtain ⟨e7, e8⟩ := andE hb
  have e1 := beqE e1
  have e2 := beqE e2
  have e3 := beqE e3
  have e4 := beqE e4
  have e5 := beqE e5
  have e6 := beqE e6
  have e7 := nbeqE e7
  have e8 := Nat.le_of_ble_eq_true e8
  subst e1 e2 e4 e5 e6
  obtain ⟨B0, arr0, ty0, g1, g2, g3, g4, g5⟩ := hS.heap.cells hk rfl (fun h => h)
  have hv := hS.ev addr
  rw [ha] at hv
  have haddr : a.eval addr = .pointer (some ⟨B0, i, none⟩) := by
    revert hv
    generalize a.eval addr = u
    intro hv
    cases hv with
    | ptr hk' =>
      rw [g1] at hk'
      obtain rfl := Nat.succ.inj (Option.some.inj hk')
      rw [show i * 1 + 0 = i by omega]
  have hvx := hS.ev x
  rw [hx] at hvx
  have key : ∃ O' ad', TabTo w O O' ad ad' k i k2 ∧ Hdr w O' k i q (fun b => el2 b 0) (a.eval x) ∧ oneC (a.eval x) = true := by
    obtain ⟨c2, h1, hor⟩ := hS.heap k2 _ hk2
    have hold : ∃ c, nth ad k2 = some c ∧ (c = 0 ∨ ∃ B arr ty, c = B + 1 ∧ O B = .blk k2 ∧ w.heap[B]? = some (.cells arr ty (0, 0))) := by
      refine ⟨c2, h1, ?_⟩
      rcases hor with ⟨h2, _⟩ | ⟨B, y, h2, h3, h4, h5⟩
      · exact .inl h2
      · cases y with
        | cells arr ty fz =>
          obtain ⟨rfl, _⟩ : fz = (0, 0) ∧ _ := h5
          exact .inr ⟨B, arr, ty, h2, h3, h4⟩
        | _ => exact h5.elim
    revert hvx
    generalize a.eval x = v
    intro hvx
    cases hvx with
    | arrE _ hv' => exact ⟨_, _, clr_to hS.fresh hold, .inl ⟨rfl, hv'⟩, by rcases hv' with rfl | ⟨_, rfl⟩ <;> rfl⟩
    | @arr _ _ _ _ _ B2 cap hk3 hcap hr =>
      obtain ⟨B3, arr, ty, f1, f2, f3, f4, f5⟩ := hS.heap.cellsB hk2 rfl hk3
      obtain rfl := f1
      have hlt : B2 < w.heap.size := (Array.getElem?_eq_some_iff.1 f3).1
      have ht := upd_to (k := k) (i := i) (ad := ad) hS.fresh f2 hlt (nth_lt h1)
      refine ⟨_, _, ht, .inr ⟨B2, cap, arr, ty, by simp, upd_same _ _ _, f3, hcap, ?_, fun b hb => ?_⟩, rfl⟩
      · obtain ⟨a2, t2, fz, r1, r2⟩ := hr
        rw [f3] at r1
        simp only [Option.some.injEq, Obj.cells.injEq] at r1
        obtain ⟨rfl, _, _⟩ := r1
        simpa using r2
      · have := prel_of (f5 b (by omega) 0 (by omega))
        rw [show b * 1 + 0 = b by omega] at this
        exact this.change fun B o _ hi => ⟨ht.im B o hi, rfl⟩
  obtain ⟨O', ad', ht, hh, hone⟩ := key
  have hcl := cells_one hone
  have hst := run_store (P := P) (o := i) (v := a.eval x) g3 (by omega) hone
  obtain ⟨s1, s2⟩ := hS.moveIn ht hk hk2 e7 e8 hi g1 g2 g3 g4 g5 hh
  have hput : ∀ v, a.put o.dst v = a := fun v => by rw [hdst]; rfl
  refine .skip (w' := World.setBlk w B0 (arr0.setIfInBounds i (a.eval x)) ty0) (ad' := ad') ?_ hK ?_ s1 (by rw [ho]; rfl)
  · have hrun : (Instr.storeAt t (a.eval addr) (a.eval x)).run P w = .ok () (World.setBlk w B0 (arr0.setIfInBounds i (a.eval x)) ty0) := by
      rw [haddr]
      simp only [Instr.storeAt, Instr.sureAddr, run_bind, run_pure, storeVar, run_sizeOf_of hT hti]
      rw [if_neg (by rw [hcl]; simp [e3])]
      rw [hcl]
      simp only [storeCells, run_bind, add_none, Nat.add_zero, hst, run_pure]
    unfold execOp; simp only [ho, run_bind, hrun, run_pure]
  · rw [hput]
    exact s2

theorem Sat.freeRow (hS : Sat st a w O ad) {k s m : Nat} {el : Nat → Nat → PV} {ow : Nat → Nat → Bool} (hk : nth st.heap k = some (.row s m el ow)) (hnb : st.nb ≤ k) :
    (∃ B O' ad', nth ad k = some (B + 1) ∧ O' = upd O B .free ∧ Sat (frzRSt st k) a w O' ad' ∧ Step w O w O') ∨ (nth ad k = some 0 ∧ Sat (frzRSt st k) a w O ad) := by
  obtain ⟨c, h1, ⟨rfl, hg⟩ | ⟨B, x, rfl, h2, h3, h4⟩⟩ := hS.heap k _ hk
  · right
    refine ⟨h1, ?_⟩
    have hg : m = 0 := hg
    subst hg
    have := (hS.drop k).row0 (s' := 0) (el' := fun _ _ => .junk) (ow' := fun _ _ => false) (nth_dropH' (k := k) hk)
    rw [← setBlkL_eq] at this
    exact this
  left
  have hlt : B < w.heap.size := (Array.getElem?_eq_some_iff.1 h3).1
  have hne : ∀ C, C ≠ B → upd O B .free C = O C := fun C h => upd_ne _ _ h
  have him : ∀ C o, C < w.heap.size → im O C o → im (upd O B .free) C o := fun C o _ hi => by
    by_cases e : C = B
    · subst e; simp [im, upd_same]
    · unfold im at hi ⊢; rw [hne C e]; exact hi
  have hlst : ∀ C p fill, O C = .lst p fill → upd O B .free C = .lst p fill := fun C p fill h => by
    rw [hne C (by rintro rfl; rw [h2] at h; simp at h)]; exact h
  have hst : Step w O w (upd O B .free) := by
    refine ⟨fun _ arr _ _ h => ⟨arr, h, rfl⟩, rfl, rfl, rfl, Nat.le_refl _, fun C o hC hi => ⟨him C o hC hi, rfl⟩, fun C _ hf => ⟨hne C (by rintro rfl; rw [h2] at hf; exact hf.elim), rfl⟩, fun C _ hj => ?_⟩
    by_cases e : C = B
    · subst e; exact .inr (by rw [upd_same]; trivial)
    · exact .inl (by rw [hne C e]; exact hj)
  have hin : InnK O (upd O B .free) := fun C j i hC => by rw [hne C (by rintro rfl; rw [h2] at hC; simp at hC)]; exact hC
  have huni : Uni (upd O B .free) := fun C C' j i g1 g2 => by
    have bk : ∀ D, upd O B .free D = .inn j i → O D = .inn j i := fun D h => by
      by_cases e : D = B
      · subst e; rw [upd_same] at h; simp at h
      · rwa [hne D e] at h
    exact hS.fresh.uni _ _ _ _ (bk _ g1) (bk _ g2)
  have hkl : k < ad.length := nth_lt h1
  have had : ∀ k' B', (!Nat.beq k' k) = true → nth ad k' = some B' → nth (ad.set k 0) k' = some B' := fun k' B' h1 h2 => by
    have hne : k' ≠ k := fun e => by subst e; simp at h1
    rw [nth_set _ _ _ _ hkl, if_neg hne]; exact h2
  have keep : ∀ {p : Pos} {x : AVal} {v : Value}, VRel w O ad p x v → VRel w (upd O B .free) (ad.set k 0) p (dropV k x) v := fun {p x v} h => by
    have := (h.drop (k := k)).renum (g := fun k => k) (ok := fun k' => !Nat.beq k' k) (ad' := ad.set k 0) (O' := upd O B .free) him had p (fun hn => ⟨hn, fun C fill hC => hlst C _ _ hC⟩) (fun i hn => ⟨hn, fun C fill hC => hlst C _ _ hC⟩) (okV_drop x) (.inl fun C j i _ _ _ h => hin C j i h)
    rwa [renV_id] at this
  refine ⟨B, upd O B .free, ad.set k 0, h1, rfl, ⟨⟨hS.env.1, fun d => ?_⟩, fun i c0 hc => ?_, ?_, fun k' hk' => ?_, hS.dn, ⟨fun C hC => ?_, huni⟩⟩, hst⟩
  · show VRel _ _ _ (.tmp d) (get (dropE k st.env) d) _
    rw [get_dropE]; exact keep (hS.env.2 d)
  · have hkl' : k < (dropH k st.heap).length := by rw [length_dropH]; exact nth_lt hk
    have hc : nth (setBlkL (dropH k st.heap) k (.row 0 0 (fun _ _ => .junk) fun _ _ => false)) i = some c0 := hc
    rw [setBlkL_eq, nth_set _ _ _ _ hkl'] at hc
    by_cases e : i = k
    · subst e
      rw [if_pos rfl] at hc
      obtain rfl := Option.some.inj hc
      exact ⟨0, by rw [nth_set _ _ _ _ hkl, if_pos rfl], .inl ⟨rfl, rfl⟩⟩
    · rw [if_neg e] at hc
      obtain ⟨c1, hc0, rfl⟩ := nth_dropH hc
      obtain ⟨d, g1, ⟨g2, hg⟩ | ⟨B2, x, rfl, g2, g3, g4⟩⟩ := hS.heap i c1 hc0
      · exact ⟨d, by rw [nth_set _ _ _ _ hkl, if_neg e]; exact g1, .inl ⟨g2, dropB_ghost.2 hg⟩⟩
      have hB2 : B2 ≠ B := by rintro rfl; rw [h2] at g2; simp at g2; exact e g2.symm
      refine ⟨B2 + 1, by rw [nth_set _ _ _ _ hkl, if_neg e]; exact g1, .inr ⟨B2, x, rfl, by rw [hne B2 hB2]; exact g2, g3, ?_⟩⟩
      cases x with
      | cells arr2 ty2 fz =>
        have h' : fz = (0, 0) ∧ BlkRel w O ad i arr2 c1 := by cases c1 <;> exact g4
        have : BlkRel w (upd O B .free) (ad.set k 0) i arr2 (dropB k c1) := by
          cases c1 with
          | box cs =>
            refine ⟨by rw [length_dropL]; exact h'.2.1, fun q y hy => ?_⟩
            obtain ⟨z, hz, rfl⟩ := nth_dropL hy
            exact keep (h'.2.2 q z hz)
          | row sz n el ow => exact ⟨h'.2.1, fun q hq j hj => keep (h'.2.2 q hq j hj)⟩
          | mp q has val => exact h'.2.elim
          | mat n m el => exact ⟨h'.2.1, fun q hq => (h'.2.2 q hq).step hst fun B hB => ⟨hin B i q hB, rfl⟩⟩
        cases c1 <;> exact ⟨h'.1, this⟩
      | map es c =>
        cases c1 with
        | mp q has val => exact ⟨g4.ok, g4.apart, g4.has, fun e he => (g4.val e he).step hst hin (fun _ _ h => h) .no⟩
        | _ => exact g4.elim
      | _ => cases c1 <;> exact g4.elim
  · show (ad.set k 0).length = (setBlkL (dropH k st.heap) k _).length
    rw [setBlkL_eq]
    simp [hS.len, length_dropH]
  · have hk' : k' < st.nb := hk'
    rw [nth_set _ _ _ _ hkl, if_neg (by omega)]; exact hS.pin k' hk'
  · rw [hne C (by rintro rfl; omega)]; exact hS.fresh.fr C hC

theorem frzRow_core (hS : Sat st a w O ad) {t : Nat} (ho : o.op = .move (.tmp t)) (hd : okDst st o.dst = true) (h : frzRowOp T st o.dst t K) :
    ∃ st' v O' ad', K st' ∧ Sat st' (a.put o.dst v) w O' ad' ∧ (∀ B q, live O' B q ↔ live O B q) ∧ Step w O w O' ∧ ∀ w', (execOp a.eval o).run P w' = .ok (.value v) w' := by
  have hrun : ∀ w', (execOp a.eval o).run P w' = .ok (.value (a.tmps.getD t undef)) w' := fun w' => by
    unfold execOp; rw [ho]; rfl
  have hv := hS.env.2 t
  unfold frzRowOp at h
  split at h
  case h_2 => exact h.elim
  rename_i k s o' n hg
  rw [hg] at hv
  split at h
  case h_2 => exact h.elim
  rename_i s' m el ow hk
  obtain ⟨hb, hle, hK⟩ := needC h
  obtain ⟨e1, e2⟩ := andE hb
  have e1 := beqE e1
  have e2 := Nat.le_of_ble_eq_true e2
  subst e1
  have hd' : okDst (frzRSt st k) o.dst = true := by cases hdd : o.dst <;> simp_all [okDst, frzRSt]
  have val : ∀ {O' : Nat → Own} {ad' : List Nat}, (∀ B, nth ad k = some (B + 1) → O' B = .free) → Step w O w O' → VRel w O' ad' (dpos o.dst) (.pv false (.lst s .any n fun i j => el (o' + i) j)) (a.tmps.getD t undef) := by
    intro O' ad' hO' hst
    revert hv
    generalize a.tmps.getD t undef = u
    intro hv
    cases hv with
    | arrE _ hv =>
      rcases hv with rfl | ⟨b, rfl⟩
      · exact .pv (.lstNil (by simp) (by simp))
      · exact .pv (.lstE b (by simp))
    | @arr _ _ _ _ _ B cap hk' hc _ =>
      obtain ⟨B', arr, ty, h1, h2, h3, h4, h5⟩ := hS.heap.cellsB hk rfl hk'
      obtain rfl := h1
      have hf := hO' B hk'
      refine .pv (.lst (fun i j => arr.getD ((o' + i) * s + j) undef) (fun i hi j hj => ⟨?_, by simp [im, hf]⟩) (fun i hi j hj => ?_) hc (by simp) (by simp))
      · have hlt : (o' + i) * s + j < arr.size := Nat.lt_of_lt_of_le (idx_lt (n := m) (by omega) hj) h4
        rw [show o' * s + i * s + j = (o' + i) * s + j by rw [Nat.add_mul]]
        exact cell_of_block' h3 hlt
      · exact (prel_of (h5 (o' + i) (by omega) j hj)).step hst
  rcases hS.freeRow hk e2 with ⟨B, O', ad', h1, rfl, h2, h3⟩ | ⟨h1, h2⟩
  · have hO := (hS.heap.realB hk h1).choose_spec.1
    refine ⟨_, _, _, ad', hK, h2.put hd' fun _ => val (fun B' hB' => ?_) h3, fun C q => ?_, h3, hrun⟩
    · rw [h1] at hB'
      obtain rfl := Nat.succ.inj (Option.some.inj hB')
      exact upd_same _ _ _
    · by_cases e : C = B
      · subst e; simp [live, upd_same, hO]
      · unfold Fw.live; rw [upd_ne _ _ e]
  · refine ⟨_, _, O, ad, hK, h2.put hd' fun _ => val (fun B' hB' => ?_) (Step.refl _ _), fun _ _ => Iff.rfl, Step.refl _ _, hrun⟩
    rw [h1] at hB'
    simp at hB'

end
end Go.Proofs.Ytgghnfmabphbmaa.Fw
