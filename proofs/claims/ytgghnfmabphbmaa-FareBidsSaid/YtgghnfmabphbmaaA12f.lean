/- What is not written any more. -/
import Derived.Test.YtgghnfmabphbmaaA12e
namespace Go.Proofs.Ytgghnfmabphbmaa.Fw
open Go
set_option linter.unusedSimpArgs false
set_option linter.unusedVariables false

/-- a cell of a result; blocks below nb are a caller's -/
def frz1 (cc : Bool) (nb : Nat) (H : List Blk) (v : AVal) (K : PV → Prop) : Prop :=
  match v with
  | .pv _ p => K p
  | .arr k sz off n =>
    match nth H k with
    | some (.row s m el _) => need (Nat.ble nb k && Nat.beq sz s) <| cnd cc (off + n ≤ m) <| K (.lst sz .any n fun i j => el (off + i) j)
    | _ => False
  | _ => False

/-- cells of a variable that nobody writes any more -/
def frzK (cc : Bool) (nb : Nat) (H : List Blk) : List AVal → (List PV → Prop) → Prop
  | [], K => K []
  | v :: r, K => frz1 cc nb H v fun p => frzK cc nb H r fun ps => K (p :: ps)

def nthP : List PV → Nat → PV
  | [], _ => .junk
  | p :: _, 0 => p
  | _ :: r, i + 1 => nthP r i

def lenP : List PV → Nat
  | [] => 0
  | _ :: r => lenP r + 1

def cellK (cc : Bool) (nb : Nat) (H : List Blk) (v : AVal) (K : AVal → Prop) : Prop :=
  match v with
  | .pv _ p => K (.pv false p)
  | .arr k sz off n =>
    match nth H k with
    | some (.row s m el _) => need (Nat.ble nb k && Nat.beq sz s) <| cnd cc (off + n ≤ m) <| K (.pv false (.lst sz .any n fun i j => el (off + i) j))
    | some (.mat q m el) => need (Nat.ble nb k && Nat.beq sz 1) <| cnd cc (off + n ≤ q) <| K (.pv false (.lst 1 .any n (tblR (shM off m) (shE off el))))
    | _ => False
  | .sub k i n =>
    match nth H k with
    | some (.mat q m el) => need (Nat.ble nb k) <| cnd cc (i < q ∧ n ≤ m i) <| K (.pv false (.lst 1 .any n fun j _ => el i j))
    | _ => False
  | .ptr k s i j => bif Nat.blt k nb then K (.ptr k s i j) else match nth H k with
    | some (.box cs) => frzK cc nb H cs fun ps => K (.pv false (.cptr (lenP ps) (nthP ps) (i * s + j)))
    | _ => False
  | .mref k => need (Nat.blt k nb) (K (.mref k))
  | _ => False

def cellsK (cc : Bool) (nb : Nat) (H : List Blk) : List AVal → (List AVal → Prop) → Prop
  | [], K => K []
  | v :: r, K => cellK cc nb H v fun x => cellsK cc nb H r fun xs => K (x :: xs)

/-- a result: memory of the call's own is not written any more behind it -/
def retValK (cc : Bool) (nb : Nat) (H : List Blk) (v : AVal) (K : AVal → Prop) : Prop :=
  match v with
  | .pv o p => K (.pv o p)
  | .agg cs => cellsK cc nb H cs fun xs => K (.agg xs)
  | .av sz n el => K (.av sz n el)
  | v => cellK cc nb H v K

def fin (nb : Nat) (O : Nat → Own) : Nat → Own := fun B =>
  match O B with
  | .blk k => bif Nat.blt k nb then .blk k else .free
  | .inn k i => bif Nat.blt k nb then .inn k i else .free
  | x => x

/-- a call that is handed no memory; what it returns is not written any more -/
def callFrzOp (T : Tab) (st : St) (dst : Option Nat) (fv : AVal) (args : List AVal) (K : St → Prop) : Prop :=
  match calleeOf fv with
  | some (f, caps) =>
    match T.inl f with
    | some W => need (pureL (shedL args ++ caps)) <| W (shedL args ++ caps) [] fun r L' => retValK T.conc 0 L' r fun x => K (st.put dst x)
    | none => False
  | none => False

/-- what leads to a variable that is not written any more -/
def frzBV (k : Nat) (cs : List AVal) (v : AVal) : AVal :=
  match v with
  | .ptr k' s i j => bif Nat.beq k' k then .pv false (.cptr cs.length (pvAt cs) (i * s + j)) else .ptr k' s i j
  | v => dropV k v

def frzBE (k : Nat) (cs : List AVal) : List (Nat × AVal) → List (Nat × AVal)
  | [] => []
  | (d, v) :: r => (d, frzBV k cs v) :: frzBE k cs r

def frzSt (st : St) (k : Nat) (cs : List AVal) : St :=
  ⟨st.nt, frzBE k cs st.env, setBlkL (dropH k st.heap) k (.row 0 0 (fun _ _ => .junk) fun _ _ => false), st.nb, st.pin⟩

/-- the variable that an address leads to is not written any more -/
def frzO (v : AVal) (K : St → Prop) (st : St) : Prop :=
  match v with
  | .ptr k _ _ _ =>
    match nth st.heap k with
    | some (.box cs) => need (Nat.ble st.nb k && allPv cs) (K (frzSt st k cs))
    | _ => False
  | _ => False

/-- a list that has elements, told as one that is nil only if it is empty -/
def iffO (T : Tab) (st : St) (x : Operand) (K : St → Prop) : Prop :=
  match x with
  | .tmp t =>
    match get st.env t with
    | .pv _ (.lst sz _ n el) => cnd T.conc (0 < n) <| K { st with env := (t, .pv false (.lst sz .iff n el)) :: st.env }
    | _ => False
  | _ => False

section
variable {P : Program} {T : Tab} {C : Nat → Shape} {w : World} {O : Nat → Own} {ad : List Nat} {st : St} {a : Act} {o : Oper} {Q : Exit → Act → World → Prop} {K : St → Prop} {cc : Bool}

theorem fin_im {nb B o : Nat} (h : im O B o) : im (fin nb O) B o := by
  unfold im fin at *
  cases hO : O B <;> simp_all

theorem fin_inn {nb B k i : Nat} (hk : Nat.blt k nb = true) (h : O B = .inn k i) : fin nb O B = .inn k i := by simp [fin, h, hk]

theorem fin_inn' {nb B k i : Nat} (h : fin nb O B = .inn k i) : O B = .inn k i := by
  unfold fin at h
  cases hO : O B with
  | blk j => rw [hO] at h; cases hb : Nat.blt j nb <;> simp [hb] at h
  | inn j i' => rw [hO] at h; cases hb : Nat.blt j nb <;> simp [hb] at h; rw [h.1, h.2]
  | _ => rw [hO] at h; simp at h

theorem inn_im {nb k i B : Nat} (h : O B = .inn k i) (hk : Nat.ble nb k = true) (o : Nat) : im (fin nb O) B o := by
  have : Nat.blt k nb = false := Bool.eq_false_iff.2 fun h => by have := bltE h; have := Nat.le_of_ble_eq_true hk; omega
  simp [im, fin, h, this]

theorem fin_step (nb : Nat) (w : World) (O : Nat → Own) : Step w O w (fin nb O) :=
  ⟨fun _ arr _ _ h => ⟨arr, h, rfl⟩, rfl, rfl, rfl, Nat.le_refl _, fun B o _ h => ⟨fin_im h, rfl⟩, fun B _ h => ⟨by unfold fin; cases hO : O B <;> simp_all [Own.fixed], rfl⟩, fun B _ h => by
    unfold fin
    cases hO : O B with
    | blk k => simp only; cases Nat.blt k nb <;> simp [Own.mem, Own.fixed]
    | inn k i => simp only; cases Nat.blt k nb <;> simp [Own.mem, Own.fixed]
    | _ => rw [hO] at h; exact h.elim⟩

theorem fin_lst {nb B fill : Nat} {p : Pos} (h : O B = .lst p fill) : fin nb O B = .lst p fill := by simp [fin, h]

theorem row_im {nb k B : Nat} (h : O B = .blk k) (hk : Nat.ble nb k = true) (o : Nat) : im (fin nb O) B o := by
  have : Nat.blt k nb = false := Bool.eq_false_iff.2 fun h => by have := bltE h; have := Nat.le_of_ble_eq_true hk; omega
  simp [im, fin, h, this]

/-- the caller's numbers of the blocks -/
def SubAd (nb : Nat) (ad bl : List Nat) : Prop := ∀ k B, Nat.blt k nb = true → nth ad k = some B → nth bl k = some B

theorem VRel.fin {nb : Nat} {bl : List Nat} (hb : SubAd nb ad bl) {p : Pos} {x : AVal} {v : Value} (h : VRel w O ad p x v) (hx : okV (fun k => Nat.blt k nb) x = true) : VRel w (Fw.fin nb O) bl p x v := by
  have := h.renum (g := fun k => k) (ok := fun k => Nat.blt k nb) (ad' := bl) (O' := Fw.fin nb O) (fun B o _ hi => fin_im hi) hb p (fun hn => ⟨hn, fun B fill hB => fin_lst hB⟩) (fun i hn => ⟨hn, fun B fill hB => fin_lst hB⟩) hx (.inl fun B k i _ hk _ h => fin_inn hk h)
  rwa [renV_id] at this

theorem frz1_ok {nb : Nat} {bl : List Nat} {H : List Blk} (hH : HeapRel w O ad H) {p : Pos} {v : AVal} {rv : Value} (hv : VRel w O ad p v rv) {K : PV → Prop} (h : frz1 cc nb H v K) : ∃ x, K x ∧ PRel w (fin nb O) x rv := by
  have hs := fin_step nb w O
  unfold frz1 at h
  split at h
  · exact ⟨_, h, (prel_of hv).step hs⟩
  · rename_i k sz off n
    split at h
    · rename_i s m el ow hk
      replace h := needC h
      obtain ⟨e1, hle, h⟩ := h
      obtain ⟨e0, e1⟩ := andE e1
      obtain rfl := beqE e1
      cases hv with
      | arrE _ hv =>
        rcases hv with rfl | ⟨b, rfl⟩
        · exact ⟨_, h, .lstNil (by simp) (by simp)⟩
        · exact ⟨_, h, .lstE b (by simp)⟩
      | @arr _ _ _ _ _ B cap hk' hc _ =>
        obtain ⟨B', arr, ty, h1, h2, h3, h4, h5⟩ := hH.cellsB hk rfl hk'
        obtain rfl := h1
        refine ⟨_, h, (.lst (fun i j => arr.getD ((off + i) * sz + j) undef) (fun i hi j hj => ⟨?_, row_im h2 e0 _⟩) (fun i hi j hj => ?_) hc (by simp) (by simp))⟩
        · have hlt : (off + i) * sz + j < arr.size := Nat.lt_of_lt_of_le (idx_lt (n := m) (by omega) hj) h4
          rw [show off * sz + i * sz + j = (off + i) * sz + j by rw [Nat.add_mul]]
          exact cell_of_block' h3 hlt
        · exact (prel_of (h5 (off + i) (by omega) j hj)).step hs
    · exact h.elim
  · exact h.elim

theorem frzK_ok {nb : Nat} {bl : List Nat} {H : List Blk} (hH : HeapRel w O ad H) {p : Nat → Pos} : ∀ {cs : List AVal} {s : Nat} {K : List PV → Prop} {f : Nat → Value}, (∀ i x, nth cs i = some x → VRel w O ad (p (s + i)) x (f i)) → frzK cc nb H cs K →
    ∃ ps, K ps ∧ lenP ps = cs.length ∧ ∀ i, i < cs.length → PRel w (fin nb O) (nthP ps i) (f i)
  | [], s, K, f, _, h => ⟨[], h, rfl, fun i hi => by simp at hi⟩
  | v :: r, s, K, f, hr, h => by
    obtain ⟨x, hx, h1⟩ := frz1_ok (bl := bl) hH (hr 0 v rfl) h
    obtain ⟨xs, h2, h3, h4⟩ := frzK_ok (bl := bl) hH (p := p) (s := s + 1) (f := fun i => f (i + 1)) (fun i y hy => by have := hr (i + 1) y (by simpa [nth] using hy); rwa [show s + (i + 1) = s + 1 + i by omega] at this) hx
    refine ⟨x :: xs, h2, by simp [lenP, h3], fun i hi => ?_⟩
    cases i with
    | zero => exact h1
    | succ i => exact h4 i (by simpa using hi)

theorem cellK_ok {nb : Nat} {bl : List Nat} (hb : SubAd nb ad bl) {H : List Blk} (hU : Uni O) (hH : HeapRel w O ad H) {p q : Pos} {v : AVal} {rv : Value} (hv : VRel w O ad p v rv) {K : AVal → Prop} (h : cellK cc nb H v K) : ∃ x, K x ∧ VRel w (fin nb O) bl q x rv := by
  have hs := fin_step nb w O
  unfold cellK at h
  split at h
  · exact ⟨_, h, .pv ((prel_of hv).step hs)⟩
  · rename_i k sz off n
    split at h
    · rename_i s m el ow hk
      replace h := needC h
      obtain ⟨e1, hle, h⟩ := h
      obtain ⟨e0, e1⟩ := andE e1
      obtain rfl := beqE e1
      cases hv with
      | arrE _ hv =>
        rcases hv with rfl | ⟨b, rfl⟩
        · exact ⟨_, h, .pv (.lstNil (by simp) (by simp))⟩
        · exact ⟨_, h, .pv (.lstE b (by simp))⟩
      | @arr _ _ _ _ _ B cap hk' hc _ =>
        obtain ⟨B', arr, ty, h1, h2, h3, h4, h5⟩ := hH.cellsB hk rfl hk'
        obtain rfl := h1
        refine ⟨_, h, .pv (.lst (fun i j => arr.getD ((off + i) * sz + j) undef) (fun i hi j hj => ⟨?_, row_im h2 e0 _⟩) (fun i hi j hj => ?_) hc (by simp) (by simp))⟩
        · have hlt : (off + i) * sz + j < arr.size := Nat.lt_of_lt_of_le (idx_lt (n := m) (by omega) hj) h4
          rw [show off * sz + i * sz + j = (off + i) * sz + j by rw [Nat.add_mul]]
          exact cell_of_block' h3 hlt
        · exact (prel_of (h5 (off + i) (by omega) j hj)).step hs
    · rename_i q m el hk
      replace h := needC h
      obtain ⟨e1, hle, h⟩ := h
      obtain ⟨e0, e1⟩ := andE e1
      obtain rfl := beqE e1
      cases hv with
      | arrE _ hv =>
        rcases hv with rfl | ⟨b, rfl⟩
        · exact ⟨_, h, .pv (.lstNil (by simp) (by simp))⟩
        · exact ⟨_, h, .pv (.lstE b (by simp))⟩
      | @arr _ _ _ _ _ B cap hk' hc _ =>
        obtain ⟨B', arr, ty, h1, h2, h3, h4, h5⟩ := hH.cellsB hk rfl hk'
        obtain rfl := h1
        refine ⟨_, h, .pv (.lst (fun i _ => arr.getD (off + i) undef) (fun i hi j hj => ⟨?_, row_im h2 e0 _⟩) (fun i hi j hj => ?_) hc (by simp) (by simp))⟩
        · rw [show off * 1 + i * 1 + j = off + i by omega]
          exact cell_of_block' h3 (by omega)
        · have := (h5 (off + i) (by omega)).prel (fun B o _ hi => fin_im hi) (fun B o _ hi => inn_im hi e0 o)
          simp only [tblR, shM_eq, shE_eq]
          exact this
    · exact h.elim
  · rename_i k i n
    split at h
    · rename_i q m el hk
      obtain ⟨e0, ⟨hi, hle⟩, h⟩ := needC h
      refine ⟨_, h, ?_⟩
      cases hv with
      | subE _ hv =>
        rcases hv with rfl | ⟨b, rfl⟩
        · exact .pv (.lstNil (by simp) (by simp))
        · exact .pv (.lstE b (by simp))
      | @sub _ _ _ _ B cap c ha hO hc =>
        by_cases hn : n = 0
        · subst hn
          exact .pv (.lst (fun j _ => undef) (fun j hj => by omega) (fun j hj => by omega) hc (by simp) (by simp))
        obtain ⟨B0, arr, ty, h1, h2, h3, h4, h5⟩ := hH.cells hk rfl (fun h => h)
        rcases h5 i hi with ⟨h6, _⟩ | ⟨B2, cap2, arr2, ty2, g1, g2, g3, g4, g5, g6⟩
        · omega
        · obtain rfl := hU _ _ _ _ hO g2
          refine .pv (.lst (fun j _ => arr2.getD j undef) (fun j hj l hl => ⟨?_, inn_im hO e0 _⟩) (fun j hj l hl => (g6 j (by omega)).step hs) hc (by simp) (by simp))
          rw [show 0 + j * 1 + l = j by omega]
          exact cell_of_block' g3 (by omega)
    · exact h.elim
  · rename_i k s i j
    cases hv with
    | @ptr _ _ _ _ _ B hk =>
      cases h1 : Nat.blt k nb with
      | true => rw [h1, cond_true] at h; exact ⟨_, h, .ptr (hb _ _ h1 hk)⟩
      | false =>
        rw [h1, cond_false] at h
        split at h
        · rename_i cs hcs
          have e0 : Nat.ble nb k = true := by
            refine Nat.ble_eq_true_of_le ?_
            rcases Nat.lt_or_ge k nb with hh | hh
            · have : Nat.blt k nb = true := Nat.ble_eq_true_of_le hh
              rw [h1] at this; simp at this
            · exact hh
          obtain ⟨B', arr, ty, g1, g2, g3, g4⟩ := hH.cellsB hcs rfl hk
          obtain rfl := g1
          obtain ⟨g4, g5⟩ : arr.size = cs.length ∧ ∀ i x, nth cs i = some x → VRel w O ad (.cell k 0 i) x (arr.getD i undef) := g4
          obtain ⟨ps, k1, k2, k3⟩ := frzK_ok (bl := bl) hH (p := fun i => .cell k 0 i) (s := 0) (f := fun i => arr.getD i undef) (fun i x hx => by rw [Nat.zero_add]; exact g5 i x hx) h
          refine ⟨_, k1, .pv ?_⟩
          have := PRel.cptr (w := w) (O := Fw.fin nb O) (n := lenP ps) (c := nthP ps) (j := i * s + j) (B := B) (off := 0) (fun i => arr.getD i undef) (fun q hq => ⟨by rw [Nat.zero_add]; exact cell_of_block' g3 (by omega), row_im g2 e0 _⟩) (fun q hq => k3 q (by omega))
          rwa [Nat.zero_add] at this
        · exact h.elim
  · obtain ⟨h1, h2⟩ := needE h
    cases hv with
    | mref hk => exact ⟨_, h2, .mref (hb _ _ h1 hk)⟩
  · exact h.elim

theorem cellsK_ok {nb : Nat} {bl : List Nat} (hb : SubAd nb ad bl) {H : List Blk} (hU : Uni O) (hH : HeapRel w O ad H) : ∀ {cs : List AVal} {K : List AVal → Prop} {f : Nat → Value}, (∀ i x, nth cs i = some x → VRel w O ad .no x (f i)) → cellsK cc nb H cs K →
    ∃ xs, K xs ∧ xs.length = cs.length ∧ ∀ i x, nth xs i = some x → VRel w (fin nb O) bl .no x (f i)
  | [], K, f, _, h => ⟨[], h, rfl, fun i x hx => by simp [nth] at hx⟩
  | v :: r, K, f, hr, h => by
    obtain ⟨x, hx, h1⟩ := cellK_ok hb hU hH (q := .no) (hr 0 v rfl) h
    obtain ⟨xs, h2, h3, h4⟩ := cellsK_ok hb hU hH (f := fun i => f (i + 1)) (fun i y hy => hr (i + 1) y (by simpa [nth] using hy)) hx
    refine ⟨x :: xs, h2, by simp [h3], fun i y hy => ?_⟩
    cases i with
    | zero => simp [nth] at hy; subst hy; exact h1
    | succ i => exact h4 i y (by simpa [nth] using hy)

theorem retVal_ok {nb : Nat} {bl : List Nat} (hb : SubAd nb ad bl) {H : List Blk} (hU : Uni O) (hH : HeapRel w O ad H) {p : Pos} {v : AVal} {rv : Value} (hv : VRel w O ad p v rv) {K : AVal → Prop} (h : retValK cc nb H v K) : ∃ x, K x ∧ VRel w (fin nb O) bl p x rv := by
  have hs := fin_step nb w O
  unfold retValK at h
  split at h
  · rename_i o x
    refine ⟨_, h, ?_⟩
    cases hv with
    | pv h => exact .pv (h.step hs)
    | own h ho => exact .own (h.step hs) (ho.step fun B fill hB => ⟨fin_lst hB, rfl⟩)
  · rename_i cs
    cases hv with
    | agg arr hs' hr =>
      obtain ⟨xs, h1, h2, h3⟩ := cellsK_ok hb hU hH hr h
      exact ⟨_, h1, .agg arr (by rw [h2]; exact hs') h3⟩
  · rename_i sz n el
    cases hv with
    | av arr hs' hr => exact ⟨_, h, .av arr hs' (fun i hi j hj => (hr i hi j hj).step hs)⟩
  · exact cellK_ok hb hU hH hv h

theorem CallG.freeze {f : Nat} {args : List AVal} {K : AVal → Prop} (h : CallG P f args [] fun r L' => retValK cc 0 L' r K) : CallOK P f args [] fun r _ => K r :=
  ⟨h.1, fun w O ad vs h1 h2 h3 h4 h5 => (h.2 w O ad vs h1 h2 h3 h4 h5).mono fun e w' ⟨r, rv, O', L', ad', g1, g2, g3, _, g4, g5, g6, g7⟩ => by
    obtain ⟨x, k1, k2⟩ := retVal_ok (nb := 0) (bl := []) (fun k B hk _ => by simp [Nat.blt] at hk) g7.uni g5 g4 g2
    obtain rfl : ad = [] := List.length_eq_zero_iff.1 h4
    exact ⟨x, rv, fin 0 O', [], g1, k1, rfl, k2, fun k b hb => by simp [nth] at hb, g6.trans (fin_step _ _ _), ⟨fun B hB => by simp [fin, g7.fr B hB], fun _ _ _ _ h1 h2 => g7.uni _ _ _ _ (fin_inn' h1) (fin_inn' h2)⟩⟩⟩

theorem callFrz_ok [hI : InlOk P T] {fg : Nat} (hS : Sat st a w O ad) (hd : okDst st o.dst = true) {f : Operand} {xs : Array Operand} {ts : Array TypeId} (ho : o.op = .call ⟨.value f, xs, ts⟩)
    (h : callFrzOp T st o.dst (ev st.env f) (evAll (ev st.env) xs.toList) K) : OpOkC P C fg o a w O Q K := by
  unfold callFrzOp at h
  split at h
  case h_2 => exact h.elim
  rename_i g caps hc
  obtain ⟨arr, h1, h2, h3⟩ := callee_rel (hS.ev f) hc
  obtain ⟨h4, h5⟩ := args_rel hS.ev (xs := xs) h2 h3
  split at h
  case h_2 => exact h.elim
  rename_i W hW
  obtain ⟨hp, h⟩ := needE h
  have hcall := CallG.freeze (hI.ok g W hW _ _ _ h)
  have out : ∀ B, B < w.heap.size → ∃ s, hide w O [] B = .out s := fun B hB => by
    rcases hide_cases (O := O) (ks := []) hB with ⟨h, _⟩ | ⟨k, _, hm, _⟩ | ⟨k, i, j, fill, _, hm, _⟩
    · exact ⟨_, h⟩
    · simp [memN] at hm
    · simp [memN] at hm
  exact call_quiet hS hd hide_seen out (enter_run ho h1 hcall.1) h4 (fun i x hx => (h5 i x hx).pure (fun B o' hB hi => (im_hide hB).2 hi) rfl (pureL_nth hp hx)) (CallOK.mono hcall fun r _ hk => ⟨hk, .inr rfl⟩)

/-! A variable that is not written any more: its cells are told by what leads to it. -/

theorem get_frzBE {k : Nat} {cs : List AVal} : ∀ (e : List (Nat × AVal)) (d : Nat), get (frzBE k cs e) d = frzBV k cs (get e d)
  | [], d => rfl
  | (t, v) :: r, d => by
    simp only [frzBE, get]
    cases Nat.beq t d with
    | true => rfl
    | false => exact get_frzBE r d

theorem Sat.frzB (hS : Sat st a w O ad) {k : Nat} {cs : List AVal} (hk : nth st.heap k = some (.box cs)) (hp : allPv cs = true) (hnb : st.nb ≤ k) : ∃ O' ad', Sat (frzSt st k cs) a w O' ad' ∧ Step w O w O' := by
  obtain ⟨B, x, h1, h2, h3, h4⟩ := hS.heap.real hk (by simp [Blk.ghost])
  cases x with
  | cells arr ty fz =>
    obtain ⟨rfl, h5, h6⟩ : fz = (0, 0) ∧ arr.size = cs.length ∧ ∀ i x, nth cs i = some x → VRel w O ad (.cell k 0 i) x (arr.getD i undef) := h4
    have hlt : B < w.heap.size := (Array.getElem?_eq_some_iff.1 h3).1
    have hne : ∀ C, C ≠ B → upd O B .free C = O C := fun C h => upd_ne _ _ h
    have him : ∀ C o, C < w.heap.size → im O C o → im (upd O B .free) C o := fun C o _ hi => by
      by_cases e : C = B
      · subst e; simp [im, upd_same]
      · unfold im at hi ⊢; rw [hne C e]; exact hi
    have hlst : ∀ C p fill, O C = .lst p fill → upd O B .free C = .lst p fill := fun C p fill h => by
      rw [hne C (by rintro rfl; rw [h2] at h; simp at h)]; exact h
    have hst : Step w O w (upd O B .free) := by
      refine ⟨fun _ arr _ _ h => ⟨arr, h, rfl⟩, rfl, rfl, rfl, Nat.le_refl _, fun C o hC hi => ⟨him C o hC hi, rfl⟩, fun C _ hf => ⟨hne C (by rintro rfl; rw [h2] at hf; exact hf.elim), rfl⟩, fun C _ hj => ?_⟩
      by_cases e : C = B
      · subst e; exact .inr (by rw [upd_same]; trivial)
      · exact .inl (by rw [hne C e]; exact hj)
    have hin : InnK O (upd O B .free) := fun C j i hC => by rw [hne C (by rintro rfl; rw [h2] at hC; simp at hC)]; exact hC
    have huni : Uni (upd O B .free) := fun C C' j i g1 g2 => by
      have bk : ∀ D, upd O B .free D = .inn j i → O D = .inn j i := fun D h => by
        by_cases e : D = B
        · subst e; rw [upd_same] at h; simp at h
        · rwa [hne D e] at h
      exact hS.fresh.uni _ _ _ _ (bk _ g1) (bk _ g2)
    have hkl : k < ad.length := nth_lt h1
    have had : ∀ k' B', (!Nat.beq k' k) = true → nth ad k' = some B' → nth (ad.set k 0) k' = some B' := fun k' B' h1 h2 => by
      have hne : k' ≠ k := fun e => by subst e; simp at h1
      rw [nth_set _ _ _ _ hkl, if_neg hne]; exact h2
    have keep : ∀ {p : Pos} {x : AVal} {v : Value}, VRel w O ad p x v → VRel w (upd O B .free) (ad.set k 0) p (dropV k x) v := fun {p x v} h => by
      have := (h.drop (k := k)).renum (g := fun k => k) (ok := fun k' => !Nat.beq k' k) (ad' := ad.set k 0) (O' := upd O B .free) him had p (fun hn => ⟨hn, fun C fill hC => hlst C _ _ hC⟩) (fun i hn => ⟨hn, fun C fill hC => hlst C _ _ hC⟩) (okV_drop x) (.inl fun C j i _ _ _ h => hin C j i h)
      rwa [renV_id] at this
    have hcell : ∀ l, l < cs.length → PRel w (upd O B .free) (pvAt cs l) (arr.getD l undef) := fun l hl => by
      obtain ⟨x, hx⟩ := nth_some hl
      obtain ⟨o, q, rfl⟩ := allPv_nth hp hx
      simp only [pvAt, hx, asPv]
      exact (prel_of (h6 l _ hx)).step hst
    refine ⟨upd O B .free, ad.set k 0, ⟨⟨hS.env.1, fun d => ?_⟩, fun i c0 hc => ?_, ?_, fun k' hk' => ?_, hS.dn, ⟨fun C hC => ?_, huni⟩⟩, hst⟩
    · show VRel _ _ _ (.tmp d) (get (frzBE k cs st.env) d) _
      rw [get_frzBE]
      have h := hS.env.2 d
      revert h
      generalize get st.env d = y
      intro h
      unfold frzBV
      split
      · rename_i k' s i j
        cases e : Nat.beq k' k with
        | true =>
          obtain rfl := beqE e
          simp only [cond_true]
          revert h
          generalize a.tmps.getD d undef = u
          intro h
          cases h with
          | ptr h7 =>
            rw [h1] at h7
            obtain rfl := Nat.succ.inj (Option.some.inj h7)
            have := PRel.cptr (w := w) (O := upd O B .free) (n := cs.length) (c := pvAt cs) (j := i * s + j) (B := B) (off := 0) (fun l => arr.getD l undef) (fun l hl => ⟨by rw [Nat.zero_add]; exact cell_of_block' h3 (by omega), by simp [im, upd_same]⟩) hcell
            rw [Nat.zero_add] at this
            exact .pv this
        | false =>
          simp only [cond_false]
          have := keep h
          simp only [dropV, e, cond_false] at this
          exact this
      · exact keep h
    · have hkl' : k < (dropH k st.heap).length := by rw [length_dropH]; exact nth_lt hk
      have hc : nth (setBlkL (dropH k st.heap) k (.row 0 0 (fun _ _ => .junk) fun _ _ => false)) i = some c0 := hc
      rw [setBlkL_eq, nth_set _ _ _ _ hkl'] at hc
      by_cases e : i = k
      · subst e
        rw [if_pos rfl] at hc
        obtain rfl := Option.some.inj hc
        exact ⟨0, by rw [nth_set _ _ _ _ hkl, if_pos rfl], .inl ⟨rfl, rfl⟩⟩
      · rw [if_neg e] at hc
        obtain ⟨c1, hc0, rfl⟩ := nth_dropH hc
        obtain ⟨d, g1, ⟨g2, hg⟩ | ⟨B2, x, rfl, g2, g3, g4⟩⟩ := hS.heap i c1 hc0
        · exact ⟨d, by rw [nth_set _ _ _ _ hkl, if_neg e]; exact g1, .inl ⟨g2, dropB_ghost.2 hg⟩⟩
        have hB2 : B2 ≠ B := by rintro rfl; rw [h2] at g2; simp at g2; omega
        refine ⟨B2 + 1, by rw [nth_set _ _ _ _ hkl, if_neg e]; exact g1, .inr ⟨B2, x, rfl, by rw [hne B2 hB2]; exact g2, g3, ?_⟩⟩
        cases x with
        | cells arr2 ty2 fz =>
          have h' : fz = (0, 0) ∧ BlkRel w O ad i arr2 c1 := by cases c1 <;> exact g4
          have : BlkRel w (upd O B .free) (ad.set k 0) i arr2 (dropB k c1) := by
            cases c1 with
            | box cs =>
              refine ⟨by rw [length_dropL]; exact h'.2.1, fun q y hy => ?_⟩
              obtain ⟨z, hz, rfl⟩ := nth_dropL hy
              exact keep (h'.2.2 q z hz)
            | row sz n el ow => exact ⟨h'.2.1, fun q hq j hj => keep (h'.2.2 q hq j hj)⟩
            | mp q has val => exact h'.2.elim
            | mat n m el => exact ⟨h'.2.1, fun q hq => (h'.2.2 q hq).step hst fun B hB => ⟨hin B i q hB, rfl⟩⟩
          cases c1 <;> exact ⟨h'.1, this⟩
        | map es c =>
          cases c1 with
          | mp q has val => exact ⟨g4.ok, g4.apart, g4.has, fun e he => (g4.val e he).step hst hin (fun _ _ h => h) .no⟩
          | _ => exact g4.elim
        | _ => cases c1 <;> exact g4.elim
    · show (ad.set k 0).length = (setBlkL (dropH k st.heap) k _).length
      rw [setBlkL_eq]
      simp [hS.len, length_dropH]
    · have hk' : k' < st.nb := hk'
      rw [nth_set _ _ _ _ hkl, if_neg (by omega)]; exact hS.pin k' hk'
    · rw [hne C (by rintro rfl; omega)]; exact hS.fresh.fr C hC
  | _ => exact h4.elim

theorem PRel.iffC {sz n : Nat} {nf : NF} {el : Nat → Nat → PV} {v : Value} (h : PRel w O (.lst sz nf n el) v) (hn : 0 < n) : PRel w O (.lst sz .iff n el) v := by
  cases h with
  | lst vals hc hr hcap hf hk => exact .lst vals hc hr hcap (by simp) hn
  | lstE _ _ => exact absurd hn (Nat.lt_irrefl 0)
  | lstNil _ _ => exact absurd hn (Nat.lt_irrefl 0)

theorem iff_ok (hS : Sat st a w O ad) {x : Operand} (h : iffO T st x K) : ∃ st', K st' ∧ Sat st' a w O ad := by
  unfold iffO at h
  split at h
  · rename_i t
    split at h
    · rename_i o' sz nf n el hg
      obtain ⟨hn, h⟩ := cndE h
      refine ⟨_, h, ⟨⟨hS.env.1, fun d => ?_⟩, hS.heap, hS.len, hS.pin, hS.dn, hS.fresh⟩⟩
      have hd := hS.env.2 d
      show VRel w O ad (.tmp d) (get ((t, .pv false (.lst sz .iff n el)) :: st.env) d) _
      simp only [get]
      cases e : Nat.beq t d with
      | false => exact hd
      | true =>
        obtain rfl := beqE e
        rw [hg] at hd
        exact .pv ((prel_of hd).iffC hn)
    · exact h.elim
  · exact h.elim

theorem frz_ok {v : AVal} (hs : isStore o.op = true) (h : OpOk P o a w O Q (frzO v K)) : OpOk P o a w O Q K := by
  refine Oper.wp_mono (fun a' w' => ?_) h
  rintro ⟨st', O', ad', k1, k2, k3, _⟩
  unfold frzO at k1
  split at k1
  · rename_i k _ _ _
    split at k1
    · rename_i cs hk
      obtain ⟨e, k1⟩ := needE k1
      obtain ⟨e1, e2⟩ := andE e
      obtain ⟨O2, ad2, q1, q2⟩ := k2.frzB hk e2 (Nat.le_of_ble_eq_true e1)
      exact ⟨_, O2, ad2, k1, q1, k3.trans q2, fun h => by rw [hs] at h; simp at h⟩
    · exact k1.elim
  · exact k1.elim

end
end Go.Proofs.Ytgghnfmabphbmaa.Fw
