/- Code: what holds behind it, over abstract states; and that the machine does so. -/
import Derived.Test.YtgghnfmabphbmaaA12g
import Derived.StillTail
import Derived.Deep.LoopGhost
namespace Go.Proofs.Ytgghnfmabphbmaa.Fw
open Go
set_option linter.unusedSimpArgs false
set_option linter.unusedVariables false

def isArr : AVal → Bool
  | .arr _ _ _ _ => true
  | _ => false

/-- does a list that may grow stand there? -/
def canTake (H : List Blk) : AVal → Bool
  | .ptr k sz i j =>
    match nth H k with
    | some (.box cs) => (match nth cs (i * sz + j) with | some (.pv o _) => o | _ => false)
    | some (.row _ _ _ ow) => ow i j
    | _ => false
  | _ => false

/-- one operation -/
def opK (P : Program) (T : Tab) (C : Nat → Shape) (fl : Nat) (o : Oper) (st : St) (K : St → Prop) : Prop :=
  need (okDst st o.dst) <|
  match o.op with
  | .box _ x => boxOp (bif T.conc && !allPv (shedAll (ev st.env x).cells) then 0 else fl) st o.dst (ev st.env x) K
  | .alloc t => bif Nat.beq fl 39 then allocIffOp T st o.dst t K else allocOp T fl st o.dst t K
  | .buildSlice t len ps => bif Nat.beq fl 9 then buildOwnOp T st o.dst t len ps.toList K else buildSliceOp T fl st o.dst t len (evParts (ev st.env) ps.toList) K
  | .load t x => bif Nat.beq fl 7 || (Nat.beq fl 17 && canTake st.heap (ev st.env x)) then takeLoadOp T st o.dst t (ev st.env x) K else vop T st.heap (ev st.env) (.load t x) fun v => K (st.put o.dst v)
  | .slice t x lo none none => bif Nat.beq fl 18 then sliceOwnOp T st o.dst t x lo K else vop T st.heap (ev st.env) (.slice t x lo none none) fun v => K (st.put o.dst v)
  | .makeSlice t l c => makeSliceOp T fl st o.dst t (ev st.env l) (ev st.env c) K
  | .store t a x => need o.dst.isNone <| bif Nat.beq fl 38 then iffO T st x (fun st' => storeOp T st' t (ev st'.env a) x K) else bif Nat.beq fl 41 then storeTabOp T st t (ev st.env a) (ev st.env x) K else bif Nat.beq fl 36 then storeOp T st t (ev st.env a) x (frzO (ev st.env a) K) else storeOp T st t (ev st.env a) x K
  | .makeMap t hint => makeMapOp T st o.dst t (hint.map (ev st.env)) K
  | .lookup t x ix ok => lookupK T st.heap t (ev st.env x) (ev st.env ix) ok fun v => K (st.put o.dst v)
  | .mapUpdate t m k v => need o.dst.isNone <| mapUpdateOp T st t (ev st.env m) (ev st.env k) (ev st.env v) K
  | .insert t m k v => need o.dst.isNone <| mapUpdateOp T st t (ev st.env m) (ev st.env k) (ev st.env v) K
  | .call ⟨.builtin .append, args, ts⟩ =>
    match args.toList with
    | [s, x] => bif isArr (ev st.env s) then need (Nat.beq fl 8) (appendRowOp T st o.dst ts s x K) else bif isArr (ev st.env x) then need (Nat.beq fl 8) (appendNewOp T st o.dst ts s x K) else appendOp T (bif Nat.beq fl 8 then 2 else fl) st o.dst ts s x K
    | _ => False
  | .call ⟨.builtin .copy, args, ts⟩ =>
    match args.toList with
    | [d, x] => copyOp T st o.dst ts (ev st.env d) (ev st.env x) K
    | _ => False
  | .call ⟨.value f, xs, _⟩ => bif Nat.ble 31 fl then (bif Nat.beq fl 35 then callFrzOp T st o.dst (ev st.env f) (evAll (ev st.env) xs.toList) K else callNewOp T st o.dst (ev st.env f) (evAll (ev st.env) xs.toList) K) else callOp P T C st o.dst (ev st.env f) (evAll (ev st.env) xs.toList) K
  | .move (.tmp t) => bif Nat.beq fl 42 then frzRowOp T st o.dst t K else bif Nat.beq fl 5 && (get st.env t).hasOwn then moveOp st o.dst t K else K (st.put o.dst (get st.env t).unf.shed)
  | .assign (.tmp t) => bif !Nat.beq fl 6 && (get st.env t).hasOwn then moveOp st o.dst t K else K (st.put o.dst (get st.env t).unf.shed)
  | op => vop T st.heap (ev st.env) op fun v => K (st.put o.dst v)

/-- A guard. -/
def guardK (st : St) (ops : Array Oper) (g : Option (Nat × Bool)) (A B : St → Prop) : Prop :=
  match g with
  | none => A st
  | some (j, want) =>
    match (ops[j]?).bind (·.dst) with
    | none => False
    | some d =>
      match get st.env d with
      | .pv _ (.bool b) =>
        match want with
        | true => br b (A { st with env := (d, .pv false (.bool true)) :: st.env }) (B { st with env := (d, .pv false (.bool false)) :: st.env })
        | false => br b (B { st with env := (d, .pv false (.bool true)) :: st.env }) (A { st with env := (d, .pv false (.bool false)) :: st.env })
      | .tup [] => B st
      | _ => False

def runOps (P : Program) (T : Tab) (C : Nat → Shape) (fl : Nat → Nat) (ops : Array Oper) (K : St → Prop) : List Nat → St → Prop
  | [], st => K st
  | i :: r, st =>
    match ops[i]? with
    | none => False
    | some o => guardK st ops o.guard (fun st => opK P T C (fl i) o st (runOps P T C fl ops K r)) fun st => need (okDst st o.dst) <| runOps P T C fl ops K r (st.put o.dst (.tup []))

/-- rows of tables are not looked at -/
def nsT (v : AVal) : AVal := bif noSV v then v else .undef

/-- an operation that only reads what is not written any more -/
def opIm (T : Tab) (o : Oper) (st : St) (K : St → Prop) : Prop :=
  need (okDst st o.dst) <| vop T [] (fun x => nsT (ev st.env x)) o.op fun v => K (st.put o.dst v)

def runPlan (P : Program) (T : Tab) (C : Nat → Shape) (fl : Nat → Nat) (ops : Array Oper) : (St → Prop) → Plan → St → Prop
  | K, .done, st => K st
  | K, .one i p, st =>
    match ops[i]? with
    | none => False
    | some o => guardK st ops o.guard (fun st => opK P T C (fl i) o st (runPlan P T C fl ops K p)) fun st => need (okDst st o.dst) <| runPlan P T C fl ops K p (st.put o.dst (.tup []))
  | K, .im i p, st =>
    match ops[i]? with
    | none => False
    | some o => guardK st ops o.guard (fun st => opIm T o st (runPlan P T C fl ops K p)) fun st => need (okDst st o.dst) <| runPlan P T C fl ops K p (st.put o.dst (.tup []))
  | K, .both p q, st =>
    match T.conc with
    | true => runPlan P T C fl ops (fun s1 => canonK s1 fun c1 => runPlan P T C fl ops (fun s2 => canonK s2 fun c2 => sameSt c2 c1) q st ∧ K c1) p st
    | false => runPlan P T C fl ops K p st ∧ runPlan P T C fl ops K q st

/-- A loop: states at its head, each told by a datum, and a number that each round lowers. -/
def LoopK (R : (Exit → St → Prop) → St → Prop) (Q : Exit → St → Prop) (st : St) : Prop :=
  ∃ (X : Type) (I : X → St) (μ : X → Nat) (x0 : X) (J : X → Exit → St → Prop), Le st (I x0) ∧
    (∀ x st', J x .normal st' → ∃ y, Le st' (I y) ∧ μ y < μ x) ∧ (∀ x e st', e ≠ .normal → J x e st' → ∃ st2, Le st' st2 ∧ Q e st2) ∧ ∀ x, R (J x) (I x)

/-- A loop that is carried out round by round. -/
def LoopU (g : St → St) (R : (Exit → St → Prop) → St → Prop) (Q : Exit → St → Prop) : Nat → St → Prop
  | 0, _ => False
  | n + 1, st => R (fun e st' => match e with | .normal => LoopU g R Q n (g st') | e => Q e st') st

theorem LoopU.loop {g : St → St} (hg : ∀ st, Le st (g st)) {R : (Exit → St → Prop) → St → Prop} {Q : Exit → St → Prop} {n : Nat} {st : St} (h : LoopU g R Q n st) : LoopK R Q st := by
  refine ⟨{p : Nat × St // LoopU g R Q p.1 p.2}, fun p => p.1.2, fun p => p.1.1, ⟨(n, st), h⟩, fun p e st' => match p.1.1 with | 0 => False | m + 1 => (match e with | .normal => LoopU g R Q m (g st') | e => Q e st'), Le.refl st, ?_, ?_, ?_⟩
  · rintro ⟨⟨m, s⟩, hm⟩ st' hj
    cases m with
    | zero => exact hj.elim
    | succ m => exact ⟨⟨(m, g st'), hj⟩, hg st', Nat.lt_succ_self m⟩
  · rintro ⟨⟨m, s⟩, hm⟩ e st' he hj
    cases m with
    | zero => exact hj.elim
    | succ m =>
      refine ⟨st', Le.refl _, ?_⟩
      cases e with
      | normal => exact absurd rfl he
      | exit id => exact hj
      | ret => exact hj
      | goto l => exact hj
      | panic c => exact hj
      | outgrown => exact hj
  · rintro ⟨⟨m, s⟩, hm⟩
    cases m with
    | zero => exact hm.elim
    | succ m => exact hm

/-- What the walker says: of operations (by region and number), of loops (by the number of the first region in it): what is live at the head; and of regions that have several orders: the state behind them. -/
structure Fl where
  op : Nat → Nat → Nat
  lv : Nat → Option (List Nat)
  mid : Nat → Option St
  /-- is there a cut ahead of the part whose first region this is? what is live at the start of the part that is cut off -/
  jn : Nat → Option (List Nat)

/-- A cut: behind a part of the code, less may be told. -/
def JoinK (R : (Exit → St → Prop) → St → Prop) (Q : Exit → St → Prop) (st : St) : Prop :=
  ∃ J : Exit → St → Prop, (∀ e s, J e s → ∃ s', Le s s' ∧ Q e s') ∧ R J st

def firstRegion : Code → Nat
  | .region id _ _ => id
  | .seq a _ => firstRegion a
  | .cond _ a _ => firstRegion a
  | .block _ c => firstRegion c
  | .loop c => firstRegion c
  | _ => 0

/-- What holds behind the code. -/
def run (P : Program) (T : Tab) (C : Nat → Shape) (fl : Fl) : Code → (Exit → St → Prop) → St → Prop
  | .skip, Q, st => Q .normal st
  | .region id ops false, Q, st => runOps P T C (fl.op id) ops (Q .normal) (List.range ops.size) st
  | .region id ops true, Q, st =>
    match mkPlan C (fl.op id) ops ops.size (Array.replicate ops.size false) with
    | some p => need (Region.noSelect ops) <|
      match fl.mid id with
      | some s => runPlan P T C (fl.op id) ops (fun s' => Le (St.only (some (keysE s.env)) s') s) p st ∧ Q .normal s
      | none => runPlan P T C (fl.op id) ops (Q .normal) p st
    | none => False
  | .seq x y, Q, st => match fl.jn (firstRegion y) with
    | some l => JoinK (fun Q => run P T C fl x Q) (fun e st' => match e with | .normal => run P T C fl y Q st' | e => Q e st') (St.only (some l) st)
    | none => run P T C fl x (fun e st' => match e with | .normal => run P T C fl y Q st' | e => Q e st') st
  | .cond c x y, Q, st =>
    match ev st.env c with
    | .pv _ (.bool b) => br b (run P T C fl x Q st) (run P T C fl y Q st)
    | _ => False
  | .block id c, Q, st => run P T C fl c (fun e st' => match e with | .exit id' => if id' = id then Q .normal st' else Q (.exit id') st' | e => Q e st') st
  | .loop c, Q, st => match T.conc with
    | true => LoopU St.tidy (fun Q st => run P T C fl c Q st) Q 100000 st.tidy
    | false => LoopK (fun Q st => run P T C fl c Q st) Q (St.only (fl.lv (firstRegion c)) st)
  | .exit id, Q, st => Q (.exit id) st
  | .ret, Q, st => Q .ret st
  | .rangeFunc _ _ _ _, _, _ => False
  | .scope _, _, _ => False
  | .label _, _, _ => False
  | .goto _, _, _ => False
  | .refuse _, _, _ => False

section
variable {P : Program} {T : Tab} {C : Nat → Shape} {w : World} {O : Nat → Own} {ad : List Nat} {st : St} {a : Act} {o : Oper} {K : St → Prop}

theorem VOk.op {fl : Nat} {Q : Exit → Act → World → Prop} (hS : Sat st a w O ad) (hd : okDst st o.dst = true) (h : VOk P w O ad (execOp a.eval o) fun v => K (st.put o.dst v)) : OpOkC P C fl o a w O Q K := by
  obtain ⟨x, rv, hk, hr, hrun⟩ := h
  exact (OpOk.value (hrun w (Agree.refl O w)) hk (hS.put hd fun _ => hr.any _) (Step.refl _ _) (Agree.refl O w)).c

theorem opK_ok [InlOk P T] (hT : TabOk P T) {Q : Exit → Act → World → Prop} {fl : Nat} (hS : Sat st a w O ad) (h : opK P T C fl o st K) : OpOkC P C fl o a w O Q K := by
  replace h := needE h
  obtain ⟨hd, h⟩ := h
  have quiet : vop T st.heap (ev st.env) o.op (fun v => K (st.put o.dst v)) → OpOkC P C fl o a w O Q K := fun h => (vop_ok hT hS.fresh.uni hS.heap hS.ev h).op hS hd
  split at h
  · rename_i ho; exact (box_ok hS hd ho h).c
  · rename_i ho
    cases hf : Nat.beq fl 39 with
    | true => rw [hf] at h; exact (allocIff_ok hT hS hd ho h).c
    | false => rw [hf] at h; exact (alloc_ok hT hS hd ho h).c
  · rename_i t len ps ho
    cases hf : Nat.beq fl 9 with
    | true => rw [hf] at h; exact buildOwn_ok hT hS hd ho h
    | false => rw [hf] at h; exact (buildSlice_ok hT hS hd ho h).c
  · rename_i t x ho
    cases hf : (Nat.beq fl 7 || (Nat.beq fl 17 && canTake st.heap (ev st.env x))) with
    | true => rw [hf] at h; exact takeLoad_ok hT hS hd ho h
    | false => rw [hf] at h; exact quiet (by rw [ho]; exact h)
  · rename_i t x lo ho
    cases hf : Nat.beq fl 18 with
    | true => rw [hf] at h; exact sliceOwn_ok hT hS hd ho h
    | false => rw [hf] at h; exact quiet (by rw [ho]; exact h)
  · rename_i ho; exact (makeSlice_ok hT hS hd ho h).c
  · rename_i ho
    replace h := needE h
    obtain ⟨h0, h⟩ := h
    cases hf2 : Nat.beq fl 38 with
    | true =>
      rw [hf2, cond_true] at h
      obtain ⟨st', h, hS'⟩ := iff_ok hS h
      exact (store_ok hT hS' ho (by simpa using h0) h).c
    | false =>
      rw [hf2, cond_false] at h
      cases h41 : Nat.beq fl 41 with
      | true => rw [h41] at h; exact (storeTab_ok hT hS ho (by simpa using h0) h).c
      | false =>
      rw [h41] at h
      cases hf : Nat.beq fl 36 with
      | true => rw [hf] at h; exact (frz_ok (by rw [ho]; rfl) (store_ok hT hS ho (by simpa using h0) h)).c
      | false => rw [hf] at h; exact (store_ok hT hS ho (by simpa using h0) h).c
  · rename_i ho; exact (makeMap_ok hT hS hd ho h).c
  · rename_i ho; exact (lookup_ok hT hS hd ho h).c
  · rename_i ho
    replace h := needE h
    exact (mapUpdate_ok hT hS (.inl ho) (by simpa using h.1) (by rw [ho]; rfl) h.2).c
  · rename_i ho
    replace h := needE h
    exact (mapUpdate_ok hT hS (.inr ho) (by simpa using h.1) (by rw [ho]; rfl) h.2).c
  · rename_i args ts ho
    split at h
    · rename_i s x ha
      have : args = #[s, x] := by apply Array.ext'; simpa using ha
      subst this
      cases hf : isArr (ev st.env s) with
      | true => rw [hf] at h; exact appendRow_ok hT hS hd ho (needE h).1 (needE h).2
      | false =>
        rw [hf] at h
        cases hg : isArr (ev st.env x) with
        | true => rw [hg] at h; exact appendNew_ok hT hS hd ho (needE h).1 (needE h).2
        | false => rw [hg] at h; exact (append_ok hT hS hd ho h).c
    · exact h.elim
  · rename_i args ts ho
    split at h
    · rename_i d x ha
      have : args = #[d, x] := by apply Array.ext'; simpa using ha
      subst this
      exact copy_ok hT hS hd ho (by rw [ho]; rfl) h
    · exact h.elim
  · rename_i ho
    cases h31 : Nat.ble 31 fl with
    | true =>
      rw [h31] at h
      cases h35 : Nat.beq fl 35 with
      | true => rw [h35] at h; exact callFrz_ok hS hd ho h
      | false => rw [h35] at h; exact callNew_ok hS hd ho h
    | false => rw [h31] at h; exact call_ok hS hd ho h31 h
  · rename_i t ho
    cases h42 : Nat.beq fl 42 with
    | true =>
      rw [h42] at h
      obtain ⟨st', v, O', ad', h1, h2, h3, h4, h5⟩ := frzRow_core (P := P) hS ho hd h
      exact (OpOk.value (h5 w) h1 h2 h4 (Agree.refl O w)).c
    | false =>
    rw [h42] at h
    cases hh : (Nat.beq fl 5 && (get st.env t).hasOwn) with
    | true => rw [hh] at h; exact (move_ok hS (.inl ho) hd h).c
    | false => rw [hh] at h; exact quiet (by rw [ho]; exact h)
  · rename_i t ho
    cases hh : (!Nat.beq fl 6 && (get st.env t).hasOwn) with
    | true => rw [hh] at h; exact (move_ok hS (.inr ho) hd h).c
    | false => rw [hh] at h; exact quiet (by rw [ho]; exact h)
  · exact quiet h

theorem Sat.same (hS : Sat st a w O ad) {d : Nat} {o' : Bool} {b : Bool} (h : get st.env d = .pv o' (.bool b)) {b' : Bool} (hb : b = b') : Sat { st with env := (d, .pv false (.bool b')) :: st.env } a w O ad := by
  subst hb
  refine ⟨⟨hS.env.1, fun t => ?_⟩, hS.heap, hS.len, hS.pin, hS.dn, hS.fresh⟩
  simp only [get]
  by_cases e : d = t
  · subst e; rw [beq_tt]
    have := hS.env.2 d
    rw [h] at this
    exact .pv (prel_of this)
  · rw [beq_ff e]; exact hS.env.2 t

theorem skipped {w : World} {O : Nat → Own} {ad : List Nat} (p : Pos) : VRel w O ad p (.tup []) undef := .tup #[] rfl (fun i x hx => by simp [nth] at hx)

theorem tup0 {w : World} {O : Nat → Own} {ad : List Nat} {p : Pos} {v : Value} (h : VRel w O ad p (.tup []) v) : v = undef := by
  cases h with
  | tup a hs hr =>
    have : a = #[] := Array.size_eq_zero_iff.1 hs
    subst this; rfl

/-- one operation of a region, with its guard: it is carried out from a state that tells the same, or skipped -/
theorem guard_ok {ops : Array Oper} {hS : Sat st a w O ad} {A B : St → Prop} (h : guardK st ops o.guard A B) :
    (Region.wanted o (yielded ops a.tmps) = true ∧ ∃ st', A st' ∧ Sat st' a w O ad) ∨ (Region.wanted o (yielded ops a.tmps) = false ∧ ∃ st', B st' ∧ Sat st' a w O ad) := by
  unfold guardK at h
  split at h
  · rename_i hg
    exact .inl ⟨by simp [Region.wanted, hg], st, h, hS⟩
  · rename_i j want hg
    split at h
    · exact h.elim
    · rename_i d hd
      split at h
      · rename_i o' b hb
        have hv := hS.env.2 d
        rw [hb] at hv
        have hbv := bool_of hv
        have hlt : d < a.tmps.size := by
          rcases Nat.lt_or_ge d a.tmps.size with h | h
          · exact h
          · have : a.tmps.getD d undef = undef := by rw [Array.getD_eq_getD_getElem?, Array.getElem?_eq_none h]; rfl
            rw [this] at hbv; simp [undef] at hbv
        have hy : yielded ops a.tmps j = some b := by
          have : a.tmps[d]? = some (.bool b) := by
            rw [Array.getElem?_eq_getElem hlt, ← hbv]; simp [Array.getD, hlt]
          simp [yielded, hd, this]
        have hw : Region.wanted o (yielded ops a.tmps) = (b == want) := by simp [Region.wanted, hg, hy]
        rw [hw]
        cases want with
        | true =>
          cases hbb : b with
          | true => rw [hbb] at h; exact .inl ⟨rfl, _, h, hS.same hb hbb⟩
          | false => rw [hbb] at h; exact .inr ⟨rfl, _, h, hS.same hb hbb⟩
        | false =>
          cases hbb : b with
          | true => rw [hbb] at h; exact .inr ⟨rfl, _, h, hS.same hb hbb⟩
          | false => rw [hbb] at h; exact .inl ⟨rfl, _, h, hS.same hb hbb⟩
      · rename_i hb
        have hv := hS.env.2 d
        rw [hb] at hv
        have hu : a.tmps.getD d undef = undef := tup0 hv
        have hy : yielded ops a.tmps j = none := by
          have : a.tmps[d]? = none ∨ a.tmps[d]? = some undef := by
            rcases Nat.lt_or_ge d a.tmps.size with h | h
            · right; rw [Array.getElem?_eq_getElem h, ← hu]; simp [Array.getD, h]
            · left; exact Array.getElem?_eq_none h
          rcases this with h | h <;> simp [yielded, hd, h, undef]
        exact .inr ⟨by simp [Region.wanted, hg, hy], _, h, hS⟩
      · exact h.elim

theorem runOps_ok [InlOk P T] (hT : TabOk P T) {fl : Nat → Nat} {ops : Array Oper} {Q : Exit → Act → World → Prop} {w0 : World} {O0 : Nat → Own}
    (hQ : ∀ st' a' w' O' ad', K st' → Sat st' a' w' O' ad' → Step w0 O0 w' O' → Q .normal a' w') : ∀ (l : List Nat) (st : St) (a : Act) (w : World) (O : Nat → Own) (ad : List Nat),
    Step w0 O0 w O → Sat st a w O ad → runOps P T C fl ops K l st → wpOps P ops Q l a w := by
  intro l
  induction l with
  | nil => intro st a w O ad hst hS h; exact hQ st a w O ad h hS hst
  | cons i r ih =>
    intro st a w O ad hst hS h
    simp only [runOps] at h
    simp only [wpOps]
    cases ho : ops[i]? with
    | none => rw [ho] at h; exact h.elim
    | some o =>
      simp only [ho] at h ⊢
      have go : ∀ st', Sat st' a w O ad → opK P T C (fl i) o st' (runOps P T C fl ops K r) → o.wp P a w (wpOps P ops Q r) Q ∨ (o.asks P a w ∧ LetsOut Q) := by
        intro st' hS' h'
        exact .inl (Oper.wp_mono (fun a' w' ⟨st2, O2, ad2, hk, hs2, hst2, _⟩ => ih st2 a' w' O2 ad2 (hst.trans hst2) hs2 hk) (opK_ok hT (Q := Q) hS' h'))
      rcases guard_ok (hS := hS) h with ⟨hw, st', h1, h2⟩ | ⟨hw, st', h1, h2⟩
      · rw [if_pos hw]; exact go st' h2 h1
      · rw [if_neg (by rw [hw]; simp)]
        obtain ⟨h4, h5⟩ := needE h1
        exact ih _ _ _ _ _ hst (h2.put h4 (fun _ => skipped _)) h5

theorem Step.live {w w' : World} {O O' : Nat → Own} (h : Step w O w' O') {B o : Nat} (hB : B < w.heap.size) (hl : live O B o) : live O' B o := by
  cases hO : O B with
  | free =>
    have := (h.free B hB (by rw [hO]; trivial)).1
    rw [hO] at this
    simp [Fw.live, this]
  | out s =>
    have := (h.free B hB (by rw [hO]; trivial)).1
    rw [hO] at this
    simp [Fw.live, this]
  | lst p fill =>
    have hi : im O B o := by simp [Fw.live, hO] at hl; simp [im, hO]; exact hl
    exact im_live (h.cell B o hB hi).1
  | blk k =>
    have := h.blk B hB (by rw [hO]; trivial)
    cases hO' : O' B <;> rw [hO'] at this <;> simp_all [Fw.live, Own.mem, Own.fixed]
  | inn k i =>
    have := h.blk B hB (by rw [hO]; trivial)
    cases hO' : O' B <;> rw [hO'] at this <;> simp_all [Fw.live, Own.mem, Own.fixed]

theorem ren_live (f : Pos → Pos) (O : Nat → Own) (B o : Nat) : live (renO f O) B o ↔ live O B o := by
  unfold Fw.live renO
  cases O B <;> rfl

/-- What leaves memory alone yields one value wherever what is told is as it is. -/
theorem quiet_op (hT : TabOk P T) {fl : Nat} (hq : isQuiet o.op = true) (hS : Sat st a w O ad) (h : opK P T C fl o st K) :
    ∃ st' v O' ad', K st' ∧ Sat st' (a.put o.dst v) w O' ad' ∧ (∀ B q, live O' B q ↔ live O B q) ∧ Step w O w O' ∧ ∀ w', Agree O w w' → (execOp a.eval o).run P w' = .ok (.value v) w' := by
  replace h := needE h
  obtain ⟨hd, h⟩ := h
  have quiet : vop T st.heap (ev st.env) o.op (fun v => K (st.put o.dst v)) → ∃ st' v O' ad', K st' ∧ Sat st' (a.put o.dst v) w O' ad' ∧ (∀ B q, live O' B q ↔ live O B q) ∧ Step w O w O' ∧ ∀ w', Agree O w w' → (execOp a.eval o).run P w' = .ok (.value v) w' := by
    intro h
    obtain ⟨x, rv, hk, hr, hrun⟩ := vop_ok hT hS.fresh.uni hS.heap hS.ev h
    exact ⟨_, rv, O, ad, hk, hS.put hd fun _ => hr.any _, fun _ _ => Iff.rfl, Step.refl _ _, hrun⟩
  have mv : ∀ t, (o.op = .move (.tmp t) ∨ o.op = .assign (.tmp t)) → moveOp st o.dst t K → ∃ st' v O' ad', K st' ∧ Sat st' (a.put o.dst v) w O' ad' ∧ (∀ B q, live O' B q ↔ live O B q) ∧ Step w O w O' ∧ ∀ w', Agree O w w' → (execOp a.eval o).run P w' = .ok (.value v) w' := by
    intro t ho h
    unfold moveOp at h
    split at h
    · rename_i d hdd
      replace h := needE h
      obtain ⟨h1, h⟩ := h
      obtain ⟨g1, g2, g3⟩ := hS.take (t := t) (q := .tmp d) (by simp) (fun _ _ i => by simp [Pos.sub])
      have := g2.put (dst := o.dst) (by rw [hdd] at hd ⊢; exact hd) (x := get st.env t) (v := a.tmps.getD t undef) (fun _ => by rw [hdd]; exact g1)
      refine ⟨_, a.tmps.getD t undef, _, ad, h, ?_, ren_live _ _, g3, fun w' _ => by unfold execOp; rcases ho with ho | ho <;> rw [ho] <;> rfl⟩
      rw [hdd] at this ⊢
      exact this
    · exact h.elim
  split at h
  · rename_i ho; rw [ho] at hq; simp [isQuiet] at hq
  · rename_i ho; rw [ho] at hq; simp [isQuiet] at hq
  · rename_i ho; rw [ho] at hq; simp [isQuiet] at hq
  · rename_i t x ho
    cases hf : (Nat.beq fl 7 || (Nat.beq fl 17 && canTake st.heap (ev st.env x))) with
    | true =>
      rw [hf] at h
      obtain ⟨st', v, f, h1, h2, h3, h4⟩ := takeLoad_core hT hS hd ho h
      exact ⟨st', v, renO f O, ad, h1, h2, ren_live _ _, h3, h4⟩
    | false => rw [hf] at h; exact quiet (by rw [ho]; exact h)
  · rename_i t x lo ho
    cases hf : Nat.beq fl 18 with
    | true =>
      rw [hf] at h
      obtain ⟨st', v, f, h1, h2, h3, h4⟩ := sliceOwn_core (P := P) hT hS hd ho h
      exact ⟨st', v, renO f O, ad, h1, h2, ren_live _ _, h3, fun w' _ => h4 w'⟩
    | false => rw [hf] at h; exact quiet (by rw [ho]; exact h)
  · rename_i ho; rw [ho] at hq; simp [isQuiet] at hq
  · rename_i ho; rw [ho] at hq; simp [isQuiet] at hq
  · rename_i ho; rw [ho] at hq; simp [isQuiet] at hq
  · rename_i ho; rw [ho] at hq; simp [isQuiet] at hq
  · rename_i ho; rw [ho] at hq; simp [isQuiet] at hq
  · rename_i ho; rw [ho] at hq; simp [isQuiet] at hq
  · rename_i ho; rw [ho] at hq; simp [isQuiet] at hq
  · rename_i ho; rw [ho] at hq; simp [isQuiet] at hq
  · rename_i ho; rw [ho] at hq; simp [isQuiet] at hq
  · rename_i t ho
    cases h42 : Nat.beq fl 42 with
    | true =>
      rw [h42] at h
      obtain ⟨st', v, O', ad', h1, h2, h3, h4, h5⟩ := frzRow_core (P := P) hS ho hd h
      exact ⟨st', v, O', ad', h1, h2, h3, h4, fun w' _ => h5 w'⟩
    | false =>
    rw [h42] at h
    cases hh : (Nat.beq fl 5 && (get st.env t).hasOwn) with
    | true => rw [hh] at h; exact mv t (.inl ho) h
    | false => rw [hh] at h; exact quiet (by rw [ho]; exact h)
  · rename_i t ho
    cases hh : (!Nat.beq fl 6 && (get st.env t).hasOwn) with
    | true => rw [hh] at h; exact mv t (.inr ho) h
    | false => rw [hh] at h; exact quiet (by rw [ho]; exact h)
  · exact quiet h

/-- own blocks are not looked at -/
def nob (O : Nat → Own) : Nat → Own := fun B =>
  match O B with
  | .blk _ => .lst .no 0
  | .inn _ _ => .lst .no 0
  | x => x

theorem nob_im {B o : Nat} : im (nob O) B o ↔ im O B o := by
  unfold im nob
  cases O B <;> simp

theorem nob_agree {w' : World} {O' : Nat → Own} (h : Step w O w' O') : Agree (nob O) w w' := by
  intro B o hB hl
  cases hO : O B with
  | blk k => simp [live, nob, hO] at hl
  | inn k i => simp [live, nob, hO] at hl
  | lst p fill =>
    simp only [live, nob, hO] at hl
    exact (h.cell B o hB (by unfold im; rw [hO]; exact hl)).2
  | free => simp only [World.cell?, (h.free B hB (by rw [hO]; trivial)).2]
  | out s => simp only [World.cell?, (h.free B hB (by rw [hO]; trivial)).2]

theorem im_op (hT : TabOk P T) (hS : Sat st a w O ad) (h : opIm T o st K) :
    ∃ st' v, K st' ∧ Sat st' (a.put o.dst v) w O ad ∧ ∀ w', Agree (nob O) w w' → (execOp a.eval o).run P w' = .ok (.value v) w' := by
  obtain ⟨hd, h⟩ := needE h
  have hni : ∀ B k i, nob O B ≠ .inn k i := fun B k i h => by
    unfold nob at h
    cases hO : O B <;> rw [hO] at h <;> simp at h
  have hev : ∀ x, VRel w (nob O) ad (posOf x) (nsT (ev st.env x)) (a.eval x) := fun x => by
    unfold nsT
    cases hn : noSV (ev st.env x) with
    | true => rw [cond_true]; exact (hS.ev x).chgO (fun B o _ hi => nob_im.2 hi) (fun _ q hq B fill hB => by simp [nob, hB]) (.inr hn)
    | false => rw [cond_false]; exact .undef _
  obtain ⟨x, rv, hk, hr, hrun⟩ := vop_ok hT (H := []) (ad := ad) (e := fun x => nsT (ev st.env x)) (fun B _ k i h _ => absurd h (hni B k i)) (fun k b hb => by simp [nth] at hb) hev h
  exact ⟨_, rv, hk, hS.put hd fun _ => (hr.chgO (fun B o _ hi => nob_im.1 hi) (fun hn => absurd rfl hn) (.inl fun B k i h => absurd h (hni B k i))).any _, hrun⟩

/-- a moment in a region: the world, whose the memory is, what has been carried out -/
structure Base where
  w : World
  O : Nat → Own
  L : Array Bool

/-- since then what was told is as it was: what nobody writes; all, as long as no store has been carried out -/
def SofB (C : Nat → Shape) (fl : Nat → Nat) (ops : Array Oper) (b : Base) (L : Array Bool) (w' : World) : Prop :=
  Agree (nob b.O) b.w w' ∧ ((∀ k o, ops[k]? = some o → isStoreC C (fl k) o.op = true → L.getD k false = true → b.L.getD k false = true) → Agree b.O b.w w')

def SofL (C : Nat → Shape) (fl : Nat → Nat) (ops : Array Oper) (bs : List Base) (L : Array Bool) (w' : World) : Prop := ∀ b ∈ bs, SofB C fl ops b L w'

/-- what is known of those moments -/
def Known (C : Nat → Shape) (fl : Nat → Nat) (ops : Array Oper) (bs : List Base) (listed : Array Bool) (w : World) (O : Nat → Own) : Prop :=
  ∀ b ∈ bs, Step b.w b.O w O ∧ SofB C fl ops b listed w ∧ ∀ k, b.L.getD k false = true → listed.getD k false = true

theorem SofB.set {fl : Nat → Nat} {ops : Array Oper} {b : Base} {L : Array Bool} {w' : World} (h : SofB C fl ops b L w') (i : Nat) : SofB C fl ops b (L.setIfInBounds i true) w' :=
  ⟨h.1, fun hk => h.2 fun k o ho hs hl => hk k o ho hs (getD_set_true hl)⟩

theorem SofB.unset {fl : Nat → Nat} {ops : Array Oper} {b : Base} {L : Array Bool} {w' : World} {i : Nat} {oi : Oper} (hi : ops[i]? = some oi) (hns : isStoreC C (fl i) oi.op = false) (h : SofB C fl ops b (L.setIfInBounds i true) w') : SofB C fl ops b L w' :=
  ⟨h.1, fun hk => h.2 fun k o ho hs hl => by
    by_cases e : i = k
    · subst e; rw [hi] at ho; obtain rfl := Option.some.inj ho; rw [hns] at hs; simp at hs
    · rw [getD_set_ne false e] at hl; exact hk k o ho hs hl⟩

theorem Known.next {fl : Nat → Nat} {ops : Array Oper} {bs : List Base} {listed : Array Bool} {j : Nat} {o : Oper} {w' : World} {O' : Nat → Own} (h : Known C fl ops bs listed w O) (ho : ops[j]? = some o) (hj : listed.getD j true = false)
    (hst : Step w O w' O') (hag : isStoreC C (fl j) o.op = false → Agree O w w') : Known C fl ops bs (listed.setIfInBounds j true) w' O' := fun b hb => by
  obtain ⟨h1, h2, h3⟩ := h b hb
  refine ⟨h1.trans hst, ⟨nob_agree (h1.trans hst), fun hk => ?_⟩, fun k hk => getD_set_true (h3 k hk)⟩
  have hjl : j < listed.size := by
    rcases Nat.lt_or_ge j listed.size with h | h
    · exact h
    · simp [Array.getD_eq_getD_getElem?, Array.getElem?_eq_none h] at hj
  have hjf : listed.getD j false = false := getD_both hj
  have hns : isStoreC C (fl j) o.op = false := by
    cases e : isStoreC C (fl j) o.op with
    | false => rfl
    | true =>
      have := hk j o ho e (by simp [Array.getD, hjl])
      have := h3 j this
      rw [hjf] at this; simp at this
  have hold := h2.2 fun k o' ho' hs' hl => hk k o' ho' hs' (getD_set_true hl)
  intro B q hB hl
  rw [hag hns B q (Nat.lt_of_lt_of_le hB h1.size) (h1.live hB hl)]
  exact hold B q hB hl

theorem Known.sof {fl : Nat → Nat} {ops : Array Oper} {bs : List Base} {listed : Array Bool} (h : Known C fl ops bs listed w O) : SofL C fl ops bs listed w := fun b hb => (h b hb).2.1

theorem wp_ex {R : Act → World → Prop} (h : o.wp P a w R fun _ _ _ => False) : ∃ a' w', R a' w' := by
  unfold Oper.wp at h
  generalize (execOp a.eval o).run P w = r at h
  cases r with
  | ok n w' =>
    cases n with
    | enter f args =>
      obtain ⟨e, w2, fr, h1, _⟩ := h []
      cases e with
      | returned v => exact ⟨_, _, h1⟩
      | panicked c => exact h1.elim
      | outgrown => exact absurd h1 (by simp [LetsOut])
    | row row args =>
      obtain ⟨v, w2, h1, _⟩ := h (Frame.ofRow P row args .normal) []
      exact ⟨_, _, h1⟩
    | _ => first | exact ⟨_, _, h⟩ | exact h.elim
  | halt x w' => cases x <;> exact h.elim

/-- what a plan says comes about somewhere -/
theorem runPlan_ex [InlOk P T] (hT : TabOk P T) {fl : Nat → Nat} {ops : Array Oper} : ∀ (p : Plan) {K : St → Prop} {st : St} {a : Act} {w : World} {O : Nat → Own} {ad : List Nat}, Sat st a w O ad → runPlan P T C fl ops K p st → ∃ s, K s
  | .done, K, st, a, w, O, ad, hS, h => ⟨st, h⟩
  | .one i p, K, st, a, w, O, ad, hS, h => by
    simp only [runPlan] at h
    cases ho : ops[i]? with
    | none => rw [ho] at h; exact h.elim
    | some o =>
      simp only [ho] at h
      rcases guard_ok (hS := hS) h with ⟨hw, st', h1, h2⟩ | ⟨hw, st', h1, h2⟩
      · obtain ⟨a', w', st2, O2, ad2, hk, hs2, _⟩ := wp_ex (opK_ok hT (Q := fun _ _ _ => False) h2 h1)
        exact runPlan_ex hT p hs2 hk
      · obtain ⟨h3, h4⟩ := needE h1
        exact runPlan_ex hT p (h2.put h3 (fun _ => skipped _)) h4
  | .im i p, K, st, a, w, O, ad, hS, h => by
    simp only [runPlan] at h
    cases ho : ops[i]? with
    | none => rw [ho] at h; exact h.elim
    | some o =>
      simp only [ho] at h
      rcases guard_ok (hS := hS) h with ⟨hw, st', h1, h2⟩ | ⟨hw, st', h1, h2⟩
      · obtain ⟨st2, v, k1, k2, _⟩ := im_op hT h2 h1
        exact runPlan_ex hT p k2 k1
      · obtain ⟨h3, h4⟩ := needE h1
        exact runPlan_ex hT p (h2.put h3 (fun _ => skipped _)) h4
  | .both p q, K, st, a, w, O, ad, hS, h => by
    simp only [runPlan] at h
    cases hc : T.conc with
    | true =>
      rw [hc] at h
      obtain ⟨s1, h1⟩ := runPlan_ex hT p hS h
      obtain ⟨c1, _, _, h2⟩ := canonK_le h1
      exact ⟨c1, h2⟩
    | false =>
      rw [hc] at h
      exact runPlan_ex hT p hS h.1

/-- Whatever order is drawn, the machine does what the plan says. -/
theorem plan_ok [InlOk P T] (hT : TabOk P T) {fl : Nat → Nat} {ops : Array Oper} {Q : Exit → Act → World → Prop} {w0 : World} {O0 : Nat → Own} (hsel : Region.noSelect ops = true) (hQp : ∀ c a w, ¬ Q (.panic c) a w) : ∀ (g : Nat) (listed : Array Bool) (p : Plan) (K : St → Prop) (st : St) (a : Act) (w : World) (O : Nat → Own) (ad : List Nat) (bs : List Base),
    (∀ st' a' w' O' ad', K st' → Sat st' a' w' O' ad' → Step w0 O0 w' O' → Q .normal a' w') → mkPlan C fl ops g listed = some p → Step w0 O0 w O → Down ops listed → Sat st a w O ad → Known C fl ops bs listed w O → runPlan P T C fl ops K p st → wpAnyI P ops Q (SofL C fl ops bs) g listed a w := by
  intro g
  induction g with
  | zero =>
    intro listed p K st a w O ad bs hQ hp hst hdn hS hs h
    simp only [mkPlan] at hp
    cases he : (Region.ready .any ops listed).isEmpty with
    | false => simp [he] at hp
    | true =>
      simp only [he, cond_true, Option.some.injEq] at hp
      subst hp
      exact ⟨by simpa using he, hQ _ _ _ _ _ h hS hst⟩
  | succ g ih =>
    intro listed p K st a w O ad bs hQ hp hst hdn hS hs h
    -- one operation that is carried out
    have step : ∀ (j : Nat) (q : Plan) (K : St → Prop), (∀ st' a' w' O' ad', K st' → Sat st' a' w' O' ad' → Step w0 O0 w' O' → Q .normal a' w') → j ∈ Region.ready .any ops listed → mkPlan C fl ops g (listed.setIfInBounds j true) = some q → runPlan P T C fl ops K (.one j q) st →
        wpOp P ops Q j (fun a' w' => SofL C fl ops bs (listed.setIfInBounds j true) w' ∧ wpAnyI P ops Q (SofL C fl ops bs) g (listed.setIfInBounds j true) a' w') a w := by
      intro j q K hQ hj hq h
      have hj0 := (mem_ready.1 hj).1
      simp only [runPlan] at h
      unfold wpOp
      cases ho : ops[j]? with
      | none => rw [ho] at h; exact h.elim
      | some o =>
        simp only [ho] at h ⊢
        rcases guard_ok (hS := hS) h with ⟨hw, st', h1, h2⟩ | ⟨hw, st', h1, h2⟩
        · rw [if_pos hw]
          refine .inl (Oper.wp_mono (fun a' w' => ?_) (opK_ok hT (Q := Q) h2 h1))
          rintro ⟨st2, O2, ad2, hk, hs2, hst2, hag⟩
          have hs3 := hs.next ho hj0 hst2 hag
          exact ⟨hs3.sof, ih _ _ _ _ _ _ _ _ _ hQ hq (hst.trans hst2) (hdn.set hj) hs2 hs3 hk⟩
        · rw [if_neg (by rw [hw]; simp)]
          obtain ⟨h3, h4⟩ := needE h1
          have hs3 := hs.next ho hj0 (Step.refl w O) (fun _ => Agree.refl O w)
          exact ⟨hs3.sof, ih _ _ _ _ _ _ _ _ _ hQ hq hst (hdn.set hj) (h2.put h3 (fun _ => skipped _)) hs3 h4⟩
    -- one that is taken first
    have first : ∀ (i : Nat) (o : Oper) (q : Plan) (v : Value) (st' : St) (O' : Nat → Own) (ad' : List Nat) (S' : World → Prop), i ∈ Region.ready .any ops listed → ops[i]? = some o → isQuiet o.op = true → Region.free .any ops listed i = true →
        (∀ L w', Down ops L → L.getD i true = false → SofB C fl ops ⟨w, O, listed⟩ L w' → S' w') → mkPlan C fl ops g (listed.setIfInBounds i true) = some q → YieldsIf P ops S' o v a → runPlan P T C fl ops K q st' → Sat st' (a.put o.dst v) w O' ad' →
        Step w O w O' → wpAnyI P ops Q (SofL C fl ops bs) (g + 1) listed a w := by
      intro i o q v st' O' ad' S' hi ho hqt hfree hS' hq hy hk hs' hst'
      have hns : isStoreC C (fl i) o.op = false := isQuiet_store hqt
      have hb : Known C fl ops (⟨w, O, listed⟩ :: bs) listed w O := fun b hb => by
        rcases List.mem_cons.1 hb with rfl | hb
        · exact ⟨Step.refl _ _, ⟨Agree.refl _ _, fun _ => Agree.refl _ _⟩, fun k hk => hk⟩
        · exact hs b hb
      have hb2 := hb.next ho (mem_ready.1 hi).1 hst' (fun _ => Agree.refl O w)
      refine wpAnyI_mono (fun L w' hL b hb => hL b (List.mem_cons_of_mem _ hb)) _ _ _ _ (wpAnyI_first (S := SofL C fl ops (⟨w, O, listed⟩ :: bs)) (S' := S') ho (Region.noSelect_spec hsel) hQp
        (fun L w' hd hL hs => hS' L w' hd hL (hs _ (List.mem_cons_self ..))) (fun L w' hs b hb => (hs b hb).unset ho hns) (fun L w' hs b hb => (hs b hb).set i) g listed a w (Region.free_spec ho hfree) hi hdn hy hb.sof ?_)
      exact ih _ _ _ _ _ _ _ _ _ hQ hq (hst.trans hst') (hdn.set hi) hs' hb2 hk
    simp only [mkPlan] at hp
    split at hp
    · rename_i hr
      simp only [Option.some.injEq] at hp
      subst hp
      exact ⟨fun _ => hQ _ _ _ _ _ h hS hst, by rw [hr]; simp⟩
    · rename_i i hr
      obtain ⟨q, hq, rfl⟩ := Option.map_eq_some_iff.1 hp
      refine ⟨by rw [hr]; simp, fun j hj => ?_⟩
      have hji : j = i := by rw [hr] at hj; simpa using hj
      subst hji
      exact step j q K hQ hj hq h
    · rename_i hr1 hr2
      split at hp
      · rename_i i hf
        have htk := List.find?_some hf
        have hir : i ∈ Region.ready .any ops listed := List.mem_of_find?_eq_some hf
        obtain ⟨q, hq, rfl⟩ := Option.map_eq_some_iff.1 hp
        simp only [runPlan] at h
        cases ho : ops[i]? with
        | none => rw [ho] at h; exact h.elim
        | some o =>
          simp only [ho] at h
          simp only [takable, ho, Bool.and_eq_true] at htk
          obtain ⟨⟨hqt, hfree⟩, hsw⟩ := htk
          have hS' : ∀ L w', Down ops L → L.getD i true = false → SofB C fl ops ⟨w, O, listed⟩ L w' → Agree O w w' := by
            intro L w' hd hL hs
            refine hs.2 fun k ok hk hst hl => ?_
            have hkl : k < ops.size := (Array.getElem?_eq_some_iff.1 hk).1
            have h1 := List.all_eq_true.1 hsw k (List.mem_range.2 hkl)
            simp only [hk, hst, Bool.not_true, Bool.false_or, Bool.or_eq_true, Bool.and_eq_true] at h1
            rcases h1 with h1 | ⟨_, h2⟩
            · exact h1
            · have h3 := waitsT_down hd h2 hl
              rw [getD_both hL] at h3
              simp at h3
          rcases guard_ok (hS := hS) h with ⟨hw, st', h1, h2⟩ | ⟨hw, st', h1, h2⟩
          · obtain ⟨st2, v, O2, ad2, k1, k2, k3, k4, k5⟩ := quiet_op hT hqt h2 h1
            exact first i o q v st2 O2 ad2 _ hir ho hqt hfree hS' hq (.inl ⟨hw, fun w' hw' => k5 w' hw'⟩) k1 k2 k4
          · obtain ⟨h3, h4⟩ := needE h1
            exact first i o q undef _ O ad _ hir ho hqt hfree hS' hq (.inr ⟨hw, rfl⟩) h4 (h2.put h3 (fun _ => skipped _)) (Step.refl _ _)
      · split at hp
        · rename_i i hf
          have htk := List.find?_some hf
          have hir : i ∈ Region.ready .any ops listed := List.mem_of_find?_eq_some hf
          obtain ⟨q, hq, rfl⟩ := Option.map_eq_some_iff.1 hp
          simp only [runPlan] at h
          cases ho : ops[i]? with
          | none => rw [ho] at h; exact h.elim
          | some o =>
            simp only [ho] at h
            simp only [takable, ho, Bool.and_eq_true] at htk
            obtain ⟨⟨hqt, hfree⟩, _⟩ := htk
            have hS' : ∀ L w', Down ops L → L.getD i true = false → SofB C fl ops ⟨w, O, listed⟩ L w' → Agree (nob O) w w' := fun L w' _ _ hs => hs.1
            rcases guard_ok (hS := hS) h with ⟨hw, st', h1, h2⟩ | ⟨hw, st', h1, h2⟩
            · obtain ⟨st2, v, k1, k2, k5⟩ := im_op hT h2 h1
              exact first i o q v st2 O ad _ hir ho hqt hfree hS' hq (.inl ⟨hw, fun w' hw' => k5 w' hw'⟩) k1 k2 (Step.refl _ _)
            · obtain ⟨h3, h4⟩ := needE h1
              exact first i o q undef _ O ad _ hir ho hqt hfree hS' hq (.inr ⟨hw, rfl⟩) h4 (h2.put h3 (fun _ => skipped _)) (Step.refl _ _)
        · -- whatever is ready
          have all : ∀ (l : List Nat) (p : Plan) (K : St → Prop), (∀ st' a' w' O' ad', K st' → Sat st' a' w' O' ad' → Step w0 O0 w' O' → Q .normal a' w') → forkL (fun i => (mkPlan C fl ops g (listed.setIfInBounds i true)).map (.one i ·)) l = some p → runPlan P T C fl ops K p st →
              ∀ j ∈ l, ∃ (q : Plan) (K' : St → Prop), (∀ st' a' w' O' ad', K' st' → Sat st' a' w' O' ad' → Step w0 O0 w' O' → Q .normal a' w') ∧ mkPlan C fl ops g (listed.setIfInBounds j true) = some q ∧ runPlan P T C fl ops K' (.one j q) st := by
            intro l
            induction l with
            | nil => intro p K hQ hp _ j hj; cases hj
            | cons i r ihl =>
              intro p K hQ hp h j hj
              unfold forkL at hp
              cases hq : mkPlan C fl ops g (listed.setIfInBounds i true) with
              | none => rw [hq] at hp; simp at hp
              | some q =>
                rw [hq] at hp
                cases r with
                | nil =>
                  obtain rfl : Plan.one i q = p := by simpa using hp
                  have : j = i := by simpa using hj
                  subst this
                  exact ⟨q, K, hQ, hq, h⟩
                | cons i2 r2 =>
                  obtain ⟨p2, hp2, rfl⟩ := Option.map_eq_some_iff.1 hp
                  cases hc : T.conc with
                  | false =>
                    have h : runPlan P T C fl ops K (.one i q) st ∧ runPlan P T C fl ops K p2 st := by
                      rw [runPlan, hc] at h; exact h
                    obtain ⟨ha, hb⟩ := h
                    rcases List.mem_cons.1 hj with rfl | hj
                    · exact ⟨q, K, hQ, hq, ha⟩
                    · exact ihl p2 K hQ hp2 hb j hj
                  | true =>
                    have h : runPlan P T C fl ops (fun s1 => canonK s1 fun c1 => runPlan P T C fl ops (fun s2 => canonK s2 fun c2 => sameSt c2 c1) p2 st ∧ K c1) (.one i q) st := by
                      rw [runPlan, hc] at h; exact h
                    rcases List.mem_cons.1 hj with rfl | hj
                    · refine ⟨q, _, fun st' a' w' O' ad' hk hs hst => ?_, hq, h⟩
                      obtain ⟨c1, hle, _, hk1⟩ := canonK_le hk
                      obtain ⟨O2, ad2, hs2, hst2⟩ := hle _ _ _ _ hs
                      exact hQ _ _ _ _ _ hk1 hs2 (hst.trans hst2)
                    · obtain ⟨s1, hk⟩ := runPlan_ex hT _ hS h
                      obtain ⟨c1, _, h2, hk1⟩ := canonK_le hk
                      refine ihl p2 _ (fun st' a' w' O' ad' hk hs hst => ?_) hp2 h2 j hj
                      obtain ⟨c2, hle, hsm⟩ := canonK_le hk
                      obtain ⟨O2, ad2, hs2, hst2⟩ := (hle.trans (sameSt_le hsm)) _ _ _ _ hs
                      exact hQ _ _ _ _ _ hk1 hs2 (hst.trans hst2)
          refine ⟨fun he => absurd he hr1, fun j hj => ?_⟩
          obtain ⟨q, K', hQ', hq, h2⟩ := all _ p K hQ hp h j hj
          exact step j q K' hQ' hj hq h2

/-- The machine does what `run` says. -/
theorem run_ok [InlOk P T] (hT : TabOk P T) (hm : P.follows .mixedOrders = true) {fl : Fl} : ∀ (c : Code) {Qa : Exit → St → Prop} {st : St} {a : Act} {w : World} {O : Nat → Own} {ad : List Nat},
    run P T C fl c Qa st → Sat st a w O ad → c.wp P (fun e a' w' => ∃ st' O' ad', Qa e st' ∧ Sat st' a' w' O' ad' ∧ Step w O w' O') a w
  | .skip, _, st, a, w, O, ad, h, hS => wp_skip ⟨st, O, ad, h, hS, Step.refl _ _⟩
  | .region id ops false, _, st, a, w, O, ad, h, hS => wp_region (runOps_ok hT (fun st' a' w' O' ad' hk hs hst => ⟨st', O', ad', hk, hs, hst⟩) _ _ _ _ _ _ (Step.refl _ _) hS h)
  | .region id ops true, Qa, st, a, w, O, ad, h, hS => by
    simp only [run] at h
    split at h
    · rename_i p hp
      obtain ⟨h1, h2⟩ := needE h
      have hd0 : Down ops (Array.replicate ops.size false) := fun k o _ hl => by
        rw [Array.getD_eq_getD_getElem?, Array.getElem?_replicate] at hl
        split at hl <;> simp at hl
      have go : ∀ {K : St → Prop}, runPlan P T C (fl.op id) ops K p st → (∀ st' a' w' O' ad', K st' → Sat st' a' w' O' ad' → Step w O w' O' → ∃ st' O' ad', Qa .normal st' ∧ Sat st' a' w' O' ad' ∧ Step w O w' O') →
          (Code.region id ops true).wp P (fun e a' w' => ∃ st' O' ad', Qa e st' ∧ Sat st' a' w' O' ad' ∧ Step w O w' O') a w := by
        intro K h2 hK
        refine wp_mono (wp_region_any (Q := fun e a' w' => e = .normal ∧ ∃ st' O' ad', Qa .normal st' ∧ Sat st' a' w' O' ad' ∧ Step w O w' O') hm (wpAny_of_I _ _ _ _ (plan_ok hT h1 (by simp) _ _ _ K _ _ _ _ _ [] (fun st' a' w' O' ad' hk hs hst => ⟨rfl, hK st' a' w' O' ad' hk hs ((drawn_step w O _).1.trans hst)⟩) hp (Step.refl _ _) hd0 (hS.drawn _) (fun b hb => by cases hb) h2))) ?_
        rintro e a' w' ⟨rfl, h⟩
        exact h
      split at h2
      · rename_i s hs
        refine go h2.1 fun st' a' w' O' ad' hk hs' hst => ?_
        obtain ⟨O1, ad1, g3, g4⟩ := only_le (some (keysE s.env)) st' _ _ _ _ hs'
        obtain ⟨O2, ad2, g1, g2⟩ := hk _ _ _ _ g3
        exact ⟨s, O2, ad2, h2.2, g1, hst.trans (g4.trans g2)⟩
      · exact go h2 fun st' a' w' O' ad' hk hs' hst => ⟨st', O', ad', hk, hs', hst⟩
    · exact h.elim
  | .seq x y, Qa, st, a, w, O, ad, h, hS => by
    have h' : (∃ l, ∃ J : Exit → St → Prop, (∀ e s, J e s → ∃ s', Le s s' ∧ (match e with | .normal => run P T C fl y Qa s' | e => Qa e s')) ∧ run P T C fl x J (St.only (some l) st)) ∨ run P T C fl x (fun e st' => match e with | .normal => run P T C fl y Qa st' | e => Qa e st') st := by
      simp only [run] at h
      cases hj : fl.jn (firstRegion y) with
      | some l => rw [hj] at h; exact .inl ⟨l, h⟩
      | none => rw [hj] at h; exact .inr h
    have h'' : x.wp P (fun e a' w' => ∃ st' O' ad', (match e with | .normal => run P T C fl y Qa st' | e => Qa e st') ∧ Sat st' a' w' O' ad' ∧ Step w O w' O') a w := by
      rcases h' with ⟨l, J, hJ, h'⟩ | h'
      · obtain ⟨O0, ad0, hS0, hst0⟩ := only_le (some l) st a w O ad hS
        refine wp_mono (run_ok hT hm x h' hS0) fun e a1 w1 => ?_
        rintro ⟨st1, O1, ad1, hj1, hs1, hst1⟩
        obtain ⟨s', hle, hq⟩ := hJ _ _ hj1
        obtain ⟨O2, ad2, hs2, hst2⟩ := hle _ _ _ _ hs1
        exact ⟨s', O2, ad2, hq, hs2, hst0.trans (hst1.trans hst2)⟩
      · exact run_ok hT hm x h' hS
    refine wp_seq (wp_mono h'' fun e a1 w1 => ?_)
    rintro ⟨st1, O1, ad1, hq, hs1, hst1⟩
    cases e with
    | normal => exact wp_mono (run_ok hT hm y hq hs1) fun e a2 w2 ⟨st2, O2, ad2, hq2, hs2, hst2⟩ => ⟨st2, O2, ad2, hq2, hs2, hst1.trans hst2⟩
    | exit id => exact ⟨st1, O1, ad1, hq, hs1, hst1⟩
    | goto l => exact ⟨st1, O1, ad1, hq, hs1, hst1⟩
    | ret => exact ⟨st1, O1, ad1, hq, hs1, hst1⟩
    | panic ch => exact ⟨st1, O1, ad1, hq, hs1, hst1⟩
    | outgrown => exact ⟨st1, O1, ad1, hq, hs1, hst1⟩
  | .cond c x y, Qa, st, a, w, O, ad, h, hS => by
    simp only [run] at h
    split at h
    · rename_i o' b hb
      have hv := hS.ev c
      rw [hb] at hv
      exact wp_cond_split (bool_of hv) (fun ht => run_ok hT hm x (by rw [ht] at h; exact h) hS) (fun hf => run_ok hT hm y (by rw [hf] at h; exact h) hS)
    · exact h.elim
  | .block id c, Qa, st, a, w, O, ad, h, hS => by
    refine wp_block (wp_mono (run_ok hT hm c h hS) fun e a1 w1 => ?_)
    rintro ⟨st1, O1, ad1, hq, hs1, hst1⟩
    cases e with
    | exit id' =>
      simp only [Exit.inBlock]
      by_cases e : id' = id
      · simp only [e, if_true] at hq ⊢; exact ⟨st1, O1, ad1, hq, hs1, hst1⟩
      · simp only [e, if_false] at hq ⊢; exact ⟨st1, O1, ad1, hq, hs1, hst1⟩
    | normal => exact ⟨st1, O1, ad1, hq, hs1, hst1⟩
    | goto l => exact ⟨st1, O1, ad1, hq, hs1, hst1⟩
    | ret => exact ⟨st1, O1, ad1, hq, hs1, hst1⟩
    | panic ch => exact ⟨st1, O1, ad1, hq, hs1, hst1⟩
    | outgrown => exact ⟨st1, O1, ad1, hq, hs1, hst1⟩
  | .loop c, Qa, st, a, w, O, ad, h, hS => by
    have h' : ∃ g : St → St, (∀ st, Le st (g st)) ∧ LoopK (fun Q st => run P T C fl c Q st) Qa (g st) := by
      have h : (match T.conc with
        | true => LoopU St.tidy (fun Q st => run P T C fl c Q st) Qa 100000 st.tidy
        | false => LoopK (fun Q st => run P T C fl c Q st) Qa (St.only (fl.lv (firstRegion c)) st)) := h
      cases hc : T.conc with
      | true => rw [hc] at h; exact ⟨St.tidy, fun st => only_le _ st, LoopU.loop (fun st => only_le _ st) h⟩
      | false => rw [hc] at h; exact ⟨_, fun st => only_le (fl.lv (firstRegion c)) st, h⟩
    obtain ⟨g, hg, X, I, μ, x0, J, hle, hnorm, hexit, hround⟩ := h'
    obtain ⟨O9, ad9, hS9, hst9⟩ := hg st a w O ad hS
    obtain ⟨O0, ad0, hS0, hst0'⟩ := hle a w O9 ad9 hS9
    have hst0 := hst9.trans hst0'
    refine wp_loop_ghost (fun n a' w' => ∃ x O' ad', μ x = n ∧ Sat (I x) a' w' O' ad' ∧ Step w O w' O') (μ x0) ⟨x0, O0, ad0, rfl, hS0, hst0⟩ ?_
    rintro n a1 w1 ⟨x, O1, ad1, rfl, hs1, hst1⟩
    refine wp_mono (run_ok hT hm c (hround x) hs1) fun e a2 w2 => ?_
    rintro ⟨st2, O2, ad2, hq, hs2, hst2⟩
    cases e with
    | normal =>
      obtain ⟨y, hle2, hlt⟩ := hnorm x st2 hq
      obtain ⟨O3, ad3, hs3, hst3⟩ := hle2 _ _ _ _ hs2
      exact ⟨μ y, hlt, y, O3, ad3, rfl, hs3, hst1.trans (hst2.trans hst3)⟩
    | exit id =>
      obtain ⟨st3, hle, hq⟩ := hexit x _ st2 (by simp) hq
      obtain ⟨O3, ad3, hs3, hst3⟩ := hle _ _ _ _ hs2
      exact ⟨st3, O3, ad3, hq, hs3, hst1.trans (hst2.trans hst3)⟩
    | goto l =>
      obtain ⟨st3, hle, hq⟩ := hexit x _ st2 (by simp) hq
      obtain ⟨O3, ad3, hs3, hst3⟩ := hle _ _ _ _ hs2
      exact ⟨st3, O3, ad3, hq, hs3, hst1.trans (hst2.trans hst3)⟩
    | ret =>
      obtain ⟨st3, hle, hq⟩ := hexit x _ st2 (by simp) hq
      obtain ⟨O3, ad3, hs3, hst3⟩ := hle _ _ _ _ hs2
      exact ⟨st3, O3, ad3, hq, hs3, hst1.trans (hst2.trans hst3)⟩
    | panic ch =>
      obtain ⟨st3, hle, hq⟩ := hexit x _ st2 (by simp) hq
      obtain ⟨O3, ad3, hs3, hst3⟩ := hle _ _ _ _ hs2
      exact ⟨st3, O3, ad3, hq, hs3, hst1.trans (hst2.trans hst3)⟩
    | outgrown =>
      obtain ⟨st3, hle, hq⟩ := hexit x _ st2 (by simp) hq
      obtain ⟨O3, ad3, hs3, hst3⟩ := hle _ _ _ _ hs2
      exact ⟨st3, O3, ad3, hq, hs3, hst1.trans (hst2.trans hst3)⟩
  | .exit id, _, st, a, w, O, ad, h, hS => wp_exit ⟨st, O, ad, h, hS, Step.refl _ _⟩
  | .ret, _, st, a, w, O, ad, h, hS => wp_ret ⟨st, O, ad, h, hS, Step.refl _ _⟩
  | .rangeFunc _ _ _ _, _, _, _, _, _, _, h, _ => h.elim
  | .scope _, _, _, _, _, _, _, h, _ => h.elim
  | .label _, _, _, _, _, _, _, h, _ => h.elim
  | .goto _, _, _, _, _, _, _, h, _ => h.elim
  | .refuse _, _, _, _, _, _, _, h, _ => h.elim

end
end Go.Proofs.Ytgghnfmabphbmaa.Fw
