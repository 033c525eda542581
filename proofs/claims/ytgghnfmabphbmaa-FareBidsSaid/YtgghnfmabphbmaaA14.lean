/- Functions: from the body to the contract. -/
import Derived.Test.YtgghnfmabphbmaaA13
namespace Go.Proofs.Ytgghnfmabphbmaa.Fw
open Go
set_option linter.unusedSimpArgs false
set_option linter.unusedVariables false

def retsK (T : Tab) (nb : Nat) (st : St) : List ResultVar → (List AVal → Prop) → Prop
  | [], K => K []
  | .tmp t :: r, K => retValK T.conc nb st.heap (get st.env t).shed fun x => retsK T nb st r fun xs => K (x :: xs)
  | .cell c t :: r, K => loadK T st.heap t (get st.env c) fun v => retValK T.conc nb st.heap v.shed fun x => retsK T nb st r fun xs => K (x :: xs)

def retKn (T : Tab) (nb : Nat) (rs : Array ResultVar) (st : St) (K : AVal → Prop) : Prop :=
  match rs.toList with
  | [.tmp t] => retValK T.conc nb st.heap (get st.env t) K
  | [.cell c t] => loadK T st.heap t (get st.env c) fun v => retValK T.conc nb st.heap v.shed K
  | l => need (!Nat.beq l.length 1) <| retsK T nb st l fun xs => K (.tup xs)

def retK (T : Tab) (rs : Array ResultVar) (st : St) (K : AVal → Prop) : Prop := retKn T 0 rs st K

def retQ (T : Tab) (rs : Array ResultVar) (K : AVal → Prop) (e : Exit) (st : St) : Prop :=
  match e with
  | .normal | .ret => retK T rs st K
  | _ => False

/-- what a caller's variable holds in the end -/
def outV (cc : Bool) (nb : Nat) (H : List Blk) (v : AVal) (K : AVal → Prop) : Prop :=
  match v with
  | .arr k sz off n => bif Nat.blt k nb then K (.arr k sz off n) else cellK cc nb H (.arr k sz off n) K
  | v => need (okV (fun k => Nat.blt k nb) v) (K v)

def outVs (cc : Bool) (nb : Nat) (H : List Blk) : List AVal → (List AVal → Prop) → Prop
  | [], K => K []
  | v :: r, K => outV cc nb H v fun x => outVs cc nb H r fun xs => K (x :: xs)

def outB (cc : Bool) (nb : Nat) (H : List Blk) (b : Blk) (K : Blk → Prop) : Prop :=
  match b with
  | .box cs => outVs cc nb H cs fun xs => K (.box xs)
  | .row s n el ow => K (.row s n el ow)
  | .mp q has val => K (.mp q has val)
  | .mat _ _ _ => False

def outBs (cc : Bool) (nb : Nat) (H : List Blk) : List Blk → (List Blk → Prop) → Prop
  | [], K => K []
  | b :: r, K => outB cc nb H b fun x => outBs cc nb H r fun xs => K (x :: xs)

/-- a return of a function that is handed memory -/
def retKM (T : Tab) (rs : Array ResultVar) (nb : Nat) (st : St) (K : (Nat → Nat) → AVal → List Blk → Prop) : Prop :=
  need (Nat.beq st.nb nb && Nat.ble nb st.heap.length) <| retKn T nb rs st fun r => outBs T.conc nb st.heap (st.heap.take nb) fun L => K st.pin r L

def retQM (T : Tab) (rs : Array ResultVar) (nb : Nat) (K : (Nat → Nat) → AVal → List Blk → Prop) (e : Exit) (st : St) : Prop :=
  match e with
  | .normal | .ret => retKM T rs nb st K
  | _ => False

/-- a return that hands over all memory -/
def retsG (T : Tab) (st : St) : List ResultVar → (List AVal → Prop) → Prop
  | [], K => K []
  | .tmp t :: r, K => retsG T st r fun xs => K ((get st.env t).shed :: xs)
  | .cell c t :: r, K => loadK T st.heap t (get st.env c) fun v => retsG T st r fun xs => K (v.shed :: xs)

def retGn (T : Tab) (rs : Array ResultVar) (st : St) (K : AVal → Prop) : Prop :=
  match rs.toList with
  | [.tmp t] => K (get st.env t)
  | [.cell c t] => loadK T st.heap t (get st.env c) fun v => K v.shed
  | l => need (!Nat.beq l.length 1) <| retsG T st l fun xs => K (.tup xs)

def retQG (T : Tab) (rs : Array ResultVar) (nb : Nat) (K : (Nat → Nat) → AVal → List Blk → Prop) (e : Exit) (st : St) : Prop :=
  match e with
  | .normal | .ret => need (Nat.beq st.nb nb && Nat.ble nb (lenB st.heap)) <| retGn T rs st fun r => K st.pin r st.heap
  | _ => False

def refsH : List Blk → List Nat
  | [] => []
  | b :: r => appN (refsB b) (refsH r)

def eqN : List Nat → List Nat → Bool
  | [], [] => true
  | x :: r, y :: q => Nat.beq x y && eqN r q
  | _, _ => false

def takeN : Nat → List Nat → List Nat
  | 0, _ => []
  | _, [] => []
  | n + 1, x :: r => x :: takeN n r

/-- what is handed back: what was handed over, and what is led to -/
def retNK (nb : Nat) (st : St) (r : AVal) (ks : List Nat) (K : AVal → List Blk → Prop) : Prop :=
  need (uniqN ks && (eqN (takeN nb ks) (seqN 0 nb) && (okV (fun k => memN k ks) r && (pickOk (fun k => memN k ks) st.heap ks && (noSV r && pickN st.heap ks))))) <|
  K (renV (fun k => idxN k ks) r) (pickH (fun k => idxN k ks) st.heap ks)

/-- a return of a function that returns new memory, too -/
def retKN (T : Tab) (rs : Array ResultVar) (nb : Nat) (st : St) (K : (Nat → Nat) → AVal → List Blk → Prop) : Prop :=
  need (Nat.beq st.nb nb && Nat.ble nb (lenB st.heap)) <| retGn T rs st fun r => retNK nb st r (reach st.heap 100 (appN (refsV r) (refsH (takeB nb st.heap))) (seqN 0 nb)) (K st.pin)

def retQN (T : Tab) (rs : Array ResultVar) (nb : Nat) (K : (Nat → Nat) → AVal → List Blk → Prop) (e : Exit) (st : St) : Prop :=
  match e with
  | .normal | .ret => retKN T rs nb st K
  | _ => False

def entryEnv : Nat → List AVal → List (Nat × AVal)
  | _, [] => []
  | i, v :: r => (i, v) :: entryEnv (i + 1) r

def entry (nt : Nat) (args : List AVal) : St := ⟨nt, entryEnv 0 args, [], 0, fun _ => 0⟩

/-- handed nb blocks -/
def entryM (nt : Nat) (args : List AVal) (L : List Blk) (nb : Nat) (pin : Nat → Nat) : St := ⟨nt, entryEnv 0 args, L, nb, pin⟩

section
variable {P : Program} {T : Tab} {C : Nat → Shape} {w : World} {O : Nat → Own} {ad : List Nat} {st : St} {a : Act} {cc : Bool}

theorem outV_ok {nb : Nat} {bl : List Nat} (hb : SubAd nb ad bl) {H : List Blk} (hU : Uni O) (hH : HeapRel w O ad H) {p : Pos} {v : AVal} {rv : Value} (hv : VRel w O ad p v rv) {K : AVal → Prop} (h : outV cc nb H v K) : ∃ x, K x ∧ VRel w (fin nb O) bl p x rv := by
  unfold outV at h
  split at h
  · rename_i k sz off n
    cases hk : Nat.blt k nb with
    | true =>
      rw [hk, cond_true] at h
      cases hv with
      | arrE hB hv => exact ⟨_, h, .arrE (hb _ _ hk hB) hv⟩
      | arr hB hc hr => exact ⟨_, h, .arr (hb _ _ hk hB) hc hr⟩
    | false =>
      rw [hk, cond_false] at h
      exact cellK_ok hb hU hH hv h
  · obtain ⟨h1, h2⟩ := needE h
    exact ⟨_, h2, hv.fin hb h1⟩

theorem outVs_ok {nb : Nat} {bl : List Nat} (hb : SubAd nb ad bl) {H : List Blk} (hU : Uni O) (hH : HeapRel w O ad H) {p : Nat → Pos} : ∀ {cs : List AVal} {s : Nat} {K : List AVal → Prop} {f : Nat → Value}, (∀ i x, nth cs i = some x → VRel w O ad (p (s + i)) x (f i)) → outVs cc nb H cs K →
    ∃ xs, K xs ∧ xs.length = cs.length ∧ ∀ i x, nth xs i = some x → VRel w (fin nb O) bl (p (s + i)) x (f i)
  | [], s, K, f, _, h => ⟨[], h, rfl, fun i x hx => by simp [nth] at hx⟩
  | v :: r, s, K, f, hr, h => by
    obtain ⟨x, hx, h1⟩ := outV_ok hb hU hH (hr 0 v rfl) h
    obtain ⟨xs, h2, h3, h4⟩ := outVs_ok hb hU hH (p := p) (s := s + 1) (f := fun i => f (i + 1)) (fun i y hy => by have := hr (i + 1) y (by simpa [nth] using hy); rwa [show s + (i + 1) = s + 1 + i by omega] at this) hx
    refine ⟨x :: xs, h2, by simp [h3], fun i y hy => ?_⟩
    cases i with
    | zero => simp [nth] at hy; subst hy; exact h1
    | succ i => have := h4 i y (by simpa [nth] using hy); rwa [show s + 1 + i = s + (i + 1) by omega] at this

theorem outB_ok {nb : Nat} {bl : List Nat} (hb : SubAd nb ad bl) {H : List Blk} (hU : Uni O) (hH : HeapRel w O ad H) {k : Nat} {x : Obj} {b : Blk} (hx : ObjRel w O ad k x b) {K : Blk → Prop} (h : outB cc nb H b K) : ∃ c, K c ∧ ObjRel w (fin nb O) bl k x c := by
  unfold outB at h
  split at h
  · rename_i cs
    cases x with
    | cells arr ty fz =>
      obtain ⟨h0, h1, h2⟩ : fz = (0, 0) ∧ BlkRel w O ad k arr (.box cs) := hx
      obtain ⟨xs, g1, g2, g3⟩ := outVs_ok hb hU hH (p := fun i => .cell k 0 i) (s := 0) (fun i x hx => by rw [Nat.zero_add]; exact h2 i x hx) h
      exact ⟨_, g1, h0, by rw [g2]; exact h1, fun i x hx => by have := g3 i x hx; rwa [Nat.zero_add] at this⟩
    | _ => exact hx.elim
  · rename_i s n el ow
    cases x with
    | cells arr ty fz =>
      obtain ⟨h0, h1, h2⟩ : fz = (0, 0) ∧ BlkRel w O ad k arr (.row s n el ow) := hx
      exact ⟨_, h, h0, h1, fun i hi j hj => (h2 i hi j hj).fin hb rfl⟩
    | _ => exact hx.elim
  · rename_i q has val
    cases x with
    | map es c => exact ⟨_, h, hx.ok, hx.apart, hx.has, fun e he => (hx.val e he).chg0 fun B o _ hi => fin_im hi⟩
    | cells arr ty fz => exact hx.2.elim
    | _ => exact hx.elim
  · exact h.elim

theorem outBs_ok {nb : Nat} {bl : List Nat} (hb : SubAd nb ad bl) {H : List Blk} (hU : Uni O) (hH : HeapRel w O ad H) {f : Nat → Obj} {G : Nat → Prop} : ∀ {bs : List Blk} {s : Nat} {K : List Blk → Prop}, (∀ i b, nth bs i = some b → (G (s + i) ∧ b.ghost) ∨ (¬ G (s + i) ∧ ObjRel w O ad (s + i) (f (s + i)) b)) → outBs cc nb H bs K →
    ∃ xs, K xs ∧ xs.length = bs.length ∧ ∀ i b, nth xs i = some b → (G (s + i) ∧ b.ghost) ∨ (¬ G (s + i) ∧ ObjRel w (fin nb O) bl (s + i) (f (s + i)) b)
  | [], s, K, _, h => ⟨[], h, rfl, fun i x hx => by simp [nth] at hx⟩
  | v :: r, s, K, hr, h => by
    have : ∃ x, (outBs cc nb H r fun xs => K (x :: xs)) ∧ ((G (s + 0) ∧ x.ghost) ∨ (¬ G (s + 0) ∧ ObjRel w (fin nb O) bl (s + 0) (f (s + 0)) x)) := by
      rcases hr 0 v rfl with ⟨g1, g2⟩ | ⟨g1, g2⟩
      · cases v with
        | row s' n' el ow => exact ⟨_, h, .inl ⟨g1, g2⟩⟩
        | _ => exact g2.elim
      · obtain ⟨x, hx, h1⟩ := outB_ok hb hU hH g2 h
        exact ⟨x, hx, .inr ⟨g1, h1⟩⟩
    obtain ⟨x, hx, h1⟩ := this
    obtain ⟨xs, h2, h3, h4⟩ := outBs_ok hb hU hH (f := f) (G := G) (s := s + 1) (fun i y hy => by have := hr (i + 1) y (by simpa [nth] using hy); rwa [show s + (i + 1) = s + 1 + i by omega] at this) hx
    refine ⟨x :: xs, h2, by simp [h3], fun i y hy => ?_⟩
    cases i with
    | zero => simp [nth] at hy; subst hy; exact h1
    | succ i => have := h4 i y (by simpa [nth] using hy); rwa [show s + 1 + i = s + (i + 1) by omega] at this

def resF (ts : Array Value) : ResultVar → Sem Value
  | .tmp t => pure (ts.getD t undef)
  | .cell a t => do loadVar t (← asAddr (ts.getD a undef))

theorem results_eq (fn : Func) (ts : Array Value) : results fn ts = (fn.results.mapM (resF ts) >>= fun vs => pure (if h : vs.size = 1 then vs[0] else .tuple vs)) := by
  unfold results
  have : (fun x : ResultVar => resF ts x) = resF ts := rfl
  rw [← this]
  congr 1

theorem resF_cell {ts : Array Value} {c : Nat} {t : TypeId} {rv : Value} (h : (Instr.loadAt t (ts.getD c undef)).run P w = .ok rv w) : (resF ts (.cell c t)).run P w = .ok rv w := by
  show (asAddr (ts.getD c undef) >>= fun b => loadVar t b).run P w = _
  unfold Instr.loadAt at h
  revert h
  generalize ts.getD c undef = v
  intro h
  cases v with
  | pointer p =>
    cases p with
    | some a => exact h
    | none => simp [Instr.sureAddr, run_bind, stuck, Sem.run] at h
  | _ => simp [Instr.sureAddr, run_bind, stuck, Sem.run] at h

theorem retsK_ok (hT : TabOk P T) {nb : Nat} {bl : List Nat} (hb : SubAd nb ad bl) (hS : Sat st a w O ad) : ∀ {l : List ResultVar} {K : List AVal → Prop}, retsK T nb st l K →
    ∃ xs vs, K xs ∧ (l.mapM (resF a.tmps) : Sem (List Value)).run P w = .ok vs w ∧ vs.length = l.length ∧ xs.length = l.length ∧ ∀ i x, nth xs i = some x → VRel w (fin nb O) bl .no x (vs.getD i undef)
  | [], K, h => ⟨[], [], h, rfl, rfl, rfl, fun i x hx => by simp [nth] at hx⟩
  | .tmp t :: r, K, h => by
    obtain ⟨x, h1, h2⟩ := retVal_ok hb hS.fresh.uni hS.heap ((hS.env.2 t).shed .no) h
    obtain ⟨xs, vs, g1, g2, g3, g4, g5⟩ := retsK_ok hT hb hS h1
    refine ⟨x :: xs, a.tmps.getD t undef :: vs, g1, ?_, by simp [g3], by simp [g4], fun i y hy => ?_⟩
    · simp only [List.mapM_cons, run_bind, resF, run_pure]
      rw [g2]
    · cases i with
      | zero => simp [nth] at hy; subst hy; exact h2
      | succ i => exact g5 i y (by simpa [nth] using hy)
  | .cell c t :: r, K, h => by
    simp only [retsK] at h
    obtain ⟨x0, rv, k1, k2, k3⟩ := load_ok (P := P) hT hS.fresh.uni hS.heap (hS.env.2 c) h
    obtain ⟨x, h1, h2⟩ := retVal_ok hb hS.fresh.uni hS.heap (k2.shed .no) k1
    obtain ⟨xs, vs, g1, g2, g3, g4, g5⟩ := retsK_ok hT hb hS h1
    refine ⟨x :: xs, rv :: vs, g1, ?_, by simp [g3], by simp [g4], fun i y hy => ?_⟩
    · simp only [List.mapM_cons, run_bind, resF_cell (k3 w (Agree.refl O w)), run_pure]
      rw [g2]
    · cases i with
      | zero => simp [nth] at hy; subst hy; exact h2
      | succ i => exact g5 i y (by simpa [nth] using hy)

theorem get_entry : ∀ (args : List AVal) (k d : Nat), get (entryEnv k args) d = if k ≤ d then (nth args (d - k)).getD .undef else .undef
  | [], k, d => by simp [entryEnv, get, nth]
  | v :: r, k, d => by
    simp only [entryEnv, get]
    by_cases e : k = d
    · subst e; rw [beq_tt]; simp [nth]
    · rw [beq_ff e]
      simp only [cond_false]
      rw [get_entry r (k + 1) d]
      by_cases h : k ≤ d
      · rw [if_pos (by omega), if_pos h, show d - k = (d - (k + 1)) + 1 by omega]; rfl
      · rw [if_neg (by omega), if_neg h]

theorem nth_range_map {f : Nat → Nat} : ∀ {n s k : Nat}, k < n → nth ((List.range' s n).map f) k = some (f (s + k))
  | 0, _, _, h => by omega
  | n + 1, s, 0, _ => by simp [List.range'_succ, nth]
  | n + 1, s, k + 1, h => by
    simp only [List.range'_succ, List.map_cons, nth]
    rw [nth_range_map (by omega)]
    congr 2; omega

theorem range_getN : ∀ (l : List Nat) (s : Nat) (f : Nat → Nat), (∀ i, i < l.length → f (s + i) = getN l i) → (List.range' s l.length).map f = l
  | [], _, _, _ => rfl
  | x :: r, s, f, h => by
    simp only [List.length_cons, List.range'_succ, List.map_cons]
    rw [range_getN r (s + 1) f (fun i hi => by have := h (i + 1) (by simpa using hi); rw [show s + 1 + i = s + (i + 1) by omega]; exact this)]
    have := h 0 (by simp)
    rw [Nat.add_zero] at this
    rw [this]; rfl

/-- what a function returns -/
theorem retKn_ok (hT : TabOk P T) (hS : Sat st a w O ad) {fn : Func} {nb : Nat} {bl : List Nat} (hsub : SubAd nb ad bl) {K : AVal → Prop} (hk : retKn T nb fn.results st K) :
    ∃ v r O2, (results fn a.tmps).run P w = .ok v w ∧ K r ∧ VRel w (fin nb O2) bl .ret r v ∧ HeapRel w O2 ad st.heap ∧ Step w O w O2 ∧ Fresh w O2 := by
  unfold retKn at hk
  have hres : ∀ vs, (fn.results.toList.mapM (resF a.tmps) : Sem (List Value)).run P w = .ok vs w → (results fn a.tmps).run P w = .ok (if h : vs.length = 1 then vs[0] else .tuple vs.toArray) w := by
    intro vs hvs
    rw [results_eq, run_bind, Array.mapM_eq_mapM_toList]
    have hmap : ∀ (x : Sem (List Value)), (List.toArray <$> x : Sem (Array Value)) = x >>= fun a => pure a.toArray := fun _ => rfl
    rw [hmap, run_bind, hvs]
    simp only [run_pure, List.size_toArray]
    rfl
  split at hk
  · rename_i t hl
    obtain ⟨g1, g2, g3⟩ := hS.take (t := t) (q := .ret) (by simp) (fun _ _ i => by simp [Pos.sub])
    have hsh : HeapRel w (renO (mvT t .ret) O) ad st.heap := g2.heap
    obtain ⟨x, k1, k2⟩ := retVal_ok hsub g2.fresh.uni hsh g1 hk
    have := hres [a.tmps.getD t undef] (by rw [hl]; rfl)
    exact ⟨_, x, _, this, k1, k2, hsh, g3, g2.fresh⟩
  · rename_i c t hl
    obtain ⟨x0, rv, j1, j2, j3⟩ := load_ok (P := P) hT hS.fresh.uni hS.heap (hS.env.2 c) hk
    obtain ⟨x, k1, k2⟩ := retVal_ok hsub hS.fresh.uni hS.heap (j2.shed .ret) j1
    have := hres [rv] (by
      rw [hl]
      simp only [List.mapM_cons, List.mapM_nil, run_bind, resF_cell (j3 w (Agree.refl O w)), run_pure])
    exact ⟨_, x, O, this, k1, k2, hS.heap, Step.refl _ _, hS.fresh⟩
  · replace hk := needE hk
    obtain ⟨hne, hk⟩ := hk
    have hne := nbeqE hne
    obtain ⟨xs, vs, k1, k2, k3, k4, k5⟩ := retsK_ok hT hsub hS hk
    have := hres vs k2
    rw [dif_neg (by rw [k3]; exact hne)] at this
    refine ⟨_, .tup xs, O, this, k1, .tup _ (by simp [k3, k4]) (fun i x hx => ?_), hS.heap, Step.refl _ _, hS.fresh⟩
    have e : vs.toArray.getD i undef = vs.getD i undef := by rw [← getD_list]
    rw [e]
    exact (k5 i x hx).any _

theorem fin_fresh {nb : Nat} (h : Fresh w O) : Fresh w (fin nb O) := ⟨fun B hB => by simp [fin, h.fr B hB], fun _ _ _ _ h1 h2 => h.uni _ _ _ _ (fin_inn' h1) (fin_inn' h2)⟩

theorem entry_env {vs : Array Value} {nt : Nat} {args : List AVal} (hl : args.length ≤ nt) (h1 : vs.size = args.length) (h2 : ∀ i x, nth args i = some x → VRel w O ad .no x (vs.getD i undef)) :
    EnvRel w O ad nt (entryEnv 0 args) (vs ++ Array.replicate (nt - vs.size) undef) := by
  refine ⟨by simp; omega, fun d => ?_⟩
  rw [get_entry, if_pos (Nat.zero_le _), Nat.sub_zero]
  cases hx : nth args d with
  | none => exact .undef _
  | some x =>
    have hlt := nth_lt hx
    have e : (vs ++ Array.replicate (nt - vs.size) undef).getD d undef = vs.getD d undef := by
      simp only [Array.getD_eq_getD_getElem?, Array.getElem?_append, h1, hlt, if_true]
    rw [e]
    exact (h2 d x hx).any _

/-- From the body to the contract: a function that is handed no memory to write. -/
theorem CallOK.of_run [InlOk P T] (hT : TabOk P T) (hm : P.follows .mixedOrders = true) {f : Nat} {fn : Func} {c : Code} {fl : Fl} (hf : P.funcs[f]? = some fn) (hb : fn.body = some c) (hn : (fn.name == "runtime.NumGoroutine") = false) {args : List AVal}
    (hl : args.length ≤ fn.ntmps) {K : AVal → Prop} (h : run P T C fl c (retQ T fn.results K) (entry fn.ntmps args)) : CallOK P f args [] fun r _ => K r := by
  refine ⟨⟨fn, hf, hn, by rw [hb]; rfl⟩, fun w O ad vs h1 h2 h3 h4 h5 => ?_⟩
  have had : ad = [] := List.length_eq_zero_iff.1 h4
  subst had
  have hS : Sat (entry fn.ntmps args) { tmps := vs ++ Array.replicate (fn.ntmps - vs.size) undef, defers := [] } w O [] :=
    ⟨entry_env hl h1 h2, fun k b hb => by simp [entry, nth] at hb, rfl, fun k hk => by simp [entry] at hk, rfl, h5⟩
  refine calls_of_wp hf hb (wp_mono (run_ok hT hm c h hS) fun e a' w' => ?_)
  rintro ⟨st', O', ad', hq, hs', hst⟩
  have fin' : retK T fn.results st' K → a'.defers = [] ∧ ∃ v, (results fn a'.tmps).run P w' = .ok v w' ∧ ∃ r rv O'' L', Ending.returned v = .returned rv ∧ K r ∧ L'.length = ([] : List Blk).length ∧ VRel w' O'' [] .ret r rv ∧ HeapRel w' O'' [] L' ∧ Step w O w' O'' ∧ Fresh w' O'' := by
    intro hk
    obtain ⟨v, r, O2, g1, g2, g3, g4, g5, g6⟩ := retKn_ok hT hs' (bl := []) (fun k B hk _ => by simp at hk) hk
    exact ⟨hs'.dn, v, g1, r, v, fin 0 O2, [], rfl, g2, rfl, g3, fun k b hb => by simp [nth] at hb, hst.trans (g5.trans (fin_step _ _ _)), fin_fresh g6⟩
  cases e with
  | normal => exact fin' hq
  | ret => exact fin' hq
  | exit id => exact hq.elim
  | goto l => exact hq.elim
  | panic ch => exact hq.elim
  | outgrown => exact hq.elim

/-- From the body to the contract: a function that is handed memory. -/
theorem CallOK.of_runM [InlOk P T] (hT : TabOk P T) (hm : P.follows .mixedOrders = true) {f : Nat} {fn : Func} {c : Code} {fl : Fl} (hf : P.funcs[f]? = some fn) (hb : fn.body = some c) (hn : (fn.name == "runtime.NumGoroutine") = false) {args : List AVal} {L : List Blk} {nb : Nat}
    (hl : args.length ≤ fn.ntmps) (hnb : nb = L.length) {K : AVal → List Blk → Prop} (h : ∀ pin, run P T C fl c (retQM T fn.results nb fun pin' r L' => pin' = pin ∧ K r L') (entryM fn.ntmps args L nb pin)) : CallOK P f args L K := by
  refine ⟨⟨fn, hf, hn, by rw [hb]; rfl⟩, fun w O bl vs h1 h2 h3 h4 h5 => ?_⟩
  have hS : Sat (entryM fn.ntmps args L nb (getN bl)) { tmps := vs ++ Array.replicate (fn.ntmps - vs.size) undef, defers := [] } w O bl := by
    refine ⟨entry_env hl h1 h2, h3, h4, fun k hk => ?_, rfl, h5⟩
    have hk : k < nb := hk
    obtain ⟨B, hB⟩ := nth_some (l := bl) (i := k) (by rw [h4, ← hnb]; exact hk)
    show nth bl k = some (getN bl k)
    rw [hB, nth_getN (l := bl) hB]
  refine calls_of_wp hf hb (wp_mono (run_ok hT hm c (h (getN bl)) hS) fun e a' w' => ?_)
  rintro ⟨st', O', ad', hq, hs', hst⟩
  have fin' : retKM T fn.results nb st' (fun pin' r L' => pin' = getN bl ∧ K r L') → a'.defers = [] ∧ ∃ v, (results fn a'.tmps).run P w' = .ok v w' ∧ ∃ r rv O'' L', Ending.returned v = .returned rv ∧ K r L' ∧ L'.length = L.length ∧ VRel w' O'' bl .ret r rv ∧ HeapRel w' O'' bl L' ∧ Step w O w' O'' ∧ Fresh w' O'' := by
    intro hk
    refine ⟨hs'.dn, ?_⟩
    unfold retKM at hk
    obtain ⟨hb0, hk⟩ := needE hk
    obtain ⟨hb1, hb2⟩ := andE hb0
    have hb1 := beqE hb1
    have hb2 := Nat.le_of_ble_eq_true hb2
    let bl' : List Nat := (List.range' 0 nb).map st'.pin
    have hbl : ∀ k, k < nb → nth bl' k = some (st'.pin k) := fun k hk => by have := nth_range_map (f := st'.pin) (s := 0) hk; rwa [Nat.zero_add] at this
    have hsub : SubAd nb ad' bl' := fun k B hk hB => by
      have hk := bltE hk
      rw [hbl k hk, ← hs'.pin k (by rw [hb1]; exact hk), hB]
    obtain ⟨v, r, O2, g1, g2, g3, g4, g5, g6⟩ := retKn_ok hT hs' hsub hk
    obtain ⟨L', ⟨k0, k1⟩, k2, k3⟩ := outBs_ok (f := fun i => match w'.heap[getN ad' i - 1]? with | some x => x | none => .cells #[] 0 (0, 0)) (G := fun i => getN ad' i = 0) hsub g6.uni g4 (s := 0) (fun i b hi => by
        rw [nth_take] at hi
        split at hi
        · obtain ⟨d, k1, ⟨rfl, hg⟩ | ⟨B, x, rfl, k2, k3, k4⟩⟩ := g4 i b hi
          · rw [Nat.zero_add]; exact .inl ⟨nth_getN (l := bl) k1, hg⟩
          · rw [Nat.zero_add]
            refine .inr ⟨by rw [nth_getN (l := bl) k1]; omega, ?_⟩
            simp only [nth_getN (l := bl) k1, Nat.add_sub_cancel, k3]
            exact k4
        · simp at hi) g2
    have e : bl' = bl := by
      show (List.range' 0 nb).map st'.pin = bl
      rw [hnb, ← h4]
      exact range_getN bl 0 _ (fun i _ => by rw [k0, Nat.zero_add])
    rw [e] at g3
    refine ⟨v, g1, r, v, Fw.fin nb O2, L', rfl, k1, by rw [k2, List.length_take, hnb]; omega, g3, fun i b hi => ?_, hst.trans (g5.trans (fin_step _ _ _)), fin_fresh g6⟩
    have hlt : i < nb := by
      have := nth_lt hi
      rw [k2, List.length_take] at this; omega
    obtain ⟨b0, hb0⟩ := nth_some (l := st'.heap) (i := i) (by omega)
    have h7 := k3 i b hi
    rw [Nat.zero_add] at h7
    obtain ⟨d, j1, ⟨rfl, hg⟩ | ⟨B, x, rfl, j2, j3, j4⟩⟩ := g4 i b0 hb0
    · have hg0 := nth_getN (l := bl) j1
      rcases h7 with ⟨_, h7⟩ | ⟨h7, _⟩
      · exact ⟨0, by rw [← e]; exact hsub i _ (Nat.ble_eq_true_of_le hlt) j1, .inl ⟨rfl, h7⟩⟩
      · exact absurd hg0 h7
    replace h7 := (h7.resolve_left fun h => by have := nth_getN (l := bl) j1; omega).2
    simp only [nth_getN (l := bl) j1, Nat.add_sub_cancel, j3] at h7
    rw [e] at h7
    refine ⟨B + 1, ?_, .inr ⟨B, x, rfl, ?_, j3, h7⟩⟩
    · rw [← e]; exact hsub i _ (Nat.ble_eq_true_of_le hlt) j1
    · have : Nat.blt i nb = true := Nat.ble_eq_true_of_le hlt
      simp [Fw.fin, j2, this]
  cases e with
  | normal => exact fin' hq
  | ret => exact fin' hq
  | exit id => exact hq.elim
  | goto l => exact hq.elim
  | panic ch => exact hq.elim
  | outgrown => exact hq.elim

theorem retsG_ok (hT : TabOk P T) (hS : Sat st a w O ad) : ∀ {l : List ResultVar} {K : List AVal → Prop}, retsG T st l K →
    ∃ xs vs, K xs ∧ (l.mapM (resF a.tmps) : Sem (List Value)).run P w = .ok vs w ∧ vs.length = l.length ∧ xs.length = l.length ∧ ∀ i x, nth xs i = some x → VRel w O ad .no x (vs.getD i undef)
  | [], K, h => ⟨[], [], h, rfl, rfl, rfl, fun i x hx => by simp [nth] at hx⟩
  | .tmp t :: r, K, h => by
    have h2 := (hS.env.2 t).shed .no
    simp only [retsG] at h
    obtain ⟨xs, vs, g1, g2, g3, g4, g5⟩ := retsG_ok hT hS h
    refine ⟨_ :: xs, a.tmps.getD t undef :: vs, g1, ?_, by simp [g3], by simp [g4], fun i y hy => ?_⟩
    · simp only [List.mapM_cons, run_bind, resF, run_pure]
      rw [g2]
    · cases i with
      | zero => simp [nth] at hy; subst hy; exact h2
      | succ i => exact g5 i y (by simpa [nth] using hy)
  | .cell c t :: r, K, h => by
    simp only [retsG] at h
    obtain ⟨x0, rv, k1, k2, k3⟩ := load_ok (P := P) hT hS.fresh.uni hS.heap (hS.env.2 c) h
    have h2 := k2.shed .no
    obtain ⟨xs, vs, g1, g2, g3, g4, g5⟩ := retsG_ok hT hS k1
    refine ⟨_ :: xs, rv :: vs, g1, ?_, by simp [g3], by simp [g4], fun i y hy => ?_⟩
    · simp only [List.mapM_cons, run_bind, resF_cell (k3 w (Agree.refl O w)), run_pure]
      rw [g2]
    · cases i with
      | zero => simp [nth] at hy; subst hy; exact h2
      | succ i => exact g5 i y (by simpa [nth] using hy)

theorem retGn_ok (hT : TabOk P T) (hS : Sat st a w O ad) {fn : Func} {K : AVal → Prop} (hk : retGn T fn.results st K) :
    ∃ v r O2, (results fn a.tmps).run P w = .ok v w ∧ K r ∧ VRel w O2 ad .ret r v ∧ HeapRel w O2 ad st.heap ∧ Step w O w O2 ∧ Fresh w O2 := by
  unfold retGn at hk
  have hres : ∀ vs, (fn.results.toList.mapM (resF a.tmps) : Sem (List Value)).run P w = .ok vs w → (results fn a.tmps).run P w = .ok (if h : vs.length = 1 then vs[0] else .tuple vs.toArray) w := by
    intro vs hvs
    rw [results_eq, run_bind, Array.mapM_eq_mapM_toList]
    have hmap : ∀ (x : Sem (List Value)), (List.toArray <$> x : Sem (Array Value)) = x >>= fun a => pure a.toArray := fun _ => rfl
    rw [hmap, run_bind, hvs]
    simp only [run_pure, List.size_toArray]
    rfl
  split at hk
  · rename_i t hl
    obtain ⟨g1, g2, g3⟩ := hS.take (t := t) (q := .ret) (by simp) (fun _ _ i => by simp [Pos.sub])
    have := hres [a.tmps.getD t undef] (by rw [hl]; rfl)
    exact ⟨_, _, _, this, hk, g1, g2.heap, g3, g2.fresh⟩
  · rename_i c t hl
    obtain ⟨x0, rv, j1, j2, j3⟩ := load_ok (P := P) hT hS.fresh.uni hS.heap (hS.env.2 c) hk
    have := hres [rv] (by
      rw [hl]
      simp only [List.mapM_cons, List.mapM_nil, run_bind, resF_cell (j3 w (Agree.refl O w)), run_pure])
    exact ⟨_, _, O, this, j1, j2.shed .ret, hS.heap, Step.refl _ _, hS.fresh⟩
  · replace hk := needE hk
    obtain ⟨hne, hk⟩ := hk
    have hne := nbeqE hne
    obtain ⟨xs, vs, k1, k2, k3, k4, k5⟩ := retsG_ok hT hS hk
    have := hres vs k2
    rw [dif_neg (by rw [k3]; exact hne)] at this
    refine ⟨_, .tup xs, O, this, k1, .tup _ (by simp [k3, k4]) (fun i x hx => ?_), hS.heap, Step.refl _ _, hS.fresh⟩
    have e : vs.toArray.getD i undef = vs.getD i undef := by rw [← getD_list]
    rw [e]
    exact (k5 i x hx).any _

/-- From the body to the contract: a function that hands over all its memory. -/
theorem CallG.of_runG [InlOk P T] (hT : TabOk P T) (hm : P.follows .mixedOrders = true) {f : Nat} {fn : Func} {c : Code} {fl : Fl} (hf : P.funcs[f]? = some fn) (hb : fn.body = some c) (hn : (fn.name == "runtime.NumGoroutine") = false) {args : List AVal} {L : List Blk} {nb : Nat}
    (hl : args.length ≤ fn.ntmps) (hnb : nb = L.length) {K : AVal → List Blk → Prop} (h : ∀ pin, run P T C fl c (retQG T fn.results nb fun pin' r L' => pin' = pin ∧ K r L') (entryM fn.ntmps args L nb pin)) : CallG P f args L K := by
  refine ⟨⟨fn, hf, hn, by rw [hb]; rfl⟩, fun w O bl vs h1 h2 h3 h4 h5 => ?_⟩
  have hS : Sat (entryM fn.ntmps args L nb (getN bl)) { tmps := vs ++ Array.replicate (fn.ntmps - vs.size) undef, defers := [] } w O bl := by
    refine ⟨entry_env hl h1 h2, h3, h4, fun k hk => ?_, rfl, h5⟩
    have hk : k < nb := hk
    obtain ⟨B, hB⟩ := nth_some (l := bl) (i := k) (by rw [h4, ← hnb]; exact hk)
    show nth bl k = some (getN bl k)
    rw [hB, nth_getN (l := bl) hB]
  refine calls_of_wp hf hb (wp_mono (run_ok hT hm c (h (getN bl)) hS) fun e a' w' => ?_)
  rintro ⟨st', O', ad', hq, hs', hst⟩
  have fin' : (need (Nat.beq st'.nb nb && Nat.ble nb (lenB st'.heap)) <| retGn T fn.results st' fun r => st'.pin = getN bl ∧ K r st'.heap) → a'.defers = [] ∧ ∃ v, (results fn a'.tmps).run P w' = .ok v w' ∧ ∃ r rv O'' L' ad2, Ending.returned v = .returned rv ∧ K r L' ∧ ad2.length = L'.length ∧ (∀ i B, nth bl i = some B → nth ad2 i = some B) ∧ VRel w' O'' ad2 .ret r rv ∧ HeapRel w' O'' ad2 L' ∧ Step w O w' O'' ∧ Fresh w' O'' := by
    intro hk
    obtain ⟨hb0, hk⟩ := needE hk
    obtain ⟨hb1, _⟩ := andE hb0
    have hb1 := beqE hb1
    obtain ⟨v, r, O2, g1, ⟨g2, g2'⟩, g3, g4, g5, g6⟩ := retGn_ok hT hs' hk
    refine ⟨hs'.dn, v, g1, r, v, O2, st'.heap, ad', rfl, g2', hs'.len, fun i B hB => ?_, g3, g4, hst.trans g5, g6⟩
    have hlt : i < nb := by rw [hnb, ← h4]; exact nth_lt hB
    rw [hs'.pin i (by rw [hb1]; exact hlt), g2, nth_getN (l := bl) hB]
  cases e with
  | normal => exact fin' hq
  | ret => exact fin' hq
  | exit id => exact hq.elim
  | goto l => exact hq.elim
  | panic ch => exact hq.elim
  | outgrown => exact hq.elim

/-- The same of a function that is handed none. -/
theorem CallG.of_runG0 [InlOk P T] (hT : TabOk P T) (hm : P.follows .mixedOrders = true) {f : Nat} {fn : Func} {c : Code} {fl : Fl} (hf : P.funcs[f]? = some fn) (hb : fn.body = some c) (hn : (fn.name == "runtime.NumGoroutine") = false) {args : List AVal}
    (hl : args.length ≤ fn.ntmps) {K : AVal → List Blk → Prop} (h : run P T C fl c (retQG T fn.results 0 fun _ r L' => K r L') (entry fn.ntmps args)) : CallG P f args [] K := by
  refine ⟨⟨fn, hf, hn, by rw [hb]; rfl⟩, fun w O bl vs h1 h2 h3 h4 h5 => ?_⟩
  have had : bl = [] := List.length_eq_zero_iff.1 h4
  subst had
  have hS : Sat (entry fn.ntmps args) { tmps := vs ++ Array.replicate (fn.ntmps - vs.size) undef, defers := [] } w O [] :=
    ⟨entry_env hl h1 h2, fun k b hb => by simp [entry, nth] at hb, rfl, fun k hk => by simp [entry] at hk, rfl, h5⟩
  refine calls_of_wp hf hb (wp_mono (run_ok hT hm c h hS) fun e a' w' => ?_)
  rintro ⟨st', O', ad', hq, hs', hst⟩
  have fin' : (need (Nat.beq st'.nb 0 && Nat.ble 0 (lenB st'.heap)) <| retGn T fn.results st' fun r => K r st'.heap) → a'.defers = [] ∧ ∃ v, (results fn a'.tmps).run P w' = .ok v w' ∧ ∃ r rv O'' L' ad2, Ending.returned v = .returned rv ∧ K r L' ∧ ad2.length = L'.length ∧ (∀ i B, nth ([] : List Nat) i = some B → nth ad2 i = some B) ∧ VRel w' O'' ad2 .ret r rv ∧ HeapRel w' O'' ad2 L' ∧ Step w O w' O'' ∧ Fresh w' O'' := by
    intro hk
    obtain ⟨_, hk⟩ := needE hk
    obtain ⟨v, r, O2, g1, g2, g3, g4, g5, g6⟩ := retGn_ok hT hs' hk
    exact ⟨hs'.dn, v, g1, r, v, O2, st'.heap, ad', rfl, g2, hs'.len, fun i B hB => by simp [nth] at hB, g3, g4, hst.trans g5, g6⟩
  cases e with
  | normal => exact fin' hq
  | ret => exact fin' hq
  | exit id => exact hq.elim
  | goto l => exact hq.elim
  | panic ch => exact hq.elim
  | outgrown => exact hq.elim

/-- blocks with these numbers get new ones; the others are given up -/
def fin2 (ks : List Nat) (O : Nat → Own) : Nat → Own := fun B =>
  match O B with
  | .blk k => bif memN k ks then .blk (idxN k ks) else .free
  | .lst (.cell k i j) fill => bif memN k ks then .lst (.cell (idxN k ks) i j) fill else .free
  | .inn _ _ => .free
  | x => x

theorem fin2_noInn {ks : List Nat} {O : Nat → Own} {B k i : Nat} : fin2 ks O B ≠ .inn k i := by
  unfold fin2
  cases hO : O B with
  | blk j => simp only; cases memN j ks <;> simp
  | lst p fill =>
    cases p with
    | cell j a b => simp only; cases memN j ks <;> simp
    | _ => simp
  | _ => simp

theorem fin2_im {ks : List Nat} {B o : Nat} (h : im O B o) : im (fin2 ks O) B o := by
  unfold im fin2 at *
  cases hO : O B with
  | blk k => rw [hO] at h; exact h.elim
  | lst p fill =>
    rw [hO] at h
    cases p <;> simp only <;> first | exact h | skip
    rename_i k i j
    cases memN k ks <;> simp only [cond_true, cond_false] <;> first | exact h | trivial
  | free => simp
  | out s => rw [hO] at h; exact h
  | inn k i => rw [hO] at h; exact h.elim

theorem fin2_step (ks : List Nat) (w : World) (O : Nat → Own) : Step w O w (fin2 ks O) :=
  ⟨fun _ arr _ _ h => ⟨arr, h, rfl⟩, rfl, rfl, rfl, Nat.le_refl _, fun B o _ h => ⟨fin2_im h, rfl⟩, fun B _ h => ⟨by unfold fin2; cases hO : O B <;> simp_all [Own.fixed], rfl⟩, fun B _ h => by
    unfold fin2
    cases hO : O B with
    | blk k => simp only; cases memN k ks <;> simp [Own.mem, Own.fixed]
    | inn k i => exact .inr trivial
    | _ => rw [hO] at h; exact h.elim⟩

theorem fin2_fresh {ks : List Nat} (h : Fresh w O) : Fresh w (fin2 ks O) := ⟨fun B hB => by simp [fin2, h.fr B hB], fun _ _ _ _ h _ => absurd h fin2_noInn⟩

theorem eqN_eq : ∀ {l m : List Nat}, eqN l m = true → l = m
  | [], [], _ => rfl
  | [], _ :: _, h => by simp [eqN] at h
  | _ :: _, [], h => by simp [eqN] at h
  | x :: r, y :: q, h => by
    simp only [eqN, Bool.and_eq_true] at h
    rw [beqE h.1, eqN_eq h.2]

theorem takeN_eq : ∀ (n : Nat) (l : List Nat), takeN n l = l.take n
  | 0, _ => by simp [takeN]
  | _ + 1, [] => rfl
  | n + 1, _ :: r => by simp [takeN, takeN_eq n r]

/-- From the body to the contract: a function that returns new memory. -/
theorem CallG.of_runN [InlOk P T] (hT : TabOk P T) (hm : P.follows .mixedOrders = true) {f : Nat} {fn : Func} {c : Code} {fl : Fl} (hf : P.funcs[f]? = some fn) (hb : fn.body = some c) (hn : (fn.name == "runtime.NumGoroutine") = false) {args : List AVal} {L : List Blk} {nb : Nat}
    (hl : args.length ≤ fn.ntmps) (hnb : nb = L.length) {K : AVal → List Blk → Prop} (h : ∀ pin, run P T C fl c (retQN T fn.results nb fun pin' r L' => pin' = pin ∧ K r L') (entryM fn.ntmps args L nb pin)) : CallG P f args L K := by
  refine ⟨⟨fn, hf, hn, by rw [hb]; rfl⟩, fun w O bl vs h1 h2 h3 h4 h5 => ?_⟩
  have hS : Sat (entryM fn.ntmps args L nb (getN bl)) { tmps := vs ++ Array.replicate (fn.ntmps - vs.size) undef, defers := [] } w O bl := by
    refine ⟨entry_env hl h1 h2, h3, h4, fun k hk => ?_, rfl, h5⟩
    have hk : k < nb := hk
    obtain ⟨B, hB⟩ := nth_some (l := bl) (i := k) (by rw [h4, ← hnb]; exact hk)
    show nth bl k = some (getN bl k)
    rw [hB, nth_getN (l := bl) hB]
  refine calls_of_wp hf hb (wp_mono (run_ok hT hm c (h (getN bl)) hS) fun e a' w' => ?_)
  rintro ⟨st', O', ad', hq, hs', hst⟩
  have fin' : (need (Nat.beq st'.nb nb && Nat.ble nb (lenB st'.heap)) <| retGn T fn.results st' fun r => retNK nb st' r (reach st'.heap 100 (appN (refsV r) (refsH (takeB nb st'.heap))) (seqN 0 nb)) fun r L' => st'.pin = getN bl ∧ K r L') →
      a'.defers = [] ∧ ∃ v, (results fn a'.tmps).run P w' = .ok v w' ∧ ∃ r rv O'' L' ad2, Ending.returned v = .returned rv ∧ K r L' ∧ ad2.length = L'.length ∧ (∀ i B, nth bl i = some B → nth ad2 i = some B) ∧ VRel w' O'' ad2 .ret r rv ∧ HeapRel w' O'' ad2 L' ∧ Step w O w' O'' ∧ Fresh w' O'' := by
    intro hk
    obtain ⟨hb0, hk⟩ := needE hk
    obtain ⟨hb1, _⟩ := andE hb0
    have hb1 := beqE hb1
    obtain ⟨v, r, O2, g1, g2, g3, g4, g5, g6⟩ := retGn_ok hT hs' hk
    unfold retNK at g2
    generalize reach st'.heap 100 (appN (refsV r) (refsH (takeB nb st'.heap))) (seqN 0 nb) = ks at g2
    obtain ⟨q, g2, g2'⟩ := needE g2
    obtain ⟨hu, q⟩ := andE q
    obtain ⟨hpre, q⟩ := andE q
    obtain ⟨hok, q⟩ := andE q
    obtain ⟨hpick, q⟩ := andE q
    obtain ⟨hnr, hnp⟩ := andE q
    have hpre := eqN_eq hpre
    rw [takeN_eq] at hpre
    have hkl : ∀ k, memN k ks = true → k < st'.heap.length := fun k hk => pickOk_lt hpick hk
    have hadk : ∀ k, memN k ks = true → ∃ B, nth ad' k = some B := fun k hk => by
      have := hkl k hk
      rw [← hs'.len] at this
      exact nth_some this
    let ad2 : List Nat := ks.map fun k => (nth ad' k).getD 0
    have had1 : ∀ k B, memN k ks = true → nth ad' k = some B → nth ad2 (idxN k ks) = some B := fun k B hk hB => by
      obtain ⟨h1, h2⟩ := memN_getN hk
      have : nth ad2 (idxN k ks) = some ((nth ad' (getN ks (idxN k ks))).getD 0) := nth_map_getN h1
      rw [this, h2, hB]; rfl
    have hin : ∀ B o, B < w'.heap.size → im O2 B o → im (fin2 ks O2) B o := fun B o _ hi => fin2_im hi
    have hnl : nb ≤ ks.length := by
      have := congrArg List.length hpre
      rw [List.length_take, length_seqN] at this
      omega
    have hgk : ∀ i, i < nb → getN ks i = i := fun i hi => by
      have e : getN (ks.take nb ++ ks.drop nb) i = getN ks i := by rw [List.take_append_drop]
      rw [← e, getN_append, List.length_take, if_pos (by omega), hpre, getN_seqN hi]; omega
    refine ⟨hs'.dn, v, g1, _, v, fin2 ks O2, _, ad2, rfl, g2', by rw [length_pickH]; simp [ad2], fun i B hB => ?_, ?_, fun i b hb => ?_, hst.trans (g5.trans (fin2_step _ _ _)), fin2_fresh g6⟩
    · have hlt : i < nb := by rw [hnb, ← h4]; exact nth_lt hB
      have : nth ad2 i = some ((nth ad' (getN ks i)).getD 0) := nth_map_getN (by omega)
      rw [this, hgk i hlt, hs'.pin i (by rw [hb1]; exact hlt), g2, nth_getN (l := bl) hB]
      rfl
    · exact g3.renum (ok := fun k => memN k ks) hin had1 .ret (fun _ => ⟨by simp, fun B fill hB => by simp [fin2, hB]⟩) (fun i _ => ⟨by simp [Pos.sub], fun B fill hB => by
        have hB : O2 B = .lst (.reti i) fill := hB
        simp [fin2, hB, Pos.sub]⟩) hok (.inr hnr)
    · obtain ⟨hi, c, hc, rfl, hokc⟩ := nth_pickH hpick hb
      have hm := getN_mem hi
      have hix := idxN_getN hu hi
      obtain ⟨d, k1, ⟨rfl, hg⟩ | ⟨B, x, rfl, k2, k3, k4⟩⟩ := g4 _ c hc
      · exact ⟨0, by have := had1 _ _ hm k1; rwa [hix] at this, .inl ⟨rfl, renB_ghost.2 hg⟩⟩
      refine ⟨B + 1, ?_, .inr ⟨B, x, rfl, ?_, k3, k4.ren (ok := fun k => memN k ks) hin had1 (fun a b _ => ⟨by simp, fun B' fill hB' => ?_⟩) hokc (.inr (pickN_nth hnp hi hc))⟩⟩
      · have := had1 _ _ hm k1; rwa [hix] at this
      · simp [fin2, k2, hm, hix]
      · simp [fin2, hB', hm, hix]
  cases e with
  | normal => exact fin' hq
  | ret => exact fin' hq
  | exit id => exact hq.elim
  | goto l => exact hq.elim
  | panic ch => exact hq.elim
  | outgrown => exact hq.elim

end
end Go.Proofs.Ytgghnfmabphbmaa.Fw
