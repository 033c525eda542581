/- Maps. -/
import Derived.Test.YtgghnfmabphbmaaA11
import Derived.MapKept
namespace Go.Proofs.Ytgghnfmabphbmaa.Fw
open Go
set_option linter.unusedSimpArgs false
set_option linter.unusedVariables false

def makeMapOp (T : Tab) (st : St) (dst : Option Nat) (t : TypeId) (hint : Option AVal) (K : St → Prop) : Prop :=
  match T t with
  | some ⟨.map kt et, _, _, _⟩ =>
    match T kt, T et with
    | some tk, some te =>
      match kdOf tk.desc, hint with
      | some q, none | some q, some (.pv _ (.int _ _)) => K (St.put { st with heap := st.heap ++ [.mp q (fun _ => false) (fun _ => avalOf te.zero)] } dst (.mref st.heap.length))
      | _, _ => False
    | _, _ => False
  | _ => False

mutual
/-- no memory of the call's own is led to -/
def pureV : AVal → Bool
  | .pv _ _ | .av _ _ _ | .undef => true
  | .agg cs => pureL cs
  | .fn _ cs => pureL cs
  | .ptr _ _ _ _ | .arr _ _ _ _ | .mref _ | .tup _ | .sub _ _ _ | .psub _ _ _ => false
def pureL : List AVal → Bool
  | [] => true
  | v :: r => pureV v && pureL r
end

def mapUpdateOp (T : Tab) (st : St) (t : TypeId) (m k v : AVal) (K : St → Prop) : Prop :=
  match T t with
  | some ⟨.map kt _, _, _, _⟩ =>
    match T kt, m with
    | some tk, .mref i =>
      match nth st.heap i, keyV k with
      | some (.mp q has val), some kv => need (decide (kdOf tk.desc = some q) && (keyOk q kv && pureV v.shed)) <|
          K { st with heap := setBlkL st.heap i (.mp q (fun u => veq u kv || has u) (fun u => mixV (veq u kv) v.shed (val u))) }
      | _, _ => False
    | _, _ => False
  | _ => False

theorem pureL_nth : ∀ {l : List AVal} {i : Nat} {x : AVal}, pureL l = true → nth l i = some x → pureV x = true
  | [], _, _, _, h => by simp [nth] at h
  | y :: r, 0, x, ha, h => by simp [nth] at h; subst h; simp only [pureL, Bool.and_eq_true] at ha; exact ha.1
  | y :: r, n + 1, x, ha, h => by simp only [nth] at h; simp only [pureL, Bool.and_eq_true] at ha; exact pureL_nth ha.2 h

section
variable {P : Program} {T : Tab} {w : World} {O : Nat → Own} {ad : List Nat} {st : St} {a : Act} {o : Oper} {Q : Exit → Act → World → Prop} {K : St → Prop}

theorem PRel.change {w w' : World} {O O' : Nat → Own} (hc : ∀ B o, B < w.heap.size → im O B o → im O' B o ∧ w'.cell? ⟨B, o, none⟩ = w.cell? ⟨B, o, none⟩) {x : PV} {v : Value} (h : PRel w O x v) : PRel w' O' x v := by
  induction h with
  | bool b => exact .bool b
  | int k n => exact .int k n
  | str s => exact .str s
  | lst vals hc' hr hcap hf hn ih =>
    exact .lst vals (fun i hi j hj => by
      obtain ⟨h1, h2⟩ := hc' i hi j hj
      obtain ⟨h3, h4⟩ := hc _ _ (cell_lt h1) h2
      exact ⟨h4.trans h1, h3⟩) ih hcap hf hn
  | lstNil hn hn' => exact .lstNil hn hn'
  | lstE b hn => exact .lstE b hn
  | cptr vals hc' hr ih =>
    exact .cptr vals (fun j hj => by
      obtain ⟨h1, h2⟩ := hc' j hj
      obtain ⟨h3, h4⟩ := hc _ _ (cell_lt h1) h2
      exact ⟨h4.trans h1, h3⟩) ih
  | optrS _ ih => exact .optrS ih
  | optrN => exact .optrN
  | fn a hs' hr ih => exact .fn a hs' ih
  | nilp => exact .nilp
  | nilm => exact .nilm
  | nilf => exact .nilf
  | nili => exact .nili
  | junk v h => exact .junk v h
  | tree _ ih => exact .tree ih

theorem VRel.pure {O' : Nat → Own} {ad' : List Nat} (hc : ∀ B o, B < w.heap.size → im O B o → im O' B o) {p : Pos} {x : AVal} {v : Value} (h : VRel w O ad p x v) : p = .no → pureV x = true → VRel w O' ad' .no x v := by
  have hc' : ∀ B o, B < w.heap.size → im O B o → im O' B o ∧ w.cell? ⟨B, o, none⟩ = w.cell? ⟨B, o, none⟩ := fun B o hB hi => ⟨hc B o hB hi, rfl⟩
  induction h with
  | pv h => exact fun _ _ => .pv (h.change hc')
  | own h ho => intro hp; subst hp; exact absurd rfl ho.1
  | ptr h => intro _ hp; simp [pureV] at hp
  | arrE h _ => intro _ hp; simp [pureV] at hp
  | arr h _ => intro _ hp; simp [pureV] at hp
  | mref h => intro _ hp; simp [pureV] at hp
  | subE _ _ => intro _ hp; simp [pureV] at hp
  | sub _ _ _ => intro _ hp; simp [pureV] at hp
  | psub _ _ => intro _ hp; simp [pureV] at hp
  | fn a hs hr ih => intro _ hp; exact .fn a hs (fun i x hx => ih i x hx rfl (pureL_nth (by simpa [pureV] using hp) hx))
  | agg a hs hr ih => intro _ hp; exact .agg a hs (fun i x hx => ih i x hx rfl (pureL_nth (by simpa [pureV] using hp) hx))
  | av a hs hr => exact fun _ _ => .av a hs (fun i hi j hj => (hr i hi j hj).change hc')
  | tup => intro _ hp; simp [pureV] at hp
  | undef v => exact fun _ _ => .undef v

theorem veq_iff {q : KD} {u v : Value} (hu : keyOk q u = true) (hv : keyOk q v = true) : veq u v = true ↔ u = v := by
  cases q <;> cases u <;> simp [keyOk] at hu <;> cases v <;> simp [keyOk] at hv <;> simp_all [veq]

theorem keyV_eq {p : Pos} {x : AVal} {v kv : Value} (h : VRel w O ad p x v) (hk : keyV x = some kv) : v = kv := by
  cases h with
  | pv h => cases h <;> simp [keyV] at hk <;> exact hk
  | own h _ => cases h <;> simp [keyV] at hk
  | _ => simp [keyV] at hk

theorem isKey_of {q : KD} {d : TypeDesc} (hd : kdOf d = some q) {v : Value} (hv : keyOk q v = true) : MapKept.IsKey d v := by
  cases d <;> simp [kdOf] at hd <;> subst hd <;> cases v <;> simp_all [keyOk, MapKept.IsKey]

theorem find_ok (hT : TabOk P T) {kt : TypeId} {tk : TI} (hk : T kt = some tk) {q : KD} (hd : kdOf tk.desc = some q) {kv : Value} (hkv : keyOk q kv = true) {es : List MapEntry} (hes : ∀ e ∈ es, keyOk q e.key = true) :
    (∀ b, (Instr.checkKey b 10000 kt kv).run P w = .ok () w) ∧ (Instr.keyThatStays kv kv).run P w = .ok kv w ∧ (((Instr.findKey kt kv es).run P w = .ok none w ∧ ∀ e ∈ es, e.key ≠ kv) ∨ ∃ j e, (Instr.findKey kt kv es).run P w = .ok (some (j, e.val)) w ∧ es[j]? = some e ∧ e.key = kv) := by
  have hu := (hT.ok kt tk hk).1
  have h1 := isKey_of hd hkv
  refine ⟨fun b => MapKept.run_checkKey hu h1 b 9999, MapKept.run_keyThatStays h1, ?_⟩
  rcases MapKept.findNow_spec h1 es 0 (fun x hx => isKey_of hd (hes x hx)) with ⟨h2, h3⟩ | ⟨j, e, h2, h3, h4⟩
  · exact .inl ⟨MapKept.run_findKey hu h2, h3⟩
  · exact .inr ⟨j, e, by simpa using MapKept.run_findKey (w := w) hu h2, h3, h4⟩

theorem mix1_t {x y : AVal} {u : Value} (hx : VRel w O ad .no x u) : VRel w O ad .no (mix1 true x y) u := by
  unfold mix1
  split
  · exact .pv (prel_of hx)
  · rename_i k n o2 k' n'
    by_cases e : k = k'
    · subst e; rw [decide_eq_true rfl]; exact .pv (prel_of hx)
    · rw [decide_eq_false e]; exact .undef _
  · exact .pv (prel_of hx)
  · rename_i sz nf n el o2 sz' nf' n' el'
    cases hn : Nat.beq n' 0 with
    | false => exact .undef _
    | true =>
      refine .pv ?_
      cases prel_of hx with
      | lst vals hc hr hcap hf hn => exact .lst vals hc hr hcap (by simp) (by simp)
      | lstNil h1 h2 => exact .lstNil (by simp) (by simp)
      | lstE b _ => exact .lstE b (by simp)
  · exact .undef _

theorem mix1_f {x y : AVal} {v : Value} (hy : VRel w O ad .no y v) : VRel w O ad .no (mix1 false x y) v := by
  unfold mix1
  split
  · exact .pv (prel_of hy)
  · rename_i k n o2 k' n'
    by_cases e : k = k'
    · subst e; rw [decide_eq_true rfl]; exact .pv (prel_of hy)
    · rw [decide_eq_false e]; exact .undef _
  · exact .pv (prel_of hy)
  · rename_i sz nf n el o2 sz' nf' n' el'
    cases hn : Nat.beq n' 0 with
    | false => exact .undef _
    | true =>
      have hn := beqE hn
      subst hn
      refine .pv ?_
      cases prel_of hy with
      | lst vals hc hr hcap hf hn => exact .lst vals (fun i hi => by simp at hi) (fun i hi => by simp at hi) hcap (by simp) (by simp)
      | lstNil h1 h2 => exact .lstNil (by simp) (by simp)
      | lstE b _ => exact .lstE b (by simp)
  · exact .undef _

theorem nth_mixL_t {z : AVal} : ∀ {xs ys : List AVal} {i : Nat}, nth (mixL true xs ys) i = some z → ∃ x, nth xs i = some x ∧ (z = x ∨ ∃ y, z = mix1 true x y)
  | [], _, _, h => by simp [mixL, nth] at h
  | x :: _, [], i, h => ⟨z, by simpa [mixL] using h, .inl rfl⟩
  | x :: xs, y :: ys, 0, h => by simp [mixL, nth] at h; exact ⟨x, rfl, .inr ⟨y, h.symm⟩⟩
  | x :: xs, y :: ys, i + 1, h => by simp only [mixL, nth] at h; exact nth_mixL_t (xs := xs) (ys := ys) h

theorem nth_mixL_f {z : AVal} : ∀ {xs ys : List AVal} {i : Nat}, nth (mixL false xs ys) i = some z → ∃ y, nth ys i = some y ∧ (z = y ∨ ∃ x, z = mix1 false x y)
  | [], ys, _, h => ⟨z, by simpa [mixL] using h, .inl rfl⟩
  | x :: _, [], i, h => by simp [mixL, nth] at h
  | x :: xs, y :: ys, 0, h => by simp [mixL, nth] at h; exact ⟨y, rfl, .inr ⟨x, h.symm⟩⟩
  | x :: xs, y :: ys, i + 1, h => by simp only [mixL, nth] at h; exact nth_mixL_f (xs := xs) (ys := ys) h

theorem length_mixL_t : ∀ {xs ys : List AVal}, (mixL true xs ys).length = xs.length
  | [], _ => by simp [mixL]
  | _ :: _, [] => by simp [mixL]
  | x :: xs, y :: ys => by simp [mixL, length_mixL_t (xs := xs) (ys := ys)]

theorem length_mixL_f : ∀ {xs ys : List AVal}, (mixL false xs ys).length = ys.length
  | [], _ => by simp [mixL]
  | _ :: _, [] => by simp [mixL]
  | x :: xs, y :: ys => by simp [mixL, length_mixL_f (xs := xs) (ys := ys)]

theorem mixV_t {x y : AVal} {u : Value} (hx : VRel w O ad .no x u) : VRel w O ad .no (mixV true x y) u := by
  unfold mixV
  split
  · rename_i xs ys
    cases hx with
    | agg a hs hr =>
      refine .agg a (by rw [length_mixL_t]; exact hs) (fun i z hz => ?_)
      obtain ⟨x, g1, rfl | ⟨y, rfl⟩⟩ := nth_mixL_t hz
      · exact hr i _ g1
      · exact mix1_t (hr i x g1)
  · exact mix1_t hx

theorem mixV_f {x y : AVal} {v : Value} (hy : VRel w O ad .no y v) : VRel w O ad .no (mixV false x y) v := by
  unfold mixV
  split
  · rename_i xs ys
    cases hy with
    | agg a hs hr =>
      refine .agg a (by rw [length_mixL_f]; exact hs) (fun i z hz => ?_)
      obtain ⟨y, g1, rfl | ⟨x, rfl⟩⟩ := nth_mixL_f hz
      · exact hr i _ g1
      · exact mix1_f (hr i y g1)
  · exact mix1_f hy

theorem VRel.reAd {ad' : List Nat} {p : Pos} {x : AVal} {v : Value} (h : VRel w O [] p x v) : VRel w O ad' p x v := h.step (Step.refl w O) (InnK.refl O) (fun k B hk => by simp [nth] at hk) ⟨fun q B fill _ _ h => ⟨h, rfl⟩, fun _ _ _ _ _ _ h => ⟨h, rfl⟩⟩

theorem makeMap_ok (hT : TabOk P T) (hS : Sat st a w O ad) (hd : okDst st o.dst = true) {t : TypeId} {hint : Option Operand} (ho : o.op = .makeMap t hint) (h : makeMapOp T st o.dst t (hint.map (ev st.env)) K) : OpOk P o a w O Q K := by
  unfold makeMapOp at h
  split at h
  case h_2 => exact h.elim
  rename_i kt et s1 s2 s3 ht
  split at h
  case h_2 => exact h.elim
  rename_i tk te htk hte
  have key : ∀ q, kdOf tk.desc = some q → (execOp a.eval o).run P w = .ok (.value (.map (some w.heap.size))) (World.pushO w (.map #[] 0)) →
      K (St.put { st with heap := st.heap ++ [.mp q (fun _ => false) (fun _ => avalOf te.zero)] } o.dst (.mref st.heap.length)) → OpOk P o a w O Q K := by
    intro q hq hrun hk
    obtain ⟨g1, g2⟩ := hS.pushO (y := .map #[] 0) (b := .mp q (fun _ => false) (fun _ => avalOf te.zero)) ⟨by simp, by simp, by simp, by simp⟩
    refine .value hrun hk (g2.put hd fun _ => .mref ?_) g1 (fun B q hB _ => by simp only [World.cell?, pushO_lt w _ hB])
    rw [← hS.len]; exact nth_last _ _
  have hu := (hT.ok t _ ht).1
  split at h
  · rename_i q hq hh
    refine key q hq ?_ h
    have hn : hint = none := by cases hint <;> simp_all
    subst hn
    unfold execOp
    simp only [ho, Option.map_none, Instr.makeMap, run_bind, run_pure]
    rfl
  · rename_i q o1 k1 n1 hq hh
    refine key q hq ?_ h
    cases hint with
    | none => simp at hh
    | some x =>
      simp only [Option.map_some, Option.some.injEq] at hh
      have hv := hS.ev x
      rw [hh] at hv
      have hv := int_of hv
      unfold execOp
      simp only [ho, Option.map_some, Instr.makeMap, run_bind, run_pure, run_underlying_of hT ht, hv, asInt_run]
      rfl
  · exact h.elim

theorem getObj_run {r : Nat} {es : Array MapEntry} {c : Nat} (h : w.heap[r]? = some (.map es c)) : (getObj r).run P w = .ok (.map es c) w := by
  unfold getObj; simp [Sem.run, h]

theorem setObj_run {r : Nat} {es es' : Array MapEntry} {c c' : Nat} (h : w.heap[r]? = some (.map es c)) : (setObj r (.map es' c')).run P w = .ok () (World.setO w r (.map es' c')) := by
  unfold setObj; simp [Sem.run, World.setO, h]

theorem lookup_ok (hT : TabOk P T) (hS : Sat st a w O ad) (hd : okDst st o.dst = true) {t : TypeId} {x ix : Operand} {ok : Bool} (ho : o.op = .lookup t x ix ok)
    (h : lookupK T st.heap t (ev st.env x) (ev st.env ix) ok fun v => K (st.put o.dst v)) : OpOk P o a w O Q K := by
  unfold lookupK at h
  split at h
  case h_2 => exact h.elim
  rename_i kt et s1 s2 s3 ht
  split at h
  case h_2 => exact h.elim
  rename_i tk te k htk hte hx
  split at h
  case h_2 => exact h.elim
  rename_i q has val kv hk hkv
  replace h := needE h
  obtain ⟨hb, h⟩ := h
  obtain ⟨e1, e2⟩ := andE hb
  have e1 := of_decide_eq_true e1
  obtain ⟨B, es, c, h1, h2, h3, hm⟩ := hS.heap.map hk
  have hv := hS.ev x
  rw [hx] at hv
  have hxv : a.eval x = .map (some B) := by
    revert hv
    generalize a.eval x = u
    intro hv
    cases hv with
    | mref hk' => rw [h1] at hk'; obtain rfl := Nat.succ.inj (Option.some.inj hk'); rfl
  have hiv : a.eval ix = kv := keyV_eq (hS.ev ix) hkv
  obtain ⟨f1, f2, f3⟩ := find_ok (P := P) (w := w) hT htk e1 e2 hm.ok
  have hz := avalOf_rel (w := w) (O := O) (ad := ad) .no te.zero
  have out : ∀ (b : Bool) (u : Value), has kv = b → VRel w O ad .no (mixV b (val kv) (avalOf te.zero)) u → (execOp a.eval o).run P w = .ok (.value (if ok then .tuple #[u, .bool b] else u)) w → OpOk P o a w O Q K := by
    intro b u hb hr hrun
    rw [hb] at h
    refine .value (ad' := ad) hrun h (hS.put hd fun _ => ?_) (Step.refl _ _) (Agree.refl O w)
    cases ok with
    | false => exact hr.any _
    | true =>
      refine .tup #[u, .bool b] rfl (fun i y hy => ?_)
      match i with
      | 0 => simp [nth] at hy; subst hy; exact hr.any _
      | 1 => simp [nth] at hy; subst hy; exact .pv (.bool b)
      | n + 2 => simp [nth] at hy
  rcases f3 with ⟨g1, g2⟩ | ⟨j, e, g1, g2, g3⟩
  · have hno : has kv = false := by
      cases hh : has kv with
      | false => rfl
      | true => obtain ⟨e, he, hek⟩ := (hm.has kv e2).1 hh; exact absurd hek (g2 e he)
    refine out false te.zero hno (mixV_f hz) ?_
    unfold execOp
    simp only [ho, Instr.lookup, run_bind, run_pure, run_underlying_of hT ht, hxv, hiv, getObj_run h3, f1, g1, zeroValue_run hT hte]
  · subst g3
    have hyes : has e.key = true := (hm.has _ e2).2 ⟨e, List.mem_of_getElem? g2, rfl⟩
    refine out true e.val hyes (mixV_t (hm.val e (List.mem_of_getElem? g2)).reAd) ?_
    unfold execOp
    simp only [ho, Instr.lookup, run_bind, run_pure, run_underlying_of hT ht, hxv, hiv, getObj_run h3, f1, g1]

theorem mapUpdate_ok (hT : TabOk P T) (hS : Sat st a w O ad) {t : TypeId} {m k v : Operand} (ho : o.op = .mapUpdate t m k v ∨ o.op = .insert t m k v) (hdst : o.dst = none)
    (hstore : isStore o.op = true) (h : mapUpdateOp T st t (ev st.env m) (ev st.env k) (ev st.env v) K) : OpOk P o a w O Q K := by
  unfold mapUpdateOp at h
  split at h
  case h_2 => exact h.elim
  rename_i kt et s1 s2 s3 ht
  split at h
  case h_2 => exact h.elim
  rename_i tk i htk hmm
  split at h
  case h_2 => exact h.elim
  rename_i q has val kv hk hkv
  replace h := needE h
  obtain ⟨hb, h⟩ := h
  obtain ⟨e1, hb⟩ := andE hb
  obtain ⟨e2, e3⟩ := andE hb
  have e1 := of_decide_eq_true e1
  obtain ⟨B, es, c, h1, h2, h3, hm⟩ := hS.heap.map hk
  have hv := hS.ev m
  rw [hmm] at hv
  have hxv : a.eval m = .map (some B) := by
    revert hv
    generalize a.eval m = u
    intro hv
    cases hv with
    | mref hk' => rw [h1] at hk'; obtain rfl := Nat.succ.inj (Option.some.inj hk'); rfl
  have hiv : a.eval k = kv := keyV_eq (hS.ev k) hkv
  have hvv : VRel w O [] .no (ev st.env v).shed (a.eval v) := ((hS.ev v).shed .no).pure (fun _ _ _ h => h) rfl e3
  obtain ⟨f1, f2, f3⟩ := find_ok (P := P) (w := w) hT htk e1 e2 hm.ok
  have fin : ∀ (es' : Array MapEntry) (c' : Nat), (execOp a.eval o).run P w = .ok .skip (World.setO w B (.map es' c')) → (∀ e ∈ es'.toList, keyOk q e.key = true) → es'.toList.Pairwise (fun x y => x.key ≠ y.key) →
      (∀ e ∈ es'.toList, (e.key = kv ∧ e.val = a.eval v) ∨ (e.key ≠ kv ∧ e ∈ es.toList)) → (∃ e ∈ es'.toList, e.key = kv) → (∀ e ∈ es.toList, e.key ≠ kv → e ∈ es'.toList) → OpOk P o a w O Q K := by
    intro es' c' hrun k1 k2 k3 k4 k5
    have hrel : MapRel w O es'.toList q (fun u => veq u kv || has u) (fun u => mixV (veq u kv) (ev st.env v).shed (val u)) := by
      refine ⟨k1, k2, fun u hu => ?_, fun e he => ?_⟩
      · simp only [Bool.or_eq_true, veq_iff hu e2]
        constructor
        · rintro (rfl | hh)
          · exact k4
          · obtain ⟨e, he, rfl⟩ := (hm.has u hu).1 hh
            by_cases ek : e.key = kv
            · rw [ek]; exact k4
            · exact ⟨e, k5 e he ek, rfl⟩
        · rintro ⟨e, he, rfl⟩
          rcases k3 e he with ⟨ek, _⟩ | ⟨ek, he'⟩
          · exact .inl ek
          · exact .inr ((hm.has _ hu).2 ⟨e, he', rfl⟩)
      · rcases k3 e he with ⟨ek, ev⟩ | ⟨ek, he'⟩
        · have : veq e.key kv = true := (veq_iff (k1 e he) e2).2 ek
          rw [this, ev]
          rw [ek]
          exact mixV_t hvv
        · have : veq e.key kv = false := Bool.eq_false_iff.2 fun hh => ek ((veq_iff (k1 e he) e2).1 hh)
          rw [this]
          exact mixV_f (hm.val e he')
    obtain ⟨s1, s2⟩ := hS.storeO (y := .map es' c') (b' := .mp q (fun u => veq u kv || has u) (fun u => mixV (veq u kv) (ev st.env v).shed (val u))) hk h1 h2 h3 (by simp) hrel
    refine .skip (ad' := ad) hrun h ?_ s1 hstore
    rw [hdst, setBlkL_eq]
    exact s2
  rcases f3 with ⟨g1, g2⟩ | ⟨j, e, g1, g2, g3⟩
  · refine fin (es.push { key := kv, val := a.eval v, born := c }) (c + 1) ?_ ?_ ?_ ?_ ⟨{ key := kv, val := a.eval v, born := c }, by simp, rfl⟩ (fun e he _ => by simp [he])
    · unfold execOp
      rcases ho with ho | ho <;> simp only [ho, Instr.mapUpdate, run_bind, run_pure, run_underlying_of hT ht, hxv, hiv, getObj_run h3, f1, g1, setObj_run h3]
    · intro e he
      simp only [Array.toList_push, List.mem_append, List.mem_singleton] at he
      rcases he with he | rfl
      · exact hm.ok e he
      · exact e2
    · rw [Array.toList_push, List.pairwise_append]
      exact ⟨hm.apart, by simp, fun x hx y hy => by simp only [List.mem_singleton] at hy; subst hy; exact g2 x hx⟩
    · intro e he
      simp only [Array.toList_push, List.mem_append, List.mem_singleton] at he
      rcases he with he | rfl
      · exact .inr ⟨g2 e he, he⟩
      · exact .inl ⟨rfl, rfl⟩
  · have hj : j < es.toList.length := (List.getElem?_eq_some_iff.1 g2).1
    have hje : es[j]? = some e := by simpa using g2
    have hmod : (es.modify j fun e => { e with key := kv, val := a.eval v }).toList = es.toList.set j { e with key := kv, val := a.eval v } := by
      apply List.ext_getElem?
      intro i
      rw [List.getElem?_set, Array.getElem?_toList, Array.getElem?_modify]
      by_cases hi : j = i
      · subst hi; simp [hje]; simpa using hj
      · simp [hi]
    have hmem : ∀ x, x ∈ es.toList.set j { e with key := kv, val := a.eval v } → x = { e with key := kv, val := a.eval v } ∨ (x.key ≠ kv ∧ x ∈ es.toList) := by
      intro x hx
      obtain ⟨i, hi⟩ := List.mem_iff_getElem?.1 hx
      rw [List.getElem?_set] at hi
      by_cases hji : j = i
      · rw [if_pos hji, if_pos hj] at hi
        exact .inl (Option.some.inj hi).symm
      · rw [if_neg hji] at hi
        refine .inr ⟨?_, List.mem_of_getElem? hi⟩
        have hp := List.pairwise_iff_getElem.1 hm.apart
        obtain ⟨hi', rfl⟩ := List.getElem?_eq_some_iff.1 hi
        obtain ⟨hj', rfl⟩ := List.getElem?_eq_some_iff.1 g2
        rcases Nat.lt_or_gt_of_ne hji with hlt | hlt
        · have := hp j i hj' hi' hlt; rw [g3] at this; exact fun h => this h.symm
        · have := hp i j hi' hj' hlt; rw [g3] at this; exact this
    refine fin (es.modify j fun e => { e with key := kv, val := a.eval v }) c ?_ ?_ ?_ ?_ ?_ ?_
    · unfold execOp
      rcases ho with ho | ho <;> simp only [ho, Instr.mapUpdate, run_bind, run_pure, run_underlying_of hT ht, hxv, hiv, getObj_run h3, f1, g1, setObj_run h3, hje, Option.map_some, Option.getD_some, g3, f2]
    · rw [hmod]
      intro x hx
      rcases hmem x hx with rfl | ⟨_, h⟩
      · exact e2
      · exact hm.ok x h
    · rw [hmod]
      have hkeys : (es.toList.set j { e with key := kv, val := a.eval v }).map (·.key) = es.toList.map (·.key) := by
        apply List.ext_getElem?
        intro i
        rw [List.getElem?_map, List.getElem?_map, List.getElem?_set]
        by_cases hi : j = i
        · subst hi; rw [if_pos rfl, if_pos hj, g2]; simp [g3]
        · rw [if_neg hi]
      have h1 := List.pairwise_map.2 hm.apart
      rw [← hkeys] at h1
      exact List.pairwise_map.1 h1
    · rw [hmod]
      intro x hx
      rcases hmem x hx with rfl | h
      · exact .inl ⟨rfl, rfl⟩
      · exact .inr h
    · rw [hmod]
      exact ⟨{ e with key := kv, val := a.eval v }, List.mem_iff_getElem?.2 ⟨j, by rw [List.getElem?_set, if_pos rfl, if_pos hj]⟩, rfl⟩
    · rw [hmod]
      intro x hx hxk
      obtain ⟨i, hi⟩ := List.mem_iff_getElem?.1 hx
      refine List.mem_iff_getElem?.2 ⟨i, ?_⟩
      rw [List.getElem?_set, if_neg]
      · exact hi
      · rintro rfl
        rw [g2] at hi
        obtain rfl := Option.some.inj hi
        exact hxk g3

end
end Go.Proofs.Ytgghnfmabphbmaa.Fw
