/- Addresses, indices, fields, arithmetic. -/
import Derived.Test.YtgghnfmabphbmaaA3
import Derived.Laws.StructEq
namespace Go.Proofs.Ytgghnfmabphbmaa.Fw
open Go
set_option linter.unusedSimpArgs false

section
variable {P : Program} {T : Tab} {w : World} {O : Nat → Own} {ad : List Nat} {H : List Blk} {K : AVal → Prop}

theorem elemSize_of {e s : Nat} (h : elemSize T e = some s) : ∃ te, T e = some te ∧ te.size = s := by
  unfold elemSize at h
  split at h
  · rename_i te hte; exact ⟨te, hte, by simpa using h⟩
  · simp at h

theorem field_ok (hT : TabOk P T) {s : TypeId} {p : Pos} {a : AVal} {av : Value} (ha : VRel w O ad p a av) {f : Nat} (h : fieldK T s a f K) : VOv P w O ad (Instr.fieldAt s av f) K := by
  unfold fieldK at h
  split at h
  · rename_i fs si by_ z hs
    split at h
    · rename_i fd hf
      split at h
      · rename_i tf htf
        have run : tf.size ≠ 0 → ∀ B o w', (Instr.fieldAt s (.pointer (some ⟨B, o, none⟩)) f).run P w' = .ok (.pointer (some ⟨B, o + fd.offset, none⟩)) w' := by
          intro h0 B o w'
          simp only [Instr.fieldAt]
          rw [run_bind, run_underlying_of hT hs]; simp only [hf]
          simp only [Instr.sureAddr]
          rw [run_bind, run_pure]; simp only [fieldPlace]
          rw [run_bind, run_bind, run_sizeOf_of hT htf]; simp only [h0, if_false, add_none]
          rfl
        split at h
        · rename_i n c j
          replace h := needE h
          obtain ⟨h0, h⟩ := h
          have h0 := nbeqE h0
          cases ha with
          | pv hp => cases hp with | cptr vals hc hr => exact ⟨_, _, h, .pv (by have := PRel.cptr (j := j + fd.offset) vals hc hr; rwa [← Nat.add_assoc] at this), fun w' _ => run h0 _ _ w'⟩
        · rename_i k sz i j
          replace h := needE h
          obtain ⟨h0, h⟩ := h
          have h0 := nbeqE h0
          cases ha with
          | ptr hk => exact ⟨_, _, h, .ptr hk, fun w' _ => by rw [run h0]; simp [Nat.add_assoc]⟩
        · exact h.elim
      · exact h.elim
    · exact h.elim
  · exact h.elim

theorem asIntOf_run {k : IntKind} {q : Int} (w : World) : (asIntOf (.int k q)).run P w = .ok (k, q) w := rfl

theorem int_of {p : Pos} {o : Bool} {k : IntKind} {q : Int} {v : Value} (h : VRel w O ad p (.pv o (.int k q)) v) : v = .int k q := by
  cases h with
  | pv h => cases h; rfl

theorem bool_of {p : Pos} {o b : Bool} {v : Value} (h : VRel w O ad p (.pv o (.bool b)) v) : v = .bool b := by
  cases h with
  | pv h => cases h; rfl

theorem str_of {p : Pos} {o : Bool} {s : ByteArray} {v : Value} (h : VRel w O ad p (.pv o (.str s)) v) : v = .string s := by
  cases h with
  | pv h => cases h; rfl

theorem prel_of {p : Pos} {o : Bool} {x : PV} {v : Value} (h : VRel w O ad p (.pv o x) v) : PRel w O x v := by
  cases h with
  | pv h => exact h
  | own h _ => exact h

theorem indexAddr_ok (hT : TabOk P T) {t : TypeId} {p p' : Pos} {a b : AVal} {av bv : Value} (ha : VRel w O ad p a av) (hb : VRel w O ad p' b bv)
    (h : indexAddrK T H t a b K) : VOv P w O ad (Instr.indexAt t av bv) K := by
  unfold indexAddrK at h
  split at h
  · rename_i e si by_ z ow ik q ht
    obtain rfl := int_of hb
    split at h
    · rename_i s ow' sz nf n el hs
      replace h := needC h
      obtain ⟨e1, ⟨h0, h1⟩, h⟩ := h
      obtain rfl := beqE e1
      obtain ⟨te, hte, hsz⟩ := elemSize_of hs
      cases prel_of ha with
      | @lst _ _ _ _ B off cap vals hc hr _ _ _ =>
        refine ⟨_, .pointer (some ⟨B, off + q.toNat * sz + 0, none⟩), h, .pv (.cptr (fun j => vals q.toNat j) (fun j hj => hc _ (by omega) j hj) (fun j hj => hr _ (by omega) j hj)), fun w' _ => ?_⟩
        simp only [Instr.indexAt, run_bind, asIntOf_run, run_underlying_of hT ht, run_pure, h0, h1, and_self, if_true, run_sizeOf_of hT hte, add_none, hsz, Nat.add_zero]
      | lstNil => omega
      | lstE => omega
    · rename_i s k sz off n hs
      replace h := needC h
      obtain ⟨e1, ⟨h0, h1⟩, h⟩ := h
      obtain rfl := beqE e1
      obtain ⟨te, hte, hsz⟩ := elemSize_of hs
      cases ha with
      | arrE => omega
      | @arr _ _ _ _ _ B cap hk hcap _ =>
        refine ⟨_, .pointer (some ⟨B, (off + q.toNat) * sz + 0, none⟩), h, .ptr hk, fun w' _ => ?_⟩
        simp only [Instr.indexAt, run_bind, asIntOf_run, run_underlying_of hT ht, run_pure, h0, h1, and_self, if_true, run_sizeOf_of hT hte, add_none, hsz, Nat.add_mul, Nat.add_zero]
    · rename_i s k i n hs
      replace h := needC h
      obtain ⟨e1, ⟨h0, h1⟩, h⟩ := h
      have e1 := beqE e1
      obtain ⟨te, hte, hsz⟩ := elemSize_of hs
      cases ha with
      | subE => omega
      | @sub _ _ _ _ B cap c ha hO hcap =>
        refine ⟨_, .pointer (some ⟨B, q.toNat, none⟩), h, .psub ha hO, fun w' _ => ?_⟩
        simp only [Instr.indexAt, run_bind, asIntOf_run, run_underlying_of hT ht, run_pure, h0, h1, and_self, if_true, run_sizeOf_of hT hte, add_none, hsz, e1, Nat.mul_one, Nat.zero_add]
    · exact h.elim
  · rename_i len e si by_ z ow ik q ht
    obtain rfl := int_of hb
    have run : ∀ (s : Nat) (te : TI), T e = some te → te.size = s → 0 ≤ q → q < (len : Int) → ∀ B o w', (Instr.indexAt t (.pointer (some ⟨B, o, none⟩)) (.int ik q)).run P w' = .ok (.pointer (some ⟨B, o + q.toNat * s, none⟩)) w' := by
      intro s te hte hsz h0 h1 B o w'
      simp only [Instr.indexAt, Instr.sureAddr, run_bind, asIntOf_run, run_underlying_of hT ht, run_pure, h0, h1, and_self, if_true, run_sizeOf_of hT hte, add_none, hsz]
    split at h
    · rename_i s ow' n c j hs
      replace h := needC h
      obtain ⟨hn, ⟨h0, h1⟩, h⟩ := h
      have hn := bleE hn
      obtain ⟨te, hte, hsz⟩ := elemSize_of hs
      cases prel_of ha with
      | @cptr _ _ _ B off vals hc hr =>
        have lt : ∀ l, l < s → j + q.toNat * s + l < n := fun l hl => by
          have : q.toNat * s + s ≤ len * s := by
            have : (q.toNat + 1) * s ≤ len * s := Nat.mul_le_mul_right _ (by omega)
            rwa [Nat.add_mul, Nat.one_mul] at this
          omega
        refine ⟨_, .pointer (some ⟨B, off + j + q.toNat * s + 0, none⟩), h, .pv (.cptr (fun l => vals (j + q.toNat * s + l)) (fun l hl => ?_) (fun l hl => hr _ (lt l hl))), fun w' _ => run s te hte hsz h0 h1 B _ w'⟩
        have := hc (j + q.toNat * s + l) (lt l hl)
        simpa [Nat.add_assoc] using this
    · rename_i s k sz i j hs
      split at h
      · rename_i s' n el ow' hb
        cases hcc : (T.conc && !Nat.beq sz s) with
        | true =>
          rw [hcc, cond_true] at h
          obtain ⟨⟨h0, h1⟩, h⟩ := cndE h
          obtain ⟨te, hte, hsz⟩ := elemSize_of hs
          cases ha with
          | @ptr _ _ _ _ _ B hk => exact ⟨_, .pointer (some ⟨B, i * sz + (j + q.toNat * s), none⟩), h, .ptr hk, fun w' _ => by rw [run s te hte hsz h0 h1 B _ w', Nat.add_assoc]⟩
        | false =>
        rw [hcc, cond_false] at h
        replace h := needC h
        obtain ⟨hb', ⟨h0, h1⟩, h⟩ := h
        obtain ⟨e1, hb'⟩ := andE hb'
        obtain ⟨e2, hb'⟩ := andE hb'
        obtain ⟨e3, hb'⟩ := andE hb'
        obtain ⟨e4, e5⟩ := andE hb'
        have e1 := beqE e1
        have e2 := beqE e2
        have e3 := beqE e3
        have e4 := beqE e4
        have e5 := beqE e5
        subst e1 e2 e3 e4 e5
        obtain ⟨te, hte, hsz⟩ := elemSize_of hs
        cases ha with
        | @ptr _ _ _ _ _ B hk =>
          refine ⟨_, _, h, ?_, fun w' _ => run _ te hte hsz h0 h1 B _ w'⟩
          have := VRel.ptr (w := w) (O := O) (p := .no) (sz := te.size) (i := q.toNat) (j := 0) hk
          simp only [hsz] at this
          simpa using this
      · exact h.elim
    · exact h.elim
  · exact h.elim

theorem bt_run {s : ByteArray} {q : Int} (h0 : 0 ≤ q) (h1 : q < (s.size : Int)) : (if 0 ≤ q then s[q.toNat]? else none) = some (s.data.getD q.toNat 0) := by
  rw [if_pos h0]
  have : q.toNat < s.size := by omega
  rw [getElem?_pos s q.toNat this]
  simp only [Array.getD, ByteArray.size] at *
  rw [dif_pos (by simpa using this)]
  rfl

theorem index_ok (hT : TabOk P T) {t : TypeId} {p p' : Pos} {a b : AVal} {av bv : Value} (ha : VRel w O ad p a av) (hb : VRel w O ad p' b bv)
    (h : indexK T t a b K) : VOv P w O ad (Instr.index t av bv) K := by
  unfold indexK at h
  split at h
  · rename_i len e si by_ z sz n el ow ik q ht
    obtain rfl := int_of hb
    split at h
    · rename_i te hte
      have run : ∀ (cs : Array Value), 0 ≤ q → q < (len : Int) → ∀ w', (Instr.index t (.agg cs) (.int ik q)).run P w' = (Go.part e cs (q.toNat * te.size)).run P w' := by
        intro cs h0 h1 w'
        simp only [Instr.index]
        rw [run_bind, asIntOf_run]; simp only
        rw [run_bind, run_underlying_of hT ht]; simp only [h0, h1, and_self, if_true]
        rw [run_bind, run_sizeOf_of hT hte]
      cases ha with
      | @av _ _ _ _ arr hs hr =>
        split at h
        · rename_i fs hd
          replace h := needC h
          obtain ⟨hb', ⟨h0, h1⟩, h⟩ := h
          obtain ⟨e1, e2⟩ := andE hb'
          obtain rfl := beqE e1
          obtain rfl := beqE e2
          have hle : q.toNat * te.size + te.size ≤ arr.size := by
            rw [hs]; have : (q.toNat + 1) * te.size ≤ n * te.size := Nat.mul_le_mul_right _ (by omega)
            rwa [Nat.add_mul, Nat.one_mul] at this
          refine ⟨_, .agg ((List.range te.size).map fun i => arr.getD (q.toNat * te.size + i) undef).toArray, h, .agg_cells (fun i hi => by simpa using hr q.toNat (by omega) i hi), fun w' _ => ?_⟩
          rw [run _ h0 h1]
          simp only [Go.part]
          rw [run_bind, run_isAgg_of hT hte, hd]; simp only [isAgg, if_true]
          rw [run_bind, run_sizeOf_of hT hte]
          simp only [run_pure]
          congr 2
          apply Array.ext
          · simp; omega
          · intro i h1 h2
            simp at h1 h2
            simp [Array.getD, show q.toNat * te.size + i < arr.size by omega]
        · exact h.elim
        · rename_i h1 h2
          replace h := needC h
          obtain ⟨hb', ⟨h4, h5⟩, h⟩ := h
          obtain ⟨e1, hb'⟩ := andE hb'
          obtain ⟨h3, e2⟩ := andE hb'
          obtain rfl := beqE e1
          have h3 := beqE h3
          obtain rfl := beqE e2
          refine ⟨_, arr.getD (q.toNat * 1 + 0) undef, h, .pv (hr q.toNat (by omega) 0 (by omega)), fun w' _ => ?_⟩
          rw [run _ h4 h5]
          simp only [Go.part]
          rw [run_bind, run_isAgg_of hT hte, show isAgg te.desc = false by cases hd : te.desc <;> simp_all [isAgg]]; simp only [Bool.false_eq_true, if_false, h3, Nat.mul_one, Nat.add_zero]
          have hlt : q.toNat < arr.size := by omega
          simp only [Array.getD, hlt, dif_pos, Array.getElem?_eq_getElem hlt]
          rfl
    · exact h.elim
  · rename_i si by_ z ow s ow' ik q ht
    obtain rfl := int_of hb
    obtain rfl := str_of ha
    obtain ⟨⟨h0, h1⟩, h⟩ := cndE h
    refine ⟨_, _, h, .pv (.int _ _), fun w' _ => ?_⟩
    simp only [Instr.index]
    rw [run_bind, asIntOf_run]; simp only
    rw [run_bind, run_underlying_of hT ht]; simp only [bt_run h0 h1]
    rfl
  · exact h.elim

theorem part_run {cs : List AVal} {arr : Array Value} (hs : arr.size = cs.length) (hr : ∀ i x, nth cs i = some x → VRel w O ad .no x (arr.getD i undef))
    {t : TypeId} {tt : TI} (hT : TabOk P T) (ht : T t = some tt) {off : Nat} :
    (∀ fs l, tt.desc = .struct fs → part cs off tt.size = some l → ∃ rv, VRel w O ad .no (.agg l) rv ∧ ∀ w', (Go.part t arr off).run P w' = .ok rv w') ∧
    (∀ v, isAgg tt.desc = false → nth cs off = some v → ∃ rv, VRel w O ad .no v.shed rv ∧ ∀ w', (Go.part t arr off).run P w' = .ok rv w') := by
  constructor
  · intro fs l hd hl
    obtain ⟨h1, h2⟩ := part_spec hl
    have hle : off + tt.size ≤ arr.size ∨ tt.size = 0 := by
      cases hz : tt.size with
      | zero => exact .inr rfl
      | succ m =>
        left
        obtain ⟨y, hy, _⟩ := h2 m (by omega)
        have := nth_lt hy; omega
    refine ⟨.agg (arr.extract off (off + tt.size)), .agg _ (by simp [h1]; omega) ?_, fun w' => ?_⟩
    · intro i x hx
      have hi : i < tt.size := by have := nth_lt hx; omega
      obtain ⟨y, hy, hz⟩ := h2 i hi
      rw [hz] at hx; obtain rfl := Option.some.inj hx
      have := (hr _ y hy).shed .no
      have e : (arr.extract off (off + tt.size)).getD i undef = arr.getD (off + i) undef := by
        simp [Array.getD, show off + i < arr.size by omega, show i < min (off + tt.size) arr.size - off by omega]
      rw [e]; exact this
    · simp only [Go.part, run_bind, run_isAgg_of hT ht, hd, isAgg, if_true, run_sizeOf_of hT ht, run_pure]
  · intro v hd hv
    have hlt : off < arr.size := by rw [hs]; exact nth_lt hv
    refine ⟨_, (hr off v hv).shed .no, fun w' => ?_⟩
    simp only [Go.part, run_bind, run_isAgg_of hT ht, hd, Bool.false_eq_true, if_false, Array.getD, hlt, dif_pos, Array.getElem?_eq_getElem hlt]
    rfl

theorem fieldV_ok (hT : TabOk P T) {t : TypeId} {p : Pos} {a : AVal} {av : Value} (ha : VRel w O ad p a av) {f : Nat} (h : fieldVK T t a f K) : VOv P w O ad (Instr.field t av f) K := by
  unfold fieldVK at h
  split at h
  · rename_i fs si by_ z cs ht
    split at h
    · rename_i fd hf
      split at h
      · rename_i tf htf
        cases ha with
        | agg arr hs hr =>
          obtain ⟨g1, g2⟩ := part_run (P := P) (off := fd.offset) hs hr hT htf
          have run : ∀ w', (Instr.field t (.agg arr) f).run P w' = (Go.part fd.type arr fd.offset).run P w' := fun w' => by
            simp only [Instr.field, run_bind, run_underlying_of hT ht, hf, asAgg, run_pure]
          split at h
          · rename_i fs' hd
            split at h
            · rename_i l hl
              obtain ⟨rv, hv, hrun⟩ := g1 fs' l hd hl
              exact ⟨_, rv, h, hv, fun w' _ => by rw [run, hrun]⟩
            · exact h.elim
          · exact h.elim
          · rename_i h1 h2
            split at h
            · rename_i v hv
              obtain ⟨rv, hv, hrun⟩ := g2 v (by cases hd : tf.desc <;> simp_all [isAgg]) hv
              exact ⟨_, rv, h, hv, fun w' _ => by rw [run, hrun]⟩
            · exact h.elim
      · exact h.elim
    · exact h.elim
  · exact h.elim

theorem VOv.now {x : AVal} {rv : Value} {R : Sem Value} (hk : K x) (hr : VRel w O ad .no x rv) (h : ∀ w', R.run P w' = .ok rv w') : VOv P w O ad R K := ⟨x, rv, hk, hr, fun w' _ => h w'⟩

theorem eqGuard_int {op : BinOp} {t : TypeId} {x y : Operand} {k k' : IntKind} {a b : Int} (w : World) : (eqGuard op t x y (.int k a) (.int k' b)).run P w = .ok () w := by
  unfold eqGuard; split <;> rfl

theorem run_equal_bool (hT : TabOk P T) {t : TypeId} {s1 s2 : Nat} {s3 : Value} (ht : T t = some ⟨.bool, s1, s2, s3⟩) (a b : Bool) (w' : World) :
    (Op.equal t (.bool a) (.bool b)).run P w' = .ok (a == b) w' := by
  show (Op.equalIn (9999 + 1) t (.bool a) (.bool b)).run P w' = _
  generalize 9999 = d
  rw [Op.equalIn, run_bind, run_underlying_of hT ht]; rfl

theorem run_equal_nil (hT : TabOk P T) {t e : TypeId} {s1 s2 : Nat} {s3 : Value} (ht : T t = some ⟨.slice e, s1, s2, s3⟩) {av : Value} {b : Bool}
    (h : (av = .slice none 0 0 ∧ b = true) ∨ (∃ B c d, av = .slice (some B) c d ∧ b = false)) (w' : World) :
    (Op.equal t av (.slice none 0 0)).run P w' = .ok b w' := by
  show (Op.equalIn (9999 + 1) t av (.slice none 0 0)).run P w' = _
  generalize 9999 = d
  obtain ⟨rfl, rfl⟩ | ⟨B, c, d, rfl, rfl⟩ := h <;> (rw [Op.equalIn, run_bind, run_underlying_of hT ht]; rfl)

theorem eqGuard_none {op : BinOp} {t : TypeId} {x y : Operand} {a b : Value} (h : (a ≠ .nilIface ∨ b ≠ .nilIface) ∧ ((∀ c, a ≠ .agg c) ∨ ∀ c, b ≠ .agg c)) (w' : World) :
    (eqGuard op t x y a b).run P w' = .ok () w' := by
  have key : ∀ s : Sem Unit, ∀ s', (match a, b with
      | .nilIface, .nilIface => s
      | .agg _, .agg _ => s'
      | _, _ => pure ()) = pure () := by
    intro s s'
    split
    · simp at h
    · simp at h
    · rfl
  unfold eqGuard
  cases op <;> first | rfl | (simp only [Bool.not_true, Bool.false_eq_true, if_false]; split <;> first | (simp at h; done) | rfl)

theorem bytes_beq (a b : ByteArray) : (a.toList == b.toList) = decide (a = b) := by
  rw [ByteArray.toList_eq, ByteArray.toList_eq]
  obtain ⟨⟨x⟩⟩ := a
  obtain ⟨⟨y⟩⟩ := b
  by_cases h : x = y
  · subst h; simp
  · simp [h]

/-- structs, cell by cell -/
theorem eqK_ok (hT : TabOk P T) {xs ys : List AVal} {ax ay : Array Value} (hsx : ax.size = xs.length) (hx : ∀ i x, nth xs i = some x → VRel w O ad .no x (ax.getD i undef))
    (hsy : ay.size = ys.length) (hy : ∀ i x, nth ys i = some x → VRel w O ad .no x (ay.getD i undef)) (d : Nat) :
    ∀ {fs : List Field} {K : Bool → Prop}, (∀ f ∈ fs, f.name ≠ "_") → eqK T xs ys fs K → ∃ r, K r ∧ ∀ w', (Op.eqFields (d + 1) ax ay fs).run P w' = .ok r w'
  | [], K, _, h => ⟨true, h, fun w' => rfl⟩
  | f :: fs, K, hn, h => by
    have hne : f.name ≠ "_" := hn f (by simp)
    have hn' : ∀ g ∈ fs, g.name ≠ "_" := fun g hg => hn g (by simp [hg])
    unfold eqK at h
    have cell : ∀ {cs : List AVal} {arr : Array Value}, arr.size = cs.length → (∀ i x, nth cs i = some x → VRel w O ad .no x (arr.getD i undef)) → ∀ {tt : TI}, T f.type = some tt → isAgg tt.desc = false → ∀ {o : Bool} {p : PV}, nth cs f.offset = some (.pv o p) →
        ∃ rv, PRel w O p rv ∧ ∀ w', (Go.part f.type arr f.offset).run P w' = .ok rv w' := fun hs hr tt ht hag o p hp => by
      obtain ⟨rv, h1, h2⟩ := (part_run hs hr hT ht).2 _ hag hp
      exact ⟨rv, prel_of (o := false) h1, h2⟩
    split at h
    · rename_i k0 s1 s2 s3 o1 k a o2 k' b ht h1 h2
      obtain ⟨e, hk⟩ := needE h
      have e := of_decide_eq_true e
      obtain ⟨r, hr, hrun⟩ := eqK_ok hT hsx hx hsy hy d hn' hk
      subst e
      obtain ⟨u, g1, g2⟩ := cell hsx hx ht rfl h1
      obtain ⟨v, g3, g4⟩ := cell hsy hy ht rfl h2
      cases g1; cases g3
      refine ⟨_, hr, fun w' => ?_⟩
      simp only [Op.eqFields, hne, ne_eq, not_false_eq_true, if_true]
      rw [run_bind, g2]; simp only
      rw [run_bind, g4]; simp only
      rw [run_bind, run_equalIn_int _ _ _ _ _ _ _ (hT.ok _ _ ht).1]; simp only
      by_cases c : a = b
      · subst c; simp [hrun]
      · simp [c] <;> rfl
    · rename_i s1 s2 s3 o1 a o2 b ht h1 h2
      obtain ⟨r, hr, hrun⟩ := eqK_ok hT hsx hx hsy hy d hn' h
      obtain ⟨u, g1, g2⟩ := cell hsx hx ht rfl h1
      obtain ⟨v, g3, g4⟩ := cell hsy hy ht rfl h2
      cases g1; cases g3
      refine ⟨_, hr, fun w' => ?_⟩
      simp only [Op.eqFields, hne, ne_eq, not_false_eq_true, if_true]
      rw [run_bind, g2]; simp only
      rw [run_bind, g4]; simp only
      rw [run_bind, run_equalIn_bool' _ _ _ _ _ (hT.ok _ _ ht).1]; simp only
      cases c : a == b
      · simp <;> rfl
      · simp [hrun]
    · rename_i s1 s2 s3 o1 a o2 b ht h1 h2
      obtain ⟨r, hr, hrun⟩ := eqK_ok hT hsx hx hsy hy d hn' h
      obtain ⟨u, g1, g2⟩ := cell hsx hx ht rfl h1
      obtain ⟨v, g3, g4⟩ := cell hsy hy ht rfl h2
      cases g1; cases g3
      refine ⟨_, hr, fun w' => ?_⟩
      simp only [Op.eqFields, hne, ne_eq, not_false_eq_true, if_true]
      rw [run_bind, g2]; simp only
      rw [run_bind, g4]; simp only
      rw [run_bind, run_equalIn_string _ _ _ _ _ (hT.ok _ _ ht).1, bytes_beq]; simp only
      by_cases c : a = b
      · subst c; simp [hrun]
      · simp [c] <;> rfl
    · exact h.elim

theorem eqArr_run {P : Program} {elem t : TypeId} {k' : IntKind} {len : Nat} (ht : P.underlying t = some (.array len elem)) (hu : P.underlying elem = some (.int k')) (hz : ∀ w : World, (Go.sizeOf elem).run P w = Result.ok 1 w) (hag : ∀ w : World, (Go.isAgg elem).run P w = Result.ok false w)
    (d : Nat) (xs ys : Array Value) (kx : Nat → IntKind) (fx fy : Nat → Int) (hx : ∀ i, i < len → xs[i]? = some (.int (kx i) (fx i))) (hy : ∀ i, i < len → ys[i]? = some (.int (kx i) (fy i))) (r : Bool) (hr : r = true ↔ ∀ i, i < len → fx i = fy i) (w : World) :
    (Op.equalIn (d + 2) t (.agg xs) (.agg ys)).run P w = .ok r w := by
  have hp : ∀ (zs : Array Value) (i : Nat) (v : Value) (w : World), zs[i]? = some v → (Go.part elem zs (i * 1)).run P w = .ok v w := fun zs i v w h => by
    simp only [Go.part, Sem.run_bind, hag, Result.andThen_ok, Bool.false_eq_true, if_false, Nat.mul_one, h, Sem.run_pure]
  rw [Op.equalIn]
  simp only [Sem.run_bind, run_underlying ht, Result.andThen_ok, hz]
  rw [Std.Legacy.Range.forIn_eq_forIn_range']
  have hsz : Std.Legacy.Range.size [:len] = len := by simp [Std.Legacy.Range.size]
  simp only [hsz]
  have key : ∀ (n s : Nat) (w : World), s + n = len → (forIn (List.range' s n) ((none, ()) : Option Bool × Unit) fun i __s => do
              let __do_lift ← Go.part elem xs (i * 1)
              let __do_lift_1 ← Go.part elem ys (i * 1)
              let __do_lift ← Op.equalIn (d + 1) elem __do_lift __do_lift_1
              if (!__do_lift) = true then pure (ForInStep.done (some false, ())) else pure (ForInStep.yield (none, ())) : Sem (Option Bool × Unit)).run P w = Result.ok (if (∀ i, i < n → fx (s + i) = fy (s + i)) then none else some false, ()) w := by
    intro n
    induction n with
    | zero => intro s w h; simp [Sem.run_pure]
    | succ n ih =>
      intro s w h
      simp only [List.range'_succ, List.forIn_cons, Sem.run_bind, hp xs s _ _ (hx s (by omega)), hp ys s _ _ (hy s (by omega)), Result.andThen_ok, run_equalIn_int _ _ _ _ _ _ _ hu]
      by_cases c : fx s = fy s
      · simp only [c, beq_self_eq_true, Bool.not_true, Bool.false_eq_true, if_false, Sem.run_pure, Result.andThen_ok]
        rw [ih (s + 1) w (by omega)]
        congr 3
        refine propext ⟨fun h i hi => ?_, fun h i hi => by have := h (i + 1) (by omega); rwa [show s + (i + 1) = s + 1 + i by omega] at this⟩
        cases i with
        | zero => exact c
        | succ i => have := h i (by omega); rwa [show s + 1 + i = s + (i + 1) by omega] at this
      · have hb : (fx s == fy s) = false := by simpa using c
        simp only [hb, Bool.not_false, if_true, Sem.run_pure, Result.andThen_ok]
        rw [if_neg (fun h => c (h 0 (by omega)))]
  have := key len 0 w (by omega)
  simp only [Nat.zero_add] at this
  rw [this]
  simp only [Result.andThen_ok]
  by_cases c : ∀ i, i < len → fx i = fy i
  · rw [if_pos c, hr.2 c]; rfl
  · rw [if_neg c]
    have : r = false := by rw [Bool.eq_false_iff]; exact fun h => c (hr.1 h)
    rw [this]; rfl
theorem eqAK_ok {el el' : Nat → Nat → PV} : ∀ {n : Nat} {K : Bool → Prop}, eqAK el el' n K →
    (∀ i, i < n → ∃ k a b, el i 0 = .int k a ∧ el' i 0 = .int k b) ∧ ∃ r, K r ∧ (r = true ↔ ∀ i, i < n → ∀ k a b, el i 0 = .int k a → el' i 0 = .int k b → a = b)
  | 0, K, h => ⟨fun i hi => absurd hi (Nat.not_lt_zero i), true, h, by simp⟩
  | n + 1, K, h => by
    unfold eqAK at h
    split at h
    · rename_i k a k' b h1 h2
      obtain ⟨hk, hh⟩ := needE h
      have hk := of_decide_eq_true hk
      obtain ⟨g1, r, g2, g3⟩ := eqAK_ok hh
      clear h hh
      subst hk
      refine ⟨fun i hi => ?_, _, g2, ?_⟩
      · by_cases e : i = n
        · subst e; exact ⟨k, a, b, h1, h2⟩
        · exact g1 i (by omega)
      · simp only [Bool.and_eq_true, decide_eq_true_eq, g3]
        constructor
        · rintro ⟨q1, q2⟩ i hi k' a' b' e1 e2
          by_cases e : i = n
          · subst e
            rw [h1] at e1; rw [h2] at e2
            cases e1; cases e2
            exact q2
          · exact q1 i (by omega) k' a' b' e1 e2
        · exact fun q => ⟨fun i hi => q i (by omega), q n (by omega) k a b h1 h2⟩
    · exact h.elim

/-- rows of numbers, compared -/
theorem eqA_ok (hT : TabOk P T) {t e : TypeId} {len : Nat} {s1 s2 : Nat} {s3 : Value} (ht : T t = some ⟨.array len e, s1, s2, s3⟩) {el el' : Nat → Nat → PV} {ax ay : Array Value} (hsx : ax.size = len * 1) (hx : ∀ i, i < len → ∀ j, j < 1 → PRel w O (el i j) (ax.getD (i * 1 + j) undef))
    (hsy : ay.size = len * 1) (hy : ∀ i, i < len → ∀ j, j < 1 → PRel w O (el' i j) (ay.getD (i * 1 + j) undef)) {K : Bool → Prop} (x y : Operand) (op : BinOp)
    (h : need (T.cmp t) (match T e with | some ⟨.int _, 1, _, _⟩ => eqAK el el' len K | _ => False)) :
    ∃ r, K r ∧ (∀ w', (eqGuard op t x y (.agg ax) (.agg ay)).run P w' = .ok () w') ∧ ∀ w', (Op.equalIn 10000 t (.agg ax) (.agg ay)).run P w' = .ok r w' := by
  obtain ⟨hc, h⟩ := needE h
  obtain ⟨c1, c2, c3⟩ := hT.cmp t hc
  split at h
  · rename_i k0 b1 z0 he
    obtain ⟨g1, r, g2, g3⟩ := eqAK_ok h
    refine ⟨r, g2, fun w' => run_eqGuard_agg _ _ _ _ _ _ _ c2, fun w' => ?_⟩
    have cell : ∀ {el : Nat → Nat → PV} {a : Array Value}, a.size = len * 1 → (∀ i, i < len → ∀ j, j < 1 → PRel w O (el i j) (a.getD (i * 1 + j) undef)) → ∀ i, i < len → ∀ k v, el i 0 = .int k v → a[i]? = some (.int k v) := fun {el a} hs hr i hi k v hv => by
      have := hr i hi 0 (by omega)
      rw [hv, Nat.mul_one, Nat.add_zero] at this
      have hlt : i < a.size := by omega
      rw [Array.getD_eq_getD_getElem?, Array.getElem?_eq_getElem hlt] at this
      rw [Array.getElem?_eq_getElem hlt]
      simp only [Option.getD_some] at this
      generalize a[i] = u at this
      cases this; rfl
    let kx : Nat → IntKind := fun i => match el i 0 with | .int k _ => k | _ => .i64
    let fx : Nat → Int := fun i => match el i 0 with | .int _ a => a | _ => 0
    let fy : Nat → Int := fun i => match el' i 0 with | .int _ a => a | _ => 0
    refine eqArr_run (hT.ok _ _ ht).1 (hT.ok _ _ he).1 (fun w' => run_sizeOf_of hT he w') (fun w' => run_isAgg_of hT he w') 9998 ax ay kx fx fy (fun i hi => ?_) (fun i hi => ?_) r ?_ w'
    · obtain ⟨k, a, b, e1, e2⟩ := g1 i hi
      have := cell hsx hx i hi k a e1
      simp only [kx, fx, e1]; exact this
    · obtain ⟨k, a, b, e1, e2⟩ := g1 i hi
      have := cell hsy hy i hi k b e2
      simp only [kx, fy, e1, e2]; exact this
    · rw [g3]
      constructor
      · intro q i hi
        obtain ⟨k, a, b, e1, e2⟩ := g1 i hi
        simp only [fx, fy, e1, e2]
        exact q i hi k a b e1 e2
      · intro q i hi k a b e1 e2
        have := q i hi
        simp only [fx, fy, e1, e2] at this
        exact this
  · exact h.elim

theorem bin_ok (hT : TabOk P T) {op : BinOp} {t : TypeId} {x y : Operand} {p p' : Pos} {a b : AVal} {av bv : Value} (ha : VRel w O ad p a av) (hb : VRel w O ad p' b bv)
    (h : binK T op t a b K) : VOv P w O ad (do eqGuard op t x y av bv; binOp op t av bv) K := by
  unfold binK at h
  split at h
  · rename_i o1 k q o2 k' r
    obtain rfl := int_of ha
    obtain rfl := int_of hb
    by_cases hk : k = k'
    · subst hk
      simp only [decide_true, cond_true] at h
      have run : ∀ w', (do eqGuard op t x y (.int k q) (.int k r); binOp op t (.int k q) (.int k r) : Sem Value).run P w' = (binOp op t (.int k q) (.int k r)).run P w' := fun w' => by
        rw [run_bind, eqGuard_int]
      cases op <;> simp only [intK] at h
      case add => exact .now h (.pv (.int _ _)) fun w' => by rw [run]; simp [binOp, Op.intArith, run_pure]
      case sub => exact .now h (.pv (.int _ _)) fun w' => by rw [run]; simp [binOp, Op.intArith, run_pure]
      case mul => exact .now h (.pv (.int _ _)) fun w' => by rw [run]; simp [binOp, Op.intArith, run_pure]
      case quo =>
        have h0 : r ≠ 0 := by simpa using (needE h).1
        exact .now (needE h).2 (.pv (.int _ _)) fun w' => by rw [run]; simp [binOp, Op.intDiv, h0, run_pure]
      case rem =>
        have h0 : r ≠ 0 := by simpa using (needE h).1
        exact .now (needE h).2 (.pv (.int _ _)) fun w' => by rw [run]; simp [binOp, Op.intDiv, h0, run_pure]
      case eql => exact .now h (.pv (.bool _)) fun w' => by rw [run]; simp [binOp, Op.intCmp, run_pure]; rfl
      case neq => exact .now h (.pv (.bool _)) fun w' => by rw [run]; simp [binOp, Op.intCmp, run_pure, bne]; rfl
      case lss => exact .now h (.pv (.bool _)) fun w' => by rw [run]; simp [binOp, Op.intCmp, run_pure]
      case leq => exact .now h (.pv (.bool _)) fun w' => by rw [run]; simp [binOp, Op.intCmp, run_pure]
      case gtr => exact .now h (.pv (.bool _)) fun w' => by rw [run]; simp [binOp, Op.intCmp, run_pure]
      case geq => exact .now h (.pv (.bool _)) fun w' => by rw [run]; simp [binOp, Op.intCmp, run_pure]
      case and => exact .now h (.pv (.int _ _)) fun w' => by rw [run]; simp [binOp, Op.intBits, andI, run_pure]
      case or => exact .now h (.pv (.int _ _)) fun w' => by rw [run]; simp [binOp, Op.intBits, orI, run_pure]
      case xor => exact .now h (.pv (.int _ _)) fun w' => by rw [run]; simp [binOp, Op.intBits, xorI, run_pure]
      case andNot => exact .now h (.pv (.int _ _)) fun w' => by rw [run]; simp [binOp, Op.intBits, andNotI, run_pure]
      case shl =>
        have h0 : ¬ r < 0 := by have := of_decide_eq_true (needE h).1; omega
        exact .now (needE h).2 (.pv (.int _ _)) fun w' => by rw [run]; simp [binOp, Op.shift, h0, shlI, run_pure]
      case shr =>
        have h0 : ¬ r < 0 := by have := of_decide_eq_true (needE h).1; omega
        exact .now (needE h).2 (.pv (.int _ _)) fun w' => by rw [run]; simp [binOp, Op.shift, h0, shrI, run_pure]
    · simp only [hk, decide_false, cond_false] at h
      have run : ∀ w', (op = .shl ∨ op = .shr) → (do eqGuard op t x y (.int k q) (.int k' r); binOp op t (.int k q) (.int k' r) : Sem Value).run P w' = (binOp op t (.int k q) (.int k' r)).run P w' := fun w' ho => by
        rw [run_bind]
        rcases ho with rfl | rfl <;> rfl
      cases op <;> simp only [shiftK] at h
      case shl =>
        have h0 : ¬ r < 0 := by have := of_decide_eq_true (needE h).1; omega
        exact .now (needE h).2 (.pv (.int _ _)) fun w' => by rw [run w' (.inl rfl)]; simp [binOp, Op.shift, h0, shlI, run_pure]
      case shr =>
        have h0 : ¬ r < 0 := by have := of_decide_eq_true (needE h).1; omega
        exact .now (needE h).2 (.pv (.int _ _)) fun w' => by rw [run w' (.inr rfl)]; simp [binOp, Op.shift, h0, shrI, run_pure]
  · rename_i o1 q o2 r
    obtain rfl := bool_of ha
    obtain rfl := bool_of hb
    split at h
    · rename_i s1 s2 s3 ht
      exact .now h (.pv (.bool _)) fun w' => by
        rw [run_bind, eqGuard_none (by simp)]; simp only [binOp]; rw [run_bind, run_equal_bool hT ht]; rfl
    · rename_i s1 s2 s3 ht
      exact .now h (.pv (.bool _)) fun w' => by
        rw [run_bind, eqGuard_none (by simp)]; simp only [binOp]; rw [run_bind, run_equal_bool hT ht]; rfl
    · exact h.elim
  · rename_i o1 sz nf n el o2 sz2 el2
    have hb' := prel_of hb
    cases hb' with
    | lst _ _ _ _ _ hn => exact hn.elim
    | lstE _ hn => exact hn.elim
    | lstNil _ _ =>
      have ha' := prel_of ha
      have key : ∀ K' : Bool → Prop, nilK T.conc nf n K' → ∃ b, K' b ∧ ((av = .slice none 0 0 ∧ b = true) ∨ (∃ B c d, av = .slice (some B) c d ∧ b = false)) := by
        intro K' hk
        replace hk := nilK_base hk
        cases ha' with
        | lst vals hc hr hcap hf hn =>
          cases nf with
          | isNil => exact hn.elim
          | full => exact ⟨false, hk, .inr ⟨_, _, _, rfl, rfl⟩⟩
          | notNil => exact ⟨false, hk, .inr ⟨_, _, _, rfl, rfl⟩⟩
          | any => exact ⟨false, hk false (by simp), .inr ⟨_, _, _, rfl, rfl⟩⟩
          | fullAny => exact ⟨false, hk false (by simp), .inr ⟨_, _, _, rfl, rfl⟩⟩
          | iff =>
            have hn : 0 < n := hn
            have hk : K' (Nat.beq n 0) := hk
            rw [show Nat.beq n 0 = false from Bool.eq_false_iff.2 fun e => by have := beqE e; omega] at hk
            exact ⟨false, hk, .inr ⟨_, _, _, rfl, rfl⟩⟩
        | lstE _ hn =>
          cases nf with
          | isNil => exact hn.elim
          | full => exact ⟨false, hk, .inr ⟨_, _, _, rfl, rfl⟩⟩
          | notNil => exact ⟨false, hk, .inr ⟨_, _, _, rfl, rfl⟩⟩
          | any => exact ⟨false, hk false (by simp), .inr ⟨_, _, _, rfl, rfl⟩⟩
          | fullAny => exact ⟨false, hk false (by simp), .inr ⟨_, _, _, rfl, rfl⟩⟩
          | iff => exact absurd hn (Nat.lt_irrefl 0)
        | lstNil h1 h2 =>
          cases nf with
          | isNil => exact ⟨true, hk, .inl ⟨rfl, rfl⟩⟩
          | full => exact absurd rfl h1
          | notNil => exact absurd rfl h2
          | any => exact ⟨true, hk true (by simp), .inl ⟨rfl, rfl⟩⟩
          | fullAny => exact ⟨true, hk true (by simp), .inl ⟨rfl, rfl⟩⟩
          | iff => exact ⟨true, hk, .inl ⟨rfl, rfl⟩⟩
      split at h
      · rename_i e s1 s2 s3 ht
        obtain ⟨b, hk, hb⟩ := key _ h
        refine .now hk (.pv (.bool _)) fun w' => ?_
        rw [run_bind, eqGuard_none (by obtain ⟨rfl, _⟩ | ⟨_, _, _, rfl, _⟩ := hb <;> simp)]
        have he := run_equal_nil hT ht hb w'
        obtain ⟨rfl, _⟩ | ⟨_, _, _, rfl, _⟩ := hb <;> (simp only [binOp]; rw [run_bind, he]; rfl)
      · rename_i e s1 s2 s3 ht
        obtain ⟨b, hk, hb⟩ := key _ h
        refine .now hk (.pv (.bool _)) fun w' => ?_
        rw [run_bind, eqGuard_none (by obtain ⟨rfl, _⟩ | ⟨_, _, _, rfl, _⟩ := hb <;> simp)]
        have he := run_equal_nil hT ht hb w'
        obtain ⟨rfl, _⟩ | ⟨_, _, _, rfl, _⟩ := hb <;> (simp only [binOp]; rw [run_bind, he]; rfl)
      · exact h.elim
  · rename_i k1 sz1 off1 n1 o2 sz2 el2
    have hb' := prel_of hb
    cases hb' with
    | lst _ _ _ _ _ hn => exact hn.elim
    | lstE _ hn => exact hn.elim
    | lstNil _ _ =>
      have key : ∀ K' : Bool → Prop, nilK T.conc .any n1 K' → ∃ b, K' b ∧ ((av = .slice none 0 0 ∧ b = true) ∨ (∃ B c d, av = .slice (some B) c d ∧ b = false)) := by
        intro K' hk
        replace hk := nilK_base hk
        cases ha with
        | arr h hc hr => exact ⟨false, hk false (by simp), .inr ⟨_, _, _, rfl, rfl⟩⟩
        | arrE _ hv =>
          rcases hv with rfl | ⟨a, rfl⟩
          · exact ⟨true, hk true (by simp), .inl ⟨rfl, rfl⟩⟩
          · exact ⟨false, hk false (by simp), .inr ⟨_, _, _, rfl, rfl⟩⟩
      split at h
      · rename_i e s1 s2 s3 ht
        obtain ⟨b, hk, hb⟩ := key _ h
        refine .now hk (.pv (.bool _)) fun w' => ?_
        rw [run_bind, eqGuard_none (by obtain ⟨rfl, _⟩ | ⟨_, _, _, rfl, _⟩ := hb <;> simp)]
        have he := run_equal_nil hT ht hb w'
        obtain ⟨rfl, _⟩ | ⟨_, _, _, rfl, _⟩ := hb <;> (simp only [binOp]; rw [run_bind, he]; rfl)
      · rename_i e s1 s2 s3 ht
        obtain ⟨b, hk, hb⟩ := key _ h
        refine .now hk (.pv (.bool _)) fun w' => ?_
        rw [run_bind, eqGuard_none (by obtain ⟨rfl, _⟩ | ⟨_, _, _, rfl, _⟩ := hb <;> simp)]
        have he := run_equal_nil hT ht hb w'
        obtain ⟨rfl, _⟩ | ⟨_, _, _, rfl, _⟩ := hb <;> (simp only [binOp]; rw [run_bind, he]; rfl)
      · exact h.elim
  · rename_i o1 a o2 b
    obtain rfl := str_of ha
    obtain rfl := str_of hb
    have he : (a.toList == b.toList) = decide (a = b) := bytes_beq a b
    unfold strK at h
    have run : ∀ w', (do eqGuard op t x y (.string a) (.string b); binOp op t (.string a) (.string b) : Sem Value).run P w' = (binOp op t (.string a) (.string b)).run P w' := fun w' => by
      rw [run_bind, eqGuard_none (by simp)]
    split at h
    · obtain ⟨h1, h⟩ := cndE h
      exact .now h (.pv (.str _)) fun w' => by
        rw [run]; simp only [binOp, Op.stringOp]
        have : ¬((a.size + b.size : Nat) : Int) > IntKind.i64.max := by
          have e : IntKind.i64.max = 9223372036854775807 := by decide
          rw [e]; omega
        rw [if_neg this]; rfl
    · exact .now h (.pv (.bool _)) fun w' => by rw [run]; simp only [binOp, Op.stringOp, he]; rfl
    · exact .now h (.pv (.bool _)) fun w' => by rw [run]; simp only [binOp, Op.stringOp, he]; rfl
    · exact .now h (.pv (.bool _)) fun w' => by rw [run]; simp only [binOp, Op.stringOp, he]; rfl
    · exact .now h (.pv (.bool _)) fun w' => by rw [run]; simp only [binOp, Op.stringOp, he]; rfl
    · exact .now h (.pv (.bool _)) fun w' => by rw [run]; simp only [binOp, Op.stringOp, he]; rfl
    · exact .now h (.pv (.bool _)) fun w' => by rw [run]; simp only [binOp, Op.stringOp, he]; rfl
    · exact h.elim
  · rename_i xs ys
    cases ha with
    | agg ax hsx hx =>
      cases hb with
      | agg ay hsy hy =>
        have fin : ∀ {fs : Array Field} {s1 s2 : Nat} {s3 : Value} {K' : Bool → Prop}, T t = some ⟨.struct fs, s1, s2, s3⟩ → need (T.cmp t) (eqK T xs ys fs.toList K') → ∃ r, K' r ∧ (∀ w', (eqGuard op t x y (.agg ax) (.agg ay)).run P w' = .ok () w') ∧ ∀ w', (Op.equalIn 10000 t (.agg ax) (.agg ay)).run P w' = .ok r w' := fun {fs s1 s2 s3 K'} ht hk => by
          obtain ⟨hc, hk⟩ := needE hk
          obtain ⟨c1, c2, c3⟩ := hT.cmp t hc
          have hu := (hT.ok _ _ ht).1
          have hf : P.fieldsOf t = fs := by unfold Program.fieldsOf; rw [hu]
          obtain ⟨r, h1, h2⟩ := eqK_ok hT hsx hx hsy hy 9998 (c3 fs hu) hk
          refine ⟨r, h1, fun w' => run_eqGuard_agg _ _ _ _ _ _ _ c2, fun w' => ?_⟩
          rw [run_equalIn_struct w' 9999 t ax ay (by rw [hf]; exact hu) c1, hf]
          exact h2 w'
        split at h
        · rename_i fs s1 s2 s3 ht
          obtain ⟨r, h1, h2, h3⟩ := fin ht h
          exact .now h1 (.pv (.bool _)) fun w' => by rw [run_bind, h2]; simp only; rw [run_eql_struct, h3]; rfl
        · rename_i fs s1 s2 s3 ht
          obtain ⟨r, h1, h2, h3⟩ := fin ht h
          exact .now h1 (.pv (.bool _)) fun w' => by rw [run_bind, h2]; simp only; rw [run_neq_struct, h3]; rfl
        · exact h.elim
  · rename_i sz n el sz' n' el'
    cases ha with
    | av ax hsx hx =>
      cases hb with
      | av ay hsy hy =>
        split at h
        · rename_i len e s1 s2 s3 ht
          obtain ⟨hc, hq⟩ := needE h
          obtain ⟨c0, hc⟩ := andE hc
          obtain ⟨c1, hc⟩ := andE hc
          obtain ⟨c2, hc⟩ := andE hc
          obtain ⟨c3, c4⟩ := andE hc
          have c1 := beqE c1
          have c2 := beqE c2
          have c3 := beqE c3
          have c4 := beqE c4
          subst c1 c2 c3 c4
          obtain ⟨r, h1, h2, h3⟩ := eqA_ok hT ht hsx hx hsy hy x y .eql (need_iff.2 ⟨c0, hq⟩)
          exact .now h1 (.pv (.bool _)) fun w' => by rw [run_bind, h2]; simp only; rw [run_eql_struct, h3]; rfl
        · rename_i len e s1 s2 s3 ht
          obtain ⟨hc, hq⟩ := needE h
          obtain ⟨c0, hc⟩ := andE hc
          obtain ⟨c1, hc⟩ := andE hc
          obtain ⟨c2, hc⟩ := andE hc
          obtain ⟨c3, c4⟩ := andE hc
          have c1 := beqE c1
          have c2 := beqE c2
          have c3 := beqE c3
          have c4 := beqE c4
          subst c1 c2 c3 c4
          obtain ⟨r, h1, h2, h3⟩ := eqA_ok hT ht hsx hx hsy hy x y .neq (need_iff.2 ⟨c0, hq⟩)
          exact .now h1 (.pv (.bool _)) fun w' => by rw [run_bind, h2]; simp only; rw [run_neq_struct, h3]; rfl
        · exact h.elim
  · exact h.elim

theorem un_ok {op : UnOp} {p : Pos} {a : AVal} {av : Value} (ha : VRel w O ad p a av) (h : unK op a K) : VOv P w O ad (Op.unary op av) K := by
  unfold unK at h
  split at h
  · obtain rfl := bool_of ha; exact .now h (.pv (.bool _)) fun w' => rfl
  · obtain rfl := int_of ha; exact .now h (.pv (.int _ _)) fun w' => rfl
  · exact h.elim

theorem convert_ok (hT : TabOk P T) {s d : TypeId} {p : Pos} {a : AVal} {av : Value} (ha : VRel w O ad p a av) (h : convertK T s d a K) : VOv P w O ad (convert s d av) K := by
  unfold convertK at h
  split at h
  · rename_i x1 x2 x3 x4 x5 x6 x7 x8 hs hd
    obtain rfl := int_of ha
    exact .now h (.pv (.int _ _)) fun w' => by simp only [convert, run_bind, run_underlying_of hT hs, run_underlying_of hT hd]; rfl
  · rename_i x1 x2 x3 x4 x5 x6 hs hd
    obtain rfl := str_of ha
    refine .now h (.pv (.str _)) fun w' => ?_
    simp only [convert, run_bind, run_underlying_of hT hs, run_underlying_of hT hd]
    cases x1.desc <;> rfl
  · exact h.elim

end
end Go.Proofs.Ytgghnfmabphbmaa.Fw
