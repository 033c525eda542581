/- Slicing, lengths, literals, and all operations that leave memory alone together. -/
import Derived.Test.YtgghnfmabphbmaaA4
namespace Go.Proofs.Ytgghnfmabphbmaa.Fw
open Go
set_option linter.unusedSimpArgs false
set_option linter.unusedVariables false

section
variable {P : Program} {T : Tab} {w : World} {O : Nat → Own} {ad : List Nat} {H : List Blk} {K : AVal → Prop}

/-- one bound of a slice expression -/
theorem bound_ok {o : Option AVal} {ov : Option Value} {d : Int} {K : Int → Prop} (ho : (o = none ∧ ov = none) ∨ ∃ p a v, o = some a ∧ ov = some v ∧ VRel w O ad p a v)
    (h : boundK o d K) : ∃ q, K q ∧ ((o = none ∧ ov = none ∧ q = d) ∨ ∃ k, o.isSome = true ∧ ov = some (.int k q)) := by
  unfold boundK at h
  rcases ho with ⟨rfl, rfl⟩ | ⟨p, a, v, rfl, rfl, hr⟩
  · exact ⟨d, h, .inl ⟨rfl, rfl, rfl⟩⟩
  · split at h
    · simp_all
    · rename_i o' k q heq
      simp only [Option.some.injEq] at heq; subst heq
      exact ⟨q, h, .inr ⟨k, rfl, by rw [int_of hr]⟩⟩
    · exact h.elim

theorem sliceBound_run {k : IntKind} {q : Int} {y : Nat} {c : BoundsCode} (h0 : 0 ≤ q) (h1 : q ≤ (y : Int)) (w' : World) : (Instr.sliceBound (.int k q) y c).run P w' = .ok q.toNat w' := by
  simp only [Instr.sliceBound, run_bind, asIntOf_run, h0, h1, and_self, if_true, run_pure]

theorem sliceBounds_run {b : Bool} {n cap : Nat} {l q : Int} {lov hiv : Option Value} (hl : (lov = none ∧ l = 0) ∨ ∃ k, lov = some (.int k l)) (hq : (hiv = none ∧ q = n) ∨ ∃ k, hiv = some (.int k q))
    (h0 : 0 ≤ l) (h1 : l ≤ q) (h2 : q ≤ (cap : Int)) (w' : World) : (Instr.sliceBounds b n cap lov hiv none).run P w' = .ok (l.toNat, q.toNat, cap) w' := by
  have a1 : ∀ k, (Instr.sliceBound (.int k q) cap (if b = true then .sliceAcap else .sliceAlen)).run P w' = .ok q.toNat w' := fun k => sliceBound_run (by omega) h2 w'
  have a2 : ∀ k, (Instr.sliceBound (.int k l) q.toNat .sliceB).run P w' = .ok l.toNat w' := fun k => sliceBound_run h0 (by omega) w'
  unfold Instr.sliceBounds
  rcases hl with ⟨rfl, e1⟩ | ⟨k1, rfl⟩ <;> rcases hq with ⟨rfl, e2⟩ | ⟨k2, rfl⟩ <;>
    simp only [run_bind, run_pure, a1, a2, Option.isSome_none, Bool.false_eq_true, if_false]
  · simp [e1, e2]
  · simp [e1]
  · have e3 : n = q.toNat := by omega
    rw [e3, a2]

theorem sliceBounds3_run {b : Bool} {n cap : Nat} {l q m : Int} {lov : Option Value} {k2 k3 : IntKind} (hl : (lov = none ∧ l = 0) ∨ ∃ k, lov = some (.int k l))
    (h0 : 0 ≤ l) (h1 : l ≤ q) (h2 : q ≤ m) (h3 : m ≤ (cap : Int)) (w' : World) : (Instr.sliceBounds b n cap lov (some (.int k2 q)) (some (.int k3 m))).run P w' = .ok (l.toNat, q.toNat, m.toNat) w' := by
  have a0 : ∀ c, (Instr.sliceBound (.int k3 m) cap c).run P w' = .ok m.toNat w' := fun c => sliceBound_run (by omega) h3 w'
  have a1 : ∀ c, (Instr.sliceBound (.int k2 q) m.toNat c).run P w' = .ok q.toNat w' := fun c => sliceBound_run (by omega) (by omega) w'
  have a2 : ∀ k c, (Instr.sliceBound (.int k l) q.toNat c).run P w' = .ok l.toNat w' := fun k c => sliceBound_run h0 (by omega) w'
  unfold Instr.sliceBounds
  rcases hl with ⟨rfl, e1⟩ | ⟨k1, rfl⟩ <;> simp only [run_bind, run_pure, a0, a1, a2]
  simp [e1]

theorem slice_ok (hT : TabOk P T) {t : TypeId} {p : Pos} {a : AVal} {av : Value} (ha : VRel w O ad p a av) {lo hi mx : Option AVal} {lov hiv mxv : Option Value}
    (hlo : (lo = none ∧ lov = none) ∨ ∃ p a v, lo = some a ∧ lov = some v ∧ VRel w O ad p a v)
    (hhi : (hi = none ∧ hiv = none) ∨ ∃ p a v, hi = some a ∧ hiv = some v ∧ VRel w O ad p a v)
    (hmx : (mx = none ∧ mxv = none) ∨ ∃ p a v, mx = some a ∧ mxv = some v ∧ VRel w O ad p a v) (h : sliceK T t a lo hi mx K) : VOv P w O ad (Instr.sliceAt t av lov hiv mxv) K := by
  have at_ : ∀ d s1 s2 s3, T t = some ⟨d, s1, s2, s3⟩ → (∀ n e, d ≠ .array n e) → ∀ w', (Instr.sliceAt t av lov hiv mxv).run P w' = (Instr.slice t av lov hiv mxv).run P w' := by
    intro d s1 s2 s3 ht hd w'
    simp only [Instr.sliceAt, run_bind, run_underlying_of hT ht]
  have toB : ∀ {o : Option AVal} {ov : Option Value} {d q : Int}, ((o = none ∧ ov = none ∧ q = d) ∨ ∃ k, o.isSome = true ∧ ov = some (.int k q)) → (ov = none ∧ q = d) ∨ ∃ k, ov = some (.int k q) :=
    fun h => h.imp (fun h => h.2) (fun ⟨k, h⟩ => ⟨k, h.2⟩)
  unfold sliceK at h
  split at h
  · rename_i e si by_ z o1 sz nf n el ht
    split at h
    · rename_i s hs
      obtain ⟨te, hte, hsz⟩ := elemSize_of hs
      rcases hmx with ⟨_, rfl⟩ | ⟨_, _, _, hc, _, _⟩
      case inr => simp at hc
      obtain ⟨l, g1, hl⟩ := bound_ok hlo h
      clear h
      obtain ⟨q, g2, hq⟩ := bound_ok hhi g1
      clear g1
      replace g2 := needC g2
      obtain ⟨e1, ⟨h0, h1, h2⟩, hk⟩ := g2
      obtain rfl := beqE e1
      have run : ∀ (base : Option Addr) (cap : Nat), n ≤ cap → ∀ w', (Instr.slice t (.slice base n cap) lov hiv none).run P w' =
          .ok (.slice (if cap = l.toNat then base else base.map (·.add (l.toNat * sz))) (q - l).toNat (cap - l.toNat)) w' := by
        intro base cap hcap w'
        simp only [Instr.slice, run_bind, run_underlying_of hT ht, sliceBounds_run (toB hl) (toB hq) h0 h1 (show q ≤ (cap : Int) by omega), run_sizeOf_of hT hte, hsz, run_pure]
        congr 2; omega
      cases prel_of ha with
      | @lst _ _ _ _ B off cap vals hc hr hcap hf hn =>
        refine ⟨_, _, hk, ?_, fun w' _ => by rw [at_ _ _ _ _ ht (by simp) w']; exact run _ _ hcap w'⟩
        have e0 : (if cap = l.toNat then (some ⟨B, off, none⟩ : Option Addr) else (some (⟨B, off, none⟩ : Addr)).map (·.add (l.toNat * sz))) = some ⟨B, (if cap = l.toNat then off else off + l.toNat * sz), none⟩ := by
          split <;> simp [add_none]
        rw [e0]
        have hf2 : nfCut nf hi.isNone = .full ∨ nfCut nf hi.isNone = .fullAny → cap - l.toNat = (q - l).toNat := by
          intro hh
          obtain ⟨e0, e2⟩ := nfCut_full hh
          have e1 : hi = none := by cases hi <;> first | rfl | simp at e0
          have := hf e2
          rcases hq with ⟨_, _, e3⟩ | ⟨_, e3, _⟩
          · omega
          · simp [e1] at e3
        refine .pv (.lst (fun i j => vals (l.toNat + i) j) (fun i hi j hj => ?_) (fun i hi j hj => hr _ (by omega) j hj) (by omega) hf2 (nfCut_fits hn))
        rw [if_neg (by omega)]
        have := hc (l.toNat + i) (by omega) j hj
        rwa [Nat.add_mul, ← Nat.add_assoc] at this
      | lstNil hn hn' =>
        refine ⟨_, _, hk, ?_, fun w' _ => by rw [at_ _ _ _ _ ht (by simp) w']; exact run _ _ (Nat.le_refl _) w'⟩
        have e1 : l = 0 := by omega
        have e2 : q = 0 := by omega
        subst e1 e2
        exact .pv (.lstNil (nfCut_nn hn hn').1 (nfCut_nn hn hn').2)
      | lstE b hn =>
        refine ⟨_, _, hk, ?_, fun w' _ => by rw [at_ _ _ _ _ ht (by simp) w']; exact run _ _ (Nat.le_refl _) w'⟩
        have e1 : l = 0 := by omega
        have e2 : q = 0 := by omega
        subst e1 e2
        exact .pv (.lstE b (nfCut_fits hn))
    · rename_i s m hs
      obtain ⟨te, hte, hsz⟩ := elemSize_of hs
      obtain ⟨l, g1, hl⟩ := bound_ok hlo h
      clear h
      obtain ⟨q, g2, hq⟩ := bound_ok hhi g1
      clear g1
      obtain ⟨r, g3, hm⟩ := bound_ok hmx g2
      clear g2
      replace g3 := needC g3
      obtain ⟨hb', ⟨h0, h1, e2, h2⟩, hk⟩ := g3
      obtain ⟨e1, h3⟩ := andE hb'
      obtain rfl := beqE e1
      subst e2
      rcases hm with ⟨hm, _⟩ | ⟨km, _, rfl⟩
      · simp at hm
      rcases hq with ⟨hq, _⟩ | ⟨kq, _, rfl⟩
      · simp [hq] at h3
      have run : ∀ (base : Option Addr) (cap : Nat), n ≤ cap → ∀ w', (Instr.slice t (.slice base n cap) lov (some (.int kq q)) (some (.int km q))).run P w' =
          .ok (.slice (if q.toNat = l.toNat then base else base.map (·.add (l.toNat * sz))) (q - l).toNat (q - l).toNat) w' := by
        intro base cap hcap w'
        simp only [Instr.slice, run_bind, run_underlying_of hT ht, sliceBounds3_run (toB hl) h0 h1 (Int.le_refl q) (show q ≤ (cap : Int) by omega), run_sizeOf_of hT hte, hsz, run_pure]
        congr 2 <;> omega
      cases prel_of ha with
      | @lst _ _ _ _ B off cap vals hc hr hcap hf hn =>
        refine ⟨_, _, hk, ?_, fun w' _ => by rw [at_ _ _ _ _ ht (by simp) w']; exact run _ _ hcap w'⟩
        have e0 : (if q.toNat = l.toNat then (some ⟨B, off, none⟩ : Option Addr) else (some (⟨B, off, none⟩ : Addr)).map (·.add (l.toNat * sz))) = some ⟨B, (if q.toNat = l.toNat then off else off + l.toNat * sz), none⟩ := by
          split <;> simp [add_none]
        rw [e0]
        refine .pv (.lst (fun i j => vals (l.toNat + i) j) (fun i hi j hj => ?_) (fun i hi j hj => hr _ (by omega) j hj) (by omega) (fun _ => rfl) (nfCap_fits hn))
        rw [if_neg (by omega)]
        have := hc (l.toNat + i) (by omega) j hj
        rwa [Nat.add_mul, ← Nat.add_assoc] at this
      | lstNil hn hn' =>
        refine ⟨_, _, hk, ?_, fun w' _ => by rw [at_ _ _ _ _ ht (by simp) w']; exact run _ _ (Nat.le_refl _) w'⟩
        have e1 : l = 0 := by omega
        have e2 : q = 0 := by omega
        subst e1 e2
        exact .pv (.lstNil (nfCap_nn hn hn').1 (nfCap_nn hn hn').2)
      | lstE b hn =>
        refine ⟨_, _, hk, ?_, fun w' _ => by rw [at_ _ _ _ _ ht (by simp) w']; exact run _ _ (Nat.le_refl _) w'⟩
        have e1 : l = 0 := by omega
        have e2 : q = 0 := by omega
        subst e1 e2
        exact .pv (.lstE b (nfCap_fits hn))
    · exact h.elim
  · rename_i e si by_ z k sz off n ht
    split at h
    · rename_i s hs
      obtain ⟨te, hte, hsz⟩ := elemSize_of hs
      rcases hmx with ⟨_, rfl⟩ | ⟨_, _, _, hc, _, _⟩
      case inr => simp at hc
      obtain ⟨l, g1, hl⟩ := bound_ok hlo h
      clear h
      obtain ⟨q, g2, hq⟩ := bound_ok hhi g1
      clear g1
      replace g2 := needC g2
      obtain ⟨e1, ⟨h0, h1, h2⟩, hk⟩ := g2
      obtain rfl := beqE e1
      have run : ∀ (base : Option Addr) (cap : Nat), n ≤ cap → ∀ w', (Instr.slice t (.slice base n cap) lov hiv none).run P w' =
          .ok (.slice (if cap = l.toNat then base else base.map (·.add (l.toNat * sz))) (q - l).toNat (cap - l.toNat)) w' := by
        intro base cap hcap w'
        simp only [Instr.slice, run_bind, run_underlying_of hT ht, sliceBounds_run (toB hl) (toB hq) h0 h1 (show q ≤ (cap : Int) by omega), run_sizeOf_of hT hte, hsz, run_pure]
        congr 2; omega
      cases ha with
      | arrE hka hv =>
        have e1 : l = 0 := by omega
        have e2 : q = 0 := by omega
        subst e1 e2
        rcases hv with rfl | ⟨b, rfl⟩
        · exact ⟨_, .slice none 0 0, hk, .arrE hka (.inl rfl), fun w' _ => by rw [at_ _ _ _ _ ht (by simp) w']; exact run _ _ (Nat.le_refl _) w'⟩
        · exact ⟨_, .slice (some b) 0 0, hk, .arrE hka (.inr ⟨_, rfl⟩), fun w' _ => by rw [at_ _ _ _ _ ht (by simp) w']; exact run _ _ (Nat.le_refl _) w'⟩
      | @arr _ _ _ _ _ B cap hka hcap hrm =>
        by_cases h3 : cap = l.toNat
        · refine ⟨_, .slice (some ⟨B, off * sz, none⟩) 0 0, hk, ?_, fun w' _ => ?_⟩
          · rw [show (q - l).toNat = 0 by omega]; exact .arrE hka (.inr ⟨_, rfl⟩)
          · rw [at_ _ _ _ _ ht (by simp) w', run _ _ hcap w', if_pos h3, show (q - l).toNat = 0 by omega, show cap - l.toNat = 0 by omega]
        refine ⟨_, .slice (some ⟨B, (off + l.toNat) * sz, none⟩) (q - l).toNat (cap - l.toNat), hk, .arr hka (by omega) (by rw [show off + l.toNat + (cap - l.toNat) = off + cap by omega]; exact hrm), fun w' _ => ?_⟩
        rw [at_ _ _ _ _ ht (by simp) w']
        simp only [Instr.slice, run_bind, run_underlying_of hT ht, sliceBounds_run (toB hl) (toB hq) h0 h1 (show q ≤ (cap : Int) by omega), run_sizeOf_of hT hte, hsz, run_pure]
        rw [if_neg (by omega)]
        simp only [Option.map, add_none, Nat.add_mul]
        congr 2; omega
    · exact h.elim
  · rename_i si by_ z o1 s ht
    obtain rfl := str_of ha
    split at h
    · rcases hmx with ⟨_, rfl⟩ | ⟨_, _, _, hc, _, _⟩
      case inr => simp at hc
      obtain ⟨l, g1, hl⟩ := bound_ok hlo h
      clear h
      obtain ⟨q, g2, hq⟩ := bound_ok hhi g1
      clear g1
      obtain ⟨⟨h0, h1, h2⟩, hk⟩ := cndE g2
      refine ⟨_, _, hk, .pv (.str _), fun w' _ => ?_⟩
      rw [at_ _ _ _ _ ht (by simp) w']
      simp only [Instr.slice, run_bind, run_underlying_of hT ht, Option.isSome_none, Bool.false_eq_true, if_false, sliceBounds_run (toB hl) (toB hq) h0 h1 h2, run_pure]
    · exact h.elim
  · exact h.elim

theorem lenOf_run {t : Array TypeId} (hT : TabOk P T) {ty : TypeId} {args : Array Value} {p : Pos} {a : AVal} {v : Value} (ha : VRel w O ad p a v) (h0 : args[0]? = some v) (h : lenK T t (some a) K) :
    VOv P w O ad (Builtin.len_ t ty args) K := by
  unfold lenK at h
  split at h
  · exact h.elim
  · rename_i t0 ht0
    split at h
    · rename_i s1 s2 s3 o s e1 e2
      obtain rfl := Option.some.inj e2
      obtain rfl := str_of ha
      exact .now h (.pv (.int _ _)) fun w' => by simp only [Builtin.len_, ht0, h0, run_bind, run_underlying_of hT e1, run_pure]; rfl
    · rename_i e s1 s2 s3 o sz nf n el e1 e2
      obtain rfl := Option.some.inj e2
      cases prel_of ha with
      | lst => exact .now h (.pv (.int _ _)) fun w' => by simp only [Builtin.len_, ht0, h0, run_bind, run_underlying_of hT e1, run_pure]; rfl
      | lstNil => exact .now h (.pv (.int _ _)) fun w' => by simp only [Builtin.len_, ht0, h0, run_bind, run_underlying_of hT e1, run_pure]; rfl
      | lstE => exact .now h (.pv (.int _ _)) fun w' => by simp only [Builtin.len_, ht0, h0, run_bind, run_underlying_of hT e1, run_pure]; rfl
    · rename_i e s1 s2 s3 k sz off n e1 e2
      obtain rfl := Option.some.inj e2
      cases ha with
      | arrE _ hv => rcases hv with rfl | ⟨_, rfl⟩ <;> exact .now h (.pv (.int _ _)) fun w' => by simp only [Builtin.len_, ht0, h0, run_bind, run_underlying_of hT e1, run_pure]; rfl
      | arr => exact .now h (.pv (.int _ _)) fun w' => by simp only [Builtin.len_, ht0, h0, run_bind, run_underlying_of hT e1, run_pure]; rfl
    · rename_i e s1 s2 s3 k i n e1 e2
      obtain rfl := Option.some.inj e2
      cases ha with
      | subE _ hv => rcases hv with rfl | ⟨_, rfl⟩ <;> exact .now h (.pv (.int _ _)) fun w' => by simp only [Builtin.len_, ht0, h0, run_bind, run_underlying_of hT e1, run_pure]; rfl
      | sub => exact .now h (.pv (.int _ _)) fun w' => by simp only [Builtin.len_, ht0, h0, run_bind, run_underlying_of hT e1, run_pure]; rfl
    · rename_i n e s1 s2 s3 x e1 e2
      exact .now h (.pv (.int _ _)) fun w' => by simp only [Builtin.len_, ht0, h0, run_bind, run_underlying_of hT e1, run_pure]; rfl
    · exact h.elim

theorem nth_evAll {e : Operand → AVal} : ∀ {l : List Operand} {i : Nat} {x : AVal}, nth (evAll e l) i = some x → ∃ y, l[i]? = some y ∧ x = e y
  | [], _, _, h => by simp [evAll, nth] at h
  | y :: _, 0, x, h => by simp [evAll, nth] at h; exact ⟨y, rfl, h.symm⟩
  | _ :: r, n + 1, x, h => by simp only [evAll, nth] at h; obtain ⟨y, h1, h2⟩ := nth_evAll h; exact ⟨y, by simpa using h1, h2⟩

theorem length_evAll (e : Operand → AVal) : ∀ (l : List Operand), (evAll e l).length = l.length
  | [] => rfl
  | _ :: r => by simp [evAll, length_evAll e r]

theorem allPv_nth : ∀ {l : List AVal} {i : Nat} {x : AVal}, allPv l = true → nth l i = some x → ∃ o p, x = .pv o p
  | [], _, _, _, h => by simp [nth] at h
  | y :: r, 0, x, ha, h => by
    simp [nth] at h; subst h
    cases y <;> simp [allPv, isPv] at ha
    exact ⟨_, _, rfl⟩
  | y :: r, n + 1, x, ha, h => by
    simp only [nth] at h
    simp only [allPv, Bool.and_eq_true] at ha
    exact allPv_nth ha.2 h

theorem nth_some {α : Type} : ∀ {l : List α} {i : Nat}, i < l.length → ∃ x, nth l i = some x
  | [], _, h => by simp at h
  | x :: _, 0, _ => ⟨x, rfl⟩
  | _ :: r, n + 1, h => nth_some (l := r) (i := n) (by simpa using h)

theorem nth_shedL {x : AVal} : ∀ {l : List AVal} {i : Nat}, nth (shedL l) i = some x → ∃ y, nth l i = some y ∧ x = y.shed
  | [], _, h => by simp [shedL, nth] at h
  | y :: _, 0, h => by simp [shedL, nth] at h; exact ⟨y, rfl, h.symm⟩
  | _ :: r, n + 1, h => by simp only [shedL, nth] at h; exact nth_shedL (i := n) (l := r) h

theorem length_shedL : ∀ (l : List AVal), (shedL l).length = l.length
  | [] => rfl
  | _ :: r => by simp [shedL, length_shedL r]

/-- where an operand's value stands -/
def posOf : Operand → Pos
  | .tmp t => .tmp t
  | _ => .no

theorem getD_map' {e : Array Operand} {ρ : Operand → Value} {i : Nat} {y : Operand} (h : e.toList[i]? = some y) : (e.map ρ).getD i undef = ρ y := by
  have : e[i]? = some y := by simpa using h
  obtain ⟨hi, hy⟩ := Array.getElem?_eq_some_iff.1 this
  simp [Array.getD, hi, hy]

theorem makeFunc_ok {e : Operand → AVal} {ρ : Operand → Value} (he : ∀ x, VRel w O ad (posOf x) (e x) (ρ x)) {f : Nat} {first caps : Array Operand}
    (h : need (Nat.beq first.size 0) (bif allPv (evAll e caps.toList) then K (.pv false (.fn f (evAll e caps.toList).length (pvAt (evAll e caps.toList)))) else K (.fn f (shedL (evAll e caps.toList))))) :
    VOv P w O ad (Instr.makeFunc (.func f) (first.map ρ) (caps.map ρ)) K := by
  replace h := needE h
  obtain ⟨hf0, h⟩ := h
  obtain rfl := Array.size_eq_zero_iff.1 (beqE hf0)
  cases hall : allPv (evAll e caps.toList) with
  | true =>
    simp only [hall, cond_true] at h
    refine .now h (.pv (.fn (caps.map ρ) (by simp [length_evAll]) fun i hi => ?_)) fun w' => by simp [Instr.makeFunc, run_pure]
    obtain ⟨x, hx⟩ := nth_some hi
    obtain ⟨o, q, rfl⟩ := allPv_nth hall hx
    obtain ⟨y, hy, hyx⟩ := nth_evAll hx
    simp only [pvAt, hx, asPv]
    rw [getD_map' hy]
    have := he y
    rw [← hyx] at this
    exact prel_of this
  | false =>
    simp only [hall, cond_false] at h
    refine .now h (.fn (caps.map ρ) (by simp [length_shedL, length_evAll]) fun i x hx => ?_) fun w' => by simp [Instr.makeFunc, run_pure]
    obtain ⟨y, hy, rfl⟩ := nth_shedL hx
    obtain ⟨z, hz, rfl⟩ := nth_evAll hy
    rw [getD_map' hz]
    exact (he z).shed .no

/-- A list of cells and the machine's. -/
def CellsRel (w : World) (O : Nat → Own) (ad : List Nat) (cs : List AVal) (arr : Array Value) : Prop :=
  arr.size = cs.length ∧ ∀ i x, nth cs i = some x → VRel w O ad .no x (arr.getD i undef)

theorem prel_lst_one {sz n : Nat} {nf : NF} {el : Nat → Nat → PV} {v : Value} (h : PRel w O (.lst sz nf n el) v) : oneC v = true := by cases h <;> rfl

theorem prel_cptr_one {n : Nat} {c : Nat → PV} {j : Nat} {v : Value} (h : PRel w O (.cptr n c j) v) : oneC v = true := by cases h; rfl

theorem prel_one {x : PV} {v : Value} (h : PRel w O x v) : oneC v = true := by
  cases h <;> first | rfl | assumption | exact prel_lst_one ‹_› | exact prel_cptr_one ‹_›

theorem cells_one {v : Value} (h : oneC v = true) : v.cells = #[v] := by cases v <;> first | rfl | simp [oneC] at h

theorem nth_avCells {sz : Nat} {el : Nat → Nat → PV} : ∀ {m q i : Nat} {x : AVal}, nth (avCells sz el q m) i = some x → i < m ∧ x = .pv false (el ((q + i) / sz) ((q + i) % sz))
  | 0, q, i, x, h => by simp [avCells, nth] at h
  | m + 1, q, 0, x, h => by simp only [avCells, nth, Option.some.injEq] at h; exact ⟨by omega, h.symm⟩
  | m + 1, q, i + 1, x, h => by
    simp only [avCells, nth] at h
    obtain ⟨h1, h2⟩ := nth_avCells h
    exact ⟨by omega, by rw [h2, show q + 1 + i = q + (i + 1) by omega]⟩

theorem length_avCells {sz : Nat} {el : Nat → Nat → PV} : ∀ {m q : Nat}, (avCells sz el q m).length = m
  | 0, _ => rfl
  | m + 1, q => by simp [avCells, length_avCells]

theorem cells_rel {p : Pos} {a : AVal} {v : Value} (h : VRel w O ad p a v) (ht : a.told = true) : CellsRel w O ad (shedAll a.cells) v.cells := by
  have one : ∀ y : AVal, a.cells = [y] → oneC v = true → VRel w O ad .no y.shed1 v → CellsRel w O ad (shedAll a.cells) v.cells := by
    intro y hy ho hr
    rw [hy, cells_one ho]
    refine ⟨rfl, fun i x hx => ?_⟩
    cases i with
    | zero => simp [shedAll, nth] at hx; subst hx; exact hr
    | succ i => simp [shedAll, nth] at hx
  cases h with
  | pv h => exact one _ rfl (prel_one h) (.pv h)
  | own h ho => exact one _ rfl (prel_one h) (.pv h)
  | ptr h => exact one _ rfl rfl (.ptr h)
  | arrE h hv => rcases hv with rfl | ⟨a, rfl⟩ <;> exact one _ rfl rfl (.arrE h (by simp))
  | arr h hc hr => exact one _ rfl rfl (.arr h hc hr)
  | mref h => exact one _ rfl rfl (.mref h)
  | subE ha hv => rcases hv with rfl | ⟨_, rfl⟩ <;> exact one _ rfl rfl (.subE ha (by simp))
  | sub ha h hc => exact one _ rfl rfl (.sub ha h hc)
  | psub ha h => exact one _ rfl rfl (.psub ha h)
  | fn arr hs hr => exact one _ rfl rfl (.fn arr hs hr)
  | agg arr hs hr =>
    refine ⟨by rw [length_shedAll]; exact hs, fun i x hx => ?_⟩
    obtain ⟨y, hy, rfl⟩ := nth_shedAll hx
    exact (hr i y hy).shed1' (fun _ => rfl) (fun _ => rfl)
  | @av _ sz n el arr hs hr =>
    refine ⟨by rw [length_shedAll]; exact hs.trans length_avCells.symm, fun i x hx => ?_⟩
    obtain ⟨y, hy, rfl⟩ := nth_shedAll hx
    obtain ⟨h1, rfl⟩ := nth_avCells (show nth (avCells sz el 0 (n * sz)) i = some y from hy)
    have hs0 : 0 < sz := by
      rcases Nat.eq_zero_or_pos sz with h | h
      · subst h; rw [Nat.mul_zero] at h1; omega
      · exact h
    rw [Nat.zero_add]
    have := hr (i / sz) ((Nat.div_lt_iff_lt_mul hs0).2 h1) (i % sz) (Nat.mod_lt _ hs0)
    rw [Nat.mul_comm, Nat.div_add_mod] at this
    exact .pv this
  | tup => simp [AVal.told] at ht
  | undef => simp [AVal.told] at ht

theorem pvOf_rel {v : Value} (h : oneC v = true) : PRel w O (pvOf v) v := by
  cases v with
  | bool b => exact .bool _
  | int k n => exact .int _ _
  | string s => exact .str _
  | slice a n c =>
    cases a with
    | some a => exact .junk _ h
    | none =>
      simp only [pvOf]
      cases hc : (Nat.beq n 0 && Nat.beq c 0) with
      | false => exact .junk _ h
      | true =>
        rw [Bool.and_eq_true] at hc
        obtain rfl := Nat.eq_of_beq_eq_true hc.1
        obtain rfl := Nat.eq_of_beq_eq_true hc.2
        exact .lstNil (by simp) (by simp)
  | pointer a => cases a <;> first | exact .nilp | exact .junk _ h
  | map a => cases a <;> first | exact .nilm | exact .junk _ h
  | nilFunc => exact .nilf
  | nilIface => exact .nili
  | func f x y =>
    cases f with
    | func f =>
      simp only [pvOf]
      cases hc : (Nat.beq x.size 0 && Nat.beq y.size 0) with
      | false => exact .junk _ h
      | true =>
        rw [Bool.and_eq_true] at hc
        obtain rfl := Array.size_eq_zero_iff.1 (Nat.eq_of_beq_eq_true hc.1)
        obtain rfl := Array.size_eq_zero_iff.1 (Nat.eq_of_beq_eq_true hc.2)
        exact .fn #[] rfl (fun i hi => by omega)
    | _ => exact .junk _ h
  | _ => exact .junk _ h

theorem nth_avalsOf {x : AVal} : ∀ {l : List Value} {i : Nat}, nth (avalsOf l) i = some x → ∃ v, l[i]? = some v ∧ x = .pv false (pvOf v)
  | [], _, h => by simp [avalsOf, nth] at h
  | v :: _, 0, h => by simp [avalsOf, nth] at h; exact ⟨v, rfl, h.symm⟩
  | _ :: r, n + 1, h => by simp only [avalsOf, nth] at h; obtain ⟨y, h1, h2⟩ := nth_avalsOf h; exact ⟨y, by simpa using h1, h2⟩

theorem length_avalsOf : ∀ (l : List Value), (avalsOf l).length = l.length
  | [] => rfl
  | _ :: r => by simp [avalsOf, length_avalsOf r]

theorem avalOf_rel (p : Pos) (v : Value) : VRel w O ad p (avalOf v) v := by
  unfold avalOf
  split
  · rename_i cs
    cases hall : cs.toList.all oneC with
    | false => exact .undef _
    | true =>
      refine .agg cs (by simp [length_avalsOf]) (fun i x hx => ?_)
      obtain ⟨u, hu, rfl⟩ := nth_avalsOf hx
      have hu' : cs[i]? = some u := by simpa using hu
      obtain ⟨hi, hy⟩ := Array.getElem?_eq_some_iff.1 hu'
      have : oneC u = true := List.all_eq_true.1 hall u (by rw [← hy]; simp)
      simp only [Array.getD, hi, dif_pos]
      rw [show cs.getInternal i hi = u from hy]
      exact .pv (pvOf_rel this)
  · exact .undef _
  · rename_i h1 h2
    exact .pv (pvOf_rel (by cases v <;> simp_all [oneC]))

theorem foldl_set : ∀ (l : List Value) (k off : Nat) (arr : Array Value), off + k + l.length ≤ arr.size →
    let r := (l.zipIdx k).foldl (fun cs (x : Value × Nat) => cs.setIfInBounds (off + x.2) x.1) arr
    r.size = arr.size ∧ ∀ i, r.getD i undef = if off + k ≤ i ∧ i < off + k + l.length then l.getD (i - (off + k)) undef else arr.getD i undef
  | [], k, off, arr, _ => ⟨rfl, fun i => by simp; intro h1 h2; omega⟩
  | v :: l, k, off, arr, h => by
    obtain ⟨h1, h2⟩ := foldl_set l (k + 1) off (arr.setIfInBounds (off + k) v) (by simp at h ⊢; omega)
    refine ⟨by simpa using h1, fun i => ?_⟩
    have h3 := h2 i
    simp only [List.zipIdx_cons, List.foldl_cons]
    rw [h3]
    simp only [List.length_cons] at h ⊢
    by_cases hi : i = off + k
    · subst hi
      rw [if_neg (by omega), if_pos (by omega)]
      simp [Array.getD, show off + k < arr.size by omega]
    · by_cases hj : off + (k + 1) ≤ i ∧ i < off + (k + 1) + l.length
      · rw [if_pos hj, if_pos (by omega)]
        rw [show i - (off + k) = (i - (off + (k + 1))) + 1 by omega]
        simp
      · rw [if_neg hj, if_neg (by omega)]
        simp only [Array.getD, Array.size_setIfInBounds]
        split
        · rename_i hlt
          have : off + k ≠ i := fun e => hi e.symm
          exact Array.getElem_setIfInBounds_ne (by simpa using hlt) this
        · rfl

end
end Go.Proofs.Ytgghnfmabphbmaa.Fw
