/- Rows that are copied into. -/
import Derived.Test.YtgghnfmabphbmaaA12r
namespace Go.Proofs.Ytgghnfmabphbmaa.Fw
open Go
set_option linter.unusedSimpArgs false
set_option linter.unusedVariables false

/-- the cells of a row into which m elements are copied, from off on -/
def cpEl (off m : Nat) (el2 el : Nat → Nat → PV) (i j : Nat) : PV := bif Nat.ble off i && Nat.blt i (off + m) then el2 (i - off) j else el i j
def cpOw (off m : Nat) (ow : Nat → Nat → Bool) (i j : Nat) : Bool := bif Nat.ble off i && Nat.blt i (off + m) then false else ow i j

def copyK (te : TI) (cc : Bool) (st : St) (dst : Option Nat) (k sz off n sz2 n2 : Nat) (el2 : Nat → Nat → PV) (K : St → Prop) : Prop :=
  match nth st.heap k with
  | some (.row s m el ow) => need (Nat.beq sz s && (Nat.beq s te.size && (Nat.beq sz2 s && Nat.ble 1 s))) <| cnd cc (off + n ≤ m) <|
      K (St.put { st with heap := setBlkL st.heap k (.row s m (cpEl off (min n n2) el2 el) (cpOw off (min n n2) ow)) } dst (.pv false (.int .i64 ((min n n2 : Nat) : Int))))
  | _ => False

/-- copy: into a row of the call's own, from a list or such a row -/
def copyOp (T : Tab) (st : St) (dst : Option Nat) (ts : Array TypeId) (d x : AVal) (K : St → Prop) : Prop :=
  match (ts[0]?).bind T.f, d with
  | some ⟨.slice e, _, _, _⟩, .arr k sz off n =>
    match T e with
    | some te =>
      match x with
      | .pv _ (.lst sz2 _ n2 el2) => copyK te T.conc st dst k sz off n sz2 n2 el2 K
      | .arr k2 sz2 off2 n2 =>
        match nth st.heap k2 with
        | some (.row s2 m2 el2 _) => need (Nat.beq sz2 s2) <| cnd T.conc (off2 + n2 ≤ m2) <| copyK te T.conc st dst k sz off n sz2 n2 (fun i j => el2 (off2 + i) j) K
        | _ => False
      | _ => False
    | none => False
  | _, _ => False

section
variable {P : Program} {T : Tab} {w : World} {O : Nat → Own} {ad : List Nat} {st : St} {a : Act} {o : Oper} {Q : Exit → Act → World → Prop} {K : St → Prop}

theorem firstCells_take {sz n m : Nat} {nf : NF} {el : Nat → Nat → PV} {v : Value} (h : PRel w O (.lst sz nf n el) v) (hm : m ≤ n) :
    ∃ arr : Array Value, (∀ w' : World, w'.heap = w.heap → (Builtin.firstCells sz m v).run P w' = .ok arr w') ∧ arr.size = m * sz ∧ (∀ i, i < m → ∀ j, j < sz → PRel w O (el i j) (arr.getD (i * sz + j) undef)) ∧ ∀ u ∈ arr.toList, oneC u = true := by
  cases h with
  | @lst _ _ _ _ B off cap vals hc hr hcap hf hn =>
    obtain ⟨arr, h1, h2, h3, _, h5⟩ := firstCells_run (P := P) (PRel.lst (sz := sz) (nf := .any) (n := m) (el := el) (cap := cap) vals (fun i hi => hc i (by omega)) (fun i hi => hr i (by omega)) (by omega) (by simp) (by simp)) (size := sz) (.inr rfl)
    exact ⟨arr, fun w' hw' => h1 w' hw', h2, h3, h5⟩
  | lstNil hn hn' =>
    obtain rfl : m = 0 := by omega
    obtain ⟨arr, h1, h2, h3, _, h5⟩ := firstCells_run (P := P) (PRel.lstNil (w := w) (O := O) (sz := sz) (nf := nf) (el := el) hn hn') (size := sz) (.inr rfl)
    exact ⟨arr, h1, h2, h3, h5⟩
  | lstE b hn =>
    obtain rfl : m = 0 := by omega
    obtain ⟨arr, h1, h2, h3, _, h5⟩ := firstCells_run (P := P) (PRel.lstE (w := w) (O := O) (sz := sz) (nf := nf) (el := el) b hn) (size := sz) (.inr rfl)
    exact ⟨arr, h1, h2, h3, h5⟩

theorem copyK_ok (hT : TabOk P T) (hS : Sat st a w O ad) (hd : okDst st o.dst = true) {ts : Array TypeId} {d x : Operand} (ho : o.op = .call ⟨.builtin .copy, #[d, x], ts⟩) {e : TypeId} {te : TI} {s1 s2 : Nat} {s3 : Value}
    (ht : (ts[0]?).bind T.f = some ⟨.slice e, s1, s2, s3⟩) (hte : T e = some te) {cc : Bool} {k sz off n sz2 n2 : Nat} (hdv : ev st.env d = .arr k sz off n) {el2 : Nat → Nat → PV}
    (hlen : ∀ w' : World, (Builtin.lenOf (a.eval x)).run P w' = .ok n2 w')
    (hcells : sz2 = te.size → ∀ m, m ≤ n2 → ∃ arr : Array Value, (∀ w' : World, w'.heap = w.heap → (Builtin.firstCells sz2 m (a.eval x)).run P w' = .ok arr w') ∧ arr.size = m * sz2 ∧ (∀ i, i < m → ∀ j, j < sz2 → PRel w O (el2 i j) (arr.getD (i * sz2 + j) undef)) ∧ ∀ u ∈ arr.toList, oneC u = true)
    (h : copyK te cc st o.dst k sz off n sz2 n2 el2 K) {C : Nat → Shape} {fg : Nat} (hst2 : isStoreC C fg o.op = true) : OpOkC P C fg o a w O Q K := by
  unfold copyK at h
  split at h
  case h_2 => exact h.elim
  rename_i s m el ow hk
  obtain ⟨hb, hle, h⟩ := needC h
  obtain ⟨c1, hb⟩ := andE hb
  obtain ⟨c2, hb⟩ := andE hb
  obtain ⟨c3, c4⟩ := andE hb
  have c1 := beqE c1
  have c2 := beqE c2
  have c3 := beqE c3
  have c4 := bleE c4
  clear hb
  subst c1 c3
  have hdr := hS.ev d
  rw [hdv] at hdr
  have hts : ∃ t0, ts[0]? = some t0 ∧ T t0 = some ⟨.slice e, s1, s2, s3⟩ := by
    cases h0 : ts[0]? with
    | none => rw [h0] at ht; simp at ht
    | some t0 => rw [h0] at ht; exact ⟨t0, rfl, ht⟩
  obtain ⟨t0, hts⟩ := hts
  have hdv2 : (∃ B cap, nth ad k = some (B + 1) ∧ a.eval d = .slice (some ⟨B, off * sz2, none⟩) n cap) ∨ (n = 0 ∧ ∃ base, a.eval d = .slice base 0 0) := by
    revert hdr
    generalize a.eval d = dv
    intro hdr
    cases hdr with
    | @arr _ _ _ _ _ B' cap hB' _ _ => exact .inl ⟨B', cap, hB', rfl⟩
    | arrE _ hv => rcases hv with rfl | ⟨b, rfl⟩ <;> exact .inr ⟨rfl, _, rfl⟩
  rcases hdv2 with ⟨B, cap, hB, hval⟩ | ⟨rfl, base, hval⟩
  case inr =>
    obtain ⟨xa, x1, x2, x3, x4⟩ := hcells c2 0 (Nat.zero_le _)
    have hx0 : xa.toList = [] := by
      have : xa.size = 0 := by rw [x2]; simp
      have := Array.size_eq_zero_iff.1 this
      rw [this]
    have hm0 : min 0 n2 = 0 := Nat.zero_min _
    rw [hm0] at h
    have q2 := hS.rowEq (el' := cpEl off 0 el2 el) (ow' := cpOw off 0 ow) hk (fun i j => by
      have : (Nat.ble off i && Nat.blt i (off + 0)) = false := by
        rw [Bool.eq_false_iff]
        intro hh
        obtain ⟨h1, h2⟩ := andE hh
        have := bleE h1
        have := bltE h2
        omega
      constructor
      · show (bif _ then _ else _) = _
        rw [this]; rfl
      · show (bif _ then _ else _) = _
        rw [this]; rfl)
    rw [setBlkL_eq] at h
    have hrun : (execOp a.eval o).run P w = .ok (.value (.int .i64 ((0 : Nat) : Int))) w := by
      unfold execOp
      simp only [ho, resolve, run_bind, run_pure, invoke, builtin]
      have e0 : #[d, x].map a.eval = #[a.eval d, a.eval x] := by simp
      rw [e0]
      simp only [Builtin.copy_, hts.1, hval, run_bind, run_underlying_of hT hts.2]
      have e1 : (#[Value.slice base 0 0, a.eval x] : Array Value)[0]? = some (Value.slice base 0 0) := rfl
      have e2 : (#[Value.slice base 0 0, a.eval x] : Array Value)[1]? = some (a.eval x) := rfl
      simp only [e1, e2, run_bind, run_underlying_of hT hts.2, hlen, run_sizeOf_of hT hte]
      have e3 : Nat.min n2 0 = 0 := Nat.min_zero _
      rw [e3, ← c2, x1 w rfl]
      cases base with
      | none => simp only [run_bind, run_pure]; rfl
      | some b => simp only [run_bind, hx0, run_pure]; rfl
    exact OpOkC.value (ad' := ad) hrun h (q2.put (by cases hdd : o.dst <;> simp_all [okDst]) fun _ => .pv (.int _ _)) (Step.refl _ _) hst2
  obtain ⟨B', arr, ty, hB', hO, hw, hbs, hbc⟩ := hS.heap.cellsB hk rfl hB
  obtain rfl := hB'
  obtain ⟨xa, x1, x2, x3, x4⟩ := hcells c2 (min n n2) (Nat.min_le_right _ _)
  generalize hm' : min n n2 = mm at *
  have hmn : mm ≤ n := by omega
  have hfit : (off + mm) * sz2 ≤ arr.size := Nat.le_trans (Nat.mul_le_mul_right _ (by omega)) hbs
  obtain ⟨arr', g1, g2, g3⟩ := run_storeCells (P := P) (B := B) (o := off * sz2) (ty := ty) xa.toList 0 arr w hw (by
    have : xa.toList.length = mm * sz2 := by simpa using x2
    rw [this]; rw [Nat.add_mul] at hfit; omega) x4
  have hbr : BlkRel w O ad k arr' (.row sz2 m (cpEl off mm el2 el) (cpOw off mm ow)) := by
    refine ⟨by rw [g2]; exact hbs, fun i hi j hj => ?_⟩
    rw [g3, Nat.add_zero]
    have hxl : xa.toList.length = mm * sz2 := by simpa using x2
    rw [hxl]
    by_cases c : off ≤ i ∧ i < off + mm
    · have hc : (Nat.ble off i && Nat.blt i (off + mm)) = true := by
        rw [Bool.and_eq_true]
        exact ⟨Nat.ble_eq_true_of_le c.1, Nat.ble_eq_true_of_le c.2⟩
      have e1 := Nat.mul_le_mul_right sz2 c.1
      have e2 : i * sz2 + j < (off + mm) * sz2 := idx_lt c.2 hj
      rw [Nat.add_mul] at e2
      rw [if_pos (by omega)]
      have := x3 (i - off) (by omega) j hj
      have e3 : (i - off) * sz2 + j = i * sz2 + j - off * sz2 := by rw [Nat.sub_mul]; omega
      rw [e3] at this
      simp only [cpEl, cpOw, hc, cond_true]
      rw [getD_list]
      exact .pv this
    · have hc : (Nat.ble off i && Nat.blt i (off + mm)) = false := by
        rw [Bool.eq_false_iff]
        intro hh
        obtain ⟨h1, h2⟩ := andE hh
        exact c ⟨bleE h1, bltE h2⟩
      rw [if_neg]
      · simp only [cpEl, cpOw, hc, cond_false]
        exact hbc i hi j hj
      · rintro ⟨q1, q2⟩
        refine c ⟨?_, ?_⟩
        · rcases Nat.lt_or_ge i off with hh | hh
          · have := idx_lt (s := sz2) hh hj; omega
          · exact hh
        · rcases Nat.lt_or_ge i (off + mm) with hh | hh
          · exact hh
          · have := Nat.mul_le_mul_right sz2 hh; rw [Nat.add_mul] at this; omega
  obtain ⟨q1, q2⟩ := hS.store (k := k) hk hB hO hw g2 hbr
  rw [setBlkL_eq] at h
  have hrun : (execOp a.eval o).run P w = .ok (.value (.int .i64 (mm : Int))) (World.setBlk w B arr' ty) := by
    unfold execOp
    simp only [ho, resolve, run_bind, run_pure, invoke, builtin]
    have e0 : #[d, x].map a.eval = #[a.eval d, a.eval x] := by simp
    rw [e0]
    simp only [Builtin.copy_, hts.1, hval, run_bind, run_underlying_of hT hts.2]
    have e1 : (#[Value.slice (some ⟨B, off * sz2, none⟩) n cap, a.eval x] : Array Value)[0]? = some (Value.slice (some ⟨B, off * sz2, none⟩) n cap) := rfl
    have e2 : (#[Value.slice (some ⟨B, off * sz2, none⟩) n cap, a.eval x] : Array Value)[1]? = some (a.eval x) := rfl
    simp only [e1, e2, run_bind, run_underlying_of hT hts.2, hlen, run_sizeOf_of hT hte]
    have e3 : Nat.min n2 n = mm := by rw [← hm']; exact Nat.min_comm _ _
    rw [e3, ← c2, x1 w rfl]
    simp only [run_bind, g1, run_pure]
    rfl
  refine OpOkC.value (ad' := ad) hrun h (q2.put (by cases hdd : o.dst <;> simp_all [okDst]) fun _ => .pv (.int _ _)) q1 hst2

theorem copy_ok (hT : TabOk P T) (hS : Sat st a w O ad) (hd : okDst st o.dst = true) {ts : Array TypeId} {d x : Operand} (ho : o.op = .call ⟨.builtin .copy, #[d, x], ts⟩) {C : Nat → Shape} {fg : Nat} (hst2 : isStoreC C fg o.op = true)
    (h : copyOp T st o.dst ts (ev st.env d) (ev st.env x) K) : OpOkC P C fg o a w O Q K := by
  unfold copyOp at h
  split at h
  case h_2 => exact h.elim
  rename_i e s1 s2 s3 k sz off n ht hdv
  split at h
  case h_2 => exact h.elim
  rename_i te hte
  have hvx := hS.ev x
  split at h
  · rename_i o1 sz2 nf n2 el2 hx
    rw [hx] at hvx
    have hp := prel_of hvx
    refine copyK_ok hT hS hd ho ht hte hdv (fun w' => ?_) (fun _ m hm => firstCells_take hp hm) h hst2
    revert hp
    generalize a.eval x = xv
    intro hp
    cases hp <;> rfl
  · rename_i k2 sz2 off2 n2 hx
    rw [hx] at hvx
    split at h
    case h_2 => exact h.elim
    rename_i s2' m2 el2 ow2 hk2
    obtain ⟨c1, hle, hh⟩ := needC h
    clear h
    have c1 := beqE c1
    subst c1
    have hxv2 : (∃ B cap, nth ad k2 = some (B + 1) ∧ a.eval x = .slice (some ⟨B, off2 * sz2, none⟩) n2 cap) ∨ (n2 = 0 ∧ ∃ base, a.eval x = .slice base 0 0) := by
      revert hvx
      generalize a.eval x = dv
      intro hvx
      cases hvx with
      | @arr _ _ _ _ _ B' cap hB' _ _ => exact .inl ⟨B', cap, hB', rfl⟩
      | arrE _ hv => rcases hv with rfl | ⟨b, rfl⟩ <;> exact .inr ⟨rfl, _, rfl⟩
    rcases hxv2 with ⟨B2, cap, hB2, hval⟩ | ⟨rfl, base, hval⟩
    case inr =>
      refine copyK_ok hT hS hd ho ht hte hdv (fun w' => by rw [hval]; rfl) (fun hz m hm => ?_) hh hst2
      obtain rfl : m = 0 := by omega
      exact ⟨#[], fun w' _ => by rw [hval]; cases base <;> simp [Builtin.firstCells, loadCells, loadCellsFrom, run_pure], by simp, fun i hi => by omega, fun u hu => by simp at hu⟩
    obtain ⟨B2', arr2, ty2, hB2', hO2, hw2, hbs2, hbc2⟩ := hS.heap.cellsB hk2 rfl hB2
    obtain rfl := hB2'
    refine copyK_ok hT hS hd ho ht hte hdv (fun w' => by rw [hval]; rfl) (fun hz m hm => ?_) hh hst2
    have hfit : (off2 + m) * sz2 ≤ arr2.size := Nat.le_trans (Nat.mul_le_mul_right _ (by omega)) hbs2
    rw [Nat.add_mul] at hfit
    refine ⟨((List.range (m * sz2)).map fun q => arr2.getD (off2 * sz2 + q) undef).toArray, fun w' hw' => ?_, by simp, fun i hi j hj => ?_, fun u hu => ?_⟩
    · rw [hval]
      refine run_loadCells (f := fun q => arr2.getD (off2 * sz2 + q) undef) (fun q hq => ?_)
      have : w'.heap[B2]? = some (.cells arr2 ty2 (0, 0)) := by rw [hw']; exact hw2
      exact cell_of_block' this (by omega)
    · rw [getD_map_range _ (idx_lt hi hj)]
      have := prel_of (hbc2 (off2 + i) (by omega) j hj)
      rwa [Nat.add_mul, Nat.add_assoc] at this
    · obtain ⟨q, hq, rfl⟩ := List.getElem_of_mem hu
      have hq' : q < m * sz2 := by simpa using hq
      have hs0 : 0 < sz2 := by
        rcases Nat.eq_zero_or_pos sz2 with h0 | h0
        · subst h0; rw [Nat.mul_zero] at hq'; omega
        · exact h0
      have h3 := hbc2 (off2 + q / sz2) (by have := (Nat.div_lt_iff_lt_mul hs0).2 hq'; omega) (q % sz2) (Nat.mod_lt _ hs0)
      rw [Nat.add_mul, Nat.add_assoc, show q / sz2 * sz2 + q % sz2 = q by rw [Nat.mul_comm]; exact Nat.div_add_mod _ _] at h3
      have := prel_one (prel_of h3)
      simpa using this
  · exact h.elim

end
end Go.Proofs.Ytgghnfmabphbmaa.Fw
