/- The operations that leave memory alone do what the executor says. -/
import Derived.Test.YtgghnfmabphbmaaA2
import Derived.Laws.Slices
namespace Go.Proofs.Ytgghnfmabphbmaa.Fw
open Go

/-- The operation's run ends, in every world that agrees on what is told, with one value, of which K holds. -/
def VOk (P : Program) (w : World) (O : Nat → Own) (ad : List Nat) (R : Sem Next) (K : AVal → Prop) : Prop :=
  ∃ x rv, K x ∧ VRel w O ad .no x rv ∧ ∀ w', Agree O w w' → R.run P w' = .ok (.value rv) w'

/-- the same of a value's own run -/
def VOv (P : Program) (w : World) (O : Nat → Own) (ad : List Nat) (R : Sem Value) (K : AVal → Prop) : Prop :=
  ∃ x rv, K x ∧ VRel w O ad .no x rv ∧ ∀ w', Agree O w w' → R.run P w' = .ok rv w'

theorem run_bind {α β : Type} (P : Program) (x : Sem α) (f : α → Sem β) (w : World) : (x >>= f).run P w = match x.run P w with
    | .ok a w' => (f a).run P w'
    | .halt h w' => .halt h w' := by
  show (x.bind f).run P w = _
  induction x generalizing w with
  | pure a => rfl
  | load m a k ih => simp only [Sem.bind, Sem.run]; (repeat' split) <;> simp_all
  | store m a v k ih => cases v <;> simp only [Sem.bind, Sem.run] <;> (repeat' split) <;> simp_all
  | new o k ih => simp [Sem.bind, Sem.run, ih]
  | shape r k ih => simp [Sem.bind, Sem.run, ih]
  | freeze a n k ih => simp [Sem.bind, Sem.run, ih]
  | frozen a k ih => simp [Sem.bind, Sem.run, ih]
  | getObj r k ih => simp only [Sem.bind, Sem.run]; (repeat' split) <;> simp_all
  | setObj r o k ih => simp only [Sem.bind, Sem.run]; (repeat' split) <;> simp_all
  | choose q k ih => simp only [Sem.bind, Sem.run]; (repeat' split) <;> simp_all
  | sys c k ih => simp [Sem.bind, Sem.run, ih]
  | program k ih => simp [Sem.bind, Sem.run, ih]
  | mark m k ih => simp [Sem.bind, Sem.run, ih]
  | halt h => simp [Sem.bind, Sem.run]

theorem run_pure {α : Type} (P : Program) (a : α) (w : World) : (pure a : Sem α).run P w = .ok a w := rfl

theorem VOk.of_value {P : Program} {w : World} {O : Nat → Own} {ad : List Nat} {R : Sem Value} {K : AVal → Prop} (h : VOv P w O ad R K) :
    VOk P w O ad (do pure (.value (← R))) K := by
  obtain ⟨x, rv, hk, hr, hrun⟩ := h
  exact ⟨x, rv, hk, hr, fun w' hw => by rw [run_bind, hrun w' hw]; rfl⟩

theorem VOv.pure {P : Program} {w : World} {O : Nat → Own} {ad : List Nat} {K : AVal → Prop} {x : AVal} {rv : Value} (hk : K x) (hr : VRel w O ad .no x rv) :
    VOv P w O ad (Pure.pure rv) K := ⟨x, rv, hk, hr, fun _ _ => rfl⟩

theorem run_underlying_of {P : Program} {T : Tab} (hT : TabOk P T) {t : TypeId} {x : TI} (h : T t = some x) (w : World) : (underlying t).run P w = .ok x.desc w := by
  have := (hT.ok t x h).1
  simp [underlying, program, Sem.run, bind, Sem.bind, this, pure]

theorem run_typeInfo_of {P : Program} {T : Tab} (hT : TabOk P T) {t : TypeId} {x : TI} (h : T t = some x) : ∃ i, i.size = x.size ∧ i.bytes = x.bytes ∧ i.zero = some x.zero ∧ ∀ w, (typeInfo t).run P w = .ok i w := by
  obtain ⟨_, i, hi, h1, h2, h3⟩ := hT.ok t x h
  exact ⟨i, h1, h2, h3, fun w => by simp [typeInfo, program, Sem.run, bind, Sem.bind, hi, pure]⟩

theorem run_sizeOf_of {P : Program} {T : Tab} (hT : TabOk P T) {t : TypeId} {x : TI} (h : T t = some x) (w : World) : (sizeOf t).run P w = .ok x.size w := by
  obtain ⟨i, h1, _, _, hr⟩ := run_typeInfo_of hT h
  unfold sizeOf; rw [run_bind, hr w]; simp [run_pure, h1]

theorem run_isAgg_of {P : Program} {T : Tab} (hT : TabOk P T) {t : TypeId} {x : TI} (h : T t = some x) (w : World) : (Go.isAgg t).run P w = .ok (isAgg x.desc) w := by
  unfold Go.isAgg; rw [run_bind, run_underlying_of hT h]
  cases x.desc <;> rfl

theorem add_none (B o k : Nat) : (⟨B, o, none⟩ : Addr).add k = ⟨B, o + k, none⟩ := by
  unfold Addr.add; split
  · rename_i h; subst h; rfl
  · rfl

theorem run_load_cell {P : Program} {w : World} {a : Addr} {v : Value} (h : w.cell? a = some v) : (Go.load a).run P w = .ok v w := by
  simp [Go.load, Sem.run, h]

theorem run_loadCellsFrom {P : Program} {w : World} {B o : Nat} {f : Nat → Value} : ∀ (n i : Nat) (acc : Array Value), (∀ j, j < n → w.cell? ⟨B, o + (i + j), none⟩ = some (f (i + j))) →
    (loadCellsFrom ⟨B, o, none⟩ i n acc).run P w = .ok (acc ++ ((List.range n).map fun j => f (i + j)).toArray) w
  | 0, i, acc, _ => by simp [loadCellsFrom, run_pure]
  | n + 1, i, acc, h => by
    unfold loadCellsFrom
    have h0 := h 0 (by omega)
    rw [run_bind, add_none]
    rw [run_load_cell (v := f i) (by simpa using h0)]
    simp only
    rw [run_loadCellsFrom n (i + 1) _ (fun j hj => by have := h (j + 1) (by omega); rw [show i + 1 + j = i + (j + 1) from by omega]; exact this)]
    congr 1
    rw [List.range_succ_eq_map, List.map_cons, List.map_map]
    apply Array.ext'
    simp [Function.comp_def, Nat.add_assoc, Nat.add_comm 1]

theorem run_loadCells {P : Program} {w : World} {B o n : Nat} {f : Nat → Value} (h : ∀ j, j < n → w.cell? ⟨B, o + j, none⟩ = some (f j)) :
    (loadCells ⟨B, o, none⟩ n).run P w = .ok ((List.range n).map f).toArray w := by
  unfold loadCells
  rw [run_loadCellsFrom (f := f) n 0 #[] (fun j hj => by simpa using h j hj)]
  simp

theorem getD_map_range {n i : Nat} (f : Nat → Value) (h : i < n) : (((List.range n).map f).toArray).getD i undef = f i := by
  simp [Array.getD, h]

theorem nth_cellsFrom {c : Nat → PV} : ∀ {n j i : Nat} {x : AVal}, nth (cellsFrom c j n) i = some x → i < n ∧ x = .pv false (c (j + i))
  | 0, _, _, _, h => by simp [cellsFrom, nth] at h
  | n + 1, j, 0, x, h => by simp [cellsFrom, nth] at h; exact ⟨by omega, by rw [← h]; rfl⟩
  | n + 1, j, i + 1, x, h => by
    simp only [cellsFrom, nth] at h
    obtain ⟨h1, h2⟩ := nth_cellsFrom h
    exact ⟨by omega, by rw [h2]; congr 2; omega⟩

theorem length_cellsFrom (c : Nat → PV) : ∀ (n j : Nat), (cellsFrom c j n).length = n
  | 0, _ => rfl
  | n + 1, j => by simp [cellsFrom, length_cellsFrom c n]

theorem VRel.agg_cells {w : World} {O : Nat → Own} {ad : List Nat} {p : Pos} {c : Nat → PV} {j n : Nat} {f : Nat → Value} (h : ∀ i, i < n → PRel w O (c (j + i)) (f i)) :
    VRel w O ad p (.agg (cellsFrom c j n)) (.agg ((List.range n).map f).toArray) := by
  refine .agg _ (by simp [length_cellsFrom]) ?_
  intro i x hx
  obtain ⟨hi, rfl⟩ := nth_cellsFrom hx
  rw [getD_map_range f hi]
  exact .pv (h i hi)

/-- a part of a list of cells, and the same part of the machine's cells -/
theorem part_spec {cs : List AVal} : ∀ {n j : Nat} {l : List AVal}, part cs j n = some l → l.length = n ∧ ∀ i, i < n → ∃ y, nth cs (j + i) = some y ∧ nth l i = some y.shed
  | 0, j, l, h => by simp [part] at h; subst h; exact ⟨rfl, fun i hi => by omega⟩
  | n + 1, j, l, h => by
    simp only [part] at h
    split at h
    · rename_i v r hv hr
      obtain ⟨h1, h2⟩ := part_spec hr
      simp only [Option.some.injEq] at h; subst h
      refine ⟨by simp [h1], fun i hi => ?_⟩
      cases i with
      | zero => exact ⟨v, by simpa using hv, rfl⟩
      | succ i => obtain ⟨y, hy, hz⟩ := h2 i (by omega); exact ⟨y, by rw [show j + (i + 1) = j + 1 + i from by omega]; exact hy, by simpa [nth] using hz⟩
    · simp at h

theorem im_live {O : Nat → Own} {B o : Nat} (h : im O B o) : live O B o := by
  unfold im at h
  unfold live
  cases hO : O B <;> simp_all

theorem run_load_agg {P : Program} {T : Tab} (hT : TabOk P T) {t : TypeId} {ti : TI} (hti : T t = some ti) (hag : isAgg ti.desc = true) {w : World} {B o : Nat} {f : Nat → Value}
    (hc : ∀ i, i < ti.size → w.cell? ⟨B, o + i, none⟩ = some (f i)) : (Instr.loadAt t (.pointer (some ⟨B, o, none⟩))).run P w = .ok (.agg ((List.range ti.size).map f).toArray) w := by
  simp only [Instr.loadAt, Instr.sureAddr, loadVar]
  rw [run_bind, run_pure]; simp only
  rw [run_bind, run_isAgg_of hT hti, hag]; simp only [if_true]
  rw [run_bind, run_sizeOf_of hT hti]; simp only
  rw [run_bind, run_loadCells (f := f) hc]
  rfl

theorem run_load_one {P : Program} {T : Tab} (hT : TabOk P T) {t : TypeId} {ti : TI} (hti : T t = some ti) (hag : isAgg ti.desc = false) {w : World} {B o : Nat} {v : Value}
    (hc : w.cell? ⟨B, o, none⟩ = some v) : (Instr.loadAt t (.pointer (some ⟨B, o, none⟩))).run P w = .ok v w := by
  simp only [Instr.loadAt, Instr.sureAddr, loadVar]
  rw [run_bind, run_pure]; simp only
  rw [run_bind, run_isAgg_of hT hti, hag]; simp only [Bool.false_eq_true, if_false]
  exact run_load_cell hc

theorem load_ok {P : Program} {T : Tab} (hT : TabOk P T) {w : World} {O : Nat → Own} {ad : List Nat} {H : List Blk} (hU : Uni O) (hH : HeapRel w O ad H) {t : TypeId} {p : Pos} {a : AVal} {av : Value}
    (ha : VRel w O ad p a av) {K : AVal → Prop} (h : loadK T H t a K) : VOv P w O ad (Instr.loadAt t av) K := by
  unfold loadK at h
  cases hti : T t with
  | none => simp [hti] at h
  | some ti =>
    simp only [hti] at h
    cases ha with
    | @pv _ x _ hp =>
      cases hp with
      | @cptr n c j B off vals hc hr =>
        simp only at h
        have one : isAgg ti.desc = false → j < n → K (.pv false (c j)) → VOv P w O ad (Instr.loadAt t (.pointer (some ⟨B, off + j, none⟩))) K := fun hag hj hk =>
          ⟨_, _, hk, .pv (hr j hj), fun w' hw => run_load_one hT hti hag (by rw [hw _ _ (cell_lt (hc j hj).1) (im_live (hc j hj).2)]; exact (hc j hj).1)⟩
        have agg : ∀ w', Agree O w w' → j + ti.size ≤ n → isAgg ti.desc = true → (Instr.loadAt t (.pointer (some ⟨B, off + j, none⟩))).run P w' = .ok (.agg ((List.range ti.size).map fun i => vals (j + i)).toArray) w' :=
          fun w' hw hj hag => run_load_agg hT hti hag (fun i hi => by
            have := hc (j + i) (by omega)
            rw [Nat.add_assoc, hw _ _ (cell_lt this.1) (im_live this.2)]; exact this.1)
        split at h
        · rename_i fs hd
          replace h := needE h
          obtain ⟨h1, h2⟩ := h
          have h1 := bleE h1
          exact ⟨_, _, h2, .agg_cells (fun i hi => hr (j + i) (by omega)), fun w' hw => agg w' hw h1 (by rw [hd]; rfl)⟩
        · rename_i len e hd
          split at h
          · rename_i te hte
            replace h := needE h
            obtain ⟨hb, h2⟩ := h
            obtain ⟨h0, h1⟩ := andE hb
            have h0 := beqE h0
            have h1 := bleE h1
            refine ⟨_, _, h2, .av _ (by simp [h0]) ?_, fun w' hw => agg w' hw h1 (by rw [hd]; rfl)⟩
            intro i hi l hl
            have hlt : i * te.size + l < ti.size := by
              rw [h0]; calc i * te.size + l < i * te.size + te.size := by omega
                _ = (i + 1) * te.size := by rw [Nat.add_mul, Nat.one_mul]
                _ ≤ len * te.size := Nat.mul_le_mul_right _ (by omega)
            rw [getD_map_range _ hlt]
            have := hr (j + (i * te.size + l)) (by omega)
            rwa [← Nat.add_assoc] at this ⊢
          · exact h.elim
        · rename_i h1 h2
          replace h := needE h
          obtain ⟨h3, h4⟩ := h
          exact one (by cases hd : ti.desc <;> simp_all [isAgg]) (bltE h3) h4
      | _ => simp at h
    | own hp ho => simp at h
    | @ptr _ k sz i j B hk =>
      simp only at h
      split at h
      · rename_i cs hb
        obtain ⟨B', arr, ty, hk', hO, hbl, hs, hcs⟩ := hH.cells hb rfl (fun h => h)
        rw [hk] at hk'; obtain rfl := Nat.succ.inj (Option.some.inj hk')
        have cell : ∀ q y, nth cs q = some y → ∀ w', Agree O w w' → w'.cell? ⟨B, q, none⟩ = some (arr.getD q undef) := by
          intro q y hq w' hw
          rw [hw _ _ (Array.getElem?_eq_some_iff.1 hbl).1 (live_blk hO _)]
          exact cell_of_block' hbl (by rw [hs]; exact nth_lt hq)
        split at h
        · rename_i fs hd
          split at h
          · rename_i l hl
            obtain ⟨h1, h2⟩ := part_spec hl
            refine ⟨_, .agg ((List.range ti.size).map fun q => arr.getD (i * sz + j + q) undef).toArray, h, .agg _ (by simp [h1]) ?_, fun w' hw => run_load_agg hT hti (by rw [hd]; rfl) (fun q hq => ?_)⟩
            · intro q x hx
              have hq : q < ti.size := by have := nth_lt hx; omega
              rw [getD_map_range _ hq]
              obtain ⟨y, hy, hz⟩ := h2 q hq
              rw [hz] at hx; obtain rfl := Option.some.inj hx
              exact (hcs _ y hy).shed _
            · obtain ⟨y, hy, _⟩ := h2 q hq
              exact cell _ y hy w' hw
          · exact h.elim
        · exact h.elim
        · rename_i h1 h2
          split at h
          · rename_i v hv
            exact ⟨_, _, h, (hcs _ v hv).shed _, fun w' hw => run_load_one hT hti (by cases hd : ti.desc <;> simp_all [isAgg]) (cell _ v hv w' hw)⟩
          · exact h.elim
      · rename_i s n el ow hb
        obtain ⟨B', arr, ty, hk', hO, hbl, hs, hcs⟩ := hH.cellsB hb rfl hk
        obtain rfl := hk'
        have cell : ∀ q, q < n * s → ∀ w', Agree O w w' → w'.cell? ⟨B, q, none⟩ = some (arr.getD q undef) := by
          intro q hq w' hw
          rw [hw _ _ (Array.getElem?_eq_some_iff.1 hbl).1 (live_blk hO _)]
          exact cell_of_block' hbl (Nat.lt_of_lt_of_le hq hs)
        have lt : ∀ i l, i < n → l < s → i * s + l < n * s := fun i l hi hl => by
          calc i * s + l < i * s + s := by omega
            _ = (i + 1) * s := by rw [Nat.add_mul, Nat.one_mul]
            _ ≤ n * s := Nat.mul_le_mul_right _ (by omega)
        have pr : ∀ i l, i < n → l < s → PRel w O (el i l) (arr.getD (i * s + l) undef) := fun i l hi hl => by
          have h0 := hcs i hi l hl
          revert h0
          generalize arr.getD (i * s + l) undef = u
          generalize ow i l = b
          generalize el i l = e
          intro h0
          cases h0 with
          | pv h => exact h
          | own h _ => exact h
        split at h
        · rename_i fs hd
          replace h := needC h
          obtain ⟨hb, hi, h⟩ := h
          obtain ⟨e1, hj⟩ := andE hb
          obtain rfl := beqE e1
          have hj := bleE hj
          refine ⟨_, .agg ((List.range ti.size).map fun q => arr.getD (i * sz + (j + q)) undef).toArray, h, .agg_cells (fun q hq => pr i (j + q) hi (by omega)), fun w' hw => run_load_agg hT hti (by rw [hd]; rfl) (fun q hq => ?_)⟩
          rw [Nat.add_assoc]
          exact cell _ (lt i _ hi (by omega)) w' hw
        · rename_i len e hd
          replace h := needE h
          obtain ⟨hb, h⟩ := h
          obtain ⟨e1, hb⟩ := andE hb
          obtain ⟨e2, hb⟩ := andE hb
          obtain ⟨e3, hb⟩ := andE hb
          obtain ⟨e4, h0⟩ := andE hb
          obtain rfl := beqE e1
          obtain rfl := beqE e2
          obtain rfl := beqE e3
          obtain rfl := beqE e4
          have h0 := beqE h0
          refine ⟨_, .agg ((List.range ti.size).map fun q => arr.getD (0 * sz + 0 + q) undef).toArray, h, .av _ (by simp [h0]) (fun i hi l hl => ?_), fun w' hw => run_load_agg hT hti (by rw [hd]; rfl) (fun q hq => ?_)⟩
          · rw [getD_map_range _ (by rw [h0]; exact lt i l hi hl)]
            simpa using pr i l hi hl
          · simpa using cell q (by omega) w' hw
        · rename_i h1 h2
          replace h := needC h
          obtain ⟨hb, hi, h⟩ := h
          obtain ⟨e1, hj⟩ := andE hb
          obtain rfl := beqE e1
          have hj := bltE hj
          exact ⟨_, _, h, .pv (pr i j hi hj), fun w' hw => run_load_one hT hti (by cases hd : ti.desc <;> simp_all [isAgg]) (cell _ (lt i j hi hj) w' hw)⟩
      · rename_i n m el hb
        obtain ⟨B', arr, ty, hk', hO, hbl, hs, hcs⟩ := hH.cellsB hb rfl hk
        obtain rfl := hk'
        replace h := needC h
        obtain ⟨hb', hi, h⟩ := h
        obtain ⟨e1, hb'⟩ := andE hb'
        obtain ⟨e2, hag⟩ := andE hb'
        obtain rfl := beqE e1
        obtain rfl := beqE e2
        have hag : isAgg ti.desc = false := by simpa using hag
        have cell : ∀ w', Agree O w w' → w'.cell? ⟨B, i * 1 + 0, none⟩ = some (arr.getD i undef) := by
          intro w' hw
          rw [show i * 1 + 0 = i by omega, hw _ _ (Array.getElem?_eq_some_iff.1 hbl).1 (live_blk hO _)]
          exact cell_of_block' hbl (by omega)
        refine ⟨_, _, h, ?_, fun w' hw => run_load_one hT hti hag (cell w' hw)⟩
        rcases hcs i hi with ⟨h0, hv⟩ | ⟨B2, cap, arr2, ty2, hv, h1, h2, h3, h4, h5⟩
        · rw [h0]; exact .subE hk hv
        · rw [hv]; exact .sub hk h1 h3
      · exact h.elim
    | @psub _ k i j B c ha hO =>
      simp only at h
      split at h
      · rename_i n m el hb
        obtain ⟨B0, arr, ty, hk', hO', hbl, hs, hcs⟩ := hH.cells hb rfl (fun h => h)
        obtain ⟨hag, ⟨hi, hj⟩, h⟩ := needC h
        have hag : isAgg ti.desc = false := by simpa using hag
        rcases hcs i hi with ⟨h0, hv⟩ | ⟨B2, cap, arr2, ty2, hv, h1, h2, h3, h4, h5⟩
        · omega
        · obtain rfl := hU _ _ _ _ hO h1
          refine ⟨_, arr2.getD j undef, h, .pv (h5 j hj), fun w' hw => run_load_one hT hti hag ?_⟩
          rw [hw _ _ (Array.getElem?_eq_some_iff.1 h2).1 (by simp [live, hO])]
          exact cell_of_block' h2 (by omega)
      · exact h.elim
    | _ => simp at h

end Go.Proofs.Ytgghnfmabphbmaa.Fw
