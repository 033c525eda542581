/- append. -/
import Derived.Test.YtgghnfmabphbmaaA10
namespace Go.Proofs.Ytgghnfmabphbmaa.Fw
open Go
set_option linter.unusedSimpArgs false
set_option linter.unusedVariables false

def appendable (own : Bool) (nf : NF) : Bool :=
  own || match nf with
    | .isNil | .full | .fullAny => true
    | _ => false

/-- what has been appended to -/
def appEl (n : Nat) (el el2 : Nat → Nat → PV) (i j : Nat) : PV := bif Nat.blt i n then el i j else el2 (i - n) j

/-- the state in which the operand's value owns nothing any more -/
def demote (st : St) (x : Operand) : St :=
  match ownTmp st.env x with
  | some t => { st with env := (t, (get st.env t).shed) :: st.env }
  | none => st

/-- fl = 2: memory of the call's own (out of nothing) -/
def appendOp (T : Tab) (fl : Nat) (st : St) (dst : Option Nat) (ts : Array TypeId) (s x : Operand) (K : St → Prop) : Prop :=
  match (ts[0]?).bind T.f, (ts[1]?).bind T.f, ev st.env s, ev st.env x with
  | some ⟨.slice e, _, _, _⟩, some ⟨.slice _, _, _, _⟩, .pv own (.lst sz nf n el), .pv _ (.lst sz2 _ m el2) =>
    match T e with
    | some te => need (appendable own nf && ((Nat.beq sz te.size || (!own && Nat.beq n 0)) && ((Nat.beq sz2 te.size || Nat.beq m 0) && ((avalOf te.zero).told && (Nat.beq (avalOf te.zero).cells.length te.size && Nat.ble 1 te.size))))) <|
        cnd T.conc (n + m ≤ 2 ^ 47 ∧ (n + m) * te.bytes ≤ 2 ^ 47) <|
        (bif Nat.beq fl 2 then cnd T.conc (n = 0 ∧ (nf = .isNil ∨ nf = .full ∨ nf = .fullAny)) <| K (St.put { st with heap := st.heap ++ [.row te.size (n + m) (appEl n el el2) fun _ _ => false] } dst (.arr st.heap.length te.size 0 (n + m)))
         else need dst.isSome (K ((demote st s).put dst (.pv true (.lst te.size .any (n + m) (appEl n el el2))))))
    | none => False
  | _, _, _, _ => False

section
variable {P : Program} {T : Tab} {w : World} {O : Nat → Own} {ad : List Nat} {st : St} {a : Act} {o : Oper} {Q : Exit → Act → World → Prop} {K : St → Prop}

/-- the cells of a slice that is read -/
theorem firstCells_run {sz n : Nat} {nf : NF} {el : Nat → Nat → PV} {v : Value} (h : PRel w O (.lst sz nf n el) v) {size : Nat} (hs : n = 0 ∨ sz = size) :
    ∃ arr : Array Value, (∀ w' : World, w'.heap = w.heap → (Builtin.firstCells size n v).run P w' = .ok arr w') ∧ arr.size = n * size ∧ (∀ i, i < n → ∀ j, j < size → PRel w O (el i j) (arr.getD (i * size + j) undef)) ∧
      (∀ B off c, v = .slice (some ⟨B, off, none⟩) n c → ∀ q, q < n * size → w.cell? ⟨B, off + q, none⟩ = some (arr.getD q undef)) ∧ ∀ u ∈ arr.toList, oneC u = true := by
  have hpos : ∀ q, q < n * size → 0 < size ∧ q / size < n ∧ q % size < size ∧ q / size * size + q % size = q := by
    intro q hq
    have h0 : 0 < size := by
      rcases Nat.eq_zero_or_pos size with e | e
      · subst e; rw [Nat.mul_zero] at hq; omega
      · exact e
    exact ⟨h0, by rw [Nat.div_lt_iff_lt_mul h0]; exact hq, Nat.mod_lt _ h0, by rw [Nat.mul_comm]; exact Nat.div_add_mod q size⟩
  cases h with
  | @lst _ _ _ _ B off cap vals hc hr hcap hf hn =>
    have hcell : ∀ q, q < n * size → w.cell? ⟨B, off + q, none⟩ = some (vals (q / size) (q % size)) := by
      intro q hq
      obtain ⟨h1, h2, h3, h4⟩ := hpos q hq
      rcases hs with rfl | rfl
      · rw [Nat.zero_mul] at hq; omega
      · have := (hc _ h2 _ h3).1
        rwa [Nat.add_assoc, h4] at this
    have hrel : ∀ q, q < n * size → PRel w O (el (q / size) (q % size)) (vals (q / size) (q % size)) := by
      intro q hq
      obtain ⟨h1, h2, h3, h4⟩ := hpos q hq
      rcases hs with rfl | rfl
      · rw [Nat.zero_mul] at hq; omega
      · exact hr _ h2 _ h3
    refine ⟨((List.range (n * size)).map fun q => vals (q / size) (q % size)).toArray, fun w' hw' => run_loadCells (f := fun q => vals (q / size) (q % size)) (fun q hq => by have := hcell q hq; unfold World.cell? at this ⊢; rw [hw']; exact this), by simp, fun i hi j hj => ?_, fun B' off' c hv q hq => ?_, fun u hu => ?_⟩
    · rw [getD_map_range _ (idx_lt hi hj)]
      have e1 : (i * size + j) / size = i := by rw [Nat.mul_comm, Nat.mul_add_div (by omega), Nat.div_eq_of_lt hj]; omega
      have e2 : (i * size + j) % size = j := by rw [Nat.mul_comm, Nat.mul_add_mod]; exact Nat.mod_eq_of_lt hj
      have := hrel _ (idx_lt hi hj)
      rw [e1, e2] at this ⊢
      exact this
    · simp only [Value.slice.injEq, Option.some.injEq, Addr.mk.injEq] at hv
      obtain ⟨⟨rfl, rfl, _⟩, _⟩ := hv
      rw [getD_map_range _ hq]
      exact hcell q hq
    · simp only [List.mem_map, List.mem_range] at hu
      obtain ⟨q, hq, rfl⟩ := hu
      exact prel_one (hrel q hq)
  | lstNil hn hn' => exact ⟨#[], fun _ _ => rfl, by simp, fun i hi => by omega, fun B off c hv => by simp at hv, fun u hu => by simp at hu⟩
  | lstE b hn => exact ⟨#[], fun _ _ => by simp [Builtin.firstCells]; rfl, by simp, fun i hi => by omega, fun B off c hv q hq => by simp at hq, fun u hu => by simp at hu⟩

/-- the draw of a capacity turns nothing that is told -/
theorem drawn_step (w : World) (O : Nat → Own) (k : Nat) : Step w O { w with drawn := k } O ∧ KeptAll w O { w with drawn := k } O :=
  ⟨⟨fun _ arr _ _ h => ⟨arr, h, rfl⟩, rfl, rfl, rfl, Nat.le_refl _, fun _ _ _ h => ⟨h, rfl⟩, fun _ _ _ => ⟨rfl, rfl⟩, fun _ _ h => .inl h⟩, fun _ _ _ => ⟨rfl, rfl⟩⟩

theorem Sat.drawn (hS : Sat st a w O ad) (k : Nat) : Sat st a { w with drawn := k } O ad :=
  ⟨hS.env.step (drawn_step w O k).1 (fun _ _ h => h) (drawn_step w O k).2 hS.fresh, hS.heap.step (drawn_step w O k).1 (fun _ _ h => h) (drawn_step w O k).2 hS.fresh, hS.len, hS.pin, hS.dn, ⟨fun B hB => hS.fresh.fr B hB, hS.fresh.uni⟩⟩

theorem zeroCells_size (z : Array Value) (n : Nat) : (Builtin.zeroCells z n).size = n * z.size := by simp [Builtin.zeroCells]

theorem getD_append3 {x y z : Array Value} (q : Nat) : (x ++ y ++ z).getD q undef = if q < x.size then x.getD q undef else if q < x.size + y.size then y.getD (q - x.size) undef else z.getD (q - x.size - y.size) undef := by
  simp only [Array.getD_eq_getD_getElem?, Array.getElem?_append, Array.size_append]
  by_cases h1 : q < x.size
  · simp [h1, show q < x.size + y.size by omega]
  · by_cases h2 : q < x.size + y.size
    · simp [h1, h2]
    · simp [h1, h2, Nat.sub_sub]

/-- append that has room -/
theorem append_fits_run (hT : TabOk P T) {ts : Array TypeId} {ty t2 e e2 rt : TypeId} {s1 s2 s1' s2' : Nat} {s3 s3' : Value} (h0 : ts[0]? = some ty) (ht : T ty = some ⟨.slice e, s1, s2, s3⟩) (h1 : ts[1]? = some t2)
    (ht2 : T t2 = some ⟨.slice e2, s1', s2', s3'⟩) {te : TI} (hte : T e = some te) {base : Option Addr} {n cap m : Nat} {xv : Value} (hm : n + m ≤ cap) (hlen : ∀ w, (Builtin.lenOf xv).run P w = .ok m w)
    {new : Array Value} (hnew : (Builtin.firstCells te.size m xv).run P w = .ok new w) {w' : World} (hst : ∀ a, base = some a → (storeCells (a.add (n * te.size)) new.toList).run P w = .ok () w') (hnone : base = none → w' = w) :
    (Builtin.append_ ts rt #[.slice base n cap, xv]).run P w = .ok (.slice base (n + m) cap) w' := by
  unfold Builtin.append_
  simp only [h0, h1]
  simp only [List.getElem?_toArray, List.getElem?_cons_zero, List.getElem?_cons_succ]
  simp only [run_bind, run_underlying_of hT ht, run_underlying_of hT ht2, run_sizeOf_of hT hte, run_pure]
  simp only [Bool.false_eq_true, if_false, Bool.not_false, if_true, run_bind, hlen]
  rw [if_pos hm]
  simp only [run_bind, hnew]
  cases base with
  | none => rw [hnone rfl]; rfl
  | some a => simp only [run_bind, hst a rfl]; rfl

/-- append that makes a new block -/
theorem append_grows_run (hT : TabOk P T) {ts : Array TypeId} {ty t2 e e2 rt : TypeId} {s1 s2 s1' s2' : Nat} {s3 s3' : Value} (h0 : ts[0]? = some ty) (ht : T ty = some ⟨.slice e, s1, s2, s3⟩) (h1 : ts[1]? = some t2)
    (ht2 : T t2 = some ⟨.slice e2, s1', s2', s3'⟩) {te : TI} (hte : T e = some te) {base : Option Addr} {n cap m : Nat} {xv : Value} (hm : cap < n + m) (hlen : ∀ w, (Builtin.lenOf xv).run P w = .ok m w)
    (hb1 : n + m ≤ 2 ^ 47) (hb2 : (n + m) * te.bytes ≤ 2 ^ 47)
    {old new : Array Value} (hold : ∀ k, (Builtin.firstCells te.size n (.slice base n cap)).run P { w with drawn := k } = .ok old { w with drawn := k }) (hnew : ∀ k, (Builtin.firstCells te.size m xv).run P { w with drawn := k } = .ok new { w with drawn := k }) :
    ∃ newCap k, n + m ≤ newCap ∧ (Builtin.append_ ts rt #[.slice base n cap, xv]).run P w =
      .ok (.slice (some ⟨w.heap.size, 0, none⟩) (n + m) newCap) (World.push { w with drawn := k } (old ++ new ++ Builtin.zeroCells te.zero.cells (newCap - (n + m))) e) := by
  obtain ⟨i, hi1, hi2, hi3, hir⟩ := run_typeInfo_of hT hte
  have hfit : ¬ (Builtin.nextslicecap (n + m) cap * te.bytes > 2 ^ 48) := by
    have h47 : (2 : Nat) ^ 47 = 140737488355328 := by decide
    have := growslice_fits hm (bytes := te.bytes) (by rw [← h47]; exact hb2)
    have : (2 : Nat) ^ 48 = 281474976710656 := by decide
    omega
  have hmax : ¬ (((n + m : Nat) : Int) > IntKind.i64.max) := by
    have : IntKind.i64.max = 9223372036854775807 := by decide
    rw [this]
    have : (2 : Nat) ^ 47 = 140737488355328 := by decide
    omega
  refine ⟨(Question.appendCap (n + m) cap e).cut (w.tape w.drawn (.appendCap (n + m) cap e)), w.drawn + 1, by simp [Question.cut], ?_⟩
  unfold Builtin.append_
  simp only [h0, h1]
  simp only [List.getElem?_toArray, List.getElem?_cons_zero, List.getElem?_cons_succ]
  simp only [run_bind, run_underlying_of hT ht, run_underlying_of hT ht2, run_sizeOf_of hT hte, run_pure]
  simp only [Bool.false_eq_true, if_false, Bool.not_false, if_true, run_bind, hlen]
  rw [if_neg (by omega)]
  simp only [run_bind, hir, run_pure, hi2]
  rw [if_neg (fun hh => hmax hh.1)]
  simp only [run_bind, hir, run_pure, hi2]
  rw [if_neg hfit]
  have hch : ∀ w' : World, (choose (.appendCap (n + m) cap e)).run P w' = .ok ((Question.appendCap (n + m) cap e).cut (w'.tape w'.drawn (.appendCap (n + m) cap e))) { w' with drawn := w'.drawn + 1 } := fun w' => by
    simp [choose, Sem.run, Question.forced]
  simp only [run_bind, hch, hir, askRoom_run, hold, hnew, zeroValue_run hT hte, newRow_run, run_pure]

theorem demote_sat (hS : Sat st a w O ad) (x : Operand) : Sat (demote st x) a w O ad := by
  unfold demote
  split
  · rename_i t ht
    refine ⟨⟨hS.env.1, fun s => ?_⟩, hS.heap, hS.len, hS.pin, hS.dn, hS.fresh⟩
    simp only [get]
    by_cases h : t = s
    · subst h; rw [beq_tt]; exact (hS.env.2 t).shed _
    · rw [beq_ff h]; exact hS.env.2 s
  · exact hS

theorem demote_nt (st : St) (x : Operand) : (demote st x).nt = st.nt := by unfold demote; split <;> rfl

/-- the joined row -/
theorem app_rel {n m size : Nat} {el el2 : Nat → Nat → PV} {x y z : Array Value} {w' : World} {O' : Nat → Own} (hx : x.size = n * size) (hy : y.size = m * size)
    (h1 : ∀ i, i < n → ∀ j, j < size → PRel w' O' (el i j) (x.getD (i * size + j) undef)) (h2 : ∀ i, i < m → ∀ j, j < size → PRel w' O' (el2 i j) (y.getD (i * size + j) undef)) :
    ∀ i, i < n + m → ∀ j, j < size → PRel w' O' (appEl n el el2 i j) ((x ++ y ++ z).getD (i * size + j) undef) := by
  intro i hi j hj
  unfold appEl
  rw [getD_append3]
  by_cases c : i < n
  · have : Nat.blt i n = true := Nat.ble_eq_true_of_le c
    rw [this, if_pos (by rw [hx]; exact idx_lt c hj)]
    exact h1 i c j hj
  · have : Nat.blt i n = false := Bool.eq_false_iff.2 fun h => c (Nat.le_of_ble_eq_true h)
    rw [this]
    have e0 : n * size ≤ i * size := Nat.mul_le_mul_right _ (by omega)
    have e1 : i * size - n * size = (i - n) * size := by rw [Nat.sub_mul]
    have e2 : (i - n) * size + j < m * size := idx_lt (by omega) hj
    rw [if_neg (by rw [hx]; omega), if_pos (by rw [hx, hy]; omega), hx]
    rw [show i * size + j - n * size = (i - n) * size + j by omega]
    exact h2 (i - n) (by omega) j hj

/-- A slice grows in its own block. -/
theorem Sat.grow (hS : Sat st a w O ad) {t d B fill fill' : Nat} {arr arr' : Array Value} {ty : TypeId} (hO : O B = .lst (.tmp t) fill) (hw : w.heap[B]? = some (.cells arr ty (0, 0))) (hf : fill ≤ fill')
    (hsz : arr'.size = arr.size) (ha : ∀ q, q < fill → arr'.getD q undef = arr.getD q undef) :
    Step w O (World.setBlk w B arr' ty) (upd O B (.lst (.tmp d) fill')) ∧ Sat { st with env := (t, (get st.env t).shed) :: st.env } a (World.setBlk w B arr' ty) (upd O B (.lst (.tmp d) fill')) ad ∧ Agree O w (World.setBlk w B arr' ty) := by
  have hcell : ∀ q, q < fill → (World.setBlk w B arr' ty).cell? ⟨B, q, none⟩ = w.cell? ⟨B, q, none⟩ := by
    intro q hq
    rw [cell_of_block (setBlk_at hw), cell_of_block hw]
    have := ha q hq
    by_cases h : q < arr.size
    · simp only [Array.getD, hsz, h, dif_pos] at this
      rw [Array.getElem?_eq_getElem h, Array.getElem?_eq_getElem (by rw [hsz]; exact h)]
      exact congrArg some this
    · rw [Array.getElem?_eq_none (by omega), Array.getElem?_eq_none (by omega)]
  have hst : Step w O (World.setBlk w B arr' ty) (upd O B (.lst (.tmp d) fill')) := by
    refine ⟨fun C arr2 ty2 fz hC => ?_, rfl, rfl, rfl, by rw [setBlk_size]; exact Nat.le_refl _, fun C q hC hi => ?_, fun C hC hfr => ?_, fun C _ hk => .inl (by rw [upd_ne _ _ (by rintro rfl; rw [hO] at hk; exact hk)]; exact hk)⟩
    · by_cases e : C = B
      · subst e
        rw [hw] at hC; cases hC
        exact ⟨arr', setBlk_at hw, hsz⟩
      · exact ⟨arr2, by rw [setBlk_ne e]; exact hC, rfl⟩
    · by_cases e : C = B
      · subst e
        have hq : q < fill := by simpa [im, hO] using hi
        exact ⟨by simp only [im, upd_same]; omega, hcell q hq⟩
      · refine ⟨by unfold im at hi ⊢; rwa [upd_ne _ _ e], ?_⟩
        simp only [World.cell?, setBlk_ne e]
    · have e : C ≠ B := by rintro rfl; rw [hO] at hfr; exact hfr.elim
      exact ⟨by rw [upd_ne _ _ e], setBlk_ne e⟩
  have hka : ∀ p, p ≠ .tmp t → (∀ i, p.sub i ≠ .tmp t) → KeptAt w O (World.setBlk w B arr' ty) (upd O B (.lst (.tmp d) fill')) p := by
    intro p h1 h2
    refine ⟨fun q C f hq hn hC => ?_, fun _ _ _ i C _ hC => ?_⟩
    · have e : C ≠ B := by
        rintro rfl
        rw [hO] at hC
        simp only [Own.lst.injEq] at hC
        rcases hq with rfl | ⟨i, rfl⟩
        · exact h1 hC.1.symm
        · exact h2 i hC.1.symm
      exact ⟨by rw [upd_ne _ _ e]; exact hC, setBlk_ne e⟩
    · have e : C ≠ B := by rintro rfl; rw [hO] at hC; simp at hC
      exact ⟨by rw [upd_ne _ _ e]; exact hC, setBlk_ne e⟩
  have hin : InnK O (upd O B (.lst (.tmp d) fill')) := fun C k i hC => by
    have e : C ≠ B := by rintro rfl; rw [hO] at hC; simp at hC
    rw [upd_ne _ _ e]; exact hC
  refine ⟨hst, ⟨⟨hS.env.1, fun s => ?_⟩, fun k b hb => ?_, hS.len, hS.pin, hS.dn, ⟨fun C hC => ?_, fun C C' k i h1 h2 => ?_⟩⟩, fun C q hC hl => ?_⟩
  · simp only [get]
    by_cases h : t = s
    · subst h; rw [beq_tt]
      exact ((((hS.env.2 t).shed .no).step hst hin (fun _ _ h => h)) .no).any _
    · rw [beq_ff h]
      exact (hS.env.2 s).step hst hin (fun _ _ h => h) (hka _ (by simp; exact fun e => h e.symm) (by intro i; simp [Pos.sub]))
  · obtain ⟨c, h1, ⟨h2, hg⟩ | ⟨C, x2, rfl, h2, h3, h4⟩⟩ := hS.heap k b hb
    · exact ⟨c, h1, .inl ⟨h2, hg⟩⟩
    have e : C ≠ B := by rintro rfl; rw [hO] at h2; simp at h2
    exact ⟨C + 1, h1, .inr ⟨C, x2, rfl, by rw [upd_ne _ _ e]; exact h2, (setBlk_ne e).trans h3, h4.step hst hin (fun _ _ h => h) (fun i j => hka _ (by simp) (by intro i; simp [Pos.sub]))⟩⟩
  · rw [setBlk_size] at hC
    have e : C ≠ B := by rintro rfl; have := hS.fresh.fr C hC; rw [hO] at this; simp at this
    rw [upd_ne _ _ e]; exact hS.fresh.fr C hC
  · have ne : ∀ D, upd O B (.lst (.tmp d) fill') D = .inn k i → D ≠ B := fun D h e => by subst e; rw [upd_same] at h; simp at h
    have n1 := ne _ h1
    have n2 := ne _ h2
    rw [upd_ne _ _ n1] at h1
    rw [upd_ne _ _ n2] at h2
    exact hS.fresh.uni _ _ _ _ h1 h2
  · by_cases e : C = B
    · subst e
      exact hcell q (by simpa [live, hO] using hl)
    · simp only [World.cell?, setBlk_ne e]

theorem drawn_push_agree (k : Nat) (arr : Array Value) (ty : TypeId) : Agree O w (World.push { w with drawn := k } arr ty) := by
  intro B o hB _
  have := push_lt { w with drawn := k } arr ty (B := B) hB
  simp only [World.cell?, this]

theorem append_ok (hT : TabOk P T) (hS : Sat st a w O ad) (hd : okDst st o.dst = true) {ts : Array TypeId} {s x : Operand} (ho : o.op = .call ⟨.builtin .append, #[s, x], ts⟩) {fl : Nat}
    (h : appendOp T fl st o.dst ts s x K) : OpOk P o a w O Q K := by
  unfold appendOp at h
  split at h
  case h_2 => exact h.elim
  rename_i e s1 s2 s3 e2 s1' s2' s3' own sz nf n el own2 sz2 nf2 m el2 ht ht2 hs hx
  split at h
  case h_2 => exact h.elim
  rename_i te hte
  replace h := needC h
  obtain ⟨hb', ⟨hb1, hb2⟩, h⟩ := h
  obtain ⟨happ, hb'⟩ := andE hb'
  obtain ⟨g1', hb'⟩ := andE hb'
  obtain ⟨g2', hb'⟩ := andE hb'
  obtain ⟨htold, hb'⟩ := andE hb'
  obtain ⟨hzl, hpos⟩ := andE hb'
  have hzl := beqE hzl
  have hpos := bleE hpos
  have hsz' : (own = false ∧ n = 0) ∨ sz = te.size := by
    rcases Bool.or_eq_true _ _ ▸ g1' with e | e
    · exact .inr (beqE e)
    · obtain ⟨e1, e2⟩ := andE e
      exact .inl ⟨by simpa using e1, beqE e2⟩
  have hsz2 : m = 0 ∨ sz2 = te.size := by
    rcases Bool.or_eq_true _ _ ▸ g2' with e | e
    · exact .inr (beqE e)
    · exact .inl (beqE e)
  have hsz : n = 0 ∨ sz = te.size := hsz'.imp (fun h => h.2) id
  obtain ⟨ty, h0, ht⟩ := Option.bind_eq_some_iff.1 ht
  obtain ⟨t2, h1, ht2⟩ := Option.bind_eq_some_iff.1 ht2
  have hvs := hS.ev s
  have hvx := hS.ev x
  rw [hs] at hvs
  rw [hx] at hvx
  have hps := prel_of hvs
  have hpx := prel_of hvx
  have hz := told_cells (w := w) (O := O) (ad := ad) htold
  have hzs : te.zero.cells.size = te.size := by rw [hz.1, hzl]
  have hlen : ∀ w, (Builtin.lenOf (a.eval x)).run P w = .ok m w := by
    intro w
    revert hpx
    generalize a.eval x = xv
    intro hpx
    cases hpx <;> rfl
  obtain ⟨xa, x1, x2, x3, x4, x5⟩ := firstCells_run (P := P) hpx hsz2
  have hrunop : ∀ {rv w'}, (Builtin.append_ ts o.type #[a.eval s, a.eval x]).run P w = .ok rv w' → (execOp a.eval o).run P w = .ok (.value rv) w' := by
    intro rv w' hr
    unfold execOp
    simp only [ho, resolve, run_bind, run_pure, invoke, builtin]
    have : #[s, x].map a.eval = #[a.eval s, a.eval x] := by simp
    rw [this, hr]
  have hdr : ∀ k, Step w O { w with drawn := k } O := fun k => (drawn_step w O k).1
  -- a new block
  have grows : ∀ base cap, a.eval s = .slice base n cap → cap < n + m → OpOk P o a w O Q K := by
    intro base cap hsv hcap
    obtain ⟨sa, y1, y2, y3, y4, y5⟩ := firstCells_run (P := P) hps hsz
    rw [hsv] at y1
    have hold : ∀ k, (Builtin.firstCells te.size n (.slice base n cap)).run P { w with drawn := k } = .ok sa { w with drawn := k } := fun k => y1 _ rfl
    have hnew : ∀ k, (Builtin.firstCells te.size m (a.eval x)).run P { w with drawn := k } = .ok xa { w with drawn := k } := fun k => x1 _ rfl
    obtain ⟨newCap, k, hnc, hrun⟩ := append_grows_run (rt := o.type) hT h0 ht h1 ht2 hte hcap hlen hb1 hb2 hold hnew
    rw [← hsv] at hrun
    have hS' := hS.drawn k
    have hrows := app_rel (z := Builtin.zeroCells te.zero.cells (newCap - (n + m))) (el := el) (el2 := el2) (O' := O) (w' := { w with drawn := k }) y2 x2 (fun i hi j hj => (y3 i hi j hj).step (hdr k)) (fun i hi j hj => (x3 i hi j hj).step (hdr k))
    have hsize : (sa ++ xa ++ Builtin.zeroCells te.zero.cells (newCap - (n + m))).size = newCap * te.size := by
      rw [Array.size_append, Array.size_append, zeroCells_size, y2, x2, hzs, ← Nat.add_mul, ← Nat.add_mul]
      congr 1; omega
    cases hf : Nat.beq fl 2 with
    | true =>
      simp only [hf, cond_true] at h
      obtain ⟨_, h⟩ := cndE h
      obtain ⟨g1, g2⟩ := hS'.push e (arr := sa ++ xa ++ Builtin.zeroCells te.zero.cells (newCap - (n + m))) (b := .row te.size (n + m) (appEl n el el2) fun _ _ => false)
        ⟨by rw [hsize]; exact Nat.mul_le_mul_right _ hnc, fun i hi j hj => .pv (hrows i hi j hj)⟩
      refine .value (hrunop hrun) h (g2.put hd fun _ => ?_) ((hdr k).trans g1) (drawn_push_agree k _ _)
      have := VRel.arr (w := World.push { w with drawn := k } (sa ++ xa ++ Builtin.zeroCells te.zero.cells (newCap - (n + m))) e) (O := upd O w.heap.size (.blk st.heap.length)) (p := dpos o.dst) (ad := ad ++ [w.heap.size + 1]) (k := st.heap.length)
        (sz := te.size) (off := 0) (n := n + m) (cap := newCap) (by rw [← hS.len]; exact nth_last _ _) hnc ⟨_, e, (0, 0), push_at _ _ _, by rw [Nat.zero_add, hsize]; exact Nat.le_refl _⟩
      simpa using this
    | false =>
      simp only [hf, cond_false] at h
      replace h := needE h
      obtain ⟨hds, h⟩ := h
      cases hdd : o.dst with
      | none => simp [hdd] at hds
      | some d =>
        obtain ⟨g1, g2⟩ := (demote_sat hS' s).push_im (sa ++ xa ++ Builtin.zeroCells te.zero.cells (newCap - (n + m))) e (.lst (.tmp d) ((n + m) * te.size))
        refine .value (hrunop hrun) h (g2.put (by rw [hdd] at hd ⊢; simpa [okDst, demote_nt] using hd) fun _ => ?_) ((hdr k).trans g1) (drawn_push_agree k _ _)
        rw [hdd]
        refine .own (.lst (fun i j => (sa ++ xa ++ Builtin.zeroCells te.zero.cells (newCap - (n + m))).getD (i * te.size + j) undef) (fun i hi j hj => ?_) (fun i hi j hj => (hrows i hi j hj).step g1) hnc (by simp) (by simp)) ⟨by simp [dpos], .inr (.inr ⟨_, 0, newCap, _, e, rfl, ?_, push_at _ _ _, by rw [hsize]; omega⟩)⟩
        · have hlt := idx_lt hi hj
          refine ⟨?_, ?_⟩
          · rw [Nat.zero_add]; exact cell_of_block' (push_at _ _ _) (by rw [hsize]; exact Nat.lt_of_lt_of_le hlt (Nat.mul_le_mul_right _ hnc))
          · unfold im; simp only [upd_same]; omega
        · rw [upd_same]; simp [dpos]
  -- nothing is written
  have still : ∀ v, a.eval s = v → m = 0 → PRel w O (.lst sz nf n el) v → (v = .slice none 0 0 ∨ ∃ b, v = .slice (some b) n n) → OpOk P o a w O Q K := by
    intro v hsv hm hp hv
    subst hm
    have hx0 : xa.toList = [] := by
      have : xa.size = 0 := by rw [x2]; simp
      have := Array.size_eq_zero_iff.1 this
      rw [this]
    have hrun : (Builtin.append_ ts o.type #[a.eval s, a.eval x]).run P w = .ok v w := by
      rw [hsv]
      rcases hv with rfl | ⟨b, rfl⟩
      · have hn : n = 0 := by cases hp <;> rfl
        subst hn
        exact append_fits_run (n := 0) (m := 0) hT h0 ht h1 ht2 hte (by omega) hlen (x1 w rfl) (by simp) (fun _ => rfl)
      · have := append_fits_run (rt := o.type) (base := some b) (n := n) (cap := n) (m := 0) hT h0 ht h1 ht2 hte (by omega) hlen (x1 w rfl) (w' := w) (fun c hc => by rw [hx0]; rfl) (by simp)
        simpa using this
    cases hf : Nat.beq fl 2 with
    | true =>
      simp only [hf, cond_true] at h
      obtain ⟨⟨hn, _⟩, h⟩ := cndE h
      subst hn
      refine .value (ad' := ad ++ [0]) (hrunop hrun) h ((hS.pushG _ _ _).put hd fun _ => ?_) (Step.refl _ _) (Agree.refl O w)
      exact .arrE (c := 0) (by rw [← hS.len]; exact nth_last _ _) hv
    | false =>
      simp only [hf, cond_false] at h
      replace h := needE h
      obtain ⟨hds, h⟩ := h
      cases hdd : o.dst with
      | none => simp [hdd] at hds
      | some d =>
        refine .value (ad' := ad) (hrunop hrun) h ((demote_sat hS s).put (by rw [hdd] at hd ⊢; simpa [okDst, demote_nt] using hd) fun _ => ?_) (Step.refl _ _) (Agree.refl O w)
        rw [hdd]
        have hre : ∀ i, i < n → ∀ j, j < te.size → appEl n el el2 i j = el i j := by
          intro i hi j hj
          have : Nat.blt i n = true := Nat.ble_eq_true_of_le hi
          simp [appEl, this]
        have hown : OwnOk w O (.tmp d) te.size (n + 0) v := ⟨by simp, hv.imp id (fun ⟨b, hb⟩ => .inl ⟨b, by simpa using hb⟩)⟩
        refine .own ?_ hown
        cases hp with
        | lst vals hc hr hcap hf hn =>
          have hszz : ∀ i, i < n → sz = te.size := fun i hi => hsz.elim (fun h => by omega) id
          refine .lst vals (fun i hi j hj => ?_) (fun i hi j hj => ?_) hcap (by simp) (by simp)
          · have := hszz i (by omega); subst this; exact hc i (by omega) j hj
          · have := hszz i (by omega); subst this; rw [hre i (by omega) j hj]; exact hr i (by omega) j hj
        | lstNil => exact .lstNil (by simp) (by simp)
        | lstE b _ => exact .lstE b (by simp)
  revert still grows hrunop hps hvs
  generalize hsv : a.eval s = sv
  intro hvs hps hrunop grows still
  cases hps with
  | lstNil h1 h2 =>
    by_cases hm : m = 0
    · exact still _ rfl hm (.lstNil h1 h2) (.inl rfl)
    · exact grows none 0 rfl (by omega)
  | lstE b h1 =>
    by_cases hm : m = 0
    · exact still _ rfl hm (.lstE b h1) (.inr ⟨b, rfl⟩)
    · exact grows (some b) 0 rfl (by omega)
  | @lst _ _ _ _ B off cap vals hc hr hcap hf hn =>
    by_cases hfit : n + m ≤ cap
    · by_cases hfull : cap = n
      · subst hfull
        exact still _ rfl (by omega) (.lst vals hc hr hcap hf hn) (.inr ⟨_, rfl⟩)
      · -- owned
        have hown : own = true := by
          cases own with
          | true => rfl
          | false =>
            cases nf <;> simp [appendable] at happ <;> simp_all
        subst hown
        cases hvs with
        | own hp ho =>
          obtain ⟨g0, g1 | ⟨b, g1⟩ | ⟨B', off', cap', arr, ty, g1, g2, g3, g4⟩⟩ := ho
          · simp at g1
          · simp at g1; exact absurd g1.2 hfull
          · simp only [Value.slice.injEq, Option.some.injEq, Addr.mk.injEq, true_and] at g1
            obtain ⟨⟨rfl, rfl, _⟩, rfl⟩ := g1
            have hst : ∃ t, s = .tmp t := by
              cases s with
              | tmp t => exact ⟨t, rfl⟩
              | _ => exact absurd rfl g0
            obtain ⟨t, rfl⟩ := hst
            have hfl : Nat.beq fl 2 = false := by
              cases hf2 : Nat.beq fl 2 with
              | false => rfl
              | true =>
                simp only [hf2, cond_true] at h
                obtain ⟨⟨rfl, h6⟩, _⟩ := cndE h
                rcases h6 with h6 | h6 | h6
                · rw [h6] at hn; exact hn.elim
                · exact absurd (hf (.inl h6)) hfull
                · exact absurd (hf (.inr h6)) hfull
            simp only [hfl, cond_false] at h
            replace h := needE h
            obtain ⟨hds, h⟩ := h
            have hszz : sz = te.size := hsz'.elim (fun h => by simp at h) id
            subst hszz
            have hle : off + n * te.size + m * te.size ≤ arr.size := by
              have h5 : (n + m) * te.size ≤ cap * te.size := Nat.mul_le_mul_right _ hfit
              rw [Nat.add_mul] at h5
              omega
            obtain ⟨arr', r1, r2, r3⟩ := run_storeCells (P := P) (B := B) (o := off + n * te.size) (ty := ty) xa.toList 0 arr w g3 (by simp [x2]; omega) x5
            have hrun : (Builtin.append_ ts o.type #[.slice (some ⟨B, off, none⟩) n cap, a.eval x]).run P w = .ok (.slice (some ⟨B, off, none⟩) (n + m) cap) (World.setBlk w B arr' ty) := by
              refine append_fits_run hT h0 ht h1 ht2 hte hfit hlen (x1 w rfl) (fun c hc' => ?_) (by simp)
              obtain rfl := Option.some.inj hc'
              rw [add_none]; exact r1
            cases hdd : o.dst with
            | none => simp [hdd] at hds
            | some d =>
              have hlow : ∀ q, q < off + n * te.size → arr'.getD q undef = arr.getD q undef := fun q hq => by rw [r3 q, if_neg (by omega)]
              obtain ⟨s1', s2', s3'⟩ := hS.grow (d := d) (fill' := off + (n + m) * te.size) (arr' := arr') g2 g3 (by rw [Nat.add_mul]; omega) r2 hlow
              have hdem : demote st (.tmp t) = { st with env := (t, (get st.env t).shed) :: st.env } := by
                have : get st.env t = .pv true (.lst te.size nf n el) := hS.getOwn hs
                simp [demote, ownTmp, this, AVal.hasOwn]
              rw [hdem] at h
              refine .value (ad' := ad) (hrunop hrun) h (s2'.put (by rw [hdd] at hd ⊢; exact hd) fun _ => ?_) s1' s3'
              rw [hdd]
              have hstep := s1'
              have hold : ∀ i, i < n → ∀ j, j < te.size → PRel (World.setBlk w B arr' ty) (upd O B (.lst (.tmp d) (off + (n + m) * te.size))) (el i j) (arr'.getD (off + (i * te.size + j)) undef) := by
                intro i hi j hj
                have hlt := idx_lt hi hj
                rw [hlow _ (by omega)]
                have := hc i hi j hj
                have hcl : w.cell? ⟨B, off + i * te.size + j, none⟩ = some (arr.getD (off + (i * te.size + j)) undef) := by
                  rw [Nat.add_assoc]; exact cell_of_block' g3 (by omega)
                rw [hcl] at this
                have hv := Option.some.inj this.1
                rw [hv]
                exact (hr i hi j hj).step hstep
              have hnew : ∀ i, i < m → ∀ j, j < te.size → PRel (World.setBlk w B arr' ty) (upd O B (.lst (.tmp d) (off + (n + m) * te.size))) (el2 i j) (arr'.getD (off + ((n + i) * te.size + j)) undef) := by
                intro i hi j hj
                have hlt := idx_lt hi hj
                rw [show (n + i) * te.size = n * te.size + i * te.size from Nat.add_mul _ _ _, r3, if_pos ⟨by omega, by rw [Array.length_toList, x2]; omega⟩, getD_list]
                rw [show off + (n * te.size + i * te.size + j) - (off + n * te.size + 0) = i * te.size + j by omega]
                exact (x3 i hi j hj).step hstep
              have hall : ∀ i, i < n + m → ∀ j, j < te.size → PRel (World.setBlk w B arr' ty) (upd O B (.lst (.tmp d) (off + (n + m) * te.size))) (appEl n el el2 i j) (arr'.getD (off + (i * te.size + j)) undef) := by
                intro i hi j hj
                unfold appEl
                by_cases c : i < n
                · have : Nat.blt i n = true := Nat.ble_eq_true_of_le c
                  rw [this]; exact hold i c j hj
                · have : Nat.blt i n = false := Bool.eq_false_iff.2 fun h => c (Nat.le_of_ble_eq_true h)
                  rw [this]
                  have := hnew (i - n) (by omega) j hj
                  rwa [show n + (i - n) = i by omega] at this
              refine .own (.lst (fun i j => arr'.getD (off + (i * te.size + j)) undef) (fun i hi j hj => ?_) hall hfit (by simp) (by simp)) ⟨by simp [dpos], .inr (.inr ⟨B, off, cap, arr', ty, rfl, ?_, setBlk_at g3, by rw [r2]; exact g4⟩)⟩
              · have hlt := idx_lt hi hj
                have h5 : (n + m) * te.size ≤ cap * te.size := Nat.mul_le_mul_right _ hfit
                refine ⟨by rw [Nat.add_assoc]; exact cell_of_block' (setBlk_at g3) (by rw [r2]; omega), ?_⟩
                unfold im; simp only [upd_same]; omega
              · rw [upd_same]; simp [dpos]
    · exact grows _ cap rfl (by omega)

end
end Go.Proofs.Ytgghnfmabphbmaa.Fw
