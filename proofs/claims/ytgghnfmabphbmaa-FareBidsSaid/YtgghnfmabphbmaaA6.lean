/- Literals of structs and arrays; all operations that leave memory alone, together. -/
import Derived.Test.YtgghnfmabphbmaaA5
namespace Go.Proofs.Ytgghnfmabphbmaa.Fw
open Go
set_option linter.unusedSimpArgs false
set_option linter.unusedVariables false

section
variable {P : Program} {T : Tab} {w : World} {O : Nat → Own} {ad : List Nat} {H : List Blk} {K : AVal → Prop}

theorem nth_append {α : Type} (a b : List α) (i : Nat) : nth (a ++ b) i = if i < a.length then nth a i else nth b (i - a.length) := by
  simp only [nth_eq, List.getElem?_append]

theorem nth_take {α : Type} (a : List α) (n i : Nat) : nth (a.take n) i = if i < n then nth a i else none := by
  simp only [nth_eq, List.getElem?_take]

theorem nth_drop {α : Type} (a : List α) (n i : Nat) : nth (a.drop n) i = nth a (n + i) := by
  simp only [nth_eq, List.getElem?_drop]

theorem getD_list {arr : Array Value} (i : Nat) : arr.toList.getD i undef = arr.getD i undef := by
  rw [List.getD_eq_getElem?_getD, Array.getD_eq_getD_getElem?]
  simp

/-- parts laid into cells, here and there -/
theorem fill_ok {place : Nat → Option (Nat × Nat)} : ∀ {ps : List (Nat × AVal)} {pvs : List (Nat × Value)} {cs cs' : List AVal} {arr : Array Value},
    CellsRel w O ad cs arr → ps.length = pvs.length → (∀ (i : Nat) (x : Nat × AVal) (v : Nat × Value), ps[i]? = some x → pvs[i]? = some v → x.1 = v.1 ∧ ∃ p, VRel w O ad p x.2 v.2) → fillK place cs ps = some cs' →
    ∃ arr', Instr.fill place arr pvs = some arr' ∧ CellsRel w O ad cs' arr'
  | [], [], cs, cs', arr, hc, _, _, h => by simp [fillK] at h; subst h; exact ⟨arr, rfl, hc⟩
  | [], _ :: _, _, _, _, _, hl, _, _ => by simp at hl
  | _ :: _, [], _, _, _, _, hl, _, _ => by simp at hl
  | (i, x) :: ps, (i', v) :: pvs, cs, cs', arr, hc, hl, hr, h => by
    obtain ⟨e1, p, h1⟩ := hr 0 _ _ rfl rfl
    simp only at e1 h1
    subst e1
    simp only [fillK] at h
    cases hp : place i with
    | none => simp [hp] at h
    | some os =>
      obtain ⟨off, size⟩ := os
      simp only [hp] at h
      cases hg : (x.told && (Nat.beq x.cells.length size && Nat.ble (off + size) cs.length)) with
      | false => simp [hg] at h
      | true =>
        simp only [hg, cond_true] at h
        simp only [Bool.and_eq_true] at hg
        obtain ⟨h2, h3, h4⟩ := hg
        have h3 := Nat.eq_of_beq_eq_true h3
        have h4 := Nat.le_of_ble_eq_true h4
        obtain ⟨hs, hcr⟩ := cells_rel h1 h2
        rw [length_shedAll] at hs
        have hsz : v.cells.size = size := by omega
        obtain ⟨hz1, hz2⟩ := foldl_set v.cells.toList 0 off arr (by rw [hc.1]; simp; omega)
        have hstep : Instr.fill place arr ((i, v) :: pvs) = Instr.fill place ((v.cells.toList.zipIdx 0).foldl (fun cs (x : Value × Nat) => cs.setIfInBounds (off + x.2) x.1) arr) pvs := by
          simp only [Instr.fill, hp]
          have h6 : v.cells.zipIdx.foldl (fun cs (x : Value × Nat) => cs.setIfInBounds (off + x.2) x.1) arr = (v.cells.toList.zipIdx 0).foldl (fun cs (x : Value × Nat) => cs.setIfInBounds (off + x.2) x.1) arr := by
            rw [← Array.foldl_toList]; simp
          rw [if_neg (by simp [hsz, hc.1]; omega)]
          exact congrArg (fun z => Instr.fill place z pvs) h6
        rw [hstep]
        refine fill_ok (cs := cs.take off ++ shedAll x.cells ++ cs.drop (off + size)) (cs' := cs') ⟨?_, ?_⟩ (by simpa using hl) (fun j y u hy hu => hr (j + 1) y u (by simpa using hy) (by simpa using hu)) h
        · rw [hz1, hc.1]; simp [length_shedAll]; omega
        · intro j y hy
          rw [hz2 j]
          simp only [Nat.add_zero]
          rw [List.append_assoc, nth_append, nth_append, nth_take, nth_drop, length_shedAll] at hy
          have ht : (cs.take off).length = off := by simp; omega
          rw [ht] at hy
          by_cases c1 : j < off
          · rw [if_pos c1, if_pos c1] at hy
            rw [if_neg (by omega)]
            exact hc.2 j y hy
          · rw [if_neg c1] at hy
            by_cases c2 : j - off < x.cells.length
            · rw [if_pos c2] at hy
              rw [if_pos (by simp; omega), getD_list]
              exact hcr _ y hy
            · rw [if_neg c2] at hy
              rw [if_neg (by simp; omega)]
              rw [show off + size + (j - off - x.cells.length) = j by omega] at hy
              exact hc.2 j y hy

theorem evParts_spec {e : Operand → AVal} {ρ : Operand → Value} (he : ∀ x, VRel w O ad (posOf x) (e x) (ρ x)) : ∀ (l : List (Nat × Operand)),
    (evParts e l).length = (l.map fun (i, x) => (i, ρ x)).length ∧ ∀ (i : Nat) (x : Nat × AVal) (v : Nat × Value), (evParts e l)[i]? = some x → (l.map fun (i, x) => (i, ρ x))[i]? = some v → x.1 = v.1 ∧ ∃ p, VRel w O ad p x.2 v.2
  | [] => ⟨rfl, fun i x v h => by simp [evParts] at h⟩
  | (k, y) :: r => by
    obtain ⟨h1, h2⟩ := evParts_spec he r
    refine ⟨by simp only [evParts, List.length_cons, List.map_cons, h1], fun i x v hx hv => ?_⟩
    cases i with
    | zero =>
      simp [evParts] at hx hv
      subst hx hv
      exact ⟨rfl, _, he y⟩
    | succ i => exact h2 i x v (by simpa [evParts] using hx) (by simpa using hv)

theorem zeroValue_run (hT : TabOk P T) {t : TypeId} {x : TI} (h : T t = some x) (w' : World) : (zeroValue t).run P w' = .ok x.zero w' := by
  obtain ⟨i, _, _, h3, hr⟩ := run_typeInfo_of hT h
  unfold zeroValue; rw [run_bind, hr w']; simp only [h3]; rfl

theorem avalCells (v : Value) : CellsRel w O ad (avalOf v).cells v.cells ∨ avalOf v = .undef := by
  have h := avalOf_rel (w := w) (O := O) (ad := ad) .no v
  cases ho : avalOf v with
  | undef => exact .inr rfl
  | agg cs =>
    rw [ho] at h
    cases h with
    | agg a hs hr => exact .inl ⟨hs, hr⟩
  | pv o x =>
    left
    rw [ho] at h
    have h1 := prel_one (prel_of h)
    rw [cells_one h1]
    refine ⟨rfl, fun i y hy => ?_⟩
    cases i with
    | zero => simp [AVal.cells, nth] at hy; subst hy; exact h
    | succ i => simp [AVal.cells, nth] at hy
  | _ =>
    exfalso
    revert ho
    unfold avalOf
    split
    · cases (List.all _ oneC) <;> simp
    · simp
    · simp

theorem mapM_run {α β : Type} {f : α → Sem β} {g : α → β} (hf : ∀ x w', (f x).run P w' = .ok (g x) w') (l : Array α) (w' : World) : (l.mapM f).run P w' = .ok (l.map g) w' := by
  rw [Array.mapM_eq_foldlM, ← Array.foldlM_toList]
  have : ∀ (l : List α) (acc : Array β) w', (l.foldlM (fun bs a => do let b ← f a; pure (bs.push b)) acc : Sem (Array β)).run P w' = .ok (acc ++ (l.map g).toArray) w' := by
    intro l
    induction l with
    | nil => intro acc w'; simp [run_pure, List.foldlM]
    | cons x l ih =>
      intro acc w'
      simp only [List.foldlM_cons, run_bind, hf, run_pure, ih]
      simp
  have h := this l.toList #[] w'
  simp at h
  rw [← List.map_toArray] at h
  simpa [bind_pure_comp] using h

theorem map_toList {ps : Array (Nat × Operand)} (ρ : Operand → Value) : (ps.map fun (i, x) => (i, ρ x)).toList = ps.toList.map fun (i, x) => (i, ρ x) := by simp

theorem allPv_prel {cs : List AVal} {arr : Array Value} (h : allPv cs = true) (hc : CellsRel w O ad cs arr) {i : Nat} (hi : i < cs.length) : PRel w O (pvAt cs i) (arr.getD i undef) := by
  obtain ⟨x, hx⟩ := nth_some hi
  obtain ⟨o, q, rfl⟩ := allPv_nth h hx
  simp only [pvAt, hx, asPv]
  exact prel_of (hc.2 i _ hx)

theorem build_ok (hT : TabOk P T) {e : Operand → AVal} {ρ : Operand → Value} (he : ∀ x, VRel w O ad (posOf x) (e x) (ρ x)) {t : TypeId} {ps : Array (Nat × Operand)} (h : buildK T t (evParts e ps.toList) K) :
    VOv P w O ad (Instr.build t (ps.map fun (i, x) => (i, ρ x))) K := by
  obtain ⟨hl, hr⟩ := evParts_spec he ps.toList
  unfold buildK at h
  split at h
  · rename_i fs sz by_ z ht
    split at h
    · rename_i cs hcs
      replace h := needE h
      obtain ⟨hb', h⟩ := h
      obtain ⟨hpl, htold⟩ := andE hb'
      rcases avalCells (w := w) (O := O) (ad := ad) z with hz | hz
      · have hpl' : ∀ (f : Field), f ∈ fs → ∃ tf, T f.type = some tf := fun f hf => by
          have := allL_mem hpl (Array.mem_def.1 hf)
          cases hh : T f.type with
          | none => simp [hh] at this
          | some tf => exact ⟨tf, rfl⟩
        let g : Field → Nat × Nat := fun f => (f.offset, ((T f.type).map (·.size)).getD 0)
        have hmap : ∀ w', (fs.mapM fun f => do pure (f.offset, ← sizeOf f.type) : Sem (Array (Nat × Nat))).run P w' = .ok (fs.map g) w' := by
          intro w'
          have key : ∀ (l : List Field), (∀ f ∈ l, f ∈ fs) → ∀ (acc : Array (Nat × Nat)) w', (l.foldlM (fun bs a => do let b ← (do pure (a.offset, ← sizeOf a.type) : Sem (Nat × Nat)); pure (bs.push b)) acc : Sem (Array (Nat × Nat))).run P w' = .ok (acc ++ (l.map g).toArray) w' := by
            intro l
            induction l with
            | nil => intro _ acc w'; simp [run_pure, List.foldlM]
            | cons x l ih =>
              intro hmem acc w'
              obtain ⟨tf, htf⟩ := hpl' x (hmem x (by simp))
              have hg : g x = (x.offset, tf.size) := by simp [g, htf]
              simp only [List.foldlM_cons, run_bind, run_sizeOf_of hT htf, run_pure]
              rw [ih (fun f hf => hmem f (by simp [hf]))]
              simp [hg]
          rw [Array.mapM_eq_foldlM, ← Array.foldlM_toList]
          have h := key fs.toList (fun f hf => by simpa using hf) #[] w'
          simp at h
          rw [← List.map_toArray] at h
          simpa [bind_pure_comp] using h
        have hplace : fieldPlaces T fs = fun i => (fs.map g)[i]? := by
          funext i
          unfold fieldPlaces
          cases hf : fs[i]? with
          | none =>
            have : fs.size ≤ i := by simpa using hf
            simp [this]
          | some f =>
            obtain ⟨hi, hy⟩ := Array.getElem?_eq_some_iff.1 hf
            obtain ⟨tf, htf⟩ := hpl' f (by rw [← hy]; simp)
            simp [htf, hf, g]
        rw [hplace] at hcs
        obtain ⟨arr', h1, h2⟩ := fill_ok hz hl hr hcs
        refine .now h (.agg arr' h2.1 h2.2) fun w' => ?_
        simp only [Instr.build, run_bind, zeroValue_run hT ht, run_underlying_of hT ht]
        have h3 := hmap w'
        simp only [bind_pure_comp, map_toList] at h1 h3 ⊢
        rw [h3]
        simp only [h1]
        rfl
      · rw [hz] at htold; simp [AVal.told] at htold
    · exact h.elim
  · rename_i len e' sz by_ z ht
    split at h
    · rename_i s hs
      obtain ⟨te, hte, hsz⟩ := elemSize_of hs
      split at h
      · rename_i cs hcs
        replace h := needE h
        obtain ⟨hb', h⟩ := h
        obtain ⟨hall, hb'⟩ := andE hb'
        obtain ⟨h1, hb'⟩ := andE hb'
        obtain ⟨h2, htold⟩ := andE hb'
        have h1 := beqE h1
        have h2 := beqE h2
        rcases avalCells (w := w) (O := O) (ad := ad) z with hz | hz
        · obtain ⟨arr', h3, h4⟩ := fill_ok hz hl hr hcs
          refine .now h (.av arr' (by rw [h4.1]; omega) fun i hi j hj => ?_) fun w' => ?_
          · refine allPv_prel hall h4 ?_
            rw [h2, h1]
            calc i * s + j < i * s + s := by omega
              _ = (i + 1) * s := by rw [Nat.add_mul, Nat.one_mul]
              _ ≤ len * s := Nat.mul_le_mul_right _ (by omega)
          · simp only [Instr.build, run_bind, zeroValue_run hT ht, run_underlying_of hT ht, run_sizeOf_of hT hte, hsz]
            simp only [map_toList] at h3 ⊢
            simp only [h3]
            rfl
        · rw [hz] at htold; simp [AVal.told] at htold
      · exact h.elim
    · exact h.elim
  · exact h.elim

theorem max2_run (k k' : IntKind) (a b : Int) (w : World) : (Builtin.max2 (.int k a) (.int k' b)).run P w = .ok (.int k (max a b)) w := by
  have : (if b > a then b else a) = max a b := by
    by_cases h : b > a
    · rw [if_pos h]; omega
    · rw [if_neg h]; omega
  rw [← this]; rfl

theorem min2_run (k k' : IntKind) (a b : Int) (w : World) : (Builtin.min2 (.int k a) (.int k' b)).run P w = .ok (.int k (min a b)) w := by
  have : (if b < a then b else a) = min a b := by
    by_cases h : b < a
    · rw [if_pos h]; omega
    · rw [if_neg h]; omega
  rw [← this]; rfl

theorem mm_fold {f : Int → Int → Int} {g : Value → Value → Sem Value} (hg : ∀ k k' a b w, (g (.int k a) (.int k' b)).run P w = .ok (.int k (f a b)) w) {e : Operand → AVal} {ρ : Operand → Value}
    (he : ∀ x, VRel w O ad (posOf x) (e x) (ρ x)) {k : IntKind} (xs : List Operand) : ∀ (a : Int), mmK f k a (evAll e xs) K → ∃ n, K (.pv false (.int k n)) ∧ ∀ w', ((xs.map ρ).foldlM g (.int k a)).run P w' = .ok (.int k n) w' := by
  induction xs with
  | nil => intro a h; exact ⟨a, h, fun w' => rfl⟩
  | cons x r ih =>
    intro a h
    simp only [evAll] at h
    cases hx : e x with
    | pv o p =>
      cases p with
      | int k' b =>
        rw [hx] at h
        obtain ⟨n, hn, hrun⟩ := ih (f a b) h
        refine ⟨n, hn, fun w' => ?_⟩
        have hv := he x
        rw [hx] at hv
        have hv := int_of hv
        simp only [List.map_cons, List.foldlM_cons, run_bind, hv, hg]
        exact hrun w'
      | _ => rw [hx] at h; exact h.elim
    | _ => rw [hx] at h; exact h.elim

theorem vop_ok (hT : TabOk P T) (hU : Uni O) (hH : HeapRel w O ad H) {e : Operand → AVal} {ρ : Operand → Value} (he : ∀ x, VRel w O ad (posOf x) (e x) (ρ x)) {o : Oper} (h : vop T H e o.op K) :
    VOk P w O ad (execOp ρ o) K := by
  have opt : ∀ {x : Option Operand}, (x.map e = none ∧ x.map ρ = none) ∨ ∃ p a v, x.map e = some a ∧ x.map ρ = some v ∧ VRel w O ad p a v := fun {x} => by
    cases x with
    | none => exact .inl ⟨rfl, rfl⟩
    | some x => exact .inr ⟨_, _, _, rfl, rfl, he x⟩
  unfold vop at h
  unfold execOp
  split at h <;> rename_i heq <;> (try simp only [heq])
  · exact ⟨_, _, h, (he _).shed _, fun _ _ => rfl⟩
  · exact ⟨_, _, h, (he _).shed _, fun _ _ => rfl⟩
  · rename_i c a b
    split at h
    · rename_i o' t hc
      have hb := bool_of (hc ▸ he c)
      cases t with
      | true => exact ⟨_, _, h, (he a).shed _, fun w' _ => by simp only [run_bind, hb, asBool, run_pure, if_true]⟩
      | false => exact ⟨_, _, h, (he b).shed _, fun w' _ => by simp only [run_bind, hb, asBool, run_pure, Bool.false_eq_true, if_false]⟩
    · exact h.elim
  · exact .of_value (load_ok hT hU hH (he _) h)
  · exact .of_value (field_ok hT (he _) h)
  · exact .of_value (indexAddr_ok hT (he _) (he _) h)
  · exact .of_value (index_ok hT (he _) (he _) h)
  · exact .of_value (fieldV_ok hT (he _) h)
  · exact .of_value (bin_ok hT (he _) (he _) h)
  · exact .of_value (un_ok (he _) h)
  · exact .of_value (convert_ok hT (he _) h)
  · exact .of_value (makeFunc_ok he h)
  · exact .of_value (slice_ok hT (he _) opt opt opt h)
  · exact .of_value (build_ok hT he h)
  · rename_i x i
    split at h
    · rename_i vs hx
      split at h
      · rename_i v hv
        have hr := he x
        rw [hx] at hr
        revert hr
        generalize ρ x = rv
        intro hr
        cases hr with
        | tup a hs hr =>
          have hlt : i < a.size := by rw [hs]; exact nth_lt hv
          refine ⟨_, a.getD i undef, h, (hr i v hv).shed _, fun w' _ => ?_⟩
          simp only [Instr.extract, run_bind, Array.getElem?_eq_getElem hlt, run_pure, Array.getD, hlt, dif_pos]
          rfl
      · exact h.elim
    · exact h.elim
  · rename_i x
    have hr := he x
    split at h
    · rename_i o' n c j hx
      rw [hx] at hr
      have := prel_of hr
      revert this
      generalize ρ x = rv
      intro this
      cases this with
      | cptr vals hc hr => exact ⟨_, _, h, .pv (.cptr vals hc hr), fun _ _ => rfl⟩
    · rename_i o' b n c hx
      rw [hx] at hr
      obtain ⟨hb, hkk⟩ := cndE h
      subst hb
      have := prel_of hr
      revert this
      generalize ρ x = rv
      intro this
      cases this with
      | optrS h' =>
        cases h' with
        | cptr vals hc hr => exact ⟨_, _, hkk, .pv (.cptr vals hc hr), fun _ _ => rfl⟩
    · rename_i k sz i j hx
      rw [hx] at hr
      revert hr
      generalize ρ x = rv
      intro hr
      cases hr with
      | ptr hk => exact ⟨_, _, h, .ptr hk, fun _ _ => rfl⟩
    · rename_i o' f n c hx
      rw [hx] at hr
      have := prel_of hr
      revert this
      generalize ρ x = rv
      intro this
      cases this with
      | fn a hs hr => exact ⟨_, _, h, .pv (.fn a hs hr), fun _ _ => rfl⟩
    · rename_i f cs hx
      rw [hx] at hr
      revert hr
      generalize ρ x = rv
      intro hr
      cases hr with
      | fn a hs hr => exact ⟨_, _, h, .fn a hs hr, fun _ _ => rfl⟩
    · exact h.elim
  · rename_i args ts
    cases ha : args[0]? with
    | none => rw [ha] at h; unfold lenK at h; split at h <;> simp at h
    | some x =>
      rw [ha] at h
      have := lenOf_run (ty := o.type) (args := args.map ρ) hT (he x) (by simp [ha]) h
      obtain ⟨y, rv, hk, hr, hrun⟩ := this
      refine ⟨y, rv, hk, hr, fun w' hw => ?_⟩
      simp only [resolve, run_bind, run_pure, invoke, builtin]
      rw [hrun w' hw]
  · rename_i args ts
    split at h
    · rename_i o' k a r hr
      cases hl : args.toList with
      | nil => rw [hl] at hr; cases hr
      | cons x xs =>
        rw [hl] at hr
        obtain ⟨h1, h2⟩ := List.cons.inj hr
        subst h2
        obtain ⟨n, hn, hrun⟩ := mm_fold (g := Builtin.max2) (fun k k' a b w => max2_run k k' a b w) he xs a h
        refine ⟨_, _, hn, .pv (.int _ _), fun w' _ => ?_⟩
        have hv := he x
        rw [h1] at hv
        have hv := int_of hv
        simp only [resolve, run_bind, run_pure, invoke, builtin, Builtin.max_, Array.toList_map, hl, List.map_cons, hv]
        rw [hrun w']
    · exact h.elim
  · rename_i args ts
    split at h
    · rename_i o' k a r hr
      cases hl : args.toList with
      | nil => rw [hl] at hr; cases hr
      | cons x xs =>
        rw [hl] at hr
        obtain ⟨h1, h2⟩ := List.cons.inj hr
        subst h2
        obtain ⟨n, hn, hrun⟩ := mm_fold (g := Builtin.min2) (fun k k' a b w => min2_run k k' a b w) he xs a h
        refine ⟨_, _, hn, .pv (.int _ _), fun w' _ => ?_⟩
        have hv := he x
        rw [h1] at hv
        have hv := int_of hv
        simp only [resolve, run_bind, run_pure, invoke, builtin, Builtin.min_, Array.toList_map, hl, List.map_cons, hv]
        rw [hrun w']
    · exact h.elim
  · exact h.elim

end
end Go.Proofs.Ytgghnfmabphbmaa.Fw
