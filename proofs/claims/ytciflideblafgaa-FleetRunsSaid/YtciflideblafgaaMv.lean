/- Depots and moves: what the functions compute. -/
import Derived.Test.YtciflideblafgaaMvL
open Go Go.Proofs.Ytciflideblafgaa.Fw
namespace Go.Proofs.Ytciflideblafgaa
set_option maxRecDepth 100000
set_option linter.unusedSimpArgs false
set_option linter.unusedVariables false

theorem f80_ok (l : List Int) (hl : l.length ≤ 2 ^ 40) : CallOK Try.prog 80 [.pv false (intsP l)] [] fun r _ => r = .pv true (intsP l) := by
  refine CallOK.le (CallOK.of_run (tabOf_ok _) hm (fn := Try.f80) (c := bodyOf Try.f80) (fl := f80_fl) (C := shpM) (by kernel_rfl) (by kernel_rfl) (by kernel_rfl) (Nat.le_of_ble_eq_true rfl) ?_)
  rw [f80_tree]
  intro b hb
  refine br_mk (fun h => ?_) (fun h => ⟨⟨by omega, by omega⟩, ?_⟩)
  · have : l = [] := List.length_eq_zero_iff.1 (hb h)
    subst this
    exact Vle.nil
  · have : intsP l = .lst 1 .any (0 + l.length) fun i _ => .int .i64 (l.getD i 0) := by simp [intsP]
    rw [this]
    refine Vle.own (.inl rfl) (fun i hi j hj => ?_)
    simp [appEl, Nat.blt]
    try rfl

theorem f80_call {l : List Int} (hl : l.length ≤ 2 ^ 40) {k : List Int → Prop} (h : k l) : CallT Try.prog (sh (List Int) fun l => .pv true (intsP l)) 80 [.pv false (intsP l)] [] k :=
  CallOK.callT (f80_ok l hl) h

theorem trk_small {d : Depot} (hd : DOk d) (i : Nat) (hi : i < d.tracks.length) : (d.tracks.getD (Int.toNat (i : Int)) []).length ≤ 2 ^ 40 := by
  rw [Int.toNat_natCast]
  have := hd.each i hi
  omega

theorem f129_ok {d : Depot} (hd : DOk d) (n : Int) : CallOK Try.prog 129 [bI n, depP d] [] fun r _ => r = bB (inB n 0 ((d.tracks.length : Int) - 1)) := by
  refine CallOK.of_run (tabOf_ok _) hm (fn := Try.f129) (c := bodyOf Try.f129) (fl := f129_fl) (C := shpM) (by kernel_rfl) (by kernel_rfl) (by kernel_rfl) (Nat.le_of_ble_eq_true rfl) ?_
  rw [f129_tree]
  have h4 := hd.r4
  have hl := hd.len
  rw [wrap_i64 (by omega) (by omega)]
  exact (f76_ok _ _ _).callT rfl

theorem f31_ok (a b : List Int) (ha : a.length < 2 ^ 63) : CallOK Try.prog 31 [.pv false (intsP a), .pv false (intsP b)] [] fun r _ => r = bB (decide (a = b)) := by
  refine CallOK.of_run (tabOf_ok _) hm (fn := Try.f31) (c := bodyOf Try.f31) (fl := f31_fl) (C := shpM) (by kernel_rfl) (by kernel_rfl) (by kernel_rfl) (Nat.le_of_ble_eq_true rfl) ?_
  rw [f31_tree]
  refine br_ndec (fun h => ?_) (fun h => ?_)
  · have : a ≠ b := fun e => h (by rw [e])
    simp [this]
  have hlen : a.length = b.length := by omega
  refine LoopK.for [0, 1, 12, 13] [] 0 (fun i => f31_s4 a b i) (fun i => i ≤ a.length ∧ (a = b ↔ a.drop i = b.drop i)) (fun i => a.length - i) 0 _ (f31_ret4 _) (Le.of_eq rfl) ⟨by omega, by simp⟩ ?_
  rintro i ⟨hi, he⟩
  rw [f31_body4]
  refine br_dec (fun hc => ⟨⟨by omega, hc⟩, ⟨by omega, by omega⟩, br_ndec (fun hq => ?_) (fun hq => ⟨i + 1, ⟨by omega, ?_⟩, Le.of_eq ?_, by omega⟩)⟩) (fun hc => ?_)
  · rw [drop_cons (d := 0) (by omega), drop_cons (l := b) (d := 0) (by omega)] at he
    simp only [Int.toNat_natCast] at hq
    have : a ≠ b := fun e => hq (List.cons.inj (he.1 e)).1
    simp [this]
  · rw [drop_cons (d := 0) (by omega), drop_cons (l := b) (d := 0) (by omega)] at he
    simp only [Int.toNat_natCast] at hq
    rw [he, hq]; simp
  · rw [wrap_i64 (by omega) (by omega)]; rfl
  · show kont _ _ _ _ _ (bodyOf Try.f31) _ (.exit 0) _
    have : a = b := he.2 (by rw [List.drop_eq_nil_of_le (by omega), List.drop_eq_nil_of_le (by omega)])
    rw [f31_exit4_0 a b i]
    simp [this]

theorem f82_ok (a b : List (List Int)) (ha : a.length < 2 ^ 63) (hs : ∀ t ∈ a, t.length < 2 ^ 63) : CallOK Try.prog 82 [.pv false (listsP a), .pv false (listsP b), .pv false (.fn 31 0 fun _ => .junk)] [] fun r _ => r = bB (decide (a = b)) := by
  refine CallOK.of_run (tabOf_ok _) hm (fn := Try.f82) (c := bodyOf Try.f82) (fl := f82_fl) (C := shpM) (by kernel_rfl) (by kernel_rfl) (by kernel_rfl) (Nat.le_of_ble_eq_true rfl) ?_
  rw [f82_tree]
  refine br_ndec (fun h => ?_) (fun h => ?_)
  · have : a ≠ b := fun e => h (by rw [e])
    simp [this]
  have hlen : a.length = b.length := by omega
  refine LoopK.for [1, 2, 15, 16, 17] [] 0 (fun i => f82_s4 a b i) (fun i => i ≤ a.length ∧ (a = b ↔ a.drop i = b.drop i)) (fun i => a.length - i) 0 _ (f82_ret4 _) (Le.of_eq rfl) ⟨by omega, by simp⟩ ?_
  rintro i ⟨hi, he⟩
  rw [f82_body4]
  refine br_dec (fun hc => ⟨⟨by omega, hc⟩, ⟨by omega, by omega⟩, ?_⟩) (fun hc => ?_)
  · have ht : (a.getD i []).length < 2 ^ 63 := by
      rw [List.getD_eq_getElem?_getD, List.getElem?_eq_getElem (by omega)]; exact hs _ (by simp)
    rw [drop_cons (d := []) (by omega), drop_cons (l := b) (d := []) (by omega)] at he
    simp only [Int.toNat_natCast]
    refine (f31_ok _ _ ht).callT (br_mk (fun hq => ?_) (fun hq => ⟨i + 1, ⟨by omega, ?_⟩, Le.of_eq ?_, by omega⟩))
    · have hq' : ¬ a.getD i [] = b.getD i [] := by simpa using hq
      have : a ≠ b := fun e => hq' (List.cons.inj (he.1 e)).1
      simp [this]
    · have hq' : a.getD i [] = b.getD i [] := by simpa using hq
      rw [he, hq']; simp
    · rw [wrap_i64 (by omega) (by omega)]; rfl
  · show kont _ _ _ _ _ (bodyOf Try.f82) _ (.exit 0) _
    have : a = b := he.2 (by rw [List.drop_eq_nil_of_le (by omega), List.drop_eq_nil_of_le (by omega)])
    rw [f82_exit4_0 a b i]
    simp [this]

theorem f29_ok (a b : Depot) (h1 : a.room.length < 2 ^ 63) (h2 : a.tracks.length < 2 ^ 63) (h3 : ∀ t ∈ a.tracks, t.length < 2 ^ 63) : CallOK Try.prog 29 [depV a, depV b] [] fun r _ => r = bB (decide (a.room = b.room ∧ a.tracks = b.tracks)) := by
  refine CallOK.of_run (tabOf_ok _) hm (fn := Try.f29) (c := bodyOf Try.f29) (fl := f29_fl) (C := shpM) (by kernel_rfl) (by kernel_rfl) (by kernel_rfl) (Nat.le_of_ble_eq_true rfl) ?_
  rw [f29_tree]
  refine (f31_ok _ _ h1).callT (br_mk (fun h => (f82_ok _ _ h2 h3).callT ?_) fun h => ?_)
  · have h : a.room = b.room := by simpa using h
    simp [h]
  · have h : ¬ a.room = b.room := by simpa using h
    simp [h]

theorem row_first {d : Depot} (hd : DOk d) : Ble (.row 1 1 (fun _ _ => intsP (d.tracks.getD (Int.toNat ((0 : Nat) : Int)) [])) fun _ _ => true) (rowsB (d.tracks.take (0 + 1))) := by
  have h1 := hd.r1
  have hl := hd.len
  have hlen : (d.tracks.take (0 + 1)).length = 1 := by rw [List.length_take]; omega
  refine ⟨rfl, hlen, fun i hi j hj => Vle.of_eq ?_⟩
  obtain rfl : i = 0 := by omega
  simp [List.getD_eq_getElem?_getD, List.getElem?_take]

theorem row_one {d : Depot} (hd : DOk d) : ∀ i y, nth [.pv false (intsP d.room), AVal.arr 2 1 0 (d.tracks.take (0 + 1)).length] i = some y → ∃ x, nth [.pv false (intsP d.room), AVal.arr 2 1 0 1] i = some x ∧ Vle x y := by
  have h1 := hd.r1
  have hl := hd.len
  have hlen : (d.tracks.take (0 + 1)).length = 1 := by rw [List.length_take]; omega
  rw [hlen]
  exact fun i y hy => ⟨y, hy, Vle.refl _⟩

theorem box_next {d : Depot} (hd : DOk d) {i : Nat} (hi : i + 1 < d.tracks.length) : Ble (.box [.pv false (intsP d.room), .arr 2 1 0 ((d.tracks.take (i + 1)).length + 1)]) (.box [.pv false (intsP d.room), .arr 2 1 0 (d.tracks.take (i + 1 + 1)).length]) := by
  have e : (d.tracks.take (i + 1)).length + 1 = (d.tracks.take (i + 1 + 1)).length := by rw [List.length_take, List.length_take]; omega
  rw [e]; exact Ble.refl _

theorem row_next {d : Depot} (hd : DOk d) {i : Nat} (hi : i + 1 < d.tracks.length) :
    Ble (.row 1 ((d.tracks.take (i + 1)).length + 1) (appEl (d.tracks.take (i + 1)).length (fun k _ => intsP ((d.tracks.take (i + 1)).getD k [])) fun _ _ => intsP (d.tracks.getD (Int.toNat ((i + 1 : Nat) : Int)) [])) fun k j => bif Nat.blt k (d.tracks.take (i + 1)).length then true else true)
      (rowsB (d.tracks.take (i + 1 + 1))) := by
  have e1 : (d.tracks.take (i + 1)).length = i + 1 := by rw [List.length_take]; omega
  have e2 : (d.tracks.take (i + 1 + 1)).length = i + 1 + 1 := by rw [List.length_take]; omega
  refine ⟨rfl, by rw [e1, e2], fun k hk j hj => Vle.of_eq ?_⟩
  rw [e1] at hk ⊢
  have ht : (bif Nat.blt k (i + 1) then true else true) = true := by cases Nat.blt k (i + 1) <;> rfl
  show AVal.pv (bif Nat.blt k (i + 1) then true else true) _ = _
  rw [ht]
  congr 1
  unfold appEl
  by_cases c : k < i + 1
  · have h1 : Nat.blt k (i + 1) = true := Nat.ble_eq_true_of_le c
    rw [h1]
    simp [List.getD_eq_getElem?_getD, List.getElem?_take, c, show k < i + 1 + 1 by omega]
  · have h1 : Nat.blt k (i + 1) = false := Bool.eq_false_iff.2 fun h => c (Nat.le_of_ble_eq_true h)
    obtain rfl : k = i + 1 := by omega
    rw [h1]
    simp [List.getD_eq_getElem?_getD, List.getElem?_take]

theorem f81_loop (d : Depot) (m : Move) (hd : DOk d) {Q : Go.Exit → St → Prop} {K : AVal → Prop} (hr : Q .ret = fun s => retK TT Try.f81.results s K)
    (hx : Q (.exit 1) ⟨131, [(3, moveP m), (4, .ptr 0 0 0 0), (8, .ptr 1 0 0 0)], [.box [nilP, nilP], .box [.pv false (intsP d.room), .arr 2 1 0 d.tracks.length], rowsB d.tracks], 0, fun _ => 0⟩) :
    LoopK (run Try.prog TT shpM (f81_fl d m) (sub [1, 1, 1, 1, 0, 1, 0, 0] (bodyOf Try.f81))) Q (f81_s12 d m 0 d.room) := by
  have hl := hd.len
  have h1 := hd.r1
  have h4 := hd.r4
  refine LoopK.for [3, 4, 8, 76, 77, 78] [3, 4, 8] 4 (fun i => match i with | 0 => f81_s12 d m 0 d.room | i + 1 => f81_s12b d m (i + 1) d.room (d.tracks.take (i + 1))) (fun i => i ≤ d.tracks.length) (fun i => d.tracks.length - i) 0 _ hr (Le.of_eq rfl) (by omega) ?_
  rintro i hi
  match i, hi with
  | 0, hi =>
    show run _ _ _ _ _ _ (f81_s12 d m 0 d.room)
    rw [f81_body12]
    refine br_dec (fun hc => ⟨⟨by omega, hc⟩, ?_⟩) (fun hc => absurd (by omega : ((0 : Nat) : Int) < (d.tracks.length : Int)) hc)
    refine f80_call (trk_small hd 0 (by omega)) ?_
    refine ⟨⟨rfl, by decide, by decide, by decide⟩, 1, by omega, ?_, by omega⟩
    refine Le.trans (Le.perm [0, 1, 3] rfl rfl) (Le.all rfl rfl rfl ?_ ?_)
    · exact EnvLe.refl _
    · exact HeapLe.same (HeapLe.cons ⟨rfl, row_one hd⟩ (HeapLe.cons (row_first hd) HeapLe.nil))
  | i + 1, hi =>
    show run _ _ _ _ _ _ (f81_s12b d m (i + 1) d.room (d.tracks.take (i + 1)))
    rw [f81_body12b]
    have hlen : (d.tracks.take (i + 1)).length = i + 1 := by rw [List.length_take]; omega
    refine br_dec (fun hc => ⟨⟨by omega, hc⟩, ?_⟩) (fun hc => ?_)
    · have hi' : i + 1 < d.tracks.length := by omega
      refine f80_call (trk_small hd (i + 1) hi') ?_
      refine ⟨⟨rfl, rfl, by omega, by omega⟩, i + 2, by omega, ?_, by omega⟩
      rw [wrap_i64 (by omega) (by omega)]
      refine Le.trans (Le.perm [0, 1, 2] rfl rfl) (Le.all rfl rfl rfl (EnvLe.refl _) ?_)
      exact HeapLe.same (HeapLe.cons (box_next hd hi') (HeapLe.cons (row_next hd hi') HeapLe.nil))
    · have e : i + 1 = d.tracks.length := by omega
      rw [e, List.take_length]
      exact hx

theorem f32_loop (d : Depot) (m : Move) (hd : DOk d) {Q : Go.Exit → St → Prop} {K : AVal → Prop} (hr : Q .ret = fun s => retK TT Try.f32.results s K)
    (hx : Q (.exit 0) ⟨133, [(3, moveP m), (4, .ptr 0 0 0 0), (8, .ptr 1 0 0 0)], [.box [nilP, nilP], .box [.pv false (intsP d.room), .arr 2 1 0 d.tracks.length], rowsB d.tracks], 0, fun _ => 0⟩) :
    LoopK (run Try.prog TT shpM (f32_fl d m) (sub [1, 1, 1, 1, 1, 1, 1, 0, 1, 0, 0] (bodyOf Try.f32))) Q (f32_s12 d m 0 d.room) := by
  have hl := hd.len
  have h1 := hd.r1
  have h4 := hd.r4
  refine LoopK.for [3, 4, 8, 77, 78, 79] [3, 4, 8] 4 (fun i => match i with | 0 => f32_s12 d m 0 d.room | i + 1 => f32_s12b d m (i + 1) d.room (d.tracks.take (i + 1))) (fun i => i ≤ d.tracks.length) (fun i => d.tracks.length - i) 0 _ hr (Le.of_eq rfl) (by omega) ?_
  rintro i hi
  match i, hi with
  | 0, hi =>
    show run _ _ _ _ _ _ (f32_s12 d m 0 d.room)
    rw [f32_body12]
    refine br_dec (fun hc => ⟨⟨by omega, hc⟩, ?_⟩) (fun hc => absurd (by omega : ((0 : Nat) : Int) < (d.tracks.length : Int)) hc)
    refine f80_call (trk_small hd 0 (by omega)) ?_
    refine ⟨⟨rfl, by decide, by decide, by decide⟩, 1, by omega, ?_, by omega⟩
    refine Le.trans (Le.perm [0, 1, 3] rfl rfl) (Le.all rfl rfl rfl ?_ ?_)
    · exact EnvLe.refl _
    · exact HeapLe.same (HeapLe.cons ⟨rfl, row_one hd⟩ (HeapLe.cons (row_first hd) HeapLe.nil))
  | i + 1, hi =>
    show run _ _ _ _ _ _ (f32_s12b d m (i + 1) d.room (d.tracks.take (i + 1)))
    rw [f32_body12b]
    have hlen : (d.tracks.take (i + 1)).length = i + 1 := by rw [List.length_take]; omega
    refine br_dec (fun hc => ⟨⟨by omega, hc⟩, ?_⟩) (fun hc => ?_)
    · have hi' : i + 1 < d.tracks.length := by omega
      refine f80_call (trk_small hd (i + 1) hi') ?_
      refine ⟨⟨rfl, rfl, by omega, by omega⟩, i + 2, by omega, ?_, by omega⟩
      rw [wrap_i64 (by omega) (by omega)]
      refine Le.trans (Le.perm [0, 1, 2] rfl rfl) (Le.all rfl rfl rfl (EnvLe.refl _) ?_)
      exact HeapLe.same (HeapLe.cons (box_next hd hi') (HeapLe.cons (row_next hd hi') HeapLe.nil))
    · have e : i + 1 = d.tracks.length := by omega
      rw [e, List.take_length]
      exact hx
theorem appEl_ints {t : List Int} {s : Int} {k j : Nat} (hk : k < t.length + 1) (hj : j < 1) :
    appEl t.length (fun i _ => .int .i64 (t.getD i 0)) (fun i j => pvAt [bI s] (i * 1 + j)) k j = .int .i64 ((t ++ [s]).getD k 0) := by
  obtain rfl : j = 0 := by omega
  unfold appEl
  by_cases c : k < t.length
  · have h1 : Nat.blt k t.length = true := Nat.ble_eq_true_of_le c
    rw [h1]
    simp [List.getD_eq_getElem?_getD, List.getElem?_append, c]
  · have h1 : Nat.blt k t.length = false := Bool.eq_false_iff.2 fun h => c (Nat.le_of_ble_eq_true h)
    obtain rfl : k = t.length := by omega
    rw [h1]
    simp [List.getD_eq_getElem?_getD, pvAt]
    rfl

def nilD : Depot := ⟨[], []⟩
def doR (d : Depot) (m : Move) : Depot × Int × Int := if doE d m = 0 then (mvD d m, mvS d m, 0) else (nilD, 0, doE d m)
def doR' (d : Depot) (m : Move) : Depot × Int × Int := if doE d m = 0 then (mvD d m, if m.to < 0 then mvS d m else -1, 0) else (nilD, -1, doE d m)

theorem nilP_ple {n : Nat} (hn : n = 0) {s : Nat} {e : Nat → Nat → PV} : Ple (.lst 0 .isNil 0 fun _ _ => .junk) (.lst s .any n e) := by
  subst hn; exact Ple.nil (.inr rfl)

theorem nilD_wle {r : List AVal} : Wle (.tup (.agg [nilP, nilP] :: r)) (.tup (depV nilD :: r)) :=
  Wle.tup (.cons (Wle.agg (.cons (Wle.pv (nilP_ple rfl)) (.cons (Wle.pv (nilP_ple rfl)) .nil))) (WleL.refl _))

theorem wr_len {l : List Int} (h : l.length ≠ 0) (h4 : l.length ≤ 2 ^ 40) : IntKind.i64.wrap ((l.length : Int) - 1) = ((l.length - 1 : Nat) : Int) := by
  rw [wrap_i64 (by omega) (by omega)]; omega

theorem mvD_len (d : Depot) (m : Move) : (mvD d m).tracks.length = d.tracks.length := by
  simp only [mvD]; split <;> simp [cutT_len]

theorem cut_row {d : Depot} {m : Move} (h : doE d m = 0) :
    Ble (.row 1 d.tracks.length (fun a b => bif Nat.beq a m.frm.toNat && Nat.beq b 0 then PV.lst 1 .any ((d.tracks.getD m.frm.toNat []).length - 1) (fun i j => .int .i64 ((d.tracks.getD m.frm.toNat []).getD i 0)) else intsP (d.tracks.getD a []))
      fun a b => bif Nat.beq a m.frm.toNat && Nat.beq b 0 then false else true) (cutRow d m) := by
  obtain ⟨⟨h1, h2, h3, h4⟩, h5, h6, h7⟩ := doE_zero h
  refine ⟨rfl, rfl, fun i hi j hj => ?_⟩
  obtain rfl : j = 0 := by omega
  by_cases e : i = m.frm.toNat
  · subst e
    have e1 : Nat.beq m.frm.toNat m.frm.toNat = true := Nat.beq_refl _
    simp only [e1, show Nat.beq 0 0 = true from rfl, Bool.and_true, cond_true, Bool.not_true]
    have e2 : (cutT d m).getD m.frm.toNat [] = (d.tracks.getD m.frm.toNat []).take ((d.tracks.getD m.frm.toNat []).length - 1) := by
      simp [cutT, List.getD_eq_getElem?_getD, hi]
    rw [e2]
    generalize d.tracks.getD m.frm.toNat [] = t
    have e3 : (t.take (t.length - 1)).length = t.length - 1 := by simp
    show Vle (.pv false _) (.pv false (.lst 1 .any (t.take (t.length - 1)).length _))
    rw [e3]
    refine Vle.pv (Ple.lst (.inl rfl) fun k hk j hj => ?_)
    simp [List.getD_eq_getElem?_getD, List.getElem?_take, hk, show k < t.length by omega]
  · have e1 : Nat.beq i m.frm.toNat = false := Bool.eq_false_iff.2 fun h => e (Nat.eq_of_beq_eq_true h)
    simp only [e1, Bool.false_and, cond_false, Bool.not_false]
    refine Vle.of_eq ?_
    have e2 : (cutT d m).getD i [] = d.tracks.getD i [] := by
      simp [cutT, List.getD_eq_getElem?_getD, List.getElem?_set, Ne.symm e]
    rw [e2]

theorem put_tracks {d : Depot} {m : Move} (h : doE d m = 0) (h0 : 0 ≤ m.to) :
    Ple (.lst 1 .any d.tracks.length fun i j => bif Nat.beq i m.to.toNat && Nat.beq j 0 then
        PV.lst 1 .any (((cutT d m).getD m.to.toNat []).length + 1) (appEl ((cutT d m).getD m.to.toNat []).length (fun i _ => .int .i64 (((cutT d m).getD m.to.toNat []).getD i 0)) fun i j => pvAt [bI (mvS d m)] (i * 1 + j))
      else intsP ((cutT d m).getD i [])) (listsP (mvD d m).tracks) := by
  obtain ⟨⟨h1, h2, h3, h4⟩, h5, h6, h7⟩ := doE_zero h
  show Ple _ (.lst 1 .any (mvD d m).tracks.length _)
  rw [mvD_len]
  refine Ple.lst' (.inl rfl) fun i hi j hj => ?_
  obtain rfl : j = 0 := by omega
  simp only [mvD, h0, if_true]
  by_cases e : i = m.to.toNat
  · subst e
    have e1 : Nat.beq m.to.toNat m.to.toNat = true := Nat.beq_refl _
    simp only [e1, show Nat.beq 0 0 = true from rfl, Bool.and_true, cond_true]
    have e2 : ((cutT d m).set m.to.toNat ((cutT d m).getD m.to.toNat [] ++ [mvS d m])).getD m.to.toNat [] = (cutT d m).getD m.to.toNat [] ++ [mvS d m] := by
      have : m.to.toNat < (cutT d m).length := by rw [cutT_len]; exact hi
      simp [List.getD_eq_getElem?_getD, this]
    rw [e2]
    generalize (cutT d m).getD m.to.toNat [] = t
    show Ple _ (.lst 1 .any (t ++ [mvS d m]).length _)
    rw [show (t ++ [mvS d m]).length = t.length + 1 by simp]
    refine Ple.lst (.inl rfl) fun k hk j hj => ?_
    exact appEl_ints hk hj
  · have e1 : Nat.beq i m.to.toNat = false := Bool.eq_false_iff.2 fun h => e (Nat.eq_of_beq_eq_true h)
    simp only [e1, Bool.false_and, cond_false]
    refine Ple.of_eq ?_
    have e2 : ((cutT d m).set m.to.toNat ((cutT d m).getD m.to.toNat [] ++ [mvS d m])).getD i [] = (cutT d m).getD i [] := by
      simp [List.getD_eq_getElem?_getD, List.getElem?_set, Ne.symm e]
    rw [e2]

theorem cut_tracks {d : Depot} {m : Move} (h0 : ¬ 0 ≤ m.to) : Ple (.lst 1 .any d.tracks.length fun i j => intsP ((cutT d m).getD i [])) (listsP (mvD d m).tracks) := by
  refine Ple.of_eq ?_
  simp only [mvD, h0, if_false]
  show _ = PV.lst 1 .any (cutT d m).length _
  rw [cutT_len]

theorem f81_end {d : Depot} {m : Move} (hd : DOk d) (h : doE d m = 0) : kont Try.prog TT shpM (f81_fl d m) [1, 1, 1, 1, 0, 1, 0] (bodyOf Try.f81) (retQ TT Try.f81.results fun r => Vle r (.tup [depV (doR d m).1, bI (doR d m).2.1, bI (doR d m).2.2])) (.exit 1)
    ⟨131, [(3, moveP m), (4, .ptr 0 0 0 0), (8, .ptr 1 0 0 0)], [.box [nilP, nilP], .box [.pv false (intsP d.room), .arr 2 1 0 d.tracks.length], rowsB d.tracks], 0, fun _ => 0⟩ := by
  obtain ⟨⟨h1, h2, h3, h4⟩, h5, h6, h7⟩ := doE_zero h
  have hsm := trk_small hd m.frm.toNat (by omega)
  rw [Int.toNat_natCast] at hsm
  rw [f81_exit12b_1 d m 0 [] []]
  simp only [Nat.zero_add, wr_len h6 hsm, Int.toNat_natCast, Int.sub_zero]
  have hto : ∀ (h0 : 0 ≤ m.to), ((cutT d m).getD m.to.toNat []).length + 1 ≤ 5 := fun h0 => by
    have hx := h7 h0
    have hy := hd.each m.to.toNat (by omega)
    have e1 : (cutT d m).getD m.to.toNat [] = d.tracks.getD m.to.toNat [] := by
      have : m.frm.toNat ≠ m.to.toNat := by omega
      simp [cutT, List.getD_eq_getElem?_getD, List.getElem?_set, this]
    rw [e1]; omega
  refine ⟨⟨h1, h2⟩, by omega, ⟨by omega, by omega⟩, ⟨⟨by decide, by omega, by omega⟩, ⟨h1, h2⟩, by omega, ?_⟩, br_dec (fun h0 => ?_) fun h0 => ?_⟩
  · exact Le.all rfl rfl rfl (EnvLe.refl _) (HeapLe.same (HeapLe.same (HeapLe.cons (cut_row h) HeapLe.nil)))
  · refine ⟨⟨h0, h4⟩, br_mk (fun _ => ⟨by omega, ⟨by have := hto h0; omega, by have := hto h0; omega⟩, ⟨h0, h4⟩, by omega, by omega, ?_⟩) fun hf => ?_⟩
    · refine Wle.vle ?_
      rw [doR, if_pos h]
      exact Wle.tup (.cons (Wle.agg (.same (.cons (Wle.pv (put_tracks h h0)) .nil))) (WleL.refl _))
    · have : Nat.beq m.to.toNat m.frm.toNat = false := Bool.eq_false_iff.2 fun hh => by
        have := Nat.eq_of_beq_eq_true hh
        omega
      rw [this] at hf
      exact absurd hf (by decide)
  · refine ⟨by omega, Wle.vle ?_⟩
    rw [doR, if_pos h]
    exact Wle.tup (.cons (Wle.agg (.same (.cons (Wle.pv (cut_tracks h0)) .nil))) (WleL.refl _))

theorem f81_ok {d : Depot} {m : Move} (hd : DOk d) : CallOK Try.prog 81 [depV d, moveV m] [] fun r _ => r = .tup [depV (doR d m).1, bI (doR d m).2.1, bI (doR d m).2.2] := by
  refine CallOK.le (CallOK.of_run (tabOf_ok _) hm (fn := Try.f81) (c := bodyOf Try.f81) (fl := f81_fl d m) (C := shpM) (by kernel_rfl) (by kernel_rfl) (by kernel_rfl) (Nat.le_of_ble_eq_true rfl) ?_)
  rw [f81_tree]
  have hl := hd.len
  have h1 := hd.r1
  have h4 := hd.r4
  have hcl : doE d m = 0 → CallT Try.prog (shpM 80) 80 [.pv false (intsP d.room)] [] fun r => LoopK (run Try.prog TT shpM (f81_fl d m) (sub [1, 1, 1, 1, 0, 1, 0, 0] (bodyOf Try.f81)))
      (kont Try.prog TT shpM (f81_fl d m) [1, 1, 1, 1, 0, 1, 0] (bodyOf Try.f81) (retQ TT Try.f81.results fun r => Vle r (.tup [depV (doR d m).1, bI (doR d m).2.1, bI (doR d m).2.2]))) (f81_s12 d m 0 r) := fun h =>
    f80_call (by omega) (f81_loop d m hd (f81_ret12 d m _) (f81_end hd h))
  have err : ∀ e : Int, doE d m = e → e ≠ 0 → Vle (.tup [.agg [nilP, nilP], bI 0, bI e]) (.tup [depV (doR d m).1, bI (doR d m).2.1, bI (doR d m).2.2]) := fun e he h0 => by
    rw [doR, if_neg (by omega), he]; exact Wle.vle nilD_wle
  refine (f129_ok hd m.frm).callT (br_not (fun hf => err 2 ?_ (by decide)) (fun hf => (f129_ok hd m.to).callT ?_))
  · have : ¬ (0 ≤ m.frm ∧ m.frm ≤ (d.tracks.length : Int) - 1) := by simpa [inB] using hf
    unfold doE; rw [if_neg (by omega)]
  have hf' : 0 ≤ m.frm ∧ m.frm ≤ (d.tracks.length : Int) - 1 := by simpa [inB] using hf
  have big : -1 ≤ m.to ∧ m.to < d.tracks.length → br (decide (m.frm = m.to)) (Vle (.tup [.agg [nilP, nilP], bI 0, bI 1]) (.tup [depV (doR d m).1, bI (doR d m).2.1, bI (doR d m).2.2]))
     ((0 ≤ m.frm ∧ m.frm < (d.tracks.length : Int)) ∧ br (decide (((d.tracks.getD m.frm.toNat []).length : Int) = 0)) (Vle (.tup [.agg [nilP, nilP], bI 0, bI 9]) (.tup [depV (doR d m).1, bI (doR d m).2.1, bI (doR d m).2.2]))
       (br (decide (0 ≤ m.to)) ((0 ≤ m.to ∧ m.to < (d.tracks.length : Int)) ∧ (0 ≤ m.to ∧ m.to < (d.room.length : Int)) ∧ br (decide (d.room.getD m.to.toNat 0 ≤ ((d.tracks.getD m.to.toNat []).length : Int)))
          (Vle (.tup [.agg [nilP, nilP], bI 0, bI 14]) (.tup [depV (doR d m).1, bI (doR d m).2.1, bI (doR d m).2.2]))
          (CallT Try.prog (shpM 80) 80 [.pv false (intsP d.room)] [] fun r => LoopK (run Try.prog TT shpM (f81_fl d m) (sub [1, 1, 1, 1, 0, 1, 0, 0] (bodyOf Try.f81)))
            (kont Try.prog TT shpM (f81_fl d m) [1, 1, 1, 1, 0, 1, 0] (bodyOf Try.f81) (retQ TT Try.f81.results fun r => Vle r (.tup [depV (doR d m).1, bI (doR d m).2.1, bI (doR d m).2.2]))) (f81_s12 d m 0 r)))
          (CallT Try.prog (shpM 80) 80 [.pv false (intsP d.room)] [] fun r => LoopK (run Try.prog TT shpM (f81_fl d m) (sub [1, 1, 1, 1, 0, 1, 0, 0] (bodyOf Try.f81)))
            (kont Try.prog TT shpM (f81_fl d m) [1, 1, 1, 1, 0, 1, 0] (bodyOf Try.f81) (retQ TT Try.f81.results fun r => Vle r (.tup [depV (doR d m).1, bI (doR d m).2.1, bI (doR d m).2.2]))) (f81_s12 d m 0 r)))) := by
    intro hto
    have hr : 0 ≤ m.frm ∧ m.frm < (d.tracks.length : Int) ∧ -1 ≤ m.to ∧ m.to < (d.tracks.length : Int) := ⟨by omega, by omega, hto.1, hto.2⟩
    refine br_dec (fun he => err 1 ?_ (by decide)) fun he => ⟨⟨hr.1, hr.2.1⟩, br_dec (fun hz => err 9 ?_ (by decide)) fun hz => br_dec (fun h0 => ⟨⟨h0, hto.2⟩, ⟨h0, by omega⟩, br_dec (fun hx => err 14 ?_ (by decide)) fun hx => hcl ?_⟩) fun h0 => hcl ?_⟩
    all_goals unfold doE
    · rw [if_pos hr, if_pos he]
    · rw [if_pos hr, if_neg he, if_pos (by omega)]
    · rw [if_pos hr, if_neg he, if_neg (by omega), if_pos ⟨h0, hx⟩]
    · rw [if_pos hr, if_neg he, if_neg (by omega), if_neg (fun h => hx h.2)]
    · rw [if_pos hr, if_neg he, if_neg (by omega), if_neg (fun h => h0 h.1)]
  refine br_not (fun ht => br_ndec (fun hx => err 2 ?_ (by decide)) fun hx => big ?_) (fun ht => big ?_)
  · have : ¬ (0 ≤ m.to ∧ m.to ≤ (d.tracks.length : Int) - 1) := by simpa [inB] using ht
    unfold doE; rw [if_neg (by omega)]
  · omega
  · have : (0 ≤ m.to ∧ m.to ≤ (d.tracks.length : Int) - 1) := by simpa [inB] using ht
    omega

theorem f32_end {d : Depot} {m : Move} (hd : DOk d) (h : doE d m = 0) : kont Try.prog TT shpM (f32_fl d m) [1, 1, 1, 1, 1, 1, 1, 0, 1, 0] (bodyOf Try.f32) (retQ TT Try.f32.results fun r => Vle r (.tup [depV (doR' d m).1, bI (doR' d m).2.1, bI (doR' d m).2.2])) (.exit 0)
    ⟨133, [(3, moveP m), (4, .ptr 0 0 0 0), (8, .ptr 1 0 0 0)], [.box [nilP, nilP], .box [.pv false (intsP d.room), .arr 2 1 0 d.tracks.length], rowsB d.tracks], 0, fun _ => 0⟩ := by
  obtain ⟨⟨h1, h2, h3, h4⟩, h5, h6, h7⟩ := doE_zero h
  have hsm := trk_small hd m.frm.toNat (by omega)
  rw [Int.toNat_natCast] at hsm
  rw [f32_exit12b_0 d m 0 [] []]
  simp only [Nat.zero_add, wr_len h6 hsm, Int.toNat_natCast, Int.sub_zero]
  have hto : ∀ (h0 : 0 ≤ m.to), ((cutT d m).getD m.to.toNat []).length + 1 ≤ 5 := fun h0 => by
    have hx := h7 h0
    have hy := hd.each m.to.toNat (by omega)
    have e1 : (cutT d m).getD m.to.toNat [] = d.tracks.getD m.to.toNat [] := by
      have : m.frm.toNat ≠ m.to.toNat := by omega
      simp [cutT, List.getD_eq_getElem?_getD, List.getElem?_set, this]
    rw [e1]; omega
  refine ⟨⟨h1, h2⟩, by omega, ⟨by omega, by omega⟩, ⟨⟨by decide, by omega, by omega⟩, ⟨h1, h2⟩, by omega, ?_⟩, br_dec (fun h0 => ?_) fun h0 => ?_⟩
  · exact Le.all rfl rfl rfl (EnvLe.refl _) (HeapLe.same (HeapLe.same (HeapLe.cons (cut_row h) HeapLe.nil)))
  · refine ⟨by omega, Wle.vle ?_⟩
    rw [doR', if_pos h, if_pos h0]
    exact Wle.tup (.cons (Wle.agg (.same (.cons (Wle.pv (cut_tracks (by omega))) .nil))) (WleL.refl _))
  · have h0' : 0 ≤ m.to := by omega
    refine ⟨⟨h0', h4⟩, br_mk (fun _ => ⟨by omega, ⟨by have := hto h0'; omega, by have := hto h0'; omega⟩, ⟨h0', h4⟩, by omega, by omega, ?_⟩) fun hf => ?_⟩
    · refine Wle.vle ?_
      rw [doR', if_pos h, if_neg h0]
      exact Wle.tup (.cons (Wle.agg (.same (.cons (Wle.pv (put_tracks h h0')) .nil))) (WleL.refl _))
    · have : Nat.beq m.to.toNat m.frm.toNat = false := Bool.eq_false_iff.2 fun hh => by
        have := Nat.eq_of_beq_eq_true hh
        omega
      rw [this] at hf
      exact absurd hf (by decide)

theorem f32_ok {d : Depot} {m : Move} (hd : DOk d) : CallOK Try.prog 32 [depV d, moveV m] [] fun r _ => r = .tup [depV (doR' d m).1, bI (doR' d m).2.1, bI (doR' d m).2.2] := by
  refine CallOK.le (CallOK.of_run (tabOf_ok _) hm (fn := Try.f32) (c := bodyOf Try.f32) (fl := f32_fl d m) (C := shpM) (by kernel_rfl) (by kernel_rfl) (by kernel_rfl) (Nat.le_of_ble_eq_true rfl) ?_)
  rw [f32_tree]
  have hl := hd.len
  have h1 := hd.r1
  have h4 := hd.r4
  have hcl : doE d m = 0 → CallT Try.prog (shpM 80) 80 [.pv false (intsP d.room)] [] fun r => LoopK (run Try.prog TT shpM (f32_fl d m) (sub [1, 1, 1, 1, 1, 1, 1, 0, 1, 0, 0] (bodyOf Try.f32)))
      (kont Try.prog TT shpM (f32_fl d m) [1, 1, 1, 1, 1, 1, 1, 0, 1, 0] (bodyOf Try.f32) (retQ TT Try.f32.results fun r => Vle r (.tup [depV (doR' d m).1, bI (doR' d m).2.1, bI (doR' d m).2.2]))) (f32_s12 d m 0 r) := fun h =>
    f80_call (by omega) (f32_loop d m hd (f32_ret12 d m _) (f32_end hd h))
  have err : ∀ e : Int, doE d m = e → e ≠ 0 → Vle (.tup [.agg [nilP, nilP], bI (-1), bI e]) (.tup [depV (doR' d m).1, bI (doR' d m).2.1, bI (doR' d m).2.2]) := fun e he h0 => by
    rw [doR', if_neg (by omega), he]; exact Wle.vle nilD_wle
  have bad : ¬ (0 ≤ m.frm ∧ m.frm < d.tracks.length ∧ -1 ≤ m.to ∧ m.to < d.tracks.length) → doE d m = 2 := fun h => by unfold doE; rw [if_neg h]
  refine br_dec (fun ha => err 2 (bad (by omega)) (by decide)) fun ha => br_dec (fun hb => err 2 (bad (by omega)) (by decide)) fun hb => br_dec (fun hc => err 2 (bad (by omega)) (by decide)) fun hc => br_dec (fun hx => err 2 (bad (by omega)) (by decide)) fun hx => ?_
  have hr : 0 ≤ m.frm ∧ m.frm < (d.tracks.length : Int) ∧ -1 ≤ m.to ∧ m.to < (d.tracks.length : Int) := ⟨by omega, by omega, by omega, by omega⟩
  refine br_dec (fun he => err 1 ?_ (by decide)) fun he => ⟨⟨hr.1, hr.2.1⟩, br_dec (fun hz => err 9 ?_ (by decide)) fun hz => br_dec (fun h0 => ⟨⟨h0, hr.2.2.2⟩, ⟨h0, by omega⟩, br_dec (fun hx => err 14 ?_ (by decide)) fun hx => hcl ?_⟩) fun h0 => hcl ?_⟩
  all_goals unfold doE
  · rw [if_pos hr, if_pos he]
  · rw [if_pos hr, if_neg he, if_pos (by omega)]
  · rw [if_pos hr, if_neg he, if_neg (by omega), if_pos ⟨h0, hx⟩]
  · rw [if_pos hr, if_neg he, if_neg (by omega), if_neg (fun h => hx h.2)]
  · rw [if_pos hr, if_neg he, if_neg (by omega), if_neg (fun h => h0 h.1)]

def do2 (d : Depot) (m : Move) : Depot × Int := if depotF d = 0 then ((doR d m).1, (doR d m).2.2) else (nilD, depotF d)

theorem f28_ok (d : Depot) (m : Move) (h1 : d.room.length < 2 ^ 63) (h2 : d.tracks.length < 2 ^ 63) (h3 : ∀ t ∈ d.tracks, t.length < 2 ^ 63) :
    CallOK Try.prog 28 [depV d, moveV m] [] fun r _ => r = .tup [depV (do2 d m).1, bI (do2 d m).2] := by
  refine CallOK.le (CallOK.of_run (tabOf_ok _) hm (fn := Try.f28) (c := bodyOf Try.f28) (fl := f28_fl) (C := shpM) (by kernel_rfl) (by kernel_rfl) (by kernel_rfl) (Nat.le_of_ble_eq_true rfl) ?_)
  rw [f28_tree]
  refine (f22_ok d h1 h2 h3).callT (br_ndec (fun h => ?_) fun h => ?_)
  · rw [do2, if_neg h]; exact Wle.vle nilD_wle
  · rw [do2, if_pos h]
    exact CallOK.callT (emb := fun x : Depot × Int × Int => .tup [depV x.1, bI x.2.1, bI x.2.2]) (y := doR d m) (f81_ok ((depotF_iff d).1 h)) (Vle.refl _)

def playF (x : Depot) (out : List Int) : List Move → Depot × List Int × Int
  | [] => (x, out, 0)
  | m :: r => if doE x m = 0 then playF (mvD x m) (if m.to < 0 then out ++ [mvS x m] else out) r else (nilD, [], doE x m)

def playR (d : Depot) (l : List Move) : Depot × List Int × Int := if depotF d = 0 then playF d [] l else (nilD, [], depotF d)

theorem nil3_wle {e : Int} : Wle (.tup [.agg [nilP, nilP], nilP, bI e]) (.tup [depV nilD, .pv false (intsP []), bI e]) :=
  Wle.tup (.cons (Wle.agg (.cons (Wle.pv (nilP_ple rfl)) (.cons (Wle.pv (nilP_ple rfl)) .nil))) (.cons (Wle.pv (nilP_ple rfl)) (WleL.refl _)))

theorem out_vle {out : List Int} {s : Int} : Vle (.pv true (.lst 1 .any (out.length + 1) (appEl out.length (fun i _ => .int .i64 (out.getD i 0)) fun i j => pvAt [bI s] (i * 1 + j)))) (.pv true (intsP (out ++ [s]))) := by
  show Vle _ (.pv true (.lst 1 .any (out ++ [s]).length _))
  rw [show (out ++ [s]).length = out.length + 1 by simp]
  exact Vle.own (.inl rfl) fun i hi j hj => appEl_ints hi hj

theorem playF_step {x : Depot} {out : List Int} {l : List Move} {i : Nat} (h : i < l.length) : playF x out (l.drop i) = if doE x (l.getD (Int.toNat (i : Int)) move0) = 0 then playF (mvD x (l.getD (Int.toNat (i : Int)) move0)) (if (l.getD (Int.toNat (i : Int)) move0).to < 0 then out ++ [mvS x (l.getD (Int.toNat (i : Int)) move0)] else out) (l.drop (i + 1)) else (nilD, [], doE x (l.getD (Int.toNat (i : Int)) move0)) := by
  rw [drop_cons (d := move0) h]; rfl

theorem f27_play (d : Depot) (l : List Move) (hd : DOk d) (hl : l.length < 2 ^ 63) {Q : Go.Exit → St → Prop} {K : AVal → Prop} (hr : Q .ret = fun s => retK TT Try.f27.results s K)
    (hx : ∀ x out, playF d [] l = (x, out, 0) → Q (.exit 2) ⟨70, [(4, .ptr 0 0 0 0), (8, .ptr 1 0 0 0), (11, .pv true (intsP out))], [.box [nilP, nilP], .box (depC x)], 0, fun _ => 0⟩)
    (he : ∀ e, playF d [] l = (nilD, [], e) → K (.tup [.agg [nilP, nilP], nilP, bI e])) {st : St} (h0 : Le st (f27_s12 d l 0 d [])) :
    LoopK (run Try.prog TT shpM f27_fl (sub [1, 1, 1, 1, 1, 0, 1, 0, 0] (bodyOf Try.f27))) Q st := by
  refine LoopK.for [4, 8, 11, 42, 43, 44] [4, 8, 11] 2 (fun y : Nat × Depot × List Int => f27_s12 d l y.1 y.2.1 y.2.2) (fun y => y.1 ≤ l.length ∧ DOk y.2.1 ∧ y.2.2.length + y.2.1.tracks.flatten.length ≤ 16 ∧ playF d [] l = playF y.2.1 y.2.2 (l.drop y.1)) (fun y => l.length - y.1) (0, d, []) _ hr h0
    ⟨by simp, hd, by have := total_le hd; simpa using this, by simp⟩ ?_
  rintro ⟨i, x, out⟩ ⟨hi, hok, hto, hp⟩
  simp only at hi hok hto hp ⊢
  rw [f27_body12]
  refine br_dec (fun hc => ⟨⟨by omega, hc⟩, ?_⟩) fun hc => ?_
  · rw [playF_step (by omega)] at hp
    refine CallOK.callT (emb := fun x : Depot × Int × Int => .tup [depV x.1, bI x.2.1, bI x.2.2]) (y := doR x (l.getD (Int.toNat (i : Int)) move0)) (f81_ok hok) ?_
    generalize l.getD (Int.toNat (i : Int)) move0 = m at hp ⊢
    by_cases hz : doE x m = 0
    · rw [if_pos hz] at hp
      rw [show doR x m = (mvD x m, mvS x m, 0) from if_pos hz]
      refine br_ndec (fun h => absurd rfl h) fun _ => ?_
      have ht := mv_total hz
      refine br_dec (fun h => ?_) fun h => ?_
      · rw [if_pos h] at hp ht
        refine ⟨⟨by omega, by omega⟩, (i + 1, mvD x m, out ++ [mvS x m]), ⟨by simp only; omega, mvD_ok hok hz, ?_, hp⟩, ?_, by simp only; omega⟩
        · simp only [List.length_append, List.length_singleton]; omega
        · rw [wrap_i64 (by omega) (by omega)]
          exact Le.env (.same rfl (.same rfl (.cons out_vle (.same rfl (.same rfl (.same rfl (EnvLe.nil _)))))))
      · rw [if_neg h] at hp ht
        refine ⟨(i + 1, mvD x m, out), ⟨by simp only; omega, mvD_ok hok hz, ?_, hp⟩, Le.of_eq ?_, by simp only; omega⟩
        · simp only; omega
        · rw [wrap_i64 (by omega) (by omega)]; rfl
    · rw [if_neg hz] at hp
      rw [show doR x m = (nilD, 0, doE x m) from if_neg hz]
      exact br_ndec (fun _ => he _ hp) fun h => absurd h hz
  · refine hx x out ?_
    rw [hp, List.drop_eq_nil_of_le (by omega)]; rfl

theorem f27_loop (d : Depot) (l : List Move) (hd : DOk d) {Q : Go.Exit → St → Prop} {K : AVal → Prop} (hr : Q .ret = fun s => retK TT Try.f27.results s K)
    (hx : Q (.exit 0) ⟨70, [(1, .pv false (movesP l)), (4, .ptr 0 0 0 0), (8, .ptr 1 0 0 0)], [.box [nilP, nilP], .box [.pv false (intsP d.room), .arr 2 1 0 d.tracks.length], rowsB d.tracks], 0, fun _ => 0⟩) :
    LoopK (run Try.prog TT shpM f27_fl (sub [1, 1, 1, 0, 1, 0, 0] (bodyOf Try.f27))) Q (f27_s6 d l 0 d.room) := by
  have hl := hd.len
  have h1 := hd.r1
  have h4 := hd.r4
  refine LoopK.for [1, 4, 8, 28, 29, 30] [1, 4, 8] 4 (fun i => match i with | 0 => f27_s6 d l 0 d.room | i + 1 => f27_s6b d l (i + 1) d.room (d.tracks.take (i + 1))) (fun i => i ≤ d.tracks.length) (fun i => d.tracks.length - i) 0 _ hr (Le.of_eq rfl) (by omega) ?_
  rintro i hi
  match i, hi with
  | 0, hi =>
    show run _ _ _ _ _ _ (f27_s6 d l 0 d.room)
    rw [f27_body6]
    refine br_dec (fun hc => ⟨⟨by omega, hc⟩, ?_⟩) (fun hc => absurd (by omega : ((0 : Nat) : Int) < (d.tracks.length : Int)) hc)
    refine f80_call (trk_small hd 0 (by omega)) ?_
    refine ⟨⟨rfl, by decide, by decide, by decide⟩, 1, by omega, ?_, by omega⟩
    refine Le.trans (Le.perm [0, 1, 3] rfl rfl) (Le.all rfl rfl rfl ?_ ?_)
    · exact EnvLe.refl _
    · exact HeapLe.same (HeapLe.cons ⟨rfl, row_one hd⟩ (HeapLe.cons (row_first hd) HeapLe.nil))
  | i + 1, hi =>
    show run _ _ _ _ _ _ (f27_s6b d l (i + 1) d.room (d.tracks.take (i + 1)))
    rw [f27_body6b]
    have hlen : (d.tracks.take (i + 1)).length = i + 1 := by rw [List.length_take]; omega
    refine br_dec (fun hc => ⟨⟨by omega, hc⟩, ?_⟩) (fun hc => ?_)
    · have hi' : i + 1 < d.tracks.length := by omega
      refine f80_call (trk_small hd (i + 1) hi') ?_
      refine ⟨⟨rfl, rfl, by omega, by omega⟩, i + 2, by omega, ?_, by omega⟩
      rw [wrap_i64 (by omega) (by omega)]
      refine Le.trans (Le.perm [0, 1, 2] rfl rfl) (Le.all rfl rfl rfl (EnvLe.refl _) ?_)
      exact HeapLe.same (HeapLe.cons (box_next hd hi') (HeapLe.cons (row_next hd hi') HeapLe.nil))
    · have e : i + 1 = d.tracks.length := by omega
      rw [e, List.take_length]
      exact hx

theorem f27_start (d : Depot) (l : List Move) : Le ⟨70, [(4, .ptr 0 0 0 0), (8, .ptr 1 0 0 0), (11, nilP), (42, .pv false (movesP l)), (43, bI l.length), (44, bI 0)], [.box [nilP, nilP], .box [.pv false (intsP d.room), .arr 2 1 0 d.tracks.length], rowsB d.tracks], 0, fun _ => 0⟩ (f27_s12 d l 0 d []) := by
  refine Le.trans (b := ⟨70, [(4, .ptr 0 0 0 0), (8, .ptr 1 0 0 0), (11, nilP), (42, .pv false (movesP l)), (43, bI l.length), (44, bI 0)], [.box [nilP, nilP], .box [.pv false (intsP d.room), .pv false (.lst 1 .any d.tracks.length fun i j => intsP (d.tracks.getD (0 + i) []))]], 0, fun _ => 0⟩)
    (Le.freeze (k := 2) (s := 1) (m := d.tracks.length) rfl rfl (Nat.zero_le 2) rfl rfl rfl (fun e => .inr (.inl ⟨rfl, okE_get e rfl⟩)) rfl (fun i b' hb => ?_)) ?_
  · match i, hb with
    | 0, hb => exact ⟨_, rfl, .inl ⟨by simpa [Fw.nth] using hb.symm, rfl⟩⟩
    | 1, hb =>
      simp only [Fw.nth, Option.some.injEq] at hb
      refine ⟨_, rfl, .inr ⟨_, _, rfl, hb.symm, rfl, fun j y hy => ?_⟩⟩
      match j, hy with
      | 0, hy => exact ⟨_, rfl, .inr (.inl ⟨by simpa [Fw.nth] using hy.symm, rfl⟩)⟩
      | 1, hy => exact ⟨_, rfl, .inl ⟨0, d.tracks.length, rfl, by omega, by simpa [Fw.nth] using hy.symm⟩⟩
  · simp only [Nat.zero_add]
    exact Le.all rfl rfl rfl (.same rfl (.same rfl (.cons Vle.nil (.same rfl (.same rfl (.same rfl (EnvLe.nil _))))))) (HeapLe.refl _)

theorem f27_ok (d : Depot) (l : List Move) (h1 : d.room.length < 2 ^ 63) (h2 : d.tracks.length < 2 ^ 63) (h3 : ∀ t ∈ d.tracks, t.length < 2 ^ 63) (hl : l.length < 2 ^ 63) :
    CallOK Try.prog 27 [depV d, .pv false (movesP l)] [] fun r _ => r = .tup [depV (playR d l).1, .pv false (intsP (playR d l).2.1), bI (playR d l).2.2] := by
  refine CallOK.le (CallOK.of_run (tabOf_ok _) hm (fn := Try.f27) (c := bodyOf Try.f27) (fl := f27_fl) (C := shpM) (by kernel_rfl) (by kernel_rfl) (by kernel_rfl) (Nat.le_of_ble_eq_true rfl) ?_)
  rw [f27_tree]
  refine (f22_ok d h1 h2 h3).callT (br_ndec (fun h => ?_) fun h => ?_)
  · rw [playR, if_neg h]; exact Wle.vle nil3_wle
  · have hd := (depotF_iff d).1 h
    refine f80_call (by have := hd.r4; omega) (f27_loop d l hd (f27_ret6 _) ?_)
    rw [f27_exit6b_0 d l 0 d.room d.tracks]
    refine f27_play d l hd hl (f27_ret12 _) (fun x out hx => ?_) (fun e he => ?_) (f27_start d l)
    · rw [f27_exit12_2 d l 0 x out, playR, if_pos h, hx]
      exact Vle.refl _
    · rw [playR, if_pos h, he]
      exact Wle.vle nil3_wle

theorem f30_play (d : Depot) (l : List Move) (hd : DOk d) (hl : l.length < 2 ^ 63) {Q : Go.Exit → St → Prop} {K : AVal → Prop} (hr : Q .ret = fun s => retK TT Try.f30.results s K)
    (hx : ∀ x out, playF d [] l = (x, out, 0) → Q (.exit 0) ⟨40, [(2, .ptr 0 0 0 0), (4, .ptr 1 0 0 0), (7, .pv true (intsP out))], [.box (depC x), .box [nilP, nilP]], 0, fun _ => 0⟩)
    (he : ∀ e, playF d [] l = (nilD, [], e) → K (.tup [.agg [nilP, nilP], nilP, bI e])) {st : St} (h0 : Le st (f30_s3 d l 0 d [])) :
    LoopK (run Try.prog TT shpM f30_fl (sub [1, 1, 0, 1, 0, 0] (bodyOf Try.f30))) Q st := by
  refine LoopK.for [2, 4, 7, 13, 14, 15] [2, 4, 7] 2 (fun y : Nat × Depot × List Int => f30_s3 d l y.1 y.2.1 y.2.2) (fun y => y.1 ≤ l.length ∧ DOk y.2.1 ∧ y.2.2.length + y.2.1.tracks.flatten.length ≤ 16 ∧ playF d [] l = playF y.2.1 y.2.2 (l.drop y.1)) (fun y => l.length - y.1) (0, d, []) _ hr h0
    ⟨by simp, hd, by have := total_le hd; simpa using this, by simp⟩ ?_
  rintro ⟨i, x, out⟩ ⟨hi, hok, hto, hp⟩
  simp only at hi hok hto hp ⊢
  rw [f30_body3]
  refine br_dec (fun hc => ⟨⟨by omega, hc⟩, ?_⟩) fun hc => ?_
  · rw [playF_step (by omega)] at hp
    refine CallOK.callT (emb := fun x : Depot × Int × Int => .tup [depV x.1, bI x.2.1, bI x.2.2]) (y := doR' x (l.getD (Int.toNat (i : Int)) move0)) (f32_ok hok) ?_
    generalize l.getD (Int.toNat (i : Int)) move0 = m at hp ⊢
    by_cases hz : doE x m = 0
    · rw [if_pos hz] at hp
      rw [show doR' x m = (mvD x m, if m.to < 0 then mvS x m else -1, 0) from if_pos hz]
      refine br_ndec (fun h => absurd rfl h) fun _ => ?_
      have ht := mv_total hz
      have hs := mvS_rng hok hz
      refine br_dec (fun h' => ?_) fun h' => ?_
      · have h : m.to < 0 := Decidable.byContradiction fun h => by
          have h' : 0 ≤ (if m.to < 0 then mvS x m else -1) := h'
          rw [if_neg h] at h'; omega
        rw [if_pos h] at hp ht
        rw [if_pos h]
        refine ⟨⟨by omega, by omega⟩, (i + 1, mvD x m, out ++ [mvS x m]), ⟨by simp only; omega, mvD_ok hok hz, ?_, hp⟩, ?_, by simp only; omega⟩
        · simp only [List.length_append, List.length_singleton]; omega
        · rw [wrap_i64 (by omega) (by omega)]
          exact Le.env (.same rfl (.same rfl (.cons out_vle (.same rfl (.same rfl (.same rfl (EnvLe.nil _)))))))
      · have h : ¬ m.to < 0 := fun h => by
          have h' : ¬ 0 ≤ (if m.to < 0 then mvS x m else -1) := h'
          rw [if_pos h] at h'; omega
        rw [if_neg h] at hp ht
        refine ⟨(i + 1, mvD x m, out), ⟨by simp only; omega, mvD_ok hok hz, ?_, hp⟩, Le.of_eq ?_, by simp only; omega⟩
        · simp only; omega
        · rw [wrap_i64 (by omega) (by omega)]; rfl
    · rw [if_neg hz] at hp
      rw [show doR' x m = (nilD, -1, doE x m) from if_neg hz]
      exact br_ndec (fun _ => he _ hp) fun h => absurd h hz
  · refine hx x out ?_
    rw [hp, List.drop_eq_nil_of_le (by omega)]; rfl


theorem f30_ok (d : Depot) (l : List Move) (hd : DOk d) (hl : l.length < 2 ^ 63) :
    CallOK Try.prog 30 [depV d, .pv false (movesP l)] [] fun r _ => r = .tup [depV (playF d [] l).1, .pv false (intsP (playF d [] l).2.1), bI (playF d [] l).2.2] := by
  refine CallOK.le (CallOK.of_run (tabOf_ok _) hm (fn := Try.f30) (c := bodyOf Try.f30) (fl := f30_fl) (C := shpM) (by kernel_rfl) (by kernel_rfl) (by kernel_rfl) (Nat.le_of_ble_eq_true rfl) ?_)
  rw [f30_tree]
  refine f30_play d l hd hl (f30_ret3 _) (fun x out hx => ?_) (fun e he => ?_) ?_
  · rw [f30_exit3_0 d l 0 x out, hx]
    exact Vle.refl _
  · rw [he]
    exact Wle.vle nil3_wle
  · exact Le.all rfl rfl rfl (.same rfl (.same rfl (.cons Vle.nil (.same rfl (.same rfl (.same rfl (EnvLe.nil _))))))) (HeapLe.refl _)

/-- short lists only -/
structure DSm (d : Depot) : Prop where
  r : d.room.length < 2 ^ 63
  t : d.tracks.length < 2 ^ 63
  e : ∀ t ∈ d.tracks, t.length < 2 ^ 63

theorem DOk.sm {d : Depot} (h : DOk d) : DSm d := by
  have h4 := h.r4
  have hl := h.len
  refine ⟨by omega, by omega, fun t ht => ?_⟩
  obtain ⟨i, hi, rfl⟩ := List.getElem_of_mem ht
  have := h.each i hi
  simp only [List.getD_eq_getElem?_getD, List.getElem?_eq_getElem hi, Option.getD_some] at this
  omega

theorem nilD_sm : DSm nilD := ⟨by decide, by decide, fun t ht => by simp [nilD] at ht⟩

theorem playF_sm : ∀ (l : List Move) (x : Depot) (out : List Int), DOk x → out.length + x.tracks.flatten.length ≤ 16 → DSm (playF x out l).1 ∧ (playF x out l).2.1.length < 2 ^ 63
  | [], x, out, hx, hl => ⟨hx.sm, by show out.length < _; omega⟩
  | m :: r, x, out, hx, hl => by
    simp only [playF]
    split
    · rename_i h
      have ht := mv_total h
      refine playF_sm r _ _ (mvD_ok hx h) ?_
      split
      · rename_i h0
        rw [if_pos h0] at ht
        simp only [List.length_append, List.length_singleton]; omega
      · rename_i h0
        rw [if_neg h0] at ht
        omega
    · exact ⟨nilD_sm, by simp⟩

theorem f29_call {a b : Depot} (h : DSm a) {k : Bool → Prop} (e : a = b) (hk : k true) : CallT Try.prog (sh Bool bB) 29 [depV a, depV b] [] k := by
  refine (f29_ok a b h.r h.t h.e).callT ?_
  subst e
  simpa using hk

theorem f5_loop (d : Depot) (l : List Move) (p q : Depot) (hd : DOk d) (hl : l.length < 2 ^ 63) {Q : Go.Exit → St → Prop} {K : AVal → Prop} (hr : Q .ret = fun s => retK TT Try.f5.results s K)
    (hx : ∀ x, Q (.exit 0) ⟨119, [], [.box (depC p), .box (depC q), .box (depC x)], 0, fun _ => 0⟩) :
    LoopK (run Try.prog TT shpM f5_fl (sub [1, 1, 1, 1, 1, 1, 0, 1, 0, 0] (bodyOf Try.f5))) Q (f5_s11 d l 0 p q d) := by
  refine LoopK.for [14, 87, 88, 89] [] 3 (fun y : Nat × Depot => f5_s11 d l y.1 p q y.2) (fun y => y.1 ≤ l.length ∧ DOk y.2) (fun y => l.length - y.1) (0, d) _ hr (Le.of_eq rfl) ⟨by simp, hd⟩ ?_
  rintro ⟨i, x⟩ ⟨hi, hok⟩
  simp only at hi hok ⊢
  rw [f5_body11]
  refine br_dec (fun hc => ⟨⟨by omega, hc⟩, ?_⟩) fun hc => hx x
  refine CallOK.callT (emb := fun x : Depot × Int => .tup [depV x.1, bI x.2]) (y := do2 x (l.getD (Int.toNat (i : Int)) move0)) (f28_ok x _ hok.sm.r hok.sm.t hok.sm.e) ?_
  refine CallOK.callT (emb := fun x : Depot × Int × Int => .tup [depV x.1, bI x.2.1, bI x.2.2]) (y := doR' x (l.getD (Int.toNat (i : Int)) move0)) (f32_ok hok) ?_
  generalize l.getD (Int.toNat (i : Int)) move0 = m
  have h0 := (depotF_iff x).2 hok
  by_cases hz : doE x m = 0
  · rw [show doR' x m = (mvD x m, if m.to < 0 then mvS x m else -1, 0) from if_pos hz, show do2 x m = (mvD x m, 0) by rw [do2, if_pos h0, doR, if_pos hz]]
    refine br_ndec (fun h => absurd rfl h) fun _ => f29_call (mvD_ok hok hz).sm rfl (br_not (fun h => by simp at h) fun _ => br_ndec (fun h => absurd rfl h) fun _ => ⟨(i + 1, mvD x m), ⟨by simp only; omega, mvD_ok hok hz⟩, Le.of_eq ?_, by simp only; omega⟩)
    rw [wrap_i64 (by omega) (by omega)]; rfl
  · rw [show doR' x m = (nilD, -1, doE x m) from if_neg hz, show do2 x m = (nilD, doE x m) by rw [do2, if_pos h0, doR, if_neg hz]]
    exact br_ndec (fun h => absurd rfl h) fun _ => f29_call nilD_sm rfl (br_not (fun h => by simp at h) fun _ => br_ndec (fun _ => hx x) fun h => absurd h hz)

theorem f5_ok (d : Depot) (l : List Move) (h1 : d.room.length < 2 ^ 63) (h2 : d.tracks.length < 2 ^ 63) (h3 : ∀ t ∈ d.tracks, t.length < 2 ^ 63) (hl : l.length < 2 ^ 63) :
    CallOK Try.prog 5 [depV d, .pv false (movesP l)] [] fun r _ => r = bB true := by
  refine CallOK.of_run (tabOf_ok _) hm (fn := Try.f5) (c := bodyOf Try.f5) (fl := f5_fl) (C := shpM) (by kernel_rfl) (by kernel_rfl) (by kernel_rfl) (Nat.le_of_ble_eq_true rfl) ?_
  rw [f5_tree]
  refine CallOK.callT (emb := fun x : Depot × List Int × Int => .tup [depV x.1, .pv false (intsP x.2.1), bI x.2.2]) (y := playR d l) (f27_ok d l h1 h2 h3 hl) ?_
  refine (f20_ok d).callT (br_ndec (fun h => ?_) fun h => ?_)
  · refine CallOK.callT (emb := fun x : Depot × Int => .tup [depV x.1, bI x.2]) (y := do2 d ⟨0, -1⟩) (f28_ok d ⟨0, -1⟩ h1 h2 h3) ?_
    refine f21_ok.callT ?_
    rw [show playR d l = (nilD, [], depotF d) from if_neg h, show do2 d ⟨0, -1⟩ = (nilD, depotF d) from if_neg h]
    refine br_mk (fun _ => br_dec (fun _ => br_dec (fun _ => br_dec (fun _ => ?_) fun h => absurd rfl h) fun h => absurd rfl h) fun h => absurd rfl h) fun h => by simp at h
    have hA := (f29_ok nilD nilD nilD_sm.r nilD_sm.t nilD_sm.e).args (args := [depV nilD, .agg [nilP, nilP]]) (.same (.cons (Alen.agg (.cons (Alen.pv (nilP_ple rfl)) (.cons (Alen.pv (nilP_ple rfl)) .nil))) .nil))
    refine hA.callT ?_
    simp
  · have hd := (depotF_iff d).1 h
    refine CallOK.callT (emb := fun x : Depot × List Int × Int => .tup [depV x.1, .pv false (intsP x.2.1), bI x.2.2]) (y := playF d [] l) (f30_ok d l hd hl) ?_
    refine f21_ok.callT ?_
    rw [show playR d l = playF d [] l from if_pos h]
    obtain ⟨s1, s2⟩ := playF_sm l d [] hd (by simpa using total_le hd)
    refine br_not (fun h => by simp at h) fun _ => br_ndec (fun h => absurd rfl h) fun _ => (f31_ok _ _ s2).callT (br_not (fun h => by simp at h) fun _ => f29_call s1 rfl (br_not (fun h => by simp at h) fun _ => ?_))
    refine f5_loop d l _ _ hd hl (f5_ret11 _) fun x => ?_
    rw [f5_exit11_0 d l 0 (playF d [] l).1 (playF d [] l).1 x]

end Go.Proofs.Ytciflideblafgaa
