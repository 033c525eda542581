/- What CheckTasks, CheckLimits, judge, Judge and the reference's functions of the same names return; that FleetJudges returns true, for lists of fewer than 2^63 elements. -/
import Derived.Test.YtciflideblafgaaDutyT
open Go Go.Proofs.Ytciflideblafgaa.Fw
namespace Go.Proofs.Ytciflideblafgaa
set_option maxRecDepth 100000
set_option linter.unusedSimpArgs false
set_option linter.unusedVariables false

def taskF (t : Task) : Int :=
  if inB t.frm 0 11 then (if inB t.to 0 11 then (if inB t.dep 0 28800 then (if inB t.arr 0 28800 then (if t.arr ≤ t.dep then 13 else (if inB t.km 0 10000 then (if inB t.units 1 4 then 0 else 2) else 2)) else 2) else 2) else 2) else 2

def scanT : List Task → Int
  | [] => 0
  | t :: r => if taskF t = 0 then scanT r else taskF t

def tasksF (l : List Task) : Int := if 40 < l.length then 4 else scanT l

def limL (x : Lim) : List Int := [x.change, x.long, x.work, x.after, x.brk, x.rest]
def okL1 (n : Int) : Bool := inB n 0 86400
def limF (x : Lim) : Int := if (limL x).all okL1 && inB x.row 1 7 then 0 else 2

theorem lim_at (x : Lim) (i : Nat) (hi : i < 6) : pvAt [bI x.change, bI x.long, bI x.work, bI x.after, bI x.brk, bI x.rest] (Int.toNat (i : Int) * 1 + 0) = .int .i64 ((limL x).getD i 0) := by
  match i, hi with
  | 0, _ => rfl
  | 1, _ => rfl
  | 2, _ => rfl
  | 3, _ => rfl
  | 4, _ => rfl
  | 5, _ => rfl


theorem f44_ok (l : List Task) (hl : l.length < 2 ^ 63) : CallOK Try.prog 44 [.pv false (tasksP l)] [] fun r _ => r = bI (tasksF l) := by
  refine CallOK.of_run (tabOf_ok _) hm (fn := Try.f44) (c := bodyOf Try.f44) (fl := f44_fl) (C := shpJ) (by kernel_rfl) (by kernel_rfl) (by kernel_rfl) (Nat.le_of_ble_eq_true rfl) ?_
  rw [f44_tree]
  refine br_dec (fun h => ?_) (fun h => ?_)
  · have : 40 < l.length := by omega
    simp [tasksF, this]
  have e0 : tasksF l = scanT l := by
    have : ¬ 40 < l.length := by omega
    simp only [tasksF, this, if_false]
  rw [e0]
  refine LoopK.for [8, 9, 10] [] 0 (fun i => f44_s4 l i) (fun i => i ≤ l.length ∧ scanT l = scanT (l.drop i)) (fun i => l.length - i) 0 _ (f44_ret4 _) (Le.of_eq rfl) ⟨by omega, rfl⟩ ?_
  rintro i ⟨hi, he⟩
  rw [f44_body4]
  refine br_dec (fun hc => ⟨⟨by omega, hc⟩, ?_⟩) (fun hc => ?_)
  · rw [drop_cons (d := task0) (by omega)] at he
    refine (f76_ok _ _ _).callT (br_not (fun h1 => ?_) fun h1 => (f76_ok _ _ _).callT (br_not (fun h2 => ?_) fun h2 => (f76_ok _ _ _).callT (br_not (fun h3 => ?_) fun h3 => (f76_ok _ _ _).callT (br_not (fun h4 => ?_) fun h4 =>
      br_dec (fun h5 => ?_) fun h5 => (f76_ok _ _ _).callT (br_not (fun h6 => ?_) fun h6 => (f76_ok _ _ _).callT (br_not (fun h7 => ?_) fun h7 => ⟨i + 1, ⟨by omega, ?_⟩, Le.of_eq ?_, by omega⟩))))))
    · simp only [Int.toNat_natCast] at *; rw [he]; simp only [scanT, taskF, h1, if_true, if_false, Bool.false_eq_true, Int.reduceEq, reduceCtorEq]
    · simp only [Int.toNat_natCast] at *; rw [he]; simp only [scanT, taskF, h1, h2, if_true, if_false, Bool.false_eq_true, Int.reduceEq, reduceCtorEq]
    · simp only [Int.toNat_natCast] at *; rw [he]; simp only [scanT, taskF, h1, h2, h3, if_true, if_false, Bool.false_eq_true, Int.reduceEq, reduceCtorEq]
    · simp only [Int.toNat_natCast] at *; rw [he]; simp only [scanT, taskF, h1, h2, h3, h4, if_true, if_false, Bool.false_eq_true, Int.reduceEq, reduceCtorEq]
    · simp only [Int.toNat_natCast] at *; rw [he]; simp only [scanT, taskF, h1, h2, h3, h4, h5, if_true, if_false, Bool.false_eq_true, Int.reduceEq, reduceCtorEq]
    · simp only [Int.toNat_natCast] at *; rw [he]; simp only [scanT, taskF, h1, h2, h3, h4, h5, h6, if_true, if_false, Bool.false_eq_true, Int.reduceEq, reduceCtorEq]
    · simp only [Int.toNat_natCast] at *; rw [he]; simp only [scanT, taskF, h1, h2, h3, h4, h5, h6, h7, if_true, if_false, Bool.false_eq_true, Int.reduceNeg, Int.reduceEq, reduceCtorEq]
    · simp only [Int.toNat_natCast] at *; rw [he]; simp only [scanT, taskF, h1, h2, h3, h4, h5, h6, h7, if_true, if_false, Bool.false_eq_true, Int.reduceNeg, Int.reduceEq, reduceCtorEq]
    · rw [wrap_i64 (by omega) (by omega)]; rfl
  · show kont _ _ _ _ _ (bodyOf Try.f44) _ (.exit 0) _
    rw [f44_exit4_0 l i, he, List.drop_eq_nil_of_le (by omega)]; rfl


theorem f45_ok (l : List Task) (hl : l.length < 2 ^ 63) : CallOK Try.prog 45 [.pv false (tasksP l)] [] fun r _ => r = bI (tasksF l) := by
  refine CallOK.of_run (tabOf_ok _) hm (fn := Try.f45) (c := bodyOf Try.f45) (fl := f45_fl) (C := shpJ) (by kernel_rfl) (by kernel_rfl) (by kernel_rfl) (Nat.le_of_ble_eq_true rfl) ?_
  rw [f45_tree]
  refine br_dec (fun h => ?_) (fun h => ?_)
  · have : 40 < l.length := by omega
    simp [tasksF, this]
  have e0 : tasksF l = scanT l := by
    have : ¬ 40 < l.length := by omega
    simp only [tasksF, this, if_false]
  rw [e0]
  refine LoopK.for [8, 9, 10] [] 0 (fun i => f45_s4 l i) (fun i => i ≤ l.length ∧ scanT l = scanT (l.drop i)) (fun i => l.length - i) 0 _ (f45_ret4 _) (Le.of_eq rfl) ⟨by omega, rfl⟩ ?_
  rintro i ⟨hi, he⟩
  rw [f45_body4]
  refine br_dec (fun hc => ⟨⟨by omega, hc⟩, ?_⟩) (fun hc => ?_)
  · rw [drop_cons (d := task0) (by omega)] at he
    refine (f75_ok _ _ _).callT (br_not (fun h1 => ?_) fun h1 => (f75_ok _ _ _).callT (br_not (fun h2 => ?_) fun h2 => (f75_ok _ _ _).callT (br_not (fun h3 => ?_) fun h3 => (f75_ok _ _ _).callT (br_not (fun h4 => ?_) fun h4 =>
      br_dec (fun h5 => ?_) fun h5 => (f75_ok _ _ _).callT (br_not (fun h6 => ?_) fun h6 => (f75_ok _ _ _).callT (br_not (fun h7 => ?_) fun h7 => ⟨i + 1, ⟨by omega, ?_⟩, Le.of_eq ?_, by omega⟩))))))
    · simp only [Int.toNat_natCast] at *; rw [he]; simp only [scanT, taskF, h1, if_true, if_false, Bool.false_eq_true, Int.reduceEq, reduceCtorEq]
    · simp only [Int.toNat_natCast] at *; rw [he]; simp only [scanT, taskF, h1, h2, if_true, if_false, Bool.false_eq_true, Int.reduceEq, reduceCtorEq]
    · simp only [Int.toNat_natCast] at *; rw [he]; simp only [scanT, taskF, h1, h2, h3, if_true, if_false, Bool.false_eq_true, Int.reduceEq, reduceCtorEq]
    · simp only [Int.toNat_natCast] at *; rw [he]; simp only [scanT, taskF, h1, h2, h3, h4, if_true, if_false, Bool.false_eq_true, Int.reduceEq, reduceCtorEq]
    · simp only [Int.toNat_natCast] at *; rw [he]; simp only [scanT, taskF, h1, h2, h3, h4, h5, if_true, if_false, Bool.false_eq_true, Int.reduceEq, reduceCtorEq]
    · simp only [Int.toNat_natCast] at *; rw [he]; simp only [scanT, taskF, h1, h2, h3, h4, h5, h6, if_true, if_false, Bool.false_eq_true, Int.reduceEq, reduceCtorEq]
    · simp only [Int.toNat_natCast] at *; rw [he]; simp only [scanT, taskF, h1, h2, h3, h4, h5, h6, h7, if_true, if_false, Bool.false_eq_true, Int.reduceNeg, Int.reduceEq, reduceCtorEq]
    · simp only [Int.toNat_natCast] at *; rw [he]; simp only [scanT, taskF, h1, h2, h3, h4, h5, h6, h7, if_true, if_false, Bool.false_eq_true, Int.reduceNeg, Int.reduceEq, reduceCtorEq]
    · rw [wrap_i64 (by omega) (by omega)]; rfl
  · show kont _ _ _ _ _ (bodyOf Try.f45) _ (.exit 0) _
    rw [f45_exit4_0 l i, he, List.drop_eq_nil_of_le (by omega)]; rfl


theorem f46_ok (x : Lim) : CallOK Try.prog 46 [limV x] [] fun r _ => r = bI (limF x) := by
  refine CallOK.of_run (tabOf_ok _) hm (fn := Try.f46) (c := bodyOf Try.f46) (fl := f46_fl) (C := shpJ) (by kernel_rfl) (by kernel_rfl) (by kernel_rfl) (Nat.le_of_ble_eq_true rfl) ?_
  rw [f46_tree]
  refine LoopK.for [1, 17, 18] [1] 0 (fun i => f46_s2 x i) (fun i => i ≤ 6 ∧ (limL x).all okL1 = ((limL x).drop i).all okL1) (fun i => 6 - i) 0 _ (f46_ret2 _) ?_ ⟨by omega, rfl⟩ ?_
  · exact Le.of_eq rfl
  rintro i ⟨hi, he⟩
  rw [f46_body2]
  refine br_dec (fun hc => ⟨⟨by omega, by omega⟩, ?_⟩) (fun hc => ?_)
  · have hi6 : i < 6 := by omega
    rw [drop_cons (d := 0) (show i < (limL x).length from hi6)] at he
    rw [lim_at x i hi6]
    refine (f76_ok _ _ _).callT (br_not (fun h1 => ?_) fun h1 => ⟨i + 1, ⟨by omega, ?_⟩, Le.of_eq ?_, by omega⟩)
    · have : (limL x).all okL1 = false := by rw [he]; simp only [List.all_cons, okL1, h1, Bool.false_and]
      simp [limF, this]
    · rw [he]; simp only [List.all_cons, okL1, h1, Bool.true_and]
    · rw [wrap_i64 (by omega) (by omega)]; rfl
  · show kont _ _ _ _ _ (bodyOf Try.f46) _ (.exit 0) _
    have : (limL x).all okL1 = true := by rw [he, List.drop_eq_nil_of_le (by show 6 ≤ i; omega)]; rfl
    rw [f46_exit2_0 x i]
    refine (f76_ok _ _ _).callT (br_not (fun h1 => ?_) fun h1 => ?_)
    · simp [limF, this, h1]
    · simp [limF, this, h1]


theorem f47_ok (x : Lim) : CallOK Try.prog 47 [limV x] [] fun r _ => r = bI (limF x) := by
  refine CallOK.of_run (tabOf_ok _) hm (fn := Try.f47) (c := bodyOf Try.f47) (fl := f47_fl) (C := shpJ) (by kernel_rfl) (by kernel_rfl) (by kernel_rfl) (Nat.le_of_ble_eq_true rfl) ?_
  rw [f47_tree]
  refine LoopK.for [1, 17, 18, 19] [1] 0 (fun i => f47_s2 x i) (fun i => i ≤ 6 ∧ (limL x).all okL1 = ((limL x).drop i).all okL1) (fun i => 6 - i) 0 _ (f47_ret2 _) ?_ ⟨by omega, rfl⟩ ?_
  · exact Le.of_eq rfl
  rintro i ⟨hi, he⟩
  rw [f47_body2]
  refine br_dec (fun hc => ⟨⟨by omega, by omega⟩, ?_⟩) (fun hc => ?_)
  · have hi6 : i < 6 := by omega
    rw [drop_cons (d := 0) (show i < (limL x).length from hi6)] at he
    rw [lim_at x i hi6]
    refine (f75_ok _ _ _).callT (br_not (fun h1 => ?_) fun h1 => ⟨i + 1, ⟨by omega, ?_⟩, Le.of_eq ?_, by omega⟩)
    · have : (limL x).all okL1 = false := by rw [he]; simp only [List.all_cons, okL1, h1, Bool.false_and]
      simp [limF, this]
    · rw [he]; simp only [List.all_cons, okL1, h1, Bool.true_and]
    · rw [wrap_i64 (by omega) (by omega)]; rfl
  · show kont _ _ _ _ _ (bodyOf Try.f47) _ (.exit 0) _
    have : (limL x).all okL1 = true := by rw [he, List.drop_eq_nil_of_le (by show 6 ≤ i; omega)]; rfl
    rw [f47_exit2_0 x i]
    refine (f75_ok _ _ _).callT (br_not (fun h1 => ?_) fun h1 => ?_)
    · simp [limF, this, h1]
    · simp [limF, this, h1]


def tlF (l : List Task) (x : Lim) : Int := if tasksF l = 0 then limF x else tasksF l

theorem f77_ok (l : List Task) (x : Lim) (hl : l.length < 2 ^ 63) : CallOK Try.prog 77 [.pv false (tasksP l), limV x] [] fun r _ => r = bI (tlF l x) := by
  refine CallOK.of_run (tabOf_ok _) hm (fn := Try.f77) (c := bodyOf Try.f77) (fl := f77_fl) (C := shpJ) (by kernel_rfl) (by kernel_rfl) (by kernel_rfl) (Nat.le_of_ble_eq_true rfl) ?_
  rw [f77_tree]
  refine (f44_ok l hl).callT (br_ndec (fun h => ?_) fun h => ?_)
  · simp [tlF, h]
  · exact (f46_ok x).callT (by simp [tlF, h])

/-- the task at a place of a duty -/
def tkA (l : List Task) (u : List Int) (i : Nat) : Task := l.getD (u.getD i 0).toNat task0
abbrev wr (n : Int) : Int := IntKind.wrap .i64 n
def badA (l : List Task) (u : List Int) (x : Lim) (i : Nat) : Bool := !decide ((tkA l u i).frm = (tkA l u (i - 1)).to) || decide ((tkA l u i).dep < wr ((tkA l u (i - 1)).arr + x.change))
def badTo (l : List Task) (u : List Int) (x : Lim) : Nat → Bool
  | 0 => false
  | i + 1 => badTo l u x i || (decide (1 ≤ i) && badA l u x i)
def workA (l : List Task) (u : List Int) : Nat → Int
  | 0 => 0
  | i + 1 => wr (workA l u i + wr ((tkA l u i).arr - (tkA l u i).dep))
def pauA (l : List Task) (u : List Int) (x : Lim) (i : Nat) : Bool := decide (x.brk ≤ wr ((tkA l u i).dep - (tkA l u (i - 1)).arr))
def begA (l : List Task) (u : List Int) (x : Lim) : Nat → Int
  | 0 => (tkA l u 0).dep
  | i + 1 => if pauA l u x (i + 1) then (tkA l u (i + 1)).dep else begA l u x i
def lateA (l : List Task) (u : List Int) (x : Lim) (i : Nat) : Bool := decide (x.after < wr ((tkA l u i).arr - begA l u x i))
def e4To (l : List Task) (u : List Int) (x : Lim) : Nat → Bool
  | 0 => false
  | i + 1 => e4To l u x i || (pauA l u x (i + 1) && lateA l u x i)

def judgeF (l : List Task) (u : List Int) (x : Lim) : Int :=
  if badTo l u x u.length then 1 else if x.long < wr ((tkA l u (u.length - 1)).arr - (tkA l u 0).dep) then 2 else if x.work < workA l u u.length then 3
  else if e4To l u x (u.length - 1) || lateA l u x (u.length - 1) then 4 else if (tkA l u (u.length - 1)).to = (tkA l u 0).frm then 0 else 5

structure DutyOk (l : List Task) (u : List Int) : Prop where
  pos : 0 < u.length
  len : u.length < 2 ^ 63
  llen : l.length < 2 ^ 63
  rng : ∀ j, j < u.length → 0 ≤ u.getD j 0 ∧ u.getD j 0 < l.length

theorem badTo_mono {l : List Task} {u : List Int} {x : Lim} {i : Nat} (h : badTo l u x i = true) : ∀ {j : Nat}, i ≤ j → badTo l u x j = true
  | 0, hj => by obtain rfl : i = 0 := by omega
                exact h
  | j + 1, hj => by
    by_cases e : i = j + 1
    · subst e; exact h
    · simp [badTo, badTo_mono h (show i ≤ j by omega)]

theorem e4To_mono {l : List Task} {u : List Int} {x : Lim} {i : Nat} (h : e4To l u x i = true) : ∀ {j : Nat}, i ≤ j → e4To l u x j = true
  | 0, hj => by obtain rfl : i = 0 := by omega
                exact h
  | j + 1, hj => by
    by_cases e : i = j + 1
    · subst e; exact h
    · simp [e4To, e4To_mono h (show i ≤ j by omega)]

theorem tk2_eq {l : List Task} {u : List Int} (h0 : 0 < u.length) (h : u.length < 2 ^ 63) : tk2 l u = tkA l u (u.length - 1) := by
  unfold tk2 tkA
  rw [wrap_i64 (by omega) (by omega)]
  congr 3; omega

theorem f128_ok (a : Int) (x : Lim) (b k : Int) : CallOK Try.prog 128 [bI a, .ptr 0 0 0 0, limP x, .ptr 1 0 0 0] [.box [bI b], .box [bI k]] fun r L => r = .tup [] ∧ L = [.box [bI b], .box [bI (if x.after < wr (a - b) then 4 else k)]] := by
  refine CallOK.of_runM (nb := 2) (tabOf_ok _) hm (fn := Try.f128) (c := bodyOf Try.f128) (fl := f128_fl) (C := shpJ) (by kernel_rfl) (by kernel_rfl) (by kernel_rfl) (Nat.le_of_ble_eq_true rfl) rfl fun pin => ?_
  rw [f128_tree]
  refine br_dec (fun h => ?_) (fun h => ?_)
  · exact ⟨rfl, rfl, by rw [if_pos h]⟩
  · exact ⟨rfl, rfl, by rw [if_neg h]⟩

/-- the conditions at a place of a duty -/
theorem DutyOk.at {l : List Task} {u : List Int} (h : DutyOk l u) {i : Nat} (hi : i < u.length) : 0 ≤ u.getD (Int.toNat (i : Int)) 0 ∧ u.getD (Int.toNat (i : Int)) 0 < (l.length : Int) := by
  rw [Int.toNat_natCast]; exact h.rng i hi

theorem wrm {u : List Int} (h : u.length < 2 ^ 63) {i : Nat} (hi : i < u.length) (h1 : 1 ≤ i) : IntKind.wrap .i64 ((i : Int) - 1) = ((i - 1 : Nat) : Int) := by
  rw [wrap_i64 (by omega) (by omega)]; omega

theorem wrp {u : List Int} (h : u.length < 2 ^ 63) {i : Nat} (hi : i < u.length) : IntKind.wrap .i64 ((i : Int) + 1) = ((i + 1 : Nat) : Int) := by
  rw [wrap_i64 (by omega) (by omega)]; omega

theorem wrl {u : List Int} (h : u.length < 2 ^ 63) (h0 : 0 < u.length) : IntKind.wrap .i64 ((u.length : Int) - 1) = ((u.length - 1 : Nat) : Int) := by
  rw [wrap_i64 (by omega) (by omega)]; omega

theorem f78_ok (l : List Task) (u : List Int) (x : Lim) (hd : DutyOk l u) : CallOK Try.prog 78 [.pv false (tasksP l), .pv false (intsP u), limV x] [] fun r _ => r = bI (judgeF l u x) := by
  have h0 := hd.pos
  have hlen := hd.len
  refine CallOK.of_run (tabOf_ok _) hm (fn := Try.f78) (c := bodyOf Try.f78) (fl := f78_fl l u x) (C := shpJ) (by kernel_rfl) (by kernel_rfl) (by kernel_rfl) (Nat.le_of_ble_eq_true rfl) ?_
  rw [f78_tree]
  refine ⟨⟨⟨by decide, by omega⟩, hd.rng 0 h0, ?_⟩, ?_⟩
  · rw [wrl hlen h0, Int.toNat_natCast]
    refine ⟨⟨by omega, by omega⟩, hd.rng _ (by omega), ?_⟩
    have e2 : tk2 l u = l.getD (u.getD (u.length - 1) 0).toNat task0 := tk2_eq h0 hlen
    exact ⟨Le.of_eq (by rw [e2]; rfl), Le.perm [1, 0] rfl (by rw [e2]; rfl)⟩
  have et1 : tk1 l u = tkA l u 0 := rfl
  refine LoopK.for [0, 1, 5, 7, 8, 9, 10, 11, 12, 35, 36, 37] [5, 7, 8, 9, 10, 12] 4 (fun i => f78_s6 l u x i (workA l u i) (begA l u x (i - 1)) (if e4To l u x (i - 1) then 4 else 0)) (fun i => i ≤ u.length ∧ badTo l u x i = false) (fun i => u.length - i) 0 _ (f78_ret6 l u x _) (Le.of_eq rfl) ⟨by omega, rfl⟩ ?_
  rintro i ⟨hi, hb⟩
  rw [f78_body6]
  refine br_dec (fun hc => ⟨⟨by omega, hc⟩, hd.at (by omega), br_dec (fun hz => ?_) (fun hz => ?_)⟩) (fun hc => ?_)
  · obtain rfl : i = 0 := by omega
    exact ⟨1, ⟨by omega, by simp [badTo]⟩, Le.of_eq rfl, by omega⟩
  · have hi' : i < u.length := by omega
    have h1 : 1 ≤ i := by omega
    rw [wrm hlen hi' h1]
    have hbad : badA l u x i = true → badTo l u x u.length = true := fun h => badTo_mono (i := i + 1) (by simp [badTo, h, h1]) (by omega)
    refine ⟨⟨by omega, by omega⟩, hd.at (by omega), br_ndec (fun hq => ?_) (fun hq => br_dec (fun hq2 => ?_) (fun hq2 => ?_))⟩
    · have : badA l u x i = true := by
        simp only [Int.toNat_natCast] at hq
        have hq : ¬ (tkA l u i).frm = (tkA l u (i - 1)).to := hq
        simp [badA, hq]
      simp [judgeF, hbad this]
    · have : badA l u x i = true := by
        simp only [Int.toNat_natCast] at hq2
        have hq2 : (tkA l u i).dep < wr ((tkA l u (i - 1)).arr + x.change) := hq2
        simp [badA, hq2]
      simp [judgeF, hbad this]
    · have hnb : badTo l u x (i + 1) = false := by
        simp only [Int.toNat_natCast] at hq hq2
        have hq : (tkA l u i).frm = (tkA l u (i - 1)).to := hq
        have hq2 : ¬ (tkA l u i).dep < wr ((tkA l u (i - 1)).arr + x.change) := hq2
        simp only [badTo, hb, badA, hq, hq2, decide_true, decide_false, Bool.not_true, Bool.or_false, Bool.and_false]
      obtain ⟨j, rfl⟩ : ∃ j, i = j + 1 := ⟨i - 1, by omega⟩
      refine br_dec (fun hp => ?_) (fun hp => ?_)
      · have hpa : pauA l u x (j + 1) = true := by
          simp only [Int.toNat_natCast] at hp
          have hp : x.brk ≤ wr ((tkA l u (j + 1)).dep - (tkA l u (j + 1 - 1)).arr) := hp
          simp only [pauA, hp, decide_true]
        refine (f128_ok _ _ _ _).callM (mem := fun b : Int × Int => [.box [bI b.1], .box [bI b.2]]) (emb := fun _ => .tup []) (y := (begA l u x (j + 1 - 1), if x.after < wr ((tkA l u j).arr - begA l u x j) then 4 else (if e4To l u x j then 4 else 0))) ?_
        refine ⟨j + 2, ⟨by omega, hnb⟩, Le.of_eq ?_, by omega⟩
        have e1 : begA l u x (j + 2 - 1) = (tkA l u (j + 1)).dep := by simp [begA, hpa]
        have e2 : (if e4To l u x (j + 2 - 1) = true then (4 : Int) else 0) = if x.after < wr ((tkA l u j).arr - begA l u x j) then 4 else (if e4To l u x j then 4 else 0) := by
          show (if e4To l u x (j + 1) = true then (4 : Int) else 0) = _
          by_cases hla : x.after < wr ((tkA l u j).arr - begA l u x j)
          · simp [e4To, hpa, lateA, hla]
          · simp [e4To, hpa, lateA, hla]
        rw [f78_s6, e1, e2, wrp hlen hi']; rfl
      · have hpa : pauA l u x (j + 1) = false := by
          simp only [Int.toNat_natCast] at hp
          have hp : ¬ x.brk ≤ wr ((tkA l u (j + 1)).dep - (tkA l u (j + 1 - 1)).arr) := hp
          simp only [pauA, hp, decide_false]
        refine ⟨j + 2, ⟨by omega, hnb⟩, Le.of_eq ?_, by omega⟩
        have e1 : begA l u x (j + 2 - 1) = begA l u x j := by simp [begA, hpa]
        have e2 : e4To l u x (j + 2 - 1) = e4To l u x j := by simp [e4To, hpa]
        rw [f78_s6, e1, e2, wrp hlen hi']; rfl
  · show kont _ _ _ _ _ (bodyOf Try.f78) _ (.exit 0) _
    obtain rfl : i = u.length := by omega
    rw [f78_exit6_0 l u x u.length, tk2_eq h0 hlen, et1]
    refine (f128_ok _ _ _ _).callM (mem := fun b : Int × Int => [.box [bI b.1], .box [bI b.2]]) (emb := fun _ => .tup []) (y := (begA l u x (u.length - 1), if x.after < wr ((tkA l u (u.length - 1)).arr - begA l u x (u.length - 1)) then 4 else (if e4To l u x (u.length - 1) then 4 else 0))) ?_
    have hk : (0 : Int) < (if x.after < wr ((tkA l u (u.length - 1)).arr - begA l u x (u.length - 1)) then 4 else (if e4To l u x (u.length - 1) then 4 else 0)) ↔ (e4To l u x (u.length - 1) || lateA l u x (u.length - 1)) = true := by
      by_cases h1 : x.after < wr ((tkA l u (u.length - 1)).arr - begA l u x (u.length - 1)) <;> cases h2 : e4To l u x (u.length - 1) <;> simp [lateA, h1]
    have hk4 : (e4To l u x (u.length - 1) || lateA l u x (u.length - 1)) = true → (if x.after < wr ((tkA l u (u.length - 1)).arr - begA l u x (u.length - 1)) then (4 : Int) else (if e4To l u x (u.length - 1) then 4 else 0)) = 4 := by
      by_cases h1 : x.after < wr ((tkA l u (u.length - 1)).arr - begA l u x (u.length - 1)) <;> cases h2 : e4To l u x (u.length - 1) <;> simp [lateA, h1]
    refine br_dec (fun g1 => ?_) fun g1 => br_dec (fun g2 => ?_) fun g2 => br_dec (fun g3 => ?_) fun g3 => br_ndec (fun g4 => ?_) fun g4 => ?_
    · simp only [judgeF, hb, g1, if_true, if_false, Bool.false_eq_true]
    · simp only [judgeF, hb, g1, g2, if_true, if_false, Bool.false_eq_true]
    · rw [hk4 (hk.1 g3)]; simp only [judgeF, hb, g1, g2, hk.1 g3, if_true, if_false, Bool.false_eq_true]
    · have g3 : ¬ _ := fun h => g3 (hk.2 h)
      simp only [judgeF, hb, g1, g2, g3, g4, if_true, if_false, Bool.false_eq_true]
    · have g3 : ¬ _ := fun h => g3 (hk.2 h)
      simp only [judgeF, hb, g1, g2, g3, g4, if_true, if_false, Bool.false_eq_true]

def any4 (l : List Task) (u : List Int) (x : Lim) : Bool := e4To l u x (u.length - 1) || lateA l u x (u.length - 1)

theorem f79_ok (l : List Task) (u : List Int) (x : Lim) (hd : DutyOk l u) : CallOK Try.prog 79 [.pv false (tasksP l), .pv false (intsP u), limV x] [] fun r _ => r = bI (judgeF l u x) := by
  have h0 := hd.pos
  have hlen := hd.len
  refine CallOK.of_run (tabOf_ok _) hm (fn := Try.f79) (c := bodyOf Try.f79) (fl := f79_fl l u x) (C := shpJ) (by kernel_rfl) (by kernel_rfl) (by kernel_rfl) (Nat.le_of_ble_eq_true rfl) ?_
  rw [f79_tree]
  refine ⟨⟨⟨by decide, by omega⟩, hd.rng 0 h0, ?_⟩, ?_⟩
  · rw [wrl hlen h0, Int.toNat_natCast]
    refine ⟨⟨by omega, by omega⟩, hd.rng _ (by omega), ?_⟩
    have e2 : tk2 l u = l.getD (u.getD (u.length - 1) 0).toNat task0 := tk2_eq h0 hlen
    exact ⟨Le.of_eq (by rw [e2]; rfl), Le.perm [1, 0] rfl (by rw [e2]; rfl)⟩
  have et1 : tk1 l u = tkA l u 0 := rfl
  refine LoopK.for [0, 1, 5, 7, 8, 9, 32, 33, 34] [0, 1, 5, 7, 8, 9] 2 (fun i => f79_s4 l u x i (workA l u i)) (fun i => i ≤ u.length ∧ badTo l u x i = false) (fun i => u.length - i) 0 _ (f79_ret4 l u x _) (Le.of_eq rfl) ⟨by omega, rfl⟩ ?_
  rintro i ⟨hi, hb⟩
  rw [f79_body4]
  refine br_dec (fun hc => ⟨⟨by omega, hc⟩, hd.at (by omega), hd.at (by omega), br_dec (fun hz => ?_) (fun hz => ?_)⟩) (fun hc => ?_)
  · have hi' : i < u.length := by omega
    have h1 : 1 ≤ i := by omega
    rw [wrm hlen hi' h1]
    have hbad : badA l u x i = true → badTo l u x u.length = true := fun h => badTo_mono (i := i + 1) (by simp [badTo, h, h1]) (by omega)
    refine ⟨⟨by omega, by omega⟩, hd.at (by omega), hd.at hi', br_ndec (fun hq => ?_) (fun hq => ⟨hd.at hi', br_dec (fun hq2 => ?_) (fun hq2 => ⟨i + 1, ⟨by omega, ?_⟩, Le.of_eq ?_, by omega⟩)⟩)⟩
    · have : badA l u x i = true := by
        simp only [Int.toNat_natCast] at hq
        have hq : ¬ (tkA l u i).frm = (tkA l u (i - 1)).to := fun h => hq h.symm
        simp [badA, hq]
      simp [judgeF, hbad this]
    · have : badA l u x i = true := by
        simp only [Int.toNat_natCast] at hq2
        have hq2 : (tkA l u i).dep < wr ((tkA l u (i - 1)).arr + x.change) := hq2
        simp [badA, hq2]
      simp [judgeF, hbad this]
    · simp only [Int.toNat_natCast] at hq hq2
      have hq : (tkA l u i).frm = (tkA l u (i - 1)).to := Eq.symm hq
      have hq2 : ¬ (tkA l u i).dep < wr ((tkA l u (i - 1)).arr + x.change) := hq2
      simp only [badTo, hb, badA, hq, hq2, decide_true, decide_false, Bool.not_true, Bool.or_false, Bool.and_false]
    · rw [wrp hlen hi']; rfl
  · obtain rfl : i = 0 := by omega
    exact ⟨1, ⟨by omega, by simp [badTo]⟩, Le.of_eq rfl, by omega⟩
  obtain rfl : i = u.length := by omega
  show kont _ _ _ _ _ (bodyOf Try.f79) _ (.exit 0) _
  rw [f79_exit4_0 l u x u.length, tk2_eq h0 hlen, et1]
  refine br_dec (fun g1 => ?_) fun g1 => br_dec (fun g2 => ?_) fun g2 => ?_
  · simp only [judgeF, hb, g1, if_true, if_false, Bool.false_eq_true]
  · simp only [judgeF, hb, g1, g2, if_true, if_false, Bool.false_eq_true]
  have ej : judgeF l u x = if any4 l u x then 4 else if (tkA l u (u.length - 1)).to = (tkA l u 0).frm then 0 else 5 := by
    simp only [judgeF, hb, g1, g2, any4, if_false, Bool.false_eq_true]; rfl
  rw [ej, ← et1, ← tk2_eq h0 hlen]
  refine LoopK.for [0, 1, 5, 7, 8, 13, 100, 101, 102] [7, 8] 2 (fun z : Nat × Int => f79_s18 l u x z.1 z.2) (fun z => z.1 ≤ u.length ∧ (z.1 < u.length → z.2 = begA l u x z.1 ∧ e4To l u x z.1 = false) ∧ (z.1 = u.length → any4 l u x = false)) (fun z => u.length - z.1) (0, begA l u x 0) _ (f79_ret18 l u x _) (Le.of_eq rfl) ⟨by simp, fun _ => ⟨rfl, rfl⟩, fun h => by simp at h; omega⟩ ?_
  rintro ⟨i, b⟩ ⟨hi, hb1, hb2⟩
  simp only at hi hb1 hb2
  show run _ _ _ _ _ _ (f79_s18 l u x i b)
  rw [f79_body18]
  refine br_dec (fun hc => ?_) (fun hc => ?_)
  · have hi' : i < u.length := by omega
    obtain ⟨hbb, h4⟩ := hb1 hi'
    refine ⟨⟨by omega, hc⟩, ?_⟩
    rw [wrp hlen hi']
    have late : x.after < IntKind.wrap .i64 ((l.getD (u.getD (Int.toNat (i : Int)) 0).toNat task0).arr - b) → lateA l u x i = true := fun h => by
      simp only [Int.toNat_natCast] at h
      rw [hbb] at h
      have h : x.after < wr ((tkA l u i).arr - begA l u x i) := h
      simp only [lateA, h, decide_true]
    have late' : ¬ x.after < IntKind.wrap .i64 ((l.getD (u.getD (Int.toNat (i : Int)) 0).toNat task0).arr - b) → lateA l u x i = false := fun h => by
      simp only [Int.toNat_natCast] at h
      rw [hbb] at h
      have h : ¬ x.after < wr ((tkA l u i).arr - begA l u x i) := h
      simp only [lateA, h, decide_false]
    refine br_dec (fun hn => ⟨⟨by omega, hn⟩, hd.at (by omega), hd.at hi', br_dec (fun hp => ⟨hd.at hi', br_dec (fun hl => ?_) fun hl => br_dec (fun _ => ⟨⟨by omega, hn⟩, hd.at (by omega), ?_⟩) fun hp' => absurd hp hp'⟩) (fun hp => br_dec (fun he => ?_) fun he => br_dec (fun hp' => absurd hp' hp) fun _ => ?_)⟩) (fun hn => br_dec (fun he => ⟨hd.at hi', br_dec (fun hl => ?_) fun hl => ?_⟩) fun he => ?_)
    · have hpa : pauA l u x (i + 1) = true := by
        simp only [Int.toNat_natCast] at hp
        have hp : x.brk ≤ wr ((tkA l u (i + 1)).dep - (tkA l u i).arr) := hp
        simp only [pauA, Nat.add_sub_cancel, hp, decide_true]
      have : any4 l u x = true := by
        have : e4To l u x (i + 1) = true := by simp [e4To, hpa, late hl]
        simp [any4, e4To_mono this (show i + 1 ≤ u.length - 1 by omega)]
      rw [this]; rfl
    · have hpa : pauA l u x (i + 1) = true := by
        simp only [Int.toNat_natCast] at hp
        have hp : x.brk ≤ wr ((tkA l u (i + 1)).dep - (tkA l u i).arr) := hp
        simp only [pauA, Nat.add_sub_cancel, hp, decide_true]
      exact ⟨(i + 1, begA l u x (i + 1)), ⟨by simp; omega, fun _ => ⟨rfl, by simp [e4To, h4, late' hl]⟩, fun h => by simp at h; omega⟩, Le.of_eq (by simp only [f79_s18, begA, hpa, if_true]; rfl), by simp; omega⟩
    · omega
    · have hpa : pauA l u x (i + 1) = false := by
        simp only [Int.toNat_natCast] at hp
        have hp : ¬ x.brk ≤ wr ((tkA l u (i + 1)).dep - (tkA l u i).arr) := hp
        simp only [pauA, Nat.add_sub_cancel, hp, decide_false]
      exact ⟨(i + 1, b), ⟨by simp; omega, fun _ => ⟨by simp [begA, hpa, hbb], by simp [e4To, h4, hpa]⟩, fun h => by simp at h; omega⟩, Le.of_eq rfl, by simp; omega⟩
    · have : any4 l u x = true := by
        have : u.length - 1 = i := by omega
        simp [any4, this, late hl]
      rw [this]; rfl
    · exact ⟨(i + 1, b), ⟨by simp; omega, fun h => by simp at h; omega, fun _ => by
        have : u.length - 1 = i := by omega
        simp [any4, this, h4, late' hl]⟩, Le.of_eq rfl, by simp; omega⟩
    · omega
  · show kont _ _ _ _ _ (bodyOf Try.f79) _ (.exit 3) _
    rw [f79_exit18_3 l u x i b, hb2 (by omega)]
    refine br_ndec (fun g => ?_) (fun g => ?_)
    · simp [g]
    · simp [g]

/-- the first thing that is wrong with a duty's numbers -/
def dup1 (l : List Task) (u : List Int) (i : Nat) : Int := if 0 ≤ u.getD i 0 ∧ u.getD i 0 < l.length then (if (u.take i).contains (u.getD i 0) then 6 else 0) else 2
def dupF (l : List Task) (u : List Int) (i : Nat) : Int := if h : i < u.length then (if dup1 l u i = 0 then dupF l u (i + 1) else dup1 l u i) else 0
termination_by u.length - i

def dutyF (l : List Task) (u : List Int) (x : Lim) : Int × Int :=
  if tasksF l = 0 then (if limF x = 0 then (if u.length = 0 then (0, 1) else if dupF l u 0 = 0 then (judgeF l u x, 0) else (0, dupF l u 0)) else (0, limF x)) else (0, tasksF l)

theorem take_ple (u : List Int) (i : Nat) (hi : i ≤ u.length) : Ple (.lst 1 .any (Int.toNat ((i : Int) - 0)) fun k j => .int .i64 (u.getD (0 + k) 0)) (intsP (u.take i)) := by
  have e : Int.toNat ((i : Int) - 0) = i := by omega
  have e2 : intsP (u.take i) = .lst 1 .any i fun k _ => .int .i64 ((u.take i).getD k 0) := by
    simp [intsP, Nat.min_eq_left hi]
  rw [e, e2]
  refine Ple.lst' (.inl rfl) fun k hk j hj => Ple.of_eq ?_
  simp [List.getD_eq_getElem?_getD, List.getElem?_take, hk]


theorem f24_ok (l : List Task) (u : List Int) (x : Lim) (h1 : l.length < 2 ^ 63) (h2 : u.length < 2 ^ 63) : CallOK Try.prog 24 [.pv false (tasksP l), .pv false (intsP u), limV x] [] fun r _ => r = .tup [bI (dutyF l u x).1, bI (dutyF l u x).2] := by
  refine CallOK.of_run (tabOf_ok _) hm (fn := Try.f24) (c := bodyOf Try.f24) (fl := f24_fl) (C := shpJ) (by kernel_rfl) (by kernel_rfl) (by kernel_rfl) (Nat.le_of_ble_eq_true rfl) ?_
  rw [f24_tree]
  refine (f77_ok l x h1).callT (br_ndec (fun h => ?_) fun h => ?_)
  · by_cases ht : tasksF l = 0
    · simp only [tlF, ht, if_true] at h ⊢; simp only [dutyF, ht, h, if_true, if_false]
    · simp only [tlF, ht, if_false] at h ⊢; simp only [dutyF, ht, if_false]
  obtain ⟨ht, hx⟩ : tasksF l = 0 ∧ limF x = 0 := by
    by_cases ht : tasksF l = 0
    · simp only [tlF, ht, if_true] at h; exact ⟨ht, h⟩
    · simp only [tlF, ht, if_false] at h
  refine br_dec (fun hn => ?_) (fun hn => ?_)
  · have hn : u.length = 0 := by omega
    simp only [dutyF, ht, hx, hn, if_true]
  have hn : ¬ u.length = 0 := by omega
  have e1 : dutyF l u x = if dupF l u 0 = 0 then (judgeF l u x, 0) else (0, dupF l u 0) := by simp only [dutyF, ht, hx, hn, if_true, if_false]
  rw [e1]
  have hl40 : l.length ≤ 40 := by
    by_cases h : 40 < l.length
    · simp [tasksF, h] at ht
    · omega
  refine LoopK.for [0, 1, 5, 20, 21, 22] [0, 1, 5] 0 (fun i => f24_s7 l u x i) (fun i => i ≤ u.length ∧ dupF l u 0 = dupF l u i ∧ ∀ j, j < i → 0 ≤ u.getD j 0 ∧ u.getD j 0 < l.length) (fun i => u.length - i) 0 _ (f24_ret7 _) (Le.of_eq rfl) ⟨by omega, rfl, fun j hj => by omega⟩ ?_
  rintro i ⟨hi, he, hr⟩
  rw [f24_body7]
  refine br_dec (fun hc => ⟨⟨by omega, hc⟩, ?_⟩) (fun hc => ?_)
  · have hi' : i < u.length := by omega
    have bad2 : ¬ (0 ≤ u.getD i 0 ∧ u.getD i 0 < l.length) → dupF l u 0 = 2 := fun h => by
      rw [he, dupF, dif_pos hi']; simp only [dup1, h, if_false]; rfl
    have bad6 : (0 ≤ u.getD i 0 ∧ u.getD i 0 < l.length) → (u.take i).contains (u.getD i 0) = true → dupF l u 0 = 6 := fun h hq => by
      rw [he, dupF, dif_pos hi']; simp only [dup1, h, hq, if_true, and_self]; rfl
    have good : (0 ≤ u.getD i 0 ∧ u.getD i 0 < l.length) → (u.take i).contains (u.getD i 0) = false → dupF l u 0 = dupF l u (i + 1) := fun h hq => by
      rw [he, dupF, dif_pos hi']; simp only [dup1, h, hq, if_true, if_false, and_self, Bool.false_eq_true]
    have hlt : (u.take i).length < 2 ^ 63 := by rw [List.length_take]; omega
    have ew : IntKind.wrap .i64 ((l.length : Int) - 1) = (l.length : Int) - 1 := wrap_i64 (by omega) (by omega)
    rw [ew]
    refine (f76_ok _ _ _).callT (br_not (fun hq => ?_) fun hq => ?_)
    · have : dupF l u 0 = 2 := bad2 fun hh => by simp only [Int.toNat_natCast, inB, Bool.and_eq_false_iff, decide_eq_false_iff_not] at hq; omega
      rw [if_neg (by rw [this]; decide), this]
    have hr1 : 0 ≤ u.getD i 0 ∧ u.getD i 0 < l.length := by simp only [Int.toNat_natCast, inB, Bool.and_eq_true, decide_eq_true_eq] at hq; omega
    refine ⟨⟨by decide, by omega, by omega⟩, ((f66_ok (u.take i) _ hlt).args (.cons (.pv (take_ple u i (by omega))) (.same .nil))).callT (br_mk (fun hq2 => ?_) fun hq2 => ⟨i + 1, ⟨by omega, ?_, fun j hj => ?_⟩, Le.of_eq ?_, by omega⟩)⟩ 
    · rw [if_neg (by rw [bad6 hr1 (by simpa only [Int.toNat_natCast] using hq2)]; decide), bad6 hr1 (by simpa only [Int.toNat_natCast] using hq2)]
    · exact good hr1 (by simpa only [Int.toNat_natCast] using hq2)
    · by_cases e : j = i
      · subst e; exact hr1
      · exact hr j (by omega)
    · rw [wrap_i64 (by omega) (by omega)]; rfl
  · have hz : dupF l u 0 = 0 := by rw [he, dupF, dif_neg (by omega)]
    rw [if_pos hz]
    show kont _ _ _ _ _ (bodyOf Try.f24) _ (.exit 0) _
    rw [f24_exit7_0 l u x i]
    refine (f78_ok l u x ⟨by omega, h2, h1, fun j hj => hr j (by omega)⟩).callT ?_
    rfl


theorem f25_ok (l : List Task) (u : List Int) (x : Lim) (h1 : l.length < 2 ^ 63) (h2 : u.length < 2 ^ 63) : CallOK Try.prog 25 [.pv false (tasksP l), .pv false (intsP u), limV x] [] fun r _ => r = .tup [bI (dutyF l u x).1, bI (dutyF l u x).2] := by
  refine CallOK.of_run (tabOf_ok _) hm (fn := Try.f25) (c := bodyOf Try.f25) (fl := f25_fl) (C := shpJ) (by kernel_rfl) (by kernel_rfl) (by kernel_rfl) (Nat.le_of_ble_eq_true rfl) ?_
  rw [f25_tree]
  refine (f45_ok l h1).callT (br_ndec (fun h => ?_) fun ht => ?_)
  · simp only [dutyF, h, if_false]
  refine (f47_ok x).callT (br_ndec (fun h => ?_) fun hx => ?_)
  · simp only [dutyF, ht, h, if_true, if_false]
  refine br_dec (fun hn => ?_) (fun hn => ?_)
  · have hn : u.length = 0 := by omega
    simp only [dutyF, ht, hx, hn, if_true]
  have hn : ¬ u.length = 0 := by omega
  have e1 : dutyF l u x = if dupF l u 0 = 0 then (judgeF l u x, 0) else (0, dupF l u 0) := by simp only [dutyF, ht, hx, hn, if_true, if_false]
  rw [e1]
  have hl40 : l.length ≤ 40 := by
    by_cases h : 40 < l.length
    · simp [tasksF, h] at ht
    · omega
  refine LoopK.for [0, 1, 5, 25, 26, 27] [0, 1, 5] 0 (fun i => f25_s10 l u x i) (fun i => i ≤ u.length ∧ dupF l u 0 = dupF l u i ∧ ∀ j, j < i → 0 ≤ u.getD j 0 ∧ u.getD j 0 < l.length) (fun i => u.length - i) 0 _ (f25_ret10 _) (Le.of_eq rfl) ⟨by omega, rfl, fun j hj => by omega⟩ ?_
  rintro i ⟨hi, he, hr⟩
  rw [f25_body10]
  refine br_dec (fun hc => ⟨⟨by omega, hc⟩, ?_⟩) (fun hc => ?_)
  · have hi' : i < u.length := by omega
    have bad2 : ¬ (0 ≤ u.getD i 0 ∧ u.getD i 0 < l.length) → dupF l u 0 = 2 := fun h => by
      rw [he, dupF, dif_pos hi']; simp only [dup1, h, if_false]; rfl
    have bad6 : (0 ≤ u.getD i 0 ∧ u.getD i 0 < l.length) → (u.take i).contains (u.getD i 0) = true → dupF l u 0 = 6 := fun h hq => by
      rw [he, dupF, dif_pos hi']; simp only [dup1, h, hq, if_true, and_self]; rfl
    have good : (0 ≤ u.getD i 0 ∧ u.getD i 0 < l.length) → (u.take i).contains (u.getD i 0) = false → dupF l u 0 = dupF l u (i + 1) := fun h hq => by
      rw [he, dupF, dif_pos hi']; simp only [dup1, h, hq, if_true, if_false, and_self, Bool.false_eq_true]
    have hlt : (u.take i).length < 2 ^ 63 := by rw [List.length_take]; omega
    refine br_dec (fun hq => ?_) fun hq => br_dec (fun hq1 => ?_) fun hq1 => ?_
    · have : dupF l u 0 = 2 := bad2 fun hh => by simp only [Int.toNat_natCast] at hq; omega
      rw [if_neg (by rw [this]; decide), this]
    · have : dupF l u 0 = 2 := bad2 fun hh => by simp only [Int.toNat_natCast] at hq1; omega
      rw [if_neg (by rw [this]; decide), this]
    have hr1 : 0 ≤ u.getD i 0 ∧ u.getD i 0 < l.length := by simp only [Int.toNat_natCast] at hq hq1; omega
    refine ⟨⟨by decide, by omega, by omega⟩, ((f66_ok (u.take i) _ hlt).args (.cons (.pv (take_ple u i (by omega))) (.same .nil))).callT (br_mk (fun hq2 => ?_) fun hq2 => ⟨i + 1, ⟨by omega, ?_, fun j hj => ?_⟩, Le.of_eq ?_, by omega⟩)⟩ 
    · rw [if_neg (by rw [bad6 hr1 (by simpa only [Int.toNat_natCast] using hq2)]; decide), bad6 hr1 (by simpa only [Int.toNat_natCast] using hq2)]
    · exact good hr1 (by simpa only [Int.toNat_natCast] using hq2)
    · by_cases e : j = i
      · subst e; exact hr1
      · exact hr j (by omega)
    · rw [wrap_i64 (by omega) (by omega)]; rfl
  · have hz : dupF l u 0 = 0 := by rw [he, dupF, dif_neg (by omega)]
    rw [if_pos hz]
    show kont _ _ _ _ _ (bodyOf Try.f25) _ (.exit 0) _
    rw [f25_exit10_0 l u x i]
    refine (f79_ok l u x ⟨by omega, h2, h1, fun j hj => hr j (by omega)⟩).callT ?_
    rfl


theorem f26_ok : CallOK Try.prog 26 [] [] fun r _ => r = bB true := by
  refine CallOK.of_run (tabOf_ok _) hm (fn := Try.f26) (c := bodyOf Try.f26) (fl := f26_fl) (C := shpJ) (by kernel_rfl) (by kernel_rfl) (by kernel_rfl) (Nat.le_of_ble_eq_true rfl) ?_
  rw [f26_tree]
  refine ((f24_ok [⟨0, 1, 0, 100, 0, 1⟩] [0] ⟨0, 100, 100, 100, 0, 0, 1⟩ (by decide) (by decide)).args ?_).callT (emb := fun x : Int × Int => .tup [bI x.1, bI x.2]) (y := dutyF [⟨0, 1, 0, 100, 0, 1⟩] [0] ⟨0, 100, 100, 100, 0, 0, 1⟩) ?_
  · refine .cons (.pv ?_) (.cons (.pv ?_) (.same .nil))
    · exact Ple.lst' (.inr rfl) fun i hi j hj => Ple.of_eq (by match i, hi, j, hj with
        | 0, _, 0, _ => rfl
        | 0, _, 1, _ => rfl
        | 0, _, 2, _ => rfl
        | 0, _, 3, _ => rfl
        | 0, _, 4, _ => rfl
        | 0, _, 5, _ => rfl)
    · exact Ple.lst' (.inr rfl) fun i hi j hj => Ple.of_eq (by match i, hi, j, hj with
        | 0, _, 0, _ => rfl)
  · have : dutyF [⟨0, 1, 0, 100, 0, 1⟩] [0] ⟨0, 100, 100, 100, 0, 0, 1⟩ = (5, 0) := by decide +kernel
    rw [this]; rfl

theorem f4_ok (l : List Task) (u : List Int) (x : Lim) (h1 : l.length < 2 ^ 63) (h2 : u.length < 2 ^ 63) : CallOK Try.prog 4 [.pv false (tasksP l), .pv false (intsP u), limV x] [] fun r _ => r = bB true := by
  refine CallOK.of_run (tabOf_ok _) hm (fn := Try.f4) (c := bodyOf Try.f4) (fl := f4_fl) (C := shpJ) (by kernel_rfl) (by kernel_rfl) (by kernel_rfl) (Nat.le_of_ble_eq_true rfl) ?_
  rw [f4_tree]
  refine (f24_ok l u x h1 h2).callT (emb := fun x : Int × Int => .tup [bI x.1, bI x.2]) (y := dutyF l u x) ((f25_ok l u x h1 h2).callT (emb := fun x : Int × Int => .tup [bI x.1, bI x.2]) (y := dutyF l u x) (f26_ok.callT ?_))
  refine br_mk (fun _ => br_dec (fun _ => ?_) fun h => absurd rfl h) fun h => by simp at h
  simp


end Go.Proofs.Ytciflideblafgaa
