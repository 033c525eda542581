/- MendGraphs: what its pure functions return. -/
import Derived.Test.YtecaleolkdoggaaA21
import Derived.Test.YtecaleolkdoggaaM5C
import Derived.Test.YtecaleolkdoggaaA18
open Go Go.Proofs.Ytecaleolkdoggaa.Fw
namespace Go.Proofs.Ytecaleolkdoggaa
set_option maxRecDepth 100000
set_option linter.unusedVariables false
set_option linter.unusedSimpArgs false

theorem F54_eq (n a b : Int) : F54 n a b = some (decide (a ≤ n ∧ n ≤ b)) := by
  unfold F54
  by_cases h : a ≤ n <;> simp [h]
theorem F51_eq (n a b : Int) : F51 n a b = some (decide (a ≤ n ∧ n ≤ b)) := F54_eq n a b

theorem loop_step {S X : Type} {B : S → Option (S ⊕ X)} {s : S} : loopW B s = (B s).bind (Sum.elim (loopW B) some) := by
  rw [loopW_eq]
  congr 1
  funext o
  cases o <;> rfl

/-- what is wrong with an arc -/
def fa (x : TArc) (n : Int) : Int := if ¬(0 ≤ x.from0 ∧ x.from0 ≤ n - 1) then 3 else if ¬(0 ≤ x.to0 ∧ x.to0 ≤ n - 1) then 3 else if x.from0 = x.to0 then 1 else if ¬(-28800 ≤ x.len ∧ x.len ≤ 28800) then 2 else 0

theorem F63_eq (x : TArc) (n : Int) : F63 x n = some (fa x n) := by
  unfold F63 fa
  simp only [F51_eq, Option.bind_some]
  by_cases c1 : x.from0 < 0
  · have : ¬(0 ≤ x.from0 ∧ x.from0 ≤ n - 1) := by omega
    simp [c1, this]
  · by_cases c2 : n ≤ x.from0
    · have : ¬(0 ≤ x.from0 ∧ x.from0 ≤ n - 1) := by omega
      simp [c1, c2, this]
    · have d1 : 0 ≤ x.from0 ∧ x.from0 ≤ n - 1 := by omega
      by_cases c3 : x.to0 < 0
      · have : ¬(0 ≤ x.to0 ∧ x.to0 ≤ n - 1) := by omega
        simp [c1, c2, c3, d1, this]
      · by_cases c4 : n ≤ x.to0
        · have : ¬(0 ≤ x.to0 ∧ x.to0 ≤ n - 1) := by omega
          simp [c1, c2, c3, c4, d1, this]
        · have d2 : 0 ≤ x.to0 ∧ x.to0 ≤ n - 1 := by omega
          by_cases c5 : x.from0 = x.to0
          · simp only [c1, c2, c3, c4, c5, decide_false, decide_true, cond_false, cond_true, d1, d2, not_true_eq_false, if_false, if_true, and_self] <;> simp [← c5, d1]
          · by_cases c6 : -28800 ≤ x.len ∧ x.len ≤ 28800
            · simp [c1, c2, c3, c4, c5, c6, d1, d2]
            · simp only [c1, c2, c3, c4, c5, c6, d1, d2, decide_false, decide_true, cond_false, cond_true, Bool.not_false, not_true_eq_false, not_false_eq_true, if_false, if_true, and_self]

theorem B62_eq (a0 : TGraph) (hn : a0.ready.length ≤ 24) (l : List TArc) (s : Int) : B62_2 a0 l s = bif decide (s < (l.length : Int)) then asrt (0 ≤ s ∧ s < (l.length : Int)) ((F63 (l.getD s.toNat TArc.d) (a0.ready.length : Int)).bind fun r => bif !decide (r = 0) then some (.inr (.inr r)) else some (.inl (IntKind.wrap .i64 (s + 1)))) else some (.inr (.inl ())) := by
  unfold B62_2
  have hw : IntKind.wrap .i64 ((a0.ready.length : Int) - 1) = (a0.ready.length : Int) - 1 := wr64 (by omega) (by omega)
  simp only [F54_eq, F63_eq, Option.bind_some, hw]
  unfold fa
  generalize l.getD s.toNat TArc.d = x
  congr 2
  by_cases c1 : 0 ≤ x.from0 ∧ x.from0 ≤ (a0.ready.length : Int) - 1
  · by_cases c2 : 0 ≤ x.to0 ∧ x.to0 ≤ (a0.ready.length : Int) - 1
    · by_cases c3 : x.from0 = x.to0
      · simp only [c1, c2, c3, and_self, decide_true, Bool.not_true, cond_false, cond_true, not_true_eq_false, if_false, if_true]
        simp [← c3, c1]
      · by_cases c4 : -28800 ≤ x.len ∧ x.len ≤ 28800
        · simp [c1, c2, c3, c4]
        · simp only [c1, c2, c3, c4, and_self, decide_true, decide_false, Bool.not_true, Bool.not_false, cond_false, cond_true, not_true_eq_false, not_false_eq_true, if_false, if_true]
          simp
    · simp only [c1, c2, and_self, decide_true, decide_false, Bool.not_true, Bool.not_false, cond_false, cond_true, not_true_eq_false, not_false_eq_true, if_false, if_true]
      simp
  · simp only [c1, decide_false, Bool.not_false, cond_true, not_false_eq_true, if_true]
    simp

theorem L25_13_eq (a0 : TGraph) (hn : a0.ready.length ≤ 24) : L25_13 a0 = L62_2 a0 a0.arcs := by
  funext s
  unfold L25_13 L62_2
  exact loopW_congr (fun s => by rw [B62_eq a0 hn]; rfl) s

theorem L25_30_eq (a0 : TGraph) (hn : a0.ready.length ≤ 24) (v w : Int) : L25_30 a0 v w = L62_2 a0 ((a0.choices.getD v.toNat TChoice.d).ways.getD w.toNat []) := by
  funext s
  unfold L25_30 L62_2
  exact loopW_congr (fun s => by rw [B62_eq a0 hn]; rfl) s

theorem L62_ret (a0 : TGraph) (hn : a0.ready.length ≤ 24) (l : List TArc) (hl : l.length ≤ 250) : Ret (L62_2 a0 l 0) fun x => match x with | .inl _ => True | .inr r => r ≠ 0 := by
  unfold L62_2
  refine Ret.loop l.length (fun i s => s = (i : Int)) rfl ?_ ?_
  · rintro i s hi rfl
    simp only [B62_eq a0 hn, F63_eq]
    simp (disch := omega) only [Ret_some, Ret_none, Ret_bind, Ret_asrt, Ret_cond, Sum.elim_inl, Sum.elim_inr, decide_eq_true_eq, decide_eq_false_iff_not, Bool.not_eq_true', Bool.not_not, Bool.and_eq_true, Bool.or_eq_true, Bool.true_eq_false, Bool.false_eq_true, Bool.not_true, Bool.not_false, if_true, if_false, ite_true, ite_false, true_and, and_true, false_and, and_false, Int.toNat_natCast, toN_succ, Int.ofNat_eq_natCast, Int.ofNat_toNat, Nat.zero_add, Nat.add_zero, not_true_eq_false, not_false_eq_true, implies_true, wr64]
    rw [if_pos (by omega)]
    refine ⟨by omega, ?_⟩
    split
    · assumption
    · omega
  · rintro s rfl
    simp only [B62_eq a0 hn]
    simp (disch := omega) only [Ret_some, Ret_none, Ret_bind, Ret_asrt, Ret_cond, Sum.elim_inl, Sum.elim_inr, decide_eq_true_eq, decide_eq_false_iff_not, Bool.not_eq_true', Bool.not_not, Bool.and_eq_true, Bool.or_eq_true, Bool.true_eq_false, Bool.false_eq_true, Bool.not_true, Bool.not_false, if_true, if_false, ite_true, ite_false, true_and, and_true, false_and, and_false, Int.toNat_natCast, toN_succ, Int.ofNat_eq_natCast, Int.ofNat_toNat, Nat.zero_add, Nat.add_zero, not_true_eq_false, not_false_eq_true, implies_true, wr64]
    rw [if_neg (by omega)]
    trivial

/-- ways of a choice -/
theorem ways_ret (a0 : TGraph) (hn : a0.ready.length ≤ 24) (v : Int) (hl : (a0.choices.getD v.toNat TChoice.d).ways.length ≤ 3) : Ret (L24_20 a0 v 0) fun x => L25_25 a0 v 0 = some x ∧ match x with | .inl _ => True | .inr r => r ≠ 0 := by
  unfold L24_20
  refine Ret.loop (a0.choices.getD v.toNat TChoice.d).ways.length (fun i s => s = (i : Int) ∧ L25_25 a0 v 0 = L25_25 a0 v (i : Int)) ⟨rfl, rfl⟩ ?_ ?_
  · rintro i s hi ⟨rfl, he⟩
    have hbb : L25_25 a0 v (i : Int) = (B25_25 a0 v (i : Int)).bind (Sum.elim (L25_25 a0 v) some) := loop_step
    have c0 : (i : Int) < ((a0.choices.getD v.toNat TChoice.d).ways.length : Int) := by omega
    have c1 : (0 : Int) ≤ (i : Int) ∧ (i : Int) < ((a0.choices.getD v.toNat TChoice.d).ways.length : Int) := by omega
    have hw : IntKind.wrap .i64 ((i : Int) + 1) = ((i + 1 : Nat) : Int) := by rw [wr64 (by omega) (by omega)]; rfl
    unfold B25_25 at hbb
    unfold B24_20 F62
    rw [L25_30_eq a0 hn] at hbb
    simp only [c0, decide_true, cond_true, asrt, if_pos c1, Int.toNat_natCast, hw] at hbb ⊢
    by_cases d : (4 : Int) < (((a0.choices.getD v.toNat TChoice.d).ways.getD i []).length : Int)
    · simp only [d, decide_true, cond_true, Option.bind_some, Sum.elim_inr] at hbb ⊢
      exact Ret_some.2 ⟨he.trans hbb, by decide⟩
    · obtain ⟨x, hx, hx2⟩ := L62_ret a0 hn ((a0.choices.getD v.toNat TChoice.d).ways.getD i []) (by omega)
      simp only [d, decide_false, cond_false, hx, Option.bind_some] at hbb ⊢
      rcases x with ⟨⟩ | r
      · simp only [Sum.elim_inl, Option.bind_some, decide_true, Bool.not_true, cond_false] at hbb ⊢
        exact Ret_some.2 ⟨rfl, he.trans hbb⟩
      · simp only at hx2
        simp only [Sum.elim_inr, Option.bind_some, hx2, decide_false, Bool.not_false, cond_true] at hbb ⊢
        exact Ret_some.2 ⟨he.trans hbb, hx2⟩
  · rintro s ⟨rfl, he⟩
    have hbb : L25_25 a0 v ((a0.choices.getD v.toNat TChoice.d).ways.length : Int) = (B25_25 a0 v ((a0.choices.getD v.toNat TChoice.d).ways.length : Int)).bind (Sum.elim (L25_25 a0 v) some) := loop_step
    unfold B25_25 at hbb
    unfold B24_20
    simp only [Int.lt_irrefl, decide_false, cond_false, Option.bind_some, Sum.elim_inr] at hbb ⊢
    exact Ret_some.2 ⟨he.trans hbb, trivial⟩

theorem choices_ret (a0 : TGraph) (hn : a0.ready.length ≤ 24) (hl : a0.choices.length ≤ 300) : Ret (L24_15 a0 0) fun x => L25_20 a0 0 = some x := by
  unfold L24_15
  refine Ret.loop a0.choices.length (fun i s => s = (i : Int) ∧ L25_20 a0 0 = L25_20 a0 (i : Int)) ⟨rfl, rfl⟩ ?_ ?_
  · rintro i s hi ⟨rfl, he⟩
    have hbb : L25_20 a0 (i : Int) = (B25_20 a0 (i : Int)).bind (Sum.elim (L25_20 a0) some) := loop_step
    have c0 : (i : Int) < (a0.choices.length : Int) := by omega
    have c1 : (0 : Int) ≤ (i : Int) ∧ (i : Int) < (a0.choices.length : Int) := by omega
    have hw : IntKind.wrap .i64 ((i : Int) + 1) = ((i + 1 : Nat) : Int) := by rw [wr64 (by omega) (by omega)]; rfl
    unfold B25_20 at hbb
    unfold B24_15
    simp only [c0, decide_true, cond_true, asrt, if_pos c1, Int.toNat_natCast, hw] at hbb ⊢
    by_cases d : (3 : Int) < ((a0.choices.getD i TChoice.d).ways.length : Int)
    · simp only [d, decide_true, cond_true, Option.bind_some, Sum.elim_inr] at hbb ⊢
      exact Ret_some.2 (he.trans hbb)
    · obtain ⟨x, hx, hx2, hx3⟩ := ways_ret a0 hn (i : Int) (by rw [Int.toNat_natCast]; omega)
      simp only [d, decide_false, cond_false, hx, hx2, Option.bind_some] at hbb ⊢
      rcases x with ⟨⟩ | r
      · simp only [Sum.elim_inl, Option.bind_some] at hbb ⊢
        exact Ret_some.2 ⟨rfl, he.trans hbb⟩
      · simp only [Sum.elim_inr, Option.bind_some] at hbb ⊢
        exact Ret_some.2 (he.trans hbb)
  · rintro s ⟨rfl, he⟩
    have hbb : L25_20 a0 (a0.choices.length : Int) = (B25_20 a0 (a0.choices.length : Int)).bind (Sum.elim (L25_20 a0) some) := loop_step
    unfold B25_20 at hbb
    unfold B24_15
    simp only [Int.lt_irrefl, decide_false, cond_false, Option.bind_some, Sum.elim_inr] at hbb ⊢
    exact Ret_some.2 (he.trans hbb)

theorem L24_6_eq (a0 : TGraph) : L24_6 a0 = L25_7 a0 := rfl

theorem nodes_ret (a0 : TGraph) (hn : a0.ready.length ≤ 24) (h1 : a0.last.length = a0.ready.length) (h2 : a0.due.length = a0.ready.length) : Ret (L25_7 a0 0) fun _ => True := by
  unfold L25_7
  refine Ret.loop a0.ready.length (fun i s => s = (i : Int)) rfl ?_ ?_
  · rintro i s hi rfl
    unfold B25_7
    simp (disch := omega) only [Ret_some, Ret_none, Ret_bind, Ret_asrt, Ret_cond, Sum.elim_inl, Sum.elim_inr, decide_eq_true_eq, decide_eq_false_iff_not, Bool.not_eq_true', Bool.not_not, Bool.and_eq_true, Bool.or_eq_true, Bool.true_eq_false, Bool.false_eq_true, Bool.not_true, Bool.not_false, if_true, if_false, ite_true, ite_false, true_and, and_true, false_and, and_false, Int.toNat_natCast, toN_succ, Int.ofNat_eq_natCast, Int.ofNat_toNat, Nat.zero_add, Nat.add_zero, not_true_eq_false, not_false_eq_true, implies_true, wr64, F51_eq]
    rw [if_pos (by omega)]
    refine ⟨by omega, ?_⟩
    split
    · trivial
    · refine ⟨by omega, ?_⟩
      split
      · trivial
      · refine ⟨by omega, ?_⟩
        split
        · trivial
        · omega
  · rintro s rfl
    unfold B25_7
    simp (disch := omega) only [Ret_some, Ret_none, Ret_bind, Ret_asrt, Ret_cond, Sum.elim_inl, Sum.elim_inr, decide_eq_true_eq, decide_eq_false_iff_not, Bool.not_eq_true', Bool.not_not, Bool.and_eq_true, Bool.or_eq_true, Bool.true_eq_false, Bool.false_eq_true, Bool.not_true, Bool.not_false, if_true, if_false, ite_true, ite_false, true_and, and_true, false_and, and_false, Int.toNat_natCast, toN_succ, Int.ofNat_eq_natCast, Int.ofNat_toNat, Nat.zero_add, Nat.add_zero, not_true_eq_false, not_false_eq_true, implies_true, wr64]
    rw [if_neg (by omega)]
    trivial

theorem F24_ret (a0 : TGraph) : Ret (F24 a0) fun r => F25 a0 = some r := by
  unfold F24 F25
  by_cases c1 : (24 : Int) < (a0.ready.length : Int)
  · simp [c1, Ret_some]
  · by_cases c2 : (250 : Int) < (a0.arcs.length : Int)
    · simp [c1, c2, Ret_some]
    · by_cases c3 : (300 : Int) < (a0.choices.length : Int)
      · simp [c1, c2, c3, Ret_some]
      · by_cases c4 : (a0.last.length : Int) = (a0.ready.length : Int)
        · by_cases c5 : (a0.due.length : Int) = (a0.ready.length : Int)
          · simp only [c1, c2, c3, c4, c5, decide_true, decide_false, Bool.not_true, cond_false]
            obtain ⟨x, hx, _⟩ := nodes_ret a0 (by omega) (by omega) (by omega)
            rw [L24_6_eq, hx, L25_13_eq a0 (by omega)]
            rcases x with ⟨⟩ | r
            · obtain ⟨y, hy, hy2⟩ := L62_ret a0 (by omega) a0.arcs (by omega)
              unfold F62
              rw [hy]
              simp only [Option.bind_some, Sum.elim_inl]
              rcases y with ⟨⟩ | q
              · obtain ⟨z, hz, hz2⟩ := choices_ret a0 (by omega) (by omega)
                rw [hz, hz2]
                simp only [Option.bind_some, Sum.elim_inl, decide_true, Bool.not_true, cond_false]
                rcases z with ⟨⟩ | t
                · exact Ret_some.2 rfl
                · exact Ret_some.2 rfl
              · simp only at hy2
                simp only [Option.bind_some, Sum.elim_inr, hy2, decide_false, Bool.not_false, cond_true]
                exact Ret_some.2 rfl
            · exact Ret_some.2 rfl
          · simp [c1, c2, c3, c4, c5, Ret_some]
        · simp [c1, c2, c3, c4, Ret_some]

theorem F5_true (a0 : TGraph) : F5 a0 = some true := by
  obtain ⟨r, h1, h2⟩ := F24_ret a0
  unfold F5
  rw [h1, h2, show F23 = some true from rfl]
  simp

end Go.Proofs.Ytecaleolkdoggaa
