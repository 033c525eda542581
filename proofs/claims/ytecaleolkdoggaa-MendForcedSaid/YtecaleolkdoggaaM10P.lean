/- MendForced: what its pure functions return. -/
import Derived.Test.YtecaleolkdoggaaA21
import Derived.Test.YtecaleolkdoggaaM10C
import Derived.Test.YtecaleolkdoggaaA18
open Go Go.Proofs.Ytecaleolkdoggaa.Fw
namespace Go.Proofs.Ytecaleolkdoggaa
set_option maxRecDepth 100000
set_option linter.unusedVariables false
set_option linter.unusedSimpArgs false
/-! ### least solutions of differences -/
def sm (f : Nat → Nat) : Nat → Nat
  | 0 => 0
  | n + 1 => sm f n + f n
theorem sm_le {f g : Nat → Nat} : ∀ {n : Nat}, (∀ i, i < n → f i ≤ g i) → sm f n ≤ sm g n
  | 0, _ => Nat.le_refl _
  | n + 1, h => Nat.add_le_add (sm_le fun i hi => h i (by omega)) (h n (by omega))
theorem sm_lt {f g : Nat → Nat} : ∀ {n i : Nat}, (∀ j, j < n → f j ≤ g j) → i < n → f i < g i → sm f n < sm g n
  | 0, i, _, hi, _ => by omega
  | n + 1, i, h, hi, hl => by
    by_cases e : i = n
    · subst e
      have := sm_le (n := i) (fun j hj => h j (by omega))
      simp only [sm]; omega
    · have := sm_lt (n := n) (i := i) (fun j hj => h j (by omega)) (by omega) hl
      have := h n (by omega)
      simp only [sm]; omega
theorem sm_const {c : Nat} : ∀ {n : Nat}, sm (fun _ => c) n = n * c
  | 0 => by simp [sm]
  | n + 1 => by simp only [sm, sm_const (n := n)]; rw [Nat.add_mul]; omega
abbrev Arc3 := Nat × Nat × Int
def Keeps (E : List Arc3) (x : Nat → Int) : Prop := ∀ a ∈ E, x a.1 + a.2.2 ≤ x a.2.1
def InN (n : Nat) (E : List Arc3) : Prop := ∀ a ∈ E, a.1 < n ∧ a.2.1 < n
def up (E : List Arc3) (x : Nat → Int) (v : Nat) : Int := E.foldl (fun m a => if a.2.1 = v then max m (x a.1 + a.2.2) else m) (x v)
theorem upF_ge (x : Nat → Int) (v : Nat) : ∀ (E : List Arc3) (m : Int), m ≤ E.foldl (fun m a => if a.2.1 = v then max m (x a.1 + a.2.2) else m) m
  | [], m => Int.le_refl m
  | a :: r, m => by
    rw [List.foldl_cons]
    refine Int.le_trans ?_ (upF_ge x v r _)
    split
    · exact Int.le_max_left _ _
    · exact Int.le_refl _
theorem upF_arc (x : Nat → Int) (v : Nat) : ∀ (E : List Arc3) (m : Int) (a : Arc3), a ∈ E → a.2.1 = v → x a.1 + a.2.2 ≤ E.foldl (fun m a => if a.2.1 = v then max m (x a.1 + a.2.2) else m) m
  | [], _, _, h, _ => by simp at h
  | b :: r, m, a, h, hv => by
    rw [List.foldl_cons]
    rcases List.mem_cons.1 h with rfl | h
    · rw [if_pos hv]
      exact Int.le_trans (Int.le_max_right _ _) (upF_ge x v r _)
    · exact upF_arc x v r _ a h hv
theorem upF_le (x : Nat → Int) (v : Nat) {B : Int} : ∀ (E : List Arc3) (m : Int), m ≤ B → (∀ a ∈ E, a.2.1 = v → x a.1 + a.2.2 ≤ B) → E.foldl (fun m a => if a.2.1 = v then max m (x a.1 + a.2.2) else m) m ≤ B
  | [], _, h, _ => h
  | a :: r, m, h, k => by
    rw [List.foldl_cons]
    refine upF_le x v r _ ?_ (fun b hb => k b (List.mem_cons_of_mem _ hb))
    split
    · rename_i e
      exact Int.max_le.2 ⟨h, k a (by simp) e⟩
    · exact h
theorem up_ge (E : List Arc3) (x : Nat → Int) (v : Nat) : x v ≤ up E x v := upF_ge x v E _
theorem up_arc {E : List Arc3} {x : Nat → Int} {a : Arc3} (h : a ∈ E) : x a.1 + a.2.2 ≤ up E x a.2.1 := upF_arc x _ E _ a h rfl
theorem up_le {E : List Arc3} {x : Nat → Int} {v : Nat} {B : Int} (h : x v ≤ B) (k : ∀ a ∈ E, a.2.1 = v → x a.1 + a.2.2 ≤ B) : up E x v ≤ B := upF_le x v E _ h k
def its (E : List Arc3) (x : Nat → Int) : Nat → Nat → Int
  | 0 => x
  | k + 1 => up E (its E x k)
theorem its_mono (E : List Arc3) (x : Nat → Int) (v : Nat) : ∀ {k m : Nat}, k ≤ m → its E x k v ≤ its E x m v := by
  intro k m h
  induction h with
  | refl => exact Int.le_refl _
  | step _ ih => exact Int.le_trans ih (up_ge _ _ _)
theorem its_le {n : Nat} {E : List Arc3} {x S : Nat → Int} (hn : InN n E) (hS : Keeps E S) (h : ∀ v, v < n → x v ≤ S v) : ∀ (k v : Nat), v < n → its E x k v ≤ S v
  | 0, v, hv => h v hv
  | k + 1, v, hv => up_le (its_le hn hS h k v hv) fun a ha e => by
    have := its_le hn hS h k a.1 (hn a ha).1
    have := hS a ha
    rw [e] at this
    omega
theorem its_stop {n : Nat} {E : List Arc3} {x S : Nat → Int} (hn : InN n E) (hS : Keeps E S) (h : ∀ v, v < n → x v ≤ S v) : ∃ K, ∀ v, v < n → its E x (K + 1) v = its E x K v := by
  have key : ∀ (m k : Nat), sm (fun v => (S v - its E x k v).toNat) n ≤ m → ∃ K, ∀ v, v < n → its E x (K + 1) v = its E x K v := by
    intro m
    induction m with
    | zero =>
      intro k hk
      refine ⟨k, fun v hv => ?_⟩
      by_cases e : its E x (k + 1) v = its E x k v
      · exact e
      · exfalso
        have h1 := its_mono E x v (show k ≤ k + 1 by omega)
        have h2 := its_le hn hS h (k + 1) v hv
        have h3 : 0 < (S v - its E x k v).toNat := by omega
        have := sm_lt (f := fun _ => 0) (g := fun v => (S v - its E x k v).toNat) (n := n) (i := v) (fun _ _ => Nat.zero_le _) hv h3
        omega
    | succ m ih =>
      intro k hk
      by_cases c : ∀ v, v < n → its E x (k + 1) v = its E x k v
      · exact ⟨k, c⟩
      · obtain ⟨v, hc⟩ := Classical.not_forall.1 c
        obtain ⟨hv, e⟩ := Classical.not_imp.1 hc
        refine ih (k + 1) ?_
        have h1 := its_mono E x v (show k ≤ k + 1 by omega)
        have h2 := its_le hn hS h (k + 1) v hv
        have := sm_lt (f := fun v => (S v - its E x (k + 1) v).toNat) (g := fun v => (S v - its E x k v).toNat) (n := n) (i := v) (fun j hj => by
          have := its_mono E x j (show k ≤ k + 1 by omega)
          show (S j - its E x (k + 1) j).toNat ≤ (S j - its E x k j).toNat
          omega) hv (by show (S v - its E x (k + 1) v).toNat < (S v - its E x k v).toNat; omega)
        omega
  exact key _ 0 (Nat.le_refl _)
theorem its_conv {n : Nat} {E : List Arc3} {x S : Nat → Int} (hn : InN n E) (hS : Keeps E S) (h : ∀ v, v < n → x v ≤ S v) : ∀ (k v : Nat), v < n → its E x k v ≤ its E x n v := by
  obtain ⟨K, hK⟩ := its_stop hn hS h
  have hL : Keeps E (its E x K) := fun a ha => by
    have := up_arc (E := E) (x := its E x K) ha
    have e := hK a.2.1 (hn a ha).2
    rw [← e]; exact this
  have hle : ∀ k v, v < n → its E x k v ≤ its E x K v := fun k v hv => its_le hn hL (fun v hv => its_mono E x v (Nat.zero_le K)) k v hv
  have grow : ∀ k, (∀ v, v < n → its E x (k + 1) v = its E x K v → its E x k v = its E x K v) → ∀ v, v < n → its E x k v = its E x K v := by
    intro k hk v hv
    have hb : Keeps E fun v => if its E x k v = its E x K v then its E x K v else its E x K v - 1 := by
      intro a ha
      have hu := hle k a.1 (hn a ha).1
      have hw := hL a ha
      have hup := up_arc (E := E) (x := its E x k) ha
      have hle2 := hle (k + 1) a.2.1 (hn a ha).2
      simp only
      by_cases c1 : its E x k a.2.1 = its E x K a.2.1
      · rw [if_pos c1]; split <;> omega
      · rw [if_neg c1]
        by_cases c2 : its E x k a.1 = its E x K a.1
        · rw [if_pos c2]
          by_cases c3 : its E x K a.1 + a.2.2 = its E x K a.2.1
          · exfalso
            refine c1 (hk a.2.1 (hn a ha).2 ?_)
            show up E (its E x k) a.2.1 = _
            have : up E (its E x k) a.2.1 ≤ its E x K a.2.1 := hle2
            omega
          · omega
        · rw [if_neg c2]; omega
    have := its_le hn hb (fun v hv => by
      have h1 := hle k v hv
      have h2 := its_mono E x v (Nat.zero_le k)
      have h3 := its_mono E x v (Nat.zero_le K)
      simp only [its] at h2 h3
      split <;> omega) K v hv
    split at this
    · assumption
    · omega
  have cnt : ∀ k, (∀ v, v < n → its E x k v = its E x K v) ∨ k ≤ sm (fun v => if its E x k v = its E x K v then 1 else 0) n := by
    intro k
    induction k with
    | zero => exact .inr (Nat.zero_le _)
    | succ k ih =>
      rcases ih with ih | ih
      · refine .inl fun v hv => ?_
        have h1 := ih v hv
        have h2 := its_mono E x v (show k ≤ k + 1 by omega)
        have h3 := hle (k + 1) v hv
        omega
      · by_cases c : ∀ v, v < n → its E x (k + 1) v = its E x K v → its E x k v = its E x K v
        · refine .inl fun v hv => ?_
          have h1 := grow k c v hv
          have h2 := its_mono E x v (show k ≤ k + 1 by omega)
          have h3 := hle (k + 1) v hv
          omega
        · obtain ⟨v, hc⟩ := Classical.not_forall.1 c
          obtain ⟨hv, hc⟩ := Classical.not_imp.1 hc
          obtain ⟨e1, e2⟩ := Classical.not_imp.1 hc
          refine .inr ?_
          have := sm_lt (f := fun v => if its E x k v = its E x K v then 1 else 0) (g := fun v => if its E x (k + 1) v = its E x K v then 1 else 0) (n := n) (i := v) (fun j hj => by
            have h1 := its_mono E x j (show k ≤ k + 1 by omega)
            have h3 := hle (k + 1) j hj
            split
            · rename_i e; rw [if_pos (by omega)]; exact Nat.le_refl _
            · exact Nat.zero_le _) hv (by rw [if_neg e2, if_pos e1]; omega)
          omega
  have hall : ∀ v, v < n → its E x n v = its E x K v := by
    rcases cnt n with h1 | h1
    · exact h1
    · intro v hv
      by_cases e : its E x n v = its E x K v
      · exact e
      · exfalso
        have := sm_lt (f := fun v => if its E x n v = its E x K v then 1 else 0) (g := fun _ => 1) (n := n) (i := v) (fun j _ => by split <;> omega) hv (by rw [if_neg e]; omega)
        rw [sm_const] at this
        omega
  intro k v hv
  rw [hall v hv]
  exact hle k v hv
theorem upF_cases (x : Nat → Int) (v : Nat) : ∀ (E : List Arc3) (m : Int), E.foldl (fun m a => if a.2.1 = v then max m (x a.1 + a.2.2) else m) m = m ∨ ∃ a ∈ E, a.2.1 = v ∧ E.foldl (fun m a => if a.2.1 = v then max m (x a.1 + a.2.2) else m) m = x a.1 + a.2.2
  | [], m => .inl rfl
  | a :: r, m => by
    rw [List.foldl_cons]
    rcases upF_cases x v r (if a.2.1 = v then max m (x a.1 + a.2.2) else m) with h | ⟨b, hb, hv, h⟩
    · rw [h]
      by_cases e : a.2.1 = v
      · rw [if_pos e]
        rcases Int.le_total m (x a.1 + a.2.2) with c | c
        · exact .inr ⟨a, by simp, e, by omega⟩
        · exact .inl (by omega)
      · rw [if_neg e]; exact .inl rfl
    · exact .inr ⟨b, by simp [hb], hv, h⟩
theorem sm_ex {f g : Nat → Nat} {i : Nat} : ∀ {n : Nat}, (∀ j, j < n → j ≠ i → f j = g j) → i < n → sm f n + g i = sm g n + f i
  | 0, _, hi => by omega
  | n + 1, h, hi => by
    simp only [sm]
    by_cases e : i = n
    · subst e
      have : sm f i = sm g i := by
        have h1 := sm_le (f := f) (g := g) (n := i) (fun j hj => by rw [h j (by omega) (by omega)]; exact Nat.le_refl _)
        have h2 := sm_le (f := g) (g := f) (n := i) (fun j hj => by rw [h j (by omega) (by omega)]; exact Nat.le_refl _)
        omega
      omega
    · have := sm_ex (n := n) (fun j hj => h j (by omega)) (by omega)
      have := h n (by omega) (fun q => e q.symm)
      omega
open Classical in
theorem its_bound {n : Nat} {E : List Arc3} {x S : Nat → Int} (hn : InN n E) (hS : Keeps E S) (h : ∀ v, v < n → x v ≤ S v) {mx : Int} {most : Nat → Nat} (hx : ∀ v, v < n → x v ≤ mx) (hm : ∀ a ∈ E, a.2.2 ≤ (most a.1 : Int)) :
    ∀ v, v < n → its E x n v ≤ mx + (sm most n : Int) := by
  have hconv := its_conv hn hS h
  have hL : Keeps E (its E x n) := fun a ha => Int.le_trans (up_arc ha) (hconv (n + 1) a.2.1 (hn a ha).2)
  have hF : ∀ {j k v}, j ≤ k → v < n → its E x j v = its E x n v → its E x k v = its E x n v := fun {j k v} hjk hv e => by
    have h1 := its_mono E x v hjk
    have h2 := hconv k v hv
    omega
  have key : ∀ k v, v < n → its E x k v = its E x n v → its E x n v ≤ mx + (sm (fun w => if ∃ j, j < k ∧ its E x j w = its E x n w then most w else 0) n : Int) := by
    intro k
    induction k with
    | zero =>
      intro v hv e
      have h1 : its E x 0 v = x v := rfl
      have h2 := hx v hv
      have : (0 : Int) ≤ (sm (fun w => if ∃ j, j < 0 ∧ its E x j w = its E x n w then most w else 0) n : Int) := Int.natCast_nonneg _
      omega
    | succ k ih =>
      intro v hv e
      have hmono : sm (fun w => if ∃ j, j < k ∧ its E x j w = its E x n w then most w else 0) n ≤ sm (fun w => if ∃ j, j < k + 1 ∧ its E x j w = its E x n w then most w else 0) n := sm_le fun i _ => by
        split
        · rename_i q
          obtain ⟨j, hj, hq⟩ := q
          rw [if_pos ⟨j, by omega, hq⟩]; exact Nat.le_refl _
        · exact Nat.zero_le _
      by_cases c : its E x k v = its E x n v
      · have := ih v hv c; omega
      · rcases upF_cases (its E x k) v E (its E x k v) with q | ⟨a, ha, hav, q⟩
        · exact absurd (q.symm.trans e) c
        · have q : its E x (k + 1) v = its E x k a.1 + a.2.2 := q
          have hu := (hn a ha).1
          have h1 := hL a ha
          rw [hav] at h1
          have h2 := hconv k a.1 hu
          have hFu : its E x k a.1 = its E x n a.1 := by omega
          have hnot : ¬ ∃ j, j < k ∧ its E x j a.1 = its E x n a.1 := by
            rintro ⟨j, hj, hq⟩
            have h3 := up_arc (x := its E x j) ha
            rw [hav] at h3
            have h4 : its E x (j + 1) v = up E (its E x j) v := rfl
            have h5 := hconv (j + 1) v hv
            exact c (hF (j := j + 1) (k := k) (by omega) hv (by omega))
          have h6 := ih a.1 hu hFu
          have h7 := sm_ex (f := fun w => if w = a.1 then most a.1 else if ∃ j, j < k ∧ its E x j w = its E x n w then most w else 0) (g := fun w => if ∃ j, j < k ∧ its E x j w = its E x n w then most w else 0) (i := a.1) (n := n) (fun j _ hj => if_neg hj) hu
          rw [if_neg hnot, if_pos rfl] at h7
          have h8 : sm (fun w => if w = a.1 then most a.1 else if ∃ j, j < k ∧ its E x j w = its E x n w then most w else 0) n ≤ sm (fun w => if ∃ j, j < k + 1 ∧ its E x j w = its E x n w then most w else 0) n := sm_le fun i _ => by
            split
            · rename_i e2; subst e2
              rw [if_pos ⟨k, by omega, hFu⟩]; exact Nat.le_refl _
            · split
              · rename_i q2
                obtain ⟨j, hj, hq⟩ := q2
                rw [if_pos ⟨j, by omega, hq⟩]; exact Nat.le_refl _
              · exact Nat.zero_le _
          have h9 := hm a ha
          omega
  intro v hv
  have h1 := key n v hv rfl
  have h2 : sm (fun w => if ∃ j, j < n ∧ its E x j w = its E x n w then most w else 0) n ≤ sm most n := sm_le fun i _ => by split <;> omega
  omega
/-! ### the solver: one arc -/
def A3 (a : TArc) : Arc3 := (a.from0.toNat, a.to0.toNat, a.len)
def E3 (l : List TArc) : List Arc3 := l.map A3
structure ArcOk (n : Nat) (a : TArc) : Prop where
  f0 : 0 ≤ a.from0
  f1 : a.from0 < (n : Int)
  t0 : 0 ≤ a.to0
  t1 : a.to0 < (n : Int)
  l0 : -28800 ≤ a.len
  l1 : a.len ≤ 28800
  ne : a.from0 ≠ a.to0
structure W where
  ok : Bool
  todo : List Int
  rai : List Int
  wai : List Bool
  tim : List Int
def W.tr (last : List Int) (a : TArc) (w : W) : W :=
  if w.tim.getD a.from0.toNat 0 + a.len ≤ w.tim.getD a.to0.toNat 0 then w
  else
    { ok := w.ok && ((decide (last.getD a.to0.toNat 0 < 0) || decide (w.tim.getD a.from0.toNat 0 + a.len ≤ last.getD a.to0.toNat 0)) && (decide (w.tim.getD a.from0.toNat 0 + a.len ≤ 1099511627776) && decide (w.rai.getD a.to0.toNat 0 + 1 ≤ 65536)))
      todo := if w.wai.getD a.to0.toNat false = true then w.todo else w.todo ++ [a.to0]
      rai := w.rai.set a.to0.toNat (w.rai.getD a.to0.toNat 0 + 1)
      wai := if w.wai.getD a.to0.toNat false = true then w.wai else w.wai.set a.to0.toNat true
      tim := w.tim.set a.to0.toNat (w.tim.getD a.from0.toNat 0 + a.len) }
structure W.Sz (n : Nat) (w : W) : Prop where
  rai : w.rai.length = n
  wai : w.wai.length = n
  tim : w.tim.length = n
  t0 : ∀ v, v < n → 0 ≤ w.tim.getD v 0
  t1 : ∀ v, v < n → w.tim.getD v 0 ≤ 1000000000000000000
  r0 : ∀ v, v < n → 0 ≤ w.rai.getD v 0
  r1 : ∀ v, v < n → w.rai.getD v 0 ≤ 1000000000000000000
  td : w.todo.length ≤ 1000000000
theorem F88_eq {n : Nat} {a : TArc} {w : W} {last : List Int} {outs : List (List TArc)} (ha : ArcOk n a) (hw : w.Sz n) (hl : last.length = n) :
    F88 a w.ok w.todo last w.rai w.wai w.tim outs = some ((), (w.tr last a).ok, (w.tr last a).todo, last, (w.tr last a).rai, (w.tr last a).wai, (w.tr last a).tim, outs) := by
  obtain ⟨f0, f1, t0, t1, l0, l1, hne⟩ := ha
  obtain ⟨e1, e2, e3, q1, q2, q3, q4, q5⟩ := hw
  have hf : a.from0.toNat < n := by omega
  have ht : a.to0.toNat < n := by omega
  have b1 := q1 _ hf
  have b2 := q2 _ hf
  have b3 := q3 _ ht
  have b4 := q4 _ ht
  have w1 : IntKind.wrap .i64 (w.tim.getD a.from0.toNat 0 + a.len) = w.tim.getD a.from0.toNat 0 + a.len := wr64 (by omega) (by omega)
  have w2 : IntKind.wrap .i64 (w.rai.getD a.to0.toNat 0 + 1) = w.rai.getD a.to0.toNat 0 + 1 := wr64 (by omega) (by omega)
  have s1 : (w.rai.set a.to0.toNat (w.rai.getD a.to0.toNat 0 + 1)).getD a.to0.toNat 0 = w.rai.getD a.to0.toNat 0 + 1 := by rw [lgetD_set, if_pos ⟨rfl, by omega⟩]
  have hq1 : w.todo.length + 1 ≤ 140737488355328 := by omega
  have hq2 : (w.todo.length + 1) * 8 ≤ 140737488355328 := by omega
  unfold F88 W.tr
  simp only [Nat.zero_add, w1, w2, s1, e1, e2, e3, hl, List.length_set, asrt, f0, f1, t0, t1, hf, ht, hq1, hq2, and_self, if_true, Option.bind_some]
  by_cases c : w.tim.getD a.from0.toNat 0 + a.len ≤ w.tim.getD a.to0.toNat 0
  · simp only [c, decide_true, cond_true, if_true]
  · simp only [c, decide_false, cond_false, if_false]
    cases w.ok <;> by_cases c1 : last.getD a.to0.toNat 0 < 0 <;> by_cases c2 : w.tim.getD a.from0.toNat 0 + a.len ≤ last.getD a.to0.toNat 0 <;> by_cases c3 : w.tim.getD a.from0.toNat 0 + a.len ≤ 1099511627776 <;> cases c4 : w.wai.getD a.to0.toNat false <;>
      simp only [c1, c2, c3, decide_true, decide_false, cond_true, cond_false, Option.bind_some, Bool.not_true, Bool.not_false, Bool.true_and, Bool.false_and, Bool.true_or, Bool.false_or, Bool.or_self, Bool.and_true, Bool.and_false, if_true, if_false, Bool.false_eq_true]
/-! ### the solver: arcs one after the other -/
structure W.Szk (n : Nat) (T R : Int) (D : Nat) (w : W) : Prop where
  rai : w.rai.length = n
  wai : w.wai.length = n
  tim : w.tim.length = n
  t0 : ∀ v, v < n → 0 ≤ w.tim.getD v 0
  t1 : ∀ v, v < n → w.tim.getD v 0 ≤ T
  r0 : ∀ v, v < n → 0 ≤ w.rai.getD v 0
  r1 : ∀ v, v < n → w.rai.getD v 0 ≤ R
  td : w.todo.length ≤ D
theorem W.Szk.sz {n : Nat} {T R : Int} {D : Nat} {w : W} (h : w.Szk n T R D) (h1 : T ≤ 1000000000000000000) (h2 : R ≤ 1000000000000000000) (h3 : D ≤ 1000000000) : w.Sz n :=
  ⟨h.rai, h.wai, h.tim, h.t0, fun v hv => Int.le_trans (h.t1 v hv) h1, h.r0, fun v hv => Int.le_trans (h.r1 v hv) h2, Nat.le_trans h.td h3⟩
theorem W.tr_no {last : List Int} {a : TArc} {w : W} (h : w.tim.getD a.from0.toNat 0 + a.len ≤ w.tim.getD a.to0.toNat 0) : w.tr last a = w := if_pos h
theorem W.tr_tim {last : List Int} {a : TArc} {w : W} {v : Nat} (ht : a.to0.toNat < w.tim.length) :
    (w.tr last a).tim.getD v 0 = if v = a.to0.toNat then max (w.tim.getD v 0) (w.tim.getD a.from0.toNat 0 + a.len) else w.tim.getD v 0 := by
  by_cases h : w.tim.getD a.from0.toNat 0 + a.len ≤ w.tim.getD a.to0.toNat 0
  · rw [W.tr_no h]
    split
    · rename_i e; subst e; omega
    · rfl
  · unfold W.tr
    rw [if_neg h, lgetD_set]
    by_cases e : v = a.to0.toNat
    · subst e; rw [if_pos ⟨rfl, ht⟩, if_pos rfl]; omega
    · rw [if_neg (fun q => e q.1.symm), if_neg e]
theorem W.tr_rai {last : List Int} {a : TArc} {w : W} {v : Nat} (ht : a.to0.toNat < w.rai.length) :
    w.rai.getD v 0 ≤ (w.tr last a).rai.getD v 0 ∧ (w.tr last a).rai.getD v 0 ≤ w.rai.getD v 0 + 1 := by
  by_cases h : w.tim.getD a.from0.toNat 0 + a.len ≤ w.tim.getD a.to0.toNat 0
  · rw [W.tr_no h]; omega
  · unfold W.tr
    rw [if_neg h, lgetD_set]
    by_cases e : a.to0.toNat = v
    · subst e; rw [if_pos ⟨rfl, ht⟩]; omega
    · rw [if_neg (fun q => e q.1)]; omega
theorem W.tr_len {last : List Int} {a : TArc} {w : W} : (w.tr last a).rai.length = w.rai.length ∧ (w.tr last a).wai.length = w.wai.length ∧ (w.tr last a).tim.length = w.tim.length ∧ (w.tr last a).todo.length ≤ w.todo.length + 1 := by
  unfold W.tr
  split
  · exact ⟨rfl, rfl, rfl, by omega⟩
  · refine ⟨by simp, ?_, by simp, ?_⟩ <;> simp only <;> split <;> simp
theorem W.Szk.tr {n : Nat} {T R : Int} {D : Nat} {w : W} {last : List Int} {a : TArc} (h : w.Szk n T R D) (ha : ArcOk n a) : (w.tr last a).Szk n (T + 28800) (R + 1) (D + 1) := by
  obtain ⟨e1, e2, e3, e4⟩ := W.tr_len (last := last) (a := a) (w := w)
  have hf := h.t1 a.from0.toNat (by have := ha.f0; have := ha.f1; omega)
  have htn : a.to0.toNat < n := by have := ha.t0; have := ha.t1; omega
  have hl := ha.l1
  refine ⟨e1.trans h.rai, e2.trans h.wai, e3.trans h.tim, fun v hv => ?_, fun v hv => ?_, fun v hv => ?_, fun v hv => ?_, by have := h.td; omega⟩
  · rw [W.tr_tim (by rw [h.tim]; exact htn)]
    have := h.t0 v hv
    split <;> omega
  · rw [W.tr_tim (by rw [h.tim]; exact htn)]
    have := h.t1 v hv
    split <;> omega
  · have := (W.tr_rai (last := last) (w := w) (a := a) (v := v) (by rw [h.rai]; exact htn)).1
    have := h.r0 v hv
    omega
  · have := (W.tr_rai (last := last) (w := w) (a := a) (v := v) (by rw [h.rai]; exact htn)).2
    have := h.r1 v hv
    omega
def W.run (last : List Int) (l : List TArc) (w : W) : W := l.foldl (fun w a => w.tr last a) w
theorem W.run_snoc {last : List Int} {l : List TArc} {a : TArc} {w : W} : W.run last (l ++ [a]) w = (W.run last l w).tr last a := by simp [W.run]
theorem W.Szk.run {n : Nat} {T R : Int} {D : Nat} {last : List Int} : ∀ {l : List TArc} {w : W}, w.Szk n T R D → (∀ a ∈ l, ArcOk n a) → (W.run last l w).Szk n (T + 28800 * l.length) (R + l.length) (D + l.length)
  | [], w, h, _ => by simpa [W.run] using h
  | a :: l, w, h, ha => by
    have := W.Szk.run (last := last) (T := T + 28800) (R := R + 1) (D := D + 1) (l := l) (h.tr (last := last) (ha a (by simp))) (fun b hb => ha b (by simp [hb]))
    simp only [List.length_cons, Int.natCast_add]
    have e1 : T + 28800 + 28800 * (l.length : Int) = T + 28800 * ((l.length : Int) + ((1 : Nat) : Int)) := by omega
    have e2 : R + 1 + (l.length : Int) = R + ((l.length : Int) + ((1 : Nat) : Int)) := by omega
    have e3 : D + 1 + l.length = D + (l.length + 1) := by omega
    rw [e1, e2, e3] at this
    exact this
theorem L68_13_eq {n : Nat} {T R : Int} {D : Nat} {last : List Int} {outs : List (List TArc)} {l : List TArc} {w : W} (hw : w.Szk n T R D) (ha : ∀ a ∈ l, ArcOk n a) (hl : last.length = n)
    (h1 : T + 28800 * l.length ≤ 1000000000000000000) (h2 : R + l.length ≤ 1000000000000000000) (h3 : D + l.length ≤ 1000000000) :
    L68_13 l (0, w.tim, outs, last, w.wai, w.rai, w.todo, w.ok) = some ((W.run last l w).tim, outs, last, (W.run last l w).wai, (W.run last l w).rai, (W.run last l w).todo, (W.run last l w).ok) := by
  refine Ret.eq ?_
  unfold L68_13
  refine Ret.loop l.length (fun i s => s = ((i : Int), (W.run last (l.take i) w).tim, outs, last, (W.run last (l.take i) w).wai, (W.run last (l.take i) w).rai, (W.run last (l.take i) w).todo, (W.run last (l.take i) w).ok)) (by simp [W.run]) ?_ ?_
  · rintro i s hi rfl
    have hk := (W.Szk.run (last := last) (l := l.take i) hw (fun a h => ha a (List.mem_of_mem_take h)))
    have hle : (l.take i).length = i := by rw [List.length_take]; omega
    rw [hle] at hk
    have hsz := hk.sz (by omega) (by omega) (by omega)
    have hai := ha _ (getD_mem (d := TArc.d) hi)
    have e := F88_eq (outs := outs) hai hsz hl
    obtain ⟨e1, e2, e3, _⟩ := W.tr_len (last := last) (a := l.getD i TArc.d) (w := W.run last (l.take i) w)
    have hrun : W.run last (l.take (i + 1)) w = (W.run last (l.take i) w).tr last (l.getD i TArc.d) := by rw [take_succ' TArc.d hi, W.run_snoc]
    unfold B68_13
    simp only [Int.toNat_natCast, e, Option.bind_some, e1, e2, e3, hk.rai, hk.wai, hk.tim]
    simp (disch := omega) only [Ret_some, Ret_none, Ret_bind, Ret_asrt, Ret_cond, Sum.elim_inl, Sum.elim_inr, decide_eq_true_eq, decide_eq_false_iff_not, Bool.not_eq_true', Bool.not_not, Bool.and_eq_true, Bool.or_eq_true, Bool.true_eq_false, Bool.false_eq_true, Bool.not_true, Bool.not_false, if_true, if_false, ite_true, ite_false, true_and, and_true, false_and, and_false, Int.toNat_natCast, toN_succ, Int.ofNat_eq_natCast, Int.ofNat_toNat, Nat.zero_add, Nat.add_zero, not_true_eq_false, not_false_eq_true, implies_true, wr64, hrun]
    rw [if_pos (by omega)]
    exact ⟨by omega, rfl⟩
  · rintro s rfl
    unfold B68_13
    simp (disch := omega) only [Ret_some, Ret_none, Ret_bind, Ret_asrt, Ret_cond, Sum.elim_inl, Sum.elim_inr, decide_eq_true_eq, decide_eq_false_iff_not, Bool.not_eq_true', Bool.not_not, Bool.and_eq_true, Bool.or_eq_true, Bool.true_eq_false, Bool.false_eq_true, Bool.not_true, Bool.not_false, if_true, if_false, ite_true, ite_false, true_and, and_true, false_and, and_false, Int.toNat_natCast, toN_succ, Int.ofNat_eq_natCast, Int.ofNat_toNat, Nat.zero_add, Nat.add_zero, not_true_eq_false, not_false_eq_true, implies_true, wr64, List.take_length]
    rw [if_neg (by omega)]
    trivial
theorem L68_25_eq {n : Nat} {T R : Int} {D : Nat} {last : List Int} {outs : List (List TArc)} {l : List TArc} {w : W} {M1 : List (List TArc)} {td : List Int} (hlist : M1.getD (0 + (td.getD 0 0).toNat) [] = l) (hw : w.Szk n T R D) (ha : ∀ a ∈ l, ArcOk n a) (hl : last.length = n)
    (h1 : T + 28800 * l.length ≤ 1000000000000000000) (h2 : R + l.length ≤ 1000000000000000000) (h3 : D + l.length ≤ 1000000000) :
    L68_25 M1 td (0, w.tim, outs, last, w.wai, w.rai, w.todo, w.ok) = some ((W.run last l w).tim, outs, last, (W.run last l w).wai, (W.run last l w).rai, (W.run last l w).todo, (W.run last l w).ok) := by
  refine Ret.eq ?_
  unfold L68_25
  refine Ret.loop l.length (fun i s => s = ((i : Int), (W.run last (l.take i) w).tim, outs, last, (W.run last (l.take i) w).wai, (W.run last (l.take i) w).rai, (W.run last (l.take i) w).todo, (W.run last (l.take i) w).ok)) (by simp [W.run]) ?_ ?_
  · rintro i s hi rfl
    have hk := (W.Szk.run (last := last) (l := l.take i) hw (fun a h => ha a (List.mem_of_mem_take h)))
    have hle : (l.take i).length = i := by rw [List.length_take]; omega
    rw [hle] at hk
    have hsz := hk.sz (by omega) (by omega) (by omega)
    have hai := ha _ (getD_mem (d := TArc.d) hi)
    have e := F88_eq (outs := outs) hai hsz hl
    obtain ⟨e1, e2, e3, _⟩ := W.tr_len (last := last) (a := l.getD i TArc.d) (w := W.run last (l.take i) w)
    have hrun : W.run last (l.take (i + 1)) w = (W.run last (l.take i) w).tr last (l.getD i TArc.d) := by rw [take_succ' TArc.d hi, W.run_snoc]
    unfold B68_25
    rw [hlist]
    simp only [Int.toNat_natCast, e, Option.bind_some, e1, e2, e3, hk.rai, hk.wai, hk.tim]
    simp (disch := omega) only [Ret_some, Ret_none, Ret_bind, Ret_asrt, Ret_cond, Sum.elim_inl, Sum.elim_inr, decide_eq_true_eq, decide_eq_false_iff_not, Bool.not_eq_true', Bool.not_not, Bool.and_eq_true, Bool.or_eq_true, Bool.true_eq_false, Bool.false_eq_true, Bool.not_true, Bool.not_false, if_true, if_false, ite_true, ite_false, true_and, and_true, false_and, and_false, Int.toNat_natCast, toN_succ, Int.ofNat_eq_natCast, Int.ofNat_toNat, Nat.zero_add, Nat.add_zero, not_true_eq_false, not_false_eq_true, implies_true, wr64, hrun]
    rw [if_pos (by omega)]
    exact ⟨by omega, rfl⟩
  · rintro s rfl
    unfold B68_25
    rw [hlist]
    simp (disch := omega) only [Ret_some, Ret_none, Ret_bind, Ret_asrt, Ret_cond, Sum.elim_inl, Sum.elim_inr, decide_eq_true_eq, decide_eq_false_iff_not, Bool.not_eq_true', Bool.not_not, Bool.and_eq_true, Bool.or_eq_true, Bool.true_eq_false, Bool.false_eq_true, Bool.not_true, Bool.not_false, if_true, if_false, ite_true, ite_false, true_and, and_true, false_and, and_false, Int.toNat_natCast, toN_succ, Int.ofNat_eq_natCast, Int.ofNat_toNat, Nat.zero_add, Nat.add_zero, not_true_eq_false, not_false_eq_true, implies_true, wr64, List.take_length]
    rw [if_neg (by omega)]
    trivial
/-! ### the solver: what holds throughout -/
structure W.Inv (n : Nat) (last : List Int) (w : W) : Prop where
  rai : w.rai.length = n
  wai : w.wai.length = n
  tim : w.tim.length = n
  nod : w.todo.Nodup
  rng : ∀ x ∈ w.todo, 0 ≤ x ∧ x < (n : Int)
  wc : ∀ v, v < n → (w.wai.getD v false = true ↔ (v : Int) ∈ w.todo)
  okt : w.ok = true → ∀ v, v < n → (0 ≤ last.getD v 0 → w.tim.getD v 0 ≤ last.getD v 0) ∧ w.tim.getD v 0 ≤ 1099511627776 ∧ w.rai.getD v 0 ≤ 65536
  okf : w.ok = false → ∃ v, v < n ∧ ((0 ≤ last.getD v 0 ∧ last.getD v 0 < w.tim.getD v 0) ∨ 1099511627776 < w.tim.getD v 0 ∨ 65536 < w.rai.getD v 0)
theorem W.tr_mono {last : List Int} {a : TArc} {w : W} {v : Nat} (ht : a.to0.toNat < w.tim.length) : w.tim.getD v 0 ≤ (w.tr last a).tim.getD v 0 := by
  rw [W.tr_tim ht]; split <;> omega
theorem W.tr_waits {n : Nat} {last : List Int} {a : TArc} {w : W} (hI : w.Inv n last) (ha : ArcOk n a) (hit : ¬ w.tim.getD a.from0.toNat 0 + a.len ≤ w.tim.getD a.to0.toNat 0) : a.to0 ∈ (w.tr last a).todo := by
  have ht : a.to0.toNat < n := by have := ha.t0; have := ha.t1; omega
  unfold W.tr
  rw [if_neg hit]
  simp only
  split
  · rename_i h
    have := (hI.wc _ ht).1 h
    rwa [show ((a.to0.toNat : Nat) : Int) = a.to0 from Int.toNat_of_nonneg ha.t0] at this
  · simp
theorem W.tr_sub {last : List Int} {a : TArc} {w : W} {x : Int} (h : x ∈ w.todo) : x ∈ (w.tr last a).todo := by
  unfold W.tr
  split
  · exact h
  · simp only
    split
    · exact h
    · exact List.mem_append_left _ h
theorem W.tr_app {last : List Int} {a : TArc} {w : W} : (w.tr last a).todo = w.todo ∨ (w.tr last a).todo = w.todo ++ [a.to0] ∧ ¬ w.tim.getD a.from0.toNat 0 + a.len ≤ w.tim.getD a.to0.toNat 0 := by
  unfold W.tr
  split
  · exact .inl rfl
  · rename_i h
    simp only
    split
    · exact .inl rfl
    · exact .inr ⟨rfl, h⟩
theorem W.Inv.tr {n : Nat} {last : List Int} {a : TArc} {w : W} (hI : w.Inv n last) (ha : ArcOk n a) : (w.tr last a).Inv n last := by
  obtain ⟨e1, e2, e3, _⟩ := W.tr_len (last := last) (a := a) (w := w)
  have ht : a.to0.toNat < n := by have := ha.t0; have := ha.t1; omega
  have hc : ((a.to0.toNat : Nat) : Int) = a.to0 := Int.toNat_of_nonneg ha.t0
  by_cases hit : w.tim.getD a.from0.toNat 0 + a.len ≤ w.tim.getD a.to0.toNat 0
  · rw [W.tr_no hit]; exact hI
  have htl : a.to0.toNat < w.tim.length := by rw [hI.tim]; exact ht
  have hrl : a.to0.toNat < w.rai.length := by rw [hI.rai]; exact ht
  refine ⟨e1.trans hI.rai, e2.trans hI.wai, e3.trans hI.tim, ?_, ?_, ?_, ?_, ?_⟩
  · unfold W.tr
    rw [if_neg hit]
    simp only
    split
    · exact hI.nod
    · rename_i h
      refine List.nodup_append.2 ⟨hI.nod, by simp, fun x hx y hy => ?_⟩
      simp only [List.mem_singleton] at hy
      subst hy
      rintro rfl
      exact h ((hI.wc _ ht).2 (by rw [hc]; exact hx))
  · intro x hx
    rcases W.tr_app (last := last) (a := a) (w := w) with e | ⟨e, _⟩
    · rw [e] at hx; exact hI.rng x hx
    · rw [e] at hx
      rcases List.mem_append.1 hx with h | h
      · exact hI.rng x h
      · simp only [List.mem_singleton] at h
        subst h
        exact ⟨ha.t0, ha.t1⟩
  · intro v hv
    unfold W.tr
    rw [if_neg hit]
    simp only
    split
    · exact hI.wc v hv
    · rw [lgetD_set, hI.wai]
      by_cases e : a.to0.toNat = v
      · subst e; rw [if_pos ⟨rfl, hv⟩, hc]; simp
      · rw [if_neg (fun q => e q.1), hI.wc v hv]
        simp only [List.mem_append, List.mem_singleton]
        constructor
        · exact .inl
        · rintro (h | h)
          · exact h
          · omega
  · intro hok
    have hok' : (w.ok && ((decide (last.getD a.to0.toNat 0 < 0) || decide (w.tim.getD a.from0.toNat 0 + a.len ≤ last.getD a.to0.toNat 0)) && (decide (w.tim.getD a.from0.toNat 0 + a.len ≤ 1099511627776) && decide (w.rai.getD a.to0.toNat 0 + 1 ≤ 65536)))) = true := by
      unfold W.tr at hok; rw [if_neg hit] at hok; exact hok
    simp only [Bool.and_eq_true, Bool.or_eq_true, decide_eq_true_eq] at hok'
    obtain ⟨h0, h1, h2, h3⟩ := hok'
    intro v hv
    obtain ⟨g1, g2, g3⟩ := hI.okt h0 v hv
    rw [W.tr_tim htl]
    have hr : (w.tr last a).rai.getD v 0 ≤ 65536 := by
      unfold W.tr
      rw [if_neg hit, lgetD_set]
      split
      · omega
      · exact g3
    refine ⟨?_, ?_, hr⟩
    · split
      · rename_i e; subst e
        intro h; have := g1 h; omega
      · exact g1
    · split <;> omega
  · intro hok
    have hok' : (w.ok && ((decide (last.getD a.to0.toNat 0 < 0) || decide (w.tim.getD a.from0.toNat 0 + a.len ≤ last.getD a.to0.toNat 0)) && (decide (w.tim.getD a.from0.toNat 0 + a.len ≤ 1099511627776) && decide (w.rai.getD a.to0.toNat 0 + 1 ≤ 65536)))) = false := by
      unfold W.tr at hok; rw [if_neg hit] at hok; exact hok
    cases h0 : w.ok with
    | false =>
      obtain ⟨v, hv, h⟩ := hI.okf h0
      have m1 := W.tr_mono (last := last) (v := v) htl
      have m2 := (W.tr_rai (last := last) (w := w) (a := a) (v := v) hrl).1
      exact ⟨v, hv, by omega⟩
    | true =>
      refine ⟨a.to0.toNat, ht, ?_⟩
      have e4 : (w.tr last a).tim.getD a.to0.toNat 0 = w.tim.getD a.from0.toNat 0 + a.len := by rw [W.tr_tim htl, if_pos rfl]; omega
      have e5 : (w.tr last a).rai.getD a.to0.toNat 0 = w.rai.getD a.to0.toNat 0 + 1 := by unfold W.tr; rw [if_neg hit, lgetD_set, if_pos ⟨rfl, hrl⟩]
      rw [h0] at hok'
      simp only [Bool.true_and, Bool.and_eq_false_iff, Bool.or_eq_false_iff, decide_eq_false_iff_not] at hok'
      rw [e4, e5]
      omega
def W.Good (P : TArc → Prop) (w : W) : Prop := ∀ a, P a → a.from0 ∈ w.todo ∨ w.tim.getD a.from0.toNat 0 + a.len ≤ w.tim.getD a.to0.toNat 0
theorem W.Good.tr {n : Nat} {last : List Int} {a : TArc} {w : W} {P : TArc → Prop} (hI : w.Inv n last) (ha : ArcOk n a) (hP : ∀ b, P b → ArcOk n b) (h : w.Good P) : (w.tr last a).Good fun b => P b ∨ b = a := by
  have ht : a.to0.toNat < w.tim.length := by rw [hI.tim]; have := ha.t0; have := ha.t1; omega
  rintro b (hb | rfl)
  · rcases h b hb with h1 | h1
    · exact .inl (W.tr_sub h1)
    · by_cases hit : w.tim.getD a.from0.toNat 0 + a.len ≤ w.tim.getD a.to0.toNat 0
      · rw [W.tr_no hit]; exact .inr h1
      · by_cases e : b.from0 = a.to0
        · exact .inl (e ▸ W.tr_waits hI ha hit)
        · refine .inr ?_
          have m := W.tr_mono (last := last) (a := a) (v := b.to0.toNat) ht
          have e2 : (w.tr last a).tim.getD b.from0.toNat 0 = w.tim.getD b.from0.toNat 0 := by
            rw [W.tr_tim ht, if_neg]
            have := (hP b hb).f0
            have := ha.t0
            omega
          rw [e2]; omega
  · refine .inr ?_
    have e2 : (w.tr last b).tim.getD b.from0.toNat 0 = w.tim.getD b.from0.toNat 0 := by
      rw [W.tr_tim ht, if_neg]
      have := ha.ne
      have := ha.f0
      have := ha.t0
      omega
    rw [e2, W.tr_tim ht, if_pos rfl]
    omega
def W.Le (n : Nat) (S : Nat → Int) (w : W) : Prop := ∀ v, v < n → w.tim.getD v 0 ≤ S v
theorem W.Le.tr {n : Nat} {last : List Int} {a : TArc} {w : W} {S : Nat → Int} (hn : w.tim.length = n) (ha : ArcOk n a) (hS : S a.from0.toNat + a.len ≤ S a.to0.toNat) (h : w.Le n S) : (w.tr last a).Le n S := fun v hv => by
  have ht : a.to0.toNat < n := by have := ha.t0; have := ha.t1; omega
  have hf : a.from0.toNat < n := by have := ha.f0; have := ha.f1; omega
  rw [W.tr_tim (by rw [hn]; exact ht)]
  have := h v hv
  have := h _ hf
  split
  · rename_i e; subst e; omega
  · assumption
theorem W.run_ind {last : List Int} {Q : List TArc → W → Prop} : ∀ (l p : List TArc) (w : W), Q p w → (∀ q a w', a ∈ l → Q q w' → Q (q ++ [a]) (w'.tr last a)) → Q (p ++ l) (W.run last l w)
  | [], p, w, h, _ => by simpa [W.run] using h
  | a :: l, p, w, h, hs => by
    have := W.run_ind (last := last) (Q := Q) l (p ++ [a]) (w.tr last a) (hs p a w (by simp) h) (fun q b w' hb => hs q b w' (by simp [hb]))
    rw [List.append_assoc] at this
    exact this
/-! ### the solver: nodes that wait -/
theorem nodup_len : ∀ (n : Nat) (l : List Int), l.Nodup → (∀ x ∈ l, 0 ≤ x ∧ x < (n : Int)) → l.length ≤ n
  | 0, l, _, h => by
    cases l with
    | nil => simp
    | cons x r => have := h x (by simp); omega
  | n + 1, l, hn, h => by
    have h1 := nodup_len n (l.erase (n : Int)) (hn.erase _) (fun x hx => by
      have h2 := (hn.mem_erase_iff).1 hx
      have := h x h2.2
      have := h2.1
      omega)
    by_cases c : (n : Int) ∈ l
    · rw [List.length_erase_of_mem c] at h1; omega
    · rw [List.erase_of_not_mem c] at h1; omega
theorem sm_except {f g : Nat → Nat} {i : Nat} : ∀ {n : Nat}, (∀ j, j < n → j ≠ i → f j = g j) → i < n → sm f n + g i = sm g n + f i
  | 0, _, hi => by omega
  | n + 1, h, hi => by
    simp only [sm]
    by_cases e : i = n
    · subst e
      have : sm f i = sm g i := by
        have h1 := sm_le (f := f) (g := g) (n := i) (fun j hj => by rw [h j (by omega) (by omega)]; exact Nat.le_refl _)
        have h2 := sm_le (f := g) (g := f) (n := i) (fun j hj => by rw [h j (by omega) (by omega)]; exact Nat.le_refl _)
        omega
      omega
    · have := sm_except (n := n) (fun j hj => h j (by omega)) (by omega)
      have := h n (by omega) (fun q => e q.symm)
      omega
theorem E3_keeps {E : List TArc} {S : Nat → Int} (h : Keeps (E3 E) S) {a : TArc} (ha : a ∈ E) : S a.from0.toNat + a.len ≤ S a.to0.toNat := h (A3 a) (List.mem_map.2 ⟨a, ha, rfl⟩)
theorem E3_inN {n : Nat} {E : List TArc} (h : ∀ a ∈ E, ArcOk n a) : InN n (E3 E) := by
  intro b hb
  obtain ⟨a, ha, rfl⟩ := List.mem_map.1 hb
  have := h a ha
  have h1 := this.f0; have h2 := this.f1; have h3 := this.t0; have h4 := this.t1
  exact ⟨by show a.from0.toNat < n; omega, by show a.to0.toNat < n; omega⟩
def W.pop (w : W) : W := { w with todo := w.todo.drop 1, wai := w.wai.set (w.todo.getD 0 0).toNat false }
structure J (n : Nat) (E : List TArc) (outs : List (List TArc)) (x1 : Nat → Int) (A0 A : Nat) (w : W) (k r : Nat) : Prop where
  rl : r ≤ w.todo.length
  kn : k ≤ n
  j1 : ∀ v, v < n → its (E3 E) x1 k v ≤ w.tim.getD v 0
  j3 : ∀ a ∈ E, a.from0 ∈ w.todo.take r ∨ its (E3 E) x1 k a.from0.toNat + a.len ≤ w.tim.getD a.to0.toNat 0
  j4 : ∀ v, v < n → w.rai.getD v 0 + (sm (fun v => if (v : Int) ∈ w.todo.take r then (outs.getD v []).length else 0) n : Int) ≤ (A0 + (k + 1) * A : Nat)
  j5 : k = n → r = w.todo.length
structure H (n : Nat) (last : List Int) (E : List TArc) (outs : List (List TArc)) (A0 A : Nat) (w1 w : W) : Prop where
  inv : w.Inv n last
  good : w.Good fun a => a ∈ E
  t0 : ∀ v, v < n → 0 ≤ w.tim.getD v 0
  t1 : ∀ v, v < n → w.tim.getD v 0 ≤ 1100000000000
  r0 : ∀ v, v < n → 0 ≤ w.rai.getD v 0
  r1 : ∀ v, v < n → w.rai.getD v 0 ≤ 100000
  up : ∀ v, v < n → w1.tim.getD v 0 ≤ w.tim.getD v 0
  le : ∀ S, Keeps (E3 E) S → w1.Le n S → w.Le n S
  jj : (∃ S, Keeps (E3 E) S ∧ w1.Le n S) → ∃ k r, J n E outs (fun v => w1.tim.getD v 0) A0 A w k r
structure Q1 (n : Nat) (last : List Int) (E : List TArc) (u : Nat) (w2 : W) (q : List TArc) (w : W) : Prop where
  inv : w.Inv n last
  good : w.Good fun a => (a ∈ E ∧ a.from0.toNat ≠ u) ∨ a ∈ q
  qok : ∀ a ∈ q, a ∈ E ∧ a.from0.toNat = u
  tu : w.tim.getD u 0 = w2.tim.getD u 0
  up : ∀ v, v < n → w2.tim.getD v 0 ≤ w.tim.getD v 0
  rq : ∀ v, v < n → w2.rai.getD v 0 ≤ w.rai.getD v 0 ∧ w.rai.getD v 0 ≤ w2.rai.getD v 0 + q.length
  sat : ∀ a ∈ q, w2.tim.getD u 0 + a.len ≤ w.tim.getD a.to0.toNat 0
  app : ∃ new, w.todo = w2.todo ++ new
  le : ∀ S, Keeps (E3 E) S → w2.Le n S → w.Le n S
  still : (∀ a ∈ E, w2.tim.getD a.from0.toNat 0 + a.len ≤ w2.tim.getD a.to0.toNat 0) → w = w2
  less : w = w2 ∨ ∃ v, v < n ∧ w2.tim.getD v 0 < w.tim.getD v 0
theorem Q1_run {n : Nat} {last : List Int} {E : List TArc} {u : Nat} {w2 : W} {l : List TArc} (hE : ∀ a ∈ E, ArcOk n a) (hl : ∀ a ∈ l, a ∈ E ∧ a.from0.toNat = u) (hI : w2.Inv n last) (hg : w2.Good fun a => a ∈ E ∧ a.from0.toNat ≠ u) :
    Q1 n last E u w2 l (W.run last l w2) := by
  have h0 : Q1 n last E u w2 [] w2 := by
    refine ⟨hI, fun a ha => hg a (by simpa using ha), by simp, rfl, fun v hv => Int.le_refl _, fun v hv => ⟨Int.le_refl _, by simp⟩, by simp, ⟨[], by simp⟩, fun S _ h => h, fun _ => rfl, .inl rfl⟩
  have := W.run_ind (last := last) (Q := fun q w => Q1 n last E u w2 q w) l [] w2 h0 (fun q a w ha h => by
    obtain ⟨haE, hau⟩ := hl a ha
    have hao := hE a haE
    have ht : a.to0.toNat < n := by have := hao.t0; have := hao.t1; omega
    have htl : a.to0.toNat < w.tim.length := by rw [h.inv.tim]; exact ht
    have hrl : a.to0.toNat < w.rai.length := by rw [h.inv.rai]; exact ht
    have hnu : u ≠ a.to0.toNat := by
      rw [← hau]; have := hao.ne; have := hao.f0; have := hao.t0; omega
    have hPok : ∀ b, ((b ∈ E ∧ b.from0.toNat ≠ u) ∨ b ∈ q) → ArcOk n b := fun b hb => hE b (hb.elim (fun h => h.1) (fun hb => (h.qok b hb).1))
    have htu : (w.tr last a).tim.getD u 0 = w.tim.getD u 0 := by rw [W.tr_tim htl, if_neg hnu]
    refine ⟨h.inv.tr hao, fun b hb => (h.good.tr h.inv hao hPok) b ?_, fun b hb => ?_, htu.trans h.tu, fun v hv => Int.le_trans (h.up v hv) (W.tr_mono htl), fun v hv => ?_, fun b hb => ?_, ?_, fun S hS hw => ?_, fun hs => ?_, ?_⟩
    · rcases hb with hb | hb
      · exact .inl (.inl hb)
      · rcases List.mem_append.1 hb with hb | hb
        · exact .inl (.inr hb)
        · exact .inr (by simpa using hb)
    · rcases List.mem_append.1 hb with hb | hb
      · exact h.qok b hb
      · obtain rfl : b = a := by simpa using hb
        exact ⟨haE, hau⟩
    · have h1 := h.rq v hv
      have h2 := W.tr_rai (last := last) (w := w) (a := a) (v := v) hrl
      rw [List.length_append, List.length_singleton]
      omega
    · rcases List.mem_append.1 hb with hb | hb
      · exact Int.le_trans (h.sat b hb) (W.tr_mono htl)
      · obtain rfl : b = a := by simpa using hb
        rw [W.tr_tim htl, if_pos rfl, ← h.tu, ← hau]
        omega
    · obtain ⟨new, e⟩ := h.app
      rcases W.tr_app (last := last) (a := a) (w := w) with e2 | ⟨e2, _⟩
      · exact ⟨new, e2.trans e⟩
      · exact ⟨new ++ [a.to0], by rw [e2, e, List.append_assoc]⟩
    · exact W.Le.tr h.inv.tim hao (E3_keeps hS haE) (h.le S hS hw)
    · have e := h.still hs
      subst e
      exact W.tr_no (hs a haE)
    · by_cases hit : w.tim.getD a.from0.toNat 0 + a.len ≤ w.tim.getD a.to0.toNat 0
      · rw [W.tr_no hit]; exact h.less
      · refine .inr ⟨a.to0.toNat, ht, ?_⟩
        have := h.up _ ht
        rw [W.tr_tim htl, if_pos rfl]
        omega)
  simpa using this
theorem H_step {n : Nat} {last : List Int} {E : List TArc} {outs : List (List TArc)} {A0 A : Nat} {w1 w : W} (hE : ∀ a ∈ E, ArcOk n a) (hO : ∀ v, v < n → ∀ a, a ∈ outs.getD v [] ↔ a ∈ E ∧ a.from0.toNat = v)
    (hA : sm (fun v => (outs.getD v []).length) n ≤ A) (hA2 : A ≤ 2000) (h : H n last E outs A0 A w1 w) (hne : 0 < w.todo.length) (hok : w.ok = true) :
    H n last E outs A0 A w1 (W.run last (outs.getD (w.todo.getD 0 0).toNat []) w.pop) ∧
      (n + 1) * sm (fun v => (1200000000000 - (W.run last (outs.getD (w.todo.getD 0 0).toNat []) w.pop).tim.getD v 0).toNat) n + (W.run last (outs.getD (w.todo.getD 0 0).toNat []) w.pop).todo.length < (n + 1) * sm (fun v => (1200000000000 - w.tim.getD v 0).toNat) n + w.todo.length := by
  obtain ⟨x, rest, htodo⟩ : ∃ x rest, w.todo = x :: rest := by
    cases h : w.todo with
    | nil => rw [h] at hne; simp at hne
    | cons x rest => exact ⟨x, rest, rfl⟩
  have hx0 : w.todo.getD 0 0 = x := by rw [htodo]; rfl
  rw [hx0]
  have hpt : w.pop.todo = rest := by simp [W.pop, htodo]
  have hxr := h.inv.rng x (by rw [htodo]; simp)
  have hu : x.toNat < n := by omega
  have hxc : ((x.toNat : Nat) : Int) = x := Int.toNat_of_nonneg hxr.1
  have hnd := h.inv.nod
  rw [htodo] at hnd
  obtain ⟨hxn, hrn⟩ := List.nodup_cons.1 hnd
  have hpi : w.pop.Inv n last := by
    refine ⟨h.inv.rai, by simp [W.pop, h.inv.wai], h.inv.tim, by rw [hpt]; exact hrn, fun y hy => h.inv.rng y (by rw [htodo]; rw [hpt] at hy; simp [hy]), fun v hv => ?_, h.inv.okt, h.inv.okf⟩
    rw [hpt]
    show (w.wai.set (w.todo.getD 0 0).toNat false).getD v false = true ↔ _
    rw [hx0, lgetD_set, h.inv.wai]
    by_cases e : x.toNat = v
    · rw [if_pos ⟨e, hu⟩]
      subst e
      rw [hxc]
      simp [hxn]
    · rw [if_neg (fun q => e q.1), h.inv.wc v hv, htodo]
      simp only [List.mem_cons]
      constructor
      · rintro (h | h)
        · omega
        · exact h
      · exact .inr
  have hpg : w.pop.Good fun a => a ∈ E ∧ a.from0.toNat ≠ x.toNat := by
    rintro a ⟨ha, hau⟩
    rcases h.good a ha with h1 | h1
    · left
      rw [htodo] at h1
      rw [hpt]
      rcases List.mem_cons.1 h1 with h1 | h1
      · rw [h1] at hau; exact absurd rfl hau
      · exact h1
    · exact .inr h1
  have hq := Q1_run (u := x.toNat) (l := outs.getD x.toNat []) hE (fun a ha => (hO _ hu a).1 ha) hpi hpg
  generalize hw3 : W.run last (outs.getD x.toNat []) w.pop = w3 at hq
  have hlen : (outs.getD x.toNat []).length ≤ A := by
    have := sm_le (f := fun v => if v = x.toNat then (outs.getD x.toNat []).length else 0) (g := fun v => (outs.getD v []).length) (n := n) (fun i _ => by
      split
      · rename_i e; subst e; exact Nat.le_refl _
      · exact Nat.zero_le _)
    have h2 := sm_except (f := fun v => if v = x.toNat then (outs.getD x.toNat []).length else 0) (g := fun _ => 0) (i := x.toNat) (n := n) (fun j _ hj => if_neg hj) hu
    rw [sm_const] at h2
    simp only [Nat.mul_zero, Nat.zero_add, Nat.add_zero, if_true] at h2
    omega
  have hokb := h.inv.okt hok
  have hpsz : w.pop.Szk n 1099511627776 65536 n := ⟨h.inv.rai, hpi.wai, h.inv.tim, h.t0, fun v hv => (hokb v hv).2.1, h.r0, fun v hv => (hokb v hv).2.2, nodup_len n _ hpi.nod hpi.rng⟩
  have hsz := W.Szk.run (last := last) (l := outs.getD x.toNat []) hpsz (fun a ha => hE a ((hO _ hu a).1 ha).1)
  rw [hw3] at hsz
  have hgood : w3.Good fun a => a ∈ E := fun a ha => hq.good a (by
    by_cases e : a.from0.toNat = x.toNat
    · exact .inr ((hO _ hu a).2 ⟨ha, e⟩)
    · exact .inl ⟨ha, e⟩)
  refine ⟨⟨hq.inv, hgood, hsz.t0, fun v hv => ?_, hsz.r0, fun v hv => ?_, fun v hv => Int.le_trans (h.up v hv) (hq.up v hv), fun S hS hw => hq.le S hS (h.le S hS hw), fun hfe => ?_⟩, ?_⟩
  · have := hsz.t1 v hv; omega
  · have := hsz.r1 v hv; omega
  · obtain ⟨k0, r0, hj0⟩ := h.jj hfe
    obtain ⟨S, hS1, hS2⟩ := hfe
    -- a round that is over
    have : ∃ k r, J n E outs (fun v => w1.tim.getD v 0) A0 A w k (r + 1) := by
      cases r0 with
      | succ r => exact ⟨k0, r, hj0⟩
      | zero =>
        have hk : k0 + 1 ≤ n := by
          have := hj0.kn
          rcases Nat.lt_or_ge k0 n with c | c
          · exact c
          · have := hj0.j5 (by omega); omega
        have e1 : ∀ v, v < n → its (E3 E) (fun v => w1.tim.getD v 0) (k0 + 1) v ≤ w.tim.getD v 0 := fun v hv => up_le (hj0.j1 v hv) (fun a ha e => by
          obtain ⟨b, hb, rfl⟩ := List.mem_map.1 ha
          have := (hj0.j3 b hb).resolve_left (by simp)
          have e : b.to0.toNat = v := e
          rw [← e]; exact this)
        refine ⟨k0 + 1, w.todo.length - 1, by omega, hk, e1, fun a ha => ?_, fun v hv => ?_, fun _ => by omega⟩
        · rw [show w.todo.length - 1 + 1 = w.todo.length by omega, List.take_length]
          rcases h.good a ha with g | g
          · exact .inl g
          · have hf : a.from0.toNat < n := by have := (hE a ha).f0; have := (hE a ha).f1; omega
            have := e1 _ hf
            exact .inr (by omega)
        · have h4 := hj0.j4 v hv
          have h5 := sm_le (f := fun v => if (v : Int) ∈ w.todo.take (w.todo.length - 1 + 1) then (outs.getD v []).length else 0) (g := fun v => (outs.getD v []).length) (n := n) (fun i _ => by split <;> omega)
          have e : (A0 + (k0 + 1 + 1) * A : Nat) = (A0 + (k0 + 1) * A) + A := by rw [Nat.add_mul (k0 + 1) 1 A]; omega
          rw [e]
          have h6 : (0 : Int) ≤ (sm (fun v => if (v : Int) ∈ w.todo.take 0 then (outs.getD v []).length else 0) n : Int) := Int.natCast_nonneg _
          omega
    obtain ⟨k, r, hj⟩ := this
    have hrl : r ≤ rest.length := by have := hj.rl; rw [htodo] at this; simp at this; omega
    obtain ⟨new, hnew⟩ := hq.app
    rw [hpt] at hnew
    have htake : w3.todo.take r = rest.take r := by rw [hnew, List.take_append_of_le_length hrl]
    have htk : w.todo.take (r + 1) = x :: rest.take r := by rw [htodo]; rfl
    refine ⟨k, r, by rw [hnew]; simp; omega, hj.kn, fun v hv => Int.le_trans (hj.j1 v hv) (hq.up v hv), fun a ha => ?_, fun v hv => ?_, fun hk => ?_⟩
    · rw [htake]
      by_cases e : a.from0.toNat = x.toNat
      · have h7 := hq.sat a ((hO _ hu a).2 ⟨ha, e⟩)
        have h8 := hj.j1 _ hu
        have h9 : w.pop.tim.getD x.toNat 0 = w.tim.getD x.toNat 0 := rfl
        rw [e]
        exact .inr (by omega)
      · rcases hj.j3 a ha with g | g
        · rw [htk] at g
          rcases List.mem_cons.1 g with g | g
          · rw [g] at e; exact absurd rfl e
          · exact .inl g
        · have ht : a.to0.toNat < n := by have := (hE a ha).t0; have := (hE a ha).t1; omega
          exact .inr (Int.le_trans g (hq.up _ ht))
    · have h4 := hj.j4 v hv
      have h5 := (hq.rq v hv).2
      have h6 : w.pop.rai.getD v 0 = w.rai.getD v 0 := rfl
      have h7 := sm_except (f := fun v => if (v : Int) ∈ w.todo.take (r + 1) then (outs.getD v []).length else 0) (g := fun v => if (v : Int) ∈ w3.todo.take r then (outs.getD v []).length else 0) (i := x.toNat) (n := n) (fun j hj hne => by
        simp only [htk, htake, List.mem_cons]
        have : ¬ ((j : Int) = x) := by omega
        simp [this]) hu
      rw [if_neg (by rw [htake, hxc]; exact fun q => hxn (List.mem_of_mem_take q)), if_pos (by rw [htk, hxc]; simp)] at h7
      omega
    · have h5 := hj.j5 hk
      have hI := its_conv (E3_inN hE) hS1 (fun v hv => hS2 v hv)
      have hkI : Keeps (E3 E) (its (E3 E) (fun v => w1.tim.getD v 0) n) := fun b hb => Int.le_trans (up_arc hb) (hI (n + 1) b.2.1 (E3_inN hE b hb).2)
      have hup := h.le _ hkI (fun v hv => its_mono (E3 E) (fun v => w1.tim.getD v 0) v (Nat.zero_le n))
      have hs := hq.still (fun a ha => by
        have hf : a.from0.toNat < n := by have := (hE a ha).f0; have := (hE a ha).f1; omega
        have ht : a.to0.toNat < n := by have := (hE a ha).t0; have := (hE a ha).t1; omega
        have q1 := hup _ hf
        have q2 := hj.j1 _ ht
        rw [hk] at q2
        have q3 := E3_keeps hkI ha
        show w.tim.getD _ 0 + _ ≤ w.tim.getD _ 0
        omega)
      rw [hs, hpt]
      rw [htodo] at h5
      simp at h5
      exact h5
  · have hw3len := nodup_len n _ hq.inv.nod hq.inv.rng
    rcases hq.less with e | ⟨v, hv, hlt⟩
    · rw [e, hpt, htodo]
      have : w.pop.tim = w.tim := rfl
      rw [this]
      simp
    · have h1 := sm_lt (f := fun v => (1200000000000 - w3.tim.getD v 0).toNat) (g := fun v => (1200000000000 - w.tim.getD v 0).toNat) (n := n) (i := v) (fun j hj => by
        have q := hq.up j hj
        have q2 : w.pop.tim.getD j 0 = w.tim.getD j 0 := rfl
        show (1200000000000 - w3.tim.getD j 0).toNat ≤ (1200000000000 - w.tim.getD j 0).toNat
        omega) hv (by
        have q2 : w.pop.tim.getD v 0 = w.tim.getD v 0 := rfl
        have q3 := h.t1 v hv
        show (1200000000000 - w3.tim.getD v 0).toNat < (1200000000000 - w.tim.getD v 0).toNat
        omega)
      generalize sm (fun v => (1200000000000 - w3.tim.getD v 0).toNat) n = s3 at h1 ⊢
      generalize sm (fun v => (1200000000000 - w.tim.getD v 0).toNat) n = s0 at h1 ⊢
      have h2 : (n + 1) * (s3 + 1) ≤ (n + 1) * s0 := Nat.mul_le_mul_left _ h1
      rw [Nat.mul_add, Nat.mul_one] at h2
      omega
/-! ### the solver: the loop over the nodes that wait -/
theorem tail_eq {α : Type} (l : List α) : (l.drop 1).take (l.length - 1) = l.drop 1 := List.take_of_length_le (by rw [List.length_drop]; exact Nat.le_refl _)
theorem L68_18_ret {n : Nat} {last : List Int} {E : List TArc} {outs : List (List TArc)} {A0 A : Nat} {w1 : W} {r9 : Int × List Int × List Int × List (List TArc)} (hE : ∀ a ∈ E, ArcOk n a) (hO : ∀ v, v < n → ∀ a, a ∈ outs.getD v [] ↔ a ∈ E ∧ a.from0.toNat = v)
    (hA : sm (fun v => (outs.getD v []).length) n ≤ A) (hA2 : A ≤ 2000) (hn : n ≤ 24) (hl : last.length = n) (hol : outs.length = n) (h : H n last E outs A0 A w1 w1) :
    Ret (L68_18 r9 (w1.tim, outs, last, w1.wai, w1.rai, w1.todo, w1.ok)) fun x => match x with
      | .inl s => ∃ w, s = (w.tim, outs, last, w.wai, w.rai, w.todo, w.ok) ∧ H n last E outs A0 A w1 w ∧ (w.ok = true → w.todo = [])
      | .inr s => s = (none, false) ∧ ∃ u, u < n ∧ ∀ S, Keeps (E3 E) S → w1.Le n S → r9.1 < S u := by
  unfold L68_18
  refine Ret.while (fun s => ∃ w, s = (w.tim, outs, last, w.wai, w.rai, w.todo, w.ok) ∧ H n last E outs A0 A w1 w) (fun s => (n + 1) * sm (fun v => (1200000000000 - s.1.getD v 0).toNat) n + s.2.2.2.2.2.1.length) ⟨w1, rfl, h⟩ ?_
  rintro s ⟨w, rfl, hw⟩
  unfold B68_18
  by_cases hne : 0 < w.todo.length
  · cases hok : w.ok with
    | false =>
      simp (disch := omega) only [Ret_some, Ret_none, Ret_bind, Ret_asrt, Ret_cond, Sum.elim_inl, Sum.elim_inr, decide_eq_true_eq, decide_eq_false_iff_not, Bool.not_eq_true', Bool.not_not, Bool.and_eq_true, Bool.or_eq_true, Bool.true_eq_false, Bool.false_eq_true, Bool.not_true, Bool.not_false, if_true, if_false, ite_true, ite_false, true_and, and_true, false_and, and_false, Int.toNat_natCast, toN_succ, Int.ofNat_eq_natCast, Int.ofNat_toNat, Nat.zero_add, Nat.add_zero, not_true_eq_false, not_false_eq_true, implies_true, wr64, hne]
      rw [if_pos (by omega)]
      exact ⟨w, by rw [hok], hw, fun h => by rw [hok] at h; simp at h⟩
    | true =>
      have hx := hw.inv.rng (w.todo.getD 0 0) (getD_mem hne)
      have hu : (w.todo.getD 0 0).toNat < n := by omega
      have hlen : (outs.getD (w.todo.getD 0 0).toNat []).length ≤ A := by
        have h2 := sm_except (f := fun v => if v = (w.todo.getD 0 0).toNat then (outs.getD (w.todo.getD 0 0).toNat []).length else 0) (g := fun _ => 0) (i := (w.todo.getD 0 0).toNat) (n := n) (fun j _ hj => if_neg hj) hu
        rw [sm_const] at h2
        simp only [Nat.mul_zero, Nat.zero_add, Nat.add_zero, if_true] at h2
        have := sm_le (f := fun v => if v = (w.todo.getD 0 0).toNat then (outs.getD (w.todo.getD 0 0).toNat []).length else 0) (g := fun v => (outs.getD v []).length) (n := n) (fun i _ => by
          split
          · rename_i e; rw [e]; exact Nat.le_refl _
          · exact Nat.zero_le _)
        omega
      have hokb := hw.inv.okt hok
      have hpsz : w.pop.Szk n 1099511627776 65536 n := ⟨hw.inv.rai, by simp [W.pop, hw.inv.wai], hw.inv.tim, hw.t0, fun v hv => (hokb v hv).2.1, hw.r0, fun v hv => (hokb v hv).2.2, by
        have := nodup_len n _ hw.inv.nod hw.inv.rng
        simp [W.pop]; omega⟩
      have e := L68_25_eq (M1 := outs) (td := w.todo) (outs := outs) (last := last) (w := w.pop) (l := outs.getD (w.todo.getD 0 0).toNat []) (by rw [Nat.zero_add]) hpsz (fun a ha => hE a ((hO _ hu a).1 ha).1) hl (by omega) (by omega) (by omega)
      obtain ⟨s1, s2⟩ := H_step hE hO hA hA2 hw hne hok
      have e' : L68_25 outs w.todo (0, w.tim, outs, last, w.wai.set (0 + (w.todo.getD 0 0).toNat) false, w.rai, (w.todo.drop 1).take (w.todo.length - 1), w.ok) = L68_25 outs w.todo (0, w.pop.tim, outs, last, w.pop.wai, w.pop.rai, w.pop.todo, w.pop.ok) := by
        rw [tail_eq, Nat.zero_add]; rfl
      rw [e] at e'
      rw [hok] at e'
      have z : Int.toNat 0 = 0 := rfl
      simp only [e', hw.inv.wai, hw.inv.tim, hol, z]
      simp (disch := omega) only [Ret_some, Ret_none, Ret_bind, Ret_asrt, Ret_cond, Sum.elim_inl, Sum.elim_inr, decide_eq_true_eq, decide_eq_false_iff_not, Bool.not_eq_true', Bool.not_not, Bool.and_eq_true, Bool.or_eq_true, Bool.true_eq_false, Bool.false_eq_true, Bool.not_true, Bool.not_false, if_true, if_false, ite_true, ite_false, true_and, and_true, false_and, and_false, Int.toNat_natCast, toN_succ, Int.ofNat_eq_natCast, Int.ofNat_toNat, Nat.zero_add, Nat.add_zero, not_true_eq_false, not_false_eq_true, implies_true, wr64]
      rw [if_pos (by omega)]
      refine ⟨by omega, by omega, hx, by omega, hx.2, by omega, ?_⟩
      split
      · rename_i hb
        refine ⟨_, hu, fun S hS hS1 => ?_⟩
        have := hw.le S hS hS1 _ hu
        omega
      · refine ⟨hx.2, by omega, ⟨_, rfl, s1⟩, s2⟩
  · simp (disch := omega) only [Ret_some, Ret_none, Ret_bind, Ret_asrt, Ret_cond, Sum.elim_inl, Sum.elim_inr, decide_eq_true_eq, decide_eq_false_iff_not, Bool.not_eq_true', Bool.not_not, Bool.and_eq_true, Bool.or_eq_true, Bool.true_eq_false, Bool.false_eq_true, Bool.not_true, Bool.not_false, if_true, if_false, ite_true, ite_false, true_and, and_true, false_and, and_false, Int.toNat_natCast, toN_succ, Int.ofNat_eq_natCast, Int.ofNat_toNat, Nat.zero_add, Nat.add_zero, not_true_eq_false, not_false_eq_true, implies_true, wr64]
    rw [if_neg (by omega)]
    refine ⟨w, rfl, hw, fun _ => List.length_eq_zero_iff.1 (by omega)⟩
/-! ### the solver: where no node is without a ring -/
theorem F76_ret (a : Int) (l : List Int) (hl : l.length ≤ 1000000) : Ret (F76 a l) fun r => a ≤ r ∧ ∀ v, v < l.length → l.getD v 0 ≤ r := by
  unfold F76
  refine Ret.bind (P := fun r => a ≤ r ∧ ∀ v, v < l.length → l.getD v 0 ≤ r) ?_ (fun x hx => Ret_some.2 hx)
  unfold L76_2
  refine Ret.loop l.length (fun i s => s.2 = (i : Int) ∧ a ≤ s.1 ∧ ∀ v, v < i → l.getD v 0 ≤ s.1) ⟨rfl, Int.le_refl _, fun v hv => by omega⟩ ?_ ?_
  · rintro i ⟨x, y⟩ hi ⟨rfl, h1, h2⟩
    unfold B76_2
    simp only at h1 h2 ⊢
    simp (disch := omega) only [Ret_some, Ret_none, Ret_bind, Ret_asrt, Ret_cond, Sum.elim_inl, Sum.elim_inr, decide_eq_true_eq, decide_eq_false_iff_not, Bool.not_eq_true', Bool.not_not, Bool.and_eq_true, Bool.or_eq_true, Bool.true_eq_false, Bool.false_eq_true, Bool.not_true, Bool.not_false, if_true, if_false, ite_true, ite_false, true_and, and_true, false_and, and_false, Int.toNat_natCast, toN_succ, Int.ofNat_eq_natCast, Int.ofNat_toNat, Nat.zero_add, Nat.add_zero, not_true_eq_false, not_false_eq_true, implies_true, wr64]
    rw [if_pos (by omega)]
    refine ⟨by omega, by omega, by omega, fun v hv => ?_⟩
    by_cases e : v = i
    · subst e; omega
    · have := h2 v (by omega); omega
  · rintro ⟨x, y⟩ ⟨rfl, h1, h2⟩
    unfold B76_2
    simp only at h1 h2 ⊢
    simp (disch := omega) only [Ret_some, Ret_none, Ret_bind, Ret_asrt, Ret_cond, Sum.elim_inl, Sum.elim_inr, decide_eq_true_eq, decide_eq_false_iff_not, Bool.not_eq_true', Bool.not_not, Bool.and_eq_true, Bool.or_eq_true, Bool.true_eq_false, Bool.false_eq_true, Bool.not_true, Bool.not_false, if_true, if_false, ite_true, ite_false, true_and, and_true, false_and, and_false, Int.toNat_natCast, toN_succ, Int.ofNat_eq_natCast, Int.ofNat_toNat, Nat.zero_add, Nat.add_zero, not_true_eq_false, not_false_eq_true, implies_true, wr64]
    rw [if_neg (by omega)]
    exact ⟨h1, h2⟩
theorem L89_7_ret (outs : List (List TArc)) (v : Nat) (hl : (outs.getD v []).length ≤ 1000000) (hb : ∀ a ∈ outs.getD v [], a.len ≤ 28800) : Ret (L89_7 outs (v : Int) (0, 0)) fun r => 0 ≤ r ∧ r ≤ 28800 ∧ ∀ a ∈ outs.getD v [], a.len ≤ r := by
  unfold L89_7
  refine Ret.loop (outs.getD v []).length (fun i s => s.2 = (i : Int) ∧ 0 ≤ s.1 ∧ s.1 ≤ 28800 ∧ ∀ j, j < i → ((outs.getD v []).getD j TArc.d).len ≤ s.1) ⟨rfl, Int.le_refl _, by decide, fun v hv => by omega⟩ ?_ ?_
  · rintro i ⟨x, y⟩ hi ⟨rfl, h1, h2, h3⟩
    unfold B89_7
    simp only at h1 h2 h3 ⊢
    simp (disch := omega) only [Ret_some, Ret_none, Ret_bind, Ret_asrt, Ret_cond, Sum.elim_inl, Sum.elim_inr, decide_eq_true_eq, decide_eq_false_iff_not, Bool.not_eq_true', Bool.not_not, Bool.and_eq_true, Bool.or_eq_true, Bool.true_eq_false, Bool.false_eq_true, Bool.not_true, Bool.not_false, if_true, if_false, ite_true, ite_false, true_and, and_true, false_and, and_false, Int.toNat_natCast, toN_succ, Int.ofNat_eq_natCast, Int.ofNat_toNat, Nat.zero_add, Nat.add_zero, not_true_eq_false, not_false_eq_true, implies_true, wr64]
    rw [if_pos (by omega)]
    have := hb _ (getD_mem (d := TArc.d) hi)
    refine ⟨by omega, by omega, by omega, by omega, fun j hj => ?_⟩
    by_cases e : j = i
    · subst e; omega
    · have := h3 j (by omega); omega
  · rintro ⟨x, y⟩ ⟨rfl, h1, h2, h3⟩
    unfold B89_7
    simp only at h1 h2 h3 ⊢
    simp (disch := omega) only [Ret_some, Ret_none, Ret_bind, Ret_asrt, Ret_cond, Sum.elim_inl, Sum.elim_inr, decide_eq_true_eq, decide_eq_false_iff_not, Bool.not_eq_true', Bool.not_not, Bool.and_eq_true, Bool.or_eq_true, Bool.true_eq_false, Bool.false_eq_true, Bool.not_true, Bool.not_false, if_true, if_false, ite_true, ite_false, true_and, and_true, false_and, and_false, Int.toNat_natCast, toN_succ, Int.ofNat_eq_natCast, Int.ofNat_toNat, Nat.zero_add, Nat.add_zero, not_true_eq_false, not_false_eq_true, implies_true, wr64]
    rw [if_neg (by omega)]
    refine ⟨h1, h2, fun a ha => ?_⟩
    obtain ⟨j, hj, rfl⟩ := mem_getD TArc.d ha
    exact h3 j hj
theorem F89_ret {n : Nat} (last tim : List Int) (outs : List (List TArc)) (hn : n ≤ 24) (ht : tim.length = n) (ho : outs.length = n) (hl : ∀ v, v < n → (outs.getD v []).length ≤ 1000000) (hb : ∀ v, v < n → ∀ a ∈ outs.getD v [], a.len ≤ 28800)
    (ht1 : ∀ v, v < n → tim.getD v 0 ≤ 1000000000000000) :
    Ret (F89 last tim outs) fun r => r.2 = (last, tim, outs) ∧ ∃ (mx : Int) (most : Nat → Nat), (∀ v, v < n → tim.getD v 0 ≤ mx) ∧ (∀ v, v < n → ∀ a ∈ outs.getD v [], a.len ≤ (most v : Int)) ∧ r.1 = mx + (sm most n : Int) := by
  unfold F89
  simp (disch := omega) only [Ret_some, Ret_none, Ret_bind, Ret_asrt, Ret_cond, Sum.elim_inl, Sum.elim_inr, decide_eq_true_eq, decide_eq_false_iff_not, Bool.not_eq_true', Bool.not_not, Bool.and_eq_true, Bool.or_eq_true, Bool.true_eq_false, Bool.false_eq_true, Bool.not_true, Bool.not_false, if_true, if_false, ite_true, ite_false, true_and, and_true, false_and, and_false, Int.toNat_natCast, toN_succ, Int.ofNat_eq_natCast, Int.ofNat_toNat, Nat.zero_add, Nat.add_zero, not_true_eq_false, not_false_eq_true, implies_true, wr64]
  refine ⟨Nat.le_refl _, ?_⟩
  have hmax : Ret (F76 0 (tim.take tim.length)) fun r => (0 ≤ r ∧ ∀ v, v < n → tim.getD v 0 ≤ r) ∧ r ≤ 1000000000000000 := by
    rw [List.take_length]
    have h1 := F76_ret 0 tim (by omega)
    rw [ht] at h1
    have h2 : Ret (F76 0 tim) fun r => r ≤ 1000000000000000 := by
      unfold F76
      refine Ret.bind (P := fun r => r ≤ 1000000000000000) ?_ (fun x hx => Ret_some.2 hx)
      unfold L76_2
      refine Ret.loop tim.length (fun i s => s.2 = (i : Int) ∧ s.1 ≤ 1000000000000000) ⟨rfl, by decide⟩ ?_ ?_
      · rintro i ⟨x, y⟩ hi ⟨rfl, h1⟩
        unfold B76_2
        simp only at h1 ⊢
        simp (disch := omega) only [Ret_some, Ret_none, Ret_bind, Ret_asrt, Ret_cond, Sum.elim_inl, Sum.elim_inr, decide_eq_true_eq, decide_eq_false_iff_not, Bool.not_eq_true', Bool.not_not, Bool.and_eq_true, Bool.or_eq_true, Bool.true_eq_false, Bool.false_eq_true, Bool.not_true, Bool.not_false, if_true, if_false, ite_true, ite_false, true_and, and_true, false_and, and_false, Int.toNat_natCast, toN_succ, Int.ofNat_eq_natCast, Int.ofNat_toNat, Nat.zero_add, Nat.add_zero, not_true_eq_false, not_false_eq_true, implies_true, wr64]
        rw [if_pos (by omega)]
        have := ht1 i (by omega)
        refine ⟨by omega, by omega, by omega⟩
      · rintro ⟨x, y⟩ ⟨rfl, h1⟩
        unfold B76_2
        simp only at h1 ⊢
        simp (disch := omega) only [Ret_some, Ret_none, Ret_bind, Ret_asrt, Ret_cond, Sum.elim_inl, Sum.elim_inr, decide_eq_true_eq, decide_eq_false_iff_not, Bool.not_eq_true', Bool.not_not, Bool.and_eq_true, Bool.or_eq_true, Bool.true_eq_false, Bool.false_eq_true, Bool.not_true, Bool.not_false, if_true, if_false, ite_true, ite_false, true_and, and_true, false_and, and_false, Int.toNat_natCast, toN_succ, Int.ofNat_eq_natCast, Int.ofNat_toNat, Nat.zero_add, Nat.add_zero, not_true_eq_false, not_false_eq_true, implies_true, wr64]
        rw [if_neg (by omega)]
        exact h1
    exact h1.and h2
  refine hmax.mono fun mx ⟨⟨hm0, hm1⟩, hm2⟩ => ?_
  have hlp : Ret (L89_3 outs (mx, 0)) fun r => ∃ most : Nat → Nat, (∀ v, v < n → ∀ a ∈ outs.getD v [], a.len ≤ (most v : Int)) ∧ r = mx + (sm most n : Int) := by
    unfold L89_3
    refine Ret.loop n (fun i s => s.2 = (i : Int) ∧ ∃ most : Nat → Nat, (∀ v, v < i → ∀ a ∈ outs.getD v [], a.len ≤ (most v : Int)) ∧ (∀ v, most v ≤ 28800) ∧ s.1 = mx + (sm most i : Int)) ⟨rfl, fun _ => 0, fun v hv => by omega, fun _ => Nat.zero_le _, by simp [sm]⟩ ?_ ?_
    · rintro i ⟨x, y⟩ hi ⟨rfl, most, h1, h2, h3⟩
      unfold B89_3
      simp only at h1 h2 h3 ⊢
      have hsm : sm most i ≤ i * 28800 := by
        have := sm_le (f := most) (g := fun _ => 28800) (n := i) (fun j _ => h2 j)
        rwa [sm_const] at this
      simp (disch := omega) only [Ret_some, Ret_none, Ret_bind, Ret_asrt, Ret_cond, Sum.elim_inl, Sum.elim_inr, decide_eq_true_eq, decide_eq_false_iff_not, Bool.not_eq_true', Bool.not_not, Bool.and_eq_true, Bool.or_eq_true, Bool.true_eq_false, Bool.false_eq_true, Bool.not_true, Bool.not_false, if_true, if_false, ite_true, ite_false, true_and, and_true, false_and, and_false, Int.toNat_natCast, toN_succ, Int.ofNat_eq_natCast, Int.ofNat_toNat, Nat.zero_add, Nat.add_zero, not_true_eq_false, not_false_eq_true, implies_true, wr64, ho]
      rw [if_pos (by omega)]
      refine ⟨by omega, by omega, ?_⟩
      refine (L89_7_ret outs i (hl i hi) (hb i hi)).mono fun r ⟨q1, q2, q3⟩ => ?_
      refine ⟨by omega, fun v => if v = i then r.toNat else most v, fun v hv a ha => ?_, fun v => ?_, ?_⟩
      · by_cases e : v = i
        · subst e
          show a.len ≤ ((if v = v then r.toNat else most v : Nat) : Int)
          rw [if_pos rfl]
          have := q3 a ha
          omega
        · show a.len ≤ ((if v = i then r.toNat else most v : Nat) : Int)
          rw [if_neg e]; exact h1 v (by omega) a ha
      · show (if v = i then r.toNat else most v) ≤ 28800
        split
        · omega
        · exact h2 v
      · have e : sm (fun v => if v = i then r.toNat else most v) (i + 1) = sm most i + r.toNat := by
          simp only [sm, if_true]
          congr 1
          have q1 := sm_le (f := fun v => if v = i then r.toNat else most v) (g := most) (n := i) (fun j hj => by rw [if_neg (by omega)]; exact Nat.le_refl _)
          have q2 := sm_le (g := fun v => if v = i then r.toNat else most v) (f := most) (n := i) (fun j hj => by rw [if_neg (by omega)]; exact Nat.le_refl _)
          omega
        rw [e]
        try rw [wr64 (by omega) (by omega)]
        omega
    · rintro ⟨x, y⟩ ⟨rfl, most, h1, h2, h3⟩
      unfold B89_3
      simp only at h1 h2 h3 ⊢
      simp (disch := omega) only [Ret_some, Ret_none, Ret_bind, Ret_asrt, Ret_cond, Sum.elim_inl, Sum.elim_inr, decide_eq_true_eq, decide_eq_false_iff_not, Bool.not_eq_true', Bool.not_not, Bool.and_eq_true, Bool.or_eq_true, Bool.true_eq_false, Bool.false_eq_true, Bool.not_true, Bool.not_false, if_true, if_false, ite_true, ite_false, true_and, and_true, false_and, and_false, Int.toNat_natCast, toN_succ, Int.ofNat_eq_natCast, Int.ofNat_toNat, Nat.zero_add, Nat.add_zero, not_true_eq_false, not_false_eq_true, implies_true, wr64, ho]
      rw [if_neg (by omega)]
      exact ⟨most, h1, h3⟩
  refine hlp.mono fun r ⟨most, q1, q2⟩ => ?_
  exact ⟨mx, most, hm1, q1, q2⟩
/-! ### the solver: further arcs -/
theorem F67_eq {l : List Int} (h : l.length ≤ 1000000) : F67 l = some l := by
  unfold F67 both asrt
  by_cases c : l.length = 0
  · obtain rfl := List.length_eq_zero_iff.1 c; simp
  · rw [if_neg c, if_pos (by omega)]; rfl
theorem F67b_eq {l : List Int} (h : l.length ≤ 1000000) : F67b l = some ((), l) := by
  unfold F67b both asrt
  by_cases c : l.length = 0
  · obtain rfl := List.length_eq_zero_iff.1 c; simp
  · rw [if_neg c, if_pos (by omega)]; rfl
theorem F87_eq {l : List (List TArc)} (h : l.length ≤ 1000000) : F87 l = some ((), l) := by
  unfold F87 both asrt
  by_cases c : l.length = 0
  · obtain rfl := List.length_eq_zero_iff.1 c; simp
  · rw [if_neg c, if_pos (by omega)]; rfl
theorem F80_eq {l : List TArc} (h : l.length ≤ 1000000) : F80 l = some l := by
  unfold F80 both asrt
  by_cases c : l.length = 0
  · obtain rfl := List.length_eq_zero_iff.1 c; simp
  · rw [if_neg c, if_pos (by omega)]; rfl
def fromV (v : Nat) (E : List TArc) : List TArc := E.filter fun a => decide (a.from0.toNat = v)
theorem mem_fromV {v : Nat} {E : List TArc} {a : TArc} : a ∈ fromV v E ↔ a ∈ E ∧ a.from0.toNat = v := by simp [fromV]
theorem sm_fromV (n : Nat) : ∀ (E : List TArc), sm (fun v => (fromV v E).length) n ≤ E.length
  | [] => by have := sm_const (c := 0) (n := n); simp only [fromV, List.filter_nil, List.length_nil] at this ⊢; rw [this]; simp
  | a :: E => by
    have ih := sm_fromV n E
    by_cases c : a.from0.toNat < n
    · have := sm_ex (f := fun v => (fromV v (a :: E)).length) (g := fun v => (fromV v E).length) (i := a.from0.toNat) (n := n) (fun j _ hj => by simp [fromV, List.filter_cons, Ne.symm hj]) c
      have e : (fromV a.from0.toNat (a :: E)).length = (fromV a.from0.toNat E).length + 1 := by simp [fromV, List.filter_cons]
      rw [e] at this
      rw [List.length_cons]
      omega
    · have := sm_le (f := fun v => (fromV v (a :: E)).length) (g := fun v => (fromV v E).length) (n := n) (fun j hj => by
        have : ¬ a.from0.toNat = j := by omega
        simp [fromV, List.filter_cons, this])
      rw [List.length_cons]
      omega
theorem L68_3_ret {n : Nat} {E W : List TArc} {outs : List (List TArc)} (hol : outs.length = n) (hou : ∀ v, v < n → outs.getD v [] = fromV v E) (hW : ∀ a ∈ W, ArcOk n a) (hlen : (E ++ W).length ≤ 2000) :
    Ret (L68_3 W (0, outs)) fun r => r.length = n ∧ ∀ v, v < n → r.getD v [] = fromV v (E ++ W) := by
  unfold L68_3
  refine Ret.loop W.length (fun i s => s.1 = (i : Int) ∧ s.2.length = n ∧ ∀ v, v < n → s.2.getD v [] = fromV v (E ++ W.take i)) ⟨rfl, hol, fun v hv => by simpa using hou v hv⟩ ?_ ?_
  · rintro i ⟨x, m⟩ hi ⟨rfl, h1, h2⟩
    simp only at h1 h2
    have ha := hW _ (getD_mem (d := TArc.d) hi)
    have hWl : W.length ≤ 2000 := by rw [List.length_append] at hlen; omega
    have hf : (W.getD i TArc.d).from0.toNat < n := by have := ha.f0; have := ha.f1; omega
    have hl : (m.getD (W.getD i TArc.d).from0.toNat []).length ≤ 2000 := by
      rw [h2 _ hf]
      refine Nat.le_trans (List.length_filter_le _ _) ?_
      rw [List.length_append, List.length_take]
      rw [List.length_append] at hlen
      omega
    have e := F80_eq (l := m.getD (W.getD i TArc.d).from0.toNat []) (by omega)
    have hf0 := ha.f0
    have hf1 := ha.f1
    unfold B68_3
    simp only [Int.toNat_natCast, Nat.zero_add, e, Option.bind_some]
    simp (disch := omega) only [Ret_some, Ret_none, Ret_bind, Ret_asrt, Ret_cond, Sum.elim_inl, Sum.elim_inr, decide_eq_true_eq, decide_eq_false_iff_not, Bool.not_eq_true', Bool.not_not, Bool.and_eq_true, Bool.or_eq_true, Bool.true_eq_false, Bool.false_eq_true, Bool.not_true, Bool.not_false, if_true, if_false, ite_true, ite_false, true_and, and_true, false_and, and_false, Int.toNat_natCast, toN_succ, Int.ofNat_eq_natCast, Int.ofNat_toNat, Nat.zero_add, Nat.add_zero, not_true_eq_false, not_false_eq_true, implies_true, wr64, h1, List.length_set]
    rw [if_pos (by omega)]
    refine ⟨by omega, ⟨hf0, hf1⟩, hf, by omega, by omega, fun v hv => ?_⟩
    rw [lgetD_set, take_succ' TArc.d hi, ← List.append_assoc]
    by_cases c : (W.getD i TArc.d).from0.toNat = v
    · subst c
      rw [if_pos ⟨rfl, by omega⟩, h2 _ hf]
      simp [fromV]
    · rw [if_neg (fun q => c q.1), h2 v hv]
      simp only [fromV, List.filter_append]
      rw [List.filter_cons_of_neg (by simpa using c), List.filter_nil, List.append_nil]
  · rintro ⟨x, m⟩ ⟨rfl, h1, h2⟩
    simp only at h1 h2
    unfold B68_3
    simp (disch := omega) only [Ret_some, Ret_none, Ret_bind, Ret_asrt, Ret_cond, Sum.elim_inl, Sum.elim_inr, decide_eq_true_eq, decide_eq_false_iff_not, Bool.not_eq_true', Bool.not_not, Bool.and_eq_true, Bool.or_eq_true, Bool.true_eq_false, Bool.false_eq_true, Bool.not_true, Bool.not_false, if_true, if_false, ite_true, ite_false, true_and, and_true, false_and, and_false, Int.toNat_natCast, toN_succ, Int.ofNat_eq_natCast, Int.ofNat_toNat, Nat.zero_add, Nat.add_zero, not_true_eq_false, not_false_eq_true, implies_true, wr64]
    rw [if_neg (by omega)]
    rw [List.take_length] at h2
    exact ⟨h1, h2⟩
structure Sol (g : TGraph) (E : List TArc) (s : TSolver) : Prop where
  tl : s.times.length = g.ready.length
  ll : s.last = g.last
  ol : s.outs.length = g.ready.length
  ou : ∀ v, v < g.ready.length → s.outs.getD v [] = fromV v E
  kp : Keeps (E3 E) fun v => s.times.getD v 0
  ge : ∀ v, v < g.ready.length → g.ready.getD v 0 ≤ s.times.getD v 0
  le : ∀ S, Keeps (E3 E) S → (∀ v, v < g.ready.length → g.ready.getD v 0 ≤ S v) → ∀ v, v < g.ready.length → s.times.getD v 0 ≤ S v
  la : ∀ v, v < g.ready.length → 0 ≤ g.last.getD v 0 → s.times.getD v 0 ≤ g.last.getD v 0
  up : ∀ v, v < g.ready.length → s.times.getD v 0 ≤ 1099511627776
def Feas (g : TGraph) (E : List TArc) : Prop := ∃ S, Keeps (E3 E) S ∧ (∀ v, v < g.ready.length → g.ready.getD v 0 ≤ S v) ∧ ∀ v, v < g.ready.length → 0 ≤ g.last.getD v 0 → S v ≤ g.last.getD v 0
structure GN (g : TGraph) : Prop where
  n : g.ready.length ≤ 24
  ll : g.last.length = g.ready.length
  r0 : ∀ v, v < g.ready.length → 0 ≤ g.ready.getD v 0
  r1 : ∀ v, v < g.ready.length → g.ready.getD v 0 ≤ 28800
theorem Keeps.sub {E W : List TArc} {S : Nat → Int} (h : Keeps (E3 (E ++ W)) S) : Keeps (E3 E) S := fun a ha => h a (by
  obtain ⟨b, hb, rfl⟩ := List.mem_map.1 ha
  exact List.mem_map.2 ⟨b, List.mem_append_left _ hb, rfl⟩)
theorem Feas.sub {g : TGraph} {E W : List TArc} (h : Feas g (E ++ W)) : Feas g E := by
  obtain ⟨S, h1, h2⟩ := h
  exact ⟨S, h1.sub, h2⟩
theorem Feas.least {g : TGraph} {E : List TArc} (hg : GN g) (hE : ∀ a ∈ E, ArcOk g.ready.length a) (h : Feas g E) :
    ∃ L, Keeps (E3 E) L ∧ (∀ v, v < g.ready.length → g.ready.getD v 0 ≤ L v) ∧ (∀ v, v < g.ready.length → 0 ≤ g.last.getD v 0 → L v ≤ g.last.getD v 0) ∧ ∀ v, v < g.ready.length → L v ≤ 1000000 := by
  obtain ⟨S, h1, h2, h3⟩ := h
  have hin := E3_inN hE
  have hconv := its_conv (x := fun v => g.ready.getD v 0) hin h1 h2
  refine ⟨its (E3 E) (fun v => g.ready.getD v 0) g.ready.length, fun a ha => Int.le_trans (up_arc ha) (hconv (g.ready.length + 1) a.2.1 (hin a ha).2), fun v hv => its_mono (E3 E) (fun v => g.ready.getD v 0) v (Nat.zero_le _), fun v hv hl => Int.le_trans (its_le hin h1 h2 _ v hv) (h3 v hv hl), fun v hv => ?_⟩
  have := its_bound (x := fun v => g.ready.getD v 0) hin h1 h2 (mx := 28800) (most := fun _ => 28800) (fun v hv => hg.r1 v hv) (fun a ha => by
    obtain ⟨b, hb, rfl⟩ := List.mem_map.1 ha
    exact (hE b hb).l1) v hv
  rw [sm_const] at this
  have := hg.n
  omega
theorem F68_ret {g : TGraph} {E V : List TArc} {s : TSolver} (hg : GN g) (hs : Sol g E s) (hE : ∀ a ∈ E ++ V, ArcOk g.ready.length a) (hlen : (E ++ V).length ≤ 2000) :
    Ret (F68 s V) fun r => (r.2 = true ∧ ∃ s', r.1 = some s' ∧ Sol g (E ++ V) s') ∨ (r.2 = false ∧ ¬ Feas g (E ++ V)) := by
  have hn := hg.n
  generalize hnn : g.ready.length = n at *
  have hll : s.last.length = n := by rw [hs.ll, hg.ll, hnn]
  have htl : s.times.length = n := by rw [hs.tl, hnn]
  have hol : s.outs.length = n := by rw [hs.ol, hnn]
  have hE1 : ∀ a ∈ E, ArcOk n a := fun a ha => hE a (List.mem_append_left _ ha)
  have hW : ∀ a ∈ V, ArcOk n a := fun a ha => hE a (List.mem_append_right _ ha)
  have hWl : V.length ≤ 2000 := by rw [List.length_append] at hlen; omega
  obtain ⟨outs, ho, hol', hou'⟩ := L68_3_ret (E := E) (W := V) hol (fun v hv => hs.ou v (by omega)) hW hlen
  -- the first arcs
  let w0 : W := ⟨true, [], List.replicate n 0, List.replicate n false, s.times⟩
  have ht0 : ∀ v, v < n → 0 ≤ s.times.getD v 0 := fun v hv => Int.le_trans (hg.r0 v (by omega)) (hs.ge v (by omega))
  have hi0 : w0.Inv n s.last := by
    refine ⟨by simp [w0], by simp [w0], htl, by simp [w0], by simp [w0], fun v hv => ?_, fun _ v hv => ⟨?_, hs.up v (by omega), ?_⟩, by simp [w0]⟩
    · show (List.replicate n false).getD v false = true ↔ (v : Int) ∈ ([] : List Int)
      rw [getD_rep hv]; simp
    · rw [hs.ll]; exact hs.la v (by omega)
    · show (List.replicate n (0 : Int)).getD v 0 ≤ _
      rw [getD_rep hv]; decide
  have hz0 : w0.Szk n 1099511627776 0 0 := by
    refine ⟨by simp [w0], by simp [w0], htl, ht0, fun v hv => hs.up v (by omega), fun v hv => ?_, fun v hv => ?_, by simp [w0]⟩
    · show 0 ≤ (List.replicate n (0 : Int)).getD v 0
      rw [getD_rep hv]; decide
    · show (List.replicate n (0 : Int)).getD v 0 ≤ 0
      rw [getD_rep hv]; decide
  have e13 := L68_13_eq (last := s.last) (outs := outs) (l := V) hz0 hW hll (by omega) (by omega) (by omega)
  have hz1 := W.Szk.run (last := s.last) (l := V) hz0 hW
  have hQ := W.run_ind (last := s.last) (Q := fun q w => w.Inv n s.last ∧ (∀ a ∈ q, a ∈ V) ∧ (w.Good fun a => a ∈ E ∨ a ∈ q) ∧ (∀ v, v < n → s.times.getD v 0 ≤ w.tim.getD v 0) ∧ ∀ S, Keeps (E3 (E ++ V)) S → w0.Le n S → w.Le n S) V [] w0
    ⟨hi0, by simp, fun a ha => .inr (by
      have ha : a ∈ E := by simpa using ha
      exact E3_keeps hs.kp ha), fun v hv => Int.le_refl _, fun S _ h => h⟩ (fun q a w ha ⟨i1, i2, i3, i4, i5⟩ => by
      have hao := hW a ha
      have htw : a.to0.toNat < w.tim.length := by rw [i1.tim]; have := hao.t0; have := hao.t1; omega
      refine ⟨i1.tr hao, fun b hb => ?_, fun b hb => (i3.tr i1 hao (fun b hb => hb.elim (hE1 b) (fun h => hW b (i2 b h)))) b ?_, fun v hv => Int.le_trans (i4 v hv) (W.tr_mono htw), fun S hS h => W.Le.tr i1.tim hao (E3_keeps hS (List.mem_append_right _ ha)) (i5 S hS h)⟩
      · rcases List.mem_append.1 hb with hb | hb
        · exact i2 b hb
        · obtain rfl : b = a := by simpa using hb
          exact ha
      · rcases hb with hb | hb
        · exact .inl (.inl hb)
        · rcases List.mem_append.1 hb with hb | hb
          · exact .inl (.inr hb)
          · exact .inr (by simpa using hb))
  rw [List.nil_append] at hQ
  generalize hw1 : W.run s.last V w0 = w1 at *
  obtain ⟨i1, _, i3, i4, i5⟩ := hQ
  have hO : ∀ v, v < n → ∀ a, a ∈ outs.getD v [] ↔ a ∈ E ++ V ∧ a.from0.toNat = v := fun v hv a => by rw [hou' v hv]; exact mem_fromV
  have hA : sm (fun v => (outs.getD v []).length) n ≤ 2000 := by
    have h1 := sm_fromV n (E ++ V)
    have h2 := sm_le (f := fun v => (outs.getD v []).length) (g := fun v => (fromV v (E ++ V)).length) (n := n) (fun v hv => by rw [hou' v hv]; exact Nat.le_refl _)
    omega
  have hgd : w1.Good fun a => a ∈ E ++ V := fun a ha => i3 a (List.mem_append.1 ha)
  have hH : H n s.last (E ++ V) outs V.length 2000 w1 w1 := by
    refine ⟨i1, hgd, hz1.t0, fun v hv => ?_, hz1.r0, fun v hv => ?_, fun v hv => Int.le_refl _, fun S _ h => h, fun _ => ⟨0, w1.todo.length, Nat.le_refl _, Nat.zero_le _, fun v hv => Int.le_refl _, fun a ha => ?_, fun v hv => ?_, fun _ => rfl⟩⟩
    · have := hz1.t1 v hv; omega
    · have := hz1.r1 v hv; omega
    · rw [List.take_length]; exact hgd a ha
    · have h1 := hz1.r1 v hv
      have h2 := sm_le (f := fun v => if (v : Int) ∈ w1.todo.take w1.todo.length then (outs.getD v []).length else 0) (g := fun v => (outs.getD v []).length) (n := n) (fun i _ => by split <;> omega)
      omega
  have hol2 : ∀ v, v < n → (outs.getD v []).length ≤ 1000000 := fun v hv => by
    rw [hou' v hv]
    have := List.length_filter_le (fun a : TArc => decide (a.from0.toNat = v)) (E ++ V)
    show (List.filter _ (E ++ V)).length ≤ _
    omega
  have h89 := F89_ret (n := n) s.last w1.tim outs hn i1.tim hol' hol2 (fun v hv a ha => (hE a ((hO v hv a).1 ha).1).l1) (fun v hv => by have := hz1.t1 v hv; omega)
  have e13' : L68_13 V (0, s.times, outs, s.last, List.replicate n false, List.replicate n 0, [], true) = some (w1.tim, outs, s.last, w1.wai, w1.rai, w1.todo, w1.ok) := e13
  unfold F68
  simp only [F67b_eq (l := s.times) (by omega), F87_eq (l := s.outs) (by omega), Option.bind_some, ho, htl, Int.toNat_natCast, e13']
  simp (disch := omega) only [Ret_some, Ret_none, Ret_bind, Ret_asrt, Ret_cond, Sum.elim_inl, Sum.elim_inr, decide_eq_true_eq, decide_eq_false_iff_not, Bool.not_eq_true', Bool.not_not, Bool.and_eq_true, Bool.or_eq_true, Bool.true_eq_false, Bool.false_eq_true, Bool.not_true, Bool.not_false, if_true, if_false, ite_true, ite_false, true_and, and_true, false_and, and_false, Int.toNat_natCast, toN_succ, Int.ofNat_eq_natCast, Int.ofNat_toNat, Nat.zero_add, Nat.add_zero, not_true_eq_false, not_false_eq_true, implies_true, wr64]
  refine ⟨⟨by omega, by omega, by omega, by omega⟩, by omega, ?_⟩
  refine ⟨_, e13', ?_⟩
  refine h89.mono fun r9 ⟨q1, mx, most, q2, q3, q4⟩ => ?_
  obtain ⟨b9, b91⟩ := r9
  simp only at q1 q4
  subst q1
  simp only
  refine ⟨trivial, trivial, ?_⟩
  have h18 := L68_18_ret (r9 := (b9, s.last, w1.tim, outs)) hE hO hA (Nat.le_refl _) hn hll hol' hH
  refine h18.mono fun x hx => ?_
  rcases x with x | x
  · obtain ⟨w, rfl, hw, hdone⟩ := hx
    simp (disch := omega) only [Ret_some, Ret_none, Ret_bind, Ret_asrt, Ret_cond, Sum.elim_inl, Sum.elim_inr, decide_eq_true_eq, decide_eq_false_iff_not, Bool.not_eq_true', Bool.not_not, Bool.and_eq_true, Bool.or_eq_true, Bool.true_eq_false, Bool.false_eq_true, Bool.not_true, Bool.not_false, if_true, if_false, ite_true, ite_false, true_and, and_true, false_and, and_false, Int.toNat_natCast, toN_succ, Int.ofNat_eq_natCast, Int.ofNat_toNat, Nat.zero_add, Nat.add_zero, not_true_eq_false, not_false_eq_true, implies_true, wr64]
    refine ⟨by omega, by omega, ?_⟩
    cases hok : w.ok with
    | true =>
      refine .inl ⟨rfl, _, rfl, ?_⟩
      have htd := hdone hok
      have hokv := hw.inv.okt hok
      refine ⟨?_, ?_, ?_, ?_, ?_, ?_, ?_, ?_, ?_⟩ <;> (try simp only [List.take_length])
      · rw [hw.inv.tim, hnn]
      · exact hs.ll
      · rw [hol', hnn]
      · rw [hnn]; exact hou'
      · intro a ha
        obtain ⟨b, hb, rfl⟩ := List.mem_map.1 ha
        exact (hw.good b hb).resolve_left (by rw [htd]; simp)
      · rw [hnn]
        intro v hv
        have := hs.ge v (by omega)
        have := i4 v hv
        have := hw.up v hv
        omega
      · rw [hnn]
        intro S hS hr v hv
        exact hw.le S hS (i5 S hS (fun v hv => hs.le S hS.sub (fun v hv => hr v (by omega)) v (by omega))) v hv
      · rw [hnn]
        intro v hv hl
        rw [← hs.ll] at hl ⊢
        exact (hokv v hv).1 hl
      · rw [hnn]; exact fun v hv => (hokv v hv).2.1
    | false =>
      refine .inr ⟨rfl, fun hfe => ?_⟩
      obtain ⟨L, l1, l2, l3, l4⟩ := hfe.least hg (by rw [hnn]; exact hE)
      rw [hnn] at l2 l3 l4
      have hwL1 := i5 L l1 (fun v hv => hs.le L l1.sub (fun v hv => l2 v (by omega)) v (by omega))
      have hwL := hw.le L l1 hwL1
      obtain ⟨k, r, hj⟩ := hw.jj ⟨L, l1, hwL1⟩
      obtain ⟨v, hv, hbad⟩ := hw.inv.okf hok
      have h1 := hwL v hv
      have h2 := l4 v hv
      have h3 := l3 v hv
      rw [← hs.ll] at h3
      have h4 := hj.j4 v hv
      have h5 : (k + 1) * 2000 ≤ 25 * 2000 := Nat.mul_le_mul_right _ (by have := hj.kn; omega)
      rcases hbad with ⟨c1, c2⟩ | c | c
      · have := h3 c1; omega
      · omega
      · omega
  · obtain ⟨rfl, u, hu, hS⟩ := hx
    simp (disch := omega) only [Ret_some, Ret_none, Ret_bind, Ret_asrt, Ret_cond, Sum.elim_inl, Sum.elim_inr, decide_eq_true_eq, decide_eq_false_iff_not, Bool.not_eq_true', Bool.not_not, Bool.and_eq_true, Bool.or_eq_true, Bool.true_eq_false, Bool.false_eq_true, Bool.not_true, Bool.not_false, if_true, if_false, ite_true, ite_false, true_and, and_true, false_and, and_false, Int.toNat_natCast, toN_succ, Int.ofNat_eq_natCast, Int.ofNat_toNat, Nat.zero_add, Nat.add_zero, not_true_eq_false, not_false_eq_true, implies_true, wr64]
    refine .inr fun hfe => ?_
    obtain ⟨L, l1, l2, l3, l4⟩ := hfe.least hg (by rw [hnn]; exact hE)
    rw [hnn] at l2 l3 l4
    have hwL1 := i5 L l1 (fun v hv => hs.le L l1.sub (fun v hv => l2 v (by omega)) v (by omega))
    have hin := E3_inN hE
    have hconv := its_conv (x := fun v => w1.tim.getD v 0) hin l1 hwL1
    have hk : Keeps (E3 (E ++ V)) (its (E3 (E ++ V)) (fun v => w1.tim.getD v 0) n) := fun a ha => Int.le_trans (up_arc ha) (hconv (n + 1) a.2.1 (hin a ha).2)
    have h1 := hS _ hk (fun v hv => its_mono (E3 (E ++ V)) (fun v => w1.tim.getD v 0) v (Nat.zero_le _))
    have h2 := its_bound (x := fun v => w1.tim.getD v 0) hin l1 hwL1 q2 (most := most) (fun a ha => by
      obtain ⟨b, hb, rfl⟩ := List.mem_map.1 ha
      have hf := (hin _ ha).1
      exact q3 _ hf b ((hO _ hf b).2 ⟨hb, rfl⟩)) u hu
    simp only at h1 h2
    omega
/-! ### what is wrong with a graph -/
theorem F54_eq (n a b : Int) : F54 n a b = some (decide (a ≤ n ∧ n ≤ b)) := by
  unfold F54
  by_cases h : a ≤ n <;> simp [h]
theorem F51_eq (n a b : Int) : F51 n a b = some (decide (a ≤ n ∧ n ≤ b)) := F54_eq n a b
theorem loop_step {S X : Type} {B : S → Option (S ⊕ X)} {s : S} : loopW B s = (B s).bind (Sum.elim (loopW B) some) := by
  rw [loopW_eq]
  congr 1
  funext o
  cases o <;> rfl
def fa (x : TArc) (n : Int) : Int := if ¬(0 ≤ x.from0 ∧ x.from0 ≤ n - 1) then 3 else if ¬(0 ≤ x.to0 ∧ x.to0 ≤ n - 1) then 3 else if x.from0 = x.to0 then 1 else if ¬(-28800 ≤ x.len ∧ x.len ≤ 28800) then 2 else 0
theorem F63_eq (x : TArc) (n : Int) : F63 x n = some (fa x n) := by
  unfold F63 fa
  simp only [F51_eq, Option.bind_some]
  by_cases c1 : x.from0 < 0
  · have : ¬(0 ≤ x.from0 ∧ x.from0 ≤ n - 1) := by omega
    simp [c1, this]
  · by_cases c2 : n ≤ x.from0
    · have : ¬(0 ≤ x.from0 ∧ x.from0 ≤ n - 1) := by omega
      simp [c1, c2, this]
    · have d1 : 0 ≤ x.from0 ∧ x.from0 ≤ n - 1 := by omega
      by_cases c3 : x.to0 < 0
      · have : ¬(0 ≤ x.to0 ∧ x.to0 ≤ n - 1) := by omega
        simp [c1, c2, c3, d1, this]
      · by_cases c4 : n ≤ x.to0
        · have : ¬(0 ≤ x.to0 ∧ x.to0 ≤ n - 1) := by omega
          simp [c1, c2, c3, c4, d1, this]
        · have d2 : 0 ≤ x.to0 ∧ x.to0 ≤ n - 1 := by omega
          by_cases c5 : x.from0 = x.to0
          · simp only [c1, c2, c3, c4, c5, decide_false, decide_true, cond_false, cond_true, d1, d2, not_true_eq_false, if_false, if_true, and_self] <;> simp [← c5, d1]
          · by_cases c6 : -28800 ≤ x.len ∧ x.len ≤ 28800
            · simp [c1, c2, c3, c4, c5, c6, d1, d2]
            · simp only [c1, c2, c3, c4, c5, c6, d1, d2, decide_false, decide_true, cond_false, cond_true, Bool.not_false, not_true_eq_false, not_false_eq_true, if_false, if_true, and_self]
theorem B62_eq (a0 : TGraph) (hn : a0.ready.length ≤ 24) (l : List TArc) (s : Int) : B62_2 a0 l s = bif decide (s < (l.length : Int)) then asrt (0 ≤ s ∧ s < (l.length : Int)) ((F63 (l.getD s.toNat TArc.d) (a0.ready.length : Int)).bind fun r => bif !decide (r = 0) then some (.inr (.inr r)) else some (.inl (IntKind.wrap .i64 (s + 1)))) else some (.inr (.inl ())) := by
  unfold B62_2
  have hw : IntKind.wrap .i64 ((a0.ready.length : Int) - 1) = (a0.ready.length : Int) - 1 := wr64 (by omega) (by omega)
  simp only [F54_eq, F63_eq, Option.bind_some, hw]
  unfold fa
  generalize l.getD s.toNat TArc.d = x
  congr 2
  by_cases c1 : 0 ≤ x.from0 ∧ x.from0 ≤ (a0.ready.length : Int) - 1
  · by_cases c2 : 0 ≤ x.to0 ∧ x.to0 ≤ (a0.ready.length : Int) - 1
    · by_cases c3 : x.from0 = x.to0
      · simp only [c1, c2, c3, and_self, decide_true, Bool.not_true, cond_false, cond_true, not_true_eq_false, if_false, if_true]
        simp [← c3, c1]
      · by_cases c4 : -28800 ≤ x.len ∧ x.len ≤ 28800
        · simp [c1, c2, c3, c4]
        · simp only [c1, c2, c3, c4, and_self, decide_true, decide_false, Bool.not_true, Bool.not_false, cond_false, cond_true, not_true_eq_false, not_false_eq_true, if_false, if_true]
          simp
    · simp only [c1, c2, and_self, decide_true, decide_false, Bool.not_true, Bool.not_false, cond_false, cond_true, not_true_eq_false, not_false_eq_true, if_false, if_true]
      simp
  · simp only [c1, decide_false, Bool.not_false, cond_true, not_false_eq_true, if_true]
    simp
theorem L25_13_eq (a0 : TGraph) (hn : a0.ready.length ≤ 24) : L25_13 a0 = L62_2 a0 a0.arcs := by
  funext s
  unfold L25_13 L62_2
  exact loopW_congr (fun s => by rw [B62_eq a0 hn]; rfl) s
theorem L25_30_eq (a0 : TGraph) (hn : a0.ready.length ≤ 24) (v w : Int) : L25_30 a0 v w = L62_2 a0 ((a0.choices.getD v.toNat TChoice.d).ways.getD w.toNat []) := by
  funext s
  unfold L25_30 L62_2
  exact loopW_congr (fun s => by rw [B62_eq a0 hn]; rfl) s
theorem L62_ret (a0 : TGraph) (hn : a0.ready.length ≤ 24) (l : List TArc) (hl : l.length ≤ 250) : Ret (L62_2 a0 l 0) fun x => match x with | .inl _ => True | .inr r => r ≠ 0 := by
  unfold L62_2
  refine Ret.loop l.length (fun i s => s = (i : Int)) rfl ?_ ?_
  · rintro i s hi rfl
    simp only [B62_eq a0 hn, F63_eq]
    simp (disch := omega) only [Ret_some, Ret_none, Ret_bind, Ret_asrt, Ret_cond, Sum.elim_inl, Sum.elim_inr, decide_eq_true_eq, decide_eq_false_iff_not, Bool.not_eq_true', Bool.not_not, Bool.and_eq_true, Bool.or_eq_true, Bool.true_eq_false, Bool.false_eq_true, Bool.not_true, Bool.not_false, if_true, if_false, ite_true, ite_false, true_and, and_true, false_and, and_false, Int.toNat_natCast, toN_succ, Int.ofNat_eq_natCast, Int.ofNat_toNat, Nat.zero_add, Nat.add_zero, not_true_eq_false, not_false_eq_true, implies_true, wr64]
    rw [if_pos (by omega)]
    refine ⟨by omega, ?_⟩
    split
    · assumption
    · omega
  · rintro s rfl
    simp only [B62_eq a0 hn]
    simp (disch := omega) only [Ret_some, Ret_none, Ret_bind, Ret_asrt, Ret_cond, Sum.elim_inl, Sum.elim_inr, decide_eq_true_eq, decide_eq_false_iff_not, Bool.not_eq_true', Bool.not_not, Bool.and_eq_true, Bool.or_eq_true, Bool.true_eq_false, Bool.false_eq_true, Bool.not_true, Bool.not_false, if_true, if_false, ite_true, ite_false, true_and, and_true, false_and, and_false, Int.toNat_natCast, toN_succ, Int.ofNat_eq_natCast, Int.ofNat_toNat, Nat.zero_add, Nat.add_zero, not_true_eq_false, not_false_eq_true, implies_true, wr64]
    rw [if_neg (by omega)]
    trivial
theorem ways_ret (a0 : TGraph) (hn : a0.ready.length ≤ 24) (v : Int) (hl : (a0.choices.getD v.toNat TChoice.d).ways.length ≤ 3) : Ret (L24_20 a0 v 0) fun x => L25_25 a0 v 0 = some x ∧ match x with | .inl _ => True | .inr r => r ≠ 0 := by
  unfold L24_20
  refine Ret.loop (a0.choices.getD v.toNat TChoice.d).ways.length (fun i s => s = (i : Int) ∧ L25_25 a0 v 0 = L25_25 a0 v (i : Int)) ⟨rfl, rfl⟩ ?_ ?_
  · rintro i s hi ⟨rfl, he⟩
    have hbb : L25_25 a0 v (i : Int) = (B25_25 a0 v (i : Int)).bind (Sum.elim (L25_25 a0 v) some) := loop_step
    have c0 : (i : Int) < ((a0.choices.getD v.toNat TChoice.d).ways.length : Int) := by omega
    have c1 : (0 : Int) ≤ (i : Int) ∧ (i : Int) < ((a0.choices.getD v.toNat TChoice.d).ways.length : Int) := by omega
    have hw : IntKind.wrap .i64 ((i : Int) + 1) = ((i + 1 : Nat) : Int) := by rw [wr64 (by omega) (by omega)]; rfl
    unfold B25_25 at hbb
    unfold B24_20 F62
    rw [L25_30_eq a0 hn] at hbb
    simp only [c0, decide_true, cond_true, asrt, if_pos c1, Int.toNat_natCast, hw] at hbb ⊢
    by_cases d : (4 : Int) < (((a0.choices.getD v.toNat TChoice.d).ways.getD i []).length : Int)
    · simp only [d, decide_true, cond_true, Option.bind_some, Sum.elim_inr] at hbb ⊢
      exact Ret_some.2 ⟨he.trans hbb, by decide⟩
    · obtain ⟨x, hx, hx2⟩ := L62_ret a0 hn ((a0.choices.getD v.toNat TChoice.d).ways.getD i []) (by omega)
      simp only [d, decide_false, cond_false, hx, Option.bind_some] at hbb ⊢
      rcases x with ⟨⟩ | r
      · simp only [Sum.elim_inl, Option.bind_some, decide_true, Bool.not_true, cond_false] at hbb ⊢
        exact Ret_some.2 ⟨rfl, he.trans hbb⟩
      · simp only at hx2
        simp only [Sum.elim_inr, Option.bind_some, hx2, decide_false, Bool.not_false, cond_true] at hbb ⊢
        exact Ret_some.2 ⟨he.trans hbb, hx2⟩
  · rintro s ⟨rfl, he⟩
    have hbb : L25_25 a0 v ((a0.choices.getD v.toNat TChoice.d).ways.length : Int) = (B25_25 a0 v ((a0.choices.getD v.toNat TChoice.d).ways.length : Int)).bind (Sum.elim (L25_25 a0 v) some) := loop_step
    unfold B25_25 at hbb
    unfold B24_20
    simp only [Int.lt_irrefl, decide_false, cond_false, Option.bind_some, Sum.elim_inr] at hbb ⊢
    exact Ret_some.2 ⟨he.trans hbb, trivial⟩
theorem choices_ret (a0 : TGraph) (hn : a0.ready.length ≤ 24) (hl : a0.choices.length ≤ 300) : Ret (L24_15 a0 0) fun x => L25_20 a0 0 = some x := by
  unfold L24_15
  refine Ret.loop a0.choices.length (fun i s => s = (i : Int) ∧ L25_20 a0 0 = L25_20 a0 (i : Int)) ⟨rfl, rfl⟩ ?_ ?_
  · rintro i s hi ⟨rfl, he⟩
    have hbb : L25_20 a0 (i : Int) = (B25_20 a0 (i : Int)).bind (Sum.elim (L25_20 a0) some) := loop_step
    have c0 : (i : Int) < (a0.choices.length : Int) := by omega
    have c1 : (0 : Int) ≤ (i : Int) ∧ (i : Int) < (a0.choices.length : Int) := by omega
    have hw : IntKind.wrap .i64 ((i : Int) + 1) = ((i + 1 : Nat) : Int) := by rw [wr64 (by omega) (by omega)]; rfl
    unfold B25_20 at hbb
    unfold B24_15
    simp only [c0, decide_true, cond_true, asrt, if_pos c1, Int.toNat_natCast, hw] at hbb ⊢
    by_cases d : (3 : Int) < ((a0.choices.getD i TChoice.d).ways.length : Int)
    · simp only [d, decide_true, cond_true, Option.bind_some, Sum.elim_inr] at hbb ⊢
      exact Ret_some.2 (he.trans hbb)
    · obtain ⟨x, hx, hx2, hx3⟩ := ways_ret a0 hn (i : Int) (by rw [Int.toNat_natCast]; omega)
      simp only [d, decide_false, cond_false, hx, hx2, Option.bind_some] at hbb ⊢
      rcases x with ⟨⟩ | r
      · simp only [Sum.elim_inl, Option.bind_some] at hbb ⊢
        exact Ret_some.2 ⟨rfl, he.trans hbb⟩
      · simp only [Sum.elim_inr, Option.bind_some] at hbb ⊢
        exact Ret_some.2 (he.trans hbb)
  · rintro s ⟨rfl, he⟩
    have hbb : L25_20 a0 (a0.choices.length : Int) = (B25_20 a0 (a0.choices.length : Int)).bind (Sum.elim (L25_20 a0) some) := loop_step
    unfold B25_20 at hbb
    unfold B24_15
    simp only [Int.lt_irrefl, decide_false, cond_false, Option.bind_some, Sum.elim_inr] at hbb ⊢
    exact Ret_some.2 (he.trans hbb)
theorem L24_6_eq (a0 : TGraph) : L24_6 a0 = L25_7 a0 := rfl
theorem nodes_ret (a0 : TGraph) (hn : a0.ready.length ≤ 24) (h1 : a0.last.length = a0.ready.length) (h2 : a0.due.length = a0.ready.length) : Ret (L25_7 a0 0) fun _ => True := by
  unfold L25_7
  refine Ret.loop a0.ready.length (fun i s => s = (i : Int)) rfl ?_ ?_
  · rintro i s hi rfl
    unfold B25_7
    simp (disch := omega) only [Ret_some, Ret_none, Ret_bind, Ret_asrt, Ret_cond, Sum.elim_inl, Sum.elim_inr, decide_eq_true_eq, decide_eq_false_iff_not, Bool.not_eq_true', Bool.not_not, Bool.and_eq_true, Bool.or_eq_true, Bool.true_eq_false, Bool.false_eq_true, Bool.not_true, Bool.not_false, if_true, if_false, ite_true, ite_false, true_and, and_true, false_and, and_false, Int.toNat_natCast, toN_succ, Int.ofNat_eq_natCast, Int.ofNat_toNat, Nat.zero_add, Nat.add_zero, not_true_eq_false, not_false_eq_true, implies_true, wr64, F51_eq]
    rw [if_pos (by omega)]
    refine ⟨by omega, ?_⟩
    split
    · trivial
    · refine ⟨by omega, ?_⟩
      split
      · trivial
      · refine ⟨by omega, ?_⟩
        split
        · trivial
        · omega
  · rintro s rfl
    unfold B25_7
    simp (disch := omega) only [Ret_some, Ret_none, Ret_bind, Ret_asrt, Ret_cond, Sum.elim_inl, Sum.elim_inr, decide_eq_true_eq, decide_eq_false_iff_not, Bool.not_eq_true', Bool.not_not, Bool.and_eq_true, Bool.or_eq_true, Bool.true_eq_false, Bool.false_eq_true, Bool.not_true, Bool.not_false, if_true, if_false, ite_true, ite_false, true_and, and_true, false_and, and_false, Int.toNat_natCast, toN_succ, Int.ofNat_eq_natCast, Int.ofNat_toNat, Nat.zero_add, Nat.add_zero, not_true_eq_false, not_false_eq_true, implies_true, wr64]
    rw [if_neg (by omega)]
    trivial
theorem F24_ret (a0 : TGraph) : Ret (F24 a0) fun r => F25 a0 = some r := by
  unfold F24 F25
  by_cases c1 : (24 : Int) < (a0.ready.length : Int)
  · simp [c1, Ret_some]
  · by_cases c2 : (250 : Int) < (a0.arcs.length : Int)
    · simp [c1, c2, Ret_some]
    · by_cases c3 : (300 : Int) < (a0.choices.length : Int)
      · simp [c1, c2, c3, Ret_some]
      · by_cases c4 : (a0.last.length : Int) = (a0.ready.length : Int)
        · by_cases c5 : (a0.due.length : Int) = (a0.ready.length : Int)
          · simp only [c1, c2, c3, c4, c5, decide_true, decide_false, Bool.not_true, cond_false]
            obtain ⟨x, hx, _⟩ := nodes_ret a0 (by omega) (by omega) (by omega)
            rw [L24_6_eq, hx, L25_13_eq a0 (by omega)]
            rcases x with ⟨⟩ | r
            · obtain ⟨y, hy, hy2⟩ := L62_ret a0 (by omega) a0.arcs (by omega)
              unfold F62
              rw [hy]
              simp only [Option.bind_some, Sum.elim_inl]
              rcases y with ⟨⟩ | q
              · obtain ⟨z, hz, hz2⟩ := choices_ret a0 (by omega) (by omega)
                rw [hz, hz2]
                simp only [Option.bind_some, Sum.elim_inl, decide_true, Bool.not_true, cond_false]
                rcases z with ⟨⟩ | t
                · exact Ret_some.2 rfl
                · exact Ret_some.2 rfl
              · simp only at hy2
                simp only [Option.bind_some, Sum.elim_inr, hy2, decide_false, Bool.not_false, cond_true]
                exact Ret_some.2 rfl
            · exact Ret_some.2 rfl
          · simp [c1, c2, c3, c4, c5, Ret_some]
        · simp [c1, c2, c3, c4, Ret_some]
/-! ### a graph without fault -/
theorem fa_ok {x : TArc} {n : Nat} (h : fa x (n : Int) = 0) : ArcOk n x := by
  unfold fa at h
  split at h
  · omega
  · split at h
    · omega
    · split at h
      · omega
      · split at h
        · omega
        · constructor <;> first | omega | assumption
theorem L62_ok (a0 : TGraph) (hn : a0.ready.length ≤ 24) (l : List TArc) (hl : l.length ≤ 250) : Ret (L62_2 a0 l 0) fun x => match x with | .inl _ => ∀ a ∈ l, ArcOk a0.ready.length a | .inr r => r ≠ 0 := by
  unfold L62_2
  refine Ret.loop l.length (fun i s => s = (i : Int) ∧ ∀ j, j < i → ArcOk a0.ready.length (l.getD j TArc.d)) ⟨rfl, fun j hj => by omega⟩ ?_ ?_
  · rintro i s hi ⟨rfl, h⟩
    simp only [B62_eq a0 hn, F63_eq]
    simp (disch := omega) only [Ret_some, Ret_none, Ret_bind, Ret_asrt, Ret_cond, Sum.elim_inl, Sum.elim_inr, decide_eq_true_eq, decide_eq_false_iff_not, Bool.not_eq_true', Bool.not_not, Bool.and_eq_true, Bool.or_eq_true, Bool.true_eq_false, Bool.false_eq_true, Bool.not_true, Bool.not_false, if_true, if_false, ite_true, ite_false, true_and, and_true, false_and, and_false, Int.toNat_natCast, toN_succ, Int.ofNat_eq_natCast, Int.ofNat_toNat, Nat.zero_add, Nat.add_zero, not_true_eq_false, not_false_eq_true, implies_true, wr64]
    rw [if_pos (by omega)]
    refine ⟨by omega, ?_⟩
    split
    · assumption
    · rename_i c
      refine ⟨by omega, fun j hj => ?_⟩
      by_cases e : j = i
      · subst e
        exact fa_ok (by omega)
      · exact h j (by omega)
  · rintro s ⟨rfl, h⟩
    simp only [B62_eq a0 hn]
    simp (disch := omega) only [Ret_some, Ret_none, Ret_bind, Ret_asrt, Ret_cond, Sum.elim_inl, Sum.elim_inr, decide_eq_true_eq, decide_eq_false_iff_not, Bool.not_eq_true', Bool.not_not, Bool.and_eq_true, Bool.or_eq_true, Bool.true_eq_false, Bool.false_eq_true, Bool.not_true, Bool.not_false, if_true, if_false, ite_true, ite_false, true_and, and_true, false_and, and_false, Int.toNat_natCast, toN_succ, Int.ofNat_eq_natCast, Int.ofNat_toNat, Nat.zero_add, Nat.add_zero, not_true_eq_false, not_false_eq_true, implies_true, wr64]
    rw [if_neg (by omega)]
    intro a ha
    obtain ⟨j, hj, rfl⟩ := mem_getD TArc.d ha
    exact h j hj
def CsOk (n : Nat) (c : TChoice) : Prop := c.ways.length ≤ 3 ∧ ∀ w ∈ c.ways, w.length ≤ 4 ∧ ∀ a ∈ w, ArcOk n a
theorem ways_ok (a0 : TGraph) (hn : a0.ready.length ≤ 24) (v : Nat) (hl : (a0.choices.getD v TChoice.d).ways.length ≤ 3) : Ret (L24_20 a0 v 0) fun x => match x with | .inl _ => CsOk a0.ready.length (a0.choices.getD v TChoice.d) | .inr r => r ≠ 0 := by
  unfold L24_20
  refine Ret.loop (a0.choices.getD v TChoice.d).ways.length (fun i s => s = (i : Int) ∧ ∀ j, j < i → ((a0.choices.getD v TChoice.d).ways.getD j []).length ≤ 4 ∧ ∀ a ∈ (a0.choices.getD v TChoice.d).ways.getD j [], ArcOk a0.ready.length a) ⟨rfl, fun j hj => by omega⟩ ?_ ?_
  · rintro i s hi ⟨rfl, h⟩
    unfold B24_20 F62
    simp (disch := omega) only [Ret_some, Ret_none, Ret_bind, Ret_asrt, Ret_cond, Sum.elim_inl, Sum.elim_inr, decide_eq_true_eq, decide_eq_false_iff_not, Bool.not_eq_true', Bool.not_not, Bool.and_eq_true, Bool.or_eq_true, Bool.true_eq_false, Bool.false_eq_true, Bool.not_true, Bool.not_false, if_true, if_false, ite_true, ite_false, true_and, and_true, false_and, and_false, Int.toNat_natCast, toN_succ, Int.ofNat_eq_natCast, Int.ofNat_toNat, Nat.zero_add, Nat.add_zero, not_true_eq_false, not_false_eq_true, implies_true, wr64]
    rw [if_pos (by omega)]
    refine ⟨by omega, ?_⟩
    split
    · decide
    · rename_i d
      refine (L62_ok a0 hn ((a0.choices.getD v TChoice.d).ways.getD i []) (by omega)).mono fun x hx => ?_
      rcases x with ⟨⟩ | r
      · simp (disch := omega) only [Ret_some, Ret_none, Ret_bind, Ret_asrt, Ret_cond, Sum.elim_inl, Sum.elim_inr, decide_eq_true_eq, decide_eq_false_iff_not, Bool.not_eq_true', Bool.not_not, Bool.and_eq_true, Bool.or_eq_true, Bool.true_eq_false, Bool.false_eq_true, Bool.not_true, Bool.not_false, if_true, if_false, ite_true, ite_false, true_and, and_true, false_and, and_false, Int.toNat_natCast, toN_succ, Int.ofNat_eq_natCast, Int.ofNat_toNat, Nat.zero_add, Nat.add_zero, not_true_eq_false, not_false_eq_true, implies_true, wr64]
        refine ⟨by omega, fun j hj => ?_⟩
        by_cases e : j = i
        · subst e; exact ⟨by omega, hx⟩
        · exact h j (by omega)
      · simp only at hx
        simp (disch := omega) only [Ret_some, Ret_none, Ret_bind, Ret_asrt, Ret_cond, Sum.elim_inl, Sum.elim_inr, decide_eq_true_eq, decide_eq_false_iff_not, Bool.not_eq_true', Bool.not_not, Bool.and_eq_true, Bool.or_eq_true, Bool.true_eq_false, Bool.false_eq_true, Bool.not_true, Bool.not_false, if_true, if_false, ite_true, ite_false, true_and, and_true, false_and, and_false, Int.toNat_natCast, toN_succ, Int.ofNat_eq_natCast, Int.ofNat_toNat, Nat.zero_add, Nat.add_zero, not_true_eq_false, not_false_eq_true, implies_true, wr64, hx]
        trivial
  · rintro s ⟨rfl, h⟩
    unfold B24_20
    simp (disch := omega) only [Ret_some, Ret_none, Ret_bind, Ret_asrt, Ret_cond, Sum.elim_inl, Sum.elim_inr, decide_eq_true_eq, decide_eq_false_iff_not, Bool.not_eq_true', Bool.not_not, Bool.and_eq_true, Bool.or_eq_true, Bool.true_eq_false, Bool.false_eq_true, Bool.not_true, Bool.not_false, if_true, if_false, ite_true, ite_false, true_and, and_true, false_and, and_false, Int.toNat_natCast, toN_succ, Int.ofNat_eq_natCast, Int.ofNat_toNat, Nat.zero_add, Nat.add_zero, not_true_eq_false, not_false_eq_true, implies_true, wr64]
    rw [if_neg (by omega)]
    refine ⟨hl, fun a ha => ?_⟩
    obtain ⟨j, hj, rfl⟩ := mem_getD [] ha
    exact h j hj
theorem choices_ok (a0 : TGraph) (hn : a0.ready.length ≤ 24) (hl : a0.choices.length ≤ 300) : Ret (L24_15 a0 0) fun x => match x with | .inl _ => ∀ c ∈ a0.choices, CsOk a0.ready.length c | .inr r => r ≠ 0 := by
  unfold L24_15
  refine Ret.loop a0.choices.length (fun i s => s = (i : Int) ∧ ∀ j, j < i → CsOk a0.ready.length (a0.choices.getD j TChoice.d)) ⟨rfl, fun j hj => by omega⟩ ?_ ?_
  · rintro i s hi ⟨rfl, h⟩
    unfold B24_15
    simp (disch := omega) only [Ret_some, Ret_none, Ret_bind, Ret_asrt, Ret_cond, Sum.elim_inl, Sum.elim_inr, decide_eq_true_eq, decide_eq_false_iff_not, Bool.not_eq_true', Bool.not_not, Bool.and_eq_true, Bool.or_eq_true, Bool.true_eq_false, Bool.false_eq_true, Bool.not_true, Bool.not_false, if_true, if_false, ite_true, ite_false, true_and, and_true, false_and, and_false, Int.toNat_natCast, toN_succ, Int.ofNat_eq_natCast, Int.ofNat_toNat, Nat.zero_add, Nat.add_zero, not_true_eq_false, not_false_eq_true, implies_true, wr64]
    rw [if_pos (by omega)]
    refine ⟨by omega, ?_⟩
    split
    · decide
    · rename_i d
      refine (ways_ok a0 hn i (by omega)).mono fun x hx => ?_
      rcases x with ⟨⟩ | r
      · simp (disch := omega) only [Ret_some, Ret_none, Ret_bind, Ret_asrt, Ret_cond, Sum.elim_inl, Sum.elim_inr, decide_eq_true_eq, decide_eq_false_iff_not, Bool.not_eq_true', Bool.not_not, Bool.and_eq_true, Bool.or_eq_true, Bool.true_eq_false, Bool.false_eq_true, Bool.not_true, Bool.not_false, if_true, if_false, ite_true, ite_false, true_and, and_true, false_and, and_false, Int.toNat_natCast, toN_succ, Int.ofNat_eq_natCast, Int.ofNat_toNat, Nat.zero_add, Nat.add_zero, not_true_eq_false, not_false_eq_true, implies_true, wr64]
        refine ⟨by omega, fun j hj => ?_⟩
        by_cases e : j = i
        · subst e; exact hx
        · exact h j (by omega)
      · simp (disch := omega) only [Ret_some, Ret_none, Ret_bind, Ret_asrt, Ret_cond, Sum.elim_inl, Sum.elim_inr, decide_eq_true_eq, decide_eq_false_iff_not, Bool.not_eq_true', Bool.not_not, Bool.and_eq_true, Bool.or_eq_true, Bool.true_eq_false, Bool.false_eq_true, Bool.not_true, Bool.not_false, if_true, if_false, ite_true, ite_false, true_and, and_true, false_and, and_false, Int.toNat_natCast, toN_succ, Int.ofNat_eq_natCast, Int.ofNat_toNat, Nat.zero_add, Nat.add_zero, not_true_eq_false, not_false_eq_true, implies_true, wr64]
        exact hx
  · rintro s ⟨rfl, h⟩
    unfold B24_15
    simp (disch := omega) only [Ret_some, Ret_none, Ret_bind, Ret_asrt, Ret_cond, Sum.elim_inl, Sum.elim_inr, decide_eq_true_eq, decide_eq_false_iff_not, Bool.not_eq_true', Bool.not_not, Bool.and_eq_true, Bool.or_eq_true, Bool.true_eq_false, Bool.false_eq_true, Bool.not_true, Bool.not_false, if_true, if_false, ite_true, ite_false, true_and, and_true, false_and, and_false, Int.toNat_natCast, toN_succ, Int.ofNat_eq_natCast, Int.ofNat_toNat, Nat.zero_add, Nat.add_zero, not_true_eq_false, not_false_eq_true, implies_true, wr64]
    rw [if_neg (by omega)]
    intro a ha
    obtain ⟨j, hj, rfl⟩ := mem_getD TChoice.d ha
    exact h j hj
theorem nodes_ok (a0 : TGraph) (hn : a0.ready.length ≤ 24) (h1 : a0.last.length = a0.ready.length) (h2 : a0.due.length = a0.ready.length) : Ret (L25_7 a0 0) fun x => match x with | .inl _ => ∀ v, v < a0.ready.length → 0 ≤ a0.ready.getD v 0 ∧ a0.ready.getD v 0 ≤ 28800 | .inr r => r ≠ 0 := by
  unfold L25_7
  refine Ret.loop a0.ready.length (fun i s => s = (i : Int) ∧ ∀ v, v < i → 0 ≤ a0.ready.getD v 0 ∧ a0.ready.getD v 0 ≤ 28800) ⟨rfl, fun j hj => by omega⟩ ?_ ?_
  · rintro i s hi ⟨rfl, h⟩
    unfold B25_7
    simp (disch := omega) only [Ret_some, Ret_none, Ret_bind, Ret_asrt, Ret_cond, Sum.elim_inl, Sum.elim_inr, decide_eq_true_eq, decide_eq_false_iff_not, Bool.not_eq_true', Bool.not_not, Bool.and_eq_true, Bool.or_eq_true, Bool.true_eq_false, Bool.false_eq_true, Bool.not_true, Bool.not_false, if_true, if_false, ite_true, ite_false, true_and, and_true, false_and, and_false, Int.toNat_natCast, toN_succ, Int.ofNat_eq_natCast, Int.ofNat_toNat, Nat.zero_add, Nat.add_zero, not_true_eq_false, not_false_eq_true, implies_true, wr64, F51_eq]
    rw [if_pos (by omega)]
    refine ⟨by omega, ?_⟩
    split
    · decide
    · refine ⟨by omega, ?_⟩
      split
      · decide
      · refine ⟨by omega, ?_⟩
        split
        · decide
        · refine ⟨by omega, fun v hv => ?_⟩
          by_cases e : v = i
          · subst e; omega
          · exact h v (by omega)
  · rintro s ⟨rfl, h⟩
    unfold B25_7
    simp (disch := omega) only [Ret_some, Ret_none, Ret_bind, Ret_asrt, Ret_cond, Sum.elim_inl, Sum.elim_inr, decide_eq_true_eq, decide_eq_false_iff_not, Bool.not_eq_true', Bool.not_not, Bool.and_eq_true, Bool.or_eq_true, Bool.true_eq_false, Bool.false_eq_true, Bool.not_true, Bool.not_false, if_true, if_false, ite_true, ite_false, true_and, and_true, false_and, and_false, Int.toNat_natCast, toN_succ, Int.ofNat_eq_natCast, Int.ofNat_toNat, Nat.zero_add, Nat.add_zero, not_true_eq_false, not_false_eq_true, implies_true, wr64]
    rw [if_neg (by omega)]
    exact h
structure GOk (g : TGraph) : Prop where
  gn : GN g
  du : g.due.length = g.ready.length
  al : g.arcs.length ≤ 250
  ar : ∀ a ∈ g.arcs, ArcOk g.ready.length a
  cl : g.choices.length ≤ 300
  ch : ∀ c ∈ g.choices, CsOk g.ready.length c
theorem F24_gok (a0 : TGraph) : Ret (F24 a0) fun r => r = 0 → GOk a0 := by
  unfold F24
  by_cases c1 : (24 : Int) < (a0.ready.length : Int)
  · simp [c1, Ret_some]
  · by_cases c2 : (250 : Int) < (a0.arcs.length : Int)
    · simp [c1, c2, Ret_some]
    · by_cases c3 : (300 : Int) < (a0.choices.length : Int)
      · simp [c1, c2, c3, Ret_some]
      · by_cases c4 : (a0.last.length : Int) = (a0.ready.length : Int)
        · by_cases c5 : (a0.due.length : Int) = (a0.ready.length : Int)
          · simp only [c1, c2, c3, c4, c5, decide_true, decide_false, Bool.not_true, cond_false]
            obtain ⟨x, hx, hx2⟩ := nodes_ok a0 (by omega) (by omega) (by omega)
            rw [L24_6_eq, hx]
            rcases x with ⟨⟩ | r
            · obtain ⟨y, hy, hy2⟩ := L62_ok a0 (by omega) a0.arcs (by omega)
              unfold F62
              rw [hy]
              simp only [Option.bind_some, Sum.elim_inl]
              rcases y with ⟨⟩ | q
              · obtain ⟨z, hz, hz2⟩ := choices_ok a0 (by omega) (by omega)
                rw [hz]
                simp only [Option.bind_some, Sum.elim_inl, decide_true, Bool.not_true, cond_false]
                rcases z with ⟨⟩ | t
                · exact Ret_some.2 fun _ => ⟨⟨by omega, by omega, fun v hv => (hx2 v hv).1, fun v hv => (hx2 v hv).2⟩, by omega, by omega, hy2, by omega, hz2⟩
                · exact Ret_some.2 fun h => absurd h hz2
              · simp only at hy2
                simp only [Option.bind_some, Sum.elim_inr, hy2, decide_false, Bool.not_false, cond_true]
                exact Ret_some.2 fun h => absurd h hy2
            · exact Ret_some.2 fun h => absurd h hx2
          · simp [c1, c2, c3, c4, c5, Ret_some]
        · simp [c1, c2, c3, c4, Ret_some]
theorem graph_ret (a0 : TGraph) : ∃ r, F24 a0 = some r ∧ F25 a0 = some r ∧ (r = 0 → GOk a0) := by
  obtain ⟨r, h1, h2, h3⟩ := (F24_ret a0).and (F24_gok a0)
  exact ⟨r, h1, h2, h3⟩
/-! ### the solver of a graph, and of what is chosen -/
theorem L78_3_ret {g : TGraph} {s : TSolver} (hg : GN g) (hs : s.times = g.ready) :
    Ret (L78_3 g s 0) fun x => match x with
      | .inl _ => ∀ v, v < g.ready.length → 0 ≤ g.last.getD v 0 → g.ready.getD v 0 ≤ g.last.getD v 0
      | .inr r => r = (none, false) ∧ ∃ v, v < g.ready.length ∧ 0 ≤ g.last.getD v 0 ∧ g.last.getD v 0 < g.ready.getD v 0 := by
  have hn := hg.n
  have hl := hg.ll
  unfold L78_3
  refine Ret.loop g.ready.length (fun i s => s = (i : Int) ∧ ∀ v, v < i → 0 ≤ g.last.getD v 0 → g.ready.getD v 0 ≤ g.last.getD v 0) ⟨rfl, fun j hj => by omega⟩ ?_ ?_
  · rintro i q hi ⟨rfl, h⟩
    unfold B78_3
    rw [hs]
    simp (disch := omega) only [Ret_some, Ret_none, Ret_bind, Ret_asrt, Ret_cond, Sum.elim_inl, Sum.elim_inr, decide_eq_true_eq, decide_eq_false_iff_not, Bool.not_eq_true', Bool.not_not, Bool.and_eq_true, Bool.or_eq_true, Bool.true_eq_false, Bool.false_eq_true, Bool.not_true, Bool.not_false, if_true, if_false, ite_true, ite_false, true_and, and_true, false_and, and_false, Int.toNat_natCast, toN_succ, Int.ofNat_eq_natCast, Int.ofNat_toNat, Nat.zero_add, Nat.add_zero, not_true_eq_false, not_false_eq_true, implies_true, wr64]
    rw [if_pos (by omega)]
    refine ⟨by omega, by omega, ?_⟩
    split
    · split
      · exact ⟨i, hi, by omega, by omega⟩
      · refine ⟨by omega, fun v hv => ?_⟩
        by_cases e : v = i
        · subst e; intro _; omega
        · exact h v (by omega)
    · refine ⟨by omega, fun v hv => ?_⟩
      by_cases e : v = i
      · subst e; intro _; omega
      · exact h v (by omega)
  · rintro q ⟨rfl, h⟩
    unfold B78_3
    rw [hs]
    simp (disch := omega) only [Ret_some, Ret_none, Ret_bind, Ret_asrt, Ret_cond, Sum.elim_inl, Sum.elim_inr, decide_eq_true_eq, decide_eq_false_iff_not, Bool.not_eq_true', Bool.not_not, Bool.and_eq_true, Bool.or_eq_true, Bool.true_eq_false, Bool.false_eq_true, Bool.not_true, Bool.not_false, if_true, if_false, ite_true, ite_false, true_and, and_true, false_and, and_false, Int.toNat_natCast, toN_succ, Int.ofNat_eq_natCast, Int.ofNat_toNat, Nat.zero_add, Nat.add_zero, not_true_eq_false, not_false_eq_true, implies_true, wr64]
    rw [if_neg (by omega)]
    exact h
theorem F78_ret {g : TGraph} (hg : GOk g) : Ret (F78 g) fun r => (r.2 = true ∧ ∃ s, r.1 = some s ∧ Sol g g.arcs s) ∨ (r.2 = false ∧ ¬ Feas g g.arcs) := by
  have hn := hg.gn.n
  unfold F78
  simp only [F67_eq (l := g.ready) (by omega), Option.bind_some, Int.toNat_natCast]
  simp (disch := omega) only [Ret_some, Ret_none, Ret_bind, Ret_asrt, Ret_cond, Sum.elim_inl, Sum.elim_inr, decide_eq_true_eq, decide_eq_false_iff_not, Bool.not_eq_true', Bool.not_not, Bool.and_eq_true, Bool.or_eq_true, Bool.true_eq_false, Bool.false_eq_true, Bool.not_true, Bool.not_false, if_true, if_false, ite_true, ite_false, true_and, and_true, false_and, and_false, Int.toNat_natCast, toN_succ, Int.ofNat_eq_natCast, Int.ofNat_toNat, Nat.zero_add, Nat.add_zero, not_true_eq_false, not_false_eq_true, implies_true, wr64]
  refine ⟨⟨by omega, by omega, by omega, by omega⟩, ?_⟩
  refine (L78_3_ret hg.gn rfl).mono fun x hx => ?_
  rcases x with ⟨⟩ | r
  · simp (disch := omega) only [Ret_some, Ret_none, Ret_bind, Ret_asrt, Ret_cond, Sum.elim_inl, Sum.elim_inr, decide_eq_true_eq, decide_eq_false_iff_not, Bool.not_eq_true', Bool.not_not, Bool.and_eq_true, Bool.or_eq_true, Bool.true_eq_false, Bool.false_eq_true, Bool.not_true, Bool.not_false, if_true, if_false, ite_true, ite_false, true_and, and_true, false_and, and_false, Int.toNat_natCast, toN_succ, Int.ofNat_eq_natCast, Int.ofNat_toNat, Nat.zero_add, Nat.add_zero, not_true_eq_false, not_false_eq_true, implies_true, wr64]
    have h0 : Sol g [] ⟨g.ready, g.last, List.replicate g.ready.length []⟩ := by
      refine ⟨rfl, rfl, by simp, fun v hv => by rw [getD_rep hv]; rfl, fun a ha => by simp [E3] at ha, fun v _ => Int.le_refl _, fun S _ h v hv => h v hv, hx, fun v hv => ?_⟩
      have := hg.gn.r1 v hv
      show g.ready.getD v 0 ≤ _
      omega
    have al := hg.al
    have := F68_ret (V := g.arcs) hg.gn h0 (by simpa using hg.ar) (by rw [List.nil_append]; omega)
    rw [List.nil_append] at this
    refine this.mono fun r h => ?_
    exact h
  · obtain ⟨rfl, v, hv, h1, h2⟩ := hx
    simp (disch := omega) only [Ret_some, Ret_none, Ret_bind, Ret_asrt, Ret_cond, Sum.elim_inl, Sum.elim_inr, decide_eq_true_eq, decide_eq_false_iff_not, Bool.not_eq_true', Bool.not_not, Bool.and_eq_true, Bool.or_eq_true, Bool.true_eq_false, Bool.false_eq_true, Bool.not_true, Bool.not_false, if_true, if_false, ite_true, ite_false, true_and, and_true, false_and, and_false, Int.toNat_natCast, toN_succ, Int.ofNat_eq_natCast, Int.ofNat_toNat, Nat.zero_add, Nat.add_zero, not_true_eq_false, not_false_eq_true, implies_true, wr64]
    refine .inr fun ⟨S, _, s1, s2⟩ => ?_
    have := s1 v hv
    have := s2 v hv h1
    omega
def pk (g : TGraph) (p : List Int) : Nat → List TArc
  | 0 => g.arcs
  | i + 1 => pk g p i ++ if 0 < p.getD i 0 then (g.choices.getD i TChoice.d).ways.getD (p.getD i 0 - 1).toNat [] else []
structure PkOk (g : TGraph) (p : List Int) : Prop where
  l : p.length = g.choices.length
  ge : ∀ i, i < p.length → 0 ≤ p.getD i 0
  le : ∀ i, i < p.length → p.getD i 0 ≤ ((g.choices.getD i TChoice.d).ways.length : Int)
theorem pk_way {g : TGraph} {p : List Int} (hg : GOk g) (hp : PkOk g p) {i : Nat} (hi : i < p.length) (h0 : 0 < p.getD i 0) :
    ((g.choices.getD i TChoice.d).ways.getD (p.getD i 0 - 1).toNat []).length ≤ 4 ∧ ∀ a ∈ (g.choices.getD i TChoice.d).ways.getD (p.getD i 0 - 1).toNat [], ArcOk g.ready.length a := by
  have h1 := hp.l
  have h2 := hp.le i hi
  exact (hg.ch _ (getD_mem (by omega))).2 _ (getD_mem (by omega))
theorem pk_ok {g : TGraph} {p : List Int} (hg : GOk g) (hp : PkOk g p) : ∀ {i : Nat}, i ≤ p.length → (∀ a ∈ pk g p i, ArcOk g.ready.length a) ∧ (pk g p i).length ≤ 250 + 4 * i
  | 0, _ => ⟨hg.ar, by have := hg.al; simpa [pk] using this⟩
  | i + 1, hi => by
    obtain ⟨h1, h2⟩ := pk_ok hg hp (i := i) (by omega)
    simp only [pk]
    by_cases c : 0 < p.getD i 0
    · obtain ⟨h3, h4⟩ := pk_way hg hp (by omega) c
      rw [if_pos c]
      refine ⟨fun a ha => ?_, ?_⟩
      · rcases List.mem_append.1 ha with ha | ha
        · exact h1 a ha
        · exact h4 a ha
      · rw [List.length_append]; omega
    · rw [if_neg c, List.append_nil]
      exact ⟨h1, by omega⟩
theorem F68b_eq (s : TSolver) (V : List TArc) : F68b (some s) V = F68 s V := rfl
/-! ### the solver of what is chosen -/
theorem F81_ret {g : TGraph} {p : List Int} (hg : GOk g) (hp : PkOk g p) : Ret (F81 g p) fun r => (r.2 = true ∧ ∃ s, r.1 = some s ∧ Sol g (pk g p p.length) s) ∨ (r.2 = false ∧ ¬ Feas g (pk g p p.length)) := by
  have hcl := hg.cl
  have hpl := hp.l
  unfold F81
  simp (disch := omega) only [Ret_some, Ret_none, Ret_bind, Ret_asrt, Ret_cond, Sum.elim_inl, Sum.elim_inr, decide_eq_true_eq, decide_eq_false_iff_not, Bool.not_eq_true', Bool.not_not, Bool.and_eq_true, Bool.or_eq_true, Bool.true_eq_false, Bool.false_eq_true, Bool.not_true, Bool.not_false, if_true, if_false, ite_true, ite_false, true_and, and_true, false_and, and_false, Int.toNat_natCast, toN_succ, Int.ofNat_eq_natCast, Int.ofNat_toNat, Nat.zero_add, Nat.add_zero, not_true_eq_false, not_false_eq_true, implies_true, wr64]
  refine (F78_ret hg).mono fun r h => ?_
  obtain ⟨r1, r2⟩ := r
  simp only at h ⊢
  unfold L81_3
  refine Ret.loop p.length (fun i s => s.2.2 = (i : Int) ∧ ((s.2.1 = true ∧ ∃ t, s.1 = some t ∧ Sol g (pk g p i) t) ∨ (s.2.1 = false ∧ ¬ Feas g (pk g p i)))) ⟨rfl, h⟩ ?_ ?_
  · rintro i ⟨x, b, y⟩ hi ⟨rfl, h⟩
    simp only at h
    have hge := hp.ge i hi
    have hle := hp.le i hi
    obtain ⟨k1, k2⟩ := pk_ok hg hp (i := i + 1) (by omega)
    unfold B81_3
    by_cases c : 0 < p.getD i 0
    · have hwl := (hg.ch _ (getD_mem (l := g.choices) (i := i) (d := TChoice.d) (by omega)))
      simp only [pk, if_pos c] at k1 k2 ⊢
      rcases h with ⟨rfl, t, rfl, h⟩ | ⟨rfl, h⟩
      · simp (disch := omega) only [Ret_some, Ret_none, Ret_bind, Ret_asrt, Ret_cond, Sum.elim_inl, Sum.elim_inr, decide_eq_true_eq, decide_eq_false_iff_not, Bool.not_eq_true', Bool.not_not, Bool.and_eq_true, Bool.or_eq_true, Bool.true_eq_false, Bool.false_eq_true, Bool.not_true, Bool.not_false, if_true, if_false, ite_true, ite_false, true_and, and_true, false_and, and_false, Int.toNat_natCast, toN_succ, Int.ofNat_eq_natCast, Int.ofNat_toNat, Nat.zero_add, Nat.add_zero, not_true_eq_false, not_false_eq_true, implies_true, wr64, F68b_eq]
        rw [if_pos (by omega), if_pos c]
        have hw : IntKind.wrap .i64 (p.getD i 0 - 1) = p.getD i 0 - 1 := by
          refine wr64 (by omega) ?_
          have := hwl.1
          omega
        rw [hw]
        refine ⟨by omega, by omega, by omega, ?_⟩
        have := F68_ret hg.gn h k1 (by omega)
        refine this.mono fun r h => ?_
        exact ⟨by omega, h⟩
      · simp (disch := omega) only [Ret_some, Ret_none, Ret_bind, Ret_asrt, Ret_cond, Sum.elim_inl, Sum.elim_inr, decide_eq_true_eq, decide_eq_false_iff_not, Bool.not_eq_true', Bool.not_not, Bool.and_eq_true, Bool.or_eq_true, Bool.true_eq_false, Bool.false_eq_true, Bool.not_true, Bool.not_false, if_true, if_false, ite_true, ite_false, true_and, and_true, false_and, and_false, Int.toNat_natCast, toN_succ, Int.ofNat_eq_natCast, Int.ofNat_toNat, Nat.zero_add, Nat.add_zero, not_true_eq_false, not_false_eq_true, implies_true, wr64]
        rw [if_pos (by omega)]
        exact ⟨by omega, by omega, .inr fun q => h (Feas.sub q)⟩
    · simp only [pk, if_neg c, List.append_nil]
      rcases h with ⟨rfl, t, rfl, h⟩ | ⟨rfl, h⟩
      · simp (disch := omega) only [Ret_some, Ret_none, Ret_bind, Ret_asrt, Ret_cond, Sum.elim_inl, Sum.elim_inr, decide_eq_true_eq, decide_eq_false_iff_not, Bool.not_eq_true', Bool.not_not, Bool.and_eq_true, Bool.or_eq_true, Bool.true_eq_false, Bool.false_eq_true, Bool.not_true, Bool.not_false, if_true, if_false, ite_true, ite_false, true_and, and_true, false_and, and_false, Int.toNat_natCast, toN_succ, Int.ofNat_eq_natCast, Int.ofNat_toNat, Nat.zero_add, Nat.add_zero, not_true_eq_false, not_false_eq_true, implies_true, wr64]
        rw [if_pos (by omega), if_neg c]
        exact ⟨by omega, by omega, .inl ⟨t, rfl, h⟩⟩
      · simp (disch := omega) only [Ret_some, Ret_none, Ret_bind, Ret_asrt, Ret_cond, Sum.elim_inl, Sum.elim_inr, decide_eq_true_eq, decide_eq_false_iff_not, Bool.not_eq_true', Bool.not_not, Bool.and_eq_true, Bool.or_eq_true, Bool.true_eq_false, Bool.false_eq_true, Bool.not_true, Bool.not_false, if_true, if_false, ite_true, ite_false, true_and, and_true, false_and, and_false, Int.toNat_natCast, toN_succ, Int.ofNat_eq_natCast, Int.ofNat_toNat, Nat.zero_add, Nat.add_zero, not_true_eq_false, not_false_eq_true, implies_true, wr64]
        rw [if_pos (by omega)]
        exact ⟨by omega, by omega, .inr h⟩
  · rintro ⟨x, b, y⟩ ⟨rfl, h⟩
    unfold B81_3
    simp (disch := omega) only [Ret_some, Ret_none, Ret_bind, Ret_asrt, Ret_cond, Sum.elim_inl, Sum.elim_inr, decide_eq_true_eq, decide_eq_false_iff_not, Bool.not_eq_true', Bool.not_not, Bool.and_eq_true, Bool.or_eq_true, Bool.true_eq_false, Bool.false_eq_true, Bool.not_true, Bool.not_false, if_true, if_false, ite_true, ite_false, true_and, and_true, false_and, and_false, Int.toNat_natCast, toN_succ, Int.ofNat_eq_natCast, Int.ofNat_toNat, Nat.zero_add, Nat.add_zero, not_true_eq_false, not_false_eq_true, implies_true, wr64]
    rw [if_neg (by omega)]
    exact h
/-! ### what is wrong with a choice -/
theorem L79_7_ret {g : TGraph} {p : List Int} (hl : p.length = g.choices.length) (hc : g.choices.length ≤ 300) : Ret (L79_7 g p 0) fun x => (x = .inl () ∧ PkOk g p) ∨ (x = .inr 2 ∧ ¬ PkOk g p) := by
  unfold L79_7
  refine Ret.loop p.length (fun i s => s = (i : Int) ∧ ∀ j, j < i → 0 ≤ p.getD j 0 ∧ p.getD j 0 ≤ ((g.choices.getD j TChoice.d).ways.length : Int)) ⟨rfl, fun j hj => by omega⟩ ?_ ?_
  · rintro i q hi ⟨rfl, h⟩
    unfold B79_7
    simp (disch := omega) only [Ret_some, Ret_none, Ret_bind, Ret_asrt, Ret_cond, Sum.elim_inl, Sum.elim_inr, decide_eq_true_eq, decide_eq_false_iff_not, Bool.not_eq_true', Bool.not_not, Bool.and_eq_true, Bool.or_eq_true, Bool.true_eq_false, Bool.false_eq_true, Bool.not_true, Bool.not_false, if_true, if_false, ite_true, ite_false, true_and, and_true, false_and, and_false, Int.toNat_natCast, toN_succ, Int.ofNat_eq_natCast, Int.ofNat_toNat, Nat.zero_add, Nat.add_zero, not_true_eq_false, not_false_eq_true, implies_true, wr64, F54_eq]
    rw [if_pos (by omega)]
    refine ⟨by omega, by omega, ?_⟩
    split
    · refine .inr fun q => ?_
      have h1 := q.ge i hi
      have h2 := q.le i hi
      omega
    · refine ⟨by omega, fun j hj => ?_⟩
      by_cases e : j = i
      · subst e; omega
      · exact h j (by omega)
  · rintro q ⟨rfl, h⟩
    unfold B79_7
    simp (disch := omega) only [Ret_some, Ret_none, Ret_bind, Ret_asrt, Ret_cond, Sum.elim_inl, Sum.elim_inr, decide_eq_true_eq, decide_eq_false_iff_not, Bool.not_eq_true', Bool.not_not, Bool.and_eq_true, Bool.or_eq_true, Bool.true_eq_false, Bool.false_eq_true, Bool.not_true, Bool.not_false, if_true, if_false, ite_true, ite_false, true_and, and_true, false_and, and_false, Int.toNat_natCast, toN_succ, Int.ofNat_eq_natCast, Int.ofNat_toNat, Nat.zero_add, Nat.add_zero, not_true_eq_false, not_false_eq_true, implies_true, wr64]
    rw [if_neg (by omega)]
    exact .inl ⟨hl, fun i hi => (h i hi).1, fun i hi => (h i hi).2⟩
theorem L41_7_ret {g : TGraph} {p : List Int} (hl : p.length = g.choices.length) (hc : g.choices.length ≤ 300) : Ret (L41_7 g p 0) fun x => (x = .inl () ∧ PkOk g p) ∨ (x = .inr 2 ∧ ¬ PkOk g p) := by
  unfold L41_7
  refine Ret.loop p.length (fun i s => s = (i : Int) ∧ ∀ j, j < i → 0 ≤ p.getD j 0 ∧ p.getD j 0 ≤ ((g.choices.getD j TChoice.d).ways.length : Int)) ⟨rfl, fun j hj => by omega⟩ ?_ ?_
  · rintro i q hi ⟨rfl, h⟩
    unfold B41_7
    simp (disch := omega) only [Ret_some, Ret_none, Ret_bind, Ret_asrt, Ret_cond, Sum.elim_inl, Sum.elim_inr, decide_eq_true_eq, decide_eq_false_iff_not, Bool.not_eq_true', Bool.not_not, Bool.and_eq_true, Bool.or_eq_true, Bool.true_eq_false, Bool.false_eq_true, Bool.not_true, Bool.not_false, if_true, if_false, ite_true, ite_false, true_and, and_true, false_and, and_false, Int.toNat_natCast, toN_succ, Int.ofNat_eq_natCast, Int.ofNat_toNat, Nat.zero_add, Nat.add_zero, not_true_eq_false, not_false_eq_true, implies_true, wr64]
    rw [if_pos (by omega)]
    refine ⟨by omega, ?_⟩
    split
    · refine .inr fun q => ?_
      have h1 := q.ge i hi
      omega
    · refine ⟨by omega, ?_⟩
      split
      · refine .inr fun q => ?_
        have h1 := q.le i hi
        omega
      · refine ⟨by omega, fun j hj => ?_⟩
        by_cases e : j = i
        · subst e; omega
        · exact h j (by omega)
  · rintro q ⟨rfl, h⟩
    unfold B41_7
    simp (disch := omega) only [Ret_some, Ret_none, Ret_bind, Ret_asrt, Ret_cond, Sum.elim_inl, Sum.elim_inr, decide_eq_true_eq, decide_eq_false_iff_not, Bool.not_eq_true', Bool.not_not, Bool.and_eq_true, Bool.or_eq_true, Bool.true_eq_false, Bool.false_eq_true, Bool.not_true, Bool.not_false, if_true, if_false, ite_true, ite_false, true_and, and_true, false_and, and_false, Int.toNat_natCast, toN_succ, Int.ofNat_eq_natCast, Int.ofNat_toNat, Nat.zero_add, Nat.add_zero, not_true_eq_false, not_false_eq_true, implies_true, wr64]
    rw [if_neg (by omega)]
    exact .inl ⟨hl, fun i hi => (h i hi).1, fun i hi => (h i hi).2⟩
theorem pick_ret (g : TGraph) (p : List Int) : ∃ r, F79 g p = some r ∧ F41 g p = some r ∧ (r = 0 → GOk g ∧ PkOk g p) := by
  obtain ⟨r, h1, h2, h3⟩ := graph_ret g
  unfold F79 F41
  rw [h1, h2]
  simp only [Option.bind_some]
  by_cases c : r = 0
  · have hg := h3 c
    by_cases c2 : (p.length : Int) = (g.choices.length : Int)
    · obtain ⟨x, x1, x2⟩ := L79_7_ret (g := g) (p := p) (by omega) hg.cl
      obtain ⟨y, y1, y2⟩ := L41_7_ret (g := g) (p := p) (by omega) hg.cl
      rw [x1, y1]
      simp only [c, c2, decide_true, Bool.not_true, cond_false, Option.bind_some]
      rcases x2 with ⟨rfl, x2⟩ | ⟨rfl, x2⟩
      · rcases y2 with ⟨rfl, y2⟩ | ⟨rfl, y2⟩
        · exact ⟨0, rfl, rfl, fun _ => ⟨hg, x2⟩⟩
        · exact absurd x2 y2
      · rcases y2 with ⟨rfl, y2⟩ | ⟨rfl, y2⟩
        · exact absurd y2 x2
        · exact ⟨2, rfl, rfl, fun h => by omega⟩
    · exact ⟨1, by simp [c, c2], by simp [c, c2], fun h => by omega⟩
  · exact ⟨r, by simp [c], by simp [c], fun h => absurd h c⟩
/-! ### the times, by passes over all arcs: the choice is a row -/
theorem getD_set_arc {t : List Int} {n : Nat} {a : TArc} (ht : t.length = n) (ha : ArcOk n a) {x : Int} {v : Nat} : (t.set a.to0.toNat x).getD v 0 = if a.to0.toNat = v then x else t.getD v 0 := by
  rw [lgetD_set]
  have := ha.t0
  have := ha.t1
  by_cases c : a.to0.toNat = v
  · rw [if_pos ⟨c, by omega⟩, if_pos c]
  · rw [if_neg (fun q => c q.1), if_neg c]
structure Mid (n : Nat) (E : List TArc) (x0 : Nat → Int) (k : Nat) (T : Int) (t : List Int) : Prop where
  len : t.length = n
  ge : ∀ v, v < n → its (E3 E) x0 k v ≤ t.getD v 0
  t0 : ∀ v, v < n → 0 ≤ t.getD v 0
  t1 : ∀ v, v < n → t.getD v 0 ≤ T
  le : ∀ S, Keeps (E3 E) S → (∀ v, v < n → x0 v ≤ S v) → ∀ v, v < n → t.getD v 0 ≤ S v
theorem L43_13_ret {n : Nat} {E : List TArc} {x0 : Nat → Int} {k : Nat} {T : Int} {t : List Int} (hE : ∀ a ∈ E, ArcOk n a) (hl : E.length ≤ 2000) (hT : T ≤ 1000000000000) (h : Mid n E x0 k T t) :
    Ret (L43_13 E (false, 0, t)) fun r => Mid n E x0 (k + 1) (T + 28800 * 2000) r.2 ∧ (Keeps (E3 E) (fun v => t.getD v 0) → r.1 = false) ∧ (r.1 = false → Keeps (E3 E) fun v => r.2.getD v 0) := by
  unfold L43_13
  refine Ret.loop E.length (fun i s => s.2.1 = (i : Int) ∧ (Mid n E x0 k (T + 28800 * i) s.2.2) ∧ (∀ j, j < i → its (E3 E) x0 k (E.getD j TArc.d).from0.toNat + (E.getD j TArc.d).len ≤ s.2.2.getD (E.getD j TArc.d).to0.toNat 0) ∧ (Keeps (E3 E) (fun v => t.getD v 0) → s.1 = false ∧ s.2.2 = t) ∧ (s.1 = false → ∀ j, j < i → s.2.2.getD (E.getD j TArc.d).from0.toNat 0 + (E.getD j TArc.d).len ≤ s.2.2.getD (E.getD j TArc.d).to0.toNat 0))
    ⟨rfl, by simpa using h, fun j hj => by omega, fun _ => ⟨rfl, rfl⟩, fun _ j hj => by omega⟩ ?_ ?_
  · rintro i ⟨b, y, m⟩ hi ⟨rfl, h1, h2, h3, h4⟩
    simp only at h1 h2 h3 h4
    have ha := hE _ (getD_mem (d := TArc.d) hi)
    have hmem := getD_mem (d := TArc.d) hi
    generalize hae : E.getD i TArc.d = a at *
    have f0 := ha.f0
    have f1 := ha.f1
    have u0 := ha.t0
    have u1 := ha.t1
    have l0 := ha.l0
    have l1 := ha.l1
    have g1 := h1.len
    have s1 := h1.t1 a.from0.toNat (by omega)
    have s0 := h1.t0 a.from0.toNat (by omega)
    have s2 := h1.ge a.from0.toNat (by omega)
    have hw : IntKind.wrap .i64 (m.getD a.from0.toNat 0 + a.len) = m.getD a.from0.toNat 0 + a.len := wr64 (by omega) (by omega)
    unfold B43_13
    simp only [Int.toNat_natCast, hae]
    simp (disch := omega) only [Ret_some, Ret_none, Ret_bind, Ret_asrt, Ret_cond, Sum.elim_inl, Sum.elim_inr, decide_eq_true_eq, decide_eq_false_iff_not, Bool.not_eq_true', Bool.not_not, Bool.and_eq_true, Bool.or_eq_true, Bool.true_eq_false, Bool.false_eq_true, Bool.not_true, Bool.not_false, if_true, if_false, ite_true, ite_false, true_and, and_true, false_and, and_false, Int.toNat_natCast, toN_succ, Int.ofNat_eq_natCast, Int.ofNat_toNat, Nat.zero_add, Nat.add_zero, not_true_eq_false, not_false_eq_true, implies_true, wr64, hw, g1]
    rw [if_pos (by omega)]
    refine ⟨by omega, ⟨f0, f1⟩, by omega, ⟨u0, u1⟩, by omega, ?_⟩
    split
    · rename_i c
      refine ⟨by omega, ⟨by simp [g1], fun v hv => ?_, fun v hv => ?_, fun v hv => ?_, fun S hS hx v hv => ?_⟩, fun j hj => ?_, fun q => ?_, fun q => q.elim⟩
      · rw [getD_set_arc g1 ha]
        have := h1.ge v hv
        split
        · rename_i e; subst e; omega
        · exact this
      · rw [getD_set_arc g1 ha]
        have := h1.t0 v hv
        split
        · rename_i e; subst e; omega
        · exact this
      · rw [getD_set_arc g1 ha]
        have := h1.t1 v hv
        split
        · omega
        · omega
      · rw [getD_set_arc g1 ha]
        have := h1.le S hS hx v hv
        split
        · rename_i e; subst e
          have h5 := h1.le S hS hx a.from0.toNat (by omega)
          have h6 := E3_keeps hS hmem
          omega
        · exact this
      · rw [getD_set_arc g1 ha]
        by_cases e : j = i
        · subst e
          rw [hae, if_pos rfl]
          omega
        · have := h2 j (by omega)
          split
          · rename_i e2; rw [← e2] at this; omega
          · exact this
      · obtain ⟨_, rfl⟩ := h3 q
        have := E3_keeps q hmem
        omega
    · rename_i c
      refine ⟨by omega, ⟨h1.len, h1.ge, h1.t0, fun v hv => ?_, h1.le⟩, fun j hj => ?_, h3, fun q j hj => ?_⟩
      · have := h1.t1 v hv; omega
      · by_cases e : j = i
        · subst e
          rw [hae]; omega
        · exact h2 j (by omega)
      · by_cases e : j = i
        · subst e
          rw [hae]; omega
        · exact h4 q j (by omega)
  · rintro ⟨b, y, m⟩ ⟨rfl, h1, h2, h3, h4⟩
    simp only at h1 h2 h3 h4
    unfold B43_13
    simp (disch := omega) only [Ret_some, Ret_none, Ret_bind, Ret_asrt, Ret_cond, Sum.elim_inl, Sum.elim_inr, decide_eq_true_eq, decide_eq_false_iff_not, Bool.not_eq_true', Bool.not_not, Bool.and_eq_true, Bool.or_eq_true, Bool.true_eq_false, Bool.false_eq_true, Bool.not_true, Bool.not_false, if_true, if_false, ite_true, ite_false, true_and, and_true, false_and, and_false, Int.toNat_natCast, toN_succ, Int.ofNat_eq_natCast, Int.ofNat_toNat, Nat.zero_add, Nat.add_zero, not_true_eq_false, not_false_eq_true, implies_true, wr64]
    rw [if_neg (by omega)]
    refine ⟨⟨h1.len, fun v hv => up_le (h1.ge v hv) fun a ha e => ?_, h1.t0, fun v hv => ?_, h1.le⟩, fun q => (h3 q).1, fun q a ha => ?_⟩
    · obtain ⟨b, hb, rfl⟩ := List.mem_map.1 ha
      obtain ⟨j, hj, rfl⟩ := mem_getD TArc.d hb
      rw [← e]
      exact h2 j hj
    · have := h1.t1 v hv; omega
    · obtain ⟨b, hb, rfl⟩ := List.mem_map.1 ha
      obtain ⟨j, hj, rfl⟩ := mem_getD TArc.d hb
      exact h4 q j hj
theorem L43_11_ret {n : Nat} {m0 : List Int} {E : List TArc} {t0 : List Int} (hn : n ≤ 24) (hE : ∀ a ∈ E, ArcOk n a) (hl : E.length ≤ 2000) (ht : t0.length = n) (h0 : ∀ v, v < n → 0 ≤ t0.getD v 0) (h1 : ∀ v, v < n → t0.getD v 0 ≤ 28800) :
    Ret (L43_11 m0 E (0, t0)) fun x => match x with
      | .inl t => t.length = n ∧ Keeps (E3 E) (fun v => t.getD v 0) ∧ (∀ v, v < n → t0.getD v 0 ≤ t.getD v 0) ∧ ∀ S, Keeps (E3 E) S → (∀ v, v < n → t0.getD v 0 ≤ S v) → ∀ v, v < n → t.getD v 0 ≤ S v
      | .inr r => r = (([], false), m0) ∧ ¬ ∃ S, Keeps (E3 E) S ∧ ∀ v, v < n → t0.getD v 0 ≤ S v := by
  have hin := E3_inN hE
  unfold L43_11
  refine Ret.while (fun s => ∃ k : Nat, s.1 = (k : Int) ∧ k ≤ n + 1 ∧ Mid n E (fun v => t0.getD v 0) k (28800 + 28800 * 2000 * k) s.2) (fun s => n + 2 - s.1.toNat) ⟨0, rfl, by omega, ht, fun v hv => Int.le_refl _, h0, fun v hv => by have := h1 v hv; simpa using this, fun S _ h => h⟩ ?_
  rintro ⟨y, t⟩ ⟨k, rfl, hk, hm⟩
  simp only at hm
  unfold B43_11
  simp (disch := omega) only [Ret_some, Ret_none, Ret_bind, Ret_asrt, Ret_cond, Sum.elim_inl, Sum.elim_inr, decide_eq_true_eq, decide_eq_false_iff_not, Bool.not_eq_true', Bool.not_not, Bool.and_eq_true, Bool.or_eq_true, Bool.true_eq_false, Bool.false_eq_true, Bool.not_true, Bool.not_false, if_true, if_false, ite_true, ite_false, true_and, and_true, false_and, and_false, Int.toNat_natCast, toN_succ, Int.ofNat_eq_natCast, Int.ofNat_toNat, Nat.zero_add, Nat.add_zero, not_true_eq_false, not_false_eq_true, implies_true, wr64]
  refine (L43_13_ret hE hl (by omega) hm).mono fun r ⟨q1, q2, q3⟩ => ?_
  obtain ⟨b, m⟩ := r
  simp only at q1 q2 q3
  have hml := q1.len
  cases b with
  | false =>
    simp (disch := omega) only [Ret_some, Ret_none, Ret_bind, Ret_asrt, Ret_cond, Sum.elim_inl, Sum.elim_inr, decide_eq_true_eq, decide_eq_false_iff_not, Bool.not_eq_true', Bool.not_not, Bool.and_eq_true, Bool.or_eq_true, Bool.true_eq_false, Bool.false_eq_true, Bool.not_true, Bool.not_false, if_true, if_false, ite_true, ite_false, true_and, and_true, false_and, and_false, Int.toNat_natCast, toN_succ, Int.ofNat_eq_natCast, Int.ofNat_toNat, Nat.zero_add, Nat.add_zero, not_true_eq_false, not_false_eq_true, implies_true, wr64]
    exact ⟨hml, q3 rfl, fun v hv => Int.le_trans (its_mono (E3 E) (fun v => t0.getD v 0) v (Nat.zero_le (k + 1))) (q1.ge v hv), q1.le⟩
  | true =>
    simp (disch := omega) only [Ret_some, Ret_none, Ret_bind, Ret_asrt, Ret_cond, Sum.elim_inl, Sum.elim_inr, decide_eq_true_eq, decide_eq_false_iff_not, Bool.not_eq_true', Bool.not_not, Bool.and_eq_true, Bool.or_eq_true, Bool.true_eq_false, Bool.false_eq_true, Bool.not_true, Bool.not_false, if_true, if_false, ite_true, ite_false, true_and, and_true, false_and, and_false, Int.toNat_natCast, toN_succ, Int.ofNat_eq_natCast, Int.ofNat_toNat, Nat.zero_add, Nat.add_zero, not_true_eq_false, not_false_eq_true, implies_true, wr64, hml]
    split
    · rename_i c
      refine fun ⟨S, s1, s2⟩ => ?_
      have hconv := its_conv (x := fun v => t0.getD v 0) hin s1 s2
      have hL : Keeps (E3 E) (its (E3 E) (fun v => t0.getD v 0) n) := fun a ha => Int.le_trans (up_arc ha) (hconv (n + 1) a.2.1 (hin a ha).2)
      have hte : ∀ v, v < n → t.getD v 0 = its (E3 E) (fun v => t0.getD v 0) n v := fun v hv => by
        have e1 := hm.le _ hL (fun v hv => its_mono (E3 E) (fun v => t0.getD v 0) v (Nat.zero_le n)) v hv
        have e2 := hm.ge v hv
        have e3 := its_mono (E3 E) (fun v => t0.getD v 0) v (show n ≤ k by omega)
        omega
      have := q2 fun a ha => by
        show t.getD a.1 0 + a.2.2 ≤ t.getD a.2.1 0
        rw [hte _ (hin a ha).1, hte _ (hin a ha).2]
        exact hL a ha
      simp at this
    · refine ⟨⟨k + 1, by omega, by omega, ?_⟩, by omega⟩
      have e : (28800 + 28800 * 2000 * (k : Int) + 28800 * 2000) = (28800 + 28800 * 2000 * ((k + 1 : Nat) : Int)) := by omega
      rw [← e]
      exact q1
theorem L43_23_ret {g : TGraph} {m0 t : List Int} (hg : GN g) (ht : t.length = g.ready.length) :
    Ret (L43_23 g m0 t 0) fun x => match x with
      | .inl _ => ∀ v, v < g.ready.length → 0 ≤ g.last.getD v 0 → t.getD v 0 ≤ g.last.getD v 0
      | .inr r => r = (([], false), m0) ∧ ∃ v, v < g.ready.length ∧ 0 ≤ g.last.getD v 0 ∧ g.last.getD v 0 < t.getD v 0 := by
  have hn := hg.n
  have hl := hg.ll
  unfold L43_23
  refine Ret.loop g.ready.length (fun i s => s = (i : Int) ∧ ∀ v, v < i → 0 ≤ g.last.getD v 0 → t.getD v 0 ≤ g.last.getD v 0) ⟨rfl, fun j hj => by omega⟩ ?_ ?_
  · rintro i q hi ⟨rfl, h⟩
    unfold B43_23
    simp (disch := omega) only [Ret_some, Ret_none, Ret_bind, Ret_asrt, Ret_cond, Sum.elim_inl, Sum.elim_inr, decide_eq_true_eq, decide_eq_false_iff_not, Bool.not_eq_true', Bool.not_not, Bool.and_eq_true, Bool.or_eq_true, Bool.true_eq_false, Bool.false_eq_true, Bool.not_true, Bool.not_false, if_true, if_false, ite_true, ite_false, true_and, and_true, false_and, and_false, Int.toNat_natCast, toN_succ, Int.ofNat_eq_natCast, Int.ofNat_toNat, Nat.zero_add, Nat.add_zero, not_true_eq_false, not_false_eq_true, implies_true, wr64]
    rw [if_pos (by omega)]
    refine ⟨by omega, by omega, by omega, ?_⟩
    split
    · split
      · exact ⟨i, hi, by omega, by omega⟩
      · refine ⟨by omega, fun v hv => ?_⟩
        by_cases e : v = i
        · subst e; intro _; omega
        · exact h v (by omega)
    · refine ⟨by omega, fun v hv => ?_⟩
      by_cases e : v = i
      · subst e; intro _; omega
      · exact h v (by omega)
  · rintro q ⟨rfl, h⟩
    unfold B43_23
    simp (disch := omega) only [Ret_some, Ret_none, Ret_bind, Ret_asrt, Ret_cond, Sum.elim_inl, Sum.elim_inr, decide_eq_true_eq, decide_eq_false_iff_not, Bool.not_eq_true', Bool.not_not, Bool.and_eq_true, Bool.or_eq_true, Bool.true_eq_false, Bool.false_eq_true, Bool.not_true, Bool.not_false, if_true, if_false, ite_true, ite_false, true_and, and_true, false_and, and_false, Int.toNat_natCast, toN_succ, Int.ofNat_eq_natCast, Int.ofNat_toNat, Nat.zero_add, Nat.add_zero, not_true_eq_false, not_false_eq_true, implies_true, wr64]
    rw [if_neg (by omega)]
    exact h
theorem L43_3_eq {g : TGraph} {p : List Int} (hg : GOk g) (hp : PkOk g p) : L43_3 g p (g.arcs, 0) = some (pk g p p.length) := by
  have hcl := hg.cl
  have hpl := hp.l
  refine Ret.eq ?_
  unfold L43_3
  refine Ret.loop p.length (fun i s => s.2 = (i : Int) ∧ s.1 = pk g p i) ⟨rfl, rfl⟩ ?_ ?_
  · rintro i ⟨x, y⟩ hi ⟨rfl, rfl⟩
    have hge := hp.ge i hi
    have hle := hp.le i hi
    obtain ⟨k1, k2⟩ := pk_ok hg hp (i := i + 1) (by omega)
    have hwl := (hg.ch _ (getD_mem (l := g.choices) (i := i) (d := TChoice.d) (by omega))).1
    unfold B43_3
    by_cases c : 0 < p.getD i 0
    · have hw : IntKind.wrap .i64 (p.getD i 0 - 1) = p.getD i 0 - 1 := wr64 (by omega) (by omega)
      simp only [pk, if_pos c, List.length_append] at k2 ⊢
      simp (disch := omega) only [Ret_some, Ret_none, Ret_bind, Ret_asrt, Ret_cond, Sum.elim_inl, Sum.elim_inr, decide_eq_true_eq, decide_eq_false_iff_not, Bool.not_eq_true', Bool.not_not, Bool.and_eq_true, Bool.or_eq_true, Bool.true_eq_false, Bool.false_eq_true, Bool.not_true, Bool.not_false, if_true, if_false, ite_true, ite_false, true_and, and_true, false_and, and_false, Int.toNat_natCast, toN_succ, Int.ofNat_eq_natCast, Int.ofNat_toNat, Nat.zero_add, Nat.add_zero, not_true_eq_false, not_false_eq_true, implies_true, wr64, hw]
      rw [if_pos (by omega)]
      refine ⟨by omega, by omega, ?_⟩
      rw [if_pos c]
      exact ⟨by omega, by omega, by omega, by omega⟩
    · simp only [pk, if_neg c, List.append_nil]
      simp (disch := omega) only [Ret_some, Ret_none, Ret_bind, Ret_asrt, Ret_cond, Sum.elim_inl, Sum.elim_inr, decide_eq_true_eq, decide_eq_false_iff_not, Bool.not_eq_true', Bool.not_not, Bool.and_eq_true, Bool.or_eq_true, Bool.true_eq_false, Bool.false_eq_true, Bool.not_true, Bool.not_false, if_true, if_false, ite_true, ite_false, true_and, and_true, false_and, and_false, Int.toNat_natCast, toN_succ, Int.ofNat_eq_natCast, Int.ofNat_toNat, Nat.zero_add, Nat.add_zero, not_true_eq_false, not_false_eq_true, implies_true, wr64]
      rw [if_pos (by omega)]
      refine ⟨by omega, by omega, ?_⟩
      rw [if_neg c]
      omega
  · rintro ⟨x, y⟩ ⟨rfl, rfl⟩
    unfold B43_3
    simp (disch := omega) only [Ret_some, Ret_none, Ret_bind, Ret_asrt, Ret_cond, Sum.elim_inl, Sum.elim_inr, decide_eq_true_eq, decide_eq_false_iff_not, Bool.not_eq_true', Bool.not_not, Bool.and_eq_true, Bool.or_eq_true, Bool.true_eq_false, Bool.false_eq_true, Bool.not_true, Bool.not_false, if_true, if_false, ite_true, ite_false, true_and, and_true, false_and, and_false, Int.toNat_natCast, toN_succ, Int.ofNat_eq_natCast, Int.ofNat_toNat, Nat.zero_add, Nat.add_zero, not_true_eq_false, not_false_eq_true, implies_true, wr64]
    rw [if_neg (by omega)]
    trivial
theorem F43_ret {g : TGraph} {p : List Int} (hg : GOk g) (hp : PkOk g p) : Ret (F43 g p) fun r =>
    r.2 = p ∧ ((r.1.2 = true ∧ r.1.1.length = g.ready.length ∧ Keeps (E3 (pk g p p.length)) (fun v => r.1.1.getD v 0) ∧ (∀ v, v < g.ready.length → g.ready.getD v 0 ≤ r.1.1.getD v 0) ∧ (∀ S, Keeps (E3 (pk g p p.length)) S → (∀ v, v < g.ready.length → g.ready.getD v 0 ≤ S v) → ∀ v, v < g.ready.length → r.1.1.getD v 0 ≤ S v) ∧ Feas g (pk g p p.length))
    ∨ (r.1.2 = false ∧ ¬ Feas g (pk g p p.length))) := by
  have hcl := hg.cl
  have hpl := hp.l
  have hal := hg.al
  have hn := hg.gn.n
  obtain ⟨k1, k2⟩ := pk_ok hg hp (Nat.le_refl p.length)
  unfold F43
  rw [F80_eq (by omega), F67b_eq (l := g.ready) (by omega)]
  simp only [Option.bind_some, L43_3_eq hg hp]
  simp (disch := omega) only [Ret_some, Ret_none, Ret_bind, Ret_asrt, Ret_cond, Sum.elim_inl, Sum.elim_inr, decide_eq_true_eq, decide_eq_false_iff_not, Bool.not_eq_true', Bool.not_not, Bool.and_eq_true, Bool.or_eq_true, Bool.true_eq_false, Bool.false_eq_true, Bool.not_true, Bool.not_false, if_true, if_false, ite_true, ite_false, true_and, and_true, false_and, and_false, Int.toNat_natCast, toN_succ, Int.ofNat_eq_natCast, Int.ofNat_toNat, Nat.zero_add, Nat.add_zero, not_true_eq_false, not_false_eq_true, implies_true, wr64]
  refine (L43_11_ret hn k1 (by omega) rfl hg.gn.r0 hg.gn.r1).mono fun x hx => ?_
  rcases x with t | r
  · obtain ⟨x1, x2, x3, x4⟩ := hx
    simp (disch := omega) only [Ret_some, Ret_none, Ret_bind, Ret_asrt, Ret_cond, Sum.elim_inl, Sum.elim_inr, decide_eq_true_eq, decide_eq_false_iff_not, Bool.not_eq_true', Bool.not_not, Bool.and_eq_true, Bool.or_eq_true, Bool.true_eq_false, Bool.false_eq_true, Bool.not_true, Bool.not_false, if_true, if_false, ite_true, ite_false, true_and, and_true, false_and, and_false, Int.toNat_natCast, toN_succ, Int.ofNat_eq_natCast, Int.ofNat_toNat, Nat.zero_add, Nat.add_zero, not_true_eq_false, not_false_eq_true, implies_true, wr64]
    refine (L43_23_ret hg.gn x1).mono fun y hy => ?_
    rcases y with ⟨⟩ | r
    · simp (disch := omega) only [Ret_some, Ret_none, Ret_bind, Ret_asrt, Ret_cond, Sum.elim_inl, Sum.elim_inr, decide_eq_true_eq, decide_eq_false_iff_not, Bool.not_eq_true', Bool.not_not, Bool.and_eq_true, Bool.or_eq_true, Bool.true_eq_false, Bool.false_eq_true, Bool.not_true, Bool.not_false, if_true, if_false, ite_true, ite_false, true_and, and_true, false_and, and_false, Int.toNat_natCast, toN_succ, Int.ofNat_eq_natCast, Int.ofNat_toNat, Nat.zero_add, Nat.add_zero, not_true_eq_false, not_false_eq_true, implies_true, wr64, List.take_length]
      exact ⟨Nat.le_refl _, .inl ⟨x1, x2, x3, x4, _, x2, x3, hy⟩⟩
    · obtain ⟨rfl, v, hv, y1, y2⟩ := hy
      simp (disch := omega) only [Ret_some, Ret_none, Ret_bind, Ret_asrt, Ret_cond, Sum.elim_inl, Sum.elim_inr, decide_eq_true_eq, decide_eq_false_iff_not, Bool.not_eq_true', Bool.not_not, Bool.and_eq_true, Bool.or_eq_true, Bool.true_eq_false, Bool.false_eq_true, Bool.not_true, Bool.not_false, if_true, if_false, ite_true, ite_false, true_and, and_true, false_and, and_false, Int.toNat_natCast, toN_succ, Int.ofNat_eq_natCast, Int.ofNat_toNat, Nat.zero_add, Nat.add_zero, not_true_eq_false, not_false_eq_true, implies_true, wr64]
      refine .inr fun ⟨S, s1, s2, s3⟩ => ?_
      have := x4 S s1 s2 v hv
      have := s3 v hv y1
      omega
  · obtain ⟨rfl, hx⟩ := hx
    simp (disch := omega) only [Ret_some, Ret_none, Ret_bind, Ret_asrt, Ret_cond, Sum.elim_inl, Sum.elim_inr, decide_eq_true_eq, decide_eq_false_iff_not, Bool.not_eq_true', Bool.not_not, Bool.and_eq_true, Bool.or_eq_true, Bool.true_eq_false, Bool.false_eq_true, Bool.not_true, Bool.not_false, if_true, if_false, ite_true, ite_false, true_and, and_true, false_and, and_false, Int.toNat_natCast, toN_succ, Int.ofNat_eq_natCast, Int.ofNat_toNat, Nat.zero_add, Nat.add_zero, not_true_eq_false, not_false_eq_true, implies_true, wr64]
    exact .inr fun ⟨S, s1, s2, _⟩ => hx ⟨S, s1, s2⟩
/-! ### the same with a list -/
theorem L43b_13_ret {n : Nat} {E : List TArc} {x0 : Nat → Int} {k : Nat} {T : Int} {t : List Int} (hE : ∀ a ∈ E, ArcOk n a) (hl : E.length ≤ 2000) (hT : T ≤ 1000000000000) (h : Mid n E x0 k T t) :
    Ret (L43b_13 E (false, 0, t)) fun r => Mid n E x0 (k + 1) (T + 28800 * 2000) r.2 ∧ (Keeps (E3 E) (fun v => t.getD v 0) → r.1 = false) ∧ (r.1 = false → Keeps (E3 E) fun v => r.2.getD v 0) := by
  unfold L43b_13
  refine Ret.loop E.length (fun i s => s.2.1 = (i : Int) ∧ (Mid n E x0 k (T + 28800 * i) s.2.2) ∧ (∀ j, j < i → its (E3 E) x0 k (E.getD j TArc.d).from0.toNat + (E.getD j TArc.d).len ≤ s.2.2.getD (E.getD j TArc.d).to0.toNat 0) ∧ (Keeps (E3 E) (fun v => t.getD v 0) → s.1 = false ∧ s.2.2 = t) ∧ (s.1 = false → ∀ j, j < i → s.2.2.getD (E.getD j TArc.d).from0.toNat 0 + (E.getD j TArc.d).len ≤ s.2.2.getD (E.getD j TArc.d).to0.toNat 0))
    ⟨rfl, by simpa using h, fun j hj => by omega, fun _ => ⟨rfl, rfl⟩, fun _ j hj => by omega⟩ ?_ ?_
  · rintro i ⟨b, y, m⟩ hi ⟨rfl, h1, h2, h3, h4⟩
    simp only at h1 h2 h3 h4
    have ha := hE _ (getD_mem (d := TArc.d) hi)
    have hmem := getD_mem (d := TArc.d) hi
    generalize hae : E.getD i TArc.d = a at *
    have f0 := ha.f0
    have f1 := ha.f1
    have u0 := ha.t0
    have u1 := ha.t1
    have l0 := ha.l0
    have l1 := ha.l1
    have g1 := h1.len
    have s1 := h1.t1 a.from0.toNat (by omega)
    have s0 := h1.t0 a.from0.toNat (by omega)
    have s2 := h1.ge a.from0.toNat (by omega)
    have hw : IntKind.wrap .i64 (m.getD a.from0.toNat 0 + a.len) = m.getD a.from0.toNat 0 + a.len := wr64 (by omega) (by omega)
    unfold B43b_13
    simp only [Int.toNat_natCast, hae]
    simp (disch := omega) only [Ret_some, Ret_none, Ret_bind, Ret_asrt, Ret_cond, Sum.elim_inl, Sum.elim_inr, decide_eq_true_eq, decide_eq_false_iff_not, Bool.not_eq_true', Bool.not_not, Bool.and_eq_true, Bool.or_eq_true, Bool.true_eq_false, Bool.false_eq_true, Bool.not_true, Bool.not_false, if_true, if_false, ite_true, ite_false, true_and, and_true, false_and, and_false, Int.toNat_natCast, toN_succ, Int.ofNat_eq_natCast, Int.ofNat_toNat, Nat.zero_add, Nat.add_zero, not_true_eq_false, not_false_eq_true, implies_true, wr64, hw, g1]
    rw [if_pos (by omega)]
    refine ⟨by omega, ⟨f0, f1⟩, by omega, ⟨u0, u1⟩, by omega, ?_⟩
    split
    · rename_i c
      refine ⟨by omega, ⟨by simp [g1], fun v hv => ?_, fun v hv => ?_, fun v hv => ?_, fun S hS hx v hv => ?_⟩, fun j hj => ?_, fun q => ?_, fun q => q.elim⟩
      · rw [getD_set_arc g1 ha]
        have := h1.ge v hv
        split
        · rename_i e; subst e; omega
        · exact this
      · rw [getD_set_arc g1 ha]
        have := h1.t0 v hv
        split
        · rename_i e; subst e; omega
        · exact this
      · rw [getD_set_arc g1 ha]
        have := h1.t1 v hv
        split
        · omega
        · omega
      · rw [getD_set_arc g1 ha]
        have := h1.le S hS hx v hv
        split
        · rename_i e; subst e
          have h5 := h1.le S hS hx a.from0.toNat (by omega)
          have h6 := E3_keeps hS hmem
          omega
        · exact this
      · rw [getD_set_arc g1 ha]
        by_cases e : j = i
        · subst e
          rw [hae, if_pos rfl]
          omega
        · have := h2 j (by omega)
          split
          · rename_i e2; rw [← e2] at this; omega
          · exact this
      · obtain ⟨_, rfl⟩ := h3 q
        have := E3_keeps q hmem
        omega
    · rename_i c
      refine ⟨by omega, ⟨h1.len, h1.ge, h1.t0, fun v hv => ?_, h1.le⟩, fun j hj => ?_, h3, fun q j hj => ?_⟩
      · have := h1.t1 v hv; omega
      · by_cases e : j = i
        · subst e
          rw [hae]; omega
        · exact h2 j (by omega)
      · by_cases e : j = i
        · subst e
          rw [hae]; omega
        · exact h4 q j (by omega)
  · rintro ⟨b, y, m⟩ ⟨rfl, h1, h2, h3, h4⟩
    simp only at h1 h2 h3 h4
    unfold B43b_13
    simp (disch := omega) only [Ret_some, Ret_none, Ret_bind, Ret_asrt, Ret_cond, Sum.elim_inl, Sum.elim_inr, decide_eq_true_eq, decide_eq_false_iff_not, Bool.not_eq_true', Bool.not_not, Bool.and_eq_true, Bool.or_eq_true, Bool.true_eq_false, Bool.false_eq_true, Bool.not_true, Bool.not_false, if_true, if_false, ite_true, ite_false, true_and, and_true, false_and, and_false, Int.toNat_natCast, toN_succ, Int.ofNat_eq_natCast, Int.ofNat_toNat, Nat.zero_add, Nat.add_zero, not_true_eq_false, not_false_eq_true, implies_true, wr64]
    rw [if_neg (by omega)]
    refine ⟨⟨h1.len, fun v hv => up_le (h1.ge v hv) fun a ha e => ?_, h1.t0, fun v hv => ?_, h1.le⟩, fun q => (h3 q).1, fun q a ha => ?_⟩
    · obtain ⟨b, hb, rfl⟩ := List.mem_map.1 ha
      obtain ⟨j, hj, rfl⟩ := mem_getD TArc.d hb
      rw [← e]
      exact h2 j hj
    · have := h1.t1 v hv; omega
    · obtain ⟨b, hb, rfl⟩ := List.mem_map.1 ha
      obtain ⟨j, hj, rfl⟩ := mem_getD TArc.d hb
      exact h4 q j hj
theorem L43b_11_ret {n : Nat} {E : List TArc} {t0 : List Int} (hn : n ≤ 24) (hE : ∀ a ∈ E, ArcOk n a) (hl : E.length ≤ 2000) (ht : t0.length = n) (h0 : ∀ v, v < n → 0 ≤ t0.getD v 0) (h1 : ∀ v, v < n → t0.getD v 0 ≤ 28800) :
    Ret (L43b_11 E (0, t0)) fun x => match x with
      | .inl t => t.length = n ∧ Keeps (E3 E) (fun v => t.getD v 0) ∧ (∀ v, v < n → t0.getD v 0 ≤ t.getD v 0) ∧ ∀ S, Keeps (E3 E) S → (∀ v, v < n → t0.getD v 0 ≤ S v) → ∀ v, v < n → t.getD v 0 ≤ S v
      | .inr r => r = (([], false), ()) ∧ ¬ ∃ S, Keeps (E3 E) S ∧ ∀ v, v < n → t0.getD v 0 ≤ S v := by
  have hin := E3_inN hE
  unfold L43b_11
  refine Ret.while (fun s => ∃ k : Nat, s.1 = (k : Int) ∧ k ≤ n + 1 ∧ Mid n E (fun v => t0.getD v 0) k (28800 + 28800 * 2000 * k) s.2) (fun s => n + 2 - s.1.toNat) ⟨0, rfl, by omega, ht, fun v hv => Int.le_refl _, h0, fun v hv => by have := h1 v hv; simpa using this, fun S _ h => h⟩ ?_
  rintro ⟨y, t⟩ ⟨k, rfl, hk, hm⟩
  simp only at hm
  unfold B43b_11
  simp (disch := omega) only [Ret_some, Ret_none, Ret_bind, Ret_asrt, Ret_cond, Sum.elim_inl, Sum.elim_inr, decide_eq_true_eq, decide_eq_false_iff_not, Bool.not_eq_true', Bool.not_not, Bool.and_eq_true, Bool.or_eq_true, Bool.true_eq_false, Bool.false_eq_true, Bool.not_true, Bool.not_false, if_true, if_false, ite_true, ite_false, true_and, and_true, false_and, and_false, Int.toNat_natCast, toN_succ, Int.ofNat_eq_natCast, Int.ofNat_toNat, Nat.zero_add, Nat.add_zero, not_true_eq_false, not_false_eq_true, implies_true, wr64]
  refine (L43b_13_ret hE hl (by omega) hm).mono fun r ⟨q1, q2, q3⟩ => ?_
  obtain ⟨b, m⟩ := r
  simp only at q1 q2 q3
  have hml := q1.len
  cases b with
  | false =>
    simp (disch := omega) only [Ret_some, Ret_none, Ret_bind, Ret_asrt, Ret_cond, Sum.elim_inl, Sum.elim_inr, decide_eq_true_eq, decide_eq_false_iff_not, Bool.not_eq_true', Bool.not_not, Bool.and_eq_true, Bool.or_eq_true, Bool.true_eq_false, Bool.false_eq_true, Bool.not_true, Bool.not_false, if_true, if_false, ite_true, ite_false, true_and, and_true, false_and, and_false, Int.toNat_natCast, toN_succ, Int.ofNat_eq_natCast, Int.ofNat_toNat, Nat.zero_add, Nat.add_zero, not_true_eq_false, not_false_eq_true, implies_true, wr64]
    exact ⟨hml, q3 rfl, fun v hv => Int.le_trans (its_mono (E3 E) (fun v => t0.getD v 0) v (Nat.zero_le (k + 1))) (q1.ge v hv), q1.le⟩
  | true =>
    simp (disch := omega) only [Ret_some, Ret_none, Ret_bind, Ret_asrt, Ret_cond, Sum.elim_inl, Sum.elim_inr, decide_eq_true_eq, decide_eq_false_iff_not, Bool.not_eq_true', Bool.not_not, Bool.and_eq_true, Bool.or_eq_true, Bool.true_eq_false, Bool.false_eq_true, Bool.not_true, Bool.not_false, if_true, if_false, ite_true, ite_false, true_and, and_true, false_and, and_false, Int.toNat_natCast, toN_succ, Int.ofNat_eq_natCast, Int.ofNat_toNat, Nat.zero_add, Nat.add_zero, not_true_eq_false, not_false_eq_true, implies_true, wr64, hml]
    split
    · rename_i c
      refine fun ⟨S, s1, s2⟩ => ?_
      have hconv := its_conv (x := fun v => t0.getD v 0) hin s1 s2
      have hL : Keeps (E3 E) (its (E3 E) (fun v => t0.getD v 0) n) := fun a ha => Int.le_trans (up_arc ha) (hconv (n + 1) a.2.1 (hin a ha).2)
      have hte : ∀ v, v < n → t.getD v 0 = its (E3 E) (fun v => t0.getD v 0) n v := fun v hv => by
        have e1 := hm.le _ hL (fun v hv => its_mono (E3 E) (fun v => t0.getD v 0) v (Nat.zero_le n)) v hv
        have e2 := hm.ge v hv
        have e3 := its_mono (E3 E) (fun v => t0.getD v 0) v (show n ≤ k by omega)
        omega
      have := q2 fun a ha => by
        show t.getD a.1 0 + a.2.2 ≤ t.getD a.2.1 0
        rw [hte _ (hin a ha).1, hte _ (hin a ha).2]
        exact hL a ha
      simp at this
    · refine ⟨⟨k + 1, by omega, by omega, ?_⟩, by omega⟩
      have e : (28800 + 28800 * 2000 * (k : Int) + 28800 * 2000) = (28800 + 28800 * 2000 * ((k + 1 : Nat) : Int)) := by omega
      rw [← e]
      exact q1
theorem L43b_23_ret {g : TGraph} {t : List Int} (hg : GN g) (ht : t.length = g.ready.length) :
    Ret (L43b_23 g t 0) fun x => match x with
      | .inl _ => ∀ v, v < g.ready.length → 0 ≤ g.last.getD v 0 → t.getD v 0 ≤ g.last.getD v 0
      | .inr r => r = (([], false), ()) ∧ ∃ v, v < g.ready.length ∧ 0 ≤ g.last.getD v 0 ∧ g.last.getD v 0 < t.getD v 0 := by
  have hn := hg.n
  have hl := hg.ll
  unfold L43b_23
  refine Ret.loop g.ready.length (fun i s => s = (i : Int) ∧ ∀ v, v < i → 0 ≤ g.last.getD v 0 → t.getD v 0 ≤ g.last.getD v 0) ⟨rfl, fun j hj => by omega⟩ ?_ ?_
  · rintro i q hi ⟨rfl, h⟩
    unfold B43b_23
    simp (disch := omega) only [Ret_some, Ret_none, Ret_bind, Ret_asrt, Ret_cond, Sum.elim_inl, Sum.elim_inr, decide_eq_true_eq, decide_eq_false_iff_not, Bool.not_eq_true', Bool.not_not, Bool.and_eq_true, Bool.or_eq_true, Bool.true_eq_false, Bool.false_eq_true, Bool.not_true, Bool.not_false, if_true, if_false, ite_true, ite_false, true_and, and_true, false_and, and_false, Int.toNat_natCast, toN_succ, Int.ofNat_eq_natCast, Int.ofNat_toNat, Nat.zero_add, Nat.add_zero, not_true_eq_false, not_false_eq_true, implies_true, wr64]
    rw [if_pos (by omega)]
    refine ⟨by omega, by omega, by omega, ?_⟩
    split
    · split
      · exact ⟨i, hi, by omega, by omega⟩
      · refine ⟨by omega, fun v hv => ?_⟩
        by_cases e : v = i
        · subst e; intro _; omega
        · exact h v (by omega)
    · refine ⟨by omega, fun v hv => ?_⟩
      by_cases e : v = i
      · subst e; intro _; omega
      · exact h v (by omega)
  · rintro q ⟨rfl, h⟩
    unfold B43b_23
    simp (disch := omega) only [Ret_some, Ret_none, Ret_bind, Ret_asrt, Ret_cond, Sum.elim_inl, Sum.elim_inr, decide_eq_true_eq, decide_eq_false_iff_not, Bool.not_eq_true', Bool.not_not, Bool.and_eq_true, Bool.or_eq_true, Bool.true_eq_false, Bool.false_eq_true, Bool.not_true, Bool.not_false, if_true, if_false, ite_true, ite_false, true_and, and_true, false_and, and_false, Int.toNat_natCast, toN_succ, Int.ofNat_eq_natCast, Int.ofNat_toNat, Nat.zero_add, Nat.add_zero, not_true_eq_false, not_false_eq_true, implies_true, wr64]
    rw [if_neg (by omega)]
    exact h
theorem L43b_3_eq {g : TGraph} {p : List Int} (hg : GOk g) (hp : PkOk g p) : L43b_3 g p (g.arcs, 0) = some (pk g p p.length) := by
  have hcl := hg.cl
  have hpl := hp.l
  refine Ret.eq ?_
  unfold L43b_3
  refine Ret.loop p.length (fun i s => s.2 = (i : Int) ∧ s.1 = pk g p i) ⟨rfl, rfl⟩ ?_ ?_
  · rintro i ⟨x, y⟩ hi ⟨rfl, rfl⟩
    have hge := hp.ge i hi
    have hle := hp.le i hi
    obtain ⟨k1, k2⟩ := pk_ok hg hp (i := i + 1) (by omega)
    have hwl := (hg.ch _ (getD_mem (l := g.choices) (i := i) (d := TChoice.d) (by omega))).1
    unfold B43b_3
    by_cases c : 0 < p.getD i 0
    · have hw : IntKind.wrap .i64 (p.getD i 0 - 1) = p.getD i 0 - 1 := wr64 (by omega) (by omega)
      simp only [pk, if_pos c, List.length_append] at k2 ⊢
      simp (disch := omega) only [Ret_some, Ret_none, Ret_bind, Ret_asrt, Ret_cond, Sum.elim_inl, Sum.elim_inr, decide_eq_true_eq, decide_eq_false_iff_not, Bool.not_eq_true', Bool.not_not, Bool.and_eq_true, Bool.or_eq_true, Bool.true_eq_false, Bool.false_eq_true, Bool.not_true, Bool.not_false, if_true, if_false, ite_true, ite_false, true_and, and_true, false_and, and_false, Int.toNat_natCast, toN_succ, Int.ofNat_eq_natCast, Int.ofNat_toNat, Nat.zero_add, Nat.add_zero, not_true_eq_false, not_false_eq_true, implies_true, wr64, hw]
      rw [if_pos (by omega), if_pos c]
      exact ⟨by omega, by omega, by omega, by omega, by omega⟩
    · simp only [pk, if_neg c, List.append_nil]
      simp (disch := omega) only [Ret_some, Ret_none, Ret_bind, Ret_asrt, Ret_cond, Sum.elim_inl, Sum.elim_inr, decide_eq_true_eq, decide_eq_false_iff_not, Bool.not_eq_true', Bool.not_not, Bool.and_eq_true, Bool.or_eq_true, Bool.true_eq_false, Bool.false_eq_true, Bool.not_true, Bool.not_false, if_true, if_false, ite_true, ite_false, true_and, and_true, false_and, and_false, Int.toNat_natCast, toN_succ, Int.ofNat_eq_natCast, Int.ofNat_toNat, Nat.zero_add, Nat.add_zero, not_true_eq_false, not_false_eq_true, implies_true, wr64]
      rw [if_pos (by omega), if_neg c]
      exact ⟨by omega, by omega⟩
  · rintro ⟨x, y⟩ ⟨rfl, rfl⟩
    unfold B43b_3
    simp (disch := omega) only [Ret_some, Ret_none, Ret_bind, Ret_asrt, Ret_cond, Sum.elim_inl, Sum.elim_inr, decide_eq_true_eq, decide_eq_false_iff_not, Bool.not_eq_true', Bool.not_not, Bool.and_eq_true, Bool.or_eq_true, Bool.true_eq_false, Bool.false_eq_true, Bool.not_true, Bool.not_false, if_true, if_false, ite_true, ite_false, true_and, and_true, false_and, and_false, Int.toNat_natCast, toN_succ, Int.ofNat_eq_natCast, Int.ofNat_toNat, Nat.zero_add, Nat.add_zero, not_true_eq_false, not_false_eq_true, implies_true, wr64]
    rw [if_neg (by omega)]
    trivial
theorem F43b_ret {g : TGraph} {p : List Int} (hg : GOk g) (hp : PkOk g p) : Ret (F43b g p) fun r =>
    (r.1.2 = true ∧ r.1.1.length = g.ready.length ∧ Keeps (E3 (pk g p p.length)) (fun v => r.1.1.getD v 0) ∧ (∀ v, v < g.ready.length → g.ready.getD v 0 ≤ r.1.1.getD v 0) ∧ (∀ S, Keeps (E3 (pk g p p.length)) S → (∀ v, v < g.ready.length → g.ready.getD v 0 ≤ S v) → ∀ v, v < g.ready.length → r.1.1.getD v 0 ≤ S v) ∧ Feas g (pk g p p.length))
    ∨ (r.1.2 = false ∧ ¬ Feas g (pk g p p.length)) := by
  have hcl := hg.cl
  have hpl := hp.l
  have hal := hg.al
  have hn := hg.gn.n
  obtain ⟨k1, k2⟩ := pk_ok hg hp (Nat.le_refl p.length)
  unfold F43b
  rw [F80_eq (by omega), F67b_eq (l := g.ready) (by omega)]
  simp only [Option.bind_some, L43b_3_eq hg hp]
  simp (disch := omega) only [Ret_some, Ret_none, Ret_bind, Ret_asrt, Ret_cond, Sum.elim_inl, Sum.elim_inr, decide_eq_true_eq, decide_eq_false_iff_not, Bool.not_eq_true', Bool.not_not, Bool.and_eq_true, Bool.or_eq_true, Bool.true_eq_false, Bool.false_eq_true, Bool.not_true, Bool.not_false, if_true, if_false, ite_true, ite_false, true_and, and_true, false_and, and_false, Int.toNat_natCast, toN_succ, Int.ofNat_eq_natCast, Int.ofNat_toNat, Nat.zero_add, Nat.add_zero, not_true_eq_false, not_false_eq_true, implies_true, wr64]
  refine (L43b_11_ret hn k1 (by omega) rfl hg.gn.r0 hg.gn.r1).mono fun x hx => ?_
  rcases x with t | r
  · obtain ⟨x1, x2, x3, x4⟩ := hx
    simp (disch := omega) only [Ret_some, Ret_none, Ret_bind, Ret_asrt, Ret_cond, Sum.elim_inl, Sum.elim_inr, decide_eq_true_eq, decide_eq_false_iff_not, Bool.not_eq_true', Bool.not_not, Bool.and_eq_true, Bool.or_eq_true, Bool.true_eq_false, Bool.false_eq_true, Bool.not_true, Bool.not_false, if_true, if_false, ite_true, ite_false, true_and, and_true, false_and, and_false, Int.toNat_natCast, toN_succ, Int.ofNat_eq_natCast, Int.ofNat_toNat, Nat.zero_add, Nat.add_zero, not_true_eq_false, not_false_eq_true, implies_true, wr64]
    refine (L43b_23_ret hg.gn x1).mono fun y hy => ?_
    rcases y with ⟨⟩ | r
    · simp (disch := omega) only [Ret_some, Ret_none, Ret_bind, Ret_asrt, Ret_cond, Sum.elim_inl, Sum.elim_inr, decide_eq_true_eq, decide_eq_false_iff_not, Bool.not_eq_true', Bool.not_not, Bool.and_eq_true, Bool.or_eq_true, Bool.true_eq_false, Bool.false_eq_true, Bool.not_true, Bool.not_false, if_true, if_false, ite_true, ite_false, true_and, and_true, false_and, and_false, Int.toNat_natCast, toN_succ, Int.ofNat_eq_natCast, Int.ofNat_toNat, Nat.zero_add, Nat.add_zero, not_true_eq_false, not_false_eq_true, implies_true, wr64, List.take_length]
      exact ⟨Nat.le_refl _, .inl ⟨x1, x2, x3, x4, _, x2, x3, hy⟩⟩
    · obtain ⟨rfl, v, hv, y1, y2⟩ := hy
      simp (disch := omega) only [Ret_some, Ret_none, Ret_bind, Ret_asrt, Ret_cond, Sum.elim_inl, Sum.elim_inr, decide_eq_true_eq, decide_eq_false_iff_not, Bool.not_eq_true', Bool.not_not, Bool.and_eq_true, Bool.or_eq_true, Bool.true_eq_false, Bool.false_eq_true, Bool.not_true, Bool.not_false, if_true, if_false, ite_true, ite_false, true_and, and_true, false_and, and_false, Int.toNat_natCast, toN_succ, Int.ofNat_eq_natCast, Int.ofNat_toNat, Nat.zero_add, Nat.add_zero, not_true_eq_false, not_false_eq_true, implies_true, wr64]
      refine .inr fun ⟨S, s1, s2, s3⟩ => ?_
      have := x4 S s1 s2 v hv
      have := s3 v hv y1
      omega
  · obtain ⟨rfl, hx⟩ := hx
    simp (disch := omega) only [Ret_some, Ret_none, Ret_bind, Ret_asrt, Ret_cond, Sum.elim_inl, Sum.elim_inr, decide_eq_true_eq, decide_eq_false_iff_not, Bool.not_eq_true', Bool.not_not, Bool.and_eq_true, Bool.or_eq_true, Bool.true_eq_false, Bool.false_eq_true, Bool.not_true, Bool.not_false, if_true, if_false, ite_true, ite_false, true_and, and_true, false_and, and_false, Int.toNat_natCast, toN_succ, Int.ofNat_eq_natCast, Int.ofNat_toNat, Nat.zero_add, Nat.add_zero, not_true_eq_false, not_false_eq_true, implies_true, wr64]
    exact .inr fun ⟨S, s1, s2, _⟩ => hx ⟨S, s1, s2⟩
/-! ### what times are worth -/
theorem F66_eq {g : TGraph} {t : List Int} (hl : t.length = g.due.length) : F66 g t = F44 g t := by
  unfold F66 F44
  congr 1
  unfold L66_3 L44_3
  refine loopW_congr (fun s => ?_) _
  unfold B66_3 B44_3
  rw [hl]
  by_cases c : s.2 < (g.due.length : Int)
  · simp [c, asrt]
  · simp [c]
theorem F66_ret {g : TGraph} {t : List Int} (hl : t.length = g.due.length) (hn : t.length ≤ 1000) : ∃ w, F66 g t = some w := by
  have : Ret (F66 g t) fun _ => True := by
    unfold F66
    simp (disch := omega) only [Ret_some, Ret_none, Ret_bind, Ret_asrt, Ret_cond, Sum.elim_inl, Sum.elim_inr, decide_eq_true_eq, decide_eq_false_iff_not, Bool.not_eq_true', Bool.not_not, Bool.and_eq_true, Bool.or_eq_true, Bool.true_eq_false, Bool.false_eq_true, Bool.not_true, Bool.not_false, if_true, if_false, ite_true, ite_false, true_and, and_true, false_and, and_false, Int.toNat_natCast, toN_succ, Int.ofNat_eq_natCast, Int.ofNat_toNat, Nat.zero_add, Nat.add_zero, not_true_eq_false, not_false_eq_true, implies_true, wr64]
    unfold L66_3
    refine Ret.loop t.length (fun i s => s.2 = (i : Int)) rfl ?_ ?_
    · rintro i ⟨x, y⟩ hi rfl
      unfold B66_3
      simp (disch := omega) only [Ret_some, Ret_none, Ret_bind, Ret_asrt, Ret_cond, Sum.elim_inl, Sum.elim_inr, decide_eq_true_eq, decide_eq_false_iff_not, Bool.not_eq_true', Bool.not_not, Bool.and_eq_true, Bool.or_eq_true, Bool.true_eq_false, Bool.false_eq_true, Bool.not_true, Bool.not_false, if_true, if_false, ite_true, ite_false, true_and, and_true, false_and, and_false, Int.toNat_natCast, toN_succ, Int.ofNat_eq_natCast, Int.ofNat_toNat, Nat.zero_add, Nat.add_zero, not_true_eq_false, not_false_eq_true, implies_true, wr64]
      rw [if_pos (by omega)]
      refine ⟨by omega, ?_⟩
      split
      · exact ⟨by omega, by omega⟩
      · omega
    · rintro ⟨x, y⟩ rfl
      unfold B66_3
      simp (disch := omega) only [Ret_some, Ret_none, Ret_bind, Ret_asrt, Ret_cond, Sum.elim_inl, Sum.elim_inr, decide_eq_true_eq, decide_eq_false_iff_not, Bool.not_eq_true', Bool.not_not, Bool.and_eq_true, Bool.or_eq_true, Bool.true_eq_false, Bool.false_eq_true, Bool.not_true, Bool.not_false, if_true, if_false, ite_true, ite_false, true_and, and_true, false_and, and_false, Int.toNat_natCast, toN_succ, Int.ofNat_eq_natCast, Int.ofNat_toNat, Nat.zero_add, Nat.add_zero, not_true_eq_false, not_false_eq_true, implies_true, wr64]
      rw [if_neg (by omega)]
      trivial
  obtain ⟨w, h, _⟩ := this
  exact ⟨w, h⟩
theorem F28_refl {l : List Int} (hl : l.length ≤ 1000) : F28 l l = some true := by
  refine Ret.eq ?_
  unfold F28
  simp (disch := omega) only [Ret_some, Ret_none, Ret_bind, Ret_asrt, Ret_cond, Sum.elim_inl, Sum.elim_inr, decide_eq_true_eq, decide_eq_false_iff_not, Bool.not_eq_true', Bool.not_not, Bool.and_eq_true, Bool.or_eq_true, Bool.true_eq_false, Bool.false_eq_true, Bool.not_true, Bool.not_false, if_true, if_false, ite_true, ite_false, true_and, and_true, false_and, and_false, Int.toNat_natCast, toN_succ, Int.ofNat_eq_natCast, Int.ofNat_toNat, Nat.zero_add, Nat.add_zero, not_true_eq_false, not_false_eq_true, implies_true, wr64]
  unfold L28_4
  refine Ret.loop l.length (fun i s => s = (i : Int)) rfl ?_ ?_
  · rintro i s hi rfl
    unfold B28_4
    simp (disch := omega) only [Ret_some, Ret_none, Ret_bind, Ret_asrt, Ret_cond, Sum.elim_inl, Sum.elim_inr, decide_eq_true_eq, decide_eq_false_iff_not, Bool.not_eq_true', Bool.not_not, Bool.and_eq_true, Bool.or_eq_true, Bool.true_eq_false, Bool.false_eq_true, Bool.not_true, Bool.not_false, if_true, if_false, ite_true, ite_false, true_and, and_true, false_and, and_false, Int.toNat_natCast, toN_succ, Int.ofNat_eq_natCast, Int.ofNat_toNat, Nat.zero_add, Nat.add_zero, not_true_eq_false, not_false_eq_true, implies_true, wr64]
    rw [if_pos (by omega)]
    refine ⟨by omega, ?_⟩
    omega
  · rintro s rfl
    unfold B28_4
    simp (disch := omega) only [Ret_some, Ret_none, Ret_bind, Ret_asrt, Ret_cond, Sum.elim_inl, Sum.elim_inr, decide_eq_true_eq, decide_eq_false_iff_not, Bool.not_eq_true', Bool.not_not, Bool.and_eq_true, Bool.or_eq_true, Bool.true_eq_false, Bool.false_eq_true, Bool.not_true, Bool.not_false, if_true, if_false, ite_true, ite_false, true_and, and_true, false_and, and_false, Int.toNat_natCast, toN_succ, Int.ofNat_eq_natCast, Int.ofNat_toNat, Nat.zero_add, Nat.add_zero, not_true_eq_false, not_false_eq_true, implies_true, wr64]
    rw [if_neg (by omega)]
    trivial
theorem list_same {a b : List Int} (hl : a.length = b.length) (h : ∀ i, i < a.length → a.getD i 0 = b.getD i 0) : a = b := by
  refine List.ext_getElem hl fun i h1 h2 => ?_
  have := h i h1
  simpa [List.getD_eq_getElem?_getD, List.getElem?_eq_getElem h1, List.getElem?_eq_getElem h2] using this
/-! ### least times -/
structure IsLeast (g : TGraph) (E : List TArc) (t : List Int) : Prop where
  len : t.length = g.ready.length
  kp : Keeps (E3 E) fun v => t.getD v 0
  ge : ∀ v, v < g.ready.length → g.ready.getD v 0 ≤ t.getD v 0
  le : ∀ S, Keeps (E3 E) S → (∀ v, v < g.ready.length → g.ready.getD v 0 ≤ S v) → ∀ v, v < g.ready.length → t.getD v 0 ≤ S v
  la : ∀ v, v < g.ready.length → 0 ≤ g.last.getD v 0 → t.getD v 0 ≤ g.last.getD v 0
theorem IsLeast.uniq {g : TGraph} {E : List TArc} {t u : List Int} (h : IsLeast g E t) (k : IsLeast g E u) : t = u := by
  refine list_same (by rw [h.len, k.len]) fun i hi => ?_
  have e1 := h.le _ k.kp k.ge i (by rw [← h.len]; exact hi)
  have e2 := k.le _ h.kp h.ge i (by rw [← h.len]; exact hi)
  omega
theorem IsLeast.feas {g : TGraph} {E : List TArc} {t : List Int} (h : IsLeast g E t) : Feas g E := ⟨_, h.kp, h.ge, h.la⟩
theorem Sol.least {g : TGraph} {E : List TArc} {s : TSolver} (h : Sol g E s) : IsLeast g E s.times := ⟨h.tl, h.kp, h.ge, h.le, h.la⟩
open Classical in
noncomputable def tmW (g : TGraph) (E : List TArc) : Option (List Int) := if h : ∃ t, IsLeast g E t then some h.choose else none
theorem tmW_of {g : TGraph} {E : List TArc} {t : List Int} (h : IsLeast g E t) : tmW g E = some t := by
  unfold tmW
  have he : ∃ t, IsLeast g E t := ⟨t, h⟩
  rw [dif_pos he, he.choose_spec.uniq h]
theorem tmW_no {g : TGraph} {E : List TArc} (h : ¬ Feas g E) : tmW g E = none := by
  unfold tmW
  rw [dif_neg fun ⟨t, ht⟩ => h ht.feas]
noncomputable def dly (g : TGraph) (t : List Int) : Int := (F44 g t).getD 0
theorem F44_dly {g : TGraph} (hg : GOk g) {t : List Int} (h : t.length = g.ready.length) : F44 g t = some (dly g t) := by
  have hn := hg.gn.n
  have hd := hg.du
  obtain ⟨w, hw⟩ := F66_ret (g := g) (t := t) (by omega) (by omega)
  rw [F66_eq (by omega)] at hw
  unfold dly
  rw [hw]; rfl
theorem F66_dly {g : TGraph} (hg : GOk g) {t : List Int} (h : t.length = g.ready.length) : F66 g t = some (dly g t) := by
  have hd := hg.du
  rw [F66_eq (by omega)]
  exact F44_dly hg h
theorem F68_tm {g : TGraph} {E V : List TArc} {s : TSolver} (hg : GN g) (hs : Sol g E s) (hE : ∀ a ∈ E ++ V, ArcOk g.ready.length a) (hlen : (E ++ V).length ≤ 2000) :
    Ret (F68b (some s) V) fun r => match tmW g (E ++ V) with
      | some t => r.2 = true ∧ ∃ s', r.1 = some s' ∧ Sol g (E ++ V) s' ∧ s'.times = t
      | none => r.2 = false := by
  rw [F68b_eq]
  refine (F68_ret hg hs hE hlen).mono fun r h => ?_
  rcases h with ⟨h1, s', h2, h3⟩ | ⟨h1, h2⟩
  · rw [tmW_of h3.least]
    exact ⟨h1, s', h2, h3, rfl⟩
  · rw [tmW_no h2]
    exact h1
theorem F78_tm {g : TGraph} (hg : GOk g) : Ret (F78 g) fun r => match tmW g g.arcs with
      | some t => r.2 = true ∧ ∃ s', r.1 = some s' ∧ Sol g g.arcs s' ∧ s'.times = t
      | none => r.2 = false := by
  refine (F78_ret hg).mono fun r h => ?_
  rcases h with ⟨h1, s', h2, h3⟩ | ⟨h1, h2⟩
  · rw [tmW_of h3.least]
    exact ⟨h1, s', h2, h3, rfl⟩
  · rw [tmW_no h2]
    exact h1
theorem F43_tm {g : TGraph} {p : List Int} {E : List TArc} (hg : GOk g) (hp : PkOk g p) (hE : pk g p p.length = E) : Ret (F43 g p) fun r => r.2 = p ∧ match tmW g E with
      | some t => r.1.2 = true ∧ r.1.1 = t
      | none => r.1.2 = false := by
  subst hE
  refine (F43_ret hg hp).mono fun r ⟨h0, h⟩ => ⟨h0, ?_⟩
  rcases h with ⟨h1, h2, h3, h4, h5, h6⟩ | ⟨h1, h2⟩
  · have hl : IsLeast g (pk g p p.length) r.1.1 := ⟨h2, h3, h4, h5, by
      obtain ⟨S, s1, s2, s3⟩ := h6
      exact fun v hv hl => Int.le_trans (h5 S s1 s2 v hv) (s3 v hv hl)⟩
    rw [tmW_of hl]
    exact ⟨h1, rfl⟩
  · rw [tmW_no h2]
    exact h1
theorem tmW_len {g : TGraph} {E : List TArc} {t : List Int} (h : tmW g E = some t) : IsLeast g E t := by
  unfold tmW at h
  split at h
  · rename_i he
    cases h
    exact he.choose_spec
  · simp at h
theorem pk_congr {g : TGraph} {p q : List Int} : ∀ {i : Nat}, (∀ j, j < i → p.getD j 0 = q.getD j 0) → pk g p i = pk g q i
  | 0, _ => rfl
  | i + 1, h => by
    simp only [pk]
    rw [pk_congr (fun j hj => h j (by omega)), h i (by omega)]
theorem pk_zero {g : TGraph} {p : List Int} {i : Nat} : ∀ {m : Nat}, i ≤ m → (∀ j, i ≤ j → j < m → p.getD j 0 = 0) → pk g p m = pk g p i
  | 0, hi, _ => by obtain rfl : i = 0 := by omega
                   rfl
  | m + 1, hi, h => by
    by_cases e : i = m + 1
    · subst e; rfl
    · simp only [pk]
      rw [h m (by omega) (by omega), if_neg (by decide), List.append_nil]
      exact pk_zero (by omega) fun j h1 h2 => h j h1 (by omega)
/-! ### what follows (plain) -/
theorem Feas.anti {g : TGraph} {E F : List TArc} (h : Feas g F) (s : ∀ a, a ∈ E → a ∈ F) : Feas g E := by
  obtain ⟨S, h1, h2⟩ := h
  refine ⟨S, fun a ha => h1 a ?_, h2⟩
  obtain ⟨b, hb, rfl⟩ := List.mem_map.1 ha
  exact List.mem_map.2 ⟨b, s b hb, rfl⟩
theorem Keeps.anti {E F : List TArc} {S : Nat → Int} (h : Keeps (E3 F) S) (s : ∀ a, a ∈ E → a ∈ F) : Keeps (E3 E) S := fun a ha => by
  obtain ⟨b, hb, rfl⟩ := List.mem_map.1 ha
  exact h _ (List.mem_map.2 ⟨b, s b hb, rfl⟩)
theorem IsLeast.same {g : TGraph} {E F : List TArc} {t : List Int} (h : IsLeast g E t) (s : ∀ a, a ∈ E ↔ a ∈ F) : IsLeast g F t :=
  ⟨h.len, h.kp.anti fun a ha => (s a).2 ha, h.ge, fun S hS => h.le S (hS.anti fun a ha => (s a).1 ha), h.la⟩
def Way (g : TGraph) (i k : Nat) : List TArc := (g.choices.getD i TChoice.d).ways.getD k []
def nw (g : TGraph) (i : Nat) : Nat := (g.choices.getD i TChoice.d).ways.length
theorem mem_pk {g : TGraph} {p : List Int} {a : TArc} : ∀ {n : Nat}, a ∈ pk g p n ↔ a ∈ g.arcs ∨ ∃ i, i < n ∧ 0 < p.getD i 0 ∧ a ∈ Way g i (p.getD i 0 - 1).toNat
  | 0 => by
    simp only [pk]
    refine ⟨.inl, fun h => ?_⟩
    rcases h with h | ⟨i, hi, _⟩
    · exact h
    · omega
  | n + 1 => by
    simp only [pk, List.mem_append]
    rw [mem_pk (n := n)]
    constructor
    · rintro ((h | ⟨i, hi, h⟩) | h)
      · exact .inl h
      · exact .inr ⟨i, by omega, h⟩
      · by_cases c : 0 < p.getD n 0
        · rw [if_pos c] at h
          exact .inr ⟨n, by omega, c, h⟩
        · rw [if_neg c] at h
          simp at h
    · rintro (h | ⟨i, hi, h1, h2⟩)
      · exact .inl (.inl h)
      · by_cases e : i = n
        · subst e
          rw [if_pos h1]
          exact .inr h2
        · exact .inl (.inr ⟨i, by omega, h1, h2⟩)
def EN (g : TGraph) (p : List Int) : List TArc := pk g p g.choices.length
theorem set_getD {p : List Int} {i j : Nat} {x : Int} (hi : i < p.length) : (p.set i x).getD j 0 = if j = i then x else p.getD j 0 := by
  rw [lgetD_set]
  by_cases c : i = j
  · rw [if_pos ⟨c, hi⟩, if_pos c.symm]
  · rw [if_neg (fun q => c q.1), if_neg (fun q => c q.symm)]
theorem mem_EN_set {g : TGraph} {p : List Int} {i k : Nat} {a : TArc} (hl : p.length = g.choices.length) (hi : i < g.choices.length) (h0 : ¬ 0 < p.getD i 0) :
    a ∈ EN g (p.set i ((k : Int) + 1)) ↔ a ∈ EN g p ∨ a ∈ Way g i k := by
  unfold EN
  rw [mem_pk, mem_pk]
  constructor
  · rintro (h | ⟨j, hj, h1, h2⟩)
    · exact .inl (.inl h)
    · rw [set_getD (by omega)] at h1 h2
      by_cases e : j = i
      · rw [if_pos e] at h1 h2
        subst e
        rw [show ((k : Int) + 1 - 1).toNat = k by omega] at h2
        exact .inr h2
      · rw [if_neg e] at h1 h2
        exact .inl (.inr ⟨j, hj, h1, h2⟩)
  · rintro ((h | ⟨j, hj, h1, h2⟩) | h)
    · exact .inl h
    · have e : j ≠ i := by rintro rfl; exact h0 h1
      exact .inr ⟨j, hj, by rw [set_getD (by omega), if_neg e]; exact h1, by rw [set_getD (by omega), if_neg e]; exact h2⟩
    · refine .inr ⟨i, hi, by rw [set_getD (by omega), if_pos rfl]; omega, ?_⟩
      rw [set_getD (by omega), if_pos rfl, show ((k : Int) + 1 - 1).toNat = k by omega]
      exact h
theorem PkOk.set {g : TGraph} {p : List Int} {i k : Nat} (h : PkOk g p) (hi : i < g.choices.length) (hk : k < nw g i) : PkOk g (p.set i ((k : Int) + 1)) := by
  have hl := h.l
  refine ⟨by rw [List.length_set]; exact hl, fun j hj => ?_, fun j hj => ?_⟩
  · rw [List.length_set] at hj
    rw [set_getD (by omega)]
    split
    · omega
    · exact h.ge j hj
  · rw [List.length_set] at hj
    rw [set_getD (by omega)]
    split
    · rename_i e; subst e
      unfold nw at hk
      omega
    · exact h.le j hj
def Ext (g : TGraph) (p q : List Int) : Prop := ∀ i, i < g.choices.length → 0 < p.getD i 0 → q.getD i 0 = p.getD i 0
theorem EN_sub {g : TGraph} {p q : List Int} (h : Ext g p q) {a : TArc} (ha : a ∈ EN g p) : a ∈ EN g q := by
  unfold EN at ha ⊢
  rw [mem_pk] at ha ⊢
  rcases ha with ha | ⟨i, hi, h1, h2⟩
  · exact .inl ha
  · have e := h i hi h1
    exact .inr ⟨i, hi, by rw [e]; exact h1, by rw [e]; exact h2⟩
def May (g : TGraph) (p : List Int) (i k : Nat) : Prop := Feas g (EN g (p.set i ((k : Int) + 1)))
structure Term (g : TGraph) (q : List Int) : Prop where
  ok : PkOk g q
  fe : Feas g (EN g q)
  two : ∀ i, i < g.choices.length → ¬ 0 < q.getD i 0 → ∃ k1 k2, k1 < nw g i ∧ k2 < nw g i ∧ k1 ≠ k2 ∧ May g q i k1 ∧ May g q i k2
theorem May.anti {g : TGraph} {p t : List Int} {i k : Nat} (hp : p.length = g.choices.length) (ht : t.length = g.choices.length) (h : Ext g p t) (hi : i < g.choices.length) (h0 : ¬ 0 < p.getD i 0) (h1 : ¬ 0 < t.getD i 0) (hm : May g t i k) : May g p i k := by
  refine Feas.anti hm fun a ha => ?_
  rw [mem_EN_set hp hi h0] at ha
  rw [mem_EN_set ht hi h1]
  rcases ha with ha | ha
  · exact .inl (EN_sub h ha)
  · exact .inr ha
theorem may_picked {g : TGraph} {p t : List Int} {i : Nat} (hp : p.length = g.choices.length) (ht : Term g t) (h : Ext g p t) (hi : i < g.choices.length) (h0 : ¬ 0 < p.getD i 0) (h1 : 0 < t.getD i 0) : ∃ k, k < nw g i ∧ t.getD i 0 = (k : Int) + 1 ∧ May g p i k := by
  have hle := ht.ok.le i (by rw [ht.ok.l]; exact hi)
  refine ⟨(t.getD i 0 - 1).toNat, by unfold nw; omega, by omega, ?_⟩
  refine Feas.anti ht.fe fun a ha => ?_
  rw [mem_EN_set hp hi h0] at ha
  rcases ha with ha | ha
  · exact EN_sub h ha
  · unfold EN
    rw [mem_pk]
    exact .inr ⟨i, hi, h1, ha⟩
theorem none_of {g : TGraph} {p t : List Int} {i : Nat} (hp : p.length = g.choices.length) (ht : Term g t) (h : Ext g p t) (hi : i < g.choices.length) (h0 : ¬ 0 < p.getD i 0) (hn : ∀ k, k < nw g i → ¬ May g p i k) : False := by
  by_cases c : 0 < t.getD i 0
  · obtain ⟨k, h1, _, h2⟩ := may_picked hp ht h hi h0 c
    exact hn k h1 h2
  · obtain ⟨k1, k2, h1, h2, h3, h4, h5⟩ := ht.two i hi c
    exact hn k1 h1 (May.anti hp ht.ok.l h hi h0 c h4)
theorem one_of {g : TGraph} {p t : List Int} {i k : Nat} (hp : p.length = g.choices.length) (ht : Term g t) (h : Ext g p t) (hi : i < g.choices.length) (h0 : ¬ 0 < p.getD i 0) (hn : ∀ k', k' < nw g i → May g p i k' → k' = k) : Ext g (p.set i ((k : Int) + 1)) t := by
  have ht1 : t.getD i 0 = (k : Int) + 1 := by
    by_cases c : 0 < t.getD i 0
    · obtain ⟨k', h1, h3, h2⟩ := may_picked hp ht h hi h0 c
      rw [h3, hn k' h1 h2]
    · obtain ⟨k1, k2, h1, h2, h3, h4, h5⟩ := ht.two i hi c
      exact absurd ((hn k1 h1 (May.anti hp ht.ok.l h hi h0 c h4)).trans (hn k2 h2 (May.anti hp ht.ok.l h hi h0 c h5)).symm) h3
  intro j hj hp2
  rw [set_getD (by omega)] at hp2 ⊢
  by_cases e : j = i
  · subst e; rw [if_pos rfl]; exact ht1
  · rw [if_neg e] at hp2 ⊢
    exact h j hj hp2
def op (g : TGraph) (p : List Int) : Nat := sm (fun i => if 0 < p.getD i 0 then 0 else 1) g.choices.length
theorem op_set {g : TGraph} {p : List Int} {i k : Nat} (hp : p.length = g.choices.length) (hi : i < g.choices.length) (h0 : ¬ 0 < p.getD i 0) : op g (p.set i ((k : Int) + 1)) + 1 = op g p := by
  have := sm_ex (f := fun j => if 0 < p.getD j 0 then 0 else 1) (g := fun j => if 0 < (p.set i ((k : Int) + 1)).getD j 0 then 0 else 1) (i := i) (n := g.choices.length) (fun j _ hj => by
    rw [set_getD (by omega), if_neg hj]) hi
  rw [if_neg h0, set_getD (by omega), if_pos rfl, if_pos (by omega)] at this
  unfold op
  omega
theorem op_le {g : TGraph} {p : List Int} : op g p ≤ g.choices.length := by
  have := sm_le (f := fun i => if 0 < p.getD i 0 then 0 else 1) (g := fun _ => 1) (n := g.choices.length) (fun i _ => by split <;> omega)
  rw [sm_const] at this
  unfold op
  omega
def Fin (g : TGraph) (p : List Int) : Option (List Int) → Prop
  | some q => Term g q ∧ Ext g p q ∧ ∀ t, Term g t → Ext g p t → Ext g q t
  | none => ∀ t, Term g t → Ext g p t → False
theorem Fin.uniq {g : TGraph} {p : List Int} {x y : Option (List Int)} (h : Fin g p x) (k : Fin g p y) : x = y := by
  cases x with
  | none =>
    cases y with
    | none => rfl
    | some y => exact (h y k.1 k.2.1).elim
  | some x =>
    cases y with
    | none => exact (k x h.1 h.2.1).elim
    | some y =>
      have e1 := h.2.2 y k.1 k.2.1
      have e2 := k.2.2 x h.1 h.2.1
      have l1 := h.1.ok.l
      have l2 := k.1.ok.l
      refine congrArg some (list_same (by omega) fun i hi => ?_)
      have g1 := h.1.ok.ge i hi
      have g2 := k.1.ok.ge i (by omega)
      by_cases c : 0 < x.getD i 0
      · exact (e1 i (by omega) c).symm
      · by_cases c2 : 0 < y.getD i 0
        · exact e2 i (by omega) c2
        · omega
structure Cnt (M : Nat → Prop) (k n : Nat) (x : Int) : Prop where
  c0 : n = 0 → ∀ j, j < k → ¬ M j
  c1 : n = 1 → ∃ j, j < k ∧ x = (j : Int) + 1 ∧ M j ∧ ∀ j', j' < k → M j' → j' = j
  c2 : 2 ≤ n → ∃ j1 j2, j1 < k ∧ j2 < k ∧ j1 ≠ j2 ∧ M j1 ∧ M j2
theorem Cnt.zero {M : Nat → Prop} {x : Int} : Cnt M 0 0 x := ⟨fun _ j hj => by omega, fun h => by omega, fun h => by omega⟩
theorem Cnt.no {M : Nat → Prop} {k n : Nat} {x : Int} (h : Cnt M k n x) (hm : ¬ M k) : Cnt M (k + 1) n x := by
  refine ⟨fun h0 j hj => ?_, fun h1 => ?_, fun h2 => ?_⟩
  · by_cases e : j = k
    · subst e; exact hm
    · exact h.c0 h0 j (by omega)
  · obtain ⟨j, a1, a2, a3, a4⟩ := h.c1 h1
    refine ⟨j, by omega, a2, a3, fun j' hj' hm' => ?_⟩
    by_cases e : j' = k
    · subst e; exact absurd hm' hm
    · exact a4 j' (by omega) hm'
  · obtain ⟨j1, j2, a1, a2, a3⟩ := h.c2 h2
    exact ⟨j1, j2, by omega, by omega, a3⟩
theorem Cnt.yes {M : Nat → Prop} {k n : Nat} {x y : Int} (h : Cnt M k n x) (hm : M k) (hy : n = 0 → y = (k : Int) + 1) : Cnt M (k + 1) (n + 1) y := by
  refine ⟨fun h0 => by omega, fun h1 => ?_, fun h2 => ?_⟩
  · have h0 : n = 0 := by omega
    refine ⟨k, by omega, hy h0, hm, fun j' hj' hm' => ?_⟩
    by_cases e : j' = k
    · exact e
    · exact absurd hm' (h.c0 h0 j' (by omega))
  · by_cases e : n = 1
    · obtain ⟨j, a1, a2, a3, a4⟩ := h.c1 e
      exact ⟨j, k, by omega, by omega, by omega, a3, hm⟩
    · obtain ⟨j1, j2, a1, a2, a3⟩ := h.c2 (by omega)
      exact ⟨j1, j2, by omega, by omega, a3⟩
/-! ### what follows (the program) -/
theorem may_iff {g : TGraph} {p : List Int} {E : List TArc} {i k : Nat} (hp : p.length = g.choices.length) (hi : i < g.choices.length) (h0 : ¬ 0 < p.getD i 0) (hE : ∀ a, a ∈ E ↔ a ∈ EN g p) : May g p i k ↔ Feas g (E ++ Way g i k) := by
  have hs : ∀ a, a ∈ E ++ Way g i k ↔ a ∈ EN g (p.set i ((k : Int) + 1)) := fun a => by
    rw [mem_EN_set hp hi h0, List.mem_append, hE]
  exact ⟨fun h => Feas.anti h fun a ha => (hs a).1 ha, fun h => Feas.anti h fun a ha => (hs a).2 ha⟩
theorem way_ok {g : TGraph} (hg : GOk g) {i k : Nat} (hi : i < g.choices.length) (hk : k < nw g i) : (Way g i k).length ≤ 4 ∧ ∀ a ∈ Way g i k, ArcOk g.ready.length a :=
  (hg.ch _ (getD_mem (l := g.choices) (i := i) (d := TChoice.d) hi)).2 _ (getD_mem (l := (g.choices.getD i TChoice.d).ways) (i := k) (d := []) hk)
theorem nw_le {g : TGraph} (hg : GOk g) {i : Nat} (hi : i < g.choices.length) : nw g i ≤ 3 := (hg.ch _ (getD_mem (l := g.choices) (i := i) (d := TChoice.d) hi)).1
theorem EN_ok {g : TGraph} (hg : GOk g) {p : List Int} (hp : PkOk g p) {E : List TArc} (hE : ∀ a, a ∈ E ↔ a ∈ EN g p) : ∀ a ∈ E, ArcOk g.ready.length a := fun a ha =>
  (pk_ok hg hp (i := g.choices.length) (by rw [hp.l]; exact Nat.le_refl _)).1 a ((hE a).1 ha)
theorem L64_15_ret {g : TGraph} {p : List Int} {E : List TArc} {s : TSolver} {i : Nat} (hg : GOk g) (hs : Sol g E s) (hE : ∀ a, a ∈ E ↔ a ∈ EN g p) (hp : PkOk g p) (hi : i < g.choices.length) (h0 : ¬ 0 < p.getD i 0) (hl : E.length ≤ 1900) :
    Ret (L64_15 g (some s) (i : Int) (0, 0, none, 0)) fun r => ∃ n : Nat, r.2.1 = (n : Int) ∧ Cnt (May g p i) (nw g i) n r.1 ∧ (0 < n → ∃ k s', k < nw g i ∧ r.1 = (k : Int) + 1 ∧ r.2.2 = some s' ∧ Sol g (E ++ Way g i k) s') := by
  have hn3 := nw_le hg hi
  have hEo := EN_ok hg hp hE
  unfold L64_15
  refine Ret.loop (nw g i) (fun k st => st.2.2.2 = (k : Int) ∧ ∃ n : Nat, st.2.1 = (n : Int) ∧ n ≤ k ∧ Cnt (May g p i) k n st.1 ∧ (0 < n → ∃ j s', j < k ∧ st.1 = (j : Int) + 1 ∧ st.2.2.1 = some s' ∧ Sol g (E ++ Way g i j) s')) ⟨rfl, 0, rfl, Nat.le_refl _, Cnt.zero, fun h => by omega⟩ ?_ ?_
  · rintro k ⟨x, y, v, z⟩ hk ⟨rfl, n, rfl, h1, h2, h3⟩
    simp only at h2 h3
    have hw := way_ok hg hi hk
    have hr := F68_ret (V := Way g i k) hg.gn hs (fun a ha => by
      rcases List.mem_append.1 ha with ha | ha
      · exact hEo a ha
      · exact hw.2 a ha) (by rw [List.length_append]; omega)
    rw [← F68b_eq] at hr
    have hmi := may_iff (k := k) hp.l hi h0 hE
    have hk2 : k < (g.choices.getD i TChoice.d).ways.length := hk
    unfold B64_15
    simp (disch := omega) only [Ret_some, Ret_none, Ret_bind, Ret_asrt, Ret_cond, Sum.elim_inl, Sum.elim_inr, decide_eq_true_eq, decide_eq_false_iff_not, Bool.not_eq_true', Bool.not_not, Bool.and_eq_true, Bool.or_eq_true, Bool.true_eq_false, Bool.false_eq_true, Bool.not_true, Bool.not_false, if_true, if_false, ite_true, ite_false, true_and, and_true, false_and, and_false, Int.toNat_natCast, toN_succ, Int.ofNat_eq_natCast, Int.ofNat_toNat, Nat.zero_add, Nat.add_zero, not_true_eq_false, not_false_eq_true, implies_true, wr64]
    rw [if_pos (by omega)]
    refine ⟨by omega, ?_⟩
    refine hr.mono fun r hx => ?_
    obtain ⟨r1, r2⟩ := r
    rcases hx with ⟨e1, s', e2, e3⟩ | ⟨e1, e2⟩
    · simp only at e1 e2
      subst e1 e2
      have hm := hmi.2 e3.least.feas
      simp (disch := omega) only [Ret_some, Ret_none, Ret_bind, Ret_asrt, Ret_cond, Sum.elim_inl, Sum.elim_inr, decide_eq_true_eq, decide_eq_false_iff_not, Bool.not_eq_true', Bool.not_not, Bool.and_eq_true, Bool.or_eq_true, Bool.true_eq_false, Bool.false_eq_true, Bool.not_true, Bool.not_false, if_true, if_false, ite_true, ite_false, true_and, and_true, false_and, and_false, Int.toNat_natCast, toN_succ, Int.ofNat_eq_natCast, Int.ofNat_toNat, Nat.zero_add, Nat.add_zero, not_true_eq_false, not_false_eq_true, implies_true, wr64]
      refine ⟨by omega, n + 1, by omega, by omega, h2.yes hm (fun _ => rfl), fun _ => ⟨k, s', by omega, rfl, rfl, e3⟩⟩
    · simp only at e1
      subst e1
      simp (disch := omega) only [Ret_some, Ret_none, Ret_bind, Ret_asrt, Ret_cond, Sum.elim_inl, Sum.elim_inr, decide_eq_true_eq, decide_eq_false_iff_not, Bool.not_eq_true', Bool.not_not, Bool.and_eq_true, Bool.or_eq_true, Bool.true_eq_false, Bool.false_eq_true, Bool.not_true, Bool.not_false, if_true, if_false, ite_true, ite_false, true_and, and_true, false_and, and_false, Int.toNat_natCast, toN_succ, Int.ofNat_eq_natCast, Int.ofNat_toNat, Nat.zero_add, Nat.add_zero, not_true_eq_false, not_false_eq_true, implies_true, wr64]
      refine ⟨by omega, n, rfl, by omega, h2.no (fun q => e2 (hmi.1 q)), fun q => ?_⟩
      obtain ⟨j, s', a1, a2⟩ := h3 q
      exact ⟨j, s', by omega, a2⟩
  · rintro ⟨x, y, v, z⟩ ⟨rfl, n, rfl, h1, h2, h3⟩
    simp only at h2 h3
    have hk2 : nw g i = (g.choices.getD i TChoice.d).ways.length := rfl
    unfold B64_15
    simp (disch := omega) only [Ret_some, Ret_none, Ret_bind, Ret_asrt, Ret_cond, Sum.elim_inl, Sum.elim_inr, decide_eq_true_eq, decide_eq_false_iff_not, Bool.not_eq_true', Bool.not_not, Bool.and_eq_true, Bool.or_eq_true, Bool.true_eq_false, Bool.false_eq_true, Bool.not_true, Bool.not_false, if_true, if_false, ite_true, ite_false, true_and, and_true, false_and, and_false, Int.toNat_natCast, toN_succ, Int.ofNat_eq_natCast, Int.ofNat_toNat, Nat.zero_add, Nat.add_zero, not_true_eq_false, not_false_eq_true, implies_true, wr64]
    rw [if_neg (by omega)]
    exact ⟨n, rfl, h2, h3⟩
structure Way64 (g : TGraph) (p0 : List Int) (m : List Int) : Prop where
  ok : PkOk g m
  ext : Ext g p0 m
  mn : ∀ t, Term g t → Ext g p0 t → Ext g m t
def Two (g : TGraph) (m : List Int) (j : Nat) : Prop := ¬ 0 < m.getD j 0 → ∃ k1 k2, k1 < nw g j ∧ k2 < nw g j ∧ k1 ≠ k2 ∧ May g m j k1 ∧ May g m j k2
theorem Way64.pick {g : TGraph} {p0 m : List Int} {i k : Nat} (h : Way64 g p0 m) (hi : i < g.choices.length) (hk : k < nw g i) (h0 : ¬ 0 < m.getD i 0) (hn : ∀ k', k' < nw g i → May g m i k' → k' = k) : Way64 g p0 (m.set i ((k : Int) + 1)) := by
  have hl := h.ok.l
  refine ⟨h.ok.set hi hk, fun j hj hp => ?_, fun t ht he => one_of hl ht (h.mn t ht he) hi h0 hn⟩
  have e := h.ext j hj hp
  have : j ≠ i := by rintro rfl; omega
  rw [set_getD (by omega), if_neg this]
  exact e
theorem Way64.none {g : TGraph} {p0 m : List Int} {i : Nat} (h : Way64 g p0 m) (hi : i < g.choices.length) (h0 : ¬ 0 < m.getD i 0) (hn : ∀ k, k < nw g i → ¬ May g m i k) : Fin g p0 none :=
  fun t ht he => none_of h.ok.l ht (h.mn t ht he) hi h0 hn
def So (g : TGraph) (v : Option TSolver) (m : List Int) : Prop := ∃ s E, v = some s ∧ Sol g E s ∧ (∀ a, a ∈ E ↔ a ∈ EN g m) ∧ E.length + 4 * op g m ≤ 250 + 4 * g.choices.length
theorem So.feas {g : TGraph} {v : Option TSolver} {m : List Int} (h : So g v m) : Feas g (EN g m) := by
  obtain ⟨s, E, _, h1, h2, _⟩ := h
  exact Feas.anti h1.least.feas fun a ha => (h2 a).2 ha
theorem L64_9_ret {g : TGraph} {p0 m : List Int} {v : Option TSolver} (hg : GOk g) (hm : Way64 g p0 m) (hs : So g v m) :
    Ret (L64_9 g (v, false, 0, m)) fun x => match x with
      | .inl y => Way64 g p0 y.2.2 ∧ So g y.1 y.2.2 ∧ (y.2.1 = false → y.2.2 = m ∧ Term g m) ∧ (y.2.1 = true → op g y.2.2 < op g m)
      | .inr r => r = ([], none, false) ∧ Fin g p0 none := by
  have hcl := hg.cl
  unfold L64_9
  refine Ret.loop g.choices.length (fun i st => st.2.2.1 = (i : Int) ∧ Way64 g p0 st.2.2.2 ∧ So g st.1 st.2.2.2 ∧ (st.2.1 = false → st.2.2.2 = m ∧ ∀ j, j < i → Two g m j) ∧ (st.2.1 = true → op g st.2.2.2 < op g m)) ⟨rfl, hm, hs, fun _ => ⟨rfl, fun j hj => by omega⟩, fun h => by simp at h⟩ ?_ ?_
  · rintro i ⟨v, b, z, m'⟩ hi ⟨rfl, h1, h2, h3, h4⟩
    simp only at h1 h2 h3 h4
    have hml := h1.ok.l
    unfold B64_9
    simp (disch := omega) only [Ret_some, Ret_none, Ret_bind, Ret_asrt, Ret_cond, Sum.elim_inl, Sum.elim_inr, decide_eq_true_eq, decide_eq_false_iff_not, Bool.not_eq_true', Bool.not_not, Bool.and_eq_true, Bool.or_eq_true, Bool.true_eq_false, Bool.false_eq_true, Bool.not_true, Bool.not_false, if_true, if_false, ite_true, ite_false, true_and, and_true, false_and, and_false, Int.toNat_natCast, toN_succ, Int.ofNat_eq_natCast, Int.ofNat_toNat, Nat.zero_add, Nat.add_zero, not_true_eq_false, not_false_eq_true, implies_true, wr64]
    rw [if_pos (by omega)]
    refine ⟨by omega, by omega, by omega, ?_⟩
    by_cases c : 0 < m'.getD i 0
    · rw [if_pos c]
      refine ⟨by omega, h1, h2, fun q => ?_, h4⟩
      obtain ⟨e1, e2⟩ := h3 q
      refine ⟨e1, fun j hj => ?_⟩
      by_cases e : j = i
      · subst e
        intro q2
        rw [← e1] at q2
        exact absurd c q2
      · exact e2 j (by omega)
    · rw [if_neg c]
      obtain ⟨s, E, rfl, s1, s2, s3⟩ := h2
      refine (L64_15_ret hg s1 s2 h1.ok hi c (by omega)).mono fun r ⟨n, r1, r2, r3⟩ => ?_
      obtain ⟨x, y, w⟩ := r
      simp only at r1 r2 r3
      subst r1
      dsimp only
      by_cases c0 : n = 0
      · rw [if_pos (by omega)]
        exact h1.none hi c fun k hk => r2.c0 c0 k hk
      · rw [if_neg (by omega)]
        by_cases c1 : n = 1
        · rw [if_pos (by omega)]
          obtain ⟨k, s', k1, rfl, rfl, k2⟩ := r3 (by omega)
          obtain ⟨j, j1, j2, j3, j4⟩ := r2.c1 c1
          obtain rfl : j = k := by omega
          have hop := op_set (k := j) hml hi c
          refine ⟨by omega, h1.pick hi k1 c j4, ⟨s', _, rfl, k2, fun a => ?_, ?_⟩, ?_⟩
          · rw [mem_EN_set hml hi c, List.mem_append, s2]
          · rw [List.length_append]
            have := (way_ok hg hi k1).1
            omega
          · refine ⟨fun q => by simp at q, fun _ => ?_⟩
            cases b with
            | true => have := h4 rfl; omega
            | false => rw [← (h3 rfl).1]; omega
        · rw [if_neg (by omega)]
          refine ⟨by omega, h1, ⟨s, E, rfl, s1, s2, s3⟩, fun q => ?_, h4⟩
          obtain ⟨e1, e2⟩ := h3 q
          refine ⟨e1, fun j hj => ?_⟩
          by_cases e : j = i
          · subst e
            intro _
            rw [← e1]
            exact r2.c2 (Nat.lt_of_le_of_ne (Nat.pos_of_ne_zero c0) (fun h => c1 h.symm))
          · exact e2 j (by omega)
  · rintro ⟨v, b, z, m'⟩ ⟨rfl, h1, h2, h3, h4⟩
    simp only at h1 h2 h3 h4
    unfold B64_9
    simp (disch := omega) only [Ret_some, Ret_none, Ret_bind, Ret_asrt, Ret_cond, Sum.elim_inl, Sum.elim_inr, decide_eq_true_eq, decide_eq_false_iff_not, Bool.not_eq_true', Bool.not_not, Bool.and_eq_true, Bool.or_eq_true, Bool.true_eq_false, Bool.false_eq_true, Bool.not_true, Bool.not_false, if_true, if_false, ite_true, ite_false, true_and, and_true, false_and, and_false, Int.toNat_natCast, toN_succ, Int.ofNat_eq_natCast, Int.ofNat_toNat, Nat.zero_add, Nat.add_zero, not_true_eq_false, not_false_eq_true, implies_true, wr64]
    rw [if_neg (by omega)]
    refine ⟨h1, h2, fun q => ?_, h4⟩
    obtain ⟨rfl, e2⟩ := h3 q
    exact ⟨rfl, h1.ok, h2.feas, fun i hi h0 => e2 i hi h0⟩
theorem L64_6_ret {g : TGraph} {p0 m : List Int} {v : Option TSolver} (hg : GOk g) (hm : Way64 g p0 m) (hs : So g v m) :
    Ret (L64_6 g (v, true, m)) fun x => match x with
      | .inl y => Way64 g p0 y.2 ∧ So g y.1 y.2 ∧ Term g y.2
      | .inr r => r = ([], none, false) ∧ Fin g p0 none := by
  unfold L64_6
  refine Ret.while (fun st => Way64 g p0 st.2.2 ∧ So g st.1 st.2.2 ∧ (st.2.1 = false → Term g st.2.2)) (fun st => 2 * op g st.2.2 + if st.2.1 = true then 1 else 0) ⟨hm, hs, fun h => by simp at h⟩ ?_
  rintro ⟨v, b, m⟩ ⟨h1, h2, h3⟩
  simp only at h1 h2 h3
  unfold B64_6
  cases b with
  | false =>
    simp (disch := omega) only [Ret_some, Ret_none, Ret_bind, Ret_asrt, Ret_cond, Sum.elim_inl, Sum.elim_inr, decide_eq_true_eq, decide_eq_false_iff_not, Bool.not_eq_true', Bool.not_not, Bool.and_eq_true, Bool.or_eq_true, Bool.true_eq_false, Bool.false_eq_true, Bool.not_true, Bool.not_false, if_true, if_false, ite_true, ite_false, true_and, and_true, false_and, and_false, Int.toNat_natCast, toN_succ, Int.ofNat_eq_natCast, Int.ofNat_toNat, Nat.zero_add, Nat.add_zero, not_true_eq_false, not_false_eq_true, implies_true, wr64]
    exact ⟨h1, h2, h3 rfl⟩
  | true =>
    simp (disch := omega) only [Ret_some, Ret_none, Ret_bind, Ret_asrt, Ret_cond, Sum.elim_inl, Sum.elim_inr, decide_eq_true_eq, decide_eq_false_iff_not, Bool.not_eq_true', Bool.not_not, Bool.and_eq_true, Bool.or_eq_true, Bool.true_eq_false, Bool.false_eq_true, Bool.not_true, Bool.not_false, if_true, if_false, ite_true, ite_false, true_and, and_true, false_and, and_false, Int.toNat_natCast, toN_succ, Int.ofNat_eq_natCast, Int.ofNat_toNat, Nat.zero_add, Nat.add_zero, not_true_eq_false, not_false_eq_true, implies_true, wr64]
    refine (L64_9_ret hg h1 h2).mono fun x hx => ?_
    rcases x with ⟨v', b', m'⟩ | r
    · obtain ⟨x1, x2, x3, x4⟩ := hx
      simp only at x1 x2 x3 x4
      simp (disch := omega) only [Ret_some, Ret_none, Ret_bind, Ret_asrt, Ret_cond, Sum.elim_inl, Sum.elim_inr, decide_eq_true_eq, decide_eq_false_iff_not, Bool.not_eq_true', Bool.not_not, Bool.and_eq_true, Bool.or_eq_true, Bool.true_eq_false, Bool.false_eq_true, Bool.not_true, Bool.not_false, if_true, if_false, ite_true, ite_false, true_and, and_true, false_and, and_false, Int.toNat_natCast, toN_succ, Int.ofNat_eq_natCast, Int.ofNat_toNat, Nat.zero_add, Nat.add_zero, not_true_eq_false, not_false_eq_true, implies_true, wr64]
      cases b' with
      | false =>
        obtain ⟨rfl, x5⟩ := x3 rfl
        exact ⟨⟨x1, x2, fun _ => x5⟩, by simp⟩
      | true =>
        have := x4 rfl
        exact ⟨⟨x1, x2, fun h => by simp at h⟩, by simp; omega⟩
    · obtain ⟨rfl, hx⟩ := hx
      simp (disch := omega) only [Ret_some, Ret_none, Ret_bind, Ret_asrt, Ret_cond, Sum.elim_inl, Sum.elim_inr, decide_eq_true_eq, decide_eq_false_iff_not, Bool.not_eq_true', Bool.not_not, Bool.and_eq_true, Bool.or_eq_true, Bool.true_eq_false, Bool.false_eq_true, Bool.not_true, Bool.not_false, if_true, if_false, ite_true, ite_false, true_and, and_true, false_and, and_false, Int.toNat_natCast, toN_succ, Int.ofNat_eq_natCast, Int.ofNat_toNat, Nat.zero_add, Nat.add_zero, not_true_eq_false, not_false_eq_true, implies_true, wr64]
      exact hx
theorem pk_len {g : TGraph} {p : List Int} (hg : GOk g) (hp : PkOk g p) : ∀ {i : Nat}, i ≤ g.choices.length → (pk g p i).length + 4 * sm (fun i => if 0 < p.getD i 0 then 0 else 1) i ≤ 250 + 4 * i
  | 0, _ => by have := hg.al; simpa [pk, sm] using this
  | i + 1, hi => by
    have ih := pk_len hg hp (i := i) (by omega)
    simp only [pk, sm, List.length_append]
    by_cases c : 0 < p.getD i 0
    · have := (pk_way hg hp (by rw [hp.l]; omega) c).1
      rw [if_pos c, if_pos c]
      omega
    · rw [if_neg c, if_neg c]
      simp only [List.length_nil]
      omega
theorem Ext.refl {g : TGraph} {p : List Int} : Ext g p p := fun _ _ _ => rfl
theorem Way64.refl {g : TGraph} {p : List Int} (h : PkOk g p) : Way64 g p p := ⟨h, Ext.refl, fun _ _ h => h⟩
theorem fin_no {g : TGraph} {p : List Int} (h : ¬ Feas g (EN g p)) : Fin g p none := fun t ht he => h (Feas.anti ht.fe fun a ha => EN_sub he ha)
theorem F64_ret {g : TGraph} {p : List Int} (hg : GOk g) (hp : PkOk g p) : Ret (F64 g p) fun r =>
    (r.2.2 = true ∧ Fin g p (some r.1) ∧ ∃ s, r.2.1 = some s ∧ IsLeast g (EN g r.1) s.times) ∨ (r.2.2 = false ∧ Fin g p none) := by
  have hcl := hg.cl
  have hpl := hp.l
  unfold F64
  simp (disch := omega) only [Ret_some, Ret_none, Ret_bind, Ret_asrt, Ret_cond, Sum.elim_inl, Sum.elim_inr, decide_eq_true_eq, decide_eq_false_iff_not, Bool.not_eq_true', Bool.not_not, Bool.and_eq_true, Bool.or_eq_true, Bool.true_eq_false, Bool.false_eq_true, Bool.not_true, Bool.not_false, if_true, if_false, ite_true, ite_false, true_and, and_true, false_and, and_false, Int.toNat_natCast, toN_succ, Int.ofNat_eq_natCast, Int.ofNat_toNat, Nat.zero_add, Nat.add_zero, not_true_eq_false, not_false_eq_true, implies_true, wr64]
  refine (F81_ret hg hp).mono fun r hr => ?_
  obtain ⟨r1, r2⟩ := r
  rw [hpl] at hr
  rcases hr with ⟨e1, s, e2, e3⟩ | ⟨e1, e2⟩
  · simp only at e1 e2
    subst e1 e2
    simp only [F67b_eq (l := p) (by omega)]
    simp (disch := omega) only [Ret_some, Ret_none, Ret_bind, Ret_asrt, Ret_cond, Sum.elim_inl, Sum.elim_inr, decide_eq_true_eq, decide_eq_false_iff_not, Bool.not_eq_true', Bool.not_not, Bool.and_eq_true, Bool.or_eq_true, Bool.true_eq_false, Bool.false_eq_true, Bool.not_true, Bool.not_false, if_true, if_false, ite_true, ite_false, true_and, and_true, false_and, and_false, Int.toNat_natCast, toN_succ, Int.ofNat_eq_natCast, Int.ofNat_toNat, Nat.zero_add, Nat.add_zero, not_true_eq_false, not_false_eq_true, implies_true, wr64]
    have hlen := pk_len hg hp (Nat.le_refl _)
    refine (L64_6_ret hg (Way64.refl hp) ⟨s, pk g p g.choices.length, rfl, e3, fun a => Iff.rfl, hlen⟩).mono fun x hx => ?_
    rcases x with ⟨v, m⟩ | r
    · obtain ⟨x1, ⟨s', E, x2, x3, x4, _⟩, x5⟩ := hx
      simp only at x1 x2 x4 x5
      subst x2
      simp (disch := omega) only [Ret_some, Ret_none, Ret_bind, Ret_asrt, Ret_cond, Sum.elim_inl, Sum.elim_inr, decide_eq_true_eq, decide_eq_false_iff_not, Bool.not_eq_true', Bool.not_not, Bool.and_eq_true, Bool.or_eq_true, Bool.true_eq_false, Bool.false_eq_true, Bool.not_true, Bool.not_false, if_true, if_false, ite_true, ite_false, true_and, and_true, false_and, and_false, Int.toNat_natCast, toN_succ, Int.ofNat_eq_natCast, Int.ofNat_toNat, Nat.zero_add, Nat.add_zero, not_true_eq_false, not_false_eq_true, implies_true, wr64, List.take_length]
      refine ⟨by omega, .inl ⟨⟨x5, x1.ext, x1.mn⟩, s', rfl, x3.least.same x4⟩⟩
    · obtain ⟨rfl, hx⟩ := hx
      simp (disch := omega) only [Ret_some, Ret_none, Ret_bind, Ret_asrt, Ret_cond, Sum.elim_inl, Sum.elim_inr, decide_eq_true_eq, decide_eq_false_iff_not, Bool.not_eq_true', Bool.not_not, Bool.and_eq_true, Bool.or_eq_true, Bool.true_eq_false, Bool.false_eq_true, Bool.not_true, Bool.not_false, if_true, if_false, ite_true, ite_false, true_and, and_true, false_and, and_false, Int.toNat_natCast, toN_succ, Int.ofNat_eq_natCast, Int.ofNat_toNat, Nat.zero_add, Nat.add_zero, not_true_eq_false, not_false_eq_true, implies_true, wr64]
      exact .inr hx
  · simp only at e1
    subst e1
    simp (disch := omega) only [Ret_some, Ret_none, Ret_bind, Ret_asrt, Ret_cond, Sum.elim_inl, Sum.elim_inr, decide_eq_true_eq, decide_eq_false_iff_not, Bool.not_eq_true', Bool.not_not, Bool.and_eq_true, Bool.or_eq_true, Bool.true_eq_false, Bool.false_eq_true, Bool.not_true, Bool.not_false, if_true, if_false, ite_true, ite_false, true_and, and_true, false_and, and_false, Int.toNat_natCast, toN_succ, Int.ofNat_eq_natCast, Int.ofNat_toNat, Nat.zero_add, Nat.add_zero, not_true_eq_false, not_false_eq_true, implies_true, wr64]
    exact .inr (fin_no e2)
/-! ### what follows (the reference) -/
theorem F43_fe {g : TGraph} {p : List Int} (hg : GOk g) (hp : PkOk g p) : Ret (F43 g p) fun r => r.2 = p ∧ ((r.1.2 = true ∧ Feas g (EN g p)) ∨ (r.1.2 = false ∧ ¬ Feas g (EN g p))) := by
  refine (F43_ret hg hp).mono fun r ⟨h0, h⟩ => ⟨h0, ?_⟩
  rw [hp.l] at h
  rcases h with ⟨h1, _, _, _, _, h6⟩ | ⟨h1, h2⟩
  · exact .inl ⟨h1, h6⟩
  · exact .inr ⟨h1, h2⟩
theorem L42_14_ret {g : TGraph} {p : List Int} {i : Nat} (hg : GOk g) (hp : PkOk g p) (hi : i < g.choices.length) (h0 : ¬ 0 < p.getD i 0) :
    Ret (L42_14 g (i : Int) ([], 0, p)) fun r => Cnt (May g p i) (nw g i) r.1.length (r.1.getD 0 0) ∧ r.1.length ≤ 3 ∧ r.2.set i 0 = p ∧ r.2.length = p.length := by
  have hn3 := nw_le hg hi
  have hpl := hp.l
  have hcl := hg.cl
  have hz : p.getD i 0 = 0 := by have := hp.ge i (by omega); omega
  unfold L42_14
  refine Ret.loop (nw g i) (fun k st => st.2.1 = (k : Int) ∧ Cnt (May g p i) k st.1.length (st.1.getD 0 0) ∧ st.1.length ≤ k ∧ st.2.2.length = p.length ∧ ∀ j, j ≠ i → st.2.2.getD j 0 = p.getD j 0) ⟨rfl, Cnt.zero, Nat.le_refl _, rfl, fun _ _ => rfl⟩ ?_ ?_
  · rintro k ⟨v, z, m⟩ hk ⟨rfl, h1, h2, h3, h4⟩
    simp only at h1 h2 h3 h4
    have hk2 : k < (g.choices.getD i TChoice.d).ways.length := hk
    have hset : m.set i ((k : Int) + 1) = p.set i ((k : Int) + 1) := by
      refine list_same (by simp [h3]) fun j hj => ?_
      rw [set_getD (by omega), set_getD (by omega)]
      split
      · rfl
      · rename_i e; exact h4 j e
    have hpo : PkOk g (p.set i ((k : Int) + 1)) := hp.set hi hk
    have hw : IntKind.wrap .i64 ((k : Int) + 1) = (k : Int) + 1 := wr64 (by omega) (by omega)
    have hf := F43_fe hg hpo
    rw [← hset] at hf
    have hmay : May g p i k ↔ Feas g (EN g (m.set i ((k : Int) + 1))) := by rw [hset]; exact Iff.rfl
    unfold B42_14
    simp (disch := omega) only [Ret_some, Ret_none, Ret_bind, Ret_asrt, Ret_cond, Sum.elim_inl, Sum.elim_inr, decide_eq_true_eq, decide_eq_false_iff_not, Bool.not_eq_true', Bool.not_not, Bool.and_eq_true, Bool.or_eq_true, Bool.true_eq_false, Bool.false_eq_true, Bool.not_true, Bool.not_false, if_true, if_false, ite_true, ite_false, true_and, and_true, false_and, and_false, Int.toNat_natCast, toN_succ, Int.ofNat_eq_natCast, Int.ofNat_toNat, Nat.zero_add, Nat.add_zero, not_true_eq_false, not_false_eq_true, implies_true, wr64, hw]
    rw [if_pos (by omega)]
    refine ⟨by omega, by omega, ?_⟩
    refine hf.mono fun r ⟨r0, hr⟩ => ?_
    obtain ⟨⟨r1, r2⟩, r3⟩ := r
    simp only at r0 hr
    subst r0
    rw [List.length_set]
    refine ⟨rfl, ?_⟩
    have hoff : ∀ j, j ≠ i → (m.set i ((k : Int) + 1)).getD j 0 = p.getD j 0 := fun j hj => by
      rw [set_getD (by omega), if_neg hj]; exact h4 j hj
    rcases hr with ⟨rfl, hr⟩ | ⟨rfl, hr⟩
    · simp (disch := omega) only [Ret_some, Ret_none, Ret_bind, Ret_asrt, Ret_cond, Sum.elim_inl, Sum.elim_inr, decide_eq_true_eq, decide_eq_false_iff_not, Bool.not_eq_true', Bool.not_not, Bool.and_eq_true, Bool.or_eq_true, Bool.true_eq_false, Bool.false_eq_true, Bool.not_true, Bool.not_false, if_true, if_false, ite_true, ite_false, true_and, and_true, false_and, and_false, Int.toNat_natCast, toN_succ, Int.ofNat_eq_natCast, Int.ofNat_toNat, Nat.zero_add, Nat.add_zero, not_true_eq_false, not_false_eq_true, implies_true, wr64]
      refine ⟨by omega, by omega, ?_, by rw [List.length_append]; simp; omega, h3, hoff⟩
      rw [List.length_append, List.length_singleton]
      refine h1.yes (hmay.2 hr) fun e => ?_
      have : v = [] := List.length_eq_zero_iff.1 e
      subst this
      simp
    · simp (disch := omega) only [Ret_some, Ret_none, Ret_bind, Ret_asrt, Ret_cond, Sum.elim_inl, Sum.elim_inr, decide_eq_true_eq, decide_eq_false_iff_not, Bool.not_eq_true', Bool.not_not, Bool.and_eq_true, Bool.or_eq_true, Bool.true_eq_false, Bool.false_eq_true, Bool.not_true, Bool.not_false, if_true, if_false, ite_true, ite_false, true_and, and_true, false_and, and_false, Int.toNat_natCast, toN_succ, Int.ofNat_eq_natCast, Int.ofNat_toNat, Nat.zero_add, Nat.add_zero, not_true_eq_false, not_false_eq_true, implies_true, wr64]
      exact ⟨by omega, h1.no (fun q => hr (hmay.1 q)), by omega, h3, hoff⟩
  · rintro ⟨v, z, m⟩ ⟨rfl, h1, h2, h3, h4⟩
    simp only at h1 h2 h3 h4
    have hk2 : nw g i = (g.choices.getD i TChoice.d).ways.length := rfl
    unfold B42_14
    simp (disch := omega) only [Ret_some, Ret_none, Ret_bind, Ret_asrt, Ret_cond, Sum.elim_inl, Sum.elim_inr, decide_eq_true_eq, decide_eq_false_iff_not, Bool.not_eq_true', Bool.not_not, Bool.and_eq_true, Bool.or_eq_true, Bool.true_eq_false, Bool.false_eq_true, Bool.not_true, Bool.not_false, if_true, if_false, ite_true, ite_false, true_and, and_true, false_and, and_false, Int.toNat_natCast, toN_succ, Int.ofNat_eq_natCast, Int.ofNat_toNat, Nat.zero_add, Nat.add_zero, not_true_eq_false, not_false_eq_true, implies_true, wr64]
    rw [if_neg (by omega)]
    refine ⟨h1, by omega, ?_, h3⟩
    refine list_same (by simp [h3]) fun j hj => ?_
    rw [List.length_set] at hj
    rw [set_getD (by omega)]
    split
    · rename_i e; subst e; exact hz.symm
    · rename_i e; exact h4 j e
theorem L42_9_ret {g : TGraph} {p0 m : List Int} (hg : GOk g) (hm : Way64 g p0 m) (hs : Feas g (EN g m)) :
    Ret (L42_9 g (false, 0, m)) fun x => match x with
      | .inl y => Way64 g p0 y.2 ∧ Feas g (EN g y.2) ∧ (y.1 = false → y.2 = m ∧ Term g m) ∧ (y.1 = true → op g y.2 < op g m)
      | .inr r => r = ([], false) ∧ Fin g p0 none := by
  have hcl := hg.cl
  have hml := hm.ok.l
  unfold L42_9
  refine Ret.loop g.choices.length (fun i st => st.2.1 = (i : Int) ∧ st.1 = false ∧ st.2.2 = m ∧ ∀ j, j < i → Two g m j) ⟨rfl, rfl, rfl, fun j hj => by omega⟩ ?_ ?_
  · rintro i ⟨b, z, m'⟩ hi ⟨e1, e2, e3, h3⟩
    simp only at e1 e2 e3
    subst e1 e2 e3
    unfold B42_9
    simp (disch := omega) only [Ret_some, Ret_none, Ret_bind, Ret_asrt, Ret_cond, Sum.elim_inl, Sum.elim_inr, decide_eq_true_eq, decide_eq_false_iff_not, Bool.not_eq_true', Bool.not_not, Bool.and_eq_true, Bool.or_eq_true, Bool.true_eq_false, Bool.false_eq_true, Bool.not_true, Bool.not_false, if_true, if_false, ite_true, ite_false, true_and, and_true, false_and, and_false, Int.toNat_natCast, toN_succ, Int.ofNat_eq_natCast, Int.ofNat_toNat, Nat.zero_add, Nat.add_zero, not_true_eq_false, not_false_eq_true, implies_true, wr64]
    rw [if_pos (by omega)]
    refine ⟨by omega, by omega, by omega, ?_⟩
    by_cases c : 0 < m'.getD i 0
    · rw [if_pos c]
      refine ⟨by omega, fun j hj => ?_⟩
      by_cases e : j = i
      · subst e
        exact fun q => absurd c q
      · exact h3 j (by omega)
    · rw [if_neg c]
      refine (L42_14_ret hg hm.ok hi c).mono fun r ⟨r1, r2, r3, r4⟩ => ?_
      obtain ⟨v, m2⟩ := r
      simp only at r1 r2 r3 r4
      dsimp only
      refine ⟨by omega, by omega, ?_⟩
      rw [r3]
      by_cases c0 : v.length = 0
      · rw [if_pos (by omega)]
        exact hm.none hi c fun k hk => r1.c0 c0 k hk
      · rw [if_neg (by omega)]
        by_cases c1 : v.length = 1
        · rw [if_pos (by omega)]
          obtain ⟨j, j1, j2, j3, j4⟩ := r1.c1 c1
          rw [j2]
          have hop := op_set (k := j) hml hi c
          refine ⟨by omega, hm.pick hi j1 c j4, j3, ?_⟩
          refine ⟨fun q => absurd q (by simp), fun _ => by omega⟩
        · rw [if_neg (by omega)]
          refine ⟨by omega, rfl, fun j hj => ?_⟩
          by_cases e : j = i
          · subst e
            exact fun _ => r1.c2 (Nat.lt_of_le_of_ne (Nat.pos_of_ne_zero c0) (fun h => c1 h.symm))
          · exact h3 j (by omega)
  · rintro ⟨b, z, m'⟩ ⟨e1, e2, e3, h3⟩
    simp only at e1 e2 e3
    subst e1 e2 e3
    unfold B42_9
    simp (disch := omega) only [Ret_some, Ret_none, Ret_bind, Ret_asrt, Ret_cond, Sum.elim_inl, Sum.elim_inr, decide_eq_true_eq, decide_eq_false_iff_not, Bool.not_eq_true', Bool.not_not, Bool.and_eq_true, Bool.or_eq_true, Bool.true_eq_false, Bool.false_eq_true, Bool.not_true, Bool.not_false, if_true, if_false, ite_true, ite_false, true_and, and_true, false_and, and_false, Int.toNat_natCast, toN_succ, Int.ofNat_eq_natCast, Int.ofNat_toNat, Nat.zero_add, Nat.add_zero, not_true_eq_false, not_false_eq_true, implies_true, wr64]
    rw [if_neg (by omega)]
    exact ⟨hm, hs, fun _ => ⟨hm.ok, hs, fun i hi h0 => h3 i hi h0⟩, fun q => q.elim⟩
theorem L42_6_ret {g : TGraph} {p0 m : List Int} (hg : GOk g) (hm : Way64 g p0 m) (hs : Feas g (EN g m)) :
    Ret (L42_6 g (true, m)) fun x => match x with
      | .inl y => Way64 g p0 y ∧ Term g y
      | .inr r => r = ([], false) ∧ Fin g p0 none := by
  unfold L42_6
  refine Ret.while (fun st => Way64 g p0 st.2 ∧ Feas g (EN g st.2) ∧ (st.1 = false → Term g st.2)) (fun st => 2 * op g st.2 + if st.1 = true then 1 else 0) ⟨hm, hs, fun h => by simp at h⟩ ?_
  rintro ⟨b, m⟩ ⟨h1, h2, h3⟩
  simp only at h1 h2 h3
  unfold B42_6
  cases b with
  | false =>
    simp (disch := omega) only [Ret_some, Ret_none, Ret_bind, Ret_asrt, Ret_cond, Sum.elim_inl, Sum.elim_inr, decide_eq_true_eq, decide_eq_false_iff_not, Bool.not_eq_true', Bool.not_not, Bool.and_eq_true, Bool.or_eq_true, Bool.true_eq_false, Bool.false_eq_true, Bool.not_true, Bool.not_false, if_true, if_false, ite_true, ite_false, true_and, and_true, false_and, and_false, Int.toNat_natCast, toN_succ, Int.ofNat_eq_natCast, Int.ofNat_toNat, Nat.zero_add, Nat.add_zero, not_true_eq_false, not_false_eq_true, implies_true, wr64]
    exact ⟨h1, h3 rfl⟩
  | true =>
    simp (disch := omega) only [Ret_some, Ret_none, Ret_bind, Ret_asrt, Ret_cond, Sum.elim_inl, Sum.elim_inr, decide_eq_true_eq, decide_eq_false_iff_not, Bool.not_eq_true', Bool.not_not, Bool.and_eq_true, Bool.or_eq_true, Bool.true_eq_false, Bool.false_eq_true, Bool.not_true, Bool.not_false, if_true, if_false, ite_true, ite_false, true_and, and_true, false_and, and_false, Int.toNat_natCast, toN_succ, Int.ofNat_eq_natCast, Int.ofNat_toNat, Nat.zero_add, Nat.add_zero, not_true_eq_false, not_false_eq_true, implies_true, wr64]
    refine (L42_9_ret hg h1 h2).mono fun x hx => ?_
    rcases x with ⟨b', m'⟩ | r
    · obtain ⟨x1, x2, x3, x4⟩ := hx
      simp only at x1 x2 x3 x4
      simp (disch := omega) only [Ret_some, Ret_none, Ret_bind, Ret_asrt, Ret_cond, Sum.elim_inl, Sum.elim_inr, decide_eq_true_eq, decide_eq_false_iff_not, Bool.not_eq_true', Bool.not_not, Bool.and_eq_true, Bool.or_eq_true, Bool.true_eq_false, Bool.false_eq_true, Bool.not_true, Bool.not_false, if_true, if_false, ite_true, ite_false, true_and, and_true, false_and, and_false, Int.toNat_natCast, toN_succ, Int.ofNat_eq_natCast, Int.ofNat_toNat, Nat.zero_add, Nat.add_zero, not_true_eq_false, not_false_eq_true, implies_true, wr64]
      cases b' with
      | false =>
        obtain ⟨rfl, x5⟩ := x3 rfl
        exact ⟨⟨x1, x2, fun _ => x5⟩, by simp⟩
      | true =>
        have := x4 rfl
        exact ⟨⟨x1, x2, fun h => by simp at h⟩, by simp; omega⟩
    · obtain ⟨rfl, hx⟩ := hx
      simp (disch := omega) only [Ret_some, Ret_none, Ret_bind, Ret_asrt, Ret_cond, Sum.elim_inl, Sum.elim_inr, decide_eq_true_eq, decide_eq_false_iff_not, Bool.not_eq_true', Bool.not_not, Bool.and_eq_true, Bool.or_eq_true, Bool.true_eq_false, Bool.false_eq_true, Bool.not_true, Bool.not_false, if_true, if_false, ite_true, ite_false, true_and, and_true, false_and, and_false, Int.toNat_natCast, toN_succ, Int.ofNat_eq_natCast, Int.ofNat_toNat, Nat.zero_add, Nat.add_zero, not_true_eq_false, not_false_eq_true, implies_true, wr64]
      exact hx
theorem F42_res {g : TGraph} {p : List Int} (hg : GOk g) (hp : PkOk g p) : Ret (F42 g p) fun r => (r.2 = true ∧ Fin g p (some r.1)) ∨ (r.2 = false ∧ Fin g p none) := by
  have hcl := hg.cl
  have hpl := hp.l
  unfold F42
  simp only [F67b_eq (l := p) (by omega), Option.bind_some]
  simp (disch := omega) only [Ret_some, Ret_none, Ret_bind, Ret_asrt, Ret_cond, Sum.elim_inl, Sum.elim_inr, decide_eq_true_eq, decide_eq_false_iff_not, Bool.not_eq_true', Bool.not_not, Bool.and_eq_true, Bool.or_eq_true, Bool.true_eq_false, Bool.false_eq_true, Bool.not_true, Bool.not_false, if_true, if_false, ite_true, ite_false, true_and, and_true, false_and, and_false, Int.toNat_natCast, toN_succ, Int.ofNat_eq_natCast, Int.ofNat_toNat, Nat.zero_add, Nat.add_zero, not_true_eq_false, not_false_eq_true, implies_true, wr64]
  refine (F43_fe hg hp).mono fun r ⟨r0, hr⟩ => ?_
  obtain ⟨⟨r1, r2⟩, r3⟩ := r
  simp only at r0 hr
  subst r0
  refine ⟨rfl, ?_⟩
  rcases hr with ⟨rfl, hr⟩ | ⟨rfl, hr⟩
  · simp (disch := omega) only [Ret_some, Ret_none, Ret_bind, Ret_asrt, Ret_cond, Sum.elim_inl, Sum.elim_inr, decide_eq_true_eq, decide_eq_false_iff_not, Bool.not_eq_true', Bool.not_not, Bool.and_eq_true, Bool.or_eq_true, Bool.true_eq_false, Bool.false_eq_true, Bool.not_true, Bool.not_false, if_true, if_false, ite_true, ite_false, true_and, and_true, false_and, and_false, Int.toNat_natCast, toN_succ, Int.ofNat_eq_natCast, Int.ofNat_toNat, Nat.zero_add, Nat.add_zero, not_true_eq_false, not_false_eq_true, implies_true, wr64]
    refine (L42_6_ret hg (Way64.refl hp) hr).mono fun x hx => ?_
    rcases x with m | r
    · obtain ⟨x1, x2⟩ := hx
      simp (disch := omega) only [Ret_some, Ret_none, Ret_bind, Ret_asrt, Ret_cond, Sum.elim_inl, Sum.elim_inr, decide_eq_true_eq, decide_eq_false_iff_not, Bool.not_eq_true', Bool.not_not, Bool.and_eq_true, Bool.or_eq_true, Bool.true_eq_false, Bool.false_eq_true, Bool.not_true, Bool.not_false, if_true, if_false, ite_true, ite_false, true_and, and_true, false_and, and_false, Int.toNat_natCast, toN_succ, Int.ofNat_eq_natCast, Int.ofNat_toNat, Nat.zero_add, Nat.add_zero, not_true_eq_false, not_false_eq_true, implies_true, wr64, List.take_length]
      exact ⟨by omega, .inl ⟨x2, x1.ext, x1.mn⟩⟩
    · obtain ⟨rfl, hx⟩ := hx
      simp (disch := omega) only [Ret_some, Ret_none, Ret_bind, Ret_asrt, Ret_cond, Sum.elim_inl, Sum.elim_inr, decide_eq_true_eq, decide_eq_false_iff_not, Bool.not_eq_true', Bool.not_not, Bool.and_eq_true, Bool.or_eq_true, Bool.true_eq_false, Bool.false_eq_true, Bool.not_true, Bool.not_false, if_true, if_false, ite_true, ite_false, true_and, and_true, false_and, and_false, Int.toNat_natCast, toN_succ, Int.ofNat_eq_natCast, Int.ofNat_toNat, Nat.zero_add, Nat.add_zero, not_true_eq_false, not_false_eq_true, implies_true, wr64]
      exact .inr hx
  · simp (disch := omega) only [Ret_some, Ret_none, Ret_bind, Ret_asrt, Ret_cond, Sum.elim_inl, Sum.elim_inr, decide_eq_true_eq, decide_eq_false_iff_not, Bool.not_eq_true', Bool.not_not, Bool.and_eq_true, Bool.or_eq_true, Bool.true_eq_false, Bool.false_eq_true, Bool.not_true, Bool.not_false, if_true, if_false, ite_true, ite_false, true_and, and_true, false_and, and_false, Int.toNat_natCast, toN_succ, Int.ofNat_eq_natCast, Int.ofNat_toNat, Nat.zero_add, Nat.add_zero, not_true_eq_false, not_false_eq_true, implies_true, wr64]
    exact .inr (fin_no hr)
theorem F43b_tm {g : TGraph} {p : List Int} (hg : GOk g) (hp : PkOk g p) (hf : Feas g (EN g p)) : Ret (F43b g p) fun r => IsLeast g (EN g p) r.1.1 := by
  refine (F43b_ret hg hp).mono fun r h => ?_
  rw [hp.l] at h
  rcases h with ⟨h1, h2, h3, h4, h5, h6⟩ | ⟨h1, h2⟩
  · exact ⟨h2, h3, h4, h5, by
      obtain ⟨S, s1, s2, s3⟩ := h6
      exact fun v hv hl => Int.le_trans (h5 S s1 s2 v hv) (s3 v hv hl)⟩
  · exact absurd hf h2
theorem F10_true (g : TGraph) (p : List Int) : F10 g p = some true := by
  obtain ⟨q, f79, f41, hq⟩ := pick_ret g p
  unfold F10 F39 F40
  rw [f79, f41, show F23 = some true from rfl]
  simp only [Option.bind_some]
  by_cases c : q = 0
  · obtain ⟨hgo, hpo⟩ := hq c
    have hn := hgo.gn.n
    have hcl := hgo.cl
    obtain ⟨⟨x1, x2, x3⟩, e64, hx⟩ := F64_ret hgo hpo
    obtain ⟨⟨y1, y2⟩, e42, hy⟩ := F42_res hgo hpo
    simp only at hx hy
    rcases hx with ⟨rfl, hx, s, rfl, hs⟩ | ⟨rfl, hx⟩
    · rcases hy with ⟨rfl, hy⟩ | ⟨rfl, hy⟩
      · have := hx.uniq hy
        simp only [Option.some.injEq] at this
        subst this
        obtain ⟨r, e43, hr⟩ := F43b_tm hgo hx.1.ok hx.1.fe
        have e := hs.uniq hr
        have hxl := hx.1.ok.l
        have e66 : F66 g s.times = some (dly g s.times) := F66_dly hgo hs.len
        have e44 : F44 g r.1.1 = some (dly g s.times) := by rw [← e]; exact F44_dly hgo hs.len
        have e28 := F28_refl (l := x1) (by omega)
        simp [c, e64, e42, e43, e66, e44, e28, asrt]
      · exact absurd (hx.uniq hy) (by simp)
    · rcases hy with ⟨rfl, hy⟩ | ⟨rfl, hy⟩
      · exact absurd (hx.uniq hy) (by simp)
      · simp [c, e64, e42]
  · simp [c]
end Go.Proofs.Ytecaleolkdoggaa
