/- Depots and moves: the plain law. -/
import Derived.Test.YtciflideblafgaaMvT
open Go Go.Proofs.Ytciflideblafgaa.Fw
namespace Go.Proofs.Ytciflideblafgaa
set_option maxRecDepth 100000
set_option linter.unusedSimpArgs false
set_option linter.unusedVariables false
/-- A depot as CheckDepot wants it. -/
structure DOk (d : Depot) : Prop where
  r1 : 1 ≤ d.room.length
  r4 : d.room.length ≤ 4
  len : d.tracks.length = d.room.length
  each : ∀ i, i < d.tracks.length → (1 ≤ d.room.getD i 0 ∧ d.room.getD i 0 ≤ 4) ∧ ((d.tracks.getD i []).length : Int) ≤ d.room.getD i 0
  rng : ∀ s ∈ d.tracks.flatten, 0 ≤ s ∧ s ≤ 99
  nodup : d.tracks.flatten.Nodup

theorem trkF_ok : ∀ (t m : List Int), (∀ s ∈ t, (0 ≤ s ∧ s ≤ 99) ∧ s ∉ m) → t.Nodup → trkF m t = .inr (m ++ t)
  | [], m, _, _ => by simp [trkF]
  | s :: r, m, h, hn => by
    have h0 := h s (by simp)
    have hb : inB s 0 99 = true := by simp [inB, h0.1]
    have hc : m.contains s = false := by simp [h0.2]
    have hn' := List.nodup_cons.1 hn
    simp only [trkF, hb, hc, if_true, if_false, Bool.false_eq_true]
    rw [trkF_ok r (m ++ [s]) (fun x hx => ⟨(h x (by simp [hx])).1, by
      simp only [List.mem_append, List.mem_singleton, not_or]
      exact ⟨(h x (by simp [hx])).2, fun e => hn'.1 (e ▸ hx)⟩⟩) hn'.2]
    simp

theorem trkF_inv : ∀ (t m m' : List Int), trkF m t = .inr m' → m' = m ++ t ∧ (∀ s ∈ t, (0 ≤ s ∧ s ≤ 99) ∧ s ∉ m) ∧ t.Nodup
  | [], m, m', h => by simp [trkF] at h; subst h; simp
  | s :: r, m, m', h => by
    simp only [trkF] at h
    split at h
    · rename_i hb
      split at h
      · simp at h
      · rename_i hc
        obtain ⟨h1, h2, h3⟩ := trkF_inv r (m ++ [s]) m' h
        have hb' : 0 ≤ s ∧ s ≤ 99 := by simpa [inB] using hb
        have hc' : s ∉ m := by simpa using hc
        refine ⟨by rw [h1]; simp, fun x hx => ?_, List.nodup_cons.2 ⟨fun hs => ?_, h3⟩⟩
        · rcases List.mem_cons.1 hx with rfl | hx
          · exact ⟨hb', hc'⟩
          · have := h2 x hx
            exact ⟨this.1, fun hm => this.2 (by simp [hm])⟩
        · exact (h2 s hs).2 (by simp)
    · simp at h

theorem depF_ok : ∀ (rs : List Int) (ts : List (List Int)) (m : List Int), rs.length = ts.length → (∀ i, i < ts.length → (1 ≤ rs.getD i 0 ∧ rs.getD i 0 ≤ 4) ∧ ((ts.getD i []).length : Int) ≤ rs.getD i 0) →
    (∀ s ∈ ts.flatten, (0 ≤ s ∧ s ≤ 99) ∧ s ∉ m) → ts.flatten.Nodup → depF m rs ts = 0
  | [], [], m, _, _, _, _ => rfl
  | [], _ :: _, m, h, _, _, _ => by simp at h
  | _ :: _, [], m, h, _, _, _ => by simp at h
  | r :: rs, t :: ts, m, hl, he, hs, hn => by
    have h0 := he 0 (by simp)
    simp only [List.getD_cons_zero] at h0
    have hb : inB r 1 4 = true := by simp [inB, h0.1]
    simp only [List.flatten_cons, List.nodup_append] at hn hs
    obtain ⟨hn1, hn2, hn3⟩ := hn
    simp only [depF, hb, if_true]
    rw [if_neg (by omega), trkF_ok t m (fun s h => hs s (by simp [h])) hn1]
    simp only
    refine depF_ok rs ts (m ++ t) (by simpa using hl) (fun i hi => by simpa using he (i + 1) (by simpa using hi)) (fun s h => ⟨(hs s (by simp [h])).1, ?_⟩) hn2
    simp only [List.mem_append, not_or]
    exact ⟨(hs s (by simp [h])).2, fun ht => hn3 s ht s h rfl⟩

theorem depF_inv : ∀ (rs : List Int) (ts : List (List Int)) (m : List Int), rs.length = ts.length → depF m rs ts = 0 →
    (∀ i, i < ts.length → (1 ≤ rs.getD i 0 ∧ rs.getD i 0 ≤ 4) ∧ ((ts.getD i []).length : Int) ≤ rs.getD i 0) ∧ (∀ s ∈ ts.flatten, (0 ≤ s ∧ s ≤ 99) ∧ s ∉ m) ∧ ts.flatten.Nodup
  | [], [], m, _, _ => ⟨fun i hi => by simp at hi, fun s hs => by simp at hs, by simp⟩
  | [], _ :: _, m, h, _ => by simp at h
  | _ :: _, [], m, h, _ => by simp at h
  | r :: rs, t :: ts, m, hl, h => by
    simp only [depF] at h
    split at h
    · rename_i hb
      have hb' : 1 ≤ r ∧ r ≤ 4 := by simpa [inB] using hb
      split at h
      · simp at h
      · rename_i hlen
        split at h
        · rename_i e he
          subst h
          have : ∀ (t m : List Int), trkF m t ≠ .inl 0 := by
            intro t
            induction t with
            | nil => intro m; simp [trkF]
            | cons s r ih =>
              intro m
              simp only [trkF]
              split
              · split
                · simp
                · exact ih _
              · simp
          exact absurd he (this _ _)
        · rename_i m' hm'
          obtain ⟨h1, h2, h3⟩ := trkF_inv t m m' hm'
          subst h1
          obtain ⟨g1, g2, g3⟩ := depF_inv rs ts (m ++ t) (by simpa using hl) h
          refine ⟨fun i hi => ?_, fun s hs => ?_, ?_⟩
          · cases i with
            | zero => simp; omega
            | succ i => simpa using g1 i (by simpa using hi)
          · simp only [List.flatten_cons, List.mem_append] at hs
            rcases hs with hs | hs
            · exact h2 s hs
            · have := g2 s hs
              simp only [List.mem_append, not_or] at this
              exact ⟨this.1, this.2.1⟩
          · simp only [List.flatten_cons, List.nodup_append]
            refine ⟨h3, g3, fun a ha b hb e => ?_⟩
            subst e
            have := (g2 a hb).2
            simp [ha] at this
    · simp at h

theorem depotF_iff (d : Depot) : depotF d = 0 ↔ DOk d := by
  constructor
  · intro h
    unfold depotF at h
    split at h
    · rename_i hb
      have hb' : 1 ≤ d.room.length ∧ d.room.length ≤ 4 := by simp [inB] at hb; omega
      split at h
      · rename_i hl
        obtain ⟨h1, h2, h3⟩ := depF_inv d.room d.tracks [] hl.symm h
        exact ⟨hb'.1, hb'.2, hl, h1, fun s hs => (h2 s hs).1, h3⟩
      · simp at h
    · simp at h
  · intro h
    have h1 := h.r1
    have h4 := h.r4
    have hb : inB d.room.length 1 4 = true := by simp [inB]; omega
    unfold depotF
    rw [if_pos hb, if_pos h.len]
    exact depF_ok d.room d.tracks [] h.len.symm h.each (fun s hs => ⟨h.rng s hs, by simp⟩) h.nodup

/-- what a move says -/
def doE (d : Depot) (m : Move) : Int :=
  if 0 ≤ m.frm ∧ m.frm < d.tracks.length ∧ -1 ≤ m.to ∧ m.to < d.tracks.length then
    (if m.frm = m.to then 1 else if (d.tracks.getD m.frm.toNat []).length = 0 then 9 else if 0 ≤ m.to ∧ d.room.getD m.to.toNat 0 ≤ ((d.tracks.getD m.to.toNat []).length : Int) then 14 else 0)
  else 2

def mvD (d : Depot) (m : Move) : Depot := ⟨d.room, if 0 ≤ m.to then (cutT d m).set m.to.toNat ((cutT d m).getD m.to.toNat [] ++ [mvS d m]) else cutT d m⟩

theorem flat_set {x : List Int} : ∀ {l : List (List Int)} {i : Nat}, i < l.length → ((l.set i x).flatten ++ l.getD i []).Perm (l.flatten ++ x)
  | [], _, h => by simp at h
  | a :: r, 0, _ => by
    simp only [List.set_cons_zero, List.flatten_cons, List.getD_cons_zero]
    calc (x ++ r.flatten ++ a).Perm (a ++ (x ++ r.flatten)) := List.perm_append_comm
      _ = a ++ x ++ r.flatten := by simp
      _ |>.Perm (a ++ r.flatten ++ x) := by
        simp only [List.append_assoc]
        exact List.Perm.append_left a List.perm_append_comm
  | a :: r, i + 1, h => by
    simp only [List.set_cons_succ, List.flatten_cons, List.getD_cons_succ, List.append_assoc]
    exact List.Perm.append_left a (flat_set (by simpa using h))

theorem last_split (t : List Int) (h : t.length ≠ 0) : t = t.take (t.length - 1) ++ [t.getD (t.length - 1) 0] := by
  rcases List.eq_nil_or_concat t with rfl | ⟨r, s, rfl⟩
  · simp at h
  · simp

theorem doE_zero {d : Depot} {m : Move} (h : doE d m = 0) : (0 ≤ m.frm ∧ m.frm < d.tracks.length ∧ -1 ≤ m.to ∧ m.to < d.tracks.length) ∧ m.frm ≠ m.to ∧ (d.tracks.getD m.frm.toNat []).length ≠ 0 ∧
    (0 ≤ m.to → ((d.tracks.getD m.to.toNat []).length : Int) < d.room.getD m.to.toNat 0) := by
  unfold doE at h
  split at h
  · rename_i h1
    split at h
    · simp at h
    · split at h
      · simp at h
      · split at h
        · simp at h
        · rename_i h2 h3 h4
          exact ⟨h1, h2, h3, fun h5 => by
            have : ¬ d.room.getD m.to.toNat 0 ≤ ((d.tracks.getD m.to.toNat []).length : Int) := fun h6 => h4 ⟨h5, h6⟩
            omega⟩
  · simp at h

theorem cut_perm {d : Depot} {m : Move} (h : doE d m = 0) : d.tracks.flatten.Perm ((cutT d m).flatten ++ [mvS d m]) := by
  obtain ⟨⟨h1, h2, h3, h4⟩, h5, h6, h7⟩ := doE_zero h
  have hi : m.frm.toNat < d.tracks.length := by omega
  have hp := flat_set (x := (d.tracks.getD m.frm.toNat []).take ((d.tracks.getD m.frm.toNat []).length - 1)) hi
  have hs := last_split _ h6
  show d.tracks.flatten.Perm ((d.tracks.set m.frm.toNat _).flatten ++ [(d.tracks.getD m.frm.toNat []).getD _ 0])
  generalize d.tracks.getD m.frm.toNat [] = t at hp hs ⊢
  generalize t.take (t.length - 1) = t' at hp hs ⊢
  generalize t.getD (t.length - 1) 0 = s at hs ⊢
  subst hs
  refine (List.perm_append_right_iff t').1 (hp.symm.trans ?_)
  rw [List.append_assoc]
  exact List.Perm.append_left _ List.perm_append_comm

theorem cutT_len (d : Depot) (m : Move) : (cutT d m).length = d.tracks.length := by simp [cutT]

theorem mv_perm {d : Depot} {m : Move} (h : doE d m = 0) (h0 : 0 ≤ m.to) : d.tracks.flatten.Perm (mvD d m).tracks.flatten := by
  obtain ⟨⟨h1, h2, h3, h4⟩, h5, h6, h7⟩ := doE_zero h
  have hi : m.to.toNat < (cutT d m).length := by rw [cutT_len]; omega
  have hp := flat_set (x := (cutT d m).getD m.to.toNat [] ++ [mvS d m]) hi
  simp only [mvD, h0, if_true]
  refine (cut_perm h).trans ?_
  refine (List.perm_append_right_iff ((cutT d m).getD m.to.toNat [])).1 ?_
  refine List.Perm.trans ?_ hp.symm
  rw [List.append_assoc]
  exact List.Perm.append_left _ List.perm_append_comm

theorem mvD_ok {d : Depot} {m : Move} (hd : DOk d) (h : doE d m = 0) : DOk (mvD d m) := by
  obtain ⟨⟨h1, h2, h3, h4⟩, h5, h6, h7⟩ := doE_zero h
  have hcp := cut_perm h
  have hlen : (mvD d m).tracks.length = d.tracks.length := by
    simp only [mvD]; split <;> simp [cutT_len]
  have ecut : ∀ i, i < d.tracks.length → ((cutT d m).getD i []).length ≤ (d.tracks.getD i []).length := by
    intro i hi
    simp only [cutT, List.getD_eq_getElem?_getD, List.getElem?_set]
    split
    · rename_i e; subst e; simp [hi]
    · exact Nat.le_refl _
  refine ⟨hd.r1, hd.r4, by rw [hlen]; exact hd.len, fun i hi => ?_, fun s hs => ?_, ?_⟩
  · rw [hlen] at hi
    have he := hd.each i hi
    have hc := ecut i hi
    refine ⟨he.1, ?_⟩
    simp only [mvD]
    split
    · rename_i h0
      by_cases e : m.to.toNat = i
      · subst e
        have hh := h7 h0
        have hne : m.frm.toNat ≠ m.to.toNat := by omega
        have e1 : (cutT d m).getD m.to.toNat [] = d.tracks.getD m.to.toNat [] := by
          simp [cutT, List.getD_eq_getElem?_getD, List.getElem?_set, hne]
        simp only [List.getD_eq_getElem?_getD, List.getElem?_set, cutT_len, hi, if_true] at *
        rw [e1] at *
        simp
        omega
      · have e2 : ((cutT d m).set m.to.toNat ((cutT d m).getD m.to.toNat [] ++ [mvS d m])).getD i [] = (cutT d m).getD i [] := by
          simp [List.getD_eq_getElem?_getD, List.getElem?_set, e]
        rw [e2]; omega
    · omega
  · by_cases h0 : 0 ≤ m.to
    · exact hd.rng s ((mv_perm h h0).mem_iff.2 hs)
    · simp only [mvD, h0, if_false] at hs
      exact hd.rng s (hcp.mem_iff.2 (by simp [hs]))
  · by_cases h0 : 0 ≤ m.to
    · exact (mv_perm h h0).nodup_iff.1 hd.nodup
    · simp only [mvD, h0, if_false]
      have := hcp.nodup_iff.1 hd.nodup
      exact (List.nodup_append.1 this).1

theorem mv_total {d : Depot} {m : Move} (h : doE d m = 0) : (mvD d m).tracks.flatten.length + (if m.to < 0 then 1 else 0) = d.tracks.flatten.length := by
  by_cases h0 : 0 ≤ m.to
  · rw [if_neg (by omega), (mv_perm h h0).length_eq]; rfl
  · rw [if_pos (by omega), (cut_perm h).length_eq]
    simp only [mvD, h0, if_false, List.length_append, List.length_singleton]

theorem mvS_rng {d : Depot} {m : Move} (hd : DOk d) (h : doE d m = 0) : 0 ≤ mvS d m := (hd.rng _ ((cut_perm h).mem_iff.2 (by simp))).1

theorem total_le {d : Depot} (hd : DOk d) : d.tracks.flatten.length ≤ 16 := by
  have key : ∀ (l : List (List Int)), (∀ t ∈ l, t.length ≤ 4) → l.flatten.length ≤ 4 * l.length := by
    intro l
    induction l with
    | nil => intro _; simp
    | cons a r ih =>
      intro h
      have h1 := h a (by simp)
      have h2 := ih (fun t ht => h t (by simp [ht]))
      simp only [List.flatten_cons, List.length_append, List.length_cons]; omega
  have := key d.tracks (fun t ht => by
    obtain ⟨i, hi, rfl⟩ := List.getElem_of_mem ht
    have := hd.each i hi
    simp only [List.getD_eq_getElem?_getD, List.getElem?_eq_getElem hi, Option.getD_some] at this
    omega)
  have := hd.len
  have := hd.r4
  omega

end Go.Proofs.Ytciflideblafgaa
