/- From a function's contract to its row: what the arguments' cells hold. -/
import Derived.Test.YtgghnfmabphbmaaA17
import Derived.ChangeArms
import Derived.Below
import Derived.SizedLaws
namespace Go.Proofs.Ytgghnfmabphbmaa.Fw
open Go Go.RowKit
set_option linter.unusedSimpArgs false
set_option linter.unusedVariables false

theorem j_zero {j : Nat} (h : j < 1) : j = 0 := by omega

/-- A caller's memory: nobody's. -/
abbrev freeO : Nat → Own := fun _ => .free

/-- A datum of which no part passes the largest size. -/
def Sized {H : Type} (P : Program) (t : TypeId) (d : DataW H) : Prop := ∀ n ∈ d.weights P t, n ≤ reachBytes

theorem sizedEach {H : Type} {P : Program} {ts : List TypeId} {ds : List (DataW H)} (h : (DataW.weightsEach P ts ds).all (· ≤ reachBytes) = true) {j : Nat} {t : TypeId} {d : DataW H} (ht : ts[j]? = some t) (hd : ds[j]? = some d) : Sized P t d :=
  fun n hn => by simpa using List.all_eq_true.1 h n (DataW.weights_mem_each ht hd n hn)

theorem weights_mem_all {H : Type} {P : Program} {e : TypeId} {d : DataW H} {n : Nat} (hn : n ∈ d.weights P e) : ∀ {l : List (DataW H)}, d ∈ l → n ∈ DataW.weightsAll P e l
  | [], h => by simp at h
  | x :: r, h => by
    simp only [DataW.weightsAll, List.mem_append]
    rcases List.mem_cons.1 h with rfl | h
    · exact .inl hn
    · exact .inr (weights_mem_all hn h)

mutual
/-- how many values and letters a reading holds, at least -/
def blk {H : Type} : DataW H → Nat
  | .lit (.string b) => b.length + 1
  | .slice es sp => blkL es + blkL sp + 1
  | .agg ps => blkL ps + 1
  | _ => 1
def blkL {H : Type} : List (DataW H) → Nat
  | [] => 0
  | d :: r => blk d + blkL r
end

theorem blk_pos {H : Type} (d : DataW H) : 1 ≤ blk d := by
  cases d with
  | lit l => cases l <;> simp [blk]
  | slice es sp => simp [blk]
  | agg ps => simp [blk]
  | _ => simp [blk]

def sumL {α : Type} (f : α → Nat) : List α → Nat
  | [] => 0
  | x :: r => f x + sumL f r

theorem blkL_ge {H α : Type} (siz : α → Nat) (d : α) : ∀ (l : List α) (es : List (DataW H)), l.length = es.length → (∀ i e, es[i]? = some e → siz (l.getD i d) ≤ blk e) → sumL siz l ≤ blkL es
  | [], _, _, _ => Nat.zero_le _
  | x :: r, [], h, _ => by simp at h
  | x :: r, e :: es, h, k => by
    have h1 := k 0 e rfl
    have h2 := blkL_ge siz d r es (by simpa using h) (fun i e' he => by have := k (i + 1) e' (by simpa using he); simpa using this)
    simp only [sumL, blkL]
    simp only [List.getD_cons_zero] at h1
    omega

/-- Whatever reads as type t (c cells), so deep, is told by a datum a: cell j by E a j. -/
def RAt (P : Program) (t : TypeId) (c : Nat) {α : Type} (E : α → Nat → PV) (ok : α → Prop) (siz : α → Nat) (fuel : Nat) : Prop :=
  ∀ (H : Type) (enc : TypeId × Value → H) (w : World) (cs : List Value) (x : DataW H × List MemPlace),
    DataW.trod enc P w 0 (fun _ => true) true fuel t cs = some x → Sized P t x.1 → cs.length = c ∧ ∃ a, ok a ∧ siz a ≤ blk x.1 ∧ ∀ j, j < c → PRel w freeO (E a j) (cs.getD j undef)

def Reads (P : Program) (t : TypeId) (c : Nat) {α : Type} (E : α → Nat → PV) (ok : α → Prop) (siz : α → Nat) : Prop := P.cellsOf t = c ∧ ∀ fuel, RAt P t c E ok siz fuel

theorem Reads.int {P : Program} {t : TypeId} {k : IntKind} (ht : P.underlying t = some (.int k)) (hc : P.cellsOf t = 1) : Reads P t 1 (fun (n : Int) _ => .int k n) (fun n => (Lit.int k n).wf = true) (fun _ => 1) :=
  ⟨hc, fun fuel _ enc w cs x h hz => by
    obtain ⟨n, rfl, _, hn⟩ := DataW.trod_int ht h
    exact ⟨rfl, n, hn, blk_pos _, fun j hj => (j_zero hj).symm ▸ .int k n⟩⟩

theorem Reads.bool {P : Program} {t : TypeId} (ht : P.underlying t = some .bool) (hc : P.cellsOf t = 1) : Reads P t 1 (fun (b : Bool) _ => .bool b) (fun _ => True) (fun _ => 1) :=
  ⟨hc, fun fuel _ enc w cs x h hz => by
    obtain ⟨n, rfl, _⟩ := DataW.trod_bool ht h
    exact ⟨rfl, n, trivial, blk_pos _, fun j hj => (j_zero hj).symm ▸ .bool n⟩⟩

theorem Reads.str {P : Program} {t : TypeId} (ht : P.underlying t = some .string) (hc : P.cellsOf t = 1) : Reads P t 1 (fun (b : ByteArray) _ => .str b) (fun s => s.size ≤ maxLen) (fun s => s.size + 1) :=
  ⟨hc, fun fuel _ enc w cs x h hz => by
    obtain ⟨n, rfl, rfl, hn⟩ := DataW.trod_string ht h
    exact ⟨rfl, n, hn, by simp [blk], fun j hj => (j_zero hj).symm ▸ .str n⟩⟩

theorem RAt.map {P : Program} {t : TypeId} {c : Nat} {α β : Type} {E : α → Nat → PV} {ok : α → Prop} {siz : α → Nat} {E' : β → Nat → PV} {ok' : β → Prop} {siz' : β → Nat} {fuel : Nat} (h : RAt P t c E ok siz fuel) (g : α → β) (hE : ∀ a j, j < c → ∀ w v, PRel w freeO (E a j) v → PRel w freeO (E' (g a) j) v)
    (hok : ∀ a, ok a → ok' (g a)) (hs : ∀ a, siz' (g a) ≤ siz a) : RAt P t c E' ok' siz' fuel := fun _ enc w cs x hx hz => by
  obtain ⟨h1, a, h2, h2', h3⟩ := h _ enc w cs x hx hz
  exact ⟨h1, g a, hok a h2, Nat.le_trans (hs a) h2', fun j hj => hE a j hj _ _ (h3 j hj)⟩

theorem Reads.map {P : Program} {t : TypeId} {c : Nat} {α β : Type} {E : α → Nat → PV} {ok : α → Prop} {siz : α → Nat} {E' : β → Nat → PV} {ok' : β → Prop} {siz' : β → Nat} (h : Reads P t c E ok siz) (g : α → β) (hE : ∀ a j, j < c → E a j = E' (g a) j)
    (hok : ∀ a, ok a → ok' (g a)) (hs : ∀ a, siz' (g a) ≤ siz a) : Reads P t c E' ok' siz' :=
  ⟨h.1, fun fuel => RAt.map (h.2 fuel) g (fun a j hj w v hv => hE a j hj ▸ hv) hok hs⟩

theorem mapM_range_get {f : Nat → Option Value} : ∀ (n s : Nat) (cs : List Value), (List.range' s n).mapM f = some cs → cs.length = n ∧ ∀ j, j < n → f (s + j) = some (cs.getD j undef)
  | 0, s, cs, h => by simp at h; subst h; exact ⟨rfl, fun j hj => by omega⟩
  | n + 1, s, cs, h => by
    rw [List.range'_succ, List.mapM_cons] at h
    cases h1 : f s with
    | none => rw [h1] at h; simp at h
    | some v =>
      rw [h1] at h
      cases h2 : (List.range' (s + 1) n).mapM f with
      | none => rw [h2] at h; simp at h
      | some r =>
        rw [h2] at h
        simp at h
        subst h
        obtain ⟨g1, g2⟩ := mapM_range_get n (s + 1) r h2
        refine ⟨by simp [g1], fun j hj => ?_⟩
        cases j with
        | zero => simpa using h1
        | succ j => have := g2 j (by omega); rw [show s + (j + 1) = s + 1 + j by omega]; simpa using this

theorem cells?_get {w : World} {a : Addr} {n : Nat} {cs : List Value} (h : w.cells? 0 a n = some cs) : cs.length = n ∧ ∀ j, j < n → w.cell? (a.add j) = some (cs.getD j undef) := by
  unfold World.cells? at h
  rw [if_pos (Nat.zero_le _), List.range_eq_range'] at h
  obtain ⟨h1, h2⟩ := mapM_range_get n 0 cs h
  exact ⟨h1, fun j hj => by have := h2 j hj; rwa [Nat.zero_add] at this⟩

theorem spot_none {w : World} {a : Addr} {v : Value} (h : w.cell? a = some v) : a.spot = none := by
  unfold World.cell? at h
  split at h
  · split at h
    · simp at h
    · rename_i hs; simpa using hs
  · simp at h

/-- data for the elements, one by one -/
theorem pickData {α : Type} {p : Nat → α → Prop} (d : α) : ∀ (n s : Nat), (∀ i, i < n → ∃ a, p (s + i) a) → ∃ l : List α, l.length = n ∧ ∀ i, i < n → p (s + i) (l.getD i d)
  | 0, s, _ => ⟨[], rfl, fun i hi => by omega⟩
  | n + 1, s, h => by
    obtain ⟨a, ha⟩ := h 0 (by omega)
    obtain ⟨l, h1, h2⟩ := pickData (p := p) d n (s + 1) (fun i hi => by have := h (i + 1) (by omega); rwa [show s + (i + 1) = s + 1 + i by omega] at this)
    refine ⟨a :: l, by simp [h1], fun i hi => ?_⟩
    cases i with
    | zero => exact ha
    | succ i => have := h2 i (by omega); rw [show s + 1 + i = s + (i + 1) by omega] at this; simpa using this

theorem RAt.slice {P : Program} {t e : TypeId} {c fuel : Nat} {α : Type} {E : α → Nat → PV} {ok : α → Prop} {siz : α → Nat} (hce : P.cellsOf e = c) (he : ∀ m, m < fuel → RAt P e c E ok siz m) (hc0 : 0 < c) (ht : P.underlying t = some (.slice e)) (d : α) {b : Nat} (hbt : P.bytesOf e = b) :
    RAt P t 1 (fun (l : List α) _ => .lst c .any l.length fun i j => E (l.getD i d) j) (fun l => (l.length ≤ maxLen ∧ l.length * b ≤ reachBytes) ∧ ∀ a ∈ l, ok a) (fun l => sumL siz l + 1) fuel :=
  fun _ enc w cs x h hz => by
    rcases DataW.trod_slice ht h with ⟨rfl, rfl⟩ | ⟨a, len, cap, elems, rest, n, rfl, rfl, rfl, hb, hl, hm, hlen, hel, hsp, _⟩
    · exact ⟨rfl, [], ⟨⟨by simp, by simp⟩, by simp⟩, blk_pos _, fun j hj => (j_zero hj).symm ▸ .lstNil (by simp) (by simp)⟩
    · refine ⟨rfl, ?_⟩
      obtain ⟨hr, hrest⟩ := hsp rfl
      have hz1 : len * b ≤ reachBytes := by
        have := hz ((elems.map (·.1)).length + (rest.map (·.1)).length |> fun k => k * P.bytesOf e) (by simp [DataW.weights, ht])
        simp only [List.length_map, hbt] at this
        exact Nat.le_trans (Nat.mul_le_mul_right b (by omega)) this
      have hz2 : ∀ y ∈ elems, Sized P e y.1 := fun y hy n hn => hz n (by
        simp only [DataW.weights, ht, List.mem_cons, List.mem_append]
        exact .inr (.inl (weights_mem_all hn (List.mem_map_of_mem hy))))
      rw [hce] at hel hrest
      have all : ∀ i, i < cap → ∃ ys, w.cells? 0 (a.add (i * c)) c = some ys ∧ ∃ y, DataW.trod enc P w 0 (fun _ => true) true n e ys = some y := by
        intro i hi
        have : ∃ y, (w.cells? 0 (a.add (i * c)) c).bind (DataW.trod enc P w 0 (fun _ => true) true n e) = some y := by
          by_cases h1 : i < len
          · rw [hel i h1]; exact ⟨_, List.getElem?_eq_getElem (by omega)⟩
          · have := hrest (i - len) (by omega)
            rw [show len + (i - len) = i by omega] at this
            rw [this]; exact ⟨_, List.getElem?_eq_getElem (by omega)⟩
        obtain ⟨y, hy⟩ := this
        obtain ⟨ys, h1, h2⟩ := Option.bind_eq_some_iff.1 hy
        exact ⟨ys, h1, y, h2⟩
      rcases Nat.eq_zero_or_pos cap with h0 | h0
      · subst h0
        obtain rfl : len = 0 := by omega
        exact ⟨[], ⟨⟨by simp, by simp⟩, by simp⟩, blk_pos _, fun j hj => (j_zero hj).symm ▸ .lstE a (by simp)⟩
      · have hspot : a.spot = none := by
          obtain ⟨ys, h1, _⟩ := all 0 h0
          have := (cells?_get h1).2 0 hc0
          rw [Nat.zero_mul] at this
          exact spot_none this
        obtain ⟨B, off, sp⟩ := a
        simp only at hspot
        subst hspot
        have hadd : ∀ k m : Nat, ((⟨B, off, none⟩ : Addr).add k).add m = ⟨B, off + k + m, none⟩ := by
          intro k m; unfold Addr.add; split <;> split <;> simp_all <;> omega
        have data : ∀ i, i < len → ∃ x, ok x ∧ (∀ el, elems[i]? = some el → siz x ≤ blk el.1) ∧ ∃ ys, w.cells? 0 ((⟨B, off, none⟩ : Addr).add (i * c)) c = some ys ∧ ∀ j, j < c → PRel w freeO (E x j) (ys.getD j undef) := by
          intro i hi
          have hy := hel i hi
          rw [List.getElem?_eq_getElem (by omega : i < elems.length)] at hy
          obtain ⟨ys, h1, h2⟩ := Option.bind_eq_some_iff.1 hy
          obtain ⟨_, x, h3, h3', h4⟩ := he n (by omega) _ enc w ys _ h2 (hz2 _ (by simp))
          exact ⟨x, h3, fun el hel => by rw [List.getElem?_eq_getElem (by omega : i < elems.length)] at hel; cases hel; exact h3', ys, h1, h4⟩
        obtain ⟨l, h1, h2⟩ := pickData (p := fun i x => ok x ∧ (∀ el, elems[i]? = some el → siz x ≤ blk el.1) ∧ ∃ ys, w.cells? 0 ((⟨B, off, none⟩ : Addr).add (i * c)) c = some ys ∧ ∀ j, j < c → PRel w freeO (E x j) (ys.getD j undef)) d len 0 (fun i hi => by rw [Nat.zero_add]; exact data i hi)
        simp only [Nat.zero_add] at h2
        refine ⟨l, ⟨⟨by omega, by rw [h1]; exact hz1⟩, fun a ha => ?_⟩, ?_, fun j hj => ?_⟩
        · obtain ⟨i, hi, rfl⟩ := List.getElem_of_mem ha
          have := (h2 i (by omega)).1
          simpa [List.getD, hi] using this
        · have := blkL_ge (H := _) siz d l (elems.map (·.1)) (by simp [h1, hlen]) (fun i e hi => by
            rw [List.getElem?_map] at hi
            obtain ⟨el, he1, rfl⟩ := Option.map_eq_some_iff.1 hi
            have hlt := (List.getElem?_eq_some_iff.1 he1).1
            exact (h2 i (by omega)).2.1 el he1)
          simp only [blk]
          omega
        · obtain rfl : j = 0 := by omega
          have key : ∀ i, i < len → ∀ j, j < c → ∃ v, w.cell? ⟨B, off + i * c + j, none⟩ = some v ∧ PRel w freeO (E (l.getD i d) j) v := by
            intro i hi j hj
            obtain ⟨_, _, ys, h3, h4⟩ := h2 i hi
            have := (cells?_get h3).2 j hj
            rw [hadd] at this
            exact ⟨_, this, h4 j hj⟩
          have : PRel w freeO (.lst c .any l.length fun i j => E (l.getD i d) j) (.slice (some ⟨B, off, none⟩) l.length cap) := by
            refine .lst (fun i j => (w.cell? ⟨B, off + i * c + j, none⟩).getD undef) (fun i hi j hj => ?_) (fun i hi j hj => ?_) (by omega) (by simp) (by simp)
            · obtain ⟨v, h3, h4⟩ := key i (by omega) j hj
              rw [h3]; exact ⟨rfl, trivial⟩
            · obtain ⟨v, h3, h4⟩ := key i (by omega) j hj
              rw [h3]; exact h4
          show PRel w freeO (.lst c .any l.length fun i j => E (l.getD i d) j) (.slice (some ⟨B, off, none⟩) len cap)
          rw [← h1]
          exact this


theorem Reads.slice {P : Program} {t e : TypeId} {c : Nat} {α : Type} {E : α → Nat → PV} {ok : α → Prop} {siz : α → Nat} (he : Reads P e c E ok siz) (hc0 : 0 < c) (ht : P.underlying t = some (.slice e)) (hc : P.cellsOf t = 1) (d : α) {b : Nat} (hbt : P.bytesOf e = b) :
    Reads P t 1 (fun (l : List α) _ => .lst c .any l.length fun i j => E (l.getD i d) j) (fun l => (l.length ≤ maxLen ∧ l.length * b ≤ reachBytes) ∧ ∀ a ∈ l, ok a) (fun l => sumL siz l + 1) :=
  ⟨hc, fun fuel => RAt.slice he.1 (fun m _ => he.2 m) hc0 ht d hbt⟩

/-- Fields of a struct, from offset o on: c cells. -/
def ReadsF (P : Program) (fs : List Field) (o c : Nat) {α : Type} (E : α → Nat → PV) (ok : α → Prop) (siz : α → Nat) (n : Nat) : Prop :=
  ∀ (H : Type) (enc : TypeId × Value → H) (w : World) (cs : List Value) (xs : List (DataW H × List MemPlace)), xs.length = fs.length →
    (∀ (i : Nat) (f : Field), fs[i]? = some f → DataW.trod enc P w 0 (fun _ => true) true n f.type ((cs.drop f.offset).take (P.cellsOf f.type)) = xs[i]?) → (∀ (i : Nat) (f : Field) (x : DataW H × List MemPlace), fs[i]? = some f → xs[i]? = some x → Sized P f.type x.1) →
    ∃ a, ok a ∧ siz a ≤ blkL (xs.map (·.1)) ∧ ∀ j, j < c → PRel w freeO (E a j) (cs.getD (o + j) undef)

theorem ReadsF.nil {P : Program} {o n : Nat} : ReadsF P [] o 0 (fun (_ : Unit) _ => .junk) (fun _ => True) (fun _ => 0) n := fun _ enc w cs xs _ _ _ => ⟨(), trivial, Nat.zero_le _, fun j hj => by omega⟩

theorem ReadsF.cons {P : Program} {f : Field} {fs : List Field} {o c1 c2 n : Nat} {α β : Type} {E1 : α → Nat → PV} {ok1 : α → Prop} {siz1 : α → Nat} {E2 : β → Nat → PV} {ok2 : β → Prop} {siz2 : β → Nat}
    (hc1 : P.cellsOf f.type = c1) (h1 : RAt P f.type c1 E1 ok1 siz1 n) (h2 : ReadsF P fs (o + c1) c2 E2 ok2 siz2 n) (ho : f.offset = o) :
    ReadsF P (f :: fs) o (c1 + c2) (fun (x : α × β) j => if j < c1 then E1 x.1 j else E2 x.2 (j - c1)) (fun x => ok1 x.1 ∧ ok2 x.2) (fun x => siz1 x.1 + siz2 x.2) n := fun _ enc w cs xs hl hx hz => by
  match xs, hl with
  | y :: ys, hl =>
    have hy := hx 0 f rfl
    obtain ⟨hl1, a, ha, sa, ra⟩ := h1 _ enc w _ y hy (hz 0 f y rfl rfl)
    obtain ⟨b, hb, sb, rb⟩ := h2 _ enc w cs ys (by simpa using hl) (fun i g hg => hx (i + 1) g (by simpa using hg)) (fun i g x hg hx' => hz (i + 1) g x (by simpa using hg) (by simpa using hx'))
    refine ⟨(a, b), ⟨ha, hb⟩, by simp only [List.map_cons, blkL]; omega, fun j hj => ?_⟩
    by_cases hj1 : j < c1
    · simp only [hj1, if_true]
      have := ra j hj1
      rw [hc1] at this
      have e : ((cs.drop f.offset).take c1).getD j undef = cs.getD (o + j) undef := by
        simp [List.getD_eq_getElem?_getD, hj1, ho]
      rwa [e] at this
    · simp only [hj1, if_false]
      have := rb (j - c1) (by omega)
      rwa [show o + c1 + (j - c1) = o + j by omega] at this

theorem RAt.struct {P : Program} {t : TypeId} {fs : Array Field} {l : List Field} {c fuel : Nat} {α : Type} {E : α → Nat → PV} {ok : α → Prop} {siz : α → Nat} (ht : P.underlying t = some (.struct fs)) (hl : fs.toList = l) (hc : P.cellsOf t = c) (h : ∀ m, m < fuel → ReadsF P l 0 c E ok siz m) :
    RAt P t c E ok (fun a => siz a + 1) fuel := fun _ enc w cs x hx hz => by
  obtain ⟨xs, n, rfl, hxx, h1, h2, h3⟩ := DataW.trod_struct ht hx
  subst hxx
  refine ⟨by rw [h1, hc], ?_⟩
  have hlen : xs.length = l.length := by rw [← hl, h2]; simp
  obtain ⟨a, ha, sa, hr⟩ := h n (by omega) _ enc w cs xs hlen (fun i f hf => h3 i f (by rw [← hl] at hf; simpa using hf)) (fun i f y hf hy m hm => hz m (by
    simp only [DataW.weights, ht]
    rw [← hl] at hf
    have hf' : fs[i]? = some f := by simpa using hf
    exact DataW.weights_mem_each (j := i) (by simp [hf']) (by simp [hy]) m hm))
  exact ⟨a, ha, by simp only [blk]; omega, fun j hj => by have := hr j hj; rwa [Nat.zero_add] at this⟩

theorem Reads.struct {P : Program} {t : TypeId} {fs : Array Field} {l : List Field} {c : Nat} {α : Type} {E : α → Nat → PV} {ok : α → Prop} {siz : α → Nat} (ht : P.underlying t = some (.struct fs)) (hl : fs.toList = l) (hc : P.cellsOf t = c) (h : ∀ m, ReadsF P l 0 c E ok siz m) :
    Reads P t c E ok (fun a => siz a + 1) := ⟨hc, fun fuel => RAt.struct ht hl hc fun m _ => h m⟩

/-! data that hold data of their kind -/

mutual
def sizT : Tr → Nat
  | .mk _ l => sizTs l + 1
def sizTs : List Tr → Nat
  | [] => 0
  | x :: r => sizT x + sizTs r
end

theorem sizTs_eq : ∀ l, sizTs l = sumL sizT l
  | [] => rfl
  | x :: r => by simp only [sizTs, sumL, sizTs_eq r]

theorem Reads.tree {P : Program} {t : TypeId} {m : Nat} (hc : P.cellsOf t = m + 1) (h : ∀ n, (∀ k, k < n → RAt P t (m + 1) (trC m) (fun _ => True) sizT k) → RAt P t (m + 1) (trC m) (fun _ => True) sizT n) :
    Reads P t (m + 1) (trC m) (fun _ => True) sizT := ⟨hc, fun fuel => (by
  have key : ∀ n, ∀ k, k < n → RAt P t (m + 1) (trC m) (fun _ => True) sizT k := by
    intro n
    induction n with
    | zero => intro k hk; omega
    | succ n ih => intro k hk; exact h k fun j hj => ih j (by omega)
  exact fun H enc w cs x h1 h2 => key (fuel + 1) fuel (by omega) H enc w cs x h1 h2)⟩

/-- kids -/
theorem RAt.kids {P : Program} {t u : TypeId} {m n b : Nat} (hc : P.cellsOf t = m + 1) (ih : ∀ k, k < n → RAt P t (m + 1) (trC m) (fun _ => True) sizT k) (hu : P.underlying u = some (.slice t)) (hb : P.bytesOf t = b) :
    RAt P u 1 (fun (l : List Tr) _ => .tree m l) (fun _ => True) (fun l => sizTs l + 1) n :=
  RAt.map (RAt.slice hc ih (by omega) hu Tr.d hb) id (fun a j hj w v hv => .tree hv) (fun _ _ => trivial) (fun l => by rw [id, sizTs_eq]; exact Nat.le_refl _)

theorem Reads.val {P : Program} {t : TypeId} {α : Type} {E : α → Nat → PV} {ok : α → Prop} {siz : α → Nat} (h : Reads P t 1 E ok siz) {H : Type} {enc : TypeId × Value → H} {w : World} {v : Value} {d : DataW H} {p : List MemPlace}
    (hd : DataW.Trod enc P w 0 (fun _ => true) true t v d p) (hz : Sized P t d) (hv : v.cells = #[v]) : ∃ a, (ok a ∧ siz a ≤ blk d) ∧ VRel w freeO [] .no (.pv false (E a 0)) v := by
  obtain ⟨fuel, hf⟩ := hd
  obtain ⟨_, a, h1, h1', h2⟩ := h.2 fuel _ enc w _ _ hf hz
  rw [hv] at h2
  exact ⟨a, ⟨h1, h1'⟩, .pv (h2 0 (by omega))⟩

def cellsL {α : Type} (E : α → Nat → PV) (a : α) : Nat → Nat → List AVal
  | _, 0 => []
  | k, n + 1 => .pv false (E a k) :: cellsL E a (k + 1) n

theorem nth_cellsL {α : Type} {E : α → Nat → PV} {a : α} : ∀ {n k i : Nat} {x : AVal}, nth (cellsL E a k n) i = some x → i < n ∧ x = .pv false (E a (k + i))
  | 0, _, _, _, h => by simp [cellsL, nth] at h
  | n + 1, k, 0, x, h => by simp [cellsL, nth] at h; exact ⟨by omega, h.symm⟩
  | n + 1, k, i + 1, x, h => by
    simp only [cellsL, nth] at h
    obtain ⟨h1, h2⟩ := nth_cellsL h
    exact ⟨by omega, by rw [h2, show k + 1 + i = k + (i + 1) by omega]⟩

theorem length_cellsL {α : Type} {E : α → Nat → PV} {a : α} : ∀ {n k : Nat}, (cellsL E a k n).length = n
  | 0, _ => rfl
  | n + 1, k => by simp [cellsL, length_cellsL]

theorem Reads.agg {P : Program} {t : TypeId} {c : Nat} {α : Type} {E : α → Nat → PV} {ok : α → Prop} {siz : α → Nat} (h : Reads P t c E ok siz) {H : Type} {enc : TypeId × Value → H} {w : World} {cs : Array Value} {d : DataW H} {p : List MemPlace}
    (hd : DataW.Trod enc P w 0 (fun _ => true) true t (.agg cs) d p) (hz : Sized P t d) : ∃ a, (ok a ∧ siz a ≤ blk d) ∧ VRel w freeO [] .no (.agg (cellsL E a 0 c)) (.agg cs) := by
  obtain ⟨fuel, hf⟩ := hd
  obtain ⟨h0, a, h1, h1', h2⟩ := h.2 fuel _ enc w _ _ hf hz
  have e : (Value.agg cs).cells = cs := rfl
  rw [e] at h0 h2
  refine ⟨a, ⟨h1, h1'⟩, .agg _ (by rw [length_cellsL]; simpa using h0) (fun i x hx => ?_)⟩
  obtain ⟨hi, rfl⟩ := nth_cellsL hx
  have := h2 i hi
  rw [Nat.zero_add]
  refine .pv ?_
  have e2 : cs.toList.getD i undef = cs.getD i undef := by simp [List.getD_eq_getElem?_getD, Array.getD_eq_getD_getElem?]
  rwa [e2] at this

/-- A law's contract, as its row asks for it. -/
theorem CallOK.law {P : Program} {f : Nat} {args : List AVal} (h : CallOK P f args [] fun r _ => r = .pv false (.bool true)) {w : World} {vs : Array Value} (hs : vs.size = args.length)
    (hr : ∀ i x, nth args i = some x → VRel w freeO [] .no x (vs.getD i undef)) : Calls P f vs w fun e w' => e = .returned (.bool true) ∧ Below w.heap.size w w' := by
  refine (h.2 w freeO [] vs hs hr (fun k b hb => by simp [nth] at hb) rfl ⟨fun B hB => rfl, fun _ _ _ _ h _ => by simp [freeO] at h⟩).mono ?_
  rintro e w' ⟨r, rv, O', L', rfl, rfl, _, hv, _, hst, _⟩
  refine ⟨?_, hst.os, hst.tape, hst.output, hst.size, fun k hk => (hst.free k hk trivial).2⟩
  cases prel_of hv with
  | bool b => rfl

end Go.Proofs.Ytgghnfmabphbmaa.Fw
