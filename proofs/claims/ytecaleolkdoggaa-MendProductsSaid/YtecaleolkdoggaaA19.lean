/- Calls whose arguments are known are carried out. -/
import Derived.Test.YtecaleolkdoggaaA17
namespace Go.Proofs.Ytecaleolkdoggaa.Fw
open Go
set_option linter.unusedVariables false

/-- a call that is handed no memory returns none -/
theorem CallOK.nil {P : Program} {f : Nat} {args : List AVal} {K : AVal → List Blk → Prop} (h : CallOK P f args [] fun r _ => K r []) : CallOK P f args [] K :=
  ⟨h.1, fun w O ad vs h1 h2 h3 h4 h5 => (h.2 w O ad vs h1 h2 h3 h4 h5).mono fun e w' ⟨r, rv, O', L', g1, g2, g3, g4⟩ => by
    obtain rfl : L' = [] := List.length_eq_zero_iff.1 g3
    exact ⟨r, rv, O', [], g1, g2, g3, g4⟩⟩

/-- these functions are handed memory -/
def concC (hands : List Nat) (f : Nat) : Shape := bif memN f hands then shm (AVal × List Blk) Prod.fst Prod.snd else sh AVal id

/-- bodies in their calls' places, n deep -/
def concW (P : Program) (C : Nat → Shape) (fls : Nat → Fl) : Nat → Nat → Option (List AVal → List Blk → (AVal → List Blk → Prop) → Prop)
  | 0, _ => none
  | n + 1, f =>
    match P.funcs[f]? with
    | some fn =>
      match fn.body with
      | some c => some fun args L K => need (!(fn.name == "runtime.NumGoroutine") && Nat.ble args.length fn.ntmps) <|
          match L with
          | [] => bif (C f).hand && !Nat.beq ((fls f).op 999 999) 1 then run P ⟨tabF P, true, concW P C fls n, cmpF P⟩ C (fls f) c (retQG ⟨tabF P, true, concW P C fls n, cmpF P⟩ fn.results 0 fun _ r L' => K r L') (entry fn.ntmps args)
            else run P ⟨tabF P, true, concW P C fls n, cmpF P⟩ C (fls f) c (retQ ⟨tabF P, true, concW P C fls n, cmpF P⟩ fn.results fun r => K r []) (entry fn.ntmps args)
          | b :: L => bif Nat.beq ((fls f).op 999 999) 1 then ∀ pin, run P ⟨tabF P, true, concW P C fls n, cmpF P⟩ C (fls f) c (retQM ⟨tabF P, true, concW P C fls n, cmpF P⟩ fn.results (b :: L).length fun pin' r L' => pin' = pin ∧ K r L') (entryM fn.ntmps args (b :: L) (b :: L).length pin)
            else ∀ pin, run P ⟨tabF P, true, concW P C fls n, cmpF P⟩ C (fls f) c (retQG ⟨tabF P, true, concW P C fls n, cmpF P⟩ fn.results (b :: L).length fun pin' r L' => pin' = pin ∧ K r L') (entryM fn.ntmps args (b :: L) (b :: L).length pin)
      | none => none
    | none => none

theorem concW_ok {P : Program} (hm : P.follows .mixedOrders = true) {C : Nat → Shape} {fls : Nat → Fl} : ∀ (n : Nat) (c : Bool), InlOk P ⟨tabF P, c, concW P C fls n, cmpF P⟩
  | 0, c => ⟨fun f W h => by simp [concW] at h⟩
  | n + 1, c => ⟨fun f W h args L K hw => by
    have ih := concW_ok hm (C := C) (fls := fls) n true
    replace h : concW P C fls (n + 1) f = some W := h
    unfold concW at h
    split at h
    · rename_i fn hf
      split at h
      · rename_i code hb
        simp only [Option.some.injEq] at h
        subst h
        obtain ⟨hc, hw⟩ := needE hw
        obtain ⟨hn, hl⟩ := andE hc
        have hn : (fn.name == "runtime.NumGoroutine") = false := by simpa using hn
        cases L with
        | nil =>
          cases hh : ((C f).hand && !Nat.beq ((fls f).op 999 999) 1) with
          | true =>
            simp only [hh, cond_true] at hw
            exact CallG.of_runG0 tabF_ok hm hf hb hn (Nat.le_of_ble_eq_true hl) hw
          | false =>
            simp only [hh, cond_false] at hw
            have := CallOK.of_run tabF_ok hm hf hb hn (Nat.le_of_ble_eq_true hl) hw
            refine CallG.mono (CallOK.g this) fun r L' ⟨h1, h2⟩ => ?_
            obtain rfl : L' = [] := List.length_eq_zero_iff.1 h2
            exact h1
        | cons b L =>
          cases hh : Nat.beq ((fls f).op 999 999) 1 with
          | true =>
            simp only [hh, cond_true] at hw
            exact CallG.mono (CallOK.g (CallOK.of_runM tabF_ok hm hf hb hn (Nat.le_of_ble_eq_true hl) rfl hw)) fun r L' ⟨h1, _⟩ => h1
          | false =>
            simp only [hh, cond_false] at hw
            exact CallG.of_runG tabF_ok hm hf hb hn (Nat.le_of_ble_eq_true hl) rfl hw
      · simp at h
    · simp at h⟩

/-- a call, carried out -/
def concRun (P : Program) (C : Nat → Shape) (fls : Nat → Fl) (n f : Nat) (args : List AVal) (K : AVal → Prop) : Prop :=
  match concW P C fls n f with
  | some W => W args [] fun r L' => need (Nat.beq (lenB L') 0) (K r)
  | none => False

theorem concRun_ok {P : Program} (hm : P.follows .mixedOrders = true) {C : Nat → Shape} {fls : Nat → Fl} (n : Nat) {f : Nat} {args : List AVal} {K : AVal → Prop} (h : concRun P C fls n f args K) : CallOK P f args [] fun r _ => K r := by
  unfold concRun at h
  split at h
  · rename_i W hW
    have hc := (concW_ok hm (C := C) (fls := fls) n true).ok f W hW args [] _ h
    exact ⟨hc.1, fun w O ad vs h1 h2 h3 h4 h5 => (hc.2 w O ad vs h1 h2 h3 h4 h5).mono fun e w' ⟨r, rv, O', L', ad', g1, g2, g3, g4, g5, g6⟩ => by
      obtain ⟨e0, g2⟩ := needE g2
      have e0 := beqE e0
      rw [lenB_eq] at e0
      obtain rfl : L' = [] := List.length_eq_zero_iff.1 e0
      obtain rfl : ad' = [] := List.length_eq_zero_iff.1 g3
      obtain rfl : ad = [] := List.length_eq_zero_iff.1 h4
      exact ⟨r, rv, O', [], g1, g2, rfl, g5, g6⟩⟩
  · exact h.elim

end Go.Proofs.Ytecaleolkdoggaa.Fw
