/- The table of types; the words for walking. -/
import Derived.Test.YtgghnfmabphbmaaA14
namespace Go.Proofs.Ytgghnfmabphbmaa.Fw
open Go
set_option linter.unusedSimpArgs false
set_option linter.unusedVariables false

/-- the program's own table -/
def tabF (P : Program) : TypeId → Option TI := fun t =>
  match P.underlying t, P.info? t with
  | some d, some i =>
    match i.zero with
    | some z => some ⟨d, i.size, i.bytes, z⟩
    | none => none
  | _, _ => none

def cmpF (P : Program) (t : TypeId) : Bool :=
  !P.stoodInHeld t && (!P.eqGuardType P.depth t && match P.underlying t with
    | some (.struct fs) => fs.toList.all (fun f => f.name != "_")
    | _ => true)

theorem cmpF_ok {P : Program} {t : TypeId} (h : cmpF P t = true) : P.stoodInHeld t = false ∧ P.eqGuardType P.depth t = false ∧ ∀ fs, P.underlying t = some (.struct fs) → ∀ f ∈ fs.toList, f.name ≠ "_" := by
  unfold cmpF at h
  simp only [Bool.and_eq_true, Bool.not_eq_true'] at h
  refine ⟨h.1, h.2.1, fun fs hfs f hf => ?_⟩
  have := h.2.2
  rw [hfs] at this
  have := List.all_eq_true.1 this f hf
  simpa using this

def tabOf (P : Program) : Tab := ⟨tabF P, false, fun _ => none, cmpF P⟩

instance (P : Program) : InlOk P (tabOf P) := ⟨fun f W h => by simp [tabOf] at h⟩

theorem tabF_ok {P : Program} {c : Bool} {inl : Nat → Option (List AVal → List Blk → (AVal → List Blk → Prop) → Prop)} : TabOk P ⟨tabF P, c, inl, cmpF P⟩ := ⟨fun t x h => by
  replace h : tabF P t = some x := h
  unfold tabF at h
  split at h
  · rename_i d i hd hi
    split at h
    · rename_i z hz
      simp only [Option.some.injEq] at h
      subst h
      exact ⟨hd, i, hi, rfl, rfl, hz⟩
    · simp at h
  · simp at h, fun t h => cmpF_ok h⟩

theorem tabOf_ok (P : Program) : TabOk P (tabOf P) := tabF_ok

/-- a part of a code -/
def sub : List Nat → Code → Code
  | [], c => c
  | 0 :: p, .seq x _ => sub p x
  | 1 :: p, .seq _ y => sub p y
  | 0 :: p, .cond _ x _ => sub p x
  | 1 :: p, .cond _ _ y => sub p y
  | 0 :: p, .block _ c => sub p c
  | 0 :: p, .loop c => sub p c
  | _ :: _, _ => .skip

/-- what follows a part of a code -/
def kont (P : Program) (T : Tab) (C : Nat → Shape) (fl : Fl) : List Nat → Code → (Exit → St → Prop) → (Exit → St → Prop)
  | [], _, Q => Q
  | 0 :: p, .seq x y, Q => kont P T C fl p x (fun e st' => match e with | .normal => run P T C fl y Q st' | e => Q e st')
  | 1 :: p, .seq _ y, Q => kont P T C fl p y Q
  | 0 :: p, .cond _ x _, Q => kont P T C fl p x Q
  | 1 :: p, .cond _ _ y, Q => kont P T C fl p y Q
  | 0 :: p, .block id c, Q => kont P T C fl p c (fun e st' => match e with | .exit id' => if id' = id then Q .normal st' else Q (.exit id') st' | e => Q e st')
  | _, _, Q => Q

def bodyOf (f : Func) : Code := f.body.getD .skip

end Go.Proofs.Ytgghnfmabphbmaa.Fw
