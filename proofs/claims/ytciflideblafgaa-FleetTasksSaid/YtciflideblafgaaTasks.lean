/- What FleetTasks returns. -/
import Derived.Test.YtciflideblafgaaSets
import Derived.Test.YtciflideblafgaaDuty
import Derived.Test.YtciflideblafgaaA19
open Go Go.Proofs.Ytciflideblafgaa.Fw
namespace Go.Proofs.Ytciflideblafgaa
set_option maxRecDepth 100000
abbrev shpT : Nat → Shape
 | 43 => sh Bool bB
 | 44 | 45 | 46 | 47 => sh Int bI
 | _ => sh Unit fun _ => .undef
set_option linter.unusedVariables false
def f8_fl : Fl := ⟨fun r o => match r, o with | 0, 0 => 1 | _, _ => 0, fun r => match r with  | _ => none, fun r => match r with  | _ => none⟩

theorem f8_tree : ∀ (l : List Task) (x : Lim) (K : AVal → Prop),
  run Try.prog TT shpT f8_fl (bodyOf Try.f8)
      (retQ TT (Go.Func.results Try.f8) K)
      (entry (Go.Func.ntmps Try.f8) [AVal.pv false (tasksP l), limV x]) =
    CallT Try.prog (shpT 43) 43 [] [] fun (x_1 : Bool) =>
      br x_1
        (CallT Try.prog (shpT 44) 44 [AVal.pv false (tasksP l)] [] fun (x_2 : Int) =>
          CallT Try.prog (shpT 45) 45 [AVal.pv false (tasksP l)] [] fun (x_3 : Int) =>
            br (Decidable.decide (x_2 = x_3))
              (CallT Try.prog (shpT 46) 46
                [AVal.agg
                    [AVal.pv false (PV.int Go.IntKind.i64 (Lim.change x)),
                      AVal.pv false (PV.int Go.IntKind.i64 (Lim.long x)),
                      AVal.pv false (PV.int Go.IntKind.i64 (Lim.work x)),
                      AVal.pv false (PV.int Go.IntKind.i64 (Lim.after x)),
                      AVal.pv false (PV.int Go.IntKind.i64 (Lim.brk x)),
                      AVal.pv false (PV.int Go.IntKind.i64 (Lim.rest x)),
                      AVal.pv false (PV.int Go.IntKind.i64 (Lim.row x))]]
                [] fun (x_4 : Int) =>
                CallT Try.prog (shpT 47) 47
                  [AVal.agg
                      [AVal.pv false (PV.int Go.IntKind.i64 (Lim.change x)),
                        AVal.pv false (PV.int Go.IntKind.i64 (Lim.long x)),
                        AVal.pv false (PV.int Go.IntKind.i64 (Lim.work x)),
                        AVal.pv false (PV.int Go.IntKind.i64 (Lim.after x)),
                        AVal.pv false (PV.int Go.IntKind.i64 (Lim.brk x)),
                        AVal.pv false (PV.int Go.IntKind.i64 (Lim.rest x)),
                        AVal.pv false (PV.int Go.IntKind.i64 (Lim.row x))]]
                  [] fun (x : Int) => K (AVal.pv false (PV.bool (Decidable.decide (x_4 = x)))))
              (K (AVal.pv false (PV.bool false))))
        (K (AVal.pv false (PV.bool false))) := by intros; kernel_rfl
theorem f8_ok (l : List Task) (x : Lim) (hl : l.length < 2 ^ 63) : CallOK Try.prog 8 [.pv false (tasksP l), limV x] [] fun r _ => r = bB true := by
  refine CallOK.of_run (tabOf_ok _) hm (fn := Try.f8) (c := bodyOf Try.f8) (fl := f8_fl) (C := shpT) (by kernel_rfl) (by kernel_rfl) (by kernel_rfl) (Nat.le_of_ble_eq_true rfl) ?_
  rw [f8_tree]
  refine f43_ok.callT (br_mk (fun _ => (f44_ok l hl).callT ((f45_ok l hl).callT (br_dec (fun _ => (f46_ok x).callT ((f47_ok x).callT ?_)) fun h => absurd rfl h))) fun h => by simp at h)
  simp

end Go.Proofs.Ytciflideblafgaa
