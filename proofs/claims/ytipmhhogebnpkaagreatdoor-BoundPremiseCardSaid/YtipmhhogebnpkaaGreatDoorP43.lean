/- A piece of a closed run, run by the evaluator. -/
import Derived.Test.YtipmhhogebnpkaaGreatDoorP38
import Derived.Test.YtipmhhogebnpkaaGreatDoorP42
namespace Go.Proofs.YtipmhhogebnpkaaGreatDoor
open Go Go.Vm
set_option maxRecDepth 1000000 in
theorem cut4 : leavesH st5 va4 st8 (fCallX (orX (cloneX 286) (addX 35)) (orX (cutKn 31 ar1 st6 va3 st7) sumKn) (envOf tab) 200 (.func (.func 15) []) ar1 st5) = true := by kernel_rfl
theorem cut4_known : KnownOk Tryz.prog (cutKn 15 ar1 st5 va4 st8) := cut_of ext_ok (orK_ok cut3_known sum_known) tabIs mixed (go_of e15) cut4
end Go.Proofs.YtipmhhogebnpkaaGreatDoor
