/- A piece of a closed run, run by the evaluator. -/
import Derived.Test.YtipmhhogebnpkaaGreatDoorP38
import Derived.Test.YtipmhhogebnpkaaGreatDoorP44
namespace Go.Proofs.YtipmhhogebnpkaaGreatDoor
open Go Go.Vm
set_option maxRecDepth 1000000 in
theorem cut6 : leavesH st11 va6 st12 (fCallX (orX (cloneX 286) (addX 35)) (orX (cutKn 31 ar1 st9 va5 st10) sumKn) (envOf tab) 200 (.func (.func 15) []) ar1 st11) = true := by kernel_rfl
theorem cut6_known : KnownOk Tryz.prog (cutKn 15 ar1 st11 va6 st12) := cut_of ext_ok (orK_ok cut5_known sum_known) tabIs mixed (go_of e15) cut6
end Go.Proofs.YtipmhhogebnpkaaGreatDoor
