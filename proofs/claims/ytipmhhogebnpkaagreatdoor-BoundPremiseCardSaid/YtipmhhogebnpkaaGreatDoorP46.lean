/- A piece of a closed run, run by the evaluator. -/
import Derived.Test.YtipmhhogebnpkaaGreatDoorP38
import Derived.Test.YtipmhhogebnpkaaGreatDoorP45
namespace Go.Proofs.YtipmhhogebnpkaaGreatDoor
open Go Go.Vm
set_option maxRecDepth 1000000 in
theorem cut7 : leavesH st8 va7 st13 (fCallX (orX (cloneX 286) (addX 35)) (orX (cutKn 15 ar1 st11 va6 st12) sumKn) (envOf tab) 200 (.func (.func 16) []) ar1 st8) = true := by kernel_rfl
theorem cut7_known : KnownOk Tryz.prog (cutKn 16 ar1 st8 va7 st13) := cut_of ext_ok (orK_ok cut6_known sum_known) tabIs mixed (go_of e16) cut7
end Go.Proofs.YtipmhhogebnpkaaGreatDoor
