/- A piece of a closed run, run by the evaluator. -/
import Derived.Test.YtipmhhogebnpkaaGreatDoorP38
import Derived.Test.YtipmhhogebnpkaaGreatDoorP40
namespace Go.Proofs.YtipmhhogebnpkaaGreatDoor
open Go Go.Vm
set_option maxRecDepth 1000000 in
theorem cut2 : leavesH st4 va2 st5 (fCallX (orX (cloneX 286) (addX 35)) (orX (cutKn 31 ar1 st2 va1 st3) sumKn) (envOf tab) 200 (.func (.func 14) []) ar2 st4) = true := by kernel_rfl
theorem cut2_known : KnownOk Tryz.prog (cutKn 14 ar2 st4 va2 st5) := cut_of ext_ok (orK_ok cut1_known sum_known) tabIs mixed (go_of e14) cut2
end Go.Proofs.YtipmhhogebnpkaaGreatDoor
