/- A piece of a closed run, run by the evaluator. -/
import Derived.Test.YtipmhhogebnpkaaGreatDoorP38
namespace Go.Proofs.YtipmhhogebnpkaaGreatDoor
open Go Go.Vm
set_option maxRecDepth 1000000 in
theorem cut1 : leavesH st2 va1 st3 (fCallX (orX (cloneX 286) (addX 35)) sumKn (envOf tab) 200 (.func (.func 31) []) ar1 st2) = true := by kernel_rfl
theorem cut1_known : KnownOk Tryz.prog (cutKn 31 ar1 st2 va1 st3) := cut_of ext_ok sum_known tabIs mixed (go_of e31) cut1
end Go.Proofs.YtipmhhogebnpkaaGreatDoor
