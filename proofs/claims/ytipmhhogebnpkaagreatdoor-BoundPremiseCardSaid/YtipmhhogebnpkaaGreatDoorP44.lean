/- A piece of a closed run, run by the evaluator. -/
import Derived.Test.YtipmhhogebnpkaaGreatDoorP38
namespace Go.Proofs.YtipmhhogebnpkaaGreatDoor
open Go Go.Vm
set_option maxRecDepth 1000000 in
theorem cut5 : leavesH st9 va5 st10 (fCallX (orX (cloneX 286) (addX 35)) sumKn (envOf tab) 200 (.func (.func 31) []) ar1 st9) = true := by kernel_rfl
theorem cut5_known : KnownOk Tryz.prog (cutKn 31 ar1 st9 va5 st10) := cut_of ext_ok sum_known tabIs mixed (go_of e31) cut5
end Go.Proofs.YtipmhhogebnpkaaGreatDoor
