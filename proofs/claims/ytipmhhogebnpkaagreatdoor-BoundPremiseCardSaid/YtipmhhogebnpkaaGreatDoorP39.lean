/- A piece of a closed run, run by the evaluator. -/
import Derived.Test.YtipmhhogebnpkaaGreatDoorP38
namespace Go.Proofs.YtipmhhogebnpkaaGreatDoor
open Go Go.Vm
set_option maxRecDepth 1000000 in
theorem cut0 : leavesH st0 va0 st1 (fCallX (orX (cloneX 286) (addX 35)) sumKn (envOf tab) 200 (.func (.func 13) []) ar0 st0) = true := by kernel_rfl
theorem cut0_known : KnownOk Tryz.prog (cutKn 13 ar0 st0 va0 st1) := cut_of ext_ok sum_known tabIs mixed (go_of e13) cut0
end Go.Proofs.YtipmhhogebnpkaaGreatDoor
