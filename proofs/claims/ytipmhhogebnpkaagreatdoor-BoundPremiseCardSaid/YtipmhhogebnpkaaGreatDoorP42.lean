/- A piece of a closed run, run by the evaluator. -/
import Derived.Test.YtipmhhogebnpkaaGreatDoorP38
namespace Go.Proofs.YtipmhhogebnpkaaGreatDoor
open Go Go.Vm
set_option maxRecDepth 1000000 in
theorem cut3 : leavesH st6 va3 st7 (fCallX (orX (cloneX 286) (addX 35)) sumKn (envOf tab) 200 (.func (.func 31) []) ar1 st6) = true := by kernel_rfl
theorem cut3_known : KnownOk Tryz.prog (cutKn 31 ar1 st6 va3 st7) := cut_of ext_ok sum_known tabIs mixed (go_of e31) cut3
end Go.Proofs.YtipmhhogebnpkaaGreatDoor
