/- fixed answers true: run by the evaluator. -/
import Derived.Test.YthbjfkkjmecaaaaDNames
namespace Go.Proofs.Ythbjfkkjmecaaaa
open Go Go.Vm
set_option maxRecDepth 1000000 in
theorem fixed_says : saysM noKnown tab 200 41 = true := by kernel_rfl
theorem fixed_known : KnownOk Try.prog (yes 41) := saysM_yes noKnown_ok tabIs Try.mixed fixed_says
end Go.Proofs.Ythbjfkkjmecaaaa
