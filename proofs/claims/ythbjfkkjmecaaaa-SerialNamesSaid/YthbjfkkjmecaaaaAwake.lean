/- awake answers true: run by the evaluator. -/
import Derived.Test.YthbjfkkjmecaaaaNames
namespace Go.Proofs.Ythbjfkkjmecaaaa
open Go Go.Vm
set_option maxRecDepth 1000000 in
theorem awake_says : saysM noKnown tab 200 12 = true := by kernel_rfl
theorem awake_known : KnownOk Try.prog (yes 12) := saysM_yes noKnown_ok tabIs Try.mixed awake_says
end Go.Proofs.Ythbjfkkjmecaaaa
