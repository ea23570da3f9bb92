/- SerialNames answers true: run by the evaluator, awake known. -/
import Derived.Test.YthbjfkkjmecaaaaAwake
namespace Go.Proofs.Ythbjfkkjmecaaaa
open Go Go.Vm
set_option maxRecDepth 1000000 in
theorem names_says : saysM (yes 12) tab 200 7 = true := by kernel_rfl
end Go.Proofs.Ythbjfkkjmecaaaa
