/- DurableNames answers true: run by the evaluator, fixed known. -/
import Derived.Test.YthbjfkkjmecaaaaDFixed
namespace Go.Proofs.Ythbjfkkjmecaaaa
open Go Go.Vm
set_option maxRecDepth 1000000 in
theorem dnames_says : saysM (yes 41) tab 200 10 = true := by kernel_rfl
end Go.Proofs.Ythbjfkkjmecaaaa
