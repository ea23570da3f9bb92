/- awake of the engine's law answers true: run by the evaluator. -/
import Derived.Test.YtaeleakdmphnfaaGreatDoorLnT
namespace Go.Proofs.YtaeleakdmphnfaaGreatDoor
open Go Go.Vm

theorem clone215 : ExtOk Tryz.prog (cloneX 215) := cloneX_ok (fn := Tryz.prog.funcs[215]!) (by kernel_rfl) (by kernel_rfl) (by kernel_rfl) (by kernel_rfl) (by kernel_rfl)

set_option maxRecDepth 1000000 in
theorem awake_says : saysX (cloneX 215) noKnown tab 200 21 = true := by kernel_rfl

end Go.Proofs.YtaeleakdmphnfaaGreatDoor
