/- EngineNone answers true: run by the evaluator, awake known. -/
import Derived.Test.YtaeleakdmphnfaaGreatDoorEnAw
namespace Go.Proofs.YtaeleakdmphnfaaGreatDoor
open Go Go.Vm

theorem go_of {f : Nat} {a : AFunc} (h : envP Tryz.prog f = some a) : GoFn Tryz.prog f := envP_ok.go h
theorem awake_known : KnownOk Tryz.prog (yes 21) := saysX_yes clone215 noKnown_ok tabIs mixed (go_of e21) awake_says

set_option maxRecDepth 1000000 in
theorem none_says : saysX (cloneX 215) (yes 21) tab 200 3 = true := by kernel_rfl

theorem none_true : ∃ H1, ACalls Tryz.prog 3 [] .empty fun v' h' => v' = abool true ∧ h' = H1 := saysX_ok clone215 awake_known tabIs mixed (go_of e3) none_says

end Go.Proofs.YtaeleakdmphnfaaGreatDoor
