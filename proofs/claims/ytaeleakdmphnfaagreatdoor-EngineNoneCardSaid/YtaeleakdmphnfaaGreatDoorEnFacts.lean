/- Closed facts of the row of EngineNone, one by one. -/
import Derived.Test.YtaeleakdmphnfaaGreatDoorRows
import Derived.ProofKit
import Derived.Stop.Joined
namespace Go.Proofs.YtaeleakdmphnfaaGreatDoor
open Go.ChangeShapes Go.WideShapes Go.ChangeAt Go.RowKit

theorem j5 : laidOutB Tryz.prog = true := by kernel_rfl
theorem j6 : mapsRowed Tryz.prog = true := by kernel_rfl
namespace engineNone
theorem j1 : Tryz.prog.inPlace 3 = Rows.engineNoneRow.inPlace := by kernel_rfl
theorem j2 : Tryz.prog.unfollowed 3 = Rows.engineNoneRow.unfollowed := by kernel_rfl
theorem j3 : Tryz.prog.recurses 3 = Rows.engineNoneRow.recurses := by kernel_rfl
theorem j4 : Tryz.prog.varsNamed 3 = Rows.engineNoneRow.named := by kernel_rfl
theorem j7 : Rows.engineNoneRow.wf (OpenSpec.ofChange Rows.engineNoneSpec) = true := by kernel_rfl
theorem closed : joinedFacts Tryz.prog 3 Tryz.f3 Rows.engineNoneSpec Rows.engineNoneRow = true := by
  unfold joinedFacts
  rw [j1, j2, j3, j4, j5, j6, j7]
  kernel_rfl
theorem named : Tryz.prog.funcNamed "wicket/wicketlaw22.EngineNone" = some 3 := by kernel_rfl
end engineNone
end Go.Proofs.YtaeleakdmphnfaaGreatDoor
