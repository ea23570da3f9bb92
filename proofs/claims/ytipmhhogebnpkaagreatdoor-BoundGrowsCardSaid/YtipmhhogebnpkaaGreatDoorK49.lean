/- Closed facts of the row of BoundGrows, one by one. -/
import Derived.Test.YtipmhhogebnpkaaGreatDoorRows
import Derived.ProofKit
import Derived.Stop.Joined
namespace Go.Proofs.YtipmhhogebnpkaaGreatDoor
open Go.ChangeShapes Go.WideShapes Go.ChangeAt Go.RowKit

theorem j5 : laidOutB Tryz.prog = true := by kernel_rfl
theorem j6 : mapsRowed Tryz.prog = true := by kernel_rfl
namespace boundGrows
theorem j1 : Tryz.prog.inPlace 5 = Rows.boundGrowsRow.inPlace := by kernel_rfl
theorem j2 : Tryz.prog.unfollowed 5 = Rows.boundGrowsRow.unfollowed := by kernel_rfl
theorem j3 : Tryz.prog.recurses 5 = Rows.boundGrowsRow.recurses := by kernel_rfl
theorem j4 : Tryz.prog.varsNamed 5 = Rows.boundGrowsRow.named := by kernel_rfl
theorem j7 : Rows.boundGrowsRow.wf (OpenSpec.ofChange Rows.boundGrowsSpec) = true := by kernel_rfl
theorem closed : joinedFacts Tryz.prog 5 Tryz.f5 Rows.boundGrowsSpec Rows.boundGrowsRow = true := by
  unfold joinedFacts
  rw [j1, j2, j3, j4, j5, j6, j7]
  kernel_rfl
theorem named : Tryz.prog.funcNamed "wicket/wicketlaw26.BoundGrows" = some 5 := by kernel_rfl
end boundGrows
end Go.Proofs.YtipmhhogebnpkaaGreatDoor
