/- Closed facts of the row of BoundExact, one by one. -/
import Derived.Test.YtipmhhogebnpkaaGreatDoorRows
import Derived.ProofKit
import Derived.Stop.Joined
namespace Go.Proofs.YtipmhhogebnpkaaGreatDoor
open Go.ChangeShapes Go.WideShapes Go.ChangeAt Go.RowKit

theorem j5 : laidOutB Tryz.prog = true := by kernel_rfl
theorem j6 : mapsRowed Tryz.prog = true := by kernel_rfl
namespace boundExact
theorem j1 : Tryz.prog.inPlace 3 = Rows.boundExactRow.inPlace := by kernel_rfl
theorem j2 : Tryz.prog.unfollowed 3 = Rows.boundExactRow.unfollowed := by kernel_rfl
theorem j3 : Tryz.prog.recurses 3 = Rows.boundExactRow.recurses := by kernel_rfl
theorem j4 : Tryz.prog.varsNamed 3 = Rows.boundExactRow.named := by kernel_rfl
theorem j7 : Rows.boundExactRow.wf (OpenSpec.ofChange Rows.boundExactSpec) = true := by kernel_rfl
theorem closed : joinedFacts Tryz.prog 3 Tryz.f3 Rows.boundExactSpec Rows.boundExactRow = true := by
  unfold joinedFacts
  rw [j1, j2, j3, j4, j5, j6, j7]
  kernel_rfl
theorem named : Tryz.prog.funcNamed "wicket/wicketlaw26.BoundExact" = some 3 := by kernel_rfl
end boundExact
end Go.Proofs.YtipmhhogebnpkaaGreatDoor
