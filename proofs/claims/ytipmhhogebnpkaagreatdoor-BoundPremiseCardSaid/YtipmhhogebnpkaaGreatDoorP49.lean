/- Closed facts of the row of BoundPremise, one by one. -/
import Derived.Test.YtipmhhogebnpkaaGreatDoorRows
import Derived.ProofKit
import Derived.Stop.Joined
namespace Go.Proofs.YtipmhhogebnpkaaGreatDoor
open Go.ChangeShapes Go.WideShapes Go.ChangeAt Go.RowKit
theorem j5 : laidOutB Tryz.prog = true := by kernel_rfl
theorem j6 : mapsRowed Tryz.prog = true := by kernel_rfl
namespace boundPremise
theorem j1 : Tryz.prog.inPlace 4 = Rows.boundPremiseRow.inPlace := by kernel_rfl
theorem j2 : Tryz.prog.unfollowed 4 = Rows.boundPremiseRow.unfollowed := by kernel_rfl
theorem j3 : Tryz.prog.recurses 4 = Rows.boundPremiseRow.recurses := by kernel_rfl
theorem j4 : Tryz.prog.varsNamed 4 = Rows.boundPremiseRow.named := by kernel_rfl
theorem j7 : Rows.boundPremiseRow.wf (OpenSpec.ofChange Rows.boundPremiseSpec) = true := by kernel_rfl
theorem closed : joinedFacts Tryz.prog 4 Tryz.f4 Rows.boundPremiseSpec Rows.boundPremiseRow = true := by
  unfold joinedFacts
  rw [j1, j2, j3, j4, j5, j6, j7]
  kernel_rfl
theorem named : Tryz.prog.funcNamed "wicket/wicketlaw26.BoundPremise" = some 4 := by kernel_rfl
end boundPremise
end Go.Proofs.YtipmhhogebnpkaaGreatDoor
