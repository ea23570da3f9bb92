/- The closed run answers true: its pieces are known. -/
import Derived.Test.YtipmhhogebnpkaaGreatDoorP38
import Derived.Test.YtipmhhogebnpkaaGreatDoorP39
import Derived.Test.YtipmhhogebnpkaaGreatDoorP41
import Derived.Test.YtipmhhogebnpkaaGreatDoorP43
import Derived.Test.YtipmhhogebnpkaaGreatDoorP46
namespace Go.Proofs.YtipmhhogebnpkaaGreatDoor
open Go Go.Vm
set_option maxRecDepth 1000000 in
theorem root_says : saysX (orX (cloneX 286) (addX 35)) (orX (cutKn 16 ar1 st8 va7 st13) (orX (cutKn 15 ar1 st5 va4 st8) (orX (cutKn 14 ar2 st4 va2 st5) (orX (cutKn 13 ar0 st0 va0 st1) sumKn)))) tab 200 6 = true := by kernel_rfl
theorem root_known : KnownOk Tryz.prog (yes 6) := saysX_yes ext_ok (orK_ok cut7_known (orK_ok cut4_known (orK_ok cut2_known (orK_ok cut0_known sum_known)))) tabIs mixed (go_of e6) root_says
end Go.Proofs.YtipmhhogebnpkaaGreatDoor
