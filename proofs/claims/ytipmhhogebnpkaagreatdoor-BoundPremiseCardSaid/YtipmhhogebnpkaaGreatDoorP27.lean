/- The table of functions that are walked. -/
import Derived.Test.YtipmhhogebnpkaaGreatDoorP20
import Derived.Test.YtipmhhogebnpkaaGreatDoorProg
namespace Go.Proofs.YtipmhhogebnpkaaGreatDoor
open Go Go.Vm
set_option maxRecDepth 20000
theorem ep4 : envP Tryz.prog 4 = some p4 := by kernel_rfl
theorem ep9 : envP Tryz.prog 9 = some p9 := by kernel_rfl
theorem ep10 : envP Tryz.prog 10 = some p10 := by kernel_rfl
theorem ep11 : envP Tryz.prog 11 = some p11 := by kernel_rfl
theorem ep12 : envP Tryz.prog 12 = some p12 := by kernel_rfl
theorem ep26 : envP Tryz.prog 26 = some p26 := by kernel_rfl
theorem ep27 : envP Tryz.prog 27 = some p27 := by kernel_rfl
theorem ep28 : envP Tryz.prog 28 = some p28 := by kernel_rfl
theorem ep29 : envP Tryz.prog 29 = some p29 := by kernel_rfl
theorem ep37 : envP Tryz.prog 37 = some p37 := by kernel_rfl
theorem ep38 : envP Tryz.prog 38 = some p38 := by kernel_rfl
theorem ep44 : envP Tryz.prog 44 = some p44 := by kernel_rfl
theorem ep52 : envP Tryz.prog 52 = some p52 := by kernel_rfl
theorem ep69 : envP Tryz.prog 69 = some p69 := by kernel_rfl
theorem ep70 : envP Tryz.prog 70 = some p70 := by kernel_rfl
noncomputable def tabP : List (List (Option AFunc)) := [[none, none, none, none, some p4, none, none, none, none, some p9, some p10, some p11, some p12, none, none, none], [none, none, none, none, none, none, none, none, none, none, some p26, some p27, some p28, some p29, none, none], [none, none, none, none, none, some p37, some p38, none, none, none, none, none, some p44, none, none, none], [none, none, none, none, some p52, none, none, none, none, none, none, none, none, none, none, none], [none, none, none, none, none, some p69, some p70, none, none, none, none, none, none, none, none, none]]
theorem tabPIs : TabIs Tryz.prog 0 tabP := ⟨⟨ep4, ⟨ep9, ⟨ep10, ⟨ep11, ⟨ep12, trivial⟩⟩⟩⟩⟩, ⟨⟨ep26, ⟨ep27, ⟨ep28, ⟨ep29, trivial⟩⟩⟩⟩, ⟨⟨ep37, ⟨ep38, ⟨ep44, trivial⟩⟩⟩, ⟨⟨ep52, trivial⟩, ⟨⟨ep69, ⟨ep70, trivial⟩⟩, trivial⟩⟩⟩⟩⟩
end Go.Proofs.YtipmhhogebnpkaaGreatDoor
