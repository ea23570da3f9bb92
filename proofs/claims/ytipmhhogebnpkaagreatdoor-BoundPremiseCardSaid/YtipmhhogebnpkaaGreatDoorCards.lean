/-
  DERIVED. GIVEN WITH THE SEED: THE CARDS: each row of YtipmhhogebnpkaaGreatDoorRows.lean that lists a variable, with what it lists TIED to the program's text (the seventh form; the later family's looks); each row that meets fmt, with fmt's text TOLD by the authors' own Lean function (tested against real Go, not proved from fmt's source: count such statements apart). THE CARD IS WHAT COUNTS. Prove the row's statement (the work); the ties are given (YtipmhhogebnpkaaGreatDoorTie.lean); close each card by the builder's one call (the guide's Derived/Test/ToyasCard.lean, 'card_holds'). Laid BY PROGRAM, IN A SANDBOX (cutbox-door.mjs). By AI agents, Wed Nov 11 2026. No macro, syntax, notation, axiom, sorry.
-/
import Derived.Test.YtipmhhogebnpkaaGreatDoorRows
import GoSem.ClaimSeven
namespace Go.Proofs.YtipmhhogebnpkaaGreatDoor
namespace Rows

/-- THE TIED CARD OF 'wicketlaw26.BoundExact'. -/
def boundExactCard : Claim7 := { stood := { row := boundExactRow, standIns := [], harness := (true, "d554e1b09ab8a76eba9b579d4e0ed7be27fcfe8d1bef4a7eeeb1b60c364d374d"), looks := true }, kinds := [], alts := [], laidByText := true, laidKinds := [.data, .data], laidTests := true, laidLooks := .later }
def BoundExactCardSaid : Prop := Claim7.holds Tryz.pinned (.plain (OpenSpec.ofChange boundExactSpec)) boundExactCard

/-- THE TIED CARD OF 'wicketlaw26.BoundPremise'. -/
def boundPremiseCard : Claim7 := { stood := { row := boundPremiseRow, standIns := [], harness := (true, "d554e1b09ab8a76eba9b579d4e0ed7be27fcfe8d1bef4a7eeeb1b60c364d374d"), looks := true }, kinds := [], alts := [], laidByText := true, laidKinds := [.data, .data], laidTests := true, laidLooks := .later }
def BoundPremiseCardSaid : Prop := Claim7.holds Tryz.pinned (.plain (OpenSpec.ofChange boundPremiseSpec)) boundPremiseCard

/-- THE TIED CARD OF 'wicketlaw26.BoundGrows'. -/
def boundGrowsCard : Claim7 := { stood := { row := boundGrowsRow, standIns := [], harness := (true, "d554e1b09ab8a76eba9b579d4e0ed7be27fcfe8d1bef4a7eeeb1b60c364d374d"), looks := true }, kinds := [], alts := [], laidByText := true, laidKinds := [.data, .data], laidTests := true, laidLooks := .later }
def BoundGrowsCardSaid : Prop := Claim7.holds Tryz.pinned (.plain (OpenSpec.ofChange boundGrowsSpec)) boundGrowsCard

/-- THE SECOND FORM's CARD OF 'wicketlaw26.BoundExact'. -/
def boundExactUptoCard : Claim7 := { stood := { row := boundExactUptoRow, standIns := [], harness := (true, "d554e1b09ab8a76eba9b579d4e0ed7be27fcfe8d1bef4a7eeeb1b60c364d374d"), looks := true }, kinds := [], alts := [], laidByText := true, laidKinds := [.data, .data], laidTests := true, laidLooks := .later }
def BoundExactUptoCardSaid : Prop := Claim7.holds Tryz.pinned (.plain (OpenSpec.upto boundExactSpec)) boundExactUptoCard

/-- THE SECOND FORM's CARD OF 'wicketlaw26.BoundPremise'. -/
def boundPremiseUptoCard : Claim7 := { stood := { row := boundPremiseUptoRow, standIns := [], harness := (true, "d554e1b09ab8a76eba9b579d4e0ed7be27fcfe8d1bef4a7eeeb1b60c364d374d"), looks := true }, kinds := [], alts := [], laidByText := true, laidKinds := [.data, .data], laidTests := true, laidLooks := .later }
def BoundPremiseUptoCardSaid : Prop := Claim7.holds Tryz.pinned (.plain (OpenSpec.upto boundPremiseSpec)) boundPremiseUptoCard

/-- THE SECOND FORM's CARD OF 'wicketlaw26.BoundGrows'. -/
def boundGrowsUptoCard : Claim7 := { stood := { row := boundGrowsUptoRow, standIns := [], harness := (true, "d554e1b09ab8a76eba9b579d4e0ed7be27fcfe8d1bef4a7eeeb1b60c364d374d"), looks := true }, kinds := [], alts := [], laidByText := true, laidKinds := [.data, .data], laidTests := true, laidLooks := .later }
def BoundGrowsUptoCardSaid : Prop := Claim7.holds Tryz.pinned (.plain (OpenSpec.upto boundGrowsSpec)) boundGrowsUptoCard
end Rows
end Go.Proofs.YtipmhhogebnpkaaGreatDoor
