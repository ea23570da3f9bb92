/-
  DERIVED. GIVEN WITH THE SEED: THE CARDS: each row of YtaeleakdmphnfaaGreatDoorRows.lean that lists a variable, with what it lists TIED to the program's text (the seventh form; the later family's looks); each row that meets fmt, with fmt's text TOLD by the authors' own Lean function (tested against real Go, not proved from fmt's source: count such statements apart). THE CARD IS WHAT COUNTS. Prove the row's statement (the work); the ties are given (YtaeleakdmphnfaaGreatDoorTie.lean); close each card by the builder's one call (the guide's Derived/Test/ToyasCard.lean, 'card_holds'). Laid BY PROGRAM, IN A SANDBOX (cutbox-door.mjs). By AI agents, Wed Nov 11 2026. No macro, syntax, notation, axiom, sorry.
-/
import Derived.Test.YtaeleakdmphnfaaGreatDoorRows
import GoSem.ClaimSeven
namespace Go.Proofs.YtaeleakdmphnfaaGreatDoor
namespace Rows

/-- THE TIED CARD OF 'wicketlaw22.EngineNone'. -/
def engineNoneCard : Claim7 := { stood := { row := engineNoneRow, standIns := [], harness := (true, "896d6d6eabd673e372ccdcf67c533362faed35218207248be19b0c39a3ffaec1"), looks := true }, kinds := [], alts := [], laidByText := true, laidKinds := [.data, .data], laidTests := true, laidLooks := .later }
def EngineNoneCardSaid : Prop := Claim7.holds Tryz.pinned (.plain (OpenSpec.ofChange engineNoneSpec)) engineNoneCard

/-- THE TIED CARD OF 'wicketlaw26.BoundExact'. -/
def boundExactCard : Claim7 := { stood := { row := boundExactRow, standIns := [], harness := (true, "896d6d6eabd673e372ccdcf67c533362faed35218207248be19b0c39a3ffaec1"), looks := true }, kinds := [], alts := [], laidByText := true, laidKinds := [.data, .data], laidTests := true, laidLooks := .later }
def BoundExactCardSaid : Prop := Claim7.holds Tryz.pinned (.plain (OpenSpec.ofChange boundExactSpec)) boundExactCard

/-- THE TIED CARD OF 'wicketlaw26.BoundPremise'. -/
def boundPremiseCard : Claim7 := { stood := { row := boundPremiseRow, standIns := [], harness := (true, "896d6d6eabd673e372ccdcf67c533362faed35218207248be19b0c39a3ffaec1"), looks := true }, kinds := [], alts := [], laidByText := true, laidKinds := [.data, .data], laidTests := true, laidLooks := .later }
def BoundPremiseCardSaid : Prop := Claim7.holds Tryz.pinned (.plain (OpenSpec.ofChange boundPremiseSpec)) boundPremiseCard

/-- THE TIED CARD OF 'wicketlaw23.HistoryTxs'. -/
def historyTxsCard : Claim7 := { stood := { row := historyTxsRow, standIns := [], harness := (true, "896d6d6eabd673e372ccdcf67c533362faed35218207248be19b0c39a3ffaec1"), looks := true }, kinds := [], alts := [], laidByText := true, laidKinds := [.data, .data, .data, .data, .data, .sentinel, .sentinel, .data, .pinned], laidTests := true, laidLooks := .later }
def HistoryTxsCardSaid : Prop := Claim7.holds Tryz.pinned (.plain (OpenSpec.ofChange historyTxsSpec)) historyTxsCard

/-- THE TIED CARD OF 'wicketlaw23.HistoryWrites'. -/
def historyWritesCard : Claim7 := { stood := { row := historyWritesRow, standIns := [], harness := (true, "896d6d6eabd673e372ccdcf67c533362faed35218207248be19b0c39a3ffaec1"), looks := true }, kinds := [], alts := [], laidByText := true, laidKinds := [.data, .data, .data, .data, .data, .sentinel, .sentinel, .data, .pinned], laidTests := true, laidLooks := .later }
def HistoryWritesCardSaid : Prop := Claim7.holds Tryz.pinned (.plain (OpenSpec.ofChange historyWritesSpec)) historyWritesCard

/-- THE TIED CARD OF 'wicketlaw23.HistoryReads'. -/
def historyReadsCard : Claim7 := { stood := { row := historyReadsRow, standIns := [], harness := (true, "896d6d6eabd673e372ccdcf67c533362faed35218207248be19b0c39a3ffaec1"), looks := true }, kinds := [], alts := [], laidByText := true, laidKinds := [.data, .data, .data, .data, .data, .sentinel, .sentinel, .data, .pinned], laidTests := true, laidLooks := .later }
def HistoryReadsCardSaid : Prop := Claim7.holds Tryz.pinned (.plain (OpenSpec.ofChange historyReadsSpec)) historyReadsCard

/-- THE SECOND FORM's CARD OF 'wicketlaw22.EngineNone'. -/
def engineNoneUptoCard : Claim7 := { stood := { row := engineNoneUptoRow, standIns := [], harness := (true, "896d6d6eabd673e372ccdcf67c533362faed35218207248be19b0c39a3ffaec1"), looks := true }, kinds := [], alts := [], laidByText := true, laidKinds := [.data, .data], laidTests := true, laidLooks := .later }
def EngineNoneUptoCardSaid : Prop := Claim7.holds Tryz.pinned (.plain (OpenSpec.upto engineNoneSpec)) engineNoneUptoCard

/-- THE SECOND FORM's CARD OF 'wicketlaw26.BoundExact'. -/
def boundExactUptoCard : Claim7 := { stood := { row := boundExactUptoRow, standIns := [], harness := (true, "896d6d6eabd673e372ccdcf67c533362faed35218207248be19b0c39a3ffaec1"), looks := true }, kinds := [], alts := [], laidByText := true, laidKinds := [.data, .data], laidTests := true, laidLooks := .later }
def BoundExactUptoCardSaid : Prop := Claim7.holds Tryz.pinned (.plain (OpenSpec.upto boundExactSpec)) boundExactUptoCard

/-- THE SECOND FORM's CARD OF 'wicketlaw26.BoundPremise'. -/
def boundPremiseUptoCard : Claim7 := { stood := { row := boundPremiseUptoRow, standIns := [], harness := (true, "896d6d6eabd673e372ccdcf67c533362faed35218207248be19b0c39a3ffaec1"), looks := true }, kinds := [], alts := [], laidByText := true, laidKinds := [.data, .data], laidTests := true, laidLooks := .later }
def BoundPremiseUptoCardSaid : Prop := Claim7.holds Tryz.pinned (.plain (OpenSpec.upto boundPremiseSpec)) boundPremiseUptoCard

/-- THE SECOND FORM's CARD OF 'wicketlaw23.HistoryTxs'. -/
def historyTxsUptoCard : Claim7 := { stood := { row := historyTxsUptoRow, standIns := [], harness := (true, "896d6d6eabd673e372ccdcf67c533362faed35218207248be19b0c39a3ffaec1"), looks := true }, kinds := [], alts := [], laidByText := true, laidKinds := [.data, .data, .data, .data, .data, .sentinel, .sentinel, .data, .pinned], laidTests := true, laidLooks := .later }
def HistoryTxsUptoCardSaid : Prop := Claim7.holds Tryz.pinned (.plain (OpenSpec.upto historyTxsSpec)) historyTxsUptoCard

/-- THE SECOND FORM's CARD OF 'wicketlaw23.HistoryWrites'. -/
def historyWritesUptoCard : Claim7 := { stood := { row := historyWritesUptoRow, standIns := [], harness := (true, "896d6d6eabd673e372ccdcf67c533362faed35218207248be19b0c39a3ffaec1"), looks := true }, kinds := [], alts := [], laidByText := true, laidKinds := [.data, .data, .data, .data, .data, .sentinel, .sentinel, .data, .pinned], laidTests := true, laidLooks := .later }
def HistoryWritesUptoCardSaid : Prop := Claim7.holds Tryz.pinned (.plain (OpenSpec.upto historyWritesSpec)) historyWritesUptoCard

/-- THE SECOND FORM's CARD OF 'wicketlaw23.HistoryReads'. -/
def historyReadsUptoCard : Claim7 := { stood := { row := historyReadsUptoRow, standIns := [], harness := (true, "896d6d6eabd673e372ccdcf67c533362faed35218207248be19b0c39a3ffaec1"), looks := true }, kinds := [], alts := [], laidByText := true, laidKinds := [.data, .data, .data, .data, .data, .sentinel, .sentinel, .data, .pinned], laidTests := true, laidLooks := .later }
def HistoryReadsUptoCardSaid : Prop := Claim7.holds Tryz.pinned (.plain (OpenSpec.upto historyReadsSpec)) historyReadsUptoCard
end Rows
end Go.Proofs.YtaeleakdmphnfaaGreatDoor
