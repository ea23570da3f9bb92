/-
  No cell of these rows narrows 'for every input' (looked for: loops, veiled, ifaces, maps, wideKeys, modest, calm, conditions, laid).
  DERIVED. THE GIVEN ROWS OF THIS SEAT. 8 by the template 'for every input the law returns true; each argument reads behind the call as it read before'; 0 by the template 'total and deterministic' (their statements: YthbjfkkjmecaaaaTotals.lean).
  GIVEN WITH THE SEED: the statements are not yours to turn. If you find one false, say at which input.
  Laid BY PROGRAM, IN A SANDBOX (cutbox-rows.mjs): the forced cells as the released guide's own fill.sh prints them over the translation f080a77dc006bd28… (all of the seat's roots in one cut). By AI agents, Wed Nov 11 2026. No macro, syntax, notation, axiom, sorry.
-/
import Derived.Test.YthbjfkkjmecaaaaChecked
import GoSem.Claim
import GoSem.ClaimJoined
import GoSem.ClaimMapViews
import Derived.JoinedTies
import Derived.KernelRfl
namespace Go.Proofs.Ythbjfkkjmecaaaa
/- THE CELL 'sum', in the pinned program and in every row, IS THE sha256 OF THE DUMP (.gsa) THAT YthbjfkkjmecaaaaProg.lean LOADS. Nothing in Lean hashes anything: it is a label: what it is worth is what the hold of that sum in a sandbox is worth. -/
noncomputable def Try.pinned : Pinned := { name := "ythbjfkkjmecaaaa", sum := "f080a77dc006bd289fad4ddcbd6c29b1324c712a08f93741a315a20a37318cb8", checked := Try.checked }
namespace Rows
def none {H : Type} : Left H := { results := [], args := [] }

/-- 'wicketlaw24.SerialJudges': WHATEVER THE INPUT: true; the input reads as it did. -/
def serialJudgesSpec : ChangeSpec := { name := "serialJudges", fn := fun _ => fun
  | [d1, d2, d3] => { results := [.lit (.bool true)], args := [d1, d2, d3] }
  | _ => none }
def serialJudgesRow : OpenClaim := { program := "ythbjfkkjmecaaaa", sum := "f080a77dc006bd289fad4ddcbd6c29b1324c712a08f93741a315a20a37318cb8", func := "wicket/wicketlaw24.SerialJudges", spec := "serialJudges", inPlace := ["slices.overlaps[wicket/api.Image]"], unfollowed := true, recurses := true, apart := false }
def SerialJudgesSaid : Prop := serialJudgesRow.holds Try.pinned (OpenSpec.ofChange serialJudgesSpec)

/-- ITS FALSE NEIGHBOUR: 'it returns false'. Refute it at one input. -/
def serialJudgesWrong : ChangeSpec := { name := "serialJudges", fn := fun _ => fun
  | [d1, d2, d3] => { results := [.lit (.bool false)], args := [d1, d2, d3] }
  | _ => none }
def SerialJudgesWrongFalsely : Prop := serialJudgesRow.holds Try.pinned (OpenSpec.ofChange serialJudgesWrong)

/-- 'wicketlaw24.SerialBy': WHATEVER THE INPUT: true; the input reads as it did. -/
def serialBySpec : ChangeSpec := { name := "serialBy", fn := fun _ => fun
  | [d1, d2, d3] => { results := [.lit (.bool true)], args := [d1, d2, d3] }
  | _ => none }
def serialByRow : OpenClaim := { program := "ythbjfkkjmecaaaa", sum := "f080a77dc006bd289fad4ddcbd6c29b1324c712a08f93741a315a20a37318cb8", func := "wicket/wicketlaw24.SerialBy", spec := "serialBy", inPlace := ["slices.overlaps[wicket/api.Image]"], unfollowed := true, recurses := true, apart := false }
def SerialBySaid : Prop := serialByRow.holds Try.pinned (OpenSpec.ofChange serialBySpec)

/-- ITS FALSE NEIGHBOUR: 'it returns false'. Refute it at one input. -/
def serialByWrong : ChangeSpec := { name := "serialBy", fn := fun _ => fun
  | [d1, d2, d3] => { results := [.lit (.bool false)], args := [d1, d2, d3] }
  | _ => none }
def SerialByWrongFalsely : Prop := serialByRow.holds Try.pinned (OpenSpec.ofChange serialByWrong)

/-- 'wicketlaw24.SerialSwaps': WHATEVER THE INPUT: true; the input reads as it did. -/
def serialSwapsSpec : ChangeSpec := { name := "serialSwaps", fn := fun _ => fun
  | [d1, d2, d3] => { results := [.lit (.bool true)], args := [d1, d2, d3] }
  | _ => none }
def serialSwapsRow : OpenClaim := { program := "ythbjfkkjmecaaaa", sum := "f080a77dc006bd289fad4ddcbd6c29b1324c712a08f93741a315a20a37318cb8", func := "wicket/wicketlaw24.SerialSwaps", spec := "serialSwaps", inPlace := ["slices.overlaps[wicket/api.Image]"], unfollowed := true, recurses := true, apart := false }
def SerialSwapsSaid : Prop := serialSwapsRow.holds Try.pinned (OpenSpec.ofChange serialSwapsSpec)

/-- ITS FALSE NEIGHBOUR: 'it returns false'. Refute it at one input. -/
def serialSwapsWrong : ChangeSpec := { name := "serialSwaps", fn := fun _ => fun
  | [d1, d2, d3] => { results := [.lit (.bool false)], args := [d1, d2, d3] }
  | _ => none }
def SerialSwapsWrongFalsely : Prop := serialSwapsRow.holds Try.pinned (OpenSpec.ofChange serialSwapsWrong)

/-- 'wicketlaw24.SerialTells': WHATEVER THE INPUT: true; the input reads as it did. -/
def serialTellsSpec : ChangeSpec := { name := "serialTells", fn := fun _ => fun
  | [d1, d2, d3, d4] => { results := [.lit (.bool true)], args := [d1, d2, d3, d4] }
  | _ => none }
def serialTellsRow : OpenClaim := { program := "ythbjfkkjmecaaaa", sum := "f080a77dc006bd289fad4ddcbd6c29b1324c712a08f93741a315a20a37318cb8", func := "wicket/wicketlaw24.SerialTells", spec := "serialTells", inPlace := ["slices.overlaps[wicket/api.Image]"], unfollowed := true, recurses := true, apart := false }
def SerialTellsSaid : Prop := serialTellsRow.holds Try.pinned (OpenSpec.ofChange serialTellsSpec)

/-- ITS FALSE NEIGHBOUR: 'it returns false'. Refute it at one input. -/
def serialTellsWrong : ChangeSpec := { name := "serialTells", fn := fun _ => fun
  | [d1, d2, d3, d4] => { results := [.lit (.bool false)], args := [d1, d2, d3, d4] }
  | _ => none }
def SerialTellsWrongFalsely : Prop := serialTellsRow.holds Try.pinned (OpenSpec.ofChange serialTellsWrong)

/-- 'wicketlaw24.SerialNames': WHATEVER THE INPUT: true; the input reads as it did. -/
def serialNamesSpec : ChangeSpec := { name := "serialNames", fn := fun _ => fun
  | [] => { results := [.lit (.bool true)], args := [] }
  | _ => none }
def serialNamesRow : OpenClaim := { program := "ythbjfkkjmecaaaa", sum := "f080a77dc006bd289fad4ddcbd6c29b1324c712a08f93741a315a20a37318cb8", func := "wicket/wicketlaw24.SerialNames", spec := "serialNames", inPlace := ["slices.overlaps[wicket/api.Image]"], unfollowed := true, recurses := true, apart := false }
def SerialNamesSaid : Prop := serialNamesRow.holds Try.pinned (OpenSpec.ofChange serialNamesSpec)

/-- ITS FALSE NEIGHBOUR: 'it returns false'. Refute it at one input. -/
def serialNamesWrong : ChangeSpec := { name := "serialNames", fn := fun _ => fun
  | [] => { results := [.lit (.bool false)], args := [] }
  | _ => none }
def SerialNamesWrongFalsely : Prop := serialNamesRow.holds Try.pinned (OpenSpec.ofChange serialNamesWrong)

/-- 'wicketlaw24.SerialAlone': WHATEVER THE INPUT: true; the input reads as it did. -/
def serialAloneSpec : ChangeSpec := { name := "serialAlone", fn := fun _ => fun
  | [d1, d2] => { results := [.lit (.bool true)], args := [d1, d2] }
  | _ => none }
def serialAloneRow : OpenClaim := { program := "ythbjfkkjmecaaaa", sum := "f080a77dc006bd289fad4ddcbd6c29b1324c712a08f93741a315a20a37318cb8", func := "wicket/wicketlaw24.SerialAlone", spec := "serialAlone", inPlace := ["slices.overlaps[wicket/api.Image]"], unfollowed := true, recurses := true, apart := false }
def SerialAloneSaid : Prop := serialAloneRow.holds Try.pinned (OpenSpec.ofChange serialAloneSpec)

/-- ITS FALSE NEIGHBOUR: 'it returns false'. Refute it at one input. -/
def serialAloneWrong : ChangeSpec := { name := "serialAlone", fn := fun _ => fun
  | [d1, d2] => { results := [.lit (.bool false)], args := [d1, d2] }
  | _ => none }
def SerialAloneWrongFalsely : Prop := serialAloneRow.holds Try.pinned (OpenSpec.ofChange serialAloneWrong)

/-- 'wicketlaw24.SerialIsAlone': WHATEVER THE INPUT: true; the input reads as it did. -/
def serialIsAloneSpec : ChangeSpec := { name := "serialIsAlone", fn := fun _ => fun
  | [d1, d2, d3] => { results := [.lit (.bool true)], args := [d1, d2, d3] }
  | _ => none }
def serialIsAloneRow : OpenClaim := { program := "ythbjfkkjmecaaaa", sum := "f080a77dc006bd289fad4ddcbd6c29b1324c712a08f93741a315a20a37318cb8", func := "wicket/wicketlaw24.SerialIsAlone", spec := "serialIsAlone", inPlace := ["slices.overlaps[wicket/api.Image]"], unfollowed := true, recurses := true, apart := false }
def SerialIsAloneSaid : Prop := serialIsAloneRow.holds Try.pinned (OpenSpec.ofChange serialIsAloneSpec)

/-- ITS FALSE NEIGHBOUR: 'it returns false'. Refute it at one input. -/
def serialIsAloneWrong : ChangeSpec := { name := "serialIsAlone", fn := fun _ => fun
  | [d1, d2, d3] => { results := [.lit (.bool false)], args := [d1, d2, d3] }
  | _ => none }
def SerialIsAloneWrongFalsely : Prop := serialIsAloneRow.holds Try.pinned (OpenSpec.ofChange serialIsAloneWrong)

/-- 'wicketlaw25.DurableNames': WHATEVER THE INPUT: true; the input reads as it did. -/
def durableNamesSpec : ChangeSpec := { name := "durableNames", fn := fun _ => fun
  | [] => { results := [.lit (.bool true)], args := [] }
  | _ => none }
def durableNamesRow : OpenClaim := { program := "ythbjfkkjmecaaaa", sum := "f080a77dc006bd289fad4ddcbd6c29b1324c712a08f93741a315a20a37318cb8", func := "wicket/wicketlaw25.DurableNames", spec := "durableNames", inPlace := ["slices.overlaps[wicket/api.Image]"], unfollowed := true, recurses := true, apart := false }
def DurableNamesSaid : Prop := durableNamesRow.holds Try.pinned (OpenSpec.ofChange durableNamesSpec)

/-- ITS FALSE NEIGHBOUR: 'it returns false'. Refute it at one input. -/
def durableNamesWrong : ChangeSpec := { name := "durableNames", fn := fun _ => fun
  | [] => { results := [.lit (.bool false)], args := [] }
  | _ => none }
def DurableNamesWrongFalsely : Prop := durableNamesRow.holds Try.pinned (OpenSpec.ofChange durableNamesWrong)

/- THE SECOND FORM. 'bulk': how many values and letters a reading holds, each counted each time it is reached (what is shared counts as often as it is met; a slice's spare places count too). A statement '..UptoSaid' is the law's where the arguments, and the package variables that the reading takes, are together of bulk at most 1048576: NARROWER than '..Said'. Prove '..Said' where nothing that the law and all that it calls make is longer than what came in: it says more and counts as full. Else prove '..UptoSaid'. A law counts once. -/
mutual
def uptoBulk {H : Type} : DataW H → Nat
  | .lit (.string bytes) => bytes.length + 1
  | .lit _ => 1
  | .nil => 1
  | .ptr d => uptoBulk d + 1
  | .slice elems spare => uptoBulkAll elems + uptoBulkAll spare + 1
  | .agg parts => uptoBulkAll parts + 1
  | .iface _ d => uptoBulk d + 1
  | .map entries => uptoBulkEntries entries + 1
  | .held _ => 1
def uptoBulkAll {H : Type} : List (DataW H) → Nat
  | [] => 0
  | d :: r => uptoBulk d + uptoBulkAll r
def uptoBulkEntries {H : Type} : List (Lit × DataW H) → Nat
  | [] => 0
  | x :: r => uptoBulkEntry x + uptoBulkEntries r
def uptoBulkEntry {H : Type} : Lit × DataW H → Nat
  | (.string bytes, d) => bytes.length + uptoBulk d + 1
  | (_, d) => uptoBulk d + 1
 end
def uptoSmall : (H : Type) → List (DataW H) → Bool := fun _ ds => decide (uptoBulkAll ds ≤ 1048576)
def OpenSpec.upto (s : _root_.Go.ChangeSpec) : _root_.Go.OpenSpec := { _root_.Go.OpenSpec.ofChange s with cond := some uptoSmall }

/-- 'wicketlaw24.SerialJudges', WHERE WHAT IT READS IS OF BULK AT MOST 1048576: true; the input reads as it did. -/
def serialJudgesUptoRow : OpenClaim := { program := "ythbjfkkjmecaaaa", sum := "f080a77dc006bd289fad4ddcbd6c29b1324c712a08f93741a315a20a37318cb8", func := "wicket/wicketlaw24.SerialJudges", spec := "serialJudges", inPlace := ["slices.overlaps[wicket/api.Image]"], unfollowed := true, recurses := true, apart := false, narrowed := true }
def SerialJudgesUptoSaid : Prop := serialJudgesUptoRow.holds Try.pinned (OpenSpec.upto serialJudgesSpec)

/-- 'wicketlaw24.SerialBy', WHERE WHAT IT READS IS OF BULK AT MOST 1048576: true; the input reads as it did. -/
def serialByUptoRow : OpenClaim := { program := "ythbjfkkjmecaaaa", sum := "f080a77dc006bd289fad4ddcbd6c29b1324c712a08f93741a315a20a37318cb8", func := "wicket/wicketlaw24.SerialBy", spec := "serialBy", inPlace := ["slices.overlaps[wicket/api.Image]"], unfollowed := true, recurses := true, apart := false, narrowed := true }
def SerialByUptoSaid : Prop := serialByUptoRow.holds Try.pinned (OpenSpec.upto serialBySpec)

/-- 'wicketlaw24.SerialSwaps', WHERE WHAT IT READS IS OF BULK AT MOST 1048576: true; the input reads as it did. -/
def serialSwapsUptoRow : OpenClaim := { program := "ythbjfkkjmecaaaa", sum := "f080a77dc006bd289fad4ddcbd6c29b1324c712a08f93741a315a20a37318cb8", func := "wicket/wicketlaw24.SerialSwaps", spec := "serialSwaps", inPlace := ["slices.overlaps[wicket/api.Image]"], unfollowed := true, recurses := true, apart := false, narrowed := true }
def SerialSwapsUptoSaid : Prop := serialSwapsUptoRow.holds Try.pinned (OpenSpec.upto serialSwapsSpec)

/-- 'wicketlaw24.SerialTells', WHERE WHAT IT READS IS OF BULK AT MOST 1048576: true; the input reads as it did. -/
def serialTellsUptoRow : OpenClaim := { program := "ythbjfkkjmecaaaa", sum := "f080a77dc006bd289fad4ddcbd6c29b1324c712a08f93741a315a20a37318cb8", func := "wicket/wicketlaw24.SerialTells", spec := "serialTells", inPlace := ["slices.overlaps[wicket/api.Image]"], unfollowed := true, recurses := true, apart := false, narrowed := true }
def SerialTellsUptoSaid : Prop := serialTellsUptoRow.holds Try.pinned (OpenSpec.upto serialTellsSpec)

/-- 'wicketlaw24.SerialNames', WHERE WHAT IT READS IS OF BULK AT MOST 1048576: true; the input reads as it did. -/
def serialNamesUptoRow : OpenClaim := { program := "ythbjfkkjmecaaaa", sum := "f080a77dc006bd289fad4ddcbd6c29b1324c712a08f93741a315a20a37318cb8", func := "wicket/wicketlaw24.SerialNames", spec := "serialNames", inPlace := ["slices.overlaps[wicket/api.Image]"], unfollowed := true, recurses := true, apart := false, narrowed := true }
def SerialNamesUptoSaid : Prop := serialNamesUptoRow.holds Try.pinned (OpenSpec.upto serialNamesSpec)

/-- 'wicketlaw24.SerialAlone', WHERE WHAT IT READS IS OF BULK AT MOST 1048576: true; the input reads as it did. -/
def serialAloneUptoRow : OpenClaim := { program := "ythbjfkkjmecaaaa", sum := "f080a77dc006bd289fad4ddcbd6c29b1324c712a08f93741a315a20a37318cb8", func := "wicket/wicketlaw24.SerialAlone", spec := "serialAlone", inPlace := ["slices.overlaps[wicket/api.Image]"], unfollowed := true, recurses := true, apart := false, narrowed := true }
def SerialAloneUptoSaid : Prop := serialAloneUptoRow.holds Try.pinned (OpenSpec.upto serialAloneSpec)

/-- 'wicketlaw24.SerialIsAlone', WHERE WHAT IT READS IS OF BULK AT MOST 1048576: true; the input reads as it did. -/
def serialIsAloneUptoRow : OpenClaim := { program := "ythbjfkkjmecaaaa", sum := "f080a77dc006bd289fad4ddcbd6c29b1324c712a08f93741a315a20a37318cb8", func := "wicket/wicketlaw24.SerialIsAlone", spec := "serialIsAlone", inPlace := ["slices.overlaps[wicket/api.Image]"], unfollowed := true, recurses := true, apart := false, narrowed := true }
def SerialIsAloneUptoSaid : Prop := serialIsAloneUptoRow.holds Try.pinned (OpenSpec.upto serialIsAloneSpec)

/-- 'wicketlaw25.DurableNames', WHERE WHAT IT READS IS OF BULK AT MOST 1048576: true; the input reads as it did. -/
def durableNamesUptoRow : OpenClaim := { program := "ythbjfkkjmecaaaa", sum := "f080a77dc006bd289fad4ddcbd6c29b1324c712a08f93741a315a20a37318cb8", func := "wicket/wicketlaw25.DurableNames", spec := "durableNames", inPlace := ["slices.overlaps[wicket/api.Image]"], unfollowed := true, recurses := true, apart := false, narrowed := true }
def DurableNamesUptoSaid : Prop := durableNamesUptoRow.holds Try.pinned (OpenSpec.upto durableNamesSpec)

end Rows
end Go.Proofs.Ythbjfkkjmecaaaa
