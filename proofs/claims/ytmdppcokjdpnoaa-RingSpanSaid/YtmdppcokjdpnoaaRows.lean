/-
  No cell of these rows narrows 'for every input' (looked for: loops, veiled, ifaces, maps, wideKeys, modest, calm, conditions, laid).
  DERIVED. THE GIVEN ROWS OF THIS SEAT. 5 by the template 'for every input the law returns true; each argument reads behind the call as it read before'; 0 by the template 'total and deterministic' (their statements: YtmdppcokjdpnoaaTotals.lean).
  GIVEN WITH THE SEED: the statements are not yours to turn. If you find one false, say at which input.
  Laid BY PROGRAM, IN A SANDBOX (cutbox-rows.mjs): the forced cells as the released guide's own fill.sh prints them over the translation 860b8af863c5761e… (all of the seat's roots in one cut). By AI agents, Wed Nov 11 2026. No macro, syntax, notation, axiom, sorry.
-/
import Derived.Test.YtmdppcokjdpnoaaChecked
import GoSem.Claim
import GoSem.ClaimJoined
import GoSem.ClaimMapViews
import Derived.JoinedTies
import Derived.KernelRfl
namespace Go.Proofs.Ytmdppcokjdpnoaa
/- THE CELL 'sum', in the pinned program and in every row, IS THE sha256 OF THE DUMP (.gsa) THAT YtmdppcokjdpnoaaProg.lean LOADS. Nothing in Lean hashes anything: it is a label: what it is worth is what the hold of that sum in a sandbox is worth. -/
noncomputable def Try.pinned : Pinned := { name := "ytmdppcokjdpnoaa", sum := "860b8af863c5761e80cb167c84abc921373f3859d0fbb79555655fb0c6606368", checked := Try.checked }
namespace Rows
def none {H : Type} : Left H := { results := [], args := [] }

/-- 'wicketlaw03.RingExact': WHATEVER THE INPUT: true; the input reads as it did. -/
def ringExactSpec : ChangeSpec := { name := "ringExact", fn := fun _ => fun
  | [d1, d2, d3, d4] => { results := [.lit (.bool true)], args := [d1, d2, d3, d4] }
  | _ => none }
def ringExactRow : OpenClaim := { program := "ytmdppcokjdpnoaa", sum := "860b8af863c5761e80cb167c84abc921373f3859d0fbb79555655fb0c6606368", func := "wicket/wicketlaw03.RingExact", spec := "ringExact", unfollowed := true, recurses := true, apart := false }
def RingExactSaid : Prop := ringExactRow.holds Try.pinned (OpenSpec.ofChange ringExactSpec)

/-- ITS FALSE NEIGHBOUR: 'it returns false'. Refute it at one input. -/
def ringExactWrong : ChangeSpec := { name := "ringExact", fn := fun _ => fun
  | [d1, d2, d3, d4] => { results := [.lit (.bool false)], args := [d1, d2, d3, d4] }
  | _ => none }
def RingExactWrongFalsely : Prop := ringExactRow.holds Try.pinned (OpenSpec.ofChange ringExactWrong)

/-- 'wicketlaw03.RingSpan': WHATEVER THE INPUT: true; the input reads as it did. -/
def ringSpanSpec : ChangeSpec := { name := "ringSpan", fn := fun _ => fun
  | [d1, d2, d3] => { results := [.lit (.bool true)], args := [d1, d2, d3] }
  | _ => none }
def ringSpanRow : OpenClaim := { program := "ytmdppcokjdpnoaa", sum := "860b8af863c5761e80cb167c84abc921373f3859d0fbb79555655fb0c6606368", func := "wicket/wicketlaw03.RingSpan", spec := "ringSpan", unfollowed := true, recurses := true, apart := false }
def RingSpanSaid : Prop := ringSpanRow.holds Try.pinned (OpenSpec.ofChange ringSpanSpec)

/-- ITS FALSE NEIGHBOUR: 'it returns false'. Refute it at one input. -/
def ringSpanWrong : ChangeSpec := { name := "ringSpan", fn := fun _ => fun
  | [d1, d2, d3] => { results := [.lit (.bool false)], args := [d1, d2, d3] }
  | _ => none }
def RingSpanWrongFalsely : Prop := ringSpanRow.holds Try.pinned (OpenSpec.ofChange ringSpanWrong)

/-- 'wicketlaw03.RingLap': WHATEVER THE INPUT: true; the input reads as it did. -/
def ringLapSpec : ChangeSpec := { name := "ringLap", fn := fun _ => fun
  | [d1, d2] => { results := [.lit (.bool true)], args := [d1, d2] }
  | _ => none }
def ringLapRow : OpenClaim := { program := "ytmdppcokjdpnoaa", sum := "860b8af863c5761e80cb167c84abc921373f3859d0fbb79555655fb0c6606368", func := "wicket/wicketlaw03.RingLap", spec := "ringLap", unfollowed := true, recurses := true, apart := false }
def RingLapSaid : Prop := ringLapRow.holds Try.pinned (OpenSpec.ofChange ringLapSpec)

/-- ITS FALSE NEIGHBOUR: 'it returns false'. Refute it at one input. -/
def ringLapWrong : ChangeSpec := { name := "ringLap", fn := fun _ => fun
  | [d1, d2] => { results := [.lit (.bool false)], args := [d1, d2] }
  | _ => none }
def RingLapWrongFalsely : Prop := ringLapRow.holds Try.pinned (OpenSpec.ofChange ringLapWrong)

/-- 'wicketlaw03.RingCounts': WHATEVER THE INPUT: true; the input reads as it did. -/
def ringCountsSpec : ChangeSpec := { name := "ringCounts", fn := fun _ => fun
  | [d1, d2, d3] => { results := [.lit (.bool true)], args := [d1, d2, d3] }
  | _ => none }
def ringCountsRow : OpenClaim := { program := "ytmdppcokjdpnoaa", sum := "860b8af863c5761e80cb167c84abc921373f3859d0fbb79555655fb0c6606368", func := "wicket/wicketlaw03.RingCounts", spec := "ringCounts", unfollowed := true, recurses := true, apart := false }
def RingCountsSaid : Prop := ringCountsRow.holds Try.pinned (OpenSpec.ofChange ringCountsSpec)

/-- ITS FALSE NEIGHBOUR: 'it returns false'. Refute it at one input. -/
def ringCountsWrong : ChangeSpec := { name := "ringCounts", fn := fun _ => fun
  | [d1, d2, d3] => { results := [.lit (.bool false)], args := [d1, d2, d3] }
  | _ => none }
def RingCountsWrongFalsely : Prop := ringCountsRow.holds Try.pinned (OpenSpec.ofChange ringCountsWrong)

/-- 'wicketlaw03.RingNext': WHATEVER THE INPUT: true; the input reads as it did. -/
def ringNextSpec : ChangeSpec := { name := "ringNext", fn := fun _ => fun
  | [d1, d2, d3] => { results := [.lit (.bool true)], args := [d1, d2, d3] }
  | _ => none }
def ringNextRow : OpenClaim := { program := "ytmdppcokjdpnoaa", sum := "860b8af863c5761e80cb167c84abc921373f3859d0fbb79555655fb0c6606368", func := "wicket/wicketlaw03.RingNext", spec := "ringNext", unfollowed := true, recurses := true, apart := false }
def RingNextSaid : Prop := ringNextRow.holds Try.pinned (OpenSpec.ofChange ringNextSpec)

/-- ITS FALSE NEIGHBOUR: 'it returns false'. Refute it at one input. -/
def ringNextWrong : ChangeSpec := { name := "ringNext", fn := fun _ => fun
  | [d1, d2, d3] => { results := [.lit (.bool false)], args := [d1, d2, d3] }
  | _ => none }
def RingNextWrongFalsely : Prop := ringNextRow.holds Try.pinned (OpenSpec.ofChange ringNextWrong)

/- THE SECOND FORM. 'bulk': how many values and letters a reading holds, each counted each time it is reached (what is shared counts as often as it is met; a slice's spare places count too). A statement '..UptoSaid' is the law's where the arguments, and the package variables that the reading takes, are together of bulk at most 1048576: NARROWER than '..Said'. Prove '..Said' where nothing that the law and all that it calls make is longer than what came in: it says more and counts as full. Else prove '..UptoSaid'. A law counts once. -/
mutual
def uptoBulk {H : Type} : DataW H → Nat
  | .lit (.string bytes) => bytes.length + 1
  | .lit _ => 1
  | .nil => 1
  | .ptr d => uptoBulk d + 1
  | .slice elems spare => uptoBulkAll elems + uptoBulkAll spare + 1
  | .agg parts => uptoBulkAll parts + 1
  | .iface _ d => uptoBulk d + 1
  | .map entries => uptoBulkEntries entries + 1
  | .held _ => 1
def uptoBulkAll {H : Type} : List (DataW H) → Nat
  | [] => 0
  | d :: r => uptoBulk d + uptoBulkAll r
def uptoBulkEntries {H : Type} : List (Lit × DataW H) → Nat
  | [] => 0
  | x :: r => uptoBulkEntry x + uptoBulkEntries r
def uptoBulkEntry {H : Type} : Lit × DataW H → Nat
  | (.string bytes, d) => bytes.length + uptoBulk d + 1
  | (_, d) => uptoBulk d + 1
 end
def uptoSmall : (H : Type) → List (DataW H) → Bool := fun _ ds => decide (uptoBulkAll ds ≤ 1048576)
def OpenSpec.upto (s : _root_.Go.ChangeSpec) : _root_.Go.OpenSpec := { _root_.Go.OpenSpec.ofChange s with cond := some uptoSmall }

/-- 'wicketlaw03.RingExact', WHERE WHAT IT READS IS OF BULK AT MOST 1048576: true; the input reads as it did. -/
def ringExactUptoRow : OpenClaim := { program := "ytmdppcokjdpnoaa", sum := "860b8af863c5761e80cb167c84abc921373f3859d0fbb79555655fb0c6606368", func := "wicket/wicketlaw03.RingExact", spec := "ringExact", unfollowed := true, recurses := true, apart := false, narrowed := true }
def RingExactUptoSaid : Prop := ringExactUptoRow.holds Try.pinned (OpenSpec.upto ringExactSpec)

/-- 'wicketlaw03.RingSpan', WHERE WHAT IT READS IS OF BULK AT MOST 1048576: true; the input reads as it did. -/
def ringSpanUptoRow : OpenClaim := { program := "ytmdppcokjdpnoaa", sum := "860b8af863c5761e80cb167c84abc921373f3859d0fbb79555655fb0c6606368", func := "wicket/wicketlaw03.RingSpan", spec := "ringSpan", unfollowed := true, recurses := true, apart := false, narrowed := true }
def RingSpanUptoSaid : Prop := ringSpanUptoRow.holds Try.pinned (OpenSpec.upto ringSpanSpec)

/-- 'wicketlaw03.RingLap', WHERE WHAT IT READS IS OF BULK AT MOST 1048576: true; the input reads as it did. -/
def ringLapUptoRow : OpenClaim := { program := "ytmdppcokjdpnoaa", sum := "860b8af863c5761e80cb167c84abc921373f3859d0fbb79555655fb0c6606368", func := "wicket/wicketlaw03.RingLap", spec := "ringLap", unfollowed := true, recurses := true, apart := false, narrowed := true }
def RingLapUptoSaid : Prop := ringLapUptoRow.holds Try.pinned (OpenSpec.upto ringLapSpec)

/-- 'wicketlaw03.RingCounts', WHERE WHAT IT READS IS OF BULK AT MOST 1048576: true; the input reads as it did. -/
def ringCountsUptoRow : OpenClaim := { program := "ytmdppcokjdpnoaa", sum := "860b8af863c5761e80cb167c84abc921373f3859d0fbb79555655fb0c6606368", func := "wicket/wicketlaw03.RingCounts", spec := "ringCounts", unfollowed := true, recurses := true, apart := false, narrowed := true }
def RingCountsUptoSaid : Prop := ringCountsUptoRow.holds Try.pinned (OpenSpec.upto ringCountsSpec)

/-- 'wicketlaw03.RingNext', WHERE WHAT IT READS IS OF BULK AT MOST 1048576: true; the input reads as it did. -/
def ringNextUptoRow : OpenClaim := { program := "ytmdppcokjdpnoaa", sum := "860b8af863c5761e80cb167c84abc921373f3859d0fbb79555655fb0c6606368", func := "wicket/wicketlaw03.RingNext", spec := "ringNext", unfollowed := true, recurses := true, apart := false, narrowed := true }
def RingNextUptoSaid : Prop := ringNextUptoRow.holds Try.pinned (OpenSpec.upto ringNextSpec)

end Rows
end Go.Proofs.Ytmdppcokjdpnoaa
