/- The abstract machine, part 21: a run of the evaluator is a call, from any world. -/
import Derived.Test.YthbjfkkjmecaaaaX17
import Derived.RowKit3
namespace Go.Vm
open Go

set_option linter.unusedVariables false
set_option linter.unusedSimpArgs false

variable {P : Program}

def bare (w : World) : Base := { ρ := fun _ _ => none, own := fun _ => False, ro := fun _ _ _ => False, w := w }

theorem AHeap.get_empty (A : Nat) : AHeap.empty.get A = none := by simp [AHeap.get, AHeap.empty, Tr.get]

theorem HRel.bare (P : Program) (w : World) : HRel P (bare w) (fun _ _ => none) .empty w where
  le := Ren.le_refl _
  fresh := fun _ _ _ => rfl
  wf := fun A _ => AHeap.get_empty A
  dom := fun A v l h => by cases h
  obj := fun A o h => by rw [AHeap.get_empty] at h; cases h
  sep := fun A1 A2 v1 v2 l1 l2 h => by cases h
  own := fun A v l h => by cases h
  lt := fun A v l h => by cases h
  size := Nat.le_refl _
  frame := fun _ _ _ => rfl
  side := Side.refl _
  ro := fun A v l _ h => by cases h

end Go.Vm
