/- The abstract machine, part 21: a run of the evaluator is a call, from any world. -/
import Derived.Test.YtipmhhogebnpkaaGreatDoorK17
import Derived.RowKit3
namespace Go.Vm
open Go

set_option linter.unusedVariables false
set_option linter.unusedSimpArgs false

variable {P : Program}

def bare (w : World) : Base := { ρ := fun _ _ => none, own := fun _ => False, ro := fun _ _ _ => False, w := w }

theorem AHeap.get_empty (A : Nat) : AHeap.empty.get A = none := by simp [AHeap.get, AHeap.empty, Tr.get]

theorem HRel.bare (P : Program) (w : World) (hgl : GlHeld w) : HRel P (bare w) (fun _ _ => none) .empty w where
  le := Ren.le_refl _
  fresh := fun _ _ _ => rfl
  wf := fun A _ => AHeap.get_empty A
  dom := fun A v l h => by cases h
  obj := fun A o h => by rw [AHeap.get_empty] at h; cases h
  sep := fun A1 A2 v1 v2 l1 l2 h => by cases h
  own := fun A v l h => by cases h
  lt := fun A v l h => by cases h
  size := Nat.le_refl _
  frame := fun _ _ _ => rfl
  side := Side.refl _
  ro := fun A v l _ h => by cases h
  gl := fun x hx => ⟨fun q => q, hgl x hx⟩

/-- The world has grown; what lay there lies there. -/
structure GrownW (w w' : World) : Prop where
  kept : World.keptBut w w' (fun _ => False)
  fz : ∀ a, a.block < w.heap.size → w'.frozen? a = w.frozen? a
  size : w.heap.size ≤ w'.heap.size

theorem GrownW.frame {w w' : World} (h : GrownW w w') (may : MemPlace → Prop) : w.keptBut w' may := World.keptBut_mono (fun _ f => f.elim) h.kept

theorem GrownW.of {w w' : World} (hs : Side w w') (hf : ∀ c, c < w.heap.size → w'.heap[c]? = w.heap[c]?) (hz : w.heap.size ≤ w'.heap.size) : GrownW w w' := by
  refine ⟨⟨hs.os, hs.out, fun i hi => ?_⟩, fun a ha => by unfold World.frozen?; rw [hf _ ha], hz⟩
  rw [hf i hi]
  have : ∃ o, w.heap[i]? = some o := ⟨w.heap[i], Array.getElem?_eq_getElem hi⟩
  obtain ⟨o, ho⟩ := this
  rw [ho]
  cases o <;> simp

theorem HRel.grown {ρ : Ren} {H : AHeap} {w w' : World} (h : HRel P (Vm.bare w) ρ H w') : GrownW w w' := .of h.side (fun c hc => h.frame c hc fun x => x) h.size

end Go.Vm
