/- The abstract machine, part 21: a run of the evaluator is a call, from any world. -/
import Derived.Test.YtaeleakdmphnfaaGreatDoorVmEval
import Derived.RowKit3
namespace Go.Vm
open Go

set_option linter.unusedVariables false
set_option linter.unusedSimpArgs false

variable {P : Program}

def bare (w : World) : Base := { ρ := fun _ _ => none, own := fun _ => False, ro := fun _ _ _ => False, w := w }

theorem AHeap.get_empty (A : Nat) : AHeap.empty.get A = none := by simp [AHeap.get, AHeap.empty, Tr.get]

theorem HRel.bare (P : Program) (w : World) (hgl : GlHeld w) : HRel P (bare w) (fun _ _ => none) .empty w where
  le := Ren.le_refl _
  fresh := fun _ _ _ => rfl
  wf := fun A _ => AHeap.get_empty A
  dom := fun A v l h => by cases h
  obj := fun A o h => by rw [AHeap.get_empty] at h; cases h
  sep := fun A1 A2 v1 v2 l1 l2 h => by cases h
  own := fun A v l h => by cases h
  lt := fun A v l h => by cases h
  size := Nat.le_refl _
  frame := fun _ _ _ => rfl
  side := Side.refl _
  ro := fun A v l _ h => by cases h
  gl := fun x hx => ⟨fun q => q, hgl x hx⟩

/-- The world has grown; what lay there lies there. -/
structure GrownW (w w' : World) : Prop where
  kept : World.keptBut w w' (fun _ => False)
  fz : ∀ a, a.block < w.heap.size → w'.frozen? a = w.frozen? a
  size : w.heap.size ≤ w'.heap.size

theorem GrownW.frame {w w' : World} (h : GrownW w w') (may : MemPlace → Prop) : w.keptBut w' may := World.keptBut_mono (fun _ f => f.elim) h.kept

theorem GrownW.of {w w' : World} (hs : Side w w') (hf : ∀ c, c < w.heap.size → w'.heap[c]? = w.heap[c]?) (hz : w.heap.size ≤ w'.heap.size) : GrownW w w' := by
  refine ⟨⟨hs.os, hs.out, fun i hi => ?_⟩, fun a ha => by unfold World.frozen?; rw [hf _ ha], hz⟩
  rw [hf i hi]
  have : ∃ o, w.heap[i]? = some o := ⟨w.heap[i], Array.getElem?_eq_getElem hi⟩
  obtain ⟨o, ho⟩ := this
  rw [ho]
  cases o <;> simp

theorem HRel.grown {ρ : Ren} {H : AHeap} {w w' : World} (h : HRel P (Vm.bare w) ρ H w') : GrownW w w' := .of h.side (fun c hc => h.frame c hc fun x => x) h.size

/-- **A RUN OF THE EVALUATOR IS A CALL**: with arguments that hold no addresses, from any world. -/
theorem calls_of_run (hm : P.follows .mixedOrders = true) {n f : Nat} {args : List AVal} {cargs : Array Value} {v : Value} {H' : AHeap} (h : callN (envP P) n (.func (.func f) []) args .empty = some (.raw v, H'))
    (hargs : VRels (fun _ _ => none) args cargs.toList) (w : World) (hgl : GlHeld w) : Calls P f cargs w fun e w' => e = .returned v ∧ GrownW w w' := by
  have hgo := callN_go (envP_ok (P := P)) n _ _ _ _ _ h
  have hc := (callN_ok envP_ok hm n _ _ _ _ _ h).calls hgo
  have := hc (bare w) _ w cargs.toList (HRel.bare P w hgl) (by simpa using hargs)
  rw [callsIn_wide] at this
  refine this.mono fun e w' ⟨v', cv, H1, ρ', e1, ⟨e2, e3⟩, e4, e5, _⟩ => ?_
  subst e2
  cases e4
  exact ⟨e1, e5.grown⟩

theorem saysTrue_run {n f : Nat} (h : saysTrue P n f = true) : ∃ H', callN (envP P) n (.func (.func f) []) [] .empty = some (abool true, H') := by
  unfold saysTrue at h
  split at h
  · rename_i H' he; exact ⟨H', he⟩
  · cases h

end Go.Vm
