/- The abstract machine, part 18a: heaps of the same look, blocks that nobody names, a part of a heap under a call. -/
import Derived.Test.YtaeleakdmphnfaaGreatDoorVmRange
namespace Go.Vm
open Go

set_option linter.unusedVariables false
set_option linter.unusedSimpArgs false

variable {P : Program} {B : Base} {ρ ρ' : Ren} {H H' : AHeap} {w w' : World}

theorem isRo_same {H2 : AHeap} (hg : ∀ A, H2.get A = H.get A) (A : Nat) : isRo H2 A ↔ isRo H A := by unfold isRo; rw [hg]

/-- A heap of the same look. -/
theorem HRel.same (h : HRel P B ρ H w) {H2 : AHeap} (hg : ∀ A, H2.get A = H.get A) (hn : ∀ A, H2.next ≤ A → H.get A = none) : HRel P B ρ H2 w where
  le := h.le
  fresh := fun A v hA => by
    cases hx : ρ A v with
    | none => rfl
    | some l => obtain ⟨o, ho⟩ := h.dom A v l hx; rw [hn A hA] at ho; cases ho
  wf := fun A hA => by rw [hg]; exact hn A hA
  dom := fun A v l hl => by rw [hg]; exact h.dom A v l hl
  obj := fun A o ho => by rw [hg] at ho; exact h.obj A o ho
  sep := fun A1 A2 v1 v2 l1 l2 e1 e2 e3 => by rw [isRo_same hg, isRo_same hg]; exact h.sep A1 A2 v1 v2 l1 l2 e1 e2 e3
  own := fun A v l hl hr => by rw [isRo_same hg] at hr; exact h.own A v l hl hr
  lt := h.lt
  size := h.size
  frame := h.frame
  side := h.side
  ro := fun A v l hr hl => by rw [isRo_same hg] at hr; exact h.ro A v l hr hl
  gl := h.gl

theorem alloc_old (w : World) (co : Obj) {c : Nat} (hc : c < w.heap.size) : (w.alloc co).heap[c]? = w.heap[c]? := by
  simp only [World.alloc, Array.getElem?_push]; rw [if_neg (by omega)]

/-- A block that nobody names. -/
theorem HRel.junk (h : HRel P B ρ H w) {co : Obj} (hco : Thaw co) : HRel P B ρ H (w.alloc co) where
  le := h.le
  fresh := h.fresh
  wf := h.wf
  dom := h.dom
  obj := fun A o ho => (h.obj A o ho).keep (Ren.le_refl _) (fun _ => rfl) fun v l hl => alloc_old w co (h.lt A v l hl)
  sep := h.sep
  own := h.own
  lt := fun A v l hl => by have := h.lt A v l hl; simp; omega
  size := by have := h.size; simp; omega
  frame := fun c hc hb => by rw [alloc_old w co (Nat.lt_of_lt_of_le hc h.size)]; exact h.frame c hc hb
  side := h.side.trans (Side.alloc w hco)
  ro := h.ro
  gl := h.gl

/-- A new block of the world becomes an object of a free name. -/
theorem HRel.place (h : HRel P B ρ H w) {A : Nat} (hA : H.get A = none) {o : AObj} {co : Obj} {n : Nat} (ho : ∀ l, o ≠ .ro l)
    (hrel : ObjRel P (ρ.put A 0 ⟨w.heap.size, 0, n⟩) (w.alloc co) A o) (hco : Thaw co) {H2 : AHeap} (hg : ∀ X, H2.get X = if X = A then some o else H.get X) (hn : ∀ X, H2.next ≤ X → H2.get X = none) :
    HRel P B (ρ.put A 0 ⟨w.heap.size, 0, n⟩) H2 (w.alloc co) := by
  have hno : ∀ v, ρ A v = none := fun v => by
    cases hx : ρ A v with
    | none => rfl
    | some l => obtain ⟨o, ho⟩ := h.dom A v l hx; rw [hA] at ho; cases ho
  have hle := Ren.put_le (l := ⟨w.heap.size, 0, n⟩) (hno 0)
  have key : ∀ X v l, ρ.put A 0 ⟨w.heap.size, 0, n⟩ X v = some l → (X = A ∧ v = 0 ∧ l.c = w.heap.size) ∨ (X ≠ A ∧ ρ X v = some l) := fun X v l hl => by
    by_cases e : X = A ∧ v = 0
    · obtain ⟨rfl, rfl⟩ := e; rw [Ren.put_same] at hl; cases hl; exact .inl ⟨rfl, rfl, rfl⟩
    · rw [Ren.put_ne _ _ e] at hl
      refine .inr ⟨fun e' => ?_, hl⟩
      subst e'; rw [hno v] at hl; cases hl
  have gA : H2.get A = some o := by rw [hg, if_pos rfl]
  have gX : ∀ X, X ≠ A → H2.get X = H.get X := fun X e => by rw [hg, if_neg e]
  have hro : ∀ X, isRo H2 X ↔ isRo H X := fun X => by
    unfold isRo
    by_cases e : X = A
    · subst e; rw [gA, hA]; simp [ho]
    · rw [gX X e]
  refine ⟨Ren.le_trans h.le hle, fun X v hX => ?_, hn, fun X v l hl => ?_, fun X o' hX => ?_, fun A1 A2 v1 v2 l1 l2 e1 e2 e3 => ?_, fun X v l hl hr => ?_, fun X v l hl => ?_, ?_, fun c hc hb => ?_, h.side.trans (Side.alloc w hco), fun X v l hr hl => ?_, h.gl⟩
  · cases hx : ρ.put A 0 ⟨w.heap.size, 0, n⟩ X v with
    | none => rfl
    | some l =>
      have := hn X hX
      rcases key X v l hx with ⟨rfl, _, _⟩ | ⟨e, h1⟩
      · rw [gA] at this; cases this
      · rw [gX X e] at this
        obtain ⟨o', ho'⟩ := h.dom X v l h1; rw [this] at ho'; cases ho'
  · rcases key X v l hl with ⟨rfl, _, _⟩ | ⟨e, h1⟩
    · exact ⟨o, gA⟩
    · rw [gX X e]; exact h.dom X v l h1
  · by_cases e : X = A
    · subst e; rw [gA] at hX; cases hX; exact hrel
    · rw [gX X e] at hX
      exact (h.obj X o' hX).keep hle (fun v => by rw [Ren.put_ne _ _ (by omega)]) (fun v l hl => alloc_old w co (h.lt X v l hl))
  · rw [hro, hro]
    rcases key _ _ _ e1 with ⟨a1, _, a3⟩ | ⟨a1, a2⟩ <;> rcases key _ _ _ e2 with ⟨b1, _, b3⟩ | ⟨b1, b2⟩
    · left; rw [a1, b1]
    · have := h.lt _ _ _ b2; omega
    · have := h.lt _ _ _ a2; omega
    · exact h.sep A1 A2 v1 v2 l1 l2 a2 b2 e3
  · rw [hro] at hr
    rcases key _ _ _ hl with ⟨_, _, a3⟩ | ⟨a1, a2⟩
    · right; rw [a3]; exact h.size
    · exact h.own X v l a2 hr
  · rcases key _ _ _ hl with ⟨_, _, a3⟩ | ⟨a1, a2⟩
    · rw [a3]; simp
    · have := h.lt _ _ _ a2; simp; omega
  · have := h.size; simp; omega
  · rw [alloc_old w co (Nat.lt_of_lt_of_le hc h.size)]; exact h.frame c hc hb
  · rw [hro] at hr
    rcases key _ _ _ hl with ⟨rfl, _, _⟩ | ⟨a1, a2⟩
    · obtain ⟨x, hx⟩ := hr; rw [hA] at hx; cases hx
    · exact h.ro X v l hr a2

/-- What a call does to a part of a heap, it does to the whole. -/
theorem HRel.graft {ρ0 ρ1 : Ren} {H0 H1 : AHeap} (h0 : HRel P B ρ0 H0 w) (h1 : HRel P B ρ1 H1 w) (N : Nat → Bool) (hN0 : ∀ A v, N A = true → ρ0 A v = none)
    (hout : ∀ A v, N A = false → ρ1 A v = ρ0 A v) (hg : ∀ A, N A = false → H1.get A = H0.get A) (hNr : ∀ A, N A = true → ¬ isRo H1 A) (hc : HRel P (Vm.here ρ0 H0 w) ρ' H' w') (hN' : ∀ A, N A = true → H'.get A = none)
    {H2 : AHeap} (hg2 : ∀ A, H2.get A = if N A = true then H1.get A else H'.get A) (hn2 : ∀ A, H2.next ≤ A → H2.get A = none) :
    HRel P B (fun A v => if N A = true then ρ1 A v else ρ' A v) H2 w' := by
  have ht := h0.trans hc
  have gN : ∀ A, N A = true → H2.get A = H1.get A := fun A h => by rw [hg2, if_pos h]
  have gO : ∀ A, N A = false → H2.get A = H'.get A := fun A h => by rw [hg2, if_neg (by simp [h])]
  have rN : ∀ A, N A = true → (isRo H2 A ↔ isRo H1 A) := fun A h => by unfold isRo; rw [gN A h]
  have rO : ∀ A, N A = false → (isRo H2 A ↔ isRo H' A) := fun A h => by unfold isRo; rw [gO A h]
  have fN : ∀ A v, N A = true → (if N A = true then ρ1 A v else ρ' A v) = ρ1 A v := fun A v h => if_pos h
  have fO : ∀ A v, N A = false → (if N A = true then ρ1 A v else ρ' A v) = ρ' A v := fun A v h => if_neg (by simp [h])
  have hle1 : ρ1.le (fun A v => if N A = true then ρ1 A v else ρ' A v) := fun A v x hx => by
    cases hA : N A with
    | true => simpa [hA] using hx
    | false => rw [hout A v hA] at hx; simpa [hA] using hc.le A v x hx
  have hle2 : ρ'.le (fun A v => if N A = true then ρ1 A v else ρ' A v) := fun A v x hx => by
    cases hA : N A with
    | true => obtain ⟨o, ho⟩ := hc.dom A v x hx; rw [hN' A hA] at ho; cases ho
    | false => simpa [hA] using hx
  have alien : ∀ A v l, N A = true → ρ1 A v = some l → ¬ ownOf ρ0 H0 l.c := fun A v l hA hl ⟨A2, v2, l2, g1, g2, g3⟩ => by
    cases hA2 : N A2 with
    | true => rw [hN0 A2 v2 hA2] at g1; cases g1
    | false =>
      rw [← hout A2 v2 hA2] at g1
      rcases h1.sep A2 A v2 v l2 l g1 hl g3 with e | e
      · rw [e, hA] at hA2; cases hA2
      · exact hNr A hA e.2
  have cross : ∀ A1 A2 v1 v2 l1 l2, N A1 = true → N A2 = false → ρ1 A1 v1 = some l1 → ρ' A2 v2 = some l2 → l1.c ≠ l2.c := fun A1 A2 v1 v2 l1 l2 n1 n2 e1 e2 e3 => by
    by_cases hr : isRo H' A2
    · obtain ⟨_, g2⟩ := hc.ro A2 v2 l2 hr e2
      rw [← hout A2 v2 n2] at g2
      rcases h1.sep A1 A2 v1 v2 l1 l2 e1 g2 e3 with e | e
      · rw [e, n2] at n1; cases n1
      · exact hNr A1 n1 e.1
    · rcases hc.own A2 v2 l2 e2 hr with g | g
      · exact alien A1 v1 l1 n1 e1 (e3 ▸ g)
      · have := h1.lt A1 v1 l1 e1
        have g' : w.heap.size ≤ l2.c := g
        omega
  refine ⟨Ren.le_trans h1.le hle1, fun A v hA => ?_, hn2, fun A v l hl => ?_, fun A o ho => ?_, fun A1 A2 v1 v2 l1 l2 e1 e2 e3 => ?_, fun A v l hl hr => ?_, fun A v l hl => ?_, ht.size, ht.frame, ht.side, fun A v l hr hl => ?_, ht.gl⟩
  · have := hn2 A hA
    cases hN : N A with
    | true =>
      simp only [if_true]
      cases hx : ρ1 A v with
      | none => rfl
      | some l => obtain ⟨o, ho⟩ := h1.dom A v l hx; rw [gN A hN, ho] at this; cases this
    | false =>
      simp only [Bool.false_eq_true, if_false]
      cases hx : ρ' A v with
      | none => rfl
      | some l => obtain ⟨o, ho⟩ := hc.dom A v l hx; rw [gO A hN, ho] at this; cases this
  · cases hN : N A with
    | true => rw [gN A hN]; exact h1.dom A v l (by simpa [hN] using hl)
    | false => rw [gO A hN]; exact hc.dom A v l (by simpa [hN] using hl)
  · cases hN : N A with
    | true =>
      rw [gN A hN] at ho
      exact (h1.obj A o ho).keep hle1 (fun v => fN A v hN) fun v l hl => hc.frame l.c (h1.lt A v l hl) (alien A v l hN hl)
    | false =>
      rw [gO A hN] at ho
      exact (hc.obj A o ho).keep hle2 (fun v => fO A v hN) fun _ _ _ => rfl
  · cases n1 : N A1 with
    | true =>
      rw [fN _ _ n1] at e1
      cases n2 : N A2 with
      | true =>
        rw [fN _ _ n2] at e2
        rcases h1.sep A1 A2 v1 v2 l1 l2 e1 e2 e3 with e | e
        · exact .inl e
        · exact (hNr A1 n1 e.1).elim
      | false => rw [fO _ _ n2] at e2; exact absurd e3 (cross A1 A2 v1 v2 l1 l2 n1 n2 e1 e2)
    | false =>
      rw [fO _ _ n1] at e1
      cases n2 : N A2 with
      | true => rw [fN _ _ n2] at e2; exact absurd e3.symm (cross A2 A1 v2 v1 l2 l1 n2 n1 e2 e1)
      | false =>
        rw [fO _ _ n2] at e2
        rw [rO A1 n1, rO A2 n2]
        exact hc.sep A1 A2 v1 v2 l1 l2 e1 e2 e3
  · cases hN : N A with
    | true => rw [fN _ _ hN] at hl; exact h1.own A v l hl (hNr A hN)
    | false => rw [fO _ _ hN] at hl; exact ht.own A v l hl (fun h => hr ((rO A hN).2 h))
  · cases hN : N A with
    | true => rw [fN _ _ hN] at hl; exact Nat.lt_of_lt_of_le (h1.lt A v l hl) hc.size
    | false => rw [fO _ _ hN] at hl; exact hc.lt A v l hl
  · cases hN : N A with
    | true => exact (hNr A hN ((rN A hN).1 hr)).elim
    | false => rw [fO _ _ hN] at hl; exact ht.ro A v l ((rO A hN).1 hr) hl

end Go.Vm
