/- The abstract machine, part 22: slices that grow by one. -/
import Derived.Test.YthbjfkkjmecaaaaVmTop
namespace Go.Vm
open Go

set_option linter.unusedVariables false
set_option linter.unusedSimpArgs false

/-- A value reads as a slice of one-cell values that is grown by appends alone; its blocks lie at 'base' or behind. -/
def SliceIs (H : AHeap) (base : Nat) (v : AVal) (l : List AVal) : Prop :=
  (v = anil ∧ l = []) ∨ ∃ R ver vs, base ≤ R ∧ R < H.next ∧ v = .slice R ver 0 l.length l.length false 1 ∧ H.get R = some (.row vs) ∧ vs[ver]? = some (some (0, l))

theorem SliceIs.rowAt {H : AHeap} {R ver : Nat} {vs : Vers} {l : List AVal} (h : H.get R = some (.row vs)) (hv : vs[ver]? = some (some (0, l))) : H.rowAt R ver = some l := by
  unfold AHeap.rowAt; rw [h]; simp only [hv]

theorem append1 {H : AHeap} {base X : Nat} {v x : AVal} {l : List AVal} (h : SliceIs H base v l) (hb : base ≤ H.next) (hX : H.rowAt X 0 = some [x]) (hone : x.one = true) (hlen : l.length < 1000000) :
    ∃ v' H', aAppend H 1 8 v (.slice X 0 0 1 1 true 1) = some (v', H') ∧ SliceIs H' base v' (l ++ [x]) ∧ H.next ≤ H'.next ∧ ∀ A, A < base → H'.get A = H.get A := by
  rcases h with ⟨rfl, rfl⟩ | ⟨R, ver, vs, h1, h2, rfl, h4, h5⟩
  · refine ⟨.slice H.next 0 0 1 1 false 1, H.push (.row [some (0, [x])]), ?_, .inr ⟨H.next, 0, [some (0, [x])], hb, by simp, rfl, AHeap.get_push_same _ _, rfl⟩, by simp, fun A hA => AHeap.get_push_ne _ _ (by omega)⟩
    simp [aAppend, aLen, aCells, hX, hone]
  · have hr := SliceIs.rowAt h4 h5
    refine ⟨.slice R vs.length 0 (l.length + 1) (l.length + 1) false 1, H.set R (.row (newVer vs (0 + 0 + l.length * 1) 1 (0 + 0) (l ++ [x]))), ?_, .inr ⟨R, vs.length, _, h1, h2, by simp, AHeap.get_set_same _ _ _, ?_⟩, Nat.le_refl _, fun A hA => AHeap.get_set_ne _ _ (by omega)⟩
    · have e : (l.length + 1) * 8 ≤ 140737488355328 := by omega
      simp [aAppend, aLen, aCells, hX, hone, hr, h4, h5, e]
    · unfold newVer
      rw [List.getElem?_append_right (by rw [killAt_length]; exact Nat.le_refl _), killAt_length]
      simp

theorem SliceIs.move {H H' : AHeap} {base : Nat} {v : AVal} {l : List AVal} (h : SliceIs H base v l) (hn : H.next ≤ H'.next) (hg : ∀ A, base ≤ A → A < H.next → H'.get A = H.get A) : SliceIs H' base v l := by
  rcases h with h | ⟨R, ver, vs, h1, h2, h3, h4, h5⟩
  · exact .inl h
  · exact .inr ⟨R, ver, vs, h1, by omega, h3, by rw [hg R h1 h2]; exact h4, h5⟩

theorem SliceIs.one {H : AHeap} {base : Nat} {v : AVal} {l : List AVal} (h : SliceIs H base v l) : v.one = true := by
  rcases h with ⟨rfl, _⟩ | ⟨R, ver, vs, _, _, rfl, _⟩ <;> rfl

theorem SliceIs.lenS {H : AHeap} {base : Nat} {v : AVal} {l : List AVal} (h : SliceIs H base v l) : aLenS v = some (aint l.length) := by
  rcases h with ⟨rfl, rfl⟩ | ⟨R, ver, vs, _, _, rfl, _⟩ <;> rfl

theorem SliceIs.cells1 {H : AHeap} {base : Nat} {v : AVal} {l : List AVal} (h : SliceIs H base v l) : v.cells = [v] := by
  rcases h with ⟨rfl, _⟩ | ⟨R, ver, vs, _, _, rfl, _⟩ <;> rfl

end Go.Vm
