/- Walks of the ring laws: taken, a round. -/
import Derived.Test.YtmdppcokjdpnoaaRingE
import Derived.Test.YtmdppcokjdpnoaaVmLemmas
namespace Go.Proofs.Ytmdppcokjdpnoaa
open Go Go.Vm

attribute [local simp] endF aCode aSteps aStep awanted aOp ev List.replicate aRess aRes1 aLeave tup aBin aUn aArith ASt.put ile_eq ilt_eq ieq_eq aPart List.getElem?_cons_zero

def rf20 : ACode := fstC (sndC (fstC (sndC (sndC (sndC (sndC (sndC a20.code)))))))

structure Tm20 (N : Nat) (tm : List AVal) : Prop where
  len : tm.length = 25
  t3 : tm[3]? = some (p N)
  t6 : tm[6]? = some (p (N + 1))

def loop20 (tm : List AVal) (D : Nat) : ALoop := newLoop tm [15] (rfA rf20) (rfB rf20) D

set_option maxHeartbeats 2000000 in
theorem y20 (n N L D base : Nat) (h1 : N + 1 < L) (h2 : L < base) (tm : List AVal) (ht : Tm20 N tm) (m q : Int) (v : AVal) (l : List AVal) (H : AHeap) (hb : base ≤ H.next) (hl : l.length < 70)
    (r3 : Row1 H N (i m)) (r6 : Row1 H (N + 1) v) (rv : SliceIs H base v l) (rL : H.get L = some (.loop (loop20 tm D))) :
    ∃ v' H', SliceIs H' base v' (l ++ [u q]) ∧ H.next ≤ H'.next ∧ Row1 H' (N + 1) v' ∧ (∀ A, A < base → A ≠ N + 1 → A ≠ L → H'.get A = H.get A) ∧
      if (l.length : Int) + 1 = m then callN env (n + 1) (.yield L) [u q] H = some (abool false, H') ∧ H'.get L = some (.loop { loop20 tm D with state := .done, pending := some (.exit 0) })
      else callN env (n + 1) (.yield L) [u q] H = some (abool true, H') ∧ H'.get L = some (.loop (loop20 tm D)) := by
  obtain ⟨len, t3, t6⟩ := ht
  have hcall : callN env (n + 1) (.yield L) [u q] H = callY n (callN env n) L [u q] H := rfl
  rw [hcall]
  generalize callN env n = or
  have ha : aCode or false n (loop20 tm D).assign { tm := setParams (loop20 tm D).tmps (loop20 tm D).params [u q], H := H, marks := [] } = some (.normal, { tm := (tm.set 15 (u q)).set 7 (u q), H := H, marks := [] }) := by
    simp [-getElem?_pos, loop20, newLoop, setParams, rfA, rf20, fstC, sndC, a20, List.getElem?_set, len]
  -- the heap in the round
  have b3 : Row1 (H.set L (.loop { loop20 tm D with state := .busy })) N (i m) := by unfold Row1; rw [AHeap.get_set_ne _ _ (by omega)]; exact r3
  have b6 : Row1 (H.set L (.loop { loop20 tm D with state := .busy })) (N + 1) v := by unfold Row1; rw [AHeap.get_set_ne _ _ (by omega)]; exact r6
  have bL : (H.set L (.loop { loop20 tm D with state := .busy })).get L = some (.loop { loop20 tm D with state := .busy }) := AHeap.get_set_same _ _ _
  have bA : ∀ A, A ≠ L → (H.set L (.loop { loop20 tm D with state := .busy })).get A = H.get A := fun A hA => AHeap.get_set_ne _ _ hA
  have bN : (H.set L (.loop { loop20 tm D with state := .busy })).next = H.next := rfl
  have bv : SliceIs (H.set L (.loop { loop20 tm D with state := .busy })) base v l := rv.move (Nat.le_refl _) fun A hA _ => bA A (by omega)
  generalize hB : H.set L (.loop { loop20 tm D with state := .busy }) = B at b3 b6 bL bA bN bv
  have cX : (B.push (.row [some (0, [u q])])).rowAt B.next 0 = some [u q] := by unfold AHeap.rowAt; rw [AHeap.get_push_same]; rfl
  have cv : SliceIs (B.push (.row [some (0, [u q])])) base v l := bv.move (by simp) fun A _ hA => AHeap.get_push_ne _ _ (by omega)
  obtain ⟨v', H2, e1, e2, e3, e4⟩ := append1 cv (by simp; omega) cX rfl (by omega)
  have d6 : Row1 H2 (N + 1) v := by unfold Row1; rw [e4 _ (by omega), AHeap.get_push_ne _ _ (by omega)]; exact b6
  have w6 := d6.write e2.one
  have f6 : Row1 (H2.set (N + 1) (.row [some (0, [v'])])) (N + 1) v' := AHeap.get_set_same _ _ _
  have f3 : Row1 (H2.set (N + 1) (.row [some (0, [v'])])) N (i m) := by unfold Row1; rw [AHeap.get_set_ne _ _ (by omega), e4 _ (by omega), AHeap.get_push_ne _ _ (by omega)]; exact b3
  have fL : (H2.set (N + 1) (.row [some (0, [v'])])).get L = some (.loop { loop20 tm D with state := .busy }) := by rw [AHeap.get_set_ne _ _ (by omega), e4 _ h2, AHeap.get_push_ne _ _ (by omega)]; exact bL
  have fA : ∀ A, A < base → A ≠ N + 1 → A ≠ L → (H2.set (N + 1) (.row [some (0, [v'])])).get A = H.get A := fun A a1 a2 a3 => by
    rw [AHeap.get_set_ne _ _ a2, e4 _ a1, AHeap.get_push_ne _ _ (by omega), bA A a3]
  have fv : SliceIs (H2.set (N + 1) (.row [some (0, [v'])])) base v' (l ++ [u q]) := e2.move (Nat.le_refl _) fun A hA _ => AHeap.get_set_ne _ _ (by omega)
  have hlen : aLenS v' = some (aint ((l.length : Int) + 1)) := by rw [e2.lenS]; simp
  have hc := e2.cells1
  have hu : AVal.cells (u q) = [u q] := rfl
  have hn2 : H.next ≤ H2.next := by have := e3; simp at this; omega
  have b6' := b6.at
  have f6' := f6.at
  have f3' := f3.at
  generalize H2.set (N + 1) (.row [some (0, [v'])]) = G at w6 f6 f3 fL fA fv f6' f3'
  have hG : H2.next = G.next := by
    have := AHeap.write_some w6
    obtain ⟨_, _, _, _, _, _, _, _, rfl⟩ := this
    rfl
  by_cases hm : (l.length : Int) + 1 = m
  · have hbody : ∃ tm', aCode or false n (loop20 tm D).body { tm := (tm.set 15 (u q)).set 7 (u q), H := B, marks := [] } = some (.exit 0, { tm := tm', H := G, marks := [] }) := by
      refine ⟨?w, ?a1⟩
      case a1 =>
        simp [-getElem?_pos, loop20, newLoop, rfB, rf20, fstC, sndC, a20, List.getElem?_set, len, t3, t6, b6', repl, aFill, spl, hc, hu, e1, w6, f6', f3', hlen, hm]
        rfl
    obtain ⟨tm', hb'⟩ := hbody
    refine ⟨v', G.set L (.loop { loop20 tm D with state := .done, pending := some (.exit 0) }), fv.move (Nat.le_refl _) fun A hA _ => AHeap.get_set_ne _ _ (by omega), by simp; omega, by unfold Row1; rw [AHeap.get_set_ne _ _ (by omega)]; exact f6, fun A a1 a2 a3 => by rw [AHeap.get_set_ne _ _ a3]; exact fA A a1 a2 a3, ?_⟩
    rw [if_pos hm]
    exact ⟨yieldE rL rfl rfl ha rL rfl (by rw [hB]; exact hb') fL, AHeap.get_set_same _ _ _⟩
  · have hbody : ∃ tm', aCode or false n (loop20 tm D).body { tm := (tm.set 15 (u q)).set 7 (u q), H := B, marks := [] } = some (.normal, { tm := tm', H := G, marks := [] }) := by
      refine ⟨?v, ?a2⟩
      case a2 =>
        simp [-getElem?_pos, loop20, newLoop, rfB, rf20, fstC, sndC, a20, List.getElem?_set, len, t3, t6, b6', repl, aFill, spl, hc, hu, e1, w6, f6', f3', hlen, hm]
        rfl
    obtain ⟨tm', hb'⟩ := hbody
    refine ⟨v', G.set L (.loop (loop20 tm D)), fv.move (Nat.le_refl _) fun A hA _ => AHeap.get_set_ne _ _ (by omega), by simp; omega, by unfold Row1; rw [AHeap.get_set_ne _ _ (by omega)]; exact f6, fun A a1 a2 a3 => by rw [AHeap.get_set_ne _ _ a3]; exact fA A a1 a2 a3, ?_⟩
    rw [if_neg hm]
    exact ⟨yieldT rL rfl rfl ha rL rfl (by rw [hB]; exact hb') fL, AHeap.get_set_same _ _ _⟩

end Go.Proofs.Ytmdppcokjdpnoaa
