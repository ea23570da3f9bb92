/- RingLap, walked: the loops. -/
import Derived.Test.YtmdppcokjdpnoaaRingF
namespace Go.Proofs.Ytmdppcokjdpnoaa
open Go Go.Vm
set_option linter.unusedVariables false
set_option linter.unusedSimpArgs false

attribute [local simp] endF aCode aSteps aStep awanted aOp ev List.replicate aRess aRes1 aLeave tup aBin aUn aArith ASt.put ile_eq ilt_eq ieq_eq aPart List.getElem?_cons_zero

def body5b : ACode := fstC (fstC (sndC (fstC (sndC (sndC (sndC (sndC (sndC a5.code))))))))

structure In5b (T : Int) (n : Nat) (j : Int) (tm : List AVal) : Prop where
  len : tm.length = 123
  t0 : tm[0]? = some (u T)
  t5 : tm[5]? = some (i n)
  t13 : tm[13]? = some (i j)

set_option maxHeartbeats 4000000 in
theorem it5b (or : Oracle) (f : Nat) (T : Int) (n : Nat) (j : Nat) (hT : 0 ≤ T) (hT' : T ≤ 4611686018427387904) (hn : 2 ≤ n) (hn' : n ≤ 64) (hj : j < n) (tm : List AVal) (h : In5b T n j tm) (H H' : AHeap)
    (q : Int) (hq : T ≤ q) (hq' : q - T < n) (t16 : or (.func (.func 16) []) [i j, u T, i n] H = some (.tuple [u q, i 0], H')) (t9 : ∀ H, or (.func (.func 9) []) [u q, i n] H = some (.tuple [i j, i 0], H))
    (t11 : ∀ x H, or (.func (.func 11) []) [i x] H = some (i x, H)) :
    ∃ tm', aCode or true f body5b ⟨tm, H, []⟩ = some (.normal, ⟨tm', H', []⟩) ∧ In5b T n (j + 1 : Nat) tm' := by
  obtain ⟨l, t0, t5, t13⟩ := h
  have w1 : wrapF .u64 (n : Int) = n := wU (by omega) (by omega)
  have w2 : wrapF .u64 (q - T) = q - T := wU (by omega) (by omega)
  have w3 : wrapF .i64 ((j : Int) + 1) = j + 1 := wI (by omega) (by omega)
  have k1 : ¬ q < T := by omega
  have k2 : ¬ ((n : Int) ≤ q - T) := by omega
  refine ⟨?w, ?a1, ?a2, ?a3, ?a4, ?a5⟩
  case a1 =>
    simp only [body5b, a5, fstC, sndC]
    apply seqN
    · simp [-getElem?_pos, List.getElem?_set, l, t0, t5, t13, hj, t16, t9, t11, w1, w2, w3, k1, k2]; rfl
    apply seqN
    · apply blkN
      apply seqN
      · simp [-getElem?_pos, List.getElem?_set, l, t0, t5, t13, hj, t16, t9, t11, w1, w2, w3, k1, k2]; rfl
      apply seqN
      · simp [-getElem?_pos, List.getElem?_set, l, t0, t5, t13, hj, t16, t9, t11, w1, w2, w3, k1, k2]; rfl
      apply seqN
      · apply regN
        iterate 26 (apply stepN; · simp [-getElem?_pos, List.getElem?_set, l, t0, t5, t13, hj, t16, t9, t11, w1, w2, w3, k1, k2]; rfl)
        exact nilN (or := or)
      · simp [-getElem?_pos, List.getElem?_set, l, t0, t5, t13, hj, t16, t9, t11, w1, w2, w3, k1, k2]; rfl
    · simp [-getElem?_pos, List.getElem?_set, l, t0, t5, t13, hj, t16, t9, t11, w1, w2, w3, k1, k2]; rfl
  all_goals simp [-getElem?_pos, List.getElem?_set, l, t0, t5]

/-! ### The first loop -/

def body5a : ACode := fstC (fstC (sndC (fstC (sndC (sndC (sndC (sndC a5.code)))))))

structure In5a (T : Int) (n A : Nat) (j : Int) (tm : List AVal) : Prop where
  len : tm.length = 123
  t0 : tm[0]? = some (u T)
  t5 : tm[5]? = some (i n)
  t6 : tm[6]? = some (.slice A 0 0 n n true 1)
  t7 : tm[7]? = some (i j)

theorem write_at {H : AHeap} {A s : Nat} {cells : List AVal} (h : H.get A = some (.row [some (0, cells)])) (hs : s < cells.length) {v : AVal} (hv : v.one = true) :
    H.write A 0 s [v] = some (H.set A (.row [some (0, cells.set s v)])) := by
  unfold AHeap.write; rw [h]
  have : spl cells s [v] = cells.set s v := by
    unfold spl
    rw [List.set_eq_take_append_cons_drop, if_pos hs]
    rfl
  simp [hv, killAt, this]
  omega

set_option maxHeartbeats 4000000 in
theorem it5a (or : Oracle) (f : Nat) (T : Int) (n A : Nat) (j s : Nat) (hT : 0 ≤ T) (hT' : T ≤ 4611686018427387904) (hn' : n ≤ 64) (hj : j < n) (hs : s < n) (tm : List AVal) (h : In5a T n A j tm) (H H1 H' : AHeap) (cells : List AVal)
    (e : H.rowAt A 0 = some cells) (hl : cells.length = n) (hc : cells[s]? = some (abool false)) (hw : H.write A 0 s [abool true] = some H1)
    (t9 : ∀ H, or (.func (.func 9) []) [u (T + j), i n] H = some (.tuple [i s, i 0], H)) (t16 : or (.func (.func 16) []) [i s, u T, i n] H1 = some (.tuple [u (T + j), i 0], H'))
    (t11 : ∀ x H, or (.func (.func 11) []) [i x] H = some (i x, H)) :
    ∃ tm', aCode or true f body5a ⟨tm, H, []⟩ = some (.normal, ⟨tm', H', []⟩) ∧ In5a T n A (j + 1 : Nat) tm' := by
  obtain ⟨l, t0, t5, t6, t7⟩ := h
  have w1 : wrapF .u64 (j : Int) = j := wU (by omega) (by omega)
  have w2 : wrapF .u64 (T + j) = T + j := wU (by omega) (by omega)
  have w3 : wrapF .i64 ((j : Int) + 1) = j + 1 := wI (by omega) (by omega)
  have k1 : ¬ ((s : Int) < 0) := by omega
  have k2 : ¬ (n ≤ s) := by omega
  have k3 : s < cells.length := by omega
  have k4 : s + 1 ≤ n := by omega
  refine ⟨?w, ?a1, ?a2, ?a3, ?a4, ?a5, ?a6⟩
  case a1 =>
    simp only [body5a, a5, fstC, sndC]
    apply seqN
    · simp [-getElem?_pos, List.getElem?_set, l, t0, t5, t6, t7, hj, hs, t16, t9, t11, w1, w2, w3, k1, k2, k3, k4, e, hl, hc, hw, AVal.cells]; rfl
    apply seqN
    · apply blkN
      apply seqN
      · simp [-getElem?_pos, List.getElem?_set, l, t0, t5, t6, t7, hj, hs, t16, t9, t11, w1, w2, w3, k1, k2, k3, k4, e, hl, hc, hw, AVal.cells]; rfl
      apply seqN
      · simp [-getElem?_pos, List.getElem?_set, l, t0, t5, t6, t7, hj, hs, t16, t9, t11, w1, w2, w3, k1, k2, k3, k4, e, hl, hc, hw, AVal.cells]; rfl
      apply seqN
      · apply seqN
        · apply regN
          iterate 18 (apply stepN; · simp [-getElem?_pos, List.getElem?_set, l, t0, t5, t6, t7, hj, hs, t16, t9, t11, w1, w2, w3, k1, k2, k3, k4, e, hl, hc, hw, AVal.cells]; rfl)
          exact nilN (or := or)
        · simp [-getElem?_pos, List.getElem?_set, l, t0, t5, t6, t7, hj, hs, t16, t9, t11, w1, w2, w3, k1, k2, k3, k4, e, hl, hc, hw, AVal.cells]; rfl
      apply seqN
      · simp [-getElem?_pos, List.getElem?_set, l, t0, t5, t6, t7, hj, hs, t16, t9, t11, w1, w2, w3, k1, k2, k3, k4, e, hl, hc, hw, AVal.cells]; rfl
      apply seqN
      · simp [-getElem?_pos, List.getElem?_set, l, t0, t5, t6, t7, hj, hs, t16, t9, t11, w1, w2, w3, k1, k2, k3, k4, e, hl, hc, hw, AVal.cells]; rfl
      apply seqN
      · simp [-getElem?_pos, List.getElem?_set, l, t0, t5, t6, t7, hj, hs, t16, t9, t11, w1, w2, w3, k1, k2, k3, k4, e, hl, hc, hw, AVal.cells]; rfl
      · simp [-getElem?_pos, List.getElem?_set, l, t0, t5, t6, t7, hj, hs, t16, t9, t11, w1, w2, w3, k1, k2, k3, k4, e, hl, hc, hw, AVal.cells]; rfl
    · simp [-getElem?_pos, List.getElem?_set, l, t0, t5, t6, t7, hj, hs, t16, t9, t11, w1, w2, w3, k1, k2, k3, k4, e, hl, hc, hw, AVal.cells]; rfl
  all_goals simp [-getElem?_pos, List.getElem?_set, l, t0, t5, t6]

end Go.Proofs.Ytmdppcokjdpnoaa
