/- Walks of the ring laws: RingCounts. -/
import Derived.Test.YtmdppcokjdpnoaaRingK
namespace Go.Proofs.Ytmdppcokjdpnoaa
open Go Go.Vm

attribute [local simp] endF aCode aSteps aStep awanted aOp ev List.replicate aRess aRes1 aLeave tup aBin aUn aArith ASt.put ile_eq ilt_eq ieq_eq

theorem turned (b c : Int) (hc : 2 ≤ c) (hc' : c ≤ 64) : wrapF .i64 (wrapF .i64 (b.tmod (c + 3) + c) + 3) = b.tmod (c + 3) + c + 3 ∧ (b.tmod (c + 3) + c + 3).tmod (c + 3) = b % (c + 3) := by
  have h1 : -(c + 3) < b.tmod (c + 3) := by have := Int.lt_tmod_of_pos b (show 0 < c + 3 by omega); omega
  have h2 : b.tmod (c + 3) < c + 3 := Int.tmod_lt_of_pos b (by omega)
  have h3 : (b.tmod (c + 3) - b % (c + 3)) % (c + 3) = 0 := by
    have e1 := Int.mul_tdiv_add_tmod b (c + 3)
    have e2 := Int.mul_ediv_add_emod b (c + 3)
    have : b.tmod (c + 3) - b % (c + 3) = (c + 3) * (b / (c + 3) - b.tdiv (c + 3)) := by rw [Int.mul_sub]; omega
    rw [this]; exact Int.mul_emod_right _ _
  refine ⟨?_, ?_⟩
  · have e : wrapF .i64 (b.tmod (c + 3) + c) = b.tmod (c + 3) + c := wI (by omega) (by omega)
    rw [e, wI (by omega) (by omega)]
  · rw [Int.tmod_eq_emod_of_nonneg (by omega)]
    have e : b.tmod (c + 3) + c + 3 = b % (c + 3) + (b.tmod (c + 3) - b % (c + 3)) + (c + 3) := by omega
    rw [e, Int.add_emod_right, Int.add_emod, h3, Int.add_zero, Int.emod_emod, Int.emod_emod]

theorem usedS_at (a k c : Int) (q3 : 2 ≤ c) (q4 : c ≤ 64) (q2 : a ≤ 4611686018427387904) (p1 : 0 ≤ k) : usedS a (a + k) c = if k ≤ c then (k, 0) else (0, 30) := by
  unfold usedS
  rw [if_pos (And.intro q3 q4), if_pos q2]
  have e : a + k - a = k := by omega
  rw [e]
  have e' : (a ≤ a + k ∧ k ≤ c) = (k ≤ c) := propext ⟨fun h => h.2, fun h => ⟨by omega, h⟩⟩
  simp only [e']

set_option maxHeartbeats 4000000 in
theorem c6 (a0 b0 c0 : Int) (ha : 0 ≤ a0) : ∃ H', callN env 101 (.func (.func 6) []) [u a0, i b0, i c0] .empty = some (abool true, H') := by
  obtain ⟨H1, hw⟩ := awakeRun
  rw [show (101 : Nat) = 100 + 1 from rfl, opn e6]
  generalize hA : a0 % 4611686018427387905 = a
  generalize hC : 2 + c0 % 63 = c
  have q1 : 0 ≤ a := by omega
  have q2 : a ≤ 4611686018427387904 := by omega
  have q3 : 2 ≤ c := by omega
  have q4 : c ≤ 64 := by omega
  have n0 : ¬ (c + 3 = 0) := by omega
  have t22 := fun H => c22' 99 a0 c0 ha H
  rw [hA, hC] at t22
  obtain ⟨u1, u2⟩ := turned b0 c q3 q4
  have p1 := Int.emod_nonneg b0 n0
  have p2 := Int.emod_lt_of_pos b0 (show 0 < c + 3 by omega)
  generalize b0 % (c + 3) = k at u2 p1 p2
  have w1 : wrapF .i64 (c + 3) = c + 3 := wI (by omega) (by omega)
  have w2 : wrapF .u64 k = k := wU (by omega) (by omega)
  have w3 : wrapF .u64 (a + k) = a + k := wU (by omega) (by omega)
  have t12 := fun H => c12 98 a (a + k) c q1 (by omega) H
  have t11 := fun x H => c11 99 x H
  have t19 := c19 99 a (a + k) H1
  have e1 : Row1 ((H1.push (row1 (u a))).push (row1 (u (a + k)))) H1.next (u a) := by unfold Row1; rw [AHeap.get_push_ne _ _ (by simp), AHeap.get_push_same]
  have e2 : Row1 ((H1.push (row1 (u a))).push (row1 (u (a + k)))) (H1.next + 1) (u (a + k)) := by unfold Row1; rw [show H1.next + 1 = (H1.push (row1 (u a))).next from rfl, AHeap.get_push_same]
  obtain ⟨v, H3, t20, _, sl⟩ := c20 28 a (a + k) q1 (by omega) H1.next (H1.next + 1) 70 ((H1.push (row1 (u a))).push (row1 (u (a + k)))) (by simp; omega) (by simp) e1 e2
  have hlen := sl.lenS
  rw [firsts_len] at hlen
  have hsp : ((min (most 70) (spanLen a (a + k)) : Nat) : Int) = min 64 k := by
    unfold spanLen most
    split <;> omega
  rw [hsp] at hlen
  generalize (H1.push (row1 (u a))).push (row1 (u (a + k))) = H2 at t19 t20
  have z0 := usedS_at a k c q3 q4 q2 p1
  rw [z0] at t12
  have hw' := hw
  have t22' := t22 H1
  have t12' := t12 H1
  simp only [Nat.reduceAdd] at hw' t22' t12' t11 t19 t20
  generalize callN env 100 = or at hw' t22' t12' t11 t19 t20
  refine ⟨H3, ?_⟩
  by_cases hk : k ≤ c
  · rw [if_pos hk] at t12'
    have hk' : ¬ c < k := by omega
    have hmin : min 64 k = k := by omega
    rw [hmin] at hlen
    apply endN
    · simp only [a6]
      apply seqN
      · simp; rfl
      apply seqN
      · simp [hw']; rfl
      apply seqN
      · simp [t22']; rfl
      apply seqN
      · simp [w1, u1, u2, n0]; rfl
      apply seqN
      · simp [w2, w3, t12']; rfl
      apply seqN
      · simp [w2, w3, t19, t20]; rfl
      apply seqN
      · simp [hk']; rfl
      simp [t11, hlen]; rfl
    · simp [a6]
  · rw [if_neg hk] at t12'
    have hk' : c < k := by omega
    apply endN
    · simp only [a6]
      apply seqN
      · simp; rfl
      apply seqN
      · simp [hw']; rfl
      apply seqN
      · simp [t22']; rfl
      apply seqN
      · simp [w1, u1, u2, n0]; rfl
      apply seqN
      · simp [w2, w3, t12']; rfl
      apply seqN
      · simp [w2, w3, t19, t20]; rfl
      apply seqR
      simp [hk', t11]; rfl
    · simp [a6]

end Go.Proofs.Ytmdppcokjdpnoaa
