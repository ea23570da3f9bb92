/- RingExact, walked. -/
import Derived.Test.YtmdppcokjdpnoaaRingF
namespace Go.Proofs.Ytmdppcokjdpnoaa
open Go Go.Vm

attribute [local simp] endF aCode aSteps aStep awanted aOp ev List.replicate aRess aRes1 aLeave tup aBin aUn aArith ASt.put ile_eq ilt_eq ieq_eq aPart List.getElem?_cons_zero

set_option maxHeartbeats 2000000 in
theorem c3 (k : Nat) (a b c s : Int) (hw : ∃ H', callN env (k + 72) (.func (.func 8) []) [] .empty = some (abool true, H')) (ha : 0 ≤ a) (hb' : b < 18446744073709551616) :
    ∃ H', callN env (k + 73) (.func (.func 3) []) [u a, u b, i c, i s] .empty = some (abool true, H') := by
  obtain ⟨H1, hw⟩ := hw
  obtain ⟨H2, t16, _⟩ := c16 k s a c ha H1
  refine ⟨H2, ?_⟩
  rw [show k + 73 = k + 72 + 1 from rfl, opn e3]
  have t9 := fun H => c9 (k + 70) a c ha H
  have t10 := fun H => c10 (k + 70) a c ha H
  have t11 := fun x H => c11 (k + 71) x H
  have t12 := fun H => c12 (k + 70) a b c ha hb' H
  have t13 := fun H => c13 (k + 2) a b c ha hb' H
  have t14 := fun H => c14 (k + 70) a c ha H
  have t15 := fun H => c15 (k + 70) a c ha H
  have t17 := fun H => c17 (k + 2) s a c ha H
  simp only [Nat.reduceAdd, Nat.add_assoc] at hw t9 t10 t11 t12 t13 t14 t15 t16 t17 ⊢
  generalize callN env (k + 72) = or at hw t9 t10 t11 t12 t13 t14 t15 t16 t17 ⊢
  generalize slotS a c = r1 at *
  generalize usedS a b c = r2 at *
  generalize nextS a c = r3 at *
  generalize ownerS s a c = r4 at *
  apply endN
  · simp only [a3]
    apply seqN
    · simp; rfl
    apply seqN
    · simp [hw]; rfl
    apply seqN
    · simp [t9]; rfl
    apply seqN
    · simp [t10]; rfl
    apply seqN
    · simp [t11]; rfl
    apply seqN
    · simp [t12]; rfl
    apply seqN
    · simp [t13]; rfl
    apply seqN
    · simp [t11]; rfl
    apply seqN
    · simp [t14]; rfl
    apply seqN
    · simp [t15]; rfl
    apply seqN
    · simp [t11]; rfl
    apply seqN
    · simp [t16]; rfl
    apply seqN
    · simp [t17]; rfl
    apply seqN
    · simp [t11]; rfl
    · rfl
  · rfl

end Go.Proofs.Ytmdppcokjdpnoaa
