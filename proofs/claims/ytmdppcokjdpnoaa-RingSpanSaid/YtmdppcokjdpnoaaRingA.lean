/- Walks of the ring functions without loops, by the evaluator. -/
import Derived.Test.YtmdppcokjdpnoaaRingLit
import Derived.Test.YtmdppcokjdpnoaaVmTop
namespace Go.Proofs.Ytmdppcokjdpnoaa
open Go Go.Vm

noncomputable abbrev env : Nat → Option AFunc := envP Try.prog
abbrev u (n : Int) : AVal := .raw (.int .u64 n)
abbrev i (n : Int) : AVal := .raw (.int .i64 n)

/-- How a call ends. -/
def endF (res : List ARes) : Option (Exit × ASt) → Option (AVal × AHeap)
  | some (.normal, s) => (aLeave s.marks s.H).bind fun H' => (aRess s.tm H' res).map fun vs => (tup vs, H')
  | some (.ret, s) => (aLeave s.marks s.H).bind fun H' => (aRess s.tm H' res).map fun vs => (tup vs, H')
  | _ => none

/-- A call of a function of the program, opened. -/
theorem opn {f : Nat} {af : AFunc} (h : env f = some af) (n : Nat) (caps args : List AVal) (H : AHeap) : callN env (n + 1) (.func (.func f) caps) args H =
    endF af.res (aCode (callN env n) true n af.code { tm := (args ++ caps) ++ List.replicate (af.ntmps - (args ++ caps).length) aundef, H := H, marks := [] }) := by
  simp only [callN, callF, h, Option.bind_some]
  unfold endF
  split <;> rename_i hx <;> simp only [hx]

theorem endN {res : List ARes} {x : Option (Exit × ASt)} {es : Exit × ASt} {y : Option (AVal × AHeap)} (h1 : x = some es) (h2 : endF res (some es) = y) : endF res x = y := by rw [h1, h2]

theorem wU {n : Int} (h0 : 0 ≤ n) (h1 : n < 18446744073709551616) : wrapF .u64 n = n := Int.emod_eq_of_lt h0 h1
theorem wI {n : Int} (h0 : -9223372036854775808 ≤ n) (h1 : n < 9223372036854775808) : wrapF .i64 n = n := by
  simp only [wrapF, ile_eq, decide_eq_true_eq]; omega

theorem seqN {or : Oracle} {top : Bool} {n : Nat} {a b : ACode} {st s : ASt} {x : Option (Exit × ASt)} (h1 : aCode or top n a st = some (.normal, s)) (h2 : aCode or top n b s = x) : aCode or top n (.seq a b) st = x := by
  simp only [aCode, h1, h2]
theorem regN {or : Oracle} {top : Bool} {n : Nat} {ops : List AOper} {st s : ASt} (h1 : aSteps or ops st = some s) : aCode or top n (.region ops) st = some (.normal, s) := by
  simp only [aCode, h1, Option.map_some]
theorem stepN {or : Oracle} {o : AOper} {os : List AOper} {st s : ASt} {x : Option ASt} (h1 : aStep or st o = some s) (h2 : aSteps or os s = x) : aSteps or (o :: os) st = x := by
  simp only [aSteps, h1, Option.bind_some, h2]
theorem nilN {or : Oracle} {st : ASt} : aSteps or [] st = some st := rfl

attribute [local simp] endF aCode aSteps aStep awanted aOp ev List.replicate aRess aRes1 aLeave tup aBin aUn aArith ASt.put ile_eq ilt_eq ieq_eq

theorem c11 (n : Nat) (a : Int) (H : AHeap) : callN env (n + 1) (.func (.func 11) []) [i a] H = some (i a, H) := by
  rw [opn e11]; simp [a11]

theorem c23 (n : Nat) (a : Int) (H : AHeap) : callN env (n + 1) (.func (.func 23) []) [i a] H = some (abool (decide (2 ≤ a ∧ a ≤ 64)), H) := by
  rw [opn e23]; by_cases h1 : 2 ≤ a <;> simp [a23, h1]

theorem c24 (n : Nat) (a : Int) (H : AHeap) : callN env (n + 1) (.func (.func 24) []) [i a] H = some (abool (decide (2 ≤ a ∧ a ≤ 64)), H) := by
  rw [opn e24]; by_cases h1 : 2 ≤ a <;> simp [a24, h1]

theorem c22 (n : Nat) (a b : Int) (H : AHeap) : callN env (n + 1) (.func (.func 22) []) [u a, i b] H = some (.tuple [u (a.tmod 4611686018427387905), i (wrapF .i64 (2 + (wrapF .i64 (b.tmod 63 + 63)).tmod 63))], H) := by
  rw [opn e22]; simp [a22]

/-- ring.Next -/
def nextS (p c : Int) : Int × Int := if 2 ≤ c ∧ c ≤ 64 then (if p ≤ 4611686018427387904 - c then (p + c, 0) else (0, 31)) else (0, 2)

theorem c14 (n : Nat) (p c : Int) (hp : 0 ≤ p) (H : AHeap) : callN env (n + 2) (.func (.func 14) []) [u p, i c] H = some (.tuple [u (nextS p c).1, i (nextS p c).2], H) := by
  rw [opn e14]
  by_cases h1 : 2 ≤ c ∧ c ≤ 64
  · have w1 : wrapF .u64 c = c := by simp only [wrapF]; omega
    have w2 : wrapF .u64 (4611686018427387904 - c) = 4611686018427387904 - c := by simp only [wrapF]; omega
    by_cases h2 : p ≤ 4611686018427387904 - c
    · have w3 : wrapF .u64 (p + c) = p + c := by simp only [wrapF]; omega
      have h3 : ¬ (4611686018427387904 - c < p) := by omega
      simp [a14, c23, h1, h2, h3, w1, w2, w3, nextS]
    · have h3 : 4611686018427387904 - c < p := by omega
      simp [a14, c23, h1, h2, h3, w1, w2, nextS]
  · have h1' : decide (2 ≤ c ∧ c ≤ 64) = false := by simp [h1]
    simp only [a14, aCode, aSteps, aStep]
    simp [c23, h1, nextS]

theorem c15 (n : Nat) (p c : Int) (hp : 0 ≤ p) (H : AHeap) : callN env (n + 2) (.func (.func 15) []) [u p, i c] H = some (.tuple [u (nextS p c).1, i (nextS p c).2], H) := by
  rw [opn e15]
  by_cases h1 : 2 ≤ c ∧ c ≤ 64
  · have w1 : wrapF .u64 c = c := by simp only [wrapF]; omega
    have w2 : wrapF .u64 (4611686018427387904 - c) = 4611686018427387904 - c := by simp only [wrapF]; omega
    by_cases h2 : p ≤ 4611686018427387904 - c
    · have w3 : wrapF .u64 (p + c) = p + c := by simp only [wrapF]; omega
      have h3 : ¬ (4611686018427387904 - c < p) := by omega
      simp [a15, c24, h1, h2, h3, w1, w2, w3, nextS]
    · have h3 : 4611686018427387904 - c < p := by omega
      simp [a15, c24, h1, h2, h3, w1, w2, nextS]
  · simp [a15, c24, h1, nextS]

/-- ring.Slot -/
def slotS (p c : Int) : Int × Int := if 2 ≤ c ∧ c ≤ 64 then (if p ≤ 4611686018427387968 then (p % c, 0) else (0, 31)) else (0, 2)

theorem c9 (n : Nat) (p c : Int) (hp : 0 ≤ p) (H : AHeap) : callN env (n + 2) (.func (.func 9) []) [u p, i c] H = some (.tuple [i (slotS p c).1, i (slotS p c).2], H) := by
  rw [opn e9]
  by_cases h1 : 2 ≤ c ∧ c ≤ 64
  · have w1 : wrapF .u64 c = c := by simp only [wrapF]; omega
    by_cases h2 : p ≤ 4611686018427387968
    · have w2 : p.tmod c = p % c := Int.tmod_eq_emod_of_nonneg hp
      have w4 := Int.emod_nonneg p (show c ≠ 0 by omega)
      have w5 := Int.emod_lt_of_pos p (show 0 < c by omega)
      have w3 : wrapF .i64 (p % c) = p % c := wI (by omega) (by omega)
      have h3 : ¬ (4611686018427387968 < p) := by omega
      have h4 : ¬ c = 0 := by omega
      simp [a9, c23, h1, h2, h3, h4, w1, w2, w3, slotS]
    · have h3 : 4611686018427387968 < p := by omega
      simp [a9, c23, h1, h2, h3, slotS]
  · simp [a9, c23, h1, slotS]

theorem lapN (b : Int) : wrapF .i64 (2 + (wrapF .i64 (b.tmod 63 + 63)).tmod 63) = 2 + b % 63 := by
  have h1 : -63 < b.tmod 63 := by have := Int.lt_tmod_of_pos b (show (0:Int) < 63 by omega); omega
  have h2 : b.tmod 63 < 63 := Int.tmod_lt_of_pos b (by omega)
  have h3 : (b.tmod 63 - b % 63) % 63 = 0 := by
    have := Int.mul_tdiv_add_tmod b 63
    omega
  have e1 : wrapF .i64 (b.tmod 63 + 63) = b.tmod 63 + 63 := wI (by omega) (by omega)
  have e2 : (b.tmod 63 + 63).tmod 63 = (b.tmod 63 + 63) % 63 := Int.tmod_eq_emod_of_nonneg (by omega)
  rw [e1, e2, wI (by omega) (by omega)]
  omega

theorem c22' (n : Nat) (a b : Int) (ha : 0 ≤ a) (H : AHeap) : callN env (n + 1) (.func (.func 22) []) [u a, i b] H = some (.tuple [u (a % 4611686018427387905), i (2 + b % 63)], H) := by
  rw [c22, lapN, Int.tmod_eq_emod_of_nonneg ha]

theorem awake_says : saysTrue Try.prog (97 + 3) 8 = true := by kernel_rfl

/-- awake answers true, and leaves a heap. -/
theorem awakeRun : ∃ H', callN env (97 + 3) (.func (.func 8) []) [] .empty = some (abool true, H') := saysTrue_run awake_says


theorem u64_lo {n : Int} (h : (Lit.int .u64 n).wf = true) : 0 ≤ n := by
  simp [Lit.wf, IntKind.min, IntKind.max, IntKind.bits, IntKind.signed] at h; omega
theorem u64_hi {n : Int} (h : (Lit.int .u64 n).wf = true) : n < 18446744073709551616 := by
  simp [Lit.wf, IntKind.min, IntKind.max, IntKind.bits, IntKind.signed] at h; omega
theorem i64_lo {n : Int} (h : (Lit.int .i64 n).wf = true) : -9223372036854775808 ≤ n := by
  simp [Lit.wf, IntKind.min, IntKind.max, IntKind.bits, IntKind.signed] at h; omega
theorem i64_hi {n : Int} (h : (Lit.int .i64 n).wf = true) : n < 9223372036854775808 := by
  simp [Lit.wf, IntKind.min, IntKind.max, IntKind.bits, IntKind.signed] at h; omega

/-- RingNext -/
theorem c7 (k : Nat) (a0 b0 c0 : Int) (hw : ∃ H', callN env (k + 3) (.func (.func 8) []) [] .empty = some (abool true, H')) (ha : 0 ≤ a0) (ha' : a0 < 18446744073709551616) (hb : 0 ≤ b0) (hb' : b0 < 18446744073709551616) : ∃ H', callN env (k + 4) (.func (.func 7) []) [u a0, u b0, i c0] .empty = some (abool true, H') := by
  obtain ⟨H1, hw⟩ := hw
  refine ⟨H1, ?_⟩
  rw [opn e7]
  generalize hA : a0 % 4611686018427387905 = a
  generalize hC : 2 + c0 % 63 = c
  have r1 : 0 ≤ a := by omega
  have r2 : a ≤ 4611686018427387904 := by omega
  have r3 : 2 ≤ c := by omega
  have r4 : c ≤ 64 := by omega
  have w1 : wrapF .u64 c = c := wU (by omega) (by omega)
  have w2 : wrapF .u64 (4611686018427387904 - c) = 4611686018427387904 - c := wU (by omega) (by omega)
  have w3 : wrapF .u64 (a + 1) = a + 1 := wU (by omega) (by omega)
  have n0 : ¬ (a + 1 = 0) := by omega
  have q1 := Int.emod_nonneg b0 n0
  have q2 := Int.emod_lt_of_pos b0 (show 0 < a + 1 by omega)
  have w4 : b0.tmod (a + 1) = b0 % (a + 1) := Int.tmod_eq_emod_of_nonneg hb
  have w5 : wrapF .u64 (a - b0 % (a + 1)) = a - b0 % (a + 1) := wU (by omega) (by omega)
  have w6 : wrapF .u64 (a - b0 % (a + 1) + c) = a - b0 % (a + 1) + c := wU (by omega) (by omega)
  have z0 : wrapF .i64 0 = 0 := wI (by omega) (by omega)
  by_cases h2 : a ≤ 4611686018427387904 - c
  · have h3 : ¬ (4611686018427387904 - c < a) := by omega
    have s1 : nextS a c = (a + c, 0) := by simp [nextS, r3, r4, h2]
    have s2 : slotS a c = (a % c, 0) := by simp only [slotS]; rw [if_pos (by omega), if_pos (by omega)]
    have s3 : slotS (a + c) c = (a % c, 0) := by simp only [slotS]; rw [if_pos (by omega), if_pos (by omega)]; simp
    have l1 : a < a + c := by omega
    have l2 : a - b0 % (a + 1) + c ≤ a + c := by omega
    have rc : 0 ≤ a + c := by omega
    have t22 := fun H => c22' (k + 2) a0 c0 ha H
    have t14 := fun H => c14 (k + 1) a c r1 H
    have t9 := fun H => c9 (k + 1) a c r1 H
    have t9' := fun H => c9 (k + 1) (a + c) c rc H
    have t11 := fun x H => c11 (k + 2) x H
    rw [s1] at t14; rw [s2] at t9; rw [s3] at t9'
    rw [hA, hC] at t22
    simp only [Nat.reduceAdd, Nat.add_assoc] at hw t22 t14 t9 t9' t11 ⊢
    generalize callN env (k + 3) = or at hw t22 t14 t9 t9' t11 ⊢
    apply endN
    · simp only [a7]
      apply seqN
      · simp; rfl
      apply seqN
      · simp [hw]; rfl
      apply seqN
      · simp [t22]; rfl
      apply seqN
      · simp [t14]; rfl
      apply seqN
      · simp [w1, w2, h3]; rfl
      apply seqN
      · simp [t9]; rfl
      apply seqN
      · simp [t9']; rfl
      apply seqN
      · simp [w3, w4, w5, n0]; rfl
      apply seqN
      · apply regN
        iterate 27 (apply stepN; · simp [t11, z0, w1, w6, l1, l2]; rfl)
        exact nilN (or := or)
      · rfl
    · rfl
  · have h3 : 4611686018427387904 - c < a := by omega
    have s1 : nextS a c = (0, 31) := by simp [nextS, r3, r4, h2]
    simp [a7, hw, c22' _ _ _ ha, c14 _ _ _ r1, c9 _ _ _ r1, c11, hA, hC, h3, w1, w2, s1]

end Go.Proofs.Ytmdppcokjdpnoaa
