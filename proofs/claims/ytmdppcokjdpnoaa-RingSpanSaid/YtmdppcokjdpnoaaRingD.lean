/- Walks of the ring functions: Span, a function that is ranged over. -/
import Derived.Test.YtmdppcokjdpnoaaRingC
namespace Go.Proofs.Ytmdppcokjdpnoaa
open Go Go.Vm

attribute [local simp] endF aCode aSteps aStep awanted aOp ev List.replicate aRess aRes1 aLeave tup aBin aUn aArith ASt.put ile_eq ilt_eq ieq_eq aPart List.getElem?_cons_zero

abbrev p (A : Nat) : AVal := .ptr A 0 0

def body25 : ACode := fstC (fstC (sndC a25.code))

structure In25 (y : AVal) (B1 B2 : Nat) (k : Int) (tm : List AVal) : Prop where
  len : tm.length = 27
  t0 : tm[0]? = some y
  t1 : tm[1]? = some (p B1)
  t2 : tm[2]? = some (p B2)
  t4 : tm[4]? = some (u k)

def spanLen (t e : Int) : Nat := if t < e then min 64 (e - t).toNat else 0

theorem lt_spanLen {t e : Int} {k : Nat} : k < spanLen t e ↔ k < 64 ∧ t < e ∧ (k : Int) < e - t := by
  unfold spanLen
  split <;> omega

theorem spanLen_le (t e : Int) : spanLen t e ≤ 64 := by
  unfold spanLen
  split <;> omega

theorem it25 (or : Oracle) (n : Nat) (y : AVal) (B1 B2 : Nat) (t e : Int) (ht : 0 ≤ t) (he : e < 18446744073709551616) (k : Nat) (hk : k < spanLen t e) (tm : List AVal) (h : In25 y B1 B2 k tm) (H H' : AHeap)
    (r1 : H.rowAt B1 0 = some [u t]) (r2 : H.rowAt B2 0 = some [u e]) (b : Bool) (hy : or y [u (t + k)] H = some (abool b, H')) :
    if b then ∃ tm', aCode or true n body25 ⟨tm, H, []⟩ = some (.normal, ⟨tm', H', []⟩) ∧ In25 y B1 B2 (k + 1 : Nat) tm'
    else ∃ tm', aCode or true n body25 ⟨tm, H, []⟩ = some (.ret, ⟨tm', H', []⟩) := by
  obtain ⟨l, t0, t1, t2, t4⟩ := h
  obtain ⟨k1, k2, k3⟩ := lt_spanLen.1 hk
  have w1 : wrapF .u64 (e - t) = e - t := wU (by omega) (by omega)
  have w2 : wrapF .u64 (t + k) = t + k := wU (by omega) (by omega)
  have w3 : wrapF .u64 ((k : Int) + 1) = k + 1 := wU (by omega) (by omega)
  have k1' : (k : Int) < 64 := by omega
  cases b with
  | true =>
    rw [if_pos rfl]
    refine ⟨?w, ?a1, ?a2, ?a3, ?a4, ?a5, ?a6⟩
    case a1 =>
      simp [-getElem?_pos, body25, a25, fstC, sndC, List.getElem?_set, l, t0, t1, t2, t4, r1, r2, k1', k2, k3, w1, w2, w3, hy]
      rfl
    all_goals simp [-getElem?_pos, List.getElem?_set, l, t0, t1, t2]
  | false =>
    rw [if_neg (by simp)]
    refine ⟨?v, ?b1⟩
    case b1 =>
      simp [-getElem?_pos, body25, a25, fstC, sndC, List.getElem?_set, l, t0, t1, t2, t4, r1, r2, k1', k2, k3, w1, w2, w3, hy]
      rfl

theorem end25 (or : Oracle) (n : Nat) (y : AVal) (B1 B2 : Nat) (t e : Int) (ht : 0 ≤ t) (he : e < 18446744073709551616) (tm : List AVal) (h : In25 y B1 B2 (spanLen t e) tm) (H : AHeap)
    (r1 : H.rowAt B1 0 = some [u t]) (r2 : H.rowAt B2 0 = some [u e]) : ∃ tm', aCode or true n body25 ⟨tm, H, []⟩ = some (.exit 0, ⟨tm', H, []⟩) := by
  obtain ⟨l, t0, t1, t2, t4⟩ := h
  have hk : ¬ (spanLen t e < spanLen t e) := by omega
  rw [lt_spanLen] at hk
  generalize spanLen t e = k at *
  by_cases k1 : (k : Int) < 64
  · by_cases k2 : t < e
    · have w1 : wrapF .u64 (e - t) = e - t := wU (by omega) (by omega)
      have k3 : ¬ ((k : Int) < e - t) := by omega
      refine ⟨?v, ?b1⟩
      case b1 =>
        simp [-getElem?_pos, body25, a25, fstC, sndC, List.getElem?_set, l, t0, t1, t2, t4, r1, r2, k1, k2, k3, w1]
        rfl
    · refine ⟨?v2, ?b2⟩
      case b2 =>
        simp [-getElem?_pos, body25, a25, fstC, sndC, List.getElem?_set, l, t0, t1, t2, t4, r1, r2, k1, k2]
        rfl
  · refine ⟨?v3, ?b3⟩
    case b3 =>
      simp [-getElem?_pos, body25, a25, fstC, sndC, List.getElem?_set, l, t0, t1, t2, t4, k1]
      rfl

theorem loop25 (or : Oracle) (n : Nat) (y : AVal) (B1 B2 : Nat) (t e : Int) (ht : 0 ≤ t) (he : e < 18446744073709551616) (I : Nat → AHeap → Prop) (J : AHeap → Prop)
    (hrow : ∀ k H, k ≤ spanLen t e → I k H → H.rowAt B1 0 = some [u t] ∧ H.rowAt B2 0 = some [u e])
    (hY : ∀ k H, k < spanLen t e → I k H → ∃ H', (or y [u (t + k)] H = some (abool true, H') ∧ I (k + 1) H') ∨ (or y [u (t + k)] H = some (abool false, H') ∧ J H')) :
    ∀ (j k m : Nat) (tm : List AVal) (H : AHeap), k + j = spanLen t e → j < m → In25 y B1 B2 k tm → I k H →
      ∃ tm' H', (aLoop (aCode or true n body25) m ⟨tm, H, []⟩ = some (.exit 0, ⟨tm', H', []⟩) ∧ I (spanLen t e) H') ∨ (aLoop (aCode or true n body25) m ⟨tm, H, []⟩ = some (.ret, ⟨tm', H', []⟩) ∧ J H')
  | 0, k, m + 1, tm, H, hj, _, h, hI => by
    have : k = spanLen t e := by omega
    subst this
    obtain ⟨r1, r2⟩ := hrow _ H (Nat.le_refl _) hI
    obtain ⟨tm', h1⟩ := end25 or n y B1 B2 t e ht he tm h H r1 r2
    exact ⟨tm', H, .inl ⟨loopE h1 (by simp), hI⟩⟩
  | j + 1, k, m + 1, tm, H, hj, hm, h, hI => by
    obtain ⟨r1, r2⟩ := hrow k H (by omega) hI
    obtain ⟨H', hy | hy⟩ := hY k H (by omega) hI
    · have := it25 or n y B1 B2 t e ht he k (by omega) tm h H H' r1 r2 true hy.1
      rw [if_pos rfl] at this
      obtain ⟨tm', h1, h2⟩ := this
      obtain ⟨tm2, H2, g | g⟩ := loop25 or n y B1 B2 t e ht he I J hrow hY j (k + 1) m tm' H' (by omega) (by omega) h2 hy.2
      · exact ⟨tm2, H2, .inl ⟨loopN h1 g.1, g.2⟩⟩
      · exact ⟨tm2, H2, .inr ⟨loopN h1 g.1, g.2⟩⟩
    · have := it25 or n y B1 B2 t e ht he k (by omega) tm h H H' r1 r2 false hy.1
      rw [if_neg (by simp)] at this
      obtain ⟨tm', h1⟩ := this
      exact ⟨tm', H', .inr ⟨loopE h1 (by simp), hy.2⟩⟩

/-- The function that Span hands out, called with a yield. -/
theorem c25 (n : Nat) (y : AVal) (B1 B2 : Nat) (t e : Int) (ht : 0 ≤ t) (he : e < 18446744073709551616) (I : Nat → AHeap → Prop) (J : AHeap → Prop)
    (hrow : ∀ k H, k ≤ spanLen t e → I k H → H.rowAt B1 0 = some [u t] ∧ H.rowAt B2 0 = some [u e])
    (hY : ∀ k H, k < spanLen t e → I k H → ∃ H', (callN env (n + 69) y [u (t + k)] H = some (abool true, H') ∧ I (k + 1) H') ∨ (callN env (n + 69) y [u (t + k)] H = some (abool false, H') ∧ J H'))
    (H : AHeap) (hI : I 0 H) : ∃ H', callN env (n + 70) (.func (.func 25) [p B1, p B2]) [y] H = some (.tuple [], H') ∧ (I (spanLen t e) H' ∨ J H') := by
  have hl := spanLen_le t e
  have lp := fun tm h => loop25 (callN env (n + 69)) (n + 69) y B1 B2 t e ht he I J hrow hY (spanLen t e) 0 (n + 69) tm H (by omega) (by omega) h hI
  rw [show n + 70 = n + 69 + 1 from rfl, opn e25]
  have tm0 : In25 y B1 B2 (0 : Nat) ([y, p B1, p B2, aundef, u 0] ++ List.replicate 22 aundef) := by constructor <;> rfl
  obtain ⟨tm', H', g | g⟩ := lp _ tm0
  · refine ⟨H', ?_, .inl g.2⟩
    apply endN
    · simp only [a25]
      apply seqN
      · simp; rfl
      · exact blkLoopX g.1
    · simp [a25]
  · refine ⟨H', ?_, .inr g.2⟩
    apply endN
    · simp only [a25]
      apply seqN
      · simp; rfl
      · exact blkLoopR g.1
    · simp [a25]

end Go.Proofs.Ytmdppcokjdpnoaa
