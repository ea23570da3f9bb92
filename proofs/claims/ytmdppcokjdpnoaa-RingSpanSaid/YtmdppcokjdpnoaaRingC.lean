/- Walks of the ring functions: the document's Owner. -/
import Derived.Test.YtmdppcokjdpnoaaRingB
namespace Go.Proofs.Ytmdppcokjdpnoaa
open Go Go.Vm

attribute [local simp] endF aCode aSteps aStep awanted aOp ev List.replicate aRess aRes1 aLeave tup aBin aUn aArith ASt.put ile_eq ilt_eq ieq_eq

/-- ring.Owner -/
def ownerS (s t c : Int) : Int × Int := if (2 ≤ c ∧ c ≤ 64) ∧ 0 ≤ s ∧ s < c then (if t ≤ 4611686018427387904 then (t + (s - t) % c, 0) else (0, 31)) else (0, 2)

theorem gap_hit {s t c k : Int} (hc : 2 ≤ c) (hs0 : 0 ≤ s) (hs : s < c) (hk : 0 ≤ k) (hkd : k ≤ (s - t) % c) : (t + k) % c = s ↔ k = (s - t) % c := by
  have hc' : c ≠ 0 := by omega
  have h1 := Int.emod_nonneg (s - t) hc'
  have h2 := Int.emod_lt_of_pos (s - t) (show 0 < c by omega)
  have e1 := Int.mul_ediv_add_emod (s - t) c
  constructor
  · intro h
    have e2 := Int.mul_ediv_add_emod (t + k) c
    rw [h] at e2
    -- c * q1 + d = s - t; c * q2 + s = t + k
    have e3 : c * ((s - t) / c + (t + k) / c) = k - (s - t) % c := by rw [Int.mul_add]; omega
    generalize (s - t) / c + (t + k) / c = q at e3
    rcases Int.lt_trichotomy q 0 with hq | hq | hq
    · have : c * q ≤ c * (-1) := Int.mul_le_mul_of_nonneg_left (by omega) (by omega)
      omega
    · subst hq; omega
    · have : c * 1 ≤ c * q := Int.mul_le_mul_of_nonneg_left (by omega) (by omega)
      omega
  · intro h
    subst h
    have e3 : t + (s - t) % c = s + c * (-((s - t) / c)) := by rw [Int.mul_neg]; omega
    rw [e3, Int.add_mul_emod_self_left, Int.emod_eq_of_lt hs0 hs]

def body17 : ACode := fstC (fstC (fstC (sndC (sndC (sndC (sndC (sndC a17.code)))))))

structure In17 (s c p : Int) (tm : List AVal) : Prop where
  len : tm.length = 36
  t0 : tm[0]? = some (i s)
  t2 : tm[2]? = some (i c)
  t9 : tm[9]? = some (u p)

theorem it17 (or : Oracle) (n : Nat) (s c p : Int) (hc : 2 ≤ c) (hc' : c ≤ 64) (hs0 : 0 ≤ s) (hs : s < c) (hp : 0 ≤ p) (hp' : p < 18446744073709551615) (tm : List AVal) (h : In17 s c p tm) (H : AHeap) :
    if p % c = s then ∃ tm', aCode or true n body17 ⟨tm, H, []⟩ = some (.exit 0, ⟨tm', H, []⟩) ∧ In17 s c p tm'
    else ∃ tm', aCode or true n body17 ⟨tm, H, []⟩ = some (.normal, ⟨tm', H, []⟩) ∧ In17 s c (p + 1) tm' := by
  obtain ⟨l, t0, t2, t9⟩ := h
  have w1 : wrapF .u64 c = c := wU (by omega) (by omega)
  have w2 : wrapF .u64 s = s := wU (by omega) (by omega)
  have w3 : wrapF .u64 (p + 1) = p + 1 := wU (by omega) (by omega)
  have w4 : p.tmod c = p % c := Int.tmod_eq_emod_of_nonneg hp
  have n0 : ¬ c = 0 := by omega
  split
  · rename_i he
    refine ⟨?w, ?h1, ?h2, ?h3, ?h4, ?h5⟩
    case h1 =>
      simp [-getElem?_pos, body17, a17, fstC, sndC, List.getElem?_set, l, t0, t2, t9, he, w1, w2, w4, n0]
      rfl
    all_goals simp [-getElem?_pos, List.getElem?_set, l, t0, t2, t9]
  · rename_i he
    refine ⟨?v, ?k1, ?k2, ?k3, ?k4, ?k5⟩
    case k1 =>
      simp [-getElem?_pos, body17, a17, fstC, sndC, List.getElem?_set, l, t0, t2, t9, he, w1, w2, w3, w4, n0]
      rfl
    all_goals simp [-getElem?_pos, List.getElem?_set, l, t0, t2]

theorem loop17 (or : Oracle) (n : Nat) (s t c : Int) (ht : 0 ≤ t) (ht' : t ≤ 4611686018427387904) (hc : 2 ≤ c) (hc' : c ≤ 64) (hs0 : 0 ≤ s) (hs : s < c) (H : AHeap) : ∀ (j : Nat) (k : Int) (m : Nat) (tm : List AVal), k + j = (s - t) % c → 0 ≤ k → j < m → In17 s c (t + k) tm →
    ∃ tm', aLoop (aCode or true n body17) m ⟨tm, H, []⟩ = some (.exit 0, ⟨tm', H, []⟩) ∧ In17 s c (t + (s - t) % c) tm'
  | 0, k, m + 1, tm, hj, hk, _, h => by
    have h1 := Int.emod_nonneg (s - t) (show c ≠ 0 by omega)
    have h2 := Int.emod_lt_of_pos (s - t) (show 0 < c by omega)
    have := it17 or n s c (t + k) hc hc' hs0 hs (by omega) (by omega) tm h H
    rw [if_pos ((gap_hit hc hs0 hs hk (by omega)).2 (by omega))] at this
    obtain ⟨tm', g1, g2⟩ := this
    have e : k = (s - t) % c := by omega
    rw [← e]
    exact ⟨tm', loopE g1 (by simp), g2⟩
  | j + 1, k, m + 1, tm, hj, hk, hm, h => by
    have h1 := Int.emod_nonneg (s - t) (show c ≠ 0 by omega)
    have h2 := Int.emod_lt_of_pos (s - t) (show 0 < c by omega)
    have := it17 or n s c (t + k) hc hc' hs0 hs (by omega) (by omega) tm h H
    rw [if_neg (fun e => by have := (gap_hit hc hs0 hs hk (by omega)).1 e; omega)] at this
    obtain ⟨tm', g1, g2⟩ := this
    obtain ⟨tm2, f1, f2⟩ := loop17 or n s t c ht ht' hc hc' hs0 hs H j (k + 1) m tm' (by omega) (by omega) (by omega) (by rw [← Int.add_assoc]; exact g2)
    exact ⟨tm2, loopN g1 f1, f2⟩

theorem c17 (n : Nat) (s t c : Int) (ht : 0 ≤ t) (H : AHeap) : callN env (n + 70) (.func (.func 17) []) [i s, u t, i c] H = some (.tuple [u (ownerS s t c).1, i (ownerS s t c).2], H) := by
  rw [show n + 70 = n + 69 + 1 from rfl, opn e17]
  have t24 := fun H => c24 (n + 68) c H
  by_cases h1 : 2 ≤ c ∧ c ≤ 64
  · by_cases h5 : s < 0
    · simp [a17, t24, h1, h5, ownerS, show ¬ (0 ≤ s) by omega]
    · by_cases h6 : c ≤ s
      · simp [a17, t24, h1, h5, h6, ownerS, show ¬ (s < c) by omega]
      · by_cases h2 : t ≤ 4611686018427387904
        · have h3 : ¬ (4611686018427387904 < t) := by omega
          have p1 := Int.emod_nonneg (s - t) (show c ≠ 0 by omega)
          have p2 := Int.emod_lt_of_pos (s - t) (show 0 < c by omega)
          have lq : ∀ tm, In17 s c t tm → _ := fun tm h => loop17 (callN env (n + 69)) (n + 69) s t c ht h2 h1.1 h1.2 (by omega) (by omega) H ((s - t) % c).toNat 0 (n + 69) tm (by omega) (by omega) (by omega) (by simpa using h)
          obtain ⟨f, hf⟩ := skol lq
          apply endN
          · simp only [a17]
            apply seqN
            · simp; rfl
            apply seqN
            · simp [t24, h1]; rfl
            apply seqN
            · simp [h5, h6]; rfl
            apply seqN
            · simp [h3]; rfl
            apply seqN
            · simp; rfl
            apply seqN
            · exact blkLoopX (hf _ (by constructor <;> rfl)).1
            · simp; rfl
          · simp [-getElem?_pos, a17, List.getElem?_set, fun tm h => (hf tm h).2.len, fun tm h => (hf tm h).2.t9, ownerS, h1, h2, show 0 ≤ s by omega, show s < c by omega]
        · have h3 : 4611686018427387904 < t := by omega
          simp [a17, t24, h1, h2, h3, h5, h6, ownerS, show 0 ≤ s by omega, show s < c by omega]
  · simp [a17, t24, h1, ownerS]

end Go.Proofs.Ytmdppcokjdpnoaa
