/- Walks of the ring functions with loops, by the evaluator. -/
import Derived.Test.YtmdppcokjdpnoaaRingA
namespace Go.Proofs.Ytmdppcokjdpnoaa
open Go Go.Vm

attribute [local simp] endF aCode aSteps aStep awanted aOp ev List.replicate aRess aRes1 aLeave tup aBin aUn aArith ASt.put ile_eq ilt_eq ieq_eq

def fstC : ACode → ACode | .seq a _ => a | .cond _ a _ => a | .block _ a => a | .loop a => a | c => c
def sndC : ACode → ACode | .seq _ b => b | .cond _ _ b => b | c => c

theorem loopN {f : ASt → Option (Exit × ASt)} {n : Nat} {st s : ASt} {x : Option (Exit × ASt)} (h : f st = some (.normal, s)) (h2 : aLoop f n s = x) : aLoop f (n + 1) st = x := by
  simp only [aLoop, h, h2]
theorem loopE {f : ASt → Option (Exit × ASt)} {n : Nat} {st s : ASt} {e : Exit} (h : f st = some (e, s)) (he : e ≠ .normal) : aLoop f (n + 1) st = some (e, s) := by
  simp only [aLoop, h]
  cases e <;> first | rfl | exact absurd rfl he

theorem skol {α β : Type} {p : α → Prop} {q : α → β → Prop} (h : ∀ a, p a → ∃ b, q a b) : ∃ f : ∀ a, p a → β, ∀ a h, q a (f a h) := ⟨fun a h' => (h a h').choose, fun a h' => (h a h').choose_spec⟩
theorem seqX {or : Oracle} {top : Bool} {n : Nat} {a b : ACode} {st s : ASt} {e : Exit} (h1 : aCode or top n a st = some (e, s)) (he : e ≠ .normal) : aCode or top n (.seq a b) st = some (e, s) := by
  simp only [aCode, h1]
  cases e <;> first | rfl | exact absurd rfl he
theorem blkLoopX {or : Oracle} {top : Bool} {n id : Nat} {b : ACode} {st s : ASt} (h : aLoop (aCode or top n b) n st = some (.exit id, s)) : aCode or top n (.block id (.loop b)) st = some (.normal, s) := by
  simp only [aCode, h, if_true]
theorem blkLoopR {or : Oracle} {top : Bool} {n id : Nat} {b : ACode} {st s : ASt} (h : aLoop (aCode or top n b) n st = some (.ret, s)) : aCode or top n (.block id (.loop b)) st = some (.ret, s) := by
  simp only [aCode, h]

theorem c10 (n : Nat) (p c : Int) (hp : 0 ≤ p) (H : AHeap) : callN env (n + 2) (.func (.func 10) []) [u p, i c] H = some (.tuple [i (slotS p c).1, i (slotS p c).2], H) := by
  rw [opn e10]
  by_cases h1 : 2 ≤ c ∧ c ≤ 64
  · have w1 : wrapF .u64 c = c := by simp only [wrapF]; omega
    by_cases h2 : p ≤ 4611686018427387968
    · have w2 : p.tmod c = p % c := Int.tmod_eq_emod_of_nonneg hp
      have w4 := Int.emod_nonneg p (show c ≠ 0 by omega)
      have w5 := Int.emod_lt_of_pos p (show 0 < c by omega)
      have w3 : wrapF .i64 (p % c) = p % c := wI (by omega) (by omega)
      have h3 : ¬ (4611686018427387968 < p) := by omega
      have h4 : ¬ c = 0 := by omega
      simp [a10, c24, h1, h2, h3, h4, w1, w2, w3, slotS]
    · have h3 : 4611686018427387968 < p := by omega
      simp [a10, c24, h1, h2, h3, slotS]
  · simp [a10, c24, h1, slotS]

/-- ring.Used -/
def usedS (t e c : Int) : Int × Int := if 2 ≤ c ∧ c ≤ 64 then (if t ≤ 4611686018427387904 then (if t ≤ e ∧ e - t ≤ c then (e - t, 0) else (0, 30)) else (0, 31)) else (0, 2)

theorem c12 (n : Nat) (t e c : Int) (ht : 0 ≤ t) (he : e < 18446744073709551616) (H : AHeap) : callN env (n + 2) (.func (.func 12) []) [u t, u e, i c] H = some (.tuple [i (usedS t e c).1, i (usedS t e c).2], H) := by
  rw [opn e12]
  by_cases h1 : 2 ≤ c ∧ c ≤ 64
  · have w1 : wrapF .u64 c = c := by simp only [wrapF]; omega
    by_cases h2 : t ≤ 4611686018427387904
    · have h3 : ¬ (4611686018427387904 < t) := by omega
      by_cases h4 : t ≤ e
      · have h5 : ¬ (e < t) := by omega
        have w2 : wrapF .u64 (e - t) = e - t := wU (by omega) (by omega)
        by_cases h6 : e - t ≤ c
        · have h7 : ¬ (c < e - t) := by omega
          have w3 : wrapF .i64 (e - t) = e - t := wI (by omega) (by omega)
          simp [a12, c23, h1, h2, h3, h4, h5, h6, h7, w1, w2, w3, usedS]
        · have h7 : c < e - t := by omega
          simp [a12, c23, h1, h2, h3, h4, h5, h6, h7, w1, w2, usedS]
      · have h5 : e < t := by omega
        simp [a12, c23, h1, h2, h3, h4, h5, w1, usedS]
    · have h3 : 4611686018427387904 < t := by omega
      simp [a12, c23, h1, h2, h3, usedS]
  · simp [a12, c23, h1, usedS]

/-! ### The document's Used: a loop -/

def body13 : ACode := fstC (fstC (sndC (fstC (sndC (sndC (sndC (sndC a13.code)))))))

structure In13 (t e c k : Int) (tm : List AVal) : Prop where
  len : tm.length = 28
  t0 : tm[0]? = some (u t)
  t1 : tm[1]? = some (u e)
  t2 : tm[2]? = some (i c)
  t9 : tm[9]? = some (i k)

theorem it13 (or : Oracle) (n : Nat) (t e c k : Int) (ht : 0 ≤ t) (ht' : t ≤ 4611686018427387904) (hk : 0 ≤ k) (hkc : k ≤ c) (hc : c ≤ 64) (tm : List AVal) (h : In13 t e c k tm) (H : AHeap) :
    if t + k = e then ∃ tm', aCode or true n body13 ⟨tm, H, []⟩ = some (.ret, ⟨tm', H, []⟩) ∧ tm'[6]? = some (i k) ∧ tm'[7]? = some (i 0)
    else ∃ tm', aCode or true n body13 ⟨tm, H, []⟩ = some (.normal, ⟨tm', H, []⟩) ∧ In13 t e c (k + 1) tm' := by
  obtain ⟨l, t0, t1, t2, t9⟩ := h
  have w1 : wrapF .u64 k = k := wU hk (by omega)
  have w2 : wrapF .u64 (t + k) = t + k := wU (by omega) (by omega)
  have w3 : wrapF .i64 (k + 1) = k + 1 := wI (by omega) (by omega)
  split
  · rename_i he
    subst he
    refine ⟨?w, ?h1, ?h2, ?h3⟩
    case h1 =>
      simp [-getElem?_pos, body13, a13, fstC, sndC, List.getElem?_set, l, t0, t1, t2, t9, hkc, w1, w2]
      rfl
    case h2 => simp [-getElem?_pos, List.getElem?_set, l]
    case h3 => simp [-getElem?_pos, List.getElem?_set, l]
  · rename_i he
    refine ⟨?v, ?h1, ?h2, ?h3, ?h4, ?h5, ?h6⟩
    case h1 =>
      simp [-getElem?_pos, body13, a13, fstC, sndC, List.getElem?_set, l, t0, t1, t2, t9, hkc, he, w1, w2, w3]
      rfl
    all_goals simp [-getElem?_pos, List.getElem?_set, l, t0, t1, t2]

/-- The loop's end: nothing fits. -/
theorem end13 (or : Oracle) (n : Nat) (t e c : Int) (tm : List AVal) (h : In13 t e c (c + 1) tm) (H : AHeap) :
    ∃ tm', aCode or true n body13 ⟨tm, H, []⟩ = some (.exit 0, ⟨tm', H, []⟩) ∧ tm'.length = 28 := by
  obtain ⟨l, t0, t1, t2, t9⟩ := h
  have w1 : ¬ (c + 1 ≤ c) := by omega
  refine ⟨?w, ?h1, ?h2⟩
  case h1 =>
    simp [-getElem?_pos, body13, a13, fstC, sndC, List.getElem?_set, l, t0, t1, t2, t9, w1]
    rfl
  case h2 => simp [l]

theorem loop13 (or : Oracle) (n : Nat) (t e c : Int) (ht : 0 ≤ t) (ht' : t ≤ 4611686018427387904) (hc0 : 0 ≤ c) (hc : c ≤ 64) (H : AHeap) : ∀ (j : Nat) (k : Int) (m : Nat) (tm : List AVal), k + j = c + 1 → 0 ≤ k → j < m → In13 t e c k tm →
    if t + k ≤ e ∧ e - t ≤ c then ∃ tm', aLoop (aCode or true n body13) m ⟨tm, H, []⟩ = some (.ret, ⟨tm', H, []⟩) ∧ tm'[6]? = some (i (e - t)) ∧ tm'[7]? = some (i 0)
    else ∃ tm', aLoop (aCode or true n body13) m ⟨tm, H, []⟩ = some (.exit 0, ⟨tm', H, []⟩) ∧ tm'.length = 28
  | 0, k, m + 1, tm, hj, hk, _, h => by
    have : k = c + 1 := by omega
    subst this
    rw [if_neg (by omega)]
    obtain ⟨tm', h1, h2⟩ := end13 or n t e c tm h H
    exact ⟨tm', loopE h1 (by simp), h2⟩
  | j + 1, k, m + 1, tm, hj, hk, hm, h => by
    have := it13 or n t e c k ht ht' hk (by omega) hc tm h H
    by_cases he : t + k = e
    · rw [if_pos he] at this
      obtain ⟨tm', h1, h2, h3⟩ := this
      rw [if_pos (by omega)]
      refine ⟨tm', loopE h1 (by simp), ?_, h3⟩
      rw [h2]; congr 3; omega
    · rw [if_neg he] at this
      obtain ⟨tm', h1, h2⟩ := this
      have ih := loop13 or n t e c ht ht' hc0 hc H j (k + 1) m tm' (by omega) (by omega) (by omega) h2
      by_cases hf : t + k ≤ e ∧ e - t ≤ c
      · rw [if_pos hf]
        rw [if_pos (by omega)] at ih
        obtain ⟨tm2, g1, g2⟩ := ih
        exact ⟨tm2, loopN h1 g1, g2⟩
      · rw [if_neg hf]
        rw [if_neg (by omega)] at ih
        obtain ⟨tm2, g1, g2⟩ := ih
        exact ⟨tm2, loopN h1 g1, g2⟩

theorem c13 (n : Nat) (t e c : Int) (ht : 0 ≤ t) (he : e < 18446744073709551616) (H : AHeap) : callN env (n + 70) (.func (.func 13) []) [u t, u e, i c] H = some (.tuple [i (usedS t e c).1, i (usedS t e c).2], H) := by
  rw [show n + 70 = n + 69 + 1 from rfl, opn e13]
  by_cases h1 : 2 ≤ c ∧ c ≤ 64
  · have t24 := fun H => c24 (n + 68) c H
    by_cases h2 : t ≤ 4611686018427387904
    · have h3 : ¬ (4611686018427387904 < t) := by omega
      have lp := fun tm h => loop13 (callN env (n + 69)) (n + 69) t e c ht h2 (by omega) h1.2 H (c + 1).toNat 0 (n + 69) tm (by omega) (by omega) (by omega) h
      simp only [Int.add_zero] at lp
      by_cases h4 : t ≤ e ∧ e - t ≤ c
      · have lq : ∀ tm, In13 t e c 0 tm → _ := fun tm h => by have := lp tm h; rw [if_pos h4] at this; exact this
        obtain ⟨f, hf⟩ := skol lq
        apply endN
        · simp only [a13]
          apply seqN
          · simp; rfl
          apply seqN
          · simp [t24, h1]; rfl
          apply seqN
          · simp; rfl
          apply seqN
          · simp [h3]; rfl
          apply seqX
          · apply seqN
            · simp; rfl
            · exact blkLoopR (hf _ (by constructor <;> rfl)).1
          · simp
        · simp [a13, fun tm h => (hf tm h).2.1, fun tm h => (hf tm h).2.2, usedS, h1, h2, h4]
      · have lq : ∀ tm, In13 t e c 0 tm → _ := fun tm h => by have := lp tm h; rw [if_neg h4] at this; exact this
        obtain ⟨f, hf⟩ := skol lq
        apply endN
        · simp only [a13]
          apply seqN
          · simp; rfl
          apply seqN
          · simp [t24, h1]; rfl
          apply seqN
          · simp; rfl
          apply seqN
          · simp [h3]; rfl
          apply seqN
          · apply seqN
            · simp; rfl
            · exact blkLoopX (hf _ (by constructor <;> rfl)).1
          · rfl
        · simp [a13, fun tm h => (hf tm h).2, usedS, h1, h2, h4]
    · have h3 : 4611686018427387904 < t := by omega
      simp [a13, t24, h1, h2, h3, usedS]
  · simp [a13, c24, h1, usedS]

end Go.Proofs.Ytmdppcokjdpnoaa
