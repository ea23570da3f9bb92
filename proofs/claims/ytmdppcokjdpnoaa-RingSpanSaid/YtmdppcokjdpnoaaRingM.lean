/- Walks of the ring laws: the reference's Span, and same. -/
import Derived.Test.YtmdppcokjdpnoaaRingK
namespace Go.Proofs.Ytmdppcokjdpnoaa
open Go Go.Vm

attribute [local simp] endF aCode aSteps aStep awanted aOp ev List.replicate aRess aRes1 aLeave tup aBin aUn aArith ASt.put ile_eq ilt_eq ieq_eq aPart List.getElem?_cons_zero

/-! ### Span -/

def body18 : ACode := fstC (fstC (sndC (fstC (sndC (sndC a18.code)))))

structure In18 (e q : Int) (v : AVal) (tm : List AVal) : Prop where
  len : tm.length = 23
  t1 : tm[1]? = some (u e)
  t5 : tm[5]? = some v
  t6 : tm[6]? = some (u q)

theorem it18 (or : Oracle) (n : Nat) (e q : Int) (l : List AVal) (hl : l.length < 64) (hq : 0 ≤ q) (hqe : q < e) (he : e < 18446744073709551616) (base : Nat) (v : AVal) (tm : List AVal) (h : In18 e q v tm) (H : AHeap) (hb : base ≤ H.next) (hv : SliceIs H base v l) :
    ∃ tm' H' v', aCode or true n body18 ⟨tm, H, []⟩ = some (.normal, ⟨tm', H', []⟩) ∧ In18 e (q + 1) v' tm' ∧ SliceIs H' base v' (l ++ [u q]) ∧ H.next ≤ H'.next ∧ ∀ A, A < base → H'.get A = H.get A := by
  obtain ⟨len, t1, t5, t6⟩ := h
  have cX : (H.push (.row [some (0, [u q])])).rowAt H.next 0 = some [u q] := by unfold AHeap.rowAt; rw [AHeap.get_push_same]; rfl
  have cv : SliceIs (H.push (.row [some (0, [u q])])) base v l := hv.move (by simp) fun A _ hA => AHeap.get_push_ne _ _ (by omega)
  obtain ⟨v', H2, e1, e2, e3, e4⟩ := append1 cv (by simp; omega) cX rfl (by omega)
  have hlen := hv.lenS
  have w : wrapF .u64 (q + 1) = q + 1 := wU (by omega) (by omega)
  have hl' : (l.length : Int) < 64 := by omega
  have hu : AVal.cells (u q) = [u q] := rfl
  refine ⟨?w, H2, v', ?a1, ⟨?a2, ?a3, ?a4, ?a5⟩, e2, by simp at e3; omega, fun A hA => by rw [e4 A hA, AHeap.get_push_ne _ _ (by omega)]⟩
  case a1 =>
    simp [-getElem?_pos, body18, a18, fstC, sndC, List.getElem?_set, len, t1, t5, t6, hqe, hlen, hl', repl, aFill, spl, hu, e1, w]
    rfl
  all_goals simp [-getElem?_pos, List.getElem?_set, len, t1]

theorem end18 (or : Oracle) (n : Nat) (e q : Int) (l : List AVal) (hx : ¬ (q < e ∧ l.length < 64)) (base : Nat) (v : AVal) (tm : List AVal) (h : In18 e q v tm) (H : AHeap) (hv : SliceIs H base v l) :
    ∃ tm', aCode or true n body18 ⟨tm, H, []⟩ = some (.exit 0, ⟨tm', H, []⟩) ∧ tm'.length = 23 ∧ tm'[5]? = some v := by
  obtain ⟨len, t1, t5, t6⟩ := h
  have hlen := hv.lenS
  by_cases h1 : q < e
  · have h2 : ¬ ((l.length : Int) < 64) := by omega
    refine ⟨?w, ?a1, ?a2, ?a3⟩
    case a1 =>
      simp [-getElem?_pos, body18, a18, fstC, sndC, List.getElem?_set, len, t1, t5, t6, h1, h2, hlen]
      rfl
    all_goals simp [-getElem?_pos, List.getElem?_set, len, t5]
  · refine ⟨?w2, ?b1, ?b2, ?b3⟩
    case b1 =>
      simp [-getElem?_pos, body18, a18, fstC, sndC, List.getElem?_set, len, t1, t5, t6, h1]
      rfl
    all_goals simp [-getElem?_pos, List.getElem?_set, len, t5]

theorem loop18 (or : Oracle) (n : Nat) (t e : Int) (ht : 0 ≤ t) (he : e < 18446744073709551616) (base : Nat) :
    ∀ (j k m : Nat) (tm : List AVal) (H : AHeap) (v : AVal), k + j = spanLen t e → j < m → In18 e (t + k) v tm → base ≤ H.next → SliceIs H base v (firsts t k) →
      ∃ tm' H' v', aLoop (aCode or true n body18) m ⟨tm, H, []⟩ = some (.exit 0, ⟨tm', H', []⟩) ∧ tm'.length = 23 ∧ tm'[5]? = some v' ∧ SliceIs H' base v' (firsts t (spanLen t e)) ∧ H.next ≤ H'.next ∧ ∀ A, A < base → H'.get A = H.get A
  | 0, k, m + 1, tm, H, v, hj, _, h, hb, hv => by
    have : k = spanLen t e := by omega
    subst this
    obtain ⟨tm', h1, h2, h3⟩ := end18 or n e _ _ (by rw [firsts_len]; have : ¬ (spanLen t e < spanLen t e) := by omega
                                                     rw [lt_spanLen] at this; omega) base v tm h H hv
    exact ⟨tm', H, v, loopE h1 (by simp), h2, h3, hv, Nat.le_refl _, fun _ _ => rfl⟩
  | j + 1, k, m + 1, tm, H, v, hj, hm, h, hb, hv => by
    obtain ⟨k1, k2, k3⟩ := lt_spanLen.1 (show k < spanLen t e by omega)
    obtain ⟨tm', H', v', h1, h2, h3, h4, h5⟩ := it18 or n e (t + k) (firsts t k) (by rw [firsts_len]; omega) (by omega) (by omega) he base v tm h H hb hv
    rw [← firsts_succ] at h3
    rw [show t + (k : Int) + 1 = t + ((k + 1 : Nat) : Int) by omega] at h2
    obtain ⟨tm2, H2, v2, g1, g2, g3, g4, g5, g6⟩ := loop18 or n t e ht he base j (k + 1) m tm' H' v' (by omega) (by omega) h2 (by omega) h3
    exact ⟨tm2, H2, v2, loopN h1 g1, g2, g3, g4, by omega, fun A hA => by rw [g6 A hA, h5 A hA]⟩

theorem c18 (n : Nat) (t e : Int) (ht : 0 ≤ t) (he : e < 18446744073709551616) (H : AHeap) :
    ∃ v H', callN env (n + 66) (.func (.func 18) []) [u t, u e] H = some (v, H') ∧ Ext H H' ∧ SliceIs H' H.next v (firsts t (spanLen t e)) := by
  have hl := spanLen_le t e
  rw [show n + 66 = n + 65 + 1 from rfl, opn e18]
  have lp := fun tm h => loop18 (callN env (n + 65)) (n + 65) t e ht he H.next (spanLen t e) 0 (n + 65) tm H anil (by omega) (by omega) h (Nat.le_refl _) (.inl ⟨rfl, by simp [firsts]⟩)
  generalize callN env (n + 65) = or at lp
  have tm0 : In18 e (t + (0 : Nat)) anil ([u t, u e, aundef, aundef, anil, anil, u t, u t] ++ List.replicate 15 aundef) := by
    constructor
    · rfl
    · rfl
    · rfl
    · simp
  obtain ⟨tm', H', v', g1, g2, g3, g4, g5, g6⟩ := lp _ tm0
  refine ⟨v', H', ?_, ⟨g5, g6⟩, g4⟩
  apply endN
  · simp only [a18]
    apply seqN
    · simp; rfl
    apply seqN
    · simp; rfl
    apply seqN
    · apply seqN
      · simp; rfl
      · exact blkLoopX g1
    simp [-getElem?_pos, List.getElem?_set, g2, g3]; rfl
  · simp [-getElem?_pos, List.getElem?_set, g2, a18]

end Go.Proofs.Ytmdppcokjdpnoaa
