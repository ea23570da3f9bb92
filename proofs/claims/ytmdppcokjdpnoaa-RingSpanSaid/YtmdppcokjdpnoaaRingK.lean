/- Walks of the ring laws: taken, whole. -/
import Derived.Test.YtmdppcokjdpnoaaRingJ
namespace Go.Proofs.Ytmdppcokjdpnoaa
open Go Go.Vm

attribute [local simp] endF aCode aSteps aStep awanted aOp ev List.replicate aRess aRes1 aLeave tup aBin aUn aArith ASt.put ile_eq ilt_eq ieq_eq aPart List.getElem?_cons_zero

/-- The first k positions from t on. -/
def firsts (t : Int) (k : Nat) : List AVal := (List.range k).map fun (j : Nat) => u (t + (j : Int))
theorem firsts_succ (t : Int) (k : Nat) : firsts t (k + 1) = firsts t k ++ [u (t + k)] := by simp [firsts, List.range_succ]
theorem firsts_len (t : Int) (k : Nat) : (firsts t k).length = k := by simp [firsts]

/-- The rounds of taken, over what Span hands out. -/
theorem main20 (n : Nat) (t e : Int) (ht : 0 ≤ t) (he : e < 18446744073709551616) (B1 B2 N : Nat) (hB1 : B1 < N) (hB2 : B2 < N) (m : Nat) (hm : 1 ≤ m) (hm' : m ≤ 70) (tm : List AVal) (htm : Tm20 N tm) (Hb : AHeap)
    (hn : Hb.next = N + 4) (r1 : Row1 Hb B1 (u t)) (r2 : Row1 Hb B2 (u e)) (r3 : Row1 Hb N (i m)) (r6 : Row1 Hb (N + 1) anil) (rL : Hb.get (N + 3) = some (.loop (loop20 tm (N + 2)))) :
    ∃ v H', callN env (n + 71) (.func (.func 25) [p B1, p B2]) [.yield (N + 3)] Hb = some (.tuple [], H') ∧ SliceIs H' (N + 4) v (firsts t (min m (spanLen t e))) ∧ Row1 H' (N + 1) v ∧ Hb.next ≤ H'.next ∧
      (∀ A, A < N + 4 → A ≠ N + 1 → A ≠ N + 3 → H'.get A = Hb.get A) ∧
      (H'.get (N + 3) = some (.loop (loop20 tm (N + 2))) ∨ H'.get (N + 3) = some (.loop { loop20 tm (N + 2) with state := .done, pending := some (.exit 0) })) := by
  have f := c25 (n + 1) (.yield (N + 3)) B1 B2 t e ht he
    (fun k Hx => k < m ∧ Hb.next ≤ Hx.next ∧ (∃ v, Row1 Hx (N + 1) v ∧ SliceIs Hx (N + 4) v (firsts t k)) ∧ Hx.get (N + 3) = some (.loop (loop20 tm (N + 2))) ∧ ∀ A, A < N + 4 → A ≠ N + 1 → A ≠ N + 3 → Hx.get A = Hb.get A)
    (fun Hx => m ≤ spanLen t e ∧ Hb.next ≤ Hx.next ∧ (∃ v, Row1 Hx (N + 1) v ∧ SliceIs Hx (N + 4) v (firsts t m)) ∧ Hx.get (N + 3) = some (.loop { loop20 tm (N + 2) with state := .done, pending := some (.exit 0) }) ∧ ∀ A, A < N + 4 → A ≠ N + 1 → A ≠ N + 3 → Hx.get A = Hb.get A)
    (fun k Hx _ ⟨_, _, _, _, i5⟩ => ⟨Row1.at (by unfold Row1; rw [i5 _ (by omega) (by omega) (by omega)]; exact r1), Row1.at (by unfold Row1; rw [i5 _ (by omega) (by omega) (by omega)]; exact r2)⟩)
    (fun k Hx hk ⟨i1, i2, ⟨v, i3, i4⟩, i5, i6⟩ => by
      have z3 : Row1 Hx N (i m) := by unfold Row1; rw [i6 _ (by omega) (by omega) (by omega)]; exact r3
      obtain ⟨v', H', y1, y2, y3, y4, y5⟩ := y20 (n + 69) N (N + 3) (N + 2) (N + 4) (by omega) (by omega) tm htm m (t + k) v (firsts t k) Hx (by omega) (by rw [firsts_len]; omega) z3 i3 i4 i5
      rw [firsts_len] at y5
      rw [← firsts_succ] at y1
      refine ⟨H', ?_⟩
      by_cases hit : (k : Int) + 1 = m
      · rw [if_pos hit] at y5
        have : k + 1 = m := by omega
        exact .inr ⟨y5.1, by omega, by omega, ⟨v', y3, this ▸ y1⟩, y5.2, fun A a1 a2 a3 => (y4 A a1 a2 a3).trans (i6 A a1 a2 a3)⟩
      · rw [if_neg hit] at y5
        exact .inl ⟨y5.1, by omega, by omega, ⟨v', y3, y1⟩, y5.2, fun A a1 a2 a3 => (y4 A a1 a2 a3).trans (i6 A a1 a2 a3)⟩)
    Hb ⟨by omega, Nat.le_refl _, ⟨anil, r6, .inl ⟨rfl, rfl⟩⟩, rL, fun _ _ _ _ => rfl⟩
  obtain ⟨H', f1, ⟨f2, f3, ⟨v, f4, f5⟩, f6, f7⟩ | ⟨f2, f3, ⟨v, f4, f5⟩, f6, f7⟩⟩ := f
  · exact ⟨v, H', f1, by rw [Nat.min_eq_right (by omega)]; exact f5, f4, f3, f7, .inl f6⟩
  · exact ⟨v, H', f1, by rw [Nat.min_eq_left f2]; exact f5, f4, f3, f7, .inr f6⟩

abbrev spanF (B1 B2 : Nat) : AVal := .func (.func 25) [p B1, p B2]

/-- The first so many. -/
def most (m : Int) : Nat := (min m 70).toNat

set_option maxHeartbeats 2000000 in
theorem c20 (n : Nat) (t e : Int) (ht : 0 ≤ t) (he : e < 18446744073709551616) (B1 B2 : Nat) (m : Int) (H : AHeap) (hB1 : B1 < H.next) (hB2 : B2 < H.next) (r1 : Row1 H B1 (u t)) (r2 : Row1 H B2 (u e)) :
    ∃ v H', callN env (n + 72) (.func (.func 20) []) [spanF B1 B2, i m] H = some (.tuple [v, abool true], H') ∧ Ext H H' ∧ SliceIs H' H.next v (firsts t (min (most m) (spanLen t e))) := by
  rw [show n + 72 = n + 71 + 1 from rfl, opn e20]
  generalize hN : H.next = N
  -- the first cells
  have g3 : Row1 ((H.push (row1 (i m))).push (row1 anil)) N (i m) := by unfold Row1; rw [AHeap.get_push_ne _ _ (by simp; omega), ← hN, AHeap.get_push_same]
  have g6 : Row1 ((H.push (row1 (i m))).push (row1 anil)) (N + 1) anil := by unfold Row1; rw [show N + 1 = (H.push (row1 (i m))).next by simp; omega, AHeap.get_push_same]
  have gA : ∀ A, A < N → ((H.push (row1 (i m))).push (row1 anil)).get A = H.get A := fun A hA => by rw [AHeap.get_push_ne _ _ (by simp; omega), AHeap.get_push_ne _ _ (by omega)]
  have gN : ((H.push (row1 (i m))).push (row1 anil)).next = N + 2 := by simp; omega
  generalize hG : (H.push (row1 (i m))).push (row1 anil) = G at g3 g6 gA gN
  have w3 := g3.write (v' := i (min m 70)) rfl
  have k3 : Row1 (G.set N (row1 (i (min m 70)))) N (i (min m 70)) := AHeap.get_set_same _ _ _
  have k6 : Row1 (G.set N (row1 (i (min m 70)))) (N + 1) anil := by unfold Row1; rw [AHeap.get_set_ne _ _ (by omega)]; exact g6
  have kA : ∀ A, A < N → (G.set N (row1 (i (min m 70)))).get A = H.get A := fun A hA => by rw [AHeap.get_set_ne _ _ (by omega), gA A hA]
  have kN : (G.set N (row1 (i (min m 70)))).next = N + 2 := gN
  have g3' := g3.at
  generalize G.set N (row1 (i (min m 70))) = K at w3 k3 k6 kA kN
  have k3' := k3.at
  have hmin : (if 70 < m then (70 : Int) else m) = min m 70 := by rw [Int.min_def]; split <;> split <;> omega
  have hpush : ((H.push (.row [some (0, [i m])])).push (.row [some (0, [anil])])) = G := hG
  by_cases hm : min m 70 < 1
  · have h0 : most m = 0 := by unfold most; omega
    refine ⟨anil, K, ?_, ⟨by omega, fun A hA => kA A (by omega)⟩, .inl ⟨rfl, by rw [h0]; simp [firsts]⟩⟩
    apply endN
    · simp only [a20]
      apply seqN
      · simp [AVal.cells]; rfl
      apply seqN
      · simp; rfl
      apply seqN
      · simp [aEqP]; rfl
      apply seqN
      · simp [hN, hpush, g3', aMinMax, hmin, AVal.cells, w3]; rfl
      apply seqR
      simp [k3', hm]; rfl
    · simp [a20]
  · have hmm : ((most m : Nat) : Int) = min m 70 := by unfold most; omega
    have hm1 : 1 ≤ most m := by omega
    have hm2 : most m ≤ 70 := by omega
    have enter : ∀ tm, Tm20 N tm → ∃ x : AVal × AHeap × AHeap × AHeap × Option ACode, callN env (n + 71) (spanF B1 B2) [.yield (K.next + 1)] (K.enter tm [15] (rfA rf20) (rfB rf20)) = some (.tuple [], x.2.1) ∧
        (x.2.2.2.2 = none ∨ x.2.2.2.2 = some (.exit 0)) ∧ aEndLoop x.2.1 (K.next + 1) = some (x.2.2.2.2, x.2.2.1) ∧ aLeave [K.next] x.2.2.1 = some x.2.2.2.1 ∧ x.2.2.1.rowAt (N + 1) 0 = some [x.1] ∧
        Ext H x.2.2.2.1 ∧ SliceIs x.2.2.2.1 N x.1 (firsts t (min (most m) (spanLen t e))) := by
      intro tm htm
      have en : (K.enter tm [15] (rfA rf20) (rfB rf20)).next = N + 4 := by simp [AHeap.enter, kN]
      have e0 : ∀ A, A < N + 2 → (K.enter tm [15] (rfA rf20) (rfB rf20)).get A = K.get A := fun A hA => by
        unfold AHeap.enter; rw [AHeap.get_push_ne _ _ (by simp; omega), AHeap.get_push_ne _ _ (by omega)]
      have eD : (K.enter tm [15] (rfA rf20) (rfB rf20)).get (N + 2) = some (.defs false) := by
        unfold AHeap.enter; rw [AHeap.get_push_ne _ _ (by simp; omega), ← kN, AHeap.get_push_same]
      have eL : (K.enter tm [15] (rfA rf20) (rfB rf20)).get (N + 3) = some (.loop (loop20 tm (N + 2))) := by
        unfold AHeap.enter; rw [show N + 3 = (K.push (.defs false)).next by simp; omega, AHeap.get_push_same, kN]; rfl
      rw [kN, show N + 2 + 1 = N + 3 from rfl]
      generalize K.enter tm [15] (rfA rf20) (rfB rf20) = Hb at en e0 eD eL
      obtain ⟨v, H', q1, q2, q3, q4, q5, q6⟩ := main20 n t e ht he B1 B2 N (by omega) (by omega) (most m) hm1 hm2 tm htm Hb en (by unfold Row1; rw [e0 _ (by omega), kA _ (by omega)]; exact r1) (by unfold Row1; rw [e0 _ (by omega), kA _ (by omega)]; exact r2)
        (by unfold Row1; rw [e0 _ (by omega), hmm]; exact k3) (by unfold Row1; rw [e0 _ (by omega)]; exact k6) eL
      have fin : ∀ (j : Option ACode) (H'' : AHeap), (j = none ∨ j = some (.exit 0)) → aEndLoop H' (N + 3) = some (j, H'') → (∀ A, A ≠ N + 3 → H''.get A = H'.get A) → H''.next = H'.next →
          ∃ x : AVal × AHeap × AHeap × AHeap × Option ACode, callN env (n + 71) (spanF B1 B2) [.yield (N + 3)] Hb = some (.tuple [], x.2.1) ∧
            (x.2.2.2.2 = none ∨ x.2.2.2.2 = some (.exit 0)) ∧ aEndLoop x.2.1 (N + 3) = some (x.2.2.2.2, x.2.2.1) ∧ aLeave [N + 2] x.2.2.1 = some x.2.2.2.1 ∧ x.2.2.1.rowAt (N + 1) 0 = some [x.1] ∧
            Ext H x.2.2.2.1 ∧ SliceIs x.2.2.2.1 N x.1 (firsts t (min (most m) (spanLen t e))) := fun j H'' hj hend hg hnx => by
        refine ⟨(v, H', H'', H''.set (N + 2) (.defs true), j), q1, hj, hend, leave1 (by rw [hg _ (by omega), q5 _ (by omega) (by omega) (by omega), eD]), Row1.at (by unfold Row1; rw [hg _ (by omega)]; exact q3), ⟨?_, fun A hA => ?_⟩, ?_⟩
        · show H.next ≤ H''.next; omega
        · show (H''.set (N + 2) (.defs true)).get A = H.get A
          rw [AHeap.get_set_ne _ _ (by omega), hg _ (by omega), q5 _ (by omega) (by omega) (by omega), e0 _ (by omega), kA _ (by omega)]
        · have : SliceIs (H''.set (N + 2) (.defs true)) (N + 4) v (firsts t (min (most m) (spanLen t e))) := q2.move (by show H'.next ≤ H''.next; omega) fun A hA _ => by rw [AHeap.get_set_ne _ _ (by omega), hg _ (by omega)]
          rcases this with h | ⟨R, ver, vs, h1, h2⟩
          · exact .inl h
          · exact .inr ⟨R, ver, vs, by omega, h2⟩
      rcases q6 with q6 | q6
      · exact fin none _ (.inl rfl) (endLoopR q6 (by simp [loop20, newLoop])) (fun A hA => AHeap.get_set_ne _ _ hA) rfl
      · exact fin (some (.exit 0)) _ (.inr rfl) (endLoopR q6 (by simp)) (fun A hA => AHeap.get_set_ne _ _ hA) rfl
    obtain ⟨f, hf⟩ := skol enter
    have blk : ∀ (st : ASt) (hst : Tm20 N st.tm) (hH : st.H = K) (h14 : ev st.tm (.t 14) = spanF B1 B2), aCode (callN env (n + 71)) true (n + 71) (.block 0 (.rangeFunc (.t 14) [15] (rfA rf20) (rfB rf20))) st = some (.normal, { st with H := (f st.tm hst).2.2.1, marks := K.next :: st.marks }) := fun st hst hH h14 => by
      obtain ⟨x1, x2, x3, _⟩ := hf st.tm hst
      subst hH
      rcases x2 with x2 | x2
      · rw [x2] at x3; exact blkN (rfN h14 x1 x3)
      · rw [x2] at x3; exact blkX (rfX h14 x1 x3)
    have hrow : ∀ tm (h : Tm20 N tm), (f tm h).2.2.1.rowAt (N + 1) 0 = some [(f tm h).1] := fun tm h => (hf tm h).2.2.2.2.1
    have hleave : ∀ tm (h : Tm20 N tm), aLeave [K.next] (f tm h).2.2.1 = some (f tm h).2.2.2.1 := fun tm h => (hf tm h).2.2.2.1
    refine ⟨?v, ?G, ?a1, ?a2⟩
    case a1 =>
      apply endN
      · simp only [a20]
        apply seqN
        · simp [AVal.cells]; rfl
        apply seqN
        · simp; rfl
        apply seqN
        · simp [aEqP]; rfl
        apply seqN
        · simp [hN, hpush, g3', aMinMax, hmin, AVal.cells, w3]; rfl
        apply seqN
        · simp [k3', hm]; rfl
        apply seqN
        · apply seqN
          · simp; rfl
          · exact blk _ (by constructor <;> simp [hN]) rfl (by simp)
        simp [hN, hrow]; rfl
      · simp [-aLeave, hleave, a20]
        constructor
        · rfl
        · rfl
    case a2 => exact ⟨(hf _ _).2.2.2.2.2.1, (hf _ _).2.2.2.2.2.2⟩

end Go.Proofs.Ytmdppcokjdpnoaa
