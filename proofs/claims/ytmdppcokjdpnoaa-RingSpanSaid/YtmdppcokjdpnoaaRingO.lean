/- Walks of the ring laws: RingSpan's round, one sequence within the other. -/
import Derived.Test.YtmdppcokjdpnoaaRingN
namespace Go.Proofs.Ytmdppcokjdpnoaa
open Go Go.Vm

attribute [local simp] endF aCode aSteps aStep awanted aOp ev List.replicate aRess aRes1 aLeave tup aBin aUn aArith ASt.put ile_eq ilt_eq ieq_eq aPart List.getElem?_cons_zero

/-- The first k positions from t on, as numbers. -/
def firstsI (t : Int) (k : Nat) : List Int := (List.range k).map fun (j : Nat) => t + (j : Int)
theorem firstsI_u (t : Int) (k : Nat) : (firstsI t k).map u = firsts t k := by simp [firstsI, firsts]
theorem firstsI_len (t : Int) (k : Nat) : (firstsI t k).length = k := by simp [firstsI]
theorem firsts_take (t : Int) (j k : Nat) (h : j ≤ k) : (firsts t k).take j = firsts t j := by
  unfold firsts
  rw [← List.map_take, List.take_range, Nat.min_eq_left h]
theorem firsts_at (t : Int) (k j : Nat) (h : j < k) : (firsts t k)[j]? = some (u (t + j)) := by
  simp [firsts, h]

theorem Rd.move {H H' : AHeap} {v : AVal} {l : List AVal} (h : Rd H v l) (hg : ∀ A o, H.get A = some o → H'.get A = some o) : Rd H' v l := by
  rcases h with h | ⟨R, ver, off, kcap, ex, cells, h1, h2, h3⟩
  · exact .inl h
  · refine .inr ⟨R, ver, off, kcap, ex, cells, h1, ?_, h3⟩
    unfold AHeap.rowAt at h2 ⊢
    cases hx : H.get R with
    | none => rw [hx] at h2; cases h2
    | some o => rw [hg R o hx]; rw [hx] at h2; exact h2

theorem _root_.Go.Vm.SliceIs.lift {H H' : AHeap} {base base' : Nat} {v : AVal} {l : List AVal} (h : SliceIs H base v l) (hb : base' ≤ base) (hn : H.next ≤ H'.next) (hg : ∀ A, base ≤ A → A < H.next → H'.get A = H.get A) : SliceIs H' base' v l := by
  rcases h with h | ⟨R, ver, vs, h1, h2, h3, h4, h5⟩
  · exact .inl h
  · exact .inr ⟨R, ver, vs, by omega, by omega, h3, by rw [hg R h1 h2]; exact h4, h5⟩

/-- Two first parts are the same. -/
theorem c21f (n : Nat) (H : AHeap) (va vb : AVal) (t : Int) (k : Nat) (hk : k ≤ 70) (ra : Rd H va (firsts t k)) (rb : Rd H vb (firsts t k)) : callN env (n + 72) (.func (.func 21) []) [va, vb] H = some (abool true, H) := by
  have := c21 n H va vb (firstsI t k) (firstsI t k) (by rw [firstsI_u]; exact ra) (by rw [firstsI_u]; exact rb) (by rw [firstsI_len]; exact hk)
  rw [this]
  simp

def rf4 : ACode := fstC (sndC (fstC (sndC (sndC (sndC (sndC (sndC (sndC (sndC (sndC (sndC (sndC (sndC (a4.code))))))))))))))

structure Tm4 (A7 A8 A18 : Nat) (tm : List AVal) : Prop where
  len : tm.length = 140
  t7 : tm[7]? = some (p A7)
  t8 : tm[8]? = some (p A8)
  t18 : tm[18]? = some (p A18)

def loop4 (tm : List AVal) (D : Nat) : ALoop := newLoop tm [102] (rfA rf4) (rfB rf4) D

set_option maxHeartbeats 4000000 in
theorem y4a (or : Oracle) (n A7 A8 A18 B1 B2 : Nat) (tm : List AVal) (ht : Tm4 A7 A8 A18 tm) (x v' : AVal) (B G : AHeap) (g8' : B.rowAt A8 0 = some [spanF B1 B2]) (q1 : or (.func (.func 20) []) [spanF B1 B2, i 3] B = some (.tuple [v', abool true], G)) :
    ∃ tm1, aCode or false n (fstC (fstC (rfB rf4))) { tm := (tm.set 102 x).set 19 x, H := B, marks := [] } = some (.normal, ⟨tm1, G, []⟩) ∧ tm1.length = 140 ∧ tm1[7]? = some (p A7) ∧ tm1[18]? = some (p A18) ∧ tm1[19]? = some x ∧ tm1[20]? = some v' ∧ tm1[21]? = some (abool true) := by
  obtain ⟨len, t7, t8, t18⟩ := ht
  refine ⟨?w, ?a1, ?a2, ?a3, ?a4, ?a5, ?a6, ?a7⟩
  case a1 =>
    apply regN
    iterate 7 (apply stepN; · simp [-getElem?_pos, List.getElem?_set, len, t8, g8', q1]; rfl)
    exact nilN (or := or)
  all_goals simp [-getElem?_pos, List.getElem?_set, len, t7, t18]

set_option maxHeartbeats 4000000 in
theorem y4b (or : Oracle) (n A7 A18 R ver off kc k s : Nat) (ex : Bool) (x v' w3 : AVal) (cells : List AVal) (tm1 : List AVal) (len1 : tm1.length = 140) (u7 : tm1[7]? = some (p A7)) (u18 : tm1[18]? = some (p A18)) (u19 : tm1[19]? = some x) (u20 : tm1[20]? = some v') (u21 : tm1[21]? = some (abool true))
    (q : Int) (hx : x = u q) (G : AHeap) (g7' : G.rowAt A7 0 = some [.slice R ver off s kc ex 1]) (g18' : G.rowAt A18 0 = some [i k]) (hk : k < s) (c2 : G.rowAt R ver = some cells) (c3 : off + k + 1 ≤ cells.length) (c4 : cells[off + k]? = some x)
    (s1 : aSliceS 1 (.slice R ver off s kc ex 1) none (some (.raw (.int .i64 ((min 3 s : Nat) : Int)))) none = some w3) (y21 : or (.func (.func 21) []) [v', w3] G = some (abool true, G)) :
    ∃ tm2, aCode or false n (fstC (fstC (sndC (fstC (rfB rf4))))) ⟨tm1, G, []⟩ = some (.normal, ⟨tm2, G, []⟩) ∧ tm2.length = 140 ∧ tm2[18]? = some (p A18) ∧ tm2[133]? = some (abool false) := by
  have hk' : ¬ ((s : Nat) : Int) ≤ k := by omega
  have hmin : (if ((s : Nat) : Int) < 3 then ((s : Nat) : Int) else 3) = ((min 3 s : Nat) : Int) := by split <;> omega
  subst hx
  refine ⟨?w, ?a1, ?a2, ?a3, ?a4⟩
  case a1 =>
    apply regN
    iterate 26 (apply stepN; · simp [-getElem?_pos, -getElem!_pos, List.getElem?_set, len1, u7, u18, u19, u20, u21, g7', g18', hk', c2, c3, c4, hk, aMinMax, hmin, s1, y21, aLenS]; rfl)
    exact nilN (or := or)
  all_goals simp [-getElem?_pos, List.getElem?_set, len1, u18]

set_option maxHeartbeats 4000000 in
theorem y4 (n A7 A8 A18 B1 B2 L D : Nat) (hAL : A18 < L) (hA7 : A7 < A18) (hA8 : A8 < A18) (hB1 : B1 < A18) (hB2 : B2 < A18) (tm : List AVal) (ht : Tm4 A7 A8 A18 tm) (t e : Int) (h0 : 0 ≤ t) (he : e < 18446744073709551616)
    (k : Nat) (hk : k < spanLen t e) (w : AVal) (H : AHeap) (hL : L < H.next) (r7 : Row1 H A7 w) (rw' : SliceIs H 0 w (firsts t (spanLen t e))) (rA : ∀ R ver off len kc ex esz, w = .slice R ver off len kc ex esz → R < A18)
    (r8 : Row1 H A8 (spanF B1 B2)) (r1 : Row1 H B1 (u t)) (r2 : Row1 H B2 (u e)) (r18 : Row1 H A18 (i k)) (rL : H.get L = some (.loop (loop4 tm D))) :
    ∃ H', callN env (n + 74) (.yield L) [u (t + k)] H = some (abool true, H') ∧ H'.get L = some (.loop (loop4 tm D)) ∧ Row1 H' A18 (i ((k : Int) + 1)) ∧ H.next ≤ H'.next ∧ ∀ A, A < H.next → A ≠ A18 → A ≠ L → H'.get A = H.get A := by
  obtain ⟨len, t7, t8, t18⟩ := ht
  have hs := spanLen_le t e
  have hcall : callN env (n + 74) (.yield L) [u (t + k)] H = callY (n + 73) (callN env (n + 73)) L [u (t + k)] H := rfl
  rw [hcall]
  have ha : aCode (callN env (n + 73)) false (n + 73) (loop4 tm D).assign { tm := setParams (loop4 tm D).tmps (loop4 tm D).params [u (t + k)], H := H, marks := [] } = some (.normal, { tm := (tm.set 102 (u (t + k))).set 19 (u (t + k)), H := H, marks := [] }) := by
    simp [-getElem?_pos, loop4, newLoop, setParams, rfA, rf4, fstC, sndC, a4, List.getElem?_set, len]
  have bA : ∀ A, A ≠ L → (H.set L (.loop { loop4 tm D with state := .busy })).get A = H.get A := fun A hA => AHeap.get_set_ne _ _ hA
  have bL : (H.set L (.loop { loop4 tm D with state := .busy })).get L = some (.loop { loop4 tm D with state := .busy }) := AHeap.get_set_same _ _ _
  have bN : (H.set L (.loop { loop4 tm D with state := .busy })).next = H.next := rfl
  generalize hB : H.set L (.loop { loop4 tm D with state := .busy }) = B at bA bL bN
  have b1 : Row1 B B1 (u t) := by unfold Row1; rw [bA _ (by omega)]; exact r1
  have b2 : Row1 B B2 (u e) := by unfold Row1; rw [bA _ (by omega)]; exact r2
  obtain ⟨v', G, q1, q2, q3⟩ := c20 (n + 1) t e h0 he B1 B2 3 B (by omega) (by omega) b1 b2
  have hmost : most 3 = 3 := by decide
  rw [hmost] at q3
  have gA : ∀ A, A < H.next → A ≠ L → G.get A = H.get A := fun A a1 a2 => by rw [q2.get A (by omega), bA A a2]
  have gL : G.get L = some (.loop { loop4 tm D with state := .busy }) := by rw [q2.get L (by omega)]; exact bL
  have gN : H.next ≤ G.next := by have := q2.next; omega
  have g7 : Row1 G A7 w := by unfold Row1; rw [gA _ (by omega) (by omega)]; exact r7
  have g8 : Row1 B A8 (spanF B1 B2) := by unfold Row1; rw [bA _ (by omega)]; exact r8
  have g18 : Row1 G A18 (i k) := by unfold Row1; rw [gA _ (by omega) (by omega)]; exact r18
  have gw : Rd G w (firsts t (spanLen t e)) := by
    rcases rw' with h | ⟨R, ver, vs, h1, h2, h3, h4, h5⟩
    · exact .inl h
    · have hR := rA _ _ _ _ _ _ _ h3
      exact .inr ⟨R, ver, 0, _, false, _, h3, SliceIs.rowAt (by rw [gA _ (by omega) (by omega)]; exact h4) h5, by omega, Nat.le_refl _, by simp⟩
  have hlen := gw.lenS
  rw [firsts_len] at hlen
  obtain ⟨R, ver, off, kc, ex, cells, c1, c2, c3, c4⟩ := gw.at (firsts_at t _ k hk)
  rw [firsts_len] at c1
  obtain ⟨w3, s1, s2⟩ := gw.first (k := min 3 (spanLen t e)) (by rw [firsts_len]; omega)
  rw [firsts_take _ _ _ (by omega)] at s2
  have y21 := c21f (n + 1) G v' w3 t _ (by omega) q3.rd s2
  have w18 := g18.write (v' := i ((k : Int) + 1)) rfl
  have wk : wrapF .i64 ((k : Int) + 1) = (k : Int) + 1 := wI (by omega) (by omega)
  have g7' := g7.at
  have g8' := g8.at
  have g18' := g18.at
  simp only [Nat.add_assoc, Nat.reduceAdd] at q1 y21
  generalize callN env (n + 73) = or at q1 y21 ha
  refine ⟨(G.set A18 (.row [some (0, [i ((k : Int) + 1)])])).set L (.loop (loop4 tm D)), ?_, AHeap.get_set_same _ _ _, ?_, gN, fun A a1 a2 a3 => ?_⟩
  · have hbody : ∃ tm', aCode or false (n + 73) (loop4 tm D).body { tm := (tm.set 102 (u (t + k))).set 19 (u (t + k)), H := B, marks := [] } = some (.normal, { tm := tm', H := G.set A18 (.row [some (0, [i ((k : Int) + 1)])]), marks := [] }) := by
      obtain ⟨tm1, s1', len1, u7, u18, u19, u20, u21⟩ := y4a or (n + 73) A7 A8 A18 B1 B2 tm ⟨len, t7, t8, t18⟩ (u (t + k)) v' B G g8' q1
      obtain ⟨tm2, s2', len2, v18, v133⟩ := y4b or (n + 73) A7 A18 R ver off kc k (spanLen t e) ex (u (t + k)) v' w3 cells tm1 len1 u7 u18 u19 u20 u21 (t + k) rfl G (by rw [g7', c1]) g18' hk c2 (by simpa using c3) (by simpa using c4) (by rw [← c1]; exact s1) y21
      refine ⟨?w, ?a1⟩
      case a1 =>
        apply blkN
        apply seqN s1'
        apply seqN
        · apply seqN s2'
          simp [-getElem?_pos, v133]; rfl
        · apply regN
          iterate 3 (apply stepN; · simp [-getElem?_pos, List.getElem?_set, len2, v18, g18', wk, AVal.cells, w18]; rfl)
          exact nilN (or := or)
    obtain ⟨tm', hb'⟩ := hbody
    exact yieldT rL rfl rfl ha rL rfl (by rw [hB]; exact hb') (by rw [AHeap.get_set_ne _ _ (by omega)]; exact gL)
  · unfold Row1; rw [AHeap.get_set_ne _ _ (by omega)]; exact AHeap.get_set_same _ _ _
  · rw [AHeap.get_set_ne _ _ a3, AHeap.get_set_ne _ _ a2]; exact gA A a1 a3

end Go.Proofs.Ytmdppcokjdpnoaa
