/- Walks of the ring functions: Owner, whole. -/
import Derived.Test.YtmdppcokjdpnoaaRingE
namespace Go.Proofs.Ytmdppcokjdpnoaa
open Go Go.Vm

attribute [local simp] endF aCode aSteps aStep awanted aOp ev List.replicate aRess aRes1 aLeave tup aBin aUn aArith ASt.put ile_eq ilt_eq ieq_eq aPart List.getElem?_cons_zero

/-- The heap has grown. -/
structure Ext (H H' : AHeap) : Prop where
  next : H.next ≤ H'.next
  get : ∀ A, A < H.next → H'.get A = H.get A

theorem Ext.refl (H : AHeap) : Ext H H := ⟨Nat.le_refl _, fun _ _ => rfl⟩
theorem Ext.trans {H H' H'' : AHeap} (h : Ext H H') (h' : Ext H' H'') : Ext H H'' := ⟨Nat.le_trans h.next h'.next, fun A hA => by rw [h'.get A (Nat.lt_of_lt_of_le hA h.next), h.get A hA]⟩

abbrev row1 (v : AVal) : AObj := .row [some (0, [v])]

theorem c19 (n : Nat) (t e : Int) (H : AHeap) : callN env (n + 1) (.func (.func 19) []) [u t, u e] H = some (.func (.func 25) [p H.next, p (H.next + 1)], (H.push (row1 (u t))).push (row1 (u e))) := by
  rw [opn e19]
  simp [a19, AVal.cells]

theorem rfR {or : Oracle} {n g : Nat} {f : AOpd} {ps : List Nat} {a b : ACode} {st : ASt} {caps : List AVal} {v : AVal} {H' H'' : AHeap} (hf : ev st.tm f = .func (.func g) caps)
    (ho : or (.func (.func g) caps) [.yield (st.H.next + 1)] (st.H.enter st.tm ps a b) = some (v, H')) (he : aEndLoop H' (st.H.next + 1) = some (some .ret, H'')) :
    aCode or true n (.rangeFunc f ps a b) st = some (.ret, { st with H := H'', marks := st.H.next :: st.marks }) := by
  simp only [aCode, if_true, hf, ho, Option.bind_some, he]
theorem rfN {or : Oracle} {n g : Nat} {f : AOpd} {ps : List Nat} {a b : ACode} {st : ASt} {caps : List AVal} {v : AVal} {H' H'' : AHeap} (hf : ev st.tm f = .func (.func g) caps)
    (ho : or (.func (.func g) caps) [.yield (st.H.next + 1)] (st.H.enter st.tm ps a b) = some (v, H')) (he : aEndLoop H' (st.H.next + 1) = some (none, H'')) :
    aCode or true n (.rangeFunc f ps a b) st = some (.normal, { st with H := H'', marks := st.H.next :: st.marks }) := by
  simp only [aCode, if_true, hf, ho, Option.bind_some, he]
theorem rfX {or : Oracle} {n g id : Nat} {f : AOpd} {ps : List Nat} {a b : ACode} {st : ASt} {caps : List AVal} {v : AVal} {H' H'' : AHeap} (hf : ev st.tm f = .func (.func g) caps)
    (ho : or (.func (.func g) caps) [.yield (st.H.next + 1)] (st.H.enter st.tm ps a b) = some (v, H')) (he : aEndLoop H' (st.H.next + 1) = some (some (.exit id), H'')) :
    aCode or true n (.rangeFunc f ps a b) st = some (.exit id, { st with H := H'', marks := st.H.next :: st.marks }) := by
  simp only [aCode, if_true, hf, ho, Option.bind_some, he]
theorem seqR {or : Oracle} {top : Bool} {n : Nat} {a b : ACode} {st s : ASt} (h1 : aCode or top n a st = some (.ret, s)) : aCode or top n (.seq a b) st = some (.ret, s) := by
  simp only [aCode, h1]
theorem blkR {or : Oracle} {top : Bool} {n id : Nat} {b : ACode} {st s : ASt} (h : aCode or top n b st = some (.ret, s)) : aCode or top n (.block id b) st = some (.ret, s) := by
  simp only [aCode, h]
theorem blkN {or : Oracle} {top : Bool} {n id : Nat} {b : ACode} {st s : ASt} (h : aCode or top n b st = some (.normal, s)) : aCode or top n (.block id b) st = some (.normal, s) := by
  simp only [aCode, h]
theorem blkX {or : Oracle} {top : Bool} {n id : Nat} {b : ACode} {st s : ASt} (h : aCode or top n b st = some (.exit id, s)) : aCode or top n (.block id b) st = some (.normal, s) := by
  simp only [aCode, h, if_true]

theorem endLoopR {H : AHeap} {L : Nat} {l : ALoop} (h : H.get L = some (.loop l)) (hs : l.state ≠ .busy) : aEndLoop H L = some (l.pending, H.set L (.loop { l with state := .exhausted })) := by
  unfold aEndLoop
  rw [h]
  cases hx : l.state <;> simp_all

theorem leave1 {H : AHeap} {M : Nat} (h : H.get M = some (.defs false)) : aLeave [M] H = some (H.set M (.defs true)) := by
  unfold aLeave; rw [h]; rfl

abbrev tm16 (s t c : Int) (N : Nat) : List AVal := [i s, u t, i c, p N, aundef, p (N + 1), p (N + 2), p (N + 3)] ++ List.replicate 30 aundef

theorem r16 (or : Oracle) (n : Nat) (s t c : Int) (H : AHeap) : ∃ H4, aCode or true n (fstC a16.code) ⟨[i s, u t, i c] ++ List.replicate 35 aundef, H, []⟩ = some (.normal, ⟨tm16 s t c H.next, H4, []⟩) ∧
    H4.next = H.next + 4 ∧ Row1 H4 H.next (i s) ∧ Row1 H4 (H.next + 1) (i c) ∧ Row1 H4 (H.next + 2) (u 0) ∧ Row1 H4 (H.next + 3) (i 0) ∧ Ext H H4 := by
  refine ⟨(((H.push (row1 (i s))).push (row1 (i c))).push (row1 (u 0))).push (row1 (i 0)), ?_, ?_, ?_, ?_, ?_, ?_, ?_, ?_⟩
  · simp [fstC, a16, AVal.cells]
  · simp
  · simp [Row1, AHeap.get_push, Nat.add_assoc]
  · simp [Row1, AHeap.get_push, Nat.add_assoc]
  · simp [Row1, AHeap.get_push, Nat.add_assoc]
  · simp [Row1, AHeap.get_push, Nat.add_assoc]
  · simp; omega
  · intro A hA
    simp [AHeap.get_push, show ¬ A = H.next by omega, show ¬ A = H.next + 1 by omega, show ¬ A = H.next + 2 by omega, show ¬ A = H.next + 3 by omega]

/-- A store of both results, and their reading. -/
theorem st16 {N : Nat} {G : AHeap} {x y : AVal} (r2 : Row1 G (N + 2) x) (r3 : Row1 G (N + 3) y) (v w : AVal) (hv : v.one = true) (hw : w.one = true) :
    ∃ G1 G2, G.write (N + 2) 0 0 [v] = some G1 ∧ G1.write (N + 3) 0 0 [w] = some G2 ∧ G2.rowAt (N + 2) 0 = some [v] ∧ G2.rowAt (N + 3) 0 = some [w] ∧ G2.next = G.next ∧ ∀ A, A ≠ N + 2 → A ≠ N + 3 → G2.get A = G.get A := by
  have r3' : Row1 (G.set (N + 2) (row1 v)) (N + 3) y := by unfold Row1; rw [AHeap.get_set_ne _ _ (by omega)]; exact r3
  refine ⟨_, _, r2.write hv, r3'.write hw, Row1.at ?_, Row1.at ?_, rfl, fun A h1 h2 => ?_⟩
  · unfold Row1; rw [AHeap.get_set_ne _ _ (by omega), AHeap.get_set_same]
  · unfold Row1; rw [AHeap.get_set_same]
  · rw [AHeap.get_set_ne _ _ h2, AHeap.get_set_ne _ _ h1]

set_option maxHeartbeats 1000000 in
theorem c16 (n : Nat) (s t c : Int) (ht : 0 ≤ t) (H : AHeap) : ∃ H', callN env (n + 72) (.func (.func 16) []) [i s, u t, i c] H = some (.tuple [u (ownerS s t c).1, i (ownerS s t c).2], H') ∧ Ext H H' := by
  rw [show n + 72 = n + 71 + 1 from rfl, opn e16]
  have t23 := fun H => c23 (n + 70) c H
  have t19 := fun t e H => c19 (n + 70) t e H
  have t25 := fun y B1 B2 e he I J hrow hY H hI => c25 (n + 1) y B1 B2 t e ht he I J hrow hY H hI
  obtain ⟨H4, g1, g2, r0, r1, r2, r3, x4⟩ := r16 (callN env (n + 71)) (n + 71) s t c H
  simp only [fstC, a16] at g1
  have lt2 := x4.next
  by_cases h0 : (2 ≤ c ∧ c ≤ 64) ∧ 0 ≤ s ∧ s < c
  · obtain ⟨h1, h5, h6⟩ := h0
    have h5' : ¬ s < 0 := by omega
    have h6' : ¬ c ≤ s := by omega
    by_cases h2 : t ≤ 4611686018427387904
    · have h3 : ¬ (4611686018427387904 < t) := by omega
      have w1 : wrapF .u64 c = c := wU (by omega) (by omega)
      have w2 : wrapF .u64 (t + c) = t + c := wU (by omega) (by omega)
      have p1 := Int.emod_nonneg (s - t) (show c ≠ 0 by omega)
      have p2 := Int.emod_lt_of_pos (s - t) (show 0 < c by omega)
      have hlen : spanLen t (t + c) = c.toNat := by unfold spanLen; rw [if_pos (by omega)]; omega
      -- the heap behind Span, and when the loop is entered
      let H6 : AHeap := (H4.push (row1 (u t))).push (row1 (u (t + c)))
      have q0 : ∀ A, A < H.next + 4 → H6.get A = H4.get A := fun A hA => by simp only [H6]; rw [AHeap.get_push_ne _ _ (by simp; omega), AHeap.get_push_ne _ _ (by omega)]
      have q4 : Row1 H6 (H.next + 4) (u t) := by simp only [H6, Row1]; rw [AHeap.get_push_ne _ _ (by simp; omega), ← g2, AHeap.get_push_same]
      have q5 : Row1 H6 (H.next + 5) (u (t + c)) := by simp only [H6, Row1]; rw [show H.next + 5 = (H4.push (row1 (u t))).next by simp; omega, AHeap.get_push_same]
      have qn : H6.next = H.next + 6 := by simp [H6]; omega
      have t19' : callN env (n + 71) (.func (.func 19) []) [u t, u (t + c)] H4 = some (.func (.func 25) [p (H.next + 4), p (H.next + 5)], H6) := by have := t19 t (t + c) H4; rw [g2] at this; exact this
      generalize H6 = H6 at q0 q4 q5 qn t19'
      -- the rounds
      have main : ∀ tm, Tm16 H.next tm → ∃ H', callN env (n + 71) (.func (.func 25) [p (H.next + 4), p (H.next + 5)]) [.yield (H6.next + 1)] (H6.enter tm [29] (rfA rf16) (rfB rf16)) = some (.tuple [], H') ∧
          Row1 H' (H.next + 2) (u (t + (s - t) % c)) ∧ Row1 H' (H.next + 3) (i 0) ∧ H'.get (H6.next + 1) = some (.loop { loop16 tm H6.next with state := .done, pending := some .ret }) ∧ H'.get H6.next = some (.defs false) ∧ Ext H H' := by
        intro tm htm
        have en : (H6.enter tm [29] (rfA rf16) (rfB rf16)).next = H6.next + 2 := by simp [AHeap.enter]
        have e0 : ∀ A, A < H6.next → (H6.enter tm [29] (rfA rf16) (rfB rf16)).get A = H6.get A := fun A hA => by
          unfold AHeap.enter; rw [AHeap.get_push_ne _ _ (by simp; omega), AHeap.get_push_ne _ _ (by omega)]
        have eD : (H6.enter tm [29] (rfA rf16) (rfB rf16)).get H6.next = some (.defs false) := by
          unfold AHeap.enter; rw [AHeap.get_push_ne _ _ (by simp), AHeap.get_push_same]
        have eL : (H6.enter tm [29] (rfA rf16) (rfB rf16)).get (H6.next + 1) = some (.loop (loop16 tm H6.next)) := by
          unfold AHeap.enter; rw [show H6.next + 1 = (H6.push (.defs false)).next from rfl, AHeap.get_push_same]; rfl
        generalize H6.enter tm [29] (rfA rf16) (rfB rf16) = Hb at en e0 eD eL
        have f := t25 (.yield (H6.next + 1)) (H.next + 4) (H.next + 5) (t + c) (by omega) (fun k Hx => (k : Int) ≤ (s - t) % c ∧ Hx.next = Hb.next ∧ ∀ A, Hx.get A = Hb.get A)
          (fun Hx => Hx.next = Hb.next ∧ Row1 Hx (H.next + 2) (u (t + (s - t) % c)) ∧ Row1 Hx (H.next + 3) (i 0) ∧ Hx.get (H6.next + 1) = some (.loop { loop16 tm H6.next with state := .done, pending := some .ret }) ∧ ∀ A, A ≠ H.next + 2 → A ≠ H.next + 3 → A ≠ H6.next + 1 → Hx.get A = Hb.get A)
          (fun k Hx _ ⟨_, _, i3⟩ => ⟨Row1.at (by unfold Row1; rw [i3, e0 _ (by omega)]; exact q4), Row1.at (by unfold Row1; rw [i3, e0 _ (by omega)]; exact q5)⟩)
          (fun k Hx hk ⟨i1, i2, i3⟩ => by
            have z0 : Row1 Hx H.next (i s) := by unfold Row1; rw [i3, e0 _ (by omega), q0 _ (by omega)]; exact r0
            have z1 : Row1 Hx (H.next + 1) (i c) := by unfold Row1; rw [i3, e0 _ (by omega), q0 _ (by omega)]; exact r1
            have z2 : Row1 Hx (H.next + 2) (u 0) := by unfold Row1; rw [i3, e0 _ (by omega), q0 _ (by omega)]; exact r2
            have z3 : Row1 Hx (H.next + 3) (i 0) := by unfold Row1; rw [i3, e0 _ (by omega), q0 _ (by omega)]; exact r3
            have y := y16 (n + 69) H.next (H6.next + 1) H6.next (by omega) tm htm s c (t + k) h1.1 h1.2 (by omega) (u 0) (i 0) Hx z0 z1 z2 z3 (by rw [i3, eL])
            by_cases hit : (t + (k : Int)) % c = s
            · rw [if_pos hit] at y
              obtain ⟨H', y1, y2, y3, y4, y5, y6⟩ := y
              have hd := (gap_hit h1.1 h5 h6 (by omega) i1).1 hit
              exact ⟨H', .inr ⟨y1, y2.trans i2, hd ▸ y3, y4, y5, fun A a1 a2 a3 => (y6 A a1 a2 a3).trans (i3 A)⟩⟩
            · rw [if_neg hit] at y
              obtain ⟨H', y1, y2, y3⟩ := y
              have hd : ¬ (k : Int) = (s - t) % c := fun e => hit ((gap_hit h1.1 h5 h6 (by omega) i1).2 e)
              exact ⟨H', .inl ⟨y1, by omega, y2.trans i2, fun A => (y3 A).trans (i3 A)⟩⟩)
          Hb ⟨by omega, rfl, fun _ => rfl⟩
        obtain ⟨H', f1, f2 | ⟨f2, f3, f4, f5, f6⟩⟩ := f
        · rw [hlen] at f2; omega
        · refine ⟨H', f1, f3, f4, f5, ?_, ?_, fun A hA => ?_⟩
          · rw [f6 _ (by omega) (by omega) (by omega), eD]
          · omega
          · rw [f6 _ (by omega) (by omega) (by omega), e0 _ (by omega), q0 _ (by omega), x4.get _ hA]
      have main2 : ∀ tm, Tm16 H.next tm → ∃ x : AHeap × AHeap × AHeap, callN env (n + 71) (.func (.func 25) [p (H.next + 4), p (H.next + 5)]) [.yield (H6.next + 1)] (H6.enter tm [29] (rfA rf16) (rfB rf16)) = some (.tuple [], x.1) ∧
          aEndLoop x.1 (H6.next + 1) = some (some .ret, x.2.1) ∧ aLeave [H6.next] x.2.1 = some x.2.2 ∧ x.2.2.rowAt (H.next + 2) 0 = some [u (t + (s - t) % c)] ∧ x.2.2.rowAt (H.next + 3) 0 = some [i 0] ∧ Ext H x.2.2 := by
        intro tm htm
        obtain ⟨H', m1, m2, m3, m4, m5, m6⟩ := main tm htm
        obtain ⟨H'', hend, hg, hn⟩ : ∃ H'', aEndLoop H' (H6.next + 1) = some (some .ret, H'') ∧ (∀ A, A ≠ H6.next + 1 → H''.get A = H'.get A) ∧ H''.next = H'.next :=
          ⟨_, endLoopR m4 (by simp), fun A hA => AHeap.get_set_ne _ _ hA, rfl⟩
        refine ⟨(H', H'', H''.set H6.next (.defs true)), m1, hend, leave1 ((hg H6.next (by omega)).trans m5), Row1.at ?_, Row1.at ?_, ?_, fun A hA => ?_⟩
        · show (H''.set H6.next (.defs true)).get _ = _; rw [AHeap.get_set_ne _ _ (by omega), hg _ (by omega)]; exact m2
        · show (H''.set H6.next (.defs true)).get _ = _; rw [AHeap.get_set_ne _ _ (by omega), hg _ (by omega)]; exact m3
        · show H.next ≤ H''.next; rw [hn]; exact m6.next
        · show (H''.set H6.next (.defs true)).get _ = _; rw [AHeap.get_set_ne _ _ (by omega), hg _ (by omega)]; exact m6.get A hA
      obtain ⟨f, hf⟩ := skol main2
      refine ⟨?G, ?a1, ?a2⟩
      case a1 =>
        apply endN
        · simp only [a16]
          apply seqN
          · exact g1
          apply seqN
          · simp [r1.at, r0.at, t23, h1, h5', h6']; rfl
          apply seqN
          · simp [h3]; rfl
          apply seqR
          apply seqN
          · simp [r1.at, w1, w2, t19']; rfl
          · apply blkR
            exact rfR rfl (hf _ (by constructor <;> rfl)).1 (hf _ (by constructor <;> rfl)).2.1
        · simp [-aLeave, a16, fun tm h => (hf tm h).2.2.1, fun tm h => (hf tm h).2.2.2.1, fun tm h => (hf tm h).2.2.2.2.1, ownerS, h1, h2, h5, h6]
          rfl
      case a2 => exact (hf _ _).2.2.2.2.2
    · have h3 : 4611686018427387904 < t := by omega
      obtain ⟨G1, G2, k1, k2, l2, l3, gn, gA⟩ := st16 r2 r3 (u 0) (i 31) rfl rfl
      refine ⟨G2, ?_, ⟨by omega, fun A hA => by rw [gA A (by omega) (by omega), x4.get A hA]⟩⟩
      apply endN
      · simp only [a16]
        apply seqN
        · exact g1
        apply seqN
        · simp [r1.at, r0.at, t23, h1, h5', h6']; rfl
        apply seqR
        simp [h3, AVal.cells, k1, k2]; rfl
      · simp [a16, l2, l3, ownerS, h1, h2, h5, h6]
  · obtain ⟨G1, G2, k1, k2, l2, l3, gn, gA⟩ := st16 r2 r3 (u 0) (i 2) rfl rfl
    refine ⟨G2, ?_, ⟨by omega, fun A hA => by rw [gA A (by omega) (by omega), x4.get A hA]⟩⟩
    by_cases h1 : 2 ≤ c ∧ c ≤ 64
    · by_cases h5 : s < 0
      · apply endN
        · simp only [a16]
          apply seqN
          · exact g1
          apply seqR
          simp [r1.at, r0.at, t23, h1, h5, AVal.cells, k1, k2]; rfl
        · simp [a16, l2, l3, ownerS, h0]
      · have h6 : c ≤ s := by omega
        apply endN
        · simp only [a16]
          apply seqN
          · exact g1
          apply seqR
          simp [r1.at, r0.at, t23, h1, h5, h6, AVal.cells, k1, k2]; rfl
        · simp [a16, l2, l3, ownerS, h0]
    · apply endN
      · simp only [a16]
        apply seqN
        · exact g1
        apply seqR
        simp [r1.at, t23, h1, AVal.cells, k1, k2]; rfl
      · simp [a16, l2, l3, ownerS, h0]

end Go.Proofs.Ytmdppcokjdpnoaa
