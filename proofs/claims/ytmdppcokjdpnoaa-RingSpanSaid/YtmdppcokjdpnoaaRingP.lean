/- Walks of the ring laws: RingSpan. -/
import Derived.Test.YtmdppcokjdpnoaaRingO
namespace Go.Proofs.Ytmdppcokjdpnoaa
open Go Go.Vm

attribute [local simp] endF aCode aSteps aStep awanted aOp ev List.replicate aRess aRes1 aLeave tup aBin aUn aArith ASt.put ile_eq ilt_eq ieq_eq aPart List.getElem?_cons_zero

/-- awake, with one cell ahead of it. -/
noncomputable def awakeAt (P : Program) (n f : Nat) : Bool := match callN (envP P) n (.func (.func f) []) [] (AHeap.empty.push (.row [some (0, [abool false])])) with
  | some (.raw (.bool b), H') => b && Nat.ble 1 H'.next && (match H'.get 0 with
    | some (.row [some (0, [.raw (.bool b')])]) => !b'
    | _ => false)
  | _ => false

theorem awakeAt_says : awakeAt Try.prog 100 8 = true := by kernel_rfl

theorem awakeAt_run {P : Program} {n f : Nat} (h : awakeAt P n f = true) : ∃ H', callN (envP P) n (.func (.func f) []) [] (AHeap.empty.push (.row [some (0, [abool false])])) = some (abool true, H') ∧ 1 ≤ H'.next ∧ Row1 H' 0 (abool false) := by
  unfold awakeAt at h
  split at h
  · rename_i b H' he
    simp only [Bool.and_eq_true, Nat.ble_eq] at h
    obtain ⟨⟨rfl, h2⟩, h3⟩ := h
    refine ⟨H', he, h2, ?_⟩
    split at h3
    · rename_i b' hg
      simp only [Bool.not_eq_true'] at h3
      subst h3
      exact hg
    · cases h3
  · cases h

theorem turn70 (m : Int) : (wrapF .i64 (m.tmod 70 + 70)).tmod 70 = m % 70 := by
  have h1 : -70 < m.tmod 70 := by have := Int.lt_tmod_of_pos m (show (0:Int) < 70 by omega); omega
  have h2 : m.tmod 70 < 70 := Int.tmod_lt_of_pos m (by omega)
  have h3 : (m.tmod 70 - m % 70) % 70 = 0 := by
    have := Int.mul_tdiv_add_tmod m 70
    omega
  rw [wI (by omega) (by omega), Int.tmod_eq_emod_of_nonneg (by omega)]
  omega

/-- The rounds, whole. -/
theorem main4 (t e : Int) (h0 : 0 ≤ t) (he : e < 18446744073709551616) (A7 A8 A18 B1 B2 : Nat) (hA7 : A7 < A18) (hA7' : 0 < A7) (hA8 : A8 < A18) (hB1 : B1 < A18) (hB2 : B2 < A18) (tm : List AVal) (ht : Tm4 A7 A8 A18 tm) (w : AVal) (K : AHeap) (kN : K.next = A18 + 1)
    (k6 : Row1 K 0 (abool false)) (k7 : Row1 K A7 w) (k8 : Row1 K A8 (spanF B1 B2)) (k1 : Row1 K B1 (u t)) (k2 : Row1 K B2 (u e)) (k18 : Row1 K A18 (i 0)) (kw : SliceIs K 0 w (firsts t (spanLen t e)))
    (rA : ∀ R ver off len kc ex esz, w = .slice R ver off len kc ex esz → R < A18) :
    ∃ H' H'', callN env 100 (spanF B1 B2) [.yield (K.next + 1)] (K.enter tm [102] (rfA rf4) (rfB rf4)) = some (.tuple [], H') ∧ aEndLoop H' (K.next + 1) = some (none, H'') ∧ H''.get K.next = some (.defs false) ∧
      Row1 H'' 0 (abool false) ∧ Row1 H'' A7 w ∧ Row1 H'' A18 (i (spanLen t e)) := by
  have en : (K.enter tm [102] (rfA rf4) (rfB rf4)).next = A18 + 3 := by simp [AHeap.enter, kN]
  have e0 : ∀ A, A < A18 + 1 → (K.enter tm [102] (rfA rf4) (rfB rf4)).get A = K.get A := fun A hA => by
    unfold AHeap.enter; rw [AHeap.get_push_ne _ _ (by simp; omega), AHeap.get_push_ne _ _ (by omega)]
  have eD : (K.enter tm [102] (rfA rf4) (rfB rf4)).get (A18 + 1) = some (.defs false) := by
    unfold AHeap.enter; rw [AHeap.get_push_ne _ _ (by simp; omega), ← kN, AHeap.get_push_same]
  have eL : (K.enter tm [102] (rfA rf4) (rfB rf4)).get (A18 + 2) = some (.loop (loop4 tm (A18 + 1))) := by
    unfold AHeap.enter; rw [show A18 + 2 = (K.push (.defs false)).next by simp; omega, AHeap.get_push_same, kN]; rfl
  rw [kN, show A18 + 1 + 1 = A18 + 2 from rfl]
  generalize K.enter tm [102] (rfA rf4) (rfB rf4) = Hb at en e0 eD eL
  have f := c25 30 (.yield (A18 + 2)) B1 B2 t e h0 he
    (fun k Hx => Hb.next ≤ Hx.next ∧ Row1 Hx A18 (i k) ∧ Hx.get (A18 + 2) = some (.loop (loop4 tm (A18 + 1))) ∧ ∀ A, A < A18 + 3 → A ≠ A18 → A ≠ A18 + 2 → Hx.get A = Hb.get A)
    (fun _ => False)
    (fun k Hx _ ⟨_, _, _, i4⟩ => ⟨Row1.at (by unfold Row1; rw [i4 _ (by omega) (by omega) (by omega), e0 _ (by omega)]; exact k1), Row1.at (by unfold Row1; rw [i4 _ (by omega) (by omega) (by omega), e0 _ (by omega)]; exact k2)⟩)
    (fun k Hx hk ⟨i1, i2, i3, i4⟩ => by
      have rr : ∀ {A : Nat} {v : AVal}, A < A18 → Row1 K A v → Row1 Hx A v := fun {A v} hA hr => by unfold Row1; rw [i4 _ (by omega) (by omega) (by omega), e0 _ (by omega)]; exact hr
      have rw' : SliceIs Hx 0 w (firsts t (spanLen t e)) := by
        rcases kw with h | ⟨R, ver, vs, g1, g2, g3, g4, g5⟩
        · exact .inl h
        · have hR := rA _ _ _ _ _ _ _ g3
          exact .inr ⟨R, ver, vs, g1, by omega, g3, by rw [i4 _ (by omega) (by omega) (by omega), e0 _ (by omega)]; exact g4, g5⟩
      obtain ⟨H', z1, z2, z3, z4, z5⟩ := y4 25 A7 A8 A18 B1 B2 (A18 + 2) (A18 + 1) (by omega) hA7 hA8 hB1 hB2 tm ht t e h0 he k hk w Hx (by omega) (rr hA7 k7) rw' rA (rr hA8 k8) (rr hB1 k1) (rr hB2 k2) i2 i3
      exact ⟨H', .inl ⟨z1, by omega, by rw [Int.natCast_succ]; exact z3, z2, fun A a1 a2 a3 => (z5 A (by omega) a2 a3).trans (i4 A a1 a2 a3)⟩⟩)
    Hb ⟨Nat.le_refl _, by unfold Row1; rw [e0 _ (by omega)]; exact k18, eL, fun _ _ _ _ => rfl⟩
  obtain ⟨H', f1, ⟨f2, f3, f4, f5⟩ | f2⟩ := f
  · refine ⟨H', H'.set (A18 + 2) (.loop { loop4 tm (A18 + 1) with state := .exhausted }), f1, endLoopR f4 (by simp [loop4, newLoop]), ?_, ?_, ?_, ?_⟩
    · rw [AHeap.get_set_ne _ _ (by omega), f5 _ (by omega) (by omega) (by omega), eD]
    · unfold Row1; rw [AHeap.get_set_ne _ _ (by omega), f5 _ (by omega) (by omega) (by omega), e0 _ (by omega)]; exact k6
    · unfold Row1; rw [AHeap.get_set_ne _ _ (by omega), f5 _ (by omega) (by omega) (by omega), e0 _ (by omega)]; exact k7
    · unfold Row1; rw [AHeap.get_set_ne _ _ (by omega)]; exact f3
  · exact f2.elim

theorem Ext.row1 {H H' : AHeap} (h : Ext H H') {A : Nat} {v : AVal} (hA : A < H.next) (hr : Row1 H A v) : Row1 H' A v := by unfold Row1; rw [h.get A hA]; exact hr
theorem Ext.push (H : AHeap) (o : AObj) : Ext H (H.push o) := ⟨by simp, fun A hA => AHeap.get_push_ne _ _ (by omega)⟩
/-- A new cell, written. -/
theorem newCell (H : AHeap) (v0 v : AVal) (hv : v.one = true) : ∃ H', (H.push (.row [some (0, [v0])])).write H.next 0 0 [v] = some H' ∧ Ext H H' ∧ Row1 H' H.next v ∧ H'.next = H.next + 1 := by
  refine ⟨(H.push (.row [some (0, [v0])])).set H.next (.row [some (0, [v])]), Row1.write (AHeap.get_push_same _ _) hv, ⟨by simp, fun A hA => ?_⟩, AHeap.get_set_same _ _ _, by simp⟩
  rw [AHeap.get_set_ne _ _ (by omega), AHeap.get_push_ne _ _ (by omega)]

set_option maxHeartbeats 8000000 in
theorem c4 (t e m : Int) (h0 : 0 ≤ t) (he : e < 18446744073709551616) : ∃ H', callN env 101 (.func (.func 4) []) [u t, u e, i m] .empty = some (abool true, H') := by
  obtain ⟨H1, hw, n1, r61⟩ := awakeAt_run awakeAt_says
  have hs := spanLen_le t e
  have hmod0 := Int.emod_nonneg m (show (70 : Int) ≠ 0 by omega)
  have hmod1 := Int.emod_lt_of_pos m (show (0 : Int) < 70 by omega)
  have tm70 := turn70 m
  generalize m % 70 = k at hmod0 hmod1 tm70
  obtain ⟨w, H2, t18, x2, s2⟩ := c18 34 t e h0 he H1
  have ow := s2.one
  have cw := s2.cells1
  obtain ⟨G3, wr3, x3, r73, n3⟩ := newCell H2 anil w ow
  have t19 := c19 99 t e G3
  have x4a : Ext G3 ((G3.push (row1 (u t))).push (row1 (u e))) := (Ext.push _ _).trans (Ext.push _ _)
  have r1a : Row1 ((G3.push (row1 (u t))).push (row1 (u e))) G3.next (u t) := by unfold Row1; rw [AHeap.get_push_ne _ _ (by simp), AHeap.get_push_same]
  have r2a : Row1 ((G3.push (row1 (u t))).push (row1 (u e))) (G3.next + 1) (u e) := by unfold Row1; rw [show G3.next + 1 = (G3.push (row1 (u t))).next from rfl, AHeap.get_push_same]
  have n4a : ((G3.push (row1 (u t))).push (row1 (u e))).next = G3.next + 2 := rfl
  generalize (G3.push (row1 (u t))).push (row1 (u e)) = G4a at t19 x4a r1a r2a n4a
  obtain ⟨G4, wr4, x4, r84, n4⟩ := newCell G4a (.raw .nilFunc) (spanF G3.next (G3.next + 1)) rfl
  rw [n3] at t19 r1a r2a n4a wr4 r84
  have r14 := x4.row1 (by omega) r1a
  have r24 := x4.row1 (by omega) r2a
  obtain ⟨va, H5, t20a, x5, s5⟩ := c20 28 t e h0 he (H2.next + 1) (H2.next + 1 + 1) k G4 (by omega) (by omega) r14 r24
  obtain ⟨vb, H6, t20b, x6, s6⟩ := c20 28 t e h0 he (H2.next + 1) (H2.next + 1 + 1) 70 H5 (by have := x5.next; omega) (by have := x5.next; omega) (x5.row1 (by omega) r14) (x5.row1 (by omega) r24)
  have x46 := x5.trans x6
  obtain ⟨vc, H7, t20c, x7, s7⟩ := c20 28 t e h0 he (H2.next + 1) (H2.next + 1 + 1) k H6 (by have := x46.next; omega) (by have := x46.next; omega) (x46.row1 (by omega) r14) (x46.row1 (by omega) r24)
  have t19b := c19 99 t e H7
  have x7a : Ext H7 ((H7.push (row1 (u t))).push (row1 (u e))) := (Ext.push _ _).trans (Ext.push _ _)
  have r1b : Row1 ((H7.push (row1 (u t))).push (row1 (u e))) H7.next (u t) := by unfold Row1; rw [AHeap.get_push_ne _ _ (by simp), AHeap.get_push_same]
  have r2b : Row1 ((H7.push (row1 (u t))).push (row1 (u e))) (H7.next + 1) (u e) := by unfold Row1; rw [show H7.next + 1 = (H7.push (row1 (u t))).next from rfl, AHeap.get_push_same]
  have n7a : ((H7.push (row1 (u t))).push (row1 (u e))).next = H7.next + 2 := rfl
  generalize (H7.push (row1 (u t))).push (row1 (u e)) = H7a at t19b x7a r1b r2b n7a
  obtain ⟨vd, H8, t20d, x8, s8⟩ := c20 28 t e h0 he H7.next (H7.next + 1) 70 H7a (by omega) (by omega) r1b r2b
  have x78 := x7a.trans x8
  have x68 := x7.trans x78
  have x58 := x6.trans x68
  have x48 := x5.trans x58
  have x2a : Ext H2 G4 := (x3.trans x4a).trans x4
  have x28 := x2a.trans x48
  have x18 := x2.trans x28
  have m70 : min (most 70) (spanLen t e) = spanLen t e := by unfold most; omega
  have mk : most k = k.toNat := by unfold most; omega
  rw [m70] at s6 s8
  rw [mk] at s5 s7
  -- what is held against one another, all in the last heap
  have qw : SliceIs H8 0 w (firsts t (spanLen t e)) := s2.lift (by omega) x28.next fun A _ hA => x28.get A hA
  have qa : SliceIs H8 0 va (firsts t (min k.toNat (spanLen t e))) := s5.lift (by omega) x58.next fun A _ hA => x58.get A hA
  have qb : SliceIs H8 0 vb (firsts t (spanLen t e)) := s6.lift (by omega) x68.next fun A _ hA => x68.get A hA
  have qc : SliceIs H8 0 vc (firsts t (min k.toNat (spanLen t e))) := s7.lift (by omega) x78.next fun A _ hA => x78.get A hA
  have qd : SliceIs H8 0 vd (firsts t (spanLen t e)) := s8.lift (by omega) (Nat.le_refl _) fun A _ _ => rfl
  obtain ⟨w3, sw1, sw2⟩ := qw.rd.first (k := min k.toNat (spanLen t e)) (by rw [firsts_len]; omega)
  rw [firsts_take _ _ _ (by omega)] at sw2
  have y1 := c21f 28 H8 vb w t _ (by omega) qb.rd qw.rd
  have y2 := c21f 28 H8 vd w t _ (by omega) qd.rd qw.rd
  have y3 := c21f 28 H8 va w3 t _ (by omega) qa.rd sw2
  have y4' := c21f 28 H8 vc va t _ (by omega) qc.rd qa.rd
  have hlw := s2.lenS
  rw [firsts_len] at hlw
  have r74 : Row1 G4 H2.next w := x4.row1 (by omega) (x4a.row1 (by omega) r73)
  have r78 := x48.row1 (by omega) r74
  have eG4a : G4a.next = H2.next + 3 := by omega
  rw [eG4a] at r84
  have r88 : Row1 H8 (H2.next + 3) (spanF (H2.next + 1) (H2.next + 2)) := x48.row1 (by omega) r84
  have r64 : Row1 H8 0 (abool false) := x18.row1 (by omega) r61
  obtain ⟨K, wrK, xK, r18, nK⟩ := newCell H8 (i 0) (i 0) rfl
  have nn1 := x2.next
  have nn := x48.next
  have enter : ∀ tm, Tm4 H2.next (H2.next + 3) H8.next tm → ∃ x : AHeap × AHeap, callN env 100 (spanF (H2.next + 1) (H2.next + 2)) [.yield (K.next + 1)] (K.enter tm [102] (rfA rf4) (rfB rf4)) = some (.tuple [], x.1) ∧ aEndLoop x.1 (K.next + 1) = some (none, x.2) ∧ x.2.get K.next = some (.defs false) ∧
      Row1 x.2 0 (abool false) ∧ Row1 x.2 H2.next w ∧ Row1 x.2 H8.next (i (spanLen t e)) := fun tm htm => by
    obtain ⟨H', H'', g⟩ := main4 t e h0 he H2.next (H2.next + 3) H8.next (H2.next + 1) (H2.next + 2) (by omega) (by omega) (by omega) (by omega) (by omega) tm htm w K nK (xK.row1 (by omega) r64) (xK.row1 (by omega) r78) (xK.row1 (by omega) r88)
      (xK.row1 (by omega) (x48.row1 (by omega) r14)) (xK.row1 (by omega) (x48.row1 (by omega) r24)) r18 (qw.lift (by omega) xK.next fun A _ hA => xK.get A hA) (fun R ver off len kc ex esz hww => by
        rcases s2 with ⟨e1, _⟩ | ⟨R', ver', vs, g1, g2, g3, _⟩
        · rw [e1] at hww; cases hww
        · rw [g3] at hww; cases hww; omega)
    exact ⟨(H', H''), g⟩
  obtain ⟨f, hf⟩ := skol enter
  have l84 : Row1 G4 (H2.next + 3) (spanF (H2.next + 1) (H2.next + 2)) := r84
  have l8a := l84.at
  have l8b := (x5.row1 (by omega) l84).at
  have l8c := (x46.row1 (by omega) l84).at
  have l8d := (xK.row1 (by have := x48.next; omega) r88).at
  have lw7 := r78.at
  rw [eG4a] at wr4
  simp only [Nat.reduceAdd] at hw t18 t19 t20a t20b t20c t20d t19b y1 y2 y3 y4'
  have blk : ∀ (st : ASt) (hst : Tm4 H2.next (H2.next + 3) H8.next st.tm) (hH : st.H = K) (hev : ev st.tm (.t 101) = spanF (H2.next + 1) (H2.next + 2)), aCode (callN env 100) true 100 (.block 0 (.rangeFunc (.t 101) [102] (rfA rf4) (rfB rf4))) st = some (.normal, { st with H := (f st.tm hst).2, marks := K.next :: st.marks }) := fun st hst hH hev => by
    obtain ⟨x1, x2, _⟩ := hf st.tm hst
    subst hH
    exact blkN (rfN hev x1 x2)
  have g18 : ∀ tm (h : Tm4 H2.next (H2.next + 3) H8.next tm), (f tm h).2.rowAt H8.next 0 = some [i (spanLen t e)] := fun tm h => (hf tm h).2.2.2.2.2.at
  have g7 : ∀ tm (h : Tm4 H2.next (H2.next + 3) H8.next tm), (f tm h).2.rowAt H2.next 0 = some [w] := fun tm h => (hf tm h).2.2.2.2.1.at
  have g6 : ∀ tm (h : Tm4 H2.next (H2.next + 3) H8.next tm), (f tm h).2.write 0 0 0 [abool true] = some ((f tm h).2.set 0 (.row [some (0, [abool true])])) := fun tm h => (hf tm h).2.2.2.1.write rfl
  have gl : ∀ tm (h : Tm4 H2.next (H2.next + 3) H8.next tm), aLeave [K.next] ((f tm h).2.set 0 (.row [some (0, [abool true])])) = some (((f tm h).2.set 0 (.row [some (0, [abool true])])).set K.next (.defs true)) := fun tm h =>
    leave1 (by rw [AHeap.get_set_ne _ _ (by omega)]; exact (hf tm h).2.2.1)
  have gr : ∀ tm (h : Tm4 H2.next (H2.next + 3) H8.next tm), (((f tm h).2.set 0 (.row [some (0, [abool true])])).set K.next (.defs true)).rowAt 0 0 = some [abool true] := fun tm h => Row1.at (by unfold Row1; rw [AHeap.get_set_ne _ _ (by omega)]; exact AHeap.get_set_same _ _ _)
  have en0 : AHeap.empty.next = 0 := rfl
  rw [show (101 : Nat) = 100 + 1 from rfl, opn e4]
  have hmin : (if ((spanLen t e : Nat) : Int) < k then ((spanLen t e : Nat) : Int) else k) = ((min k.toNat (spanLen t e) : Nat) : Int) := by split <;> omega
  have hkk : (k.toNat : Int) = k := by omega
  generalize callN env 100 = or at hw t18 t19 t20a t20b t20c t20d t19b y1 y2 y3 y4' blk
  generalize hT : ([u t, u e, i m] ++ [] ++ List.replicate (a4.ntmps - ([u t, u e, i m] ++ [] : List AVal).length) aundef) = tm0
  have l0 : tm0.length = 140 := by rw [← hT]; simp [a4]
  have f0_0 : tm0[0]? = some (u t) := by rw [← hT]; rfl
  have f0_1 : tm0[1]? = some (u e) := by rw [← hT]; rfl
  have f0_2 : tm0[2]? = some (i m) := by rw [← hT]; rfl
  obtain ⟨tm1, r0, l1, f1_0, f1_1, f1_2, f1_6⟩ : ∃ tm1, aCode or true 100 (fstC a4.code) ⟨tm0, AHeap.empty, []⟩ = some (.normal, ⟨tm1, (AHeap.empty.push (.row [some (0, [abool false])])), []⟩) ∧ tm1.length = 140 ∧ tm1[0]? = some (u t) ∧ tm1[1]? = some (u e) ∧ tm1[2]? = some (i m) ∧ tm1[6]? = some (p 0) := by
    refine ⟨?r0w, ?r0a, ?r0b0, ?r0b1, ?r0b2, ?r0b3, ?r0b4⟩
    case r0a =>
      apply regN
      iterate 1 (apply stepN; · simp [-getElem?_pos, List.getElem?_set, l0, f0_0, f0_1, f0_2, en0]; rfl)
      exact nilN (or := or)
    all_goals simp [-getElem?_pos, List.getElem?_set, l0, f0_0, f0_1, f0_2]
  obtain ⟨tm2, r1, l2, f2_0, f2_1, f2_2, f2_6, f2_23⟩ : ∃ tm2, aCode or true 100 (fstC (fstC (sndC a4.code))) ⟨tm1, (AHeap.empty.push (.row [some (0, [abool false])])), []⟩ = some (.normal, ⟨tm2, H1, []⟩) ∧ tm2.length = 140 ∧ tm2[0]? = some (u t) ∧ tm2[1]? = some (u e) ∧ tm2[2]? = some (i m) ∧ tm2[6]? = some (p 0) ∧ tm2[23]? = some (abool false) := by
    refine ⟨?r1w, ?r1a, ?r1b0, ?r1b1, ?r1b2, ?r1b3, ?r1b4, ?r1b5⟩
    case r1a =>
      apply regN
      iterate 2 (apply stepN; · simp [-getElem?_pos, List.getElem?_set, l1, f1_0, f1_1, f1_2, f1_6, hw]; rfl)
      exact nilN (or := or)
    all_goals simp [-getElem?_pos, List.getElem?_set, l1, f1_0, f1_1, f1_2, f1_6]
  obtain ⟨tm3, r2, l3, f3_0, f3_1, f3_2, f3_6, f3_7⟩ : ∃ tm3, aCode or true 100 (fstC (sndC (sndC (a4.code)))) ⟨tm2, H1, []⟩ = some (.normal, ⟨tm3, G3, []⟩) ∧ tm3.length = 140 ∧ tm3[0]? = some (u t) ∧ tm3[1]? = some (u e) ∧ tm3[2]? = some (i m) ∧ tm3[6]? = some (p 0) ∧ tm3[7]? = some (p H2.next) := by
    refine ⟨?r2w, ?r2a, ?r2b0, ?r2b1, ?r2b2, ?r2b3, ?r2b4, ?r2b5⟩
    case r2a =>
      apply regN
      iterate 5 (apply stepN; · simp [-getElem?_pos, List.getElem?_set, l2, f2_0, f2_1, f2_2, f2_6, f2_23, t18, cw, wr3]; rfl)
      exact nilN (or := or)
    all_goals simp [-getElem?_pos, List.getElem?_set, l2, f2_0, f2_1, f2_2, f2_6, f2_23]
  obtain ⟨tm4, r3, l4, f4_0, f4_1, f4_2, f4_6, f4_7, f4_8⟩ : ∃ tm4, aCode or true 100 (fstC (sndC (sndC (sndC (a4.code))))) ⟨tm3, G3, []⟩ = some (.normal, ⟨tm4, G4, []⟩) ∧ tm4.length = 140 ∧ tm4[0]? = some (u t) ∧ tm4[1]? = some (u e) ∧ tm4[2]? = some (i m) ∧ tm4[6]? = some (p 0) ∧ tm4[7]? = some (p H2.next) ∧ tm4[8]? = some (p (H2.next + 3)) := by
    refine ⟨?r3w, ?r3a, ?r3b0, ?r3b1, ?r3b2, ?r3b3, ?r3b4, ?r3b5, ?r3b6⟩
    case r3a =>
      apply regN
      iterate 5 (apply stepN; · simp [-getElem?_pos, List.getElem?_set, l3, f3_0, f3_1, f3_2, f3_6, f3_7, t19, AVal.cells, eG4a, wr4]; rfl)
      exact nilN (or := or)
    all_goals simp [-getElem?_pos, List.getElem?_set, l3, f3_0, f3_1, f3_2, f3_6, f3_7]
  obtain ⟨tm5, r4, l5, f5_0, f5_1, f5_6, f5_7, f5_8, f5_9⟩ : ∃ tm5, aCode or true 100 (fstC (sndC (sndC (sndC (sndC (a4.code)))))) ⟨tm4, G4, []⟩ = some (.normal, ⟨tm5, G4, []⟩) ∧ tm5.length = 140 ∧ tm5[0]? = some (u t) ∧ tm5[1]? = some (u e) ∧ tm5[6]? = some (p 0) ∧ tm5[7]? = some (p H2.next) ∧ tm5[8]? = some (p (H2.next + 3)) ∧ tm5[9]? = some (i k) := by
    refine ⟨?r4w, ?r4a, ?r4b0, ?r4b1, ?r4b2, ?r4b3, ?r4b4, ?r4b5, ?r4b6⟩
    case r4a =>
      apply regN
      iterate 5 (apply stepN; · simp [-getElem?_pos, List.getElem?_set, l4, f4_0, f4_1, f4_2, f4_6, f4_7, f4_8, tm70]; rfl)
      exact nilN (or := or)
    all_goals simp [-getElem?_pos, List.getElem?_set, l4, f4_0, f4_1, f4_2, f4_6, f4_7, f4_8]
  obtain ⟨tm6, r5, l6, f6_0, f6_1, f6_6, f6_7, f6_8, f6_9, f6_10, f6_11⟩ : ∃ tm6, aCode or true 100 (fstC (sndC (sndC (sndC (sndC (sndC (a4.code))))))) ⟨tm5, G4, []⟩ = some (.normal, ⟨tm6, H5, []⟩) ∧ tm6.length = 140 ∧ tm6[0]? = some (u t) ∧ tm6[1]? = some (u e) ∧ tm6[6]? = some (p 0) ∧ tm6[7]? = some (p H2.next) ∧ tm6[8]? = some (p (H2.next + 3)) ∧ tm6[9]? = some (i k) ∧ tm6[10]? = some (va) ∧ tm6[11]? = some (abool true) := by
    refine ⟨?r5w, ?r5a, ?r5b0, ?r5b1, ?r5b2, ?r5b3, ?r5b4, ?r5b5, ?r5b6, ?r5b7, ?r5b8⟩
    case r5a =>
      apply regN
      iterate 8 (apply stepN; · simp [-getElem?_pos, List.getElem?_set, l5, f5_0, f5_1, f5_6, f5_7, f5_8, f5_9, l8a, t20a]; rfl)
      exact nilN (or := or)
    all_goals simp [-getElem?_pos, List.getElem?_set, l5, f5_0, f5_1, f5_6, f5_7, f5_8, f5_9]
  obtain ⟨tm7, r6, l7, f7_0, f7_1, f7_6, f7_7, f7_8, f7_9, f7_10, f7_11, f7_12, f7_13⟩ : ∃ tm7, aCode or true 100 (fstC (sndC (sndC (sndC (sndC (sndC (sndC (a4.code)))))))) ⟨tm6, H5, []⟩ = some (.normal, ⟨tm7, H6, []⟩) ∧ tm7.length = 140 ∧ tm7[0]? = some (u t) ∧ tm7[1]? = some (u e) ∧ tm7[6]? = some (p 0) ∧ tm7[7]? = some (p H2.next) ∧ tm7[8]? = some (p (H2.next + 3)) ∧ tm7[9]? = some (i k) ∧ tm7[10]? = some (va) ∧ tm7[11]? = some (abool true) ∧ tm7[12]? = some (vb) ∧ tm7[13]? = some (abool true) := by
    refine ⟨?r6w, ?r6a, ?r6b0, ?r6b1, ?r6b2, ?r6b3, ?r6b4, ?r6b5, ?r6b6, ?r6b7, ?r6b8, ?r6b9, ?r6b10⟩
    case r6a =>
      apply regN
      iterate 7 (apply stepN; · simp [-getElem?_pos, List.getElem?_set, l6, f6_0, f6_1, f6_6, f6_7, f6_8, f6_9, f6_10, f6_11, l8b, t20b]; rfl)
      exact nilN (or := or)
    all_goals simp [-getElem?_pos, List.getElem?_set, l6, f6_0, f6_1, f6_6, f6_7, f6_8, f6_9, f6_10, f6_11]
  obtain ⟨tm8, r7, l8, f8_0, f8_1, f8_6, f8_7, f8_8, f8_9, f8_10, f8_11, f8_12, f8_13, f8_14, f8_15⟩ : ∃ tm8, aCode or true 100 (fstC (sndC (sndC (sndC (sndC (sndC (sndC (sndC (a4.code))))))))) ⟨tm7, H6, []⟩ = some (.normal, ⟨tm8, H7, []⟩) ∧ tm8.length = 140 ∧ tm8[0]? = some (u t) ∧ tm8[1]? = some (u e) ∧ tm8[6]? = some (p 0) ∧ tm8[7]? = some (p H2.next) ∧ tm8[8]? = some (p (H2.next + 3)) ∧ tm8[9]? = some (i k) ∧ tm8[10]? = some (va) ∧ tm8[11]? = some (abool true) ∧ tm8[12]? = some (vb) ∧ tm8[13]? = some (abool true) ∧ tm8[14]? = some (vc) ∧ tm8[15]? = some (abool true) := by
    refine ⟨?r7w, ?r7a, ?r7b0, ?r7b1, ?r7b2, ?r7b3, ?r7b4, ?r7b5, ?r7b6, ?r7b7, ?r7b8, ?r7b9, ?r7b10, ?r7b11, ?r7b12⟩
    case r7a =>
      apply regN
      iterate 8 (apply stepN; · simp [-getElem?_pos, List.getElem?_set, l7, f7_0, f7_1, f7_6, f7_7, f7_8, f7_9, f7_10, f7_11, f7_12, f7_13, l8c, t20c]; rfl)
      exact nilN (or := or)
    all_goals simp [-getElem?_pos, List.getElem?_set, l7, f7_0, f7_1, f7_6, f7_7, f7_8, f7_9, f7_10, f7_11, f7_12, f7_13]
  obtain ⟨tm9, r8, l9, f9_6, f9_7, f9_8, f9_9, f9_10, f9_11, f9_12, f9_13, f9_14, f9_15, f9_16, f9_17⟩ : ∃ tm9, aCode or true 100 (fstC (sndC (sndC (sndC (sndC (sndC (sndC (sndC (sndC (a4.code)))))))))) ⟨tm8, H7, []⟩ = some (.normal, ⟨tm9, H8, []⟩) ∧ tm9.length = 140 ∧ tm9[6]? = some (p 0) ∧ tm9[7]? = some (p H2.next) ∧ tm9[8]? = some (p (H2.next + 3)) ∧ tm9[9]? = some (i k) ∧ tm9[10]? = some (va) ∧ tm9[11]? = some (abool true) ∧ tm9[12]? = some (vb) ∧ tm9[13]? = some (abool true) ∧ tm9[14]? = some (vc) ∧ tm9[15]? = some (abool true) ∧ tm9[16]? = some (vd) ∧ tm9[17]? = some (abool true) := by
    refine ⟨?r8w, ?r8a, ?r8b0, ?r8b1, ?r8b2, ?r8b3, ?r8b4, ?r8b5, ?r8b6, ?r8b7, ?r8b8, ?r8b9, ?r8b10, ?r8b11, ?r8b12⟩
    case r8a =>
      apply regN
      iterate 9 (apply stepN; · simp [-getElem?_pos, List.getElem?_set, l8, f8_0, f8_1, f8_6, f8_7, f8_8, f8_9, f8_10, f8_11, f8_12, f8_13, f8_14, f8_15, t19b, t20d]; rfl)
      exact nilN (or := or)
    all_goals simp [-getElem?_pos, List.getElem?_set, l8, f8_0, f8_1, f8_6, f8_7, f8_8, f8_9, f8_10, f8_11, f8_12, f8_13, f8_14, f8_15]
  obtain ⟨tm10, r9, l10, f10_6, f10_7, f10_8, f10_100⟩ : ∃ tm10, aCode or true 100 (fstC (fstC (sndC (sndC (sndC (sndC (sndC (sndC (sndC (sndC (sndC (a4.code)))))))))))) ⟨tm9, H8, []⟩ = some (.normal, ⟨tm10, H8, []⟩) ∧ tm10.length = 140 ∧ tm10[6]? = some (p 0) ∧ tm10[7]? = some (p H2.next) ∧ tm10[8]? = some (p (H2.next + 3)) ∧ tm10[100]? = some (abool false) := by
    refine ⟨?r9w, ?r9a, ?r9b0, ?r9b1, ?r9b2, ?r9b3, ?r9b4⟩
    case r9a =>
      apply regN
      iterate 43 (apply stepN; · simp [-getElem?_pos, List.getElem?_set, l9, f9_6, f9_7, f9_8, f9_9, f9_10, f9_11, f9_12, f9_13, f9_14, f9_15, f9_16, f9_17, lw7, y1, y2, y3, y4', hlw, aMinMax, hmin, sw1]; rfl)
      exact nilN (or := or)
    all_goals simp [-getElem?_pos, List.getElem?_set, l9, f9_6, f9_7, f9_8, f9_9, f9_10, f9_11, f9_12, f9_13, f9_14, f9_15, f9_16, f9_17]
  obtain ⟨tm11, r10, l11, f11_6, f11_7, f11_8, f11_18⟩ : ∃ tm11, aCode or true 100 (fstC (sndC (sndC (sndC (sndC (sndC (sndC (sndC (sndC (sndC (sndC (a4.code)))))))))))) ⟨tm10, H8, []⟩ = some (.normal, ⟨tm11, K, []⟩) ∧ tm11.length = 140 ∧ tm11[6]? = some (p 0) ∧ tm11[7]? = some (p H2.next) ∧ tm11[8]? = some (p (H2.next + 3)) ∧ tm11[18]? = some (p H8.next) := by
    refine ⟨?r10w, ?r10a, ?r10b0, ?r10b1, ?r10b2, ?r10b3, ?r10b4⟩
    case r10a =>
      apply regN
      iterate 2 (apply stepN; · simp [-getElem?_pos, List.getElem?_set, l10, f10_6, f10_7, f10_8, f10_100, AVal.cells, wrK]; rfl)
      exact nilN (or := or)
    all_goals simp [-getElem?_pos, List.getElem?_set, l10, f10_6, f10_7, f10_8, f10_100]
  obtain ⟨tm12, r11, l12, f12_6, f12_7, f12_8, f12_18, f12_101⟩ : ∃ tm12, aCode or true 100 (fstC (fstC (sndC (sndC (sndC (sndC (sndC (sndC (sndC (sndC (sndC (sndC (sndC (a4.code)))))))))))))) ⟨tm11, K, []⟩ = some (.normal, ⟨tm12, K, []⟩) ∧ tm12.length = 140 ∧ tm12[6]? = some (p 0) ∧ tm12[7]? = some (p H2.next) ∧ tm12[8]? = some (p (H2.next + 3)) ∧ tm12[18]? = some (p H8.next) ∧ tm12[101]? = some (spanF (H2.next + 1) (H2.next + 2)) := by
    refine ⟨?r11w, ?r11a, ?r11b0, ?r11b1, ?r11b2, ?r11b3, ?r11b4, ?r11b5⟩
    case r11a =>
      apply regN
      iterate 1 (apply stepN; · simp [-getElem?_pos, List.getElem?_set, l11, f11_6, f11_7, f11_8, f11_18, l8d]; rfl)
      exact nilN (or := or)
    all_goals simp [-getElem?_pos, List.getElem?_set, l11, f11_6, f11_7, f11_8, f11_18]

  have hst : Tm4 H2.next (H2.next + 3) H8.next tm12 := ⟨l12, f12_7, f12_8, f12_18⟩
  obtain ⟨tm13, r12, l13, f13_6⟩ : ∃ tm13, aCode or true 100 (fstC (sndC (sndC (sndC (sndC (sndC (sndC (sndC (sndC (sndC (sndC (sndC (sndC (a4.code)))))))))))))) ⟨tm12, (f tm12 hst).2, [K.next]⟩ = some (.normal, ⟨tm13, (f tm12 hst).2.set 0 (.row [some (0, [abool true])]), [K.next]⟩) ∧ tm13.length = 140 ∧ tm13[6]? = some (p 0) := by
    refine ⟨?r12w, ?r12a, ?r12b0, ?r12b1⟩
    case r12a =>
      apply regN
      iterate 5 (apply stepN; · simp [-getElem?_pos, List.getElem?_set, l12, f12_6, f12_7, f12_18, g18, g7, hlw, AVal.cells, g6]; rfl)
      exact nilN (or := or)
    all_goals simp [-getElem?_pos, List.getElem?_set, l12, f12_6]
  refine ⟨((f tm12 hst).2.set 0 (.row [some (0, [abool true])])).set K.next (.defs true), ?_⟩
  have c1 : aCode or true 100 (sndC (fstC (sndC a4.code))) ⟨tm2, H1, []⟩ = some (.normal, ⟨tm2, H1, []⟩) := by
    show aCode or true 100 (.cond (.t 23) _ .skip) _ = _
    simp [-getElem?_pos, f2_23]
  have c9 : aCode or true 100 (sndC (fstC (sndC (sndC (sndC (sndC (sndC (sndC (sndC (sndC (sndC (a4.code)))))))))))) ⟨tm10, H8, []⟩ = some (.normal, ⟨tm10, H8, []⟩) := by
    show aCode or true 100 (.cond (.t 100) _ .skip) _ = _
    simp [-getElem?_pos, f10_100]
  apply endN
  · show aCode or true 100 a4.code _ = _
    apply seqN r0
    apply seqN (seqN r1 c1)
    apply seqN r2
    apply seqN r3
    apply seqN r4
    apply seqN r5
    apply seqN r6
    apply seqN r7
    apply seqN r8
    apply seqN (seqN r9 c9)
    apply seqN r10
    apply seqN (seqN r11 (blk ⟨tm12, K, []⟩ hst rfl (by simp [-getElem?_pos, f12_101])))
    apply seqN r12
    rfl
  · simp [-aLeave, -getElem?_pos, gl, gr, a4, f13_6]

end Go.Proofs.Ytmdppcokjdpnoaa
