/- Walks: the document's Alone, a list of operations done. -/
import Derived.Test.YthbjfkkjmecaaaaAloneG
namespace Go.Proofs.Ythbjfkkjmecaaaa
open Go Go.Vm

set_option linter.unusedVariables false
set_option linter.unusedSimpArgs false
attribute [local simp] aStep awanted aOp ev aRess aRes1 tup aBin aUn aArith ASt.put ile_eq ilt_eq ieq_eq aPart List.getElem?_cons_zero

theorem it40w (or : Oracle) (n : Nat) (b : Nat) (hb64 : b ≤ 64) (H : AHeap) (vt : AVal) (avt : List AVal) (txs : List (List OpD)) (ht : TxsAt H vt avt txs) (i : Nat) (va : AVal) (t : List OpD) (hva : avt[i]? = some va) (hti : txs[i]? = some t) (k : Nat) (o : OpD) (ho : t[k]? = some o)
    (m : Map) (hm : m.length = b) (hmv : ∀ v ∈ m, IsVal v) (A7 N : Nat) (hA : A7 < N) (hN : N ≤ H.next) (cm : Cells H A7 m.flatten) (v10 : AVal) (told : List (List AVal)) (hs : SliceE H N 32 v10 told) (htold : told.length ≤ k) (v8' : AVal) (hbad : ¬ o.bad b) (hkd : o.kind = 3) (tm : List AVal) (len : tm.length = 85) (t0 : tm[0]? = some (vi b)) (t1 : tm[1]? = some (vt)) (t7 : tm[7]? = some (.slice A7 0 0 b b true 32)) (t8 : tm[8]? = some (v8')) (t9 : tm[9]? = some (vi i)) (t10 : tm[10]? = some (v10)) (t11 : tm[11]? = some (vi k)) :
    ∃ H' v' tm', aCode or true n (fstC (fstC (sndC (fstC (sndC (fstC (fstC (sndC (fstC (fstC (sndC (fstC (sndC (sndC (sndC (sndC (a40.code))))))))))))))))) ⟨tm, H, []⟩ = some (.normal, ⟨tm', H', []⟩) ∧ tm'.length = 85 ∧ tm'[0]? = some (vi b) ∧ tm'[1]? = some (vt) ∧ tm'[7]? = some (.slice A7 0 0 b b true 32) ∧ tm'[8]? = some (v8') ∧ tm'[9]? = some (vi i) ∧ tm'[10]? = some (v') ∧ tm'[11]? = some (vi ((k : Int) + 1)) ∧ Cells H' A7 (opM m o).flatten ∧ SliceE H' N 32 v' (told ++ toldO m o) ∧ H.next ≤ H'.next ∧ (∀ A, A < N → A ≠ A7 → H'.get A = H.get A) := by
  have hi := (List.getElem?_eq_some_iff.1 hti).1
  have hlen := ht.len
  have hi2 : i < avt.length := by omega
  obtain ⟨ra, hlies⟩ := ht.at_ i va t hva hti
  have la := ra.lenS
  rw [List.length_map] at la
  have hl := ht.small t (List.mem_of_getElem? hti)
  have hok := ht.ok t (List.mem_of_getElem? hti) o (List.mem_of_getElem? ho)
  have hrd := ht.rd
  have key : ∃ R ver off kc ex cells, vt = .slice R ver off avt.length kc ex 1 ∧ H.rowAt R ver = some cells ∧ off + i + 1 ≤ cells.length ∧ cells[off + i]? = some va := by
    obtain ⟨R, ver, off, kc, ex, cells, e1, a2, a3, a4⟩ := hrd.at (i := i) (e := [va]) (by simp [hva])
    rw [List.length_map] at e1
    refine ⟨R, ver, off, kc, ex, cells, e1, a2, by omega, ?_⟩
    have := part_at a4 (j := 0) (by omega)
    simpa using this
  obtain ⟨Rv, verv, offv, kcv, exv, cellsv, hvt1, av2, av3, av4⟩ := key
  have hk := (List.getElem?_eq_some_iff.1 ho).1
  have hk' : (k : Int) < t.length := by omega
  have w : wrapF .i64 ((k : Int) + 1) = ((k : Int) + 1) := wrapI (by omega) (by omega)
  have hlen35 := hok.len
  have k0 := o.at0
  have k2 := o.at2
  have k3 := o.at3 hok
  have hvl := hok.val.len
  obtain ⟨R, ver, off, kc, ex, cells, hva1, a2, a3, a4⟩ := ra.at (i := k) (e := o.cells) (by simp [ho])
  rw [List.length_map] at *
  obtain ⟨H1, hw1, g1, hc1, n1⟩ := newCells H (z := [vi 0, anil, vi 0, v8 0, v8 0, v8 0, v8 0, v8 0, v8 0, v8 0, v8 0, v8 0, v8 0, v8 0, v8 0, v8 0, v8 0, v8 0, v8 0, v8 0, v8 0, v8 0, v8 0, v8 0, v8 0, v8 0, v8 0, v8 0, v8 0, v8 0, v8 0, v8 0, v8 0, v8 0, v8 0]) (e := o.cells) (by rw [hlen35]; rfl) (by rw [hlen35]; omega) hok.allone
  have hr1 := hc1.at
  have hbad' := hbad
  unfold OpD.bad at hbad'
  have b0 : 0 ≤ o.blk := by omega
  have b1 : o.blk < b := by omega
  have b2 : o.blk.toNat < b := by omega
  have hb0 : ¬ o.blk < 0 := by omega
  have hb1 : ¬ (b : Int) ≤ o.blk := by omega
  have cm1 : Cells H1 A7 m.flatten := cm.mono (g1.get _ (by omega))
  have hfl := flatten_len (n := 32) (es := m) fun v hv => (hmv v hv).len
  rw [hm] at hfl
  have hrm := cm1.at
  have hw2 : H1.write A7 0 (o.blk.toNat * 32) o.val = some (H1.set A7 (.row [some (0, spl m.flatten (o.blk.toNat * 32) o.val)])) := cm1.write (by omega) (by rw [hvl, hfl]; omega) hok.val.one
  have hset : spl m.flatten (o.blk.toNat * 32) o.val = (opM m o).flatten := by
    rw [flatten_set hvl _ (fun v hv => (hmv v hv).len) (by omega)]; simp [opM, hkd]
  have hs1 : SliceE H1 N 32 v10 told := hs.move (Nat.le_refl _) g1.next fun A _ hA => g1.get A hA
  generalize hH2 : H1.set A7 (.row [some (0, spl m.flatten (o.blk.toNat * 32) o.val)]) = H2 at hw2
  have cm2 : Cells H2 A7 (opM m o).flatten := by rw [← hH2, ← hset]; exact AHeap.get_set_same _ _ _
  have hs2 : SliceE H2 N 32 v10 (told ++ toldO m o) := by
    have e0 : toldO m o = [] := by simp [toldO, hkd]
    rw [e0, List.append_nil, ← hH2]
    exact hs1.move (Nat.le_refl _) (Nat.le_refl _) fun A hA1 _ => AHeap.get_set_ne _ _ (by omega)
  have hn2 : H.next ≤ H2.next := by rw [← hH2]; exact g1.next
  have hk2 : ∀ A, A < N → A ≠ A7 → H2.get A = H.get A := fun A a1 a2 => by rw [← hH2, AHeap.get_set_ne _ _ a2]; exact g1.get A (by omega)
  obtain ⟨tm1, e1, l1, f1_0, f1_1, f1_7, f1_8, f1_9, f1_10, f1_11, f1_33⟩ : ∃ tm1 : List AVal, aCode or true n (fstC (fstC (fstC (fstC (sndC (fstC (sndC (fstC (fstC (sndC (fstC (fstC (sndC (fstC (sndC (sndC (sndC (sndC (a40.code))))))))))))))))))) ⟨tm, H, []⟩ = some (.normal, ⟨tm1, H, []⟩) ∧ tm1.length = 85 ∧ tm1[0]? = some (vi b) ∧ tm1[1]? = some (vt) ∧ tm1[7]? = some (.slice A7 0 0 b b true 32) ∧ tm1[8]? = some (v8') ∧ tm1[9]? = some (vi i) ∧ tm1[10]? = some (v10) ∧ tm1[11]? = some (vi k) ∧ tm1[33]? = some (abool true) := by
    refine ⟨?e1w, ?e1a, ?e1b0, ?e1b1, ?e1b2, ?e1b3, ?e1b4, ?e1b5, ?e1b6, ?e1b7, ?e1b8⟩
    case e1a =>
      apply regN
      iterate 7 (apply stepN; · simp [-getElem?_pos, List.getElem?_set, len, t1, t9, t11, hvt1, hi2, av2, av3, av4, la, hk']; rfl)
      exact nilN (or := or)
    all_goals simp [-getElem?_pos, List.getElem?_set, len, t0, t1, t7, t8, t9, t10, t11]
  obtain ⟨tm2, e2, l2, f2_0, f2_1, f2_7, f2_8, f2_9, f2_10, f2_11, f2_12, f2_33⟩ : ∃ tm2 : List AVal, aCode or true n (fstC (fstC (fstC (sndC (fstC (fstC (sndC (fstC (sndC (fstC (fstC (sndC (fstC (fstC (sndC (fstC (sndC (sndC (sndC (sndC (a40.code))))))))))))))))))))) ⟨tm1, H, []⟩ = some (.normal, ⟨tm2, H1, []⟩) ∧ tm2.length = 85 ∧ tm2[0]? = some (vi b) ∧ tm2[1]? = some (vt) ∧ tm2[7]? = some (.slice A7 0 0 b b true 32) ∧ tm2[8]? = some (v8') ∧ tm2[9]? = some (vi i) ∧ tm2[10]? = some (v10) ∧ tm2[11]? = some (vi k) ∧ tm2[12]? = some (vp H.next) ∧ tm2[33]? = some (abool true) := by
    refine ⟨?e2w, ?e2a, ?e2b0, ?e2b1, ?e2b2, ?e2b3, ?e2b4, ?e2b5, ?e2b6, ?e2b7, ?e2b8, ?e2b9⟩
    case e2a =>
      apply regN
      iterate 9 (apply stepN; · simp [-getElem?_pos, List.getElem?_set, l1, f1_1, f1_9, f1_11, hvt1, hi2, av2, av3, av4, hva1, hk, a2, a3, a4, AVal.cells, hlen35, hw1]; rfl)
      exact nilN (or := or)
    all_goals simp [-getElem?_pos, List.getElem?_set, l1, f1_0, f1_1, f1_7, f1_8, f1_9, f1_10, f1_11, f1_33]
  obtain ⟨tm3, e3, l3, f3_0, f3_1, f3_7, f3_8, f3_9, f3_10, f3_11, f3_12, f3_33, f3_61⟩ : ∃ tm3 : List AVal, aCode or true n (fstC (fstC (sndC (fstC (fstC (sndC (fstC (fstC (sndC (fstC (sndC (fstC (fstC (sndC (fstC (fstC (sndC (fstC (sndC (sndC (sndC (sndC (a40.code))))))))))))))))))))))) ⟨tm2, H1, []⟩ = some (.normal, ⟨tm3, H1, []⟩) ∧ tm3.length = 85 ∧ tm3[0]? = some (vi b) ∧ tm3[1]? = some (vt) ∧ tm3[7]? = some (.slice A7 0 0 b b true 32) ∧ tm3[8]? = some (v8') ∧ tm3[9]? = some (vi i) ∧ tm3[10]? = some (v10) ∧ tm3[11]? = some (vi k) ∧ tm3[12]? = some (vp H.next) ∧ tm3[33]? = some (abool true) ∧ tm3[61]? = some (abool false) := by
    refine ⟨?e3w, ?e3a, ?e3b0, ?e3b1, ?e3b2, ?e3b3, ?e3b4, ?e3b5, ?e3b6, ?e3b7, ?e3b8, ?e3b9, ?e3b10⟩
    case e3a =>
      apply regN
      iterate 19 (apply stepN; · simp [-getElem?_pos, List.getElem?_set, l2, f2_0, f2_12, hr1, hlen35, k0, k2, hkd, hb0, hb1]; rfl)
      exact nilN (or := or)
    all_goals simp [-getElem?_pos, List.getElem?_set, l2, f2_0, f2_1, f2_7, f2_8, f2_9, f2_10, f2_11, f2_12, f2_33]
  obtain ⟨tm4, e4, l4, f4_0, f4_1, f4_7, f4_8, f4_9, f4_10, f4_11, f4_12, f4_33, f4_61, f4_64⟩ : ∃ tm4 : List AVal, aCode or true n (fstC (sndC (sndC (fstC (fstC (sndC (fstC (fstC (sndC (fstC (sndC (fstC (fstC (sndC (fstC (fstC (sndC (fstC (sndC (sndC (sndC (sndC (a40.code))))))))))))))))))))))) ⟨tm3, H1, []⟩ = some (.normal, ⟨tm4, H1, []⟩) ∧ tm4.length = 85 ∧ tm4[0]? = some (vi b) ∧ tm4[1]? = some (vt) ∧ tm4[7]? = some (.slice A7 0 0 b b true 32) ∧ tm4[8]? = some (v8') ∧ tm4[9]? = some (vi i) ∧ tm4[10]? = some (v10) ∧ tm4[11]? = some (vi k) ∧ tm4[12]? = some (vp H.next) ∧ tm4[33]? = some (abool true) ∧ tm4[61]? = some (abool false) ∧ tm4[64]? = some (abool true) := by
    refine ⟨?e4w, ?e4a, ?e4b0, ?e4b1, ?e4b2, ?e4b3, ?e4b4, ?e4b5, ?e4b6, ?e4b7, ?e4b8, ?e4b9, ?e4b10, ?e4b11⟩
    case e4a =>
      apply regN
      iterate 3 (apply stepN; · simp [-getElem?_pos, List.getElem?_set, l3, f3_12, hr1, hlen35, k0, hkd]; rfl)
      exact nilN (or := or)
    all_goals simp [-getElem?_pos, List.getElem?_set, l3, f3_0, f3_1, f3_7, f3_8, f3_9, f3_10, f3_11, f3_12, f3_33, f3_61]
  obtain ⟨tm5, e5, l5, f5_0, f5_1, f5_7, f5_8, f5_9, f5_10, f5_11, f5_12, f5_33, f5_61, f5_64⟩ : ∃ tm5 : List AVal, aCode or true n (fstC (sndC (sndC (sndC (fstC (fstC (sndC (fstC (fstC (sndC (fstC (sndC (fstC (fstC (sndC (fstC (fstC (sndC (fstC (sndC (sndC (sndC (sndC (a40.code)))))))))))))))))))))))) ⟨tm4, H1, []⟩ = some (.normal, ⟨tm5, H2, []⟩) ∧ tm5.length = 85 ∧ tm5[0]? = some (vi b) ∧ tm5[1]? = some (vt) ∧ tm5[7]? = some (.slice A7 0 0 b b true 32) ∧ tm5[8]? = some (v8') ∧ tm5[9]? = some (vi i) ∧ tm5[10]? = some (v10) ∧ tm5[11]? = some (vi k) ∧ tm5[12]? = some (vp H.next) ∧ tm5[33]? = some (abool true) ∧ tm5[61]? = some (abool false) ∧ tm5[64]? = some (abool true) := by
    refine ⟨?e5w, ?e5a, ?e5b0, ?e5b1, ?e5b2, ?e5b3, ?e5b4, ?e5b5, ?e5b6, ?e5b7, ?e5b8, ?e5b9, ?e5b10, ?e5b11⟩
    case e5a =>
      apply regN
      iterate 7 (apply stepN; · simp [-getElem?_pos, List.getElem?_set, l4, f4_7, f4_12, hr1, hlen35, k2, k3, b0, b1, AVal.cells, hvl, hw2]; rfl)
      exact nilN (or := or)
    all_goals simp [-getElem?_pos, List.getElem?_set, l4, f4_0, f4_1, f4_7, f4_8, f4_9, f4_10, f4_11, f4_12, f4_33, f4_61, f4_64]
  obtain ⟨tm6, e6, l6, f6_0, f6_1, f6_7, f6_8, f6_9, f6_10, f6_11, f6_12, f6_33, f6_61, f6_64⟩ : ∃ tm6 : List AVal, aCode or true n (sndC (sndC (fstC (fstC (sndC (fstC (sndC (fstC (fstC (sndC (fstC (fstC (sndC (fstC (sndC (sndC (sndC (sndC (a40.code))))))))))))))))))) ⟨tm5, H2, []⟩ = some (.normal, ⟨tm6, H2, []⟩) ∧ tm6.length = 85 ∧ tm6[0]? = some (vi b) ∧ tm6[1]? = some (vt) ∧ tm6[7]? = some (.slice A7 0 0 b b true 32) ∧ tm6[8]? = some (v8') ∧ tm6[9]? = some (vi i) ∧ tm6[10]? = some (v10) ∧ tm6[11]? = some (vi ((k : Int) + 1)) ∧ tm6[12]? = some (vp H.next) ∧ tm6[33]? = some (abool true) ∧ tm6[61]? = some (abool false) ∧ tm6[64]? = some (abool true) := by
    refine ⟨?e6w, ?e6a, ?e6b0, ?e6b1, ?e6b2, ?e6b3, ?e6b4, ?e6b5, ?e6b6, ?e6b7, ?e6b8, ?e6b9, ?e6b10, ?e6b11⟩
    case e6a =>
      apply regN
      iterate 3 (apply stepN; · simp [-getElem?_pos, List.getElem?_set, l5, f5_11, w]; rfl)
      exact nilN (or := or)
    all_goals simp [-getElem?_pos, List.getElem?_set, l5, f5_0, f5_1, f5_7, f5_8, f5_9, f5_10, f5_11, f5_12, f5_33, f5_61, f5_64]
  exact ⟨H2, v10, tm6, (seqN (seqN e1 (condT f1_33 skipN)) (seqN (blkN (seqN e2 (seqN (seqN e3 (condF f3_61 skipN)) (seqN e4 (condT f4_64 e5))))) e6)), l6, f6_0, f6_1, f6_7, f6_8, f6_9, f6_10, f6_11, cm2, hs2, hn2, hk2⟩

theorem it40r (or : Oracle) (n : Nat) (b : Nat) (hb64 : b ≤ 64) (H : AHeap) (vt : AVal) (avt : List AVal) (txs : List (List OpD)) (ht : TxsAt H vt avt txs) (i : Nat) (va : AVal) (t : List OpD) (hva : avt[i]? = some va) (hti : txs[i]? = some t) (k : Nat) (o : OpD) (ho : t[k]? = some o)
    (m : Map) (hm : m.length = b) (hmv : ∀ v ∈ m, IsVal v) (A7 N : Nat) (hA : A7 < N) (hN : N ≤ H.next) (cm : Cells H A7 m.flatten) (v10 : AVal) (told : List (List AVal)) (hs : SliceE H N 32 v10 told) (htold : told.length ≤ k) (v8' : AVal) (hbad : ¬ o.bad b) (hkd : o.kind = 2) (tm : List AVal) (len : tm.length = 85) (t0 : tm[0]? = some (vi b)) (t1 : tm[1]? = some (vt)) (t7 : tm[7]? = some (.slice A7 0 0 b b true 32)) (t8 : tm[8]? = some (v8')) (t9 : tm[9]? = some (vi i)) (t10 : tm[10]? = some (v10)) (t11 : tm[11]? = some (vi k)) :
    ∃ H' v' tm', aCode or true n (fstC (fstC (sndC (fstC (sndC (fstC (fstC (sndC (fstC (fstC (sndC (fstC (sndC (sndC (sndC (sndC (a40.code))))))))))))))))) ⟨tm, H, []⟩ = some (.normal, ⟨tm', H', []⟩) ∧ tm'.length = 85 ∧ tm'[0]? = some (vi b) ∧ tm'[1]? = some (vt) ∧ tm'[7]? = some (.slice A7 0 0 b b true 32) ∧ tm'[8]? = some (v8') ∧ tm'[9]? = some (vi i) ∧ tm'[10]? = some (v') ∧ tm'[11]? = some (vi ((k : Int) + 1)) ∧ Cells H' A7 (opM m o).flatten ∧ SliceE H' N 32 v' (told ++ toldO m o) ∧ H.next ≤ H'.next ∧ (∀ A, A < N → A ≠ A7 → H'.get A = H.get A) := by
  have hi := (List.getElem?_eq_some_iff.1 hti).1
  have hlen := ht.len
  have hi2 : i < avt.length := by omega
  obtain ⟨ra, hlies⟩ := ht.at_ i va t hva hti
  have la := ra.lenS
  rw [List.length_map] at la
  have hl := ht.small t (List.mem_of_getElem? hti)
  have hok := ht.ok t (List.mem_of_getElem? hti) o (List.mem_of_getElem? ho)
  have hrd := ht.rd
  have key : ∃ R ver off kc ex cells, vt = .slice R ver off avt.length kc ex 1 ∧ H.rowAt R ver = some cells ∧ off + i + 1 ≤ cells.length ∧ cells[off + i]? = some va := by
    obtain ⟨R, ver, off, kc, ex, cells, e1, a2, a3, a4⟩ := hrd.at (i := i) (e := [va]) (by simp [hva])
    rw [List.length_map] at e1
    refine ⟨R, ver, off, kc, ex, cells, e1, a2, by omega, ?_⟩
    have := part_at a4 (j := 0) (by omega)
    simpa using this
  obtain ⟨Rv, verv, offv, kcv, exv, cellsv, hvt1, av2, av3, av4⟩ := key
  have hk := (List.getElem?_eq_some_iff.1 ho).1
  have hk' : (k : Int) < t.length := by omega
  have w : wrapF .i64 ((k : Int) + 1) = ((k : Int) + 1) := wrapI (by omega) (by omega)
  have hlen35 := hok.len
  have k0 := o.at0
  have k2 := o.at2
  have k3 := o.at3 hok
  have hvl := hok.val.len
  obtain ⟨R, ver, off, kc, ex, cells, hva1, a2, a3, a4⟩ := ra.at (i := k) (e := o.cells) (by simp [ho])
  rw [List.length_map] at *
  obtain ⟨H1, hw1, g1, hc1, n1⟩ := newCells H (z := [vi 0, anil, vi 0, v8 0, v8 0, v8 0, v8 0, v8 0, v8 0, v8 0, v8 0, v8 0, v8 0, v8 0, v8 0, v8 0, v8 0, v8 0, v8 0, v8 0, v8 0, v8 0, v8 0, v8 0, v8 0, v8 0, v8 0, v8 0, v8 0, v8 0, v8 0, v8 0, v8 0, v8 0, v8 0]) (e := o.cells) (by rw [hlen35]; rfl) (by rw [hlen35]; omega) hok.allone
  have hr1 := hc1.at
  have hbad' := hbad
  unfold OpD.bad at hbad'
  have b0 : 0 ≤ o.blk := by omega
  have b1 : o.blk < b := by omega
  have b2 : o.blk.toNat < b := by omega
  have hb0 : ¬ o.blk < 0 := by omega
  have hb1 : ¬ (b : Int) ≤ o.blk := by omega
  have cm1 : Cells H1 A7 m.flatten := cm.mono (g1.get _ (by omega))
  have hfl := flatten_len (n := 32) (es := m) fun v hv => (hmv v hv).len
  rw [hm] at hfl
  have hrm := cm1.at
  have hmx : m[o.blk.toNat]? = some (m.getD o.blk.toNat zeroV) := by
    rw [List.getD_eq_getElem?_getD, List.getElem?_eq_getElem (by omega)]; rfl
  have hmv0 : IsVal (m.getD o.blk.toNat zeroV) := hmv _ (List.mem_of_getElem? hmx)
  have hmv1 : (m.flatten.drop (o.blk.toNat * 32)).take 32 = m.getD o.blk.toNat zeroV := flatten_at _ _ (fun v hv => (hmv v hv).len) hmx
  have hmvl := hmv0.len
  have e0 : toldO m o = [m.getD o.blk.toNat zeroV] := by simp [toldO, hkd]
  rw [e0]
  generalize m.getD o.blk.toNat zeroV = mv at hmx hmv0 hmv1 hmvl
  have hbd : o.blk.toNat * 32 + 32 ≤ m.flatten.length := by omega
  have hX : (H1.push (.row [some (0, mv)])).rowAt H1.next 0 = some mv := by unfold AHeap.rowAt; rw [AHeap.get_push_same]; rfl
  have hs1 : SliceE (H1.push (.row [some (0, mv)])) N 32 v10 told := hs.move (Nat.le_refl _) (by simp; have := g1.next; omega) fun A _ hA => by rw [AHeap.get_push_ne _ _ (by have := g1.next; omega), g1.get A hA]
  obtain ⟨v'', H3, happ, hs2, hn3, hk3, _, _⟩ := hs1.append (bytes := 32) (by simp; have := g1.next; omega) hX hmvl (by omega) (by omega) hmv0.one (by omega) (ex := true) (kc := 1)
  have hn2 : H.next ≤ H3.next := by have := g1.next; simp at hn3; omega
  have cm2' : Cells H3 A7 m.flatten := cm1.mono (by rw [hk3 _ hA, AHeap.get_push_ne _ _ (by omega)])
  have cm2 : Cells H3 A7 (opM m o).flatten := by
    have : opM m o = m := by simp [opM, hkd]
    rw [this]; exact cm2'
  have hk2 : ∀ A, A < N → A ≠ A7 → H3.get A = H.get A := fun A a1 a2 => by rw [hk3 A a1, AHeap.get_push_ne _ _ (by have := g1.next; omega), g1.get A (by omega)]
  obtain ⟨tm1, e1, l1, f1_0, f1_1, f1_7, f1_8, f1_9, f1_10, f1_11, f1_33⟩ : ∃ tm1 : List AVal, aCode or true n (fstC (fstC (fstC (fstC (sndC (fstC (sndC (fstC (fstC (sndC (fstC (fstC (sndC (fstC (sndC (sndC (sndC (sndC (a40.code))))))))))))))))))) ⟨tm, H, []⟩ = some (.normal, ⟨tm1, H, []⟩) ∧ tm1.length = 85 ∧ tm1[0]? = some (vi b) ∧ tm1[1]? = some (vt) ∧ tm1[7]? = some (.slice A7 0 0 b b true 32) ∧ tm1[8]? = some (v8') ∧ tm1[9]? = some (vi i) ∧ tm1[10]? = some (v10) ∧ tm1[11]? = some (vi k) ∧ tm1[33]? = some (abool true) := by
    refine ⟨?e1w, ?e1a, ?e1b0, ?e1b1, ?e1b2, ?e1b3, ?e1b4, ?e1b5, ?e1b6, ?e1b7, ?e1b8⟩
    case e1a =>
      apply regN
      iterate 7 (apply stepN; · simp [-getElem?_pos, List.getElem?_set, len, t1, t9, t11, hvt1, hi2, av2, av3, av4, la, hk']; rfl)
      exact nilN (or := or)
    all_goals simp [-getElem?_pos, List.getElem?_set, len, t0, t1, t7, t8, t9, t10, t11]
  obtain ⟨tm2, e2, l2, f2_0, f2_1, f2_7, f2_8, f2_9, f2_10, f2_11, f2_12, f2_33⟩ : ∃ tm2 : List AVal, aCode or true n (fstC (fstC (fstC (sndC (fstC (fstC (sndC (fstC (sndC (fstC (fstC (sndC (fstC (fstC (sndC (fstC (sndC (sndC (sndC (sndC (a40.code))))))))))))))))))))) ⟨tm1, H, []⟩ = some (.normal, ⟨tm2, H1, []⟩) ∧ tm2.length = 85 ∧ tm2[0]? = some (vi b) ∧ tm2[1]? = some (vt) ∧ tm2[7]? = some (.slice A7 0 0 b b true 32) ∧ tm2[8]? = some (v8') ∧ tm2[9]? = some (vi i) ∧ tm2[10]? = some (v10) ∧ tm2[11]? = some (vi k) ∧ tm2[12]? = some (vp H.next) ∧ tm2[33]? = some (abool true) := by
    refine ⟨?e2w, ?e2a, ?e2b0, ?e2b1, ?e2b2, ?e2b3, ?e2b4, ?e2b5, ?e2b6, ?e2b7, ?e2b8, ?e2b9⟩
    case e2a =>
      apply regN
      iterate 9 (apply stepN; · simp [-getElem?_pos, List.getElem?_set, l1, f1_1, f1_9, f1_11, hvt1, hi2, av2, av3, av4, hva1, hk, a2, a3, a4, AVal.cells, hlen35, hw1]; rfl)
      exact nilN (or := or)
    all_goals simp [-getElem?_pos, List.getElem?_set, l1, f1_0, f1_1, f1_7, f1_8, f1_9, f1_10, f1_11, f1_33]
  obtain ⟨tm3, e3, l3, f3_0, f3_1, f3_7, f3_8, f3_9, f3_10, f3_11, f3_12, f3_33, f3_61⟩ : ∃ tm3 : List AVal, aCode or true n (fstC (fstC (sndC (fstC (fstC (sndC (fstC (fstC (sndC (fstC (sndC (fstC (fstC (sndC (fstC (fstC (sndC (fstC (sndC (sndC (sndC (sndC (a40.code))))))))))))))))))))))) ⟨tm2, H1, []⟩ = some (.normal, ⟨tm3, H1, []⟩) ∧ tm3.length = 85 ∧ tm3[0]? = some (vi b) ∧ tm3[1]? = some (vt) ∧ tm3[7]? = some (.slice A7 0 0 b b true 32) ∧ tm3[8]? = some (v8') ∧ tm3[9]? = some (vi i) ∧ tm3[10]? = some (v10) ∧ tm3[11]? = some (vi k) ∧ tm3[12]? = some (vp H.next) ∧ tm3[33]? = some (abool true) ∧ tm3[61]? = some (abool false) := by
    refine ⟨?e3w, ?e3a, ?e3b0, ?e3b1, ?e3b2, ?e3b3, ?e3b4, ?e3b5, ?e3b6, ?e3b7, ?e3b8, ?e3b9, ?e3b10⟩
    case e3a =>
      apply regN
      iterate 19 (apply stepN; · simp [-getElem?_pos, List.getElem?_set, l2, f2_0, f2_12, hr1, hlen35, k0, k2, hkd, hb0, hb1]; rfl)
      exact nilN (or := or)
    all_goals simp [-getElem?_pos, List.getElem?_set, l2, f2_0, f2_1, f2_7, f2_8, f2_9, f2_10, f2_11, f2_12, f2_33]
  obtain ⟨tm4, e4, l4, f4_0, f4_1, f4_7, f4_8, f4_9, f4_10, f4_11, f4_12, f4_33, f4_61, f4_64⟩ : ∃ tm4 : List AVal, aCode or true n (fstC (sndC (sndC (fstC (fstC (sndC (fstC (fstC (sndC (fstC (sndC (fstC (fstC (sndC (fstC (fstC (sndC (fstC (sndC (sndC (sndC (sndC (a40.code))))))))))))))))))))))) ⟨tm3, H1, []⟩ = some (.normal, ⟨tm4, H1, []⟩) ∧ tm4.length = 85 ∧ tm4[0]? = some (vi b) ∧ tm4[1]? = some (vt) ∧ tm4[7]? = some (.slice A7 0 0 b b true 32) ∧ tm4[8]? = some (v8') ∧ tm4[9]? = some (vi i) ∧ tm4[10]? = some (v10) ∧ tm4[11]? = some (vi k) ∧ tm4[12]? = some (vp H.next) ∧ tm4[33]? = some (abool true) ∧ tm4[61]? = some (abool false) ∧ tm4[64]? = some (abool false) := by
    refine ⟨?e4w, ?e4a, ?e4b0, ?e4b1, ?e4b2, ?e4b3, ?e4b4, ?e4b5, ?e4b6, ?e4b7, ?e4b8, ?e4b9, ?e4b10, ?e4b11⟩
    case e4a =>
      apply regN
      iterate 3 (apply stepN; · simp [-getElem?_pos, List.getElem?_set, l3, f3_12, hr1, hlen35, k0, hkd]; rfl)
      exact nilN (or := or)
    all_goals simp [-getElem?_pos, List.getElem?_set, l3, f3_0, f3_1, f3_7, f3_8, f3_9, f3_10, f3_11, f3_12, f3_33, f3_61]
  obtain ⟨tm5, e5, l5, f5_0, f5_1, f5_7, f5_8, f5_9, f5_10, f5_11, f5_12, f5_33, f5_61, f5_64⟩ : ∃ tm5 : List AVal, aCode or true n (sndC (sndC (sndC (sndC (fstC (fstC (sndC (fstC (fstC (sndC (fstC (sndC (fstC (fstC (sndC (fstC (fstC (sndC (fstC (sndC (sndC (sndC (sndC (a40.code)))))))))))))))))))))))) ⟨tm4, H1, []⟩ = some (.normal, ⟨tm5, H3, []⟩) ∧ tm5.length = 85 ∧ tm5[0]? = some (vi b) ∧ tm5[1]? = some (vt) ∧ tm5[7]? = some (.slice A7 0 0 b b true 32) ∧ tm5[8]? = some (v8') ∧ tm5[9]? = some (vi i) ∧ tm5[10]? = some (v'') ∧ tm5[11]? = some (vi k) ∧ tm5[12]? = some (vp H.next) ∧ tm5[33]? = some (abool true) ∧ tm5[61]? = some (abool false) ∧ tm5[64]? = some (abool false) := by
    refine ⟨?e5w, ?e5a, ?e5b0, ?e5b1, ?e5b2, ?e5b3, ?e5b4, ?e5b5, ?e5b6, ?e5b7, ?e5b8, ?e5b9, ?e5b10, ?e5b11⟩
    case e5a =>
      apply regN
      iterate 9 (apply stepN; · simp [-getElem?_pos, -List.length_flatten, List.getElem?_set, l4, f4_7, f4_10, f4_12, hr1, hrm, hlen35, k2, b0, b1, hbd, hmv1, hmvl, repl, aFill, spl, AVal.cells, happ]; rfl)
      exact nilN (or := or)
    all_goals simp [-getElem?_pos, List.getElem?_set, l4, f4_0, f4_1, f4_7, f4_8, f4_9, f4_10, f4_11, f4_12, f4_33, f4_61, f4_64]
  obtain ⟨tm6, e6, l6, f6_0, f6_1, f6_7, f6_8, f6_9, f6_10, f6_11, f6_12, f6_33, f6_61, f6_64⟩ : ∃ tm6 : List AVal, aCode or true n (sndC (sndC (fstC (fstC (sndC (fstC (sndC (fstC (fstC (sndC (fstC (fstC (sndC (fstC (sndC (sndC (sndC (sndC (a40.code))))))))))))))))))) ⟨tm5, H3, []⟩ = some (.normal, ⟨tm6, H3, []⟩) ∧ tm6.length = 85 ∧ tm6[0]? = some (vi b) ∧ tm6[1]? = some (vt) ∧ tm6[7]? = some (.slice A7 0 0 b b true 32) ∧ tm6[8]? = some (v8') ∧ tm6[9]? = some (vi i) ∧ tm6[10]? = some (v'') ∧ tm6[11]? = some (vi ((k : Int) + 1)) ∧ tm6[12]? = some (vp H.next) ∧ tm6[33]? = some (abool true) ∧ tm6[61]? = some (abool false) ∧ tm6[64]? = some (abool false) := by
    refine ⟨?e6w, ?e6a, ?e6b0, ?e6b1, ?e6b2, ?e6b3, ?e6b4, ?e6b5, ?e6b6, ?e6b7, ?e6b8, ?e6b9, ?e6b10, ?e6b11⟩
    case e6a =>
      apply regN
      iterate 3 (apply stepN; · simp [-getElem?_pos, List.getElem?_set, l5, f5_11, w]; rfl)
      exact nilN (or := or)
    all_goals simp [-getElem?_pos, List.getElem?_set, l5, f5_0, f5_1, f5_7, f5_8, f5_9, f5_10, f5_11, f5_12, f5_33, f5_61, f5_64]
  exact ⟨H3, v'', tm6, (seqN (seqN e1 (condT f1_33 skipN)) (seqN (blkN (seqN e2 (seqN (seqN e3 (condF f3_61 skipN)) (seqN e4 (condF f4_64 e5))))) e6)), l6, f6_0, f6_1, f6_7, f6_8, f6_9, f6_10, f6_11, cm2, hs2, hn2, hk2⟩

theorem it40bn (or : Oracle) (n : Nat) (b : Nat) (hb64 : b ≤ 64) (H : AHeap) (vt : AVal) (avt : List AVal) (txs : List (List OpD)) (ht : TxsAt H vt avt txs) (i : Nat) (va : AVal) (t : List OpD) (hva : avt[i]? = some va) (hti : txs[i]? = some t) (k : Nat) (o : OpD) (ho : t[k]? = some o) (A7 : Nat) (v10 v8' : AVal) (hkd : o.kind ≠ 2) (hkd' : o.kind ≠ 3) (tm : List AVal) (len : tm.length = 85) (t0 : tm[0]? = some (vi b)) (t1 : tm[1]? = some (vt)) (t7 : tm[7]? = some (.slice A7 0 0 b b true 32)) (t8 : tm[8]? = some (v8')) (t9 : tm[9]? = some (vi i)) (t10 : tm[10]? = some (v10)) (t11 : tm[11]? = some (vi k)) :
    ∃ H' tm', aCode or true n (fstC (fstC (sndC (fstC (sndC (fstC (fstC (sndC (fstC (fstC (sndC (fstC (sndC (sndC (sndC (sndC (a40.code))))))))))))))))) ⟨tm, H, []⟩ = some (.ret, ⟨tm', H', []⟩) ∧ tm'.length = 85 ∧ tm'[4]? = some (anil) ∧ tm'[5]? = some (anil) ∧ tm'[6]? = some (vi 2) ∧ Grow H H' := by
  have hi := (List.getElem?_eq_some_iff.1 hti).1
  have hlen := ht.len
  have hi2 : i < avt.length := by omega
  obtain ⟨ra, hlies⟩ := ht.at_ i va t hva hti
  have la := ra.lenS
  rw [List.length_map] at la
  have hl := ht.small t (List.mem_of_getElem? hti)
  have hok := ht.ok t (List.mem_of_getElem? hti) o (List.mem_of_getElem? ho)
  have hrd := ht.rd
  have key : ∃ R ver off kc ex cells, vt = .slice R ver off avt.length kc ex 1 ∧ H.rowAt R ver = some cells ∧ off + i + 1 ≤ cells.length ∧ cells[off + i]? = some va := by
    obtain ⟨R, ver, off, kc, ex, cells, e1, a2, a3, a4⟩ := hrd.at (i := i) (e := [va]) (by simp [hva])
    rw [List.length_map] at e1
    refine ⟨R, ver, off, kc, ex, cells, e1, a2, by omega, ?_⟩
    have := part_at a4 (j := 0) (by omega)
    simpa using this
  obtain ⟨Rv, verv, offv, kcv, exv, cellsv, hvt1, av2, av3, av4⟩ := key
  have hk := (List.getElem?_eq_some_iff.1 ho).1
  have hk' : (k : Int) < t.length := by omega
  have w : wrapF .i64 ((k : Int) + 1) = ((k : Int) + 1) := wrapI (by omega) (by omega)
  have hlen35 := hok.len
  have k0 := o.at0
  have k2 := o.at2
  have k3 := o.at3 hok
  have hvl := hok.val.len
  obtain ⟨R, ver, off, kc, ex, cells, hva1, a2, a3, a4⟩ := ra.at (i := k) (e := o.cells) (by simp [ho])
  rw [List.length_map] at *
  obtain ⟨H1, hw1, g1, hc1, n1⟩ := newCells H (z := [vi 0, anil, vi 0, v8 0, v8 0, v8 0, v8 0, v8 0, v8 0, v8 0, v8 0, v8 0, v8 0, v8 0, v8 0, v8 0, v8 0, v8 0, v8 0, v8 0, v8 0, v8 0, v8 0, v8 0, v8 0, v8 0, v8 0, v8 0, v8 0, v8 0, v8 0, v8 0, v8 0, v8 0, v8 0]) (e := o.cells) (by rw [hlen35]; rfl) (by rw [hlen35]; omega) hok.allone
  have hr1 := hc1.at
  have hx0 := hkd
  have hx1 := hkd'
  have hx2 := hkd
  obtain ⟨tm1, e1, l1, f1_0, f1_1, f1_7, f1_8, f1_9, f1_10, f1_11, f1_33⟩ : ∃ tm1 : List AVal, aCode or true n (fstC (fstC (fstC (fstC (sndC (fstC (sndC (fstC (fstC (sndC (fstC (fstC (sndC (fstC (sndC (sndC (sndC (sndC (a40.code))))))))))))))))))) ⟨tm, H, []⟩ = some (.normal, ⟨tm1, H, []⟩) ∧ tm1.length = 85 ∧ tm1[0]? = some (vi b) ∧ tm1[1]? = some (vt) ∧ tm1[7]? = some (.slice A7 0 0 b b true 32) ∧ tm1[8]? = some (v8') ∧ tm1[9]? = some (vi i) ∧ tm1[10]? = some (v10) ∧ tm1[11]? = some (vi k) ∧ tm1[33]? = some (abool true) := by
    refine ⟨?e1w, ?e1a, ?e1b0, ?e1b1, ?e1b2, ?e1b3, ?e1b4, ?e1b5, ?e1b6, ?e1b7, ?e1b8⟩
    case e1a =>
      apply regN
      iterate 7 (apply stepN; · simp [-getElem?_pos, List.getElem?_set, len, t1, t9, t11, hvt1, hi2, av2, av3, av4, la, hk']; rfl)
      exact nilN (or := or)
    all_goals simp [-getElem?_pos, List.getElem?_set, len, t0, t1, t7, t8, t9, t10, t11]
  obtain ⟨tm2, e2, l2, f2_0, f2_1, f2_7, f2_8, f2_9, f2_10, f2_11, f2_12, f2_33⟩ : ∃ tm2 : List AVal, aCode or true n (fstC (fstC (fstC (sndC (fstC (fstC (sndC (fstC (sndC (fstC (fstC (sndC (fstC (fstC (sndC (fstC (sndC (sndC (sndC (sndC (a40.code))))))))))))))))))))) ⟨tm1, H, []⟩ = some (.normal, ⟨tm2, H1, []⟩) ∧ tm2.length = 85 ∧ tm2[0]? = some (vi b) ∧ tm2[1]? = some (vt) ∧ tm2[7]? = some (.slice A7 0 0 b b true 32) ∧ tm2[8]? = some (v8') ∧ tm2[9]? = some (vi i) ∧ tm2[10]? = some (v10) ∧ tm2[11]? = some (vi k) ∧ tm2[12]? = some (vp H.next) ∧ tm2[33]? = some (abool true) := by
    refine ⟨?e2w, ?e2a, ?e2b0, ?e2b1, ?e2b2, ?e2b3, ?e2b4, ?e2b5, ?e2b6, ?e2b7, ?e2b8, ?e2b9⟩
    case e2a =>
      apply regN
      iterate 9 (apply stepN; · simp [-getElem?_pos, List.getElem?_set, l1, f1_1, f1_9, f1_11, hvt1, hi2, av2, av3, av4, hva1, hk, a2, a3, a4, AVal.cells, hlen35, hw1]; rfl)
      exact nilN (or := or)
    all_goals simp [-getElem?_pos, List.getElem?_set, l1, f1_0, f1_1, f1_7, f1_8, f1_9, f1_10, f1_11, f1_33]
  obtain ⟨tm3, e3, l3, f3_0, f3_1, f3_7, f3_8, f3_9, f3_10, f3_11, f3_12, f3_33, f3_61⟩ : ∃ tm3 : List AVal, aCode or true n (fstC (fstC (sndC (fstC (fstC (sndC (fstC (fstC (sndC (fstC (sndC (fstC (fstC (sndC (fstC (fstC (sndC (fstC (sndC (sndC (sndC (sndC (a40.code))))))))))))))))))))))) ⟨tm2, H1, []⟩ = some (.normal, ⟨tm3, H1, []⟩) ∧ tm3.length = 85 ∧ tm3[0]? = some (vi b) ∧ tm3[1]? = some (vt) ∧ tm3[7]? = some (.slice A7 0 0 b b true 32) ∧ tm3[8]? = some (v8') ∧ tm3[9]? = some (vi i) ∧ tm3[10]? = some (v10) ∧ tm3[11]? = some (vi k) ∧ tm3[12]? = some (vp H.next) ∧ tm3[33]? = some (abool true) ∧ tm3[61]? = some (abool true) := by
    refine ⟨?e3w, ?e3a, ?e3b0, ?e3b1, ?e3b2, ?e3b3, ?e3b4, ?e3b5, ?e3b6, ?e3b7, ?e3b8, ?e3b9, ?e3b10⟩
    case e3a =>
      apply regN
      iterate 19 (apply stepN; · simp [-getElem?_pos, List.getElem?_set, l2, f2_0, f2_12, hr1, hlen35, k0, k2, hx0, hx1, hx2]; rfl)
      exact nilN (or := or)
    all_goals simp [-getElem?_pos, List.getElem?_set, l2, f2_0, f2_1, f2_7, f2_8, f2_9, f2_10, f2_11, f2_12, f2_33]
  obtain ⟨tm4, e4, l4, f4_0, f4_1, f4_4, f4_5, f4_6, f4_7, f4_8, f4_9, f4_10, f4_11, f4_12, f4_33, f4_61⟩ : ∃ tm4 : List AVal, aCode or true n (fstC (fstC (sndC (fstC (sndC (fstC (fstC (sndC (fstC (fstC (sndC (fstC (sndC (fstC (fstC (sndC (fstC (fstC (sndC (fstC (sndC (sndC (sndC (sndC (a40.code))))))))))))))))))))))))) ⟨tm3, H1, []⟩ = some (.normal, ⟨tm4, H1, []⟩) ∧ tm4.length = 85 ∧ tm4[0]? = some (vi b) ∧ tm4[1]? = some (vt) ∧ tm4[4]? = some (anil) ∧ tm4[5]? = some (anil) ∧ tm4[6]? = some (vi 2) ∧ tm4[7]? = some (.slice A7 0 0 b b true 32) ∧ tm4[8]? = some (v8') ∧ tm4[9]? = some (vi i) ∧ tm4[10]? = some (v10) ∧ tm4[11]? = some (vi k) ∧ tm4[12]? = some (vp H.next) ∧ tm4[33]? = some (abool true) ∧ tm4[61]? = some (abool true) := by
    refine ⟨?e4w, ?e4a, ?e4b0, ?e4b1, ?e4b2, ?e4b3, ?e4b4, ?e4b5, ?e4b6, ?e4b7, ?e4b8, ?e4b9, ?e4b10, ?e4b11, ?e4b12, ?e4b13⟩
    case e4a =>
      apply regN
      iterate 3 (apply stepN; · simp [-getElem?_pos, List.getElem?_set, l3]; rfl)
      exact nilN (or := or)
    all_goals simp [-getElem?_pos, List.getElem?_set, l3, f3_0, f3_1, f3_7, f3_8, f3_9, f3_10, f3_11, f3_12, f3_33, f3_61]
  exact ⟨H1, tm4, (seqN (seqN e1 (condT f1_33 skipN)) (seqX (blkR (seqN e2 (seqX (seqN e3 (condT f3_61 (seqN e4 retN))) (by simp)))) (by simp))), l4, f4_4, f4_5, f4_6, g1⟩

theorem it40b2l (or : Oracle) (n : Nat) (b : Nat) (hb64 : b ≤ 64) (H : AHeap) (vt : AVal) (avt : List AVal) (txs : List (List OpD)) (ht : TxsAt H vt avt txs) (i : Nat) (va : AVal) (t : List OpD) (hva : avt[i]? = some va) (hti : txs[i]? = some t) (k : Nat) (o : OpD) (ho : t[k]? = some o) (A7 : Nat) (v10 v8' : AVal) (hkd : o.kind = 2) (hb0 : o.blk < 0) (tm : List AVal) (len : tm.length = 85) (t0 : tm[0]? = some (vi b)) (t1 : tm[1]? = some (vt)) (t7 : tm[7]? = some (.slice A7 0 0 b b true 32)) (t8 : tm[8]? = some (v8')) (t9 : tm[9]? = some (vi i)) (t10 : tm[10]? = some (v10)) (t11 : tm[11]? = some (vi k)) :
    ∃ H' tm', aCode or true n (fstC (fstC (sndC (fstC (sndC (fstC (fstC (sndC (fstC (fstC (sndC (fstC (sndC (sndC (sndC (sndC (a40.code))))))))))))))))) ⟨tm, H, []⟩ = some (.ret, ⟨tm', H', []⟩) ∧ tm'.length = 85 ∧ tm'[4]? = some (anil) ∧ tm'[5]? = some (anil) ∧ tm'[6]? = some (vi 2) ∧ Grow H H' := by
  have hi := (List.getElem?_eq_some_iff.1 hti).1
  have hlen := ht.len
  have hi2 : i < avt.length := by omega
  obtain ⟨ra, hlies⟩ := ht.at_ i va t hva hti
  have la := ra.lenS
  rw [List.length_map] at la
  have hl := ht.small t (List.mem_of_getElem? hti)
  have hok := ht.ok t (List.mem_of_getElem? hti) o (List.mem_of_getElem? ho)
  have hrd := ht.rd
  have key : ∃ R ver off kc ex cells, vt = .slice R ver off avt.length kc ex 1 ∧ H.rowAt R ver = some cells ∧ off + i + 1 ≤ cells.length ∧ cells[off + i]? = some va := by
    obtain ⟨R, ver, off, kc, ex, cells, e1, a2, a3, a4⟩ := hrd.at (i := i) (e := [va]) (by simp [hva])
    rw [List.length_map] at e1
    refine ⟨R, ver, off, kc, ex, cells, e1, a2, by omega, ?_⟩
    have := part_at a4 (j := 0) (by omega)
    simpa using this
  obtain ⟨Rv, verv, offv, kcv, exv, cellsv, hvt1, av2, av3, av4⟩ := key
  have hk := (List.getElem?_eq_some_iff.1 ho).1
  have hk' : (k : Int) < t.length := by omega
  have w : wrapF .i64 ((k : Int) + 1) = ((k : Int) + 1) := wrapI (by omega) (by omega)
  have hlen35 := hok.len
  have k0 := o.at0
  have k2 := o.at2
  have k3 := o.at3 hok
  have hvl := hok.val.len
  obtain ⟨R, ver, off, kc, ex, cells, hva1, a2, a3, a4⟩ := ra.at (i := k) (e := o.cells) (by simp [ho])
  rw [List.length_map] at *
  obtain ⟨H1, hw1, g1, hc1, n1⟩ := newCells H (z := [vi 0, anil, vi 0, v8 0, v8 0, v8 0, v8 0, v8 0, v8 0, v8 0, v8 0, v8 0, v8 0, v8 0, v8 0, v8 0, v8 0, v8 0, v8 0, v8 0, v8 0, v8 0, v8 0, v8 0, v8 0, v8 0, v8 0, v8 0, v8 0, v8 0, v8 0, v8 0, v8 0, v8 0, v8 0]) (e := o.cells) (by rw [hlen35]; rfl) (by rw [hlen35]; omega) hok.allone
  have hr1 := hc1.at
  have hx0 := hkd
  have hx1 := hb0
  have hx2 := hb0
  obtain ⟨tm1, e1, l1, f1_0, f1_1, f1_7, f1_8, f1_9, f1_10, f1_11, f1_33⟩ : ∃ tm1 : List AVal, aCode or true n (fstC (fstC (fstC (fstC (sndC (fstC (sndC (fstC (fstC (sndC (fstC (fstC (sndC (fstC (sndC (sndC (sndC (sndC (a40.code))))))))))))))))))) ⟨tm, H, []⟩ = some (.normal, ⟨tm1, H, []⟩) ∧ tm1.length = 85 ∧ tm1[0]? = some (vi b) ∧ tm1[1]? = some (vt) ∧ tm1[7]? = some (.slice A7 0 0 b b true 32) ∧ tm1[8]? = some (v8') ∧ tm1[9]? = some (vi i) ∧ tm1[10]? = some (v10) ∧ tm1[11]? = some (vi k) ∧ tm1[33]? = some (abool true) := by
    refine ⟨?e1w, ?e1a, ?e1b0, ?e1b1, ?e1b2, ?e1b3, ?e1b4, ?e1b5, ?e1b6, ?e1b7, ?e1b8⟩
    case e1a =>
      apply regN
      iterate 7 (apply stepN; · simp [-getElem?_pos, List.getElem?_set, len, t1, t9, t11, hvt1, hi2, av2, av3, av4, la, hk']; rfl)
      exact nilN (or := or)
    all_goals simp [-getElem?_pos, List.getElem?_set, len, t0, t1, t7, t8, t9, t10, t11]
  obtain ⟨tm2, e2, l2, f2_0, f2_1, f2_7, f2_8, f2_9, f2_10, f2_11, f2_12, f2_33⟩ : ∃ tm2 : List AVal, aCode or true n (fstC (fstC (fstC (sndC (fstC (fstC (sndC (fstC (sndC (fstC (fstC (sndC (fstC (fstC (sndC (fstC (sndC (sndC (sndC (sndC (a40.code))))))))))))))))))))) ⟨tm1, H, []⟩ = some (.normal, ⟨tm2, H1, []⟩) ∧ tm2.length = 85 ∧ tm2[0]? = some (vi b) ∧ tm2[1]? = some (vt) ∧ tm2[7]? = some (.slice A7 0 0 b b true 32) ∧ tm2[8]? = some (v8') ∧ tm2[9]? = some (vi i) ∧ tm2[10]? = some (v10) ∧ tm2[11]? = some (vi k) ∧ tm2[12]? = some (vp H.next) ∧ tm2[33]? = some (abool true) := by
    refine ⟨?e2w, ?e2a, ?e2b0, ?e2b1, ?e2b2, ?e2b3, ?e2b4, ?e2b5, ?e2b6, ?e2b7, ?e2b8, ?e2b9⟩
    case e2a =>
      apply regN
      iterate 9 (apply stepN; · simp [-getElem?_pos, List.getElem?_set, l1, f1_1, f1_9, f1_11, hvt1, hi2, av2, av3, av4, hva1, hk, a2, a3, a4, AVal.cells, hlen35, hw1]; rfl)
      exact nilN (or := or)
    all_goals simp [-getElem?_pos, List.getElem?_set, l1, f1_0, f1_1, f1_7, f1_8, f1_9, f1_10, f1_11, f1_33]
  obtain ⟨tm3, e3, l3, f3_0, f3_1, f3_7, f3_8, f3_9, f3_10, f3_11, f3_12, f3_33, f3_61⟩ : ∃ tm3 : List AVal, aCode or true n (fstC (fstC (sndC (fstC (fstC (sndC (fstC (fstC (sndC (fstC (sndC (fstC (fstC (sndC (fstC (fstC (sndC (fstC (sndC (sndC (sndC (sndC (a40.code))))))))))))))))))))))) ⟨tm2, H1, []⟩ = some (.normal, ⟨tm3, H1, []⟩) ∧ tm3.length = 85 ∧ tm3[0]? = some (vi b) ∧ tm3[1]? = some (vt) ∧ tm3[7]? = some (.slice A7 0 0 b b true 32) ∧ tm3[8]? = some (v8') ∧ tm3[9]? = some (vi i) ∧ tm3[10]? = some (v10) ∧ tm3[11]? = some (vi k) ∧ tm3[12]? = some (vp H.next) ∧ tm3[33]? = some (abool true) ∧ tm3[61]? = some (abool true) := by
    refine ⟨?e3w, ?e3a, ?e3b0, ?e3b1, ?e3b2, ?e3b3, ?e3b4, ?e3b5, ?e3b6, ?e3b7, ?e3b8, ?e3b9, ?e3b10⟩
    case e3a =>
      apply regN
      iterate 19 (apply stepN; · simp [-getElem?_pos, List.getElem?_set, l2, f2_0, f2_12, hr1, hlen35, k0, k2, hx0, hx1, hx2]; rfl)
      exact nilN (or := or)
    all_goals simp [-getElem?_pos, List.getElem?_set, l2, f2_0, f2_1, f2_7, f2_8, f2_9, f2_10, f2_11, f2_12, f2_33]
  obtain ⟨tm4, e4, l4, f4_0, f4_1, f4_4, f4_5, f4_6, f4_7, f4_8, f4_9, f4_10, f4_11, f4_12, f4_33, f4_61⟩ : ∃ tm4 : List AVal, aCode or true n (fstC (fstC (sndC (fstC (sndC (fstC (fstC (sndC (fstC (fstC (sndC (fstC (sndC (fstC (fstC (sndC (fstC (fstC (sndC (fstC (sndC (sndC (sndC (sndC (a40.code))))))))))))))))))))))))) ⟨tm3, H1, []⟩ = some (.normal, ⟨tm4, H1, []⟩) ∧ tm4.length = 85 ∧ tm4[0]? = some (vi b) ∧ tm4[1]? = some (vt) ∧ tm4[4]? = some (anil) ∧ tm4[5]? = some (anil) ∧ tm4[6]? = some (vi 2) ∧ tm4[7]? = some (.slice A7 0 0 b b true 32) ∧ tm4[8]? = some (v8') ∧ tm4[9]? = some (vi i) ∧ tm4[10]? = some (v10) ∧ tm4[11]? = some (vi k) ∧ tm4[12]? = some (vp H.next) ∧ tm4[33]? = some (abool true) ∧ tm4[61]? = some (abool true) := by
    refine ⟨?e4w, ?e4a, ?e4b0, ?e4b1, ?e4b2, ?e4b3, ?e4b4, ?e4b5, ?e4b6, ?e4b7, ?e4b8, ?e4b9, ?e4b10, ?e4b11, ?e4b12, ?e4b13⟩
    case e4a =>
      apply regN
      iterate 3 (apply stepN; · simp [-getElem?_pos, List.getElem?_set, l3]; rfl)
      exact nilN (or := or)
    all_goals simp [-getElem?_pos, List.getElem?_set, l3, f3_0, f3_1, f3_7, f3_8, f3_9, f3_10, f3_11, f3_12, f3_33, f3_61]
  exact ⟨H1, tm4, (seqN (seqN e1 (condT f1_33 skipN)) (seqX (blkR (seqN e2 (seqX (seqN e3 (condT f3_61 (seqN e4 retN))) (by simp)))) (by simp))), l4, f4_4, f4_5, f4_6, g1⟩

theorem it40b3l (or : Oracle) (n : Nat) (b : Nat) (hb64 : b ≤ 64) (H : AHeap) (vt : AVal) (avt : List AVal) (txs : List (List OpD)) (ht : TxsAt H vt avt txs) (i : Nat) (va : AVal) (t : List OpD) (hva : avt[i]? = some va) (hti : txs[i]? = some t) (k : Nat) (o : OpD) (ho : t[k]? = some o) (A7 : Nat) (v10 v8' : AVal) (hkd : o.kind = 3) (hb0 : o.blk < 0) (tm : List AVal) (len : tm.length = 85) (t0 : tm[0]? = some (vi b)) (t1 : tm[1]? = some (vt)) (t7 : tm[7]? = some (.slice A7 0 0 b b true 32)) (t8 : tm[8]? = some (v8')) (t9 : tm[9]? = some (vi i)) (t10 : tm[10]? = some (v10)) (t11 : tm[11]? = some (vi k)) :
    ∃ H' tm', aCode or true n (fstC (fstC (sndC (fstC (sndC (fstC (fstC (sndC (fstC (fstC (sndC (fstC (sndC (sndC (sndC (sndC (a40.code))))))))))))))))) ⟨tm, H, []⟩ = some (.ret, ⟨tm', H', []⟩) ∧ tm'.length = 85 ∧ tm'[4]? = some (anil) ∧ tm'[5]? = some (anil) ∧ tm'[6]? = some (vi 2) ∧ Grow H H' := by
  have hi := (List.getElem?_eq_some_iff.1 hti).1
  have hlen := ht.len
  have hi2 : i < avt.length := by omega
  obtain ⟨ra, hlies⟩ := ht.at_ i va t hva hti
  have la := ra.lenS
  rw [List.length_map] at la
  have hl := ht.small t (List.mem_of_getElem? hti)
  have hok := ht.ok t (List.mem_of_getElem? hti) o (List.mem_of_getElem? ho)
  have hrd := ht.rd
  have key : ∃ R ver off kc ex cells, vt = .slice R ver off avt.length kc ex 1 ∧ H.rowAt R ver = some cells ∧ off + i + 1 ≤ cells.length ∧ cells[off + i]? = some va := by
    obtain ⟨R, ver, off, kc, ex, cells, e1, a2, a3, a4⟩ := hrd.at (i := i) (e := [va]) (by simp [hva])
    rw [List.length_map] at e1
    refine ⟨R, ver, off, kc, ex, cells, e1, a2, by omega, ?_⟩
    have := part_at a4 (j := 0) (by omega)
    simpa using this
  obtain ⟨Rv, verv, offv, kcv, exv, cellsv, hvt1, av2, av3, av4⟩ := key
  have hk := (List.getElem?_eq_some_iff.1 ho).1
  have hk' : (k : Int) < t.length := by omega
  have w : wrapF .i64 ((k : Int) + 1) = ((k : Int) + 1) := wrapI (by omega) (by omega)
  have hlen35 := hok.len
  have k0 := o.at0
  have k2 := o.at2
  have k3 := o.at3 hok
  have hvl := hok.val.len
  obtain ⟨R, ver, off, kc, ex, cells, hva1, a2, a3, a4⟩ := ra.at (i := k) (e := o.cells) (by simp [ho])
  rw [List.length_map] at *
  obtain ⟨H1, hw1, g1, hc1, n1⟩ := newCells H (z := [vi 0, anil, vi 0, v8 0, v8 0, v8 0, v8 0, v8 0, v8 0, v8 0, v8 0, v8 0, v8 0, v8 0, v8 0, v8 0, v8 0, v8 0, v8 0, v8 0, v8 0, v8 0, v8 0, v8 0, v8 0, v8 0, v8 0, v8 0, v8 0, v8 0, v8 0, v8 0, v8 0, v8 0, v8 0]) (e := o.cells) (by rw [hlen35]; rfl) (by rw [hlen35]; omega) hok.allone
  have hr1 := hc1.at
  have hx0 := hkd
  have hx1 := hb0
  have hx2 := hb0
  obtain ⟨tm1, e1, l1, f1_0, f1_1, f1_7, f1_8, f1_9, f1_10, f1_11, f1_33⟩ : ∃ tm1 : List AVal, aCode or true n (fstC (fstC (fstC (fstC (sndC (fstC (sndC (fstC (fstC (sndC (fstC (fstC (sndC (fstC (sndC (sndC (sndC (sndC (a40.code))))))))))))))))))) ⟨tm, H, []⟩ = some (.normal, ⟨tm1, H, []⟩) ∧ tm1.length = 85 ∧ tm1[0]? = some (vi b) ∧ tm1[1]? = some (vt) ∧ tm1[7]? = some (.slice A7 0 0 b b true 32) ∧ tm1[8]? = some (v8') ∧ tm1[9]? = some (vi i) ∧ tm1[10]? = some (v10) ∧ tm1[11]? = some (vi k) ∧ tm1[33]? = some (abool true) := by
    refine ⟨?e1w, ?e1a, ?e1b0, ?e1b1, ?e1b2, ?e1b3, ?e1b4, ?e1b5, ?e1b6, ?e1b7, ?e1b8⟩
    case e1a =>
      apply regN
      iterate 7 (apply stepN; · simp [-getElem?_pos, List.getElem?_set, len, t1, t9, t11, hvt1, hi2, av2, av3, av4, la, hk']; rfl)
      exact nilN (or := or)
    all_goals simp [-getElem?_pos, List.getElem?_set, len, t0, t1, t7, t8, t9, t10, t11]
  obtain ⟨tm2, e2, l2, f2_0, f2_1, f2_7, f2_8, f2_9, f2_10, f2_11, f2_12, f2_33⟩ : ∃ tm2 : List AVal, aCode or true n (fstC (fstC (fstC (sndC (fstC (fstC (sndC (fstC (sndC (fstC (fstC (sndC (fstC (fstC (sndC (fstC (sndC (sndC (sndC (sndC (a40.code))))))))))))))))))))) ⟨tm1, H, []⟩ = some (.normal, ⟨tm2, H1, []⟩) ∧ tm2.length = 85 ∧ tm2[0]? = some (vi b) ∧ tm2[1]? = some (vt) ∧ tm2[7]? = some (.slice A7 0 0 b b true 32) ∧ tm2[8]? = some (v8') ∧ tm2[9]? = some (vi i) ∧ tm2[10]? = some (v10) ∧ tm2[11]? = some (vi k) ∧ tm2[12]? = some (vp H.next) ∧ tm2[33]? = some (abool true) := by
    refine ⟨?e2w, ?e2a, ?e2b0, ?e2b1, ?e2b2, ?e2b3, ?e2b4, ?e2b5, ?e2b6, ?e2b7, ?e2b8, ?e2b9⟩
    case e2a =>
      apply regN
      iterate 9 (apply stepN; · simp [-getElem?_pos, List.getElem?_set, l1, f1_1, f1_9, f1_11, hvt1, hi2, av2, av3, av4, hva1, hk, a2, a3, a4, AVal.cells, hlen35, hw1]; rfl)
      exact nilN (or := or)
    all_goals simp [-getElem?_pos, List.getElem?_set, l1, f1_0, f1_1, f1_7, f1_8, f1_9, f1_10, f1_11, f1_33]
  obtain ⟨tm3, e3, l3, f3_0, f3_1, f3_7, f3_8, f3_9, f3_10, f3_11, f3_12, f3_33, f3_61⟩ : ∃ tm3 : List AVal, aCode or true n (fstC (fstC (sndC (fstC (fstC (sndC (fstC (fstC (sndC (fstC (sndC (fstC (fstC (sndC (fstC (fstC (sndC (fstC (sndC (sndC (sndC (sndC (a40.code))))))))))))))))))))))) ⟨tm2, H1, []⟩ = some (.normal, ⟨tm3, H1, []⟩) ∧ tm3.length = 85 ∧ tm3[0]? = some (vi b) ∧ tm3[1]? = some (vt) ∧ tm3[7]? = some (.slice A7 0 0 b b true 32) ∧ tm3[8]? = some (v8') ∧ tm3[9]? = some (vi i) ∧ tm3[10]? = some (v10) ∧ tm3[11]? = some (vi k) ∧ tm3[12]? = some (vp H.next) ∧ tm3[33]? = some (abool true) ∧ tm3[61]? = some (abool true) := by
    refine ⟨?e3w, ?e3a, ?e3b0, ?e3b1, ?e3b2, ?e3b3, ?e3b4, ?e3b5, ?e3b6, ?e3b7, ?e3b8, ?e3b9, ?e3b10⟩
    case e3a =>
      apply regN
      iterate 19 (apply stepN; · simp [-getElem?_pos, List.getElem?_set, l2, f2_0, f2_12, hr1, hlen35, k0, k2, hx0, hx1, hx2]; rfl)
      exact nilN (or := or)
    all_goals simp [-getElem?_pos, List.getElem?_set, l2, f2_0, f2_1, f2_7, f2_8, f2_9, f2_10, f2_11, f2_12, f2_33]
  obtain ⟨tm4, e4, l4, f4_0, f4_1, f4_4, f4_5, f4_6, f4_7, f4_8, f4_9, f4_10, f4_11, f4_12, f4_33, f4_61⟩ : ∃ tm4 : List AVal, aCode or true n (fstC (fstC (sndC (fstC (sndC (fstC (fstC (sndC (fstC (fstC (sndC (fstC (sndC (fstC (fstC (sndC (fstC (fstC (sndC (fstC (sndC (sndC (sndC (sndC (a40.code))))))))))))))))))))))))) ⟨tm3, H1, []⟩ = some (.normal, ⟨tm4, H1, []⟩) ∧ tm4.length = 85 ∧ tm4[0]? = some (vi b) ∧ tm4[1]? = some (vt) ∧ tm4[4]? = some (anil) ∧ tm4[5]? = some (anil) ∧ tm4[6]? = some (vi 2) ∧ tm4[7]? = some (.slice A7 0 0 b b true 32) ∧ tm4[8]? = some (v8') ∧ tm4[9]? = some (vi i) ∧ tm4[10]? = some (v10) ∧ tm4[11]? = some (vi k) ∧ tm4[12]? = some (vp H.next) ∧ tm4[33]? = some (abool true) ∧ tm4[61]? = some (abool true) := by
    refine ⟨?e4w, ?e4a, ?e4b0, ?e4b1, ?e4b2, ?e4b3, ?e4b4, ?e4b5, ?e4b6, ?e4b7, ?e4b8, ?e4b9, ?e4b10, ?e4b11, ?e4b12, ?e4b13⟩
    case e4a =>
      apply regN
      iterate 3 (apply stepN; · simp [-getElem?_pos, List.getElem?_set, l3]; rfl)
      exact nilN (or := or)
    all_goals simp [-getElem?_pos, List.getElem?_set, l3, f3_0, f3_1, f3_7, f3_8, f3_9, f3_10, f3_11, f3_12, f3_33, f3_61]
  exact ⟨H1, tm4, (seqN (seqN e1 (condT f1_33 skipN)) (seqX (blkR (seqN e2 (seqX (seqN e3 (condT f3_61 (seqN e4 retN))) (by simp)))) (by simp))), l4, f4_4, f4_5, f4_6, g1⟩

theorem it40b2g (or : Oracle) (n : Nat) (b : Nat) (hb64 : b ≤ 64) (H : AHeap) (vt : AVal) (avt : List AVal) (txs : List (List OpD)) (ht : TxsAt H vt avt txs) (i : Nat) (va : AVal) (t : List OpD) (hva : avt[i]? = some va) (hti : txs[i]? = some t) (k : Nat) (o : OpD) (ho : t[k]? = some o) (A7 : Nat) (v10 v8' : AVal) (hkd : o.kind = 2) (hb0 : ¬ o.blk < 0) (hb1 : (b : Int) ≤ o.blk) (tm : List AVal) (len : tm.length = 85) (t0 : tm[0]? = some (vi b)) (t1 : tm[1]? = some (vt)) (t7 : tm[7]? = some (.slice A7 0 0 b b true 32)) (t8 : tm[8]? = some (v8')) (t9 : tm[9]? = some (vi i)) (t10 : tm[10]? = some (v10)) (t11 : tm[11]? = some (vi k)) :
    ∃ H' tm', aCode or true n (fstC (fstC (sndC (fstC (sndC (fstC (fstC (sndC (fstC (fstC (sndC (fstC (sndC (sndC (sndC (sndC (a40.code))))))))))))))))) ⟨tm, H, []⟩ = some (.ret, ⟨tm', H', []⟩) ∧ tm'.length = 85 ∧ tm'[4]? = some (anil) ∧ tm'[5]? = some (anil) ∧ tm'[6]? = some (vi 2) ∧ Grow H H' := by
  have hi := (List.getElem?_eq_some_iff.1 hti).1
  have hlen := ht.len
  have hi2 : i < avt.length := by omega
  obtain ⟨ra, hlies⟩ := ht.at_ i va t hva hti
  have la := ra.lenS
  rw [List.length_map] at la
  have hl := ht.small t (List.mem_of_getElem? hti)
  have hok := ht.ok t (List.mem_of_getElem? hti) o (List.mem_of_getElem? ho)
  have hrd := ht.rd
  have key : ∃ R ver off kc ex cells, vt = .slice R ver off avt.length kc ex 1 ∧ H.rowAt R ver = some cells ∧ off + i + 1 ≤ cells.length ∧ cells[off + i]? = some va := by
    obtain ⟨R, ver, off, kc, ex, cells, e1, a2, a3, a4⟩ := hrd.at (i := i) (e := [va]) (by simp [hva])
    rw [List.length_map] at e1
    refine ⟨R, ver, off, kc, ex, cells, e1, a2, by omega, ?_⟩
    have := part_at a4 (j := 0) (by omega)
    simpa using this
  obtain ⟨Rv, verv, offv, kcv, exv, cellsv, hvt1, av2, av3, av4⟩ := key
  have hk := (List.getElem?_eq_some_iff.1 ho).1
  have hk' : (k : Int) < t.length := by omega
  have w : wrapF .i64 ((k : Int) + 1) = ((k : Int) + 1) := wrapI (by omega) (by omega)
  have hlen35 := hok.len
  have k0 := o.at0
  have k2 := o.at2
  have k3 := o.at3 hok
  have hvl := hok.val.len
  obtain ⟨R, ver, off, kc, ex, cells, hva1, a2, a3, a4⟩ := ra.at (i := k) (e := o.cells) (by simp [ho])
  rw [List.length_map] at *
  obtain ⟨H1, hw1, g1, hc1, n1⟩ := newCells H (z := [vi 0, anil, vi 0, v8 0, v8 0, v8 0, v8 0, v8 0, v8 0, v8 0, v8 0, v8 0, v8 0, v8 0, v8 0, v8 0, v8 0, v8 0, v8 0, v8 0, v8 0, v8 0, v8 0, v8 0, v8 0, v8 0, v8 0, v8 0, v8 0, v8 0, v8 0, v8 0, v8 0, v8 0, v8 0]) (e := o.cells) (by rw [hlen35]; rfl) (by rw [hlen35]; omega) hok.allone
  have hr1 := hc1.at
  have hx0 := hkd
  have hx1 := hb0
  have hx2 := hb1
  obtain ⟨tm1, e1, l1, f1_0, f1_1, f1_7, f1_8, f1_9, f1_10, f1_11, f1_33⟩ : ∃ tm1 : List AVal, aCode or true n (fstC (fstC (fstC (fstC (sndC (fstC (sndC (fstC (fstC (sndC (fstC (fstC (sndC (fstC (sndC (sndC (sndC (sndC (a40.code))))))))))))))))))) ⟨tm, H, []⟩ = some (.normal, ⟨tm1, H, []⟩) ∧ tm1.length = 85 ∧ tm1[0]? = some (vi b) ∧ tm1[1]? = some (vt) ∧ tm1[7]? = some (.slice A7 0 0 b b true 32) ∧ tm1[8]? = some (v8') ∧ tm1[9]? = some (vi i) ∧ tm1[10]? = some (v10) ∧ tm1[11]? = some (vi k) ∧ tm1[33]? = some (abool true) := by
    refine ⟨?e1w, ?e1a, ?e1b0, ?e1b1, ?e1b2, ?e1b3, ?e1b4, ?e1b5, ?e1b6, ?e1b7, ?e1b8⟩
    case e1a =>
      apply regN
      iterate 7 (apply stepN; · simp [-getElem?_pos, List.getElem?_set, len, t1, t9, t11, hvt1, hi2, av2, av3, av4, la, hk']; rfl)
      exact nilN (or := or)
    all_goals simp [-getElem?_pos, List.getElem?_set, len, t0, t1, t7, t8, t9, t10, t11]
  obtain ⟨tm2, e2, l2, f2_0, f2_1, f2_7, f2_8, f2_9, f2_10, f2_11, f2_12, f2_33⟩ : ∃ tm2 : List AVal, aCode or true n (fstC (fstC (fstC (sndC (fstC (fstC (sndC (fstC (sndC (fstC (fstC (sndC (fstC (fstC (sndC (fstC (sndC (sndC (sndC (sndC (a40.code))))))))))))))))))))) ⟨tm1, H, []⟩ = some (.normal, ⟨tm2, H1, []⟩) ∧ tm2.length = 85 ∧ tm2[0]? = some (vi b) ∧ tm2[1]? = some (vt) ∧ tm2[7]? = some (.slice A7 0 0 b b true 32) ∧ tm2[8]? = some (v8') ∧ tm2[9]? = some (vi i) ∧ tm2[10]? = some (v10) ∧ tm2[11]? = some (vi k) ∧ tm2[12]? = some (vp H.next) ∧ tm2[33]? = some (abool true) := by
    refine ⟨?e2w, ?e2a, ?e2b0, ?e2b1, ?e2b2, ?e2b3, ?e2b4, ?e2b5, ?e2b6, ?e2b7, ?e2b8, ?e2b9⟩
    case e2a =>
      apply regN
      iterate 9 (apply stepN; · simp [-getElem?_pos, List.getElem?_set, l1, f1_1, f1_9, f1_11, hvt1, hi2, av2, av3, av4, hva1, hk, a2, a3, a4, AVal.cells, hlen35, hw1]; rfl)
      exact nilN (or := or)
    all_goals simp [-getElem?_pos, List.getElem?_set, l1, f1_0, f1_1, f1_7, f1_8, f1_9, f1_10, f1_11, f1_33]
  obtain ⟨tm3, e3, l3, f3_0, f3_1, f3_7, f3_8, f3_9, f3_10, f3_11, f3_12, f3_33, f3_61⟩ : ∃ tm3 : List AVal, aCode or true n (fstC (fstC (sndC (fstC (fstC (sndC (fstC (fstC (sndC (fstC (sndC (fstC (fstC (sndC (fstC (fstC (sndC (fstC (sndC (sndC (sndC (sndC (a40.code))))))))))))))))))))))) ⟨tm2, H1, []⟩ = some (.normal, ⟨tm3, H1, []⟩) ∧ tm3.length = 85 ∧ tm3[0]? = some (vi b) ∧ tm3[1]? = some (vt) ∧ tm3[7]? = some (.slice A7 0 0 b b true 32) ∧ tm3[8]? = some (v8') ∧ tm3[9]? = some (vi i) ∧ tm3[10]? = some (v10) ∧ tm3[11]? = some (vi k) ∧ tm3[12]? = some (vp H.next) ∧ tm3[33]? = some (abool true) ∧ tm3[61]? = some (abool true) := by
    refine ⟨?e3w, ?e3a, ?e3b0, ?e3b1, ?e3b2, ?e3b3, ?e3b4, ?e3b5, ?e3b6, ?e3b7, ?e3b8, ?e3b9, ?e3b10⟩
    case e3a =>
      apply regN
      iterate 19 (apply stepN; · simp [-getElem?_pos, List.getElem?_set, l2, f2_0, f2_12, hr1, hlen35, k0, k2, hx0, hx1, hx2]; rfl)
      exact nilN (or := or)
    all_goals simp [-getElem?_pos, List.getElem?_set, l2, f2_0, f2_1, f2_7, f2_8, f2_9, f2_10, f2_11, f2_12, f2_33]
  obtain ⟨tm4, e4, l4, f4_0, f4_1, f4_4, f4_5, f4_6, f4_7, f4_8, f4_9, f4_10, f4_11, f4_12, f4_33, f4_61⟩ : ∃ tm4 : List AVal, aCode or true n (fstC (fstC (sndC (fstC (sndC (fstC (fstC (sndC (fstC (fstC (sndC (fstC (sndC (fstC (fstC (sndC (fstC (fstC (sndC (fstC (sndC (sndC (sndC (sndC (a40.code))))))))))))))))))))))))) ⟨tm3, H1, []⟩ = some (.normal, ⟨tm4, H1, []⟩) ∧ tm4.length = 85 ∧ tm4[0]? = some (vi b) ∧ tm4[1]? = some (vt) ∧ tm4[4]? = some (anil) ∧ tm4[5]? = some (anil) ∧ tm4[6]? = some (vi 2) ∧ tm4[7]? = some (.slice A7 0 0 b b true 32) ∧ tm4[8]? = some (v8') ∧ tm4[9]? = some (vi i) ∧ tm4[10]? = some (v10) ∧ tm4[11]? = some (vi k) ∧ tm4[12]? = some (vp H.next) ∧ tm4[33]? = some (abool true) ∧ tm4[61]? = some (abool true) := by
    refine ⟨?e4w, ?e4a, ?e4b0, ?e4b1, ?e4b2, ?e4b3, ?e4b4, ?e4b5, ?e4b6, ?e4b7, ?e4b8, ?e4b9, ?e4b10, ?e4b11, ?e4b12, ?e4b13⟩
    case e4a =>
      apply regN
      iterate 3 (apply stepN; · simp [-getElem?_pos, List.getElem?_set, l3]; rfl)
      exact nilN (or := or)
    all_goals simp [-getElem?_pos, List.getElem?_set, l3, f3_0, f3_1, f3_7, f3_8, f3_9, f3_10, f3_11, f3_12, f3_33, f3_61]
  exact ⟨H1, tm4, (seqN (seqN e1 (condT f1_33 skipN)) (seqX (blkR (seqN e2 (seqX (seqN e3 (condT f3_61 (seqN e4 retN))) (by simp)))) (by simp))), l4, f4_4, f4_5, f4_6, g1⟩

theorem it40b3g (or : Oracle) (n : Nat) (b : Nat) (hb64 : b ≤ 64) (H : AHeap) (vt : AVal) (avt : List AVal) (txs : List (List OpD)) (ht : TxsAt H vt avt txs) (i : Nat) (va : AVal) (t : List OpD) (hva : avt[i]? = some va) (hti : txs[i]? = some t) (k : Nat) (o : OpD) (ho : t[k]? = some o) (A7 : Nat) (v10 v8' : AVal) (hkd : o.kind = 3) (hb0 : ¬ o.blk < 0) (hb1 : (b : Int) ≤ o.blk) (tm : List AVal) (len : tm.length = 85) (t0 : tm[0]? = some (vi b)) (t1 : tm[1]? = some (vt)) (t7 : tm[7]? = some (.slice A7 0 0 b b true 32)) (t8 : tm[8]? = some (v8')) (t9 : tm[9]? = some (vi i)) (t10 : tm[10]? = some (v10)) (t11 : tm[11]? = some (vi k)) :
    ∃ H' tm', aCode or true n (fstC (fstC (sndC (fstC (sndC (fstC (fstC (sndC (fstC (fstC (sndC (fstC (sndC (sndC (sndC (sndC (a40.code))))))))))))))))) ⟨tm, H, []⟩ = some (.ret, ⟨tm', H', []⟩) ∧ tm'.length = 85 ∧ tm'[4]? = some (anil) ∧ tm'[5]? = some (anil) ∧ tm'[6]? = some (vi 2) ∧ Grow H H' := by
  have hi := (List.getElem?_eq_some_iff.1 hti).1
  have hlen := ht.len
  have hi2 : i < avt.length := by omega
  obtain ⟨ra, hlies⟩ := ht.at_ i va t hva hti
  have la := ra.lenS
  rw [List.length_map] at la
  have hl := ht.small t (List.mem_of_getElem? hti)
  have hok := ht.ok t (List.mem_of_getElem? hti) o (List.mem_of_getElem? ho)
  have hrd := ht.rd
  have key : ∃ R ver off kc ex cells, vt = .slice R ver off avt.length kc ex 1 ∧ H.rowAt R ver = some cells ∧ off + i + 1 ≤ cells.length ∧ cells[off + i]? = some va := by
    obtain ⟨R, ver, off, kc, ex, cells, e1, a2, a3, a4⟩ := hrd.at (i := i) (e := [va]) (by simp [hva])
    rw [List.length_map] at e1
    refine ⟨R, ver, off, kc, ex, cells, e1, a2, by omega, ?_⟩
    have := part_at a4 (j := 0) (by omega)
    simpa using this
  obtain ⟨Rv, verv, offv, kcv, exv, cellsv, hvt1, av2, av3, av4⟩ := key
  have hk := (List.getElem?_eq_some_iff.1 ho).1
  have hk' : (k : Int) < t.length := by omega
  have w : wrapF .i64 ((k : Int) + 1) = ((k : Int) + 1) := wrapI (by omega) (by omega)
  have hlen35 := hok.len
  have k0 := o.at0
  have k2 := o.at2
  have k3 := o.at3 hok
  have hvl := hok.val.len
  obtain ⟨R, ver, off, kc, ex, cells, hva1, a2, a3, a4⟩ := ra.at (i := k) (e := o.cells) (by simp [ho])
  rw [List.length_map] at *
  obtain ⟨H1, hw1, g1, hc1, n1⟩ := newCells H (z := [vi 0, anil, vi 0, v8 0, v8 0, v8 0, v8 0, v8 0, v8 0, v8 0, v8 0, v8 0, v8 0, v8 0, v8 0, v8 0, v8 0, v8 0, v8 0, v8 0, v8 0, v8 0, v8 0, v8 0, v8 0, v8 0, v8 0, v8 0, v8 0, v8 0, v8 0, v8 0, v8 0, v8 0, v8 0]) (e := o.cells) (by rw [hlen35]; rfl) (by rw [hlen35]; omega) hok.allone
  have hr1 := hc1.at
  have hx0 := hkd
  have hx1 := hb0
  have hx2 := hb1
  obtain ⟨tm1, e1, l1, f1_0, f1_1, f1_7, f1_8, f1_9, f1_10, f1_11, f1_33⟩ : ∃ tm1 : List AVal, aCode or true n (fstC (fstC (fstC (fstC (sndC (fstC (sndC (fstC (fstC (sndC (fstC (fstC (sndC (fstC (sndC (sndC (sndC (sndC (a40.code))))))))))))))))))) ⟨tm, H, []⟩ = some (.normal, ⟨tm1, H, []⟩) ∧ tm1.length = 85 ∧ tm1[0]? = some (vi b) ∧ tm1[1]? = some (vt) ∧ tm1[7]? = some (.slice A7 0 0 b b true 32) ∧ tm1[8]? = some (v8') ∧ tm1[9]? = some (vi i) ∧ tm1[10]? = some (v10) ∧ tm1[11]? = some (vi k) ∧ tm1[33]? = some (abool true) := by
    refine ⟨?e1w, ?e1a, ?e1b0, ?e1b1, ?e1b2, ?e1b3, ?e1b4, ?e1b5, ?e1b6, ?e1b7, ?e1b8⟩
    case e1a =>
      apply regN
      iterate 7 (apply stepN; · simp [-getElem?_pos, List.getElem?_set, len, t1, t9, t11, hvt1, hi2, av2, av3, av4, la, hk']; rfl)
      exact nilN (or := or)
    all_goals simp [-getElem?_pos, List.getElem?_set, len, t0, t1, t7, t8, t9, t10, t11]
  obtain ⟨tm2, e2, l2, f2_0, f2_1, f2_7, f2_8, f2_9, f2_10, f2_11, f2_12, f2_33⟩ : ∃ tm2 : List AVal, aCode or true n (fstC (fstC (fstC (sndC (fstC (fstC (sndC (fstC (sndC (fstC (fstC (sndC (fstC (fstC (sndC (fstC (sndC (sndC (sndC (sndC (a40.code))))))))))))))))))))) ⟨tm1, H, []⟩ = some (.normal, ⟨tm2, H1, []⟩) ∧ tm2.length = 85 ∧ tm2[0]? = some (vi b) ∧ tm2[1]? = some (vt) ∧ tm2[7]? = some (.slice A7 0 0 b b true 32) ∧ tm2[8]? = some (v8') ∧ tm2[9]? = some (vi i) ∧ tm2[10]? = some (v10) ∧ tm2[11]? = some (vi k) ∧ tm2[12]? = some (vp H.next) ∧ tm2[33]? = some (abool true) := by
    refine ⟨?e2w, ?e2a, ?e2b0, ?e2b1, ?e2b2, ?e2b3, ?e2b4, ?e2b5, ?e2b6, ?e2b7, ?e2b8, ?e2b9⟩
    case e2a =>
      apply regN
      iterate 9 (apply stepN; · simp [-getElem?_pos, List.getElem?_set, l1, f1_1, f1_9, f1_11, hvt1, hi2, av2, av3, av4, hva1, hk, a2, a3, a4, AVal.cells, hlen35, hw1]; rfl)
      exact nilN (or := or)
    all_goals simp [-getElem?_pos, List.getElem?_set, l1, f1_0, f1_1, f1_7, f1_8, f1_9, f1_10, f1_11, f1_33]
  obtain ⟨tm3, e3, l3, f3_0, f3_1, f3_7, f3_8, f3_9, f3_10, f3_11, f3_12, f3_33, f3_61⟩ : ∃ tm3 : List AVal, aCode or true n (fstC (fstC (sndC (fstC (fstC (sndC (fstC (fstC (sndC (fstC (sndC (fstC (fstC (sndC (fstC (fstC (sndC (fstC (sndC (sndC (sndC (sndC (a40.code))))))))))))))))))))))) ⟨tm2, H1, []⟩ = some (.normal, ⟨tm3, H1, []⟩) ∧ tm3.length = 85 ∧ tm3[0]? = some (vi b) ∧ tm3[1]? = some (vt) ∧ tm3[7]? = some (.slice A7 0 0 b b true 32) ∧ tm3[8]? = some (v8') ∧ tm3[9]? = some (vi i) ∧ tm3[10]? = some (v10) ∧ tm3[11]? = some (vi k) ∧ tm3[12]? = some (vp H.next) ∧ tm3[33]? = some (abool true) ∧ tm3[61]? = some (abool true) := by
    refine ⟨?e3w, ?e3a, ?e3b0, ?e3b1, ?e3b2, ?e3b3, ?e3b4, ?e3b5, ?e3b6, ?e3b7, ?e3b8, ?e3b9, ?e3b10⟩
    case e3a =>
      apply regN
      iterate 19 (apply stepN; · simp [-getElem?_pos, List.getElem?_set, l2, f2_0, f2_12, hr1, hlen35, k0, k2, hx0, hx1, hx2]; rfl)
      exact nilN (or := or)
    all_goals simp [-getElem?_pos, List.getElem?_set, l2, f2_0, f2_1, f2_7, f2_8, f2_9, f2_10, f2_11, f2_12, f2_33]
  obtain ⟨tm4, e4, l4, f4_0, f4_1, f4_4, f4_5, f4_6, f4_7, f4_8, f4_9, f4_10, f4_11, f4_12, f4_33, f4_61⟩ : ∃ tm4 : List AVal, aCode or true n (fstC (fstC (sndC (fstC (sndC (fstC (fstC (sndC (fstC (fstC (sndC (fstC (sndC (fstC (fstC (sndC (fstC (fstC (sndC (fstC (sndC (sndC (sndC (sndC (a40.code))))))))))))))))))))))))) ⟨tm3, H1, []⟩ = some (.normal, ⟨tm4, H1, []⟩) ∧ tm4.length = 85 ∧ tm4[0]? = some (vi b) ∧ tm4[1]? = some (vt) ∧ tm4[4]? = some (anil) ∧ tm4[5]? = some (anil) ∧ tm4[6]? = some (vi 2) ∧ tm4[7]? = some (.slice A7 0 0 b b true 32) ∧ tm4[8]? = some (v8') ∧ tm4[9]? = some (vi i) ∧ tm4[10]? = some (v10) ∧ tm4[11]? = some (vi k) ∧ tm4[12]? = some (vp H.next) ∧ tm4[33]? = some (abool true) ∧ tm4[61]? = some (abool true) := by
    refine ⟨?e4w, ?e4a, ?e4b0, ?e4b1, ?e4b2, ?e4b3, ?e4b4, ?e4b5, ?e4b6, ?e4b7, ?e4b8, ?e4b9, ?e4b10, ?e4b11, ?e4b12, ?e4b13⟩
    case e4a =>
      apply regN
      iterate 3 (apply stepN; · simp [-getElem?_pos, List.getElem?_set, l3]; rfl)
      exact nilN (or := or)
    all_goals simp [-getElem?_pos, List.getElem?_set, l3, f3_0, f3_1, f3_7, f3_8, f3_9, f3_10, f3_11, f3_12, f3_33, f3_61]
  exact ⟨H1, tm4, (seqN (seqN e1 (condT f1_33 skipN)) (seqX (blkR (seqN e2 (seqX (seqN e3 (condT f3_61 (seqN e4 retN))) (by simp)))) (by simp))), l4, f4_4, f4_5, f4_6, g1⟩

theorem end40r (or : Oracle) (n : Nat) (b : Nat) (hb64 : b ≤ 64) (H : AHeap) (vt : AVal) (avt : List AVal) (txs : List (List OpD)) (ht : TxsAt H vt avt txs) (i : Nat) (va : AVal) (t : List OpD) (hva : avt[i]? = some va) (hti : txs[i]? = some t) (A7 : Nat) (v10 v8' : AVal) (tm : List AVal) (len : tm.length = 85) (t0 : tm[0]? = some (vi b)) (t1 : tm[1]? = some (vt)) (t7 : tm[7]? = some (.slice A7 0 0 b b true 32)) (t8 : tm[8]? = some (v8')) (t9 : tm[9]? = some (vi i)) (t10 : tm[10]? = some (v10)) (t11 : tm[11]? = some (vi t.length)) :
    ∃ tm', aCode or true n (fstC (fstC (sndC (fstC (sndC (fstC (fstC (sndC (fstC (fstC (sndC (fstC (sndC (sndC (sndC (sndC (a40.code))))))))))))))))) ⟨tm, H, []⟩ = some (.exit 2, ⟨tm', H, []⟩) ∧ tm'.length = 85 ∧ tm'[0]? = some (vi b) ∧ tm'[1]? = some (vt) ∧ tm'[7]? = some (.slice A7 0 0 b b true 32) ∧ tm'[8]? = some (v8') ∧ tm'[9]? = some (vi i) ∧ tm'[10]? = some (v10) := by
  have hi := (List.getElem?_eq_some_iff.1 hti).1
  have hlen := ht.len
  have hi2 : i < avt.length := by omega
  obtain ⟨ra, hlies⟩ := ht.at_ i va t hva hti
  have la := ra.lenS
  rw [List.length_map] at la
  have hl := ht.small t (List.mem_of_getElem? hti)
  have hrd := ht.rd
  have key : ∃ R ver off kc ex cells, vt = .slice R ver off avt.length kc ex 1 ∧ H.rowAt R ver = some cells ∧ off + i + 1 ≤ cells.length ∧ cells[off + i]? = some va := by
    obtain ⟨R, ver, off, kc, ex, cells, e1, a2, a3, a4⟩ := hrd.at (i := i) (e := [va]) (by simp [hva])
    rw [List.length_map] at e1
    refine ⟨R, ver, off, kc, ex, cells, e1, a2, by omega, ?_⟩
    have := part_at a4 (j := 0) (by omega)
    simpa using this
  obtain ⟨Rv, verv, offv, kcv, exv, cellsv, hvt1, av2, av3, av4⟩ := key
  obtain ⟨tm1, e1, l1, f1_0, f1_1, f1_7, f1_8, f1_9, f1_10, f1_11, f1_33⟩ : ∃ tm1 : List AVal, aCode or true n (fstC (fstC (fstC (fstC (sndC (fstC (sndC (fstC (fstC (sndC (fstC (fstC (sndC (fstC (sndC (sndC (sndC (sndC (a40.code))))))))))))))))))) ⟨tm, H, []⟩ = some (.normal, ⟨tm1, H, []⟩) ∧ tm1.length = 85 ∧ tm1[0]? = some (vi b) ∧ tm1[1]? = some (vt) ∧ tm1[7]? = some (.slice A7 0 0 b b true 32) ∧ tm1[8]? = some (v8') ∧ tm1[9]? = some (vi i) ∧ tm1[10]? = some (v10) ∧ tm1[11]? = some (vi t.length) ∧ tm1[33]? = some (abool false) := by
    refine ⟨?e1w, ?e1a, ?e1b0, ?e1b1, ?e1b2, ?e1b3, ?e1b4, ?e1b5, ?e1b6, ?e1b7, ?e1b8⟩
    case e1a =>
      apply regN
      iterate 7 (apply stepN; · simp [-getElem?_pos, List.getElem?_set, len, t1, t9, t11, hvt1, hi2, av2, av3, av4, la]; rfl)
      exact nilN (or := or)
    all_goals simp [-getElem?_pos, List.getElem?_set, len, t0, t1, t7, t8, t9, t10, t11]
  exact ⟨tm1, (seqX (seqN e1 (condF f1_33 exitN)) (by simp)), l1, f1_0, f1_1, f1_7, f1_8, f1_9, f1_10⟩

theorem loop40r (or : Oracle) (n : Nat) (b : Nat) (hb64 : b ≤ 64) (vt : AVal) (avt : List AVal) (txs : List (List OpD)) (i : Nat) (va : AVal) (t : List OpD) (hva : avt[i]? = some va) (hti : txs[i]? = some t) (m0 : Map) (hm0 : m0.length = b) (hmv0 : ∀ v ∈ m0, IsVal v)
    (A7 N : Nat) (hA : A7 < N) (hlv : vt.lies (· < A7)) (hla : ∀ (i : Nat) va, avt[i]? = some va → va.lies (· < A7)) (v8' : AVal) :
    ∀ (j k q : Nat) (H : AHeap) (v10 : AVal) (tm : List AVal), k + j = t.length → j < q → N ≤ H.next → TxsAt H vt avt txs → Cells H A7 (opsM m0 (t.take k)).flatten → SliceE H N 32 v10 (toldM m0 (t.take k)) → tm.length = 85 → tm[0]? = some (vi b) → tm[1]? = some (vt) → tm[7]? = some (.slice A7 0 0 b b true 32) → tm[8]? = some (v8') → tm[9]? = some (vi i) → tm[10]? = some (v10) → tm[11]? = some (vi k) →
      ∃ H' tm', H.next ≤ H'.next ∧ (∀ A, A < N → A ≠ A7 → H'.get A = H.get A) ∧ ((∃ v', aLoop (aCode or true n (fstC (fstC (sndC (fstC (sndC (fstC (fstC (sndC (fstC (fstC (sndC (fstC (sndC (sndC (sndC (sndC (a40.code)))))))))))))))))) q ⟨tm, H, []⟩ = some (.exit 2, ⟨tm', H', []⟩) ∧ (∀ o ∈ t.drop k, ¬ o.bad b) ∧ (tm'.length = 85 ∧ tm'[0]? = some (vi b) ∧ tm'[1]? = some (vt) ∧ tm'[7]? = some (.slice A7 0 0 b b true 32) ∧ tm'[8]? = some (v8') ∧ tm'[9]? = some (vi i) ∧ tm'[10]? = some (v')) ∧
        Cells H' A7 (opsM m0 t).flatten ∧ SliceE H' N 32 v' (toldM m0 t)) ∨
        (aLoop (aCode or true n (fstC (fstC (sndC (fstC (sndC (fstC (fstC (sndC (fstC (fstC (sndC (fstC (sndC (sndC (sndC (sndC (a40.code)))))))))))))))))) q ⟨tm, H, []⟩ = some (.ret, ⟨tm', H', []⟩) ∧ (∃ o ∈ t.drop k, o.bad b) ∧ (tm'.length = 85 ∧ tm'[4]? = some anil ∧ tm'[5]? = some anil ∧ tm'[6]? = some (vi 2))))
  | 0, k, q + 1, H, v10, tm, hj, _, hN, ht, cm, hs, len, t0, t1, t7, t8, t9, t10, t11 => by
    have : k = t.length := by omega
    subst this
    obtain ⟨tm', h1, h2⟩ := end40r or n b hb64 H vt avt txs ht i va t hva hti A7 v10 v8' tm len t0 t1 t7 t8 t9 t10 t11
    rw [List.take_length] at cm hs
    exact ⟨H, tm', Nat.le_refl _, fun _ _ _ => rfl, .inl ⟨v10, by simp only [aLoop, h1], by simp, h2, cm, hs⟩⟩
  | j + 1, k, q + 1, H, v10, tm, hj, hq, hN, ht, cm, hs, len, t0, t1, t7, t8, t9, t10, t11 => by
    have hx : t[k]? = some t[k] := List.getElem?_eq_getElem (by omega)
    have hmem : t[k] ∈ t := List.getElem_mem _
    have hd : t.drop k = t[k] :: t.drop (k + 1) := List.drop_eq_getElem_cons (by omega)
    have hok := ht.ok t (List.mem_of_getElem? hti)
    by_cases hbad : t[k].bad b
    · have fin : ∀ {H' : AHeap} {tm' : List AVal}, aCode or true n (fstC (fstC (sndC (fstC (sndC (fstC (fstC (sndC (fstC (fstC (sndC (fstC (sndC (sndC (sndC (sndC (a40.code))))))))))))))))) ⟨tm, H, []⟩ = some (.ret, ⟨tm', H', []⟩) ∧ tm'.length = 85 ∧ tm'[4]? = some anil ∧ tm'[5]? = some anil ∧ tm'[6]? = some (vi 2) ∧ Grow H H' → _ :=
        fun {H' tm'} h => (⟨H', tm', h.2.2.2.2.2.next, fun A a1 _ => h.2.2.2.2.2.get A (by omega), .inr ⟨by simp only [aLoop, h.1], ⟨t[k], by rw [hd]; exact List.mem_cons_self .., hbad⟩, h.2.1, h.2.2.1, h.2.2.2.1, h.2.2.2.2.1⟩⟩ :
        ∃ H' tm', H.next ≤ H'.next ∧ (∀ A, A < N → A ≠ A7 → H'.get A = H.get A) ∧ ((∃ v', aLoop (aCode or true n (fstC (fstC (sndC (fstC (sndC (fstC (fstC (sndC (fstC (fstC (sndC (fstC (sndC (sndC (sndC (sndC (a40.code)))))))))))))))))) (q + 1) ⟨tm, H, []⟩ = some (.exit 2, ⟨tm', H', []⟩) ∧ (∀ o ∈ t.drop k, ¬ o.bad b) ∧ (tm'.length = 85 ∧ tm'[0]? = some (vi b) ∧ tm'[1]? = some (vt) ∧ tm'[7]? = some (.slice A7 0 0 b b true 32) ∧ tm'[8]? = some (v8') ∧ tm'[9]? = some (vi i) ∧ tm'[10]? = some (v')) ∧
        Cells H' A7 (opsM m0 t).flatten ∧ SliceE H' N 32 v' (toldM m0 t)) ∨
        (aLoop (aCode or true n (fstC (fstC (sndC (fstC (sndC (fstC (fstC (sndC (fstC (fstC (sndC (fstC (sndC (sndC (sndC (sndC (a40.code)))))))))))))))))) (q + 1) ⟨tm, H, []⟩ = some (.ret, ⟨tm', H', []⟩) ∧ (∃ o ∈ t.drop k, o.bad b) ∧ (tm'.length = 85 ∧ tm'[4]? = some anil ∧ tm'[5]? = some anil ∧ tm'[6]? = some (vi 2)))))
      by_cases k2 : t[k].kind = 2
      · by_cases b0 : t[k].blk < 0
        · obtain ⟨H', tm', h⟩ := it40b2l or n b hb64 H vt avt txs ht i va t hva hti k _ hx A7 v10 v8' k2 b0 tm len t0 t1 t7 t8 t9 t10 t11; exact fin h
        · obtain ⟨H', tm', h⟩ := it40b2g or n b hb64 H vt avt txs ht i va t hva hti k _ hx A7 v10 v8' k2 b0 (by unfold OpD.bad at hbad; omega) tm len t0 t1 t7 t8 t9 t10 t11; exact fin h
      · by_cases k3 : t[k].kind = 3
        · by_cases b0 : t[k].blk < 0
          · obtain ⟨H', tm', h⟩ := it40b3l or n b hb64 H vt avt txs ht i va t hva hti k _ hx A7 v10 v8' k3 b0 tm len t0 t1 t7 t8 t9 t10 t11; exact fin h
          · obtain ⟨H', tm', h⟩ := it40b3g or n b hb64 H vt avt txs ht i va t hva hti k _ hx A7 v10 v8' k3 b0 (by unfold OpD.bad at hbad; omega) tm len t0 t1 t7 t8 t9 t10 t11; exact fin h
        · obtain ⟨H', tm', h⟩ := it40bn or n b hb64 H vt avt txs ht i va t hva hti k _ hx A7 v10 v8' k2 k3 tm len t0 t1 t7 t8 t9 t10 t11; exact fin h
    · have hmk : (opsM m0 (t.take k)).length = b := by rw [opsM_len, hm0]
      have hmvk := opsM_vals (t.take k) hmv0 fun o ho => hok o (List.mem_of_mem_take ho)
      have htk : (toldM m0 (t.take k)).length ≤ k := Nat.le_trans (toldM_le _ _) (by rw [List.length_take]; omega)
      have e1 : opsM m0 (t.take (k + 1)) = opM (opsM m0 (t.take k)) t[k] := by rw [take_succ_at hx, opsM_append]; rfl
      have e2 : toldM m0 (t.take (k + 1)) = toldM m0 (t.take k) ++ toldO (opsM m0 (t.take k)) t[k] := by
        rw [take_succ_at hx, toldM_append]; simp [toldM]
      have step : ∃ H' v' tm', aCode or true n (fstC (fstC (sndC (fstC (sndC (fstC (fstC (sndC (fstC (fstC (sndC (fstC (sndC (sndC (sndC (sndC (a40.code))))))))))))))))) ⟨tm, H, []⟩ = some (.normal, ⟨tm', H', []⟩) ∧ (tm'.length = 85 ∧ tm'[0]? = some (vi b) ∧ tm'[1]? = some (vt) ∧ tm'[7]? = some (.slice A7 0 0 b b true 32) ∧ tm'[8]? = some (v8') ∧ tm'[9]? = some (vi i) ∧ tm'[10]? = some (v') ∧ tm'[11]? = some (vi ((k : Int) + 1))) ∧
          Cells H' A7 (opM (opsM m0 (t.take k)) t[k]).flatten ∧ SliceE H' N 32 v' (toldM m0 (t.take k) ++ toldO (opsM m0 (t.take k)) t[k]) ∧ H.next ≤ H'.next ∧ (∀ A, A < N → A ≠ A7 → H'.get A = H.get A) := by
        have hb' := hbad
        unfold OpD.bad at hb'
        rcases (show t[k].kind = 2 ∨ t[k].kind = 3 by omega) with k2 | k3
        · obtain ⟨H', v', tm', h1, l, f0, f1, f7, f8, f9, f10, f11, r⟩ := it40r or n b hb64 H vt avt txs ht i va t hva hti k _ hx _ hmk hmvk A7 N hA hN cm v10 _ hs htk v8' hbad k2 tm len t0 t1 t7 t8 t9 t10 t11
          exact ⟨H', v', tm', h1, ⟨l, f0, f1, f7, f8, f9, f10, f11⟩, r⟩
        · obtain ⟨H', v', tm', h1, l, f0, f1, f7, f8, f9, f10, f11, r⟩ := it40w or n b hb64 H vt avt txs ht i va t hva hti k _ hx _ hmk hmvk A7 N hA hN cm v10 _ hs htk v8' hbad k3 tm len t0 t1 t7 t8 t9 t10 t11
          exact ⟨H', v', tm', h1, ⟨l, f0, f1, f7, f8, f9, f10, f11⟩, r⟩
      obtain ⟨H', v', tm', h1, ⟨l, f0, f1, f7, f8, f9, f10, f11⟩, c1, s1, n1, g1⟩ := step
      rw [← e1] at c1
      rw [← e2] at s1
      have ht' : TxsAt H' vt avt txs :=
        { rd := ht.rd.move fun R ver off len kcap ex e => by have := hlv R ver off len kcap ex 1 e; unfold AHeap.rowAt; rw [g1 R (by omega) (by omega)]
          lies := lies_lt ht.lies n1
          len := ht.len
          at_ := fun i a t ha hti => ⟨(ht.at_ i a t ha hti).1.move fun R ver off len kcap ex e => by have := hla i a ha R ver off len kcap ex 35 e; unfold AHeap.rowAt; rw [g1 R (by omega) (by omega)], lies_lt (ht.at_ i a t ha hti).2 n1⟩
          ok := ht.ok
          small := ht.small
          few := ht.few }
      obtain ⟨H2, tm2, r1, r2, r3⟩ := loop40r or n b hb64 vt avt txs i va t hva hti m0 hm0 hmv0 A7 N hA hlv hla v8' j (k + 1) q H' v' tm' (by omega) (by omega) (by omega) ht' c1 s1 l f0 f1 f7 f8 f9 f10 f11
      refine ⟨H2, tm2, by omega, fun A a1 a2 => by rw [r2 A a1 a2, g1 A a1 a2], ?_⟩
      rcases r3 with ⟨v2, q1, q2, q3⟩ | ⟨q1, ⟨o, q2, q2'⟩, q3⟩
      · refine .inl ⟨v2, by simp only [aLoop, h1, q1], fun o ho => ?_, q3⟩
        rw [hd] at ho
        rcases List.mem_cons.1 ho with rfl | h
        · exact hbad
        · exact q2 o h
      · exact .inr ⟨by simp only [aLoop, h1, q1], ⟨o, by rw [hd]; exact List.mem_cons_of_mem _ q2, q2'⟩, q3⟩

end Go.Proofs.Ythbjfkkjmecaaaa
