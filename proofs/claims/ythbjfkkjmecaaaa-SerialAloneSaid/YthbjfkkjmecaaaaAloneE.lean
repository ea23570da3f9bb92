/- Walks: Alone, a list of operations done. -/
import Derived.Test.YthbjfkkjmecaaaaAloneD
namespace Go.Proofs.Ythbjfkkjmecaaaa
open Go Go.Vm

set_option linter.unusedVariables false
set_option linter.unusedSimpArgs false
attribute [local simp] aStep awanted aOp ev aRess aRes1 tup aBin aUn aArith ASt.put ile_eq ilt_eq ieq_eq aPart List.getElem?_cons_zero

theorem it39w (or : Oracle) (n : Nat) (b : Nat) (hb64 : b ≤ 64) (H : AHeap) (va : AVal) (t : List OpD) (ra : RdE H 35 va (t.map OpD.cells)) (hl : (t.length + 1) * 72 ≤ 140737488355328) (k : Nat) (o : OpD) (ho : t[k]? = some o) (hok : o.Ok) (hbad : ¬ o.bad b)
    (m : Map) (hm : m.length = 64) (hmv : ∀ v ∈ m, IsVal v) (A11 N : Nat) (hA : A11 < N) (hN : N ≤ H.next) (cm : Cells H A11 m.flatten) (v14 : AVal) (told : List (List AVal)) (hs : SliceE H N 32 v14 told) (htold : told.length ≤ k) (v4 vt : AVal) (nt i : Nat) (hkd : o.kind = 3) (tm : List AVal) (len : tm.length = 90) (t0 : tm[0]? = some (vi b)) (t4 : tm[4]? = some (v4)) (t11 : tm[11]? = some (vp A11)) (t14 : tm[14]? = some (v14)) (t53 : tm[53]? = some (vt)) (t54 : tm[54]? = some (vi nt)) (t55 : tm[55]? = some (vi i)) (t59 : tm[59]? = some (va)) (t60 : tm[60]? = some (vi t.length)) (t61 : tm[61]? = some (vi k)) :
    ∃ H' v' tm', aCode or true n (fstC (fstC (sndC (fstC (sndC (sndC (fstC (fstC (sndC (sndC (fstC (fstC (sndC (fstC (sndC (sndC (sndC (sndC (a39.code))))))))))))))))))) ⟨tm, H, []⟩ = some (.normal, ⟨tm', H', []⟩) ∧ tm'.length = 90 ∧ tm'[0]? = some (vi b) ∧ tm'[4]? = some (v4) ∧ tm'[11]? = some (vp A11) ∧ tm'[14]? = some (v') ∧ tm'[53]? = some (vt) ∧ tm'[54]? = some (vi nt) ∧ tm'[55]? = some (vi i) ∧ tm'[59]? = some (va) ∧ tm'[60]? = some (vi t.length) ∧ tm'[61]? = some (vi ((k : Int) + 1)) ∧ Cells H' A11 (opM m o).flatten ∧ SliceE H' N 32 v' (told ++ toldO m o) ∧ H.next ≤ H'.next ∧ (∀ A, A < N → A ≠ A11 → H'.get A = H.get A) := by
  have hk := (List.getElem?_eq_some_iff.1 ho).1
  have hk' : (k : Int) < t.length := by omega
  have w : wrapF .i64 ((k : Int) + 1) = ((k : Int) + 1) := wrapI (by omega) (by omega)
  have hlen35 := hok.len
  have k0 := o.at0
  have k2 := o.at2
  have k3 := o.at3 hok
  have hbad' := hbad
  unfold OpD.bad at hbad'
  have b0 : 0 ≤ o.blk := by omega
  have b1 : o.blk < 64 := by omega
  have b2 : o.blk.toNat < 64 := by omega
  have hvl := hok.val.len
  obtain ⟨R, ver, off, kc, ex, cells, hva1, a2, a3, a4⟩ := ra.at (i := k) (e := o.cells) (by simp [ho])
  rw [List.length_map] at *
  obtain ⟨H1, hw1, g1, hc1, n1⟩ := newCells H (z := [vi 0, anil, vi 0, v8 0, v8 0, v8 0, v8 0, v8 0, v8 0, v8 0, v8 0, v8 0, v8 0, v8 0, v8 0, v8 0, v8 0, v8 0, v8 0, v8 0, v8 0, v8 0, v8 0, v8 0, v8 0, v8 0, v8 0, v8 0, v8 0, v8 0, v8 0, v8 0, v8 0, v8 0, v8 0]) (e := o.cells) (by rw [hlen35]; rfl) (by rw [hlen35]; omega) hok.allone
  have hr1 := hc1.at
  have cm1 : Cells H1 A11 m.flatten := cm.mono (g1.get _ (by omega))
  have hfl := flatten_len (n := 32) (es := m) fun v hv => (hmv v hv).len
  rw [hm] at hfl
  have hrm := cm1.at
  have hw2 : H1.write A11 0 (o.blk.toNat * 32) o.val = some (H1.set A11 (.row [some (0, spl m.flatten (o.blk.toNat * 32) o.val)])) := cm1.write (by omega) (by rw [hvl, hfl]; omega) hok.val.one
  have hset : spl m.flatten (o.blk.toNat * 32) o.val = (opM m o).flatten := by
    rw [flatten_set hvl _ (fun v hv => (hmv v hv).len) (by omega)]; simp [opM, hkd]
  have hs1 : SliceE H1 N 32 v14 told := hs.move (Nat.le_refl _) g1.next fun A _ hA => g1.get A hA
  generalize hH2 : H1.set A11 (.row [some (0, spl m.flatten (o.blk.toNat * 32) o.val)]) = H2 at hw2
  have cm2 : Cells H2 A11 (opM m o).flatten := by rw [← hH2, ← hset]; exact AHeap.get_set_same _ _ _
  have hs2 : SliceE H2 N 32 v14 (told ++ toldO m o) := by
    have e0 : toldO m o = [] := by simp [toldO, hkd]
    rw [e0, List.append_nil, ← hH2]
    exact hs1.move (Nat.le_refl _) (Nat.le_refl _) fun A hA1 _ => AHeap.get_set_ne _ _ (by omega)
  have hn2 : H.next ≤ H2.next := by rw [← hH2]; exact g1.next
  have hk2 : ∀ A, A < N → A ≠ A11 → H2.get A = H.get A := fun A a1 a2 => by rw [← hH2, AHeap.get_set_ne _ _ a2]; exact g1.get A (by omega)
  obtain ⟨tm1, e1, l1, f1_0, f1_4, f1_11, f1_14, f1_53, f1_54, f1_55, f1_59, f1_60, f1_61, f1_62⟩ : ∃ tm1 : List AVal, aCode or true n (fstC (fstC (fstC (sndC (fstC (sndC (sndC (fstC (fstC (sndC (sndC (fstC (fstC (sndC (fstC (sndC (sndC (sndC (sndC (a39.code)))))))))))))))))))) ⟨tm, H, []⟩ = some (.normal, ⟨tm1, H, []⟩) ∧ tm1.length = 90 ∧ tm1[0]? = some (vi b) ∧ tm1[4]? = some (v4) ∧ tm1[11]? = some (vp A11) ∧ tm1[14]? = some (v14) ∧ tm1[53]? = some (vt) ∧ tm1[54]? = some (vi nt) ∧ tm1[55]? = some (vi i) ∧ tm1[59]? = some (va) ∧ tm1[60]? = some (vi t.length) ∧ tm1[61]? = some (vi k) ∧ tm1[62]? = some (abool true) := by
    refine ⟨?e1w, ?e1a, ?e1b0, ?e1b1, ?e1b2, ?e1b3, ?e1b4, ?e1b5, ?e1b6, ?e1b7, ?e1b8, ?e1b9, ?e1b10, ?e1b11⟩
    case e1a =>
      apply regN
      iterate 1 (apply stepN; · simp [-getElem?_pos, List.getElem?_set, len, t60, t61, hk']; rfl)
      exact nilN (or := or)
    all_goals simp [-getElem?_pos, List.getElem?_set, len, t0, t4, t11, t14, t53, t54, t55, t59, t60, t61]
  obtain ⟨tm2, e2, l2, f2_0, f2_4, f2_11, f2_14, f2_16, f2_53, f2_54, f2_55, f2_59, f2_60, f2_61, f2_62⟩ : ∃ tm2 : List AVal, aCode or true n (fstC (fstC (fstC (sndC (sndC (fstC (fstC (sndC (fstC (sndC (sndC (fstC (fstC (sndC (sndC (fstC (fstC (sndC (fstC (sndC (sndC (sndC (sndC (a39.code)))))))))))))))))))))))) ⟨tm1, H, []⟩ = some (.normal, ⟨tm2, H1, []⟩) ∧ tm2.length = 90 ∧ tm2[0]? = some (vi b) ∧ tm2[4]? = some (v4) ∧ tm2[11]? = some (vp A11) ∧ tm2[14]? = some (v14) ∧ tm2[16]? = some (vp H.next) ∧ tm2[53]? = some (vt) ∧ tm2[54]? = some (vi nt) ∧ tm2[55]? = some (vi i) ∧ tm2[59]? = some (va) ∧ tm2[60]? = some (vi t.length) ∧ tm2[61]? = some (vi k) ∧ tm2[62]? = some (abool true) := by
    refine ⟨?e2w, ?e2a, ?e2b0, ?e2b1, ?e2b2, ?e2b3, ?e2b4, ?e2b5, ?e2b6, ?e2b7, ?e2b8, ?e2b9, ?e2b10, ?e2b11, ?e2b12⟩
    case e2a =>
      apply regN
      iterate 4 (apply stepN; · simp [-getElem?_pos, List.getElem?_set, l1, f1_59, f1_61, hva1, hk, a2, a3, a4, AVal.cells, hlen35, hw1]; rfl)
      exact nilN (or := or)
    all_goals simp [-getElem?_pos, List.getElem?_set, l1, f1_0, f1_4, f1_11, f1_14, f1_53, f1_54, f1_55, f1_59, f1_60, f1_61, f1_62]
  obtain ⟨tm3, e3, l3, f3_0, f3_4, f3_11, f3_14, f3_16, f3_53, f3_54, f3_55, f3_59, f3_60, f3_61, f3_62, f3_67⟩ : ∃ tm3 : List AVal, aCode or true n (fstC (sndC (fstC (fstC (sndC (sndC (fstC (fstC (sndC (fstC (sndC (sndC (fstC (fstC (sndC (sndC (fstC (fstC (sndC (fstC (sndC (sndC (sndC (sndC (a39.code))))))))))))))))))))))))) ⟨tm2, H1, []⟩ = some (.normal, ⟨tm3, H1, []⟩) ∧ tm3.length = 90 ∧ tm3[0]? = some (vi b) ∧ tm3[4]? = some (v4) ∧ tm3[11]? = some (vp A11) ∧ tm3[14]? = some (v14) ∧ tm3[16]? = some (vp H.next) ∧ tm3[53]? = some (vt) ∧ tm3[54]? = some (vi nt) ∧ tm3[55]? = some (vi i) ∧ tm3[59]? = some (va) ∧ tm3[60]? = some (vi t.length) ∧ tm3[61]? = some (vi k) ∧ tm3[62]? = some (abool true) ∧ tm3[67]? = some (abool true) := by
    refine ⟨?e3w, ?e3a, ?e3b0, ?e3b1, ?e3b2, ?e3b3, ?e3b4, ?e3b5, ?e3b6, ?e3b7, ?e3b8, ?e3b9, ?e3b10, ?e3b11, ?e3b12, ?e3b13⟩
    case e3a =>
      apply regN
      iterate 3 (apply stepN; · simp [-getElem?_pos, List.getElem?_set, l2, f2_16, hr1, hlen35, k0, hkd]; rfl)
      exact nilN (or := or)
    all_goals simp [-getElem?_pos, List.getElem?_set, l2, f2_0, f2_4, f2_11, f2_14, f2_16, f2_53, f2_54, f2_55, f2_59, f2_60, f2_61, f2_62]
  obtain ⟨tm4, e4, l4, f4_0, f4_4, f4_11, f4_14, f4_16, f4_53, f4_54, f4_55, f4_59, f4_60, f4_61, f4_62, f4_67⟩ : ∃ tm4 : List AVal, aCode or true n (fstC (sndC (sndC (fstC (fstC (sndC (sndC (fstC (fstC (sndC (fstC (sndC (sndC (fstC (fstC (sndC (sndC (fstC (fstC (sndC (fstC (sndC (sndC (sndC (sndC (a39.code)))))))))))))))))))))))))) ⟨tm3, H1, []⟩ = some (.normal, ⟨tm4, H2, []⟩) ∧ tm4.length = 90 ∧ tm4[0]? = some (vi b) ∧ tm4[4]? = some (v4) ∧ tm4[11]? = some (vp A11) ∧ tm4[14]? = some (v14) ∧ tm4[16]? = some (vp H.next) ∧ tm4[53]? = some (vt) ∧ tm4[54]? = some (vi nt) ∧ tm4[55]? = some (vi i) ∧ tm4[59]? = some (va) ∧ tm4[60]? = some (vi t.length) ∧ tm4[61]? = some (vi k) ∧ tm4[62]? = some (abool true) ∧ tm4[67]? = some (abool true) := by
    refine ⟨?e4w, ?e4a, ?e4b0, ?e4b1, ?e4b2, ?e4b3, ?e4b4, ?e4b5, ?e4b6, ?e4b7, ?e4b8, ?e4b9, ?e4b10, ?e4b11, ?e4b12, ?e4b13⟩
    case e4a =>
      apply regN
      iterate 6 (apply stepN; · simp [-getElem?_pos, List.getElem?_set, l3, f3_11, f3_16, hr1, hlen35, k2, k3, b0, b1, AVal.cells, hvl, hw2]; rfl)
      exact nilN (or := or)
    all_goals simp [-getElem?_pos, List.getElem?_set, l3, f3_0, f3_4, f3_11, f3_14, f3_16, f3_53, f3_54, f3_55, f3_59, f3_60, f3_61, f3_62, f3_67]
  obtain ⟨tm5, e5, l5, f5_0, f5_4, f5_11, f5_14, f5_16, f5_53, f5_54, f5_55, f5_59, f5_60, f5_61, f5_62, f5_67⟩ : ∃ tm5 : List AVal, aCode or true n (sndC (sndC (sndC (fstC (fstC (sndC (fstC (sndC (sndC (fstC (fstC (sndC (sndC (fstC (fstC (sndC (fstC (sndC (sndC (sndC (sndC (a39.code)))))))))))))))))))))) ⟨tm4, H2, []⟩ = some (.normal, ⟨tm5, H2, []⟩) ∧ tm5.length = 90 ∧ tm5[0]? = some (vi b) ∧ tm5[4]? = some (v4) ∧ tm5[11]? = some (vp A11) ∧ tm5[14]? = some (v14) ∧ tm5[16]? = some (vp H.next) ∧ tm5[53]? = some (vt) ∧ tm5[54]? = some (vi nt) ∧ tm5[55]? = some (vi i) ∧ tm5[59]? = some (va) ∧ tm5[60]? = some (vi t.length) ∧ tm5[61]? = some (vi ((k : Int) + 1)) ∧ tm5[62]? = some (abool true) ∧ tm5[67]? = some (abool true) := by
    refine ⟨?e5w, ?e5a, ?e5b0, ?e5b1, ?e5b2, ?e5b3, ?e5b4, ?e5b5, ?e5b6, ?e5b7, ?e5b8, ?e5b9, ?e5b10, ?e5b11, ?e5b12, ?e5b13⟩
    case e5a =>
      apply regN
      iterate 2 (apply stepN; · simp [-getElem?_pos, List.getElem?_set, l4, f4_61, w]; rfl)
      exact nilN (or := or)
    all_goals simp [-getElem?_pos, List.getElem?_set, l4, f4_0, f4_4, f4_11, f4_14, f4_16, f4_53, f4_54, f4_55, f4_59, f4_60, f4_61, f4_62, f4_67]
  exact ⟨H2, v14, tm5, (seqN e1 (seqN (condT f1_62 skipN) (seqN (blkN (seqN e2 (seqN e3 (condT f3_67 e4)))) e5))), l5, f5_0, f5_4, f5_11, f5_14, f5_53, f5_54, f5_55, f5_59, f5_60, f5_61, cm2, hs2, hn2, hk2⟩

theorem it39r (or : Oracle) (n : Nat) (b : Nat) (hb64 : b ≤ 64) (H : AHeap) (va : AVal) (t : List OpD) (ra : RdE H 35 va (t.map OpD.cells)) (hl : (t.length + 1) * 72 ≤ 140737488355328) (k : Nat) (o : OpD) (ho : t[k]? = some o) (hok : o.Ok) (hbad : ¬ o.bad b)
    (m : Map) (hm : m.length = 64) (hmv : ∀ v ∈ m, IsVal v) (A11 N : Nat) (hA : A11 < N) (hN : N ≤ H.next) (cm : Cells H A11 m.flatten) (v14 : AVal) (told : List (List AVal)) (hs : SliceE H N 32 v14 told) (htold : told.length ≤ k) (v4 vt : AVal) (nt i : Nat) (hkd : o.kind = 2) (tm : List AVal) (len : tm.length = 90) (t0 : tm[0]? = some (vi b)) (t4 : tm[4]? = some (v4)) (t11 : tm[11]? = some (vp A11)) (t14 : tm[14]? = some (v14)) (t53 : tm[53]? = some (vt)) (t54 : tm[54]? = some (vi nt)) (t55 : tm[55]? = some (vi i)) (t59 : tm[59]? = some (va)) (t60 : tm[60]? = some (vi t.length)) (t61 : tm[61]? = some (vi k)) :
    ∃ H' v' tm', aCode or true n (fstC (fstC (sndC (fstC (sndC (sndC (fstC (fstC (sndC (sndC (fstC (fstC (sndC (fstC (sndC (sndC (sndC (sndC (a39.code))))))))))))))))))) ⟨tm, H, []⟩ = some (.normal, ⟨tm', H', []⟩) ∧ tm'.length = 90 ∧ tm'[0]? = some (vi b) ∧ tm'[4]? = some (v4) ∧ tm'[11]? = some (vp A11) ∧ tm'[14]? = some (v') ∧ tm'[53]? = some (vt) ∧ tm'[54]? = some (vi nt) ∧ tm'[55]? = some (vi i) ∧ tm'[59]? = some (va) ∧ tm'[60]? = some (vi t.length) ∧ tm'[61]? = some (vi ((k : Int) + 1)) ∧ Cells H' A11 (opM m o).flatten ∧ SliceE H' N 32 v' (told ++ toldO m o) ∧ H.next ≤ H'.next ∧ (∀ A, A < N → A ≠ A11 → H'.get A = H.get A) := by
  have hk := (List.getElem?_eq_some_iff.1 ho).1
  have hk' : (k : Int) < t.length := by omega
  have w : wrapF .i64 ((k : Int) + 1) = ((k : Int) + 1) := wrapI (by omega) (by omega)
  have hlen35 := hok.len
  have k0 := o.at0
  have k2 := o.at2
  have k3 := o.at3 hok
  have hbad' := hbad
  unfold OpD.bad at hbad'
  have b0 : 0 ≤ o.blk := by omega
  have b1 : o.blk < 64 := by omega
  have b2 : o.blk.toNat < 64 := by omega
  have hvl := hok.val.len
  obtain ⟨R, ver, off, kc, ex, cells, hva1, a2, a3, a4⟩ := ra.at (i := k) (e := o.cells) (by simp [ho])
  rw [List.length_map] at *
  obtain ⟨H1, hw1, g1, hc1, n1⟩ := newCells H (z := [vi 0, anil, vi 0, v8 0, v8 0, v8 0, v8 0, v8 0, v8 0, v8 0, v8 0, v8 0, v8 0, v8 0, v8 0, v8 0, v8 0, v8 0, v8 0, v8 0, v8 0, v8 0, v8 0, v8 0, v8 0, v8 0, v8 0, v8 0, v8 0, v8 0, v8 0, v8 0, v8 0, v8 0, v8 0]) (e := o.cells) (by rw [hlen35]; rfl) (by rw [hlen35]; omega) hok.allone
  have hr1 := hc1.at
  have cm1 : Cells H1 A11 m.flatten := cm.mono (g1.get _ (by omega))
  have hfl := flatten_len (n := 32) (es := m) fun v hv => (hmv v hv).len
  rw [hm] at hfl
  have hrm := cm1.at
  have hmx : m[o.blk.toNat]? = some (m.getD o.blk.toNat zeroV) := by
    rw [List.getD_eq_getElem?_getD, List.getElem?_eq_getElem (by omega)]; rfl
  have hmv0 : IsVal (m.getD o.blk.toNat zeroV) := hmv _ (List.mem_of_getElem? hmx)
  have hmv1 : (m.flatten.drop (o.blk.toNat * 32)).take 32 = m.getD o.blk.toNat zeroV := flatten_at _ _ (fun v hv => (hmv v hv).len) hmx
  have hmvl := hmv0.len
  have e0 : toldO m o = [m.getD o.blk.toNat zeroV] := by simp [toldO, hkd]
  rw [e0]
  generalize m.getD o.blk.toNat zeroV = mv at hmx hmv0 hmv1 hmvl
  have hbd : o.blk.toNat * 32 + 32 ≤ m.flatten.length := by omega
  have hX : (H1.push (.row [some (0, mv)])).rowAt H1.next 0 = some mv := by unfold AHeap.rowAt; rw [AHeap.get_push_same]; rfl
  have hs1 : SliceE (H1.push (.row [some (0, mv)])) N 32 v14 told := hs.move (Nat.le_refl _) (by simp; have := g1.next; omega) fun A _ hA => by rw [AHeap.get_push_ne _ _ (by have := g1.next; omega), g1.get A hA]
  obtain ⟨v'', H3, happ, hs2, hn3, hk3, _, _⟩ := hs1.append (bytes := 32) (by simp; have := g1.next; omega) hX hmvl (by omega) (by omega) hmv0.one (by omega) (ex := true) (kc := 1)
  have hn2 : H.next ≤ H3.next := by have := g1.next; simp at hn3; omega
  have cm2' : Cells H3 A11 m.flatten := cm1.mono (by rw [hk3 _ hA, AHeap.get_push_ne _ _ (by omega)])
  have cm2 : Cells H3 A11 (opM m o).flatten := by
    have : opM m o = m := by simp [opM, hkd]
    rw [this]; exact cm2'
  have hk2 : ∀ A, A < N → A ≠ A11 → H3.get A = H.get A := fun A a1 a2 => by rw [hk3 A a1, AHeap.get_push_ne _ _ (by have := g1.next; omega), g1.get A (by omega)]
  obtain ⟨tm1, e1, l1, f1_0, f1_4, f1_11, f1_14, f1_53, f1_54, f1_55, f1_59, f1_60, f1_61, f1_62⟩ : ∃ tm1 : List AVal, aCode or true n (fstC (fstC (fstC (sndC (fstC (sndC (sndC (fstC (fstC (sndC (sndC (fstC (fstC (sndC (fstC (sndC (sndC (sndC (sndC (a39.code)))))))))))))))))))) ⟨tm, H, []⟩ = some (.normal, ⟨tm1, H, []⟩) ∧ tm1.length = 90 ∧ tm1[0]? = some (vi b) ∧ tm1[4]? = some (v4) ∧ tm1[11]? = some (vp A11) ∧ tm1[14]? = some (v14) ∧ tm1[53]? = some (vt) ∧ tm1[54]? = some (vi nt) ∧ tm1[55]? = some (vi i) ∧ tm1[59]? = some (va) ∧ tm1[60]? = some (vi t.length) ∧ tm1[61]? = some (vi k) ∧ tm1[62]? = some (abool true) := by
    refine ⟨?e1w, ?e1a, ?e1b0, ?e1b1, ?e1b2, ?e1b3, ?e1b4, ?e1b5, ?e1b6, ?e1b7, ?e1b8, ?e1b9, ?e1b10, ?e1b11⟩
    case e1a =>
      apply regN
      iterate 1 (apply stepN; · simp [-getElem?_pos, List.getElem?_set, len, t60, t61, hk']; rfl)
      exact nilN (or := or)
    all_goals simp [-getElem?_pos, List.getElem?_set, len, t0, t4, t11, t14, t53, t54, t55, t59, t60, t61]
  obtain ⟨tm2, e2, l2, f2_0, f2_4, f2_11, f2_14, f2_16, f2_53, f2_54, f2_55, f2_59, f2_60, f2_61, f2_62⟩ : ∃ tm2 : List AVal, aCode or true n (fstC (fstC (fstC (sndC (sndC (fstC (fstC (sndC (fstC (sndC (sndC (fstC (fstC (sndC (sndC (fstC (fstC (sndC (fstC (sndC (sndC (sndC (sndC (a39.code)))))))))))))))))))))))) ⟨tm1, H, []⟩ = some (.normal, ⟨tm2, H1, []⟩) ∧ tm2.length = 90 ∧ tm2[0]? = some (vi b) ∧ tm2[4]? = some (v4) ∧ tm2[11]? = some (vp A11) ∧ tm2[14]? = some (v14) ∧ tm2[16]? = some (vp H.next) ∧ tm2[53]? = some (vt) ∧ tm2[54]? = some (vi nt) ∧ tm2[55]? = some (vi i) ∧ tm2[59]? = some (va) ∧ tm2[60]? = some (vi t.length) ∧ tm2[61]? = some (vi k) ∧ tm2[62]? = some (abool true) := by
    refine ⟨?e2w, ?e2a, ?e2b0, ?e2b1, ?e2b2, ?e2b3, ?e2b4, ?e2b5, ?e2b6, ?e2b7, ?e2b8, ?e2b9, ?e2b10, ?e2b11, ?e2b12⟩
    case e2a =>
      apply regN
      iterate 4 (apply stepN; · simp [-getElem?_pos, List.getElem?_set, l1, f1_59, f1_61, hva1, hk, a2, a3, a4, AVal.cells, hlen35, hw1]; rfl)
      exact nilN (or := or)
    all_goals simp [-getElem?_pos, List.getElem?_set, l1, f1_0, f1_4, f1_11, f1_14, f1_53, f1_54, f1_55, f1_59, f1_60, f1_61, f1_62]
  obtain ⟨tm3, e3, l3, f3_0, f3_4, f3_11, f3_14, f3_16, f3_53, f3_54, f3_55, f3_59, f3_60, f3_61, f3_62, f3_67⟩ : ∃ tm3 : List AVal, aCode or true n (fstC (sndC (fstC (fstC (sndC (sndC (fstC (fstC (sndC (fstC (sndC (sndC (fstC (fstC (sndC (sndC (fstC (fstC (sndC (fstC (sndC (sndC (sndC (sndC (a39.code))))))))))))))))))))))))) ⟨tm2, H1, []⟩ = some (.normal, ⟨tm3, H1, []⟩) ∧ tm3.length = 90 ∧ tm3[0]? = some (vi b) ∧ tm3[4]? = some (v4) ∧ tm3[11]? = some (vp A11) ∧ tm3[14]? = some (v14) ∧ tm3[16]? = some (vp H.next) ∧ tm3[53]? = some (vt) ∧ tm3[54]? = some (vi nt) ∧ tm3[55]? = some (vi i) ∧ tm3[59]? = some (va) ∧ tm3[60]? = some (vi t.length) ∧ tm3[61]? = some (vi k) ∧ tm3[62]? = some (abool true) ∧ tm3[67]? = some (abool false) := by
    refine ⟨?e3w, ?e3a, ?e3b0, ?e3b1, ?e3b2, ?e3b3, ?e3b4, ?e3b5, ?e3b6, ?e3b7, ?e3b8, ?e3b9, ?e3b10, ?e3b11, ?e3b12, ?e3b13⟩
    case e3a =>
      apply regN
      iterate 3 (apply stepN; · simp [-getElem?_pos, List.getElem?_set, l2, f2_16, hr1, hlen35, k0, hkd]; rfl)
      exact nilN (or := or)
    all_goals simp [-getElem?_pos, List.getElem?_set, l2, f2_0, f2_4, f2_11, f2_14, f2_16, f2_53, f2_54, f2_55, f2_59, f2_60, f2_61, f2_62]
  obtain ⟨tm4, e4, l4, f4_0, f4_4, f4_11, f4_14, f4_16, f4_53, f4_54, f4_55, f4_59, f4_60, f4_61, f4_62, f4_67⟩ : ∃ tm4 : List AVal, aCode or true n (sndC (sndC (sndC (fstC (fstC (sndC (sndC (fstC (fstC (sndC (fstC (sndC (sndC (fstC (fstC (sndC (sndC (fstC (fstC (sndC (fstC (sndC (sndC (sndC (sndC (a39.code)))))))))))))))))))))))))) ⟨tm3, H1, []⟩ = some (.normal, ⟨tm4, H3, []⟩) ∧ tm4.length = 90 ∧ tm4[0]? = some (vi b) ∧ tm4[4]? = some (v4) ∧ tm4[11]? = some (vp A11) ∧ tm4[14]? = some (v'') ∧ tm4[16]? = some (vp H.next) ∧ tm4[53]? = some (vt) ∧ tm4[54]? = some (vi nt) ∧ tm4[55]? = some (vi i) ∧ tm4[59]? = some (va) ∧ tm4[60]? = some (vi t.length) ∧ tm4[61]? = some (vi k) ∧ tm4[62]? = some (abool true) ∧ tm4[67]? = some (abool false) := by
    refine ⟨?e4w, ?e4a, ?e4b0, ?e4b1, ?e4b2, ?e4b3, ?e4b4, ?e4b5, ?e4b6, ?e4b7, ?e4b8, ?e4b9, ?e4b10, ?e4b11, ?e4b12, ?e4b13⟩
    case e4a =>
      apply regN
      iterate 8 (apply stepN; · simp [-getElem?_pos, -List.length_flatten, List.getElem?_set, l3, f3_11, f3_14, f3_16, hr1, hrm, hlen35, k2, b0, b1, hbd, hmv1, hmvl, repl, aFill, spl, AVal.cells, happ]; rfl)
      exact nilN (or := or)
    all_goals simp [-getElem?_pos, List.getElem?_set, l3, f3_0, f3_4, f3_11, f3_14, f3_16, f3_53, f3_54, f3_55, f3_59, f3_60, f3_61, f3_62, f3_67]
  obtain ⟨tm5, e5, l5, f5_0, f5_4, f5_11, f5_14, f5_16, f5_53, f5_54, f5_55, f5_59, f5_60, f5_61, f5_62, f5_67⟩ : ∃ tm5 : List AVal, aCode or true n (sndC (sndC (sndC (fstC (fstC (sndC (fstC (sndC (sndC (fstC (fstC (sndC (sndC (fstC (fstC (sndC (fstC (sndC (sndC (sndC (sndC (a39.code)))))))))))))))))))))) ⟨tm4, H3, []⟩ = some (.normal, ⟨tm5, H3, []⟩) ∧ tm5.length = 90 ∧ tm5[0]? = some (vi b) ∧ tm5[4]? = some (v4) ∧ tm5[11]? = some (vp A11) ∧ tm5[14]? = some (v'') ∧ tm5[16]? = some (vp H.next) ∧ tm5[53]? = some (vt) ∧ tm5[54]? = some (vi nt) ∧ tm5[55]? = some (vi i) ∧ tm5[59]? = some (va) ∧ tm5[60]? = some (vi t.length) ∧ tm5[61]? = some (vi ((k : Int) + 1)) ∧ tm5[62]? = some (abool true) ∧ tm5[67]? = some (abool false) := by
    refine ⟨?e5w, ?e5a, ?e5b0, ?e5b1, ?e5b2, ?e5b3, ?e5b4, ?e5b5, ?e5b6, ?e5b7, ?e5b8, ?e5b9, ?e5b10, ?e5b11, ?e5b12, ?e5b13⟩
    case e5a =>
      apply regN
      iterate 2 (apply stepN; · simp [-getElem?_pos, List.getElem?_set, l4, f4_61, w]; rfl)
      exact nilN (or := or)
    all_goals simp [-getElem?_pos, List.getElem?_set, l4, f4_0, f4_4, f4_11, f4_14, f4_16, f4_53, f4_54, f4_55, f4_59, f4_60, f4_61, f4_62, f4_67]
  exact ⟨H3, v'', tm5, (seqN e1 (seqN (condT f1_62 skipN) (seqN (blkN (seqN e2 (seqN e3 (condF f3_67 e4)))) e5))), l5, f5_0, f5_4, f5_11, f5_14, f5_53, f5_54, f5_55, f5_59, f5_60, f5_61, cm2, hs2, hn2, hk2⟩

theorem end39r (or : Oracle) (n : Nat) (b : Nat) (H : AHeap) (va vt v4 v14 : AVal) (t : List OpD) (nt i A11 : Nat) (tm : List AVal) (len : tm.length = 90) (t0 : tm[0]? = some (vi b)) (t4 : tm[4]? = some (v4)) (t11 : tm[11]? = some (vp A11)) (t14 : tm[14]? = some (v14)) (t53 : tm[53]? = some (vt)) (t54 : tm[54]? = some (vi nt)) (t55 : tm[55]? = some (vi i)) (t59 : tm[59]? = some (va)) (t60 : tm[60]? = some (vi t.length)) (t61 : tm[61]? = some (vi t.length)) :
    ∃ tm', aCode or true n (fstC (fstC (sndC (fstC (sndC (sndC (fstC (fstC (sndC (sndC (fstC (fstC (sndC (fstC (sndC (sndC (sndC (sndC (a39.code))))))))))))))))))) ⟨tm, H, []⟩ = some (.exit 6, ⟨tm', H, []⟩) ∧ tm'.length = 90 ∧ tm'[0]? = some (vi b) ∧ tm'[4]? = some (v4) ∧ tm'[11]? = some (vp A11) ∧ tm'[14]? = some (v14) ∧ tm'[53]? = some (vt) ∧ tm'[54]? = some (vi nt) ∧ tm'[55]? = some (vi i) := by
  obtain ⟨tm1, e1, l1, f1_0, f1_4, f1_11, f1_14, f1_53, f1_54, f1_55, f1_59, f1_60, f1_61, f1_62⟩ : ∃ tm1 : List AVal, aCode or true n (fstC (fstC (fstC (sndC (fstC (sndC (sndC (fstC (fstC (sndC (sndC (fstC (fstC (sndC (fstC (sndC (sndC (sndC (sndC (a39.code)))))))))))))))))))) ⟨tm, H, []⟩ = some (.normal, ⟨tm1, H, []⟩) ∧ tm1.length = 90 ∧ tm1[0]? = some (vi b) ∧ tm1[4]? = some (v4) ∧ tm1[11]? = some (vp A11) ∧ tm1[14]? = some (v14) ∧ tm1[53]? = some (vt) ∧ tm1[54]? = some (vi nt) ∧ tm1[55]? = some (vi i) ∧ tm1[59]? = some (va) ∧ tm1[60]? = some (vi t.length) ∧ tm1[61]? = some (vi t.length) ∧ tm1[62]? = some (abool false) := by
    refine ⟨?e1w, ?e1a, ?e1b0, ?e1b1, ?e1b2, ?e1b3, ?e1b4, ?e1b5, ?e1b6, ?e1b7, ?e1b8, ?e1b9, ?e1b10, ?e1b11⟩
    case e1a =>
      apply regN
      iterate 1 (apply stepN; · simp [-getElem?_pos, List.getElem?_set, len, t60, t61]; rfl)
      exact nilN (or := or)
    all_goals simp [-getElem?_pos, List.getElem?_set, len, t0, t4, t11, t14, t53, t54, t55, t59, t60, t61]
  exact ⟨tm1, (seqN e1 (seqX (condF f1_62 exitN) (by simp))), l1, f1_0, f1_4, f1_11, f1_14, f1_53, f1_54, f1_55⟩

theorem loop39r (or : Oracle) (n : Nat) (b : Nat) (hb64 : b ≤ 64) (va : AVal) (t : List OpD) (hl : (t.length + 1) * 72 ≤ 140737488355328) (hok : ∀ o ∈ t, o.Ok) (hbad : ∀ o ∈ t, ¬ o.bad b) (m0 : Map) (hm0 : m0.length = 64) (hmv0 : ∀ v ∈ m0, IsVal v)
    (A11 N : Nat) (hA : A11 < N) (hlies : va.lies (· < A11)) (v4 vt : AVal) (nt i : Nat) :
    ∀ (j k q : Nat) (H : AHeap) (v14 : AVal) (tm : List AVal), k + j = t.length → j < q → N ≤ H.next → RdE H 35 va (t.map OpD.cells) → Cells H A11 (opsM m0 (t.take k)).flatten → SliceE H N 32 v14 (toldM m0 (t.take k)) → tm.length = 90 → tm[0]? = some (vi b) → tm[4]? = some (v4) → tm[11]? = some (vp A11) → tm[14]? = some (v14) → tm[53]? = some (vt) → tm[54]? = some (vi nt) → tm[55]? = some (vi i) → tm[59]? = some (va) → tm[60]? = some (vi t.length) → tm[61]? = some (vi k) →
      ∃ H' v' tm', aLoop (aCode or true n (fstC (fstC (sndC (fstC (sndC (sndC (fstC (fstC (sndC (sndC (fstC (fstC (sndC (fstC (sndC (sndC (sndC (sndC (a39.code)))))))))))))))))))) q ⟨tm, H, []⟩ = some (.exit 6, ⟨tm', H', []⟩) ∧ (tm'.length = 90 ∧ tm'[0]? = some (vi b) ∧ tm'[4]? = some (v4) ∧ tm'[11]? = some (vp A11) ∧ tm'[14]? = some (v') ∧ tm'[53]? = some (vt) ∧ tm'[54]? = some (vi nt) ∧ tm'[55]? = some (vi i)) ∧
        Cells H' A11 (opsM m0 t).flatten ∧ SliceE H' N 32 v' (toldM m0 t) ∧ H.next ≤ H'.next ∧ (∀ A, A < N → A ≠ A11 → H'.get A = H.get A)
  | 0, k, q + 1, H, v14, tm, hj, _, hN, ra, cm, hs, len, t0, t4, t11, t14, t53, t54, t55, t59, t60, t61 => by
    have : k = t.length := by omega
    subst this
    obtain ⟨tm', h1, h2⟩ := end39r or n b H va vt v4 v14 t nt i A11 tm len t0 t4 t11 t14 t53 t54 t55 t59 t60 t61
    rw [List.take_length] at cm hs
    exact ⟨H, v14, tm', by simp only [aLoop, h1], h2, cm, hs, Nat.le_refl _, fun _ _ _ => rfl⟩
  | j + 1, k, q + 1, H, v14, tm, hj, hq, hN, ra, cm, hs, len, t0, t4, t11, t14, t53, t54, t55, t59, t60, t61 => by
    have hx : t[k]? = some t[k] := List.getElem?_eq_getElem (by omega)
    have hmem : t[k] ∈ t := List.getElem_mem _
    have hmk : (opsM m0 (t.take k)).length = 64 := by rw [opsM_len, hm0]
    have hmvk := opsM_vals (t.take k) hmv0 fun o ho => hok o (List.mem_of_mem_take ho)
    have htk : (toldM m0 (t.take k)).length ≤ k := Nat.le_trans (toldM_le _ _) (by rw [List.length_take]; omega)
    have e1 : opsM m0 (t.take (k + 1)) = opM (opsM m0 (t.take k)) t[k] := by rw [take_succ_at hx, opsM_append]; rfl
    have e2 : toldM m0 (t.take (k + 1)) = toldM m0 (t.take k) ++ toldO (opsM m0 (t.take k)) t[k] := by
      rw [take_succ_at hx, toldM_append]; simp [toldM]
    have step : ∃ H' v' tm', aCode or true n (fstC (fstC (sndC (fstC (sndC (sndC (fstC (fstC (sndC (sndC (fstC (fstC (sndC (fstC (sndC (sndC (sndC (sndC (a39.code))))))))))))))))))) ⟨tm, H, []⟩ = some (.normal, ⟨tm', H', []⟩) ∧ (tm'.length = 90 ∧ tm'[0]? = some (vi b) ∧ tm'[4]? = some (v4) ∧ tm'[11]? = some (vp A11) ∧ tm'[14]? = some (v') ∧ tm'[53]? = some (vt) ∧ tm'[54]? = some (vi nt) ∧ tm'[55]? = some (vi i) ∧ tm'[59]? = some (va) ∧ tm'[60]? = some (vi t.length) ∧ tm'[61]? = some (vi ((k : Int) + 1))) ∧
        Cells H' A11 (opM (opsM m0 (t.take k)) t[k]).flatten ∧ SliceE H' N 32 v' (toldM m0 (t.take k) ++ toldO (opsM m0 (t.take k)) t[k]) ∧ H.next ≤ H'.next ∧ (∀ A, A < N → A ≠ A11 → H'.get A = H.get A) := by
      have hb' := hbad _ hmem
      unfold OpD.bad at hb'
      rcases (show t[k].kind = 2 ∨ t[k].kind = 3 by omega) with k2 | k3
      · obtain ⟨H', v', tm', h1, l, f0, f4, f11, f14, f53, f54, f55, f59, f60, f61, r⟩ := it39r or n b hb64 H va t ra hl k _ hx (hok _ hmem) (hbad _ hmem) _ hmk hmvk A11 N hA hN cm v14 _ hs htk v4 vt nt i k2 tm len t0 t4 t11 t14 t53 t54 t55 t59 t60 t61
        exact ⟨H', v', tm', h1, ⟨l, f0, f4, f11, f14, f53, f54, f55, f59, f60, f61⟩, r⟩
      · obtain ⟨H', v', tm', h1, l, f0, f4, f11, f14, f53, f54, f55, f59, f60, f61, r⟩ := it39w or n b hb64 H va t ra hl k _ hx (hok _ hmem) (hbad _ hmem) _ hmk hmvk A11 N hA hN cm v14 _ hs htk v4 vt nt i k3 tm len t0 t4 t11 t14 t53 t54 t55 t59 t60 t61
        exact ⟨H', v', tm', h1, ⟨l, f0, f4, f11, f14, f53, f54, f55, f59, f60, f61⟩, r⟩
    obtain ⟨H', v', tm', h1, ⟨l, f0, f4, f11, f14, f53, f54, f55, f59, f60, f61⟩, c1, s1, n1, g1⟩ := step
    rw [← e1] at c1
    rw [← e2] at s1
    have ra' : RdE H' 35 va (t.map OpD.cells) := ra.move fun R ver off len kcap ex e => by
      have := hlies R ver off len kcap ex 35 e
      unfold AHeap.rowAt; rw [g1 R (by omega) (by omega)]
    obtain ⟨H2, v2, tm2, r1, r2, r3, r4, r5, r6⟩ := loop39r or n b hb64 va t hl hok hbad m0 hm0 hmv0 A11 N hA hlies v4 vt nt i j (k + 1) q H' v' tm' (by omega) (by omega) (by omega) ra' c1 s1 l f0 f4 f11 f14 f53 f54 f55 f59 f60 f61
    exact ⟨H2, v2, tm2, by simp only [aLoop, h1, r1], r2, r3, r4, by omega, fun A a1 a2 => by rw [r6 A a1 a2, g1 A a1 a2]⟩

end Go.Proofs.Ythbjfkkjmecaaaa
