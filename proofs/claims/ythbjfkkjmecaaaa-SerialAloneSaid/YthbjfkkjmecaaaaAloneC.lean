/- Walks: Alone, its look at all operations. -/
import Derived.Test.YthbjfkkjmecaaaaAloneB
namespace Go.Proofs.Ythbjfkkjmecaaaa
open Go Go.Vm

set_option linter.unusedVariables false
set_option linter.unusedSimpArgs false
attribute [local simp] aStep awanted aOp ev aRess aRes1 tup aBin aUn aArith ASt.put ile_eq ilt_eq ieq_eq aPart List.getElem?_cons_zero

/-- Lists of operations, as they lie. -/
structure TxsAt (H : AHeap) (vt : AVal) (avs : List AVal) (txs : List (List OpD)) : Prop where
  rd : RdE H 1 vt (avs.map fun a => [a])
  lies : vt.lies (· < H.next)
  len : avs.length = txs.length
  at_ : ∀ (i : Nat) a t, avs[i]? = some a → txs[i]? = some t → RdE H 35 a (t.map OpD.cells) ∧ a.lies (· < H.next)
  ok : ∀ t ∈ txs, ∀ o ∈ t, o.Ok
  small : ∀ t ∈ txs, (t.length + 1) * 72 ≤ 140737488355328
  few : txs.length ≤ 40

theorem lies_lt {v : AVal} {a b : Nat} (h : v.lies (· < a)) (hb : a ≤ b) : v.lies (· < b) := fun R ver off len kcap ex esz e => Nat.lt_of_lt_of_le (h R ver off len kcap ex esz e) hb

theorem TxsAt.grow {H H' : AHeap} {vt : AVal} {avs : List AVal} {txs : List (List OpD)} (h : TxsAt H vt avs txs) (g : Grow H H') : TxsAt H' vt avs txs where
  rd := h.rd.grow g h.lies
  lies := lies_lt h.lies g.next
  len := h.len
  at_ := fun i a t ha ht => let ⟨h1, h2⟩ := h.at_ i a t ha ht; ⟨h1.grow g h2, lies_lt h2 g.next⟩
  ok := h.ok
  small := h.small
  few := h.few

theorem OpD.at0 (o : OpD) : o.cells[0]? = some (vi o.kind) := rfl
theorem OpD.at1 (o : OpD) : o.cells[1]? = some o.set := rfl
theorem OpD.at2 (o : OpD) : o.cells[2]? = some (vi o.blk) := rfl
theorem OpD.at3 (o : OpD) (h : o.Ok) : (o.cells.drop 3).take 32 = o.val := by
  show o.val.take 32 = o.val
  rw [List.take_of_length_le (by rw [h.val.len]; exact Nat.le_refl _)]

theorem it39g2 (or : Oracle) (n : Nat) (b : Int) (H : AHeap) (va : AVal) (t : List OpD) (ra : RdE H 35 va (t.map OpD.cells)) (hl : (t.length + 1) * 72 ≤ 140737488355328) (k : Nat) (o : OpD) (ho : t[k]? = some o) (hok : o.Ok) (vt : AVal) (nt : Nat) (i : Nat) (hkd : o.kind = 2) (hb0 : ¬ o.blk < 0) (hb1 : ¬ b ≤ o.blk) (tm : List AVal) (len : tm.length = 90) (t0 : tm[0]? = some (vi b)) (t1 : tm[1]? = some (vt)) (t4 : tm[4]? = some (anil)) (t20 : tm[20]? = some (vt)) (t21 : tm[21]? = some (vi nt)) (t22 : tm[22]? = some (vi i)) (t26 : tm[26]? = some (va)) (t27 : tm[27]? = some (vi t.length)) (t28 : tm[28]? = some (vi k)) :
    ∃ H' tm', aCode or true n (fstC (fstC (sndC (sndC (fstC (fstC (sndC (sndC (fstC (fstC (sndC (fstC (sndC (sndC (a39.code))))))))))))))) ⟨tm, H, []⟩ = some (.normal, ⟨tm', H', []⟩) ∧ tm'.length = 90 ∧ tm'[0]? = some (vi b) ∧ tm'[1]? = some (vt) ∧ tm'[4]? = some (anil) ∧ tm'[20]? = some (vt) ∧ tm'[21]? = some (vi nt) ∧ tm'[22]? = some (vi i) ∧ tm'[26]? = some (va) ∧ tm'[27]? = some (vi t.length) ∧ tm'[28]? = some (vi ((k : Int) + 1)) ∧ Grow H H' := by
  have hk := (List.getElem?_eq_some_iff.1 ho).1
  have hk' : (k : Int) < t.length := by omega
  have w : wrapF .i64 ((k : Int) + 1) = ((k : Int) + 1) := wrapI (by omega) (by omega)
  have hlen35 := hok.len
  have k0 := o.at0
  have k2 := o.at2
  obtain ⟨R, ver, off, kc, ex, cells, hva1, a2, a3, a4⟩ := ra.at (i := k) (e := o.cells) (by simp [ho])
  rw [List.length_map] at *
  obtain ⟨H1, hw1, g1, hc1, n1⟩ := newCells H (z := [vi 0, anil, vi 0, v8 0, v8 0, v8 0, v8 0, v8 0, v8 0, v8 0, v8 0, v8 0, v8 0, v8 0, v8 0, v8 0, v8 0, v8 0, v8 0, v8 0, v8 0, v8 0, v8 0, v8 0, v8 0, v8 0, v8 0, v8 0, v8 0, v8 0, v8 0, v8 0, v8 0, v8 0, v8 0]) (e := o.cells) (by rw [hlen35]; rfl) (by rw [hlen35]; omega) hok.allone
  have hr1 := hc1.at
  have hx0 := hkd
  have hx1 := hb0
  have hx2 := hb1
  obtain ⟨tm1, e1, l1, f1_0, f1_1, f1_4, f1_20, f1_21, f1_22, f1_26, f1_27, f1_28, f1_29⟩ : ∃ tm1 : List AVal, aCode or true n (fstC (fstC (fstC (sndC (sndC (fstC (fstC (sndC (sndC (fstC (fstC (sndC (fstC (sndC (sndC (a39.code)))))))))))))))) ⟨tm, H, []⟩ = some (.normal, ⟨tm1, H, []⟩) ∧ tm1.length = 90 ∧ tm1[0]? = some (vi b) ∧ tm1[1]? = some (vt) ∧ tm1[4]? = some (anil) ∧ tm1[20]? = some (vt) ∧ tm1[21]? = some (vi nt) ∧ tm1[22]? = some (vi i) ∧ tm1[26]? = some (va) ∧ tm1[27]? = some (vi t.length) ∧ tm1[28]? = some (vi k) ∧ tm1[29]? = some (abool true) := by
    refine ⟨?e1w, ?e1a, ?e1b0, ?e1b1, ?e1b2, ?e1b3, ?e1b4, ?e1b5, ?e1b6, ?e1b7, ?e1b8, ?e1b9, ?e1b10⟩
    case e1a =>
      apply regN
      iterate 1 (apply stepN; · simp [-getElem?_pos, List.getElem?_set, len, t27, t28, hk']; rfl)
      exact nilN (or := or)
    all_goals simp [-getElem?_pos, List.getElem?_set, len, t0, t1, t4, t20, t21, t22, t26, t27, t28]
  obtain ⟨tm2, e2, l2, f2_0, f2_1, f2_4, f2_10, f2_20, f2_21, f2_22, f2_26, f2_27, f2_28, f2_29⟩ : ∃ tm2 : List AVal, aCode or true n (fstC (fstC (fstC (sndC (sndC (fstC (fstC (sndC (sndC (fstC (fstC (sndC (sndC (fstC (fstC (sndC (fstC (sndC (sndC (a39.code)))))))))))))))))))) ⟨tm1, H, []⟩ = some (.normal, ⟨tm2, H1, []⟩) ∧ tm2.length = 90 ∧ tm2[0]? = some (vi b) ∧ tm2[1]? = some (vt) ∧ tm2[4]? = some (anil) ∧ tm2[10]? = some (vp H.next) ∧ tm2[20]? = some (vt) ∧ tm2[21]? = some (vi nt) ∧ tm2[22]? = some (vi i) ∧ tm2[26]? = some (va) ∧ tm2[27]? = some (vi t.length) ∧ tm2[28]? = some (vi k) ∧ tm2[29]? = some (abool true) := by
    refine ⟨?e2w, ?e2a, ?e2b0, ?e2b1, ?e2b2, ?e2b3, ?e2b4, ?e2b5, ?e2b6, ?e2b7, ?e2b8, ?e2b9, ?e2b10, ?e2b11⟩
    case e2a =>
      apply regN
      iterate 4 (apply stepN; · simp [-getElem?_pos, List.getElem?_set, l1, f1_26, f1_28, hva1, hk, a2, a3, a4, AVal.cells, hlen35, hw1]; rfl)
      exact nilN (or := or)
    all_goals simp [-getElem?_pos, List.getElem?_set, l1, f1_0, f1_1, f1_4, f1_20, f1_21, f1_22, f1_26, f1_27, f1_28, f1_29]
  obtain ⟨tm3, e3, l3, f3_0, f3_1, f3_4, f3_10, f3_20, f3_21, f3_22, f3_26, f3_27, f3_28, f3_29, f3_50⟩ : ∃ tm3 : List AVal, aCode or true n (fstC (sndC (fstC (fstC (sndC (sndC (fstC (fstC (sndC (sndC (fstC (fstC (sndC (sndC (fstC (fstC (sndC (fstC (sndC (sndC (a39.code))))))))))))))))))))) ⟨tm2, H1, []⟩ = some (.normal, ⟨tm3, H1, []⟩) ∧ tm3.length = 90 ∧ tm3[0]? = some (vi b) ∧ tm3[1]? = some (vt) ∧ tm3[4]? = some (anil) ∧ tm3[10]? = some (vp H.next) ∧ tm3[20]? = some (vt) ∧ tm3[21]? = some (vi nt) ∧ tm3[22]? = some (vi i) ∧ tm3[26]? = some (va) ∧ tm3[27]? = some (vi t.length) ∧ tm3[28]? = some (vi k) ∧ tm3[29]? = some (abool true) ∧ tm3[50]? = some (abool false) := by
    refine ⟨?e3w, ?e3a, ?e3b0, ?e3b1, ?e3b2, ?e3b3, ?e3b4, ?e3b5, ?e3b6, ?e3b7, ?e3b8, ?e3b9, ?e3b10, ?e3b11, ?e3b12⟩
    case e3a =>
      apply regN
      iterate 19 (apply stepN; · simp [-getElem?_pos, List.getElem?_set, l2, f2_0, f2_10, hr1, hlen35, k0, k2, hx0, hx1, hx2]; rfl)
      exact nilN (or := or)
    all_goals simp [-getElem?_pos, List.getElem?_set, l2, f2_0, f2_1, f2_4, f2_10, f2_20, f2_21, f2_22, f2_26, f2_27, f2_28, f2_29]
  obtain ⟨tm4, e4, l4, f4_0, f4_1, f4_4, f4_10, f4_20, f4_21, f4_22, f4_26, f4_27, f4_28, f4_29, f4_50⟩ : ∃ tm4 : List AVal, aCode or true n (sndC (sndC (sndC (fstC (fstC (sndC (sndC (fstC (fstC (sndC (sndC (fstC (fstC (sndC (fstC (sndC (sndC (a39.code)))))))))))))))))) ⟨tm3, H1, []⟩ = some (.normal, ⟨tm4, H1, []⟩) ∧ tm4.length = 90 ∧ tm4[0]? = some (vi b) ∧ tm4[1]? = some (vt) ∧ tm4[4]? = some (anil) ∧ tm4[10]? = some (vp H.next) ∧ tm4[20]? = some (vt) ∧ tm4[21]? = some (vi nt) ∧ tm4[22]? = some (vi i) ∧ tm4[26]? = some (va) ∧ tm4[27]? = some (vi t.length) ∧ tm4[28]? = some (vi ((k : Int) + 1)) ∧ tm4[29]? = some (abool true) ∧ tm4[50]? = some (abool false) := by
    refine ⟨?e4w, ?e4a, ?e4b0, ?e4b1, ?e4b2, ?e4b3, ?e4b4, ?e4b5, ?e4b6, ?e4b7, ?e4b8, ?e4b9, ?e4b10, ?e4b11, ?e4b12⟩
    case e4a =>
      apply regN
      iterate 2 (apply stepN; · simp [-getElem?_pos, List.getElem?_set, l3, f3_28, w]; rfl)
      exact nilN (or := or)
    all_goals simp [-getElem?_pos, List.getElem?_set, l3, f3_0, f3_1, f3_4, f3_10, f3_20, f3_21, f3_22, f3_26, f3_27, f3_28, f3_29, f3_50]
  exact ⟨H1, tm4, (seqN e1 (seqN (condT f1_29 skipN) (seqN (blkN (seqN e2 (seqN e3 (condF f3_50 skipN)))) e4))), l4, f4_0, f4_1, f4_4, f4_20, f4_21, f4_22, f4_26, f4_27, f4_28, g1⟩

theorem it39g3 (or : Oracle) (n : Nat) (b : Int) (H : AHeap) (va : AVal) (t : List OpD) (ra : RdE H 35 va (t.map OpD.cells)) (hl : (t.length + 1) * 72 ≤ 140737488355328) (k : Nat) (o : OpD) (ho : t[k]? = some o) (hok : o.Ok) (vt : AVal) (nt : Nat) (i : Nat) (hkd : o.kind = 3) (hb0 : ¬ o.blk < 0) (hb1 : ¬ b ≤ o.blk) (tm : List AVal) (len : tm.length = 90) (t0 : tm[0]? = some (vi b)) (t1 : tm[1]? = some (vt)) (t4 : tm[4]? = some (anil)) (t20 : tm[20]? = some (vt)) (t21 : tm[21]? = some (vi nt)) (t22 : tm[22]? = some (vi i)) (t26 : tm[26]? = some (va)) (t27 : tm[27]? = some (vi t.length)) (t28 : tm[28]? = some (vi k)) :
    ∃ H' tm', aCode or true n (fstC (fstC (sndC (sndC (fstC (fstC (sndC (sndC (fstC (fstC (sndC (fstC (sndC (sndC (a39.code))))))))))))))) ⟨tm, H, []⟩ = some (.normal, ⟨tm', H', []⟩) ∧ tm'.length = 90 ∧ tm'[0]? = some (vi b) ∧ tm'[1]? = some (vt) ∧ tm'[4]? = some (anil) ∧ tm'[20]? = some (vt) ∧ tm'[21]? = some (vi nt) ∧ tm'[22]? = some (vi i) ∧ tm'[26]? = some (va) ∧ tm'[27]? = some (vi t.length) ∧ tm'[28]? = some (vi ((k : Int) + 1)) ∧ Grow H H' := by
  have hk := (List.getElem?_eq_some_iff.1 ho).1
  have hk' : (k : Int) < t.length := by omega
  have w : wrapF .i64 ((k : Int) + 1) = ((k : Int) + 1) := wrapI (by omega) (by omega)
  have hlen35 := hok.len
  have k0 := o.at0
  have k2 := o.at2
  obtain ⟨R, ver, off, kc, ex, cells, hva1, a2, a3, a4⟩ := ra.at (i := k) (e := o.cells) (by simp [ho])
  rw [List.length_map] at *
  obtain ⟨H1, hw1, g1, hc1, n1⟩ := newCells H (z := [vi 0, anil, vi 0, v8 0, v8 0, v8 0, v8 0, v8 0, v8 0, v8 0, v8 0, v8 0, v8 0, v8 0, v8 0, v8 0, v8 0, v8 0, v8 0, v8 0, v8 0, v8 0, v8 0, v8 0, v8 0, v8 0, v8 0, v8 0, v8 0, v8 0, v8 0, v8 0, v8 0, v8 0, v8 0]) (e := o.cells) (by rw [hlen35]; rfl) (by rw [hlen35]; omega) hok.allone
  have hr1 := hc1.at
  have hx0 := hkd
  have hx1 := hb0
  have hx2 := hb1
  obtain ⟨tm1, e1, l1, f1_0, f1_1, f1_4, f1_20, f1_21, f1_22, f1_26, f1_27, f1_28, f1_29⟩ : ∃ tm1 : List AVal, aCode or true n (fstC (fstC (fstC (sndC (sndC (fstC (fstC (sndC (sndC (fstC (fstC (sndC (fstC (sndC (sndC (a39.code)))))))))))))))) ⟨tm, H, []⟩ = some (.normal, ⟨tm1, H, []⟩) ∧ tm1.length = 90 ∧ tm1[0]? = some (vi b) ∧ tm1[1]? = some (vt) ∧ tm1[4]? = some (anil) ∧ tm1[20]? = some (vt) ∧ tm1[21]? = some (vi nt) ∧ tm1[22]? = some (vi i) ∧ tm1[26]? = some (va) ∧ tm1[27]? = some (vi t.length) ∧ tm1[28]? = some (vi k) ∧ tm1[29]? = some (abool true) := by
    refine ⟨?e1w, ?e1a, ?e1b0, ?e1b1, ?e1b2, ?e1b3, ?e1b4, ?e1b5, ?e1b6, ?e1b7, ?e1b8, ?e1b9, ?e1b10⟩
    case e1a =>
      apply regN
      iterate 1 (apply stepN; · simp [-getElem?_pos, List.getElem?_set, len, t27, t28, hk']; rfl)
      exact nilN (or := or)
    all_goals simp [-getElem?_pos, List.getElem?_set, len, t0, t1, t4, t20, t21, t22, t26, t27, t28]
  obtain ⟨tm2, e2, l2, f2_0, f2_1, f2_4, f2_10, f2_20, f2_21, f2_22, f2_26, f2_27, f2_28, f2_29⟩ : ∃ tm2 : List AVal, aCode or true n (fstC (fstC (fstC (sndC (sndC (fstC (fstC (sndC (sndC (fstC (fstC (sndC (sndC (fstC (fstC (sndC (fstC (sndC (sndC (a39.code)))))))))))))))))))) ⟨tm1, H, []⟩ = some (.normal, ⟨tm2, H1, []⟩) ∧ tm2.length = 90 ∧ tm2[0]? = some (vi b) ∧ tm2[1]? = some (vt) ∧ tm2[4]? = some (anil) ∧ tm2[10]? = some (vp H.next) ∧ tm2[20]? = some (vt) ∧ tm2[21]? = some (vi nt) ∧ tm2[22]? = some (vi i) ∧ tm2[26]? = some (va) ∧ tm2[27]? = some (vi t.length) ∧ tm2[28]? = some (vi k) ∧ tm2[29]? = some (abool true) := by
    refine ⟨?e2w, ?e2a, ?e2b0, ?e2b1, ?e2b2, ?e2b3, ?e2b4, ?e2b5, ?e2b6, ?e2b7, ?e2b8, ?e2b9, ?e2b10, ?e2b11⟩
    case e2a =>
      apply regN
      iterate 4 (apply stepN; · simp [-getElem?_pos, List.getElem?_set, l1, f1_26, f1_28, hva1, hk, a2, a3, a4, AVal.cells, hlen35, hw1]; rfl)
      exact nilN (or := or)
    all_goals simp [-getElem?_pos, List.getElem?_set, l1, f1_0, f1_1, f1_4, f1_20, f1_21, f1_22, f1_26, f1_27, f1_28, f1_29]
  obtain ⟨tm3, e3, l3, f3_0, f3_1, f3_4, f3_10, f3_20, f3_21, f3_22, f3_26, f3_27, f3_28, f3_29, f3_50⟩ : ∃ tm3 : List AVal, aCode or true n (fstC (sndC (fstC (fstC (sndC (sndC (fstC (fstC (sndC (sndC (fstC (fstC (sndC (sndC (fstC (fstC (sndC (fstC (sndC (sndC (a39.code))))))))))))))))))))) ⟨tm2, H1, []⟩ = some (.normal, ⟨tm3, H1, []⟩) ∧ tm3.length = 90 ∧ tm3[0]? = some (vi b) ∧ tm3[1]? = some (vt) ∧ tm3[4]? = some (anil) ∧ tm3[10]? = some (vp H.next) ∧ tm3[20]? = some (vt) ∧ tm3[21]? = some (vi nt) ∧ tm3[22]? = some (vi i) ∧ tm3[26]? = some (va) ∧ tm3[27]? = some (vi t.length) ∧ tm3[28]? = some (vi k) ∧ tm3[29]? = some (abool true) ∧ tm3[50]? = some (abool false) := by
    refine ⟨?e3w, ?e3a, ?e3b0, ?e3b1, ?e3b2, ?e3b3, ?e3b4, ?e3b5, ?e3b6, ?e3b7, ?e3b8, ?e3b9, ?e3b10, ?e3b11, ?e3b12⟩
    case e3a =>
      apply regN
      iterate 19 (apply stepN; · simp [-getElem?_pos, List.getElem?_set, l2, f2_0, f2_10, hr1, hlen35, k0, k2, hx0, hx1, hx2]; rfl)
      exact nilN (or := or)
    all_goals simp [-getElem?_pos, List.getElem?_set, l2, f2_0, f2_1, f2_4, f2_10, f2_20, f2_21, f2_22, f2_26, f2_27, f2_28, f2_29]
  obtain ⟨tm4, e4, l4, f4_0, f4_1, f4_4, f4_10, f4_20, f4_21, f4_22, f4_26, f4_27, f4_28, f4_29, f4_50⟩ : ∃ tm4 : List AVal, aCode or true n (sndC (sndC (sndC (fstC (fstC (sndC (sndC (fstC (fstC (sndC (sndC (fstC (fstC (sndC (fstC (sndC (sndC (a39.code)))))))))))))))))) ⟨tm3, H1, []⟩ = some (.normal, ⟨tm4, H1, []⟩) ∧ tm4.length = 90 ∧ tm4[0]? = some (vi b) ∧ tm4[1]? = some (vt) ∧ tm4[4]? = some (anil) ∧ tm4[10]? = some (vp H.next) ∧ tm4[20]? = some (vt) ∧ tm4[21]? = some (vi nt) ∧ tm4[22]? = some (vi i) ∧ tm4[26]? = some (va) ∧ tm4[27]? = some (vi t.length) ∧ tm4[28]? = some (vi ((k : Int) + 1)) ∧ tm4[29]? = some (abool true) ∧ tm4[50]? = some (abool false) := by
    refine ⟨?e4w, ?e4a, ?e4b0, ?e4b1, ?e4b2, ?e4b3, ?e4b4, ?e4b5, ?e4b6, ?e4b7, ?e4b8, ?e4b9, ?e4b10, ?e4b11, ?e4b12⟩
    case e4a =>
      apply regN
      iterate 2 (apply stepN; · simp [-getElem?_pos, List.getElem?_set, l3, f3_28, w]; rfl)
      exact nilN (or := or)
    all_goals simp [-getElem?_pos, List.getElem?_set, l3, f3_0, f3_1, f3_4, f3_10, f3_20, f3_21, f3_22, f3_26, f3_27, f3_28, f3_29, f3_50]
  exact ⟨H1, tm4, (seqN e1 (seqN (condT f1_29 skipN) (seqN (blkN (seqN e2 (seqN e3 (condF f3_50 skipN)))) e4))), l4, f4_0, f4_1, f4_4, f4_20, f4_21, f4_22, f4_26, f4_27, f4_28, g1⟩

theorem it39bn (or : Oracle) (n : Nat) (b : Int) (H : AHeap) (va : AVal) (t : List OpD) (ra : RdE H 35 va (t.map OpD.cells)) (hl : (t.length + 1) * 72 ≤ 140737488355328) (k : Nat) (o : OpD) (ho : t[k]? = some o) (hok : o.Ok) (vt : AVal) (nt : Nat) (i : Nat) (hkd : o.kind ≠ 2) (hkd' : o.kind ≠ 3) (tm : List AVal) (len : tm.length = 90) (t0 : tm[0]? = some (vi b)) (t1 : tm[1]? = some (vt)) (t4 : tm[4]? = some (anil)) (t20 : tm[20]? = some (vt)) (t21 : tm[21]? = some (vi nt)) (t22 : tm[22]? = some (vi i)) (t26 : tm[26]? = some (va)) (t27 : tm[27]? = some (vi t.length)) (t28 : tm[28]? = some (vi k)) :
    ∃ H' tm', aCode or true n (fstC (fstC (sndC (sndC (fstC (fstC (sndC (sndC (fstC (fstC (sndC (fstC (sndC (sndC (a39.code))))))))))))))) ⟨tm, H, []⟩ = some (.ret, ⟨tm', H', []⟩) ∧ tm'.length = 90 ∧ tm'[4]? = some (anil) ∧ tm'[5]? = some (anil) ∧ tm'[6]? = some (vi 2) ∧ Grow H H' := by
  have hk := (List.getElem?_eq_some_iff.1 ho).1
  have hk' : (k : Int) < t.length := by omega
  have w : wrapF .i64 ((k : Int) + 1) = ((k : Int) + 1) := wrapI (by omega) (by omega)
  have hlen35 := hok.len
  have k0 := o.at0
  have k2 := o.at2
  obtain ⟨R, ver, off, kc, ex, cells, hva1, a2, a3, a4⟩ := ra.at (i := k) (e := o.cells) (by simp [ho])
  rw [List.length_map] at *
  obtain ⟨H1, hw1, g1, hc1, n1⟩ := newCells H (z := [vi 0, anil, vi 0, v8 0, v8 0, v8 0, v8 0, v8 0, v8 0, v8 0, v8 0, v8 0, v8 0, v8 0, v8 0, v8 0, v8 0, v8 0, v8 0, v8 0, v8 0, v8 0, v8 0, v8 0, v8 0, v8 0, v8 0, v8 0, v8 0, v8 0, v8 0, v8 0, v8 0, v8 0, v8 0]) (e := o.cells) (by rw [hlen35]; rfl) (by rw [hlen35]; omega) hok.allone
  have hr1 := hc1.at
  have hx0 := hkd
  have hx1 := hkd'
  have hx2 := hkd
  obtain ⟨tm1, e1, l1, f1_0, f1_1, f1_4, f1_20, f1_21, f1_22, f1_26, f1_27, f1_28, f1_29⟩ : ∃ tm1 : List AVal, aCode or true n (fstC (fstC (fstC (sndC (sndC (fstC (fstC (sndC (sndC (fstC (fstC (sndC (fstC (sndC (sndC (a39.code)))))))))))))))) ⟨tm, H, []⟩ = some (.normal, ⟨tm1, H, []⟩) ∧ tm1.length = 90 ∧ tm1[0]? = some (vi b) ∧ tm1[1]? = some (vt) ∧ tm1[4]? = some (anil) ∧ tm1[20]? = some (vt) ∧ tm1[21]? = some (vi nt) ∧ tm1[22]? = some (vi i) ∧ tm1[26]? = some (va) ∧ tm1[27]? = some (vi t.length) ∧ tm1[28]? = some (vi k) ∧ tm1[29]? = some (abool true) := by
    refine ⟨?e1w, ?e1a, ?e1b0, ?e1b1, ?e1b2, ?e1b3, ?e1b4, ?e1b5, ?e1b6, ?e1b7, ?e1b8, ?e1b9, ?e1b10⟩
    case e1a =>
      apply regN
      iterate 1 (apply stepN; · simp [-getElem?_pos, List.getElem?_set, len, t27, t28, hk']; rfl)
      exact nilN (or := or)
    all_goals simp [-getElem?_pos, List.getElem?_set, len, t0, t1, t4, t20, t21, t22, t26, t27, t28]
  obtain ⟨tm2, e2, l2, f2_0, f2_1, f2_4, f2_10, f2_20, f2_21, f2_22, f2_26, f2_27, f2_28, f2_29⟩ : ∃ tm2 : List AVal, aCode or true n (fstC (fstC (fstC (sndC (sndC (fstC (fstC (sndC (sndC (fstC (fstC (sndC (sndC (fstC (fstC (sndC (fstC (sndC (sndC (a39.code)))))))))))))))))))) ⟨tm1, H, []⟩ = some (.normal, ⟨tm2, H1, []⟩) ∧ tm2.length = 90 ∧ tm2[0]? = some (vi b) ∧ tm2[1]? = some (vt) ∧ tm2[4]? = some (anil) ∧ tm2[10]? = some (vp H.next) ∧ tm2[20]? = some (vt) ∧ tm2[21]? = some (vi nt) ∧ tm2[22]? = some (vi i) ∧ tm2[26]? = some (va) ∧ tm2[27]? = some (vi t.length) ∧ tm2[28]? = some (vi k) ∧ tm2[29]? = some (abool true) := by
    refine ⟨?e2w, ?e2a, ?e2b0, ?e2b1, ?e2b2, ?e2b3, ?e2b4, ?e2b5, ?e2b6, ?e2b7, ?e2b8, ?e2b9, ?e2b10, ?e2b11⟩
    case e2a =>
      apply regN
      iterate 4 (apply stepN; · simp [-getElem?_pos, List.getElem?_set, l1, f1_26, f1_28, hva1, hk, a2, a3, a4, AVal.cells, hlen35, hw1]; rfl)
      exact nilN (or := or)
    all_goals simp [-getElem?_pos, List.getElem?_set, l1, f1_0, f1_1, f1_4, f1_20, f1_21, f1_22, f1_26, f1_27, f1_28, f1_29]
  obtain ⟨tm3, e3, l3, f3_0, f3_1, f3_4, f3_10, f3_20, f3_21, f3_22, f3_26, f3_27, f3_28, f3_29, f3_50⟩ : ∃ tm3 : List AVal, aCode or true n (fstC (sndC (fstC (fstC (sndC (sndC (fstC (fstC (sndC (sndC (fstC (fstC (sndC (sndC (fstC (fstC (sndC (fstC (sndC (sndC (a39.code))))))))))))))))))))) ⟨tm2, H1, []⟩ = some (.normal, ⟨tm3, H1, []⟩) ∧ tm3.length = 90 ∧ tm3[0]? = some (vi b) ∧ tm3[1]? = some (vt) ∧ tm3[4]? = some (anil) ∧ tm3[10]? = some (vp H.next) ∧ tm3[20]? = some (vt) ∧ tm3[21]? = some (vi nt) ∧ tm3[22]? = some (vi i) ∧ tm3[26]? = some (va) ∧ tm3[27]? = some (vi t.length) ∧ tm3[28]? = some (vi k) ∧ tm3[29]? = some (abool true) ∧ tm3[50]? = some (abool true) := by
    refine ⟨?e3w, ?e3a, ?e3b0, ?e3b1, ?e3b2, ?e3b3, ?e3b4, ?e3b5, ?e3b6, ?e3b7, ?e3b8, ?e3b9, ?e3b10, ?e3b11, ?e3b12⟩
    case e3a =>
      apply regN
      iterate 19 (apply stepN; · simp [-getElem?_pos, List.getElem?_set, l2, f2_0, f2_10, hr1, hlen35, k0, k2, hx0, hx1, hx2]; rfl)
      exact nilN (or := or)
    all_goals simp [-getElem?_pos, List.getElem?_set, l2, f2_0, f2_1, f2_4, f2_10, f2_20, f2_21, f2_22, f2_26, f2_27, f2_28, f2_29]
  obtain ⟨tm4, e4, l4, f4_0, f4_1, f4_4, f4_5, f4_6, f4_10, f4_20, f4_21, f4_22, f4_26, f4_27, f4_28, f4_29, f4_50⟩ : ∃ tm4 : List AVal, aCode or true n (fstC (fstC (sndC (sndC (fstC (fstC (sndC (sndC (fstC (fstC (sndC (sndC (fstC (fstC (sndC (sndC (fstC (fstC (sndC (fstC (sndC (sndC (a39.code))))))))))))))))))))))) ⟨tm3, H1, []⟩ = some (.normal, ⟨tm4, H1, []⟩) ∧ tm4.length = 90 ∧ tm4[0]? = some (vi b) ∧ tm4[1]? = some (vt) ∧ tm4[4]? = some (anil) ∧ tm4[5]? = some (anil) ∧ tm4[6]? = some (vi 2) ∧ tm4[10]? = some (vp H.next) ∧ tm4[20]? = some (vt) ∧ tm4[21]? = some (vi nt) ∧ tm4[22]? = some (vi i) ∧ tm4[26]? = some (va) ∧ tm4[27]? = some (vi t.length) ∧ tm4[28]? = some (vi k) ∧ tm4[29]? = some (abool true) ∧ tm4[50]? = some (abool true) := by
    refine ⟨?e4w, ?e4a, ?e4b0, ?e4b1, ?e4b2, ?e4b3, ?e4b4, ?e4b5, ?e4b6, ?e4b7, ?e4b8, ?e4b9, ?e4b10, ?e4b11, ?e4b12, ?e4b13, ?e4b14⟩
    case e4a =>
      apply regN
      iterate 3 (apply stepN; · simp [-getElem?_pos, List.getElem?_set, l3]; rfl)
      exact nilN (or := or)
    all_goals simp [-getElem?_pos, List.getElem?_set, l3, f3_0, f3_1, f3_4, f3_10, f3_20, f3_21, f3_22, f3_26, f3_27, f3_28, f3_29, f3_50]
  exact ⟨H1, tm4, (seqN e1 (seqN (condT f1_29 skipN) (seqX (blkR (seqN e2 (seqN e3 (condT f3_50 (seqN e4 retN))))) (by simp)))), l4, f4_4, f4_5, f4_6, g1⟩

theorem it39b2l (or : Oracle) (n : Nat) (b : Int) (H : AHeap) (va : AVal) (t : List OpD) (ra : RdE H 35 va (t.map OpD.cells)) (hl : (t.length + 1) * 72 ≤ 140737488355328) (k : Nat) (o : OpD) (ho : t[k]? = some o) (hok : o.Ok) (vt : AVal) (nt : Nat) (i : Nat) (hkd : o.kind = 2) (hb0 : o.blk < 0) (tm : List AVal) (len : tm.length = 90) (t0 : tm[0]? = some (vi b)) (t1 : tm[1]? = some (vt)) (t4 : tm[4]? = some (anil)) (t20 : tm[20]? = some (vt)) (t21 : tm[21]? = some (vi nt)) (t22 : tm[22]? = some (vi i)) (t26 : tm[26]? = some (va)) (t27 : tm[27]? = some (vi t.length)) (t28 : tm[28]? = some (vi k)) :
    ∃ H' tm', aCode or true n (fstC (fstC (sndC (sndC (fstC (fstC (sndC (sndC (fstC (fstC (sndC (fstC (sndC (sndC (a39.code))))))))))))))) ⟨tm, H, []⟩ = some (.ret, ⟨tm', H', []⟩) ∧ tm'.length = 90 ∧ tm'[4]? = some (anil) ∧ tm'[5]? = some (anil) ∧ tm'[6]? = some (vi 2) ∧ Grow H H' := by
  have hk := (List.getElem?_eq_some_iff.1 ho).1
  have hk' : (k : Int) < t.length := by omega
  have w : wrapF .i64 ((k : Int) + 1) = ((k : Int) + 1) := wrapI (by omega) (by omega)
  have hlen35 := hok.len
  have k0 := o.at0
  have k2 := o.at2
  obtain ⟨R, ver, off, kc, ex, cells, hva1, a2, a3, a4⟩ := ra.at (i := k) (e := o.cells) (by simp [ho])
  rw [List.length_map] at *
  obtain ⟨H1, hw1, g1, hc1, n1⟩ := newCells H (z := [vi 0, anil, vi 0, v8 0, v8 0, v8 0, v8 0, v8 0, v8 0, v8 0, v8 0, v8 0, v8 0, v8 0, v8 0, v8 0, v8 0, v8 0, v8 0, v8 0, v8 0, v8 0, v8 0, v8 0, v8 0, v8 0, v8 0, v8 0, v8 0, v8 0, v8 0, v8 0, v8 0, v8 0, v8 0]) (e := o.cells) (by rw [hlen35]; rfl) (by rw [hlen35]; omega) hok.allone
  have hr1 := hc1.at
  have hx0 := hkd
  have hx1 := hb0
  have hx2 := hb0
  obtain ⟨tm1, e1, l1, f1_0, f1_1, f1_4, f1_20, f1_21, f1_22, f1_26, f1_27, f1_28, f1_29⟩ : ∃ tm1 : List AVal, aCode or true n (fstC (fstC (fstC (sndC (sndC (fstC (fstC (sndC (sndC (fstC (fstC (sndC (fstC (sndC (sndC (a39.code)))))))))))))))) ⟨tm, H, []⟩ = some (.normal, ⟨tm1, H, []⟩) ∧ tm1.length = 90 ∧ tm1[0]? = some (vi b) ∧ tm1[1]? = some (vt) ∧ tm1[4]? = some (anil) ∧ tm1[20]? = some (vt) ∧ tm1[21]? = some (vi nt) ∧ tm1[22]? = some (vi i) ∧ tm1[26]? = some (va) ∧ tm1[27]? = some (vi t.length) ∧ tm1[28]? = some (vi k) ∧ tm1[29]? = some (abool true) := by
    refine ⟨?e1w, ?e1a, ?e1b0, ?e1b1, ?e1b2, ?e1b3, ?e1b4, ?e1b5, ?e1b6, ?e1b7, ?e1b8, ?e1b9, ?e1b10⟩
    case e1a =>
      apply regN
      iterate 1 (apply stepN; · simp [-getElem?_pos, List.getElem?_set, len, t27, t28, hk']; rfl)
      exact nilN (or := or)
    all_goals simp [-getElem?_pos, List.getElem?_set, len, t0, t1, t4, t20, t21, t22, t26, t27, t28]
  obtain ⟨tm2, e2, l2, f2_0, f2_1, f2_4, f2_10, f2_20, f2_21, f2_22, f2_26, f2_27, f2_28, f2_29⟩ : ∃ tm2 : List AVal, aCode or true n (fstC (fstC (fstC (sndC (sndC (fstC (fstC (sndC (sndC (fstC (fstC (sndC (sndC (fstC (fstC (sndC (fstC (sndC (sndC (a39.code)))))))))))))))))))) ⟨tm1, H, []⟩ = some (.normal, ⟨tm2, H1, []⟩) ∧ tm2.length = 90 ∧ tm2[0]? = some (vi b) ∧ tm2[1]? = some (vt) ∧ tm2[4]? = some (anil) ∧ tm2[10]? = some (vp H.next) ∧ tm2[20]? = some (vt) ∧ tm2[21]? = some (vi nt) ∧ tm2[22]? = some (vi i) ∧ tm2[26]? = some (va) ∧ tm2[27]? = some (vi t.length) ∧ tm2[28]? = some (vi k) ∧ tm2[29]? = some (abool true) := by
    refine ⟨?e2w, ?e2a, ?e2b0, ?e2b1, ?e2b2, ?e2b3, ?e2b4, ?e2b5, ?e2b6, ?e2b7, ?e2b8, ?e2b9, ?e2b10, ?e2b11⟩
    case e2a =>
      apply regN
      iterate 4 (apply stepN; · simp [-getElem?_pos, List.getElem?_set, l1, f1_26, f1_28, hva1, hk, a2, a3, a4, AVal.cells, hlen35, hw1]; rfl)
      exact nilN (or := or)
    all_goals simp [-getElem?_pos, List.getElem?_set, l1, f1_0, f1_1, f1_4, f1_20, f1_21, f1_22, f1_26, f1_27, f1_28, f1_29]
  obtain ⟨tm3, e3, l3, f3_0, f3_1, f3_4, f3_10, f3_20, f3_21, f3_22, f3_26, f3_27, f3_28, f3_29, f3_50⟩ : ∃ tm3 : List AVal, aCode or true n (fstC (sndC (fstC (fstC (sndC (sndC (fstC (fstC (sndC (sndC (fstC (fstC (sndC (sndC (fstC (fstC (sndC (fstC (sndC (sndC (a39.code))))))))))))))))))))) ⟨tm2, H1, []⟩ = some (.normal, ⟨tm3, H1, []⟩) ∧ tm3.length = 90 ∧ tm3[0]? = some (vi b) ∧ tm3[1]? = some (vt) ∧ tm3[4]? = some (anil) ∧ tm3[10]? = some (vp H.next) ∧ tm3[20]? = some (vt) ∧ tm3[21]? = some (vi nt) ∧ tm3[22]? = some (vi i) ∧ tm3[26]? = some (va) ∧ tm3[27]? = some (vi t.length) ∧ tm3[28]? = some (vi k) ∧ tm3[29]? = some (abool true) ∧ tm3[50]? = some (abool true) := by
    refine ⟨?e3w, ?e3a, ?e3b0, ?e3b1, ?e3b2, ?e3b3, ?e3b4, ?e3b5, ?e3b6, ?e3b7, ?e3b8, ?e3b9, ?e3b10, ?e3b11, ?e3b12⟩
    case e3a =>
      apply regN
      iterate 19 (apply stepN; · simp [-getElem?_pos, List.getElem?_set, l2, f2_0, f2_10, hr1, hlen35, k0, k2, hx0, hx1, hx2]; rfl)
      exact nilN (or := or)
    all_goals simp [-getElem?_pos, List.getElem?_set, l2, f2_0, f2_1, f2_4, f2_10, f2_20, f2_21, f2_22, f2_26, f2_27, f2_28, f2_29]
  obtain ⟨tm4, e4, l4, f4_0, f4_1, f4_4, f4_5, f4_6, f4_10, f4_20, f4_21, f4_22, f4_26, f4_27, f4_28, f4_29, f4_50⟩ : ∃ tm4 : List AVal, aCode or true n (fstC (fstC (sndC (sndC (fstC (fstC (sndC (sndC (fstC (fstC (sndC (sndC (fstC (fstC (sndC (sndC (fstC (fstC (sndC (fstC (sndC (sndC (a39.code))))))))))))))))))))))) ⟨tm3, H1, []⟩ = some (.normal, ⟨tm4, H1, []⟩) ∧ tm4.length = 90 ∧ tm4[0]? = some (vi b) ∧ tm4[1]? = some (vt) ∧ tm4[4]? = some (anil) ∧ tm4[5]? = some (anil) ∧ tm4[6]? = some (vi 2) ∧ tm4[10]? = some (vp H.next) ∧ tm4[20]? = some (vt) ∧ tm4[21]? = some (vi nt) ∧ tm4[22]? = some (vi i) ∧ tm4[26]? = some (va) ∧ tm4[27]? = some (vi t.length) ∧ tm4[28]? = some (vi k) ∧ tm4[29]? = some (abool true) ∧ tm4[50]? = some (abool true) := by
    refine ⟨?e4w, ?e4a, ?e4b0, ?e4b1, ?e4b2, ?e4b3, ?e4b4, ?e4b5, ?e4b6, ?e4b7, ?e4b8, ?e4b9, ?e4b10, ?e4b11, ?e4b12, ?e4b13, ?e4b14⟩
    case e4a =>
      apply regN
      iterate 3 (apply stepN; · simp [-getElem?_pos, List.getElem?_set, l3]; rfl)
      exact nilN (or := or)
    all_goals simp [-getElem?_pos, List.getElem?_set, l3, f3_0, f3_1, f3_4, f3_10, f3_20, f3_21, f3_22, f3_26, f3_27, f3_28, f3_29, f3_50]
  exact ⟨H1, tm4, (seqN e1 (seqN (condT f1_29 skipN) (seqX (blkR (seqN e2 (seqN e3 (condT f3_50 (seqN e4 retN))))) (by simp)))), l4, f4_4, f4_5, f4_6, g1⟩

theorem it39b3l (or : Oracle) (n : Nat) (b : Int) (H : AHeap) (va : AVal) (t : List OpD) (ra : RdE H 35 va (t.map OpD.cells)) (hl : (t.length + 1) * 72 ≤ 140737488355328) (k : Nat) (o : OpD) (ho : t[k]? = some o) (hok : o.Ok) (vt : AVal) (nt : Nat) (i : Nat) (hkd : o.kind = 3) (hb0 : o.blk < 0) (tm : List AVal) (len : tm.length = 90) (t0 : tm[0]? = some (vi b)) (t1 : tm[1]? = some (vt)) (t4 : tm[4]? = some (anil)) (t20 : tm[20]? = some (vt)) (t21 : tm[21]? = some (vi nt)) (t22 : tm[22]? = some (vi i)) (t26 : tm[26]? = some (va)) (t27 : tm[27]? = some (vi t.length)) (t28 : tm[28]? = some (vi k)) :
    ∃ H' tm', aCode or true n (fstC (fstC (sndC (sndC (fstC (fstC (sndC (sndC (fstC (fstC (sndC (fstC (sndC (sndC (a39.code))))))))))))))) ⟨tm, H, []⟩ = some (.ret, ⟨tm', H', []⟩) ∧ tm'.length = 90 ∧ tm'[4]? = some (anil) ∧ tm'[5]? = some (anil) ∧ tm'[6]? = some (vi 2) ∧ Grow H H' := by
  have hk := (List.getElem?_eq_some_iff.1 ho).1
  have hk' : (k : Int) < t.length := by omega
  have w : wrapF .i64 ((k : Int) + 1) = ((k : Int) + 1) := wrapI (by omega) (by omega)
  have hlen35 := hok.len
  have k0 := o.at0
  have k2 := o.at2
  obtain ⟨R, ver, off, kc, ex, cells, hva1, a2, a3, a4⟩ := ra.at (i := k) (e := o.cells) (by simp [ho])
  rw [List.length_map] at *
  obtain ⟨H1, hw1, g1, hc1, n1⟩ := newCells H (z := [vi 0, anil, vi 0, v8 0, v8 0, v8 0, v8 0, v8 0, v8 0, v8 0, v8 0, v8 0, v8 0, v8 0, v8 0, v8 0, v8 0, v8 0, v8 0, v8 0, v8 0, v8 0, v8 0, v8 0, v8 0, v8 0, v8 0, v8 0, v8 0, v8 0, v8 0, v8 0, v8 0, v8 0, v8 0]) (e := o.cells) (by rw [hlen35]; rfl) (by rw [hlen35]; omega) hok.allone
  have hr1 := hc1.at
  have hx0 := hkd
  have hx1 := hb0
  have hx2 := hb0
  obtain ⟨tm1, e1, l1, f1_0, f1_1, f1_4, f1_20, f1_21, f1_22, f1_26, f1_27, f1_28, f1_29⟩ : ∃ tm1 : List AVal, aCode or true n (fstC (fstC (fstC (sndC (sndC (fstC (fstC (sndC (sndC (fstC (fstC (sndC (fstC (sndC (sndC (a39.code)))))))))))))))) ⟨tm, H, []⟩ = some (.normal, ⟨tm1, H, []⟩) ∧ tm1.length = 90 ∧ tm1[0]? = some (vi b) ∧ tm1[1]? = some (vt) ∧ tm1[4]? = some (anil) ∧ tm1[20]? = some (vt) ∧ tm1[21]? = some (vi nt) ∧ tm1[22]? = some (vi i) ∧ tm1[26]? = some (va) ∧ tm1[27]? = some (vi t.length) ∧ tm1[28]? = some (vi k) ∧ tm1[29]? = some (abool true) := by
    refine ⟨?e1w, ?e1a, ?e1b0, ?e1b1, ?e1b2, ?e1b3, ?e1b4, ?e1b5, ?e1b6, ?e1b7, ?e1b8, ?e1b9, ?e1b10⟩
    case e1a =>
      apply regN
      iterate 1 (apply stepN; · simp [-getElem?_pos, List.getElem?_set, len, t27, t28, hk']; rfl)
      exact nilN (or := or)
    all_goals simp [-getElem?_pos, List.getElem?_set, len, t0, t1, t4, t20, t21, t22, t26, t27, t28]
  obtain ⟨tm2, e2, l2, f2_0, f2_1, f2_4, f2_10, f2_20, f2_21, f2_22, f2_26, f2_27, f2_28, f2_29⟩ : ∃ tm2 : List AVal, aCode or true n (fstC (fstC (fstC (sndC (sndC (fstC (fstC (sndC (sndC (fstC (fstC (sndC (sndC (fstC (fstC (sndC (fstC (sndC (sndC (a39.code)))))))))))))))))))) ⟨tm1, H, []⟩ = some (.normal, ⟨tm2, H1, []⟩) ∧ tm2.length = 90 ∧ tm2[0]? = some (vi b) ∧ tm2[1]? = some (vt) ∧ tm2[4]? = some (anil) ∧ tm2[10]? = some (vp H.next) ∧ tm2[20]? = some (vt) ∧ tm2[21]? = some (vi nt) ∧ tm2[22]? = some (vi i) ∧ tm2[26]? = some (va) ∧ tm2[27]? = some (vi t.length) ∧ tm2[28]? = some (vi k) ∧ tm2[29]? = some (abool true) := by
    refine ⟨?e2w, ?e2a, ?e2b0, ?e2b1, ?e2b2, ?e2b3, ?e2b4, ?e2b5, ?e2b6, ?e2b7, ?e2b8, ?e2b9, ?e2b10, ?e2b11⟩
    case e2a =>
      apply regN
      iterate 4 (apply stepN; · simp [-getElem?_pos, List.getElem?_set, l1, f1_26, f1_28, hva1, hk, a2, a3, a4, AVal.cells, hlen35, hw1]; rfl)
      exact nilN (or := or)
    all_goals simp [-getElem?_pos, List.getElem?_set, l1, f1_0, f1_1, f1_4, f1_20, f1_21, f1_22, f1_26, f1_27, f1_28, f1_29]
  obtain ⟨tm3, e3, l3, f3_0, f3_1, f3_4, f3_10, f3_20, f3_21, f3_22, f3_26, f3_27, f3_28, f3_29, f3_50⟩ : ∃ tm3 : List AVal, aCode or true n (fstC (sndC (fstC (fstC (sndC (sndC (fstC (fstC (sndC (sndC (fstC (fstC (sndC (sndC (fstC (fstC (sndC (fstC (sndC (sndC (a39.code))))))))))))))))))))) ⟨tm2, H1, []⟩ = some (.normal, ⟨tm3, H1, []⟩) ∧ tm3.length = 90 ∧ tm3[0]? = some (vi b) ∧ tm3[1]? = some (vt) ∧ tm3[4]? = some (anil) ∧ tm3[10]? = some (vp H.next) ∧ tm3[20]? = some (vt) ∧ tm3[21]? = some (vi nt) ∧ tm3[22]? = some (vi i) ∧ tm3[26]? = some (va) ∧ tm3[27]? = some (vi t.length) ∧ tm3[28]? = some (vi k) ∧ tm3[29]? = some (abool true) ∧ tm3[50]? = some (abool true) := by
    refine ⟨?e3w, ?e3a, ?e3b0, ?e3b1, ?e3b2, ?e3b3, ?e3b4, ?e3b5, ?e3b6, ?e3b7, ?e3b8, ?e3b9, ?e3b10, ?e3b11, ?e3b12⟩
    case e3a =>
      apply regN
      iterate 19 (apply stepN; · simp [-getElem?_pos, List.getElem?_set, l2, f2_0, f2_10, hr1, hlen35, k0, k2, hx0, hx1, hx2]; rfl)
      exact nilN (or := or)
    all_goals simp [-getElem?_pos, List.getElem?_set, l2, f2_0, f2_1, f2_4, f2_10, f2_20, f2_21, f2_22, f2_26, f2_27, f2_28, f2_29]
  obtain ⟨tm4, e4, l4, f4_0, f4_1, f4_4, f4_5, f4_6, f4_10, f4_20, f4_21, f4_22, f4_26, f4_27, f4_28, f4_29, f4_50⟩ : ∃ tm4 : List AVal, aCode or true n (fstC (fstC (sndC (sndC (fstC (fstC (sndC (sndC (fstC (fstC (sndC (sndC (fstC (fstC (sndC (sndC (fstC (fstC (sndC (fstC (sndC (sndC (a39.code))))))))))))))))))))))) ⟨tm3, H1, []⟩ = some (.normal, ⟨tm4, H1, []⟩) ∧ tm4.length = 90 ∧ tm4[0]? = some (vi b) ∧ tm4[1]? = some (vt) ∧ tm4[4]? = some (anil) ∧ tm4[5]? = some (anil) ∧ tm4[6]? = some (vi 2) ∧ tm4[10]? = some (vp H.next) ∧ tm4[20]? = some (vt) ∧ tm4[21]? = some (vi nt) ∧ tm4[22]? = some (vi i) ∧ tm4[26]? = some (va) ∧ tm4[27]? = some (vi t.length) ∧ tm4[28]? = some (vi k) ∧ tm4[29]? = some (abool true) ∧ tm4[50]? = some (abool true) := by
    refine ⟨?e4w, ?e4a, ?e4b0, ?e4b1, ?e4b2, ?e4b3, ?e4b4, ?e4b5, ?e4b6, ?e4b7, ?e4b8, ?e4b9, ?e4b10, ?e4b11, ?e4b12, ?e4b13, ?e4b14⟩
    case e4a =>
      apply regN
      iterate 3 (apply stepN; · simp [-getElem?_pos, List.getElem?_set, l3]; rfl)
      exact nilN (or := or)
    all_goals simp [-getElem?_pos, List.getElem?_set, l3, f3_0, f3_1, f3_4, f3_10, f3_20, f3_21, f3_22, f3_26, f3_27, f3_28, f3_29, f3_50]
  exact ⟨H1, tm4, (seqN e1 (seqN (condT f1_29 skipN) (seqX (blkR (seqN e2 (seqN e3 (condT f3_50 (seqN e4 retN))))) (by simp)))), l4, f4_4, f4_5, f4_6, g1⟩

theorem it39b2g (or : Oracle) (n : Nat) (b : Int) (H : AHeap) (va : AVal) (t : List OpD) (ra : RdE H 35 va (t.map OpD.cells)) (hl : (t.length + 1) * 72 ≤ 140737488355328) (k : Nat) (o : OpD) (ho : t[k]? = some o) (hok : o.Ok) (vt : AVal) (nt : Nat) (i : Nat) (hkd : o.kind = 2) (hb0 : ¬ o.blk < 0) (hb1 : b ≤ o.blk) (tm : List AVal) (len : tm.length = 90) (t0 : tm[0]? = some (vi b)) (t1 : tm[1]? = some (vt)) (t4 : tm[4]? = some (anil)) (t20 : tm[20]? = some (vt)) (t21 : tm[21]? = some (vi nt)) (t22 : tm[22]? = some (vi i)) (t26 : tm[26]? = some (va)) (t27 : tm[27]? = some (vi t.length)) (t28 : tm[28]? = some (vi k)) :
    ∃ H' tm', aCode or true n (fstC (fstC (sndC (sndC (fstC (fstC (sndC (sndC (fstC (fstC (sndC (fstC (sndC (sndC (a39.code))))))))))))))) ⟨tm, H, []⟩ = some (.ret, ⟨tm', H', []⟩) ∧ tm'.length = 90 ∧ tm'[4]? = some (anil) ∧ tm'[5]? = some (anil) ∧ tm'[6]? = some (vi 2) ∧ Grow H H' := by
  have hk := (List.getElem?_eq_some_iff.1 ho).1
  have hk' : (k : Int) < t.length := by omega
  have w : wrapF .i64 ((k : Int) + 1) = ((k : Int) + 1) := wrapI (by omega) (by omega)
  have hlen35 := hok.len
  have k0 := o.at0
  have k2 := o.at2
  obtain ⟨R, ver, off, kc, ex, cells, hva1, a2, a3, a4⟩ := ra.at (i := k) (e := o.cells) (by simp [ho])
  rw [List.length_map] at *
  obtain ⟨H1, hw1, g1, hc1, n1⟩ := newCells H (z := [vi 0, anil, vi 0, v8 0, v8 0, v8 0, v8 0, v8 0, v8 0, v8 0, v8 0, v8 0, v8 0, v8 0, v8 0, v8 0, v8 0, v8 0, v8 0, v8 0, v8 0, v8 0, v8 0, v8 0, v8 0, v8 0, v8 0, v8 0, v8 0, v8 0, v8 0, v8 0, v8 0, v8 0, v8 0]) (e := o.cells) (by rw [hlen35]; rfl) (by rw [hlen35]; omega) hok.allone
  have hr1 := hc1.at
  have hx0 := hkd
  have hx1 := hb0
  have hx2 := hb1
  obtain ⟨tm1, e1, l1, f1_0, f1_1, f1_4, f1_20, f1_21, f1_22, f1_26, f1_27, f1_28, f1_29⟩ : ∃ tm1 : List AVal, aCode or true n (fstC (fstC (fstC (sndC (sndC (fstC (fstC (sndC (sndC (fstC (fstC (sndC (fstC (sndC (sndC (a39.code)))))))))))))))) ⟨tm, H, []⟩ = some (.normal, ⟨tm1, H, []⟩) ∧ tm1.length = 90 ∧ tm1[0]? = some (vi b) ∧ tm1[1]? = some (vt) ∧ tm1[4]? = some (anil) ∧ tm1[20]? = some (vt) ∧ tm1[21]? = some (vi nt) ∧ tm1[22]? = some (vi i) ∧ tm1[26]? = some (va) ∧ tm1[27]? = some (vi t.length) ∧ tm1[28]? = some (vi k) ∧ tm1[29]? = some (abool true) := by
    refine ⟨?e1w, ?e1a, ?e1b0, ?e1b1, ?e1b2, ?e1b3, ?e1b4, ?e1b5, ?e1b6, ?e1b7, ?e1b8, ?e1b9, ?e1b10⟩
    case e1a =>
      apply regN
      iterate 1 (apply stepN; · simp [-getElem?_pos, List.getElem?_set, len, t27, t28, hk']; rfl)
      exact nilN (or := or)
    all_goals simp [-getElem?_pos, List.getElem?_set, len, t0, t1, t4, t20, t21, t22, t26, t27, t28]
  obtain ⟨tm2, e2, l2, f2_0, f2_1, f2_4, f2_10, f2_20, f2_21, f2_22, f2_26, f2_27, f2_28, f2_29⟩ : ∃ tm2 : List AVal, aCode or true n (fstC (fstC (fstC (sndC (sndC (fstC (fstC (sndC (sndC (fstC (fstC (sndC (sndC (fstC (fstC (sndC (fstC (sndC (sndC (a39.code)))))))))))))))))))) ⟨tm1, H, []⟩ = some (.normal, ⟨tm2, H1, []⟩) ∧ tm2.length = 90 ∧ tm2[0]? = some (vi b) ∧ tm2[1]? = some (vt) ∧ tm2[4]? = some (anil) ∧ tm2[10]? = some (vp H.next) ∧ tm2[20]? = some (vt) ∧ tm2[21]? = some (vi nt) ∧ tm2[22]? = some (vi i) ∧ tm2[26]? = some (va) ∧ tm2[27]? = some (vi t.length) ∧ tm2[28]? = some (vi k) ∧ tm2[29]? = some (abool true) := by
    refine ⟨?e2w, ?e2a, ?e2b0, ?e2b1, ?e2b2, ?e2b3, ?e2b4, ?e2b5, ?e2b6, ?e2b7, ?e2b8, ?e2b9, ?e2b10, ?e2b11⟩
    case e2a =>
      apply regN
      iterate 4 (apply stepN; · simp [-getElem?_pos, List.getElem?_set, l1, f1_26, f1_28, hva1, hk, a2, a3, a4, AVal.cells, hlen35, hw1]; rfl)
      exact nilN (or := or)
    all_goals simp [-getElem?_pos, List.getElem?_set, l1, f1_0, f1_1, f1_4, f1_20, f1_21, f1_22, f1_26, f1_27, f1_28, f1_29]
  obtain ⟨tm3, e3, l3, f3_0, f3_1, f3_4, f3_10, f3_20, f3_21, f3_22, f3_26, f3_27, f3_28, f3_29, f3_50⟩ : ∃ tm3 : List AVal, aCode or true n (fstC (sndC (fstC (fstC (sndC (sndC (fstC (fstC (sndC (sndC (fstC (fstC (sndC (sndC (fstC (fstC (sndC (fstC (sndC (sndC (a39.code))))))))))))))))))))) ⟨tm2, H1, []⟩ = some (.normal, ⟨tm3, H1, []⟩) ∧ tm3.length = 90 ∧ tm3[0]? = some (vi b) ∧ tm3[1]? = some (vt) ∧ tm3[4]? = some (anil) ∧ tm3[10]? = some (vp H.next) ∧ tm3[20]? = some (vt) ∧ tm3[21]? = some (vi nt) ∧ tm3[22]? = some (vi i) ∧ tm3[26]? = some (va) ∧ tm3[27]? = some (vi t.length) ∧ tm3[28]? = some (vi k) ∧ tm3[29]? = some (abool true) ∧ tm3[50]? = some (abool true) := by
    refine ⟨?e3w, ?e3a, ?e3b0, ?e3b1, ?e3b2, ?e3b3, ?e3b4, ?e3b5, ?e3b6, ?e3b7, ?e3b8, ?e3b9, ?e3b10, ?e3b11, ?e3b12⟩
    case e3a =>
      apply regN
      iterate 19 (apply stepN; · simp [-getElem?_pos, List.getElem?_set, l2, f2_0, f2_10, hr1, hlen35, k0, k2, hx0, hx1, hx2]; rfl)
      exact nilN (or := or)
    all_goals simp [-getElem?_pos, List.getElem?_set, l2, f2_0, f2_1, f2_4, f2_10, f2_20, f2_21, f2_22, f2_26, f2_27, f2_28, f2_29]
  obtain ⟨tm4, e4, l4, f4_0, f4_1, f4_4, f4_5, f4_6, f4_10, f4_20, f4_21, f4_22, f4_26, f4_27, f4_28, f4_29, f4_50⟩ : ∃ tm4 : List AVal, aCode or true n (fstC (fstC (sndC (sndC (fstC (fstC (sndC (sndC (fstC (fstC (sndC (sndC (fstC (fstC (sndC (sndC (fstC (fstC (sndC (fstC (sndC (sndC (a39.code))))))))))))))))))))))) ⟨tm3, H1, []⟩ = some (.normal, ⟨tm4, H1, []⟩) ∧ tm4.length = 90 ∧ tm4[0]? = some (vi b) ∧ tm4[1]? = some (vt) ∧ tm4[4]? = some (anil) ∧ tm4[5]? = some (anil) ∧ tm4[6]? = some (vi 2) ∧ tm4[10]? = some (vp H.next) ∧ tm4[20]? = some (vt) ∧ tm4[21]? = some (vi nt) ∧ tm4[22]? = some (vi i) ∧ tm4[26]? = some (va) ∧ tm4[27]? = some (vi t.length) ∧ tm4[28]? = some (vi k) ∧ tm4[29]? = some (abool true) ∧ tm4[50]? = some (abool true) := by
    refine ⟨?e4w, ?e4a, ?e4b0, ?e4b1, ?e4b2, ?e4b3, ?e4b4, ?e4b5, ?e4b6, ?e4b7, ?e4b8, ?e4b9, ?e4b10, ?e4b11, ?e4b12, ?e4b13, ?e4b14⟩
    case e4a =>
      apply regN
      iterate 3 (apply stepN; · simp [-getElem?_pos, List.getElem?_set, l3]; rfl)
      exact nilN (or := or)
    all_goals simp [-getElem?_pos, List.getElem?_set, l3, f3_0, f3_1, f3_4, f3_10, f3_20, f3_21, f3_22, f3_26, f3_27, f3_28, f3_29, f3_50]
  exact ⟨H1, tm4, (seqN e1 (seqN (condT f1_29 skipN) (seqX (blkR (seqN e2 (seqN e3 (condT f3_50 (seqN e4 retN))))) (by simp)))), l4, f4_4, f4_5, f4_6, g1⟩

theorem it39b3g (or : Oracle) (n : Nat) (b : Int) (H : AHeap) (va : AVal) (t : List OpD) (ra : RdE H 35 va (t.map OpD.cells)) (hl : (t.length + 1) * 72 ≤ 140737488355328) (k : Nat) (o : OpD) (ho : t[k]? = some o) (hok : o.Ok) (vt : AVal) (nt : Nat) (i : Nat) (hkd : o.kind = 3) (hb0 : ¬ o.blk < 0) (hb1 : b ≤ o.blk) (tm : List AVal) (len : tm.length = 90) (t0 : tm[0]? = some (vi b)) (t1 : tm[1]? = some (vt)) (t4 : tm[4]? = some (anil)) (t20 : tm[20]? = some (vt)) (t21 : tm[21]? = some (vi nt)) (t22 : tm[22]? = some (vi i)) (t26 : tm[26]? = some (va)) (t27 : tm[27]? = some (vi t.length)) (t28 : tm[28]? = some (vi k)) :
    ∃ H' tm', aCode or true n (fstC (fstC (sndC (sndC (fstC (fstC (sndC (sndC (fstC (fstC (sndC (fstC (sndC (sndC (a39.code))))))))))))))) ⟨tm, H, []⟩ = some (.ret, ⟨tm', H', []⟩) ∧ tm'.length = 90 ∧ tm'[4]? = some (anil) ∧ tm'[5]? = some (anil) ∧ tm'[6]? = some (vi 2) ∧ Grow H H' := by
  have hk := (List.getElem?_eq_some_iff.1 ho).1
  have hk' : (k : Int) < t.length := by omega
  have w : wrapF .i64 ((k : Int) + 1) = ((k : Int) + 1) := wrapI (by omega) (by omega)
  have hlen35 := hok.len
  have k0 := o.at0
  have k2 := o.at2
  obtain ⟨R, ver, off, kc, ex, cells, hva1, a2, a3, a4⟩ := ra.at (i := k) (e := o.cells) (by simp [ho])
  rw [List.length_map] at *
  obtain ⟨H1, hw1, g1, hc1, n1⟩ := newCells H (z := [vi 0, anil, vi 0, v8 0, v8 0, v8 0, v8 0, v8 0, v8 0, v8 0, v8 0, v8 0, v8 0, v8 0, v8 0, v8 0, v8 0, v8 0, v8 0, v8 0, v8 0, v8 0, v8 0, v8 0, v8 0, v8 0, v8 0, v8 0, v8 0, v8 0, v8 0, v8 0, v8 0, v8 0, v8 0]) (e := o.cells) (by rw [hlen35]; rfl) (by rw [hlen35]; omega) hok.allone
  have hr1 := hc1.at
  have hx0 := hkd
  have hx1 := hb0
  have hx2 := hb1
  obtain ⟨tm1, e1, l1, f1_0, f1_1, f1_4, f1_20, f1_21, f1_22, f1_26, f1_27, f1_28, f1_29⟩ : ∃ tm1 : List AVal, aCode or true n (fstC (fstC (fstC (sndC (sndC (fstC (fstC (sndC (sndC (fstC (fstC (sndC (fstC (sndC (sndC (a39.code)))))))))))))))) ⟨tm, H, []⟩ = some (.normal, ⟨tm1, H, []⟩) ∧ tm1.length = 90 ∧ tm1[0]? = some (vi b) ∧ tm1[1]? = some (vt) ∧ tm1[4]? = some (anil) ∧ tm1[20]? = some (vt) ∧ tm1[21]? = some (vi nt) ∧ tm1[22]? = some (vi i) ∧ tm1[26]? = some (va) ∧ tm1[27]? = some (vi t.length) ∧ tm1[28]? = some (vi k) ∧ tm1[29]? = some (abool true) := by
    refine ⟨?e1w, ?e1a, ?e1b0, ?e1b1, ?e1b2, ?e1b3, ?e1b4, ?e1b5, ?e1b6, ?e1b7, ?e1b8, ?e1b9, ?e1b10⟩
    case e1a =>
      apply regN
      iterate 1 (apply stepN; · simp [-getElem?_pos, List.getElem?_set, len, t27, t28, hk']; rfl)
      exact nilN (or := or)
    all_goals simp [-getElem?_pos, List.getElem?_set, len, t0, t1, t4, t20, t21, t22, t26, t27, t28]
  obtain ⟨tm2, e2, l2, f2_0, f2_1, f2_4, f2_10, f2_20, f2_21, f2_22, f2_26, f2_27, f2_28, f2_29⟩ : ∃ tm2 : List AVal, aCode or true n (fstC (fstC (fstC (sndC (sndC (fstC (fstC (sndC (sndC (fstC (fstC (sndC (sndC (fstC (fstC (sndC (fstC (sndC (sndC (a39.code)))))))))))))))))))) ⟨tm1, H, []⟩ = some (.normal, ⟨tm2, H1, []⟩) ∧ tm2.length = 90 ∧ tm2[0]? = some (vi b) ∧ tm2[1]? = some (vt) ∧ tm2[4]? = some (anil) ∧ tm2[10]? = some (vp H.next) ∧ tm2[20]? = some (vt) ∧ tm2[21]? = some (vi nt) ∧ tm2[22]? = some (vi i) ∧ tm2[26]? = some (va) ∧ tm2[27]? = some (vi t.length) ∧ tm2[28]? = some (vi k) ∧ tm2[29]? = some (abool true) := by
    refine ⟨?e2w, ?e2a, ?e2b0, ?e2b1, ?e2b2, ?e2b3, ?e2b4, ?e2b5, ?e2b6, ?e2b7, ?e2b8, ?e2b9, ?e2b10, ?e2b11⟩
    case e2a =>
      apply regN
      iterate 4 (apply stepN; · simp [-getElem?_pos, List.getElem?_set, l1, f1_26, f1_28, hva1, hk, a2, a3, a4, AVal.cells, hlen35, hw1]; rfl)
      exact nilN (or := or)
    all_goals simp [-getElem?_pos, List.getElem?_set, l1, f1_0, f1_1, f1_4, f1_20, f1_21, f1_22, f1_26, f1_27, f1_28, f1_29]
  obtain ⟨tm3, e3, l3, f3_0, f3_1, f3_4, f3_10, f3_20, f3_21, f3_22, f3_26, f3_27, f3_28, f3_29, f3_50⟩ : ∃ tm3 : List AVal, aCode or true n (fstC (sndC (fstC (fstC (sndC (sndC (fstC (fstC (sndC (sndC (fstC (fstC (sndC (sndC (fstC (fstC (sndC (fstC (sndC (sndC (a39.code))))))))))))))))))))) ⟨tm2, H1, []⟩ = some (.normal, ⟨tm3, H1, []⟩) ∧ tm3.length = 90 ∧ tm3[0]? = some (vi b) ∧ tm3[1]? = some (vt) ∧ tm3[4]? = some (anil) ∧ tm3[10]? = some (vp H.next) ∧ tm3[20]? = some (vt) ∧ tm3[21]? = some (vi nt) ∧ tm3[22]? = some (vi i) ∧ tm3[26]? = some (va) ∧ tm3[27]? = some (vi t.length) ∧ tm3[28]? = some (vi k) ∧ tm3[29]? = some (abool true) ∧ tm3[50]? = some (abool true) := by
    refine ⟨?e3w, ?e3a, ?e3b0, ?e3b1, ?e3b2, ?e3b3, ?e3b4, ?e3b5, ?e3b6, ?e3b7, ?e3b8, ?e3b9, ?e3b10, ?e3b11, ?e3b12⟩
    case e3a =>
      apply regN
      iterate 19 (apply stepN; · simp [-getElem?_pos, List.getElem?_set, l2, f2_0, f2_10, hr1, hlen35, k0, k2, hx0, hx1, hx2]; rfl)
      exact nilN (or := or)
    all_goals simp [-getElem?_pos, List.getElem?_set, l2, f2_0, f2_1, f2_4, f2_10, f2_20, f2_21, f2_22, f2_26, f2_27, f2_28, f2_29]
  obtain ⟨tm4, e4, l4, f4_0, f4_1, f4_4, f4_5, f4_6, f4_10, f4_20, f4_21, f4_22, f4_26, f4_27, f4_28, f4_29, f4_50⟩ : ∃ tm4 : List AVal, aCode or true n (fstC (fstC (sndC (sndC (fstC (fstC (sndC (sndC (fstC (fstC (sndC (sndC (fstC (fstC (sndC (sndC (fstC (fstC (sndC (fstC (sndC (sndC (a39.code))))))))))))))))))))))) ⟨tm3, H1, []⟩ = some (.normal, ⟨tm4, H1, []⟩) ∧ tm4.length = 90 ∧ tm4[0]? = some (vi b) ∧ tm4[1]? = some (vt) ∧ tm4[4]? = some (anil) ∧ tm4[5]? = some (anil) ∧ tm4[6]? = some (vi 2) ∧ tm4[10]? = some (vp H.next) ∧ tm4[20]? = some (vt) ∧ tm4[21]? = some (vi nt) ∧ tm4[22]? = some (vi i) ∧ tm4[26]? = some (va) ∧ tm4[27]? = some (vi t.length) ∧ tm4[28]? = some (vi k) ∧ tm4[29]? = some (abool true) ∧ tm4[50]? = some (abool true) := by
    refine ⟨?e4w, ?e4a, ?e4b0, ?e4b1, ?e4b2, ?e4b3, ?e4b4, ?e4b5, ?e4b6, ?e4b7, ?e4b8, ?e4b9, ?e4b10, ?e4b11, ?e4b12, ?e4b13, ?e4b14⟩
    case e4a =>
      apply regN
      iterate 3 (apply stepN; · simp [-getElem?_pos, List.getElem?_set, l3]; rfl)
      exact nilN (or := or)
    all_goals simp [-getElem?_pos, List.getElem?_set, l3, f3_0, f3_1, f3_4, f3_10, f3_20, f3_21, f3_22, f3_26, f3_27, f3_28, f3_29, f3_50]
  exact ⟨H1, tm4, (seqN e1 (seqN (condT f1_29 skipN) (seqX (blkR (seqN e2 (seqN e3 (condT f3_50 (seqN e4 retN))))) (by simp)))), l4, f4_4, f4_5, f4_6, g1⟩

theorem it39 (or : Oracle) (n : Nat) (b : Int) (H : AHeap) (va : AVal) (t : List OpD) (ra : RdE H 35 va (t.map OpD.cells)) (hl : (t.length + 1) * 72 ≤ 140737488355328) (k : Nat) (o : OpD) (ho : t[k]? = some o) (hok : o.Ok) (vt : AVal) (nt i : Nat) (tm : List AVal) (len : tm.length = 90) (t0 : tm[0]? = some (vi b)) (t1 : tm[1]? = some (vt)) (t4 : tm[4]? = some (anil)) (t20 : tm[20]? = some (vt)) (t21 : tm[21]? = some (vi nt)) (t22 : tm[22]? = some (vi i)) (t26 : tm[26]? = some (va)) (t27 : tm[27]? = some (vi t.length)) (t28 : tm[28]? = some (vi k)) :
    if o.bad b then ∃ H' tm', aCode or true n (fstC (fstC (sndC (sndC (fstC (fstC (sndC (sndC (fstC (fstC (sndC (fstC (sndC (sndC (a39.code))))))))))))))) ⟨tm, H, []⟩ = some (.ret, ⟨tm', H', []⟩) ∧ (tm'.length = 90 ∧ tm'[4]? = some anil ∧ tm'[5]? = some anil ∧ tm'[6]? = some (vi 2)) ∧ Grow H H'
    else ∃ H' tm', aCode or true n (fstC (fstC (sndC (sndC (fstC (fstC (sndC (sndC (fstC (fstC (sndC (fstC (sndC (sndC (a39.code))))))))))))))) ⟨tm, H, []⟩ = some (.normal, ⟨tm', H', []⟩) ∧ (tm'.length = 90 ∧ tm'[0]? = some (vi b) ∧ tm'[1]? = some (vt) ∧ tm'[4]? = some (anil) ∧ tm'[20]? = some (vt) ∧ tm'[21]? = some (vi nt) ∧ tm'[22]? = some (vi i) ∧ tm'[26]? = some (va) ∧ tm'[27]? = some (vi t.length) ∧ tm'[28]? = some (vi ((k : Int) + 1))) ∧ Grow H H' := by
  by_cases hbad : o.bad b
  · rw [if_pos hbad]
    have fin : ∀ {H' : AHeap} {tm' : List AVal}, aCode or true n (fstC (fstC (sndC (sndC (fstC (fstC (sndC (sndC (fstC (fstC (sndC (fstC (sndC (sndC (a39.code))))))))))))))) ⟨tm, H, []⟩ = some (.ret, ⟨tm', H', []⟩) ∧ tm'.length = 90 ∧ tm'[4]? = some anil ∧ tm'[5]? = some anil ∧ tm'[6]? = some (vi 2) ∧ Grow H H' →
        ∃ H' tm', aCode or true n (fstC (fstC (sndC (sndC (fstC (fstC (sndC (sndC (fstC (fstC (sndC (fstC (sndC (sndC (a39.code))))))))))))))) ⟨tm, H, []⟩ = some (.ret, ⟨tm', H', []⟩) ∧ (tm'.length = 90 ∧ tm'[4]? = some anil ∧ tm'[5]? = some anil ∧ tm'[6]? = some (vi 2)) ∧ Grow H H' := fun {H' tm'} h => ⟨H', tm', h.1, ⟨h.2.1, h.2.2.1, h.2.2.2.1, h.2.2.2.2.1⟩, h.2.2.2.2.2⟩
    by_cases k2 : o.kind = 2
    · by_cases b0 : o.blk < 0
      · obtain ⟨H', tm', h⟩ := it39b2l or n b H va t ra hl k o ho hok vt nt i k2 b0 tm len t0 t1 t4 t20 t21 t22 t26 t27 t28; exact fin h
      · obtain ⟨H', tm', h⟩ := it39b2g or n b H va t ra hl k o ho hok vt nt i k2 b0 (by unfold OpD.bad at hbad; omega) tm len t0 t1 t4 t20 t21 t22 t26 t27 t28; exact fin h
    · by_cases k3 : o.kind = 3
      · by_cases b0 : o.blk < 0
        · obtain ⟨H', tm', h⟩ := it39b3l or n b H va t ra hl k o ho hok vt nt i k3 b0 tm len t0 t1 t4 t20 t21 t22 t26 t27 t28; exact fin h
        · obtain ⟨H', tm', h⟩ := it39b3g or n b H va t ra hl k o ho hok vt nt i k3 b0 (by unfold OpD.bad at hbad; omega) tm len t0 t1 t4 t20 t21 t22 t26 t27 t28; exact fin h
      · obtain ⟨H', tm', h⟩ := it39bn or n b H va t ra hl k o ho hok vt nt i k2 k3 tm len t0 t1 t4 t20 t21 t22 t26 t27 t28; exact fin h
  · rw [if_neg hbad]
    have hb' := hbad
    unfold OpD.bad at hb'
    rcases (show o.kind = 2 ∨ o.kind = 3 by omega) with k2 | k3
    · obtain ⟨H', tm', h1, l, f0, f1, f4, f20, f21, f22, f26, f27, f28, g⟩ := it39g2 or n b H va t ra hl k o ho hok vt nt i k2 (by omega) (by omega) tm len t0 t1 t4 t20 t21 t22 t26 t27 t28
      exact ⟨H', tm', h1, ⟨l, f0, f1, f4, f20, f21, f22, f26, f27, f28⟩, g⟩
    · obtain ⟨H', tm', h1, l, f0, f1, f4, f20, f21, f22, f26, f27, f28, g⟩ := it39g3 or n b H va t ra hl k o ho hok vt nt i k3 (by omega) (by omega) tm len t0 t1 t4 t20 t21 t22 t26 t27 t28
      exact ⟨H', tm', h1, ⟨l, f0, f1, f4, f20, f21, f22, f26, f27, f28⟩, g⟩

theorem end39 (or : Oracle) (n : Nat) (b : Int) (H : AHeap) (va vt : AVal) (t : List OpD) (nt i : Nat) (tm : List AVal) (len : tm.length = 90) (t0 : tm[0]? = some (vi b)) (t1 : tm[1]? = some (vt)) (t4 : tm[4]? = some (anil)) (t20 : tm[20]? = some (vt)) (t21 : tm[21]? = some (vi nt)) (t22 : tm[22]? = some (vi i)) (t26 : tm[26]? = some (va)) (t27 : tm[27]? = some (vi t.length)) (t28 : tm[28]? = some (vi t.length)) :
    ∃ tm', aCode or true n (fstC (fstC (sndC (sndC (fstC (fstC (sndC (sndC (fstC (fstC (sndC (fstC (sndC (sndC (a39.code))))))))))))))) ⟨tm, H, []⟩ = some (.exit 2, ⟨tm', H, []⟩) ∧ tm'.length = 90 ∧ tm'[0]? = some (vi b) ∧ tm'[1]? = some (vt) ∧ tm'[4]? = some (anil) ∧ tm'[20]? = some (vt) ∧ tm'[21]? = some (vi nt) ∧ tm'[22]? = some (vi i) := by
  obtain ⟨tm1, e1, l1, f1_0, f1_1, f1_4, f1_20, f1_21, f1_22, f1_26, f1_27, f1_28, f1_29⟩ : ∃ tm1 : List AVal, aCode or true n (fstC (fstC (fstC (sndC (sndC (fstC (fstC (sndC (sndC (fstC (fstC (sndC (fstC (sndC (sndC (a39.code)))))))))))))))) ⟨tm, H, []⟩ = some (.normal, ⟨tm1, H, []⟩) ∧ tm1.length = 90 ∧ tm1[0]? = some (vi b) ∧ tm1[1]? = some (vt) ∧ tm1[4]? = some (anil) ∧ tm1[20]? = some (vt) ∧ tm1[21]? = some (vi nt) ∧ tm1[22]? = some (vi i) ∧ tm1[26]? = some (va) ∧ tm1[27]? = some (vi t.length) ∧ tm1[28]? = some (vi t.length) ∧ tm1[29]? = some (abool false) := by
    refine ⟨?e1w, ?e1a, ?e1b0, ?e1b1, ?e1b2, ?e1b3, ?e1b4, ?e1b5, ?e1b6, ?e1b7, ?e1b8, ?e1b9, ?e1b10⟩
    case e1a =>
      apply regN
      iterate 1 (apply stepN; · simp [-getElem?_pos, List.getElem?_set, len, t27, t28]; rfl)
      exact nilN (or := or)
    all_goals simp [-getElem?_pos, List.getElem?_set, len, t0, t1, t4, t20, t21, t22, t26, t27, t28]
  exact ⟨tm1, (seqN e1 (seqX (condF f1_29 exitN) (by simp))), l1, f1_0, f1_1, f1_4, f1_20, f1_21, f1_22⟩

theorem loop39 (or : Oracle) (n : Nat) (b : Int) (va vt : AVal) (t : List OpD) (nt i : Nat) (hl : (t.length + 1) * 72 ≤ 140737488355328) (hok : ∀ o ∈ t, o.Ok) :
    ∀ (j k m : Nat) (H : AHeap) (tm : List AVal), k + j = t.length → j < m → RdE H 35 va (t.map OpD.cells) → va.lies (· < H.next) → tm.length = 90 → tm[0]? = some (vi b) → tm[1]? = some (vt) → tm[4]? = some (anil) → tm[20]? = some (vt) → tm[21]? = some (vi nt) → tm[22]? = some (vi i) → tm[26]? = some (va) → tm[27]? = some (vi t.length) → tm[28]? = some (vi k) →
      ∃ H' tm', Grow H H' ∧ ((aLoop (aCode or true n (fstC (fstC (sndC (sndC (fstC (fstC (sndC (sndC (fstC (fstC (sndC (fstC (sndC (sndC (a39.code)))))))))))))))) m ⟨tm, H, []⟩ = some (.exit 2, ⟨tm', H', []⟩) ∧ (∀ o ∈ t.drop k, ¬ o.bad b) ∧ (tm'.length = 90 ∧ tm'[0]? = some (vi b) ∧ tm'[1]? = some (vt) ∧ tm'[4]? = some (anil) ∧ tm'[20]? = some (vt) ∧ tm'[21]? = some (vi nt) ∧ tm'[22]? = some (vi i))) ∨
        (aLoop (aCode or true n (fstC (fstC (sndC (sndC (fstC (fstC (sndC (sndC (fstC (fstC (sndC (fstC (sndC (sndC (a39.code)))))))))))))))) m ⟨tm, H, []⟩ = some (.ret, ⟨tm', H', []⟩) ∧ (∃ o ∈ t.drop k, o.bad b) ∧ (tm'.length = 90 ∧ tm'[4]? = some anil ∧ tm'[5]? = some anil ∧ tm'[6]? = some (vi 2))))
  | 0, k, m + 1, H, tm, hj, _, ra, hlies, len, t0, t1, t4, t20, t21, t22, t26, t27, t28 => by
    have : k = t.length := by omega
    subst this
    obtain ⟨tm', h1, h2⟩ := end39 or n b H va vt t nt i tm len t0 t1 t4 t20 t21 t22 t26 t27 t28
    exact ⟨H, tm', Grow.refl H, .inl ⟨by simp only [aLoop, h1], by simp, h2⟩⟩
  | j + 1, k, m + 1, H, tm, hj, hm, ra, hlies, len, t0, t1, t4, t20, t21, t22, t26, t27, t28 => by
    have hx : t[k]? = some t[k] := List.getElem?_eq_getElem (by omega)
    have hd : t.drop k = t[k] :: t.drop (k + 1) := List.drop_eq_getElem_cons (by omega)
    have st := it39 or n b H va t ra hl k _ hx (hok _ (List.getElem_mem _)) vt nt i tm len t0 t1 t4 t20 t21 t22 t26 t27 t28
    by_cases hbad : t[k].bad b
    · rw [if_pos hbad] at st
      obtain ⟨H', tm', h1, h2, g⟩ := st
      exact ⟨H', tm', g, .inr ⟨by simp only [aLoop, h1], ⟨t[k], by rw [hd]; exact List.mem_cons_self .., hbad⟩, h2⟩⟩
    · rw [if_neg hbad] at st
      obtain ⟨H', tm', h1, ⟨l, f0, f1, f4, f20, f21, f22, f26, f27, f28⟩, g⟩ := st
      obtain ⟨H2, tm2, g2, r⟩ := loop39 or n b va vt t nt i hl hok j (k + 1) m H' tm' (by omega) (by omega) (ra.grow g hlies) (lies_lt hlies g.next) l f0 f1 f4 f20 f21 f22 f26 f27 f28
      refine ⟨H2, tm2, g.trans g2, ?_⟩
      rcases r with ⟨r1, r2, r3⟩ | ⟨r1, ⟨o, r2, r2'⟩, r3⟩
      · refine .inl ⟨by simp only [aLoop, h1, r1], fun o ho => ?_, r3⟩
        rw [hd] at ho
        rcases List.mem_cons.1 ho with rfl | h
        · exact hbad
        · exact r2 o h
      · exact .inr ⟨by simp only [aLoop, h1, r1], ⟨o, by rw [hd]; exact List.mem_cons_of_mem _ r2, r2'⟩, r3⟩

end Go.Proofs.Ythbjfkkjmecaaaa
