/- Walks: SerialAlone, what was handed in is looked at. -/
import Derived.Test.YthbjfkkjmecaaaaAloneO
namespace Go.Proofs.Ythbjfkkjmecaaaa
open Go Go.Vm

set_option linter.unusedVariables false
set_option linter.unusedSimpArgs false
attribute [local simp] aStep awanted aOp ev aRess aRes1 tup aBin aUn aArith ASt.put ile_eq ilt_eq ieq_eq aPart List.getElem?_cons_zero

theorem natBeq (a b : Nat) : Nat.beq a b = decide (a = b) := by
  rw [Bool.eq_iff_iff]; simp

theorem OpD.Ok.beqset {o : OpD} (h : o.Ok) : AVal.beq o.set o.set = true := by
  obtain ⟨l, hl⟩ := h.set
  unfold aLenS at hl
  split at hl
  · rename_i h; rw [h]; rfl
  · rename_i h; rw [h]; simp [AVal.beq]
  · cases hl
theorem OpD.Ok.beqs {o : OpD} (h : o.Ok) : AVal.beqs o.cells o.cells = true := by
  simp [OpD.cells, AVal.beqs, AVal.beq, valBeq, ieq_eq, h.beqset, beqs_v8 h.val.bytes]

theorem InAt.grow {H H' : AHeap} {base : Nat} {v : AVal} {ain : List AVal} {txs : List (List OpD)} (h : InAt H base v ain txs) (g : Grow H H') : InAt H' base v ain txs := h.move (Nat.le_refl _) g.next fun A _ hA => g.get A hA

set_option maxHeartbeats 1000000 in
theorem it8e (or : Oracle) (n : Nat) (H : AHeap) (vt : AVal) (avt : List AVal) (txs : List (List OpD)) (ht : TxsAt H vt avt txs) (base : Nat) (v8a : AVal) (ain : List AVal) (hin : InAt H base v8a ain txs) (i : Nat) (va ai : AVal) (t : List OpD) (hva : avt[i]? = some va) (hai : ain[i]? = some ai) (hti : txs[i]? = some t) (v10 : AVal) (k : Nat) (o : OpD) (ho : t[k]? = some o) (tm : List AVal) (len : tm.length = 186) (t1 : tm[1]? = some (vt)) (t8 : tm[8]? = some (v8a)) (t10 : tm[10]? = some (v10)) (t16 : tm[16]? = some (vi i)) (t17 : tm[17]? = some (vi k)) :
    ∃ H' tm', aCode or true n (fstC (fstC (sndC (sndC (fstC (fstC (sndC (fstC (fstC (sndC (fstC (sndC (sndC (sndC (sndC (sndC (sndC (sndC (sndC (a8.code)))))))))))))))))))) ⟨tm, H, []⟩ = some (.normal, ⟨tm', H', []⟩) ∧ tm'.length = 186 ∧ tm'[1]? = some (vt) ∧ tm'[8]? = some (v8a) ∧ tm'[10]? = some (v10) ∧ tm'[16]? = some (vi i) ∧ tm'[17]? = some (vi ((k : Int) + 1)) ∧ Grow H H' := by
  have hi := (List.getElem?_eq_some_iff.1 hti).1
  have hi2 := (List.getElem?_eq_some_iff.1 hva).1
  have hi3 := (List.getElem?_eq_some_iff.1 hai).1
  have hlen := ht.len
  have hfew := ht.few
  obtain ⟨ra, hlies⟩ := ht.at_ i va t hva hti
  have la := ra.lenS
  rw [List.length_map] at la
  have hok := ht.ok t (List.mem_of_getElem? hti)
  have hsm := ht.small t (List.mem_of_getElem? hti)
  obtain ⟨Rv, verv, offv, kcv, exv, cellsv, hvt1, p2, p3, p4⟩ := RdE.at1 ht.rd hva
  have hRv := ht.lies Rv verv offv avt.length kcv exv 1 hvt1
  obtain ⟨Rn, vern, offn, kcn, exn, cellsn, hin1, s2, s3, s4⟩ := RdE.at1 hin.rd.rd hai
  have hio := hin.at_ i ai t hai hti
  have rin := hio.rd hok
  have hk := (List.getElem?_eq_some_iff.1 ho).1
  have hk' : (k : Int) < t.length := by omega
  have hoo := hok o (List.mem_of_getElem? ho)
  have hlen35 := hoo.len
  have k0 := o.at0
  have k1 := o.at1
  have k2 := o.at2
  have k3 := o.at3 hoo
  obtain ⟨sl, hset⟩ := hoo.set
  have q1 := hoo.beqs
  have q2 := beq_self ra
  have q3 := beq_self rin
  have q4 := hoo.val.refl
  obtain ⟨R, ver, off, kc, ex, cells, hva1, a2, a3, a4⟩ := ra.at (i := k) (e := o.cells) (by simp [ho])
  obtain ⟨R', ver', off', kc', ex', cells', hai1, b2, b3, b4⟩ := rin.at (i := k) (e := o.cells) (by simp [ho])
  rw [List.length_map] at hva1 hai1
  have hR := hlies R ver off t.length kc ex 35 hva1
  -- the copies
  have z35 : o.cells.length = ([vi 0, anil, vi 0, v8 0, v8 0, v8 0, v8 0, v8 0, v8 0, v8 0, v8 0, v8 0, v8 0, v8 0, v8 0, v8 0, v8 0, v8 0, v8 0, v8 0, v8 0, v8 0, v8 0, v8 0, v8 0, v8 0, v8 0, v8 0, v8 0, v8 0, v8 0, v8 0, v8 0, v8 0, v8 0] : List AVal).length := by rw [hlen35]; rfl
  have w1 : ((H.push (.row [some (0, [vi 0, anil, vi 0, v8 0, v8 0, v8 0, v8 0, v8 0, v8 0, v8 0, v8 0, v8 0, v8 0, v8 0, v8 0, v8 0, v8 0, v8 0, v8 0, v8 0, v8 0, v8 0, v8 0, v8 0, v8 0, v8 0, v8 0, v8 0, v8 0, v8 0, v8 0, v8 0, v8 0, v8 0, v8 0])])).push (.row [some (0, [vi 0, anil, vi 0, v8 0, v8 0, v8 0, v8 0, v8 0, v8 0, v8 0, v8 0, v8 0, v8 0, v8 0, v8 0, v8 0, v8 0, v8 0, v8 0, v8 0, v8 0, v8 0, v8 0, v8 0, v8 0, v8 0, v8 0, v8 0, v8 0, v8 0, v8 0, v8 0, v8 0, v8 0, v8 0])])).write H.next 0 0 o.cells = some (((H.push (.row [some (0, [vi 0, anil, vi 0, v8 0, v8 0, v8 0, v8 0, v8 0, v8 0, v8 0, v8 0, v8 0, v8 0, v8 0, v8 0, v8 0, v8 0, v8 0, v8 0, v8 0, v8 0, v8 0, v8 0, v8 0, v8 0, v8 0, v8 0, v8 0, v8 0, v8 0, v8 0, v8 0, v8 0, v8 0, v8 0])])).push (.row [some (0, [vi 0, anil, vi 0, v8 0, v8 0, v8 0, v8 0, v8 0, v8 0, v8 0, v8 0, v8 0, v8 0, v8 0, v8 0, v8 0, v8 0, v8 0, v8 0, v8 0, v8 0, v8 0, v8 0, v8 0, v8 0, v8 0, v8 0, v8 0, v8 0, v8 0, v8 0, v8 0, v8 0, v8 0, v8 0])])).set H.next (.row [some (0, spl [vi 0, anil, vi 0, v8 0, v8 0, v8 0, v8 0, v8 0, v8 0, v8 0, v8 0, v8 0, v8 0, v8 0, v8 0, v8 0, v8 0, v8 0, v8 0, v8 0, v8 0, v8 0, v8 0, v8 0, v8 0, v8 0, v8 0, v8 0, v8 0, v8 0, v8 0, v8 0, v8 0, v8 0, v8 0] 0 o.cells)])) :=
    Cells.write (by show AHeap.get _ _ = _; rw [AHeap.get_push_ne _ _ (by simp), AHeap.get_push_same]) (by omega) (by rw [hlen35]; decide) hoo.allone
  have e1 : spl [vi 0, anil, vi 0, v8 0, v8 0, v8 0, v8 0, v8 0, v8 0, v8 0, v8 0, v8 0, v8 0, v8 0, v8 0, v8 0, v8 0, v8 0, v8 0, v8 0, v8 0, v8 0, v8 0, v8 0, v8 0, v8 0, v8 0, v8 0, v8 0, v8 0, v8 0, v8 0, v8 0, v8 0, v8 0] 0 o.cells = o.cells := by simp [spl, hlen35]
  rw [e1] at w1
  have gc : Grow H (((H.push (.row [some (0, [vi 0, anil, vi 0, v8 0, v8 0, v8 0, v8 0, v8 0, v8 0, v8 0, v8 0, v8 0, v8 0, v8 0, v8 0, v8 0, v8 0, v8 0, v8 0, v8 0, v8 0, v8 0, v8 0, v8 0, v8 0, v8 0, v8 0, v8 0, v8 0, v8 0, v8 0, v8 0, v8 0, v8 0, v8 0])])).push (.row [some (0, [vi 0, anil, vi 0, v8 0, v8 0, v8 0, v8 0, v8 0, v8 0, v8 0, v8 0, v8 0, v8 0, v8 0, v8 0, v8 0, v8 0, v8 0, v8 0, v8 0, v8 0, v8 0, v8 0, v8 0, v8 0, v8 0, v8 0, v8 0, v8 0, v8 0, v8 0, v8 0, v8 0, v8 0, v8 0])])).set H.next (.row [some (0, o.cells)])) := ((Grow.push H _).trans (Grow.push _ _)).set (Nat.le_refl _) _
  have cc1 : Cells (((H.push (.row [some (0, [vi 0, anil, vi 0, v8 0, v8 0, v8 0, v8 0, v8 0, v8 0, v8 0, v8 0, v8 0, v8 0, v8 0, v8 0, v8 0, v8 0, v8 0, v8 0, v8 0, v8 0, v8 0, v8 0, v8 0, v8 0, v8 0, v8 0, v8 0, v8 0, v8 0, v8 0, v8 0, v8 0, v8 0, v8 0])])).push (.row [some (0, [vi 0, anil, vi 0, v8 0, v8 0, v8 0, v8 0, v8 0, v8 0, v8 0, v8 0, v8 0, v8 0, v8 0, v8 0, v8 0, v8 0, v8 0, v8 0, v8 0, v8 0, v8 0, v8 0, v8 0, v8 0, v8 0, v8 0, v8 0, v8 0, v8 0, v8 0, v8 0, v8 0, v8 0, v8 0])])).set H.next (.row [some (0, o.cells)])) H.next o.cells := AHeap.get_set_same _ _ _
  have cc2 : Cells (((H.push (.row [some (0, [vi 0, anil, vi 0, v8 0, v8 0, v8 0, v8 0, v8 0, v8 0, v8 0, v8 0, v8 0, v8 0, v8 0, v8 0, v8 0, v8 0, v8 0, v8 0, v8 0, v8 0, v8 0, v8 0, v8 0, v8 0, v8 0, v8 0, v8 0, v8 0, v8 0, v8 0, v8 0, v8 0, v8 0, v8 0])])).push (.row [some (0, [vi 0, anil, vi 0, v8 0, v8 0, v8 0, v8 0, v8 0, v8 0, v8 0, v8 0, v8 0, v8 0, v8 0, v8 0, v8 0, v8 0, v8 0, v8 0, v8 0, v8 0, v8 0, v8 0, v8 0, v8 0, v8 0, v8 0, v8 0, v8 0, v8 0, v8 0, v8 0, v8 0, v8 0, v8 0])])).set H.next (.row [some (0, o.cells)])) (H.next + 1) [vi 0, anil, vi 0, v8 0, v8 0, v8 0, v8 0, v8 0, v8 0, v8 0, v8 0, v8 0, v8 0, v8 0, v8 0, v8 0, v8 0, v8 0, v8 0, v8 0, v8 0, v8 0, v8 0, v8 0, v8 0, v8 0, v8 0, v8 0, v8 0, v8 0, v8 0, v8 0, v8 0, v8 0, v8 0] := by
    show AHeap.get _ _ = _
    rw [AHeap.get_set_ne _ _ (by omega)]
    exact AHeap.get_push_same _ _
  have nc : (((H.push (.row [some (0, [vi 0, anil, vi 0, v8 0, v8 0, v8 0, v8 0, v8 0, v8 0, v8 0, v8 0, v8 0, v8 0, v8 0, v8 0, v8 0, v8 0, v8 0, v8 0, v8 0, v8 0, v8 0, v8 0, v8 0, v8 0, v8 0, v8 0, v8 0, v8 0, v8 0, v8 0, v8 0, v8 0, v8 0, v8 0])])).push (.row [some (0, [vi 0, anil, vi 0, v8 0, v8 0, v8 0, v8 0, v8 0, v8 0, v8 0, v8 0, v8 0, v8 0, v8 0, v8 0, v8 0, v8 0, v8 0, v8 0, v8 0, v8 0, v8 0, v8 0, v8 0, v8 0, v8 0, v8 0, v8 0, v8 0, v8 0, v8 0, v8 0, v8 0, v8 0, v8 0])])).set H.next (.row [some (0, o.cells)])).next = H.next + 2 := rfl
  generalize hHc : ((H.push (.row [some (0, [vi 0, anil, vi 0, v8 0, v8 0, v8 0, v8 0, v8 0, v8 0, v8 0, v8 0, v8 0, v8 0, v8 0, v8 0, v8 0, v8 0, v8 0, v8 0, v8 0, v8 0, v8 0, v8 0, v8 0, v8 0, v8 0, v8 0, v8 0, v8 0, v8 0, v8 0, v8 0, v8 0, v8 0, v8 0])])).push (.row [some (0, [vi 0, anil, vi 0, v8 0, v8 0, v8 0, v8 0, v8 0, v8 0, v8 0, v8 0, v8 0, v8 0, v8 0, v8 0, v8 0, v8 0, v8 0, v8 0, v8 0, v8 0, v8 0, v8 0, v8 0, v8 0, v8 0, v8 0, v8 0, v8 0, v8 0, v8 0, v8 0, v8 0, v8 0, v8 0])])).set H.next (.row [some (0, o.cells)]) = Hc at w1 gc cc1 cc2 nc
  have w2 : Hc.write (H.next + 1) 0 0 o.cells = some (Hc.set (H.next + 1) (.row [some (0, spl [vi 0, anil, vi 0, v8 0, v8 0, v8 0, v8 0, v8 0, v8 0, v8 0, v8 0, v8 0, v8 0, v8 0, v8 0, v8 0, v8 0, v8 0, v8 0, v8 0, v8 0, v8 0, v8 0, v8 0, v8 0, v8 0, v8 0, v8 0, v8 0, v8 0, v8 0, v8 0, v8 0, v8 0, v8 0] 0 o.cells)])) := cc2.write (by omega) (by rw [hlen35]; decide) hoo.allone
  rw [e1] at w2
  have gd : Grow H (Hc.set (H.next + 1) (.row [some (0, o.cells)])) := gc.set (by omega) _
  have d1 : (Hc.set (H.next + 1) (.row [some (0, o.cells)])).rowAt H.next 0 = some o.cells := Cells.at (by show AHeap.get _ _ = _; rw [AHeap.get_set_ne _ _ (by omega)]; exact cc1)
  have d2 : (Hc.set (H.next + 1) (.row [some (0, o.cells)])).rowAt (H.next + 1) 0 = some o.cells := Cells.at (AHeap.get_set_same _ _ _)
  have nd : (Hc.set (H.next + 1) (.row [some (0, o.cells)])).next = H.next + 2 := nc
  generalize Hc.set (H.next + 1) (.row [some (0, o.cells)]) = Hd at w2 gd d1 d2 nd
  have p2c : Hc.rowAt Rv verv = some cellsv := by rw [gc.rowAt hRv]; exact p2
  have a2c : Hc.rowAt R ver = some cells := by rw [gc.rowAt hR]; exact a2
  have hx1 : ((H.push (.row [some (0, [vi 0, anil, vi 0, v8 0, v8 0, v8 0, v8 0, v8 0, v8 0, v8 0, v8 0, v8 0, v8 0, v8 0, v8 0, v8 0, v8 0, v8 0, v8 0, v8 0, v8 0, v8 0, v8 0, v8 0, v8 0, v8 0, v8 0, v8 0, v8 0, v8 0, v8 0, v8 0, v8 0, v8 0, v8 0])])).push (.row [some (0, [vi 0, anil, vi 0, v8 0, v8 0, v8 0, v8 0, v8 0, v8 0, v8 0, v8 0, v8 0, v8 0, v8 0, v8 0, v8 0, v8 0, v8 0, v8 0, v8 0, v8 0, v8 0, v8 0, v8 0, v8 0, v8 0, v8 0, v8 0, v8 0, v8 0, v8 0, v8 0, v8 0, v8 0, v8 0])])).next ≤ Hc.next := by simp only [AHeap.next_push]; omega
  have hx2 : Hc.next ≤ Hd.next := by omega
  have w : wrapF .i64 ((k : Int) + 1) = ((k : Int) + 1) := wrapI (by omega) (by omega)
  obtain ⟨tm1, e1, l1, f1_1, f1_8, f1_10, f1_16, f1_17, f1_139⟩ : ∃ tm1 : List AVal, aCode or true n (fstC (fstC (fstC (fstC (sndC (sndC (fstC (fstC (sndC (fstC (fstC (sndC (fstC (sndC (sndC (sndC (sndC (sndC (sndC (sndC (sndC (a8.code)))))))))))))))))))))) ⟨tm, H, []⟩ = some (.normal, ⟨tm1, H, []⟩) ∧ tm1.length = 186 ∧ tm1[1]? = some (vt) ∧ tm1[8]? = some (v8a) ∧ tm1[10]? = some (v10) ∧ tm1[16]? = some (vi i) ∧ tm1[17]? = some (vi k) ∧ tm1[139]? = some (abool true) := by
    refine ⟨?e1w, ?e1a, ?e1b0, ?e1b1, ?e1b2, ?e1b3, ?e1b4, ?e1b5, ?e1b6⟩
    case e1a =>
      apply regN
      iterate 7 (apply stepN; · simp [-getElem?_pos, List.getElem?_set, len, t1, t16, t17, hvt1, hi2, p2, p3, p4, la, hk']; rfl)
      exact nilN (or := or)
    all_goals simp [-getElem?_pos, List.getElem?_set, len, t1, t8, t10, t16, t17]
  obtain ⟨tm2, e2, l2, f2_1, f2_8, f2_10, f2_16, f2_17, f2_18, f2_19, f2_139⟩ : ∃ tm2 : List AVal, aCode or true n (fstC (fstC (fstC (sndC (fstC (fstC (sndC (sndC (fstC (fstC (sndC (fstC (fstC (sndC (fstC (sndC (sndC (sndC (sndC (sndC (sndC (sndC (sndC (a8.code)))))))))))))))))))))))) ⟨tm1, H, []⟩ = some (.normal, ⟨tm2, Hd, []⟩) ∧ tm2.length = 186 ∧ tm2[1]? = some (vt) ∧ tm2[8]? = some (v8a) ∧ tm2[10]? = some (v10) ∧ tm2[16]? = some (vi i) ∧ tm2[17]? = some (vi k) ∧ tm2[18]? = some (vp H.next) ∧ tm2[19]? = some (vp (H.next + 1)) ∧ tm2[139]? = some (abool true) := by
    refine ⟨?e2w, ?e2a, ?e2b0, ?e2b1, ?e2b2, ?e2b3, ?e2b4, ?e2b5, ?e2b6, ?e2b7, ?e2b8⟩
    case e2a =>
      apply drawN
      ·
        apply drawMob rfl; · simp [-getElem?_pos, List.getElem?_set, fltVal, l1, f1_1, f1_8, f1_16, f1_17, hvt1, hin1, hva1, hai1, hi2, hi3, hk, p2, p3, p4, s2, s3, s4, a2, a3, a4, b2, b3, b4, p2c, a2c, hlen35, cells_agg, w1, w2, q1, q2, q3, natBeq]; rfl
        apply drawMob rfl; · simp [-getElem?_pos, List.getElem?_set, fltVal, l1, f1_1, f1_8, f1_16, f1_17, hvt1, hin1, hva1, hai1, hi2, hi3, hk, p2, p3, p4, s2, s3, s4, a2, a3, a4, b2, b3, b4, p2c, a2c, hlen35, cells_agg, w1, w2, q1, q2, q3, natBeq]; rfl
        apply drawMob rfl; · simp [-getElem?_pos, List.getElem?_set, fltVal, l1, f1_1, f1_8, f1_16, f1_17, hvt1, hin1, hva1, hai1, hi2, hi3, hk, p2, p3, p4, s2, s3, s4, a2, a3, a4, b2, b3, b4, p2c, a2c, hlen35, cells_agg, w1, w2, q1, q2, q3, natBeq]; rfl
        apply drawMob rfl; · simp [-getElem?_pos, List.getElem?_set, fltVal, l1, f1_1, f1_8, f1_16, f1_17, hvt1, hin1, hva1, hai1, hi2, hi3, hk, p2, p3, p4, s2, s3, s4, a2, a3, a4, b2, b3, b4, p2c, a2c, hlen35, cells_agg, w1, w2, q1, q2, q3, natBeq]; rfl
        apply drawMob rfl; · simp [-getElem?_pos, List.getElem?_set, fltVal, l1, f1_1, f1_8, f1_16, f1_17, hvt1, hin1, hva1, hai1, hi2, hi3, hk, p2, p3, p4, s2, s3, s4, a2, a3, a4, b2, b3, b4, p2c, a2c, hlen35, cells_agg, w1, w2, q1, q2, q3, natBeq]; rfl
        apply drawMob rfl; · simp [-getElem?_pos, List.getElem?_set, fltVal, l1, f1_1, f1_8, f1_16, f1_17, hvt1, hin1, hva1, hai1, hi2, hi3, hk, p2, p3, p4, s2, s3, s4, a2, a3, a4, b2, b3, b4, p2c, a2c, hlen35, cells_agg, w1, w2, q1, q2, q3, natBeq]; rfl
        apply drawMob rfl; · simp [-getElem?_pos, List.getElem?_set, fltVal, l1, f1_1, f1_8, f1_16, f1_17, hvt1, hin1, hva1, hai1, hi2, hi3, hk, p2, p3, p4, s2, s3, s4, a2, a3, a4, b2, b3, b4, p2c, a2c, hlen35, cells_agg, w1, w2, q1, q2, q3, natBeq]; rfl
        apply drawMob rfl; · simp [-getElem?_pos, List.getElem?_set, fltVal, l1, f1_1, f1_8, f1_16, f1_17, hvt1, hin1, hva1, hai1, hi2, hi3, hk, p2, p3, p4, s2, s3, s4, a2, a3, a4, b2, b3, b4, p2c, a2c, hlen35, cells_agg, w1, w2, q1, q2, q3, natBeq]; rfl
        apply drawMob rfl; · simp [-getElem?_pos, List.getElem?_set, fltVal, l1, f1_1, f1_8, f1_16, f1_17, hvt1, hin1, hva1, hai1, hi2, hi3, hk, p2, p3, p4, s2, s3, s4, a2, a3, a4, b2, b3, b4, p2c, a2c, hlen35, cells_agg, w1, w2, q1, q2, q3, natBeq]; rfl
        apply drawImm rfl; · simp [-getElem?_pos, List.getElem?_set, l1, f1_1, f1_8, f1_16, f1_17, hvt1, hin1, hva1, hai1, hi2, hi3, hk, p2, p3, p4, s2, s3, s4, a2, a3, a4, b2, b3, b4, p2c, a2c, hlen35, cells_agg, w1, w2, q1, q2, q3, natBeq]; rfl
        · first | exact hx1 | exact hx2
        apply drawMob rfl; · simp [-getElem?_pos, List.getElem?_set, fltVal, l1, f1_1, f1_8, f1_16, f1_17, hvt1, hin1, hva1, hai1, hi2, hi3, hk, p2, p3, p4, s2, s3, s4, a2, a3, a4, b2, b3, b4, p2c, a2c, hlen35, cells_agg, w1, w2, q1, q2, q3, natBeq]; rfl
        apply drawMob rfl; · simp [-getElem?_pos, List.getElem?_set, fltVal, l1, f1_1, f1_8, f1_16, f1_17, hvt1, hin1, hva1, hai1, hi2, hi3, hk, p2, p3, p4, s2, s3, s4, a2, a3, a4, b2, b3, b4, p2c, a2c, hlen35, cells_agg, w1, w2, q1, q2, q3, natBeq]; rfl
        apply drawMob rfl; · simp [-getElem?_pos, List.getElem?_set, fltVal, l1, f1_1, f1_8, f1_16, f1_17, hvt1, hin1, hva1, hai1, hi2, hi3, hk, p2, p3, p4, s2, s3, s4, a2, a3, a4, b2, b3, b4, p2c, a2c, hlen35, cells_agg, w1, w2, q1, q2, q3, natBeq]; rfl
        apply drawMob rfl; · simp [-getElem?_pos, List.getElem?_set, fltVal, l1, f1_1, f1_8, f1_16, f1_17, hvt1, hin1, hva1, hai1, hi2, hi3, hk, p2, p3, p4, s2, s3, s4, a2, a3, a4, b2, b3, b4, p2c, a2c, hlen35, cells_agg, w1, w2, q1, q2, q3, natBeq]; rfl
        apply drawMob rfl; · simp [-getElem?_pos, List.getElem?_set, fltVal, l1, f1_1, f1_8, f1_16, f1_17, hvt1, hin1, hva1, hai1, hi2, hi3, hk, p2, p3, p4, s2, s3, s4, a2, a3, a4, b2, b3, b4, p2c, a2c, hlen35, cells_agg, w1, w2, q1, q2, q3, natBeq]; rfl
        apply drawMob rfl; · simp [-getElem?_pos, List.getElem?_set, fltVal, l1, f1_1, f1_8, f1_16, f1_17, hvt1, hin1, hva1, hai1, hi2, hi3, hk, p2, p3, p4, s2, s3, s4, a2, a3, a4, b2, b3, b4, p2c, a2c, hlen35, cells_agg, w1, w2, q1, q2, q3, natBeq]; rfl
        apply drawMob rfl; · simp [-getElem?_pos, List.getElem?_set, fltVal, l1, f1_1, f1_8, f1_16, f1_17, hvt1, hin1, hva1, hai1, hi2, hi3, hk, p2, p3, p4, s2, s3, s4, a2, a3, a4, b2, b3, b4, p2c, a2c, hlen35, cells_agg, w1, w2, q1, q2, q3, natBeq]; rfl
        apply drawImm rfl; · simp [-getElem?_pos, List.getElem?_set, l1, f1_1, f1_8, f1_16, f1_17, hvt1, hin1, hva1, hai1, hi2, hi3, hk, p2, p3, p4, s2, s3, s4, a2, a3, a4, b2, b3, b4, p2c, a2c, hlen35, cells_agg, w1, w2, q1, q2, q3, natBeq]; rfl
        · first | exact hx1 | exact hx2
        exact drawNil
      · simp [-getElem?_pos, List.getElem?_set, allAsked, yldB, AVal.beq, AVal.beqs, valBeq, hasN, AOp.reads, l1, f1_1, f1_8, f1_16, f1_17, hvt1, hin1, hva1, hai1, hi2, hi3, hk, p2, p3, p4, s2, s3, s4, a2, a3, a4, b2, b3, b4, p2c, a2c, hlen35, cells_agg, w1, w2, q1, q2, q3, natBeq]
    all_goals simp [-getElem?_pos, List.getElem?_set, l1, f1_1, f1_8, f1_10, f1_16, f1_17, f1_139]
  obtain ⟨tm3, e3, l3, f3_1, f3_8, f3_10, f3_16, f3_17, f3_18, f3_19, f3_139, f3_183⟩ : ∃ tm3 : List AVal, aCode or true n (fstC (sndC (fstC (fstC (sndC (fstC (fstC (sndC (sndC (fstC (fstC (sndC (fstC (fstC (sndC (fstC (sndC (sndC (sndC (sndC (sndC (sndC (sndC (sndC (a8.code))))))))))))))))))))))))) ⟨tm2, Hd, []⟩ = some (.normal, ⟨tm3, Hd, []⟩) ∧ tm3.length = 186 ∧ tm3[1]? = some (vt) ∧ tm3[8]? = some (v8a) ∧ tm3[10]? = some (v10) ∧ tm3[16]? = some (vi i) ∧ tm3[17]? = some (vi k) ∧ tm3[18]? = some (vp H.next) ∧ tm3[19]? = some (vp (H.next + 1)) ∧ tm3[139]? = some (abool true) ∧ tm3[183]? = some (abool false) := by
    refine ⟨?e3w, ?e3a, ?e3b0, ?e3b1, ?e3b2, ?e3b3, ?e3b4, ?e3b5, ?e3b6, ?e3b7, ?e3b8, ?e3b9⟩
    case e3a =>
      apply regN
      iterate 28 (apply stepN; · simp [-getElem?_pos, List.getElem?_set, l2, f2_18, f2_19, d1, d2, hlen35, k0, k1, k2, k3, hset, q4]; rfl)
      exact nilN (or := or)
    all_goals simp [-getElem?_pos, List.getElem?_set, l2, f2_1, f2_8, f2_10, f2_16, f2_17, f2_18, f2_19, f2_139]
  obtain ⟨tm4, e4, l4, f4_1, f4_8, f4_10, f4_16, f4_17, f4_18, f4_19, f4_139, f4_183⟩ : ∃ tm4 : List AVal, aCode or true n (sndC (sndC (fstC (fstC (sndC (sndC (fstC (fstC (sndC (fstC (fstC (sndC (fstC (sndC (sndC (sndC (sndC (sndC (sndC (sndC (sndC (a8.code)))))))))))))))))))))) ⟨tm3, Hd, []⟩ = some (.normal, ⟨tm4, Hd, []⟩) ∧ tm4.length = 186 ∧ tm4[1]? = some (vt) ∧ tm4[8]? = some (v8a) ∧ tm4[10]? = some (v10) ∧ tm4[16]? = some (vi i) ∧ tm4[17]? = some (vi ((k : Int) + 1)) ∧ tm4[18]? = some (vp H.next) ∧ tm4[19]? = some (vp (H.next + 1)) ∧ tm4[139]? = some (abool true) ∧ tm4[183]? = some (abool false) := by
    refine ⟨?e4w, ?e4a, ?e4b0, ?e4b1, ?e4b2, ?e4b3, ?e4b4, ?e4b5, ?e4b6, ?e4b7, ?e4b8, ?e4b9⟩
    case e4a =>
      apply regN
      iterate 3 (apply stepN; · simp [-getElem?_pos, List.getElem?_set, l3, f3_17, w]; rfl)
      exact nilN (or := or)
    all_goals simp [-getElem?_pos, List.getElem?_set, l3, f3_1, f3_8, f3_10, f3_16, f3_17, f3_18, f3_19, f3_139, f3_183]
  exact ⟨Hd, tm4, (seqN (seqN e1 (condT f1_139 skipN)) (seqN (blkN (seqN e2 (seqN e3 (condF f3_183 skipN)))) e4)), l4, f4_1, f4_8, f4_10, f4_16, f4_17, gd⟩

theorem end8e (or : Oracle) (n : Nat) (H : AHeap) (vt : AVal) (avt : List AVal) (txs : List (List OpD)) (ht : TxsAt H vt avt txs) (base : Nat) (v8a : AVal) (ain : List AVal) (hin : InAt H base v8a ain txs) (i : Nat) (va ai : AVal) (t : List OpD) (hva : avt[i]? = some va) (hai : ain[i]? = some ai) (hti : txs[i]? = some t) (v10 : AVal) (tm : List AVal) (len : tm.length = 186) (t1 : tm[1]? = some (vt)) (t8 : tm[8]? = some (v8a)) (t10 : tm[10]? = some (v10)) (t16 : tm[16]? = some (vi i)) (t17 : tm[17]? = some (vi t.length)) :
    ∃ tm', aCode or true n (fstC (fstC (sndC (sndC (fstC (fstC (sndC (fstC (fstC (sndC (fstC (sndC (sndC (sndC (sndC (sndC (sndC (sndC (sndC (a8.code)))))))))))))))))))) ⟨tm, H, []⟩ = some (.exit 8, ⟨tm', H, []⟩) ∧ tm'.length = 186 ∧ tm'[1]? = some (vt) ∧ tm'[8]? = some (v8a) ∧ tm'[10]? = some (v10) ∧ tm'[16]? = some (vi i) := by
  have hi := (List.getElem?_eq_some_iff.1 hti).1
  have hi2 := (List.getElem?_eq_some_iff.1 hva).1
  have hi3 := (List.getElem?_eq_some_iff.1 hai).1
  have hlen := ht.len
  have hfew := ht.few
  obtain ⟨ra, hlies⟩ := ht.at_ i va t hva hti
  have la := ra.lenS
  rw [List.length_map] at la
  have hok := ht.ok t (List.mem_of_getElem? hti)
  have hsm := ht.small t (List.mem_of_getElem? hti)
  obtain ⟨Rv, verv, offv, kcv, exv, cellsv, hvt1, p2, p3, p4⟩ := RdE.at1 ht.rd hva
  have hRv := ht.lies Rv verv offv avt.length kcv exv 1 hvt1
  obtain ⟨tm1, e1, l1, f1_1, f1_8, f1_10, f1_16, f1_17, f1_139⟩ : ∃ tm1 : List AVal, aCode or true n (fstC (fstC (fstC (fstC (sndC (sndC (fstC (fstC (sndC (fstC (fstC (sndC (fstC (sndC (sndC (sndC (sndC (sndC (sndC (sndC (sndC (a8.code)))))))))))))))))))))) ⟨tm, H, []⟩ = some (.normal, ⟨tm1, H, []⟩) ∧ tm1.length = 186 ∧ tm1[1]? = some (vt) ∧ tm1[8]? = some (v8a) ∧ tm1[10]? = some (v10) ∧ tm1[16]? = some (vi i) ∧ tm1[17]? = some (vi t.length) ∧ tm1[139]? = some (abool false) := by
    refine ⟨?e1w, ?e1a, ?e1b0, ?e1b1, ?e1b2, ?e1b3, ?e1b4, ?e1b5, ?e1b6⟩
    case e1a =>
      apply regN
      iterate 7 (apply stepN; · simp [-getElem?_pos, List.getElem?_set, len, t1, t16, t17, hvt1, hi2, p2, p3, p4, la]; rfl)
      exact nilN (or := or)
    all_goals simp [-getElem?_pos, List.getElem?_set, len, t1, t8, t10, t16, t17]
  exact ⟨tm1, (seqX (seqN e1 (condF f1_139 exitN)) (by simp)), l1, f1_1, f1_8, f1_10, f1_16⟩

theorem loop8e (or : Oracle) (n : Nat) (vt : AVal) (avt : List AVal) (txs : List (List OpD)) (base : Nat) (v8a : AVal) (ain : List AVal) (i : Nat) (va ai : AVal) (t : List OpD) (hva : avt[i]? = some va) (hai : ain[i]? = some ai) (hti : txs[i]? = some t) (v10 : AVal) :
    ∀ (j k q : Nat) (H : AHeap) (tm : List AVal), k + j = t.length → j < q → TxsAt H vt avt txs → InAt H base v8a ain txs → tm.length = 186 → tm[1]? = some (vt) → tm[8]? = some (v8a) → tm[10]? = some (v10) → tm[16]? = some (vi i) → tm[17]? = some (vi k) → ∃ H' tm', aLoop (aCode or true n (fstC (fstC (sndC (sndC (fstC (fstC (sndC (fstC (fstC (sndC (fstC (sndC (sndC (sndC (sndC (sndC (sndC (sndC (sndC (a8.code))))))))))))))))))))) q ⟨tm, H, []⟩ = some (.exit 8, ⟨tm', H', []⟩) ∧ (tm'.length = 186 ∧ tm'[1]? = some (vt) ∧ tm'[8]? = some (v8a) ∧ tm'[10]? = some (v10) ∧ tm'[16]? = some (vi i)) ∧ Grow H H'
  | 0, k, q + 1, H, tm, hj, _, ht, hin, len, t1, t8, t10, t16, t17 => by
    have : k = t.length := by omega
    subst this
    obtain ⟨tm', h1, h2⟩ := end8e or n H vt avt txs ht base v8a ain hin i va ai t hva hai hti v10 tm len t1 t8 t10 t16 t17
    exact ⟨H, tm', by simp only [aLoop, h1], h2, Grow.refl H⟩
  | j + 1, k, q + 1, H, tm, hj, hq, ht, hin, len, t1, t8, t10, t16, t17 => by
    have hx : t[k]? = some t[k] := List.getElem?_eq_getElem (by omega)
    obtain ⟨H', tm', h1, l, f1, f8, f10, f16, f17, g⟩ := it8e or n H vt avt txs ht base v8a ain hin i va ai t hva hai hti v10 k _ hx tm len t1 t8 t10 t16 t17
    obtain ⟨H2, tm2, g1, g2, g3⟩ := loop8e or n vt avt txs base v8a ain i va ai t hva hai hti v10 j (k + 1) q H' tm' (by omega) (by omega) (ht.grow g) (hin.grow g) l f1 f8 f10 f16 f17
    exact ⟨H2, tm2, by simp only [aLoop, h1, g1], g2, g.trans g3⟩

set_option maxHeartbeats 1000000 in
theorem it8f (or : Oracle) (n : Nat) (H : AHeap) (vt : AVal) (avt : List AVal) (txs : List (List OpD)) (ht : TxsAt H vt avt txs) (base : Nat) (v8a : AVal) (ain : List AVal) (hin : InAt H base v8a ain txs) (i : Nat) (va ai : AVal) (t : List OpD) (hva : avt[i]? = some va) (hai : ain[i]? = some ai) (hti : txs[i]? = some t) (v10 : AVal) (htn : t.length < n) (tm : List AVal) (len : tm.length = 186) (t1 : tm[1]? = some (vt)) (t8 : tm[8]? = some (v8a)) (t10 : tm[10]? = some (v10)) (t16 : tm[16]? = some (vi i)) :
    ∃ H' tm', aCode or true n (fstC (fstC (sndC (fstC (sndC (sndC (sndC (sndC (sndC (sndC (sndC (sndC (a8.code))))))))))))) ⟨tm, H, []⟩ = some (.normal, ⟨tm', H', []⟩) ∧ tm'.length = 186 ∧ tm'[1]? = some (vt) ∧ tm'[8]? = some (v8a) ∧ tm'[10]? = some (v10) ∧ tm'[16]? = some (vi ((i : Int) + 1)) ∧ Grow H H' := by
  have hi := (List.getElem?_eq_some_iff.1 hti).1
  have hi2 := (List.getElem?_eq_some_iff.1 hva).1
  have hi3 := (List.getElem?_eq_some_iff.1 hai).1
  have hlen := ht.len
  have hfew := ht.few
  obtain ⟨ra, hlies⟩ := ht.at_ i va t hva hti
  have la := ra.lenS
  rw [List.length_map] at la
  have hok := ht.ok t (List.mem_of_getElem? hti)
  have hsm := ht.small t (List.mem_of_getElem? hti)
  obtain ⟨Rv, verv, offv, kcv, exv, cellsv, hvt1, p2, p3, p4⟩ := RdE.at1 ht.rd hva
  have hRv := ht.lies Rv verv offv avt.length kcv exv 1 hvt1
  have lvt := ht.rd.lenS
  rw [List.length_map, hlen] at lvt
  have hi' : (i : Int) < txs.length := by omega
  obtain ⟨Rn, vern, offn, kcn, exn, cellsn, hin1, s2, s3, s4⟩ := RdE.at1 hin.rd.rd hai
  obtain ⟨R, ver, vs, b1, b2, hai1, b4, b5⟩ := hin.at_ i ai t hai hti
  have hci : H.rowAt R ver = some (t.map OpD.cells ++ [op7]).flatten := by unfold AHeap.rowAt; rw [b4]; simp only [b5]
  have h35 : ∀ e ∈ t.map OpD.cells, e.length = 35 := fun e he => by
    obtain ⟨o, ho, rfl⟩ := List.mem_map.1 he
    exact (hok o ho).len
  have hfl := flatten_len h35
  rw [List.length_map] at hfl
  have hc0 : (t.map OpD.cells ++ [op7]).flatten[t.length * 35]? = some (vi 7777) := by
    rw [List.flatten_append, List.getElem?_append_right (by omega), hfl, Nat.sub_self]; rfl
  have hcl : t.length * 35 + 1 ≤ (t.map OpD.cells ++ [op7]).flatten.length := by
    rw [List.flatten_append, List.length_append, hfl]
    have : [op7].flatten.length = 35 := rfl
    omega
  generalize (t.map OpD.cells ++ [op7]).flatten = ci at hci hc0 hcl
  have hl1 : (t.length : Int) < (t.length : Int) + 1 := by omega
  have hfs : aSliceS 35 (.slice R ver 0 t.length (t.length + 1) false 35) none (some (.raw (.int .i64 ((t.length : Int) + 1)))) none = some (.slice R ver 0 (t.length + 1) (t.length + 1) false 35) := by
    have x1 : (0 : Int) ≤ (t.length : Int) + 1 := by omega
    have x2 : ((t.length : Int) + 1).toNat = t.length + 1 := by omega
    simp [aSliceS, aBoundO, aBound, ile_eq, x1, x2]
  have q2 := beq_self ra
  have q3 : AVal.beq ai ai = true := by rw [hai1]; simp [AVal.beq]
  have w9 : wrapF .i64 ((t.length : Int) + 1) = ((t.length : Int) + 1) := wrapI (by omega) (by omega)
  have w : wrapF .i64 ((i : Int) + 1) = ((i : Int) + 1) := by clear w9; exact wrapI (by omega) (by omega)
  obtain ⟨tm1, e1, l1, f1_1, f1_8, f1_10, f1_16, f1_110⟩ : ∃ tm1 : List AVal, aCode or true n (fstC (fstC (fstC (fstC (sndC (fstC (sndC (sndC (sndC (sndC (sndC (sndC (sndC (sndC (a8.code))))))))))))))) ⟨tm, H, []⟩ = some (.normal, ⟨tm1, H, []⟩) ∧ tm1.length = 186 ∧ tm1[1]? = some (vt) ∧ tm1[8]? = some (v8a) ∧ tm1[10]? = some (v10) ∧ tm1[16]? = some (vi i) ∧ tm1[110]? = some (abool true) := by
    refine ⟨?e1w, ?e1a, ?e1b0, ?e1b1, ?e1b2, ?e1b3, ?e1b4, ?e1b5⟩
    case e1a =>
      apply regN
      iterate 4 (apply stepN; · simp [-getElem?_pos, List.getElem?_set, len, t1, t16, lvt, hi']; rfl)
      exact nilN (or := or)
    all_goals simp [-getElem?_pos, List.getElem?_set, len, t1, t8, t10, t16]
  obtain ⟨tm2, e2, l2, f2_1, f2_8, f2_10, f2_16, f2_110, f2_132⟩ : ∃ tm2 : List AVal, aCode or true n (fstC (fstC (fstC (fstC (sndC (fstC (fstC (sndC (fstC (sndC (sndC (sndC (sndC (sndC (sndC (sndC (sndC (a8.code)))))))))))))))))) ⟨tm1, H, []⟩ = some (.normal, ⟨tm2, H, []⟩) ∧ tm2.length = 186 ∧ tm2[1]? = some (vt) ∧ tm2[8]? = some (v8a) ∧ tm2[10]? = some (v10) ∧ tm2[16]? = some (vi i) ∧ tm2[110]? = some (abool true) ∧ tm2[132]? = some (abool false) := by
    refine ⟨?e2w, ?e2a, ?e2b0, ?e2b1, ?e2b2, ?e2b3, ?e2b4, ?e2b5, ?e2b6⟩
    case e2a =>
      apply drawN
      ·
        apply drawMob rfl; · simp [-getElem?_pos, List.getElem?_set, fltVal, l1, f1_1, f1_8, f1_16, hvt1, hin1, hai1, hi2, hi3, p2, p3, p4, s2, s3, s4, la, w9, hfs, hl1, hci, hc0, hcl, q2, q3]; rfl
        apply drawMob rfl; · simp [-getElem?_pos, List.getElem?_set, fltVal, l1, f1_1, f1_8, f1_16, hvt1, hin1, hai1, hi2, hi3, p2, p3, p4, s2, s3, s4, la, w9, hfs, hl1, hci, hc0, hcl, q2, q3]; rfl
        apply drawMob rfl; · simp [-getElem?_pos, List.getElem?_set, fltVal, l1, f1_1, f1_8, f1_16, hvt1, hin1, hai1, hi2, hi3, p2, p3, p4, s2, s3, s4, la, w9, hfs, hl1, hci, hc0, hcl, q2, q3]; rfl
        apply drawMob rfl; · simp [-getElem?_pos, List.getElem?_set, fltVal, l1, f1_1, f1_8, f1_16, hvt1, hin1, hai1, hi2, hi3, p2, p3, p4, s2, s3, s4, la, w9, hfs, hl1, hci, hc0, hcl, q2, q3]; rfl
        apply drawMob rfl; · simp [-getElem?_pos, List.getElem?_set, fltVal, l1, f1_1, f1_8, f1_16, hvt1, hin1, hai1, hi2, hi3, p2, p3, p4, s2, s3, s4, la, w9, hfs, hl1, hci, hc0, hcl, q2, q3]; rfl
        apply drawMob rfl; · simp [-getElem?_pos, List.getElem?_set, fltVal, l1, f1_1, f1_8, f1_16, hvt1, hin1, hai1, hi2, hi3, p2, p3, p4, s2, s3, s4, la, w9, hfs, hl1, hci, hc0, hcl, q2, q3]; rfl
        apply drawMob rfl; · simp [-getElem?_pos, List.getElem?_set, fltVal, l1, f1_1, f1_8, f1_16, hvt1, hin1, hai1, hi2, hi3, p2, p3, p4, s2, s3, s4, la, w9, hfs, hl1, hci, hc0, hcl, q2, q3]; rfl
        apply drawMob rfl; · simp [-getElem?_pos, List.getElem?_set, fltVal, l1, f1_1, f1_8, f1_16, hvt1, hin1, hai1, hi2, hi3, p2, p3, p4, s2, s3, s4, la, w9, hfs, hl1, hci, hc0, hcl, q2, q3]; rfl
        apply drawMob rfl; · simp [-getElem?_pos, List.getElem?_set, fltVal, l1, f1_1, f1_8, f1_16, hvt1, hin1, hai1, hi2, hi3, p2, p3, p4, s2, s3, s4, la, w9, hfs, hl1, hci, hc0, hcl, q2, q3]; rfl
        apply drawMob rfl; · simp [-getElem?_pos, List.getElem?_set, fltVal, l1, f1_1, f1_8, f1_16, hvt1, hin1, hai1, hi2, hi3, p2, p3, p4, s2, s3, s4, la, w9, hfs, hl1, hci, hc0, hcl, q2, q3]; rfl
        apply drawMob rfl; · simp [-getElem?_pos, List.getElem?_set, fltVal, l1, f1_1, f1_8, f1_16, hvt1, hin1, hai1, hi2, hi3, p2, p3, p4, s2, s3, s4, la, w9, hfs, hl1, hci, hc0, hcl, q2, q3]; rfl
        apply drawMob rfl; · simp [-getElem?_pos, List.getElem?_set, fltVal, l1, f1_1, f1_8, f1_16, hvt1, hin1, hai1, hi2, hi3, p2, p3, p4, s2, s3, s4, la, w9, hfs, hl1, hci, hc0, hcl, q2, q3]; rfl
        apply drawMob rfl; · simp [-getElem?_pos, List.getElem?_set, fltVal, l1, f1_1, f1_8, f1_16, hvt1, hin1, hai1, hi2, hi3, p2, p3, p4, s2, s3, s4, la, w9, hfs, hl1, hci, hc0, hcl, q2, q3]; rfl
        apply drawMob rfl; · simp [-getElem?_pos, List.getElem?_set, fltVal, l1, f1_1, f1_8, f1_16, hvt1, hin1, hai1, hi2, hi3, p2, p3, p4, s2, s3, s4, la, w9, hfs, hl1, hci, hc0, hcl, q2, q3]; rfl
        apply drawMob rfl; · simp [-getElem?_pos, List.getElem?_set, fltVal, l1, f1_1, f1_8, f1_16, hvt1, hin1, hai1, hi2, hi3, p2, p3, p4, s2, s3, s4, la, w9, hfs, hl1, hci, hc0, hcl, q2, q3]; rfl
        apply drawMob rfl; · simp [-getElem?_pos, List.getElem?_set, fltVal, l1, f1_1, f1_8, f1_16, hvt1, hin1, hai1, hi2, hi3, p2, p3, p4, s2, s3, s4, la, w9, hfs, hl1, hci, hc0, hcl, q2, q3]; rfl
        apply drawMob rfl; · simp [-getElem?_pos, List.getElem?_set, fltVal, l1, f1_1, f1_8, f1_16, hvt1, hin1, hai1, hi2, hi3, p2, p3, p4, s2, s3, s4, la, w9, hfs, hl1, hci, hc0, hcl, q2, q3]; rfl
        apply drawMob rfl; · simp [-getElem?_pos, List.getElem?_set, fltVal, l1, f1_1, f1_8, f1_16, hvt1, hin1, hai1, hi2, hi3, p2, p3, p4, s2, s3, s4, la, w9, hfs, hl1, hci, hc0, hcl, q2, q3]; rfl
        apply drawMob rfl; · simp [-getElem?_pos, List.getElem?_set, fltVal, l1, f1_1, f1_8, f1_16, hvt1, hin1, hai1, hi2, hi3, p2, p3, p4, s2, s3, s4, la, w9, hfs, hl1, hci, hc0, hcl, q2, q3]; rfl
        apply drawMob rfl; · simp [-getElem?_pos, List.getElem?_set, fltVal, l1, f1_1, f1_8, f1_16, hvt1, hin1, hai1, hi2, hi3, p2, p3, p4, s2, s3, s4, la, w9, hfs, hl1, hci, hc0, hcl, q2, q3]; rfl
        exact drawNil
      · simp [-getElem?_pos, List.getElem?_set, allAsked, yldB, AVal.beq, AVal.beqs, valBeq, hasN, AOp.reads, l1, f1_1, f1_8, f1_16, hvt1, hin1, hai1, hi2, hi3, p2, p3, p4, s2, s3, s4, la, w9, hfs, hl1, hci, hc0, hcl, q2, q3]
    all_goals simp [-getElem?_pos, List.getElem?_set, l1, f1_1, f1_8, f1_10, f1_16, f1_110]
  obtain ⟨tm3, e3, l3, f3_1, f3_8, f3_10, f3_16, f3_17, f3_110, f3_132⟩ : ∃ tm3 : List AVal, aCode or true n (fstC (sndC (fstC (fstC (sndC (fstC (fstC (sndC (fstC (sndC (sndC (sndC (sndC (sndC (sndC (sndC (sndC (a8.code)))))))))))))))))) ⟨tm2, H, []⟩ = some (.normal, ⟨tm3, H, []⟩) ∧ tm3.length = 186 ∧ tm3[1]? = some (vt) ∧ tm3[8]? = some (v8a) ∧ tm3[10]? = some (v10) ∧ tm3[16]? = some (vi i) ∧ tm3[17]? = some (vi 0) ∧ tm3[110]? = some (abool true) ∧ tm3[132]? = some (abool false) := by
    refine ⟨?e3w, ?e3a, ?e3b0, ?e3b1, ?e3b2, ?e3b3, ?e3b4, ?e3b5, ?e3b6, ?e3b7⟩
    case e3a =>
      apply regN
      iterate 1 (apply stepN; · simp [-getElem?_pos, List.getElem?_set, l2]; rfl)
      exact nilN (or := or)
    all_goals simp [-getElem?_pos, List.getElem?_set, l2, f2_1, f2_8, f2_10, f2_16, f2_110, f2_132]
  obtain ⟨H1, tm4, e4, ⟨l4, q1', q8', q10', q16'⟩, gg⟩ := loop8e or n vt avt txs base v8a ain i va ai t hva hai hti v10 t.length 0 n H tm3 (by omega) htn ht hin l3 f3_1 f3_8 f3_10 f3_16 f3_17
  obtain ⟨tm5, e5, l5, f5_1, f5_8, f5_10, f5_16⟩ : ∃ tm5 : List AVal, aCode or true n (sndC (sndC (fstC (fstC (sndC (fstC (sndC (sndC (sndC (sndC (sndC (sndC (sndC (sndC (a8.code))))))))))))))) ⟨tm4, H1, []⟩ = some (.normal, ⟨tm5, H1, []⟩) ∧ tm5.length = 186 ∧ tm5[1]? = some (vt) ∧ tm5[8]? = some (v8a) ∧ tm5[10]? = some (v10) ∧ tm5[16]? = some (vi ((i : Int) + 1)) := by
    refine ⟨?e5w, ?e5a, ?e5b0, ?e5b1, ?e5b2, ?e5b3, ?e5b4⟩
    case e5a =>
      apply regN
      iterate 3 (apply stepN; · simp [-getElem?_pos, List.getElem?_set, l4, q16', w]; rfl)
      exact nilN (or := or)
    all_goals simp [-getElem?_pos, List.getElem?_set, l4, q1', q8', q10', q16']
  exact ⟨H1, tm5, (seqN (seqN e1 (condT f1_110 skipN)) (seqN (blkN (seqN (seqN e2 (condF f2_132 skipN)) (seqN e3 (blkE (loopC e4))))) e5)), l5, f5_1, f5_8, f5_10, f5_16, gg⟩

theorem end8f (or : Oracle) (n : Nat) (H : AHeap) (vt v8a v10 : AVal) (avt : List AVal) (txs : List (List OpD)) (ht : TxsAt H vt avt txs) (tm : List AVal) (len : tm.length = 186) (t1 : tm[1]? = some (vt)) (t8 : tm[8]? = some (v8a)) (t10 : tm[10]? = some (v10)) (t16 : tm[16]? = some (vi txs.length)) :
    ∃ tm', aCode or true n (fstC (fstC (sndC (fstC (sndC (sndC (sndC (sndC (sndC (sndC (sndC (sndC (a8.code))))))))))))) ⟨tm, H, []⟩ = some (.exit 6, ⟨tm', H, []⟩) ∧ tm'.length = 186 ∧ tm'[10]? = some (v10) := by
  have lvt := ht.rd.lenS
  rw [List.length_map, ht.len] at lvt
  obtain ⟨tm1, e1, l1, f1_1, f1_8, f1_10, f1_16, f1_110⟩ : ∃ tm1 : List AVal, aCode or true n (fstC (fstC (fstC (fstC (sndC (fstC (sndC (sndC (sndC (sndC (sndC (sndC (sndC (sndC (a8.code))))))))))))))) ⟨tm, H, []⟩ = some (.normal, ⟨tm1, H, []⟩) ∧ tm1.length = 186 ∧ tm1[1]? = some (vt) ∧ tm1[8]? = some (v8a) ∧ tm1[10]? = some (v10) ∧ tm1[16]? = some (vi txs.length) ∧ tm1[110]? = some (abool false) := by
    refine ⟨?e1w, ?e1a, ?e1b0, ?e1b1, ?e1b2, ?e1b3, ?e1b4, ?e1b5⟩
    case e1a =>
      apply regN
      iterate 4 (apply stepN; · simp [-getElem?_pos, List.getElem?_set, len, t1, t16, lvt]; rfl)
      exact nilN (or := or)
    all_goals simp [-getElem?_pos, List.getElem?_set, len, t1, t8, t10, t16]
  exact ⟨tm1, (seqX (seqN e1 (condF f1_110 exitN)) (by simp)), l1, f1_10⟩

theorem loop8f (or : Oracle) (n : Nat) (vt : AVal) (avt : List AVal) (txs : List (List OpD)) (base : Nat) (v8a : AVal) (ain : List AVal) (v10 : AVal) (htn : ∀ t ∈ txs, t.length < n) :
    ∀ (j i q : Nat) (H : AHeap) (tm : List AVal), i + j = txs.length → j < q → TxsAt H vt avt txs → InAt H base v8a ain txs → tm.length = 186 → tm[1]? = some (vt) → tm[8]? = some (v8a) → tm[10]? = some (v10) → tm[16]? = some (vi i) → ∃ H' tm', aLoop (aCode or true n (fstC (fstC (sndC (fstC (sndC (sndC (sndC (sndC (sndC (sndC (sndC (sndC (a8.code)))))))))))))) q ⟨tm, H, []⟩ = some (.exit 6, ⟨tm', H', []⟩) ∧ (tm'.length = 186 ∧ tm'[10]? = some (v10)) ∧ Grow H H'
  | 0, i, q + 1, H, tm, hj, _, ht, hin, len, t1, t8, t10, t16 => by
    have : i = txs.length := by omega
    subst this
    obtain ⟨tm', h1, h2⟩ := end8f or n H vt v8a v10 avt txs ht tm len t1 t8 t10 t16
    exact ⟨H, tm', by simp only [aLoop, h1], h2, Grow.refl H⟩
  | j + 1, i, q + 1, H, tm, hj, hq, ht, hin, len, t1, t8, t10, t16 => by
    have hx : txs[i]? = some txs[i] := List.getElem?_eq_getElem (by omega)
    have hl1 := ht.len
    have hl2 := hin.len
    have hy : avt[i]? = some avt[i] := List.getElem?_eq_getElem (by omega)
    have hz : ain[i]? = some ain[i] := List.getElem?_eq_getElem (by omega)
    obtain ⟨H', tm', h1, l, f1, f8, f10, f16, g⟩ := it8f or n H vt avt txs ht base v8a ain hin i _ _ _ hy hz hx v10 (htn _ (List.getElem_mem _)) tm len t1 t8 t10 t16
    obtain ⟨H2, tm2, g1, g2, g3⟩ := loop8f or n vt avt txs base v8a ain v10 htn j (i + 1) q H' tm' (by omega) (by omega) (ht.grow g) (hin.grow g) l f1 f8 f10 f16
    exact ⟨H2, tm2, by simp only [aLoop, h1, g1], g2, g.trans g3⟩

end Go.Proofs.Ythbjfkkjmecaaaa
