/- Walks: apart, whole. -/
import Derived.Test.YthbjfkkjmecaaaaAloneK
namespace Go.Proofs.Ythbjfkkjmecaaaa
open Go Go.Vm

set_option linter.unusedVariables false
set_option linter.unusedSimpArgs false
attribute [local simp] aStep awanted aOp ev aRess aRes1 tup aBin aUn aArith ASt.put ile_eq ilt_eq ieq_eq aPart List.getElem?_cons_zero

theorem Marked.congr {H : AHeap} {own : Nat → Nat} {vl vL : AVal} {avs : List AVal} {lc lc' : Nat → List (List AVal)} {cont cont' : Nat → List (List AVal)} (h : Marked H own vl vL avs lc [] cont) (he : ∀ (j : Nat) a, avs[j]? = some a → lc j = lc' j) : Marked H own vl vL avs lc' [] cont' where
  rdl := h.rdl
  liesl := h.liesl
  at_ := fun j a ha => by rw [← he j a ha]; exact h.at_ j a ha
  rdL := h.rdL
  liesL := h.liesL
  atL := fun q w hw => by simp at hw

theorem seven_at {lc : Nat → List (List AVal)} {i k : Nat} (hk : k < (seven lc i).length) : (seven lc i)[k]? = some (mark i 7) := by
  unfold seven at hk ⊢
  rw [List.length_replicate] at hk
  rw [List.getElem?_replicate, if_pos hk]
theorem contF_at {lc : Nat → List (List AVal)} {i q k : Nat} (hq : q / 17 = i) (h1 : (seven lc i).length ≤ k) (h2 : k < (contF lc q).length) : (contF lc q)[k]? = some (mark i 8) := by
  unfold contF at h2 ⊢
  rw [hq] at h2 ⊢
  rw [List.length_append, List.length_replicate] at h2
  rw [List.getElem?_append_right h1, List.getElem?_replicate, if_pos (by omega)]
theorem cnt_bound (g : Nat) : cnt g ≤ 70 := by
  unfold cnt
  split <;> omega
theorem contF_len {lc : Nat → List (List AVal)} {i q : Nat} (hq : q / 17 = i) : (seven lc i).length ≤ (contF lc q).length ∧ (contF lc q).length ≤ (seven lc i).length + 70 := by
  unfold contF
  rw [hq, List.length_append, List.length_replicate]
  have := cnt_bound (q % 17)
  omega

theorem it27f (or : Oracle) (n : Nat) (H : AHeap) (own : Nat → Nat) (vl vL : AVal) (avs : List AVal) (lc : Nat → List (List AVal)) (lav : List AVal) (i k : Nat) (hm : Marked H own vl vL avs (seven lc) lav (contF lc)) (hlav : lav.length = 17 * avs.length) (hi : avs.length ≤ 1000) (a : AVal) (ha : avs[i]? = some a) (hLs : (seven lc i).length ≤ 1000000000000000) (hk : k < (seven lc i).length) (tm : List AVal) (len : tm.length = 128) (t0 : tm[0]? = some (vl)) (t2 : tm[2]? = some (abool false)) (t5 : tm[5]? = some (vL)) (t9 : tm[9]? = some (vi i)) (t10 : tm[10]? = some (vi k)) :
    ∃ tm', aCode or true n (fstC (fstC (sndC (fstC (fstC (fstC (sndC (fstC (fstC (sndC (fstC (sndC (sndC (sndC (sndC (a27.code)))))))))))))))) ⟨tm, H, []⟩ = some (.normal, ⟨tm', H, []⟩) ∧ tm'.length = 128 ∧ tm'[0]? = some (vl) ∧ tm'[2]? = some (abool false) ∧ tm'[5]? = some (vL) ∧ tm'[9]? = some (vi i) ∧ tm'[10]? = some (vi ((k : Int) + 1)) := by
  have hi2 := (List.getElem?_eq_some_iff.1 ha).1
  obtain ⟨Rv, verv, offv, kcv, exv, cellsv, hvl1, p2, p3, p4⟩ := RdE.at1 hm.rdl ha
  have la := (hm.at_ i a ha).1.rd.lenS
  have hk' : (k : Int) < (seven lc i).length := by omega
  obtain ⟨R, ver, off, kc, ex, cells, hva1, a2, a3, a4⟩ := (hm.at_ i a ha).1.rd.at (seven_at hk)
  rw [mark7] at a4
  have q1 := (mark_is i 7).refl
  rw [mark7] at q1
  have w : wrapF .i64 ((k : Int) + 1) = ((k : Int) + 1) := wrapI (by omega) (by omega)
  have wi : wrapF .i64 ((i : Int) + 1) = ((i : Int) + 1) := by clear w; exact wrapI (by omega) (by omega)
  obtain ⟨tm1, e1, l1, f1_0, f1_2, f1_5, f1_9, f1_10, f1_82⟩ : ∃ tm1 : List AVal, aCode or true n (fstC (fstC (fstC (fstC (sndC (fstC (fstC (fstC (sndC (fstC (fstC (sndC (fstC (sndC (sndC (sndC (sndC (a27.code)))))))))))))))))) ⟨tm, H, []⟩ = some (.normal, ⟨tm1, H, []⟩) ∧ tm1.length = 128 ∧ tm1[0]? = some (vl) ∧ tm1[2]? = some (abool false) ∧ tm1[5]? = some (vL) ∧ tm1[9]? = some (vi i) ∧ tm1[10]? = some (vi k) ∧ tm1[82]? = some (abool true) := by
    refine ⟨?e1w, ?e1a, ?e1b0, ?e1b1, ?e1b2, ?e1b3, ?e1b4, ?e1b5, ?e1b6⟩
    case e1a =>
      apply regN
      iterate 7 (apply stepN; · simp [-getElem?_pos, List.getElem?_set, len, t0, t9, t10, hvl1, hi2, p2, p3, p4, la, hk']; rfl)
      exact nilN (or := or)
    all_goals simp [-getElem?_pos, List.getElem?_set, len, t0, t2, t5, t9, t10]
  obtain ⟨tm2, e2, l2, f2_0, f2_2, f2_5, f2_9, f2_10, f2_82, f2_96⟩ : ∃ tm2 : List AVal, aCode or true n (fstC (fstC (fstC (sndC (fstC (fstC (sndC (fstC (fstC (fstC (sndC (fstC (fstC (sndC (fstC (sndC (sndC (sndC (sndC (a27.code)))))))))))))))))))) ⟨tm1, H, []⟩ = some (.normal, ⟨tm2, H, []⟩) ∧ tm2.length = 128 ∧ tm2[0]? = some (vl) ∧ tm2[2]? = some (abool false) ∧ tm2[5]? = some (vL) ∧ tm2[9]? = some (vi i) ∧ tm2[10]? = some (vi k) ∧ tm2[82]? = some (abool true) ∧ tm2[96]? = some (abool false) := by
    refine ⟨?e2w, ?e2a, ?e2b0, ?e2b1, ?e2b2, ?e2b3, ?e2b4, ?e2b5, ?e2b6, ?e2b7⟩
    case e2a =>
      apply regN
      iterate 12 (apply stepN; · simp [-getElem?_pos, List.getElem?_set, l1, f1_0, f1_9, f1_10, hvl1, hi2, p2, p3, p4, hva1, hk, a2, a3, a4, wi, aFill, spl, AVal.cells, q1]; rfl)
      exact nilN (or := or)
    all_goals simp [-getElem?_pos, List.getElem?_set, l1, f1_0, f1_2, f1_5, f1_9, f1_10, f1_82]
  obtain ⟨tm3, e3, l3, f3_0, f3_2, f3_5, f3_9, f3_10, f3_82, f3_96⟩ : ∃ tm3 : List AVal, aCode or true n (sndC (sndC (fstC (fstC (sndC (fstC (fstC (fstC (sndC (fstC (fstC (sndC (fstC (sndC (sndC (sndC (sndC (a27.code)))))))))))))))))) ⟨tm2, H, []⟩ = some (.normal, ⟨tm3, H, []⟩) ∧ tm3.length = 128 ∧ tm3[0]? = some (vl) ∧ tm3[2]? = some (abool false) ∧ tm3[5]? = some (vL) ∧ tm3[9]? = some (vi i) ∧ tm3[10]? = some (vi ((k : Int) + 1)) ∧ tm3[82]? = some (abool true) ∧ tm3[96]? = some (abool false) := by
    refine ⟨?e3w, ?e3a, ?e3b0, ?e3b1, ?e3b2, ?e3b3, ?e3b4, ?e3b5, ?e3b6, ?e3b7⟩
    case e3a =>
      apply regN
      iterate 3 (apply stepN; · simp [-getElem?_pos, List.getElem?_set, l2, f2_10, w]; rfl)
      exact nilN (or := or)
    all_goals simp [-getElem?_pos, List.getElem?_set, l2, f2_0, f2_2, f2_5, f2_9, f2_10, f2_82, f2_96]
  exact ⟨tm3, (seqN (seqN e1 (condT f1_82 skipN)) (seqN (blkN (seqN e2 (condF f2_96 skipN))) e3)), l3, f3_0, f3_2, f3_5, f3_9, f3_10⟩

theorem end27f (or : Oracle) (n : Nat) (H : AHeap) (own : Nat → Nat) (vl vL : AVal) (avs : List AVal) (lc : Nat → List (List AVal)) (lav : List AVal) (i : Nat) (hm : Marked H own vl vL avs (seven lc) lav (contF lc)) (hlav : lav.length = 17 * avs.length) (hi : avs.length ≤ 1000) (a : AVal) (ha : avs[i]? = some a) (tm : List AVal) (len : tm.length = 128) (t0 : tm[0]? = some (vl)) (t2 : tm[2]? = some (abool false)) (t5 : tm[5]? = some (vL)) (t9 : tm[9]? = some (vi i)) (t10 : tm[10]? = some (vi (seven lc i).length)) :
    ∃ tm', aCode or true n (fstC (fstC (sndC (fstC (fstC (fstC (sndC (fstC (fstC (sndC (fstC (sndC (sndC (sndC (sndC (a27.code)))))))))))))))) ⟨tm, H, []⟩ = some (.exit 10, ⟨tm', H, []⟩) ∧ tm'.length = 128 ∧ tm'[0]? = some (vl) ∧ tm'[2]? = some (abool false) ∧ tm'[5]? = some (vL) ∧ tm'[9]? = some (vi i) := by
  have hi2 := (List.getElem?_eq_some_iff.1 ha).1
  obtain ⟨Rv, verv, offv, kcv, exv, cellsv, hvl1, p2, p3, p4⟩ := RdE.at1 hm.rdl ha
  have la := (hm.at_ i a ha).1.rd.lenS
  obtain ⟨tm1, e1, l1, f1_0, f1_2, f1_5, f1_9, f1_10, f1_82⟩ : ∃ tm1 : List AVal, aCode or true n (fstC (fstC (fstC (fstC (sndC (fstC (fstC (fstC (sndC (fstC (fstC (sndC (fstC (sndC (sndC (sndC (sndC (a27.code)))))))))))))))))) ⟨tm, H, []⟩ = some (.normal, ⟨tm1, H, []⟩) ∧ tm1.length = 128 ∧ tm1[0]? = some (vl) ∧ tm1[2]? = some (abool false) ∧ tm1[5]? = some (vL) ∧ tm1[9]? = some (vi i) ∧ tm1[10]? = some (vi (seven lc i).length) ∧ tm1[82]? = some (abool false) := by
    refine ⟨?e1w, ?e1a, ?e1b0, ?e1b1, ?e1b2, ?e1b3, ?e1b4, ?e1b5, ?e1b6⟩
    case e1a =>
      apply regN
      iterate 7 (apply stepN; · simp [-getElem?_pos, List.getElem?_set, len, t0, t9, t10, hvl1, hi2, p2, p3, p4, la]; rfl)
      exact nilN (or := or)
    all_goals simp [-getElem?_pos, List.getElem?_set, len, t0, t2, t5, t9, t10]
  exact ⟨tm1, (seqX (seqN e1 (condF f1_82 exitN)) (by simp)), l1, f1_0, f1_2, f1_5, f1_9⟩

theorem loop27f (or : Oracle) (n : Nat) (H : AHeap) (own : Nat → Nat) (vl vL : AVal) (avs : List AVal) (lc : Nat → List (List AVal)) (lav : List AVal) (i : Nat) (hm : Marked H own vl vL avs (seven lc) lav (contF lc)) (hlav : lav.length = 17 * avs.length) (hi : avs.length ≤ 1000) (a : AVal) (ha : avs[i]? = some a) (hLs : (seven lc i).length ≤ 1000000000000000) :
    ∀ (j k q : Nat) (tm : List AVal), k + j = (seven lc i).length → j < q → tm.length = 128 → tm[0]? = some (vl) → tm[2]? = some (abool false) → tm[5]? = some (vL) → tm[9]? = some (vi i) → tm[10]? = some (vi k) → ∃ tm', aLoop (aCode or true n (fstC (fstC (sndC (fstC (fstC (fstC (sndC (fstC (fstC (sndC (fstC (sndC (sndC (sndC (sndC (a27.code))))))))))))))))) q ⟨tm, H, []⟩ = some (.exit 10, ⟨tm', H, []⟩) ∧ (tm'.length = 128 ∧ tm'[0]? = some (vl) ∧ tm'[2]? = some (abool false) ∧ tm'[5]? = some (vL) ∧ tm'[9]? = some (vi i))
  | 0, k, q + 1, tm, hj, _, len, t0, t2, t5, t9, t10 => by
    have : k = (seven lc i).length := by omega
    subst this
    obtain ⟨tm', h1, h2⟩ := end27f or n H own vl vL avs lc lav i hm hlav hi a ha tm len t0 t2 t5 t9 t10
    exact ⟨tm', by simp only [aLoop, h1], h2⟩
  | j + 1, k, q + 1, tm, hj, hq, len, t0, t2, t5, t9, t10 => by
    obtain ⟨tm', h1, l, f0, f2, f5, f9, f10⟩ := it27f or n H own vl vL avs lc lav i k hm hlav hi a ha hLs (by omega) tm len t0 t2 t5 t9 t10
    obtain ⟨tm2, g1, g2⟩ := loop27f or n H own vl vL avs lc lav i hm hlav hi a ha hLs j (k + 1) q tm' (by omega) (by omega) l f0 f2 f5 f9 f10
    exact ⟨tm2, by simp only [aLoop, h1, g1], g2⟩

theorem it27g (or : Oracle) (n : Nat) (H : AHeap) (own : Nat → Nat) (vl vL : AVal) (avs : List AVal) (lc : Nat → List (List AVal)) (lav : List AVal) (i g k c : Nat) (hm : Marked H own vl vL avs (seven lc) lav (contF lc)) (hlav : lav.length = 17 * avs.length) (hi : avs.length ≤ 1000) (w0 : AVal) (hw0 : lav[c]? = some w0) (hc : c / 17 = i) (hLs : (seven lc i).length ≤ 1000000000000000) (hi9 : i < 1000) (hk0 : (seven lc i).length ≤ k) (hk : k < (contF lc c).length) (tm : List AVal) (len : tm.length = 128) (t0 : tm[0]? = some (vl)) (t2 : tm[2]? = some (abool false)) (t5 : tm[5]? = some (vL)) (t9 : tm[9]? = some (vi i)) (t11 : tm[11]? = some (vi g)) (t12 : tm[12]? = some (w0)) (t13 : tm[13]? = some (vi k)) :
    ∃ tm', aCode or true n (fstC (fstC (sndC (sndC (fstC (fstC (sndC (fstC (fstC (sndC (sndC (fstC (fstC (sndC (fstC (fstC (sndC (fstC (sndC (sndC (sndC (sndC (a27.code))))))))))))))))))))))) ⟨tm, H, []⟩ = some (.normal, ⟨tm', H, []⟩) ∧ tm'.length = 128 ∧ tm'[0]? = some (vl) ∧ tm'[2]? = some (abool false) ∧ tm'[5]? = some (vL) ∧ tm'[9]? = some (vi i) ∧ tm'[11]? = some (vi g) ∧ tm'[12]? = some (w0) ∧ tm'[13]? = some (vi ((k : Int) + 1)) := by
  have lw := (hm.atL c w0 hw0).1.rd.lenS
  have hcl := contF_len (lc := lc) hc
  have hk' : (k : Int) < (contF lc c).length := by omega
  obtain ⟨R, ver, off, kc, ex, cells, hva1, a2, a3, a4⟩ := (hm.atL c w0 hw0).1.rd.at (contF_at hc hk0 hk)
  rw [mark8] at a4
  have q1 := (mark_is i 8).refl
  rw [mark8] at q1
  have w : wrapF .i64 ((k : Int) + 1) = ((k : Int) + 1) := wrapI (by omega) (by omega)
  have wi : wrapF .i64 ((i : Int) + 1) = ((i : Int) + 1) := by clear w; exact wrapI (by omega) (by omega)
  obtain ⟨tm1, e1, l1, f1_0, f1_2, f1_5, f1_9, f1_11, f1_12, f1_13, f1_116⟩ : ∃ tm1 : List AVal, aCode or true n (fstC (fstC (fstC (fstC (sndC (sndC (fstC (fstC (sndC (fstC (fstC (sndC (sndC (fstC (fstC (sndC (fstC (fstC (sndC (fstC (sndC (sndC (sndC (sndC (a27.code))))))))))))))))))))))))) ⟨tm, H, []⟩ = some (.normal, ⟨tm1, H, []⟩) ∧ tm1.length = 128 ∧ tm1[0]? = some (vl) ∧ tm1[2]? = some (abool false) ∧ tm1[5]? = some (vL) ∧ tm1[9]? = some (vi i) ∧ tm1[11]? = some (vi g) ∧ tm1[12]? = some (w0) ∧ tm1[13]? = some (vi k) ∧ tm1[116]? = some (abool true) := by
    refine ⟨?e1w, ?e1a, ?e1b0, ?e1b1, ?e1b2, ?e1b3, ?e1b4, ?e1b5, ?e1b6, ?e1b7, ?e1b8⟩
    case e1a =>
      apply regN
      iterate 4 (apply stepN; · simp [-getElem?_pos, List.getElem?_set, len, t12, t13, lw, hk']; rfl)
      exact nilN (or := or)
    all_goals simp [-getElem?_pos, List.getElem?_set, len, t0, t2, t5, t9, t11, t12, t13]
  obtain ⟨tm2, e2, l2, f2_0, f2_2, f2_5, f2_9, f2_11, f2_12, f2_13, f2_116, f2_127⟩ : ∃ tm2 : List AVal, aCode or true n (fstC (fstC (fstC (sndC (fstC (fstC (sndC (sndC (fstC (fstC (sndC (fstC (fstC (sndC (sndC (fstC (fstC (sndC (fstC (fstC (sndC (fstC (sndC (sndC (sndC (sndC (a27.code))))))))))))))))))))))))))) ⟨tm1, H, []⟩ = some (.normal, ⟨tm2, H, []⟩) ∧ tm2.length = 128 ∧ tm2[0]? = some (vl) ∧ tm2[2]? = some (abool false) ∧ tm2[5]? = some (vL) ∧ tm2[9]? = some (vi i) ∧ tm2[11]? = some (vi g) ∧ tm2[12]? = some (w0) ∧ tm2[13]? = some (vi k) ∧ tm2[116]? = some (abool true) ∧ tm2[127]? = some (abool false) := by
    refine ⟨?e2w, ?e2a, ?e2b0, ?e2b1, ?e2b2, ?e2b3, ?e2b4, ?e2b5, ?e2b6, ?e2b7, ?e2b8, ?e2b9⟩
    case e2a =>
      apply regN
      iterate 9 (apply stepN; · simp [-getElem?_pos, List.getElem?_set, l1, f1_9, f1_12, f1_13, hva1, hk, a2, a3, a4, wi, aFill, spl, AVal.cells, q1]; rfl)
      exact nilN (or := or)
    all_goals simp [-getElem?_pos, List.getElem?_set, l1, f1_0, f1_2, f1_5, f1_9, f1_11, f1_12, f1_13, f1_116]
  obtain ⟨tm3, e3, l3, f3_0, f3_2, f3_5, f3_9, f3_11, f3_12, f3_13, f3_116, f3_127⟩ : ∃ tm3 : List AVal, aCode or true n (sndC (sndC (fstC (fstC (sndC (sndC (fstC (fstC (sndC (fstC (fstC (sndC (sndC (fstC (fstC (sndC (fstC (fstC (sndC (fstC (sndC (sndC (sndC (sndC (a27.code))))))))))))))))))))))))) ⟨tm2, H, []⟩ = some (.normal, ⟨tm3, H, []⟩) ∧ tm3.length = 128 ∧ tm3[0]? = some (vl) ∧ tm3[2]? = some (abool false) ∧ tm3[5]? = some (vL) ∧ tm3[9]? = some (vi i) ∧ tm3[11]? = some (vi g) ∧ tm3[12]? = some (w0) ∧ tm3[13]? = some (vi ((k : Int) + 1)) ∧ tm3[116]? = some (abool true) ∧ tm3[127]? = some (abool false) := by
    refine ⟨?e3w, ?e3a, ?e3b0, ?e3b1, ?e3b2, ?e3b3, ?e3b4, ?e3b5, ?e3b6, ?e3b7, ?e3b8, ?e3b9⟩
    case e3a =>
      apply regN
      iterate 3 (apply stepN; · simp [-getElem?_pos, List.getElem?_set, l2, f2_13, w]; rfl)
      exact nilN (or := or)
    all_goals simp [-getElem?_pos, List.getElem?_set, l2, f2_0, f2_2, f2_5, f2_9, f2_11, f2_12, f2_13, f2_116, f2_127]
  exact ⟨tm3, (seqN (seqN e1 (condT f1_116 skipN)) (seqN (blkN (seqN e2 (condF f2_127 skipN))) e3)), l3, f3_0, f3_2, f3_5, f3_9, f3_11, f3_12, f3_13⟩

theorem end27g (or : Oracle) (n : Nat) (H : AHeap) (own : Nat → Nat) (vl vL : AVal) (avs : List AVal) (lc : Nat → List (List AVal)) (lav : List AVal) (i g c : Nat) (hm : Marked H own vl vL avs (seven lc) lav (contF lc)) (hlav : lav.length = 17 * avs.length) (hi : avs.length ≤ 1000) (w0 : AVal) (hw0 : lav[c]? = some w0) (hc : c / 17 = i) (hLs : (seven lc i).length ≤ 1000000000000000) (hi9 : i < 1000) (tm : List AVal) (len : tm.length = 128) (t0 : tm[0]? = some (vl)) (t2 : tm[2]? = some (abool false)) (t5 : tm[5]? = some (vL)) (t9 : tm[9]? = some (vi i)) (t11 : tm[11]? = some (vi g)) (t12 : tm[12]? = some (w0)) (t13 : tm[13]? = some (vi (contF lc c).length)) :
    ∃ tm', aCode or true n (fstC (fstC (sndC (sndC (fstC (fstC (sndC (fstC (fstC (sndC (sndC (fstC (fstC (sndC (fstC (fstC (sndC (fstC (sndC (sndC (sndC (sndC (a27.code))))))))))))))))))))))) ⟨tm, H, []⟩ = some (.exit 14, ⟨tm', H, []⟩) ∧ tm'.length = 128 ∧ tm'[0]? = some (vl) ∧ tm'[2]? = some (abool false) ∧ tm'[5]? = some (vL) ∧ tm'[9]? = some (vi i) ∧ tm'[11]? = some (vi g) := by
  have lw := (hm.atL c w0 hw0).1.rd.lenS
  have hcl := contF_len (lc := lc) hc
  obtain ⟨tm1, e1, l1, f1_0, f1_2, f1_5, f1_9, f1_11, f1_12, f1_13, f1_116⟩ : ∃ tm1 : List AVal, aCode or true n (fstC (fstC (fstC (fstC (sndC (sndC (fstC (fstC (sndC (fstC (fstC (sndC (sndC (fstC (fstC (sndC (fstC (fstC (sndC (fstC (sndC (sndC (sndC (sndC (a27.code))))))))))))))))))))))))) ⟨tm, H, []⟩ = some (.normal, ⟨tm1, H, []⟩) ∧ tm1.length = 128 ∧ tm1[0]? = some (vl) ∧ tm1[2]? = some (abool false) ∧ tm1[5]? = some (vL) ∧ tm1[9]? = some (vi i) ∧ tm1[11]? = some (vi g) ∧ tm1[12]? = some (w0) ∧ tm1[13]? = some (vi (contF lc c).length) ∧ tm1[116]? = some (abool false) := by
    refine ⟨?e1w, ?e1a, ?e1b0, ?e1b1, ?e1b2, ?e1b3, ?e1b4, ?e1b5, ?e1b6, ?e1b7, ?e1b8⟩
    case e1a =>
      apply regN
      iterate 4 (apply stepN; · simp [-getElem?_pos, List.getElem?_set, len, t12, t13, lw]; rfl)
      exact nilN (or := or)
    all_goals simp [-getElem?_pos, List.getElem?_set, len, t0, t2, t5, t9, t11, t12, t13]
  exact ⟨tm1, (seqX (seqN e1 (condF f1_116 exitN)) (by simp)), l1, f1_0, f1_2, f1_5, f1_9, f1_11⟩

theorem loop27g (or : Oracle) (n : Nat) (H : AHeap) (own : Nat → Nat) (vl vL : AVal) (avs : List AVal) (lc : Nat → List (List AVal)) (lav : List AVal) (i g c : Nat) (hm : Marked H own vl vL avs (seven lc) lav (contF lc)) (hlav : lav.length = 17 * avs.length) (hi : avs.length ≤ 1000) (w0 : AVal) (hw0 : lav[c]? = some w0) (hc : c / 17 = i) (hLs : (seven lc i).length ≤ 1000000000000000) (hi9 : i < 1000) :
    ∀ (j k q : Nat) (tm : List AVal), k + j = (contF lc c).length → (seven lc i).length ≤ k → j < q → tm.length = 128 → tm[0]? = some (vl) → tm[2]? = some (abool false) → tm[5]? = some (vL) → tm[9]? = some (vi i) → tm[11]? = some (vi g) → tm[12]? = some (w0) → tm[13]? = some (vi k) → ∃ tm', aLoop (aCode or true n (fstC (fstC (sndC (sndC (fstC (fstC (sndC (fstC (fstC (sndC (sndC (fstC (fstC (sndC (fstC (fstC (sndC (fstC (sndC (sndC (sndC (sndC (a27.code)))))))))))))))))))))))) q ⟨tm, H, []⟩ = some (.exit 14, ⟨tm', H, []⟩) ∧ (tm'.length = 128 ∧ tm'[0]? = some (vl) ∧ tm'[2]? = some (abool false) ∧ tm'[5]? = some (vL) ∧ tm'[9]? = some (vi i) ∧ tm'[11]? = some (vi g))
  | 0, k, q + 1, tm, hj, hk0, _, len, t0, t2, t5, t9, t11, t12, t13 => by
    have : k = (contF lc c).length := by omega
    subst this
    obtain ⟨tm', h1, h2⟩ := end27g or n H own vl vL avs lc lav i g c hm hlav hi w0 hw0 hc hLs hi9 tm len t0 t2 t5 t9 t11 t12 t13
    exact ⟨tm', by simp only [aLoop, h1], h2⟩
  | j + 1, k, q + 1, tm, hj, hk0, hq, len, t0, t2, t5, t9, t11, t12, t13 => by
    obtain ⟨tm', h1, l, f0, f2, f5, f9, f11, f12, f13⟩ := it27g or n H own vl vL avs lc lav i g k c hm hlav hi w0 hw0 hc hLs hi9 hk0 (by omega) tm len t0 t2 t5 t9 t11 t12 t13
    obtain ⟨tm2, g1, g2⟩ := loop27g or n H own vl vL avs lc lav i g c hm hlav hi w0 hw0 hc hLs hi9 j (k + 1) q tm' (by omega) (by omega) (by omega) l f0 f2 f5 f9 f11 f12 f13
    exact ⟨tm2, by simp only [aLoop, h1, g1], g2⟩

theorem it27h (or : Oracle) (n : Nat) (H : AHeap) (own : Nat → Nat) (vl vL : AVal) (avs : List AVal) (lc : Nat → List (List AVal)) (lav : List AVal) (i g : Nat) (hm : Marked H own vl vL avs (seven lc) lav (contF lc)) (hlav : lav.length = 17 * avs.length) (hi : avs.length ≤ 1000) (a : AVal) (ha : avs[i]? = some a) (hLs : (seven lc i).length ≤ 1000000000000000) (hn : (seven lc i).length + 70 < n) (hg : g < 17) (tm : List AVal) (len : tm.length = 128) (t0 : tm[0]? = some (vl)) (t2 : tm[2]? = some (abool false)) (t5 : tm[5]? = some (vL)) (t9 : tm[9]? = some (vi i)) (t11 : tm[11]? = some (vi g)) :
    ∃ tm', aCode or true n (fstC (fstC (sndC (sndC (fstC (fstC (sndC (fstC (fstC (sndC (fstC (sndC (sndC (sndC (sndC (a27.code)))))))))))))))) ⟨tm, H, []⟩ = some (.normal, ⟨tm', H, []⟩) ∧ tm'.length = 128 ∧ tm'[0]? = some (vl) ∧ tm'[2]? = some (abool false) ∧ tm'[5]? = some (vL) ∧ tm'[9]? = some (vi i) ∧ tm'[11]? = some (vi ((g : Int) + 1)) := by
  have hi2 := (List.getElem?_eq_some_iff.1 ha).1
  obtain ⟨Rv, verv, offv, kcv, exv, cellsv, hvl1, p2, p3, p4⟩ := RdE.at1 hm.rdl ha
  have la := (hm.at_ i a ha).1.rd.lenS
  have hg' : (g : Int) < 17 := by omega
  obtain ⟨c, hc⟩ : ∃ c, c = 17 * i + g := ⟨_, rfl⟩
  have hcl : c < lav.length := by omega
  have hc17 : c / 17 = i := by omega
  have hw0 : lav[c]? = some lav[c] := List.getElem?_eq_getElem hcl
  generalize lav[c] = w0 at hw0
  obtain ⟨Rw, verw, offw, kcw, exw, cellsw, hvL1, s2, s3, s4⟩ := RdE.at1 hm.rdL.rd hw0
  have hcn := contF_len (lc := lc) hc17
  have w1 : wrapF .i64 (17 * (i : Int)) = 17 * (i : Int) := wrapI (by omega) (by omega)
  have w2 : wrapF .i64 (17 * (i : Int) + (g : Int)) = (c : Int) := by clear w1; rw [wrapI (by omega) (by omega)]; omega
  have w : wrapF .i64 ((g : Int) + 1) = ((g : Int) + 1) := by clear w1 w2; exact wrapI (by omega) (by omega)
  obtain ⟨tm1, e1, l1, f1_0, f1_2, f1_5, f1_9, f1_11, f1_98⟩ : ∃ tm1 : List AVal, aCode or true n (fstC (fstC (fstC (fstC (sndC (sndC (fstC (fstC (sndC (fstC (fstC (sndC (fstC (sndC (sndC (sndC (sndC (a27.code)))))))))))))))))) ⟨tm, H, []⟩ = some (.normal, ⟨tm1, H, []⟩) ∧ tm1.length = 128 ∧ tm1[0]? = some (vl) ∧ tm1[2]? = some (abool false) ∧ tm1[5]? = some (vL) ∧ tm1[9]? = some (vi i) ∧ tm1[11]? = some (vi g) ∧ tm1[98]? = some (abool true) := by
    refine ⟨?e1w, ?e1a, ?e1b0, ?e1b1, ?e1b2, ?e1b3, ?e1b4, ?e1b5, ?e1b6⟩
    case e1a =>
      apply regN
      iterate 2 (apply stepN; · simp [-getElem?_pos, List.getElem?_set, len, t11, hg']; rfl)
      exact nilN (or := or)
    all_goals simp [-getElem?_pos, List.getElem?_set, len, t0, t2, t5, t9, t11]
  obtain ⟨tm2, e2, l2, f2_0, f2_2, f2_5, f2_9, f2_11, f2_12, f2_98⟩ : ∃ tm2 : List AVal, aCode or true n (fstC (fstC (fstC (sndC (fstC (fstC (sndC (sndC (fstC (fstC (sndC (fstC (fstC (sndC (fstC (sndC (sndC (sndC (sndC (a27.code)))))))))))))))))))) ⟨tm1, H, []⟩ = some (.normal, ⟨tm2, H, []⟩) ∧ tm2.length = 128 ∧ tm2[0]? = some (vl) ∧ tm2[2]? = some (abool false) ∧ tm2[5]? = some (vL) ∧ tm2[9]? = some (vi i) ∧ tm2[11]? = some (vi g) ∧ tm2[12]? = some (w0) ∧ tm2[98]? = some (abool true) := by
    refine ⟨?e2w, ?e2a, ?e2b0, ?e2b1, ?e2b2, ?e2b3, ?e2b4, ?e2b5, ?e2b6, ?e2b7⟩
    case e2a =>
      apply regN
      iterate 8 (apply stepN; · simp [-getElem?_pos, List.getElem?_set, l1, f1_5, f1_9, f1_11, w1, w2, hvL1, hcl, s2, s3, s4]; rfl)
      exact nilN (or := or)
    all_goals simp [-getElem?_pos, List.getElem?_set, l1, f1_0, f1_2, f1_5, f1_9, f1_11, f1_98]
  obtain ⟨tm3, e3, l3, f3_0, f3_2, f3_5, f3_9, f3_11, f3_12, f3_13, f3_98⟩ : ∃ tm3 : List AVal, aCode or true n (fstC (sndC (fstC (fstC (sndC (fstC (fstC (sndC (sndC (fstC (fstC (sndC (fstC (fstC (sndC (fstC (sndC (sndC (sndC (sndC (a27.code))))))))))))))))))))) ⟨tm2, H, []⟩ = some (.normal, ⟨tm3, H, []⟩) ∧ tm3.length = 128 ∧ tm3[0]? = some (vl) ∧ tm3[2]? = some (abool false) ∧ tm3[5]? = some (vL) ∧ tm3[9]? = some (vi i) ∧ tm3[11]? = some (vi g) ∧ tm3[12]? = some (w0) ∧ tm3[13]? = some (vi (seven lc i).length) ∧ tm3[98]? = some (abool true) := by
    refine ⟨?e3w, ?e3a, ?e3b0, ?e3b1, ?e3b2, ?e3b3, ?e3b4, ?e3b5, ?e3b6, ?e3b7, ?e3b8⟩
    case e3a =>
      apply regN
      iterate 6 (apply stepN; · simp [-getElem?_pos, List.getElem?_set, l2, f2_0, f2_9, hvl1, hi2, p2, p3, p4, la]; rfl)
      exact nilN (or := or)
    all_goals simp [-getElem?_pos, List.getElem?_set, l2, f2_0, f2_2, f2_5, f2_9, f2_11, f2_12, f2_98]
  obtain ⟨tm4, e4, l4, q0, q2, q5, q9, q11⟩ := loop27g or n H own vl vL avs lc lav i g c hm hlav hi w0 hw0 hc17 hLs (Nat.lt_of_lt_of_le hi2 hi) ((contF lc c).length - (seven lc i).length) (seven lc i).length n tm3 (Nat.add_sub_cancel' hcn.1) (Nat.le_refl _) (by clear w w1 w2; omega) l3 f3_0 f3_2 f3_5 f3_9 f3_11 f3_12 f3_13
  obtain ⟨tm5, e5, l5, f5_0, f5_2, f5_5, f5_9, f5_11⟩ : ∃ tm5 : List AVal, aCode or true n (sndC (sndC (fstC (fstC (sndC (sndC (fstC (fstC (sndC (fstC (fstC (sndC (fstC (sndC (sndC (sndC (sndC (a27.code)))))))))))))))))) ⟨tm4, H, []⟩ = some (.normal, ⟨tm5, H, []⟩) ∧ tm5.length = 128 ∧ tm5[0]? = some (vl) ∧ tm5[2]? = some (abool false) ∧ tm5[5]? = some (vL) ∧ tm5[9]? = some (vi i) ∧ tm5[11]? = some (vi ((g : Int) + 1)) := by
    refine ⟨?e5w, ?e5a, ?e5b0, ?e5b1, ?e5b2, ?e5b3, ?e5b4, ?e5b5⟩
    case e5a =>
      apply regN
      iterate 3 (apply stepN; · simp [-getElem?_pos, List.getElem?_set, l4, q11, w]; rfl)
      exact nilN (or := or)
    all_goals simp [-getElem?_pos, List.getElem?_set, l4, q0, q2, q5, q9, q11]
  exact ⟨tm5, (seqN (seqN e1 (condT f1_98 skipN)) (seqN (blkN (seqN e2 (seqN e3 (blkE (loopC e4))))) e5)), l5, f5_0, f5_2, f5_5, f5_9, f5_11⟩

theorem end27h (or : Oracle) (n : Nat) (H : AHeap) (vl vL : AVal) (i : Nat) (tm : List AVal) (len : tm.length = 128) (t0 : tm[0]? = some (vl)) (t2 : tm[2]? = some (abool false)) (t5 : tm[5]? = some (vL)) (t9 : tm[9]? = some (vi i)) (t11 : tm[11]? = some (vi 17)) :
    ∃ tm', aCode or true n (fstC (fstC (sndC (sndC (fstC (fstC (sndC (fstC (fstC (sndC (fstC (sndC (sndC (sndC (sndC (a27.code)))))))))))))))) ⟨tm, H, []⟩ = some (.exit 12, ⟨tm', H, []⟩) ∧ tm'.length = 128 ∧ tm'[0]? = some (vl) ∧ tm'[2]? = some (abool false) ∧ tm'[5]? = some (vL) ∧ tm'[9]? = some (vi i) := by
  obtain ⟨tm1, e1, l1, f1_0, f1_2, f1_5, f1_9, f1_11, f1_98⟩ : ∃ tm1 : List AVal, aCode or true n (fstC (fstC (fstC (fstC (sndC (sndC (fstC (fstC (sndC (fstC (fstC (sndC (fstC (sndC (sndC (sndC (sndC (a27.code)))))))))))))))))) ⟨tm, H, []⟩ = some (.normal, ⟨tm1, H, []⟩) ∧ tm1.length = 128 ∧ tm1[0]? = some (vl) ∧ tm1[2]? = some (abool false) ∧ tm1[5]? = some (vL) ∧ tm1[9]? = some (vi i) ∧ tm1[11]? = some (vi 17) ∧ tm1[98]? = some (abool false) := by
    refine ⟨?e1w, ?e1a, ?e1b0, ?e1b1, ?e1b2, ?e1b3, ?e1b4, ?e1b5, ?e1b6⟩
    case e1a =>
      apply regN
      iterate 2 (apply stepN; · simp [-getElem?_pos, List.getElem?_set, len, t11]; rfl)
      exact nilN (or := or)
    all_goals simp [-getElem?_pos, List.getElem?_set, len, t0, t2, t5, t9, t11]
  exact ⟨tm1, (seqX (seqN e1 (condF f1_98 exitN)) (by simp)), l1, f1_0, f1_2, f1_5, f1_9⟩

theorem loop27h (or : Oracle) (n : Nat) (H : AHeap) (own : Nat → Nat) (vl vL : AVal) (avs : List AVal) (lc : Nat → List (List AVal)) (lav : List AVal) (i : Nat) (hm : Marked H own vl vL avs (seven lc) lav (contF lc)) (hlav : lav.length = 17 * avs.length) (hi : avs.length ≤ 1000) (a : AVal) (ha : avs[i]? = some a) (hLs : (seven lc i).length ≤ 1000000000000000) (hn : (seven lc i).length + 70 < n) :
    ∀ (j g q : Nat) (tm : List AVal), g + j = 17 → j < q → tm.length = 128 → tm[0]? = some (vl) → tm[2]? = some (abool false) → tm[5]? = some (vL) → tm[9]? = some (vi i) → tm[11]? = some (vi g) → ∃ tm', aLoop (aCode or true n (fstC (fstC (sndC (sndC (fstC (fstC (sndC (fstC (fstC (sndC (fstC (sndC (sndC (sndC (sndC (a27.code))))))))))))))))) q ⟨tm, H, []⟩ = some (.exit 12, ⟨tm', H, []⟩) ∧ (tm'.length = 128 ∧ tm'[0]? = some (vl) ∧ tm'[2]? = some (abool false) ∧ tm'[5]? = some (vL) ∧ tm'[9]? = some (vi i))
  | 0, g, q + 1, tm, hj, _, len, t0, t2, t5, t9, t11 => by
    have : g = 17 := by omega
    subst this
    obtain ⟨tm', h1, h2⟩ := end27h or n H vl vL i tm len t0 t2 t5 t9 t11
    exact ⟨tm', by simp only [aLoop, h1], h2⟩
  | j + 1, g, q + 1, tm, hj, hq, len, t0, t2, t5, t9, t11 => by
    obtain ⟨tm', h1, l, f0, f2, f5, f9, f11⟩ := it27h or n H own vl vL avs lc lav i g hm hlav hi a ha hLs hn (by omega) tm len t0 t2 t5 t9 t11
    obtain ⟨tm2, g1, g2⟩ := loop27h or n H own vl vL avs lc lav i hm hlav hi a ha hLs hn j (g + 1) q tm' (by omega) (by omega) l f0 f2 f5 f9 f11
    exact ⟨tm2, by simp only [aLoop, h1, g1], g2⟩

theorem it27k (or : Oracle) (n : Nat) (H : AHeap) (own : Nat → Nat) (vl vL : AVal) (avs : List AVal) (lc : Nat → List (List AVal)) (lav : List AVal) (i : Nat) (hm : Marked H own vl vL avs (seven lc) lav (contF lc)) (hlav : lav.length = 17 * avs.length) (hi : avs.length ≤ 1000) (hL : ∀ (i : Nat) a, avs[i]? = some a → (seven lc i).length ≤ 1000000000000000 ∧ (seven lc i).length + 70 < n) (hn : 70 < n) (a : AVal) (ha : avs[i]? = some a) (tm : List AVal) (len : tm.length = 128) (t0 : tm[0]? = some (vl)) (t2 : tm[2]? = some (abool false)) (t5 : tm[5]? = some (vL)) (t9 : tm[9]? = some (vi i)) :
    ∃ tm', aCode or true n (fstC (fstC (sndC (fstC (sndC (sndC (sndC (sndC (a27.code))))))))) ⟨tm, H, []⟩ = some (.normal, ⟨tm', H, []⟩) ∧ tm'.length = 128 ∧ tm'[0]? = some (vl) ∧ tm'[2]? = some (abool false) ∧ tm'[5]? = some (vL) ∧ tm'[9]? = some (vi ((i : Int) + 1)) := by
  have lvl := hm.rdl.lenS
  rw [List.length_map] at lvl
  have hi2 := (List.getElem?_eq_some_iff.1 ha).1
  have hi' : (i : Int) < avs.length := by omega
  have w : wrapF .i64 ((i : Int) + 1) = ((i : Int) + 1) := wrapI (by omega) (by omega)
  obtain ⟨hLs, hLn⟩ := hL i a ha
  obtain ⟨tm1, e1, l1, f1_0, f1_2, f1_5, f1_9, f1_73⟩ : ∃ tm1 : List AVal, aCode or true n (fstC (fstC (fstC (fstC (sndC (fstC (sndC (sndC (sndC (sndC (a27.code))))))))))) ⟨tm, H, []⟩ = some (.normal, ⟨tm1, H, []⟩) ∧ tm1.length = 128 ∧ tm1[0]? = some (vl) ∧ tm1[2]? = some (abool false) ∧ tm1[5]? = some (vL) ∧ tm1[9]? = some (vi i) ∧ tm1[73]? = some (abool true) := by
    refine ⟨?e1w, ?e1a, ?e1b0, ?e1b1, ?e1b2, ?e1b3, ?e1b4, ?e1b5⟩
    case e1a =>
      apply regN
      iterate 4 (apply stepN; · simp [-getElem?_pos, List.getElem?_set, len, t0, t9, lvl, hi']; rfl)
      exact nilN (or := or)
    all_goals simp [-getElem?_pos, List.getElem?_set, len, t0, t2, t5, t9]
  obtain ⟨tm2, e2, l2, f2_0, f2_2, f2_5, f2_9, f2_10, f2_73⟩ : ∃ tm2 : List AVal, aCode or true n (fstC (fstC (fstC (fstC (sndC (fstC (fstC (sndC (fstC (sndC (sndC (sndC (sndC (a27.code)))))))))))))) ⟨tm1, H, []⟩ = some (.normal, ⟨tm2, H, []⟩) ∧ tm2.length = 128 ∧ tm2[0]? = some (vl) ∧ tm2[2]? = some (abool false) ∧ tm2[5]? = some (vL) ∧ tm2[9]? = some (vi i) ∧ tm2[10]? = some (vi 0) ∧ tm2[73]? = some (abool true) := by
    refine ⟨?e2w, ?e2a, ?e2b0, ?e2b1, ?e2b2, ?e2b3, ?e2b4, ?e2b5, ?e2b6⟩
    case e2a =>
      apply regN
      iterate 1 (apply stepN; · simp [-getElem?_pos, List.getElem?_set, l1]; rfl)
      exact nilN (or := or)
    all_goals simp [-getElem?_pos, List.getElem?_set, l1, f1_0, f1_2, f1_5, f1_9, f1_73]
  obtain ⟨tm3, e3, l3, q0, q2, q5, q9⟩ := loop27f or n H own vl vL avs lc lav i hm hlav hi a ha hLs (seven lc i).length 0 n tm2 (by omega) (by omega) l2 f2_0 f2_2 f2_5 f2_9 f2_10
  obtain ⟨tm4, e4, l4, f4_0, f4_2, f4_5, f4_9, f4_11⟩ : ∃ tm4 : List AVal, aCode or true n (fstC (sndC (fstC (fstC (sndC (fstC (fstC (sndC (fstC (sndC (sndC (sndC (sndC (a27.code)))))))))))))) ⟨tm3, H, []⟩ = some (.normal, ⟨tm4, H, []⟩) ∧ tm4.length = 128 ∧ tm4[0]? = some (vl) ∧ tm4[2]? = some (abool false) ∧ tm4[5]? = some (vL) ∧ tm4[9]? = some (vi i) ∧ tm4[11]? = some (vi 0) := by
    refine ⟨?e4w, ?e4a, ?e4b0, ?e4b1, ?e4b2, ?e4b3, ?e4b4, ?e4b5⟩
    case e4a =>
      apply regN
      iterate 1 (apply stepN; · simp [-getElem?_pos, List.getElem?_set, l3]; rfl)
      exact nilN (or := or)
    all_goals simp [-getElem?_pos, List.getElem?_set, l3, q0, q2, q5, q9]
  obtain ⟨tm5, e5, l5, s0, s2, s5, s9⟩ := loop27h or n H own vl vL avs lc lav i hm hlav hi a ha hLs hLn 17 0 n tm4 (by omega) (by omega) l4 f4_0 f4_2 f4_5 f4_9 f4_11
  obtain ⟨tm6, e6, l6, f6_0, f6_2, f6_5, f6_9⟩ : ∃ tm6 : List AVal, aCode or true n (sndC (sndC (fstC (fstC (sndC (fstC (sndC (sndC (sndC (sndC (a27.code))))))))))) ⟨tm5, H, []⟩ = some (.normal, ⟨tm6, H, []⟩) ∧ tm6.length = 128 ∧ tm6[0]? = some (vl) ∧ tm6[2]? = some (abool false) ∧ tm6[5]? = some (vL) ∧ tm6[9]? = some (vi ((i : Int) + 1)) := by
    refine ⟨?e6w, ?e6a, ?e6b0, ?e6b1, ?e6b2, ?e6b3, ?e6b4⟩
    case e6a =>
      apply regN
      iterate 3 (apply stepN; · simp [-getElem?_pos, List.getElem?_set, l5, s9, w]; rfl)
      exact nilN (or := or)
    all_goals simp [-getElem?_pos, List.getElem?_set, l5, s0, s2, s5, s9]
  exact ⟨tm6, (seqN (seqN e1 (condT f1_73 skipN)) (seqN (blkN (seqN (seqN e2 (blkE (loopC e3))) (seqN e4 (blkE (loopC e5))))) e6)), l6, f6_0, f6_2, f6_5, f6_9⟩

theorem end27k (or : Oracle) (n : Nat) (H : AHeap) (own : Nat → Nat) (vl vL : AVal) (avs : List AVal) (lc : Nat → List (List AVal)) (lav : List AVal) (hm : Marked H own vl vL avs (seven lc) lav (contF lc)) (hlav : lav.length = 17 * avs.length) (hi : avs.length ≤ 1000) (tm : List AVal) (len : tm.length = 128) (t0 : tm[0]? = some (vl)) (t2 : tm[2]? = some (abool false)) (t5 : tm[5]? = some (vL)) (t9 : tm[9]? = some (vi avs.length)) :
    ∃ tm', aCode or true n (fstC (fstC (sndC (fstC (sndC (sndC (sndC (sndC (a27.code))))))))) ⟨tm, H, []⟩ = some (.exit 8, ⟨tm', H, []⟩) ∧ tm'.length = 128 ∧ tm'[2]? = some (abool false) := by
  have lvl := hm.rdl.lenS
  rw [List.length_map] at lvl
  obtain ⟨tm1, e1, l1, f1_0, f1_2, f1_5, f1_9, f1_73⟩ : ∃ tm1 : List AVal, aCode or true n (fstC (fstC (fstC (fstC (sndC (fstC (sndC (sndC (sndC (sndC (a27.code))))))))))) ⟨tm, H, []⟩ = some (.normal, ⟨tm1, H, []⟩) ∧ tm1.length = 128 ∧ tm1[0]? = some (vl) ∧ tm1[2]? = some (abool false) ∧ tm1[5]? = some (vL) ∧ tm1[9]? = some (vi avs.length) ∧ tm1[73]? = some (abool false) := by
    refine ⟨?e1w, ?e1a, ?e1b0, ?e1b1, ?e1b2, ?e1b3, ?e1b4, ?e1b5⟩
    case e1a =>
      apply regN
      iterate 4 (apply stepN; · simp [-getElem?_pos, List.getElem?_set, len, t0, t9, lvl]; rfl)
      exact nilN (or := or)
    all_goals simp [-getElem?_pos, List.getElem?_set, len, t0, t2, t5, t9]
  exact ⟨tm1, (seqX (seqN e1 (condF f1_73 exitN)) (by simp)), l1, f1_2⟩

theorem loop27k (or : Oracle) (n : Nat) (H : AHeap) (own : Nat → Nat) (vl vL : AVal) (avs : List AVal) (lc : Nat → List (List AVal)) (lav : List AVal) (hm : Marked H own vl vL avs (seven lc) lav (contF lc)) (hlav : lav.length = 17 * avs.length) (hi : avs.length ≤ 1000) (hL : ∀ (i : Nat) a, avs[i]? = some a → (seven lc i).length ≤ 1000000000000000 ∧ (seven lc i).length + 70 < n) (hn : 70 < n) :
    ∀ (j i q : Nat) (tm : List AVal), i + j = avs.length → j < q → tm.length = 128 → tm[0]? = some (vl) → tm[2]? = some (abool false) → tm[5]? = some (vL) → tm[9]? = some (vi i) → ∃ tm', aLoop (aCode or true n (fstC (fstC (sndC (fstC (sndC (sndC (sndC (sndC (a27.code)))))))))) q ⟨tm, H, []⟩ = some (.exit 8, ⟨tm', H, []⟩) ∧ tm'.length = 128
  | 0, i, q + 1, tm, hj, _, len, t0, t2, t5, t9 => by
    have : i = avs.length := by omega
    subst this
    obtain ⟨tm', h1, h2, _⟩ := end27k or n H own vl vL avs lc lav hm hlav hi tm len t0 t2 t5 t9
    exact ⟨tm', by simp only [aLoop, h1], h2⟩
  | j + 1, i, q + 1, tm, hj, hq, len, t0, t2, t5, t9 => by
    have hx : avs[i]? = some avs[i] := List.getElem?_eq_getElem (by omega)
    obtain ⟨tm', h1, l, f0, f2, f5, f9⟩ := it27k or n H own vl vL avs lc lav i hm hlav hi hL hn _ hx tm len t0 t2 t5 t9
    obtain ⟨tm2, g1, g2⟩ := loop27k or n H own vl vL avs lc lav hm hlav hi hL hn j (i + 1) q tm' (by omega) (by omega) l f0 f2 f5 f9
    exact ⟨tm2, by simp only [aLoop, h1, g1], g2⟩

theorem a27_res : a27.res = [.tmp 2] := rfl
theorem seven_len (lc : Nat → List (List AVal)) (i : Nat) : (seven lc i).length = (lc i).length := by simp [seven]
theorem bound12 {a : Nat} (h : (a + 71) * 32 ≤ 140737488355328) : a ≤ 1000000000000000 :=
  Nat.le_trans (Nat.le_trans (Nat.le_add_right a 71) (Nat.le_mul_of_pos_right _ (by decide))) (Nat.le_trans h (by decide))

/-- apart: lists in rows of their own. -/
theorem c27 (n : Nat) (H : AHeap) (own : Nat → Nat) (vl : AVal) (avs : List AVal) (lc : Nat → List (List AVal)) (hm : Marked H own vl anil avs lc [] (fun _ => [])) (hL : ∀ (i : Nat) a, avs[i]? = some a → ((lc i).length + 71) * 32 ≤ 140737488355328) (hi : avs.length ≤ 1000)
    (hn : ∀ (i : Nat) a, avs[i]? = some a → (lc i).length + 70 < n) (hn70 : 70 < n) (hna : avs.length < n) : ∃ H', callM kn env (n + 1) (.func (.func 27) []) [vl] H = some (abool true, H') := by
  rw [opnM (af := a27) rfl n _ _ _ rfl]
  generalize callM kn env n = or
  have lp1 := loop27b or n own vl avs lc (fun _ => []) hL hi (fun i a ha => by have := hn i a ha; omega)
  have lp2 := loop27e or n vl avs lc hL hi hn70
  have len : (initTm a27 [vl]).length = 128 := rfl
  have t0 : (initTm a27 [vl])[0]? = some vl := rfl
  show ∃ H', endF a27.res (aCode or true n a27.code ⟨initTm a27 [vl], H, []⟩) = _
  generalize initTm a27 [vl] = tm at len t0
  obtain ⟨tm1, e1, l1, f1_0, f1_2⟩ : ∃ tm1 : List AVal, aCode or true n (fstC (a27.code)) ⟨tm, H, []⟩ = some (.normal, ⟨tm1, H, []⟩) ∧ tm1.length = 128 ∧ tm1[0]? = some (vl) ∧ tm1[2]? = some (abool false) := by
    refine ⟨?e1w, ?e1a, ?e1b0, ?e1b1, ?e1b2⟩
    case e1a =>
      apply regN
      iterate 1 (apply stepN; · simp [-getElem?_pos, List.getElem?_set, len]; rfl)
      exact nilN (or := or)
    all_goals simp [-getElem?_pos, List.getElem?_set, len, t0]
  obtain ⟨tm2, e2, l2, f2_0, f2_2, f2_3⟩ : ∃ tm2 : List AVal, aCode or true n (fstC (fstC (sndC (a27.code)))) ⟨tm1, H, []⟩ = some (.normal, ⟨tm2, H, []⟩) ∧ tm2.length = 128 ∧ tm2[0]? = some (vl) ∧ tm2[2]? = some (abool false) ∧ tm2[3]? = some (vi 0) := by
    refine ⟨?e2w, ?e2a, ?e2b0, ?e2b1, ?e2b2, ?e2b3⟩
    case e2a =>
      apply regN
      iterate 1 (apply stepN; · simp [-getElem?_pos, List.getElem?_set, l1]; rfl)
      exact nilN (or := or)
    all_goals simp [-getElem?_pos, List.getElem?_set, l1, f1_0, f1_2]
  obtain ⟨H1, tm3, e3, ⟨l3, q0, q2⟩, hm1⟩ := lp1 avs.length 0 n H tm2 (by omega) (by omega) (by rw [upTo_zero]; exact hm) l2 f2_0 f2_2 f2_3
  have hm2 : Marked H1 own vl anil avs (seven lc) [] (contF lc) := hm1.congr fun j a ha => upTo_all lc _ j (List.getElem?_eq_some_iff.1 ha).1
  obtain ⟨tm4, e4, l4, f4_0, f4_2, f4_5⟩ : ∃ tm4 : List AVal, aCode or true n (fstC (sndC (sndC (a27.code)))) ⟨tm3, H1, []⟩ = some (.normal, ⟨tm4, H1, []⟩) ∧ tm4.length = 128 ∧ tm4[0]? = some (vl) ∧ tm4[2]? = some (abool false) ∧ tm4[5]? = some (anil) := by
    refine ⟨?e4w, ?e4a, ?e4b0, ?e4b1, ?e4b2, ?e4b3⟩
    case e4a =>
      apply regN
      iterate 1 (apply stepN; · simp [-getElem?_pos, List.getElem?_set, l3]; rfl)
      exact nilN (or := or)
    all_goals simp [-getElem?_pos, List.getElem?_set, l3, q0, q2]
  obtain ⟨tm5, e5, l5, f5_0, f5_2, f5_5, f5_6⟩ : ∃ tm5 : List AVal, aCode or true n (fstC (fstC (sndC (sndC (sndC (a27.code)))))) ⟨tm4, H1, []⟩ = some (.normal, ⟨tm5, H1, []⟩) ∧ tm5.length = 128 ∧ tm5[0]? = some (vl) ∧ tm5[2]? = some (abool false) ∧ tm5[5]? = some (anil) ∧ tm5[6]? = some (vi 0) := by
    refine ⟨?e5w, ?e5a, ?e5b0, ?e5b1, ?e5b2, ?e5b3, ?e5b4⟩
    case e5a =>
      apply regN
      iterate 1 (apply stepN; · simp [-getElem?_pos, List.getElem?_set, l4]; rfl)
      exact nilN (or := or)
    all_goals simp [-getElem?_pos, List.getElem?_set, l4, f4_0, f4_2, f4_5]
  obtain ⟨H2, own2, vL2, lav2, tm6, e6, ⟨l6, s0, s2, s5⟩, hm3, n3⟩ := lp2 avs.length 0 n H1 own anil [] tm5 (by omega) (by omega) hm2 rfl l5 f5_0 f5_2 f5_5 f5_6
  obtain ⟨tm7, e7, l7, f7_0, f7_2, f7_5, f7_9⟩ : ∃ tm7 : List AVal, aCode or true n (fstC (fstC (sndC (sndC (sndC (sndC (a27.code))))))) ⟨tm6, H2, []⟩ = some (.normal, ⟨tm7, H2, []⟩) ∧ tm7.length = 128 ∧ tm7[0]? = some (vl) ∧ tm7[2]? = some (abool false) ∧ tm7[5]? = some (vL2) ∧ tm7[9]? = some (vi 0) := by
    refine ⟨?e7w, ?e7a, ?e7b0, ?e7b1, ?e7b2, ?e7b3, ?e7b4⟩
    case e7a =>
      apply regN
      iterate 1 (apply stepN; · simp [-getElem?_pos, List.getElem?_set, l6]; rfl)
      exact nilN (or := or)
    all_goals simp [-getElem?_pos, List.getElem?_set, l6, s0, s2, s5]
  obtain ⟨tm8, e8, l8⟩ := loop27k or n H2 own2 vl vL2 avs lc lav2 hm3 n3 hi (fun i a ha => by rw [seven_len]; exact ⟨bound12 (hL i a ha), by have := hn i a ha; omega⟩) hn70 avs.length 0 n tm7 (by omega) (by omega) l7 f7_0 f7_2 f7_5 f7_9
  obtain ⟨tm9, e9, l9, f9_2⟩ : ∃ tm9 : List AVal, aCode or true n (fstC (sndC (sndC (sndC (sndC (sndC (a27.code))))))) ⟨tm8, H2, []⟩ = some (.normal, ⟨tm9, H2, []⟩) ∧ tm9.length = 128 ∧ tm9[2]? = some (abool true) := by
    refine ⟨?e9w, ?e9a, ?e9b0, ?e9b1⟩
    case e9a =>
      apply regN
      iterate 1 (apply stepN; · simp [-getElem?_pos, List.getElem?_set, l8]; rfl)
      exact nilN (or := or)
    all_goals simp [-getElem?_pos, List.getElem?_set, l8]
  exact ⟨H2, endN (es := (.ret, ⟨tm9, H2, []⟩)) (seqN e1 (seqN (seqN e2 (blkE (loopC e3))) (seqN e4 (seqN (seqN e5 (blkE (loopC e6))) (seqN (seqN e7 (blkE (loopC e8))) (seqN e9 retN)))))) (by simp [-getElem?_pos, endF, leaveN, a27_res, f9_2])⟩

end Go.Proofs.Ythbjfkkjmecaaaa
