/- Walks: Alone, its look at all lists of operations. -/
import Derived.Test.YthbjfkkjmecaaaaAloneC
namespace Go.Proofs.Ythbjfkkjmecaaaa
open Go Go.Vm

set_option linter.unusedVariables false
set_option linter.unusedSimpArgs false
attribute [local simp] aStep awanted aOp ev aRess aRes1 tup aBin aUn aArith ASt.put ile_eq ilt_eq ieq_eq aPart List.getElem?_cons_zero

theorem it39o (or : Oracle) (n : Nat) (b : Int) (H : AHeap) (vt : AVal) (avs : List AVal) (txs : List (List OpD)) (ht : TxsAt H vt avs txs) (i : Nat) (va : AVal) (t : List OpD) (hva : avs[i]? = some va) (hti : txs[i]? = some t) (hn : t.length < n) (hg : ∀ o ∈ t, ¬ o.bad b) (tm : List AVal) (len : tm.length = 90) (t0 : tm[0]? = some (vi b)) (t1 : tm[1]? = some (vt)) (t4 : tm[4]? = some (anil)) (t20 : tm[20]? = some (vt)) (t21 : tm[21]? = some (vi txs.length)) (t22 : tm[22]? = some (vi i)) :
    ∃ H' tm', aCode or true n (fstC (fstC (sndC (fstC (sndC (sndC (a39.code))))))) ⟨tm, H, []⟩ = some (.normal, ⟨tm', H', []⟩) ∧ tm'.length = 90 ∧ tm'[0]? = some (vi b) ∧ tm'[1]? = some (vt) ∧ tm'[4]? = some (anil) ∧ tm'[20]? = some (vt) ∧ tm'[21]? = some (vi txs.length) ∧ tm'[22]? = some (vi ((i : Int) + 1)) ∧ Grow H H' := by
  have hi := (List.getElem?_eq_some_iff.1 hti).1
  have hi' : (i : Int) < txs.length := by omega
  have hfew := ht.few
  have w : wrapF .i64 ((i : Int) + 1) = ((i : Int) + 1) := wrapI (by omega) (by omega)
  obtain ⟨ra, hlies⟩ := ht.at_ i va t hva hti
  have la := ra.lenS
  rw [List.length_map] at la
  have hsm := ht.small t (List.mem_of_getElem? hti)
  have hok := ht.ok t (List.mem_of_getElem? hti)
  have hlen := ht.len
  have hrd := ht.rd
  have hi2 : i < avs.length := by omega
  have key : ∃ R ver off kc ex cells, vt = .slice R ver off avs.length kc ex 1 ∧ H.rowAt R ver = some cells ∧ off + i + 1 ≤ cells.length ∧ cells[off + i]? = some va := by
    obtain ⟨R, ver, off, kc, ex, cells, e1, a2, a3, a4⟩ := hrd.at (i := i) (e := [va]) (by simp [hva])
    rw [List.length_map] at e1
    refine ⟨R, ver, off, kc, ex, cells, e1, a2, by omega, ?_⟩
    have := part_at a4 (j := 0) (by omega)
    simpa using this
  obtain ⟨R, ver, off, kc, ex, cells, hvt1, a2, a3, a4⟩ := key
  obtain ⟨tm1, e1, l1, f1_0, f1_1, f1_4, f1_20, f1_21, f1_22, f1_23⟩ : ∃ tm1 : List AVal, aCode or true n (fstC (fstC (fstC (sndC (fstC (sndC (sndC (a39.code)))))))) ⟨tm, H, []⟩ = some (.normal, ⟨tm1, H, []⟩) ∧ tm1.length = 90 ∧ tm1[0]? = some (vi b) ∧ tm1[1]? = some (vt) ∧ tm1[4]? = some (anil) ∧ tm1[20]? = some (vt) ∧ tm1[21]? = some (vi txs.length) ∧ tm1[22]? = some (vi i) ∧ tm1[23]? = some (abool true) := by
    refine ⟨?e1w, ?e1a, ?e1b0, ?e1b1, ?e1b2, ?e1b3, ?e1b4, ?e1b5, ?e1b6, ?e1b7⟩
    case e1a =>
      apply regN
      iterate 1 (apply stepN; · simp [-getElem?_pos, List.getElem?_set, len, t21, t22, hi']; rfl)
      exact nilN (or := or)
    all_goals simp [-getElem?_pos, List.getElem?_set, len, t0, t1, t4, t20, t21, t22]
  obtain ⟨tm2, e2, l2, f2_0, f2_1, f2_4, f2_8, f2_20, f2_21, f2_22, f2_23⟩ : ∃ tm2 : List AVal, aCode or true n (fstC (fstC (fstC (sndC (sndC (fstC (fstC (sndC (fstC (sndC (sndC (a39.code)))))))))))) ⟨tm1, H, []⟩ = some (.normal, ⟨tm2, H, []⟩) ∧ tm2.length = 90 ∧ tm2[0]? = some (vi b) ∧ tm2[1]? = some (vt) ∧ tm2[4]? = some (anil) ∧ tm2[8]? = some (va) ∧ tm2[20]? = some (vt) ∧ tm2[21]? = some (vi txs.length) ∧ tm2[22]? = some (vi i) ∧ tm2[23]? = some (abool true) := by
    refine ⟨?e2w, ?e2a, ?e2b0, ?e2b1, ?e2b2, ?e2b3, ?e2b4, ?e2b5, ?e2b6, ?e2b7, ?e2b8⟩
    case e2a =>
      apply regN
      iterate 3 (apply stepN; · simp [-getElem?_pos, List.getElem?_set, l1, f1_20, f1_22, hvt1, hi2, a2, a3, a4]; rfl)
      exact nilN (or := or)
    all_goals simp [-getElem?_pos, List.getElem?_set, l1, f1_0, f1_1, f1_4, f1_20, f1_21, f1_22, f1_23]
  obtain ⟨tm3, e3, l3, f3_0, f3_1, f3_4, f3_8, f3_20, f3_21, f3_22, f3_23, f3_26, f3_27, f3_28⟩ : ∃ tm3 : List AVal, aCode or true n (fstC (sndC (fstC (fstC (sndC (sndC (fstC (fstC (sndC (fstC (sndC (sndC (a39.code))))))))))))) ⟨tm2, H, []⟩ = some (.normal, ⟨tm3, H, []⟩) ∧ tm3.length = 90 ∧ tm3[0]? = some (vi b) ∧ tm3[1]? = some (vt) ∧ tm3[4]? = some (anil) ∧ tm3[8]? = some (va) ∧ tm3[20]? = some (vt) ∧ tm3[21]? = some (vi txs.length) ∧ tm3[22]? = some (vi i) ∧ tm3[23]? = some (abool true) ∧ tm3[26]? = some (va) ∧ tm3[27]? = some (vi t.length) ∧ tm3[28]? = some (vi 0) := by
    refine ⟨?e3w, ?e3a, ?e3b0, ?e3b1, ?e3b2, ?e3b3, ?e3b4, ?e3b5, ?e3b6, ?e3b7, ?e3b8, ?e3b9, ?e3b10, ?e3b11⟩
    case e3a =>
      apply regN
      iterate 3 (apply stepN; · simp [-getElem?_pos, List.getElem?_set, l2, f2_8, la]; rfl)
      exact nilN (or := or)
    all_goals simp [-getElem?_pos, List.getElem?_set, l2, f2_0, f2_1, f2_4, f2_8, f2_20, f2_21, f2_22, f2_23]
  obtain ⟨H2, tm4, g2, e4, l4, q0, q1, q4, q20, q21, q22⟩ : ∃ H2 tmk, Grow H H2 ∧ aLoop (aCode or true n (fstC (fstC (sndC (sndC (fstC (fstC (sndC (sndC (fstC (fstC (sndC (fstC (sndC (sndC (a39.code)))))))))))))))) n ⟨tm3, H, []⟩ = some (.exit 2, ⟨tmk, H2, []⟩) ∧ tmk.length = 90 ∧ tmk[0]? = some (vi b) ∧ tmk[1]? = some vt ∧ tmk[4]? = some anil ∧ tmk[20]? = some vt ∧ tmk[21]? = some (vi txs.length) ∧ tmk[22]? = some (vi i) := by
    obtain ⟨H2, tm2, g2, r⟩ := loop39 or n b va vt t txs.length i hsm hok t.length 0 n H tm3 (by omega) hn ra hlies l3 f3_0 f3_1 f3_4 f3_20 f3_21 f3_22 f3_26 f3_27 f3_28
    rcases r with ⟨r1, _, r3⟩ | ⟨_, ⟨o, r2, r2'⟩, _⟩
    · exact ⟨H2, tm2, g2, r1, r3⟩
    · exact absurd r2' (hg o (List.mem_of_mem_drop r2))
  obtain ⟨tm5, e5, l5, f5_0, f5_1, f5_4, f5_20, f5_21, f5_22⟩ : ∃ tm5 : List AVal, aCode or true n (sndC (sndC (sndC (fstC (fstC (sndC (fstC (sndC (sndC (a39.code)))))))))) ⟨tm4, H2, []⟩ = some (.normal, ⟨tm5, H2, []⟩) ∧ tm5.length = 90 ∧ tm5[0]? = some (vi b) ∧ tm5[1]? = some (vt) ∧ tm5[4]? = some (anil) ∧ tm5[20]? = some (vt) ∧ tm5[21]? = some (vi txs.length) ∧ tm5[22]? = some (vi ((i : Int) + 1)) := by
    refine ⟨?e5w, ?e5a, ?e5b0, ?e5b1, ?e5b2, ?e5b3, ?e5b4, ?e5b5, ?e5b6⟩
    case e5a =>
      apply regN
      iterate 2 (apply stepN; · simp [-getElem?_pos, List.getElem?_set, l4, q22, w]; rfl)
      exact nilN (or := or)
    all_goals simp [-getElem?_pos, List.getElem?_set, l4, q0, q1, q4, q20, q21, q22]
  exact ⟨H2, tm5, (seqN e1 (seqN (condT f1_23 skipN) (seqN (blkN (seqN e2 (seqN e3 (blkE (loopC e4))))) e5))), l5, f5_0, f5_1, f5_4, f5_20, f5_21, f5_22, g2⟩

theorem it39p (or : Oracle) (n : Nat) (b : Int) (H : AHeap) (vt : AVal) (avs : List AVal) (txs : List (List OpD)) (ht : TxsAt H vt avs txs) (i : Nat) (va : AVal) (t : List OpD) (hva : avs[i]? = some va) (hti : txs[i]? = some t) (hn : t.length < n) (hg : ∃ o ∈ t, o.bad b) (tm : List AVal) (len : tm.length = 90) (t0 : tm[0]? = some (vi b)) (t1 : tm[1]? = some (vt)) (t4 : tm[4]? = some (anil)) (t20 : tm[20]? = some (vt)) (t21 : tm[21]? = some (vi txs.length)) (t22 : tm[22]? = some (vi i)) :
    ∃ H' tm', aCode or true n (fstC (fstC (sndC (fstC (sndC (sndC (a39.code))))))) ⟨tm, H, []⟩ = some (.ret, ⟨tm', H', []⟩) ∧ tm'.length = 90 ∧ tm'[4]? = some (anil) ∧ tm'[5]? = some (anil) ∧ tm'[6]? = some (vi 2) ∧ Grow H H' := by
  have hi := (List.getElem?_eq_some_iff.1 hti).1
  have hi' : (i : Int) < txs.length := by omega
  have hfew := ht.few
  have w : wrapF .i64 ((i : Int) + 1) = ((i : Int) + 1) := wrapI (by omega) (by omega)
  obtain ⟨ra, hlies⟩ := ht.at_ i va t hva hti
  have la := ra.lenS
  rw [List.length_map] at la
  have hsm := ht.small t (List.mem_of_getElem? hti)
  have hok := ht.ok t (List.mem_of_getElem? hti)
  have hlen := ht.len
  have hrd := ht.rd
  have hi2 : i < avs.length := by omega
  have key : ∃ R ver off kc ex cells, vt = .slice R ver off avs.length kc ex 1 ∧ H.rowAt R ver = some cells ∧ off + i + 1 ≤ cells.length ∧ cells[off + i]? = some va := by
    obtain ⟨R, ver, off, kc, ex, cells, e1, a2, a3, a4⟩ := hrd.at (i := i) (e := [va]) (by simp [hva])
    rw [List.length_map] at e1
    refine ⟨R, ver, off, kc, ex, cells, e1, a2, by omega, ?_⟩
    have := part_at a4 (j := 0) (by omega)
    simpa using this
  obtain ⟨R, ver, off, kc, ex, cells, hvt1, a2, a3, a4⟩ := key
  obtain ⟨tm1, e1, l1, f1_0, f1_1, f1_4, f1_20, f1_21, f1_22, f1_23⟩ : ∃ tm1 : List AVal, aCode or true n (fstC (fstC (fstC (sndC (fstC (sndC (sndC (a39.code)))))))) ⟨tm, H, []⟩ = some (.normal, ⟨tm1, H, []⟩) ∧ tm1.length = 90 ∧ tm1[0]? = some (vi b) ∧ tm1[1]? = some (vt) ∧ tm1[4]? = some (anil) ∧ tm1[20]? = some (vt) ∧ tm1[21]? = some (vi txs.length) ∧ tm1[22]? = some (vi i) ∧ tm1[23]? = some (abool true) := by
    refine ⟨?e1w, ?e1a, ?e1b0, ?e1b1, ?e1b2, ?e1b3, ?e1b4, ?e1b5, ?e1b6, ?e1b7⟩
    case e1a =>
      apply regN
      iterate 1 (apply stepN; · simp [-getElem?_pos, List.getElem?_set, len, t21, t22, hi']; rfl)
      exact nilN (or := or)
    all_goals simp [-getElem?_pos, List.getElem?_set, len, t0, t1, t4, t20, t21, t22]
  obtain ⟨tm2, e2, l2, f2_0, f2_1, f2_4, f2_8, f2_20, f2_21, f2_22, f2_23⟩ : ∃ tm2 : List AVal, aCode or true n (fstC (fstC (fstC (sndC (sndC (fstC (fstC (sndC (fstC (sndC (sndC (a39.code)))))))))))) ⟨tm1, H, []⟩ = some (.normal, ⟨tm2, H, []⟩) ∧ tm2.length = 90 ∧ tm2[0]? = some (vi b) ∧ tm2[1]? = some (vt) ∧ tm2[4]? = some (anil) ∧ tm2[8]? = some (va) ∧ tm2[20]? = some (vt) ∧ tm2[21]? = some (vi txs.length) ∧ tm2[22]? = some (vi i) ∧ tm2[23]? = some (abool true) := by
    refine ⟨?e2w, ?e2a, ?e2b0, ?e2b1, ?e2b2, ?e2b3, ?e2b4, ?e2b5, ?e2b6, ?e2b7, ?e2b8⟩
    case e2a =>
      apply regN
      iterate 3 (apply stepN; · simp [-getElem?_pos, List.getElem?_set, l1, f1_20, f1_22, hvt1, hi2, a2, a3, a4]; rfl)
      exact nilN (or := or)
    all_goals simp [-getElem?_pos, List.getElem?_set, l1, f1_0, f1_1, f1_4, f1_20, f1_21, f1_22, f1_23]
  obtain ⟨tm3, e3, l3, f3_0, f3_1, f3_4, f3_8, f3_20, f3_21, f3_22, f3_23, f3_26, f3_27, f3_28⟩ : ∃ tm3 : List AVal, aCode or true n (fstC (sndC (fstC (fstC (sndC (sndC (fstC (fstC (sndC (fstC (sndC (sndC (a39.code))))))))))))) ⟨tm2, H, []⟩ = some (.normal, ⟨tm3, H, []⟩) ∧ tm3.length = 90 ∧ tm3[0]? = some (vi b) ∧ tm3[1]? = some (vt) ∧ tm3[4]? = some (anil) ∧ tm3[8]? = some (va) ∧ tm3[20]? = some (vt) ∧ tm3[21]? = some (vi txs.length) ∧ tm3[22]? = some (vi i) ∧ tm3[23]? = some (abool true) ∧ tm3[26]? = some (va) ∧ tm3[27]? = some (vi t.length) ∧ tm3[28]? = some (vi 0) := by
    refine ⟨?e3w, ?e3a, ?e3b0, ?e3b1, ?e3b2, ?e3b3, ?e3b4, ?e3b5, ?e3b6, ?e3b7, ?e3b8, ?e3b9, ?e3b10, ?e3b11⟩
    case e3a =>
      apply regN
      iterate 3 (apply stepN; · simp [-getElem?_pos, List.getElem?_set, l2, f2_8, la]; rfl)
      exact nilN (or := or)
    all_goals simp [-getElem?_pos, List.getElem?_set, l2, f2_0, f2_1, f2_4, f2_8, f2_20, f2_21, f2_22, f2_23]
  obtain ⟨H2, tm4, g2, e4, l4, q4, q5, q6⟩ : ∃ H2 tmk, Grow H H2 ∧ aLoop (aCode or true n (fstC (fstC (sndC (sndC (fstC (fstC (sndC (sndC (fstC (fstC (sndC (fstC (sndC (sndC (a39.code)))))))))))))))) n ⟨tm3, H, []⟩ = some (.ret, ⟨tmk, H2, []⟩) ∧ tmk.length = 90 ∧ tmk[4]? = some anil ∧ tmk[5]? = some anil ∧ tmk[6]? = some (vi 2) := by
    obtain ⟨H2, tm2, g2, r⟩ := loop39 or n b va vt t txs.length i hsm hok t.length 0 n H tm3 (by omega) hn ra hlies l3 f3_0 f3_1 f3_4 f3_20 f3_21 f3_22 f3_26 f3_27 f3_28
    rcases r with ⟨_, r2, _⟩ | ⟨r1, _, r3⟩
    · obtain ⟨o, ho, hb⟩ := hg
      exact absurd hb (r2 o (by simpa using ho))
    · exact ⟨H2, tm2, g2, r1, r3⟩
  exact ⟨H2, tm4, (seqN e1 (seqN (condT f1_23 skipN) (seqX (blkR (seqN e2 (seqN e3 (blkR (loopC e4))))) (by simp)))), l4, q4, q5, q6, g2⟩

theorem end39o (or : Oracle) (n : Nat) (b : Int) (H : AHeap) (vt : AVal) (txs : List (List OpD)) (tm : List AVal) (len : tm.length = 90) (t0 : tm[0]? = some (vi b)) (t1 : tm[1]? = some (vt)) (t4 : tm[4]? = some (anil)) (t20 : tm[20]? = some (vt)) (t21 : tm[21]? = some (vi txs.length)) (t22 : tm[22]? = some (vi txs.length)) :
    ∃ tm', aCode or true n (fstC (fstC (sndC (fstC (sndC (sndC (a39.code))))))) ⟨tm, H, []⟩ = some (.exit 0, ⟨tm', H, []⟩) ∧ tm'.length = 90 ∧ tm'[0]? = some (vi b) ∧ tm'[1]? = some (vt) ∧ tm'[4]? = some (anil) := by
  obtain ⟨tm1, e1, l1, f1_0, f1_1, f1_4, f1_20, f1_21, f1_22, f1_23⟩ : ∃ tm1 : List AVal, aCode or true n (fstC (fstC (fstC (sndC (fstC (sndC (sndC (a39.code)))))))) ⟨tm, H, []⟩ = some (.normal, ⟨tm1, H, []⟩) ∧ tm1.length = 90 ∧ tm1[0]? = some (vi b) ∧ tm1[1]? = some (vt) ∧ tm1[4]? = some (anil) ∧ tm1[20]? = some (vt) ∧ tm1[21]? = some (vi txs.length) ∧ tm1[22]? = some (vi txs.length) ∧ tm1[23]? = some (abool false) := by
    refine ⟨?e1w, ?e1a, ?e1b0, ?e1b1, ?e1b2, ?e1b3, ?e1b4, ?e1b5, ?e1b6, ?e1b7⟩
    case e1a =>
      apply regN
      iterate 1 (apply stepN; · simp [-getElem?_pos, List.getElem?_set, len, t21, t22]; rfl)
      exact nilN (or := or)
    all_goals simp [-getElem?_pos, List.getElem?_set, len, t0, t1, t4, t20, t21, t22]
  exact ⟨tm1, (seqN e1 (seqX (condF f1_23 exitN) (by simp))), l1, f1_0, f1_1, f1_4⟩

theorem loop39o (or : Oracle) (n : Nat) (b : Int) (vt : AVal) (avs : List AVal) (txs : List (List OpD)) (hn : ∀ t ∈ txs, t.length < n) :
    ∀ (j i m : Nat) (H : AHeap) (tm : List AVal), i + j = txs.length → j < m → TxsAt H vt avs txs → tm.length = 90 → tm[0]? = some (vi b) → tm[1]? = some (vt) → tm[4]? = some (anil) → tm[20]? = some (vt) → tm[21]? = some (vi txs.length) → tm[22]? = some (vi i) →
      ∃ H' tm', Grow H H' ∧ ((aLoop (aCode or true n (fstC (fstC (sndC (fstC (sndC (sndC (a39.code)))))))) m ⟨tm, H, []⟩ = some (.exit 0, ⟨tm', H', []⟩) ∧ (∀ t ∈ txs.drop i, ∀ o ∈ t, ¬ o.bad b) ∧ (tm'.length = 90 ∧ tm'[0]? = some (vi b) ∧ tm'[1]? = some vt ∧ tm'[4]? = some anil)) ∨
        (aLoop (aCode or true n (fstC (fstC (sndC (fstC (sndC (sndC (a39.code)))))))) m ⟨tm, H, []⟩ = some (.ret, ⟨tm', H', []⟩) ∧ (∃ t ∈ txs.drop i, ∃ o ∈ t, o.bad b) ∧ (tm'.length = 90 ∧ tm'[4]? = some anil ∧ tm'[5]? = some anil ∧ tm'[6]? = some (vi 2))))
  | 0, i, m + 1, H, tm, hj, _, ht, len, t0, t1, t4, t20, t21, t22 => by
    have : i = txs.length := by omega
    subst this
    obtain ⟨tm', h1, h2⟩ := end39o or n b H vt txs tm len t0 t1 t4 t20 t21 t22
    exact ⟨H, tm', Grow.refl H, .inl ⟨by simp only [aLoop, h1], by simp, h2⟩⟩
  | j + 1, i, m + 1, H, tm, hj, hm, ht, len, t0, t1, t4, t20, t21, t22 => by
    have hx : txs[i]? = some txs[i] := List.getElem?_eq_getElem (by omega)
    have hlen := ht.len
    have hy : avs[i]? = some avs[i] := List.getElem?_eq_getElem (by omega)
    have hd : txs.drop i = txs[i] :: txs.drop (i + 1) := List.drop_eq_getElem_cons (by omega)
    by_cases hbad : ∃ o ∈ txs[i], o.bad b
    · obtain ⟨H', tm', h1, h2, h3, h4, h5, g⟩ := it39p or n b H vt avs txs ht i _ _ hy hx (hn _ (List.getElem_mem _)) hbad tm len t0 t1 t4 t20 t21 t22
      exact ⟨H', tm', g, .inr ⟨by simp only [aLoop, h1], ⟨txs[i], by rw [hd]; exact List.mem_cons_self .., hbad⟩, h2, h3, h4, h5⟩⟩
    · have hgood : ∀ o ∈ txs[i], ¬ o.bad b := fun o ho hb => hbad ⟨o, ho, hb⟩
      obtain ⟨H', tm', h1, l, f0, f1, f4, f20, f21, f22, g⟩ := it39o or n b H vt avs txs ht i _ _ hy hx (hn _ (List.getElem_mem _)) hgood tm len t0 t1 t4 t20 t21 t22
      obtain ⟨H2, tm2, g2, r⟩ := loop39o or n b vt avs txs hn j (i + 1) m H' tm' (by omega) (by omega) (ht.grow g) l f0 f1 f4 f20 f21 f22
      refine ⟨H2, tm2, g.trans g2, ?_⟩
      rcases r with ⟨r1, r2, r3⟩ | ⟨r1, ⟨t, r2, r2'⟩, r3⟩
      · refine .inl ⟨by simp only [aLoop, h1, r1], fun t ht' => ?_, r3⟩
        rw [hd] at ht'
        rcases List.mem_cons.1 ht' with rfl | h
        · exact hgood
        · exact r2 t h
      · exact .inr ⟨by simp only [aLoop, h1, r1], ⟨t, by rw [hd]; exact List.mem_cons_of_mem _ r2, r2'⟩, r3⟩

end Go.Proofs.Ythbjfkkjmecaaaa
