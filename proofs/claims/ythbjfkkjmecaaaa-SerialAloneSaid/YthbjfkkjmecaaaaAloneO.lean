/- Walks: SerialAlone, the two passes. -/
import Derived.Test.YthbjfkkjmecaaaaAloneN
namespace Go.Proofs.Ythbjfkkjmecaaaa
open Go Go.Vm

set_option linter.unusedVariables false
set_option linter.unusedSimpArgs false
attribute [local simp] aStep awanted aOp ev aRess aRes1 tup aBin aUn aArith ASt.put ile_eq ilt_eq ieq_eq aPart List.getElem?_cons_zero

/-- More lists, told. -/
theorem ToldAt.addAll {H : AHeap} {base : Nat} {v y : AVal} {al avs : List AVal} {lcs vs : List (List (List AVal))} (h : ToldAt H base v al lcs) (hb : base ≤ H.next) (hy : RdE H 1 y (avs.map fun a => [a])) (hlen : avs.length = vs.length) (hat : ∀ (i : Nat) a l, avs[i]? = some a → vs[i]? = some l → SliceE H base 32 a l)
    (hap : ∀ (i j : Nat) a a', i < j → avs[i]? = some a → avs[j]? = some a' → a.lies fun R => a'.lies fun R' => R ≠ R') (hx : ∀ (i j : Nat) a a', al[i]? = some a → avs[j]? = some a' → a.lies fun R => a'.lies fun R' => R ≠ R') (hv : ∀ (j : Nat) a, avs[j]? = some a → v.lies fun R => a.lies fun R' => R ≠ R')
    (hsz : (al.length + avs.length) * 24 ≤ 140737488355328) :
    ∃ v' H', aAppend H 1 24 v y = some (v', H') ∧ ToldAt H' base v' (al ++ avs) (lcs ++ vs) ∧ H.next ≤ H'.next ∧ (∀ p : Nat → Prop, v.lies p → (∀ R, H.next ≤ R → p R) → v'.lies p) ∧ (∀ A, A < H.next → (v.lies fun R => R ≠ A) → H'.get A = H.get A) := by
  have hone : ∀ e ∈ avs.map fun a => [a], e.all AVal.one = true := fun e he => by
    obtain ⟨a, ha, rfl⟩ := List.mem_map.1 he
    obtain ⟨i, hi⟩ := List.mem_iff_getElem?.1 ha
    have hi2 : i < vs.length := by rw [← hlen]; exact (List.getElem?_eq_some_iff.1 hi).1
    simp [(hat i a _ hi (List.getElem?_eq_getElem hi2)).rd.one]
  obtain ⟨v', H', e1, e2, e3, e4, e5⟩ := h.rd.appendAll (bytes := 24) hb hy (by omega) (by omega) hone (by simpa using hsz)
  have all : ∀ (i : Nat) a l, (al ++ avs)[i]? = some a → (lcs ++ vs)[i]? = some l → SliceE H base 32 a l ∧ v.lies fun R => a.lies fun R' => R ≠ R' := fun i a l ha hl => by
    by_cases hlt : i < al.length
    · rw [List.getElem?_append_left hlt] at ha
      rw [List.getElem?_append_left (by rw [← h.len]; exact hlt)] at hl
      exact ⟨h.at_ i a l ha hl, h.own i a ha⟩
    · rw [List.getElem?_append_right (by omega)] at ha
      rw [List.getElem?_append_right (by rw [← h.len]; omega), ← h.len] at hl
      exact ⟨hat _ a l ha hl, hv _ a ha⟩
  refine ⟨v', H', e1, ⟨by simpa using e2, by simp [h.len, hlen], fun i a l ha hl => ?_, fun i j a a' hij ha ha' => ?_, fun i a ha => ?_⟩, e3, e4, e5⟩
  · obtain ⟨c1, c2⟩ := all i a l ha hl
    rcases c1 with ⟨h0, hw | ⟨R, ver, vs', q1, q2, q3, q4, q5⟩⟩
    · exact ⟨h0, .inl hw⟩
    · exact ⟨h0, .inr ⟨R, ver, vs', q1, by omega, q3, by rw [e5 R q2 fun R1 a1 a2 a3 a4 a5 a6 q => (c2 R1 a1 a2 a3 a4 a5 a6 q) R ver 0 _ _ _ _ q3]; exact q4, q5⟩⟩
  · by_cases h1 : i < al.length
    · rw [List.getElem?_append_left h1] at ha
      by_cases h2 : j < al.length
      · rw [List.getElem?_append_left h2] at ha'
        exact h.apart i j a a' hij ha ha'
      · rw [List.getElem?_append_right (by omega)] at ha'
        exact hx i _ a a' ha ha'
    · rw [List.getElem?_append_right (by omega)] at ha
      rw [List.getElem?_append_right (by omega)] at ha'
      exact hap _ _ a a' (by omega) ha ha'
  · have hi := (List.getElem?_eq_some_iff.1 ha).1
    have hi2 : i < (lcs ++ vs).length := by rw [List.length_append, ← h.len, ← hlen, ← List.length_append]; exact hi
    obtain ⟨c1, c2⟩ := all i a _ ha (List.getElem?_eq_getElem hi2)
    exact e4 _ c2 fun R hR R' b1 b2 b3 b4 b5 b6 q => by
      have := (c1.lies R' b1 b2 b3 b4 b5 b6 q).2
      omega

theorem beq_self {H : AHeap} {esz : Nat} {v : AVal} {es : List (List AVal)} (h : RdE H esz v es) : AVal.beq v v = true := by
  rcases h with ⟨_, ⟨rfl, _⟩ | ⟨R, ver, off, kcap, ex, cells, rfl, _⟩⟩
  · rfl
  · simp [AVal.beq]

theorem it8c (or : Oracle) (n : Nat) (b f : Int) (p j : Nat) (v5 v6 v8a v10 v12 v13 vt : AVal) (H : AHeap) (avs avw : List AVal) (vs : List (List (List AVal))) (r12 : RdE H 1 v12 (avs.map fun a => [a])) (r5 : RdE H 1 v5 (avw.map fun a => [a])) (hl1 : avs.length = vs.length) (hl2 : avw.length = vs.length) (hfew : vs.length ≤ 40) (a aw : AVal) (ha : avs[j]? = some a) (hw : avw[j]? = some aw) (h22 : or (.func (.func 22) []) [a, aw] H = some (abool true, H)) (q1 : AVal.beq a a = true) (q2 : AVal.beq aw aw = true) (tm : List AVal) (len : tm.length = 186) (t0 : tm[0]? = some (vi b)) (t1 : tm[1]? = some (vt)) (t4 : tm[4]? = some (abool false)) (t5 : tm[5]? = some (v5)) (t6 : tm[6]? = some (v6)) (t7 : tm[7]? = some (vi f)) (t8 : tm[8]? = some (v8a)) (t10 : tm[10]? = some (v10)) (t11 : tm[11]? = some (vi p)) (t12 : tm[12]? = some (v12)) (t13 : tm[13]? = some (v13)) (t15 : tm[15]? = some (vi j)) :
    ∃ tm', aCode or true n (fstC (fstC (sndC (fstC (sndC (sndC (fstC (fstC (sndC (fstC (fstC (sndC (fstC (sndC (sndC (sndC (sndC (sndC (sndC (sndC (a8.code))))))))))))))))))))) ⟨tm, H, []⟩ = some (.normal, ⟨tm', H, []⟩) ∧ tm'.length = 186 ∧ tm'[0]? = some (vi b) ∧ tm'[1]? = some (vt) ∧ tm'[4]? = some (abool false) ∧ tm'[5]? = some (v5) ∧ tm'[6]? = some (v6) ∧ tm'[7]? = some (vi f) ∧ tm'[8]? = some (v8a) ∧ tm'[10]? = some (v10) ∧ tm'[11]? = some (vi p) ∧ tm'[12]? = some (v12) ∧ tm'[13]? = some (v13) ∧ tm'[15]? = some (vi ((j : Int) + 1)) := by
  have l12 := r12.lenS
  rw [List.length_map] at l12
  have hj1 := (List.getElem?_eq_some_iff.1 ha).1
  have hj2 := (List.getElem?_eq_some_iff.1 hw).1
  have hj' : (j : Int) < avs.length := by omega
  obtain ⟨R1, ver1, off1, kc1, ex1, cells1, hv1, a2, a3, a4⟩ := RdE.at1 r12 ha
  obtain ⟨R2, ver2, off2, kc2, ex2, cells2, hv2, b2, b3, b4⟩ := RdE.at1 r5 hw
  have w : wrapF .i64 ((j : Int) + 1) = ((j : Int) + 1) := wrapI (by omega) (by omega)
  obtain ⟨tm1, e1, l1, f1_0, f1_1, f1_4, f1_5, f1_6, f1_7, f1_8, f1_10, f1_11, f1_12, f1_13, f1_15, f1_88⟩ : ∃ tm1 : List AVal, aCode or true n (fstC (fstC (fstC (fstC (sndC (fstC (sndC (sndC (fstC (fstC (sndC (fstC (fstC (sndC (fstC (sndC (sndC (sndC (sndC (sndC (sndC (sndC (a8.code))))))))))))))))))))))) ⟨tm, H, []⟩ = some (.normal, ⟨tm1, H, []⟩) ∧ tm1.length = 186 ∧ tm1[0]? = some (vi b) ∧ tm1[1]? = some (vt) ∧ tm1[4]? = some (abool false) ∧ tm1[5]? = some (v5) ∧ tm1[6]? = some (v6) ∧ tm1[7]? = some (vi f) ∧ tm1[8]? = some (v8a) ∧ tm1[10]? = some (v10) ∧ tm1[11]? = some (vi p) ∧ tm1[12]? = some (v12) ∧ tm1[13]? = some (v13) ∧ tm1[15]? = some (vi j) ∧ tm1[88]? = some (abool true) := by
    refine ⟨?e1w, ?e1a, ?e1b0, ?e1b1, ?e1b2, ?e1b3, ?e1b4, ?e1b5, ?e1b6, ?e1b7, ?e1b8, ?e1b9, ?e1b10, ?e1b11, ?e1b12, ?e1b13⟩
    case e1a =>
      apply regN
      iterate 4 (apply stepN; · simp [-getElem?_pos, List.getElem?_set, len, t12, t15, l12, hj']; rfl)
      exact nilN (or := or)
    all_goals simp [-getElem?_pos, List.getElem?_set, len, t0, t1, t4, t5, t6, t7, t8, t10, t11, t12, t13, t15]
  obtain ⟨tm2, e2, l2, f2_0, f2_1, f2_4, f2_5, f2_6, f2_7, f2_8, f2_10, f2_11, f2_12, f2_13, f2_15, f2_88, f2_100⟩ : ∃ tm2 : List AVal, aCode or true n (fstC (fstC (fstC (sndC (fstC (fstC (sndC (fstC (sndC (sndC (fstC (fstC (sndC (fstC (fstC (sndC (fstC (sndC (sndC (sndC (sndC (sndC (sndC (sndC (a8.code))))))))))))))))))))))))) ⟨tm1, H, []⟩ = some (.normal, ⟨tm2, H, []⟩) ∧ tm2.length = 186 ∧ tm2[0]? = some (vi b) ∧ tm2[1]? = some (vt) ∧ tm2[4]? = some (abool false) ∧ tm2[5]? = some (v5) ∧ tm2[6]? = some (v6) ∧ tm2[7]? = some (vi f) ∧ tm2[8]? = some (v8a) ∧ tm2[10]? = some (v10) ∧ tm2[11]? = some (vi p) ∧ tm2[12]? = some (v12) ∧ tm2[13]? = some (v13) ∧ tm2[15]? = some (vi j) ∧ tm2[88]? = some (abool true) ∧ tm2[100]? = some (abool false) := by
    refine ⟨?e2w, ?e2a, ?e2b0, ?e2b1, ?e2b2, ?e2b3, ?e2b4, ?e2b5, ?e2b6, ?e2b7, ?e2b8, ?e2b9, ?e2b10, ?e2b11, ?e2b12, ?e2b13, ?e2b14⟩
    case e2a =>
      apply drawN
      ·
        apply drawMob rfl; · simp [-getElem?_pos, List.getElem?_set, fltVal, l1, f1_5, f1_12, f1_15, hv1, hv2, hj1, hj2, a2, a3, a4, b2, b3, b4, h22, q1, q2]; rfl
        apply drawMob rfl; · simp [-getElem?_pos, List.getElem?_set, fltVal, l1, f1_5, f1_12, f1_15, hv1, hv2, hj1, hj2, a2, a3, a4, b2, b3, b4, h22, q1, q2]; rfl
        apply drawMob rfl; · simp [-getElem?_pos, List.getElem?_set, fltVal, l1, f1_5, f1_12, f1_15, hv1, hv2, hj1, hj2, a2, a3, a4, b2, b3, b4, h22, q1, q2]; rfl
        apply drawMob rfl; · simp [-getElem?_pos, List.getElem?_set, fltVal, l1, f1_5, f1_12, f1_15, hv1, hv2, hj1, hj2, a2, a3, a4, b2, b3, b4, h22, q1, q2]; rfl
        apply drawMob rfl; · simp [-getElem?_pos, List.getElem?_set, fltVal, l1, f1_5, f1_12, f1_15, hv1, hv2, hj1, hj2, a2, a3, a4, b2, b3, b4, h22, q1, q2]; rfl
        apply drawMob rfl; · simp [-getElem?_pos, List.getElem?_set, fltVal, l1, f1_5, f1_12, f1_15, hv1, hv2, hj1, hj2, a2, a3, a4, b2, b3, b4, h22, q1, q2]; rfl
        apply drawMob rfl; · simp [-getElem?_pos, List.getElem?_set, fltVal, l1, f1_5, f1_12, f1_15, hv1, hv2, hj1, hj2, a2, a3, a4, b2, b3, b4, h22, q1, q2]; rfl
        apply drawMob rfl; · simp [-getElem?_pos, List.getElem?_set, fltVal, l1, f1_5, f1_12, f1_15, hv1, hv2, hj1, hj2, a2, a3, a4, b2, b3, b4, h22, q1, q2]; rfl
        apply drawImm rfl; · simp [-getElem?_pos, List.getElem?_set, l1, f1_5, f1_12, f1_15, hv1, hv2, hj1, hj2, a2, a3, a4, b2, b3, b4, h22, q1, q2]; rfl
        · exact Nat.le_refl _
        apply drawMob rfl; · simp [-getElem?_pos, List.getElem?_set, fltVal, l1, f1_5, f1_12, f1_15, hv1, hv2, hj1, hj2, a2, a3, a4, b2, b3, b4, h22, q1, q2]; rfl
        exact drawNil
      · simp [-getElem?_pos, List.getElem?_set, allAsked, yldB, AVal.beq, AVal.beqs, valBeq, hasN, AOp.reads, l1, f1_5, f1_12, f1_15, hv1, hv2, hj1, hj2, a2, a3, a4, b2, b3, b4, h22, q1, q2]
    all_goals simp [-getElem?_pos, List.getElem?_set, l1, f1_0, f1_1, f1_4, f1_5, f1_6, f1_7, f1_8, f1_10, f1_11, f1_12, f1_13, f1_15, f1_88]
  obtain ⟨tm3, e3, l3, f3_0, f3_1, f3_4, f3_5, f3_6, f3_7, f3_8, f3_10, f3_11, f3_12, f3_13, f3_15, f3_88, f3_100⟩ : ∃ tm3 : List AVal, aCode or true n (sndC (sndC (fstC (fstC (sndC (fstC (sndC (sndC (fstC (fstC (sndC (fstC (fstC (sndC (fstC (sndC (sndC (sndC (sndC (sndC (sndC (sndC (a8.code))))))))))))))))))))))) ⟨tm2, H, []⟩ = some (.normal, ⟨tm3, H, []⟩) ∧ tm3.length = 186 ∧ tm3[0]? = some (vi b) ∧ tm3[1]? = some (vt) ∧ tm3[4]? = some (abool false) ∧ tm3[5]? = some (v5) ∧ tm3[6]? = some (v6) ∧ tm3[7]? = some (vi f) ∧ tm3[8]? = some (v8a) ∧ tm3[10]? = some (v10) ∧ tm3[11]? = some (vi p) ∧ tm3[12]? = some (v12) ∧ tm3[13]? = some (v13) ∧ tm3[15]? = some (vi ((j : Int) + 1)) ∧ tm3[88]? = some (abool true) ∧ tm3[100]? = some (abool false) := by
    refine ⟨?e3w, ?e3a, ?e3b0, ?e3b1, ?e3b2, ?e3b3, ?e3b4, ?e3b5, ?e3b6, ?e3b7, ?e3b8, ?e3b9, ?e3b10, ?e3b11, ?e3b12, ?e3b13, ?e3b14⟩
    case e3a =>
      apply regN
      iterate 3 (apply stepN; · simp [-getElem?_pos, List.getElem?_set, l2, f2_15, w]; rfl)
      exact nilN (or := or)
    all_goals simp [-getElem?_pos, List.getElem?_set, l2, f2_0, f2_1, f2_4, f2_5, f2_6, f2_7, f2_8, f2_10, f2_11, f2_12, f2_13, f2_15, f2_88, f2_100]
  exact ⟨tm3, (seqN (seqN e1 (condT f1_88 skipN)) (seqN (blkN (seqN e2 (condF f2_100 skipN))) e3)), l3, f3_0, f3_1, f3_4, f3_5, f3_6, f3_7, f3_8, f3_10, f3_11, f3_12, f3_13, f3_15⟩

theorem end8c (or : Oracle) (n : Nat) (b f : Int) (p : Nat) (v5 v6 v8a v10 v12 v13 vt : AVal) (H : AHeap) (avs avw : List AVal) (vs : List (List (List AVal))) (r12 : RdE H 1 v12 (avs.map fun a => [a])) (r5 : RdE H 1 v5 (avw.map fun a => [a])) (hl1 : avs.length = vs.length) (hl2 : avw.length = vs.length) (hfew : vs.length ≤ 40) (tm : List AVal) (len : tm.length = 186) (t0 : tm[0]? = some (vi b)) (t1 : tm[1]? = some (vt)) (t4 : tm[4]? = some (abool false)) (t5 : tm[5]? = some (v5)) (t6 : tm[6]? = some (v6)) (t7 : tm[7]? = some (vi f)) (t8 : tm[8]? = some (v8a)) (t10 : tm[10]? = some (v10)) (t11 : tm[11]? = some (vi p)) (t12 : tm[12]? = some (v12)) (t13 : tm[13]? = some (v13)) (t15 : tm[15]? = some (vi avs.length)) :
    ∃ tm', aCode or true n (fstC (fstC (sndC (fstC (sndC (sndC (fstC (fstC (sndC (fstC (fstC (sndC (fstC (sndC (sndC (sndC (sndC (sndC (sndC (sndC (a8.code))))))))))))))))))))) ⟨tm, H, []⟩ = some (.exit 4, ⟨tm', H, []⟩) ∧ tm'.length = 186 ∧ tm'[0]? = some (vi b) ∧ tm'[1]? = some (vt) ∧ tm'[4]? = some (abool false) ∧ tm'[5]? = some (v5) ∧ tm'[6]? = some (v6) ∧ tm'[7]? = some (vi f) ∧ tm'[8]? = some (v8a) ∧ tm'[10]? = some (v10) ∧ tm'[11]? = some (vi p) ∧ tm'[12]? = some (v12) ∧ tm'[13]? = some (v13) := by
  have l12 := r12.lenS
  rw [List.length_map] at l12
  obtain ⟨tm1, e1, l1, f1_0, f1_1, f1_4, f1_5, f1_6, f1_7, f1_8, f1_10, f1_11, f1_12, f1_13, f1_15, f1_88⟩ : ∃ tm1 : List AVal, aCode or true n (fstC (fstC (fstC (fstC (sndC (fstC (sndC (sndC (fstC (fstC (sndC (fstC (fstC (sndC (fstC (sndC (sndC (sndC (sndC (sndC (sndC (sndC (a8.code))))))))))))))))))))))) ⟨tm, H, []⟩ = some (.normal, ⟨tm1, H, []⟩) ∧ tm1.length = 186 ∧ tm1[0]? = some (vi b) ∧ tm1[1]? = some (vt) ∧ tm1[4]? = some (abool false) ∧ tm1[5]? = some (v5) ∧ tm1[6]? = some (v6) ∧ tm1[7]? = some (vi f) ∧ tm1[8]? = some (v8a) ∧ tm1[10]? = some (v10) ∧ tm1[11]? = some (vi p) ∧ tm1[12]? = some (v12) ∧ tm1[13]? = some (v13) ∧ tm1[15]? = some (vi avs.length) ∧ tm1[88]? = some (abool false) := by
    refine ⟨?e1w, ?e1a, ?e1b0, ?e1b1, ?e1b2, ?e1b3, ?e1b4, ?e1b5, ?e1b6, ?e1b7, ?e1b8, ?e1b9, ?e1b10, ?e1b11, ?e1b12, ?e1b13⟩
    case e1a =>
      apply regN
      iterate 4 (apply stepN; · simp [-getElem?_pos, List.getElem?_set, len, t12, t15, l12]; rfl)
      exact nilN (or := or)
    all_goals simp [-getElem?_pos, List.getElem?_set, len, t0, t1, t4, t5, t6, t7, t8, t10, t11, t12, t13, t15]
  exact ⟨tm1, (seqX (seqN e1 (condF f1_88 exitN)) (by simp)), l1, f1_0, f1_1, f1_4, f1_5, f1_6, f1_7, f1_8, f1_10, f1_11, f1_12, f1_13⟩

theorem loop8c (or : Oracle) (n : Nat) (b f : Int) (p : Nat) (v5 v6 v8a v10 v12 v13 vt : AVal) (H : AHeap) (avs avw : List AVal) (vs : List (List (List AVal))) (r12 : RdE H 1 v12 (avs.map fun a => [a])) (r5 : RdE H 1 v5 (avw.map fun a => [a])) (hl1 : avs.length = vs.length) (hl2 : avw.length = vs.length) (hfew : vs.length ≤ 40) (h22 : ∀ (j : Nat) a aw, avs[j]? = some a → avw[j]? = some aw → or (.func (.func 22) []) [a, aw] H = some (abool true, H) ∧ AVal.beq a a = true ∧ AVal.beq aw aw = true) :
    ∀ (i j q : Nat) (tm : List AVal), j + i = avs.length → i < q → tm.length = 186 → tm[0]? = some (vi b) → tm[1]? = some (vt) → tm[4]? = some (abool false) → tm[5]? = some (v5) → tm[6]? = some (v6) → tm[7]? = some (vi f) → tm[8]? = some (v8a) → tm[10]? = some (v10) → tm[11]? = some (vi p) → tm[12]? = some (v12) → tm[13]? = some (v13) → tm[15]? = some (vi j) → ∃ tm', aLoop (aCode or true n (fstC (fstC (sndC (fstC (sndC (sndC (fstC (fstC (sndC (fstC (fstC (sndC (fstC (sndC (sndC (sndC (sndC (sndC (sndC (sndC (a8.code)))))))))))))))))))))) q ⟨tm, H, []⟩ = some (.exit 4, ⟨tm', H, []⟩) ∧ (tm'.length = 186 ∧ tm'[0]? = some (vi b) ∧ tm'[1]? = some (vt) ∧ tm'[4]? = some (abool false) ∧ tm'[5]? = some (v5) ∧ tm'[6]? = some (v6) ∧ tm'[7]? = some (vi f) ∧ tm'[8]? = some (v8a) ∧ tm'[10]? = some (v10) ∧ tm'[11]? = some (vi p) ∧ tm'[12]? = some (v12) ∧ tm'[13]? = some (v13))
  | 0, j, q + 1, tm, hj, _, len, t0, t1, t4, t5, t6, t7, t8, t10, t11, t12, t13, t15 => by
    have : j = avs.length := by omega
    subst this
    obtain ⟨tm', h1, h2⟩ := end8c or n b f p v5 v6 v8a v10 v12 v13 vt H avs avw vs r12 r5 hl1 hl2 hfew tm len t0 t1 t4 t5 t6 t7 t8 t10 t11 t12 t13 t15
    exact ⟨tm', by simp only [aLoop, h1], h2⟩
  | i + 1, j, q + 1, tm, hj, hq, len, t0, t1, t4, t5, t6, t7, t8, t10, t11, t12, t13, t15 => by
    have hx : avs[j]? = some avs[j] := List.getElem?_eq_getElem (by omega)
    have hy : avw[j]? = some avw[j] := List.getElem?_eq_getElem (by omega)
    obtain ⟨z1, z2, z3⟩ := h22 j _ _ hx hy
    obtain ⟨tm', h1, l, f0, f1, f4, f5, f6, f7, f8, f10, f11, f12, f13, f15⟩ := it8c or n b f p j v5 v6 v8a v10 v12 v13 vt H avs avw vs r12 r5 hl1 hl2 hfew _ _ hx hy z1 z2 z3 tm len t0 t1 t4 t5 t6 t7 t8 t10 t11 t12 t13 t15
    obtain ⟨tm2, g1, g2⟩ := loop8c or n b f p v5 v6 v8a v10 v12 v13 vt H avs avw vs r12 r5 hl1 hl2 hfew h22 i (j + 1) q tm' (by omega) (by omega) l f0 f1 f4 f5 f6 f7 f8 f10 f11 f12 f13 f15
    exact ⟨tm2, by simp only [aLoop, h1, g1], g2⟩

theorem it8p (or : Oracle) (n : Nat) (b f : Int) (txs : List (List OpD)) (vs : List (List (List AVal))) (ms : List (List AVal)) (hA : Answers b txs vs ms f) (p : Nat) (v5 v6 v8a v10 vt : AVal) (H : AHeap) (ain avw : List AVal) (hin : TxsAt H v8a ain txs) (r5 : RdE H 1 v5 (avw.map fun a => [a])) (l5 : v5.lies (· < H.next)) (hl2 : avw.length = vs.length)
    (r5a : ∀ (i : Nat) a l, avw[i]? = some a → vs[i]? = some l → RdE H 32 a l ∧ a.lies (· < H.next)) (r6 : RdE H 32 v6 ms) (l6 : v6.lies (· < H.next)) (base : Nat) (hbase : base ≤ H.next) (al : List AVal) (lcs : List (List (List AVal))) (hal : ToldAt H base v10 al lcs) (hal2 : al.length ≤ 41 * p) (hp : p < 2)
    (N : Nat) (hN : N + 2 ≤ n) (hc : or = callM kn env n) (htl : ∀ t ∈ txs, t.length < N) (htn : txs.length < N) (hv32 : ∀ l ∈ vs, l.length ≤ N ∧ l.length ≤ 140737488355328) (hms : ms.length < N) (tm : List AVal) (len : tm.length = 186) (t0 : tm[0]? = some (vi b)) (t1 : tm[1]? = some (vt)) (t4 : tm[4]? = some (abool false)) (t5 : tm[5]? = some (v5)) (t6 : tm[6]? = some (v6)) (t7 : tm[7]? = some (vi f)) (t8 : tm[8]? = some (v8a)) (t10 : tm[10]? = some (v10)) (t11 : tm[11]? = some (vi p)) :
    ∃ H' vb al' lcs' tm', aCode or true n (fstC (fstC (sndC (fstC (sndC (sndC (sndC (sndC (sndC (sndC (sndC (a8.code)))))))))))) ⟨tm, H, []⟩ = some (.normal, ⟨tm', H', []⟩) ∧ tm'.length = 186 ∧ tm'[0]? = some (vi b) ∧ tm'[1]? = some (vt) ∧ tm'[4]? = some (abool false) ∧ tm'[5]? = some (v5) ∧ tm'[6]? = some (v6) ∧ tm'[7]? = some (vi f) ∧ tm'[8]? = some (v8a) ∧ tm'[10]? = some (vb) ∧ tm'[11]? = some (vi ((p : Int) + 1)) ∧ ToldAt H' base vb al' lcs' ∧ al'.length ≤ 41 * (p + 1) ∧ (∀ l, l ∈ lcs' → l ∈ lcs ∨ l = ms ∨ l ∈ vs) ∧ H.next ≤ H'.next ∧ (∀ A, A < base → H'.get A = H.get A) := by
  obtain ⟨n', rfl⟩ : ∃ n', n = n' + 2 := ⟨n - 2, by omega⟩
  obtain ⟨v12, v13, avs, H1, h39, g1, ht1, hs1, hx1⟩ := hA.prog n' H v8a ain hin (fun t ht => by have := htl t ht; omega) (by omega)
  rw [← hc] at h39
  have hp' : (p : Int) < 2 := by omega
  have hfew := hA.few
  have l12 := ht1.rd.rd.lenS
  rw [List.length_map, ht1.len] at l12
  have l5' := (r5.grow g1 l5).lenS
  rw [List.length_map, hl2] at l5'
  have h22 : or (.func (.func 22) []) [v13, v6] H1 = some (abool true, H1) := by
    rw [hc]; exact c22 (n' + 1) H1 v13 v6 ms hs1.rd (r6.grow g1 l6) hA.mvals (by have := hA.mfew; omega) (by omega)
  have ht1' : ToldAt H1 base v10 al lcs := hal.move (Nat.le_refl _) g1.next fun A _ hA => g1.get A hA
  have c13 := hs1.rd.cells1
  have o13 := hs1.rd.one
  -- the map is kept
  have gp : Grow H1 (H1.push (.row [some (0, [v13])])) := Grow.push _ _
  have up : ∀ {a : AVal} {l : List (List AVal)} {B : Nat}, SliceE H1 B 32 a l → base ≤ B → SliceE (H1.push (.row [some (0, [v13])])) base 32 a l := fun {a l B} h hB => h.move hB gp.next fun A _ hA => gp.get A hA
  have htp : ToldAt (H1.push (.row [some (0, [v13])])) base v10 al lcs := ht1'.move (Nat.le_refl _) gp.next fun A _ hA => gp.get A hA
  have ry : RdE (H1.push (.row [some (0, [v13])])) 1 (.slice H1.next 0 0 1 1 true 1) ([v13].map fun a => [a]) :=
    ⟨fun e he => by simp at he; subst he; rfl, .inr ⟨H1.next, 0, 0, 1, true, [v13], rfl, by unfold AHeap.rowAt; rw [AHeap.get_push_same]; rfl, Nat.le_refl _, Nat.le_refl _, rfl⟩⟩
  have oldlt : ∀ (i : Nat) a, al[i]? = some a → a.lies (· < H.next) := fun i a ha => by
    have hi := (List.getElem?_eq_some_iff.1 ha).1
    have hi2 : i < lcs.length := by rw [← hal.len]; exact hi
    exact lies_imp (hal.at_ i a _ ha (List.getElem?_eq_getElem hi2)).lies fun R hR => hR.2
  have v10lt : v10.lies (· < H.next) := lies_imp hal.rd.lies fun R hR => hR.2
  have sepM : ∀ {a : AVal}, a.lies (· < H.next) → a.lies fun R => v13.lies fun R' => R ≠ R' := fun {a} ha R a1 a2 a3 a4 a5 a6 q R' b1 b2 b3 b4 b5 b6 q' => by
    have x1 := ha R a1 a2 a3 a4 a5 a6 q
    have x2 := (hs1.lies R' b1 b2 b3 b4 b5 b6 q').1
    omega
  have one_at : ∀ {α : Type} {x y : α} {j : Nat}, [x][j]? = some y → y = x ∧ j = 0 := fun {α x y j} h => by
    cases j with
    | zero => simp at h; exact ⟨h.symm, rfl⟩
    | succ j => simp at h
  obtain ⟨va, H2, ap1, ht2, n2, lp2, kp2⟩ := htp.addAll (avs := [v13]) (vs := [ms]) (by simp only [AHeap.next_push]; have := g1.next; omega) ry rfl (fun i a l ha hl => by rw [(one_at ha).1, (one_at hl).1]; exact up hs1 hbase) (fun i j a a' hij ha ha' => by have x1 := (one_at ha).2; have x2 := (one_at ha').2; omega)
    (fun i j a a' ha ha' => by rw [(one_at ha').1]; exact sepM (oldlt i a ha)) (fun j a ha => by rw [(one_at ha).1]; exact sepM v10lt) (by simp only [List.length_singleton]; omega)
  -- the lists that were told are kept
  have v10ge : ∀ {a : AVal}, (a.lies fun R => H.next ≤ R ∧ R < H1.next) → v10.lies fun R => a.lies fun R' => R ≠ R' := fun {a} ha R a1 a2 a3 a4 a5 a6 q R' b1 b2 b3 b4 b5 b6 q' => by
    have x1 := v10lt R a1 a2 a3 a4 a5 a6 q
    have x2 := (ha R' b1 b2 b3 b4 b5 b6 q').1
    omega
  have keep2 : ∀ A, H.next ≤ A → A < H1.next → H2.get A = H1.get A := fun A a1 a2 => by
    rw [kp2 A (by simp only [AHeap.next_push]; omega) (lies_imp v10lt fun R hR => by omega), gp.get A a2]
  have n2' : H1.next ≤ H2.next := by simp only [AHeap.next_push] at n2; omega
  have tdl : ∀ (i : Nat) a, avs[i]? = some a → a.lies fun R => H.next ≤ R ∧ R < H1.next := fun i a ha => by
    have hi := (List.getElem?_eq_some_iff.1 ha).1
    have hi2 : i < vs.length := by rw [← ht1.len]; exact hi
    exact (ht1.at_ i a _ ha (List.getElem?_eq_getElem hi2)).lies
  have r12b : RdE H2 1 v12 (avs.map fun a => [a]) := (ht1.rd.move (Nat.le_refl _) n2' keep2).rd
  obtain ⟨vb, H3, ap2, ht3, n3, _, kp3⟩ := ht2.addAll (avs := avs) (vs := vs) (by have := g1.next; omega) r12b ht1.len (fun i a l ha hl => (ht1.at_ i a l ha hl).move hbase n2' keep2) ht1.apart
    (fun i j a a' ha ha' => by
      by_cases hlt : i < al.length
      · rw [List.getElem?_append_left hlt] at ha
        intro R a1 a2 a3 a4 a5 a6 q R' b1 b2 b3 b4 b5 b6 q'
        have x1 := oldlt i a ha R a1 a2 a3 a4 a5 a6 q
        have x2 := (tdl j a' ha' R' b1 b2 b3 b4 b5 b6 q').1
        omega
      · rw [List.getElem?_append_right (by omega)] at ha
        rw [(one_at ha).1]
        exact lies_imp hx1 fun R hR => lies_imp (hR.2 j a' ha') fun R' hR' => Ne.symm hR')
    (fun j a ha => lp2 _ (v10ge (tdl j a ha)) fun R hR R' b1 b2 b3 b4 b5 b6 q => by have := (tdl j a ha R' b1 b2 b3 b4 b5 b6 q).2; simp only [AHeap.next_push] at hR; omega)
    (by rw [List.length_append, List.length_singleton, ht1.len]; omega)
  have gf : ∀ A, A < base → H3.get A = H.get A := fun A hA => by
    rw [kp3 A (by have := g1.next; omega) (lies_imp ht2.rd.lies fun R hR => by have := hR.1; omega), kp2 A (by simp only [AHeap.next_push]; have := g1.next; omega) (lies_imp hal.rd.lies fun R hR => by have := hR.1; omega), gp.get A (by have := g1.next; omega), g1.get A (by omega)]
  have n3' : H.next ≤ H3.next := by have := g1.next; omega
  have z22 : ∀ (j : Nat) a aw, avs[j]? = some a → avw[j]? = some aw → or (.func (.func 22) []) [a, aw] H1 = some (abool true, H1) ∧ AVal.beq a a = true ∧ AVal.beq aw aw = true := fun j a aw ha haw => by
    have hj := (List.getElem?_eq_some_iff.1 ha).1
    have hj2 : j < vs.length := by rw [← ht1.len]; exact hj
    have hx := List.getElem?_eq_getElem hj2
    obtain ⟨z1, z2⟩ := r5a j aw _ haw hx
    have z3 := (ht1.at_ j a _ ha hx).rd
    obtain ⟨y1, y2⟩ := hv32 _ (List.getElem_mem hj2)
    refine ⟨?_, beq_self z3, beq_self z1⟩
    rw [hc]
    exact c22 (n' + 1) H1 a aw _ z3 (z1.grow g1 z2) (hA.vals _ (List.getElem_mem hj2)) y2 (by omega)
  have w : wrapF .i64 ((p : Int) + 1) = ((p : Int) + 1) := wrapI (by omega) (by omega)
  obtain ⟨tm1, e1, l1, f1_0, f1_1, f1_4, f1_5, f1_6, f1_7, f1_8, f1_10, f1_11, f1_59⟩ : ∃ tm1 : List AVal, aCode or true (n' + 2) (fstC (fstC (fstC (fstC (sndC (fstC (sndC (sndC (sndC (sndC (sndC (sndC (sndC (a8.code)))))))))))))) ⟨tm, H, []⟩ = some (.normal, ⟨tm1, H, []⟩) ∧ tm1.length = 186 ∧ tm1[0]? = some (vi b) ∧ tm1[1]? = some (vt) ∧ tm1[4]? = some (abool false) ∧ tm1[5]? = some (v5) ∧ tm1[6]? = some (v6) ∧ tm1[7]? = some (vi f) ∧ tm1[8]? = some (v8a) ∧ tm1[10]? = some (v10) ∧ tm1[11]? = some (vi p) ∧ tm1[59]? = some (abool true) := by
    refine ⟨?e1w, ?e1a, ?e1b0, ?e1b1, ?e1b2, ?e1b3, ?e1b4, ?e1b5, ?e1b6, ?e1b7, ?e1b8, ?e1b9, ?e1b10⟩
    case e1a =>
      apply regN
      iterate 2 (apply stepN; · simp [-getElem?_pos, List.getElem?_set, len, t11, hp']; rfl)
      exact nilN (or := or)
    all_goals simp [-getElem?_pos, List.getElem?_set, len, t0, t1, t4, t5, t6, t7, t8, t10, t11]
  obtain ⟨tm2, e2, l2, f2_0, f2_1, f2_4, f2_5, f2_6, f2_7, f2_8, f2_10, f2_11, f2_12, f2_13, f2_14, f2_59⟩ : ∃ tm2 : List AVal, aCode or true (n' + 2) (fstC (fstC (fstC (sndC (fstC (fstC (sndC (fstC (sndC (sndC (sndC (sndC (sndC (sndC (sndC (a8.code)))))))))))))))) ⟨tm1, H, []⟩ = some (.normal, ⟨tm2, H1, []⟩) ∧ tm2.length = 186 ∧ tm2[0]? = some (vi b) ∧ tm2[1]? = some (vt) ∧ tm2[4]? = some (abool false) ∧ tm2[5]? = some (v5) ∧ tm2[6]? = some (v6) ∧ tm2[7]? = some (vi f) ∧ tm2[8]? = some (v8a) ∧ tm2[10]? = some (v10) ∧ tm2[11]? = some (vi p) ∧ tm2[12]? = some (v12) ∧ tm2[13]? = some (v13) ∧ tm2[14]? = some (vi f) ∧ tm2[59]? = some (abool true) := by
    refine ⟨?e2w, ?e2a, ?e2b0, ?e2b1, ?e2b2, ?e2b3, ?e2b4, ?e2b5, ?e2b6, ?e2b7, ?e2b8, ?e2b9, ?e2b10, ?e2b11, ?e2b12, ?e2b13⟩
    case e2a =>
      apply regN
      iterate 10 (apply stepN; · simp [-getElem?_pos, List.getElem?_set, l1, f1_0, f1_8, h39]; rfl)
      exact nilN (or := or)
    all_goals simp [-getElem?_pos, List.getElem?_set, l1, f1_0, f1_1, f1_4, f1_5, f1_6, f1_7, f1_8, f1_10, f1_11, f1_59]
  obtain ⟨tm3, e3, l3, f3_0, f3_1, f3_4, f3_5, f3_6, f3_7, f3_8, f3_10, f3_11, f3_12, f3_13, f3_14, f3_59, f3_84⟩ : ∃ tm3 : List AVal, aCode or true (n' + 2) (fstC (fstC (sndC (fstC (fstC (sndC (fstC (fstC (sndC (fstC (sndC (sndC (sndC (sndC (sndC (sndC (sndC (a8.code)))))))))))))))))) ⟨tm2, H1, []⟩ = some (.normal, ⟨tm3, H1, []⟩) ∧ tm3.length = 186 ∧ tm3[0]? = some (vi b) ∧ tm3[1]? = some (vt) ∧ tm3[4]? = some (abool false) ∧ tm3[5]? = some (v5) ∧ tm3[6]? = some (v6) ∧ tm3[7]? = some (vi f) ∧ tm3[8]? = some (v8a) ∧ tm3[10]? = some (v10) ∧ tm3[11]? = some (vi p) ∧ tm3[12]? = some (v12) ∧ tm3[13]? = some (v13) ∧ tm3[14]? = some (vi f) ∧ tm3[59]? = some (abool true) ∧ tm3[84]? = some (abool false) := by
    refine ⟨?e3w, ?e3a, ?e3b0, ?e3b1, ?e3b2, ?e3b3, ?e3b4, ?e3b5, ?e3b6, ?e3b7, ?e3b8, ?e3b9, ?e3b10, ?e3b11, ?e3b12, ?e3b13, ?e3b14⟩
    case e3a =>
      apply regN
      iterate 16 (apply stepN; · simp [-getElem?_pos, List.getElem?_set, l2, f2_5, f2_6, f2_7, f2_12, f2_13, f2_14, l12, l5', h22]; rfl)
      exact nilN (or := or)
    all_goals simp [-getElem?_pos, List.getElem?_set, l2, f2_0, f2_1, f2_4, f2_5, f2_6, f2_7, f2_8, f2_10, f2_11, f2_12, f2_13, f2_14, f2_59]
  obtain ⟨tm4, e4, l4, f4_0, f4_1, f4_4, f4_5, f4_6, f4_7, f4_8, f4_10, f4_11, f4_12, f4_13, f4_14, f4_15, f4_59, f4_84⟩ : ∃ tm4 : List AVal, aCode or true (n' + 2) (fstC (fstC (sndC (sndC (fstC (fstC (sndC (fstC (fstC (sndC (fstC (sndC (sndC (sndC (sndC (sndC (sndC (sndC (a8.code))))))))))))))))))) ⟨tm3, H1, []⟩ = some (.normal, ⟨tm4, H1, []⟩) ∧ tm4.length = 186 ∧ tm4[0]? = some (vi b) ∧ tm4[1]? = some (vt) ∧ tm4[4]? = some (abool false) ∧ tm4[5]? = some (v5) ∧ tm4[6]? = some (v6) ∧ tm4[7]? = some (vi f) ∧ tm4[8]? = some (v8a) ∧ tm4[10]? = some (v10) ∧ tm4[11]? = some (vi p) ∧ tm4[12]? = some (v12) ∧ tm4[13]? = some (v13) ∧ tm4[14]? = some (vi f) ∧ tm4[15]? = some (vi 0) ∧ tm4[59]? = some (abool true) ∧ tm4[84]? = some (abool false) := by
    refine ⟨?e4w, ?e4a, ?e4b0, ?e4b1, ?e4b2, ?e4b3, ?e4b4, ?e4b5, ?e4b6, ?e4b7, ?e4b8, ?e4b9, ?e4b10, ?e4b11, ?e4b12, ?e4b13, ?e4b14, ?e4b15⟩
    case e4a =>
      apply regN
      iterate 1 (apply stepN; · simp [-getElem?_pos, List.getElem?_set, l3]; rfl)
      exact nilN (or := or)
    all_goals simp [-getElem?_pos, List.getElem?_set, l3, f3_0, f3_1, f3_4, f3_5, f3_6, f3_7, f3_8, f3_10, f3_11, f3_12, f3_13, f3_14, f3_59, f3_84]
  obtain ⟨tm5, e5, l5, q0, q1, q4, q5, q6, q7, q8, q10, q11, q12, q13⟩ := loop8c or (n' + 2) b f p v5 v6 v8a v10 v12 v13 vt H1 avs avw vs ht1.rd.rd (r5.grow g1 l5) ht1.len hl2 hfew z22 avs.length 0 (n' + 2) tm4 (by omega) (by rw [ht1.len]; have := hA.lens; omega) l4 f4_0 f4_1 f4_4 f4_5 f4_6 f4_7 f4_8 f4_10 f4_11 f4_12 f4_13 f4_15
  obtain ⟨tm6, e6, l6, f6_0, f6_1, f6_4, f6_5, f6_6, f6_7, f6_8, f6_10, f6_11, f6_12, f6_13⟩ : ∃ tm6 : List AVal, aCode or true (n' + 2) (sndC (sndC (sndC (fstC (fstC (sndC (fstC (fstC (sndC (fstC (sndC (sndC (sndC (sndC (sndC (sndC (sndC (a8.code)))))))))))))))))) ⟨tm5, H1, []⟩ = some (.normal, ⟨tm6, H3, []⟩) ∧ tm6.length = 186 ∧ tm6[0]? = some (vi b) ∧ tm6[1]? = some (vt) ∧ tm6[4]? = some (abool false) ∧ tm6[5]? = some (v5) ∧ tm6[6]? = some (v6) ∧ tm6[7]? = some (vi f) ∧ tm6[8]? = some (v8a) ∧ tm6[10]? = some (vb) ∧ tm6[11]? = some (vi p) ∧ tm6[12]? = some (v12) ∧ tm6[13]? = some (v13) := by
    refine ⟨?e6w, ?e6a, ?e6b0, ?e6b1, ?e6b2, ?e6b3, ?e6b4, ?e6b5, ?e6b6, ?e6b7, ?e6b8, ?e6b9, ?e6b10, ?e6b11⟩
    case e6a =>
      apply regN
      iterate 7 (apply stepN; · simp [-getElem?_pos, List.getElem?_set, l5, q10, q12, q13, c13, aFill, spl, repl, ap1, ap2]; rfl)
      exact nilN (or := or)
    all_goals simp [-getElem?_pos, List.getElem?_set, l5, q0, q1, q4, q5, q6, q7, q8, q10, q11, q12, q13]
  obtain ⟨tm7, e7, l7, f7_0, f7_1, f7_4, f7_5, f7_6, f7_7, f7_8, f7_10, f7_11, f7_12, f7_13⟩ : ∃ tm7 : List AVal, aCode or true (n' + 2) (sndC (sndC (fstC (fstC (sndC (fstC (sndC (sndC (sndC (sndC (sndC (sndC (sndC (a8.code)))))))))))))) ⟨tm6, H3, []⟩ = some (.normal, ⟨tm7, H3, []⟩) ∧ tm7.length = 186 ∧ tm7[0]? = some (vi b) ∧ tm7[1]? = some (vt) ∧ tm7[4]? = some (abool false) ∧ tm7[5]? = some (v5) ∧ tm7[6]? = some (v6) ∧ tm7[7]? = some (vi f) ∧ tm7[8]? = some (v8a) ∧ tm7[10]? = some (vb) ∧ tm7[11]? = some (vi ((p : Int) + 1)) ∧ tm7[12]? = some (v12) ∧ tm7[13]? = some (v13) := by
    refine ⟨?e7w, ?e7a, ?e7b0, ?e7b1, ?e7b2, ?e7b3, ?e7b4, ?e7b5, ?e7b6, ?e7b7, ?e7b8, ?e7b9, ?e7b10, ?e7b11⟩
    case e7a =>
      apply regN
      iterate 3 (apply stepN; · simp [-getElem?_pos, List.getElem?_set, l6, f6_11, w]; rfl)
      exact nilN (or := or)
    all_goals simp [-getElem?_pos, List.getElem?_set, l6, f6_0, f6_1, f6_4, f6_5, f6_6, f6_7, f6_8, f6_10, f6_11, f6_12, f6_13]
  exact ⟨H3, vb, al ++ [v13] ++ avs, lcs ++ [ms] ++ vs, tm7, (seqN (seqN e1 (condT f1_59 skipN)) (seqN (blkN (seqN e2 (seqN (seqN e3 (condF f3_84 skipN)) (seqN (seqN e4 (blkE (loopC e5))) e6)))) e7)), l7, f7_0, f7_1, f7_4, f7_5, f7_6, f7_7, f7_8, f7_10, f7_11, ht3, by rw [List.length_append, List.length_append, List.length_singleton, ht1.len]; omega, fun l hl => by simpa [or_assoc] using hl, n3', gf⟩

end Go.Proofs.Ythbjfkkjmecaaaa
