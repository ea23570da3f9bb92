/- Walks: apart: all lists marked; all lists grown. -/
import Derived.Test.YthbjfkkjmecaaaaAloneJ
namespace Go.Proofs.Ythbjfkkjmecaaaa
open Go Go.Vm

set_option linter.unusedVariables false
set_option linter.unusedSimpArgs false
attribute [local simp] aStep awanted aOp ev aRess aRes1 tup aBin aUn aArith ASt.put ile_eq ilt_eq ieq_eq aPart List.getElem?_cons_zero

theorem mark7 (i : Nat) : mark i 7 = [v8 (wrapF .u8 ((i : Int) + 1)), v8 7, v8 0, v8 0, v8 0, v8 0, v8 0, v8 0, v8 0, v8 0, v8 0, v8 0, v8 0, v8 0, v8 0, v8 0, v8 0, v8 0, v8 0, v8 0, v8 0, v8 0, v8 0, v8 0, v8 0, v8 0, v8 0, v8 0, v8 0, v8 0, v8 0, v8 0] := rfl
theorem mark8 (i : Nat) : mark i 8 = [v8 (wrapF .u8 ((i : Int) + 1)), v8 8, v8 0, v8 0, v8 0, v8 0, v8 0, v8 0, v8 0, v8 0, v8 0, v8 0, v8 0, v8 0, v8 0, v8 0, v8 0, v8 0, v8 0, v8 0, v8 0, v8 0, v8 0, v8 0, v8 0, v8 0, v8 0, v8 0, v8 0, v8 0, v8 0, v8 0] := rfl

theorem bound9 {a k : Nat} (h : (a + 71) * 32 ≤ 140737488355328) (hk : k < 70) : (a + k + 1) * 32 ≤ 140737488355328 := Nat.le_trans (Nat.mul_le_mul_right 32 (show a + k + 1 ≤ a + 71 by omega)) h
theorem cnt_le {q k i : Nat} (h1 : q < 17 * i + min k 16) (h2 : q / 17 = i) : cnt (q % 17) ≤ k := by
  unfold cnt
  split <;> omega

theorem RdE.at1 {H : AHeap} {v : AVal} {avs : List AVal} (h : RdE H 1 v (avs.map fun a => [a])) {i : Nat} {a : AVal} (ha : avs[i]? = some a) : ∃ R ver off kc ex cells, v = .slice R ver off avs.length kc ex 1 ∧ H.rowAt R ver = some cells ∧ off + i + 1 ≤ cells.length ∧ cells[off + i]? = some a := by
  obtain ⟨R, ver, off, kc, ex, cells, e1, a2, a3, a4⟩ := h.at (i := i) (e := [a]) (by simp [ha])
  rw [List.length_map] at e1
  refine ⟨R, ver, off, kc, ex, cells, e1, a2, by omega, ?_⟩
  have := part_at a4 (j := 0) (by omega)
  simpa using this

theorem it27a (or : Oracle) (n : Nat) (k : Nat) (H : AHeap) (own : Nat → Nat) (vl : AVal) (avs : List AVal) (lc : Nat → List (List AVal)) (cont : Nat → List (List AVal)) (i : Nat) (hm : Marked H own vl anil avs (upTo lc i k) [] cont) (a : AVal) (ha : avs[i]? = some a) (hL : ((lc i).length + 71) * 32 ≤ 140737488355328) (hi : avs.length ≤ 1000) (hk : k < (lc i).length) (tm : List AVal) (len : tm.length = 128) (t0 : tm[0]? = some (vl)) (t2 : tm[2]? = some (abool false)) (t3 : tm[3]? = some (vi i)) (t4 : tm[4]? = some (vi k)) :
    ∃ H' tm', aCode or true n (fstC (fstC (sndC (fstC (fstC (sndC (fstC (fstC (sndC (fstC (sndC (a27.code)))))))))))) ⟨tm, H, []⟩ = some (.normal, ⟨tm', H', []⟩) ∧ tm'.length = 128 ∧ tm'[0]? = some (vl) ∧ tm'[2]? = some (abool false) ∧ tm'[3]? = some (vi i) ∧ tm'[4]? = some (vi ((k : Int) + 1)) ∧ Marked H' own vl anil avs (upTo lc i (k + 1)) [] cont := by
  have hi2 := (List.getElem?_eq_some_iff.1 ha).1
  have wi : wrapF .i64 ((i : Int) + 1) = ((i : Int) + 1) := wrapI (by omega) (by omega)
  obtain ⟨Rv, verv, offv, kcv, exv, cellsv, hvl1, p2, p3, p4⟩ := RdE.at1 hm.rdl ha
  have la := (hm.at_ i a ha).1.rd.lenS
  have hln := upTo_len lc i k i (by omega)
  rw [hln] at la
  have hk' : (k : Int) < (lc i).length := by omega
  have w : wrapF .i64 ((k : Int) + 1) = ((k : Int) + 1) := wrapI (by omega) (by omega)
  obtain ⟨R, ver, H1, hva1, hw, hm1⟩ := hm.put ha (by rw [hln]; exact hk) (mark_is i 7)
  rw [upTo_set lc i k hk] at hm1
  rw [hln] at hva1
  rw [mark7] at hw
  obtain ⟨tm1, e1, l1, f1_0, f1_2, f1_3, f1_4, f1_26⟩ : ∃ tm1 : List AVal, aCode or true n (fstC (fstC (fstC (fstC (sndC (fstC (fstC (sndC (fstC (fstC (sndC (fstC (sndC (a27.code)))))))))))))) ⟨tm, H, []⟩ = some (.normal, ⟨tm1, H, []⟩) ∧ tm1.length = 128 ∧ tm1[0]? = some (vl) ∧ tm1[2]? = some (abool false) ∧ tm1[3]? = some (vi i) ∧ tm1[4]? = some (vi k) ∧ tm1[26]? = some (abool true) := by
    refine ⟨?e1w, ?e1a, ?e1b0, ?e1b1, ?e1b2, ?e1b3, ?e1b4, ?e1b5⟩
    case e1a =>
      apply regN
      iterate 7 (apply stepN; · simp [-getElem?_pos, List.getElem?_set, len, t0, t3, t4, hvl1, hi2, p2, p3, p4, la, hk']; rfl)
      exact nilN (or := or)
    all_goals simp [-getElem?_pos, List.getElem?_set, len, t0, t2, t3, t4]
  obtain ⟨tm2, e2, l2, f2_0, f2_2, f2_3, f2_4, f2_26⟩ : ∃ tm2 : List AVal, aCode or true n (fstC (fstC (sndC (fstC (fstC (sndC (fstC (fstC (sndC (fstC (fstC (sndC (fstC (sndC (a27.code))))))))))))))) ⟨tm1, H, []⟩ = some (.normal, ⟨tm2, H1, []⟩) ∧ tm2.length = 128 ∧ tm2[0]? = some (vl) ∧ tm2[2]? = some (abool false) ∧ tm2[3]? = some (vi i) ∧ tm2[4]? = some (vi k) ∧ tm2[26]? = some (abool true) := by
    refine ⟨?e2w, ?e2a, ?e2b0, ?e2b1, ?e2b2, ?e2b3, ?e2b4, ?e2b5⟩
    case e2a =>
      apply regN
      iterate 11 (apply stepN; · simp [-getElem?_pos, List.getElem?_set, l1, f1_0, f1_3, f1_4, hvl1, hi2, p2, p3, p4, hva1, hk, wi, aFill, spl, AVal.cells, hw]; rfl)
      exact nilN (or := or)
    all_goals simp [-getElem?_pos, List.getElem?_set, l1, f1_0, f1_2, f1_3, f1_4, f1_26]
  obtain ⟨tm3, e3, l3, f3_0, f3_2, f3_3, f3_4, f3_26⟩ : ∃ tm3 : List AVal, aCode or true n (sndC (sndC (fstC (fstC (sndC (fstC (fstC (sndC (fstC (fstC (sndC (fstC (sndC (a27.code)))))))))))))) ⟨tm2, H1, []⟩ = some (.normal, ⟨tm3, H1, []⟩) ∧ tm3.length = 128 ∧ tm3[0]? = some (vl) ∧ tm3[2]? = some (abool false) ∧ tm3[3]? = some (vi i) ∧ tm3[4]? = some (vi ((k : Int) + 1)) ∧ tm3[26]? = some (abool true) := by
    refine ⟨?e3w, ?e3a, ?e3b0, ?e3b1, ?e3b2, ?e3b3, ?e3b4, ?e3b5⟩
    case e3a =>
      apply regN
      iterate 3 (apply stepN; · simp [-getElem?_pos, List.getElem?_set, l2, f2_4, w]; rfl)
      exact nilN (or := or)
    all_goals simp [-getElem?_pos, List.getElem?_set, l2, f2_0, f2_2, f2_3, f2_4, f2_26]
  exact ⟨H1, tm3, (seqN (seqN e1 (condT f1_26 skipN)) (seqN (blkN e2) e3)), l3, f3_0, f3_2, f3_3, f3_4, hm1⟩

theorem end27a (or : Oracle) (n : Nat) (H : AHeap) (own : Nat → Nat) (vl : AVal) (avs : List AVal) (lc : Nat → List (List AVal)) (cont : Nat → List (List AVal)) (i : Nat) (hm : Marked H own vl anil avs (upTo lc i (lc i).length) [] cont) (a : AVal) (ha : avs[i]? = some a) (hL : ((lc i).length + 71) * 32 ≤ 140737488355328) (hi : avs.length ≤ 1000) (tm : List AVal) (len : tm.length = 128) (t0 : tm[0]? = some (vl)) (t2 : tm[2]? = some (abool false)) (t3 : tm[3]? = some (vi i)) (t4 : tm[4]? = some (vi (lc i).length)) :
    ∃ tm', aCode or true n (fstC (fstC (sndC (fstC (fstC (sndC (fstC (fstC (sndC (fstC (sndC (a27.code)))))))))))) ⟨tm, H, []⟩ = some (.exit 2, ⟨tm', H, []⟩) ∧ tm'.length = 128 ∧ tm'[0]? = some (vl) ∧ tm'[2]? = some (abool false) ∧ tm'[3]? = some (vi i) := by
  have hi2 := (List.getElem?_eq_some_iff.1 ha).1
  have wi : wrapF .i64 ((i : Int) + 1) = ((i : Int) + 1) := wrapI (by omega) (by omega)
  obtain ⟨Rv, verv, offv, kcv, exv, cellsv, hvl1, p2, p3, p4⟩ := RdE.at1 hm.rdl ha
  have la := (hm.at_ i a ha).1.rd.lenS
  rw [upTo_len lc i _ i (Nat.le_refl _)] at la
  obtain ⟨tm1, e1, l1, f1_0, f1_2, f1_3, f1_4, f1_26⟩ : ∃ tm1 : List AVal, aCode or true n (fstC (fstC (fstC (fstC (sndC (fstC (fstC (sndC (fstC (fstC (sndC (fstC (sndC (a27.code)))))))))))))) ⟨tm, H, []⟩ = some (.normal, ⟨tm1, H, []⟩) ∧ tm1.length = 128 ∧ tm1[0]? = some (vl) ∧ tm1[2]? = some (abool false) ∧ tm1[3]? = some (vi i) ∧ tm1[4]? = some (vi (lc i).length) ∧ tm1[26]? = some (abool false) := by
    refine ⟨?e1w, ?e1a, ?e1b0, ?e1b1, ?e1b2, ?e1b3, ?e1b4, ?e1b5⟩
    case e1a =>
      apply regN
      iterate 7 (apply stepN; · simp [-getElem?_pos, List.getElem?_set, len, t0, t3, t4, hvl1, hi2, p2, p3, p4, la]; rfl)
      exact nilN (or := or)
    all_goals simp [-getElem?_pos, List.getElem?_set, len, t0, t2, t3, t4]
  exact ⟨tm1, (seqX (seqN e1 (condF f1_26 exitN)) (by simp)), l1, f1_0, f1_2, f1_3⟩

theorem loop27a (or : Oracle) (n : Nat) (own : Nat → Nat) (vl : AVal) (avs : List AVal) (lc : Nat → List (List AVal)) (cont : Nat → List (List AVal)) (i : Nat) (a : AVal) (ha : avs[i]? = some a) (hL : ((lc i).length + 71) * 32 ≤ 140737488355328) (hi : avs.length ≤ 1000) :
    ∀ (j k q : Nat) (H : AHeap) (tm : List AVal), k + j = (lc i).length → j < q → Marked H own vl anil avs (upTo lc i k) [] cont → tm.length = 128 → tm[0]? = some (vl) → tm[2]? = some (abool false) → tm[3]? = some (vi i) → tm[4]? = some (vi k) →
      ∃ H' tm', aLoop (aCode or true n (fstC (fstC (sndC (fstC (fstC (sndC (fstC (fstC (sndC (fstC (sndC (a27.code))))))))))))) q ⟨tm, H, []⟩ = some (.exit 2, ⟨tm', H', []⟩) ∧ (tm'.length = 128 ∧ tm'[0]? = some (vl) ∧ tm'[2]? = some (abool false) ∧ tm'[3]? = some (vi i)) ∧ Marked H' own vl anil avs (upTo lc (i + 1) 0) [] cont
  | 0, k, q + 1, H, tm, hj, _, hm, len, t0, t2, t3, t4 => by
    have : k = (lc i).length := by omega
    subst this
    obtain ⟨tm', h1, h2⟩ := end27a or n H own vl avs lc cont i hm a ha hL hi tm len t0 t2 t3 t4
    exact ⟨H, tm', by simp only [aLoop, h1], h2, by rw [← upTo_next]; exact hm⟩
  | j + 1, k, q + 1, H, tm, hj, hq, hm, len, t0, t2, t3, t4 => by
    obtain ⟨H', tm', h1, l, f0, f2, f3, f4, m1⟩ := it27a or n k H own vl avs lc cont i hm a ha hL hi (by omega) tm len t0 t2 t3 t4
    obtain ⟨H2, tm2, g1, g2⟩ := loop27a or n own vl avs lc cont i a ha hL hi j (k + 1) q H' tm' (by omega) (by omega) m1 l f0 f2 f3 f4
    exact ⟨H2, tm2, by simp only [aLoop, h1, g1], g2⟩

theorem it27b (or : Oracle) (n : Nat) (H : AHeap) (own : Nat → Nat) (vl : AVal) (avs : List AVal) (lc : Nat → List (List AVal)) (cont : Nat → List (List AVal)) (i : Nat) (hm : Marked H own vl anil avs (upTo lc i 0) [] cont) (hL : ∀ (i : Nat) a, avs[i]? = some a → ((lc i).length + 71) * 32 ≤ 140737488355328) (hi : avs.length ≤ 1000) (a : AVal) (ha : avs[i]? = some a) (hn : ∀ (i : Nat) a, avs[i]? = some a → (lc i).length < n) (tm : List AVal) (len : tm.length = 128) (t0 : tm[0]? = some (vl)) (t2 : tm[2]? = some (abool false)) (t3 : tm[3]? = some (vi i)) :
    ∃ H' tm', aCode or true n (fstC (fstC (sndC (fstC (sndC (a27.code)))))) ⟨tm, H, []⟩ = some (.normal, ⟨tm', H', []⟩) ∧ tm'.length = 128 ∧ tm'[0]? = some (vl) ∧ tm'[2]? = some (abool false) ∧ tm'[3]? = some (vi ((i : Int) + 1)) ∧ Marked H' own vl anil avs (upTo lc (i + 1) 0) [] cont := by
  have lvl := hm.rdl.lenS
  rw [List.length_map] at lvl
  have hi2 := (List.getElem?_eq_some_iff.1 ha).1
  have hi' : (i : Int) < avs.length := by omega
  have w : wrapF .i64 ((i : Int) + 1) = ((i : Int) + 1) := wrapI (by omega) (by omega)
  obtain ⟨tm1, e1, l1, f1_0, f1_2, f1_3, f1_17⟩ : ∃ tm1 : List AVal, aCode or true n (fstC (fstC (fstC (fstC (sndC (fstC (sndC (a27.code)))))))) ⟨tm, H, []⟩ = some (.normal, ⟨tm1, H, []⟩) ∧ tm1.length = 128 ∧ tm1[0]? = some (vl) ∧ tm1[2]? = some (abool false) ∧ tm1[3]? = some (vi i) ∧ tm1[17]? = some (abool true) := by
    refine ⟨?e1w, ?e1a, ?e1b0, ?e1b1, ?e1b2, ?e1b3, ?e1b4⟩
    case e1a =>
      apply regN
      iterate 4 (apply stepN; · simp [-getElem?_pos, List.getElem?_set, len, t0, t3, lvl, hi']; rfl)
      exact nilN (or := or)
    all_goals simp [-getElem?_pos, List.getElem?_set, len, t0, t2, t3]
  obtain ⟨tm2, e2, l2, f2_0, f2_2, f2_3, f2_4, f2_17⟩ : ∃ tm2 : List AVal, aCode or true n (fstC (fstC (fstC (sndC (fstC (fstC (sndC (fstC (sndC (a27.code)))))))))) ⟨tm1, H, []⟩ = some (.normal, ⟨tm2, H, []⟩) ∧ tm2.length = 128 ∧ tm2[0]? = some (vl) ∧ tm2[2]? = some (abool false) ∧ tm2[3]? = some (vi i) ∧ tm2[4]? = some (vi 0) ∧ tm2[17]? = some (abool true) := by
    refine ⟨?e2w, ?e2a, ?e2b0, ?e2b1, ?e2b2, ?e2b3, ?e2b4, ?e2b5⟩
    case e2a =>
      apply regN
      iterate 1 (apply stepN; · simp [-getElem?_pos, List.getElem?_set, l1]; rfl)
      exact nilN (or := or)
    all_goals simp [-getElem?_pos, List.getElem?_set, l1, f1_0, f1_2, f1_3, f1_17]
  obtain ⟨H1, tm3, e3, ⟨l3, q0, q2, q3⟩, hm1⟩ := loop27a or n own vl avs lc cont i a ha (hL i a ha) hi (lc i).length 0 n H tm2 (by omega) (hn i a ha) hm l2 f2_0 f2_2 f2_3 f2_4
  obtain ⟨tm4, e4, l4, f4_0, f4_2, f4_3⟩ : ∃ tm4 : List AVal, aCode or true n (sndC (sndC (fstC (fstC (sndC (fstC (sndC (a27.code)))))))) ⟨tm3, H1, []⟩ = some (.normal, ⟨tm4, H1, []⟩) ∧ tm4.length = 128 ∧ tm4[0]? = some (vl) ∧ tm4[2]? = some (abool false) ∧ tm4[3]? = some (vi ((i : Int) + 1)) := by
    refine ⟨?e4w, ?e4a, ?e4b0, ?e4b1, ?e4b2, ?e4b3⟩
    case e4a =>
      apply regN
      iterate 3 (apply stepN; · simp [-getElem?_pos, List.getElem?_set, l3, q3, w]; rfl)
      exact nilN (or := or)
    all_goals simp [-getElem?_pos, List.getElem?_set, l3, q0, q2, q3]
  exact ⟨H1, tm4, (seqN (seqN e1 (condT f1_17 skipN)) (seqN (blkN (seqN e2 (blkE (loopC e3)))) e4)), l4, f4_0, f4_2, f4_3, hm1⟩

theorem end27b (or : Oracle) (n : Nat) (H : AHeap) (own : Nat → Nat) (vl : AVal) (avs : List AVal) (lc : Nat → List (List AVal)) (cont : Nat → List (List AVal)) (hm : Marked H own vl anil avs (upTo lc avs.length 0) [] cont) (hL : ∀ (i : Nat) a, avs[i]? = some a → ((lc i).length + 71) * 32 ≤ 140737488355328) (hi : avs.length ≤ 1000) (tm : List AVal) (len : tm.length = 128) (t0 : tm[0]? = some (vl)) (t2 : tm[2]? = some (abool false)) (t3 : tm[3]? = some (vi avs.length)) :
    ∃ tm', aCode or true n (fstC (fstC (sndC (fstC (sndC (a27.code)))))) ⟨tm, H, []⟩ = some (.exit 0, ⟨tm', H, []⟩) ∧ tm'.length = 128 ∧ tm'[0]? = some (vl) ∧ tm'[2]? = some (abool false) := by
  have lvl := hm.rdl.lenS
  rw [List.length_map] at lvl
  obtain ⟨tm1, e1, l1, f1_0, f1_2, f1_3, f1_17⟩ : ∃ tm1 : List AVal, aCode or true n (fstC (fstC (fstC (fstC (sndC (fstC (sndC (a27.code)))))))) ⟨tm, H, []⟩ = some (.normal, ⟨tm1, H, []⟩) ∧ tm1.length = 128 ∧ tm1[0]? = some (vl) ∧ tm1[2]? = some (abool false) ∧ tm1[3]? = some (vi avs.length) ∧ tm1[17]? = some (abool false) := by
    refine ⟨?e1w, ?e1a, ?e1b0, ?e1b1, ?e1b2, ?e1b3, ?e1b4⟩
    case e1a =>
      apply regN
      iterate 4 (apply stepN; · simp [-getElem?_pos, List.getElem?_set, len, t0, t3, lvl]; rfl)
      exact nilN (or := or)
    all_goals simp [-getElem?_pos, List.getElem?_set, len, t0, t2, t3]
  exact ⟨tm1, (seqX (seqN e1 (condF f1_17 exitN)) (by simp)), l1, f1_0, f1_2⟩

theorem loop27b (or : Oracle) (n : Nat) (own : Nat → Nat) (vl : AVal) (avs : List AVal) (lc : Nat → List (List AVal)) (cont : Nat → List (List AVal)) (hL : ∀ (i : Nat) a, avs[i]? = some a → ((lc i).length + 71) * 32 ≤ 140737488355328) (hi : avs.length ≤ 1000) (hn : ∀ (i : Nat) a, avs[i]? = some a → (lc i).length < n) :
    ∀ (j i q : Nat) (H : AHeap) (tm : List AVal), i + j = avs.length → j < q → Marked H own vl anil avs (upTo lc i 0) [] cont → tm.length = 128 → tm[0]? = some (vl) → tm[2]? = some (abool false) → tm[3]? = some (vi i) →
      ∃ H' tm', aLoop (aCode or true n (fstC (fstC (sndC (fstC (sndC (a27.code))))))) q ⟨tm, H, []⟩ = some (.exit 0, ⟨tm', H', []⟩) ∧ (tm'.length = 128 ∧ tm'[0]? = some (vl) ∧ tm'[2]? = some (abool false)) ∧ Marked H' own vl anil avs (upTo lc avs.length 0) [] cont
  | 0, i, q + 1, H, tm, hj, _, hm, len, t0, t2, t3 => by
    have : i = avs.length := by omega
    subst this
    obtain ⟨tm', h1, h2⟩ := end27b or n H own vl avs lc cont hm hL hi tm len t0 t2 t3
    exact ⟨H, tm', by simp only [aLoop, h1], h2, hm⟩
  | j + 1, i, q + 1, H, tm, hj, hq, hm, len, t0, t2, t3 => by
    have hx : avs[i]? = some avs[i] := List.getElem?_eq_getElem (by omega)
    obtain ⟨H', tm', h1, l, f0, f2, f3, m1⟩ := it27b or n H own vl avs lc cont i hm hL hi _ hx hn tm len t0 t2 t3
    obtain ⟨H2, tm2, g1, g2⟩ := loop27b or n own vl avs lc cont hL hi hn j (i + 1) q H' tm' (by omega) (by omega) m1 l f0 f2 f3
    exact ⟨H2, tm2, by simp only [aLoop, h1, g1], g2⟩

theorem it27c (or : Oracle) (n : Nat) (H : AHeap) (own : Nat → Nat) (vl vL : AVal) (avs : List AVal) (lc : Nat → List (List AVal)) (lav : List AVal) (i k : Nat) (hm : Marked H own vl vL avs (seven lc) lav (contF lc)) (hlav : lav.length = 17 * i + min k 16) (x : AVal) (hx : SliceE H 0 32 x (seven lc i ++ List.replicate k (mark i 8))) (hxl : x.lies fun R => own R = i + 2)
    (hL : ((lc i).length + 71) * 32 ≤ 140737488355328) (hi : i < 1000) (hk : k < 70) (hk16 : k < 16) (tm : List AVal) (len : tm.length = 128) (t0 : tm[0]? = some (vl)) (t2 : tm[2]? = some (abool false)) (t5 : tm[5]? = some (vL)) (t6 : tm[6]? = some (vi i)) (t7 : tm[7]? = some (x)) (t8 : tm[8]? = some (vi k)) :
    ∃ H' own' v' lav' x' tm', aCode or true n (fstC (fstC (sndC (fstC (sndC (fstC (fstC (sndC (fstC (fstC (sndC (fstC (sndC (sndC (sndC (a27.code)))))))))))))))) ⟨tm, H, []⟩ = some (.normal, ⟨tm', H', []⟩) ∧ tm'.length = 128 ∧ tm'[0]? = some (vl) ∧ tm'[2]? = some (abool false) ∧ tm'[5]? = some (v') ∧ tm'[6]? = some (vi i) ∧ tm'[7]? = some (x') ∧ tm'[8]? = some (vi ((k : Int) + 1)) ∧ Marked H' own' vl v' avs (seven lc) lav' (contF lc) ∧ lav'.length = 17 * i + min (k + 1) 16 ∧ SliceE H' 0 32 x' (seven lc i ++ List.replicate (k + 1) (mark i 8)) ∧ (x'.lies fun R => own' R = i + 2) := by
  have hk' : (k : Int) < 70 := by omega
  have hsv : (seven lc i).length = (lc i).length := by simp [seven]
  obtain ⟨x', H1, own1, happ, hm1, hx1, hxl1⟩ := hm.grow hx hxl (by rw [List.length_append]; exact Nat.le_add_right _ _) (fun q w hw hq => by
    have hql := (List.getElem?_eq_some_iff.1 hw).1
    unfold contF
    rw [hq, List.length_append, List.length_append, List.length_replicate, List.length_replicate]
    exact Nat.add_le_add_left (cnt_le (by rw [← hlav]; exact hql) hq) _) (mark_is i 8) (by rw [List.length_append, List.length_replicate, hsv]; exact bound9 hL hk)
  rw [List.append_assoc, ← List.replicate_succ'] at hx1
  rw [mark8] at happ
  have hk16' : (k : Int) < 16 := by omega
  obtain ⟨vL', H2, own2, happ2, hm2, hx2, hxl2⟩ := hm1.note hx1 hxl1 (by omega) (by omega)
  have hc : (fun q => if q = lav.length then seven lc i ++ List.replicate (k + 1) (mark i 8) else contF lc q) = contF lc := by
    funext q
    split
    · rename_i h
      subst h
      unfold contF cnt
      rw [show lav.length / 17 = i by omega, show lav.length % 17 = k by omega, if_pos hk16]
    · rfl
  rw [hc] at hm2
  have cx := hx1.rd.cells1
  have hl9 : (lav ++ [x']).length = 17 * i + min (k + 1) 16 := by rw [List.length_append, List.length_singleton]; omega
  have w : wrapF .i64 ((k : Int) + 1) = ((k : Int) + 1) := wrapI (by omega) (by omega)
  have wi : wrapF .i64 ((i : Int) + 1) = ((i : Int) + 1) := by clear w; exact wrapI (by omega) (by omega)
  obtain ⟨tm1, e1, l1, f1_0, f1_2, f1_5, f1_6, f1_7, f1_8, f1_50⟩ : ∃ tm1 : List AVal, aCode or true n (fstC (fstC (fstC (fstC (sndC (fstC (sndC (fstC (fstC (sndC (fstC (fstC (sndC (fstC (sndC (sndC (sndC (a27.code)))))))))))))))))) ⟨tm, H, []⟩ = some (.normal, ⟨tm1, H, []⟩) ∧ tm1.length = 128 ∧ tm1[0]? = some (vl) ∧ tm1[2]? = some (abool false) ∧ tm1[5]? = some (vL) ∧ tm1[6]? = some (vi i) ∧ tm1[7]? = some (x) ∧ tm1[8]? = some (vi k) ∧ tm1[50]? = some (abool true) := by
    refine ⟨?e1w, ?e1a, ?e1b0, ?e1b1, ?e1b2, ?e1b3, ?e1b4, ?e1b5, ?e1b6, ?e1b7⟩
    case e1a =>
      apply regN
      iterate 2 (apply stepN; · simp [-getElem?_pos, List.getElem?_set, len, t8, hk']; rfl)
      exact nilN (or := or)
    all_goals simp [-getElem?_pos, List.getElem?_set, len, t0, t2, t5, t6, t7, t8]
  obtain ⟨tm2, e2, l2, f2_0, f2_2, f2_5, f2_6, f2_7, f2_8, f2_50⟩ : ∃ tm2 : List AVal, aCode or true n (fstC (fstC (fstC (sndC (fstC (fstC (sndC (fstC (sndC (fstC (fstC (sndC (fstC (fstC (sndC (fstC (sndC (sndC (sndC (a27.code)))))))))))))))))))) ⟨tm1, H, []⟩ = some (.normal, ⟨tm2, H1, []⟩) ∧ tm2.length = 128 ∧ tm2[0]? = some (vl) ∧ tm2[2]? = some (abool false) ∧ tm2[5]? = some (vL) ∧ tm2[6]? = some (vi i) ∧ tm2[7]? = some (x') ∧ tm2[8]? = some (vi k) ∧ tm2[50]? = some (abool true) := by
    refine ⟨?e2w, ?e2a, ?e2b0, ?e2b1, ?e2b2, ?e2b3, ?e2b4, ?e2b5, ?e2b6, ?e2b7⟩
    case e2a =>
      apply regN
      iterate 8 (apply stepN; · simp [-getElem?_pos, List.getElem?_set, l1, f1_6, f1_7, wi, aFill, spl, repl, AVal.cells, happ]; rfl)
      exact nilN (or := or)
    all_goals simp [-getElem?_pos, List.getElem?_set, l1, f1_0, f1_2, f1_5, f1_6, f1_7, f1_8, f1_50]
  obtain ⟨tm3, e3, l3, f3_0, f3_2, f3_5, f3_6, f3_7, f3_8, f3_50, f3_61⟩ : ∃ tm3 : List AVal, aCode or true n (fstC (sndC (fstC (fstC (sndC (fstC (fstC (sndC (fstC (sndC (fstC (fstC (sndC (fstC (fstC (sndC (fstC (sndC (sndC (sndC (a27.code))))))))))))))))))))) ⟨tm2, H1, []⟩ = some (.normal, ⟨tm3, H1, []⟩) ∧ tm3.length = 128 ∧ tm3[0]? = some (vl) ∧ tm3[2]? = some (abool false) ∧ tm3[5]? = some (vL) ∧ tm3[6]? = some (vi i) ∧ tm3[7]? = some (x') ∧ tm3[8]? = some (vi k) ∧ tm3[50]? = some (abool true) ∧ tm3[61]? = some (abool true) := by
    refine ⟨?e3w, ?e3a, ?e3b0, ?e3b1, ?e3b2, ?e3b3, ?e3b4, ?e3b5, ?e3b6, ?e3b7, ?e3b8⟩
    case e3a =>
      apply regN
      iterate 2 (apply stepN; · simp [-getElem?_pos, List.getElem?_set, l2, f2_8, hk16']; rfl)
      exact nilN (or := or)
    all_goals simp [-getElem?_pos, List.getElem?_set, l2, f2_0, f2_2, f2_5, f2_6, f2_7, f2_8, f2_50]
  obtain ⟨tm4, e4, l4, f4_0, f4_2, f4_5, f4_6, f4_7, f4_8, f4_50, f4_61⟩ : ∃ tm4 : List AVal, aCode or true n (fstC (sndC (sndC (fstC (fstC (sndC (fstC (fstC (sndC (fstC (sndC (fstC (fstC (sndC (fstC (fstC (sndC (fstC (sndC (sndC (sndC (a27.code)))))))))))))))))))))) ⟨tm3, H1, []⟩ = some (.normal, ⟨tm4, H2, []⟩) ∧ tm4.length = 128 ∧ tm4[0]? = some (vl) ∧ tm4[2]? = some (abool false) ∧ tm4[5]? = some (vL') ∧ tm4[6]? = some (vi i) ∧ tm4[7]? = some (x') ∧ tm4[8]? = some (vi k) ∧ tm4[50]? = some (abool true) ∧ tm4[61]? = some (abool true) := by
    refine ⟨?e4w, ?e4a, ?e4b0, ?e4b1, ?e4b2, ?e4b3, ?e4b4, ?e4b5, ?e4b6, ?e4b7, ?e4b8⟩
    case e4a =>
      apply regN
      iterate 5 (apply stepN; · simp [-getElem?_pos, List.getElem?_set, l3, f3_5, f3_7, cx, aFill, spl, repl, happ2]; rfl)
      exact nilN (or := or)
    all_goals simp [-getElem?_pos, List.getElem?_set, l3, f3_0, f3_2, f3_5, f3_6, f3_7, f3_8, f3_50, f3_61]
  obtain ⟨tm5, e5, l5, f5_0, f5_2, f5_5, f5_6, f5_7, f5_8, f5_50, f5_61⟩ : ∃ tm5 : List AVal, aCode or true n (sndC (sndC (fstC (fstC (sndC (fstC (sndC (fstC (fstC (sndC (fstC (fstC (sndC (fstC (sndC (sndC (sndC (a27.code)))))))))))))))))) ⟨tm4, H2, []⟩ = some (.normal, ⟨tm5, H2, []⟩) ∧ tm5.length = 128 ∧ tm5[0]? = some (vl) ∧ tm5[2]? = some (abool false) ∧ tm5[5]? = some (vL') ∧ tm5[6]? = some (vi i) ∧ tm5[7]? = some (x') ∧ tm5[8]? = some (vi ((k : Int) + 1)) ∧ tm5[50]? = some (abool true) ∧ tm5[61]? = some (abool true) := by
    refine ⟨?e5w, ?e5a, ?e5b0, ?e5b1, ?e5b2, ?e5b3, ?e5b4, ?e5b5, ?e5b6, ?e5b7, ?e5b8⟩
    case e5a =>
      apply regN
      iterate 3 (apply stepN; · simp [-getElem?_pos, List.getElem?_set, l4, f4_8, w]; rfl)
      exact nilN (or := or)
    all_goals simp [-getElem?_pos, List.getElem?_set, l4, f4_0, f4_2, f4_5, f4_6, f4_7, f4_8, f4_50, f4_61]
  exact ⟨H2, own2, vL', lav ++ [x'], x', tm5, (seqN (seqN e1 (condT f1_50 skipN)) (seqN (blkN (seqN e2 (seqN e3 (condT f3_61 e4)))) e5)), l5, f5_0, f5_2, f5_5, f5_6, f5_7, f5_8, hm2, hl9, hx2, hxl2⟩

theorem it27d (or : Oracle) (n : Nat) (H : AHeap) (own : Nat → Nat) (vl vL : AVal) (avs : List AVal) (lc : Nat → List (List AVal)) (lav : List AVal) (i k : Nat) (hm : Marked H own vl vL avs (seven lc) lav (contF lc)) (hlav : lav.length = 17 * i + min k 16) (x : AVal) (hx : SliceE H 0 32 x (seven lc i ++ List.replicate k (mark i 8))) (hxl : x.lies fun R => own R = i + 2)
    (hL : ((lc i).length + 71) * 32 ≤ 140737488355328) (hi : i < 1000) (hk : k < 70) (hk16 : ¬ k < 16) (tm : List AVal) (len : tm.length = 128) (t0 : tm[0]? = some (vl)) (t2 : tm[2]? = some (abool false)) (t5 : tm[5]? = some (vL)) (t6 : tm[6]? = some (vi i)) (t7 : tm[7]? = some (x)) (t8 : tm[8]? = some (vi k)) :
    ∃ H' own' v' lav' x' tm', aCode or true n (fstC (fstC (sndC (fstC (sndC (fstC (fstC (sndC (fstC (fstC (sndC (fstC (sndC (sndC (sndC (a27.code)))))))))))))))) ⟨tm, H, []⟩ = some (.normal, ⟨tm', H', []⟩) ∧ tm'.length = 128 ∧ tm'[0]? = some (vl) ∧ tm'[2]? = some (abool false) ∧ tm'[5]? = some (v') ∧ tm'[6]? = some (vi i) ∧ tm'[7]? = some (x') ∧ tm'[8]? = some (vi ((k : Int) + 1)) ∧ Marked H' own' vl v' avs (seven lc) lav' (contF lc) ∧ lav'.length = 17 * i + min (k + 1) 16 ∧ SliceE H' 0 32 x' (seven lc i ++ List.replicate (k + 1) (mark i 8)) ∧ (x'.lies fun R => own' R = i + 2) := by
  have hk' : (k : Int) < 70 := by omega
  have hsv : (seven lc i).length = (lc i).length := by simp [seven]
  obtain ⟨x', H1, own1, happ, hm1, hx1, hxl1⟩ := hm.grow hx hxl (by rw [List.length_append]; exact Nat.le_add_right _ _) (fun q w hw hq => by
    have hql := (List.getElem?_eq_some_iff.1 hw).1
    unfold contF
    rw [hq, List.length_append, List.length_append, List.length_replicate, List.length_replicate]
    exact Nat.add_le_add_left (cnt_le (by rw [← hlav]; exact hql) hq) _) (mark_is i 8) (by rw [List.length_append, List.length_replicate, hsv]; exact bound9 hL hk)
  rw [List.append_assoc, ← List.replicate_succ'] at hx1
  rw [mark8] at happ
  have hk16' : ¬ (k : Int) < 16 := by omega
  have hl9 : lav.length = 17 * i + min (k + 1) 16 := by omega
  have w : wrapF .i64 ((k : Int) + 1) = ((k : Int) + 1) := wrapI (by omega) (by omega)
  have wi : wrapF .i64 ((i : Int) + 1) = ((i : Int) + 1) := by clear w; exact wrapI (by omega) (by omega)
  obtain ⟨tm1, e1, l1, f1_0, f1_2, f1_5, f1_6, f1_7, f1_8, f1_50⟩ : ∃ tm1 : List AVal, aCode or true n (fstC (fstC (fstC (fstC (sndC (fstC (sndC (fstC (fstC (sndC (fstC (fstC (sndC (fstC (sndC (sndC (sndC (a27.code)))))))))))))))))) ⟨tm, H, []⟩ = some (.normal, ⟨tm1, H, []⟩) ∧ tm1.length = 128 ∧ tm1[0]? = some (vl) ∧ tm1[2]? = some (abool false) ∧ tm1[5]? = some (vL) ∧ tm1[6]? = some (vi i) ∧ tm1[7]? = some (x) ∧ tm1[8]? = some (vi k) ∧ tm1[50]? = some (abool true) := by
    refine ⟨?e1w, ?e1a, ?e1b0, ?e1b1, ?e1b2, ?e1b3, ?e1b4, ?e1b5, ?e1b6, ?e1b7⟩
    case e1a =>
      apply regN
      iterate 2 (apply stepN; · simp [-getElem?_pos, List.getElem?_set, len, t8, hk']; rfl)
      exact nilN (or := or)
    all_goals simp [-getElem?_pos, List.getElem?_set, len, t0, t2, t5, t6, t7, t8]
  obtain ⟨tm2, e2, l2, f2_0, f2_2, f2_5, f2_6, f2_7, f2_8, f2_50⟩ : ∃ tm2 : List AVal, aCode or true n (fstC (fstC (fstC (sndC (fstC (fstC (sndC (fstC (sndC (fstC (fstC (sndC (fstC (fstC (sndC (fstC (sndC (sndC (sndC (a27.code)))))))))))))))))))) ⟨tm1, H, []⟩ = some (.normal, ⟨tm2, H1, []⟩) ∧ tm2.length = 128 ∧ tm2[0]? = some (vl) ∧ tm2[2]? = some (abool false) ∧ tm2[5]? = some (vL) ∧ tm2[6]? = some (vi i) ∧ tm2[7]? = some (x') ∧ tm2[8]? = some (vi k) ∧ tm2[50]? = some (abool true) := by
    refine ⟨?e2w, ?e2a, ?e2b0, ?e2b1, ?e2b2, ?e2b3, ?e2b4, ?e2b5, ?e2b6, ?e2b7⟩
    case e2a =>
      apply regN
      iterate 8 (apply stepN; · simp [-getElem?_pos, List.getElem?_set, l1, f1_6, f1_7, wi, aFill, spl, repl, AVal.cells, happ]; rfl)
      exact nilN (or := or)
    all_goals simp [-getElem?_pos, List.getElem?_set, l1, f1_0, f1_2, f1_5, f1_6, f1_7, f1_8, f1_50]
  obtain ⟨tm3, e3, l3, f3_0, f3_2, f3_5, f3_6, f3_7, f3_8, f3_50, f3_61⟩ : ∃ tm3 : List AVal, aCode or true n (fstC (sndC (fstC (fstC (sndC (fstC (fstC (sndC (fstC (sndC (fstC (fstC (sndC (fstC (fstC (sndC (fstC (sndC (sndC (sndC (a27.code))))))))))))))))))))) ⟨tm2, H1, []⟩ = some (.normal, ⟨tm3, H1, []⟩) ∧ tm3.length = 128 ∧ tm3[0]? = some (vl) ∧ tm3[2]? = some (abool false) ∧ tm3[5]? = some (vL) ∧ tm3[6]? = some (vi i) ∧ tm3[7]? = some (x') ∧ tm3[8]? = some (vi k) ∧ tm3[50]? = some (abool true) ∧ tm3[61]? = some (abool false) := by
    refine ⟨?e3w, ?e3a, ?e3b0, ?e3b1, ?e3b2, ?e3b3, ?e3b4, ?e3b5, ?e3b6, ?e3b7, ?e3b8⟩
    case e3a =>
      apply regN
      iterate 2 (apply stepN; · simp [-getElem?_pos, List.getElem?_set, l2, f2_8, hk16']; rfl)
      exact nilN (or := or)
    all_goals simp [-getElem?_pos, List.getElem?_set, l2, f2_0, f2_2, f2_5, f2_6, f2_7, f2_8, f2_50]
  obtain ⟨tm4, e4, l4, f4_0, f4_2, f4_5, f4_6, f4_7, f4_8, f4_50, f4_61⟩ : ∃ tm4 : List AVal, aCode or true n (sndC (sndC (fstC (fstC (sndC (fstC (sndC (fstC (fstC (sndC (fstC (fstC (sndC (fstC (sndC (sndC (sndC (a27.code)))))))))))))))))) ⟨tm3, H1, []⟩ = some (.normal, ⟨tm4, H1, []⟩) ∧ tm4.length = 128 ∧ tm4[0]? = some (vl) ∧ tm4[2]? = some (abool false) ∧ tm4[5]? = some (vL) ∧ tm4[6]? = some (vi i) ∧ tm4[7]? = some (x') ∧ tm4[8]? = some (vi ((k : Int) + 1)) ∧ tm4[50]? = some (abool true) ∧ tm4[61]? = some (abool false) := by
    refine ⟨?e4w, ?e4a, ?e4b0, ?e4b1, ?e4b2, ?e4b3, ?e4b4, ?e4b5, ?e4b6, ?e4b7, ?e4b8⟩
    case e4a =>
      apply regN
      iterate 3 (apply stepN; · simp [-getElem?_pos, List.getElem?_set, l3, f3_8, w]; rfl)
      exact nilN (or := or)
    all_goals simp [-getElem?_pos, List.getElem?_set, l3, f3_0, f3_2, f3_5, f3_6, f3_7, f3_8, f3_50, f3_61]
  exact ⟨H1, own1, vL, lav, x', tm4, (seqN (seqN e1 (condT f1_50 skipN)) (seqN (blkN (seqN e2 (seqN e3 (condF f3_61 skipN)))) e4)), l4, f4_0, f4_2, f4_5, f4_6, f4_7, f4_8, hm1, hl9, hx1, hxl1⟩

theorem end27c (or : Oracle) (n : Nat) (H : AHeap) (vl vL x : AVal) (i : Nat) (tm : List AVal) (len : tm.length = 128) (t0 : tm[0]? = some (vl)) (t2 : tm[2]? = some (abool false)) (t5 : tm[5]? = some (vL)) (t6 : tm[6]? = some (vi i)) (t7 : tm[7]? = some (x)) (t8 : tm[8]? = some (vi 70)) :
    ∃ tm', aCode or true n (fstC (fstC (sndC (fstC (sndC (fstC (fstC (sndC (fstC (fstC (sndC (fstC (sndC (sndC (sndC (a27.code)))))))))))))))) ⟨tm, H, []⟩ = some (.exit 6, ⟨tm', H, []⟩) ∧ tm'.length = 128 ∧ tm'[0]? = some (vl) ∧ tm'[2]? = some (abool false) ∧ tm'[5]? = some (vL) ∧ tm'[6]? = some (vi i) ∧ tm'[7]? = some (x) := by
  obtain ⟨tm1, e1, l1, f1_0, f1_2, f1_5, f1_6, f1_7, f1_8, f1_50⟩ : ∃ tm1 : List AVal, aCode or true n (fstC (fstC (fstC (fstC (sndC (fstC (sndC (fstC (fstC (sndC (fstC (fstC (sndC (fstC (sndC (sndC (sndC (a27.code)))))))))))))))))) ⟨tm, H, []⟩ = some (.normal, ⟨tm1, H, []⟩) ∧ tm1.length = 128 ∧ tm1[0]? = some (vl) ∧ tm1[2]? = some (abool false) ∧ tm1[5]? = some (vL) ∧ tm1[6]? = some (vi i) ∧ tm1[7]? = some (x) ∧ tm1[8]? = some (vi 70) ∧ tm1[50]? = some (abool false) := by
    refine ⟨?e1w, ?e1a, ?e1b0, ?e1b1, ?e1b2, ?e1b3, ?e1b4, ?e1b5, ?e1b6, ?e1b7⟩
    case e1a =>
      apply regN
      iterate 2 (apply stepN; · simp [-getElem?_pos, List.getElem?_set, len, t8]; rfl)
      exact nilN (or := or)
    all_goals simp [-getElem?_pos, List.getElem?_set, len, t0, t2, t5, t6, t7, t8]
  exact ⟨tm1, (seqX (seqN e1 (condF f1_50 exitN)) (by simp)), l1, f1_0, f1_2, f1_5, f1_6, f1_7⟩

theorem loop27c (or : Oracle) (n : Nat) (vl : AVal) (avs : List AVal) (lc : Nat → List (List AVal)) (i : Nat) (hL : ((lc i).length + 71) * 32 ≤ 140737488355328) (hi : i < 1000) :
    ∀ (j k q : Nat) (H : AHeap) (own : Nat → Nat) (vL x : AVal) (lav : List AVal) (tm : List AVal), k + j = 70 → j < q → Marked H own vl vL avs (seven lc) lav (contF lc) → lav.length = 17 * i + min k 16 → SliceE H 0 32 x (seven lc i ++ List.replicate k (mark i 8)) → (x.lies fun R => own R = i + 2) → tm.length = 128 → tm[0]? = some (vl) → tm[2]? = some (abool false) → tm[5]? = some (vL) → tm[6]? = some (vi i) → tm[7]? = some (x) → tm[8]? = some (vi k) →
      ∃ H' own' v' lav' x' tm', aLoop (aCode or true n (fstC (fstC (sndC (fstC (sndC (fstC (fstC (sndC (fstC (fstC (sndC (fstC (sndC (sndC (sndC (a27.code))))))))))))))))) q ⟨tm, H, []⟩ = some (.exit 6, ⟨tm', H', []⟩) ∧ (tm'.length = 128 ∧ tm'[0]? = some (vl) ∧ tm'[2]? = some (abool false) ∧ tm'[5]? = some (v') ∧ tm'[6]? = some (vi i) ∧ tm'[7]? = some (x')) ∧ Marked H' own' vl v' avs (seven lc) lav' (contF lc) ∧ lav'.length = 17 * i + 16 ∧ SliceE H' 0 32 x' (seven lc i ++ List.replicate 70 (mark i 8)) ∧ (x'.lies fun R => own' R = i + 2)
  | 0, k, q + 1, H, own, vL, x, lav, tm, hj, _, hm, hlav, hx, hxl, len, t0, t2, t5, t6, t7, t8 => by
    have : k = 70 := by omega
    subst this
    obtain ⟨tm', h1, h2⟩ := end27c or n H vl vL x i tm len t0 t2 t5 t6 t7 t8
    exact ⟨H, own, vL, lav, x, tm', by simp only [aLoop, h1], h2, hm, by omega, hx, hxl⟩
  | j + 1, k, q + 1, H, own, vL, x, lav, tm, hj, hq, hm, hlav, hx, hxl, len, t0, t2, t5, t6, t7, t8 => by
    have step : ∃ H' own' v' lav' x' tm', aCode or true n (fstC (fstC (sndC (fstC (sndC (fstC (fstC (sndC (fstC (fstC (sndC (fstC (sndC (sndC (sndC (a27.code)))))))))))))))) ⟨tm, H, []⟩ = some (.normal, ⟨tm', H', []⟩) ∧ (tm'.length = 128 ∧ tm'[0]? = some (vl) ∧ tm'[2]? = some (abool false) ∧ tm'[5]? = some (v') ∧ tm'[6]? = some (vi i) ∧ tm'[7]? = some (x') ∧ tm'[8]? = some (vi ((k : Int) + 1))) ∧ Marked H' own' vl v' avs (seven lc) lav' (contF lc) ∧ lav'.length = 17 * i + min (k + 1) 16 ∧ SliceE H' 0 32 x' (seven lc i ++ List.replicate (k + 1) (mark i 8)) ∧ (x'.lies fun R => own' R = i + 2) := by
      by_cases hk16 : k < 16
      · obtain ⟨H', own', v', lav', x', tm', h1, l, f0, f2, f5, f6, f7, f8, r⟩ := it27c or n H own vl vL avs lc lav i k hm hlav x hx hxl hL hi (by omega) hk16 tm len t0 t2 t5 t6 t7 t8
        exact ⟨H', own', v', lav', x', tm', h1, ⟨l, f0, f2, f5, f6, f7, f8⟩, r⟩
      · obtain ⟨H', own', v', lav', x', tm', h1, l, f0, f2, f5, f6, f7, f8, r⟩ := it27d or n H own vl vL avs lc lav i k hm hlav x hx hxl hL hi (by omega) hk16 tm len t0 t2 t5 t6 t7 t8
        exact ⟨H', own', v', lav', x', tm', h1, ⟨l, f0, f2, f5, f6, f7, f8⟩, r⟩
    obtain ⟨H', own', v', lav', x', tm', h1, ⟨l, f0, f2, f5, f6, f7, f8⟩, m1, n1, s1, o1⟩ := step
    obtain ⟨H2, own2, v2, lav2, x2, tm2, g1, g2⟩ := loop27c or n vl avs lc i hL hi j (k + 1) q H' own' v' x' lav' tm' (by omega) (by omega) m1 n1 s1 o1 l f0 f2 f5 f6 f7 f8
    exact ⟨H2, own2, v2, lav2, x2, tm2, by simp only [aLoop, h1, g1], g2⟩

theorem it27e (or : Oracle) (n : Nat) (H : AHeap) (own : Nat → Nat) (vl vL : AVal) (avs : List AVal) (lc : Nat → List (List AVal)) (lav : List AVal) (i : Nat) (hm : Marked H own vl vL avs (seven lc) lav (contF lc)) (hlav : lav.length = 17 * i) (hL : ∀ (i : Nat) a, avs[i]? = some a → ((lc i).length + 71) * 32 ≤ 140737488355328) (hi : avs.length ≤ 1000) (a : AVal) (ha : avs[i]? = some a) (hn : 70 < n) (tm : List AVal) (len : tm.length = 128) (t0 : tm[0]? = some (vl)) (t2 : tm[2]? = some (abool false)) (t5 : tm[5]? = some (vL)) (t6 : tm[6]? = some (vi i)) :
    ∃ H' own' vL' lav' tm', aCode or true n (fstC (fstC (sndC (fstC (sndC (sndC (sndC (a27.code)))))))) ⟨tm, H, []⟩ = some (.normal, ⟨tm', H', []⟩) ∧ tm'.length = 128 ∧ tm'[0]? = some (vl) ∧ tm'[2]? = some (abool false) ∧ tm'[5]? = some (vL') ∧ tm'[6]? = some (vi ((i : Int) + 1)) ∧ Marked H' own' vl vL' avs (seven lc) lav' (contF lc) ∧ lav'.length = 17 * (i + 1) := by
  have lvl := hm.rdl.lenS
  rw [List.length_map] at lvl
  have hi2 := (List.getElem?_eq_some_iff.1 ha).1
  have hi' : (i : Int) < avs.length := by omega
  have w : wrapF .i64 ((i : Int) + 1) = ((i : Int) + 1) := wrapI (by omega) (by omega)
  obtain ⟨Rv, verv, offv, kcv, exv, cellsv, hvl1, p2, p3, p4⟩ := RdE.at1 hm.rdl ha
  obtain ⟨sa, la⟩ := hm.at_ i a ha
  obtain ⟨tm1, e1, l1, f1_0, f1_2, f1_5, f1_6, f1_42⟩ : ∃ tm1 : List AVal, aCode or true n (fstC (fstC (fstC (fstC (sndC (fstC (sndC (sndC (sndC (a27.code)))))))))) ⟨tm, H, []⟩ = some (.normal, ⟨tm1, H, []⟩) ∧ tm1.length = 128 ∧ tm1[0]? = some (vl) ∧ tm1[2]? = some (abool false) ∧ tm1[5]? = some (vL) ∧ tm1[6]? = some (vi i) ∧ tm1[42]? = some (abool true) := by
    refine ⟨?e1w, ?e1a, ?e1b0, ?e1b1, ?e1b2, ?e1b3, ?e1b4, ?e1b5⟩
    case e1a =>
      apply regN
      iterate 4 (apply stepN; · simp [-getElem?_pos, List.getElem?_set, len, t0, t6, lvl, hi']; rfl)
      exact nilN (or := or)
    all_goals simp [-getElem?_pos, List.getElem?_set, len, t0, t2, t5, t6]
  obtain ⟨tm2, e2, l2, f2_0, f2_2, f2_5, f2_6, f2_7, f2_42⟩ : ∃ tm2 : List AVal, aCode or true n (fstC (fstC (fstC (sndC (fstC (fstC (sndC (fstC (sndC (sndC (sndC (a27.code)))))))))))) ⟨tm1, H, []⟩ = some (.normal, ⟨tm2, H, []⟩) ∧ tm2.length = 128 ∧ tm2[0]? = some (vl) ∧ tm2[2]? = some (abool false) ∧ tm2[5]? = some (vL) ∧ tm2[6]? = some (vi i) ∧ tm2[7]? = some (a) ∧ tm2[42]? = some (abool true) := by
    refine ⟨?e2w, ?e2a, ?e2b0, ?e2b1, ?e2b2, ?e2b3, ?e2b4, ?e2b5, ?e2b6⟩
    case e2a =>
      apply regN
      iterate 5 (apply stepN; · simp [-getElem?_pos, List.getElem?_set, l1, f1_0, f1_6, hvl1, hi2, p2, p3, p4]; rfl)
      exact nilN (or := or)
    all_goals simp [-getElem?_pos, List.getElem?_set, l1, f1_0, f1_2, f1_5, f1_6, f1_42]
  obtain ⟨tm3, e3, l3, f3_0, f3_2, f3_5, f3_6, f3_7, f3_8, f3_42⟩ : ∃ tm3 : List AVal, aCode or true n (fstC (fstC (sndC (fstC (fstC (sndC (fstC (fstC (sndC (fstC (sndC (sndC (sndC (a27.code)))))))))))))) ⟨tm2, H, []⟩ = some (.normal, ⟨tm3, H, []⟩) ∧ tm3.length = 128 ∧ tm3[0]? = some (vl) ∧ tm3[2]? = some (abool false) ∧ tm3[5]? = some (vL) ∧ tm3[6]? = some (vi i) ∧ tm3[7]? = some (a) ∧ tm3[8]? = some (vi 0) ∧ tm3[42]? = some (abool true) := by
    refine ⟨?e3w, ?e3a, ?e3b0, ?e3b1, ?e3b2, ?e3b3, ?e3b4, ?e3b5, ?e3b6, ?e3b7⟩
    case e3a =>
      apply regN
      iterate 1 (apply stepN; · simp [-getElem?_pos, List.getElem?_set, l2]; rfl)
      exact nilN (or := or)
    all_goals simp [-getElem?_pos, List.getElem?_set, l2, f2_0, f2_2, f2_5, f2_6, f2_7, f2_42]
  obtain ⟨H1, own1, vL1, lav1, x1, tm4, e4, ⟨l4, q0, q2, q5, q6, q7⟩, hm1, n1, s1, o1⟩ := loop27c or n vl avs lc i (hL i a ha) (by omega) 70 0 n H own vL a lav tm3 (by omega) hn hm (by omega) (by simpa using sa) la l3 f3_0 f3_2 f3_5 f3_6 f3_7 f3_8
  obtain ⟨vL', H2, own2, happ2, hm2, _, _⟩ := hm1.note s1 o1 (by omega) (by omega)
  have hc : (fun q => if q = lav1.length then seven lc i ++ List.replicate 70 (mark i 8) else contF lc q) = contF lc := by
    funext q
    split
    · rename_i h
      subst h
      unfold contF cnt
      rw [show lav1.length / 17 = i by omega, show lav1.length % 17 = 16 by omega]
      rfl
    · rfl
  rw [hc] at hm2
  have cx := s1.rd.cells1
  obtain ⟨tm5, e5, l5, f5_0, f5_2, f5_5, f5_6, f5_7⟩ : ∃ tm5 : List AVal, aCode or true n (sndC (sndC (fstC (fstC (sndC (fstC (fstC (sndC (fstC (sndC (sndC (sndC (a27.code))))))))))))) ⟨tm4, H1, []⟩ = some (.normal, ⟨tm5, H2, []⟩) ∧ tm5.length = 128 ∧ tm5[0]? = some (vl) ∧ tm5[2]? = some (abool false) ∧ tm5[5]? = some (vL') ∧ tm5[6]? = some (vi i) ∧ tm5[7]? = some (x1) := by
    refine ⟨?e5w, ?e5a, ?e5b0, ?e5b1, ?e5b2, ?e5b3, ?e5b4, ?e5b5⟩
    case e5a =>
      apply regN
      iterate 5 (apply stepN; · simp [-getElem?_pos, List.getElem?_set, l4, q5, q7, cx, aFill, spl, repl, happ2]; rfl)
      exact nilN (or := or)
    all_goals simp [-getElem?_pos, List.getElem?_set, l4, q0, q2, q5, q6, q7]
  obtain ⟨tm6, e6, l6, f6_0, f6_2, f6_5, f6_6, f6_7⟩ : ∃ tm6 : List AVal, aCode or true n (sndC (sndC (fstC (fstC (sndC (fstC (sndC (sndC (sndC (a27.code)))))))))) ⟨tm5, H2, []⟩ = some (.normal, ⟨tm6, H2, []⟩) ∧ tm6.length = 128 ∧ tm6[0]? = some (vl) ∧ tm6[2]? = some (abool false) ∧ tm6[5]? = some (vL') ∧ tm6[6]? = some (vi ((i : Int) + 1)) ∧ tm6[7]? = some (x1) := by
    refine ⟨?e6w, ?e6a, ?e6b0, ?e6b1, ?e6b2, ?e6b3, ?e6b4, ?e6b5⟩
    case e6a =>
      apply regN
      iterate 3 (apply stepN; · simp [-getElem?_pos, List.getElem?_set, l5, f5_6, w]; rfl)
      exact nilN (or := or)
    all_goals simp [-getElem?_pos, List.getElem?_set, l5, f5_0, f5_2, f5_5, f5_6, f5_7]
  exact ⟨H2, own2, vL', lav1 ++ [x1], tm6, (seqN (seqN e1 (condT f1_42 skipN)) (seqN (blkN (seqN e2 (seqN (seqN e3 (blkE (loopC e4))) e5))) e6)), l6, f6_0, f6_2, f6_5, f6_6, hm2, by simp; omega⟩

theorem end27e (or : Oracle) (n : Nat) (H : AHeap) (own : Nat → Nat) (vl vL : AVal) (avs : List AVal) (lc : Nat → List (List AVal)) (lav : List AVal) (hm : Marked H own vl vL avs (seven lc) lav (contF lc)) (hL : ∀ (i : Nat) a, avs[i]? = some a → ((lc i).length + 71) * 32 ≤ 140737488355328) (hi : avs.length ≤ 1000) (tm : List AVal) (len : tm.length = 128) (t0 : tm[0]? = some (vl)) (t2 : tm[2]? = some (abool false)) (t5 : tm[5]? = some (vL)) (t6 : tm[6]? = some (vi avs.length)) :
    ∃ tm', aCode or true n (fstC (fstC (sndC (fstC (sndC (sndC (sndC (a27.code)))))))) ⟨tm, H, []⟩ = some (.exit 4, ⟨tm', H, []⟩) ∧ tm'.length = 128 ∧ tm'[0]? = some (vl) ∧ tm'[2]? = some (abool false) ∧ tm'[5]? = some (vL) := by
  have lvl := hm.rdl.lenS
  rw [List.length_map] at lvl
  obtain ⟨tm1, e1, l1, f1_0, f1_2, f1_5, f1_6, f1_42⟩ : ∃ tm1 : List AVal, aCode or true n (fstC (fstC (fstC (fstC (sndC (fstC (sndC (sndC (sndC (a27.code)))))))))) ⟨tm, H, []⟩ = some (.normal, ⟨tm1, H, []⟩) ∧ tm1.length = 128 ∧ tm1[0]? = some (vl) ∧ tm1[2]? = some (abool false) ∧ tm1[5]? = some (vL) ∧ tm1[6]? = some (vi avs.length) ∧ tm1[42]? = some (abool false) := by
    refine ⟨?e1w, ?e1a, ?e1b0, ?e1b1, ?e1b2, ?e1b3, ?e1b4, ?e1b5⟩
    case e1a =>
      apply regN
      iterate 4 (apply stepN; · simp [-getElem?_pos, List.getElem?_set, len, t0, t6, lvl]; rfl)
      exact nilN (or := or)
    all_goals simp [-getElem?_pos, List.getElem?_set, len, t0, t2, t5, t6]
  exact ⟨tm1, (seqX (seqN e1 (condF f1_42 exitN)) (by simp)), l1, f1_0, f1_2, f1_5⟩

theorem loop27e (or : Oracle) (n : Nat) (vl : AVal) (avs : List AVal) (lc : Nat → List (List AVal)) (hL : ∀ (i : Nat) a, avs[i]? = some a → ((lc i).length + 71) * 32 ≤ 140737488355328) (hi : avs.length ≤ 1000) (hn : 70 < n) :
    ∀ (j i q : Nat) (H : AHeap) (own : Nat → Nat) (vL : AVal) (lav : List AVal) (tm : List AVal), i + j = avs.length → j < q → Marked H own vl vL avs (seven lc) lav (contF lc) → lav.length = 17 * i → tm.length = 128 → tm[0]? = some (vl) → tm[2]? = some (abool false) → tm[5]? = some (vL) → tm[6]? = some (vi i) →
      ∃ H' own' vL' lav' tm', aLoop (aCode or true n (fstC (fstC (sndC (fstC (sndC (sndC (sndC (a27.code))))))))) q ⟨tm, H, []⟩ = some (.exit 4, ⟨tm', H', []⟩) ∧ (tm'.length = 128 ∧ tm'[0]? = some (vl) ∧ tm'[2]? = some (abool false) ∧ tm'[5]? = some (vL')) ∧ Marked H' own' vl vL' avs (seven lc) lav' (contF lc) ∧ lav'.length = 17 * avs.length
  | 0, i, q + 1, H, own, vL, lav, tm, hj, _, hm, hlav, len, t0, t2, t5, t6 => by
    have : i = avs.length := by omega
    subst this
    obtain ⟨tm', h1, h2⟩ := end27e or n H own vl vL avs lc lav hm hL hi tm len t0 t2 t5 t6
    exact ⟨H, own, vL, lav, tm', by simp only [aLoop, h1], h2, hm, hlav⟩
  | j + 1, i, q + 1, H, own, vL, lav, tm, hj, hq, hm, hlav, len, t0, t2, t5, t6 => by
    have hx : avs[i]? = some avs[i] := List.getElem?_eq_getElem (by omega)
    obtain ⟨H', own', vL', lav', tm', h1, l, f0, f2, f5, f6, m1, n1⟩ := it27e or n H own vl vL avs lc lav i hm hlav hL hi _ hx hn tm len t0 t2 t5 t6
    obtain ⟨H2, own2, v2, lav2, tm2, g1, g2⟩ := loop27e or n vl avs lc hL hi hn j (i + 1) q H' own' vL' lav' tm' (by omega) (by omega) m1 n1 l f0 f2 f5 f6
    exact ⟨H2, own2, v2, lav2, tm2, by simp only [aLoop, h1, g1], g2⟩

end Go.Proofs.Ythbjfkkjmecaaaa
