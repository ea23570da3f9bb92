/- Walks: Alone, whole. -/
import Derived.Test.YthbjfkkjmecaaaaAloneF
namespace Go.Proofs.Ythbjfkkjmecaaaa
open Go Go.Vm

set_option linter.unusedVariables false
set_option linter.unusedSimpArgs false
attribute [local simp] aStep awanted aOp ev aRess aRes1 tup aBin aUn aArith ASt.put ile_eq ilt_eq ieq_eq aPart List.getElem?_cons_zero

def zeros64 : Map := List.replicate 64 zeroV

theorem a39_res : a39.res = [.tmp 4, .tmp 5, .tmp 6] := rfl

def z39 : List AVal := match fstC (sndC (sndC (sndC (a39.code)))) with
  | .region (o :: _) => (match o.op with | .alloc z => z | _ => [])
  | _ => []
theorem z39_eq : z39 = zeros64.flatten := by kernel_rfl
theorem r13_ok (or : Oracle) (n : Nat) (tm : List AVal) (H : AHeap) : aCode or true n (fstC (sndC (sndC (sndC (a39.code))))) ⟨tm, H, []⟩ = some (.normal, ⟨tm.set 11 (vp H.next), H.push (.row [some (0, zeros64.flatten)]), []⟩) := by
  rw [← z39_eq]; rfl

theorem zeros64_len : zeros64.length = 64 := by simp [zeros64]
theorem zeros64_vals : ∀ v ∈ zeros64, IsVal v := fun v hv => by rw [(List.mem_replicate.1 hv).2]; exact zeroV_is
theorem txsM_len : ∀ (l : List (List OpD)) (m : Map), (txsM m l).length = m.length
  | [], m => rfl
  | t :: r, m => by show (txsM (opsM m t) r).length = _; rw [txsM_len r, opsM_len]

/-- Alone of a number of blocks that may not be. -/
theorem c39n (n : Nat) (b : Int) (hb : ¬ (1 ≤ b ∧ b ≤ 64)) (vt : AVal) (H : AHeap) : callM kn env (n + 2) (.func (.func 39) []) [vi b, vt] H = some (.tuple [anil, anil, vi 2], H) := by
  rw [opnM (af := a39) rfl (n + 1) _ _ _ rfl]
  have h61 := c61 n b H
  rw [decide_eq_false hb] at h61
  generalize callM kn env (n + 1) = or at h61
  have len : (initTm a39 [vi b, vt]).length = 90 := rfl
  have t0 : (initTm a39 [vi b, vt])[0]? = some (vi b) := rfl
  have t1 : (initTm a39 [vi b, vt])[1]? = some vt := rfl
  show endF a39.res (aCode or true (n + 1) a39.code ⟨initTm a39 [vi b, vt], H, []⟩) = _
  generalize initTm a39 [vi b, vt] = tm at len t0 t1
  obtain ⟨tm1, e1, l1, f1_0, f1_1, f1_4, f1_5, f1_6⟩ : ∃ tm1 : List AVal, aCode or true (n + 1) (fstC (a39.code)) ⟨tm, H, []⟩ = some (.normal, ⟨tm1, H, []⟩) ∧ tm1.length = 90 ∧ tm1[0]? = some (vi b) ∧ tm1[1]? = some (vt) ∧ tm1[4]? = some (anil) ∧ tm1[5]? = some (anil) ∧ tm1[6]? = some (vi 0) := by
    refine ⟨?e1w, ?e1a, ?e1b0, ?e1b1, ?e1b2, ?e1b3, ?e1b4, ?e1b5⟩
    case e1a =>
      apply regN
      iterate 3 (apply stepN; · simp [-getElem?_pos, List.getElem?_set, len]; rfl)
      exact nilN (or := or)
    all_goals simp [-getElem?_pos, List.getElem?_set, len, t0, t1]
  obtain ⟨tm2, e2, l2, f2_0, f2_1, f2_4, f2_5, f2_6, f2_19⟩ : ∃ tm2 : List AVal, aCode or true (n + 1) (fstC (fstC (sndC (a39.code)))) ⟨tm1, H, []⟩ = some (.normal, ⟨tm2, H, []⟩) ∧ tm2.length = 90 ∧ tm2[0]? = some (vi b) ∧ tm2[1]? = some (vt) ∧ tm2[4]? = some (anil) ∧ tm2[5]? = some (anil) ∧ tm2[6]? = some (vi 0) ∧ tm2[19]? = some (abool true) := by
    refine ⟨?e2w, ?e2a, ?e2b0, ?e2b1, ?e2b2, ?e2b3, ?e2b4, ?e2b5, ?e2b6⟩
    case e2a =>
      apply regN
      iterate 3 (apply stepN; · simp [-getElem?_pos, List.getElem?_set, l1, f1_0, h61]; rfl)
      exact nilN (or := or)
    all_goals simp [-getElem?_pos, List.getElem?_set, l1, f1_0, f1_1, f1_4, f1_5, f1_6]
  obtain ⟨tm3, e3, l3, f3_0, f3_1, f3_4, f3_5, f3_6, f3_19⟩ : ∃ tm3 : List AVal, aCode or true (n + 1) (fstC (fstC (sndC (fstC (sndC (a39.code)))))) ⟨tm2, H, []⟩ = some (.normal, ⟨tm3, H, []⟩) ∧ tm3.length = 90 ∧ tm3[0]? = some (vi b) ∧ tm3[1]? = some (vt) ∧ tm3[4]? = some (anil) ∧ tm3[5]? = some (anil) ∧ tm3[6]? = some (vi 2) ∧ tm3[19]? = some (abool true) := by
    refine ⟨?e3w, ?e3a, ?e3b0, ?e3b1, ?e3b2, ?e3b3, ?e3b4, ?e3b5, ?e3b6⟩
    case e3a =>
      apply regN
      iterate 3 (apply stepN; · simp [-getElem?_pos, List.getElem?_set, l2]; rfl)
      exact nilN (or := or)
    all_goals simp [-getElem?_pos, List.getElem?_set, l2, f2_0, f2_1, f2_4, f2_5, f2_6, f2_19]
  exact endN (es := (.ret, ⟨tm3, H, []⟩)) (seqN e1 (seqX (seqN e2 (condT f2_19 (seqN e3 retN))) (by simp))) (by simp [-getElem?_pos, endF, leaveN, a39_res, f3_4, f3_5, f3_6])

/-- Alone of operations among which one may not be. -/
theorem c39b (n : Nat) (b : Int) (hb : 1 ≤ b ∧ b ≤ 64) (vt : AVal) (avt : List AVal) (txs : List (List OpD)) (H : AHeap) (ht : TxsAt H vt avt txs) (hn : ∀ t ∈ txs, t.length < n + 1) (hn2 : txs.length < n + 1) (hg : ∃ t ∈ txs, ∃ o ∈ t, o.bad b) :
    ∃ H', callM kn env (n + 2) (.func (.func 39) []) [vi b, vt] H = some (.tuple [anil, anil, vi 2], H') ∧ Grow H H' := by
  have h61 := c61 n b H
  rw [decide_eq_true hb] at h61
  have la := ht.rd.lenS
  rw [List.length_map, ht.len] at la
  have lp := loop39o (callM kn env (n + 1)) (n + 1) b vt avt txs hn
  rw [opnM (af := a39) rfl (n + 1) _ _ _ rfl]
  generalize callM kn env (n + 1) = or at h61 lp
  have len : (initTm a39 [vi b, vt]).length = 90 := rfl
  have t0 : (initTm a39 [vi b, vt])[0]? = some (vi b) := rfl
  have t1 : (initTm a39 [vi b, vt])[1]? = some vt := rfl
  show ∃ H', endF a39.res (aCode or true (n + 1) a39.code ⟨initTm a39 [vi b, vt], H, []⟩) = _ ∧ _
  generalize initTm a39 [vi b, vt] = tm at len t0 t1
  obtain ⟨tm1, e1, l1, f1_0, f1_1, f1_4, f1_5, f1_6⟩ : ∃ tm1 : List AVal, aCode or true (n + 1) (fstC (a39.code)) ⟨tm, H, []⟩ = some (.normal, ⟨tm1, H, []⟩) ∧ tm1.length = 90 ∧ tm1[0]? = some (vi b) ∧ tm1[1]? = some (vt) ∧ tm1[4]? = some (anil) ∧ tm1[5]? = some (anil) ∧ tm1[6]? = some (vi 0) := by
    refine ⟨?e1w, ?e1a, ?e1b0, ?e1b1, ?e1b2, ?e1b3, ?e1b4, ?e1b5⟩
    case e1a =>
      apply regN
      iterate 3 (apply stepN; · simp [-getElem?_pos, List.getElem?_set, len]; rfl)
      exact nilN (or := or)
    all_goals simp [-getElem?_pos, List.getElem?_set, len, t0, t1]
  obtain ⟨tm2, e2, l2, f2_0, f2_1, f2_4, f2_5, f2_6, f2_19⟩ : ∃ tm2 : List AVal, aCode or true (n + 1) (fstC (fstC (sndC (a39.code)))) ⟨tm1, H, []⟩ = some (.normal, ⟨tm2, H, []⟩) ∧ tm2.length = 90 ∧ tm2[0]? = some (vi b) ∧ tm2[1]? = some (vt) ∧ tm2[4]? = some (anil) ∧ tm2[5]? = some (anil) ∧ tm2[6]? = some (vi 0) ∧ tm2[19]? = some (abool false) := by
    refine ⟨?e2w, ?e2a, ?e2b0, ?e2b1, ?e2b2, ?e2b3, ?e2b4, ?e2b5, ?e2b6⟩
    case e2a =>
      apply regN
      iterate 3 (apply stepN; · simp [-getElem?_pos, List.getElem?_set, l1, f1_0, h61]; rfl)
      exact nilN (or := or)
    all_goals simp [-getElem?_pos, List.getElem?_set, l1, f1_0, f1_1, f1_4, f1_5, f1_6]
  obtain ⟨tm3, e3, l3, f3_0, f3_1, f3_4, f3_5, f3_6, f3_19, f3_20, f3_21, f3_22⟩ : ∃ tm3 : List AVal, aCode or true (n + 1) (fstC (fstC (sndC (sndC (a39.code))))) ⟨tm2, H, []⟩ = some (.normal, ⟨tm3, H, []⟩) ∧ tm3.length = 90 ∧ tm3[0]? = some (vi b) ∧ tm3[1]? = some (vt) ∧ tm3[4]? = some (anil) ∧ tm3[5]? = some (anil) ∧ tm3[6]? = some (vi 0) ∧ tm3[19]? = some (abool false) ∧ tm3[20]? = some (vt) ∧ tm3[21]? = some (vi txs.length) ∧ tm3[22]? = some (vi 0) := by
    refine ⟨?e3w, ?e3a, ?e3b0, ?e3b1, ?e3b2, ?e3b3, ?e3b4, ?e3b5, ?e3b6, ?e3b7, ?e3b8, ?e3b9⟩
    case e3a =>
      apply regN
      iterate 3 (apply stepN; · simp [-getElem?_pos, List.getElem?_set, l2, f2_1, la]; rfl)
      exact nilN (or := or)
    all_goals simp [-getElem?_pos, List.getElem?_set, l2, f2_0, f2_1, f2_4, f2_5, f2_6, f2_19]
  obtain ⟨H2, tm4, g2, e4, l4, q4, q5, q6⟩ : ∃ H2 tmk, Grow H H2 ∧ aLoop (aCode or true (n + 1) (fstC (fstC (sndC (fstC (sndC (sndC (a39.code)))))))) (n + 1) ⟨tm3, H, []⟩ = some (.ret, ⟨tmk, H2, []⟩) ∧ tmk.length = 90 ∧ tmk[4]? = some anil ∧ tmk[5]? = some anil ∧ tmk[6]? = some (vi 2) := by
    obtain ⟨H2, tm2, g2, r⟩ := lp txs.length 0 (n + 1) H tm3 (by omega) hn2 ht l3 f3_0 f3_1 f3_4 f3_20 f3_21 f3_22
    rcases r with ⟨_, r2, _⟩ | ⟨r1, _, r3⟩
    · obtain ⟨t, htt, o, hoo, hob⟩ := hg
      exact absurd hob (r2 t (by simpa using htt) o hoo)
    · exact ⟨H2, tm2, g2, r1, r3⟩
  exact ⟨H2, endN (es := (.ret, ⟨tm4, H2, []⟩)) (seqN e1 (seqN (seqN e2 (condF f2_19 skipN)) (seqX (seqN e3 (blkR (loopC e4))) (by simp)))) (by simp [-getElem?_pos, endF, leaveN, a39_res, q4, q5, q6]), g2⟩

/-- Alone: what is told, and the map. -/
theorem c39g (n : Nat) (b : Nat) (hb : 1 ≤ b ∧ b ≤ 64) (vt : AVal) (avt : List AVal) (txs : List (List OpD)) (H : AHeap) (ht : TxsAt H vt avt txs) (hn : ∀ t ∈ txs, t.length < n + 1) (hn2 : txs.length < n + 1) (hg : ∀ t ∈ txs, ∀ o ∈ t, ¬ o.bad b) :
    ∃ v4 v5 avs H', callM kn env (n + 2) (.func (.func 39) []) [vi b, vt] H = some (.tuple [v4, v5, vi 0], H') ∧ Grow H H' ∧ ToldAt H' H.next v4 avs (toldT zeros64 txs) ∧ SliceE H' H.next 32 v5 ((txsM zeros64 txs).take b) ∧
      (v5.lies fun R => v4.lies (· ≠ R) ∧ ∀ (i : Nat) a, avs[i]? = some a → a.lies (· ≠ R)) := by
  have h61 := c61 n (b : Int) H
  rw [decide_eq_true (show 1 ≤ (b : Int) ∧ (b : Int) ≤ 64 by omega)] at h61
  have la := ht.rd.lenS
  rw [List.length_map, ht.len] at la
  have lp := loop39o (callM kn env (n + 1)) (n + 1) (b : Int) vt avt txs hn
  rw [opnM (af := a39) rfl (n + 1) _ _ _ rfl]
  have lp2 := loop39d (callM kn env (n + 1)) (n + 1) b hb.2 vt avt txs hn hg zeros64 zeros64_len zeros64_vals
  have h66 := fun (H3 : AHeap) v es h1 h2 h3 h4 h5 => c66 n H3 v es h1 h2 h3 h4 h5
  generalize callM kn env (n + 1) = or at h61 lp lp2 h66
  have len : (initTm a39 [vi b, vt]).length = 90 := rfl
  have t0 : (initTm a39 [vi b, vt])[0]? = some (vi b) := rfl
  have t1 : (initTm a39 [vi b, vt])[1]? = some vt := rfl
  show ∃ v4 v5 avs H', endF a39.res (aCode or true (n + 1) a39.code ⟨initTm a39 [vi b, vt], H, []⟩) = _ ∧ _
  generalize initTm a39 [vi b, vt] = tm at len t0 t1
  obtain ⟨tm1, e1, l1, f1_0, f1_1, f1_4, f1_5, f1_6⟩ : ∃ tm1 : List AVal, aCode or true (n + 1) (fstC (a39.code)) ⟨tm, H, []⟩ = some (.normal, ⟨tm1, H, []⟩) ∧ tm1.length = 90 ∧ tm1[0]? = some (vi b) ∧ tm1[1]? = some (vt) ∧ tm1[4]? = some (anil) ∧ tm1[5]? = some (anil) ∧ tm1[6]? = some (vi 0) := by
    refine ⟨?e1w, ?e1a, ?e1b0, ?e1b1, ?e1b2, ?e1b3, ?e1b4, ?e1b5⟩
    case e1a =>
      apply regN
      iterate 3 (apply stepN; · simp [-getElem?_pos, List.getElem?_set, len]; rfl)
      exact nilN (or := or)
    all_goals simp [-getElem?_pos, List.getElem?_set, len, t0, t1]
  obtain ⟨tm2, e2, l2, f2_0, f2_1, f2_4, f2_5, f2_6, f2_19⟩ : ∃ tm2 : List AVal, aCode or true (n + 1) (fstC (fstC (sndC (a39.code)))) ⟨tm1, H, []⟩ = some (.normal, ⟨tm2, H, []⟩) ∧ tm2.length = 90 ∧ tm2[0]? = some (vi b) ∧ tm2[1]? = some (vt) ∧ tm2[4]? = some (anil) ∧ tm2[5]? = some (anil) ∧ tm2[6]? = some (vi 0) ∧ tm2[19]? = some (abool false) := by
    refine ⟨?e2w, ?e2a, ?e2b0, ?e2b1, ?e2b2, ?e2b3, ?e2b4, ?e2b5, ?e2b6⟩
    case e2a =>
      apply regN
      iterate 3 (apply stepN; · simp [-getElem?_pos, List.getElem?_set, l1, f1_0, h61]; rfl)
      exact nilN (or := or)
    all_goals simp [-getElem?_pos, List.getElem?_set, l1, f1_0, f1_1, f1_4, f1_5, f1_6]
  obtain ⟨tm3, e3, l3, f3_0, f3_1, f3_4, f3_5, f3_6, f3_19, f3_20, f3_21, f3_22⟩ : ∃ tm3 : List AVal, aCode or true (n + 1) (fstC (fstC (sndC (sndC (a39.code))))) ⟨tm2, H, []⟩ = some (.normal, ⟨tm3, H, []⟩) ∧ tm3.length = 90 ∧ tm3[0]? = some (vi b) ∧ tm3[1]? = some (vt) ∧ tm3[4]? = some (anil) ∧ tm3[5]? = some (anil) ∧ tm3[6]? = some (vi 0) ∧ tm3[19]? = some (abool false) ∧ tm3[20]? = some (vt) ∧ tm3[21]? = some (vi txs.length) ∧ tm3[22]? = some (vi 0) := by
    refine ⟨?e3w, ?e3a, ?e3b0, ?e3b1, ?e3b2, ?e3b3, ?e3b4, ?e3b5, ?e3b6, ?e3b7, ?e3b8, ?e3b9⟩
    case e3a =>
      apply regN
      iterate 3 (apply stepN; · simp [-getElem?_pos, List.getElem?_set, l2, f2_1, la]; rfl)
      exact nilN (or := or)
    all_goals simp [-getElem?_pos, List.getElem?_set, l2, f2_0, f2_1, f2_4, f2_5, f2_6, f2_19]
  obtain ⟨H2, tm4, g2, e4, l4, q0, q1, q4⟩ : ∃ H2 tmk, Grow H H2 ∧ aLoop (aCode or true (n + 1) (fstC (fstC (sndC (fstC (sndC (sndC (a39.code)))))))) (n + 1) ⟨tm3, H, []⟩ = some (.exit 0, ⟨tmk, H2, []⟩) ∧ tmk.length = 90 ∧ tmk[0]? = some (vi b) ∧ tmk[1]? = some vt ∧ tmk[4]? = some anil := by
    obtain ⟨H2, tm2, g2, r⟩ := lp txs.length 0 (n + 1) H tm3 (by omega) hn2 ht l3 f3_0 f3_1 f3_4 f3_20 f3_21 f3_22
    rcases r with ⟨r1, _, r3⟩ | ⟨_, ⟨t, r2, o, r4, r5⟩, _⟩
    · exact ⟨H2, tm2, g2, r1, r3⟩
    · exact absurd r5 (hg t (by simpa using r2) o r4)
  obtain ⟨tm5, e5, l5, f5_0, f5_1, f5_4, f5_11⟩ : ∃ tm5 : List AVal, aCode or true (n + 1) (fstC (sndC (sndC (sndC (a39.code))))) ⟨tm4, H2, []⟩ = some (.normal, ⟨tm5, (H2.push (.row [some (0, zeros64.flatten)])), []⟩) ∧ tm5.length = 90 ∧ tm5[0]? = some (vi b) ∧ tm5[1]? = some (vt) ∧ tm5[4]? = some (anil) ∧ tm5[11]? = some (vp H2.next) := by
    refine ⟨?e5w, ?e5a, ?e5b0, ?e5b1, ?e5b2, ?e5b3, ?e5b4⟩
    case e5a =>
      exact r13_ok or (n + 1) _ _
    all_goals simp [-getElem?_pos, List.getElem?_set, l4, q0, q1, q4]
  obtain ⟨tm6, e6, l6, f6_0, f6_1, f6_4, f6_11, f6_53, f6_54, f6_55⟩ : ∃ tm6 : List AVal, aCode or true (n + 1) (fstC (fstC (sndC (sndC (sndC (sndC (a39.code))))))) ⟨tm5, (H2.push (.row [some (0, zeros64.flatten)])), []⟩ = some (.normal, ⟨tm6, (H2.push (.row [some (0, zeros64.flatten)])), []⟩) ∧ tm6.length = 90 ∧ tm6[0]? = some (vi b) ∧ tm6[1]? = some (vt) ∧ tm6[4]? = some (anil) ∧ tm6[11]? = some (vp H2.next) ∧ tm6[53]? = some (vt) ∧ tm6[54]? = some (vi txs.length) ∧ tm6[55]? = some (vi 0) := by
    refine ⟨?e6w, ?e6a, ?e6b0, ?e6b1, ?e6b2, ?e6b3, ?e6b4, ?e6b5, ?e6b6, ?e6b7⟩
    case e6a =>
      apply regN
      iterate 3 (apply stepN; · simp [-getElem?_pos, List.getElem?_set, l5, f5_1, la]; rfl)
      exact nilN (or := or)
    all_goals simp [-getElem?_pos, List.getElem?_set, l5, f5_0, f5_1, f5_4, f5_11]
  have gp := g2.trans (Grow.push H2 (.row [some (0, zeros64.flatten)]))
  have cmz : Cells (H2.push (.row [some (0, zeros64.flatten)])) H2.next zeros64.flatten := AHeap.get_push_same _ _
  have ht2 := ht.grow gp
  obtain ⟨H3, v4, avs, tm7, e7, ⟨l7, p0, p4, p11⟩, cm3, hd3, hn3, hk3⟩ := lp2 H2.next (lies_lt ht.lies g2.next) (fun i a ha => lies_lt (ht.at_ i a _ ha (List.getElem?_eq_getElem (by rw [← ht.len]; exact (List.getElem?_eq_some_iff.1 ha).1))).2 g2.next) txs.length 0 (n + 1) _ anil [] tm6 (by omega) hn2 ht2 (by simp) cmz (ToldAt.nil _ _) l6 f6_0 f6_4 f6_11 f6_53 f6_54 f6_55
  have g3 : Grow H H3 := ⟨by have := gp.next; omega, fun A hA => by rw [hk3 A (by have := g2.next; omega), gp.get A hA]⟩
  have hlm : (txsM zeros64 txs).length = 64 := by rw [txsM_len]; rfl
  have hvm := txsM_vals txs zeros64_vals ht.ok
  have hfl := flatten_len (n := 32) (es := txsM zeros64 txs) fun v hv => (hvm v hv).len
  rw [hlm] at hfl
  have hsl : aSliceA H3 64 32 (vp H2.next) none (some (vi b)) none = some (.slice H2.next 0 0 b 64 true 32) := by
    have b2 : (b : Int) ≤ 64 := by omega
    simp [aSliceA, cm3.at, -List.length_flatten, hfl, aBoundO, aBound, ile_eq, b2]
  have hrd : RdE H3 32 (.slice H2.next 0 0 b 64 true 32) ((txsM zeros64 txs).take b) := by
    have hl : ((txsM zeros64 txs).take b).length = b := by rw [List.length_take, hlm]; omega
    refine ⟨fun v hv => (hvm v (List.mem_of_mem_take hv)).len, .inr ⟨H2.next, 0, 0, 64, true, (txsM zeros64 txs).flatten, by rw [hl], cm3.at, by rw [hl]; omega, by rw [hl, hfl]; omega, ?_⟩⟩
    rw [hl, List.drop_zero, flatten_take b fun v hv => (hvm v hv).len]
  have hne : (txsM zeros64 txs).take b ≠ [] := fun h => by
    have := congrArg List.length h
    rw [List.length_take, hlm] at this
    simp at this; omega
  obtain ⟨k1, k2⟩ := h66 H3 _ _ hrd (fun R a1 a2 a3 a4 a5 a6 q => by cases q; have := hn3; simp at this; omega) hne (fun v hv => (hvm v (List.mem_of_mem_take hv)).one) (by rw [List.length_take, hlm]; omega)
  have gq : Grow H3 ((H3.push (.row [some (0, [])])).push (.row [some (0, ((txsM zeros64 txs).take b).flatten)])) := (Grow.push _ _).trans (Grow.push _ _)
  generalize (H3.push (.row [some (0, [])])).push (.row [some (0, ((txsM zeros64 txs).take b).flatten)]) = H4 at k1 k2 gq
  have hc5 : AVal.cells (.slice (H3.next + 1) 0 0 ((txsM zeros64 txs).take b).length ((txsM zeros64 txs).take b).length false 32) = [.slice (H3.next + 1) 0 0 ((txsM zeros64 txs).take b).length ((txsM zeros64 txs).take b).length false 32] := rfl
  generalize hv5 : AVal.slice (H3.next + 1) 0 0 ((txsM zeros64 txs).take b).length ((txsM zeros64 txs).take b).length false 32 = v5 at k1 k2
  obtain ⟨tm8, e8, l8, f8_0, f8_4, f8_5, f8_6, f8_11⟩ : ∃ tm8 : List AVal, aCode or true (n + 1) (fstC (sndC (sndC (sndC (sndC (sndC (a39.code))))))) ⟨tm7, H3, []⟩ = some (.normal, ⟨tm8, H4, []⟩) ∧ tm8.length = 90 ∧ tm8[0]? = some (vi b) ∧ tm8[4]? = some (v4) ∧ tm8[5]? = some (v5) ∧ tm8[6]? = some (vi 0) ∧ tm8[11]? = some (vp H2.next) := by
    refine ⟨?e8w, ?e8a, ?e8b0, ?e8b1, ?e8b2, ?e8b3, ?e8b4, ?e8b5⟩
    case e8a =>
      apply regN
      iterate 7 (apply stepN; · simp [-getElem?_pos, List.getElem?_set, l7, p0, p4, p11, hsl, k1]; rfl)
      exact nilN (or := or)
    all_goals simp [-getElem?_pos, List.getElem?_set, l7, p0, p4, p11]
  refine ⟨v4, v5, avs, H4, endN (es := (.ret, ⟨tm8, H4, []⟩)) (seqN e1 (seqN (seqN e2 (condF f2_19 skipN)) (seqN (seqN e3 (blkE (loopC e4))) (seqN e5 (seqN (seqN e6 (blkE (loopC e7))) (seqN e8 retN)))))) (by simp [-getElem?_pos, endF, leaveN, a39_res, f8_4, f8_5, f8_6]), g3.trans gq, hd3.move (by have := g2.next; omega) gq.next (fun A _ hA => gq.get A hA), k2.move (by have := g3.next; omega) (Nat.le_refl _) (fun _ _ _ => rfl), ?_⟩
  intro R a1 a2 a3 a4 a5 a6 q
  subst hv5
  cases q
  refine ⟨fun R' b1 b2 b3 b4 b5 b6 q' => ?_, fun i a ha R' b1 b2 b3 b4 b5 b6 q' => ?_⟩
  · have := (hd3.rd.lies R' b1 b2 b3 b4 b5 b6 q').2
    omega
  · have hi := (List.getElem?_eq_some_iff.1 ha).1
    have hi2 : i < (toldT zeros64 txs).length := by rw [← hd3.len]; exact hi
    have := ((hd3.at_ i a _ ha (List.getElem?_eq_getElem hi2)).lies R' b1 b2 b3 b4 b5 b6 q').2
    omega

end Go.Proofs.Ythbjfkkjmecaaaa
