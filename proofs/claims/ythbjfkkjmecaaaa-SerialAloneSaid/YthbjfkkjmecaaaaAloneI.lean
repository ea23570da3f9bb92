/- Walks: the document's Alone, whole. -/
import Derived.Test.YthbjfkkjmecaaaaAloneH
namespace Go.Proofs.Ythbjfkkjmecaaaa
open Go Go.Vm

set_option linter.unusedVariables false
set_option linter.unusedSimpArgs false
attribute [local simp] aStep awanted aOp ev aRess aRes1 tup aBin aUn aArith ASt.put ile_eq ilt_eq ieq_eq aPart List.getElem?_cons_zero

def zerosB (b : Nat) : Map := List.replicate b zeroV
theorem repl_zeros : ∀ b : Nat, repl b [v8 0, v8 0, v8 0, v8 0, v8 0, v8 0, v8 0, v8 0, v8 0, v8 0, v8 0, v8 0, v8 0, v8 0, v8 0, v8 0, v8 0, v8 0, v8 0, v8 0, v8 0, v8 0, v8 0, v8 0, v8 0, v8 0, v8 0, v8 0, v8 0, v8 0, v8 0, v8 0] = (zerosB b).flatten
  | 0 => rfl
  | b + 1 => by
    show [v8 0, v8 0, v8 0, v8 0, v8 0, v8 0, v8 0, v8 0, v8 0, v8 0, v8 0, v8 0, v8 0, v8 0, v8 0, v8 0, v8 0, v8 0, v8 0, v8 0, v8 0, v8 0, v8 0, v8 0, v8 0, v8 0, v8 0, v8 0, v8 0, v8 0, v8 0, v8 0] ++ repl b [v8 0, v8 0, v8 0, v8 0, v8 0, v8 0, v8 0, v8 0, v8 0, v8 0, v8 0, v8 0, v8 0, v8 0, v8 0, v8 0, v8 0, v8 0, v8 0, v8 0, v8 0, v8 0, v8 0, v8 0, v8 0, v8 0, v8 0, v8 0, v8 0, v8 0, v8 0, v8 0] = _
    rw [repl_zeros b]
    rfl
theorem zerosB_take (b : Nat) (h : b ≤ 64) : zeros64.take b = zerosB b := by
  unfold zeros64 zerosB
  rw [List.take_replicate, Nat.min_eq_left h]
theorem zerosB_len (b : Nat) : (zerosB b).length = b := by simp [zerosB]
theorem zerosB_vals (b : Nat) : ∀ v ∈ zerosB b, IsVal v := fun v hv => by rw [(List.mem_replicate.1 hv).2]; exact zeroV_is

theorem TxsAt.below {H H' : AHeap} {vt : AVal} {avt : List AVal} {txs : List (List OpD)} (ht : TxsAt H vt avt txs) {B : Nat} (hlv : vt.lies (· < B)) (hla : ∀ (i : Nat) va, avt[i]? = some va → va.lies (· < B)) (hn : H.next ≤ H'.next) (g : ∀ A, A < B → H'.get A = H.get A) : TxsAt H' vt avt txs where
  rd := ht.rd.move fun R ver off len kcap ex e => by unfold AHeap.rowAt; rw [g R (hlv R ver off len kcap ex 1 e)]
  lies := lies_lt ht.lies hn
  len := ht.len
  at_ := fun i a t ha hti => ⟨(ht.at_ i a t ha hti).1.move fun R ver off len kcap ex e => by unfold AHeap.rowAt; rw [g R (hla i a ha R ver off len kcap ex 35 e)], lies_lt (ht.at_ i a t ha hti).2 hn⟩
  ok := ht.ok
  small := ht.small
  few := ht.few

theorem TxsAt.below' {H : AHeap} {vt : AVal} {avt : List AVal} {txs : List (List OpD)} (ht : TxsAt H vt avt txs) : ∀ (i : Nat) va, avt[i]? = some va → va.lies (· < H.next) := fun i va ha => by
  have hi := (List.getElem?_eq_some_iff.1 ha).1
  have hi2 : i < txs.length := by rw [← ht.len]; exact hi
  exact (ht.at_ i va _ ha (List.getElem?_eq_getElem hi2)).2

theorem it40d (or : Oracle) (n : Nat) (b : Nat) (hb64 : b ≤ 64) (H : AHeap) (vt : AVal) (avt : List AVal) (txs : List (List OpD)) (ht : TxsAt H vt avt txs) (i : Nat) (va : AVal) (t : List OpD) (hva : avt[i]? = some va) (hti : txs[i]? = some t) (hn : t.length < n)
    (m : Map) (hm : m.length = b) (hmv : ∀ v ∈ m, IsVal v) (A7 : Nat) (hA : A7 < H.next) (cm : Cells H A7 m.flatten) (hlv : vt.lies (· < A7)) (hla : ∀ (i : Nat) va, avt[i]? = some va → va.lies (· < A7))
    (v8' : AVal) (avs : List AVal) (vs : List (List (List AVal))) (hd : ToldAt H (A7 + 1) v8' avs vs) (hvs : vs.length ≤ i) (hbad : ∀ o ∈ t, ¬ o.bad b) (tm : List AVal) (len : tm.length = 85) (t0 : tm[0]? = some (vi b)) (t1 : tm[1]? = some (vt)) (t7 : tm[7]? = some (.slice A7 0 0 b b true 32)) (t8 : tm[8]? = some (v8')) (t9 : tm[9]? = some (vi i)) :
    ∃ H' v4' avs' tm', aCode or true n (fstC (fstC (sndC (fstC (sndC (sndC (sndC (sndC (a40.code))))))))) ⟨tm, H, []⟩ = some (.normal, ⟨tm', H', []⟩) ∧ tm'.length = 85 ∧ tm'[0]? = some (vi b) ∧ tm'[1]? = some (vt) ∧ tm'[7]? = some (.slice A7 0 0 b b true 32) ∧ tm'[8]? = some (v4') ∧ tm'[9]? = some (vi ((i : Int) + 1)) ∧ Cells H' A7 (opsM m t).flatten ∧ ToldAt H' (A7 + 1) v4' avs' (vs ++ [toldM m t]) ∧ H.next ≤ H'.next ∧ (∀ A, A < A7 → H'.get A = H.get A) := by
  have hi := (List.getElem?_eq_some_iff.1 hti).1
  have hi' : (i : Int) < txs.length := by omega
  have hfew := ht.few
  have w : wrapF .i64 ((i : Int) + 1) = ((i : Int) + 1) := wrapI (by omega) (by omega)
  have hlt := ht.rd.lenS
  rw [List.length_map, ht.len] at hlt
  obtain ⟨tm1, e1, l1, f1_0, f1_1, f1_7, f1_8, f1_9, f1_24⟩ : ∃ tm1 : List AVal, aCode or true n (fstC (fstC (fstC (fstC (sndC (fstC (sndC (sndC (sndC (sndC (a40.code))))))))))) ⟨tm, H, []⟩ = some (.normal, ⟨tm1, H, []⟩) ∧ tm1.length = 85 ∧ tm1[0]? = some (vi b) ∧ tm1[1]? = some (vt) ∧ tm1[7]? = some (.slice A7 0 0 b b true 32) ∧ tm1[8]? = some (v8') ∧ tm1[9]? = some (vi i) ∧ tm1[24]? = some (abool true) := by
    refine ⟨?e1w, ?e1a, ?e1b0, ?e1b1, ?e1b2, ?e1b3, ?e1b4, ?e1b5, ?e1b6⟩
    case e1a =>
      apply regN
      iterate 4 (apply stepN; · simp [-getElem?_pos, List.getElem?_set, len, t1, t9, hlt, hi']; rfl)
      exact nilN (or := or)
    all_goals simp [-getElem?_pos, List.getElem?_set, len, t0, t1, t7, t8, t9]
  obtain ⟨tm2, e2, l2, f2_0, f2_1, f2_7, f2_8, f2_9, f2_10, f2_24⟩ : ∃ tm2 : List AVal, aCode or true n (fstC (fstC (fstC (sndC (fstC (fstC (sndC (fstC (sndC (sndC (sndC (sndC (a40.code))))))))))))) ⟨tm1, H, []⟩ = some (.normal, ⟨tm2, H, []⟩) ∧ tm2.length = 85 ∧ tm2[0]? = some (vi b) ∧ tm2[1]? = some (vt) ∧ tm2[7]? = some (.slice A7 0 0 b b true 32) ∧ tm2[8]? = some (v8') ∧ tm2[9]? = some (vi i) ∧ tm2[10]? = some (anil) ∧ tm2[24]? = some (abool true) := by
    refine ⟨?e2w, ?e2a, ?e2b0, ?e2b1, ?e2b2, ?e2b3, ?e2b4, ?e2b5, ?e2b6, ?e2b7⟩
    case e2a =>
      apply regN
      iterate 1 (apply stepN; · simp [-getElem?_pos, List.getElem?_set, l1]; rfl)
      exact nilN (or := or)
    all_goals simp [-getElem?_pos, List.getElem?_set, l1, f1_0, f1_1, f1_7, f1_8, f1_9, f1_24]
  obtain ⟨tm3, e3, l3, f3_0, f3_1, f3_7, f3_8, f3_9, f3_10, f3_11, f3_24⟩ : ∃ tm3 : List AVal, aCode or true n (fstC (fstC (sndC (fstC (fstC (sndC (fstC (fstC (sndC (fstC (sndC (sndC (sndC (sndC (a40.code))))))))))))))) ⟨tm2, H, []⟩ = some (.normal, ⟨tm3, H, []⟩) ∧ tm3.length = 85 ∧ tm3[0]? = some (vi b) ∧ tm3[1]? = some (vt) ∧ tm3[7]? = some (.slice A7 0 0 b b true 32) ∧ tm3[8]? = some (v8') ∧ tm3[9]? = some (vi i) ∧ tm3[10]? = some (anil) ∧ tm3[11]? = some (vi 0) ∧ tm3[24]? = some (abool true) := by
    refine ⟨?e3w, ?e3a, ?e3b0, ?e3b1, ?e3b2, ?e3b3, ?e3b4, ?e3b5, ?e3b6, ?e3b7, ?e3b8⟩
    case e3a =>
      apply regN
      iterate 1 (apply stepN; · simp [-getElem?_pos, List.getElem?_set, l2]; rfl)
      exact nilN (or := or)
    all_goals simp [-getElem?_pos, List.getElem?_set, l2, f2_0, f2_1, f2_7, f2_8, f2_9, f2_10, f2_24]
  obtain ⟨H2, v10, tm4, e4, l4, q0, q1, q7, q8, q9, q10, cm2, hs2, hn2, hk2⟩ : ∃ H2 v10 tmk, aLoop (aCode or true n (fstC (fstC (sndC (fstC (sndC (fstC (fstC (sndC (fstC (fstC (sndC (fstC (sndC (sndC (sndC (sndC (a40.code)))))))))))))))))) n ⟨tm3, H, []⟩ = some (.exit 2, ⟨tmk, H2, []⟩) ∧ tmk.length = 85 ∧ tmk[0]? = some (vi b) ∧ tmk[1]? = some vt ∧ tmk[7]? = some (.slice A7 0 0 b b true 32) ∧ tmk[8]? = some v8' ∧ tmk[9]? = some (vi i) ∧ tmk[10]? = some v10 ∧
      Cells H2 A7 (opsM m t).flatten ∧ SliceE H2 H.next 32 v10 (toldM m t) ∧ H.next ≤ H2.next ∧ (∀ A, A < H.next → A ≠ A7 → H2.get A = H.get A) := by
    obtain ⟨H2, tm2, r1, r2, r3⟩ := loop40r or n b hb64 vt avt txs i va t hva hti m hm hmv A7 H.next hA hlv hla v8' t.length 0 n H anil tm3 (by omega) hn (Nat.le_refl _) ht (by simpa [opsM] using cm) (by simpa [toldM] using SliceE.nil H H.next 32) l3 f3_0 f3_1 f3_7 f3_8 f3_9 f3_10 f3_11
    rcases r3 with ⟨v', e1, _, ⟨a0, a1, a2, a3, a4, a5, a6⟩, c1, s1⟩ | ⟨_, ⟨o, r4, r5⟩, _⟩
    · exact ⟨H2, v', tm2, e1, a0, a1, a2, a3, a4, a5, a6, c1, s1, r1, r2⟩
    · exact absurd r5 (hbad o (by simpa using r4))
  have hd2 : ToldAt H2 (A7 + 1) v8' avs vs := hd.move (Nat.le_refl _) hn2 fun A a1 a2 => hk2 A a2 (by omega)
  have hlt4 : v8'.lies (· < H.next) := fun R a1 a2 a3 a4 a5 a6 q => (hd.rd.lies R a1 a2 a3 a4 a5 a6 q).2
  have hltA : ∀ (j : Nat) a, avs[j]? = some a → a.lies (· < H.next) := fun j a ha R a1 a2 a3 a4 a5 a6 q => by
    have hj := (List.getElem?_eq_some_iff.1 ha).1
    have hj2 : j < vs.length := by rw [← hd.len]; exact hj
    exact ((hd.at_ j a _ ha (List.getElem?_eq_getElem hj2)).lies R a1 a2 a3 a4 a5 a6 q).2
  obtain ⟨v4', H3, happ, hd3, hn3, hk3⟩ := hd2.add (X := H2.next) (by omega) hlt4 hltA hs2 hn2 rfl (by rw [hd.len]; omega)
  have c14 := hs2.rd.cells1
  obtain ⟨tm5, e5, l5, f5_0, f5_1, f5_7, f5_8, f5_9, f5_10⟩ : ∃ tm5 : List AVal, aCode or true n (sndC (sndC (fstC (fstC (sndC (fstC (fstC (sndC (fstC (sndC (sndC (sndC (sndC (a40.code)))))))))))))) ⟨tm4, H2, []⟩ = some (.normal, ⟨tm5, H3, []⟩) ∧ tm5.length = 85 ∧ tm5[0]? = some (vi b) ∧ tm5[1]? = some (vt) ∧ tm5[7]? = some (.slice A7 0 0 b b true 32) ∧ tm5[8]? = some (v4') ∧ tm5[9]? = some (vi i) ∧ tm5[10]? = some (v10) := by
    refine ⟨?e5w, ?e5a, ?e5b0, ?e5b1, ?e5b2, ?e5b3, ?e5b4, ?e5b5, ?e5b6⟩
    case e5a =>
      apply regN
      iterate 5 (apply stepN; · simp [-getElem?_pos, List.getElem?_set, l4, q8, q10, c14, repl, aFill, spl, happ]; rfl)
      exact nilN (or := or)
    all_goals simp [-getElem?_pos, List.getElem?_set, l4, q0, q1, q7, q8, q9, q10]
  obtain ⟨tm6, e6, l6, f6_0, f6_1, f6_7, f6_8, f6_9, f6_10⟩ : ∃ tm6 : List AVal, aCode or true n (sndC (sndC (fstC (fstC (sndC (fstC (sndC (sndC (sndC (sndC (a40.code))))))))))) ⟨tm5, H3, []⟩ = some (.normal, ⟨tm6, H3, []⟩) ∧ tm6.length = 85 ∧ tm6[0]? = some (vi b) ∧ tm6[1]? = some (vt) ∧ tm6[7]? = some (.slice A7 0 0 b b true 32) ∧ tm6[8]? = some (v4') ∧ tm6[9]? = some (vi ((i : Int) + 1)) ∧ tm6[10]? = some (v10) := by
    refine ⟨?e6w, ?e6a, ?e6b0, ?e6b1, ?e6b2, ?e6b3, ?e6b4, ?e6b5, ?e6b6⟩
    case e6a =>
      apply regN
      iterate 3 (apply stepN; · simp [-getElem?_pos, List.getElem?_set, l5, f5_9, w]; rfl)
      exact nilN (or := or)
    all_goals simp [-getElem?_pos, List.getElem?_set, l5, f5_0, f5_1, f5_7, f5_8, f5_9, f5_10]
  exact ⟨H3, v4', avs ++ [v10], tm6, (seqN (seqN e1 (condT f1_24 skipN)) (seqN (blkN (seqN e2 (seqN (seqN e3 (blkE (loopC e4))) e5))) e6)), l6, f6_0, f6_1, f6_7, f6_8, f6_9, cm2.mono (hk3 A7 (by omega)), hd3, by omega, fun A hA1 => by rw [hk3 A (by omega), hk2 A (by omega) (by omega)]⟩

theorem it40p (or : Oracle) (n : Nat) (b : Nat) (hb64 : b ≤ 64) (H : AHeap) (vt : AVal) (avt : List AVal) (txs : List (List OpD)) (ht : TxsAt H vt avt txs) (i : Nat) (va : AVal) (t : List OpD) (hva : avt[i]? = some va) (hti : txs[i]? = some t) (hn : t.length < n)
    (m : Map) (hm : m.length = b) (hmv : ∀ v ∈ m, IsVal v) (A7 : Nat) (hA : A7 < H.next) (cm : Cells H A7 m.flatten) (hlv : vt.lies (· < A7)) (hla : ∀ (i : Nat) va, avt[i]? = some va → va.lies (· < A7))
    (v8' : AVal) (avs : List AVal) (vs : List (List (List AVal))) (hd : ToldAt H (A7 + 1) v8' avs vs) (hvs : vs.length ≤ i) (hbad : ∃ o ∈ t, o.bad b) (tm : List AVal) (len : tm.length = 85) (t0 : tm[0]? = some (vi b)) (t1 : tm[1]? = some (vt)) (t7 : tm[7]? = some (.slice A7 0 0 b b true 32)) (t8 : tm[8]? = some (v8')) (t9 : tm[9]? = some (vi i)) :
    ∃ H' tm', aCode or true n (fstC (fstC (sndC (fstC (sndC (sndC (sndC (sndC (a40.code))))))))) ⟨tm, H, []⟩ = some (.ret, ⟨tm', H', []⟩) ∧ tm'.length = 85 ∧ tm'[4]? = some (anil) ∧ tm'[5]? = some (anil) ∧ tm'[6]? = some (vi 2) ∧ H.next ≤ H'.next ∧ (∀ A, A < A7 → H'.get A = H.get A) := by
  have hi := (List.getElem?_eq_some_iff.1 hti).1
  have hi' : (i : Int) < txs.length := by omega
  have hfew := ht.few
  have w : wrapF .i64 ((i : Int) + 1) = ((i : Int) + 1) := wrapI (by omega) (by omega)
  have hlt := ht.rd.lenS
  rw [List.length_map, ht.len] at hlt
  obtain ⟨tm1, e1, l1, f1_0, f1_1, f1_7, f1_8, f1_9, f1_24⟩ : ∃ tm1 : List AVal, aCode or true n (fstC (fstC (fstC (fstC (sndC (fstC (sndC (sndC (sndC (sndC (a40.code))))))))))) ⟨tm, H, []⟩ = some (.normal, ⟨tm1, H, []⟩) ∧ tm1.length = 85 ∧ tm1[0]? = some (vi b) ∧ tm1[1]? = some (vt) ∧ tm1[7]? = some (.slice A7 0 0 b b true 32) ∧ tm1[8]? = some (v8') ∧ tm1[9]? = some (vi i) ∧ tm1[24]? = some (abool true) := by
    refine ⟨?e1w, ?e1a, ?e1b0, ?e1b1, ?e1b2, ?e1b3, ?e1b4, ?e1b5, ?e1b6⟩
    case e1a =>
      apply regN
      iterate 4 (apply stepN; · simp [-getElem?_pos, List.getElem?_set, len, t1, t9, hlt, hi']; rfl)
      exact nilN (or := or)
    all_goals simp [-getElem?_pos, List.getElem?_set, len, t0, t1, t7, t8, t9]
  obtain ⟨tm2, e2, l2, f2_0, f2_1, f2_7, f2_8, f2_9, f2_10, f2_24⟩ : ∃ tm2 : List AVal, aCode or true n (fstC (fstC (fstC (sndC (fstC (fstC (sndC (fstC (sndC (sndC (sndC (sndC (a40.code))))))))))))) ⟨tm1, H, []⟩ = some (.normal, ⟨tm2, H, []⟩) ∧ tm2.length = 85 ∧ tm2[0]? = some (vi b) ∧ tm2[1]? = some (vt) ∧ tm2[7]? = some (.slice A7 0 0 b b true 32) ∧ tm2[8]? = some (v8') ∧ tm2[9]? = some (vi i) ∧ tm2[10]? = some (anil) ∧ tm2[24]? = some (abool true) := by
    refine ⟨?e2w, ?e2a, ?e2b0, ?e2b1, ?e2b2, ?e2b3, ?e2b4, ?e2b5, ?e2b6, ?e2b7⟩
    case e2a =>
      apply regN
      iterate 1 (apply stepN; · simp [-getElem?_pos, List.getElem?_set, l1]; rfl)
      exact nilN (or := or)
    all_goals simp [-getElem?_pos, List.getElem?_set, l1, f1_0, f1_1, f1_7, f1_8, f1_9, f1_24]
  obtain ⟨tm3, e3, l3, f3_0, f3_1, f3_7, f3_8, f3_9, f3_10, f3_11, f3_24⟩ : ∃ tm3 : List AVal, aCode or true n (fstC (fstC (sndC (fstC (fstC (sndC (fstC (fstC (sndC (fstC (sndC (sndC (sndC (sndC (a40.code))))))))))))))) ⟨tm2, H, []⟩ = some (.normal, ⟨tm3, H, []⟩) ∧ tm3.length = 85 ∧ tm3[0]? = some (vi b) ∧ tm3[1]? = some (vt) ∧ tm3[7]? = some (.slice A7 0 0 b b true 32) ∧ tm3[8]? = some (v8') ∧ tm3[9]? = some (vi i) ∧ tm3[10]? = some (anil) ∧ tm3[11]? = some (vi 0) ∧ tm3[24]? = some (abool true) := by
    refine ⟨?e3w, ?e3a, ?e3b0, ?e3b1, ?e3b2, ?e3b3, ?e3b4, ?e3b5, ?e3b6, ?e3b7, ?e3b8⟩
    case e3a =>
      apply regN
      iterate 1 (apply stepN; · simp [-getElem?_pos, List.getElem?_set, l2]; rfl)
      exact nilN (or := or)
    all_goals simp [-getElem?_pos, List.getElem?_set, l2, f2_0, f2_1, f2_7, f2_8, f2_9, f2_10, f2_24]
  obtain ⟨H2, tm4, e4, l4, q4, q5, q6, hn2, hk2⟩ : ∃ H2 tmk, aLoop (aCode or true n (fstC (fstC (sndC (fstC (sndC (fstC (fstC (sndC (fstC (fstC (sndC (fstC (sndC (sndC (sndC (sndC (a40.code)))))))))))))))))) n ⟨tm3, H, []⟩ = some (.ret, ⟨tmk, H2, []⟩) ∧ tmk.length = 85 ∧ tmk[4]? = some anil ∧ tmk[5]? = some anil ∧ tmk[6]? = some (vi 2) ∧ H.next ≤ H2.next ∧ (∀ A, A < H.next → A ≠ A7 → H2.get A = H.get A) := by
    obtain ⟨H2, tm2, r1, r2, r3⟩ := loop40r or n b hb64 vt avt txs i va t hva hti m hm hmv A7 H.next hA hlv hla v8' t.length 0 n H anil tm3 (by omega) hn (Nat.le_refl _) ht (by simpa [opsM] using cm) (by simpa [toldM] using SliceE.nil H H.next 32) l3 f3_0 f3_1 f3_7 f3_8 f3_9 f3_10 f3_11
    rcases r3 with ⟨_, _, r4, _⟩ | ⟨e1, _, a0, a1, a2, a3⟩
    · obtain ⟨o, ho, hob⟩ := hbad
      exact absurd hob (r4 o (by simpa using ho))
    · exact ⟨H2, tm2, e1, a0, a1, a2, a3, r1, r2⟩
  exact ⟨H2, tm4, (seqN (seqN e1 (condT f1_24 skipN)) (seqX (blkR (seqN e2 (seqX (seqN e3 (blkR (loopC e4))) (by simp)))) (by simp))), l4, q4, q5, q6, hn2, fun A hA1 => hk2 A (by omega) (by omega)⟩

theorem end40d (or : Oracle) (n : Nat) (b : Nat) (H : AHeap) (vt : AVal) (avt : List AVal) (txs : List (List OpD)) (ht : TxsAt H vt avt txs) (A7 : Nat) (v8' : AVal) (tm : List AVal) (len : tm.length = 85) (t0 : tm[0]? = some (vi b)) (t1 : tm[1]? = some (vt)) (t7 : tm[7]? = some (.slice A7 0 0 b b true 32)) (t8 : tm[8]? = some (v8')) (t9 : tm[9]? = some (vi txs.length)) :
    ∃ tm', aCode or true n (fstC (fstC (sndC (fstC (sndC (sndC (sndC (sndC (a40.code))))))))) ⟨tm, H, []⟩ = some (.exit 0, ⟨tm', H, []⟩) ∧ tm'.length = 85 ∧ tm'[7]? = some (.slice A7 0 0 b b true 32) ∧ tm'[8]? = some (v8') := by
  have hlt := ht.rd.lenS
  rw [List.length_map, ht.len] at hlt
  obtain ⟨tm1, e1, l1, f1_0, f1_1, f1_7, f1_8, f1_9, f1_24⟩ : ∃ tm1 : List AVal, aCode or true n (fstC (fstC (fstC (fstC (sndC (fstC (sndC (sndC (sndC (sndC (a40.code))))))))))) ⟨tm, H, []⟩ = some (.normal, ⟨tm1, H, []⟩) ∧ tm1.length = 85 ∧ tm1[0]? = some (vi b) ∧ tm1[1]? = some (vt) ∧ tm1[7]? = some (.slice A7 0 0 b b true 32) ∧ tm1[8]? = some (v8') ∧ tm1[9]? = some (vi txs.length) ∧ tm1[24]? = some (abool false) := by
    refine ⟨?e1w, ?e1a, ?e1b0, ?e1b1, ?e1b2, ?e1b3, ?e1b4, ?e1b5, ?e1b6⟩
    case e1a =>
      apply regN
      iterate 4 (apply stepN; · simp [-getElem?_pos, List.getElem?_set, len, t1, t9, hlt]; rfl)
      exact nilN (or := or)
    all_goals simp [-getElem?_pos, List.getElem?_set, len, t0, t1, t7, t8, t9]
  exact ⟨tm1, (seqX (seqN e1 (condF f1_24 exitN)) (by simp)), l1, f1_7, f1_8⟩

theorem loop40d (or : Oracle) (n : Nat) (b : Nat) (hb64 : b ≤ 64) (vt : AVal) (avt : List AVal) (txs : List (List OpD)) (hn : ∀ t ∈ txs, t.length < n) (m0 : Map) (hm0 : m0.length = b) (hmv0 : ∀ v ∈ m0, IsVal v) (A7 : Nat)
    (hlv : vt.lies (· < A7)) (hla : ∀ (i : Nat) va, avt[i]? = some va → va.lies (· < A7)) :
    ∀ (j i q : Nat) (H : AHeap) (v8' : AVal) (avs : List AVal) (tm : List AVal), i + j = txs.length → j < q → TxsAt H vt avt txs → A7 < H.next → Cells H A7 (txsM m0 (txs.take i)).flatten → ToldAt H (A7 + 1) v8' avs (toldT m0 (txs.take i)) → tm.length = 85 → tm[0]? = some (vi b) → tm[1]? = some (vt) → tm[7]? = some (.slice A7 0 0 b b true 32) → tm[8]? = some (v8') → tm[9]? = some (vi i) →
      ∃ H' tm', H.next ≤ H'.next ∧ (∀ A, A < A7 → H'.get A = H.get A) ∧ ((∃ v4' avs', aLoop (aCode or true n (fstC (fstC (sndC (fstC (sndC (sndC (sndC (sndC (a40.code)))))))))) q ⟨tm, H, []⟩ = some (.exit 0, ⟨tm', H', []⟩) ∧ (∀ t ∈ txs.drop i, ∀ o ∈ t, ¬ o.bad b) ∧ (tm'.length = 85 ∧ tm'[7]? = some (.slice A7 0 0 b b true 32) ∧ tm'[8]? = some v4') ∧
        Cells H' A7 (txsM m0 txs).flatten ∧ ToldAt H' (A7 + 1) v4' avs' (toldT m0 txs)) ∨
        (aLoop (aCode or true n (fstC (fstC (sndC (fstC (sndC (sndC (sndC (sndC (a40.code)))))))))) q ⟨tm, H, []⟩ = some (.ret, ⟨tm', H', []⟩) ∧ (∃ t ∈ txs.drop i, ∃ o ∈ t, o.bad b) ∧ (tm'.length = 85 ∧ tm'[4]? = some anil ∧ tm'[5]? = some anil ∧ tm'[6]? = some (vi 2))))
  | 0, i, q + 1, H, v8', avs, tm, hj, _, ht, hA, cm, hd, len, t0, t1, t7, t8, t9 => by
    have : i = txs.length := by omega
    subst this
    obtain ⟨tm', h1, h2⟩ := end40d or n b H vt avt txs ht A7 v8' tm len t0 t1 t7 t8 t9
    rw [List.take_length] at cm hd
    exact ⟨H, tm', Nat.le_refl _, fun _ _ => rfl, .inl ⟨v8', avs, by simp only [aLoop, h1], by simp, h2, cm, hd⟩⟩
  | j + 1, i, q + 1, H, v8', avs, tm, hj, hq, ht, hA, cm, hd, len, t0, t1, t7, t8, t9 => by
    have hx : txs[i]? = some txs[i] := List.getElem?_eq_getElem (by omega)
    have hlen := ht.len
    have hy : avt[i]? = some avt[i] := List.getElem?_eq_getElem (by omega)
    have hmem : txs[i] ∈ txs := List.getElem_mem _
    have hdr : txs.drop i = txs[i] :: txs.drop (i + 1) := List.drop_eq_getElem_cons (by omega)
    have hmk : (txsM m0 (txs.take i)).length = b := by rw [txsM_len, hm0]
    have hmvk := txsM_vals (txs.take i) hmv0 fun t ht' => ht.ok t (List.mem_of_mem_take ht')
    have e1 : txsM m0 (txs.take (i + 1)) = opsM (txsM m0 (txs.take i)) txs[i] := by rw [take_succ_at hx, txsM_append]; rfl
    have e2 : toldT m0 (txs.take (i + 1)) = toldT m0 (txs.take i) ++ [toldM (txsM m0 (txs.take i)) txs[i]] := by rw [take_succ_at hx, toldT_append]; rfl
    have hvl : (toldT m0 (txs.take i)).length ≤ i := by rw [toldT_len, List.length_take]; omega
    by_cases hbad : ∃ o ∈ txs[i], o.bad b
    · obtain ⟨H', tm', h1, h2, h3, h4, h5, n1, g1⟩ := it40p or n b hb64 H vt avt txs ht i _ _ hy hx (hn _ hmem) _ hmk hmvk A7 hA cm hlv hla v8' avs _ hd hvl hbad tm len t0 t1 t7 t8 t9
      exact ⟨H', tm', n1, g1, .inr ⟨by simp only [aLoop, h1], ⟨txs[i], by rw [hdr]; exact List.mem_cons_self .., hbad⟩, h2, h3, h4, h5⟩⟩
    · have hgood : ∀ o ∈ txs[i], ¬ o.bad b := fun o ho hb => hbad ⟨o, ho, hb⟩
      obtain ⟨H', v4', avs', tm', h1, l, f0, f1, f7, f8, f9, c1, d1, n1, g1⟩ := it40d or n b hb64 H vt avt txs ht i _ _ hy hx (hn _ hmem) _ hmk hmvk A7 hA cm hlv hla v8' avs _ hd hvl hgood tm len t0 t1 t7 t8 t9
      rw [← e1] at c1
      rw [← e2] at d1
      obtain ⟨H2, tm2, r1, r2, r3⟩ := loop40d or n b hb64 vt avt txs hn m0 hm0 hmv0 A7 hlv hla j (i + 1) q H' v4' avs' tm' (by omega) (by omega) (ht.below hlv hla n1 g1) (by omega) c1 d1 l f0 f1 f7 f8 f9
      refine ⟨H2, tm2, by omega, fun A a1 => by rw [r2 A a1, g1 A a1], ?_⟩
      rcases r3 with ⟨v2, avs2, q1, q2, q3⟩ | ⟨q1, ⟨t, q2, q2'⟩, q3⟩
      · refine .inl ⟨v2, avs2, by simp only [aLoop, h1, q1], fun t ht' => ?_, q3⟩
        rw [hdr] at ht'
        rcases List.mem_cons.1 ht' with rfl | h
        · exact hgood
        · exact q2 t h
      · exact .inr ⟨by simp only [aLoop, h1, q1], ⟨t, by rw [hdr]; exact List.mem_cons_of_mem _ q2, q2'⟩, q3⟩

theorem a40_res : a40.res = [.tmp 4, .tmp 5, .tmp 6] := rfl

/-- The document's Alone of a number of blocks that may not be. -/
theorem c40n (n : Nat) (b : Int) (hb : ¬ (1 ≤ b ∧ b ≤ 64)) (vt : AVal) (H : AHeap) : callM kn env (n + 1) (.func (.func 40) []) [vi b, vt] H = some (.tuple [anil, anil, vi 2], H) := by
  rw [opnM (af := a40) rfl n _ _ _ rfl]
  generalize callM kn env n = or
  have len : (initTm a40 [vi b, vt]).length = 85 := rfl
  have t0 : (initTm a40 [vi b, vt])[0]? = some (vi b) := rfl
  have t1 : (initTm a40 [vi b, vt])[1]? = some vt := rfl
  show endF a40.res (aCode or true n a40.code ⟨initTm a40 [vi b, vt], H, []⟩) = _
  generalize initTm a40 [vi b, vt] = tm at len t0 t1
  by_cases hb1 : b < 1
  ·
    obtain ⟨tm1, e1, l1, f1_0, f1_1, f1_4, f1_5, f1_6⟩ : ∃ tm1 : List AVal, aCode or true n (fstC (a40.code)) ⟨tm, H, []⟩ = some (.normal, ⟨tm1, H, []⟩) ∧ tm1.length = 85 ∧ tm1[0]? = some (vi b) ∧ tm1[1]? = some (vt) ∧ tm1[4]? = some (anil) ∧ tm1[5]? = some (anil) ∧ tm1[6]? = some (vi 0) := by
      refine ⟨?e1w, ?e1a, ?e1b0, ?e1b1, ?e1b2, ?e1b3, ?e1b4, ?e1b5⟩
      case e1a =>
        apply regN
        iterate 3 (apply stepN; · simp [-getElem?_pos, List.getElem?_set, len]; rfl)
        exact nilN (or := or)
      all_goals simp [-getElem?_pos, List.getElem?_set, len, t0, t1]
    obtain ⟨tm2, e2, l2, f2_0, f2_1, f2_4, f2_5, f2_6, f2_18⟩ : ∃ tm2 : List AVal, aCode or true n (fstC (fstC (sndC (a40.code)))) ⟨tm1, H, []⟩ = some (.normal, ⟨tm2, H, []⟩) ∧ tm2.length = 85 ∧ tm2[0]? = some (vi b) ∧ tm2[1]? = some (vt) ∧ tm2[4]? = some (anil) ∧ tm2[5]? = some (anil) ∧ tm2[6]? = some (vi 0) ∧ tm2[18]? = some (abool true) := by
      refine ⟨?e2w, ?e2a, ?e2b0, ?e2b1, ?e2b2, ?e2b3, ?e2b4, ?e2b5, ?e2b6⟩
      case e2a =>
        apply regN
        iterate 6 (apply stepN; · simp [-getElem?_pos, List.getElem?_set, l1, f1_0, hb1]; rfl)
        exact nilN (or := or)
      all_goals simp [-getElem?_pos, List.getElem?_set, l1, f1_0, f1_1, f1_4, f1_5, f1_6]
    obtain ⟨tm3, e3, l3, f3_0, f3_1, f3_4, f3_5, f3_6, f3_18⟩ : ∃ tm3 : List AVal, aCode or true n (fstC (fstC (sndC (fstC (sndC (a40.code)))))) ⟨tm2, H, []⟩ = some (.normal, ⟨tm3, H, []⟩) ∧ tm3.length = 85 ∧ tm3[0]? = some (vi b) ∧ tm3[1]? = some (vt) ∧ tm3[4]? = some (anil) ∧ tm3[5]? = some (anil) ∧ tm3[6]? = some (vi 2) ∧ tm3[18]? = some (abool true) := by
      refine ⟨?e3w, ?e3a, ?e3b0, ?e3b1, ?e3b2, ?e3b3, ?e3b4, ?e3b5, ?e3b6⟩
      case e3a =>
        apply regN
        iterate 3 (apply stepN; · simp [-getElem?_pos, List.getElem?_set, l2]; rfl)
        exact nilN (or := or)
      all_goals simp [-getElem?_pos, List.getElem?_set, l2, f2_0, f2_1, f2_4, f2_5, f2_6, f2_18]
    exact endN (es := (.ret, ⟨tm3, H, []⟩)) (seqN e1 (seqX (seqN e2 (condT f2_18 (seqN e3 retN))) (by simp))) (by simp [-getElem?_pos, endF, leaveN, a40_res, f3_4, f3_5, f3_6])
  · have hb2 : 64 < b := by omega
    obtain ⟨ztm1, ze1, zl1, zf1_0, zf1_1, zf1_4, zf1_5, zf1_6⟩ : ∃ ztm1 : List AVal, aCode or true n (fstC (a40.code)) ⟨tm, H, []⟩ = some (.normal, ⟨ztm1, H, []⟩) ∧ ztm1.length = 85 ∧ ztm1[0]? = some (vi b) ∧ ztm1[1]? = some (vt) ∧ ztm1[4]? = some (anil) ∧ ztm1[5]? = some (anil) ∧ ztm1[6]? = some (vi 0) := by
      refine ⟨?ze1w, ?ze1a, ?ze1b0, ?ze1b1, ?ze1b2, ?ze1b3, ?ze1b4, ?ze1b5⟩
      case ze1a =>
        apply regN
        iterate 3 (apply stepN; · simp [-getElem?_pos, List.getElem?_set, len]; rfl)
        exact nilN (or := or)
      all_goals simp [-getElem?_pos, List.getElem?_set, len, t0, t1]
    obtain ⟨ztm2, ze2, zl2, zf2_0, zf2_1, zf2_4, zf2_5, zf2_6, zf2_18⟩ : ∃ ztm2 : List AVal, aCode or true n (fstC (fstC (sndC (a40.code)))) ⟨ztm1, H, []⟩ = some (.normal, ⟨ztm2, H, []⟩) ∧ ztm2.length = 85 ∧ ztm2[0]? = some (vi b) ∧ ztm2[1]? = some (vt) ∧ ztm2[4]? = some (anil) ∧ ztm2[5]? = some (anil) ∧ ztm2[6]? = some (vi 0) ∧ ztm2[18]? = some (abool true) := by
      refine ⟨?ze2w, ?ze2a, ?ze2b0, ?ze2b1, ?ze2b2, ?ze2b3, ?ze2b4, ?ze2b5, ?ze2b6⟩
      case ze2a =>
        apply regN
        iterate 6 (apply stepN; · simp [-getElem?_pos, List.getElem?_set, zl1, zf1_0, hb1, hb2]; rfl)
        exact nilN (or := or)
      all_goals simp [-getElem?_pos, List.getElem?_set, zl1, zf1_0, zf1_1, zf1_4, zf1_5, zf1_6]
    obtain ⟨ztm3, ze3, zl3, zf3_0, zf3_1, zf3_4, zf3_5, zf3_6, zf3_18⟩ : ∃ ztm3 : List AVal, aCode or true n (fstC (fstC (sndC (fstC (sndC (a40.code)))))) ⟨ztm2, H, []⟩ = some (.normal, ⟨ztm3, H, []⟩) ∧ ztm3.length = 85 ∧ ztm3[0]? = some (vi b) ∧ ztm3[1]? = some (vt) ∧ ztm3[4]? = some (anil) ∧ ztm3[5]? = some (anil) ∧ ztm3[6]? = some (vi 2) ∧ ztm3[18]? = some (abool true) := by
      refine ⟨?ze3w, ?ze3a, ?ze3b0, ?ze3b1, ?ze3b2, ?ze3b3, ?ze3b4, ?ze3b5, ?ze3b6⟩
      case ze3a =>
        apply regN
        iterate 3 (apply stepN; · simp [-getElem?_pos, List.getElem?_set, zl2]; rfl)
        exact nilN (or := or)
      all_goals simp [-getElem?_pos, List.getElem?_set, zl2, zf2_0, zf2_1, zf2_4, zf2_5, zf2_6, zf2_18]
    exact endN (es := (.ret, ⟨ztm3, H, []⟩)) (seqN ze1 (seqX (seqN ze2 (condT zf2_18 (seqN ze3 retN))) (by simp))) (by simp [-getElem?_pos, endF, leaveN, a40_res, zf3_4, zf3_5, zf3_6])

/-- The document's Alone of operations among which one may not be. -/
theorem c40b (n : Nat) (b : Nat) (hb : 1 ≤ b ∧ b ≤ 64) (vt : AVal) (avt : List AVal) (txs : List (List OpD)) (H : AHeap) (ht : TxsAt H vt avt txs) (hn : ∀ t ∈ txs, t.length < n) (hn2 : txs.length < n) (hg : ∃ t ∈ txs, ∃ o ∈ t, o.bad b) :
    ∃ H', callM kn env (n + 1) (.func (.func 40) []) [vi b, vt] H = some (.tuple [anil, anil, vi 2], H') ∧ Grow H H' := by
  have hb1 : ¬ (b : Int) < 1 := by omega
  have hb2 : ¬ 64 < (b : Int) := by omega
  have hb3 : (0 : Int) ≤ b := by omega
  have hb4 : 32 * (b : Int) ≤ 281474976710656 := by omega
  have hb5 : (b : Int) ≤ 281474976710656 := by omega
  have hb6 : ((b : Int)).toNat = b := by omega
  have lp := loop40d (callM kn env n) n b hb.2 vt avt txs hn (zerosB b) (zerosB_len b) (zerosB_vals b)
  rw [opnM (af := a40) rfl n _ _ _ rfl]
  generalize callM kn env n = or at lp
  have len : (initTm a40 [vi b, vt]).length = 85 := rfl
  have t0 : (initTm a40 [vi b, vt])[0]? = some (vi b) := rfl
  have t1 : (initTm a40 [vi b, vt])[1]? = some vt := rfl
  show ∃ H', endF a40.res (aCode or true n a40.code ⟨initTm a40 [vi b, vt], H, []⟩) = _ ∧ _
  generalize initTm a40 [vi b, vt] = tm at len t0 t1
  have gp : Grow H (H.push (.row [some (0, repl b [v8 0, v8 0, v8 0, v8 0, v8 0, v8 0, v8 0, v8 0, v8 0, v8 0, v8 0, v8 0, v8 0, v8 0, v8 0, v8 0, v8 0, v8 0, v8 0, v8 0, v8 0, v8 0, v8 0, v8 0, v8 0, v8 0, v8 0, v8 0, v8 0, v8 0, v8 0, v8 0])])) := Grow.push _ _
  have cmz : Cells (H.push (.row [some (0, repl b [v8 0, v8 0, v8 0, v8 0, v8 0, v8 0, v8 0, v8 0, v8 0, v8 0, v8 0, v8 0, v8 0, v8 0, v8 0, v8 0, v8 0, v8 0, v8 0, v8 0, v8 0, v8 0, v8 0, v8 0, v8 0, v8 0, v8 0, v8 0, v8 0, v8 0, v8 0, v8 0])])) H.next (zerosB b).flatten := by show AHeap.get _ _ = _; rw [AHeap.get_push_same, repl_zeros]
  have np : (H.push (.row [some (0, repl b [v8 0, v8 0, v8 0, v8 0, v8 0, v8 0, v8 0, v8 0, v8 0, v8 0, v8 0, v8 0, v8 0, v8 0, v8 0, v8 0, v8 0, v8 0, v8 0, v8 0, v8 0, v8 0, v8 0, v8 0, v8 0, v8 0, v8 0, v8 0, v8 0, v8 0, v8 0, v8 0])])).next = H.next + 1 := rfl
  generalize hHp : H.push (.row [some (0, repl b [v8 0, v8 0, v8 0, v8 0, v8 0, v8 0, v8 0, v8 0, v8 0, v8 0, v8 0, v8 0, v8 0, v8 0, v8 0, v8 0, v8 0, v8 0, v8 0, v8 0, v8 0, v8 0, v8 0, v8 0, v8 0, v8 0, v8 0, v8 0, v8 0, v8 0, v8 0, v8 0])]) = Hp at *
  obtain ⟨tm1, e1, l1, f1_0, f1_1, f1_4, f1_5, f1_6⟩ : ∃ tm1 : List AVal, aCode or true n (fstC (a40.code)) ⟨tm, H, []⟩ = some (.normal, ⟨tm1, H, []⟩) ∧ tm1.length = 85 ∧ tm1[0]? = some (vi b) ∧ tm1[1]? = some (vt) ∧ tm1[4]? = some (anil) ∧ tm1[5]? = some (anil) ∧ tm1[6]? = some (vi 0) := by
    refine ⟨?e1w, ?e1a, ?e1b0, ?e1b1, ?e1b2, ?e1b3, ?e1b4, ?e1b5⟩
    case e1a =>
      apply regN
      iterate 3 (apply stepN; · simp [-getElem?_pos, List.getElem?_set, len]; rfl)
      exact nilN (or := or)
    all_goals simp [-getElem?_pos, List.getElem?_set, len, t0, t1]
  obtain ⟨tm2, e2, l2, f2_0, f2_1, f2_4, f2_5, f2_6, f2_18⟩ : ∃ tm2 : List AVal, aCode or true n (fstC (fstC (sndC (a40.code)))) ⟨tm1, H, []⟩ = some (.normal, ⟨tm2, H, []⟩) ∧ tm2.length = 85 ∧ tm2[0]? = some (vi b) ∧ tm2[1]? = some (vt) ∧ tm2[4]? = some (anil) ∧ tm2[5]? = some (anil) ∧ tm2[6]? = some (vi 0) ∧ tm2[18]? = some (abool false) := by
    refine ⟨?e2w, ?e2a, ?e2b0, ?e2b1, ?e2b2, ?e2b3, ?e2b4, ?e2b5, ?e2b6⟩
    case e2a =>
      apply regN
      iterate 6 (apply stepN; · simp [-getElem?_pos, List.getElem?_set, l1, f1_0, hb1, hb2]; rfl)
      exact nilN (or := or)
    all_goals simp [-getElem?_pos, List.getElem?_set, l1, f1_0, f1_1, f1_4, f1_5, f1_6]
  obtain ⟨tm3, e3, l3, f3_0, f3_1, f3_4, f3_5, f3_6, f3_7, f3_18⟩ : ∃ tm3 : List AVal, aCode or true n (fstC (sndC (sndC (a40.code)))) ⟨tm2, H, []⟩ = some (.normal, ⟨tm3, Hp, []⟩) ∧ tm3.length = 85 ∧ tm3[0]? = some (vi b) ∧ tm3[1]? = some (vt) ∧ tm3[4]? = some (anil) ∧ tm3[5]? = some (anil) ∧ tm3[6]? = some (vi 0) ∧ tm3[7]? = some (.slice H.next 0 0 b b true 32) ∧ tm3[18]? = some (abool false) := by
    refine ⟨?e3w, ?e3a, ?e3b0, ?e3b1, ?e3b2, ?e3b3, ?e3b4, ?e3b5, ?e3b6, ?e3b7⟩
    case e3a =>
      apply regN
      iterate 3 (apply stepN; · simp [-getElem?_pos, List.getElem?_set, l2, f2_0, hb3, hb4, hb5, hb6, hHp]; rfl)
      exact nilN (or := or)
    all_goals simp [-getElem?_pos, List.getElem?_set, l2, f2_0, f2_1, f2_4, f2_5, f2_6, f2_18]
  obtain ⟨tm4, e4, l4, f4_0, f4_1, f4_4, f4_5, f4_6, f4_7, f4_8, f4_18⟩ : ∃ tm4 : List AVal, aCode or true n (fstC (sndC (sndC (sndC (a40.code))))) ⟨tm3, Hp, []⟩ = some (.normal, ⟨tm4, Hp, []⟩) ∧ tm4.length = 85 ∧ tm4[0]? = some (vi b) ∧ tm4[1]? = some (vt) ∧ tm4[4]? = some (anil) ∧ tm4[5]? = some (anil) ∧ tm4[6]? = some (vi 0) ∧ tm4[7]? = some (.slice H.next 0 0 b b true 32) ∧ tm4[8]? = some (anil) ∧ tm4[18]? = some (abool false) := by
    refine ⟨?e4w, ?e4a, ?e4b0, ?e4b1, ?e4b2, ?e4b3, ?e4b4, ?e4b5, ?e4b6, ?e4b7, ?e4b8⟩
    case e4a =>
      apply regN
      iterate 1 (apply stepN; · simp [-getElem?_pos, List.getElem?_set, l3]; rfl)
      exact nilN (or := or)
    all_goals simp [-getElem?_pos, List.getElem?_set, l3, f3_0, f3_1, f3_4, f3_5, f3_6, f3_7, f3_18]
  obtain ⟨tm5, e5, l5, f5_0, f5_1, f5_4, f5_5, f5_6, f5_7, f5_8, f5_9, f5_18⟩ : ∃ tm5 : List AVal, aCode or true n (fstC (fstC (sndC (sndC (sndC (sndC (a40.code))))))) ⟨tm4, Hp, []⟩ = some (.normal, ⟨tm5, Hp, []⟩) ∧ tm5.length = 85 ∧ tm5[0]? = some (vi b) ∧ tm5[1]? = some (vt) ∧ tm5[4]? = some (anil) ∧ tm5[5]? = some (anil) ∧ tm5[6]? = some (vi 0) ∧ tm5[7]? = some (.slice H.next 0 0 b b true 32) ∧ tm5[8]? = some (anil) ∧ tm5[9]? = some (vi 0) ∧ tm5[18]? = some (abool false) := by
    refine ⟨?e5w, ?e5a, ?e5b0, ?e5b1, ?e5b2, ?e5b3, ?e5b4, ?e5b5, ?e5b6, ?e5b7, ?e5b8, ?e5b9⟩
    case e5a =>
      apply regN
      iterate 1 (apply stepN; · simp [-getElem?_pos, List.getElem?_set, l4]; rfl)
      exact nilN (or := or)
    all_goals simp [-getElem?_pos, List.getElem?_set, l4, f4_0, f4_1, f4_4, f4_5, f4_6, f4_7, f4_8, f4_18]
  obtain ⟨H2, tm6, e6, l6, q4, q5, q6, hn2', hk2⟩ : ∃ H2 tmk, aLoop (aCode or true n (fstC (fstC (sndC (fstC (sndC (sndC (sndC (sndC (a40.code)))))))))) n ⟨tm5, Hp, []⟩ = some (.ret, ⟨tmk, H2, []⟩) ∧ tmk.length = 85 ∧ tmk[4]? = some anil ∧ tmk[5]? = some anil ∧ tmk[6]? = some (vi 2) ∧ Hp.next ≤ H2.next ∧ (∀ A, A < H.next → H2.get A = Hp.get A) := by
    obtain ⟨H2, tm2, r1, r2, r3⟩ := lp H.next ht.lies ht.below' txs.length 0 n _ anil [] tm5 (by omega) hn2 (ht.grow gp) (by omega) cmz (ToldAt.nil _ _) l5 f5_0 f5_1 f5_7 f5_8 f5_9
    rcases r3 with ⟨_, _, _, r4, _⟩ | ⟨e1, _, a0, a1, a2, a3⟩
    · obtain ⟨t, htt, o, hoo, hob⟩ := hg
      exact absurd hob (r4 t (by simpa using htt) o hoo)
    · exact ⟨H2, tm2, e1, a0, a1, a2, a3, r1, r2⟩
  exact ⟨H2, endN (es := (.ret, ⟨tm6, H2, []⟩)) (seqN e1 (seqN (seqN e2 (condF f2_18 skipN)) (seqN e3 (seqN e4 (seqX (seqN e5 (blkR (loopC e6))) (by simp)))))) (by simp [-getElem?_pos, endF, leaveN, a40_res, q4, q5, q6]), by omega, fun A hA => by rw [hk2 A hA, gp.get A hA]⟩

/-- The document's Alone: what is told, and the map. -/
theorem c40g (n : Nat) (b : Nat) (hb : 1 ≤ b ∧ b ≤ 64) (vt : AVal) (avt : List AVal) (txs : List (List OpD)) (H : AHeap) (ht : TxsAt H vt avt txs) (hn : ∀ t ∈ txs, t.length < n) (hn2 : txs.length < n) (hg : ∀ t ∈ txs, ∀ o ∈ t, ¬ o.bad b) :
    ∃ v4 avs H', callM kn env (n + 1) (.func (.func 40) []) [vi b, vt] H = some (.tuple [v4, .slice H.next 0 0 b b true 32, vi 0], H') ∧ Grow H H' ∧ ToldAt H' H.next v4 avs (toldT (zerosB b) txs) ∧ H.next < H'.next ∧
      RdE H' 32 (.slice H.next 0 0 b b true 32) (txsM (zerosB b) txs) := by
  have hb1 : ¬ (b : Int) < 1 := by omega
  have hb2 : ¬ 64 < (b : Int) := by omega
  have hb3 : (0 : Int) ≤ b := by omega
  have hb4 : 32 * (b : Int) ≤ 281474976710656 := by omega
  have hb5 : (b : Int) ≤ 281474976710656 := by omega
  have hb6 : ((b : Int)).toNat = b := by omega
  have lp := loop40d (callM kn env n) n b hb.2 vt avt txs hn (zerosB b) (zerosB_len b) (zerosB_vals b)
  rw [opnM (af := a40) rfl n _ _ _ rfl]
  generalize callM kn env n = or at lp
  have len : (initTm a40 [vi b, vt]).length = 85 := rfl
  have t0 : (initTm a40 [vi b, vt])[0]? = some (vi b) := rfl
  have t1 : (initTm a40 [vi b, vt])[1]? = some vt := rfl
  show ∃ v4 avs H', endF a40.res (aCode or true n a40.code ⟨initTm a40 [vi b, vt], H, []⟩) = _ ∧ _
  generalize initTm a40 [vi b, vt] = tm at len t0 t1
  have gp : Grow H (H.push (.row [some (0, repl b [v8 0, v8 0, v8 0, v8 0, v8 0, v8 0, v8 0, v8 0, v8 0, v8 0, v8 0, v8 0, v8 0, v8 0, v8 0, v8 0, v8 0, v8 0, v8 0, v8 0, v8 0, v8 0, v8 0, v8 0, v8 0, v8 0, v8 0, v8 0, v8 0, v8 0, v8 0, v8 0])])) := Grow.push _ _
  have cmz : Cells (H.push (.row [some (0, repl b [v8 0, v8 0, v8 0, v8 0, v8 0, v8 0, v8 0, v8 0, v8 0, v8 0, v8 0, v8 0, v8 0, v8 0, v8 0, v8 0, v8 0, v8 0, v8 0, v8 0, v8 0, v8 0, v8 0, v8 0, v8 0, v8 0, v8 0, v8 0, v8 0, v8 0, v8 0, v8 0])])) H.next (zerosB b).flatten := by show AHeap.get _ _ = _; rw [AHeap.get_push_same, repl_zeros]
  have np : (H.push (.row [some (0, repl b [v8 0, v8 0, v8 0, v8 0, v8 0, v8 0, v8 0, v8 0, v8 0, v8 0, v8 0, v8 0, v8 0, v8 0, v8 0, v8 0, v8 0, v8 0, v8 0, v8 0, v8 0, v8 0, v8 0, v8 0, v8 0, v8 0, v8 0, v8 0, v8 0, v8 0, v8 0, v8 0])])).next = H.next + 1 := rfl
  generalize hHp : H.push (.row [some (0, repl b [v8 0, v8 0, v8 0, v8 0, v8 0, v8 0, v8 0, v8 0, v8 0, v8 0, v8 0, v8 0, v8 0, v8 0, v8 0, v8 0, v8 0, v8 0, v8 0, v8 0, v8 0, v8 0, v8 0, v8 0, v8 0, v8 0, v8 0, v8 0, v8 0, v8 0, v8 0, v8 0])]) = Hp at *
  obtain ⟨tm1, e1, l1, f1_0, f1_1, f1_4, f1_5, f1_6⟩ : ∃ tm1 : List AVal, aCode or true n (fstC (a40.code)) ⟨tm, H, []⟩ = some (.normal, ⟨tm1, H, []⟩) ∧ tm1.length = 85 ∧ tm1[0]? = some (vi b) ∧ tm1[1]? = some (vt) ∧ tm1[4]? = some (anil) ∧ tm1[5]? = some (anil) ∧ tm1[6]? = some (vi 0) := by
    refine ⟨?e1w, ?e1a, ?e1b0, ?e1b1, ?e1b2, ?e1b3, ?e1b4, ?e1b5⟩
    case e1a =>
      apply regN
      iterate 3 (apply stepN; · simp [-getElem?_pos, List.getElem?_set, len]; rfl)
      exact nilN (or := or)
    all_goals simp [-getElem?_pos, List.getElem?_set, len, t0, t1]
  obtain ⟨tm2, e2, l2, f2_0, f2_1, f2_4, f2_5, f2_6, f2_18⟩ : ∃ tm2 : List AVal, aCode or true n (fstC (fstC (sndC (a40.code)))) ⟨tm1, H, []⟩ = some (.normal, ⟨tm2, H, []⟩) ∧ tm2.length = 85 ∧ tm2[0]? = some (vi b) ∧ tm2[1]? = some (vt) ∧ tm2[4]? = some (anil) ∧ tm2[5]? = some (anil) ∧ tm2[6]? = some (vi 0) ∧ tm2[18]? = some (abool false) := by
    refine ⟨?e2w, ?e2a, ?e2b0, ?e2b1, ?e2b2, ?e2b3, ?e2b4, ?e2b5, ?e2b6⟩
    case e2a =>
      apply regN
      iterate 6 (apply stepN; · simp [-getElem?_pos, List.getElem?_set, l1, f1_0, hb1, hb2]; rfl)
      exact nilN (or := or)
    all_goals simp [-getElem?_pos, List.getElem?_set, l1, f1_0, f1_1, f1_4, f1_5, f1_6]
  obtain ⟨tm3, e3, l3, f3_0, f3_1, f3_4, f3_5, f3_6, f3_7, f3_18⟩ : ∃ tm3 : List AVal, aCode or true n (fstC (sndC (sndC (a40.code)))) ⟨tm2, H, []⟩ = some (.normal, ⟨tm3, Hp, []⟩) ∧ tm3.length = 85 ∧ tm3[0]? = some (vi b) ∧ tm3[1]? = some (vt) ∧ tm3[4]? = some (anil) ∧ tm3[5]? = some (anil) ∧ tm3[6]? = some (vi 0) ∧ tm3[7]? = some (.slice H.next 0 0 b b true 32) ∧ tm3[18]? = some (abool false) := by
    refine ⟨?e3w, ?e3a, ?e3b0, ?e3b1, ?e3b2, ?e3b3, ?e3b4, ?e3b5, ?e3b6, ?e3b7⟩
    case e3a =>
      apply regN
      iterate 3 (apply stepN; · simp [-getElem?_pos, List.getElem?_set, l2, f2_0, hb3, hb4, hb5, hb6, hHp]; rfl)
      exact nilN (or := or)
    all_goals simp [-getElem?_pos, List.getElem?_set, l2, f2_0, f2_1, f2_4, f2_5, f2_6, f2_18]
  obtain ⟨tm4, e4, l4, f4_0, f4_1, f4_4, f4_5, f4_6, f4_7, f4_8, f4_18⟩ : ∃ tm4 : List AVal, aCode or true n (fstC (sndC (sndC (sndC (a40.code))))) ⟨tm3, Hp, []⟩ = some (.normal, ⟨tm4, Hp, []⟩) ∧ tm4.length = 85 ∧ tm4[0]? = some (vi b) ∧ tm4[1]? = some (vt) ∧ tm4[4]? = some (anil) ∧ tm4[5]? = some (anil) ∧ tm4[6]? = some (vi 0) ∧ tm4[7]? = some (.slice H.next 0 0 b b true 32) ∧ tm4[8]? = some (anil) ∧ tm4[18]? = some (abool false) := by
    refine ⟨?e4w, ?e4a, ?e4b0, ?e4b1, ?e4b2, ?e4b3, ?e4b4, ?e4b5, ?e4b6, ?e4b7, ?e4b8⟩
    case e4a =>
      apply regN
      iterate 1 (apply stepN; · simp [-getElem?_pos, List.getElem?_set, l3]; rfl)
      exact nilN (or := or)
    all_goals simp [-getElem?_pos, List.getElem?_set, l3, f3_0, f3_1, f3_4, f3_5, f3_6, f3_7, f3_18]
  obtain ⟨tm5, e5, l5, f5_0, f5_1, f5_4, f5_5, f5_6, f5_7, f5_8, f5_9, f5_18⟩ : ∃ tm5 : List AVal, aCode or true n (fstC (fstC (sndC (sndC (sndC (sndC (a40.code))))))) ⟨tm4, Hp, []⟩ = some (.normal, ⟨tm5, Hp, []⟩) ∧ tm5.length = 85 ∧ tm5[0]? = some (vi b) ∧ tm5[1]? = some (vt) ∧ tm5[4]? = some (anil) ∧ tm5[5]? = some (anil) ∧ tm5[6]? = some (vi 0) ∧ tm5[7]? = some (.slice H.next 0 0 b b true 32) ∧ tm5[8]? = some (anil) ∧ tm5[9]? = some (vi 0) ∧ tm5[18]? = some (abool false) := by
    refine ⟨?e5w, ?e5a, ?e5b0, ?e5b1, ?e5b2, ?e5b3, ?e5b4, ?e5b5, ?e5b6, ?e5b7, ?e5b8, ?e5b9⟩
    case e5a =>
      apply regN
      iterate 1 (apply stepN; · simp [-getElem?_pos, List.getElem?_set, l4]; rfl)
      exact nilN (or := or)
    all_goals simp [-getElem?_pos, List.getElem?_set, l4, f4_0, f4_1, f4_4, f4_5, f4_6, f4_7, f4_8, f4_18]
  obtain ⟨H2, v4, avs, tm6, e6, l6, q7, q8, cm2, hd2, hn2', hk2⟩ : ∃ H2 v4 avs tmk, aLoop (aCode or true n (fstC (fstC (sndC (fstC (sndC (sndC (sndC (sndC (a40.code)))))))))) n ⟨tm5, Hp, []⟩ = some (.exit 0, ⟨tmk, H2, []⟩) ∧ tmk.length = 85 ∧ tmk[7]? = some (.slice H.next 0 0 b b true 32) ∧ tmk[8]? = some v4 ∧ Cells H2 H.next (txsM (zerosB b) txs).flatten ∧ ToldAt H2 (H.next + 1) v4 avs (toldT (zerosB b) txs) ∧ Hp.next ≤ H2.next ∧ (∀ A, A < H.next → H2.get A = Hp.get A) := by
    obtain ⟨H2, tm2, r1, r2, r3⟩ := lp H.next ht.lies ht.below' txs.length 0 n _ anil [] tm5 (by omega) hn2 (ht.grow gp) (by omega) cmz (ToldAt.nil _ _) l5 f5_0 f5_1 f5_7 f5_8 f5_9
    rcases r3 with ⟨v4, avs, e1, _, ⟨a0, a1, a2⟩, c1, d1⟩ | ⟨_, ⟨t, r4, o, r5, r6⟩, _⟩
    · exact ⟨H2, v4, avs, tm2, e1, a0, a1, a2, c1, d1, r1, r2⟩
    · exact absurd r6 (hg t (by simpa using r4) o r5)
  obtain ⟨tm7, e7, l7, f7_4, f7_5, f7_6, f7_7, f7_8⟩ : ∃ tm7 : List AVal, aCode or true n (fstC (sndC (sndC (sndC (sndC (sndC (a40.code))))))) ⟨tm6, H2, []⟩ = some (.normal, ⟨tm7, H2, []⟩) ∧ tm7.length = 85 ∧ tm7[4]? = some (v4) ∧ tm7[5]? = some (.slice H.next 0 0 b b true 32) ∧ tm7[6]? = some (vi 0) ∧ tm7[7]? = some (.slice H.next 0 0 b b true 32) ∧ tm7[8]? = some (v4) := by
    refine ⟨?e7w, ?e7a, ?e7b0, ?e7b1, ?e7b2, ?e7b3, ?e7b4, ?e7b5⟩
    case e7a =>
      apply regN
      iterate 5 (apply stepN; · simp [-getElem?_pos, List.getElem?_set, l6, q7, q8]; rfl)
      exact nilN (or := or)
    all_goals simp [-getElem?_pos, List.getElem?_set, l6, q7, q8]
  have hlm : (txsM (zerosB b) txs).length = b := by rw [txsM_len, zerosB_len]
  have hvm := txsM_vals txs (zerosB_vals b) ht.ok
  have hfl := flatten_len (n := 32) (es := txsM (zerosB b) txs) fun v hv => (hvm v hv).len
  rw [hlm] at hfl
  refine ⟨v4, avs, H2, endN (es := (.ret, ⟨tm7, H2, []⟩)) (seqN e1 (seqN (seqN e2 (condF f2_18 skipN)) (seqN e3 (seqN e4 (seqN (seqN e5 (blkE (loopC e6))) (seqN e7 retN)))))) (by simp [-getElem?_pos, endF, leaveN, a40_res, f7_4, f7_5, f7_6]), ⟨by omega, fun A hA => by rw [hk2 A hA, gp.get A hA]⟩, hd2.move (by omega) (Nat.le_refl _) (fun _ _ _ => rfl), by omega, fun v hv => (hvm v hv).len, .inr ⟨H.next, 0, 0, b, true, (txsM (zerosB b) txs).flatten, by rw [hlm], cm2.at, by omega, by rw [hlm, hfl]; omega, ?_⟩⟩
  rw [hlm, List.drop_zero, ← hfl, List.take_length]

end Go.Proofs.Ythbjfkkjmecaaaa
