/- Walks: SerialAlone, whole; its arguments, opened; the call, from any world. -/
import Derived.Test.YthbjfkkjmecaaaaAloneP
import Derived.Test.YthbjfkkjmecaaaaLitC
import Derived.Test.YthbjfkkjmecaaaaRows
namespace Go.Proofs.Ythbjfkkjmecaaaa
open Go Go.Vm

section

set_option linter.unusedVariables false
set_option linter.unusedSimpArgs false
attribute [local simp] aStep awanted aOp ev aRess aRes1 tup aBin aUn aArith ASt.put ile_eq ilt_eq ieq_eq aPart List.getElem?_cons_zero

theorem a8_res : a8.res = [.tmp 4] := rfl

/-- Lists of operations, as they were handed in. -/
structure TxsIn (H : AHeap) (vt : AVal) (avs : List AVal) (txs : List (List OpD)) : Prop where
  rd : RdE H 1 vt (avs.map fun a => [a])
  lies : vt.lies (· < H.next)
  len : avs.length = txs.length
  at_ : ∀ (i : Nat) a t, avs[i]? = some a → txs[i]? = some t → RdE H 35 a (t.map OpD.cells) ∧ a.lies (· < H.next)
  ok : ∀ t ∈ txs, ∀ o ∈ t, o.Ok
  small : ∀ t ∈ txs, (t.length + 1) * 72 ≤ 140737488355328

theorem TxsIn.short {H : AHeap} {vt : AVal} {avs : List AVal} {txs : List (List OpD)} (h : TxsIn H vt avs txs) (hf : txs.length ≤ 40) : TxsAt H vt avs txs := ⟨h.rd, h.lies, h.len, h.at_, h.ok, h.small, hf⟩

/-- No more than forty. -/
theorem TxsIn.cut {H : AHeap} {vt : AVal} {avs : List AVal} {txs : List (List OpD)} (h : TxsIn H vt avs txs) (hf : 40 < txs.length) : ∃ vt', aSliceS 1 vt none (some (vi 40)) none = some vt' ∧ TxsAt H vt' (avs.take 40) (txs.take 40) := by
  obtain ⟨vt', h1, h2, h3⟩ := h.rd.first (k := 40) (by rw [List.length_map, h.len]; omega)
  refine ⟨vt', h1, ⟨by rw [← List.map_take] at h2; exact h2, h3 _ h.lies, by rw [List.length_take, List.length_take, h.len], fun i a t ha ht => ?_, fun t ht => h.ok t (List.mem_of_mem_take ht), fun t ht => h.small t (List.mem_of_mem_take ht), by rw [List.length_take]; omega⟩⟩
  rw [List.getElem?_take] at ha ht
  split at ha
  · rename_i hi
    rw [if_pos hi] at ht
    exact h.at_ i a t ha ht
  · cases ha

theorem slack {a N : Nat} (h : (N + 1) * 72 ≤ 140737488355328) (ha : a ≤ N) (h0 : 70 ≤ 70) : (a + 71) * 32 ≤ 140737488355328 := by
  have h1 : (a + 71) * 32 ≤ (N + 71) * 32 := Nat.mul_le_mul_right 32 (by omega)
  refine Nat.le_trans h1 ?_
  omega

theorem end8p (or : Oracle) (n : Nat) (b f : Int) (v5 v6 v8a v10 vt : AVal) (H : AHeap) (tm : List AVal) (len : tm.length = 186) (t0 : tm[0]? = some (vi b)) (t1 : tm[1]? = some (vt)) (t4 : tm[4]? = some (abool false)) (t5 : tm[5]? = some (v5)) (t6 : tm[6]? = some (v6)) (t7 : tm[7]? = some (vi f)) (t8 : tm[8]? = some (v8a)) (t10 : tm[10]? = some (v10)) (t11 : tm[11]? = some (vi 2)) :
    ∃ tm', aCode or true n (fstC (fstC (sndC (fstC (sndC (sndC (sndC (sndC (sndC (sndC (sndC (a8.code)))))))))))) ⟨tm, H, []⟩ = some (.exit 2, ⟨tm', H, []⟩) ∧ tm'.length = 186 ∧ tm'[1]? = some (vt) ∧ tm'[8]? = some (v8a) ∧ tm'[10]? = some (v10) := by
  obtain ⟨tm1, e1, l1, f1_0, f1_1, f1_4, f1_5, f1_6, f1_7, f1_8, f1_10, f1_11, f1_59⟩ : ∃ tm1 : List AVal, aCode or true n (fstC (fstC (fstC (fstC (sndC (fstC (sndC (sndC (sndC (sndC (sndC (sndC (sndC (a8.code)))))))))))))) ⟨tm, H, []⟩ = some (.normal, ⟨tm1, H, []⟩) ∧ tm1.length = 186 ∧ tm1[0]? = some (vi b) ∧ tm1[1]? = some (vt) ∧ tm1[4]? = some (abool false) ∧ tm1[5]? = some (v5) ∧ tm1[6]? = some (v6) ∧ tm1[7]? = some (vi f) ∧ tm1[8]? = some (v8a) ∧ tm1[10]? = some (v10) ∧ tm1[11]? = some (vi 2) ∧ tm1[59]? = some (abool false) := by
    refine ⟨?e1w, ?e1a, ?e1b0, ?e1b1, ?e1b2, ?e1b3, ?e1b4, ?e1b5, ?e1b6, ?e1b7, ?e1b8, ?e1b9, ?e1b10⟩
    case e1a =>
      apply regN
      iterate 2 (apply stepN; · simp [-getElem?_pos, List.getElem?_set, len, t11]; rfl)
      exact nilN (or := or)
    all_goals simp [-getElem?_pos, List.getElem?_set, len, t0, t1, t4, t5, t6, t7, t8, t10, t11]
  exact ⟨tm1, (seqX (seqN e1 (condF f1_59 exitN)) (by simp)), l1, f1_1, f1_8, f1_10⟩

/-- Both passes. -/
theorem passes (or : Oracle) (n : Nat) (b f : Int) (txs : List (List OpD)) (vs : List (List (List AVal))) (ms : List (List AVal)) (hA : Answers b txs vs ms f) (v5 v6 v8a vt : AVal) (H : AHeap) (ain avw : List AVal) (hin : TxsAt H v8a ain txs) (r5 : RdE H 1 v5 (avw.map fun a => [a])) (l5 : v5.lies (· < H.next)) (hl2 : avw.length = vs.length)
    (r5a : ∀ (i : Nat) a l, avw[i]? = some a → vs[i]? = some l → RdE H 32 a l ∧ a.lies (· < H.next)) (r6 : RdE H 32 v6 ms) (l6 : v6.lies (· < H.next)) (N : Nat) (hN : N + 2 ≤ n) (hc : or = callM kn env n) (htl : ∀ t ∈ txs, t.length < N) (htn : txs.length < N) (hv32 : ∀ l ∈ vs, l.length ≤ N ∧ l.length ≤ 140737488355328) (hms : ms.length < N) (tm : List AVal) (len : tm.length = 186) (t0 : tm[0]? = some (vi b)) (t1 : tm[1]? = some (vt)) (t4 : tm[4]? = some (abool false)) (t5 : tm[5]? = some (v5)) (t6 : tm[6]? = some (v6)) (t7 : tm[7]? = some (vi f)) (t8 : tm[8]? = some (v8a)) (t10 : tm[10]? = some (anil)) (t11 : tm[11]? = some (vi 0)) :
    ∃ H3 v10 al lcs tmk, aLoop (aCode or true n (fstC (fstC (sndC (fstC (sndC (sndC (sndC (sndC (sndC (sndC (sndC (a8.code))))))))))))) n ⟨tm, H, []⟩ = some (.exit 2, ⟨tmk, H3, []⟩) ∧ (tmk.length = 186 ∧ tmk[1]? = some vt ∧ tmk[8]? = some v8a ∧ tmk[10]? = some v10) ∧ ToldAt H3 H.next v10 al lcs ∧ al.length ≤ 82 ∧ (∀ l ∈ lcs, l = ms ∨ l ∈ vs) ∧ Grow H H3 := by
  obtain ⟨H1, vb, al, lcs, tm1, h1, l, f0, f1, f4, f5, f6, f7, f8, f10, f11, ta, na1, mem1, n1, k1⟩ := it8p or n b f txs vs ms hA 0 v5 v6 v8a anil vt H ain avw hin r5 l5 hl2 r5a r6 l6 H.next (Nat.le_refl _) [] [] (ToldAt.nil _ _) (Nat.le_refl _) (by omega) N hN hc htl htn hv32 hms tm len t0 t1 t4 t5 t6 t7 t8 t10 t11
  have g1 : Grow H H1 := ⟨n1, k1⟩
  obtain ⟨H2, vc, al2, lcs2, tm2, h2, l', f0', f1', f4', f5', f6', f7', f8', f10', f11', tb, na2, mem2, n2, k2⟩ := it8p or n b f txs vs ms hA 1 v5 v6 v8a vb vt H1 ain avw (hin.grow g1) (r5.grow g1 l5) (lies_lt l5 n1) hl2 (fun i a l ha hl => ⟨(r5a i a l ha hl).1.grow g1 (r5a i a l ha hl).2, lies_lt (r5a i a l ha hl).2 n1⟩) (r6.grow g1 l6) (lies_lt l6 n1) H.next n1 al lcs ta (by omega) (by omega) N hN hc htl htn hv32 hms tm1 l f0 f1 f4 f5 f6 f7 f8 f10 f11
  obtain ⟨tm3, h3, l3, z1, z8, z10⟩ := end8p or n b f v5 v6 v8a vc vt H2 tm2 l' f0' f1' f4' f5' f6' f7' f8' f10' f11'
  refine ⟨H2, vc, al2, lcs2, tm3, ?_, ⟨l3, z1, z8, z10⟩, tb, by omega, fun x hx => ?_, ⟨by omega, fun A hA' => by rw [k2 A hA', k1 A hA']⟩⟩
  · obtain ⟨m, rfl⟩ : ∃ m, n = m + 3 := ⟨n - 3, by omega⟩
    simp only [aLoop, h1, h2, h3]
  · rcases mem2 x hx with h | h | h
    · rcases mem1 x h with h' | h' | h'
      · simp at h'
      · exact .inl h'
      · exact .inr h'
    · exact .inl h
    · exact .inr h

/-- SerialAlone, of lists that are no more than forty. -/
theorem tail8 (or : Oracle) (n' : Nat) (hc : or = callM kn env (n' + 2)) (b : Int) (vt : AVal) (avt : List AVal) (txs : List (List OpD)) (H : AHeap) (ht : TxsAt H vt avt txs) (N : Nat) (hN : N + 200 ≤ n') (htl : ∀ t ∈ txs, t.length < N) (htn : txs.length + 100 < N) (tm : List AVal) (len : tm.length = 186) (t0 : tm[0]? = some (vi b)) (t1 : tm[1]? = some vt) (t4 : tm[4]? = some (abool false)) :
    ∃ tm' H', aCode or true (n' + 2) (sndC (sndC (a8.code))) ⟨tm, H, []⟩ = some (.ret, ⟨tm', H', []⟩) ∧ tm'[4]? = some (abool true) := by
  obtain ⟨vs, ms, f, hA⟩ := answers b txs ht.few ht.ok
  have hfew := ht.few
  have haw : or (.func (.func 12) []) [] H = some (abool true, H) := by rw [hc]; exact knM (n' + 1) rfl
  obtain ⟨v5, v6, avw, H1, h40, g1, r5, lz5, hl2, r5a, r6, lz6⟩ := hA.ref (n' + 1) H vt avt ht (fun t ht' => by have := htl t ht'; omega) (by omega)
  rw [← hc] at h40
  have ht1 := ht.grow g1
  have hvl : ∀ l ∈ vs, ∃ t ∈ txs, l.length ≤ t.length := fun l hl => by
    obtain ⟨i, hi⟩ := List.mem_iff_getElem?.1 hl
    have hi1 := (List.getElem?_eq_some_iff.1 hi).1
    have hi2 : i < txs.length := Nat.lt_of_lt_of_le hi1 hA.lens
    have hx : txs[i]? = some txs[i] := List.getElem?_eq_getElem hi2
    exact ⟨txs[i], List.getElem_mem _, hA.len i _ _ hx hi⟩
  have hv32 : ∀ l ∈ vs, l.length ≤ N ∧ l.length ≤ 140737488355328 := fun l hl => by
    obtain ⟨t, h1, h2⟩ := hvl l hl
    have h3 := htl t h1
    have h4 := ht.small t h1
    exact ⟨by omega, by omega⟩
  have hv71 : ∀ l ∈ vs, (l.length + 71) * 32 ≤ 140737488355328 := fun l hl => by
    obtain ⟨t, h1, h2⟩ := hvl l hl
    exact slack (ht.small t h1) h2 (Nat.le_refl _)
  have hms : ms.length < N := by have := hA.mfew; omega
  obtain ⟨tm1, e1, l1, f1_0, f1_1, f1_4, f1_26⟩ : ∃ tm1 : List AVal, aCode or true (n' + 2) (fstC (fstC (sndC (sndC (a8.code))))) ⟨tm, H, []⟩ = some (.normal, ⟨tm1, H, []⟩) ∧ tm1.length = 186 ∧ tm1[0]? = some (vi b) ∧ tm1[1]? = some (vt) ∧ tm1[4]? = some (abool false) ∧ tm1[26]? = some (abool false) := by
    refine ⟨?e1w, ?e1a, ?e1b0, ?e1b1, ?e1b2, ?e1b3, ?e1b4⟩
    case e1a =>
      apply regN
      iterate 2 (apply stepN; · simp [-getElem?_pos, List.getElem?_set, len, haw]; rfl)
      exact nilN (or := or)
    all_goals simp [-getElem?_pos, List.getElem?_set, len, t0, t1, t4]
  obtain ⟨tm2, e2, l2, f2_0, f2_1, f2_4, f2_5, f2_6, f2_7, f2_26⟩ : ∃ tm2 : List AVal, aCode or true (n' + 2) (fstC (sndC (sndC (sndC (a8.code))))) ⟨tm1, H, []⟩ = some (.normal, ⟨tm2, H1, []⟩) ∧ tm2.length = 186 ∧ tm2[0]? = some (vi b) ∧ tm2[1]? = some (vt) ∧ tm2[4]? = some (abool false) ∧ tm2[5]? = some (v5) ∧ tm2[6]? = some (v6) ∧ tm2[7]? = some (vi f) ∧ tm2[26]? = some (abool false) := by
    refine ⟨?e2w, ?e2a, ?e2b0, ?e2b1, ?e2b2, ?e2b3, ?e2b4, ?e2b5, ?e2b6, ?e2b7⟩
    case e2a =>
      apply regN
      iterate 10 (apply stepN; · simp [-getElem?_pos, List.getElem?_set, l1, f1_0, f1_1, h40]; rfl)
      exact nilN (or := or)
    all_goals simp [-getElem?_pos, List.getElem?_set, l1, f1_0, f1_1, f1_4, f1_26]
  obtain ⟨tm3, e3, l3, f3_0, f3_1, f3_4, f3_5, f3_6, f3_7, f3_8, f3_26⟩ : ∃ tm3 : List AVal, aCode or true (n' + 2) (fstC (sndC (sndC (sndC (sndC (a8.code)))))) ⟨tm2, H1, []⟩ = some (.normal, ⟨tm3, H1, []⟩) ∧ tm3.length = 186 ∧ tm3[0]? = some (vi b) ∧ tm3[1]? = some (vt) ∧ tm3[4]? = some (abool false) ∧ tm3[5]? = some (v5) ∧ tm3[6]? = some (v6) ∧ tm3[7]? = some (vi f) ∧ tm3[8]? = some (anil) ∧ tm3[26]? = some (abool false) := by
    refine ⟨?e3w, ?e3a, ?e3b0, ?e3b1, ?e3b2, ?e3b3, ?e3b4, ?e3b5, ?e3b6, ?e3b7, ?e3b8⟩
    case e3a =>
      apply regN
      iterate 1 (apply stepN; · simp [-getElem?_pos, List.getElem?_set, l2]; rfl)
      exact nilN (or := or)
    all_goals simp [-getElem?_pos, List.getElem?_set, l2, f2_0, f2_1, f2_4, f2_5, f2_6, f2_7, f2_26]
  obtain ⟨tm4, e4, l4, f4_0, f4_1, f4_4, f4_5, f4_6, f4_7, f4_8, f4_9, f4_26⟩ : ∃ tm4 : List AVal, aCode or true (n' + 2) (fstC (fstC (sndC (sndC (sndC (sndC (sndC (a8.code)))))))) ⟨tm3, H1, []⟩ = some (.normal, ⟨tm4, H1, []⟩) ∧ tm4.length = 186 ∧ tm4[0]? = some (vi b) ∧ tm4[1]? = some (vt) ∧ tm4[4]? = some (abool false) ∧ tm4[5]? = some (v5) ∧ tm4[6]? = some (v6) ∧ tm4[7]? = some (vi f) ∧ tm4[8]? = some (anil) ∧ tm4[9]? = some (vi 0) ∧ tm4[26]? = some (abool false) := by
    refine ⟨?e4w, ?e4a, ?e4b0, ?e4b1, ?e4b2, ?e4b3, ?e4b4, ?e4b5, ?e4b6, ?e4b7, ?e4b8, ?e4b9⟩
    case e4a =>
      apply regN
      iterate 1 (apply stepN; · simp [-getElem?_pos, List.getElem?_set, l3]; rfl)
      exact nilN (or := or)
    all_goals simp [-getElem?_pos, List.getElem?_set, l3, f3_0, f3_1, f3_4, f3_5, f3_6, f3_7, f3_8, f3_26]
  obtain ⟨H2, v8', ain, tm5, e5, ⟨l5, q0, q1, q4, q5, q6, q7, q8⟩, hin, n2, k2⟩ := loop8a or (n' + 2) b f v5 v6 vt avt txs H1.next (lies_lt ht.lies g1.next) (fun i a ha => lies_lt (ht.below' i a ha) g1.next) txs.length 0 (n' + 2) H1 anil [] tm4 (by omega) (by omega) ht1 (Nat.le_refl _) (InAt.nil _ _) l4 f4_0 f4_1 f4_4 f4_5 f4_6 f4_7 f4_8 f4_9
  have g2 : Grow H1 H2 := ⟨n2, k2⟩
  have ht2 := ht1.grow g2
  have htin : TxsAt H2 v8' ain txs :=
    { rd := hin.rd.rd
      lies := lies_imp hin.rd.lies fun R h => h.2
      len := hin.len
      at_ := fun i a t ha hti => ⟨(hin.at_ i a t ha hti).rd (ht.ok t (List.mem_of_getElem? hti)), lies_imp (hin.at_ i a t ha hti).lies fun R h => h.2⟩
      ok := ht.ok
      small := ht.small
      few := ht.few }
  obtain ⟨tm6, e6, l6, f6_0, f6_1, f6_4, f6_5, f6_6, f6_7, f6_8, f6_10⟩ : ∃ tm6 : List AVal, aCode or true (n' + 2) (fstC (sndC (sndC (sndC (sndC (sndC (sndC (a8.code)))))))) ⟨tm5, H2, []⟩ = some (.normal, ⟨tm6, H2, []⟩) ∧ tm6.length = 186 ∧ tm6[0]? = some (vi b) ∧ tm6[1]? = some (vt) ∧ tm6[4]? = some (abool false) ∧ tm6[5]? = some (v5) ∧ tm6[6]? = some (v6) ∧ tm6[7]? = some (vi f) ∧ tm6[8]? = some (v8') ∧ tm6[10]? = some (anil) := by
    refine ⟨?e6w, ?e6a, ?e6b0, ?e6b1, ?e6b2, ?e6b3, ?e6b4, ?e6b5, ?e6b6, ?e6b7, ?e6b8⟩
    case e6a =>
      apply regN
      iterate 1 (apply stepN; · simp [-getElem?_pos, List.getElem?_set, l5]; rfl)
      exact nilN (or := or)
    all_goals simp [-getElem?_pos, List.getElem?_set, l5, q0, q1, q4, q5, q6, q7, q8]
  obtain ⟨tm7, e7, l7, f7_0, f7_1, f7_4, f7_5, f7_6, f7_7, f7_8, f7_10, f7_11⟩ : ∃ tm7 : List AVal, aCode or true (n' + 2) (fstC (fstC (sndC (sndC (sndC (sndC (sndC (sndC (sndC (a8.code)))))))))) ⟨tm6, H2, []⟩ = some (.normal, ⟨tm7, H2, []⟩) ∧ tm7.length = 186 ∧ tm7[0]? = some (vi b) ∧ tm7[1]? = some (vt) ∧ tm7[4]? = some (abool false) ∧ tm7[5]? = some (v5) ∧ tm7[6]? = some (v6) ∧ tm7[7]? = some (vi f) ∧ tm7[8]? = some (v8') ∧ tm7[10]? = some (anil) ∧ tm7[11]? = some (vi 0) := by
    refine ⟨?e7w, ?e7a, ?e7b0, ?e7b1, ?e7b2, ?e7b3, ?e7b4, ?e7b5, ?e7b6, ?e7b7, ?e7b8, ?e7b9⟩
    case e7a =>
      apply regN
      iterate 1 (apply stepN; · simp [-getElem?_pos, List.getElem?_set, l6]; rfl)
      exact nilN (or := or)
    all_goals simp [-getElem?_pos, List.getElem?_set, l6, f6_0, f6_1, f6_4, f6_5, f6_6, f6_7, f6_8, f6_10]
  obtain ⟨H3, v10, al, lcs, tm8, e8, ⟨l8, s1, s8, s10⟩, hal, hal2, hlc, g3⟩ : ∃ H3 v10 al lcs tmk, aLoop (aCode or true (n' + 2) (fstC (fstC (sndC (fstC (sndC (sndC (sndC (sndC (sndC (sndC (sndC (a8.code))))))))))))) (n' + 2) ⟨tm7, H2, []⟩ = some (.exit 2, ⟨tmk, H3, []⟩) ∧ (tmk.length = 186 ∧ tmk[1]? = some vt ∧ tmk[8]? = some v8' ∧ tmk[10]? = some v10) ∧ ToldAt H3 H2.next v10 al lcs ∧ al.length ≤ 82 ∧ (∀ l ∈ lcs, l = ms ∨ l ∈ vs) ∧ Grow H2 H3 :=
    passes or (n' + 2) b f txs vs ms hA v5 v6 v8' vt H2 ain avw htin (r5.grow g2 lz5) (lies_lt lz5 g2.next) hl2 (fun i a l ha hl => ⟨(r5a i a l ha hl).1.grow g2 (r5a i a l ha hl).2, lies_lt (r5a i a l ha hl).2 g2.next⟩) (r6.grow g2 lz6) (lies_lt lz6 g2.next) N (by omega) hc htl (by omega) hv32 hms tm7 l7 f7_0 f7_1 f7_4 f7_5 f7_6 f7_7 f7_8 f7_10 f7_11
  obtain ⟨tm9, e9, l9, f9_1, f9_8, f9_10, f9_16⟩ : ∃ tm9 : List AVal, aCode or true (n' + 2) (fstC (fstC (sndC (sndC (sndC (sndC (sndC (sndC (sndC (sndC (a8.code))))))))))) ⟨tm8, H3, []⟩ = some (.normal, ⟨tm9, H3, []⟩) ∧ tm9.length = 186 ∧ tm9[1]? = some (vt) ∧ tm9[8]? = some (v8') ∧ tm9[10]? = some (v10) ∧ tm9[16]? = some (vi 0) := by
    refine ⟨?e9w, ?e9a, ?e9b0, ?e9b1, ?e9b2, ?e9b3, ?e9b4⟩
    case e9a =>
      apply regN
      iterate 1 (apply stepN; · simp [-getElem?_pos, List.getElem?_set, l8]; rfl)
      exact nilN (or := or)
    all_goals simp [-getElem?_pos, List.getElem?_set, l8, s1, s8, s10]
  obtain ⟨H4, tm10, e10, ⟨l10, u10⟩, g4⟩ := loop8f or (n' + 2) vt avt txs H1.next v8' ain v10 (fun t ht' => by have := htl t ht'; omega) txs.length 0 (n' + 2) H3 tm9 (by omega) (by omega) (ht2.grow g3) (hin.grow g3) l9 f9_1 f9_8 f9_10 f9_16
  have hal4 : ToldAt H4 H2.next v10 al lcs := hal.move (Nat.le_refl _) g4.next fun A _ hA => g4.get A hA
  obtain ⟨own, ow1, ow2⟩ := owners v10 al hal4.apart hal4.own
  have lcl : ∀ (j : Nat) a, al[j]? = some a → ∃ l, lcs[j]? = some l := fun j a ha => by
    have hj := (List.getElem?_eq_some_iff.1 ha).1
    have hj2 : j < lcs.length := by rw [← hal4.len]; exact hj
    exact ⟨_, List.getElem?_eq_getElem hj2⟩
  have hmk : Marked H4 own v10 anil al (fun j => lcs.getD j []) [] (fun _ => []) :=
    { rdl := hal4.rd.rd
      liesl := fun R a1 a2 a3 a4 a5 a6 q => ⟨(hal4.rd.lies R a1 a2 a3 a4 a5 a6 q).2, ow1 R a1 a2 a3 a4 a5 a6 q⟩
      at_ := fun j a ha => by
        obtain ⟨l, hl⟩ := lcl j a ha
        refine ⟨?_, ow2 j a ha⟩
        show SliceE H4 0 32 a (lcs.getD j [])
        rw [List.getD_eq_getElem?_getD, hl]
        exact (hal4.at_ j a l ha hl).move (Nat.zero_le _) (Nat.le_refl _) fun _ _ _ => rfl
      rdL := SliceE.nil _ _ _
      liesL := fun R a1 a2 a3 a4 a5 a6 q => by cases q
      atL := fun q w hw => by simp at hw }
  have hlens : ∀ (j : Nat) a, al[j]? = some a → ((lcs.getD j []).length + 71) * 32 ≤ 140737488355328 ∧ (lcs.getD j []).length ≤ N := fun j a ha => by
    obtain ⟨l, hl⟩ := lcl j a ha
    rw [List.getD_eq_getElem?_getD, hl]
    show (l.length + 71) * 32 ≤ _ ∧ l.length ≤ N
    rcases hlc l (List.mem_of_getElem? hl) with rfl | h
    · exact ⟨Nat.le_trans (Nat.mul_le_mul_right 32 (Nat.add_le_add_right hA.mfew 71)) (by decide), by omega⟩
    · exact ⟨hv71 l h, (hv32 l h).1⟩
  obtain ⟨H5, h27⟩ := c27 (n' + 1) H4 own v10 al (fun j => lcs.getD j []) hmk (fun j a ha => (hlens j a ha).1) (by omega) (fun j a ha => by have := (hlens j a ha).2; show (lcs.getD j []).length + 70 < n' + 1; omega) (by omega) (by omega)
  rw [← hc] at h27
  obtain ⟨tm11, e11, l11, f11_4, f11_10⟩ : ∃ tm11 : List AVal, aCode or true (n' + 2) (fstC (sndC (sndC (sndC (sndC (sndC (sndC (sndC (sndC (sndC (a8.code))))))))))) ⟨tm10, H4, []⟩ = some (.normal, ⟨tm11, H5, []⟩) ∧ tm11.length = 186 ∧ tm11[4]? = some (abool true) ∧ tm11[10]? = some (v10) := by
    refine ⟨?e11w, ?e11a, ?e11b0, ?e11b1, ?e11b2⟩
    case e11a =>
      apply regN
      iterate 3 (apply stepN; · simp [-getElem?_pos, List.getElem?_set, l10, u10, h27]; rfl)
      exact nilN (or := or)
    all_goals simp [-getElem?_pos, List.getElem?_set, l10, u10]
  exact ⟨tm11, H5, (seqN (seqN e1 (condF f1_26 skipN)) (seqN e2 (seqN e3 (seqN (seqN e4 (blkE (loopC e5))) (seqN e6 (seqN (seqN e7 (blkE (loopC e8))) (seqN (seqN e9 (blkE (loopC e10))) (seqN e11 retN)))))))), f11_4⟩

/-- SerialAlone says true. -/
theorem c8 (n' : Nat) (b : Int) (vt : AVal) (avt : List AVal) (txs : List (List OpD)) (H : AHeap) (ht : TxsIn H vt avt txs) (N : Nat) (hN : N + 200 ≤ n') (htl : ∀ t ∈ txs, t.length < N) (htn : 140 < N) :
    ∃ H', callM kn env (n' + 3) (.func (.func 8) []) [vi b, vt] H = some (abool true, H') := by
  rw [opnM (af := a8) rfl (n' + 2) _ _ _ rfl]
  generalize hc : callM kn env (n' + 2) = or
  have len : (initTm a8 [vi b, vt]).length = 186 := rfl
  have t0 : (initTm a8 [vi b, vt])[0]? = some (vi b) := rfl
  have t1 : (initTm a8 [vi b, vt])[1]? = some vt := rfl
  show ∃ H', endF a8.res (aCode or true (n' + 2) a8.code ⟨initTm a8 [vi b, vt], H, []⟩) = _
  generalize initTm a8 [vi b, vt] = tm at len t0 t1
  have lvt := ht.rd.lenS
  rw [List.length_map, ht.len] at lvt
  by_cases hcut : 40 < txs.length
  · have hcut' : (40 : Int) < txs.length := by omega
    obtain ⟨vt', hsl, htc⟩ := ht.cut hcut
    obtain ⟨xatm1, xae1, xal1, xaf1_0, xaf1_1, xaf1_4⟩ : ∃ xatm1 : List AVal, aCode or true (n' + 2) (fstC (a8.code)) ⟨tm, H, []⟩ = some (.normal, ⟨xatm1, H, []⟩) ∧ xatm1.length = 186 ∧ xatm1[0]? = some (vi b) ∧ xatm1[1]? = some (vt) ∧ xatm1[4]? = some (abool false) := by
      refine ⟨?xae1w, ?xae1a, ?xae1b0, ?xae1b1, ?xae1b2, ?xae1b3⟩
      case xae1a =>
        apply regN
        iterate 1 (apply stepN; · simp [-getElem?_pos, List.getElem?_set, len]; rfl)
        exact nilN (or := or)
      all_goals simp [-getElem?_pos, List.getElem?_set, len, t0, t1]
    have len := xal1
    have t0 := xaf1_0
    have t1 := xaf1_1
    have t4 := xaf1_4
    obtain ⟨xbtm1, xbe1, xbl1, xbf1_0, xbf1_1, xbf1_4, xbf1_22⟩ : ∃ xbtm1 : List AVal, aCode or true (n' + 2) (fstC (fstC (sndC (a8.code)))) ⟨xatm1, H, []⟩ = some (.normal, ⟨xbtm1, H, []⟩) ∧ xbtm1.length = 186 ∧ xbtm1[0]? = some (vi b) ∧ xbtm1[1]? = some (vt) ∧ xbtm1[4]? = some (abool false) ∧ xbtm1[22]? = some (abool true) := by
      refine ⟨?xbe1w, ?xbe1a, ?xbe1b0, ?xbe1b1, ?xbe1b2, ?xbe1b3, ?xbe1b4⟩
      case xbe1a =>
        apply regN
        iterate 3 (apply stepN; · simp [-getElem?_pos, List.getElem?_set, len, t1, lvt, hcut']; rfl)
        exact nilN (or := or)
      all_goals simp [-getElem?_pos, List.getElem?_set, len, t0, t1, t4]
    obtain ⟨xbtm2, xbe2, xbl2, xbf2_0, xbf2_1, xbf2_4, xbf2_22⟩ : ∃ xbtm2 : List AVal, aCode or true (n' + 2) (fstC (sndC (fstC (sndC (a8.code))))) ⟨xbtm1, H, []⟩ = some (.normal, ⟨xbtm2, H, []⟩) ∧ xbtm2.length = 186 ∧ xbtm2[0]? = some (vi b) ∧ xbtm2[1]? = some (vt') ∧ xbtm2[4]? = some (abool false) ∧ xbtm2[22]? = some (abool true) := by
      refine ⟨?xbe2w, ?xbe2a, ?xbe2b0, ?xbe2b1, ?xbe2b2, ?xbe2b3, ?xbe2b4⟩
      case xbe2a =>
        apply regN
        iterate 3 (apply stepN; · simp [-getElem?_pos, List.getElem?_set, xbl1, xbf1_1, hsl]; rfl)
        exact nilN (or := or)
      all_goals simp [-getElem?_pos, List.getElem?_set, xbl1, xbf1_0, xbf1_1, xbf1_4, xbf1_22]
    obtain ⟨tmz, Hz, z1, z2⟩ := tail8 or n' hc.symm b vt' (avt.take 40) (txs.take 40) H htc N hN (fun t h => htl t (List.mem_of_mem_take h)) (by rw [List.length_take]; omega) xbtm2 xbl2 xbf2_0 xbf2_1 xbf2_4
    exact ⟨Hz, endN (es := (.ret, ⟨tmz, Hz, []⟩)) (seqN xae1 (seqN (seqN xbe1 (condT xbf1_22 xbe2)) z1)) (by simp [-getElem?_pos, endF, leaveN, a8_res, z2])⟩
  · have hcut' : ¬ (40 : Int) < txs.length := by omega
    obtain ⟨yatm1, yae1, yal1, yaf1_0, yaf1_1, yaf1_4⟩ : ∃ yatm1 : List AVal, aCode or true (n' + 2) (fstC (a8.code)) ⟨tm, H, []⟩ = some (.normal, ⟨yatm1, H, []⟩) ∧ yatm1.length = 186 ∧ yatm1[0]? = some (vi b) ∧ yatm1[1]? = some (vt) ∧ yatm1[4]? = some (abool false) := by
      refine ⟨?yae1w, ?yae1a, ?yae1b0, ?yae1b1, ?yae1b2, ?yae1b3⟩
      case yae1a =>
        apply regN
        iterate 1 (apply stepN; · simp [-getElem?_pos, List.getElem?_set, len]; rfl)
        exact nilN (or := or)
      all_goals simp [-getElem?_pos, List.getElem?_set, len, t0, t1]
    have len := yal1
    have t0 := yaf1_0
    have t1 := yaf1_1
    have t4 := yaf1_4
    obtain ⟨ybtm1, ybe1, ybl1, ybf1_0, ybf1_1, ybf1_4, ybf1_22⟩ : ∃ ybtm1 : List AVal, aCode or true (n' + 2) (fstC (fstC (sndC (a8.code)))) ⟨yatm1, H, []⟩ = some (.normal, ⟨ybtm1, H, []⟩) ∧ ybtm1.length = 186 ∧ ybtm1[0]? = some (vi b) ∧ ybtm1[1]? = some (vt) ∧ ybtm1[4]? = some (abool false) ∧ ybtm1[22]? = some (abool false) := by
      refine ⟨?ybe1w, ?ybe1a, ?ybe1b0, ?ybe1b1, ?ybe1b2, ?ybe1b3, ?ybe1b4⟩
      case ybe1a =>
        apply regN
        iterate 3 (apply stepN; · simp [-getElem?_pos, List.getElem?_set, len, t1, lvt, hcut']; rfl)
        exact nilN (or := or)
      all_goals simp [-getElem?_pos, List.getElem?_set, len, t0, t1, t4]
    obtain ⟨tmz, Hz, z1, z2⟩ := tail8 or n' hc.symm b vt avt txs H (ht.short (by omega)) N hN htl (by omega) ybtm1 ybl1 ybf1_0 ybf1_1 ybf1_4
    exact ⟨Hz, endN (es := (.ret, ⟨tmz, Hz, []⟩)) (seqN yae1 (seqN (seqN ybe1 (condF ybf1_22 skipN)) z1)) (by simp [-getElem?_pos, endF, leaveN, a8_res, z2])⟩

end

set_option linter.unusedVariables false
set_option linter.unusedSimpArgs false

theorem cells79 : Try.prog.cellsOf 79 = 35 := by kernel_rfl
theorem cells83 : Try.prog.cellsOf 83 = 1 := by kernel_rfl
theorem bytes79 : Try.prog.bytesOf 79 = 72 := by kernel_rfl
theorem tiles84 : tiles Try.prog 20 84 = true := by kernel_rfl

variable {X : Type}

section
variable {P : Program} {H : AHeap} {n : Nat} {t e : TypeId} {cs : List AVal} {d : DataW X}

theorem shows_int {k : IntKind} (ht : P.underlying t = some (.int k)) (h : shows P H n t cs d) : ∃ m, cs = [.raw (.int k m)] := by
  cases n with
  | zero => exact h.elim
  | succ n =>
    unfold shows at h
    rw [ht] at h
    obtain ⟨m, h1, _⟩ := h
    exact ⟨m, h1⟩

theorem shows_slice (ht : P.underlying t = some (.slice e)) (h : shows P H n t cs d) : (cs = [anil] ∧ d = .nil) ∨ ∃ (m A : Nat) (acss : List (List AVal)) (es sp : List (DataW X)), n = m + 1 ∧ cs = [.slice A 0 0 es.length (es.length + sp.length) true (P.cellsOf e)] ∧ d = .slice es sp ∧ H.get A = some (.ro acss.flatten) ∧
    acss.length = es.length + sp.length ∧ ∀ (i : Nat) (x : DataW X) (acs : List AVal), (es ++ sp)[i]? = some x → acss[i]? = some acs → acs.length = P.cellsOf e ∧ shows P H m e acs x := by
  cases n with
  | zero => exact h.elim
  | succ n =>
    unfold shows at h
    rw [ht] at h
    rcases h with h | ⟨A, acss, es, sp, h1, h2, h3, _, h5, h6⟩
    · exact .inl h
    · exact .inr ⟨n, A, acss, es, sp, rfl, h1, h2, h3, h5, h6⟩

theorem shows_struct {fs : Array Field} (ht : P.underlying t = some (.struct fs)) (h : shows P H n t cs d) : ∃ (m : Nat) (acss : List (List AVal)) (ds : List (DataW X)), n = m + 1 ∧ cs = acss.flatten ∧ acss.length = fs.size ∧ ds.length = fs.size ∧
    ∀ (i : Nat) (f : Field) (x : DataW X) (acs : List AVal), fs[i]? = some f → ds[i]? = some x → acss[i]? = some acs → acs.length = P.cellsOf f.type ∧ shows P H m f.type acs x := by
  cases n with
  | zero => exact h.elim
  | succ n =>
    unfold shows at h
    rw [ht] at h
    obtain ⟨acss, ds, h1, _, h3, h4, h5⟩ := h
    exact ⟨n, acss, ds, rfl, h1, h3, h4, h5⟩

theorem shows_array {k : Nat} (ht : P.underlying t = some (.array k e)) (h : shows P H n t cs d) : ∃ (m : Nat) (acss : List (List AVal)) (ds : List (DataW X)), n = m + 1 ∧ cs = acss.flatten ∧ acss.length = k ∧ ds.length = k ∧
    ∀ (i : Nat) (x : DataW X) (acs : List AVal), ds[i]? = some x → acss[i]? = some acs → acs.length = P.cellsOf e ∧ shows P H m e acs x := by
  cases n with
  | zero => exact h.elim
  | succ n =>
    unfold shows at h
    rw [ht] at h
    obtain ⟨acss, ds, h1, _, h3, h4, h5⟩ := h
    exact ⟨n, acss, ds, rfl, h1, h3, h4, h5⟩

theorem shows_nil (ht : P.underlying t = some (.slice e)) : shows P H (n + 1) t [anil] (DataW.nil : DataW X) := by
  unfold shows
  rw [ht]
  exact .inl ⟨rfl, rfl⟩

theorem weights_slice (ht : P.underlying t = some (.slice e)) (es sp : List (DataW X)) : (DataW.slice es sp).weights P t = (es.length + sp.length) * P.bytesOf e :: (DataW.weightsAll P e es ++ DataW.weightsAll P e sp) := by
  simp only [DataW.weights, ht]

theorem ok_slice {W : World} {b : Nat} {v : Value} (ht : P.underlying t = some (.slice e)) (h : Value.okWide P W .any b t v) : v = .slice none 0 0 ∨ ∃ a len cap, v = .slice (some a) len cap ∧ HasBlock W := by
  simp only [Value.okWide, ht, Cell.okWide] at h
  cases v with
  | slice a l c =>
    cases a with
    | none =>
      simp only [Cell.ok, ht] at h
      split at h
      all_goals first | exact h.elim | (simp_all; done) | skip
      all_goals (first | (left; simp_all; done) | simp_all)
    | some a =>
      simp only [Cell.ok, ht] at h
      obtain ⟨_, _, _, _, row, cells, hs, _⟩ := h
      refine .inr ⟨a, l, c, rfl, ?_⟩
      unfold World.shape? at hs
      split at hs
      · rename_i c e fz hh
        exact ⟨a.block, c, e, fz, hh⟩
      · cases hs
  | _ => simp [Cell.ok, ht] at h
end

/-- The cells of an operation. -/
theorem shows_op {H : AHeap} {n : Nat} {cs : List AVal} {d : DataW X} (h : shows Try.prog H n 79 cs d) : ∃ o : OpD, cs = o.cells ∧ o.Ok := by
  obtain ⟨n, acss, ds, rfl, h1, h3, h4, h5⟩ := shows_struct Try.underlying79 h
  match acss, ds, h3, h4 with
  | [c0, c1, c2, c3], [d0, d1, d2, d3], _, _ =>
    obtain ⟨_, s0⟩ := h5 0 _ d0 c0 rfl rfl rfl
    obtain ⟨_, s1⟩ := h5 1 _ d1 c1 rfl rfl rfl
    obtain ⟨_, s2⟩ := h5 2 _ d2 c2 rfl rfl rfl
    obtain ⟨_, s3⟩ := h5 3 _ d3 c3 rfl rfl rfl
    obtain ⟨m0, rfl⟩ := shows_int Try.underlying3 s0
    obtain ⟨m2, rfl⟩ := shows_int Try.underlying3 s2
    have hset : ∃ v, ∃ l : Nat, c1 = [v] ∧ v.one = true ∧ aLenS v = some (vi (l : Int)) := by
      rcases shows_slice Try.underlying25 s1 with ⟨rfl, _⟩ | ⟨_, A, _, es, _, _, rfl, _⟩
      · exact ⟨anil, 0, rfl, rfl, rfl⟩
      · exact ⟨_, es.length, rfl, rfl, rfl⟩
    obtain ⟨v, l, rfl, hone, hlen⟩ := hset
    have hval : IsVal c3 := by
      obtain ⟨m, a3, e3, _, z1, z3, z4, z5⟩ := shows_array Try.underlying29 s3
      have hb : ∀ e ∈ a3, ∃ k, e = [v8 k] := fun e he => by
        obtain ⟨i, hi⟩ := List.mem_iff_getElem?.1 he
        have hi2 : i < e3.length := by rw [z4, ← z3]; exact (List.getElem?_eq_some_iff.1 hi).1
        exact shows_int Try.underlying5 (z5 i _ e (List.getElem?_eq_getElem hi2) hi).2
      refine ⟨?_, fun c hc => ?_⟩
      · rw [z1, flatten_len (n := 1) fun e he => by obtain ⟨k, rfl⟩ := hb e he; rfl]; omega
      · rw [z1] at hc
        obtain ⟨e, he, hce⟩ := List.mem_flatten.1 hc
        obtain ⟨k, rfl⟩ := hb e he
        simp at hce
        exact ⟨k, hce⟩
    exact ⟨⟨m0, v, m2, c3⟩, by rw [h1]; simp [OpD.cells], hval, hone, l, hlen⟩

theorem ops_of {H : AHeap} : ∀ (l : List (List AVal)), (∀ e ∈ l, ∃ o : OpD, e = o.cells ∧ o.Ok) → ∃ t : List OpD, l = t.map OpD.cells ∧ ∀ o ∈ t, o.Ok
  | [], _ => ⟨[], rfl, fun o h => by simp at h⟩
  | e :: r, h => by
    obtain ⟨o, h1, h2⟩ := h e (List.mem_cons_self ..)
    obtain ⟨t, h3, h4⟩ := ops_of (H := H) r fun x hx => h x (List.mem_cons_of_mem _ hx)
    exact ⟨o :: t, by rw [h1, h3]; rfl, fun x hx => by
      rcases List.mem_cons.1 hx with rfl | hx
      · exact h2
      · exact h4 x hx⟩

/-- A list of operations, as it lies. -/
theorem shows_ops {H : AHeap} {n : Nat} {cs : List AVal} {d : DataW X} (h : shows Try.prog H n 83 cs d) (hw : ∀ w ∈ d.weights Try.prog 83, w ≤ reachBytes) (hd : ∀ A o, H.get A = some o → A < H.next) :
    ∃ (a : AVal) (t : List OpD), cs = [a] ∧ RdE H 35 a (t.map OpD.cells) ∧ a.lies (· < H.next) ∧ (∀ o ∈ t, o.Ok) ∧ (t.length + 1) * 72 ≤ 140737488355328 := by
  rcases shows_slice Try.underlying83 h with ⟨rfl, _⟩ | ⟨m, A, acss, es, sp, rfl, rfl, rfl, hg, hl, hall⟩
  · exact ⟨anil, [], rfl, ⟨fun e he => by simp at he, .inl ⟨rfl, rfl⟩⟩, fun R a1 a2 a3 a4 a5 a6 q => by (cases q), fun o ho => by simp at ho, by decide⟩
  · rw [cells79] at hall ⊢
    have hsome : ∀ (i : Nat) acs, acss[i]? = some acs → ∃ x, (es ++ sp)[i]? = some x := fun i acs hi => by
      have hlt := (List.getElem?_eq_some_iff.1 hi).1
      have hlt2 : i < (es ++ sp).length := by rw [List.length_append]; omega
      exact ⟨_, List.getElem?_eq_getElem hlt2⟩
    have h35 : ∀ e ∈ acss, e.length = 35 := fun e he => by
      obtain ⟨i, hi⟩ := List.mem_iff_getElem?.1 he
      obtain ⟨x, hx⟩ := hsome i e hi
      exact (hall i x e hx hi).1
    obtain ⟨t, ht, hok⟩ := ops_of (H := H) (acss.take es.length) fun e he => by
      obtain ⟨i, hi⟩ := List.mem_iff_getElem?.1 (List.mem_of_mem_take he)
      obtain ⟨x, hx⟩ := hsome i e hi
      exact shows_op (hall i x e hx hi).2
    have htl : t.length = es.length := by
      have := congrArg List.length ht
      rw [List.length_take, List.length_map] at this
      omega
    have hfl := flatten_len h35
    refine ⟨_, t, rfl, ⟨fun e he => by rw [← ht] at he; exact h35 e (List.mem_of_mem_take he), .inr ⟨A, 0, 0, es.length + sp.length, true, acss.flatten, by rw [List.length_map, htl], by unfold AHeap.rowAt; rw [hg]; rfl, by rw [List.length_map]; omega, ?_, ?_⟩⟩, fun R a1 a2 a3 a4 a5 a6 q => by cases q; exact hd A _ hg, hok, ?_⟩
    · rw [List.length_map, htl, Nat.zero_add, hfl, hl]; exact Nat.mul_le_mul_right _ (Nat.le_add_right _ _)
    · rw [List.length_map, htl, List.drop_zero, ← ht, flatten_take es.length h35]
    · have := hw ((es.length + sp.length) * Try.prog.bytesOf 79) (by rw [weights_slice Try.underlying83]; exact List.mem_cons_self ..)
      rw [bytes79] at this
      rw [htl]
      have h1 : es.length * 72 ≤ reachBytes := Nat.le_trans (Nat.mul_le_mul_right 72 (Nat.le_add_right _ _)) this
      rw [Nat.succ_mul]
      exact Nat.le_trans (Nat.add_le_add_right h1 72) (by decide)

theorem weightsAll_mem {P : Program} {e : TypeId} : ∀ {l : List (DataW X)} {x : DataW X} {w : Nat}, x ∈ l → w ∈ x.weights P e → w ∈ DataW.weightsAll P e l
  | [], x, w, h, _ => by simp at h
  | y :: r, x, w, h, hw => by
    simp only [DataW.weightsAll]
    rcases List.mem_cons.1 h with rfl | h
    · exact List.mem_append_left _ hw
    · exact List.mem_append_right _ (weightsAll_mem h hw)

/-- The lists, as they lie. -/
theorem shows_txs {H : AHeap} {n : Nat} {v : AVal} {d : DataW X} (h : shows Try.prog H n 84 [v] d) (hw : ∀ w ∈ d.weights Try.prog 84, w ≤ reachBytes) (hd : ∀ A o, H.get A = some o → A < H.next) : ∃ avs txs, TxsIn H v avs txs := by
  rcases shows_slice Try.underlying84 h with ⟨h1, _⟩ | ⟨m, A, acss, es, sp, rfl, h1, rfl, hg, hl, hall⟩
  · cases h1
    exact ⟨[], [], ⟨fun e he => by simp at he, .inl ⟨rfl, rfl⟩⟩, fun R a1 a2 a3 a4 a5 a6 q => by (cases q), rfl, fun i a t ha => by simp at ha, fun t ht => by simp at ht, fun t ht => by simp at ht⟩
  · cases h1
    rw [cells83] at hall ⊢
    have hsome : ∀ (i : Nat) acs, acss[i]? = some acs → ∃ x, (es ++ sp)[i]? = some x := fun i acs hi => by
      have hlt := (List.getElem?_eq_some_iff.1 hi).1
      have hlt2 : i < (es ++ sp).length := by rw [List.length_append]; omega
      exact ⟨_, List.getElem?_eq_getElem hlt2⟩
    have h1' : ∀ e ∈ acss, e.length = 1 := fun e he => by
      obtain ⟨i, hi⟩ := List.mem_iff_getElem?.1 he
      obtain ⟨x, hx⟩ := hsome i e hi
      exact (hall i x e hx hi).1
    have one : ∀ i, i < es.length → ∃ at_ : AVal × List OpD, acss[i]? = some [at_.1] ∧ RdE H 35 at_.1 (at_.2.map OpD.cells) ∧ at_.1.lies (· < H.next) ∧ (∀ o ∈ at_.2, o.Ok) ∧ (at_.2.length + 1) * 72 ≤ 140737488355328 := fun i hi => by
      have hx : es[i]? = some es[i] := List.getElem?_eq_getElem hi
      have hx' : (es ++ sp)[i]? = some es[i] := by rw [List.getElem?_append_left hi]; exact hx
      have hlt : i < acss.length := by omega
      have hc : acss[i]? = some acss[i] := List.getElem?_eq_getElem hlt
      obtain ⟨_, s⟩ := hall i _ _ hx' hc
      obtain ⟨a, t, q1, q2⟩ := shows_ops s (fun w hww => hw w (by
        rw [weights_slice Try.underlying84]
        exact List.mem_cons_of_mem _ (List.mem_append_left _ (weightsAll_mem (List.getElem_mem hi) hww)))) hd
      exact ⟨(a, t), by rw [hc, q1], q2⟩
    obtain ⟨g, hgx⟩ : ∃ g : Nat → AVal × List OpD, ∀ i, i < es.length → acss[i]? = some [(g i).1] ∧ RdE H 35 (g i).1 ((g i).2.map OpD.cells) ∧ (g i).1.lies (· < H.next) ∧ (∀ o ∈ (g i).2, o.Ok) ∧ ((g i).2.length + 1) * 72 ≤ 140737488355328 := by
      refine ⟨fun i => if hi : i < es.length then (one i hi).choose else (anil, []), fun i hi => ?_⟩
      simp only [hi, dif_pos]
      exact (one i hi).choose_spec
    have hat : ∀ {β : Type} (f : Nat → β) (i : Nat) y, ((List.range es.length).map f)[i]? = some y → i < es.length ∧ y = f i := fun {β} f i y hy => by
      rw [List.getElem?_map] at hy
      obtain ⟨j, hj, rfl⟩ := Option.map_eq_some_iff.1 hy
      have hlt : i < es.length := by
        have := (List.getElem?_eq_some_iff.1 hj).1
        simpa using this
      rw [List.getElem?_range hlt] at hj
      cases hj
      exact ⟨hlt, rfl⟩
    have hmem : ∀ t ∈ (List.range es.length).map (fun i => (g i).2), ∃ i, i < es.length ∧ t = (g i).2 := fun t ht => by
      obtain ⟨i, hi⟩ := List.mem_iff_getElem?.1 ht
      obtain ⟨a, b⟩ := hat _ i t hi
      exact ⟨i, a, b⟩
    have htk : acss.take es.length = ((List.range es.length).map fun i => (g i).1).map fun a => [a] := by
      refine List.ext_getElem? fun i => ?_
      by_cases hi : i < es.length
      · rw [List.getElem?_take, if_pos hi, (hgx i hi).1, List.getElem?_map, List.getElem?_map, List.getElem?_range hi]; rfl
      · rw [List.getElem?_take, if_neg hi, List.getElem?_eq_none (by simp; omega)]
    have hfl := flatten_len h1'
    refine ⟨(List.range es.length).map fun i => (g i).1, (List.range es.length).map fun i => (g i).2, ⟨fun e he => ?_, .inr ⟨A, 0, 0, es.length + sp.length, true, acss.flatten, by simp, by unfold AHeap.rowAt; rw [hg]; rfl, by simp, ?_, ?_⟩⟩, fun R a1 a2 a3 a4 a5 a6 q => by (cases q; exact hd A _ hg), by simp, fun i a t ha ht => ?_, fun t ht => ?_, fun t ht => ?_⟩
    · obtain ⟨a, _, rfl⟩ := List.mem_map.1 he; rfl
    · simp only [List.length_map, List.length_range, hfl, hl]; omega
    · simp only [List.length_map, List.length_range]
      rw [List.drop_zero, ← flatten_take es.length h1', htk]
    · obtain ⟨hi, rfl⟩ := hat _ i a ha
      obtain ⟨_, rfl⟩ := hat _ i t ht
      exact ⟨(hgx i hi).2.1, (hgx i hi).2.2.1⟩
    · obtain ⟨i, hi, rfl⟩ := hmem t ht
      exact (hgx i hi).2.2.2.1
    · obtain ⟨i, hi, rfl⟩ := hmem t ht
      exact (hgx i hi).2.2.2.2

/-- A run over arguments that are only read leaves all that lay there. -/
theorem calls_left {P : Program} {kn : Known} {t : List (List (Option AFunc))} (hk : KnownOk P kn) (ht : TabIs P 0 t) (hm : P.follows .mixedOrders = true) {n f : Nat} {args : List AVal} {cargs : Array Value} {v : Value} {w : World} {ρ : Ren} {H H' : AHeap}
    (h : callM kn (envOf t) n (.func (.func f) []) args H = some (.raw v, H')) (ho : Opened w ρ H) (hargs : VRels ρ args cargs.toList) : Calls P f cargs w fun e w' => e = .returned v ∧ Go.RowKit.Grown w w' ∧ ∀ c, c < w.heap.size → w'.heap[c]? = w.heap[c]? := by
  have hgo := callM_go hk (envOf_ok ht) n _ _ _ _ _ h
  have hc := (callM_ok hk (envOf_ok ht) hm n _ _ _ _ _ h).calls hgo
  have := hc (reads w) _ w cargs.toList ho.hrel (by simpa using hargs)
  rw [callsIn_wide] at this
  refine this.mono fun e w' ⟨v', cv, H1, ρ', e1, ⟨e2, e3⟩, e4, e5, _⟩ => ?_
  subst e2
  cases e4
  exact ⟨e1, e5.grownR, fun c hc => e5.frame c hc fun x => x⟩

/-- An argument of a slice type, opened. -/
theorem open_arg {P : Program} {base : Nat} {t e : TypeId} {v1 : Value} {d1 : DataW X} {W : World} {enc : TypeId × Value → X} {ps : List MemPlace} (ht : P.underlying t = some (.slice e)) (htl : tiles P 20 t = true) (h1 : DataW.Trod enc P W 0 (fun _ => true) true t v1 d1 ps) (hv : Value.okWide P W .any base t v1) :
    ∃ ρ H v, Opened W ρ H ∧ VRel ρ v v1 ∧ ∃ n, shows P H n t [v] d1 := by
  obtain ⟨fuel, h1⟩ := h1
  rcases ok_slice ht hv with rfl | ⟨a, len, cap, rfl, hb⟩
  · rcases DataW.trod_slice ht h1 with ⟨hc, hx⟩ | ⟨a, len, cap, elems, rest, n, hn, hc, _⟩
    · exact ⟨_, _, anil, Opened.empty W, .raw _, 1, by rw [(Prod.mk.inj hx).1]; exact shows_nil ht⟩
    · simp [Value.cells] at hc
  · obtain ⟨ρ', H', acs, o1, _, _, vr, sh⟩ := open_cells hb fuel 20 t _ _ _ _ htl (Opened.empty W) h1
    have vr' : VRels ρ' acs [Value.slice (some a) len cap] := vr
    cases vr' with
    | cons hvr hrest =>
      cases hrest
      exact ⟨ρ', H', _, o1, hvr, fuel, sh⟩

/-- SerialAlone says true, of whatever is handed in. -/
theorem alone_true (a0 : Int) (v1 : Value) (d1 : DataW X) (W : World) (hop : ∃ ρ H v, Opened W ρ H ∧ VRel ρ v v1 ∧ ∃ n, shows Try.prog H n 84 [v] d1) (hw : ∀ w ∈ d1.weights Try.prog 84, w ≤ reachBytes) :
    Calls Try.prog 8 #[.int .i64 a0, v1] W fun e w' => e = .returned (.bool true) ∧ Go.RowKit.Grown W w' ∧ ∀ c, c < W.heap.size → w'.heap[c]? = W.heap[c]? := by
  obtain ⟨ρ, H, v, ho, hvr, n, hs⟩ := hop
  have hd : ∀ A o, H.get A = some o → A < H.next := fun A o hA => by
    rcases Nat.lt_or_ge A H.next with h | h
    · exact h
    · rw [ho.wf A h] at hA; cases hA
  obtain ⟨avs, txs, ht⟩ := shows_txs hs hw hd
  have hle : ∀ t ∈ txs, t.length < (txs.map List.length).sum + 141 := fun t htt => by
    have : ∀ (l : List (List OpD)), t ∈ l → t.length ≤ (l.map List.length).sum := fun l => by
      induction l with
      | nil => intro h; simp at h
      | cons x r ih =>
        intro h
        simp only [List.map_cons, List.sum_cons]
        rcases List.mem_cons.1 h with rfl | h
        · omega
        · have := ih h; omega
    have := this txs htt
    omega
  obtain ⟨H', hrun⟩ := c8 ((txs.map List.length).sum + 341) a0 v avs txs H ht ((txs.map List.length).sum + 141) (by omega) hle (by omega)
  exact calls_left awake_known tabTIs Try.mixed hrun ho (.cons (.raw _) (.cons hvr .nil))

end Go.Proofs.Ythbjfkkjmecaaaa
