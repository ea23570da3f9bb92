/- Walks: Alone, all lists of operations done; Alone, whole. -/
import Derived.Test.YthbjfkkjmecaaaaAloneE
namespace Go.Proofs.Ythbjfkkjmecaaaa
open Go Go.Vm

set_option linter.unusedVariables false
set_option linter.unusedSimpArgs false
attribute [local simp] aStep awanted aOp ev aRess aRes1 tup aBin aUn aArith ASt.put ile_eq ilt_eq ieq_eq aPart List.getElem?_cons_zero

/-- Lists of values that were told, as they lie: each in a row of its own. -/
structure ToldAt (H : AHeap) (base : Nat) (v : AVal) (avs : List AVal) (vs : List (List (List AVal))) : Prop where
  rd : SliceE H base 1 v (avs.map fun a => [a])
  len : avs.length = vs.length
  at_ : ∀ (i : Nat) a l, avs[i]? = some a → vs[i]? = some l → SliceE H base 32 a l
  apart : ∀ (i j : Nat) a a', i < j → avs[i]? = some a → avs[j]? = some a' → a.lies fun R => a'.lies fun R' => R ≠ R'
  own : ∀ (i : Nat) a, avs[i]? = some a → v.lies fun R => a.lies fun R' => R ≠ R'

theorem ToldAt.nil (H : AHeap) (base : Nat) : ToldAt H base anil [] [] where
  rd := SliceE.nil H base 1
  len := rfl
  at_ := fun i a l h => by simp at h
  apart := fun i j a a' _ h => by simp at h
  own := fun i a h => by simp at h

theorem ToldAt.move {H H' : AHeap} {base base' : Nat} {v : AVal} {avs : List AVal} {vs : List (List (List AVal))} (h : ToldAt H base v avs vs) (hb : base' ≤ base) (hn : H.next ≤ H'.next) (hg : ∀ A, base ≤ A → A < H.next → H'.get A = H.get A) : ToldAt H' base' v avs vs where
  rd := h.rd.move hb hn hg
  len := h.len
  at_ := fun i a l ha hl => (h.at_ i a l ha hl).move hb hn hg
  apart := h.apart
  own := h.own

/-- One more list is told. -/
theorem ToldAt.add {H : AHeap} {base N : Nat} {v a : AVal} {avs : List AVal} {vs : List (List (List AVal))} {l : List (List AVal)} (h : ToldAt H base v avs vs) (hb : base ≤ N) (hlt : v.lies (· < N)) (hlts : ∀ (i : Nat) a, avs[i]? = some a → a.lies (· < N)) (ha : SliceE H N 32 a l) (hN : N ≤ H.next)
    {X : Nat} (hX : X = H.next) (hlen : (avs.length + 1) * 24 ≤ 140737488355328) :
    ∃ v' H', aAppend (H.push (.row [some (0, [a])])) 1 24 v (.slice X 0 0 1 1 true 1) = some (v', H') ∧ ToldAt H' base v' (avs ++ [a]) (vs ++ [l]) ∧ H.next ≤ H'.next ∧ ∀ A, A < base → H'.get A = H.get A := by
  subst hX
  have g := Grow.push H (.row [some (0, [a])])
  have hX : (H.push (.row [some (0, [a])])).rowAt H.next 0 = some [a] := by unfold AHeap.rowAt; rw [AHeap.get_push_same]; rfl
  have h1 : SliceE (H.push (.row [some (0, [a])])) base 1 v (avs.map fun a => [a]) := h.rd.move (Nat.le_refl _) g.next fun A _ hA => g.get A hA
  have hone : [a].all AVal.one = true := by simp [ha.rd.one]
  obtain ⟨v', H', e1, e2, e3, e4, e5, e6⟩ := h1.append (bytes := 24) (by simp; omega) hX rfl (by omega) (by omega) hone (by simpa using hlen) (ex := true) (kc := 1)
  have e3' : H.next ≤ H'.next := by simp at e3; omega
  -- what other rows bear stays
  have keep : ∀ (b : AVal) (m : List (List AVal)) (B : Nat), SliceE H B 32 b m → base ≤ B → (v.lies fun R => b.lies fun R' => R ≠ R') → SliceE H' base 32 b m := fun b m B hb' hB hown => by
    rcases hb' with ⟨h0, h | ⟨R, ver, vs, q1, q2, q3, q4, q5⟩⟩
    · exact ⟨h0, .inl h⟩
    · refine ⟨h0, .inr ⟨R, ver, vs, by omega, by omega, q3, ?_, q5⟩⟩
      rw [e5 R (by simp; omega) fun R1 a1 a2 a3 a4 a5 a6 q => (hown R1 a1 a2 a3 a4 a5 a6 q) R ver 0 _ _ _ _ q3, g.get R q2]
      exact q4
  have ownA : v.lies fun R => a.lies fun R' => R ≠ R' := fun R a1 a2 a3 a4 a5 a6 q R' b1 b2 b3 b4 b5 b6 q' => by
    have x1 := hlt R a1 a2 a3 a4 a5 a6 q
    have x2 := (ha.lies R' b1 b2 b3 b4 b5 b6 q').1
    omega
  refine ⟨v', H', e1, ⟨by simpa using e2, by simp [h.len], fun i b m hi hm => ?_, fun i j b b' hij hi hj => ?_, fun i b hi => ?_⟩, e3', fun A hA => by rw [e4 A hA, g.get A (by omega)]⟩
  · by_cases hlt' : i < avs.length
    · rw [List.getElem?_append_left hlt'] at hi
      rw [List.getElem?_append_left (by rw [← h.len]; exact hlt')] at hm
      exact keep b m base (h.at_ i b m hi hm) (Nat.le_refl _) (h.own i b hi)
    · have : i = avs.length := by have := (List.getElem?_eq_some_iff.1 hi).1; simp at this; omega
      subst this
      rw [List.getElem?_append_right (Nat.le_refl _)] at hi
      rw [List.getElem?_append_right (by rw [h.len]; exact Nat.le_refl _)] at hm
      simp at hi
      simp [h.len] at hm
      subst hi; subst hm
      exact keep a l N ha hb ownA
  · have hj' := (List.getElem?_eq_some_iff.1 hj).1
    simp at hj'
    rw [List.getElem?_append_left (by omega)] at hi
    by_cases hlt' : j < avs.length
    · rw [List.getElem?_append_left hlt'] at hj
      exact h.apart i j b b' hij hi hj
    · have : j = avs.length := by omega
      subst this
      rw [List.getElem?_append_right (Nat.le_refl _)] at hj
      simp at hj
      subst hj
      intro R a1 a2 a3 a4 a5 a6 q R' b1 b2 b3 b4 b5 b6 q'
      have x1 := hlts i b hi R a1 a2 a3 a4 a5 a6 q
      have x2 := (ha.lies R' b1 b2 b3 b4 b5 b6 q').1
      omega
  · refine e6 _ ?_ ?_
    · by_cases hlt' : i < avs.length
      · rw [List.getElem?_append_left hlt'] at hi; exact h.own i b hi
      · have : i = avs.length := by have := (List.getElem?_eq_some_iff.1 hi).1; simp at this; omega
        subst this
        rw [List.getElem?_append_right (Nat.le_refl _)] at hi
        simp at hi; subst hi
        exact ownA
    · intro R hR R' b1 b2 b3 b4 b5 b6 q
      simp at hR
      have : R' < H.next := by
        by_cases hlt' : i < avs.length
        · rw [List.getElem?_append_left hlt'] at hi
          have := hlts i b hi R' b1 b2 b3 b4 b5 b6 q
          omega
        · have : i = avs.length := by have := (List.getElem?_eq_some_iff.1 hi).1; simp at this; omega
          subst this
          rw [List.getElem?_append_right (Nat.le_refl _)] at hi
          simp at hi; subst hi
          exact (ha.lies R' b1 b2 b3 b4 b5 b6 q).2
      omega

theorem it39d (or : Oracle) (n : Nat) (b : Nat) (hb64 : b ≤ 64) (H : AHeap) (vt : AVal) (avt : List AVal) (txs : List (List OpD)) (ht : TxsAt H vt avt txs) (i : Nat) (va : AVal) (t : List OpD) (hva : avt[i]? = some va) (hti : txs[i]? = some t) (hn : t.length < n) (hbad : ∀ o ∈ t, ¬ o.bad b)
    (m : Map) (hm : m.length = 64) (hmv : ∀ v ∈ m, IsVal v) (A11 : Nat) (hA : A11 < H.next) (cm : Cells H A11 m.flatten) (hlv : vt.lies (· < A11)) (hla : va.lies (· < A11))
    (v4 : AVal) (avs : List AVal) (vs : List (List (List AVal))) (hd : ToldAt H (A11 + 1) v4 avs vs) (hvs : vs.length ≤ i) (tm : List AVal) (len : tm.length = 90) (t0 : tm[0]? = some (vi b)) (t4 : tm[4]? = some (v4)) (t11 : tm[11]? = some (vp A11)) (t53 : tm[53]? = some (vt)) (t54 : tm[54]? = some (vi txs.length)) (t55 : tm[55]? = some (vi i)) :
    ∃ H' v4' avs' tm', aCode or true n (fstC (fstC (sndC (fstC (sndC (sndC (sndC (sndC (a39.code))))))))) ⟨tm, H, []⟩ = some (.normal, ⟨tm', H', []⟩) ∧ tm'.length = 90 ∧ tm'[0]? = some (vi b) ∧ tm'[4]? = some (v4') ∧ tm'[11]? = some (vp A11) ∧ tm'[53]? = some (vt) ∧ tm'[54]? = some (vi txs.length) ∧ tm'[55]? = some (vi ((i : Int) + 1)) ∧ Cells H' A11 (opsM m t).flatten ∧ ToldAt H' (A11 + 1) v4' avs' (vs ++ [toldM m t]) ∧ H.next ≤ H'.next ∧ (∀ A, A < A11 → H'.get A = H.get A) := by
  have hi := (List.getElem?_eq_some_iff.1 hti).1
  have hi' : (i : Int) < txs.length := by omega
  have hfew := ht.few
  have w : wrapF .i64 ((i : Int) + 1) = ((i : Int) + 1) := wrapI (by omega) (by omega)
  obtain ⟨ra, hlies⟩ := ht.at_ i va t hva hti
  have la := ra.lenS
  rw [List.length_map] at la
  have hsm := ht.small t (List.mem_of_getElem? hti)
  have hok := ht.ok t (List.mem_of_getElem? hti)
  have hlen := ht.len
  have hrd := ht.rd
  have hi2 : i < avt.length := by omega
  have key : ∃ R ver off kc ex cells, vt = .slice R ver off avt.length kc ex 1 ∧ H.rowAt R ver = some cells ∧ off + i + 1 ≤ cells.length ∧ cells[off + i]? = some va := by
    obtain ⟨R, ver, off, kc, ex, cells, e1, a2, a3, a4⟩ := hrd.at (i := i) (e := [va]) (by simp [hva])
    rw [List.length_map] at e1
    refine ⟨R, ver, off, kc, ex, cells, e1, a2, by omega, ?_⟩
    have := part_at a4 (j := 0) (by omega)
    simpa using this
  obtain ⟨R, ver, off, kc, ex, cells, hvt1, a2, a3, a4⟩ := key
  obtain ⟨tm1, e1, l1, f1_0, f1_4, f1_11, f1_53, f1_54, f1_55, f1_56⟩ : ∃ tm1 : List AVal, aCode or true n (fstC (fstC (fstC (sndC (fstC (sndC (sndC (sndC (sndC (a39.code)))))))))) ⟨tm, H, []⟩ = some (.normal, ⟨tm1, H, []⟩) ∧ tm1.length = 90 ∧ tm1[0]? = some (vi b) ∧ tm1[4]? = some (v4) ∧ tm1[11]? = some (vp A11) ∧ tm1[53]? = some (vt) ∧ tm1[54]? = some (vi txs.length) ∧ tm1[55]? = some (vi i) ∧ tm1[56]? = some (abool true) := by
    refine ⟨?e1w, ?e1a, ?e1b0, ?e1b1, ?e1b2, ?e1b3, ?e1b4, ?e1b5, ?e1b6, ?e1b7⟩
    case e1a =>
      apply regN
      iterate 1 (apply stepN; · simp [-getElem?_pos, List.getElem?_set, len, t54, t55, hi']; rfl)
      exact nilN (or := or)
    all_goals simp [-getElem?_pos, List.getElem?_set, len, t0, t4, t11, t53, t54, t55]
  obtain ⟨tm2, e2, l2, f2_0, f2_4, f2_11, f2_13, f2_53, f2_54, f2_55, f2_56⟩ : ∃ tm2 : List AVal, aCode or true n (fstC (fstC (fstC (sndC (sndC (fstC (fstC (sndC (fstC (sndC (sndC (sndC (sndC (a39.code)))))))))))))) ⟨tm1, H, []⟩ = some (.normal, ⟨tm2, H, []⟩) ∧ tm2.length = 90 ∧ tm2[0]? = some (vi b) ∧ tm2[4]? = some (v4) ∧ tm2[11]? = some (vp A11) ∧ tm2[13]? = some (va) ∧ tm2[53]? = some (vt) ∧ tm2[54]? = some (vi txs.length) ∧ tm2[55]? = some (vi i) ∧ tm2[56]? = some (abool true) := by
    refine ⟨?e2w, ?e2a, ?e2b0, ?e2b1, ?e2b2, ?e2b3, ?e2b4, ?e2b5, ?e2b6, ?e2b7, ?e2b8⟩
    case e2a =>
      apply regN
      iterate 3 (apply stepN; · simp [-getElem?_pos, List.getElem?_set, l1, f1_53, f1_55, hvt1, hi2, a2, a3, a4]; rfl)
      exact nilN (or := or)
    all_goals simp [-getElem?_pos, List.getElem?_set, l1, f1_0, f1_4, f1_11, f1_53, f1_54, f1_55, f1_56]
  obtain ⟨tm3, e3, l3, f3_0, f3_4, f3_11, f3_13, f3_14, f3_53, f3_54, f3_55, f3_56⟩ : ∃ tm3 : List AVal, aCode or true n (fstC (sndC (fstC (fstC (sndC (sndC (fstC (fstC (sndC (fstC (sndC (sndC (sndC (sndC (a39.code))))))))))))))) ⟨tm2, H, []⟩ = some (.normal, ⟨tm3, H, []⟩) ∧ tm3.length = 90 ∧ tm3[0]? = some (vi b) ∧ tm3[4]? = some (v4) ∧ tm3[11]? = some (vp A11) ∧ tm3[13]? = some (va) ∧ tm3[14]? = some (anil) ∧ tm3[53]? = some (vt) ∧ tm3[54]? = some (vi txs.length) ∧ tm3[55]? = some (vi i) ∧ tm3[56]? = some (abool true) := by
    refine ⟨?e3w, ?e3a, ?e3b0, ?e3b1, ?e3b2, ?e3b3, ?e3b4, ?e3b5, ?e3b6, ?e3b7, ?e3b8, ?e3b9⟩
    case e3a =>
      apply regN
      iterate 1 (apply stepN; · simp [-getElem?_pos, List.getElem?_set, l2]; rfl)
      exact nilN (or := or)
    all_goals simp [-getElem?_pos, List.getElem?_set, l2, f2_0, f2_4, f2_11, f2_13, f2_53, f2_54, f2_55, f2_56]
  obtain ⟨tm4, e4, l4, f4_0, f4_4, f4_11, f4_13, f4_14, f4_53, f4_54, f4_55, f4_56, f4_59, f4_60, f4_61⟩ : ∃ tm4 : List AVal, aCode or true n (fstC (fstC (sndC (sndC (fstC (fstC (sndC (sndC (fstC (fstC (sndC (fstC (sndC (sndC (sndC (sndC (a39.code))))))))))))))))) ⟨tm3, H, []⟩ = some (.normal, ⟨tm4, H, []⟩) ∧ tm4.length = 90 ∧ tm4[0]? = some (vi b) ∧ tm4[4]? = some (v4) ∧ tm4[11]? = some (vp A11) ∧ tm4[13]? = some (va) ∧ tm4[14]? = some (anil) ∧ tm4[53]? = some (vt) ∧ tm4[54]? = some (vi txs.length) ∧ tm4[55]? = some (vi i) ∧ tm4[56]? = some (abool true) ∧ tm4[59]? = some (va) ∧ tm4[60]? = some (vi t.length) ∧ tm4[61]? = some (vi 0) := by
    refine ⟨?e4w, ?e4a, ?e4b0, ?e4b1, ?e4b2, ?e4b3, ?e4b4, ?e4b5, ?e4b6, ?e4b7, ?e4b8, ?e4b9, ?e4b10, ?e4b11, ?e4b12⟩
    case e4a =>
      apply regN
      iterate 3 (apply stepN; · simp [-getElem?_pos, List.getElem?_set, l3, f3_13, la]; rfl)
      exact nilN (or := or)
    all_goals simp [-getElem?_pos, List.getElem?_set, l3, f3_0, f3_4, f3_11, f3_13, f3_14, f3_53, f3_54, f3_55, f3_56]
  obtain ⟨H2, v14, tm5, e5, ⟨l5, q0, q4, q11, q14, q53, q54, q55⟩, cm2, hs2, hn2, hk2⟩ := loop39r or n b hb64 va t hsm hok hbad m hm hmv A11 H.next hA hla v4 vt txs.length i t.length 0 n H anil tm4 (by omega) hn (Nat.le_refl _) ra (by simpa [opsM] using cm) (by simpa [toldM] using SliceE.nil H H.next 32) l4 f4_0 f4_4 f4_11 f4_14 f4_53 f4_54 f4_55 f4_59 f4_60 f4_61
  have hd2 : ToldAt H2 (A11 + 1) v4 avs vs := hd.move (Nat.le_refl _) hn2 fun A a1 a2 => hk2 A a2 (by omega)
  have hlt4 : v4.lies (· < H.next) := fun R a1 a2 a3 a4 a5 a6 q => (hd.rd.lies R a1 a2 a3 a4 a5 a6 q).2
  have hltA : ∀ (j : Nat) a, avs[j]? = some a → a.lies (· < H.next) := fun j a ha R a1 a2 a3 a4 a5 a6 q => by
    have hj := (List.getElem?_eq_some_iff.1 ha).1
    have hj2 : j < vs.length := by rw [← hd.len]; exact hj
    have hx : vs[j]? = some vs[j] := List.getElem?_eq_getElem hj2
    exact ((hd.at_ j a _ ha hx).lies R a1 a2 a3 a4 a5 a6 q).2
  obtain ⟨v4', H3, happ, hd3, hn3, hk3⟩ := hd2.add (X := H2.next) (by omega) hlt4 hltA hs2 hn2 rfl (by rw [hd.len]; omega)
  have o14 := hs2.rd.one
  have c14 := hs2.rd.cells1
  obtain ⟨tm6, e6, l6, f6_0, f6_4, f6_11, f6_14, f6_53, f6_54, f6_55⟩ : ∃ tm6 : List AVal, aCode or true n (sndC (sndC (sndC (fstC (fstC (sndC (sndC (fstC (fstC (sndC (fstC (sndC (sndC (sndC (sndC (a39.code)))))))))))))))) ⟨tm5, H2, []⟩ = some (.normal, ⟨tm6, H3, []⟩) ∧ tm6.length = 90 ∧ tm6[0]? = some (vi b) ∧ tm6[4]? = some (v4') ∧ tm6[11]? = some (vp A11) ∧ tm6[14]? = some (v14) ∧ tm6[53]? = some (vt) ∧ tm6[54]? = some (vi txs.length) ∧ tm6[55]? = some (vi i) := by
    refine ⟨?e6w, ?e6a, ?e6b0, ?e6b1, ?e6b2, ?e6b3, ?e6b4, ?e6b5, ?e6b6, ?e6b7⟩
    case e6a =>
      apply regN
      iterate 5 (apply stepN; · simp [-getElem?_pos, List.getElem?_set, l5, q4, q14, c14, repl, aFill, spl, happ]; rfl)
      exact nilN (or := or)
    all_goals simp [-getElem?_pos, List.getElem?_set, l5, q0, q4, q11, q14, q53, q54, q55]
  obtain ⟨tm7, e7, l7, f7_0, f7_4, f7_11, f7_14, f7_53, f7_54, f7_55⟩ : ∃ tm7 : List AVal, aCode or true n (sndC (sndC (sndC (fstC (fstC (sndC (fstC (sndC (sndC (sndC (sndC (a39.code)))))))))))) ⟨tm6, H3, []⟩ = some (.normal, ⟨tm7, H3, []⟩) ∧ tm7.length = 90 ∧ tm7[0]? = some (vi b) ∧ tm7[4]? = some (v4') ∧ tm7[11]? = some (vp A11) ∧ tm7[14]? = some (v14) ∧ tm7[53]? = some (vt) ∧ tm7[54]? = some (vi txs.length) ∧ tm7[55]? = some (vi ((i : Int) + 1)) := by
    refine ⟨?e7w, ?e7a, ?e7b0, ?e7b1, ?e7b2, ?e7b3, ?e7b4, ?e7b5, ?e7b6, ?e7b7⟩
    case e7a =>
      apply regN
      iterate 2 (apply stepN; · simp [-getElem?_pos, List.getElem?_set, l6, f6_55, w]; rfl)
      exact nilN (or := or)
    all_goals simp [-getElem?_pos, List.getElem?_set, l6, f6_0, f6_4, f6_11, f6_14, f6_53, f6_54, f6_55]
  exact ⟨H3, v4', avs ++ [v14], tm7, (seqN e1 (seqN (condT f1_56 skipN) (seqN (blkN (seqN e2 (seqN e3 (seqN (seqN e4 (blkE (loopC e5))) e6)))) e7))), l7, f7_0, f7_4, f7_11, f7_53, f7_54, f7_55, cm2.mono (hk3 A11 (by omega)), hd3, by omega, fun A hA1 => by rw [hk3 A (by omega), hk2 A (by omega) (by omega)]⟩

theorem end39d (or : Oracle) (n : Nat) (b : Nat) (H : AHeap) (vt v4 : AVal) (A11 : Nat) (txs : List (List OpD)) (tm : List AVal) (len : tm.length = 90) (t0 : tm[0]? = some (vi b)) (t4 : tm[4]? = some (v4)) (t11 : tm[11]? = some (vp A11)) (t53 : tm[53]? = some (vt)) (t54 : tm[54]? = some (vi txs.length)) (t55 : tm[55]? = some (vi txs.length)) :
    ∃ tm', aCode or true n (fstC (fstC (sndC (fstC (sndC (sndC (sndC (sndC (a39.code))))))))) ⟨tm, H, []⟩ = some (.exit 4, ⟨tm', H, []⟩) ∧ tm'.length = 90 ∧ tm'[0]? = some (vi b) ∧ tm'[4]? = some (v4) ∧ tm'[11]? = some (vp A11) := by
  obtain ⟨tm1, e1, l1, f1_0, f1_4, f1_11, f1_53, f1_54, f1_55, f1_56⟩ : ∃ tm1 : List AVal, aCode or true n (fstC (fstC (fstC (sndC (fstC (sndC (sndC (sndC (sndC (a39.code)))))))))) ⟨tm, H, []⟩ = some (.normal, ⟨tm1, H, []⟩) ∧ tm1.length = 90 ∧ tm1[0]? = some (vi b) ∧ tm1[4]? = some (v4) ∧ tm1[11]? = some (vp A11) ∧ tm1[53]? = some (vt) ∧ tm1[54]? = some (vi txs.length) ∧ tm1[55]? = some (vi txs.length) ∧ tm1[56]? = some (abool false) := by
    refine ⟨?e1w, ?e1a, ?e1b0, ?e1b1, ?e1b2, ?e1b3, ?e1b4, ?e1b5, ?e1b6, ?e1b7⟩
    case e1a =>
      apply regN
      iterate 1 (apply stepN; · simp [-getElem?_pos, List.getElem?_set, len, t54, t55]; rfl)
      exact nilN (or := or)
    all_goals simp [-getElem?_pos, List.getElem?_set, len, t0, t4, t11, t53, t54, t55]
  exact ⟨tm1, (seqN e1 (seqX (condF f1_56 exitN) (by simp))), l1, f1_0, f1_4, f1_11⟩

theorem loop39d (or : Oracle) (n : Nat) (b : Nat) (hb64 : b ≤ 64) (vt : AVal) (avt : List AVal) (txs : List (List OpD)) (hn : ∀ t ∈ txs, t.length < n) (hbad : ∀ t ∈ txs, ∀ o ∈ t, ¬ o.bad b) (m0 : Map) (hm0 : m0.length = 64) (hmv0 : ∀ v ∈ m0, IsVal v) (A11 : Nat)
    (hlv : vt.lies (· < A11)) (hla : ∀ (i : Nat) va, avt[i]? = some va → va.lies (· < A11)) :
    ∀ (j i q : Nat) (H : AHeap) (v4 : AVal) (avs : List AVal) (tm : List AVal), i + j = txs.length → j < q → TxsAt H vt avt txs → A11 < H.next → Cells H A11 (txsM m0 (txs.take i)).flatten → ToldAt H (A11 + 1) v4 avs (toldT m0 (txs.take i)) → tm.length = 90 → tm[0]? = some (vi b) → tm[4]? = some (v4) → tm[11]? = some (vp A11) → tm[53]? = some (vt) → tm[54]? = some (vi txs.length) → tm[55]? = some (vi i) →
      ∃ H' v4' avs' tm', aLoop (aCode or true n (fstC (fstC (sndC (fstC (sndC (sndC (sndC (sndC (a39.code)))))))))) q ⟨tm, H, []⟩ = some (.exit 4, ⟨tm', H', []⟩) ∧ (tm'.length = 90 ∧ tm'[0]? = some (vi b) ∧ tm'[4]? = some v4' ∧ tm'[11]? = some (vp A11)) ∧
        Cells H' A11 (txsM m0 txs).flatten ∧ ToldAt H' (A11 + 1) v4' avs' (toldT m0 txs) ∧ H.next ≤ H'.next ∧ (∀ A, A < A11 → H'.get A = H.get A)
  | 0, i, q + 1, H, v4, avs, tm, hj, _, ht, hA, cm, hd, len, t0, t4, t11, t53, t54, t55 => by
    have : i = txs.length := by omega
    subst this
    obtain ⟨tm', h1, h2⟩ := end39d or n b H vt v4 A11 txs tm len t0 t4 t11 t53 t54 t55
    rw [List.take_length] at cm hd
    exact ⟨H, v4, avs, tm', by simp only [aLoop, h1], h2, cm, hd, Nat.le_refl _, fun _ _ => rfl⟩
  | j + 1, i, q + 1, H, v4, avs, tm, hj, hq, ht, hA, cm, hd, len, t0, t4, t11, t53, t54, t55 => by
    have hx : txs[i]? = some txs[i] := List.getElem?_eq_getElem (by omega)
    have hlen := ht.len
    have hy : avt[i]? = some avt[i] := List.getElem?_eq_getElem (by omega)
    have hmem : txs[i] ∈ txs := List.getElem_mem _
    have hmk : (txsM m0 (txs.take i)).length = 64 := by
      have : ∀ (l : List (List OpD)) (m : Map), (txsM m l).length = m.length := fun l => by
        induction l with
        | nil => intro m; rfl
        | cons t r ih => intro m; show (txsM (opsM m t) r).length = _; rw [ih, opsM_len]
      rw [this, hm0]
    have hmvk := txsM_vals (txs.take i) hmv0 fun t ht' => ht.ok t (List.mem_of_mem_take ht')
    have e1 : txsM m0 (txs.take (i + 1)) = opsM (txsM m0 (txs.take i)) txs[i] := by rw [take_succ_at hx, txsM_append]; rfl
    have e2 : toldT m0 (txs.take (i + 1)) = toldT m0 (txs.take i) ++ [toldM (txsM m0 (txs.take i)) txs[i]] := by rw [take_succ_at hx, toldT_append]; rfl
    have hvl : (toldT m0 (txs.take i)).length ≤ i := by rw [toldT_len, List.length_take]; omega
    obtain ⟨H', v4', avs', tm', h1, l, f0, f4, f11, f53, f54, f55, c1, d1, n1, g1⟩ := it39d or n b hb64 H vt avt txs ht i _ _ hy hx (hn _ hmem) (hbad _ hmem) _ hmk hmvk A11 hA cm hlv (hla i _ hy) v4 avs _ hd hvl tm len t0 t4 t11 t53 t54 t55
    rw [← e1] at c1
    rw [← e2] at d1
    have ht' : TxsAt H' vt avt txs :=
      { rd := ht.rd.move fun R ver off len kcap ex e => by unfold AHeap.rowAt; rw [g1 R (hlv R ver off len kcap ex 1 e)]
        lies := lies_lt ht.lies n1
        len := ht.len
        at_ := fun i a t ha hti => ⟨(ht.at_ i a t ha hti).1.move fun R ver off len kcap ex e => by unfold AHeap.rowAt; rw [g1 R (hla i a ha R ver off len kcap ex 35 e)], lies_lt (ht.at_ i a t ha hti).2 n1⟩
        ok := ht.ok
        small := ht.small
        few := ht.few }
    obtain ⟨H2, v2, avs2, tm2, r1, r2, r3, r4, r5, r6⟩ := loop39d or n b hb64 vt avt txs hn hbad m0 hm0 hmv0 A11 hlv hla j (i + 1) q H' v4' avs' tm' (by omega) (by omega) ht' (by omega) c1 d1 l f0 f4 f11 f53 f54 f55
    exact ⟨H2, v2, avs2, tm2, by simp only [aLoop, h1, r1], r2, r3, r4, by omega, fun A a1 => by rw [r6 A a1, g1 A a1]⟩

end Go.Proofs.Ythbjfkkjmecaaaa
