/- Walks: mayBe, Clone, Same. -/
import Derived.Test.YthbjfkkjmecaaaaAloneA
import Derived.Test.YthbjfkkjmecaaaaAloneT
namespace Go.Proofs.Ythbjfkkjmecaaaa
open Go Go.Vm

set_option linter.unusedVariables false
set_option linter.unusedSimpArgs false
attribute [local simp] aStep awanted aOp ev aRess aRes1 tup aBin aUn aArith ASt.put ile_eq ilt_eq ieq_eq aPart List.getElem?_cons_zero

noncomputable abbrev kn : Known := yes 12
noncomputable abbrev env : Nat → Option AFunc := envOf tabT

theorem beqs_v8 : ∀ {v : List AVal}, (∀ c ∈ v, ∃ n, c = v8 n) → AVal.beqs v v = true
  | [], _ => rfl
  | c :: r, h => by
    obtain ⟨n, rfl⟩ := h c (List.mem_cons_self ..)
    simp [AVal.beqs, AVal.beq, valBeq, beqs_v8 fun x hx => h x (List.mem_cons_of_mem _ hx)]

theorem leaveN (H : AHeap) : aLeave [] H = some H := rfl

theorem c61 (n : Nat) (b : Int) (H : AHeap) : callM kn env (n + 1) (.func (.func 61) []) [vi b] H = some (abool (decide (1 ≤ b ∧ b ≤ 64)), H) := by
  rw [opnM (af := a61) rfl n _ _ _ rfl]
  by_cases h1 : 1 ≤ b <;> simp [a61, h1, endF, aCode, aSteps, initTm, leaveN]

theorem c66 (n : Nat) (H : AHeap) (v : AVal) (es : List (List AVal)) (h : RdE H 32 v es) (hl : v.lies (· < H.next)) (h0 : es ≠ []) (hone : ∀ e ∈ es, e.all AVal.one = true) (hlen : es.length * 32 ≤ 140737488355328) :
    callM kn env (n + 1) (.func (.func 66) []) [v] H = some (.slice (H.next + 1) 0 0 es.length es.length false 32, (H.push (.row [some (0, [])])).push (.row [some (0, es.flatten)])) ∧
      SliceE ((H.push (.row [some (0, [])])).push (.row [some (0, es.flatten)])) (H.next + 1) 32 (.slice (H.next + 1) 0 0 es.length es.length false 32) es := by
  have g : Grow H (H.push (.row [some (0, [])])) := Grow.push _ _
  have hX : (H.push (.row [some (0, [])])).rowAt H.next 0 = some [] := by unfold AHeap.rowAt; rw [AHeap.get_push_same]; rfl
  obtain ⟨h1, h2⟩ := (h.grow g hl).appendNew (bytes := 32) h0 (by omega) (by omega) hone hlen hX
  refine ⟨?_, h2⟩
  rw [opnM (af := a66) rfl n _ _ _ rfl]
  have hc := h.cells1
  rcases h with ⟨_, ⟨rfl, rfl⟩ | ⟨R, ver, off, kcap, ex, cells, rfl, _⟩⟩
  · exact absurd rfl h0
  · simp [a66, endF, aCode, aSteps, initTm, aLeave, aEqP, aFill, repl]
    simp at h1
    simp [h1]
    rfl

theorem it22 (or : Oracle) (n : Nat) (H : AHeap) (va vb : AVal) (es : List (List AVal)) (ra : RdE H 32 va es) (rb : RdE H 32 vb es) (hv : ∀ e ∈ es, IsVal e) (hl : es.length ≤ 140737488355328) (k : Nat) (e : List AVal) (he : es[k]? = some e) (tm : List AVal) (len : tm.length = 26) (t0 : tm[0]? = some (va)) (t1 : tm[1]? = some (vb)) (t5 : tm[5]? = some (vi k)) :
    ∃ tm', aCode or true n (fstC (fstC (sndC (fstC (sndC (sndC (a22.code))))))) ⟨tm, H, []⟩ = some (.normal, ⟨tm', H, []⟩) ∧ tm'.length = 26 ∧ tm'[0]? = some (va) ∧ tm'[1]? = some (vb) ∧ tm'[5]? = some (vi ((k : Int) + 1)) := by
  have hk := (List.getElem?_eq_some_iff.1 he).1
  have hk' : (k : Int) < es.length := by omega
  have la := ra.lenS
  have w : wrapF .i64 ((k : Int) + 1) = ((k : Int) + 1) := wrapI (by omega) (by omega)
  have hval := hv e (List.mem_of_getElem? he)
  have q1 := hval.refl
  have q2 := beqs_v8 hval.bytes
  obtain ⟨R, ver, off, kc, ex, cells, hva1, a2, a3, a4⟩ := ra.at he
  obtain ⟨R', ver', off', kc', ex', cells', hvb1, b2, b3, b4⟩ := rb.at he
  obtain ⟨tm1, e1, l1, f1_0, f1_1, f1_5, f1_14⟩ : ∃ tm1 : List AVal, aCode or true n (fstC (fstC (fstC (fstC (sndC (fstC (sndC (sndC (a22.code))))))))) ⟨tm, H, []⟩ = some (.normal, ⟨tm1, H, []⟩) ∧ tm1.length = 26 ∧ tm1[0]? = some (va) ∧ tm1[1]? = some (vb) ∧ tm1[5]? = some (vi k) ∧ tm1[14]? = some (abool true) := by
    refine ⟨?e1w, ?e1a, ?e1b0, ?e1b1, ?e1b2, ?e1b3, ?e1b4⟩
    case e1a =>
      apply regN
      iterate 4 (apply stepN; · simp [-getElem?_pos, List.getElem?_set, len, t0, t5, la, hk']; rfl)
      exact nilN (or := or)
    all_goals simp [-getElem?_pos, List.getElem?_set, len, t0, t1, t5]
  obtain ⟨tm2, e2, l2, f2_0, f2_1, f2_5, f2_14, f2_25⟩ : ∃ tm2 : List AVal, aCode or true n (fstC (fstC (fstC (sndC (fstC (fstC (sndC (fstC (sndC (sndC (a22.code))))))))))) ⟨tm1, H, []⟩ = some (.normal, ⟨tm2, H, []⟩) ∧ tm2.length = 26 ∧ tm2[0]? = some (va) ∧ tm2[1]? = some (vb) ∧ tm2[5]? = some (vi k) ∧ tm2[14]? = some (abool true) ∧ tm2[25]? = some (abool false) := by
    refine ⟨?e2w, ?e2a, ?e2b0, ?e2b1, ?e2b2, ?e2b3, ?e2b4, ?e2b5⟩
    case e2a =>
      apply drawN
      ·
        apply drawMob rfl; · simp [-getElem?_pos, List.getElem?_set, fltVal, l1, f1_0, f1_1, f1_5, hva1, hvb1, hk, a2, a3, a4, b2, b3, b4, q1, q2]; rfl
        apply drawMob rfl; · simp [-getElem?_pos, List.getElem?_set, fltVal, l1, f1_0, f1_1, f1_5, hva1, hvb1, hk, a2, a3, a4, b2, b3, b4, q1, q2]; rfl
        apply drawMob rfl; · simp [-getElem?_pos, List.getElem?_set, fltVal, l1, f1_0, f1_1, f1_5, hva1, hvb1, hk, a2, a3, a4, b2, b3, b4, q1, q2]; rfl
        apply drawMob rfl; · simp [-getElem?_pos, List.getElem?_set, fltVal, l1, f1_0, f1_1, f1_5, hva1, hvb1, hk, a2, a3, a4, b2, b3, b4, q1, q2]; rfl
        apply drawMob rfl; · simp [-getElem?_pos, List.getElem?_set, fltVal, l1, f1_0, f1_1, f1_5, hva1, hvb1, hk, a2, a3, a4, b2, b3, b4, q1, q2]; rfl
        apply drawMob rfl; · simp [-getElem?_pos, List.getElem?_set, fltVal, l1, f1_0, f1_1, f1_5, hva1, hvb1, hk, a2, a3, a4, b2, b3, b4, q1, q2]; rfl
        apply drawMob rfl; · simp [-getElem?_pos, List.getElem?_set, fltVal, l1, f1_0, f1_1, f1_5, hva1, hvb1, hk, a2, a3, a4, b2, b3, b4, q1, q2]; rfl
        apply drawMob rfl; · simp [-getElem?_pos, List.getElem?_set, fltVal, l1, f1_0, f1_1, f1_5, hva1, hvb1, hk, a2, a3, a4, b2, b3, b4, q1, q2]; rfl
        apply drawMob rfl; · simp [-getElem?_pos, List.getElem?_set, fltVal, l1, f1_0, f1_1, f1_5, hva1, hvb1, hk, a2, a3, a4, b2, b3, b4, q1, q2]; rfl
        exact drawNil
      · simp [-getElem?_pos, List.getElem?_set, allAsked, yldB, AVal.beq, AVal.beqs, valBeq, hasN, AOp.reads, l1, f1_0, f1_1, f1_5, hva1, hvb1, hk, a2, a3, a4, b2, b3, b4, q1, q2]
    all_goals simp [-getElem?_pos, List.getElem?_set, l1, f1_0, f1_1, f1_5, f1_14]
  obtain ⟨tm3, e3, l3, f3_0, f3_1, f3_5, f3_14, f3_25⟩ : ∃ tm3 : List AVal, aCode or true n (sndC (sndC (fstC (fstC (sndC (fstC (sndC (sndC (a22.code))))))))) ⟨tm2, H, []⟩ = some (.normal, ⟨tm3, H, []⟩) ∧ tm3.length = 26 ∧ tm3[0]? = some (va) ∧ tm3[1]? = some (vb) ∧ tm3[5]? = some (vi ((k : Int) + 1)) ∧ tm3[14]? = some (abool true) ∧ tm3[25]? = some (abool false) := by
    refine ⟨?e3w, ?e3a, ?e3b0, ?e3b1, ?e3b2, ?e3b3, ?e3b4, ?e3b5⟩
    case e3a =>
      apply regN
      iterate 3 (apply stepN; · simp [-getElem?_pos, List.getElem?_set, l2, f2_5, w]; rfl)
      exact nilN (or := or)
    all_goals simp [-getElem?_pos, List.getElem?_set, l2, f2_0, f2_1, f2_5, f2_14, f2_25]
  exact ⟨tm3, (seqN (seqN e1 (condT f1_14 skipN)) (seqN (blkN (seqN e2 (condF f2_25 skipN))) e3)), l3, f3_0, f3_1, f3_5⟩

theorem end22 (or : Oracle) (n : Nat) (H : AHeap) (va vb : AVal) (es : List (List AVal)) (ra : RdE H 32 va es) (tm : List AVal) (len : tm.length = 26) (t0 : tm[0]? = some (va)) (t1 : tm[1]? = some (vb)) (t5 : tm[5]? = some (vi es.length)) :
    ∃ tm', aCode or true n (fstC (fstC (sndC (fstC (sndC (sndC (a22.code))))))) ⟨tm, H, []⟩ = some (.exit 0, ⟨tm', H, []⟩) ∧ tm'.length = 26 := by
  have la := ra.lenS
  obtain ⟨tm1, e1, l1, f1_0, f1_1, f1_5, f1_14⟩ : ∃ tm1 : List AVal, aCode or true n (fstC (fstC (fstC (fstC (sndC (fstC (sndC (sndC (a22.code))))))))) ⟨tm, H, []⟩ = some (.normal, ⟨tm1, H, []⟩) ∧ tm1.length = 26 ∧ tm1[0]? = some (va) ∧ tm1[1]? = some (vb) ∧ tm1[5]? = some (vi es.length) ∧ tm1[14]? = some (abool false) := by
    refine ⟨?e1w, ?e1a, ?e1b0, ?e1b1, ?e1b2, ?e1b3, ?e1b4⟩
    case e1a =>
      apply regN
      iterate 4 (apply stepN; · simp [-getElem?_pos, List.getElem?_set, len, t0, t5, la]; rfl)
      exact nilN (or := or)
    all_goals simp [-getElem?_pos, List.getElem?_set, len, t0, t1, t5]
  exact ⟨tm1, (seqX (seqN e1 (condF f1_14 exitN)) (by simp)), l1⟩

theorem loop22 (or : Oracle) (n : Nat) (H : AHeap) (va vb : AVal) (es : List (List AVal)) (ra : RdE H 32 va es) (rb : RdE H 32 vb es) (hv : ∀ e ∈ es, IsVal e) (hl : es.length ≤ 140737488355328) :
    ∀ (j k m : Nat) (tm : List AVal), k + j = es.length → j < m → tm.length = 26 → tm[0]? = some va → tm[1]? = some vb → tm[5]? = some (vi k) →
      ∃ tm', aLoop (aCode or true n (fstC (fstC (sndC (fstC (sndC (sndC (a22.code)))))))) m ⟨tm, H, []⟩ = some (.exit 0, ⟨tm', H, []⟩) ∧ tm'.length = 26
  | 0, k, m + 1, tm, hj, _, len, t0, t1, t5 => by
    have : k = es.length := by omega
    subst this
    obtain ⟨tm', h1, h2⟩ := end22 or n H va vb es ra tm len t0 t1 t5
    exact ⟨tm', by simp only [aLoop, h1], h2⟩
  | j + 1, k, m + 1, tm, hj, hm, len, t0, t1, t5 => by
    have he : es[k]? = some es[k] := List.getElem?_eq_getElem (by omega)
    obtain ⟨tm', h1, l, f0, f1, f5⟩ := it22 or n H va vb es ra rb hv hl k _ he tm len t0 t1 t5
    obtain ⟨tm2, g1, g2⟩ := loop22 or n H va vb es ra rb hv hl j (k + 1) m tm' (by omega) (by omega) l f0 f1 f5
    exact ⟨tm2, by simp only [aLoop, h1, g1], g2⟩

/-- Same: two lists of the same values. -/
theorem c22 (n : Nat) (H : AHeap) (va vb : AVal) (es : List (List AVal)) (ra : RdE H 32 va es) (rb : RdE H 32 vb es) (hv : ∀ e ∈ es, IsVal e) (hl : es.length ≤ 140737488355328) (hn : es.length < n) :
    callM kn env (n + 1) (.func (.func 22) []) [va, vb] H = some (abool true, H) := by
  have la := ra.lenS
  have lb := rb.lenS
  rw [opnM (af := a22) rfl n _ _ _ rfl]
  have lp := loop22 (callM kn env n) n H va vb es ra rb hv hl es.length 0 n
  generalize callM kn env n = or at lp
  have len : (initTm a22 [va, vb]).length = 26 := rfl
  have t0 : (initTm a22 [va, vb])[0]? = some va := rfl
  have t1 : (initTm a22 [va, vb])[1]? = some vb := rfl
  show endF a22.res (aCode or true n a22.code ⟨initTm a22 [va, vb], H, []⟩) = _
  generalize initTm a22 [va, vb] = tm at len t0 t1
  obtain ⟨tm1, e1, l1, f1_0, f1_1, f1_4⟩ : ∃ tm1 : List AVal, aCode or true n (fstC (a22.code)) ⟨tm, H, []⟩ = some (.normal, ⟨tm1, H, []⟩) ∧ tm1.length = 26 ∧ tm1[0]? = some (va) ∧ tm1[1]? = some (vb) ∧ tm1[4]? = some (abool false) := by
    refine ⟨?e1w, ?e1a, ?e1b0, ?e1b1, ?e1b2, ?e1b3⟩
    case e1a =>
      apply regN
      iterate 1 (apply stepN; · simp [-getElem?_pos, List.getElem?_set, len]; rfl)
      exact nilN (or := or)
    all_goals simp [-getElem?_pos, List.getElem?_set, len, t0, t1]
  obtain ⟨tm2, e2, l2, f2_0, f2_1, f2_4, f2_10⟩ : ∃ tm2 : List AVal, aCode or true n (fstC (fstC (sndC (a22.code)))) ⟨tm1, H, []⟩ = some (.normal, ⟨tm2, H, []⟩) ∧ tm2.length = 26 ∧ tm2[0]? = some (va) ∧ tm2[1]? = some (vb) ∧ tm2[4]? = some (abool false) ∧ tm2[10]? = some (abool false) := by
    refine ⟨?e2w, ?e2a, ?e2b0, ?e2b1, ?e2b2, ?e2b3, ?e2b4⟩
    case e2a =>
      apply regN
      iterate 5 (apply stepN; · simp [-getElem?_pos, List.getElem?_set, l1, f1_0, f1_1, la, lb]; rfl)
      exact nilN (or := or)
    all_goals simp [-getElem?_pos, List.getElem?_set, l1, f1_0, f1_1, f1_4]
  obtain ⟨tm3, e3, l3, f3_0, f3_1, f3_4, f3_5, f3_10⟩ : ∃ tm3 : List AVal, aCode or true n (fstC (fstC (sndC (sndC (a22.code))))) ⟨tm2, H, []⟩ = some (.normal, ⟨tm3, H, []⟩) ∧ tm3.length = 26 ∧ tm3[0]? = some (va) ∧ tm3[1]? = some (vb) ∧ tm3[4]? = some (abool false) ∧ tm3[5]? = some (vi 0) ∧ tm3[10]? = some (abool false) := by
    refine ⟨?e3w, ?e3a, ?e3b0, ?e3b1, ?e3b2, ?e3b3, ?e3b4, ?e3b5⟩
    case e3a =>
      apply regN
      iterate 1 (apply stepN; · simp [-getElem?_pos, List.getElem?_set, l2]; rfl)
      exact nilN (or := or)
    all_goals simp [-getElem?_pos, List.getElem?_set, l2, f2_0, f2_1, f2_4, f2_10]
  obtain ⟨tm4, e4, l4⟩ := lp tm3 (by omega) hn l3 f3_0 f3_1 f3_5
  obtain ⟨tm5, e5, l5, f5_4⟩ : ∃ tm5 : List AVal, aCode or true n (fstC (sndC (sndC (sndC (a22.code))))) ⟨tm4, H, []⟩ = some (.normal, ⟨tm5, H, []⟩) ∧ tm5.length = 26 ∧ tm5[4]? = some (abool true) := by
    refine ⟨?e5w, ?e5a, ?e5b0, ?e5b1⟩
    case e5a =>
      apply regN
      iterate 1 (apply stepN; · simp [-getElem?_pos, List.getElem?_set, l4]; rfl)
      exact nilN (or := or)
    all_goals simp [-getElem?_pos, List.getElem?_set, l4]
  exact endN (es := (.ret, ⟨tm5, H, []⟩)) (seqN e1 (seqN (seqN e2 (condF f2_10 skipN)) (seqN (seqN e3 (blkE (loopC e4))) (seqN e5 retN)))) (by simp [-getElem?_pos, endF, leaveN, a22, f5_4])

end Go.Proofs.Ythbjfkkjmecaaaa
