/- Walks: SerialAlone, the copies with a mark behind them. -/
import Derived.Test.YthbjfkkjmecaaaaAloneM
namespace Go.Proofs.Ythbjfkkjmecaaaa
open Go Go.Vm

set_option linter.unusedVariables false
set_option linter.unusedSimpArgs false
attribute [local simp] aStep awanted aOp ev aRess aRes1 tup aBin aUn aArith ASt.put ile_eq ilt_eq ieq_eq aPart List.getElem?_cons_zero

abbrev op7 : List AVal := [vi 7777, anil, vi 0, v8 0, v8 0, v8 0, v8 0, v8 0, v8 0, v8 0, v8 0, v8 0, v8 0, v8 0, v8 0, v8 0, v8 0, v8 0, v8 0, v8 0, v8 0, v8 0, v8 0, v8 0, v8 0, v8 0, v8 0, v8 0, v8 0, v8 0, v8 0, v8 0, v8 0, v8 0, v8 0]

/-- A copy with a mark in the room behind it. -/
def InOne (H : AHeap) (base : Nat) (a : AVal) (t : List OpD) : Prop :=
  ∃ R ver vs, base ≤ R ∧ R < H.next ∧ a = .slice R ver 0 t.length (t.length + 1) false 35 ∧ H.get R = some (.row vs) ∧ vs[ver]? = some (some (0, (t.map OpD.cells ++ [op7]).flatten))

theorem cells_agg (cs : List AVal) : AVal.cells (.agg cs) = cs := rfl
theorem cells_int (k : IntKind) (m : Int) : AVal.cells (.raw (.int k m)) = [.raw (.int k m)] := rfl
theorem op7_len : op7.length = 35 := rfl
theorem op7_one : op7.all AVal.one = true := rfl

theorem InOne.move {H H' : AHeap} {base base' : Nat} {a : AVal} {t : List OpD} (h : InOne H base a t) (hb : base' ≤ base) (hn : H.next ≤ H'.next) (hg : ∀ A, base ≤ A → A < H.next → H'.get A = H.get A) : InOne H' base' a t := by
  obtain ⟨R, ver, vs, h1, h2, h3, h4, h5⟩ := h
  exact ⟨R, ver, vs, by omega, by omega, h3, by rw [hg R h1 h2]; exact h4, h5⟩

theorem InOne.lies {H : AHeap} {base : Nat} {a : AVal} {t : List OpD} (h : InOne H base a t) : a.lies fun R => base ≤ R ∧ R < H.next := by
  obtain ⟨R, ver, vs, h1, h2, rfl, h4, h5⟩ := h
  intro R' a1 a2 a3 a4 a5 a6 q
  cases q
  exact ⟨h1, h2⟩

theorem InOne.one {H : AHeap} {base : Nat} {a : AVal} {t : List OpD} (h : InOne H base a t) : a.one = true ∧ a.cells = [a] := by
  obtain ⟨R, ver, vs, h1, h2, rfl, h4, h5⟩ := h
  exact ⟨rfl, rfl⟩

theorem InOne.rd {H : AHeap} {base : Nat} {a : AVal} {t : List OpD} (h : InOne H base a t) (hok : ∀ o ∈ t, o.Ok) : RdE H 35 a (t.map OpD.cells) := by
  obtain ⟨R, ver, vs, h1, h2, rfl, h4, h5⟩ := h
  have h0 : ∀ e ∈ t.map OpD.cells, e.length = 35 := fun e he => by
    obtain ⟨o, ho, rfl⟩ := List.mem_map.1 he
    exact (hok o ho).len
  have hfl := flatten_len h0
  rw [List.length_map] at hfl
  refine ⟨h0, .inr ⟨R, ver, 0, t.length + 1, false, (t.map OpD.cells ++ [op7]).flatten, by rw [List.length_map], by unfold AHeap.rowAt; rw [h4]; simp only [h5], by rw [List.length_map]; omega, by rw [List.length_map, List.flatten_append, List.length_append, hfl]; omega, ?_⟩⟩
  rw [List.length_map, List.drop_zero, List.flatten_append, ← hfl, List.take_left']
  rfl

theorem copyOne (H : AHeap) (va : AVal) (t : List OpD) (ra : RdE H 35 va (t.map OpD.cells)) (hlies : va.lies (· < H.next)) (hok : ∀ o ∈ t, o.Ok) (hsm : (t.length + 1) * 72 ≤ 140737488355328) :
    ∃ x1 Hb x2 Hd x3, aAppend (H.push (.row [some (0, [])])) 35 72 (.slice H.next 0 0 0 0 true 35) va = some (x1, Hb) ∧ aAppend (Hb.push (.row [some (0, op7)])) 35 72 x1 (.slice Hb.next 0 0 1 1 true 35) = some (x2, Hd) ∧ aSliceS 35 x2 none (some (vi t.length)) none = some x3 ∧
      Grow H Hb ∧ Grow H Hd ∧ H.next + 1 ≤ Hb.next ∧ Hb.next + 1 ≤ Hd.next ∧ InOne Hd H.next x3 t := by
  have g0 : Grow H (H.push (.row [some (0, [])])) := Grow.push _ _
  have ra0 := ra.grow g0 hlies
  have hX : (H.push (.row [some (0, [])])).rowAt H.next 0 = some [] := by unfold AHeap.rowAt; rw [AHeap.get_push_same]; rfl
  have h35 : ∀ e ∈ t.map OpD.cells, e.length = 35 := fun e he => by
    obtain ⟨o, ho, rfl⟩ := List.mem_map.1 he
    exact (hok o ho).len
  have h35' : ∀ e ∈ t.map OpD.cells ++ [op7], e.length = 35 := fun e he => by
    rcases List.mem_append.1 he with h | h
    · exact h35 e h
    · simp only [List.mem_singleton] at h; rw [h]; exact op7_len
  -- the slice of a list with its mark
  have fin : ∀ (Hd : AHeap) (x2 : AVal), SliceE Hd H.next 35 x2 (t.map OpD.cells ++ [op7]) → ∃ x3, aSliceS 35 x2 none (some (vi t.length)) none = some x3 ∧ InOne Hd H.next x3 t := fun Hd x2 hs => by
    rcases hs with ⟨_, ⟨_, h⟩ | ⟨R, ver, vs, q1, q2, q3, q4, q5⟩⟩
    · simp at h
    · rw [List.length_append, List.length_map, List.length_singleton] at q3
      subst q3
      refine ⟨.slice R ver 0 t.length (t.length + 1) false 35, ?_, R, ver, vs, q1, q2, rfl, q4, q5⟩
      have e1 : (t.length : Int) ≤ (t.length : Int) + 1 := by omega
      simp [aSliceS, aBoundO, aBound, ile_eq, e1]
  by_cases ht : t = []
  · subst ht
    have e1 : aAppend (H.push (.row [some (0, [])])) 35 72 (.slice H.next 0 0 0 0 true 35) va = some (.slice H.next 0 0 0 0 true 35, H.push (.row [some (0, [])])) := by
      simp only [aAppend, ra0.len, ra0.aCells, Option.bind_some, List.map_nil, List.length_nil, if_true]
    have gc : Grow (H.push (.row [some (0, [])])) ((H.push (.row [some (0, [])])).push (.row [some (0, op7)])) := Grow.push _ _
    have hX2 : ((H.push (.row [some (0, [])])).push (.row [some (0, op7)])).rowAt H.next 0 = some [] := by rw [gc.rowAt (by simp)]; exact hX
    have ry : RdE ((H.push (.row [some (0, [])])).push (.row [some (0, op7)])) 35 (.slice (H.push (.row [some (0, [])])).next 0 0 1 1 true 35) [op7] :=
      ⟨fun e he => by simp only [List.mem_singleton] at he; rw [he]; exact op7_len, .inr ⟨_, 0, 0, 1, true, op7, rfl, by unfold AHeap.rowAt; rw [AHeap.get_push_same]; rfl, Nat.le_refl _, by decide, rfl⟩⟩
    obtain ⟨k1, k2⟩ := ry.appendNew (bytes := 72) (by simp) (by omega) (by omega) (fun e he => by simp only [List.mem_singleton] at he; rw [he]; exact op7_one) (by decide) hX2
    obtain ⟨x3, s1, s2⟩ := fin _ _ (k2.move (base' := H.next) (by simp; omega) (Nat.le_refl _) fun _ _ _ => rfl)
    exact ⟨_, _, _, _, x3, e1, k1, s1, g0, (g0.trans gc).trans (Grow.push _ _), by simp, by simp, s2⟩
  · have hne : t.map OpD.cells ≠ [] := fun h => ht (by simpa using h)
    have hone : ∀ e ∈ t.map OpD.cells, e.all AVal.one = true := fun e he => by
      obtain ⟨o, ho, rfl⟩ := List.mem_map.1 he
      exact (hok o ho).allone
    obtain ⟨k1, k2⟩ := ra0.appendNew (bytes := 72) hne (by omega) (by omega) hone (by rw [List.length_map]; exact Nat.le_trans (Nat.mul_le_mul_right 72 (Nat.le_succ _)) hsm) hX
    have gb : Grow (H.push (.row [some (0, [])])) ((H.push (.row [some (0, [])])).push (.row [some (0, (t.map OpD.cells).flatten)])) := Grow.push _ _
    have nb : ((H.push (.row [some (0, [])])).push (.row [some (0, (t.map OpD.cells).flatten)])).next = H.next + 2 := rfl
    generalize (H.push (.row [some (0, [])])).push (.row [some (0, (t.map OpD.cells).flatten)]) = Hb at k1 k2 gb nb
    obtain ⟨x2, Hd, e2, e3, e4, _, e6, _⟩ := k2.append2 (bytes := 72) (by simp; omega) op7_len (by omega) (by omega) op7_one (by rw [List.length_map]; exact hsm)
    have k2' := k2.lies
    obtain ⟨x3, s1, s2⟩ := fin Hd x2 (e3.move (base' := H.next) (by simp) (Nat.le_refl _) fun _ _ _ => rfl)
    refine ⟨_, Hb, x2, Hd, x3, k1, e2, s1, g0.trans gb, ⟨by omega, fun A hA => ?_⟩, by omega, by omega, s2⟩
    rw [e6 A (by omega) (lies_imp k2' fun R hR => by have := hR.1; simp at this; omega), gb.get A (by simp; omega), g0.get A hA]

/-- The copies. -/
structure InAt (H : AHeap) (base : Nat) (v : AVal) (ain : List AVal) (txs : List (List OpD)) : Prop where
  rd : SliceE H base 1 v (ain.map fun a => [a])
  len : ain.length = txs.length
  at_ : ∀ (i : Nat) a t, ain[i]? = some a → txs[i]? = some t → InOne H base a t
  own : ∀ (i : Nat) a, ain[i]? = some a → v.lies fun R => a.lies fun R' => R ≠ R'

theorem InAt.nil (H : AHeap) (base : Nat) : InAt H base anil [] [] where
  rd := SliceE.nil H base 1
  len := rfl
  at_ := fun i a l h => by simp at h
  own := fun i a h => by simp at h

theorem InAt.lts {H : AHeap} {base : Nat} {v : AVal} {ain : List AVal} {txs : List (List OpD)} (h : InAt H base v ain txs) : ∀ (i : Nat) a, ain[i]? = some a → a.lies fun R => base ≤ R ∧ R < H.next := fun i a ha => by
  have hi := (List.getElem?_eq_some_iff.1 ha).1
  have hi2 : i < txs.length := by rw [← h.len]; exact hi
  exact (h.at_ i a _ ha (List.getElem?_eq_getElem hi2)).lies

theorem InAt.move {H H' : AHeap} {base base' : Nat} {v : AVal} {ain : List AVal} {txs : List (List OpD)} (h : InAt H base v ain txs) (hb : base' ≤ base) (hn : H.next ≤ H'.next) (hg : ∀ A, base ≤ A → A < H.next → H'.get A = H.get A) : InAt H' base' v ain txs where
  rd := h.rd.move hb hn hg
  len := h.len
  at_ := fun i a l ha hl => (h.at_ i a l ha hl).move hb hn hg
  own := h.own

/-- One more copy. -/
theorem InAt.add {H : AHeap} {base N : Nat} {v a : AVal} {ain : List AVal} {txs : List (List OpD)} {t : List OpD} (h : InAt H base v ain txs) (hb : base ≤ N) (hlt : v.lies (· < N)) (ha : InOne H N a t) (hN : N ≤ H.next) (hlen : (ain.length + 1) * 24 ≤ 140737488355328) :
    ∃ v' H', aAppend (H.push (.row [some (0, [a])])) 1 24 v (.slice H.next 0 0 1 1 true 1) = some (v', H') ∧ InAt H' base v' (ain ++ [a]) (txs ++ [t]) ∧ H.next < H'.next ∧ ∀ A, A < H.next → A < base → H'.get A = H.get A := by
  obtain ⟨v', H', e1, e2, e3, e4, e5, _⟩ := h.rd.append2 (bytes := 24) (by omega) (e := [a]) rfl (by omega) (by omega) (by simp [ha.one.1]) (by simpa using hlen)
  have keep : ∀ (b : AVal) (s : List OpD) (B : Nat), InOne H B b s → base ≤ B → (v.lies fun R => b.lies fun R' => R ≠ R') → InOne H' base b s := fun b s B hb' hB hown => by
    obtain ⟨R, ver, vs, q1, q2, q3, q4, q5⟩ := hb'
    exact ⟨R, ver, vs, by omega, by omega, q3, by rw [e5 R q2 fun R1 a1 a2 a3 a4 a5 a6 q => (hown R1 a1 a2 a3 a4 a5 a6 q) R ver 0 _ _ _ _ q3]; exact q4, q5⟩
  have ownA : v.lies fun R => a.lies fun R' => R ≠ R' := fun R a1 a2 a3 a4 a5 a6 q R' b1 b2 b3 b4 b5 b6 q' => by
    have x1 := hlt R a1 a2 a3 a4 a5 a6 q
    have x2 := (ha.lies R' b1 b2 b3 b4 b5 b6 q').1
    omega
  refine ⟨v', H', e1, ⟨by simpa using e2, by simp [h.len], fun i b s hi hs => ?_, fun i b hi => ?_⟩, e3, fun A hA hA2 => e5 A hA (lies_imp h.rd.lies fun R hR => by have := hR.1; omega)⟩
  · by_cases hlt' : i < ain.length
    · rw [List.getElem?_append_left hlt'] at hi
      rw [List.getElem?_append_left (by rw [← h.len]; exact hlt')] at hs
      exact keep b s base (h.at_ i b s hi hs) (Nat.le_refl _) (h.own i b hi)
    · have : i = ain.length := by have := (List.getElem?_eq_some_iff.1 hi).1; simp at this; omega
      subst this
      rw [List.getElem?_append_right (Nat.le_refl _)] at hi
      rw [List.getElem?_append_right (by rw [h.len]; exact Nat.le_refl _)] at hs
      simp at hi
      simp [h.len] at hs
      subst hi; subst hs
      exact keep a t N ha hb ownA
  · refine e4 _ ?_ ?_
    · by_cases hlt' : i < ain.length
      · rw [List.getElem?_append_left hlt'] at hi; exact h.own i b hi
      · have : i = ain.length := by have := (List.getElem?_eq_some_iff.1 hi).1; simp at this; omega
        subst this
        rw [List.getElem?_append_right (Nat.le_refl _)] at hi
        simp at hi; subst hi
        exact ownA
    · intro R hR R' b1 b2 b3 b4 b5 b6 q
      have : R' < H.next := by
        by_cases hlt' : i < ain.length
        · rw [List.getElem?_append_left hlt'] at hi
          exact (h.lts i b hi R' b1 b2 b3 b4 b5 b6 q).2
        · have : i = ain.length := by have := (List.getElem?_eq_some_iff.1 hi).1; simp at this; omega
          subst this
          rw [List.getElem?_append_right (Nat.le_refl _)] at hi
          simp at hi; subst hi
          exact (ha.lies R' b1 b2 b3 b4 b5 b6 q).2
      omega

theorem it8a (or : Oracle) (n : Nat) (b f : Int) (v5 v6 : AVal) (H : AHeap) (vt : AVal) (avt : List AVal) (txs : List (List OpD)) (ht : TxsAt H vt avt txs) (base : Nat) (hb : base ≤ H.next) (i : Nat) (v8a : AVal) (ain : List AVal) (hin : InAt H base v8a ain (txs.take i)) (va : AVal) (t : List OpD) (hva : avt[i]? = some va) (hti : txs[i]? = some t) (tm : List AVal) (len : tm.length = 186) (t0 : tm[0]? = some (vi b)) (t1 : tm[1]? = some (vt)) (t4 : tm[4]? = some (abool false)) (t5 : tm[5]? = some (v5)) (t6 : tm[6]? = some (v6)) (t7 : tm[7]? = some (vi f)) (t8 : tm[8]? = some (v8a)) (t9 : tm[9]? = some (vi i)) :
    ∃ H' v8' ain' tm', aCode or true n (fstC (fstC (sndC (fstC (sndC (sndC (sndC (sndC (sndC (a8.code)))))))))) ⟨tm, H, []⟩ = some (.normal, ⟨tm', H', []⟩) ∧ tm'.length = 186 ∧ tm'[0]? = some (vi b) ∧ tm'[1]? = some (vt) ∧ tm'[4]? = some (abool false) ∧ tm'[5]? = some (v5) ∧ tm'[6]? = some (v6) ∧ tm'[7]? = some (vi f) ∧ tm'[8]? = some (v8') ∧ tm'[9]? = some (vi ((i : Int) + 1)) ∧ InAt H' base v8' ain' (txs.take (i + 1)) ∧ H.next ≤ H'.next ∧ (∀ A, A < base → H'.get A = H.get A) := by
  have hi := (List.getElem?_eq_some_iff.1 hti).1
  have hlen := ht.len
  have hi2 : i < avt.length := by omega
  have hfew := ht.few
  have lvt := ht.rd.lenS
  rw [List.length_map, hlen] at lvt
  obtain ⟨ra, hlies⟩ := ht.at_ i va t hva hti
  have la := ra.lenS
  rw [List.length_map] at la
  have hok := ht.ok t (List.mem_of_getElem? hti)
  have hsm := ht.small t (List.mem_of_getElem? hti)
  obtain ⟨Rv, verv, offv, kcv, exv, cellsv, hvt1, p2, p3, p4⟩ := RdE.at1 ht.rd hva
  have hRv := ht.lies Rv verv offv avt.length kcv exv 1 hvt1
  obtain ⟨x1, Hb, x2, Hd, x3, happ1, happ2, hsl, gb, gd, nb, nd, hin1⟩ := copyOne H va t ra hlies hok hsm
  have p2a : (H.push (.row [some (0, [])])).rowAt Rv verv = some cellsv := by rw [(Grow.push H _).rowAt hRv]; exact p2
  have p2b : Hb.rowAt Rv verv = some cellsv := by rw [gb.rowAt hRv]; exact p2
  have p2d : Hd.rowAt Rv verv = some cellsv := by rw [gd.rowAt hRv]; exact p2
  have hin0 : InAt Hd base v8a ain (txs.take i) := hin.move (Nat.le_refl _) gd.next fun A _ hA => gd.get A hA
  have hin_len := hin.len
  rw [List.length_take, Nat.min_eq_left (Nat.le_of_lt hi)] at hin_len
  obtain ⟨v8', Hf, happ3, hin2, nf, hkf⟩ := hin0.add hb (lies_imp hin.rd.lies fun R hR => hR.2) hin1 gd.next (by omega)
  rw [← take_succ_at hti] at hin2
  have gf : ∀ A, A < base → Hf.get A = H.get A := fun A hA => by rw [hkf A (by have := gd.next; omega) hA, gd.get A (by omega)]
  have hbeq : AVal.beq va va = true := by
    rcases ra with ⟨_, ⟨rfl, _⟩ | ⟨R, ver, off, kcap, ex, cells, rfl, _⟩⟩
    · rfl
    · simp [AVal.beq]
  have c3 := hin1.one.2
  have hx1 : (H.push (.row [some (0, [])])).next ≤ Hb.next := by simpa using nb
  have hx2 : (Hb.push (.row [some (0, op7)])).next ≤ Hd.next := by simpa using nd
  have hx3 : (Hd.push (.row [some (0, [x3])])).next ≤ Hf.next := by simp only [AHeap.next_push]; omega
  have hi' : (i : Int) < txs.length := by omega
  have w : wrapF .i64 ((i : Int) + 1) = ((i : Int) + 1) := wrapI (by omega) (by omega)
  obtain ⟨tm1, e1, l1, f1_0, f1_1, f1_4, f1_5, f1_6, f1_7, f1_8, f1_9, f1_37⟩ : ∃ tm1 : List AVal, aCode or true n (fstC (fstC (fstC (fstC (sndC (fstC (sndC (sndC (sndC (sndC (sndC (a8.code)))))))))))) ⟨tm, H, []⟩ = some (.normal, ⟨tm1, H, []⟩) ∧ tm1.length = 186 ∧ tm1[0]? = some (vi b) ∧ tm1[1]? = some (vt) ∧ tm1[4]? = some (abool false) ∧ tm1[5]? = some (v5) ∧ tm1[6]? = some (v6) ∧ tm1[7]? = some (vi f) ∧ tm1[8]? = some (v8a) ∧ tm1[9]? = some (vi i) ∧ tm1[37]? = some (abool true) := by
    refine ⟨?e1w, ?e1a, ?e1b0, ?e1b1, ?e1b2, ?e1b3, ?e1b4, ?e1b5, ?e1b6, ?e1b7, ?e1b8, ?e1b9⟩
    case e1a =>
      apply regN
      iterate 4 (apply stepN; · simp [-getElem?_pos, List.getElem?_set, len, t1, t9, lvt, hi']; rfl)
      exact nilN (or := or)
    all_goals simp [-getElem?_pos, List.getElem?_set, len, t0, t1, t4, t5, t6, t7, t8, t9]
  obtain ⟨tm2, e2, l2, f2_0, f2_1, f2_4, f2_5, f2_6, f2_7, f2_8, f2_9, f2_37⟩ : ∃ tm2 : List AVal, aCode or true n (fstC (fstC (sndC (fstC (fstC (sndC (fstC (sndC (sndC (sndC (sndC (sndC (a8.code))))))))))))) ⟨tm1, H, []⟩ = some (.normal, ⟨tm2, Hf, []⟩) ∧ tm2.length = 186 ∧ tm2[0]? = some (vi b) ∧ tm2[1]? = some (vt) ∧ tm2[4]? = some (abool false) ∧ tm2[5]? = some (v5) ∧ tm2[6]? = some (v6) ∧ tm2[7]? = some (vi f) ∧ tm2[8]? = some (v8') ∧ tm2[9]? = some (vi i) ∧ tm2[37]? = some (abool true) := by
    refine ⟨?e2w, ?e2a, ?e2b0, ?e2b1, ?e2b2, ?e2b3, ?e2b4, ?e2b5, ?e2b6, ?e2b7, ?e2b8, ?e2b9⟩
    case e2a =>
      apply drawN
      ·
        apply drawMob rfl; · simp [-getElem?_pos, List.getElem?_set, fltVal, l1, f1_1, f1_8, f1_9, hvt1, hi2, p2, p3, p4, p2a, p2b, p2d, la, happ1, happ2, hsl, happ3, repl, aFill, spl, cells_agg, cells_int, c3, hbeq]; rfl
        apply drawMob rfl; · simp [-getElem?_pos, List.getElem?_set, fltVal, l1, f1_1, f1_8, f1_9, hvt1, hi2, p2, p3, p4, p2a, p2b, p2d, la, happ1, happ2, hsl, happ3, repl, aFill, spl, cells_agg, cells_int, c3, hbeq]; rfl
        apply drawMob rfl; · simp [-getElem?_pos, List.getElem?_set, fltVal, l1, f1_1, f1_8, f1_9, hvt1, hi2, p2, p3, p4, p2a, p2b, p2d, la, happ1, happ2, hsl, happ3, repl, aFill, spl, cells_agg, cells_int, c3, hbeq]; rfl
        apply drawMob rfl; · simp [-getElem?_pos, List.getElem?_set, fltVal, l1, f1_1, f1_8, f1_9, hvt1, hi2, p2, p3, p4, p2a, p2b, p2d, la, happ1, happ2, hsl, happ3, repl, aFill, spl, cells_agg, cells_int, c3, hbeq]; rfl
        apply drawMob rfl; · simp [-getElem?_pos, List.getElem?_set, fltVal, l1, f1_1, f1_8, f1_9, hvt1, hi2, p2, p3, p4, p2a, p2b, p2d, la, happ1, happ2, hsl, happ3, repl, aFill, spl, cells_agg, cells_int, c3, hbeq]; rfl
        apply drawImm rfl; · simp [-getElem?_pos, List.getElem?_set, l1, f1_1, f1_8, f1_9, hvt1, hi2, p2, p3, p4, p2a, p2b, p2d, la, happ1, happ2, hsl, happ3, repl, aFill, spl, cells_agg, cells_int, c3, hbeq]; rfl
        · first | exact hx1 | exact hx2 | exact hx3
        apply drawMob rfl; · simp [-getElem?_pos, List.getElem?_set, fltVal, l1, f1_1, f1_8, f1_9, hvt1, hi2, p2, p3, p4, p2a, p2b, p2d, la, happ1, happ2, hsl, happ3, repl, aFill, spl, cells_agg, cells_int, c3, hbeq]; rfl
        apply drawMob rfl; · simp [-getElem?_pos, List.getElem?_set, fltVal, l1, f1_1, f1_8, f1_9, hvt1, hi2, p2, p3, p4, p2a, p2b, p2d, la, happ1, happ2, hsl, happ3, repl, aFill, spl, cells_agg, cells_int, c3, hbeq]; rfl
        apply drawImm rfl; · simp [-getElem?_pos, List.getElem?_set, l1, f1_1, f1_8, f1_9, hvt1, hi2, p2, p3, p4, p2a, p2b, p2d, la, happ1, happ2, hsl, happ3, repl, aFill, spl, cells_agg, cells_int, c3, hbeq]; rfl
        · first | exact hx1 | exact hx2 | exact hx3
        apply drawMob rfl; · simp [-getElem?_pos, List.getElem?_set, fltVal, l1, f1_1, f1_8, f1_9, hvt1, hi2, p2, p3, p4, p2a, p2b, p2d, la, happ1, happ2, hsl, happ3, repl, aFill, spl, cells_agg, cells_int, c3, hbeq]; rfl
        apply drawMob rfl; · simp [-getElem?_pos, List.getElem?_set, fltVal, l1, f1_1, f1_8, f1_9, hvt1, hi2, p2, p3, p4, p2a, p2b, p2d, la, happ1, happ2, hsl, happ3, repl, aFill, spl, cells_agg, cells_int, c3, hbeq]; rfl
        apply drawMob rfl; · simp [-getElem?_pos, List.getElem?_set, fltVal, l1, f1_1, f1_8, f1_9, hvt1, hi2, p2, p3, p4, p2a, p2b, p2d, la, happ1, happ2, hsl, happ3, repl, aFill, spl, cells_agg, cells_int, c3, hbeq]; rfl
        apply drawMob rfl; · simp [-getElem?_pos, List.getElem?_set, fltVal, l1, f1_1, f1_8, f1_9, hvt1, hi2, p2, p3, p4, p2a, p2b, p2d, la, happ1, happ2, hsl, happ3, repl, aFill, spl, cells_agg, cells_int, c3, hbeq]; rfl
        apply drawMob rfl; · simp [-getElem?_pos, List.getElem?_set, fltVal, l1, f1_1, f1_8, f1_9, hvt1, hi2, p2, p3, p4, p2a, p2b, p2d, la, happ1, happ2, hsl, happ3, repl, aFill, spl, cells_agg, cells_int, c3, hbeq]; rfl
        apply drawMob rfl; · simp [-getElem?_pos, List.getElem?_set, fltVal, l1, f1_1, f1_8, f1_9, hvt1, hi2, p2, p3, p4, p2a, p2b, p2d, la, happ1, happ2, hsl, happ3, repl, aFill, spl, cells_agg, cells_int, c3, hbeq]; rfl
        apply drawMob rfl; · simp [-getElem?_pos, List.getElem?_set, fltVal, l1, f1_1, f1_8, f1_9, hvt1, hi2, p2, p3, p4, p2a, p2b, p2d, la, happ1, happ2, hsl, happ3, repl, aFill, spl, cells_agg, cells_int, c3, hbeq]; rfl
        apply drawMob rfl; · simp [-getElem?_pos, List.getElem?_set, fltVal, l1, f1_1, f1_8, f1_9, hvt1, hi2, p2, p3, p4, p2a, p2b, p2d, la, happ1, happ2, hsl, happ3, repl, aFill, spl, cells_agg, cells_int, c3, hbeq]; rfl
        apply drawImm rfl; · simp [-getElem?_pos, List.getElem?_set, l1, f1_1, f1_8, f1_9, hvt1, hi2, p2, p3, p4, p2a, p2b, p2d, la, happ1, happ2, hsl, happ3, repl, aFill, spl, cells_agg, cells_int, c3, hbeq]; rfl
        · first | exact hx1 | exact hx2 | exact hx3
        apply drawMob rfl; · simp [-getElem?_pos, List.getElem?_set, fltVal, l1, f1_1, f1_8, f1_9, hvt1, hi2, p2, p3, p4, p2a, p2b, p2d, la, happ1, happ2, hsl, happ3, repl, aFill, spl, cells_agg, cells_int, c3, hbeq]; rfl
        exact drawNil
      · simp [-getElem?_pos, List.getElem?_set, allAsked, yldB, AVal.beq, AVal.beqs, valBeq, hasN, AOp.reads, l1, f1_1, f1_8, f1_9, hvt1, hi2, p2, p3, p4, p2a, p2b, p2d, la, happ1, happ2, hsl, happ3, repl, aFill, spl, cells_agg, cells_int, c3, hbeq]
    all_goals simp [-getElem?_pos, List.getElem?_set, l1, f1_0, f1_1, f1_4, f1_5, f1_6, f1_7, f1_8, f1_9, f1_37]
  obtain ⟨tm3, e3, l3, f3_0, f3_1, f3_4, f3_5, f3_6, f3_7, f3_8, f3_9, f3_37⟩ : ∃ tm3 : List AVal, aCode or true n (sndC (sndC (fstC (fstC (sndC (fstC (sndC (sndC (sndC (sndC (sndC (a8.code)))))))))))) ⟨tm2, Hf, []⟩ = some (.normal, ⟨tm3, Hf, []⟩) ∧ tm3.length = 186 ∧ tm3[0]? = some (vi b) ∧ tm3[1]? = some (vt) ∧ tm3[4]? = some (abool false) ∧ tm3[5]? = some (v5) ∧ tm3[6]? = some (v6) ∧ tm3[7]? = some (vi f) ∧ tm3[8]? = some (v8') ∧ tm3[9]? = some (vi ((i : Int) + 1)) ∧ tm3[37]? = some (abool true) := by
    refine ⟨?e3w, ?e3a, ?e3b0, ?e3b1, ?e3b2, ?e3b3, ?e3b4, ?e3b5, ?e3b6, ?e3b7, ?e3b8, ?e3b9⟩
    case e3a =>
      apply regN
      iterate 3 (apply stepN; · simp [-getElem?_pos, List.getElem?_set, l2, f2_9, w]; rfl)
      exact nilN (or := or)
    all_goals simp [-getElem?_pos, List.getElem?_set, l2, f2_0, f2_1, f2_4, f2_5, f2_6, f2_7, f2_8, f2_9, f2_37]
  exact ⟨Hf, v8', ain ++ [x3], tm3, (seqN (seqN e1 (condT f1_37 skipN)) (seqN (blkN e2) e3)), l3, f3_0, f3_1, f3_4, f3_5, f3_6, f3_7, f3_8, f3_9, hin2, by have := gd.next; omega, gf⟩

theorem end8a (or : Oracle) (n : Nat) (b f : Int) (v5 v6 v8a : AVal) (H : AHeap) (vt : AVal) (avt : List AVal) (txs : List (List OpD)) (ht : TxsAt H vt avt txs) (tm : List AVal) (len : tm.length = 186) (t0 : tm[0]? = some (vi b)) (t1 : tm[1]? = some (vt)) (t4 : tm[4]? = some (abool false)) (t5 : tm[5]? = some (v5)) (t6 : tm[6]? = some (v6)) (t7 : tm[7]? = some (vi f)) (t8 : tm[8]? = some (v8a)) (t9 : tm[9]? = some (vi txs.length)) :
    ∃ tm', aCode or true n (fstC (fstC (sndC (fstC (sndC (sndC (sndC (sndC (sndC (a8.code)))))))))) ⟨tm, H, []⟩ = some (.exit 0, ⟨tm', H, []⟩) ∧ tm'.length = 186 ∧ tm'[0]? = some (vi b) ∧ tm'[1]? = some (vt) ∧ tm'[4]? = some (abool false) ∧ tm'[5]? = some (v5) ∧ tm'[6]? = some (v6) ∧ tm'[7]? = some (vi f) ∧ tm'[8]? = some (v8a) := by
  have lvt := ht.rd.lenS
  rw [List.length_map, ht.len] at lvt
  obtain ⟨tm1, e1, l1, f1_0, f1_1, f1_4, f1_5, f1_6, f1_7, f1_8, f1_9, f1_37⟩ : ∃ tm1 : List AVal, aCode or true n (fstC (fstC (fstC (fstC (sndC (fstC (sndC (sndC (sndC (sndC (sndC (a8.code)))))))))))) ⟨tm, H, []⟩ = some (.normal, ⟨tm1, H, []⟩) ∧ tm1.length = 186 ∧ tm1[0]? = some (vi b) ∧ tm1[1]? = some (vt) ∧ tm1[4]? = some (abool false) ∧ tm1[5]? = some (v5) ∧ tm1[6]? = some (v6) ∧ tm1[7]? = some (vi f) ∧ tm1[8]? = some (v8a) ∧ tm1[9]? = some (vi txs.length) ∧ tm1[37]? = some (abool false) := by
    refine ⟨?e1w, ?e1a, ?e1b0, ?e1b1, ?e1b2, ?e1b3, ?e1b4, ?e1b5, ?e1b6, ?e1b7, ?e1b8, ?e1b9⟩
    case e1a =>
      apply regN
      iterate 4 (apply stepN; · simp [-getElem?_pos, List.getElem?_set, len, t1, t9, lvt]; rfl)
      exact nilN (or := or)
    all_goals simp [-getElem?_pos, List.getElem?_set, len, t0, t1, t4, t5, t6, t7, t8, t9]
  exact ⟨tm1, (seqX (seqN e1 (condF f1_37 exitN)) (by simp)), l1, f1_0, f1_1, f1_4, f1_5, f1_6, f1_7, f1_8⟩

theorem loop8a (or : Oracle) (n : Nat) (b f : Int) (v5 v6 vt : AVal) (avt : List AVal) (txs : List (List OpD)) (base : Nat) (hlv : vt.lies (· < base)) (hla : ∀ (i : Nat) va, avt[i]? = some va → va.lies (· < base)) :
    ∀ (j i q : Nat) (H : AHeap) (v8a : AVal) (ain : List AVal) (tm : List AVal), i + j = txs.length → j < q → TxsAt H vt avt txs → base ≤ H.next → InAt H base v8a ain (txs.take i) → tm.length = 186 → tm[0]? = some (vi b) → tm[1]? = some (vt) → tm[4]? = some (abool false) → tm[5]? = some (v5) → tm[6]? = some (v6) → tm[7]? = some (vi f) → tm[8]? = some (v8a) → tm[9]? = some (vi i) →
      ∃ H' v8' ain' tm', aLoop (aCode or true n (fstC (fstC (sndC (fstC (sndC (sndC (sndC (sndC (sndC (a8.code))))))))))) q ⟨tm, H, []⟩ = some (.exit 0, ⟨tm', H', []⟩) ∧ (tm'.length = 186 ∧ tm'[0]? = some (vi b) ∧ tm'[1]? = some (vt) ∧ tm'[4]? = some (abool false) ∧ tm'[5]? = some (v5) ∧ tm'[6]? = some (v6) ∧ tm'[7]? = some (vi f) ∧ tm'[8]? = some (v8')) ∧ InAt H' base v8' ain' txs ∧ H.next ≤ H'.next ∧ (∀ A, A < base → H'.get A = H.get A)
  | 0, i, q + 1, H, v8a, ain, tm, hj, _, ht, hb, hin, len, t0, t1, t4, t5, t6, t7, t8, t9 => by
    have : i = txs.length := by omega
    subst this
    obtain ⟨tm', h1, h2⟩ := end8a or n b f v5 v6 v8a H vt avt txs ht tm len t0 t1 t4 t5 t6 t7 t8 t9
    rw [List.take_length] at hin
    exact ⟨H, v8a, ain, tm', by simp only [aLoop, h1], h2, hin, Nat.le_refl _, fun _ _ => rfl⟩
  | j + 1, i, q + 1, H, v8a, ain, tm, hj, hq, ht, hb, hin, len, t0, t1, t4, t5, t6, t7, t8, t9 => by
    have hx : txs[i]? = some txs[i] := List.getElem?_eq_getElem (by omega)
    have hlen := ht.len
    have hy : avt[i]? = some avt[i] := List.getElem?_eq_getElem (by omega)
    obtain ⟨H', v8', ain', tm', h1, l, f0, f1, f4, f5, f6, f7, f8, f9, m1, n1, g1⟩ := it8a or n b f v5 v6 H vt avt txs ht base hb i v8a ain hin _ _ hy hx tm len t0 t1 t4 t5 t6 t7 t8 t9
    obtain ⟨H2, v2, ain2, tm2, q1, q2, q3, q4, q5⟩ := loop8a or n b f v5 v6 vt avt txs base hlv hla j (i + 1) q H' v8' ain' tm' (by omega) (by omega) (ht.below hlv hla n1 g1) (by omega) m1 l f0 f1 f4 f5 f6 f7 f8 f9
    exact ⟨H2, v2, ain2, tm2, by simp only [aLoop, h1, q1], q2, q3, by omega, fun A hA => by rw [q5 A hA, g1 A hA]⟩

end Go.Proofs.Ythbjfkkjmecaaaa
