/- Walks: small functions of the law SerialSwaps. -/
import Derived.Test.YthbjfkkjmecaaaaW42
namespace Go.Proofs.Ythbjfkkjmecaaaa
open Go Go.Vm
set_option linter.unusedVariables false
set_option linter.unusedSimpArgs false

variable {kn : Known} {env : Nat → Option AFunc}

variable {H H' H1 : AHeap} {N A B M : Nat} {v v0 ov tv : AVal} {rows l : List RowD} {rcs ocs tvs : List (List AVal)} {rc : List AVal} {r : RowD} {x : TxD} {sv rv wv : AVal} {m : Int} {txs : List TxD} {o : Nat → Nat} {order : List Int}

/-! ### Plain -/

def touchS (n : Int) (st : Bool × Bool) (r : RowD) : Bool × Bool := if r.blk ≠ n then st else if r.kind = 6 then (true, st.2) else (st.1, st.2 || !st.1)
def touchD (l : List RowD) (n : Int) : Bool × Bool := l.foldl (touchS n) (false, false)
def clashAt (a b : List RowD) (n : Int) : Bool := ((touchD a n).1 && (touchD b n).1) || ((touchD a n).1 && (touchD b n).2) || ((touchD b n).1 && (touchD a n).2)
/-- Two transactions stand in each other's way. -/
def ClashD (a b : List RowD) (m : Int) : Prop := ∃ n : Nat, (n : Int) < m ∧ clashAt a b n = true

/-! ### Walks -/

theorem c11 (h : Fn kn env 11 a11) (n : Nat) (hrd : RdE H 41 v0 rcs) : ∃ v', callM kn env (n + 1) (.func (.func 11) []) [v0] H = some (v', H) ∧ RdE H 41 v' (rcs.take 400) ∧ ∀ p : Nat → Prop, v0.lies p → v'.lies p := by
  have hlen := hrd.lenS
  by_cases hc : 400 < rcs.length
  · rcases id hrd with ⟨h0, ⟨rfl, rfl⟩ | ⟨R, ver, off, kc, ex, cells, rfl, h2, h3, h4, h5⟩⟩
    · simp [-getElem?_pos] at hc
    · refine ⟨.slice R ver off 400 kc ex 41, Wp.call1 9 [0, 2, 5] h.e (h.no [.slice R ver off rcs.length kc ex 41] H) rfl (by simp [-getElem?_pos]) ?_, ⟨fun e he => h0 e (List.mem_of_mem_take he), .inr ⟨R, ver, off, kc, ex, cells, by rw [List.length_take, Nat.min_eq_left (by omega)], h2, by rw [List.length_take]; omega, by rw [List.length_take]; omega, ?_⟩⟩, fun p hp R' ver' off' len kcap ex' esz' e => by cases e; exact hp _ _ _ _ _ _ _ rfl⟩
      · repeat (first | apply Wp.seq | apply Wp.blk | apply Wp.ret | apply Wp.skip | apply Wp.exit | apply Wp.cT rfl | apply Wp.cF rfl | ((apply Wp.reg; (repeat (apply Ex.cons; (simp (disch := omega) [-getElem?_pos, aLenS, aSliceS, aBoundO, aBound, hc]; rfl))); exact Ex.nil; rfl; (simp [-getElem?_pos]; rfl))))
        simp [-getElem?_pos, a11]
      · rw [List.length_take, Nat.min_eq_left (by omega), flatten_take 400 h0, ← h5, List.take_take, Nat.min_eq_left (by omega)]
  · refine ⟨v0, Wp.call1 9 [0, 2, 5] h.e (h.no [v0] H) rfl (by simp [-getElem?_pos]) ?_, by rw [List.take_of_length_le (by omega)]; exact hrd, fun p hp => hp⟩
    repeat (first | apply Wp.seq | apply Wp.blk | apply Wp.ret | apply Wp.skip | apply Wp.exit | apply Wp.cT rfl | apply Wp.cF rfl | ((apply Wp.reg; (repeat (apply Ex.cons; (simp (disch := omega) [-getElem?_pos, hlen]; rfl))); exact Ex.nil; rfl; (simp [-getElem?_pos]; rfl))))
    simp [-getElem?_pos, a11]

open Classical in
theorem c22 (h : Fn kn env 22 a22) (n : Nat) {v1 v2 : AVal} {es1 es2 : List (List AVal)} (h1 : RdE H 32 v1 es1) (h2 : RdE H 32 v2 es2) (hv1 : ∀ e ∈ es1, IsVal e) (hv2 : ∀ e ∈ es2, IsVal e) (hl : es1.length < 1000000000000) (hn : es1.length + 5 < n) : callM kn env (n + 1) (.func (.func 22) []) [v1, v2] H = some (abool (decide (es1 = es2)), H) := by
  have hl1 := h1.lenS
  have hl2 := h2.lenS
  refine Wp.call1 26 [0, 1, 4, 5, 10, 14, 25] h.e (h.no [v1, v2] H) rfl (by simp [-getElem?_pos]) ?_
  by_cases hne : (es1.length : Int) = es2.length
  · repeat (first | apply Wp.seq | apply Wp.blk | apply Wp.ret | apply Wp.skip | apply Wp.exit | apply Wp.cT rfl | apply Wp.cF rfl | ((apply Wp.reg; (repeat (apply Ex.cons; (simp (disch := omega) [-getElem?_pos, hl1, hl2]; rfl))); exact Ex.nil; rfl; (simp [-getElem?_pos]; rfl))))
    apply Wp.loop (α := Nat) (fun y => [(0, v1), (1, v2), (5, vi y)]) (fun _ => H) (fun y => y ≤ es1.length ∧ es1.take y = es2.take y) (fun y => es1.length - y) 0 rfl ⟨by omega, rfl⟩ (by simp [-getElem?_pos]; omega) (by simp [-getElem?_pos])
    rintro j ⟨hj, heq⟩
    skip
    (repeat (first | apply Wp.seq | apply Wp.blk)); (apply Wp.reg; (repeat (apply Ex.cons; (simp (disch := omega) [-getElem?_pos, hl1]; rfl))); exact Ex.nil; rfl; (simp [-getElem?_pos]; rfl))
    (repeat (first | apply Wp.seq | apply Wp.blk)); apply Wp.ite rfl
    · intro hjl
      obtain ⟨e1, he1⟩ : ∃ e, es1[j]? = some e := ⟨_, List.getElem?_eq_getElem (by omega)⟩
      obtain ⟨e2, he2⟩ : ∃ e, es2[j]? = some e := ⟨_, List.getElem?_eq_getElem (by omega)⟩
      obtain ⟨R1, ver1, off1, kc1, ex1, cells1, hq1, hr1, ha1, hb1⟩ := h1.at he1
      obtain ⟨R2, ver2, off2, kc2, ex2, cells2, hq2, hr2, ha2, hb2⟩ := h2.at he2
      have i1 := hv1 e1 (List.mem_of_getElem? he1)
      have i2 := hv2 e2 (List.mem_of_getElem? he2)
      have b1 : AVal.beqs e1 e1 = true := beqs_bytes i1.bytes
      have b2 : AVal.beqs e2 e2 = true := beqs_bytes i2.bytes
      apply Wp.skip
      by_cases hee : e1 = e2
      · subst hee
        have hev := eqVal_t i1
        repeat (first | apply Wp.seq | apply Wp.blk | apply Wp.ret | apply Wp.skip | apply Wp.exit | apply Wp.cT rfl | apply Wp.cF rfl | ((apply Wp.reg; (repeat (apply Ex.cons; (simp (disch := omega) [-getElem?_pos, hq1, hq2, hr1, hr2, ha1, ha2, hb1, hb2, hev, b1]; rfl))); exact Ex.nil; rfl; (simp [-getElem?_pos]; rfl))) | ((apply Wp.draw; (repeat (first | ((first | apply Dr.q rfl rfl | apply Dr.r rfl rfl); (simp (disch := omega) [-getElem?_pos, hq1, hq2, hr1, hr2, ha1, ha2, hb1, hb2, hev, b1]; rfl); (simp [-getElem?_pos]; rfl)) | (apply Dr.imm rfl; (simp (disch := omega) [-getElem?_pos, hq1, hq2, hr1, hr2, ha1, ha2, hb1, hb2, hev, b1]; rfl); (focus first | (simp [-getElem?_pos]; done) | (simp [-getElem?_pos]; omega))))); exact Dr.nil; rfl; (simp (disch := omega) [-getElem?_pos, hq1, hq2, hr1, hr2, ha1, ha2, hb1, hb2, hev, b1]); (simp [-getElem?_pos]; rfl))))
        exact ⟨j + 1, rfl, ⟨by omega, by rw [List.take_add_one, List.take_add_one, heq, he1, he2]⟩, by omega, by simp [-getElem?_pos, hq1, hq2]⟩
      · have hev := eqVal_f i1 i2 hee
        repeat (first | apply Wp.seq | apply Wp.blk | apply Wp.ret | apply Wp.skip | apply Wp.exit | apply Wp.cT rfl | apply Wp.cF rfl | ((apply Wp.reg; (repeat (apply Ex.cons; (simp (disch := omega) [-getElem?_pos, hq1, hq2, hr1, hr2, ha1, ha2, hb1, hb2, hev, b1, b2]; rfl))); exact Ex.nil; rfl; (simp [-getElem?_pos]; rfl))) | ((apply Wp.draw; (repeat (first | ((first | apply Dr.q rfl rfl | apply Dr.r rfl rfl); (simp (disch := omega) [-getElem?_pos, hq1, hq2, hr1, hr2, ha1, ha2, hb1, hb2, hev, b1, b2]; rfl); (simp [-getElem?_pos]; rfl)) | (apply Dr.imm rfl; (simp (disch := omega) [-getElem?_pos, hq1, hq2, hr1, hr2, ha1, ha2, hb1, hb2, hev, b1, b2]; rfl); (focus first | (simp [-getElem?_pos]; done) | (simp [-getElem?_pos]; omega))))); exact Dr.nil; rfl; (simp (disch := omega) [-getElem?_pos, hq1, hq2, hr1, hr2, ha1, ha2, hb1, hb2, hev, b1, b2]); (simp [-getElem?_pos]; rfl))))
        simp [-getElem?_pos, a22]
        intro e
        rw [e, he2] at he1
        exact hee (Option.some.inj he1).symm
    · intro hjl
      apply Wp.exit
      repeat (first | apply Wp.seq | apply Wp.blk | apply Wp.ret | apply Wp.skip | apply Wp.exit | apply Wp.cT rfl | apply Wp.cF rfl | ((apply Wp.reg; (repeat (apply Ex.cons; (simp (disch := omega) [-getElem?_pos]; rfl))); exact Ex.nil; rfl; (simp [-getElem?_pos]; rfl))))
      simp [-getElem?_pos, a22]
      rw [List.take_of_length_le (by omega), List.take_of_length_le (by omega)] at heq
      exact heq
  · have hne2 : es1 ≠ es2 := fun e => hne (by rw [e])
    repeat (first | apply Wp.seq | apply Wp.blk | apply Wp.ret | apply Wp.skip | apply Wp.exit | apply Wp.cT rfl | apply Wp.cF rfl | ((apply Wp.reg; (repeat (apply Ex.cons; (simp (disch := omega) [-getElem?_pos, hl1, hl2, hne]; rfl))); exact Ex.nil; rfl; (simp [-getElem?_pos]; rfl))))
    simp [-getElem?_pos, a22, hne2]

theorem c69 (h : Fn kn env 69 a69) (n : Nat) (hw : RdE H 41 v ocs) (hR : RowsC ocs l) (b : Int) (hl : l.length < 400000000000) (hn : l.length + 5 < n) : callM kn env (n + 1) (.func (.func 69) []) [v, vi b] H = some (.tuple [abool (touchD l b).1, abool (touchD l b).2], H) := by
  have hl1 := hR.1
  have hlen : aLenS v = some (vi l.length) := by rw [← hl1]; exact hw.lenS
  refine Wp.call1 30 [0, 1, 4, 5, 6, 10, 19, 25, 27] h.e (h.no [v, vi b] H) rfl (by simp [-getElem?_pos]) ?_
  repeat (first | apply Wp.seq | apply Wp.blk | apply Wp.ret | apply Wp.skip | apply Wp.exit | apply Wp.cT rfl | apply Wp.cF rfl | ((apply Wp.reg; (repeat (apply Ex.cons; (simp (disch := omega) [-getElem?_pos]; rfl))); exact Ex.nil; rfl; (simp [-getElem?_pos]; rfl))))
  apply Wp.loop (α := Nat × Bool × Bool) (fun y => [(0, v), (1, vi b), (4, abool y.2.1), (5, abool y.2.2), (6, vi y.1)]) (fun _ => H) (fun y => y.1 ≤ l.length ∧ (l.drop y.1).foldl (touchS b) y.2 = touchD l b) (fun y => l.length - y.1) (0, false, false) rfl ⟨by omega, rfl⟩ (by simp [-getElem?_pos]; omega) (by simp [-getElem?_pos])
  rintro ⟨j, c, d⟩ ⟨hj, hfold⟩
  dsimp only at hj hfold ⊢
  (repeat (first | apply Wp.seq | apply Wp.blk)); (apply Wp.reg; (repeat (apply Ex.cons; (simp (disch := omega) [-getElem?_pos, hlen]; rfl))); exact Ex.nil; rfl; (simp [-getElem?_pos]; rfl))
  (repeat (first | apply Wp.seq | apply Wp.blk)); apply Wp.ite rfl
  · intro hjl
    obtain ⟨r, hr⟩ : ∃ r, l[j]? = some r := ⟨_, List.getElem?_eq_getElem (by omega)⟩
    obtain ⟨rc, hrc⟩ : ∃ rc, ocs[j]? = some rc := ⟨_, List.getElem?_eq_getElem (by omega)⟩
    have hRC := hR.2 _ rc r hrc hr
    obtain ⟨R0, ver0, off, kc, ex, cells, hv, hrow, hc1, hc2⟩ := hw.at hrc
    rw [hl1] at hv
    rw [drop_at hr, List.foldl_cons] at hfold
    have g : ∀ k u, k < 41 → rc[k]? = some u → cells[off + j * 41 + k]? = some u := fun k u hk hu => by
      rw [← hc2, List.getElem?_take, if_pos hk, List.getElem?_drop] at hu; exact hu
    have g0 := g 0 _ (by omega) hRC.a0
    have g4 := g 4 _ (by omega) hRC.a4
    rw [Nat.add_zero] at g0
    apply Wp.skip
    by_cases q1 : r.blk = b
    · by_cases q2 : r.kind = 6
      · have hst : touchS b (c, d) r = (true, d) := by simp [-getElem?_pos, touchS, q1, q2]
        rw [hst] at hfold
        repeat (first | apply Wp.seq | apply Wp.blk | apply Wp.ret | apply Wp.skip | apply Wp.exit | apply Wp.cT rfl | apply Wp.cF rfl | ((apply Wp.reg; (repeat (apply Ex.cons; (simp (disch := omega) [-getElem?_pos, hv, hrow, hc1, g0, g4, q1, q2]; rfl))); exact Ex.nil; rfl; (simp [-getElem?_pos]; rfl))))
        exact ⟨(j + 1, true, d), rfl, ⟨by show j + 1 ≤ _; omega, hfold⟩, by show _ - (j + 1) < _ - j; omega, by simp [-getElem?_pos, hv]⟩
      · have hst : touchS b (c, d) r = (c, d || !c) := by simp [-getElem?_pos, touchS, q1, q2]
        rw [hst] at hfold
        cases c with
        | true =>
          simp only [Bool.not_true, Bool.or_false] at hfold
          repeat (first | apply Wp.seq | apply Wp.blk | apply Wp.ret | apply Wp.skip | apply Wp.exit | apply Wp.cT rfl | apply Wp.cF rfl | ((apply Wp.reg; (repeat (apply Ex.cons; (simp (disch := omega) [-getElem?_pos, hv, hrow, hc1, g0, g4, q1, q2]; rfl))); exact Ex.nil; rfl; (simp [-getElem?_pos]; rfl))))
          exact ⟨(j + 1, true, d), rfl, ⟨by show j + 1 ≤ _; omega, hfold⟩, by show _ - (j + 1) < _ - j; omega, by simp [-getElem?_pos, hv]⟩
        | false =>
          simp only [Bool.not_false, Bool.or_true] at hfold
          repeat (first | apply Wp.seq | apply Wp.blk | apply Wp.ret | apply Wp.skip | apply Wp.exit | apply Wp.cT rfl | apply Wp.cF rfl | ((apply Wp.reg; (repeat (apply Ex.cons; (simp (disch := omega) [-getElem?_pos, hv, hrow, hc1, g0, g4, q1, q2]; rfl))); exact Ex.nil; rfl; (simp [-getElem?_pos]; rfl))))
          exact ⟨(j + 1, false, true), rfl, ⟨by show j + 1 ≤ _; omega, hfold⟩, by show _ - (j + 1) < _ - j; omega, by simp [-getElem?_pos, hv]⟩
    · have hst : touchS b (c, d) r = (c, d) := by simp [-getElem?_pos, touchS, q1]
      rw [hst] at hfold
      repeat (first | apply Wp.seq | apply Wp.blk | apply Wp.ret | apply Wp.skip | apply Wp.exit | apply Wp.cT rfl | apply Wp.cF rfl | ((apply Wp.reg; (repeat (apply Ex.cons; (simp (disch := omega) [-getElem?_pos, hv, hrow, hc1, g0, g4, q1]; rfl))); exact Ex.nil; rfl; (simp [-getElem?_pos]; rfl))))
      exact ⟨(j + 1, c, d), rfl, ⟨by show j + 1 ≤ _; omega, hfold⟩, by show _ - (j + 1) < _ - j; omega, by simp [-getElem?_pos, hv]⟩
  · intro hjl
    apply Wp.exit
    rw [List.drop_of_length_le (by omega), List.foldl_nil] at hfold
    repeat (first | apply Wp.seq | apply Wp.blk | apply Wp.ret | apply Wp.skip | apply Wp.exit | apply Wp.cT rfl | apply Wp.cF rfl | ((apply Wp.reg; (repeat (apply Ex.cons; (simp (disch := omega) [-getElem?_pos]; rfl))); exact Ex.nil; rfl; (simp [-getElem?_pos]; rfl))))
    simp [-getElem?_pos, a69, ← hfold]

end Go.Proofs.Ythbjfkkjmecaaaa
namespace Go.Proofs.Ythbjfkkjmecaaaa
open Go Go.Vm
set_option linter.unusedVariables false
set_option linter.unusedSimpArgs false

variable {kn : Known} {env : Nat → Option AFunc}

variable {H H' H1 : AHeap} {N A B M : Nat} {v v0 ov tv : AVal} {rows l l2 : List RowD} {rcs ocs ocs2 tvs : List (List AVal)} {rc : List AVal} {r : RowD} {x : TxD} {sv rv wv : AVal} {m : Int} {txs : List TxD} {o : Nat → Nat} {order : List Int}

set_option maxHeartbeats 8000000 in
open Classical in
theorem c34 (h : Fn kn env 34 a34) (h69 : Fn kn env 69 a69) (n : Nat) {v1 v2 : AVal} (hw1 : RdE H 41 v1 ocs) (hR1 : RowsC ocs l) (hw2 : RdE H 41 v2 ocs2) (hR2 : RowsC ocs2 l2) (hm : m ≤ 64) (hl1 : l.length < 400000000000) (hl2 : l2.length < 400000000000) (hn : l.length + l2.length + 100 < n) :
    callM kn env (n + 2) (.func (.func 34) []) [v1, v2, vi m] H = some (abool (decide (ClashD l l2 m)), H) := by
  have hc := fun b => c69 h69 n hw1 hR1 b hl1 (by omega)
  have hc2 := fun b => c69 h69 n hw2 hR2 b hl2 (by omega)
  refine Wp.call1 45 [0, 1, 2, 6, 7, 8, 9, 10, 11, 14, 44] h.e (h.no [v1, v2, vi m] H) rfl (by simp [-getElem?_pos]) ?_
  repeat (first | apply Wp.seq | apply Wp.blk | apply Wp.ret | apply Wp.skip | apply Wp.exit | apply Wp.cT rfl | apply Wp.cF rfl | ((apply Wp.reg; (repeat (apply Ex.cons; (simp (disch := omega) [-getElem?_pos]; rfl))); exact Ex.nil; rfl; (simp [-getElem?_pos]; rfl))))
  apply Wp.loop (α := Nat) (fun y => [(0, v1), (1, v2), (2, vi m), (7, vi y)]) (fun _ => H) (fun y => y ≤ 64 ∧ ∀ i : Nat, i < y → (i : Int) < m → clashAt l l2 i = false) (fun y => 64 - y) 0 rfl ⟨by omega, by omega⟩ (by simp [-getElem?_pos]; omega) (by simp [-getElem?_pos])
  rintro j ⟨hj, hno⟩
  skip
  (repeat (first | apply Wp.seq | apply Wp.blk)); (apply Wp.reg; (repeat (apply Ex.cons; (simp (disch := omega) [-getElem?_pos]; rfl))); exact Ex.nil; rfl; (simp [-getElem?_pos]; rfl))
  (repeat (first | apply Wp.seq | apply Wp.blk)); apply Wp.ite rfl
  · intro hjl
    have q1 := hc (j : Int)
    have q2 := hc2 (j : Int)
    have hcl : clashAt l l2 j = (((touchD l j).1 && (touchD l2 j).1) || ((touchD l j).1 && (touchD l2 j).2) || ((touchD l2 j).1 && (touchD l j).2)) := rfl
    have hyes : clashAt l l2 j = true → decide (ClashD l l2 m) = true := fun q => by rw [decide_eq_true_iff]; exact ⟨j, hjl, q⟩
    have hnext : clashAt l l2 j = false → ∀ i : Nat, i < j + 1 → (i : Int) < m → clashAt l l2 i = false := fun q i hi him => by
      by_cases e : i = j
      · subst e; exact q
      · exact hno i (by omega) him
    apply Wp.skip
    generalize touchD l j = t1 at q1 hcl
    generalize touchD l2 j = t2 at q2 hcl
    obtain ⟨c1, d1⟩ := t1
    obtain ⟨c2, d2⟩ := t2
    dsimp only at q1 q2 hcl
    cases c1 <;> cases d1 <;> cases c2 <;> cases d2
    all_goals first
      | (repeat (first | apply Wp.seq | apply Wp.blk | apply Wp.ret | apply Wp.skip | apply Wp.exit | apply Wp.cT rfl | apply Wp.cF rfl | ((apply Wp.reg; (repeat (apply Ex.cons; (simp (disch := omega) [-getElem?_pos, q1, q2]; rfl))); exact Ex.nil; rfl; (simp [-getElem?_pos]; rfl))))
         exact ⟨j + 1, rfl, ⟨by omega, hnext (by rw [hcl]; rfl)⟩, by omega, by simp [-getElem?_pos]⟩)
      | (rw [hyes (by rw [hcl]; rfl)]
         repeat (first | apply Wp.seq | apply Wp.blk | apply Wp.ret | apply Wp.skip | apply Wp.exit | apply Wp.cT rfl | apply Wp.cF rfl | ((apply Wp.reg; (repeat (apply Ex.cons; (simp (disch := omega) [-getElem?_pos, q1, q2]; rfl))); exact Ex.nil; rfl; (simp [-getElem?_pos]; rfl))))
         simp [-getElem?_pos, a34])
  · intro hjl
    apply Wp.exit
    have : decide (ClashD l l2 m) = false := by
      rw [decide_eq_false_iff_not]
      rintro ⟨i, h1, h2⟩
      rw [hno i (by omega) h1] at h2; cases h2
    rw [this]
    repeat (first | apply Wp.seq | apply Wp.blk | apply Wp.ret | apply Wp.skip | apply Wp.exit | apply Wp.cT rfl | apply Wp.cF rfl | ((apply Wp.reg; (repeat (apply Ex.cons; (simp (disch := omega) [-getElem?_pos]; rfl))); exact Ex.nil; rfl; (simp [-getElem?_pos]; rfl))))
    simp [-getElem?_pos, a34]

set_option maxHeartbeats 1000000 in
theorem c35 (h : Fn kn env 35 a35) (n : Nat) (hrd : RdE H 41 v0 rcs) (hlies : v0.lies (· < H.next)) (hrc : RowsC rcs rows) {k : Nat} (hk : x.begun = (k : Nat)) (hkl : k < rows.length) (hm : rows.length < 400000000000) (hn : rows.length + 5 < n) (h1 : sv.one = true) (h2 : rv.one = true) (h3 : wv.one = true) :
    ∃ v' H' ocs, callM kn env (n + 1) (.func (.func 35) []) [v0, .agg (txc x sv rv wv)] H = some (v', H') ∧ Grow H H' ∧ SliceE H' H.next 41 v' ocs ∧ RowsC ocs (ownD rows x) := by
  obtain ⟨H1, hH1⟩ : ∃ H1, H1 = H.push (.row [some (0, txc x sv rv wv)]) := ⟨_, rfl⟩
  have hl1 := hrc.1
  have hlen : aLenS v0 = some (vi rows.length) := by rw [← hl1]; exact hrd.lenS
  have hc0 : x.begun + 1 = ((k + 1 : Nat) : Int) := by omega
  have hod : ownD rows x = ownB x.client (rows.drop (k + 1)) := by unfold ownD; rw [hc0]; rfl
  have hg1 : Grow H H1 := by rw [hH1]; exact Grow.push _ _
  have hX1 : H1.rowAt H.next 0 = some (txc x sv rv wv) := by rw [hH1]; simp [-getElem?_pos]
  have hn1 : H1.next = H.next + 1 := by rw [hH1]; simp [-getElem?_pos]
  obtain ⟨v', H', hc, hg, ocs, hs, hR⟩ := Wp.call (R := fun v' H' => Grow H H' ∧ ∃ ocs, SliceE H' H.next 41 v' ocs ∧ RowsC ocs (ownB x.client (rows.drop (k + 1)))) 64 [0, 1, 3, 4, 5, 6, 13, 31, 55] h.e (h.no [v0, .agg (txc x sv rv wv)] H) rfl (by simp [-getElem?_pos]) (n := n) (by
    repeat (first | apply Wp.seq | apply Wp.blk | apply Wp.ret | apply Wp.skip | apply Wp.exit | apply Wp.cT rfl | apply Wp.cF rfl | ((apply Wp.reg; (repeat (apply Ex.cons; (simp (disch := omega) [-getElem?_pos, hk, txc]; rfl))); exact Ex.nil; rfl; (simp [-getElem?_pos]; rfl))))
    have hX0 : H.push (.row [some (0, [vi x.client, vu x.life, vu x.ticket, sv, rv, wv, vi k, vi x.asked, vi x.commit, vu x.pos, vi x.done, vi x.fate])]) = H1 := by rw [hH1]; simp only [txc, hk]
    rw [hX0]
    apply Wp.loop (α := Nat × AVal × AHeap) (fun y => [(0, v0), (3, .ptr H.next 0 0), (5, y.2.1), (6, vi (k + 1 + y.1 : Nat))]) (·.2.2)
      (fun y => k + 1 + y.1 ≤ rows.length ∧ Grow H1 y.2.2 ∧ ∃ ocs l, SliceE y.2.2 H1.next 41 y.2.1 ocs ∧ RowsC ocs l ∧ ocs.length ≤ y.1 ∧ l ++ ownB x.client (rows.drop (k + 1 + y.1)) = ownB x.client (rows.drop (k + 1))) (fun y => rows.length - (k + 1) - y.1)
      (0, ns, H1) rfl ⟨by show k + 1 + 0 ≤ _; omega, Grow.refl _, [], [], SliceE.nil _ _ _, RowsC.nil, by simp [-getElem?_pos], by simp [-getElem?_pos]⟩ (by simp [-getElem?_pos]; omega) (by simp [-getElem?_pos])
    rintro ⟨j, v5, H2⟩ ⟨hj, hg2, ocs, l, hs, hR, hol, hown⟩
    dsimp only at hj hg2 hs hR hol hown ⊢
    have hgH : Grow H H2 := hg1.trans hg2
    have hend : ∀ (v : AVal) (H2 : AHeap) ocs, Grow H1 H2 → SliceE H2 H1.next 41 v ocs → Grow H H2 ∧ SliceE H2 H.next 41 v ocs := fun v H2 ocs hg hs => ⟨hg1.trans hg, hs.move (by omega) (Nat.le_refl _) fun _ _ _ => rfl⟩
    obtain ⟨i, hi⟩ : ∃ i, i = k + 1 + j := ⟨_, rfl⟩
    rw [← hi]
    (repeat (first | apply Wp.seq | apply Wp.blk)); (apply Wp.reg; (repeat (apply Ex.cons; (simp (disch := omega) [-getElem?_pos, hlen]; rfl))); exact Ex.nil; rfl; (simp [-getElem?_pos]; rfl))
    (repeat (first | apply Wp.seq | apply Wp.blk)); apply Wp.ite rfl
    · intro hjl
      obtain ⟨r, hr⟩ : ∃ r, rows[i]? = some r := ⟨_, List.getElem?_eq_getElem (by omega)⟩
      obtain ⟨rc, hrc'⟩ : ∃ rc, rcs[i]? = some rc := ⟨_, List.getElem?_eq_getElem (by omega)⟩
      have hRC := hrc.2 _ rc r hrc' hr
      obtain ⟨R0, ver0, off, kc, ex, cells, hv0, hrow, hc1, hc2⟩ := hrd.at hrc'
      rw [hl1] at hv0
      have hR0 : R0 < H.next := hlies _ _ _ _ _ _ _ hv0
      have hrow2 : H2.rowAt R0 ver0 = some cells := by rw [hgH.rowAt hR0]; exact hrow
      have hX2 : H2.rowAt H.next 0 = some (txc x sv rv wv) := by rw [hg2.rowAt (by omega)]; exact hX1
      have g : ∀ k u, k < 41 → rc[k]? = some u → cells[off + i * 41 + k]? = some u := fun k u hk hu => by
        rw [← hc2, List.getElem?_take, if_pos hk, List.getElem?_drop] at hu; exact hu
      have g0 := g 0 _ (by omega) hRC.a0
      have g2 := g 2 _ (by omega) hRC.a2
      rw [Nat.add_zero] at g0
      have r5 := hRC.len
      rw [← hi, drop_at hr] at hown
      have hi2 : k + 1 + (j + 1) = i + 1 := by omega
      have hstep : ∀ l', l' ++ ownB x.client (rows.drop (i + 1)) = ownB x.client (rows.drop (k + 1)) → l' ++ ownB x.client (rows.drop (k + 1 + (j + 1))) = ownB x.client (rows.drop (k + 1)) := fun l' q => by rw [hi2]; exact q
      have hcast : vi ((k + 1 + (j + 1) : Nat) : Int) = vi ((i : Int) + 1) := by rw [hi2]; simp [-getElem?_pos]
      obtain ⟨va, Ha, ha, hsa, hna, hka, _⟩ := (hs.move (Nat.le_refl _) (Nat.le_succ _) (H' := H2.push (.row [some (0, rc)])) fun A _ hA => AHeap.get_push_ne _ _ (by omega)).append (bytes := 120) (by have := hg2.next; simp [-getElem?_pos]; omega) (X := H2.next) (e := rc) (by simp [-getElem?_pos]) r5 (by omega) (by omega) hRC.one (by omega) (ex := true) (kc := 1)
      have hga : Grow H1 Ha := ⟨by have := hg2.next; simp [-getElem?_pos] at hna; omega, fun A hA => by have := hg2.next; rw [hka A hA, AHeap.get_push_ne _ _ (by omega), hg2.get A hA]⟩
      apply Wp.skip
      by_cases qa : r.actor = x.client <;> by_cases q2 : r.kind = 2 <;> by_cases q5 : r.kind = 5 <;> by_cases q6 : r.kind = 6
      all_goals try omega
      all_goals first
        | (have hown' := hstep l (by rw [← hown]; simp [-getElem?_pos, ownB, qa, q2, q5, q6])
           repeat (first | apply Wp.seq | apply Wp.blk | apply Wp.ret | apply Wp.skip | apply Wp.exit | apply Wp.cT rfl | apply Wp.cF rfl | ((apply Wp.reg; (repeat (apply Ex.cons; (simp (disch := omega) [-getElem?_pos, hv0, hrow2, hc1, hc2, g0, g2, r5, hX2, txc, qa, q2, q5, q6]; rfl))); exact Ex.nil; rfl; (simp [-getElem?_pos]; rfl))) | ((apply Wp.draw; (repeat (first | ((first | apply Dr.q rfl rfl | apply Dr.r rfl rfl); (simp (disch := omega) [-getElem?_pos, hv0, hrow2, hc1, hc2, g0, g2, r5, hX2, txc, qa, q2, q5, q6]; rfl); (simp [-getElem?_pos]; rfl)) | (apply Dr.imm rfl; (simp (disch := omega) [-getElem?_pos, hv0, hrow2, hc1, hc2, g0, g2, r5, hX2, txc, qa, q2, q5, q6]; rfl); (focus first | (simp [-getElem?_pos]; done) | (simp [-getElem?_pos]; omega))))); exact Dr.nil; rfl; (simp (disch := omega) [-getElem?_pos, hv0, hrow2, hc1, hc2, g0, g2, r5, hX2, txc, qa, q2, q5, q6]); (simp [-getElem?_pos]; rfl))))
           exact ⟨(j + 1, v5, H2), rfl, ⟨by show k + 1 + (j + 1) ≤ _; omega, hg2, ocs, l, hs, hR, by show _ ≤ j + 1; omega, hown'⟩, by show _ - _ - (j + 1) < _ - _ - j; omega, by simp [-getElem?_pos, hv0, hi]; omega⟩)
        | (have hown' := hstep (l ++ [r]) (by rw [← hown]; simp [-getElem?_pos, ownB, qa, q2, q5, q6])
           repeat (first | apply Wp.seq | apply Wp.blk | apply Wp.ret | apply Wp.skip | apply Wp.exit | apply Wp.cT rfl | apply Wp.cF rfl | ((apply Wp.reg; (repeat (apply Ex.cons; (simp (disch := omega) [-getElem?_pos, hv0, hrow2, hc1, hc2, g0, g2, r5, hX2, txc, qa, q2, q5, q6, ha, aFill, repl]; rfl))); exact Ex.nil; rfl; (simp [-getElem?_pos]; rfl))) | ((apply Wp.draw; (repeat (first | ((first | apply Dr.q rfl rfl | apply Dr.r rfl rfl); (simp (disch := omega) [-getElem?_pos, hv0, hrow2, hc1, hc2, g0, g2, r5, hX2, txc, qa, q2, q5, q6, ha, aFill, repl]; rfl); (simp [-getElem?_pos]; rfl)) | (apply Dr.imm rfl; (simp (disch := omega) [-getElem?_pos, hv0, hrow2, hc1, hc2, g0, g2, r5, hX2, txc, qa, q2, q5, q6, ha, aFill, repl]; rfl); (focus first | (simp [-getElem?_pos]; done) | (simp [-getElem?_pos]; omega))))); exact Dr.nil; rfl; (simp (disch := omega) [-getElem?_pos, hv0, hrow2, hc1, hc2, g0, g2, r5, hX2, txc, qa, q2, q5, q6, ha, aFill, repl]); (simp [-getElem?_pos]; rfl))))
           exact ⟨(j + 1, va, Ha), rfl, ⟨by show k + 1 + (j + 1) ≤ _; omega, hga, ocs ++ [rc], l ++ [r], hsa, hR.push hRC, by simp [-getElem?_pos]; omega, hown'⟩, by show _ - _ - (j + 1) < _ - _ - j; omega, by simp [-getElem?_pos, hv0, hi]; omega⟩)
        | (have hown' : l = ownB x.client (rows.drop (k + 1)) := by rw [← hown]; simp [-getElem?_pos, ownB, qa, q2]
           obtain ⟨e1, e2⟩ := hend v5 H2 ocs hg2 hs
           repeat (first | apply Wp.seq | apply Wp.blk | apply Wp.ret | apply Wp.skip | apply Wp.exit | apply Wp.cT rfl | apply Wp.cF rfl | ((apply Wp.reg; (repeat (apply Ex.cons; (simp (disch := omega) [-getElem?_pos, hv0, hrow2, hc1, hc2, g0, g2, r5, hX2, txc, qa, q2, q5, q6]; rfl))); exact Ex.nil; rfl; (simp [-getElem?_pos]; rfl))) | ((apply Wp.draw; (repeat (first | ((first | apply Dr.q rfl rfl | apply Dr.r rfl rfl); (simp (disch := omega) [-getElem?_pos, hv0, hrow2, hc1, hc2, g0, g2, r5, hX2, txc, qa, q2, q5, q6]; rfl); (simp [-getElem?_pos]; rfl)) | (apply Dr.imm rfl; (simp (disch := omega) [-getElem?_pos, hv0, hrow2, hc1, hc2, g0, g2, r5, hX2, txc, qa, q2, q5, q6]; rfl); (focus first | (simp [-getElem?_pos]; done) | (simp [-getElem?_pos]; omega))))); exact Dr.nil; rfl; (simp (disch := omega) [-getElem?_pos, hv0, hrow2, hc1, hc2, g0, g2, r5, hX2, txc, qa, q2, q5, q6]); (simp [-getElem?_pos]; rfl))))
           simp [-getElem?_pos, a35]
           exact ⟨e1, ocs, e2, by rw [← hown']; exact hR⟩)
    · intro hjl
      apply Wp.exit
      have hown' : l = ownB x.client (rows.drop (k + 1)) := by rw [← hown, List.drop_of_length_le (by omega)]; simp [-getElem?_pos, ownB]
      obtain ⟨e1, e2⟩ := hend v5 H2 ocs hg2 hs
      repeat (first | apply Wp.seq | apply Wp.blk | apply Wp.ret | apply Wp.skip | apply Wp.exit | apply Wp.cT rfl | apply Wp.cF rfl | ((apply Wp.reg; (repeat (apply Ex.cons; (simp (disch := omega) [-getElem?_pos]; rfl))); exact Ex.nil; rfl; (simp [-getElem?_pos]; rfl))))
      simp [-getElem?_pos, a35]
      exact ⟨e1, ocs, e2, by rw [← hown']; exact hR⟩)
  exact ⟨v', H', ocs, hc, hg, hs, by rw [hod]; exact hR⟩

end Go.Proofs.Ythbjfkkjmecaaaa
