/- Walks: clash and own of the law SerialSwaps. -/
import Derived.Test.YthbjfkkjmecaaaaX40
import Derived.Test.YthbjfkkjmecaaaaX37
import Derived.Test.YthbjfkkjmecaaaaProg
namespace Go.Proofs.Ythbjfkkjmecaaaa
open Go Go.Vm
set_option linter.unusedVariables false
set_option linter.unusedSimpArgs false

variable {kn : Known} {env : Nat → Option AFunc}

variable {H H' H1 : AHeap} {N A B M : Nat} {v v0 ov tv : AVal} {rows l l2 : List RowD} {rcs ocs ocs2 tvs : List (List AVal)} {rc : List AVal} {r : RowD} {x : TxD} {sv rv wv : AVal} {m : Int} {txs : List TxD} {o : Nat → Nat} {order : List Int}

set_option maxHeartbeats 1000000 in
theorem c35 (h : Fn kn env 35 a35) (n : Nat) (hrd : RdE H 41 v0 rcs) (hlies : v0.lies (· < H.next)) (hrc : RowsC rcs rows) {k : Nat} (hk : x.begun = (k : Nat)) (hkl : k < rows.length) (hm : rows.length < 400000000000) (hn : rows.length + 5 < n) (h1 : sv.one = true) (h2 : rv.one = true) (h3 : wv.one = true) :
    ∃ v' H' ocs, callM kn env (n + 1) (.func (.func 35) []) [v0, .agg (txc x sv rv wv)] H = some (v', H') ∧ Grow H H' ∧ SliceE H' H.next 41 v' ocs ∧ RowsC ocs (ownD rows x) := by
  obtain ⟨H1, hH1⟩ : ∃ H1, H1 = H.push (.row [some (0, txc x sv rv wv)]) := ⟨_, rfl⟩
  have hl1 := hrc.1
  have hlen : aLenS v0 = some (vi rows.length) := by rw [← hl1]; exact hrd.lenS
  have hc0 : x.begun + 1 = ((k + 1 : Nat) : Int) := by omega
  have hod : ownD rows x = ownB x.client (rows.drop (k + 1)) := by unfold ownD; rw [hc0]; rfl
  have hg1 : Grow H H1 := by rw [hH1]; exact Grow.push _ _
  have hX1 : H1.rowAt H.next 0 = some (txc x sv rv wv) := by rw [hH1]; simp [-getElem?_pos]
  have hn1 : H1.next = H.next + 1 := by rw [hH1]; simp [-getElem?_pos]
  obtain ⟨v', H', hc, hg, ocs, hs, hR⟩ := Wp.call (R := fun v' H' => Grow H H' ∧ ∃ ocs, SliceE H' H.next 41 v' ocs ∧ RowsC ocs (ownB x.client (rows.drop (k + 1)))) 64 [0, 1, 3, 4, 5, 6, 13, 31, 55] h.e (h.no [v0, .agg (txc x sv rv wv)] H) rfl (by simp [-getElem?_pos]) (n := n) (by
    repeat (first | apply Wp.seq | apply Wp.blk | apply Wp.ret | apply Wp.skip | apply Wp.exit | apply Wp.cT rfl | apply Wp.cF rfl | ((apply Wp.reg; (repeat (apply Ex.cons; (simp (disch := omega) [-getElem?_pos, hk, txc]; rfl))); exact Ex.nil; rfl; (simp [-getElem?_pos]; rfl))))
    have hX0 : H.push (.row [some (0, [vi x.client, vu x.life, vu x.ticket, sv, rv, wv, vi k, vi x.asked, vi x.commit, vu x.pos, vi x.done, vi x.fate])]) = H1 := by rw [hH1]; simp only [txc, hk]
    rw [hX0]
    apply Wp.loop (α := Nat × AVal × AHeap) (fun y => [(0, v0), (3, .ptr H.next 0 0), (5, y.2.1), (6, vi (k + 1 + y.1 : Nat))]) (·.2.2)
      (fun y => k + 1 + y.1 ≤ rows.length ∧ Grow H1 y.2.2 ∧ ∃ ocs l, SliceE y.2.2 H1.next 41 y.2.1 ocs ∧ RowsC ocs l ∧ ocs.length ≤ y.1 ∧ l ++ ownB x.client (rows.drop (k + 1 + y.1)) = ownB x.client (rows.drop (k + 1))) (fun y => rows.length - (k + 1) - y.1)
      (0, ns, H1) rfl ⟨by show k + 1 + 0 ≤ _; omega, Grow.refl _, [], [], SliceE.nil _ _ _, RowsC.nil, by simp [-getElem?_pos], by simp [-getElem?_pos]⟩ (by simp [-getElem?_pos]; omega) (by simp [-getElem?_pos])
    rintro ⟨j, v5, H2⟩ ⟨hj, hg2, ocs, l, hs, hR, hol, hown⟩
    dsimp only at hj hg2 hs hR hol hown ⊢
    have hgH : Grow H H2 := hg1.trans hg2
    have hend : ∀ (v : AVal) (H2 : AHeap) ocs, Grow H1 H2 → SliceE H2 H1.next 41 v ocs → Grow H H2 ∧ SliceE H2 H.next 41 v ocs := fun v H2 ocs hg hs => ⟨hg1.trans hg, hs.move (by omega) (Nat.le_refl _) fun _ _ _ => rfl⟩
    obtain ⟨i, hi⟩ : ∃ i, i = k + 1 + j := ⟨_, rfl⟩
    rw [← hi]
    (repeat (first | apply Wp.seq | apply Wp.blk)); (apply Wp.reg; (repeat (apply Ex.cons; (simp (disch := omega) [-getElem?_pos, hlen]; rfl))); exact Ex.nil; rfl; (simp [-getElem?_pos]; rfl))
    (repeat (first | apply Wp.seq | apply Wp.blk)); apply Wp.ite rfl
    · intro hjl
      obtain ⟨r, hr⟩ : ∃ r, rows[i]? = some r := ⟨_, List.getElem?_eq_getElem (by omega)⟩
      obtain ⟨rc, hrc'⟩ : ∃ rc, rcs[i]? = some rc := ⟨_, List.getElem?_eq_getElem (by omega)⟩
      have hRC := hrc.2 _ rc r hrc' hr
      obtain ⟨R0, ver0, off, kc, ex, cells, hv0, hrow, hc1, hc2⟩ := hrd.at hrc'
      rw [hl1] at hv0
      have hR0 : R0 < H.next := hlies _ _ _ _ _ _ _ hv0
      have hrow2 : H2.rowAt R0 ver0 = some cells := by rw [hgH.rowAt hR0]; exact hrow
      have hX2 : H2.rowAt H.next 0 = some (txc x sv rv wv) := by rw [hg2.rowAt (by omega)]; exact hX1
      have g : ∀ k u, k < 41 → rc[k]? = some u → cells[off + i * 41 + k]? = some u := fun k u hk hu => by
        rw [← hc2, List.getElem?_take, if_pos hk, List.getElem?_drop] at hu; exact hu
      have g0 := g 0 _ (by omega) hRC.a0
      have g2 := g 2 _ (by omega) hRC.a2
      rw [Nat.add_zero] at g0
      have r5 := hRC.len
      rw [← hi, drop_at hr] at hown
      have hi2 : k + 1 + (j + 1) = i + 1 := by omega
      have hstep : ∀ l', l' ++ ownB x.client (rows.drop (i + 1)) = ownB x.client (rows.drop (k + 1)) → l' ++ ownB x.client (rows.drop (k + 1 + (j + 1))) = ownB x.client (rows.drop (k + 1)) := fun l' q => by rw [hi2]; exact q
      have hcast : vi ((k + 1 + (j + 1) : Nat) : Int) = vi ((i : Int) + 1) := by rw [hi2]; simp [-getElem?_pos]
      obtain ⟨va, Ha, ha, hsa, hna, hka, _⟩ := (hs.move (Nat.le_refl _) (Nat.le_succ _) (H' := H2.push (.row [some (0, rc)])) fun A _ hA => AHeap.get_push_ne _ _ (by omega)).append (bytes := 120) (by have := hg2.next; simp [-getElem?_pos]; omega) (X := H2.next) (e := rc) (by simp [-getElem?_pos]) r5 (by omega) (by omega) hRC.one (by omega) (ex := true) (kc := 1)
      have hga : Grow H1 Ha := ⟨by have := hg2.next; simp [-getElem?_pos] at hna; omega, fun A hA => by have := hg2.next; rw [hka A hA, AHeap.get_push_ne _ _ (by omega), hg2.get A hA]⟩
      apply Wp.skip
      by_cases qa : r.actor = x.client <;> by_cases q2 : r.kind = 2 <;> by_cases q5 : r.kind = 5 <;> by_cases q6 : r.kind = 6
      all_goals try omega
      all_goals first
        | (have hown' := hstep l (by rw [← hown]; simp [-getElem?_pos, ownB, qa, q2, q5, q6])
           repeat (first | apply Wp.seq | apply Wp.blk | apply Wp.ret | apply Wp.skip | apply Wp.exit | apply Wp.cT rfl | apply Wp.cF rfl | ((apply Wp.reg; (repeat (apply Ex.cons; (simp (disch := omega) [-getElem?_pos, hv0, hrow2, hc1, hc2, g0, g2, r5, hX2, txc, qa, q2, q5, q6]; rfl))); exact Ex.nil; rfl; (simp [-getElem?_pos]; rfl))) | ((apply Wp.draw; (repeat (first | ((first | apply Dr.q rfl rfl | apply Dr.r rfl rfl); (simp (disch := omega) [-getElem?_pos, hv0, hrow2, hc1, hc2, g0, g2, r5, hX2, txc, qa, q2, q5, q6]; rfl); (simp [-getElem?_pos]; rfl)) | (apply Dr.imm rfl; (simp (disch := omega) [-getElem?_pos, hv0, hrow2, hc1, hc2, g0, g2, r5, hX2, txc, qa, q2, q5, q6]; rfl); (focus first | (simp [-getElem?_pos]; done) | (simp [-getElem?_pos]; omega))))); exact Dr.nil; rfl; (simp (disch := omega) [-getElem?_pos, hv0, hrow2, hc1, hc2, g0, g2, r5, hX2, txc, qa, q2, q5, q6]); (simp [-getElem?_pos]; rfl))))
           exact ⟨(j + 1, v5, H2), rfl, ⟨by show k + 1 + (j + 1) ≤ _; omega, hg2, ocs, l, hs, hR, by show _ ≤ j + 1; omega, hown'⟩, by show _ - _ - (j + 1) < _ - _ - j; omega, by simp [-getElem?_pos, hv0, hi]; omega⟩)
        | (have hown' := hstep (l ++ [r]) (by rw [← hown]; simp [-getElem?_pos, ownB, qa, q2, q5, q6])
           repeat (first | apply Wp.seq | apply Wp.blk | apply Wp.ret | apply Wp.skip | apply Wp.exit | apply Wp.cT rfl | apply Wp.cF rfl | ((apply Wp.reg; (repeat (apply Ex.cons; (simp (disch := omega) [-getElem?_pos, hv0, hrow2, hc1, hc2, g0, g2, r5, hX2, txc, qa, q2, q5, q6, ha, aFill, repl]; rfl))); exact Ex.nil; rfl; (simp [-getElem?_pos]; rfl))) | ((apply Wp.draw; (repeat (first | ((first | apply Dr.q rfl rfl | apply Dr.r rfl rfl); (simp (disch := omega) [-getElem?_pos, hv0, hrow2, hc1, hc2, g0, g2, r5, hX2, txc, qa, q2, q5, q6, ha, aFill, repl]; rfl); (simp [-getElem?_pos]; rfl)) | (apply Dr.imm rfl; (simp (disch := omega) [-getElem?_pos, hv0, hrow2, hc1, hc2, g0, g2, r5, hX2, txc, qa, q2, q5, q6, ha, aFill, repl]; rfl); (focus first | (simp [-getElem?_pos]; done) | (simp [-getElem?_pos]; omega))))); exact Dr.nil; rfl; (simp (disch := omega) [-getElem?_pos, hv0, hrow2, hc1, hc2, g0, g2, r5, hX2, txc, qa, q2, q5, q6, ha, aFill, repl]); (simp [-getElem?_pos]; rfl))))
           exact ⟨(j + 1, va, Ha), rfl, ⟨by show k + 1 + (j + 1) ≤ _; omega, hga, ocs ++ [rc], l ++ [r], hsa, hR.push hRC, by simp [-getElem?_pos]; omega, hown'⟩, by show _ - _ - (j + 1) < _ - _ - j; omega, by simp [-getElem?_pos, hv0, hi]; omega⟩)
        | (have hown' : l = ownB x.client (rows.drop (k + 1)) := by rw [← hown]; simp [-getElem?_pos, ownB, qa, q2]
           obtain ⟨e1, e2⟩ := hend v5 H2 ocs hg2 hs
           repeat (first | apply Wp.seq | apply Wp.blk | apply Wp.ret | apply Wp.skip | apply Wp.exit | apply Wp.cT rfl | apply Wp.cF rfl | ((apply Wp.reg; (repeat (apply Ex.cons; (simp (disch := omega) [-getElem?_pos, hv0, hrow2, hc1, hc2, g0, g2, r5, hX2, txc, qa, q2, q5, q6]; rfl))); exact Ex.nil; rfl; (simp [-getElem?_pos]; rfl))) | ((apply Wp.draw; (repeat (first | ((first | apply Dr.q rfl rfl | apply Dr.r rfl rfl); (simp (disch := omega) [-getElem?_pos, hv0, hrow2, hc1, hc2, g0, g2, r5, hX2, txc, qa, q2, q5, q6]; rfl); (simp [-getElem?_pos]; rfl)) | (apply Dr.imm rfl; (simp (disch := omega) [-getElem?_pos, hv0, hrow2, hc1, hc2, g0, g2, r5, hX2, txc, qa, q2, q5, q6]; rfl); (focus first | (simp [-getElem?_pos]; done) | (simp [-getElem?_pos]; omega))))); exact Dr.nil; rfl; (simp (disch := omega) [-getElem?_pos, hv0, hrow2, hc1, hc2, g0, g2, r5, hX2, txc, qa, q2, q5, q6]); (simp [-getElem?_pos]; rfl))))
           simp [-getElem?_pos, a35]
           exact ⟨e1, ocs, e2, by rw [← hown']; exact hR⟩)
    · intro hjl
      apply Wp.exit
      have hown' : l = ownB x.client (rows.drop (k + 1)) := by rw [← hown, List.drop_of_length_le (by omega)]; simp [-getElem?_pos, ownB]
      obtain ⟨e1, e2⟩ := hend v5 H2 ocs hg2 hs
      repeat (first | apply Wp.seq | apply Wp.blk | apply Wp.ret | apply Wp.skip | apply Wp.exit | apply Wp.cT rfl | apply Wp.cF rfl | ((apply Wp.reg; (repeat (apply Ex.cons; (simp (disch := omega) [-getElem?_pos]; rfl))); exact Ex.nil; rfl; (simp [-getElem?_pos]; rfl))))
      simp [-getElem?_pos, a35]
      exact ⟨e1, ocs, e2, by rw [← hown']; exact hR⟩)
  exact ⟨v', H', ocs, hc, hg, hs, by rw [hod]; exact hR⟩

end Go.Proofs.Ythbjfkkjmecaaaa
namespace Go.Proofs.Ythbjfkkjmecaaaa
open Go Go.Vm
set_option maxRecDepth 20000

/-- wicket/serial.Alone -/
def a39 : AFunc := ⟨(.seq (.region [qq 4 (.move (.c ns)) [], qr 5 (.move (.c ns)) [0] [] .quiet, qr 6 (.move ci) [1] [] .quiet]) (.seq (.seq (.region [qq 17 (mv 0) [0], qr 18 (.call (.c (.func (.func 61) [])) [(.t 17)]) [0] [17] .any, qr 19 (.un .not (.t 18)) [1] [18] .quiet]) (.cond (.t 19) (.seq (.region [qq 4 (.move (.c ns)) [], qr 5 (.move (.c ns)) [0,0] [] .quiet, qr 6 (.move (.c (ki 2))) [1,0,1] [] .quiet]) .ret) .skip)) (.seq (.seq (.region [qq 20 (mv 1) [1], qr 21 (.len 1 (.t 20)) [0] [20] .quiet, qq 22 (.move ci) []]) (.block 0 (.loop (.seq (.region [qq 23 (.bin .lss (.t 22) (.t 21)) [22,21]]) (.seq (.cond (.t 23) .skip (.exit 0)) (.seq (.block 1 (.seq (.region [qq 24 (.idxAddrS 1 (.t 20) (.t 22)) [20,22], qr 25 (.load false 1 (.t 24)) [0] [24] .quiet, qr 8 (mv 25) [1,0,1] [25] .quiet]) (.seq (.region [qq 26 (mv 8) [8], qr 27 (.len 1 (.t 26)) [0] [26] .quiet, qq 28 (.move ci) []]) (.block 2 (.loop (.seq (.region [qq 29 (.bin .lss (.t 28) (.t 27)) [28,27]]) (.seq (.cond (.t 29) .skip (.exit 2)) (.seq (.block 3 (.seq (.region [qq 30 (.idxAddrS 35 (.t 26) (.t 28)) [26,28], qr 31 (.load true 35 (.t 30)) [0] [30] .quiet, qr 10 (.alloc [zi, ns, zi, zb, zb, zb, zb, zb, zb, zb, zb, zb, zb, zb, zb, zb, zb, zb, zb, zb, zb, zb, zb, zb, zb, zb, zb, zb, zb, zb, zb, zb, zb, zb, zb]) [] [] .makes, ⟨none, (.store 35 (.t 10) (.t 31)), none, [2, 1, 0, 1, 2], [10, 31], .any⟩]) (.seq (.region [qq 32 (.ptrAdd 0 (.t 10)) [10], qr 33 (.load false 1 (.t 32)) [0] [32] .quiet, qr 34 (.bin .neq (.t 33) (.c (ki 2))) [1] [33] .quiet, qr 35 (mv 34) [2] [34] .quiet, ⟨(some 36), (.ptrAdd 0 (.t 10)), (some (35, true)), [3], [10], .quiet⟩, ⟨(some 37), (.load false 1 (.t 36)), (some (35, true)), [4, 3], [36], .quiet⟩, ⟨(some 38), (.bin .neq (.t 37) (.c (ki 3))), (some (35, true)), [5, 3], [37], .quiet⟩, qr 39 (.pick (.t 35) (.t 38) (.c (.raw (.bool false)))) [3,6] [35,38] .quiet, qr 40 (mv 39) [7,3] [39] .quiet, ⟨(some 41), (.ptrAdd 2 (.t 10)), (some (40, false)), [8], [10], .quiet⟩, ⟨(some 42), (.load false 1 (.t 41)), (some (40, false)), [9, 8], [41], .quiet⟩, ⟨(some 43), (.bin .lss (.t 42) ci), (some (40, false)), [10, 8], [42], .quiet⟩, qr 44 (.pick (.t 40) (.c (.raw (.bool true))) (.t 43)) [8,11] [40,43] .quiet, qr 45 (mv 44) [12,8] [44] .quiet, ⟨(some 46), (.ptrAdd 2 (.t 10)), (some (45, false)), [13], [10], .quiet⟩, ⟨(some 47), (.load false 1 (.t 46)), (some (45, false)), [14, 13], [46], .quiet⟩, gm 48 (mv 0) 45 false [13] [0], ⟨(some 49), (.bin .geq (.t 47) (.t 48)), (some (45, false)), [15, 16, 13], [47, 48], .quiet⟩, qr 50 (.pick (.t 45) (.c (.raw (.bool true))) (.t 49)) [13,17] [45,49] .quiet]) (.cond (.t 50) (.seq (.region [qq 4 (.move (.c ns)) [], qr 5 (.move (.c ns)) [0,0] [] .quiet, qr 6 (.move (.c (ki 2))) [1,0,1] [] .quiet]) .ret) .skip)))) (.region [qq 51 (.bin .add (.t 28) (.c (ki 1))) [28], qr 28 (mv 51) [0] [51] .quiet]))))))))) (.region [qq 52 (.bin .add (.t 22) (.c (ki 1))) [22], qr 22 (mv 52) [0] [52] .quiet]))))))) (.seq (.region [qr 11 (.alloc (List.replicate 2048 zb)) [] [] .makes]) (.seq (.seq (.region [qq 53 (mv 1) [1], qr 54 (.len 1 (.t 53)) [0] [53] .quiet, qq 55 (.move ci) []]) (.block 4 (.loop (.seq (.region [qq 56 (.bin .lss (.t 55) (.t 54)) [55,54]]) (.seq (.cond (.t 56) .skip (.exit 4)) (.seq (.block 5 (.seq (.region [qq 57 (.idxAddrS 1 (.t 53) (.t 55)) [53,55], qr 58 (.load false 1 (.t 57)) [0] [57] .quiet, qr 13 (mv 58) [1,0,1] [58] .quiet]) (.seq (.region [qq 14 (.move (.c ns)) []]) (.seq (.seq (.region [qq 59 (mv 13) [13], qr 60 (.len 1 (.t 59)) [0] [59] .quiet, qq 61 (.move ci) []]) (.block 6 (.loop (.seq (.region [qq 62 (.bin .lss (.t 61) (.t 60)) [61,60]]) (.seq (.cond (.t 62) .skip (.exit 6)) (.seq (.block 7 (.seq (.region [qq 63 (.idxAddrS 35 (.t 59) (.t 61)) [59,61], qr 64 (.load true 35 (.t 63)) [0] [63] .quiet, qr 16 (.alloc [zi, ns, zi, zb, zb, zb, zb, zb, zb, zb, zb, zb, zb, zb, zb, zb, zb, zb, zb, zb, zb, zb, zb, zb, zb, zb, zb, zb, zb, zb, zb, zb, zb, zb, zb]) [] [] .makes, ⟨none, (.store 35 (.t 16) (.t 64)), none, [2, 1, 0, 1, 2], [16, 64], .any⟩]) (.seq (.region [qq 65 (.ptrAdd 0 (.t 16)) [16], qr 66 (.load false 1 (.t 65)) [0] [65] .quiet, qr 67 (.bin .eql (.t 66) (.c (ki 3))) [1] [66] .quiet]) (.cond (.t 67) (.region [qq 68 (.ptrAdd 2 (.t 16)) [16], qr 69 (.load false 1 (.t 68)) [0] [68] .quiet, qq 70 (.ptrAdd 3 (.t 16)) [16], qr 71 (.load true 32 (.t 70)) [2] [70] .quiet, qr 72 (.idxAddrA 64 32 (.t 11) (.t 69)) [1,0,1,2,3] [11,69] .quiet, ⟨none, (.store 32 (.t 72) (.t 71)), none, [4, 3, 0, 1, 2, 3], [72, 71], .any⟩]) (.region [qq 73 (mv 14) [14], qq 74 (.ptrAdd 2 (.t 16)) [16], qr 75 (.load false 1 (.t 74)) [1] [74] .quiet, qr 76 (.idxAddrA 64 32 (.t 11) (.t 75)) [2] [11,75] .quiet, qr 77 (.load true 32 (.t 76)) [3] [76] .quiet, qr 78 (.buildSlice 1 32 [zb, zb, zb, zb, zb, zb, zb, zb, zb, zb, zb, zb, zb, zb, zb, zb, zb, zb, zb, zb, zb, zb, zb, zb, zb, zb, zb, zb, zb, zb, zb, zb] [(0, 32, (.t 77))]) [4] [77] .makes, qr 79 (.append 32 32 (.t 73) (.t 78)) [0,5] [73,78] .any, qr 14 (mv 79) [6,6,0,1,2,3,4,5,6] [79] .quiet]))))) (.region [qq 80 (.bin .add (.t 61) (.c (ki 1))) [61], qr 61 (mv 80) [0] [80] .quiet]))))))) (.region [qq 81 (mv 4) [4], qq 82 (mv 14) [14], qr 83 (.buildSlice 1 1 [ns] [(0, 1, (.t 82))]) [1] [82] .makes, qr 84 (.append 1 24 (.t 81) (.t 83)) [0,2] [81,83] .any, qr 4 (mv 84) [3,3,0,1,2,3] [84] .quiet]))))) (.region [qq 85 (.bin .add (.t 55) (.c (ki 1))) [55], qr 55 (mv 85) [0] [85] .quiet]))))))) (.seq (.region [qq 86 (mv 4) [4], qq 87 (mv 0) [0], qr 88 (.sliceA 64 32 (.t 11) none (some (.t 87)) none) [1] [11,87] .quiet, qr 89 (.call (.c (.func (.func 66) [])) [(.t 88)]) [2] [88] .any, qr 4 (mv 86) [0,3,0] [86] .quiet, qr 5 (mv 89) [3,4,0,1,2,3,4] [89] .quiet, qr 6 (.move ci) [5,0,1,2,3,4,5] [] .quiet]) .ret)))))), 90, [.tmp 4, .tmp 5, .tmp 6]⟩
theorem e39 : envP Try.prog 39 = some a39 := by kernel_rfl

end Go.Proofs.Ythbjfkkjmecaaaa
namespace Go.Proofs.Ythbjfkkjmecaaaa
open Go Go.Vm
set_option linter.unusedVariables false
set_option linter.unusedSimpArgs false

variable {kn : Known} {env : Nat → Option AFunc}

variable {H H' H1 : AHeap} {N A B M esz : Nat} {v v0 v1 ov tv a0 : AVal} {avs : List AVal} {ls : List (List (List AVal))} {l : List (List AVal)} {m : Int}

/-! ### Plain -/

structure OpD where
  kind : Int
  blk : Int
  val : List AVal
def OpD.cells (o : OpD) : List AVal := vi o.kind :: anil :: vi o.blk :: o.val

structure OkOp (m : Int) (o : OpD) : Prop where
  kind : o.kind = 2 ∨ o.kind = 3
  lo : 0 ≤ o.blk
  hi : o.blk < m
  val : IsVal o.val

def doOp (st : MapD × List (List AVal)) (o : OpD) : MapD × List (List AVal) := if o.kind = 3 then (st.1.set o.blk.toNat o.val, st.2) else (st.1, st.2 ++ [atM st.1 o.blk])
def aloneD (st : MapD × List (List (List AVal))) (ops : List OpD) : MapD × List (List (List AVal)) := ((ops.foldl doOp (st.1, [])).1, st.2 ++ [(ops.foldl doOp (st.1, [])).2])

theorem OpD.len35 {o : OpD} (h : IsVal o.val) : o.cells.length = 35 ∧ o.cells.all AVal.one = true := ⟨by simp [-getElem?_pos, OpD.cells, h.len], by simp only [OpD.cells, List.all_cons, h.one, Bool.and_true]; rfl⟩

/-! ### Lists of lists -/

/-- A list of lists, read. -/
structure LR (H : AHeap) (N esz : Nat) (v : AVal) (avs : List AVal) (ls : List (List (List AVal))) : Prop where
  rd : RdE H 1 v (avs.map fun a => [a])
  lies : v.lies (· < N)
  len : avs.length = ls.length
  at_ : ∀ (i : Nat) a l, avs[i]? = some a → ls[i]? = some l → RdE H esz a l ∧ a.lies (· < N)

/-- A list of lists that is grown. -/
structure LL (H : AHeap) (N esz : Nat) (v : AVal) (avs : List AVal) (ls : List (List (List AVal))) : Prop where
  rd : SliceE H N 1 v (avs.map fun a => [a])
  len : avs.length = ls.length
  at_ : ∀ (i : Nat) a l, avs[i]? = some a → ls[i]? = some l → SliceE H N esz a l
  sep : ∀ a ∈ avs, a.lies fun R => v.lies (· ≠ R)

theorem lies_mono {p q : Nat → Prop} (h : v.lies p) (hpq : ∀ R, p R → q R) : v.lies q := fun R a1 a2 a3 a4 a5 a6 e => hpq R (h R a1 a2 a3 a4 a5 a6 e)

theorem LR.grow (h : LR H N esz v avs ls) (hN : N ≤ H.next) (hg : Grow H H') : LR H' N esz v avs ls :=
  ⟨h.rd.grow hg (lies_mono h.lies fun R hR => Nat.lt_of_lt_of_le hR hN), h.lies, h.len, fun i a l ha hl => ⟨(h.at_ i a l ha hl).1.grow hg (lies_mono (h.at_ i a l ha hl).2 fun R hR => Nat.lt_of_lt_of_le hR hN), (h.at_ i a l ha hl).2⟩⟩

theorem LL.lr (h : LL H N esz v avs ls) : LR H H.next esz v avs ls :=
  ⟨h.rd.rd, lies_mono h.rd.lies fun R hR => hR.2, h.len, fun i a l ha hl => ⟨(h.at_ i a l ha hl).rd, lies_mono (h.at_ i a l ha hl).lies fun R hR => hR.2⟩⟩

theorem LL.nil (H : AHeap) (N esz : Nat) : LL H N esz anil [] [] := ⟨SliceE.nil _ _ _, rfl, fun i a l h => by simp [-getElem?_pos] at h, fun a h => by simp [-getElem?_pos] at h⟩

theorem LL.move {N' : Nat} (h : LL H N esz v avs ls) (hb : N' ≤ N) (hn : H.next ≤ H'.next) (hg : ∀ A, N ≤ A → A < H.next → H'.get A = H.get A) : LL H' N' esz v avs ls :=
  ⟨h.rd.move hb hn hg, h.len, fun i a l ha hl => (h.at_ i a l ha hl).move hb hn hg, h.sep⟩

theorem slice_keep {es : List (List AVal)} (h : SliceE H N esz v es) (hn : H.next ≤ H'.next) (hg : v.lies fun R => H'.get R = H.get R) : SliceE H' N esz v es := by
  rcases h with ⟨h0, h | ⟨R, ver, vs, h1, h2, h3, h4, h5⟩⟩
  · exact ⟨h0, .inl h⟩
  · exact ⟨h0, .inr ⟨R, ver, vs, h1, by omega, h3, by rw [hg _ _ _ _ _ _ _ h3]; exact h4, h5⟩⟩

/-- One more list. -/
theorem LL.push {Hi H2 : AHeap} (h : LL Hi N esz v avs ls) (hN : N ≤ Hi.next) (hn : Hi.next ≤ H2.next) (hg : ∀ A, N ≤ A → A < Hi.next → H2.get A = Hi.get A) (ha : SliceE H2 Hi.next esz a0 l) (hlen : (avs.length + 1) * 24 ≤ 140737488355328) :
    ∃ v' H3, aAppend (H2.push (.row [some (0, [a0])])) 1 24 v (.slice H2.next 0 0 1 1 true 1) = some (v', H3) ∧ LL H3 N esz v' (avs ++ [a0]) (ls ++ [l]) ∧ H2.next ≤ H3.next ∧ ∀ A, A < N → H3.get A = H2.get A := by
  have hp : ∀ A, A < H2.next → (H2.push (.row [some (0, [a0])])).get A = H2.get A := fun A hA => AHeap.get_push_ne _ _ (by omega)
  have hnp : (H2.push (.row [some (0, [a0])])).next = H2.next + 1 := by simp [-getElem?_pos]
  have h1 : SliceE (H2.push (.row [some (0, [a0])])) N 1 v (avs.map fun a => [a]) := h.rd.move (Nat.le_refl _) (by omega) fun A a b => by rw [hp A (by omega)]; exact hg A a b
  have hone : a0.one = true := ha.rd.one
  obtain ⟨v', H3, e1, e2, e3, e4, e5, e6⟩ := h1.append (bytes := 24) (by omega) (X := H2.next) (e := [a0]) (by simp [-getElem?_pos]) rfl (by omega) (by omega) (by simp [-getElem?_pos, hone]) (by rw [List.length_map]; exact hlen) (ex := true) (kc := 1)
  have hvl : v.lies (· < Hi.next) := lies_mono h.rd.lies fun R hR => hR.2
  have hsa : ∀ a ∈ avs, a.lies fun R => R < Hi.next := fun a ha => by
    obtain ⟨i, hi⟩ := List.mem_iff_getElem?.1 ha
    have hi2 := (List.getElem?_eq_some_iff.1 hi).1
    exact lies_mono (h.at_ i a _ hi (List.getElem?_eq_getElem (by rw [← h.len]; exact hi2))).lies fun R hR => hR.2
  refine ⟨v', H3, e1, ⟨by rw [List.map_append]; exact e2, by simp [-getElem?_pos, h.len], fun i a k hi hk => ?_, fun a ha' => ?_⟩, by omega, fun A hA => by rw [e4 A hA, hp A (by omega)]⟩
  · rcases Nat.lt_or_ge i avs.length with hlt | hge
    · rw [List.getElem?_append_left hlt] at hi
      rw [List.getElem?_append_left (by rw [← h.len]; exact hlt)] at hk
      have hs := h.at_ i a k hi hk
      refine slice_keep hs (by omega) fun R a1 a2 a3 a4 a5 a6 e => ?_
      have hR := hs.lies R a1 a2 a3 a4 a5 a6 e
      have hsp := h.sep a (List.mem_of_getElem? hi) R a1 a2 a3 a4 a5 a6 e
      show H3.get R = Hi.get R
      rw [e5 R (by omega) hsp, hp R (by omega), hg R hR.1 hR.2]
    · have hi2 := (List.getElem?_eq_some_iff.1 hi).1
      simp [-getElem?_pos] at hi2
      have hie : i = avs.length := by omega
      subst hie
      rw [List.getElem?_concat_length] at hi
      rw [h.len, List.getElem?_concat_length] at hk
      cases hi; cases hk
      have hs : SliceE H2 N esz a0 l := ha.move hN (Nat.le_refl _) fun _ _ _ => rfl
      refine slice_keep hs (by omega) fun R a1 a2 a3 a4 a5 a6 e => ?_
      have hR := ha.lies R a1 a2 a3 a4 a5 a6 e
      show H3.get R = H2.get R
      rw [e5 R (by omega) (lies_mono hvl fun R' hR' => by omega), hp R (by omega)]
  · refine fun R a1 a2 a3 a4 a5 a6 e => ?_
    rcases List.mem_append.1 ha' with h' | h'
    · have hR := hsa a h' R a1 a2 a3 a4 a5 a6 e
      exact e6 (· ≠ R) (h.sep a h' R a1 a2 a3 a4 a5 a6 e) fun R' hR' => by omega
    · simp [-getElem?_pos] at h'; subst h'
      have hR := ha.lies R a1 a2 a3 a4 a5 a6 e
      exact e6 (· ≠ R) (lies_mono hvl fun R' hR' => by omega) fun R' hR' => by omega

/-! ### The first look -/

abbrev C39 : List Nat := [0, 1, 4, 5, 6, 8, 10, 11, 13, 14, 16, 19, 20, 21, 22, 23, 26, 27, 28, 29, 50, 53, 54, 55, 56, 59, 60, 61, 62, 67]
abbrev zop : List AVal := [zi, ns, zi, zb, zb, zb, zb, zb, zb, zb, zb, zb, zb, zb, zb, zb, zb, zb, zb, zb, zb, zb, zb, zb, zb, zb, zb, zb, zb, zb, zb, zb, zb, zb, zb]

abbrev opsC (txs : List (List OpD)) : List (List (List AVal)) := txs.map fun t => t.map OpD.cells

set_option maxHeartbeats 1000000 in
theorem alCheck {or : Oracle} {n : Nat} {Q : Exit → KS → Prop} {H0 : AHeap} {txs : List (List OpD)} (h : LR H0 H0.next 35 v1 avs (opsC txs)) (hok : ∀ t ∈ txs, ∀ o ∈ t, OkOp m o) (hm : m ≤ 64) (hn : txs.length < n) (hn2 : ∀ t ∈ txs, t.length < n) (hl : txs.length < 400000000000) (hl2 : ∀ t ∈ txs, t.length < 400000000000)
    (hQ : ∀ l' H', SubK [(0, vi m), (1, v1), (4, ns)] l' → Grow H0 H' → Q (.exit 0) (l', H')) :
    Wp or n 90 C39 (fstC (sndC (fstC (sndC (sndC (a39.code)))))) ([(0, vi m), (1, v1), (4, ns), (20, v1), (21, vi txs.length), (22, vi 0)], H0) Q := by
  apply Wp.loop (α := Nat × AHeap) (fun y => [(0, vi m), (1, v1), (4, ns), (20, v1), (21, vi txs.length), (22, vi y.1)]) (·.2) (fun y => y.1 ≤ txs.length ∧ Grow H0 y.2) (fun y => txs.length - y.1) (0, H0) rfl ⟨by omega, Grow.refl _⟩ (by simp [-getElem?_pos]; omega) (by simp [-getElem?_pos])
  rintro ⟨i, H2⟩ ⟨hi, hg2⟩
  dsimp only at hi hg2 ⊢
  (repeat (first | apply Wp.seq | apply Wp.blk)); (apply Wp.reg; (repeat (apply Ex.cons; (simp (disch := omega) [-getElem?_pos]; rfl))); exact Ex.nil; rfl; (simp [-getElem?_pos]; rfl))
  (repeat (first | apply Wp.seq | apply Wp.blk)); apply Wp.ite rfl
  · intro hil
    obtain ⟨t, ht⟩ : ∃ t, txs[i]? = some t := ⟨_, List.getElem?_eq_getElem (by omega)⟩
    have hal : avs.length = txs.length := by rw [h.len, List.length_map]
    obtain ⟨a, ha⟩ : ∃ a, avs[i]? = some a := ⟨_, List.getElem?_eq_getElem (by omega)⟩
    obtain ⟨hra, hla⟩ := h.at_ i a _ ha (by rw [List.getElem?_map, ht]; rfl)
    have htn := hn2 t (List.mem_of_getElem? ht)
    have htl := hl2 t (List.mem_of_getElem? ht)
    have hlen : aLenS a = some (vi t.length) := by have := hra.lenS; rw [List.length_map] at this; exact this
    obtain ⟨R0, ver0, off, kc, ex, cells, hv, hrow, hc1, hc2⟩ := h.rd.at (i := i) (e := [a]) (by rw [List.getElem?_map, ha]; rfl)
    simp only [List.length_map] at hv
    rw [hal] at hv
    have hR0 := h.lies _ _ _ _ _ _ _ hv
    have hrow2 : H2.rowAt R0 ver0 = some cells := by rw [hg2.rowAt hR0]; exact hrow
    rw [Nat.mul_one] at hc1 hc2
    have hc3 : cells[off + i]? = some a := by
      have : (List.take 1 (List.drop (off + i) cells))[0]? = some a := by rw [hc2]; rfl
      rw [List.getElem?_take, if_pos (by omega), List.getElem?_drop] at this
      exact this
    apply Wp.skip
    repeat (first | apply Wp.seq | apply Wp.blk | apply Wp.ret | apply Wp.skip | apply Wp.exit | apply Wp.cT rfl | apply Wp.cF rfl | ((apply Wp.reg; (repeat (apply Ex.cons; (simp (disch := omega) [-getElem?_pos, hv, hrow2, hc3, hlen]; rfl))); exact Ex.nil; rfl; (simp [-getElem?_pos]; rfl))))
    apply Wp.loop (α := Nat × AHeap) (fun y => [(0, vi m), (1, v1), (4, ns), (20, v1), (21, vi txs.length), (22, vi i), (26, a), (27, vi t.length), (28, vi y.1)]) (·.2) (fun y => y.1 ≤ t.length ∧ Grow H0 y.2) (fun y => t.length - y.1) (0, H2) rfl ⟨by omega, hg2⟩ (by simp [-getElem?_pos]; omega) (by simp [-getElem?_pos, hv])
    rintro ⟨k, H3⟩ ⟨hk, hg3⟩
    dsimp only at hk hg3 ⊢
    (repeat (first | apply Wp.seq | apply Wp.blk)); (apply Wp.reg; (repeat (apply Ex.cons; (simp (disch := omega) [-getElem?_pos]; rfl))); exact Ex.nil; rfl; (simp [-getElem?_pos]; rfl))
    (repeat (first | apply Wp.seq | apply Wp.blk)); apply Wp.ite rfl
    · intro hkl
      obtain ⟨o, ho⟩ : ∃ o, t[k]? = some o := ⟨_, List.getElem?_eq_getElem (by omega)⟩
      have hoo := hok t (List.mem_of_getElem? ht) o (List.mem_of_getElem? ho)
      obtain ⟨z1, z2⟩ := OpD.len35 hoo.val
      obtain ⟨R1, ver1, off1, kc1, ex1, cells1, hv1, hrow1, hd1, hd2⟩ := hra.at (i := k) (e := o.cells) (by rw [List.getElem?_map, ho]; rfl)
      simp only [List.length_map] at hv1
      have hR1 := hla _ _ _ _ _ _ _ hv1
      have hrow12 : H3.rowAt R1 ver1 = some cells1 := by rw [hg3.rowAt hR1]; exact hrow1
      obtain ⟨H4, hw4, hg4, hc4, hn4⟩ := newCells H3 (z := zop) (e := o.cells) (by rw [z1]; rfl) (by omega) z2
      have hX := hc4.at
      have q0 : o.cells[0]? = some (vi o.kind) := rfl
      have q2 : o.cells[2]? = some (vi o.blk) := rfl
      have k2 := hoo.lo
      have k3 := hoo.hi
      apply Wp.skip
      rcases hoo.kind with hk2 | hk3
      · rw [hk2] at q0
        repeat (first | apply Wp.seq | apply Wp.blk | apply Wp.ret | apply Wp.skip | apply Wp.exit | apply Wp.cT rfl | apply Wp.cF rfl | ((apply Wp.reg; (repeat (apply Ex.cons; (simp (disch := omega) [-getElem?_pos, hv1, hrow12, hd1, hd2, hw4, hX, z1, q0, q2]; rfl))); exact Ex.nil; rfl; (simp [-getElem?_pos]; rfl))))
        exact ⟨(k + 1, H4), rfl, ⟨by show k + 1 ≤ _; omega, hg3.trans hg4⟩, by show _ - (k + 1) < _ - k; omega, by simp [-getElem?_pos, hv1, hv]⟩
      · rw [hk3] at q0
        repeat (first | apply Wp.seq | apply Wp.blk | apply Wp.ret | apply Wp.skip | apply Wp.exit | apply Wp.cT rfl | apply Wp.cF rfl | ((apply Wp.reg; (repeat (apply Ex.cons; (simp (disch := omega) [-getElem?_pos, hv1, hrow12, hd1, hd2, hw4, hX, z1, q0, q2]; rfl))); exact Ex.nil; rfl; (simp [-getElem?_pos]; rfl))))
        exact ⟨(k + 1, H4), rfl, ⟨by show k + 1 ≤ _; omega, hg3.trans hg4⟩, by show _ - (k + 1) < _ - k; omega, by simp [-getElem?_pos, hv1, hv]⟩
    · intro hkl
      apply Wp.exit
      repeat (first | apply Wp.seq | apply Wp.blk | apply Wp.ret | apply Wp.skip | apply Wp.exit | apply Wp.cT rfl | apply Wp.cF rfl | ((apply Wp.reg; (repeat (apply Ex.cons; (simp (disch := omega) [-getElem?_pos]; rfl))); exact Ex.nil; rfl; (simp [-getElem?_pos]; rfl))))
      exact ⟨(i + 1, H3), rfl, ⟨by show i + 1 ≤ _; omega, hg3⟩, by show _ - (i + 1) < _ - i; omega, by simp [-getElem?_pos, hv]⟩
  · intro hil
    apply Wp.exit
    exact hQ _ _ (by simp [-getElem?_pos]) hg2

end Go.Proofs.Ythbjfkkjmecaaaa
