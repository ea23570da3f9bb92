/- Walks: By, the rows of one transaction. -/
import Derived.Test.YthbjfkkjmecaaaaT39
set_option linter.unusedVariables false
set_option linter.unusedSimpArgs false
namespace Go.Proofs.Ythbjfkkjmecaaaa
open Go Go.Vm
variable {kn : Known} {env : Nat → Option AFunc}
variable {H H' H1 : AHeap} {N A B M : Nat} {v v0 : AVal} {rows l : List RowD} {rcs ocs : List (List AVal)} {rc : List AVal} {r : RowD} {x : TxD} {sv rv wv : AVal} {m : Int}
abbrev C30 : List Nat := [0, 1, 2, 4, 6, 7, 8, 9, 10, 11, 13, 15, 16, 17, 19, 20, 21, 23, 26, 34, 38, 39, 40, 41, 60, 74, 78, 79, 80, 81, 87, 88, 89, 90, 95, 111]
abbrev by8 : ACode := sndC (sndC (sndC (sndC (sndC (sndC (sndC (sndC a30.code)))))))
abbrev byX : ACode := fstC (fstC (sndC (sndC (fstC (fstC (sndC (fstC by8)))))))
abbrev byI : ACode := fstC (sndC (sndC (sndC byX)))
set_option maxHeartbeats 2000000 in
theorem byIn {or : Oracle} {n : Nat} {Q : Exit → KS → Prop} {Hb : AHeap} {F P I : Nat} {f : FindD} {mm ins : MapD} (hd : Doing Hb F P I f mm ins H) {w p4 p6 p78 p79 p80 : AVal} (hw : RdE Hb 41 w ocs) (hwl : w.lies (· < Hb.next)) (hR : RowsC ocs l) (hbad : l.any (badB m) = false) (hm : m ≤ 64) {es : AEntries} {clock i b : Nat} (hM : Hb.get M = some (.map es clock)) (hMn : M < Hb.next) {place : Int}
    (hf : aFind .i64 place es 0 = some (some (i, w, b))) (hl : l.length < 400000000000) (hn : l.length + 5 < n)
    (hQ : ∀ l' H' f' ins' k', SubK [(4, p4), (6, p6), (11, .map M), (16, .ptr F 0 0), (17, .ptr P 0 0), (20, .ptr I 0 0), (78, p78), (79, p79), (80, p80)] l' → Doing Hb F P I f' mm ins' H' → l.foldl (doRow place) (f, ins, 0) = (f', ins', k') → Q .normal (l', H')) :
    Wp or n 128 C30 byI ([(4, p4), (6, p6), (11, .map M), (16, .ptr F 0 0), (17, .ptr P 0 0), (19, vi place), (20, .ptr I 0 0), (21, vi 0), (78, p78), (79, p79), (80, p80)], H) Q := by
  have hl1 := hR.1
  have hM1 : H.get M = some (.map es clock) := by rw [hd.grow.get M hMn]; exact hM
  have hlen : aLenS w = some (vi l.length) := by rw [← hl1]; exact hw.lenS
  repeat (first | apply Wp.seq | apply Wp.blk | apply Wp.ret | apply Wp.skip | apply Wp.exit | apply Wp.cT rfl | apply Wp.cF rfl | ((apply Wp.reg; (repeat (apply Ex.cons; (simp (disch := omega) [-getElem?_pos, hM1, hf, aLookup, lookupDone, hlen]; rfl))); exact Ex.nil; rfl; (simp; rfl))))
  apply Wp.loop (α := Nat × AHeap × FindD × MapD × Nat) (fun y => [(4, p4), (6, p6), (11, .map M), (16, .ptr F 0 0), (17, .ptr P 0 0), (19, vi place), (20, .ptr I 0 0), (21, vi (y.2.2.2.2 : Nat)), (78, p78), (79, p79), (80, p80), (87, w), (88, vi l.length), (89, vi y.1)]) (·.2.1)
    (fun y => y.1 ≤ l.length ∧ Doing Hb F P I y.2.2.1 mm y.2.2.2.1 y.2.1 ∧ y.2.2.2.2 ≤ y.1 ∧ (l.drop y.1).foldl (doRow place) (y.2.2.1, y.2.2.2.1, y.2.2.2.2) = l.foldl (doRow place) (f, ins, 0)) (fun y => l.length - y.1)
    (0, H, f, ins, 0) rfl ⟨by omega, hd, Nat.le_refl _, rfl⟩ (by simp [-getElem?_pos]; omega) (by simp [-getElem?_pos])
  rintro ⟨j, H2, f2, ins2, k⟩ ⟨hj, hd2, hkj, hfold⟩
  dsimp only at hj hd2 hkj hfold ⊢
  (repeat (first | apply Wp.seq | apply Wp.blk)); (apply Wp.reg; (repeat (apply Ex.cons; (simp (disch := omega) [-getElem?_pos]; rfl))); exact Ex.nil; rfl; (simp; rfl))
  (repeat (first | apply Wp.seq | apply Wp.blk)); apply Wp.ite rfl
  · intro hjl
    obtain ⟨r, hr⟩ : ∃ r, l[j]? = some r := ⟨_, List.getElem?_eq_getElem (by omega)⟩
    obtain ⟨rc, hrc⟩ : ∃ rc, ocs[j]? = some rc := ⟨_, List.getElem?_eq_getElem (by omega)⟩
    have hRC := hR.2 _ rc r hrc hr
    have hbr : badB m r = false := by
      have := List.any_eq_false.1 hbad r (List.mem_of_getElem? hr)
      simpa [-getElem?_pos] using this
    obtain ⟨q, hq, hq64⟩ : ∃ q : Nat, r.blk = q ∧ q < 64 := by
      unfold badB at hbr
      rw [decide_eq_false_iff_not] at hbr
      exact ⟨r.blk.toNat, by omega, by omega⟩
    obtain ⟨R0, ver0, off, kc, ex, cells, hv, hrow, hc1, hc2⟩ := hw.at hrc
    rw [hl1] at hv
    have hR0 := hwl _ _ _ _ _ _ _ hv
    have hrow2 : H2.rowAt R0 ver0 = some cells := by rw [hd2.grow.rowAt hR0]; exact hrow
    have r5 := hRC.len
    have r0 := hRC.a0
    have r4 := hRC.a4
    rw [hq] at r4
    have rv5 := hRC.av
    have hv32 := hRC.isv.len
    have rt : rc.take 41 = rc := List.take_of_length_le (by omega)
    rw [drop_at hr, List.foldl_cons] at hfold
    obtain ⟨H3, hw1, g3, hcl, hn3⟩ := newCells H2 (z := zrow) (e := rc) r5 (by omega) hRC.one
    have hX := hcl.at
    have hd3 := hd2.move g3
    have hIne : I ≠ H2.next := by have := hd2.hI; omega
    have hFne : F ≠ H2.next := by have := hd2.hF; omega
    have hF3 := hd3.cf.at
    have hF35 : f2.cells.length = 35 := by simp [-getElem?_pos, FindD.cells, hd2.fw.len]
    have hI3 := hd3.ci.at
    have hil : ∀ e ∈ ins2, e.length = 32 := fun e he => (hd2.im.val e he).len
    have hifl := flatten_len hil
    rw [hd2.im.len] at hifl
    obtain ⟨ha1, ha2⟩ := hd2.im.at (b := (q : Int)) (by omega) (by omega)
    rw [Int.toNat_natCast] at ha1
    have hia := flatten_at q _ hil ha1
    apply Wp.skip
    by_cases h6 : r.kind = 6
    · obtain ⟨H4, hw4, hd4, hn4⟩ := hd3.setI hq64 hRC.isv
      have hst : doRow place (f2, ins2, k) r = (f2, ins2.set q r.val, k) := by simp [-getElem?_pos, doRow, h6, hq]
      rw [hst] at hfold
      repeat (first | apply Wp.seq | apply Wp.blk | apply Wp.ret | apply Wp.skip | apply Wp.exit | apply Wp.cT rfl | apply Wp.cF rfl | ((apply Wp.reg; (repeat (apply Ex.cons; (simp (disch := omega) [-getElem?_pos, hv, hrow2, hc2, r5, rt, hw1, hX, r0, r4, rv5, h6, hw4, hI3, hifl, hv32]; rfl))); exact Ex.nil; rfl; (simp; rfl))))
      exact ⟨(j + 1, H4, f2, ins2.set q r.val, k), rfl, ⟨by show j + 1 ≤ _; omega, hd4, by show k ≤ j + 1; omega, hfold⟩, by show _ - (j + 1) < _ - j; omega, by simp [-getElem?_pos, hv]⟩
    · cases hg : f2.good with
      | false =>
        have hst : doRow place (f2, ins2, k) r = (f2, ins2, k + 1) := by simp [-getElem?_pos, doRow, h6, hg]
        rw [hst] at hfold
        have hF0 : f2.cells[0]? = some (abool false) := by rw [← hg]; rfl
        repeat (first | apply Wp.seq | apply Wp.blk | apply Wp.ret | apply Wp.skip | apply Wp.exit | apply Wp.cT rfl | apply Wp.cF rfl | ((apply Wp.reg; (repeat (apply Ex.cons; (simp (disch := omega) [-getElem?_pos, hv, hrow2, hc2, r5, rt, hw1, hX, r0, r4, h6, hF3, hF35, hF0]; rfl))); exact Ex.nil; rfl; (simp; rfl))) | ((apply Wp.draw; (repeat (first | ((first | apply Dr.q rfl rfl | apply Dr.r rfl rfl); (simp (disch := omega) [-getElem?_pos, hv, hrow2, hc2, r5, rt, hw1, hX, r0, r4, h6, hF3, hF35, hF0]; rfl); (simp; rfl)) | (apply Dr.imm rfl; (simp (disch := omega) [-getElem?_pos, hv, hrow2, hc2, r5, rt, hw1, hX, r0, r4, h6, hF3, hF35, hF0]; rfl); (focus first | (simp [-getElem?_pos]; done) | (simp [-getElem?_pos]; omega))))); exact Dr.nil; rfl; (simp (disch := omega) [-getElem?_pos, hv, hrow2, hc2, r5, rt, hw1, hX, r0, r4, h6, hF3, hF35, hF0]); (simp; rfl))))
        exact ⟨(j + 1, H3, f2, ins2, k + 1), rfl, ⟨by show j + 1 ≤ _; omega, hd3, by show k + 1 ≤ j + 1; omega, hfold⟩, by show _ - (j + 1) < _ - j; omega, by simp [-getElem?_pos, hv]⟩
      | true =>
        have hF0 : f2.cells[0]? = some (abool true) := by rw [← hg]; rfl
        by_cases he : atM ins2 q = r.val
        · have hst : doRow place (f2, ins2, k) r = (f2, ins2, k + 1) := by simp [-getElem?_pos, doRow, h6, hg, hq, he]
          rw [hst] at hfold
          rw [he] at hia
          have hev := eqVal_t hRC.isv
          have hbq : AVal.beqs r.val r.val = true := beqs_bytes hRC.isv.bytes
          repeat (first | apply Wp.seq | apply Wp.blk | apply Wp.ret | apply Wp.skip | apply Wp.exit | apply Wp.cT rfl | apply Wp.cF rfl | ((apply Wp.reg; (repeat (apply Ex.cons; (simp (disch := omega) [-getElem?_pos, hv, hrow2, hc2, r5, rt, hw1, hX, r0, r4, rv5, h6, hF3, hF35, hF0, hI3, hifl, hia, hev, hv32, hbq]; rfl))); exact Ex.nil; rfl; (simp; rfl))) | ((apply Wp.draw; (repeat (first | ((first | apply Dr.q rfl rfl | apply Dr.r rfl rfl); (simp (disch := omega) [-getElem?_pos, hv, hrow2, hc2, r5, rt, hw1, hX, r0, r4, rv5, h6, hF3, hF35, hF0, hI3, hifl, hia, hev, hv32, hbq]; rfl); (simp; rfl)) | (apply Dr.imm rfl; (simp (disch := omega) [-getElem?_pos, hv, hrow2, hc2, r5, rt, hw1, hX, r0, r4, rv5, h6, hF3, hF35, hF0, hI3, hifl, hia, hev, hv32, hbq]; rfl); (focus first | (simp [-getElem?_pos]; done) | (simp [-getElem?_pos]; omega))))); exact Dr.nil; rfl; (simp (disch := omega) [-getElem?_pos, hv, hrow2, hc2, r5, rt, hw1, hX, r0, r4, rv5, h6, hF3, hF35, hF0, hI3, hifl, hia, hev, hv32, hbq]); (simp; rfl))))
          exact ⟨(j + 1, H3, f2, ins2, k + 1), rfl, ⟨by show j + 1 ≤ _; omega, hd3, by show k + 1 ≤ j + 1; omega, hfold⟩, by show _ - (j + 1) < _ - j; omega, by simp [-getElem?_pos, hv]⟩
        · have hst : doRow place (f2, ins2, k) r = (⟨false, place, k, atM ins2 q⟩, ins2, k + 1) := by simp [-getElem?_pos, doRow, h6, hg, hq, he]
          rw [hst] at hfold
          have hev := eqVal_f ha2 hRC.isv he
          have hbq : AVal.beqs r.val r.val = true := beqs_bytes hRC.isv.bytes
          have hbq2 : AVal.beqs (atM ins2 q) (atM ins2 q) = true := beqs_bytes ha2.bytes
          have hq32 := ha2.len
          obtain ⟨H4, hw4, hd4, hn4⟩ := hd3.setF (g := ⟨false, place, k, atM ins2 q⟩) ha2
          simp only [FindD.cells] at hw4
          repeat (first | apply Wp.seq | apply Wp.blk | apply Wp.ret | apply Wp.skip | apply Wp.exit | apply Wp.cT rfl | apply Wp.cF rfl | ((apply Wp.reg; (repeat (apply Ex.cons; (simp (disch := omega) [-getElem?_pos, hv, hrow2, hc2, r5, rt, hw1, hX, r0, r4, rv5, h6, hF3, hF35, hF0, hI3, hifl, hia, hev, hv32, hbq, hbq2, hq32, hw4, aFill, repl]; rfl))); exact Ex.nil; rfl; (simp; rfl))) | ((apply Wp.draw; (repeat (first | ((first | apply Dr.q rfl rfl | apply Dr.r rfl rfl); (simp (disch := omega) [-getElem?_pos, hv, hrow2, hc2, r5, rt, hw1, hX, r0, r4, rv5, h6, hF3, hF35, hF0, hI3, hifl, hia, hev, hv32, hbq, hbq2, hq32, hw4, aFill, repl]; rfl); (simp; rfl)) | (apply Dr.imm rfl; (simp (disch := omega) [-getElem?_pos, hv, hrow2, hc2, r5, rt, hw1, hX, r0, r4, rv5, h6, hF3, hF35, hF0, hI3, hifl, hia, hev, hv32, hbq, hbq2, hq32, hw4, aFill, repl]; rfl); (focus first | (simp [-getElem?_pos]; done) | (simp [-getElem?_pos]; omega))))); exact Dr.nil; rfl; (simp (disch := omega) [-getElem?_pos, hv, hrow2, hc2, r5, rt, hw1, hX, r0, r4, rv5, h6, hF3, hF35, hF0, hI3, hifl, hia, hev, hv32, hbq, hbq2, hq32, hw4, aFill, repl]); (simp; rfl))))
          exact ⟨(j + 1, H4, ⟨false, place, k, atM ins2 q⟩, ins2, k + 1), rfl, ⟨by show j + 1 ≤ _; omega, hd4, by show k + 1 ≤ j + 1; omega, hfold⟩, by show _ - (j + 1) < _ - j; omega, by simp [-getElem?_pos, hv]⟩
  · intro hjl
    apply Wp.exit
    have : l.drop j = [] := List.drop_of_length_le (by omega)
    rw [this, List.foldl_nil] at hfold
    exact hQ _ _ f2 ins2 k (by simp [-getElem?_pos]) hd2 hfold.symm
end Go.Proofs.Ythbjfkkjmecaaaa
namespace Go.Proofs.Ythbjfkkjmecaaaa
open Go Go.Vm
variable {kn : Known} {env : Nat → Option AFunc}
variable {H H' H1 : AHeap} {N A B M : Nat} {v v0 : AVal} {rows l : List RowD} {rcs ocs : List (List AVal)} {rc : List AVal} {r : RowD} {x : TxD} {sv rv wv : AVal} {m : Int}
structure Between (Hb : AHeap) (F P : Nat) (f : FindD) (mm : MapD) (H : AHeap) : Prop where
  grow : Grow Hb H
  cf : Cells H F f.cells
  cp : Cells H P mm.flatten
  fw : IsVal f.want
  pm : IsMap mm
  hF : Hb.next ≤ F ∧ F < H.next
  hP : Hb.next ≤ P ∧ P < H.next
  ne : F ≠ P
theorem IsMap.flat {mm : MapD} (h : IsMap mm) : mm.flatten.length = 2048 ∧ mm.flatten.all AVal.one = true := by
  refine ⟨by rw [flatten_len fun e he => (h.val e he).len, h.len], ?_⟩
  exact flatten_all fun e he => (h.val e he).one
theorem Between.begin {Hb H : AHeap} {F P : Nat} {f : FindD} {mm : MapD} (h : Between Hb F P f mm H) : ∃ H', (H.push (.row [some (0, List.replicate 2048 zb)])).write H.next 0 0 mm.flatten = some H' ∧ Doing Hb F P H.next f mm mm H' ∧ H'.next = H.next + 1 := by
  obtain ⟨h1, h2⟩ := h.pm.flat
  obtain ⟨H', hw, hg, hc, hn⟩ := newCells H (z := List.replicate 2048 zb) (e := mm.flatten) (by rw [h1, List.length_replicate]) (by omega) h2
  have hF := h.hF
  have hP := h.hP
  refine ⟨H', hw, ⟨h.grow.trans hg, by unfold Cells; rw [hg.get F hF.2]; exact h.cf, by unfold Cells; rw [hg.get P hP.2]; exact h.cp, hc, h.fw, h.pm, h.pm, ⟨hF.1, by omega⟩, ⟨hP.1, by omega⟩, ⟨h.grow.next, by omega⟩, h.ne, by omega, by omega⟩, hn⟩
theorem Doing.done {Hb H : AHeap} {F P I : Nat} {f : FindD} {mm ins : MapD} (h : Doing Hb F P I f mm ins H) : ∃ H', H.write P 0 0 ins.flatten = some H' ∧ Between Hb F P f ins H' ∧ H'.next = H.next := by
  obtain ⟨h1, h2⟩ := h.im.flat
  obtain ⟨h3, h4⟩ := h.pm.flat
  obtain ⟨n1, n2, n3⟩ := h.ne
  refine ⟨_, Cells.write h.cp (by omega) (by omega) h2, ⟨h.grow.set h.hP.1 _, ?_, ?_, h.fw, h.im, h.hF, h.hP, n1⟩, rfl⟩
  · unfold Cells; rw [AHeap.get_set_ne _ _ n1]; exact h.cf
  · unfold Cells; rw [AHeap.get_set_same]; simp only [spl, List.take_zero, List.nil_append, Nat.zero_add]; rw [List.drop_of_length_le (by omega), List.append_nil]
theorem doTx_eq {txs : List TxD} {f f' : FindD} {mm ins' : MapD} {p : Int} {k' : Nat} (h : (ownAt rows txs p).foldl (doRow p) (f, mm, 0) = (f', ins', k')) : doTx rows txs (f, mm) p = (f', ins') := by
  unfold doTx; simp only [h]
set_option maxHeartbeats 2000000 in
theorem byOut {or : Oracle} {n : Nat} {Q : Exit → KS → Prop} {Hb : AHeap} {F P : Nat} {f : FindD} {mm : MapD} (hd : Between Hb F P f mm H) {ov p4 p6 : AVal} {order : List Int} (ho : RdE Hb 1 ov (ints order)) (hol : ov.lies (· < Hb.next)) (hm : m ≤ 64) {txs : List TxD} {es : AEntries} {clock : Nat} (hM : Hb.get M = some (.map es clock)) (hMn : M < Hb.next)
    (how : OwnOk Hb N rows m txs es order) (hol2 : order.length < 40000000000000) (hrl : rows.length < 400000000000) (hn : order.length + rows.length + 10 < n)
    (hQ : ∀ l' H' f' mm', SubK [(4, p4), (6, p6), (16, .ptr F 0 0), (17, .ptr P 0 0)] l' → Between Hb F P f' mm' H' → order.foldl (doTx rows txs) (f, mm) = (f', mm') → Q .normal (l', H')) :
    Wp or n 128 C30 (fstC by8) ([(2, ov), (4, p4), (6, p6), (11, .map M), (16, .ptr F 0 0), (17, .ptr P 0 0)], H) Q := by
  have hlen : aLenS ov = some (vi order.length) := by have := ho.lenS; simpa [-getElem?_pos, -List.reduceReplicate] using this
  repeat (first | apply Wp.seq | apply Wp.blk | apply Wp.ret | apply Wp.skip | apply Wp.exit | apply Wp.cT rfl | apply Wp.cF rfl | ((apply Wp.reg; (repeat (apply Ex.cons; (simp (disch := omega) [-getElem?_pos, -List.reduceReplicate, hlen]; rfl))); exact Ex.nil; rfl; (simp; rfl))))
  apply Wp.loop (α := Nat × AHeap × FindD × MapD) (fun y => [(4, p4), (6, p6), (11, .map M), (16, .ptr F 0 0), (17, .ptr P 0 0), (78, ov), (79, vi order.length), (80, vi y.1)]) (·.2.1)
    (fun y => y.1 ≤ order.length ∧ Between Hb F P y.2.2.1 y.2.2.2 y.2.1 ∧ (order.drop y.1).foldl (doTx rows txs) (y.2.2.1, y.2.2.2) = order.foldl (doTx rows txs) (f, mm)) (fun y => order.length - y.1)
    (0, H, f, mm) rfl ⟨by omega, hd, rfl⟩ (by simp [-getElem?_pos, -List.reduceReplicate]; omega) (by simp [-getElem?_pos, -List.reduceReplicate])
  rintro ⟨j, H2, f2, mm2⟩ ⟨hj, hd2, hfold⟩
  dsimp only at hj hd2 hfold ⊢
  (repeat (first | apply Wp.seq | apply Wp.blk)); (apply Wp.reg; (repeat (apply Ex.cons; (simp (disch := omega) [-getElem?_pos, -List.reduceReplicate]; rfl))); exact Ex.nil; rfl; (simp; rfl))
  (repeat (first | apply Wp.seq | apply Wp.blk)); apply Wp.ite rfl
  · intro hjl
    obtain ⟨p, hp⟩ : ∃ p, order[j]? = some p := ⟨_, List.getElem?_eq_getElem (by omega)⟩
    obtain ⟨w, b, ocs, he, hf, hws, hwR⟩ := how.find hp
    obtain ⟨R0, ver0, off, kc, ex, cells, hv, hrow, hc1, hc2⟩ := ho.at (i := j) (e := [vi p]) (by rw [List.getElem?_map, hp]; rfl)
    simp only [List.length_map] at hv
    have hR0 := hol _ _ _ _ _ _ _ hv
    have hrow2 : H2.rowAt R0 ver0 = some cells := by rw [hd2.grow.rowAt hR0]; exact hrow
    rw [Nat.mul_one] at hc1 hc2
    have hc3 : cells[off + j]? = some (vi p) := by
      have : (List.take 1 (List.drop (off + j) cells))[0]? = some (vi p) := by rw [hc2]; rfl
      rw [List.getElem?_take, if_pos (by omega), List.getElem?_drop] at this
      exact this
    obtain ⟨hfl1, hfl2⟩ := hd2.pm.flat
    have hP2 := hd2.cp.at
    have hbq : mm2.flatten.take 2048 = mm2.flatten := List.take_of_length_le (by omega)
    obtain ⟨H3, hw3, hd3, hn3⟩ := hd2.begin
    have hwlen := how.rows_ j _ p he hp
    have hok := how.ok p (List.mem_of_getElem? hp)
    have hown : (ownAt rows txs p).length ≤ rows.length := by
      unfold ownAt
      split
      · rename_i x _; unfold ownD; have := ownB_le x.client (rows.drop (x.begun + 1).toNat); simp [-getElem?_pos, -List.reduceReplicate] at this; omega
      · simp [-getElem?_pos, -List.reduceReplicate]
    rw [drop_at hp, List.foldl_cons] at hfold
    apply Wp.skip
    (repeat (first | apply Wp.seq | apply Wp.blk)); (apply Wp.reg; (repeat (apply Ex.cons; (simp (disch := omega) [-getElem?_pos, -List.reduceReplicate, hv, hrow2, hc3]; rfl))); exact Ex.nil; rfl; (simp; rfl))
    (repeat (first | apply Wp.seq | apply Wp.blk)); (apply Wp.reg; (repeat (apply Ex.cons; (simp (disch := omega) [-getElem?_pos, -List.reduceReplicate, hP2, hfl1, hbq, hw3]; rfl))); exact Ex.nil; rfl; (simp; rfl))
    (repeat (first | apply Wp.seq | apply Wp.blk)); (apply Wp.reg; (repeat (apply Ex.cons; (simp (disch := omega) [-getElem?_pos, -List.reduceReplicate]; rfl))); exact Ex.nil; rfl; (simp; rfl))
    apply Wp.seq
    refine Wp.sub [(4, p4), (6, p6), (11, .map M), (16, .ptr F 0 0), (17, .ptr P 0 0), (19, vi p), (20, .ptr H2.next 0 0), (21, vi 0), (78, ov), (79, vi order.length), (80, vi j)] ?_ (by simp [-getElem?_pos, -List.reduceReplicate, hv])
    refine byIn hd3 hws.rd (fun R ver off len kc ex esz e => (hws.lies R ver off len kc ex esz e).2) hwR hok.2.2 hm hM hMn hf (by omega) (by omega) fun l' H' f' ins' k' hsub hd' hT => ?_
    obtain ⟨H4, hw4, hb4, hn4⟩ := hd'.done
    obtain ⟨hf1, hf2⟩ := hd'.im.flat
    have hI' := hd'.ci.at
    have hbq' : ins'.flatten.take 2048 = ins'.flatten := List.take_of_length_le (by omega)
    rw [doTx_eq hT] at hfold
    refine Wp.sub [(4, p4), (6, p6), (11, .map M), (16, .ptr F 0 0), (17, .ptr P 0 0), (20, .ptr H2.next 0 0), (78, ov), (79, vi order.length), (80, vi j)] ?_ hsub
    repeat (first | apply Wp.seq | apply Wp.blk | apply Wp.ret | apply Wp.skip | apply Wp.exit | apply Wp.cT rfl | apply Wp.cF rfl | ((apply Wp.reg; (repeat (apply Ex.cons; (simp (disch := omega) [-getElem?_pos, -List.reduceReplicate, hI', hf1, hbq', hw4]; rfl))); exact Ex.nil; rfl; (simp; rfl))))
    exact ⟨(j + 1, H4, f', ins'), rfl, ⟨by show j + 1 ≤ _; omega, hb4, hfold⟩, by show _ - (j + 1) < _ - j; omega, by simp [-getElem?_pos, -List.reduceReplicate]⟩
  · intro hjl
    apply Wp.exit
    have : order.drop j = [] := List.drop_of_length_le (by omega)
    rw [this, List.foldl_nil] at hfold
    exact hQ _ _ f2 mm2 (by simp [-getElem?_pos, -List.reduceReplicate]) hd2 hfold.symm
end Go.Proofs.Ythbjfkkjmecaaaa
namespace Go.Proofs.Ythbjfkkjmecaaaa
open Go Go.Vm
variable {kn : Known} {env : Nat → Option AFunc}
variable {H H' H1 : AHeap} {N A B M : Nat} {v v0 ov tv : AVal} {rows l : List RowD} {rcs ocs tvs : List (List AVal)} {rc : List AVal} {r : RowD} {x : TxD} {sv rv wv : AVal} {m : Int} {txs : List TxD} {o : Nat → Nat} {order : List Int}
theorem stepD_begun {b b' : List TxD} {i : Int} {Pr : Int → Prop} (h : ∀ x ∈ b, Pr x.begun) (hi : Pr i) (hs : stepD b i r = some b') : ∀ x ∈ b', Pr x.begun := by
  have upd : ∀ {k : Nat} {x y : TxD}, b[k]? = some x → y.begun = x.begun → ∀ z ∈ b.set k y, Pr z.begun := fun hx hy z hz => by
    rcases List.mem_or_eq_of_mem_set hz with hz | rfl
    · exact h z hz
    · rw [hy]; exact h _ (List.mem_of_getElem? hx)
  have updB' : ∀ (k : Nat) (f : TxD → TxD), (∀ x, (f x).begun = x.begun) → ∀ z ∈ updB b k f, Pr z.begun := fun k f hf => by
    unfold updB
    split
    · rename_i x hx; exact upd hx (hf x)
    · exact h
  have mp : ∀ (f : TxD → TxD), (∀ x, (f x).begun = x.begun) → ∀ z ∈ b.map f, Pr z.begun := fun f hf z hz => by
    obtain ⟨x, hx, rfl⟩ := List.mem_map.1 hz
    rw [hf]; exact h x hx
  unfold stepD at hs
  split at hs
  · unfold stepC at hs
    split at hs
    · cases hs
    · split at hs
      · split at hs
        · cases hs
        · cases hs; exact h
      · split at hs
        · split at hs
          · cases hs
          · cases hs
            intro x hx
            rcases List.mem_append.1 hx with hx | hx
            · exact h x hx
            · simp [-getElem?_pos] at hx; subst hx; exact hi
        · obtain ⟨k, _, rfl⟩ := Option.map_eq_some_iff.1 hs
          split
          · exact updB' k _ fun _ => rfl
          · split
            · exact updB' k _ fun _ => rfl
            · split
              · exact updB' k _ fun _ => rfl
              · split
                · exact updB' k _ fun _ => rfl
                · exact h
  · split at hs
    · obtain ⟨k, _, hs⟩ := Option.bind_eq_some_iff.1 hs
      obtain ⟨x, hx, hs⟩ := Option.bind_eq_some_iff.1 hs
      split at hs
      · cases hs
        split
        · exact upd hx rfl
        · exact h
      · cases hs
    · split at hs
      · obtain ⟨k, _, hs⟩ := Option.bind_eq_some_iff.1 hs
        obtain ⟨x, hx, hs⟩ := Option.bind_eq_some_iff.1 hs
        split at hs
        · cases hs; exact upd hx rfl
        · cases hs
      · split at hs
        · cases hs; exact mp _ fun x => by split <;> rfl
        · split at hs
          · cases hs; exact mp _ fun x => by split <;> rfl
          · cases hs; exact h
theorem stepsD_begun : ∀ {l : List RowD} {b b' : List TxD} {k n : Nat}, k + l.length ≤ n → (∀ x ∈ b, ∃ q : Nat, x.begun = q ∧ q < n) → stepsD b k l = some b' → ∀ x ∈ b', ∃ q : Nat, x.begun = q ∧ q < n
  | [], b, b', k, n, _, h, hs => by cases hs; exact h
  | r :: l, b, b', k, n, hn, h, hs => by
    obtain ⟨b1, h1, h2⟩ := Option.bind_eq_some_iff.1 hs
    simp [-getElem?_pos] at hn
    exact stepsD_begun (k := k + 1) (by omega) (stepD_begun (Pr := fun z => ∃ q : Nat, z = q ∧ q < n) h ⟨k, rfl, by omega⟩ h1) h2
theorem txsD_begun (h : txsD rows = some txs) : ∀ x ∈ txs, ∃ q : Nat, x.begun = q ∧ q < rows.length := fun x hx => by
  unfold txsD at h
  obtain ⟨b, h1, rfl⟩ := Option.map_eq_some_iff.1 h
  obtain ⟨y, hy, rfl⟩ := List.mem_map.1 hx
  have := stepsD_begun (n := rows.length) (by omega) (by simp [-getElem?_pos]) h1 y hy
  unfold endD
  split <;> exact this
theorem okO_at (h : okO rows m txs order) {j : Nat} {p : Int} (hp : order[j]? = some p) : p ∉ order.take j ∧ okP rows m txs p := by
  refine ⟨fun hm => ?_, h.2 p (List.mem_of_getElem? hp)⟩
  have hn := h.1
  obtain ⟨i, hi, he⟩ := List.getElem_of_mem hm
  have hj := (List.getElem?_eq_some_iff.1 hp).1
  simp [-getElem?_pos] at hi
  rw [List.getElem_take] at he
  have h2 : order[j] = p := (List.getElem?_eq_some_iff.1 hp).2
  exact List.pairwise_iff_getElem.1 hn i j (by omega) hj (by omega) (he.trans h2.symm)
theorem SetV.one {H : AHeap} {l : List Int} (h : SetV H N v l) : v.one = true := by
  rcases h with h | ⟨_, R, rfl, _⟩
  · exact h.rd.one
  · rfl
theorem find_end {es : AEntries} {ps : List Int} {p : Int} {w : AVal} {b : Nat} (hk : es.map (·.1) = ps.map vi) (hn : ps.Nodup) (hp : p ∉ ps) : aFind .i64 p (es ++ [(vi p, w, b)]) 0 = some (some (es.length, w, b)) := by
  have hkeys : (es ++ [(vi p, w, b)]).map (·.1) = (ps ++ [p]).map vi := by simp [-getElem?_pos, hk]
  have hnd : (ps ++ [p]).Nodup := List.nodup_append.2 ⟨hn, by simp [-getElem?_pos], fun a ha b hb => by simp [-getElem?_pos] at hb; subst hb; exact fun e => hp (by rw [← e]; exact ha)⟩
  have := find_at (i := 0) (c := p) (p := es.length) (v := w) (bn := b) (es := es ++ [(vi p, w, b)]) (fun e he => by
    have : e.1 ∈ (es ++ [(vi p, w, b)]).map (·.1) := List.mem_map_of_mem (f := fun e : AVal × AVal × Nat => e.1) he
    rw [hkeys] at this
    obtain ⟨q, _, hq⟩ := List.mem_map.1 this
    exact ⟨q, hq.symm⟩) (by rw [hkeys]; exact nodup_vi hnd) (by rw [List.getElem?_concat_length])
  rw [Nat.zero_add] at this
  exact this
end Go.Proofs.Ythbjfkkjmecaaaa
namespace Go.Proofs.Ythbjfkkjmecaaaa
open Go Go.Vm
variable {kn : Known} {env : Nat → Option AFunc}
variable {H H' H1 : AHeap} {N A B M : Nat} {v v0 ov tv : AVal} {rows l : List RowD} {rcs ocs tvs : List (List AVal)} {rc : List AVal} {r : RowD} {x : TxD} {sv rv wv : AVal} {m : Int} {txs : List TxD} {o : Nat → Nat} {order : List Int}
abbrev by5 : ACode := sndC (sndC (sndC (sndC (sndC a30.code))))
set_option maxHeartbeats 2000000 in
theorem byOwn (h62 : Fn kn env 62 a62) (h63 : Fn kn env 63 a63) (h84 : Fn kn env 84 a84) (h64 : Fn kn env 64 a64) (n : Nat) {Q : Exit → KS → Prop} {B4 B6 : Nat} (hrd : RdE H1 41 v0 rcs) (hl0 : v0.lies (· < H1.next)) (hrc : RowsC rcs rows) (htx : SliceE H1 N 12 tv tvs) (hat : TxsAt H1 N o tvs txs) (hbeg : ∀ x ∈ txs, ∃ q : Nat, x.begun = q ∧ q < rows.length)
    (ho : RdE H1 1 ov (ints order)) (hol : ov.lies (· < H1.next)) (hB4 : H1.rowAt B4 0 = some [vi m]) (hB4n : B4 < H1.next) (hB6 : Cells H1 B6 zfind) (hB6n : B6 < H1.next) (hr : rows.length < 400000000000) (ho2 : order.length < 40000000000000) (hn : rows.length + order.length + 10 < n)
    (hbad : ¬ okO rows m txs order → ∀ l' H2, Grow H1 H2 → SubK [(6, .ptr B6 0 0), (7, anil), (8, vi 230)] l' → Q .ret (l', H2.set B6 (.row [some (0, zfind)])))
    (hgood : okO rows m txs order → ∀ l' H2 es clock, SubK [(2, ov), (4, .ptr B4 0 0), (6, .ptr B6 0 0), (11, .map H1.next)] l' → Grow H1 H2 → H2.get H1.next = some (.map es clock) → H1.next < H2.next → OwnOk H2 (H1.next + 1) rows m txs es order → Q .normal (l', H2)) :
    Wp (callM kn env (n + 3)) (n + 3) 128 C30 (fstC by5) ([(0, v0), (2, ov), (4, .ptr B4 0 0), (6, .ptr B6 0 0), (9, tv), (11, .map H1.next)], H1.push (.map [] 0)) Q := by
  have hlen : aLenS ov = some (vi order.length) := by have := ho.lenS; simpa [-getElem?_pos] using this
  have hlt : aLenS tv = some (vi txs.length) := by have := htx.rd.lenS; rw [hat.1] at this; exact this
  repeat (first | apply Wp.seq | apply Wp.blk | apply Wp.ret | apply Wp.skip | apply Wp.exit | apply Wp.cT rfl | apply Wp.cF rfl | ((apply Wp.reg; (repeat (apply Ex.cons; (simp (disch := omega) [-getElem?_pos, hlen]; rfl))); exact Ex.nil; rfl; (simp; rfl))))
  apply Wp.loop (α := Nat × AHeap) (fun y => [(0, v0), (2, ov), (4, .ptr B4 0 0), (6, .ptr B6 0 0), (9, tv), (11, .map H1.next), (38, ov), (39, vi order.length), (40, vi y.1)]) (·.2)
    (fun y => y.1 ≤ order.length ∧ Grow H1 y.2 ∧ H1.next < y.2.next ∧ ∃ es clock, y.2.get H1.next = some (.map es clock) ∧ OwnOk y.2 (H1.next + 1) rows m txs es (order.take y.1)) (fun y => order.length - y.1)
    (0, H1.push (.map [] 0)) rfl ⟨by omega, Grow.push _ _, by simp [-getElem?_pos], [], 0, AHeap.get_push_same _ _, OwnOk.nil⟩ (by simp [-getElem?_pos]; omega) (by simp [-getElem?_pos])
  rintro ⟨j, H2⟩ ⟨hj, hg2, hnx, es, clock, hM, how⟩
  dsimp only at hj hg2 hnx hM how ⊢
  (repeat (first | apply Wp.seq | apply Wp.blk)); (apply Wp.reg; (repeat (apply Ex.cons; (simp (disch := omega) [-getElem?_pos]; rfl))); exact Ex.nil; rfl; (simp; rfl))
  (repeat (first | apply Wp.seq | apply Wp.blk)); apply Wp.ite rfl
  · intro hjl
    obtain ⟨p, hp⟩ : ∃ p, order[j]? = some p := ⟨_, List.getElem?_eq_getElem (by omega)⟩
    obtain ⟨R0, ver0, off, kc, ex, cells, hv, hrow, hc1, hc2⟩ := ho.at (i := j) (e := [vi p]) (by rw [List.getElem?_map, hp]; rfl)
    simp only [List.length_map] at hv
    have hR0 := hol _ _ _ _ _ _ _ hv
    have hrow2 : H2.rowAt R0 ver0 = some cells := by rw [hg2.rowAt hR0]; exact hrow
    rw [Nat.mul_one] at hc1 hc2
    have hc3 : cells[off + j]? = some (vi p) := by
      have : (List.take 1 (List.drop (off + j) cells))[0]? = some (vi p) := by rw [hc2]; rfl
      rw [List.getElem?_take, if_pos (by omega), List.getElem?_drop] at this
      exact this
    -- how it fails
    have hfail : ∀ H', Grow H1 H' → ∃ H'', H'.write B6 0 0 zfind = some H'' ∧ H'' = H'.set B6 (.row [some (0, zfind)]) := fun H' hg => by
      have hb : Cells H' B6 zfind := by unfold Cells; rw [hg.get B6 hB6n]; exact hB6
      exact ⟨_, Cells.write hb (by simp [-getElem?_pos]) (by simp [-getElem?_pos]) rfl, by simp [-getElem?_pos, spl]⟩
    apply Wp.skip
    by_cases hin : p ∈ order.take j
    · have hno : ¬ okO rows m txs order := fun h => (okO_at h hp).1 hin
      obtain ⟨i, hi⟩ := List.mem_iff_getElem?.1 hin
      obtain ⟨w, b, ocs, he, hf, _⟩ := how.find hi
      obtain ⟨H3, hw3, hH3⟩ := hfail H2 hg2
      repeat (first | apply Wp.seq | apply Wp.blk | apply Wp.ret | apply Wp.skip | apply Wp.exit | apply Wp.cT rfl | apply Wp.cF rfl | ((apply Wp.reg; (repeat (apply Ex.cons; (simp (disch := omega) [-getElem?_pos, hv, hrow2, hc3, hM, hf, aLookup, lookupDone, hw3, aFill, hlt]; rfl))); exact Ex.nil; rfl; (simp; rfl))))
      rw [hH3]
      exact hbad hno _ H2 hg2 (by simp [-getElem?_pos])
    · have hf := how.findNo hin
      by_cases hp0 : p < 0
      · have hno : ¬ okO rows m txs order := fun h => by have := (okO_at h hp).2.1; omega
        obtain ⟨H3, hw3, hH3⟩ := hfail H2 hg2
        repeat (first | apply Wp.seq | apply Wp.blk | apply Wp.ret | apply Wp.skip | apply Wp.exit | apply Wp.cT rfl | apply Wp.cF rfl | ((apply Wp.reg; (repeat (apply Ex.cons; (simp (disch := omega) [-getElem?_pos, hv, hrow2, hc3, hM, hf, aLookup, lookupDone, hw3, aFill, hlt, hp0]; rfl))); exact Ex.nil; rfl; (simp; rfl))))
        rw [hH3]
        exact hbad hno _ H2 hg2 (by simp [-getElem?_pos])
      · obtain ⟨q, rfl⟩ : ∃ q : Nat, p = q := ⟨p.toNat, by omega⟩
        by_cases hq : txs.length ≤ q
        · have hno : ¬ okO rows m txs order := fun h => by have := (okO_at h hp).2.2.1; omega
          obtain ⟨H3, hw3, hH3⟩ := hfail H2 hg2
          repeat (first | apply Wp.seq | apply Wp.blk | apply Wp.ret | apply Wp.skip | apply Wp.exit | apply Wp.cT rfl | apply Wp.cF rfl | ((apply Wp.reg; (repeat (apply Ex.cons; (simp (disch := omega) [-getElem?_pos, hv, hrow2, hc3, hM, hf, aLookup, lookupDone, hw3, aFill, hlt]; rfl))); exact Ex.nil; rfl; (simp; rfl))))
          rw [hH3]
          exact hbad hno _ H2 hg2 (by simp [-getElem?_pos])
        · obtain ⟨x, hx⟩ : ∃ x, txs[q]? = some x := ⟨_, List.getElem?_eq_getElem (by omega)⟩
          obtain ⟨e, he⟩ : ∃ e, tvs[q]? = some e := ⟨_, List.getElem?_eq_getElem (by have := hat.1; omega)⟩
          obtain ⟨sv, rv, wv, ht⟩ := hat.2 q e x he hx
          obtain ⟨R1, ver1, off1, kc1, ex1, cells1, hv1, hrow1, hd1, hd2⟩ := htx.rd.at he
          rw [hat.1] at hv1
          rw [ht.eq] at hd2
          have hR1 : R1 < H1.next := (htx.lies _ _ _ _ _ _ _ hv1).2
          have hrow12 : H2.rowAt R1 ver1 = some cells1 := by rw [hg2.rowAt hR1]; exact hrow1
          obtain ⟨k, hk, hkl⟩ := hbeg x (List.mem_of_getElem? hx)
          obtain ⟨v', H3, ocs, hc62, hg3, hs3, hR3⟩ := c62 h62 (n + 2) (H := H2) (v0 := v0) (rows := rows) (x := x) (sv := sv) (rv := rv) (wv := wv) (hrd.grow hg2 hl0) (fun R ver off len kc ex esz e => by have := hl0 R ver off len kc ex esz e; have := hg2.next; omega) hrc hk hkl hr (by omega) ht.set.one ht.reads.rd.one ht.writes.rd.one
          have hown : ownAt rows txs (q : Int) = ownD rows x := by unfold ownAt; rw [Int.toNat_natCast, hx]
          have hM3 : H3.get H1.next = some (.map es clock) := by rw [hg3.get _ hnx]; exact hM
          have hg13 : Grow H1 H3 := hg2.trans hg3
          obtain ⟨H4, hH4⟩ : ∃ H4, H4 = H3.set H1.next (.map (es ++ [(vi (q : Int), v', clock)]) (clock + 1)) := ⟨_, rfl⟩
          have hg14 : Grow H1 H4 := by rw [hH4]; exact hg13.set (Nat.le_refl _) _
          have hn4 : H4.next = H3.next := by rw [hH4]; rfl
          have hM4 : H4.get H1.next = some (.map (es ++ [(vi (q : Int), v', clock)]) (clock + 1)) := by rw [hH4]; exact AHeap.get_set_same _ _ _
          have hn3 := hg3.next
          have hs4 : SliceE H4 H2.next 41 v' ocs := hs3.move (Nat.le_refl _) (by omega) fun A hA _ => by rw [hH4, AHeap.get_set_ne _ _ (by omega)]
          have hol3 : (ownD rows x).length ≤ rows.length := by unfold ownD; have := ownB_le x.client (rows.drop (x.begun + 1).toNat); simp [-getElem?_pos] at this; omega
          obtain ⟨H5, hc63, hg5⟩ := c63 h63 h84 h64 n (H := H4) (B := B4) (m := m) hs4.rd (fun R ver off len kc ex esz e => (hs4.lies R ver off len kc ex esz e).2) hR3 (by rw [hg14.rowAt hB4n]; exact hB4) (by have := hg14.next; omega) (by omega) (by omega)
          have hfe := find_end (b := clock) (w := v') how.key how.nodup hin
          have hg15 : Grow H1 H5 := hg14.trans hg5
          cases hb : (ownD rows x).any (badB m) with
          | true =>
            have hno : ¬ okO rows m txs order := fun h => by
              have := (okO_at h hp).2.2.2
              rw [hown, hb] at this; cases this
            rw [hb] at hc63
            obtain ⟨H6, hw6, hH6⟩ := hfail H5 hg15
            rw [hH4] at hc63 hM4
            repeat (first | apply Wp.seq | apply Wp.blk | apply Wp.ret | apply Wp.skip | apply Wp.exit | apply Wp.cT rfl | apply Wp.cF rfl | ((apply Wp.reg; (repeat (apply Ex.cons; (simp (disch := omega) [-getElem?_pos, hv, hrow2, hc3, hM, hf, aLookup, lookupDone, hw6, aFill, hlt, hv1, hrow12, hd1, hd2, hc62, hM3, aMapUpdate, hM4, hfe, hc63]; rfl))); exact Ex.nil; rfl; (simp; rfl))))
            rw [hH6]
            exact hbad hno _ H5 hg15 (by simp [-getElem?_pos])
          | false =>
            rw [hb] at hc63
            have hn5 := hg5.next
            have how5 : OwnOk H5 (H1.next + 1) rows m txs es (order.take j) := how.move (by omega) fun A hA hA2 => by
              rw [hg5.get A (by omega), hH4, AHeap.get_set_ne _ _ (by omega), hg3.get A hA2]
            have hs5 : SliceE H5 (H1.next + 1) 41 v' ocs := hs4.move (by omega) hn5 fun A _ hA => hg5.get A hA
            have hown6 : OwnOk H5 (H1.next + 1) rows m txs (es ++ [(vi (q : Int), v', clock)]) (order.take (j + 1)) := by
              rw [List.take_add_one, hp]
              exact how5.push hin ⟨by omega, by omega, by rw [hown]; exact hb⟩ hs5 (by rw [hown]; exact hR3)
            have hM5 : H5.get H1.next = some (.map (es ++ [(vi (q : Int), v', clock)]) (clock + 1)) := by rw [hg5.get _ (by omega)]; exact hM4
            rw [hH4] at hc63 hM4
            repeat (first | apply Wp.seq | apply Wp.blk | apply Wp.ret | apply Wp.skip | apply Wp.exit | apply Wp.cT rfl | apply Wp.cF rfl | ((apply Wp.reg; (repeat (apply Ex.cons; (simp (disch := omega) [-getElem?_pos, hv, hrow2, hc3, hM, hf, aLookup, lookupDone, aFill, hlt, hv1, hrow12, hd1, hd2, hc62, hM3, aMapUpdate, hM4, hfe, hc63]; rfl))); exact Ex.nil; rfl; (simp; rfl))))
            exact ⟨(j + 1, H5), rfl, ⟨by show j + 1 ≤ _; omega, hg15, by show _ < H5.next; omega, _, _, hM5, hown6⟩, by show _ - (j + 1) < _ - j; omega, by simp [-getElem?_pos, hv, hv1]⟩
  · intro hjl
    apply Wp.exit
    have : order.take j = order := List.take_of_length_le (by omega)
    rw [this] at how
    exact hgood ⟨how.nodup, how.ok⟩ _ H2 es clock (by simp [-getElem?_pos]) hg2 hM hnx how
end Go.Proofs.Ythbjfkkjmecaaaa
