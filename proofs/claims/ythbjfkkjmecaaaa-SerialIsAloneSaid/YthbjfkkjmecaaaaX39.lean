/- Walks: By, a transaction's rows done. -/
import Derived.Test.YthbjfkkjmecaaaaX38
namespace Go.Proofs.Ythbjfkkjmecaaaa
open Go Go.Vm
set_option linter.unusedVariables false
set_option linter.unusedSimpArgs false

variable {kn : Known} {env : Nat → Option AFunc}

variable {H H' H1 : AHeap} {N A B M : Nat} {v v0 : AVal} {rows l : List RowD} {rcs ocs : List (List AVal)} {rc : List AVal} {r : RowD} {x : TxD} {sv rv wv : AVal} {m : Int}

open Classical in
theorem eqLoop {xs ys : List AVal} (hx : ∀ c ∈ xs, ∃ n, c = v8 n) (hy : ∀ c ∈ ys, ∃ n, c = v8 n) : ∀ (n i : Nat), xs.length = i + n → ys.length = i + n → aEqLoop (aEqP .int) false 1 xs ys i n = some (decide (xs.drop i = ys.drop i))
  | 0, i, h1, h2 => by
    rw [List.drop_of_length_le (by omega), List.drop_of_length_le (by omega)]; simp [-getElem?_pos, aEqLoop]
  | n + 1, i, h1, h2 => by
    obtain ⟨a, ha⟩ := hx (xs[i]'(by omega)) (List.getElem_mem _)
    obtain ⟨b, hb⟩ := hy (ys[i]'(by omega)) (List.getElem_mem _)
    have ga : xs[i]? = some (v8 a) := by rw [← ha]; exact List.getElem?_eq_getElem _
    have gb : ys[i]? = some (v8 b) := by rw [← hb]; exact List.getElem?_eq_getElem _
    have ih := eqLoop hx hy n (i + 1) (by omega) (by omega)
    rw [drop_at ga, drop_at gb]
    have hone : aEqP .int (v8 a) (v8 b) = some (decide (a = b)) := by simp only [aEqP, if_true, ieq_eq]
    unfold aEqLoop
    simp only [aPart, Nat.mul_one, ga, gb, Bool.false_eq_true, if_false, Option.bind_some, hone, ih]
    by_cases e : a = b <;> simp [-getElem?_pos, e]

open Classical in
theorem eqVal {a b : List AVal} (ha : IsVal a) (hb : IsVal b) : aEqP (.arr 32 1 false .int) (.agg a) (.agg b) = some (decide (a = b)) := by
  have := eqLoop ha.bytes hb.bytes 32 0 (by rw [ha.len]) (by rw [hb.len])
  simpa [-getElem?_pos, aEqP] using this

theorem eqVal_t {a : List AVal} (ha : IsVal a) : aEqP (.arr 32 1 false .int) (.agg a) (.agg a) = some true := by
  rw [eqVal ha ha]; simp [-getElem?_pos]
theorem eqVal_f {a b : List AVal} (ha : IsVal a) (hb : IsVal b) (h : a ≠ b) : aEqP (.arr 32 1 false .int) (.agg a) (.agg b) = some false := by
  rw [eqVal ha hb]; simp [-getElem?_pos, h]

/-- The heap while By does the transactions: what it has of its own. -/
structure Doing (Hb : AHeap) (F P I : Nat) (f : FindD) (mm ins : MapD) (H : AHeap) : Prop where
  grow : Grow Hb H
  cf : Cells H F f.cells
  cp : Cells H P mm.flatten
  ci : Cells H I ins.flatten
  fw : IsVal f.want
  pm : IsMap mm
  im : IsMap ins
  hF : Hb.next ≤ F ∧ F < H.next
  hP : Hb.next ≤ P ∧ P < H.next
  hI : Hb.next ≤ I ∧ I < H.next
  ne : F ≠ P ∧ F ≠ I ∧ P ≠ I

theorem Doing.move {Hb H H' : AHeap} {F P I : Nat} {f : FindD} {mm ins : MapD} (h : Doing Hb F P I f mm ins H) (hg : Grow H H') : Doing Hb F P I f mm ins H' := by
  have hn := hg.next
  obtain ⟨a, b, c, d, e1, e2, e3, e4, e5, e6, e7⟩ := h
  exact ⟨a.trans hg, by unfold Cells; rw [hg.get F e4.2]; exact b, by unfold Cells; rw [hg.get P e5.2]; exact c, by unfold Cells; rw [hg.get I e6.2]; exact d, e1, e2, e3, ⟨e4.1, by omega⟩, ⟨e5.1, by omega⟩, ⟨e6.1, by omega⟩, e7⟩

/-- A value of the map that is being changed, set. -/
theorem Doing.setI {Hb H : AHeap} {F P I : Nat} {f : FindD} {mm ins : MapD} (h : Doing Hb F P I f mm ins H) {k : Nat} (hk : k < 64) {u : List AVal} (hu : IsVal u) : ∃ H', H.write I 0 (k * 32) u = some H' ∧ Doing Hb F P I f mm (ins.set k u) H' ∧ H'.next = H.next := by
  have hl := h.im.len
  have hel : ∀ e ∈ ins, e.length = 32 := fun e he => (h.im.val e he).len
  have hfl := flatten_len hel
  obtain ⟨n1, n2, n3⟩ := h.ne
  refine ⟨_, Cells.write h.ci (by have := hu.len; omega) (by have := hu.len; omega) hu.one, ⟨h.grow.set h.hI.1 _, ?_, ?_, ?_, h.fw, h.pm, h.im.set hu, h.hF, h.hP, h.hI, h.ne⟩, rfl⟩
  · unfold Cells; rw [AHeap.get_set_ne _ _ n2]; exact h.cf
  · unfold Cells; rw [AHeap.get_set_ne _ _ n3]; exact h.cp
  · unfold Cells; rw [AHeap.get_set_same, flatten_set hu.len k hel (by omega)]

/-- The finding, written. -/
theorem Doing.setF {Hb H : AHeap} {F P I : Nat} {f g : FindD} {mm ins : MapD} (h : Doing Hb F P I f mm ins H) (hg : IsVal g.want) : ∃ H', H.write F 0 0 g.cells = some H' ∧ Doing Hb F P I g mm ins H' ∧ H'.next = H.next := by
  have h1 : f.cells.length = 35 := by simp [-getElem?_pos, FindD.cells, h.fw.len]
  have h2 : g.cells.length = 35 := by simp [-getElem?_pos, FindD.cells, hg.len]
  obtain ⟨n1, n2, n3⟩ := h.ne
  refine ⟨_, Cells.write h.cf (by omega) (by omega) (by simp only [FindD.cells, List.all_cons, hg.one, Bool.and_true]; rfl), ⟨h.grow.set h.hF.1 _, ?_, ?_, ?_, hg, h.pm, h.im, h.hF, h.hP, h.hI, h.ne⟩, rfl⟩
  · unfold Cells; rw [AHeap.get_set_same]; simp [-getElem?_pos, spl, h1, h2]
  · unfold Cells; rw [AHeap.get_set_ne _ _ (Ne.symm n1)]; exact h.cp
  · unfold Cells; rw [AHeap.get_set_ne _ _ (Ne.symm n2)]; exact h.ci

end Go.Proofs.Ythbjfkkjmecaaaa
namespace Go.Proofs.Ythbjfkkjmecaaaa
open Go Go.Vm
set_option linter.unusedVariables false
set_option linter.unusedSimpArgs false

variable {kn : Known} {env : Nat → Option AFunc}

variable {H H' H1 : AHeap} {N A B M : Nat} {v v0 : AVal} {rows l : List RowD} {rcs ocs : List (List AVal)} {rc : List AVal} {r : RowD} {x : TxD} {sv rv wv : AVal} {m : Int}

abbrev C30 : List Nat := [0, 1, 2, 4, 6, 7, 8, 9, 10, 11, 13, 15, 16, 17, 19, 20, 21, 23, 26, 34, 38, 39, 40, 41, 60, 74, 78, 79, 80, 81, 87, 88, 89, 90, 95, 111]
abbrev by8 : ACode := sndC (sndC (sndC (sndC (sndC (sndC (sndC (sndC a30.code)))))))
abbrev byX : ACode := fstC (fstC (sndC (sndC (fstC (fstC (sndC (fstC by8)))))))
abbrev byI : ACode := fstC (sndC (sndC (sndC byX)))

set_option maxHeartbeats 2000000 in
theorem byIn {or : Oracle} {n : Nat} {Q : Exit → KS → Prop} {Hb : AHeap} {F P I : Nat} {f : FindD} {mm ins : MapD} (hd : Doing Hb F P I f mm ins H) {w p4 p6 p78 p79 p80 : AVal} (hw : RdE Hb 41 w ocs) (hwl : w.lies (· < Hb.next)) (hR : RowsC ocs l) (hbad : l.any (badB m) = false) (hm : m ≤ 64) {es : AEntries} {clock i b : Nat} (hM : Hb.get M = some (.map es clock)) (hMn : M < Hb.next) {place : Int}
    (hf : aFind .i64 place es 0 = some (some (i, w, b))) (hl : l.length < 400000000000) (hn : l.length + 5 < n)
    (hQ : ∀ l' H' f' ins' k', SubK [(4, p4), (6, p6), (11, .map M), (16, .ptr F 0 0), (17, .ptr P 0 0), (20, .ptr I 0 0), (78, p78), (79, p79), (80, p80)] l' → Doing Hb F P I f' mm ins' H' → l.foldl (doRow place) (f, ins, 0) = (f', ins', k') → Q .normal (l', H')) :
    Wp or n 128 C30 byI ([(4, p4), (6, p6), (11, .map M), (16, .ptr F 0 0), (17, .ptr P 0 0), (19, vi place), (20, .ptr I 0 0), (21, vi 0), (78, p78), (79, p79), (80, p80)], H) Q := by
  have hl1 := hR.1
  have hM1 : H.get M = some (.map es clock) := by rw [hd.grow.get M hMn]; exact hM
  have hlen : aLenS w = some (vi l.length) := by rw [← hl1]; exact hw.lenS
  repeat (first | apply Wp.seq | apply Wp.blk | apply Wp.ret | apply Wp.skip | apply Wp.exit | apply Wp.cT rfl | apply Wp.cF rfl | ((apply Wp.reg; (repeat (apply Ex.cons; (simp (disch := omega) [-getElem?_pos, hM1, hf, aLookup, lookupDone, hlen]; rfl))); exact Ex.nil; rfl; (simp [-getElem?_pos]; rfl))))
  apply Wp.loop (α := Nat × AHeap × FindD × MapD × Nat) (fun y => [(4, p4), (6, p6), (11, .map M), (16, .ptr F 0 0), (17, .ptr P 0 0), (19, vi place), (20, .ptr I 0 0), (21, vi (y.2.2.2.2 : Nat)), (78, p78), (79, p79), (80, p80), (87, w), (88, vi l.length), (89, vi y.1)]) (·.2.1)
    (fun y => y.1 ≤ l.length ∧ Doing Hb F P I y.2.2.1 mm y.2.2.2.1 y.2.1 ∧ y.2.2.2.2 ≤ y.1 ∧ (l.drop y.1).foldl (doRow place) (y.2.2.1, y.2.2.2.1, y.2.2.2.2) = l.foldl (doRow place) (f, ins, 0)) (fun y => l.length - y.1)
    (0, H, f, ins, 0) rfl ⟨by omega, hd, Nat.le_refl _, rfl⟩ (by simp [-getElem?_pos]; omega) (by simp [-getElem?_pos])
  rintro ⟨j, H2, f2, ins2, k⟩ ⟨hj, hd2, hkj, hfold⟩
  dsimp only at hj hd2 hkj hfold ⊢
  (repeat (first | apply Wp.seq | apply Wp.blk)); (apply Wp.reg; (repeat (apply Ex.cons; (simp (disch := omega) [-getElem?_pos]; rfl))); exact Ex.nil; rfl; (simp [-getElem?_pos]; rfl))
  (repeat (first | apply Wp.seq | apply Wp.blk)); apply Wp.ite rfl
  · intro hjl
    obtain ⟨r, hr⟩ : ∃ r, l[j]? = some r := ⟨_, List.getElem?_eq_getElem (by omega)⟩
    obtain ⟨rc, hrc⟩ : ∃ rc, ocs[j]? = some rc := ⟨_, List.getElem?_eq_getElem (by omega)⟩
    have hRC := hR.2 _ rc r hrc hr
    have hbr : badB m r = false := by
      have := List.any_eq_false.1 hbad r (List.mem_of_getElem? hr)
      simpa [-getElem?_pos] using this
    obtain ⟨q, hq, hq64⟩ : ∃ q : Nat, r.blk = q ∧ q < 64 := by
      unfold badB at hbr
      rw [decide_eq_false_iff_not] at hbr
      exact ⟨r.blk.toNat, by omega, by omega⟩
    obtain ⟨R0, ver0, off, kc, ex, cells, hv, hrow, hc1, hc2⟩ := hw.at hrc
    rw [hl1] at hv
    have hR0 := hwl _ _ _ _ _ _ _ hv
    have hrow2 : H2.rowAt R0 ver0 = some cells := by rw [hd2.grow.rowAt hR0]; exact hrow
    have r5 := hRC.len
    have r0 := hRC.a0
    have r4 := hRC.a4
    rw [hq] at r4
    have rv5 := hRC.av
    have hv32 := hRC.isv.len
    have rt : rc.take 41 = rc := List.take_of_length_le (by omega)
    rw [drop_at hr, List.foldl_cons] at hfold
    obtain ⟨H3, hw1, g3, hcl, hn3⟩ := newCells H2 (z := zrow) (e := rc) r5 (by omega) hRC.one
    have hX := hcl.at
    have hd3 := hd2.move g3
    have hIne : I ≠ H2.next := by have := hd2.hI; omega
    have hFne : F ≠ H2.next := by have := hd2.hF; omega
    have hF3 := hd3.cf.at
    have hF35 : f2.cells.length = 35 := by simp [-getElem?_pos, FindD.cells, hd2.fw.len]
    have hI3 := hd3.ci.at
    have hil : ∀ e ∈ ins2, e.length = 32 := fun e he => (hd2.im.val e he).len
    have hifl := flatten_len hil
    rw [hd2.im.len] at hifl
    obtain ⟨ha1, ha2⟩ := hd2.im.at (b := (q : Int)) (by omega) (by omega)
    rw [Int.toNat_natCast] at ha1
    have hia := flatten_at q _ hil ha1
    apply Wp.skip
    by_cases h6 : r.kind = 6
    · obtain ⟨H4, hw4, hd4, hn4⟩ := hd3.setI hq64 hRC.isv
      have hst : doRow place (f2, ins2, k) r = (f2, ins2.set q r.val, k) := by simp [-getElem?_pos, doRow, h6, hq]
      rw [hst] at hfold
      repeat (first | apply Wp.seq | apply Wp.blk | apply Wp.ret | apply Wp.skip | apply Wp.exit | apply Wp.cT rfl | apply Wp.cF rfl | ((apply Wp.reg; (repeat (apply Ex.cons; (simp (disch := omega) [-getElem?_pos, hv, hrow2, hc2, r5, rt, hw1, hX, r0, r4, rv5, h6, hw4, hI3, hifl, hv32]; rfl))); exact Ex.nil; rfl; (simp [-getElem?_pos]; rfl))))
      exact ⟨(j + 1, H4, f2, ins2.set q r.val, k), rfl, ⟨by show j + 1 ≤ _; omega, hd4, by show k ≤ j + 1; omega, hfold⟩, by show _ - (j + 1) < _ - j; omega, by simp [-getElem?_pos, hv]⟩
    · cases hg : f2.good with
      | false =>
        have hst : doRow place (f2, ins2, k) r = (f2, ins2, k + 1) := by simp [-getElem?_pos, doRow, h6, hg]
        rw [hst] at hfold
        have hF0 : f2.cells[0]? = some (abool false) := by rw [← hg]; rfl
        repeat (first | apply Wp.seq | apply Wp.blk | apply Wp.ret | apply Wp.skip | apply Wp.exit | apply Wp.cT rfl | apply Wp.cF rfl | ((apply Wp.reg; (repeat (apply Ex.cons; (simp (disch := omega) [-getElem?_pos, hv, hrow2, hc2, r5, rt, hw1, hX, r0, r4, h6, hF3, hF35, hF0]; rfl))); exact Ex.nil; rfl; (simp [-getElem?_pos]; rfl))) | ((apply Wp.draw; (repeat (first | ((first | apply Dr.q rfl rfl | apply Dr.r rfl rfl); (simp (disch := omega) [-getElem?_pos, hv, hrow2, hc2, r5, rt, hw1, hX, r0, r4, h6, hF3, hF35, hF0]; rfl); (simp [-getElem?_pos]; rfl)) | (apply Dr.imm rfl; (simp (disch := omega) [-getElem?_pos, hv, hrow2, hc2, r5, rt, hw1, hX, r0, r4, h6, hF3, hF35, hF0]; rfl); (focus first | (simp [-getElem?_pos]; done) | (simp [-getElem?_pos]; omega))))); exact Dr.nil; rfl; (simp (disch := omega) [-getElem?_pos, hv, hrow2, hc2, r5, rt, hw1, hX, r0, r4, h6, hF3, hF35, hF0]); (simp [-getElem?_pos]; rfl))))
        exact ⟨(j + 1, H3, f2, ins2, k + 1), rfl, ⟨by show j + 1 ≤ _; omega, hd3, by show k + 1 ≤ j + 1; omega, hfold⟩, by show _ - (j + 1) < _ - j; omega, by simp [-getElem?_pos, hv]⟩
      | true =>
        have hF0 : f2.cells[0]? = some (abool true) := by rw [← hg]; rfl
        by_cases he : atM ins2 q = r.val
        · have hst : doRow place (f2, ins2, k) r = (f2, ins2, k + 1) := by simp [-getElem?_pos, doRow, h6, hg, hq, he]
          rw [hst] at hfold
          rw [he] at hia
          have hev := eqVal_t hRC.isv
          have hbq : AVal.beqs r.val r.val = true := beqs_bytes hRC.isv.bytes
          repeat (first | apply Wp.seq | apply Wp.blk | apply Wp.ret | apply Wp.skip | apply Wp.exit | apply Wp.cT rfl | apply Wp.cF rfl | ((apply Wp.reg; (repeat (apply Ex.cons; (simp (disch := omega) [-getElem?_pos, hv, hrow2, hc2, r5, rt, hw1, hX, r0, r4, rv5, h6, hF3, hF35, hF0, hI3, hifl, hia, hev, hv32, hbq]; rfl))); exact Ex.nil; rfl; (simp [-getElem?_pos]; rfl))) | ((apply Wp.draw; (repeat (first | ((first | apply Dr.q rfl rfl | apply Dr.r rfl rfl); (simp (disch := omega) [-getElem?_pos, hv, hrow2, hc2, r5, rt, hw1, hX, r0, r4, rv5, h6, hF3, hF35, hF0, hI3, hifl, hia, hev, hv32, hbq]; rfl); (simp [-getElem?_pos]; rfl)) | (apply Dr.imm rfl; (simp (disch := omega) [-getElem?_pos, hv, hrow2, hc2, r5, rt, hw1, hX, r0, r4, rv5, h6, hF3, hF35, hF0, hI3, hifl, hia, hev, hv32, hbq]; rfl); (focus first | (simp [-getElem?_pos]; done) | (simp [-getElem?_pos]; omega))))); exact Dr.nil; rfl; (simp (disch := omega) [-getElem?_pos, hv, hrow2, hc2, r5, rt, hw1, hX, r0, r4, rv5, h6, hF3, hF35, hF0, hI3, hifl, hia, hev, hv32, hbq]); (simp [-getElem?_pos]; rfl))))
          exact ⟨(j + 1, H3, f2, ins2, k + 1), rfl, ⟨by show j + 1 ≤ _; omega, hd3, by show k + 1 ≤ j + 1; omega, hfold⟩, by show _ - (j + 1) < _ - j; omega, by simp [-getElem?_pos, hv]⟩
        · have hst : doRow place (f2, ins2, k) r = (⟨false, place, k, atM ins2 q⟩, ins2, k + 1) := by simp [-getElem?_pos, doRow, h6, hg, hq, he]
          rw [hst] at hfold
          have hev := eqVal_f ha2 hRC.isv he
          have hbq : AVal.beqs r.val r.val = true := beqs_bytes hRC.isv.bytes
          have hbq2 : AVal.beqs (atM ins2 q) (atM ins2 q) = true := beqs_bytes ha2.bytes
          have hq32 := ha2.len
          obtain ⟨H4, hw4, hd4, hn4⟩ := hd3.setF (g := ⟨false, place, k, atM ins2 q⟩) ha2
          simp only [FindD.cells] at hw4
          repeat (first | apply Wp.seq | apply Wp.blk | apply Wp.ret | apply Wp.skip | apply Wp.exit | apply Wp.cT rfl | apply Wp.cF rfl | ((apply Wp.reg; (repeat (apply Ex.cons; (simp (disch := omega) [-getElem?_pos, hv, hrow2, hc2, r5, rt, hw1, hX, r0, r4, rv5, h6, hF3, hF35, hF0, hI3, hifl, hia, hev, hv32, hbq, hbq2, hq32, hw4, aFill, repl]; rfl))); exact Ex.nil; rfl; (simp [-getElem?_pos]; rfl))) | ((apply Wp.draw; (repeat (first | ((first | apply Dr.q rfl rfl | apply Dr.r rfl rfl); (simp (disch := omega) [-getElem?_pos, hv, hrow2, hc2, r5, rt, hw1, hX, r0, r4, rv5, h6, hF3, hF35, hF0, hI3, hifl, hia, hev, hv32, hbq, hbq2, hq32, hw4, aFill, repl]; rfl); (simp [-getElem?_pos]; rfl)) | (apply Dr.imm rfl; (simp (disch := omega) [-getElem?_pos, hv, hrow2, hc2, r5, rt, hw1, hX, r0, r4, rv5, h6, hF3, hF35, hF0, hI3, hifl, hia, hev, hv32, hbq, hbq2, hq32, hw4, aFill, repl]; rfl); (focus first | (simp [-getElem?_pos]; done) | (simp [-getElem?_pos]; omega))))); exact Dr.nil; rfl; (simp (disch := omega) [-getElem?_pos, hv, hrow2, hc2, r5, rt, hw1, hX, r0, r4, rv5, h6, hF3, hF35, hF0, hI3, hifl, hia, hev, hv32, hbq, hbq2, hq32, hw4, aFill, repl]); (simp [-getElem?_pos]; rfl))))
          exact ⟨(j + 1, H4, ⟨false, place, k, atM ins2 q⟩, ins2, k + 1), rfl, ⟨by show j + 1 ≤ _; omega, hd4, by show k + 1 ≤ j + 1; omega, hfold⟩, by show _ - (j + 1) < _ - j; omega, by simp [-getElem?_pos, hv]⟩
  · intro hjl
    apply Wp.exit
    have : l.drop j = [] := List.drop_of_length_le (by omega)
    rw [this, List.foldl_nil] at hfold
    exact hQ _ _ f2 ins2 k (by simp [-getElem?_pos]) hd2 hfold.symm

end Go.Proofs.Ythbjfkkjmecaaaa
namespace Go.Proofs.Ythbjfkkjmecaaaa
open Go Go.Vm
set_option linter.unusedVariables false
set_option linter.unusedSimpArgs false

variable {kn : Known} {env : Nat → Option AFunc}


variable {H H' H1 : AHeap} {N A B M : Nat} {v v0 : AVal} {rows l : List RowD} {rcs ocs : List (List AVal)} {rc : List AVal} {r : RowD} {x : TxD} {sv rv wv : AVal} {m : Int}

/-- The heap between two transactions. -/
structure Between (Hb : AHeap) (F P : Nat) (f : FindD) (mm : MapD) (H : AHeap) : Prop where
  grow : Grow Hb H
  cf : Cells H F f.cells
  cp : Cells H P mm.flatten
  fw : IsVal f.want
  pm : IsMap mm
  hF : Hb.next ≤ F ∧ F < H.next
  hP : Hb.next ≤ P ∧ P < H.next
  ne : F ≠ P

theorem IsMap.flat {mm : MapD} (h : IsMap mm) : mm.flatten.length = 2048 ∧ mm.flatten.all AVal.one = true := by
  refine ⟨by rw [flatten_len fun e he => (h.val e he).len, h.len], ?_⟩
  exact flatten_all fun e he => (h.val e he).one

/-- A copy is begun. -/
theorem Between.begin {Hb H : AHeap} {F P : Nat} {f : FindD} {mm : MapD} (h : Between Hb F P f mm H) : ∃ H', (H.push (.row [some (0, List.replicate 2048 zb)])).write H.next 0 0 mm.flatten = some H' ∧ Doing Hb F P H.next f mm mm H' ∧ H'.next = H.next + 1 := by
  obtain ⟨h1, h2⟩ := h.pm.flat
  obtain ⟨H', hw, hg, hc, hn⟩ := newCells H (z := List.replicate 2048 zb) (e := mm.flatten) (by rw [h1, List.length_replicate]) (by omega) h2
  have hF := h.hF
  have hP := h.hP
  refine ⟨H', hw, ⟨h.grow.trans hg, by unfold Cells; rw [hg.get F hF.2]; exact h.cf, by unfold Cells; rw [hg.get P hP.2]; exact h.cp, hc, h.fw, h.pm, h.pm, ⟨hF.1, by omega⟩, ⟨hP.1, by omega⟩, ⟨h.grow.next, by omega⟩, h.ne, by omega, by omega⟩, hn⟩

/-- The copy becomes the map. -/
theorem Doing.done {Hb H : AHeap} {F P I : Nat} {f : FindD} {mm ins : MapD} (h : Doing Hb F P I f mm ins H) : ∃ H', H.write P 0 0 ins.flatten = some H' ∧ Between Hb F P f ins H' ∧ H'.next = H.next := by
  obtain ⟨h1, h2⟩ := h.im.flat
  obtain ⟨h3, h4⟩ := h.pm.flat
  obtain ⟨n1, n2, n3⟩ := h.ne
  refine ⟨_, Cells.write h.cp (by omega) (by omega) h2, ⟨h.grow.set h.hP.1 _, ?_, ?_, h.fw, h.im, h.hF, h.hP, n1⟩, rfl⟩
  · unfold Cells; rw [AHeap.get_set_ne _ _ n1]; exact h.cf
  · unfold Cells; rw [AHeap.get_set_same]; simp only [spl, List.take_zero, List.nil_append, Nat.zero_add]; rw [List.drop_of_length_le (by omega), List.append_nil]

theorem doTx_eq {txs : List TxD} {f f' : FindD} {mm ins' : MapD} {p : Int} {k' : Nat} (h : (ownAt rows txs p).foldl (doRow p) (f, mm, 0) = (f', ins', k')) : doTx rows txs (f, mm) p = (f', ins') := by
  unfold doTx; simp only [h]

set_option maxHeartbeats 2000000 in
theorem byOut {or : Oracle} {n : Nat} {Q : Exit → KS → Prop} {Hb : AHeap} {F P : Nat} {f : FindD} {mm : MapD} (hd : Between Hb F P f mm H) {ov p4 p6 : AVal} {order : List Int} (ho : RdE Hb 1 ov (ints order)) (hol : ov.lies (· < Hb.next)) (hm : m ≤ 64) {txs : List TxD} {es : AEntries} {clock : Nat} (hM : Hb.get M = some (.map es clock)) (hMn : M < Hb.next)
    (how : OwnOk Hb N rows m txs es order) (hol2 : order.length < 40000000000000) (hrl : rows.length < 400000000000) (hn : order.length + rows.length + 10 < n)
    (hQ : ∀ l' H' f' mm', SubK [(4, p4), (6, p6), (16, .ptr F 0 0), (17, .ptr P 0 0)] l' → Between Hb F P f' mm' H' → order.foldl (doTx rows txs) (f, mm) = (f', mm') → Q .normal (l', H')) :
    Wp or n 128 C30 (fstC by8) ([(2, ov), (4, p4), (6, p6), (11, .map M), (16, .ptr F 0 0), (17, .ptr P 0 0)], H) Q := by
  have hlen : aLenS ov = some (vi order.length) := by have := ho.lenS; simpa [-getElem?_pos, -List.reduceReplicate] using this
  repeat (first | apply Wp.seq | apply Wp.blk | apply Wp.ret | apply Wp.skip | apply Wp.exit | apply Wp.cT rfl | apply Wp.cF rfl | ((apply Wp.reg; (repeat (apply Ex.cons; (simp (disch := omega) [-getElem?_pos, -List.reduceReplicate, hlen]; rfl))); exact Ex.nil; rfl; (simp [-getElem?_pos, -List.reduceReplicate]; rfl))))
  apply Wp.loop (α := Nat × AHeap × FindD × MapD) (fun y => [(4, p4), (6, p6), (11, .map M), (16, .ptr F 0 0), (17, .ptr P 0 0), (78, ov), (79, vi order.length), (80, vi y.1)]) (·.2.1)
    (fun y => y.1 ≤ order.length ∧ Between Hb F P y.2.2.1 y.2.2.2 y.2.1 ∧ (order.drop y.1).foldl (doTx rows txs) (y.2.2.1, y.2.2.2) = order.foldl (doTx rows txs) (f, mm)) (fun y => order.length - y.1)
    (0, H, f, mm) rfl ⟨by omega, hd, rfl⟩ (by simp [-getElem?_pos, -List.reduceReplicate]; omega) (by simp [-getElem?_pos, -List.reduceReplicate])
  rintro ⟨j, H2, f2, mm2⟩ ⟨hj, hd2, hfold⟩
  dsimp only at hj hd2 hfold ⊢
  (repeat (first | apply Wp.seq | apply Wp.blk)); (apply Wp.reg; (repeat (apply Ex.cons; (simp (disch := omega) [-getElem?_pos, -List.reduceReplicate]; rfl))); exact Ex.nil; rfl; (simp [-getElem?_pos, -List.reduceReplicate]; rfl))
  (repeat (first | apply Wp.seq | apply Wp.blk)); apply Wp.ite rfl
  · intro hjl
    obtain ⟨p, hp⟩ : ∃ p, order[j]? = some p := ⟨_, List.getElem?_eq_getElem (by omega)⟩
    obtain ⟨w, b, ocs, he, hf, hws, hwR⟩ := how.find hp
    obtain ⟨R0, ver0, off, kc, ex, cells, hv, hrow, hc1, hc2⟩ := ho.at (i := j) (e := [vi p]) (by rw [List.getElem?_map, hp]; rfl)
    simp only [List.length_map] at hv
    have hR0 := hol _ _ _ _ _ _ _ hv
    have hrow2 : H2.rowAt R0 ver0 = some cells := by rw [hd2.grow.rowAt hR0]; exact hrow
    rw [Nat.mul_one] at hc1 hc2
    have hc3 : cells[off + j]? = some (vi p) := by
      have : (List.take 1 (List.drop (off + j) cells))[0]? = some (vi p) := by rw [hc2]; rfl
      rw [List.getElem?_take, if_pos (by omega), List.getElem?_drop] at this
      exact this
    obtain ⟨hfl1, hfl2⟩ := hd2.pm.flat
    have hP2 := hd2.cp.at
    have hbq : mm2.flatten.take 2048 = mm2.flatten := List.take_of_length_le (by omega)
    obtain ⟨H3, hw3, hd3, hn3⟩ := hd2.begin
    have hwlen := how.rows_ j _ p he hp
    have hok := how.ok p (List.mem_of_getElem? hp)
    have hown : (ownAt rows txs p).length ≤ rows.length := by
      unfold ownAt
      split
      · rename_i x _; unfold ownD; have := ownB_le x.client (rows.drop (x.begun + 1).toNat); simp [-getElem?_pos, -List.reduceReplicate] at this; omega
      · simp [-getElem?_pos, -List.reduceReplicate]
    rw [drop_at hp, List.foldl_cons] at hfold
    apply Wp.skip
    (repeat (first | apply Wp.seq | apply Wp.blk)); (apply Wp.reg; (repeat (apply Ex.cons; (simp (disch := omega) [-getElem?_pos, -List.reduceReplicate, hv, hrow2, hc3]; rfl))); exact Ex.nil; rfl; (simp [-getElem?_pos, -List.reduceReplicate]; rfl))
    (repeat (first | apply Wp.seq | apply Wp.blk)); (apply Wp.reg; (repeat (apply Ex.cons; (simp (disch := omega) [-getElem?_pos, -List.reduceReplicate, hP2, hfl1, hbq, hw3]; rfl))); exact Ex.nil; rfl; (simp [-getElem?_pos, -List.reduceReplicate]; rfl))
    (repeat (first | apply Wp.seq | apply Wp.blk)); (apply Wp.reg; (repeat (apply Ex.cons; (simp (disch := omega) [-getElem?_pos, -List.reduceReplicate]; rfl))); exact Ex.nil; rfl; (simp [-getElem?_pos, -List.reduceReplicate]; rfl))
    apply Wp.seq
    refine Wp.sub [(4, p4), (6, p6), (11, .map M), (16, .ptr F 0 0), (17, .ptr P 0 0), (19, vi p), (20, .ptr H2.next 0 0), (21, vi 0), (78, ov), (79, vi order.length), (80, vi j)] ?_ (by simp [-getElem?_pos, -List.reduceReplicate, hv])
    refine byIn hd3 hws.rd (fun R ver off len kc ex esz e => (hws.lies R ver off len kc ex esz e).2) hwR hok.2.2 hm hM hMn hf (by omega) (by omega) fun l' H' f' ins' k' hsub hd' hT => ?_
    obtain ⟨H4, hw4, hb4, hn4⟩ := hd'.done
    obtain ⟨hf1, hf2⟩ := hd'.im.flat
    have hI' := hd'.ci.at
    have hbq' : ins'.flatten.take 2048 = ins'.flatten := List.take_of_length_le (by omega)
    rw [doTx_eq hT] at hfold
    refine Wp.sub [(4, p4), (6, p6), (11, .map M), (16, .ptr F 0 0), (17, .ptr P 0 0), (20, .ptr H2.next 0 0), (78, ov), (79, vi order.length), (80, vi j)] ?_ hsub
    repeat (first | apply Wp.seq | apply Wp.blk | apply Wp.ret | apply Wp.skip | apply Wp.exit | apply Wp.cT rfl | apply Wp.cF rfl | ((apply Wp.reg; (repeat (apply Ex.cons; (simp (disch := omega) [-getElem?_pos, -List.reduceReplicate, hI', hf1, hbq', hw4]; rfl))); exact Ex.nil; rfl; (simp [-getElem?_pos, -List.reduceReplicate]; rfl))))
    exact ⟨(j + 1, H4, f', ins'), rfl, ⟨by show j + 1 ≤ _; omega, hb4, hfold⟩, by show _ - (j + 1) < _ - j; omega, by simp [-getElem?_pos, -List.reduceReplicate]⟩
  · intro hjl
    apply Wp.exit
    have : order.drop j = [] := List.drop_of_length_le (by omega)
    rw [this, List.foldl_nil] at hfold
    exact hQ _ _ f2 mm2 (by simp [-getElem?_pos, -List.reduceReplicate]) hd2 hfold.symm

end Go.Proofs.Ythbjfkkjmecaaaa
namespace Go.Proofs.Ythbjfkkjmecaaaa
open Go Go.Vm
set_option linter.unusedVariables false
set_option linter.unusedSimpArgs false

variable {kn : Known} {env : Nat → Option AFunc}

variable {H H' H1 : AHeap} {N A B M : Nat} {v v0 ov tv : AVal} {rows l : List RowD} {rcs ocs tvs : List (List AVal)} {rc : List AVal} {r : RowD} {x : TxD} {sv rv wv : AVal} {m : Int} {txs : List TxD} {o : Nat → Nat} {order : List Int}

/-! ### Where transactions begin -/

theorem stepD_begun {b b' : List TxD} {i : Int} {Pr : Int → Prop} (h : ∀ x ∈ b, Pr x.begun) (hi : Pr i) (hs : stepD b i r = some b') : ∀ x ∈ b', Pr x.begun := by
  have upd : ∀ {k : Nat} {x y : TxD}, b[k]? = some x → y.begun = x.begun → ∀ z ∈ b.set k y, Pr z.begun := fun hx hy z hz => by
    rcases List.mem_or_eq_of_mem_set hz with hz | rfl
    · exact h z hz
    · rw [hy]; exact h _ (List.mem_of_getElem? hx)
  have updB' : ∀ (k : Nat) (f : TxD → TxD), (∀ x, (f x).begun = x.begun) → ∀ z ∈ updB b k f, Pr z.begun := fun k f hf => by
    unfold updB
    split
    · rename_i x hx; exact upd hx (hf x)
    · exact h
  have mp : ∀ (f : TxD → TxD), (∀ x, (f x).begun = x.begun) → ∀ z ∈ b.map f, Pr z.begun := fun f hf z hz => by
    obtain ⟨x, hx, rfl⟩ := List.mem_map.1 hz
    rw [hf]; exact h x hx
  unfold stepD at hs
  split at hs
  · unfold stepC at hs
    split at hs
    · cases hs
    · split at hs
      · split at hs
        · cases hs
        · cases hs; exact h
      · split at hs
        · split at hs
          · cases hs
          · cases hs
            intro x hx
            rcases List.mem_append.1 hx with hx | hx
            · exact h x hx
            · simp [-getElem?_pos] at hx; subst hx; exact hi
        · obtain ⟨k, _, rfl⟩ := Option.map_eq_some_iff.1 hs
          split
          · exact updB' k _ fun _ => rfl
          · split
            · exact updB' k _ fun _ => rfl
            · split
              · exact updB' k _ fun _ => rfl
              · split
                · exact updB' k _ fun _ => rfl
                · exact h
  · split at hs
    · obtain ⟨k, _, hs⟩ := Option.bind_eq_some_iff.1 hs
      obtain ⟨x, hx, hs⟩ := Option.bind_eq_some_iff.1 hs
      split at hs
      · cases hs
        split
        · exact upd hx rfl
        · exact h
      · cases hs
    · split at hs
      · obtain ⟨k, _, hs⟩ := Option.bind_eq_some_iff.1 hs
        obtain ⟨x, hx, hs⟩ := Option.bind_eq_some_iff.1 hs
        split at hs
        · cases hs; exact upd hx rfl
        · cases hs
      · split at hs
        · cases hs; exact mp _ fun x => by split <;> rfl
        · split at hs
          · cases hs; exact mp _ fun x => by split <;> rfl
          · cases hs; exact h

theorem stepsD_begun : ∀ {l : List RowD} {b b' : List TxD} {k n : Nat}, k + l.length ≤ n → (∀ x ∈ b, ∃ q : Nat, x.begun = q ∧ q < n) → stepsD b k l = some b' → ∀ x ∈ b', ∃ q : Nat, x.begun = q ∧ q < n
  | [], b, b', k, n, _, h, hs => by cases hs; exact h
  | r :: l, b, b', k, n, hn, h, hs => by
    obtain ⟨b1, h1, h2⟩ := Option.bind_eq_some_iff.1 hs
    simp [-getElem?_pos] at hn
    exact stepsD_begun (k := k + 1) (by omega) (stepD_begun (Pr := fun z => ∃ q : Nat, z = q ∧ q < n) h ⟨k, rfl, by omega⟩ h1) h2

theorem txsD_begun (h : txsD rows = some txs) : ∀ x ∈ txs, ∃ q : Nat, x.begun = q ∧ q < rows.length := fun x hx => by
  unfold txsD at h
  obtain ⟨b, h1, rfl⟩ := Option.map_eq_some_iff.1 h
  obtain ⟨y, hy, rfl⟩ := List.mem_map.1 hx
  have := stepsD_begun (n := rows.length) (by omega) (by simp [-getElem?_pos]) h1 y hy
  unfold endD
  split <;> exact this

/-! ### Plain -/

theorem okO_at (h : okO rows m txs order) {j : Nat} {p : Int} (hp : order[j]? = some p) : p ∉ order.take j ∧ okP rows m txs p := by
  refine ⟨fun hm => ?_, h.2 p (List.mem_of_getElem? hp)⟩
  have hn := h.1
  obtain ⟨i, hi, he⟩ := List.getElem_of_mem hm
  have hj := (List.getElem?_eq_some_iff.1 hp).1
  simp [-getElem?_pos] at hi
  rw [List.getElem_take] at he
  have h2 : order[j] = p := (List.getElem?_eq_some_iff.1 hp).2
  exact List.pairwise_iff_getElem.1 hn i j (by omega) hj (by omega) (he.trans h2.symm)

theorem SetV.one {H : AHeap} {l : List Int} (h : SetV H N v l) : v.one = true := by
  rcases h with h | ⟨_, R, rfl, _⟩
  · exact h.rd.one
  · rfl

theorem find_end {es : AEntries} {ps : List Int} {p : Int} {w : AVal} {b : Nat} (hk : es.map (·.1) = ps.map vi) (hn : ps.Nodup) (hp : p ∉ ps) : aFind .i64 p (es ++ [(vi p, w, b)]) 0 = some (some (es.length, w, b)) := by
  have hkeys : (es ++ [(vi p, w, b)]).map (·.1) = (ps ++ [p]).map vi := by simp [-getElem?_pos, hk]
  have hnd : (ps ++ [p]).Nodup := List.nodup_append.2 ⟨hn, by simp [-getElem?_pos], fun a ha b hb => by simp [-getElem?_pos] at hb; subst hb; exact fun e => hp (by rw [← e]; exact ha)⟩
  have := find_at (i := 0) (c := p) (p := es.length) (v := w) (bn := b) (es := es ++ [(vi p, w, b)]) (fun e he => by
    have : e.1 ∈ (es ++ [(vi p, w, b)]).map (·.1) := List.mem_map_of_mem (f := fun e : AVal × AVal × Nat => e.1) he
    rw [hkeys] at this
    obtain ⟨q, _, hq⟩ := List.mem_map.1 this
    exact ⟨q, hq.symm⟩) (by rw [hkeys]; exact nodup_vi hnd) (by rw [List.getElem?_concat_length])
  rw [Nat.zero_add] at this
  exact this

end Go.Proofs.Ythbjfkkjmecaaaa
