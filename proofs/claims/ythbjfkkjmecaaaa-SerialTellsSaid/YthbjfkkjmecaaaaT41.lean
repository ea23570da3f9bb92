/- Walks: By. -/
import Derived.Test.YthbjfkkjmecaaaaT40
import Derived.Test.YthbjfkkjmecaaaaT39
set_option linter.unusedVariables false
set_option linter.unusedSimpArgs false
namespace Go.Proofs.Ythbjfkkjmecaaaa
open Go Go.Vm
variable {kn : Known} {env : Nat → Option AFunc}
variable {H H' H1 : AHeap} {N A B M : Nat} {v v0 ov tv : AVal} {rows l : List RowD} {rcs ocs tvs : List (List AVal)} {rc : List AVal} {r : RowD} {x : TxD} {sv rv wv : AVal} {m : Int} {txs : List TxD} {o : Nat → Nat} {order : List Int}
theorem zeroM_flat : zeroM.flatten = List.replicate 2048 zb := by rw [List.flatten_replicate_replicate]
structure ByE (kn : Known) (env : Nat → Option AFunc) : Prop extends RowE kn env where
  f33 : Fn kn env 33 a33
  f61 : Fn kn env 61 a61
  f65 : Fn kn env 65 a65
  f62 : Fn kn env 62 a62
  f63 : Fn kn env 63 a63
  f84 : Fn kn env 84 a84
  f64 : Fn kn env 64 a64
  f66 : Fn kn env 66 a66
  f30 : Fn kn env 30 a30
set_option maxHeartbeats 2000000 in
theorem c30 (E : ByE kn env) (n : Nat) (hins : InsC (callM kn env (n + 2))) (hrows : RowsAt H H.next v0 rows) (ho : RdE H 1 ov (ints order)) (hol : ov.lies (· < H.next)) (hr : rows.length < 400000000000) (ho2 : order.length < 40000000000000) (hn : rows.length + order.length + 30 < n) :
    ∃ v H', callM kn env (n + 7) (.func (.func 30) []) [v0, vi m, ov] H = some (v, H') ∧ Grow H H' ∧ ByRes H' H.next (byD rows m order) v := by
  obtain ⟨H1, hH1⟩ : ∃ H1, H1 = (H.push (.row [some (0, [vi m])])).push (.row [some (0, zfind)]) := ⟨_, rfl⟩
  have hn1 : H1.next = H.next + 2 := by rw [hH1]; simp [-getElem?_pos, -List.reduceReplicate]
  have hg1 : Grow H H1 := by rw [hH1]; exact (Grow.push _ _).trans (Grow.push _ _)
  have hB4 : H1.rowAt H.next 0 = some [vi m] := by rw [hH1]; simp (disch := omega) [-getElem?_pos, -List.reduceReplicate]
  have hB6 : Cells H1 (H.next + 1) zfind := by rw [hH1]; show AHeap.get _ _ = _; simp (disch := omega) [-getElem?_pos, -List.reduceReplicate]
  have h61 := c61 (H := H1) E.f61 (n + 5) m
  obtain ⟨rcs, hrd, hlies, hrlen, hat⟩ := hrows
  obtain ⟨v, H', h1, h2, h3⟩ := Wp.call (R := fun v H' => Grow H H' ∧ ByRes H' H.next (byD rows m order) v) 128 C30 E.f30.e (E.f30.no [v0, vi m, ov] H) (n := n + 6) rfl (by simp [-getElem?_pos, -List.reduceReplicate]) (by
    by_cases hm : 1 ≤ m ∧ m ≤ 64
    · have hd : decide (1 ≤ m ∧ m ≤ 64) = true := by simpa [-getElem?_pos, -List.reduceReplicate] using hm
      rw [hd] at h61
      have hrd1 := hrd.grow hg1 hlies
      have hl1 : v0.lies (· < H1.next) := fun R ver off len kc ex esz e => by have := hlies R ver off len kc ex esz e; omega
      have hrows1 : RowsAt H1 H1.next v0 rows := ⟨rcs, hrd1, hl1, hrlen, fun k rc r a b => by
        obtain ⟨q1, sv, q2⟩ := hat k rc r a b
        have q3 := q2.move (H' := H1) fun A hA => hg1.get A hA
        exact ⟨q1, sv, q3.at_, q3.rd, fun R ver off len kc ex esz e => by have := q3.lies R ver off len kc ex esz e; omega, q3.len⟩⟩
      obtain ⟨t33, H2, h33, hg2, hres⟩ := c33 E.toRowE E.f33 n (H := H1) hins hrows1 hr (by omega)
      have hrc : RowsC rcs rows := ⟨hrlen, fun k c r a b => (hat k c r a b).1⟩
      have hB6' : Cells H2 (H.next + 1) zfind := by unfold Cells; rw [hg2.get _ (by omega)]; exact hB6
      have hg02 := hg1.trans hg2
      have hwf : ∀ H3, Grow H2 H3 → H3.write (H.next + 1) 0 0 zfind = some (H3.set (H.next + 1) (.row [some (0, zfind)])) := fun H3 hg => by
        have hb : Cells H3 (H.next + 1) zfind := by unfold Cells; rw [hg.get _ (by have := hg2.next; omega)]; exact hB6'
        rw [Cells.write hb (by simp [-getElem?_pos, -List.reduceReplicate]) (by simp [-getElem?_pos, -List.reduceReplicate]) rfl]; simp [-getElem?_pos, -List.reduceReplicate, spl]
      repeat (first | apply Wp.seq | apply Wp.blk)
      (repeat (first | apply Wp.seq | apply Wp.blk)); (apply Wp.reg; (repeat (apply Ex.cons; (simp (disch := omega) [-getElem?_pos, -List.reduceReplicate]; rfl))); exact Ex.nil; rfl; (simp; rfl))
      rw [← hH1]
      cases ht : txsD rows with
      | none =>
        rw [ht] at hres
        have hres' : t33 = .tuple [anil, vi 230] := hres
        rw [hres'] at h33
        have hw2 := hwf H2 (Grow.refl _)
        repeat (first | apply Wp.seq | apply Wp.blk | apply Wp.ret | apply Wp.skip | apply Wp.exit | apply Wp.cT rfl | apply Wp.cF rfl | ((apply Wp.reg; (repeat (apply Ex.cons; (simp (disch := omega) [-getElem?_pos, -List.reduceReplicate, h61, hB4, aFill, h33, hw2]; rfl))); exact Ex.nil; rfl; (simp; rfl))))
        have hbd : byD rows m order = .error 230 := by unfold byD; rw [if_neg (by simpa [-getElem?_pos, -List.reduceReplicate] using hm), ht]
        rw [hbd]
        simp [-getElem?_pos, -List.reduceReplicate, a30, ByRes]
        exact ⟨hg02.set (by omega) _, rfl⟩
      | some txs =>
        rw [ht] at hres
        obtain ⟨tv, tvs, o, htv, hts, htl, hta⟩ := hres
        rw [htv] at h33
        (repeat (first | apply Wp.seq | apply Wp.blk)); (apply Wp.reg; (repeat (apply Ex.cons; (simp (disch := omega) [-getElem?_pos, -List.reduceReplicate, h61, hB4]; rfl))); exact Ex.nil; rfl; (simp; rfl))
        apply Wp.cF rfl
        apply Wp.skip
        (repeat (first | apply Wp.seq | apply Wp.blk)); (apply Wp.reg; (repeat (apply Ex.cons; (simp (disch := omega) [-getElem?_pos, -List.reduceReplicate, h33]; rfl))); exact Ex.nil; rfl; (simp; rfl))
        (repeat (first | apply Wp.seq | apply Wp.blk)); (apply Wp.reg; (repeat (apply Ex.cons; (simp (disch := omega) [-getElem?_pos, -List.reduceReplicate]; rfl))); exact Ex.nil; rfl; (simp; rfl))
        apply Wp.cF rfl
        apply Wp.skip
        (repeat (first | apply Wp.seq | apply Wp.blk)); (apply Wp.reg; (repeat (apply Ex.cons; (simp (disch := omega) [-getElem?_pos, -List.reduceReplicate]; rfl))); exact Ex.nil; rfl; (simp; rfl))
        apply Wp.seq
        have hbeg := txsD_begun ht
        have hB4n : H.next < H2.next := by have := hg2.next; omega
        have hB6n : H.next + 1 < H2.next := by have := hg2.next; omega
        have hB42 : H2.rowAt H.next 0 = some [vi m] := by rw [hg2.rowAt (by omega)]; exact hB4
        refine Wp.sub [(0, v0), (2, ov), (4, .ptr H.next 0 0), (6, .ptr (H.next + 1) 0 0), (9, tv), (11, .map H2.next)] ?_ (by simp [-getElem?_pos, -List.reduceReplicate])
        refine byOwn E.f62 E.f63 E.f84 E.f64 (n + 3) (N := H1.next) (m := m) (order := order) (txs := txs) (o := o) (tvs := tvs) (rcs := rcs) (rows := rows) (hrd1.grow hg2 hl1) (fun R ver off len kc ex esz e => by have := hl1 R ver off len kc ex esz e; have := hg2.next; omega) hrc hts hta hbeg (ho.grow hg02 hol) (fun R ver off len kc ex esz e => by have := hol R ver off len kc ex esz e; omega) hB42 hB4n hB6' hB6n hr ho2 (by omega) (fun hno l' H3 hg3 hsub => ?_) (fun hok l' H3 es clock hsub hg3 hM hnM how => ?_)
        · have hbd : byD rows m order = .error 230 := by unfold byD; rw [if_neg (by simpa [-getElem?_pos, -List.reduceReplicate] using hm), ht]; simp only [if_neg hno]
          rw [hbd]
          have e6 := hsub.look 6 _ rfl
          have e7 := hsub.look 7 _ rfl
          have e8 := hsub.look 8 _ rfl
          simp only [QSeq]
          simp [-getElem?_pos, -List.reduceReplicate, a30, e6, e7, e8, ByRes]
          exact ⟨(hg02.trans hg3).set (by omega) _, rfl⟩
        · refine Wp.sub [(2, ov), (4, .ptr H.next 0 0), (6, .ptr (H.next + 1) 0 0), (11, .map H2.next)] ?_ hsub
          obtain ⟨H4, h65, hg4⟩ := c65 (H := H3) E.f65 (n + 5)
          obtain ⟨H5, hw5, hg5, hc5, hn5⟩ := newCells H4 (z := zfind) (e := gfind) rfl (by simp [-getElem?_pos, -List.reduceReplicate]) rfl
          (repeat (first | apply Wp.seq | apply Wp.blk)); (apply Wp.reg; (repeat (apply Ex.cons; (simp (disch := omega) [-getElem?_pos, -List.reduceReplicate, h65, hw5]; rfl))); exact Ex.nil; rfl; (simp; rfl))
          (repeat (first | apply Wp.seq | apply Wp.blk)); (apply Wp.reg; (repeat (apply Ex.cons; (simp (disch := omega) [-getElem?_pos, -List.reduceReplicate]; rfl))); exact Ex.nil; rfl; (simp; rfl))
          apply Wp.seq
          have hn4 := hg4.next
          have hb6 : Between H3 H4.next H5.next goodF zeroM (H5.push (.row [some (0, List.replicate 2048 zb)])) := by
            refine ⟨(hg4.trans hg5).trans (Grow.push _ _), ?_, ?_, zeroV_is, zeroM_is, ⟨hn4, by simp [-getElem?_pos, -List.reduceReplicate]; omega⟩, ⟨by omega, by simp [-getElem?_pos, -List.reduceReplicate]⟩, by omega⟩
            · unfold Cells; rw [AHeap.get_push_ne _ _ (by omega)]; exact hc5
            · unfold Cells; rw [AHeap.get_push_same, zeroM_flat]
          refine Wp.sub [(2, ov), (4, .ptr H.next 0 0), (6, .ptr (H.next + 1) 0 0), (11, .map H2.next), (16, .ptr H4.next 0 0), (17, .ptr H5.next 0 0)] ?_ (by simp [-getElem?_pos, -List.reduceReplicate])
          have hg03 := hg02.trans hg3
          refine byOut hb6 (ov := ov) (order := order) (rows := rows) (m := m) (txs := txs) (N := H2.next + 1) (ho.grow hg03 hol) (fun R ver off len kc ex esz e => by have := hol R ver off len kc ex esz e; have := hg03.next; omega) (by omega) hM hnM how ho2 hr (by omega) fun l'' H7 f' mm' hsub2 hb7 hT => ?_
          obtain ⟨q, rfl⟩ : ∃ q : Nat, m = q := ⟨m.toNat, by omega⟩
          have hn3 := hg3.next
          have hn2 := hg2.next
          have hn5' := hg5.next
          have hn7 := hb7.grow.next
          have hg07 := hg03.trans hb7.grow
          have hB47 : H7.rowAt H.next 0 = some [vi q] := by rw [(hg3.trans hb7.grow).rowAt hB4n]; exact hB42
          have hB67 : Cells H7 (H.next + 1) zfind := by unfold Cells; rw [(hg3.trans hb7.grow).get _ hB6n]; exact hB6'
          have hF7 := hb7.cf.at
          have hP7 := hb7.cp.at
          obtain ⟨hpl, _⟩ := hb7.pm.flat
          have hml := hb7.pm.len
          have hel : ∀ e ∈ mm', e.length = 32 := fun e he => (hb7.pm.val e he).len
          have hF35 : f'.cells.length = 35 := by simp [-getElem?_pos, -List.reduceReplicate, FindD.cells, hb7.fw.len]
          have hFt : f'.cells.take 35 = f'.cells := List.take_of_length_le (by omega)
          have hbq : AVal.beqs f'.cells f'.cells = true := by simp [-getElem?_pos, -List.reduceReplicate, FindD.cells, beqs_bytes hb7.fw.bytes]
          have hrdm : RdE H7 32 (.slice H5.next 0 0 q 64 true 32) (mm'.take q) := by
            refine ⟨fun e he => hel e (List.mem_of_mem_take he), .inr ⟨H5.next, 0, 0, 64, true, mm'.flatten, by rw [List.length_take, Nat.min_eq_left (by omega)], hP7, by rw [List.length_take]; omega, by rw [List.length_take, hpl]; omega, ?_⟩⟩
            rw [List.drop_zero, List.length_take, Nat.min_eq_left (by omega), flatten_take q hel]
          obtain ⟨mv, H8, h66, hg8, hs8⟩ := c66 (H := H7) E.f66 (n + 5) hrdm (fun R ver off len kc ex esz e => by cases e; exact hb7.hP.2) (fun e => by have := congrArg List.length e; rw [List.length_take, List.length_nil] at this; omega) (fun e he => (hb7.pm.val e (List.mem_of_mem_take he)).one) (by rw [List.length_take]; omega)
          have hn8 := hg8.next
          have hF8 : H8.rowAt H4.next 0 = some f'.cells := by rw [hg8.rowAt hb7.hF.2]; exact hF7
          have hP8 : H8.rowAt H5.next 0 = some mm'.flatten := by rw [hg8.rowAt hb7.hP.2]; exact hP7
          have hB48 : H8.rowAt H.next 0 = some [vi q] := by rw [hg8.rowAt (by omega)]; exact hB47
          have hB68 : Cells H8 (H.next + 1) zfind := by unfold Cells; rw [hg8.get _ (by omega)]; exact hB67
          have hw8 : H8.write (H.next + 1) 0 0 f'.cells = some (H8.set (H.next + 1) (.row [some (0, f'.cells)])) := by
            rw [Cells.write hB68 (by omega) (by simp [-getElem?_pos, -List.reduceReplicate, hF35]) (by simp only [FindD.cells, List.all_cons, hb7.fw.one, Bool.and_true]; rfl)]
            have : spl zfind 0 f'.cells = f'.cells := by
              simp only [spl, List.take_zero, List.nil_append, Nat.zero_add, hF35]; simp [-getElem?_pos, -List.reduceReplicate]
            rw [this]
          have hF9 : H4.next ≠ H.next + 1 := by omega
          have hP9 : H5.next ≠ H.next + 1 := by omega
          have hbd : byD rows q order = .ok (f', mm'.take q) := by
            unfold byD; rw [if_neg (by simpa [-getElem?_pos, -List.reduceReplicate] using hm), ht]; simp only [if_pos hok, hT]; rfl
          rw [hbd]
          refine Wp.sub [(4, .ptr H.next 0 0), (6, .ptr (H.next + 1) 0 0), (16, .ptr H4.next 0 0), (17, .ptr H5.next 0 0)] ?_ hsub2
          repeat (first | apply Wp.seq | apply Wp.blk | apply Wp.ret | apply Wp.skip | apply Wp.exit | apply Wp.cT rfl | apply Wp.cF rfl | ((apply Wp.reg; (repeat (apply Ex.cons; (simp (disch := omega) [-getElem?_pos, -List.reduceReplicate, hF7, hP7, hB47, hF35, hFt, hbq, h66, hF8, hP8, hB48, hw8, aSliceA, aBoundO, aBound, hpl]; rfl))); exact Ex.nil; rfl; (simp; rfl))) | ((apply Wp.draw; (repeat (first | ((first | apply Dr.q rfl rfl | apply Dr.r rfl rfl); (simp (disch := omega) [-getElem?_pos, -List.reduceReplicate, hF7, hP7, hB47, hF35, hFt, hbq, h66, hF8, hP8, hB48, hw8, aSliceA, aBoundO, aBound, hpl]; rfl); (simp; rfl)) | (apply Dr.imm rfl; (simp (disch := omega) [-getElem?_pos, -List.reduceReplicate, hF7, hP7, hB47, hF35, hFt, hbq, h66, hF8, hP8, hB48, hw8, aSliceA, aBoundO, aBound, hpl]; rfl); (focus first | (simp [-getElem?_pos, -List.reduceReplicate]; done) | (simp [-getElem?_pos, -List.reduceReplicate]; omega))))); exact Dr.nil; rfl; (simp (disch := omega) [-getElem?_pos, -List.reduceReplicate, hF7, hP7, hB47, hF35, hFt, hbq, h66, hF8, hP8, hB48, hw8, aSliceA, aBoundO, aBound, hpl]); (simp; rfl))))
          have hs9 : SliceE (H8.set (H.next + 1) (.row [some (0, f'.cells)])) H.next 32 mv (mm'.take q) := hs8.move (by omega) (Nat.le_refl _) fun A hA _ => by rw [AHeap.get_set_ne _ _ (by omega)]
          simp [-getElem?_pos, -List.reduceReplicate, a30, ByRes, hF35, hFt]
          exact ⟨(hg07.trans hg8).set (by omega) _, hs9, hb7.fw, fun e he => hb7.pm.val e (List.mem_of_mem_take he)⟩
    · have hbd : byD rows m order = .error 2 := by unfold byD; rw [if_pos hm]
      rw [hbd]
      have hwf : H1.write (H.next + 1) 0 0 zfind = some (H1.set (H.next + 1) (.row [some (0, zfind)])) := by
        rw [Cells.write hB6 (by simp [-getElem?_pos, -List.reduceReplicate]) (by simp [-getElem?_pos, -List.reduceReplicate]) rfl]; simp [-getElem?_pos, -List.reduceReplicate, spl]
      have hd : decide (1 ≤ m ∧ m ≤ 64) = false := by simpa [-getElem?_pos, -List.reduceReplicate] using hm
      rw [hd] at h61
      have hX := hB6.at
      repeat (first | apply Wp.seq | apply Wp.blk)
      (repeat (first | apply Wp.seq | apply Wp.blk)); (apply Wp.reg; (repeat (apply Ex.cons; (simp (disch := omega) [-getElem?_pos, -List.reduceReplicate]; rfl))); exact Ex.nil; rfl; (simp; rfl))
      rw [← hH1]
      repeat (first | apply Wp.seq | apply Wp.blk | apply Wp.ret | apply Wp.skip | apply Wp.exit | apply Wp.cT rfl | apply Wp.cF rfl | ((apply Wp.reg; (repeat (apply Ex.cons; (simp (disch := omega) [-getElem?_pos, -List.reduceReplicate, h61, hB4, aFill, hwf]; rfl))); exact Ex.nil; rfl; (simp; rfl))))
      simp [-getElem?_pos, -List.reduceReplicate, a30, ByRes]
      exact ⟨hg1.set (by omega) _, rfl⟩)
  exact ⟨v, H', h1, h2, h3⟩
end Go.Proofs.Ythbjfkkjmecaaaa
namespace Go.Proofs.Ythbjfkkjmecaaaa
open Go Go.Vm
variable {kn : Known} {env : Nat → Option AFunc}
variable {H H' H0 H1 H2 : AHeap} {N A M R ver nv L : Nat} {v v0 tv sv rv wv : AVal} {rows : List RowD} {txs : List TxD} {m : Int} {order : List Int}
structure JudE (kn : Known) (env : Nat → Option AFunc) : Prop extends OrdE kn env where
  f18 : Fn kn env 18 a18
  f19 : Fn kn env 19 a19
  f57 : Fn kn env 57 a57
theorem FindD.full {f : FindD} (h : IsVal f.want) : f.cells.length = 35 ∧ f.cells.all AVal.one = true := ⟨by simp [-getElem?_pos, -List.reduceReplicate, FindD.cells, h.len], by simp only [FindD.cells, List.all_cons, h.one, Bool.and_true]; rfl⟩
theorem RowsAt.up (h : RowsAt H H.next v0 rows) (hg : Grow H H') : RowsAt H' H'.next v0 rows := by
  obtain ⟨rcs, hrd, hlies, hrlen, hat⟩ := h
  exact ⟨rcs, hrd.grow hg hlies, fun R ver off len kc ex esz e => by have := hlies R ver off len kc ex esz e; have := hg.next; omega, hrlen, fun k rc r a b => by
    obtain ⟨q1, sv, q2⟩ := hat k rc r a b
    have q3 := q2.move (H' := H') fun A hA => hg.get A hA
    exact ⟨q1, sv, q3.at_, q3.rd, fun R ver off len kc ex esz e => by have := q3.lies R ver off len kc ex esz e; have := hg.next; omega, q3.len⟩⟩
theorem putFind {f : FindD} (hf : IsVal f.want) {g : FindD} (hg : IsVal g.want) (hc : Cells H A g.cells) : ∃ H', H.write A 0 0 f.cells = some H' ∧ H'.next = H.next ∧ Cells H' A f.cells ∧ ∀ B, B ≠ A → H'.get B = H.get B := by
  obtain ⟨a1, a2⟩ := FindD.full hf
  obtain ⟨b1, b2⟩ := FindD.full hg
  refine ⟨_, Cells.write hc (by omega) (by omega) a2, rfl, ?_, fun B hB => AHeap.get_set_ne _ _ hB⟩
  show AHeap.get _ _ = _
  rw [AHeap.get_set_same]
  have : spl g.cells 0 f.cells = f.cells := by
    simp only [spl, List.take_zero, List.nil_append, Nat.zero_add]
    rw [List.drop_of_length_le (by omega), List.append_nil]
  rw [this]
theorem zfind_is : zfind = zeroF.cells := rfl
abbrev C57 : List Nat := [0, 1, 4, 5, 6, 7, 8, 11, 19]
set_option maxHeartbeats 4000000 in
theorem c57 (E : JudE kn env) (EB : ByE kn env) (n : Nat) (hins : InsC (callM kn env (n + 2))) (hrows : RowsAt H H.next v0 rows) (hm : rows.length < 400000000000) (hn : 2 * rows.length + 40 < n) :
    ∃ v H', callM kn env (n + 8) (.func (.func 57) []) [v0, vi m] H = some (v, H') ∧ (Grow H H' ∧ ByRes H' H.next (judgeD rows m) v) := by
  obtain ⟨H1, hH1⟩ : ∃ H1, H1 = H.push (.row [some (0, zfind)]) := ⟨_, rfl⟩
  have hn1 : H1.next = H.next + 1 := by rw [hH1]; simp [-getElem?_pos, -List.reduceReplicate]
  have hg1 : Grow H H1 := by rw [hH1]; exact Grow.push _ _
  have hB1 : Cells H1 H.next zfind := by rw [hH1]; show AHeap.get _ _ = _; simp [-getElem?_pos, -List.reduceReplicate]
  have h61 := c61 (H := H1) EB.f61 (n + 6) m
  have z35 := FindD.full zeroV_is (f := zeroF)
  refine Wp.call 29 C57 E.f57.e (E.f57.no [v0, vi m] H) (n := n + 7) rfl (by simp [-getElem?_pos, -List.reduceReplicate]) ?_
  repeat (first | apply Wp.seq | apply Wp.blk)
  (repeat (first | apply Wp.seq | apply Wp.blk)); (apply Wp.reg; (repeat (apply Ex.cons; (simp (disch := omega) [-getElem?_pos, -List.reduceReplicate]; rfl))); exact Ex.nil; rfl; (simp; rfl))
  rw [← hH1]
  by_cases hm1 : 1 ≤ m ∧ m ≤ 64
  · have hd : decide (1 ≤ m ∧ m ≤ 64) = true := by simpa [-getElem?_pos, -List.reduceReplicate] using hm1
    rw [hd] at h61
    (repeat (first | apply Wp.seq | apply Wp.blk)); (apply Wp.reg; (repeat (apply Ex.cons; (simp (disch := omega) [-getElem?_pos, -List.reduceReplicate, h61]; rfl))); exact Ex.nil; rfl; (simp; rfl))
    apply Wp.cF rfl
    apply Wp.skip
    obtain ⟨t17, H2, h17, hg2, hres⟩ := c17 E.toOrdE EB.toRowE EB.f33 n (H := H1) hins (hrows.up hg1) hm (by omega)
    have hg02 := hg1.trans hg2
    have hB2 : Cells H2 H.next zfind := by unfold Cells; rw [hg2.get _ (by omega)]; exact hB1
    cases hod : (txsD rows).bind orderD with
    | none =>
      have hjd : judgeD rows m = .error 230 := by
        unfold judgeD
        rw [if_neg (by simpa [-getElem?_pos, -List.reduceReplicate] using hm1)]
        cases ht : txsD rows with
        | none => rfl
        | some txs =>
          rw [ht] at hod
          simp only [Option.bind_some] at hod
          simp only [hod]
      rw [hod] at hres
      have hr : t17 = .tuple [anil, vi 230] := hres
      rw [hr] at h17
      rw [zfind_is] at hB2
      obtain ⟨H3, hw3, hn3, hc3, ho3⟩ := putFind zeroV_is zeroV_is hB2 (f := zeroF) (g := zeroF)
      have hc3' := hc3.at
      have hg3 : Grow H H3 := ⟨by rw [hn3]; exact hg02.next, fun A hA => by rw [ho3 A (by omega), hg02.get A hA]⟩
      have hzt : zeroF.cells.take 35 = zeroF.cells := rfl
      rw [← zfind_is] at hw3 hzt hc3'
      repeat (first | apply Wp.seq | apply Wp.blk | apply Wp.ret | apply Wp.skip | apply Wp.exit | apply Wp.cT rfl | apply Wp.cF rfl | ((apply Wp.reg; (repeat (apply Ex.cons; (simp (disch := omega) [-getElem?_pos, -List.reduceReplicate, h17, hw3, hc3']; rfl))); exact Ex.nil; rfl; (simp; rfl))))
      rw [hjd]
      simp [-getElem?_pos, -List.reduceReplicate, a57, hc3', hzt]
      exact ⟨hg3, rfl⟩
    | some o =>
      obtain ⟨txs, ht, hot⟩ := Option.bind_eq_some_iff.1 hod
      have hjd : judgeD rows m = byD rows m o := by
        unfold judgeD
        rw [if_neg (by simpa [-getElem?_pos, -List.reduceReplicate] using hm1), ht]
        simp only [hot]
      rw [hod] at hres
      obtain ⟨ov, hr, hos⟩ := hres
      rw [hr] at h17
      have hol : o.length ≤ rows.length := by
        have h1 := (orderD_some hot).1.length_eq
        have h2 := cntL_le txs txs.length
        have h3 := txs_len ht
        omega
      obtain ⟨t30, H3, h30, hg3, hb3⟩ := c30 EB n (H := H2) (m := m) (order := o) (ov := ov) hins (hrows.up hg02) hos.rd (fun R ver off len kc ex esz e => (hos.lies R ver off len kc ex esz e).2) hm (by omega) (by omega)
      have hB3 : Cells H3 H.next zfind := by unfold Cells; rw [hg3.get _ (by have := hg2.next; omega)]; exact hB2
      rw [zfind_is] at hB3
      have hg03 := hg02.trans hg3
      rw [hjd]
      cases hby : byD rows m o with
      | error c =>
        rw [hby] at hb3
        have hr3 : t30 = .tuple [.agg zeroF.cells, anil, vi c] := hb3
        rw [hr3] at h30
        obtain ⟨H4, hw4, hn4, hc4, ho4⟩ := putFind zeroV_is zeroV_is hB3 (f := zeroF) (g := zeroF)
        have hc4' := hc4.at
        have hzt : zeroF.cells.take 35 = zeroF.cells := rfl
        have hg4 : Grow H H4 := ⟨by rw [hn4]; exact hg03.next, fun A hA => by rw [ho4 A (by omega), hg03.get A hA]⟩
        repeat (first | apply Wp.seq | apply Wp.blk | apply Wp.ret | apply Wp.skip | apply Wp.exit | apply Wp.cT rfl | apply Wp.cF rfl | ((apply Wp.reg; (repeat (apply Ex.cons; (simp (disch := omega) [-getElem?_pos, -List.reduceReplicate, h17, h30, hw4, hc4', z35]; rfl))); exact Ex.nil; rfl; (simp; rfl))))
        simp [-getElem?_pos, -List.reduceReplicate, a57, hc4', hzt, z35]
        exact ⟨hg4, rfl⟩
      | ok p =>
        obtain ⟨f, mm⟩ := p
        rw [hby] at hb3
        obtain ⟨mv, hr3, hb4, hb5, hb6⟩ := hb3
        rw [hr3] at h30
        obtain ⟨H4, hw4, hn4, hc4, ho4⟩ := putFind hb5 zeroV_is hB3 (f := f) (g := zeroF)
        have hc4' := hc4.at
        obtain ⟨f35, f1⟩ := FindD.full hb5
        have hft : f.cells.take 35 = f.cells := List.take_of_length_le (by omega)
        have hg4 : Grow H H4 := ⟨by rw [hn4]; exact hg03.next, fun A hA => by rw [ho4 A (by omega), hg03.get A hA]⟩
        repeat (first | apply Wp.seq | apply Wp.blk | apply Wp.ret | apply Wp.skip | apply Wp.exit | apply Wp.cT rfl | apply Wp.cF rfl | ((apply Wp.reg; (repeat (apply Ex.cons; (simp (disch := omega) [-getElem?_pos, -List.reduceReplicate, h17, h30, hw4, hc4', f35]; rfl))); exact Ex.nil; rfl; (simp; rfl))))
        simp [-getElem?_pos, -List.reduceReplicate, a57, hc4', hft, f35]
        refine ⟨hg4, mv, rfl, hb4.move (by have := hg02.next; omega) (by omega) fun A hA _ => ho4 A (by have := hg2.next; omega), hb5, hb6⟩
  · have hd : decide (1 ≤ m ∧ m ≤ 64) = false := by simpa [-getElem?_pos, -List.reduceReplicate] using hm1
    rw [hd] at h61
    have hjd : judgeD rows m = .error 2 := by unfold judgeD; rw [if_pos hm1]
    rw [zfind_is] at hB1
    obtain ⟨H3, hw3, hn3, hc3, ho3⟩ := putFind zeroV_is zeroV_is hB1 (f := zeroF) (g := zeroF)
    have hc3' := hc3.at
    have hg3 : Grow H H3 := ⟨by rw [hn3]; exact hg1.next, fun A hA => by rw [ho3 A (by omega), hg1.get A hA]⟩
    have hzt : zeroF.cells.take 35 = zeroF.cells := rfl
    rw [← zfind_is] at hw3 hzt hc3'
    repeat (first | apply Wp.seq | apply Wp.blk | apply Wp.ret | apply Wp.skip | apply Wp.exit | apply Wp.cT rfl | apply Wp.cF rfl | ((apply Wp.reg; (repeat (apply Ex.cons; (simp (disch := omega) [-getElem?_pos, -List.reduceReplicate, h61, hw3, hc3']; rfl))); exact Ex.nil; rfl; (simp; rfl))))
    rw [hjd]
    simp [-getElem?_pos, -List.reduceReplicate, a57, hc3', hzt]
    exact ⟨hg3, rfl⟩
def jF (t : Except Int (FindD × MapD)) : FindD := match t with
  | .ok (f, _) => f
  | .error _ => zeroF
def jC (t : Except Int (FindD × MapD)) : Int := match t with
  | .ok _ => 0
  | .error c => c
set_option maxHeartbeats 4000000 in
theorem c18 (E : JudE kn env) (EB : ByE kn env) (n : Nat) (hins : InsC (callM kn env (n + 2))) (hrows : RowsAt H H.next v0 rows) (hm : rows.length < 400000000000) (hn : 2 * rows.length + 40 < n) :
    ∃ v H', callM kn env (n + 9) (.func (.func 18) []) [v0, vi m] H = some (v, H') ∧ (Grow H H' ∧ v = .tuple [.agg (jF (judgeD rows m)).cells, vi (jC (judgeD rows m))] ∧ IsVal (jF (judgeD rows m)).want) := by
  obtain ⟨H1, hH1⟩ : ∃ H1, H1 = H.push (.row [some (0, zfind)]) := ⟨_, rfl⟩
  have hn1 : H1.next = H.next + 1 := by rw [hH1]; simp [-getElem?_pos, -List.reduceReplicate]
  have hg1 : Grow H H1 := by rw [hH1]; exact Grow.push _ _
  have hB1 : Cells H1 H.next zeroF.cells := by rw [hH1]; show AHeap.get _ _ = _; simp [-getElem?_pos, -List.reduceReplicate]; rfl
  obtain ⟨t57, H2, h57, hg2, hres⟩ := c57 E EB n (H := H1) (m := m) hins (hrows.up hg1) hm hn
  have hg02 := hg1.trans hg2
  obtain ⟨w, h1, hfw⟩ : ∃ w, t57 = .tuple [.agg (jF (judgeD rows m)).cells, w, vi (jC (judgeD rows m))] ∧ IsVal (jF (judgeD rows m)).want := by
    cases hj : judgeD rows m with
    | error c => rw [hj] at hres; exact ⟨anil, hres, zeroV_is⟩
    | ok p =>
      obtain ⟨f, mm⟩ := p
      rw [hj] at hres
      obtain ⟨mv, h1, _, h3, _⟩ := hres
      exact ⟨mv, h1, h3⟩
  rw [h1] at h57
  generalize jF (judgeD rows m) = f at h57 hfw ⊢
  generalize jC (judgeD rows m) = c at h57 ⊢
  obtain ⟨f35, f1⟩ := FindD.full hfw
  have hft : f.cells.take 35 = f.cells := List.take_of_length_le (by omega)
  obtain ⟨H3, hw3, hg3, hc3, hn3⟩ := newCells H2 (z := zfind) (e := f.cells) (by rw [f35]; rfl) (by omega) f1
  have hc3' := hc3.at
  have hB3 : Cells H3 H.next zeroF.cells := by unfold Cells; rw [hg3.get _ (by have := hg2.next; omega), hg2.get _ (by omega)]; exact hB1
  obtain ⟨H4, hw4, hn4, hc4, ho4⟩ := putFind hfw zeroV_is hB3 (f := f) (g := zeroF)
  have hc4' := hc4.at
  have hg03 := hg02.trans hg3
  have hg4 : Grow H H4 := ⟨by rw [hn4]; exact hg03.next, fun A hA => by rw [ho4 A (by omega), hg03.get A hA]⟩
  refine Wp.call 18 [0, 1, 4, 5, 6, 8] E.f18.e (E.f18.no [v0, vi m] H) (n := n + 8) rfl (by simp [-getElem?_pos, -List.reduceReplicate]) ?_
  repeat (first | apply Wp.seq | apply Wp.blk)
  (repeat (first | apply Wp.seq | apply Wp.blk)); (apply Wp.reg; (repeat (apply Ex.cons; (simp (disch := omega) [-getElem?_pos, -List.reduceReplicate]; rfl))); exact Ex.nil; rfl; (simp; rfl))
  rw [← hH1]
  repeat (first | apply Wp.seq | apply Wp.blk | apply Wp.ret | apply Wp.skip | apply Wp.exit | apply Wp.cT rfl | apply Wp.cF rfl | ((apply Wp.reg; (repeat (apply Ex.cons; (simp (disch := omega) [-getElem?_pos, -List.reduceReplicate, h57, hw3, hc3', f35, hft, hw4]; rfl))); exact Ex.nil; rfl; (simp; rfl))))
  simp [-getElem?_pos, -List.reduceReplicate, a18, hc4', hft, f35]
  exact ⟨hg4, hfw⟩
end Go.Proofs.Ythbjfkkjmecaaaa
namespace Go.Proofs.Ythbjfkkjmecaaaa
open Go Go.Vm
variable {kn : Known} {env : Nat → Option AFunc}
variable {H H' H1 : AHeap} {N A B M : Nat} {v v0 ov tv : AVal} {rows l : List RowD} {rcs ocs tvs : List (List AVal)} {rc : List AVal} {r : RowD} {x : TxD} {sv rv wv : AVal} {m : Int} {txs : List TxD} {o : Nat → Nat} {order : List Int}
theorem c11 (h : Fn kn env 11 a11) (n : Nat) (hrd : RdE H 41 v0 rcs) : ∃ v', callM kn env (n + 1) (.func (.func 11) []) [v0] H = some (v', H) ∧ RdE H 41 v' (rcs.take 400) ∧ ∀ p : Nat → Prop, v0.lies p → v'.lies p := by
  have hlen := hrd.lenS
  by_cases hc : 400 < rcs.length
  · rcases id hrd with ⟨h0, ⟨rfl, rfl⟩ | ⟨R, ver, off, kc, ex, cells, rfl, h2, h3, h4, h5⟩⟩
    · simp [-getElem?_pos] at hc
    · refine ⟨.slice R ver off 400 kc ex 41, Wp.call1 9 [0, 2, 5] h.e (h.no [.slice R ver off rcs.length kc ex 41] H) rfl (by simp [-getElem?_pos]) ?_, ⟨fun e he => h0 e (List.mem_of_mem_take he), .inr ⟨R, ver, off, kc, ex, cells, by rw [List.length_take, Nat.min_eq_left (by omega)], h2, by rw [List.length_take]; omega, by rw [List.length_take]; omega, ?_⟩⟩, fun p hp R' ver' off' len kcap ex' esz' e => by cases e; exact hp _ _ _ _ _ _ _ rfl⟩
      · repeat (first | apply Wp.seq | apply Wp.blk | apply Wp.ret | apply Wp.skip | apply Wp.exit | apply Wp.cT rfl | apply Wp.cF rfl | ((apply Wp.reg; (repeat (apply Ex.cons; (simp (disch := omega) [-getElem?_pos, aLenS, aSliceS, aBoundO, aBound, hc]; rfl))); exact Ex.nil; rfl; (simp; rfl))))
        simp [-getElem?_pos, a11]
      · rw [List.length_take, Nat.min_eq_left (by omega), flatten_take 400 h0, ← h5, List.take_take, Nat.min_eq_left (by omega)]
  · refine ⟨v0, Wp.call1 9 [0, 2, 5] h.e (h.no [v0] H) rfl (by simp [-getElem?_pos]) ?_, by rw [List.take_of_length_le (by omega)]; exact hrd, fun p hp => hp⟩
    repeat (first | apply Wp.seq | apply Wp.blk | apply Wp.ret | apply Wp.skip | apply Wp.exit | apply Wp.cT rfl | apply Wp.cF rfl | ((apply Wp.reg; (repeat (apply Ex.cons; (simp (disch := omega) [-getElem?_pos, hlen]; rfl))); exact Ex.nil; rfl; (simp; rfl))))
    simp [-getElem?_pos, a11]
end Go.Proofs.Ythbjfkkjmecaaaa
namespace Go.Proofs.Ythbjfkkjmecaaaa
open Go Go.Vm
variable {kn : Known} {env : Nat → Option AFunc}
variable {rows l a b : List RowD} {r : RowD} {m : Int} {txs : List TxD} {order : List Int} {mm ins ins' : MapD} {f f' : FindD} {p : Int} {k : Nat}
def wrS (ins : MapD) (r : RowD) : MapD := if r.kind = 6 then ins.set r.blk.toNat r.val else ins
def wrD (l : List RowD) (ins : MapD) : MapD := l.foldl wrS ins
def rdOk : List RowD → MapD → Prop
  | [], _ => True
  | r :: l, ins => (r.kind = 6 ∨ atM ins r.blk = r.val) ∧ rdOk l (wrS ins r)
theorem doRow_map : ∀ (l : List RowD) (f : FindD) (ins : MapD) (k : Nat), (l.foldl (doRow p) (f, ins, k)).2.1 = wrD l ins
  | [], f, ins, k => rfl
  | r :: l, f, ins, k => by
    rw [List.foldl_cons]
    unfold wrD
    rw [List.foldl_cons]
    by_cases h : r.kind = 6
    · rw [show doRow p (f, ins, k) r = (f, ins.set r.blk.toNat r.val, k) from by simp [-getElem?_pos, doRow, h], show wrS ins r = ins.set r.blk.toNat r.val from by simp [-getElem?_pos, wrS, h]]
      exact doRow_map l _ _ _
    · rw [show wrS ins r = ins from by simp [-getElem?_pos, wrS, h]]
      unfold doRow
      rw [if_neg h]
      exact doRow_map l _ _ _
theorem doRow_bad : ∀ (l : List RowD) (f : FindD) (ins : MapD) (k : Nat), f.good = false → (l.foldl (doRow p) (f, ins, k)).1 = f
  | [], f, ins, k, _ => rfl
  | r :: l, f, ins, k, hf => by
    rw [List.foldl_cons]
    unfold doRow
    split
    · exact doRow_bad l _ _ _ hf
    · rw [if_neg (fun q => by rw [hf] at q; cases q.1)]
      exact doRow_bad l _ _ _ hf
theorem doRow_good : ∀ (l : List RowD) (f : FindD) (ins : MapD) (k : Nat), f.good = true → rdOk l ins → (l.foldl (doRow p) (f, ins, k)).1 = f
  | [], f, ins, k, _, _ => rfl
  | r :: l, f, ins, k, hf, hr => by
    rw [List.foldl_cons]
    obtain ⟨h1, h2⟩ := hr
    by_cases h : r.kind = 6
    · rw [show doRow p (f, ins, k) r = (f, ins.set r.blk.toNat r.val, k) from by simp [-getElem?_pos, doRow, h]]
      rw [show wrS ins r = ins.set r.blk.toNat r.val from by simp [-getElem?_pos, wrS, h]] at h2
      exact doRow_good l _ _ _ hf h2
    · rw [show wrS ins r = ins from by simp [-getElem?_pos, wrS, h]] at h2
      rcases h1 with h1 | h1
      · exact absurd h1 h
      · unfold doRow
        rw [if_neg h, if_neg (fun q => q.2 h1)]
        exact doRow_good l _ _ _ hf h2
theorem doRow_ok : ∀ (l : List RowD) (f : FindD) (ins : MapD) (k : Nat), (l.foldl (doRow p) (f, ins, k)).1.good = true → f.good = true ∧ rdOk l ins
  | [], f, ins, k, h => ⟨h, trivial⟩
  | r :: l, f, ins, k, h => by
    rw [List.foldl_cons] at h
    by_cases h6 : r.kind = 6
    · rw [show doRow p (f, ins, k) r = (f, ins.set r.blk.toNat r.val, k) from by simp [-getElem?_pos, doRow, h6]] at h
      obtain ⟨a, b⟩ := doRow_ok l _ _ _ h
      exact ⟨a, .inl h6, by rw [show wrS ins r = ins.set r.blk.toNat r.val from by simp [-getElem?_pos, wrS, h6]]; exact b⟩
    · unfold doRow at h
      rw [if_neg h6] at h
      obtain ⟨a, b⟩ := doRow_ok l _ _ _ h
      have hw : wrS ins r = ins := by simp [-getElem?_pos, wrS, h6]
      by_cases hc : f.good = true ∧ atM ins r.blk ≠ r.val
      · rw [if_pos hc] at a; cases a
      · rw [if_neg hc] at a
        refine ⟨a, .inr ?_, by rw [hw]; exact b⟩
        exact Classical.byContradiction fun q => hc ⟨a, q⟩
theorem doTx_parts (f : FindD) (mm : MapD) (p : Int) : (doTx rows txs (f, mm) p).2 = wrD (ownAt rows txs p) mm := doRow_map _ _ _ _
theorem doTx_good (h : (doTx rows txs (f, mm) p).1.good = true) : f.good = true ∧ rdOk (ownAt rows txs p) mm ∧ doTx rows txs (f, mm) p = (f, wrD (ownAt rows txs p) mm) := by
  obtain ⟨h1, h2⟩ := doRow_ok _ _ _ _ h
  exact ⟨h1, h2, Prod.ext (doRow_good _ _ _ _ h1 h2) (doTx_parts f mm p)⟩
theorem fold_good : ∀ (ps : List Int) (st : FindD × MapD), (ps.foldl (doTx rows txs) st).1.good = true → st.1.good = true
  | [], st, h => h
  | p :: ps, (f, mm), h => by
    rw [List.foldl_cons] at h
    exact (doTx_good (fold_good ps _ h)).1
end Go.Proofs.Ythbjfkkjmecaaaa
namespace Go.Proofs.Ythbjfkkjmecaaaa
open Go Go.Vm
variable {kn : Known} {env : Nat → Option AFunc}
variable {rows l a b : List RowD} {r : RowD} {m : Int} {txs : List TxD} {order pre post : List Int} {mm ins ins' : MapD} {f f' : FindD} {p q : Int} {k : Nat}
theorem byD_ok (h : byD rows m order = .ok (f, mm)) : (1 ≤ m ∧ m ≤ 64) ∧ ∃ txs, txsD rows = some txs ∧ okO rows m txs order ∧ order.foldl (doTx rows txs) (goodF, zeroM) = (f, (order.foldl (doTx rows txs) (goodF, zeroM)).2) ∧ mm = (order.foldl (doTx rows txs) (goodF, zeroM)).2.take m.toNat := by
  unfold byD at h
  split at h
  · cases h
  · rename_i hm
    split at h
    · cases h
    · rename_i txs ht
      split at h
      · rename_i hok
        simp only [Except.ok.injEq, Prod.mk.injEq] at h
        exact ⟨Classical.byContradiction hm, txs, ht, hok, Prod.ext h.1 rfl, h.2.symm⟩
      · cases h
theorem byD_of (hm : 1 ≤ m ∧ m ≤ 64) (ht : txsD rows = some txs) (hok : okO rows m txs order) : byD rows m order = .ok ((order.foldl (doTx rows txs) (goodF, zeroM)).1, (order.foldl (doTx rows txs) (goodF, zeroM)).2.take m.toNat) := by
  unfold byD
  rw [if_neg (fun h => h hm), ht]
  simp only [if_pos hok]
end Go.Proofs.Ythbjfkkjmecaaaa
