/- Walks: By, the loop that makes the map of own rows. -/
import Derived.Test.YthbjfkkjmecaaaaX39
namespace Go.Proofs.Ythbjfkkjmecaaaa
open Go Go.Vm
set_option linter.unusedVariables false
set_option linter.unusedSimpArgs false

variable {kn : Known} {env : Nat → Option AFunc}

variable {H H' H1 : AHeap} {N A B M : Nat} {v v0 ov tv : AVal} {rows l : List RowD} {rcs ocs tvs : List (List AVal)} {rc : List AVal} {r : RowD} {x : TxD} {sv rv wv : AVal} {m : Int} {txs : List TxD} {o : Nat → Nat} {order : List Int}

abbrev by5 : ACode := sndC (sndC (sndC (sndC (sndC a30.code))))

set_option maxHeartbeats 2000000 in
theorem byOwn (h62 : Fn kn env 62 a62) (h63 : Fn kn env 63 a63) (h84 : Fn kn env 84 a84) (h64 : Fn kn env 64 a64) (n : Nat) {Q : Exit → KS → Prop} {B4 B6 : Nat} (hrd : RdE H1 41 v0 rcs) (hl0 : v0.lies (· < H1.next)) (hrc : RowsC rcs rows) (htx : SliceE H1 N 12 tv tvs) (hat : TxsAt H1 N o tvs txs) (hbeg : ∀ x ∈ txs, ∃ q : Nat, x.begun = q ∧ q < rows.length)
    (ho : RdE H1 1 ov (ints order)) (hol : ov.lies (· < H1.next)) (hB4 : H1.rowAt B4 0 = some [vi m]) (hB4n : B4 < H1.next) (hB6 : Cells H1 B6 zfind) (hB6n : B6 < H1.next) (hr : rows.length < 400000000000) (ho2 : order.length < 40000000000000) (hn : rows.length + order.length + 10 < n)
    (hbad : ¬ okO rows m txs order → ∀ l' H2, Grow H1 H2 → SubK [(6, .ptr B6 0 0), (7, anil), (8, vi 230)] l' → Q .ret (l', H2.set B6 (.row [some (0, zfind)])))
    (hgood : okO rows m txs order → ∀ l' H2 es clock, SubK [(2, ov), (4, .ptr B4 0 0), (6, .ptr B6 0 0), (11, .map H1.next)] l' → Grow H1 H2 → H2.get H1.next = some (.map es clock) → H1.next < H2.next → OwnOk H2 (H1.next + 1) rows m txs es order → Q .normal (l', H2)) :
    Wp (callM kn env (n + 3)) (n + 3) 128 C30 (fstC by5) ([(0, v0), (2, ov), (4, .ptr B4 0 0), (6, .ptr B6 0 0), (9, tv), (11, .map H1.next)], H1.push (.map [] 0)) Q := by
  have hlen : aLenS ov = some (vi order.length) := by have := ho.lenS; simpa [-getElem?_pos] using this
  have hlt : aLenS tv = some (vi txs.length) := by have := htx.rd.lenS; rw [hat.1] at this; exact this
  repeat (first | apply Wp.seq | apply Wp.blk | apply Wp.ret | apply Wp.skip | apply Wp.exit | apply Wp.cT rfl | apply Wp.cF rfl | ((apply Wp.reg; (repeat (apply Ex.cons; (simp (disch := omega) [-getElem?_pos, hlen]; rfl))); exact Ex.nil; rfl; (simp [-getElem?_pos]; rfl))))
  apply Wp.loop (α := Nat × AHeap) (fun y => [(0, v0), (2, ov), (4, .ptr B4 0 0), (6, .ptr B6 0 0), (9, tv), (11, .map H1.next), (38, ov), (39, vi order.length), (40, vi y.1)]) (·.2)
    (fun y => y.1 ≤ order.length ∧ Grow H1 y.2 ∧ H1.next < y.2.next ∧ ∃ es clock, y.2.get H1.next = some (.map es clock) ∧ OwnOk y.2 (H1.next + 1) rows m txs es (order.take y.1)) (fun y => order.length - y.1)
    (0, H1.push (.map [] 0)) rfl ⟨by omega, Grow.push _ _, by simp [-getElem?_pos], [], 0, AHeap.get_push_same _ _, OwnOk.nil⟩ (by simp [-getElem?_pos]; omega) (by simp [-getElem?_pos])
  rintro ⟨j, H2⟩ ⟨hj, hg2, hnx, es, clock, hM, how⟩
  dsimp only at hj hg2 hnx hM how ⊢
  (repeat (first | apply Wp.seq | apply Wp.blk)); (apply Wp.reg; (repeat (apply Ex.cons; (simp (disch := omega) [-getElem?_pos]; rfl))); exact Ex.nil; rfl; (simp [-getElem?_pos]; rfl))
  (repeat (first | apply Wp.seq | apply Wp.blk)); apply Wp.ite rfl
  · intro hjl
    obtain ⟨p, hp⟩ : ∃ p, order[j]? = some p := ⟨_, List.getElem?_eq_getElem (by omega)⟩
    obtain ⟨R0, ver0, off, kc, ex, cells, hv, hrow, hc1, hc2⟩ := ho.at (i := j) (e := [vi p]) (by rw [List.getElem?_map, hp]; rfl)
    simp only [List.length_map] at hv
    have hR0 := hol _ _ _ _ _ _ _ hv
    have hrow2 : H2.rowAt R0 ver0 = some cells := by rw [hg2.rowAt hR0]; exact hrow
    rw [Nat.mul_one] at hc1 hc2
    have hc3 : cells[off + j]? = some (vi p) := by
      have : (List.take 1 (List.drop (off + j) cells))[0]? = some (vi p) := by rw [hc2]; rfl
      rw [List.getElem?_take, if_pos (by omega), List.getElem?_drop] at this
      exact this
    -- how it fails
    have hfail : ∀ H', Grow H1 H' → ∃ H'', H'.write B6 0 0 zfind = some H'' ∧ H'' = H'.set B6 (.row [some (0, zfind)]) := fun H' hg => by
      have hb : Cells H' B6 zfind := by unfold Cells; rw [hg.get B6 hB6n]; exact hB6
      exact ⟨_, Cells.write hb (by simp [-getElem?_pos]) (by simp [-getElem?_pos]) rfl, by simp [-getElem?_pos, spl]⟩
    apply Wp.skip
    by_cases hin : p ∈ order.take j
    · have hno : ¬ okO rows m txs order := fun h => (okO_at h hp).1 hin
      obtain ⟨i, hi⟩ := List.mem_iff_getElem?.1 hin
      obtain ⟨w, b, ocs, he, hf, _⟩ := how.find hi
      obtain ⟨H3, hw3, hH3⟩ := hfail H2 hg2
      repeat (first | apply Wp.seq | apply Wp.blk | apply Wp.ret | apply Wp.skip | apply Wp.exit | apply Wp.cT rfl | apply Wp.cF rfl | ((apply Wp.reg; (repeat (apply Ex.cons; (simp (disch := omega) [-getElem?_pos, hv, hrow2, hc3, hM, hf, aLookup, lookupDone, hw3, aFill, hlt]; rfl))); exact Ex.nil; rfl; (simp [-getElem?_pos]; rfl))))
      rw [hH3]
      exact hbad hno _ H2 hg2 (by simp [-getElem?_pos])
    · have hf := how.findNo hin
      by_cases hp0 : p < 0
      · have hno : ¬ okO rows m txs order := fun h => by have := (okO_at h hp).2.1; omega
        obtain ⟨H3, hw3, hH3⟩ := hfail H2 hg2
        repeat (first | apply Wp.seq | apply Wp.blk | apply Wp.ret | apply Wp.skip | apply Wp.exit | apply Wp.cT rfl | apply Wp.cF rfl | ((apply Wp.reg; (repeat (apply Ex.cons; (simp (disch := omega) [-getElem?_pos, hv, hrow2, hc3, hM, hf, aLookup, lookupDone, hw3, aFill, hlt, hp0]; rfl))); exact Ex.nil; rfl; (simp [-getElem?_pos]; rfl))))
        rw [hH3]
        exact hbad hno _ H2 hg2 (by simp [-getElem?_pos])
      · obtain ⟨q, rfl⟩ : ∃ q : Nat, p = q := ⟨p.toNat, by omega⟩
        by_cases hq : txs.length ≤ q
        · have hno : ¬ okO rows m txs order := fun h => by have := (okO_at h hp).2.2.1; omega
          obtain ⟨H3, hw3, hH3⟩ := hfail H2 hg2
          repeat (first | apply Wp.seq | apply Wp.blk | apply Wp.ret | apply Wp.skip | apply Wp.exit | apply Wp.cT rfl | apply Wp.cF rfl | ((apply Wp.reg; (repeat (apply Ex.cons; (simp (disch := omega) [-getElem?_pos, hv, hrow2, hc3, hM, hf, aLookup, lookupDone, hw3, aFill, hlt]; rfl))); exact Ex.nil; rfl; (simp [-getElem?_pos]; rfl))))
          rw [hH3]
          exact hbad hno _ H2 hg2 (by simp [-getElem?_pos])
        · obtain ⟨x, hx⟩ : ∃ x, txs[q]? = some x := ⟨_, List.getElem?_eq_getElem (by omega)⟩
          obtain ⟨e, he⟩ : ∃ e, tvs[q]? = some e := ⟨_, List.getElem?_eq_getElem (by have := hat.1; omega)⟩
          obtain ⟨sv, rv, wv, ht⟩ := hat.2 q e x he hx
          obtain ⟨R1, ver1, off1, kc1, ex1, cells1, hv1, hrow1, hd1, hd2⟩ := htx.rd.at he
          rw [hat.1] at hv1
          rw [ht.eq] at hd2
          have hR1 : R1 < H1.next := (htx.lies _ _ _ _ _ _ _ hv1).2
          have hrow12 : H2.rowAt R1 ver1 = some cells1 := by rw [hg2.rowAt hR1]; exact hrow1
          obtain ⟨k, hk, hkl⟩ := hbeg x (List.mem_of_getElem? hx)
          obtain ⟨v', H3, ocs, hc62, hg3, hs3, hR3⟩ := c62 h62 (n + 2) (H := H2) (v0 := v0) (rows := rows) (x := x) (sv := sv) (rv := rv) (wv := wv) (hrd.grow hg2 hl0) (fun R ver off len kc ex esz e => by have := hl0 R ver off len kc ex esz e; have := hg2.next; omega) hrc hk hkl hr (by omega) ht.set.one ht.reads.rd.one ht.writes.rd.one
          have hown : ownAt rows txs (q : Int) = ownD rows x := by unfold ownAt; rw [Int.toNat_natCast, hx]
          have hM3 : H3.get H1.next = some (.map es clock) := by rw [hg3.get _ hnx]; exact hM
          have hg13 : Grow H1 H3 := hg2.trans hg3
          obtain ⟨H4, hH4⟩ : ∃ H4, H4 = H3.set H1.next (.map (es ++ [(vi (q : Int), v', clock)]) (clock + 1)) := ⟨_, rfl⟩
          have hg14 : Grow H1 H4 := by rw [hH4]; exact hg13.set (Nat.le_refl _) _
          have hn4 : H4.next = H3.next := by rw [hH4]; rfl
          have hM4 : H4.get H1.next = some (.map (es ++ [(vi (q : Int), v', clock)]) (clock + 1)) := by rw [hH4]; exact AHeap.get_set_same _ _ _
          have hn3 := hg3.next
          have hs4 : SliceE H4 H2.next 41 v' ocs := hs3.move (Nat.le_refl _) (by omega) fun A hA _ => by rw [hH4, AHeap.get_set_ne _ _ (by omega)]
          have hol3 : (ownD rows x).length ≤ rows.length := by unfold ownD; have := ownB_le x.client (rows.drop (x.begun + 1).toNat); simp [-getElem?_pos] at this; omega
          obtain ⟨H5, hc63, hg5⟩ := c63 h63 h84 h64 n (H := H4) (B := B4) (m := m) hs4.rd (fun R ver off len kc ex esz e => (hs4.lies R ver off len kc ex esz e).2) hR3 (by rw [hg14.rowAt hB4n]; exact hB4) (by have := hg14.next; omega) (by omega) (by omega)
          have hfe := find_end (b := clock) (w := v') how.key how.nodup hin
          have hg15 : Grow H1 H5 := hg14.trans hg5
          cases hb : (ownD rows x).any (badB m) with
          | true =>
            have hno : ¬ okO rows m txs order := fun h => by
              have := (okO_at h hp).2.2.2
              rw [hown, hb] at this; cases this
            rw [hb] at hc63
            obtain ⟨H6, hw6, hH6⟩ := hfail H5 hg15
            rw [hH4] at hc63 hM4
            repeat (first | apply Wp.seq | apply Wp.blk | apply Wp.ret | apply Wp.skip | apply Wp.exit | apply Wp.cT rfl | apply Wp.cF rfl | ((apply Wp.reg; (repeat (apply Ex.cons; (simp (disch := omega) [-getElem?_pos, hv, hrow2, hc3, hM, hf, aLookup, lookupDone, hw6, aFill, hlt, hv1, hrow12, hd1, hd2, hc62, hM3, aMapUpdate, hM4, hfe, hc63]; rfl))); exact Ex.nil; rfl; (simp [-getElem?_pos]; rfl))))
            rw [hH6]
            exact hbad hno _ H5 hg15 (by simp [-getElem?_pos])
          | false =>
            rw [hb] at hc63
            have hn5 := hg5.next
            have how5 : OwnOk H5 (H1.next + 1) rows m txs es (order.take j) := how.move (by omega) fun A hA hA2 => by
              rw [hg5.get A (by omega), hH4, AHeap.get_set_ne _ _ (by omega), hg3.get A hA2]
            have hs5 : SliceE H5 (H1.next + 1) 41 v' ocs := hs4.move (by omega) hn5 fun A _ hA => hg5.get A hA
            have hown6 : OwnOk H5 (H1.next + 1) rows m txs (es ++ [(vi (q : Int), v', clock)]) (order.take (j + 1)) := by
              rw [List.take_add_one, hp]
              exact how5.push hin ⟨by omega, by omega, by rw [hown]; exact hb⟩ hs5 (by rw [hown]; exact hR3)
            have hM5 : H5.get H1.next = some (.map (es ++ [(vi (q : Int), v', clock)]) (clock + 1)) := by rw [hg5.get _ (by omega)]; exact hM4
            rw [hH4] at hc63 hM4
            repeat (first | apply Wp.seq | apply Wp.blk | apply Wp.ret | apply Wp.skip | apply Wp.exit | apply Wp.cT rfl | apply Wp.cF rfl | ((apply Wp.reg; (repeat (apply Ex.cons; (simp (disch := omega) [-getElem?_pos, hv, hrow2, hc3, hM, hf, aLookup, lookupDone, aFill, hlt, hv1, hrow12, hd1, hd2, hc62, hM3, aMapUpdate, hM4, hfe, hc63]; rfl))); exact Ex.nil; rfl; (simp [-getElem?_pos]; rfl))))
            exact ⟨(j + 1, H5), rfl, ⟨by show j + 1 ≤ _; omega, hg15, by show _ < H5.next; omega, _, _, hM5, hown6⟩, by show _ - (j + 1) < _ - j; omega, by simp [-getElem?_pos, hv, hv1]⟩
  · intro hjl
    apply Wp.exit
    have : order.take j = order := List.take_of_length_le (by omega)
    rw [this] at how
    exact hgood ⟨how.nodup, how.ok⟩ _ H2 es clock (by simp [-getElem?_pos]) hg2 hM hnx how

end Go.Proofs.Ythbjfkkjmecaaaa
namespace Go.Proofs.Ythbjfkkjmecaaaa
open Go Go.Vm
set_option linter.unusedVariables false
set_option linter.unusedSimpArgs false

variable {kn : Known} {env : Nat → Option AFunc}


variable {H H' H1 : AHeap} {N A B M : Nat} {v v0 ov tv : AVal} {rows l : List RowD} {rcs ocs tvs : List (List AVal)} {rc : List AVal} {r : RowD} {x : TxD} {sv rv wv : AVal} {m : Int} {txs : List TxD} {o : Nat → Nat} {order : List Int}

theorem zeroM_flat : zeroM.flatten = List.replicate 2048 zb := by rw [List.flatten_replicate_replicate]

structure ByE (kn : Known) (env : Nat → Option AFunc) : Prop extends RowE kn env where
  f33 : Fn kn env 33 a33
  f61 : Fn kn env 61 a61
  f65 : Fn kn env 65 a65
  f62 : Fn kn env 62 a62
  f63 : Fn kn env 63 a63
  f84 : Fn kn env 84 a84
  f64 : Fn kn env 64 a64
  f66 : Fn kn env 66 a66
  f30 : Fn kn env 30 a30

set_option maxHeartbeats 2000000 in
theorem c30 (E : ByE kn env) (n : Nat) (hins : InsC (callM kn env (n + 2))) (hrows : RowsAt H H.next v0 rows) (ho : RdE H 1 ov (ints order)) (hol : ov.lies (· < H.next)) (hr : rows.length < 400000000000) (ho2 : order.length < 40000000000000) (hn : rows.length + order.length + 30 < n) :
    ∃ v H', callM kn env (n + 7) (.func (.func 30) []) [v0, vi m, ov] H = some (v, H') ∧ Grow H H' ∧ ByRes H' H.next (byD rows m order) v := by
  obtain ⟨H1, hH1⟩ : ∃ H1, H1 = (H.push (.row [some (0, [vi m])])).push (.row [some (0, zfind)]) := ⟨_, rfl⟩
  have hn1 : H1.next = H.next + 2 := by rw [hH1]; simp [-getElem?_pos, -List.reduceReplicate]
  have hg1 : Grow H H1 := by rw [hH1]; exact (Grow.push _ _).trans (Grow.push _ _)
  have hB4 : H1.rowAt H.next 0 = some [vi m] := by rw [hH1]; simp (disch := omega) [-getElem?_pos, -List.reduceReplicate]
  have hB6 : Cells H1 (H.next + 1) zfind := by rw [hH1]; show AHeap.get _ _ = _; simp (disch := omega) [-getElem?_pos, -List.reduceReplicate]
  have h61 := c61 (H := H1) E.f61 (n + 5) m
  obtain ⟨rcs, hrd, hlies, hrlen, hat⟩ := hrows
  obtain ⟨v, H', h1, h2, h3⟩ := Wp.call (R := fun v H' => Grow H H' ∧ ByRes H' H.next (byD rows m order) v) 128 C30 E.f30.e (E.f30.no [v0, vi m, ov] H) (n := n + 6) rfl (by simp [-getElem?_pos, -List.reduceReplicate]) (by
    by_cases hm : 1 ≤ m ∧ m ≤ 64
    · have hd : decide (1 ≤ m ∧ m ≤ 64) = true := by simpa [-getElem?_pos, -List.reduceReplicate] using hm
      rw [hd] at h61
      have hrd1 := hrd.grow hg1 hlies
      have hl1 : v0.lies (· < H1.next) := fun R ver off len kc ex esz e => by have := hlies R ver off len kc ex esz e; omega
      have hrows1 : RowsAt H1 H1.next v0 rows := ⟨rcs, hrd1, hl1, hrlen, fun k rc r a b => by
        obtain ⟨q1, sv, q2⟩ := hat k rc r a b
        have q3 := q2.move (H' := H1) fun A hA => hg1.get A hA
        exact ⟨q1, sv, q3.at_, q3.rd, fun R ver off len kc ex esz e => by have := q3.lies R ver off len kc ex esz e; omega, q3.len⟩⟩
      obtain ⟨t33, H2, h33, hg2, hres⟩ := c33 E.toRowE E.f33 n (H := H1) hins hrows1 hr (by omega)
      have hrc : RowsC rcs rows := ⟨hrlen, fun k c r a b => (hat k c r a b).1⟩
      have hB6' : Cells H2 (H.next + 1) zfind := by unfold Cells; rw [hg2.get _ (by omega)]; exact hB6
      have hg02 := hg1.trans hg2
      have hwf : ∀ H3, Grow H2 H3 → H3.write (H.next + 1) 0 0 zfind = some (H3.set (H.next + 1) (.row [some (0, zfind)])) := fun H3 hg => by
        have hb : Cells H3 (H.next + 1) zfind := by unfold Cells; rw [hg.get _ (by have := hg2.next; omega)]; exact hB6'
        rw [Cells.write hb (by simp [-getElem?_pos, -List.reduceReplicate]) (by simp [-getElem?_pos, -List.reduceReplicate]) rfl]; simp [-getElem?_pos, -List.reduceReplicate, spl]
      repeat (first | apply Wp.seq | apply Wp.blk)
      (repeat (first | apply Wp.seq | apply Wp.blk)); (apply Wp.reg; (repeat (apply Ex.cons; (simp (disch := omega) [-getElem?_pos, -List.reduceReplicate]; rfl))); exact Ex.nil; rfl; (simp [-getElem?_pos, -List.reduceReplicate]; rfl))
      rw [← hH1]
      cases ht : txsD rows with
      | none =>
        rw [ht] at hres
        have hres' : t33 = .tuple [anil, vi 230] := hres
        rw [hres'] at h33
        have hw2 := hwf H2 (Grow.refl _)
        repeat (first | apply Wp.seq | apply Wp.blk | apply Wp.ret | apply Wp.skip | apply Wp.exit | apply Wp.cT rfl | apply Wp.cF rfl | ((apply Wp.reg; (repeat (apply Ex.cons; (simp (disch := omega) [-getElem?_pos, -List.reduceReplicate, h61, hB4, aFill, h33, hw2]; rfl))); exact Ex.nil; rfl; (simp [-getElem?_pos, -List.reduceReplicate]; rfl))))
        have hbd : byD rows m order = .error 230 := by unfold byD; rw [if_neg (by simpa [-getElem?_pos, -List.reduceReplicate] using hm), ht]
        rw [hbd]
        simp [-getElem?_pos, -List.reduceReplicate, a30, ByRes]
        exact ⟨hg02.set (by omega) _, rfl⟩
      | some txs =>
        rw [ht] at hres
        obtain ⟨tv, tvs, o, htv, hts, htl, hta⟩ := hres
        rw [htv] at h33
        (repeat (first | apply Wp.seq | apply Wp.blk)); (apply Wp.reg; (repeat (apply Ex.cons; (simp (disch := omega) [-getElem?_pos, -List.reduceReplicate, h61, hB4]; rfl))); exact Ex.nil; rfl; (simp [-getElem?_pos, -List.reduceReplicate]; rfl))
        apply Wp.cF rfl
        apply Wp.skip
        (repeat (first | apply Wp.seq | apply Wp.blk)); (apply Wp.reg; (repeat (apply Ex.cons; (simp (disch := omega) [-getElem?_pos, -List.reduceReplicate, h33]; rfl))); exact Ex.nil; rfl; (simp [-getElem?_pos, -List.reduceReplicate]; rfl))
        (repeat (first | apply Wp.seq | apply Wp.blk)); (apply Wp.reg; (repeat (apply Ex.cons; (simp (disch := omega) [-getElem?_pos, -List.reduceReplicate]; rfl))); exact Ex.nil; rfl; (simp [-getElem?_pos, -List.reduceReplicate]; rfl))
        apply Wp.cF rfl
        apply Wp.skip
        (repeat (first | apply Wp.seq | apply Wp.blk)); (apply Wp.reg; (repeat (apply Ex.cons; (simp (disch := omega) [-getElem?_pos, -List.reduceReplicate]; rfl))); exact Ex.nil; rfl; (simp [-getElem?_pos, -List.reduceReplicate]; rfl))
        apply Wp.seq
        have hbeg := txsD_begun ht
        have hB4n : H.next < H2.next := by have := hg2.next; omega
        have hB6n : H.next + 1 < H2.next := by have := hg2.next; omega
        have hB42 : H2.rowAt H.next 0 = some [vi m] := by rw [hg2.rowAt (by omega)]; exact hB4
        refine Wp.sub [(0, v0), (2, ov), (4, .ptr H.next 0 0), (6, .ptr (H.next + 1) 0 0), (9, tv), (11, .map H2.next)] ?_ (by simp [-getElem?_pos, -List.reduceReplicate])
        refine byOwn E.f62 E.f63 E.f84 E.f64 (n + 3) (N := H1.next) (m := m) (order := order) (txs := txs) (o := o) (tvs := tvs) (rcs := rcs) (rows := rows) (hrd1.grow hg2 hl1) (fun R ver off len kc ex esz e => by have := hl1 R ver off len kc ex esz e; have := hg2.next; omega) hrc hts hta hbeg (ho.grow hg02 hol) (fun R ver off len kc ex esz e => by have := hol R ver off len kc ex esz e; omega) hB42 hB4n hB6' hB6n hr ho2 (by omega) (fun hno l' H3 hg3 hsub => ?_) (fun hok l' H3 es clock hsub hg3 hM hnM how => ?_)
        · have hbd : byD rows m order = .error 230 := by unfold byD; rw [if_neg (by simpa [-getElem?_pos, -List.reduceReplicate] using hm), ht]; simp only [if_neg hno]
          rw [hbd]
          have e6 := hsub.look 6 _ rfl
          have e7 := hsub.look 7 _ rfl
          have e8 := hsub.look 8 _ rfl
          simp only [QSeq]
          simp [-getElem?_pos, -List.reduceReplicate, a30, e6, e7, e8, ByRes]
          exact ⟨(hg02.trans hg3).set (by omega) _, rfl⟩
        · refine Wp.sub [(2, ov), (4, .ptr H.next 0 0), (6, .ptr (H.next + 1) 0 0), (11, .map H2.next)] ?_ hsub
          obtain ⟨H4, h65, hg4⟩ := c65 (H := H3) E.f65 (n + 5)
          obtain ⟨H5, hw5, hg5, hc5, hn5⟩ := newCells H4 (z := zfind) (e := gfind) rfl (by simp [-getElem?_pos, -List.reduceReplicate]) rfl
          (repeat (first | apply Wp.seq | apply Wp.blk)); (apply Wp.reg; (repeat (apply Ex.cons; (simp (disch := omega) [-getElem?_pos, -List.reduceReplicate, h65, hw5]; rfl))); exact Ex.nil; rfl; (simp [-getElem?_pos, -List.reduceReplicate]; rfl))
          (repeat (first | apply Wp.seq | apply Wp.blk)); (apply Wp.reg; (repeat (apply Ex.cons; (simp (disch := omega) [-getElem?_pos, -List.reduceReplicate]; rfl))); exact Ex.nil; rfl; (simp [-getElem?_pos, -List.reduceReplicate]; rfl))
          apply Wp.seq
          have hn4 := hg4.next
          have hb6 : Between H3 H4.next H5.next goodF zeroM (H5.push (.row [some (0, List.replicate 2048 zb)])) := by
            refine ⟨(hg4.trans hg5).trans (Grow.push _ _), ?_, ?_, zeroV_is, zeroM_is, ⟨hn4, by simp [-getElem?_pos, -List.reduceReplicate]; omega⟩, ⟨by omega, by simp [-getElem?_pos, -List.reduceReplicate]⟩, by omega⟩
            · unfold Cells; rw [AHeap.get_push_ne _ _ (by omega)]; exact hc5
            · unfold Cells; rw [AHeap.get_push_same, zeroM_flat]
          refine Wp.sub [(2, ov), (4, .ptr H.next 0 0), (6, .ptr (H.next + 1) 0 0), (11, .map H2.next), (16, .ptr H4.next 0 0), (17, .ptr H5.next 0 0)] ?_ (by simp [-getElem?_pos, -List.reduceReplicate])
          have hg03 := hg02.trans hg3
          refine byOut hb6 (ov := ov) (order := order) (rows := rows) (m := m) (txs := txs) (N := H2.next + 1) (ho.grow hg03 hol) (fun R ver off len kc ex esz e => by have := hol R ver off len kc ex esz e; have := hg03.next; omega) (by omega) hM hnM how ho2 hr (by omega) fun l'' H7 f' mm' hsub2 hb7 hT => ?_
          obtain ⟨q, rfl⟩ : ∃ q : Nat, m = q := ⟨m.toNat, by omega⟩
          have hn3 := hg3.next
          have hn2 := hg2.next
          have hn5' := hg5.next
          have hn7 := hb7.grow.next
          have hg07 := hg03.trans hb7.grow
          have hB47 : H7.rowAt H.next 0 = some [vi q] := by rw [(hg3.trans hb7.grow).rowAt hB4n]; exact hB42
          have hB67 : Cells H7 (H.next + 1) zfind := by unfold Cells; rw [(hg3.trans hb7.grow).get _ hB6n]; exact hB6'
          have hF7 := hb7.cf.at
          have hP7 := hb7.cp.at
          obtain ⟨hpl, _⟩ := hb7.pm.flat
          have hml := hb7.pm.len
          have hel : ∀ e ∈ mm', e.length = 32 := fun e he => (hb7.pm.val e he).len
          have hF35 : f'.cells.length = 35 := by simp [-getElem?_pos, -List.reduceReplicate, FindD.cells, hb7.fw.len]
          have hFt : f'.cells.take 35 = f'.cells := List.take_of_length_le (by omega)
          have hbq : AVal.beqs f'.cells f'.cells = true := by simp [-getElem?_pos, -List.reduceReplicate, FindD.cells, beqs_bytes hb7.fw.bytes]
          have hrdm : RdE H7 32 (.slice H5.next 0 0 q 64 true 32) (mm'.take q) := by
            refine ⟨fun e he => hel e (List.mem_of_mem_take he), .inr ⟨H5.next, 0, 0, 64, true, mm'.flatten, by rw [List.length_take, Nat.min_eq_left (by omega)], hP7, by rw [List.length_take]; omega, by rw [List.length_take, hpl]; omega, ?_⟩⟩
            rw [List.drop_zero, List.length_take, Nat.min_eq_left (by omega), flatten_take q hel]
          obtain ⟨mv, H8, h66, hg8, hs8⟩ := c66 (H := H7) E.f66 (n + 5) hrdm (fun R ver off len kc ex esz e => by cases e; exact hb7.hP.2) (fun e => by have := congrArg List.length e; rw [List.length_take, List.length_nil] at this; omega) (fun e he => (hb7.pm.val e (List.mem_of_mem_take he)).one) (by rw [List.length_take]; omega)
          have hn8 := hg8.next
          have hF8 : H8.rowAt H4.next 0 = some f'.cells := by rw [hg8.rowAt hb7.hF.2]; exact hF7
          have hP8 : H8.rowAt H5.next 0 = some mm'.flatten := by rw [hg8.rowAt hb7.hP.2]; exact hP7
          have hB48 : H8.rowAt H.next 0 = some [vi q] := by rw [hg8.rowAt (by omega)]; exact hB47
          have hB68 : Cells H8 (H.next + 1) zfind := by unfold Cells; rw [hg8.get _ (by omega)]; exact hB67
          have hw8 : H8.write (H.next + 1) 0 0 f'.cells = some (H8.set (H.next + 1) (.row [some (0, f'.cells)])) := by
            rw [Cells.write hB68 (by omega) (by simp [-getElem?_pos, -List.reduceReplicate, hF35]) (by simp only [FindD.cells, List.all_cons, hb7.fw.one, Bool.and_true]; rfl)]
            have : spl zfind 0 f'.cells = f'.cells := by
              simp only [spl, List.take_zero, List.nil_append, Nat.zero_add, hF35]; simp [-getElem?_pos, -List.reduceReplicate]
            rw [this]
          have hF9 : H4.next ≠ H.next + 1 := by omega
          have hP9 : H5.next ≠ H.next + 1 := by omega
          have hbd : byD rows q order = .ok (f', mm'.take q) := by
            unfold byD; rw [if_neg (by simpa [-getElem?_pos, -List.reduceReplicate] using hm), ht]; simp only [if_pos hok, hT]; rfl
          rw [hbd]
          refine Wp.sub [(4, .ptr H.next 0 0), (6, .ptr (H.next + 1) 0 0), (16, .ptr H4.next 0 0), (17, .ptr H5.next 0 0)] ?_ hsub2
          repeat (first | apply Wp.seq | apply Wp.blk | apply Wp.ret | apply Wp.skip | apply Wp.exit | apply Wp.cT rfl | apply Wp.cF rfl | ((apply Wp.reg; (repeat (apply Ex.cons; (simp (disch := omega) [-getElem?_pos, -List.reduceReplicate, hF7, hP7, hB47, hF35, hFt, hbq, h66, hF8, hP8, hB48, hw8, aSliceA, aBoundO, aBound, hpl]; rfl))); exact Ex.nil; rfl; (simp [-getElem?_pos, -List.reduceReplicate]; rfl))) | ((apply Wp.draw; (repeat (first | ((first | apply Dr.q rfl rfl | apply Dr.r rfl rfl); (simp (disch := omega) [-getElem?_pos, -List.reduceReplicate, hF7, hP7, hB47, hF35, hFt, hbq, h66, hF8, hP8, hB48, hw8, aSliceA, aBoundO, aBound, hpl]; rfl); (simp [-getElem?_pos, -List.reduceReplicate]; rfl)) | (apply Dr.imm rfl; (simp (disch := omega) [-getElem?_pos, -List.reduceReplicate, hF7, hP7, hB47, hF35, hFt, hbq, h66, hF8, hP8, hB48, hw8, aSliceA, aBoundO, aBound, hpl]; rfl); (focus first | (simp [-getElem?_pos, -List.reduceReplicate]; done) | (simp [-getElem?_pos, -List.reduceReplicate]; omega))))); exact Dr.nil; rfl; (simp (disch := omega) [-getElem?_pos, -List.reduceReplicate, hF7, hP7, hB47, hF35, hFt, hbq, h66, hF8, hP8, hB48, hw8, aSliceA, aBoundO, aBound, hpl]); (simp [-getElem?_pos, -List.reduceReplicate]; rfl))))
          have hs9 : SliceE (H8.set (H.next + 1) (.row [some (0, f'.cells)])) H.next 32 mv (mm'.take q) := hs8.move (by omega) (Nat.le_refl _) fun A hA _ => by rw [AHeap.get_set_ne _ _ (by omega)]
          simp [-getElem?_pos, -List.reduceReplicate, a30, ByRes, hF35, hFt]
          exact ⟨(hg07.trans hg8).set (by omega) _, hs9, hb7.fw, fun e he => hb7.pm.val e (List.mem_of_mem_take he)⟩
    · have hbd : byD rows m order = .error 2 := by unfold byD; rw [if_pos hm]
      rw [hbd]
      have hwf : H1.write (H.next + 1) 0 0 zfind = some (H1.set (H.next + 1) (.row [some (0, zfind)])) := by
        rw [Cells.write hB6 (by simp [-getElem?_pos, -List.reduceReplicate]) (by simp [-getElem?_pos, -List.reduceReplicate]) rfl]; simp [-getElem?_pos, -List.reduceReplicate, spl]
      have hd : decide (1 ≤ m ∧ m ≤ 64) = false := by simpa [-getElem?_pos, -List.reduceReplicate] using hm
      rw [hd] at h61
      have hX := hB6.at
      repeat (first | apply Wp.seq | apply Wp.blk)
      (repeat (first | apply Wp.seq | apply Wp.blk)); (apply Wp.reg; (repeat (apply Ex.cons; (simp (disch := omega) [-getElem?_pos, -List.reduceReplicate]; rfl))); exact Ex.nil; rfl; (simp [-getElem?_pos, -List.reduceReplicate]; rfl))
      rw [← hH1]
      repeat (first | apply Wp.seq | apply Wp.blk | apply Wp.ret | apply Wp.skip | apply Wp.exit | apply Wp.cT rfl | apply Wp.cF rfl | ((apply Wp.reg; (repeat (apply Ex.cons; (simp (disch := omega) [-getElem?_pos, -List.reduceReplicate, h61, hB4, aFill, hwf]; rfl))); exact Ex.nil; rfl; (simp [-getElem?_pos, -List.reduceReplicate]; rfl))))
      simp [-getElem?_pos, -List.reduceReplicate, a30, ByRes]
      exact ⟨hg1.set (by omega) _, rfl⟩)
  exact ⟨v, H', h1, h2, h3⟩

end Go.Proofs.Ythbjfkkjmecaaaa
namespace Go.Proofs.Ythbjfkkjmecaaaa
open Go Go.Vm
set_option linter.unusedVariables false
set_option linter.unusedSimpArgs false

variable {kn : Known} {env : Nat → Option AFunc}

variable {H H' H1 : AHeap} {N A B M : Nat} {v v0 ov tv : AVal} {rows l : List RowD} {rcs ocs tvs : List (List AVal)} {rc : List AVal} {r : RowD} {x : TxD} {sv rv wv : AVal} {m : Int} {txs : List TxD} {o : Nat → Nat} {order : List Int}

/-! ### Plain -/

/-! ### Walks -/

theorem c11 (h : Fn kn env 11 a11) (n : Nat) (hrd : RdE H 41 v0 rcs) : ∃ v', callM kn env (n + 1) (.func (.func 11) []) [v0] H = some (v', H) ∧ RdE H 41 v' (rcs.take 400) ∧ ∀ p : Nat → Prop, v0.lies p → v'.lies p := by
  have hlen := hrd.lenS
  by_cases hc : 400 < rcs.length
  · rcases id hrd with ⟨h0, ⟨rfl, rfl⟩ | ⟨R, ver, off, kc, ex, cells, rfl, h2, h3, h4, h5⟩⟩
    · simp [-getElem?_pos] at hc
    · refine ⟨.slice R ver off 400 kc ex 41, Wp.call1 9 [0, 2, 5] h.e (h.no [.slice R ver off rcs.length kc ex 41] H) rfl (by simp [-getElem?_pos]) ?_, ⟨fun e he => h0 e (List.mem_of_mem_take he), .inr ⟨R, ver, off, kc, ex, cells, by rw [List.length_take, Nat.min_eq_left (by omega)], h2, by rw [List.length_take]; omega, by rw [List.length_take]; omega, ?_⟩⟩, fun p hp R' ver' off' len kcap ex' esz' e => by cases e; exact hp _ _ _ _ _ _ _ rfl⟩
      · repeat (first | apply Wp.seq | apply Wp.blk | apply Wp.ret | apply Wp.skip | apply Wp.exit | apply Wp.cT rfl | apply Wp.cF rfl | ((apply Wp.reg; (repeat (apply Ex.cons; (simp (disch := omega) [-getElem?_pos, aLenS, aSliceS, aBoundO, aBound, hc]; rfl))); exact Ex.nil; rfl; (simp [-getElem?_pos]; rfl))))
        simp [-getElem?_pos, a11]
      · rw [List.length_take, Nat.min_eq_left (by omega), flatten_take 400 h0, ← h5, List.take_take, Nat.min_eq_left (by omega)]
  · refine ⟨v0, Wp.call1 9 [0, 2, 5] h.e (h.no [v0] H) rfl (by simp [-getElem?_pos]) ?_, by rw [List.take_of_length_le (by omega)]; exact hrd, fun p hp => hp⟩
    repeat (first | apply Wp.seq | apply Wp.blk | apply Wp.ret | apply Wp.skip | apply Wp.exit | apply Wp.cT rfl | apply Wp.cF rfl | ((apply Wp.reg; (repeat (apply Ex.cons; (simp (disch := omega) [-getElem?_pos, hlen]; rfl))); exact Ex.nil; rfl; (simp [-getElem?_pos]; rfl))))
    simp [-getElem?_pos, a11]

open Classical in
theorem c22 (h : Fn kn env 22 a22) (n : Nat) {v1 v2 : AVal} {es1 es2 : List (List AVal)} (h1 : RdE H 32 v1 es1) (h2 : RdE H 32 v2 es2) (hv1 : ∀ e ∈ es1, IsVal e) (hv2 : ∀ e ∈ es2, IsVal e) (hl : es1.length < 1000000000000) (hn : es1.length + 5 < n) : callM kn env (n + 1) (.func (.func 22) []) [v1, v2] H = some (abool (decide (es1 = es2)), H) := by
  have hl1 := h1.lenS
  have hl2 := h2.lenS
  refine Wp.call1 26 [0, 1, 4, 5, 10, 14, 25] h.e (h.no [v1, v2] H) rfl (by simp [-getElem?_pos]) ?_
  by_cases hne : (es1.length : Int) = es2.length
  · repeat (first | apply Wp.seq | apply Wp.blk | apply Wp.ret | apply Wp.skip | apply Wp.exit | apply Wp.cT rfl | apply Wp.cF rfl | ((apply Wp.reg; (repeat (apply Ex.cons; (simp (disch := omega) [-getElem?_pos, hl1, hl2]; rfl))); exact Ex.nil; rfl; (simp [-getElem?_pos]; rfl))))
    apply Wp.loop (α := Nat) (fun y => [(0, v1), (1, v2), (5, vi y)]) (fun _ => H) (fun y => y ≤ es1.length ∧ es1.take y = es2.take y) (fun y => es1.length - y) 0 rfl ⟨by omega, rfl⟩ (by simp [-getElem?_pos]; omega) (by simp [-getElem?_pos])
    rintro j ⟨hj, heq⟩
    skip
    (repeat (first | apply Wp.seq | apply Wp.blk)); (apply Wp.reg; (repeat (apply Ex.cons; (simp (disch := omega) [-getElem?_pos, hl1]; rfl))); exact Ex.nil; rfl; (simp [-getElem?_pos]; rfl))
    (repeat (first | apply Wp.seq | apply Wp.blk)); apply Wp.ite rfl
    · intro hjl
      obtain ⟨e1, he1⟩ : ∃ e, es1[j]? = some e := ⟨_, List.getElem?_eq_getElem (by omega)⟩
      obtain ⟨e2, he2⟩ : ∃ e, es2[j]? = some e := ⟨_, List.getElem?_eq_getElem (by omega)⟩
      obtain ⟨R1, ver1, off1, kc1, ex1, cells1, hq1, hr1, ha1, hb1⟩ := h1.at he1
      obtain ⟨R2, ver2, off2, kc2, ex2, cells2, hq2, hr2, ha2, hb2⟩ := h2.at he2
      have i1 := hv1 e1 (List.mem_of_getElem? he1)
      have i2 := hv2 e2 (List.mem_of_getElem? he2)
      have b1 : AVal.beqs e1 e1 = true := beqs_bytes i1.bytes
      have b2 : AVal.beqs e2 e2 = true := beqs_bytes i2.bytes
      apply Wp.skip
      by_cases hee : e1 = e2
      · subst hee
        have hev := eqVal_t i1
        repeat (first | apply Wp.seq | apply Wp.blk | apply Wp.ret | apply Wp.skip | apply Wp.exit | apply Wp.cT rfl | apply Wp.cF rfl | ((apply Wp.reg; (repeat (apply Ex.cons; (simp (disch := omega) [-getElem?_pos, hq1, hq2, hr1, hr2, ha1, ha2, hb1, hb2, hev, b1]; rfl))); exact Ex.nil; rfl; (simp [-getElem?_pos]; rfl))) | ((apply Wp.draw; (repeat (first | ((first | apply Dr.q rfl rfl | apply Dr.r rfl rfl); (simp (disch := omega) [-getElem?_pos, hq1, hq2, hr1, hr2, ha1, ha2, hb1, hb2, hev, b1]; rfl); (simp [-getElem?_pos]; rfl)) | (apply Dr.imm rfl; (simp (disch := omega) [-getElem?_pos, hq1, hq2, hr1, hr2, ha1, ha2, hb1, hb2, hev, b1]; rfl); (focus first | (simp [-getElem?_pos]; done) | (simp [-getElem?_pos]; omega))))); exact Dr.nil; rfl; (simp (disch := omega) [-getElem?_pos, hq1, hq2, hr1, hr2, ha1, ha2, hb1, hb2, hev, b1]); (simp [-getElem?_pos]; rfl))))
        exact ⟨j + 1, rfl, ⟨by omega, by rw [List.take_add_one, List.take_add_one, heq, he1, he2]⟩, by omega, by simp [-getElem?_pos, hq1, hq2]⟩
      · have hev := eqVal_f i1 i2 hee
        repeat (first | apply Wp.seq | apply Wp.blk | apply Wp.ret | apply Wp.skip | apply Wp.exit | apply Wp.cT rfl | apply Wp.cF rfl | ((apply Wp.reg; (repeat (apply Ex.cons; (simp (disch := omega) [-getElem?_pos, hq1, hq2, hr1, hr2, ha1, ha2, hb1, hb2, hev, b1, b2]; rfl))); exact Ex.nil; rfl; (simp [-getElem?_pos]; rfl))) | ((apply Wp.draw; (repeat (first | ((first | apply Dr.q rfl rfl | apply Dr.r rfl rfl); (simp (disch := omega) [-getElem?_pos, hq1, hq2, hr1, hr2, ha1, ha2, hb1, hb2, hev, b1, b2]; rfl); (simp [-getElem?_pos]; rfl)) | (apply Dr.imm rfl; (simp (disch := omega) [-getElem?_pos, hq1, hq2, hr1, hr2, ha1, ha2, hb1, hb2, hev, b1, b2]; rfl); (focus first | (simp [-getElem?_pos]; done) | (simp [-getElem?_pos]; omega))))); exact Dr.nil; rfl; (simp (disch := omega) [-getElem?_pos, hq1, hq2, hr1, hr2, ha1, ha2, hb1, hb2, hev, b1, b2]); (simp [-getElem?_pos]; rfl))))
        simp [-getElem?_pos, a22]
        intro e
        rw [e, he2] at he1
        exact hee (Option.some.inj he1).symm
    · intro hjl
      apply Wp.exit
      repeat (first | apply Wp.seq | apply Wp.blk | apply Wp.ret | apply Wp.skip | apply Wp.exit | apply Wp.cT rfl | apply Wp.cF rfl | ((apply Wp.reg; (repeat (apply Ex.cons; (simp (disch := omega) [-getElem?_pos]; rfl))); exact Ex.nil; rfl; (simp [-getElem?_pos]; rfl))))
      simp [-getElem?_pos, a22]
      rw [List.take_of_length_le (by omega), List.take_of_length_le (by omega)] at heq
      exact heq
  · have hne2 : es1 ≠ es2 := fun e => hne (by rw [e])
    repeat (first | apply Wp.seq | apply Wp.blk | apply Wp.ret | apply Wp.skip | apply Wp.exit | apply Wp.cT rfl | apply Wp.cF rfl | ((apply Wp.reg; (repeat (apply Ex.cons; (simp (disch := omega) [-getElem?_pos, hl1, hl2, hne]; rfl))); exact Ex.nil; rfl; (simp [-getElem?_pos]; rfl))))
    simp [-getElem?_pos, a22, hne2]

end Go.Proofs.Ythbjfkkjmecaaaa
