/- Walks: By, the loop that makes the map of own rows. -/
import Derived.Test.YthbjfkkjmecaaaaY29
set_option linter.unusedVariables false
set_option linter.unusedSimpArgs false
namespace Go.Proofs.Ythbjfkkjmecaaaa
open Go Go.Vm
section
variable {kn : zy0} {env : Nat → Option zzq}
variable {H H' H1 : zz6} {N A B : Nat} {v v0 ov tv : AVal} {rows : List RowD} {rcs ocs tvs : List (List AVal)} {rc : List AVal} {r : RowD} {x : TxD} {sv rv wv : AVal} {m : Int} {txs : List TxD} {o : Nat → Nat} {order : List Int}
abbrev by5 : zym := zj9 (zj9 (zj9 (zj9 (zj9 a30.code))))
set_option maxHeartbeats 2000000 in
theorem yjn (h62 : Fn kn env 62 a62) (h63 : Fn kn env 63 a63) (h84 : Fn kn env 84 a84) (h64 : Fn kn env 64 a64) (n : Nat) {Q : Exit → KS → Prop} {B4 B6 : Nat} (hrd : RdE H1 41 v0 rcs) (hl0 : v0.lies (· < H1.next)) (hrc : zqj rcs rows) (htx : zzw H1 N 12 tv tvs) (hat : zte H1 N o tvs txs) (hbeg : ∀ x ∈ txs, ∃ q : Nat, x.begun = q ∧ q < rows.length)
  (ho : RdE H1 1 ov (ints order)) (hol : ov.lies (· < H1.next)) (hB4 : H1.rowAt B4 0 = some [vi m]) (hB4n : B4 < H1.next) (hB6 : Cells H1 B6 zwj) (hB6n : B6 < H1.next) (hr : rows.length < 400000000000) (ho2 : order.length < 40000000000000) (hn : rows.length + order.length + 10 < n)
  (hbad : ¬ okO rows m txs order → ∀ l' H2, Grow H1 H2 → SubK [(6, .ptr B6 0 0), (7, zxa), (8, vi 230)] l' → Q .ret (l', H2.set B6 (.row [some (0, zwj)])))
  (hgood : okO rows m txs order → ∀ l' H2 es clock, SubK [(2, ov), (4, .ptr B4 0 0), (6, .ptr B6 0 0), (11, .map H1.next)] l' → Grow H1 H2 → H2.get H1.next = some (.map es clock) → H1.next < H2.next → zk2 H2 (H1.next + 1) rows m txs es order → Q .normal (l', H2)) :
  Wp (zzp kn env (n + 3)) (n + 3) 128 C30 (yxl by5) ([(0, v0), (2, ov), (4, .ptr B4 0 0), (6, .ptr B6 0 0), (9, tv), (11, .map H1.next)], H1.push (.map [] 0)) Q := by
 have hlen : zyy ov = some (vi order.length) := by have := ho.lenS; simpa [-getElem?_pos] using this
 have hlt : zyy tv = some (vi txs.length) := by have := htx.rd.lenS; rw [hat.1] at this; exact this
 repeat (first | apply Wp.za | apply Wp.zb | apply Wp.zc | apply Wp.zd | apply Wp.ze | apply Wp.zf rfl | apply Wp.zg rfl | ((apply Wp.zh; (repeat (apply Ex.zc; (simp (disch := omega) [-getElem?_pos, hlen]; rfl))); exact Ex.zn; rfl; (simp; rfl))))
 apply Wp.loop (α := Nat × zz6) (fun y => [(0, v0), (2, ov), (4, .ptr B4 0 0), (6, .ptr B6 0 0), (9, tv), (11, .map H1.next), (38, ov), (39, vi order.length), (40, vi y.1)]) (·.2)
  (fun y => y.1 ≤ order.length ∧ Grow H1 y.2 ∧ H1.next < y.2.next ∧ ∃ es clock, y.2.get H1.next = some (.map es clock) ∧ zk2 y.2 (H1.next + 1) rows m txs es (order.take y.1)) (fun y => order.length - y.1)
  (0, H1.push (.map [] 0)) rfl ⟨by omega, Grow.push _ _, by simp [-getElem?_pos], [], 0, zz6.zzl _ _, zk2.nil⟩ (by simp; omega) (by simp)
 rintro ⟨j, H2⟩ ⟨hj, hg2, hnx, es, clock, hM, how⟩
 dsimp only at hj hg2 hnx hM how ⊢
 (repeat (first | apply Wp.za | apply Wp.zb)); (apply Wp.zh; (repeat (apply Ex.zc; (simp (disch := omega) [-getElem?_pos]; rfl))); exact Ex.zn; rfl; (simp; rfl))
 (repeat (first | apply Wp.za | apply Wp.zb)); apply Wp.ite rfl
 ·intro hjl
  obtain ⟨p, hp⟩ : ∃ p, order[j]? = some p := ⟨_, List.getElem?_eq_getElem (by omega)⟩
  obtain ⟨R0, ver0, off, kc, ex, cells, hv, hrow, hc1, hc2⟩ := ho.at (i := j) (e := [vi p]) (by rw [List.getElem?_map, hp]; rfl)
  simp only [List.length_map] at hv
  have hR0 := hol _ _ _ _ _ _ _ hv
  have hrow2 : H2.rowAt R0 ver0 = some cells := by rw [hg2.rowAt hR0]; exact hrow
  rw [Nat.mul_one] at hc1 hc2
  have hc3 : cells[off + j]? = some (vi p) := by
   have : (List.take 1 (List.drop (off + j) cells))[0]? = some (vi p) := by rw [hc2]; rfl
   rw [List.getElem?_take, if_pos (by omega), List.getElem?_drop] at this
   exact this
  -- how it fails
  have hfail : ∀ H', Grow H1 H' → ∃ H'', H'.write B6 0 0 zwj = some H'' ∧ H'' = H'.set B6 (.row [some (0, zwj)]) := fun H' hg => by
   have hb : Cells H' B6 zwj := by unfold Cells; rw [hg.get B6 hB6n]; exact hB6
   exact ⟨_, Cells.write hb (by simp) (by simp) rfl, by simp [-getElem?_pos, spl]⟩
  apply Wp.zd
  by_cases hin : p ∈ order.take j
  ·have hno : ¬ okO rows m txs order := fun h => (zun h hp).1 hin
   obtain ⟨i, hi⟩ := List.mem_iff_getElem?.1 hin
   obtain ⟨w, b, ocs, he, hf, _⟩ := how.find hi
   obtain ⟨H3, hw3, hH3⟩ := hfail H2 hg2
   repeat (first | apply Wp.za | apply Wp.zb | apply Wp.zc | apply Wp.zd | apply Wp.ze | apply Wp.zf rfl | apply Wp.zg rfl | ((apply Wp.zh; (repeat (apply Ex.zc; (simp (disch := omega) [-getElem?_pos, hv, hrow2, hc3, hM, hf, zzr, zzs, hw3, zzm, hlt]; rfl))); exact Ex.zn; rfl; (simp; rfl))))
   rw [hH3]
   exact hbad hno _ H2 hg2 (by simp)
  ·have hf := how.findNo hin
   by_cases hp0 : p < 0
   ·have hno : ¬ okO rows m txs order := fun h => by have := (zun h hp).2.1; omega
    obtain ⟨H3, hw3, hH3⟩ := hfail H2 hg2
    repeat (first | apply Wp.za | apply Wp.zb | apply Wp.zc | apply Wp.zd | apply Wp.ze | apply Wp.zf rfl | apply Wp.zg rfl | ((apply Wp.zh; (repeat (apply Ex.zc; (simp (disch := omega) [-getElem?_pos, hv, hrow2, hc3, hM, hf, zzr, zzs, hw3, zzm, hlt, hp0]; rfl))); exact Ex.zn; rfl; (simp; rfl))))
    rw [hH3]
    exact hbad hno _ H2 hg2 (by simp)
   ·obtain ⟨q, rfl⟩ : ∃ q : Nat, p = q := ⟨p.toNat, by omega⟩
    by_cases hq : txs.length ≤ q
    ·have hno : ¬ okO rows m txs order := fun h => by have := (zun h hp).2.2.1; omega
     obtain ⟨H3, hw3, hH3⟩ := hfail H2 hg2
     repeat (first | apply Wp.za | apply Wp.zb | apply Wp.zc | apply Wp.zd | apply Wp.ze | apply Wp.zf rfl | apply Wp.zg rfl | ((apply Wp.zh; (repeat (apply Ex.zc; (simp (disch := omega) [-getElem?_pos, hv, hrow2, hc3, hM, hf, zzr, zzs, hw3, zzm, hlt]; rfl))); exact Ex.zn; rfl; (simp; rfl))))
     rw [hH3]
     exact hbad hno _ H2 hg2 (by simp)
    ·obtain ⟨x, hx⟩ : ∃ x, txs[q]? = some x := ⟨_, List.getElem?_eq_getElem (by omega)⟩
     obtain ⟨e, he⟩ : ∃ e, tvs[q]? = some e := ⟨_, List.getElem?_eq_getElem (by have := hat.1; omega)⟩
     obtain ⟨sv, rv, wv, ht⟩ := hat.2 q e x he hx
     obtain ⟨R1, ver1, off1, kc1, ex1, cells1, hv1, hrow1, hd1, hd2⟩ := htx.rd.at he
     rw [hat.1] at hv1
     rw [ht.eq] at hd2
     have hR1 : R1 < H1.next := (htx.lies _ _ _ _ _ _ _ hv1).2
     have hrow12 : H2.rowAt R1 ver1 = some cells1 := by rw [hg2.rowAt hR1]; exact hrow1
     obtain ⟨k, hk, hkl⟩ := hbeg x (List.mem_of_getElem? hx)
     obtain ⟨v', H3, ocs, hc62, hg3, hs3, hR3⟩ := c62 h62 (n + 2) (H := H2) (v0 := v0) (rows := rows) (x := x) (sv := sv) (rv := rv) (wv := wv) (hrd.grow hg2 hl0) (fun R ver off len kc ex esz e => by have := hl0 R ver off len kc ex esz e; have := hg2.next; omega) hrc hk hkl hr (by omega) ht.set.one ht.reads.rd.one ht.writes.rd.one
     have hown : zqt rows txs (q : Int) = zf2 rows x := by unfold zqt; rw [Int.toNat_natCast, hx]
     have hM3 : H3.get H1.next = some (.map es clock) := by rw [hg3.get _ hnx]; exact hM
     have hg13 : Grow H1 H3 := hg2.trans hg3
     obtain ⟨H4, hH4⟩ : ∃ H4, H4 = H3.set H1.next (.map (es ++ [(vi (q : Int), v', clock)]) (clock + 1)) := ⟨_, rfl⟩
     have hg14 : Grow H1 H4 := by rw [hH4]; exact hg13.set (Nat.le_refl _) _
     have hn4 : H4.next = H3.next := by rw [hH4]; rfl
     have hM4 : H4.get H1.next = some (.map (es ++ [(vi (q : Int), v', clock)]) (clock + 1)) := by rw [hH4]; exact zz6.zzy _ _ _
     have hn3 := hg3.next
     have hs4 : zzw H4 H2.next 41 v' ocs := hs3.move (Nat.le_refl _) (by omega) fun A hA _ => by rw [hH4, zz6.zzz _ _ (by omega)]
     have hol3 : (zf2 rows x).length ≤ rows.length := by unfold zf2; have := zrh x.client (rows.drop (x.begun + 1).toNat); simp [-getElem?_pos] at this; omega
     obtain ⟨H5, hc63, hg5⟩ := c63 h63 h84 h64 n (H := H4) (B := B4) (m := m) hs4.rd (fun R ver off len kc ex esz e => (hs4.lies R ver off len kc ex esz e).2) hR3 (by rw [hg14.rowAt hB4n]; exact hB4) (by have := hg14.next; omega) (by omega) (by omega)
     have hfe := yxh (b := clock) (w := v') how.key how.nodup hin
     have hg15 : Grow H1 H5 := hg14.trans hg5
     cases hb : (zf2 rows x).any (zp3 m) with
     | true =>
      have hno : ¬ okO rows m txs order := fun h => by
       have := (zun h hp).2.2.2
       rw [hown, hb] at this; cases this
      rw [hb] at hc63
      obtain ⟨H6, hw6, hH6⟩ := hfail H5 hg15
      rw [hH4] at hc63 hM4
      repeat (first | apply Wp.za | apply Wp.zb | apply Wp.zc | apply Wp.zd | apply Wp.ze | apply Wp.zf rfl | apply Wp.zg rfl | ((apply Wp.zh; (repeat (apply Ex.zc; (simp (disch := omega) [-getElem?_pos, hv, hrow2, hc3, hM, hf, zzr, zzs, hw6, zzm, hlt, hv1, hrow12, hd1, hd2, hc62, hM3, zwr, hM4, hfe, hc63]; rfl))); exact Ex.zn; rfl; (simp; rfl))))
      rw [hH6]
      exact hbad hno _ H5 hg15 (by simp)
     | false =>
      rw [hb] at hc63
      have hn5 := hg5.next
      have how5 : zk2 H5 (H1.next + 1) rows m txs es (order.take j) := how.move (by omega) fun A hA hA2 => by
       rw [hg5.get A (by omega), hH4, zz6.zzz _ _ (by omega), hg3.get A hA2]
      have hs5 : zzw H5 (H1.next + 1) 41 v' ocs := hs4.move (by omega) hn5 fun A _ hA => hg5.get A hA
      have hown6 : zk2 H5 (H1.next + 1) rows m txs (es ++ [(vi (q : Int), v', clock)]) (order.take (j + 1)) := by
       rw [List.take_add_one, hp]
       exact how5.push hin ⟨by omega, by omega, by rw [hown]; exact hb⟩ hs5 (by rw [hown]; exact hR3)
      have hM5 : H5.get H1.next = some (.map (es ++ [(vi (q : Int), v', clock)]) (clock + 1)) := by rw [hg5.get _ (by omega)]; exact hM4
      rw [hH4] at hc63 hM4
      repeat (first | apply Wp.za | apply Wp.zb | apply Wp.zc | apply Wp.zd | apply Wp.ze | apply Wp.zf rfl | apply Wp.zg rfl | ((apply Wp.zh; (repeat (apply Ex.zc; (simp (disch := omega) [-getElem?_pos, hv, hrow2, hc3, hM, hf, zzr, zzs, zzm, hlt, hv1, hrow12, hd1, hd2, hc62, hM3, zwr, hM4, hfe, hc63]; rfl))); exact Ex.zn; rfl; (simp; rfl))))
      exact ⟨(j + 1, H5), rfl, ⟨by show j + 1 ≤ _; omega, hg15, by show _ < H5.next; omega, _, _, hM5, hown6⟩, by show _ - (j + 1) < _ - j; omega, by simp [-getElem?_pos, hv, hv1]⟩
 ·intro hjl
  apply Wp.ze
  have : order.take j = order := List.take_of_length_le (by omega)
  rw [this] at how
  exact hgood ⟨how.nodup, how.ok⟩ _ H2 es clock (by simp) hg2 hM hnx how
end
section
variable {kn : zy0} {env : Nat → Option zzq}
variable {H H' H1 : zz6} {N A B : Nat} {v v0 ov tv : AVal} {rows : List RowD} {rcs ocs tvs : List (List AVal)} {rc : List AVal} {r : RowD} {x : TxD} {sv rv wv : AVal} {m : Int} {txs : List TxD} {o : Nat → Nat} {order : List Int}
theorem zd0 : zll.flatten = List.replicate 2048 zb := by rw [List.flatten_replicate_replicate]
structure ByE (kn : zy0) (env : Nat → Option zzq) : Prop extends RowE kn env where
 f33 : Fn kn env 33 a33
 f61 : Fn kn env 61 a61
 f65 : Fn kn env 65 a65
 f62 : Fn kn env 62 a62
 f63 : Fn kn env 63 a63
 f84 : Fn kn env 84 a84
 f64 : Fn kn env 64 a64
 f66 : Fn kn env 66 a66
 f30 : Fn kn env 30 a30
set_option maxHeartbeats 2000000 in
theorem c30 (E : ByE kn env) (n : Nat) (hins : yyb (zzp kn env (n + 2))) (hrows : zwz H H.next v0 rows) (ho : RdE H 1 ov (ints order)) (hol : ov.lies (· < H.next)) (hr : rows.length < 400000000000) (ho2 : order.length < 40000000000000) (hn : rows.length + order.length + 30 < n) :
  ∃ v H', zzp kn env (n + 7) (.func (.func 30) []) [v0, vi m, ov] H = some (v, H') ∧ Grow H H' ∧ zl3 H' H.next (byD rows m order) v := by
 obtain ⟨H1, hH1⟩ : ∃ H1, H1 = (H.push (.row [some (0, [vi m])])).push (.row [some (0, zwj)]) := ⟨_, rfl⟩
 have hn1 : H1.next = H.next + 2 := by rw [hH1]; simp [-getElem?_pos, -List.reduceReplicate]
 have hg1 : Grow H H1 := by rw [hH1]; exact (Grow.push _ _).trans (Grow.push _ _)
 have hB4 : H1.rowAt H.next 0 = some [vi m] := by rw [hH1]; simp (disch := omega) [-getElem?_pos, -List.reduceReplicate]
 have hB6 : Cells H1 (H.next + 1) zwj := by rw [hH1]; show zz6.get _ _ = _; simp (disch := omega) [-getElem?_pos, -List.reduceReplicate]
 have h61 := c61 (H := H1) E.f61 (n + 5) m
 obtain ⟨rcs, hrd, hlies, hrlen, hat⟩ := hrows
 obtain ⟨v, H', h1, h2, h3⟩ := Wp.call (R := fun v H' => Grow H H' ∧ zl3 H' H.next (byD rows m order) v) 128 C30 E.f30.e (E.f30.no [v0, vi m, ov] H) (n := n + 6) rfl (by simp [-List.reduceReplicate]) (by
  by_cases hm : 1 ≤ m ∧ m ≤ 64
  ·have hd : decide (1 ≤ m ∧ m ≤ 64) = true := by simpa [-getElem?_pos, -List.reduceReplicate] using hm
   rw [hd] at h61
   have hrd1 := hrd.grow hg1 hlies
   have hl1 : v0.lies (· < H1.next) := fun R ver off len kc ex esz e => by have := hlies R ver off len kc ex esz e; omega
   have hrows1 : zwz H1 H1.next v0 rows := ⟨rcs, hrd1, hl1, hrlen, fun k rc r a b => by
    obtain ⟨q1, sv, q2⟩ := hat k rc r a b
    have q3 := q2.move (H' := H1) fun A hA => hg1.get A hA
    exact ⟨q1, sv, q3.at_, q3.rd, fun R ver off len kc ex esz e => by have := q3.lies R ver off len kc ex esz e; omega, q3.len⟩⟩
   obtain ⟨t33, H2, h33, hg2, hres⟩ := c33 E.toRowE E.f33 n (H := H1) hins hrows1 hr (by omega)
   have hrc : zqj rcs rows := ⟨hrlen, fun k c r a b => (hat k c r a b).1⟩
   have hB6' : Cells H2 (H.next + 1) zwj := by unfold Cells; rw [hg2.get _ (by omega)]; exact hB6
   have hg02 := hg1.trans hg2
   have hwf : ∀ H3, Grow H2 H3 → H3.write (H.next + 1) 0 0 zwj = some (H3.set (H.next + 1) (.row [some (0, zwj)])) := fun H3 hg => by
    have hb : Cells H3 (H.next + 1) zwj := by unfold Cells; rw [hg.get _ (by have := hg2.next; omega)]; exact hB6'
    rw [Cells.write hb (by simp [-List.reduceReplicate]) (by simp [-List.reduceReplicate]) rfl]; simp [-getElem?_pos, -List.reduceReplicate, spl]
   repeat (first | apply Wp.za | apply Wp.zb)
   (repeat (first | apply Wp.za | apply Wp.zb)); (apply Wp.zh; (repeat (apply Ex.zc; (simp (disch := omega) [-getElem?_pos, -List.reduceReplicate]; rfl))); exact Ex.zn; rfl; (simp; rfl))
   rw [← hH1]
   cases ht : zmc rows with
   | none =>
    rw [ht] at hres
    have hres' : t33 = .tuple [zxa, vi 230] := hres
    rw [hres'] at h33
    have hw2 := hwf H2 (Grow.refl _)
    repeat (first | apply Wp.za | apply Wp.zb | apply Wp.zc | apply Wp.zd | apply Wp.ze | apply Wp.zf rfl | apply Wp.zg rfl | ((apply Wp.zh; (repeat (apply Ex.zc; (simp (disch := omega) [-getElem?_pos, -List.reduceReplicate, h61, hB4, zzm, h33, hw2]; rfl))); exact Ex.zn; rfl; (simp; rfl))))
    have hbd : byD rows m order = .error 230 := by unfold byD; rw [if_neg (by simpa [-getElem?_pos, -List.reduceReplicate] using hm), ht]
    rw [hbd]
    simp [-getElem?_pos, -List.reduceReplicate, a30, zl3]
    exact ⟨hg02.set (by omega) _, rfl⟩
   | some txs =>
    rw [ht] at hres
    obtain ⟨tv, tvs, o, htv, hts, htl, hta⟩ := hres
    rw [htv] at h33
    (repeat (first | apply Wp.za | apply Wp.zb)); (apply Wp.zh; (repeat (apply Ex.zc; (simp (disch := omega) [-getElem?_pos, -List.reduceReplicate, h61, hB4]; rfl))); exact Ex.zn; rfl; (simp; rfl))
    apply Wp.zg rfl
    apply Wp.zd
    (repeat (first | apply Wp.za | apply Wp.zb)); (apply Wp.zh; (repeat (apply Ex.zc; (simp (disch := omega) [-getElem?_pos, -List.reduceReplicate, h33]; rfl))); exact Ex.zn; rfl; (simp; rfl))
    (repeat (first | apply Wp.za | apply Wp.zb)); (apply Wp.zh; (repeat (apply Ex.zc; (simp (disch := omega) [-getElem?_pos, -List.reduceReplicate]; rfl))); exact Ex.zn; rfl; (simp; rfl))
    apply Wp.zg rfl
    apply Wp.zd
    (repeat (first | apply Wp.za | apply Wp.zb)); (apply Wp.zh; (repeat (apply Ex.zc; (simp (disch := omega) [-getElem?_pos, -List.reduceReplicate]; rfl))); exact Ex.zn; rfl; (simp; rfl))
    apply Wp.za
    have hbeg := zpe ht
    have hB4n : H.next < H2.next := by have := hg2.next; omega
    have hB6n : H.next + 1 < H2.next := by have := hg2.next; omega
    have hB42 : H2.rowAt H.next 0 = some [vi m] := by rw [hg2.rowAt (by omega)]; exact hB4
    refine Wp.sub [(0, v0), (2, ov), (4, .ptr H.next 0 0), (6, .ptr (H.next + 1) 0 0), (9, tv), (11, .map H2.next)] ?_ (by simp [-List.reduceReplicate])
    refine yjn E.f62 E.f63 E.f84 E.f64 (n + 3) (N := H1.next) (m := m) (order := order) (txs := txs) (o := o) (tvs := tvs) (rcs := rcs) (rows := rows) (hrd1.grow hg2 hl1) (fun R ver off len kc ex esz e => by have := hl1 R ver off len kc ex esz e; have := hg2.next; omega) hrc hts hta hbeg (ho.grow hg02 hol) (fun R ver off len kc ex esz e => by have := hol R ver off len kc ex esz e; omega) hB42 hB4n hB6' hB6n hr ho2 (by omega) (fun hno l' H3 hg3 hsub => ?_) (fun hok l' H3 es clock hsub hg3 hM hnM how => ?_)
    ·have hbd : byD rows m order = .error 230 := by unfold byD; rw [if_neg (by simpa [-getElem?_pos, -List.reduceReplicate] using hm), ht]; simp only [if_neg hno]
     rw [hbd]
     have e6 := hsub.look 6 _ rfl
     have e7 := hsub.look 7 _ rfl
     have e8 := hsub.look 8 _ rfl
     simp only [QSeq]
     simp [-getElem?_pos, -List.reduceReplicate, a30, e6, e7, e8, zl3]
     exact ⟨(hg02.trans hg3).set (by omega) _, rfl⟩
    ·refine Wp.sub [(2, ov), (4, .ptr H.next 0 0), (6, .ptr (H.next + 1) 0 0), (11, .map H2.next)] ?_ hsub
     obtain ⟨H4, h65, hg4⟩ := c65 (H := H3) E.f65 (n + 5)
     obtain ⟨H5, hw5, hg5, hc5, hn5⟩ := zx6 H4 (z := zwj) (e := yy5) rfl (by simp [-List.reduceReplicate]) rfl
     (repeat (first | apply Wp.za | apply Wp.zb)); (apply Wp.zh; (repeat (apply Ex.zc; (simp (disch := omega) [-getElem?_pos, -List.reduceReplicate, h65, hw5]; rfl))); exact Ex.zn; rfl; (simp; rfl))
     (repeat (first | apply Wp.za | apply Wp.zb)); (apply Wp.zh; (repeat (apply Ex.zc; (simp (disch := omega) [-getElem?_pos, -List.reduceReplicate]; rfl))); exact Ex.zn; rfl; (simp; rfl))
     apply Wp.za
     have hn4 := hg4.next
     have hb6 : zub H3 H4.next H5.next zc5 zll (H5.push (.row [some (0, List.replicate 2048 zb)])) := by
      refine ⟨(hg4.trans hg5).trans (Grow.push _ _), ?_, ?_, zxp, zed, ⟨hn4, by simp [-List.reduceReplicate]; omega⟩, ⟨by omega, by simp [-getElem?_pos, -List.reduceReplicate]⟩, by omega⟩
      ·unfold Cells; rw [zz6.zz9 _ _ (by omega)]; exact hc5
      ·unfold Cells; rw [zz6.zzl, zd0]
     refine Wp.sub [(2, ov), (4, .ptr H.next 0 0), (6, .ptr (H.next + 1) 0 0), (11, .map H2.next), (16, .ptr H4.next 0 0), (17, .ptr H5.next 0 0)] ?_ (by simp [-List.reduceReplicate])
     have hg03 := hg02.trans hg3
     refine yu9 hb6 (ov := ov) (order := order) (rows := rows) (m := m) (txs := txs) (N := H2.next + 1) (ho.grow hg03 hol) (fun R ver off len kc ex esz e => by have := hol R ver off len kc ex esz e; have := hg03.next; omega) (by omega) hM hnM how ho2 hr (by omega) fun l'' H7 f' mm' hsub2 hb7 hT => ?_
     obtain ⟨q, rfl⟩ : ∃ q : Nat, m = q := ⟨m.toNat, by omega⟩
     have hn3 := hg3.next
     have hn2 := hg2.next
     have hn5' := hg5.next
     have hn7 := hb7.grow.next
     have hg07 := hg03.trans hb7.grow
     have hB47 : H7.rowAt H.next 0 = some [vi q] := by rw [(hg3.trans hb7.grow).rowAt hB4n]; exact hB42
     have hB67 : Cells H7 (H.next + 1) zwj := by unfold Cells; rw [(hg3.trans hb7.grow).get _ hB6n]; exact hB6'
     have hF7 := hb7.cf.at
     have hP7 := hb7.cp.at
     obtain ⟨hpl, _⟩ := hb7.pm.flat
     have hml := hb7.pm.len
     have hel : ∀ e ∈ mm', e.length = 32 := fun e he => (hb7.pm.val e he).len
     have hF35 : f'.cells.length = 35 := by simp [-getElem?_pos, -List.reduceReplicate, zyw.cells, hb7.fw.len]
     have hFt : f'.cells.take 35 = f'.cells := List.take_of_length_le (by omega)
     have hbq : AVal.beqs f'.cells f'.cells = true := by simp [-getElem?_pos, -List.reduceReplicate, zyw.cells, zyq hb7.fw.bytes]
     have hrdm : RdE H7 32 (.slice H5.next 0 0 q 64 true 32) (mm'.take q) := by
      refine ⟨fun e he => hel e (List.mem_of_mem_take he), .inr ⟨H5.next, 0, 0, 64, true, mm'.flatten, by rw [List.length_take, Nat.min_eq_left (by omega)], hP7, by rw [List.length_take]; omega, by rw [List.length_take, hpl]; omega, ?_⟩⟩
      rw [List.drop_zero, List.length_take, Nat.min_eq_left (by omega), zxb q hel]
     obtain ⟨mv, H8, h66, hg8, hs8⟩ := c66 (H := H7) E.f66 (n + 5) hrdm (fun R ver off len kc ex esz e => by cases e; exact hb7.hP.2) (fun e => by have := congrArg List.length e; rw [List.length_take, List.length_nil] at this; omega) (fun e he => (hb7.pm.val e (List.mem_of_mem_take he)).one) (by rw [List.length_take]; omega)
     have hn8 := hg8.next
     have hF8 : H8.rowAt H4.next 0 = some f'.cells := by rw [hg8.rowAt hb7.hF.2]; exact hF7
     have hP8 : H8.rowAt H5.next 0 = some mm'.flatten := by rw [hg8.rowAt hb7.hP.2]; exact hP7
     have hB48 : H8.rowAt H.next 0 = some [vi q] := by rw [hg8.rowAt (by omega)]; exact hB47
     have hB68 : Cells H8 (H.next + 1) zwj := by unfold Cells; rw [hg8.get _ (by omega)]; exact hB67
     have hw8 : H8.write (H.next + 1) 0 0 f'.cells = some (H8.set (H.next + 1) (.row [some (0, f'.cells)])) := by
      rw [Cells.write hB68 (by omega) (by simp [-getElem?_pos, -List.reduceReplicate, hF35]) (by simp only [zyw.cells, List.all_cons, hb7.fw.one, Bool.and_true]; rfl)]
      have : spl zwj 0 f'.cells = f'.cells := by
       simp only [spl, List.take_zero, List.nil_append, Nat.zero_add, hF35]; simp [-getElem?_pos, -List.reduceReplicate]
      rw [this]
     have hF9 : H4.next ≠ H.next + 1 := by omega
     have hP9 : H5.next ≠ H.next + 1 := by omega
     have hbd : byD rows q order = .ok (f', mm'.take q) := by
      unfold byD; rw [if_neg (by simpa [-getElem?_pos, -List.reduceReplicate] using hm), ht]; simp only [if_pos hok, hT]; rfl
     rw [hbd]
     refine Wp.sub [(4, .ptr H.next 0 0), (6, .ptr (H.next + 1) 0 0), (16, .ptr H4.next 0 0), (17, .ptr H5.next 0 0)] ?_ hsub2
     repeat (first | apply Wp.za | apply Wp.zb | apply Wp.zc | apply Wp.zd | apply Wp.ze | apply Wp.zf rfl | apply Wp.zg rfl | ((apply Wp.zh; (repeat (apply Ex.zc; (simp (disch := omega) [-getElem?_pos, -List.reduceReplicate, hF7, hP7, hB47, hF35, hFt, hbq, h66, hF8, hP8, hB48, hw8, zt8, zy7, zxz, hpl]; rfl))); exact Ex.zn; rfl; (simp; rfl))) | ((apply Wp.zi; (repeat ((first | apply Dr.q rfl rfl | apply Dr.r rfl rfl | apply Dr.imm rfl); (simp (disch := omega) [-getElem?_pos, -List.reduceReplicate, hF7, hP7, hB47, hF35, hFt, hbq, h66, hF8, hP8, hB48, hw8, zt8, zy7, zxz, hpl]; rfl); (focus first | (simp; rfl) | (simp [-List.reduceReplicate]; done) | (simp [-List.reduceReplicate]; omega)))); exact Dr.nil; rfl; (simp (disch := omega) [-getElem?_pos, -List.reduceReplicate, hF7, hP7, hB47, hF35, hFt, hbq, h66, hF8, hP8, hB48, hw8, zt8, zy7, zxz, hpl]); (simp; rfl))))
     have hs9 : zzw (H8.set (H.next + 1) (.row [some (0, f'.cells)])) H.next 32 mv (mm'.take q) := hs8.move (by omega) (Nat.le_refl _) fun A hA _ => by rw [zz6.zzz _ _ (by omega)]
     simp [-getElem?_pos, -List.reduceReplicate, a30, zl3, hF35, hFt]
     exact ⟨(hg07.trans hg8).set (by omega) _, hs9, hb7.fw, fun e he => hb7.pm.val e (List.mem_of_mem_take he)⟩
  ·have hbd : byD rows m order = .error 2 := by unfold byD; rw [if_pos hm]
   rw [hbd]
   have hwf : H1.write (H.next + 1) 0 0 zwj = some (H1.set (H.next + 1) (.row [some (0, zwj)])) := by
    rw [Cells.write hB6 (by simp [-List.reduceReplicate]) (by simp [-List.reduceReplicate]) rfl]; simp [-getElem?_pos, -List.reduceReplicate, spl]
   have hd : decide (1 ≤ m ∧ m ≤ 64) = false := by simpa [-getElem?_pos, -List.reduceReplicate] using hm
   rw [hd] at h61
   have hX := hB6.at
   repeat (first | apply Wp.za | apply Wp.zb)
   (repeat (first | apply Wp.za | apply Wp.zb)); (apply Wp.zh; (repeat (apply Ex.zc; (simp (disch := omega) [-getElem?_pos, -List.reduceReplicate]; rfl))); exact Ex.zn; rfl; (simp; rfl))
   rw [← hH1]
   repeat (first | apply Wp.za | apply Wp.zb | apply Wp.zc | apply Wp.zd | apply Wp.ze | apply Wp.zf rfl | apply Wp.zg rfl | ((apply Wp.zh; (repeat (apply Ex.zc; (simp (disch := omega) [-getElem?_pos, -List.reduceReplicate, h61, hB4, zzm, hwf]; rfl))); exact Ex.zn; rfl; (simp; rfl))))
   simp [-getElem?_pos, -List.reduceReplicate, a30, zl3]
   exact ⟨hg1.set (by omega) _, rfl⟩)
 exact ⟨v, H', h1, h2, h3⟩
end
section
variable {kn : zy0} {env : Nat → Option zzq}
variable {Hs Hb H H' : zz6} {F q k : Nat} {v w : AVal} {f g : zyw} {mm ins : zkc} {u : List AVal}
theorem zuj.takes (h : zuj mm) (hq : q ≤ 64) : (mm.take q).length = q ∧ ∀ e ∈ mm.take q, e.length = 32 ∧ e.all AVal.one = true := by
 refine ⟨by rw [List.length_take, h.len]; omega, fun e he => ?_⟩
 have := h.val e (List.mem_of_mem_take he)
 exact ⟨this.len, this.one⟩
structure RbBt (Hb : zz6) (F q : Nat) (v : AVal) (f : zyw) (mm : zkc) (H : zz6) : Prop where
 grow : Grow Hb H
 cf : Cells H F f.cells
 rd : RdE H 32 v (mm.take q)
 lies : v.lies fun R => Hb.next ≤ R ∧ R < H.next ∧ R ≠ F
 fw : zyr f.want
 pm : zuj mm
 hF : Hb.next ≤ F ∧ F < H.next
theorem RbBt.move (h : RbBt Hb F q v f mm H) (hg : Grow H H') : RbBt Hb F q v f mm H' :=
 ⟨h.grow.trans hg, by unfold Cells; rw [hg.get F h.hF.2]; exact h.cf, h.rd.grow hg (fun R ver off len kc ex esz e => (h.lies _ _ _ _ _ _ _ e).2.1), fun R ver off len kc ex esz e => by have := h.lies _ _ _ _ _ _ _ e; have := hg.next; omega, h.fw, h.pm, ⟨h.hF.1, by have := hg.next; have := h.hF.2; omega⟩⟩
structure RbIn (Hs : zz6) (F q : Nat) (v : AVal) (f : zyw) (ins : zkc) (H : zz6) : Prop where
 keep : ∀ A, A < Hs.next → A ≠ F → H.get A = Hs.get A
 nx : Hs.next ≤ H.next
 cf : Cells H F f.cells
 sl : zzw H Hs.next 32 v (ins.take q)
 fw : zyr f.want
 im : zuj ins
 hF : F < Hs.next
theorem RbIn.move (h : RbIn Hs F q v f ins H) (hg : Grow H H') : RbIn Hs F q v f ins H' := by
 have := hg.next; have := h.nx; have := h.hF
 exact ⟨fun A a b => by rw [hg.get A (by omega), h.keep A a b], by omega, by unfold Cells; rw [hg.get F (by omega)]; exact h.cf, h.sl.move (Nat.le_refl _) hg.next fun A _ a => hg.get A a, h.fw, h.im, h.hF⟩
theorem RbBt.begin (h : RbBt Hb F q v f mm H) (hq : 1 ≤ q ∧ q ≤ 64) : ∃ w H', zzf (H.push (.row [some (0, [])])) 32 32 (.slice H.next 0 0 0 0 true 32) v = some (w, H') ∧ RbIn H F q w f mm H' := by
 obtain ⟨t1, t2⟩ := h.pm.takes hq.2
 obtain ⟨w, H', h1, h2, h3, h4⟩ := (GrE.new (esz := 32) (base := H.next) H (Nat.le_refl _)).app (bytes := 32) (by simp [-List.reduceReplicate]) (h.rd.grow (Grow.push _ _) (fun R ver off len kc ex esz e => (h.lies _ _ _ _ _ _ _ e).2.1)) (by omega) (by omega) (fun e he => (t2 e he).2) (by rw [t1]; simp [-getElem?_pos, -List.reduceReplicate]; omega)
 rw [List.nil_append] at h2
 simp only [zz6.zyc] at h3
 have hs := h2.slice (fun e => by have := congrArg List.length e; rw [t1, List.length_nil] at this; omega)
 exact ⟨w, H', h1, fun A a _ => by rw [h4 A a, zz6.zz9 _ _ (by omega)], by omega, by unfold Cells; rw [h4 F h.hF.2, zz6.zz9 _ _ (by have := h.hF.2; omega)]; exact h.cf, hs, h.fw, h.pm, h.hF.2⟩
theorem RbIn.done (h : RbIn Hs F q v f ins H) (hb : Grow Hb Hs) (hF : Hb.next ≤ F) : RbBt Hb F q v f ins H := by
 have hsl := h.sl.lies
 have := hb.next; have := h.nx; have hF2 := h.hF
 exact ⟨⟨by omega, fun A hA => by rw [h.keep A (by omega) (by omega), hb.get A hA]⟩, h.cf, h.sl.rd, fun R ver off len kc ex esz e => by have := hsl _ _ _ _ _ _ _ e; omega, h.fw, h.im, hF, by omega⟩
theorem RbIn.at (h : RbIn Hs F q v f ins H) (hq : q ≤ 64) (hk : k < q) : ∃ R ver cells, v = .slice R ver 0 q q false 32 ∧ H.rowAt R ver = some cells ∧ k * 32 + 32 ≤ cells.length ∧ (cells.drop (k * 32)).take 32 = atM ins k ∧ zyr (atM ins k) := by
 obtain ⟨t1, t2⟩ := h.im.takes hq
 obtain ⟨a1, a2⟩ := h.im.at (b := (k : Int)) (by omega) (by omega)
 rw [Int.toNat_natCast] at a1
 obtain ⟨R, ver, cells, e1, _, _, e4, e5, _, e7⟩ := h.sl.load (i := k) (e := atM ins k) (by rw [List.getElem?_take, if_pos hk]; exact a1)
 rw [t1] at e1
 exact ⟨R, ver, cells, e1, e4, e5, e7, a2⟩
theorem RbIn.setI (h : RbIn Hs F q v f ins H) (hq : q ≤ 64) (hk : k < q) (hu : zyr u) : ∃ R ver H', v = .slice R ver 0 q q false 32 ∧ H.write R ver (k * 32) u = some H' ∧ RbIn Hs F q v f (ins.set k u) H' ∧ H'.next = H.next := by
 obtain ⟨t1, t2⟩ := h.im.takes hq
 obtain ⟨a1, a2⟩ := h.im.at (b := (k : Int)) (by omega) (by omega)
 rw [Int.toNat_natCast] at a1
 have h32 := hu.len
 obtain ⟨R, ver, H', e1, e2, e3, e4, e5, e6, e7⟩ := h.sl.store (i := k) (f := 0) (e := atM ins k) (vals := u) (by rw [List.getElem?_take, if_pos hk]; exact a1) (by omega) (by omega) hu.one
 rw [t1] at e1
 rw [Nat.add_zero] at e4
 have hsp : spl (atM ins k) 0 u = u := by
  simp only [spl, List.take_zero, List.nil_append, Nat.zero_add]
  rw [List.drop_of_length_le (by rw [a2.len]; omega), List.append_nil]
 rw [hsp, ← List.take_set] at e5
 have := h.hF
 exact ⟨R, ver, H', e1, e4, ⟨fun A a b => by rw [e7 A (by omega), h.keep A a b], by rw [e6]; exact h.nx, by unfold Cells; rw [e7 F (by omega)]; exact h.cf, e5, h.fw, h.im.set hu, h.hF⟩, e6⟩
theorem RbIn.setF (h : RbIn Hs F q v f ins H) (hg : zyr g.want) : ∃ H', H.write F 0 0 g.cells = some H' ∧ RbIn Hs F q v g ins H' ∧ H'.next = H.next := by
 have h1 : f.cells.length = 35 := by simp [-getElem?_pos, -List.reduceReplicate, zyw.cells, h.fw.len]
 have h2 : g.cells.length = 35 := by simp [-getElem?_pos, -List.reduceReplicate, zyw.cells, hg.len]
 have hF := h.hF
 refine ⟨_, Cells.write h.cf (by omega) (by omega) (by simp only [zyw.cells, List.all_cons, hg.one, Bool.and_true]; rfl), ⟨fun A a b => by rw [zz6.zzz _ _ b]; exact h.keep A a b, h.nx, ?_, h.sl.move (Nat.le_refl _) (Nat.le_refl _) fun A a _ => zz6.zzz _ _ (by omega), hg, h.im, h.hF⟩, rfl⟩
 unfold Cells; rw [zz6.zzy]; simp [-getElem?_pos, -List.reduceReplicate, spl, h1, h2]
theorem zan (z : List AVal) : ∀ n, zx1 n z = (List.replicate n z).flatten
 | 0 => rfl
 | n + 1 => by rw [List.replicate_succ, List.flatten_cons, ← zan z n]; rfl
end
end Go.Proofs.Ythbjfkkjmecaaaa
