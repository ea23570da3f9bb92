/- Walks: the law SerialSwaps. -/
import Derived.Test.YthbjfkkjmecaaaaW43
import Derived.Test.YthbjfkkjmecaaaaW44
namespace Go.Proofs.Ythbjfkkjmecaaaa
open Go Go.Vm
set_option linter.unusedVariables false
set_option linter.unusedSimpArgs false

variable {kn : Known} {env : Nat → Option AFunc}

variable {H H' H1 : AHeap} {N A B M : Nat} {v v0 ov tv : AVal} {rows l l2 : List RowD} {rcs ocs ocs2 tvs : List (List AVal)} {rc : List AVal} {r : RowD} {x : TxD} {sv rv wv : AVal} {m : Int} {txs : List TxD} {o : Nat → Nat} {order : List Int}

structure SwE (kn : Known) (env : Nat → Option AFunc) : Prop extends ByE kn env where
  f5 : Fn kn env 5 a5
  f11 : Fn kn env 11 a11
  f22 : Fn kn env 22 a22
  f34 : Fn kn env 34 a34
  f35 : Fn kn env 35 a35
  f69 : Fn kn env 69 a69

theorem RowsAt.grow (h : RowsAt H N v rows) (hN : N ≤ H.next) (hg : Grow H H') : RowsAt H' N v rows := by
  obtain ⟨rcs, h1, h2, h3, h4⟩ := h
  exact ⟨rcs, h1.grow hg (fun R ver off len kc ex esz e => by have := h2 R ver off len kc ex esz e; omega), h2, h3, fun k rc r a b => by
    obtain ⟨q1, sv, q2⟩ := h4 k rc r a b
    exact ⟨q1, sv, q2.move fun A hA => hg.get A (by omega)⟩⟩
theorem RowsAt.wide {N' : Nat} (h : RowsAt H N v rows) (hN : N ≤ N') : RowsAt H N' v rows := by
  obtain ⟨rcs, h1, h2, h3, h4⟩ := h
  exact ⟨rcs, h1, fun R ver off len kc ex esz e => by have := h2 R ver off len kc ex esz e; omega, h3, fun k rc r a b => by
    obtain ⟨q1, sv, q2⟩ := h4 k rc r a b
    exact ⟨q1, sv, q2.at_, q2.rd, fun R ver off len kc ex esz e => by have := q2.lies R ver off len kc ex esz e; omega, q2.len⟩⟩

abbrev C5 : List Nat := [0, 1, 2, 6, 7, 8, 9, 10, 11, 12, 13, 14, 15, 16, 20, 49, 53, 87, 108, 148]

theorem FindD.len35 {f : FindD} (h : IsVal f.want) : f.cells.length = 35 ∧ f.cells.all AVal.one = true := ⟨by simp [-getElem?_pos, FindD.cells, h.len], by simp only [FindD.cells, List.all_cons, h.one, Bool.and_true]; rfl⟩

theorem ints_set (l : List Int) (i : Nat) (z : Int) : ints (l.set i z) = (ints l).set i [vi z] := by simp [-getElem?_pos, List.map_set]

theorem swap_set {α : Type} {pre post : List α} {a b c d : α} {j : Nat} (h : pre.length = j) : ((pre ++ a :: b :: post).set j c).set (j + 1) d = pre ++ c :: d :: post := by
  subst h
  rw [List.set_append_right _ _ (Nat.le_refl _), List.set_append_right _ _ (by omega)]
  simp [-getElem?_pos]

theorem SetV.beq {l : List Int} (h : SetV H N v l) : AVal.beq v v = true := by
  rcases h with h | ⟨_, R, rfl, _⟩
  · exact h.rd.beq
  · simp [-getElem?_pos]

theorem TxAt.beq {i : Nat} {e : List AVal} (h : TxAt H N o i e x sv rv wv) : AVal.beqs (txc x sv rv wv) (txc x sv rv wv) = true := by
  simp [-getElem?_pos, txc, h.set.beq, h.reads.rd.beq, h.writes.rd.beq]

set_option maxHeartbeats 4000000 in
theorem c5 (E : SwE kn env) (n : Nat) (hins : ∀ n, InsC (callM kn env (n + 1))) (h12 : ∀ H, callM kn env (n + 7) (.func (.func 12) []) [] H = some (abool true, H)) (hrows : RowsAt H H.next v0 rows) (ho : RdE H 1 ov (ints order)) (hol : ov.lies (· < H.next)) (ho2 : order.length < 40000000000000) (hn : 1000 + order.length < n) :
    ∃ v H', callM kn env (n + 8) (.func (.func 5) []) [v0, vi m, ov] H = some (v, H') ∧ v = abool true := by
  obtain ⟨rcs, hrd, hlies, hrlen, hat⟩ := hrows
  obtain ⟨v1, h11, hrd1, hl1⟩ := c11 E.f11 (n + 6) hrd
  have hl1 := hl1 _ hlies
  have hlen : aLenS ov = some (vi order.length) := by have := ho.lenS; simpa [-getElem?_pos] using this
  obtain ⟨rws, hrws⟩ : ∃ rws, rws = rows.take 400 := ⟨_, rfl⟩
  have hrl : rws.length ≤ 400 := by rw [hrws, List.length_take]; omega
  have hrows1 : RowsAt H H.next v1 rws := ⟨rcs.take 400, hrd1, hl1, by rw [hrws, List.length_take, List.length_take, hrlen], fun k rc r a b => by
    have ha : rcs[k]? = some rc := by rw [List.getElem?_take] at a; split at a; exact a; cases a
    have hb : rows[k]? = some r := by rw [hrws, List.getElem?_take] at b; split at b; exact b; cases b
    exact hat k rc r ha hb⟩
  obtain ⟨t, H1, h30, hg1, hres⟩ := c30 E.toByE n (H := H) (m := m) (hins (n + 1)) hrows1 ho hol (by omega) ho2 (by omega)
  refine Wp.call (R := fun v H' => v = abool true) 149 C5 E.f5.e (E.f5.no [v0, vi m, ov] H) (n := n + 7) rfl (by simp [-getElem?_pos]) ?_
  cases hby : byD rws m order with
  | error c =>
    rw [hby] at hres
    have hres' : t = .tuple [.agg zeroF.cells, anil, vi c] := hres
    rw [hres'] at h30
    have hc : c = 2 ∨ c = 230 := by
      unfold byD at hby
      split at hby
      · cases hby; simp [-getElem?_pos]
      · split at hby
        · cases hby; simp [-getElem?_pos]
        · split at hby
          · cases hby
          · cases hby; simp [-getElem?_pos]
    obtain ⟨z1, z2⟩ := FindD.len35 (f := zeroF) zeroV_is
    obtain ⟨H2, hw2, hg2, hc2, hn2⟩ := newCells H1 (z := zfind) (e := zeroF.cells) (by rw [z1]; rfl) (by omega) z2
    have hg02 := hg1.trans hg2
    obtain ⟨t33, H3, h33, hg3, hres3⟩ := c33 E.toRowE E.f33 (n + 1) (H := H2) (hins (n + 2)) ((hrows1.grow (Nat.le_refl _) hg02).wide hg02.next) (by omega) (by omega)
    have hc3 : Cells H3 H1.next zeroF.cells := by unfold Cells; rw [hg3.get _ (by omega)]; exact hc2
    have hX := hc3.at
    have h12' := h12 H
    have hcne : c ≠ 0 := by omega
    cases hres3' : txsD rws with
    | none =>
      rw [hres3'] at hres3
      have hr3 : t33 = .tuple [anil, vi 230] := hres3
      rw [hr3] at h33
      repeat (first | apply Wp.seq | apply Wp.blk | apply Wp.ret | apply Wp.skip | apply Wp.exit | apply Wp.cT rfl | apply Wp.cF rfl | ((apply Wp.reg; (repeat (apply Ex.cons; (simp (disch := omega) [-getElem?_pos, h11, h12', h30, hw2, z1, h33, hcne, hX]; rfl))); exact Ex.nil; rfl; (simp [-getElem?_pos]; rfl))))
      simp [-getElem?_pos, a5]
    | some txs =>
      rw [hres3'] at hres3
      obtain ⟨tv, _, _, hr3, _⟩ := hres3
      rw [hr3] at h33
      repeat (first | apply Wp.seq | apply Wp.blk | apply Wp.ret | apply Wp.skip | apply Wp.exit | apply Wp.cT rfl | apply Wp.cF rfl | ((apply Wp.reg; (repeat (apply Ex.cons; (simp (disch := omega) [-getElem?_pos, h11, h12', h30, hw2, z1, h33, hcne, hX]; rfl))); exact Ex.nil; rfl; (simp [-getElem?_pos]; rfl))))
      simp [-getElem?_pos, a5]
  | ok fm =>
    obtain ⟨f, mm⟩ := fm
    rw [hby] at hres
    obtain ⟨mv, ht, hms, hfw, hmv⟩ := hres
    rw [ht] at h30
    obtain ⟨hmm, txs, htx, hok, _, hmt⟩ := byD_ok hby
    have hml : mm.length ≤ 64 := by rw [hmt, List.length_take]; omega
    obtain ⟨z1, z2⟩ := FindD.len35 hfw
    obtain ⟨H2, hw2, hg2, hc2, hn2⟩ := newCells H1 (z := zfind) (e := f.cells) (by rw [z1]; rfl) (by omega) z2
    have hg02 := hg1.trans hg2
    obtain ⟨t33, H3, h33, hg3, hres3⟩ := c33 E.toRowE E.f33 (n + 1) (H := H2) (hins (n + 2)) ((hrows1.grow (Nat.le_refl _) hg02).wide hg02.next) (by omega) (by omega)
    have hc3 : Cells H3 H1.next f.cells := by unfold Cells; rw [hg3.get _ (by omega)]; exact hc2
    have hX := hc3.at
    have h12' := h12 H
    rw [htx] at hres3
    obtain ⟨tv, tvs, o, hr3, hts, htl, hta⟩ := hres3
    rw [hr3] at h33
    have hf0 : f.cells[0]? = some (abool f.good) := rfl
    cases hg : f.good with
    | false =>
      rw [hg] at hf0
      repeat (first | apply Wp.seq | apply Wp.blk | apply Wp.ret | apply Wp.skip | apply Wp.exit | apply Wp.cT rfl | apply Wp.cF rfl | ((apply Wp.reg; (repeat (apply Ex.cons; (simp (disch := omega) [-getElem?_pos, h11, h12', h30, hw2, z1, h33, hX, hf0]; rfl))); exact Ex.nil; rfl; (simp [-getElem?_pos]; rfl))))
      simp [-getElem?_pos, a5]
    | true =>
      rw [hg] at hf0
      by_cases hl20 : 20 < order.length
      · repeat (first | apply Wp.seq | apply Wp.blk | apply Wp.ret | apply Wp.skip | apply Wp.exit | apply Wp.cT rfl | apply Wp.cF rfl | ((apply Wp.reg; (repeat (apply Ex.cons; (simp (disch := omega) [-getElem?_pos, h11, h12', h30, hw2, z1, h33, hX, hf0, hlen]; rfl))); exact Ex.nil; rfl; (simp [-getElem?_pos]; rfl))))
        simp [-getElem?_pos, a5]
      · repeat (first | apply Wp.seq | apply Wp.blk | apply Wp.ret | apply Wp.skip | apply Wp.exit | apply Wp.cT rfl | apply Wp.cF rfl | ((apply Wp.reg; (repeat (apply Ex.cons; (simp (disch := omega) [-getElem?_pos, h11, h12', h30, hw2, z1, h33, hX, hf0, hlen]; rfl))); exact Ex.nil; rfl; (simp [-getElem?_pos]; rfl))))
        apply Wp.loop (α := Nat × AHeap) (fun y => [(0, v1), (1, vi m), (2, ov), (8, mv), (10, tv), (12, vi y.1)]) (·.2) (fun y => 1 ≤ y.1 ∧ y.1 ≤ order.length + 1 ∧ Grow H3 y.2) (fun y => order.length + 1 - y.1) (1, H3) rfl ⟨by omega, by show 1 ≤ _; omega, Grow.refl _⟩ (by simp [-getElem?_pos]; omega) (by simp [-getElem?_pos])
        rintro ⟨i, H4⟩ ⟨hi1, hi2, hg4⟩
        dsimp only at hi1 hi2 hg4 ⊢
        (repeat (first | apply Wp.seq | apply Wp.blk)); (apply Wp.reg; (repeat (apply Ex.cons; (simp (disch := omega) [-getElem?_pos, hlen]; rfl))); exact Ex.nil; rfl; (simp [-getElem?_pos]; rfl))
        (repeat (first | apply Wp.seq | apply Wp.blk)); apply Wp.ite rfl
        · intro hil
          obtain ⟨j, rfl⟩ : ∃ j, i = j + 1 := ⟨i - 1, by omega⟩
          obtain ⟨p, hp⟩ : ∃ p, order[j]? = some p := ⟨_, List.getElem?_eq_getElem (by omega)⟩
          obtain ⟨q, hq⟩ : ∃ q, order[j + 1]? = some q := ⟨_, List.getElem?_eq_getElem (by omega)⟩
          have hokp := hok.2 p (List.mem_of_getElem? hp)
          have hokq := hok.2 q (List.mem_of_getElem? hq)
          obtain ⟨a, rfl⟩ : ∃ a : Nat, p = a := ⟨p.toNat, by have := hokp.1; omega⟩
          obtain ⟨b, rfl⟩ : ∃ b : Nat, q = b := ⟨q.toNat, by have := hokq.1; omega⟩
          have hal : a < txs.length := by have := hokp.2.1; omega
          have hbl : b < txs.length := by have := hokq.2.1; omega
          obtain ⟨xa, hxa⟩ : ∃ x, txs[a]? = some x := ⟨_, List.getElem?_eq_getElem hal⟩
          obtain ⟨xb, hxb⟩ : ∃ x, txs[b]? = some x := ⟨_, List.getElem?_eq_getElem hbl⟩
          obtain ⟨ea, hea⟩ : ∃ e, tvs[a]? = some e := ⟨_, List.getElem?_eq_getElem (by have := hta.1; omega)⟩
          obtain ⟨eb, heb⟩ : ∃ e, tvs[b]? = some e := ⟨_, List.getElem?_eq_getElem (by have := hta.1; omega)⟩
          obtain ⟨sa, ra, wa, hTa⟩ := hta.2 a ea xa hea hxa
          obtain ⟨sb, rb, wb, hTb⟩ := hta.2 b eb xb heb hxb
          obtain ⟨R1, ver1, off1, kc1, ex1, cells1, hv1, hrow1, hd1, hd2⟩ := hts.rd.at hea
          obtain ⟨R1', ver1', off1', kc1', ex1', cells1', hv1', hrow1', hd1', hd2'⟩ := hts.rd.at heb
          rw [hv1] at hv1'; cases hv1'
          rw [hrow1] at hrow1'; cases hrow1'
          rw [hta.1] at hv1
          rw [hTa.eq] at hd2
          rw [hTb.eq] at hd2'
          have hlt : aLenS tv = some (vi txs.length) := by rw [hv1]; rfl
          obtain ⟨R0, ver0, off, kc, ex, cells, hv, hrow, hc1, hc2⟩ := ho.at (i := j) (e := [vi (a : Int)]) (by rw [List.getElem?_map, hp]; rfl)
          obtain ⟨R0', ver0', off', kc', ex', cells', hv', hrow', hc1', hc2'⟩ := ho.at (i := j + 1) (e := [vi (b : Int)]) (by rw [List.getElem?_map, hq]; rfl)
          rw [hv] at hv'; cases hv'
          rw [hrow] at hrow'; cases hrow'
          simp only [List.length_map] at hv
          rw [Nat.mul_one] at hc1 hc2 hc1' hc2'
          have one1 : ∀ (k : Nat) (u : AVal), List.take 1 (List.drop (off + k) cells) = [u] → cells[off + k]? = some u := fun k u hh => by
            have : (List.take 1 (List.drop (off + k) cells))[0]? = some u := by rw [hh]; rfl
            rw [List.getElem?_take, if_pos (by omega), List.getElem?_drop] at this
            exact this
          have ga := one1 j _ hc2
          have gb := one1 (j + 1) _ hc2'
          have hR0 := hol _ _ _ _ _ _ _ hv
          have hR1 : R1 < H3.next := (hts.lies _ _ _ _ _ _ _ hv1).2
          have hg03 := hg02.trans hg3
          have hg04 := hg03.trans hg4
          have hbeg := txsD_begun htx
          obtain ⟨ka, hka, hkal⟩ := hbeg xa (List.mem_of_getElem? hxa)
          obtain ⟨kb, hkb, hkbl⟩ := hbeg xb (List.mem_of_getElem? hxb)
          obtain ⟨rcs1, hrd1', hl1', hrl1', hat1'⟩ := id hrows1
          have hrc1 : RowsC rcs1 rws := ⟨hrl1', fun k c r u w => (hat1' k c r u w).1⟩
          obtain ⟨vB, H5, ocsB, h35b, hg5, hsB, hRB⟩ := c35 E.f35 (n + 6) (H := H4) (x := xb) (sv := sb) (rv := rb) (wv := wb) (hrd1'.grow hg04 hl1') (fun R ver off len kc ex esz e => by have := hl1' R ver off len kc ex esz e; have := hg04.next; omega) hrc1 hkb hkbl (by omega) (by omega) hTb.set.one hTb.reads.rd.one hTb.writes.rd.one
          have hg05 := hg04.trans hg5
          obtain ⟨vA, H6, ocsA, h35a, hg6, hsA, hRA⟩ := c35 E.f35 (n + 6) (H := H5) (x := xa) (sv := sa) (rv := ra) (wv := wa) (hrd1'.grow hg05 hl1') (fun R ver off len kc ex esz e => by have := hl1' R ver off len kc ex esz e; have := hg05.next; omega) hrc1 hka hkal (by omega) (by omega) hTa.set.one hTa.reads.rd.one hTa.writes.rd.one
          have hg06 := hg05.trans hg6
          have hown : ∀ (x : TxD), (ownD rws x).length ≤ 400 := fun x => by unfold ownD; have := ownB_le x.client (rws.drop (x.begun + 1).toNat); simp [-getElem?_pos] at this; omega
          have h34 := c34 E.f34 E.f69 (n + 5) (m := m) (hsB.rd.grow hg6 (fun R ver off len kc ex esz e => (hsB.lies R ver off len kc ex esz e).2)) hRB hsA.rd hRA (by omega) (by have := hown xb; omega) (by have := hown xa; omega) (by have := hown xa; have := hown xb; omega)
          have o4 : H4.rowAt R0 ver0 = some cells := by rw [hg04.rowAt hR0]; exact hrow
          have o5 : H5.rowAt R0 ver0 = some cells := by rw [hg05.rowAt hR0]; exact hrow
          have o6 : H6.rowAt R0 ver0 = some cells := by rw [hg06.rowAt hR0]; exact hrow
          have t4 : H4.rowAt R1 ver1 = some cells1 := by rw [hg4.rowAt hR1]; exact hrow1
          have t5 : H5.rowAt R1 ver1 = some cells1 := by rw [(hg4.trans hg5).rowAt hR1]; exact hrow1
          have t6 : H6.rowAt R1 ver1 = some cells1 := by rw [((hg4.trans hg5).trans hg6).rowAt hR1]; exact hrow1
          have n5 := hg5.next
          have n6 := hg6.next
          have bqa := hTa.beq
          have bqb := hTb.beq
          apply Wp.skip
          by_cases hcl : ClashD (ownD rws xb) (ownD rws xa) m
          · simp only [hcl, decide_true] at h34
            repeat (first | apply Wp.seq | apply Wp.blk | apply Wp.ret | apply Wp.skip | apply Wp.exit | apply Wp.cT rfl | apply Wp.cF rfl | ((apply Wp.reg; (repeat (apply Ex.cons; (simp (disch := omega) [-getElem?_pos, hlt, hv, o4, o5, o6, ga, gb, hc1, hc1', hv1, t4, t5, t6, hd1, hd1', hd2, hd2', h35a, h35b, h34, bqa, bqb]; rfl))); exact Ex.nil; rfl; (simp [-getElem?_pos]; rfl))) | ((apply Wp.draw; (repeat (first | ((first | apply Dr.q rfl rfl | apply Dr.r rfl rfl); (simp (disch := omega) [-getElem?_pos, hlt, hv, o4, o5, o6, ga, gb, hc1, hc1', hv1, t4, t5, t6, hd1, hd1', hd2, hd2', h35a, h35b, h34, bqa, bqb]; rfl); (simp [-getElem?_pos]; rfl)) | (apply Dr.imm rfl; (simp (disch := omega) [-getElem?_pos, hlt, hv, o4, o5, o6, ga, gb, hc1, hc1', hv1, t4, t5, t6, hd1, hd1', hd2, hd2', h35a, h35b, h34, bqa, bqb]; rfl); (focus first | (simp [-getElem?_pos]; done) | (simp [-getElem?_pos]; omega))))); exact Dr.nil; rfl; (simp (disch := omega) [-getElem?_pos, hlt, hv, o4, o5, o6, ga, gb, hc1, hc1', hv1, t4, t5, t6, hd1, hd1', hd2, hd2', h35a, h35b, h34, bqa, bqb]); (simp [-getElem?_pos]; rfl))))
            exact ⟨(j + 2, H6), rfl, ⟨by show 1 ≤ j + 2; omega, by show j + 2 ≤ _; omega, (hg4.trans hg5).trans hg6⟩, by show _ - (j + 2) < _ - (j + 1); omega, by simp [-getElem?_pos, hv, hv1]; omega⟩
          · simp only [hcl, decide_false] at h34
            have hone : ∀ e ∈ ints order, e.all AVal.one = true := ints_one order
            have ho6 := ho.grow hg06 hol
            have ho7 := ho6.grow (Grow.push H6 (.row [some (0, [])])) (fun R ver off len kc ex esz e => by have := hol R ver off len kc ex esz e; have := hg06.next; omega)
            obtain ⟨hap, hs8⟩ := ho7.appendNew (bytes := 8) (X := H6.next) (by intro e; have := congrArg List.length e; rw [List.length_map, List.length_nil] at this; omega) (by omega) (by omega) hone (by simp [-getElem?_pos]; omega) (by simp [-getElem?_pos])
            simp only [List.length_map] at hap
            rw [hv] at hap
            obtain ⟨H8, hH8⟩ : ∃ H8, H8 = ((H6.push (.row [some (0, [])])).push (.row [some (0, (ints order).flatten)])) := ⟨_, rfl⟩
            rw [← hH8] at hap hs8
            have n8 : H8.next = H6.next + 2 := by rw [hH8]; simp [-getElem?_pos]
            have g8 : Grow H6 H8 := by rw [hH8]; exact (Grow.push _ _).trans (Grow.push _ _)
            simp only [AHeap.next_push, List.length_map] at hap hs8
            have hat8 := hs8.load (i := j) (e := [vi (a : Int)]) (by rw [List.getElem?_map, hp]; rfl)
            obtain ⟨R8, ver8, cells8, e8, hR8, _, hr8, hl8, hc8, _⟩ := hat8
            obtain ⟨R8', ver8', cells8', e8', _, _, hr8', hl8', hc8', _⟩ := hs8.load (i := j + 1) (e := [vi (b : Int)]) (by rw [List.getElem?_map, hq]; rfl)
            rw [e8] at e8'; cases e8'
            rw [hr8] at hr8'; cases hr8'
            simp only [List.length_map] at e8
            cases e8
            have k1 := hc8 0 (by omega)
            have k2 := hc8' 0 (by omega)
            simp only [Nat.mul_one, Nat.add_zero, List.getElem?_cons_zero] at k1 k2 hl8 hl8'
            obtain ⟨_, _, H9, e9, _, _, hw9, hs9, hn9, hk9⟩ := hs8.store (i := j) (f := 0) (e := [vi (a : Int)]) (vals := [vi (b : Int)]) (by rw [List.getElem?_map, hp]; rfl) (by simp [-getElem?_pos]) (by simp [-getElem?_pos]) rfl
            simp only [List.length_map] at e9
            cases e9
            have hs9' : SliceE H9 (H6.next + 1) 1 (.slice (H6.next + 1) 0 0 order.length order.length false 1) (ints (order.set j (b : Int))) := by
              have : spl [vi (a : Int)] 0 [vi (b : Int)] = [vi (b : Int)] := rfl
              rw [this] at hs9; rw [ints_set]; exact hs9
            obtain ⟨_, _, H10, e10, _, _, hw10, hs10, hn10, hk10⟩ := hs9'.store (i := j + 1) (f := 0) (e := [vi (b : Int)]) (vals := [vi (a : Int)]) (by rw [List.getElem?_map, List.getElem?_set_ne (by omega), hq]; rfl) (by simp [-getElem?_pos]) (by simp [-getElem?_pos]) rfl
            simp only [List.length_map, List.length_set] at e10
            cases e10
            obtain ⟨by_, hby_⟩ : ∃ by_, by_ = (order.set j (b : Int)).set (j + 1) (a : Int) := ⟨_, rfl⟩
            have hs10' : SliceE H10 (H6.next + 1) 1 (.slice (H6.next + 1) 0 0 order.length order.length false 1) (ints by_) := by
              have : spl [vi (b : Int)] 0 [vi (a : Int)] = [vi (a : Int)] := rfl
              rw [this] at hs10; rw [hby_, ints_set]; exact hs10
            simp only [Nat.mul_one, Nat.add_zero] at hw9 hw10
            have n10 : H10.next = H6.next + 2 := by omega
            have g10 : Grow H6 H10 := ⟨by omega, fun A hA => by rw [hk10 A (by omega), hk9 A (by omega), g8.get A hA]⟩
            have hg010 := hg06.trans g10
            have hlby : by_.length = order.length := by rw [hby_]; simp [-getElem?_pos]
            have hR10 : RowsAt H10 H10.next v1 rws := (hrows1.grow (Nat.le_refl _) hg010).wide hg010.next
            obtain ⟨t', H11, h30', hg11, hres'⟩ := c30 E.toByE n (H := H10) (m := m) (hins (n + 1)) hR10 hs10'.rd (fun R ver off len kc ex esz e => by cases e; omega) (by omega) (by omega) (by omega)
            have hla : (order.take j).length = j := by rw [List.length_take]; omega
            have e1 : order = order.take j ++ (a : Int) :: (b : Int) :: order.drop (j + 2) := by
              conv => lhs; rw [← List.take_append_drop j order, drop_at hp, drop_at hq]
            have e2 : by_ = order.take j ++ (b : Int) :: (a : Int) :: order.drop (j + 2) := by
              rw [hby_]
              conv => lhs; rw [e1]
              exact swap_set hla
            have hby' : byD rws m by_ = .ok (f, mm) := by
              rw [e2]
              rw [e1] at hby
              refine swap_by hby hg fun txs' ht' => ?_
              rw [htx] at ht'; cases ht'
              unfold ownAt
              rw [Int.toNat_natCast, Int.toNat_natCast, hxa, hxb]; exact hcl
            rw [hby'] at hres'
            obtain ⟨mv', ht', hms', _, _⟩ := hres'
            rw [ht'] at h30'
            obtain ⟨H12, hw12, hg12, hc12, hn12⟩ := newCells H11 (z := zfind) (e := f.cells) (by rw [z1]; rfl) (by omega) z2
            have hX12 := hc12.at
            have hg1012 := hg11.trans hg12
            have hg012 := hg010.trans hg1012
            have h22 := c22 E.f22 (n + 6) (H := H12) (v1 := mv') (v2 := mv) (es1 := mm) (es2 := mm) (hms'.rd.grow hg12 (fun R ver off len kc ex esz e => (hms'.lies R ver off len kc ex esz e).2)) (hms.rd.grow ((((hg2.trans hg3).trans hg4).trans hg5).trans (hg6.trans (g10.trans hg1012))) (fun R ver off len kc ex esz e => (hms.lies R ver off len kc ex esz e).2)) hmv hmv (by omega) (by omega)
            simp only [decide_true] at h22
            repeat (first | apply Wp.seq | apply Wp.blk | apply Wp.ret | apply Wp.skip | apply Wp.exit | apply Wp.cT rfl | apply Wp.cF rfl | ((apply Wp.reg; (repeat (apply Ex.cons; (simp (disch := omega) [-getElem?_pos, hlt, hv, o4, o5, o6, ga, gb, hc1, hc1', hv1, t4, t5, t6, hd1, hd1', hd2, hd2', h35a, h35b, h34, bqa, bqb, hap, aFill, repl, hr8, hl8, hl8', k1, k2, hw9, hw10, h30', hw12, z1, hX12, hf0, h22]; rfl))); exact Ex.nil; rfl; (simp [-getElem?_pos]; rfl))) | ((apply Wp.draw; (repeat (first | ((first | apply Dr.q rfl rfl | apply Dr.r rfl rfl); (simp (disch := omega) [-getElem?_pos, hlt, hv, o4, o5, o6, ga, gb, hc1, hc1', hv1, t4, t5, t6, hd1, hd1', hd2, hd2', h35a, h35b, h34, bqa, bqb, hap, aFill, repl, hr8, hl8, hl8', k1, k2, hw9, hw10, h30', hw12, z1, hX12, hf0, h22]; rfl); (simp [-getElem?_pos]; rfl)) | (apply Dr.imm rfl; (simp (disch := omega) [-getElem?_pos, hlt, hv, o4, o5, o6, ga, gb, hc1, hc1', hv1, t4, t5, t6, hd1, hd1', hd2, hd2', h35a, h35b, h34, bqa, bqb, hap, aFill, repl, hr8, hl8, hl8', k1, k2, hw9, hw10, h30', hw12, z1, hX12, hf0, h22]; rfl); (focus first | (simp [-getElem?_pos]; done) | (simp [-getElem?_pos]; omega))))); exact Dr.nil; rfl; (simp (disch := omega) [-getElem?_pos, hlt, hv, o4, o5, o6, ga, gb, hc1, hc1', hv1, t4, t5, t6, hd1, hd1', hd2, hd2', h35a, h35b, h34, bqa, bqb, hap, aFill, repl, hr8, hl8, hl8', k1, k2, hw9, hw10, h30', hw12, z1, hX12, hf0, h22]); (simp [-getElem?_pos]; rfl))))
            exact ⟨(j + 2, H12), rfl, ⟨by show 1 ≤ j + 2; omega, by show j + 2 ≤ _; omega, ((hg4.trans hg5).trans hg6).trans (g10.trans hg1012)⟩, by show _ - (j + 2) < _ - (j + 1); omega, by simp [-getElem?_pos, hv, hv1]; omega⟩
        · intro hil
          apply Wp.exit
          repeat (first | apply Wp.seq | apply Wp.blk | apply Wp.ret | apply Wp.skip | apply Wp.exit | apply Wp.cT rfl | apply Wp.cF rfl | ((apply Wp.reg; (repeat (apply Ex.cons; (simp (disch := omega) [-getElem?_pos]; rfl))); exact Ex.nil; rfl; (simp [-getElem?_pos]; rfl))))
          simp [-getElem?_pos, a5]

end Go.Proofs.Ythbjfkkjmecaaaa
