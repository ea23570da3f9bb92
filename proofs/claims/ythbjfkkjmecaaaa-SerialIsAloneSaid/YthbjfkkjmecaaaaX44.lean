/- Walks: the law SerialIsAlone, all its lists of operations. -/
import Derived.Test.YthbjfkkjmecaaaaX43
import Derived.Test.YthbjfkkjmecaaaaX42
import Derived.Test.YthbjfkkjmecaaaaX41
namespace Go.Proofs.Ythbjfkkjmecaaaa
open Go Go.Vm
set_option linter.unusedVariables false
set_option linter.unusedSimpArgs false

variable {kn : Known} {env : Nat → Option AFunc}

variable {H H' H1 : AHeap} {N A B M : Nat} {v v0 v1 ov tv : AVal} {rows l : List RowD} {rcs ocs tvs : List (List AVal)} {rc : List AVal} {r : RowD} {x : TxD} {sv rv wv : AVal} {m : Int} {txs : List TxD} {o : Nat → Nat} {order : List Int} {avs : List AVal} {ls : List (List (List AVal))}

theorem SetV.beq' {l : List Int} (h : SetV H N v l) : AVal.beq v v = true := by
  rcases h with h | ⟨_, R, rfl, _⟩
  · exact h.rd.beq
  · simp [-getElem?_pos]

theorem TxAt.beq' {i : Nat} {e : List AVal} (h : TxAt H N o i e x sv rv wv) : AVal.beqs (txc x sv rv wv) (txc x sv rv wv) = true := by
  simp [-getElem?_pos, txc, h.set.beq', h.reads.rd.beq, h.writes.rd.beq]

set_option maxHeartbeats 2000000 in
theorem isOps {n : Nat} {Q : Exit → KS → Prop} {H0 : AHeap} {p7 p8 : AVal} (h35 : Fn kn env 35 a35) (ho : RdE H0 1 ov (ints order)) (hol : ov.lies (· < H0.next)) (hrd : RdE H0 41 v1 rcs) (hl1 : v1.lies (· < H0.next)) (hrc : RowsC rcs rows) (hrl : rows.length ≤ 400)
    (hts : SliceE H0 N 12 tv tvs) (hta : TxsAt H0 N o tvs txs) (hbeg : ∀ x ∈ txs, ∃ q : Nat, x.begun = q ∧ q < rows.length) (hok : ∀ p ∈ order, 0 ≤ p ∧ p < txs.length) (ho2 : order.length < 4000000000000) (hn : 1000 + order.length < n)
    (hQ : ∀ l' H' v12 avs, SubK [(0, v1), (1, vi m), (2, ov), (7, p7), (8, p8), (10, tv), (12, v12)] l' → Grow H0 H' → LL H' H0.next 35 v12 avs (opsC (order.map (opsOf rows txs))) → Q .normal (l', H')) :
    Wp (callM kn env (n + 7)) (n + 7) 231 C9 (sndC (fstC (sndC (sndC (sndC (sndC (sndC (sndC (sndC (a9.code)))))))))) ([(0, v1), (1, vi m), (2, ov), (7, p7), (8, p8), (10, tv), (12, ns), (13, vi 0)], H0) Q := by
  have hlen : aLenS ov = some (vi order.length) := by have := ho.lenS; simpa [-getElem?_pos] using this
  apply Wp.blk
  apply Wp.loop (α := Nat × AHeap × AVal × List AVal) (fun y => [(0, v1), (1, vi m), (2, ov), (7, p7), (8, p8), (10, tv), (12, y.2.2.1), (13, vi y.1)]) (·.2.1)
    (fun y => y.1 ≤ order.length ∧ Grow H0 y.2.1 ∧ LL y.2.1 H0.next 35 y.2.2.1 y.2.2.2 (opsC ((order.take y.1).map (opsOf rows txs)))) (fun y => order.length - y.1) (0, H0, ns, []) rfl ⟨by omega, Grow.refl _, LL.nil _ _ _⟩ (by simp [-getElem?_pos]; omega) (by simp [-getElem?_pos])
  rintro ⟨i, H2, v12, avs⟩ ⟨hi, hg2, hll⟩
  dsimp only at hi hg2 hll ⊢
  (repeat (first | apply Wp.seq | apply Wp.blk)); (apply Wp.reg; (repeat (apply Ex.cons; (simp (disch := omega) [-getElem?_pos, hlen]; rfl))); exact Ex.nil; rfl; (simp [-getElem?_pos]; rfl))
  (repeat (first | apply Wp.seq | apply Wp.blk)); apply Wp.ite rfl
  · intro hil
    obtain ⟨p, hp⟩ : ∃ p, order[i]? = some p := ⟨_, List.getElem?_eq_getElem (by omega)⟩
    obtain ⟨hp0, hp1⟩ := hok p (List.mem_of_getElem? hp)
    obtain ⟨a, rfl⟩ : ∃ a : Nat, p = a := ⟨p.toNat, by omega⟩
    have hal : a < txs.length := by omega
    obtain ⟨x, hx⟩ : ∃ x, txs[a]? = some x := ⟨_, List.getElem?_eq_getElem hal⟩
    obtain ⟨e, he⟩ : ∃ e, tvs[a]? = some e := ⟨_, List.getElem?_eq_getElem (by have := hta.1; omega)⟩
    obtain ⟨sa, ra, wa, hTa⟩ := hta.2 a e x he hx
    obtain ⟨R1, ver1, off1, kc1, ex1, cells1, hv1, hrow1, hd1, hd2⟩ := hts.rd.at he
    rw [hta.1] at hv1
    rw [hTa.eq] at hd2
    have hlt : aLenS tv = some (vi txs.length) := by rw [hv1]; rfl
    obtain ⟨R0, ver0, off, kc, ex, cells, hv, hrow, hc1, hc2⟩ := ho.at (i := i) (e := [vi (a : Int)]) (by rw [List.getElem?_map, hp]; rfl)
    simp only [List.length_map] at hv
    rw [Nat.mul_one] at hc1 hc2
    have ga : cells[off + i]? = some (vi (a : Int)) := by
      have : (List.take 1 (List.drop (off + i) cells))[0]? = some (vi (a : Int)) := by rw [hc2]; rfl
      rw [List.getElem?_take, if_pos (by omega), List.getElem?_drop] at this
      exact this
    have hR0 := hol _ _ _ _ _ _ _ hv
    have hR1 : R1 < H0.next := (hts.lies _ _ _ _ _ _ _ hv1).2
    have o2 : H2.rowAt R0 ver0 = some cells := by rw [hg2.rowAt hR0]; exact hrow
    have t2 : H2.rowAt R1 ver1 = some cells1 := by rw [hg2.rowAt hR1]; exact hrow1
    obtain ⟨ka, hka, hkal⟩ := hbeg x (List.mem_of_getElem? hx)
    obtain ⟨v14, H3, ocs, h35c, hg3, hs3, hR3⟩ := c35 h35 (n + 6) (H := H2) (x := x) (sv := sa) (rv := ra) (wv := wa) (hrd.grow hg2 hl1) (fun R ver off len kc ex esz e => by have := hl1 R ver off len kc ex esz e; have := hg2.next; omega) hrc hka hkal (by omega) (by omega) hTa.set.one hTa.reads.rd.one hTa.writes.rd.one
    have hown : ownAt rows txs (a : Int) = ownD rows x := by unfold ownAt; rw [Int.toNat_natCast, hx]
    have hol3 : (ownD rows x).length ≤ 400 := by unfold ownD; have := ownB_le x.client (rows.drop (x.begun + 1).toNat); simp [-getElem?_pos] at this; omega
    have bqa := hTa.beq'
    have hal2 : avs.length = i := by rw [hll.len]; simp [-getElem?_pos]; omega
    apply Wp.skip
    (repeat (first | apply Wp.seq | apply Wp.blk)); (apply Wp.reg; (repeat (apply Ex.cons; (simp (disch := omega) [-getElem?_pos, hlt, hv, o2, ga, hc1, hv1, t2]; rfl))); exact Ex.nil; rfl; (simp [-getElem?_pos]; rfl))
    repeat (first | apply Wp.seq | apply Wp.blk)
    apply Wp.cF rfl
    apply Wp.skip
    (repeat (first | apply Wp.seq | apply Wp.blk)); (apply Wp.reg; (repeat (apply Ex.cons; (simp (disch := omega) [-getElem?_pos, hlt, hv, o2, ga, hc1, hv1, t2, hd1, hd2, h35c, bqa]; rfl))); exact Ex.nil; rfl; (simp [-getElem?_pos]; rfl))
    (repeat (first | apply Wp.seq | apply Wp.blk)); (apply Wp.reg; (repeat (apply Ex.cons; (simp (disch := omega) [-getElem?_pos]; rfl))); exact Ex.nil; rfl; (simp [-getElem?_pos]; rfl))
    (repeat (first | apply Wp.seq | apply Wp.blk)); (apply Wp.reg; (repeat (apply Ex.cons; (simp (disch := omega) [-getElem?_pos]; rfl))); exact Ex.nil; rfl; (simp [-getElem?_pos]; rfl))
    refine Wp.sub [(0, v1), (1, vi m), (2, ov), (7, p7), (8, p8), (10, tv), (12, v12), (13, vi i), (14, v14), (15, ns), (16, vi 0)] ?_ (by simp [-getElem?_pos, hv, hv1])
    refine isOp hs3.rd (lies_mono hs3.lies fun R hR => hR.2) hR3 hol3 (by omega) fun l' H4 v15 hsub hg4 hs4 => ?_
    obtain ⟨v12', H5, e1, e2, e3, e4⟩ := hll.push hg2.next (hg3.trans hg4).next (fun A _ b => (hg3.trans hg4).get A b) (hs4.move hg3.next (Nat.le_refl _) fun _ _ _ => rfl) (by omega)
    refine Wp.sub [(0, v1), (1, vi m), (2, ov), (7, p7), (8, p8), (10, tv), (12, v12), (13, vi i), (15, v15)] ?_ hsub
    have hrvc : v15.cells = [v15] := cells_one hs4.rd.one
    have hgn := hg2.next
    have htk : opsC ((order.take (i + 1)).map (opsOf rows txs)) = opsC ((order.take i).map (opsOf rows txs)) ++ [opl (ownD rows x)] := by
      rw [List.take_add_one, hp]; simp [-getElem?_pos, opl, opsC, opsOf, hown]
    rw [← htk] at e2
    have hg34 := hg3.trans hg4
    repeat (first | apply Wp.seq | apply Wp.blk | apply Wp.ret | apply Wp.skip | apply Wp.exit | apply Wp.cT rfl | apply Wp.cF rfl | ((apply Wp.reg; (repeat (apply Ex.cons; (simp (disch := omega) [-getElem?_pos, hrvc, aFill, repl, e1]; rfl))); exact Ex.nil; rfl; (simp [-getElem?_pos]; rfl))))
    exact ⟨(i + 1, H5, v12', avs ++ [v15]), rfl, ⟨by show i + 1 ≤ _; omega, ⟨by show _ ≤ H5.next; have := hg34.next; omega, fun A hA => by rw [e4 A hA, hg34.get A (by omega), hg2.get A hA]⟩, e2⟩, by show _ - (i + 1) < _ - i; omega, by simp [-getElem?_pos]⟩
  · intro hil
    apply Wp.exit
    rw [List.take_of_length_le (by omega)] at hll
    exact hQ _ H2 v12 avs (by simp [-getElem?_pos]) hg2 hll

end Go.Proofs.Ythbjfkkjmecaaaa
namespace Go.Proofs.Ythbjfkkjmecaaaa
open Go Go.Vm
set_option linter.unusedVariables false
set_option linter.unusedSimpArgs false

variable {kn : Known} {env : Nat → Option AFunc}

variable {H H' H1 : AHeap} {N A B M F : Nat} {v v0 v1 ov tv : AVal} {rows l : List RowD} {rcs ocs tvs : List (List AVal)} {rc : List AVal} {r : RowD} {x : TxD} {sv rv wv : AVal} {m : Int} {txs : List TxD} {o : Nat → Nat} {order : List Int} {avs rvs : List AVal} {ls told : List (List (List AVal))} {f : FindD} {mmF mA : MapD}

/-- One element of a list of lists, read. -/
theorem LR.one {esz : Nat} (h : LR H N esz v avs ls) {i : Nat} {a : AVal} (ha : avs[i]? = some a) : ∃ R ver off kc ex cells, v = .slice R ver off ls.length kc ex 1 ∧ R < N ∧ H.rowAt R ver = some cells ∧ off + i + 1 ≤ cells.length ∧ cells[off + i]? = some a := by
  obtain ⟨R0, ver0, off, kc, ex, cells, hv, hrow, hc1, hc2⟩ := h.rd.at (i := i) (e := [a]) (by rw [List.getElem?_map, ha]; rfl)
  simp only [List.length_map] at hv
  rw [h.len] at hv
  rw [Nat.mul_one] at hc1 hc2
  have : (List.take 1 (List.drop (off + i) cells))[0]? = some a := by rw [hc2]; rfl
  rw [List.getElem?_take, if_pos (by omega), List.getElem?_drop] at this
  exact ⟨R0, ver0, off, kc, ex, cells, hv, h.lies _ _ _ _ _ _ _ hv, hrow, hc1, this⟩

theorem f_keeps {p : Int} {fk : FindD} {mk : MapD} {n : Nat} {ps : List Int} (hb : fk.good = false) (h2 : ps.foldl (doTx rows txs) ((l.foldl (doRow p) (fk, mk, n)).1, (l.foldl (doRow p) (fk, mk, n)).2.1) = (f, mmF)) : f = fk := by
  rw [row_keeps l fk mk n hb] at h2
  have := tx_keeps (rows := rows) (txs := txs) ps fk (l.foldl (doRow p) (fk, mk, n)).2.1 hb
  rw [h2] at this
  exact this

set_option maxHeartbeats 4000000 in
theorem isCmp1 {or : Oracle} {n : Nat} {Q : Exit → KS → Prop} {Hc H2 : AHeap} {i : Nat} {p : Int} {fi : FindD} {mi : MapD} {t : List (List AVal)} {a b v12 v18 : AVal} (hg2 : Grow Hc H2) (hF : Cells Hc F f.cells) (hFn : F < Hc.next) (hfw : IsVal f.want) (ho : RdE Hc 1 ov (ints order)) (hol : ov.lies (· < Hc.next)) (hp : order[i]? = some p)
    (h12 : LR Hc Hc.next 35 v12 avs ls) (ha : avs[i]? = some a) (hra : RdE Hc 35 a (opl l)) (hla : a.lies (· < Hc.next)) (h18 : LR Hc Hc.next 32 v18 rvs told) (hb : rvs[i]? = some b) (hrb : RdE Hc 32 b t) (hlb : b.lies (· < Hc.next))
    (hok : ∀ r ∈ l, OkOp m (toOp r)) (hm : m ≤ 64) (him : IsMap mi) (hl : l.length ≤ 400) (hn : 1000 < n) (ho2 : order.length < 40000000000000) (hil : i < order.length)
    (hfin : (order.drop (i + 1)).foldl (doTx rows txs) ((l.foldl (doRow p) (fi, mi, 0)).1, (l.foldl (doRow p) (fi, mi, 0)).2.1) = (f, mmF)) (htold : ((l.map toOp).foldl doOp (mi, [])).2 = t)
    (hQ : ∀ l' H', SubK [(2, ov), (7, .ptr F 0 0), (12, v12), (18, v18), (21, abool (l.foldl (doRow p) (fi, mi, 0)).1.good), (22, vi i), (23, vi t.length)] l' → Grow Hc H' → Q .normal (l', H')) :
    Wp or n 231 C9 (sndC (fstC (sndC (fstC (fstC (sndC (fstC (fstC (sndC (fstC (sndC (sndC (sndC (sndC (sndC (sndC (sndC (sndC (sndC (sndC (sndC (a9.code)))))))))))))))))))))) ([(2, ov), (7, .ptr F 0 0), (12, v12), (18, v18), (21, abool fi.good), (22, vi i), (23, vi 0), (24, vi 0)], H2) Q := by
  apply Wp.blk
  apply Wp.loop (α := Nat × AHeap × FindD × MapD × Nat) (fun y => [(2, ov), (7, .ptr F 0 0), (12, v12), (18, v18), (21, abool y.2.2.1.good), (22, vi i), (23, vi (y.2.2.2.2 : Nat)), (24, vi y.1)]) (·.2.1)
    (fun y => y.1 ≤ l.length ∧ Grow Hc y.2.1 ∧ (l.drop y.1).foldl (doRow p) (y.2.2.1, y.2.2.2.1, y.2.2.2.2) = l.foldl (doRow p) (fi, mi, 0) ∧ (((l.drop y.1).map toOp).foldl doOp (y.2.2.2.1, t.take y.2.2.2.2)).2 = t ∧ y.2.2.2.2 ≤ y.1 ∧ y.2.2.2.2 ≤ t.length ∧ IsMap y.2.2.2.1)
    (fun y => l.length - y.1) (0, H2, fi, mi, 0) rfl ⟨by omega, hg2, rfl, by simpa [-getElem?_pos] using htold, Nat.le_refl _, Nat.zero_le _, him⟩ (by simp [-getElem?_pos]; omega) (by simp [-getElem?_pos])
  rintro ⟨k, H3, fk, mk, j⟩ ⟨hk, hg3, hfold, hrest, hjk, hjt, hmk⟩
  dsimp only at hk hg3 hfold hrest hjk hjt hmk ⊢
  obtain ⟨R1, ver1, off1, kc1, ex1, cells1, hv1, hR1, hrow1, hc11, hc12⟩ := h12.one ha
  obtain ⟨R2, ver2, off2, kc2, ex2, cells2, hv2, hR2, hrow2, hc21, hc22⟩ := h18.one hb
  have hrow1' : H3.rowAt R1 ver1 = some cells1 := by rw [hg3.rowAt hR1]; exact hrow1
  have hlena : aLenS a = some (vi l.length) := by have := hra.lenS; simpa [-getElem?_pos, opl] using this
  have hlenb : aLenS b = some (vi t.length) := hrb.lenS
  have hl1 : i < ls.length := by have := (List.getElem?_eq_some_iff.1 ha).1; have := h12.len; omega
  have hl2 : i < told.length := by have := (List.getElem?_eq_some_iff.1 hb).1; have := h18.len; omega
  (repeat (first | apply Wp.seq | apply Wp.blk)); (apply Wp.reg; (repeat (apply Ex.cons; (simp (disch := omega) [-getElem?_pos, hv1, hrow1', hc12, hc11, hlena]; rfl))); exact Ex.nil; rfl; (simp [-getElem?_pos]; rfl))
  (repeat (first | apply Wp.seq | apply Wp.blk)); apply Wp.ite rfl
  · intro hkl
    obtain ⟨r, hr⟩ : ∃ r, l[k]? = some r := ⟨_, List.getElem?_eq_getElem (by omega)⟩
    have hoo := hok r (List.mem_of_getElem? hr)
    have hval : IsVal r.val := hoo.val
    obtain ⟨R3, ver3, off3, kc3, ex3, cells3, hv3, hrow3, hd1, hd2⟩ := hra.at (i := k) (e := (toOp r).cells) (by simp [-getElem?_pos, opl, hr])
    simp only [opl, List.length_map] at hv3
    have hR3 := hla _ _ _ _ _ _ _ hv3
    have hrow3' : H3.rowAt R3 ver3 = some cells3 := by rw [hg3.rowAt hR3]; exact hrow3
    have g0 : cells3[off3 + k * 35]? = some (vi (toOp r).kind) := by
      have : (List.take 35 (List.drop (off3 + k * 35) cells3))[0]? = some (vi (toOp r).kind) := by rw [hd2]; rfl
      rw [List.getElem?_take, if_pos (by omega), List.getElem?_drop] at this
      exact this
    have g3 := sub_take (f := 3) (w := 32) (u := r.val) hd2 (by show r.val.take 32 = r.val; exact List.take_of_length_le (by rw [hval.len]; exact Nat.le_refl _)) (by omega)
    rw [drop_at hr, List.foldl_cons] at hfold
    rw [drop_at hr, List.map_cons, List.foldl_cons] at hrest
    apply Wp.skip
    by_cases h6 : r.kind = 6
    · rw [toOp_w h6] at g0
      rw [doRow_w h6] at hfold
      rw [doOp_w (toOp_w h6)] at hrest
      repeat (first | apply Wp.seq | apply Wp.blk | apply Wp.ret | apply Wp.skip | apply Wp.exit | apply Wp.cT rfl | apply Wp.cF rfl | ((apply Wp.reg; (repeat (apply Ex.cons; (simp (disch := omega) [-getElem?_pos, hv1, hrow1', hc12, hc11, hv3, hrow3', hd1, g0]; rfl))); exact Ex.nil; rfl; (simp [-getElem?_pos]; rfl))))
      exact ⟨(k + 1, H3, fk, mk.set r.blk.toNat r.val, j), rfl, ⟨by show k + 1 ≤ _; omega, hg3, hfold, hrest, by show j ≤ k + 1; omega, hjt, hmk.set hval⟩, by show _ - (k + 1) < _ - k; omega, by simp [-getElem?_pos, hv1, hv2]⟩
    · have hk2 := toOp_r h6
      rw [hk2] at g0
      have h3 : ¬ (toOp r).kind = 3 := by rw [hk2]; decide
      rw [doOp_r h3] at hrest
      dsimp only at hrest
      have hblk : (toOp r).blk = r.blk := rfl
      rw [hblk] at hrest
      obtain ⟨tt, htt⟩ : ∃ tt, tt = ((l.drop (k + 1)).map toOp).foldl doOp (mk, t.take j ++ [atM mk r.blk]) := ⟨_, rfl⟩
      obtain ⟨m', t', htt'⟩ : ∃ m' t', ((l.drop (k + 1)).map toOp).foldl doOp (mk, t.take j ++ [atM mk r.blk]) = (m', t') := ⟨_, _, rfl⟩
      have ht' : t' = t := by rw [htt'] at hrest; exact hrest
      subst ht'
      obtain ⟨q1, q2⟩ := told_at htt'
      have hlj : (t'.take j).length = j := by rw [List.length_take]; omega
      rw [hlj] at q1 q2
      have hjlt : j < t'.length := (List.getElem?_eq_some_iff.1 q1).1
      rw [← q2] at hrest
      obtain ⟨va, hva⟩ : ∃ va, va = atM mk r.blk := ⟨_, rfl⟩
      have hvv : IsVal va := by rw [hva]; exact (hmk.at hoo.lo (by have := hoo.hi; show r.blk < 64; have : (toOp r).blk = r.blk := rfl; omega)).2
      rw [← hva] at q1
      obtain ⟨R4, ver4, off4, kc4, ex4, cells4, hv4, hrow4, he1, he2⟩ := hrb.at (i := j) (e := va) q1
      have hR4 := hlb _ _ _ _ _ _ _ hv4
      have hrow4' : H3.rowAt R4 ver4 = some cells4 := by rw [hg3.rowAt hR4]; exact hrow4
      have hrow2' : H3.rowAt R2 ver2 = some cells2 := by rw [hg3.rowAt hR2]; exact hrow2
      have hva32 := hvv.len
      have hvt : va.take 32 = va := List.take_of_length_le (by omega)
      have hbq : AVal.beqs va va = true := beqs_bytes hvv.bytes
      have hbr : AVal.beqs r.val r.val = true := beqs_bytes hval.bytes
      have hr32 := hval.len
      obtain ⟨H4, hw4, hg4, hc4, hn4⟩ := newCells H3 (z := zeroV) (e := va) (by rw [hva32]; rfl) (by omega) hvv.one
      have hz : zeroV = [zb, zb, zb, zb, zb, zb, zb, zb, zb, zb, zb, zb, zb, zb, zb, zb, zb, zb, zb, zb, zb, zb, zb, zb, zb, zb, zb, zb, zb, zb, zb, zb] := rfl
      rw [hz] at hw4
      have hX := hc4.at
      have hg34 := hg3.trans hg4
      have r1 : H4.rowAt R1 ver1 = some cells1 := by rw [hg34.rowAt hR1]; exact hrow1
      have r3 : H4.rowAt R3 ver3 = some cells3 := by rw [hg34.rowAt hR3]; exact hrow3
      have rF : H4.rowAt F 0 = some f.cells := by rw [hg34.rowAt hFn]; exact hF.at
      obtain ⟨R5, ver5, off5, kc5, ex5, cells5, hv5, hrow5, hi1, hi2⟩ := ho.at (i := i) (e := [vi p]) (by rw [List.getElem?_map, hp]; rfl)
      simp only [List.length_map] at hv5
      rw [Nat.mul_one] at hi1 hi2
      have ga : cells5[off5 + i]? = some (vi p) := by
        have : (List.take 1 (List.drop (off5 + i) cells5))[0]? = some (vi p) := by rw [hi2]; rfl
        rw [List.getElem?_take, if_pos (by omega), List.getElem?_drop] at this
        exact this
      have r5 : H4.rowAt R5 ver5 = some cells5 := by rw [hg34.rowAt (hol _ _ _ _ _ _ _ hv5)]; exact hrow5
      by_cases he : va = r.val
      · have hst : doRow p (fk, mk, j) r = (fk, mk, j + 1) := doRow_same h6 (by rw [← hva]; simp [-getElem?_pos, he])
        rw [hst] at hfold
        rw [← he] at g3
        have hev := eqVal_t hvv
        repeat (first | apply Wp.seq | apply Wp.blk | apply Wp.ret | apply Wp.skip | apply Wp.exit | apply Wp.cT rfl | apply Wp.cF rfl | ((apply Wp.reg; (repeat (apply Ex.cons; (simp (disch := omega) [-getElem?_pos, hv1, hrow1', hc12, hc11, hv3, hrow3', hd1, g0, hv2, hrow2', hc22, hc21, hlenb, hv4, hrow4', he1, he2, hw4, hX, hva32, hvt, r1, r3, g3, hev, hbq]; rfl))); exact Ex.nil; rfl; (simp [-getElem?_pos]; rfl))) | ((apply Wp.draw; (repeat (first | ((first | apply Dr.q rfl rfl | apply Dr.r rfl rfl); (simp (disch := omega) [-getElem?_pos, hv1, hrow1', hc12, hc11, hv3, hrow3', hd1, g0, hv2, hrow2', hc22, hc21, hlenb, hv4, hrow4', he1, he2, hw4, hX, hva32, hvt, r1, r3, g3, hev, hbq]; rfl); (simp [-getElem?_pos]; rfl)) | (apply Dr.imm rfl; (simp (disch := omega) [-getElem?_pos, hv1, hrow1', hc12, hc11, hv3, hrow3', hd1, g0, hv2, hrow2', hc22, hc21, hlenb, hv4, hrow4', he1, he2, hw4, hX, hva32, hvt, r1, r3, g3, hev, hbq]; rfl); (focus first | (simp [-getElem?_pos]; done) | (simp [-getElem?_pos]; omega))))); exact Dr.nil; rfl; (first | (focus (simp (disch := omega) [-getElem?_pos, hv1, hrow1', hc12, hc11, hv3, hrow3', hd1, g0, hv2, hrow2', hc22, hc21, hlenb, hv4, hrow4', he1, he2, hw4, hX, hva32, hvt, r1, r3, g3, hev, hbq]; done)) | rfl); (simp [-getElem?_pos]; rfl))))
        exact ⟨(k + 1, H4, fk, mk, j + 1), rfl, ⟨by show k + 1 ≤ _; omega, hg34, hfold, hrest, by show j + 1 ≤ k + 1; omega, by show j + 1 ≤ _; omega, hmk⟩, by show _ - (k + 1) < _ - k; omega, by simp [-getElem?_pos, hv1, hv2]⟩
      · have hev := eqVal_f hvv hval he
        cases hgk : fk.good with
        | false =>
          have hst : doRow p (fk, mk, j) r = (fk, mk, j + 1) := doRow_same h6 (by simp [-getElem?_pos, hgk])
          rw [hst] at hfold
          repeat (first | apply Wp.seq | apply Wp.blk | apply Wp.ret | apply Wp.skip | apply Wp.exit | apply Wp.cT rfl | apply Wp.cF rfl | ((apply Wp.reg; (repeat (apply Ex.cons; (simp (disch := omega) [-getElem?_pos, hv1, hrow1', hc12, hc11, hv3, hrow3', hd1, g0, hv2, hrow2', hc22, hc21, hlenb, hv4, hrow4', he1, he2, hw4, hX, hva32, hvt, r1, r3, g3, hev, hbq, hbr, hr32]; rfl))); exact Ex.nil; rfl; (simp [-getElem?_pos]; rfl))) | ((apply Wp.draw; (repeat (first | ((first | apply Dr.q rfl rfl | apply Dr.r rfl rfl); (simp (disch := omega) [-getElem?_pos, hv1, hrow1', hc12, hc11, hv3, hrow3', hd1, g0, hv2, hrow2', hc22, hc21, hlenb, hv4, hrow4', he1, he2, hw4, hX, hva32, hvt, r1, r3, g3, hev, hbq, hbr, hr32]; rfl); (simp [-getElem?_pos]; rfl)) | (apply Dr.imm rfl; (simp (disch := omega) [-getElem?_pos, hv1, hrow1', hc12, hc11, hv3, hrow3', hd1, g0, hv2, hrow2', hc22, hc21, hlenb, hv4, hrow4', he1, he2, hw4, hX, hva32, hvt, r1, r3, g3, hev, hbq, hbr, hr32]; rfl); (focus first | (simp [-getElem?_pos]; done) | (simp [-getElem?_pos]; omega))))); exact Dr.nil; rfl; (first | (focus (simp (disch := omega) [-getElem?_pos, hv1, hrow1', hc12, hc11, hv3, hrow3', hd1, g0, hv2, hrow2', hc22, hc21, hlenb, hv4, hrow4', he1, he2, hw4, hX, hva32, hvt, r1, r3, g3, hev, hbq, hbr, hr32]; done)) | rfl); (simp [-getElem?_pos]; rfl))))
          exact ⟨(k + 1, H4, fk, mk, j + 1), rfl, ⟨by show k + 1 ≤ _; omega, hg34, hfold, hrest, by show j + 1 ≤ k + 1; omega, by show j + 1 ≤ _; omega, hmk⟩, by show _ - (k + 1) < _ - k; omega, by simp [-getElem?_pos, hv1, hv2, hgk]⟩
        | true =>
          have hst : doRow p (fk, mk, j) r = (⟨false, p, j, va⟩, mk, j + 1) := by rw [doRow_ne h6 hgk (by rw [← hva]; exact he), hva]
          rw [hst] at hfold
          have hff : f = ⟨false, p, j, va⟩ := by
            rw [← hfold] at hfin
            exact f_keeps rfl hfin
          have hF35 : f.cells.length = 35 := by simp [-getElem?_pos, FindD.cells, hfw.len]
          have hF0 : f.cells[0]? = some (abool false) := by rw [hff]; rfl
          have hF1 : f.cells[1]? = some (vi p) := by rw [hff]; rfl
          have hF2 : f.cells[2]? = some (vi (j : Int)) := by rw [hff]; rfl
          have hF3 : (f.cells.drop 3).take 32 = va := by rw [hff]; exact hvt
          have hev2 := eqVal_t hvv
          repeat (first | apply Wp.seq | apply Wp.blk | apply Wp.ret | apply Wp.skip | apply Wp.exit | apply Wp.cT rfl | apply Wp.cF rfl | ((apply Wp.reg; (repeat (apply Ex.cons; (simp (disch := omega) [-getElem?_pos, hv1, hrow1', hc12, hc11, hv3, hrow3', hd1, g0, hv2, hrow2', hc22, hc21, hlenb, hv4, hrow4', he1, he2, hw4, hX, hva32, hvt, r1, r3, g3, hev, hbq, hbr, hr32, rF, hF35, hF0, hF1, hF2, hF3, hv5, r5, ga, hi1, hev2]; rfl))); exact Ex.nil; rfl; (simp [-getElem?_pos]; rfl))) | ((apply Wp.draw; (repeat (first | ((first | apply Dr.q rfl rfl | apply Dr.r rfl rfl); (simp (disch := omega) [-getElem?_pos, hv1, hrow1', hc12, hc11, hv3, hrow3', hd1, g0, hv2, hrow2', hc22, hc21, hlenb, hv4, hrow4', he1, he2, hw4, hX, hva32, hvt, r1, r3, g3, hev, hbq, hbr, hr32, rF, hF35, hF0, hF1, hF2, hF3, hv5, r5, ga, hi1, hev2]; rfl); (simp [-getElem?_pos]; rfl)) | (apply Dr.imm rfl; (simp (disch := omega) [-getElem?_pos, hv1, hrow1', hc12, hc11, hv3, hrow3', hd1, g0, hv2, hrow2', hc22, hc21, hlenb, hv4, hrow4', he1, he2, hw4, hX, hva32, hvt, r1, r3, g3, hev, hbq, hbr, hr32, rF, hF35, hF0, hF1, hF2, hF3, hv5, r5, ga, hi1, hev2]; rfl); (focus first | (simp [-getElem?_pos]; done) | (simp [-getElem?_pos]; omega))))); exact Dr.nil; rfl; (first | (focus (simp (disch := omega) [-getElem?_pos, hv1, hrow1', hc12, hc11, hv3, hrow3', hd1, g0, hv2, hrow2', hc22, hc21, hlenb, hv4, hrow4', he1, he2, hw4, hX, hva32, hvt, r1, r3, g3, hev, hbq, hbr, hr32, rF, hF35, hF0, hF1, hF2, hF3, hv5, r5, ga, hi1, hev2]; done)) | rfl); (simp [-getElem?_pos]; rfl))))
          exact ⟨(k + 1, H4, ⟨false, p, j, va⟩, mk, j + 1), rfl, ⟨by show k + 1 ≤ _; omega, hg34, hfold, hrest, by show j + 1 ≤ k + 1; omega, by show j + 1 ≤ _; omega, hmk⟩, by show _ - (k + 1) < _ - k; omega, by simp [-getElem?_pos, hv1, hv2, hv5]⟩
  · intro hkl
    apply Wp.exit
    rw [List.drop_of_length_le (by omega)] at hfold hrest
    simp only [List.map_nil, List.foldl_nil] at hfold hrest
    have hj : j = t.length := by have := congrArg List.length hrest; rw [List.length_take] at this; omega
    rw [← hfold] at hQ
    exact hQ _ H3 (by simp [-getElem?_pos, hj, hv1, hv2]) hg3

end Go.Proofs.Ythbjfkkjmecaaaa
namespace Go.Proofs.Ythbjfkkjmecaaaa
open Go Go.Vm
set_option linter.unusedVariables false
set_option linter.unusedSimpArgs false

variable {kn : Known} {env : Nat → Option AFunc}

variable {rows l a b : List RowD} {r : RowD} {m : Int} {txs : List TxD} {order pre post : List Int} {mm ins ins' : MapD} {f f' : FindD} {p q : Int} {k : Nat}

theorem byD_ok (h : byD rows m order = .ok (f, mm)) : (1 ≤ m ∧ m ≤ 64) ∧ ∃ txs, txsD rows = some txs ∧ okO rows m txs order ∧ order.foldl (doTx rows txs) (goodF, zeroM) = (f, (order.foldl (doTx rows txs) (goodF, zeroM)).2) ∧ mm = (order.foldl (doTx rows txs) (goodF, zeroM)).2.take m.toNat := by
  unfold byD at h
  split at h
  · cases h
  · rename_i hm
    split at h
    · cases h
    · rename_i txs ht
      split at h
      · rename_i hok
        simp only [Except.ok.injEq, Prod.mk.injEq] at h
        exact ⟨Classical.byContradiction hm, txs, ht, hok, Prod.ext h.1 rfl, h.2.symm⟩
      · cases h

end Go.Proofs.Ythbjfkkjmecaaaa
namespace Go.Proofs.Ythbjfkkjmecaaaa
open Go Go.Vm
set_option linter.unusedVariables false
set_option linter.unusedSimpArgs false

variable {kn : Known} {env : Nat → Option AFunc}

variable {H H' H1 : AHeap} {N A B M F : Nat} {v v0 v1 ov tv : AVal} {rows l : List RowD} {rcs ocs tvs : List (List AVal)} {rc : List AVal} {r : RowD} {x : TxD} {sv rv wv : AVal} {m : Int} {txs : List TxD} {o : Nat → Nat} {order : List Int} {avs rvs : List AVal} {ls told : List (List (List AVal))} {f : FindD} {mmF mA : MapD}

set_option maxHeartbeats 2000000 in
theorem isCmp {or : Oracle} {n : Nat} {Q : Exit → KS → Prop} {Hc : AHeap} {v12 v18 : AVal} (hF : Cells Hc F f.cells) (hFn : F < Hc.next) (hfw : IsVal f.want) (ho : RdE Hc 1 ov (ints order)) (hol : ov.lies (· < Hc.next))
    (h12 : LR Hc Hc.next 35 v12 avs (opsC (order.map (opsOf rows txs)))) (h18 : LR Hc Hc.next 32 v18 rvs told)
    (hok : ∀ p ∈ order, (ownAt rows txs p).length ≤ 400 ∧ ∀ r ∈ ownAt rows txs p, OkOp m (toOp r)) (hm : m ≤ 64) (hn : 1000 + order.length < n) (ho2 : order.length < 40000000000000)
    (hby : order.foldl (doTx rows txs) (goodF, zeroM) = (f, mmF)) (hal : (order.map (opsOf rows txs)).foldl aloneD (zeroM, []) = (mA, told))
    (hQ : ∀ l' H', SubK [(7, .ptr F 0 0), (21, abool f.good)] l' → Grow Hc H' → Q .normal (l', H')) :
    Wp or n 231 C9 (sndC (fstC (sndC (sndC (sndC (sndC (sndC (sndC (sndC (sndC (sndC (sndC (sndC (a9.code)))))))))))))) ([(2, ov), (7, .ptr F 0 0), (12, v12), (18, v18), (21, abool true), (22, vi 0)], Hc) Q := by
  apply Wp.blk
  apply Wp.loop (α := Nat × AHeap × FindD × MapD) (fun y => [(2, ov), (7, .ptr F 0 0), (12, v12), (18, v18), (21, abool y.2.2.1.good), (22, vi y.1)]) (·.2.1)
    (fun y => y.1 ≤ order.length ∧ Grow Hc y.2.1 ∧ (order.drop y.1).foldl (doTx rows txs) (y.2.2.1, y.2.2.2) = (f, mmF) ∧ ((order.drop y.1).map (opsOf rows txs)).foldl aloneD (y.2.2.2, told.take y.1) = (mA, told) ∧ y.1 ≤ told.length ∧ IsMap y.2.2.2)
    (fun y => order.length - y.1) (0, Hc, goodF, zeroM) rfl ⟨by omega, Grow.refl _, hby, by simpa [-getElem?_pos] using hal, Nat.zero_le _, zeroM_is⟩ (by simp [-getElem?_pos]; omega) (by simp [-getElem?_pos, goodF])
  rintro ⟨i, H2, fi, mi⟩ ⟨hi, hg2, hfold, hrest, hit, hmi⟩
  dsimp only at hi hg2 hfold hrest hit hmi ⊢
  have hl12 : aLenS v12 = some (vi order.length) := by have := h12.rd.lenS; simpa [-getElem?_pos, h12.len] using this
  (repeat (first | apply Wp.seq | apply Wp.blk)); (apply Wp.reg; (repeat (apply Ex.cons; (simp (disch := omega) [-getElem?_pos, hl12]; rfl))); exact Ex.nil; rfl; (simp [-getElem?_pos]; rfl))
  (repeat (first | apply Wp.seq | apply Wp.blk)); apply Wp.ite rfl
  · intro hil
    obtain ⟨p, hp⟩ : ∃ p, order[i]? = some p := ⟨_, List.getElem?_eq_getElem (by omega)⟩
    obtain ⟨hpl, hpo⟩ := hok p (List.mem_of_getElem? hp)
    have hal2 : avs.length = order.length := by rw [h12.len]; simp [-getElem?_pos]
    obtain ⟨a, ha⟩ : ∃ a, avs[i]? = some a := ⟨_, List.getElem?_eq_getElem (by omega)⟩
    obtain ⟨hra, hla⟩ := h12.at_ i a (opl (ownAt rows txs p)) ha (by simp [-getElem?_pos, opsC, opl, opsOf, hp])
    rw [drop_at hp, List.foldl_cons] at hfold
    rw [drop_at hp, List.map_cons] at hrest
    obtain ⟨q1, q2, q3⟩ := tolds_at hrest
    have hlt : (told.take i).length = i := by rw [List.length_take]; omega
    rw [hlt] at q1 q2
    have hilt : i < told.length := (List.getElem?_eq_some_iff.1 q1).1
    rw [← q2] at q3
    obtain ⟨b, hb⟩ : ∃ b, rvs[i]? = some b := ⟨_, List.getElem?_eq_getElem (by rw [h18.len]; exact hilt)⟩
    obtain ⟨t, ht⟩ : ∃ t, t = ((opsOf rows txs p).foldl doOp (mi, [])).2 := ⟨_, rfl⟩
    rw [← ht] at q1
    obtain ⟨hrb, hlb⟩ := h18.at_ i b t hb q1
    have hlenb : aLenS b = some (vi t.length) := hrb.lenS
    have hmap := one_map (p := p) (ownAt rows txs p) fi mi 0 []
    have hst : doTx rows txs (fi, mi) p = (((ownAt rows txs p).foldl (doRow p) (fi, mi, 0)).1, ((ownAt rows txs p).foldl (doRow p) (fi, mi, 0)).2.1) := rfl
    rw [hst] at hfold
    obtain ⟨R1, ver1, off1, kc1, ex1, cells1, hv1, hR1, hrow1, hc11, hc12⟩ := h18.one hb
    apply Wp.skip
    (repeat (first | apply Wp.seq | apply Wp.blk)); (apply Wp.reg; (repeat (apply Ex.cons; (simp (disch := omega) [-getElem?_pos]; rfl))); exact Ex.nil; rfl; (simp [-getElem?_pos]; rfl))
    (repeat (first | apply Wp.seq | apply Wp.blk)); (apply Wp.reg; (repeat (apply Ex.cons; (simp (disch := omega) [-getElem?_pos]; rfl))); exact Ex.nil; rfl; (simp [-getElem?_pos]; rfl))
    refine Wp.sub [(2, ov), (7, .ptr F 0 0), (12, v12), (18, v18), (21, abool fi.good), (22, vi i), (23, vi 0), (24, vi 0)] ?_ (by simp [-getElem?_pos])
    refine isCmp1 hg2 hF hFn hfw ho hol hp h12 ha hra hla h18 hb hrb hlb hpo hm hmi hpl (by omega) ho2 hil hfold (by rw [ht]) fun l' H3 hsub hg3 => ?_
    refine Wp.sub [(2, ov), (7, .ptr F 0 0), (12, v12), (18, v18), (21, abool ((ownAt rows txs p).foldl (doRow p) (fi, mi, 0)).1.good), (22, vi i), (23, vi t.length)] ?_ hsub
    have hrow1' : H3.rowAt R1 ver1 = some cells1 := by rw [hg3.rowAt hR1]; exact hrow1
    repeat (first | apply Wp.seq | apply Wp.blk | apply Wp.ret | apply Wp.skip | apply Wp.exit | apply Wp.cT rfl | apply Wp.cF rfl | ((apply Wp.reg; (repeat (apply Ex.cons; (simp (disch := omega) [-getElem?_pos, hv1, hrow1', hc12, hc11, hlenb]; rfl))); exact Ex.nil; rfl; (simp [-getElem?_pos]; rfl))))
    rw [← hmap] at q3
    exact ⟨(i + 1, H3, ((ownAt rows txs p).foldl (doRow p) (fi, mi, 0)).1, ((ownAt rows txs p).foldl (doRow p) (fi, mi, 0)).2.1), rfl, ⟨by show i + 1 ≤ _; omega, hg3, hfold, q3, by show i + 1 ≤ _; omega, by
      show IsMap ((ownAt rows txs p).foldl (doRow p) (fi, mi, 0)).2.1
      rw [hmap]; exact doOp_map (m := m) (fun o ho => by obtain ⟨r, hr, rfl⟩ := List.mem_map.1 ho; exact hpo r hr) hmi⟩, by show _ - (i + 1) < _ - i; omega, by simp [-getElem?_pos, hv1]⟩
  · intro hil
    apply Wp.exit
    rw [List.drop_of_length_le (by omega), List.foldl_nil] at hfold
    cases hfold
    exact hQ _ H2 (by simp [-getElem?_pos]) hg2

end Go.Proofs.Ythbjfkkjmecaaaa
namespace Go.Proofs.Ythbjfkkjmecaaaa
open Go Go.Vm
set_option linter.unusedVariables false
set_option linter.unusedSimpArgs false

variable {kn : Known} {env : Nat → Option AFunc}

variable {H H' H1 : AHeap} {N A B M : Nat} {v v0 ov tv : AVal} {rows l l2 : List RowD} {rcs ocs ocs2 tvs : List (List AVal)} {rc : List AVal} {r : RowD} {x : TxD} {sv rv wv : AVal} {m : Int} {txs : List TxD} {o : Nat → Nat} {order : List Int}

theorem RowsAt.grow (h : RowsAt H N v rows) (hN : N ≤ H.next) (hg : Grow H H') : RowsAt H' N v rows := by
  obtain ⟨rcs, h1, h2, h3, h4⟩ := h
  exact ⟨rcs, h1.grow hg (fun R ver off len kc ex esz e => by have := h2 R ver off len kc ex esz e; omega), h2, h3, fun k rc r a b => by
    obtain ⟨q1, sv, q2⟩ := h4 k rc r a b
    exact ⟨q1, sv, q2.move fun A hA => hg.get A (by omega)⟩⟩
theorem RowsAt.wide {N' : Nat} (h : RowsAt H N v rows) (hN : N ≤ N') : RowsAt H N' v rows := by
  obtain ⟨rcs, h1, h2, h3, h4⟩ := h
  exact ⟨rcs, h1, fun R ver off len kc ex esz e => by have := h2 R ver off len kc ex esz e; omega, h3, fun k rc r a b => by
    obtain ⟨q1, sv, q2⟩ := h4 k rc r a b
    exact ⟨q1, sv, q2.at_, q2.rd, fun R ver off len kc ex esz e => by have := q2.lies R ver off len kc ex esz e; omega, q2.len⟩⟩

theorem FindD.len35 {f : FindD} (h : IsVal f.want) : f.cells.length = 35 ∧ f.cells.all AVal.one = true := ⟨by simp [-getElem?_pos, FindD.cells, h.len], by simp only [FindD.cells, List.all_cons, h.one, Bool.and_true]; rfl⟩

end Go.Proofs.Ythbjfkkjmecaaaa
