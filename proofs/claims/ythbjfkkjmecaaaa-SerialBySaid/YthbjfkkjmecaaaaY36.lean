/- Walks: the reference's By. -/
import Derived.Test.YthbjfkkjmecaaaaY35
set_option linter.unusedVariables false
set_option linter.unusedSimpArgs false
namespace Go.Proofs.Ythbjfkkjmecaaaa
open Go Go.Vm
variable {kn : zy0} {env : Nat → Option zzq}
variable {H H' H1 H2 : zz6} {N A : Nat} {v v0 ov tv : AVal} {rows : List RowD} {rcs tvs : List (List AVal)} {rc : List AVal} {r : RowD} {x : TxD} {sv rv wv : AVal} {m : Int} {txs : List TxD} {o : Nat → Nat} {order ks : List Int}
def yxx (H' : zz6) (N : Nat) (t : Except Int (zyw × zkc)) (v : AVal) : Prop := match t with
 | .ok (f, mm) => ∃ mv, v = .tuple [.agg f.cells, mv, vi 0] ∧ RdE H' 32 mv mm ∧ (mv.lies fun R => N ≤ R ∧ R < H'.next) ∧ zyr f.want ∧ ∀ e ∈ mm, zyr e
 | .error c => v = .tuple [.agg yq6.cells, zxa, vi c]
structure RbE (kn : zy0) (env : Nat → Option zzq) : Prop extends BookE kn env where
 f52 : Fn kn env 52 a52
 f59 : Fn kn env 59 a59
 f60 : Fn kn env 60 a60
 f28 : Fn kn env 28 a28
theorem ykp {j : Nat} {p : Int} (hp : order[j]? = some p) (h1 : (order.take j).Nodup ∧ ∀ q ∈ order.take j, okP rows m txs q) (h2 : p ∉ order.take j) (h3 : okP rows m txs p) : (order.take (j + 1)).Nodup ∧ ∀ q ∈ order.take (j + 1), okP rows m txs q := by
 rw [List.take_add_one, hp]
 refine ⟨List.nodup_append.2 ⟨h1.1, by simp [-getElem?_pos, -List.reduceReplicate], fun a ha b hb e => ?_⟩, fun q hq => ?_⟩
 ·simp [-getElem?_pos, -List.reduceReplicate] at hb; subst hb; subst e; exact h2 ha
 ·rcases List.mem_append.1 hq with hq | hq
  ·exact h1.2 q hq
  ·simp [-getElem?_pos, -List.reduceReplicate] at hq; subst hq; exact h3
theorem yqy (htx : zzw H N 12 tv tvs) (hat : zte H N o tvs txs) {q : Nat} (hx : txs[q]? = some x) : ∃ R ver cells sv rv wv, tv = .slice R ver 0 txs.length txs.length false 12 ∧ R < H.next ∧ H.rowAt R ver = some cells ∧ q * 12 + 12 ≤ cells.length ∧ (cells.drop (q * 12)).take 12 = txc x sv rv wv := by
 obtain ⟨e, he⟩ : ∃ e, tvs[q]? = some e := ⟨_, List.getElem?_eq_getElem (by have := hat.1; have := (List.getElem?_eq_some_iff.1 hx).1; omega)⟩
 obtain ⟨sv, rv, wv, ht⟩ := hat.2 q e x he hx
 obtain ⟨R, ver, cells, h1, _, h3, h4, h5, _, h7⟩ := htx.load he
 rw [hat.1] at h1
 rw [ht.eq] at h7
 exact ⟨R, ver, cells, sv, rv, wv, h1, h3, h4, h5, h7⟩
abbrev zb32 : List AVal := [zb, zb, zb, zb, zb, zb, zb, zb, zb, zb, zb, zb, zb, zb, zb, zb, zb, zb, zb, zb, zb, zb, zb, zb, zb, zb, zb, zb, zb, zb, zb, zb]
abbrev C28 : List Nat := [0, 1, 2, 6, 7, 8, 9, 10, 11, 12, 13, 14, 15, 16, 17, 18, 19, 20, 21, 22, 28, 36, 42, 68, 82, 99, 107, 125, 137, 155]
set_option maxHeartbeats 8000000 in
theorem c28 (E : RbE kn env) (n : Nat) (hrows : zwz H H.next v0 rows) (ho : RdE H 1 ov (ints order)) (hol : ov.lies (· < H.next)) (hr : rows.length < 400000000000) (ho2 : order.length < 40000000000000) (hn : rows.length + order.length + 30 < n) :
  ∃ v H', zzp kn env (n + 4) (.func (.func 28) []) [v0, vi m, ov] H = some (v, H') ∧ (Grow H H' ∧ yxx H' H.next (byD rows m order) v) := by
 obtain ⟨H1, hH1⟩ : ∃ H1, H1 = H.push (.row [some (0, zwj)]) := ⟨_, rfl⟩
 have hn1 : H1.next = H.next + 1 := by rw [hH1]; simp [-getElem?_pos, -List.reduceReplicate]
 have hg1 : Grow H H1 := by rw [hH1]; exact Grow.push _ _
 have hB1 : Cells H1 H.next zwj := by rw [hH1]; show zz6.get _ _ = _; simp [-getElem?_pos, -List.reduceReplicate]
 have hlo : zyy ov = some (vi order.length) := by have := ho.lenS; rwa [List.length_map] at this
 have fail : ∀ H', Grow H1 H' → ∃ H'', H'.write H.next 0 0 zwj = some H'' ∧ Grow H H'' ∧ H''.rowAt H.next 0 = some zwj := fun H' hg => by
  have hb : Cells H' H.next zwj := by unfold Cells; rw [hg.get _ (by omega)]; exact hB1
  refine ⟨_, Cells.write hb (by simp [-List.reduceReplicate]) (by simp [-List.reduceReplicate]) rfl, (hg1.trans hg).set (Nat.le_refl _) _, ?_⟩
  simp [-getElem?_pos, -List.reduceReplicate, spl]
 have hz35 : zwj.take 35 = zwj := rfl
 have bad : ∀ c, byD rows m order = .error c → ∀ H'', Grow H H'' → Grow H H'' ∧ yxx H'' H.next (byD rows m order) (.tuple [.agg zwj, zxa, vi c]) := fun c hc H'' hg => by rw [hc]; exact ⟨hg, rfl⟩
 refine Wp.call 172 C28 E.f28.e (E.f28.no [v0, vi m, ov] H) (n := n + 3) rfl (by simp [-List.reduceReplicate]) ?_
 repeat (first | apply Wp.za | apply Wp.zb)
 (repeat (first | apply Wp.za | apply Wp.zb)); (apply Wp.zh; (repeat (apply Ex.zc; (simp (disch := omega) [-getElem?_pos, -List.reduceReplicate]; rfl))); exact Ex.zn; rfl; (simp; rfl))
 rw [← hH1]
 by_cases hm1 : m < 1
 ·obtain ⟨H3, hw3, hg3, hz3⟩ := fail H1 (Grow.refl _)
  have hbd : byD rows m order = .error 2 := by unfold byD; rw [if_pos (by omega)]
  repeat (first | apply Wp.za | apply Wp.zb | apply Wp.zc | apply Wp.zd | apply Wp.ze | apply Wp.zf rfl | apply Wp.zg rfl | ((apply Wp.zh; (repeat (apply Ex.zc; (simp (disch := omega) [-getElem?_pos, -List.reduceReplicate, hm1, zzm, hw3, hz3]; rfl))); exact Ex.zn; rfl; (simp; rfl))))
  simp [-getElem?_pos, -List.reduceReplicate, a28, hz3, hz35]
  exact bad 2 hbd H3 hg3
 by_cases hm2 : 64 < m
 ·obtain ⟨H3, hw3, hg3, hz3⟩ := fail H1 (Grow.refl _)
  have hbd : byD rows m order = .error 2 := by unfold byD; rw [if_pos (by omega)]
  repeat (first | apply Wp.za | apply Wp.zb | apply Wp.zc | apply Wp.zd | apply Wp.ze | apply Wp.zf rfl | apply Wp.zg rfl | ((apply Wp.zh; (repeat (apply Ex.zc; (simp (disch := omega) [-getElem?_pos, -List.reduceReplicate, hm1, hm2, zzm, hw3, hz3]; rfl))); exact Ex.zn; rfl; (simp; rfl))))
  simp [-getElem?_pos, -List.reduceReplicate, a28, hz3, hz35]
  exact bad 2 hbd H3 hg3
 have hm : 1 ≤ m ∧ m ≤ 64 := by omega
 obtain ⟨t52, H2, h52, hg2, hres⟩ := c52 E.toBookE E.f52 n (H := H1) (v0 := v0) (hrows.up hg1) hr (by omega)
 cases ht : zmc rows with
 | none =>
  rw [ht] at hres
  have hres' : t52 = .tuple [zxa, vi 230] := hres
  rw [hres'] at h52
  obtain ⟨H3, hw3, hg3, hz3⟩ := fail H2 hg2
  have hbd : byD rows m order = .error 230 := by unfold byD; rw [if_neg (by simpa [-getElem?_pos, -List.reduceReplicate] using hm), ht]
  repeat (first | apply Wp.za | apply Wp.zb | apply Wp.zc | apply Wp.zd | apply Wp.ze | apply Wp.zf rfl | apply Wp.zg rfl | ((apply Wp.zh; (repeat (apply Ex.zc; (simp (disch := omega) [-getElem?_pos, -List.reduceReplicate, hm1, hm2, h52, zzm, hw3, hz3]; rfl))); exact Ex.zn; rfl; (simp; rfl))))
  simp [-getElem?_pos, -List.reduceReplicate, a28, hz3, hz35]
  exact bad 230 hbd H3 hg3
 | some txs =>
  rw [ht] at hres
  obtain ⟨tv, tvs, o, htv, hts, htl, hta⟩ := hres
  rw [htv] at h52
  have hbeg := zpe ht
  have hlt : zyy tv = some (vi txs.length) := by have := hts.rd.lenS; rw [hta.1] at this; exact this
  obtain ⟨rcs, hrd, hlies, hrlen, hrat⟩ := hrows
  have hrc : zqj rcs rows := ⟨hrlen, fun k c r a b => (hrat k c r a b).1⟩
  have hg02 := hg1.trans hg2
  have hno : ¬ okO rows m txs order → byD rows m order = .error 230 := fun h => by unfold byD; rw [if_neg (by simpa [-getElem?_pos, -List.reduceReplicate] using hm), ht]; simp only [if_neg h]
  have own : ∀ (q : Nat) (x : TxD) (H' : zz6), txs[q]? = some x → Grow H2 H' → ∃ R ver cells sv rv wv v' H'' ks, tv = .slice R ver 0 txs.length txs.length false 12 ∧ H'.rowAt R ver = some cells ∧ q * 12 + 12 ≤ cells.length ∧ (cells.drop (q * 12)).take 12 = txc x sv rv wv ∧
    zzp kn env (n + 3) (.func (.func 60) []) [v0, .agg (txc x sv rv wv)] H' = some (v', H'') ∧ Grow H' H'' ∧ zzw H'' H'.next 1 v' (ints ks) ∧ yyr rows ks (zqt rows txs q) := fun q x H' hx hg => by
   obtain ⟨R, ver, cells, sv, rv, wv, e1, e2, e3, e4, e5⟩ := yqy hts hta hx
   obtain ⟨k, hk, hkl⟩ := hbeg x (List.mem_of_getElem? hx)
   have hg' := hg02.trans hg
   obtain ⟨v', H'', hc, g3, ks, q1, q2⟩ := c60 E.f60 (n + 2) (H := H') (v0 := v0) (rows := rows) (rcs := rcs) (x := x) (sv := sv) (rv := rv) (wv := wv) (hrd.grow hg' hlies) (fun R ver off len kc ex esz e => by have := hlies R ver off len kc ex esz e; have := hg'.next; omega) hrc hk hkl hr (by omega)
   have hown : zqt rows txs (q : Int) = zf2 rows x := by unfold zqt; rw [Int.toNat_natCast, hx]
   exact ⟨R, ver, cells, sv, rv, wv, v', H'', ks, e1, by rw [hg.rowAt e2]; exact e3, e4, e5, hc, g3, q1, by rw [hown]; exact q2⟩
  have ordAt : ∀ (j : Nat) (p : Int) (H' : zz6), order[j]? = some p → Grow H2 H' → ∃ R ver off kc ex cells, ov = .slice R ver off order.length kc ex 1 ∧ H'.rowAt R ver = some cells ∧ off + j + 1 ≤ cells.length ∧ cells[off + j]? = some (vi p) := fun j p H' hp hg => by
   obtain ⟨R, ver, off, kc, ex, cells, e1, e2, e3, e4⟩ := zts ho hp
   exact ⟨R, ver, off, kc, ex, cells, e1, by rw [(hg02.trans hg).rowAt (hol _ _ _ _ _ _ _ e1)]; exact e2, e3, e4⟩
  have rowOf : ∀ (q : Nat) (r : RowD) (H' : zz6), rows[q]? = some r → Grow H2 H' → ∃ R ver off kc ex cells rc, v0 = .slice R ver off rows.length kc ex 41 ∧ H'.rowAt R ver = some cells ∧ off + q * 41 + 41 ≤ cells.length ∧ (cells.drop (off + q * 41)).take 41 = rc ∧ RowC rc r := fun q r H' hq hg => by
   obtain ⟨rc, hrc'⟩ : ∃ rc, rcs[q]? = some rc := ⟨_, List.getElem?_eq_getElem (by have := (List.getElem?_eq_some_iff.1 hq).1; omega)⟩
   obtain ⟨R, ver, off, kc, ex, cells, e1, e2, e3, e4⟩ := hrd.at hrc'
   rw [hrlen] at e1
   exact ⟨R, ver, off, kc, ex, cells, rc, e1, by rw [(hg02.trans hg).rowAt (hlies _ _ _ _ _ _ _ e1)]; exact e2, e3, e4, hrc.2 q rc r hrc' hq⟩
  repeat (first | apply Wp.za | apply Wp.zb | apply Wp.zc | apply Wp.zd | apply Wp.ze | apply Wp.zf rfl | apply Wp.zg rfl | ((apply Wp.zh; (repeat (apply Ex.zc; (simp (disch := omega) [-getElem?_pos, -List.reduceReplicate, hm1, hm2, h52]; rfl))); exact Ex.zn; rfl; (simp; rfl))))
  apply Wp.loop (α := Nat × zz6) (fun y => [(0, v0), (1, vi m), (2, ov), (6, .ptr H.next 0 0), (9, tv), (11, vi y.1)]) (·.2)
   (fun y => y.1 ≤ order.length ∧ Grow H2 y.2 ∧ (order.take y.1).Nodup ∧ ∀ q ∈ order.take y.1, okP rows m txs q) (fun y => order.length - y.1) (0, H2) rfl ⟨Nat.zero_le _, Grow.refl _, by simp [-getElem?_pos, -List.reduceReplicate], by simp [-getElem?_pos, -List.reduceReplicate]⟩ (by dsimp only; omega) (by simp [-List.reduceReplicate])
  rintro ⟨j, H3⟩ ⟨hj, hg3, hok⟩
  dsimp only at hj hg3 hok ⊢
  (repeat (first | apply Wp.za | apply Wp.zb)); (apply Wp.zh; (repeat (apply Ex.zc; (simp (disch := omega) [-getElem?_pos, -List.reduceReplicate, hlo]; rfl))); exact Ex.zn; rfl; (simp; rfl))
  (repeat (first | apply Wp.za | apply Wp.zb)); apply Wp.ite rfl
  ·intro hjl
   apply Wp.zd
   obtain ⟨p, hp⟩ : ∃ p, order[j]? = some p := ⟨_, List.getElem?_eq_getElem (by omega)⟩
   obtain ⟨Ro, vo, oo, ko, xo, co, hov, horow, ho1, ho3⟩ := ordAt j p H3 hp hg3
   obtain ⟨H4, hw4, hg4, hz4⟩ := fail H3 (hg2.trans hg3)
   obtain ⟨w, hw1, hw2, hw3⟩ := (ho.grow (hg02.trans hg3) hol).first (k := j) (by rw [List.length_map]; exact hj)
   rw [← List.map_take] at hw2
   have h59 := c59 E.f59 (n + 2) hw2 p (by simp [-List.reduceReplicate]; omega) (by simp [-List.reduceReplicate]; omega)
   rw [hov] at hw1
   by_cases hp0 : p < 0
   ·have hbd := hno fun h => by have := (zun h hp).2.1; omega
    repeat (first | apply Wp.za | apply Wp.zb | apply Wp.zc | apply Wp.zd | apply Wp.ze | apply Wp.zf rfl | apply Wp.zg rfl | ((apply Wp.zh; (repeat (apply Ex.zc; (simp (disch := omega) [-getElem?_pos, -List.reduceReplicate, hov, horow, ho3, hp0, hlt, hw1, h59, zzm, hw4, hz4]; rfl))); exact Ex.zn; rfl; (simp; rfl))) | ((apply Wp.zi; (repeat ((first | apply Dr.q rfl rfl | apply Dr.r rfl rfl | apply Dr.imm rfl); (simp (disch := omega) [-getElem?_pos, -List.reduceReplicate, hov, horow, ho3, hp0, hlt, hw1, h59, zzm, hw4, hz4]; rfl); (focus first | (simp; rfl) | (simp [-List.reduceReplicate]; done) | (simp [-List.reduceReplicate]; omega)))); exact Dr.nil; rfl; (first | (focus (simp (disch := omega) [-getElem?_pos, -List.reduceReplicate, hov, horow, ho3, hp0, hlt, hw1, h59, zzm, hw4, hz4]; done)) | rfl); (simp; rfl))))
    simp [-getElem?_pos, -List.reduceReplicate, a28, hz4, hz35]
    exact bad 230 hbd H4 hg4
   obtain ⟨q, rfl⟩ : ∃ q : Nat, p = q := ⟨p.toNat, by omega⟩
   by_cases hq : txs.length ≤ q
   ·have hbd := hno fun h => by have := (zun h hp).2.2.1; omega
    repeat (first | apply Wp.za | apply Wp.zb | apply Wp.zc | apply Wp.zd | apply Wp.ze | apply Wp.zf rfl | apply Wp.zg rfl | ((apply Wp.zh; (repeat (apply Ex.zc; (simp (disch := omega) [-getElem?_pos, -List.reduceReplicate, hov, horow, ho3, hlt, hq, hw1, h59, zzm, hw4, hz4]; rfl))); exact Ex.zn; rfl; (simp; rfl))) | ((apply Wp.zi; (repeat ((first | apply Dr.q rfl rfl | apply Dr.r rfl rfl | apply Dr.imm rfl); (simp (disch := omega) [-getElem?_pos, -List.reduceReplicate, hov, horow, ho3, hlt, hq, hw1, h59, zzm, hw4, hz4]; rfl); (focus first | (simp; rfl) | (simp [-List.reduceReplicate]; done) | (simp [-List.reduceReplicate]; omega)))); exact Dr.nil; rfl; (first | (focus (simp (disch := omega) [-getElem?_pos, -List.reduceReplicate, hov, horow, ho3, hlt, hq, hw1, h59, zzm, hw4, hz4]; done)) | rfl); (simp; rfl))))
    simp [-getElem?_pos, -List.reduceReplicate, a28, hz4, hz35]
    exact bad 230 hbd H4 hg4
   by_cases hin : (q : Int) ∈ order.take j
   ·have hbd := hno fun h => (zun h hp).1 hin
    rw [decide_eq_true hin] at h59
    repeat (first | apply Wp.za | apply Wp.zb | apply Wp.zc | apply Wp.zd | apply Wp.ze | apply Wp.zf rfl | apply Wp.zg rfl | ((apply Wp.zh; (repeat (apply Ex.zc; (simp (disch := omega) [-getElem?_pos, -List.reduceReplicate, hov, horow, ho3, hlt, hq, hw1, h59, zzm, hw4, hz4]; rfl))); exact Ex.zn; rfl; (simp; rfl))) | ((apply Wp.zi; (repeat ((first | apply Dr.q rfl rfl | apply Dr.r rfl rfl | apply Dr.imm rfl); (simp (disch := omega) [-getElem?_pos, -List.reduceReplicate, hov, horow, ho3, hlt, hq, hw1, h59, zzm, hw4, hz4]; rfl); (focus first | (simp; rfl) | (simp [-List.reduceReplicate]; done) | (simp [-List.reduceReplicate]; omega)))); exact Dr.nil; rfl; (first | (focus (simp (disch := omega) [-getElem?_pos, -List.reduceReplicate, hov, horow, ho3, hlt, hq, hw1, h59, zzm, hw4, hz4]; done)) | rfl); (simp; rfl))))
    simp [-getElem?_pos, -List.reduceReplicate, a28, hz4, hz35]
    exact bad 230 hbd H4 hg4
   rw [decide_eq_false hin] at h59
   obtain ⟨x, hx⟩ : ∃ x, txs[q]? = some x := ⟨_, List.getElem?_eq_getElem (by omega)⟩
   obtain ⟨Rt, vt, ct, sv, rv, wv, vk, H5, ks, htv', htrow, ht1, ht2, h60, hg5, hks, hok2⟩ := own q x H3 hx hg3
   rw [htv'] at hlt
   have hg35 := hg3.trans hg5
   have htl2 : (txc x sv rv wv).length = 12 := rfl
   repeat (first | apply Wp.za | apply Wp.zb | apply Wp.zc | apply Wp.zd | apply Wp.ze | apply Wp.zf rfl | apply Wp.zg rfl | ((apply Wp.zh; (repeat (apply Ex.zc; (simp (disch := omega) [-getElem?_pos, -List.reduceReplicate, hov, horow, ho3, hlt, hq, hw1, h59, htv', htrow, ht2, h60]; rfl))); exact Ex.zn; rfl; (simp; rfl))) | ((apply Wp.zi; (repeat ((first | apply Dr.q rfl rfl | apply Dr.r rfl rfl | apply Dr.imm rfl); (simp (disch := omega) [-getElem?_pos, -List.reduceReplicate, hov, horow, ho3, hlt, hq, hw1, h59, htv', htrow, ht2, h60]; rfl); (focus first | (simp; rfl) | (simp [-List.reduceReplicate]; done) | (simp [-List.reduceReplicate]; omega)))); exact Dr.nil; rfl; (first | (focus (simp (disch := omega) [-getElem?_pos, -List.reduceReplicate, hov, horow, ho3, hlt, hq, hw1, h59, htv', htrow, ht2, h60]; done)) | rfl); (simp; rfl))))
   have hlk : zyy vk = some (vi ks.length) := by have := hks.rd.lenS; rwa [List.length_map] at this
   have hkl := hok2.1
   have howl : (zqt rows txs q).length ≤ rows.length := by
    unfold zqt
    split
    ·rename_i x _; unfold zf2; have := zrh x.client (rows.drop (x.begun + 1).toNat); simp [-getElem?_pos, -List.reduceReplicate] at this; omega
    ·simp [-getElem?_pos, -List.reduceReplicate]
   apply Wp.loop (α := Nat) (fun y => [(0, v0), (1, vi m), (2, ov), (6, .ptr H.next 0 0), (9, tv), (11, vi j), (12, vk), (13, vi y)]) (fun _ => H5) (fun y => y ≤ ks.length ∧ ∀ (i : Nat) (r : RowD), i < y → (zqt rows txs q)[i]? = some r → zp3 m r = false) (fun y => ks.length - y) 0 rfl ⟨Nat.zero_le _, fun i r hi => by omega⟩ (by omega) (by simp [-getElem?_pos, -List.reduceReplicate, htv', hov])
   rintro i ⟨hi, hgood⟩
   (repeat (first | apply Wp.za | apply Wp.zb)); (apply Wp.zh; (repeat (apply Ex.zc; (simp (disch := omega) [-getElem?_pos, -List.reduceReplicate, hlk]; rfl))); exact Ex.zn; rfl; (simp; rfl))
   (repeat (first | apply Wp.za | apply Wp.zb)); apply Wp.ite rfl
   ·intro hil
    apply Wp.zd
    obtain ⟨kk, hkk⟩ : ∃ kk, ks[i]? = some kk := ⟨_, List.getElem?_eq_getElem (by omega)⟩
    obtain ⟨r, hr'⟩ : ∃ r, (zqt rows txs q)[i]? = some r := ⟨_, List.getElem?_eq_getElem (by omega)⟩
    obtain ⟨hk0, hkr⟩ := hok2.2 i kk r hkk hr'
    obtain ⟨z, rfl⟩ : ∃ z : Nat, kk = z := ⟨kk.toNat, by omega⟩
    rw [Int.toNat_natCast] at hkr
    have hzl := (List.getElem?_eq_some_iff.1 hkr).1
    obtain ⟨Rk, vkk, ok, kk2, xk, ck, hvk, hkrow, hk1, hk3⟩ := zts hks.rd hkk
    obtain ⟨Rr, vr, orr, kr, xr, cr, rc, hv0, hrrow, hr1, hr2, hRC⟩ := rowOf z r H5 hkr hg35
    have c4 := zk5 hr2 (j := 4) (by omega)
    rw [hRC.a4] at c4
    obtain ⟨H6, hw6, hg6, hz6⟩ := fail H5 (hg2.trans hg35)
    have notok : zp3 m r = true → ¬ okO rows m txs order := fun hb h => by
     have := (zun h hp).2.2.2
     rw [List.any_eq_false] at this
     exact this r (List.mem_of_getElem? hr') hb
    by_cases hb0 : r.blk < 0
    ·have hbd := hno (notok (by unfold zp3; exact decide_eq_true (.inl hb0)))
     repeat (first | apply Wp.za | apply Wp.zb | apply Wp.zc | apply Wp.zd | apply Wp.ze | apply Wp.zf rfl | apply Wp.zg rfl | ((apply Wp.zh; (repeat (apply Ex.zc; (simp (disch := omega) [-getElem?_pos, -List.reduceReplicate, hvk, hkrow, hk3, hv0, hrrow, c4, hb0, zzm, hw6, hz6]; rfl))); exact Ex.zn; rfl; (simp; rfl))))
     simp [-getElem?_pos, -List.reduceReplicate, a28, hz6, hz35]
     exact bad 230 hbd H6 hg6
    ·by_cases hb1 : m ≤ r.blk
     ·have hbd := hno (notok (by unfold zp3; exact decide_eq_true (.inr hb1)))
      repeat (first | apply Wp.za | apply Wp.zb | apply Wp.zc | apply Wp.zd | apply Wp.ze | apply Wp.zf rfl | apply Wp.zg rfl | ((apply Wp.zh; (repeat (apply Ex.zc; (simp (disch := omega) [-getElem?_pos, -List.reduceReplicate, hvk, hkrow, hk3, hv0, hrrow, c4, hb0, hb1, zzm, hw6, hz6]; rfl))); exact Ex.zn; rfl; (simp; rfl))))
      simp [-getElem?_pos, -List.reduceReplicate, a28, hz6, hz35]
      exact bad 230 hbd H6 hg6
     ·have hbf : zp3 m r = false := by unfold zp3; exact decide_eq_false (by omega)
      repeat (first | apply Wp.za | apply Wp.zb | apply Wp.zc | apply Wp.zd | apply Wp.ze | apply Wp.zf rfl | apply Wp.zg rfl | ((apply Wp.zh; (repeat (apply Ex.zc; (simp (disch := omega) [-getElem?_pos, -List.reduceReplicate, hvk, hkrow, hk3, hv0, hrrow, c4, hb0, hb1]; rfl))); exact Ex.zn; rfl; (simp; rfl))))
      refine ⟨i + 1, rfl, ⟨by omega, fun i' r' hi' hr'' => ?_⟩, by omega, by simp [-getElem?_pos, -List.reduceReplicate, hvk, hv0, htv', hov]⟩
      rcases Nat.lt_or_ge i' i with h | h
      ·exact hgood i' r' h hr''
      ·have : i' = i := by omega
       subst this; rw [hr'] at hr''; cases hr''; exact hbf
   ·intro hil
    apply Wp.ze
    have hall : (zqt rows txs q).any (zp3 m) = false := by
     rw [List.any_eq_false]
     intro r hr' h
     obtain ⟨i', hi'⟩ := List.mem_iff_getElem?.1 hr'
     have := (List.getElem?_eq_some_iff.1 hi').1
     have := hgood i' r (by omega) hi'
     rw [h] at this; cases this
    repeat (first | apply Wp.za | apply Wp.zb | apply Wp.zc | apply Wp.zd | apply Wp.ze | apply Wp.zf rfl | apply Wp.zg rfl | ((apply Wp.zh; (repeat (apply Ex.zc; (simp (disch := omega) [-getElem?_pos, -List.reduceReplicate]; rfl))); exact Ex.zn; rfl; (simp; rfl))))
    exact ⟨(j + 1, H5), rfl, ⟨by dsimp only; omega, hg35, ykp hp hok hin ⟨by omega, by omega, hall⟩⟩, by dsimp only; omega, by simp [-getElem?_pos, -List.reduceReplicate, htv', hov]⟩
  ·intro hjl
   apply Wp.ze
   rw [List.take_of_length_le (by omega)] at hok
   have hokO : okO rows m txs order := hok
   obtain ⟨q, rfl⟩ : ∃ q : Nat, m = q := ⟨m.toNat, by omega⟩
   obtain ⟨H4, hH4⟩ : ∃ H4, H4 = H3.push (.row [some (0, zx1 q zb32)]) := ⟨_, rfl⟩
   have hn4 : H4.next = H3.next + 1 := by rw [hH4]; simp [-getElem?_pos, -List.reduceReplicate]
   have hg34 : Grow H3 H4 := by rw [hH4]; exact Grow.push _ _
   obtain ⟨H5, hw5, hg5, hc5, hn5⟩ := zx6 H4 (z := zwj) (e := yy5) rfl (by simp [-List.reduceReplicate]) rfl
   have hgf : zc5.cells = yy5 := rfl
   have hm0 : RbBt H3 H4.next q (.slice H3.next 0 0 q q true 32) zc5 zll H5 := by
    refine ⟨hg34.trans hg5, hc5, ?_, fun R ver off len kc ex esz e => by cases e; omega, zxp, zed, by omega, by omega⟩
    have htz : zll.take q = List.replicate q zzd := by rw [List.take_replicate, Nat.min_eq_left (by omega)]
    rw [htz]
    refine ⟨fun e he => by rw [(List.mem_replicate.1 he).2]; simp [-getElem?_pos, -List.reduceReplicate], .inr ⟨H3.next, 0, 0, q, true, (List.replicate q zzd).flatten, by simp [-getElem?_pos, -List.reduceReplicate], ?_, by simp [-getElem?_pos, -List.reduceReplicate], by simp [-getElem?_pos, -List.reduceReplicate], by rw [List.length_replicate, List.drop_zero, List.take_of_length_le (by simp [-List.reduceReplicate])]⟩⟩
    rw [hg5.rowAt (by omega), hH4, ← zan]
    have : zzd = zb32 := rfl
    rw [this]; simp [-getElem?_pos, -List.reduceReplicate]
   (repeat (first | apply Wp.za | apply Wp.zb)); (apply Wp.zh; (repeat (apply Ex.zc; (simp (disch := omega) [-getElem?_pos, -List.reduceReplicate]; rfl))); exact Ex.zn; rfl; (simp; rfl))
   rw [← hH4]
   (repeat (first | apply Wp.za | apply Wp.zb)); (apply Wp.zh; (repeat (apply Ex.zc; (simp (disch := omega) [-getElem?_pos, -List.reduceReplicate, hw5, zzm, zx1]; rfl))); exact Ex.zn; rfl; (simp; rfl))
   (repeat (first | apply Wp.za | apply Wp.zb)); (apply Wp.zh; (repeat (apply Ex.zc; (simp (disch := omega) [-getElem?_pos, -List.reduceReplicate]; rfl))); exact Ex.zn; rfl; (simp; rfl))
   repeat (first | apply Wp.za | apply Wp.zb)
   have hg23 := hg3
   have hF : H4.next < H5.next := by omega
   apply Wp.loop (α := Nat × zz6 × AVal × zyw × zkc) (fun y => [(0, v0), (2, ov), (6, .ptr H.next 0 0), (9, tv), (15, y.2.2.1), (16, .ptr H4.next 0 0), (17, vi y.1)]) (·.2.1)
    (fun y => y.1 ≤ order.length ∧ RbBt H3 H4.next q y.2.2.1 y.2.2.2.1 y.2.2.2.2 y.2.1 ∧ (order.drop y.1).foldl (ywn rows txs) (y.2.2.2.1, y.2.2.2.2) = order.foldl (ywn rows txs) (zc5, zll)) (fun y => order.length - y.1)
    (0, H5, .slice H3.next 0 0 q q true 32, zc5, zll) rfl ⟨Nat.zero_le _, hm0, rfl⟩ (by dsimp only; omega) (by simp [-List.reduceReplicate])
   rintro ⟨i, H6, v15, f6, mm6⟩ ⟨hi, hb6, hfold⟩
   dsimp only at hi hb6 hfold ⊢
   (repeat (first | apply Wp.za | apply Wp.zb)); (apply Wp.zh; (repeat (apply Ex.zc; (simp (disch := omega) [-getElem?_pos, -List.reduceReplicate, hlo]; rfl))); exact Ex.zn; rfl; (simp; rfl))
   (repeat (first | apply Wp.za | apply Wp.zb)); apply Wp.ite rfl
   ·intro hil
    apply Wp.zd
    obtain ⟨p, hp⟩ : ∃ p, order[i]? = some p := ⟨_, List.getElem?_eq_getElem (by omega)⟩
    obtain ⟨hp1, hp2⟩ := zun hokO hp
    obtain ⟨pn, rfl⟩ : ∃ pn : Nat, p = pn := ⟨p.toNat, by have := hp2.1; omega⟩
    have hg26 : Grow H2 H6 := hg3.trans hb6.grow
    obtain ⟨Ro, vo, oo, ko, xo, co, hov, horow, ho1, ho3⟩ := ordAt i _ H6 hp hg26
    obtain ⟨x, hx⟩ : ∃ x, txs[pn]? = some x := ⟨_, List.getElem?_eq_getElem (by have := hp2.2.1; omega)⟩
    have hpl := (List.getElem?_eq_some_iff.1 hx).1
    obtain ⟨Rt, vt, ct, sv, rv, wv, vk, H7, ks, htv', htrow, ht1, ht2, h60, hg67, hks, hok2⟩ := own pn x H6 hx hg26
    have hb7 := hb6.move hg67
    have hg27 := hg26.trans hg67
    have htl2 : (txc x sv rv wv).length = 12 := rfl
    obtain ⟨v19, H8, ha8, hin8⟩ := hb7.begin (by omega)
    have hn8 := hin8.nx
    rw [zqe hp, List.foldl_cons] at hfold
    have hbad := hp2.2.2
    have hkl := hok2.1
    have hlk : zyy vk = some (vi ks.length) := by have := hks.rd.lenS; rwa [List.length_map] at this
    have howl : (zqt rows txs pn).length ≤ rows.length := by
     unfold zqt
     split
     ·rename_i x _; unfold zf2; have := zrh x.client (rows.drop (x.begun + 1).toNat); simp [-getElem?_pos, -List.reduceReplicate] at this; omega
     ·simp [-getElem?_pos, -List.reduceReplicate]
    repeat (first | apply Wp.za | apply Wp.zb | apply Wp.zc | apply Wp.zd | apply Wp.ze | apply Wp.zf rfl | apply Wp.zg rfl | ((apply Wp.zh; (repeat (apply Ex.zc; (simp (disch := omega) [-getElem?_pos, -List.reduceReplicate, hov, horow, ho3, htv', htrow, ht2, h60, ha8, zzm, zx1]; rfl))); exact Ex.zn; rfl; (simp; rfl))))
    apply Wp.loop (α := Nat × zz6 × zyw × zkc × Nat) (fun y => [(0, v0), (2, ov), (6, .ptr H.next 0 0), (9, tv), (16, .ptr H4.next 0 0), (17, vi i), (18, vk), (19, v19), (20, vi (y.2.2.2.2 : Nat)), (21, vi y.1)]) (·.2.1)
     (fun y => y.1 ≤ ks.length ∧ RbIn H7 H4.next q v19 y.2.2.1 y.2.2.2.1 y.2.1 ∧ y.2.2.2.2 ≤ y.1 ∧ ((zqt rows txs pn).drop y.1).foldl (zv5 pn) (y.2.2.1, y.2.2.2.1, y.2.2.2.2) = (zqt rows txs pn).foldl (zv5 pn) (f6, mm6, 0)) (fun y => ks.length - y.1)
     (0, H8, f6, mm6, 0) rfl ⟨Nat.zero_le _, hin8, Nat.le_refl _, rfl⟩ (by dsimp only; omega) (by simp [-getElem?_pos, -List.reduceReplicate, hov, htv'])
    rintro ⟨k, H9, f9, ins9, rd9⟩ ⟨hk, hin9, hrd9, hfold9⟩
    dsimp only at hk hin9 hrd9 hfold9 ⊢
    (repeat (first | apply Wp.za | apply Wp.zb)); (apply Wp.zh; (repeat (apply Ex.zc; (simp (disch := omega) [-getElem?_pos, -List.reduceReplicate, hlk]; rfl))); exact Ex.zn; rfl; (simp; rfl))
    (repeat (first | apply Wp.za | apply Wp.zb)); apply Wp.ite rfl
    ·intro hkl'
     apply Wp.zd
     obtain ⟨kk, hkk⟩ : ∃ kk, ks[k]? = some kk := ⟨_, List.getElem?_eq_getElem (by omega)⟩
     obtain ⟨r, hr'⟩ : ∃ r, (zqt rows txs pn)[k]? = some r := ⟨_, List.getElem?_eq_getElem (by omega)⟩
     obtain ⟨hk0, hkr⟩ := hok2.2 k kk r hkk hr'
     obtain ⟨z, rfl⟩ : ∃ z : Nat, kk = z := ⟨kk.toNat, by omega⟩
     rw [Int.toNat_natCast] at hkr
     have hzl := (List.getElem?_eq_some_iff.1 hkr).1
     have hbr : zp3 q r = false := by
      have := List.any_eq_false.1 hbad r (List.mem_of_getElem? hr')
      simpa [-getElem?_pos, -List.reduceReplicate] using this
     obtain ⟨bq, hbq, hbql⟩ : ∃ bq : Nat, r.blk = bq ∧ bq < q := by
      unfold zp3 at hbr
      rw [decide_eq_false_iff_not] at hbr
      exact ⟨r.blk.toNat, by omega, by omega⟩
     have hgr : ∀ A, A < H2.next → H9.get A = H2.get A := fun A hA => by
      have := hg3.next
      have := hg27.next
      rw [hin9.keep A (by omega) (by omega), hg27.get A hA]
     obtain ⟨Rk, vkk, ok, kk2, xk, ck, hvk, hkrow, hk1, hk3⟩ := zts hks.rd hkk
     have hkrow9 : H9.rowAt Rk vkk = some ck := by
      have q1 := hks.lies _ _ _ _ _ _ _ hvk
      have := hb6.hF
      rw [zzk, hin9.keep Rk q1.2 (by omega), ← zzk]; exact hkrow
     obtain ⟨Rr, vr, orr, kr, xr, cr, rc, hv0, hrrow, hr1, hr2, hRC⟩ := rowOf z r H2 hkr (Grow.refl _)
     have hRr := hlies _ _ _ _ _ _ _ hv0
     have hrrow9 : H9.rowAt Rr vr = some cr := by rw [zzk, hgr Rr (by have := hg02.next; omega), ← zzk]; exact hrrow
     have r5 := hRC.len
     have r0 := hRC.a0
     have r4 := hRC.a4
     rw [hbq] at r4
     have rv5 := hRC.av
     have hv32 := hRC.isv.len
     have rt : rc.take 41 = rc := List.take_of_length_le (by omega)
     rw [zqe hr', List.foldl_cons] at hfold9
     obtain ⟨H10, hw10, g10, hcl, hn10⟩ := zx6 H9 (z := zpv) (e := rc) r5 (by omega) hRC.one
     have hX := hcl.at
     have hin10 := hin9.move g10
     have hF10 := hin10.cf.at
     have hn9 := hin9.nx
     have hFl := hin9.hF
     by_cases h6 : r.kind = 6
     ·obtain ⟨Rm, vm, H11, hvm, hw11, hin11, hn11⟩ := hin10.setI (by omega) hbql hRC.isv
      have hst : zv5 pn (f9, ins9, rd9) r = (f9, ins9.set bq r.val, rd9) := by simp [-getElem?_pos, -List.reduceReplicate, zv5, h6, hbq]
      rw [hst] at hfold9
      repeat (first | apply Wp.za | apply Wp.zb | apply Wp.zc | apply Wp.zd | apply Wp.ze | apply Wp.zf rfl | apply Wp.zg rfl | ((apply Wp.zh; (repeat (apply Ex.zc; (simp (disch := omega) [-getElem?_pos, -List.reduceReplicate, hvk, hkrow9, hk3, hv0, hrrow9, hr2, r5, rt, hw10, hX, r0, h6, r4, rv5, hv32, hvm, hw11]; rfl))); exact Ex.zn; rfl; (simp; rfl))))
      exact ⟨(k + 1, H11, f9, ins9.set bq r.val, rd9), rfl, ⟨by dsimp only; omega, hin11, by dsimp only; omega, hfold9⟩, by dsimp only; omega, by simp [-getElem?_pos, -List.reduceReplicate, hvk, hv0, hov, htv', hvm]⟩
     ·obtain ⟨Rm, vm, cm, hvm, hmrow, hm1', hm2', ha2⟩ := hin10.at (by omega) hbql
      have hF35 : f9.cells.length = 35 := by simp [-getElem?_pos, -List.reduceReplicate, zyw.cells, hin9.fw.len]
      have hbqr : AVal.beqs r.val r.val = true := zyq hRC.isv.bytes
      have hbqm : AVal.beqs (atM ins9 bq) (atM ins9 bq) = true := zyq ha2.bytes
      cases hg : f9.good with
      | false =>
       have hF0 : f9.cells[0]? = some (zzt false) := by rw [← hg]; rfl
       have hst : zv5 pn (f9, ins9, rd9) r = (f9, ins9, rd9 + 1) := by simp [-getElem?_pos, -List.reduceReplicate, zv5, h6, hg]
       rw [hst] at hfold9
       by_cases he : atM ins9 bq = r.val
       ·rw [he] at hm2'
        have hev := zj7 hRC.isv
        repeat (first | apply Wp.za | apply Wp.zb | apply Wp.zc | apply Wp.zd | apply Wp.ze | apply Wp.zf rfl | apply Wp.zg rfl | ((apply Wp.zh; (repeat (apply Ex.zc; (simp (disch := omega) [-getElem?_pos, -List.reduceReplicate, hvk, hkrow9, hk3, hv0, hrrow9, hr2, r5, rt, hw10, hX, r0, h6, r4, rv5, hv32, hvm, hmrow, hm2', hev, hbqr, zp6]; rfl))); exact Ex.zn; rfl; (simp; rfl))) | ((apply Wp.zi; (repeat ((first | apply Dr.q rfl rfl | apply Dr.r rfl rfl | apply Dr.imm rfl); (simp (disch := omega) [-getElem?_pos, -List.reduceReplicate, hvk, hkrow9, hk3, hv0, hrrow9, hr2, r5, rt, hw10, hX, r0, h6, r4, rv5, hv32, hvm, hmrow, hm2', hev, hbqr, zp6]; rfl); (focus first | (simp; rfl) | (simp [-List.reduceReplicate]; done) | (simp [-List.reduceReplicate]; omega)))); exact Dr.nil; rfl; (first | (focus (simp (disch := omega) [-getElem?_pos, -List.reduceReplicate, hvk, hkrow9, hk3, hv0, hrrow9, hr2, r5, rt, hw10, hX, r0, h6, r4, rv5, hv32, hvm, hmrow, hm2', hev, hbqr, zp6]; done)) | rfl); (simp; rfl))))
        exact ⟨(k + 1, H10, f9, ins9, rd9 + 1), rfl, ⟨by dsimp only; omega, hin10, by dsimp only; omega, hfold9⟩, by dsimp only; omega, by simp [-getElem?_pos, -List.reduceReplicate, hvk, hv0, hov, htv', hvm]⟩
       ·have hev := zne hRC.isv ha2 (Ne.symm he)
        repeat (first | apply Wp.za | apply Wp.zb | apply Wp.zc | apply Wp.zd | apply Wp.ze | apply Wp.zf rfl | apply Wp.zg rfl | ((apply Wp.zh; (repeat (apply Ex.zc; (simp (disch := omega) [-getElem?_pos, -List.reduceReplicate, hvk, hkrow9, hk3, hv0, hrrow9, hr2, r5, rt, hw10, hX, r0, h6, r4, rv5, hv32, hvm, hmrow, hm2', hev, hbqr, hbqm, hF10, hF0, hF35, zp6]; rfl))); exact Ex.zn; rfl; (simp; rfl))) | ((apply Wp.zi; (repeat ((first | apply Dr.q rfl rfl | apply Dr.r rfl rfl | apply Dr.imm rfl); (simp (disch := omega) [-getElem?_pos, -List.reduceReplicate, hvk, hkrow9, hk3, hv0, hrrow9, hr2, r5, rt, hw10, hX, r0, h6, r4, rv5, hv32, hvm, hmrow, hm2', hev, hbqr, hbqm, hF10, hF0, hF35, zp6]; rfl); (focus first | (simp; rfl) | (simp [-List.reduceReplicate]; done) | (simp [-List.reduceReplicate]; omega)))); exact Dr.nil; rfl; (first | (focus (simp (disch := omega) [-getElem?_pos, -List.reduceReplicate, hvk, hkrow9, hk3, hv0, hrrow9, hr2, r5, rt, hw10, hX, r0, h6, r4, rv5, hv32, hvm, hmrow, hm2', hev, hbqr, hbqm, hF10, hF0, hF35, zp6]; done)) | rfl); (simp; rfl))))
        exact ⟨(k + 1, H10, f9, ins9, rd9 + 1), rfl, ⟨by dsimp only; omega, hin10, by dsimp only; omega, hfold9⟩, by dsimp only; omega, by simp [-getElem?_pos, -List.reduceReplicate, hvk, hv0, hov, htv', hvm]⟩
      | true =>
       have hF0 : f9.cells[0]? = some (zzt true) := by rw [← hg]; rfl
       by_cases he : atM ins9 bq = r.val
       ·have hst : zv5 pn (f9, ins9, rd9) r = (f9, ins9, rd9 + 1) := by simp [-getElem?_pos, -List.reduceReplicate, zv5, h6, hg, hbq, he]
        rw [hst] at hfold9
        rw [he] at hm2'
        have hev := zj7 hRC.isv
        repeat (first | apply Wp.za | apply Wp.zb | apply Wp.zc | apply Wp.zd | apply Wp.ze | apply Wp.zf rfl | apply Wp.zg rfl | ((apply Wp.zh; (repeat (apply Ex.zc; (simp (disch := omega) [-getElem?_pos, -List.reduceReplicate, hvk, hkrow9, hk3, hv0, hrrow9, hr2, r5, rt, hw10, hX, r0, h6, r4, rv5, hv32, hvm, hmrow, hm2', hev, hbqr, zp6]; rfl))); exact Ex.zn; rfl; (simp; rfl))) | ((apply Wp.zi; (repeat ((first | apply Dr.q rfl rfl | apply Dr.r rfl rfl | apply Dr.imm rfl); (simp (disch := omega) [-getElem?_pos, -List.reduceReplicate, hvk, hkrow9, hk3, hv0, hrrow9, hr2, r5, rt, hw10, hX, r0, h6, r4, rv5, hv32, hvm, hmrow, hm2', hev, hbqr, zp6]; rfl); (focus first | (simp; rfl) | (simp [-List.reduceReplicate]; done) | (simp [-List.reduceReplicate]; omega)))); exact Dr.nil; rfl; (first | (focus (simp (disch := omega) [-getElem?_pos, -List.reduceReplicate, hvk, hkrow9, hk3, hv0, hrrow9, hr2, r5, rt, hw10, hX, r0, h6, r4, rv5, hv32, hvm, hmrow, hm2', hev, hbqr, zp6]; done)) | rfl); (simp; rfl))))
        exact ⟨(k + 1, H10, f9, ins9, rd9 + 1), rfl, ⟨by dsimp only; omega, hin10, by dsimp only; omega, hfold9⟩, by dsimp only; omega, by simp [-getElem?_pos, -List.reduceReplicate, hvk, hv0, hov, htv', hvm]⟩
       ·have hst : zv5 pn (f9, ins9, rd9) r = (⟨false, pn, rd9, atM ins9 bq⟩, ins9, rd9 + 1) := by simp [-getElem?_pos, -List.reduceReplicate, zv5, h6, hg, hbq, he]
        rw [hst] at hfold9
        have hev := zne hRC.isv ha2 (Ne.symm he)
        obtain ⟨H11, hw11, hin11, hn11⟩ := hin10.setF (g := ⟨false, pn, rd9, atM ins9 bq⟩) ha2
        have hov9 : H10.rowAt Ro vo = some co := by rw [g10.rowAt (by have := hol _ _ _ _ _ _ _ hov; have := hg02.next; have := hg27.next; omega), zzk, hgr Ro (by have := hol _ _ _ _ _ _ _ hov; have := hg02.next; omega), ← hg26.get Ro (by have := hol _ _ _ _ _ _ _ hov; have := hg02.next; omega), ← zzk]; exact horow
        have hq32 := ha2.len
        simp only [zyw.cells] at hw11
        repeat (first | apply Wp.za | apply Wp.zb | apply Wp.zc | apply Wp.zd | apply Wp.ze | apply Wp.zf rfl | apply Wp.zg rfl | ((apply Wp.zh; (repeat (apply Ex.zc; (simp (disch := omega) [-getElem?_pos, -List.reduceReplicate, hvk, hkrow9, hk3, hv0, hrrow9, hr2, r5, rt, hw10, hX, r0, h6, r4, rv5, hv32, hvm, hmrow, hm2', hev, hbqr, hbqm, hF10, hF0, hF35, hov, hov9, ho3, hq32, zzm, zx1, hw11, zp6]; rfl))); exact Ex.zn; rfl; (simp; rfl))) | ((apply Wp.zi; (repeat ((first | apply Dr.q rfl rfl | apply Dr.r rfl rfl | apply Dr.imm rfl); (simp (disch := omega) [-getElem?_pos, -List.reduceReplicate, hvk, hkrow9, hk3, hv0, hrrow9, hr2, r5, rt, hw10, hX, r0, h6, r4, rv5, hv32, hvm, hmrow, hm2', hev, hbqr, hbqm, hF10, hF0, hF35, hov, hov9, ho3, hq32, zzm, zx1, hw11, zp6]; rfl); (focus first | (simp; rfl) | (simp [-List.reduceReplicate]; done) | (simp [-List.reduceReplicate]; omega)))); exact Dr.nil; rfl; (first | (focus (simp (disch := omega) [-getElem?_pos, -List.reduceReplicate, hvk, hkrow9, hk3, hv0, hrrow9, hr2, r5, rt, hw10, hX, r0, h6, r4, rv5, hv32, hvm, hmrow, hm2', hev, hbqr, hbqm, hF10, hF0, hF35, hov, hov9, ho3, hq32, zzm, zx1, hw11, zp6]; done)) | rfl); (simp; rfl))))
        exact ⟨(k + 1, H11, ⟨false, pn, rd9, atM ins9 bq⟩, ins9, rd9 + 1), rfl, ⟨by dsimp only; omega, hin11, by dsimp only; omega, hfold9⟩, by dsimp only; omega, by simp [-getElem?_pos, -List.reduceReplicate, hvk, hv0, hov, htv', hvm]⟩
    ·intro hkl'
     apply Wp.ze
     have : (zqt rows txs pn).drop k = [] := List.drop_of_length_le (by omega)
     rw [this, List.foldl_nil] at hfold9
     rw [zcd hfold9.symm] at hfold
     have hbt := hin9.done (hb6.grow.trans hg67) hb6.hF.1
     repeat (first | apply Wp.za | apply Wp.zb | apply Wp.zc | apply Wp.zd | apply Wp.ze | apply Wp.zf rfl | apply Wp.zg rfl | ((apply Wp.zh; (repeat (apply Ex.zc; (simp (disch := omega) [-getElem?_pos, -List.reduceReplicate]; rfl))); exact Ex.zn; rfl; (simp; rfl))))
     exact ⟨(i + 1, H9, v19, f9, ins9), rfl, ⟨by dsimp only; omega, hbt, hfold⟩, by dsimp only; omega, by simp [-getElem?_pos, -List.reduceReplicate, hov, htv']⟩
   ·intro hil
    apply Wp.ze
    have : order.drop i = [] := List.drop_of_length_le (by omega)
    rw [this, List.foldl_nil] at hfold
    have hbd : byD rows q order = .ok (f6, mm6.take q) := by
     unfold byD; rw [if_neg (by simpa [-getElem?_pos, -List.reduceReplicate] using hm), ht]; simp only [if_pos hokO, ← hfold]; rfl
    have hF6 := hb6.cf.at
    have hF35 : f6.cells.length = 35 := by simp [-getElem?_pos, -List.reduceReplicate, zyw.cells, hb6.fw.len]
    have hFt : f6.cells.take 35 = f6.cells := List.take_of_length_le (by omega)
    have hg36 := hb6.grow
    have hg06 : Grow H H6 := hg02.trans (hg3.trans hg36)
    have hB6 : Cells H6 H.next zwj := by unfold Cells; rw [(hg2.trans (hg3.trans hg36)).get _ (by omega)]; exact hB1
    obtain ⟨H7, hH7⟩ : ∃ H7, H7 = H6.set H.next (.row [some (0, f6.cells)]) := ⟨_, rfl⟩
    have hw7 : H6.write H.next 0 0 f6.cells = some H7 := by
     rw [hH7, Cells.write hB6 (by omega) (by simp [-getElem?_pos, -List.reduceReplicate, hF35]) (by simp only [zyw.cells, List.all_cons, hb6.fw.one, Bool.and_true]; rfl)]
     have : spl zwj 0 f6.cells = f6.cells := by
      simp only [spl, List.take_zero, List.nil_append, Nat.zero_add, hF35]; simp [-getElem?_pos, -List.reduceReplicate]
     rw [this]
    have hz7 : H7.rowAt H.next 0 = some f6.cells := by rw [hH7]; simp [-getElem?_pos, -List.reduceReplicate]
    have hn07 := hg2.next
    have hn23 := hg3.next
    repeat (first | apply Wp.za | apply Wp.zb | apply Wp.zc | apply Wp.zd | apply Wp.ze | apply Wp.zf rfl | apply Wp.zg rfl | ((apply Wp.zh; (repeat (apply Ex.zc; (simp (disch := omega) [-getElem?_pos, -List.reduceReplicate, hF6, hF35, hFt, hw7, hz7]; rfl))); exact Ex.zn; rfl; (simp; rfl))))
    simp [-getElem?_pos, -List.reduceReplicate, a28, hz7, hFt, hF35]
    rw [hbd]
    refine ⟨by rw [hH7]; exact hg06.set (Nat.le_refl _) _, v15, rfl, hb6.rd.move fun R ver off len kc ex e => ?_, fun R ver off len kc ex esz e => (by have := hb6.lies _ _ _ _ _ _ _ e; exact ⟨by omega, by rw [hH7]; show R < H6.next; omega⟩), hb6.fw, fun e he => hb6.pm.val e (List.mem_of_mem_take he)⟩
    have := hb6.lies _ _ _ _ _ _ _ e
    rw [zzk, zzk, hH7, zz6.zzz _ _ (by omega)]
end Go.Proofs.Ythbjfkkjmecaaaa
