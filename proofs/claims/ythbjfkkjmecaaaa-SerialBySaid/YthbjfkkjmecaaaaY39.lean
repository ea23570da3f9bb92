/- Walks: the same rows; rows held as they were. -/
import Derived.Test.YthbjfkkjmecaaaaY38
set_option linter.unusedVariables false
set_option linter.unusedSimpArgs false
namespace Go.Proofs.Ythbjfkkjmecaaaa
open Go Go.Vm
variable {kn : zy0} {env : Nat → Option zzq}
variable {H H' H1 : zz6} {N R ver : Nat} {v w sv : AVal} {rows : List RowD} {rc : List AVal} {r : RowD} {vs : zuq} {rcs : List (List AVal)}
structure HdE (kn : zy0) (env : Nat → Option zzq) : Prop where
 f20 : Fn kn env 20 a20
 f31 : Fn kn env 31 a31
 f83 : Fn kn env 83 a83
 f58 : Fn kn env 58 a58
 f23 : Fn kn env 23 a23
theorem zwz.at (h : zwz H H.next v rows) {H' : zz6} (hg : Grow H H') {k : Nat} (hr : rows[k]? = some r) : ∃ R ver off kc ex cells rc sv, v = .slice R ver off rows.length kc ex 41 ∧ R < H.next ∧ H'.rowAt R ver = some cells ∧ off + k * 41 + 41 ≤ cells.length ∧ (cells.drop (off + k * 41)).take 41 = rc ∧ RowC rc r ∧ rc[40]? = some sv ∧ RdE H' 1 sv (ints r.set) ∧ (sv.lies (· < H'.next)) ∧ r.set.length * 8 ≤ 140737488355328 := by
 obtain ⟨rcs, hrd, hlies, hrlen, hat⟩ := h
 obtain ⟨rc, hrc⟩ : ∃ rc, rcs[k]? = some rc := ⟨_, List.getElem?_eq_getElem (by have := (List.getElem?_eq_some_iff.1 hr).1; omega)⟩
 obtain ⟨q1, sv, q2⟩ := hat k rc r hrc hr
 obtain ⟨R, ver, off, kc, ex, cells, e1, e2, e3, e4⟩ := hrd.at hrc
 rw [hrlen] at e1
 have hR := hlies _ _ _ _ _ _ _ e1
 exact ⟨R, ver, off, kc, ex, cells, rc, sv, e1, hR, by rw [hg.rowAt hR]; exact e2, e3, e4, q1, q2.at_, q2.rd.grow hg q2.lies, fun R ver off len kc ex esz e => by have := q2.lies _ _ _ _ _ _ _ e; have := hg.next; omega, q2.len⟩
theorem zwz.lenS (h : zwz H N v rows) : zyy v = some (vi rows.length) := by
 obtain ⟨rcs, hrd, _, hrlen, _⟩ := h
 rw [← hrlen]; exact hrd.lenS
theorem set8 {n : Nat} (h : n * 8 ≤ 140737488355328) : n ≤ 17592186044416 := by
 have h2 : n * 8 ≤ 17592186044416 * 8 := h
 exact Nat.le_of_mul_le_mul_right h2 (by decide)
theorem zhy : ∀ {xs : List AVal}, (∀ x ∈ xs, AVal.beq x x = true) → AVal.beqs xs xs = true
 | [], _ => by simp [-getElem?_pos]
 | x :: xs, h => by simp [-getElem?_pos, h x (List.mem_cons_self ..), zhy fun y hy => h y (List.mem_cons_of_mem _ hy)]
theorem RowC.beqs (h : RowC rc r) (h40 : rc[40]? = some sv) (hs : AVal.beq sv sv = true) : AVal.beqs rc rc = true := zhy fun x hx => by
 obtain ⟨k, hk⟩ := List.mem_iff_getElem?.1 hx
 have hl := h.len
 have hkl := (List.getElem?_eq_some_iff.1 hk).1
 by_cases q : 5 ≤ k ∧ k < 37
 ·have : r.val[k - 5]? = some x := by
   rw [← h.av, List.getElem?_take, if_pos (by omega), List.getElem?_drop, show 5 + (k - 5) = k by omega]; exact hk
  obtain ⟨n, rfl⟩ := h.isv.bytes x (List.mem_of_getElem? this)
  simp [-getElem?_pos]
 ·obtain rfl | rfl | rfl | rfl | rfl | rfl | rfl | rfl | rfl : k = 0 ∨ k = 1 ∨ k = 2 ∨ k = 3 ∨ k = 4 ∨ k = 37 ∨ k = 38 ∨ k = 39 ∨ k = 40 := by omega
  ·rw [h.a0] at hk; cases hk; simp [-getElem?_pos]
  ·rw [h.a1] at hk; cases hk; simp [-getElem?_pos]
  ·rw [h.a2] at hk; cases hk; simp [-getElem?_pos]
  ·rw [h.a3] at hk; cases hk; simp [-getElem?_pos]
  ·rw [h.a4] at hk; cases hk; simp [-getElem?_pos]
  ·rw [h.a37] at hk; cases hk; simp [-getElem?_pos]
  ·rw [h.a38] at hk; cases hk; simp [-getElem?_pos]
  ·rw [h.a39] at hk; cases hk; simp [-getElem?_pos]
  ·rw [h40] at hk; cases hk; exact hs
set_option maxHeartbeats 2000000 in
theorem c58 (E : HdE kn env) (n : Nat) (h1 : zwz H H.next v rows) (h2 : zwz H H.next w rows) (hm : rows.length < 400000000000) (hn : rows.length < n) (hs : ∀ r ∈ rows, r.set.length < n) :
  ∃ v' H', zzp kn env (n + 2) (.func (.func 58) []) [v, w] H = some (v', H') ∧ (v' = zzt true ∧ Grow H H') := by
 have hl1 := h1.lenS
 have hl2 := h2.lenS
 refine Wp.call 29 [0, 1, 4, 5, 6, 11, 15, 28] E.f58.e (E.f58.no _ H) (n := n + 1) rfl (by simp) ?_
 repeat (first | apply Wp.za | apply Wp.zb | apply Wp.zc | apply Wp.zd | apply Wp.ze | apply Wp.zf rfl | apply Wp.zg rfl | ((apply Wp.zh; (repeat (apply Ex.zc; (simp (disch := omega) [-getElem?_pos, hl1, hl2]; rfl))); exact Ex.zn; rfl; (simp; rfl))))
 apply Wp.loop (α := Nat × zz6) (fun y => [(0, v), (1, w), (5, vi y.1)]) (·.2) (fun y => y.1 ≤ rows.length ∧ Grow H y.2) (fun y => rows.length - y.1) (0, H) rfl ⟨Nat.zero_le _, Grow.refl _⟩ (by dsimp only; omega) (by simp)
 rintro ⟨j, H1⟩ ⟨hj, hg⟩
 dsimp only at hj hg ⊢
 (repeat (first | apply Wp.za | apply Wp.zb)); (apply Wp.zh; (repeat (apply Ex.zc; (simp (disch := omega) [-getElem?_pos, hl1]; rfl))); exact Ex.zn; rfl; (simp; rfl))
 (repeat (first | apply Wp.za | apply Wp.zb)); apply Wp.ite rfl
 ·intro hjl
  apply Wp.zd
  obtain ⟨r, hr⟩ : ∃ r, rows[j]? = some r := ⟨_, List.getElem?_eq_getElem (by omega)⟩
  obtain ⟨R1, v1, o1, k1, x1, c1, rc1, s1, e1, _, e3, e4, e5, e6, e7, e8, e9, e10⟩ := h1.at hg hr
  obtain ⟨R2, v2, o2, k2, x2, c2, rc2, s2, g1, _, g3, g4, g5, g6, g7, g8, g9, g10⟩ := h2.at hg hr
  have hset := set8 e10
  obtain ⟨v', H2, hc, rfl, hg2⟩ := c83 E.f83 n e6 g6 e7 g7 e8 g8 e9 g9 (by omega) (hs r (List.mem_of_getElem? hr))
  have hn2 := hg2.next
  clear e10 g10
  have l1 := e6.len
  have l2 := g6.len
  have b1 := e6.beqs e7 e8.beq
  have b2 := g6.beqs g7 g8.beq
  repeat (first | apply Wp.za | apply Wp.zb | apply Wp.zc | apply Wp.zd | apply Wp.ze | apply Wp.zf rfl | apply Wp.zg rfl | ((apply Wp.zh; (repeat (apply Ex.zc; (simp (disch := omega) [-getElem?_pos, e1, e3, e5, g1, g3, g5, l1, l2, b1, b2, hc]; rfl))); exact Ex.zn; rfl; (simp; rfl))) | ((apply Wp.zi; (repeat ((first | apply Dr.q rfl rfl | apply Dr.r rfl rfl | apply Dr.imm rfl); (simp (disch := omega) [-getElem?_pos, e1, e3, e5, g1, g3, g5, l1, l2, b1, b2, hc]; rfl); (focus first | (simp; rfl) | (simp; done) | (simp; omega)))); exact Dr.nil; rfl; (first | (focus (simp (disch := omega) [-getElem?_pos, e1, e3, e5, g1, g3, g5, l1, l2, b1, b2, hc]; done)) | rfl); (simp; rfl))))
  exact ⟨(j + 1, H2), rfl, ⟨by dsimp only; omega, hg.trans hg2⟩, by dsimp only; omega, by simp [-getElem?_pos, e1, g1]⟩
 ·intro hjl
  apply Wp.ze
  repeat (first | apply Wp.za | apply Wp.zb | apply Wp.zc | apply Wp.zd | apply Wp.ze | apply Wp.zf rfl | apply Wp.zg rfl | ((apply Wp.zh; (repeat (apply Ex.zc; (simp (disch := omega) [-getElem?_pos]; rfl))); exact Ex.zn; rfl; (simp; rfl))))
  simp [-getElem?_pos, a58]
  exact hg
set_option maxHeartbeats 2000000 in
theorem c23 (E : HdE kn env) (n : Nat) (h1 : zs0 H N v rows R ver vs rcs) (h2 : zwz H H.next w rows) (hm : rows.length < 400000000000) (hn : rows.length < n) (hs : ∀ r ∈ rows, r.set.length < n) :
  ∃ v' H', zzp kn env (n + 3) (.func (.func 23) []) [v, w] H = some (v', H') ∧ (v' = zzt true ∧ Grow H H') := by
 have hl2 := h2.lenS
 have hra := h1.rowsAt
 obtain ⟨v58, H1, h58, rfl, hg⟩ := c58 E n hra h2 hm hn hs
 have hv := h1.val
 have hrow := h1.row
 have hrl := h1.len
 have hfl := zy1 h1.lens
 have hgl : ((rcs ++ [yqr]).flatten).length = (rows.length + 1) * 41 := by rw [List.flatten_append, List.length_append, hfl, hrl]; simp [-getElem?_pos]; omega
 have hm7 : ((rcs ++ [yqr]).flatten)[rows.length * 41]? = some (vi 7777) := by
  rw [List.flatten_append, List.getElem?_append_right (by omega), hfl, hrl, Nat.sub_self]; rfl
 obtain ⟨cs, hcs⟩ : ∃ cs, cs = (rcs ++ [yqr]).flatten := ⟨_, rfl⟩
 rw [← hcs] at hrow hgl hm7
 obtain ⟨L1, hL1⟩ : ∃ L1, L1 = rows.length + 1 := ⟨_, rfl⟩
 have q1 : (rows.length : Int) + 1 = (L1 : Int) := by omega
 rw [hv] at h58
 refine Wp.call 41 [0, 1, 4, 5, 22, 26, 40] E.f23.e (E.f23.no _ H) (n := n + 2) rfl (by simp) ?_
 rw [hv]
 repeat (first | apply Wp.za | apply Wp.zb | apply Wp.zc | apply Wp.zd | apply Wp.ze | apply Wp.zf rfl | apply Wp.zg rfl | ((apply Wp.zh; (repeat (apply Ex.zc; (simp (disch := omega) [-getElem?_pos, hl2, zye, zy7, zxz, q1, hrow, hgl, hm7, h58]; rfl))); exact Ex.zn; rfl; (simp; rfl))))
 apply Wp.loop (α := Nat) (fun y => [(0, v), (1, w), (5, vi y)]) (fun _ => H1) (fun y => y ≤ rows.length) (fun y => rows.length - y) 0 rfl (Nat.zero_le _) (by omega) (by simp [-getElem?_pos, hv])
 rintro j hj
 (repeat (first | apply Wp.za | apply Wp.zb)); (apply Wp.zh; (repeat (apply Ex.zc; (simp (disch := omega) [-getElem?_pos, hl2]; rfl))); exact Ex.zn; rfl; (simp; rfl))
 (repeat (first | apply Wp.za | apply Wp.zb)); apply Wp.ite rfl
 ·intro hjl
  apply Wp.zd
  obtain ⟨r, hr⟩ : ∃ r, rows[j]? = some r := ⟨_, List.getElem?_eq_getElem (by omega)⟩
  obtain ⟨rc, hrc⟩ : ∃ rc, rcs[j]? = some rc := ⟨_, List.getElem?_eq_getElem (by omega)⟩
  obtain ⟨R2, v2, o2, k2, x2, c2, rc2, s2, g1, _, g3, g4, g5, g6, g7, g8, g9, g10⟩ := h2.at hg hr
  have h1' := h1.move hg
  obtain ⟨q1, s1, q2, q3, _, _⟩ := h1'.each j rc r hrc hr
  obtain ⟨R1, v1, o1, k1, x1, c1, rc1, s1', e1, _, e3, e4, e5, e6, e7, _⟩ := h1'.rowsAt.at (Grow.refl _) hr
  have hset := set8 g10
  have f1 := zk5 e5 (j := 40) (by omega)
  have f2 := zk5 g5 (j := 40) (by omega)
  rw [e7] at f1
  rw [g7] at f2
  have hroom : zyt H1 N s1' r.set := by
   obtain ⟨rcs', hrd, hlies, hrlen, hat⟩ := h1'.rowsAt
   have hrc1 : rc1 = rc := by
    obtain ⟨R3, v3, o3, k3, x3, c3, d1, d2, d3, d4⟩ := (show RdE H1 41 v rcs from by
     have hl := zy1 h1'.lens
     exact ⟨h1'.lens, .inr ⟨R, ver, 0, rows.length + 1, false, _, by rw [h1'.val, h1'.len], h1'.row, by rw [h1'.len]; omega, by rw [List.flatten_append, List.length_append, hl]; omega, by rw [List.drop_zero, List.flatten_append, List.take_left' hl]⟩⟩).at hrc
    rw [h1'.len] at d1
    rw [d1] at e1; cases e1
    rw [d2] at e3; cases e3
    rw [d4] at e5; exact e5.symm
   rw [hrc1, q2] at e7; cases e7; exact q3
  have hc := c31 E.f31 E.f20 n hroom g8 (by omega) (hs r (List.mem_of_getElem? hr))
  have b1 := hroom.rd.beq
  have b2 := g8.beq
  clear g10
  repeat (first | apply Wp.za | apply Wp.zb | apply Wp.zc | apply Wp.zd | apply Wp.ze | apply Wp.zf rfl | apply Wp.zg rfl | ((apply Wp.zh; (repeat (apply Ex.zc; (simp (disch := omega) [-getElem?_pos, e1, e3, f1, g1, g3, f2, b1, b2, hc]; rfl))); exact Ex.zn; rfl; (simp; rfl))) | ((apply Wp.zi; (repeat ((first | apply Dr.q rfl rfl | apply Dr.r rfl rfl | apply Dr.imm rfl); (simp (disch := omega) [-getElem?_pos, e1, e3, f1, g1, g3, f2, b1, b2, hc]; rfl); (focus first | (simp; rfl) | (simp; done) | (simp; omega)))); exact Dr.nil; rfl; (first | (focus (simp (disch := omega) [-getElem?_pos, e1, e3, f1, g1, g3, f2, b1, b2, hc]; done)) | rfl); (simp; rfl))))
  exact ⟨j + 1, rfl, by omega, by omega, by simp [-getElem?_pos, e1, g1]⟩
 ·intro hjl
  apply Wp.ze
  repeat (first | apply Wp.za | apply Wp.zb | apply Wp.zc | apply Wp.zd | apply Wp.ze | apply Wp.zf rfl | apply Wp.zg rfl | ((apply Wp.zh; (repeat (apply Ex.zc; (simp (disch := omega) [-getElem?_pos]; rfl))); exact Ex.zn; rfl; (simp; rfl))))
  simp [-getElem?_pos, a23]
  exact hg
end Go.Proofs.Ythbjfkkjmecaaaa
