/- Walks: want, of, end, the two tests. -/
import Derived.Test.YthbjfkkjmecaaaaY19
import Derived.Test.YthbjfkkjmecaaaaY20
set_option linter.unusedVariables false
set_option linter.unusedSimpArgs false
namespace Go.Proofs.Ythbjfkkjmecaaaa
open Go Go.Vm
section
variable {kn : zy0} {env : Nat → Option zzq}
variable {H H' : zz6} {N B M clock i : Nat} {b : List TxD} {tv sv rv wv : AVal} {es : zzb} {tvs : List (List AVal)} {o o' : Nat → Nat} {e : List AVal} {x : TxD} {r : RowD} {rc : List AVal}
structure Fn (kn : zy0) (env : Nat → Option zzq) (f : Nat) (af : zzq) : Prop where
 e : env f = some af
 no : ∀ args H, kn f args H = none
theorem _root_.Go.Vm.Cells.put2 {A : Nat} {a b c d : AVal} (h : Cells H A [a, b, c]) (hd : d.one = true) : H.write A 0 2 [d] = some (H.set A (.row [some (0, [a, b, d])])) := by
 rw [Cells.write h (by simp) (by simp) (by simp [-getElem?_pos, hd])]; simp [-getElem?_pos, spl]
theorem _root_.Go.Vm.Cells.put0 {A : Nat} {a b c d : AVal} (h : Cells H A [a, b, c]) (hd : d.one = true) : H.write A 0 0 [d] = some (H.set A (.row [some (0, [d, b, c])])) := by
 rw [Cells.write h (by simp) (by simp) (by simp [-getElem?_pos, hd])]; simp [-getElem?_pos, spl]
def ykb (H : zz6) (B : Nat) : Prop := ∃ a c, Cells H B [a, c, zzt true]
theorem yk3 (h : Fn kn env 110 a110) (n : Nat) {a c : AVal} {bad is : Bool} (hc : Cells H B [a, c, zzt bad]) :
  zzp kn env (n + 1) (.func (.func 110) []) [vp B, zzt is] H = some (zzt is, H.set B (.row [some (0, [a, c, zzt (bad || !is)])])) := by
 have h1 := hc.at
 have h2 := fun d => hc.put2 (d := zzt d) rfl
 refine Wp.call1 17 [0, 1, 4] h.e (h.no _ _) rfl (by simp) ?_
 cases bad
 ·cases is
  ·repeat (first | apply Wp.za | apply Wp.zb | apply Wp.zc | apply Wp.zd | apply Wp.ze | apply Wp.zf rfl | apply Wp.zg rfl | ((apply Wp.zh; (repeat (apply Ex.zc; (simp (disch := omega) [-getElem?_pos, h1, h2]; rfl))); exact Ex.zn; rfl; (simp; rfl))))
   simp [-getElem?_pos, a110]
  ·repeat (first | apply Wp.za | apply Wp.zb | apply Wp.zc | apply Wp.zd | apply Wp.ze | apply Wp.zf rfl | apply Wp.zg rfl | ((apply Wp.zh; (repeat (apply Ex.zc; (simp (disch := omega) [-getElem?_pos, h1, h2]; rfl))); exact Ex.zn; rfl; (simp; rfl))))
   simp [-getElem?_pos, a110]
 ·cases is
  ·repeat (first | apply Wp.za | apply Wp.zb | apply Wp.zc | apply Wp.zd | apply Wp.ze | apply Wp.zf rfl | apply Wp.zg rfl | ((apply Wp.zh; (repeat (apply Ex.zc; (simp (disch := omega) [-getElem?_pos, h1, h2]; rfl))); exact Ex.zn; rfl; (simp; rfl))))
   simp [-getElem?_pos, a110]
  ·repeat (first | apply Wp.za | apply Wp.zb | apply Wp.zc | apply Wp.zd | apply Wp.ze | apply Wp.zf rfl | apply Wp.zg rfl | ((apply Wp.zh; (repeat (apply Ex.zc; (simp (disch := omega) [-getElem?_pos, h1, h2]; rfl))); exact Ex.zn; rfl; (simp; rfl))))
   simp [-getElem?_pos, a110]
theorem yx9 (h : Fn kn env 110 a110) (n : Nat) {a c : AVal} (hc : Cells H B [a, c, zzt false]) : zzp kn env (n + 1) (.func (.func 110) []) [vp B, zzt true] H = some (zzt true, H) := by
 rw [yk3 h n hc]
 congr 2
 exact zz6.set_self hc
theorem c112 (h : Fn kn env 112 a112) (h110 : Fn kn env 110 a110) (n : Nat) (hb : Bk H N B b tv M es clock tvs o) (hr : RowC rc r) :
  match ofB b r with
  | some k => ∃ R ver, tv = .slice R ver 0 b.length b.length false 12 ∧ zzp kn env (n + 2) (.func (.func 112) []) [vp B, .agg rc] H = some (.ptr R ver (k * 12), H.push (.row [some (0, rc)]))
  | none => zzp kn env (n + 2) (.func (.func 112) []) [vp B, .agg rc] H = some (.raw (.pointer none), (H.push (.row [some (0, rc)])).set B (.row [some (0, [tv, .map M, zzt true])])) := by
 have hb2 := hb.grow (Grow.push H (.row [some (0, rc)]))
 have hcl := hb2.cells
 have h1 := hcl.at
 have hm := hb2.map
 have hBn := hb.hB.2
 have hMn := hb.hM.2
 have hB1 := hb.cells.at
 have hM1 := hb.map
 have hL : 41 = rc.length := hr.len.symm
 have r2 := hr.a2; have r3 := hr.a3; have r5 := hr.len
 have w1 := yk3 h110 n hcl (is := false)
 have w2 := yx9 h110 n hcl
 have hf := hb.ok.find r.actor
 unfold ofB
 cases hc : zy5 b r.actor with
 | none =>
  rw [hc] at hf
  simp only at hf
  simp only [Option.bind_none]
  refine Wp.call1 51 [0, 1, 3, 4, 5, 6, 44] h.e (h.no _ _) rfl (by simp) ?_
  repeat (first | apply Wp.za | apply Wp.zb | apply Wp.zc | apply Wp.zd | apply Wp.ze | apply Wp.zf rfl | apply Wp.zg rfl | ((apply Wp.zh; (repeat (apply Ex.zc; (simp (disch := omega) [-getElem?_pos, hB1, hM1, h1, hm, r2, r3, r5, w1, hf, zzr, zzs]; rfl))); exact Ex.zn; rfl; (simp; rfl))) | ((apply Wp.zi; (repeat ((first | apply Dr.q rfl rfl | apply Dr.r rfl rfl | apply Dr.imm rfl); (simp (disch := omega) [-getElem?_pos, hB1, hM1, h1, hm, r2, r3, r5, w1, hf, zzr, zzs]; rfl); (focus first | (simp; rfl) | (simp; done) | (simp; omega)))); exact Dr.nil; rfl; (simp (disch := omega) [-getElem?_pos, hB1, hM1, h1, hm, r2, r3, r5, w1, hf, zzr, zzs]); (simp; rfl))))
  simp [-getElem?_pos, a112]
 | some k =>
  rw [hc] at hf
  simp only at hf
  obtain ⟨p, bn, hp, hf⟩ := hf
  obtain ⟨hk1, hk2⟩ := zqb hc
  obtain ⟨x, hx, hon⟩ := zxd.1 hk1
  obtain ⟨R, ver, cells, sv, rv, wv, rfl, hR1, hR2, hR3, hrow, hlen, hcell, _, _⟩ := hb.tx hx
  have hkl := (List.getElem?_eq_some_iff.1 hx).1
  have g2 := hcell 2 (by omega)
  have g7 := hcell 7 (by omega)
  simp only [txc, List.getElem?_cons_succ, List.getElem?_cons_zero] at g2 g7
  simp only [Option.bind_some, hx]
  by_cases ht : x.ticket = r.ticket
  ·by_cases ha : x.asked < 0
   ·rw [if_pos ⟨ht, ha⟩]
    refine ⟨R, ver, rfl, ?_⟩
    refine Wp.call1 51 [0, 1, 3, 4, 5, 6, 44] h.e (h.no _ _) rfl (by simp) ?_
    repeat (first | apply Wp.za | apply Wp.zb | apply Wp.zc | apply Wp.zd | apply Wp.ze | apply Wp.zf rfl | apply Wp.zg rfl | ((apply Wp.zh; (repeat (apply Ex.zc; (simp (disch := omega) [-getElem?_pos, hB1, hM1, h1, hm, r2, r3, r5, w2, hf, zzr, zzs, hrow, g2, g7, ht]; rfl))); exact Ex.zn; rfl; (simp; rfl))) | ((apply Wp.zi; (repeat ((first | apply Dr.q rfl rfl | apply Dr.r rfl rfl | apply Dr.imm rfl); (simp (disch := omega) [-getElem?_pos, hB1, hM1, h1, hm, r2, r3, r5, w2, hf, zzr, zzs, hrow, g2, g7, ht]; rfl); (focus first | (simp; rfl) | (simp; done) | (simp; omega)))); exact Dr.nil; rfl; (simp (disch := omega) [-getElem?_pos, hB1, hM1, h1, hm, r2, r3, r5, w2, hf, zzr, zzs, hrow, g2, g7, ht]); (simp; rfl))))
    simp [-getElem?_pos, a112]
   ·rw [if_neg fun h => ha h.2]
    refine Wp.call1 51 [0, 1, 3, 4, 5, 6, 44] h.e (h.no _ _) rfl (by simp) ?_
    repeat (first | apply Wp.za | apply Wp.zb | apply Wp.zc | apply Wp.zd | apply Wp.ze | apply Wp.zf rfl | apply Wp.zg rfl | ((apply Wp.zh; (repeat (apply Ex.zc; (simp (disch := omega) [-getElem?_pos, hB1, hM1, h1, hm, r2, r3, r5, w1, hf, zzr, zzs, hrow, g2, g7, ht]; rfl))); exact Ex.zn; rfl; (simp; rfl))) | ((apply Wp.zi; (repeat ((first | apply Dr.q rfl rfl | apply Dr.r rfl rfl | apply Dr.imm rfl); (simp (disch := omega) [-getElem?_pos, hB1, hM1, h1, hm, r2, r3, r5, w1, hf, zzr, zzs, hrow, g2, g7, ht]; rfl); (focus first | (simp; rfl) | (simp; done) | (simp; omega)))); exact Dr.nil; rfl; (simp (disch := omega) [-getElem?_pos, hB1, hM1, h1, hm, r2, r3, r5, w1, hf, zzr, zzs, hrow, g2, g7, ht]); (simp; rfl))))
    simp [-getElem?_pos, a112]
  ·rw [if_neg fun h => ht h.1]
   refine Wp.call1 51 [0, 1, 3, 4, 5, 6, 44] h.e (h.no _ _) rfl (by simp) ?_
   repeat (first | apply Wp.za | apply Wp.zb | apply Wp.zc | apply Wp.zd | apply Wp.ze | apply Wp.zf rfl | apply Wp.zg rfl | ((apply Wp.zh; (repeat (apply Ex.zc; (simp (disch := omega) [-getElem?_pos, hB1, hM1, h1, hm, r2, r3, r5, w1, hf, zzr, zzs, hrow, g2, g7, ht]; rfl))); exact Ex.zn; rfl; (simp; rfl))) | ((apply Wp.zi; (repeat ((first | apply Dr.q rfl rfl | apply Dr.r rfl rfl | apply Dr.imm rfl); (simp (disch := omega) [-getElem?_pos, hB1, hM1, h1, hm, r2, r3, r5, w1, hf, zzr, zzs, hrow, g2, g7, ht]; rfl); (focus first | (simp; rfl) | (simp; done) | (simp; omega)))); exact Dr.nil; rfl; (simp (disch := omega) [-getElem?_pos, hB1, hM1, h1, hm, r2, r3, r5, w1, hf, zzr, zzs, hrow, g2, g7, ht]); (simp; rfl))))
   simp [-getElem?_pos, a112]
theorem c87 (h : Fn kn env 87 a87) (n : Nat) {R ver k : Nat} {cells : List AVal} (hrow : H.rowAt R ver = some cells) (hlen : k * 12 + 12 ≤ cells.length) (hcell : ∀ f, f < 12 → cells[k * 12 + f]? = (txc x sv rv wv)[f]?) :
  zzp kn env (n + 1) (.func (.func 87) []) [.ptr R ver (k * 12)] H = some (zzt (decide (0 ≤ x.asked ∧ x.commit < 0)), H) := by
 have g7 := hcell 7 (by omega)
 have g8 := hcell 8 (by omega)
 simp only [txc, List.getElem?_cons_succ, List.getElem?_cons_zero] at g7 g8
 refine Wp.call1 15 [0, 2] h.e (h.no _ _) rfl (by simp) ?_
 by_cases h1 : 0 ≤ x.asked
 ·repeat (first | apply Wp.za | apply Wp.zb | apply Wp.zc | apply Wp.zd | apply Wp.ze | apply Wp.zf rfl | apply Wp.zg rfl | ((apply Wp.zh; (repeat (apply Ex.zc; (simp (disch := omega) [-getElem?_pos, hrow, g7, g8]; rfl))); exact Ex.zn; rfl; (simp; rfl))) | ((apply Wp.zi; (repeat ((first | apply Dr.q rfl rfl | apply Dr.r rfl rfl | apply Dr.imm rfl); (simp (disch := omega) [-getElem?_pos, hrow, g7, g8]; rfl); (focus first | (simp; rfl) | (simp; done) | (simp; omega)))); exact Dr.nil; rfl; (simp (disch := omega) [-getElem?_pos, hrow, g7, g8]); (simp; rfl))))
  simp [-getElem?_pos, a87, h1]
 ·repeat (first | apply Wp.za | apply Wp.zb | apply Wp.zc | apply Wp.zd | apply Wp.ze | apply Wp.zf rfl | apply Wp.zg rfl | ((apply Wp.zh; (repeat (apply Ex.zc; (simp (disch := omega) [-getElem?_pos, hrow, g7, g8]; rfl))); exact Ex.zn; rfl; (simp; rfl))) | ((apply Wp.zi; (repeat ((first | apply Dr.q rfl rfl | apply Dr.r rfl rfl | apply Dr.imm rfl); (simp (disch := omega) [-getElem?_pos, hrow, g7, g8]; rfl); (focus first | (simp; rfl) | (simp; done) | (simp; omega)))); exact Dr.nil; rfl; (simp (disch := omega) [-getElem?_pos, hrow, g7, g8]); (simp; rfl))))
  simp [-getElem?_pos, a87, h1]
theorem c88 (h : Fn kn env 88 a88) (n : Nat) {R ver k X : Nat} {cells : List AVal} (hrow : H.rowAt R ver = some cells) (hlen : k * 12 + 12 ≤ cells.length) (hcell : ∀ f, f < 12 → cells[k * 12 + f]? = (txc x sv rv wv)[f]?) (hX : H.rowAt X 0 = some rc) (hr : RowC rc r) :
  zzp kn env (n + 1) (.func (.func 88) [vp X]) [.ptr R ver (k * 12)] H = some (zzt (decide (0 ≤ x.commit ∧ x.pos = r.pos)), H) := by
 have g8 := hcell 8 (by omega)
 have g9 := hcell 9 (by omega)
 have r37 := hr.a37
 have r5 := hr.len
 simp only [txc, List.getElem?_cons_succ, List.getElem?_cons_zero] at g8 g9
 refine Wp.callC1 18 [0, 1, 3] h.e (h.no _ _) rfl (by simp) ?_
 by_cases h1 : 0 ≤ x.commit
 ·by_cases h2 : x.pos = r.pos
  ·repeat (first | apply Wp.za | apply Wp.zb | apply Wp.zc | apply Wp.zd | apply Wp.ze | apply Wp.zf rfl | apply Wp.zg rfl | ((apply Wp.zh; (repeat (apply Ex.zc; (simp (disch := omega) [-getElem?_pos, hrow, g8, g9, hX, r37, r5, h2]; rfl))); exact Ex.zn; rfl; (simp; rfl))) | ((apply Wp.zi; (repeat ((first | apply Dr.q rfl rfl | apply Dr.r rfl rfl | apply Dr.imm rfl); (simp (disch := omega) [-getElem?_pos, hrow, g8, g9, hX, r37, r5, h2]; rfl); (focus first | (simp; rfl) | (simp; done) | (simp; omega)))); exact Dr.nil; rfl; (simp (disch := omega) [-getElem?_pos, hrow, g8, g9, hX, r37, r5, h2]); (simp; rfl))))
   simp [-getElem?_pos, a88, h1, h2]
  ·repeat (first | apply Wp.za | apply Wp.zb | apply Wp.zc | apply Wp.zd | apply Wp.ze | apply Wp.zf rfl | apply Wp.zg rfl | ((apply Wp.zh; (repeat (apply Ex.zc; (simp (disch := omega) [-getElem?_pos, hrow, g8, g9, hX, r37, r5]; rfl))); exact Ex.zn; rfl; (simp; rfl))) | ((apply Wp.zi; (repeat ((first | apply Dr.q rfl rfl | apply Dr.r rfl rfl | apply Dr.imm rfl); (simp (disch := omega) [-getElem?_pos, hrow, g8, g9, hX, r37, r5]; rfl); (focus first | (simp; rfl) | (simp; done) | (simp; omega)))); exact Dr.nil; rfl; (simp (disch := omega) [-getElem?_pos, hrow, g8, g9, hX, r37, r5]); (simp; rfl))))
   simp [-getElem?_pos, a88, h2]
 ·repeat (first | apply Wp.za | apply Wp.zb | apply Wp.zc | apply Wp.zd | apply Wp.ze | apply Wp.zf rfl | apply Wp.zg rfl | ((apply Wp.zh; (repeat (apply Ex.zc; (simp (disch := omega) [-getElem?_pos, hrow, g8, g9, hX, r37, r5]; rfl))); exact Ex.zn; rfl; (simp; rfl))) | ((apply Wp.zi; (repeat ((first | apply Dr.q rfl rfl | apply Dr.r rfl rfl | apply Dr.imm rfl); (simp (disch := omega) [-getElem?_pos, hrow, g8, g9, hX, r37, r5]; rfl); (focus first | (simp; rfl) | (simp; done) | (simp; omega)))); exact Dr.nil; rfl; (simp (disch := omega) [-getElem?_pos, hrow, g8, g9, hX, r37, r5]); (simp; rfl))))
  simp [-getElem?_pos, a88, h1]
theorem Bk.cellSet (hb : Bk H N B b tv M es clock tvs o) {k f : Nat} {y : AVal} {x' : TxD} (hx : b[k]? = some x) (hf : f < 12) (hy : y.one = true) (hxy : ∀ sv rv wv, spl (txc x sv rv wv) f [y] = txc x' sv rv wv) (hs : x'.set = x.set ∧ x'.reads = x.reads ∧ x'.writes = x.writes) :
  ∃ R ver H', tv = .slice R ver 0 b.length b.length false 12 ∧ o R = 2 ∧ R < H.next ∧ H.write R ver (k * 12 + f) [y] = some H' ∧ H'.next = H.next ∧ (∀ A, A ≠ R → H'.get A = H.get A) ∧ Cells H' B [tv, .map M, zzt false] ∧ H'.get M = some (.map es clock) ∧ (∀ A, A < N → H'.get A = H.get A) ∧
   ∃ tvs', zzw H' N 12 tv tvs' ∧ zte H' N o tvs' (b.set k x') := by
 obtain ⟨R0, ver0, cells, sv, rv, wv, h1, h2, h3, h4, h5, h6, h7, he, ht⟩ := hb.tx hx
 obtain ⟨R, ver, H', g1, g2, g3, g4, g5, g6, g7⟩ := hb.txs.store he (f := f) (vals := [y]) (by simp) (by simp; omega) (by simp [-getElem?_pos, hy])
 have hl := hb.each.1
 rw [hl] at g1
 rw [g1] at h1
 cases h1
 refine ⟨_, _, H', g1, h4, g3, g4, g6, g7, ?_, ?_, fun A hA => g7 A (by omega), _, g5, by simp [-getElem?_pos, hl], fun i e z hi hz => ?_⟩
 ·show H'.get B = _
  rw [g7 B (fun e => by rw [← e, hb.oB] at h4; omega)]; exact hb.cells
 ·rw [g7 M (fun e => by rw [← e, hb.oM] at h4; omega)]; exact hb.map
 ·rw [List.getElem?_set] at hi hz
  have hk := (List.getElem?_eq_some_iff.1 hx).1
  by_cases e1 : k = i
  ·subst e1
   rw [if_pos rfl, if_pos (by omega)] at hi hz
   cases hi; cases hz
   have hm := ht.move (H' := H') (o' := o) (by omega) (fun A _ _ hA => g7 A (fun e => by subst e; omega)) (fun _ _ => rfl)
   refine ⟨sv, rv, wv, hxy sv rv wv, by rw [hs.1]; exact hm.set, hm.setL, by rw [hs.2.1]; exact hm.reads, hm.readsL, by rw [hs.2.2]; exact hm.writes, hm.writesL, by rw [hs.2.1]; exact hm.rvals, by rw [hs.2.2]; exact hm.wvals⟩
  ·rw [if_neg e1] at hi hz
   obtain ⟨sv, rv, wv, h⟩ := hb.each.2 i e z hi hz
   exact ⟨sv, rv, wv, h.move (by omega) (fun A _ _ hA => g7 A (fun e => by subst e; omega)) fun _ _ => rfl⟩
theorem c89 (h : Fn kn env 89 a89) (n : Nat) (hb : Bk H N B b tv M es clock tvs o) {k R ver : Nat} {f : Int} (hx : b[k]? = some x) (hon : x.on = true) (htv : tv = .slice R ver 0 b.length b.length false 12) :
  ∃ H' es' tvs', zzp kn env (n + 1) (.func (.func 89) []) [vp B, .ptr R ver (k * 12), vi f] H = some (.tuple [], H') ∧ Bk H' N B (b.set k { x with fate := f, on := false }) tv M es' clock tvs' o ∧ H'.next = H.next ∧ (∀ A, A < N → H'.get A = H.get A) ∧ ∀ A, A ≠ M → A ≠ R → H'.get A = H.get A := by
 obtain ⟨R0, ver0, H1, h1, h2, hRn, h3, h4, h5, h6, h7, h8, tvs', h9, h10⟩ := hb.cellSet (f := 11) (y := vi f) (x' := { x with fate := f, on := false }) hx (by omega) rfl (fun _ _ _ => by simp [-getElem?_pos, txc]) ⟨rfl, rfl, rfl⟩
 rw [htv] at h1
 cases h1
 have hf := hb.ok.find x.client
 rw [zf1 hb.ok hx hon] at hf
 simp only at hf
 obtain ⟨p, bn, hp, hf⟩ := hf
 obtain ⟨R0, ver0, cells, sv, rv, wv, q1, q2, q3, q4, q5, q6, q7, he, ht⟩ := hb.tx hx
 have ho := hb.ok.off (y := { x with fate := f, on := false }) hx hon rfl rfl hp
 obtain ⟨R1, ver1, cells1, sv1, rv1, wv1, hx1⟩ : ∃ R1 ver1 cells1 sv1 rv1 wv1, tv = .slice R1 ver1 0 b.length b.length false 12 ∧ H1.rowAt R1 ver1 = some cells1 ∧ k * 12 + 12 ≤ cells1.length ∧ ∀ f', f' < 12 → cells1[k * 12 + f']? = (txc { x with fate := f, on := false } sv1 rv1 wv1)[f']? := by
  have hk := (List.getElem?_eq_some_iff.1 hx).1
  have hl := h10.1
  simp [-getElem?_pos] at hl
  have he : tvs'[k]? = some tvs'[k] := List.getElem?_eq_getElem (by omega)
  obtain ⟨sv1, rv1, wv1, ht1⟩ := h10.2 k _ { x with fate := f, on := false } he (by rw [List.getElem?_set_self hk])
  obtain ⟨R, ver, cells, a1, a2, a3, a4, a5, a6, _⟩ := h9.load he
  rw [ht1.eq] at a6
  exact ⟨R, ver, cells, sv1, rv1, wv1, by rw [a1, hl], a4, a5, a6⟩
 obtain ⟨e1, e2, e3, e4⟩ := hx1
 rw [htv] at e1
 cases e1
 have g0 := e4 0 (by omega)
 simp only [txc, List.getElem?_cons_zero, Nat.add_zero] at g0
 have hB1 := h6.at
 refine ⟨H1.set M (.map (es.eraseIdx p) clock), es.eraseIdx p, tvs', Wp.call1 18 [0, 1, 2] h.e (h.no _ _) rfl (by simp) ?_, ?_, h4, ?_, fun A hA hR => by rw [zz6.zzz _ _ hA]; exact h5 A hR⟩
 ·repeat (first | apply Wp.za | apply Wp.zb | apply Wp.zc | apply Wp.zd | apply Wp.ze | apply Wp.zf rfl | apply Wp.zg rfl | ((apply Wp.zh; (repeat (apply Ex.zc; (simp (disch := omega) [-getElem?_pos, h3, hB1, h7, e2, g0, hf, zq2]; rfl))); exact Ex.zn; rfl; (simp; rfl))) | ((apply Wp.zi; (repeat ((first | apply Dr.q rfl rfl | apply Dr.r rfl rfl | apply Dr.imm rfl); (simp (disch := omega) [-getElem?_pos, h3, hB1, h7, e2, g0, hf, zq2]; rfl); (focus first | (simp; rfl) | (simp; done) | (simp; omega)))); exact Dr.nil; rfl; (simp (disch := omega) [-getElem?_pos, h3, hB1, h7, e2, g0, hf, zq2]); (simp; rfl))))
  simp [-getElem?_pos, a89]
 ·have hMB : M ≠ B := fun e => by have := hb.oM; rw [e, hb.oB] at this; omega
  have hMo : ∀ A, A < H1.next → o A ≠ 1 → (H1.set M (.map (es.eraseIdx p) clock)).get A = H1.get A := fun A _ hA => zz6.zzz _ _ (fun e => hA (by rw [e, hb.oM]))
  refine ⟨?_, zz6.zzy _ _ _, ho, ?_, ?_, ?_, hb.oB, hb.oM, ?_, ?_⟩
  ·show zz6.get _ _ = _
   rw [zz6.zzz _ _ (fun e => hMB e.symm)]; exact h6
  ·exact zza (o := o) (t := 2) h9 (hb.txsL.move (by omega) fun _ _ => rfl) (Nat.le_refl _) fun A _ a c => hMo A a (by omega)
  ·exact hb.txsL.move (by simp; omega) fun _ _ => rfl
  ·exact h10.move (Nat.le_refl _) (fun A _ a c => hMo A a (by omega)) fun _ _ => rfl
  ·simp [-getElem?_pos, h4]; exact hb.hB
  ·simp [-getElem?_pos, h4]; exact hb.hM
 ·intro A hA
  rw [zz6.zzz _ _ (by have := hb.hM.1; omega)]; exact h8 A hA
end
section
variable {kn : zy0} {env : Nat → Option zzq}
variable {H H' : zz6} {N B M clock i : Nat} {b : List TxD} {tv sv rv wv : AVal} {es : zzb} {tvs : List (List AVal)} {o o' : Nat → Nat} {e : List AVal} {x : TxD} {r : RowD} {rc : List AVal}
theorem ztd {α : Type} {l : List α} {p : α → Bool} {j : Nat} {z : α} (hz : l[j]? = some z) : (l.take (j + 1)).filter p = (l.take j).filter p ++ if p z then [z] else [] := by
 rw [List.take_add_one, hz, List.filter_append]
 cases hp : p z <;> simp [-getElem?_pos, hp]
abbrev ixs (l : List Nat) : List (List AVal) := l.map fun k : Nat => [vi (k : Int)]
structure Bad (H : zz6) (N B : Nat) (H' : zz6) : Prop where
 bad : ykb H' B
 old : ∀ A, A < N → H'.get A = H.get A
 next : H.next ≤ H'.next
theorem c86 (h : Fn kn env 86 a86) (h110 : Fn kn env 110 a110) (hlive : ∀ H, kn 68 [vp B] H = zp0 68 [vp B] H) (n : Nat) (hn : 20 < n) (hb : Bk H N B b tv M es clock tvs o) (t : Int) (fits : AVal) (fit : TxD → Bool)
  (hfit : ∀ H', Grow H H' → ∀ k x R ver, b[k]? = some x → tv = .slice R ver 0 b.length b.length false 12 → zzp kn env (n + 1) fits [.ptr R ver (k * 12)] H' = some (zzt (fit x), H')) :
  match zvc b t with
  | some k => ∀ x, b[k]? = some x → if fit x then ∃ R ver H', tv = .slice R ver 0 b.length b.length false 12 ∧ zzp kn env (n + 2) (.func (.func 86) []) [vp B, vu t, fits] H = some (.ptr R ver (k * 12), H') ∧ Grow H H'
    else ∃ H', zzp kn env (n + 2) (.func (.func 86) []) [vp B, vu t, fits] H = some (.raw (.pointer none), H') ∧ Bad H N B H'
  | none => ∃ H', zzp kn env (n + 2) (.func (.func 86) []) [vp B, vu t, fits] H = some (.raw (.pointer none), H') ∧ Bad H N B H' := by
 obtain ⟨v, H1, hres, hg1, hlv, hat⟩ := ztw H (es.map fun e => zvl e.2.1)
 have h68 : zzp kn env (n + 1) (.func (.func 68) []) [vp B] H = some (v, H1) := knM n (by rw [List.append_nil, hlive, hb.live, hres])
 rw [hb.ok.live] at hat
 have hlen : (es.map fun e => zvl e.2.1).length = (zzj b).length := by rw [← zvz, hb.ok.live, List.length_map]
 rw [hlen] at hlv hat
 have hl8 : (zzj b).length ≤ 8 := by rw [← hlen, List.length_map]; exact hb.ok.len
 -- the walk, up to what is found
 have key : ∀ Q : Exit → KS → Prop, (∀ v7 H2, Grow H H2 → zzw H2 H1.next 1 v7 (ixs ((zzj b).filter (zqf b t))) →
   Wp (zzp kn env (n + 1)) (n + 1) 58 [0, 1, 2, 6, 7, 9, 11, 12, 13, 14, 26, 49] (zj9 (zj9 (zj9 a86.code))) ([(0, vp B), (1, vu t), (2, fits), (7, v7)], H2) Q) →
   Wp (zzp kn env (n + 1)) (n + 1) 58 [0, 1, 2, 6, 7, 9, 11, 12, 13, 14, 26, 49] a86.code ([(0, vp B), (1, vu t), (2, fits)], H) Q := by
  intro Q hQ
  apply Wp.za
  (repeat (first | apply Wp.za | apply Wp.zb)); (apply Wp.zh; (repeat (apply Ex.zc; (simp (disch := omega) [-getElem?_pos]; rfl))); exact Ex.zn; rfl; (simp; rfl))
  apply Wp.za
  (repeat (first | apply Wp.za | apply Wp.zb)); (apply Wp.zh; (repeat (apply Ex.zc; (simp (disch := omega) [-getElem?_pos]; rfl))); exact Ex.zn; rfl; (simp; rfl))
  apply Wp.za; apply Wp.za
  (repeat (first | apply Wp.za | apply Wp.zb)); (apply Wp.zh; (repeat (apply Ex.zc; (simp (disch := omega) [-getElem?_pos, h68, hlv]; rfl))); exact Ex.zn; rfl; (simp; rfl))
  apply Wp.zb
  apply Wp.loop (α := Nat × AVal × zz6) (fun x => [(0, vp B), (1, vu t), (2, fits), (11, v), (12, vi (zzj b).length), (13, vi x.1), (7, x.2.1)]) (·.2.2)
   (fun x => x.1 ≤ (zzj b).length ∧ Grow H1 x.2.2 ∧ zzw x.2.2 H1.next 1 x.2.1 (ixs (((zzj b).take x.1).filter (zqf b t)))) (fun x => (zzj b).length - x.1) (0, zxa, H1) rfl ⟨by omega, Grow.refl _, by simpa [-getElem?_pos] using zzw.nil _ _ _⟩ (by simp; omega) (by simp)
  rintro ⟨j, v7, H2⟩ ⟨hj, hg2, hs⟩
  dsimp only at hj hg2 hs ⊢
  skip
  (repeat (first | apply Wp.za | apply Wp.zb)); (apply Wp.zh; (repeat (apply Ex.zc; (simp (disch := omega) [-getElem?_pos]; rfl))); exact Ex.zn; rfl; (simp; rfl))
  (repeat (first | apply Wp.za | apply Wp.zb)); apply Wp.ite rfl
  ·intro hjl
   obtain ⟨z, hz⟩ : ∃ z, (zzj b)[j]? = some z := ⟨_, List.getElem?_eq_getElem (by omega)⟩
   obtain ⟨x, hx, hon⟩ := zxd.1 (List.mem_of_getElem? hz)
   obtain ⟨R1, ver1, cells1, rfl, hR1, hR1n, hrow1, hc1, hcell1⟩ := hat j z (by rw [List.getElem?_map, hz]; rfl)
   have hrow1' : H2.rowAt R1 ver1 = some cells1 := by rw [hg2.rowAt hR1n]; exact hrow1
   have hb2 := hb.grow (hg1.trans hg2)
   obtain ⟨R, ver, cells, sv, rv, wv, htv, hR1', hR2, hR3, hrow, hlen2, hcell, _, _⟩ := hb2.tx hx
   have hkl := (List.getElem?_eq_some_iff.1 hx).1
   have g2 := hcell 2 (by omega)
   simp only [txc, List.getElem?_cons_succ, List.getElem?_cons_zero] at g2
   have hB1 := hb2.cells.at
   rw [htv] at hB1
   have htk : zqf b t z = decide (x.ticket = t) := by unfold zqf; rw [hx]; rw [Bool.eq_iff_iff]; simp [-getElem?_pos]
   have hfl := ztd (p := zqf b t) hz
   apply Wp.zd
   skip
   (repeat (first | apply Wp.za | apply Wp.zb)); (apply Wp.zh; (repeat (apply Ex.zc; (simp (disch := omega) [-getElem?_pos, hrow1', hcell1]; rfl))); exact Ex.zn; rfl; (simp; rfl))
   apply Wp.za
   (repeat (first | apply Wp.za | apply Wp.zb)); (apply Wp.zh; (repeat (apply Ex.zc; (simp (disch := omega) [-getElem?_pos, hB1, hrow, g2]; rfl))); exact Ex.zn; rfl; (simp; rfl))
   (repeat (first | apply Wp.za | apply Wp.zb)); apply Wp.ite rfl
   ·intro ht
    rw [htk] at hfl
    simp only [ht, decide_true, if_true] at hfl
    obtain ⟨v7', H3, ha, hs3, hn3, hk3, _⟩ := (hs.move (Nat.le_refl _) (Nat.le_succ _) (H' := H2.push (.row [some (0, [vi z])])) fun A _ hA => zz6.zz9 _ _ (by omega)).append (bytes := 8) (by have := hg2.next; simp [-getElem?_pos]; omega) (X := H2.next) (e := [vi z]) (by simp) rfl (by omega) (by omega) rfl (by
     have : (((zzj b).take j).filter (zqf b t)).length ≤ (zzj b).length := Nat.le_trans (List.length_filter_le ..) (by simp; omega)
     simp [-getElem?_pos]; omega) (ex := true) (kc := 1)
    (repeat (first | apply Wp.za | apply Wp.zb)); (apply Wp.zh; (repeat (apply Ex.zc; (simp (disch := omega) [-getElem?_pos, ha, zzm, zx1]; rfl))); exact Ex.zn; rfl; (simp; rfl))
    (repeat (first | apply Wp.za | apply Wp.zb)); (apply Wp.zh; (repeat (apply Ex.zc; (simp (disch := omega) [-getElem?_pos]; rfl))); exact Ex.zn; rfl; (simp; rfl))
    refine ⟨(j + 1, v7', H3), rfl, ⟨by omega, ⟨by have := hg2.next; simp [-getElem?_pos] at hn3; show H1.next ≤ H3.next; omega, fun A hA => ?_⟩, by rw [hfl]; simpa [-getElem?_pos, ixs] using hs3⟩, by simp; omega, by simp [-getElem?_pos]⟩
    have := hg2.next
    rw [hk3 A hA, zz6.zz9 _ _ (by omega), hg2.get A hA]
   ·intro ht
    apply Wp.zd
    rw [htk] at hfl
    simp only [ht, decide_false, if_false, List.append_nil, Bool.false_eq_true] at hfl
    (repeat (first | apply Wp.za | apply Wp.zb)); (apply Wp.zh; (repeat (apply Ex.zc; (simp (disch := omega) [-getElem?_pos]; rfl))); exact Ex.zn; rfl; (simp; rfl))
    exact ⟨(j + 1, v7, H2), rfl, ⟨by omega, hg2, by rw [hfl]; exact hs⟩, by simp; omega, by simp [-getElem?_pos]⟩
  ·intro hjl
   apply Wp.ze
   have : (zzj b).take j = zzj b := List.take_of_length_le (by omega)
   rw [this] at hs
   exact Wp.sub [(0, vp B), (1, vu t), (2, fits), (7, v7)] (hQ v7 H2 (hg1.trans hg2) hs) (by simp)
 unfold zvc
 generalize hL : (zzj b).filter (zqf b t) = L at key
 have hLl : ∀ k ∈ L, k ∈ zzj b := fun k hk => by rw [← hL] at hk; exact (List.mem_filter.1 hk).1
 -- none, or several; or one that does not fit
 have bad : ∀ H', Grow H H' → ykb (H'.set B (.row [some (0, [tv, .map M, zzt true])])) B ∧ (∀ A, A < N → (H'.set B (.row [some (0, [tv, .map M, zzt true])])).get A = H.get A) ∧ H.next ≤ (H'.set B (.row [some (0, [tv, .map M, zzt true])])).next := fun H' hg =>
  ⟨⟨tv, .map M, zz6.zzy _ _ _⟩, fun A hA => by rw [zz6.zzz _ _ (by have := hb.hB.1; omega)]; exact hg.get A (by have := hb.hB; omega), hg.next⟩
 have no : L.length ≠ 1 → ∃ H', zzp kn env (n + 2) (.func (.func 86) []) [vp B, vu t, fits] H = some (.raw (.pointer none), H') ∧ Bad H N B H' := fun hne => by
  obtain ⟨_, H', h1, rfl, h2⟩ := Wp.call (R := fun v H' => v = .raw (.pointer none) ∧ Bad H N B H') 58 [0, 1, 2, 6, 7, 9, 11, 12, 13, 14, 26, 49] h.e (h.no [vp B, vu t, fits] H) rfl (by simp) (key _ fun v7 H2 hg2 hs => by
   have hb2 := hb.grow hg2
   have hl7 := hs.rd.lenS
   simp only [List.length_map] at hl7
   have hne' : (L.length : Int) ≠ 1 := by omega
   have w1 := yk3 h110 n hb2.cells (is := false)
   obtain ⟨q1, q2, q3⟩ := bad H2 hg2
   repeat (first | apply Wp.za | apply Wp.zb | apply Wp.zc | apply Wp.zd | apply Wp.ze | apply Wp.zf rfl | apply Wp.zg rfl | ((apply Wp.zh; (repeat (apply Ex.zc; (simp (disch := omega) [-getElem?_pos, hl7, w1]; rfl))); exact Ex.zn; rfl; (simp; rfl))) | ((apply Wp.zi; (repeat ((first | apply Dr.q rfl rfl | apply Dr.r rfl rfl | apply Dr.imm rfl); (simp (disch := omega) [-getElem?_pos, hl7, w1]; rfl); (focus first | (simp; rfl) | (simp; done) | (simp; omega)))); exact Dr.nil; rfl; (simp (disch := omega) [-getElem?_pos, hl7, w1]); (simp; rfl))))
   simp [-getElem?_pos, a86]
   exact ⟨q1, q2, q3⟩)
  exact ⟨H', h1, h2⟩
 match L, hL, hLl, no with
 | [], _, _, no => exact no (by simp)
 | _ :: _ :: _, _, _, no => exact no (by simp)
 | [k], hL, hLl, _ =>
  simp only [lone]
  intro x hx
  have key2 : ∀ Q : Exit → KS → Prop, (∀ v7 H2 R ver cells7 R7 ver7 cells, Grow H H2 → tv = .slice R ver 0 b.length b.length false 12 → v7 = .slice R7 ver7 0 1 1 false 1 → H2.rowAt R7 ver7 = some cells7 → cells7[0]? = some (vi k) → 1 ≤ cells7.length → H2.rowAt R ver = some cells → Bk H2 N B b tv M es clock tvs o → (k : Int) < b.length →
    Wp (zzp kn env (n + 1)) (n + 1) 58 [0, 1, 2, 6, 7, 9, 11, 12, 13, 14, 26, 49] (zj9 (zj9 (zj9 a86.code))) ([(0, vp B), (1, vu t), (2, fits), (7, v7)], H2) Q) →
    Wp (zzp kn env (n + 1)) (n + 1) 58 [0, 1, 2, 6, 7, 9, 11, 12, 13, 14, 26, 49] a86.code ([(0, vp B), (1, vu t), (2, fits)], H) Q := fun Q hQ => key Q fun v7 H2 hg2 hs => by
   have hb2 := hb.grow hg2
   obtain ⟨R, ver, cells, sv, rv, wv, htv, _, _, _, hrow, _⟩ := hb2.tx hx
   obtain ⟨R7, ver7, cells7, h7, _, _, hrow7, hl7, hc7, _⟩ := hs.load (i := 0) rfl
   have := hc7 0 (by omega)
   exact hQ v7 H2 R ver cells7 R7 ver7 cells hg2 htv h7 hrow7 this (by omega) hrow hb2 (by have := (List.getElem?_eq_some_iff.1 hx).1; omega)
  by_cases hf : fit x = true
  ·rw [if_pos hf]
   obtain ⟨v, H', h1, R, ver, h2, h3, h4⟩ := Wp.call (R := fun v H' => ∃ R ver, tv = .slice R ver 0 b.length b.length false 12 ∧ v = .ptr R ver (k * 12) ∧ Grow H H') 58 [0, 1, 2, 6, 7, 9, 11, 12, 13, 14, 26, 49] h.e (h.no [vp B, vu t, fits] H) rfl (by simp) (key2 _ fun v7 H2 R ver cells7 R7 ver7 cells hg2 htv h7 hrow7 hc7 hl7 hrow hb2 hkl => by
    subst h7
    have w1 := yx9 h110 n hb2.cells
    have w2 := hfit H2 hg2 k x R ver hx htv
    rw [hf] at w2
    have hB1 := hb2.cells.at
    subst htv
    repeat (first | apply Wp.za | apply Wp.zb | apply Wp.zc | apply Wp.zd | apply Wp.ze | apply Wp.zf rfl | apply Wp.zg rfl | ((apply Wp.zh; (repeat (apply Ex.zc; (simp (disch := omega) [-getElem?_pos, zyy, hrow7, hc7, hB1, w1, w2]; rfl))); exact Ex.zn; rfl; (simp; rfl))) | ((apply Wp.zi; (repeat ((first | apply Dr.q rfl rfl | apply Dr.r rfl rfl | apply Dr.imm rfl); (simp (disch := omega) [-getElem?_pos, zyy, hrow7, hc7, hB1, w1, w2]; rfl); (focus first | (simp; rfl) | (simp; done) | (simp; omega)))); exact Dr.nil; rfl; (simp (disch := omega) [-getElem?_pos, zyy, hrow7, hc7, hB1, w1, w2]); (simp; rfl))))
    simp [-getElem?_pos, a86]
    exact hg2)
   exact ⟨R, ver, H', h2, by rw [h1, h3], h4⟩
  ·rw [if_neg hf]
   obtain ⟨_, H', h1, rfl, h2⟩ := Wp.call (R := fun v H' => v = .raw (.pointer none) ∧ Bad H N B H') 58 [0, 1, 2, 6, 7, 9, 11, 12, 13, 14, 26, 49] h.e (h.no [vp B, vu t, fits] H) rfl (by simp) (key2 _ fun v7 H2 R ver cells7 R7 ver7 cells hg2 htv h7 hrow7 hc7 hl7 hrow hb2 hkl => by
    subst h7
    have w1 := yk3 h110 n hb2.cells (is := false)
    have w2 := hfit H2 hg2 k x R ver hx htv
    have hf' : fit x = false := by simpa [-getElem?_pos] using hf
    rw [hf'] at w2
    obtain ⟨q1, q2, q3⟩ := bad H2 hg2
    have hB1 := hb2.cells.at
    subst htv
    repeat (first | apply Wp.za | apply Wp.zb | apply Wp.zc | apply Wp.zd | apply Wp.ze | apply Wp.zf rfl | apply Wp.zg rfl | ((apply Wp.zh; (repeat (apply Ex.zc; (simp (disch := omega) [-getElem?_pos, zyy, hrow7, hc7, hB1, w1, w2]; rfl))); exact Ex.zn; rfl; (simp; rfl))) | ((apply Wp.zi; (repeat ((first | apply Dr.q rfl rfl | apply Dr.r rfl rfl | apply Dr.imm rfl); (simp (disch := omega) [-getElem?_pos, zyy, hrow7, hc7, hB1, w1, w2]; rfl); (focus first | (simp; rfl) | (simp; done) | (simp; omega)))); exact Dr.nil; rfl; (simp (disch := omega) [-getElem?_pos, zyy, hrow7, hc7, hB1, w1, w2]); (simp; rfl))))
    simp [-getElem?_pos, a86]
    exact ⟨q1, q2, q3⟩)
   exact ⟨H', h1, h2⟩
end
end Go.Proofs.Ythbjfkkjmecaaaa
