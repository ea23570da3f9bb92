/- Walks: a row of a client's, whole. -/
import Derived.Test.YthbjfkkjmecaaaaY23
set_option linter.unusedVariables false
set_option linter.unusedSimpArgs false
namespace Go.Proofs.Ythbjfkkjmecaaaa
open Go Go.Vm
section
variable {kn : zy0} {env : Nat → Option zzq}
variable {H H' H1 : zz6} {N B M clock : Nat} {i : Int} {b : List TxD} {tv sv rv wv sv' rv' : AVal} {es : zzb} {tvs : List (List AVal)} {o : Nat → Nat} {e : List AVal} {x x' : TxD} {r : RowD} {rc : List AVal}
theorem znr {k : Nat} (h : ofB b r = some k) : ∃ x, b[k]? = some x ∧ x.on = true := by
 unfold ofB at h
 obtain ⟨j, h1, h2⟩ := Option.bind_eq_some_iff.1 h
 obtain ⟨x, h3, h4⟩ := Option.bind_eq_some_iff.1 h2
 split at h4
 ·cases h4
  obtain ⟨g1, g2⟩ := zqb h1
  exact zxd.1 g1
 ·cases h4
def stepO (b : List TxD) (i : Int) (r : RowD) : Option (List TxD) := (ofB b r).map fun k =>
    if r.kind = 5 then zjb b k fun x => { x with reads := x.reads ++ [⟨i, r.blk, r.val⟩] }
    else if r.kind = 6 then zjb b k fun x => { x with writes := zyx x.writes ⟨r.blk, r.val⟩ }
    else if r.kind = 8 then zjb b k fun x => { x with asked := i }
    else if r.kind = 9 then zjb b k fun x => { x with fate := 2, on := false }
    else b
set_option maxHeartbeats 1000000 in
theorem c85o (E : ClientE kn env) (n : Nat) (hins : yyb (zzp kn env (n + 2))) (hb : Bk H N B b tv M es clock tvs o) (hr : RowC rc r) (hs : zuu H N rc r sv) {m : Nat} (hsm : zkx b m) (hm : m < 400000000000) (hn : m + 10 < n) (ha0 : 0 ≤ r.actor) (ha8 : r.actor < 8) (h1 : ¬ (r.kind = 1 ∨ (r.kind = 7 ∧ r.ticket = 0))) (h2 : ¬ r.kind = 2) :
  ∃ H', zzp kn env (n + 4) (.func (.func 85) []) [vp B, vi i, .agg rc] H = some (.tuple [], H') ∧ Out H N B (stepO b i r) H' := by
 have hg1 := Grow.push H (.row [some (0, rc)])
 have hb1 := hb.grow hg1
 have r0 := hr.a0
 have r1 := hr.a1
 have r2 := hr.a2
 have r3 := hr.a3
 have r4 := hr.a4
 have r5 := hr.len
 have rt : rc.take 41 = rc := List.take_of_length_le (by omega)
 have hB := hb.hB
 have hB1 := hb.cells.at
 have hM := hb.hM
 have hM1 := hb.map
 have w1 := yk3 E.f110 (n + 2) hb1.cells (is := false)
 have w2 := yx9 E.f110 (n + 2) hb1.cells
 have fin : ∀ (b' : Option (List TxD)) (H2 : zz6), Wp (zzp kn env (n + 3)) (n + 3) 127 [0, 1, 2, 5, 7, 8, 19, 31, 32, 38, 43, 75, 79, 91, 93, 94, 111, 116, 122] a85.code (argK 0 [vp B, vi i, .agg rc], H) (EndK a85.res fun v' h' => v' = .tuple [] ∧ h' = H2) → Out H N B b' H2 →
   ∃ H', zzp kn env (n + 4) (.func (.func 85) []) [vp B, vi i, .agg rc] H = some (.tuple [], H') ∧ Out H N B b' H' := fun b' H2 h1 h2 => ⟨H2, Wp.call1 127 [0, 1, 2, 5, 7, 8, 19, 31, 32, 38, 43, 75, 79, 91, 93, 94, 111, 116, 122] E.f85.e (E.f85.no _ _) rfl (by simp) h1, h2⟩
 have hf := hb.ok.find r.actor
 have hg2 : Grow H ((H.push (.row [some (0, rc)])).push (.row [some (0, rc)])) := hg1.trans (Grow.push _ _)
 have hb2 := hb.grow hg2
 have h112 := c112 E.f112 E.f110 (n + 1) hb1 hr
 obtain ⟨lk, z, lb, hlk, hld⟩ : ∃ (lk : Option (Nat × AVal × Nat)) (z : Int) (lb : Bool), zwe .i64 r.actor es 0 = some lk ∧ zzs (.raw (.int .i64 0)) true lk = .tuple [vi z, zzt lb] := by
  cases hof : zy5 b r.actor with
  | none => rw [hof] at hf; exact ⟨_, 0, false, hf, rfl⟩
  | some j => rw [hof] at hf; obtain ⟨p, bn, _, hf⟩ := hf; exact ⟨_, j, true, hf, rfl⟩
 have hX2 : ((H.push (.row [some (0, rc)])).push (.row [some (0, rc)])).rowAt H.next 0 = some rc := by simp (disch := omega) [-getElem?_pos]
 unfold stepO
 cases hob : ofB b r with
 | none =>
  rw [hob] at h112
  simp only at h112
  by_cases h7 : r.kind = 7
  ·have h3 : r.ticket ≠ 0 := fun e => h1 (.inr ⟨h7, e⟩)
   refine fin _ _ ?_ (hb.badOut hg2)
   repeat (first | apply Wp.za | apply Wp.zb | apply Wp.zc | apply Wp.zd | apply Wp.ze | apply Wp.zf rfl | apply Wp.zg rfl | ((apply Wp.zh; (repeat (apply Ex.zc; (simp (disch := omega) [-getElem?_pos, r0, r2, r3, r5, rt, w2, hB1, hM1, hlk, zzr, hld, h112, zxh]; rfl))); exact Ex.zn; rfl; (simp; rfl))) | ((apply Wp.zi; (repeat ((first | apply Dr.q rfl rfl | apply Dr.r rfl rfl | apply Dr.imm rfl); (simp (disch := omega) [-getElem?_pos, r0, r2, r3, r5, rt, w2, hB1, hM1, hlk, zzr, hld, h112, zxh]; rfl); (focus first | (simp; rfl) | (simp; done) | (simp; omega)))); exact Dr.nil; rfl; (simp (disch := omega) [-getElem?_pos, r0, r2, r3, r5, rt, w2, hB1, hM1, hlk, zzr, hld, h112, zxh]); (simp; rfl))))
   simp [-getElem?_pos, a85]
  ·have h10 : r.kind ≠ 1 := fun e => h1 (.inl e)
   refine fin _ _ ?_ (hb.badOut hg2)
   repeat (first | apply Wp.za | apply Wp.zb | apply Wp.zc | apply Wp.zd | apply Wp.ze | apply Wp.zf rfl | apply Wp.zg rfl | ((apply Wp.zh; (repeat (apply Ex.zc; (simp (disch := omega) [-getElem?_pos, r0, r2, r3, r5, rt, w2, hB1, hM1, hlk, zzr, hld, h112, zxh]; rfl))); exact Ex.zn; rfl; (simp; rfl))) | ((apply Wp.zi; (repeat ((first | apply Dr.q rfl rfl | apply Dr.r rfl rfl | apply Dr.imm rfl); (simp (disch := omega) [-getElem?_pos, r0, r2, r3, r5, rt, w2, hB1, hM1, hlk, zzr, hld, h112, zxh]; rfl); (focus first | (simp; rfl) | (simp; done) | (simp; omega)))); exact Dr.nil; rfl; (simp (disch := omega) [-getElem?_pos, r0, r2, r3, r5, rt, w2, hB1, hM1, hlk, zzr, hld, h112, zxh]); (simp; rfl))))
   simp [-getElem?_pos, a85]
 | some k =>
  rw [hob] at h112
  obtain ⟨R, ver, htv, hcall⟩ := h112
  obtain ⟨x, hx, hon⟩ := znr hob
  obtain ⟨hri, hlw, hlr⟩ := hsm.2 x (List.mem_of_getElem? hx)
  have hup : ∀ f : TxD → TxD, zjb b k f = b.set k (f x) := fun f => by unfold zjb; rw [hx]
  have hkl := (List.getElem?_eq_some_iff.1 hx).1
  simp only [Option.map_some]
  by_cases h7 : r.kind = 7
  ·have h3 : r.ticket ≠ 0 := fun e => h1 (.inr ⟨h7, e⟩)
   rw [if_neg (by omega), if_neg (by omega), if_neg (by omega), if_neg (by omega)]
   refine fin _ _ ?_ (hb.sameOut hg2)
   repeat (first | apply Wp.za | apply Wp.zb | apply Wp.zc | apply Wp.zd | apply Wp.ze | apply Wp.zf rfl | apply Wp.zg rfl | ((apply Wp.zh; (repeat (apply Ex.zc; (simp (disch := omega) [-getElem?_pos, r0, r2, r3, r4, r5, rt, w2, hB1, hM1, hlk, zzr, hld, hcall, zxh]; rfl))); exact Ex.zn; rfl; (simp; rfl))) | ((apply Wp.zi; (repeat ((first | apply Dr.q rfl rfl | apply Dr.r rfl rfl | apply Dr.imm rfl); (simp (disch := omega) [-getElem?_pos, r0, r2, r3, r4, r5, rt, w2, hB1, hM1, hlk, zzr, hld, hcall, zxh]; rfl); (focus first | (simp; rfl) | (simp; done) | (simp; omega)))); exact Dr.nil; rfl; (simp (disch := omega) [-getElem?_pos, r0, r2, r3, r4, r5, rt, w2, hB1, hM1, hlk, zzr, hld, hcall, zxh]); (simp; rfl))))
   simp [-getElem?_pos, a85]
  have h10 : r.kind ≠ 1 := fun e => h1 (.inl e)
  by_cases h5 : r.kind = 5
  ·rw [if_pos h5, hup]
   obtain ⟨R', ver', cells, sv', rv, wv, htv', hR1, hR2, hR3, hrow, hlen, hcell, he, ht⟩ := hb2.tx hx
   rw [htv] at htv'; cases htv'
   have g4 := hcell 4 (by omega)
   simp only [txc, List.getElem?_cons_succ, List.getElem?_cons_zero] at g4
   have hrow0 : H.rowAt R ver = some cells := by
    obtain ⟨R', ver', cells', _, _, _, e1, _, hRn, _, e2, _⟩ := hb.tx hx
    rw [htv] at e1; cases e1
    rw [hg2.rowAt hRn, e2] at hrow; rw [e2, hrow]
   obtain ⟨rv', H4, R', ver', H5, ha, hone, hn4, htv', hw, hn5, hout⟩ := hb2.read hx he ht ⟨i, r.blk, r.val⟩ hr.isv (by omega)
   rw [htv] at htv'; cases htv'
   have hbq : AVal.beqs r.val r.val = true := zyq hr.isv.bytes
   have hbr := ht.reads.beq
   have hcr := zx4 hone
   have hv32 := hr.isv.len
   have hav := hr.av
   simp only [zta.cells, zz6.zyc] at ha hn4
   have hRH : R < H.next := by
    obtain ⟨R', ver', cells', _, _, _, e1, _, hRn, _⟩ := hb.tx hx
    rw [htv] at e1; cases e1; exact hRn
   refine fin _ _ ?_ (hout.from hg2 (by omega))
   repeat (first | apply Wp.za | apply Wp.zb | apply Wp.zc | apply Wp.zd | apply Wp.ze | apply Wp.zf rfl | apply Wp.zg rfl | ((apply Wp.zh; (repeat (apply Ex.zc; (simp (disch := omega) [-getElem?_pos, r0, r2, r3, r4, r5, rt, w2, hB1, hM1, hlk, zzr, hld, hcall, zxh, hrow0, g4, ha, hbq, hbr, hcr, hv32, hav, hw, zzm, zx1]; rfl))); exact Ex.zn; rfl; (simp; rfl))) | ((apply Wp.zi; (repeat ((first | apply Dr.q rfl rfl | apply Dr.r rfl rfl | apply Dr.imm rfl); (simp (disch := omega) [-getElem?_pos, r0, r2, r3, r4, r5, rt, w2, hB1, hM1, hlk, zzr, hld, hcall, zxh, hrow0, g4, ha, hbq, hbr, hcr, hv32, hav, hw, zzm, zx1]; rfl); (focus first | (simp; rfl) | (simp; done) | (simp; omega)))); exact Dr.nil; rfl; (simp (disch := omega) [-getElem?_pos, r0, r2, r3, r4, r5, rt, w2, hB1, hM1, hlk, zzr, hld, hcall, zxh, hrow0, g4, ha, hbq, hbr, hcr, hv32, hav, hw, zzm, zx1]); (simp; rfl))))
   simp [-getElem?_pos, a85]
  rw [if_neg h5]
  by_cases h6 : r.kind = 6
  ·rw [if_pos h6, hup]
   obtain ⟨H3, tvs3, o3, hw, hb3, hn3, hN3⟩ := c113 E.f113 E.f119 E.f120 n hins hb2 hr hx htv hri (by omega) (by omega)
   refine fin _ _ ?_ (Out.from (H' := H3) (b' := some _) hg2 (by omega) ⟨⟨_, _, _, _, _, _, hb3⟩, hN3, hn3⟩)
   repeat (first | apply Wp.za | apply Wp.zb | apply Wp.zc | apply Wp.zd | apply Wp.ze | apply Wp.zf rfl | apply Wp.zg rfl | ((apply Wp.zh; (repeat (apply Ex.zc; (simp (disch := omega) [-getElem?_pos, r0, r2, r3, r4, r5, rt, w2, hB1, hM1, hlk, zzr, hld, hcall, zxh, hw]; rfl))); exact Ex.zn; rfl; (simp; rfl))) | ((apply Wp.zi; (repeat ((first | apply Dr.q rfl rfl | apply Dr.r rfl rfl | apply Dr.imm rfl); (simp (disch := omega) [-getElem?_pos, r0, r2, r3, r4, r5, rt, w2, hB1, hM1, hlk, zzr, hld, hcall, zxh, hw]; rfl); (focus first | (simp; rfl) | (simp; done) | (simp; omega)))); exact Dr.nil; rfl; (simp (disch := omega) [-getElem?_pos, r0, r2, r3, r4, r5, rt, w2, hB1, hM1, hlk, zzr, hld, hcall, zxh, hw]); (simp; rfl))))
   simp [-getElem?_pos, a85]
  rw [if_neg h6]
  by_cases h8 : r.kind = 8
  ·rw [if_pos h8, hup]
   obtain ⟨R', ver', H3, htv', hw, hn3, ⟨tvs3, hb3⟩, hN3, _⟩ := hb2.num (f := 7) (y := vi i) (x' := { x with asked := i }) hx (by omega) rfl (fun _ _ _ => by simp [-getElem?_pos, txc]) ⟨rfl, rfl, rfl⟩ rfl rfl
   rw [htv] at htv'; cases htv'
   refine fin _ _ ?_ (Out.from (H' := H3) (b' := some _) hg2 (by omega) ⟨⟨_, _, _, _, _, _, hb3⟩, hN3, by omega⟩)
   repeat (first | apply Wp.za | apply Wp.zb | apply Wp.zc | apply Wp.zd | apply Wp.ze | apply Wp.zf rfl | apply Wp.zg rfl | ((apply Wp.zh; (repeat (apply Ex.zc; (simp (disch := omega) [-getElem?_pos, r0, r2, r3, r4, r5, rt, w2, hB1, hM1, hlk, zzr, hld, hcall, zxh, hw]; rfl))); exact Ex.zn; rfl; (simp; rfl))) | ((apply Wp.zi; (repeat ((first | apply Dr.q rfl rfl | apply Dr.r rfl rfl | apply Dr.imm rfl); (simp (disch := omega) [-getElem?_pos, r0, r2, r3, r4, r5, rt, w2, hB1, hM1, hlk, zzr, hld, hcall, zxh, hw]; rfl); (focus first | (simp; rfl) | (simp; done) | (simp; omega)))); exact Dr.nil; rfl; (simp (disch := omega) [-getElem?_pos, r0, r2, r3, r4, r5, rt, w2, hB1, hM1, hlk, zzr, hld, hcall, zxh, hw]); (simp; rfl))))
   simp [-getElem?_pos, a85]
  rw [if_neg h8]
  by_cases h9 : r.kind = 9
  ·rw [if_pos h9, hup]
   obtain ⟨H3, es3, tvs3, hw, hb3, hn3, hN3, _⟩ := c89 E.f89 (n + 2) hb2 (f := 2) hx hon htv
   refine fin _ _ ?_ (Out.from (H' := H3) (b' := some _) hg2 (by omega) ⟨⟨_, _, _, _, _, _, hb3⟩, hN3, by omega⟩)
   repeat (first | apply Wp.za | apply Wp.zb | apply Wp.zc | apply Wp.zd | apply Wp.ze | apply Wp.zf rfl | apply Wp.zg rfl | ((apply Wp.zh; (repeat (apply Ex.zc; (simp (disch := omega) [-getElem?_pos, r0, r2, r3, r4, r5, rt, w2, hB1, hM1, hlk, zzr, hld, hcall, zxh, hw]; rfl))); exact Ex.zn; rfl; (simp; rfl))) | ((apply Wp.zi; (repeat ((first | apply Dr.q rfl rfl | apply Dr.r rfl rfl | apply Dr.imm rfl); (simp (disch := omega) [-getElem?_pos, r0, r2, r3, r4, r5, rt, w2, hB1, hM1, hlk, zzr, hld, hcall, zxh, hw]; rfl); (focus first | (simp; rfl) | (simp; done) | (simp; omega)))); exact Dr.nil; rfl; (simp (disch := omega) [-getElem?_pos, r0, r2, r3, r4, r5, rt, w2, hB1, hM1, hlk, zzr, hld, hcall, zxh, hw]); (simp; rfl))))
   simp [-getElem?_pos, a85]
  rw [if_neg h9]
  refine fin _ _ ?_ (hb.sameOut hg2)
  repeat (first | apply Wp.za | apply Wp.zb | apply Wp.zc | apply Wp.zd | apply Wp.ze | apply Wp.zf rfl | apply Wp.zg rfl | ((apply Wp.zh; (repeat (apply Ex.zc; (simp (disch := omega) [-getElem?_pos, r0, r2, r3, r4, r5, rt, w2, hB1, hM1, hlk, zzr, hld, hcall, zxh]; rfl))); exact Ex.zn; rfl; (simp; rfl))) | ((apply Wp.zi; (repeat ((first | apply Dr.q rfl rfl | apply Dr.r rfl rfl | apply Dr.imm rfl); (simp (disch := omega) [-getElem?_pos, r0, r2, r3, r4, r5, rt, w2, hB1, hM1, hlk, zzr, hld, hcall, zxh]; rfl); (focus first | (simp; rfl) | (simp; done) | (simp; omega)))); exact Dr.nil; rfl; (simp (disch := omega) [-getElem?_pos, r0, r2, r3, r4, r5, rt, w2, hB1, hM1, hlk, zzr, hld, hcall, zxh]); (simp; rfl))))
  simp [-getElem?_pos, a85]
set_option maxHeartbeats 1000000 in
theorem c85 (E : ClientE kn env) (n : Nat) (hins : yyb (zzp kn env (n + 2))) (hb : Bk H N B b tv M es clock tvs o) (hr : RowC rc r) (hs : zuu H N rc r sv) {m : Nat} (hsm : zkx b m) (hm : m < 400000000000) (hn : m + 10 < n) :
  ∃ H', zzp kn env (n + 4) (.func (.func 85) []) [vp B, vi i, .agg rc] H = some (.tuple [], H') ∧ Out H N B (zur b i r) H' := by
 have hg1 := Grow.push H (.row [some (0, rc)])
 have hb1 := hb.grow hg1
 have r0 := hr.a0
 have r1 := hr.a1
 have r2 := hr.a2
 have r3 := hr.a3
 have r4 := hr.a4
 have r5 := hr.len
 have rt : rc.take 41 = rc := List.take_of_length_le (by omega)
 have hB := hb.hB
 have hB1 := hb.cells.at
 have hM := hb.hM
 have hM1 := hb.map
 have w1 := yk3 E.f110 (n + 2) hb1.cells (is := false)
 have w2 := yx9 E.f110 (n + 2) hb1.cells
 have fin : ∀ (b' : Option (List TxD)) (H2 : zz6), Wp (zzp kn env (n + 3)) (n + 3) 127 [0, 1, 2, 5, 7, 8, 19, 31, 32, 38, 43, 75, 79, 91, 93, 94, 111, 116, 122] a85.code (argK 0 [vp B, vi i, .agg rc], H) (EndK a85.res fun v' h' => v' = .tuple [] ∧ h' = H2) → Out H N B b' H2 →
   ∃ H', zzp kn env (n + 4) (.func (.func 85) []) [vp B, vi i, .agg rc] H = some (.tuple [], H') ∧ Out H N B b' H' := fun b' H2 h1 h2 => ⟨H2, Wp.call1 127 [0, 1, 2, 5, 7, 8, 19, 31, 32, 38, 43, 75, 79, 91, 93, 94, 111, 116, 122] E.f85.e (E.f85.no _ _) rfl (by simp) h1, h2⟩
 by_cases ha : 0 ≤ r.actor ∧ r.actor < 8
 case neg =>
  refine fin _ ((H.push (.row [some (0, rc)])).set B (.row [some (0, [tv, .map M, zzt true])])) ?_ ?_
  ·by_cases h0 : 0 ≤ r.actor
   ·repeat (first | apply Wp.za | apply Wp.zb | apply Wp.zc | apply Wp.zd | apply Wp.ze | apply Wp.zf rfl | apply Wp.zg rfl | ((apply Wp.zh; (repeat (apply Ex.zc; (simp (disch := omega) [-getElem?_pos, r2, r5, w1]; rfl))); exact Ex.zn; rfl; (simp; rfl))))
    simp [-getElem?_pos, a85]
   ·repeat (first | apply Wp.za | apply Wp.zb | apply Wp.zc | apply Wp.zd | apply Wp.ze | apply Wp.zf rfl | apply Wp.zg rfl | ((apply Wp.zh; (repeat (apply Ex.zc; (simp (disch := omega) [-getElem?_pos, r2, r5, w1]; rfl))); exact Ex.zn; rfl; (simp; rfl))))
    simp [-getElem?_pos, a85]
  ·unfold zur
   rw [if_pos ha]
   exact hb.badOut hg1
 case pos =>
 obtain ⟨ha0, ha8⟩ := ha
 have hst : zur b i r = if r.kind = 1 ∨ (r.kind = 7 ∧ r.ticket = 0) then (if (zy5 b r.actor).isSome then none else some b) else if r.kind = 2 then (if (zy5 b r.actor).isSome then none else some (b ++ [zv0 i r])) else stepO b i r := by
  unfold zur stepO; rw [if_neg (fun h => h ⟨ha0, ha8⟩)]
 rw [hst]
 have hf := hb.ok.find r.actor
 by_cases h1 : r.kind = 1 ∨ (r.kind = 7 ∧ r.ticket = 0)
 ·rw [if_pos h1]
  cases hof : zy5 b r.actor with
  | some j =>
   rw [hof] at hf
   obtain ⟨p, bn, hp, hf⟩ := hf
   refine fin _ _ ?_ (hb.badOut hg1)
   rcases h1 with h1 | ⟨h1, h2⟩
   ·repeat (first | apply Wp.za | apply Wp.zb | apply Wp.zc | apply Wp.zd | apply Wp.ze | apply Wp.zf rfl | apply Wp.zg rfl | ((apply Wp.zh; (repeat (apply Ex.zc; (simp (disch := omega) [-getElem?_pos, r0, r2, r5, w1, w2, hB1, hM1, hf, zzr, zzs]; rfl))); exact Ex.zn; rfl; (simp; rfl))) | ((apply Wp.zi; (repeat ((first | apply Dr.q rfl rfl | apply Dr.r rfl rfl | apply Dr.imm rfl); (simp (disch := omega) [-getElem?_pos, r0, r2, r5, w1, w2, hB1, hM1, hf, zzr, zzs]; rfl); (focus first | (simp; rfl) | (simp; done) | (simp; omega)))); exact Dr.nil; rfl; (simp (disch := omega) [-getElem?_pos, r0, r2, r5, w1, w2, hB1, hM1, hf, zzr, zzs]); (simp; rfl))))
    simp [-getElem?_pos, a85]
   ·repeat (first | apply Wp.za | apply Wp.zb | apply Wp.zc | apply Wp.zd | apply Wp.ze | apply Wp.zf rfl | apply Wp.zg rfl | ((apply Wp.zh; (repeat (apply Ex.zc; (simp (disch := omega) [-getElem?_pos, r0, r2, r3, r5, w1, w2, hB1, hM1, hf, zzr, zzs]; rfl))); exact Ex.zn; rfl; (simp; rfl))) | ((apply Wp.zi; (repeat ((first | apply Dr.q rfl rfl | apply Dr.r rfl rfl | apply Dr.imm rfl); (simp (disch := omega) [-getElem?_pos, r0, r2, r3, r5, w1, w2, hB1, hM1, hf, zzr, zzs]; rfl); (focus first | (simp; rfl) | (simp; done) | (simp; omega)))); exact Dr.nil; rfl; (simp (disch := omega) [-getElem?_pos, r0, r2, r3, r5, w1, w2, hB1, hM1, hf, zzr, zzs]); (simp; rfl))))
    simp [-getElem?_pos, a85]
  | none =>
   rw [hof] at hf
   refine fin _ _ ?_ (hb.sameOut hg1)
   rcases h1 with h1 | ⟨h1, h2⟩
   ·repeat (first | apply Wp.za | apply Wp.zb | apply Wp.zc | apply Wp.zd | apply Wp.ze | apply Wp.zf rfl | apply Wp.zg rfl | ((apply Wp.zh; (repeat (apply Ex.zc; (simp (disch := omega) [-getElem?_pos, r0, r2, r5, w1, w2, hB1, hM1, hf, zzr, zzs]; rfl))); exact Ex.zn; rfl; (simp; rfl))) | ((apply Wp.zi; (repeat ((first | apply Dr.q rfl rfl | apply Dr.r rfl rfl | apply Dr.imm rfl); (simp (disch := omega) [-getElem?_pos, r0, r2, r5, w1, w2, hB1, hM1, hf, zzr, zzs]; rfl); (focus first | (simp; rfl) | (simp; done) | (simp; omega)))); exact Dr.nil; rfl; (simp (disch := omega) [-getElem?_pos, r0, r2, r5, w1, w2, hB1, hM1, hf, zzr, zzs]); (simp; rfl))))
    simp [-getElem?_pos, a85]
   ·repeat (first | apply Wp.za | apply Wp.zb | apply Wp.zc | apply Wp.zd | apply Wp.ze | apply Wp.zf rfl | apply Wp.zg rfl | ((apply Wp.zh; (repeat (apply Ex.zc; (simp (disch := omega) [-getElem?_pos, r0, r2, r3, r5, w1, w2, hB1, hM1, hf, zzr, zzs]; rfl))); exact Ex.zn; rfl; (simp; rfl))) | ((apply Wp.zi; (repeat ((first | apply Dr.q rfl rfl | apply Dr.r rfl rfl | apply Dr.imm rfl); (simp (disch := omega) [-getElem?_pos, r0, r2, r3, r5, w1, w2, hB1, hM1, hf, zzr, zzs]; rfl); (focus first | (simp; rfl) | (simp; done) | (simp; omega)))); exact Dr.nil; rfl; (simp (disch := omega) [-getElem?_pos, r0, r2, r3, r5, w1, w2, hB1, hM1, hf, zzr, zzs]); (simp; rfl))))
    simp [-getElem?_pos, a85]
 ·rw [if_neg h1]
  by_cases h2 : r.kind = 2
  ·rw [if_pos h2]
   cases hof : zy5 b r.actor with
   | some j =>
    rw [hof] at hf
    obtain ⟨p, bn, hp, hf⟩ := hf
    refine fin _ _ ?_ (hb.badOut hg1)
    repeat (first | apply Wp.za | apply Wp.zb | apply Wp.zc | apply Wp.zd | apply Wp.ze | apply Wp.zf rfl | apply Wp.zg rfl | ((apply Wp.zh; (repeat (apply Ex.zc; (simp (disch := omega) [-getElem?_pos, r0, r2, r5, w1, w2, hB1, hM1, hf, zzr, zzs]; rfl))); exact Ex.zn; rfl; (simp; rfl))) | ((apply Wp.zi; (repeat ((first | apply Dr.q rfl rfl | apply Dr.r rfl rfl | apply Dr.imm rfl); (simp (disch := omega) [-getElem?_pos, r0, r2, r5, w1, w2, hB1, hM1, hf, zzr, zzs]; rfl); (focus first | (simp; rfl) | (simp; done) | (simp; omega)))); exact Dr.nil; rfl; (simp (disch := omega) [-getElem?_pos, r0, r2, r5, w1, w2, hB1, hM1, hf, zzr, zzs]); (simp; rfl))))
    simp [-getElem?_pos, a85]
   | none =>
    rw [hof] at hf
    have hbl : b.length < 400000000000 := by have := hsm.1; omega
    obtain ⟨sv', H3, tv', H5, hc, hg3, hone, happ, htv1, hlt, hB5, hout⟩ := hb.begin hr hs E.f111 (i := i) (n + 2) ⟨ha0, ha8⟩ hof hbl hg1
    have hBM : B ≠ M := fun e => by have := hb.oM; rw [← e, hb.oB] at this; omega
    have hltv : zyy tv = some (vi b.length) := by have := hb.txs.rd.lenS; rw [hb.each.1] at this; exact this
    have hX3 : H3.rowAt H.next 0 = some rc := by rw [hg3.rowAt (by simp)]; simp (disch := omega) [-getElem?_pos]
    have hB3 : H3.rowAt B 0 = some [tv, .map M, zzt false] := by rw [hg3.rowAt (by simp; omega)]; simp (disch := omega) [-getElem?_pos, hB1]
    have hcl5 : Cells H5 B [tv, .map M, zzt false] := by show H5.get B = _; rw [hB5]; exact hb1.cells
    have hw5 := hcl5.put0 htv1
    have hs40 := hs.at_
    have hbs := hs.rd.beq
    have hbt := hb.txs.beq
    have hcs := zx4 hone
    have hct := zx4 htv1
    have h3n := hg3.next
    simp only [zz6.next_set, zz6.zyc] at h3n
    simp only [txc, zv0] at happ
    have hmu : zwr (H.push (.row [some (0, rc)])) (.map M) (vi r.actor) (vi b.length) = some ((H.push (.row [some (0, rc)])).set M (.map (es ++ [(vi r.actor, vi b.length, clock)]) (clock + 1))) := by
     unfold zwr
     simp (disch := omega) [-getElem?_pos, hM1, hf]
    simp only [Option.isSome_none, Bool.false_eq_true, if_false]
    refine fin _ _ ?_ hout
    repeat (first | apply Wp.za | apply Wp.zb | apply Wp.zc | apply Wp.zd | apply Wp.ze | apply Wp.zf rfl | apply Wp.zg rfl | ((apply Wp.zh; (repeat (apply Ex.zc; (simp (disch := omega) [-getElem?_pos, r0, r1, r2, r3, r5, w1, w2, hB1, hM1, hf, zzr, zzs, hltv, hmu, hc, hX3, hB3, hs40, hbs, hbt, hcs, hct, happ, hw5, zzm, zx1]; rfl))); exact Ex.zn; rfl; (simp; rfl))) | ((apply Wp.zi; (repeat ((first | apply Dr.q rfl rfl | apply Dr.r rfl rfl | apply Dr.imm rfl); (simp (disch := omega) [-getElem?_pos, r0, r1, r2, r3, r5, w1, w2, hB1, hM1, hf, zzr, zzs, hltv, hmu, hc, hX3, hB3, hs40, hbs, hbt, hcs, hct, happ, hw5, zzm, zx1]; rfl); (focus first | (simp; rfl) | (simp; done) | (simp; omega)))); exact Dr.nil; rfl; (simp (disch := omega) [-getElem?_pos, r0, r1, r2, r3, r5, w1, w2, hB1, hM1, hf, zzr, zzs, hltv, hmu, hc, hX3, hB3, hs40, hbs, hbt, hcs, hct, happ, hw5, zzm, zx1]); (simp; rfl))))
    simp [-getElem?_pos, a85]
  ·rw [if_neg h2]
   exact c85o E n hins hb hr hs hsm hm hn ha0 ha8 h1 h2
end
section
variable {kn : zy0} {env : Nat → Option zzq}
variable {H H' H1 : zz6} {N B M clock : Nat} {i : Int} {b : List TxD} {tv sv rv wv sv' rv' : AVal} {es : zzb} {tvs : List (List AVal)} {o : Nat → Nat} {e : List AVal} {x x' : TxD} {r : RowD} {rc : List AVal}
def zpn (x : TxD) : TxD := { x with fate := if x.commit < 0 then 3 else 4, on := false }
def zsh (p : Int) (x : TxD) : TxD := if x.fate = 4 then { x with fate := if x.pos < p then 6 else 7 } else x
def zw3 (f : TxD → TxD) (b : List TxD) (l : List Nat) : List TxD := l.foldl (fun b k => zjb b k f) b
theorem zcu (f : TxD → TxD) : ∀ (l : List Nat) (b : List TxD) (j : Nat), l.Nodup → (zw3 f b l)[j]? = if j ∈ l then (b[j]?).map f else b[j]?
 | [], b, j, _ => by simp [-getElem?_pos, zw3]
 | k :: l, b, j, hn => by
  rw [List.nodup_cons] at hn
  have ih := zcu f l (zjb b k f) j hn.2
  show (zw3 f (zjb b k f) l)[j]? = _
  rw [ih]
  have hu : (zjb b k f)[j]? = if j = k then (b[j]?).map f else b[j]? := by
   unfold zjb
   cases hb : b[k]? with
   | none =>
    by_cases e : j = k
    ·subst e; simp [-getElem?_pos, hb]
    ·simp [-getElem?_pos, e]
   | some x =>
    have hk := (List.getElem?_eq_some_iff.1 hb).1
    simp only [List.getElem?_set]
    by_cases e : k = j
    ·subst e; simp [-getElem?_pos, hk, hb]
    ·rw [if_neg e, if_neg (fun h => e h.symm)]
  rw [hu]
  by_cases e : j = k
  ·subst e; rw [if_neg hn.1, if_pos rfl, if_pos (List.mem_cons_self ..)]
  ·simp [-getElem?_pos, e]
theorem zgt (f : TxD → TxD) : ∀ (l : List Nat) (b : List TxD), (zw3 f b l).length = b.length
 | [], b => rfl
 | k :: l, b => by
  show (zw3 f (zjb b k f) l).length = _
  rw [zgt f l]
  unfold zjb
  split <;> simp [-getElem?_pos]
theorem yzu (f : TxD → TxD) (b : List TxD) : zw3 f b (zzj b) = b.map fun x => if x.on then f x else x := by
 apply List.ext_getElem?
 intro j
 rw [zcu f _ _ _ (zjv b), List.getElem?_map]
 cases hb : b[j]? with
 | none => simp [-getElem?_pos]
 | some x =>
  by_cases hj : j ∈ zzj b
  ·obtain ⟨y, h1, h2⟩ := zxd.1 hj
   rw [hb] at h1; cases h1
   simp [-getElem?_pos, hj, h2]
  ·have : x.on = false := Bool.eq_false_iff.2 fun h => hj (zxd.2 ⟨x, hb, h⟩)
   simp [-getElem?_pos, hj, this]
theorem zna {f : TxD → TxD} {b : List TxD} {l : List Nat} {j k : Nat} (hk : l[j]? = some k) : zw3 f b (l.take (j + 1)) = zjb (zw3 f b (l.take j)) k f := by
 unfold zw3
 rw [List.take_add_one, hk, List.foldl_append]; rfl
theorem zek {f : TxD → TxD} {b : List TxD} {j k : Nat} (hz : (zzj b)[j]? = some k) : (zw3 f b ((zzj b).take j))[k]? = b[k]? := by
 rw [zcu f _ _ _ ((zjv b).sublist (List.take_sublist ..)), if_neg]
 intro h
 obtain ⟨q, hq⟩ := List.mem_iff_getElem?.1 h
 have hqj : q < j := by have := (List.getElem?_eq_some_iff.1 hq).1; simp [-getElem?_pos] at this; omega
 rw [List.getElem?_take, if_pos hqj] at hq
 have hql := (List.getElem?_eq_some_iff.1 hq).1
 have := (List.getElem?_inj hql (zjv b)).1 (hq.trans hz.symm)
 omega
theorem zgr (h : r.kind = 18) : zx3 b i r = some (zw3 zpn b (zzj b)) := by
 unfold zx3
 rw [if_neg (by omega), if_neg (by omega), if_neg (by omega), if_pos h, yzu]; rfl
structure RowE (kn : zy0) (env : Nat → Option zzq) : Prop extends ClientE kn env where
 f67 : Fn kn env 67 a67
 f86 : Fn kn env 86 a86
 f87 : Fn kn env 87 a87
 f88 : Fn kn env 88 a88
 live : ∀ B H, kn 68 [vp B] H = zp0 68 [vp B] H
theorem zuu.move (h : zuu H N rc r sv) (hg : ∀ A, A < N → H'.get A = H.get A) : zuu H' N rc r sv where
 at_ := h.at_
 rd := h.rd.move fun R ver off len kc ex e => by rw [zzk, zzk, hg R (h.lies _ _ _ _ _ _ _ e)]
 lies := h.lies
 len := h.len
abbrev C67 : List Nat := [0, 1, 2, 5, 6, 7, 9, 10, 11, 12, 14, 15, 29, 41, 51, 59, 67, 70, 71, 72, 73, 84, 95, 101, 102, 103, 115, 125]
theorem zbt (E : RowE kn env) (n : Nat) {b' : Option (List TxD)} {i : Int} (H2 : zz6) (h1 : Wp (zzp kn env (n + 4)) (n + 4) 130 C67 a67.code (argK 0 [vp B, vi i, .agg rc], H) (EndK a67.res fun v' h' => v' = .tuple [] ∧ h' = H2)) (h2 : Out H N B b' H2) :
  ∃ H', zzp kn env (n + 5) (.func (.func 67) []) [vp B, vi i, .agg rc] H = some (.tuple [], H') ∧ Out H N B b' H' := ⟨H2, Wp.call1 130 C67 E.f67.e (E.f67.no _ _) rfl (by simp) h1, h2⟩
theorem c67c (E : RowE kn env) (n : Nat) (hins : yyb (zzp kn env (n + 2))) (hb : Bk H N B b tv M es clock tvs o) (hr : RowC rc r) (hs : zuu H N rc r sv) {m : Nat} (hsm : zkx b m) (hm : m < 400000000000) (hn : m + 10 < n) (hk : 1 ≤ r.kind ∧ r.kind ≤ 9) :
  ∃ H', zzp kn env (n + 5) (.func (.func 67) []) [vp B, vi i, .agg rc] H = some (.tuple [], H') ∧ Out H N B (zx3 b i r) H' := by
 have hg1 := Grow.push H (.row [some (0, rc)])
 have hb1 := hb.grow hg1
 have hB := hb.hB
 have r0 := hr.a0
 have r5 := hr.len
 have rt : rc.take 41 = rc := List.take_of_length_le (by omega)
 obtain ⟨H2, hc, ho⟩ := c85 E.toClientE (i := i) n hins hb1 hr (hs.move fun A hA => zz6.zz9 _ _ (by omega)) hsm hm hn
 have hst : zx3 b i r = zur b i r := by unfold zx3; rw [if_pos hk]
 rw [hst]
 refine zbt E n H2 ?_ (ho.from hg1 (by omega))
 have : r.kind = 1 ∨ r.kind = 2 ∨ r.kind = 3 ∨ r.kind = 4 ∨ r.kind = 5 ∨ r.kind = 6 ∨ r.kind = 7 ∨ r.kind = 8 ∨ r.kind = 9 := by omega
 rcases this with h | h | h | h | h | h | h | h | h
 all_goals
  repeat (first | apply Wp.za | apply Wp.zb | apply Wp.zc | apply Wp.zd | apply Wp.ze | apply Wp.zf rfl | apply Wp.zg rfl | ((apply Wp.zh; (repeat (apply Ex.zc; (simp (disch := omega) [-getElem?_pos, r0, r5, rt, hc]; rfl))); exact Ex.zn; rfl; (simp; rfl))))
  simp [-getElem?_pos, a67]
theorem zee {t : Int} {k : Nat} (h : zvc b t = some k) : ∃ x, b[k]? = some x ∧ x.on = true := by
 unfold zvc at h
 cases hl : (zzj b).filter (zqf b t) with
 | nil => rw [hl] at h; cases h
 | cons z l =>
  cases l with
  | nil =>
   rw [hl] at h
   cases h
   exact zxd.1 (List.mem_filter.1 (by rw [hl]; exact List.mem_cons_self ..)).1
  | cons y l => rw [hl] at h; cases h
theorem c67a (E : RowE kn env) (n : Nat) (hn : 20 < n) (hb : Bk H N B b tv M es clock tvs o) (hr : RowC rc r) (hk : r.kind = 11) :
  ∃ H', zzp kn env (n + 5) (.func (.func 67) []) [vp B, vi i, .agg rc] H = some (.tuple [], H') ∧ Out H N B (zx3 b i r) H' := by
 have hg1 := Grow.push H (.row [some (0, rc)])
 have hb1 := hb.grow hg1
 have hB := hb.hB
 have r0 := hr.a0
 have r3 := hr.a3
 have r4 := hr.a4
 have r5 := hr.len
 have r37 := hr.a37
 have h86 := c86 E.f86 E.f110 (E.live B) (n + 2) (by omega) hb1 r.ticket (.func (.func 87) []) (fun x => decide (0 ≤ x.asked ∧ x.commit < 0)) fun H' hg k x R ver hx htv => by
  obtain ⟨R', ver', cells, sv, rv, wv, htv', _, _, _, hrow, hlen, hcell, _, _⟩ := (hb1.grow hg).tx hx
  rw [htv] at htv'; cases htv'
  exact c87 E.f87 (n + 2) hrow hlen hcell
 have hst : zx3 b i r = (zvc b r.ticket).bind fun k => (b[k]?).bind fun x => if 0 ≤ x.asked ∧ x.commit < 0 then some (if r.blk = -1 then b.set k { x with commit := i, pos := r.pos } else b) else none := by
  unfold zx3
  rw [if_neg (by omega), if_pos hk]
 rw [hst]
 cases ho : zvc b r.ticket with
 | none =>
  rw [ho] at h86
  obtain ⟨H2, hc, hbad⟩ := h86
  refine zbt E n H2 ?_ (Out.from (b' := none) hg1 (by omega) hbad)
  repeat (first | apply Wp.za | apply Wp.zb | apply Wp.zc | apply Wp.zd | apply Wp.ze | apply Wp.zf rfl | apply Wp.zg rfl | ((apply Wp.zh; (repeat (apply Ex.zc; (simp (disch := omega) [-getElem?_pos, r0, r3, r5, hc, zxh]; rfl))); exact Ex.zn; rfl; (simp; rfl))))
  simp [-getElem?_pos, a67]
 | some k =>
  rw [ho] at h86
  obtain ⟨x, hx, hon⟩ := zee ho
  have h86 := h86 x hx
  simp only [Option.bind_some, hx]
  by_cases hf : 0 ≤ x.asked ∧ x.commit < 0
  ·rw [if_pos (by simpa [-getElem?_pos] using hf)] at h86
   obtain ⟨R, ver, H2, htv, hc, hg2⟩ := h86
   rw [if_pos hf]
   have hX2 : H2.rowAt H.next 0 = some rc := by rw [hg2.rowAt (by simp)]; simp [-getElem?_pos]
   have hn2 := hg2.next
   simp only [zz6.zyc] at hn2
   have hb2 := hb1.grow hg2
   by_cases h4 : r.blk = -1
   ·rw [if_pos h4]
    obtain ⟨R', ver', H3, htv', hw, hn3, ⟨tvs3, hb3⟩, hN3, hR3⟩ := hb2.num (f := 8) (y := vi i) (x' := { x with commit := i }) hx (by omega) rfl (fun _ _ _ => by simp [-getElem?_pos, txc]) ⟨rfl, rfl, rfl⟩ rfl rfl
    rw [htv] at htv'; cases htv'
    have hkl := (List.getElem?_eq_some_iff.1 hx).1
    obtain ⟨R', ver', H4, htv', hw4, hn4, ⟨tvs4, hb4⟩, hN4, _⟩ := hb3.num (k := k) (f := 9) (y := vu r.pos) (x := { x with commit := i }) (x' := { x with commit := i, pos := r.pos }) (by rw [List.getElem?_set_self hkl]) (by omega) rfl (fun _ _ _ => by simp [-getElem?_pos, txc]) ⟨rfl, rfl, rfl⟩ rfl rfl
    rw [List.length_set, htv] at htv'; cases htv'
    rw [List.set_set] at hb4
    have hRX : R ≠ H.next := by
     obtain ⟨R', ver', _, _, _, _, e, _, h, _⟩ := hb.tx hx
     rw [htv] at e; cases e; omega
    have hX3 : H3.rowAt H.next 0 = some rc := by rw [zzk, hR3 _ (fun e => hRX e.symm), ← zzk]; exact hX2
    refine zbt E n H4 ?_ (Out.from (b' := some _) (H1 := H2) (hg1.trans hg2) (by omega) ⟨⟨_, _, _, _, _, _, hb4⟩, fun A hA => by rw [hN4 A hA, hN3 A hA], by omega⟩)
    repeat (first | apply Wp.za | apply Wp.zb | apply Wp.zc | apply Wp.zd | apply Wp.ze | apply Wp.zf rfl | apply Wp.zg rfl | ((apply Wp.zh; (repeat (apply Ex.zc; (simp (disch := omega) [-getElem?_pos, r0, r3, r4, r5, r37, hc, zxh, hX2, hX3, hw, hw4]; rfl))); exact Ex.zn; rfl; (simp; rfl))) | ((apply Wp.zi; (repeat ((first | apply Dr.q rfl rfl | apply Dr.r rfl rfl | apply Dr.imm rfl); (simp (disch := omega) [-getElem?_pos, r0, r3, r4, r5, r37, hc, zxh, hX2, hX3, hw, hw4]; rfl); (focus first | (simp; rfl) | (simp; done) | (simp; omega)))); exact Dr.nil; rfl; (simp (disch := omega) [-getElem?_pos, r0, r3, r4, r5, r37, hc, zxh, hX2, hX3, hw, hw4]); (simp; rfl))))
    simp [-getElem?_pos, a67]
   ·rw [if_neg h4]
    refine zbt E n H2 ?_ (Out.from (b' := some b) hg1 (by omega) (hb1.sameOut hg2))
    repeat (first | apply Wp.za | apply Wp.zb | apply Wp.zc | apply Wp.zd | apply Wp.ze | apply Wp.zf rfl | apply Wp.zg rfl | ((apply Wp.zh; (repeat (apply Ex.zc; (simp (disch := omega) [-getElem?_pos, r0, r3, r4, r5, hc, zxh, hX2]; rfl))); exact Ex.zn; rfl; (simp; rfl))) | ((apply Wp.zi; (repeat ((first | apply Dr.q rfl rfl | apply Dr.r rfl rfl | apply Dr.imm rfl); (simp (disch := omega) [-getElem?_pos, r0, r3, r4, r5, hc, zxh, hX2]; rfl); (focus first | (simp; rfl) | (simp; done) | (simp; omega)))); exact Dr.nil; rfl; (simp (disch := omega) [-getElem?_pos, r0, r3, r4, r5, hc, zxh, hX2]); (simp; rfl))))
    simp [-getElem?_pos, a67]
  ·rw [if_neg (by simpa [-getElem?_pos] using hf)] at h86
   obtain ⟨H2, hc, hbad⟩ := h86
   rw [if_neg hf]
   refine zbt E n H2 ?_ (Out.from (b' := none) hg1 (by omega) hbad)
   repeat (first | apply Wp.za | apply Wp.zb | apply Wp.zc | apply Wp.zd | apply Wp.ze | apply Wp.zf rfl | apply Wp.zg rfl | ((apply Wp.zh; (repeat (apply Ex.zc; (simp (disch := omega) [-getElem?_pos, r0, r3, r5, hc, zxh]; rfl))); exact Ex.zn; rfl; (simp; rfl))))
   simp [-getElem?_pos, a67]
theorem c67d (E : RowE kn env) (n : Nat) (hn : 20 < n) (hb : Bk H N B b tv M es clock tvs o) (hr : RowC rc r) (hk : r.kind = 13) :
  ∃ H', zzp kn env (n + 5) (.func (.func 67) []) [vp B, vi i, .agg rc] H = some (.tuple [], H') ∧ Out H N B (zx3 b i r) H' := by
 have hg1 := Grow.push H (.row [some (0, rc)])
 have hb1 := hb.grow hg1
 have hB := hb.hB
 have r0 := hr.a0
 have r3 := hr.a3
 have r5 := hr.len
 have h86 := c86 E.f86 E.f110 (E.live B) (n + 2) (by omega) hb1 r.ticket (.func (.func 88) [vp H.next]) (fun x => decide (0 ≤ x.commit ∧ x.pos = r.pos)) fun H' hg k x R ver hx htv => by
  obtain ⟨R', ver', cells, sv, rv, wv, htv', _, _, _, hrow, hlen, hcell, _, _⟩ := (hb1.grow hg).tx hx
  rw [htv] at htv'; cases htv'
  exact c88 E.f88 (n + 2) hrow hlen hcell (by rw [hg.rowAt (by simp)]; simp [-getElem?_pos]) hr
 have hst : zx3 b i r = (zvc b r.ticket).bind fun k => (b[k]?).bind fun x => if 0 ≤ x.commit ∧ x.pos = r.pos then some (b.set k { x with done := i, fate := 5, on := false }) else none := by
  unfold zx3
  rw [if_neg (by omega), if_neg (by omega), if_pos hk]
 rw [hst]
 cases ho : zvc b r.ticket with
 | none =>
  rw [ho] at h86
  obtain ⟨H2, hc, hbad⟩ := h86
  refine zbt E n H2 ?_ (Out.from (b' := none) hg1 (by omega) hbad)
  repeat (first | apply Wp.za | apply Wp.zb | apply Wp.zc | apply Wp.zd | apply Wp.ze | apply Wp.zf rfl | apply Wp.zg rfl | ((apply Wp.zh; (repeat (apply Ex.zc; (simp (disch := omega) [-getElem?_pos, r0, r3, r5, hc, zxh]; rfl))); exact Ex.zn; rfl; (simp; rfl))))
  simp [-getElem?_pos, a67]
 | some k =>
  rw [ho] at h86
  obtain ⟨x, hx, hon⟩ := zee ho
  have h86 := h86 x hx
  simp only [Option.bind_some, hx]
  by_cases hf : 0 ≤ x.commit ∧ x.pos = r.pos
  ·rw [if_pos (by simpa [-getElem?_pos] using hf)] at h86
   obtain ⟨R, ver, H2, htv, hc, hg2⟩ := h86
   rw [if_pos hf]
   have hb2 := hb1.grow hg2
   obtain ⟨R', ver', H3, htv', hw, hn3, ⟨tvs3, hb3⟩, hN3, hR3⟩ := hb2.num (f := 10) (y := vi i) (x' := { x with done := i }) hx (by omega) rfl (fun _ _ _ => by simp [-getElem?_pos, txc]) ⟨rfl, rfl, rfl⟩ rfl rfl
   rw [htv] at htv'; cases htv'
   have hkl := (List.getElem?_eq_some_iff.1 hx).1
   obtain ⟨H4, es4, tvs4, hc4, hb4, hn4, hN4, _⟩ := c89 E.f89 (n + 3) hb3 (k := k) (x := { x with done := i }) (f := 5) (by rw [List.getElem?_set_self hkl]) hon (by rw [List.length_set]; exact htv)
   rw [List.set_set] at hb4
   refine zbt E n H4 ?_ (Out.from (b' := some _) (H1 := H2) (hg1.trans hg2) (by omega) ⟨⟨_, _, _, _, _, _, hb4⟩, fun A hA => by rw [hN4 A hA, hN3 A hA], by omega⟩)
   repeat (first | apply Wp.za | apply Wp.zb | apply Wp.zc | apply Wp.zd | apply Wp.ze | apply Wp.zf rfl | apply Wp.zg rfl | ((apply Wp.zh; (repeat (apply Ex.zc; (simp (disch := omega) [-getElem?_pos, r0, r3, r5, hc, zxh, hw, hc4]; rfl))); exact Ex.zn; rfl; (simp; rfl))))
   simp [-getElem?_pos, a67]
  ·rw [if_neg (by simpa [-getElem?_pos] using hf)] at h86
   obtain ⟨H2, hc, hbad⟩ := h86
   rw [if_neg hf]
   refine zbt E n H2 ?_ (Out.from (b' := none) hg1 (by omega) hbad)
   repeat (first | apply Wp.za | apply Wp.zb | apply Wp.zc | apply Wp.zd | apply Wp.ze | apply Wp.zf rfl | apply Wp.zg rfl | ((apply Wp.zh; (repeat (apply Ex.zc; (simp (disch := omega) [-getElem?_pos, r0, r3, r5, hc, zxh]; rfl))); exact Ex.zn; rfl; (simp; rfl))))
   simp [-getElem?_pos, a67]
theorem c67n (E : RowE kn env) (n : Nat) (hb : Bk H N B b tv M es clock tvs o) (hr : RowC rc r) (hk : ¬ (1 ≤ r.kind ∧ r.kind ≤ 9) ∧ r.kind ≠ 11 ∧ r.kind ≠ 13 ∧ r.kind ≠ 18 ∧ r.kind ≠ 19) :
  ∃ H', zzp kn env (n + 5) (.func (.func 67) []) [vp B, vi i, .agg rc] H = some (.tuple [], H') ∧ Out H N B (zx3 b i r) H' := by
 have hg1 := Grow.push H (.row [some (0, rc)])
 have r0 := hr.a0
 have r5 := hr.len
 obtain ⟨h1, h2, h3, h4, h5⟩ := hk
 have hst : zx3 b i r = some b := by
  unfold zx3
  rw [if_neg h1, if_neg h2, if_neg h3, if_neg h4, if_neg h5]
 rw [hst]
 refine zbt E n _ ?_ (hb.sameOut hg1)
 by_cases h : r.kind < 1
 ·repeat (first | apply Wp.za | apply Wp.zb | apply Wp.zc | apply Wp.zd | apply Wp.ze | apply Wp.zf rfl | apply Wp.zg rfl | ((apply Wp.zh; (repeat (apply Ex.zc; (simp (disch := omega) [-getElem?_pos, r0, r5]; rfl))); exact Ex.zn; rfl; (simp; rfl))))
  simp [-getElem?_pos, a67]
 ·repeat (first | apply Wp.za | apply Wp.zb | apply Wp.zc | apply Wp.zd | apply Wp.ze | apply Wp.zf rfl | apply Wp.zg rfl | ((apply Wp.zh; (repeat (apply Ex.zc; (simp (disch := omega) [-getElem?_pos, r0, r5]; rfl))); exact Ex.zn; rfl; (simp; rfl))))
  simp [-getElem?_pos, a67]
end
end Go.Proofs.Ythbjfkkjmecaaaa
