/- Walks: the reference's book: a row of a client's. -/
import Derived.Test.YthbjfkkjmecaaaaY33
import Derived.Test.YthbjfkkjmecaaaaY19
set_option linter.unusedVariables false
set_option linter.unusedSimpArgs false
namespace Go.Proofs.Ythbjfkkjmecaaaa
open Go Go.Vm
section
variable {kn : zy0} {env : Nat → Option zzq}
variable {H H' H1 : zz6} {N B : Nat} {i : Int} {b : List TxD} {tv ev sv rv wv : AVal} {tvs : List (List AVal)} {o : Nat → Nat} {x x' : TxD} {r : RowD} {rc : List AVal}
theorem zfx {c : Int} {k : Nat} (h : zy5 b c = some k) : ∃ x, b[k]? = some x ∧ x.on = true ∧ x.client = c := by
 obtain ⟨h1, h2⟩ := zqb h
 obtain ⟨x, hx, hon⟩ := zxd.1 h1
 refine ⟨x, hx, hon, ?_⟩
 unfold zy3 at h2
 rw [hx] at h2; exact h2
theorem zp6 (a b : Nat) : Nat.beq a b = decide (a = b) := by
 rw [Bool.eq_iff_iff, Nat.beq_eq, decide_eq_true_iff]
abbrev C78 : List Nat := [0, 1, 2, 5, 6, 7, 15, 20, 36, 41, 97, 99, 100, 125, 148, 158]
set_option maxHeartbeats 4000000 in
theorem c78 (E : BookE kn env) (n : Nat) (hb : RB H N B (zbl b) (zbq b) tv ev tvs o) (hr : RowC rc r) (hs : zuu H N rc r sv) (hk : 1 ≤ r.kind ∧ r.kind ≤ 9) {m : Nat} (hsm : zkx b m) (hm : m < 400000000000) (hn : m + 10 < n) :
  ∃ v H', zzp kn env (n + 2) (.func (.func 78) []) [vp B, vi i, .agg rc] H = some (v, H') ∧ ztg H N B (zx3 b i r) v H' := by
 have hst : zx3 b i r = zur b i r := by unfold zx3; rw [if_pos hk]
 rw [hst]
 have hBn := hb.hB
 have hbl : b.length < 400000000000 := by have := hsm.1; omega
 obtain ⟨H1, hH1⟩ : ∃ H1, H1 = H.push (.row [some (0, rc)]) := ⟨_, rfl⟩
 have hn1 : H1.next = H.next + 1 := by rw [hH1]; simp [-getElem?_pos]
 have hg1 : Grow H H1 := by rw [hH1]; exact Grow.push _ _
 have hX : H1.rowAt H.next 0 = some rc := by rw [hH1]; simp [-getElem?_pos]
 have hb1 := hb.grow hg1
 have h105 := c105 E.f105 n hb1 r.actor (by have := hsm.1; omega) hbl
 have r0 := hr.a0; have r1 := hr.a1; have r2 := hr.a2; have r3 := hr.a3; have r4 := hr.a4; have r5 := hr.len
 have no : ztg H N B none (zzt false) H1 := ⟨rfl, by omega, fun A hA => hg1.get A (by omega)⟩
 have yes : ztg H N B (some b) (zzt true) H1 := hb1.out (by omega) fun A hA => hg1.get A (by omega)
 have hB1 := hb1.cells.at
 refine Wp.call 173 C78 E.f78.e (E.f78.no _ H) (n := n + 1) rfl (by simp) ?_
 repeat (first | apply Wp.za | apply Wp.zb)
 (repeat (first | apply Wp.za | apply Wp.zb)); (apply Wp.zh; (repeat (apply Ex.zc; (simp (disch := omega) [-getElem?_pos]; rfl))); exact Ex.zn; rfl; (simp; rfl))
 rw [← hH1]
 by_cases ha : 0 ≤ r.actor ∧ r.actor < 8
 case neg =>
  have : zur b i r = none := by unfold zur; rw [if_pos ha]
  rw [this]
  by_cases h0 : r.actor < 0
  ·repeat (first | apply Wp.za | apply Wp.zb | apply Wp.zc | apply Wp.zd | apply Wp.ze | apply Wp.zf rfl | apply Wp.zg rfl | ((apply Wp.zh; (repeat (apply Ex.zc; (simp (disch := omega) [-getElem?_pos, hX, r2, h0]; rfl))); exact Ex.zn; rfl; (simp; rfl))))
   simp [-getElem?_pos, a78]
   exact no
  ·repeat (first | apply Wp.za | apply Wp.zb | apply Wp.zc | apply Wp.zd | apply Wp.ze | apply Wp.zf rfl | apply Wp.zg rfl | ((apply Wp.zh; (repeat (apply Ex.zc; (simp (disch := omega) [-getElem?_pos, hX, r2, h0]; rfl))); exact Ex.zn; rfl; (simp; rfl))))
   simp [-getElem?_pos, a78]
   exact no
 case pos =>
 obtain ⟨ha0, ha8⟩ := ha
 have hst : zur b i r = if r.kind = 1 ∨ (r.kind = 7 ∧ r.ticket = 0) then (if (zy5 b r.actor).isSome then none else some b) else if r.kind = 2 then (if (zy5 b r.actor).isSome then none else some (b ++ [zv0 i r])) else
  (ofB b r).map fun k =>
  if r.kind = 5 then zjb b k fun x => { x with reads := x.reads ++ [⟨i, r.blk, r.val⟩] }
  else if r.kind = 6 then zjb b k fun x => { x with writes := zyx x.writes ⟨r.blk, r.val⟩ }
  else if r.kind = 8 then zjb b k fun x => { x with asked := i }
  else if r.kind = 9 then zjb b k fun x => { x with fate := 2, on := false }
  else b := by
  unfold zur; rw [if_neg (fun h => h ⟨ha0, ha8⟩)]
 rw [hst]
 by_cases h1 : r.kind = 1 ∨ (r.kind = 7 ∧ r.ticket = 0)
 ·rw [if_pos h1]
  cases hof : zy5 b r.actor with
  | some j =>
   rw [hof] at h105
   simp only [Option.isSome_some, if_true]
   rcases h1 with h1 | ⟨h1, h2⟩
   ·repeat (first | apply Wp.za | apply Wp.zb | apply Wp.zc | apply Wp.zd | apply Wp.ze | apply Wp.zf rfl | apply Wp.zg rfl | ((apply Wp.zh; (repeat (apply Ex.zc; (simp (disch := omega) [-getElem?_pos, hX, r0, r2, h105, h1, atV]; rfl))); exact Ex.zn; rfl; (simp; rfl))))
    simp [-getElem?_pos, a78]
    exact no
   ·repeat (first | apply Wp.za | apply Wp.zb | apply Wp.zc | apply Wp.zd | apply Wp.ze | apply Wp.zf rfl | apply Wp.zg rfl | ((apply Wp.zh; (repeat (apply Ex.zc; (simp (disch := omega) [-getElem?_pos, hX, r0, r2, r3, h105, h1, h2, atV]; rfl))); exact Ex.zn; rfl; (simp; rfl))))
    simp [-getElem?_pos, a78]
    exact no
  | none =>
   rw [hof] at h105
   simp only [Option.isSome_none, Bool.false_eq_true, if_false]
   rcases h1 with h1 | ⟨h1, h2⟩
   ·repeat (first | apply Wp.za | apply Wp.zb | apply Wp.zc | apply Wp.zd | apply Wp.ze | apply Wp.zf rfl | apply Wp.zg rfl | ((apply Wp.zh; (repeat (apply Ex.zc; (simp (disch := omega) [-getElem?_pos, hX, r0, r2, h105, h1, atV]; rfl))); exact Ex.zn; rfl; (simp; rfl))))
    simp [-getElem?_pos, a78]
    exact yes
   ·repeat (first | apply Wp.za | apply Wp.zb | apply Wp.zc | apply Wp.zd | apply Wp.ze | apply Wp.zf rfl | apply Wp.zg rfl | ((apply Wp.zh; (repeat (apply Ex.zc; (simp (disch := omega) [-getElem?_pos, hX, r0, r2, r3, h105, h1, h2, atV]; rfl))); exact Ex.zn; rfl; (simp; rfl))))
    simp [-getElem?_pos, a78]
    exact yes
 ·rw [if_neg h1]
  have h10 : r.kind ≠ 1 := fun e => h1 (.inl e)
  have h70 : r.kind = 7 → r.ticket ≠ 0 := fun e h => h1 (.inr ⟨e, h⟩)
  by_cases h2 : r.kind = 2
  ·rw [if_pos h2]
   cases hof : zy5 b r.actor with
   | some j =>
    rw [hof] at h105
    simp only [Option.isSome_some, if_true]
    repeat (first | apply Wp.za | apply Wp.zb | apply Wp.zc | apply Wp.zd | apply Wp.ze | apply Wp.zf rfl | apply Wp.zg rfl | ((apply Wp.zh; (repeat (apply Ex.zc; (simp (disch := omega) [-getElem?_pos, hX, r0, r2, h105, h2, atV]; rfl))); exact Ex.zn; rfl; (simp; rfl))))
    simp [-getElem?_pos, a78]
    exact no
   | none =>
    rw [hof] at h105
    simp only [Option.isSome_none, Bool.false_eq_true, if_false]
    obtain ⟨sv', H3, tv', H5, ev', H8, ha3, hsone, hn3, hk3, ha5, htone, hn5, hc5, ha8', heone, hc8, hout⟩ := hb.begin (i := i) hs hbl hg1
    have hX3 : H3.rowAt H.next 0 = some rc := by rw [zzk, hk3 _ (by omega), ← zzk]; exact hX
    have hB3 : H3.rowAt B 0 = some [tv, ev] := by rw [zzk, hk3 _ (by omega), ← zzk]; exact hB1
    have hw5 : H5.write B 0 0 [tv'] = some (H5.set B (.row [some (0, [tv', ev])])) := by rw [Cells.write hc5 (by simp) (by simp) (by simp [-getElem?_pos, htone])]; rfl
    have hw8 : H8.write B 0 1 [ev'] = some (H8.set B (.row [some (0, [tv', ev'])])) := by rw [Cells.write hc8 (by simp) (by simp) (by simp [-getElem?_pos, heone])]; rfl
    have hs40 := hs.at_
    have hbs := hs.rd.beq
    have hbt := hb.txs.beq
    have hcs := zx4 hsone
    have hct := zx4 htone
    have hce := zx4 heone
    simp only [txc, zv0, zxc, if_true] at ha5
    repeat (first | apply Wp.za | apply Wp.zb | apply Wp.zc | apply Wp.zd | apply Wp.ze | apply Wp.zf rfl | apply Wp.zg rfl | ((apply Wp.zh; (repeat (apply Ex.zc; (simp (disch := omega) [-getElem?_pos, hX, r0, r1, r2, r3, r5, h105, h2, atV, hB1, hX3, hB3, hs40, hbs, hbt, hcs, hct, hce, ha3, ha5, hw5, ha8', hw8, zzm, zx1]; rfl))); exact Ex.zn; rfl; (simp; rfl))) | ((apply Wp.zi; (repeat ((first | apply Dr.q rfl rfl | apply Dr.r rfl rfl | apply Dr.imm rfl); (simp (disch := omega) [-getElem?_pos, hX, r0, r1, r2, r3, r5, h105, h2, atV, hB1, hX3, hB3, hs40, hbs, hbt, hcs, hct, hce, ha3, ha5, hw5, ha8', hw8, zzm, zx1]; rfl); (focus first | (simp; rfl) | (simp; done) | (simp; omega)))); exact Dr.nil; rfl; (first | (focus (simp (disch := omega) [-getElem?_pos, hX, r0, r1, r2, r3, r5, h105, h2, atV, hB1, hX3, hB3, hs40, hbs, hbt, hcs, hct, hce, ha3, ha5, hw5, ha8', hw8, zzm, zx1]; done)) | rfl); (simp; rfl))))
    simp [-getElem?_pos, a78]
    exact hout
  ·rw [if_neg h2]
   cases hof : zy5 b r.actor with
   | none =>
    have hob : ofB b r = none := by unfold ofB; rw [hof]; rfl
    rw [hof] at h105
    rw [hob]
    by_cases h7 : r.kind = 7
    all_goals
     repeat (first | apply Wp.za | apply Wp.zb | apply Wp.zc | apply Wp.zd | apply Wp.ze | apply Wp.zf rfl | apply Wp.zg rfl | ((apply Wp.zh; (repeat (apply Ex.zc; (simp (disch := omega) [-getElem?_pos, hX, r0, r2, r3, h105, h10, h2, h7, h70, atV]; rfl))); exact Ex.zn; rfl; (simp; rfl))) | ((apply Wp.zi; (repeat ((first | apply Dr.q rfl rfl | apply Dr.r rfl rfl | apply Dr.imm rfl); (simp (disch := omega) [-getElem?_pos, hX, r0, r2, r3, h105, h10, h2, h7, h70, atV]; rfl); (focus first | (simp; rfl) | (simp; done) | (simp; omega)))); exact Dr.nil; rfl; (first | (focus (simp (disch := omega) [-getElem?_pos, hX, r0, r2, r3, h105, h10, h2, h7, h70, atV]; done)) | rfl); (simp; rfl))))
     simp [-getElem?_pos, a78]
     exact no
   | some k =>
    rw [hof] at h105
    obtain ⟨x, hx, hon, hcl⟩ := zfx hof
    have hkl := (List.getElem?_eq_some_iff.1 hx).1
    have hob : ofB b r = if x.ticket = r.ticket ∧ x.asked < 0 then some k else none := by unfold ofB; rw [hof]; simp only [Option.bind_some, hx]
    obtain ⟨R, ver, R2, ver2, htv, hev⟩ := hb1.vals (zxy hx)
    rw [List.length_map] at htv hev
    obtain ⟨cells, sv, rv, wv, hrow, hlen, hcell⟩ := hb1.rdT htv (zxy hx)
    have g2 := hcell 2 (by omega)
    have g5 := hcell 5 (by omega)
    have g7 := hcell 7 (by omega)
    simp only [txc, List.getElem?_cons_succ, List.getElem?_cons_zero, zxc] at g2 g5 g7
    have hRn : R < H.next := (hb.txsL _ _ _ _ _ _ _ htv).2.1
    rw [htv, hev] at hB1
    by_cases ht : x.ticket = r.ticket
    ·by_cases hq : x.asked < 0
     ·rw [if_pos ⟨ht, hq⟩] at hob
      rw [hob]
      have hup : ∀ f : TxD → TxD, zjb b k f = b.set k (f x) := fun f => by unfold zjb; rw [hx]
      obtain ⟨hri, hlw, hlr⟩ := hsm.2 x (List.mem_of_getElem? hx)
      simp only [Option.map_some]
      by_cases h5 : r.kind = 5
      ·rw [if_pos h5, hup]
       obtain ⟨R', ver', cells', rv', rv'', H4, H5, htv', hrow', g4, hlen', hrone, ha4, hrone', hn4, hc4, hw5, hn5, hk4, hout⟩ := hb1.read hx ⟨i, r.blk, r.val⟩ hr.isv (by omega)
       rw [htv] at htv'; cases htv'
       rw [hrow] at hrow'; cases hrow'
       have hB4 := hc4.at
       rw [htv, hev] at hB4
       have hbq : AVal.beqs r.val r.val = true := zyq hr.isv.bytes
       have hcr := zx4 hrone'
       have hv32 := hr.isv.len
       have hav := hr.av
       simp only [zta.cells] at ha4
       obtain ⟨hbr, hlr'⟩ : AVal.beq rv' rv' = true ∧ rv'.lies (· < H.next) := by
        obtain ⟨R', ver', cells', _, rv9, _, e1, _, _, _, q2, _, q3, _, q4⟩ := hb.tx (zxy hx)
        rw [List.length_map, htv] at e1; cases e1
        rw [hg1.rowAt hRn, q2] at hrow; cases hrow
        have := q3 4 (by omega)
        simp only [txc, List.getElem?_cons_succ, List.getElem?_cons_zero] at this
        rw [g4] at this; cases this
        exact ⟨q4.reads.beq, fun R ver off len kc ex esz e => (q4.readsL _ _ _ _ _ _ _ e).2.1⟩
       have hX4 : H4.rowAt H.next 0 = some rc := by
        rw [zzk, hk4 _ (by omega) (fun R ver off len kc ex esz e => by have := hlr' _ _ _ _ _ _ _ e; omega), ← zzk]; exact hX
       repeat (first | apply Wp.za | apply Wp.zb | apply Wp.zc | apply Wp.zd | apply Wp.ze | apply Wp.zf rfl | apply Wp.zg rfl | ((apply Wp.zh; (repeat (apply Ex.zc; (simp (disch := omega) [-getElem?_pos, hX, r0, r2, r3, r4, r5, h105, h5, atV, hB1, hrow, g2, g4, g7, ht, hq, ha4, hbq, hbr, hcr, hv32, hav, hB4, hX4, zp6, hw5, zzm, zx1]; rfl))); exact Ex.zn; rfl; (simp; rfl))) | ((apply Wp.zi; (repeat ((first | apply Dr.q rfl rfl | apply Dr.r rfl rfl | apply Dr.imm rfl); (simp (disch := omega) [-getElem?_pos, hX, r0, r2, r3, r4, r5, h105, h5, atV, hB1, hrow, g2, g4, g7, ht, hq, ha4, hbq, hbr, hcr, hv32, hav, hB4, hX4, zp6, hw5, zzm, zx1]; rfl); (focus first | (simp; rfl) | (simp; done) | (simp; omega)))); exact Dr.nil; rfl; (first | (focus (simp (disch := omega) [-getElem?_pos, hX, r0, r2, r3, r4, r5, h105, h5, atV, hB1, hrow, g2, g4, g7, ht, hq, ha4, hbq, hbr, hcr, hv32, hav, hB4, hX4, zp6, hw5, zzm, zx1]; done)) | rfl); (simp; rfl))))
       simp [-getElem?_pos, a78]
       exact hout.from hg1 (by omega)
      rw [if_neg h5]
      by_cases h6 : r.kind = 6
      ·rw [if_pos h6, hup]
       obtain ⟨R', ver', cells', sv9, rv9, wv9, e1, _, _, _, q2, _, q3, _, q4⟩ := hb1.tx (zxy hx)
       rw [List.length_map, htv] at e1; cases e1
       rw [hrow] at q2; cases q2
       have q5 := q3 5 (by omega)
       simp only [txc, List.getElem?_cons_succ, List.getElem?_cons_zero] at q5
       obtain ⟨wv', H4, h106, hg4, hs4⟩ := c106 E.f106 n (H := H1) (x := ⟨r.blk, r.val⟩) q4.writes.rd (fun R ver off len kc ex esz e => (q4.writesL _ _ _ _ _ _ _ e).2.1) q4.wvals hr.isv (by have : (zxc x).writes = x.writes := rfl; rw [this]; omega) (by have : (zxc x).writes = x.writes := rfl; rw [this]; omega)
       obtain ⟨R5, ver5, H5, e5, hw5, hn5, hout⟩ := hb1.wrote hx (y := ⟨r.blk, r.val⟩) hr.isv hg4 hs4
       rw [htv] at e5; cases e5
       have hB4 : H4.rowAt B 0 = some [tv, ev] := by rw [hg4.rowAt (by omega)]; exact hb1.cells.at
       rw [htv, hev] at hB4
       have hX4 : H4.rowAt H.next 0 = some rc := by rw [hg4.rowAt (by omega)]; exact hX
       have hbq : AVal.beqs r.val r.val = true := zyq hr.isv.bytes
       have hbw := q4.writes.beq
       have hcw := zx4 hs4.rd.one
       have hv32 := hr.isv.len
       have hav := hr.av
       simp only [ImgD.cells] at h106
       have hn4 := hg4.next
       repeat (first | apply Wp.za | apply Wp.zb | apply Wp.zc | apply Wp.zd | apply Wp.ze | apply Wp.zf rfl | apply Wp.zg rfl | ((apply Wp.zh; (repeat (apply Ex.zc; (simp (disch := omega) [-getElem?_pos, hX, r0, r2, r3, r4, r5, h105, h6, atV, hB1, hrow, g2, q5, g7, ht, hq, h106, hbq, hbw, hcw, hv32, hav, hB4, hX4, zp6, hw5, zzm, zx1]; rfl))); exact Ex.zn; rfl; (simp; rfl))) | ((apply Wp.zi; (repeat ((first | apply Dr.q rfl rfl | apply Dr.r rfl rfl | apply Dr.imm rfl); (simp (disch := omega) [-getElem?_pos, hX, r0, r2, r3, r4, r5, h105, h6, atV, hB1, hrow, g2, q5, g7, ht, hq, h106, hbq, hbw, hcw, hv32, hav, hB4, hX4, zp6, hw5, zzm, zx1]; rfl); (focus first | (simp; rfl) | (simp; done) | (simp; omega)))); exact Dr.nil; rfl; (first | (focus (simp (disch := omega) [-getElem?_pos, hX, r0, r2, r3, r4, r5, h105, h6, atV, hB1, hrow, g2, q5, g7, ht, hq, h106, hbq, hbw, hcw, hv32, hav, hB4, hX4, zp6, hw5, zzm, zx1]; done)) | rfl); (simp; rfl))))
       simp [-getElem?_pos, a78]
       exact hout.from hg1 (by omega)
      rw [if_neg h6]
      by_cases h8 : r.kind = 8
      ·rw [if_pos h8, hup]
       obtain ⟨H2, tvs2, hw2, hb2, hn2, ho2⟩ := hb1.numT htv (f := 7) (u := vi i) (zxy hx) { zxc x with asked := i } ⟨rfl, rfl, rfl⟩ (fun _ _ _ => rfl) (by omega) rfl
       have hcx : zxc { x with asked := i } = { zxc x with asked := i } := rfl
       rw [zq5 hcx, ← zvf (x' := { x with asked := i }) hx rfl] at hb2
       repeat (first | apply Wp.za | apply Wp.zb | apply Wp.zc | apply Wp.zd | apply Wp.ze | apply Wp.zf rfl | apply Wp.zg rfl | ((apply Wp.zh; (repeat (apply Ex.zc; (simp (disch := omega) [-getElem?_pos, hX, r0, r2, r3, r5, h105, h8, atV, hB1, hrow, g2, g7, ht, hq, hw2]; rfl))); exact Ex.zn; rfl; (simp; rfl))) | ((apply Wp.zi; (repeat ((first | apply Dr.q rfl rfl | apply Dr.r rfl rfl | apply Dr.imm rfl); (simp (disch := omega) [-getElem?_pos, hX, r0, r2, r3, r5, h105, h8, atV, hB1, hrow, g2, g7, ht, hq, hw2]; rfl); (focus first | (simp; rfl) | (simp; done) | (simp; omega)))); exact Dr.nil; rfl; (first | (focus (simp (disch := omega) [-getElem?_pos, hX, r0, r2, r3, r5, h105, h8, atV, hB1, hrow, g2, g7, ht, hq, hw2]; done)) | rfl); (simp; rfl))))
       simp [-getElem?_pos, a78]
       exact hb2.out (by omega) fun A hA => by rw [ho2 A hA, hg1.get A (by omega)]
      rw [if_neg h8]
      by_cases h9 : r.kind = 9
      ·rw [if_pos h9, hup]
       obtain ⟨H2, tvs2, hw2, hb2, hn2, ho2⟩ := hb1.numT htv (f := 11) (u := vi 2) (zxy hx) { zxc x with fate := 2 } ⟨rfl, rfl, rfl⟩ (fun _ _ _ => rfl) (by omega) rfl
       obtain ⟨H3, hw3, hb3, hn3, ho3⟩ := hb2.endE hev (k := k) (by simp; omega)
       have hcx : zxc { x with fate := 2, on := false } = { zxc x with fate := 2 } := rfl
       rw [zq5 hcx, zsz (x' := { x with fate := 2, on := false }) rfl] at hb3
       have hB2 := hb2.cells.at
       rw [htv, hev] at hB2
       repeat (first | apply Wp.za | apply Wp.zb | apply Wp.zc | apply Wp.zd | apply Wp.ze | apply Wp.zf rfl | apply Wp.zg rfl | ((apply Wp.zh; (repeat (apply Ex.zc; (simp (disch := omega) [-getElem?_pos, hX, r0, r2, r3, r5, h105, h9, atV, hB1, hrow, g2, g7, ht, hq, hw2, hB2, hw3]; rfl))); exact Ex.zn; rfl; (simp; rfl))) | ((apply Wp.zi; (repeat ((first | apply Dr.q rfl rfl | apply Dr.r rfl rfl | apply Dr.imm rfl); (simp (disch := omega) [-getElem?_pos, hX, r0, r2, r3, r5, h105, h9, atV, hB1, hrow, g2, g7, ht, hq, hw2, hB2, hw3]; rfl); (focus first | (simp; rfl) | (simp; done) | (simp; omega)))); exact Dr.nil; rfl; (first | (focus (simp (disch := omega) [-getElem?_pos, hX, r0, r2, r3, r5, h105, h9, atV, hB1, hrow, g2, g7, ht, hq, hw2, hB2, hw3]; done)) | rfl); (simp; rfl))))
       simp [-getElem?_pos, a78]
       exact hb3.out (by omega) fun A hA => by rw [ho3 A hA, ho2 A hA, hg1.get A (by omega)]
      rw [if_neg h9]
      by_cases h7 : r.kind = 7
      all_goals
       repeat (first | apply Wp.za | apply Wp.zb | apply Wp.zc | apply Wp.zd | apply Wp.ze | apply Wp.zf rfl | apply Wp.zg rfl | ((apply Wp.zh; (repeat (apply Ex.zc; (simp (disch := omega) [-getElem?_pos, hX, r0, r2, r3, r5, h105, h10, h2, h7, h70, h5, h6, h8, h9, atV, hB1, hrow, g2, g7, ht, hq]; rfl))); exact Ex.zn; rfl; (simp; rfl))) | ((apply Wp.zi; (repeat ((first | apply Dr.q rfl rfl | apply Dr.r rfl rfl | apply Dr.imm rfl); (simp (disch := omega) [-getElem?_pos, hX, r0, r2, r3, r5, h105, h10, h2, h7, h70, h5, h6, h8, h9, atV, hB1, hrow, g2, g7, ht, hq]; rfl); (focus first | (simp; rfl) | (simp; done) | (simp; omega)))); exact Dr.nil; rfl; (first | (focus (simp (disch := omega) [-getElem?_pos, hX, r0, r2, r3, r5, h105, h10, h2, h7, h70, h5, h6, h8, h9, atV, hB1, hrow, g2, g7, ht, hq]; done)) | rfl); (simp; rfl))))
       simp [-getElem?_pos, a78]
       exact yes
     ·rw [if_neg (fun h => hq h.2)] at hob
      rw [hob]
      by_cases h7 : r.kind = 7
      all_goals
       repeat (first | apply Wp.za | apply Wp.zb | apply Wp.zc | apply Wp.zd | apply Wp.ze | apply Wp.zf rfl | apply Wp.zg rfl | ((apply Wp.zh; (repeat (apply Ex.zc; (simp (disch := omega) [-getElem?_pos, hX, r0, r2, r3, r5, h105, h10, h2, h7, h70, atV, hB1, hrow, g2, g7, ht, hq]; rfl))); exact Ex.zn; rfl; (simp; rfl))) | ((apply Wp.zi; (repeat ((first | apply Dr.q rfl rfl | apply Dr.r rfl rfl | apply Dr.imm rfl); (simp (disch := omega) [-getElem?_pos, hX, r0, r2, r3, r5, h105, h10, h2, h7, h70, atV, hB1, hrow, g2, g7, ht, hq]; rfl); (focus first | (simp; rfl) | (simp; done) | (simp; omega)))); exact Dr.nil; rfl; (first | (focus (simp (disch := omega) [-getElem?_pos, hX, r0, r2, r3, r5, h105, h10, h2, h7, h70, atV, hB1, hrow, g2, g7, ht, hq]; done)) | rfl); (simp; rfl))))
       simp [-getElem?_pos, a78]
       exact no
    ·rw [if_neg (fun h => ht h.1)] at hob
     rw [hob]
     by_cases h7 : r.kind = 7
     all_goals
      repeat (first | apply Wp.za | apply Wp.zb | apply Wp.zc | apply Wp.zd | apply Wp.ze | apply Wp.zf rfl | apply Wp.zg rfl | ((apply Wp.zh; (repeat (apply Ex.zc; (simp (disch := omega) [-getElem?_pos, hX, r0, r2, r3, r5, h105, h10, h2, h7, h70, atV, hB1, hrow, g2, g7, ht]; rfl))); exact Ex.zn; rfl; (simp; rfl))) | ((apply Wp.zi; (repeat ((first | apply Dr.q rfl rfl | apply Dr.r rfl rfl | apply Dr.imm rfl); (simp (disch := omega) [-getElem?_pos, hX, r0, r2, r3, r5, h105, h10, h2, h7, h70, atV, hB1, hrow, g2, g7, ht]; rfl); (focus first | (simp; rfl) | (simp; done) | (simp; omega)))); exact Dr.nil; rfl; (first | (focus (simp (disch := omega) [-getElem?_pos, hX, r0, r2, r3, r5, h105, h10, h2, h7, h70, atV, hB1, hrow, g2, g7, ht]; done)) | rfl); (simp; rfl))))
      simp [-getElem?_pos, a78]
      exact no
end
section
variable {kn : zy0} {env : Nat → Option zzq}
variable {H H' H1 : zz6} {N B : Nat} {i : Int} {b : List TxD} {tv ev sv rv wv v0 : AVal} {tvs : List (List AVal)} {o : Nat → Nat} {x x' : TxD} {r : RowD} {rc : List AVal} {rows : List RowD}
def zg2 (b : List TxD) : Prop := ∀ x ∈ b, x.on = true → x.fate = 0
theorem zg2.set {k : Nat} (h : zg2 b) (hx : x.on = true → x.fate = 0) : zg2 (b.set k x) := fun y hy => by
 rcases List.mem_or_eq_of_mem_set hy with hy | rfl
 ·exact h y hy
 ·exact hx
theorem zg6 {b' : List TxD} (h : zg2 b) (hs : zx3 b i r = some b') : zg2 b' := by
 unfold zx3 at hs
 split at hs
 ·unfold zur at hs
  split at hs
  ·cases hs
  ·split at hs
   ·split at hs
    ·cases hs
    ·cases hs; exact h
   ·split at hs
    ·split at hs
     ·cases hs
     ·cases hs
      intro x hx
      rcases List.mem_append.1 hx with hx | hx
      ·exact h x hx
      ·simp [-getElem?_pos] at hx; subst hx; intro _; rfl
    ·obtain ⟨k, hk, rfl⟩ := Option.map_eq_some_iff.1 hs
     obtain ⟨x, hx, _⟩ := znr hk
     have hup : ∀ f : TxD → TxD, zjb b k f = b.set k (f x) := fun f => by unfold zjb; rw [hx]
     have q := h x (List.mem_of_getElem? hx)
     split
     ·rw [hup]; exact h.set q
     ·split
      ·rw [hup]; exact h.set q
      ·split
       ·rw [hup]; exact h.set q
       ·split
        ·rw [hup]; exact h.set fun e => by cases e
        ·exact h
 ·split at hs
  ·obtain ⟨k, hk, hs⟩ := Option.bind_eq_some_iff.1 hs
   obtain ⟨x, hx, hs⟩ := Option.bind_eq_some_iff.1 hs
   split at hs
   ·cases hs
    split
    ·exact h.set (h x (List.mem_of_getElem? hx))
    ·exact h
   ·cases hs
  ·split at hs
   ·obtain ⟨k, hk, hs⟩ := Option.bind_eq_some_iff.1 hs
    obtain ⟨x, hx, hs⟩ := Option.bind_eq_some_iff.1 hs
    split at hs
    ·cases hs
     exact h.set fun e => by cases e
    ·cases hs
   ·split at hs
    ·cases hs
     intro y hy
     obtain ⟨x, hx, rfl⟩ := List.mem_map.1 hy
     split
     ·intro e; cases e
     ·rename_i hn; intro e; exact absurd e hn
    ·split at hs
     ·cases hs
      intro y hy
      obtain ⟨x, hx, rfl⟩ := List.mem_map.1 hy
      have q := h x hx
      split
      ·rename_i h4; intro e; have := q e; omega
      ·exact q
     ·cases hs; exact h
def mix (f g : TxD → TxD) (b : List TxD) (i : Nat) : List TxD := (b.take i).map f ++ (b.drop i).map g
theorem zcg (f g : TxD → TxD) (b : List TxD) (i : Nat) : (mix f g b i).length = b.length := by simp [-getElem?_pos, mix]; omega
theorem zaa (f g : TxD → TxD) {i : Nat} (hx : b[i]? = some x) : (mix f g b i)[i]? = some (g x) := by
 have hi := (List.getElem?_eq_some_iff.1 hx).1
 unfold mix
 rw [List.getElem?_append_right (by simp; omega), List.getElem?_map, List.getElem?_drop, List.length_map, List.length_take, Nat.min_eq_left (by omega), Nat.sub_self, Nat.add_zero, hx]
 rfl
theorem zfe (f g : TxD → TxD) {i : Nat} (hx : b[i]? = some x) : (mix f g b i).set i (f x) = mix f g b (i + 1) := by
 have hi := (List.getElem?_eq_some_iff.1 hx).1
 unfold mix
 have hl : (List.map f (b.take i)).length = i := by simp; omega
 rw [List.set_append_right _ _ (by omega), hl, Nat.sub_self, zqe hx, List.map_cons, List.set_cons_zero, List.take_add_one, hx, List.map_append]
 simp [-getElem?_pos]
theorem ze0 (f g : TxD → TxD) {i : Nat} (hx : b[i]? = some x) (h : f x = g x) : mix f g b i = mix f g b (i + 1) := by
 rw [← zfe f g hx, h]
 refine List.ext_getElem? fun j => ?_
 rw [List.getElem?_set]
 by_cases e : i = j
 ·subst e; rw [if_pos rfl, if_pos (List.getElem?_eq_some_iff.1 (zaa f g hx)).1, zaa f g hx]
 ·rw [if_neg e]
def zhg (x : TxD) : TxD := { zcl x with on := false }
theorem zte.ends (h : zte H N o tvs (b.map zhg)) : zte H N o tvs (b.map zcl) := ⟨by rw [h.1, List.length_map, List.length_map], fun j e y hj hy => by
 rw [List.getElem?_map] at hy
 obtain ⟨x, hx, rfl⟩ := Option.map_eq_some_iff.1 hy
 obtain ⟨s, r, w, q⟩ := h.2 j e (zhg x) hj (by rw [List.getElem?_map, hx]; rfl)
 exact ⟨s, r, w, q.eq, q.set, q.setL, q.reads, q.readsL, q.writes, q.writesL, q.rvals, q.wvals⟩⟩
abbrev C52 : List Nat := [0, 2, 3, 4, 5, 6, 7, 8, 14, 22, 23, 37, 44, 48, 55, 62, 83]
set_option maxHeartbeats 8000000 in
theorem c52 (E : BookE kn env) (h : Fn kn env 52 a52) (n : Nat) (hrows : zwz H H.next v0 rows) (hm : rows.length < 400000000000) (hn : rows.length + 20 < n) :
  ∃ v H', zzp kn env (n + 3) (.func (.func 52) []) [v0] H = some (v, H') ∧ (Grow H H' ∧ zlg H' H.next (zmc rows) v) := by
 obtain ⟨rcs, hrd, hlies, hlen, hat⟩ := hrows
 have hl0 : zyy v0 = some (vi rows.length) := by rw [← hlen]; exact hrd.lenS
 have hbk0 : RB (H.push (.row [some (0, [zxa, zxa])])) H.next H.next (zbl []) (zbq []) zxa zxa [] (fun _ => 0) :=
  ⟨by show zz6.get _ _ = _; simp [-getElem?_pos], zzw.nil _ _ _, (fun R _ _ _ _ _ _ e => by cases e), zzw.nil _ _ _, (fun R _ _ _ _ _ _ e => by cases e), ⟨rfl, fun i e x h => by simp [-getElem?_pos] at h⟩, rfl, rfl, by simp [-getElem?_pos]⟩
 refine Wp.call 95 C52 h.e (h.no [v0] H) (n := n + 2) rfl (by simp) ?_
 repeat (first | apply Wp.za | apply Wp.zb | apply Wp.zc | apply Wp.zd | apply Wp.ze | apply Wp.zf rfl | apply Wp.zg rfl | ((apply Wp.zh; (repeat (apply Ex.zc; (simp (disch := omega) [-getElem?_pos, hl0]; rfl))); exact Ex.zn; rfl; (simp; rfl))))
 apply Wp.loop (α := Nat × zz6 × List TxD) (fun x => [(4, vp H.next), (0, v0), (5, vi x.1)]) (·.2.1)
  (fun x => x.1 ≤ rows.length ∧ zqv [] 0 (rows.take x.1) = some x.2.2 ∧ (∃ tv ev tvs o, RB x.2.1 H.next H.next (zbl x.2.2) (zbq x.2.2) tv ev tvs o) ∧ (∀ A, A < H.next → x.2.1.get A = H.get A) ∧ zkx x.2.2 x.1 ∧ zg2 x.2.2) (fun x => rows.length - x.1)
  (0, H.push (.row [some (0, [zxa, zxa])]), []) rfl ⟨by omega, by simp [-getElem?_pos, zqv], ⟨_, _, _, _, hbk0⟩, fun A hA => zz6.zz9 _ _ (by omega), ⟨by simp [-getElem?_pos], by simp [-getElem?_pos]⟩, fun x hx => by simp [-getElem?_pos] at hx⟩ (by simp; omega) (by simp)
 rintro ⟨j, H2, b⟩ ⟨hj, hst, ⟨tv, ev, tvs, o, hb⟩, hold, hsm, hqu⟩
 dsimp only at hj hst hb hold hsm hqu ⊢
 (repeat (first | apply Wp.za | apply Wp.zb)); (apply Wp.zh; (repeat (apply Ex.zc; (simp (disch := omega) [-getElem?_pos, hl0]; rfl))); exact Ex.zn; rfl; (simp; rfl))
 (repeat (first | apply Wp.za | apply Wp.zb)); apply Wp.ite rfl
 ·intro hjl
  apply Wp.zd
  obtain ⟨r, hr⟩ : ∃ r, rows[j]? = some r := ⟨_, List.getElem?_eq_getElem (by omega)⟩
  obtain ⟨rc, hrc⟩ : ∃ rc, rcs[j]? = some rc := ⟨_, List.getElem?_eq_getElem (by omega)⟩
  obtain ⟨hR, sv, hS⟩ := hat j rc r hrc hr
  obtain ⟨R0, ver0, off, kc, ex, cells, hv0, hrow, hc1, hc2⟩ := hrd.at hrc
  rw [hlen] at hv0
  have hR0 := hlies _ _ _ _ _ _ _ hv0
  have hrow2 : H2.rowAt R0 ver0 = some cells := by rw [zzk, hold R0 hR0, ← zzk]; exact hrow
  have r5 := hR.len
  have rt : rc.take 41 = rc := List.take_of_length_le (by omega)
  obtain ⟨H3, hw1, g1, hcl, hn3⟩ := zx6 H2 (z := [zi, .raw (.int .u64 0), zi, .raw (.int .u64 0), zi, zb, zb, zb, zb, zb, zb, zb, zb, zb, zb, zb, zb, zb, zb, zb, zb, zb, zb, zb, zb, zb, zb, zb, zb, zb, zb, zb, zb, zb, zb, zb, zb, .raw (.int .u64 0), zi, zi, ns]) (e := rc) r5 (by omega) hR.one
  have hX := hcl.at
  have r0 := hR.a0
  have hb3 := hb.grow g1
  have hBn := hb.hB
  have hbl := hsm.1
  have hS3 : zuu H3 H.next rc r sv := hS.move fun A hA => by rw [g1.get A (by omega), hold A hA]
  have hno : zx3 b j r = none → zmc rows = none := fun hs => by unfold zmc; rw [zph (j := j + 1) (by rw [zjz hr, hst]; exact hs)]; rfl
  have inv : ∀ (b' : List TxD) (H4 : zz6), zx3 b j r = some b' → (∃ tv ev tvs o, RB H4 H.next H.next (zbl b') (zbq b') tv ev tvs o) → (∀ A, A < H.next → H4.get A = H3.get A) →
    ∃ y : Nat × zz6 × List TxD, y.2.1 = H4 ∧ (y.1 ≤ rows.length ∧ zqv [] 0 (rows.take y.1) = some y.2.2 ∧ (∃ tv ev tvs o, RB y.2.1 H.next H.next (zbl y.2.2) (zbq y.2.2) tv ev tvs o) ∧ (∀ A, A < H.next → y.2.1.get A = H.get A) ∧ zkx y.2.2 y.1 ∧ zg2 y.2.2) ∧ rows.length - y.1 < rows.length - j ∧ y.1 = j + 1 := fun b' H4 hs hb' ho =>
   ⟨(j + 1, H4, b'), rfl, ⟨by dsimp only; omega, by dsimp only; rw [zjz hr, hst]; exact hs, hb', fun A hA => by dsimp only; rw [ho A hA, g1.get A (by omega), hold A hA], zss hsm hs, zg6 hqu hs⟩, by dsimp only; omega, rfl⟩
  have end_ : ∀ H4 : zz6, H3.next ≤ H4.next → (∀ A, A < H.next → H4.get A = H3.get A) → zx3 b j r = none → Grow H H4 ∧ zlg H4 H.next (zmc rows) (.tuple [zxa, vi 230]) := fun H4 q1 q2 hs => by
   rw [hno hs]
   exact ⟨⟨by omega, fun A hA => by rw [q2 A hA, g1.get A (by omega), hold A hA]⟩, rfl⟩
  by_cases h19 : 1 ≤ r.kind ∧ r.kind ≤ 9
  ·obtain ⟨v, H4, hc, hO1, hO2, hO3⟩ := c78 E n (i := j) hb3 hR hS3 h19 hsm (by omega) (by omega)
   cases hs : zx3 b j r with
   | none =>
    rw [hs] at hO1
    have hv : v = zzt false := hO1
    subst hv
    have hE := end_ H4 hO2 hO3 hs
    obtain hk | hk | hk | hk | hk | hk | hk | hk | hk : r.kind = 1 ∨ r.kind = 2 ∨ r.kind = 3 ∨ r.kind = 4 ∨ r.kind = 5 ∨ r.kind = 6 ∨ r.kind = 7 ∨ r.kind = 8 ∨ r.kind = 9 := by omega
    all_goals
     repeat (first | apply Wp.za | apply Wp.zb | apply Wp.zc | apply Wp.zd | apply Wp.ze | apply Wp.zf rfl | apply Wp.zg rfl | ((apply Wp.zh; (repeat (apply Ex.zc; (simp (disch := omega) [-getElem?_pos, hv0, hrow2, hc2, r5, rt, hw1, hX, r0, hk, hc]; rfl))); exact Ex.zn; rfl; (simp; rfl))))
     simp [-getElem?_pos, a52]
     exact hE
   | some b' =>
    rw [hs] at hO1
    obtain ⟨hv, hb'⟩ := hO1
    subst hv
    obtain ⟨y, y1, y2, y3, y4⟩ := inv b' H4 hs hb' hO3
    obtain hk | hk | hk | hk | hk | hk | hk | hk | hk : r.kind = 1 ∨ r.kind = 2 ∨ r.kind = 3 ∨ r.kind = 4 ∨ r.kind = 5 ∨ r.kind = 6 ∨ r.kind = 7 ∨ r.kind = 8 ∨ r.kind = 9 := by omega
    all_goals
     repeat (first | apply Wp.za | apply Wp.zb | apply Wp.zc | apply Wp.zd | apply Wp.ze | apply Wp.zf rfl | apply Wp.zg rfl | ((apply Wp.zh; (repeat (apply Ex.zc; (simp (disch := omega) [-getElem?_pos, hv0, hrow2, hc2, r5, rt, hw1, hX, r0, hk, hc]; rfl))); exact Ex.zn; rfl; (simp; rfl))))
     exact ⟨y, y1, y2, y3, by simp [-getElem?_pos, y4, hv0]⟩
  ·by_cases hd : r.kind = 11 ∨ r.kind = 13
   ·obtain ⟨v, H4, hc, hO1, hO2, hO3⟩ := c79 E n (i := j) hb3 hR hd (by omega) (by omega)
    cases hs : zx3 b j r with
    | none =>
     rw [hs] at hO1
     have hv : v = zzt false := hO1
     subst hv
     have hE := end_ H4 hO2 hO3 hs
     rcases hd with hk | hk
     all_goals
      repeat (first | apply Wp.za | apply Wp.zb | apply Wp.zc | apply Wp.zd | apply Wp.ze | apply Wp.zf rfl | apply Wp.zg rfl | ((apply Wp.zh; (repeat (apply Ex.zc; (simp (disch := omega) [-getElem?_pos, hv0, hrow2, hc2, r5, rt, hw1, hX, r0, hk, hc]; rfl))); exact Ex.zn; rfl; (simp; rfl))))
      simp [-getElem?_pos, a52]
      exact hE
    | some b' =>
     rw [hs] at hO1
     obtain ⟨hv, hb'⟩ := hO1
     subst hv
     obtain ⟨y, y1, y2, y3, y4⟩ := inv b' H4 hs hb' hO3
     rcases hd with hk | hk
     all_goals
      repeat (first | apply Wp.za | apply Wp.zb | apply Wp.zc | apply Wp.zd | apply Wp.ze | apply Wp.zf rfl | apply Wp.zg rfl | ((apply Wp.zh; (repeat (apply Ex.zc; (simp (disch := omega) [-getElem?_pos, hv0, hrow2, hc2, r5, rt, hw1, hX, r0, hk, hc]; rfl))); exact Ex.zn; rfl; (simp; rfl))))
      exact ⟨y, y1, y2, y3, by simp [-getElem?_pos, y4, hv0]⟩
   ·by_cases hk : r.kind = 18
    ·obtain ⟨v, H4, hc, rfl, ⟨tvs', hb'⟩, hn4, ho4⟩ := c80 E.f80 (n + 1) hb3 (by omega) (by omega)
     have hs : zx3 b j r = some (b.map zvw) := by unfold zx3; rw [if_neg h19, if_neg (by omega), if_neg (by omega), if_pos hk]; rfl
     obtain ⟨y, y1, y2, y3, y4⟩ := inv _ H4 hs ⟨_, _, _, _, hb'⟩ ho4
     repeat (first | apply Wp.za | apply Wp.zb | apply Wp.zc | apply Wp.zd | apply Wp.ze | apply Wp.zf rfl | apply Wp.zg rfl | ((apply Wp.zh; (repeat (apply Ex.zc; (simp (disch := omega) [-getElem?_pos, hv0, hrow2, hc2, r5, rt, hw1, hX, r0, hk, hc]; rfl))); exact Ex.zn; rfl; (simp; rfl))))
     exact ⟨y, y1, y2, y3, by simp [-getElem?_pos, y4, hv0]⟩
    ·by_cases hk2 : r.kind = 19
     ·obtain ⟨v, H4, hc, rfl, ⟨tvs', hb'⟩, hn4, ho4⟩ := c81 E.f81 (n + 1) hb3 r.pos (fun x hx hon => by have := hqu x hx hon; omega) (by omega) (by omega)
      have hs : zx3 b j r = some (b.map (zbv r.pos)) := by unfold zx3; rw [if_neg h19, if_neg (by omega), if_neg (by omega), if_neg (by omega), if_pos hk2]; rfl
      obtain ⟨y, y1, y2, y3, y4⟩ := inv _ H4 hs ⟨_, _, _, _, hb'⟩ ho4
      have r37 := hR.a37
      repeat (first | apply Wp.za | apply Wp.zb | apply Wp.zc | apply Wp.zd | apply Wp.ze | apply Wp.zf rfl | apply Wp.zg rfl | ((apply Wp.zh; (repeat (apply Ex.zc; (simp (disch := omega) [-getElem?_pos, hv0, hrow2, hc2, r5, rt, hw1, hX, r0, r37, hk2, hc]; rfl))); exact Ex.zn; rfl; (simp; rfl))))
      exact ⟨y, y1, y2, y3, by simp [-getElem?_pos, y4, hv0]⟩
     ·have hs : zx3 b j r = some b := by unfold zx3; rw [if_neg h19, if_neg (by omega), if_neg (by omega), if_neg (by omega), if_neg (by omega)]
      obtain ⟨y, y1, y2, y3, y4⟩ := inv b H3 hs ⟨_, _, _, _, hb3⟩ fun _ _ => rfl
      have k1 : r.kind ≠ 1 := by omega
      have k2 : r.kind ≠ 2 := by omega
      have k3 : r.kind ≠ 3 := by omega
      have k4 : r.kind ≠ 4 := by omega
      have k5 : r.kind ≠ 5 := by omega
      have k6 : r.kind ≠ 6 := by omega
      have k7 : r.kind ≠ 7 := by omega
      have k8 : r.kind ≠ 8 := by omega
      have k9 : r.kind ≠ 9 := by omega
      have k11 : r.kind ≠ 11 := by omega
      have k13 : r.kind ≠ 13 := by omega
      repeat (first | apply Wp.za | apply Wp.zb | apply Wp.zc | apply Wp.zd | apply Wp.ze | apply Wp.zf rfl | apply Wp.zg rfl | ((apply Wp.zh; (repeat (apply Ex.zc; (simp (disch := omega) [-getElem?_pos, hv0, hrow2, hc2, r5, rt, hw1, hX, r0, k1, k2, k3, k4, k5, k6, k7, k8, k9, k11, k13, hk, hk2]; rfl))); exact Ex.zn; rfl; (simp; rfl))))
      exact ⟨y, y1, y2, y3, by simp [-getElem?_pos, y4, hv0]⟩
 ·intro hjl
  apply Wp.ze
  have : rows.take j = rows := List.take_of_length_le (by omega)
  rw [this] at hst
  have ht : zmc rows = some (b.map zcl) := by unfold zmc; rw [hst]; rfl
  rw [ht]
  have hBn := hb.hB
  have hbl := hsm.1
  repeat (first | apply Wp.za | apply Wp.zb | apply Wp.zc | apply Wp.zd | apply Wp.ze | apply Wp.zf rfl | apply Wp.zg rfl | ((apply Wp.zh; (repeat (apply Ex.zc; (simp (disch := omega) [-getElem?_pos]; rfl))); exact Ex.zn; rfl; (simp; rfl))))
  apply Wp.loop (α := Nat × zz6) (fun x => [(4, vp H.next), (8, vi x.1)]) (·.2)
   (fun x => x.1 ≤ b.length ∧ (∃ tvs, RB x.2 H.next H.next (mix zhg zxc b x.1) (zbq b) tv ev tvs o) ∧ x.2.next = H2.next ∧ ∀ A, A < H.next → x.2.get A = H2.get A) (fun x => b.length - x.1) (0, H2) rfl ⟨by omega, ⟨tvs, by simpa [-getElem?_pos, mix] using hb⟩, rfl, fun _ _ => rfl⟩ (by dsimp only; omega) (by simp)
  rintro ⟨k, H5⟩ ⟨hk, ⟨tvs5, hb5⟩, hn5, ho5⟩
  dsimp only at hk hb5 hn5 ho5 ⊢
  have hB5 := hb5.cells.at
  have hlT := hb5.lenT
  rw [zcg] at hlT
  (repeat (first | apply Wp.za | apply Wp.zb)); (apply Wp.zh; (repeat (apply Ex.zc; (simp (disch := omega) [-getElem?_pos, hB5, hlT]; rfl))); exact Ex.zn; rfl; (simp; rfl))
  (repeat (first | apply Wp.za | apply Wp.zb)); apply Wp.ite rfl
  ·intro hkl
   apply Wp.zd
   obtain ⟨x, hx⟩ : ∃ x, b[k]? = some x := ⟨_, List.getElem?_eq_getElem (by omega)⟩
   have hxm := zaa zhg zxc hx
   obtain ⟨R, ver, R2, ver2, htv, hev⟩ := hb5.vals hxm
   rw [zcg] at htv hev
   obtain ⟨cells2, hrow2, hlen2, hcell2⟩ := hb5.rdE hev (zsm hx)
   obtain ⟨cells1, sv1, rv1, wv1, hrow1, hlen1, hcell1⟩ := hb5.rdT htv hxm
   have g8 := hcell1 8 (by omega)
   simp only [txc, List.getElem?_cons_succ, List.getElem?_cons_zero, zxc] at g8
   rw [htv, hev] at hB5
   cases hon : x.on with
   | false =>
    rw [hon] at hcell2
    have hsame : zhg x = zxc x := by simp [-getElem?_pos, zhg, zcl, zxc, hon]
    have hus := ze0 zhg zxc hx hsame
    repeat (first | apply Wp.za | apply Wp.zb | apply Wp.zc | apply Wp.zd | apply Wp.ze | apply Wp.zf rfl | apply Wp.zg rfl | ((apply Wp.zh; (repeat (apply Ex.zc; (simp (disch := omega) [-getElem?_pos, hB5, hrow2, hcell2]; rfl))); exact Ex.zn; rfl; (simp; rfl))))
    exact ⟨(k + 1, H5), rfl, ⟨by dsimp only; omega, ⟨tvs5, by dsimp only; rw [← hus]; exact hb5⟩, hn5, ho5⟩, by dsimp only; omega, by simp [-getElem?_pos]⟩
   | true =>
    rw [hon] at hcell2
    by_cases hc : x.commit < 0
    ·have hsame : zhg x = zxc x := by
      have hc' : ¬ 0 ≤ x.commit := by omega
      simp [-getElem?_pos, zhg, zcl, zxc, hon, hc']
     have hus := ze0 zhg zxc hx hsame
     repeat (first | apply Wp.za | apply Wp.zb | apply Wp.zc | apply Wp.zd | apply Wp.ze | apply Wp.zf rfl | apply Wp.zg rfl | ((apply Wp.zh; (repeat (apply Ex.zc; (simp (disch := omega) [-getElem?_pos, hB5, hrow2, hcell2, hrow1, g8, hc]; rfl))); exact Ex.zn; rfl; (simp; rfl))))
     exact ⟨(k + 1, H5), rfl, ⟨by dsimp only; omega, ⟨tvs5, by dsimp only; rw [← hus]; exact hb5⟩, hn5, ho5⟩, by dsimp only; omega, by simp [-getElem?_pos]⟩
    ·obtain ⟨H6, tvs6, hw6, hb6, hn6, ho6⟩ := hb5.numT htv (f := 11) (u := vi 4) hxm (zhg x) (by simp [-getElem?_pos, zhg, zcl, zxc, hon]) (fun _ _ _ => by
      have hc' : 0 ≤ x.commit := by omega
      simp [-getElem?_pos, zhg, zcl, zxc, hon, hc', txc]) (by omega) rfl
     rw [zfe zhg zxc hx] at hb6
     repeat (first | apply Wp.za | apply Wp.zb | apply Wp.zc | apply Wp.zd | apply Wp.ze | apply Wp.zf rfl | apply Wp.zg rfl | ((apply Wp.zh; (repeat (apply Ex.zc; (simp (disch := omega) [-getElem?_pos, hB5, hrow2, hcell2, hrow1, g8, hc, hw6]; rfl))); exact Ex.zn; rfl; (simp; rfl))))
     exact ⟨(k + 1, H6), rfl, ⟨by dsimp only; omega, ⟨tvs6, hb6⟩, by dsimp only; omega, fun A hA => by dsimp only; rw [ho6 A hA, ho5 A hA]⟩, by dsimp only; omega, by simp [-getElem?_pos]⟩
  ·intro hkl
   apply Wp.ze
   have : k = b.length := by omega
   subst this
   have hmx : mix zhg zxc b b.length = b.map zhg := by simp [-getElem?_pos, mix]
   rw [hmx] at hb5
   repeat (first | apply Wp.za | apply Wp.zb | apply Wp.zc | apply Wp.zd | apply Wp.ze | apply Wp.zf rfl | apply Wp.zg rfl | ((apply Wp.zh; (repeat (apply Ex.zc; (simp (disch := omega) [-getElem?_pos, hB5]; rfl))); exact Ex.zn; rfl; (simp; rfl))))
   simp [-getElem?_pos, a52, -List.map_map]
   exact ⟨⟨by omega, fun A hA => by rw [ho5 A hA, hold A hA]⟩, tv, tvs5, o, rfl, hb5.txs, hb5.txsL, hb5.each.ends⟩
end
section
variable {kn : zy0} {env : Nat → Option zzq}
variable {f g : Nat → Int}
variable {H : zz6} {R ver : Nat}
end
end Go.Proofs.Ythbjfkkjmecaaaa
