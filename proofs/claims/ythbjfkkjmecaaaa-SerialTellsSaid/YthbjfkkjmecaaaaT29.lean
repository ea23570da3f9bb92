/- Walks: a row of a client's, whole. -/
import Derived.Test.YthbjfkkjmecaaaaT28
set_option linter.unusedVariables false
set_option linter.unusedSimpArgs false
namespace Go.Proofs.Ythbjfkkjmecaaaa
open Go Go.Vm
variable {kn : Known} {env : Nat → Option AFunc}
variable {H H' H1 : AHeap} {N B M clock : Nat} {i : Int} {b : List TxD} {tv sv rv wv sv' rv' wv' : AVal} {es : AEntries} {tvs : List (List AVal)} {o o' o1 : Nat → Nat} {e : List AVal} {x x' : TxD} {r : RowD} {rc : List AVal}
theorem ofB_some {k : Nat} (h : ofB b r = some k) : ∃ x, b[k]? = some x ∧ x.on = true := by
  unfold ofB at h
  obtain ⟨j, h1, h2⟩ := Option.bind_eq_some_iff.1 h
  obtain ⟨x, h3, h4⟩ := Option.bind_eq_some_iff.1 h2
  split at h4
  · cases h4
    obtain ⟨g1, g2⟩ := ofClient_some h1
    exact mem_live.1 g1
  · cases h4
def stepO (b : List TxD) (i : Int) (r : RowD) : Option (List TxD) := (ofB b r).map fun k =>
    if r.kind = 5 then updB b k fun x => { x with reads := x.reads ++ [⟨i, r.blk, r.val⟩] }
    else if r.kind = 6 then updB b k fun x => { x with writes := writeD x.writes ⟨r.blk, r.val⟩ }
    else if r.kind = 8 then updB b k fun x => { x with asked := i }
    else if r.kind = 9 then updB b k fun x => { x with fate := 2, on := false }
    else b
set_option maxHeartbeats 1000000 in
theorem c85o (E : ClientE kn env) (n : Nat) (hins : InsC (callM kn env (n + 2))) (hb : Bk H N B b tv M es clock tvs o) (hr : RowC rc r) (hs : SetOk H N rc r sv) {m : Nat} (hsm : Small b m) (hm : m < 400000000000) (hn : m + 10 < n) (ha0 : 0 ≤ r.actor) (ha8 : r.actor < 8) (h1 : ¬ (r.kind = 1 ∨ (r.kind = 7 ∧ r.ticket = 0))) (h2 : ¬ r.kind = 2) :
    ∃ H', callM kn env (n + 4) (.func (.func 85) []) [vp B, vi i, .agg rc] H = some (.tuple [], H') ∧ Out H N B (stepO b i r) H' := by
  have hg1 := Grow.push H (.row [some (0, rc)])
  have hb1 := hb.grow hg1
  have r0 := hr.a0
  have r1 := hr.a1
  have r2 := hr.a2
  have r3 := hr.a3
  have r4 := hr.a4
  have r5 := hr.len
  have rt : rc.take 41 = rc := List.take_of_length_le (by omega)
  have hB := hb.hB
  have hB1 := hb.cells.at
  have hM := hb.hM
  have hM1 := hb.map
  have w1 := c110 E.f110 (n + 2) hb1.cells (is := false)
  have w2 := c110t E.f110 (n + 2) hb1.cells
  have fin : ∀ (b' : Option (List TxD)) (H2 : AHeap), Wp (callM kn env (n + 3)) (n + 3) 127 [0, 1, 2, 5, 7, 8, 19, 31, 32, 38, 43, 75, 79, 91, 93, 94, 111, 116, 122] a85.code (argK 0 [vp B, vi i, .agg rc], H) (EndK a85.res fun v' h' => v' = .tuple [] ∧ h' = H2) → Out H N B b' H2 →
      ∃ H', callM kn env (n + 4) (.func (.func 85) []) [vp B, vi i, .agg rc] H = some (.tuple [], H') ∧ Out H N B b' H' := fun b' H2 h1 h2 => ⟨H2, Wp.call1 127 [0, 1, 2, 5, 7, 8, 19, 31, 32, 38, 43, 75, 79, 91, 93, 94, 111, 116, 122] E.f85.e (E.f85.no _ _) rfl (by simp [-getElem?_pos]) h1, h2⟩
  have hf := hb.ok.find r.actor
  have hg2 : Grow H ((H.push (.row [some (0, rc)])).push (.row [some (0, rc)])) := hg1.trans (Grow.push _ _)
  have hb2 := hb.grow hg2
  have h112 := c112 E.f112 E.f110 (n + 1) hb1 hr
  obtain ⟨lk, z, lb, hlk, hld⟩ : ∃ (lk : Option (Nat × AVal × Nat)) (z : Int) (lb : Bool), aFind .i64 r.actor es 0 = some lk ∧ lookupDone (.raw (.int .i64 0)) true lk = .tuple [vi z, abool lb] := by
    cases hof : ofClient b r.actor with
    | none => rw [hof] at hf; exact ⟨_, 0, false, hf, rfl⟩
    | some j => rw [hof] at hf; obtain ⟨p, bn, _, hf⟩ := hf; exact ⟨_, j, true, hf, rfl⟩
  have hX2 : ((H.push (.row [some (0, rc)])).push (.row [some (0, rc)])).rowAt H.next 0 = some rc := by simp (disch := omega) [-getElem?_pos]
  unfold stepO
  cases hob : ofB b r with
  | none =>
    rw [hob] at h112
    simp only at h112
    by_cases h7 : r.kind = 7
    · have h3 : r.ticket ≠ 0 := fun e => h1 (.inr ⟨h7, e⟩)
      refine fin _ _ ?_ (hb.badOut hg2)
      repeat (first | apply Wp.seq | apply Wp.blk | apply Wp.ret | apply Wp.skip | apply Wp.exit | apply Wp.cT rfl | apply Wp.cF rfl | ((apply Wp.reg; (repeat (apply Ex.cons; (simp (disch := omega) [-getElem?_pos, r0, r2, r3, r5, rt, w2, hB1, hM1, hlk, aLookup, hld, h112, aEqP]; rfl))); exact Ex.nil; rfl; (simp; rfl))) | ((apply Wp.draw; (repeat (first | ((first | apply Dr.q rfl rfl | apply Dr.r rfl rfl); (simp (disch := omega) [-getElem?_pos, r0, r2, r3, r5, rt, w2, hB1, hM1, hlk, aLookup, hld, h112, aEqP]; rfl); (simp; rfl)) | (apply Dr.imm rfl; (simp (disch := omega) [-getElem?_pos, r0, r2, r3, r5, rt, w2, hB1, hM1, hlk, aLookup, hld, h112, aEqP]; rfl); (focus first | (simp [-getElem?_pos]; done) | (simp [-getElem?_pos]; omega))))); exact Dr.nil; rfl; (simp (disch := omega) [-getElem?_pos, r0, r2, r3, r5, rt, w2, hB1, hM1, hlk, aLookup, hld, h112, aEqP]); (simp; rfl))))
      simp [-getElem?_pos, a85]
    · have h10 : r.kind ≠ 1 := fun e => h1 (.inl e)
      refine fin _ _ ?_ (hb.badOut hg2)
      repeat (first | apply Wp.seq | apply Wp.blk | apply Wp.ret | apply Wp.skip | apply Wp.exit | apply Wp.cT rfl | apply Wp.cF rfl | ((apply Wp.reg; (repeat (apply Ex.cons; (simp (disch := omega) [-getElem?_pos, r0, r2, r3, r5, rt, w2, hB1, hM1, hlk, aLookup, hld, h112, aEqP]; rfl))); exact Ex.nil; rfl; (simp; rfl))) | ((apply Wp.draw; (repeat (first | ((first | apply Dr.q rfl rfl | apply Dr.r rfl rfl); (simp (disch := omega) [-getElem?_pos, r0, r2, r3, r5, rt, w2, hB1, hM1, hlk, aLookup, hld, h112, aEqP]; rfl); (simp; rfl)) | (apply Dr.imm rfl; (simp (disch := omega) [-getElem?_pos, r0, r2, r3, r5, rt, w2, hB1, hM1, hlk, aLookup, hld, h112, aEqP]; rfl); (focus first | (simp [-getElem?_pos]; done) | (simp [-getElem?_pos]; omega))))); exact Dr.nil; rfl; (simp (disch := omega) [-getElem?_pos, r0, r2, r3, r5, rt, w2, hB1, hM1, hlk, aLookup, hld, h112, aEqP]); (simp; rfl))))
      simp [-getElem?_pos, a85]
  | some k =>
    rw [hob] at h112
    obtain ⟨R, ver, htv, hcall⟩ := h112
    obtain ⟨x, hx, hon⟩ := ofB_some hob
    obtain ⟨hri, hlw, hlr⟩ := hsm.2 x (List.mem_of_getElem? hx)
    have hup : ∀ f : TxD → TxD, updB b k f = b.set k (f x) := fun f => by unfold updB; rw [hx]
    have hkl := (List.getElem?_eq_some_iff.1 hx).1
    simp only [Option.map_some]
    by_cases h7 : r.kind = 7
    · have h3 : r.ticket ≠ 0 := fun e => h1 (.inr ⟨h7, e⟩)
      rw [if_neg (by omega), if_neg (by omega), if_neg (by omega), if_neg (by omega)]
      refine fin _ _ ?_ (hb.sameOut hg2)
      repeat (first | apply Wp.seq | apply Wp.blk | apply Wp.ret | apply Wp.skip | apply Wp.exit | apply Wp.cT rfl | apply Wp.cF rfl | ((apply Wp.reg; (repeat (apply Ex.cons; (simp (disch := omega) [-getElem?_pos, r0, r2, r3, r4, r5, rt, w2, hB1, hM1, hlk, aLookup, hld, hcall, aEqP]; rfl))); exact Ex.nil; rfl; (simp; rfl))) | ((apply Wp.draw; (repeat (first | ((first | apply Dr.q rfl rfl | apply Dr.r rfl rfl); (simp (disch := omega) [-getElem?_pos, r0, r2, r3, r4, r5, rt, w2, hB1, hM1, hlk, aLookup, hld, hcall, aEqP]; rfl); (simp; rfl)) | (apply Dr.imm rfl; (simp (disch := omega) [-getElem?_pos, r0, r2, r3, r4, r5, rt, w2, hB1, hM1, hlk, aLookup, hld, hcall, aEqP]; rfl); (focus first | (simp [-getElem?_pos]; done) | (simp [-getElem?_pos]; omega))))); exact Dr.nil; rfl; (simp (disch := omega) [-getElem?_pos, r0, r2, r3, r4, r5, rt, w2, hB1, hM1, hlk, aLookup, hld, hcall, aEqP]); (simp; rfl))))
      simp [-getElem?_pos, a85]
    have h10 : r.kind ≠ 1 := fun e => h1 (.inl e)
    by_cases h5 : r.kind = 5
    · rw [if_pos h5, hup]
      obtain ⟨R', ver', cells, sv', rv, wv, htv', hR1, hR2, hR3, hrow, hlen, hcell, he, ht⟩ := hb2.tx hx
      rw [htv] at htv'; cases htv'
      have g4 := hcell 4 (by omega)
      simp only [txc, List.getElem?_cons_succ, List.getElem?_cons_zero] at g4
      have hrow0 : H.rowAt R ver = some cells := by
        obtain ⟨R', ver', cells', _, _, _, e1, _, hRn, _, e2, _⟩ := hb.tx hx
        rw [htv] at e1; cases e1
        rw [hg2.rowAt hRn, e2] at hrow; rw [e2, hrow]
      obtain ⟨rv', H4, R', ver', H5, ha, hone, hn4, htv', hw, hn5, hout⟩ := hb2.read hx he ht ⟨i, r.blk, r.val⟩ hr.isv (by omega)
      rw [htv] at htv'; cases htv'
      have hbq : AVal.beqs r.val r.val = true := beqs_bytes hr.isv.bytes
      have hbr := ht.reads.beq
      have hcr := cells_one hone
      have hv32 := hr.isv.len
      have hav := hr.av
      simp only [ReadD.cells, AHeap.next_push] at ha hn4
      have hRH : R < H.next := by
        obtain ⟨R', ver', cells', _, _, _, e1, _, hRn, _⟩ := hb.tx hx
        rw [htv] at e1; cases e1; exact hRn
      refine fin _ _ ?_ (hout.from hg2 (by omega))
      repeat (first | apply Wp.seq | apply Wp.blk | apply Wp.ret | apply Wp.skip | apply Wp.exit | apply Wp.cT rfl | apply Wp.cF rfl | ((apply Wp.reg; (repeat (apply Ex.cons; (simp (disch := omega) [-getElem?_pos, r0, r2, r3, r4, r5, rt, w2, hB1, hM1, hlk, aLookup, hld, hcall, aEqP, hrow0, g4, ha, hbq, hbr, hcr, hv32, hav, hw, aFill, repl]; rfl))); exact Ex.nil; rfl; (simp; rfl))) | ((apply Wp.draw; (repeat (first | ((first | apply Dr.q rfl rfl | apply Dr.r rfl rfl); (simp (disch := omega) [-getElem?_pos, r0, r2, r3, r4, r5, rt, w2, hB1, hM1, hlk, aLookup, hld, hcall, aEqP, hrow0, g4, ha, hbq, hbr, hcr, hv32, hav, hw, aFill, repl]; rfl); (simp; rfl)) | (apply Dr.imm rfl; (simp (disch := omega) [-getElem?_pos, r0, r2, r3, r4, r5, rt, w2, hB1, hM1, hlk, aLookup, hld, hcall, aEqP, hrow0, g4, ha, hbq, hbr, hcr, hv32, hav, hw, aFill, repl]; rfl); (focus first | (simp [-getElem?_pos]; done) | (simp [-getElem?_pos]; omega))))); exact Dr.nil; rfl; (simp (disch := omega) [-getElem?_pos, r0, r2, r3, r4, r5, rt, w2, hB1, hM1, hlk, aLookup, hld, hcall, aEqP, hrow0, g4, ha, hbq, hbr, hcr, hv32, hav, hw, aFill, repl]); (simp; rfl))))
      simp [-getElem?_pos, a85]
    rw [if_neg h5]
    by_cases h6 : r.kind = 6
    · rw [if_pos h6, hup]
      obtain ⟨H3, tvs3, o3, hw, hb3, hn3, hN3⟩ := c113 E.f113 E.f119 E.f120 n hins hb2 hr hx htv hri (by omega) (by omega)
      refine fin _ _ ?_ (Out.from (H' := H3) (b' := some _) hg2 (by omega) ⟨⟨_, _, _, _, _, _, hb3⟩, hN3, hn3⟩)
      repeat (first | apply Wp.seq | apply Wp.blk | apply Wp.ret | apply Wp.skip | apply Wp.exit | apply Wp.cT rfl | apply Wp.cF rfl | ((apply Wp.reg; (repeat (apply Ex.cons; (simp (disch := omega) [-getElem?_pos, r0, r2, r3, r4, r5, rt, w2, hB1, hM1, hlk, aLookup, hld, hcall, aEqP, hw]; rfl))); exact Ex.nil; rfl; (simp; rfl))) | ((apply Wp.draw; (repeat (first | ((first | apply Dr.q rfl rfl | apply Dr.r rfl rfl); (simp (disch := omega) [-getElem?_pos, r0, r2, r3, r4, r5, rt, w2, hB1, hM1, hlk, aLookup, hld, hcall, aEqP, hw]; rfl); (simp; rfl)) | (apply Dr.imm rfl; (simp (disch := omega) [-getElem?_pos, r0, r2, r3, r4, r5, rt, w2, hB1, hM1, hlk, aLookup, hld, hcall, aEqP, hw]; rfl); (focus first | (simp [-getElem?_pos]; done) | (simp [-getElem?_pos]; omega))))); exact Dr.nil; rfl; (simp (disch := omega) [-getElem?_pos, r0, r2, r3, r4, r5, rt, w2, hB1, hM1, hlk, aLookup, hld, hcall, aEqP, hw]); (simp; rfl))))
      simp [-getElem?_pos, a85]
    rw [if_neg h6]
    by_cases h8 : r.kind = 8
    · rw [if_pos h8, hup]
      obtain ⟨R', ver', H3, htv', hw, hn3, ⟨tvs3, hb3⟩, hN3, _⟩ := hb2.num (f := 7) (y := vi i) (x' := { x with asked := i }) hx (by omega) rfl (fun _ _ _ => by simp [-getElem?_pos, txc]) ⟨rfl, rfl, rfl⟩ rfl rfl
      rw [htv] at htv'; cases htv'
      refine fin _ _ ?_ (Out.from (H' := H3) (b' := some _) hg2 (by omega) ⟨⟨_, _, _, _, _, _, hb3⟩, hN3, by omega⟩)
      repeat (first | apply Wp.seq | apply Wp.blk | apply Wp.ret | apply Wp.skip | apply Wp.exit | apply Wp.cT rfl | apply Wp.cF rfl | ((apply Wp.reg; (repeat (apply Ex.cons; (simp (disch := omega) [-getElem?_pos, r0, r2, r3, r4, r5, rt, w2, hB1, hM1, hlk, aLookup, hld, hcall, aEqP, hw]; rfl))); exact Ex.nil; rfl; (simp; rfl))) | ((apply Wp.draw; (repeat (first | ((first | apply Dr.q rfl rfl | apply Dr.r rfl rfl); (simp (disch := omega) [-getElem?_pos, r0, r2, r3, r4, r5, rt, w2, hB1, hM1, hlk, aLookup, hld, hcall, aEqP, hw]; rfl); (simp; rfl)) | (apply Dr.imm rfl; (simp (disch := omega) [-getElem?_pos, r0, r2, r3, r4, r5, rt, w2, hB1, hM1, hlk, aLookup, hld, hcall, aEqP, hw]; rfl); (focus first | (simp [-getElem?_pos]; done) | (simp [-getElem?_pos]; omega))))); exact Dr.nil; rfl; (simp (disch := omega) [-getElem?_pos, r0, r2, r3, r4, r5, rt, w2, hB1, hM1, hlk, aLookup, hld, hcall, aEqP, hw]); (simp; rfl))))
      simp [-getElem?_pos, a85]
    rw [if_neg h8]
    by_cases h9 : r.kind = 9
    · rw [if_pos h9, hup]
      obtain ⟨H3, es3, tvs3, hw, hb3, hn3, hN3, _⟩ := c89 E.f89 (n + 2) hb2 (f := 2) hx hon htv
      refine fin _ _ ?_ (Out.from (H' := H3) (b' := some _) hg2 (by omega) ⟨⟨_, _, _, _, _, _, hb3⟩, hN3, by omega⟩)
      repeat (first | apply Wp.seq | apply Wp.blk | apply Wp.ret | apply Wp.skip | apply Wp.exit | apply Wp.cT rfl | apply Wp.cF rfl | ((apply Wp.reg; (repeat (apply Ex.cons; (simp (disch := omega) [-getElem?_pos, r0, r2, r3, r4, r5, rt, w2, hB1, hM1, hlk, aLookup, hld, hcall, aEqP, hw]; rfl))); exact Ex.nil; rfl; (simp; rfl))) | ((apply Wp.draw; (repeat (first | ((first | apply Dr.q rfl rfl | apply Dr.r rfl rfl); (simp (disch := omega) [-getElem?_pos, r0, r2, r3, r4, r5, rt, w2, hB1, hM1, hlk, aLookup, hld, hcall, aEqP, hw]; rfl); (simp; rfl)) | (apply Dr.imm rfl; (simp (disch := omega) [-getElem?_pos, r0, r2, r3, r4, r5, rt, w2, hB1, hM1, hlk, aLookup, hld, hcall, aEqP, hw]; rfl); (focus first | (simp [-getElem?_pos]; done) | (simp [-getElem?_pos]; omega))))); exact Dr.nil; rfl; (simp (disch := omega) [-getElem?_pos, r0, r2, r3, r4, r5, rt, w2, hB1, hM1, hlk, aLookup, hld, hcall, aEqP, hw]); (simp; rfl))))
      simp [-getElem?_pos, a85]
    rw [if_neg h9]
    refine fin _ _ ?_ (hb.sameOut hg2)
    repeat (first | apply Wp.seq | apply Wp.blk | apply Wp.ret | apply Wp.skip | apply Wp.exit | apply Wp.cT rfl | apply Wp.cF rfl | ((apply Wp.reg; (repeat (apply Ex.cons; (simp (disch := omega) [-getElem?_pos, r0, r2, r3, r4, r5, rt, w2, hB1, hM1, hlk, aLookup, hld, hcall, aEqP]; rfl))); exact Ex.nil; rfl; (simp; rfl))) | ((apply Wp.draw; (repeat (first | ((first | apply Dr.q rfl rfl | apply Dr.r rfl rfl); (simp (disch := omega) [-getElem?_pos, r0, r2, r3, r4, r5, rt, w2, hB1, hM1, hlk, aLookup, hld, hcall, aEqP]; rfl); (simp; rfl)) | (apply Dr.imm rfl; (simp (disch := omega) [-getElem?_pos, r0, r2, r3, r4, r5, rt, w2, hB1, hM1, hlk, aLookup, hld, hcall, aEqP]; rfl); (focus first | (simp [-getElem?_pos]; done) | (simp [-getElem?_pos]; omega))))); exact Dr.nil; rfl; (simp (disch := omega) [-getElem?_pos, r0, r2, r3, r4, r5, rt, w2, hB1, hM1, hlk, aLookup, hld, hcall, aEqP]); (simp; rfl))))
    simp [-getElem?_pos, a85]
set_option maxHeartbeats 1000000 in
theorem c85 (E : ClientE kn env) (n : Nat) (hins : InsC (callM kn env (n + 2))) (hb : Bk H N B b tv M es clock tvs o) (hr : RowC rc r) (hs : SetOk H N rc r sv) {m : Nat} (hsm : Small b m) (hm : m < 400000000000) (hn : m + 10 < n) :
    ∃ H', callM kn env (n + 4) (.func (.func 85) []) [vp B, vi i, .agg rc] H = some (.tuple [], H') ∧ Out H N B (stepC b i r) H' := by
  have hg1 := Grow.push H (.row [some (0, rc)])
  have hb1 := hb.grow hg1
  have r0 := hr.a0
  have r1 := hr.a1
  have r2 := hr.a2
  have r3 := hr.a3
  have r4 := hr.a4
  have r5 := hr.len
  have rt : rc.take 41 = rc := List.take_of_length_le (by omega)
  have hB := hb.hB
  have hB1 := hb.cells.at
  have hM := hb.hM
  have hM1 := hb.map
  have w1 := c110 E.f110 (n + 2) hb1.cells (is := false)
  have w2 := c110t E.f110 (n + 2) hb1.cells
  have fin : ∀ (b' : Option (List TxD)) (H2 : AHeap), Wp (callM kn env (n + 3)) (n + 3) 127 [0, 1, 2, 5, 7, 8, 19, 31, 32, 38, 43, 75, 79, 91, 93, 94, 111, 116, 122] a85.code (argK 0 [vp B, vi i, .agg rc], H) (EndK a85.res fun v' h' => v' = .tuple [] ∧ h' = H2) → Out H N B b' H2 →
      ∃ H', callM kn env (n + 4) (.func (.func 85) []) [vp B, vi i, .agg rc] H = some (.tuple [], H') ∧ Out H N B b' H' := fun b' H2 h1 h2 => ⟨H2, Wp.call1 127 [0, 1, 2, 5, 7, 8, 19, 31, 32, 38, 43, 75, 79, 91, 93, 94, 111, 116, 122] E.f85.e (E.f85.no _ _) rfl (by simp [-getElem?_pos]) h1, h2⟩
  by_cases ha : 0 ≤ r.actor ∧ r.actor < 8
  case neg =>
    refine fin _ ((H.push (.row [some (0, rc)])).set B (.row [some (0, [tv, .map M, abool true])])) ?_ ?_
    · by_cases h0 : 0 ≤ r.actor
      · repeat (first | apply Wp.seq | apply Wp.blk | apply Wp.ret | apply Wp.skip | apply Wp.exit | apply Wp.cT rfl | apply Wp.cF rfl | ((apply Wp.reg; (repeat (apply Ex.cons; (simp (disch := omega) [-getElem?_pos, r2, r5, w1]; rfl))); exact Ex.nil; rfl; (simp; rfl))))
        simp [-getElem?_pos, a85]
      · repeat (first | apply Wp.seq | apply Wp.blk | apply Wp.ret | apply Wp.skip | apply Wp.exit | apply Wp.cT rfl | apply Wp.cF rfl | ((apply Wp.reg; (repeat (apply Ex.cons; (simp (disch := omega) [-getElem?_pos, r2, r5, w1]; rfl))); exact Ex.nil; rfl; (simp; rfl))))
        simp [-getElem?_pos, a85]
    · unfold stepC
      rw [if_pos ha]
      exact hb.badOut hg1
  case pos =>
  obtain ⟨ha0, ha8⟩ := ha
  have hst : stepC b i r = if r.kind = 1 ∨ (r.kind = 7 ∧ r.ticket = 0) then (if (ofClient b r.actor).isSome then none else some b) else if r.kind = 2 then (if (ofClient b r.actor).isSome then none else some (b ++ [newTx i r])) else stepO b i r := by
    unfold stepC stepO; rw [if_neg (fun h => h ⟨ha0, ha8⟩)]
  rw [hst]
  have hf := hb.ok.find r.actor
  by_cases h1 : r.kind = 1 ∨ (r.kind = 7 ∧ r.ticket = 0)
  · rw [if_pos h1]
    cases hof : ofClient b r.actor with
    | some j =>
      rw [hof] at hf
      obtain ⟨p, bn, hp, hf⟩ := hf
      refine fin _ _ ?_ (hb.badOut hg1)
      rcases h1 with h1 | ⟨h1, h2⟩
      · repeat (first | apply Wp.seq | apply Wp.blk | apply Wp.ret | apply Wp.skip | apply Wp.exit | apply Wp.cT rfl | apply Wp.cF rfl | ((apply Wp.reg; (repeat (apply Ex.cons; (simp (disch := omega) [-getElem?_pos, r0, r2, r5, w1, w2, hB1, hM1, hf, aLookup, lookupDone]; rfl))); exact Ex.nil; rfl; (simp; rfl))) | ((apply Wp.draw; (repeat (first | ((first | apply Dr.q rfl rfl | apply Dr.r rfl rfl); (simp (disch := omega) [-getElem?_pos, r0, r2, r5, w1, w2, hB1, hM1, hf, aLookup, lookupDone]; rfl); (simp; rfl)) | (apply Dr.imm rfl; (simp (disch := omega) [-getElem?_pos, r0, r2, r5, w1, w2, hB1, hM1, hf, aLookup, lookupDone]; rfl); (focus first | (simp [-getElem?_pos]; done) | (simp [-getElem?_pos]; omega))))); exact Dr.nil; rfl; (simp (disch := omega) [-getElem?_pos, r0, r2, r5, w1, w2, hB1, hM1, hf, aLookup, lookupDone]); (simp; rfl))))
        simp [-getElem?_pos, a85]
      · repeat (first | apply Wp.seq | apply Wp.blk | apply Wp.ret | apply Wp.skip | apply Wp.exit | apply Wp.cT rfl | apply Wp.cF rfl | ((apply Wp.reg; (repeat (apply Ex.cons; (simp (disch := omega) [-getElem?_pos, r0, r2, r3, r5, w1, w2, hB1, hM1, hf, aLookup, lookupDone]; rfl))); exact Ex.nil; rfl; (simp; rfl))) | ((apply Wp.draw; (repeat (first | ((first | apply Dr.q rfl rfl | apply Dr.r rfl rfl); (simp (disch := omega) [-getElem?_pos, r0, r2, r3, r5, w1, w2, hB1, hM1, hf, aLookup, lookupDone]; rfl); (simp; rfl)) | (apply Dr.imm rfl; (simp (disch := omega) [-getElem?_pos, r0, r2, r3, r5, w1, w2, hB1, hM1, hf, aLookup, lookupDone]; rfl); (focus first | (simp [-getElem?_pos]; done) | (simp [-getElem?_pos]; omega))))); exact Dr.nil; rfl; (simp (disch := omega) [-getElem?_pos, r0, r2, r3, r5, w1, w2, hB1, hM1, hf, aLookup, lookupDone]); (simp; rfl))))
        simp [-getElem?_pos, a85]
    | none =>
      rw [hof] at hf
      refine fin _ _ ?_ (hb.sameOut hg1)
      rcases h1 with h1 | ⟨h1, h2⟩
      · repeat (first | apply Wp.seq | apply Wp.blk | apply Wp.ret | apply Wp.skip | apply Wp.exit | apply Wp.cT rfl | apply Wp.cF rfl | ((apply Wp.reg; (repeat (apply Ex.cons; (simp (disch := omega) [-getElem?_pos, r0, r2, r5, w1, w2, hB1, hM1, hf, aLookup, lookupDone]; rfl))); exact Ex.nil; rfl; (simp; rfl))) | ((apply Wp.draw; (repeat (first | ((first | apply Dr.q rfl rfl | apply Dr.r rfl rfl); (simp (disch := omega) [-getElem?_pos, r0, r2, r5, w1, w2, hB1, hM1, hf, aLookup, lookupDone]; rfl); (simp; rfl)) | (apply Dr.imm rfl; (simp (disch := omega) [-getElem?_pos, r0, r2, r5, w1, w2, hB1, hM1, hf, aLookup, lookupDone]; rfl); (focus first | (simp [-getElem?_pos]; done) | (simp [-getElem?_pos]; omega))))); exact Dr.nil; rfl; (simp (disch := omega) [-getElem?_pos, r0, r2, r5, w1, w2, hB1, hM1, hf, aLookup, lookupDone]); (simp; rfl))))
        simp [-getElem?_pos, a85]
      · repeat (first | apply Wp.seq | apply Wp.blk | apply Wp.ret | apply Wp.skip | apply Wp.exit | apply Wp.cT rfl | apply Wp.cF rfl | ((apply Wp.reg; (repeat (apply Ex.cons; (simp (disch := omega) [-getElem?_pos, r0, r2, r3, r5, w1, w2, hB1, hM1, hf, aLookup, lookupDone]; rfl))); exact Ex.nil; rfl; (simp; rfl))) | ((apply Wp.draw; (repeat (first | ((first | apply Dr.q rfl rfl | apply Dr.r rfl rfl); (simp (disch := omega) [-getElem?_pos, r0, r2, r3, r5, w1, w2, hB1, hM1, hf, aLookup, lookupDone]; rfl); (simp; rfl)) | (apply Dr.imm rfl; (simp (disch := omega) [-getElem?_pos, r0, r2, r3, r5, w1, w2, hB1, hM1, hf, aLookup, lookupDone]; rfl); (focus first | (simp [-getElem?_pos]; done) | (simp [-getElem?_pos]; omega))))); exact Dr.nil; rfl; (simp (disch := omega) [-getElem?_pos, r0, r2, r3, r5, w1, w2, hB1, hM1, hf, aLookup, lookupDone]); (simp; rfl))))
        simp [-getElem?_pos, a85]
  · rw [if_neg h1]
    by_cases h2 : r.kind = 2
    · rw [if_pos h2]
      cases hof : ofClient b r.actor with
      | some j =>
        rw [hof] at hf
        obtain ⟨p, bn, hp, hf⟩ := hf
        refine fin _ _ ?_ (hb.badOut hg1)
        repeat (first | apply Wp.seq | apply Wp.blk | apply Wp.ret | apply Wp.skip | apply Wp.exit | apply Wp.cT rfl | apply Wp.cF rfl | ((apply Wp.reg; (repeat (apply Ex.cons; (simp (disch := omega) [-getElem?_pos, r0, r2, r5, w1, w2, hB1, hM1, hf, aLookup, lookupDone]; rfl))); exact Ex.nil; rfl; (simp; rfl))) | ((apply Wp.draw; (repeat (first | ((first | apply Dr.q rfl rfl | apply Dr.r rfl rfl); (simp (disch := omega) [-getElem?_pos, r0, r2, r5, w1, w2, hB1, hM1, hf, aLookup, lookupDone]; rfl); (simp; rfl)) | (apply Dr.imm rfl; (simp (disch := omega) [-getElem?_pos, r0, r2, r5, w1, w2, hB1, hM1, hf, aLookup, lookupDone]; rfl); (focus first | (simp [-getElem?_pos]; done) | (simp [-getElem?_pos]; omega))))); exact Dr.nil; rfl; (simp (disch := omega) [-getElem?_pos, r0, r2, r5, w1, w2, hB1, hM1, hf, aLookup, lookupDone]); (simp; rfl))))
        simp [-getElem?_pos, a85]
      | none =>
        rw [hof] at hf
        have hbl : b.length < 400000000000 := by have := hsm.1; omega
        obtain ⟨sv', H3, tv', H5, hc, hg3, hone, happ, htv1, hlt, hB5, hout⟩ := hb.begin hr hs E.f111 (i := i) (n + 2) ⟨ha0, ha8⟩ hof hbl hg1
        have hBM : B ≠ M := fun e => by have := hb.oM; rw [← e, hb.oB] at this; omega
        have hltv : aLenS tv = some (vi b.length) := by have := hb.txs.rd.lenS; rw [hb.each.1] at this; exact this
        have hX3 : H3.rowAt H.next 0 = some rc := by rw [hg3.rowAt (by simp [-getElem?_pos])]; simp (disch := omega) [-getElem?_pos]
        have hB3 : H3.rowAt B 0 = some [tv, .map M, abool false] := by rw [hg3.rowAt (by simp [-getElem?_pos]; omega)]; simp (disch := omega) [-getElem?_pos, hB1]
        have hcl5 : Cells H5 B [tv, .map M, abool false] := by show H5.get B = _; rw [hB5]; exact hb1.cells
        have hw5 := hcl5.put0 htv1
        have hs40 := hs.at_
        have hbs := hs.rd.beq
        have hbt := hb.txs.beq
        have hcs := cells_one hone
        have hct := cells_one htv1
        have h3n := hg3.next
        simp only [AHeap.next_set, AHeap.next_push] at h3n
        simp only [txc, newTx] at happ
        have hmu : aMapUpdate (H.push (.row [some (0, rc)])) (.map M) (vi r.actor) (vi b.length) = some ((H.push (.row [some (0, rc)])).set M (.map (es ++ [(vi r.actor, vi b.length, clock)]) (clock + 1))) := by
          unfold aMapUpdate
          simp (disch := omega) [-getElem?_pos, hM1, hf]
        simp only [Option.isSome_none, Bool.false_eq_true, if_false]
        refine fin _ _ ?_ hout
        repeat (first | apply Wp.seq | apply Wp.blk | apply Wp.ret | apply Wp.skip | apply Wp.exit | apply Wp.cT rfl | apply Wp.cF rfl | ((apply Wp.reg; (repeat (apply Ex.cons; (simp (disch := omega) [-getElem?_pos, r0, r1, r2, r3, r5, w1, w2, hB1, hM1, hf, aLookup, lookupDone, hltv, hmu, hc, hX3, hB3, hs40, hbs, hbt, hcs, hct, happ, hw5, aFill, repl]; rfl))); exact Ex.nil; rfl; (simp; rfl))) | ((apply Wp.draw; (repeat (first | ((first | apply Dr.q rfl rfl | apply Dr.r rfl rfl); (simp (disch := omega) [-getElem?_pos, r0, r1, r2, r3, r5, w1, w2, hB1, hM1, hf, aLookup, lookupDone, hltv, hmu, hc, hX3, hB3, hs40, hbs, hbt, hcs, hct, happ, hw5, aFill, repl]; rfl); (simp; rfl)) | (apply Dr.imm rfl; (simp (disch := omega) [-getElem?_pos, r0, r1, r2, r3, r5, w1, w2, hB1, hM1, hf, aLookup, lookupDone, hltv, hmu, hc, hX3, hB3, hs40, hbs, hbt, hcs, hct, happ, hw5, aFill, repl]; rfl); (focus first | (simp [-getElem?_pos]; done) | (simp [-getElem?_pos]; omega))))); exact Dr.nil; rfl; (simp (disch := omega) [-getElem?_pos, r0, r1, r2, r3, r5, w1, w2, hB1, hM1, hf, aLookup, lookupDone, hltv, hmu, hc, hX3, hB3, hs40, hbs, hbt, hcs, hct, happ, hw5, aFill, repl]); (simp; rfl))))
        simp [-getElem?_pos, a85]
    · rw [if_neg h2]
      exact c85o E n hins hb hr hs hsm hm hn ha0 ha8 h1 h2
end Go.Proofs.Ythbjfkkjmecaaaa
