/- Walks: Txs. -/
import Derived.Test.YthbjfkkjmecaaaaT30
set_option linter.unusedVariables false
set_option linter.unusedSimpArgs false
namespace Go.Proofs.Ythbjfkkjmecaaaa
open Go Go.Vm
variable {kn : Known} {env : Nat → Option AFunc}
variable {H H' H1 : AHeap} {N B M clock : Nat} {i : Int} {b : List TxD} {tv sv rv wv sv' rv' wv' : AVal} {es : AEntries} {tvs : List (List AVal)} {o o' o1 : Nat → Nat} {e : List AVal} {x x' : TxD} {r : RowD} {rc : List AVal}
theorem stepsD_append : ∀ (l l' : List RowD) (b : List TxD) (k : Nat), stepsD b k (l ++ l') = (stepsD b k l).bind fun b => stepsD b (k + l.length) l'
  | [], l', b, k => rfl
  | r :: l, l', b, k => by
    show (stepD b k r).bind _ = ((stepD b k r).bind _).bind _
    cases h : stepD b k r with
    | none => rfl
    | some b' =>
      simp only [Option.bind_some]
      show stepsD b' (k + 1) (l ++ l') = _
      rw [stepsD_append l l' b' (k + 1), List.length_cons, show k + 1 + l.length = k + (l.length + 1) by omega]
theorem steps_succ {l : List RowD} {j : Nat} {r : RowD} (hr : l[j]? = some r) : stepsD [] 0 (l.take (j + 1)) = (stepsD [] 0 (l.take j)).bind fun b => stepD b j r := by
  have hj := (List.getElem?_eq_some_iff.1 hr).1
  rw [List.take_add_one, hr, stepsD_append]
  have : (l.take j).length = j := by simp [-getElem?_pos]; omega
  rw [this, Nat.zero_add]
  congr 1; funext b
  show (stepD b j r).bind _ = _
  cases stepD b j r <;> rfl
theorem steps_none {l : List RowD} {j : Nat} (h : stepsD [] 0 (l.take j) = none) : stepsD [] 0 l = none := by
  conv => lhs; rw [← List.take_append_drop j l, stepsD_append, h]
  rfl
theorem writeD_len (l : List ImgD) (x : ImgD) : (writeD l x).length ≤ l.length + 1 := by
  induction l with
  | nil => simp [-getElem?_pos, writeD]
  | cons y l ih =>
    unfold writeD
    split
    · simp [-getElem?_pos]; exact ih
    · split <;> simp [-getElem?_pos]
theorem Small.upd {m k : Nat} (h : Small b m) (hx : b[k]? = some x) (hs : Rises x'.writes ∧ x'.writes.length ≤ m + 1 ∧ x'.reads.length ≤ m + 1) : Small (b.set k x') (m + 1) := by
  refine ⟨by rw [List.length_set]; have := h.1; omega, fun y hy => ?_⟩
  rcases List.mem_or_eq_of_mem_set hy with hy | rfl
  · obtain ⟨a, c, d⟩ := h.2 y hy; exact ⟨a, by omega, by omega⟩
  · exact hs
theorem Small.le {m m' : Nat} (h : Small b m) (hm : m ≤ m') : Small b m' := ⟨Nat.le_trans h.1 hm, fun x hx => by obtain ⟨a, c, d⟩ := h.2 x hx; exact ⟨a, by omega, by omega⟩⟩
theorem Small.map {m : Nat} {f : TxD → TxD} (h : Small b m) (hf : ∀ x, (f x).writes = x.writes ∧ (f x).reads = x.reads) : Small (b.map f) m := by
  refine ⟨by simpa [-getElem?_pos] using h.1, fun y hy => ?_⟩
  obtain ⟨x, hx, rfl⟩ := List.mem_map.1 hy
  rw [(hf x).1, (hf x).2]; exact h.2 x hx
theorem stepD_small {m : Nat} {b' : List TxD} (h : Small b m) (hs : stepD b i r = some b') : Small b' (m + 1) := by
  have own : ∀ {k : Nat} {x : TxD}, b[k]? = some x → Rises x.writes ∧ x.writes.length ≤ m + 1 ∧ x.reads.length ≤ m + 1 := fun hx => by
    obtain ⟨a, c, d⟩ := h.2 _ (List.mem_of_getElem? hx); exact ⟨a, by omega, by omega⟩
  unfold stepD at hs
  split at hs
  · unfold stepC at hs
    split at hs
    · cases hs
    · split at hs
      · split at hs
        · cases hs
        · cases hs; exact h.le (by omega)
      · split at hs
        · split at hs
          · cases hs
          · cases hs
            refine ⟨by have := h.1; simp [-getElem?_pos]; omega, fun x hx => ?_⟩
            rcases List.mem_append.1 hx with hx | hx
            · exact (h.le (Nat.le_succ m)).2 x hx
            · simp [-getElem?_pos] at hx; subst hx
              exact ⟨List.Pairwise.nil, by simp [-getElem?_pos, newTx], by simp [-getElem?_pos, newTx]⟩
        · obtain ⟨k, hk, rfl⟩ := Option.map_eq_some_iff.1 hs
          obtain ⟨x, hx, _⟩ := ofB_some hk
          have hup : ∀ f : TxD → TxD, updB b k f = b.set k (f x) := fun f => by unfold updB; rw [hx]
          obtain ⟨o1, o2, o3⟩ := own hx
          obtain ⟨p1, p2, p3⟩ := h.2 x (List.mem_of_getElem? hx)
          split
          · rw [hup]; exact h.upd hx ⟨o1, o2, by simp [-getElem?_pos]; omega⟩
          · split
            · rw [hup]; exact h.upd hx ⟨o1.write _, by have := writeD_len x.writes ⟨r.blk, r.val⟩; simp only; omega, o3⟩
            · split
              · rw [hup]; exact h.upd hx ⟨o1, o2, o3⟩
              · split
                · rw [hup]; exact h.upd hx ⟨o1, o2, o3⟩
                · exact h.le (by omega)
  · split at hs
    · obtain ⟨k, hk, hs⟩ := Option.bind_eq_some_iff.1 hs
      obtain ⟨x, hx, hs⟩ := Option.bind_eq_some_iff.1 hs
      split at hs
      · cases hs
        split
        · have q := own hx; exact h.upd hx ⟨q.1, q.2.1, q.2.2⟩
        · exact h.le (by omega)
      · cases hs
    · split at hs
      · obtain ⟨k, hk, hs⟩ := Option.bind_eq_some_iff.1 hs
        obtain ⟨x, hx, hs⟩ := Option.bind_eq_some_iff.1 hs
        split at hs
        · cases hs
          have q := own hx; exact h.upd hx ⟨q.1, q.2.1, q.2.2⟩
        · cases hs
      · split at hs
        · cases hs
          exact (h.map fun x => by split <;> exact ⟨rfl, rfl⟩).le (by omega)
        · split at hs
          · cases hs
            exact (h.map fun x => by split <;> exact ⟨rfl, rfl⟩).le (by omega)
          · cases hs; exact h.le (by omega)
def RowsAt (H : AHeap) (N : Nat) (v : AVal) (rows : List RowD) : Prop := ∃ rcs : List (List AVal), RdE H 41 v rcs ∧ v.lies (· < N) ∧ rcs.length = rows.length ∧ ∀ (k : Nat) (rc : List AVal) (r : RowD), rcs[k]? = some rc → rows[k]? = some r → RowC rc r ∧ ∃ sv, SetOk H N rc r sv
def TxsRes (H' : AHeap) (N : Nat) (t : Option (List TxD)) (v : AVal) : Prop := match t with
  | some b => ∃ tv tvs o, v = .tuple [tv, vi 0] ∧ SliceE H' N 12 tv tvs ∧ Lies N H' o 2 tv ∧ TxsAt H' N o tvs b
  | none => v = .tuple [anil, vi 230]
def endX (x : TxD) : TxD := { x with fate := if 0 ≤ x.commit then 4 else 1 }
abbrev C33 : List Nat := [0, 2, 3, 4, 5, 6, 8, 12, 13, 14, 15, 26, 29, 30, 31, 32, 50]
theorem c33 (E : RowE kn env) (h : Fn kn env 33 a33) (n : Nat) (hins : InsC (callM kn env (n + 2))) {v0 : AVal} {rows : List RowD} (hrows : RowsAt H H.next v0 rows) (hm : rows.length < 400000000000) (hn : rows.length + 20 < n) :
    ∃ v H', callM kn env (n + 6) (.func (.func 33) []) [v0] H = some (v, H') ∧ Grow H H' ∧ TxsRes H' H.next (txsD rows) v := by
  obtain ⟨rcs, hrd, hlies, hlen, hat⟩ := hrows
  have hl0 : aLenS v0 = some (vi rows.length) := by rw [← hlen]; exact hrd.lenS
  have hbk0 : Bk ((H.push (.map [] 0)).push (.row [some (0, [anil, .map H.next, abool false])])) H.next (H.next + 1) [] anil H.next [] 0 [] (fun A => if A = H.next then 1 else 0) :=
    ⟨by show AHeap.get _ _ = _; simp [-getElem?_pos], by simp (disch := omega) [-getElem?_pos], MapOk.none (es := []) (by simp [-getElem?_pos]), SliceE.nil _ _ _, (fun R _ _ _ _ _ _ e => by cases e), ⟨rfl, fun i e x h => by simp [-getElem?_pos] at h⟩, by simp [-getElem?_pos], by simp [-getElem?_pos], by simp [-getElem?_pos], by simp [-getElem?_pos]; omega⟩
  obtain ⟨v, H', h1, h2, h3⟩ := Wp.call (R := fun v H' => Grow H H' ∧ TxsRes H' H.next (txsD rows) v) 63 C33 h.e (h.no [v0] H) (n := n + 5) rfl (by simp [-getElem?_pos]) (by
    repeat (first | apply Wp.seq | apply Wp.blk | apply Wp.ret | apply Wp.skip | apply Wp.exit | apply Wp.cT rfl | apply Wp.cF rfl | ((apply Wp.reg; (repeat (apply Ex.cons; (simp (disch := omega) [-getElem?_pos, hl0]; rfl))); exact Ex.nil; rfl; (simp; rfl))))
    apply Wp.loop (α := Nat × AHeap × List TxD) (fun x => [(4, vp (H.next + 1)), (12, v0), (13, vi rows.length), (14, vi x.1)]) (·.2.1)
      (fun x => x.1 ≤ rows.length ∧ stepsD [] 0 (rows.take x.1) = some x.2.2 ∧ (∃ tv M es clock tvs o, Bk x.2.1 H.next (H.next + 1) x.2.2 tv M es clock tvs o) ∧ (∀ A, A < H.next → x.2.1.get A = H.get A) ∧ Small x.2.2 x.1) (fun x => rows.length - x.1)
      (0, (H.push (.map [] 0)).push (.row [some (0, [anil, .map H.next, abool false])]), []) rfl ⟨by omega, by simp [-getElem?_pos, stepsD], ⟨_, _, _, _, _, _, hbk0⟩, fun A hA => by rw [AHeap.get_push_ne _ _ (by simp [-getElem?_pos]; omega), AHeap.get_push_ne _ _ (by omega)], by simp [-getElem?_pos], by simp [-getElem?_pos]⟩ (by simp [-getElem?_pos]; omega) (by simp [-getElem?_pos])
    rintro ⟨j, H2, b⟩ ⟨hj, hst, ⟨tv, M, es, clock, tvs, o, hb⟩, hold, hsm⟩
    dsimp only at hj hst hb hold hsm ⊢
    (repeat (first | apply Wp.seq | apply Wp.blk)); (apply Wp.reg; (repeat (apply Ex.cons; (simp (disch := omega) [-getElem?_pos]; rfl))); exact Ex.nil; rfl; (simp; rfl))
    (repeat (first | apply Wp.seq | apply Wp.blk)); apply Wp.ite rfl
    · intro hjl
      obtain ⟨r, hr⟩ : ∃ r, rows[j]? = some r := ⟨_, List.getElem?_eq_getElem (by omega)⟩
      obtain ⟨rc, hrc⟩ : ∃ rc, rcs[j]? = some rc := ⟨_, List.getElem?_eq_getElem (by omega)⟩
      obtain ⟨hR, sv, hS⟩ := hat j rc r hrc hr
      obtain ⟨R0, ver0, off, kc, ex, cells, hv0, hrow, hc1, hc2⟩ := hrd.at hrc
      rw [hlen] at hv0
      have hR0 := hlies _ _ _ _ _ _ _ hv0
      have hrow2 : H2.rowAt R0 ver0 = some cells := by rw [rowAt_eq, hold R0 hR0, ← rowAt_eq]; exact hrow
      have r5 := hR.len
      have rt : rc.take 41 = rc := List.take_of_length_le (by omega)
      obtain ⟨H3, hw1, g1, hcl, hn3⟩ := newCells H2 (z := [zi, .raw (.int .u64 0), zi, .raw (.int .u64 0), zi, zb, zb, zb, zb, zb, zb, zb, zb, zb, zb, zb, zb, zb, zb, zb, zb, zb, zb, zb, zb, zb, zb, zb, zb, zb, zb, zb, zb, zb, zb, zb, zb, .raw (.int .u64 0), zi, zi, ns]) (e := rc) r5 (by omega) hR.one
      have hX := hcl.at
      have hb3 := hb.grow g1
      obtain ⟨H4, hc, ho⟩ := c67 E (i := j) n hins hb3 hR (hS.move fun A hA => by rw [g1.get A (by have := hb.hB; omega), hold A hA]) hsm (by omega) (by omega)
      apply Wp.skip
      cases hs : stepD b j r with
      | some b' =>
        rw [hs] at ho
        obtain ⟨⟨tv', M', es', clock', tvs', o', hb'⟩, hN', hn'⟩ := ho
        have hB' := hb'.cells.at
        repeat (first | apply Wp.seq | apply Wp.blk | apply Wp.ret | apply Wp.skip | apply Wp.exit | apply Wp.cT rfl | apply Wp.cF rfl | ((apply Wp.reg; (repeat (apply Ex.cons; (simp (disch := omega) [-getElem?_pos, hv0, hrow2, hc2, r5, rt, hw1, hX, hc, hB']; rfl))); exact Ex.nil; rfl; (simp; rfl))))
        exact ⟨(j + 1, H4, b'), rfl, ⟨by show j + 1 ≤ _; omega, by rw [steps_succ hr, hst]; exact hs, ⟨_, _, _, _, _, _, hb'⟩, fun A hA => by show H4.get A = _; rw [hN' A hA, g1.get A (by have := hb.hB; omega), hold A hA], stepD_small hsm hs⟩, by show _ - (j + 1) < _ - j; omega, by simp [-getElem?_pos, hv0]⟩
      | none =>
        rw [hs] at ho
        obtain ⟨⟨qa, qc, hB'⟩, hN', hn'⟩ := ho
        have hB' := hB'.at
        repeat (first | apply Wp.seq | apply Wp.blk | apply Wp.ret | apply Wp.skip | apply Wp.exit | apply Wp.cT rfl | apply Wp.cF rfl | ((apply Wp.reg; (repeat (apply Ex.cons; (simp (disch := omega) [-getElem?_pos, hv0, hrow2, hc2, r5, rt, hw1, hX, hc, hB']; rfl))); exact Ex.nil; rfl; (simp; rfl))))
        have hno : txsD rows = none := by unfold txsD; rw [steps_none (j := j + 1) (by rw [steps_succ hr, hst]; exact hs)]; rfl
        simp [-getElem?_pos, a33, hno, TxsRes]
        exact ⟨by have := hb.hB; have := g1.next; omega, fun A hA => by rw [hN' A hA, g1.get A (by have := hb.hB; omega), hold A hA]⟩
    · intro hjl
      apply Wp.exit
      have : rows.take j = rows := List.take_of_length_le (by omega)
      rw [this] at hst
      have ht : txsD rows = some (b.map endD) := by unfold txsD; rw [hst]; rfl
      rw [ht]
      have he : updAll endX b (liveIdx b) = b.map endD := upd_all endX b
      have hB := hb.hB
      obtain ⟨v, H1, hres, hg2, hlv, hat⟩ := liveRes_at H2 (es.map fun e => intOf e.2.1)
      have h68 : callM kn env (n + 5) (.func (.func 68) []) [vp (H.next + 1)] H2 = some (v, H1) := knM (n + 4) (by rw [List.append_nil, E.live, hb.live, hres])
      rw [hb.ok.live] at hat
      have hlen : (es.map fun e => intOf e.2.1).length = (liveIdx b).length := by rw [← srtI_len, hb.ok.live, List.length_map]
      rw [hlen] at hlv hat
      have hl8 : (liveIdx b).length ≤ 8 := by rw [← hlen, List.length_map]; exact hb.ok.len
      have hb2 := hb.grow hg2
      have hn1 := hg2.next
      repeat (first | apply Wp.seq | apply Wp.blk | apply Wp.ret | apply Wp.skip | apply Wp.exit | apply Wp.cT rfl | apply Wp.cF rfl | ((apply Wp.reg; (repeat (apply Ex.cons; (simp (disch := omega) [-getElem?_pos, h68, hlv]; rfl))); exact Ex.nil; rfl; (simp; rfl))))
      apply Wp.loop (α := Nat × AHeap × List (List AVal)) (fun x => [(4, vp (H.next + 1)), (29, v), (30, vi (liveIdx b).length), (31, vi x.1)]) (·.2.1)
        (fun x => x.1 ≤ (liveIdx b).length ∧ Bk x.2.1 H.next (H.next + 1) (updAll endX b ((liveIdx b).take x.1)) tv M es clock x.2.2 o ∧ x.2.1.next = H1.next ∧ (∀ A, H2.next ≤ A → x.2.1.get A = H1.get A) ∧ ∀ A, A < H.next → x.2.1.get A = H1.get A) (fun x => (liveIdx b).length - x.1) (0, H1, tvs) rfl ⟨by omega, hb2, rfl, fun _ _ => rfl, fun _ _ => rfl⟩ (by simp [-getElem?_pos]; omega) (by simp [-getElem?_pos])
      rintro ⟨j, H5, tvs5⟩ ⟨hj, hbk, hnx, hfr, hNk⟩
      dsimp only at hj hbk hnx hfr hNk ⊢
      (repeat (first | apply Wp.seq | apply Wp.blk)); (apply Wp.reg; (repeat (apply Ex.cons; (simp (disch := omega) [-getElem?_pos]; rfl))); exact Ex.nil; rfl; (simp; rfl))
      (repeat (first | apply Wp.seq | apply Wp.blk)); apply Wp.ite rfl
      · intro hjl
        obtain ⟨z, hz⟩ : ∃ z, (liveIdx b)[j]? = some z := ⟨_, List.getElem?_eq_getElem (by omega)⟩
        obtain ⟨x, hx, hon⟩ := mem_live.1 (List.mem_of_getElem? hz)
        obtain ⟨R1, ver1, cells1, hv, hR1, hR1n, hrow1, hc1, hcell1⟩ := hat j z (by rw [List.getElem?_map, hz]; rfl)
        have hrow1' : H5.rowAt R1 ver1 = some cells1 := by rw [rowAt_eq, hfr R1 (by omega), ← rowAt_eq]; exact hrow1
        have hx2 : (updAll endX b ((liveIdx b).take j))[z]? = some x := by rw [fresh_at hz, hx]
        have hbl : (updAll endX b ((liveIdx b).take j)).length = b.length := upd_len _ _ _
        have hkl := (List.getElem?_eq_some_iff.1 hx).1
        obtain ⟨R, ver, H6, htv, hw6, hn6, ⟨tvs6, hb6⟩, hN6, hR6⟩ := hbk.num (f := 11) (y := vi 1) (x' := { x with fate := 1 }) hx2 (by omega) rfl (fun _ _ _ => by simp [-getElem?_pos, txc]) ⟨rfl, rfl, rfl⟩ rfl rfl
        rw [hbl] at htv
        have hRH : R < H2.next := by
          obtain ⟨R', ver', _, _, _, _, e, _, h, _⟩ := hb.tx hx
          rw [htv] at e; cases e; exact h
        have hx6 : ((updAll endX b ((liveIdx b).take j)).set z { x with fate := 1 })[z]? = some { x with fate := 1 } := List.getElem?_set_self (by rw [hbl]; omega)
        obtain ⟨R', ver', cells, sv, rv, wv, htv', _, _, _, hrow, hlen2, hcell, _, _⟩ := hb6.tx hx6
        rw [List.length_set, hbl, htv] at htv'; cases htv'
        have g8 := hcell 8 (by omega)
        simp only [txc, List.getElem?_cons_succ, List.getElem?_cons_zero] at g8
        have hB1 := hbk.cells.at
        have hB6 := hb6.cells.at
        rw [htv] at hB1 hB6
        have hrow6 : H6.rowAt R1 ver1 = some cells1 := by rw [rowAt_eq, hR6 R1 (by omega), ← rowAt_eq]; exact hrow1'
        apply Wp.skip
        by_cases hcm : 0 ≤ x.commit
        · obtain ⟨R', ver', H7, htv', hw7, hn7, ⟨tvs7, hb7⟩, hN7, hR7⟩ := hb6.num (f := 11) (y := vi 4) (x' := { x with fate := 4 }) hx6 (by omega) rfl (fun _ _ _ => by simp [-getElem?_pos, txc]) ⟨rfl, rfl, rfl⟩ rfl rfl
          rw [List.length_set, hbl, htv] at htv'; cases htv'
          rw [List.set_set] at hb7
          have hsx : endX x = { x with fate := 4 } := by unfold endX; rw [if_pos hcm]
          have hB7 := hb7.cells.at
          rw [htv] at hB7
          repeat (first | apply Wp.seq | apply Wp.blk | apply Wp.ret | apply Wp.skip | apply Wp.exit | apply Wp.cT rfl | apply Wp.cF rfl | ((apply Wp.reg; (repeat (apply Ex.cons; (simp (disch := omega) [-getElem?_pos, hv, hrow1', hcell1, hB1, hw6, hB6, hrow, g8, hw7]; rfl))); exact Ex.nil; rfl; (simp; rfl))))
          exact ⟨(j + 1, H7, tvs7), rfl, ⟨by show j + 1 ≤ _; omega, by show Bk H7 _ _ (updAll endX b ((liveIdx b).take (j + 1))) _ _ _ _ _ _; rw [upd_step hz]; unfold updB; rw [hx2]; simp only [hsx]; exact hb7, by show H7.next = _; omega, fun A hA => by show H7.get A = _; rw [hR7 A (by omega), hR6 A (by omega), hfr A hA], fun A hA => by show H7.get A = _; rw [hN7 A hA, hN6 A hA, hNk A hA]⟩, by show _ - (j + 1) < _ - j; omega, by simp [-getElem?_pos, hv]⟩
        · have hsx : endX x = { x with fate := 1 } := by unfold endX; rw [if_neg hcm]
          repeat (first | apply Wp.seq | apply Wp.blk | apply Wp.ret | apply Wp.skip | apply Wp.exit | apply Wp.cT rfl | apply Wp.cF rfl | ((apply Wp.reg; (repeat (apply Ex.cons; (simp (disch := omega) [-getElem?_pos, hv, hrow1', hcell1, hB1, hw6, hB6, hrow, g8]; rfl))); exact Ex.nil; rfl; (simp; rfl))))
          exact ⟨(j + 1, H6, tvs6), rfl, ⟨by show j + 1 ≤ _; omega, by show Bk H6 _ _ (updAll endX b ((liveIdx b).take (j + 1))) _ _ _ _ _ _; rw [upd_step hz]; unfold updB; rw [hx2]; simp only [hsx]; exact hb6, by show H6.next = _; omega, fun A hA => by show H6.get A = _; rw [hR6 A (by omega), hfr A hA], fun A hA => by show H6.get A = _; rw [hN6 A hA, hNk A hA]⟩, by show _ - (j + 1) < _ - j; omega, by simp [-getElem?_pos, hv]⟩
      · intro hjl
        apply Wp.exit
        have : (liveIdx b).take j = liveIdx b := List.take_of_length_le (by omega)
        rw [this, he] at hbk
        have hB1 := hbk.cells.at
        repeat (first | apply Wp.seq | apply Wp.blk | apply Wp.ret | apply Wp.skip | apply Wp.exit | apply Wp.cT rfl | apply Wp.cF rfl | ((apply Wp.reg; (repeat (apply Ex.cons; (simp (disch := omega) [-getElem?_pos, hB1]; rfl))); exact Ex.nil; rfl; (simp; rfl))))
        simp [-getElem?_pos, a33]
        exact ⟨⟨by omega, fun A hA => by rw [hNk A hA, hg2.get A (by omega), hold A hA]⟩, tv, tvs5, o, rfl, hbk.txs, hbk.txsL, hbk.each⟩)
  exact ⟨v, H', h1, h2, h3⟩
end Go.Proofs.Ythbjfkkjmecaaaa
