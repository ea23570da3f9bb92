/- Walks: a row. -/
import Derived.Test.YthbjfkkjmecaaaaT29
set_option linter.unusedVariables false
set_option linter.unusedSimpArgs false
namespace Go.Proofs.Ythbjfkkjmecaaaa
open Go Go.Vm
variable {kn : Known} {env : Nat → Option AFunc}
variable {H H' H1 : AHeap} {N B M clock : Nat} {i : Int} {b : List TxD} {tv sv rv wv sv' rv' wv' : AVal} {es : AEntries} {tvs : List (List AVal)} {o o' o1 : Nat → Nat} {e : List AVal} {x x' : TxD} {r : RowD} {rc : List AVal}
def crashX (x : TxD) : TxD := { x with fate := if x.commit < 0 then 3 else 4, on := false }
def scanX (p : Int) (x : TxD) : TxD := if x.fate = 4 then { x with fate := if x.pos < p then 6 else 7 } else x
def updAll (f : TxD → TxD) (b : List TxD) (l : List Nat) : List TxD := l.foldl (fun b k => updB b k f) b
theorem upd_at (f : TxD → TxD) : ∀ (l : List Nat) (b : List TxD) (j : Nat), l.Nodup → (updAll f b l)[j]? = if j ∈ l then (b[j]?).map f else b[j]?
  | [], b, j, _ => by simp [-getElem?_pos, updAll]
  | k :: l, b, j, hn => by
    rw [List.nodup_cons] at hn
    have ih := upd_at f l (updB b k f) j hn.2
    show (updAll f (updB b k f) l)[j]? = _
    rw [ih]
    have hu : (updB b k f)[j]? = if j = k then (b[j]?).map f else b[j]? := by
      unfold updB
      cases hb : b[k]? with
      | none =>
        by_cases e : j = k
        · subst e; simp [-getElem?_pos, hb]
        · simp [-getElem?_pos, e]
      | some x =>
        have hk := (List.getElem?_eq_some_iff.1 hb).1
        simp only [List.getElem?_set]
        by_cases e : k = j
        · subst e; simp [-getElem?_pos, hk, hb]
        · rw [if_neg e, if_neg (fun h => e h.symm)]
    rw [hu]
    by_cases e : j = k
    · subst e; rw [if_neg hn.1, if_pos rfl, if_pos (List.mem_cons_self ..)]
    · simp [-getElem?_pos, e]
theorem upd_len (f : TxD → TxD) : ∀ (l : List Nat) (b : List TxD), (updAll f b l).length = b.length
  | [], b => rfl
  | k :: l, b => by
    show (updAll f (updB b k f) l).length = _
    rw [upd_len f l]
    unfold updB
    split <;> simp [-getElem?_pos]
theorem upd_all (f : TxD → TxD) (b : List TxD) : updAll f b (liveIdx b) = b.map fun x => if x.on then f x else x := by
  apply List.ext_getElem?
  intro j
  rw [upd_at f _ _ _ (live_nodup b), List.getElem?_map]
  cases hb : b[j]? with
  | none => simp [-getElem?_pos]
  | some x =>
    by_cases hj : j ∈ liveIdx b
    · obtain ⟨y, h1, h2⟩ := mem_live.1 hj
      rw [hb] at h1; cases h1
      simp [-getElem?_pos, hj, h2]
    · have : x.on = false := Bool.eq_false_iff.2 fun h => hj (mem_live.2 ⟨x, hb, h⟩)
      simp [-getElem?_pos, hj, this]
theorem upd_step {f : TxD → TxD} {b : List TxD} {l : List Nat} {j k : Nat} (hk : l[j]? = some k) : updAll f b (l.take (j + 1)) = updB (updAll f b (l.take j)) k f := by
  unfold updAll
  rw [List.take_add_one, hk, List.foldl_append]; rfl
theorem fresh_at {f : TxD → TxD} {b : List TxD} {j k : Nat} (hz : (liveIdx b)[j]? = some k) : (updAll f b ((liveIdx b).take j))[k]? = b[k]? := by
  rw [upd_at f _ _ _ ((live_nodup b).sublist (List.take_sublist ..)), if_neg]
  intro h
  obtain ⟨q, hq⟩ := List.mem_iff_getElem?.1 h
  have hqj : q < j := by have := (List.getElem?_eq_some_iff.1 hq).1; simp [-getElem?_pos] at this; omega
  rw [List.getElem?_take, if_pos hqj] at hq
  have hql := (List.getElem?_eq_some_iff.1 hq).1
  have := (List.getElem?_inj hql (live_nodup b)).1 (hq.trans hz.symm)
  omega
theorem stepD_crash (h : r.kind = 18) : stepD b i r = some (updAll crashX b (liveIdx b)) := by
  unfold stepD
  rw [if_neg (by omega), if_neg (by omega), if_neg (by omega), if_pos h, upd_all]; rfl
structure RowE (kn : Known) (env : Nat → Option AFunc) : Prop extends ClientE kn env where
  f67 : Fn kn env 67 a67
  f86 : Fn kn env 86 a86
  f87 : Fn kn env 87 a87
  f88 : Fn kn env 88 a88
  live : ∀ B H, kn 68 [vp B] H = liveKn 68 [vp B] H
theorem SetOk.move (h : SetOk H N rc r sv) (hg : ∀ A, A < N → H'.get A = H.get A) : SetOk H' N rc r sv where
  at_ := h.at_
  rd := h.rd.move fun R ver off len kc ex e => by rw [rowAt_eq, rowAt_eq, hg R (h.lies _ _ _ _ _ _ _ e)]
  lies := h.lies
  len := h.len
abbrev C67 : List Nat := [0, 1, 2, 5, 6, 7, 9, 10, 11, 12, 14, 15, 29, 41, 51, 59, 67, 70, 71, 72, 73, 84, 95, 101, 102, 103, 115, 125]
theorem c67fin (E : RowE kn env) (n : Nat) {b' : Option (List TxD)} {i : Int} (H2 : AHeap) (h1 : Wp (callM kn env (n + 4)) (n + 4) 130 C67 a67.code (argK 0 [vp B, vi i, .agg rc], H) (EndK a67.res fun v' h' => v' = .tuple [] ∧ h' = H2)) (h2 : Out H N B b' H2) :
    ∃ H', callM kn env (n + 5) (.func (.func 67) []) [vp B, vi i, .agg rc] H = some (.tuple [], H') ∧ Out H N B b' H' := ⟨H2, Wp.call1 130 C67 E.f67.e (E.f67.no _ _) rfl (by simp [-getElem?_pos]) h1, h2⟩
theorem c67c (E : RowE kn env) (n : Nat) (hins : InsC (callM kn env (n + 2))) (hb : Bk H N B b tv M es clock tvs o) (hr : RowC rc r) (hs : SetOk H N rc r sv) {m : Nat} (hsm : Small b m) (hm : m < 400000000000) (hn : m + 10 < n) (hk : 1 ≤ r.kind ∧ r.kind ≤ 9) :
    ∃ H', callM kn env (n + 5) (.func (.func 67) []) [vp B, vi i, .agg rc] H = some (.tuple [], H') ∧ Out H N B (stepD b i r) H' := by
  have hg1 := Grow.push H (.row [some (0, rc)])
  have hb1 := hb.grow hg1
  have hB := hb.hB
  have r0 := hr.a0
  have r5 := hr.len
  have rt : rc.take 41 = rc := List.take_of_length_le (by omega)
  obtain ⟨H2, hc, ho⟩ := c85 E.toClientE (i := i) n hins hb1 hr (hs.move fun A hA => AHeap.get_push_ne _ _ (by omega)) hsm hm hn
  have hst : stepD b i r = stepC b i r := by unfold stepD; rw [if_pos hk]
  rw [hst]
  refine c67fin E n H2 ?_ (ho.from hg1 (by omega))
  have : r.kind = 1 ∨ r.kind = 2 ∨ r.kind = 3 ∨ r.kind = 4 ∨ r.kind = 5 ∨ r.kind = 6 ∨ r.kind = 7 ∨ r.kind = 8 ∨ r.kind = 9 := by omega
  rcases this with h | h | h | h | h | h | h | h | h
  all_goals
    repeat (first | apply Wp.seq | apply Wp.blk | apply Wp.ret | apply Wp.skip | apply Wp.exit | apply Wp.cT rfl | apply Wp.cF rfl | ((apply Wp.reg; (repeat (apply Ex.cons; (simp (disch := omega) [-getElem?_pos, r0, r5, rt, hc]; rfl))); exact Ex.nil; rfl; (simp; rfl))))
    simp [-getElem?_pos, a67]
theorem onlyB_on {t : Int} {k : Nat} (h : onlyB b t = some k) : ∃ x, b[k]? = some x ∧ x.on = true := by
  unfold onlyB at h
  cases hl : (liveIdx b).filter (tickAt b t) with
  | nil => rw [hl] at h; cases h
  | cons z l =>
    cases l with
    | nil =>
      rw [hl] at h
      cases h
      exact mem_live.1 (List.mem_filter.1 (by rw [hl]; exact List.mem_cons_self ..)).1
    | cons y l => rw [hl] at h; cases h
theorem c67a (E : RowE kn env) (n : Nat) (hn : 20 < n) (hb : Bk H N B b tv M es clock tvs o) (hr : RowC rc r) (hk : r.kind = 11) :
    ∃ H', callM kn env (n + 5) (.func (.func 67) []) [vp B, vi i, .agg rc] H = some (.tuple [], H') ∧ Out H N B (stepD b i r) H' := by
  have hg1 := Grow.push H (.row [some (0, rc)])
  have hb1 := hb.grow hg1
  have hB := hb.hB
  have r0 := hr.a0
  have r3 := hr.a3
  have r4 := hr.a4
  have r5 := hr.len
  have r37 := hr.a37
  have h86 := c86 E.f86 E.f110 (E.live B) (n + 2) (by omega) hb1 r.ticket (.func (.func 87) []) (fun x => decide (0 ≤ x.asked ∧ x.commit < 0)) fun H' hg k x R ver hx htv => by
    obtain ⟨R', ver', cells, sv, rv, wv, htv', _, _, _, hrow, hlen, hcell, _, _⟩ := (hb1.grow hg).tx hx
    rw [htv] at htv'; cases htv'
    exact c87 E.f87 (n + 2) hrow hlen hcell
  have hst : stepD b i r = (onlyB b r.ticket).bind fun k => (b[k]?).bind fun x => if 0 ≤ x.asked ∧ x.commit < 0 then some (if r.blk = -1 then b.set k { x with commit := i, pos := r.pos } else b) else none := by
    unfold stepD
    rw [if_neg (by omega), if_pos hk]
  rw [hst]
  cases ho : onlyB b r.ticket with
  | none =>
    rw [ho] at h86
    obtain ⟨H2, hc, hbad⟩ := h86
    refine c67fin E n H2 ?_ (Out.from (b' := none) hg1 (by omega) hbad)
    repeat (first | apply Wp.seq | apply Wp.blk | apply Wp.ret | apply Wp.skip | apply Wp.exit | apply Wp.cT rfl | apply Wp.cF rfl | ((apply Wp.reg; (repeat (apply Ex.cons; (simp (disch := omega) [-getElem?_pos, r0, r3, r5, hc, aEqP]; rfl))); exact Ex.nil; rfl; (simp; rfl))))
    simp [-getElem?_pos, a67]
  | some k =>
    rw [ho] at h86
    obtain ⟨x, hx, hon⟩ := onlyB_on ho
    have h86 := h86 x hx
    simp only [Option.bind_some, hx]
    by_cases hf : 0 ≤ x.asked ∧ x.commit < 0
    · rw [if_pos (by simpa [-getElem?_pos] using hf)] at h86
      obtain ⟨R, ver, H2, htv, hc, hg2⟩ := h86
      rw [if_pos hf]
      have hX2 : H2.rowAt H.next 0 = some rc := by rw [hg2.rowAt (by simp [-getElem?_pos])]; simp [-getElem?_pos]
      have hn2 := hg2.next
      simp only [AHeap.next_push] at hn2
      have hb2 := hb1.grow hg2
      by_cases h4 : r.blk = -1
      · rw [if_pos h4]
        obtain ⟨R', ver', H3, htv', hw, hn3, ⟨tvs3, hb3⟩, hN3, hR3⟩ := hb2.num (f := 8) (y := vi i) (x' := { x with commit := i }) hx (by omega) rfl (fun _ _ _ => by simp [-getElem?_pos, txc]) ⟨rfl, rfl, rfl⟩ rfl rfl
        rw [htv] at htv'; cases htv'
        have hkl := (List.getElem?_eq_some_iff.1 hx).1
        obtain ⟨R', ver', H4, htv', hw4, hn4, ⟨tvs4, hb4⟩, hN4, _⟩ := hb3.num (k := k) (f := 9) (y := vu r.pos) (x := { x with commit := i }) (x' := { x with commit := i, pos := r.pos }) (by rw [List.getElem?_set_self hkl]) (by omega) rfl (fun _ _ _ => by simp [-getElem?_pos, txc]) ⟨rfl, rfl, rfl⟩ rfl rfl
        rw [List.length_set, htv] at htv'; cases htv'
        rw [List.set_set] at hb4
        have hRX : R ≠ H.next := by
          obtain ⟨R', ver', _, _, _, _, e, _, h, _⟩ := hb.tx hx
          rw [htv] at e; cases e; omega
        have hX3 : H3.rowAt H.next 0 = some rc := by rw [rowAt_eq, hR3 _ (fun e => hRX e.symm), ← rowAt_eq]; exact hX2
        refine c67fin E n H4 ?_ (Out.from (b' := some _) (H1 := H2) (hg1.trans hg2) (by omega) ⟨⟨_, _, _, _, _, _, hb4⟩, fun A hA => by rw [hN4 A hA, hN3 A hA], by omega⟩)
        repeat (first | apply Wp.seq | apply Wp.blk | apply Wp.ret | apply Wp.skip | apply Wp.exit | apply Wp.cT rfl | apply Wp.cF rfl | ((apply Wp.reg; (repeat (apply Ex.cons; (simp (disch := omega) [-getElem?_pos, r0, r3, r4, r5, r37, hc, aEqP, hX2, hX3, hw, hw4]; rfl))); exact Ex.nil; rfl; (simp; rfl))) | ((apply Wp.draw; (repeat (first | ((first | apply Dr.q rfl rfl | apply Dr.r rfl rfl); (simp (disch := omega) [-getElem?_pos, r0, r3, r4, r5, r37, hc, aEqP, hX2, hX3, hw, hw4]; rfl); (simp; rfl)) | (apply Dr.imm rfl; (simp (disch := omega) [-getElem?_pos, r0, r3, r4, r5, r37, hc, aEqP, hX2, hX3, hw, hw4]; rfl); (focus first | (simp [-getElem?_pos]; done) | (simp [-getElem?_pos]; omega))))); exact Dr.nil; rfl; (simp (disch := omega) [-getElem?_pos, r0, r3, r4, r5, r37, hc, aEqP, hX2, hX3, hw, hw4]); (simp; rfl))))
        simp [-getElem?_pos, a67]
      · rw [if_neg h4]
        refine c67fin E n H2 ?_ (Out.from (b' := some b) hg1 (by omega) (hb1.sameOut hg2))
        repeat (first | apply Wp.seq | apply Wp.blk | apply Wp.ret | apply Wp.skip | apply Wp.exit | apply Wp.cT rfl | apply Wp.cF rfl | ((apply Wp.reg; (repeat (apply Ex.cons; (simp (disch := omega) [-getElem?_pos, r0, r3, r4, r5, hc, aEqP, hX2]; rfl))); exact Ex.nil; rfl; (simp; rfl))) | ((apply Wp.draw; (repeat (first | ((first | apply Dr.q rfl rfl | apply Dr.r rfl rfl); (simp (disch := omega) [-getElem?_pos, r0, r3, r4, r5, hc, aEqP, hX2]; rfl); (simp; rfl)) | (apply Dr.imm rfl; (simp (disch := omega) [-getElem?_pos, r0, r3, r4, r5, hc, aEqP, hX2]; rfl); (focus first | (simp [-getElem?_pos]; done) | (simp [-getElem?_pos]; omega))))); exact Dr.nil; rfl; (simp (disch := omega) [-getElem?_pos, r0, r3, r4, r5, hc, aEqP, hX2]); (simp; rfl))))
        simp [-getElem?_pos, a67]
    · rw [if_neg (by simpa [-getElem?_pos] using hf)] at h86
      obtain ⟨H2, hc, hbad⟩ := h86
      rw [if_neg hf]
      refine c67fin E n H2 ?_ (Out.from (b' := none) hg1 (by omega) hbad)
      repeat (first | apply Wp.seq | apply Wp.blk | apply Wp.ret | apply Wp.skip | apply Wp.exit | apply Wp.cT rfl | apply Wp.cF rfl | ((apply Wp.reg; (repeat (apply Ex.cons; (simp (disch := omega) [-getElem?_pos, r0, r3, r5, hc, aEqP]; rfl))); exact Ex.nil; rfl; (simp; rfl))))
      simp [-getElem?_pos, a67]
theorem c67d (E : RowE kn env) (n : Nat) (hn : 20 < n) (hb : Bk H N B b tv M es clock tvs o) (hr : RowC rc r) (hk : r.kind = 13) :
    ∃ H', callM kn env (n + 5) (.func (.func 67) []) [vp B, vi i, .agg rc] H = some (.tuple [], H') ∧ Out H N B (stepD b i r) H' := by
  have hg1 := Grow.push H (.row [some (0, rc)])
  have hb1 := hb.grow hg1
  have hB := hb.hB
  have r0 := hr.a0
  have r3 := hr.a3
  have r5 := hr.len
  have h86 := c86 E.f86 E.f110 (E.live B) (n + 2) (by omega) hb1 r.ticket (.func (.func 88) [vp H.next]) (fun x => decide (0 ≤ x.commit ∧ x.pos = r.pos)) fun H' hg k x R ver hx htv => by
    obtain ⟨R', ver', cells, sv, rv, wv, htv', _, _, _, hrow, hlen, hcell, _, _⟩ := (hb1.grow hg).tx hx
    rw [htv] at htv'; cases htv'
    exact c88 E.f88 (n + 2) hrow hlen hcell (by rw [hg.rowAt (by simp [-getElem?_pos])]; simp [-getElem?_pos]) hr
  have hst : stepD b i r = (onlyB b r.ticket).bind fun k => (b[k]?).bind fun x => if 0 ≤ x.commit ∧ x.pos = r.pos then some (b.set k { x with done := i, fate := 5, on := false }) else none := by
    unfold stepD
    rw [if_neg (by omega), if_neg (by omega), if_pos hk]
  rw [hst]
  cases ho : onlyB b r.ticket with
  | none =>
    rw [ho] at h86
    obtain ⟨H2, hc, hbad⟩ := h86
    refine c67fin E n H2 ?_ (Out.from (b' := none) hg1 (by omega) hbad)
    repeat (first | apply Wp.seq | apply Wp.blk | apply Wp.ret | apply Wp.skip | apply Wp.exit | apply Wp.cT rfl | apply Wp.cF rfl | ((apply Wp.reg; (repeat (apply Ex.cons; (simp (disch := omega) [-getElem?_pos, r0, r3, r5, hc, aEqP]; rfl))); exact Ex.nil; rfl; (simp; rfl))))
    simp [-getElem?_pos, a67]
  | some k =>
    rw [ho] at h86
    obtain ⟨x, hx, hon⟩ := onlyB_on ho
    have h86 := h86 x hx
    simp only [Option.bind_some, hx]
    by_cases hf : 0 ≤ x.commit ∧ x.pos = r.pos
    · rw [if_pos (by simpa [-getElem?_pos] using hf)] at h86
      obtain ⟨R, ver, H2, htv, hc, hg2⟩ := h86
      rw [if_pos hf]
      have hb2 := hb1.grow hg2
      obtain ⟨R', ver', H3, htv', hw, hn3, ⟨tvs3, hb3⟩, hN3, hR3⟩ := hb2.num (f := 10) (y := vi i) (x' := { x with done := i }) hx (by omega) rfl (fun _ _ _ => by simp [-getElem?_pos, txc]) ⟨rfl, rfl, rfl⟩ rfl rfl
      rw [htv] at htv'; cases htv'
      have hkl := (List.getElem?_eq_some_iff.1 hx).1
      obtain ⟨H4, es4, tvs4, hc4, hb4, hn4, hN4, _⟩ := c89 E.f89 (n + 3) hb3 (k := k) (x := { x with done := i }) (f := 5) (by rw [List.getElem?_set_self hkl]) hon (by rw [List.length_set]; exact htv)
      rw [List.set_set] at hb4
      refine c67fin E n H4 ?_ (Out.from (b' := some _) (H1 := H2) (hg1.trans hg2) (by omega) ⟨⟨_, _, _, _, _, _, hb4⟩, fun A hA => by rw [hN4 A hA, hN3 A hA], by omega⟩)
      repeat (first | apply Wp.seq | apply Wp.blk | apply Wp.ret | apply Wp.skip | apply Wp.exit | apply Wp.cT rfl | apply Wp.cF rfl | ((apply Wp.reg; (repeat (apply Ex.cons; (simp (disch := omega) [-getElem?_pos, r0, r3, r5, hc, aEqP, hw, hc4]; rfl))); exact Ex.nil; rfl; (simp; rfl))))
      simp [-getElem?_pos, a67]
    · rw [if_neg (by simpa [-getElem?_pos] using hf)] at h86
      obtain ⟨H2, hc, hbad⟩ := h86
      rw [if_neg hf]
      refine c67fin E n H2 ?_ (Out.from (b' := none) hg1 (by omega) hbad)
      repeat (first | apply Wp.seq | apply Wp.blk | apply Wp.ret | apply Wp.skip | apply Wp.exit | apply Wp.cT rfl | apply Wp.cF rfl | ((apply Wp.reg; (repeat (apply Ex.cons; (simp (disch := omega) [-getElem?_pos, r0, r3, r5, hc, aEqP]; rfl))); exact Ex.nil; rfl; (simp; rfl))))
      simp [-getElem?_pos, a67]
theorem c67n (E : RowE kn env) (n : Nat) (hb : Bk H N B b tv M es clock tvs o) (hr : RowC rc r) (hk : ¬ (1 ≤ r.kind ∧ r.kind ≤ 9) ∧ r.kind ≠ 11 ∧ r.kind ≠ 13 ∧ r.kind ≠ 18 ∧ r.kind ≠ 19) :
    ∃ H', callM kn env (n + 5) (.func (.func 67) []) [vp B, vi i, .agg rc] H = some (.tuple [], H') ∧ Out H N B (stepD b i r) H' := by
  have hg1 := Grow.push H (.row [some (0, rc)])
  have r0 := hr.a0
  have r5 := hr.len
  obtain ⟨h1, h2, h3, h4, h5⟩ := hk
  have hst : stepD b i r = some b := by
    unfold stepD
    rw [if_neg h1, if_neg h2, if_neg h3, if_neg h4, if_neg h5]
  rw [hst]
  refine c67fin E n _ ?_ (hb.sameOut hg1)
  by_cases h : r.kind < 1
  · repeat (first | apply Wp.seq | apply Wp.blk | apply Wp.ret | apply Wp.skip | apply Wp.exit | apply Wp.cT rfl | apply Wp.cF rfl | ((apply Wp.reg; (repeat (apply Ex.cons; (simp (disch := omega) [-getElem?_pos, r0, r5]; rfl))); exact Ex.nil; rfl; (simp; rfl))))
    simp [-getElem?_pos, a67]
  · repeat (first | apply Wp.seq | apply Wp.blk | apply Wp.ret | apply Wp.skip | apply Wp.exit | apply Wp.cT rfl | apply Wp.cF rfl | ((apply Wp.reg; (repeat (apply Ex.cons; (simp (disch := omega) [-getElem?_pos, r0, r5]; rfl))); exact Ex.nil; rfl; (simp; rfl))))
    simp [-getElem?_pos, a67]
end Go.Proofs.Ythbjfkkjmecaaaa
namespace Go.Proofs.Ythbjfkkjmecaaaa
open Go Go.Vm
variable {kn : Known} {env : Nat → Option AFunc}
variable {H H' H1 : AHeap} {N B M clock : Nat} {i : Int} {b : List TxD} {tv sv rv wv sv' rv' wv' : AVal} {es : AEntries} {tvs : List (List AVal)} {o o' o1 : Nat → Nat} {e : List AVal} {x x' : TxD} {r : RowD} {rc : List AVal}
theorem c67k (E : RowE kn env) (n : Nat) (hn : 20 < n) (hb : Bk H N B b tv M es clock tvs o) (hr : RowC rc r) (hk : r.kind = 18) :
    ∃ H', callM kn env (n + 5) (.func (.func 67) []) [vp B, vi i, .agg rc] H = some (.tuple [], H') ∧ Out H N B (stepD b i r) H' := by
  have hg1 := Grow.push H (.row [some (0, rc)])
  have hb1 := hb.grow hg1
  have hB := hb.hB
  have r0 := hr.a0
  have r5 := hr.len
  rw [stepD_crash hk]
  obtain ⟨v, H1, hres, hg2, hlv, hat⟩ := liveRes_at (H.push (.row [some (0, rc)])) (es.map fun e => intOf e.2.1)
  have h68 : callM kn env (n + 4) (.func (.func 68) []) [vp B] (H.push (.row [some (0, rc)])) = some (v, H1) := knM (n + 3) (by rw [List.append_nil, E.live, hb1.live, hres])
  rw [hb.ok.live] at hat
  have hlen : (es.map fun e => intOf e.2.1).length = (liveIdx b).length := by rw [← srtI_len, hb.ok.live, List.length_map]
  rw [hlen] at hlv hat
  have hl8 : (liveIdx b).length ≤ 8 := by rw [← hlen, List.length_map]; exact hb.ok.len
  have hn1 := hg2.next
  simp only [AHeap.next_push] at hn1
  have hb2 := hb1.grow hg2
  obtain ⟨_, H', h1, rfl, h2⟩ := Wp.call (R := fun v H' => v = .tuple [] ∧ Out H N B (some (updAll crashX b (liveIdx b))) H') 130 C67 E.f67.e (E.f67.no [vp B, vi i, .agg rc] H) (n := n + 4) rfl (by simp [-getElem?_pos]) (by
    repeat (first | apply Wp.seq | apply Wp.blk | apply Wp.ret | apply Wp.skip | apply Wp.exit | apply Wp.cT rfl | apply Wp.cF rfl | ((apply Wp.reg; (repeat (apply Ex.cons; (simp (disch := omega) [-getElem?_pos, r0, r5, h68, hlv]; rfl))); exact Ex.nil; rfl; (simp; rfl))))
    apply Wp.loop (α := Nat × AHeap × AEntries × List (List AVal)) (fun x => [(0, vp B), (70, v), (71, vi (liveIdx b).length), (72, vi x.1)]) (·.2.1)
      (fun x => x.1 ≤ (liveIdx b).length ∧ Bk x.2.1 N B (updAll crashX b ((liveIdx b).take x.1)) tv M x.2.2.1 clock x.2.2.2 o ∧ x.2.1.next = H1.next ∧ (∀ A, H.next ≤ A → x.2.1.get A = H1.get A) ∧ ∀ A, A < N → x.2.1.get A = H1.get A) (fun x => (liveIdx b).length - x.1) (0, H1, es, tvs) rfl ⟨by omega, hb2, rfl, fun _ _ => rfl, fun _ _ => rfl⟩ (by simp [-getElem?_pos]; omega) (by simp [-getElem?_pos])
    rintro ⟨j, H2, es2, tvs2⟩ ⟨hj, hbk, hnx, hfr, hNk⟩
    dsimp only at hj hbk hnx hfr hNk ⊢
    (repeat (first | apply Wp.seq | apply Wp.blk)); (apply Wp.reg; (repeat (apply Ex.cons; (simp (disch := omega) [-getElem?_pos]; rfl))); exact Ex.nil; rfl; (simp; rfl))
    (repeat (first | apply Wp.seq | apply Wp.blk)); apply Wp.ite rfl
    · intro hjl
      obtain ⟨z, hz⟩ : ∃ z, (liveIdx b)[j]? = some z := ⟨_, List.getElem?_eq_getElem (by omega)⟩
      obtain ⟨x, hx, hon⟩ := mem_live.1 (List.mem_of_getElem? hz)
      obtain ⟨R1, ver1, cells1, hv, hR1, hR1n, hrow1, hc1, hcell1⟩ := hat j z (by rw [List.getElem?_map, hz]; rfl)
      simp only [AHeap.next_push] at hR1
      have hrow1' : H2.rowAt R1 ver1 = some cells1 := by rw [rowAt_eq, hfr R1 (by omega), ← rowAt_eq]; exact hrow1
      have hx2 : (updAll crashX b ((liveIdx b).take j))[z]? = some x := by rw [fresh_at hz, hx]
      obtain ⟨R, ver, cells, sv, rv, wv, htv, hR1', hR2, hR3, hrow, hlen2, hcell, _, _⟩ := hbk.tx hx2
      have hbl : (updAll crashX b ((liveIdx b).take j)).length = b.length := upd_len _ _ _
      rw [hbl] at htv
      have hRH : R < H.next := by
        obtain ⟨R', ver', _, _, _, _, e, _, h, _⟩ := hb.tx hx
        rw [htv] at e; cases e; exact h
      have hkl := (List.getElem?_eq_some_iff.1 hx).1
      have g8 := hcell 8 (by omega)
      simp only [txc, List.getElem?_cons_succ, List.getElem?_cons_zero] at g8
      have hB1 := hbk.cells.at
      rw [htv] at hB1
      have key : ∀ f : Int, f = (if x.commit < 0 then 3 else 4) → ∃ H3 es3 tvs3, callM kn env (n + 4) (.func (.func 89) []) [vp B, .ptr R ver (z * 12), vi f] H2 = some (.tuple [], H3) ∧ Bk H3 N B (updAll crashX b ((liveIdx b).take (j + 1))) tv M es3 clock tvs3 o ∧ H3.next = H1.next ∧ (∀ A, H.next ≤ A → H3.get A = H1.get A) ∧ ∀ A, A < N → H3.get A = H1.get A := fun f hf => by
        obtain ⟨H3, es3, tvs3, hc, hb3, hn3, hN3, hA3⟩ := c89 E.f89 (n + 3) hbk (f := f) hx2 hon (by rw [hbl]; exact htv)
        refine ⟨H3, es3, tvs3, hc, ?_, by rw [hn3, hnx], fun A hA => by rw [hA3 A (by have := hb.hM; omega) (by omega), hfr A hA], fun A hA => by rw [hN3 A hA, hNk A hA]⟩
        rw [upd_step hz]
        unfold updB
        rw [hx2]
        rw [hf] at hb3
        exact hb3
      apply Wp.skip
      by_cases hcm : x.commit < 0
      · obtain ⟨H3, es3, tvs3, hc, hb3, hn3, hf3, hN3⟩ := key 3 (by rw [if_pos hcm])
        repeat (first | apply Wp.seq | apply Wp.blk | apply Wp.ret | apply Wp.skip | apply Wp.exit | apply Wp.cT rfl | apply Wp.cF rfl | ((apply Wp.reg; (repeat (apply Ex.cons; (simp (disch := omega) [-getElem?_pos, hv, hrow1', hcell1, hB1, hrow, g8, hc]; rfl))); exact Ex.nil; rfl; (simp; rfl))))
        exact ⟨(j + 1, H3, es3, tvs3), rfl, ⟨by show j + 1 ≤ _; omega, hb3, hn3, hf3, hN3⟩, by show _ - (j + 1) < _ - j; omega, by simp [-getElem?_pos, hv]⟩
      · obtain ⟨H3, es3, tvs3, hc, hb3, hn3, hf3, hN3⟩ := key 4 (by rw [if_neg hcm])
        repeat (first | apply Wp.seq | apply Wp.blk | apply Wp.ret | apply Wp.skip | apply Wp.exit | apply Wp.cT rfl | apply Wp.cF rfl | ((apply Wp.reg; (repeat (apply Ex.cons; (simp (disch := omega) [-getElem?_pos, hv, hrow1', hcell1, hB1, hrow, g8, hc]; rfl))); exact Ex.nil; rfl; (simp; rfl))))
        exact ⟨(j + 1, H3, es3, tvs3), rfl, ⟨by show j + 1 ≤ _; omega, hb3, hn3, hf3, hN3⟩, by show _ - (j + 1) < _ - j; omega, by simp [-getElem?_pos, hv]⟩
    · intro hjl
      apply Wp.exit
      have : (liveIdx b).take j = liveIdx b := List.take_of_length_le (by omega)
      rw [this] at hbk
      simp [-getElem?_pos, a67]
      exact ⟨⟨_, _, _, _, _, _, hbk⟩, fun A hA => by rw [hNk A hA, hg2.get A (by simp [-getElem?_pos]; omega), AHeap.get_push_ne _ _ (by omega)], by omega⟩)
  exact ⟨H', h1, h2⟩
def scanTo (p : Int) (b : List TxD) (j : Nat) : List TxD := (b.take j).map (scanX p) ++ b.drop j
theorem scanTo_len (p : Int) (b : List TxD) (j : Nat) : (scanTo p b j).length = b.length := by simp [-getElem?_pos, scanTo]; omega
theorem scanTo_at {p : Int} {b : List TxD} {j : Nat} (hx : b[j]? = some x) : (scanTo p b j)[j]? = some x := by
  have hj := (List.getElem?_eq_some_iff.1 hx).1
  unfold scanTo
  rw [List.getElem?_append_right (by simp [-getElem?_pos]; omega)]
  simp [-getElem?_pos, Nat.min_eq_left (Nat.le_of_lt hj), hx]
theorem scanTo_step {p : Int} {b : List TxD} {j : Nat} (hx : b[j]? = some x) : scanTo p b (j + 1) = (scanTo p b j).set j (scanX p x) := by
  have hj := (List.getElem?_eq_some_iff.1 hx).1
  have hd : b.drop j = x :: b.drop (j + 1) := by rw [← (List.getElem?_eq_some_iff.1 hx).2]; exact (List.drop_eq_getElem_cons hj)
  unfold scanTo
  rw [List.set_append_right _ _ (by simp [-getElem?_pos]; omega), List.take_add_one, hx, hd]
  simp [-getElem?_pos, Nat.min_eq_left (Nat.le_of_lt hj)]
theorem scanTo_end (p : Int) (b : List TxD) : scanTo p b b.length = b.map (scanX p) := by simp [-getElem?_pos, scanTo]
theorem set_same {α : Type} {l : List α} {j : Nat} {x : α} (h : l[j]? = some x) : l.set j x = l := by
  obtain ⟨h1, rfl⟩ := List.getElem?_eq_some_iff.1 h
  exact List.set_getElem_self h1
theorem c67s (E : RowE kn env) (n : Nat) (hb : Bk H N B b tv M es clock tvs o) (hr : RowC rc r) {m : Nat} (hsm : b.length ≤ m) (hm : m < 400000000000) (hn : m + 10 < n) (hk : r.kind = 19) :
    ∃ H', callM kn env (n + 5) (.func (.func 67) []) [vp B, vi i, .agg rc] H = some (.tuple [], H') ∧ Out H N B (stepD b i r) H' := by
  have hg1 := Grow.push H (.row [some (0, rc)])
  have hb1 := hb.grow hg1
  have hB := hb.hB
  have r0 := hr.a0
  have r5 := hr.len
  have r37 := hr.a37
  have hst : stepD b i r = some (b.map (scanX r.pos)) := by
    unfold stepD
    rw [if_neg (by omega), if_neg (by omega), if_neg (by omega), if_neg (by omega), if_pos hk]; rfl
  rw [hst]
  have hltv : aLenS tv = some (vi b.length) := by have := hb.txs.rd.lenS; rw [hb.each.1] at this; exact this
  have hB1 := hb.cells.at
  obtain ⟨_, H', h1, rfl, h2⟩ := Wp.call (R := fun v H' => v = .tuple [] ∧ Out H N B (some (b.map (scanX r.pos))) H') 130 C67 E.f67.e (E.f67.no [vp B, vi i, .agg rc] H) (n := n + 4) rfl (by simp [-getElem?_pos]) (by
    repeat (first | apply Wp.seq | apply Wp.blk | apply Wp.ret | apply Wp.skip | apply Wp.exit | apply Wp.cT rfl | apply Wp.cF rfl | ((apply Wp.reg; (repeat (apply Ex.cons; (simp (disch := omega) [-getElem?_pos, r0, r5, hB1, hltv]; rfl))); exact Ex.nil; rfl; (simp; rfl))))
    apply Wp.loop (α := Nat × AHeap × List (List AVal)) (fun x => [(0, vp B), (5, vp H.next), (101, vi b.length), (102, vi x.1)]) (·.2.1)
      (fun x => x.1 ≤ b.length ∧ Bk x.2.1 N B (scanTo r.pos b x.1) tv M es clock x.2.2 o ∧ x.2.1.next = H.next + 1 ∧ x.2.1.rowAt H.next 0 = some rc ∧ ∀ A, A < N → x.2.1.get A = H.get A) (fun x => b.length - x.1) (0, H.push (.row [some (0, rc)]), tvs) rfl ⟨by omega, by simpa [-getElem?_pos, scanTo] using hb1, rfl, by simp [-getElem?_pos], fun A hA => AHeap.get_push_ne _ _ (by omega)⟩ (by simp [-getElem?_pos]; omega) (by simp [-getElem?_pos])
    rintro ⟨j, H2, tvs2⟩ ⟨hj, hbk, hnx, hX, hNk⟩
    dsimp only at hj hbk hnx hX hNk ⊢
    (repeat (first | apply Wp.seq | apply Wp.blk)); (apply Wp.reg; (repeat (apply Ex.cons; (simp (disch := omega) [-getElem?_pos]; rfl))); exact Ex.nil; rfl; (simp; rfl))
    (repeat (first | apply Wp.seq | apply Wp.blk)); apply Wp.ite rfl
    · intro hjl
      obtain ⟨x, hx⟩ : ∃ x, b[j]? = some x := ⟨_, List.getElem?_eq_getElem (by omega)⟩
      have hx2 := scanTo_at (p := r.pos) hx
      obtain ⟨R, ver, cells, sv, rv, wv, htv, hR1', hR2, hR3, hrow, hlen2, hcell, _, _⟩ := hbk.tx hx2
      have hbl := scanTo_len r.pos b j
      rw [hbl] at htv
      have hRH : R < H.next := by
        obtain ⟨R', ver', _, _, _, _, e, _, h, _⟩ := hb.tx hx
        rw [htv] at e; cases e; exact h
      have g9 := hcell 9 (by omega)
      have g11 := hcell 11 (by omega)
      simp only [txc, List.getElem?_cons_succ, List.getElem?_cons_zero] at g9 g11
      have hB2 := hbk.cells.at
      rw [htv] at hB2
      apply Wp.skip
      by_cases hf : x.fate = 4
      · obtain ⟨R', ver', H3, htv', hw, hn3, ⟨tvs3, hb3⟩, hN3, hR3⟩ := hbk.num (f := 11) (y := vi 7) (x' := { x with fate := 7 }) hx2 (by omega) rfl (fun _ _ _ => by simp [-getElem?_pos, txc]) ⟨rfl, rfl, rfl⟩ rfl rfl
        rw [hbl, htv] at htv'; cases htv'
        have hx3 : ((scanTo r.pos b j).set j { x with fate := 7 })[j]? = some { x with fate := 7 } := List.getElem?_set_self (by rw [hbl]; omega)
        obtain ⟨R', ver', cells3, sv3, rv3, wv3, htv', _, _, _, hrow3, hlen3, hcell3, _, _⟩ := hb3.tx hx3
        rw [List.length_set, hbl, htv] at htv'; cases htv'
        have g93 := hcell3 9 (by omega)
        simp only [txc, List.getElem?_cons_succ, List.getElem?_cons_zero] at g93
        have hX3 : H3.rowAt H.next 0 = some rc := by rw [rowAt_eq, hR3 _ (by omega), ← rowAt_eq]; exact hX
        by_cases hp : x.pos < r.pos
        · obtain ⟨R', ver', H4, htv', hw4, hn4, ⟨tvs4, hb4⟩, hN4, hR4⟩ := hb3.num (f := 11) (y := vi 6) (x' := { x with fate := 6 }) hx3 (by omega) rfl (fun _ _ _ => by simp [-getElem?_pos, txc]) ⟨rfl, rfl, rfl⟩ rfl rfl
          rw [List.length_set, hbl, htv] at htv'; cases htv'
          have hX4 : H4.rowAt H.next 0 = some rc := by rw [rowAt_eq, hR4 _ (by omega), ← rowAt_eq]; exact hX3
          rw [List.set_set] at hb4
          have hsx : scanX r.pos x = { x with fate := 6 } := by unfold scanX; rw [if_pos hf, if_pos hp]
          repeat (first | apply Wp.seq | apply Wp.blk | apply Wp.ret | apply Wp.skip | apply Wp.exit | apply Wp.cT rfl | apply Wp.cF rfl | ((apply Wp.reg; (repeat (apply Ex.cons; (simp (disch := omega) [-getElem?_pos, hB2, hrow, g11, hf, hw, hX3, r37, r5, hrow3, g93, hw4]; rfl))); exact Ex.nil; rfl; (simp; rfl))) | ((apply Wp.draw; (repeat (first | ((first | apply Dr.q rfl rfl | apply Dr.r rfl rfl); (simp (disch := omega) [-getElem?_pos, hB2, hrow, g11, hf, hw, hX3, r37, r5, hrow3, g93, hw4]; rfl); (simp; rfl)) | (apply Dr.imm rfl; (simp (disch := omega) [-getElem?_pos, hB2, hrow, g11, hf, hw, hX3, r37, r5, hrow3, g93, hw4]; rfl); (focus first | (simp [-getElem?_pos]; done) | (simp [-getElem?_pos]; omega))))); exact Dr.nil; rfl; (simp (disch := omega) [-getElem?_pos, hB2, hrow, g11, hf, hw, hX3, r37, r5, hrow3, g93, hw4]); (simp; rfl))))
          exact ⟨(j + 1, H4, tvs4), rfl, ⟨by show j + 1 ≤ _; omega, by show Bk H4 N B (scanTo r.pos b (j + 1)) _ _ _ _ _ _; rw [scanTo_step hx, hsx]; exact hb4, by show H4.next = _; omega, hX4, fun A hA => by show H4.get A = _; rw [hN4 A hA, hN3 A hA, hNk A hA]⟩, by show _ - (j + 1) < _ - j; omega, by simp [-getElem?_pos]⟩
        · have hsx : scanX r.pos x = { x with fate := 7 } := by unfold scanX; rw [if_pos hf, if_neg hp]
          repeat (first | apply Wp.seq | apply Wp.blk | apply Wp.ret | apply Wp.skip | apply Wp.exit | apply Wp.cT rfl | apply Wp.cF rfl | ((apply Wp.reg; (repeat (apply Ex.cons; (simp (disch := omega) [-getElem?_pos, hB2, hrow, g11, hf, hw, hX3, r37, r5, hrow3, g93]; rfl))); exact Ex.nil; rfl; (simp; rfl))) | ((apply Wp.draw; (repeat (first | ((first | apply Dr.q rfl rfl | apply Dr.r rfl rfl); (simp (disch := omega) [-getElem?_pos, hB2, hrow, g11, hf, hw, hX3, r37, r5, hrow3, g93]; rfl); (simp; rfl)) | (apply Dr.imm rfl; (simp (disch := omega) [-getElem?_pos, hB2, hrow, g11, hf, hw, hX3, r37, r5, hrow3, g93]; rfl); (focus first | (simp [-getElem?_pos]; done) | (simp [-getElem?_pos]; omega))))); exact Dr.nil; rfl; (simp (disch := omega) [-getElem?_pos, hB2, hrow, g11, hf, hw, hX3, r37, r5, hrow3, g93]); (simp; rfl))))
          exact ⟨(j + 1, H3, tvs3), rfl, ⟨by show j + 1 ≤ _; omega, by show Bk H3 N B (scanTo r.pos b (j + 1)) _ _ _ _ _ _; rw [scanTo_step hx, hsx]; exact hb3, by show H3.next = _; omega, hX3, fun A hA => by show H3.get A = _; rw [hN3 A hA, hNk A hA]⟩, by show _ - (j + 1) < _ - j; omega, by simp [-getElem?_pos]⟩
      · have hsx : scanX r.pos x = x := by unfold scanX; rw [if_neg hf]
        repeat (first | apply Wp.seq | apply Wp.blk | apply Wp.ret | apply Wp.skip | apply Wp.exit | apply Wp.cT rfl | apply Wp.cF rfl | ((apply Wp.reg; (repeat (apply Ex.cons; (simp (disch := omega) [-getElem?_pos, hB2, hrow, g11]; rfl))); exact Ex.nil; rfl; (simp; rfl))) | ((apply Wp.draw; (repeat (first | ((first | apply Dr.q rfl rfl | apply Dr.r rfl rfl); (simp (disch := omega) [-getElem?_pos, hB2, hrow, g11]; rfl); (simp; rfl)) | (apply Dr.imm rfl; (simp (disch := omega) [-getElem?_pos, hB2, hrow, g11]; rfl); (focus first | (simp [-getElem?_pos]; done) | (simp [-getElem?_pos]; omega))))); exact Dr.nil; rfl; (simp (disch := omega) [-getElem?_pos, hB2, hrow, g11]); (simp; rfl))))
        exact ⟨(j + 1, H2, tvs2), rfl, ⟨by show j + 1 ≤ _; omega, by show Bk H2 N B (scanTo r.pos b (j + 1)) _ _ _ _ _ _; rw [scanTo_step hx, hsx, set_same hx2]; exact hbk, hnx, hX, hNk⟩, by show _ - (j + 1) < _ - j; omega, by simp [-getElem?_pos]⟩
    · intro hjl
      apply Wp.exit
      have : j = b.length := by omega
      subst this
      rw [scanTo_end] at hbk
      simp [-getElem?_pos, a67]
      exact ⟨⟨_, _, _, _, _, _, hbk⟩, hNk, by omega⟩)
  exact ⟨H', h1, h2⟩
theorem c67 (E : RowE kn env) (n : Nat) (hins : InsC (callM kn env (n + 2))) (hb : Bk H N B b tv M es clock tvs o) (hr : RowC rc r) (hs : SetOk H N rc r sv) {m : Nat} (hsm : Small b m) (hm : m < 400000000000) (hn : m + 20 < n) :
    ∃ H', callM kn env (n + 5) (.func (.func 67) []) [vp B, vi i, .agg rc] H = some (.tuple [], H') ∧ Out H N B (stepD b i r) H' := by
  by_cases h1 : 1 ≤ r.kind ∧ r.kind ≤ 9
  · exact c67c E n hins hb hr hs hsm hm (by omega) h1
  · by_cases h2 : r.kind = 11
    · exact c67a E n (by omega) hb hr h2
    · by_cases h3 : r.kind = 13
      · exact c67d E n (by omega) hb hr h3
      · by_cases h4 : r.kind = 18
        · exact c67k E n (by omega) hb hr h4
        · by_cases h5 : r.kind = 19
          · exact c67s E n hb hr hsm.1 hm (by omega) h5
          · exact c67n E n hb hr ⟨h1, h2, h3, h4, h5⟩
end Go.Proofs.Ythbjfkkjmecaaaa
