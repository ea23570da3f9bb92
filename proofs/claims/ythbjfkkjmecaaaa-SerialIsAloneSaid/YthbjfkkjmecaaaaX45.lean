/- Walks: the law SerialIsAlone, whole. -/
import Derived.Test.YthbjfkkjmecaaaaX44
namespace Go.Proofs.Ythbjfkkjmecaaaa
open Go Go.Vm
set_option linter.unusedVariables false
set_option linter.unusedSimpArgs false

variable {kn : Known} {env : Nat → Option AFunc}

variable {H H' H1 : AHeap} {N A B M F : Nat} {v v0 v1 ov tv : AVal} {rows l : List RowD} {rcs ocs tvs : List (List AVal)} {rc : List AVal} {r : RowD} {x : TxD} {sv rv wv : AVal} {m : Int} {txs : List TxD} {o : Nat → Nat} {order : List Int} {avs rvs : List AVal} {ls told : List (List (List AVal))} {f : FindD} {mmF mA : MapD}

structure IsE (kn : Known) (env : Nat → Option AFunc) : Prop extends ByE kn env where
  f9 : Fn kn env 9 a9
  f11 : Fn kn env 11 a11
  f22 : Fn kn env 22 a22
  f35 : Fn kn env 35 a35
  f39 : Fn kn env 39 a39

theorem ownB_mem (c : Int) : ∀ (l : List RowD) (r : RowD), r ∈ ownB c l → r ∈ l
  | [], r, h => by simp [-getElem?_pos, ownB] at h
  | y :: l, r, h => by
    unfold ownB at h
    split at h
    · exact List.mem_cons_of_mem _ (ownB_mem c l r h)
    · split at h
      · simp [-getElem?_pos] at h
      · split at h
        · rcases List.mem_cons.1 h with rfl | h
          · exact List.mem_cons_self ..
          · exact List.mem_cons_of_mem _ (ownB_mem c l r h)
        · exact List.mem_cons_of_mem _ (ownB_mem c l r h)

theorem ownAt_ok {p : Int} (hv : ∀ r ∈ rows, IsVal r.val) (hok : okP rows m txs p) : ∀ r ∈ ownAt rows txs p, OkOp m (toOp r) := fun r hr => by
  have hb := List.any_eq_false.1 hok.2.2 r hr
  have hb' : ¬ (r.blk < 0 ∨ m ≤ r.blk) := by simpa [-getElem?_pos, badB] using hb
  have hmem : r ∈ rows := by
    unfold ownAt at hr
    split at hr
    · exact List.mem_of_mem_drop (ownB_mem _ _ _ hr)
    · simp [-getElem?_pos] at hr
  refine ⟨?_, by show 0 ≤ r.blk; omega, by show r.blk < m; omega, hv r hmem⟩
  by_cases h : r.kind = 6
  · exact .inr (toOp_w h)
  · exact .inl (toOp_r h)

theorem stepsD_small : ∀ {l : List RowD} {b b' : List TxD} {i k : Nat}, Small b k → stepsD b i l = some b' → Small b' (k + l.length)
  | [], b, b', i, k, h, hs => by cases hs; exact h
  | r :: l, b, b', i, k, h, hs => by
    unfold stepsD at hs
    obtain ⟨b1, h1, h2⟩ := Option.bind_eq_some_iff.1 hs
    have := stepsD_small (stepD_small h h1) h2
    rw [List.length_cons, Nat.add_comm l.length 1, ← Nat.add_assoc]; exact this

theorem txsD_len (h : txsD rows = some txs) : txs.length ≤ rows.length := by
  unfold txsD at h
  obtain ⟨b, h1, rfl⟩ := Option.map_eq_some_iff.1 h
  have := (stepsD_small (k := 0) ⟨Nat.le_refl _, fun x hx => by simp [-getElem?_pos] at hx⟩ h1).1
  rw [List.length_map]; omega

theorem nodup_len : ∀ {n : Nat} {l : List Int}, l.Nodup → (∀ p ∈ l, 0 ≤ p ∧ p < n) → l.length ≤ n := fun {n l} h h2 => by
  have h3 : l ⊆ (List.range n).map fun k : Nat => (k : Int) := fun p hp => by
    obtain ⟨a, b⟩ := h2 p hp
    exact List.mem_map.2 ⟨p.toNat, by rw [List.mem_range]; omega, by omega⟩
  have := List.Nodup.length_le_of_subset h h3
  simpa [-getElem?_pos] using this

set_option maxHeartbeats 4000000 in
theorem c9 (E : IsE kn env) (n : Nat) (hins : ∀ n, InsC (callM kn env (n + 1))) (h12 : ∀ H, callM kn env (n + 7) (.func (.func 12) []) [] H = some (abool true, H)) (hrows : RowsAt H H.next v0 rows) (ho : RdE H 1 ov (ints order)) (hol : ov.lies (· < H.next)) (ho2 : order.length < 40000000000000) (hn : 2000 + order.length < n) :
    ∃ v H', callM kn env (n + 8) (.func (.func 9) []) [v0, vi m, ov] H = some (v, H') ∧ v = abool true := by
  obtain ⟨rcs, hrd, hlies, hrlen, hat⟩ := hrows
  obtain ⟨v1, h11, hrd1, hl1⟩ := c11 E.f11 (n + 6) hrd
  have hl1 := hl1 _ hlies
  have hlen : aLenS ov = some (vi order.length) := by have := ho.lenS; simpa [-getElem?_pos] using this
  obtain ⟨rws, hrws⟩ : ∃ rws, rws = rows.take 400 := ⟨_, rfl⟩
  have hrl : rws.length ≤ 400 := by rw [hrws, List.length_take]; omega
  have hrows1 : RowsAt H H.next v1 rws := ⟨rcs.take 400, hrd1, hl1, by rw [hrws, List.length_take, List.length_take, hrlen], fun k rc r a b => by
    have ha : rcs[k]? = some rc := by rw [List.getElem?_take] at a; split at a; exact a; cases a
    have hb : rows[k]? = some r := by rw [hrws, List.getElem?_take] at b; split at b; exact b; cases b
    exact hat k rc r ha hb⟩
  obtain ⟨t, H1, h30, hg1, hres⟩ := c30 E.toByE n (H := H) (m := m) (hins (n + 1)) hrows1 ho hol (by omega) ho2 (by omega)
  refine Wp.call (R := fun v H' => v = abool true) 231 C9 E.f9.e (E.f9.no [v0, vi m, ov] H) (n := n + 7) rfl (by simp [-getElem?_pos]) ?_
  cases hby : byD rws m order with
  | error c =>
    rw [hby] at hres
    have hres' : t = .tuple [.agg zeroF.cells, anil, vi c] := hres
    rw [hres'] at h30
    have hc : c = 2 ∨ c = 230 := by
      unfold byD at hby
      split at hby
      · cases hby; simp [-getElem?_pos]
      · split at hby
        · cases hby; simp [-getElem?_pos]
        · split at hby
          · cases hby
          · cases hby; simp [-getElem?_pos]
    obtain ⟨z1, z2⟩ := FindD.len35 (f := zeroF) zeroV_is
    obtain ⟨H2, hw2, hg2, hc2, hn2⟩ := newCells H1 (z := zfind) (e := zeroF.cells) (by rw [z1]; rfl) (by omega) z2
    have hg02 := hg1.trans hg2
    obtain ⟨t33, H3, h33, hg3, hres3⟩ := c33 E.toRowE E.f33 (n + 1) (H := H2) (hins (n + 2)) ((hrows1.grow (Nat.le_refl _) hg02).wide hg02.next) (by omega) (by omega)
    have hc3 : Cells H3 H1.next zeroF.cells := by unfold Cells; rw [hg3.get _ (by omega)]; exact hc2
    have hX := hc3.at
    have h12' := h12 H
    have hcne : c ≠ 0 := by omega
    have hF0 : zeroF.cells[0]? = some (abool false) := rfl
    cases hres3' : txsD rws with
    | none =>
      rw [hres3'] at hres3
      have hr3 : t33 = .tuple [anil, vi 230] := hres3
      rw [hr3] at h33
      repeat (first | apply Wp.seq | apply Wp.blk | apply Wp.ret | apply Wp.skip | apply Wp.exit | apply Wp.cT rfl | apply Wp.cF rfl | ((apply Wp.reg; (repeat (apply Ex.cons; (simp (disch := omega) [-getElem?_pos, h11, h12', h30, hw2, z1, h33, hcne, hX, hF0, aLenS]; rfl))); exact Ex.nil; rfl; (simp [-getElem?_pos]; rfl))))
      simp [-getElem?_pos, a9]
    | some txs =>
      rw [hres3'] at hres3
      obtain ⟨tv, _, _, hr3, _⟩ := hres3
      rw [hr3] at h33
      repeat (first | apply Wp.seq | apply Wp.blk | apply Wp.ret | apply Wp.skip | apply Wp.exit | apply Wp.cT rfl | apply Wp.cF rfl | ((apply Wp.reg; (repeat (apply Ex.cons; (simp (disch := omega) [-getElem?_pos, h11, h12', h30, hw2, z1, h33, hcne, hX, hF0, aLenS]; rfl))); exact Ex.nil; rfl; (simp [-getElem?_pos]; rfl))))
      simp [-getElem?_pos, a9]
  | ok fm =>
    obtain ⟨f, mm⟩ := fm
    rw [hby] at hres
    obtain ⟨mv, ht, hms, hfw, hmv⟩ := hres
    rw [ht] at h30
    obtain ⟨hmm, txs, htx, hok, hfold, hmt⟩ := byD_ok hby
    have hml : mm.length ≤ 64 := by rw [hmt, List.length_take]; omega
    obtain ⟨z1, z2⟩ := FindD.len35 hfw
    obtain ⟨H2, hw2, hg2, hc2, hn2'⟩ := newCells H1 (z := zfind) (e := f.cells) (by rw [z1]; rfl) (by omega) z2
    have hg02 := hg1.trans hg2
    obtain ⟨t33, H3, h33, hg3, hres3⟩ := c33 E.toRowE E.f33 (n + 1) (H := H2) (hins (n + 2)) ((hrows1.grow (Nat.le_refl _) hg02).wide hg02.next) (by omega) (by omega)
    have hc3 : Cells H3 H1.next f.cells := by unfold Cells; rw [hg3.get _ (by omega)]; exact hc2
    have hX := hc3.at
    have h12' := h12 H
    rw [htx] at hres3
    obtain ⟨tv, tvs, o, hr3, hts, htl, hta⟩ := hres3
    rw [hr3] at h33
    have hf0 : f.cells[0]? = some (abool f.good) := rfl
    have hg03 := hg02.trans hg3
    have hbeg := txsD_begun htx
    obtain ⟨rcs1, hrd1', hl1', hrl1', hat1'⟩ := id hrows1
    have hrc1 : RowsC rcs1 rws := ⟨hrl1', fun k c r u w => (hat1' k c r u w).1⟩
    have hvals : ∀ r ∈ rws, IsVal r.val := fun r hr => by
      obtain ⟨k, hk⟩ := List.mem_iff_getElem?.1 hr
      have hk2 := (List.getElem?_eq_some_iff.1 hk).1
      exact (hrc1.2 k _ r (List.getElem?_eq_getElem (by omega)) hk).isv
    have hlow : ∀ p ∈ order, (ownAt rws txs p).length ≤ 400 ∧ ∀ r ∈ ownAt rws txs p, OkOp m (toOp r) := fun p hp => ⟨by
      unfold ownAt
      split
      · rename_i x _; unfold ownD; have := ownB_le x.client (rws.drop (x.begun + 1).toNat); simp [-getElem?_pos] at this; omega
      · simp [-getElem?_pos], ownAt_ok hvals (hok.2 p hp)⟩
    have hol4 : order.length ≤ 400 := by
      have h1 := nodup_len hok.1 (fun p hp => ⟨(hok.2 p hp).1, (hok.2 p hp).2.1⟩)
      have h2 := txsD_len htx
      omega
    repeat (first | apply Wp.seq | apply Wp.ret | apply Wp.skip | apply Wp.exit | apply Wp.cT rfl | apply Wp.cF rfl | ((apply Wp.reg; (repeat (apply Ex.cons; (simp (disch := omega) [-getElem?_pos, h11, h12', h30, hw2, z1, h33]; rfl))); exact Ex.nil; rfl; (simp [-getElem?_pos]; rfl))))
    refine Wp.sub [(0, v1), (1, vi m), (2, ov), (7, .ptr H1.next 0 0), (8, mv), (10, tv), (12, ns), (13, vi 0)] ?_ (by simp [-getElem?_pos])
    refine isOps E.f35 (H0 := H3) (rows := rws) (txs := txs) (n := n) (ho.grow hg03 hol) (fun R ver off len kc ex esz e => by have := hol R ver off len kc ex esz e; have := hg03.next; omega) (hrd1'.grow hg03 hl1') (fun R ver off len kc ex esz e => by have := hl1' R ver off len kc ex esz e; have := hg03.next; omega) hrc1 hrl hts hta hbeg (fun p hp => ⟨(hok.2 p hp).1, (hok.2 p hp).2.1⟩) (by omega) (by omega) fun l' H4 v12 avs hsub hg4 hll => ?_
    refine Wp.sub [(0, v1), (1, vi m), (2, ov), (7, .ptr H1.next 0 0), (8, mv), (10, tv), (12, v12)] ?_ hsub
    have hlr := hll.lr
    obtain ⟨tv2, rvs, mv2, H5, h39, hg5, hll5, hs5⟩ := c39 ⟨E.f39, E.f61, E.f66⟩ (n + 5) (H := H4) (txs := order.map (opsOf rws txs)) hlr (fun t ht o ho => by
      obtain ⟨p, hp, rfl⟩ := List.mem_map.1 ht
      obtain ⟨r, hr, rfl⟩ := List.mem_map.1 ho
      exact (hlow p hp).2 r hr) hmm.1 hmm.2 (by rw [List.length_map]; omega) (fun t ht => by
      obtain ⟨p, hp, rfl⟩ := List.mem_map.1 ht
      have := (hlow p hp).1
      simp [-getElem?_pos, opsOf]; omega) (by rw [List.length_map]; omega) (fun t ht => by
      obtain ⟨p, hp, rfl⟩ := List.mem_map.1 ht
      have := (hlow p hp).1
      simp [-getElem?_pos, opsOf]; omega)
    obtain ⟨mA, told, hal⟩ : ∃ mA told, (order.map (opsOf rws txs)).foldl aloneD (zeroM, []) = (mA, told) := ⟨_, _, rfl⟩
    rw [hal] at hll5 hs5
    dsimp only at hll5 hs5
    have hmap := all_map (rows := rws) (txs := txs) order goodF zeroM []
    rw [hal] at hmap
    dsimp only at hmap
    have hmeq : mA.take m.toNat = mm := by rw [hmt, hmap]
    rw [hmeq] at hs5
    have hg45 := hg4.trans hg5
    have hg05 := hg03.trans hg45
    have hlt2 : aLenS tv2 = some (vi order.length) := by
      have h1 := hll5.rd.rd.lenS
      obtain ⟨_, _, h2⟩ := aloneD_ok (m := m) hmm.2 (txs := order.map (opsOf rws txs)) (fun t ht o ho => by
        obtain ⟨p, hp, rfl⟩ := List.mem_map.1 ht
        obtain ⟨r, hr, rfl⟩ := List.mem_map.1 ho
        exact (hlow p hp).2 r hr) (st := (zeroM, [])) zeroM_is (fun l hl => by simp [-getElem?_pos] at hl)
      rw [hal] at h2
      simp only [List.length_map, hll5.len] at h1
      simp only [List.length_nil, List.length_map, Nat.zero_add] at h2
      rw [h2] at h1
      exact h1
    have h22 := c22 E.f22 (n + 6) (H := H5) (v1 := mv2) (v2 := mv) (es1 := mm) (es2 := mm) hs5.rd (hms.rd.grow (((hg2.trans hg3).trans hg4).trans hg5) (fun R ver off len kc ex esz e => (hms.lies R ver off len kc ex esz e).2)) hmv hmv (by omega) (by omega)
    simp only [decide_true] at h22
    repeat (first | apply Wp.seq | apply Wp.ret | apply Wp.skip | apply Wp.exit | apply Wp.cT rfl | apply Wp.cF rfl | ((apply Wp.reg; (repeat (apply Ex.cons; (simp (disch := omega) [-getElem?_pos, hlen, h39, hlt2, h22]; rfl))); exact Ex.nil; rfl; (simp [-getElem?_pos]; rfl))))
    have hc5 : Cells H5 H1.next f.cells := by unfold Cells; rw [hg45.get _ (by have := hg3.next; omega)]; exact hc3
    refine Wp.sub [(2, ov), (7, .ptr H1.next 0 0), (12, v12), (18, tv2), (21, abool true), (22, vi 0)] ?_ (by simp [-getElem?_pos])
    have hlt5 : H1.next < H5.next := by have := hg3.next; have := hg45.next; omega
    have hol5 : ov.lies (· < H5.next) := fun R ver off len kc ex esz e => by have := hol R ver off len kc ex esz e; have := hg05.next; omega
    refine isCmp (m := m) (mmF := (order.foldl (doTx rws txs) (goodF, zeroM)).2) hc5 hlt5 hfw (ho.grow hg05 hol) hol5 ((hll.move (Nat.le_refl _) hg5.next fun A _ hA => hg5.get A hA).lr) hll5.lr hlow hmm.2 (by omega) ho2 hfold hal fun l'' H6 hsub2 hg6 => ?_
    refine Wp.sub [(7, .ptr H1.next 0 0), (21, abool f.good)] ?_ hsub2
    have hX6 : H6.rowAt H1.next 0 = some f.cells := by rw [hg6.rowAt hlt5]; exact hc5.at
    repeat (first | apply Wp.seq | apply Wp.blk | apply Wp.ret | apply Wp.skip | apply Wp.exit | apply Wp.cT rfl | apply Wp.cF rfl | ((apply Wp.reg; (repeat (apply Ex.cons; (simp (disch := omega) [-getElem?_pos, hX6, hf0, z1]; rfl))); exact Ex.nil; rfl; (simp [-getElem?_pos]; rfl))))
    simp [-getElem?_pos, a9]

end Go.Proofs.Ythbjfkkjmecaaaa
