/- Walks: the law SerialTells. -/
import Derived.Test.YthbjfkkjmecaaaaT42
import Derived.Test.YthbjfkkjmecaaaaT41
set_option linter.unusedVariables false
set_option linter.unusedSimpArgs false
namespace Go.Proofs.Ythbjfkkjmecaaaa
open Go Go.Vm
variable {kn : Known} {env : Nat → Option AFunc}
variable {H H' H0 H1 H2 : AHeap} {N A R ver nv L : Nat} {v v0 sv a b : AVal} {rows : List RowD} {l la lb : List Int} {rcs : List (List AVal)} {rc : List AVal} {r : RowD} {vs : Vers} {txs : List TxD} {o : List Int} {m : Int} {f : FindD}
theorem judgeD_err {c : Int} (h : judgeD rows m = .error c) : c ≠ 0 := by
  unfold judgeD at h
  split at h
  · cases h; decide
  · split at h
    · cases h; decide
    · split at h
      · cases h; decide
      · unfold byD at h
        split at h
        · cases h; decide
        · split at h
          · cases h; decide
          · split at h
            · cases h
            · cases h; decide
theorem judgeD_ok {p : FindD × MapD} (h : judgeD rows m = .ok p) : (1 ≤ m ∧ m ≤ 64) ∧ ∃ txs o, txsD rows = some txs ∧ orderD txs = some o ∧ byD rows m o = .ok p := by
  unfold judgeD at h
  split at h
  · cases h
  · rename_i hm
    refine ⟨Classical.byContradiction fun q => hm q, ?_⟩
    split at h
    · cases h
    · rename_i txs ht
      split at h
      · cases h
      · rename_i o ho
        exact ⟨txs, o, ht, ho, h⟩
theorem judgeD_is {p : Except Int (FindD × MapD)} (hm : 1 ≤ m ∧ m ≤ 64) (ht : txsD rows = some txs) (ho : orderD txs = some o) (h : byD rows m o = p) : judgeD rows m = p := by
  unfold judgeD
  rw [if_neg (fun q => q hm), ht]
  simp only [ho]
  exact h
theorem OrdRes.any {t : Option (List Int)} (h : OrdRes H N t v) : ∃ w c, v = .tuple [w, vi c] := by
  cases t with
  | none => exact ⟨_, _, h⟩
  | some o => obtain ⟨ov, h1, _⟩ := h; exact ⟨_, _, h1⟩
theorem TxsRes.any {t : Option (List TxD)} (h : TxsRes H N t v) : ∃ w c, v = .tuple [w, vi c] := by
  cases t with
  | none => exact ⟨_, _, h⟩
  | some o => obtain ⟨tv, _, _, h1, _⟩ := h; exact ⟨_, _, h1⟩
abbrev planF : EqPlan := .fld 0 false 1 .bool (.fld 1 false 1 .int (.fld 2 false 1 .int (.fld 3 true 32 (.arr 32 1 false .int) .fin)))
theorem fld_t {xs : List AVal} {off n : Nat} {agg : Bool} {p rest : EqPlan} {x : AVal} (hx : aPart agg xs off n = some x) (h : aEqP p x x = some true) (hr : aEqP rest (.agg xs) (.agg xs) = some true) : aEqP (.fld off agg n p rest) (.agg xs) (.agg xs) = some true := by
  rw [aEqP, hx]
  simp only [Option.bind_some, h, if_true, hr]
theorem eqFind (h : IsVal f.want) : aEqP planF (.agg f.cells) (.agg f.cells) = some true := by
  have h1 : (f.want.take 32) = f.want := List.take_of_length_le (by rw [h.len]; omega)
  have h2 : aPart true f.cells 3 32 = some (.agg f.want) := by
    show some (AVal.agg (f.want.take 32)) = _
    rw [h1]
  exact fld_t (x := abool f.good) rfl (by simp [-getElem?_pos, -List.reduceReplicate, aEqP]) (fld_t (x := vi f.tx) rfl (by simp [-getElem?_pos, -List.reduceReplicate, aEqP]) (fld_t (x := vi f.read) rfl (by simp [-getElem?_pos, -List.reduceReplicate, aEqP]) (fld_t h2 (eqVal_t h) rfl)))
theorem OwnIs.move (h : OwnIs H N v rows R ver vs rcs) (hg : Grow H H') : OwnIs H' N v rows R ver vs rcs where
  hN := h.hN
  hR := by have := h.hR; have := hg.next; omega
  val := h.val
  get := by rw [hg.get _ h.hR]; exact h.get
  at_ := h.at_
  len := h.len
  each := fun k rc r h1 h2 => by
    obtain ⟨q1, sv, q2, q3, q4, q5⟩ := h.each k rc r h1 h2
    exact ⟨q1, sv, q2, q3.move hg.next fun A _ hA => hg.get A hA, q4, q5⟩
theorem OwnIs.cells (h : OwnIs H N v rows R ver vs rcs) {p : Nat} (hr : rows[p]? = some r) (hrc : rcs[p]? = some rc) :
    p * 41 + 41 ≤ (rcs ++ [mrow]).flatten.length ∧ (((rcs ++ [mrow]).flatten.drop (p * 41 + 5)).take 32) = r.val ∧ (rcs ++ [mrow]).flatten[p * 41 + 36]? = r.val[31]? := by
  have hpl := (List.getElem?_eq_some_iff.1 hrc).1
  have hlm : ∀ e ∈ rcs ++ [mrow], e.length = 41 := fun e he => by
    rcases List.mem_append.1 he with he | he
    · exact h.lens e he
    · simp [-getElem?_pos, -List.reduceReplicate] at he; subst he; rfl
  have hfl := flatten_len hlm
  have hrc' : (rcs ++ [mrow])[p]? = some rc := by rw [List.getElem?_append_left hpl]; exact hrc
  have hm : (p + 1) * 41 ≤ (rcs ++ [mrow]).length * 41 := Nat.mul_le_mul_right _ (by simp [-getElem?_pos, -List.reduceReplicate]; omega)
  have hat := flatten_at p rc hlm hrc'
  obtain ⟨q1, _⟩ := h.each p rc r hrc hr
  have hv : ((rcs ++ [mrow]).flatten.drop (p * 41 + 5)).take 32 = r.val := by
    rw [← q1.av, ← hat]
    refine List.ext_getElem? fun k => ?_
    rw [List.getElem?_take, List.getElem?_take]
    split
    · rw [List.getElem?_drop, List.getElem?_drop, List.getElem?_take, if_pos (by omega), List.getElem?_drop, Nat.add_assoc]
    · rfl
  refine ⟨by omega, hv, ?_⟩
  rw [← hv, List.getElem?_take, if_pos (by omega), List.getElem?_drop]
theorem rdN_le (h : txsD rows = some txs) (z : Int) : rdN txs z ≤ rows.length := by
  unfold txsD at h
  obtain ⟨b, hb, rfl⟩ := Option.map_eq_some_iff.1 h
  have hs := Small.all (rows := rows) rows.length b (Nat.le_refl _) (by rw [List.take_length]; exact hb)
  unfold rdN
  split
  · rename_i x hx
    rw [List.getElem?_map] at hx
    obtain ⟨x', h1, rfl⟩ := Option.map_eq_some_iff.1 hx
    have := (hs.2 x' (List.mem_of_getElem? h1)).2.2
    unfold endD
    split <;> exact this
  · exact Nat.zero_le _
abbrev z32 : List AVal := [zb, zb, zb, zb, zb, zb, zb, zb, zb, zb, zb, zb, zb, zb, zb, zb, zb, zb, zb, zb, zb, zb, zb, zb, zb, zb, zb, zb, zb, zb, zb, zb]
structure TelE (kn : Known) (env : Nat → Option AFunc) : Prop where
  jud : JudE kn env
  by_ : ByE kn env
  own : OwnE kn env
  f6 : Fn kn env 6 a6
  f11 : Fn kn env 11 a11
abbrev C6 : List Nat := [0, 1, 2, 3, 8, 9, 10, 11, 12, 13, 14, 15, 16, 17, 18, 19, 20, 21, 22, 23, 24, 32, 64, 68, 84, 95, 111, 144]
set_option maxHeartbeats 8000000 in
theorem c6 (E : TelE kn env) (n : Nat) (hins : ∀ n, InsC (callM kn env (n + 1))) (h12 : ∀ H, callM kn env (n + 9) (.func (.func 12) []) [] H = some (abool true, H)) (hrows : RowsAt H H.next v0 rows) (hset : ∀ r ∈ rows, (r.set.length + 2) * 8 ≤ 140737488355328) {at_ y : Int} (hy : 0 ≤ y ∧ y < 256) (hn : 200000 < n) :
    ∃ v H', callM kn env (n + 10) (.func (.func 6) []) [v0, vi m, vi at_, v8 y] H = some (v, H') ∧ v = abool true := by
  obtain ⟨rcs, hrd, hlies, hrlen, hat⟩ := hrows
  obtain ⟨v1, h11, hrd1, hl1⟩ := c11 E.f11 (n + 8) hrd
  have hl1 := hl1 _ hlies
  obtain ⟨rws, hrws⟩ : ∃ rws, rws = rows.take 400 := ⟨_, rfl⟩
  have hrl : rws.length ≤ 400 := by rw [hrws, List.length_take]; omega
  have hsetw : ∀ r ∈ rws, (r.set.length + 2) * 8 ≤ 140737488355328 := fun r hr => by rw [hrws] at hr; exact hset r (List.mem_of_mem_take hr)
  have hrows1 : RowsAt H H.next v1 rws := ⟨rcs.take 400, hrd1, hl1, by rw [hrws, List.length_take, List.length_take, hrlen], fun k rc r a b => by
    have ha : rcs[k]? = some rc := by rw [List.getElem?_take] at a; split at a; exact a; cases a
    have hb : rows[k]? = some r := by rw [hrws, List.getElem?_take] at b; split at b; exact b; cases b
    exact hat k rc r ha hb⟩
  clear hrd hlies hat hrlen hrd1 hl1 hset hrws
  have h12a := h12 H
  refine Wp.call (R := fun v H' => v = abool true) 187 C6 E.f6.e (E.f6.no _ H) (n := n + 9) rfl (by simp [-getElem?_pos, -List.reduceReplicate]) ?_
  by_cases hy0 : y = 0
  · repeat (first | apply Wp.seq | apply Wp.blk | apply Wp.ret | apply Wp.skip | apply Wp.exit | apply Wp.cT rfl | apply Wp.cF rfl | ((apply Wp.reg; (repeat (apply Ex.cons; (simp (disch := omega) [-getElem?_pos, -List.reduceReplicate, h11, h12a, hy0]; rfl))); exact Ex.nil; rfl; (simp; rfl))))
    simp [-getElem?_pos, -List.reduceReplicate, a6]
  obtain ⟨t18, H1, h18, hg1, ht18, hfw⟩ := c18 E.jud E.by_ n (H := H) (m := m) (hins (n + 1)) hrows1 (by omega) (by omega)
  obtain ⟨f35, f1⟩ := FindD.full hfw
  obtain ⟨H2, hw2, hg2, hc2, hn2⟩ := newCells H1 (z := zfind) (e := (jF (judgeD rws m)).cells) (by rw [f35]; rfl) (by omega) f1
  have hX2 := hc2.at
  have hg02 := hg1.trans hg2
  obtain ⟨t17, H3, h17, hg3, hr17⟩ := c17 E.jud.toOrdE E.by_.toRowE E.by_.f33 (n + 2) (H := H2) (hins (n + 3)) (hrows1.up hg02) (by omega) (by omega)
  have hg03 := hg02.trans hg3
  obtain ⟨t33, H4, h33, hg4, hr33⟩ := c33 E.by_.toRowE E.by_.f33 (n + 3) (H := H3) (hins (n + 4)) (hrows1.up hg03) (by omega) (by omega)
  have hg04 := hg03.trans hg4
  have hX4 : H4.rowAt H1.next 0 = some (jF (judgeD rws m)).cells := by rw [(hg3.trans hg4).rowAt (by omega)]; exact hX2
  rw [ht18] at h18
  have hgd : (jF (judgeD rws m)).cells[0]? = some (abool (jF (judgeD rws m)).good) := rfl
  cases hj : judgeD rws m with
  | error c =>
    have hc := judgeD_err hj
    obtain ⟨w1, c1, e1⟩ := hr17.any
    obtain ⟨w2, c2, e2⟩ := hr33.any
    rw [e1] at h17
    rw [e2] at h33
    rw [hj] at h18 hw2 f35
    have hjc : jC (.error c : Except Int (FindD × MapD)) = c := rfl
    rw [hjc] at h18
    repeat (first | apply Wp.seq | apply Wp.blk | apply Wp.ret | apply Wp.skip | apply Wp.exit | apply Wp.cT rfl | apply Wp.cF rfl | ((apply Wp.reg; (repeat (apply Ex.cons; (simp (disch := omega) [-getElem?_pos, -List.reduceReplicate, h11, h12a, hy0, h18, f35, hw2, h17, h33, hc]; rfl))); exact Ex.nil; rfl; (simp; rfl))))
    simp [-getElem?_pos, -List.reduceReplicate, a6]
  | ok p =>
    obtain ⟨f, mm⟩ := p
    obtain ⟨hm, txs, o, htx, hot, hby⟩ := judgeD_ok hj
    rw [hj] at h18 hw2 f35 hX4 hgd hfw
    have hjc : jC (.ok (f, mm) : Except Int (FindD × MapD)) = 0 := rfl
    have hjf : jF (.ok (f, mm) : Except Int (FindD × MapD)) = f := rfl
    rw [hjc, hjf] at h18
    rw [hjf] at hw2 f35 hX4 hgd hfw
    rw [htx] at hr17 hr33
    simp only [Option.bind_some, hot] at hr17
    obtain ⟨ov, e1, hos⟩ := hr17
    obtain ⟨tv, tvs, lb, e2, hts, htl, hta⟩ := hr33
    rw [e1] at h17
    rw [e2] at h33
    cases hgood : f.good with
    | false =>
      rw [hgood] at hgd
      repeat (first | apply Wp.seq | apply Wp.blk | apply Wp.ret | apply Wp.skip | apply Wp.exit | apply Wp.cT rfl | apply Wp.cF rfl | ((apply Wp.reg; (repeat (apply Ex.cons; (simp (disch := omega) [-getElem?_pos, -List.reduceReplicate, h11, h12a, hy0, h18, f35, hw2, h17, h33, hX4, hgd]; rfl))); exact Ex.nil; rfl; (simp; rfl))))
      simp [-getElem?_pos, -List.reduceReplicate, a6]
    | true =>
      rw [hgood] at hgd
      repeat (first | apply Wp.seq | apply Wp.blk | apply Wp.ret | apply Wp.skip | apply Wp.exit | apply Wp.cT rfl | apply Wp.cF rfl | ((apply Wp.reg; (repeat (apply Ex.cons; (simp (disch := omega) [-getElem?_pos, -List.reduceReplicate, h11, h12a, hy0, h18, f35, hw2, h17, h33, hX4, hgd]; rfl))); exact Ex.nil; rfl; (simp; rfl))))
      have hrg : ∀ z ∈ o, ∃ t : Nat, z = t ∧ t < txs.length := fun z hz => by obtain ⟨k, h1, h2, _⟩ := (orderD_some hot).mem hz; exact ⟨k, h1, h2⟩
      have hol : o.length ≤ 400 := by
        have h1 := (orderD_some hot).1.length_eq
        have h2 := cntL_le txs txs.length
        have h3 := txs_len htx
        omega
      have hrdn : ∀ z ∈ o, rdN txs z ≤ 400 := fun z hz => Nat.le_trans (rdN_le htx z) hrl
      have hpl := prs_len o hrdn
      have hpl2 : (prs txs o).length ≤ 160000 := Nat.le_trans hpl (by have := Nat.mul_le_mul_right 400 hol; omega)
      have hlov : aLenS ov = some (vi o.length) := by have := hos.rd.lenS; rwa [List.length_map] at this
      have hltv : aLenS tv = some (vi txs.length) := by rw [hts.rd.lenS, hta.1]
      have hovl := hos.lies
      have htvl := hts.lies
      apply Wp.loop (α := (Nat × AVal × AVal) × AHeap) (fun z => [(0, v1), (1, vi m), (2, vi at_), (3, v8 y), (11, ov), (13, tv), (15, z.1.2.1), (16, z.1.2.2), (17, vi z.1.1)]) (·.2)
        (fun z => z.1.1 ≤ o.length ∧ Grow H4 z.2 ∧ Two z.2 H4.next z.1.2.1 z.1.2.2 ((prs txs (o.take z.1.1)).map (·.1)) ((prs txs (o.take z.1.1)).map (·.2))) (fun z => o.length - z.1.1) ((0, anil, anil), H4) rfl ⟨Nat.zero_le _, Grow.refl _, Two.nil⟩ (by dsimp only; omega) (by simp [-getElem?_pos, -List.reduceReplicate])
      rintro ⟨⟨i, a, b⟩, H5⟩ ⟨hi, hg5, htw⟩
      dsimp only at hi hg5 htw ⊢
      (repeat (first | apply Wp.seq | apply Wp.blk)); (apply Wp.reg; (repeat (apply Ex.cons; (simp (disch := omega) [-getElem?_pos, -List.reduceReplicate, hlov]; rfl))); exact Ex.nil; rfl; (simp; rfl))
      (repeat (first | apply Wp.seq | apply Wp.blk)); apply Wp.ite rfl
      · intro hil
        apply Wp.skip
        obtain ⟨z, hz⟩ : ∃ z, o[i]? = some z := ⟨_, List.getElem?_eq_getElem (by omega)⟩
        obtain ⟨t, rfl, htl2⟩ := hrg z (List.mem_of_getElem? hz)
        obtain ⟨x, hx⟩ : ∃ x, txs[t]? = some x := ⟨_, List.getElem?_eq_getElem htl2⟩
        obtain ⟨e, he⟩ : ∃ e, tvs[t]? = some e := ⟨_, List.getElem?_eq_getElem (by have := hta.1; omega)⟩
        obtain ⟨sv, rv, wv, hT⟩ := hta.2 t e x he hx
        obtain ⟨Ro, vero, co, ho1, _, ho3, ho4, ho5, ho6, _⟩ := hos.load (i := i) (e := [vi t]) (by rw [List.getElem?_map, hz]; rfl)
        have ho6 := ho6 0 (by omega)
        rw [List.length_map] at ho1
        rw [Nat.mul_one, Nat.add_zero] at ho6
        rw [Nat.mul_one] at ho5
        obtain ⟨Rt, vert, ct, ht1, _, ht3, ht4, ht5, ht6, _⟩ := hts.load he
        have ht6 := ht6 4 (by omega)
        rw [hT.eq] at ht6
        simp only [txc, List.getElem?_cons_succ, List.getElem?_cons_zero] at ho6 ht6
        rw [hta.1] at ht1
        have hn34 := hg4.next
        have hro : ∀ {H6}, Grow H4 H6 → H6.rowAt Ro vero = some co := fun hg => by rw [hg.rowAt (by omega), hg4.rowAt ho3]; exact ho4
        have hrt : ∀ {H6}, Grow H4 H6 → H6.rowAt Rt vert = some ct := fun hg => by rw [hg.rowAt ht3]; exact ht4
        have hlr : aLenS rv = some (vi x.reads.length) := by have := hT.reads.rd.lenS; rwa [List.length_map] at this
        have hrn : rdN txs (t : Int) = x.reads.length := by unfold rdN; rw [show ((t : Int)).toNat = t from rfl, hx]
        have hr5 := hro hg5
        have hxl : x.reads.length ≤ 400 := by rw [← hrn]; exact hrdn _ (List.mem_of_getElem? hz)
        repeat (first | apply Wp.seq | apply Wp.blk | apply Wp.ret | apply Wp.skip | apply Wp.exit | apply Wp.cT rfl | apply Wp.cF rfl | ((apply Wp.reg; (repeat (apply Ex.cons; (simp (disch := omega) [-getElem?_pos, -List.reduceReplicate, ho1, hr5, ho6, hltv]; rfl))); exact Ex.nil; rfl; (simp; rfl))))
        apply Wp.loop (α := (Nat × AVal × AVal) × AHeap) (fun z => [(0, v1), (1, vi m), (2, vi at_), (3, v8 y), (11, ov), (13, tv), (15, z.1.2.1), (16, z.1.2.2), (17, vi i), (18, vi z.1.1)]) (·.2)
          (fun z => z.1.1 ≤ x.reads.length ∧ Grow H4 z.2 ∧ Two z.2 H4.next z.1.2.1 z.1.2.2 ((prs txs (o.take i) ++ (List.range z.1.1).map fun k : Nat => ((t : Int), (k : Int))).map (·.1)) ((prs txs (o.take i) ++ (List.range z.1.1).map fun k : Nat => ((t : Int), (k : Int))).map (·.2))) (fun z => x.reads.length - z.1.1) ((0, a, b), H5) rfl ⟨Nat.zero_le _, hg5, by simpa [-getElem?_pos, -List.reduceReplicate] using htw⟩ (by dsimp only; omega) (by simp [-getElem?_pos, -List.reduceReplicate, ho1])
        rintro ⟨⟨k, a, b⟩, H6⟩ ⟨hk, hg6, htw6⟩
        dsimp only at hk hg6 htw6 ⊢
        have hr6 := hro hg6
        have hr6' := hrt hg6
        (repeat (first | apply Wp.seq | apply Wp.blk)); (apply Wp.reg; (repeat (apply Ex.cons; (simp (disch := omega) [-getElem?_pos, -List.reduceReplicate, ho1, hr6, ho6, ht1, hr6', ht6, hlr]; rfl))); exact Ex.nil; rfl; (simp; rfl))
        (repeat (first | apply Wp.seq | apply Wp.blk)); apply Wp.ite rfl
        · intro hkl
          apply Wp.skip
          have hpi : (prs txs (o.take i)).length ≤ 160000 := Nat.le_trans (prs_len _ fun z hz => hrdn z (List.mem_of_mem_take hz)) (by have := Nat.mul_le_mul_right 400 (show (o.take i).length ≤ 400 by rw [List.length_take]; omega); omega)
          obtain ⟨a', b', Ha, Hb, q1, q2, q3, q4, q5⟩ := htw6.push hg6.next (by simp [-getElem?_pos, -List.reduceReplicate]; omega) (by simp [-getElem?_pos, -List.reduceReplicate]; omega) (t : Int) (k : Int)
          have hr6a : (H6.push (.row [some (0, [vi t])])).rowAt Ro vero = some co := by rw [(Grow.push _ _).rowAt (by have := hg6.next; omega)]; exact hr6
          (repeat (first | apply Wp.seq | apply Wp.blk)); (apply Wp.reg; (repeat (apply Ex.cons; (simp (disch := omega) [-getElem?_pos, -List.reduceReplicate, ho1, hr6, ho6, q1, q2, aFill, repl]; rfl))); exact Ex.nil; rfl; (simp; rfl))
          (repeat (first | apply Wp.seq | apply Wp.blk)); (apply Wp.reg; (repeat (apply Ex.cons; (simp (disch := omega) [-getElem?_pos, -List.reduceReplicate]; rfl))); exact Ex.nil; rfl; (simp; rfl))
          refine ⟨((k + 1, a', b'), Hb), rfl, ⟨by dsimp only; omega, ⟨by have := hg6.next; dsimp only; omega, fun A hA => by dsimp only; rw [q5 A hA, hg6.get A hA]⟩, ?_⟩, by dsimp only; omega, by simp [-getElem?_pos, -List.reduceReplicate, ho1, ht1]⟩
          dsimp only
          have he : prs txs (o.take i) ++ (List.range (k + 1)).map (fun k : Nat => ((t : Int), (k : Int))) = (prs txs (o.take i) ++ (List.range k).map fun k : Nat => ((t : Int), (k : Int))) ++ [((t : Int), (k : Int))] := by rw [List.range_succ, List.map_append, ← List.append_assoc]; rfl
          rw [he, List.map_append, List.map_append (f := fun p : Int × Int => p.2)]
          exact q3
        · intro hkl
          have : k = x.reads.length := by omega
          subst this
          apply Wp.exit
          (repeat (first | apply Wp.seq | apply Wp.blk)); (apply Wp.reg; (repeat (apply Ex.cons; (simp (disch := omega) [-getElem?_pos, -List.reduceReplicate]; rfl))); exact Ex.nil; rfl; (simp; rfl))
          refine ⟨((i + 1, a, b), H6), rfl, ⟨by dsimp only; omega, hg6, ?_⟩, by dsimp only; omega, by simp [-getElem?_pos, -List.reduceReplicate, ho1, ht1]⟩
          dsimp only
          rw [prs_take hz, hrn]
          exact htw6
      · intro hil
        have : i = o.length := by omega
        subst this
        apply Wp.exit
        rw [List.take_length] at htw
        obtain ⟨P, hP⟩ : ∃ P, P = prs txs o := ⟨_, rfl⟩
        rw [← hP] at htw hpl2
        have hla : aLenS a = some (vi P.length) := by have := htw.fst.rd.lenS; rwa [List.length_map, List.length_map] at this
        by_cases hP0 : P.length = 0
        · repeat (first | apply Wp.seq | apply Wp.blk | apply Wp.ret | apply Wp.skip | apply Wp.exit | apply Wp.cT rfl | apply Wp.cF rfl | ((apply Wp.reg; (repeat (apply Ex.cons; (simp (disch := omega) [-getElem?_pos, -List.reduceReplicate, hla, hP0]; rfl))); exact Ex.nil; rfl; (simp; rfl))))
          simp [-getElem?_pos, -List.reduceReplicate, a6]
        · have hP0' : ¬ (P.length : Int) = 0 := by omega
          obtain ⟨q, hq1, hq2, hq3, hq4⟩ := rem_in at_ (L := P.length) (by omega)
          obtain ⟨pr, hpr⟩ : ∃ pr, P[q]? = some pr := ⟨_, List.getElem?_eq_getElem hq1⟩
          obtain ⟨hpm, k, hk1, hk2⟩ := prs_mem (by rw [← hP]; exact List.mem_of_getElem? hpr)
          obtain ⟨z, kk⟩ := pr
          dsimp only at hpm hk1 hk2
          subst hk1
          obtain ⟨t, rfl, htl2⟩ := hrg z hpm
          obtain ⟨x, hx⟩ : ∃ x, txs[t]? = some x := ⟨_, List.getElem?_eq_getElem htl2⟩
          have hrn : rdN txs (t : Int) = x.reads.length := by unfold rdN; rw [show ((t : Int)).toNat = t from rfl, hx]
          rw [hrn] at hk2
          obtain ⟨yr, hyr⟩ : ∃ yr, x.reads[k]? = some yr := ⟨_, List.getElem?_eq_getElem hk2⟩
          obtain ⟨pre, post, hpp⟩ := List.append_of_mem hpm
          rw [hpp] at hby
          obtain ⟨p, r, hp1, hp2, hp3, htell⟩ := tells hby hgood htx hx hyr
          have hpl3 := (List.getElem?_eq_some_iff.1 hp2).1
          -- what lies where
          obtain ⟨e, he⟩ : ∃ e, tvs[t]? = some e := ⟨_, List.getElem?_eq_getElem (by have := hta.1; omega)⟩
          obtain ⟨sv, rv, wv, hT⟩ := hta.2 t e x he hx
          obtain ⟨Rt, vert, ct, ht1, _, ht3, ht4, ht5, ht6, _⟩ := hts.load he
          have ht6 := ht6 4 (by omega)
          rw [hT.eq] at ht6
          simp only [txc, List.getElem?_cons_succ, List.getElem?_cons_zero] at ht6
          rw [hta.1] at ht1
          have hr5' : H5.rowAt Rt vert = some ct := by rw [hg5.rowAt ht3]; exact ht4
          obtain ⟨Ra, vera, ca, ha1, _, ha3, ha4, ha5, ha6, _⟩ := htw.fst.load (i := q) (e := [vi t]) (by rw [List.getElem?_map, List.getElem?_map, hpr]; rfl)
          have ha6 := ha6 0 (by omega)
          rw [List.length_map, List.length_map] at ha1
          rw [Nat.mul_one, Nat.add_zero] at ha6
          rw [Nat.mul_one] at ha5
          obtain ⟨Rb, verb, cb, hb1, _, hb3, hb4, hb5, hb6, _⟩ := htw.snd.load (i := q) (e := [vi k]) (by rw [List.getElem?_map, List.getElem?_map, hpr]; rfl)
          have hb6 := hb6 0 (by omega)
          rw [List.length_map, List.length_map] at hb1
          rw [Nat.mul_one, Nat.add_zero] at hb6
          rw [Nat.mul_one] at hb5
          obtain ⟨Rr, verr, cr, hr1, hr2, hr3, hr4, hr5, hr6, _⟩ := hT.reads.load (i := k) (e := yr.cells) (by rw [List.getElem?_map, hyr]; rfl)
          have hr6 := hr6 0 (by omega)
          rw [List.length_map] at hr1
          rw [Nat.add_zero] at hr6
          have hr4' : H5.rowAt Rr verr = some cr := by rw [hg5.rowAt hr3]; exact hr4
          have hyc : yr.cells[0]? = some (vi p) := by show some (vi yr.row) = _; rw [hp1]
          rw [hyc] at hr6
          simp only [List.getElem?_cons_zero] at ha6 hb6
          have hg05 := hg04.trans hg5
          have hrows5 := hrows1.up hg05
          obtain ⟨rcs5, hrd5, _, hrl5, _⟩ := id hrows5
          have hlv1 : aLenS v1 = some (vi rws.length) := by rw [hrd5.lenS, hrl5]
          obtain ⟨v21, H6, h16, hg6, R, ver, vs, rcs6, hown⟩ := c16 E.own (n + 6) hrows5 hsetw (by omega) (by omega)
          obtain ⟨rc, hrc⟩ : ∃ rc, rcs6[p]? = some rc := ⟨_, List.getElem?_eq_getElem (by have := hown.len; omega)⟩
          obtain ⟨hRC, _⟩ := hown.each p rc r hrc hp2
          obtain ⟨H7, hw7, hg7, hc7, hn7⟩ := newCells H6 (z := z32) (e := r.val) (by rw [hRC.isv.len]; rfl) (by rw [hRC.isv.len]; omega) hRC.isv.one
          have hown7 := hown.move hg7
          have hrow6 := hown.row
          have hrow7 := hown7.row
          obtain ⟨k1, k2, k3⟩ := hown7.cells hp2 hrc
          obtain ⟨xb, hxb⟩ : ∃ xb, r.val[31]? = some (v8 xb) := by
            have hl := hRC.isv.len
            obtain ⟨c, hc⟩ : ∃ c, r.val[31]? = some c := ⟨_, List.getElem?_eq_getElem (by omega)⟩
            obtain ⟨nb, rfl⟩ := hRC.isv.bytes c (List.mem_of_getElem? hc)
            exact ⟨nb, hc⟩
          obtain ⟨zb', hzb⟩ : ∃ z, aBits .xor .u8 xb y = some z := ⟨_, rfl⟩
          have hne := xor_ne ⟨by omega, hy.2⟩ hzb
          rw [hxb] at k3
          generalize (rcs6 ++ [mrow]).flatten = cs at hrow6 hrow7 k1 k2 k3
          obtain ⟨H8, vs8, hw8, hown8, hn8⟩ := hown7.put hp2 hrc zb'
          obtain ⟨txs', mm', ht', hE', hby'⟩ := htell _ (val_ne hRC.isv hxb hne)
          rw [← hpp] at hby'
          have hjd' := judgeD_is hm ht' ((ord_same hE').trans hot) hby'
          obtain ⟨t18', H9, h18', hg9, ht18', _⟩ := c18 E.jud E.by_ n (H := H8) (m := m) (v0 := v21) (hins (n + 1)) hown8.rowsAt (by rw [List.length_set]; omega) (by rw [List.length_set]; omega)
          rw [hjd'] at ht18'
          obtain ⟨f', hf'⟩ : ∃ f' : FindD, f' = ⟨false, t, k, r.val⟩ := ⟨_, rfl⟩
          have hjf' : jF (.ok ((⟨false, t, k, r.val⟩ : FindD), mm')) = f' := hf'.symm
          have hjc' : jC (.ok ((⟨false, t, k, r.val⟩ : FindD), mm')) = 0 := rfl
          rw [hjf', hjc'] at ht18'
          rw [ht18'] at h18'
          have hfv : IsVal f'.want := by rw [hf']; exact hRC.isv
          obtain ⟨g35, g1⟩ := FindD.full hfv
          obtain ⟨H10, hw10, hg10, hc10, hn10⟩ := newCells H9 (z := zfind) (e := f'.cells) (by rw [g35]; rfl) (by omega) g1
          have hX10 := hc10.at
          have hc7' := hc7.at
          have hfc : f'.cells = abool false :: vi t :: vi k :: r.val := by rw [hf']; rfl
          rw [hfc] at h18' hw10 hX10 g35
          have hev := eqFind hfv
          rw [hfc] at hev
          have hv32 := hRC.isv.len
          have h21 := hown.val
          rw [h21] at h16 h18'
          have hRl := hown.hN
          have hRn := hown.hR
          have ra5 := ha4
          have g56 := hg6.trans hg7
          have o8 : ∀ B, B ≠ R → H8.get B = H7.get B := fun B hB => by
            obtain ⟨_, _, _, _, _, _, _, _, hH⟩ := AHeap.write_some hw8
            rw [hH, AHeap.get_set_ne _ _ hB]
          have n5 := hg6.next
          have up : ∀ {B vr : Nat}, B < H6.next + 1 → B ≠ R → H10.rowAt B vr = H7.rowAt B vr := fun hB hne => by
            rw [rowAt_eq, rowAt_eq, hg10.get _ (by have := hg9.next; omega), hg9.get _ (by omega), o8 _ hne]
          have ra10 : H10.rowAt Ra vera = some ca := by rw [up (by omega) (by omega), g56.rowAt ha3]; exact ha4
          have rb10 : H10.rowAt Rb verb = some cb := by rw [up (by omega) (by omega), g56.rowAt hb3]; exact hb4
          have r22 : H10.rowAt H6.next 0 = some r.val := by rw [up (by omega) (by omega)]; exact hc7'
          have hvt : r.val.take 32 = r.val := List.take_of_length_le (by omega)
          repeat (first | apply Wp.seq | apply Wp.blk | apply Wp.ret | apply Wp.skip | apply Wp.exit | apply Wp.cT rfl | apply Wp.cF rfl | ((apply Wp.reg; (repeat (apply Ex.cons; (simp (disch := omega) [-getElem?_pos, -List.reduceReplicate, hla, hP0', hq2]; rfl))); exact Ex.nil; rfl; (simp; rfl))))
          repeat (first | apply Wp.seq | apply Wp.blk | apply Wp.ret | apply Wp.skip | apply Wp.exit | apply Wp.cT rfl | apply Wp.cF rfl | ((apply Wp.reg; (repeat (apply Ex.cons; (simp (disch := omega) [-getElem?_pos, -List.reduceReplicate, ha1, ra5, ha6, ht1, hr5', ht6, hb1, hb4, hb6, hr1, hr4', hr6, hlv1]; rfl))); exact Ex.nil; rfl; (simp; rfl))) | ((apply Wp.draw; (repeat (first | ((first | apply Dr.q rfl rfl | apply Dr.r rfl rfl); (simp (disch := omega) [-getElem?_pos, -List.reduceReplicate, ha1, ra5, ha6, ht1, hr5', ht6, hb1, hb4, hb6, hr1, hr4', hr6, hlv1]; rfl); (simp; rfl)) | (apply Dr.imm rfl; (simp (disch := omega) [-getElem?_pos, -List.reduceReplicate, ha1, ra5, ha6, ht1, hr5', ht6, hb1, hb4, hb6, hr1, hr4', hr6, hlv1]; rfl); (focus first | (simp [-getElem?_pos, -List.reduceReplicate]; done) | (simp [-getElem?_pos, -List.reduceReplicate]; omega))))); exact Dr.nil; rfl; (first | (focus (simp (disch := omega) [-getElem?_pos, -List.reduceReplicate, ha1, ra5, ha6, ht1, hr5', ht6, hb1, hb4, hb6, hr1, hr4', hr6, hlv1]; done)) | rfl); (simp; rfl))))
          repeat (first | apply Wp.seq | apply Wp.blk | apply Wp.ret | apply Wp.skip | apply Wp.exit | apply Wp.cT rfl | apply Wp.cF rfl | ((apply Wp.reg; (repeat (apply Ex.cons; (simp (disch := omega) [-getElem?_pos, -List.reduceReplicate, hlv1, h16, hrow6, k2, hv32, hw7, hvt]; rfl))); exact Ex.nil; rfl; (simp; rfl))))
          (repeat (first | apply Wp.seq | apply Wp.blk)); (apply Wp.draw; (repeat (first | ((first | apply Dr.q rfl rfl | apply Dr.r rfl rfl); (simp (disch := omega) [-getElem?_pos, -List.reduceReplicate, hrow7, k3, hzb, hw8]; rfl); (simp; rfl)) | (apply Dr.imm rfl; (simp (disch := omega) [-getElem?_pos, -List.reduceReplicate, hrow7, k3, hzb, hw8]; rfl); exact Nat.le_of_eq hn8.symm))); exact Dr.nil; rfl; (first | (focus (simp (disch := omega) [-getElem?_pos, -List.reduceReplicate, hrow7, k3, hzb, hw8]; done)) | rfl); (simp; rfl))
          repeat (first | apply Wp.seq | apply Wp.blk | apply Wp.ret | apply Wp.skip | apply Wp.exit | apply Wp.cT rfl | apply Wp.cF rfl | ((apply Wp.reg; (repeat (apply Ex.cons; (simp (disch := omega) [-getElem?_pos, -List.reduceReplicate, h18', g35, hw10]; rfl))); exact Ex.nil; rfl; (simp; rfl))))
          have hbq := beqs_bytes hRC.isv.bytes
          (repeat (first | apply Wp.seq | apply Wp.blk)); (apply Wp.draw; (repeat (first | ((first | apply Dr.q rfl rfl | apply Dr.r rfl rfl); (simp (disch := omega) [-getElem?_pos, -List.reduceReplicate, hX10, hv32, hvt, ra10, ha6, rb10, hb6, r22, aFill, hev, hbq]; rfl); (simp; rfl)) | (apply Dr.imm rfl; (simp (disch := omega) [-getElem?_pos, -List.reduceReplicate, hX10, hv32, hvt, ra10, ha6, rb10, hb6, r22, aFill, hev, hbq]; rfl); (focus first | (simp [-getElem?_pos, -List.reduceReplicate]; done) | (simp [-getElem?_pos, -List.reduceReplicate]; omega))))); exact Dr.nil; rfl; (first | (focus (simp (disch := omega) [-getElem?_pos, -List.reduceReplicate, hX10, hv32, hvt, ra10, ha6, rb10, hb6, r22, aFill, hev, hbq]; done)) | rfl); (simp; rfl))
          apply Wp.ret
          simp [-getElem?_pos, -List.reduceReplicate, a6]
end Go.Proofs.Ythbjfkkjmecaaaa
