/- The plain law of SerialTells, part 2: one read told another value is named. -/
import Derived.Test.YthbjfkkjmecaaaaT38
import Derived.Test.YthbjfkkjmecaaaaT41
import Derived.Test.YthbjfkkjmecaaaaT33
set_option linter.unusedVariables false
set_option linter.unusedSimpArgs false
namespace Go.Proofs.Ythbjfkkjmecaaaa
open Go Go.Vm
variable {kn : Known} {env : Nat → Option AFunc}
variable {rows rows' l : List RowD} {r r' : RowD} {x x' y : TxD} {c m q : Int} {t k n p g : Nat} {txs txs' : List TxD} {order pre post : List Int} {f : FindD} {mm mp : MapD}
theorem ownJ_ge (c : Int) (l : List RowD) (i : Nat) {e : Nat × RowD} (h : e ∈ ownJ c i l) : i ≤ e.1 := by
  obtain ⟨k, h1, _⟩ := ownJ_at c l i e h; omega
theorem ownJ_rise (c : Int) : ∀ (l : List RowD) (i : Nat), (ownJ c i l).Pairwise fun a b => a.1 < b.1
  | [], i => List.Pairwise.nil
  | r :: l, i => by
    unfold ownJ
    split
    · exact ownJ_rise c l _
    · split
      · exact List.Pairwise.nil
      · split
        · exact List.Pairwise.cons (fun e he => by have := ownJ_ge c l (i + 1) he; show i < e.1; omega) (ownJ_rise c l _)
        · exact ownJ_rise c l _
abbrev putJ (p : Nat) (r' : RowD) (e : Nat × RowD) : Nat × RowD := if e.1 = p then (e.1, r') else e
theorem putJ_no {L : List (Nat × RowD)} (h : ∀ e ∈ L, e.1 ≠ p) : L.map (putJ p r') = L := by
  conv => rhs; rw [← List.map_id L]
  exact List.map_congr_left fun e he => if_neg (h e he)
theorem ownJ_set (c : Int) (h1 : r'.actor = r.actor) (h2 : r'.kind = r.kind) : ∀ (l : List RowD) (i k : Nat), l[k]? = some r → ownJ c i (l.set k r') = (ownJ c i l).map (putJ (i + k) r')
  | [], i, k, h => by simp [-getElem?_pos] at h
  | q :: l, i, 0, h => by
    simp only [List.getElem?_cons_zero, Option.some.injEq] at h
    subst h
    rw [List.set_cons_zero]
    have hno : (ownJ c (i + 1) l).map (putJ (i + 0) r') = ownJ c (i + 1) l := putJ_no fun e he => by have := ownJ_ge c l (i + 1) he; omega
    unfold ownJ
    rw [h1, h2]
    split
    · exact hno.symm
    · split
      · rfl
      · split
        · rw [List.map_cons, hno]
          congr 1
          exact (if_pos rfl).symm
        · exact hno.symm
  | q :: l, i, k + 1, h => by
    rw [List.getElem?_cons_succ] at h
    have ih := ownJ_set c h1 h2 l (i + 1) k h
    rw [show i + 1 + k = i + (k + 1) by omega] at ih
    rw [List.set_cons_succ]
    unfold ownJ
    split
    · exact ih
    · split
      · rfl
      · split
        · rw [List.map_cons, ih]
          congr 1
          exact (if_neg (show ¬ i = i + (k + 1) by omega)).symm
        · exact ih
theorem own_set (c : Int) (h1 : r'.actor = r.actor) (h2 : r'.kind = r.kind) (hr : rows[p]? = some r) : ownJ c (g + 1) ((rows.set p r').drop (g + 1)) = (ownJ c (g + 1) (rows.drop (g + 1))).map (putJ p r') := by
  rw [List.drop_set]
  split
  · rename_i h
    exact (putJ_no fun e he => by have := ownJ_ge c _ (g + 1) he; omega).symm
  · rename_i h
    have := ownJ_set c h1 h2 (rows.drop (g + 1)) (g + 1) (p - (g + 1)) (by rw [List.getElem?_drop, show g + 1 + (p - (g + 1)) = p by omega]; exact hr)
    rw [this, show g + 1 + (p - (g + 1)) = p by omega]
theorem ownAt_J (hx : txs[t]? = some x) (hg : x.begun = (g : Int)) : ownAt rows txs t = (ownJ x.client (g + 1) (rows.drop (g + 1))).map (·.2) := by
  unfold ownAt
  rw [show ((t : Int)).toNat = t from rfl, hx, ownJ_rows]
  show ownB x.client (rows.drop (x.begun + 1).toNat) = _
  rw [hg, show ((g : Int) + 1).toNat = g + 1 by omega]
theorem er_at (h : txs'.map erX = txs.map erX) (hx : txs[t]? = some x) : ∃ x', txs'[t]? = some x' ∧ x'.client = x.client ∧ x'.begun = x.begun ∧ x'.pos = x.pos ∧ x'.fate = x.fate := by
  have h1 : (txs'.map erX)[t]? = some (erX x) := by rw [h, List.getElem?_map, hx]; rfl
  rw [List.getElem?_map] at h1
  obtain ⟨x', h2, h3⟩ := Option.map_eq_some_iff.1 h1
  exact ⟨x', h2, (show (erX x').client = (erX x).client by rw [h3]), (show (erX x').begun = (erX x).begun by rw [h3]), (show (erX x').pos = (erX x).pos by rw [h3]), (show (erX x').fate = (erX x).fate by rw [h3])⟩
theorem split_at {α : Type} {P : α → Bool} : ∀ {L : List α} {k : Nat} {e : α}, (L.filter P)[k]? = some e → ∃ A B, L = A ++ e :: B ∧ (A.filter P).length = k ∧ P e = true
  | [], k, e, h => by simp [-getElem?_pos] at h
  | a :: L, k, e, h => by
    rw [List.filter_cons] at h
    by_cases ha : P a = true
    · rw [if_pos ha] at h
      cases k with
      | zero =>
        simp only [List.getElem?_cons_zero, Option.some.injEq] at h
        subst h
        exact ⟨[], L, rfl, rfl, ha⟩
      | succ k =>
        rw [List.getElem?_cons_succ] at h
        obtain ⟨A, B, h1, h2, h3⟩ := split_at h
        exact ⟨a :: A, B, by rw [h1]; rfl, by rw [List.filter_cons, if_pos ha, List.length_cons, h2], h3⟩
    · rw [if_neg ha] at h
      obtain ⟨A, B, h1, h2, h3⟩ := split_at h
      exact ⟨a :: A, B, by rw [h1]; rfl, by rw [List.filter_cons, if_neg ha, h2], h3⟩
theorem read_is (e : TxRd rows x g) {y : ReadD} (hy : x.reads[k]? = some y) : ∃ p r A B, y = ⟨(p : Nat), r.blk, r.val⟩ ∧ rows[p]? = some r ∧ r.kind = 5 ∧ ownJ x.client (g + 1) (rows.drop (g + 1)) = A ++ (p, r) :: B ∧ (A.filter isRd).length = k ∧ (∀ z ∈ A, z.1 ≠ p) ∧ ∀ z ∈ B, z.1 ≠ p := by
  rw [e.reads] at hy
  unfold rdsJ at hy
  rw [List.getElem?_map] at hy
  obtain ⟨⟨p, r⟩, h1, h2⟩ := Option.map_eq_some_iff.1 hy
  obtain ⟨A, B, h3, h4, h5⟩ := split_at h1
  have hm : (p, r) ∈ ownJ x.client (g + 1) (rows.drop (g + 1)) := by rw [h3]; simp [-getElem?_pos]
  obtain ⟨j, g1, g2, g3, g4, g5⟩ := ownJ_at _ _ _ _ hm
  dsimp only at g1 g2
  rw [List.getElem?_drop, ← g1] at g2
  have hs := ownJ_rise x.client (rows.drop (g + 1)) (g + 1)
  rw [h3, List.pairwise_append] at hs
  obtain ⟨s1, s2, s3⟩ := hs
  refine ⟨p, r, A, B, h2.symm, g2, by simpa [-getElem?_pos, isRd] using h5, h3, h4, fun z hz => ?_, fun z hz => ?_⟩
  · have := s3 z hz (p, r) (List.mem_cons_self ..); dsimp only at this; omega
  · have := (List.pairwise_cons.1 s2).1 z hz; dsimp only at this; omega
theorem own_two {g' : Nat} {e e' : Nat × RowD} (h1 : TxRd rows x g) (h2 : TxRd rows x' g') (hlt : g < g') (he : e ∈ ownJ x.client (g + 1) (rows.drop (g + 1))) (he' : e' ∈ ownJ x'.client (g' + 1) (rows.drop (g' + 1))) : e.1 ≠ e'.1 := by
  intro heq
  obtain ⟨j, a1, a2, a3, a4, a5⟩ := ownJ_at _ _ _ _ he
  obtain ⟨j', b1, b2, b3, b4, b5⟩ := ownJ_at _ _ _ _ he'
  rw [List.getElem?_drop, ← a1] at a2
  rw [List.getElem?_drop, ← b1, ← heq, a2] at b2
  have hee : e.2 = e'.2 := by injection b2
  obtain ⟨q, q1, q2, q3⟩ := h2.row
  refine a5 ⟨q, ?_, by rw [q3, ← b3, ← hee, a3], q2⟩
  rw [List.mem_iff_getElem?]
  refine ⟨g' - (g + 1), ?_⟩
  rw [List.getElem?_take, if_pos (by omega), List.getElem?_drop, show g + 1 + (g' - (g + 1)) = g' by omega, q1]
theorem fold_cnt : ∀ (l : List RowD) (f : FindD) (mp : MapD) (k : Nat), (∀ r ∈ l, r.kind = 5 ∨ r.kind = 6) → (l.foldl (doRow q) (f, mp, k)).2.2 = k + (l.filter fun r => decide (r.kind = 5)).length
  | [], f, mp, k, _ => rfl
  | r :: l, f, mp, k, h => by
    rw [List.foldl_cons, List.filter_cons]
    have hl := fun r hr => h r (List.mem_cons_of_mem _ hr)
    rcases h r (List.mem_cons_self ..) with h5 | h6
    · obtain ⟨f', hf'⟩ : ∃ f', doRow q (f, mp, k) r = (f', mp, k + 1) := by unfold doRow; rw [if_neg (by omega)]; exact ⟨_, rfl⟩
      rw [hf', fold_cnt l _ _ _ hl, if_pos (by simpa [-getElem?_pos] using h5), List.length_cons]; omega
    · rw [show doRow q (f, mp, k) r = (f, mp.set r.blk.toNat r.val, k) from by simp [-getElem?_pos, doRow, h6], fold_cnt l _ _ _ hl, if_neg (by simp [-getElem?_pos]; omega)]
theorem rdOk_append : ∀ (A : List RowD) {B : List RowD} {ins : MapD}, rdOk (A ++ B) ins → rdOk A ins ∧ rdOk B (wrD A ins)
  | [], B, ins, h => ⟨trivial, h⟩
  | r :: A, B, ins, h => by
    obtain ⟨h1, h2⟩ := h
    obtain ⟨h3, h4⟩ := rdOk_append A h2
    exact ⟨⟨h1, h3⟩, h4⟩
theorem tx_bad : ∀ (ps : List Int) (f : FindD) (mp : MapD), f.good = false → (ps.foldl (doTx rows txs) (f, mp)).1 = f
  | [], _, _, _ => rfl
  | p :: ps, f, mp, h => by
    rw [List.foldl_cons]
    have h1 : (doTx rows txs (f, mp) p).1 = f := doRow_bad _ _ _ _ h
    have h2 : doTx rows txs (f, mp) p = (f, (doTx rows txs (f, mp) p).2) := Prod.ext h1 rfl
    rw [h2]
    exact tx_bad ps _ _ h
theorem fold_same : ∀ (ps : List Int) (st : FindD × MapD), (∀ a ∈ ps, ownAt rows' txs' a = ownAt rows txs a) → ps.foldl (doTx rows' txs') st = ps.foldl (doTx rows txs) st
  | [], st, _ => rfl
  | p :: ps, st, h => by
    rw [List.foldl_cons, List.foldl_cons]
    have : doTx rows' txs' st p = doTx rows txs st p := by unfold doTx; rw [h p (List.mem_cons_self ..)]
    rw [this]
    exact fold_same ps _ fun a ha => h a (List.mem_cons_of_mem _ ha)
theorem tells (hby : byD rows m (pre ++ (t : Int) :: post) = .ok (f, mm)) (hg : f.good = true) (htx : txsD rows = some txs) (hx : txs[t]? = some x) {y : ReadD} (hy : x.reads[k]? = some y) :
    ∃ p r, y.row = (p : Nat) ∧ rows[p]? = some r ∧ r.kind = 5 ∧ ∀ v', v' ≠ r.val → ∃ txs' mm', txsD (rows.set p { r with val := v' }) = some txs' ∧ txs'.map erX = txs.map erX ∧ byD (rows.set p { r with val := v' }) m (pre ++ (t : Int) :: post) = .ok (⟨false, t, k, r.val⟩, mm') := by
  obtain ⟨hm, txs0, ht0, hok, hf, hmm⟩ := byD_ok hby
  rw [htx] at ht0; cases ht0
  obtain ⟨hR, hinc⟩ := txsD_reads htx
  obtain ⟨g, e⟩ := hR t x hx
  obtain ⟨p, r, A, B, h1, h2, h3, h4, h5, h6, h7⟩ := read_is e hy
  refine ⟨p, r, by rw [h1], h2, h3, fun v' hv => ?_⟩
  obtain ⟨r', hr'⟩ : ∃ r' : RowD, r' = { r with val := v' } := ⟨_, rfl⟩
  rw [← hr']
  have ha : r'.actor = r.actor := by rw [hr']
  have hk : r'.kind = r.kind := by rw [hr']
  have hb : r'.blk = r.blk := by rw [hr']
  have hpl := (List.getElem?_eq_some_iff.1 h2).1
  have her : (rows.set p r').map erR = rows.map erR := by
    rw [List.map_set]
    have : erR r' = erR r := by rw [hr']; simp [-getElem?_pos, erR, h3]
    rw [this]
    refine List.ext_getElem? fun j => ?_
    rw [List.getElem?_set]
    split
    · rename_i ej; subst ej
      rw [if_pos (by simpa [-getElem?_pos] using hpl), List.getElem?_map, h2]; rfl
    · rfl
  have hts := txsD_same her
  rw [htx] at hts
  obtain ⟨txs', htx', hE⟩ := Option.map_eq_some_iff.1 hts
  have hlen : txs'.length = txs.length := by have := congrArg List.length hE; simpa [-getElem?_pos] using this
  -- what each has of its own now
  have hown : ∀ (a : Nat) (z : TxD) (ga : Nat), txs[a]? = some z → TxRd rows z ga → ownAt (rows.set p r') txs' a = ((ownJ z.client (ga + 1) (rows.drop (ga + 1))).map (putJ p r')).map (·.2) := fun a z ga hz ez => by
    obtain ⟨z', q1, q2, q3, _, _⟩ := er_at hE hz
    rw [ownAt_J q1 (g := ga) (by rw [q3, ez.begun]), q2, own_set _ ha hk h2]
  have hoth : ∀ a : Nat, a ≠ t → a < txs.length → ownAt (rows.set p r') txs' a = ownAt rows txs a := fun a hat hal => by
    obtain ⟨z, hz⟩ : ∃ z, txs[a]? = some z := ⟨_, List.getElem?_eq_getElem hal⟩
    obtain ⟨ga, ez⟩ := hR a z hz
    rw [hown a z ga hz ez, ownAt_J hz ez.begun]
    rw [putJ_no fun w hw => ?_]
    have hm : (p, r) ∈ ownJ x.client (g + 1) (rows.drop (g + 1)) := by rw [h4]; simp [-getElem?_pos]
    rcases Nat.lt_or_ge a t with h | h
    · have := hinc a t z x h hz hx
      rw [ez.begun, e.begun] at this
      exact own_two ez e (by omega) hw hm
    · have := hinc t a x z (by omega) hx hz
      rw [ez.begun, e.begun] at this
      exact fun q => own_two e ez (by omega) hm hw q.symm
  have hold : ownAt rows txs t = A.map (·.2) ++ r :: B.map (·.2) := by rw [ownAt_J hx e.begun, h4, List.map_append, List.map_cons]
  have hnew : ownAt (rows.set p r') txs' t = A.map (·.2) ++ r' :: B.map (·.2) := by
    rw [hown t x g hx e, h4, List.map_append, List.map_cons, putJ_no h6, putJ_no h7, List.map_append, List.map_cons]
    congr 2
    exact congrArg Prod.snd (if_pos rfl)
  have hnd := hok.1
  rw [List.nodup_append] at hnd
  obtain ⟨nd1, nd2, nd3⟩ := hnd
  rw [List.nodup_cons] at nd2
  have hin : ∀ a ∈ pre ++ (t : Int) :: post, ∃ j : Nat, a = j ∧ j < txs.length := fun a ha => by
    obtain ⟨q1, q2, _⟩ := hok.2 a ha
    exact ⟨a.toNat, by omega, by omega⟩
  have hpre : ∀ a ∈ pre, ownAt (rows.set p r') txs' a = ownAt rows txs a := fun a ha => by
    obtain ⟨j, rfl, hj⟩ := hin a (List.mem_append_left _ ha)
    exact hoth j (fun q => nd3 j ha t (List.mem_cons_self ..) (by rw [q])) hj
  have hpost : ∀ a ∈ post, ownAt (rows.set p r') txs' a = ownAt rows txs a := fun a ha => by
    obtain ⟨j, rfl, hj⟩ := hin a (by simp [-getElem?_pos, ha])
    exact hoth j (fun q => nd2.1 (by rw [← q]; exact ha)) hj
  have hok' : okO (rows.set p r') m txs' (pre ++ (t : Int) :: post) := by
    refine ⟨hok.1, fun a ha => ?_⟩
    obtain ⟨q1, q2, q3⟩ := hok.2 a ha
    refine ⟨q1, by omega, ?_⟩
    rcases List.mem_append.1 ha with h | h
    · rw [hpre a h]; exact q3
    · rcases List.mem_cons.1 h with h | h
      · rw [h] at q3 ⊢
        rw [hold] at q3
        rw [hnew]
        rw [List.any_append, List.any_cons] at q3 ⊢
        rw [show badB m r' = badB m r by unfold badB; rw [hb]]
        exact q3
      · rw [hpost a h]; exact q3
  suffices hF : ((pre ++ (t : Int) :: post).foldl (doTx (rows.set p r') txs') (goodF, zeroM)).1 = ⟨false, t, k, r.val⟩ by
    exact ⟨txs', ((pre ++ (t : Int) :: post).foldl (doTx (rows.set p r') txs') (goodF, zeroM)).2.take m.toNat, htx', hE, by rw [byD_of hm htx' hok', hF]⟩
  rw [List.foldl_append, List.foldl_cons, fold_same pre _ hpre]
  have hg' : ((pre ++ (t : Int) :: post).foldl (doTx rows txs) (goodF, zeroM)).1.good = true := by rw [hf]; exact hg
  rw [List.foldl_append, List.foldl_cons] at hg'
  generalize pre.foldl (doTx rows txs) (goodF, zeroM) = st at hg' ⊢
  obtain ⟨f1, m1⟩ := st
  obtain ⟨k1, k2, _⟩ := doTx_good (fold_good post _ hg')
  rw [hold] at k2
  obtain ⟨k3, k4⟩ := rdOk_append _ k2
  have hval : atM (wrD (A.map (·.2)) m1) r.blk = r.val := by
    rcases k4.1 with q | q
    · omega
    · exact q
  have hcnt : ((A.map (·.2)).foldl (doRow t) (f1, m1, 0)).2.2 = k := by
    rw [fold_cnt _ _ _ _ (fun z hz => ?_), Nat.zero_add, ← h5, List.filter_map, List.length_map]
    · rfl
    · obtain ⟨w, hw, rfl⟩ := List.mem_map.1 hz
      have hw2 : w ∈ ownJ x.client (g + 1) (rows.drop (g + 1)) := by rw [h4]; exact List.mem_append_left _ hw
      obtain ⟨_, _, _, _, q, _⟩ := ownJ_at _ _ _ _ hw2
      exact q
  have hst : (A.map (·.2)).foldl (doRow t) (f1, m1, 0) = (f1, wrD (A.map (·.2)) m1, k) := Prod.ext (doRow_good _ _ _ _ k1 k3) (Prod.ext (doRow_map _ _ _ _) hcnt)
  have hdo : (doTx (rows.set p r') txs' (f1, m1) t).1 = ⟨false, t, k, r.val⟩ := by
    show ((ownAt (rows.set p r') txs' t).foldl (doRow t) (f1, m1, 0)).1 = _
    rw [hnew, List.foldl_append, List.foldl_cons, hst]
    have : doRow t (f1, wrD (A.map (·.2)) m1, k) r' = (⟨false, t, k, r.val⟩, wrD (A.map (·.2)) m1, k + 1) := by
      unfold doRow
      rw [if_neg (by omega)]
      dsimp only
      rw [hb, hval, if_pos ⟨k1, by rw [hr']; exact fun q => hv q.symm⟩]
    rw [this, doRow_bad _ _ _ _ rfl]
  have hpair : doTx (rows.set p r') txs' (f1, m1) t = (⟨false, t, k, r.val⟩, (doTx (rows.set p r') txs' (f1, m1) t).2) := Prod.ext hdo rfl
  rw [hpair]
  exact tx_bad post _ _ rfl
end Go.Proofs.Ythbjfkkjmecaaaa
namespace Go.Proofs.Ythbjfkkjmecaaaa
open Go Go.Vm
variable {kn : Known} {env : Nat → Option AFunc}
variable {H H' H0 H1 H2 : AHeap} {N A R ver nv L : Nat} {v v0 sv a b : AVal} {rows : List RowD} {l la lb : List Int} {rcs : List (List AVal)} {rc : List AVal} {r : RowD} {vs : Vers} {txs : List TxD} {o : List Int}
structure Two (H : AHeap) (N : Nat) (a b : AVal) (la lb : List Int) : Prop where
  fst : SliceE H N 1 a (ints la)
  snd : SliceE H N 1 b (ints lb)
  ne : a.lies fun R => b.lies (· ≠ R)
theorem Two.nil : Two H N anil anil [] [] := ⟨SliceE.nil _ _ _, SliceE.nil _ _ _, fun R ver off len kc ex esz e => by cases e⟩
theorem Two.move (h : Two H N a b la lb) (hn : H.next ≤ H'.next) (hg : ∀ A, N ≤ A → A < H.next → H'.get A = H.get A) : Two H' N a b la lb := ⟨h.fst.move (Nat.le_refl _) hn hg, h.snd.move (Nat.le_refl _) hn hg, h.ne⟩
theorem Two.push (h : Two H N a b la lb) (hN : N ≤ H.next) (ha : la.length < 1000000000000) (hb : lb.length < 1000000000000) (z k : Int) :
    ∃ a' b' H1 H2, aAppend (H.push (.row [some (0, [vi z])])) 1 8 a (.slice H.next 0 0 1 1 true 1) = some (a', H1) ∧ aAppend (H1.push (.row [some (0, [vi k])])) 1 8 b (.slice H1.next 0 0 1 1 true 1) = some (b', H2) ∧ Two H2 N a' b' (la ++ [z]) (lb ++ [k]) ∧ H.next ≤ H2.next ∧ ∀ A, A < N → H2.get A = H.get A := by
  obtain ⟨a', H1, e1, s1, n1, k1, k1', l1⟩ := (h.fst.move (Nat.le_refl _) (Nat.le_succ _) (H' := H.push (.row [some (0, [vi z])])) fun A _ hA => AHeap.get_push_ne _ _ (by omega)).append (bytes := 8) (by simp [-getElem?_pos]; omega) (X := H.next) (e := [vi z]) (by simp [-getElem?_pos]) rfl (by omega) (by omega) rfl (by rw [List.length_map]; omega) (ex := true) (kc := 1)
  simp only [AHeap.next_push] at n1
  have hbl := h.snd.lies
  have hb1 : SliceE H1 N 1 b (ints lb) := by
    obtain ⟨q0, ⟨q1, q2⟩ | ⟨R, ver, vs, q1, q2, q3, q4, q5⟩⟩ := h.snd
    · exact ⟨q0, .inl ⟨q1, q2⟩⟩
    · refine ⟨q0, .inr ⟨R, ver, vs, q1, by omega, q3, ?_, q5⟩⟩
      rw [k1' R (by simp [-getElem?_pos]; omega) (fun R' ver' off' len' kc' ex' esz' e => fun e' => h.ne _ _ _ _ _ _ _ e _ _ _ _ _ _ _ q3 e'.symm), AHeap.get_push_ne _ _ (by omega)]
      exact q4
  have hne1 : a'.lies fun R => b.lies (· ≠ R) := l1 _ h.ne fun R hR R' ver' off' len' kc' ex' esz' e => by
    have := (hbl _ _ _ _ _ _ _ e).2
    simp [-getElem?_pos] at hR; omega
  obtain ⟨b', H2, e2, s2, n2, k2, k2', l2⟩ := (hb1.move (Nat.le_refl _) (Nat.le_succ _) (H' := H1.push (.row [some (0, [vi k])])) fun A _ hA => AHeap.get_push_ne _ _ (by omega)).append (bytes := 8) (by simp [-getElem?_pos]; omega) (X := H1.next) (e := [vi k]) (by simp [-getElem?_pos]) rfl (by omega) (by omega) rfl (by rw [List.length_map]; omega) (ex := true) (kc := 1)
  simp only [AHeap.next_push] at n2
  have hal := s1.lies
  have hbb : b.lies fun Q => a'.lies (· ≠ Q) := fun Q ver off len kc ex esz e => fun R ver' off' len' kc' ex' esz' e' => fun e'' => hne1 _ _ _ _ _ _ _ e' _ _ _ _ _ _ _ e e''.symm
  have hbb' : b'.lies fun Q => a'.lies (· ≠ Q) := l2 _ hbb fun Q hQ R ver off len kc ex esz e => by
    have := (hal _ _ _ _ _ _ _ e).2
    simp [-getElem?_pos] at hQ; omega
  refine ⟨a', b', H1, H2, e1, e2, ⟨?_, by simpa [-getElem?_pos] using s2, fun R ver off len kc ex esz e => fun Q ver' off' len' kc' ex' esz' e' => fun e'' => hbb' _ _ _ _ _ _ _ e' _ _ _ _ _ _ _ e e''.symm⟩, by omega, fun A hA => by rw [k2 A hA, AHeap.get_push_ne _ _ (by omega), k1 A hA, AHeap.get_push_ne _ _ (by omega)]⟩
  have hs : SliceE H1 N 1 a' (ints (la ++ [z])) := by simpa [-getElem?_pos] using s1
  obtain ⟨q0, ⟨q1, q2⟩ | ⟨R, ver, vs, q1, q2, q3, q4, q5⟩⟩ := hs
  · exact ⟨q0, .inl ⟨q1, q2⟩⟩
  · refine ⟨q0, .inr ⟨R, ver, vs, q1, by omega, q3, ?_, q5⟩⟩
    rw [k2' R (by simp [-getElem?_pos]; omega) (fun R' ver' off' len' kc' ex' esz' e => fun e' => hne1 _ _ _ _ _ _ _ q3 _ _ _ _ _ _ _ e e'), AHeap.get_push_ne _ _ (by omega)]
    exact q4
def rdN (txs : List TxD) (z : Int) : Nat := match txs[z.toNat]? with
  | some x => x.reads.length
  | none => 0
def prs (txs : List TxD) (o : List Int) : List (Int × Int) := o.flatMap fun z => (List.range (rdN txs z)).map fun k : Nat => (z, (k : Int))
theorem prs_mem {p : Int × Int} (h : p ∈ prs txs o) : p.1 ∈ o ∧ ∃ k : Nat, p.2 = k ∧ k < rdN txs p.1 := by
  unfold prs at h
  obtain ⟨z, h1, h2⟩ := List.mem_flatMap.1 h
  obtain ⟨k, h3, rfl⟩ := List.mem_map.1 h2
  exact ⟨h1, k, rfl, List.mem_range.1 h3⟩
theorem prs_take {i : Nat} {z : Int} (h : o[i]? = some z) : prs txs (o.take (i + 1)) = prs txs (o.take i) ++ (List.range (rdN txs z)).map fun k : Nat => (z, (k : Int)) := by
  unfold prs
  rw [List.take_add_one, h, List.flatMap_append]; simp [-getElem?_pos]
theorem prs_len (o : List Int) {M : Nat} (h : ∀ z ∈ o, rdN txs z ≤ M) : (prs txs o).length ≤ o.length * M := by
  induction o with
  | nil => simp [-getElem?_pos, prs]
  | cons z o ih =>
    have h1 := h z (List.mem_cons_self ..)
    have h2 := ih fun w hw => h w (List.mem_cons_of_mem _ hw)
    unfold prs at h2 ⊢
    rw [List.flatMap_cons, List.length_append, List.length_map, List.length_range, List.length_cons, Nat.succ_mul]
    omega
theorem rem_in (a : Int) {L : Nat} (h : 0 < L) : ∃ n : Nat, n < L ∧ (a.tmod L + L).tmod L = n ∧ -(L : Int) < a.tmod L ∧ a.tmod L < L := by
  have h1 := Int.tmod_lt_of_pos a (b := (L : Int)) (by omega)
  have h2 : -(L : Int) < a.tmod L := by
    have := Int.lt_tmod_of_pos a (b := (L : Int)) (by omega)
    omega
  have h3 : 0 ≤ (a.tmod L + L).tmod L := Int.tmod_nonneg _ (by omega)
  have h4 := Int.tmod_lt_of_pos (a.tmod L + L) (b := (L : Int)) (by omega)
  exact ⟨((a.tmod L + L).tmod L).toNat, by omega, by omega, h2, h1⟩
theorem xor_ne {x y z : Int} (hy : 0 < y ∧ y < 256) (h : aBits .xor .u8 x y = some z) : z ≠ x := by
  intro e
  subst e
  simp only [aBits, Option.some.injEq, wrapF] at h
  have hb : IntKind.u8.bits = 8 := rfl
  rw [hb] at h
  have h0 := Int.emod_nonneg (((BitVec.ofInt 8 z ^^^ BitVec.ofInt 8 y).toNat : Nat) : Int) (show (256 : Int) ≠ 0 by omega)
  have h256 := Int.emod_lt_of_pos (((BitVec.ofInt 8 z ^^^ BitVec.ofInt 8 y).toNat : Nat) : Int) (show (0 : Int) < 256 by omega)
  have hlt := (BitVec.ofInt 8 z ^^^ BitVec.ofInt 8 y).isLt
  have hz : (BitVec.ofInt 8 z ^^^ BitVec.ofInt 8 y) = BitVec.ofInt 8 z := by
    apply BitVec.eq_of_toNat_eq
    rw [BitVec.toNat_ofInt]
    omega
  have hy0 : BitVec.ofInt 8 y = 0#8 := by
    have : BitVec.ofInt 8 z ^^^ (BitVec.ofInt 8 z ^^^ BitVec.ofInt 8 y) = BitVec.ofInt 8 z ^^^ BitVec.ofInt 8 z := by rw [hz]
    rw [← BitVec.xor_assoc, BitVec.xor_self, BitVec.zero_xor] at this
    exact this
  have := congrArg BitVec.toNat hy0
  rw [BitVec.toNat_ofInt] at this
  simp [-getElem?_pos] at this
  omega
theorem val_put {val : List AVal} (h : IsVal val) (z : Int) : IsVal (val.set 31 (v8 z)) := ⟨by rw [List.length_set]; exact h.len, fun c hc => by
  rcases List.mem_or_eq_of_mem_set hc with hc | rfl
  · exact h.bytes c hc
  · exact ⟨z, rfl⟩⟩
theorem val_ne {val : List AVal} (h : IsVal val) {x z : Int} (hx : val[31]? = some (v8 x)) (hz : z ≠ x) : val.set 31 (v8 z) ≠ val := fun e => by
  have hl := h.len
  have : (val.set 31 (v8 z))[31]? = some (v8 z) := by rw [List.getElem?_set_self (by omega)]
  rw [e, hx] at this
  injection this with this
  injection this with this
  injection this with _ this
  exact hz this.symm
theorem RowC.put36 (h : RowC rc r) (z : Int) : RowC (rc.set 36 (v8 z)) { r with val := r.val.set 31 (v8 z) } := by
  have hl := h.len
  refine ⟨by rw [List.length_set]; exact hl, ?_, ?_, ?_, ?_, ?_, ?_, ?_, ?_, ?_, val_put h.isv z, ?_⟩
  · rw [List.getElem?_set_ne (by omega)]; exact h.a0
  · rw [List.getElem?_set_ne (by omega)]; exact h.a1
  · rw [List.getElem?_set_ne (by omega)]; exact h.a2
  · rw [List.getElem?_set_ne (by omega)]; exact h.a3
  · rw [List.getElem?_set_ne (by omega)]; exact h.a4
  · show _ = r.val.set 31 (v8 z)
    rw [← h.av]
    refine List.ext_getElem? fun k => ?_
    rw [List.getElem?_take, List.getElem?_set, List.getElem?_take, List.getElem?_drop, List.getElem?_set, List.getElem?_drop, List.length_take, List.length_drop, hl]
    by_cases e1 : 31 = k
    · subst e1; rw [if_pos (by omega), if_pos rfl, if_pos (by omega), if_pos rfl, if_pos (by omega)]
    · rw [if_neg e1]
      split
      · rw [if_neg (by omega)]
      · rfl
  · rw [List.getElem?_set_ne (by omega)]; exact h.a37
  · rw [List.getElem?_set_ne (by omega)]; exact h.a38
  · rw [List.getElem?_set_ne (by omega)]; exact h.a39
  · rw [List.all_eq_true]
    intro c hc
    rcases List.mem_or_eq_of_mem_set hc with hc | rfl
    · exact (List.all_eq_true.1 h.one) c hc
    · rfl
theorem OwnIs.lens (h : OwnIs H N v rows R ver vs rcs) : ∀ e ∈ rcs, e.length = 41 := fun e he => by
  obtain ⟨k, hk⟩ := List.mem_iff_getElem?.1 he
  have hkl := (List.getElem?_eq_some_iff.1 hk).1
  have hl := h.len
  exact (h.each k e rows[k] hk (List.getElem?_eq_getElem (by omega))).1.len
theorem OwnIs.row (h : OwnIs H N v rows R ver vs rcs) : H.rowAt R ver = some (rcs ++ [mrow]).flatten := by unfold AHeap.rowAt; rw [h.get]; simp only [h.at_]
theorem OwnIs.rowsAt (h : OwnIs H N v rows R ver vs rcs) : RowsAt H H.next v rows := by
  have hl := flatten_len h.lens
  refine ⟨rcs, ⟨h.lens, .inr ⟨R, ver, 0, rows.length + 1, false, _, by rw [h.val, h.len], h.row, by rw [h.len]; omega, by rw [List.flatten_append, List.length_append, hl]; omega, ?_⟩⟩, fun R' ver' off len kc ex esz e => by rw [h.val] at e; cases e; exact h.hR, h.len, fun k rc r h1 h2 => ?_⟩
  · rw [List.drop_zero, List.flatten_append, List.take_left' hl]
  · obtain ⟨q1, sv, q2, q3, q4, q5⟩ := h.each k rc r h1 h2
    exact ⟨q1, sv, q2, q3.rd, fun R' ver' off len kc ex esz e => (q3.lies _ _ _ _ _ _ _ e).2, by omega⟩
theorem OwnIs.put (h : OwnIs H N v rows R ver vs rcs) {p : Nat} (hr : rows[p]? = some r) (hrc : rcs[p]? = some rc) (z : Int) :
    ∃ H' vs', H.write R ver (p * 41 + 36) [v8 z] = some H' ∧ OwnIs H' N v (rows.set p { r with val := r.val.set 31 (v8 z) }) R ver vs' (rcs.set p (rc.set 36 (v8 z))) ∧ H'.next = H.next := by
  have hpl := (List.getElem?_eq_some_iff.1 hrc).1
  have hl := h.len
  have hlm : ∀ e ∈ rcs ++ [mrow], e.length = 41 := fun e he => by
    rcases List.mem_append.1 he with he | he
    · exact h.lens e he
    · simp [-getElem?_pos] at he; subst he; rfl
  have hfl := flatten_len hlm
  have hrc' : (rcs ++ [mrow])[p]? = some rc := by rw [List.getElem?_append_left hpl]; exact hrc
  have hm : (p + 1) * 41 ≤ (rcs ++ [mrow]).length * 41 := Nat.mul_le_mul_right _ (by simp [-getElem?_pos]; omega)
  obtain ⟨H', hw, hrw⟩ := RowW.write (H0 := H) (nv := vs.length) ⟨⟨vs, h.get, rfl, h.at_⟩, rfl, fun _ _ => rfl⟩ (off := p * 41 + 36) (vals := [v8 z]) (by simp [-getElem?_pos]) (by simp only [List.length_singleton]; omega) rfl
  obtain ⟨vs', q1, q2, q3⟩ := hrw.row
  have hsp : spl rc 36 [v8 z] = rc.set 36 (v8 z) := set_spl (by have := h.lens rc (List.mem_of_getElem? hrc); omega)
  refine ⟨H', vs', hw, ⟨h.hN, by rw [hrw.next]; exact h.hR, by rw [h.val, List.length_set], q1, ?_, by rw [List.length_set, List.length_set]; exact hl, fun k rc1 r1 h1 h2 => ?_⟩, hrw.next⟩
  · rw [q3]
    congr 3
    have := flatten_part hlm hrc' (f := 36) (v := [v8 z]) (by simp [-getElem?_pos])
    rw [hsp, List.set_append_left _ _ hpl] at this
    exact this
  · rw [List.getElem?_set] at h1 h2
    have mv : ∀ (u : AVal) (l : List Int), RoomyAt H N u l → u.lies (· ≠ R) → RoomyAt H' N u l := fun u l ⟨Ru, veru, vsu, u1, u2, u3, u4, u5⟩ hne => ⟨Ru, veru, vsu, u1, by rw [hrw.next]; exact u2, u3, by rw [hrw.other Ru (hne _ _ _ _ _ _ _ u3)]; exact u4, u5⟩
    by_cases e : p = k
    · subst e
      rw [if_pos rfl, if_pos (by omega)] at h1 h2
      cases h1; cases h2
      obtain ⟨a1, sv, a2, a3, a4, a5⟩ := h.each p rc r hrc hr
      exact ⟨a1.put36 z, sv, by rw [List.getElem?_set_ne (by omega)]; exact a2, mv _ _ a3 a4, a4, a5⟩
    · rw [if_neg e] at h1 h2
      obtain ⟨a1, sv, a2, a3, a4, a5⟩ := h.each k rc1 r1 h1 h2
      exact ⟨a1, sv, a2, mv _ _ a3 a4, a4, a5⟩
end Go.Proofs.Ythbjfkkjmecaaaa
