/- The plain law of SerialSwaps. -/
import Derived.Test.YthbjfkkjmecaaaaW43
namespace Go.Proofs.Ythbjfkkjmecaaaa
open Go Go.Vm
set_option linter.unusedVariables false
set_option linter.unusedSimpArgs false

variable {kn : Known} {env : Nat → Option AFunc}

variable {rows l a b : List RowD} {r : RowD} {m : Int} {txs : List TxD} {order : List Int} {mm ins ins' : MapD} {f f' : FindD} {p : Int} {k : Nat}

/-- What a transaction writes. -/
def wrS (ins : MapD) (r : RowD) : MapD := if r.kind = 6 then ins.set r.blk.toNat r.val else ins
def wrD (l : List RowD) (ins : MapD) : MapD := l.foldl wrS ins

/-- Are its reads right? -/
def rdOk : List RowD → MapD → Prop
  | [], _ => True
  | r :: l, ins => (r.kind = 6 ∨ atM ins r.blk = r.val) ∧ rdOk l (wrS ins r)

theorem doRow_map : ∀ (l : List RowD) (f : FindD) (ins : MapD) (k : Nat), (l.foldl (doRow p) (f, ins, k)).2.1 = wrD l ins
  | [], f, ins, k => rfl
  | r :: l, f, ins, k => by
    rw [List.foldl_cons]
    unfold wrD
    rw [List.foldl_cons]
    by_cases h : r.kind = 6
    · rw [show doRow p (f, ins, k) r = (f, ins.set r.blk.toNat r.val, k) from by simp [-getElem?_pos, doRow, h], show wrS ins r = ins.set r.blk.toNat r.val from by simp [-getElem?_pos, wrS, h]]
      exact doRow_map l _ _ _
    · rw [show wrS ins r = ins from by simp [-getElem?_pos, wrS, h]]
      unfold doRow
      rw [if_neg h]
      exact doRow_map l _ _ _

theorem doRow_bad : ∀ (l : List RowD) (f : FindD) (ins : MapD) (k : Nat), f.good = false → (l.foldl (doRow p) (f, ins, k)).1 = f
  | [], f, ins, k, _ => rfl
  | r :: l, f, ins, k, hf => by
    rw [List.foldl_cons]
    unfold doRow
    split
    · exact doRow_bad l _ _ _ hf
    · rw [if_neg (fun q => by rw [hf] at q; cases q.1)]
      exact doRow_bad l _ _ _ hf

theorem doRow_good : ∀ (l : List RowD) (f : FindD) (ins : MapD) (k : Nat), f.good = true → rdOk l ins → (l.foldl (doRow p) (f, ins, k)).1 = f
  | [], f, ins, k, _, _ => rfl
  | r :: l, f, ins, k, hf, hr => by
    rw [List.foldl_cons]
    obtain ⟨h1, h2⟩ := hr
    by_cases h : r.kind = 6
    · rw [show doRow p (f, ins, k) r = (f, ins.set r.blk.toNat r.val, k) from by simp [-getElem?_pos, doRow, h]]
      rw [show wrS ins r = ins.set r.blk.toNat r.val from by simp [-getElem?_pos, wrS, h]] at h2
      exact doRow_good l _ _ _ hf h2
    · rw [show wrS ins r = ins from by simp [-getElem?_pos, wrS, h]] at h2
      rcases h1 with h1 | h1
      · exact absurd h1 h
      · unfold doRow
        rw [if_neg h, if_neg (fun q => q.2 h1)]
        exact doRow_good l _ _ _ hf h2

theorem doRow_ok : ∀ (l : List RowD) (f : FindD) (ins : MapD) (k : Nat), (l.foldl (doRow p) (f, ins, k)).1.good = true → f.good = true ∧ rdOk l ins
  | [], f, ins, k, h => ⟨h, trivial⟩
  | r :: l, f, ins, k, h => by
    rw [List.foldl_cons] at h
    by_cases h6 : r.kind = 6
    · rw [show doRow p (f, ins, k) r = (f, ins.set r.blk.toNat r.val, k) from by simp [-getElem?_pos, doRow, h6]] at h
      obtain ⟨a, b⟩ := doRow_ok l _ _ _ h
      exact ⟨a, .inl h6, by rw [show wrS ins r = ins.set r.blk.toNat r.val from by simp [-getElem?_pos, wrS, h6]]; exact b⟩
    · unfold doRow at h
      rw [if_neg h6] at h
      obtain ⟨a, b⟩ := doRow_ok l _ _ _ h
      have hw : wrS ins r = ins := by simp [-getElem?_pos, wrS, h6]
      by_cases hc : f.good = true ∧ atM ins r.blk ≠ r.val
      · rw [if_pos hc] at a; cases a
      · rw [if_neg hc] at a
        refine ⟨a, .inr ?_, by rw [hw]; exact b⟩
        exact Classical.byContradiction fun q => hc ⟨a, q⟩

theorem doTx_parts (f : FindD) (mm : MapD) (p : Int) : (doTx rows txs (f, mm) p).2 = wrD (ownAt rows txs p) mm := doRow_map _ _ _ _
theorem doTx_good (h : (doTx rows txs (f, mm) p).1.good = true) : f.good = true ∧ rdOk (ownAt rows txs p) mm ∧ doTx rows txs (f, mm) p = (f, wrD (ownAt rows txs p) mm) := by
  obtain ⟨h1, h2⟩ := doRow_ok _ _ _ _ h
  exact ⟨h1, h2, Prod.ext (doRow_good _ _ _ _ h1 h2) (doTx_parts f mm p)⟩
theorem doTx_do (h1 : f.good = true) (h2 : rdOk (ownAt rows txs p) mm) : doTx rows txs (f, mm) p = (f, wrD (ownAt rows txs p) mm) := Prod.ext (doRow_good _ _ _ _ h1 h2) (doTx_parts f mm p)

theorem fold_good : ∀ (ps : List Int) (st : FindD × MapD), (ps.foldl (doTx rows txs) st).1.good = true → st.1.good = true
  | [], st, h => h
  | p :: ps, (f, mm), h => by
    rw [List.foldl_cons] at h
    exact (doTx_good (fold_good ps _ h)).1

/-! ### What is touched -/

theorem touch_mono (n : Int) : ∀ (l : List RowD) (st : Bool × Bool), (st.1 = true → (l.foldl (touchS n) st).1 = true) ∧ (st.2 = true → (l.foldl (touchS n) st).2 = true)
  | [], st => ⟨id, id⟩
  | r :: l, st => by
    rw [List.foldl_cons]
    obtain ⟨h1, h2⟩ := touch_mono n l (touchS n st r)
    refine ⟨fun q => h1 ?_, fun q => h2 ?_⟩ <;> (unfold touchS; split <;> try exact q) <;> (split <;> simp_all [-getElem?_pos])

/-- Nothing is written there. -/
theorem wr_not (n : Nat) : ∀ (l : List RowD) (ins : MapD) (st : Bool × Bool), (∀ r ∈ l, 0 ≤ r.blk) → (l.foldl (touchS n) st).1 = false → (wrD l ins)[n]? = ins[n]?
  | [], ins, st, _, _ => rfl
  | r :: l, ins, st, hb, h => by
    rw [List.foldl_cons] at h
    have hb0 := hb r (List.mem_cons_self ..)
    have ih := wr_not n l (wrS ins r) (touchS n st r) (fun q hq => hb q (List.mem_cons_of_mem _ hq)) h
    show (wrD l (wrS ins r))[n]? = _
    rw [ih]
    unfold wrS
    split
    · rename_i h6
      rw [List.getElem?_set_ne]
      intro e
      have : r.blk = (n : Int) := by omega
      have h1 := (touch_mono n l (touchS n st r)).1 (by simp [-getElem?_pos, touchS, this, h6])
      rw [h1] at h; cases h
    · rfl

/-- What is written there hangs on no map. -/
theorem wr_yes (n : Nat) : ∀ (l : List RowD) (ins ins' : MapD) (st : Bool × Bool), (∀ r ∈ l, 0 ≤ r.blk) → ins.length = ins'.length → ((st.1 = true ∧ ins[n]? = ins'[n]?) ∨ st.1 = false) → (l.foldl (touchS n) st).1 = true → (wrD l ins)[n]? = (wrD l ins')[n]?
  | [], ins, ins', st, _, hl, h0, h => by
    rcases h0 with h0 | h0
    · exact h0.2
    · simp only [List.foldl_nil] at h; rw [h0] at h; cases h
  | r :: l, ins, ins', st, hb, hl, h0, h => by
    rw [List.foldl_cons] at h
    have hb0 := hb r (List.mem_cons_self ..)
    refine wr_yes n l (wrS ins r) (wrS ins' r) (touchS n st r) (fun q hq => hb q (List.mem_cons_of_mem _ hq)) (by unfold wrS; split <;> simp [-getElem?_pos, hl]) ?_ h
    by_cases e : r.blk = (n : Int)
    · by_cases h6 : r.kind = 6
      · left
        refine ⟨by simp [-getElem?_pos, touchS, e, h6], ?_⟩
        unfold wrS
        rw [if_pos h6, if_pos h6, e, Int.toNat_natCast, List.getElem?_set, List.getElem?_set, hl]; simp [-getElem?_pos]
      · rw [show (touchS n st r).1 = st.1 from by simp [-getElem?_pos, touchS, e, h6], show wrS ins r = ins from by simp [-getElem?_pos, wrS, h6], show wrS ins' r = ins' from by simp [-getElem?_pos, wrS, h6]]
        exact h0
    · rw [show touchS n st r = st from by simp [-getElem?_pos, touchS, e]]
      rcases h0 with ⟨q1, q2⟩ | q
      · left
        refine ⟨q1, ?_⟩
        unfold wrS
        split
        · rw [List.getElem?_set_ne (by omega), List.getElem?_set_ne (by omega)]; exact q2
        · exact q2
      · exact .inr q

theorem atM_eq {b : Int} (h : ins[b.toNat]? = ins'[b.toNat]?) : atM ins b = atM ins' b := by unfold atM; rw [h]

/-- Reads hang on what is looked at. -/
theorem rd_same : ∀ (l : List RowD) (ins ins' : MapD) (st : Nat → Bool × Bool), (∀ r ∈ l, 0 ≤ r.blk) → ins.length = ins'.length → (∀ n : Nat, ((l.foldl (touchS n) (st n)).2 = true ∨ (st n).1 = true) → ins[n]? = ins'[n]?) → rdOk l ins → rdOk l ins'
  | [], _, _, _, _, _, _, _ => trivial
  | r :: l, ins, ins', st, hb, hl, ha, ⟨h1, h2⟩ => by
    have hb0 := hb r (List.mem_cons_self ..)
    obtain ⟨b, hbn⟩ : ∃ b : Nat, r.blk = b := ⟨r.blk.toNat, by omega⟩
    have hread : r.kind ≠ 6 → ins[b]? = ins'[b]? := fun h6 => by
      apply ha
      cases hs : (st b).1 with
      | true => exact .inr rfl
      | false =>
        left
        rw [List.foldl_cons]
        exact (touch_mono b l _).2 (by simp [-getElem?_pos, touchS, hbn, h6, hs])
    refine ⟨?_, rd_same l (wrS ins r) (wrS ins' r) (fun n => touchS n (st n) r) (fun q hq => hb q (List.mem_cons_of_mem _ hq)) (by unfold wrS; split <;> simp [-getElem?_pos, hl]) (fun n hn => ?_) h2⟩
    · rcases h1 with h1 | h1
      · exact .inl h1
      · by_cases h6 : r.kind = 6
        · exact .inl h6
        · right
          rw [← h1]
          exact (atM_eq (by rw [hbn, Int.toNat_natCast]; exact hread h6)).symm
    · by_cases h6 : r.kind = 6
      · unfold wrS
        rw [if_pos h6, if_pos h6, hbn, Int.toNat_natCast]
        by_cases e : b = n
        · subst e; rw [List.getElem?_set, List.getElem?_set, hl]; simp [-getElem?_pos]
        · rw [List.getElem?_set_ne e, List.getElem?_set_ne e]
          have hst : touchS n (st n) r = st n := by simp [-getElem?_pos, touchS, hbn]; intro q; omega
          rw [hst] at hn
          apply ha
          rw [List.foldl_cons, hst]; exact hn
      · rw [show wrS ins r = ins from by simp [-getElem?_pos, wrS, h6], show wrS ins' r = ins' from by simp [-getElem?_pos, wrS, h6]]
        apply ha
        rw [List.foldl_cons]
        rcases hn with q | q
        · exact .inl q
        · right
          unfold touchS at q
          split at q
          · exact q
          · simp [-getElem?_pos, h6] at q; exact q

theorem wr_len : ∀ (l : List RowD) (ins : MapD), (wrD l ins).length = ins.length
  | [], _ => rfl
  | r :: l, ins => by
    show (wrD l (wrS ins r)).length = _
    rw [wr_len l]
    unfold wrS
    split <;> simp [-getElem?_pos]

/-- Blocks of rows that are not bad. -/
theorem blk_of (h : l.any (badB m) = false) : ∀ r ∈ l, 0 ≤ r.blk ∧ r.blk < m := fun r hr => by
  have := List.any_eq_false.1 h r hr
  simp [-getElem?_pos, badB] at this
  omega

theorem touch_far {n : Int} (h : l.any (badB m) = false) (hn : m ≤ n) : touchD l n = (false, false) := by
  unfold touchD
  have key : ∀ (l : List RowD) (st : Bool × Bool), (∀ r ∈ l, 0 ≤ r.blk ∧ r.blk < m) → l.foldl (touchS n) st = st := fun l => by
    induction l with
    | nil => intro st _; rfl
    | cons r l ih =>
      intro st hb
      have h0 := hb r (List.mem_cons_self ..)
      rw [List.foldl_cons, show touchS n st r = st from by simp [-getElem?_pos, touchS]; intro q; omega]
      exact ih st fun q hq => hb q (List.mem_cons_of_mem _ hq)
  exact key l _ (blk_of h)

theorem no_clash (h : ¬ ClashD a b m) (ha : a.any (badB m) = false) (hb : b.any (badB m) = false) (n : Nat) : clashAt a b n = false := by
  rcases Int.lt_or_le (n : Int) m with hn | hn
  · cases hc : clashAt a b n with
    | false => rfl
    | true => exact absurd ⟨n, hn, hc⟩ h
  · unfold clashAt; rw [touch_far ha hn]; simp [-getElem?_pos]

/-- Two that do not stand in each other's way change places. -/
theorem swap_two (h : ¬ ClashD a b m) (ha : a.any (badB m) = false) (hb : b.any (badB m) = false) (h1 : rdOk b mm) (h2 : rdOk a (wrD b mm)) : rdOk a mm ∧ rdOk b (wrD a mm) ∧ wrD b (wrD a mm) = wrD a (wrD b mm) := by
  have hc := no_clash h ha hb
  have ba := fun r hr => (blk_of ha r hr).1
  have bb := fun r hr => (blk_of hb r hr).1
  have hk : ∀ n : Nat, ((touchD a n).1 = true → (touchD b n).1 = false ∧ (touchD b n).2 = false) ∧ ((touchD b n).1 = true → (touchD a n).1 = false ∧ (touchD a n).2 = false) := fun n => by
    have := hc n
    unfold clashAt at this
    generalize touchD a n = t1 at this ⊢
    generalize touchD b n = t2 at this ⊢
    obtain ⟨c1, d1⟩ := t1
    obtain ⟨c2, d2⟩ := t2
    cases c1 <;> cases d1 <;> cases c2 <;> cases d2 <;> simp_all [-getElem?_pos]
  refine ⟨?_, ?_, ?_⟩
  · refine rd_same a (wrD b mm) mm (fun _ => (false, false)) ba (wr_len b mm) (fun n hn => ?_) h2
    rcases hn with hn | hn
    · refine wr_not n b mm (false, false) bb ?_
      cases hw : (touchD b n).1 with
      | false => exact hw
      | true => have := ((hk n).2 hw).2; rw [show (touchD a n).2 = true from hn] at this; cases this
    · cases hn
  · refine rd_same b mm (wrD a mm) (fun _ => (false, false)) bb (wr_len a mm).symm (fun n hn => ?_) h1
    rcases hn with hn | hn
    · symm
      refine wr_not n a mm (false, false) ba ?_
      cases hw : (touchD a n).1 with
      | false => exact hw
      | true => have := ((hk n).1 hw).2; rw [show (touchD b n).2 = true from hn] at this; cases this
    · cases hn
  · apply List.ext_getElem?
    intro n
    cases hwa : (touchD a n).1 with
    | true =>
      have hwb := ((hk n).1 hwa).1
      rw [wr_not n b (wrD a mm) (false, false) bb hwb]
      exact wr_yes n a mm (wrD b mm) (false, false) ba (wr_len b mm).symm (.inr rfl) hwa
    | false =>
      rw [wr_not n a (wrD b mm) (false, false) ba hwa]
      cases hwb : (touchD b n).1 with
      | true => exact wr_yes n b (wrD a mm) mm (false, false) bb (wr_len a mm) (.inr rfl) hwb
      | false => rw [wr_not n b (wrD a mm) (false, false) bb hwb, wr_not n b mm (false, false) bb hwb, wr_not n a mm (false, false) ba hwa]

end Go.Proofs.Ythbjfkkjmecaaaa
namespace Go.Proofs.Ythbjfkkjmecaaaa
open Go Go.Vm
set_option linter.unusedVariables false
set_option linter.unusedSimpArgs false

variable {kn : Known} {env : Nat → Option AFunc}

variable {rows l a b : List RowD} {r : RowD} {m : Int} {txs : List TxD} {order pre post : List Int} {mm ins ins' : MapD} {f f' : FindD} {p q : Int} {k : Nat}

theorem okO_swap (h : okO rows m txs (pre ++ p :: q :: post)) : okO rows m txs (pre ++ q :: p :: post) := by
  have hp : (pre ++ q :: p :: post).Perm (pre ++ p :: q :: post) := List.Perm.append_left _ (List.Perm.swap ..)
  exact ⟨hp.nodup_iff.2 h.1, fun x hx => h.2 x (hp.mem_iff.1 hx)⟩

theorem byD_ok (h : byD rows m order = .ok (f, mm)) : (1 ≤ m ∧ m ≤ 64) ∧ ∃ txs, txsD rows = some txs ∧ okO rows m txs order ∧ order.foldl (doTx rows txs) (goodF, zeroM) = (f, (order.foldl (doTx rows txs) (goodF, zeroM)).2) ∧ mm = (order.foldl (doTx rows txs) (goodF, zeroM)).2.take m.toNat := by
  unfold byD at h
  split at h
  · cases h
  · rename_i hm
    split at h
    · cases h
    · rename_i txs ht
      split at h
      · rename_i hok
        simp only [Except.ok.injEq, Prod.mk.injEq] at h
        exact ⟨Classical.byContradiction hm, txs, ht, hok, Prod.ext h.1 rfl, h.2.symm⟩
      · cases h

theorem byD_of (hm : 1 ≤ m ∧ m ≤ 64) (ht : txsD rows = some txs) (hok : okO rows m txs order) : byD rows m order = .ok ((order.foldl (doTx rows txs) (goodF, zeroM)).1, (order.foldl (doTx rows txs) (goodF, zeroM)).2.take m.toNat) := by
  unfold byD
  rw [if_neg (fun h => h hm), ht]
  simp only [if_pos hok]

theorem swap_by (h : byD rows m (pre ++ p :: q :: post) = .ok (f, mm)) (hg : f.good = true) (hc : ∀ txs, txsD rows = some txs → ¬ ClashD (ownAt rows txs q) (ownAt rows txs p) m) : byD rows m (pre ++ q :: p :: post) = .ok (f, mm) := by
  obtain ⟨hm, txs, ht, hok, hf, hmm⟩ := byD_ok h
  rw [byD_of hm ht (okO_swap hok)]
  have hc := hc txs ht
  have ha := (hok.2 q (by simp [-getElem?_pos])).2.2
  have hb := (hok.2 p (by simp [-getElem?_pos])).2.2
  have hfold : (pre ++ q :: p :: post).foldl (doTx rows txs) (goodF, zeroM) = (pre ++ p :: q :: post).foldl (doTx rows txs) (goodF, zeroM) := by
    rw [List.foldl_append, List.foldl_append, List.foldl_cons, List.foldl_cons, List.foldl_cons, List.foldl_cons]
    have hg' : ((pre ++ p :: q :: post).foldl (doTx rows txs) (goodF, zeroM)).1.good = true := by rw [hf]; exact hg
    rw [List.foldl_append, List.foldl_cons, List.foldl_cons] at hg'
    generalize pre.foldl (doTx rows txs) (goodF, zeroM) = st at hg' ⊢
    obtain ⟨f1, m1⟩ := st
    have g1 := fold_good post _ hg'
    generalize hs : doTx rows txs (f1, m1) p = s1 at g1 hg'
    obtain ⟨f2, m2⟩ := s1
    obtain ⟨k1, k2, k3⟩ := doTx_good g1
    have g2 : (doTx rows txs (f1, m1) p).1.good = true := by rw [hs]; exact k1
    obtain ⟨j1, j2, j3⟩ := doTx_good g2
    rw [hs] at j3
    cases j3
    obtain ⟨s1, s2, s3⟩ := swap_two hc ha hb j2 k2
    rw [doTx_do j1 s1, doTx_do j1 s2, s3, k3]
  rw [hfold, hf, ← hmm]

end Go.Proofs.Ythbjfkkjmecaaaa
