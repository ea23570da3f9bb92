/- The book of transactions as it lies in memory. -/
import Derived.Test.YthbjfkkjmecaaaaT22
set_option linter.unusedVariables false
set_option linter.unusedSimpArgs false
namespace Go.Proofs.Ythbjfkkjmecaaaa
open Go Go.Vm
structure RowC (c : List AVal) (r : RowD) : Prop where
  len : c.length = 41
  a0 : c[0]? = some (vi r.kind)
  a1 : c[1]? = some (vu r.life)
  a2 : c[2]? = some (vi r.actor)
  a3 : c[3]? = some (vu r.ticket)
  a4 : c[4]? = some (vi r.blk)
  av : (c.drop 5).take 32 = r.val
  a37 : c[37]? = some (vu r.pos)
  a38 : c[38]? = some (vi r.cnt)
  a39 : c[39]? = some (vi r.err)
  isv : IsVal r.val
  one : c.all AVal.one = true
def txc (x : TxD) (sv rv wv : AVal) : List AVal := [vi x.client, vu x.life, vu x.ticket, sv, rv, wv, vi x.begun, vi x.asked, vi x.commit, vu x.pos, vi x.done, vi x.fate]
def Lies (N : Nat) (H : AHeap) (o : Nat → Nat) (t : Nat) (v : AVal) : Prop := v.lies fun R => N ≤ R ∧ R < H.next ∧ o R = t
def SetV (H : AHeap) (N : Nat) (v : AVal) (l : List Int) : Prop := SliceE H N 1 v (l.map fun n => [vi n]) ∨ (l = [] ∧ ∃ R, v = .slice R 0 0 0 0 true 1 ∧ H.get R = some (.row [some (0, [])]))
structure TxAt (H : AHeap) (N : Nat) (o : Nat → Nat) (i : Nat) (e : List AVal) (x : TxD) (sv rv wv : AVal) : Prop where
  eq : e = txc x sv rv wv
  set : SetV H N sv x.set
  setL : Lies N H o (3 * i + 3) sv
  reads : SliceE H N 34 rv (x.reads.map ReadD.cells)
  readsL : Lies N H o (3 * i + 4) rv
  writes : SliceE H N 33 wv (x.writes.map ImgD.cells)
  writesL : Lies N H o (3 * i + 5) wv
  rvals : ∀ r ∈ x.reads, IsVal r.val
  wvals : ∀ w ∈ x.writes, IsVal w.val
def TxsAt (H : AHeap) (N : Nat) (o : Nat → Nat) (tvs : List (List AVal)) (b : List TxD) : Prop := tvs.length = b.length ∧ ∀ i e x, tvs[i]? = some e → b[i]? = some x → ∃ sv rv wv, TxAt H N o i e x sv rv wv
structure Bk (H : AHeap) (N B : Nat) (b : List TxD) (tv : AVal) (M : Nat) (es : AEntries) (clock : Nat) (tvs : List (List AVal)) (o : Nat → Nat) : Prop where
  cells : Cells H B [tv, .map M, abool false]
  map : H.get M = some (.map es clock)
  ok : MapOk es clock b
  txs : SliceE H N 12 tv tvs
  txsL : Lies N H o 2 tv
  each : TxsAt H N o tvs b
  oB : o B = 0
  oM : o M = 1
  hB : N ≤ B ∧ B < H.next
  hM : N ≤ M ∧ M < H.next
variable {H H' : AHeap} {N B M clock i : Nat} {b : List TxD} {tv sv rv wv : AVal} {es : AEntries} {tvs : List (List AVal)} {o o' : Nat → Nat} {e : List AVal} {x : TxD}
theorem Lies.move {t : Nat} {v : AVal} (h : Lies N H o t v) (hn : H.next ≤ H'.next) (ho : ∀ A, A < H.next → o' A = o A) : Lies N H' o' t v := fun R ver off len kc ex esz e => by
  obtain ⟨h1, h2, h3⟩ := h R ver off len kc ex esz e
  exact ⟨h1, by omega, by rw [ho R h2, h3]⟩
theorem slice_move {esz t : Nat} {v : AVal} {l : List (List AVal)} (h : SliceE H N esz v l) (hl : Lies N H o t v) (hn : H.next ≤ H'.next) (hg : ∀ A, N ≤ A → A < H.next → o A = t → H'.get A = H.get A) : SliceE H' N esz v l := by
  rcases h with ⟨h0, h | ⟨R, ver, vs, h1, h2, h3, h4, h5⟩⟩
  · exact ⟨h0, .inl h⟩
  · exact ⟨h0, .inr ⟨R, ver, vs, h1, by omega, h3, by rw [hg R h1 h2 (hl _ _ _ _ _ _ _ h3).2.2]; exact h4, h5⟩⟩
theorem SetV.move {t : Nat} {v : AVal} {l : List Int} (h : SetV H N v l) (hl : Lies N H o t v) (hn : H.next ≤ H'.next) (hg : ∀ A, N ≤ A → A < H.next → o A = t → H'.get A = H.get A) : SetV H' N v l := by
  rcases h with h | ⟨h1, R, h2, h3⟩
  · exact .inl (slice_move h hl hn hg)
  · obtain ⟨q1, q2, q3⟩ := hl _ _ _ _ _ _ _ h2
    exact .inr ⟨h1, R, h2, by rw [hg R q1 q2 q3]; exact h3⟩
theorem TxAt.move (h : TxAt H N o i e x sv rv wv) (hn : H.next ≤ H'.next) (hg : ∀ A, N ≤ A → A < H.next → (o A = 3 * i + 3 ∨ o A = 3 * i + 4 ∨ o A = 3 * i + 5) → H'.get A = H.get A) (ho : ∀ A, A < H.next → o' A = o A) : TxAt H' N o' i e x sv rv wv where
  eq := h.eq
  set := h.set.move h.setL hn fun A a b c => hg A a b (.inl c)
  setL := h.setL.move hn ho
  reads := slice_move h.reads h.readsL hn fun A a b c => hg A a b (.inr (.inl c))
  readsL := h.readsL.move hn ho
  writes := slice_move h.writes h.writesL hn fun A a b c => hg A a b (.inr (.inr c))
  writesL := h.writesL.move hn ho
  rvals := h.rvals
  wvals := h.wvals
theorem TxsAt.move (h : TxsAt H N o tvs b) (hn : H.next ≤ H'.next) (hg : ∀ A, N ≤ A → A < H.next → 3 ≤ o A → H'.get A = H.get A) (ho : ∀ A, A < H.next → o' A = o A) : TxsAt H' N o' tvs b :=
  ⟨h.1, fun i e x h1 h2 => let ⟨sv, rv, wv, h3⟩ := h.2 i e x h1 h2; ⟨sv, rv, wv, h3.move hn (fun A a b c => hg A a b (by omega)) ho⟩⟩
theorem Bk.grow (h : Bk H N B b tv M es clock tvs o) (hg : Grow H H') : Bk H' N B b tv M es clock tvs o where
  cells := h.cells.mono (hg.get _ h.hB.2)
  map := by rw [hg.get _ h.hM.2]; exact h.map
  ok := h.ok
  txs := slice_move h.txs h.txsL hg.next fun A _ a _ => hg.get A a
  txsL := h.txsL.move hg.next fun _ _ => rfl
  each := h.each.move hg.next (fun A _ a _ => hg.get A a) fun _ _ => rfl
  oB := h.oB
  oM := h.oM
  hB := ⟨h.hB.1, by have := hg.next; have := h.hB.2; omega⟩
  hM := ⟨h.hM.1, by have := hg.next; have := h.hM.2; omega⟩
theorem Bk.tx (h : Bk H N B b tv M es clock tvs o) {k : Nat} (hx : b[k]? = some x) : ∃ R ver cells sv rv wv, tv = .slice R ver 0 b.length b.length false 12 ∧ N ≤ R ∧ R < H.next ∧ o R = 2 ∧ H.rowAt R ver = some cells ∧ k * 12 + 12 ≤ cells.length ∧
    (∀ f, f < 12 → cells[k * 12 + f]? = (txc x sv rv wv)[f]?) ∧ tvs[k]? = some (txc x sv rv wv) ∧ TxAt H N o k (txc x sv rv wv) x sv rv wv := by
  have hk := (List.getElem?_eq_some_iff.1 hx).1
  have hl := h.each.1
  have he : tvs[k]? = some tvs[k] := List.getElem?_eq_getElem (by omega)
  obtain ⟨sv, rv, wv, ht⟩ := h.each.2 k _ x he hx
  obtain ⟨R, ver, cells, h1, h2, h3, h4, h5, h6, _⟩ := h.txs.load he
  rw [hl] at h1
  rw [ht.eq] at h6 he
  refine ⟨R, ver, cells, sv, rv, wv, h1, h2, h3, (h.txsL _ _ _ _ _ _ _ h1).2.2, h4, h5, h6, he, ?_⟩
  rw [← ht.eq]; exact ht
theorem Bk.live (h : Bk H N B b tv M es clock tvs o) : liveKn 68 [vp B] H = some (liveRes H (es.map fun e => intOf e.2.1)) := by
  have h1 := h.cells.at
  have hc : (∀ e ∈ es, isVi e.2.1 = true ∧ e.2.2 < clock) ∧ es.length ≤ 12 ∧ (es.map (·.2.2)).Nodup ∧ B < H.next ∧ M < H.next :=
    ⟨fun e he => ⟨by obtain ⟨k, _, _, h2⟩ := h.ok.key he; rw [h2]; rfl, h.ok.born e he⟩, by have := h.ok.len; omega, h.ok.nodup, h.hB.2, h.hM.2⟩
  have h2 : liveOf H B = some (es.map fun e => intOf e.2.1) := by
    unfold liveOf
    rw [h1]
    simp only [Option.bind_some, List.getElem?_cons_succ, List.getElem?_cons_zero, h.map]
    rw [if_pos hc]
  simp only [liveKn, if_true, h2, Option.map_some]
theorem liveRes_at (H : AHeap) (l : List Int) : ∃ v H', liveRes H l = (v, H') ∧ Grow H H' ∧ aLenS v = some (vi l.length) ∧ ∀ (j : Nat) (z : Int), (srtI l)[j]? = some z → ∃ R ver cells, v = .slice R ver 0 l.length l.length false 1 ∧ H.next ≤ R ∧ R < H'.next ∧ H'.rowAt R ver = some cells ∧ j < cells.length ∧ cells[j]? = some (vi z) := by
  unfold liveRes
  by_cases h0 : l.length = 0
  · rw [if_pos h0]
    refine ⟨_, _, rfl, ⟨by simp, fun A _ => rfl⟩, by rw [h0]; rfl, fun j z hz => ?_⟩
    have := (List.getElem?_eq_some_iff.1 hz).1
    rw [srtI_len] at this; omega
  · rw [if_neg h0]
    refine ⟨_, _, rfl, ⟨by simp, fun A hA => by rw [AHeap.get_set_ne _ _ (by omega)]; rfl⟩, rfl, fun j z hz => ?_⟩
    have hj := (List.getElem?_eq_some_iff.1 hz).1
    refine ⟨_, _, (srtI l).map vi, rfl, by omega, by simp; omega, ?_, by simpa using hj, by rw [List.getElem?_map, hz]; rfl⟩
    rw [rowAt_eq, AHeap.get_set_same]
    simp only [rowOf]
    rw [List.getElem?_append_right (by simp)]
    simp
end Go.Proofs.Ythbjfkkjmecaaaa
