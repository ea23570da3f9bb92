/- The abstract machine, part 30: inputs, opened: what reads as data lies as objects that are only read. -/
import Derived.Test.YthbjfkkjmecaaaaT13
import Derived.OpenShut
import Derived.ChangeArms
import Derived.Test.YthbjfkkjmecaaaaT15
import Derived.Test.YthbjfkkjmecaaaaT16
set_option linter.unusedVariables false
set_option linter.unusedSimpArgs false
namespace Go.Vm
open Go
variable {P : Program} {w : World} {X : Type}
structure Opened (w : World) (ρ : Ren) (H : AHeap) : Prop where
  fresh : ∀ A v, H.next ≤ A → ρ A v = none
  wf : ∀ A, H.next ≤ A → H.get A = none
  obj : ∀ A o, H.get A = some o → ∃ cells, o = .ro cells ∧ Single ρ A ∧ ∃ l, ρ A 0 = some l ∧ RowAt ρ w l cells
  dom : ∀ A v l, ρ A v = some l → (∃ o, H.get A = some o) ∧ l.c < w.heap.size
def reads (w : World) : Base := { ρ := fun _ _ => none, own := fun _ => False, ro := fun _ _ _ => True, w := w }
theorem Opened.isRo {ρ : Ren} {H : AHeap} (h : Opened w ρ H) {A v : Nat} {l : Loc} (hl : ρ A v = some l) : isRo H A := by
  obtain ⟨⟨o, ho⟩, _⟩ := h.dom A v l hl
  obtain ⟨cells, rfl, _⟩ := h.obj A o ho
  exact ⟨cells, ho⟩
theorem Opened.hrel {ρ : Ren} {H : AHeap} (h : Opened w ρ H) : HRel P (reads w) ρ H w where
  le := fun A v l h => by cases h
  fresh := h.fresh
  wf := h.wf
  dom := fun A v l hl => (h.dom A v l hl).1
  obj := fun A o ho => by
    obtain ⟨cells, rfl, h1, h2⟩ := h.obj A o ho
    exact ⟨h1, h2⟩
  sep := fun A1 A2 v1 v2 l1 l2 e1 e2 _ => .inr ⟨h.isRo e1, h.isRo e2⟩
  own := fun A v l hl hr => (hr (h.isRo hl)).elim
  lt := fun A v l hl => (h.dom A v l hl).2
  size := Nat.le_refl _
  frame := fun _ _ _ => rfl
  side := Side.refl _
  ro := fun _ _ _ _ _ => trivial
theorem HRel.grownR {ρ : Ren} {H : AHeap} {w w' : World} (h : HRel P (reads w) ρ H w') : Go.RowKit.Grown w w' := by
  refine ⟨⟨h.side.os, h.side.out, fun i hi => ?_⟩, h.side.fz, h.size⟩
  rw [h.frame i hi (fun x => x)]
  have : ∃ o, (reads w).w.heap[i]? = some o := ⟨w.heap[i], Array.getElem?_eq_getElem hi⟩
  obtain ⟨o, ho⟩ := this
  have ho' : w.heap[i]? = some o := ho
  rw [ho, ho']
  cases o <;> simp
theorem Opened.empty (w : World) : Opened w (fun _ _ => none) .empty where
  fresh := fun _ _ _ => rfl
  wf := fun A _ => AHeap.get_empty A
  obj := fun A o h => by rw [AHeap.get_empty] at h; cases h
  dom := fun A v l h => by cases h
theorem Opened.add {ρ : Ren} {H : AHeap} (h : Opened w ρ H) {c s : Nat} {arr : Array Value} {e : TypeId} {fz : Nat × Nat} (hw : w.heap[c]? = some (.cells arr e fz)) {cells : List AVal} (hc : CellsAt ρ arr s cells) :
    Opened w (ρ.put H.next 0 ⟨c, s, arr.size⟩) (H.push (.ro cells)) ∧ ρ.le (ρ.put H.next 0 ⟨c, s, arr.size⟩) := by
  have hn : ρ H.next 0 = none := h.fresh _ _ (Nat.le_refl _)
  have hle := Ren.put_le (l := ⟨c, s, arr.size⟩) hn
  refine ⟨⟨fun A v hA => ?_, fun A hA => ?_, fun A o ho => ?_, fun A v l hl => ?_⟩, hle⟩
  · simp at hA
    rw [Ren.put_ne _ _ (by omega)]; exact h.fresh A v (by omega)
  · simp at hA
    rw [AHeap.get_push_ne _ _ (by omega)]; exact h.wf A (by omega)
  · by_cases e' : A = H.next
    · subst e'
      rw [AHeap.get_push_same] at ho; cases ho
      refine ⟨cells, rfl, fun v hv => by rw [Ren.put_ne _ _ (by omega)]; exact h.fresh _ _ (Nat.le_refl _), _, Ren.put_same _ _ _ _, arr, e, fz, hw, rfl, hc.mono hle⟩
    · rw [AHeap.get_push_ne _ _ e'] at ho
      obtain ⟨cs, rfl, h1, l, h2, arr', e2, fz2, h3, h4, h5⟩ := h.obj A o ho
      refine ⟨cs, rfl, fun v hv => by rw [Ren.put_ne _ _ (by omega)]; exact h1 v hv, l, by rw [Ren.put_ne _ _ (by omega)]; exact h2, arr', e2, fz2, h3, h4, h5.mono hle⟩
  · by_cases e' : A = H.next ∧ v = 0
    · obtain ⟨rfl, rfl⟩ := e'
      rw [Ren.put_same] at hl; cases hl
      exact ⟨⟨_, AHeap.get_push_same _ _⟩, (Array.getElem?_eq_some_iff.1 hw).1⟩
    · rw [Ren.put_ne _ _ e'] at hl
      obtain ⟨⟨o, ho⟩, h2⟩ := h.dom A v l hl
      refine ⟨⟨o, ?_⟩, h2⟩
      rw [AHeap.get_push_ne _ _ (fun e => by rw [e, h.wf _ (Nat.le_refl _)] at ho; cases ho)]; exact ho
def shows (P : Program) (H : AHeap) : Nat → TypeId → List AVal → DataW X → Prop
  | 0, _, _, _ => False
  | n + 1, t, cs, d =>
    match P.underlying t with
    | some .bool => ∃ b, cs = [.raw (.bool b)] ∧ d = .lit (.bool b)
    | some (.int k) => ∃ m, cs = [.raw (.int k m)] ∧ d = .lit (.int k m) ∧ (Lit.int k m).wf = true
    | some .string => ∃ s : ByteArray, cs = [.raw (.string s)] ∧ d = .lit (.string s.data.toList) ∧ s.size ≤ maxLen
    | some (.slice e) => (cs = [anil] ∧ d = .nil) ∨ ∃ (A : Nat) (acss : List (List AVal)) (es sp : List (DataW X)), cs = [.slice A 0 0 es.length (es.length + sp.length) true (P.cellsOf e)] ∧ d = .slice es sp ∧ H.get A = some (.ro acss.flatten) ∧ es.length + sp.length ≤ maxLen ∧
        acss.length = es.length + sp.length ∧ ∀ (i : Nat) (x : DataW X) (acs : List AVal), (es ++ sp)[i]? = some x → acss[i]? = some acs → acs.length = P.cellsOf e ∧ shows P H n e acs x
    | some (.struct fs) => ∃ (acss : List (List AVal)) (ds : List (DataW X)), cs = acss.flatten ∧ d = .agg ds ∧ acss.length = fs.size ∧ ds.length = fs.size ∧ ∀ (i : Nat) (f : Field) (x : DataW X) (acs : List AVal), fs[i]? = some f → ds[i]? = some x → acss[i]? = some acs → acs.length = P.cellsOf f.type ∧ shows P H n f.type acs x
    | some (.array k e) => ∃ (acss : List (List AVal)) (ds : List (DataW X)), cs = acss.flatten ∧ d = .agg ds ∧ acss.length = k ∧ ds.length = k ∧ ∀ (i : Nat) (x : DataW X) (acs : List AVal), ds[i]? = some x → acss[i]? = some acs → acs.length = P.cellsOf e ∧ shows P H n e acs x
    | _ => True
def Keeps (H H' : AHeap) : Prop := ∀ A cells, H.get A = some (.ro cells) → H'.get A = some (.ro cells)
theorem Keeps.refl (H : AHeap) : Keeps H H := fun _ _ h => h
theorem Keeps.trans {H H' H'' : AHeap} (h : Keeps H H') (h' : Keeps H' H'') : Keeps H H'' := fun A c hA => h' A c (h A c hA)
theorem shows_mono {H H' : AHeap} (hk : Keeps H H') : ∀ (n : Nat) (t : TypeId) (cs : List AVal) (d : DataW X), shows P H n t cs d → shows P H' n t cs d
  | 0, _, _, _, h => h
  | n + 1, t, cs, d, h => by
    unfold shows at h ⊢
    split
    · rename_i ht; rw [ht] at h; exact h
    · rename_i ht; rw [ht] at h; exact h
    · rename_i ht; rw [ht] at h; exact h
    · rename_i e ht
      rw [ht] at h
      rcases h with h | ⟨A, acss, es, sp, h1, h2, h3, h4, h5, h6⟩
      · exact .inl h
      · exact .inr ⟨A, acss, es, sp, h1, h2, hk _ _ h3, h4, h5, fun i x acs a b => ⟨(h6 i x acs a b).1, shows_mono hk n _ _ _ (h6 i x acs a b).2⟩⟩
    · rename_i fs ht
      rw [ht] at h
      obtain ⟨acss, ds, h1, h2, h3, h4, h5⟩ := h
      exact ⟨acss, ds, h1, h2, h3, h4, fun i f x acs a b c => ⟨(h5 i f x acs a b c).1, shows_mono hk n _ _ _ (h5 i f x acs a b c).2⟩⟩
    · rename_i k e ht
      rw [ht] at h
      obtain ⟨acss, ds, h1, h2, h3, h4, h5⟩ := h
      exact ⟨acss, ds, h1, h2, h3, h4, fun i x acs a b => ⟨(h5 i x acs a b).1, shows_mono hk n _ _ _ (h5 i x acs a b).2⟩⟩
    · trivial
def fieldsRun (P : Program) (total : Nat) : List Field → Nat → Bool
  | [], o => o == total
  | f :: r, o => f.offset == o && fieldsRun P total r (o + P.cellsOf f.type)
def tiles (P : Program) : Nat → TypeId → Bool
  | 0, _ => false
  | d + 1, t => match P.underlying t with
    | some .bool | some (.int _) | some .string => true
    | some (.slice e) => tiles P d e && Nat.blt 0 (P.cellsOf e)
    | some (.struct fs) => fieldsRun P (P.cellsOf t) fs.toList 0 && fs.toList.all fun f => tiles P d f.type
    | some (.array n e) => n * P.cellsOf e == P.cellsOf t && tiles P d e
    | _ => false
theorem range_flat {α : Type} (cs : List α) (n : Nat) : ∀ k, ((List.range k).map fun i => (cs.drop (i * n)).take n).flatten = cs.take (k * n)
  | 0 => by simp
  | k + 1 => by
    rw [List.range_succ, List.map_append, List.flatten_append, range_flat cs n k]
    simp only [List.map_cons, List.map_nil, List.flatten_cons, List.flatten_nil, List.append_nil]
    rw [Nat.succ_mul, List.take_add]
theorem fields_flat (cs : List Value) : ∀ (fs : List Field) (o : Nat), fieldsRun P cs.length fs o = true → (fs.map fun f => (cs.drop f.offset).take (P.cellsOf f.type)).flatten = cs.drop o
  | [], o, h => by
    simp [fieldsRun] at h
    simp [h]
  | f :: r, o, h => by
    simp only [fieldsRun, Bool.and_eq_true, beq_iff_eq] at h
    obtain ⟨rfl, h2⟩ := h
    simp only [List.map_cons, List.flatten_cons, fields_flat cs r _ h2]
    rw [← List.drop_drop, List.take_append_drop]
def HasBlock (w : World) : Prop := ∃ (c : Nat) (arr : Array Value) (e : TypeId) (fz : Nat × Nat), w.heap[c]? = some (Obj.cells arr e fz)
variable {enc : TypeId × Value → X} {base : Nat} {held : Bool}
theorem open_list {n d : Nat} (hb : HasBlock w)
    (IH : ∀ (t : TypeId) (cs : List Value) (x : DataW X × List MemPlace) (ρ : Ren) (H : AHeap), tiles P d t = true → Opened w ρ H → DataW.trod enc P w base (fun _ => true) held n t cs = some x →
      ∃ (ρ' : Ren) (H' : AHeap) (acs : List AVal), Opened w ρ' H' ∧ ρ.le ρ' ∧ Keeps H H' ∧ VRels ρ' acs cs ∧ shows P H' n t acs x.1) :
    ∀ (segs : List (TypeId × List Value)) (xs : List (DataW X × List MemPlace)) (ρ : Ren) (H : AHeap), (∀ (i : Nat) t cs, segs[i]? = some (t, cs) → tiles P d t = true ∧ ∃ x, xs[i]? = some x ∧ DataW.trod enc P w base (fun _ => true) held n t cs = some x) → Opened w ρ H →
      ∃ (ρ' : Ren) (H' : AHeap) (acss : List (List AVal)), Opened w ρ' H' ∧ ρ.le ρ' ∧ Keeps H H' ∧ acss.length = segs.length ∧ VRels ρ' acss.flatten (segs.map (·.2)).flatten ∧
        ∀ (i : Nat) t cs x acs, segs[i]? = some (t, cs) → xs[i]? = some x → acss[i]? = some acs → acs.length = cs.length ∧ shows P H' n t acs x.1
  | [], xs, ρ, H, hs, ho => ⟨ρ, H, [], ho, Ren.le_refl _, Keeps.refl _, rfl, .nil, fun i t cs x acs h => by simp at h⟩
  | (t, cs) :: segs, xs, ρ, H, hs, ho => by
    obtain ⟨h1, x, hx, h2⟩ := hs 0 t cs (by simp)
    obtain ⟨ρ1, H1, acs, o1, le1, k1, v1, s1⟩ := IH t cs x ρ H h1 ho h2
    cases xs with
    | nil => simp at hx
    | cons x' xs =>
      simp at hx; subst hx
      obtain ⟨ρ2, H2, acss, o2, le2, k2, n2, v2, s2⟩ := open_list hb IH segs xs ρ1 H1 (fun i t cs h => by simpa using hs (i + 1) t cs (by simpa using h)) o1
      refine ⟨ρ2, H2, acs :: acss, o2, Ren.le_trans le1 le2, k1.trans k2, by simp [n2], by simpa using (v1.mono le2).append v2, fun i t' cs' y acs' a b c => ?_⟩
      cases i with
      | zero =>
        simp at a b c
        obtain ⟨rfl, rfl⟩ := a; subst b; subst c
        exact ⟨v1.length.symm, shows_mono k2 _ _ _ _ s1⟩
      | succ i => exact s2 i t' cs' y acs' (by simpa using a) (by simpa using b) (by simpa using c)
theorem cells_block {a : Addr} {n : Nat} {cs : List Value} (h : w.cells? base a n = some cs) (hn : 0 < n) : ∃ (arr : Array Value) (e : TypeId) (fz : Nat × Nat), w.heap[a.block]? = some (Obj.cells arr e fz) ∧ a.spot = none ∧ ∀ i, i < n → arr[a.off + i]? = cs[i]? := by
  obtain ⟨_, hl, hc⟩ := World.cells?_some h
  have h0 := hc 0 hn
  have hx : ∃ v, cs[0]? = some v := ⟨cs[0], List.getElem?_eq_getElem (by omega)⟩
  obtain ⟨v, hv⟩ := hx
  rw [hv] at h0
  have e0 : a.add 0 = a := by simp [Addr.add]
  rw [e0] at h0
  have hs := World.cell?_spot h0
  unfold World.cell? at h0
  split at h0
  · rename_i c e fz hb
    refine ⟨c, e, fz, hb, hs, fun i hi => ?_⟩
    rw [← hc i hi]
    unfold World.cell? Addr.add
    by_cases hi0 : i = 0
    · subst hi0; simp [hb, hs]
    · simp [hi0, hb]
  · cases h0
theorem open_cells (hb : HasBlock w) : ∀ (n d : Nat) (t : TypeId) (cs : List Value) (x : DataW X × List MemPlace) (ρ : Ren) (H : AHeap), tiles P d t = true → Opened w ρ H → DataW.trod enc P w base (fun _ => true) held n t cs = some x →
      ∃ (ρ' : Ren) (H' : AHeap) (acs : List AVal), Opened w ρ' H' ∧ ρ.le ρ' ∧ Keeps H H' ∧ VRels ρ' acs cs ∧ shows P H' n t acs x.1
  | 0, _, _, _, _, _, _, _, _, h => by simp [DataW.trod] at h
  | n + 1, 0, _, _, _, _, _, ht, _, _ => by simp [tiles] at ht
  | n + 1, d + 1, t, cs, x, ρ, H, ht, ho, h => by
    have IH := fun t cs x ρ H => open_cells hb n d t cs x ρ H
    unfold tiles at ht
    split at ht
    · rename_i hu
      obtain ⟨b, rfl, rfl⟩ := DataW.trod_bool hu h
      exact ⟨ρ, H, [.raw (.bool b)], ho, Ren.le_refl _, Keeps.refl _, .cons (.raw _) .nil, by unfold shows; rw [hu]; exact ⟨b, rfl, rfl⟩⟩
    · rename_i k hu
      obtain ⟨m, rfl, rfl, hw⟩ := DataW.trod_int hu h
      exact ⟨ρ, H, [.raw (.int k m)], ho, Ren.le_refl _, Keeps.refl _, .cons (.raw _) .nil, by unfold shows; rw [hu]; exact ⟨m, rfl, rfl, hw⟩⟩
    · rename_i hu
      obtain ⟨s, rfl, rfl, hw⟩ := DataW.trod_string hu h
      exact ⟨ρ, H, [.raw (.string s)], ho, Ren.le_refl _, Keeps.refl _, .cons (.raw _) .nil, by unfold shows; rw [hu]; exact ⟨s, rfl, rfl, hw⟩⟩
    · rename_i e hu
      simp only [Bool.and_eq_true, Nat.blt_eq] at ht
      obtain ⟨ht, hpos⟩ := ht
      rcases DataW.trod_slice hu h with ⟨rfl, rfl⟩ | ⟨a, len, cap, elems, rest, m, hm, rfl, rfl, _, hl, hcap, hlen, hel, hsp, _⟩
      · exact ⟨ρ, H, [anil], ho, Ren.le_refl _, Keeps.refl _, .cons (.raw _) .nil, by unfold shows; rw [hu]; exact .inl ⟨rfl, rfl⟩⟩
      · cases hm
        obtain ⟨hr1, hr2⟩ := hsp rfl
        have hall : ∀ i, i < cap → ∃ ccs y, w.cells? base (a.add (i * P.cellsOf e)) (P.cellsOf e) = some ccs ∧ (elems ++ rest)[i]? = some y ∧ DataW.trod enc P w base (fun _ => true) held n e ccs = some y := fun i hi => by
          by_cases h1 : i < len
          · have := hel i h1
            have hy : elems[i]? = some elems[i] := List.getElem?_eq_getElem (by omega)
            rw [hy, Option.bind_eq_some_iff] at this
            obtain ⟨ccs, e1, e2⟩ := this
            exact ⟨ccs, _, e1, by rw [List.getElem?_append_left (by omega)]; exact hy, e2⟩
          · have := hr2 (i - len) (by omega)
            have hy : rest[i - len]? = some rest[i - len] := List.getElem?_eq_getElem (by omega)
            rw [hy, Option.bind_eq_some_iff, show len + (i - len) = i by omega] at this
            obtain ⟨ccs, e1, e2⟩ := this
            exact ⟨ccs, _, e1, by rw [List.getElem?_append_right (by omega), hlen]; exact hy, e2⟩
        by_cases hc0 : cap = 0
        · -- no cells: a name for some block
          subst hc0
          obtain ⟨c, arr, e', fz, hblk⟩ := hb
          obtain ⟨o1, le1⟩ := ho.add hblk (s := 0) (cells := []) (fun i v hv => by simp at hv)
          have hl0 : len = 0 := by omega
          subst hl0
          have he : elems = [] := List.eq_nil_of_length_eq_zero hlen
          have hr : rest = [] := List.eq_nil_of_length_eq_zero (by omega)
          subst he; subst hr
          refine ⟨_, _, [.slice H.next 0 0 0 0 true (P.cellsOf e)], o1, le1, fun A cells hA => ?_, .cons (.sliceE (Ren.put_same _ _ _ _)) .nil, ?_⟩
          · rw [AHeap.get_push_ne _ _ (fun e => by rw [e, ho.wf _ (Nat.le_refl _)] at hA; cases hA)]; exact hA
          · unfold shows; rw [hu]
            exact .inr ⟨H.next, [], [], [], rfl, rfl, AHeap.get_push_same _ _, by simp [maxLen], rfl, fun i x acs h => by simp at h⟩
        · -- the elements, one by one
          have hsk : ∃ g : Nat → List Value, ∀ i, i < cap → w.cells? base (a.add (i * P.cellsOf e)) (P.cellsOf e) = some (g i) ∧ ∃ y, (elems ++ rest)[i]? = some y ∧ DataW.trod enc P w base (fun _ => true) held n e (g i) = some y := by
            refine ⟨fun i => if hi : i < cap then (hall i hi).choose else [], fun i hi => ?_⟩
            simp only [hi, dif_pos]
            obtain ⟨y, h1, h2, h3⟩ := (hall i hi).choose_spec
            exact ⟨h1, y, h2, h3⟩
          obtain ⟨g, hg⟩ := hsk
          obtain ⟨ρ1, H1, acss, o1, le1, k1, n1, v1, s1⟩ := open_list hb IH ((List.range cap).map fun i => (e, g i)) (elems ++ rest) ρ H (fun i t cs hi => by
            rw [List.getElem?_map] at hi
            have hlt : i < cap := by
              rcases Nat.lt_or_ge i cap with h | h
              · exact h
              · rw [List.getElem?_eq_none (by simpa using h)] at hi; cases hi
            rw [List.getElem?_range hlt] at hi
            simp at hi
            obtain ⟨rfl, rfl⟩ := hi
            obtain ⟨_, y, h2, h3⟩ := hg i hlt
            exact ⟨ht, y, h2, h3⟩) ho
          simp only [List.length_map, List.length_range] at n1
          have hblk := cells_block (hg 0 (by omega)).1 hpos
          rw [show a.add (0 * P.cellsOf e) = a by simp [Addr.add]] at hblk
          obtain ⟨arr, e', fz, hw, hspot, _⟩ := hblk
          have hcells : ∀ i, i < cap → ∀ j, j < P.cellsOf e → arr[a.off + (i * P.cellsOf e + j)]? = (g i)[j]? := fun i hi j hj => by
            obtain ⟨arr', e2, fz2, hw2, _, hcc⟩ := cells_block (hg i hi).1 hpos
            have eb : (a.add (i * P.cellsOf e)).block = a.block := by unfold Addr.add; split <;> rfl
            have eo : (a.add (i * P.cellsOf e)).off = a.off + i * P.cellsOf e := by unfold Addr.add; split <;> simp_all
            rw [eb, hw] at hw2
            cases hw2
            rw [← hcc j hj, eo]; congr 1; omega
          have glen : ∀ i, i < cap → (g i).length = P.cellsOf e := fun i hi => (World.cells?_some (hg i hi).1).2.1
          have hflat : ((List.range cap).map fun i => (e, g i)).map (·.2) = (List.range cap).map g := by simp [Function.comp_def]
          rw [hflat] at v1
          have hat : ∀ (k : Nat), k ≤ cap → ∀ q (v : Value), (((List.range k).map g).flatten)[q]? = some v → arr[a.off + q]? = some v := fun k => by
            induction k with
            | zero => intro _ q v h; simp at h
            | succ k ih =>
              intro hk q v hq
              have hlen' : (((List.range k).map g).flatten).length = k * P.cellsOf e := by
                have : ∀ k, k ≤ cap → (((List.range k).map g).flatten).length = k * P.cellsOf e := fun k => by
                  induction k with
                  | zero => intro _; simp
                  | succ k ih => intro hk; rw [List.range_succ, List.map_append, List.flatten_append, List.length_append, ih (by omega)]; simp [glen k (by omega), Nat.succ_mul]
                exact this k (by omega)
              rw [List.range_succ, List.map_append, List.flatten_append] at hq
              rcases Nat.lt_or_ge q (k * P.cellsOf e) with hlt | hge
              · rw [List.getElem?_append_left (by omega)] at hq
                exact ih (by omega) q v hq
              · rw [List.getElem?_append_right (by omega), hlen'] at hq
                simp only [List.map_cons, List.map_nil, List.flatten_cons, List.flatten_nil, List.append_nil] at hq
                have hj : q - k * P.cellsOf e < P.cellsOf e := by
                  have := (List.getElem?_eq_some_iff.1 hq).1
                  rw [glen k (by omega)] at this; exact this
                rw [← hcells k (by omega) _ hj] at hq
                rw [← hq]; congr 1; omega
          have hcat : CellsAt ρ1 arr a.off acss.flatten := fun q v hv => by
            obtain ⟨cv, h1, h2⟩ := v1.get q v hv
            exact ⟨cv, hat cap (Nat.le_refl _) q cv h1, h2⟩
          obtain ⟨o2, le2⟩ := o1.add hw hcat
          have htot : (((List.range cap).map g).flatten).length = cap * P.cellsOf e := by
            have : ∀ k, k ≤ cap → (((List.range k).map g).flatten).length = k * P.cellsOf e := fun k => by
              induction k with
              | zero => intro _; simp
              | succ k ih => intro hk; rw [List.range_succ, List.map_append, List.flatten_append, List.length_append, ih (by omega)]; simp [glen k (by omega), Nat.succ_mul]
            exact this cap (Nat.le_refl _)
          have hbound : a.off + cap * P.cellsOf e ≤ arr.size := by
            have hpos' : 0 < cap * P.cellsOf e := Nat.mul_pos (by omega) hpos
            have hx : (((List.range cap).map g).flatten)[cap * P.cellsOf e - 1]? = some (((List.range cap).map g).flatten)[cap * P.cellsOf e - 1] := List.getElem?_eq_getElem (by omega)
            have := (Array.getElem?_eq_some_iff.1 (hat cap (Nat.le_refl _) _ _ hx)).1
            omega
          have hk2 : Keeps H1 (H1.push (.ro acss.flatten)) := fun A cells hA => by
            rw [AHeap.get_push_ne _ _ (fun e => by rw [e, o1.wf _ (Nat.le_refl _)] at hA; cases hA)]; exact hA
          have hlr : elems.length + rest.length = cap := by omega
          refine ⟨_, _, [.slice H1.next 0 0 elems.length (elems.length + rest.length) true (P.cellsOf e)], o2, Ren.le_trans le1 le2, k1.trans hk2, .cons ?_ .nil, ?_⟩
          · obtain ⟨ab, ao, asp⟩ := a
            simp only at hspot
            subst hspot
            rw [hlr, hlen]
            have := VRel.slice (ρ := ρ1.put H1.next 0 ⟨ab, ao, arr.size⟩) (A := H1.next) (ver := 0) (off := 0) (len := len) (kcap := cap) (ex := true) (esz := P.cellsOf e) (cap := cap) (Ren.put_same _ _ _ _) (Nat.le_refl _) hl (fun _ => rfl) (by simpa using hbound)
            simpa using this
          · unfold shows; rw [hu]
            refine .inr ⟨H1.next, acss, elems.map (·.1), rest.map (·.1), by simp, rfl, AHeap.get_push_same _ _, by simp; omega, by simp; omega, fun i y acs hy hacs => ?_⟩
            have hi : i < cap := by have := (List.getElem?_eq_some_iff.1 hacs).1; omega
            obtain ⟨_, z, hz1, hz2⟩ := hg i hi
            have hy' : y = z.1 := by
              rw [← List.map_append, List.getElem?_map, hz1] at hy
              simpa using hy.symm
            obtain ⟨q1, q2⟩ := s1 i e (g i) z acs (by rw [List.getElem?_map, List.getElem?_range hi]; rfl) hz1 hacs
            rw [hy']
            exact ⟨by rw [q1, glen i hi], shows_mono hk2 _ _ _ _ q2⟩
    · rename_i fs hu
      simp only [Bool.and_eq_true, List.all_eq_true] at ht
      obtain ⟨htr, htf⟩ := ht
      obtain ⟨xs, m, hm, rfl, hcl, hxl, hf⟩ := DataW.trod_struct hu h
      cases hm
      obtain ⟨ρ1, H1, acss, o1, le1, k1, n1, v1, s1⟩ := open_list hb IH (fs.toList.map fun f => (f.type, (cs.drop f.offset).take (P.cellsOf f.type))) xs ρ H (fun i t' cs' hi => by
        rw [List.getElem?_map] at hi
        obtain ⟨f, hfi, he⟩ := Option.map_eq_some_iff.1 hi
        cases he
        have hfi' : fs[i]? = some f := by simpa using hfi
        have hlt : i < fs.size := (Array.getElem?_eq_some_iff.1 hfi').1
        have hx : xs[i]? = some xs[i] := List.getElem?_eq_getElem (by omega)
        exact ⟨htf f (by rw [← Array.mem_def]; exact Array.mem_of_getElem? hfi'), xs[i], hx, by rw [hf i f hfi', hx]⟩) ho
      have hfl := fields_flat (P := P) cs fs.toList 0 (by rw [hcl]; exact htr)
      have hmm : ((fs.toList.map fun f => (f.type, (cs.drop f.offset).take (P.cellsOf f.type))).map (·.2)) = fs.toList.map fun f => (cs.drop f.offset).take (P.cellsOf f.type) := by simp [Function.comp_def]
      rw [hmm, hfl] at v1
      refine ⟨ρ1, H1, acss.flatten, o1, le1, k1, by simpa using v1, ?_⟩
      unfold shows; rw [hu]
      refine ⟨acss, xs.map (·.1), rfl, rfl, by simpa using n1, by simpa using hxl, fun i f y acs hfi hy hacs => ?_⟩
      have hlt : i < fs.size := (Array.getElem?_eq_some_iff.1 hfi).1
      have hx : xs[i]? = some xs[i] := List.getElem?_eq_getElem (by omega)
      have hy' : y = xs[i].1 := by rw [List.getElem?_map, hx] at hy; simpa using hy.symm
      obtain ⟨q1, q2⟩ := s1 i f.type ((cs.drop f.offset).take (P.cellsOf f.type)) xs[i] acs (by rw [List.getElem?_map]; simp [hfi]) hx hacs
      rw [hy']
      refine ⟨?_, q2⟩
      rw [q1]
      -- the part's length is the type's
      have : ∀ (fs : List Field) (o i : Nat) (f : Field), fieldsRun P cs.length fs o = true → fs[i]? = some f → f.offset + P.cellsOf f.type ≤ cs.length ∧ o ≤ cs.length := fun fs => by
        induction fs with
        | nil => intro o i f h hi; simp at hi
        | cons g r ih =>
          intro o i f h hi
          simp only [fieldsRun, Bool.and_eq_true, beq_iff_eq] at h
          obtain ⟨rfl, h2⟩ := h
          have hle : g.offset + P.cellsOf g.type ≤ cs.length := by
            cases r with
            | nil => simp [fieldsRun] at h2; omega
            | cons g2 r2 => exact (ih _ 0 g2 h2 (by simp)).2
          cases i with
          | zero => simp at hi; subst hi; exact ⟨hle, by omega⟩
          | succ i => exact ⟨(ih _ i f h2 (by simpa using hi)).1, by omega⟩
      have := (this fs.toList 0 i f (by rw [hcl]; exact htr) (by simpa using hfi)).1
      rw [List.length_take, List.length_drop]; omega
    · rename_i k e hu
      simp only [Bool.and_eq_true, beq_iff_eq] at ht
      obtain ⟨hn, ht⟩ := ht
      obtain ⟨xs, m, hm, rfl, hcl, hxl, hf⟩ := DataW.trod_array hu h
      cases hm
      obtain ⟨ρ1, H1, acss, o1, le1, k1, n1, v1, s1⟩ := open_list hb IH ((List.range k).map fun i => (e, (cs.drop (i * P.cellsOf e)).take (P.cellsOf e))) xs ρ H (fun i t' cs' hi => by
        rw [List.getElem?_map] at hi
        obtain ⟨j, hj, he⟩ := Option.map_eq_some_iff.1 hi
        cases he
        have hlt : i < k := by
          have := (List.getElem?_eq_some_iff.1 hj).1
          simpa using this
        rw [List.getElem?_range hlt] at hj
        cases hj
        have hx : xs[i]? = some xs[i] := List.getElem?_eq_getElem (by omega)
        exact ⟨ht, xs[i], hx, by rw [hf i hlt, hx]⟩) ho
      have hmm : (((List.range k).map fun i => (e, (cs.drop (i * P.cellsOf e)).take (P.cellsOf e))).map (·.2)) = (List.range k).map fun i => (cs.drop (i * P.cellsOf e)).take (P.cellsOf e) := by simp [Function.comp_def]
      rw [hmm, range_flat, hn, ← hcl, List.take_length] at v1
      refine ⟨ρ1, H1, acss.flatten, o1, le1, k1, v1, ?_⟩
      unfold shows; rw [hu]
      refine ⟨acss, xs.map (·.1), rfl, rfl, by simpa using n1, by simpa using hxl, fun i y acs hy hacs => ?_⟩
      have hlt : i < k := by have := (List.getElem?_eq_some_iff.1 hacs).1; simp at n1; omega
      have hx : xs[i]? = some xs[i] := List.getElem?_eq_getElem (by omega)
      have hy' : y = xs[i].1 := by rw [List.getElem?_map, hx] at hy; simpa using hy.symm
      obtain ⟨q1, q2⟩ := s1 i e _ xs[i] acs (by rw [List.getElem?_map, List.getElem?_range hlt]; rfl) hx hacs
      rw [hy']
      refine ⟨?_, q2⟩
      rw [q1]
      have : (i + 1) * P.cellsOf e ≤ k * P.cellsOf e := Nat.mul_le_mul_right _ hlt
      rw [Nat.succ_mul] at this
      rw [List.length_take, List.length_drop]; omega
    · cases ht
end Go.Vm
namespace Go.Vm
open Go
abbrev vi (n : Int) : AVal := .raw (.int .i64 n)
abbrev vu (n : Int) : AVal := .raw (.int .u64 n)
abbrev v8 (n : Int) : AVal := .raw (.int .u8 n)
abbrev vp (A : Nat) : AVal := .ptr A 0 0
theorem wrapU {n : Int} (h0 : 0 ≤ n) (h1 : n < 18446744073709551616) : wrapF .u64 n = n := Int.emod_eq_of_lt h0 h1
theorem wrapI {n : Int} (h0 : -9223372036854775808 ≤ n) (h1 : n < 9223372036854775808) : wrapF .i64 n = n := by
  simp only [wrapF, ile_eq, decide_eq_true_eq]; omega
def fstC : ACode → ACode | .seq a _ => a | .cond _ a _ => a | .block _ a => a | .loop a => a | c => c
def sndC : ACode → ACode | .seq _ b => b | .cond _ _ b => b | c => c
def endF (res : List ARes) : Option (Exit × ASt) → Option (AVal × AHeap)
  | some (.normal, s) => (aLeave s.marks s.H).bind fun H' => (aRess s.tm H' res).map fun vs => (tup vs, H')
  | some (.ret, s) => (aLeave s.marks s.H).bind fun H' => (aRess s.tm H' res).map fun vs => (tup vs, H')
  | _ => none
def initTm (af : AFunc) (args : List AVal) : List AVal := args ++ List.replicate (af.ntmps - args.length) aundef
theorem initTm_len {af : AFunc} {args : List AVal} (h : args.length ≤ af.ntmps) : (initTm af args).length = af.ntmps := by simp [initTm]; omega
theorem initTm_at {af : AFunc} {args : List AVal} {k : Nat} {v : AVal} (h : args[k]? = some v) : (initTm af args)[k]? = some v := by
  unfold initTm
  rw [List.getElem?_append_left (List.getElem?_eq_some_iff.1 h).1]; exact h
theorem opnM {kn : Known} {env : Nat → Option AFunc} {f : Nat} {af : AFunc} (h : env f = some af) (n : Nat) (caps args : List AVal) (H : AHeap) (hk : kn f (args ++ caps) H = none) : callM kn env (n + 1) (.func (.func f) caps) args H =
    endF af.res (aCode (callM kn env n) true n af.code { tm := initTm af (args ++ caps), H := H, marks := [] }) := by
  simp only [callM, knOr, hk, stepOr, callF, h, Option.bind_some, initTm]
  unfold endF
  split <;> rename_i hx <;> simp only [hx]
theorem knM {kn : Known} {env : Nat → Option AFunc} {f : Nat} (n : Nat) {caps args : List AVal} {H : AHeap} {r : AVal × AHeap} (hk : kn f (args ++ caps) H = some r) : callM kn env (n + 1) (.func (.func f) caps) args H = some r := by
  simp only [callM, knOr, hk]
theorem seqN {or : Oracle} {top : Bool} {n : Nat} {a b : ACode} {st s : ASt} {x : Option (Exit × ASt)} (h1 : aCode or top n a st = some (.normal, s)) (h2 : aCode or top n b s = x) : aCode or top n (.seq a b) st = x := by
  simp only [aCode, h1, h2]
theorem seqX {or : Oracle} {top : Bool} {n : Nat} {a b : ACode} {st s : ASt} {e : Exit} (h1 : aCode or top n a st = some (e, s)) (he : e ≠ .normal) : aCode or top n (.seq a b) st = some (e, s) := by
  simp only [aCode, h1]
  cases e <;> first | rfl | exact absurd rfl he
theorem regN {or : Oracle} {top : Bool} {n : Nat} {ops : List AOper} {st s : ASt} (h1 : aSteps or ops st = some s) : aCode or top n (.region ops) st = some (.normal, s) := by
  simp only [aCode, h1, Option.map_some]
theorem loopC {or : Oracle} {top : Bool} {n : Nat} {b : ACode} {st : ASt} {x : Option (Exit × ASt)} (h : aLoop (aCode or top n b) n st = x) : aCode or top n (.loop b) st = x := by
  simp only [aCode, h]
theorem drawN {or : Oracle} {top : Bool} {n : Nat} {ops : List AOper} {ps : List PStep} {start : List Nat} {st s : ASt} {V : List Told} {Hs : List (List Nat × AHeap)} (h1 : drawGo or ops ps st = some (s, V, Hs)) (h2 : allAsked V ((start, st.H) :: Hs) = true) : aCode or top n (.draw ops ps start) st = some (.normal, s) := by
  simp only [aCode, aDraw, h1, Option.bind_some, h2, if_true, Option.map_some]
theorem drawMob {or : Oracle} {aos : List AOper} {ps : List PStep} {i : Nat} {o : AOper} {st s : ASt} {r : AVal × AHeap} {V : List Told} {Hs : List (List Nat × AHeap)} (ho : aos[i]? = some o) (h1 : fltVal o st = some r) (h2 : drawGo or aos ps ({ st with H := r.2 }.put o.dst r.1) = some (s, V, Hs)) :
    drawGo or aos (.mob i :: ps) st = some (s, (if o.op.reads then { i := i, o := o, v := r.1, tm := st.tm } :: V else V), Hs) := by
  simp only [drawGo, ho, Option.bind_some, h1, h2, Option.map_some]
theorem drawImm {or : Oracle} {aos : List AOper} {ps : List PStep} {i : Nat} {obl : List Nat} {o : AOper} {st s st' : ASt} {V : List Told} {Hs : List (List Nat × AHeap)} (ho : aos[i]? = some o) (h1 : aStep or st o = some st') (hn : st.H.next ≤ st'.H.next) (h2 : drawGo or aos ps st' = some (s, V, Hs)) :
    drawGo or aos (.imm i obl :: ps) st = some (s, V, (obl, st'.H) :: Hs) := by
  have : Nat.ble st.H.next st'.H.next = true := by rw [Nat.ble_eq]; exact hn
  simp only [drawGo, ho, Option.bind_some, h1, this, if_true, h2, Option.map_some]
end Go.Vm
