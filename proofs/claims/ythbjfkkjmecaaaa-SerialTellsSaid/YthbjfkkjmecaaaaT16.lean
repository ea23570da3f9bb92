/- The abstract machine, part 31: slices of elements of several cells; loops by an invariant. -/
import Derived.Test.YthbjfkkjmecaaaaT15
set_option linter.unusedVariables false
set_option linter.unusedSimpArgs false
namespace Go.Vm
open Go
structure Grow (H H' : AHeap) : Prop where
  next : H.next ≤ H'.next
  get : ∀ A, A < H.next → H'.get A = H.get A
theorem Grow.refl (H : AHeap) : Grow H H := ⟨Nat.le_refl _, fun _ _ => rfl⟩
theorem Grow.trans {H H' H'' : AHeap} (h : Grow H H') (h' : Grow H' H'') : Grow H H'' := ⟨Nat.le_trans h.next h'.next, fun A hA => by rw [h'.get A (Nat.lt_of_lt_of_le hA h.next), h.get A hA]⟩
theorem Grow.push (H : AHeap) (o : AObj) : Grow H (H.push o) := ⟨by simp, fun A hA => AHeap.get_push_ne _ _ (by omega)⟩
theorem Grow.rowAt {H H' : AHeap} (h : Grow H H') {A ver : Nat} (hA : A < H.next) : H'.rowAt A ver = H.rowAt A ver := by unfold AHeap.rowAt; rw [h.get A hA]
theorem Grow.set {H H' : AHeap} (h : Grow H H') {A : Nat} (hA : H.next ≤ A) (o : AObj) : Grow H (H'.set A o) := ⟨h.next, fun B hB => by rw [AHeap.get_set_ne _ _ (by omega), h.get B hB]⟩
abbrev Cells (H : AHeap) (A : Nat) (l : List AVal) : Prop := H.get A = some (.row [some (0, l)])
theorem Cells.at {H : AHeap} {A : Nat} {l : List AVal} (h : Cells H A l) : H.rowAt A 0 = some l := by unfold AHeap.rowAt; rw [h]; rfl
theorem Cells.write {H : AHeap} {A off : Nat} {l vs : List AVal} (h : Cells H A l) (h0 : 0 < vs.length) (h1 : off + vs.length ≤ l.length) (hv : vs.all AVal.one = true) : H.write A 0 off vs = some (H.set A (.row [some (0, spl l off vs)])) := by
  unfold AHeap.write; rw [h]
  have e : off < 0 + l.length := by omega
  simp only [List.getElem?_cons_zero, h0, h1, hv, decide_true, Bool.and_self, if_true, killAt]
  split <;> rfl
theorem Cells.mono {H H' : AHeap} {A : Nat} {l : List AVal} (h : Cells H A l) (hg : H'.get A = H.get A) : Cells H' A l := by unfold Cells; rw [hg]; exact h
theorem flatten_len {α : Type} {n : Nat} : ∀ {es : List (List α)}, (∀ e ∈ es, e.length = n) → es.flatten.length = es.length * n
  | [], _ => by simp
  | e :: es, h => by
    rw [List.flatten_cons, List.length_append, flatten_len fun x hx => h x (List.mem_cons_of_mem _ hx), h e (List.mem_cons_self ..), List.length_cons, Nat.succ_mul]; omega
theorem flatten_at {α : Type} {n : Nat} : ∀ {es : List (List α)} (i : Nat) (e : List α), (∀ e ∈ es, e.length = n) → es[i]? = some e → (es.flatten.drop (i * n)).take n = e
  | [], i, e, _, hi => by simp at hi
  | x :: es, 0, e, h, hi => by
    simp at hi; subst hi
    have := h x (List.mem_cons_self ..)
    rw [List.flatten_cons, Nat.zero_mul, List.drop_zero, ← this, List.take_left']
    rfl
  | x :: es, i + 1, e, h, hi => by
    have hx := h x (List.mem_cons_self ..)
    rw [List.flatten_cons, Nat.succ_mul, Nat.add_comm, ← List.drop_drop, ← hx, List.drop_left', hx]
    · exact flatten_at i e (fun y hy => h y (List.mem_cons_of_mem _ hy)) (by simpa using hi)
    · rfl
theorem flatten_take {α : Type} {n : Nat} : ∀ {es : List (List α)} (k : Nat), (∀ e ∈ es, e.length = n) → (es.take k).flatten = es.flatten.take (k * n)
  | [], k, _ => by simp
  | e :: es, 0, _ => by simp
  | e :: es, k + 1, h => by
    have he := h e (List.mem_cons_self ..)
    simp only [List.take_succ_cons, List.flatten_cons]
    rw [flatten_take k fun x hx => h x (List.mem_cons_of_mem _ hx), Nat.succ_mul, List.take_append, he, Nat.add_sub_cancel, List.take_of_length_le (l := e) (by omega)]
def RdE (H : AHeap) (esz : Nat) (v : AVal) (es : List (List AVal)) : Prop :=
  (∀ e ∈ es, e.length = esz) ∧ ((v = anil ∧ es = []) ∨
  ∃ R ver off kcap ex cells, v = .slice R ver off es.length kcap ex esz ∧ H.rowAt R ver = some cells ∧ es.length ≤ kcap ∧ off + es.length * esz ≤ cells.length ∧ (cells.drop off).take (es.length * esz) = es.flatten)
theorem RdE.lenS {H : AHeap} {esz : Nat} {v : AVal} {es : List (List AVal)} (h : RdE H esz v es) : aLenS v = some (aint es.length) := by
  rcases h with ⟨_, ⟨rfl, rfl⟩ | ⟨R, ver, off, kcap, ex, cells, rfl, _⟩⟩ <;> rfl
theorem RdE.len {H : AHeap} {esz : Nat} {v : AVal} {es : List (List AVal)} (h : RdE H esz v es) : aLen v = some es.length := by
  rcases h with ⟨_, ⟨rfl, rfl⟩ | ⟨R, ver, off, kcap, ex, cells, rfl, _⟩⟩ <;> rfl
theorem RdE.one {H : AHeap} {esz : Nat} {v : AVal} {es : List (List AVal)} (h : RdE H esz v es) : v.one = true := by
  rcases h with ⟨_, ⟨rfl, rfl⟩ | ⟨R, ver, off, kcap, ex, cells, rfl, _⟩⟩ <;> rfl
theorem RdE.cells1 {H : AHeap} {esz : Nat} {v : AVal} {es : List (List AVal)} (h : RdE H esz v es) : v.cells = [v] := by
  rcases h with ⟨_, ⟨rfl, rfl⟩ | ⟨R, ver, off, kcap, ex, cells, rfl, _⟩⟩ <;> rfl
theorem RdE.move {H H' : AHeap} {esz : Nat} {v : AVal} {es : List (List AVal)} (h : RdE H esz v es) (hg : ∀ R ver off len kcap ex, v = .slice R ver off len kcap ex esz → H'.rowAt R ver = H.rowAt R ver) : RdE H' esz v es := by
  rcases h with ⟨h0, h | ⟨R, ver, off, kcap, ex, cells, rfl, h2, h3⟩⟩
  · exact ⟨h0, .inl h⟩
  · exact ⟨h0, .inr ⟨R, ver, off, kcap, ex, cells, rfl, by rw [hg _ _ _ _ _ _ rfl]; exact h2, h3⟩⟩
def AVal.lies (v : AVal) (p : Nat → Prop) : Prop := ∀ R ver off len kcap ex esz, v = .slice R ver off len kcap ex esz → p R
theorem RdE.grow {H H' : AHeap} {esz : Nat} {v : AVal} {es : List (List AVal)} (h : RdE H esz v es) (hg : Grow H H') (hl : v.lies (· < H.next)) : RdE H' esz v es :=
  h.move fun R ver off len kcap ex e => hg.rowAt (hl R ver off len kcap ex esz e)
theorem RdE.at {H : AHeap} {esz : Nat} {v : AVal} {es : List (List AVal)} (h : RdE H esz v es) {i : Nat} {e : List AVal} (hi : es[i]? = some e) :
    ∃ R ver off kcap ex cells, v = .slice R ver off es.length kcap ex esz ∧ H.rowAt R ver = some cells ∧ off + i * esz + esz ≤ cells.length ∧ (cells.drop (off + i * esz)).take esz = e := by
  have hlt := (List.getElem?_eq_some_iff.1 hi).1
  rcases h with ⟨h0, ⟨rfl, rfl⟩ | ⟨R, ver, off, kcap, ex, cells, h1, h2, h3, h4, h5⟩⟩
  · simp at hi
  · have hm : (i + 1) * esz ≤ es.length * esz := Nat.mul_le_mul_right _ hlt
    rw [Nat.succ_mul] at hm
    refine ⟨R, ver, off, kcap, ex, cells, h1, h2, by omega, ?_⟩
    have := flatten_at i e h0 hi
    rw [← h5, List.drop_take, List.take_take, List.drop_drop, Nat.min_eq_left (by omega)] at this
    exact this
theorem RdE.aCells {H : AHeap} {esz : Nat} {v : AVal} {es : List (List AVal)} (h : RdE H esz v es) : Vm.aCells H esz v = some es.flatten := by
  rcases h with ⟨h0, ⟨rfl, rfl⟩ | ⟨R, ver, off, kcap, ex, cells, rfl, h2, h3, h4, h5⟩⟩
  · rfl
  · simp only [Vm.aCells, h2, Option.bind_some, h4, if_true, h5]
theorem flatten_all {es : List (List AVal)} (h : ∀ e ∈ es, e.all AVal.one = true) : es.flatten.all AVal.one = true := by
  rw [List.all_eq_true]
  intro c hc
  obtain ⟨e, he, hce⟩ := List.mem_flatten.1 hc
  exact List.all_eq_true.1 (h e he) c hce
theorem part_at {cells : List AVal} {p esz j : Nat} {e : List AVal} (h : (cells.drop p).take esz = e) (hj : j < esz) : cells[p + j]? = e[j]? := by
  subst h
  rw [List.getElem?_take, if_pos hj, List.getElem?_drop]
theorem RdE.first {H : AHeap} {esz : Nat} {v : AVal} {es : List (List AVal)} (h : RdE H esz v es) {k : Nat} (hk : k ≤ es.length) : ∃ v', aSliceS esz v none (some (.raw (.int .i64 k))) none = some v' ∧ RdE H esz v' (es.take k) ∧ (∀ p, v.lies p → v'.lies p) := by
  rcases h with ⟨h0, ⟨rfl, rfl⟩ | ⟨R, ver, off, kcap, ex, cells, rfl, h2, h3, h4, h5⟩⟩
  · have : k = 0 := by simpa using hk
    subst this
    exact ⟨anil, rfl, ⟨h0, .inl ⟨rfl, rfl⟩⟩, fun p hp => hp⟩
  · have hm : k * esz ≤ es.length * esz := Nat.mul_le_mul_right _ hk
    have hlen : (es.take k).length = k := by simp [Nat.min_eq_left hk]
    refine ⟨.slice R ver off k kcap ex esz, ?_, ⟨fun e he => h0 e (List.mem_of_mem_take he), .inr ⟨R, ver, off, kcap, ex, cells, ?_, h2, ?_, ?_, ?_⟩⟩, fun p hp R' ver' off' len' kcap' ex' esz' e => ?_⟩
    · have e1 : (k : Int) ≤ kcap := by omega
      have e2 : (0 : Int) ≤ k := by omega
      simp [aSliceS, aBoundO, aBound, ile_eq, e1, e2]
    · rw [hlen]
    · rw [hlen]; omega
    · rw [hlen]; omega
    · rw [hlen]
      have : (es.take k).flatten = es.flatten.take (k * esz) := by
        exact flatten_take k h0
      rw [this, ← h5, List.take_take, Nat.min_eq_left hm]
    · cases e; exact hp R ver off _ kcap ex esz rfl
def SliceE (H : AHeap) (base esz : Nat) (v : AVal) (es : List (List AVal)) : Prop :=
  (∀ e ∈ es, e.length = esz) ∧ ((v = anil ∧ es = []) ∨ ∃ R ver vs, base ≤ R ∧ R < H.next ∧ v = .slice R ver 0 es.length es.length false esz ∧ H.get R = some (.row vs) ∧ vs[ver]? = some (some (0, es.flatten)))
theorem SliceE.nil (H : AHeap) (base esz : Nat) : SliceE H base esz anil [] := ⟨fun e he => by simp at he, .inl ⟨rfl, rfl⟩⟩
theorem SliceE.rd {H : AHeap} {base esz : Nat} {v : AVal} {es : List (List AVal)} (h : SliceE H base esz v es) : RdE H esz v es := by
  rcases h with ⟨h0, h | ⟨R, ver, vs, h1, h2, h3, h4, h5⟩⟩
  · exact ⟨h0, .inl h⟩
  · refine ⟨h0, .inr ⟨R, ver, 0, es.length, false, es.flatten, h3, by unfold AHeap.rowAt; rw [h4]; simp only [h5], Nat.le_refl _, by rw [flatten_len h0]; omega, ?_⟩⟩
    rw [List.drop_zero, List.take_of_length_le (by rw [flatten_len h0]; exact Nat.le_refl _)]
theorem SliceE.lies {H : AHeap} {base esz : Nat} {v : AVal} {es : List (List AVal)} (h : SliceE H base esz v es) : v.lies fun R => base ≤ R ∧ R < H.next := fun R ver off len kcap ex esz' e => by
  rcases h with ⟨_, ⟨rfl, _⟩ | ⟨R', ver', vs, h1, h2, h3, _⟩⟩
  · cases e
  · rw [h3] at e; cases e; exact ⟨h1, h2⟩
theorem SliceE.move {H H' : AHeap} {base base' esz : Nat} {v : AVal} {es : List (List AVal)} (h : SliceE H base esz v es) (hb : base' ≤ base) (hn : H.next ≤ H'.next) (hg : ∀ A, base ≤ A → A < H.next → H'.get A = H.get A) : SliceE H' base' esz v es := by
  rcases h with ⟨h0, h | ⟨R, ver, vs, h1, h2, h3, h4, h5⟩⟩
  · exact ⟨h0, .inl h⟩
  · exact ⟨h0, .inr ⟨R, ver, vs, by omega, by omega, h3, by rw [hg R h1 h2]; exact h4, h5⟩⟩
theorem SliceE.append {H : AHeap} {base esz bytes : Nat} {v : AVal} {es : List (List AVal)} (h : SliceE H base esz v es) (hb : base ≤ H.next) {X : Nat} {e : List AVal} (hX : H.rowAt X 0 = some e) (he : e.length = esz) (h0 : 0 < esz) (hb0 : 0 < bytes)
    (hone : e.all AVal.one = true) (hlen : (es.length + 1) * bytes ≤ 140737488355328) {ex : Bool} {kc : Nat} :
    ∃ v' H', aAppend H esz bytes v (.slice X 0 0 1 kc ex esz) = some (v', H') ∧ SliceE H' base esz v' (es ++ [e]) ∧ H.next ≤ H'.next ∧ (∀ A, A < base → H'.get A = H.get A) ∧ (∀ A, A < H.next → (v.lies fun R => R ≠ A) → H'.get A = H.get A) ∧ ∀ p : Nat → Prop, v.lies p → (∀ R, H.next ≤ R → p R) → v'.lies p := by
  have hnews : aCells H esz (.slice X 0 0 1 kc ex esz) = some e := by
    simp only [aCells, hX, Option.bind_some, List.drop_zero, Nat.zero_add, Nat.one_mul, ← he, Nat.le_refl, if_true, List.take_length]
  have h00 : ∀ x ∈ es ++ [e], x.length = esz := fun x hx => by
    rcases List.mem_append.1 hx with h1 | h1
    · exact h.1 x h1
    · simp at h1; subst h1; exact he
  rcases h with ⟨hes, ⟨rfl, rfl⟩ | ⟨R, ver, vs, h1, h2, rfl, h4, h5⟩⟩
  · refine ⟨.slice H.next 0 0 1 1 false esz, H.push (.row [some (0, e)]), ?_, ⟨h00, .inr ⟨H.next, 0, [some (0, e)], hb, by simp, rfl, AHeap.get_push_same _ _, by simp⟩⟩, by simp, fun A hA => AHeap.get_push_ne _ _ (by omega), fun A hA _ => AHeap.get_push_ne _ _ (by omega), fun p _ hp R ver off len kcap ex' esz' e' => by cases e'; exact hp _ (Nat.le_refl _)⟩
    · simp only [aAppend, aLen, hnews, Option.bind_some, h0, hb0, hone, decide_true, Bool.and_self, if_true]
      simp at hlen
      simp [hlen]
  · have hr : H.rowAt R ver = some es.flatten := by unfold AHeap.rowAt; rw [h4]; simp only [h5]
    have hfl := flatten_len hes
    refine ⟨.slice R vs.length 0 (es.length + 1) (es.length + 1) false esz, H.set R (.row (newVer vs (0 + 0 + es.length * esz) e.length (0 + 0) ((es.flatten.drop 0).take (es.length * esz) ++ e))), ?_, ⟨h00, .inr ⟨R, vs.length, _, h1, h2, by simp, AHeap.get_set_same _ _ _, ?_⟩⟩, Nat.le_refl _, fun A hA => AHeap.get_set_ne _ _ (by omega), fun A _ hA => AHeap.get_set_ne _ _ fun e' => ?_, fun p hp _ R' ver' off' len' kcap' ex' esz' e' => by cases e'; exact hp R ver 0 _ _ _ _ rfl⟩
    · have g1 : 0 + es.length * esz ≤ es.flatten.length := by omega
      have g2 : ¬ (es.length + 1 ≤ es.length) := by omega
      simp only [aAppend, aLen, hnews, Option.bind_some, h0, hb0, hone, decide_true, Bool.and_self, if_true, g2, if_false, hlen, hr, g1, h4, h5, Bool.false_eq_true]
      simp
    · unfold newVer
      rw [List.getElem?_append_right (by rw [killAt_length]; exact Nat.le_refl _), killAt_length]
      simp [List.take_of_length_le, hfl]
    · exact hA R ver 0 _ _ _ _ rfl e'.symm
theorem RdE.appendNew {H : AHeap} {esz bytes X : Nat} {v : AVal} {es : List (List AVal)} (h : RdE H esz v es) (h0 : es ≠ []) (hs : 0 < esz) (hb0 : 0 < bytes) (hone : ∀ e ∈ es, e.all AVal.one = true) (hlen : es.length * bytes ≤ 140737488355328) (hX : H.rowAt X 0 = some []) :
    aAppend H esz bytes (.slice X 0 0 0 0 true esz) v = some (.slice H.next 0 0 es.length es.length false esz, H.push (.row [some (0, es.flatten)])) ∧ SliceE (H.push (.row [some (0, es.flatten)])) H.next esz (.slice H.next 0 0 es.length es.length false esz) es := by
  have hn : es.length ≠ 0 := fun h1 => h0 (List.eq_nil_of_length_eq_zero h1)
  have hn' : ¬ (0 + es.length ≤ 0) := by omega
  refine ⟨?_, h.1, .inr ⟨H.next, 0, [some (0, es.flatten)], Nat.le_refl _, by simp, rfl, AHeap.get_push_same _ _, rfl⟩⟩
  simp only [aAppend, h.len, h.aCells, Option.bind_some, hn, if_false, hs, hb0, flatten_all hone, decide_true, Bool.and_self, if_true, hX, Nat.zero_mul, Nat.add_zero, Nat.zero_add, List.length_nil, Nat.le_refl, List.drop_nil, List.take_nil, List.nil_append, hlen, Nat.le_zero_eq, List.take_zero, List.drop_zero]
theorem newCells (H : AHeap) {z e : List AVal} (he : e.length = z.length) (h0 : 0 < e.length) (hv : e.all AVal.one = true) :
    ∃ H', (H.push (.row [some (0, z)])).write H.next 0 0 e = some H' ∧ Grow H H' ∧ Cells H' H.next e ∧ H'.next = H.next + 1 := by
  refine ⟨(H.push (.row [some (0, z)])).set H.next (.row [some (0, spl z 0 e)]), Cells.write (AHeap.get_push_same _ _) h0 (by omega) hv, (Grow.push _ _).set (Nat.le_refl _) _, ?_, by simp⟩
  show AHeap.get _ _ = _
  rw [AHeap.get_set_same]
  simp [spl, he]
theorem flatten_set {α : Type} {n : Nat} {v : List α} (hv : v.length = n) : ∀ {es : List (List α)} (i : Nat), (∀ e ∈ es, e.length = n) → i < es.length → spl es.flatten (i * n) v = (es.set i v).flatten
  | [], i, _, hi => by simp at hi
  | e :: es, 0, h, hi => by
    have he := h e (List.mem_cons_self ..)
    simp only [spl, Nat.zero_mul, List.take_zero, List.nil_append, Nat.zero_add, List.set_cons_zero, List.flatten_cons, hv]
    rw [← he, List.drop_left']
    rfl
  | e :: es, i + 1, h, hi => by
    have he := h e (List.mem_cons_self ..)
    have ih := flatten_set hv i (fun x hx => h x (List.mem_cons_of_mem _ hx)) (by simpa using hi)
    simp only [List.set_cons_succ, List.flatten_cons]
    rw [← ih]
    unfold spl
    rw [Nat.succ_mul, List.take_append, List.drop_append, he, Nat.add_sub_cancel, List.take_of_length_le (by omega), List.append_assoc, List.drop_eq_nil_of_le (by omega), List.nil_append]
    congr 4
    omega
end Go.Vm
