/- The abstract machine, part 22: slices that grow by one. -/
import Derived.Test.YtipmhhogebnpkaaGreatDoorK18
import Derived.OpenShut
import Derived.ChangeArms
import Derived.Test.YtipmhhogebnpkaaGreatDoorK20
namespace Go.Vm
open Go

set_option linter.unusedVariables false
set_option linter.unusedSimpArgs false

/-- A value reads as a slice of one-cell values that is grown by appends alone; its blocks lie at 'base' or behind. -/
def SliceIs (H : AHeap) (base : Nat) (v : AVal) (l : List AVal) : Prop :=
  (v = anil ∧ l = []) ∨ ∃ R ver vs, base ≤ R ∧ R < H.next ∧ v = .slice R ver 0 l.length l.length false 1 ∧ H.get R = some (.row vs) ∧ vs[ver]? = some (some (0, l))

theorem SliceIs.rowAt {H : AHeap} {R ver : Nat} {vs : Vers} {l : List AVal} (h : H.get R = some (.row vs)) (hv : vs[ver]? = some (some (0, l))) : H.rowAt R ver = some l := by
  unfold AHeap.rowAt; rw [h]; simp only [hv]

theorem SliceIs.move {H H' : AHeap} {base : Nat} {v : AVal} {l : List AVal} (h : SliceIs H base v l) (hn : H.next ≤ H'.next) (hg : ∀ A, base ≤ A → A < H.next → H'.get A = H.get A) : SliceIs H' base v l := by
  rcases h with h | ⟨R, ver, vs, h1, h2, h3, h4, h5⟩
  · exact .inl h
  · exact .inr ⟨R, ver, vs, h1, by omega, h3, by rw [hg R h1 h2]; exact h4, h5⟩

theorem SliceIs.one {H : AHeap} {base : Nat} {v : AVal} {l : List AVal} (h : SliceIs H base v l) : v.one = true := by
  rcases h with ⟨rfl, _⟩ | ⟨R, ver, vs, _, _, rfl, _⟩ <;> rfl

end Go.Vm
namespace Go.Vm
open Go

set_option linter.unusedVariables false
set_option linter.unusedSimpArgs false

/-! ### Loops -/

/-! ### The heap has grown -/

/-- All that lay there lies there still. -/
structure Grow (H H' : AHeap) : Prop where
  next : H.next ≤ H'.next
  get : ∀ A, A < H.next → H'.get A = H.get A

theorem Grow.trans {H H' H'' : AHeap} (h : Grow H H') (h' : Grow H' H'') : Grow H H'' := ⟨Nat.le_trans h.next h'.next, fun A hA => by rw [h'.get A (Nat.lt_of_lt_of_le hA h.next), h.get A hA]⟩
theorem Grow.push (H : AHeap) (o : AObj) : Grow H (H.push o) := ⟨by simp, fun A hA => AHeap.get_push_ne _ _ (by omega)⟩
theorem Grow.rowAt {H H' : AHeap} (h : Grow H H') {A ver : Nat} (hA : A < H.next) : H'.rowAt A ver = H.rowAt A ver := by unfold AHeap.rowAt; rw [h.get A hA]
/-- What was made since may be written. -/
theorem Grow.set {H H' : AHeap} (h : Grow H H') {A : Nat} (hA : H.next ≤ A) (o : AObj) : Grow H (H'.set A o) := ⟨h.next, fun B hB => by rw [AHeap.get_set_ne _ _ (by omega), h.get B hB]⟩

/-- A block of one version, counted from its root. -/
abbrev Cells (H : AHeap) (A : Nat) (l : List AVal) : Prop := H.get A = some (.row [some (0, l)])
theorem Cells.at {H : AHeap} {A : Nat} {l : List AVal} (h : Cells H A l) : H.rowAt A 0 = some l := by unfold AHeap.rowAt; rw [h]; rfl
theorem Cells.write {H : AHeap} {A off : Nat} {l vs : List AVal} (h : Cells H A l) (h0 : 0 < vs.length) (h1 : off + vs.length ≤ l.length) (hv : vs.all AVal.one = true) : H.write A 0 off vs = some (H.set A (.row [some (0, spl l off vs)])) := by
  unfold AHeap.write; rw [h]
  have e : off < 0 + l.length := by omega
  simp only [List.getElem?_cons_zero, h0, h1, hv, decide_true, Bool.and_self, if_true, killAt]
  split <;> rfl
theorem Cells.mono {H H' : AHeap} {A : Nat} {l : List AVal} (h : Cells H A l) (hg : H'.get A = H.get A) : Cells H' A l := by unfold Cells; rw [hg]; exact h

/-! ### Elements -/

theorem flatten_len {α : Type} {n : Nat} : ∀ {es : List (List α)}, (∀ e ∈ es, e.length = n) → es.flatten.length = es.length * n
  | [], _ => by simp
  | e :: es, h => by
    rw [List.flatten_cons, List.length_append, flatten_len fun x hx => h x (List.mem_cons_of_mem _ hx), h e (List.mem_cons_self ..), List.length_cons, Nat.succ_mul]; omega

theorem flatten_at {α : Type} {n : Nat} : ∀ {es : List (List α)} (i : Nat) (e : List α), (∀ e ∈ es, e.length = n) → es[i]? = some e → (es.flatten.drop (i * n)).take n = e
  | [], i, e, _, hi => by simp at hi
  | x :: es, 0, e, h, hi => by
    simp at hi; subst hi
    have := h x (List.mem_cons_self ..)
    rw [List.flatten_cons, Nat.zero_mul, List.drop_zero, ← this, List.take_left']
    rfl
  | x :: es, i + 1, e, h, hi => by
    have hx := h x (List.mem_cons_self ..)
    rw [List.flatten_cons, Nat.succ_mul, Nat.add_comm, ← List.drop_drop, ← hx, List.drop_left', hx]
    · exact flatten_at i e (fun y hy => h y (List.mem_cons_of_mem _ hy)) (by simpa using hi)
    · rfl

theorem flatten_take {α : Type} {n : Nat} : ∀ {es : List (List α)} (k : Nat), (∀ e ∈ es, e.length = n) → (es.take k).flatten = es.flatten.take (k * n)
  | [], k, _ => by simp
  | e :: es, 0, _ => by simp
  | e :: es, k + 1, h => by
    have he := h e (List.mem_cons_self ..)
    simp only [List.take_succ_cons, List.flatten_cons]
    rw [flatten_take k fun x hx => h x (List.mem_cons_of_mem _ hx), Nat.succ_mul, List.take_append, he, Nat.add_sub_cancel, List.take_of_length_le (l := e) (by omega)]

/-- A value reads as a list of elements. -/
def RdE (H : AHeap) (esz : Nat) (v : AVal) (es : List (List AVal)) : Prop :=
  (∀ e ∈ es, e.length = esz) ∧ ((v = anil ∧ es = []) ∨
  ∃ R ver off kcap ex cells, v = .slice R ver off es.length kcap ex esz ∧ H.rowAt R ver = some cells ∧ es.length ≤ kcap ∧ off + es.length * esz ≤ cells.length ∧ (cells.drop off).take (es.length * esz) = es.flatten)

theorem RdE.len {H : AHeap} {esz : Nat} {v : AVal} {es : List (List AVal)} (h : RdE H esz v es) : aLen v = some es.length := by
  rcases h with ⟨_, ⟨rfl, rfl⟩ | ⟨R, ver, off, kcap, ex, cells, rfl, _⟩⟩ <;> rfl
theorem RdE.one {H : AHeap} {esz : Nat} {v : AVal} {es : List (List AVal)} (h : RdE H esz v es) : v.one = true := by
  rcases h with ⟨_, ⟨rfl, rfl⟩ | ⟨R, ver, off, kcap, ex, cells, rfl, _⟩⟩ <;> rfl
theorem RdE.move {H H' : AHeap} {esz : Nat} {v : AVal} {es : List (List AVal)} (h : RdE H esz v es) (hg : ∀ R ver off len kcap ex, v = .slice R ver off len kcap ex esz → H'.rowAt R ver = H.rowAt R ver) : RdE H' esz v es := by
  rcases h with ⟨h0, h | ⟨R, ver, off, kcap, ex, cells, rfl, h2, h3⟩⟩
  · exact ⟨h0, .inl h⟩
  · exact ⟨h0, .inr ⟨R, ver, off, kcap, ex, cells, rfl, by rw [hg _ _ _ _ _ _ rfl]; exact h2, h3⟩⟩

/-- Where a value that is no nil slice lies. -/
def AVal.lies (v : AVal) (p : Nat → Prop) : Prop := ∀ R ver off len kcap ex esz, v = .slice R ver off len kcap ex esz → p R

/-- The element at i. -/
theorem RdE.at {H : AHeap} {esz : Nat} {v : AVal} {es : List (List AVal)} (h : RdE H esz v es) {i : Nat} {e : List AVal} (hi : es[i]? = some e) :
    ∃ R ver off kcap ex cells, v = .slice R ver off es.length kcap ex esz ∧ H.rowAt R ver = some cells ∧ off + i * esz + esz ≤ cells.length ∧ (cells.drop (off + i * esz)).take esz = e := by
  have hlt := (List.getElem?_eq_some_iff.1 hi).1
  rcases h with ⟨h0, ⟨rfl, rfl⟩ | ⟨R, ver, off, kcap, ex, cells, h1, h2, h3, h4, h5⟩⟩
  · simp at hi
  · have hm : (i + 1) * esz ≤ es.length * esz := Nat.mul_le_mul_right _ hlt
    rw [Nat.succ_mul] at hm
    refine ⟨R, ver, off, kcap, ex, cells, h1, h2, by omega, ?_⟩
    have := flatten_at i e h0 hi
    rw [← h5, List.drop_take, List.take_take, List.drop_drop, Nat.min_eq_left (by omega)] at this
    exact this

theorem RdE.aCells {H : AHeap} {esz : Nat} {v : AVal} {es : List (List AVal)} (h : RdE H esz v es) : Vm.aCells H esz v = some es.flatten := by
  rcases h with ⟨h0, ⟨rfl, rfl⟩ | ⟨R, ver, off, kcap, ex, cells, rfl, h2, h3, h4, h5⟩⟩
  · rfl
  · simp only [Vm.aCells, h2, Option.bind_some, h4, if_true, h5]

/-- One of several cells of an element. -/
theorem part_at {cells : List AVal} {p esz j : Nat} {e : List AVal} (h : (cells.drop p).take esz = e) (hj : j < esz) : cells[p + j]? = e[j]? := by
  subst h
  rw [List.getElem?_take, if_pos hj, List.getElem?_drop]

/-- The first so many, sliced. -/
theorem RdE.first {H : AHeap} {esz : Nat} {v : AVal} {es : List (List AVal)} (h : RdE H esz v es) {k : Nat} (hk : k ≤ es.length) : ∃ v', aSliceS esz v none (some (.raw (.int .i64 k))) none = some v' ∧ RdE H esz v' (es.take k) ∧ (∀ p, v.lies p → v'.lies p) := by
  rcases h with ⟨h0, ⟨rfl, rfl⟩ | ⟨R, ver, off, kcap, ex, cells, rfl, h2, h3, h4, h5⟩⟩
  · have : k = 0 := by simpa using hk
    subst this
    exact ⟨anil, rfl, ⟨h0, .inl ⟨rfl, rfl⟩⟩, fun p hp => hp⟩
  · have hm : k * esz ≤ es.length * esz := Nat.mul_le_mul_right _ hk
    have hlen : (es.take k).length = k := by simp [Nat.min_eq_left hk]
    refine ⟨.slice R ver off k kcap ex esz, ?_, ⟨fun e he => h0 e (List.mem_of_mem_take he), .inr ⟨R, ver, off, kcap, ex, cells, ?_, h2, ?_, ?_, ?_⟩⟩, fun p hp R' ver' off' len' kcap' ex' esz' e => ?_⟩
    · have e1 : (k : Int) ≤ kcap := by omega
      have e2 : (0 : Int) ≤ k := by omega
      simp [aSliceS, aBoundO, aBound, ile_eq, e1, e2]
    · rw [hlen]
    · rw [hlen]; omega
    · rw [hlen]; omega
    · rw [hlen]
      have : (es.take k).flatten = es.flatten.take (k * esz) := by
        exact flatten_take k h0
      rw [this, ← h5, List.take_take, Nat.min_eq_left hm]
    · cases e; exact hp R ver off _ kcap ex esz rfl

/-! ### A list that is grown by appends alone -/

/-- A list that is grown by appends; its blocks lie at 'base' or behind. -/
def SliceE (H : AHeap) (base esz : Nat) (v : AVal) (es : List (List AVal)) : Prop :=
  (∀ e ∈ es, e.length = esz) ∧ ((v = anil ∧ es = []) ∨ ∃ R ver vs, base ≤ R ∧ R < H.next ∧ v = .slice R ver 0 es.length es.length false esz ∧ H.get R = some (.row vs) ∧ vs[ver]? = some (some (0, es.flatten)))

theorem SliceE.nil (H : AHeap) (base esz : Nat) : SliceE H base esz anil [] := ⟨fun e he => by simp at he, .inl ⟨rfl, rfl⟩⟩

theorem SliceE.rd {H : AHeap} {base esz : Nat} {v : AVal} {es : List (List AVal)} (h : SliceE H base esz v es) : RdE H esz v es := by
  rcases h with ⟨h0, h | ⟨R, ver, vs, h1, h2, h3, h4, h5⟩⟩
  · exact ⟨h0, .inl h⟩
  · refine ⟨h0, .inr ⟨R, ver, 0, es.length, false, es.flatten, h3, by unfold AHeap.rowAt; rw [h4]; simp only [h5], Nat.le_refl _, by rw [flatten_len h0]; omega, ?_⟩⟩
    rw [List.drop_zero, List.take_of_length_le (by rw [flatten_len h0]; exact Nat.le_refl _)]

theorem SliceE.lies {H : AHeap} {base esz : Nat} {v : AVal} {es : List (List AVal)} (h : SliceE H base esz v es) : v.lies fun R => base ≤ R ∧ R < H.next := fun R ver off len kcap ex esz' e => by
  rcases h with ⟨_, ⟨rfl, _⟩ | ⟨R', ver', vs, h1, h2, h3, _⟩⟩
  · cases e
  · rw [h3] at e; cases e; exact ⟨h1, h2⟩

theorem SliceE.move {H H' : AHeap} {base base' esz : Nat} {v : AVal} {es : List (List AVal)} (h : SliceE H base esz v es) (hb : base' ≤ base) (hn : H.next ≤ H'.next) (hg : ∀ A, base ≤ A → A < H.next → H'.get A = H.get A) : SliceE H' base' esz v es := by
  rcases h with ⟨h0, h | ⟨R, ver, vs, h1, h2, h3, h4, h5⟩⟩
  · exact ⟨h0, .inl h⟩
  · exact ⟨h0, .inr ⟨R, ver, vs, by omega, by omega, h3, by rw [hg R h1 h2]; exact h4, h5⟩⟩

theorem SliceE.append {H : AHeap} {base esz bytes : Nat} {v : AVal} {es : List (List AVal)} (h : SliceE H base esz v es) (hb : base ≤ H.next) {X : Nat} {e : List AVal} (hX : H.rowAt X 0 = some e) (he : e.length = esz) (h0 : 0 < esz) (hb0 : 0 < bytes)
    (hone : e.all AVal.one = true) (hlen : (es.length + 1) * bytes ≤ 140737488355328) {ex : Bool} {kc : Nat} :
    ∃ v' H', aAppend H esz bytes v (.slice X 0 0 1 kc ex esz) = some (v', H') ∧ SliceE H' base esz v' (es ++ [e]) ∧ H.next ≤ H'.next ∧ (∀ A, A < base → H'.get A = H.get A) ∧ (∀ A, A < H.next → (v.lies fun R => R ≠ A) → H'.get A = H.get A) ∧ ∀ p : Nat → Prop, v.lies p → (∀ R, H.next ≤ R → p R) → v'.lies p := by
  have hnews : aCells H esz (.slice X 0 0 1 kc ex esz) = some e := by
    simp only [aCells, hX, Option.bind_some, List.drop_zero, Nat.zero_add, Nat.one_mul, ← he, Nat.le_refl, if_true, List.take_length]
  have h00 : ∀ x ∈ es ++ [e], x.length = esz := fun x hx => by
    rcases List.mem_append.1 hx with h1 | h1
    · exact h.1 x h1
    · simp at h1; subst h1; exact he
  rcases h with ⟨hes, ⟨rfl, rfl⟩ | ⟨R, ver, vs, h1, h2, rfl, h4, h5⟩⟩
  · refine ⟨.slice H.next 0 0 1 1 false esz, H.push (.row [some (0, e)]), ?_, ⟨h00, .inr ⟨H.next, 0, [some (0, e)], hb, by simp, rfl, AHeap.get_push_same _ _, by simp⟩⟩, by simp, fun A hA => AHeap.get_push_ne _ _ (by omega), fun A hA _ => AHeap.get_push_ne _ _ (by omega), fun p _ hp R ver off len kcap ex' esz' e' => by cases e'; exact hp _ (Nat.le_refl _)⟩
    · simp only [aAppend, aLen, hnews, Option.bind_some, h0, hb0, hone, decide_true, Bool.and_self, if_true]
      simp at hlen
      simp [hlen]
  · have hr : H.rowAt R ver = some es.flatten := by unfold AHeap.rowAt; rw [h4]; simp only [h5]
    have hfl := flatten_len hes
    refine ⟨.slice R vs.length 0 (es.length + 1) (es.length + 1) false esz, H.set R (.row (newVer vs (0 + 0 + es.length * esz) e.length (0 + 0) ((es.flatten.drop 0).take (es.length * esz) ++ e))), ?_, ⟨h00, .inr ⟨R, vs.length, _, h1, h2, by simp, AHeap.get_set_same _ _ _, ?_⟩⟩, Nat.le_refl _, fun A hA => AHeap.get_set_ne _ _ (by omega), fun A _ hA => AHeap.get_set_ne _ _ fun e' => ?_, fun p hp _ R' ver' off' len' kcap' ex' esz' e' => by cases e'; exact hp R ver 0 _ _ _ _ rfl⟩
    · have g1 : 0 + es.length * esz ≤ es.flatten.length := by omega
      have g2 : ¬ (es.length + 1 ≤ es.length) := by omega
      simp only [aAppend, aLen, hnews, Option.bind_some, h0, hb0, hone, decide_true, Bool.and_self, if_true, g2, if_false, hlen, hr, g1, h4, h5, Bool.false_eq_true]
      simp
    · unfold newVer
      rw [List.getElem?_append_right (by rw [killAt_length]; exact Nat.le_refl _), killAt_length]
      simp [List.take_of_length_le, hfl]
    · exact hA R ver 0 _ _ _ _ rfl e'.symm

/-! ### New cells, cells of several elements -/

end Go.Vm
namespace Go.Vm
open Go

set_option linter.unusedVariables false
set_option linter.unusedSimpArgs false

variable {P : Program} {w : World} {X : Type}

/-- A heap of objects that are only read. -/
structure Opened (w : World) (ρ : Ren) (H : AHeap) : Prop where
  fresh : ∀ A v, H.next ≤ A → ρ A v = none
  wf : ∀ A, H.next ≤ A → H.get A = none
  obj : ∀ A o, H.get A = some o → ∃ cells, o = .ro cells ∧ Single ρ A ∧ ∃ l, ρ A 0 = some l ∧ RowAt ρ w l cells
  dom : ∀ A v l, ρ A v = some l → (∃ o, H.get A = some o) ∧ l.c < w.heap.size

/-- The base of a call whose arguments are only read. -/
def reads (w : World) : Base := { ρ := fun _ _ => none, own := fun _ => False, ro := fun _ _ _ => True, w := w }

theorem Opened.isRo {ρ : Ren} {H : AHeap} (h : Opened w ρ H) {A v : Nat} {l : Loc} (hl : ρ A v = some l) : isRo H A := by
  obtain ⟨⟨o, ho⟩, _⟩ := h.dom A v l hl
  obtain ⟨cells, rfl, _⟩ := h.obj A o ho
  exact ⟨cells, ho⟩

theorem Opened.empty (w : World) : Opened w (fun _ _ => none) .empty where
  fresh := fun _ _ _ => rfl
  wf := fun A _ => AHeap.get_empty A
  obj := fun A o h => by rw [AHeap.get_empty] at h; cases h
  dom := fun A v l h => by cases h

theorem Opened.add {ρ : Ren} {H : AHeap} (h : Opened w ρ H) {c s : Nat} {arr : Array Value} {e : TypeId} {fz : Nat × Nat} (hw : w.heap[c]? = some (.cells arr e fz)) {cells : List AVal} (hc : CellsAt ρ arr s cells) :
    Opened w (ρ.put H.next 0 ⟨c, s, arr.size⟩) (H.push (.ro cells)) ∧ ρ.le (ρ.put H.next 0 ⟨c, s, arr.size⟩) := by
  have hn : ρ H.next 0 = none := h.fresh _ _ (Nat.le_refl _)
  have hle := Ren.put_le (l := ⟨c, s, arr.size⟩) hn
  refine ⟨⟨fun A v hA => ?_, fun A hA => ?_, fun A o ho => ?_, fun A v l hl => ?_⟩, hle⟩
  · simp at hA
    rw [Ren.put_ne _ _ (by omega)]; exact h.fresh A v (by omega)
  · simp at hA
    rw [AHeap.get_push_ne _ _ (by omega)]; exact h.wf A (by omega)
  · by_cases e' : A = H.next
    · subst e'
      rw [AHeap.get_push_same] at ho; cases ho
      refine ⟨cells, rfl, fun v hv => by rw [Ren.put_ne _ _ (by omega)]; exact h.fresh _ _ (Nat.le_refl _), _, Ren.put_same _ _ _ _, arr, e, fz, hw, rfl, hc.mono hle⟩
    · rw [AHeap.get_push_ne _ _ e'] at ho
      obtain ⟨cs, rfl, h1, l, h2, arr', e2, fz2, h3, h4, h5⟩ := h.obj A o ho
      refine ⟨cs, rfl, fun v hv => by rw [Ren.put_ne _ _ (by omega)]; exact h1 v hv, l, by rw [Ren.put_ne _ _ (by omega)]; exact h2, arr', e2, fz2, h3, h4, h5.mono hle⟩
  · by_cases e' : A = H.next ∧ v = 0
    · obtain ⟨rfl, rfl⟩ := e'
      rw [Ren.put_same] at hl; cases hl
      exact ⟨⟨_, AHeap.get_push_same _ _⟩, (Array.getElem?_eq_some_iff.1 hw).1⟩
    · rw [Ren.put_ne _ _ e'] at hl
      obtain ⟨⟨o, ho⟩, h2⟩ := h.dom A v l hl
      refine ⟨⟨o, ?_⟩, h2⟩
      rw [AHeap.get_push_ne _ _ (fun e => by rw [e, h.wf _ (Nat.le_refl _)] at ho; cases ho)]; exact ho

/-! ### What abstract cells show -/

/-- What is only read stays. -/
def Keeps (H H' : AHeap) : Prop := ∀ A cells, H.get A = some (.ro cells) → H'.get A = some (.ro cells)
theorem Keeps.trans {H H' H'' : AHeap} (h : Keeps H H') (h' : Keeps H' H'') : Keeps H H'' := fun A c hA => h' A c (h A c hA)

/-! ### Types whose parts lie side by side -/

variable {enc : TypeId × Value → X} {base : Nat} {held : Bool}

end Go.Vm
namespace Go.Vm
open Go

set_option linter.unusedVariables false
set_option linter.unusedSimpArgs false

abbrev vi (n : Int) : AVal := .raw (.int .i64 n)
theorem wrapU {n : Int} (h0 : 0 ≤ n) (h1 : n < 18446744073709551616) : wrapF .u64 n = n := Int.emod_eq_of_lt h0 h1
theorem wrapI {n : Int} (h0 : -9223372036854775808 ≤ n) (h1 : n < 9223372036854775808) : wrapF .i64 n = n := by
  simp only [wrapF, ile_eq, decide_eq_true_eq]; omega

/-! ### Parts of code -/

/-- How a call ends. -/
def endF (res : List ARes) : Option (Exit × ASt) → Option (AVal × AHeap)
  | some (.normal, s) => (aLeave s.marks s.H).bind fun H' => (aRess s.tm H' res).map fun vs => (tup vs, H')
  | some (.ret, s) => (aLeave s.marks s.H).bind fun H' => (aRess s.tm H' res).map fun vs => (tup vs, H')
  | _ => none

def initTm (af : AFunc) (args : List AVal) : List AVal := args ++ List.replicate (af.ntmps - args.length) aundef

theorem initTm_len {af : AFunc} {args : List AVal} (h : args.length ≤ af.ntmps) : (initTm af args).length = af.ntmps := by simp [initTm]; omega
theorem initTm_at {af : AFunc} {args : List AVal} {k : Nat} {v : AVal} (h : args[k]? = some v) : (initTm af args)[k]? = some v := by
  unfold initTm
  rw [List.getElem?_append_left (List.getElem?_eq_some_iff.1 h).1]; exact h

/-- A call of a function of the program, opened. -/
theorem opnM {kn : Known} {env : Nat → Option AFunc} {f : Nat} {af : AFunc} (h : env f = some af) (n : Nat) (caps args : List AVal) (H : AHeap) (hk : kn f (args ++ caps) H = none) : callM kn env (n + 1) (.func (.func f) caps) args H =
    endF af.res (aCode (callM kn env n) true n af.code { tm := initTm af (args ++ caps), H := H, marks := [] }) := by
  simp only [callM, knOr, hk, stepOr, callF, h, Option.bind_some, initTm]
  unfold endF
  split <;> rename_i hx <;> simp only [hx]

theorem seqN {or : Oracle} {top : Bool} {n : Nat} {a b : ACode} {st s : ASt} {x : Option (Exit × ASt)} (h1 : aCode or top n a st = some (.normal, s)) (h2 : aCode or top n b s = x) : aCode or top n (.seq a b) st = x := by
  simp only [aCode, h1, h2]
theorem seqX {or : Oracle} {top : Bool} {n : Nat} {a b : ACode} {st s : ASt} {e : Exit} (h1 : aCode or top n a st = some (e, s)) (he : e ≠ .normal) : aCode or top n (.seq a b) st = some (e, s) := by
  simp only [aCode, h1]
  cases e <;> first | rfl | exact absurd rfl he
theorem regN {or : Oracle} {top : Bool} {n : Nat} {ops : List AOper} {st s : ASt} (h1 : aSteps or ops st = some s) : aCode or top n (.region ops) st = some (.normal, s) := by
  simp only [aCode, h1, Option.map_some]
theorem loopC {or : Oracle} {top : Bool} {n : Nat} {b : ACode} {st : ASt} {x : Option (Exit × ASt)} (h : aLoop (aCode or top n b) n st = x) : aCode or top n (.loop b) st = x := by
  simp only [aCode, h]

/-! ### Drawn regions -/

theorem drawN {or : Oracle} {top : Bool} {n : Nat} {ops : List AOper} {ps : List PStep} {start : List Nat} {st s : ASt} {V : List Told} {Hs : List (List Nat × AHeap)} (h1 : drawGo or ops ps st = some (s, V, Hs)) (h2 : allAsked V ((start, st.H) :: Hs) = true) : aCode or top n (.draw ops ps start) st = some (.normal, s) := by
  simp only [aCode, aDraw, h1, Option.bind_some, h2, if_true, Option.map_some]
theorem drawMob {or : Oracle} {aos : List AOper} {ps : List PStep} {i : Nat} {o : AOper} {st s : ASt} {r : AVal × AHeap} {V : List Told} {Hs : List (List Nat × AHeap)} (ho : aos[i]? = some o) (h1 : fltVal o st = some r) (h2 : drawGo or aos ps ({ st with H := r.2 }.put o.dst r.1) = some (s, V, Hs)) :
    drawGo or aos (.mob i :: ps) st = some (s, (if o.op.reads then { i := i, o := o, v := r.1, tm := st.tm } :: V else V), Hs) := by
  simp only [drawGo, ho, Option.bind_some, h1, h2, Option.map_some]
theorem drawImm {or : Oracle} {aos : List AOper} {ps : List PStep} {i : Nat} {obl : List Nat} {o : AOper} {st s st' : ASt} {V : List Told} {Hs : List (List Nat × AHeap)} (ho : aos[i]? = some o) (h1 : aStep or st o = some st') (hn : st.H.next ≤ st'.H.next) (h2 : drawGo or aos ps st' = some (s, V, Hs)) :
    drawGo or aos (.imm i obl :: ps) st = some (s, V, (obl, st'.H) :: Hs) := by
  have : Nat.ble st.H.next st'.H.next = true := by rw [Nat.ble_eq]; exact hn
  simp only [drawGo, ho, Option.bind_some, h1, this, if_true, h2, Option.map_some]
/-! ### A run over inputs that are only read -/

end Go.Vm
