/- The abstract machine, part 31: slices of elements of several cells; loops by an invariant. -/
import Derived.Test.YthbjfkkjmecaaaaY14
import Derived.Test.YthbjfkkjmecaaaaY12
import Derived.OpenShut
import Derived.ChangeArms
set_option linter.unusedVariables false
set_option linter.unusedSimpArgs false
namespace Go.Vm
open Go
section
structure Grow (H H' : zz6) : Prop where
 next : H.next ≤ H'.next
 get : ∀ A, A < H.next → H'.get A = H.get A
theorem Grow.refl (H : zz6) : Grow H H := ⟨Nat.le_refl _, fun _ _ => rfl⟩
theorem Grow.trans {H H' H'' : zz6} (h : Grow H H') (h' : Grow H' H'') : Grow H H'' := ⟨Nat.le_trans h.next h'.next, fun A hA => by rw [h'.get A (Nat.lt_of_lt_of_le hA h.next), h.get A hA]⟩
theorem Grow.push (H : zz6) (o : AObj) : Grow H (H.push o) := ⟨by simp, fun A hA => zz6.zz9 _ _ (by omega)⟩
theorem Grow.rowAt {H H' : zz6} (h : Grow H H') {A ver : Nat} (hA : A < H.next) : H'.rowAt A ver = H.rowAt A ver := by unfold zz6.rowAt; rw [h.get A hA]
theorem Grow.set {H H' : zz6} (h : Grow H H') {A : Nat} (hA : H.next ≤ A) (o : AObj) : Grow H (H'.set A o) := ⟨h.next, fun B hB => by rw [zz6.zzz _ _ (by omega), h.get B hB]⟩
abbrev Cells (H : zz6) (A : Nat) (l : List AVal) : Prop := H.get A = some (.row [some (0, l)])
theorem Cells.at {H : zz6} {A : Nat} {l : List AVal} (h : Cells H A l) : H.rowAt A 0 = some l := by unfold zz6.rowAt; rw [h]; rfl
theorem Cells.write {H : zz6} {A off : Nat} {l vs : List AVal} (h : Cells H A l) (h0 : 0 < vs.length) (h1 : off + vs.length ≤ l.length) (hv : vs.all AVal.one = true) : H.write A 0 off vs = some (H.set A (.row [some (0, spl l off vs)])) := by
 unfold zz6.write; rw [h]
 have e : off < 0 + l.length := by omega
 simp only [List.getElem?_cons_zero, h0, h1, hv, decide_true, Bool.and_self, if_true, killAt]
 split <;> rfl
theorem Cells.mono {H H' : zz6} {A : Nat} {l : List AVal} (h : Cells H A l) (hg : H'.get A = H.get A) : Cells H' A l := by unfold Cells; rw [hg]; exact h
theorem zy1 {α : Type} {n : Nat} : ∀ {es : List (List α)}, (∀ e ∈ es, e.length = n) → es.flatten.length = es.length * n
 | [], _ => by simp
 | e :: es, h => by
  rw [List.flatten_cons, List.length_append, zy1 fun x hx => h x (List.mem_cons_of_mem _ hx), h e (List.mem_cons_self ..), List.length_cons, Nat.succ_mul]; omega
theorem zt9 {α : Type} {n : Nat} : ∀ {es : List (List α)} (i : Nat) (e : List α), (∀ e ∈ es, e.length = n) → es[i]? = some e → (es.flatten.drop (i * n)).take n = e
 | [], i, e, _, hi => by simp at hi
 | x :: es, 0, e, h, hi => by
  simp at hi; subst hi
  have := h x (List.mem_cons_self ..)
  rw [List.flatten_cons, Nat.zero_mul, List.drop_zero, ← this, List.take_left']
  rfl
 | x :: es, i + 1, e, h, hi => by
  have hx := h x (List.mem_cons_self ..)
  rw [List.flatten_cons, Nat.succ_mul, Nat.add_comm, ← List.drop_drop, ← hx, List.drop_left', hx]
  ·exact zt9 i e (fun y hy => h y (List.mem_cons_of_mem _ hy)) (by simpa using hi)
  ·rfl
theorem zxb {α : Type} {n : Nat} : ∀ {es : List (List α)} (k : Nat), (∀ e ∈ es, e.length = n) → (es.take k).flatten = es.flatten.take (k * n)
 | [], k, _ => by simp
 | e :: es, 0, _ => by simp
 | e :: es, k + 1, h => by
  have he := h e (List.mem_cons_self ..)
  simp only [List.take_succ_cons, List.flatten_cons]
  rw [zxb k fun x hx => h x (List.mem_cons_of_mem _ hx), Nat.succ_mul, List.take_append, he, Nat.add_sub_cancel, List.take_of_length_le (l := e) (by omega)]
def RdE (H : zz6) (esz : Nat) (v : AVal) (es : List (List AVal)) : Prop :=
 (∀ e ∈ es, e.length = esz) ∧ ((v = zxa ∧ es = []) ∨
 ∃ R ver off kcap ex cells, v = .slice R ver off es.length kcap ex esz ∧ H.rowAt R ver = some cells ∧ es.length ≤ kcap ∧ off + es.length * esz ≤ cells.length ∧ (cells.drop off).take (es.length * esz) = es.flatten)
theorem RdE.lenS {H : zz6} {esz : Nat} {v : AVal} {es : List (List AVal)} (h : RdE H esz v es) : zyy v = some (zsk es.length) := by
 rcases h with ⟨_, ⟨rfl, rfl⟩ | ⟨R, ver, off, kcap, ex, cells, rfl, _⟩⟩ <;> rfl
theorem RdE.len {H : zz6} {esz : Nat} {v : AVal} {es : List (List AVal)} (h : RdE H esz v es) : zjl v = some es.length := by
 rcases h with ⟨_, ⟨rfl, rfl⟩ | ⟨R, ver, off, kcap, ex, cells, rfl, _⟩⟩ <;> rfl
theorem RdE.one {H : zz6} {esz : Nat} {v : AVal} {es : List (List AVal)} (h : RdE H esz v es) : v.one = true := by
 rcases h with ⟨_, ⟨rfl, rfl⟩ | ⟨R, ver, off, kcap, ex, cells, rfl, _⟩⟩ <;> rfl
theorem RdE.cells1 {H : zz6} {esz : Nat} {v : AVal} {es : List (List AVal)} (h : RdE H esz v es) : v.cells = [v] := by
 rcases h with ⟨_, ⟨rfl, rfl⟩ | ⟨R, ver, off, kcap, ex, cells, rfl, _⟩⟩ <;> rfl
theorem RdE.move {H H' : zz6} {esz : Nat} {v : AVal} {es : List (List AVal)} (h : RdE H esz v es) (hg : ∀ R ver off len kcap ex, v = .slice R ver off len kcap ex esz → H'.rowAt R ver = H.rowAt R ver) : RdE H' esz v es := by
 rcases h with ⟨h0, h | ⟨R, ver, off, kcap, ex, cells, rfl, h2, h3⟩⟩
 ·exact ⟨h0, .inl h⟩
 ·exact ⟨h0, .inr ⟨R, ver, off, kcap, ex, cells, rfl, by rw [hg _ _ _ _ _ _ rfl]; exact h2, h3⟩⟩
def AVal.lies (v : AVal) (p : Nat → Prop) : Prop := ∀ R ver off len kcap ex esz, v = .slice R ver off len kcap ex esz → p R
theorem RdE.grow {H H' : zz6} {esz : Nat} {v : AVal} {es : List (List AVal)} (h : RdE H esz v es) (hg : Grow H H') (hl : v.lies (· < H.next)) : RdE H' esz v es :=
 h.move fun R ver off len kcap ex e => hg.rowAt (hl R ver off len kcap ex esz e)
theorem RdE.at {H : zz6} {esz : Nat} {v : AVal} {es : List (List AVal)} (h : RdE H esz v es) {i : Nat} {e : List AVal} (hi : es[i]? = some e) :
  ∃ R ver off kcap ex cells, v = .slice R ver off es.length kcap ex esz ∧ H.rowAt R ver = some cells ∧ off + i * esz + esz ≤ cells.length ∧ (cells.drop (off + i * esz)).take esz = e := by
 have hlt := (List.getElem?_eq_some_iff.1 hi).1
 rcases h with ⟨h0, ⟨rfl, rfl⟩ | ⟨R, ver, off, kcap, ex, cells, h1, h2, h3, h4, h5⟩⟩
 ·simp at hi
 ·have hm : (i + 1) * esz ≤ es.length * esz := Nat.mul_le_mul_right _ hlt
  rw [Nat.succ_mul] at hm
  refine ⟨R, ver, off, kcap, ex, cells, h1, h2, by omega, ?_⟩
  have := zt9 i e h0 hi
  rw [← h5, List.drop_take, List.take_take, List.drop_drop, Nat.min_eq_left (by omega)] at this
  exact this
theorem RdE.aCells {H : zz6} {esz : Nat} {v : AVal} {es : List (List AVal)} (h : RdE H esz v es) : Vm.aCells H esz v = some es.flatten := by
 rcases h with ⟨h0, ⟨rfl, rfl⟩ | ⟨R, ver, off, kcap, ex, cells, rfl, h2, h3, h4, h5⟩⟩
 ·rfl
 ·simp only [Vm.aCells, h2, Option.bind_some, h4, if_true, h5]
theorem zkj {es : List (List AVal)} (h : ∀ e ∈ es, e.all AVal.one = true) : es.flatten.all AVal.one = true := by
 rw [List.all_eq_true]
 intro c hc
 obtain ⟨e, he, hce⟩ := List.mem_flatten.1 hc
 exact List.all_eq_true.1 (h e he) c hce
theorem zk5 {cells : List AVal} {p esz j : Nat} {e : List AVal} (h : (cells.drop p).take esz = e) (hj : j < esz) : cells[p + j]? = e[j]? := by
 subst h
 rw [List.getElem?_take, if_pos hj, List.getElem?_drop]
theorem RdE.first {H : zz6} {esz : Nat} {v : AVal} {es : List (List AVal)} (h : RdE H esz v es) {k : Nat} (hk : k ≤ es.length) : ∃ v', zye esz v none (some (.raw (.int .i64 k))) none = some v' ∧ RdE H esz v' (es.take k) ∧ (∀ p, v.lies p → v'.lies p) := by
 rcases h with ⟨h0, ⟨rfl, rfl⟩ | ⟨R, ver, off, kcap, ex, cells, rfl, h2, h3, h4, h5⟩⟩
 ·have : k = 0 := by simpa using hk
  subst this
  exact ⟨zxa, rfl, ⟨h0, .inl ⟨rfl, rfl⟩⟩, fun p hp => hp⟩
 ·have hm : k * esz ≤ es.length * esz := Nat.mul_le_mul_right _ hk
  have hlen : (es.take k).length = k := by simp [Nat.min_eq_left hk]
  refine ⟨.slice R ver off k kcap ex esz, ?_, ⟨fun e he => h0 e (List.mem_of_mem_take he), .inr ⟨R, ver, off, kcap, ex, cells, ?_, h2, ?_, ?_, ?_⟩⟩, fun p hp R' ver' off' len' kcap' ex' esz' e => ?_⟩
  ·have e1 : (k : Int) ≤ kcap := by omega
   have e2 : (0 : Int) ≤ k := by omega
   simp [zye, zy7, zxz, ile_eq, e1, e2]
  ·rw [hlen]
  ·rw [hlen]; omega
  ·rw [hlen]; omega
  ·rw [hlen]
   have : (es.take k).flatten = es.flatten.take (k * esz) := by
    exact zxb k h0
   rw [this, ← h5, List.take_take, Nat.min_eq_left hm]
  ·cases e; exact hp R ver off _ kcap ex esz rfl
def zzw (H : zz6) (base esz : Nat) (v : AVal) (es : List (List AVal)) : Prop :=
 (∀ e ∈ es, e.length = esz) ∧ ((v = zxa ∧ es = []) ∨ ∃ R ver vs, base ≤ R ∧ R < H.next ∧ v = .slice R ver 0 es.length es.length false esz ∧ H.get R = some (.row vs) ∧ vs[ver]? = some (some (0, es.flatten)))
theorem zzw.nil (H : zz6) (base esz : Nat) : zzw H base esz zxa [] := ⟨fun e he => by simp at he, .inl ⟨rfl, rfl⟩⟩
theorem zzw.rd {H : zz6} {base esz : Nat} {v : AVal} {es : List (List AVal)} (h : zzw H base esz v es) : RdE H esz v es := by
 rcases h with ⟨h0, h | ⟨R, ver, vs, h1, h2, h3, h4, h5⟩⟩
 ·exact ⟨h0, .inl h⟩
 ·refine ⟨h0, .inr ⟨R, ver, 0, es.length, false, es.flatten, h3, by unfold zz6.rowAt; rw [h4]; simp only [h5], Nat.le_refl _, by rw [zy1 h0]; omega, ?_⟩⟩
  rw [List.drop_zero, List.take_of_length_le (by rw [zy1 h0]; exact Nat.le_refl _)]
theorem zzw.lies {H : zz6} {base esz : Nat} {v : AVal} {es : List (List AVal)} (h : zzw H base esz v es) : v.lies fun R => base ≤ R ∧ R < H.next := fun R ver off len kcap ex esz' e => by
 rcases h with ⟨_, ⟨rfl, _⟩ | ⟨R', ver', vs, h1, h2, h3, _⟩⟩
 ·cases e
 ·rw [h3] at e; cases e; exact ⟨h1, h2⟩
theorem zzw.move {H H' : zz6} {base base' esz : Nat} {v : AVal} {es : List (List AVal)} (h : zzw H base esz v es) (hb : base' ≤ base) (hn : H.next ≤ H'.next) (hg : ∀ A, base ≤ A → A < H.next → H'.get A = H.get A) : zzw H' base' esz v es := by
 rcases h with ⟨h0, h | ⟨R, ver, vs, h1, h2, h3, h4, h5⟩⟩
 ·exact ⟨h0, .inl h⟩
 ·exact ⟨h0, .inr ⟨R, ver, vs, by omega, by omega, h3, by rw [hg R h1 h2]; exact h4, h5⟩⟩
theorem zzw.append {H : zz6} {base esz bytes : Nat} {v : AVal} {es : List (List AVal)} (h : zzw H base esz v es) (hb : base ≤ H.next) {X : Nat} {e : List AVal} (hX : H.rowAt X 0 = some e) (he : e.length = esz) (h0 : 0 < esz) (hb0 : 0 < bytes)
  (hone : e.all AVal.one = true) (hlen : (es.length + 1) * bytes ≤ 140737488355328) {ex : Bool} {kc : Nat} :
  ∃ v' H', zzf H esz bytes v (.slice X 0 0 1 kc ex esz) = some (v', H') ∧ zzw H' base esz v' (es ++ [e]) ∧ H.next ≤ H'.next ∧ (∀ A, A < base → H'.get A = H.get A) ∧ (∀ A, A < H.next → (v.lies fun R => R ≠ A) → H'.get A = H.get A) ∧ ∀ p : Nat → Prop, v.lies p → (∀ R, H.next ≤ R → p R) → v'.lies p := by
 have hnews : aCells H esz (.slice X 0 0 1 kc ex esz) = some e := by
  simp only [aCells, hX, Option.bind_some, List.drop_zero, Nat.zero_add, Nat.one_mul, ← he, Nat.le_refl, if_true, List.take_length]
 have h00 : ∀ x ∈ es ++ [e], x.length = esz := fun x hx => by
  rcases List.mem_append.1 hx with h1 | h1
  ·exact h.1 x h1
  ·simp at h1; subst h1; exact he
 rcases h with ⟨hes, ⟨rfl, rfl⟩ | ⟨R, ver, vs, h1, h2, rfl, h4, h5⟩⟩
 ·refine ⟨.slice H.next 0 0 1 1 false esz, H.push (.row [some (0, e)]), ?_, ⟨h00, .inr ⟨H.next, 0, [some (0, e)], hb, by simp, rfl, zz6.zzl _ _, by simp⟩⟩, by simp, fun A hA => zz6.zz9 _ _ (by omega), fun A hA _ => zz6.zz9 _ _ (by omega), fun p _ hp R ver off len kcap ex' esz' e' => by cases e'; exact hp _ (Nat.le_refl _)⟩
  ·simp only [zzf, zjl, hnews, Option.bind_some, h0, hb0, hone, decide_true, Bool.and_self, if_true]
   simp at hlen
   simp [hlen]
 ·have hr : H.rowAt R ver = some es.flatten := by unfold zz6.rowAt; rw [h4]; simp only [h5]
  have hfl := zy1 hes
  refine ⟨.slice R vs.length 0 (es.length + 1) (es.length + 1) false esz, H.set R (.row (zwy vs (0 + 0 + es.length * esz) e.length (0 + 0) ((es.flatten.drop 0).take (es.length * esz) ++ e))), ?_, ⟨h00, .inr ⟨R, vs.length, _, h1, h2, by simp, zz6.zzy _ _ _, ?_⟩⟩, Nat.le_refl _, fun A hA => zz6.zzz _ _ (by omega), fun A _ hA => zz6.zzz _ _ fun e' => ?_, fun p hp _ R' ver' off' len' kcap' ex' esz' e' => by cases e'; exact hp R ver 0 _ _ _ _ rfl⟩
  ·have g1 : 0 + es.length * esz ≤ es.flatten.length := by omega
   have g2 : ¬ (es.length + 1 ≤ es.length) := by omega
   simp only [zzf, zjl, hnews, Option.bind_some, h0, hb0, hone, decide_true, Bool.and_self, if_true, g2, if_false, hlen, hr, g1, h4, h5, Bool.false_eq_true]
   simp
  ·unfold zwy
   rw [List.getElem?_append_right (by rw [zy2]; exact Nat.le_refl _), zy2]
   simp [List.take_of_length_le, hfl]
  ·exact hA R ver 0 _ _ _ _ rfl e'.symm
theorem RdE.appendNew {H : zz6} {esz bytes X : Nat} {v : AVal} {es : List (List AVal)} (h : RdE H esz v es) (h0 : es ≠ []) (hs : 0 < esz) (hb0 : 0 < bytes) (hone : ∀ e ∈ es, e.all AVal.one = true) (hlen : es.length * bytes ≤ 140737488355328) (hX : H.rowAt X 0 = some []) :
  zzf H esz bytes (.slice X 0 0 0 0 true esz) v = some (.slice H.next 0 0 es.length es.length false esz, H.push (.row [some (0, es.flatten)])) ∧ zzw (H.push (.row [some (0, es.flatten)])) H.next esz (.slice H.next 0 0 es.length es.length false esz) es := by
 have hn : es.length ≠ 0 := fun h1 => h0 (List.eq_nil_of_length_eq_zero h1)
 have hn' : ¬ (0 + es.length ≤ 0) := by omega
 refine ⟨?_, h.1, .inr ⟨H.next, 0, [some (0, es.flatten)], Nat.le_refl _, by simp, rfl, zz6.zzl _ _, rfl⟩⟩
 simp only [zzf, h.len, h.aCells, Option.bind_some, hn, if_false, hs, hb0, zkj hone, decide_true, Bool.and_self, if_true, hX, Nat.zero_mul, Nat.add_zero, Nat.zero_add, List.length_nil, Nat.le_refl, List.drop_nil, List.take_nil, List.nil_append, hlen, Nat.le_zero_eq, List.take_zero, List.drop_zero]
theorem zx6 (H : zz6) {z e : List AVal} (he : e.length = z.length) (h0 : 0 < e.length) (hv : e.all AVal.one = true) :
  ∃ H', (H.push (.row [some (0, z)])).write H.next 0 0 e = some H' ∧ Grow H H' ∧ Cells H' H.next e ∧ H'.next = H.next + 1 := by
 refine ⟨(H.push (.row [some (0, z)])).set H.next (.row [some (0, spl z 0 e)]), Cells.write (zz6.zzl _ _) h0 (by omega) hv, (Grow.push _ _).set (Nat.le_refl _) _, ?_, by simp⟩
 show zz6.get _ _ = _
 rw [zz6.zzy]
 simp [spl, he]
theorem zjd {α : Type} {n : Nat} {v : List α} (hv : v.length = n) : ∀ {es : List (List α)} (i : Nat), (∀ e ∈ es, e.length = n) → i < es.length → spl es.flatten (i * n) v = (es.set i v).flatten
 | [], i, _, hi => by simp at hi
 | e :: es, 0, h, hi => by
  have he := h e (List.mem_cons_self ..)
  simp only [spl, Nat.zero_mul, List.take_zero, List.nil_append, Nat.zero_add, List.set_cons_zero, List.flatten_cons, hv]
  rw [← he, List.drop_left']
  rfl
 | e :: es, i + 1, h, hi => by
  have he := h e (List.mem_cons_self ..)
  have ih := zjd hv i (fun x hx => h x (List.mem_cons_of_mem _ hx)) (by simpa using hi)
  simp only [List.set_cons_succ, List.flatten_cons]
  rw [← ih]
  unfold spl
  rw [Nat.succ_mul, List.take_append, List.drop_append, he, Nat.add_sub_cancel, List.take_of_length_le (by omega), List.append_assoc, List.drop_eq_nil_of_le (by omega), List.nil_append]
  congr 4
  omega
theorem zg9 {α : Type} {n i : Nat} {v : List α} {es : List (List α)} (hv : v.length = n) (h : ∀ e ∈ es, e.length = n) : ∀ e ∈ es.set i v, e.length = n := fun e he => by
 rcases List.mem_or_eq_of_mem_set he with h1 | rfl
 ·exact h e h1
 ·exact hv
end
section
variable {P : Program} {w : World} {X : Type}
structure zw4 (w : World) (ρ : Ren) (H : zz6) : Prop where
 fresh : ∀ A v, H.next ≤ A → ρ A v = none
 wf : ∀ A, H.next ≤ A → H.get A = none
 obj : ∀ A o, H.get A = some o → ∃ cells, o = .ro cells ∧ zxg ρ A ∧ ∃ l, ρ A 0 = some l ∧ zr8 ρ w l cells
 dom : ∀ A v l, ρ A v = some l → (∃ o, H.get A = some o) ∧ l.c < w.heap.size
def reads (w : World) : Base := { ρ := fun _ _ => none, own := fun _ => False, ro := fun _ _ _ => True, w := w }
theorem zw4.isRo {ρ : Ren} {H : zz6} (h : zw4 w ρ H) {A v : Nat} {l : Loc} (hl : ρ A v = some l) : isRo H A := by
 obtain ⟨⟨o, ho⟩, _⟩ := h.dom A v l hl
 obtain ⟨cells, rfl, _⟩ := h.obj A o ho
 exact ⟨cells, ho⟩
theorem zw4.hrel {ρ : Ren} {H : zz6} (h : zw4 w ρ H) : HRel P (reads w) ρ H w where
 le := fun A v l h => by cases h
 fresh := h.fresh
 wf := h.wf
 dom := fun A v l hl => (h.dom A v l hl).1
 obj := fun A o ho => by
  obtain ⟨cells, rfl, h1, h2⟩ := h.obj A o ho
  exact ⟨h1, h2⟩
 sep := fun A1 A2 v1 v2 l1 l2 e1 e2 _ => .inr ⟨h.isRo e1, h.isRo e2⟩
 own := fun A v l hl hr => (hr (h.isRo hl)).elim
 lt := fun A v l hl => (h.dom A v l hl).2
 size := Nat.le_refl _
 frame := fun _ _ _ => rfl
 side := Side.refl _
 ro := fun _ _ _ _ _ => trivial
theorem HRel.grownR {ρ : Ren} {H : zz6} {w w' : World} (h : HRel P (reads w) ρ H w') : Go.RowKit.Grown w w' := by
 refine ⟨⟨h.side.os, h.side.out, fun i hi => ?_⟩, h.side.fz, h.size⟩
 rw [h.frame i hi (fun x => x)]
 have : ∃ o, (reads w).w.heap[i]? = some o := ⟨w.heap[i], Array.getElem?_eq_getElem hi⟩
 obtain ⟨o, ho⟩ := this
 have ho' : w.heap[i]? = some o := ho
 rw [ho, ho']
 cases o <;> simp
theorem zw4.empty (w : World) : zw4 w (fun _ _ => none) .empty where
 fresh := fun _ _ _ => rfl
 wf := fun A _ => zz6.get_empty A
 obj := fun A o h => by rw [zz6.get_empty] at h; cases h
 dom := fun A v l h => by cases h
theorem zw4.add {ρ : Ren} {H : zz6} (h : zw4 w ρ H) {c s : Nat} {arr : Array Value} {e : TypeId} {fz : Nat × Nat} (hw : w.heap[c]? = some (.cells arr e fz)) {cells : List AVal} (hc : zyd ρ arr s cells) :
  zw4 w (ρ.put H.next 0 ⟨c, s, arr.size⟩) (H.push (.ro cells)) ∧ ρ.le (ρ.put H.next 0 ⟨c, s, arr.size⟩) := by
 have hn : ρ H.next 0 = none := h.fresh _ _ (Nat.le_refl _)
 have hle := Ren.put_le (l := ⟨c, s, arr.size⟩) hn
 refine ⟨⟨fun A v hA => ?_, fun A hA => ?_, fun A o ho => ?_, fun A v l hl => ?_⟩, hle⟩
 ·simp at hA
  rw [Ren.put_ne _ _ (by omega)]; exact h.fresh A v (by omega)
 ·simp at hA
  rw [zz6.zz9 _ _ (by omega)]; exact h.wf A (by omega)
 ·by_cases e' : A = H.next
  ·subst e'
   rw [zz6.zzl] at ho; cases ho
   refine ⟨cells, rfl, fun v hv => by rw [Ren.put_ne _ _ (by omega)]; exact h.fresh _ _ (Nat.le_refl _), _, Ren.put_same _ _ _ _, arr, e, fz, hw, rfl, hc.mono hle⟩
  ·rw [zz6.zz9 _ _ e'] at ho
   obtain ⟨cs, rfl, h1, l, h2, arr', e2, fz2, h3, h4, h5⟩ := h.obj A o ho
   refine ⟨cs, rfl, fun v hv => by rw [Ren.put_ne _ _ (by omega)]; exact h1 v hv, l, by rw [Ren.put_ne _ _ (by omega)]; exact h2, arr', e2, fz2, h3, h4, h5.mono hle⟩
 ·by_cases e' : A = H.next ∧ v = 0
  ·obtain ⟨rfl, rfl⟩ := e'
   rw [Ren.put_same] at hl; cases hl
   exact ⟨⟨_, zz6.zzl _ _⟩, (Array.getElem?_eq_some_iff.1 hw).1⟩
  ·rw [Ren.put_ne _ _ e'] at hl
   obtain ⟨⟨o, ho⟩, h2⟩ := h.dom A v l hl
   refine ⟨⟨o, ?_⟩, h2⟩
   rw [zz6.zz9 _ _ (fun e => by rw [e, h.wf _ (Nat.le_refl _)] at ho; cases ho)]; exact ho
def zxq (P : Program) (H : zz6) : Nat → TypeId → List AVal → DataW X → Prop
 | 0, _, _, _ => False
 | n + 1, t, cs, d =>
  match P.underlying t with
  | some .bool => ∃ b, cs = [.raw (.bool b)] ∧ d = .lit (.bool b)
  | some (.int k) => ∃ m, cs = [.raw (.int k m)] ∧ d = .lit (.int k m) ∧ (Lit.int k m).wf = true
  | some .string => ∃ s : ByteArray, cs = [.raw (.string s)] ∧ d = .lit (.string s.data.toList) ∧ s.size ≤ maxLen
  | some (.slice e) => (cs = [zxa] ∧ d = .nil) ∨ ∃ (A : Nat) (acss : List (List AVal)) (es sp : List (DataW X)), cs = [.slice A 0 0 es.length (es.length + sp.length) true (P.cellsOf e)] ∧ d = .slice es sp ∧ H.get A = some (.ro acss.flatten) ∧ es.length + sp.length ≤ maxLen ∧
    acss.length = es.length + sp.length ∧ ∀ (i : Nat) (x : DataW X) (acs : List AVal), (es ++ sp)[i]? = some x → acss[i]? = some acs → acs.length = P.cellsOf e ∧ zxq P H n e acs x
  | some (.struct fs) => ∃ (acss : List (List AVal)) (ds : List (DataW X)), cs = acss.flatten ∧ d = .agg ds ∧ acss.length = fs.size ∧ ds.length = fs.size ∧ ∀ (i : Nat) (f : Field) (x : DataW X) (acs : List AVal), fs[i]? = some f → ds[i]? = some x → acss[i]? = some acs → acs.length = P.cellsOf f.type ∧ zxq P H n f.type acs x
  | some (.array k e) => ∃ (acss : List (List AVal)) (ds : List (DataW X)), cs = acss.flatten ∧ d = .agg ds ∧ acss.length = k ∧ ds.length = k ∧ ∀ (i : Nat) (x : DataW X) (acs : List AVal), ds[i]? = some x → acss[i]? = some acs → acs.length = P.cellsOf e ∧ zxq P H n e acs x
  | _ => True
def zkp (H H' : zz6) : Prop := ∀ A cells, H.get A = some (.ro cells) → H'.get A = some (.ro cells)
theorem zkp.refl (H : zz6) : zkp H H := fun _ _ h => h
theorem zkp.trans {H H' H'' : zz6} (h : zkp H H') (h' : zkp H' H'') : zkp H H'' := fun A c hA => h' A c (h A c hA)
theorem zqn {H H' : zz6} (hk : zkp H H') : ∀ (n : Nat) (t : TypeId) (cs : List AVal) (d : DataW X), zxq P H n t cs d → zxq P H' n t cs d
 | 0, _, _, _, h => h
 | n + 1, t, cs, d, h => by
  unfold zxq at h ⊢
  split
  ·rename_i ht; rw [ht] at h; exact h
  ·rename_i ht; rw [ht] at h; exact h
  ·rename_i ht; rw [ht] at h; exact h
  ·rename_i e ht
   rw [ht] at h
   rcases h with h | ⟨A, acss, es, sp, h1, h2, h3, h4, h5, h6⟩
   ·exact .inl h
   ·exact .inr ⟨A, acss, es, sp, h1, h2, hk _ _ h3, h4, h5, fun i x acs a b => ⟨(h6 i x acs a b).1, zqn hk n _ _ _ (h6 i x acs a b).2⟩⟩
  ·rename_i fs ht
   rw [ht] at h
   obtain ⟨acss, ds, h1, h2, h3, h4, h5⟩ := h
   exact ⟨acss, ds, h1, h2, h3, h4, fun i f x acs a b c => ⟨(h5 i f x acs a b c).1, zqn hk n _ _ _ (h5 i f x acs a b c).2⟩⟩
  ·rename_i k e ht
   rw [ht] at h
   obtain ⟨acss, ds, h1, h2, h3, h4, h5⟩ := h
   exact ⟨acss, ds, h1, h2, h3, h4, fun i x acs a b => ⟨(h5 i x acs a b).1, zqn hk n _ _ _ (h5 i x acs a b).2⟩⟩
  ·trivial
def zqz (P : Program) (total : Nat) : List Field → Nat → Bool
 | [], o => o == total
 | f :: r, o => f.offset == o && zqz P total r (o + P.cellsOf f.type)
def tiles (P : Program) : Nat → TypeId → Bool
 | 0, _ => false
 | d + 1, t => match P.underlying t with
  | some .bool | some (.int _) | some .string => true
  | some (.slice e) => tiles P d e && Nat.blt 0 (P.cellsOf e)
  | some (.struct fs) => zqz P (P.cellsOf t) fs.toList 0 && fs.toList.all fun f => tiles P d f.type
  | some (.array n e) => n * P.cellsOf e == P.cellsOf t && tiles P d e
  | _ => false
theorem zpb {α : Type} (cs : List α) (n : Nat) : ∀ k, ((List.range k).map fun i => (cs.drop (i * n)).take n).flatten = cs.take (k * n)
 | 0 => by simp
 | k + 1 => by
  rw [List.range_succ, List.map_append, List.flatten_append, zpb cs n k]
  simp only [List.map_cons, List.map_nil, List.flatten_cons, List.flatten_nil, List.append_nil]
  rw [Nat.succ_mul, List.take_add]
theorem zrd (cs : List Value) : ∀ (fs : List Field) (o : Nat), zqz P cs.length fs o = true → (fs.map fun f => (cs.drop f.offset).take (P.cellsOf f.type)).flatten = cs.drop o
 | [], o, h => by
  simp [zqz] at h
  simp [h]
 | f :: r, o, h => by
  simp only [zqz, Bool.and_eq_true, beq_iff_eq] at h
  obtain ⟨rfl, h2⟩ := h
  simp only [List.map_cons, List.flatten_cons, zrd cs r _ h2]
  rw [← List.drop_drop, List.take_append_drop]
def zm1 (w : World) : Prop := ∃ (c : Nat) (arr : Array Value) (e : TypeId) (fz : Nat × Nat), w.heap[c]? = some (Obj.cells arr e fz)
variable {enc : TypeId × Value → X} {base : Nat} {held : Bool}
theorem zb8 {n d : Nat} (hb : zm1 w)
  (IH : ∀ (t : TypeId) (cs : List Value) (x : DataW X × List MemPlace) (ρ : Ren) (H : zz6), tiles P d t = true → zw4 w ρ H → DataW.trod enc P w base (fun _ => true) held n t cs = some x →
   ∃ (ρ' : Ren) (H' : zz6) (acs : List AVal), zw4 w ρ' H' ∧ ρ.le ρ' ∧ zkp H H' ∧ VRels ρ' acs cs ∧ zxq P H' n t acs x.1) :
  ∀ (segs : List (TypeId × List Value)) (xs : List (DataW X × List MemPlace)) (ρ : Ren) (H : zz6), (∀ (i : Nat) t cs, segs[i]? = some (t, cs) → tiles P d t = true ∧ ∃ x, xs[i]? = some x ∧ DataW.trod enc P w base (fun _ => true) held n t cs = some x) → zw4 w ρ H →
   ∃ (ρ' : Ren) (H' : zz6) (acss : List (List AVal)), zw4 w ρ' H' ∧ ρ.le ρ' ∧ zkp H H' ∧ acss.length = segs.length ∧ VRels ρ' acss.flatten (segs.map (·.2)).flatten ∧
    ∀ (i : Nat) t cs x acs, segs[i]? = some (t, cs) → xs[i]? = some x → acss[i]? = some acs → acs.length = cs.length ∧ zxq P H' n t acs x.1
 | [], xs, ρ, H, hs, ho => ⟨ρ, H, [], ho, Ren.le_refl _, zkp.refl _, rfl, .nil, fun i t cs x acs h => by simp at h⟩
 | (t, cs) :: segs, xs, ρ, H, hs, ho => by
  obtain ⟨h1, x, hx, h2⟩ := hs 0 t cs (by simp)
  obtain ⟨ρ1, H1, acs, o1, le1, k1, v1, s1⟩ := IH t cs x ρ H h1 ho h2
  cases xs with
  | nil => simp at hx
  | cons x' xs =>
   simp at hx; subst hx
   obtain ⟨ρ2, H2, acss, o2, le2, k2, n2, v2, s2⟩ := zb8 hb IH segs xs ρ1 H1 (fun i t cs h => by simpa using hs (i + 1) t cs (by simpa using h)) o1
   refine ⟨ρ2, H2, acs :: acss, o2, Ren.le_trans le1 le2, k1.trans k2, by simp [n2], by simpa using (v1.mono le2).append v2, fun i t' cs' y acs' a b c => ?_⟩
   cases i with
   | zero =>
    simp at a b c
    obtain ⟨rfl, rfl⟩ := a; subst b; subst c
    exact ⟨v1.length.symm, zqn k2 _ _ _ _ s1⟩
   | succ i => exact s2 i t' cs' y acs' (by simpa using a) (by simpa using b) (by simpa using c)
theorem zsj {a : Addr} {n : Nat} {cs : List Value} (h : w.cells? base a n = some cs) (hn : 0 < n) : ∃ (arr : Array Value) (e : TypeId) (fz : Nat × Nat), w.heap[a.block]? = some (Obj.cells arr e fz) ∧ a.spot = none ∧ ∀ i, i < n → arr[a.off + i]? = cs[i]? := by
 obtain ⟨_, hl, hc⟩ := World.cells?_some h
 have h0 := hc 0 hn
 have hx : ∃ v, cs[0]? = some v := ⟨cs[0], List.getElem?_eq_getElem (by omega)⟩
 obtain ⟨v, hv⟩ := hx
 rw [hv] at h0
 have e0 : a.add 0 = a := by simp [Addr.add]
 rw [e0] at h0
 have hs := World.cell?_spot h0
 unfold World.cell? at h0
 split at h0
 ·rename_i c e fz hb
  refine ⟨c, e, fz, hb, hs, fun i hi => ?_⟩
  rw [← hc i hi]
  unfold World.cell? Addr.add
  by_cases hi0 : i = 0
  ·subst hi0; simp [hb, hs]
  ·simp [hi0, hb]
 ·cases h0
theorem ztx (hb : zm1 w) : ∀ (n d : Nat) (t : TypeId) (cs : List Value) (x : DataW X × List MemPlace) (ρ : Ren) (H : zz6), tiles P d t = true → zw4 w ρ H → DataW.trod enc P w base (fun _ => true) held n t cs = some x →
   ∃ (ρ' : Ren) (H' : zz6) (acs : List AVal), zw4 w ρ' H' ∧ ρ.le ρ' ∧ zkp H H' ∧ VRels ρ' acs cs ∧ zxq P H' n t acs x.1
 | 0, _, _, _, _, _, _, _, _, h => by simp [DataW.trod] at h
 | n + 1, 0, _, _, _, _, _, ht, _, _ => by simp [tiles] at ht
 | n + 1, d + 1, t, cs, x, ρ, H, ht, ho, h => by
  have IH := fun t cs x ρ H => ztx hb n d t cs x ρ H
  unfold tiles at ht
  split at ht
  ·rename_i hu
   obtain ⟨b, rfl, rfl⟩ := DataW.trod_bool hu h
   exact ⟨ρ, H, [.raw (.bool b)], ho, Ren.le_refl _, zkp.refl _, .cons (.raw _) .nil, by unfold zxq; rw [hu]; exact ⟨b, rfl, rfl⟩⟩
  ·rename_i k hu
   obtain ⟨m, rfl, rfl, hw⟩ := DataW.trod_int hu h
   exact ⟨ρ, H, [.raw (.int k m)], ho, Ren.le_refl _, zkp.refl _, .cons (.raw _) .nil, by unfold zxq; rw [hu]; exact ⟨m, rfl, rfl, hw⟩⟩
  ·rename_i hu
   obtain ⟨s, rfl, rfl, hw⟩ := DataW.trod_string hu h
   exact ⟨ρ, H, [.raw (.string s)], ho, Ren.le_refl _, zkp.refl _, .cons (.raw _) .nil, by unfold zxq; rw [hu]; exact ⟨s, rfl, rfl, hw⟩⟩
  ·rename_i e hu
   simp only [Bool.and_eq_true, Nat.blt_eq] at ht
   obtain ⟨ht, hpos⟩ := ht
   rcases DataW.trod_slice hu h with ⟨rfl, rfl⟩ | ⟨a, len, cap, elems, rest, m, hm, rfl, rfl, _, hl, hcap, hlen, hel, hsp, _⟩
   ·exact ⟨ρ, H, [zxa], ho, Ren.le_refl _, zkp.refl _, .cons (.raw _) .nil, by unfold zxq; rw [hu]; exact .inl ⟨rfl, rfl⟩⟩
   ·cases hm
    obtain ⟨hr1, hr2⟩ := hsp rfl
    have hall : ∀ i, i < cap → ∃ ccs y, w.cells? base (a.add (i * P.cellsOf e)) (P.cellsOf e) = some ccs ∧ (elems ++ rest)[i]? = some y ∧ DataW.trod enc P w base (fun _ => true) held n e ccs = some y := fun i hi => by
     by_cases h1 : i < len
     ·have := hel i h1
      have hy : elems[i]? = some elems[i] := List.getElem?_eq_getElem (by omega)
      rw [hy, Option.bind_eq_some_iff] at this
      obtain ⟨ccs, e1, e2⟩ := this
      exact ⟨ccs, _, e1, by rw [List.getElem?_append_left (by omega)]; exact hy, e2⟩
     ·have := hr2 (i - len) (by omega)
      have hy : rest[i - len]? = some rest[i - len] := List.getElem?_eq_getElem (by omega)
      rw [hy, Option.bind_eq_some_iff, show len + (i - len) = i by omega] at this
      obtain ⟨ccs, e1, e2⟩ := this
      exact ⟨ccs, _, e1, by rw [List.getElem?_append_right (by omega), hlen]; exact hy, e2⟩
    by_cases hc0 : cap = 0
    ·-- no cells: a name for some block
     subst hc0
     obtain ⟨c, arr, e', fz, hblk⟩ := hb
     obtain ⟨o1, le1⟩ := ho.add hblk (s := 0) (cells := []) (fun i v hv => by simp at hv)
     have hl0 : len = 0 := by omega
     subst hl0
     have he : elems = [] := List.eq_nil_of_length_eq_zero hlen
     have hr : rest = [] := List.eq_nil_of_length_eq_zero (by omega)
     subst he; subst hr
     refine ⟨_, _, [.slice H.next 0 0 0 0 true (P.cellsOf e)], o1, le1, fun A cells hA => ?_, .cons (.sliceE (Ren.put_same _ _ _ _)) .nil, ?_⟩
     ·rw [zz6.zz9 _ _ (fun e => by rw [e, ho.wf _ (Nat.le_refl _)] at hA; cases hA)]; exact hA
     ·unfold zxq; rw [hu]
      exact .inr ⟨H.next, [], [], [], rfl, rfl, zz6.zzl _ _, by simp [maxLen], rfl, fun i x acs h => by simp at h⟩
    ·-- the elements, one by one
     have hsk : ∃ g : Nat → List Value, ∀ i, i < cap → w.cells? base (a.add (i * P.cellsOf e)) (P.cellsOf e) = some (g i) ∧ ∃ y, (elems ++ rest)[i]? = some y ∧ DataW.trod enc P w base (fun _ => true) held n e (g i) = some y := by
      refine ⟨fun i => if hi : i < cap then (hall i hi).choose else [], fun i hi => ?_⟩
      simp only [hi, dif_pos]
      obtain ⟨y, h1, h2, h3⟩ := (hall i hi).choose_spec
      exact ⟨h1, y, h2, h3⟩
     obtain ⟨g, hg⟩ := hsk
     obtain ⟨ρ1, H1, acss, o1, le1, k1, n1, v1, s1⟩ := zb8 hb IH ((List.range cap).map fun i => (e, g i)) (elems ++ rest) ρ H (fun i t cs hi => by
      rw [List.getElem?_map] at hi
      have hlt : i < cap := by
       rcases Nat.lt_or_ge i cap with h | h
       ·exact h
       ·rw [List.getElem?_eq_none (by simpa using h)] at hi; cases hi
      rw [List.getElem?_range hlt] at hi
      simp at hi
      obtain ⟨rfl, rfl⟩ := hi
      obtain ⟨_, y, h2, h3⟩ := hg i hlt
      exact ⟨ht, y, h2, h3⟩) ho
     simp only [List.length_map, List.length_range] at n1
     have hblk := zsj (hg 0 (by omega)).1 hpos
     rw [show a.add (0 * P.cellsOf e) = a by simp [Addr.add]] at hblk
     obtain ⟨arr, e', fz, hw, hspot, _⟩ := hblk
     have hcells : ∀ i, i < cap → ∀ j, j < P.cellsOf e → arr[a.off + (i * P.cellsOf e + j)]? = (g i)[j]? := fun i hi j hj => by
      obtain ⟨arr', e2, fz2, hw2, _, hcc⟩ := zsj (hg i hi).1 hpos
      have eb : (a.add (i * P.cellsOf e)).block = a.block := by unfold Addr.add; split <;> rfl
      have eo : (a.add (i * P.cellsOf e)).off = a.off + i * P.cellsOf e := by unfold Addr.add; split <;> simp_all
      rw [eb, hw] at hw2
      cases hw2
      rw [← hcc j hj, eo]; congr 1; omega
     have glen : ∀ i, i < cap → (g i).length = P.cellsOf e := fun i hi => (World.cells?_some (hg i hi).1).2.1
     have hflat : ((List.range cap).map fun i => (e, g i)).map (·.2) = (List.range cap).map g := by simp [Function.comp_def]
     rw [hflat] at v1
     have hat : ∀ (k : Nat), k ≤ cap → ∀ q (v : Value), (((List.range k).map g).flatten)[q]? = some v → arr[a.off + q]? = some v := fun k => by
      induction k with
      | zero => intro _ q v h; simp at h
      | succ k ih =>
       intro hk q v hq
       have hlen' : (((List.range k).map g).flatten).length = k * P.cellsOf e := by
        have : ∀ k, k ≤ cap → (((List.range k).map g).flatten).length = k * P.cellsOf e := fun k => by
         induction k with
         | zero => intro _; simp
         | succ k ih => intro hk; rw [List.range_succ, List.map_append, List.flatten_append, List.length_append, ih (by omega)]; simp [glen k (by omega), Nat.succ_mul]
        exact this k (by omega)
       rw [List.range_succ, List.map_append, List.flatten_append] at hq
       rcases Nat.lt_or_ge q (k * P.cellsOf e) with hlt | hge
       ·rw [List.getElem?_append_left (by omega)] at hq
        exact ih (by omega) q v hq
       ·rw [List.getElem?_append_right (by omega), hlen'] at hq
        simp only [List.map_cons, List.map_nil, List.flatten_cons, List.flatten_nil, List.append_nil] at hq
        have hj : q - k * P.cellsOf e < P.cellsOf e := by
         have := (List.getElem?_eq_some_iff.1 hq).1
         rw [glen k (by omega)] at this; exact this
        rw [← hcells k (by omega) _ hj] at hq
        rw [← hq]; congr 1; omega
     have hcat : zyd ρ1 arr a.off acss.flatten := fun q v hv => by
      obtain ⟨cv, h1, h2⟩ := v1.get q v hv
      exact ⟨cv, hat cap (Nat.le_refl _) q cv h1, h2⟩
     obtain ⟨o2, le2⟩ := o1.add hw hcat
     have htot : (((List.range cap).map g).flatten).length = cap * P.cellsOf e := by
      have : ∀ k, k ≤ cap → (((List.range k).map g).flatten).length = k * P.cellsOf e := fun k => by
       induction k with
       | zero => intro _; simp
       | succ k ih => intro hk; rw [List.range_succ, List.map_append, List.flatten_append, List.length_append, ih (by omega)]; simp [glen k (by omega), Nat.succ_mul]
      exact this cap (Nat.le_refl _)
     have hbound : a.off + cap * P.cellsOf e ≤ arr.size := by
      have hpos' : 0 < cap * P.cellsOf e := Nat.mul_pos (by omega) hpos
      have hx : (((List.range cap).map g).flatten)[cap * P.cellsOf e - 1]? = some (((List.range cap).map g).flatten)[cap * P.cellsOf e - 1] := List.getElem?_eq_getElem (by omega)
      have := (Array.getElem?_eq_some_iff.1 (hat cap (Nat.le_refl _) _ _ hx)).1
      omega
     have hk2 : zkp H1 (H1.push (.ro acss.flatten)) := fun A cells hA => by
      rw [zz6.zz9 _ _ (fun e => by rw [e, o1.wf _ (Nat.le_refl _)] at hA; cases hA)]; exact hA
     have hlr : elems.length + rest.length = cap := by omega
     refine ⟨_, _, [.slice H1.next 0 0 elems.length (elems.length + rest.length) true (P.cellsOf e)], o2, Ren.le_trans le1 le2, k1.trans hk2, .cons ?_ .nil, ?_⟩
     ·obtain ⟨ab, ao, asp⟩ := a
      simp only at hspot
      subst hspot
      rw [hlr, hlen]
      have := VRel.slice (ρ := ρ1.put H1.next 0 ⟨ab, ao, arr.size⟩) (A := H1.next) (ver := 0) (off := 0) (len := len) (kcap := cap) (ex := true) (esz := P.cellsOf e) (cap := cap) (Ren.put_same _ _ _ _) (Nat.le_refl _) hl (fun _ => rfl) (by simpa using hbound)
      simpa using this
     ·unfold zxq; rw [hu]
      refine .inr ⟨H1.next, acss, elems.map (·.1), rest.map (·.1), by simp, rfl, zz6.zzl _ _, by simp; omega, by simp; omega, fun i y acs hy hacs => ?_⟩
      have hi : i < cap := by have := (List.getElem?_eq_some_iff.1 hacs).1; omega
      obtain ⟨_, z, hz1, hz2⟩ := hg i hi
      have hy' : y = z.1 := by
       rw [← List.map_append, List.getElem?_map, hz1] at hy
       simpa using hy.symm
      obtain ⟨q1, q2⟩ := s1 i e (g i) z acs (by rw [List.getElem?_map, List.getElem?_range hi]; rfl) hz1 hacs
      rw [hy']
      exact ⟨by rw [q1, glen i hi], zqn hk2 _ _ _ _ q2⟩
  ·rename_i fs hu
   simp only [Bool.and_eq_true, List.all_eq_true] at ht
   obtain ⟨htr, htf⟩ := ht
   obtain ⟨xs, m, hm, rfl, hcl, hxl, hf⟩ := DataW.trod_struct hu h
   cases hm
   obtain ⟨ρ1, H1, acss, o1, le1, k1, n1, v1, s1⟩ := zb8 hb IH (fs.toList.map fun f => (f.type, (cs.drop f.offset).take (P.cellsOf f.type))) xs ρ H (fun i t' cs' hi => by
    rw [List.getElem?_map] at hi
    obtain ⟨f, hfi, he⟩ := Option.map_eq_some_iff.1 hi
    cases he
    have hfi' : fs[i]? = some f := by simpa using hfi
    have hlt : i < fs.size := (Array.getElem?_eq_some_iff.1 hfi').1
    have hx : xs[i]? = some xs[i] := List.getElem?_eq_getElem (by omega)
    exact ⟨htf f (by rw [← Array.mem_def]; exact Array.mem_of_getElem? hfi'), xs[i], hx, by rw [hf i f hfi', hx]⟩) ho
   have hfl := zrd (P := P) cs fs.toList 0 (by rw [hcl]; exact htr)
   have hmm : ((fs.toList.map fun f => (f.type, (cs.drop f.offset).take (P.cellsOf f.type))).map (·.2)) = fs.toList.map fun f => (cs.drop f.offset).take (P.cellsOf f.type) := by simp [Function.comp_def]
   rw [hmm, hfl] at v1
   refine ⟨ρ1, H1, acss.flatten, o1, le1, k1, by simpa using v1, ?_⟩
   unfold zxq; rw [hu]
   refine ⟨acss, xs.map (·.1), rfl, rfl, by simpa using n1, by simpa using hxl, fun i f y acs hfi hy hacs => ?_⟩
   have hlt : i < fs.size := (Array.getElem?_eq_some_iff.1 hfi).1
   have hx : xs[i]? = some xs[i] := List.getElem?_eq_getElem (by omega)
   have hy' : y = xs[i].1 := by rw [List.getElem?_map, hx] at hy; simpa using hy.symm
   obtain ⟨q1, q2⟩ := s1 i f.type ((cs.drop f.offset).take (P.cellsOf f.type)) xs[i] acs (by rw [List.getElem?_map]; simp [hfi]) hx hacs
   rw [hy']
   refine ⟨?_, q2⟩
   rw [q1]
   -- the part's length is the type's
   have : ∀ (fs : List Field) (o i : Nat) (f : Field), zqz P cs.length fs o = true → fs[i]? = some f → f.offset + P.cellsOf f.type ≤ cs.length ∧ o ≤ cs.length := fun fs => by
    induction fs with
    | nil => intro o i f h hi; simp at hi
    | cons g r ih =>
     intro o i f h hi
     simp only [zqz, Bool.and_eq_true, beq_iff_eq] at h
     obtain ⟨rfl, h2⟩ := h
     have hle : g.offset + P.cellsOf g.type ≤ cs.length := by
      cases r with
      | nil => simp [zqz] at h2; omega
      | cons g2 r2 => exact (ih _ 0 g2 h2 (by simp)).2
     cases i with
     | zero => simp at hi; subst hi; exact ⟨hle, by omega⟩
     | succ i => exact ⟨(ih _ i f h2 (by simpa using hi)).1, by omega⟩
   have := (this fs.toList 0 i f (by rw [hcl]; exact htr) (by simpa using hfi)).1
   rw [List.length_take, List.length_drop]; omega
  ·rename_i k e hu
   simp only [Bool.and_eq_true, beq_iff_eq] at ht
   obtain ⟨hn, ht⟩ := ht
   obtain ⟨xs, m, hm, rfl, hcl, hxl, hf⟩ := DataW.trod_array hu h
   cases hm
   obtain ⟨ρ1, H1, acss, o1, le1, k1, n1, v1, s1⟩ := zb8 hb IH ((List.range k).map fun i => (e, (cs.drop (i * P.cellsOf e)).take (P.cellsOf e))) xs ρ H (fun i t' cs' hi => by
    rw [List.getElem?_map] at hi
    obtain ⟨j, hj, he⟩ := Option.map_eq_some_iff.1 hi
    cases he
    have hlt : i < k := by
     have := (List.getElem?_eq_some_iff.1 hj).1
     simpa using this
    rw [List.getElem?_range hlt] at hj
    cases hj
    have hx : xs[i]? = some xs[i] := List.getElem?_eq_getElem (by omega)
    exact ⟨ht, xs[i], hx, by rw [hf i hlt, hx]⟩) ho
   have hmm : (((List.range k).map fun i => (e, (cs.drop (i * P.cellsOf e)).take (P.cellsOf e))).map (·.2)) = (List.range k).map fun i => (cs.drop (i * P.cellsOf e)).take (P.cellsOf e) := by simp [Function.comp_def]
   rw [hmm, zpb, hn, ← hcl, List.take_length] at v1
   refine ⟨ρ1, H1, acss.flatten, o1, le1, k1, v1, ?_⟩
   unfold zxq; rw [hu]
   refine ⟨acss, xs.map (·.1), rfl, rfl, by simpa using n1, by simpa using hxl, fun i y acs hy hacs => ?_⟩
   have hlt : i < k := by have := (List.getElem?_eq_some_iff.1 hacs).1; simp at n1; omega
   have hx : xs[i]? = some xs[i] := List.getElem?_eq_getElem (by omega)
   have hy' : y = xs[i].1 := by rw [List.getElem?_map, hx] at hy; simpa using hy.symm
   obtain ⟨q1, q2⟩ := s1 i e _ xs[i] acs (by rw [List.getElem?_map, List.getElem?_range hlt]; rfl) hx hacs
   rw [hy']
   refine ⟨?_, q2⟩
   rw [q1]
   have : (i + 1) * P.cellsOf e ≤ k * P.cellsOf e := Nat.mul_le_mul_right _ hlt
   rw [Nat.succ_mul] at this
   rw [List.length_take, List.length_drop]; omega
  ·cases ht
end
end Go.Vm
