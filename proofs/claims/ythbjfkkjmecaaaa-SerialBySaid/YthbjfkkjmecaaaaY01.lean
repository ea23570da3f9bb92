/- The abstract machine, part 3: abstract heaps, their relation to worlds, and what a new row, a store and a growing row do to it. -/
import Derived.Test.YthbjfkkjmecaaaaY00
set_option linter.unusedVariables false
set_option linter.unusedSimpArgs false
namespace Go.Vm
open Go
structure zfq where
 state : LoopState
 pending : Option zym
 tmps : List AVal
 params : List Nat
 assign : zym
 body : zym
 defers : Nat
 deriving Inhabited
abbrev zuq := List (Option (Nat × List AVal))
inductive AObj where
 | row (vs : zuq)
 | ro (cells : List AVal)
 | map (es : List (AVal × AVal × Nat)) (clock : Nat)
 | loop (l : zfq)
 | defs (taken : Bool)
 | iter (M : Option Nat) (since : Nat) (seen : List Nat) (last : Nat)
 deriving Inhabited
structure zz6 where
 next : Nat
 tr : Tr AObj
 deriving Inhabited
def zz6.get (H : zz6) (A : Nat) : Option AObj := H.tr.get A
def zz6.set (H : zz6) (A : Nat) (o : AObj) : zz6 := { H with tr := H.tr.set o A }
def zz6.push (H : zz6) (o : AObj) : zz6 := { next := H.next + 1, tr := H.tr.set o H.next }
def zz6.skip (H : zz6) : zz6 := { H with next := H.next + 1 }
def zz6.empty : zz6 := { next := 0, tr := .leaf }
theorem zz6.get_set (H : zz6) (A B : Nat) (o : AObj) : (H.set A o).get B = if B = A then some o else H.get B := by simp [zz6.get, zz6.set, Tr.get_set]
theorem zz6.get_push (H : zz6) (B : Nat) (o : AObj) : (H.push o).get B = if B = H.next then some o else H.get B := by simp [zz6.get, zz6.push, Tr.get_set]
@[simp] theorem zz6.next_set (H : zz6) (A : Nat) (o : AObj) : (H.set A o).next = H.next := rfl
@[simp] theorem zz6.zyc (H : zz6) (o : AObj) : (H.push o).next = H.next + 1 := rfl
theorem zz6.zzy (H : zz6) (A : Nat) (o : AObj) : (H.set A o).get A = some o := by simp [zz6.get_set]
theorem zz6.zzz (H : zz6) {A B : Nat} (o : AObj) (h : B ≠ A) : (H.set A o).get B = H.get B := by simp [zz6.get_set, h]
theorem zz6.zzl (H : zz6) (o : AObj) : (H.push o).get H.next = some o := by simp [zz6.get_push]
theorem zz6.zz9 (H : zz6) {B : Nat} (o : AObj) (h : B ≠ H.next) : (H.push o).get B = H.get B := by simp [zz6.get_push, h]
def zz6.rowAt (H : zz6) (A ver : Nat) : Option (List AVal) :=
 match H.get A with
 | some (.row vs) => match vs[ver]? with | some (some (_, l)) => some l | _ => none
 | some (.ro l) => if ver = 0 then some l else none
 | _ => none
def killAt (p n : Nat) : zuq → zuq
 | [] => []
 | none :: r => none :: killAt p n r
 | some (rel, l) :: r => (if p < rel + l.length && rel < p + n then none else some (rel, l)) :: killAt p n r
def spl {α : Type} (cells : List α) (off : Nat) (vals : List α) : List α := cells.take off ++ (vals ++ cells.drop (off + vals.length))
def zz6.write (H : zz6) (A ver off : Nat) (vals : List AVal) : Option zz6 :=
 match H.get A with
 | some (.row vs) =>
  match vs[ver]? with
  | some (some (rel, l)) =>
   if 0 < vals.length && off + vals.length ≤ l.length && vals.all AVal.one then
    some (H.set A (.row ((killAt (rel + off) vals.length vs).set ver (some (rel, spl l off vals)))))
   else none
  | _ => none
 | _ => none
def isRo (H : zz6) (A : Nat) : Prop := ∃ l, H.get A = some (.ro l)
def zyd (ρ : Ren) (arr : Array Value) (s : Nat) (l : List AVal) : Prop := ∀ (i : Nat) (v : AVal), l[i]? = some v → ∃ cv, arr[s + i]? = some cv ∧ VRel ρ v cv
def NF (fz : Nat × Nat) (n : Nat) : Prop := ∀ i, i < n → ¬ (fz.1 ≤ i ∧ i < fz.2)
def zr8 (ρ : Ren) (w : World) (l : Loc) (cells : List AVal) : Prop := ∃ arr e fz, w.heap[l.c]? = some (.cells arr e fz) ∧ arr.size = l.n ∧ zyd ρ arr l.s cells
theorem NF.le {fz : Nat × Nat} {n : Nat} (h : NF fz (n + 1)) : NF fz n := fun i hi => h i (Nat.lt_succ_of_lt hi)
def zfp (w : World) (l : Loc) : Prop := ∃ arr e fz, w.heap[l.c]? = some (.cells arr e fz) ∧ arr.size = l.n ∧ NF fz (l.n + 1)
def zzv (ρ : Ren) : List (AVal × AVal × Nat) → List MapEntry → Prop
 | [], [] => True
 | (k, v, b) :: r, e :: es => VRel ρ k e.key ∧ VRel ρ v e.val ∧ e.born = b ∧ zzv ρ r es
 | _, _ => False
def zav (P : Program) : Option zym → Option Code → Prop
 | none, none => True
 | some a, some c => zyv P c = some a
 | _, _ => False
def zuv (P : Program) (ρ : Ren) (L : zfq) (l : Loop) : Prop :=
 l.state = L.state ∧ zav P L.pending l.pending ∧ VRels ρ L.tmps l.tmps.toList ∧ l.params.toList = L.params ∧ zyv P l.assign = some L.assign ∧ zyv P l.body = some L.body ∧
 ∃ x, ρ L.defers 0 = some x ∧ x.c = l.defers
def zxg (ρ : Ren) (A : Nat) : Prop := ∀ v, v ≠ 0 → ρ A v = none
def zv3 (ρ : Ren) (w : World) (A : Nat) (vs : zuq) : Prop :=
 (∀ v, vs.length ≤ v → ρ A v = none) ∧
 (∀ v, v < vs.length → ∃ l, ρ A v = some l ∧ zfp w l) ∧
 (∀ (v rel : Nat) (cells : List AVal) l, vs[v]? = some (some (rel, cells)) → ρ A v = some l → zr8 ρ w l cells) ∧
 (∀ (v1 v2 r1 r2 : Nat) (c1 c2 : List AVal) l1 l2, vs[v1]? = some (some (r1, c1)) → vs[v2]? = some (some (r2, c2)) → ρ A v1 = some l1 → ρ A v2 = some l2 → l1.c = l2.c → l1.s + r2 = l2.s + r1)
def zbh (ρ : Ren) : Option Nat → Option Nat → Prop
 | none, none => True
 | some M, some c => ∃ x, ρ M 0 = some x ∧ c = x.c
 | _, _ => False
def zwc (P : Program) (ρ : Ren) (w : World) (A : Nat) : AObj → Prop
 | .row vs => zv3 ρ w A vs
 | .ro cells => zxg ρ A ∧ ∃ l, ρ A 0 = some l ∧ zr8 ρ w l cells
 | .map es clock => zxg ρ A ∧ ∃ l ces, ρ A 0 = some l ∧ w.heap[l.c]? = some (.map ces clock) ∧ zzv ρ es ces.toList
 | .loop L => zxg ρ A ∧ ∃ l r, ρ A 0 = some l ∧ w.heap[l.c]? = some (.loop r) ∧ zuv P ρ L r
 | .defs taken => zxg ρ A ∧ ∃ l, ρ A 0 = some l ∧ w.heap[l.c]? = some (.deferred (if taken then none else some []))
 | .iter M since seen last => zxg ρ A ∧ ∃ l cm, ρ A 0 = some l ∧ l.s = 0 ∧ w.heap[l.c]? = some (.mapIter cm since seen.toArray last) ∧ zbh ρ M cm
structure Side (w0 w : World) : Prop where
 os : w.os = w0.os
 out : w.output = w0.output
 fz : ∀ a, w.frozen? a = w0.frozen? a
theorem Side.refl (w : World) : Side w w := ⟨rfl, rfl, fun _ => rfl⟩
theorem Side.trans {w0 w w' : World} (h : Side w0 w) (h' : Side w w') : Side w0 w' := ⟨h'.os.trans h.os, h'.out.trans h.out, fun a => (h'.fz a).trans (h.fz a)⟩
def zah : Obj → Prop
 | .cells _ _ fz => fz = (0, 0)
 | _ => True
def yx2 : Obj → Prop
 | .cells _ _ _ => False
 | _ => True
theorem Side.alloc (w : World) {co : Obj} (h : zah co) : Side w (w.alloc co) := by
 refine ⟨rfl, rfl, fun a => ?_⟩
 unfold World.frozen? World.alloc
 by_cases e : a.block = w.heap.size
 ·have e1 : (w.heap.push co)[a.block]? = some co := by rw [e]; simp
  have e2 : w.heap[a.block]? = none := by rw [e]; simp
  simp only [e1, e2]
  cases co with
  | cells c t fz => cases h; simp
  | _ => rfl
 ·have e1 : (w.heap.push co)[a.block]? = w.heap[a.block]? := by rw [Array.getElem?_push, if_neg e]
  simp only [e1]
theorem Side.putCells {w : World} {c : Nat} {arr arr' : Array Value} {e : TypeId} {fz : Nat × Nat} (h : w.heap[c]? = some (.cells arr e fz)) : Side w (w.putObj c (.cells arr' e fz)) := by
 have hc : c < w.heap.size := (Array.getElem?_eq_some_iff.1 h).1
 refine ⟨rfl, rfl, fun a => ?_⟩
 unfold World.frozen?
 by_cases e : a.block = c
 ·rw [e, World.putObj_heap_same hc, h]
 ·rw [World.putObj_heap_other e]
theorem Side.putPlain {w : World} {c : Nat} {o co : Obj} (h : w.heap[c]? = some o) (ho : yx2 o) (hco : yx2 co) : Side w (w.putObj c co) := by
 have hc : c < w.heap.size := (Array.getElem?_eq_some_iff.1 h).1
 refine ⟨rfl, rfl, fun a => ?_⟩
 unfold World.frozen?
 by_cases e : a.block = c
 ·rw [e, World.putObj_heap_same hc, h]
  cases o with
  | cells => exact ho.elim
  | _ => cases co with
   | cells => exact hco.elim
   | _ => rfl
 ·rw [World.putObj_heap_other e]
structure Base where
 ρ : Ren
 own : Nat → Prop
 ro : Nat → Nat → Loc → Prop
 w : World
structure HRel (P : Program) (B : Base) (ρ : Ren) (H : zz6) (w : World) : Prop where
 le : B.ρ.le ρ
 fresh : ∀ A v, H.next ≤ A → ρ A v = none
 wf : ∀ A, H.next ≤ A → H.get A = none
 dom : ∀ A v l, ρ A v = some l → ∃ o, H.get A = some o
 obj : ∀ A o, H.get A = some o → zwc P ρ w A o
 sep : ∀ A1 A2 v1 v2 l1 l2, ρ A1 v1 = some l1 → ρ A2 v2 = some l2 → l1.c = l2.c → A1 = A2 ∨ (isRo H A1 ∧ isRo H A2)
 own : ∀ A v l, ρ A v = some l → ¬ isRo H A → B.own l.c ∨ B.w.heap.size ≤ l.c
 lt : ∀ A v l, ρ A v = some l → l.c < w.heap.size
 size : B.w.heap.size ≤ w.heap.size
 frame : ∀ c, c < B.w.heap.size → ¬ B.own c → w.heap[c]? = B.w.heap[c]?
 side : Side B.w w
 ro : ∀ A v l, isRo H A → ρ A v = some l → B.ro A v l
def yk7 (ρ : Ren) (H : zz6) (c : Nat) : Prop := ∃ A v l, ρ A v = some l ∧ ¬ isRo H A ∧ l.c = c
def here (ρ : Ren) (H : zz6) (w : World) : Base := { ρ := ρ, own := yk7 ρ H, ro := fun A v l => isRo H A ∧ ρ A v = some l, w := w }
variable {P : Program} {B : Base} {ρ ρ' : Ren} {H H' : zz6} {w w' : World}
theorem zyd.mono (hle : ρ.le ρ') {arr : Array Value} {s : Nat} {l : List AVal} (h : zyd ρ arr s l) : zyd ρ' arr s l :=
 fun i v hv => let ⟨cv, h1, h2⟩ := h i v hv; ⟨cv, h1, h2.mono hle⟩
theorem zzv.mono (hle : ρ.le ρ') : ∀ {es : List (AVal × AVal × Nat)} {ces : List MapEntry}, zzv ρ es ces → zzv ρ' es ces
 | [], [], _ => trivial
 | [], _ :: _, h => h.elim
 | _ :: _, [], h => h.elim
 | (_, _, _) :: _, _ :: _, ⟨h1, h2, h3, h4⟩ => ⟨h1.mono hle, h2.mono hle, h3, zzv.mono hle h4⟩
theorem zwc.keep {A : Nat} {o : AObj} (h : zwc P ρ w A o) (hle : ρ.le ρ') (hA : ∀ v, ρ' A v = ρ A v) (hw : ∀ v l, ρ A v = some l → w'.heap[l.c]? = w.heap[l.c]?) : zwc P ρ' w' A o := by
 have hS : zxg ρ A → zxg ρ' A := fun h v hv => by rw [hA]; exact h v hv
 cases o with
 | row vs =>
  obtain ⟨h1, h2, h3, h4⟩ := h
  refine ⟨fun v hv => by rw [hA]; exact h1 v hv, fun v hv => ?_, fun v rel cells l hv hl => ?_, fun v1 v2 r1 r2 c1 c2 l1 l2 e1 e2 f1 f2 => ?_⟩
  ·obtain ⟨l, hl, arr, e, fz, ha, hb⟩ := h2 v hv
   exact ⟨l, by rw [hA]; exact hl, arr, e, fz, by rw [hw v l hl]; exact ha, hb⟩
  ·rw [hA] at hl
   obtain ⟨arr, e, fz, ha, hb, hc⟩ := h3 v rel cells l hv hl
   exact ⟨arr, e, fz, by rw [hw v l hl]; exact ha, hb, hc.mono hle⟩
  ·rw [hA] at f1 f2; exact h4 v1 v2 r1 r2 c1 c2 l1 l2 e1 e2 f1 f2
 | ro cells =>
  obtain ⟨hs, l, hl, arr, e, fz, ha, hb, hc⟩ := h
  exact ⟨hS hs, l, by rw [hA]; exact hl, arr, e, fz, by rw [hw _ l hl]; exact ha, hb, hc.mono hle⟩
 | map es clock =>
  obtain ⟨hs, l, ces, hl, ha, hb⟩ := h
  exact ⟨hS hs, l, ces, by rw [hA]; exact hl, by rw [hw _ l hl]; exact ha, hb.mono hle⟩
 | loop L =>
  obtain ⟨hs, l, r, hl, ha, h1, h2, h4, h5, h6, h7, x, h8, h9⟩ := h
  exact ⟨hS hs, l, r, by rw [hA]; exact hl, by rw [hw _ l hl]; exact ha, h1, h2, h4.mono hle, h5, h6, h7, x, hle _ _ _ h8, h9⟩
 | defs taken =>
  obtain ⟨hs, l, hl, ha⟩ := h
  exact ⟨hS hs, l, by rw [hA]; exact hl, by rw [hw _ l hl]; exact ha⟩
 | iter M since seen last =>
  obtain ⟨hs, l, cm, hl, h0, ha, hr⟩ := h
  refine ⟨hS hs, l, cm, by rw [hA]; exact hl, h0, by rw [hw _ l hl]; exact ha, ?_⟩
  cases M <;> cases cm <;> simp only [zbh] at hr ⊢
  obtain ⟨x, h1, h2⟩ := hr
  exact ⟨x, hle _ _ _ h1, h2⟩
theorem HRel.here (h : HRel P B ρ H w) : HRel P (here ρ H w) ρ H w where
 le := Ren.le_refl _
 fresh := h.fresh
 wf := h.wf
 dom := h.dom
 obj := h.obj
 sep := h.sep
 own := fun A v l hl hr => .inl ⟨A, v, l, hl, hr, rfl⟩
 lt := h.lt
 size := Nat.le_refl _
 frame := fun _ _ _ => rfl
 side := Side.refl _
 ro := fun _ _ _ h1 h2 => ⟨h1, h2⟩
theorem HRel.trans (h : HRel P B ρ H w) (h' : HRel P (Vm.here ρ H w) ρ' H' w') : HRel P B ρ' H' w' where
 le := Ren.le_trans h.le h'.le
 fresh := h'.fresh
 wf := h'.wf
 dom := h'.dom
 obj := h'.obj
 sep := h'.sep
 own := fun A v l hl hr => by
  rcases h'.own A v l hl hr with ⟨A0, v0, l0, h1, h2, h3⟩ | h1
  ·rw [← h3]; exact h.own A0 v0 l0 h1 h2
  ·exact .inr (Nat.le_trans h.size h1)
 lt := h'.lt
 size := Nat.le_trans h.size h'.size
 frame := fun c hc hn => by
  have hlt : c < w.heap.size := Nat.lt_of_lt_of_le hc h.size
  rw [← h.frame c hc hn]
  refine h'.frame c hlt ?_
  rintro ⟨A, v, l, h1, h2, rfl⟩
  rcases h.own A v l h1 h2 with h3 | h3
  ·exact hn h3
  ·omega
 side := h.side.trans h'.side
 ro := fun A v l h1 h2 => let ⟨h3, h4⟩ := h'.ro A v l h1 h2; h.ro A v l h3 h4
theorem HRel.rowAt (h : HRel P B ρ H w) {A ver : Nat} {cells : List AVal} {l : Loc} (hr : H.rowAt A ver = some cells) (hl : ρ A ver = some l) : zr8 ρ w l cells := by
 unfold zz6.rowAt at hr
 split at hr
 ·rename_i vs hg
  split at hr
  ·rename_i rel l' hv; cases hr
   exact (h.obj A _ hg).2.2.1 ver rel cells l hv hl
  ·cases hr
 ·rename_i l' hg
  split at hr
  ·rename_i h0; subst h0; cases hr
   obtain ⟨_, l0, h1, h2⟩ := h.obj A _ hg
   rw [h1] at hl; cases hl; exact h2
  ·cases hr
 ·cases hr
theorem zkq {c : Nat} {arr : Array Value} {e : TypeId} {fz : Nat × Nat} (hw : w.heap[c]? = some (.cells arr e fz)) (i : Nat) : w.cell? ⟨c, i, none⟩ = arr[i]? := by
 simp [World.cell?, hw]
theorem frozen_of_row {c : Nat} {arr : Array Value} {e : TypeId} {fz : Nat × Nat} (hw : w.heap[c]? = some (.cells arr e fz)) (i : Nat) : w.frozen? ⟨c, i, none⟩ = (decide (fz.1 ≤ i) && decide (i < fz.2)) := by
 obtain ⟨a, b⟩ := fz
 simp [World.frozen?, hw]
def Ren.put (ρ : Ren) (A v : Nat) (l : Loc) : Ren := fun A' v' => if A' = A ∧ v' = v then some l else ρ A' v'
theorem Ren.put_same (ρ : Ren) (A v : Nat) (l : Loc) : ρ.put A v l A v = some l := by simp [Ren.put]
theorem Ren.put_ne (ρ : Ren) {A v A' v' : Nat} (l : Loc) (h : ¬ (A' = A ∧ v' = v)) : ρ.put A v l A' v' = ρ A' v' := by simp [Ren.put, h]
theorem Ren.put_le {A v : Nat} {l : Loc} (h : ρ A v = none) : ρ.le (ρ.put A v l) := fun A' v' x hx => by
 by_cases e : A' = A ∧ v' = v
 ·obtain ⟨rfl, rfl⟩ := e; rw [h] at hx; cases hx
 ·rw [Ren.put_ne _ _ e]; exact hx
theorem zum {o : AObj} (hf : H.get H.next = none) (ho : ∀ l, o ≠ .ro l) (A : Nat) : isRo (H.push o) A ↔ isRo H A := by
 unfold isRo
 rw [zz6.get_push]
 split
 ·rename_i e; subst e; rw [hf]; simp [ho]
 ·rfl
theorem HRel.push (h : HRel P B ρ H w) {o : AObj} {co : Obj} {s n : Nat} (ho : ∀ l, o ≠ .ro l)
  (hrel : zwc P (ρ.put H.next 0 ⟨w.heap.size, s, n⟩) (w.alloc co) H.next o) (hco : zah co := by trivial) :
  HRel P B (ρ.put H.next 0 ⟨w.heap.size, s, n⟩) (H.push o) (w.alloc co) := by
 have hwf := h.wf _ (Nat.le_refl _)
 have hn : ρ H.next 0 = none := h.fresh _ _ (Nat.le_refl _)
 have hle := Ren.put_le (l := ⟨w.heap.size, s, n⟩) hn
 have key : ∀ A v l, ρ.put H.next 0 ⟨w.heap.size, s, n⟩ A v = some l → (A = H.next ∧ v = 0 ∧ l.c = w.heap.size) ∨ (A ≠ H.next ∧ ρ A v = some l) := fun A v l hl => by
  by_cases e : A = H.next ∧ v = 0
  ·obtain ⟨rfl, rfl⟩ := e; rw [Ren.put_same] at hl; cases hl; exact .inl ⟨rfl, rfl, rfl⟩
  ·rw [Ren.put_ne _ _ e] at hl
   refine .inr ⟨fun e' => ?_, hl⟩
   rw [h.fresh A v (by omega)] at hl; cases hl
 have hold : ∀ c, c < w.heap.size → (w.alloc co).heap[c]? = w.heap[c]? := fun c hc => by
  simp only [World.alloc, Array.getElem?_push]; rw [if_neg (by omega)]
 refine ⟨Ren.le_trans h.le hle, fun A v hA => ?_, fun A hA => ?_, fun A v l hl => ?_, fun A o' hg => ?_, fun A1 A2 v1 v2 l1 l2 e1 e2 e3 => ?_, fun A v l hl hr => ?_, fun A v l hl => ?_, ?_, fun c hc hb => ?_, h.side.trans (Side.alloc w hco), fun A v l hr hl => ?_⟩
 ·simp at hA; rw [Ren.put_ne _ _ (by omega)]; exact h.fresh _ _ (by omega)
 ·simp at hA; rw [zz6.zz9 _ _ (by omega)]; exact h.wf _ (by omega)
 ·rcases key A v l hl with ⟨rfl, _, _⟩ | ⟨h1, h2⟩
  ·exact ⟨o, zz6.zzl _ _⟩
  ·obtain ⟨o', ho'⟩ := h.dom A v l h2; exact ⟨o', by rw [zz6.zz9 _ _ h1]; exact ho'⟩
 ·by_cases e : A = H.next
  ·subst e; rw [zz6.zzl] at hg; cases hg; exact hrel
  ·rw [zz6.zz9 _ _ e] at hg
   exact (h.obj A o' hg).keep hle (fun v => by rw [Ren.put_ne _ _ (by omega)]) (fun v l hl => hold _ (h.lt A v l hl))
 ·rw [zum hwf ho, zum hwf ho]
  rcases key _ _ _ e1 with ⟨a1, _, a3⟩ | ⟨a1, a2⟩ <;> rcases key _ _ _ e2 with ⟨b1, _, b3⟩ | ⟨b1, b2⟩
  ·left; rw [a1, b1]
  ·have := h.lt _ _ _ b2; omega
  ·have := h.lt _ _ _ a2; omega
  ·exact h.sep A1 A2 v1 v2 l1 l2 a2 b2 e3
 ·rw [zum hwf ho] at hr
  rcases key _ _ _ hl with ⟨_, _, a3⟩ | ⟨a1, a2⟩
  ·right; rw [a3]; exact h.size
  ·exact h.own A v l a2 hr
 ·rcases key _ _ _ hl with ⟨_, _, a3⟩ | ⟨a1, a2⟩
  ·rw [a3]; simp
  ·have := h.lt _ _ _ a2; simp; omega
 ·have := h.size; simp; omega
 ·rw [hold c (Nat.lt_of_lt_of_le hc h.size)]; exact h.frame c hc hb
 ·rw [zum hwf ho] at hr
  rcases key _ _ _ hl with ⟨rfl, _, _⟩ | ⟨a1, a2⟩
  ·obtain ⟨x, hx⟩ := hr; rw [hwf] at hx; cases hx
  ·exact h.ro A v l hr a2
theorem HRel.newRow (h : HRel P B ρ H w) {cells : List AVal} {arr : Array Value} {e : TypeId} (hc : zyd ρ arr 0 cells) :
  HRel P B (ρ.put H.next 0 ⟨w.heap.size, 0, arr.size⟩) (H.push (.row [some (0, cells)])) (w.alloc (.cells arr e)) := by
 have hle := Ren.put_le (l := ⟨w.heap.size, 0, arr.size⟩) (h.fresh H.next 0 (Nat.le_refl _))
 refine h.push (fun l => by simp) ⟨fun v hv => ?_, fun v hv => ?_, fun v rel cs l hv hl => ?_, fun v1 v2 r1 r2 c1 c2 l1 l2 e1 e2 f1 f2 _ => ?_⟩
 ·rw [Ren.put_ne _ _ (by simp at hv; omega)]; exact h.fresh _ _ (Nat.le_refl _)
 ·have : v = 0 := by simpa using hv
  subst this
  exact ⟨_, Ren.put_same _ _ _ _, arr, e, (0, 0), World.alloc_heap_new _ _, rfl, fun i _ => by simp⟩
 ·have : v = 0 := by
   rcases v with _ | v
   ·rfl
   ·simp at hv
  subst this
  rw [Ren.put_same] at hl; cases hl
  simp at hv; obtain ⟨rfl, rfl⟩ := hv
  exact ⟨arr, e, (0, 0), World.alloc_heap_new _ _, rfl, hc.mono hle⟩
 ·have a1 : v1 = 0 := by
   rcases v1 with _ | v
   ·rfl
   ·simp at e1
  have a2 : v2 = 0 := by
   rcases v2 with _ | v
   ·rfl
   ·simp at e2
  subst a1; subst a2
  rw [f1] at f2; cases f2
  rw [e1] at e2; simp at e2; omega
def wr (arr : Array Value) : Nat → List Value → Array Value
 | _, [] => arr
 | i, v :: vs => wr (arr.setIfInBounds i v) (i + 1) vs
theorem zkf : ∀ (vs : List Value) (arr : Array Value) (i : Nat), (wr arr i vs).size = arr.size
 | [], _, _ => rfl
 | v :: vs, arr, i => by unfold wr; rw [zkf vs]; simp
theorem zfr : ∀ (vs : List Value) (arr : Array Value) (i j : Nat), i + vs.length ≤ arr.size → (wr arr i vs)[j]? = if i ≤ j ∧ j < i + vs.length then vs[j - i]? else arr[j]?
 | [], arr, i, j, _ => by unfold wr; rw [if_neg (by simp)]
 | v :: vs, arr, i, j, h => by
  simp at h
  unfold wr
  rw [zfr vs _ (i + 1) j (by simp; omega)]
  by_cases h1 : i + 1 ≤ j ∧ j < i + 1 + vs.length
  ·rw [if_pos h1, if_pos (by simp; omega)]
   have : j - i = (j - (i + 1)) + 1 := by omega
   rw [this, List.getElem?_cons_succ]
  ·rw [if_neg h1]
   by_cases h2 : j = i
   ·subst h2; rw [if_pos (by simp)]; simp [Array.getElem?_setIfInBounds]; omega
   ·rw [if_neg (by simp; omega), Array.getElem?_setIfInBounds, if_neg (by omega)]
theorem zgv {c i : Nat} {arr : Array Value} {e : TypeId} {fz : Nat × Nat} {v : Value} (hw : w.heap[c]? = some (.cells arr e fz)) :
  w.setCell ⟨c, i, none⟩ v = w.putObj c (.cells (arr.setIfInBounds i v) e fz) := by
 unfold World.setCell World.putObj
 congr 1
 obtain ⟨hc, hv⟩ := Array.getElem?_eq_some_iff.1 hw
 apply Array.ext_getElem?
 intro j
 rw [Array.getElem?_modify, Array.getElem?_setIfInBounds]
 by_cases hj : c = j
 ·subst hj; simp [hc, hv]
 ·simp [hj]
theorem zny (r : Nat) (a b : Obj) : (w.putObj r a).putObj r b = w.putObj r b := by
 simp [World.putObj]
theorem zwg {c : Nat} {e : TypeId} {fz : Nat × Nat} : ∀ (vs : List Value) (s k : Nat) (arr : Array Value) (w : World), w.heap[c]? = some (.cells arr e fz) → NF fz arr.size →
  s + k + vs.length ≤ arr.size → (∀ v ∈ vs, v.oneCell' = true) → (storeCells ⟨c, s, none⟩ vs k).run P w = .ok () (w.putObj c (.cells (wr arr (s + k) vs) e fz))
 | [], s, k, arr, w, hw, _, _, _ => by
  have : w.putObj c (.cells arr e fz) = w := by
   unfold World.putObj
   obtain ⟨hc, hv⟩ := Array.getElem?_eq_some_iff.1 hw
   have : w.heap.setIfInBounds c (.cells arr e fz) = w.heap := by
    apply Array.ext_getElem?
    intro j
    rw [Array.getElem?_setIfInBounds]
    by_cases hj : c = j
    ·subst hj; simp [hc, hv]
    ·simp [hj]
   rw [this]
  unfold storeCells wr
  rw [this]; rfl
 | v :: vs, s, k, arr, w, hw, hf, hn, h1 => by
  simp at hn
  have hadd : (⟨c, s, none⟩ : Addr).add k = ⟨c, s + k, none⟩ := by unfold Addr.add; split <;> simp_all
  have hlt : s + k < arr.size := by omega
  have hst : (store ((⟨c, s, none⟩ : Addr).add k) v).run P w = .ok () (w.putObj c (.cells (arr.setIfInBounds (s + k) v) e fz)) := by
   rw [hadd, run_store P w _ v _ (h1 v (by simp)), zkq hw, frozen_of_row hw]
   have := hf _ hlt
   simp only [Array.getElem?_eq_getElem hlt]
   rw [if_neg (by simpa using this), zgv hw]
  have hc : c < w.heap.size := (Array.getElem?_eq_some_iff.1 hw).1
  unfold storeCells
  rw [Sem.run_bind, hst]
  simp only [Result.andThen_ok]
  rw [zwg vs s (k + 1) (arr.setIfInBounds (s + k) v) _ (World.putObj_heap_same hc) (by simpa using hf) (by simp; omega) (fun u hu => h1 u (by simp [hu]))]
  rw [zny]
  rfl
theorem zea {α : Type} (l : List α) (off : Nat) (vals : List α) (h : off + vals.length ≤ l.length) : (spl l off vals).length = l.length := by
 simp [spl]; omega
theorem yzw {α : Type} (l : List α) (off : Nat) (vals : List α) (h : off + vals.length ≤ l.length) (i : Nat) :
  (spl l off vals)[i]? = if off ≤ i ∧ i < off + vals.length then vals[i - off]? else l[i]? := by
 unfold spl
 rw [List.getElem?_append]
 have ht : (l.take off).length = off := by simp; omega
 rw [ht]
 by_cases h1 : i < off
 ·rw [if_pos h1, if_neg (by omega), List.getElem?_take, if_pos h1]
 ·rw [if_neg h1, List.getElem?_append]
  by_cases h2 : i - off < vals.length
  ·rw [if_pos h2, if_pos (by omega)]
  ·rw [if_neg h2, if_neg (by omega), List.getElem?_drop]
   congr 1; omega
theorem ykm (vs : List Value) (arr : Array Value) (i : Nat) (h : i + vs.length ≤ arr.size) : wr arr i vs = (spl arr.toList i vs).toArray := by
 apply Array.ext_getElem?
 intro j
 have h2 : (spl arr.toList i vs).toArray[j]? = (spl arr.toList i vs)[j]? := by simp
 rw [zfr vs arr i j h, h2, yzw _ _ _ (by simpa using h)]
 split
 ·rfl
 ·simp
theorem zy2 (p n : Nat) : ∀ vs : zuq, (killAt p n vs).length = vs.length
 | [] => rfl
 | none :: r => by simp [killAt, zy2 p n r]
 | some (rel, l) :: r => by simp [killAt, zy2 p n r]
theorem zk0 (p n : Nat) : ∀ (vs : zuq) (v rel : Nat) (l : List AVal), (killAt p n vs)[v]? = some (some (rel, l)) → vs[v]? = some (some (rel, l)) ∧ ¬ (p < rel + l.length ∧ rel < p + n)
 | [], v, rel, l, h => by simp [killAt] at h
 | none :: r, 0, rel, l, h => by simp [killAt] at h
 | none :: r, v + 1, rel, l, h => by simpa [killAt] using zk0 p n r v rel l (by simpa [killAt] using h)
 | some (rel', l') :: r, 0, rel, l, h => by
  simp only [killAt, List.getElem?_cons_zero, Option.some.injEq] at h
  split at h
  ·cases h
  ·rename_i hn; cases h; exact ⟨by simp, by simpa using hn⟩
 | some (rel', l') :: r, v + 1, rel, l, h => by simpa [killAt] using zk0 p n r v rel l (by simpa [killAt] using h)
theorem HRel.putRow (h : HRel P B ρ H w) {A ver : Nat} {vs vs' : zuq} {l : Loc} {o : Obj} (hg : H.get A = some (.row vs)) (hl : ρ A ver = some l)
  (hrel : zv3 ρ (w.putObj l.c o) A vs') (hs : Side w (w.putObj l.c o)) : HRel P B ρ (H.set A (.row vs')) (w.putObj l.c o) := by
 have hro : ∀ X, isRo (H.set A (.row vs')) X ↔ isRo H X := fun X => by
  unfold isRo
  by_cases e : X = A
  ·subst e; rw [zz6.zzy, hg]; simp
  ·rw [zz6.zzz _ _ e]
 have hA : ¬ isRo H A := by rintro ⟨x, hx⟩; rw [hg] at hx; cases hx
 refine ⟨h.le, h.fresh, fun X hX => ?_, fun X v x hx => ?_, fun X o' hX => ?_, fun A1 A2 v1 v2 l1 l2 e1 e2 e3 => ?_, fun X v x hx hr => ?_, fun X v x hx => ?_, ?_, fun c hc hb => ?_, h.side.trans hs, fun X v x hr hx => h.ro X v x ((hro X).1 hr) hx⟩
 ·have := h.wf X hX
  by_cases e : X = A
  ·subst e; rw [hg] at this; cases this
  ·rw [zz6.zzz _ _ e]; exact this
 ·by_cases e : X = A
  ·subst e; exact ⟨_, zz6.zzy _ _ _⟩
  ·rw [zz6.zzz _ _ e]; exact h.dom X v x hx
 ·by_cases e : X = A
  ·subst e; rw [zz6.zzy] at hX; cases hX; exact hrel
  ·rw [zz6.zzz _ _ e] at hX
   refine (h.obj X o' hX).keep (Ren.le_refl _) (fun _ => rfl) (fun v x hx => World.putObj_heap_other fun hc => ?_)
   rcases h.sep X A v ver x l hx hl hc with h1 | h1
   ·exact e h1
   ·exact hA h1.2
 ·rw [hro, hro]; exact h.sep A1 A2 v1 v2 l1 l2 e1 e2 e3
 ·rw [hro] at hr; exact h.own X v x hx hr
 ·simp; exact h.lt X v x hx
 ·simp; exact h.size
 ·by_cases e : c = l.c
  ·rcases h.own A ver l hl hA with h1 | h1
   ·exact absurd (e ▸ h1) hb
   ·omega
  ·rw [World.putObj_heap_other e]; exact h.frame c hc hb
theorem zz6.write_some {A ver off : Nat} {vals : List AVal} (hw : H.write A ver off vals = some H') : ∃ vs rel cells, H.get A = some (.row vs) ∧ vs[ver]? = some (some (rel, cells)) ∧
  0 < vals.length ∧ off + vals.length ≤ cells.length ∧ vals.all AVal.one = true ∧ H' = H.set A (.row ((killAt (rel + off) vals.length vs).set ver (some (rel, spl cells off vals)))) := by
 unfold zz6.write at hw
 split at hw
 ·rename_i vs hg
  split at hw
  ·rename_i rel cells hver
   split at hw
   ·rename_i hcond
    cases hw
    simp only [Bool.and_eq_true, decide_eq_true_eq] at hcond
    exact ⟨vs, rel, cells, hg, hver, hcond.1.1, hcond.1.2, hcond.2, rfl⟩
   ·cases hw
  ·cases hw
 ·cases hw
theorem HRel.write (h : HRel P B ρ H w) {A ver off : Nat} {vals : List AVal} {cvals : List Value} {l : Loc} (hw : H.write A ver off vals = some H') (hl : ρ A ver = some l) (hv : VRels ρ vals cvals) :
  ∃ w', (storeCells ⟨l.c, l.s + off, none⟩ cvals).run P w = .ok () w' ∧ HRel P B ρ H' w' := by
 obtain ⟨vs, rel, cells, hg, hver, hpos, hlen, hone, rfl⟩ := zz6.write_some hw
 have hrow := h.obj A _ hg
 obtain ⟨g1, g2, g3, g4⟩ := hrow
 obtain ⟨arr, e, fz, ha, hn, hcells⟩ := g3 ver rel cells l hver hl
 have hverlt : ver < vs.length := (List.getElem?_eq_some_iff.1 hver).1
 obtain ⟨l', hl', arr', e', fz', ha', hn', hnf⟩ := g2 ver hverlt
 rw [hl] at hl'; cases hl'
 rw [ha] at ha'; cases ha'
 have hcl := hv.length
 have hfit : l.s + off + cvals.length ≤ arr.size := by
  obtain ⟨v, hv⟩ : ∃ v, cells[off + vals.length - 1]? = some v := ⟨_, List.getElem?_eq_getElem (by omega)⟩
  obtain ⟨cv, hcv, _⟩ := hcells _ _ hv
  have := (Array.getElem?_eq_some_iff.1 hcv).1
  omega
 have hc : l.c < w.heap.size := h.lt _ _ _ hl
 refine ⟨_, zwg cvals (l.s + off) 0 arr w ha (hn ▸ hnf.le) (by omega) (hv.all_one hone), h.putRow hg hl ?_ (Side.putCells ha)⟩
 have hnew : (w.putObj l.c (.cells (wr arr (l.s + off + 0) cvals) e fz)).heap[l.c]? = some (.cells (wr arr (l.s + off + 0) cvals) e fz) := World.putObj_heap_same hc
 have hget := zfr cvals arr (l.s + off)
 simp only [Nat.add_zero] at *
 refine ⟨fun v hv' => g1 v (by simpa [zy2] using hv'), fun v hv' => ?_, fun v r cs x hx hlx => ?_, fun v1 v2 r1 r2 c1 c2 l1 l2 e1 e2 f1 f2 hcc => ?_⟩
 ·rw [List.length_set, zy2] at hv'
  obtain ⟨x, hx, arr', e', fz', h1, h2, h3⟩ := g2 v hv'
  by_cases hcc : x.c = l.c
  ·rw [hcc, ha] at h1; cases h1
   exact ⟨x, hx, _, e, fz, by rw [hcc]; exact hnew, by rw [zkf]; exact h2, h3⟩
  ·exact ⟨x, hx, arr', e', fz', by rw [World.putObj_heap_other hcc]; exact h1, h2, h3⟩
 ·by_cases hvv : v = ver
  ·subst hvv
   rw [hl] at hlx; cases hlx
   rw [List.getElem?_set_self (by rw [zy2]; exact hverlt)] at hx
   cases hx
   refine ⟨_, e, fz, hnew, by rw [zkf]; exact hn, fun i u hu => ?_⟩
   rw [yzw _ _ _ hlen] at hu
   rw [hget _ hfit]
   by_cases hi : off ≤ i ∧ i < off + vals.length
   ·rw [if_pos hi] at hu
    rw [if_pos (by omega)]
    obtain ⟨cv, h1, h2⟩ := hv.get _ _ hu
    exact ⟨cv, by rw [← h1]; congr 1; omega, h2⟩
   ·rw [if_neg hi] at hu
    rw [if_neg (by omega)]
    exact hcells i u hu
  ·rw [List.getElem?_set_ne (Ne.symm hvv)] at hx
   obtain ⟨hx0, hno⟩ := zk0 _ _ _ _ _ _ hx
   obtain ⟨arr', e', fz', h1, h2, h3⟩ := g3 v r cs x hx0 hlx
   by_cases hcc : x.c = l.c
   ·rw [hcc, ha] at h1; cases h1
    refine ⟨_, e, fz, by rw [hcc]; exact hnew, by rw [zkf]; exact h2, fun i u hu => ?_⟩
    have hal := g4 v ver r rel cs cells x l hx0 hver hlx hl hcc
    have hil : i < cs.length := (List.getElem?_eq_some_iff.1 hu).1
    rw [hget _ hfit, if_neg (by omega)]
    exact h3 i u hu
   ·exact ⟨arr', e', fz', by rw [World.putObj_heap_other hcc]; exact h1, h2, h3⟩
 ·have hlook : ∀ (v r : Nat) (cs : List AVal), ((killAt (rel + off) vals.length vs).set ver (some (rel, spl cells off vals)))[v]? = some (some (r, cs)) → ∃ cs', vs[v]? = some (some (r, cs')) := fun v r cs hx => by
   by_cases hvv : v = ver
   ·subst hvv
    rw [List.getElem?_set_self (by rw [zy2]; exact hverlt)] at hx
    cases hx; exact ⟨_, hver⟩
   ·rw [List.getElem?_set_ne (Ne.symm hvv)] at hx
    exact ⟨cs, (zk0 _ _ _ _ _ _ hx).1⟩
  obtain ⟨d1, e1'⟩ := hlook _ _ _ e1
  obtain ⟨d2, e2'⟩ := hlook _ _ _ e2
  exact g4 v1 v2 r1 r2 d1 d2 l1 l2 e1' e2' f1 f2 hcc
theorem HRel.congr_heap (h : HRel P B ρ H w) (hh : w'.heap = w.heap) (ho : w'.os = w.os) (hu : w'.output = w.output) : HRel P B ρ H w' := by
 refine ⟨h.le, h.fresh, h.wf, h.dom, fun A o hg => (h.obj A o hg).keep (Ren.le_refl _) (fun _ => rfl) (fun v l _ => by rw [hh]), h.sep, h.own, fun A v l hl => by rw [hh]; exact h.lt A v l hl, by rw [hh]; exact h.size, fun c hc hb => by rw [hh]; exact h.frame c hc hb, h.side.trans ⟨ho, hu, fun a => by unfold World.frozen?; rw [hh]⟩, h.ro⟩
theorem HRel.drew (h : HRel P B ρ H w) : HRel P B ρ H w.drew := h.congr_heap rfl rfl rfl
theorem HRel.reRow (h : HRel P B ρ H w) {A : Nat} {vs vs' : zuq} (hg : H.get A = some (.row vs)) (hle : ρ.le ρ') (hρ : ∀ X v, X ≠ A → ρ' X v = ρ X v)
  (hloc : ∀ v x, ρ' A v = some x → (∃ v0 x0, ρ A v0 = some x0 ∧ x0.c = x.c) ∨ w.heap.size ≤ x.c) (hlt : ∀ v x, ρ' A v = some x → x.c < w'.heap.size) (hsz : w.heap.size ≤ w'.heap.size)
  (hw : ∀ c, c < w.heap.size → (∀ v x, ρ A v = some x → x.c ≠ c) → w'.heap[c]? = w.heap[c]?) (hrel : zv3 ρ' w' A vs') (hs : Side w w') : HRel P B ρ' (H.set A (.row vs')) w' := by
 have hro : ∀ X, isRo (H.set A (.row vs')) X ↔ isRo H X := fun X => by
  unfold isRo
  by_cases e : X = A
  ·subst e; rw [zz6.zzy, hg]; simp
  ·rw [zz6.zzz _ _ e]
 have hA : ¬ isRo H A := by rintro ⟨x, hx⟩; rw [hg] at hx; cases hx
 have hAlt : A < H.next := by
  rcases Nat.lt_or_ge A H.next with h1 | h1
  ·exact h1
  ·rw [h.wf A h1] at hg; cases hg
 have hkeep : ∀ X v x, X ≠ A → ρ X v = some x → w'.heap[x.c]? = w.heap[x.c]? := fun X v x e hx =>
  hw _ (h.lt X v x hx) fun v' x' hx' hc => by
   rcases h.sep A X v' v x' x hx' hx hc with h1 | h1
   ·exact e h1.symm
   ·exact hA h1.1
 refine ⟨Ren.le_trans h.le hle, fun X v hX => ?_, fun X hX => ?_, fun X v x hx => ?_, fun X o' hX => ?_, fun A1 A2 v1 v2 l1 l2 e1 e2 e3 => ?_, fun X v x hx hr => ?_, fun X v x hx => ?_, Nat.le_trans h.size hsz, fun c hc hb => ?_, h.side.trans hs, fun X v x hr hx => ?_⟩
 ·have hX' : H.next ≤ X := hX
  rw [hρ X v (by omega)]; exact h.fresh X v hX
 ·have hX' : H.next ≤ X := hX
  rw [zz6.zzz _ _ (by omega)]; exact h.wf X hX
 ·by_cases e : X = A
  ·subst e; exact ⟨_, zz6.zzy _ _ _⟩
  ·rw [zz6.zzz _ _ e]; exact h.dom X v x (by rw [← hρ X v e]; exact hx)
 ·by_cases e : X = A
  ·subst e; rw [zz6.zzy] at hX; cases hX; exact hrel
  ·rw [zz6.zzz _ _ e] at hX
   exact (h.obj X o' hX).keep hle (fun v => hρ X v e) (fun v x hx => hkeep X v x e hx)
 ·rw [hro, hro]
  have old : ∀ X v x, X ≠ A → ρ' X v = some x → ρ X v = some x := fun X v x e hx => by rw [← hρ X v e]; exact hx
  have cross : ∀ X v v' x y, X ≠ A → ρ' X v = some x → ρ' A v' = some y → x.c ≠ y.c := fun X v v' x y e hx hy hc => by
   have hx' := old X v x e hx
   rcases hloc v' y hy with ⟨v0, x0, h1, h2⟩ | h1
   ·rcases h.sep X A v v0 x x0 hx' h1 (by rw [h2]; exact hc) with h3 | h3
    ·exact e h3
    ·exact hA h3.2
   ·have := h.lt X v x hx'; omega
  by_cases a : A1 = A <;> by_cases b : A2 = A
  ·left; rw [a, b]
  ·subst a; exact absurd e3.symm (cross A2 v2 v1 l2 l1 b e2 e1)
  ·subst b; exact absurd e3 (cross A1 v1 v2 l1 l2 a e1 e2)
  ·exact h.sep A1 A2 v1 v2 l1 l2 (old _ _ _ a e1) (old _ _ _ b e2) e3
 ·rw [hro] at hr
  by_cases e : X = A
  ·subst e
   rcases hloc v x hx with ⟨v0, x0, h1, h2⟩ | h1
   ·rw [← h2]; exact h.own X v0 x0 h1 hA
   ·exact .inr (Nat.le_trans h.size h1)
  ·exact h.own X v x (by rw [← hρ X v e]; exact hx) hr
 ·by_cases e : X = A
  ·subst e; exact hlt v x hx
  ·exact Nat.lt_of_lt_of_le (h.lt X v x (by rw [← hρ X v e]; exact hx)) hsz
 ·rw [← h.frame c hc hb]
  refine hw c (Nat.lt_of_lt_of_le hc h.size) fun v x hx hcc => ?_
  rcases h.own A v x hx hA with h1 | h1
  ·exact hb (hcc ▸ h1)
  ·omega
 ·rw [hro] at hr
  by_cases e : X = A
  ·subst e; exact (hA hr).elim
  ·exact h.ro X v x hr (by rw [← hρ X v e]; exact hx)
def zwy (vs : zuq) (p m : Nat) (rel : Nat) (cells : List AVal) : zuq := killAt p m vs ++ [some (rel, cells)]
theorem zqh {vs : zuq} {p m rel : Nat} {cells : List AVal} {v r : Nat} {cs : List AVal} (h : (zwy vs p m rel cells)[v]? = some (some (r, cs))) :
  (v = vs.length ∧ r = rel ∧ cs = cells) ∨ (v < vs.length ∧ vs[v]? = some (some (r, cs)) ∧ ¬ (p < r + cs.length ∧ r < p + m)) := by
 unfold zwy at h
 rw [List.getElem?_append, zy2] at h
 split at h
 ·rename_i hv; obtain ⟨h1, h2⟩ := zk0 _ _ _ _ _ _ h; exact .inr ⟨hv, h1, h2⟩
 ·rename_i hv
  have : v - vs.length = 0 := by
   have := (List.getElem?_eq_some_iff.1 h).1
   simp at this; omega
  rw [this] at h; simp at h
  exact .inl ⟨by omega, h.1.symm, h.2.symm⟩
theorem zqu (vs : zuq) (p m rel : Nat) (cells : List AVal) : (zwy vs p m rel cells).length = vs.length + 1 := by simp [zwy, zy2]
theorem zyd.append {arr : Array Value} {s : Nat} {a b : List AVal} (h1 : zyd ρ arr s a) (h2 : zyd ρ arr (s + a.length) b) : zyd ρ arr s (a ++ b) := fun i v hv => by
 rw [List.getElem?_append] at hv
 split at hv
 ·exact h1 i v hv
 ·obtain ⟨cv, h3, h4⟩ := h2 _ v hv
  exact ⟨cv, by rw [← h3]; congr 1; omega, h4⟩
theorem HRel.verIn (h : HRel P B ρ H w) {A ver off k : Nat} {vs : zuq} {rel : Nat} {cells news : List AVal} {cnews : List Value} {l : Loc} (hg : H.get A = some (.row vs))
  (hver : vs[ver]? = some (some (rel, cells))) (hl : ρ A ver = some l) (hk : off + k ≤ cells.length) (hroom : l.s + off + k + news.length ≤ l.n)
  (hone : news.all AVal.one = true) (hv : VRels ρ news cnews) :
  ∃ w', (storeCells ⟨l.c, l.s + off + k, none⟩ cnews).run P w = .ok () w' ∧
   HRel P B (ρ.put A vs.length ⟨l.c, l.s + off, l.n⟩) (H.set A (.row (zwy vs (rel + off + k) news.length (rel + off) ((cells.drop off).take k ++ news)))) w' := by
 obtain ⟨g1, g2, g3, g4⟩ := h.obj A _ hg
 obtain ⟨arr, e, fz, ha, hn, hcells⟩ := g3 ver rel cells l hver hl
 have hverlt : ver < vs.length := (List.getElem?_eq_some_iff.1 hver).1
 obtain ⟨l', hl', arr', e', fz', ha', hn', hnf⟩ := g2 ver hverlt
 rw [hl] at hl'; cases hl'
 rw [ha] at ha'; cases ha'
 have hcl := hv.length
 have hfit : l.s + off + k + cnews.length ≤ arr.size := by omega
 have hc : l.c < w.heap.size := h.lt _ _ _ hl
 have hnone : ρ A vs.length = none := g1 _ (Nat.le_refl _)
 have hle := Ren.put_le (l := (⟨l.c, l.s + off, l.n⟩ : Loc)) hnone
 have hput : ∀ v, v ≠ vs.length → ρ.put A vs.length ⟨l.c, l.s + off, l.n⟩ A v = ρ A v := fun v hv => Ren.put_ne _ _ (by omega)
 refine ⟨_, zwg cnews (l.s + off + k) 0 arr w ha (hn ▸ hnf.le) (by omega) (hv.all_one hone), ?_⟩
 have hnew : (w.putObj l.c (.cells (wr arr (l.s + off + k) cnews) e fz)).heap[l.c]? = some (.cells (wr arr (l.s + off + k) cnews) e fz) := World.putObj_heap_same hc
 have hget := zfr cnews arr (l.s + off + k)
 simp only [Nat.add_zero] at *
 refine h.reRow hg hle (fun X v e => Ren.put_ne _ _ (by omega)) (fun v x hx => ?_) (fun v x hx => ?_) (by simp) (fun c _ hcn => World.putObj_heap_other fun e => hcn ver l hl e.symm) ?_ (Side.putCells ha)
 ·by_cases e : v = vs.length
  ·subst e; rw [Ren.put_same] at hx; cases hx; exact .inl ⟨ver, l, hl, rfl⟩
  ·rw [hput v e] at hx; exact .inl ⟨v, x, hx, rfl⟩
 ·by_cases e : v = vs.length
  ·subst e; rw [Ren.put_same] at hx; cases hx; simpa using hc
  ·rw [hput v e] at hx; simpa using h.lt A v x hx
 ·refine ⟨fun v hv' => ?_, fun v hv' => ?_, fun v r cs x hx hlx => ?_, fun v1 v2 r1 r2 c1 c2 l1 l2 e1 e2 f1 f2 hcc => ?_⟩
  ·rw [zqu] at hv'; rw [hput v (by omega)]; exact g1 v (by omega)
  ·rw [zqu] at hv'
   by_cases ev : v = vs.length
   ·subst ev
    exact ⟨_, Ren.put_same _ _ _ _, _, e, fz, hnew, by rw [zkf]; exact hn, hnf⟩
   ·obtain ⟨x, hx, arr', e', fz', h1, h2, h3⟩ := g2 v (by omega)
    refine ⟨x, by rw [hput v ev]; exact hx, ?_⟩
    by_cases hcc : x.c = l.c
    ·rw [hcc, ha] at h1; cases h1
     exact ⟨_, e, fz, by rw [hcc]; exact hnew, by rw [zkf]; exact h2, h3⟩
    ·exact ⟨arr', e', fz', by rw [World.putObj_heap_other hcc]; exact h1, h2, h3⟩
  ·rcases zqh hx with ⟨rfl, rfl, rfl⟩ | ⟨hvlt, hx0, hno⟩
   ·rw [Ren.put_same] at hlx; cases hlx
    refine ⟨_, e, fz, hnew, by rw [zkf]; exact hn, zyd.append (fun i u hu => ?_) (fun i u hu => ?_)⟩
    ·rw [List.getElem?_take] at hu
     split at hu
     ·rw [List.getElem?_drop] at hu
      obtain ⟨cv, h1, h2⟩ := hcells _ _ hu
      dsimp only
      exact ⟨cv, by rw [hget _ hfit, if_neg (by omega), ← h1]; congr 1; omega, h2.mono hle⟩
     ·cases hu
    ·have hlen : ((cells.drop off).take k).length = k := by simp; omega
     rw [hlen]
     obtain ⟨cv, h1, h2⟩ := hv.get _ _ hu
     have := (List.getElem?_eq_some_iff.1 hu).1
     dsimp only
     exact ⟨cv, by rw [hget _ hfit, if_pos (by omega), ← h1]; congr 1; omega, h2.mono hle⟩
   ·rw [hput v (by omega)] at hlx
    obtain ⟨arr', e', fz', h1, h2, h3⟩ := g3 v r cs x hx0 hlx
    by_cases hcc : x.c = l.c
    ·rw [hcc, ha] at h1; cases h1
     refine ⟨_, e, fz, by rw [hcc]; exact hnew, by rw [zkf]; exact h2, fun i u hu => ?_⟩
     have hal := g4 v ver r rel cs cells x l hx0 hver hlx hl hcc
     have hil : i < cs.length := (List.getElem?_eq_some_iff.1 hu).1
     obtain ⟨cv, h4, h5⟩ := h3 i u hu
     exact ⟨cv, by rw [hget _ hfit, if_neg (by omega)]; exact h4, h5.mono hle⟩
    ·exact ⟨arr', e', fz', by rw [World.putObj_heap_other hcc]; exact h1, h2, h3.mono hle⟩
  ·have hx := zqh e1
   have hy := zqh e2
   rcases hx with ⟨rfl, rfl, _⟩ | ⟨hx1, hx2, _⟩ <;> rcases hy with ⟨rfl, rfl, _⟩ | ⟨hy1, hy2, _⟩
   ·rw [f1] at f2; cases f2; rfl
   ·rw [Ren.put_same] at f1; cases f1
    rw [hput _ (by omega)] at f2
    have := g4 ver v2 rel r2 cells c2 l l2 hver hy2 hl f2 hcc
    dsimp only; omega
   ·rw [Ren.put_same] at f2; cases f2
    rw [hput _ (by omega)] at f1
    have := g4 v1 ver r1 rel c1 cells l1 l hx2 hver f1 hl hcc
    dsimp only; omega
   ·rw [hput _ (by omega)] at f1 f2
    exact g4 v1 v2 r1 r2 c1 c2 l1 l2 hx2 hy2 f1 f2 hcc
theorem HRel.verOut (h : HRel P B ρ H w) {A p m rel : Nat} {vs : zuq} {cells : List AVal} {arr : Array Value} {e : TypeId} (hg : H.get A = some (.row vs)) (hc : zyd ρ arr 0 cells) :
  HRel P B (ρ.put A vs.length ⟨w.heap.size, 0, arr.size⟩) (H.set A (.row (zwy vs p m rel cells))) (w.alloc (.cells arr e)) := by
 obtain ⟨g1, g2, g3, g4⟩ := h.obj A _ hg
 have hnone : ρ A vs.length = none := g1 _ (Nat.le_refl _)
 have hle := Ren.put_le (l := (⟨w.heap.size, 0, arr.size⟩ : Loc)) hnone
 have hput : ∀ v, v ≠ vs.length → ρ.put A vs.length ⟨w.heap.size, 0, arr.size⟩ A v = ρ A v := fun v hv => Ren.put_ne _ _ (by omega)
 have hold : ∀ c, c < w.heap.size → (w.alloc (.cells arr e)).heap[c]? = w.heap[c]? := fun c hc => by
  simp only [World.alloc, Array.getElem?_push]; rw [if_neg (by omega)]
 have hnewb : (w.alloc (.cells arr e)).heap[w.heap.size]? = some (.cells arr e) := World.alloc_heap_new _ _
 refine h.reRow hg hle (fun X v e => Ren.put_ne _ _ (by omega)) (fun v x hx => ?_) (fun v x hx => ?_) (by simp) (fun c hc _ => hold c hc) ?_ (Side.alloc w rfl)
 ·by_cases e : v = vs.length
  ·subst e; rw [Ren.put_same] at hx; cases hx; exact .inr (Nat.le_refl _)
  ·rw [hput v e] at hx; exact .inl ⟨v, x, hx, rfl⟩
 ·by_cases e : v = vs.length
  ·subst e; rw [Ren.put_same] at hx; cases hx; simp
  ·rw [hput v e] at hx; have := h.lt A v x hx; simp; omega
 ·refine ⟨fun v hv' => ?_, fun v hv' => ?_, fun v r cs x hx hlx => ?_, fun v1 v2 r1 r2 c1 c2 l1 l2 e1 e2 f1 f2 hcc => ?_⟩
  ·rw [zqu] at hv'; rw [hput v (by omega)]; exact g1 v (by omega)
  ·rw [zqu] at hv'
   by_cases ev : v = vs.length
   ·subst ev
    exact ⟨_, Ren.put_same _ _ _ _, arr, e, (0, 0), hnewb, rfl, fun i _ => by simp⟩
   ·obtain ⟨x, hx, arr', e', fz', h1, h2, h3⟩ := g2 v (by omega)
    exact ⟨x, by rw [hput v ev]; exact hx, arr', e', fz', by rw [hold _ (h.lt A v x hx)]; exact h1, h2, h3⟩
  ·rcases zqh hx with ⟨rfl, rfl, rfl⟩ | ⟨hvlt, hx0, hno⟩
   ·rw [Ren.put_same] at hlx; cases hlx
    exact ⟨arr, e, (0, 0), hnewb, rfl, hc.mono hle⟩
   ·rw [hput v (by omega)] at hlx
    obtain ⟨arr', e', fz', h1, h2, h3⟩ := g3 v r cs x hx0 hlx
    exact ⟨arr', e', fz', by rw [hold _ (h.lt A v x hlx)]; exact h1, h2, h3.mono hle⟩
  ·have hx := zqh e1
   have hy := zqh e2
   rcases hx with ⟨rfl, rfl, _⟩ | ⟨hx1, hx2, _⟩ <;> rcases hy with ⟨rfl, rfl, _⟩ | ⟨hy1, hy2, _⟩
   ·rw [f1] at f2; cases f2; rfl
   ·rw [Ren.put_same] at f1; cases f1
    rw [hput _ (by omega)] at f2
    have := h.lt A v2 l2 f2
    dsimp only at hcc; omega
   ·rw [Ren.put_same] at f2; cases f2
    rw [hput _ (by omega)] at f1
    have := h.lt A v1 l1 f1
    dsimp only at hcc; omega
   ·rw [hput _ (by omega)] at f1 f2
    exact g4 v1 v2 r1 r2 c1 c2 l1 l2 hx2 hy2 f1 f2 hcc
end Go.Vm
