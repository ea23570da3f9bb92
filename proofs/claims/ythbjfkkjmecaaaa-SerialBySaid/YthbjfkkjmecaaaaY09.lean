/- The abstract machine, part 19: regions whose order is drawn: one plan stands for all orders. -/
import Derived.Test.YthbjfkkjmecaaaaY08
set_option linter.unusedVariables false
set_option linter.unusedSimpArgs false
namespace Go.Vm
open Go
section
variable {P : Program} {B : Base} {ρ : Ren} {H H' : zz6} {w : World} {r : Option Nat} {st : ASt} {K : ASt → Prop} {aos : List zzu}
abbrev zxk := Nat → Bool
def upd (D : zxk) (i : Nat) : zxk := fun k => D k || k == i
def mns (D : zxk) (i : Nat) : zxk := fun k => D k && !(k == i)
def uni (D : zxk) (l : List Nat) : zxk := fun k => D k || l.contains k
theorem zze {D : zxk} {i k : Nat} : upd D i k = true ↔ D k = true ∨ k = i := by simp [upd]
theorem zqy {D : zxk} {i k : Nat} : upd D i k = false ↔ D k = false ∧ k ≠ i := by simp [upd]
theorem zwh {D : zxk} {l : List Nat} {k : Nat} : uni D l k = true ↔ D k = true ∨ k ∈ l := by simp [uni]
theorem zv9 {D : zxk} {i k : Nat} : mns D i k = true ↔ D k = true ∧ k ≠ i := by simp [mns]
def zxw (aos : List zzu) (S : zxk) : Prop := ∀ j o, aos[j]? = some o → S j = true → ∀ e ∈ o.after, S e = true
theorem zxw.upd {S : zxk} {i : Nat} {o : zzu} (h : zxw aos S) (ho : aos[i]? = some o) (ha : ∀ e ∈ o.after, S e = true) : zxw aos (upd S i) := fun j oj hj hS e he => by
 rw [zze] at hS ⊢
 rcases hS with hS | rfl
 ·exact .inl (h j oj hj hS e he)
 ·rw [ho] at hj; cases hj; exact .inl (ha e he)
theorem zxw.and {S T : zxk} (h : zxw aos S) (h' : zxw aos T) : zxw aos fun k => S k && T k := fun j oj hj hS e he => by
 simp only [Bool.and_eq_true] at hS ⊢
 exact ⟨h j oj hj hS.1 e he, h' j oj hj hS.2 e he⟩
def zhu (aos : List zzu) (tab : Nat → Nat → Bool) : Prop := ∀ j a, tab j a = true → ∀ S, zxw aos S → S j = true → S a = true
theorem zau {acc : List Nat} {a : Nat} : ∀ (l : List Nat) (m : Nat), Nat.testBit (yyl acc l m) a = true → Nat.testBit m a = true ∨ ∃ p ∈ l, a = p ∨ inA acc p a = true
 | [], m, h => .inl h
 | p :: l, m, h => by
  simp only [yyl] at h
  rcases zau l _ h with h1 | ⟨q, h1, h2⟩
  ·rw [Nat.testBit_or, Nat.testBit_or, Bool.or_eq_true, Bool.or_eq_true, Nat.testBit_two_pow] at h1
   rcases h1 with h1 | h1 | h1
   ·exact .inl h1
   ·exact .inr ⟨p, by simp, .inl (by simpa using h1 : p = a).symm⟩
   ·exact .inr ⟨p, by simp, .inr h1⟩
  ·exact .inr ⟨q, by simp [h1], h2⟩
theorem zfa : ∀ (os : List zzu) (pre : List zzu) (acc : List Nat), aos = pre ++ os → acc.length = pre.length → zhu aos (inA acc) → zhu aos (inA (ztf os acc))
 | [], _, _, _, _, h => h
 | o :: os, pre, acc, ha, hl, h => by
  unfold ztf
  refine zfa os (pre ++ [o]) _ (by simp [ha]) (by simp [hl]) fun j a hm S hg hj => ?_
  unfold inA at hm
  rw [List.getD_eq_getElem?_getD, List.getElem?_append] at hm
  split at hm
  ·exact h j a (by unfold inA; rw [List.getD_eq_getElem?_getD]; exact hm) S hg hj
  ·rename_i hjl
   have hj0 : j - acc.length = 0 := by
    rcases Nat.eq_zero_or_pos (j - acc.length) with e | e
    ·exact e
    ·rw [List.getElem?_eq_none (by simp; omega)] at hm; simp at hm
   have hjp : j = pre.length := by omega
   rw [hj0] at hm
   simp only [List.getElem?_cons_zero, Option.getD_some] at hm
   have hoj : aos[j]? = some o := by rw [ha, hjp]; simp
   rcases zau o.after 0 hm with h1 | ⟨p, hp, hm⟩
   ·simp at h1
   ·have hpl := hg j o hoj hj p hp
    rcases hm with rfl | hm
    ·exact hpl
    ·exact h p a hm S hg hpl
theorem ykz : zhu aos (inA (ztf aos [])) := zfa aos [] [] rfl rfl fun j a hm => by simp [inA] at hm
def zhl (aos : List zzu) : List Nat → zxk → Prop
 | [], D => ∀ i, i < aos.length → D i = true
 | i :: r, D => D i = false ∧ (∃ o, aos[i]? = some o ∧ ∀ e ∈ o.after, D e = true) ∧ zhl aos r (upd D i)
theorem zhl.not_mem : ∀ {l : List Nat} {D : zxk}, zhl aos l D → ∀ i ∈ l, D i = false
 | [], _, _, i, hi => by cases hi
 | k :: l, D, h, i, hi => by
  rcases List.mem_cons.1 hi with rfl | hi
  ·exact h.1
  ·have := h.2.2.not_mem i hi
   exact (zqy.1 this).1
theorem zf3 (D : zxk) : uni D [] = D := by funext k; simp [uni]
theorem zeh (D : zxk) (i : Nat) (l : List Nat) : uni (upd D i) l = uni D (i :: l) := by
 funext k
 simp only [uni, upd, List.contains_cons, Bool.or_assoc]
theorem zhl.split : ∀ {pre : List Nat} {i : Nat} {post : List Nat} {D : zxk}, zhl aos (pre ++ i :: post) D → zxw aos D →
  zxw aos (uni D pre) ∧ uni D pre i = false ∧ (∃ o, aos[i]? = some o ∧ ∀ e ∈ o.after, uni D pre e = true) ∧ zhl aos post (uni D (pre ++ [i]))
 | [], i, post, D, h, hc => by
  obtain ⟨h1, h2, h3⟩ := h
  refine ⟨by rw [zf3]; exact hc, by rw [zf3]; exact h1, by rw [zf3]; exact h2, ?_⟩
  have : uni D ([] ++ [i]) = upd D i := by funext k; simp [uni, upd]; rfl
  rw [this]; exact h3
 | p :: pre, i, post, D, h, hc => by
  obtain ⟨h1, ⟨o, ho, ha⟩, h3⟩ := h
  have := zhl.split (pre := pre) h3 (hc.upd ho ha)
  rw [zeh, zeh] at this
  exact this
theorem zhl.all : ∀ {l : List Nat} {D : zxk}, zhl aos l D → ∀ i, i < aos.length → D i = true ∨ i ∈ l
 | [], D, h, i, hi => .inl (h i hi)
 | k :: l, D, h, i, hi => by
  rcases h.2.2.all i hi with h1 | h1
  ·rcases zze.1 h1 with h2 | rfl
   ·exact .inl h2
   ·exact .inr (by simp)
  ·exact .inr (by simp [h1])
theorem zhl.nodup : ∀ {l : List Nat} {D : zxk}, zhl aos l D → l.Nodup
 | [], _, _ => List.nodup_nil
 | k :: l, D, h => List.nodup_cons.2 ⟨fun hk => by have := h.2.2.not_mem k hk; simp [upd] at this, h.2.2.nodup⟩
structure Flt where
 i : Nat
 o : zzu
 v : AVal
 nb : Option (Nat × AObj)
 tm : List AVal
inductive Item where
 | flt (x : Flt)
 | imm (i : Nat) (o : zzu) (st : ASt)
def Item.idx : Item → Nat
 | .flt x => x.i
 | .imm i _ _ => i
def Flt.heap (x : Flt) (H : zz6) : zz6 :=
 match x.nb with
 | none => H
 | some (A, ob) => { next := A + 1, tr := H.tr.set ob A }
def ASt.flt (st : ASt) (x : Flt) : ASt := ({ st with H := x.heap st.H } : ASt).put x.o.dst x.v
def part (S : zxk) : List Item → ASt → ASt
 | [], st => st
 | .flt x :: r, st => part S r (if S x.i then st.flt x else st)
 | .imm _ _ _ :: r, st => part S r st
def zvy : List Item → Prop
 | [] => True
 | .flt _ :: r => zvy r
 | .imm _ _ _ :: _ => False
def ykt (x : Flt) (st : ASt) : Prop :=
  x.tm = st.tm ∧
  ((zy6 x.o.guard st.tm = some false ∧ x.v = zzc ∧ x.nb = none) ∨
   (zy6 x.o.guard st.tm = some true ∧ x.nb = none ∧ x.o.mode = .quiet ∧ aOp st.tm x.o.op st.H = some (x.v, st.H) ∧ (x.o.op.pure = true ∨ x.o.op.reads = true)) ∨
   (zy6 x.o.guard st.tm = some true ∧ x.o.mode = .makes ∧ x.o.op.makes = true ∧ ∃ ob, (∀ l, ob ≠ .ro l) ∧ aOp st.tm x.o.op st.H = some (x.v, st.H.push ob) ∧ x.nb = some (st.H.next, ob)))
def Zr (tab : Nat → Nat → Bool) (tr : List Item) (H : zz6) : Prop :=
 ∀ x, Item.flt x ∈ tr → x.o.op.reads = true → (∀ j o s, Item.imm j o s ∈ tr → tab x.i j = false) → Yld x.o x.v x.tm H
def ztv (P : Program) (aos : List zzu) (tab : Nat → Nat → Bool) (K : ASt → Prop) : List Item → ASt → Prop
 | [], st => K st
 | .flt x :: r, st => aos[x.i]? = some x.o ∧ ykt x st ∧ ztv P aos tab K r (st.flt x)
 | .imm j o st' :: r, st => aos[j]? = some o ∧ yz2 P st o st' ∧ st.H.next ≤ st'.H.next ∧ Zr tab r st'.H ∧ ztv P aos tab K r st'
def zjh (tab : Nat → Nat → Bool) : List Item → List Nat → Option Nat → Prop
 | [], _, _ => True
 | .flt x :: r, pend, last => zjh tab r (x.i :: pend) last
 | .imm j _ _ :: r, pend, last => (∀ p ∈ pend, tab j p = true) ∧ (∀ l, last = some l → tab j l = true) ∧ zjh tab r [] (some j)
def zdg (o oj : zzu) : Prop := (∀ x, o.dst = some x → x ∉ oj.looks) ∧ (∀ x, o.dst = some x → oj.dst ≠ some x) ∧ (∀ x, oj.dst = some x → x ∉ o.looks)
def zuw (aos : List zzu) (tab : Nat → Nat → Bool) : Prop :=
 ∀ i k o ok, aos[i]? = some o → aos[k]? = some ok → i ≠ k → tab i k = true ∨ tab k i = true ∨ zdg o ok
def zwx : Item → Option Nat
 | .flt x => x.nb.map (·.1)
 | .imm _ _ _ => none
def zxe (n : Nat) (tr : List Item) : Prop := (tr.filterMap zwx).Pairwise (· < ·) ∧ ∀ A ∈ tr.filterMap zwx, n ≤ A
theorem zxe.mono {n m : Nat} {tr : List Item} (h : zxe n tr) (hm : m ≤ n) : zxe m tr := ⟨h.1, fun A hA => Nat.le_trans hm (h.2 A hA)⟩
theorem zvx (x : Flt) (st : ASt) : (st.flt x).H.next = match x.nb with | none => st.H.next | some (A, _) => A + 1 := by
 unfold ASt.flt; rw [yyd]; unfold Flt.heap; split <;> simp_all
theorem yqv (x : Flt) (st : ASt) : (st.flt x).H = x.heap st.H := by unfold ASt.flt; rw [yyd]
theorem ztv.names {tab : Nat → Nat → Bool} : ∀ {tr : List Item} {st : ASt}, ztv P aos tab K tr st → zxe st.H.next tr
 | [], st, _ => ⟨by simp, by simp⟩
 | .flt x :: r, st, h => by
  have ih := h.2.2.names
  obtain ⟨_, hf, _⟩ := h
  obtain ⟨_, ⟨_, _, hn⟩ | ⟨_, hn, _⟩ | ⟨_, _, _, ob, _, _, hn⟩⟩ := hf
  ·rw [zvx, hn] at ih
   simp only [zxe, List.filterMap_cons, zwx, hn, Option.map_none]; exact ih
  ·rw [zvx, hn] at ih
   simp only [zxe, List.filterMap_cons, zwx, hn, Option.map_none]; exact ih
  ·rw [zvx, hn] at ih
   simp only [zxe, List.filterMap_cons, zwx, hn, Option.map_some, List.pairwise_cons, List.mem_cons, forall_eq_or_imp]
   exact ⟨⟨fun A hA => ih.2 A hA, ih.1⟩, Nat.le_refl _, fun A hA => Nat.le_trans (Nat.le_succ _) (ih.2 A hA)⟩
 | .imm j o st' :: r, st, h => by
  have ih := h.2.2.2.2.names.mono h.2.2.1
  simpa only [zxe, List.filterMap_cons, zwx] using ih
def nm (tr : List Item) (S : zxk) (A : Nat) : Bool := tr.any fun
 | .flt x => S x.i && (match x.nb with | some (A', _) => A' == A | none => false)
 | .imm _ _ _ => false
theorem zx5 {tr : List Item} {S : zxk} {A : Nat} : nm tr S A = true ↔ ∃ x ob, Item.flt x ∈ tr ∧ S x.i = true ∧ x.nb = some (A, ob) := by
 unfold nm
 rw [List.any_eq_true]
 constructor
 ·rintro ⟨it, h1, h2⟩
  cases it with
  | flt x =>
   simp only [Bool.and_eq_true] at h2
   cases hn : x.nb with
   | none => rw [hn] at h2; simp at h2
   | some p =>
    obtain ⟨A', ob⟩ := p
    rw [hn] at h2
    have : A' = A := by simpa using h2.2
    exact ⟨x, ob, h1, h2.1, by rw [hn, this]⟩
  | imm _ _ _ => simp at h2
 ·rintro ⟨x, ob, h1, h2, h3⟩
  exact ⟨_, h1, by simp [h2, h3]⟩
theorem zsd {n : Nat} {tr : List Item} {S : zxk} {A : Nat} (hn : zxe n tr) (h : nm tr S A = true) : n ≤ A := by
 obtain ⟨x, ob, h1, _, h3⟩ := zx5.1 h
 exact hn.2 A (List.mem_filterMap.2 ⟨_, h1, by simp [zwx, h3]⟩)
theorem zj5 {n : Nat} : ∀ {tr : List Item}, zxe n tr → ∀ {x y : Flt} {A : Nat} {ob ob' : AObj}, Item.flt x ∈ tr → Item.flt y ∈ tr → x.nb = some (A, ob) → y.nb = some (A, ob') → x = y
 | [], _, x, y, _, _, _, hx, _, _, _ => by cases hx
 | it :: tr, h, x, y, A, ob, ob', hx, hy, ex, ey => by
  have hlt : ∀ z : Flt, it = .flt z → ∀ z' : Flt, ∀ {o1 o2 : AObj}, Item.flt z' ∈ tr → z.nb = some (A, o1) → z'.nb = some (A, o2) → False := fun z hz z' o1 o2 hz' e1 e2 => by
   subst hz
   have h1 := h.1
   simp only [List.filterMap_cons, zwx, e1, Option.map_some, List.pairwise_cons] at h1
   have := h1.1 A (List.mem_filterMap.2 ⟨_, hz', by simp [zwx, e2]⟩)
   omega
  have hrec : zxe n tr := by
   cases it with
   | flt z =>
    cases hz : z.nb with
    | none => simpa only [zxe, List.filterMap_cons, zwx, hz, Option.map_none] using h
    | some p =>
     have h1 := h.1; have h2 := h.2
     simp only [List.filterMap_cons, zwx, hz, Option.map_some, List.pairwise_cons, List.mem_cons, forall_eq_or_imp] at h1 h2
     exact ⟨h1.2, h2.2⟩
   | imm _ _ _ => simpa only [zxe, List.filterMap_cons, zwx] using h
  rcases List.mem_cons.1 hx with hx | hx <;> rcases List.mem_cons.1 hy with hy | hy
  ·rw [← hx] at hy; cases hy; rfl
  ·exact (hlt x hx.symm y hy ex ey).elim
  ·exact (hlt y hy.symm x hx ey ex).elim
  ·exact zj5 hrec hx hy ex ey
theorem zws (S : zxk) : ∀ (a b : List Item) (st : ASt), part S (a ++ b) st = part S b (part S a st)
 | [], _, _ => rfl
 | .flt x :: a, b, st => by simp only [List.cons_append, part]; exact zws S a b _
 | .imm _ _ _ :: a, b, st => by simp only [List.cons_append, part]; exact zws S a b _
theorem zqr {S T : zxk} : ∀ (tr : List Item) (st : ASt), (∀ x, Item.flt x ∈ tr → S x.i = T x.i) → part S tr st = part T tr st
 | [], _, _ => rfl
 | .flt x :: r, st, h => by simp only [part]; rw [h x (by simp)]; exact zqr r _ fun y hy => h y (by simp [hy])
 | .imm _ _ _ :: r, st, h => by simp only [part]; exact zqr r _ fun y hy => h y (by simp [hy])
theorem zve {S : zxk} : ∀ (tr : List Item) (st : ASt), (∀ x, Item.flt x ∈ tr → S x.i = false) → part S tr st = st
 | [], _, _ => rfl
 | .flt x :: r, st, h => by simp only [part]; rw [h x (by simp)]; exact zve r _ fun y hy => h y (by simp [hy])
 | .imm _ _ _ :: r, st, h => by simp only [part]; exact zve r _ fun y hy => h y (by simp [hy])
theorem zq1 (S : zxk) : ∀ (tr : List Item) (st : ASt), (part S tr st).marks = st.marks
 | [], _ => rfl
 | .flt x :: r, st => by
  simp only [part]; rw [zq1 S r]
  split
  ·unfold ASt.flt; rw [zul]
  ·rfl
 | .imm _ _ _ :: r, st => by simp only [part]; rw [zq1 S r]
def lk (S : zxk) : List Item → Nat → Option AObj → Option AObj
 | [], _, d => d
 | .flt x :: r, A, d => lk S r A (if S x.i then (match x.nb with | some (A', ob) => if A = A' then some ob else d | none => d) else d)
 | .imm _ _ _ :: r, A, d => lk S r A d
theorem znw (x : Flt) (H : zz6) (A : Nat) : (x.heap H).get A = match x.nb with | some (A', ob) => if A = A' then some ob else H.get A | none => H.get A := by
 unfold Flt.heap
 split <;> simp_all [zz6.get, Tr.get_set]
theorem zwb (S : zxk) : ∀ (tr : List Item) (st : ASt) (A : Nat), (part S tr st).H.get A = lk S tr A (st.H.get A)
 | [], _, _ => rfl
 | .flt x :: r, st, A => by
  simp only [part, lk]; rw [zwb S r]
  cases hS : S x.i with
  | true => simp only [if_true]; rw [yqv, znw]
  | false => simp
 | .imm _ _ _ :: r, st, A => by simp only [part, lk]; exact zwb S r _ _
theorem zth {S : zxk} : ∀ {tr : List Item} {A : Nat} {d : Option AObj}, nm tr S A = false → lk S tr A d = d
 | [], _, _, _ => rfl
 | .flt x :: r, A, d, h => by
  simp only [nm, List.any_cons, Bool.or_eq_false_iff] at h
  simp only [lk]
  have h1 := h.1
  have : (if S x.i = true then (match x.nb with | some (A', ob) => if A = A' then some ob else d | none => d) else d) = d := by
   split
   ·rename_i hS
    rw [hS] at h1
    split
    ·rename_i A' ob hn
     rw [hn] at h1
     rw [if_neg]
     intro e; subst e; simp at h1
    ·rfl
   ·rfl
  rw [this]
  exact zth (tr := r) h.2
 | .imm _ _ _ :: r, A, d, h => by
  simp only [nm, List.any_cons, Bool.false_or] at h
  simp only [lk]; exact zth (tr := r) h
theorem zay {S : zxk} : ∀ {tr : List Item} {A : Nat}, nm tr S A = true → ∀ d d', lk S tr A d = lk S tr A d'
 | [], _, h, _, _ => by simp [nm] at h
 | .flt x :: r, A, h, d, d' => by
  simp only [lk]
  by_cases hr : nm r S A = true
  ·exact zay hr _ _
  ·have hr' : nm r S A = false := by simpa using hr
   rw [zth hr', zth hr']
   have h1 : (S x.i && (match x.nb with | some (A', _) => A' == A | none => false)) = true := by
    have : nm (.flt x :: r) S A = ((S x.i && (match x.nb with | some (A', _) => A' == A | none => false)) || nm r S A) := rfl
    rw [this, hr', Bool.or_false] at h
    exact h
   simp only [Bool.and_eq_true] at h1
   rw [if_pos h1.1, if_pos h1.1]
   cases hn : x.nb with
   | none => rw [hn] at h1; simp at h1
   | some p =>
    obtain ⟨A', ob⟩ := p
    rw [hn] at h1
    have : A' = A := by simpa using h1.2
    simp [this]
 | .imm _ _ _ :: r, A, h, d, d' => by
  simp only [nm, List.any_cons, Bool.false_or] at h
  simp only [lk]; exact zay (tr := r) h d d'
theorem zaz {S : zxk} : ∀ {tr : List Item} {A : Nat} {d : Option AObj}, nm tr S A = true → ∃ x ob, Item.flt x ∈ tr ∧ S x.i = true ∧ x.nb = some (A, ob) ∧ lk S tr A d = some ob
 | [], _, _, h => by simp [nm] at h
 | .flt x :: r, A, d, h => by
  simp only [lk]
  by_cases hr : nm r S A = true
  ·obtain ⟨y, ob, h1, h2, h3, h4⟩ := zaz (d := if S x.i then (match x.nb with | some (A', ob) => if A = A' then some ob else d | none => d) else d) hr
   exact ⟨y, ob, by simp [h1], h2, h3, h4⟩
  ·have hr' : nm r S A = false := by simpa using hr
   rw [zth hr']
   have h1 : (S x.i && (match x.nb with | some (A', _) => A' == A | none => false)) = true := by
    have : nm (.flt x :: r) S A = ((S x.i && (match x.nb with | some (A', _) => A' == A | none => false)) || nm r S A) := rfl
    rw [this, hr', Bool.or_false] at h
    exact h
   simp only [Bool.and_eq_true] at h1
   rw [if_pos h1.1]
   cases hn : x.nb with
   | none => rw [hn] at h1; simp at h1
   | some p =>
    obtain ⟨A', ob⟩ := p
    rw [hn] at h1
    have : A' = A := by simpa using h1.2
    exact ⟨x, ob, by simp, h1.1, by rw [hn, this], by simp [this]⟩
 | .imm _ _ _ :: r, A, d, h => by
  simp only [nm, List.any_cons, Bool.false_or] at h
  obtain ⟨y, ob, h1, h2⟩ := zaz (d := d) (tr := r) h
  exact ⟨y, ob, by simp [h1], h2⟩
theorem zt1 {S : zxk} : ∀ {tr : List Item} {st : ASt}, zxe st.H.next tr → (∀ X, st.H.next ≤ X → st.H.get X = none) → ∀ X, (part S tr st).H.next ≤ X → (part S tr st).H.get X = none
 | [], _, _, h, X, hX => h X hX
 | .flt x :: r, st, hn, h, X, hX => by
  simp only [part] at hX ⊢
  have hrec : zxe st.H.next r := by
   have h1 := hn.1; have h2 := hn.2
   cases hz : x.nb with
   | none => simpa only [zxe, List.filterMap_cons, zwx, hz, Option.map_none] using hn
   | some p =>
    simp only [List.filterMap_cons, zwx, hz, Option.map_some, List.pairwise_cons, List.mem_cons, forall_eq_or_imp] at h1 h2
    exact ⟨h1.2, h2.2⟩
  cases hS : S x.i with
  | false =>
   simp only [hS, Bool.false_eq_true, if_false] at hX ⊢
   exact zt1 hrec h X hX
  | true =>
   simp only [hS, if_true] at hX ⊢
   refine zt1 ?_ ?_ X hX
   ·rw [zvx]
    cases hz : x.nb with
    | none => exact hrec
    | some p =>
     obtain ⟨A, ob⟩ := p
     have h1 := hn.1
     simp only [List.filterMap_cons, zwx, hz, Option.map_some, List.pairwise_cons] at h1
     exact ⟨hrec.1, fun B hB => h1.1 B hB⟩
   ·intro Y hY
    rw [zvx] at hY
    rw [yqv, znw]
    cases hz : x.nb with
    | none => rw [hz] at hY; exact h Y hY
    | some p =>
     obtain ⟨A, ob⟩ := p
     rw [hz] at hY
     simp only at hY ⊢
     have : st.H.next ≤ A := hn.2 A (by simp [List.filterMap_cons, zwx, hz])
     rw [if_neg (by omega)]
     exact h Y (by omega)
 | .imm _ _ _ :: r, st, hn, h, X, hX => by
  simp only [part] at hX ⊢
  exact zt1 (by simpa only [zxe, List.filterMap_cons, zwx] using hn) h X hX
theorem zbs {S : zxk} {d : Option Nat} {v : AVal} : ∀ {tr : List Item} {st : ASt}, (∀ x, Item.flt x ∈ tr → S x.i = true → ∀ t, d = some t → x.o.dst ≠ some t) → (part S tr (st.put d v)) = (part S tr st).put d v
 | [], _, _ => rfl
 | .flt x :: r, st, h => by
  simp only [part]
  cases hS : S x.i with
  | false => simp only [Bool.false_eq_true, if_false]; exact zbs fun y hy => h y (by simp [hy])
  | true =>
   simp only [if_true]
   have : (st.put d v).flt x = (st.flt x).put d v := by
    unfold ASt.flt
    have e : ({ st.put d v with H := x.heap (st.put d v).H } : ASt) = ({ st with H := x.heap st.H } : ASt).put d v := by cases d <;> rfl
    rw [e, yye fun t ht => h x (by simp) hS t ht]
   rw [this]
   exact zbs fun y hy => h y (by simp [hy])
 | .imm _ _ _ :: r, st, h => by simp only [part]; exact zbs fun y hy => h y (by simp [hy])
theorem zmv {S : zxk} : ∀ {tr : List Item} {st st' : ASt}, st.tm = st'.tm → (part S tr st).tm = (part S tr st').tm
 | [], _, _, h => h
 | .flt x :: r, st, st', h => by
  simp only [part]
  refine zmv ?_
  split
  ·unfold ASt.flt
   cases x.o.dst with
   | none => exact h
   | some d => simp only [ASt.put, h]
  ·exact h
 | .imm _ _ _ :: r, st, st', h => by simp only [part]; exact zmv h
end
section
variable {P : Program} {B : Base} {ρ : Ren} {H H' : zz6} {w : World} {r : Option Nat} {st : ASt} {K : ASt → Prop} {aos : List zzu} {tab : Nat → Nat → Bool} {ρb : Ren}
def zqg (N : zxk) (ρ : Ren) : Ren := fun A v => if N A = true then none else ρ A v
theorem yy8 {N N' : zxk} (h : ∀ A, N' A = true → N A = true) : (zqg N ρ).le (zqg N' ρ) := fun A v x hx => by
 unfold zqg at *
 cases hN : N' A with
 | true => rw [h A hN] at hx; cases hx
 | false =>
  simp only [Bool.false_eq_true, if_false]
  cases hN2 : N A with
  | true => rw [hN2] at hx; cases hx
  | false => rw [hN2] at hx; exact hx
theorem zrk {N : zxk} (h : ∀ A, N A = false) : zqg N ρ = ρ := by
 funext A v; unfold zqg; rw [h A]; rfl
theorem zcp {tr : List Item} {S T : zxk} (h : ∀ k, S k = true → T k = true) (A : Nat) (hA : nm tr S A = true) : nm tr T A = true := by
 obtain ⟨x, ob, h1, h2, h3⟩ := zx5.1 hA
 exact zx5.2 ⟨x, ob, h1, h x.i h2, h3⟩
structure Inv (P : Program) (B : Base) (ρb : Ren) (aos : List zzu) (tab : Nat → Nat → Bool) (K : ASt → Prop) (tr : List Item) (D L : zxk) (st : ASt) (ρ : Ren) (a : Act) (w : World) : Prop where
 le : ∀ A v x, ρb A v = some x → ρ A v = some x ∧ A < st.H.next
 ord : zhl aos (tr.map Item.idx) D
 dcl : zxw aos D
 lcl : zxw aos L
 dl : ∀ i, D i = true → L i = true
 imm : ∀ j o s, Item.imm j o s ∈ tr → L j = false
 trok : ztv P aos tab K tr st
 chain : ∃ last, zjh tab tr [] last
 z : Zr tab tr st.H
 main : ∀ S : zxk, zxw aos S → (∀ i, D i = true → S i = true) → (∀ i, S i = true → L i = true) → ∃ aS : Act,
  zv7 P B (zqg (nm tr fun k => L k && !S k) ρ) (part S tr st) aS w ∧ aS.tmps.size = a.tmps.size ∧
  (∀ t, (∀ i o, L i = true → S i = false → aos[i]? = some o → o.dst ≠ some t) → aS.tmps[t]? = a.tmps[t]?) ∧ aS.defers = a.defers
theorem zs7 (hanc : zhu aos tab) (hfree : zuw aos tab) {i k : Nat} {o ok : zzu} (hi : aos[i]? = some o) (hk : aos[k]? = some ok) (hne : i ≠ k) {T U : zxk} (hT : zxw aos T) (t1 : T i = true) (t2 : T k = false)
  (hU : zxw aos U) (u1 : U k = true) (u2 : U i = false) : zdg o ok := by
 rcases hfree i k o ok hi hk hne with h | h | h
 ·rw [hanc i k h T hT t1] at t2; cases t2
 ·rw [hanc k i h U hU u1] at u2; cases u2
 ·exact h
def zxl : List Item → ASt → ASt
 | [], st => st
 | .flt x :: r, st => zxl r (st.flt x)
 | .imm _ _ s :: r, _ => zxl r s
theorem ztv.split : ∀ {pre post : List Item} {st : ASt}, ztv P aos tab K (pre ++ post) st → ztv P aos tab K post (zxl pre st)
 | [], _, _, h => h
 | .flt _ :: pre, _, _, h => ztv.split (pre := pre) h.2.2
 | .imm _ _ _ :: pre, _, _, h => ztv.split (pre := pre) h.2.2.2.2
theorem ztv.get_flt : ∀ {tr : List Item} {st : ASt}, ztv P aos tab K tr st → ∀ x, Item.flt x ∈ tr → aos[x.i]? = some x.o
 | [], _, _, x, hx => by cases hx
 | .flt y :: r, _, h, x, hx => by
  rcases List.mem_cons.1 hx with e | e
  ·cases e; exact h.1
  ·exact h.2.2.get_flt x e
 | .imm _ _ _ :: r, _, h, x, hx => by
  rcases List.mem_cons.1 hx with e | e
  ·cases e
  ·exact h.2.2.2.2.get_flt x e
theorem ztv.get_imm : ∀ {tr : List Item} {st : ASt}, ztv P aos tab K tr st → ∀ j o s, Item.imm j o s ∈ tr → aos[j]? = some o
 | [], _, _, _, _, _, hx => by cases hx
 | .flt y :: r, _, h, j, o, s, hx => by
  rcases List.mem_cons.1 hx with e | e
  ·cases e
  ·exact h.2.2.get_imm j o s e
 | .imm _ _ _ :: r, _, h, j, o, s, hx => by
  rcases List.mem_cons.1 hx with e | e
  ·cases e; exact h.1
  ·exact h.2.2.2.2.get_imm j o s e
theorem yz2.tm_eq {o : zzu} {st st' : ASt} (h : yz2 P st o st') : ∃ v, st'.tm = (st.put o.dst v).tm := by
 rcases h with ⟨_, rfl⟩ | ⟨_, v, H', rfl, _⟩
 ·exact ⟨_, rfl⟩
 ·exact ⟨v, by cases o.dst <;> rfl⟩
theorem zh7 {α : Type} {tm tm' : List α} {d n : Nat} (v : α) (h : d = n → tm[n]? = tm'[n]?) (h' : d ≠ n → tm[n]? = tm'[n]?) : (tm.set d v)[n]? = (tm'.set d v)[n]? := by
 by_cases e : d = n
 ·subst e
  have := h rfl
  by_cases hl : d < tm.length
  ·have hl' : d < tm'.length := by
    rcases Nat.lt_or_ge d tm'.length with h1 | h1
    ·exact h1
    ·rw [List.getElem?_eq_none h1, List.getElem?_eq_getElem hl] at this; cases this
   rw [List.getElem?_set_self hl, List.getElem?_set_self hl']
  ·have hl' : ¬ d < tm'.length := fun h1 => by
    rw [List.getElem?_eq_none (by omega), List.getElem?_eq_getElem h1] at this; cases this
   rw [List.getElem?_eq_none (by simp; omega), List.getElem?_eq_none (by simp; omega)]
 ·rw [List.getElem?_set_ne e, List.getElem?_set_ne e]; exact h' e
theorem zvn.put2 {o : zzu} {s s' : ASt} (h : zvn o s.tm s'.tm) (d : Option Nat) (v : AVal) : zvn o (s.put d v).tm (s'.put d v).tm := fun n hn => by
 cases d with
 | none => exact h n hn
 | some d => exact zh7 v (fun _ => h n hn) (fun _ => h n hn)
theorem za3 (x : Flt) (st : ASt) : (st.flt x).tm = (st.put x.o.dst x.v).tm := by unfold ASt.flt; cases x.o.dst <;> rfl
theorem zvn.put_left {o : zzu} {s : ASt} {tm : List AVal} (h : zvn o s.tm tm) {d : Option Nat} (hd : ∀ t, d = some t → t ∉ o.looks) (v : AVal) : zvn o (s.put d v).tm tm := fun n hn => by
 cases d with
 | none => exact h n hn
 | some d =>
  have : d ≠ n := fun e => hd d rfl (e ▸ hn)
  simp only [ASt.put, List.getElem?_set_ne this]
  exact h n hn
theorem zp2 {xo : zzu} {S : zxk} : ∀ {pre post : List Item} {s1 s2 : ASt}, ztv P aos tab K (pre ++ post) s1 → (∀ y, Item.flt y ∈ pre → S y.i = false → ∀ t, y.o.dst = some t → t ∉ xo.looks) →
  (∀ j o s, Item.imm j o s ∈ pre → ∀ t, o.dst = some t → t ∉ xo.looks) → zvn xo s1.tm s2.tm → zvn xo (zxl pre s1).tm (part S pre s2).tm
 | [], _, _, _, _, _, _, h => h
 | .flt y :: pre, post, s1, s2, ht, h1, h2, h => by
  simp only [zxl, part]
  refine zp2 ht.2.2 (fun z hz => h1 z (by simp [hz])) (fun j o s hj => h2 j o s (by simp [hj])) ?_
  cases hS : S y.i with
  | true =>
   simp only [if_true, za3]
   exact h.put2 _ _
  | false =>
   simp only [Bool.false_eq_true, if_false, za3]
   exact h.put_left (h1 y (by simp) hS) _
 | .imm j o s :: pre, post, s1, s2, ht, h1, h2, h => by
  simp only [zxl, part]
  refine zp2 ht.2.2.2.2 (fun z hz => h1 z (by simp [hz])) (fun j o s hj => h2 j o s (by simp [hj])) ?_
  obtain ⟨v, hv⟩ := ht.2.1.tm_eq
  rw [hv]
  exact h.put_left (h2 j o s (by simp)) v
theorem zk3 : ∀ {pre post : List Item} {st : ASt}, ztv P aos tab K (pre ++ post) st → ∀ A ∈ pre.filterMap zwx, A < (zxl pre st).H.next
 | [], _, _, _, A, hA => by cases hA
 | .flt x :: pre, post, st, h, A, hA => by
  have hmono : ∀ {p q : List Item} {s : ASt}, ztv P aos tab K (p ++ q) s → s.H.next ≤ (zxl p s).H.next := by
   intro p
   induction p with
   | nil => intro q s h; exact Nat.le_refl _
   | cons it p ih =>
    intro q s h
    cases it with
    | flt x =>
     refine Nat.le_trans ?_ (ih h.2.2)
     rw [zvx]
     obtain ⟨_, hf, _⟩ := h
     obtain ⟨_, ⟨_, _, hn⟩ | ⟨_, hn, _⟩ | ⟨_, _, _, ob, _, _, hn⟩⟩ := hf
     ·rw [hn]; exact Nat.le_refl _
     ·rw [hn]; exact Nat.le_refl _
     ·rw [hn]; exact Nat.le_succ _
    | imm j o s' => exact Nat.le_trans h.2.2.1 (ih h.2.2.2.2)
  simp only [zxl]
  cases hn : x.nb with
  | none =>
   simp only [List.filterMap_cons, zwx, hn, Option.map_none] at hA
   exact zk3 h.2.2 A hA
  | some p =>
   obtain ⟨A', ob⟩ := p
   simp only [List.filterMap_cons, zwx, hn, Option.map_some, List.mem_cons] at hA
   rcases hA with rfl | hA
   ·have := hmono h.2.2
    rw [zvx, hn] at this
    exact this
   ·exact zk3 h.2.2 A hA
 | .imm j o s :: pre, post, st, h, A, hA => by
  simp only [List.filterMap_cons, zwx] at hA
  exact zk3 h.2.2.2.2 A hA
theorem zqd : ∀ {p q : List Item} {s : ASt}, ztv P aos tab K (p ++ q) s → s.H.next ≤ (zxl p s).H.next
 | [], _, _, _ => Nat.le_refl _
 | .flt x :: p, q, s, h => by
  refine Nat.le_trans ?_ (zqd (p := p) h.2.2)
  rw [zvx]
  obtain ⟨_, hf, _⟩ := h
  obtain ⟨_, ⟨_, _, hn⟩ | ⟨_, hn, _⟩ | ⟨_, _, _, ob, _, _, hn⟩⟩ := hf
  ·rw [hn]; exact Nat.le_refl _
  ·rw [hn]; exact Nat.le_refl _
  ·rw [hn]; exact Nat.le_succ _
 | .imm j o s' :: p, q, s, h => Nat.le_trans h.2.2.1 (zqd (p := p) h.2.2.2.2)
theorem zy9 {tr : List Item} {x : Flt} (h : Item.flt x ∈ tr) : x.i ∈ tr.map Item.idx := List.mem_map.2 ⟨_, h, rfl⟩
theorem zu7 {tr : List Item} {j : Nat} {o : zzu} {s : ASt} (h : Item.imm j o s ∈ tr) : j ∈ tr.map Item.idx := List.mem_map.2 ⟨_, h, rfl⟩
theorem Inv.wf {tr : List Item} {D L : zxk} {a : Act} (h : Inv P B ρb aos tab K tr D L st ρ a w) : ∀ X, st.H.next ≤ X → st.H.get X = none := by
 obtain ⟨aS, h1, _⟩ := h.main D h.dcl (fun _ h => h) h.dl
 have : part D tr st = st := zve tr st fun x hx => h.ord.not_mem _ (zy9 hx)
 rw [this] at h1
 exact h1.H.wf
theorem Inv.hle {tr : List Item} {D L : zxk} {a : Act} (h : Inv P B ρb aos tab K tr D L st ρ a w) (S : zxk) : HLe st.H (part S tr st).H := fun A o ho => by
 rw [zwb, zth, ho]
 cases hn : nm tr S A with
 | false => rfl
 | true =>
  have h1 := zsd h.trok.names hn
  rw [h.wf A h1] at ho; cases ho
theorem Inv.sees {tr pre post : List Item} {D L : zxk} {a : Act} {x : Flt} {ops : Array Oper} {oc : Oper} (hanc : zhu aos tab) (hfree : zuw aos tab) (h : Inv P B ρb aos tab K tr D L st ρ a w) (htr : tr = pre ++ .flt x :: post)
  (hx : L x.i = false) (hoc : zkr P ops oc = some x.o) {S : zxk} (hS : zxw aos S) (hDS : ∀ i, D i = true → S i = true) (hSL : ∀ i, S i = true → L i = true) (hax : ∀ e ∈ x.o.after, S e = true) :
  ∃ (S0 : zxk) (a0 : Act), (∀ k, S0 k = true → S k = true) ∧ (∀ k, D k = true → S0 k = true) ∧ zv7 P B (zqg (nm tr fun k => L k && !S0 k) ρ) (part S0 tr st) a0 w ∧ zvn x.o (zxl pre st).tm (part S0 tr st).tm ∧
   (∀ y ∈ oc.op.operands, a0.eval y = a.eval y) ∧ Region.wanted oc (yielded ops a0.tmps) = Region.wanted oc (yielded ops a.tmps) ∧ (∀ X, (zxl pre st).H.next ≤ X → (part S0 tr st).H.get X = none) := by
 have hord := h.ord
 rw [htr, List.map_append, List.map_cons] at hord
 obtain ⟨o1, o2, ⟨o', o3, o4⟩, o5⟩ := hord.split h.dcl
 have hxo : aos[x.i]? = some x.o := h.trok.get_flt x (by rw [htr]; simp)
 change uni D (pre.map Item.idx) x.i = false at o2
 change aos[x.i]? = some o' at o3
 change zhl aos (post.map Item.idx) (uni D (pre.map Item.idx ++ [x.i])) at o5
 rw [hxo] at o3; cases o3
 refine ⟨fun k => S k && uni D (pre.map Item.idx) k, ?_⟩
 have hS0 : zxw aos fun k => S k && uni D (pre.map Item.idx) k := hS.and o1
 have hup : zxw aos (upd (fun k => S k && uni D (pre.map Item.idx) k) x.i) := hS0.upd hxo fun e he => by simp [hax e he, o4 e he]
 have hS0L : ∀ k, (S k && uni D (pre.map Item.idx) k) = true → L k = true := fun k hk => hSL k (by simp only [Bool.and_eq_true] at hk; exact hk.1)
 have hDS0 : ∀ k, D k = true → (S k && uni D (pre.map Item.idx) k) = true := fun k hk => by simp [hDS k hk, zwh.2 (.inl hk)]
 obtain ⟨a0, g1, g2, g3, g4⟩ := h.main _ hS0 hDS0 hS0L
 -- those that are listed and not in S0 are apart
 have hap : ∀ i o, L i = true → (S i && uni D (pre.map Item.idx) i) = false → aos[i]? = some o → zdg x.o o := fun i o hi hS' ho => by
  have hne : x.i ≠ i := fun e => by rw [e, hi] at hx; cases hx
  exact zs7 hanc hfree hxo ho hne hup (zze.2 (.inr rfl)) (by rw [zqy]; exact ⟨hS', Ne.symm hne⟩) h.lcl hi hx
 have hpost : ∀ k ∈ post.map Item.idx, uni D (pre.map Item.idx) k = false := fun k hk => by
  have := o5.not_mem k hk
  cases hv : uni D (pre.map Item.idx) k with
  | false => rfl
  | true =>
   have : uni D (pre.map Item.idx ++ [x.i]) k = true := by
    rw [zwh] at hv ⊢
    rcases hv with e | e
    ·exact .inl e
    ·exact .inr (List.mem_append_left _ e)
   simp_all
 have hpart : part (fun k => S k && uni D (pre.map Item.idx) k) tr st = part (fun k => S k && uni D (pre.map Item.idx) k) pre st := by
  rw [htr, zws]
  refine zve _ _ fun y hy => ?_
  rcases List.mem_cons.1 hy with e | e
  ·cases e; simp [o2]
  ·simp [hpost _ (zy9 e)]
 have htrok := h.trok
 rw [htr] at htrok
 refine ⟨a0, fun k hk => by simp only [Bool.and_eq_true] at hk; exact hk.1, hDS0, g1, ?_, ?_, ?_, ?_⟩
 ·rw [hpart]
  have hpre : ∀ k o, aos[k]? = some o → k ∈ pre.map Item.idx → (S k && uni D (pre.map Item.idx) k) = false → ∀ t, o.dst = some t → t ∉ x.o.looks := fun k o ho hk hS' t ht => by
   have hne : x.i ≠ k := fun e => by rw [e] at o2; rw [zwh.2 (.inr hk)] at o2; cases o2
   have := zs7 hanc hfree hxo ho hne hup (zze.2 (.inr rfl)) (by rw [zqy]; exact ⟨hS', Ne.symm hne⟩) o1 (zwh.2 (.inr hk)) o2
   exact this.2.2 t ht
  refine zp2 htrok (fun y hy hS' => hpre y.i y.o (h.trok.get_flt y (by rw [htr]; simp [hy])) (zy9 hy) hS') (fun j o s hj => hpre j o (h.trok.get_imm j o s (by rw [htr]; simp [hj])) (zu7 hj) ?_) (zvn.refl _ _)
  have : L j = false := h.imm j o s (by rw [htr]; simp [hj])
  cases hv : S j with
  | false => rfl
  | true => rw [hSL j hv] at this; cases this
 ·intro y hy
  cases y with
  | tmp t =>
   have ht : t ∈ x.o.looks := List.mem_append_right _ (by rw [(zql hoc).1]; exact zpt hy)
   have := g3 t fun i o hi hS' ho e => (hap i o hi hS' ho).2.2 t e ht
   simp only [Act.eval, Array.getD_eq_getD_getElem?, this]
  | _ => rfl
 ·cases hg : oc.guard with
  | none => simp [Region.wanted, hg]
  | some p =>
   obtain ⟨j, b⟩ := p
   obtain ⟨d, hd, hgx⟩ := (zql hoc).2.2 j b hg
   have ht : d ∈ x.o.looks := List.mem_append_left _ (List.mem_append_right _ (by rw [hgx]; simp))
   have := g3 d fun i o hi hS' ho e => (hap i o hi hS' ho).2.2 d e ht
   simp only [Region.wanted, hg, yielded, hd, Option.bind_some, this]
 ·intro X hX
  rw [hpart, zwb]
  have hst : st.H.get X = none := h.wf X (Nat.le_trans (zqd htrok) hX)
  cases hn : nm pre (fun k => S k && uni D (pre.map Item.idx) k) X with
  | false => rw [zth hn]; exact hst
  | true =>
   obtain ⟨y, ob, h1, _, h3⟩ := zx5.1 hn
   have := zk3 htrok X (List.mem_filterMap.2 ⟨_, h1, by simp [zwx, h3]⟩)
   omega
end
end Go.Vm
