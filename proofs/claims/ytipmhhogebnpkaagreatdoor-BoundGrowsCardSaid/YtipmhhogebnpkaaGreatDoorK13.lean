/- The abstract machine, part 19: regions whose order is drawn: one plan stands for all orders. -/
import Derived.Test.YtipmhhogebnpkaaGreatDoorK12
namespace Go.Vm
open Go

set_option linter.unusedVariables false
set_option linter.unusedSimpArgs false

variable {P : Program} {B : Base} {ρ ρ' : Ren} {H H' : AHeap} {w w' : World} {r : Option Nat} {st : ASt} {K : ASt → Prop} {aos : List AOper}

/-! ### Sets of operations -/

abbrev NSet := Nat → Bool

def upd (D : NSet) (i : Nat) : NSet := fun k => D k || k == i
def mns (D : NSet) (i : Nat) : NSet := fun k => D k && !(k == i)
def uni (D : NSet) (l : List Nat) : NSet := fun k => D k || l.contains k

theorem upd_true {D : NSet} {i k : Nat} : upd D i k = true ↔ D k = true ∨ k = i := by simp [upd]
theorem upd_false {D : NSet} {i k : Nat} : upd D i k = false ↔ D k = false ∧ k ≠ i := by simp [upd]
theorem uni_true {D : NSet} {l : List Nat} {k : Nat} : uni D l k = true ↔ D k = true ∨ k ∈ l := by simp [uni]
theorem mns_true {D : NSet} {i k : Nat} : mns D i k = true ↔ D k = true ∧ k ≠ i := by simp [mns]

def Closed (aos : List AOper) (S : NSet) : Prop := ∀ j o, aos[j]? = some o → S j = true → ∀ e ∈ o.after, S e = true

theorem Closed.upd {S : NSet} {i : Nat} {o : AOper} (h : Closed aos S) (ho : aos[i]? = some o) (ha : ∀ e ∈ o.after, S e = true) : Closed aos (upd S i) := fun j oj hj hS e he => by
  rw [upd_true] at hS ⊢
  rcases hS with hS | rfl
  · exact .inl (h j oj hj hS e he)
  · rw [ho] at hj; cases hj; exact .inl (ha e he)

theorem Closed.and {S T : NSet} (h : Closed aos S) (h' : Closed aos T) : Closed aos fun k => S k && T k := fun j oj hj hS e he => by
  simp only [Bool.and_eq_true] at hS ⊢
  exact ⟨h j oj hj hS.1 e he, h' j oj hj hS.2 e he⟩

def AncOk (aos : List AOper) (tab : Nat → Nat → Bool) : Prop := ∀ j a, tab j a = true → ∀ S, Closed aos S → S j = true → S a = true

theorem ancFold {acc : List Nat} {a : Nat} : ∀ (l : List Nat) (m : Nat), Nat.testBit (ancOf acc l m) a = true → Nat.testBit m a = true ∨ ∃ p ∈ l, a = p ∨ inA acc p a = true
  | [], m, h => .inl h
  | p :: l, m, h => by
    simp only [ancOf] at h
    rcases ancFold l _ h with h1 | ⟨q, h1, h2⟩
    · rw [Nat.testBit_or, Nat.testBit_or, Bool.or_eq_true, Bool.or_eq_true, Nat.testBit_two_pow] at h1
      rcases h1 with h1 | h1 | h1
      · exact .inl h1
      · exact .inr ⟨p, by simp, .inl (by simpa using h1 : p = a).symm⟩
      · exact .inr ⟨p, by simp, .inr h1⟩
    · exact .inr ⟨q, by simp [h1], h2⟩

theorem mkAnc_ok : ∀ (os : List AOper) (pre : List AOper) (acc : List Nat), aos = pre ++ os → acc.length = pre.length → AncOk aos (inA acc) → AncOk aos (inA (mkAnc os acc))
  | [], _, _, _, _, h => h
  | o :: os, pre, acc, ha, hl, h => by
    unfold mkAnc
    refine mkAnc_ok os (pre ++ [o]) _ (by simp [ha]) (by simp [hl]) fun j a hm S hg hj => ?_
    unfold inA at hm
    rw [List.getD_eq_getElem?_getD, List.getElem?_append] at hm
    split at hm
    · exact h j a (by unfold inA; rw [List.getD_eq_getElem?_getD]; exact hm) S hg hj
    · rename_i hjl
      have hj0 : j - acc.length = 0 := by
        rcases Nat.eq_zero_or_pos (j - acc.length) with e | e
        · exact e
        · rw [List.getElem?_eq_none (by simp; omega)] at hm; simp at hm
      have hjp : j = pre.length := by omega
      rw [hj0] at hm
      simp only [List.getElem?_cons_zero, Option.getD_some] at hm
      have hoj : aos[j]? = some o := by rw [ha, hjp]; simp
      rcases ancFold o.after 0 hm with h1 | ⟨p, hp, hm⟩
      · simp at h1
      · have hpl := hg j o hoj hj p hp
        rcases hm with rfl | hm
        · exact hpl
        · exact h p a hm S hg hpl

theorem anc_ok : AncOk aos (inA (mkAnc aos [])) := mkAnc_ok aos [] [] rfl rfl fun j a hm => by simp [inA] at hm

/-- The order of a plan. -/
def OrdL (aos : List AOper) : List Nat → NSet → Prop
  | [], D => ∀ i, i < aos.length → D i = true
  | i :: r, D => D i = false ∧ (∃ o, aos[i]? = some o ∧ ∀ e ∈ o.after, D e = true) ∧ OrdL aos r (upd D i)

theorem OrdL.not_mem : ∀ {l : List Nat} {D : NSet}, OrdL aos l D → ∀ i ∈ l, D i = false
  | [], _, _, i, hi => by cases hi
  | k :: l, D, h, i, hi => by
    rcases List.mem_cons.1 hi with rfl | hi
    · exact h.1
    · have := h.2.2.not_mem i hi
      exact (upd_false.1 this).1

theorem uni_nil (D : NSet) : uni D [] = D := by funext k; simp [uni]
theorem uni_cons (D : NSet) (i : Nat) (l : List Nat) : uni (upd D i) l = uni D (i :: l) := by
  funext k
  simp only [uni, upd, List.contains_cons, Bool.or_assoc]

theorem OrdL.split : ∀ {pre : List Nat} {i : Nat} {post : List Nat} {D : NSet}, OrdL aos (pre ++ i :: post) D → Closed aos D →
    Closed aos (uni D pre) ∧ uni D pre i = false ∧ (∃ o, aos[i]? = some o ∧ ∀ e ∈ o.after, uni D pre e = true) ∧ OrdL aos post (uni D (pre ++ [i]))
  | [], i, post, D, h, hc => by
    obtain ⟨h1, h2, h3⟩ := h
    refine ⟨by rw [uni_nil]; exact hc, by rw [uni_nil]; exact h1, by rw [uni_nil]; exact h2, ?_⟩
    have : uni D ([] ++ [i]) = upd D i := by funext k; simp [uni, upd]; rfl
    rw [this]; exact h3
  | p :: pre, i, post, D, h, hc => by
    obtain ⟨h1, ⟨o, ho, ha⟩, h3⟩ := h
    have := OrdL.split (pre := pre) h3 (hc.upd ho ha)
    rw [uni_cons, uni_cons] at this
    exact this

theorem OrdL.append : ∀ {pre post : List Nat} {D : NSet}, OrdL aos (pre ++ post) D → Closed aos D → OrdL aos post (uni D pre) ∧ Closed aos (uni D pre)
  | [], post, D, h, hc => by rw [uni_nil]; exact ⟨h, hc⟩
  | p :: pre, post, D, h, hc => by
    obtain ⟨h1, ⟨o, ho, ha⟩, h3⟩ := h
    have := OrdL.append (pre := pre) h3 (hc.upd ho ha)
    rw [uni_cons] at this
    exact this

theorem OrdL.all : ∀ {l : List Nat} {D : NSet}, OrdL aos l D → ∀ i, i < aos.length → D i = true ∨ i ∈ l
  | [], D, h, i, hi => .inl (h i hi)
  | k :: l, D, h, i, hi => by
    rcases h.2.2.all i hi with h1 | h1
    · rcases upd_true.1 h1 with h2 | rfl
      · exact .inl h2
      · exact .inr (by simp)
    · exact .inr (by simp [h1])

theorem OrdL.nodup : ∀ {l : List Nat} {D : NSet}, OrdL aos l D → l.Nodup
  | [], _, _ => List.nodup_nil
  | k :: l, D, h => List.nodup_cons.2 ⟨fun hk => by have := h.2.2.not_mem k hk; simp [upd] at this, h.2.2.nodup⟩

/-! ### Items of a plan -/

structure Flt where
  i : Nat
  o : AOper
  v : AVal
  nb : Option (Nat × AObj)
  tm : List AVal

inductive Item where
  | flt (x : Flt)
  | imm (i : Nat) (o : AOper) (st : ASt)

def Item.idx : Item → Nat
  | .flt x => x.i
  | .imm i _ _ => i

def Flt.heap (x : Flt) (H : AHeap) : AHeap :=
  match x.nb with
  | none => H
  | some (A, ob) => { next := A + 1, tr := H.tr.set ob A }

def ASt.flt (st : ASt) (x : Flt) : ASt := ({ st with H := x.heap st.H } : ASt).put x.o.dst x.v

/-- The state in which of a plan's operations that may float just some are done. -/
def part (S : NSet) : List Item → ASt → ASt
  | [], st => st
  | .flt x :: r, st => part S r (if S x.i then st.flt x else st)
  | .imm _ _ _ :: r, st => part S r st

def fltsOnly : List Item → Prop
  | [] => True
  | .flt _ :: r => fltsOnly r
  | .imm _ _ _ :: _ => False

def FltOk (x : Flt) (st : ASt) : Prop :=
  x.tm = st.tm ∧
  ((awanted x.o.guard st.tm = some false ∧ x.v = aundef ∧ x.nb = none) ∨
   (awanted x.o.guard st.tm = some true ∧ x.nb = none ∧ x.o.mode = .quiet ∧ aOp st.tm x.o.op st.H = some (x.v, st.H) ∧ (x.o.op.pure = true ∨ x.o.op.reads = true)) ∨
   (awanted x.o.guard st.tm = some true ∧ x.o.mode = .makes ∧ x.o.op.makes = true ∧ ∃ ob, (∀ l, ob ≠ .ro l) ∧ aOp st.tm x.o.op st.H = some (x.v, st.H.push ob) ∧ x.nb = some (st.H.next, ob)))

/-- What was told holds for a heap, for all that may look there. -/
def Zr (tab : Nat → Nat → Bool) (tr : List Item) (H : AHeap) : Prop :=
  ∀ x, Item.flt x ∈ tr → x.o.op.reads = true → (∀ j o s, Item.imm j o s ∈ tr → tab x.i j = false) → Yld x.o x.v x.tm H

def TrOk (P : Program) (aos : List AOper) (tab : Nat → Nat → Bool) (K : ASt → Prop) : List Item → ASt → Prop
  | [], st => K st
  | .flt x :: r, st => aos[x.i]? = some x.o ∧ FltOk x st ∧ TrOk P aos tab K r (st.flt x)
  | .imm j o st' :: r, st => aos[j]? = some o ∧ AStep P st o st' ∧ st.H.next ≤ st'.H.next ∧ Zr tab r st'.H ∧ TrOk P aos tab K r st'

def Chain (tab : Nat → Nat → Bool) : List Item → List Nat → Option Nat → Prop
  | [], _, _ => True
  | .flt x :: r, pend, last => Chain tab r (x.i :: pend) last
  | .imm j _ _ :: r, pend, last => (∀ p ∈ pend, tab j p = true) ∧ (∀ l, last = some l → tab j l = true) ∧ Chain tab r [] (some j)

def Apart (o oj : AOper) : Prop := (∀ x, o.dst = some x → x ∉ oj.looks) ∧ (∀ x, o.dst = some x → oj.dst ≠ some x) ∧ (∀ x, oj.dst = some x → x ∉ o.looks)

def AllFree (aos : List AOper) (tab : Nat → Nat → Bool) : Prop :=
  ∀ i k o ok, aos[i]? = some o → aos[k]? = some ok → i ≠ k → tab i k = true ∨ tab k i = true ∨ Apart o ok

/-! ### Names -/

def nameOf : Item → Option Nat
  | .flt x => x.nb.map (·.1)
  | .imm _ _ _ => none

def NamesOk (n : Nat) (tr : List Item) : Prop := (tr.filterMap nameOf).Pairwise (· < ·) ∧ ∀ A ∈ tr.filterMap nameOf, n ≤ A

theorem NamesOk.mono {n m : Nat} {tr : List Item} (h : NamesOk n tr) (hm : m ≤ n) : NamesOk m tr := ⟨h.1, fun A hA => Nat.le_trans hm (h.2 A hA)⟩

theorem flt_next (x : Flt) (st : ASt) : (st.flt x).H.next = match x.nb with | none => st.H.next | some (A, _) => A + 1 := by
  unfold ASt.flt; rw [put_H]; unfold Flt.heap; split <;> simp_all

theorem flt_H (x : Flt) (st : ASt) : (st.flt x).H = x.heap st.H := by unfold ASt.flt; rw [put_H]

theorem TrOk.names {tab : Nat → Nat → Bool} : ∀ {tr : List Item} {st : ASt}, TrOk P aos tab K tr st → NamesOk st.H.next tr
  | [], st, _ => ⟨by simp, by simp⟩
  | .flt x :: r, st, h => by
    have ih := h.2.2.names
    obtain ⟨_, hf, _⟩ := h
    obtain ⟨_, ⟨_, _, hn⟩ | ⟨_, hn, _⟩ | ⟨_, _, _, ob, _, _, hn⟩⟩ := hf
    · rw [flt_next, hn] at ih
      simp only [NamesOk, List.filterMap_cons, nameOf, hn, Option.map_none]; exact ih
    · rw [flt_next, hn] at ih
      simp only [NamesOk, List.filterMap_cons, nameOf, hn, Option.map_none]; exact ih
    · rw [flt_next, hn] at ih
      simp only [NamesOk, List.filterMap_cons, nameOf, hn, Option.map_some, List.pairwise_cons, List.mem_cons, forall_eq_or_imp]
      exact ⟨⟨fun A hA => ih.2 A hA, ih.1⟩, Nat.le_refl _, fun A hA => Nat.le_trans (Nat.le_succ _) (ih.2 A hA)⟩
  | .imm j o st' :: r, st, h => by
    have ih := h.2.2.2.2.names.mono h.2.2.1
    simpa only [NamesOk, List.filterMap_cons, nameOf] using ih

/-- Is A a name of one of these? -/
def nm (tr : List Item) (S : NSet) (A : Nat) : Bool := tr.any fun
  | .flt x => S x.i && (match x.nb with | some (A', _) => A' == A | none => false)
  | .imm _ _ _ => false

theorem nm_true {tr : List Item} {S : NSet} {A : Nat} : nm tr S A = true ↔ ∃ x ob, Item.flt x ∈ tr ∧ S x.i = true ∧ x.nb = some (A, ob) := by
  unfold nm
  rw [List.any_eq_true]
  constructor
  · rintro ⟨it, h1, h2⟩
    cases it with
    | flt x =>
      simp only [Bool.and_eq_true] at h2
      cases hn : x.nb with
      | none => rw [hn] at h2; simp at h2
      | some p =>
        obtain ⟨A', ob⟩ := p
        rw [hn] at h2
        have : A' = A := by simpa using h2.2
        exact ⟨x, ob, h1, h2.1, by rw [hn, this]⟩
    | imm _ _ _ => simp at h2
  · rintro ⟨x, ob, h1, h2, h3⟩
    exact ⟨_, h1, by simp [h2, h3]⟩

theorem nm_name {n : Nat} {tr : List Item} {S : NSet} {A : Nat} (hn : NamesOk n tr) (h : nm tr S A = true) : n ≤ A := by
  obtain ⟨x, ob, h1, _, h3⟩ := nm_true.1 h
  exact hn.2 A (List.mem_filterMap.2 ⟨_, h1, by simp [nameOf, h3]⟩)

/-- One name, one item. -/
theorem name_uniq {n : Nat} : ∀ {tr : List Item}, NamesOk n tr → ∀ {x y : Flt} {A : Nat} {ob ob' : AObj}, Item.flt x ∈ tr → Item.flt y ∈ tr → x.nb = some (A, ob) → y.nb = some (A, ob') → x = y
  | [], _, x, y, _, _, _, hx, _, _, _ => by cases hx
  | it :: tr, h, x, y, A, ob, ob', hx, hy, ex, ey => by
    have hlt : ∀ z : Flt, it = .flt z → ∀ z' : Flt, ∀ {o1 o2 : AObj}, Item.flt z' ∈ tr → z.nb = some (A, o1) → z'.nb = some (A, o2) → False := fun z hz z' o1 o2 hz' e1 e2 => by
      subst hz
      have h1 := h.1
      simp only [List.filterMap_cons, nameOf, e1, Option.map_some, List.pairwise_cons] at h1
      have := h1.1 A (List.mem_filterMap.2 ⟨_, hz', by simp [nameOf, e2]⟩)
      omega
    have hrec : NamesOk n tr := by
      cases it with
      | flt z =>
        cases hz : z.nb with
        | none => simpa only [NamesOk, List.filterMap_cons, nameOf, hz, Option.map_none] using h
        | some p =>
          have h1 := h.1; have h2 := h.2
          simp only [List.filterMap_cons, nameOf, hz, Option.map_some, List.pairwise_cons, List.mem_cons, forall_eq_or_imp] at h1 h2
          exact ⟨h1.2, h2.2⟩
      | imm _ _ _ => simpa only [NamesOk, List.filterMap_cons, nameOf] using h
    rcases List.mem_cons.1 hx with hx | hx <;> rcases List.mem_cons.1 hy with hy | hy
    · rw [← hx] at hy; cases hy; rfl
    · exact (hlt x hx.symm y hy ex ey).elim
    · exact (hlt y hy.symm x hx ey ex).elim
    · exact name_uniq hrec hx hy ex ey

/-! ### Parts -/

theorem part_append (S : NSet) : ∀ (a b : List Item) (st : ASt), part S (a ++ b) st = part S b (part S a st)
  | [], _, _ => rfl
  | .flt x :: a, b, st => by simp only [List.cons_append, part]; exact part_append S a b _
  | .imm _ _ _ :: a, b, st => by simp only [List.cons_append, part]; exact part_append S a b _

theorem part_congr {S T : NSet} : ∀ (tr : List Item) (st : ASt), (∀ x, Item.flt x ∈ tr → S x.i = T x.i) → part S tr st = part T tr st
  | [], _, _ => rfl
  | .flt x :: r, st, h => by simp only [part]; rw [h x (by simp)]; exact part_congr r _ fun y hy => h y (by simp [hy])
  | .imm _ _ _ :: r, st, h => by simp only [part]; exact part_congr r _ fun y hy => h y (by simp [hy])

theorem part_none {S : NSet} : ∀ (tr : List Item) (st : ASt), (∀ x, Item.flt x ∈ tr → S x.i = false) → part S tr st = st
  | [], _, _ => rfl
  | .flt x :: r, st, h => by simp only [part]; rw [h x (by simp)]; exact part_none r _ fun y hy => h y (by simp [hy])
  | .imm _ _ _ :: r, st, h => by simp only [part]; exact part_none r _ fun y hy => h y (by simp [hy])

theorem part_marks (S : NSet) : ∀ (tr : List Item) (st : ASt), (part S tr st).marks = st.marks
  | [], _ => rfl
  | .flt x :: r, st => by
    simp only [part]; rw [part_marks S r]
    split
    · unfold ASt.flt; rw [put_marks]
    · rfl
  | .imm _ _ _ :: r, st => by simp only [part]; rw [part_marks S r]

/-- A look-up in a part's heap. -/
def lk (S : NSet) : List Item → Nat → Option AObj → Option AObj
  | [], _, d => d
  | .flt x :: r, A, d => lk S r A (if S x.i then (match x.nb with | some (A', ob) => if A = A' then some ob else d | none => d) else d)
  | .imm _ _ _ :: r, A, d => lk S r A d

theorem heap_get (x : Flt) (H : AHeap) (A : Nat) : (x.heap H).get A = match x.nb with | some (A', ob) => if A = A' then some ob else H.get A | none => H.get A := by
  unfold Flt.heap
  split <;> simp_all [AHeap.get, Tr.get_set]

theorem part_get (S : NSet) : ∀ (tr : List Item) (st : ASt) (A : Nat), (part S tr st).H.get A = lk S tr A (st.H.get A)
  | [], _, _ => rfl
  | .flt x :: r, st, A => by
    simp only [part, lk]; rw [part_get S r]
    cases hS : S x.i with
    | true => simp only [if_true]; rw [flt_H, heap_get]
    | false => simp
  | .imm _ _ _ :: r, st, A => by simp only [part, lk]; exact part_get S r _ _

theorem lk_no {S : NSet} : ∀ {tr : List Item} {A : Nat} {d : Option AObj}, nm tr S A = false → lk S tr A d = d
  | [], _, _, _ => rfl
  | .flt x :: r, A, d, h => by
    simp only [nm, List.any_cons, Bool.or_eq_false_iff] at h
    simp only [lk]
    have h1 := h.1
    have : (if S x.i = true then (match x.nb with | some (A', ob) => if A = A' then some ob else d | none => d) else d) = d := by
      split
      · rename_i hS
        rw [hS] at h1
        split
        · rename_i A' ob hn
          rw [hn] at h1
          rw [if_neg]
          intro e; subst e; simp at h1
        · rfl
      · rfl
    rw [this]
    exact lk_no (tr := r) h.2
  | .imm _ _ _ :: r, A, d, h => by
    simp only [nm, List.any_cons, Bool.false_or] at h
    simp only [lk]; exact lk_no (tr := r) h

theorem lk_yes {S : NSet} : ∀ {tr : List Item} {A : Nat}, nm tr S A = true → ∀ d d', lk S tr A d = lk S tr A d'
  | [], _, h, _, _ => by simp [nm] at h
  | .flt x :: r, A, h, d, d' => by
    simp only [lk]
    by_cases hr : nm r S A = true
    · exact lk_yes hr _ _
    · have hr' : nm r S A = false := by simpa using hr
      rw [lk_no hr', lk_no hr']
      have h1 : (S x.i && (match x.nb with | some (A', _) => A' == A | none => false)) = true := by
        have : nm (.flt x :: r) S A = ((S x.i && (match x.nb with | some (A', _) => A' == A | none => false)) || nm r S A) := rfl
        rw [this, hr', Bool.or_false] at h
        exact h
      simp only [Bool.and_eq_true] at h1
      rw [if_pos h1.1, if_pos h1.1]
      cases hn : x.nb with
      | none => rw [hn] at h1; simp at h1
      | some p =>
        obtain ⟨A', ob⟩ := p
        rw [hn] at h1
        have : A' = A := by simpa using h1.2
        simp [this]
  | .imm _ _ _ :: r, A, h, d, d' => by
    simp only [nm, List.any_cons, Bool.false_or] at h
    simp only [lk]; exact lk_yes (tr := r) h d d'

/-- Where it is a name, what lies there is a float's object. -/
theorem lk_obj {S : NSet} : ∀ {tr : List Item} {A : Nat} {d : Option AObj}, nm tr S A = true → ∃ x ob, Item.flt x ∈ tr ∧ S x.i = true ∧ x.nb = some (A, ob) ∧ lk S tr A d = some ob
  | [], _, _, h => by simp [nm] at h
  | .flt x :: r, A, d, h => by
    simp only [lk]
    by_cases hr : nm r S A = true
    · obtain ⟨y, ob, h1, h2, h3, h4⟩ := lk_obj (d := if S x.i then (match x.nb with | some (A', ob) => if A = A' then some ob else d | none => d) else d) hr
      exact ⟨y, ob, by simp [h1], h2, h3, h4⟩
    · have hr' : nm r S A = false := by simpa using hr
      rw [lk_no hr']
      have h1 : (S x.i && (match x.nb with | some (A', _) => A' == A | none => false)) = true := by
        have : nm (.flt x :: r) S A = ((S x.i && (match x.nb with | some (A', _) => A' == A | none => false)) || nm r S A) := rfl
        rw [this, hr', Bool.or_false] at h
        exact h
      simp only [Bool.and_eq_true] at h1
      rw [if_pos h1.1]
      cases hn : x.nb with
      | none => rw [hn] at h1; simp at h1
      | some p =>
        obtain ⟨A', ob⟩ := p
        rw [hn] at h1
        have : A' = A := by simpa using h1.2
        exact ⟨x, ob, by simp, h1.1, by rw [hn, this], by simp [this]⟩
  | .imm _ _ _ :: r, A, d, h => by
    simp only [nm, List.any_cons, Bool.false_or] at h
    obtain ⟨y, ob, h1, h2⟩ := lk_obj (d := d) (tr := r) h
    exact ⟨y, ob, by simp [h1], h2⟩

theorem part_wf {S : NSet} : ∀ {tr : List Item} {st : ASt}, NamesOk st.H.next tr → (∀ X, st.H.next ≤ X → st.H.get X = none) → ∀ X, (part S tr st).H.next ≤ X → (part S tr st).H.get X = none
  | [], _, _, h, X, hX => h X hX
  | .flt x :: r, st, hn, h, X, hX => by
    simp only [part] at hX ⊢
    have hrec : NamesOk st.H.next r := by
      have h1 := hn.1; have h2 := hn.2
      cases hz : x.nb with
      | none => simpa only [NamesOk, List.filterMap_cons, nameOf, hz, Option.map_none] using hn
      | some p =>
        simp only [List.filterMap_cons, nameOf, hz, Option.map_some, List.pairwise_cons, List.mem_cons, forall_eq_or_imp] at h1 h2
        exact ⟨h1.2, h2.2⟩
    cases hS : S x.i with
    | false =>
      simp only [hS, Bool.false_eq_true, if_false] at hX ⊢
      exact part_wf hrec h X hX
    | true =>
      simp only [hS, if_true] at hX ⊢
      refine part_wf ?_ ?_ X hX
      · rw [flt_next]
        cases hz : x.nb with
        | none => exact hrec
        | some p =>
          obtain ⟨A, ob⟩ := p
          have h1 := hn.1
          simp only [List.filterMap_cons, nameOf, hz, Option.map_some, List.pairwise_cons] at h1
          exact ⟨hrec.1, fun B hB => h1.1 B hB⟩
      · intro Y hY
        rw [flt_next] at hY
        rw [flt_H, heap_get]
        cases hz : x.nb with
        | none => rw [hz] at hY; exact h Y hY
        | some p =>
          obtain ⟨A, ob⟩ := p
          rw [hz] at hY
          simp only at hY ⊢
          have : st.H.next ≤ A := hn.2 A (by simp [List.filterMap_cons, nameOf, hz])
          rw [if_neg (by omega)]
          exact h Y (by omega)
  | .imm _ _ _ :: r, st, hn, h, X, hX => by
    simp only [part] at hX ⊢
    exact part_wf (by simpa only [NamesOk, List.filterMap_cons, nameOf] using hn) h X hX

/-- One more: its temporary. -/
theorem part_put {S : NSet} {d : Option Nat} {v : AVal} : ∀ {tr : List Item} {st : ASt}, (∀ x, Item.flt x ∈ tr → S x.i = true → ∀ t, d = some t → x.o.dst ≠ some t) → (part S tr (st.put d v)) = (part S tr st).put d v
  | [], _, _ => rfl
  | .flt x :: r, st, h => by
    simp only [part]
    cases hS : S x.i with
    | false => simp only [Bool.false_eq_true, if_false]; exact part_put fun y hy => h y (by simp [hy])
    | true =>
      simp only [if_true]
      have : (st.put d v).flt x = (st.flt x).put d v := by
        unfold ASt.flt
        have e : ({ st.put d v with H := x.heap (st.put d v).H } : ASt) = ({ st with H := x.heap st.H } : ASt).put d v := by cases d <;> rfl
        rw [e, put_comm fun t ht => h x (by simp) hS t ht]
      rw [this]
      exact part_put fun y hy => h y (by simp [hy])
  | .imm _ _ _ :: r, st, h => by simp only [part]; exact part_put fun y hy => h y (by simp [hy])

/-- The temporaries of a part do not hang on the heap. -/
theorem part_tm {S : NSet} : ∀ {tr : List Item} {st st' : ASt}, st.tm = st'.tm → (part S tr st).tm = (part S tr st').tm
  | [], _, _, h => h
  | .flt x :: r, st, st', h => by
    simp only [part]
    refine part_tm ?_
    split
    · unfold ASt.flt
      cases x.o.dst with
      | none => exact h
      | some d => simp only [ASt.put, h]
    · exact h
  | .imm _ _ _ :: r, st, st', h => by simp only [part]; exact part_tm h

end Go.Vm
