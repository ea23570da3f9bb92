/- The package-level variables that are only read (super.widths, sum.halves), and what they hold. -/
import GoSem.Core.Value
import Derived.RangeFuncLeaves
import Derived.RangeFuncRecord
import Derived.OrdersIn
import Derived.Laws.World
import Derived.Laws.Entries
import Derived.KernelRfl
namespace Go.Vm
open Go

/-- The blocks of the variables, with what they hold. -/
def glTab : List (Nat × List Value) := [
  (0, [.int .i64 1, .int .i64 1, .int .i64 1, .int .i64 1, .int .i64 1, .int .i64 1, .int .i64 1, .int .i64 3, .int .i64 8, .int .i64 8]),
  (1, [.int .u32 0, .int .u32 498536548, .int .u32 997073096, .int .u32 651767980, .int .u32 1994146192, .int .u32 1802195444, .int .u32 1303535960, .int .u32 1342533948, .int .u32 3988292384, .int .u32 4027552580, .int .u32 3604390888, .int .u32 3412177804, .int .u32 2607071920, .int .u32 2262029012, .int .u32 2685067896, .int .u32 3183342108])]

end Go.Vm
namespace Go.Vm
open Go

set_option linter.unusedVariables false
set_option linter.unusedSimpArgs false

/-- Abstract values: addresses are names of abstract blocks; a slice bears no capacity but a lower bound of it. -/
inductive AVal where
  | raw (v : Value)
  | ptr (A ver off : Nat)
  | slice (A ver off len kcap : Nat) (exact : Bool) (esz : Nat)
  | map (M : Nat)
  | func (fn : Fn) (captured : List AVal)
  | bound (f : Nat) (first : List AVal)
  | yield (L : Nat)
  | agg (cells : List AVal)
  | tuple (vs : List AVal)
  | iface (t : TypeId) (v : AVal)
  deriving Inhabited

/-- Where an abstract block lies: the block, the shift, the block's size. -/
structure Loc where
  c : Nat
  s : Nat
  n : Nat
  deriving DecidableEq, Inhabited

abbrev Ren := Nat → Nat → Option Loc

mutual
inductive VRel (ρ : Ren) : AVal → Value → Prop
  | raw (v : Value) : VRel ρ (.raw v) v
  | ptr {A ver off : Nat} {l : Loc} (h : ρ A ver = some l) : VRel ρ (.ptr A ver off) (.pointer (some ⟨l.c, l.s + off, none⟩))
  | slice {A ver off len kcap : Nat} {ex : Bool} {esz cap : Nat} {l : Loc} (h : ρ A ver = some l) (hk : kcap ≤ cap) (hl : len ≤ kcap) (he : ex = true → cap = kcap)
      (hn : l.s + off + cap * esz ≤ l.n) : VRel ρ (.slice A ver off len kcap ex esz) (.slice (some ⟨l.c, l.s + off, none⟩) len cap)
  | sliceE {A ver off : Nat} {ex : Bool} {esz : Nat} {a : Addr} {l : Loc} (h : ρ A ver = some l) : VRel ρ (.slice A ver off 0 0 ex esz) (.slice (some a) 0 0)
  | map {M : Nat} {l : Loc} (h : ρ M 0 = some l) : VRel ρ (.map M) (.map (some l.c))
  | func {fn : Fn} {cs : List AVal} {vs : List Value} (h : VRels ρ cs vs) : VRel ρ (.func fn cs) (.func fn #[] vs.toArray)
  | bound {f : Nat} {cs : List AVal} {vs : List Value} (h : VRels ρ cs vs) : VRel ρ (.bound f cs) (.func (.func f) vs.toArray #[])
  | yield {L : Nat} {l : Loc} (h : ρ L 0 = some l) : VRel ρ (.yield L) (.func (.yield l.c) #[] #[])
  | agg {cs : List AVal} {vs : List Value} (h : VRels ρ cs vs) : VRel ρ (.agg cs) (.agg vs.toArray)
  | tuple {cs : List AVal} {vs : List Value} (h : VRels ρ cs vs) : VRel ρ (.tuple cs) (.tuple vs.toArray)
  | iface {t : TypeId} {v : AVal} {cv : Value} (h : VRel ρ v cv) : VRel ρ (.iface t v) (.iface t cv)
inductive VRels (ρ : Ren) : List AVal → List Value → Prop
  | nil : VRels ρ [] []
  | cons {v : AVal} {vs : List AVal} {c : Value} {cs : List Value} (h : VRel ρ v c) (hs : VRels ρ vs cs) : VRels ρ (v :: vs) (c :: cs)
end

def Ren.le (ρ ρ' : Ren) : Prop := ∀ A v x, ρ A v = some x → ρ' A v = some x
theorem Ren.le_refl (ρ : Ren) : ρ.le ρ := fun _ _ _ h => h
theorem Ren.le_trans {ρ ρ' ρ'' : Ren} (h : ρ.le ρ') (h' : ρ'.le ρ'') : ρ.le ρ'' := fun A v x hx => h' A v x (h A v x hx)

mutual
theorem VRel.mono {ρ ρ' : Ren} (hle : ρ.le ρ') : ∀ {v : AVal} {c : Value}, VRel ρ v c → VRel ρ' v c
  | _, _, .raw v => .raw v
  | _, _, .ptr h => .ptr (hle _ _ _ h)
  | _, _, .slice h hk hl he hn => .slice (hle _ _ _ h) hk hl he hn
  | _, _, .sliceE h => .sliceE (hle _ _ _ h)
  | _, _, .map h => .map (hle _ _ _ h)
  | _, _, .func h => .func (h.mono hle)
  | _, _, .bound h => .bound (h.mono hle)
  | _, _, .yield h => .yield (hle _ _ _ h)
  | _, _, .agg h => .agg (h.mono hle)
  | _, _, .tuple h => .tuple (h.mono hle)
  | _, _, .iface h => .iface (h.mono hle)
theorem VRels.mono {ρ ρ' : Ren} (hle : ρ.le ρ') : ∀ {v : List AVal} {c : List Value}, VRels ρ v c → VRels ρ' v c
  | _, _, .nil => .nil
  | _, _, .cons h hs => .cons (h.mono hle) (hs.mono hle)
end

theorem VRels.length {ρ : Ren} : ∀ {vs : List AVal} {cs : List Value}, VRels ρ vs cs → cs.length = vs.length
  | _, _, .nil => rfl
  | _, _, .cons _ hs => by simp [hs.length]

theorem VRels.get {ρ : Ren} : ∀ {vs : List AVal} {cs : List Value}, VRels ρ vs cs → ∀ (i : Nat) (v : AVal), vs[i]? = some v → ∃ c, cs[i]? = some c ∧ VRel ρ v c
  | _, _, .nil, i, v, h => by simp at h
  | _, _, .cons h hs, 0, v, e => by simp at e; subst e; exact ⟨_, by simp, h⟩
  | _, _, .cons h hs, i + 1, v, e => by simp at e; simpa using hs.get i v e

theorem VRels.of_get {ρ : Ren} : ∀ {vs : List AVal} {cs : List Value}, cs.length = vs.length → (∀ (i : Nat) (v : AVal), vs[i]? = some v → ∃ c, cs[i]? = some c ∧ VRel ρ v c) → VRels ρ vs cs
  | [], [], _, _ => .nil
  | [], _ :: _, h, _ => by simp at h
  | _ :: _, [], h, _ => by simp at h
  | v :: vs, c :: cs, h, hg => by
    obtain ⟨c', h1, h2⟩ := hg 0 v (by simp)
    simp at h1; subst h1
    exact .cons h2 (VRels.of_get (by simpa using h) fun i u hu => by simpa using hg (i + 1) u (by simpa using hu))

theorem VRels.append {ρ : Ren} : ∀ {vs : List AVal} {cs : List Value} {us : List AVal} {ds : List Value}, VRels ρ vs cs → VRels ρ us ds → VRels ρ (vs ++ us) (cs ++ ds)
  | _, _, _, _, .nil, h => h
  | _, _, _, _, .cons h hs, h' => .cons h (hs.append h')

theorem VRels.take {ρ : Ren} : ∀ {vs : List AVal} {cs : List Value} (n : Nat), VRels ρ vs cs → VRels ρ (vs.take n) (cs.take n)
  | _, _, 0, _ => by simp; exact .nil
  | _, _, _ + 1, .nil => by simp; exact .nil
  | _, _, n + 1, .cons h hs => by simp; exact .cons h (hs.take n)

theorem VRels.drop {ρ : Ren} : ∀ {vs : List AVal} {cs : List Value} (n : Nat), VRels ρ vs cs → VRels ρ (vs.drop n) (cs.drop n)
  | _, _, 0, h => by simpa using h
  | _, _, _ + 1, .nil => by simp; exact .nil
  | _, _, n + 1, .cons h hs => by simpa using hs.drop n

theorem VRels.set {ρ : Ren} {v : AVal} {c : Value} (hv : VRel ρ v c) : ∀ {vs : List AVal} {cs : List Value} (i : Nat), VRels ρ vs cs → VRels ρ (vs.set i v) (cs.set i c)
  | _, _, _, .nil => by simp; exact .nil
  | _, _, 0, .cons h hs => by simp; exact .cons hv hs
  | _, _, i + 1, .cons h hs => by simp; exact .cons h (hs.set hv i)

theorem VRels.replicate_raw {ρ : Ren} (v : Value) : ∀ n, VRels ρ (List.replicate n (.raw v)) (List.replicate n v)
  | 0 => .nil
  | n + 1 => .cons (.raw v) (VRels.replicate_raw v n)

theorem VRels.map_raw {ρ : Ren} : ∀ (cs : List Value), VRels ρ (cs.map .raw) cs
  | [] => .nil
  | c :: cs => .cons (.raw c) (VRels.map_raw cs)

/-- The cells of a value. -/
def AVal.cells : AVal → List AVal
  | .agg cs => cs
  | .raw (.agg cs) => cs.toList.map .raw
  | v => [v]

theorem VRel.cells {ρ : Ren} {v : AVal} {c : Value} (h : VRel ρ v c) : VRels ρ v.cells c.cells.toList := by
  cases h with
  | raw =>
    cases c <;> first | exact .cons (.raw _) .nil | exact VRels.map_raw _
  | agg h => simpa [AVal.cells, Value.cells] using h
  | ptr h => exact .cons (.ptr h) .nil
  | slice h a b c d => exact .cons (.slice h a b c d) .nil
  | sliceE h => exact .cons (.sliceE h) .nil
  | map h => exact .cons (.map h) .nil
  | func h => exact .cons (.func h) .nil
  | bound h => exact .cons (.bound h) .nil
  | yield h => exact .cons (.yield h) .nil
  | tuple h => exact .cons (.tuple h) .nil
  | iface h => exact .cons (.iface h) .nil

theorem VRel.raw_inv {ρ : Ren} {v c : Value} (h : VRel ρ (.raw v) c) : c = v := by cases h; rfl
theorem VRel.ptr_inv {ρ : Ren} {A ver off : Nat} {c : Value} (h : VRel ρ (.ptr A ver off) c) : ∃ l, ρ A ver = some l ∧ c = .pointer (some ⟨l.c, l.s + off, none⟩) := by cases h; exact ⟨_, ‹_›, rfl⟩
theorem VRel.agg_inv {ρ : Ren} {cs : List AVal} {c : Value} (h : VRel ρ (.agg cs) c) : ∃ vs, VRels ρ cs vs ∧ c = .agg vs.toArray := by cases h; exact ⟨_, ‹_›, rfl⟩
theorem VRel.tuple_inv {ρ : Ren} {cs : List AVal} {c : Value} (h : VRel ρ (.tuple cs) c) : ∃ vs, VRels ρ cs vs ∧ c = .tuple vs.toArray := by cases h; exact ⟨_, ‹_›, rfl⟩
theorem VRel.map_inv {ρ : Ren} {M : Nat} {c : Value} (h : VRel ρ (.map M) c) : ∃ l, ρ M 0 = some l ∧ c = .map (some l.c) := by cases h; exact ⟨_, ‹_›, rfl⟩
theorem VRel.func_inv {ρ : Ren} {fn : Fn} {cs : List AVal} {c : Value} (h : VRel ρ (.func fn cs) c) : ∃ vs, VRels ρ cs vs ∧ c = .func fn #[] vs.toArray := by cases h; exact ⟨_, ‹_›, rfl⟩
theorem VRel.bound_inv {ρ : Ren} {f : Nat} {cs : List AVal} {c : Value} (h : VRel ρ (.bound f cs) c) : ∃ vs, VRels ρ cs vs ∧ c = .func (.func f) vs.toArray #[] := by cases h; exact ⟨_, ‹_›, rfl⟩
theorem VRel.yield_inv {ρ : Ren} {L : Nat} {c : Value} (h : VRel ρ (.yield L) c) : ∃ l, ρ L 0 = some l ∧ c = .func (.yield l.c) #[] #[] := by cases h; exact ⟨_, ‹_›, rfl⟩
theorem VRel.iface_inv {ρ : Ren} {t : TypeId} {v : AVal} {c : Value} (h : VRel ρ (.iface t v) c) : ∃ cv, VRel ρ v cv ∧ c = .iface t cv := by cases h; exact ⟨_, ‹_›, rfl⟩
theorem VRel.slice_inv {ρ : Ren} {A ver off len kcap : Nat} {ex : Bool} {esz : Nat} {c : Value} (h : VRel ρ (.slice A ver off len kcap ex esz) c) :
    ∃ l a cap, ρ A ver = some l ∧ c = .slice (some a) len cap ∧ kcap ≤ cap ∧ len ≤ kcap ∧ (ex = true → cap = kcap) ∧ ((a = ⟨l.c, l.s + off, none⟩ ∧ l.s + off + cap * esz ≤ l.n) ∨ (len = 0 ∧ kcap = 0 ∧ cap = 0)) := by
  cases h with
  | slice h a b c d => exact ⟨_, _, _, h, rfl, a, b, c, .inl ⟨rfl, d⟩⟩
  | sliceE h => exact ⟨_, _, _, h, rfl, Nat.le_refl _, Nat.le_refl _, fun _ => rfl, .inr ⟨rfl, rfl, rfl⟩⟩

theorem add_none (c s n : Nat) : (⟨c, s, none⟩ : Addr).add n = ⟨c, s + n, none⟩ := by unfold Addr.add; split <;> simp_all

/-- Fit for one cell. -/
def AVal.one : AVal → Bool
  | .agg _ | .tuple _ => false
  | .raw v => v.oneCell'
  | _ => true

theorem VRel.one {ρ : Ren} {v : AVal} {c : Value} (h : VRel ρ v c) : c.oneCell' = v.one := by
  cases h <;> rfl

theorem VRels.all_one {ρ : Ren} : ∀ {vs : List AVal} {cs : List Value}, VRels ρ vs cs → vs.all AVal.one = true → ∀ c ∈ cs, c.oneCell' = true
  | _, _, .nil, _, c, hc => by cases hc
  | _, _, .cons h hs, ha, c, hc => by
    simp only [List.all_cons, Bool.and_eq_true] at ha
    rcases List.mem_cons.1 hc with rfl | hc
    · rw [h.one]; exact ha.1
    · exact hs.all_one ha.2 c hc

/-! ### Heaps -/

/-- A tree over the numbers. -/
inductive Tr (α : Type) where
  | leaf
  | node (v : Option α) (l r : Tr α)
  deriving Inhabited

def Tr.get {α : Type} : Tr α → Nat → Option α
  | .leaf, _ => none
  | .node v l r, k => if k = 0 then v else if k % 2 = 1 then l.get (k / 2) else r.get (k / 2 - 1)

def Tr.sing {α : Type} (v : α) : Nat → Nat → Tr α
  | 0, _ => .leaf
  | n + 1, k => if k = 0 then .node (some v) .leaf .leaf else if k % 2 = 1 then .node none (Tr.sing v n (k / 2)) .leaf else .node none .leaf (Tr.sing v n (k / 2 - 1))

def Tr.set {α : Type} (u : α) : Tr α → Nat → Tr α
  | .leaf, k => Tr.sing u (k + 1) k
  | .node v l r, k => if k = 0 then .node (some u) l r else if k % 2 = 1 then .node v (l.set u (k / 2)) r else .node v l (r.set u (k / 2 - 1))

theorem Tr.get_leaf {α : Type} (k : Nat) : (Tr.leaf : Tr α).get k = none := rfl

theorem Tr.get_sing {α : Type} (v : α) : ∀ (n k j : Nat), k < n → (Tr.sing v n k).get j = if j = k then some v else none
  | 0, k, j, h => by omega
  | n + 1, k, j, h => by
    unfold Tr.sing
    by_cases hk : k = 0
    · simp only [hk, if_true, Tr.get]
      by_cases hj : j = 0
      · simp [hj]
      · simp [hj, Tr.get]
    · simp only [hk, if_false]
      by_cases h2 : k % 2 = 1
      · simp only [h2, if_true, Tr.get]
        by_cases hj : j = 0
        · simp [hj]; omega
        · simp only [hj, if_false]
          by_cases hj2 : j % 2 = 1
          · simp only [hj2, if_true]
            rw [Tr.get_sing v n (k / 2) (j / 2) (by omega)]
            by_cases e : j = k
            · simp [e]
            · rw [if_neg (by omega), if_neg e]
          · simp only [hj2, if_false]
            rw [if_neg (by omega)]
      · simp only [h2, if_false, Tr.get]
        by_cases hj : j = 0
        · simp [hj]; omega
        · simp only [hj, if_false]
          by_cases hj2 : j % 2 = 1
          · simp only [hj2, if_true]
            rw [if_neg (by omega)]
          · simp only [hj2, if_false]
            rw [Tr.get_sing v n (k / 2 - 1) (j / 2 - 1) (by omega)]
            by_cases e : j = k
            · simp [e]
            · rw [if_neg (by omega), if_neg e]

theorem Tr.get_set {α : Type} (u : α) : ∀ (t : Tr α) (k j : Nat), (t.set u k).get j = if j = k then some u else t.get j
  | .leaf, k, j => by
    unfold Tr.set
    rw [Tr.get_sing u (k + 1) k j (by omega), Tr.get_leaf]
  | .node v l r, k, j => by
    unfold Tr.set
    by_cases hk : k = 0
    · simp only [hk, if_true, Tr.get]
      by_cases hj : j = 0 <;> simp [hj]
    · simp only [hk, if_false]
      by_cases h2 : k % 2 = 1
      · simp only [h2, if_true, Tr.get]
        by_cases hj : j = 0
        · simp only [hj, if_true]; rw [if_neg (by omega)]
        · simp only [hj, if_false]
          by_cases hj2 : j % 2 = 1
          · simp only [hj2, if_true]
            rw [Tr.get_set u l (k / 2) (j / 2)]
            by_cases e : j = k
            · simp [e]
            · rw [if_neg (by omega), if_neg e]
          · simp only [hj2, if_false]
            rw [if_neg (by omega)]
      · simp only [h2, if_false, Tr.get]
        by_cases hj : j = 0
        · simp only [hj, if_true]; rw [if_neg (by omega)]
        · simp only [hj, if_false]
          by_cases hj2 : j % 2 = 1
          · simp only [hj2, if_true]
            rw [if_neg (by omega)]
          · simp only [hj2, if_false]
            rw [Tr.get_set u r (k / 2 - 1) (j / 2 - 1)]
            by_cases e : j = k
            · simp [e]
            · rw [if_neg (by omega), if_neg e]

end Go.Vm
