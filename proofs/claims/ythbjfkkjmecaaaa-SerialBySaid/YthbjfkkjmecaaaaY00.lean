/- The abstract machine, part 1: abstract values, abstract heaps, their relation to the model's worlds. -/
import Derived.RangeFuncLeaves
import Derived.RangeFuncRecord
import Derived.OrdersIn
import Derived.Laws.World
import Derived.Laws.Entries
import Derived.KernelRfl
set_option linter.unusedVariables false
set_option linter.unusedSimpArgs false
namespace Go.Vm
open Go
section
inductive AVal where
 | raw (v : Value)
 | ptr (A ver off : Nat)
 | slice (A ver off len kcap : Nat) (exact : Bool) (esz : Nat)
 | map (M : Nat)
 | func (fn : Fn) (captured : List AVal)
 | yield (L : Nat)
 | agg (cells : List AVal)
 | tuple (vs : List AVal)
 | iface (t : TypeId) (v : AVal)
 deriving Inhabited
structure Loc where
 c : Nat
 s : Nat
 n : Nat
 deriving DecidableEq, Inhabited
abbrev Ren := Nat → Nat → Option Loc
mutual
inductive VRel (ρ : Ren) : AVal → Value → Prop
 | raw (v : Value) : VRel ρ (.raw v) v
 | ptr {A ver off : Nat} {l : Loc} (h : ρ A ver = some l) : VRel ρ (.ptr A ver off) (.pointer (some ⟨l.c, l.s + off, none⟩))
 | slice {A ver off len kcap : Nat} {ex : Bool} {esz cap : Nat} {l : Loc} (h : ρ A ver = some l) (hk : kcap ≤ cap) (hl : len ≤ kcap) (he : ex = true → cap = kcap)
   (hn : l.s + off + cap * esz ≤ l.n) : VRel ρ (.slice A ver off len kcap ex esz) (.slice (some ⟨l.c, l.s + off, none⟩) len cap)
 | sliceE {A ver off : Nat} {ex : Bool} {esz : Nat} {a : Addr} {l : Loc} (h : ρ A ver = some l) : VRel ρ (.slice A ver off 0 0 ex esz) (.slice (some a) 0 0)
 | map {M : Nat} {l : Loc} (h : ρ M 0 = some l) : VRel ρ (.map M) (.map (some l.c))
 | func {fn : Fn} {cs : List AVal} {vs : List Value} (h : VRels ρ cs vs) : VRel ρ (.func fn cs) (.func fn #[] vs.toArray)
 | yield {L : Nat} {l : Loc} (h : ρ L 0 = some l) : VRel ρ (.yield L) (.func (.yield l.c) #[] #[])
 | agg {cs : List AVal} {vs : List Value} (h : VRels ρ cs vs) : VRel ρ (.agg cs) (.agg vs.toArray)
 | tuple {cs : List AVal} {vs : List Value} (h : VRels ρ cs vs) : VRel ρ (.tuple cs) (.tuple vs.toArray)
 | iface {t : TypeId} {v : AVal} {cv : Value} (h : VRel ρ v cv) : VRel ρ (.iface t v) (.iface t cv)
inductive VRels (ρ : Ren) : List AVal → List Value → Prop
 | nil : VRels ρ [] []
 | cons {v : AVal} {vs : List AVal} {c : Value} {cs : List Value} (h : VRel ρ v c) (hs : VRels ρ vs cs) : VRels ρ (v :: vs) (c :: cs)
end
def Ren.le (ρ ρ' : Ren) : Prop := ∀ A v x, ρ A v = some x → ρ' A v = some x
theorem Ren.le_refl (ρ : Ren) : ρ.le ρ := fun _ _ _ h => h
theorem Ren.le_trans {ρ ρ' ρ'' : Ren} (h : ρ.le ρ') (h' : ρ'.le ρ'') : ρ.le ρ'' := fun A v x hx => h' A v x (h A v x hx)
mutual
theorem VRel.mono {ρ ρ' : Ren} (hle : ρ.le ρ') : ∀ {v : AVal} {c : Value}, VRel ρ v c → VRel ρ' v c
 | _, _, .raw v => .raw v
 | _, _, .ptr h => .ptr (hle _ _ _ h)
 | _, _, .slice h hk hl he hn => .slice (hle _ _ _ h) hk hl he hn
 | _, _, .sliceE h => .sliceE (hle _ _ _ h)
 | _, _, .map h => .map (hle _ _ _ h)
 | _, _, .func h => .func (h.mono hle)
 | _, _, .yield h => .yield (hle _ _ _ h)
 | _, _, .agg h => .agg (h.mono hle)
 | _, _, .tuple h => .tuple (h.mono hle)
 | _, _, .iface h => .iface (h.mono hle)
theorem VRels.mono {ρ ρ' : Ren} (hle : ρ.le ρ') : ∀ {v : List AVal} {c : List Value}, VRels ρ v c → VRels ρ' v c
 | _, _, .nil => .nil
 | _, _, .cons h hs => .cons (h.mono hle) (hs.mono hle)
end
theorem VRels.length {ρ : Ren} : ∀ {vs : List AVal} {cs : List Value}, VRels ρ vs cs → cs.length = vs.length
 | _, _, .nil => rfl
 | _, _, .cons _ hs => by simp [hs.length]
theorem VRels.get {ρ : Ren} : ∀ {vs : List AVal} {cs : List Value}, VRels ρ vs cs → ∀ (i : Nat) (v : AVal), vs[i]? = some v → ∃ c, cs[i]? = some c ∧ VRel ρ v c
 | _, _, .nil, i, v, h => by simp at h
 | _, _, .cons h hs, 0, v, e => by simp at e; subst e; exact ⟨_, by simp, h⟩
 | _, _, .cons h hs, i + 1, v, e => by simp at e; simpa using hs.get i v e
theorem VRels.of_get {ρ : Ren} : ∀ {vs : List AVal} {cs : List Value}, cs.length = vs.length → (∀ (i : Nat) (v : AVal), vs[i]? = some v → ∃ c, cs[i]? = some c ∧ VRel ρ v c) → VRels ρ vs cs
 | [], [], _, _ => .nil
 | [], _ :: _, h, _ => by simp at h
 | _ :: _, [], h, _ => by simp at h
 | v :: vs, c :: cs, h, hg => by
  obtain ⟨c', h1, h2⟩ := hg 0 v (by simp)
  simp at h1; subst h1
  exact .cons h2 (VRels.of_get (by simpa using h) fun i u hu => by simpa using hg (i + 1) u (by simpa using hu))
theorem VRels.append {ρ : Ren} : ∀ {vs : List AVal} {cs : List Value} {us : List AVal} {ds : List Value}, VRels ρ vs cs → VRels ρ us ds → VRels ρ (vs ++ us) (cs ++ ds)
 | _, _, _, _, .nil, h => h
 | _, _, _, _, .cons h hs, h' => .cons h (hs.append h')
theorem VRels.take {ρ : Ren} : ∀ {vs : List AVal} {cs : List Value} (n : Nat), VRels ρ vs cs → VRels ρ (vs.take n) (cs.take n)
 | _, _, 0, _ => by simp; exact .nil
 | _, _, _ + 1, .nil => by simp; exact .nil
 | _, _, n + 1, .cons h hs => by simp; exact .cons h (hs.take n)
theorem VRels.drop {ρ : Ren} : ∀ {vs : List AVal} {cs : List Value} (n : Nat), VRels ρ vs cs → VRels ρ (vs.drop n) (cs.drop n)
 | _, _, 0, h => by simpa using h
 | _, _, _ + 1, .nil => by simp; exact .nil
 | _, _, n + 1, .cons h hs => by simpa using hs.drop n
theorem VRels.set {ρ : Ren} {v : AVal} {c : Value} (hv : VRel ρ v c) : ∀ {vs : List AVal} {cs : List Value} (i : Nat), VRels ρ vs cs → VRels ρ (vs.set i v) (cs.set i c)
 | _, _, _, .nil => by simp; exact .nil
 | _, _, 0, .cons h hs => by simp; exact .cons hv hs
 | _, _, i + 1, .cons h hs => by simp; exact .cons h (hs.set hv i)
theorem VRels.replicate_raw {ρ : Ren} (v : Value) : ∀ n, VRels ρ (List.replicate n (.raw v)) (List.replicate n v)
 | 0 => .nil
 | n + 1 => .cons (.raw v) (VRels.replicate_raw v n)
theorem VRels.map_raw {ρ : Ren} : ∀ (cs : List Value), VRels ρ (cs.map .raw) cs
 | [] => .nil
 | c :: cs => .cons (.raw c) (VRels.map_raw cs)
def AVal.cells : AVal → List AVal
 | .agg cs => cs
 | .raw (.agg cs) => cs.toList.map .raw
 | v => [v]
theorem VRel.cells {ρ : Ren} {v : AVal} {c : Value} (h : VRel ρ v c) : VRels ρ v.cells c.cells.toList := by
 cases h with
 | raw =>
  cases c <;> first | exact .cons (.raw _) .nil | exact VRels.map_raw _
 | agg h => simpa [AVal.cells, Value.cells] using h
 | ptr h => exact .cons (.ptr h) .nil
 | slice h a b c d => exact .cons (.slice h a b c d) .nil
 | sliceE h => exact .cons (.sliceE h) .nil
 | map h => exact .cons (.map h) .nil
 | func h => exact .cons (.func h) .nil
 | yield h => exact .cons (.yield h) .nil
 | tuple h => exact .cons (.tuple h) .nil
 | iface h => exact .cons (.iface h) .nil
theorem VRel.raw_inv {ρ : Ren} {v c : Value} (h : VRel ρ (.raw v) c) : c = v := by cases h; rfl
theorem VRel.ptr_inv {ρ : Ren} {A ver off : Nat} {c : Value} (h : VRel ρ (.ptr A ver off) c) : ∃ l, ρ A ver = some l ∧ c = .pointer (some ⟨l.c, l.s + off, none⟩) := by cases h; exact ⟨_, ‹_›, rfl⟩
theorem VRel.agg_inv {ρ : Ren} {cs : List AVal} {c : Value} (h : VRel ρ (.agg cs) c) : ∃ vs, VRels ρ cs vs ∧ c = .agg vs.toArray := by cases h; exact ⟨_, ‹_›, rfl⟩
theorem VRel.tuple_inv {ρ : Ren} {cs : List AVal} {c : Value} (h : VRel ρ (.tuple cs) c) : ∃ vs, VRels ρ cs vs ∧ c = .tuple vs.toArray := by cases h; exact ⟨_, ‹_›, rfl⟩
theorem VRel.map_inv {ρ : Ren} {M : Nat} {c : Value} (h : VRel ρ (.map M) c) : ∃ l, ρ M 0 = some l ∧ c = .map (some l.c) := by cases h; exact ⟨_, ‹_›, rfl⟩
theorem VRel.func_inv {ρ : Ren} {fn : Fn} {cs : List AVal} {c : Value} (h : VRel ρ (.func fn cs) c) : ∃ vs, VRels ρ cs vs ∧ c = .func fn #[] vs.toArray := by cases h; exact ⟨_, ‹_›, rfl⟩
theorem VRel.yield_inv {ρ : Ren} {L : Nat} {c : Value} (h : VRel ρ (.yield L) c) : ∃ l, ρ L 0 = some l ∧ c = .func (.yield l.c) #[] #[] := by cases h; exact ⟨_, ‹_›, rfl⟩
theorem VRel.slice_inv {ρ : Ren} {A ver off len kcap : Nat} {ex : Bool} {esz : Nat} {c : Value} (h : VRel ρ (.slice A ver off len kcap ex esz) c) :
  ∃ l a cap, ρ A ver = some l ∧ c = .slice (some a) len cap ∧ kcap ≤ cap ∧ len ≤ kcap ∧ (ex = true → cap = kcap) ∧ ((a = ⟨l.c, l.s + off, none⟩ ∧ l.s + off + cap * esz ≤ l.n) ∨ (len = 0 ∧ kcap = 0 ∧ cap = 0)) := by
 cases h with
 | slice h a b c d => exact ⟨_, _, _, h, rfl, a, b, c, .inl ⟨rfl, d⟩⟩
 | sliceE h => exact ⟨_, _, _, h, rfl, Nat.le_refl _, Nat.le_refl _, fun _ => rfl, .inr ⟨rfl, rfl, rfl⟩⟩
theorem zvk (c s n : Nat) : (⟨c, s, none⟩ : Addr).add n = ⟨c, s + n, none⟩ := by unfold Addr.add; split <;> simp_all
def AVal.one : AVal → Bool
 | .agg _ | .tuple _ => false
 | .raw v => v.oneCell'
 | _ => true
theorem VRel.one {ρ : Ren} {v : AVal} {c : Value} (h : VRel ρ v c) : c.oneCell' = v.one := by
 cases h <;> rfl
theorem VRels.all_one {ρ : Ren} : ∀ {vs : List AVal} {cs : List Value}, VRels ρ vs cs → vs.all AVal.one = true → ∀ c ∈ cs, c.oneCell' = true
 | _, _, .nil, _, c, hc => by cases hc
 | _, _, .cons h hs, ha, c, hc => by
  simp only [List.all_cons, Bool.and_eq_true] at ha
  rcases List.mem_cons.1 hc with rfl | hc
  ·rw [h.one]; exact ha.1
  ·exact hs.all_one ha.2 c hc
inductive Tr (α : Type) where
 | leaf
 | node (v : Option α) (l r : Tr α)
 deriving Inhabited
def Tr.get {α : Type} : Tr α → Nat → Option α
 | .leaf, _ => none
 | .node v l r, k => if k = 0 then v else if k % 2 = 1 then l.get (k / 2) else r.get (k / 2 - 1)
def Tr.sing {α : Type} (v : α) : Nat → Nat → Tr α
 | 0, _ => .leaf
 | n + 1, k => if k = 0 then .node (some v) .leaf .leaf else if k % 2 = 1 then .node none (Tr.sing v n (k / 2)) .leaf else .node none .leaf (Tr.sing v n (k / 2 - 1))
def Tr.set {α : Type} (u : α) : Tr α → Nat → Tr α
 | .leaf, k => Tr.sing u (k + 1) k
 | .node v l r, k => if k = 0 then .node (some u) l r else if k % 2 = 1 then .node v (l.set u (k / 2)) r else .node v l (r.set u (k / 2 - 1))
theorem Tr.get_leaf {α : Type} (k : Nat) : (Tr.leaf : Tr α).get k = none := rfl
theorem Tr.get_sing {α : Type} (v : α) : ∀ (n k j : Nat), k < n → (Tr.sing v n k).get j = if j = k then some v else none
 | 0, k, j, h => by omega
 | n + 1, k, j, h => by
  unfold Tr.sing
  by_cases hk : k = 0
  ·simp only [hk, if_true, Tr.get]
   by_cases hj : j = 0
   ·simp [hj]
   ·simp [hj, Tr.get]
  ·simp only [hk, if_false]
   by_cases h2 : k % 2 = 1
   ·simp only [h2, if_true, Tr.get]
    by_cases hj : j = 0
    ·simp [hj]; omega
    ·simp only [hj, if_false]
     by_cases hj2 : j % 2 = 1
     ·simp only [hj2, if_true]
      rw [Tr.get_sing v n (k / 2) (j / 2) (by omega)]
      by_cases e : j = k
      ·simp [e]
      ·rw [if_neg (by omega), if_neg e]
     ·simp only [hj2, if_false]
      rw [if_neg (by omega)]
   ·simp only [h2, if_false, Tr.get]
    by_cases hj : j = 0
    ·simp [hj]; omega
    ·simp only [hj, if_false]
     by_cases hj2 : j % 2 = 1
     ·simp only [hj2, if_true]
      rw [if_neg (by omega)]
     ·simp only [hj2, if_false]
      rw [Tr.get_sing v n (k / 2 - 1) (j / 2 - 1) (by omega)]
      by_cases e : j = k
      ·simp [e]
      ·rw [if_neg (by omega), if_neg e]
theorem Tr.get_set {α : Type} (u : α) : ∀ (t : Tr α) (k j : Nat), (t.set u k).get j = if j = k then some u else t.get j
 | .leaf, k, j => by
  unfold Tr.set
  rw [Tr.get_sing u (k + 1) k j (by omega), Tr.get_leaf]
 | .node v l r, k, j => by
  unfold Tr.set
  by_cases hk : k = 0
  ·simp only [hk, if_true, Tr.get]
   by_cases hj : j = 0 <;> simp [hj]
  ·simp only [hk, if_false]
   by_cases h2 : k % 2 = 1
   ·simp only [h2, if_true, Tr.get]
    by_cases hj : j = 0
    ·simp only [hj, if_true]; rw [if_neg (by omega)]
    ·simp only [hj, if_false]
     by_cases hj2 : j % 2 = 1
     ·simp only [hj2, if_true]
      rw [Tr.get_set u l (k / 2) (j / 2)]
      by_cases e : j = k
      ·simp [e]
      ·rw [if_neg (by omega), if_neg e]
     ·simp only [hj2, if_false]
      rw [if_neg (by omega)]
   ·simp only [h2, if_false, Tr.get]
    by_cases hj : j = 0
    ·simp only [hj, if_true]; rw [if_neg (by omega)]
    ·simp only [hj, if_false]
     by_cases hj2 : j % 2 = 1
     ·simp only [hj2, if_true]
      rw [if_neg (by omega)]
     ·simp only [hj2, if_false]
      rw [Tr.get_set u r (k / 2 - 1) (j / 2 - 1)]
      by_cases e : j = k
      ·simp [e]
      ·rw [if_neg (by omega), if_neg e]
end
section
inductive AOpd where
 | t (n : Nat)
 | c (v : AVal)
 deriving Inhabited
inductive zv6 where
 | bool | int | str | nilS | nilM | nilF | nilP
 | fin
 | fld (off : Nat) (agg : Bool) (n : Nat) (p rest : zv6)
 | arr (len esz : Nat) (agg : Bool) (p : zv6)
 deriving Inhabited
inductive AOp where
 | move (x : AOpd)
 | pick (c a b : AOpd)
 | alloc (zero : List AVal)
 | box (x : AOpd)
 | build (zero : List AVal) (parts : List (Nat × Nat × AOpd))
 | buildSlice (len esz : Nat) (zero : List AVal) (parts : List (Nat × Nat × AOpd))
 | load (agg : Bool) (n : Nat) (x : AOpd)
 | store (n : Nat) (addr val : AOpd)
 | nilCheck (x : AOpd)
 | bin (op : BinOp) (x y : AOpd)
 | eqP (neg : Bool) (p : zv6) (x y : AOpd)
 | un (op : UnOp) (x : AOpd)
 | conv (k : IntKind) (x : AOpd)
 | strOfBytes (x : AOpd)
 | strId (x : AOpd)
 | ptrAdd (off : Nat) (x : AOpd)
 | field (agg : Bool) (off n : Nat) (x : AOpd)
 | idxAddrA (len esz : Nat) (x i : AOpd)
 | idxAddrS (esz : Nat) (x i : AOpd)
 | idxA (len esz : Nat) (agg : Bool) (x i : AOpd)
 | idxStr (x i : AOpd)
 | sliceA (len esz : Nat) (x : AOpd) (lo hi mx : Option AOpd)
 | sliceS (esz : Nat) (x : AOpd) (lo hi mx : Option AOpd)
 | sliceStr (x : AOpd) (lo hi : Option AOpd)
 | makeSlice (esz bytes : Nat) (zero : List AVal) (l c : AOpd)
 | makeMap
 | lookup (zero : AVal) (ok : Bool) (x k : AOpd)
 | mapUpdate (m k v : AOpd)
 | mapEntry (zero : AVal) (m k : AOpd)
 | entryStore (m s v : AOpd)
 | mapDelete (m k : AOpd)
 | makeFunc (fn : Fn) (caps : List AOpd)
 | makeIface (t : TypeId) (x : AOpd)
 | call (f : AOpd) (args : List AOpd)
 | append (esz bytes : Nat) (s x : AOpd)
 | copy (esz : Nat) (d s : AOpd)
 | len (kind : Nat) (x : AOpd)
 | lenC (n : Nat) (x : AOpd)
 | minmax (isMax : Bool) (xs : List AOpd)
 | extract (i : Nat) (x : AOpd)
 | bad
 | iterNew (x : AOpd)
 | iterNext (x : AOpd)
 | iterEntry (x : AOpd)
 | clearM (x : AOpd)
 | clearS (zero : List AVal) (x : AOpd)
 | cap (x : AOpd)
 | appendZ (esz bytes : Nat) (zero : List AVal) (s n : AOpd)
 deriving Inhabited
inductive Mode where
 | quiet | makes | any
 deriving DecidableEq, Inhabited
def zwv : Op → Mode
 | .alloc _ | .box _ _ | .buildSlice _ _ _ | .makeSlice _ _ _ | .makeMap _ _ => .makes
 | .store _ _ _ | .mapUpdate _ _ _ _ | .insert _ _ _ _ | .mapEntry _ _ _ | .entryStore _ _ _ _ => .any
 | .call c => match c.callee with
  | .builtin b => match b with
   | .len | .min | .max => .quiet
   | _ => .any
  | _ => .any
 | .move _ | .assign _ | .pick _ _ _ | .build _ _ | .load _ _ | .nilCheck _ | .binOp _ _ _ _ _ | .unOp _ _ _ | .convert _ _ _ | .makeFunc _ _ _ | .makeInterface _ _ | .fieldAddr _ _ _ | .field _ _ _ | .indexAddr _ _ _ | .index _ _ _
 | .slice _ _ _ _ _ | .lookup _ _ _ _ | .extract _ _ => .quiet
 | _ => .any
structure zzu where
 dst : Option Nat
 op : AOp
 guard : Option (Nat × Bool)
 after : List Nat
 uses : List Nat
 mode : Mode
 deriving Inhabited
def AOpd.slot : AOpd → Option Nat
 | .t n => some n
 | .c _ => none
def zp1 : Option AOpd → List AOpd
 | none => []
 | some x => [x]
def AOp.opds : AOp → List AOpd
 | .move x | .box x | .load _ _ x | .nilCheck x | .un _ x | .conv _ x | .strOfBytes x | .strId x | .ptrAdd _ x | .field _ _ _ x | .makeIface _ x | .len _ x | .lenC _ x | .extract _ x | .iterNew x | .iterNext x | .iterEntry x | .clearM x | .clearS _ x | .cap x => [x]
 | .pick a b c | .mapUpdate a b c | .entryStore a b c => [a, b, c]
 | .alloc _ | .makeMap | .bad => []
 | .build _ ps => ps.map (·.2.2)
 | .buildSlice _ _ _ ps => ps.map (·.2.2)
 | .store _ a b | .bin _ a b | .eqP _ _ a b | .idxAddrA _ _ a b | .idxAddrS _ a b | .idxA _ _ _ a b | .idxStr a b | .makeSlice _ _ _ a b | .lookup _ _ a b | .mapEntry _ a b | .mapDelete a b | .append _ _ a b | .copy _ a b | .appendZ _ _ _ a b => [a, b]
 | .sliceA _ _ x lo hi mx | .sliceS _ x lo hi mx => x :: (zp1 lo ++ zp1 hi ++ zp1 mx)
 | .sliceStr x lo hi => x :: (zp1 lo ++ zp1 hi)
 | .makeFunc _ cs => cs
 | .call f as => f :: as
 | .minmax _ xs => xs
def zzu.looks (o : zzu) : List Nat := o.op.opds.filterMap AOpd.slot ++ (match o.guard with | some (d, _) => [d] | none => []) ++ o.uses
def AOp.pure : AOp → Bool
 | .move _ | .pick _ _ _ | .build _ _ | .nilCheck _ | .bin _ _ _ | .eqP _ _ _ _ | .un _ _ | .conv _ _ | .strId _ | .ptrAdd _ _ | .field _ _ _ _ | .idxAddrA _ _ _ _ | .idxAddrS _ _ _ | .idxA _ _ _ _ _ | .idxStr _ _
 | .sliceS _ _ _ _ _ | .sliceStr _ _ _ | .makeFunc _ _ | .makeIface _ _ | .lenC _ _ | .minmax _ _ | .extract _ _ => true
 | _ => false
def AOp.reads : AOp → Bool
 | .load _ _ _ | .sliceA _ _ _ _ _ _ | .lookup _ _ _ _ | .strOfBytes _ | .len _ _ => true
 | _ => false
def AOp.makes : AOp → Bool
 | .alloc _ | .box _ | .buildSlice _ _ _ _ | .makeSlice _ _ _ _ _ | .makeMap => true
 | _ => false
def zh5 (aos : List zzu) (listed : Array Bool) : List Nat :=
 (List.range aos.length).filter fun i => !listed.getD i true && ((aos[i]?).map (·.after.all fun e => listed.getD e false)).getD false
def yyl (acc : List Nat) : List Nat → Nat → Nat
 | [], m => m
 | p :: l, m => yyl acc l (m ||| (2 ^ p ||| acc.getD p 0))
def ztf : List zzu → List Nat → List Nat
 | [], acc => acc
 | o :: os, acc => ztf os (acc ++ [yyl acc o.after 0])
def inA (tab : List Nat) (i j : Nat) : Bool := Nat.testBit (tab.getD i 0) j
inductive zxx where
 | mob (i : Nat)
 | imm (i : Nat) (obl : List Nat)
 deriving Inhabited
def zxx.idx : zxx → Nat
 | .mob i => i
 | .imm i _ => i
def Mode.eqb : Mode → Mode → Bool
 | .quiet, .quiet | .makes, .makes | .any, .any => true
 | _, _ => false
def zzu.floats (o : zzu) : Bool := (o.mode.eqb .quiet && (o.op.pure || o.op.reads)) || (o.mode.eqb .makes && o.op.makes)
def hasN : List Nat → Nat → Bool
 | [], _ => false
 | x :: l, n => Nat.beq x n || hasN l n
def oEq : Option Nat → Option Nat → Bool
 | some x, some y => Nat.beq x y
 | _, _ => false
def oIn : Option Nat → List Nat → Bool
 | some x, l => hasN l x
 | none, _ => false
def zab (o oj : zzu) : Bool := !oIn o.dst oj.looks && !oEq o.dst oj.dst && !oIn oj.dst o.looks
def zuh (tab : List Nat) (o : zzu) (i : Nat) : List zzu → Nat → Bool
 | [], _ => true
 | ok :: r, k => (Nat.beq i k || zab o ok || inA tab i k || inA tab k i) && zuh tab o i r (k + 1)
def zr9 (tab : List Nat) (aos : List zzu) : List zzu → Nat → Bool
 | [], _ => true
 | o :: r, i => zuh tab o i aos 0 && zr9 tab aos r (i + 1)
def zlc : List zxx → List Nat
 | [] => []
 | .mob _ :: r => zlc r
 | .imm i _ :: r => i :: zlc r
def zf7 (aos : List zzu) (i : Nat) : Bool := match aos[i]? with
 | some o => o.op.reads
 | none => false
def zpf (aos : List zzu) (tab : List Nat) (imms : List Nat) : List zxx → List Nat
 | [] => []
 | .mob i :: r => if zf7 aos i && imms.all (fun j => !inA tab i j) then i :: zpf aos tab imms r else zpf aos tab imms r
 | .imm _ _ :: r => zpf aos tab imms r
def yjy (aos : List zzu) (tab : List Nat) (ps : List zxx) : List Nat := zpf aos tab (zlc ps) ps
def zvd (aos : List zzu) (tab : List Nat) : List zxx → List Nat → List Nat → Option Nat → Bool
 | [], listed, _, _ => (List.range aos.length).all (hasN listed)
 | .mob i :: ps, listed, pend, last => !hasN listed i && (match aos[i]? with
  | some o => o.floats && o.after.all (hasN listed)
  | none => false) && zvd aos tab ps (i :: listed) (i :: pend) last
 | .imm i obl :: ps, listed, pend, last => !hasN listed i && (match aos[i]? with
  | some o => o.after.all (hasN listed)
  | none => false) && pend.all (inA tab i) && (match last with
  | some l => inA tab i l
  | none => true) && (yjy aos tab ps).all (hasN obl) && zvd aos tab ps (i :: listed) [] (some i)
def ywe (aos : List zzu) (tab : List Nat) : List Nat → List Nat → List zxx
 | [], listed => ((List.range aos.length).filter fun i => !hasN listed i).map .mob
 | j :: js, listed =>
  let fs := (List.range aos.length).filter fun i => inA tab j i && !hasN listed i
  fs.map .mob ++ .imm j [] :: ywe aos tab js (j :: fs ++ listed)
def zgh (aos : List zzu) (tab : List Nat) : List zxx → List zxx
 | [] => []
 | .mob i :: r => .mob i :: zgh aos tab r
 | .imm i _ :: r => .imm i (yjy aos tab r) :: zgh aos tab r
def zgf (aos : List zzu) : Option (List zxx × List Nat) :=
 let tab := ztf aos []
 let imms := (List.range aos.length).filter fun i => match aos[i]? with
  | some o => !o.floats
  | none => false
 let ps := zgh aos tab (ywe aos tab imms [])
 if ps.length == aos.length && zr9 tab aos aos 0 && zvd aos tab ps [] [] none then some (ps, yjy aos tab ps) else none
inductive zym where
 | skip
 | region (ops : List zzu)
 | draw (ops : List zzu) (plan : List zxx) (start : List Nat)
 | seq (a b : zym)
 | cond (c : AOpd) (a b : zym)
 | block (id : Nat) (a : zym)
 | loop (a : zym)
 | rangeFunc (f : AOpd) (params : List Nat) (assign body : zym)
 | exit (id : Nat)
 | ret
 | bad
 deriving Inhabited
def zqw : Value → AVal
 | .agg cs => .agg (cs.toList.map .raw)
 | .tuple cs => .tuple (cs.toList.map .raw)
 | .func fn first caps => if first.toList.isEmpty && caps.toList.isEmpty then .func fn [] else .raw (.func fn first caps)
 | v => .raw v
theorem zyl (ρ : Ren) (v : Value) : VRel ρ (zqw v) v := by
 cases v <;> simp only [zqw] <;> try exact .raw _
 ·rename_i fn first caps
  split
  ·rename_i h
   have h : first = #[] ∧ caps = #[] := by simpa using h
   obtain ⟨rfl, rfl⟩ := h
   exact VRel.func (vs := []) .nil
  ·exact .raw _
 ·rename_i cs; exact VRel.agg (vs := cs.toList) (VRels.map_raw _)
 ·rename_i cs; exact VRel.tuple (vs := cs.toList) (VRels.map_raw _)
def zxt : Operand → Option AOpd
 | .tmp t => some (.t t)
 | .const v => some (.c (zqw v))
 | .func f => some (.c (.func (.func f) []))
 | .global _ => none
def znf : Option Operand → Option (Option AOpd)
 | none => some none
 | some x => (zxt x).map some
def zpq : List Operand → Option (List AOpd)
 | [] => some []
 | x :: xs => (zxt x).bind fun y => (zpq xs).map (y :: ·)
def zj3 : TypeDesc → Bool
 | .struct _ | .array _ _ => true
 | _ => false
def zjc (P : Program) (t : TypeId) : Option Nat := (P.info? t).map (·.size)
def zkt (P : Program) (t : TypeId) : Option Value := (P.info? t).bind (·.zero)
def shOf (P : Program) (t : TypeId) : Option (Bool × Nat) := (P.underlying t).bind fun d => (zjc P t).map fun n => (zj3 d, n)
def zjs (P : Program) (t : TypeId) : Option (Bool × Nat) := (shOf P t).map fun (a, n) => (a, if a then n else 1)
def zr1 (places : Nat → Option (Nat × Nat)) : List (Nat × Operand) → Option (List (Nat × Nat × AOpd))
 | [] => some []
 | (i, x) :: r => (places i).bind fun (o, n) => (zxt x).bind fun y => (zr1 places r).map ((o, n, y) :: ·)
def zv4 (P : Program) (fs : Array Field) (i : Nat) : Option (Nat × Nat) := (fs[i]?).bind fun f => (zjc P f.type).map fun n => (f.offset, n)
def zmx (P : Program) (f : TypeId → Option zv6) : List Field → Option zv6
 | [] => some .fin
 | fd :: r => if fd.name = "_" then zmx P f r else (zjs P fd.type).bind fun (a, n) => (f fd.type).bind fun p => (zmx P f r).map (.fld fd.offset a n p)
def cEq (P : Program) : Nat → TypeId → Option zv6
 | 0, _ => none
 | d + 1, t =>
  match P.underlying t with
  | some .bool => some .bool
  | some (.int _) => some .int
  | some .string => some .str
  | some (.slice _) => some .nilS
  | some (.map _ _) => some .nilM
  | some (.func _ _ _) => some .nilF
  | some (.pointer _) => some .nilP
  | some (.struct fs) => if P.stoodInHeld t then none else zmx P (cEq P d) fs.toList
  | some (.array n e) => (zjs P e).bind fun (a, k) => (zjc P e).bind fun m => if k = m then (cEq P d e).map (.arr n m a) else none
  | _ => none
def ykd (P : Program) (op : BinOp) (t : TypeId) (x y : AOpd) : Option AOp :=
 match op with
 | .eql | .neq =>
  match P.underlying t with
  | some (.int _) | some .string => some (.bin op x y)
  | some d => if zj3 d && P.eqGuardType P.depth t then none else (cEq P 20 t).map fun p => .eqP (op == .neq) p x y
  | none => none
 | _ =>
  match P.underlying t with
  | some (.int _) | some .string => some (.bin op x y)
  | _ => none
def yw3 (P : Program) (src dst : TypeId) (x : AOpd) : Option AOp :=
 match P.underlying src, P.underlying dst with
 | some (.int _), some (.int k) => some (.conv k x)
 | some .string, some .string => some (.strId x)
 | some (.slice e), some .string => match P.underlying e with | some (.int .u8) => some (.strOfBytes x) | _ => none
 | _, _ => none
def zr0 (P : Program) : List Operand → List TypeId → Option AOp
 | [s, x], [t, u] =>
  match P.underlying t, P.underlying u with
  | some (.slice e), some (.slice _) => (P.info? e).bind fun i => i.zero.bind fun z => if (zqw z).cells.length == i.size then (zxt s).bind fun s => (zxt x).map fun x => .append i.size i.bytes s x else none
  | _, _ => none
 | _, _ => none
def zb3 (P : Program) : List Operand → List TypeId → Option AOp
 | [s, x], [t, u] =>
  match P.underlying t, P.underlying u with
  | some (.slice e), some (.int _) => (P.info? e).bind fun i => i.zero.bind fun z => if (zqw z).cells.length == i.size then (zxt s).bind fun s => (zxt x).map fun x => .appendZ i.size i.bytes (zqw z).cells s x else none
  | _, _ => none
 | _, _ => none
def isZ (P : Program) : List TypeId → Bool
 | [_, u] => match P.underlying u with | some (.int _) => true | _ => false
 | _ => false
def yj9 (P : Program) : List Operand → List TypeId → Option AOp
 | [x], [t] =>
  match P.underlying t with
  | some (.slice _) => (zxt x).map .cap
  | _ => none
 | _, _ => none
def yz4 (P : Program) : List Operand → List TypeId → Option AOp
 | [d, s], [t, u] =>
  match P.underlying t, P.underlying u with
  | some (.slice e), some (.slice _) => (zjc P e).bind fun n => (zxt d).bind fun d => (zxt s).map fun s => .copy n d s
  | _, _ => none
 | _, _ => none
def yj2 (P : Program) : List Operand → List TypeId → Option AOp
 | [x], [t] =>
  match P.underlying t with
  | some .string => (zxt x).map (.len 0)
  | some (.slice _) => (zxt x).map (.len 1)
  | some (.map _ _) => (zxt x).map (.len 2)
  | some (.array n _) => (zxt x).map (.lenC n)
  | some (.pointer a) => match P.underlying a with | some (.array n _) => (zxt x).map (.lenC n) | _ => none
  | _ => none
 | _, _ => none
def zrp (P : Program) : List Operand → List TypeId → Option AOp
 | [m, k], [t, _] =>
  match P.underlying t with
  | some (.map key _) => match P.underlying key with | some (.int _) => (zxt m).bind fun m => (zxt k).map fun k => .mapDelete m k | _ => none
  | _ => none
 | _, _ => none
def zlk (P : Program) : List Operand → List TypeId → Option AOp
 | [x], [t] =>
  match P.underlying t with
  | some (.map _ _) => (zxt x).map .clearM
  | some (.slice e) => (zkt P e).bind fun z => (zxt x).map (.clearS (zqw z).cells)
  | _ => none
 | _, _ => none
def znu (P : Program) (b : Builtin) (args : List Operand) (tys : List TypeId) : Option AOp :=
 match b with
 | .append => if isZ P tys then zb3 P args tys else zr0 P args tys
 | .cap => yj9 P args tys
 | .copy => yz4 P args tys
 | .len => yj2 P args tys
 | .delete => zrp P args tys
 | .clear => zlk P args tys
 | .min => (zpq args).map (.minmax false)
 | .max => (zpq args).map (.minmax true)
 | _ => none
def zf8 (P : Program) (c : Call) : Option AOp :=
 match c.callee with
 | .value f => (zxt f).bind fun g => (zpq c.args.toList).map fun as => .call g as
 | .invoke _ _ => none
 | .builtin b => znu P b c.args.toList c.argTypes.toList
def cOp (P : Program) : Op → Option AOp
 | .move x | .assign x => (zxt x).map .move
 | .pick c a b => (zxt c).bind fun c => (zxt a).bind fun a => (zxt b).map fun b => .pick c a b
 | .alloc t => (zkt P t).map fun z => .alloc (zqw z).cells
 | .box _ x => (zxt x).map .box
 | .build t parts => (zkt P t).bind fun z =>
  match P.underlying t with
  | some (.struct fs) => (fs.toList.mapM fun f => zjc P f.type).bind fun _ => (zr1 (zv4 P fs) parts.toList).map (.build (zqw z).cells)
  | some (.array _ e) => (zjc P e).bind fun n => (zr1 (fun i => some (i * n, n)) parts.toList).map (.build (zqw z).cells)
  | _ => none
 | .buildSlice t len parts =>
  match P.underlying t with
  | some (.slice e) => (zjc P e).bind fun n => (zkt P e).bind fun z =>
   if len * n ≤ 2 ^ 24 && (zqw z).cells.length == n then (zr1 (fun i => some (i * n, n)) parts.toList).map (.buildSlice len n (zqw z).cells) else none
  | _ => none
 | .load t x => (zjs P t).bind fun (a, n) => (zxt x).map (.load a n)
 | .store t a x => (zjc P t).bind fun n => (zxt a).bind fun a => (zxt x).map (.store n a)
 | .nilCheck x => (zxt x).map .nilCheck
 | .binOp op t x y _ => (zxt x).bind fun x => (zxt y).bind fun y => ykd P op t x y
 | .unOp op _ x => (zxt x).map (.un op)
 | .convert src dst x => (zxt x).bind (yw3 P src dst)
 | .makeFunc fn first caps => if first.isEmpty then (zpq caps.toList).map (.makeFunc fn) else none
 | .makeInterface t x =>
  match P.underlying t with
  | some (.interface _) | none => none
  | some _ => (zxt x).map (.makeIface t)
 | .fieldAddr s x f =>
  match P.underlying s with
  | some (.struct fs) => (fs[f]?).bind fun fd => (zjc P fd.type).bind fun n => if n = 0 then none else (zxt x).map (.ptrAdd fd.offset)
  | _ => none
 | .field s x f =>
  match P.underlying s with
  | some (.struct fs) => (fs[f]?).bind fun fd => (zjs P fd.type).bind fun (a, n) => (zxt x).map (.field a fd.offset n)
  | _ => none
 | .indexAddr t x i =>
  match P.underlying t with
  | some (.array len e) => (zjc P e).bind fun n => (zxt x).bind fun x => (zxt i).map (.idxAddrA len n x)
  | some (.slice e) => (zjc P e).bind fun n => (zxt x).bind fun x => (zxt i).map (.idxAddrS n x)
  | _ => none
 | .index t x i =>
  match P.underlying t with
  | some (.array len e) => (zjs P e).bind fun (a, n) => (zjc P e).bind fun m => if n = m then (zxt x).bind fun x => (zxt i).map (.idxA len n a x) else none
  | some .string => (zxt x).bind fun x => (zxt i).map (.idxStr x)
  | _ => none
 | .slice t x lo hi mx => (znf lo).bind fun lo => (znf hi).bind fun hi => (znf mx).bind fun mx =>
  match P.underlying t with
  | some (.array n e) => (zjc P e).bind fun s => (zxt x).map fun x => .sliceA n s x lo hi mx
  | some (.slice e) => (zjc P e).bind fun s => (zxt x).map fun x => .sliceS s x lo hi mx
  | some .string => match mx with | none => (zxt x).map fun x => .sliceStr x lo hi | some _ => none
  | _ => none
 | .makeSlice t l c =>
  match P.underlying t with
  | some (.slice e) => (P.info? e).bind fun i => i.zero.bind fun z => if (zqw z).cells.length == i.size then (zxt l).bind fun l => (zxt c).map (.makeSlice i.size i.bytes (zqw z).cells l) else none
  | _ => none
 | .makeMap t none => match P.underlying t with | some (.map _ _) => some .makeMap | _ => none
 | .lookup t x k ok =>
  match P.underlying t with
  | some (.map key e) => match P.underlying key with
   | some (.int _) => (zkt P e).bind fun z => (zxt x).bind fun x => (zxt k).map (.lookup (zqw z) ok x)
   | _ => none
  | _ => none
 | .mapUpdate t m k v | .insert t m k v =>
  match P.underlying t with
  | some (.map key _) => match P.underlying key with
   | some (.int _) => (zxt m).bind fun m => (zxt k).bind fun k => (zxt v).map (.mapUpdate m k)
   | _ => none
  | _ => none
 | .mapEntry t m k =>
  match P.underlying t with
  | some (.map key e) => match P.underlying key with
   | some (.int _) => (zkt P e).bind fun z => (zxt m).bind fun m => (zxt k).map (.mapEntry (zqw z) m)
   | _ => none
  | _ => none
 | .entryStore _ m s v => (zxt m).bind fun m => (zxt s).bind fun s => (zxt v).map (.entryStore m s)
 | .extract x i => (zxt x).map (.extract i)
 | .range t x =>
  match P.underlying t with
  | some (.map _ _) => (zxt x).map .iterNew
  | _ => none
 | .next x str => if str then none else (zxt x).map .iterNext
 | .entry x => (zxt x).map .iterEntry
 | .call c => zf8 P c
 | _ => none
def zpc (op : Op) (a : AOp) : Bool :=
 match a with
 | .call _ _ => match op with
  | .call c => match c.callee with
   | .value _ => true
   | _ => false
  | _ => false
 | _ => true
def zff (o : Op) : List Nat := o.operands.toList.filterMap fun
 | .tmp t => some t
 | _ => none
def yja : Op → Bool
 | .defer _ | .select _ _ | .go _ => true
 | _ => false
def ywk (P : Program) (o : Op) : Option AOp :=
 match cOp P o with
 | some a => some a
 | none => if yja o then none else some .bad
def zkr (P : Program) (ops : Array Oper) (o : Oper) : Option zzu :=
 (ywk P o.op).bind fun a =>
  if zpc o.op a then
   let after := (o.after.toList.filter (Region.binds .any)).map (·.on)
   let uses := zff o.op
   let mode := zwv o.op
   match o.guard with
   | none => some { dst := o.dst, op := a, guard := none, after, uses, mode }
   | some (j, b) => ((ops[j]?).bind (·.dst)).map fun d => { dst := o.dst, op := a, guard := some (d, b), after, uses, mode }
  else none
def zqc (P : Program) (ops : Array Oper) : List Oper → Option (List zzu)
 | [] => some []
 | o :: r => (zkr P ops o).bind fun a => (zqc P ops r).map (a :: ·)
def zyv (P : Program) : Code → Option zym
 | .skip => some .skip
 | .region _ ops dr => (zqc P ops ops.toList).bind fun aos => if dr then (match zgf aos with | some (ps, l) => some (.draw aos ps l) | none => some .bad) else some (.region aos)
 | .seq a b => (zyv P a).bind fun a => (zyv P b).map (.seq a)
 | .cond c a b => (zxt c).bind fun c => (zyv P a).bind fun a => (zyv P b).map (.cond c a)
 | .block id a => (zyv P a).map (.block id)
 | .loop a => (zyv P a).map .loop
 | .rangeFunc f ps a b => (zxt f).bind fun f => (zyv P a).bind fun a => (zyv P b).map (.rangeFunc f ps.toList a)
 | .exit id => some (.exit id)
 | .ret => some .ret
 | _ => some .bad
end
end Go.Vm
