/- Operations and values as cells; what lists of operations do to a map: plain functions. -/
import Derived.Test.YthbjfkkjmecaaaaVmWalk
namespace Go.Proofs.Ythbjfkkjmecaaaa
open Go Go.Vm

set_option linter.unusedVariables false
set_option linter.unusedSimpArgs false

/-- The cells of a value. -/
structure IsVal (v : List AVal) : Prop where
  len : v.length = 32
  bytes : ∀ c ∈ v, ∃ n, c = v8 n

abbrev zeroV : List AVal := List.replicate 32 (v8 0)
theorem zeroV_is : IsVal zeroV := ⟨by simp, fun c hc => ⟨0, (List.mem_replicate.1 hc).2⟩⟩

theorem IsVal.one {v : List AVal} (h : IsVal v) : v.all AVal.one = true := by
  rw [List.all_eq_true]
  intro c hc
  obtain ⟨n, rfl⟩ := h.bytes c hc
  rfl

/-- A value is itself. -/
theorem IsVal.refl {v : List AVal} (h : IsVal v) : aEqP (.arr 32 1 false .int) (.agg v) (.agg v) = some true := by
  have key : ∀ n i, i + n ≤ 32 → aEqLoop (aEqP .int) false 1 v v i n = some true := fun n => by
    induction n with
    | zero => intro i _; rfl
    | succ n ih =>
      intro i hi
      have hlt : i < v.length := by rw [h.len]; omega
      have hx : v[i * 1]? = some v[i] := by rw [Nat.mul_one]; exact List.getElem?_eq_getElem hlt
      obtain ⟨k, hk⟩ := h.bytes v[i] (List.getElem_mem _)
      have he : aEqP .int (v8 k) (v8 k) = some true := by simp [aEqP, ieq_eq]
      simp only [aEqLoop, aPart, Bool.false_eq_true, if_false, hx, hk, Option.bind_some, he, if_true]
      exact ih (i + 1) (by omega)
  simp only [aEqP]
  exact key 32 0 (by omega)

/-- An operation. -/
structure OpD where
  kind : Int
  set : AVal
  blk : Int
  val : List AVal

def OpD.cells (o : OpD) : List AVal := vi o.kind :: o.set :: vi o.blk :: o.val

structure OpD.Ok (o : OpD) : Prop where
  val : IsVal o.val
  one : o.set.one = true
  set : ∃ l : Nat, aLenS o.set = some (vi l)

theorem OpD.Ok.len {o : OpD} (h : o.Ok) : o.cells.length = 35 := by simp [OpD.cells, h.val.len]
theorem OpD.Ok.allone {o : OpD} (h : o.Ok) : o.cells.all AVal.one = true := by
  simp only [OpD.cells, List.all_cons, h.val.one, h.one, Bool.and_true]; rfl

/-- One that may not be. -/
def OpD.bad (b : Int) (o : OpD) : Prop := ¬ (o.kind = 2 ∨ o.kind = 3) ∨ o.blk < 0 ∨ b ≤ o.blk
instance (b : Int) (o : OpD) : Decidable (o.bad b) := by unfold OpD.bad; infer_instance

abbrev Map := List (List AVal)

def opM (m : Map) (o : OpD) : Map := if o.kind = 3 then m.set o.blk.toNat o.val else m
def opsM (m : Map) (l : List OpD) : Map := l.foldl opM m
def txsM (m : Map) (l : List (List OpD)) : Map := l.foldl opsM m
def toldO (m : Map) (o : OpD) : List (List AVal) := if o.kind = 3 then [] else [m.getD o.blk.toNat zeroV]
def toldM (m : Map) : List OpD → List (List AVal)
  | [] => []
  | o :: r => toldO m o ++ toldM (opM m o) r
def toldT (m : Map) : List (List OpD) → List (List (List AVal))
  | [] => []
  | t :: r => toldM m t :: toldT (opsM m t) r

theorem opM_len (m : Map) (o : OpD) : (opM m o).length = m.length := by unfold opM; split <;> simp
theorem opsM_len : ∀ (l : List OpD) (m : Map), (opsM m l).length = m.length
  | [], m => rfl
  | o :: r, m => by
    show (opsM (opM m o) r).length = _
    rw [opsM_len r, opM_len]
theorem opsM_append (m : Map) (a b : List OpD) : opsM m (a ++ b) = opsM (opsM m a) b := List.foldl_append ..
theorem txsM_append (m : Map) (a b : List (List OpD)) : txsM m (a ++ b) = txsM (txsM m a) b := List.foldl_append ..
theorem toldM_append : ∀ (a : List OpD) (m : Map) (b : List OpD), toldM m (a ++ b) = toldM m a ++ toldM (opsM m a) b
  | [], m, b => rfl
  | o :: r, m, b => by
    show toldO m o ++ toldM (opM m o) (r ++ b) = (toldO m o ++ toldM (opM m o) r) ++ toldM (opsM (opM m o) r) b
    rw [toldM_append r, List.append_assoc]
theorem toldT_append : ∀ (a : List (List OpD)) (m : Map) (b : List (List OpD)), toldT m (a ++ b) = toldT m a ++ toldT (txsM m a) b
  | [], m, b => rfl
  | t :: r, m, b => by
    show toldM m t :: toldT (opsM m t) (r ++ b) = (toldM m t :: toldT (opsM m t) r) ++ toldT (txsM (opsM m t) r) b
    rw [toldT_append r, List.cons_append]
theorem toldT_len : ∀ (l : List (List OpD)) (m : Map), (toldT m l).length = l.length
  | [], m => rfl
  | t :: r, m => by show (toldT (opsM m t) r).length + 1 = r.length + 1; rw [toldT_len r]

theorem take_succ_at {α : Type} {l : List α} {k : Nat} {x : α} (h : l[k]? = some x) : l.take (k + 1) = l.take k ++ [x] := by
  rw [List.take_add_one, h]; rfl

theorem opM_vals {m : Map} {o : OpD} (hm : ∀ v ∈ m, IsVal v) (ho : o.Ok) : ∀ v ∈ opM m o, IsVal v := fun v hv => by
  unfold opM at hv
  split at hv
  · rcases List.mem_or_eq_of_mem_set hv with h | rfl
    · exact hm v h
    · exact ho.val
  · exact hm v hv
theorem opsM_vals : ∀ (l : List OpD) {m : Map}, (∀ v ∈ m, IsVal v) → (∀ o ∈ l, o.Ok) → ∀ v ∈ opsM m l, IsVal v
  | [], _, hm, _ => hm
  | o :: r, _, hm, ho => opsM_vals r (opM_vals hm (ho o (List.mem_cons_self ..))) fun x hx => ho x (List.mem_cons_of_mem _ hx)
theorem txsM_vals : ∀ (l : List (List OpD)) {m : Map}, (∀ v ∈ m, IsVal v) → (∀ t ∈ l, ∀ o ∈ t, o.Ok) → ∀ v ∈ txsM m l, IsVal v
  | [], _, hm, _ => hm
  | t :: r, _, hm, ho => txsM_vals r (opsM_vals t hm (ho t (List.mem_cons_self ..))) fun x hx => ho x (List.mem_cons_of_mem _ hx)
theorem toldO_vals {m : Map} {o : OpD} (hm : ∀ v ∈ m, IsVal v) : ∀ v ∈ toldO m o, IsVal v := fun v hv => by
  unfold toldO at hv
  split at hv
  · cases hv
  · simp only [List.mem_singleton] at hv
    subst hv
    rw [List.getD_eq_getElem?_getD]
    cases h : m[o.blk.toNat]? with
    | none => exact zeroV_is
    | some v => exact hm v (List.mem_of_getElem? h)
theorem toldM_vals : ∀ (l : List OpD) {m : Map}, (∀ v ∈ m, IsVal v) → (∀ o ∈ l, o.Ok) → ∀ v ∈ toldM m l, IsVal v
  | [], _, _, _, v, hv => by cases hv
  | o :: r, _, hm, ho, v, hv => by
    rcases List.mem_append.1 hv with h | h
    · exact toldO_vals hm v h
    · exact toldM_vals r (opM_vals hm (ho o (List.mem_cons_self ..))) (fun x hx => ho x (List.mem_cons_of_mem _ hx)) v h
theorem toldT_vals : ∀ (l : List (List OpD)) {m : Map}, (∀ v ∈ m, IsVal v) → (∀ t ∈ l, ∀ o ∈ t, o.Ok) → ∀ t ∈ toldT m l, ∀ v ∈ t, IsVal v
  | [], _, _, _, t, ht => by cases ht
  | x :: r, _, hm, ho, t, ht => by
    rcases List.mem_cons.1 ht with rfl | h
    · exact toldM_vals x hm (ho x (List.mem_cons_self ..))
    · exact toldT_vals r (opsM_vals x hm (ho x (List.mem_cons_self ..))) (fun y hy => ho y (List.mem_cons_of_mem _ hy)) t h

theorem toldM_le : ∀ (l : List OpD) (m : Map), (toldM m l).length ≤ l.length
  | [], m => Nat.le_refl _
  | o :: r, m => by
    have h1 := toldM_le r (opM m o)
    have h2 : (toldO m o).length ≤ 1 := by unfold toldO; split <;> simp
    show (toldO m o ++ toldM (opM m o) r).length ≤ r.length + 1
    rw [List.length_append]; omega

/-! ### A map with room behind it: only the first b count -/

theorem opM_take {b : Nat} {m : Map} {o : OpD} (h : ¬ o.bad b) : (opM m o).take b = opM (m.take b) o := by
  unfold opM
  split
  · rw [List.take_set]
  · rfl
theorem toldO_take {b : Nat} {m : Map} {o : OpD} (h : ¬ o.bad b) : toldO (m.take b) o = toldO m o := by
  have h1 : o.blk.toNat < b := by unfold OpD.bad at h; omega
  unfold toldO
  split
  · rfl
  · rw [List.getD_eq_getElem?_getD, List.getD_eq_getElem?_getD, List.getElem?_take, if_pos h1]
theorem opsM_take {b : Nat} : ∀ (l : List OpD) (m : Map), (∀ o ∈ l, ¬ o.bad b) → (opsM m l).take b = opsM (m.take b) l
  | [], m, _ => rfl
  | o :: r, m, h => by
    show (opsM (opM m o) r).take b = opsM (opM (m.take b) o) r
    rw [opsM_take r _ fun x hx => h x (List.mem_cons_of_mem _ hx), opM_take (h o (List.mem_cons_self ..))]
theorem toldM_take {b : Nat} : ∀ (l : List OpD) (m : Map), (∀ o ∈ l, ¬ o.bad b) → toldM (m.take b) l = toldM m l
  | [], m, _ => rfl
  | o :: r, m, h => by
    show toldO (m.take b) o ++ toldM (opM (m.take b) o) r = toldO m o ++ toldM (opM m o) r
    rw [toldO_take (h o (List.mem_cons_self ..)), ← opM_take (h o (List.mem_cons_self ..)), toldM_take r _ fun x hx => h x (List.mem_cons_of_mem _ hx)]
theorem txsM_take {b : Nat} : ∀ (l : List (List OpD)) (m : Map), (∀ t ∈ l, ∀ o ∈ t, ¬ o.bad b) → (txsM m l).take b = txsM (m.take b) l
  | [], m, _ => rfl
  | t :: r, m, h => by
    show (txsM (opsM m t) r).take b = txsM (opsM (m.take b) t) r
    rw [txsM_take r _ fun x hx => h x (List.mem_cons_of_mem _ hx), opsM_take t _ (h t (List.mem_cons_self ..))]
theorem toldT_take {b : Nat} : ∀ (l : List (List OpD)) (m : Map), (∀ t ∈ l, ∀ o ∈ t, ¬ o.bad b) → toldT (m.take b) l = toldT m l
  | [], m, _ => rfl
  | t :: r, m, h => by
    show toldM (m.take b) t :: toldT (opsM (m.take b) t) r = toldM m t :: toldT (opsM m t) r
    rw [toldM_take t _ (h t (List.mem_cons_self ..)), ← opsM_take t _ (h t (List.mem_cons_self ..)), toldT_take r _ fun x hx => h x (List.mem_cons_of_mem _ hx)]

end Go.Proofs.Ythbjfkkjmecaaaa
