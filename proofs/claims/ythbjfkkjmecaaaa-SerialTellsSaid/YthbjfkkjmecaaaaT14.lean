/- The abstract machine, part 26: the evaluator once more, made for the kernel: recursors at hand, states written out at each step. -/
import Derived.Test.YthbjfkkjmecaaaaT13
set_option linter.unusedVariables false
set_option linter.unusedSimpArgs false
namespace Go.Vm
open Go
variable {P : Program}
abbrev Res := Option (AVal × AHeap)
noncomputable def lget (l : List AVal) : Nat → AVal := List.rec (motive := fun _ => Nat → AVal) (fun _ => aundef) (fun x _ ih n => Nat.rec (motive := fun _ => AVal) x (fun m _ => ih m) n) l
theorem lget_eq : ∀ (l : List AVal) (n : Nat), lget l n = l.getD n aundef
  | [], n => by simp [lget]
  | x :: l, 0 => rfl
  | x :: l, n + 1 => by
    show lget l n = _
    rw [lget_eq l n]; simp
noncomputable def lsetK {R : Type} (v : AVal) (l : List AVal) : Nat → (List AVal → R) → R :=
  List.rec (motive := fun _ => Nat → (List AVal → R) → R) (fun _ k => k []) (fun x xs ih n => Nat.rec (motive := fun _ => (List AVal → R) → R) (fun k => k (v :: xs)) (fun m _ k => ih m fun ys => k (x :: ys)) n) l
theorem lsetK_eq {R : Type} (v : AVal) : ∀ (l : List AVal) (n : Nat) (k : List AVal → R), lsetK v l n k = k (l.set n v)
  | [], n, k => by simp [lsetK]
  | x :: l, 0, k => rfl
  | x :: l, n + 1, k => by
    show lsetK v l n (fun ys => k (x :: ys)) = _
    rw [lsetK_eq v l n]; rfl
noncomputable def lnth {α : Type} (l : List α) : Nat → Option α := List.rec (motive := fun _ => Nat → Option α) (fun _ => none) (fun x _ ih n => Nat.rec (motive := fun _ => Option α) (some x) (fun m _ => ih m) n) l
theorem lnth_eq {α : Type} : ∀ (l : List α) (n : Nat), lnth l n = l[n]?
  | [], n => by simp [lnth]
  | x :: l, 0 => rfl
  | x :: l, n + 1 => by
    show lnth l n = _
    rw [lnth_eq l n]; simp
noncomputable def ltakeK {R : Type} : Nat → List AVal → (List AVal → Option R) → Option R :=
  Nat.rec (motive := fun _ => List AVal → (List AVal → Option R) → Option R) (fun _ k => k []) fun _ ih l k => List.rec (motive := fun _ => Option R) none (fun x xs _ => ih xs fun ys => k (x :: ys)) l
theorem ltakeK_eq {R : Type} : ∀ (n : Nat) (l : List AVal) (k : List AVal → Option R), ltakeK n l k = if n ≤ l.length then k (l.take n) else none
  | 0, l, k => by show k [] = _; simp
  | n + 1, [], k => by simp [ltakeK]
  | n + 1, x :: l, k => by
    show ltakeK n l (fun ys => k (x :: ys)) = _
    rw [ltakeK_eq n l]; simp
noncomputable def ldropK {R : Type} : Nat → List AVal → (List AVal → Option R) → Option R :=
  Nat.rec (motive := fun _ => List AVal → (List AVal → Option R) → Option R) (fun l k => k l) fun _ ih l k => List.rec (motive := fun _ => Option R) none (fun _ xs _ => ih xs k) l
theorem ldropK_eq {R : Type} : ∀ (n : Nat) (l : List AVal) (k : List AVal → Option R), ldropK n l k = if n ≤ l.length then k (l.drop n) else none
  | 0, l, k => by show k l = _; simp
  | n + 1, [], k => by simp [ldropK]
  | n + 1, x :: l, k => by
    show ldropK n l k = _
    rw [ldropK_eq n l]; simp
noncomputable def loverK {R : Type} (vals : List AVal) : List AVal → (List AVal → Option R) → Option R :=
  List.rec (motive := fun _ => List AVal → (List AVal → Option R) → Option R) (fun l k => k l)
    (fun v _ ih l k => Bool.rec (motive := fun _ => Option R) none (List.rec (motive := fun _ => Option R) none (fun _ xs _ => ih xs fun ys => k (v :: ys)) l) v.one) vals
theorem loverK_eq {R : Type} : ∀ (vals l : List AVal) (k : List AVal → Option R), loverK vals l k = if (vals.all AVal.one && decide (vals.length ≤ l.length)) = true then k (vals ++ l.drop vals.length) else none
  | [], l, k => by simp [loverK]
  | v :: vals, [], k => by
    show (Bool.rec (motive := fun _ => Option R) none none v.one) = _
    cases v.one <;> simp
  | v :: vals, x :: l, k => by
    show (Bool.rec (motive := fun _ => Option R) none (loverK vals l fun ys => k (v :: ys)) v.one) = _
    rw [loverK_eq vals l]
    cases hv : v.one <;> simp [hv]
noncomputable def lsplK {R : Type} (vals : List AVal) : Nat → List AVal → (List AVal → Option R) → Option R :=
  Nat.rec (motive := fun _ => List AVal → (List AVal → Option R) → Option R) (fun l k => loverK vals l k) fun _ ih l k => List.rec (motive := fun _ => Option R) none (fun x xs _ => ih xs fun ys => k (x :: ys)) l
theorem lsplK_eq {R : Type} (vals : List AVal) (hv : 0 < vals.length) : ∀ (off : Nat) (l : List AVal) (k : List AVal → Option R), lsplK vals off l k = if (vals.all AVal.one && decide (off + vals.length ≤ l.length)) = true then k (spl l off vals) else none
  | 0, l, k => by
    show loverK vals l k = _
    rw [loverK_eq]; simp [spl]
  | off + 1, [], k => by
    show none = _
    rw [if_neg]
    simp only [Bool.and_eq_true, decide_eq_true_eq, List.length_nil]
    omega
  | off + 1, x :: l, k => by
    show lsplK vals off l (fun ys => k (x :: ys)) = _
    rw [lsplK_eq vals hv off l]
    have e : (off + 1 + vals.length ≤ (x :: l).length) = (off + vals.length ≤ l.length) := by simp; omega
    have e2 : spl (x :: l) (off + 1) vals = x :: spl l off vals := by
      unfold spl
      rw [show off + 1 + vals.length = (off + vals.length) + 1 by omega]
      simp
    rw [e2]; simp only [e]
noncomputable def llenG {α : Type} (l : List α) : Nat := List.rec (motive := fun _ => Nat → Nat) (fun n => n) (fun _ _ ih n => ih (Nat.succ n)) l 0
theorem llenG_eq {α : Type} (l : List α) : llenG l = l.length := by
  have : ∀ (l : List α) (n : Nat), List.rec (motive := fun _ => Nat → Nat) (fun n => n) (fun _ _ ih n => ih (Nat.succ n)) l n = n + l.length := by
    intro l
    induction l with
    | nil => intro n; rfl
    | cons x l ih => intro n; show List.rec (motive := fun _ => Nat → Nat) (fun n => n) (fun _ _ ih n => ih (Nat.succ n)) l (Nat.succ n) = _; rw [ih]; simp; omega
  have := this l 0
  unfold llenG; rw [this]; omega
noncomputable def lapp {α : Type} (a b : List α) : List α := List.rec (motive := fun _ => List α) b (fun x _ ih => x :: ih) a
theorem lapp_eq {α : Type} (a b : List α) : lapp a b = a ++ b := by
  induction a with
  | nil => rfl
  | cons x a ih => show x :: lapp a b = _; rw [ih]; rfl
noncomputable def ltk {α : Type} : Nat → List α → List α :=
  Nat.rec (motive := fun _ => List α → List α) (fun _ => []) fun _ ih l => List.rec (motive := fun _ => List α) [] (fun x xs _ => x :: ih xs) l
theorem ltk_eq {α : Type} : ∀ (n : Nat) (l : List α), ltk n l = l.take n
  | 0, l => by show [] = _; simp
  | n + 1, [] => rfl
  | n + 1, x :: l => by show x :: ltk n l = _; rw [ltk_eq n l]; rfl
noncomputable def ldp {α : Type} : Nat → List α → List α :=
  Nat.rec (motive := fun _ => List α → List α) (fun l => l) fun _ ih l => List.rec (motive := fun _ => List α) [] (fun _ xs _ => ih xs) l
theorem ldp_eq {α : Type} : ∀ (n : Nat) (l : List α), ldp n l = l.drop n
  | 0, l => rfl
  | n + 1, [] => rfl
  | n + 1, x :: l => by show ldp n l = _; rw [ldp_eq n l]; rfl
noncomputable def lallOne (l : List AVal) : Bool := List.rec (motive := fun _ => Bool) true (fun x _ ih => Bool.rec (motive := fun _ => Bool) false ih x.one) l
theorem lallOne_eq (l : List AVal) : lallOne l = l.all AVal.one := by
  induction l with
  | nil => rfl
  | cons x l ih =>
    show Bool.rec (motive := fun _ => Bool) false (lallOne l) x.one = _
    rw [ih]; cases h : x.one <;> simp [h]
noncomputable def lrepl : Nat → List AVal → List AVal := fun n l => Nat.rec (motive := fun _ => List AVal) [] (fun _ ih => lapp l ih) n
theorem lrepl_eq (n : Nat) (l : List AVal) : lrepl n l = repl n l := by
  induction n with
  | zero => rfl
  | succ n ih => show lapp l (lrepl n l) = _; rw [ih, lapp_eq]; rfl
noncomputable def lspl (cells : List AVal) (off : Nat) (vals : List AVal) : List AVal := lapp (ltk off cells) (lapp vals (ldp (Nat.add off (llenG vals)) cells))
theorem lspl_eq (cells : List AVal) (off : Nat) (vals : List AVal) : lspl cells off vals = spl cells off vals := by
  simp only [lspl, lapp_eq, ltk_eq, ldp_eq, llenG_eq]; rfl
noncomputable def fFill (ps : List (Nat × Nat × AVal)) : List AVal → Option (List AVal) :=
  List.rec (motive := fun _ => List AVal → Option (List AVal)) (fun cells => some cells)
    (fun p _ ih cells => match p with
      | (off, n, v) => Bool.rec (motive := fun _ => Option (List AVal)) none (Bool.rec (motive := fun _ => Option (List AVal)) none (ih (lspl cells off v.cells)) (Nat.ble (Nat.add off n) (llenG cells))) (Nat.beq (llenG v.cells) n)) ps
theorem fFill_eq : ∀ (ps : List (Nat × Nat × AVal)) (cells : List AVal), fFill ps cells = aFill cells ps
  | [], _ => rfl
  | (off, n, v) :: ps, cells => by
    show Bool.rec (motive := fun _ => Option (List AVal)) none (Bool.rec (motive := fun _ => Option (List AVal)) none (fFill ps (lspl cells off v.cells)) (Nat.ble (Nat.add off n) (llenG cells))) (Nat.beq (llenG v.cells) n) = _
    rw [fFill_eq ps, lspl_eq, llenG_eq, llenG_eq]
    simp only [aFill]
    have e1 : Nat.beq v.cells.length n = decide (v.cells.length = n) := by rw [Bool.eq_iff_iff]; simp
    have e2 : Nat.ble (Nat.add off n) cells.length = decide (off + n ≤ cells.length) := by rw [Bool.eq_iff_iff]; simp
    rw [e1, e2]
    by_cases h1 : v.cells.length = n <;> by_cases h2 : off + n ≤ cells.length <;> simp [h1, h2]
abbrev FT := List (List AVal)
def chunk : Nat → List AVal → FT
  | 0, _ => []
  | q + 1, l => l.take 16 :: chunk q (l.drop 16)
def toFT (l : List AVal) : FT := chunk ((l.length + 15) / 16) l
theorem chunk_get : ∀ (q : Nat) (l : List AVal) (i : Nat), (chunk q l)[i]? = if i < q then some ((l.drop (16 * i)).take 16) else none
  | 0, l, i => by simp [chunk]
  | q + 1, l, 0 => by simp [chunk]
  | q + 1, l, i + 1 => by
    simp only [chunk, List.getElem?_cons_succ]
    rw [chunk_get q]
    simp only [List.drop_drop, Nat.add_lt_add_iff_right]
    rw [show 16 + 16 * i = 16 * (i + 1) by omega]
theorem chunk_flat : ∀ (q : Nat) (l : List AVal), l.length ≤ 16 * q → (chunk q l).flatten = l
  | 0, l, h => by
    have : l = [] := List.eq_nil_of_length_eq_zero (by omega)
    subst this; rfl
  | q + 1, l, h => by
    simp only [chunk, List.flatten_cons]
    rw [chunk_flat q (l.drop 16) (by simp; omega), List.take_append_drop]
theorem toFT_flat (l : List AVal) : (toFT l).flatten = l := chunk_flat _ _ (by omega)
noncomputable def fnth (t : FT) (n : Nat) : Option AVal :=
  match lnth t (Nat.div n 16) with
  | some c => lnth c (Nat.mod n 16)
  | none => none
theorem fnth_eq (l : List AVal) (n : Nat) : fnth (toFT l) n = l[n]? := by
  unfold fnth toFT
  rw [lnth_eq, chunk_get]
  have e : Nat.div n 16 = n / 16 := rfl
  have e2 : Nat.mod n 16 = n % 16 := rfl
  rw [e, e2]
  by_cases h : n / 16 < (l.length + 15) / 16
  · rw [if_pos h]
    simp only [lnth_eq]
    rw [List.getElem?_take, if_pos (by omega), List.getElem?_drop]
    congr 1; omega
  · rw [if_neg h]
    simp only
    exact (List.getElem?_eq_none (by omega)).symm
noncomputable def fget (t : FT) (n : Nat) : AVal :=
  match lnth t (Nat.div n 16) with
  | some c => lget c (Nat.mod n 16)
  | none => aundef
theorem fget_eq (l : List AVal) (n : Nat) : fget (toFT l) n = l.getD n aundef := by
  have h := fnth_eq l n
  unfold fnth at h
  unfold fget
  rw [List.getD_eq_getElem?_getD, ← h]
  cases lnth (toFT l) (Nat.div n 16) with
  | none => rfl
  | some c => simp only [lget_eq, lnth_eq, List.getD_eq_getElem?_getD]
noncomputable def fsetGo {R : Type} (v : AVal) (r : Nat) (t : FT) : Nat → (FT → R) → R :=
  List.rec (motive := fun _ => Nat → (FT → R) → R) (fun _ k => k []) (fun c cs ih n => Nat.rec (motive := fun _ => (FT → R) → R) (fun k => lsetK v c r fun c' => k (c' :: cs)) (fun m _ k => ih m fun ys => k (c :: ys)) n) t
noncomputable def fsetK {R : Type} (v : AVal) (t : FT) (n : Nat) (k : FT → R) : R := fsetGo v (Nat.mod n 16) t (Nat.div n 16) k
theorem fsetGo_eq {R : Type} (v : AVal) (r : Nat) (hr : r < 16) : ∀ (q : Nat) (l : List AVal) (i : Nat) (k : FT → R), fsetGo v r (chunk q l) i k = k (chunk q (l.set (16 * i + r) v))
  | 0, l, i, k => rfl
  | q + 1, l, 0, k => by
    show lsetK v (l.take 16) r (fun c' => k (c' :: chunk q (l.drop 16))) = _
    rw [lsetK_eq]
    simp only [chunk, Nat.mul_zero, Nat.zero_add]
    rw [List.take_set, List.drop_set_of_lt hr]
  | q + 1, l, i + 1, k => by
    show fsetGo v r (chunk q (l.drop 16)) i (fun ys => k (l.take 16 :: ys)) = _
    rw [fsetGo_eq v r hr q]
    simp only [chunk]
    have e1 : (l.set (16 * (i + 1) + r) v).take 16 = l.take 16 := by
      rw [List.take_set, List.set_eq_of_length_le]
      simp; omega
    have e2 : (l.set (16 * (i + 1) + r) v).drop 16 = (l.drop 16).set (16 * i + r) v := by
      rw [List.drop_set, if_neg (by omega)]
      congr 1; omega
    rw [e1, e2]
theorem fsetK_eq {R : Type} (v : AVal) (l : List AVal) (n : Nat) (k : FT → R) : fsetK v (toFT l) n k = k (toFT (l.set n v)) := by
  unfold fsetK toFT
  rw [fsetGo_eq v (Nat.mod n 16) (Nat.mod_lt n (by omega))]
  have : 16 * Nat.div n 16 + Nat.mod n 16 = n := Nat.div_add_mod n 16
  rw [this]
  simp
noncomputable def takeK {R : Type} : Nat → List AVal → (List AVal → List AVal → R) → R :=
  Nat.rec (motive := fun _ => List AVal → (List AVal → List AVal → R) → R) (fun l k => k [] l) fun _ ih l k => List.rec (motive := fun _ => R) (k [] []) (fun x xs _ => ih xs fun a b => k (x :: a) b) l
theorem takeK_eq {R : Type} : ∀ (n : Nat) (l : List AVal) (k : List AVal → List AVal → R), takeK n l k = k (l.take n) (l.drop n)
  | 0, l, k => by show k [] l = _; simp
  | n + 1, [], k => by show k [] [] = _; simp
  | n + 1, x :: l, k => by
    show takeK n l (fun a b => k (x :: a) b) = _
    rw [takeK_eq n l]; simp
noncomputable def chunkK {R : Type} : Nat → List AVal → (FT → R) → R :=
  Nat.rec (motive := fun _ => List AVal → (FT → R) → R) (fun _ k => k []) fun _ ih l k => takeK 16 l fun a b => ih b fun ys => k (a :: ys)
theorem chunkK_eq {R : Type} : ∀ (q : Nat) (l : List AVal) (k : FT → R), chunkK q l k = k (chunk q l)
  | 0, l, k => rfl
  | q + 1, l, k => by
    show takeK 16 l (fun a b => chunkK q b fun ys => k (a :: ys)) = _
    rw [takeK_eq, chunkK_eq q]; rfl
noncomputable def llen (l : List AVal) : Nat := List.rec (motive := fun _ => Nat → Nat) (fun n => n) (fun _ _ ih n => ih (Nat.add n 1)) l 0
theorem llen_eq (l : List AVal) : llen l = l.length := by
  have : ∀ (l : List AVal) (n : Nat), List.rec (motive := fun _ => Nat → Nat) (fun n => n) (fun _ _ ih n => ih (Nat.add n 1)) l n = n + l.length := by
    intro l
    induction l with
    | nil => intro n; rfl
    | cons x l ih => intro n; show List.rec (motive := fun _ => Nat → Nat) (fun n => n) (fun _ _ ih n => ih (Nat.add n 1)) l (Nat.add n 1) = _; rw [ih]; simp; omega
  have := this l 0
  unfold llen; rw [this]; omega
noncomputable def frameK {R : Type} (l : List AVal) (k : FT → R) : R := chunkK (Nat.div (Nat.add (llen l) 15) 16) l k
theorem frameK_eq {R : Type} (l : List AVal) (k : FT → R) : frameK l k = k (toFT l) := by
  unfold frameK toFT
  rw [chunkK_eq, llen_eq]; rfl
noncomputable def fTr {α : Type} (t : Tr α) : Nat → Option α :=
  Tr.rec (motive := fun _ => Nat → Option α) (fun _ => none) (fun v _ _ ihl ihr k => Bool.rec (motive := fun _ => Option α) (Bool.rec (motive := fun _ => Option α) (ihr (Nat.sub (Nat.div k 2) 1)) (ihl (Nat.div k 2)) (Nat.beq (Nat.mod k 2) 1)) v (Nat.beq k 0)) t
theorem fTr_eq {α : Type} : ∀ (t : Tr α) (k : Nat), fTr t k = t.get k
  | .leaf, k => rfl
  | .node v l r, k => by
    show Bool.rec (motive := fun _ => Option α) (Bool.rec (motive := fun _ => Option α) (fTr r (Nat.sub (Nat.div k 2) 1)) (fTr l (Nat.div k 2)) (Nat.beq (Nat.mod k 2) 1)) v (Nat.beq k 0) = _
    rw [fTr_eq l, fTr_eq r]
    simp only [Tr.get]
    have e0 : Nat.beq k 0 = decide (k = 0) := by
      rw [Bool.eq_iff_iff]; simp
    have e1 : Nat.beq (Nat.mod k 2) 1 = decide (k % 2 = 1) := by
      rw [Bool.eq_iff_iff]; simp
      rfl
    rw [e0, e1]
    by_cases h0 : k = 0
    · simp [h0]
    · by_cases h1 : k % 2 = 1
      · simp [h0, h1]; rfl
      · simp [h0, h1]; rfl
noncomputable def fSetK {α R : Type} (u : α) (t : Tr α) : Nat → (Tr α → R) → R :=
  Tr.rec (motive := fun _ => Nat → (Tr α → R) → R) (fun k c => c (Tr.sing u (k + 1) k))
    (fun v l r ihl ihr k c => Bool.rec (motive := fun _ => R) (Bool.rec (motive := fun _ => R) (ihr (Nat.sub (Nat.div k 2) 1) fun r' => c (.node v l r')) (ihl (Nat.div k 2) fun l' => c (.node v l' r)) (Nat.beq (Nat.mod k 2) 1)) (c (.node (some u) l r)) (Nat.beq k 0)) t
theorem fSetK_eq {α R : Type} (u : α) : ∀ (t : Tr α) (k : Nat) (c : Tr α → R), fSetK u t k c = c (t.set u k)
  | .leaf, k, c => rfl
  | .node v l r, k, c => by
    show Bool.rec (motive := fun _ => R) (Bool.rec (motive := fun _ => R) (fSetK u r (Nat.sub (Nat.div k 2) 1) fun r' => c (.node v l r')) (fSetK u l (Nat.div k 2) fun l' => c (.node v l' r)) (Nat.beq (Nat.mod k 2) 1)) (c (.node (some u) l r)) (Nat.beq k 0) = _
    rw [fSetK_eq u l, fSetK_eq u r]
    simp only [Tr.set]
    have e0 : Nat.beq k 0 = decide (k = 0) := by
      rw [Bool.eq_iff_iff]; simp
    have e1 : Nat.beq (Nat.mod k 2) 1 = decide (k % 2 = 1) := by
      rw [Bool.eq_iff_iff]; simp
      rfl
    rw [e0, e1]
    by_cases h0 : k = 0
    · simp [h0]
    · by_cases h1 : k % 2 = 1
      · simp [h0, h1]; rfl
      · simp [h0, h1]; rfl
noncomputable def fPutK {R : Type} (H : AHeap) (A : Nat) (o : AObj) (k : AHeap → R) : R := fSetK o H.tr A fun t => k { next := H.next, tr := t }
theorem fPutK_eq {R : Type} (H : AHeap) (A : Nat) (o : AObj) (k : AHeap → R) : fPutK H A o k = k (H.set A o) := by unfold fPutK; rw [fSetK_eq]; rfl
noncomputable def nK {R : Type} (n : Nat) (k : Nat → R) : R := Nat.rec (motive := fun _ => R) (k 0) (fun m _ => k (Nat.succ m)) n
theorem nK_eq {R : Type} (n : Nat) (k : Nat → R) : nK n k = k n := by cases n <;> rfl
noncomputable def fPushK {R : Type} (H : AHeap) (o : AObj) (k : AHeap → R) : R := fSetK o H.tr H.next fun t => nK (Nat.add H.next 1) fun m => k { next := m, tr := t }
theorem fPushK_eq {R : Type} (H : AHeap) (o : AObj) (k : AHeap → R) : fPushK H o k = k (H.push o) := by unfold fPushK; rw [fSetK_eq, nK_eq]; rfl
noncomputable def fEv (tm : FT) (x : AOpd) : AVal := AOpd.rec (motive := fun _ => AVal) (fun n => fget tm n) (fun v => v) x
theorem fEv_eq (tm : List AVal) (x : AOpd) : fEv (toFT tm) x = ev tm x := by
  cases x with
  | t n => exact fget_eq tm n
  | c v => rfl
abbrev FOp := Oracle → FT → AHeap → (AVal → AHeap → Res) → Res
def ok2 (x : Option (AVal × AHeap)) (k : AVal → AHeap → Res) : Res :=
  match x with
  | some (v, H) => k v H
  | none => none
def opSem (or : Oracle) (tm : List AVal) (op : AOp) (H : AHeap) : Option (AVal × AHeap) :=
  match op with
  | .call f args => or (ev tm f) (args.map (ev tm)) H
  | op => aOp tm op H
def FOk (f : FOp) (op : AOp) : Prop := ∀ or tm H k, f or (toFT tm) H k = ok2 (opSem or tm op H) k
def fDef (op : AOp) : FOp := fun or tm H k => ok2 (aOp tm.flatten op H) k
theorem fDef_ok {op : AOp} (h : ∀ f args, op ≠ .call f args) : FOk (fDef op) op := fun or tm H k => by
  unfold fDef opSem
  rw [toFT_flat]
  cases op <;> first | rfl | exact absurd rfl (h _ _)
noncomputable def fMove (x : AOpd) : FOp := fun or tm H k => k (fEv tm x) H
theorem fMove_ok (x : AOpd) : FOk (fMove x) (.move x) := fun or tm H k => by simp [fMove, opSem, aOp, ok2, fEv_eq]
noncomputable def evs (tm : FT) (xs : List AOpd) : List AVal := List.rec (motive := fun _ => List AVal) [] (fun x _ ih => fEv tm x :: ih) xs
theorem evs_eq (tm : List AVal) : ∀ (xs : List AOpd), evs (toFT tm) xs = xs.map (ev tm)
  | [] => rfl
  | x :: xs => by
    show fEv (toFT tm) x :: evs (toFT tm) xs = _
    rw [evs_eq tm xs, fEv_eq]; rfl
noncomputable def fCall (f : AOpd) (args : List AOpd) : FOp := fun or tm H k => ok2 (or (fEv tm f) (evs tm args) H) k
theorem fCall_ok (f : AOpd) (args : List AOpd) : FOk (fCall f args) (.call f args) := fun or tm H k => by simp only [fCall, opSem, fEv_eq, evs_eq]
noncomputable def fBox (x : AOpd) : FOp := fun or tm H k => fPushK H (.row [some (0, (fEv tm x).cells)]) fun H' => k (.ptr H.next 0 0) H'
theorem fBox_ok (x : AOpd) : FOk (fBox x) (.box x) := fun or tm H k => by simp only [fBox, fPushK_eq, opSem, aOp, ok2, fEv_eq]
noncomputable def fAlloc (z : List AVal) : FOp := fun or tm H k => fPushK H (.row [some (0, z)]) fun H' => k (.ptr H.next 0 0) H'
theorem fAlloc_ok (z : List AVal) : FOk (fAlloc z) (.alloc z) := fun or tm H k => by simp only [fAlloc, fPushK_eq, opSem, aOp, ok2]
noncomputable def fRow (H : AHeap) (A ver : Nat) : Option (List AVal) :=
  match fTr H.tr A with
  | some (.row vs) => match lnth vs ver with | some (some (_, l)) => some l | _ => none
  | some (.ro l) => Nat.rec (motive := fun _ => Option (List AVal)) (some l) (fun _ _ => none) ver
  | _ => none
theorem fRow_eq (H : AHeap) (A ver : Nat) : fRow H A ver = H.rowAt A ver := by
  unfold fRow AHeap.rowAt AHeap.get
  rw [fTr_eq]
  cases H.tr.get A with
  | none => rfl
  | some o => cases o with
    | row vs => simp only [lnth_eq]; cases vs[ver]? with
      | none => rfl
      | some x => cases x <;> rfl
    | ro l => cases ver <;> rfl
    | _ => rfl
noncomputable def fLoadA (n : Nat) (x : AOpd) : FOp := fun or tm H k =>
  match fEv tm x with
  | .ptr A ver off => match fRow H A ver with
    | some cells => ldropK off cells fun l => ltakeK n l fun l' => k (.agg l') H
    | none => none
  | _ => none
theorem fLoadA_ok (n : Nat) (x : AOpd) : FOk (fLoadA n x) (.load true n x) := fun or tm H k => by
  unfold fLoadA
  rw [fEv_eq]
  simp only [opSem, aOp]
  generalize ev tm x = u
  cases u with
  | ptr A ver off =>
    simp only [fRow_eq]
    cases hr : H.rowAt A ver with
    | none => simp [ok2]
    | some cells =>
      simp only [ldropK_eq, ltakeK_eq, Option.bind_some]
      by_cases h : off + n ≤ cells.length
      · rw [if_pos (by omega), if_pos (by simp; omega), if_pos h]
        simp [aPart, ok2]
      · rw [if_neg h]
        simp only [Option.map_none, ok2]
        split
        · rw [if_neg (by simp; omega)]
        · rfl
  | _ => rfl
noncomputable def fLoad1 (x : AOpd) : FOp := fun or tm H k =>
  match fEv tm x with
  | .ptr A ver off => match fRow H A ver with
    | some cells => match lnth cells off with
      | some v => k v H
      | none => none
    | none => none
  | _ => none
theorem fLoad1_ok (x : AOpd) : FOk (fLoad1 x) (.load false 1 x) := fun or tm H k => by
  unfold fLoad1
  rw [fEv_eq]
  simp only [opSem, aOp]
  generalize ev tm x = u
  cases u with
  | ptr A ver off =>
    simp only [fRow_eq]
    cases hr : H.rowAt A ver with
    | none => simp [ok2]
    | some cells =>
      simp only [lnth_eq, Option.bind_some]
      cases hc : cells[off]? with
      | none =>
        have := List.getElem?_eq_none_iff.1 hc
        rw [if_neg (by omega)]; simp [ok2]
      | some v =>
        have := (List.getElem?_eq_some_iff.1 hc).1
        rw [if_pos (by omega)]; simp [aPart, hc, ok2]
  | _ => rfl
noncomputable def uWrite' (H : AHeap) (A ver off : Nat) (vals : List AVal) : Option (Nat × AObj) :=
  match fTr H.tr A with
  | some (.row vs) =>
    match lnth vs ver with
    | some (some (rel, l)) =>
      if Nat.ble 1 (llenG vals) && Nat.ble (Nat.add off (llenG vals)) (llenG l) && lallOne vals then
        some (A, .row ((killAt (rel + off) (llenG vals) vs).set ver (some (rel, lspl l off vals))))
      else none
    | _ => none
  | _ => none
theorem uWrite'_eq (H : AHeap) (A ver off : Nat) (vals : List AVal) : H.write A ver off vals = (uWrite' H A ver off vals).map fun (B, o) => H.set B o := by
  unfold AHeap.write uWrite' AHeap.get
  rw [fTr_eq]
  cases H.tr.get A with
  | none => rfl
  | some o => cases o with
    | row vs =>
      simp only [lnth_eq]
      cases vs[ver]? with
      | none => rfl
      | some x => cases x with
        | none => rfl
        | some p =>
          obtain ⟨rel, l⟩ := p
          simp only [llenG_eq, lspl_eq, lallOne_eq]
          have e : (Nat.ble 1 vals.length && Nat.ble (Nat.add off vals.length) l.length && vals.all AVal.one) = (decide (0 < vals.length) && decide (off + vals.length ≤ l.length) && vals.all AVal.one) := by
            have e1 : Nat.ble 1 vals.length = decide (0 < vals.length) := by rw [Bool.eq_iff_iff]; simp; omega
            have e2 : Nat.ble (Nat.add off vals.length) l.length = decide (off + vals.length ≤ l.length) := by rw [Bool.eq_iff_iff]; simp
            rw [e1, e2]
          rw [e]
          split <;> rfl
    | _ => rfl
noncomputable def fWriteK (H : AHeap) (A ver off : Nat) (vals : List AVal) (k : AHeap → Res) : Res :=
  match fTr H.tr A with
  | some (.row [some (rel, l)]) => Nat.rec (motive := fun _ => Res) (List.rec (motive := fun _ => Res) none (fun _ _ _ => lsplK vals off l fun l' => fPutK H A (.row [some (rel, l')]) k) vals) (fun _ _ => none) ver
  | _ => match uWrite' H A ver off vals with
    | some (B, o) => fPutK H B o k
    | none => none
theorem fWriteK_eq (H : AHeap) (A ver off : Nat) (vals : List AVal) (k : AHeap → Res) : fWriteK H A ver off vals k = match H.write A ver off vals with | some H' => k H' | none => none := by
  unfold fWriteK
  rw [fTr_eq]
  split
  · rename_i rel l hg
    have hg' : H.get A = some (.row [some (rel, l)]) := hg
    unfold AHeap.write
    rw [hg']
    cases ver with
    | succ v => simp
    | zero =>
      simp only [List.getElem?_cons_zero]
      cases vals with
      | nil => show none = _; simp
      | cons v vs =>
        simp only [fPutK_eq]
        change lsplK (v :: vs) off l _ = _
        rw [lsplK_eq _ (by simp)]
        by_cases h : ((v :: vs).all AVal.one && decide (off + (v :: vs).length ≤ l.length)) = true
        · rw [if_pos h]
          simp only [Bool.and_eq_true, decide_eq_true_eq] at h
          have : (0 < (v :: vs).length && decide (off + (v :: vs).length ≤ l.length) && (v :: vs).all AVal.one) = true := by
            simp only [Bool.and_eq_true, decide_eq_true_eq]; exact ⟨⟨by simp, h.2⟩, h.1⟩
          rw [if_pos this]
          have hk : ∀ (z : Option (Nat × List AVal)), (killAt (rel + off) (v :: vs).length [some (rel, l)]).set 0 z = [z] := fun z => by
            simp only [killAt]
            split <;> rfl
          simp only [hk]
        · rw [if_neg h]
          have : ¬ (decide (0 < (v :: vs).length) && decide (off + (v :: vs).length ≤ l.length) && (v :: vs).all AVal.one) = true := fun hh => by
            simp only [Bool.and_eq_true] at h hh
            exact h ⟨hh.2, hh.1.2⟩
          rw [if_neg this]
  · rw [uWrite'_eq]
    cases uWrite' H A ver off vals with
    | none => rfl
    | some p => obtain ⟨B, o⟩ := p; simp only [fPutK_eq, Option.map_some]
noncomputable def fStore (n : Nat) (a x : AOpd) : FOp := fun or tm H k =>
  match fEv tm a with
  | .ptr A ver off => Bool.rec (motive := fun _ => Res) none (fWriteK H A ver off (fEv tm x).cells fun H' => k aundef H') (Nat.beq (llenG (fEv tm x).cells) n)
  | _ => none
theorem fStore_ok (n : Nat) (a x : AOpd) : FOk (fStore n a x) (.store n a x) := fun or tm H k => by
  unfold fStore
  rw [fEv_eq, fEv_eq]
  simp only [opSem, aOp]
  generalize ev tm a = u
  cases u with
  | ptr A ver off =>
    simp only [fWriteK_eq, llenG_eq]
    have e : Nat.beq (ev tm x).cells.length n = decide ((ev tm x).cells.length = n) := by
      rw [Bool.eq_iff_iff]; simp
    rw [e]
    by_cases h : (ev tm x).cells.length = n
    · simp only [h, decide_true, if_true]
      cases H.write A ver off (ev tm x).cells <;> simp [ok2]
    · simp [h, ok2]
  | _ => rfl
noncomputable def fPtrAdd (o : Nat) (x : AOpd) : FOp := fun or tm H k =>
  match fEv tm x with
  | .ptr A v off => nK (Nat.add off o) fun m => k (.ptr A v m) H
  | _ => none
theorem fPtrAdd_ok (o : Nat) (x : AOpd) : FOk (fPtrAdd o x) (.ptrAdd o x) := fun or tm H k => by
  unfold fPtrAdd
  rw [fEv_eq]
  simp only [opSem, aOp, nK_eq]
  cases ev tm x <;> rfl
noncomputable def iK {R : Type} (n : Int) (k : Int → R) : R := Int.rec (motive := fun _ => R) (fun a => nK a fun b => k (.ofNat b)) (fun a => nK a fun b => k (.negSucc b)) n
theorem iK_eq {R : Type} (n : Int) (k : Int → R) : iK n k = k n := by cases n <;> simp [iK, nK_eq]
noncomputable def fArith (op : BinOp) (kd : IntKind) (a b : Nat) (k : AVal → Res) (slow : Res) : Res :=
  match op with
  | .add => nK (Nat.add a b) fun c => Bool.rec (motive := fun _ => Res) slow (k (.raw (.int kd (.ofNat c)))) (Nat.ble c 127)
  | .sub => Bool.rec (motive := fun _ => Res) slow (Bool.rec (motive := fun _ => Res) slow (nK (Nat.sub a b) fun c => k (.raw (.int kd (.ofNat c)))) (Nat.ble a 127)) (Nat.ble b a)
  | .lss => k (.raw (.bool (Nat.ble (Nat.add a 1) b)))
  | .leq => k (.raw (.bool (Nat.ble a b)))
  | .gtr => k (.raw (.bool (Nat.ble (Nat.add b 1) a)))
  | .geq => k (.raw (.bool (Nat.ble b a)))
  | .eql => k (.raw (.bool (Nat.beq a b)))
  | .neq => k (.raw (.bool (not (Nat.beq a b))))
  | _ => slow
theorem wrapF_small (kd : IntKind) (c : Nat) (h : c ≤ 127) : wrapF kd (c : Int) = c := by
  cases kd <;> simp only [wrapF, ile_eq] <;> first | omega | (simp only [decide_eq_true_eq]; rw [if_neg (by omega)]; omega)
theorem fArith_eq (op : BinOp) (kd : IntKind) (a b : Nat) (k : AVal → Res) (slow : Res) (hs : slow = match aArith op kd a b with | some v => k v | none => none) : fArith op kd a b k slow = slow := by
  have hle : ∀ x y : Nat, Nat.ble x y = decide (x ≤ y) := fun x y => by rw [Bool.eq_iff_iff]; simp
  have hbe : ∀ x y : Nat, Nat.beq x y = decide (x = y) := fun x y => by rw [Bool.eq_iff_iff]; simp
  cases op <;> simp only [fArith, nK_eq] <;> try rfl
  case add =>
    cases h : Nat.ble (Nat.add a b) 127 with
    | false => rfl
    | true =>
      have h' : a + b ≤ 127 := Nat.le_of_ble_eq_true h
      rw [hs]
      simp only [aArith]
      have := wrapF_small kd (a + b) h'
      rw [show (((a + b : Nat) : Int)) = (a : Int) + b by omega] at this
      rw [this]; rfl
  case sub =>
    cases h : Nat.ble b a with
    | false => rfl
    | true =>
      cases h2 : Nat.ble a 127 with
      | false => rfl
      | true =>
        have h' : b ≤ a := Nat.le_of_ble_eq_true h
        have h2' : a ≤ 127 := Nat.le_of_ble_eq_true h2
        rw [hs]
        simp only [aArith]
        have := wrapF_small kd (a - b) (by omega)
        rw [show ((a - b : Nat) : Int) = (a : Int) - b by omega] at this
        rw [this]
        show k (.raw (.int kd ((a - b : Nat) : Int))) = _
        rw [show ((a - b : Nat) : Int) = (a : Int) - b by omega]
  case lss => rw [hs]; simp only [aArith]; congr 3; rw [hle, ilt_eq]; rw [Bool.eq_iff_iff]; simp; omega
  case leq => rw [hs]; simp only [aArith]; congr 3
  case gtr => rw [hs]; simp only [aArith]; congr 3; rw [hle, ilt_eq]; rw [Bool.eq_iff_iff]; simp; omega
  case geq => rw [hs]; simp only [aArith]; congr 3
  case eql => rw [hs]; simp only [aArith]; congr 3
  case neq => rw [hs]; simp only [aArith]; congr 3
def kindEq : IntKind → IntKind → Bool
  | .i64, .i64 | .u64, .u64 | .u8, .u8 | .i32, .i32 | .u32, .u32 | .u16, .u16 | .i16, .i16 | .i8, .i8 => true
  | _, _ => false
theorem kindEq_ok {a b : IntKind} (h : kindEq a b = true) : a = b := by cases a <;> cases b <;> simp_all [kindEq]
noncomputable def fBinS (op : BinOp) (x y : AOpd) (tm : FT) (H : AHeap) (k : AVal → AHeap → Res) : Res :=
  match aBin op (fEv tm x) (fEv tm y) with
  | some v => k v H
  | none => none
theorem fBinS_eq (op : BinOp) (x y : AOpd) (tm : List AVal) (H : AHeap) (k : AVal → AHeap → Res) : fBinS op x y (toFT tm) H k = ok2 (aOp tm (.bin op x y) H) k := by
  unfold fBinS
  rw [fEv_eq, fEv_eq]
  simp only [aOp]
  cases aBin op (ev tm x) (ev tm y) <;> rfl
noncomputable def fBin (op : BinOp) (x y : AOpd) : FOp := fun or tm H k =>
  match fEv tm x, fEv tm y with
  | .raw (.int ka (.ofNat a)), .raw (.int kb (.ofNat b)) => Bool.rec (motive := fun _ => Res) (fBinS op x y tm H k) (fArith op ka a b (fun v => k v H) (fBinS op x y tm H k)) (kindEq ka kb)
  | _, _ => fBinS op x y tm H k
theorem fBin_ok (op : BinOp) (x y : AOpd) : FOk (fBin op x y) (.bin op x y) := fun or tm H k => by
  unfold fBin
  rw [fEv_eq, fEv_eq, fBinS_eq]
  split
  · rename_i ka a kb b hx hy
    cases hk : kindEq ka kb with
    | false => rfl
    | true =>
      have := kindEq_ok hk
      subst this
      by_cases hsh : op = .shl ∨ op = .shr
      · rcases hsh with rfl | rfl <;> rfl
      · refine (fArith_eq op ka a b (fun v => k v H) _ ?_).trans rfl
        simp only [aOp, hx, hy, aBin, if_neg hsh, if_true]
        show ok2 (Option.map (fun v => (v, H)) (aArith op ka (a : Int) (b : Int))) k = _
        cases aArith op ka (a : Int) (b : Int) <;> rfl
  · rfl
noncomputable def fExtract (i : Nat) (x : AOpd) : FOp := fun or tm H k =>
  match fEv tm x with
  | .tuple vs => match lnth vs i with
    | some v => k v H
    | none => none
  | _ => none
theorem fExtract_ok (i : Nat) (x : AOpd) : FOk (fExtract i x) (.extract i x) := fun or tm H k => by
  unfold fExtract
  rw [fEv_eq]
  simp only [opSem, aOp]
  generalize ev tm x = u
  cases u with
  | tuple vs => simp only [lnth_eq]; cases vs[i]? <;> simp [ok2]
  | _ => rfl
noncomputable def fField (agg : Bool) (off n : Nat) (x : AOpd) : FOp := fun or tm H k =>
  match fEv tm x with
  | .agg cs => Bool.rec (motive := fun _ => Res) (match lnth cs off with | some v => k v H | none => none) (k (.agg (ltk n (ldp off cs))) H) agg
  | _ => none
theorem fField_ok (agg : Bool) (off n : Nat) (x : AOpd) : FOk (fField agg off n x) (.field agg off n x) := fun or tm H k => by
  unfold fField
  rw [fEv_eq]
  simp only [opSem, aOp]
  generalize ev tm x = u
  cases u with
  | agg cs =>
    cases agg with
    | false => simp only [lnth_eq, aPart, Bool.false_eq_true, if_false]; cases cs[off]? <;> simp [ok2]
    | true => simp [aPart, ok2, ltk_eq, ldp_eq]
  | _ => rfl
noncomputable def fIdxS (esz : Nat) (x i : AOpd) : FOp := fun or tm H k =>
  match fEv tm x, fEv tm i with
  | .slice A v o len _ _ _, .raw (.int _ (.ofNat i)) => Bool.rec (motive := fun _ => Res) none (nK (Nat.add o (Nat.mul i esz)) fun m => k (.ptr A v m) H) (Nat.ble (Nat.add i 1) len)
  | _, _ => none
theorem fIdxS_ok (esz : Nat) (x i : AOpd) : FOk (fIdxS esz x i) (.idxAddrS esz x i) := fun or tm H k => by
  have hle : ∀ x y : Nat, Nat.ble x y = decide (x ≤ y) := fun x y => by rw [Bool.eq_iff_iff]; simp
  unfold fIdxS
  rw [fEv_eq, fEv_eq]
  simp only [opSem, aOp, nK_eq]
  cases ev tm x with
  | slice A v o len kc ex ez =>
    cases ev tm i with
    | raw c =>
      cases c with
      | int kd n =>
        cases n with
        | ofNat n =>
          simp only [hle]
          by_cases h : n + 1 ≤ len
          · have h1 : (ile 0 (Int.ofNat n) && ilt (Int.ofNat n) (len : Int)) = true := by
              rw [ile_eq, ilt_eq]; simp; omega
            rw [h1]
            simp only [if_true]
            have : decide (Nat.add n 1 ≤ len) = true := by simpa using h
            rw [this]; rfl
          · have h1 : (ile 0 (Int.ofNat n) && ilt (Int.ofNat n) (len : Int)) = false := by
              rw [ile_eq, ilt_eq]; simp; omega
            rw [h1]
            have : decide (Nat.add n 1 ≤ len) = false := by simpa using h
            rw [this]; rfl
        | negSucc n =>
          have h1 : ile 0 (Int.negSucc n) = false := rfl
          simp [h1, ok2]
      | _ => rfl
    | _ => rfl
  | _ => simp only [ok2]
inductive Upd where
  | same
  | put (A : Nat) (o : AObj)
  | push (o : AObj)
def Upd.app (u : Upd) (H : AHeap) : AHeap :=
  match u with
  | .same => H
  | .put A o => H.set A o
  | .push o => H.push o
noncomputable def updK {R : Type} (u : Upd) (H : AHeap) (k : AHeap → R) : R :=
  match u with
  | .same => k H
  | .put A o => fPutK H A o k
  | .push o => fPushK H o k
theorem updK_eq {R : Type} (u : Upd) (H : AHeap) (k : AHeap → R) : updK u H k = k (u.app H) := by
  cases u with
  | same => rfl
  | put A o => exact fPutK_eq ..
  | push o => exact fPushK_eq ..
noncomputable def okU (x : Option (AVal × Upd)) (H : AHeap) (k : AVal → AHeap → Res) : Res :=
  match x with
  | some (v, u) => updK u H fun H' => k v H'
  | none => none
theorem okU_eq {x : Option (AVal × Upd)} {H : AHeap} {y : Option (AVal × AHeap)} (h : y = x.map fun (v, u) => (v, u.app H)) (k : AVal → AHeap → Res) : okU x H k = ok2 y k := by
  subst h
  cases x with
  | none => rfl
  | some p => obtain ⟨v, u⟩ := p; simp only [okU, updK_eq, Option.map_some, ok2]
def uWrite (H : AHeap) (A ver off : Nat) (vals : List AVal) : Option Upd :=
  match H.get A with
  | some (.row vs) =>
    match vs[ver]? with
    | some (some (rel, l)) =>
      if 0 < vals.length && off + vals.length ≤ l.length && vals.all AVal.one then
        some (.put A (.row ((killAt (rel + off) vals.length vs).set ver (some (rel, spl l off vals)))))
      else none
    | _ => none
  | _ => none
theorem uWrite_eq (H : AHeap) (A ver off : Nat) (vals : List AVal) : H.write A ver off vals = (uWrite H A ver off vals).map fun u => u.app H := by
  unfold AHeap.write uWrite
  cases H.get A with
  | none => rfl
  | some o => cases o with
    | row vs =>
      simp only
      cases vs[ver]? with
      | none => rfl
      | some x => cases x with
        | none => rfl
        | some p => obtain ⟨rel, l⟩ := p; simp only; split <;> rfl
    | _ => rfl
def uAppend (H : AHeap) (esz bytes : Nat) (s x : AVal) : Option (AVal × Upd) :=
  (aLen x).bind fun m => (aCells H esz x).bind fun news =>
  if m = 0 then (match s with | .raw (.slice none 0 0) => some (s, .same) | .slice .. => some (s, .same) | _ => none)
  else if 0 < esz && 0 < bytes && news.all AVal.one then
  match s with
  | .raw (.slice none 0 0) => if m * bytes ≤ 140737488355328 then some (.slice H.next 0 0 m m false esz, .push (.row [some (0, news)])) else none
  | .slice A ver off len kcap ex esz' =>
    if esz' = esz then
      if len + m ≤ kcap then (uWrite H A ver (off + len * esz) news).map fun u => (.slice A ver off (len + m) kcap ex esz, u)
      else if (len + m) * bytes ≤ 140737488355328 then
        (H.rowAt A ver).bind fun cells =>
        if off + len * esz ≤ cells.length then
          let all := (cells.drop off).take (len * esz) ++ news
          if ex then some (.slice H.next 0 0 (len + m) (len + m) false esz, .push (.row [some (0, all)]))
          else match H.get A with
            | some (.row vs) => match vs[ver]? with
              | some (some (rel, _)) => some (.slice A vs.length 0 (len + m) (len + m) false esz, .put A (.row (newVer vs (rel + off + len * esz) news.length (rel + off) all)))
              | _ => none
            | _ => none
        else none
      else none
    else none
  | _ => none
  else none
theorem uAppend_eq (H : AHeap) (esz bytes : Nat) (s x : AVal) : aAppend H esz bytes s x = (uAppend H esz bytes s x).map fun (v, u) => (v, u.app H) := by
  unfold aAppend uAppend
  cases aLen x with
  | none => rfl
  | some m =>
    simp only [Option.bind_some]
    cases aCells H esz x with
    | none => rfl
    | some news =>
      simp only [Option.bind_some]
      by_cases h0 : m = 0
      · simp only [if_pos h0]
        cases s with
        | raw v => cases v with
          | slice a l c => cases a with
            | none => cases l <;> cases c <;> rfl
            | some _ => rfl
          | _ => rfl
        | _ => rfl
      · simp only [if_neg h0]
        by_cases h1 : (decide (0 < esz) && decide (0 < bytes) && news.all AVal.one) = true
        · simp only [if_pos h1]
          cases s with
          | raw v => cases v with
            | slice a l c => cases a with
              | none => cases l <;> cases c <;> first | rfl | (by_cases hb : m * bytes ≤ 140737488355328 <;> simp only [if_pos, if_neg, hb, not_false_eq_true] <;> rfl)
              | some _ => rfl
            | _ => rfl
          | slice A ver off len kcap ex esz' =>
            dsimp only
            by_cases h2 : esz' = esz
            · simp only [if_pos h2]
              by_cases h3 : len + m ≤ kcap
              · simp only [if_pos h3, uWrite_eq]
                cases uWrite H A ver (off + len * esz) news <;> rfl
              · simp only [if_neg h3]
                by_cases h4 : (len + m) * bytes ≤ 140737488355328
                · simp only [if_pos h4]
                  cases H.rowAt A ver with
                  | none => rfl
                  | some cells =>
                    simp only [Option.bind_some]
                    by_cases h5 : off + len * esz ≤ cells.length
                    · simp only [if_pos h5]
                      cases ex with
                      | true => rfl
                      | false =>
                        simp only [Bool.false_eq_true, if_false]
                        cases H.get A with
                        | none => rfl
                        | some o => cases o with
                          | row vs =>
                            dsimp only
                            cases vs[ver]? with
                            | none => rfl
                            | some x => cases x <;> rfl
                          | _ => rfl
                    · simp only [if_neg h5]; rfl
                · simp only [if_neg h4]; rfl
            · simp only [if_neg h2]; rfl
          | _ => rfl
        · simp only [if_neg h1]; rfl
noncomputable def fCells (H : AHeap) (esz : Nat) : AVal → Option (List AVal)
  | .raw (.slice none 0 0) => some []
  | .slice A ver off len _ _ _ => (fRow H A ver).bind fun cells => Bool.rec (motive := fun _ => Option (List AVal)) none (some (ltk (Nat.mul len esz) (ldp off cells))) (Nat.ble (Nat.add off (Nat.mul len esz)) (llenG cells))
  | _ => none
theorem bleRec {R : Type} (a b : Nat) (x y : R) : Bool.rec (motive := fun _ => R) y x (Nat.ble a b) = if a ≤ b then x else y := by
  by_cases h : a ≤ b
  · rw [if_pos h, Nat.ble_eq_true_of_le h]
  · rw [if_neg h]
    have : Nat.ble a b = false := by
      cases hb : Nat.ble a b with
      | false => rfl
      | true => exact absurd (Nat.le_of_ble_eq_true hb) h
    rw [this]
theorem fCells_eq (H : AHeap) (esz : Nat) (x : AVal) : fCells H esz x = aCells H esz x := by
  unfold fCells aCells
  cases x with
  | raw v => cases v with
    | slice a l c => cases a with
      | none => cases l <;> cases c <;> rfl
      | some _ => rfl
    | _ => rfl
  | slice A ver off len kc ex ez =>
    simp only [fRow_eq, bleRec, ltk_eq, ldp_eq, llenG_eq]
    rfl
  | _ => rfl
noncomputable def vAppend (H : AHeap) (esz bytes : Nat) (s x : AVal) : Option (AVal × Upd) :=
  (aLen x).bind fun m => (fCells H esz x).bind fun news =>
  if m = 0 then (match s with | .raw (.slice none 0 0) => some (s, .same) | .slice .. => some (s, .same) | _ => none)
  else if 0 < esz && 0 < bytes && lallOne news then
  match s with
  | .raw (.slice none 0 0) => if m * bytes ≤ 140737488355328 then some (.slice H.next 0 0 m m false esz, .push (.row [some (0, news)])) else none
  | .slice A ver off len kcap ex esz' =>
    if esz' = esz then
      if len + m ≤ kcap then (uWrite' H A ver (off + len * esz) news).map fun p => (.slice A ver off (len + m) kcap ex esz, .put p.1 p.2)
      else if (len + m) * bytes ≤ 140737488355328 then
        (fRow H A ver).bind fun cells =>
        if off + len * esz ≤ llenG cells then
          let all := lapp (ltk (len * esz) (ldp off cells)) news
          if ex then some (.slice H.next 0 0 (len + m) (len + m) false esz, .push (.row [some (0, all)]))
          else match fTr H.tr A with
            | some (.row vs) => match lnth vs ver with
              | some (some (rel, _)) => some (.slice A (llenG vs) 0 (len + m) (len + m) false esz, .put A (.row (lapp (killAt (rel + off + len * esz) (llenG news) vs) [some (rel + off, all)])))
              | _ => none
            | _ => none
        else none
      else none
    else none
  | _ => none
  else none
theorem uWrite_twin (H : AHeap) (A ver off : Nat) (vals : List AVal) : ((uWrite' H A ver off vals).map fun p => Upd.put p.1 p.2) = uWrite H A ver off vals := by
  unfold uWrite' uWrite AHeap.get
  rw [fTr_eq]
  cases H.tr.get A with
  | none => rfl
  | some o => cases o with
    | row vs =>
      simp only [lnth_eq]
      cases vs[ver]? with
      | none => rfl
      | some x => cases x with
        | none => rfl
        | some p =>
          obtain ⟨rel, l⟩ := p
          simp only [llenG_eq, lspl_eq, lallOne_eq]
          have e : (Nat.ble 1 vals.length && Nat.ble (Nat.add off vals.length) l.length && vals.all AVal.one) = (decide (0 < vals.length) && decide (off + vals.length ≤ l.length) && vals.all AVal.one) := by
            have e1 : Nat.ble 1 vals.length = decide (0 < vals.length) := by rw [Bool.eq_iff_iff]; simp; omega
            have e2 : Nat.ble (Nat.add off vals.length) l.length = decide (off + vals.length ≤ l.length) := by rw [Bool.eq_iff_iff]; simp
            rw [e1, e2]
          rw [e]
          split <;> rfl
    | _ => rfl
theorem vAppend_eq (H : AHeap) (esz bytes : Nat) (s x : AVal) : vAppend H esz bytes s x = uAppend H esz bytes s x := by
  unfold vAppend uAppend
  have hw : ∀ A ver off vals (v : AVal), ((uWrite' H A ver off vals).map fun p => (v, Upd.put p.1 p.2)) = (uWrite H A ver off vals).map fun u => (v, u) := fun A ver off vals v => by
    rw [← uWrite_twin, Option.map_map]; rfl
  have hg : ∀ A, fTr H.tr A = H.get A := fun A => fTr_eq _ _
  simp only [fCells_eq, lallOne_eq, hw, fRow_eq, llenG_eq, lapp_eq, ltk_eq, ldp_eq, hg, lnth_eq, newVer]
noncomputable def fAppend (e b : Nat) (s x : AOpd) : FOp := fun or tm H k => okU (vAppend H e b (fEv tm s) (fEv tm x)) H k
theorem fAppend_ok (e b : Nat) (s x : AOpd) : FOk (fAppend e b s x) (.append e b s x) := fun or tm H k => by
  unfold fAppend
  rw [fEv_eq, fEv_eq, vAppend_eq]
  exact okU_eq (uAppend_eq ..) k
def uCopy (H : AHeap) (esz : Nat) (d s : AVal) : Option (AVal × Upd) :=
  (aLen d).bind fun dl => (aLen s).bind fun sl => (aCells H esz s).bind fun cells =>
  let n := min sl dl
  if n * esz = 0 then some (aint n, .same) else
  match d with
  | .slice A ver off _ _ _ _ => (uWrite H A ver off (cells.take (n * esz))).map fun u => (aint n, u)
  | _ => none
theorem uCopy_eq (H : AHeap) (esz : Nat) (d s : AVal) : aCopy H esz d s = (uCopy H esz d s).map fun (v, u) => (v, u.app H) := by
  unfold aCopy uCopy
  cases aLen d with
  | none => rfl
  | some dl =>
    cases aLen s with
    | none => rfl
    | some sl =>
      cases aCells H esz s with
      | none => rfl
      | some cells =>
        simp only [Option.bind_some]
        by_cases h : min sl dl * esz = 0
        · simp only [if_pos h]; rfl
        · simp only [if_neg h]
          cases d with
          | slice A ver off a b c e =>
            dsimp only
            rw [uWrite_eq]
            cases uWrite H A ver off (cells.take (min sl dl * esz)) <;> rfl
          | _ => rfl
noncomputable def vCopy (H : AHeap) (esz : Nat) (d s : AVal) : Option (AVal × Upd) :=
  (aLen d).bind fun dl => (aLen s).bind fun sl => (fCells H esz s).bind fun cells =>
  let n := min sl dl
  if n * esz = 0 then some (aint n, .same) else
  match d with
  | .slice A ver off _ _ _ _ => (uWrite' H A ver off (ltk (n * esz) cells)).map fun p => (aint n, .put p.1 p.2)
  | _ => none
theorem vCopy_eq (H : AHeap) (esz : Nat) (d s : AVal) : vCopy H esz d s = uCopy H esz d s := by
  unfold vCopy uCopy
  have hw : ∀ A ver off vals (v : AVal), ((uWrite' H A ver off vals).map fun p => (v, Upd.put p.1 p.2)) = (uWrite H A ver off vals).map fun u => (v, u) := fun A ver off vals v => by
    rw [← uWrite_twin, Option.map_map]; rfl
  simp only [fCells_eq, hw, ltk_eq]
noncomputable def fCopy (e : Nat) (d s : AOpd) : FOp := fun or tm H k => okU (vCopy H e (fEv tm d) (fEv tm s)) H k
theorem fCopy_ok (e : Nat) (d s : AOpd) : FOk (fCopy e d s) (.copy e d s) := fun or tm H k => by
  unfold fCopy
  rw [fEv_eq, fEv_eq, vCopy_eq]
  exact okU_eq (uCopy_eq ..) k
noncomputable def fBuildSlice (len esz : Nat) (zero : List AVal) (parts : List (Nat × Nat × AOpd)) : FOp := fun or tm H k =>
  okU ((fFill (parts.map fun (o, n, x) => (o, n, fEv tm x)) (lrepl len zero)).map fun cells => (.slice H.next 0 0 len len true esz, .push (.row [some (0, cells)]))) H k
theorem fBuildSlice_ok (len esz : Nat) (zero : List AVal) (parts : List (Nat × Nat × AOpd)) : FOk (fBuildSlice len esz zero parts) (.buildSlice len esz zero parts) := fun or tm H k => by
  unfold fBuildSlice
  refine okU_eq ?_ k
  simp only [opSem, aOp, Option.map_map, fEv_eq, fFill_eq, lrepl_eq]
  rfl
noncomputable def fMakeSlice (esz bytes : Nat) (zero : List AVal) (l c : AOpd) : FOp := fun or tm H k =>
  match fEv tm l, fEv tm c with
  | .raw (.int .i64 l), .raw (.int .i64 c) =>
    if ile 0 l && ile l c && ile (bytes * c) 281474976710656 && ile c 281474976710656 then fPushK H (.row [some (0, lrepl c.toNat zero)]) fun H' => k (.slice H.next 0 0 l.toNat c.toNat true esz) H' else none
  | _, _ => none
theorem fMakeSlice_ok (esz bytes : Nat) (zero : List AVal) (l c : AOpd) : FOk (fMakeSlice esz bytes zero l c) (.makeSlice esz bytes zero l c) := fun or tm H k => by
  unfold fMakeSlice
  rw [fEv_eq, fEv_eq]
  simp only [opSem, aOp, fPushK_eq, lrepl_eq]
  generalize ev tm l = u
  generalize ev tm c = v
  cases u with
  | raw a => cases a with
    | int ka na => cases v with
      | raw b => cases b with
        | int kb nb => cases ka <;> cases kb <;> first | rfl | (dsimp only; split <;> rfl)
        | _ => cases ka <;> rfl
      | _ => cases ka <;> rfl
    | _ => rfl
  | _ => rfl
noncomputable def fMakeMap : FOp := fun or tm H k => fPushK H (.map [] 0) fun H' => k (.map H.next) H'
theorem fMakeMap_ok : FOk fMakeMap .makeMap := fun or tm H k => by simp only [fMakeMap, fPushK_eq, opSem, aOp, ok2]
def uMapUpdate (H : AHeap) (m k v : AVal) : Option (AVal × Upd) :=
  match m, k with
  | .map M, .raw (.int kk n) => match H.get M with
    | some (.map es clock) => (aFind kk n es 0).map fun
      | some (i, _, _) => (aundef, .put M (.map (setVal v es i) clock))
      | none => (aundef, .put M (.map (es ++ [(k, v, clock)]) (clock + 1)))
    | _ => none
  | _, _ => none
theorem uMapUpdate_eq (H : AHeap) (m k v : AVal) : ((aMapUpdate H m k v).map fun H' => (aundef, H')) = (uMapUpdate H m k v).map fun (v, u) => (v, u.app H) := by
  unfold aMapUpdate uMapUpdate
  cases m with
  | map M => cases k with
    | raw c => cases c with
      | int kk n =>
        dsimp only
        cases H.get M with
        | none => rfl
        | some o => cases o with
          | map es clock => dsimp only; (cases aFind kk n es 0 with | none => rfl | some r => cases r <;> rfl)
          | _ => rfl
      | _ => rfl
    | _ => rfl
  | raw c => cases c with
    | map r => cases r <;> first | rfl | (cases k <;> rfl)
    | _ => first | rfl | (cases k <;> rfl)
  | _ => first | rfl | (cases k <;> rfl)
noncomputable def fMapUpdate (m k v : AOpd) : FOp := fun or tm H c => okU (uMapUpdate H (fEv tm m) (fEv tm k) (fEv tm v)) H c
theorem fMapUpdate_ok (m k v : AOpd) : FOk (fMapUpdate m k v) (.mapUpdate m k v) := fun or tm H c => by
  unfold fMapUpdate
  rw [fEv_eq, fEv_eq, fEv_eq]
  exact okU_eq (uMapUpdate_eq ..) c
def uMapEntry (H : AHeap) (zero m k : AVal) : Option (AVal × Upd) :=
  match m, k with
  | .map M, .raw (.int kk n) => match H.get M with
    | some (.map es clock) => (aFind kk n es 0).map fun
      | some (_, v, b) => (.tuple [v, aint b], .same)
      | none => (.tuple [zero, aint clock], .put M (.map (es ++ [(k, zero, clock)]) (clock + 1)))
    | _ => none
  | _, _ => none
theorem uMapEntry_eq (H : AHeap) (zero m k : AVal) : aMapEntry H zero m k = (uMapEntry H zero m k).map fun (v, u) => (v, u.app H) := by
  unfold aMapEntry uMapEntry
  cases m with
  | map M => cases k with
    | raw c => cases c with
      | int kk n =>
        dsimp only
        cases H.get M with
        | none => rfl
        | some o => cases o with
          | map es clock => dsimp only; (cases aFind kk n es 0 with | none => rfl | some r => cases r <;> rfl)
          | _ => rfl
      | _ => rfl
    | _ => rfl
  | raw c => cases c with
    | map r => cases r <;> first | rfl | (cases k <;> rfl)
    | _ => first | rfl | (cases k <;> rfl)
  | _ => first | rfl | (cases k <;> rfl)
noncomputable def fMapEntry (z : AVal) (m k : AOpd) : FOp := fun or tm H c => okU (uMapEntry H z (fEv tm m) (fEv tm k)) H c
theorem fMapEntry_ok (z : AVal) (m k : AOpd) : FOk (fMapEntry z m k) (.mapEntry z m k) := fun or tm H c => by
  unfold fMapEntry
  rw [fEv_eq, fEv_eq]
  exact okU_eq (uMapEntry_eq ..) c
def uEntryStore (H : AHeap) (m s v : AVal) : Option (AVal × Upd) :=
  match m, s with
  | .map M, .raw (.int _ n) => match H.get M with
    | some (.map es clock) => (aFindBorn n es 0).map fun i => (aundef, .put M (.map (setVal v es i) clock))
    | _ => none
  | _, _ => none
theorem uEntryStore_eq (H : AHeap) (m s v : AVal) : ((aEntryStore H m s v).map fun H' => (aundef, H')) = (uEntryStore H m s v).map fun (v, u) => (v, u.app H) := by
  unfold aEntryStore uEntryStore
  cases m with
  | map M => cases s with
    | raw c => cases c with
      | int kk n =>
        dsimp only
        cases H.get M with
        | none => rfl
        | some o => cases o with
          | map es clock => dsimp only; cases aFindBorn n es 0 <;> rfl
          | _ => rfl
      | _ => rfl
    | _ => rfl
  | raw c => cases c with
    | map r => cases r <;> first | rfl | (cases s <;> rfl)
    | _ => first | rfl | (cases s <;> rfl)
  | _ => first | rfl | (cases s <;> rfl)
noncomputable def fEntryStore (m s v : AOpd) : FOp := fun or tm H c => okU (uEntryStore H (fEv tm m) (fEv tm s) (fEv tm v)) H c
theorem fEntryStore_ok (m s v : AOpd) : FOk (fEntryStore m s v) (.entryStore m s v) := fun or tm H c => by
  unfold fEntryStore
  rw [fEv_eq, fEv_eq, fEv_eq]
  exact okU_eq (uEntryStore_eq ..) c
def uMapDelete (H : AHeap) (m k : AVal) : Option (AVal × Upd) :=
  match m, k with
  | .raw (.map none), _ => some (aundef, .same)
  | .map M, .raw (.int kk n) => match H.get M with
    | some (.map es clock) => (aFind kk n es 0).map fun
      | some (i, _, _) => (aundef, .put M (.map (es.eraseIdx i) clock))
      | none => (aundef, .same)
    | _ => none
  | _, _ => none
theorem uMapDelete_eq (H : AHeap) (m k : AVal) : ((aMapDelete H m k).map fun H' => (aundef, H')) = (uMapDelete H m k).map fun (v, u) => (v, u.app H) := by
  unfold aMapDelete uMapDelete
  cases m with
  | map M => cases k with
    | raw c => cases c with
      | int kk n =>
        dsimp only
        cases H.get M with
        | none => rfl
        | some o => cases o with
          | map es clock => dsimp only; (cases aFind kk n es 0 with | none => rfl | some r => cases r <;> rfl)
          | _ => rfl
      | _ => rfl
    | _ => rfl
  | raw c => cases c with
    | map r => cases r <;> first | rfl | (cases k <;> rfl)
    | _ => first | rfl | (cases k <;> rfl)
  | _ => first | rfl | (cases k <;> rfl)
noncomputable def fMapDelete (m k : AOpd) : FOp := fun or tm H c => okU (uMapDelete H (fEv tm m) (fEv tm k)) H c
theorem fMapDelete_ok (m k : AOpd) : FOk (fMapDelete m k) (.mapDelete m k) := fun or tm H c => by
  unfold fMapDelete
  rw [fEv_eq, fEv_eq]
  exact okU_eq (uMapDelete_eq ..) c
def uIterNextAt (H : AHeap) (A : Nat) : Option (AVal × Upd) :=
  match H.get A with
  | some (.iter none _ _ _) => some (.tuple [abool false], .same)
  | some (.iter (some M) since seen last) => match H.get M with
    | some (.map es clock) => (aNext es since seen last).map fun
      | none => (.tuple [abool false], .same)
      | some (k, v, b) => (.tuple [abool true, k, v], .put A (.iter (some M) since (seen ++ [b]) clock))
    | _ => none
  | _ => none
theorem uIterNextAt_eq (H : AHeap) (A : Nat) : aIterNextAt H A = (uIterNextAt H A).map fun (v, u) => (v, u.app H) := by
  unfold aIterNextAt uIterNextAt
  cases H.get A with
  | none => rfl
  | some o => cases o with
    | iter M since seen last =>
      cases M with
      | none => rfl
      | some M =>
        dsimp only
        cases H.get M with
        | none => rfl
        | some o => cases o with
          | map es clock => dsimp only; (cases aNext es since seen last with | none => rfl | some r => cases r <;> rfl)
          | _ => rfl
    | _ => rfl
def uIterNext (H : AHeap) (x : AVal) : Option (AVal × Upd) :=
  match x with
  | .ptr A 0 0 => uIterNextAt H A
  | _ => none
theorem uIterNext_eq (H : AHeap) (x : AVal) : aIterNext H x = (uIterNext H x).map fun (v, u) => (v, u.app H) := by
  cases x with
  | ptr A ver off => cases ver with
    | succ _ => rfl
    | zero => cases off with
      | succ _ => rfl
      | zero => exact uIterNextAt_eq H A
  | _ => rfl
noncomputable def fIterNext (x : AOpd) : FOp := fun or tm H c => okU (uIterNext H (fEv tm x)) H c
theorem fIterNext_ok (x : AOpd) : FOk (fIterNext x) (.iterNext x) := fun or tm H c => by
  unfold fIterNext
  rw [fEv_eq]
  exact okU_eq (uIterNext_eq ..) c
def uIterNew (H : AHeap) (x : AVal) : Option (AVal × Upd) :=
  match x with
  | .raw (.map none) => some (.ptr H.next 0 0, .push (.iter none 0 [] 0))
  | .map M => match H.get M with
    | some (.map _ clock) => some (.ptr H.next 0 0, .push (.iter (some M) clock [] clock))
    | _ => none
  | _ => none
theorem uIterNew_eq (H : AHeap) (x : AVal) : aIterNew H x = (uIterNew H x).map fun (v, u) => (v, u.app H) := by
  unfold aIterNew uIterNew
  cases x with
  | raw c => cases c with
    | map r => cases r <;> rfl
    | _ => rfl
  | map M =>
    dsimp only
    cases H.get M with
    | none => rfl
    | some o => cases o <;> rfl
  | _ => rfl
noncomputable def fIterNew (x : AOpd) : FOp := fun or tm H c => okU (uIterNew H (fEv tm x)) H c
theorem fIterNew_ok (x : AOpd) : FOk (fIterNew x) (.iterNew x) := fun or tm H c => by
  unfold fIterNew
  rw [fEv_eq]
  exact okU_eq (uIterNew_eq ..) c
noncomputable def vK {R : Type} (v : AVal) (k : AVal → R) : R :=
  match v with
  | .raw c => match c with
    | .int kd n => iK n fun n' => k (.raw (.int kd n'))
    | .bool b => Bool.rec (motive := fun _ => R) (k (.raw (.bool false))) (k (.raw (.bool true))) b
    | c => k (.raw c)
  | .ptr A ver off => nK A fun A' => nK ver fun ver' => nK off fun off' => k (.ptr A' ver' off')
  | .slice A ver off len kc ex ez => nK A fun A' => nK ver fun ver' => nK off fun off' => nK len fun len' => nK kc fun kc' => k (.slice A' ver' off' len' kc' ex ez)
  | .map M => nK M fun M' => k (.map M')
  | v => k v
theorem vK_eq {R : Type} (v : AVal) (k : AVal → R) : vK v k = k v := by
  cases v with
  | raw c => cases c <;> simp only [vK, iK_eq] <;> (rename_i b; cases b <;> rfl)
  | ptr A ver off => simp only [vK, nK_eq]
  | slice A ver off len kc ex ez => simp only [vK, nK_eq]
  | map M => simp only [vK, nK_eq]
  | _ => rfl
noncomputable def fPick (c a b : AOpd) : FOp := fun or tm H k =>
  match fEv tm c with
  | .raw (.bool t) => Bool.rec (motive := fun _ => Res) (k (fEv tm b) H) (k (fEv tm a) H) t
  | _ => none
theorem fPick_ok (c a b : AOpd) : FOk (fPick c a b) (.pick c a b) := fun or tm H k => by
  unfold fPick
  simp only [fEv_eq, opSem, aOp]
  generalize ev tm c = u
  cases u with
  | raw v => cases v with
    | bool t => cases t <;> rfl
    | _ => rfl
  | _ => rfl
noncomputable def fUn (op : UnOp) (x : AOpd) : FOp := fun or tm H k =>
  match aUn op (fEv tm x) with
  | some v => k v H
  | none => none
theorem fUn_ok (op : UnOp) (x : AOpd) : FOk (fUn op x) (.un op x) := fun or tm H k => by
  unfold fUn
  simp only [fEv_eq, opSem, aOp]
  cases aUn op (ev tm x) <;> rfl
noncomputable def fNilCheck (x : AOpd) : FOp := fun or tm H k =>
  match fEv tm x with
  | .ptr A v o => k (.ptr A v o) H
  | .func fn cs => k (.func fn cs) H
  | .yield L => k (.yield L) H
  | .map M => k (.map M) H
  | _ => none
theorem fNilCheck_ok (x : AOpd) : FOk (fNilCheck x) (.nilCheck x) := fun or tm H k => by
  unfold fNilCheck
  simp only [fEv_eq, opSem, aOp]
  cases ev tm x <;> rfl
noncomputable def fLen (kind : Nat) (x : AOpd) : FOp := fun or tm H k =>
  match kind with
  | 0 => match aLenStr (fEv tm x) with | some v => k v H | none => none
  | 1 => match aLenS (fEv tm x) with | some v => k v H | none => none
  | _ => match aLenM H (fEv tm x) with | some v => k v H | none => none
theorem fLen_ok (kind : Nat) (x : AOpd) : FOk (fLen kind x) (.len kind x) := fun or tm H k => by
  unfold fLen
  simp only [fEv_eq, opSem, aOp]
  match kind with
  | 0 => simp only; cases aLenStr (ev tm x) <;> rfl
  | 1 => simp only; cases aLenS (ev tm x) <;> rfl
  | n + 2 => simp only; cases aLenM H (ev tm x) <;> rfl
noncomputable def fLookup (zero : AVal) (ok : Bool) (x y : AOpd) : FOp := fun or tm H k =>
  match aLookup H zero ok (fEv tm x) (fEv tm y) with
  | some v => k v H
  | none => none
theorem fLookup_ok (zero : AVal) (ok : Bool) (x y : AOpd) : FOk (fLookup zero ok x y) (.lookup zero ok x y) := fun or tm H k => by
  unfold fLookup
  simp only [fEv_eq, opSem, aOp]
  cases aLookup H zero ok (ev tm x) (ev tm y) <;> rfl
noncomputable def fEqP (neg : Bool) (p : EqPlan) (x y : AOpd) : FOp := fun or tm H k =>
  match aEqP p (fEv tm x) (fEv tm y) with
  | some b => k (abool (if neg then !b else b)) H
  | none => none
theorem fEqP_ok (neg : Bool) (p : EqPlan) (x y : AOpd) : FOk (fEqP neg p x y) (.eqP neg p x y) := fun or tm H k => by
  unfold fEqP
  simp only [fEv_eq, opSem, aOp]
  cases aEqP p (ev tm x) (ev tm y) <;> rfl
noncomputable def fConv (kd : IntKind) (x : AOpd) : FOp := fun or tm H k =>
  match fEv tm x with
  | .raw (.int _ n) => k (.raw (.int kd (wrapF kd n))) H
  | _ => none
theorem fConv_ok (kd : IntKind) (x : AOpd) : FOk (fConv kd x) (.conv kd x) := fun or tm H k => by
  unfold fConv
  simp only [fEv_eq, opSem, aOp]
  generalize ev tm x = u
  cases u with
  | raw v => cases v <;> rfl
  | _ => rfl
noncomputable def fBuild (zero : List AVal) (parts : List (Nat × Nat × AOpd)) : FOp := fun or tm H k =>
  match fFill (parts.map fun (o, n, x) => (o, n, fEv tm x)) zero with
  | some cs => k (.agg cs) H
  | none => none
theorem fBuild_ok (zero : List AVal) (parts : List (Nat × Nat × AOpd)) : FOk (fBuild zero parts) (.build zero parts) := fun or tm H k => by
  unfold fBuild
  simp only [fEv_eq, opSem, aOp, fFill_eq]
  cases aFill zero (parts.map fun (o, n, x) => (o, n, ev tm x)) <;> rfl
noncomputable def fMakeFunc (fn : Fn) (caps : List AOpd) : FOp := fun or tm H k => k (.func fn (evs tm caps)) H
theorem fMakeFunc_ok (fn : Fn) (caps : List AOpd) : FOk (fMakeFunc fn caps) (.makeFunc fn caps) := fun or tm H k => by
  unfold fMakeFunc
  simp only [evs_eq, opSem, aOp, ok2]
noncomputable def fSliceS (esz : Nat) (x : AOpd) (lo hi mx : Option AOpd) : FOp := fun or tm H k =>
  match aSliceS esz (fEv tm x) (lo.map (fEv tm)) (hi.map (fEv tm)) (mx.map (fEv tm)) with
  | some v => k v H
  | none => none
theorem fSliceS_ok (esz : Nat) (x : AOpd) (lo hi mx : Option AOpd) : FOk (fSliceS esz x lo hi mx) (.sliceS esz x lo hi mx) := fun or tm H k => by
  unfold fSliceS
  have e : fEv (toFT tm) = ev tm := by funext y; exact fEv_eq tm y
  rw [e]
  simp only [opSem, aOp]
  cases aSliceS esz (ev tm x) (lo.map (ev tm)) (hi.map (ev tm)) (mx.map (ev tm)) <;> rfl
noncomputable def fIdxStr (x i : AOpd) : FOp := fun or tm H k =>
  match fEv tm x, fEv tm i with
  | .raw (.string s), .raw (.int _ i) => if ile 0 i then (match s.data.toList[i.toNat]? with | some b => k (.raw (.int .u8 b.toNat)) H | none => none) else none
  | _, _ => none
theorem fIdxStr_ok (x i : AOpd) : FOk (fIdxStr x i) (.idxStr x i) := fun or tm H k => by
  unfold fIdxStr
  simp only [fEv_eq, opSem, aOp]
  generalize ev tm x = u
  generalize ev tm i = v
  cases u with
  | raw a => cases a with
    | string s => cases v with
      | raw b => cases b with
        | int kb n =>
          dsimp only
          cases ile 0 n with
          | false => rfl
          | true =>
            simp only [if_true]
            cases s.data.toList[n.toNat]? <;> rfl
        | _ => rfl
      | _ => rfl
    | _ => rfl
  | _ => rfl
noncomputable def fOp (op : AOp) : FOp :=
  AOp.rec (motive := fun _ => FOp) fMove fPick fAlloc fBox fBuild fBuildSlice
    (fun agg n x => Bool.rec (motive := fun _ => FOp) (Bool.rec (motive := fun _ => FOp) (fDef (.load false n x)) (fLoad1 x) (Nat.beq n 1)) (fLoadA n x) agg) fStore fNilCheck fBin fEqP fUn
    fConv (fun a => fDef (.strOfBytes a)) (fun a => fDef (.strId a)) fPtrAdd fField (fun a b c d => fDef (.idxAddrA a b c d)) fIdxS (fun a b c d e => fDef (.idxA a b c d e)) fIdxStr
    (fun a b c d e f => fDef (.sliceA a b c d e f)) fSliceS (fun a b c => fDef (.sliceStr a b c)) fMakeSlice fMakeMap fLookup fMapUpdate
    fMapEntry fEntryStore fMapDelete fMakeFunc (fun a b => fDef (.makeIface a b)) fCall fAppend fCopy
    fLen (fun a b => fDef (.lenC a b)) (fun a b => fDef (.minmax a b)) fExtract (fDef .bad) fIterNew fIterNext (fun a => fDef (.iterEntry a)) (fun a => fDef (.clearM a)) (fun a b => fDef (.clearS a b)) (fun a => fDef (.cap a)) (fun a b c d e => fDef (.appendZ a b c d e)) op
theorem fOp_ok (op : AOp) : FOk (fOp op) op := by
  cases op
  case move x => exact fMove_ok x
  case alloc z => exact fAlloc_ok z
  case box x => exact fBox_ok x
  case store n a x => exact fStore_ok n a x
  case bin o x y => exact fBin_ok o x y
  case ptrAdd o x => exact fPtrAdd_ok o x
  case field a o n x => exact fField_ok a o n x
  case idxAddrS e x i => exact fIdxS_ok e x i
  case call f as => exact fCall_ok f as
  case extract i x => exact fExtract_ok i x
  case pick a b c => exact fPick_ok a b c
  case build a b => exact fBuild_ok a b
  case nilCheck a => exact fNilCheck_ok a
  case eqP a b c d => exact fEqP_ok a b c d
  case un a b => exact fUn_ok a b
  case conv a b => exact fConv_ok a b
  case idxStr a b => exact fIdxStr_ok a b
  case sliceS a b c d e => exact fSliceS_ok a b c d e
  case lookup a b c d => exact fLookup_ok a b c d
  case makeFunc a b => exact fMakeFunc_ok a b
  case len a b => exact fLen_ok a b
  case append e b s x => exact fAppend_ok e b s x
  case copy e d s => exact fCopy_ok e d s
  case buildSlice a b c d => exact fBuildSlice_ok a b c d
  case makeSlice a b c d e => exact fMakeSlice_ok a b c d e
  case makeMap => exact fMakeMap_ok
  case mapUpdate m k v => exact fMapUpdate_ok m k v
  case mapEntry z m k => exact fMapEntry_ok z m k
  case entryStore m s v => exact fEntryStore_ok m s v
  case mapDelete m k => exact fMapDelete_ok m k
  case iterNew x => exact fIterNew_ok x
  case iterNext x => exact fIterNext_ok x
  case load agg n x =>
    cases agg with
    | true => exact fLoadA_ok n x
    | false =>
      show FOk (Bool.rec (motive := fun _ => FOp) (fDef (.load false n x)) (fLoad1 x) (Nat.beq n 1)) _
      cases h : Nat.beq n 1 with
      | false => exact fDef_ok fun _ _ => by simp
      | true =>
        have := Nat.beq_eq.mp h
        subst this
        exact fLoad1_ok x
  all_goals exact fDef_ok fun _ _ => by simp
end Go.Vm
