/- The abstract machine, part 26: the evaluator once more, made for the kernel: recursors at hand, states written out at each step. -/
import Derived.Test.YthbjfkkjmecaaaaY12
set_option linter.unusedVariables false
set_option linter.unusedSimpArgs false
namespace Go.Vm
open Go
abbrev Res := Option (AVal × zz6)
noncomputable def yjt (l : List AVal) : Nat → AVal := List.rec (motive := fun _ => Nat → AVal) (fun _ => zzc) (fun x _ ih n => Nat.rec (motive := fun _ => AVal) x (fun m _ => ih m) n) l
theorem za6 : ∀ (l : List AVal) (n : Nat), yjt l n = l.getD n zzc
 | [], n => by simp [yjt]
 | x :: l, 0 => rfl
 | x :: l, n + 1 => by
  show yjt l n = _
  rw [za6 l n]; simp
noncomputable def zas {R : Type} (v : AVal) (l : List AVal) : Nat → (List AVal → R) → R :=
 List.rec (motive := fun _ => Nat → (List AVal → R) → R) (fun _ k => k []) (fun x xs ih n => Nat.rec (motive := fun _ => (List AVal → R) → R) (fun k => k (v :: xs)) (fun m _ k => ih m fun ys => k (x :: ys)) n) l
theorem zeq {R : Type} (v : AVal) : ∀ (l : List AVal) (n : Nat) (k : List AVal → R), zas v l n k = k (l.set n v)
 | [], n, k => by simp [zas]
 | x :: l, 0, k => rfl
 | x :: l, n + 1, k => by
  show zas v l n (fun ys => k (x :: ys)) = _
  rw [zeq v l n]; rfl
noncomputable def zp4 {α : Type} (l : List α) : Nat → Option α := List.rec (motive := fun _ => Nat → Option α) (fun _ => none) (fun x _ ih n => Nat.rec (motive := fun _ => Option α) (some x) (fun m _ => ih m) n) l
theorem zww {α : Type} : ∀ (l : List α) (n : Nat), zp4 l n = l[n]?
 | [], n => by simp [zp4]
 | x :: l, 0 => rfl
 | x :: l, n + 1 => by
  show zp4 l n = _
  rw [zww l n]; simp
noncomputable def zew {R : Type} : Nat → List AVal → (List AVal → Option R) → Option R :=
 Nat.rec (motive := fun _ => List AVal → (List AVal → Option R) → Option R) (fun _ k => k []) fun _ ih l k => List.rec (motive := fun _ => Option R) none (fun x xs _ => ih xs fun ys => k (x :: ys)) l
theorem zl8 {R : Type} : ∀ (n : Nat) (l : List AVal) (k : List AVal → Option R), zew n l k = if n ≤ l.length then k (l.take n) else none
 | 0, l, k => by show k [] = _; simp
 | n + 1, [], k => by simp [zew]
 | n + 1, x :: l, k => by
  show zew n l (fun ys => k (x :: ys)) = _
  rw [zl8 n l]; simp
noncomputable def ze9 {R : Type} : Nat → List AVal → (List AVal → Option R) → Option R :=
 Nat.rec (motive := fun _ => List AVal → (List AVal → Option R) → Option R) (fun l k => k l) fun _ ih l k => List.rec (motive := fun _ => Option R) none (fun _ xs _ => ih xs k) l
theorem zhb {R : Type} : ∀ (n : Nat) (l : List AVal) (k : List AVal → Option R), ze9 n l k = if n ≤ l.length then k (l.drop n) else none
 | 0, l, k => by show k l = _; simp
 | n + 1, [], k => by simp [ze9]
 | n + 1, x :: l, k => by
  show ze9 n l k = _
  rw [zhb n l]; simp
noncomputable def zlz {R : Type} (vals : List AVal) : List AVal → (List AVal → Option R) → Option R :=
 List.rec (motive := fun _ => List AVal → (List AVal → Option R) → Option R) (fun l k => k l)
  (fun v _ ih l k => Bool.rec (motive := fun _ => Option R) none (List.rec (motive := fun _ => Option R) none (fun _ xs _ => ih xs fun ys => k (v :: ys)) l) v.one) vals
theorem zl0 {R : Type} : ∀ (vals l : List AVal) (k : List AVal → Option R), zlz vals l k = if (vals.all AVal.one && decide (vals.length ≤ l.length)) = true then k (vals ++ l.drop vals.length) else none
 | [], l, k => by simp [zlz]
 | v :: vals, [], k => by
  show (Bool.rec (motive := fun _ => Option R) none none v.one) = _
  cases v.one <;> simp
 | v :: vals, x :: l, k => by
  show (Bool.rec (motive := fun _ => Option R) none (zlz vals l fun ys => k (v :: ys)) v.one) = _
  rw [zl0 vals l]
  cases hv : v.one <;> simp [hv]
noncomputable def yxz {R : Type} (vals : List AVal) : Nat → List AVal → (List AVal → Option R) → Option R :=
 Nat.rec (motive := fun _ => List AVal → (List AVal → Option R) → Option R) (fun l k => zlz vals l k) fun _ ih l k => List.rec (motive := fun _ => Option R) none (fun x xs _ => ih xs fun ys => k (x :: ys)) l
theorem zef {R : Type} (vals : List AVal) (hv : 0 < vals.length) : ∀ (off : Nat) (l : List AVal) (k : List AVal → Option R), yxz vals off l k = if (vals.all AVal.one && decide (off + vals.length ≤ l.length)) = true then k (spl l off vals) else none
 | 0, l, k => by
  show zlz vals l k = _
  rw [zl0]; simp [spl]
 | off + 1, [], k => by
  show none = _
  rw [if_neg]
  simp only [Bool.and_eq_true, decide_eq_true_eq, List.length_nil]
  omega
 | off + 1, x :: l, k => by
  show yxz vals off l (fun ys => k (x :: ys)) = _
  rw [zef vals hv off l]
  have e : (off + 1 + vals.length ≤ (x :: l).length) = (off + vals.length ≤ l.length) := by simp; omega
  have e2 : spl (x :: l) (off + 1) vals = x :: spl l off vals := by
   unfold spl
   rw [show off + 1 + vals.length = (off + vals.length) + 1 by omega]
   simp
  rw [e2]; simp only [e]
noncomputable def zk7 {α : Type} (l : List α) : Nat := List.rec (motive := fun _ => Nat → Nat) (fun n => n) (fun _ _ ih n => ih (Nat.succ n)) l 0
theorem zq6 {α : Type} (l : List α) : zk7 l = l.length := by
 have : ∀ (l : List α) (n : Nat), List.rec (motive := fun _ => Nat → Nat) (fun n => n) (fun _ _ ih n => ih (Nat.succ n)) l n = n + l.length := by
  intro l
  induction l with
  | nil => intro n; rfl
  | cons x l ih => intro n; show List.rec (motive := fun _ => Nat → Nat) (fun n => n) (fun _ _ ih n => ih (Nat.succ n)) l (Nat.succ n) = _; rw [ih]; simp; omega
 have := this l 0
 unfold zk7; rw [this]; omega
noncomputable def zcv {α : Type} (a b : List α) : List α := List.rec (motive := fun _ => List α) b (fun x _ ih => x :: ih) a
theorem zm0 {α : Type} (a b : List α) : zcv a b = a ++ b := by
 induction a with
 | nil => rfl
 | cons x a ih => show x :: zcv a b = _; rw [ih]; rfl
noncomputable def ltk {α : Type} : Nat → List α → List α :=
 Nat.rec (motive := fun _ => List α → List α) (fun _ => []) fun _ ih l => List.rec (motive := fun _ => List α) [] (fun x xs _ => x :: ih xs) l
theorem zst {α : Type} : ∀ (n : Nat) (l : List α), ltk n l = l.take n
 | 0, l => by show [] = _; simp
 | n + 1, [] => rfl
 | n + 1, x :: l => by show x :: ltk n l = _; rw [zst n l]; rfl
noncomputable def ldp {α : Type} : Nat → List α → List α :=
 Nat.rec (motive := fun _ => List α → List α) (fun l => l) fun _ ih l => List.rec (motive := fun _ => List α) [] (fun _ xs _ => ih xs) l
theorem zpg {α : Type} : ∀ (n : Nat) (l : List α), ldp n l = l.drop n
 | 0, l => rfl
 | n + 1, [] => rfl
 | n + 1, x :: l => by show ldp n l = _; rw [zpg n l]; rfl
noncomputable def zmp (l : List AVal) : Bool := List.rec (motive := fun _ => Bool) true (fun x _ ih => Bool.rec (motive := fun _ => Bool) false ih x.one) l
theorem zt7 (l : List AVal) : zmp l = l.all AVal.one := by
 induction l with
 | nil => rfl
 | cons x l ih =>
  show Bool.rec (motive := fun _ => Bool) false (zmp l) x.one = _
  rw [ih]; cases h : x.one <;> simp [h]
noncomputable def yxa : Nat → List AVal → List AVal := fun n l => Nat.rec (motive := fun _ => List AVal) [] (fun _ ih => zcv l ih) n
theorem ze5 (n : Nat) (l : List AVal) : yxa n l = zx1 n l := by
 induction n with
 | zero => rfl
 | succ n ih => show zcv l (yxa n l) = _; rw [ih, zm0]; rfl
noncomputable def ykk (cells : List AVal) (off : Nat) (vals : List AVal) : List AVal := zcv (ltk off cells) (zcv vals (ldp (Nat.add off (zk7 vals)) cells))
theorem zgj (cells : List AVal) (off : Nat) (vals : List AVal) : ykk cells off vals = spl cells off vals := by
 simp only [ykk, zm0, zst, zpg, zq6]; rfl
noncomputable def yws (ps : List (Nat × Nat × AVal)) : List AVal → Option (List AVal) :=
 List.rec (motive := fun _ => List AVal → Option (List AVal)) (fun cells => some cells)
  (fun p _ ih cells => match p with
   | (off, n, v) => Bool.rec (motive := fun _ => Option (List AVal)) none (Bool.rec (motive := fun _ => Option (List AVal)) none (ih (ykk cells off v.cells)) (Nat.ble (Nat.add off n) (zk7 cells))) (Nat.beq (zk7 v.cells) n)) ps
theorem zmz : ∀ (ps : List (Nat × Nat × AVal)) (cells : List AVal), yws ps cells = zzm cells ps
 | [], _ => rfl
 | (off, n, v) :: ps, cells => by
  show Bool.rec (motive := fun _ => Option (List AVal)) none (Bool.rec (motive := fun _ => Option (List AVal)) none (yws ps (ykk cells off v.cells)) (Nat.ble (Nat.add off n) (zk7 cells))) (Nat.beq (zk7 v.cells) n) = _
  rw [zmz ps, zgj, zq6, zq6]
  simp only [zzm]
  have e1 : Nat.beq v.cells.length n = decide (v.cells.length = n) := by rw [Bool.eq_iff_iff]; simp
  have e2 : Nat.ble (Nat.add off n) cells.length = decide (off + n ≤ cells.length) := by rw [Bool.eq_iff_iff]; simp
  rw [e1, e2]
  by_cases h1 : v.cells.length = n <;> by_cases h2 : off + n ≤ cells.length <;> simp [h1, h2]
abbrev FT := List (List AVal)
def zu1 : Nat → List AVal → FT
 | 0, _ => []
 | q + 1, l => l.take 16 :: zu1 q (l.drop 16)
def zwd (l : List AVal) : FT := zu1 ((l.length + 15) / 16) l
theorem zlw : ∀ (q : Nat) (l : List AVal) (i : Nat), (zu1 q l)[i]? = if i < q then some ((l.drop (16 * i)).take 16) else none
 | 0, l, i => by simp [zu1]
 | q + 1, l, 0 => by simp [zu1]
 | q + 1, l, i + 1 => by
  simp only [zu1, List.getElem?_cons_succ]
  rw [zlw q]
  simp only [List.drop_drop, Nat.add_lt_add_iff_right]
  rw [show 16 + 16 * i = 16 * (i + 1) by omega]
theorem zn7 : ∀ (q : Nat) (l : List AVal), l.length ≤ 16 * q → (zu1 q l).flatten = l
 | 0, l, h => by
  have : l = [] := List.eq_nil_of_length_eq_zero (by omega)
  subst this; rfl
 | q + 1, l, h => by
  simp only [zu1, List.flatten_cons]
  rw [zn7 q (l.drop 16) (by simp; omega), List.take_append_drop]
theorem zse (l : List AVal) : (zwd l).flatten = l := zn7 _ _ (by omega)
noncomputable def yjk (t : FT) (n : Nat) : Option AVal :=
 match zp4 t (Nat.div n 16) with
 | some c => zp4 c (Nat.mod n 16)
 | none => none
theorem yz5 (l : List AVal) (n : Nat) : yjk (zwd l) n = l[n]? := by
 unfold yjk zwd
 rw [zww, zlw]
 have e : Nat.div n 16 = n / 16 := rfl
 have e2 : Nat.mod n 16 = n % 16 := rfl
 rw [e, e2]
 by_cases h : n / 16 < (l.length + 15) / 16
 ·rw [if_pos h]
  simp only [zww]
  rw [List.getElem?_take, if_pos (by omega), List.getElem?_drop]
  congr 1; omega
 ·rw [if_neg h]
  simp only
  exact (List.getElem?_eq_none (by omega)).symm
noncomputable def ykc (t : FT) (n : Nat) : AVal :=
 match zp4 t (Nat.div n 16) with
 | some c => yjt c (Nat.mod n 16)
 | none => zzc
theorem zge (l : List AVal) (n : Nat) : ykc (zwd l) n = l.getD n zzc := by
 have h := yz5 l n
 unfold yjk at h
 unfold ykc
 rw [List.getD_eq_getElem?_getD, ← h]
 cases zp4 (zwd l) (Nat.div n 16) with
 | none => rfl
 | some c => simp only [za6, zww, List.getD_eq_getElem?_getD]
noncomputable def zam {R : Type} (v : AVal) (r : Nat) (t : FT) : Nat → (FT → R) → R :=
 List.rec (motive := fun _ => Nat → (FT → R) → R) (fun _ k => k []) (fun c cs ih n => Nat.rec (motive := fun _ => (FT → R) → R) (fun k => zas v c r fun c' => k (c' :: cs)) (fun m _ k => ih m fun ys => k (c :: ys)) n) t
noncomputable def yzy {R : Type} (v : AVal) (t : FT) (n : Nat) (k : FT → R) : R := zam v (Nat.mod n 16) t (Nat.div n 16) k
theorem zh4 {R : Type} (v : AVal) (r : Nat) (hr : r < 16) : ∀ (q : Nat) (l : List AVal) (i : Nat) (k : FT → R), zam v r (zu1 q l) i k = k (zu1 q (l.set (16 * i + r) v))
 | 0, l, i, k => rfl
 | q + 1, l, 0, k => by
  show zas v (l.take 16) r (fun c' => k (c' :: zu1 q (l.drop 16))) = _
  rw [zeq]
  simp only [zu1, Nat.mul_zero, Nat.zero_add]
  rw [List.take_set, List.drop_set_of_lt hr]
 | q + 1, l, i + 1, k => by
  show zam v r (zu1 q (l.drop 16)) i (fun ys => k (l.take 16 :: ys)) = _
  rw [zh4 v r hr q]
  simp only [zu1]
  have e1 : (l.set (16 * (i + 1) + r) v).take 16 = l.take 16 := by
   rw [List.take_set, List.set_eq_of_length_le]
   simp; omega
  have e2 : (l.set (16 * (i + 1) + r) v).drop 16 = (l.drop 16).set (16 * i + r) v := by
   rw [List.drop_set, if_neg (by omega)]
   congr 1; omega
  rw [e1, e2]
theorem ze7 {R : Type} (v : AVal) (l : List AVal) (n : Nat) (k : FT → R) : yzy v (zwd l) n k = k (zwd (l.set n v)) := by
 unfold yzy zwd
 rw [zh4 v (Nat.mod n 16) (Nat.mod_lt n (by omega))]
 have : 16 * Nat.div n 16 + Nat.mod n 16 = n := Nat.div_add_mod n 16
 rw [this]
 simp
noncomputable def yxt {R : Type} : Nat → List AVal → (List AVal → List AVal → R) → R :=
 Nat.rec (motive := fun _ => List AVal → (List AVal → List AVal → R) → R) (fun l k => k [] l) fun _ ih l k => List.rec (motive := fun _ => R) (k [] []) (fun x xs _ => ih xs fun a b => k (x :: a) b) l
theorem ze8 {R : Type} : ∀ (n : Nat) (l : List AVal) (k : List AVal → List AVal → R), yxt n l k = k (l.take n) (l.drop n)
 | 0, l, k => by show k [] l = _; simp
 | n + 1, [], k => by show k [] [] = _; simp
 | n + 1, x :: l, k => by
  show yxt n l (fun a b => k (x :: a) b) = _
  rw [ze8 n l]; simp
noncomputable def zcm {R : Type} : Nat → List AVal → (FT → R) → R :=
 Nat.rec (motive := fun _ => List AVal → (FT → R) → R) (fun _ k => k []) fun _ ih l k => yxt 16 l fun a b => ih b fun ys => k (a :: ys)
theorem zlr {R : Type} : ∀ (q : Nat) (l : List AVal) (k : FT → R), zcm q l k = k (zu1 q l)
 | 0, l, k => rfl
 | q + 1, l, k => by
  show yxt 16 l (fun a b => zcm q b fun ys => k (a :: ys)) = _
  rw [ze8, zlr q]; rfl
noncomputable def yuw (l : List AVal) : Nat := List.rec (motive := fun _ => Nat → Nat) (fun n => n) (fun _ _ ih n => ih (Nat.add n 1)) l 0
theorem yqf (l : List AVal) : yuw l = l.length := by
 have : ∀ (l : List AVal) (n : Nat), List.rec (motive := fun _ => Nat → Nat) (fun n => n) (fun _ _ ih n => ih (Nat.add n 1)) l n = n + l.length := by
  intro l
  induction l with
  | nil => intro n; rfl
  | cons x l ih => intro n; show List.rec (motive := fun _ => Nat → Nat) (fun n => n) (fun _ _ ih n => ih (Nat.add n 1)) l (Nat.add n 1) = _; rw [ih]; simp; omega
 have := this l 0
 unfold yuw; rw [this]; omega
noncomputable def zfu {R : Type} (l : List AVal) (k : FT → R) : R := zcm (Nat.div (Nat.add (yuw l) 15) 16) l k
theorem zl6 {R : Type} (l : List AVal) (k : FT → R) : zfu l k = k (zwd l) := by
 unfold zfu zwd
 rw [zlr, yqf]; rfl
noncomputable def fTr {α : Type} (t : Tr α) : Nat → Option α :=
 Tr.rec (motive := fun _ => Nat → Option α) (fun _ => none) (fun v _ _ ihl ihr k => Bool.rec (motive := fun _ => Option α) (Bool.rec (motive := fun _ => Option α) (ihr (Nat.sub (Nat.div k 2) 1)) (ihl (Nat.div k 2)) (Nat.beq (Nat.mod k 2) 1)) v (Nat.beq k 0)) t
theorem ztn {α : Type} : ∀ (t : Tr α) (k : Nat), fTr t k = t.get k
 | .leaf, k => rfl
 | .node v l r, k => by
  show Bool.rec (motive := fun _ => Option α) (Bool.rec (motive := fun _ => Option α) (fTr r (Nat.sub (Nat.div k 2) 1)) (fTr l (Nat.div k 2)) (Nat.beq (Nat.mod k 2) 1)) v (Nat.beq k 0) = _
  rw [ztn l, ztn r]
  simp only [Tr.get]
  have e0 : Nat.beq k 0 = decide (k = 0) := by
   rw [Bool.eq_iff_iff]; simp
  have e1 : Nat.beq (Nat.mod k 2) 1 = decide (k % 2 = 1) := by
   rw [Bool.eq_iff_iff]; simp
   rfl
  rw [e0, e1]
  by_cases h0 : k = 0
  ·simp [h0]
  ·by_cases h1 : k % 2 = 1
   ·simp [h0, h1]; rfl
   ·simp [h0, h1]; rfl
noncomputable def yy3 {α R : Type} (u : α) (t : Tr α) : Nat → (Tr α → R) → R :=
 Tr.rec (motive := fun _ => Nat → (Tr α → R) → R) (fun k c => c (Tr.sing u (k + 1) k))
  (fun v l r ihl ihr k c => Bool.rec (motive := fun _ => R) (Bool.rec (motive := fun _ => R) (ihr (Nat.sub (Nat.div k 2) 1) fun r' => c (.node v l r')) (ihl (Nat.div k 2) fun l' => c (.node v l' r)) (Nat.beq (Nat.mod k 2) 1)) (c (.node (some u) l r)) (Nat.beq k 0)) t
theorem zs5 {α R : Type} (u : α) : ∀ (t : Tr α) (k : Nat) (c : Tr α → R), yy3 u t k c = c (t.set u k)
 | .leaf, k, c => rfl
 | .node v l r, k, c => by
  show Bool.rec (motive := fun _ => R) (Bool.rec (motive := fun _ => R) (yy3 u r (Nat.sub (Nat.div k 2) 1) fun r' => c (.node v l r')) (yy3 u l (Nat.div k 2) fun l' => c (.node v l' r)) (Nat.beq (Nat.mod k 2) 1)) (c (.node (some u) l r)) (Nat.beq k 0) = _
  rw [zs5 u l, zs5 u r]
  simp only [Tr.set]
  have e0 : Nat.beq k 0 = decide (k = 0) := by
   rw [Bool.eq_iff_iff]; simp
  have e1 : Nat.beq (Nat.mod k 2) 1 = decide (k % 2 = 1) := by
   rw [Bool.eq_iff_iff]; simp
   rfl
  rw [e0, e1]
  by_cases h0 : k = 0
  ·simp [h0]
  ·by_cases h1 : k % 2 = 1
   ·simp [h0, h1]; rfl
   ·simp [h0, h1]; rfl
noncomputable def zml {R : Type} (H : zz6) (A : Nat) (o : AObj) (k : zz6 → R) : R := yy3 o H.tr A fun t => k { next := H.next, tr := t }
theorem zs1 {R : Type} (H : zz6) (A : Nat) (o : AObj) (k : zz6 → R) : zml H A o k = k (H.set A o) := by unfold zml; rw [zs5]; rfl
noncomputable def nK {R : Type} (n : Nat) (k : Nat → R) : R := Nat.rec (motive := fun _ => R) (k 0) (fun m _ => k (Nat.succ m)) n
theorem zmh {R : Type} (n : Nat) (k : Nat → R) : nK n k = k n := by cases n <;> rfl
noncomputable def zrc {R : Type} (H : zz6) (o : AObj) (k : zz6 → R) : R := yy3 o H.tr H.next fun t => nK (Nat.add H.next 1) fun m => k { next := m, tr := t }
theorem zj2 {R : Type} (H : zz6) (o : AObj) (k : zz6 → R) : zrc H o k = k (H.push o) := by unfold zrc; rw [zs5, zmh]; rfl
noncomputable def fEv (tm : FT) (x : AOpd) : AVal := AOpd.rec (motive := fun _ => AVal) (fun n => ykc tm n) (fun v => v) x
theorem zy8 (tm : List AVal) (x : AOpd) : fEv (zwd tm) x = ev tm x := by
 cases x with
 | t n => exact zge tm n
 | c v => rfl
abbrev FOp := zzn → FT → zz6 → (AVal → zz6 → Res) → Res
def ok2 (x : Option (AVal × zz6)) (k : AVal → zz6 → Res) : Res :=
 match x with
 | some (v, H) => k v H
 | none => none
def zwq (or : zzn) (tm : List AVal) (op : AOp) (H : zz6) : Option (AVal × zz6) :=
 match op with
 | .call f args => or (ev tm f) (args.map (ev tm)) H
 | op => aOp tm op H
def FOk (f : FOp) (op : AOp) : Prop := ∀ or tm H k, f or (zwd tm) H k = ok2 (zwq or tm op H) k
def znd (op : AOp) : FOp := fun or tm H k => ok2 (aOp tm.flatten op H) k
theorem za0 {op : AOp} (h : ∀ f args, op ≠ .call f args) : FOk (znd op) op := fun or tm H k => by
 unfold znd zwq
 rw [zse]
 cases op <;> first | rfl | exact absurd rfl (h _ _)
noncomputable def yq2 (x : AOpd) : FOp := fun or tm H k => k (fEv tm x) H
theorem yx5 (x : AOpd) : FOk (yq2 x) (.move x) := fun or tm H k => by simp [yq2, zwq, aOp, ok2, zy8]
noncomputable def evs (tm : FT) (xs : List AOpd) : List AVal := List.rec (motive := fun _ => List AVal) [] (fun x _ ih => fEv tm x :: ih) xs
theorem yy6 (tm : List AVal) : ∀ (xs : List AOpd), evs (zwd tm) xs = xs.map (ev tm)
 | [] => rfl
 | x :: xs => by
  show fEv (zwd tm) x :: evs (zwd tm) xs = _
  rw [yy6 tm xs, zy8]; rfl
noncomputable def yq3 (f : AOpd) (args : List AOpd) : FOp := fun or tm H k => ok2 (or (fEv tm f) (evs tm args) H) k
theorem yyh (f : AOpd) (args : List AOpd) : FOk (yq3 f args) (.call f args) := fun or tm H k => by simp only [yq3, zwq, zy8, yy6]
noncomputable def yu5 (x : AOpd) : FOp := fun or tm H k => zrc H (.row [some (0, (fEv tm x).cells)]) fun H' => k (.ptr H.next 0 0) H'
theorem yvk (x : AOpd) : FOk (yu5 x) (.box x) := fun or tm H k => by simp only [yu5, zj2, zwq, aOp, ok2, zy8]
noncomputable def yy2 (z : List AVal) : FOp := fun or tm H k => zrc H (.row [some (0, z)]) fun H' => k (.ptr H.next 0 0) H'
theorem zal (z : List AVal) : FOk (yy2 z) (.alloc z) := fun or tm H k => by simp only [yy2, zj2, zwq, aOp, ok2]
noncomputable def yvp (H : zz6) (A ver : Nat) : Option (List AVal) :=
 match fTr H.tr A with
 | some (.row vs) => match zp4 vs ver with | some (some (_, l)) => some l | _ => none
 | some (.ro l) => Nat.rec (motive := fun _ => Option (List AVal)) (some l) (fun _ _ => none) ver
 | _ => none
theorem zrm (H : zz6) (A ver : Nat) : yvp H A ver = H.rowAt A ver := by
 unfold yvp zz6.rowAt zz6.get
 rw [ztn]
 cases H.tr.get A with
 | none => rfl
 | some o => cases o with
  | row vs => simp only [zww]; cases vs[ver]? with
   | none => rfl
   | some x => cases x <;> rfl
  | ro l => cases ver <;> rfl
  | _ => rfl
noncomputable def zcn (n : Nat) (x : AOpd) : FOp := fun or tm H k =>
 match fEv tm x with
 | .ptr A ver off => match yvp H A ver with
  | some cells => ze9 off cells fun l => zew n l fun l' => k (.agg l') H
  | none => none
 | _ => none
theorem zag (n : Nat) (x : AOpd) : FOk (zcn n x) (.load true n x) := fun or tm H k => by
 unfold zcn
 rw [zy8]
 simp only [zwq, aOp]
 generalize ev tm x = u
 cases u with
 | ptr A ver off =>
  simp only [zrm]
  cases hr : H.rowAt A ver with
  | none => simp [ok2]
  | some cells =>
   simp only [zhb, zl8, Option.bind_some]
   by_cases h : off + n ≤ cells.length
   ·rw [if_pos (by omega), if_pos (by simp; omega), if_pos h]
    simp [aPart, ok2]
   ·rw [if_neg h]
    simp only [Option.map_none, ok2]
    split
    ·rw [if_neg (by simp; omega)]
    ·rfl
 | _ => rfl
noncomputable def zfk (x : AOpd) : FOp := fun or tm H k =>
 match fEv tm x with
 | .ptr A ver off => match yvp H A ver with
  | some cells => match zp4 cells off with
   | some v => k v H
   | none => none
  | none => none
 | _ => none
theorem yzt (x : AOpd) : FOk (zfk x) (.load false 1 x) := fun or tm H k => by
 unfold zfk
 rw [zy8]
 simp only [zwq, aOp]
 generalize ev tm x = u
 cases u with
 | ptr A ver off =>
  simp only [zrm]
  cases hr : H.rowAt A ver with
  | none => simp [ok2]
  | some cells =>
   simp only [zww, Option.bind_some]
   cases hc : cells[off]? with
   | none =>
    have := List.getElem?_eq_none_iff.1 hc
    rw [if_neg (by omega)]; simp [ok2]
   | some v =>
    have := (List.getElem?_eq_some_iff.1 hc).1
    rw [if_pos (by omega)]; simp [aPart, hc, ok2]
 | _ => rfl
noncomputable def zvm (H : zz6) (A ver off : Nat) (vals : List AVal) : Option (Nat × AObj) :=
 match fTr H.tr A with
 | some (.row vs) =>
  match zp4 vs ver with
  | some (some (rel, l)) =>
   if Nat.ble 1 (zk7 vals) && Nat.ble (Nat.add off (zk7 vals)) (zk7 l) && zmp vals then
    some (A, .row ((killAt (rel + off) (zk7 vals) vs).set ver (some (rel, ykk l off vals))))
   else none
  | _ => none
 | _ => none
theorem zdu (H : zz6) (A ver off : Nat) (vals : List AVal) : H.write A ver off vals = (zvm H A ver off vals).map fun (B, o) => H.set B o := by
 unfold zz6.write zvm zz6.get
 rw [ztn]
 cases H.tr.get A with
 | none => rfl
 | some o => cases o with
  | row vs =>
   simp only [zww]
   cases vs[ver]? with
   | none => rfl
   | some x => cases x with
    | none => rfl
    | some p =>
     obtain ⟨rel, l⟩ := p
     simp only [zq6, zgj, zt7]
     have e : (Nat.ble 1 vals.length && Nat.ble (Nat.add off vals.length) l.length && vals.all AVal.one) = (decide (0 < vals.length) && decide (off + vals.length ≤ l.length) && vals.all AVal.one) := by
      have e1 : Nat.ble 1 vals.length = decide (0 < vals.length) := by rw [Bool.eq_iff_iff]; simp; omega
      have e2 : Nat.ble (Nat.add off vals.length) l.length = decide (off + vals.length ≤ l.length) := by rw [Bool.eq_iff_iff]; simp
      rw [e1, e2]
     rw [e]
     split <;> rfl
  | _ => rfl
noncomputable def zgk (H : zz6) (A ver off : Nat) (vals : List AVal) (k : zz6 → Res) : Res :=
 match fTr H.tr A with
 | some (.row [some (rel, l)]) => Nat.rec (motive := fun _ => Res) (List.rec (motive := fun _ => Res) none (fun _ _ _ => yxz vals off l fun l' => zml H A (.row [some (rel, l')]) k) vals) (fun _ _ => none) ver
 | _ => match zvm H A ver off vals with
  | some (B, o) => zml H B o k
  | none => none
theorem zdf (H : zz6) (A ver off : Nat) (vals : List AVal) (k : zz6 → Res) : zgk H A ver off vals k = match H.write A ver off vals with | some H' => k H' | none => none := by
 unfold zgk
 rw [ztn]
 split
 ·rename_i rel l hg
  have hg' : H.get A = some (.row [some (rel, l)]) := hg
  unfold zz6.write
  rw [hg']
  cases ver with
  | succ v => simp
  | zero =>
   simp only [List.getElem?_cons_zero]
   cases vals with
   | nil => show none = _; simp
   | cons v vs =>
    simp only [zs1]
    change yxz (v :: vs) off l _ = _
    rw [zef _ (by simp)]
    by_cases h : ((v :: vs).all AVal.one && decide (off + (v :: vs).length ≤ l.length)) = true
    ·rw [if_pos h]
     simp only [Bool.and_eq_true, decide_eq_true_eq] at h
     have : (0 < (v :: vs).length && decide (off + (v :: vs).length ≤ l.length) && (v :: vs).all AVal.one) = true := by
      simp only [Bool.and_eq_true, decide_eq_true_eq]; exact ⟨⟨by simp, h.2⟩, h.1⟩
     rw [if_pos this]
     have hk : ∀ (z : Option (Nat × List AVal)), (killAt (rel + off) (v :: vs).length [some (rel, l)]).set 0 z = [z] := fun z => by
      simp only [killAt]
      split <;> rfl
     simp only [hk]
    ·rw [if_neg h]
     have : ¬ (decide (0 < (v :: vs).length) && decide (off + (v :: vs).length ≤ l.length) && (v :: vs).all AVal.one) = true := fun hh => by
      simp only [Bool.and_eq_true] at h hh
      exact h ⟨hh.2, hh.1.2⟩
     rw [if_neg this]
 ·rw [zdu]
  cases zvm H A ver off vals with
  | none => rfl
  | some p => obtain ⟨B, o⟩ := p; simp only [zs1, Option.map_some]
noncomputable def yy4 (n : Nat) (a x : AOpd) : FOp := fun or tm H k =>
 match fEv tm a with
 | .ptr A ver off => Bool.rec (motive := fun _ => Res) none (zgk H A ver off (fEv tm x).cells fun H' => k zzc H') (Nat.beq (zk7 (fEv tm x).cells) n)
 | _ => none
theorem yzk (n : Nat) (a x : AOpd) : FOk (yy4 n a x) (.store n a x) := fun or tm H k => by
 unfold yy4
 rw [zy8, zy8]
 simp only [zwq, aOp]
 generalize ev tm a = u
 cases u with
 | ptr A ver off =>
  simp only [zdf, zq6]
  have e : Nat.beq (ev tm x).cells.length n = decide ((ev tm x).cells.length = n) := by
   rw [Bool.eq_iff_iff]; simp
  rw [e]
  by_cases h : (ev tm x).cells.length = n
  ·simp only [h, decide_true, if_true]
   cases H.write A ver off (ev tm x).cells <;> simp [ok2]
  ·simp [h, ok2]
 | _ => rfl
noncomputable def zg3 (o : Nat) (x : AOpd) : FOp := fun or tm H k =>
 match fEv tm x with
 | .ptr A v off => nK (Nat.add off o) fun m => k (.ptr A v m) H
 | _ => none
theorem zc3 (o : Nat) (x : AOpd) : FOk (zg3 o x) (.ptrAdd o x) := fun or tm H k => by
 unfold zg3
 rw [zy8]
 simp only [zwq, aOp, zmh]
 cases ev tm x <;> rfl
noncomputable def iK {R : Type} (n : Int) (k : Int → R) : R := Int.rec (motive := fun _ => R) (fun a => nK a fun b => k (.ofNat b)) (fun a => nK a fun b => k (.negSucc b)) n
theorem yjg {R : Type} (n : Int) (k : Int → R) : iK n k = k n := by cases n <;> simp [iK, zmh]
noncomputable def yzs (op : BinOp) (kd : IntKind) (a b : Nat) (k : AVal → Res) (slow : Res) : Res :=
 match op with
 | .add => nK (Nat.add a b) fun c => Bool.rec (motive := fun _ => Res) slow (k (.raw (.int kd (.ofNat c)))) (Nat.ble c 127)
 | .sub => Bool.rec (motive := fun _ => Res) slow (Bool.rec (motive := fun _ => Res) slow (nK (Nat.sub a b) fun c => k (.raw (.int kd (.ofNat c)))) (Nat.ble a 127)) (Nat.ble b a)
 | .lss => k (.raw (.bool (Nat.ble (Nat.add a 1) b)))
 | .leq => k (.raw (.bool (Nat.ble a b)))
 | .gtr => k (.raw (.bool (Nat.ble (Nat.add b 1) a)))
 | .geq => k (.raw (.bool (Nat.ble b a)))
 | .eql => k (.raw (.bool (Nat.beq a b)))
 | .neq => k (.raw (.bool (not (Nat.beq a b))))
 | _ => slow
theorem zsc (kd : IntKind) (c : Nat) (h : c ≤ 127) : zq3 kd (c : Int) = c := by
 cases kd <;> simp only [zq3, ile_eq] <;> first | omega | (simp only [decide_eq_true_eq]; rw [if_neg (by omega)]; omega)
theorem yz8 (op : BinOp) (kd : IntKind) (a b : Nat) (k : AVal → Res) (slow : Res) (hs : slow = match aArith op kd a b with | some v => k v | none => none) : yzs op kd a b k slow = slow := by
 have hle : ∀ x y : Nat, Nat.ble x y = decide (x ≤ y) := fun x y => by rw [Bool.eq_iff_iff]; simp
 have hbe : ∀ x y : Nat, Nat.beq x y = decide (x = y) := fun x y => by rw [Bool.eq_iff_iff]; simp
 cases op <;> simp only [yzs, zmh] <;> try rfl
 case add =>
  cases h : Nat.ble (Nat.add a b) 127 with
  | false => rfl
  | true =>
   have h' : a + b ≤ 127 := Nat.le_of_ble_eq_true h
   rw [hs]
   simp only [aArith]
   have := zsc kd (a + b) h'
   rw [show (((a + b : Nat) : Int)) = (a : Int) + b by omega] at this
   rw [this]; rfl
 case sub =>
  cases h : Nat.ble b a with
  | false => rfl
  | true =>
   cases h2 : Nat.ble a 127 with
   | false => rfl
   | true =>
    have h' : b ≤ a := Nat.le_of_ble_eq_true h
    have h2' : a ≤ 127 := Nat.le_of_ble_eq_true h2
    rw [hs]
    simp only [aArith]
    have := zsc kd (a - b) (by omega)
    rw [show ((a - b : Nat) : Int) = (a : Int) - b by omega] at this
    rw [this]
    show k (.raw (.int kd ((a - b : Nat) : Int))) = _
    rw [show ((a - b : Nat) : Int) = (a : Int) - b by omega]
 case lss => rw [hs]; simp only [aArith]; congr 3; rw [hle, ilt_eq]; rw [Bool.eq_iff_iff]; simp; omega
 case leq => rw [hs]; simp only [aArith]; congr 3
 case gtr => rw [hs]; simp only [aArith]; congr 3; rw [hle, ilt_eq]; rw [Bool.eq_iff_iff]; simp; omega
 case geq => rw [hs]; simp only [aArith]; congr 3
 case eql => rw [hs]; simp only [aArith]; congr 3
 case neq => rw [hs]; simp only [aArith]; congr 3
def zej : IntKind → IntKind → Bool
 | .i64, .i64 | .u64, .u64 | .u8, .u8 | .i32, .i32 | .u32, .u32 | .u16, .u16 | .i16, .i16 | .i8, .i8 => true
 | _, _ => false
theorem za1 {a b : IntKind} (h : zej a b = true) : a = b := by cases a <;> cases b <;> simp_all [zej]
noncomputable def zat (op : BinOp) (x y : AOpd) (tm : FT) (H : zz6) (k : AVal → zz6 → Res) : Res :=
 match aBin op (fEv tm x) (fEv tm y) with
 | some v => k v H
 | none => none
theorem ywu (op : BinOp) (x y : AOpd) (tm : List AVal) (H : zz6) (k : AVal → zz6 → Res) : zat op x y (zwd tm) H k = ok2 (aOp tm (.bin op x y) H) k := by
 unfold zat
 rw [zy8, zy8]
 simp only [aOp]
 cases aBin op (ev tm x) (ev tm y) <;> rfl
noncomputable def yu2 (op : BinOp) (x y : AOpd) : FOp := fun or tm H k =>
 match fEv tm x, fEv tm y with
 | .raw (.int ka (.ofNat a)), .raw (.int kb (.ofNat b)) => Bool.rec (motive := fun _ => Res) (zat op x y tm H k) (yzs op ka a b (fun v => k v H) (zat op x y tm H k)) (zej ka kb)
 | _, _ => zat op x y tm H k
theorem yqn (op : BinOp) (x y : AOpd) : FOk (yu2 op x y) (.bin op x y) := fun or tm H k => by
 unfold yu2
 rw [zy8, zy8, ywu]
 split
 ·rename_i ka a kb b hx hy
  cases hk : zej ka kb with
  | false => rfl
  | true =>
   have := za1 hk
   subst this
   by_cases hsh : op = .shl ∨ op = .shr
   ·rcases hsh with rfl | rfl <;> rfl
   ·refine (yz8 op ka a b (fun v => k v H) _ ?_).trans rfl
    simp only [aOp, hx, hy, aBin, if_neg hsh, if_true]
    show ok2 (Option.map (fun v => (v, H)) (aArith op ka (a : Int) (b : Int))) k = _
    cases aArith op ka (a : Int) (b : Int) <;> rfl
 ·rfl
noncomputable def zm6 (i : Nat) (x : AOpd) : FOp := fun or tm H k =>
 match fEv tm x with
 | .tuple vs => match zp4 vs i with
  | some v => k v H
  | none => none
 | _ => none
theorem zg8 (i : Nat) (x : AOpd) : FOk (zm6 i x) (.extract i x) := fun or tm H k => by
 unfold zm6
 rw [zy8]
 simp only [zwq, aOp]
 generalize ev tm x = u
 cases u with
 | tuple vs => simp only [zww]; cases vs[i]? <;> simp [ok2]
 | _ => rfl
noncomputable def za9 (agg : Bool) (off n : Nat) (x : AOpd) : FOp := fun or tm H k =>
 match fEv tm x with
 | .agg cs => Bool.rec (motive := fun _ => Res) (match zp4 cs off with | some v => k v H | none => none) (k (.agg (ltk n (ldp off cs))) H) agg
 | _ => none
theorem yy7 (agg : Bool) (off n : Nat) (x : AOpd) : FOk (za9 agg off n x) (.field agg off n x) := fun or tm H k => by
 unfold za9
 rw [zy8]
 simp only [zwq, aOp]
 generalize ev tm x = u
 cases u with
 | agg cs =>
  cases agg with
  | false => simp only [zww, aPart, Bool.false_eq_true, if_false]; cases cs[off]? <;> simp [ok2]
  | true => simp [aPart, ok2, zst, zpg]
 | _ => rfl
noncomputable def yv3 (esz : Nat) (x i : AOpd) : FOp := fun or tm H k =>
 match fEv tm x, fEv tm i with
 | .slice A v o len _ _ _, .raw (.int _ (.ofNat i)) => Bool.rec (motive := fun _ => Res) none (nK (Nat.add o (Nat.mul i esz)) fun m => k (.ptr A v m) H) (Nat.ble (Nat.add i 1) len)
 | _, _ => none
theorem yxe (esz : Nat) (x i : AOpd) : FOk (yv3 esz x i) (.idxAddrS esz x i) := fun or tm H k => by
 have hle : ∀ x y : Nat, Nat.ble x y = decide (x ≤ y) := fun x y => by rw [Bool.eq_iff_iff]; simp
 unfold yv3
 rw [zy8, zy8]
 simp only [zwq, aOp, zmh]
 cases ev tm x with
 | slice A v o len kc ex ez =>
  cases ev tm i with
  | raw c =>
   cases c with
   | int kd n =>
    cases n with
    | ofNat n =>
     simp only [hle]
     by_cases h : n + 1 ≤ len
     ·have h1 : (ile 0 (Int.ofNat n) && ilt (Int.ofNat n) (len : Int)) = true := by
       rw [ile_eq, ilt_eq]; simp; omega
      rw [h1]
      simp only [if_true]
      have : decide (Nat.add n 1 ≤ len) = true := by simpa using h
      rw [this]; rfl
     ·have h1 : (ile 0 (Int.ofNat n) && ilt (Int.ofNat n) (len : Int)) = false := by
       rw [ile_eq, ilt_eq]; simp; omega
      rw [h1]
      have : decide (Nat.add n 1 ≤ len) = false := by simpa using h
      rw [this]; rfl
    | negSucc n =>
     have h1 : ile 0 (Int.negSucc n) = false := rfl
     simp [h1, ok2]
   | _ => rfl
  | _ => rfl
 | _ => simp only [ok2]
inductive Upd where
 | same
 | put (A : Nat) (o : AObj)
 | push (o : AObj)
def Upd.app (u : Upd) (H : zz6) : zz6 :=
 match u with
 | .same => H
 | .put A o => H.set A o
 | .push o => H.push o
noncomputable def updK {R : Type} (u : Upd) (H : zz6) (k : zz6 → R) : R :=
 match u with
 | .same => k H
 | .put A o => zml H A o k
 | .push o => zrc H o k
theorem yv1 {R : Type} (u : Upd) (H : zz6) (k : zz6 → R) : updK u H k = k (u.app H) := by
 cases u with
 | same => rfl
 | put A o => exact zs1 ..
 | push o => exact zj2 ..
noncomputable def okU (x : Option (AVal × Upd)) (H : zz6) (k : AVal → zz6 → Res) : Res :=
 match x with
 | some (v, u) => updK u H fun H' => k v H'
 | none => none
theorem zuc {x : Option (AVal × Upd)} {H : zz6} {y : Option (AVal × zz6)} (h : y = x.map fun (v, u) => (v, u.app H)) (k : AVal → zz6 → Res) : okU x H k = ok2 y k := by
 subst h
 cases x with
 | none => rfl
 | some p => obtain ⟨v, u⟩ := p; simp only [okU, yv1, Option.map_some, ok2]
def zjr (H : zz6) (A ver off : Nat) (vals : List AVal) : Option Upd :=
 match H.get A with
 | some (.row vs) =>
  match vs[ver]? with
  | some (some (rel, l)) =>
   if 0 < vals.length && off + vals.length ≤ l.length && vals.all AVal.one then
    some (.put A (.row ((killAt (rel + off) vals.length vs).set ver (some (rel, spl l off vals)))))
   else none
  | _ => none
 | _ => none
theorem zlh (H : zz6) (A ver off : Nat) (vals : List AVal) : H.write A ver off vals = (zjr H A ver off vals).map fun u => u.app H := by
 unfold zz6.write zjr
 cases H.get A with
 | none => rfl
 | some o => cases o with
  | row vs =>
   simp only
   cases vs[ver]? with
   | none => rfl
   | some x => cases x with
    | none => rfl
    | some p => obtain ⟨rel, l⟩ := p; simp only; split <;> rfl
  | _ => rfl
def zmw (H : zz6) (esz bytes : Nat) (s x : AVal) : Option (AVal × Upd) :=
 (zjl x).bind fun m => (aCells H esz x).bind fun news =>
 if m = 0 then (match s with | .raw (.slice none 0 0) => some (s, .same) | .slice .. => some (s, .same) | _ => none)
 else if 0 < esz && 0 < bytes && news.all AVal.one then
 match s with
 | .raw (.slice none 0 0) => if m * bytes ≤ 140737488355328 then some (.slice H.next 0 0 m m false esz, .push (.row [some (0, news)])) else none
 | .slice A ver off len kcap ex esz' =>
  if esz' = esz then
   if len + m ≤ kcap then (zjr H A ver (off + len * esz) news).map fun u => (.slice A ver off (len + m) kcap ex esz, u)
   else if (len + m) * bytes ≤ 140737488355328 then
    (H.rowAt A ver).bind fun cells =>
    if off + len * esz ≤ cells.length then
     let all := (cells.drop off).take (len * esz) ++ news
     if ex then some (.slice H.next 0 0 (len + m) (len + m) false esz, .push (.row [some (0, all)]))
     else match H.get A with
      | some (.row vs) => match vs[ver]? with
       | some (some (rel, _)) => some (.slice A vs.length 0 (len + m) (len + m) false esz, .put A (.row (zwy vs (rel + off + len * esz) news.length (rel + off) all)))
       | _ => none
      | _ => none
    else none
   else none
  else none
 | _ => none
 else none
theorem zd2 (H : zz6) (esz bytes : Nat) (s x : AVal) : zzf H esz bytes s x = (zmw H esz bytes s x).map fun (v, u) => (v, u.app H) := by
 unfold zzf zmw
 cases zjl x with
 | none => rfl
 | some m =>
  simp only [Option.bind_some]
  cases aCells H esz x with
  | none => rfl
  | some news =>
   simp only [Option.bind_some]
   by_cases h0 : m = 0
   ·simp only [if_pos h0]
    cases s with
    | raw v => cases v with
     | slice a l c => cases a with
      | none => cases l <;> cases c <;> rfl
      | some _ => rfl
     | _ => rfl
    | _ => rfl
   ·simp only [if_neg h0]
    by_cases h1 : (decide (0 < esz) && decide (0 < bytes) && news.all AVal.one) = true
    ·simp only [if_pos h1]
     cases s with
     | raw v => cases v with
      | slice a l c => cases a with
       | none => cases l <;> cases c <;> first | rfl | (by_cases hb : m * bytes ≤ 140737488355328 <;> simp only [if_pos, if_neg, hb, not_false_eq_true] <;> rfl)
       | some _ => rfl
      | _ => rfl
     | slice A ver off len kcap ex esz' =>
      dsimp only
      by_cases h2 : esz' = esz
      ·simp only [if_pos h2]
       by_cases h3 : len + m ≤ kcap
       ·simp only [if_pos h3, zlh]
        cases zjr H A ver (off + len * esz) news <;> rfl
       ·simp only [if_neg h3]
        by_cases h4 : (len + m) * bytes ≤ 140737488355328
        ·simp only [if_pos h4]
         cases H.rowAt A ver with
         | none => rfl
         | some cells =>
          simp only [Option.bind_some]
          by_cases h5 : off + len * esz ≤ cells.length
          ·simp only [if_pos h5]
           cases ex with
           | true => rfl
           | false =>
            simp only [Bool.false_eq_true, if_false]
            cases H.get A with
            | none => rfl
            | some o => cases o with
             | row vs =>
              dsimp only
              cases vs[ver]? with
              | none => rfl
              | some x => cases x <;> rfl
             | _ => rfl
          ·simp only [if_neg h5]; rfl
        ·simp only [if_neg h4]; rfl
      ·simp only [if_neg h2]; rfl
     | _ => rfl
    ·simp only [if_neg h1]; rfl
noncomputable def zfd (H : zz6) (esz : Nat) : AVal → Option (List AVal)
 | .raw (.slice none 0 0) => some []
 | .slice A ver off len _ _ _ => (yvp H A ver).bind fun cells => Bool.rec (motive := fun _ => Option (List AVal)) none (some (ltk (Nat.mul len esz) (ldp off cells))) (Nat.ble (Nat.add off (Nat.mul len esz)) (zk7 cells))
 | _ => none
theorem yj0 {R : Type} (a b : Nat) (x y : R) : Bool.rec (motive := fun _ => R) y x (Nat.ble a b) = if a ≤ b then x else y := by
 by_cases h : a ≤ b
 ·rw [if_pos h, Nat.ble_eq_true_of_le h]
 ·rw [if_neg h]
  have : Nat.ble a b = false := by
   cases hb : Nat.ble a b with
   | false => rfl
   | true => exact absurd (Nat.le_of_ble_eq_true hb) h
  rw [this]
theorem zlv (H : zz6) (esz : Nat) (x : AVal) : zfd H esz x = aCells H esz x := by
 unfold zfd aCells
 cases x with
 | raw v => cases v with
  | slice a l c => cases a with
   | none => cases l <;> cases c <;> rfl
   | some _ => rfl
  | _ => rfl
 | slice A ver off len kc ex ez =>
  simp only [zrm, yj0, zst, zpg, zq6]
  rfl
 | _ => rfl
noncomputable def zgu (H : zz6) (esz bytes : Nat) (s x : AVal) : Option (AVal × Upd) :=
 (zjl x).bind fun m => (zfd H esz x).bind fun news =>
 if m = 0 then (match s with | .raw (.slice none 0 0) => some (s, .same) | .slice .. => some (s, .same) | _ => none)
 else if 0 < esz && 0 < bytes && zmp news then
 match s with
 | .raw (.slice none 0 0) => if m * bytes ≤ 140737488355328 then some (.slice H.next 0 0 m m false esz, .push (.row [some (0, news)])) else none
 | .slice A ver off len kcap ex esz' =>
  if esz' = esz then
   if len + m ≤ kcap then (zvm H A ver (off + len * esz) news).map fun p => (.slice A ver off (len + m) kcap ex esz, .put p.1 p.2)
   else if (len + m) * bytes ≤ 140737488355328 then
    (yvp H A ver).bind fun cells =>
    if off + len * esz ≤ zk7 cells then
     let all := zcv (ltk (len * esz) (ldp off cells)) news
     if ex then some (.slice H.next 0 0 (len + m) (len + m) false esz, .push (.row [some (0, all)]))
     else match fTr H.tr A with
      | some (.row vs) => match zp4 vs ver with
       | some (some (rel, _)) => some (.slice A (zk7 vs) 0 (len + m) (len + m) false esz, .put A (.row (zcv (killAt (rel + off + len * esz) (zk7 news) vs) [some (rel + off, all)])))
       | _ => none
      | _ => none
    else none
   else none
  else none
 | _ => none
 else none
theorem zsu (H : zz6) (A ver off : Nat) (vals : List AVal) : ((zvm H A ver off vals).map fun p => Upd.put p.1 p.2) = zjr H A ver off vals := by
 unfold zvm zjr zz6.get
 rw [ztn]
 cases H.tr.get A with
 | none => rfl
 | some o => cases o with
  | row vs =>
   simp only [zww]
   cases vs[ver]? with
   | none => rfl
   | some x => cases x with
    | none => rfl
    | some p =>
     obtain ⟨rel, l⟩ := p
     simp only [zq6, zgj, zt7]
     have e : (Nat.ble 1 vals.length && Nat.ble (Nat.add off vals.length) l.length && vals.all AVal.one) = (decide (0 < vals.length) && decide (off + vals.length ≤ l.length) && vals.all AVal.one) := by
      have e1 : Nat.ble 1 vals.length = decide (0 < vals.length) := by rw [Bool.eq_iff_iff]; simp; omega
      have e2 : Nat.ble (Nat.add off vals.length) l.length = decide (off + vals.length ≤ l.length) := by rw [Bool.eq_iff_iff]; simp
      rw [e1, e2]
     rw [e]
     split <;> rfl
  | _ => rfl
theorem zdt (H : zz6) (esz bytes : Nat) (s x : AVal) : zgu H esz bytes s x = zmw H esz bytes s x := by
 unfold zgu zmw
 have hw : ∀ A ver off vals (v : AVal), ((zvm H A ver off vals).map fun p => (v, Upd.put p.1 p.2)) = (zjr H A ver off vals).map fun u => (v, u) := fun A ver off vals v => by
  rw [← zsu, Option.map_map]; rfl
 have hg : ∀ A, fTr H.tr A = H.get A := fun A => ztn _ _
 simp only [zlv, zt7, hw, zrm, zq6, zm0, zst, zpg, hg, zww, zwy]
noncomputable def zgz (e b : Nat) (s x : AOpd) : FOp := fun or tm H k => okU (zgu H e b (fEv tm s) (fEv tm x)) H k
theorem zd7 (e b : Nat) (s x : AOpd) : FOk (zgz e b s x) (.append e b s x) := fun or tm H k => by
 unfold zgz
 rw [zy8, zy8, zdt]
 exact zuc (zd2 ..) k
def yym (H : zz6) (esz : Nat) (d s : AVal) : Option (AVal × Upd) :=
 (zjl d).bind fun dl => (zjl s).bind fun sl => (aCells H esz s).bind fun cells =>
 let n := min sl dl
 if n * esz = 0 then some (zsk n, .same) else
 match d with
 | .slice A ver off _ _ _ _ => (zjr H A ver off (cells.take (n * esz))).map fun u => (zsk n, u)
 | _ => none
theorem yw5 (H : zz6) (esz : Nat) (d s : AVal) : zdy H esz d s = (yym H esz d s).map fun (v, u) => (v, u.app H) := by
 unfold zdy yym
 cases zjl d with
 | none => rfl
 | some dl =>
  cases zjl s with
  | none => rfl
  | some sl =>
   cases aCells H esz s with
   | none => rfl
   | some cells =>
    simp only [Option.bind_some]
    by_cases h : min sl dl * esz = 0
    ·simp only [if_pos h]; rfl
    ·simp only [if_neg h]
     cases d with
     | slice A ver off a b c e =>
      dsimp only
      rw [zlh]
      cases zjr H A ver off (cells.take (min sl dl * esz)) <;> rfl
     | _ => rfl
noncomputable def yqh (H : zz6) (esz : Nat) (d s : AVal) : Option (AVal × Upd) :=
 (zjl d).bind fun dl => (zjl s).bind fun sl => (zfd H esz s).bind fun cells =>
 let n := min sl dl
 if n * esz = 0 then some (zsk n, .same) else
 match d with
 | .slice A ver off _ _ _ _ => (zvm H A ver off (ltk (n * esz) cells)).map fun p => (zsk n, .put p.1 p.2)
 | _ => none
theorem yx3 (H : zz6) (esz : Nat) (d s : AVal) : yqh H esz d s = yym H esz d s := by
 unfold yqh yym
 have hw : ∀ A ver off vals (v : AVal), ((zvm H A ver off vals).map fun p => (v, Upd.put p.1 p.2)) = (zjr H A ver off vals).map fun u => (v, u) := fun A ver off vals v => by
  rw [← zsu, Option.map_map]; rfl
 simp only [zlv, hw, zst]
noncomputable def yqe (e : Nat) (d s : AOpd) : FOp := fun or tm H k => okU (yqh H e (fEv tm d) (fEv tm s)) H k
theorem yww (e : Nat) (d s : AOpd) : FOk (yqe e d s) (.copy e d s) := fun or tm H k => by
 unfold yqe
 rw [zy8, zy8, yx3]
 exact zuc (yw5 ..) k
noncomputable def zu9 (len esz : Nat) (zero : List AVal) (parts : List (Nat × Nat × AOpd)) : FOp := fun or tm H k =>
 okU ((yws (parts.map fun (o, n, x) => (o, n, fEv tm x)) (yxa len zero)).map fun cells => (.slice H.next 0 0 len len true esz, .push (.row [some (0, cells)]))) H k
theorem zp9 (len esz : Nat) (zero : List AVal) (parts : List (Nat × Nat × AOpd)) : FOk (zu9 len esz zero parts) (.buildSlice len esz zero parts) := fun or tm H k => by
 unfold zu9
 refine zuc ?_ k
 simp only [zwq, aOp, Option.map_map, zy8, zmz, ze5]
 rfl
noncomputable def ztq (esz bytes : Nat) (zero : List AVal) (l c : AOpd) : FOp := fun or tm H k =>
 match fEv tm l, fEv tm c with
 | .raw (.int .i64 l), .raw (.int .i64 c) =>
  if ile 0 l && ile l c && ile (bytes * c) 281474976710656 && ile c 281474976710656 then zrc H (.row [some (0, yxa c.toNat zero)]) fun H' => k (.slice H.next 0 0 l.toNat c.toNat true esz) H' else none
 | _, _ => none
theorem znc (esz bytes : Nat) (zero : List AVal) (l c : AOpd) : FOk (ztq esz bytes zero l c) (.makeSlice esz bytes zero l c) := fun or tm H k => by
 unfold ztq
 rw [zy8, zy8]
 simp only [zwq, aOp, zj2, ze5]
 generalize ev tm l = u
 generalize ev tm c = v
 cases u with
 | raw a => cases a with
  | int ka na => cases v with
   | raw b => cases b with
    | int kb nb => cases ka <;> cases kb <;> first | rfl | (dsimp only; split <;> rfl)
    | _ => cases ka <;> rfl
   | _ => cases ka <;> rfl
  | _ => rfl
 | _ => rfl
noncomputable def znq : FOp := fun or tm H k => zrc H (.map [] 0) fun H' => k (.map H.next) H'
theorem zg1 : FOk znq .makeMap := fun or tm H k => by simp only [znq, zj2, zwq, aOp, ok2]
def zt0 (H : zz6) (m k v : AVal) : Option (AVal × Upd) :=
 match m, k with
 | .map M, .raw (.int kk n) => match H.get M with
  | some (.map es clock) => (zwe kk n es 0).map fun
   | some (i, _, _) => (zzc, .put M (.map (setVal v es i) clock))
   | none => (zzc, .put M (.map (es ++ [(k, v, clock)]) (clock + 1)))
  | _ => none
 | _, _ => none
theorem znj (H : zz6) (m k v : AVal) : ((zwr H m k v).map fun H' => (zzc, H')) = (zt0 H m k v).map fun (v, u) => (v, u.app H) := by
 unfold zwr zt0
 cases m with
 | map M => cases k with
  | raw c => cases c with
   | int kk n =>
    dsimp only
    cases H.get M with
    | none => rfl
    | some o => cases o with
     | map es clock => dsimp only; (cases zwe kk n es 0 with | none => rfl | some r => cases r <;> rfl)
     | _ => rfl
   | _ => rfl
  | _ => rfl
 | raw c => cases c with
  | map r => cases r <;> first | rfl | (cases k <;> rfl)
  | _ => first | rfl | (cases k <;> rfl)
 | _ => first | rfl | (cases k <;> rfl)
noncomputable def zt4 (m k v : AOpd) : FOp := fun or tm H c => okU (zt0 H (fEv tm m) (fEv tm k) (fEv tm v)) H c
theorem zmr (m k v : AOpd) : FOk (zt4 m k v) (.mapUpdate m k v) := fun or tm H c => by
 unfold zt4
 rw [zy8, zy8, zy8]
 exact zuc (znj ..) c
def zrt (H : zz6) (zero m k : AVal) : Option (AVal × Upd) :=
 match m, k with
 | .map M, .raw (.int kk n) => match H.get M with
  | some (.map es clock) => (zwe kk n es 0).map fun
   | some (_, v, b) => (.tuple [v, zsk b], .same)
   | none => (.tuple [zero, zsk clock], .put M (.map (es ++ [(k, zero, clock)]) (clock + 1)))
  | _ => none
 | _, _ => none
theorem zhq (H : zz6) (zero m k : AVal) : zbr H zero m k = (zrt H zero m k).map fun (v, u) => (v, u.app H) := by
 unfold zbr zrt
 cases m with
 | map M => cases k with
  | raw c => cases c with
   | int kk n =>
    dsimp only
    cases H.get M with
    | none => rfl
    | some o => cases o with
     | map es clock => dsimp only; (cases zwe kk n es 0 with | none => rfl | some r => cases r <;> rfl)
     | _ => rfl
   | _ => rfl
  | _ => rfl
 | raw c => cases c with
  | map r => cases r <;> first | rfl | (cases k <;> rfl)
  | _ => first | rfl | (cases k <;> rfl)
 | _ => first | rfl | (cases k <;> rfl)
noncomputable def zrv (z : AVal) (m k : AOpd) : FOp := fun or tm H c => okU (zrt H z (fEv tm m) (fEv tm k)) H c
theorem zlu (z : AVal) (m k : AOpd) : FOk (zrv z m k) (.mapEntry z m k) := fun or tm H c => by
 unfold zrv
 rw [zy8, zy8]
 exact zuc (zhq ..) c
def zu3 (H : zz6) (m s v : AVal) : Option (AVal × Upd) :=
 match m, s with
 | .map M, .raw (.int _ n) => match H.get M with
  | some (.map es clock) => (zv2 n es 0).map fun i => (zzc, .put M (.map (setVal v es i) clock))
  | _ => none
 | _, _ => none
theorem zp7 (H : zz6) (m s v : AVal) : ((zkw H m s v).map fun H' => (zzc, H')) = (zu3 H m s v).map fun (v, u) => (v, u.app H) := by
 unfold zkw zu3
 cases m with
 | map M => cases s with
  | raw c => cases c with
   | int kk n =>
    dsimp only
    cases H.get M with
    | none => rfl
    | some o => cases o with
     | map es clock => dsimp only; cases zv2 n es 0 <;> rfl
     | _ => rfl
   | _ => rfl
  | _ => rfl
 | raw c => cases c with
  | map r => cases r <;> first | rfl | (cases s <;> rfl)
  | _ => first | rfl | (cases s <;> rfl)
 | _ => first | rfl | (cases s <;> rfl)
noncomputable def zu5 (m s v : AOpd) : FOp := fun or tm H c => okU (zu3 H (fEv tm m) (fEv tm s) (fEv tm v)) H c
theorem zpx (m s v : AOpd) : FOk (zu5 m s v) (.entryStore m s v) := fun or tm H c => by
 unfold zu5
 rw [zy8, zy8, zy8]
 exact zuc (zp7 ..) c
def zbc (H : zz6) (m k : AVal) : Option (AVal × Upd) :=
 match m, k with
 | .raw (.map none), _ => some (zzc, .same)
 | .map M, .raw (.int kk n) => match H.get M with
  | some (.map es clock) => (zwe kk n es 0).map fun
   | some (i, _, _) => (zzc, .put M (.map (es.eraseIdx i) clock))
   | none => (zzc, .same)
  | _ => none
 | _, _ => none
theorem znm (H : zz6) (m k : AVal) : ((zq2 H m k).map fun H' => (zzc, H')) = (zbc H m k).map fun (v, u) => (v, u.app H) := by
 unfold zq2 zbc
 cases m with
 | map M => cases k with
  | raw c => cases c with
   | int kk n =>
    dsimp only
    cases H.get M with
    | none => rfl
    | some o => cases o with
     | map es clock => dsimp only; (cases zwe kk n es 0 with | none => rfl | some r => cases r <;> rfl)
     | _ => rfl
   | _ => rfl
  | _ => rfl
 | raw c => cases c with
  | map r => cases r <;> first | rfl | (cases k <;> rfl)
  | _ => first | rfl | (cases k <;> rfl)
 | _ => first | rfl | (cases k <;> rfl)
noncomputable def zt6 (m k : AOpd) : FOp := fun or tm H c => okU (zbc H (fEv tm m) (fEv tm k)) H c
theorem zmj (m k : AOpd) : FOk (zt6 m k) (.mapDelete m k) := fun or tm H c => by
 unfold zt6
 rw [zy8, zy8]
 exact zuc (znm ..) c
def zu2 (H : zz6) (A : Nat) : Option (AVal × Upd) :=
 match H.get A with
 | some (.iter none _ _ _) => some (.tuple [zzt false], .same)
 | some (.iter (some M) since seen last) => match H.get M with
  | some (.map es clock) => (yxy es since seen last).map fun
   | none => (.tuple [zzt false], .same)
   | some (k, v, b) => (.tuple [zzt true, k, v], .put A (.iter (some M) since (seen ++ [b]) clock))
  | _ => none
 | _ => none
theorem zp5 (H : zz6) (A : Nat) : zk8 H A = (zu2 H A).map fun (v, u) => (v, u.app H) := by
 unfold zk8 zu2
 cases H.get A with
 | none => rfl
 | some o => cases o with
  | iter M since seen last =>
   cases M with
   | none => rfl
   | some M =>
    dsimp only
    cases H.get M with
    | none => rfl
    | some o => cases o with
     | map es clock => dsimp only; (cases yxy es since seen last with | none => rfl | some r => cases r <;> rfl)
     | _ => rfl
  | _ => rfl
def zlq (H : zz6) (x : AVal) : Option (AVal × Upd) :=
 match x with
 | .ptr A 0 0 => zu2 H A
 | _ => none
theorem zl7 (H : zz6) (x : AVal) : zr6 H x = (zlq H x).map fun (v, u) => (v, u.app H) := by
 cases x with
 | ptr A ver off => cases ver with
  | succ _ => rfl
  | zero => cases off with
   | succ _ => rfl
   | zero => exact zp5 H A
 | _ => rfl
noncomputable def zre (x : AOpd) : FOp := fun or tm H c => okU (zlq H (fEv tm x)) H c
theorem zl2 (x : AOpd) : FOk (zre x) (.iterNext x) := fun or tm H c => by
 unfold zre
 rw [zy8]
 exact zuc (zl7 ..) c
def zm5 (H : zz6) (x : AVal) : Option (AVal × Upd) :=
 match x with
 | .raw (.map none) => some (.ptr H.next 0 0, .push (.iter none 0 [] 0))
 | .map M => match H.get M with
  | some (.map _ clock) => some (.ptr H.next 0 0, .push (.iter (some M) clock [] clock))
  | _ => none
 | _ => none
theorem zg7 (H : zz6) (x : AVal) : zb5 H x = (zm5 H x).map fun (v, u) => (v, u.app H) := by
 unfold zb5 zm5
 cases x with
 | raw c => cases c with
  | map r => cases r <;> rfl
  | _ => rfl
 | map M =>
  dsimp only
  cases H.get M with
  | none => rfl
  | some o => cases o <;> rfl
 | _ => rfl
noncomputable def znt (x : AOpd) : FOp := fun or tm H c => okU (zm5 H (fEv tm x)) H c
theorem zgw (x : AOpd) : FOk (znt x) (.iterNew x) := fun or tm H c => by
 unfold znt
 rw [zy8]
 exact zuc (zg7 ..) c
noncomputable def vK {R : Type} (v : AVal) (k : AVal → R) : R :=
 match v with
 | .raw c => match c with
  | .int kd n => iK n fun n' => k (.raw (.int kd n'))
  | .bool b => Bool.rec (motive := fun _ => R) (k (.raw (.bool false))) (k (.raw (.bool true))) b
  | c => k (.raw c)
 | .ptr A ver off => nK A fun A' => nK ver fun ver' => nK off fun off' => k (.ptr A' ver' off')
 | .slice A ver off len kc ex ez => nK A fun A' => nK ver fun ver' => nK off fun off' => nK len fun len' => nK kc fun kc' => k (.slice A' ver' off' len' kc' ex ez)
 | .map M => nK M fun M' => k (.map M')
 | v => k v
theorem yjp {R : Type} (v : AVal) (k : AVal → R) : vK v k = k v := by
 cases v with
 | raw c => cases c <;> simp only [vK, yjg] <;> (rename_i b; cases b <;> rfl)
 | ptr A ver off => simp only [vK, zmh]
 | slice A ver off len kc ex ez => simp only [vK, zmh]
 | map M => simp only [vK, zmh]
 | _ => rfl
noncomputable def yq5 (c a b : AOpd) : FOp := fun or tm H k =>
 match fEv tm c with
 | .raw (.bool t) => Bool.rec (motive := fun _ => Res) (k (fEv tm b) H) (k (fEv tm a) H) t
 | _ => none
theorem yyc (c a b : AOpd) : FOk (yq5 c a b) (.pick c a b) := fun or tm H k => by
 unfold yq5
 simp only [zy8, zwq, aOp]
 generalize ev tm c = u
 cases u with
 | raw v => cases v with
  | bool t => cases t <;> rfl
  | _ => rfl
 | _ => rfl
noncomputable def fUn (op : UnOp) (x : AOpd) : FOp := fun or tm H k =>
 match aUn op (fEv tm x) with
 | some v => k v H
 | none => none
theorem yk8 (op : UnOp) (x : AOpd) : FOk (fUn op x) (.un op x) := fun or tm H k => by
 unfold fUn
 simp only [zy8, zwq, aOp]
 cases aUn op (ev tm x) <;> rfl
noncomputable def zsg (x : AOpd) : FOp := fun or tm H k =>
 match fEv tm x with
 | .ptr A v o => k (.ptr A v o) H
 | .func fn cs => k (.func fn cs) H
 | .yield L => k (.yield L) H
 | .map M => k (.map M) H
 | _ => none
theorem zly (x : AOpd) : FOk (zsg x) (.nilCheck x) := fun or tm H k => by
 unfold zsg
 simp only [zy8, zwq, aOp]
 cases ev tm x <;> rfl
noncomputable def yjf (kind : Nat) (x : AOpd) : FOp := fun or tm H k =>
 match kind with
 | 0 => match znb (fEv tm x) with | some v => k v H | none => none
 | 1 => match zyy (fEv tm x) with | some v => k v H | none => none
 | _ => match zds H (fEv tm x) with | some v => k v H | none => none
theorem yvm (kind : Nat) (x : AOpd) : FOk (yjf kind x) (.len kind x) := fun or tm H k => by
 unfold yjf
 simp only [zy8, zwq, aOp]
 match kind with
 | 0 => simp only; cases znb (ev tm x) <;> rfl
 | 1 => simp only; cases zyy (ev tm x) <;> rfl
 | n + 2 => simp only; cases zds H (ev tm x) <;> rfl
noncomputable def zf4 (zero : AVal) (ok : Bool) (x y : AOpd) : FOp := fun or tm H k =>
 match zzr H zero ok (fEv tm x) (fEv tm y) with
 | some v => k v H
 | none => none
theorem zd9 (zero : AVal) (ok : Bool) (x y : AOpd) : FOk (zf4 zero ok x y) (.lookup zero ok x y) := fun or tm H k => by
 unfold zf4
 simp only [zy8, zwq, aOp]
 cases zzr H zero ok (ev tm x) (ev tm y) <;> rfl
noncomputable def yut (neg : Bool) (p : zv6) (x y : AOpd) : FOp := fun or tm H k =>
 match zxh p (fEv tm x) (fEv tm y) with
 | some b => k (zzt (if neg then !b else b)) H
 | none => none
theorem yvh (neg : Bool) (p : zv6) (x y : AOpd) : FOk (yut neg p x y) (.eqP neg p x y) := fun or tm H k => by
 unfold yut
 simp only [zy8, zwq, aOp]
 cases zxh p (ev tm x) (ev tm y) <;> rfl
noncomputable def yqg (kd : IntKind) (x : AOpd) : FOp := fun or tm H k =>
 match fEv tm x with
 | .raw (.int _ n) => k (.raw (.int kd (zq3 kd n))) H
 | _ => none
theorem yxv (kd : IntKind) (x : AOpd) : FOk (yqg kd x) (.conv kd x) := fun or tm H k => by
 unfold yqg
 simp only [zy8, zwq, aOp]
 generalize ev tm x = u
 cases u with
 | raw v => cases v <;> rfl
 | _ => rfl
noncomputable def yyu (zero : List AVal) (parts : List (Nat × Nat × AOpd)) : FOp := fun or tm H k =>
 match yws (parts.map fun (o, n, x) => (o, n, fEv tm x)) zero with
 | some cs => k (.agg cs) H
 | none => none
theorem zcs (zero : List AVal) (parts : List (Nat × Nat × AOpd)) : FOk (yyu zero parts) (.build zero parts) := fun or tm H k => by
 unfold yyu
 simp only [zy8, zwq, aOp, zmz]
 cases zzm zero (parts.map fun (o, n, x) => (o, n, ev tm x)) <;> rfl
noncomputable def zrw (fn : Fn) (caps : List AOpd) : FOp := fun or tm H k => k (.func fn (evs tm caps)) H
theorem zme (fn : Fn) (caps : List AOpd) : FOk (zrw fn caps) (.makeFunc fn caps) := fun or tm H k => by
 unfold zrw
 simp only [yy6, zwq, aOp, ok2]
noncomputable def zgd (esz : Nat) (x : AOpd) (lo hi mx : Option AOpd) : FOp := fun or tm H k =>
 match zye esz (fEv tm x) (lo.map (fEv tm)) (hi.map (fEv tm)) (mx.map (fEv tm)) with
 | some v => k v H
 | none => none
theorem zc9 (esz : Nat) (x : AOpd) (lo hi mx : Option AOpd) : FOk (zgd esz x lo hi mx) (.sliceS esz x lo hi mx) := fun or tm H k => by
 unfold zgd
 have e : fEv (zwd tm) = ev tm := by funext y; exact zy8 tm y
 rw [e]
 simp only [zwq, aOp]
 cases zye esz (ev tm x) (lo.map (ev tm)) (hi.map (ev tm)) (mx.map (ev tm)) <;> rfl
noncomputable def zgy (x i : AOpd) : FOp := fun or tm H k =>
 match fEv tm x, fEv tm i with
 | .raw (.string s), .raw (.int _ i) => if ile 0 i then (match s.data.toList[i.toNat]? with | some b => k (.raw (.int .u8 b.toNat)) H | none => none) else none
 | _, _ => none
theorem zde (x i : AOpd) : FOk (zgy x i) (.idxStr x i) := fun or tm H k => by
 unfold zgy
 simp only [zy8, zwq, aOp]
 generalize ev tm x = u
 generalize ev tm i = v
 cases u with
 | raw a => cases a with
  | string s => cases v with
   | raw b => cases b with
    | int kb n =>
     dsimp only
     cases ile 0 n with
     | false => rfl
     | true =>
      simp only [if_true]
      cases s.data.toList[n.toNat]? <;> rfl
    | _ => rfl
   | _ => rfl
  | _ => rfl
 | _ => rfl
noncomputable def fOp (op : AOp) : FOp :=
 AOp.rec (motive := fun _ => FOp) yq2 yq5 yy2 yu5 yyu zu9
  (fun agg n x => Bool.rec (motive := fun _ => FOp) (Bool.rec (motive := fun _ => FOp) (znd (.load false n x)) (zfk x) (Nat.beq n 1)) (zcn n x) agg) yy4 zsg yu2 yut fUn
  yqg (fun a => znd (.strOfBytes a)) (fun a => znd (.strId a)) zg3 za9 (fun a b c d => znd (.idxAddrA a b c d)) yv3 (fun a b c d e => znd (.idxA a b c d e)) zgy
  (fun a b c d e f => znd (.sliceA a b c d e f)) zgd (fun a b c => znd (.sliceStr a b c)) ztq znq zf4 zt4
  zrv zu5 zt6 zrw (fun a b => znd (.makeIface a b)) yq3 zgz yqe
  yjf (fun a b => znd (.lenC a b)) (fun a b => znd (.minmax a b)) zm6 (znd .bad) znt zre (fun a => znd (.iterEntry a)) (fun a => znd (.clearM a)) (fun a b => znd (.clearS a b)) (fun a => znd (.cap a)) (fun a b c d e => znd (.appendZ a b c d e)) op
theorem yyq (op : AOp) : FOk (fOp op) op := by
 cases op
 case move x => exact yx5 x
 case alloc z => exact zal z
 case box x => exact yvk x
 case store n a x => exact yzk n a x
 case bin o x y => exact yqn o x y
 case ptrAdd o x => exact zc3 o x
 case field a o n x => exact yy7 a o n x
 case idxAddrS e x i => exact yxe e x i
 case call f as => exact yyh f as
 case extract i x => exact zg8 i x
 case pick a b c => exact yyc a b c
 case build a b => exact zcs a b
 case nilCheck a => exact zly a
 case eqP a b c d => exact yvh a b c d
 case un a b => exact yk8 a b
 case conv a b => exact yxv a b
 case idxStr a b => exact zde a b
 case sliceS a b c d e => exact zc9 a b c d e
 case lookup a b c d => exact zd9 a b c d
 case makeFunc a b => exact zme a b
 case len a b => exact yvm a b
 case append e b s x => exact zd7 e b s x
 case copy e d s => exact yww e d s
 case buildSlice a b c d => exact zp9 a b c d
 case makeSlice a b c d e => exact znc a b c d e
 case makeMap => exact zg1
 case mapUpdate m k v => exact zmr m k v
 case mapEntry z m k => exact zlu z m k
 case entryStore m s v => exact zpx m s v
 case mapDelete m k => exact zmj m k
 case iterNew x => exact zgw x
 case iterNext x => exact zl2 x
 case load agg n x =>
  cases agg with
  | true => exact zag n x
  | false =>
   show FOk (Bool.rec (motive := fun _ => FOp) (znd (.load false n x)) (zfk x) (Nat.beq n 1)) _
   cases h : Nat.beq n 1 with
   | false => exact za0 fun _ _ => by simp
   | true =>
    have := Nat.beq_eq.mp h
    subst this
    exact yzt x
 all_goals exact za0 fun _ _ => by simp
end Go.Vm
