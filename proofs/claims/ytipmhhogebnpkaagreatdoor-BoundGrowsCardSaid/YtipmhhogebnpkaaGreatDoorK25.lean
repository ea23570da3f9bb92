/- The abstract machine, part 38: what a walk rewrites by; short names of the printed code. -/
import Derived.Test.YtipmhhogebnpkaaGreatDoorK24
import Derived.Test.YtipmhhogebnpkaaGreatDoorK21
namespace Go.Vm
open Go

set_option linter.unusedVariables false
set_option linter.unusedSimpArgs false

/-! ### Short names -/

abbrev zb : AVal := .raw (.int .u8 0)
abbrev zi : AVal := .raw (.int .i64 0)
abbrev ns : AVal := .raw (.slice none 0 0)
abbrev ki (n : Int) : AVal := .raw (.int .i64 n)
abbrev ci : AOpd := .c zi
abbrev mv (n : Nat) : AOp := .move (.t n)
abbrev qq (d : Nat) (x : AOp) (u : List Nat) : AOper := ⟨some d, x, none, [], u, .quiet⟩
abbrev qr (d : Nat) (x : AOp) (a u : List Nat) (m : Go.Vm.Mode) : AOper := ⟨some d, x, none, a, u, m⟩
abbrev gm (d : Nat) (x : AOp) (g : Nat) (b : Bool) (a u : List Nat) : AOper := ⟨some d, x, some (g, b), a, u, .quiet⟩

/-! ### Integers -/

@[simp high] theorem ile_t {a b : Int} (h : a ≤ b) : ile a b = true := by simp [ile_eq, h]
@[simp high] theorem ile_f {a b : Int} (h : b < a) : ile a b = false := by simp [ile_eq]; omega
@[simp high] theorem ilt_t {a b : Int} (h : a < b) : ilt a b = true := by simp [ilt_eq, h]
@[simp high] theorem ilt_f {a b : Int} (h : b ≤ a) : ilt a b = false := by simp [ilt_eq]; omega
@[simp high] theorem ieq_t {a b : Int} (h : a = b) : ieq a b = true := by simp [ieq_eq, h]
@[simp high] theorem ieq_f {a b : Int} (h : a ≠ b) : ieq a b = false := by simp [ieq_eq, h]
@[simp] theorem wrapI' {n : Int} (h : -9223372036854775808 ≤ n ∧ n < 9223372036854775808) : wrapF .i64 n = n := wrapI h.1 h.2
@[simp] theorem wrapU' {n : Int} (h : 0 ≤ n ∧ n < 18446744073709551616) : wrapF .u64 n = n := wrapU h.1 h.2
attribute [simp] ile_eq ilt_eq ieq_eq

/-! ### Addresses -/

def aeq (a b : Nat) : Bool := Nat.beq a b
@[simp high] theorem aeq_t {a b : Nat} (h : a = b) : aeq a b = true := by simp [aeq, h]
@[simp high] theorem aeq_f {a b : Nat} (h : a ≠ b) : aeq a b = false := Bool.eq_false_iff.2 fun e => h (Nat.beq_eq.mp e)

def rowOf (ver : Nat) : Option AObj → Option (List AVal)
  | some (.row vs) => match vs[ver]? with | some (some (_, l)) => some l | _ => none
  | some (.ro l) => if ver = 0 then some l else none
  | _ => none

@[simp] theorem get_push' (H : AHeap) (B : Nat) (o : AObj) : (H.push o).get B = bif aeq B H.next then some o else H.get B := by
  rw [AHeap.get_push]; by_cases h : B = H.next <;> simp [h]
@[simp] theorem get_set' (H : AHeap) (A B : Nat) (o : AObj) : (H.set A o).get B = bif aeq B A then some o else H.get B := by
  rw [AHeap.get_set]; by_cases h : B = A <;> simp [h]
theorem rowAt_eq (H : AHeap) (A v : Nat) : H.rowAt A v = rowOf v (H.get A) := rfl
@[simp] theorem rowAt_push' (H : AHeap) (B v : Nat) (o : AObj) : (H.push o).rowAt B v = bif aeq B H.next then rowOf v (some o) else H.rowAt B v := by
  rw [rowAt_eq, rowAt_eq, get_push']; cases aeq B H.next <;> rfl
@[simp] theorem rowAt_set' (H : AHeap) (A B v : Nat) (o : AObj) : (H.set A o).rowAt B v = bif aeq B A then rowOf v (some o) else H.rowAt B v := by
  rw [rowAt_eq, rowAt_eq, get_set']; cases aeq B A <;> rfl

/-- The same blocks, more addresses gone. -/
def AHeap.up (H : AHeap) (m : Nat) : AHeap := { next := H.next + m, tr := H.tr }
@[simp] theorem get_up (H : AHeap) (m A : Nat) : (H.up m).get A = H.get A := rfl
@[simp] theorem next_up (H : AHeap) (m : Nat) : (H.up m).next = H.next + m := rfl
@[simp] theorem rowAt_up (H : AHeap) (m A v : Nat) : (H.up m).rowAt A v = H.rowAt A v := rfl

attribute [simp] rowOf killAt spl List.getElem?_cons_zero List.getElem?_cons_succ

@[simp] theorem ifle_t {α : Type} {a b : Nat} {x y : α} (h : a ≤ b) : (if a ≤ b then x else y) = x := if_pos h
@[simp] theorem ifle_f {α : Type} {a b : Nat} {x y : α} (h : b < a) : (if a ≤ b then x else y) = y := if_neg (by omega)

@[simp] theorem cells_int (k : IntKind) (a : Int) : (AVal.raw (.int k a)).cells = [.raw (.int k a)] := rfl
@[simp] theorem cells_bool (b : Bool) : (AVal.raw (.bool b)).cells = [.raw (.bool b)] := rfl
@[simp] theorem cells_ns (a b : Nat) : (AVal.raw (.slice none a b)).cells = [.raw (.slice none a b)] := rfl
@[simp] theorem cells_np : (AVal.raw (.pointer none)).cells = [.raw (.pointer none)] := rfl
@[simp] theorem cells_nm : (AVal.raw (.map none)).cells = [.raw (.map none)] := rfl
@[simp] theorem cells_ptr (a b c : Nat) : (AVal.ptr a b c).cells = [.ptr a b c] := rfl
@[simp] theorem cells_slice (a b c d e : Nat) (f : Bool) (g : Nat) : (AVal.slice a b c d e f g).cells = [.slice a b c d e f g] := rfl
@[simp] theorem cells_map (a : Nat) : (AVal.map a).cells = [.map a] := rfl
@[simp] theorem cells_agg (cs : List AVal) : (AVal.agg cs).cells = cs := rfl

/-! ### A row that is written -/

/-- Over H0 but for the row R, whose version 'ver' holds these cells. -/
structure RowW (H0 : AHeap) (R ver nv : Nat) (cells : List AVal) (H : AHeap) : Prop where
  row : ∃ vs, H.get R = some (.row vs) ∧ vs.length = nv ∧ vs[ver]? = some (some (0, cells))
  next : H.next = H0.next
  other : ∀ A, A ≠ R → H.get A = H0.get A

theorem RowW.at {H0 H : AHeap} {R ver nv : Nat} {cells : List AVal} (h : RowW H0 R ver nv cells H) : H.rowAt R ver = some cells := by
  obtain ⟨vs, h1, h2, h3⟩ := h.row
  rw [rowAt_eq, h1]; simp [h3]

theorem killAt_len (p n : Nat) : ∀ vs : Vers, (killAt p n vs).length = vs.length
  | [] => rfl
  | none :: r => by simp [killAt, killAt_len p n r]
  | some (rel, l) :: r => by simp [killAt, killAt_len p n r]

theorem RowW.write {H0 H : AHeap} {R ver nv : Nat} {cells : List AVal} (h : RowW H0 R ver nv cells H) {off : Nat} {vals : List AVal} (h0 : 0 < vals.length) (h1 : off + vals.length ≤ cells.length) (hv : vals.all AVal.one = true) :
    ∃ H', H.write R ver off vals = some H' ∧ RowW H0 R ver nv (cells.take off ++ (vals ++ cells.drop (off + vals.length))) H' := by
  obtain ⟨vs, a1, a2, a3⟩ := h.row
  have hlt := (List.getElem?_eq_some_iff.1 a3).1
  refine ⟨_, by unfold AHeap.write; rw [a1]; simp only [a3, h0, h1, hv, decide_true, Bool.and_self, if_true]; rfl, ⟨_, AHeap.get_set_same _ _ _, ?_, ?_⟩, h.next, fun A hA => by rw [AHeap.get_set_ne _ _ hA]; exact h.other A hA⟩
  · rw [List.length_set, killAt_len, a2]
  · rw [List.getElem?_set_self (by rw [killAt_len]; exact hlt)]; rfl

attribute [simp] look dropK putK pruneK SubK evK evsK eoK csK psK subK wantK opK opK2 putR callK stepO stepW stepK fltW fltK yldV yldW yldK askV askK resK ressK argK QSeq QBlk EndK
@[simp] theorem isTup_undef : isTup (.raw undef) = true := rfl
@[simp] theorem beq_int (k : IntKind) (a : Int) : AVal.beq (.raw (.int k a)) (.raw (.int k a)) = true := by cases k <;> simp [AVal.beq, valBeq, ieq_eq]
@[simp] theorem beq_bool (b : Bool) : AVal.beq (.raw (.bool b)) (.raw (.bool b)) = true := by simp [AVal.beq, valBeq]
@[simp] theorem beq_ns (a b : Nat) : AVal.beq (.raw (.slice none a b)) (.raw (.slice none a b)) = true := by simp [AVal.beq, valBeq]
@[simp] theorem beq_np : AVal.beq (.raw (.pointer none)) (.raw (.pointer none)) = true := rfl
@[simp] theorem beq_nm : AVal.beq (.raw (.map none)) (.raw (.map none)) = true := rfl
@[simp] theorem beq_ptr (a b c : Nat) : AVal.beq (.ptr a b c) (.ptr a b c) = true := by simp [AVal.beq]
@[simp] theorem beq_slice (a b c d e : Nat) (f : Bool) (g : Nat) : AVal.beq (.slice a b c d e f g) (.slice a b c d e f g) = true := by simp [AVal.beq]
@[simp] theorem beq_map (a : Nat) : AVal.beq (.map a) (.map a) = true := by simp [AVal.beq]
@[simp] theorem beq_agg (cs ds : List AVal) : AVal.beq (.agg cs) (.agg ds) = AVal.beqs cs ds := by simp [AVal.beq]
@[simp] theorem beqs_nil : AVal.beqs [] [] = true := by simp [AVal.beqs]
@[simp] theorem beqs_cons (a b : AVal) (as bs : List AVal) : AVal.beqs (a :: as) (b :: bs) = (AVal.beq a b && AVal.beqs as bs) := by simp [AVal.beqs]
@[simp] theorem beq_tup (cs ds : List AVal) : AVal.beq (.tuple cs) (.tuple ds) = AVal.beqs cs ds := by simp [AVal.beq]
attribute [simp] aOp ev aRess aRes1 tup aBin aUn aArith aPart hasN

@[congr] theorem bindK {α β : Type} {x y : Option α} (f : α → Option β) (h : x = y) : x.bind f = y.bind f := by rw [h]
@[congr] theorem mapK {α β : Type} {x y : Option α} (f : α → β) (h : x = y) : x.map f = y.map f := by rw [h]

end Go.Vm
namespace Go.Vm
open Go
abbrev nk (d x : Nat) (a : List Nat) : AOper := qr d (.nilCheck (.t x)) a [x] .quiet
abbrev pa (d o x : Nat) (a : List Nat) : AOper := qr d (.ptrAdd o (.t x)) a [x] .quiet
abbrev lt (d n x : Nat) (a : List Nat) : AOper := qr d (.load true n (.t x)) a [x] .quiet
abbrev lf (d n x : Nat) (a : List Nat) : AOper := qr d (.load false n (.t x)) a [x] .quiet
abbrev xt (d i x : Nat) (a : List Nat) : AOper := qr d (.extract i (.t x)) a [x] .quiet
abbrev qv (d x : Nat) (a : List Nat) : AOper := qr d (mv x) a [x] .quiet
abbrev qm (d x : Nat) : AOper := qq d (mv x) [x]
abbrev cl0 (d f : Nat) (a : List Nat) : AOper := qr d (.call (.c (.func (.func f) [])) []) a [] .any
abbrev cl1 (d f p : Nat) (a : List Nat) : AOper := qr d (.call (.c (.func (.func f) [])) [.t p]) a [p] .any
abbrev cl2 (d f p q : Nat) (a : List Nat) : AOper := qr d (.call (.c (.func (.func f) [])) [.t p, .t q]) a [p, q] .any
abbrev cl3 (d f p q r : Nat) (a : List Nat) : AOper := qr d (.call (.c (.func (.func f) [])) [.t p, .t q, .t r]) a [p, q, r] .any
abbrev cl4 (d f p q r s : Nat) (a : List Nat) : AOper := qr d (.call (.c (.func (.func f) [])) [.t p, .t q, .t r, .t s]) a [p, q, r, s] .any
abbrev cl5 (d f p q r s x : Nat) (a : List Nat) : AOper := qr d (.call (.c (.func (.func f) [])) [.t p, .t q, .t r, .t s, .t x]) a [p, q, r, s, x] .any
abbrev st (n x y : Nat) (a : List Nat) : AOper := ⟨none, .store n (.t x) (.t y), none, a, [x, y], .any⟩
end Go.Vm
