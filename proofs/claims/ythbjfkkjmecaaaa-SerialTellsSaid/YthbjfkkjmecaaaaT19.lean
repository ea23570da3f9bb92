/- The abstract machine, part 38: what a walk rewrites by; short names of the printed code. -/
import Derived.Test.YthbjfkkjmecaaaaT18
import Derived.Test.YthbjfkkjmecaaaaProg
set_option linter.unusedVariables false
set_option linter.unusedSimpArgs false
namespace Go.Vm
open Go
abbrev zb : AVal := .raw (.int .u8 0)
abbrev zi : AVal := .raw (.int .i64 0)
abbrev ns : AVal := .raw (.slice none 0 0)
abbrev ki (n : Int) : AVal := .raw (.int .i64 n)
abbrev ci : AOpd := .c zi
abbrev mv (n : Nat) : AOp := .move (.t n)
abbrev qq (d : Nat) (x : AOp) (u : List Nat) : AOper := ⟨some d, x, none, [], u, .quiet⟩
abbrev qr (d : Nat) (x : AOp) (a u : List Nat) (m : Go.Vm.Mode) : AOper := ⟨some d, x, none, a, u, m⟩
abbrev gm (d : Nat) (x : AOp) (g : Nat) (b : Bool) (a u : List Nat) : AOper := ⟨some d, x, some (g, b), a, u, .quiet⟩
@[simp high] theorem ile_t {a b : Int} (h : a ≤ b) : ile a b = true := by simp [ile_eq, h]
@[simp high] theorem ile_f {a b : Int} (h : b < a) : ile a b = false := by simp [ile_eq]; omega
@[simp high] theorem ilt_t {a b : Int} (h : a < b) : ilt a b = true := by simp [ilt_eq, h]
@[simp high] theorem ilt_f {a b : Int} (h : b ≤ a) : ilt a b = false := by simp [ilt_eq]; omega
@[simp high] theorem ieq_t {a b : Int} (h : a = b) : ieq a b = true := by simp [ieq_eq, h]
@[simp high] theorem ieq_f {a b : Int} (h : a ≠ b) : ieq a b = false := by simp [ieq_eq, h]
@[simp] theorem wrapI' {n : Int} (h : -9223372036854775808 ≤ n ∧ n < 9223372036854775808) : wrapF .i64 n = n := wrapI h.1 h.2
@[simp] theorem wrapU' {n : Int} (h : 0 ≤ n ∧ n < 18446744073709551616) : wrapF .u64 n = n := wrapU h.1 h.2
attribute [simp] ile_eq ilt_eq ieq_eq
def aeq (a b : Nat) : Bool := Nat.beq a b
@[simp high] theorem aeq_t {a b : Nat} (h : a = b) : aeq a b = true := by simp [aeq, h]
@[simp high] theorem aeq_f {a b : Nat} (h : a ≠ b) : aeq a b = false := Bool.eq_false_iff.2 fun e => h (Nat.beq_eq.mp e)
def rowOf (ver : Nat) : Option AObj → Option (List AVal)
  | some (.row vs) => match vs[ver]? with | some (some (_, l)) => some l | _ => none
  | some (.ro l) => if ver = 0 then some l else none
  | _ => none
@[simp] theorem get_push' (H : AHeap) (B : Nat) (o : AObj) : (H.push o).get B = bif aeq B H.next then some o else H.get B := by
  rw [AHeap.get_push]; by_cases h : B = H.next <;> simp [h]
@[simp] theorem get_set' (H : AHeap) (A B : Nat) (o : AObj) : (H.set A o).get B = bif aeq B A then some o else H.get B := by
  rw [AHeap.get_set]; by_cases h : B = A <;> simp [h]
theorem rowAt_eq (H : AHeap) (A v : Nat) : H.rowAt A v = rowOf v (H.get A) := rfl
@[simp] theorem rowAt_push' (H : AHeap) (B v : Nat) (o : AObj) : (H.push o).rowAt B v = bif aeq B H.next then rowOf v (some o) else H.rowAt B v := by
  rw [rowAt_eq, rowAt_eq, get_push']; cases aeq B H.next <;> rfl
@[simp] theorem rowAt_set' (H : AHeap) (A B v : Nat) (o : AObj) : (H.set A o).rowAt B v = bif aeq B A then rowOf v (some o) else H.rowAt B v := by
  rw [rowAt_eq, rowAt_eq, get_set']; cases aeq B A <;> rfl
def AHeap.up (H : AHeap) (m : Nat) : AHeap := { next := H.next + m, tr := H.tr }
@[simp] theorem get_up (H : AHeap) (m A : Nat) : (H.up m).get A = H.get A := rfl
@[simp] theorem next_up (H : AHeap) (m : Nat) : (H.up m).next = H.next + m := rfl
@[simp] theorem rowAt_up (H : AHeap) (m A v : Nat) : (H.up m).rowAt A v = H.rowAt A v := rfl
attribute [simp] rowOf killAt spl List.getElem?_cons_zero List.getElem?_cons_succ
@[simp] theorem ifle_t {α : Type} {a b : Nat} {x y : α} (h : a ≤ b) : (if a ≤ b then x else y) = x := if_pos h
@[simp] theorem ifle_f {α : Type} {a b : Nat} {x y : α} (h : b < a) : (if a ≤ b then x else y) = y := if_neg (by omega)
@[simp] theorem cells_int (k : IntKind) (a : Int) : (AVal.raw (.int k a)).cells = [.raw (.int k a)] := rfl
@[simp] theorem cells_bool (b : Bool) : (AVal.raw (.bool b)).cells = [.raw (.bool b)] := rfl
@[simp] theorem cells_ns (a b : Nat) : (AVal.raw (.slice none a b)).cells = [.raw (.slice none a b)] := rfl
@[simp] theorem cells_np : (AVal.raw (.pointer none)).cells = [.raw (.pointer none)] := rfl
@[simp] theorem cells_nm : (AVal.raw (.map none)).cells = [.raw (.map none)] := rfl
@[simp] theorem cells_ptr (a b c : Nat) : (AVal.ptr a b c).cells = [.ptr a b c] := rfl
@[simp] theorem cells_slice (a b c d e : Nat) (f : Bool) (g : Nat) : (AVal.slice a b c d e f g).cells = [.slice a b c d e f g] := rfl
@[simp] theorem cells_map (a : Nat) : (AVal.map a).cells = [.map a] := rfl
@[simp] theorem cells_agg (cs : List AVal) : (AVal.agg cs).cells = cs := rfl
structure RowW (H0 : AHeap) (R ver nv : Nat) (cells : List AVal) (H : AHeap) : Prop where
  row : ∃ vs, H.get R = some (.row vs) ∧ vs.length = nv ∧ vs[ver]? = some (some (0, cells))
  next : H.next = H0.next
  other : ∀ A, A ≠ R → H.get A = H0.get A
theorem RowW.at {H0 H : AHeap} {R ver nv : Nat} {cells : List AVal} (h : RowW H0 R ver nv cells H) : H.rowAt R ver = some cells := by
  obtain ⟨vs, h1, h2, h3⟩ := h.row
  rw [rowAt_eq, h1]; simp [h3]
theorem set_spl {α : Type} {l : List α} {off : Nat} {v : α} (h : off < l.length) : l.take off ++ ([v] ++ l.drop (off + [v].length)) = l.set off v := by
  rw [List.set_eq_take_append_cons_drop, if_pos h]; rfl
theorem killAt_len (p n : Nat) : ∀ vs : Vers, (killAt p n vs).length = vs.length
  | [] => rfl
  | none :: r => by simp [killAt, killAt_len p n r]
  | some (rel, l) :: r => by simp [killAt, killAt_len p n r]
theorem RowW.write {H0 H : AHeap} {R ver nv : Nat} {cells : List AVal} (h : RowW H0 R ver nv cells H) {off : Nat} {vals : List AVal} (h0 : 0 < vals.length) (h1 : off + vals.length ≤ cells.length) (hv : vals.all AVal.one = true) :
    ∃ H', H.write R ver off vals = some H' ∧ RowW H0 R ver nv (cells.take off ++ (vals ++ cells.drop (off + vals.length))) H' := by
  obtain ⟨vs, a1, a2, a3⟩ := h.row
  have hlt := (List.getElem?_eq_some_iff.1 a3).1
  refine ⟨_, by unfold AHeap.write; rw [a1]; simp only [a3, h0, h1, hv, decide_true, Bool.and_self, if_true]; rfl, ⟨_, AHeap.get_set_same _ _ _, ?_, ?_⟩, h.next, fun A hA => by rw [AHeap.get_set_ne _ _ hA]; exact h.other A hA⟩
  · rw [List.length_set, killAt_len, a2]
  · rw [List.getElem?_set_self (by rw [killAt_len]; exact hlt)]; rfl
attribute [simp] look dropK putK pruneK SubK evK evsK eoK csK psK subK wantK opK opK2 putR callK stepO stepW stepK fltW fltK yldV yldW yldK askV askK resK ressK argK QSeq QBlk EndK
@[simp] theorem isTup_undef : isTup (.raw undef) = true := rfl
@[simp] theorem beq_int (k : IntKind) (a : Int) : AVal.beq (.raw (.int k a)) (.raw (.int k a)) = true := by cases k <;> simp [AVal.beq, valBeq, ieq_eq]
@[simp] theorem beq_bool (b : Bool) : AVal.beq (.raw (.bool b)) (.raw (.bool b)) = true := by simp [AVal.beq, valBeq]
@[simp] theorem beq_ns (a b : Nat) : AVal.beq (.raw (.slice none a b)) (.raw (.slice none a b)) = true := by simp [AVal.beq, valBeq]
@[simp] theorem beq_np : AVal.beq (.raw (.pointer none)) (.raw (.pointer none)) = true := rfl
@[simp] theorem beq_nm : AVal.beq (.raw (.map none)) (.raw (.map none)) = true := rfl
@[simp] theorem beq_ptr (a b c : Nat) : AVal.beq (.ptr a b c) (.ptr a b c) = true := by simp [AVal.beq]
@[simp] theorem beq_slice (a b c d e : Nat) (f : Bool) (g : Nat) : AVal.beq (.slice a b c d e f g) (.slice a b c d e f g) = true := by simp [AVal.beq]
@[simp] theorem beq_map (a : Nat) : AVal.beq (.map a) (.map a) = true := by simp [AVal.beq]
@[simp] theorem beq_agg (cs ds : List AVal) : AVal.beq (.agg cs) (.agg ds) = AVal.beqs cs ds := by simp [AVal.beq]
@[simp] theorem beqs_nil : AVal.beqs [] [] = true := by simp [AVal.beqs]
@[simp] theorem beqs_cons (a b : AVal) (xs ys : List AVal) : AVal.beqs (a :: xs) (b :: ys) = (AVal.beq a b && AVal.beqs xs ys) := by simp [AVal.beqs]
@[simp] theorem beq_tup (cs ds : List AVal) : AVal.beq (.tuple cs) (.tuple ds) = AVal.beqs cs ds := by simp [AVal.beq]
attribute [simp] aOp ev aRess aRes1 tup aBin aUn aArith aPart hasN
@[congr] theorem bindK {α β : Type} {x y : Option α} (f : α → Option β) (h : x = y) : x.bind f = y.bind f := by rw [h]
@[congr] theorem mapK {α β : Type} {x y : Option α} (f : α → β) (h : x = y) : x.map f = y.map f := by rw [h]
end Go.Vm
namespace Go.Proofs.Ythbjfkkjmecaaaa
open Go Go.Vm
set_option maxRecDepth 20000
def a6 : AFunc := ⟨(.seq (.region [qq 8 (.move (.c (.raw (.bool false)))) []]) (.seq (.region [qq 25 (mv 0) [0], qr 26 (.call (.c (.func (.func 11) [])) [(.t 25)]) [0] [25] .any, qr 0 (mv 26) [1,1,0,1] [26] .quiet]) (.seq (.seq (.region [qr 27 (.call (.c (.func (.func 12) [])) []) [] [] .any, qr 28 (.un .not (.t 27)) [0] [27] .quiet, qr 29 (mv 28) [1,0] [28] .quiet, gm 30 (mv 3) 29 false [2] [3], ⟨(some 31), (.bin .eql (.t 30) (.c zb)), (some (29, false)), [3, 2], [30], .quiet⟩, qr 32 (.pick (.t 29) (.c (.raw (.bool true))) (.t 31)) [2,4] [29,31] .quiet]) (.cond (.t 32) (.seq (.region [qr 33 (.call (.c (.func (.func 12) [])) []) [] [] .any, qr 8 (mv 33) [0,0,0] [33] .quiet]) .ret) .skip)) (.seq (.region [qq 35 (mv 0) [0], qq 36 (mv 1) [1], qr 37 (.call (.c (.func (.func 18) [])) [(.t 35), (.t 36)]) [0,1] [35,36] .any, qr 34 (mv 37) [2] [37] .quiet, qr 38 (.extract 0 (.t 34)) [3] [34] .quiet, qr 39 (.extract 1 (.t 34)) [3] [34] .quiet, qr 9 (.alloc [(.raw (.bool false)), zi, zi, zb, zb, zb, zb, zb, zb, zb, zb, zb, zb, zb, zb, zb, zb, zb, zb, zb, zb, zb, zb, zb, zb, zb, zb, zb, zb, zb, zb, zb, zb, zb, zb]) [] [] .makes, ⟨none, (.store 35 (.t 9) (.t 38)), none, [6, 4, 2, 0, 1, 2, 3, 4, 6], [9, 38], .any⟩, qr 10 (mv 39) [5,7,0,1,2,3,4,5,6,7] [39] .quiet]) (.seq (.region [qq 41 (mv 0) [0], qr 42 (.call (.c (.func (.func 17) [])) [(.t 41)]) [0] [41] .any, qr 40 (mv 42) [1] [42] .quiet, qr 43 (.extract 0 (.t 40)) [2] [40] .quiet, qr 44 (.extract 1 (.t 40)) [2] [40] .quiet, qr 11 (mv 43) [3,1,0,1,2,3] [43] .quiet, qr 12 (mv 44) [4,5,0,1,2,3,4,5] [44] .quiet]) (.seq (.region [qq 46 (mv 0) [0], qr 47 (.call (.c (.func (.func 33) [])) [(.t 46)]) [0] [46] .any, qr 45 (mv 47) [1] [47] .quiet, qr 48 (.extract 0 (.t 45)) [2] [45] .quiet, qr 49 (.extract 1 (.t 45)) [2] [45] .quiet, qr 13 (mv 48) [3,1,0,1,2,3] [48] .quiet, qr 14 (mv 49) [4,5,0,1,2,3,4,5] [49] .quiet]) (.seq (.seq (.region [qq 50 (mv 10) [10], qr 51 (.bin .neq (.t 50) ci) [0] [50] .quiet, qr 52 (mv 51) [1] [51] .quiet, gm 53 (mv 12) 52 false [2] [12], ⟨(some 54), (.bin .neq (.t 53) ci), (some (52, false)), [3, 2], [53], .quiet⟩, qr 55 (.pick (.t 52) (.c (.raw (.bool true))) (.t 54)) [2,4] [52,54] .quiet, qr 56 (mv 55) [5,2] [55] .quiet, gm 57 (mv 14) 56 false [6] [14], ⟨(some 58), (.bin .neq (.t 57) ci), (some (56, false)), [7, 6], [57], .quiet⟩, qr 59 (.pick (.t 56) (.c (.raw (.bool true))) (.t 58)) [6,8] [56,58] .quiet, qr 60 (mv 59) [9,6] [59] .quiet, ⟨(some 61), (.ptrAdd 0 (.t 9)), (some (60, false)), [10], [9], .quiet⟩, ⟨(some 62), (.load false 1 (.t 61)), (some (60, false)), [11, 10], [61], .quiet⟩, ⟨(some 63), (.un .not (.t 62)), (some (60, false)), [12, 10], [62], .quiet⟩, qr 64 (.pick (.t 60) (.c (.raw (.bool true))) (.t 63)) [10,13] [60,63] .quiet]) (.cond (.t 64) (.seq (.region [qq 8 (.move (.c (.raw (.bool true)))) []]) .ret) .skip)) (.seq (.region [qq 15 (.move (.c ns)) [], qr 16 (.move (.c ns)) [0] [] .quiet]) (.seq (.seq (.region [qq 17 (.move ci) []]) (.block 0 (.loop (.seq (.seq (.region [qq 65 (mv 17) [17], qq 66 (mv 11) [11], qr 67 (.len 1 (.t 66)) [1] [66] .quiet, qr 68 (.bin .lss (.t 65) (.t 67)) [0,2] [65,67] .quiet]) (.cond (.t 68) .skip (.exit 0))) (.seq (.block 1 (.seq (.seq (.region [qq 71 (mv 11) [11], qq 72 (mv 17) [17], qr 73 (.idxAddrS 1 (.t 71) (.t 72)) [0,1] [71,72] .quiet, qr 74 (.load false 1 (.t 73)) [2] [73] .quiet, qr 75 (.bin .lss (.t 74) ci) [3] [74] .quiet, qr 76 (mv 75) [4] [75] .quiet, gm 77 (mv 11) 76 false [5] [11], gm 78 (mv 17) 76 false [5] [17], ⟨(some 79), (.idxAddrS 1 (.t 77) (.t 78)), (some (76, false)), [6, 7, 5], [77, 78], .quiet⟩, ⟨(some 80), (.load false 1 (.t 79)), (some (76, false)), [8, 5], [79], .quiet⟩, gm 81 (mv 13) 76 false [5] [13], ⟨(some 82), (.len 1 (.t 81)), (some (76, false)), [10, 5], [81], .quiet⟩, ⟨(some 83), (.bin .geq (.t 80) (.t 82)), (some (76, false)), [9, 11, 5], [80, 82], .quiet⟩, qr 84 (.pick (.t 76) (.c (.raw (.bool true))) (.t 83)) [5,12] [76,83] .quiet]) (.cond (.t 84) (.seq (.region [qq 8 (.move (.c (.raw (.bool false)))) []]) .ret) .skip)) (.seq (.region [qq 18 (.move ci) []]) (.block 2 (.loop (.seq (.seq (.region [qq 85 (mv 18) [18], qq 86 (mv 13) [13], qq 87 (mv 11) [11], qq 88 (mv 17) [17], qr 89 (.idxAddrS 1 (.t 87) (.t 88)) [2,3] [87,88] .quiet, qr 90 (.load false 1 (.t 89)) [4] [89] .quiet, qr 91 (.idxAddrS 12 (.t 86) (.t 90)) [1,5] [86,90] .quiet, qr 92 (.ptrAdd 4 (.t 91)) [6] [91] .quiet, qr 93 (.load false 1 (.t 92)) [7] [92] .quiet, qr 94 (.len 1 (.t 93)) [8] [93] .quiet, qr 95 (.bin .lss (.t 85) (.t 94)) [0,9] [85,94] .quiet]) (.cond (.t 95) .skip (.exit 2))) (.seq (.block 3 (.region [qq 98 (mv 15) [15], qq 99 (mv 11) [11], qq 100 (mv 17) [17], qr 101 (.idxAddrS 1 (.t 99) (.t 100)) [1,2] [99,100] .quiet, qr 102 (.load false 1 (.t 101)) [3] [101] .quiet, qr 103 (.buildSlice 1 1 [zi] [(0, 1, (.t 102))]) [4] [102] .makes, qr 104 (.append 1 8 (.t 98) (.t 103)) [0,5] [98,103] .any, qq 105 (mv 16) [16], qq 106 (mv 18) [18], qr 107 (.buildSlice 1 1 [zi] [(0, 1, (.t 106))]) [8] [106] .makes, qr 108 (.append 1 8 (.t 105) (.t 107)) [7,9,6] [105,107] .any, qr 15 (mv 104) [6,10,0,1,2,3,4,5,6] [104] .quiet, qr 16 (mv 108) [10,11,0,1,2,3,4,5,6,7,8,9,10,11] [108] .quiet])) (.region [qq 96 (mv 18) [18], qr 97 (.bin .add (.t 96) (.c (ki 1))) [0] [96] .quiet, qr 18 (mv 97) [1,0,1] [97] .quiet])))))))) (.region [qq 69 (mv 17) [17], qr 70 (.bin .add (.t 69) (.c (ki 1))) [0] [69] .quiet, qr 17 (mv 70) [1,0,1] [70] .quiet])))))) (.seq (.seq (.region [qq 109 (mv 15) [15], qr 110 (.len 1 (.t 109)) [0] [109] .quiet, qr 111 (.bin .eql (.t 110) ci) [1] [110] .quiet]) (.cond (.t 111) (.seq (.region [qq 8 (.move (.c (.raw (.bool true)))) []]) .ret) .skip)) (.seq (.region [qq 112 (mv 2) [2], qq 113 (mv 15) [15], qr 114 (.len 1 (.t 113)) [1] [113] .quiet, qr 115 (.bin .rem (.t 112) (.t 114)) [0,2] [112,114] .quiet, qq 116 (mv 15) [15], qr 117 (.len 1 (.t 116)) [4] [116] .quiet, qr 118 (.bin .add (.t 115) (.t 117)) [3,5] [115,117] .quiet, qq 119 (mv 15) [15], qr 120 (.len 1 (.t 119)) [7] [119] .quiet, qr 121 (.bin .rem (.t 118) (.t 120)) [6,8] [118,120] .quiet, qr 19 (mv 121) [9,0,1,2,3,4,5,6,7,8,9] [121] .quiet]) (.seq (.draw [qq 122 (mv 13) [13], qq 123 (mv 15) [15], qq 124 (mv 19) [19], qr 125 (.idxAddrS 1 (.t 123) (.t 124)) [1,2] [123,124] .quiet, qr 126 (.load false 1 (.t 125)) [3] [125] .quiet, qr 127 (.idxAddrS 12 (.t 122) (.t 126)) [0,4] [122,126] .quiet, qr 128 (.ptrAdd 4 (.t 127)) [5] [127] .quiet, qr 129 (.load false 1 (.t 128)) [6] [128] .quiet, qq 130 (mv 16) [16], qq 131 (mv 19) [19], qr 132 (.idxAddrS 1 (.t 130) (.t 131)) [8,9] [130,131] .quiet, qr 133 (.load false 1 (.t 132)) [10] [132] .quiet, qr 134 (.idxAddrS 34 (.t 129) (.t 133)) [7,11] [129,133] .quiet, qr 135 (.ptrAdd 0 (.t 134)) [12] [134] .quiet, qr 136 (.load false 1 (.t 135)) [13] [135] .quiet, qr 20 (mv 136) [14,0,1,2,3,4,5,6,7,8,9,10,11,12,13,14] [136] .quiet] [.mob 0, .mob 1, .mob 2, .mob 3, .mob 4, .mob 5, .mob 6, .mob 7, .mob 8, .mob 9, .mob 10, .mob 11, .mob 12, .mob 13, .mob 14, .mob 15] [4, 7, 11, 14]) (.seq (.seq (.region [qq 137 (mv 20) [20], qr 138 (.bin .lss (.t 137) ci) [0] [137] .quiet, qr 139 (mv 138) [1] [138] .quiet, gm 140 (mv 20) 139 false [2] [20], gm 141 (mv 0) 139 false [2] [0], ⟨(some 142), (.len 1 (.t 141)), (some (139, false)), [4, 2], [141], .quiet⟩, ⟨(some 143), (.bin .geq (.t 140) (.t 142)), (some (139, false)), [3, 5, 2], [140, 142], .quiet⟩, qr 144 (.pick (.t 139) (.c (.raw (.bool true))) (.t 143)) [2,6] [139,143] .quiet]) (.cond (.t 144) (.seq (.region [qq 8 (.move (.c (.raw (.bool false)))) []]) .ret) .skip)) (.seq (.region [qq 145 (mv 0) [0], qr 146 (.call (.c (.func (.func 16) [])) [(.t 145)]) [0] [145] .any, qr 21 (mv 146) [1,1,0,1] [146] .quiet]) (.seq (.region [qq 147 (mv 21) [21], qq 148 (mv 20) [20], qr 149 (.idxAddrS 41 (.t 147) (.t 148)) [0,1] [147,148] .quiet, qr 150 (.ptrAdd 5 (.t 149)) [2] [149] .quiet, qr 151 (.load true 32 (.t 150)) [3] [150] .quiet, qr 22 (.alloc [zb, zb, zb, zb, zb, zb, zb, zb, zb, zb, zb, zb, zb, zb, zb, zb, zb, zb, zb, zb, zb, zb, zb, zb, zb, zb, zb, zb, zb, zb, zb, zb]) [] [] .makes, ⟨none, (.store 32 (.t 22) (.t 151)), none, [5, 4, 0, 1, 2, 3, 4, 5], [22, 151], .any⟩]) (.seq (.draw [qq 152 (mv 21) [21], qq 153 (mv 20) [20], qq 154 (mv 21) [21], qq 155 (mv 20) [20], qr 156 (.idxAddrS 41 (.t 154) (.t 155)) [2,3] [154,155] .quiet, qr 157 (.ptrAdd 5 (.t 156)) [4] [156] .quiet, qr 158 (.idxAddrA 32 1 (.t 157) (.c (ki 31))) [5] [157] .quiet, qr 159 (.load false 1 (.t 158)) [6] [158] .quiet, qq 160 (mv 3) [3], qr 161 (.bin .xor (.t 159) (.t 160)) [7,8] [159,160] .quiet, qr 162 (.idxAddrS 41 (.t 152) (.t 153)) [0,1] [152,153] .quiet, qr 163 (.ptrAdd 5 (.t 162)) [10] [162] .quiet, qr 164 (.idxAddrA 32 1 (.t 163) (.c (ki 31))) [11,0,1,2,3,4,5,6,7,8,9] [163] .quiet, ⟨none, (.store 1 (.t 164) (.t 161)), none, [12, 9, 0, 1, 2, 3, 4, 5, 6, 7, 8, 9], [164, 161], .any⟩] [.mob 0, .mob 1, .mob 2, .mob 3, .mob 4, .mob 5, .mob 6, .mob 7, .mob 8, .mob 9, .mob 10, .mob 11, .mob 12, .imm 13 []] [7]) (.seq (.region [qq 166 (mv 21) [21], qq 167 (mv 1) [1], qr 168 (.call (.c (.func (.func 18) [])) [(.t 166), (.t 167)]) [0,1] [166,167] .any, qr 165 (mv 168) [2] [168] .quiet, qr 169 (.extract 0 (.t 165)) [3] [165] .quiet, qr 170 (.extract 1 (.t 165)) [3] [165] .quiet, qr 23 (.alloc [(.raw (.bool false)), zi, zi, zb, zb, zb, zb, zb, zb, zb, zb, zb, zb, zb, zb, zb, zb, zb, zb, zb, zb, zb, zb, zb, zb, zb, zb, zb, zb, zb, zb, zb, zb, zb, zb]) [] [] .makes, ⟨none, (.store 35 (.t 23) (.t 169)), none, [6, 4, 2, 0, 1, 2, 3, 4, 6], [23, 169], .any⟩, qr 24 (mv 170) [5,7,0,1,2,3,4,5,6,7] [170] .quiet]) (.seq (.draw [qq 171 (mv 24) [24], qr 172 (.bin .eql (.t 171) ci) [0] [171] .quiet, qr 173 (mv 172) [1] [172] .quiet, ⟨(some 174), (.load true 35 (.t 23)), (some (173, true)), [2], [23], .quiet⟩, gm 175 (mv 15) 173 true [2] [15], gm 176 (mv 19) 173 true [2] [19], ⟨(some 177), (.idxAddrS 1 (.t 175) (.t 176)), (some (173, true)), [4, 5, 2], [175, 176], .quiet⟩, ⟨(some 178), (.load false 1 (.t 177)), (some (173, true)), [6, 2], [177], .quiet⟩, gm 179 (mv 16) 173 true [2] [16], gm 180 (mv 19) 173 true [2] [19], ⟨(some 181), (.idxAddrS 1 (.t 179) (.t 180)), (some (173, true)), [8, 9, 2], [179, 180], .quiet⟩, ⟨(some 182), (.load false 1 (.t 181)), (some (173, true)), [10, 2], [181], .quiet⟩, ⟨(some 183), (.load true 32 (.t 22)), (some (173, true)), [2], [22], .quiet⟩, ⟨(some 184), (.build [(.raw (.bool false)), zi, zi, zb, zb, zb, zb, zb, zb, zb, zb, zb, zb, zb, zb, zb, zb, zb, zb, zb, zb, zb, zb, zb, zb, zb, zb, zb, zb, zb, zb, zb, zb, zb, zb] [(1, 1, (.t 178)), (2, 1, (.t 182)), (3, 32, (.t 183))]), (some (173, true)), [7, 11, 12, 2], [178, 182, 183], .quiet⟩, ⟨(some 185), (.eqP false (.fld 0 false 1 .bool (.fld 1 false 1 .int (.fld 2 false 1 .int (.fld 3 true 32 (.arr 32 1 false .int) .fin)))) (.t 174) (.t 184)), (some (173, true)), [3, 13, 2], [174, 184], .quiet⟩, qr 186 (.pick (.t 173) (.t 185) (.c (.raw (.bool false)))) [2,14] [173,185] .quiet, qr 8 (mv 186) [15,2,0,1,2,3,4,5,6,7,8,9,10,11,12,13,14,15] [186] .quiet] [.mob 0, .mob 1, .mob 2, .mob 3, .mob 4, .mob 5, .mob 6, .mob 7, .mob 8, .mob 9, .mob 10, .mob 11, .mob 12, .mob 13, .mob 14, .mob 15, .mob 16] [3, 7, 11, 12]) .ret)))))))))))))))))), 187, [.tmp 8]⟩
theorem e6 : envP Try.prog 6 = some a6 := by kernel_rfl
def a16 : AFunc := ⟨(.seq (.region [qq 2 (.move (.c ns)) []]) (.seq (.region [qq 3 (.move (.c ns)) []]) (.seq (.seq (.region [qq 4 (.move ci) []]) (.block 0 (.loop (.seq (.seq (.region [qq 6 (mv 4) [4], qq 7 (mv 0) [0], qr 8 (.len 1 (.t 7)) [1] [7] .quiet, qr 9 (.bin .lss (.t 6) (.t 8)) [0,2] [6,8] .quiet]) (.cond (.t 9) .skip (.exit 0))) (.seq (.block 1 (.seq (.region [qq 12 (mv 0) [0], qq 13 (mv 4) [4], qr 14 (.idxAddrS 41 (.t 12) (.t 13)) [0,1] [12,13] .quiet, qr 15 (.load true 41 (.t 14)) [2] [14] .quiet, qr 5 (.alloc [zi, (.raw (.int .u64 0)), zi, (.raw (.int .u64 0)), zi, zb, zb, zb, zb, zb, zb, zb, zb, zb, zb, zb, zb, zb, zb, zb, zb, zb, zb, zb, zb, zb, zb, zb, zb, zb, zb, zb, zb, zb, zb, zb, zb, (.raw (.int .u64 0)), zi, zi, ns]) [] [] .makes, ⟨none, (.store 41 (.t 5) (.t 15)), none, [4, 3, 0, 1, 2, 3, 4], [5, 15], .any⟩]) (.seq (.region [qq 16 (.ptrAdd 40 (.t 5)) [5], qr 17 (.load false 1 (.t 16)) [0] [16] .quiet, qr 18 (.call (.c (.func (.func 29) [])) [(.t 17)]) [1] [17] .any, qr 19 (.ptrAdd 40 (.t 5)) [0,1,2] [5] .quiet, ⟨none, (.store 1 (.t 19) (.t 18)), none, [3, 2, 2, 0, 1, 2], [19, 18], .any⟩]) (.region [qq 20 (mv 3) [3], qq 21 (.load true 41 (.t 5)) [5], qr 22 (.buildSlice 1 41 [zi, (.raw (.int .u64 0)), zi, (.raw (.int .u64 0)), zi, zb, zb, zb, zb, zb, zb, zb, zb, zb, zb, zb, zb, zb, zb, zb, zb, zb, zb, zb, zb, zb, zb, zb, zb, zb, zb, zb, zb, zb, zb, zb, zb, (.raw (.int .u64 0)), zi, zi, ns] [(0, 41, (.t 21))]) [1] [21] .makes, qr 23 (.append 41 120 (.t 20) (.t 22)) [0,2] [20,22] .any, qr 3 (mv 23) [3,3,0,1,2,3] [23] .quiet])))) (.region [qq 10 (mv 4) [4], qr 11 (.bin .add (.t 10) (.c (ki 1))) [0] [10] .quiet, qr 4 (mv 11) [1,0,1] [11] .quiet])))))) (.seq (.region [qq 24 (mv 3) [3], qq 25 (.build [zi, (.raw (.int .u64 0)), zi, (.raw (.int .u64 0)), zi, zb, zb, zb, zb, zb, zb, zb, zb, zb, zb, zb, zb, zb, zb, zb, zb, zb, zb, zb, zb, zb, zb, zb, zb, zb, zb, zb, zb, zb, zb, zb, zb, (.raw (.int .u64 0)), zi, zi, ns] [(0, 1, (.c (ki 7777)))]) [], qr 26 (.buildSlice 1 41 [zi, (.raw (.int .u64 0)), zi, (.raw (.int .u64 0)), zi, zb, zb, zb, zb, zb, zb, zb, zb, zb, zb, zb, zb, zb, zb, zb, zb, zb, zb, zb, zb, zb, zb, zb, zb, zb, zb, zb, zb, zb, zb, zb, zb, (.raw (.int .u64 0)), zi, zi, ns] [(0, 41, (.t 25))]) [1] [25] .makes, qr 27 (.append 41 120 (.t 24) (.t 26)) [0,2] [24,26] .any, qq 28 (mv 3) [3], qr 29 (.len 1 (.t 28)) [4] [28] .quiet, qr 30 (.sliceS 41 (.t 27) none (some (.t 29)) none) [3,5] [27,29] .quiet, qr 2 (mv 30) [6,3,0,1,2,3,4,5,6] [30] .quiet]) .ret)))), 31, [.tmp 2]⟩
theorem e16 : envP Try.prog 16 = some a16 := by kernel_rfl
def a29 : AFunc := ⟨(.seq (.region [qq 2 (.move (.c ns)) []]) (.seq (.region [qq 3 (mv 0) [0], qr 4 (.call (.c (.func (.func 32) [])) [(.t 3)]) [0] [3] .any, qr 5 (.buildSlice 2 1 [zi] [(0, 1, (.c (ki 7777))), (1, 1, (.c (ki 8888)))]) [] [] .makes, qr 6 (.append 1 8 (.t 4) (.t 5)) [1,2,1] [4,5] .any, qq 7 (mv 0) [0], qr 8 (.len 1 (.t 7)) [4] [7] .quiet, qr 9 (.sliceS 1 (.t 6) none (some (.t 8)) none) [3,5] [6,8] .quiet, qr 2 (mv 9) [6,3,0,1,2,3,4,5,6] [9] .quiet]) .ret)), 10, [.tmp 2]⟩
theorem e29 : envP Try.prog 29 = some a29 := by kernel_rfl
def a32 : AFunc := ⟨(.seq (.region [qq 2 (.move (.c ns)) []]) (.seq (.region [qr 3 (.buildSlice 0 1 [zi] []) [] [] .makes, qq 4 (mv 0) [0], qr 5 (.append 1 8 (.t 3) (.t 4)) [0,1] [3,4] .any, qr 2 (mv 5) [2,2,0,1,2] [5] .quiet]) .ret)), 6, [.tmp 2]⟩
theorem e32 : envP Try.prog 32 = some a32 := by kernel_rfl
end Go.Proofs.Ythbjfkkjmecaaaa
namespace Go.Vm
open Go
theorem Tr.set_self {α : Type} (u : α) : ∀ (t : Tr α) (k : Nat), t.get k = some u → t.set u k = t
  | .leaf, k, h => by simp [Tr.get] at h
  | .node v l r, k, h => by
    unfold Tr.get at h
    unfold Tr.set
    by_cases hk : k = 0
    · simp only [hk, if_true] at h ⊢; rw [h]
    · simp only [hk, if_false] at h ⊢
      by_cases h2 : k % 2 = 1
      · simp only [h2, if_true] at h ⊢; rw [Tr.set_self u l _ h]
      · simp only [h2, if_false] at h ⊢; rw [Tr.set_self u r _ h]
theorem AHeap.set_self {H : AHeap} {A : Nat} {o : AObj} (h : H.get A = some o) : H.set A o = H := by
  unfold AHeap.set
  rw [Tr.set_self o H.tr A h]
theorem spl_len {α : Type} {l v : List α} {off : Nat} (h : off + v.length ≤ l.length) : (spl l off v).length = l.length := by
  simp only [spl, List.length_append, List.length_take, List.length_drop]; omega
theorem spl_mid {α : Type} {a e b v : List α} {f : Nat} (h : f + v.length ≤ e.length) : spl (a ++ (e ++ b)) (a.length + f) v = a ++ (spl e f v ++ b) := by
  simp only [spl]
  rw [List.take_append, List.take_of_length_le (by omega), Nat.add_sub_cancel_left, List.take_append_of_le_length (by omega), Nat.add_assoc, List.drop_append, List.drop_eq_nil_of_le (by omega), Nat.add_sub_cancel_left, List.nil_append, List.drop_append_of_le_length h]
  simp only [List.append_assoc]
theorem flatten_part {α : Type} {n : Nat} {es : List (List α)} (he : ∀ e ∈ es, e.length = n) {i f : Nat} {e v : List α} (hi : es[i]? = some e) (h : f + v.length ≤ n) : spl es.flatten (i * n + f) v = (es.set i (spl e f v)).flatten := by
  obtain ⟨hlt, hei⟩ := List.getElem?_eq_some_iff.1 hi
  have hd : es = es.take i ++ (e :: es.drop (i + 1)) := by rw [← hei, List.getElem_cons_drop, List.take_append_drop]
  have hl : (es.take i).flatten.length = i * n := by rw [flatten_len (n := n) fun x hx => he x (List.mem_of_mem_take hx), List.length_take, Nat.min_eq_left (by omega)]
  have hel := he e (List.mem_of_getElem? hi)
  have h1 : es.flatten = (es.take i).flatten ++ (e ++ (es.drop (i + 1)).flatten) := by
    conv => lhs; rw [hd]
    simp
  rw [h1, ← hl, spl_mid (by omega), List.set_eq_take_append_cons_drop, if_pos hlt]
  simp
theorem mem_set {α : Type} {es : List α} {i : Nat} {v e : α} (h : e ∈ es.set i v) : e ∈ es ∨ e = v := List.mem_or_eq_of_mem_set h
theorem SliceE.store {H : AHeap} {base esz : Nat} {v : AVal} {es : List (List AVal)} (h : SliceE H base esz v es) {i f : Nat} {e vals : List AVal} (hi : es[i]? = some e) (h0 : 0 < vals.length) (hf : f + vals.length ≤ esz) (hone : vals.all AVal.one = true) :
    ∃ R ver H', v = .slice R ver 0 es.length es.length false esz ∧ base ≤ R ∧ R < H.next ∧ H.write R ver (i * esz + f) vals = some H' ∧ SliceE H' base esz v (es.set i (spl e f vals)) ∧ H'.next = H.next ∧ ∀ A, A ≠ R → H'.get A = H.get A := by
  obtain ⟨hlt, hei⟩ := List.getElem?_eq_some_iff.1 hi
  rcases h with ⟨hes, ⟨rfl, rfl⟩ | ⟨R, ver, vs, h1, h2, rfl, h4, h5⟩⟩
  · simp at hi
  · have hfl := flatten_len hes
    have hm : (i + 1) * esz ≤ es.length * esz := Nat.mul_le_mul_right _ hlt
    rw [Nat.succ_mul] at hm
    obtain ⟨H', hw, hr⟩ := RowW.write (H0 := H) (nv := vs.length) ⟨⟨vs, h4, rfl, h5⟩, rfl, fun _ _ => rfl⟩ (off := i * esz + f) (vals := vals) h0 (by omega) hone
    obtain ⟨vs', q1, q2, q3⟩ := hr.row
    refine ⟨R, ver, H', rfl, h1, h2, hw, ⟨fun x hx => ?_, .inr ⟨R, ver, vs', h1, by rw [hr.next]; exact h2, by rw [List.length_set], q1, ?_⟩⟩, hr.next, hr.other⟩
    · rcases mem_set hx with h | rfl
      · exact hes x h
      · rw [spl_len (by rw [hes e (List.mem_of_getElem? hi)]; exact hf)]; exact hes e (List.mem_of_getElem? hi)
    · rw [q3, ← flatten_part hes hi hf]; rfl
theorem SliceE.load {H : AHeap} {base esz : Nat} {v : AVal} {es : List (List AVal)} (h : SliceE H base esz v es) {i : Nat} {e : List AVal} (hi : es[i]? = some e) :
    ∃ R ver cells, v = .slice R ver 0 es.length es.length false esz ∧ base ≤ R ∧ R < H.next ∧ H.rowAt R ver = some cells ∧ i * esz + esz ≤ cells.length ∧ (∀ f, f < esz → cells[i * esz + f]? = e[f]?) ∧ (cells.drop (i * esz)).take esz = e := by
  obtain ⟨hlt, hei⟩ := List.getElem?_eq_some_iff.1 hi
  obtain ⟨R, ver, off, kcap, ex, cells, h1, h2, h3, h4⟩ := h.rd.at hi
  rcases h with ⟨hes, ⟨rfl, rfl⟩ | ⟨R', ver', vs, g1, g2, rfl, g4, g5⟩⟩
  · simp at hi
  · cases h1
    rw [Nat.zero_add] at h3 h4
    exact ⟨_, _, cells, rfl, g1, g2, h2, h3, fun f hf => part_at h4 hf, h4⟩
theorem RdE.beq {H : AHeap} {esz : Nat} {v : AVal} {es : List (List AVal)} (h : RdE H esz v es) : AVal.beq v v = true := by
  rcases h with ⟨_, ⟨rfl, _⟩ | ⟨R, ver, off, kc, ex, cells, rfl, _⟩⟩ <;> simp
theorem cells_one {v : AVal} (h : v.one = true) : v.cells = [v] := by
  cases v with
  | raw x => cases x <;> first | rfl | (cases h; done)
  | agg _ => cases h
  | _ => rfl
theorem SliceE.beq {H : AHeap} {base esz : Nat} {v : AVal} {es : List (List AVal)} (h : SliceE H base esz v es) : AVal.beq v v = true := by
  rcases h with ⟨_, ⟨rfl, _⟩ | ⟨R, ver, vs, _, _, rfl, _⟩⟩ <;> simp
end Go.Vm
