/- The compact code of functions that are walked (printed by a program of ours). -/
import Derived.Test.YthbjfkkjmecaaaaY20
import Derived.Test.YthbjfkkjmecaaaaProg
import Derived.Test.YthbjfkkjmecaaaaY25
set_option linter.unusedVariables false
set_option linter.unusedSimpArgs false
namespace Go.Proofs.Ythbjfkkjmecaaaa
open Go Go.Vm
section
set_option maxRecDepth 20000
def a61 : zzq := ⟨(.seq (.region [qq 2 (.move zzh) []]) (.seq (.region [zz8 3 0, zx0 4 .geq 3 1 [0], zzx 5 4 [1], zya 6 0 5 true [2], ⟨(some 7), (.bin .leq (.t 6) (.c (ki 64))), (some (5, true)), [3, 2], [6], .quiet⟩, zk4 8 5 7 [2,4], zzx 2 8 [5,2,0,1,2,3,4,5]]) .ret)), 9, [.tmp 2]⟩
theorem e61 : zxf Try.prog 61 = some a61 := by kernel_rfl
def a65 : zzq := ⟨(.seq (.region [qr 0 (.alloc zz0) [] [] .makes]) (.seq (.region [qq 1 (.build zz0 [(0, 1, zwp), (1, 1, (.c (ki (-1)))), (2, 1, (.c (ki (-1))))]) [], zx7 35 0 1 [0, 0]]) .ret)), 2, [.cell 0 true 35]⟩
theorem e65 : zxf Try.prog 65 = some a65 := by kernel_rfl
def a62 : zzq := ⟨(.seq (.region [qr 3 (.box (.t 1)) [] [1] .makes, qq 4 (.move (.c ns)) []]) (.seq (.region [qq 5 (.move (.c ns)) []]) (.seq (.seq (.region [zz8 8 0, zw5 9 6 3, zzg 10 9 [1], zx0 11 .add 10 1 [2], qr 12 (.sliceS 41 (.t 8) (some (.t 11)) none none) [0,3] [8,11] .quiet, zwu 13 12 [4], qq 14 (.move ci) []]) (.block 0 (.loop (.seq (.region [qq 15 (.bin .lss (.t 14) (.t 13)) [14,13]]) (.seq (.cond (.t 15) .skip (.exit 0)) (.seq (.block 1 (.seq (.region [qq 16 (.idxAddrS 41 (.t 12) (.t 14)) [12,14], zb1 17 41 16 [0], qr 7 (.alloc zz1) [] [] .makes, zx7 41 7 17 [2, 1, 0, 1, 2]]) (.seq (.seq (.region [zw5 18 2 7, zzg 19 18 [0], zw5 20 0 3, zzg 21 20 [2], zyu 22 .neq 19 21 [1,3]]) (.cond (.t 22) (.exit 1) .skip)) (.seq (.seq (.region [zw5 23 0 7, zzg 24 23 [0], zx0 25 .eql 24 2 [1]]) (.cond (.t 25) (.exit 0) .skip)) (.seq (.region [zw5 26 0 7, zzg 27 26 [0], zx0 28 .eql 27 5 [1], zzx 29 28 [2], zw8 30 0 7 29 false [3], zxn 31 30 29 false [4, 3], ⟨(some 32), (.bin .eql (.t 31) (.c (ki 6))), (some (29, false)), [5, 3], [31], .quiet⟩, zkn 33 29 32 [3,6]]) (.cond (.t 33) (.region [zz8 34 5, qq 35 (.load true 41 (.t 7)) [7], qr 36 (.buildSlice 1 41 zz1 [(0, 41, (.t 35))]) [1] [35] .makes, zjm 37 41 120 34 36 [0,2], zzx 5 37 [3,3,0,1,2,3]]) .skip)))))) (.region [qq 38 (.bin .add (.t 14) (.c (ki 1))) [14], zzx 14 38 [0]]))))))) (.seq (.region [zz8 39 5, zzx 4 39 [0,0]]) .ret)))), 40, [.tmp 4]⟩
theorem e62 : zxf Try.prog 62 = some a62 := by kernel_rfl
def a84 : zzq := ⟨(.seq (.region [qq 4 (.move ci) []]) (.seq (.seq (.region [zz8 6 0, zwu 7 6 [0], qq 8 (.move ci) []]) (.block 0 (.loop (.seq (.region [qq 9 (.bin .lss (.t 8) (.t 7)) [8,7]]) (.seq (.cond (.t 9) .skip (.exit 0)) (.seq (.block 1 (.seq (.region [zz8 10 8, zzx 5 10 [0,0]]) (.seq (.region [zz8 11 1, zz8 12 0, zz8 13 5, zyb 14 41 12 13 [1,2], zb1 15 41 14 [3], qr 16 (.call (.t 11) [(.t 15)]) [0,4] [11,15] .any]) (.cond (.t 16) (.seq (.region [zz8 17 5, zzx 4 17 [0,0]]) .ret) .skip)))) (.region [qq 18 (.bin .add (.t 8) (.c (ki 1))) [8], zzx 8 18 [0]]))))))) (.seq (.region [qq 4 (.move (.c (ki (-1)))) []]) .ret))), 19, [.tmp 4]⟩
theorem e84 : zxf Try.prog 84 = some a84 := by kernel_rfl
def a63 : zzq := ⟨(.seq (.region [qq 4 (.move zzh) []]) (.seq (.region [zz8 5 0, zz8 6 1, zbm 7 84 5 6 [0,1], qr 8 (.bin .geq (.t 7) ci) [2] [7] .quiet, zzx 4 8 [3,2,0,1,2,3]]) .ret)), 9, [.tmp 4]⟩
theorem e63 : zxf Try.prog 63 = some a63 := by kernel_rfl
def a64 : zzq := ⟨(.seq (.region [qr 2 (.box (.t 0)) [] [0] .makes, qq 3 (.move zzh) []]) (.seq (.region [zw5 4 4 2, zzg 5 4 [0], qr 6 (.bin .lss (.t 5) ci) [1] [5] .quiet, zzx 7 6 [2], zw8 8 4 2 7 false [3], zxn 9 8 7 false [4, 3], zxn 10 1 7 false [3], ⟨(some 11), (.bin .geq (.t 9) (.t 10)), (some (7, false)), [5, 6, 3], [9, 10], .quiet⟩, zkn 12 7 11 [3,7], zzx 3 12 [8,3,0,1,2,3,4,5,6,7,8]]) .ret)), 13, [.tmp 3]⟩
theorem e64 : zxf Try.prog 64 = some a64 := by kernel_rfl
def a66 : zzq := ⟨(.seq (.region [qq 2 (.move (.c ns)) []]) (.seq (.seq (.region [zz8 3 0, qr 4 (.eqP false .nilS (.t 3) (.c ns)) [0] [3] .quiet]) (.cond (.t 4) (.seq (.region [qq 2 (.move (.c ns)) []]) .ret) .skip)) (.seq (.region [qr 5 (.buildSlice 0 32 zz2 []) [] [] .makes, zz8 6 0, zjm 7 32 32 5 6 [0,1], zzx 2 7 [2,2,0,1,2]]) .ret))), 8, [.tmp 2]⟩
theorem e66 : zxf Try.prog 66 = some a66 := by kernel_rfl
def a30 : zzq := ⟨(.seq (.region [qr 4 (.box (.t 1)) [] [1] .makes, qr 6 (.alloc zz0) [] [] .makes, qq 7 (.move (.c ns)) [], qr 8 (.move ci) [2] [] .quiet]) (.seq (.seq (.region [qq 24 (.load false 1 (.t 4)) [4], zus 25 61 24 [0], qr 26 (.un .not (.t 25)) [1] [25] .quiet]) (.cond (.t 26) (.seq (.region [qq 27 (.build zz0 []) [], zx7 35 6 27 [0, 0], qr 7 (.move (.c ns)) [1,0,1] [] .quiet, qr 8 (.move (.c (ki 2))) [2,0,1,2] [] .quiet]) .ret) .skip)) (.seq (.region [zz8 29 0, zus 30 33 29 [0], zzx 28 30 [1], zq7 31 0 28 [2], zq7 32 1 28 [2], zzx 9 31 [3,1,0,1,2,3], zzx 10 32 [4,5,0,1,2,3,4,5]]) (.seq (.seq (.region [zz8 33 10, qr 34 (.bin .neq (.t 33) ci) [0] [33] .quiet]) (.cond (.t 34) (.seq (.region [qq 35 (.build zz0 []) [], zz8 36 10, zx7 35 6 35 [0, 0], qr 7 (.move (.c ns)) [2,0,2] [] .quiet, zzx 8 36 [1,3,0,1,2,3]]) .ret) .skip)) (.seq (.region [qr 37 .makeMap [] [] .makes, zzx 11 37 [0,0]]) (.seq (.seq (.region [zz8 38 2, zwu 39 38 [0], qq 40 (.move ci) []]) (.block 0 (.loop (.seq (.region [qq 41 (.bin .lss (.t 40) (.t 39)) [40,39]]) (.seq (.cond (.t 41) .skip (.exit 0)) (.seq (.block 1 (.seq (.region [qq 42 (.idxAddrS 1 (.t 38) (.t 40)) [38,40], zzg 43 42 [0], zzx 13 43 [1,0,1]]) (.seq (.seq (.region [zz8 45 11, zz8 46 13, qr 47 (.lookup ns true (.t 45) (.t 46)) [0,1] [45,46] .quiet, zzx 44 47 [2], zq7 48 0 44 [3], zq7 49 1 44 [3], zzx 14 48 [4,0,1,2,3,4], zzx 15 49 [5,6,0,1,2,3,4,5,6]]) (.seq (.region [zz8 50 15, zzx 51 50 [0], zya 52 13 51 false [1], ⟨(some 53), (.bin .lss (.t 52) ci), (some (51, false)), [2, 1], [52], .quiet⟩, zkn 54 51 53 [1,3], zzx 55 54 [4,1], zya 56 13 55 false [5], zya 57 9 55 false [5], ⟨(some 58), (.len 1 (.t 57)), (some (55, false)), [7, 5], [57], .quiet⟩, ⟨(some 59), (.bin .geq (.t 56) (.t 58)), (some (55, false)), [6, 8, 5], [56, 58], .quiet⟩, zkn 60 55 59 [5,9]]) (.cond (.t 60) (.seq (.region [qq 61 (.build zz0 []) [], zx7 35 6 61 [0, 0], qr 7 (.move (.c ns)) [1,0,1] [] .quiet, qr 8 (.move (.c (ki 230))) [2,0,1,2] [] .quiet]) .ret) .skip))) (.seq (.region [zz8 62 11, zz8 63 13, zz8 64 0, zz8 65 9, zz8 66 13, zyb 67 12 65 66 [3,4], zb1 68 12 67 [5], zbm 69 62 64 68 [2,6], ⟨none, (.mapUpdate (.t 62) (.t 63) (.t 69)), none, [0, 1, 7, 7, 0, 1, 2, 3, 4, 5, 6, 7], [62, 63, 69], .any⟩]) (.seq (.region [zz8 70 11, zz8 71 13, qr 72 (.lookup ns false (.t 70) (.t 71)) [0,1] [70,71] .quiet, qq 73 (.makeFunc (.func 64) [(.t 4)]) [4], zbm 74 63 72 73 [2,3]]) (.cond (.t 74) (.seq (.region [qq 75 (.build zz0 []) [], zx7 35 6 75 [0, 0], qr 7 (.move (.c ns)) [1,0,1] [] .quiet, qr 8 (.move (.c (ki 230))) [2,0,1,2] [] .quiet]) .ret) .skip)))))) (.region [qq 76 (.bin .add (.t 40) (.c (ki 1))) [40], zzx 40 76 [0]]))))))) (.seq (.region [qr 77 (.call (.c (.func (.func 65) [])) []) [] [] .any, qr 16 (.alloc zz0) [] [] .makes, zx7 35 16 77 [1, 0, 0, 0, 1]]) (.seq (.region [qr 17 (.alloc (List.replicate 2048 zb)) [] [] .makes]) (.seq (.seq (.region [zz8 78 2, zwu 79 78 [0], qq 80 (.move ci) []]) (.block 2 (.loop (.seq (.region [qq 81 (.bin .lss (.t 80) (.t 79)) [80,79]]) (.seq (.cond (.t 81) .skip (.exit 2)) (.seq (.block 3 (.seq (.region [qq 82 (.idxAddrS 1 (.t 78) (.t 80)) [78,80], zzg 83 82 [0], zzx 19 83 [1,0,1]]) (.seq (.region [qq 84 (.load true 2048 (.t 17)) [17], qr 20 (.alloc (List.replicate 2048 zb)) [] [] .makes, zx7 2048 20 84 [1, 0, 0, 1]]) (.seq (.region [qq 21 (.move ci) []]) (.seq (.seq (.region [zz8 85 11, zz8 86 19, qr 87 (.lookup ns false (.t 85) (.t 86)) [0,1] [85,86] .quiet, zwu 88 87 [2], qq 89 (.move ci) []]) (.block 4 (.loop (.seq (.region [qq 90 (.bin .lss (.t 89) (.t 88)) [89,88]]) (.seq (.cond (.t 90) .skip (.exit 4)) (.seq (.block 5 (.seq (.region [qq 91 (.idxAddrS 41 (.t 87) (.t 89)) [87,89], zb1 92 41 91 [0], qr 23 (.alloc zz1) [] [] .makes, zx7 41 23 92 [2, 1, 0, 1, 2]]) (.seq (.seq (.region [zw5 93 0 23, zzg 94 93 [0], zx0 95 .eql 94 6 [1]]) (.cond (.t 95) (.seq (.region [zw5 96 4 23, zzg 97 96 [0], zw5 98 5 23, zb1 99 32 98 [2], qr 100 (.idxAddrA 64 32 (.t 20) (.t 97)) [1,0,1,2,3] [20,97] .quiet, zx7 32 100 99 [4, 3, 0, 1, 2, 3]]) (.exit 5)) .skip)) (.seq (.seq (.draw [zw5 101 0 16, zzg 102 101 [0], zzx 103 102 [1], zw8 104 4 23 103 true [2], zxn 105 104 103 true [3, 2], ⟨(some 106), (.idxAddrA 64 32 (.t 20) (.t 105)), (some (103, true)), [4, 2], [20, 105], .quiet⟩, ⟨(some 107), (.load true 32 (.t 106)), (some (103, true)), [5, 2], [106], .quiet⟩, zw8 108 5 23 103 true [2], ⟨(some 109), (.load true 32 (.t 108)), (some (103, true)), [7, 2], [108], .quiet⟩, ⟨(some 110), (.eqP true (.arr 32 1 false .int) (.t 107) (.t 109)), (some (103, true)), [6, 8, 2], [107, 109], .quiet⟩, zk4 111 103 110 [2,9]] [.mob 0, .mob 1, .mob 2, .mob 3, .mob 4, .mob 5, .mob 6, .mob 7, .mob 8, .mob 9, .mob 10] [1, 4, 6, 8]) (.cond (.t 111) (.region [zz8 112 19, zz8 113 21, zw5 114 4 23, zzg 115 114 [2], qr 116 (.idxAddrA 64 32 (.t 20) (.t 115)) [3] [20,115] .quiet, zb1 117 32 116 [4], qr 118 (.build zz0 [(1, 1, (.t 112)), (2, 1, (.t 113)), (3, 32, (.t 117))]) [0,1,5] [112,113,117] .quiet, zx7 35 16 118 [6, 0, 1, 2, 3, 4, 5, 6]]) .skip)) (.region [zz8 119 21, zx0 120 .add 119 1 [0], zzx 21 120 [1,0,1]]))))) (.region [qq 121 (.bin .add (.t 89) (.c (ki 1))) [89], zzx 89 121 [0]]))))))) (.region [qq 122 (.load true 2048 (.t 20)) [20], zx7 2048 17 122 [0, 0]])))))) (.region [qq 123 (.bin .add (.t 80) (.c (ki 1))) [80], zzx 80 123 [0]]))))))) (.seq (.draw [qq 124 (.load true 35 (.t 16)) [16], qq 125 (.load false 1 (.t 4)) [4], qr 126 (.sliceA 64 32 (.t 17) none (some (.t 125)) none) [1] [17,125] .quiet, zus 127 66 126 [2], zx7 35 6 124 [0, 3, 0], zzx 7 127 [3,4,0,1,2,3,4], qr 8 (.move ci) [5,0,1,2,3,4,5] [] .quiet] [.mob 1, .mob 2, .imm 3 [0], .mob 0, .imm 4 [], .mob 5, .mob 6] [1, 2, 0]) .ret)))))))))), 128, [.cell 6 true 35, .tmp 7, .tmp 8]⟩
theorem e30 : zxf Try.prog 30 = some a30 := by kernel_rfl
def a11 : zzq := ⟨(.seq (.region [qq 2 (.move (.c ns)) []]) (.seq (.seq (.region [zz8 3 0, zwu 4 3 [0], zx0 5 .gtr 4 400 [1]]) (.cond (.t 5) (.seq (.region [zz8 6 0, qr 7 (.sliceS 41 (.t 6) none (some (.c (ki 400))) none) [0] [6] .quiet, zzx 2 7 [1,0,1]]) .ret) .skip)) (.seq (.region [zz8 8 0, zzx 2 8 [0,0]]) .ret))), 9, [.tmp 2]⟩
theorem e11 : zxf Try.prog 11 = some a11 := by kernel_rfl
def a22 : zzq := ⟨(.seq (.region [qq 4 (.move zzh) []]) (.seq (.seq (.region [zz8 6 0, zwu 7 6 [0], zz8 8 1, zwu 9 8 [2], zyu 10 .neq 7 9 [1,3]]) (.cond (.t 10) (.seq (.region [qq 4 (.move zzh) []]) .ret) .skip)) (.seq (.seq (.region [qq 5 (.move ci) []]) (.block 0 (.loop (.seq (.seq (.region [zz8 11 5, zz8 12 0, zwu 13 12 [1], zyu 14 .lss 11 13 [0,2]]) (.cond (.t 14) .skip (.exit 0))) (.seq (.block 1 (.seq (.draw [zz8 17 0, zz8 18 5, zyb 19 32 17 18 [0,1], zb1 20 32 19 [2], zz8 21 1, zz8 22 5, zyb 23 32 21 22 [4,5], zb1 24 32 23 [6], qr 25 (.eqP true (.arr 32 1 false .int) (.t 20) (.t 24)) [3,7] [20,24] .quiet] [.mob 0, .mob 1, .mob 2, .mob 3, .mob 4, .mob 5, .mob 6, .mob 7, .mob 8] [3, 7]) (.cond (.t 25) (.seq (.region [qq 4 (.move zzh) []]) .ret) .skip))) (.region [zz8 15 5, zx0 16 .add 15 1 [0], zzx 5 16 [1,0,1]])))))) (.seq (.region [qq 4 (.move zwp) []]) .ret)))), 26, [.tmp 4]⟩
theorem e22 : zxf Try.prog 22 = some a22 := by kernel_rfl
end
section
variable {kn : zy0} {env : Nat → Option zzq}
variable {H H' H1 : zz6} {A : Nat} {v : AVal} {rows l : List RowD} {rcs ocs : List (List AVal)} {rc : List AVal} {r : RowD} {x : TxD} {sv rv wv : AVal}
def zv8 (c : Int) : List RowD → List RowD
 | [] => []
 | r :: l => if r.actor ≠ c then zv8 c l else if r.kind = 2 then [] else if r.kind = 5 ∨ r.kind = 6 then r :: zv8 c l else zv8 c l
def zf2 (rows : List RowD) (x : TxD) : List RowD := zv8 x.client (rows.drop (x.begun + 1).toNat)
def zp3 (m : Int) (r : RowD) : Bool := decide (r.blk < 0 ∨ m ≤ r.blk)
def zqj (rcs : List (List AVal)) (rows : List RowD) : Prop := rcs.length = rows.length ∧ ∀ (k : Nat) (c : List AVal) (r : RowD), rcs[k]? = some c → rows[k]? = some r → RowC c r
theorem zqj.nil : zqj [] [] := ⟨rfl, fun k c r h => by simp [-getElem?_pos] at h⟩
theorem zqj.push (h : zqj rcs rows) (hr : RowC rc r) : zqj (rcs ++ [rc]) (rows ++ [r]) := by
 refine ⟨by simp [-getElem?_pos, h.1], fun k c q h1 h2 => ?_⟩
 have := h.1
 rcases Nat.lt_or_ge k rows.length with hk | hk
 ·rw [List.getElem?_append_left (by omega)] at h1 h2
  exact h.2 k c q h1 h2
 ·have hk1 := (List.getElem?_eq_some_iff.1 h2).1
  simp [-getElem?_pos] at hk1
  have : k = rows.length := by omega
  subst this
  rw [← h.1, List.getElem?_concat_length] at h1
  rw [List.getElem?_concat_length] at h2
  cases h1; cases h2; exact hr
theorem zqj.drop (h : zqj rcs rows) (k : Nat) : zqj (rcs.drop k) (rows.drop k) := ⟨by simp [-getElem?_pos, h.1], fun i c r h1 h2 => by
 rw [List.getElem?_drop] at h1 h2; exact h.2 _ c r h1 h2⟩
theorem zqe {α : Type} {l : List α} {j : Nat} {z : α} (h : l[j]? = some z) : l.drop j = z :: l.drop (j + 1) := by
 obtain ⟨h1, h2⟩ := List.getElem?_eq_some_iff.1 h
 rw [List.drop_eq_getElem_cons h1, h2]
theorem _root_.Go.Vm.RdE.from {esz : Nat} {es : List (List AVal)} (h : RdE H esz v es) {k : Nat} (hk : k ≤ es.length) : ∃ v', zye esz v (some (vi k)) none none = some v' ∧ RdE H esz v' (es.drop k) ∧ ∀ p : Nat → Prop, v.lies p → v'.lies p := by
 rcases h with ⟨h0, ⟨rfl, rfl⟩ | ⟨R, ver, off, kc, ex, cells, rfl, h2, h3, h4, h5⟩⟩
 ·simp [-getElem?_pos] at hk; subst hk
  exact ⟨zxa, rfl, ⟨by simp [-getElem?_pos], .inl ⟨rfl, by simp [-getElem?_pos]⟩⟩, fun p hp => hp⟩
 ·have hm : k * esz + (es.length - k) * esz = es.length * esz := by rw [← Nat.add_mul]; congr 1; omega
  refine ⟨.slice R ver (off + k * esz) (es.length - k) (kc - k) ex esz, ?_, ⟨fun e he => h0 e (List.mem_of_mem_drop he), .inr ⟨R, ver, off + k * esz, kc - k, ex, cells, by rw [List.length_drop], h2, by rw [List.length_drop]; omega, by rw [List.length_drop]; omega, ?_⟩⟩, fun p hp R' ver' off' len kcap ex' esz' e => by cases e; exact hp _ _ _ _ _ _ _ rfl⟩
  ·simp (disch := omega) [-getElem?_pos, zye, zy7, zxz]
  ·rw [List.length_drop, ← List.drop_drop, ztt k h0, ← h5, List.drop_take]
   congr 1; omega
theorem c61 (h : Fn kn env 61 a61) (n : Nat) (m : Int) : zzp kn env (n + 1) (.func (.func 61) []) [vi m] H = some (zzt (decide (1 ≤ m ∧ m ≤ 64)), H) := by
 refine Wp.call1 9 [0, 2] h.e (h.no [vi m] H) rfl (by simp) ?_
 by_cases h1 : 1 ≤ m
 ·repeat (first | apply Wp.za | apply Wp.zb | apply Wp.zc | apply Wp.zd | apply Wp.ze | apply Wp.zf rfl | apply Wp.zg rfl | ((apply Wp.zh; (repeat (apply Ex.zc; (simp (disch := omega) [-getElem?_pos]; rfl))); exact Ex.zn; rfl; (simp; rfl))) | ((apply Wp.zi; (repeat ((first | apply Dr.q rfl rfl | apply Dr.r rfl rfl | apply Dr.imm rfl); (simp (disch := omega) [-getElem?_pos]; rfl); (focus first | (simp; rfl) | (simp; done) | (simp; omega)))); exact Dr.nil; rfl; (simp (disch := omega) [-getElem?_pos]); (simp; rfl))))
  simp [-getElem?_pos, a61, h1]
 ·repeat (first | apply Wp.za | apply Wp.zb | apply Wp.zc | apply Wp.zd | apply Wp.ze | apply Wp.zf rfl | apply Wp.zg rfl | ((apply Wp.zh; (repeat (apply Ex.zc; (simp (disch := omega) [-getElem?_pos]; rfl))); exact Ex.zn; rfl; (simp; rfl))) | ((apply Wp.zi; (repeat ((first | apply Dr.q rfl rfl | apply Dr.r rfl rfl | apply Dr.imm rfl); (simp (disch := omega) [-getElem?_pos]; rfl); (focus first | (simp; rfl) | (simp; done) | (simp; omega)))); exact Dr.nil; rfl; (simp (disch := omega) [-getElem?_pos]); (simp; rfl))))
  simp [-getElem?_pos, a61, h1]
abbrev zwj : List AVal := [zzt false, zi, zi, zb, zb, zb, zb, zb, zb, zb, zb, zb, zb, zb, zb, zb, zb, zb, zb, zb, zb, zb, zb, zb, zb, zb, zb, zb, zb, zb, zb, zb, zb, zb, zb]
abbrev yy5 : List AVal := [zzt true, vi (-1), vi (-1), zb, zb, zb, zb, zb, zb, zb, zb, zb, zb, zb, zb, zb, zb, zb, zb, zb, zb, zb, zb, zb, zb, zb, zb, zb, zb, zb, zb, zb, zb, zb, zb]
theorem c65 (h : Fn kn env 65 a65) (n : Nat) : ∃ H', zzp kn env (n + 1) (.func (.func 65) []) [] H = some (.agg yy5, H') ∧ Grow H H' := by
 obtain ⟨H1, hw, g1, hcl, hn1⟩ := zx6 H (z := zwj) (e := yy5) rfl (by simp) rfl
 have hX := hcl.at
 refine ⟨H1, Wp.call1 2 [0] h.e (h.no [] H) rfl (by simp) ?_, g1⟩
 repeat (first | apply Wp.za | apply Wp.zb | apply Wp.zc | apply Wp.zd | apply Wp.ze | apply Wp.zf rfl | apply Wp.zg rfl | ((apply Wp.zh; (repeat (apply Ex.zc; (simp (disch := omega) [-getElem?_pos, zzm, zx1, hw, hX]; rfl))); exact Ex.zn; rfl; (simp; rfl))) | ((apply Wp.zi; (repeat ((first | apply Dr.q rfl rfl | apply Dr.r rfl rfl | apply Dr.imm rfl); (simp (disch := omega) [-getElem?_pos, zzm, zx1, hw, hX]; rfl); (focus first | (simp; rfl) | (simp; done) | (simp; omega)))); exact Dr.nil; rfl; (simp (disch := omega) [-getElem?_pos, zzm, zx1, hw, hX]); (simp; rfl))))
 simp [-getElem?_pos, a65, hX]
theorem c64 (h : Fn kn env 64 a64) (n : Nat) (hr : RowC rc r) {B : Nat} {m : Int} (hB : H.rowAt B 0 = some [vi m]) (hBn : B < H.next) : ∃ H', zzp kn env (n + 1) (.func (.func 64) [.ptr B 0 0]) [.agg rc] H = some (zzt (zp3 m r), H') ∧ Grow H H' := by
 have r4 := hr.a4
 have r5 := hr.len
 refine ⟨_, Wp.callC1 13 [0, 1, 2, 3] h.e (h.no [.agg rc, .ptr B 0 0] H) rfl (by simp) ?_, Grow.push _ (.row [some (0, rc)])⟩
 by_cases h1 : r.blk < 0
 ·repeat (first | apply Wp.za | apply Wp.zb | apply Wp.zc | apply Wp.zd | apply Wp.ze | apply Wp.zf rfl | apply Wp.zg rfl | ((apply Wp.zh; (repeat (apply Ex.zc; (simp (disch := omega) [-getElem?_pos, r4, hB, r5]; rfl))); exact Ex.zn; rfl; (simp; rfl))) | ((apply Wp.zi; (repeat ((first | apply Dr.q rfl rfl | apply Dr.r rfl rfl | apply Dr.imm rfl); (simp (disch := omega) [-getElem?_pos, r4, hB, r5]; rfl); (focus first | (simp; rfl) | (simp; done) | (simp; omega)))); exact Dr.nil; rfl; (simp (disch := omega) [-getElem?_pos, r4, hB, r5]); (simp; rfl))))
  simp [-getElem?_pos, a64, h1, zp3]
 ·repeat (first | apply Wp.za | apply Wp.zb | apply Wp.zc | apply Wp.zd | apply Wp.ze | apply Wp.zf rfl | apply Wp.zg rfl | ((apply Wp.zh; (repeat (apply Ex.zc; (simp (disch := omega) [-getElem?_pos, r4, hB, r5]; rfl))); exact Ex.zn; rfl; (simp; rfl))) | ((apply Wp.zi; (repeat ((first | apply Dr.q rfl rfl | apply Dr.r rfl rfl | apply Dr.imm rfl); (simp (disch := omega) [-getElem?_pos, r4, hB, r5]; rfl); (focus first | (simp; rfl) | (simp; done) | (simp; omega)))); exact Dr.nil; rfl; (simp (disch := omega) [-getElem?_pos, r4, hB, r5]); (simp; rfl))))
  simp [-getElem?_pos, a64, h1, zp3]
end
section
variable {kn : zy0} {env : Nat → Option zzq}
variable {H H' H1 : zz6} {A : Nat} {v v0 : AVal} {rows l : List RowD} {rcs ocs : List (List AVal)} {rc : List AVal} {r : RowD} {x : TxD} {sv rv wv : AVal}
abbrev zpv : List AVal := [zi, .raw (.int .u64 0), zi, .raw (.int .u64 0), zi, zb, zb, zb, zb, zb, zb, zb, zb, zb, zb, zb, zb, zb, zb, zb, zb, zb, zb, zb, zb, zb, zb, zb, zb, zb, zb, zb, zb, zb, zb, zb, zb, .raw (.int .u64 0), zi, zi, ns]
theorem zrh (c : Int) : ∀ l : List RowD, (zv8 c l).length ≤ l.length
 | [] => by simp [-getElem?_pos, zv8]
 | r :: l => by
  have := zrh c l
  unfold zv8
  split
  ·simp [-getElem?_pos]; omega
  ·split
   ·simp [-getElem?_pos]
   ·split <;> simp [-getElem?_pos] <;> omega
set_option maxHeartbeats 1000000 in
theorem c62 (h : Fn kn env 62 a62) (n : Nat) (hrd : RdE H 41 v0 rcs) (hlies : v0.lies (· < H.next)) (hrc : zqj rcs rows) {k : Nat} (hk : x.begun = (k : Nat)) (hkl : k < rows.length) (hm : rows.length < 400000000000) (hn : rows.length + 5 < n) (h1 : sv.one = true) (h2 : rv.one = true) (h3 : wv.one = true) :
  ∃ v' H' ocs, zzp kn env (n + 1) (.func (.func 62) []) [v0, .agg (txc x sv rv wv)] H = some (v', H') ∧ Grow H H' ∧ zzw H' H.next 41 v' ocs ∧ zqj ocs (zf2 rows x) := by
 obtain ⟨H1, hH1⟩ : ∃ H1, H1 = H.push (.row [some (0, txc x sv rv wv)]) := ⟨_, rfl⟩
 have hl1 := hrc.1
 obtain ⟨v12, hsl, hrd2, hl12⟩ := hrd.from (k := k + 1) (by omega)
 have hsl' : zye 41 v0 (some (vi ((k : Int) + 1))) none none = some v12 := by have := hsl; simpa [-getElem?_pos] using this
 have hlen2 : zyy v12 = some (vi (rows.length - (k + 1) : Nat)) := by have := hrd2.lenS; rw [List.length_drop, hl1] at this; exact this
 have hc0 : x.begun + 1 = ((k + 1 : Nat) : Int) := by omega
 have hod : zf2 rows x = zv8 x.client (rows.drop (k + 1)) := by unfold zf2; rw [hc0]; rfl
 have hrc2 := hrc.drop (k + 1)
 have hg1 : Grow H H1 := by rw [hH1]; exact Grow.push _ _
 have hX1 : H1.rowAt H.next 0 = some (txc x sv rv wv) := by rw [hH1]; simp [-getElem?_pos]
 have hn1 : H1.next = H.next + 1 := by rw [hH1]; simp [-getElem?_pos]
 obtain ⟨v', H', hc, hg, ocs, hs, hR⟩ := Wp.call (R := fun v' H' => Grow H H' ∧ ∃ ocs, zzw H' H.next 41 v' ocs ∧ zqj ocs (zv8 x.client (rows.drop (k + 1)))) 40 [0, 1, 3, 4, 5, 7, 12, 13, 14, 15, 22, 25, 33] h.e (h.no [v0, .agg (txc x sv rv wv)] H) rfl (by simp) (n := n) (by
  repeat (first | apply Wp.za | apply Wp.zb | apply Wp.zc | apply Wp.zd | apply Wp.ze | apply Wp.zf rfl | apply Wp.zg rfl | ((apply Wp.zh; (repeat (apply Ex.zc; (simp (disch := omega) [-getElem?_pos, hk, hsl', hlen2, txc]; rfl))); exact Ex.zn; rfl; (simp; rfl))))
  have hX0 : H.push (.row [some (0, [vi x.client, vu x.life, vu x.ticket, sv, rv, wv, vi k, vi x.asked, vi x.commit, vu x.pos, vi x.done, vi x.fate])]) = H1 := by rw [hH1]; simp only [txc, hk]
  rw [hX0]
  apply Wp.loop (α := Nat × AVal × zz6) (fun y => [(3, .ptr H.next 0 0), (5, y.2.1), (12, v12), (13, vi (rows.length - (k + 1) : Nat)), (14, vi y.1)]) (·.2.2)
   (fun y => y.1 ≤ rows.length - (k + 1) ∧ Grow H1 y.2.2 ∧ ∃ ocs l, zzw y.2.2 H1.next 41 y.2.1 ocs ∧ zqj ocs l ∧ ocs.length ≤ y.1 ∧ l ++ zv8 x.client (rows.drop (k + 1 + y.1)) = zv8 x.client (rows.drop (k + 1))) (fun y => rows.length - (k + 1) - y.1)
   (0, ns, H1) rfl ⟨by omega, Grow.refl _, [], [], zzw.nil _ _ _, zqj.nil, by simp [-getElem?_pos], by simp [-getElem?_pos]⟩ (by simp; omega) (by simp)
  rintro ⟨j, v5, H2⟩ ⟨hj, hg2, ocs, l, hs, hR, hol, hown⟩
  dsimp only at hj hg2 hs hR hol hown ⊢
  have hgH : Grow H H2 := hg1.trans hg2
  have hend : ∀ (v : AVal) (H2 : zz6) ocs, Grow H1 H2 → zzw H2 H1.next 41 v ocs → Grow H H2 ∧ zzw H2 H.next 41 v ocs := fun v H2 ocs hg hs => ⟨hg1.trans hg, hs.move (by omega) (Nat.le_refl _) fun _ _ _ => rfl⟩
  (repeat (first | apply Wp.za | apply Wp.zb)); (apply Wp.zh; (repeat (apply Ex.zc; (simp (disch := omega) [-getElem?_pos]; rfl))); exact Ex.zn; rfl; (simp; rfl))
  (repeat (first | apply Wp.za | apply Wp.zb)); apply Wp.ite rfl
  ·intro hjl
   obtain ⟨r, hr⟩ : ∃ r, rows[k + 1 + j]? = some r := ⟨_, List.getElem?_eq_getElem (by omega)⟩
   obtain ⟨rc, hrc'⟩ : ∃ rc, rcs[k + 1 + j]? = some rc := ⟨_, List.getElem?_eq_getElem (by omega)⟩
   have hRC := hrc.2 _ rc r hrc' hr
   obtain ⟨R0, ver0, off, kc, ex, cells, hv12, hrow, hc1, hc2⟩ := hrd2.at (i := j) (e := rc) (by rw [List.getElem?_drop]; exact hrc')
   rw [List.length_drop, hl1] at hv12
   have hR0 : R0 < H.next := hl12 _ hlies _ _ _ _ _ _ _ hv12
   have hrow2 : H2.rowAt R0 ver0 = some cells := by rw [hgH.rowAt hR0]; exact hrow
   have r5 := hRC.len
   have r0 := hRC.a0
   have r2 := hRC.a2
   have rt : rc.take 41 = rc := List.take_of_length_le (by omega)
   rw [zqe hr] at hown
   obtain ⟨H3, hw1, g3, hcl, hn3⟩ := zx6 H2 (z := zpv) (e := rc) r5 (by omega) hRC.one
   have hX := hcl.at
   have hX3 : H3.rowAt H.next 0 = some (txc x sv rv wv) := by rw [(hg2.trans g3).rowAt (by omega)]; exact hX1
   have hs3 : zzw H3 H1.next 41 v5 ocs := hs.move (Nat.le_refl _) g3.next fun A _ hA => g3.get A hA
   have hg3 : Grow H1 H3 := hg2.trans g3
   apply Wp.zd
   by_cases q1 : r.actor = x.client
   ·by_cases q2 : r.kind = 2
    ·have hown' : l = zv8 x.client (rows.drop (k + 1)) := by rw [← hown]; simp [-getElem?_pos, zv8, q1, q2]
     obtain ⟨e1, e2⟩ := hend v5 H3 ocs hg3 hs3
     repeat (first | apply Wp.za | apply Wp.zb | apply Wp.zc | apply Wp.zd | apply Wp.ze | apply Wp.zf rfl | apply Wp.zg rfl | ((apply Wp.zh; (repeat (apply Ex.zc; (simp (disch := omega) [-getElem?_pos, hv12, hrow2, hc2, r5, rt, hw1, hX, hX3, r0, r2, txc, q1, q2]; rfl))); exact Ex.zn; rfl; (simp; rfl))))
     simp [-getElem?_pos, a62]
     exact ⟨e1, ocs, e2, by rw [← hown']; exact hR⟩
    ·by_cases q3 : r.kind = 5 ∨ r.kind = 6
     ·have hown' : (l ++ [r]) ++ zv8 x.client (rows.drop (k + 1 + (j + 1))) = zv8 x.client (rows.drop (k + 1)) := by rw [← hown]; simp [-getElem?_pos, zv8, q1, q2, q3]; rfl
      obtain ⟨v', H', ha, hs', hn', hk', _⟩ := (hs3.move (Nat.le_refl _) (Nat.le_succ _) (H' := H3.push (.row [some (0, rc)])) fun A _ hA => zz6.zz9 _ _ (by omega)).append (bytes := 120) (by have := hg3.next; simp [-getElem?_pos]; omega) (X := H3.next) (e := rc) (by simp) r5 (by omega) (by omega) hRC.one (by omega) (ex := true) (kc := 1)
      have hfin : ∃ ocs l, zzw H' H1.next 41 v' ocs ∧ zqj ocs l ∧ ocs.length ≤ j + 1 ∧ l ++ zv8 x.client (rows.drop (k + 1 + (j + 1))) = zv8 x.client (rows.drop (k + 1)) := ⟨ocs ++ [rc], l ++ [r], hs', hR.push hRC, by simp; omega, hown'⟩
      have hgf : Grow H1 H' := ⟨by have := hg3.next; simp [-getElem?_pos] at hn'; omega, fun A hA => by have := hg3.next; rw [hk' A hA, zz6.zz9 _ _ (by omega), hg3.get A hA]⟩
      rcases q3 with q3 | q3
      ·repeat (first | apply Wp.za | apply Wp.zb | apply Wp.zc | apply Wp.zd | apply Wp.ze | apply Wp.zf rfl | apply Wp.zg rfl | ((apply Wp.zh; (repeat (apply Ex.zc; (simp (disch := omega) [-getElem?_pos, hv12, hrow2, hc2, r5, rt, hw1, hX, hX3, r0, r2, txc, q1, q3, ha, zzm, zx1]; rfl))); exact Ex.zn; rfl; (simp; rfl))))
       exact ⟨(j + 1, v', H'), rfl, ⟨by show j + 1 ≤ _; omega, hgf, hfin⟩, by show _ - (j + 1) < _ - j; omega, by simp [-getElem?_pos, hv12]⟩
      ·repeat (first | apply Wp.za | apply Wp.zb | apply Wp.zc | apply Wp.zd | apply Wp.ze | apply Wp.zf rfl | apply Wp.zg rfl | ((apply Wp.zh; (repeat (apply Ex.zc; (simp (disch := omega) [-getElem?_pos, hv12, hrow2, hc2, r5, rt, hw1, hX, hX3, r0, r2, txc, q1, q3, ha, zzm, zx1]; rfl))); exact Ex.zn; rfl; (simp; rfl))))
       exact ⟨(j + 1, v', H'), rfl, ⟨by show j + 1 ≤ _; omega, hgf, hfin⟩, by show _ - (j + 1) < _ - j; omega, by simp [-getElem?_pos, hv12]⟩
     ·have hown' : l ++ zv8 x.client (rows.drop (k + 1 + (j + 1))) = zv8 x.client (rows.drop (k + 1)) := by rw [← hown]; simp [-getElem?_pos, zv8, q1, q2, q3]; rfl
      have q4 : r.kind ≠ 5 := fun q => q3 (.inl q)
      have q5 : r.kind ≠ 6 := fun q => q3 (.inr q)
      repeat (first | apply Wp.za | apply Wp.zb | apply Wp.zc | apply Wp.zd | apply Wp.ze | apply Wp.zf rfl | apply Wp.zg rfl | ((apply Wp.zh; (repeat (apply Ex.zc; (simp (disch := omega) [-getElem?_pos, hv12, hrow2, hc2, r5, rt, hw1, hX, hX3, r0, r2, txc, q1, q4, q5]; rfl))); exact Ex.zn; rfl; (simp; rfl))))
      exact ⟨(j + 1, v5, H3), rfl, ⟨by show j + 1 ≤ _; omega, hg3, ocs, l, hs3, hR, by show _ ≤ j + 1; omega, hown'⟩, by show _ - (j + 1) < _ - j; omega, by simp [-getElem?_pos, hv12]⟩
   ·have hown' : l ++ zv8 x.client (rows.drop (k + 1 + (j + 1))) = zv8 x.client (rows.drop (k + 1)) := by rw [← hown]; simp [-getElem?_pos, zv8, q1]; rfl
    repeat (first | apply Wp.za | apply Wp.zb | apply Wp.zc | apply Wp.zd | apply Wp.ze | apply Wp.zf rfl | apply Wp.zg rfl | ((apply Wp.zh; (repeat (apply Ex.zc; (simp (disch := omega) [-getElem?_pos, hv12, hrow2, hc2, r5, rt, hw1, hX, hX3, r0, r2, txc, q1]; rfl))); exact Ex.zn; rfl; (simp; rfl))))
    exact ⟨(j + 1, v5, H3), rfl, ⟨by show j + 1 ≤ _; omega, hg3, ocs, l, hs3, hR, by show _ ≤ j + 1; omega, hown'⟩, by show _ - (j + 1) < _ - j; omega, by simp [-getElem?_pos, hv12]⟩
  ·intro hjl
   apply Wp.ze
   have hown' : l = zv8 x.client (rows.drop (k + 1)) := by rw [← hown, List.drop_of_length_le (by omega)]; simp [-getElem?_pos, zv8]
   obtain ⟨e1, e2⟩ := hend v5 H2 ocs hg2 hs
   repeat (first | apply Wp.za | apply Wp.zb | apply Wp.zc | apply Wp.zd | apply Wp.ze | apply Wp.zf rfl | apply Wp.zg rfl | ((apply Wp.zh; (repeat (apply Ex.zc; (simp (disch := omega) [-getElem?_pos]; rfl))); exact Ex.zn; rfl; (simp; rfl))))
   simp [-getElem?_pos, a62]
   exact ⟨e1, ocs, e2, by rw [← hown']; exact hR⟩)
 exact ⟨v', H', ocs, hc, hg, hs, by rw [hod]; exact hR⟩
end
section
variable {kn : zy0} {env : Nat → Option zzq}
variable {H H' H1 : zz6} {A B : Nat} {v v0 : AVal} {rows l : List RowD} {rcs ocs : List (List AVal)} {rc : List AVal} {r : RowD} {x : TxD} {sv rv wv : AVal} {m : Int}
theorem c84 (h : Fn kn env 84 a84) (h64 : Fn kn env 64 a64) (n : Nat) (hs : RdE H 41 v ocs) (hl : v.lies (· < H.next)) (hR : zqj ocs l) (hB : H.rowAt B 0 = some [vi m]) (hBn : B < H.next) (hm : l.length < 400000000000) (hn : l.length + 5 < n) :
  ∃ (z : Int) (H' : zz6), zzp kn env (n + 2) (.func (.func 84) []) [v, .func (.func 64) [.ptr B 0 0]] H = some (vi z, H') ∧ Grow H H' ∧ decide (0 ≤ z) = l.any (zp3 m) := by
 have hl1 := hR.1
 have hlen : zyy v = some (vi l.length) := by rw [← hl1]; exact hs.lenS
 obtain ⟨v', H', hc, z, rfl, hg, hz⟩ := Wp.call (R := fun v' H' => ∃ z : Int, v' = vi z ∧ Grow H H' ∧ decide (0 ≤ z) = l.any (zp3 m)) 19 [0, 1, 4, 5, 7, 8, 9, 16] h.e (h.no [v, .func (.func 64) [.ptr B 0 0]] H) rfl (by simp) (n := n + 1) (by
  repeat (first | apply Wp.za | apply Wp.zb | apply Wp.zc | apply Wp.zd | apply Wp.ze | apply Wp.zf rfl | apply Wp.zg rfl | ((apply Wp.zh; (repeat (apply Ex.zc; (simp (disch := omega) [-getElem?_pos, hlen]; rfl))); exact Ex.zn; rfl; (simp; rfl))))
  apply Wp.loop (α := Nat × zz6) (fun y => [(0, v), (1, .func (.func 64) [.ptr B 0 0]), (7, vi l.length), (8, vi y.1)]) (·.2) (fun y => y.1 ≤ l.length ∧ Grow H y.2 ∧ ∀ i r, i < y.1 → l[i]? = some r → zp3 m r = false) (fun y => l.length - y.1) (0, H) rfl ⟨by omega, Grow.refl _, fun i r hi => by omega⟩ (by simp; omega) (by simp)
  rintro ⟨j, H2⟩ ⟨hj, hg, hno⟩
  dsimp only at hj hg hno ⊢
  (repeat (first | apply Wp.za | apply Wp.zb)); (apply Wp.zh; (repeat (apply Ex.zc; (simp (disch := omega) [-getElem?_pos]; rfl))); exact Ex.zn; rfl; (simp; rfl))
  (repeat (first | apply Wp.za | apply Wp.zb)); apply Wp.ite rfl
  ·intro hjl
   obtain ⟨r, hr⟩ : ∃ r, l[j]? = some r := ⟨_, List.getElem?_eq_getElem (by omega)⟩
   obtain ⟨rc, hrc⟩ : ∃ rc, ocs[j]? = some rc := ⟨_, List.getElem?_eq_getElem (by omega)⟩
   have hRC := hR.2 _ rc r hrc hr
   obtain ⟨R0, ver0, off, kc, ex, cells, hv, hrow, hc1, hc2⟩ := hs.at hrc
   rw [hl1] at hv
   have hrow2 : H2.rowAt R0 ver0 = some cells := by rw [hg.rowAt (hl _ _ _ _ _ _ _ hv)]; exact hrow
   obtain ⟨H3, hb, hg3⟩ := c64 h64 n hRC (H := H2) (B := B) (m := m) (by rw [hg.rowAt hBn]; exact hB) (by have := hg.next; omega)
   apply Wp.zd
   cases hbad : zp3 m r with
   | true =>
    rw [hbad] at hb
    repeat (first | apply Wp.za | apply Wp.zb | apply Wp.zc | apply Wp.zd | apply Wp.ze | apply Wp.zf rfl | apply Wp.zg rfl | ((apply Wp.zh; (repeat (apply Ex.zc; (simp (disch := omega) [-getElem?_pos, hv, hrow2, hc2, hb]; rfl))); exact Ex.zn; rfl; (simp; rfl))))
    simp [-getElem?_pos, a84]
    exact ⟨hg.trans hg3, r, List.mem_of_getElem? hr, hbad⟩
   | false =>
    rw [hbad] at hb
    repeat (first | apply Wp.za | apply Wp.zb | apply Wp.zc | apply Wp.zd | apply Wp.ze | apply Wp.zf rfl | apply Wp.zg rfl | ((apply Wp.zh; (repeat (apply Ex.zc; (simp (disch := omega) [-getElem?_pos, hv, hrow2, hc2, hb]; rfl))); exact Ex.zn; rfl; (simp; rfl))))
    exact ⟨(j + 1, H3), rfl, ⟨by show j + 1 ≤ _; omega, hg.trans hg3, fun i q hi hq => by
     by_cases e : i = j
     ·subst e; rw [hr] at hq; cases hq; exact hbad
     ·exact hno i q (by show i < j; have : i < j + 1 := hi; omega) hq⟩, by show _ - (j + 1) < _ - j; omega, by simp [-getElem?_pos, hv]⟩
  ·intro hjl
   apply Wp.ze
   repeat (first | apply Wp.za | apply Wp.zb | apply Wp.zc | apply Wp.zd | apply Wp.ze | apply Wp.zf rfl | apply Wp.zg rfl | ((apply Wp.zh; (repeat (apply Ex.zc; (simp (disch := omega) [-getElem?_pos]; rfl))); exact Ex.zn; rfl; (simp; rfl))))
   simp [-getElem?_pos, a84]
   refine ⟨hg, fun r hr => ?_⟩
   obtain ⟨i, hi, he⟩ := List.getElem_of_mem hr
   exact hno i r (by omega) (by rw [List.getElem?_eq_getElem hi, he]))
 exact ⟨z, H', hc, hg, hz⟩
theorem c63 (h : Fn kn env 63 a63) (h84 : Fn kn env 84 a84) (h64 : Fn kn env 64 a64) (n : Nat) (hs : RdE H 41 v ocs) (hl : v.lies (· < H.next)) (hR : zqj ocs l) (hB : H.rowAt B 0 = some [vi m]) (hBn : B < H.next) (hm : l.length < 400000000000) (hn : l.length + 5 < n) :
  ∃ H', zzp kn env (n + 3) (.func (.func 63) []) [v, .func (.func 64) [.ptr B 0 0]] H = some (zzt (l.any (zp3 m)), H') ∧ Grow H H' := by
 obtain ⟨z, H1, hc, hg, hz⟩ := c84 h84 h64 n hs hl hR hB hBn hm hn
 rw [← hz]
 refine ⟨H1, Wp.call1 9 [0, 1, 4] h.e (h.no [v, .func (.func 64) [.ptr B 0 0]] H) rfl (by simp) ?_, hg⟩
 repeat (first | apply Wp.za | apply Wp.zb | apply Wp.zc | apply Wp.zd | apply Wp.ze | apply Wp.zf rfl | apply Wp.zg rfl | ((apply Wp.zh; (repeat (apply Ex.zc; (simp (disch := omega) [-getElem?_pos, hc]; rfl))); exact Ex.zn; rfl; (simp; rfl))))
 simp [-getElem?_pos, a63]
theorem c66 (h : Fn kn env 66 a66) (n : Nat) {es : List (List AVal)} (hv : RdE H 32 v es) (hvl : v.lies (· < H.next)) (h0 : es ≠ []) (hone : ∀ e ∈ es, e.all AVal.one = true) (hl : es.length * 32 ≤ 140737488355328) :
  ∃ v' H', zzp kn env (n + 1) (.func (.func 66) []) [v] H = some (v', H') ∧ Grow H H' ∧ zzw H' H.next 32 v' es := by
 rcases id hv with ⟨_, ⟨rfl, h1⟩ | ⟨R, ver, off, kcap, ex, cells, rfl, h2⟩⟩
 ·exact absurd h1 h0
 ·have hg := Grow.push H (.row [some (0, [])])
  have hv1 := hv.grow hg hvl
  obtain ⟨ha, hs⟩ := hv1.appendNew (bytes := 32) (X := H.next) h0 (by omega) (by omega) hone hl (by simp)
  refine ⟨_, _, Wp.call1 8 [0, 2, 4] h.e (h.no _ _) rfl (by simp) ?_, hg.trans (Grow.push _ _), hs.move (by simp) (Nat.le_refl _) fun _ _ _ => rfl⟩
  repeat (first | apply Wp.za | apply Wp.zb | apply Wp.zc | apply Wp.zd | apply Wp.ze | apply Wp.zf rfl | apply Wp.zg rfl | ((apply Wp.zh; (repeat (apply Ex.zc; (simp (disch := omega) [-getElem?_pos, zxh, ha, zzm, zx1]; rfl))); exact Ex.zn; rfl; (simp; rfl))))
  simp [-getElem?_pos, a66]
end
end Go.Proofs.Ythbjfkkjmecaaaa
