/- Walks: the reference's Bound. -/
import Derived.Test.YtipmhhogebnpkaaGreatDoorJ27
import Derived.Test.YtipmhhogebnpkaaGreatDoorJ25
namespace Go.Proofs.YtipmhhogebnpkaaGreatDoor
open Go Go.Vm
set_option linter.unusedVariables false
set_option linter.unusedSimpArgs false

variable {kn : Known} {env : Nat → Option AFunc}

variable {H H' : AHeap} {v u : AVal} {l m : List Nat} {kx : Known}

/-- A number in memory, of at most so many parts. -/
def Num (H : AHeap) (v : AVal) (x b : Nat) : Prop := ∃ l, Big H v l ∧ Dig l ∧ val l = x ∧ l ≠ [] ∧ l.length ≤ b

theorem Num.grow {x b : Nat} (h : Num H v x b) (hg : Grow H H') : Num H' v x b := let ⟨l, h1, h2⟩ := h; ⟨l, h1.grow hg, h2⟩
theorem ne_len {l : List Nat} (h : 0 < l.length) : l ≠ [] := fun e => by rw [e] at h; simp [-getElem?_pos] at h

structure RefE (kx kn : Known) (env : Nat → Option AFunc) : Prop where
  of : FnX kx kn env 22 a22
  plus : FnX kx kn env 23 a23
  times : FnX kx kn env 21 a21
  minus : FnX kx kn env 24 a24
  small : FnX kx kn env 25 a25
  carried : FnX kx kn env 36 a36
  bound : FnX kx kn env 8 a8

variable (E : RefE kx kn env) (n : Nat) (hn : 10000000 < n)
include E hn

theorem nOf {x : Nat} (hx : x < 9223372036854775808) (H : AHeap) : ∃ v' H', callX kx kn env (n + 3) (.func (.func 22) []) [vi x] H = some (v', H') ∧ Grow H H' ∧ Num H' v' x 4 := by
  have _ := hn
  obtain ⟨v', H', l', h1, h2, h3, h4, h5, h6⟩ := c22 (H := H) E.of (n + 2) hx
  exact ⟨v', H', h1, h2, l', h3, h4, h5, ne_len (by omega), by omega⟩
theorem nPlus {x y b d : Nat} (h1 : Num H v x b) (h2 : Num H u y d) (hb : b < 800000) (hd : d < 800000) : ∃ v' H', callX kx kn env (n + 3) (.func (.func 23) []) [v, u] H = some (v', H') ∧ Grow H H' ∧ Num H' v' (x + y) (max b d + 3) := by
  obtain ⟨l, a1, a2, a3, a4, a5⟩ := h1
  obtain ⟨m, b1, b2, b3, b4, b5⟩ := h2
  obtain ⟨v', H', l', h1, h2, h3, h4, h5, h6, h7⟩ := c23 E.plus E.carried (n + 1) a1 b1 a4 a2 b2 (by omega) (by omega) (by omega)
  have := List.length_pos_iff.2 a4
  exact ⟨v', H', h1, h2, l', h3, h4, by rw [h5, a3, b3], ne_len (by omega), by omega⟩
theorem nTimes {x y b d : Nat} (h1 : Num H v x b) (h2 : Num H u y d) (hb : b < 1000) (hd : d < 1000) : ∃ v' H', callX kx kn env (n + 3) (.func (.func 21) []) [v, u] H = some (v', H') ∧ Grow H H' ∧ Num H' v' (x * y) (7 * b + d + 1) := by
  obtain ⟨l, a1, a2, a3, a4, a5⟩ := h1
  obtain ⟨m, b1, b2, b3, b4, b5⟩ := h2
  obtain ⟨v', H', l', h1, h2, h3, h4, h5, h6, h7⟩ := c21 E.times E.plus E.carried n a1 b1 a4 a2 b2 (by omega) (by omega) (by omega)
  exact ⟨v', H', h1, h2, l', h3, h4, by rw [h5, a3, b3], ne_len (by omega), by omega⟩
theorem nMinus {x b : Nat} (h1 : Num H v x b) (hx : 0 < x) (hb : b < 800000) : ∃ v' H', callX kx kn env (n + 3) (.func (.func 24) []) [v] H = some (v', H') ∧ Grow H H' ∧ Num H' v' (x - 1) b := by
  obtain ⟨l, a1, a2, a3, a4, a5⟩ := h1
  obtain ⟨v', H', l', h1, h2, h3, h4, h5, h6⟩ := c24 E.minus (n + 2) a1 a2 (by omega) (by omega) (by omega)
  have := List.length_pos_iff.2 a4
  exact ⟨v', H', h1, h2, l', h3, h4, by rw [h5, a3], ne_len (by omega), by omega⟩
theorem nSmall {x b : Nat} (h1 : Num H v x b) (hb : b < 800000) : callX kx kn env (n + 3) (.func (.func 25) []) [v] H = some (vi (if x < 9223372036854775808 then x else -1), H) := by
  obtain ⟨l, a1, a2, a3, a4, a5⟩ := h1
  rw [c25 E.small (n + 2) a1 a2 a4 (by omega) (by omega), a3]

theorem c8a {c k r l : Int} (hb : c < 1 ∨ r < 1 ∨ l < 2 ∨ k < 0) : callX kx kn env (n + 4) (.func (.func 8) []) [vi c, vi k, vi r, vi l] H = some (vi (-1), H) := by
  have _ := hn
  refine Wp.callX1 59 [0, 1, 2, 3, 8, 9, 10, 11, 25] E.bound rfl (by simp [-getElem?_pos]) ?_
  by_cases h1 : c < 1
  · repeat (first | apply Wp.seq | apply Wp.blk | apply Wp.ret | apply Wp.skip | apply Wp.exit | apply Wp.cT rfl | apply Wp.cF rfl | ((apply Wp.reg; (repeat (apply Ex.cons; (simp (disch := omega) [-getElem?_pos, h1]; rfl))); exact Ex.nil; rfl; (simp [-getElem?_pos]; rfl))))
    simp [-getElem?_pos, a8]
  · by_cases h2 : r < 1
    · repeat (first | apply Wp.seq | apply Wp.blk | apply Wp.ret | apply Wp.skip | apply Wp.exit | apply Wp.cT rfl | apply Wp.cF rfl | ((apply Wp.reg; (repeat (apply Ex.cons; (simp (disch := omega) [-getElem?_pos, h1, h2]; rfl))); exact Ex.nil; rfl; (simp [-getElem?_pos]; rfl))))
      simp [-getElem?_pos, a8]
    · by_cases h3 : l < 2
      · repeat (first | apply Wp.seq | apply Wp.blk | apply Wp.ret | apply Wp.skip | apply Wp.exit | apply Wp.cT rfl | apply Wp.cF rfl | ((apply Wp.reg; (repeat (apply Ex.cons; (simp (disch := omega) [-getElem?_pos, h1, h2, h3]; rfl))); exact Ex.nil; rfl; (simp [-getElem?_pos]; rfl))))
        simp [-getElem?_pos, a8]
      · have h4 : k < 0 := by omega
        repeat (first | apply Wp.seq | apply Wp.blk | apply Wp.ret | apply Wp.skip | apply Wp.exit | apply Wp.cT rfl | apply Wp.cF rfl | ((apply Wp.reg; (repeat (apply Ex.cons; (simp (disch := omega) [-getElem?_pos, h1, h2, h3, h4]; rfl))); exact Ex.nil; rfl; (simp [-getElem?_pos]; rfl))))
        simp [-getElem?_pos, a8]

set_option maxHeartbeats 2000000 in
theorem c8b {c k r l : Nat} (hc : 1 ≤ c) (hr : 1 ≤ r) (hl : 2 ≤ l) (hc2 : c < 9223372036854775808) (hr2 : r < 9223372036854775808) (hk2 : k < 9223372036854775808) (hl2 : l < 9223372036854775808) :
    ∃ H', callX kx kn env (n + 4) (.func (.func 8) []) [vi c, vi k, vi r, vi l] H = some (vi (if boundT c k r l < 9223372036854775808 then boundT c k r l else -1), H') := by
  have i1 : ¬ (c : Int) < 1 := by omega
  have i2 : ¬ (r : Int) < 1 := by omega
  have i3 : ¬ (l : Int) < 2 := by omega
  have i4 : ¬ (k : Int) < 0 := by omega
  obtain ⟨v1, H1, e1, g1, n1⟩ := nOf E n hn (x := 2) (by omega) H
  obtain ⟨v2, H2, e2, g2, n2⟩ := nOf E n hn hc2 H1
  obtain ⟨v3, H3, e3, g3, n3⟩ := nTimes E n hn (n1.grow g2) n2 (by omega) (by omega)
  obtain ⟨l3, a1, a2, a3, a4, a5⟩ := n3
  have hbe : Big (H3.push (.row [some (0, [])])) (.slice H3.next 0 0 0 0 true 1) [] := ⟨⟨fun e he => by simp [-getElem?_pos] at he, .inr ⟨H3.next, 0, 0, 0, true, [], rfl, by simp [-getElem?_pos], by simp [-getElem?_pos], by simp [-getElem?_pos], by simp [-getElem?_pos]⟩⟩, fun R ver off len kcap ex esz e => by cases e; simp [-getElem?_pos]⟩
  obtain ⟨v5, H5, l5, e5, g5, b5, d5, x5, y5, z5⟩ := c23 E.plus E.carried (n + 1) (a1.grow (Grow.push _ _)) hbe a4 a2 (fun d hd => by simp [-getElem?_pos] at hd) (by omega) (by simp [-getElem?_pos]) (by omega)
  have p3 := List.length_pos_iff.2 a4
  have n5 : Num H5 v5 (2 * c) 36 := ⟨l5, b5, d5, by rw [x5, a3]; rfl, ne_len (by omega), by have := z5; simp [-getElem?_pos] at this; omega⟩
  obtain ⟨v6, H6, e6, g6, n6⟩ := nMinus E n hn n5 (by omega) (by omega)
  obtain ⟨v7, H7, e7, g7, n7⟩ := nOf E n hn (x := 2) (by omega) H6
  obtain ⟨v8, H8, e8, g8, n8⟩ := nOf E n hn hl2 H7
  obtain ⟨v9, H9, e9, g9, n9⟩ := nTimes E n hn (n7.grow g8) n8 (by omega) (by omega)
  obtain ⟨v10, H10, e10, g10, n10⟩ := nOf E n hn hr2 H9
  obtain ⟨v11, H11, e11, g11, n11⟩ := nPlus E n hn (n9.grow g10) n10 (by omega) (by omega)
  obtain ⟨v12, H12, e12, g12, n12⟩ := nOf E n hn hk2 H11
  obtain ⟨v13, H13, e13, g13, n13⟩ := nOf E n hn (x := 13) (by omega) H12
  obtain ⟨v14, H14, e14, g14, n14⟩ := nPlus E n hn (n12.grow g13) n13 (by omega) (by omega)
  obtain ⟨v15, H15, e15, g15, n15⟩ := nPlus E n hn (n11.grow ((g12.trans g13).trans g14)) n14 (by omega) (by omega)
  obtain ⟨v16, H16, e16, g16, n16⟩ := nOf E n hn hr2 H15
  obtain ⟨v17, H17, e17, g17, n17⟩ := nOf E n hn (x := 2) (by omega) H16
  obtain ⟨v18, H18, e18, g18, n18⟩ := nPlus E n hn (n16.grow g17) n17 (by omega) (by omega)
  obtain ⟨v19, H19, e19, g19, n19⟩ := nTimes E n hn (n6.grow (((((((((((g7.trans g8).trans g9).trans g10).trans g11).trans g12).trans g13).trans g14).trans g15).trans g16).trans g17).trans g18)) n18 (by omega) (by omega)
  obtain ⟨v20, H20, e20, g20, n20⟩ := nPlus E n hn (n15.grow (((g16.trans g17).trans g18).trans g19)) n19 (by omega) (by omega)
  obtain ⟨v21, H21, e21, g21, n21⟩ := nOf E n hn hc2 H20
  obtain ⟨v22, H22, e22, g22, n22⟩ := nTimes E n hn n21 (n20.grow g21) (by omega) (by omega)
  have e23 := nSmall E n hn n22 (by omega)
  have hT : c * (2 * l + r + (k + 13) + (2 * c - 1) * (r + 2)) = boundT c k r l := by unfold boundT; congr 1
  rw [hT] at e23
  have e1' : callX kx kn env (n + 3) (.func (.func 22) []) [vi 2] H = some (v1, H1) := e1
  have e7' : callX kx kn env (n + 3) (.func (.func 22) []) [vi 2] H6 = some (v7, H7) := e7
  have e13' : callX kx kn env (n + 3) (.func (.func 22) []) [vi 13] H12 = some (v13, H13) := e13
  have e17' : callX kx kn env (n + 3) (.func (.func 22) []) [vi 2] H16 = some (v17, H17) := e17
  generalize (if boundT c k r l < 9223372036854775808 then (boundT c k r l : Int) else -1) = T at *
  refine ⟨H22, Wp.callX1 59 [0, 1, 2, 3, 8, 9, 10, 11, 25] E.bound rfl (by simp [-getElem?_pos]) ?_⟩
  repeat (first | apply Wp.seq | apply Wp.blk | apply Wp.ret | apply Wp.skip | apply Wp.exit | apply Wp.cT rfl | apply Wp.cF rfl | ((apply Wp.reg; (repeat (apply Ex.cons; (simp (disch := omega) [-getElem?_pos, i1, i2, i3, i4, e1', e2, e3, e5, e6, e7', e8, e9, e10, e11, e12, e13', e14, e15, e16, e17', e18, e19, e20, e21, e22, e23, repl, aFill]; rfl))); exact Ex.nil; rfl; (simp [-getElem?_pos]; rfl))))
  simp [-getElem?_pos, a8]

end Go.Proofs.YtipmhhogebnpkaaGreatDoor
namespace Go.Proofs.YtipmhhogebnpkaaGreatDoor
open Go Go.Vm
set_option linter.unusedVariables false
set_option linter.unusedSimpArgs false

variable {kn : Known} {env : Nat → Option AFunc}

variable {kx : Known}

/-- A number of 64 bits with a sign. -/
abbrev I64 (x : Int) : Prop := -9223372036854775808 ≤ x ∧ x < 9223372036854775808

structure LawE (kx kn : Known) (env : Nat → Option AFunc) : Prop where
  ref : RefE kx kn env
  bound : FnX kx kn env 7 a7
  product : FnX kx kn env 19 a19
  sum : FnX kx kn env 20 a20
  mul : FnX kx kn env 34 a34
  add : ∀ (m x y : Nat) (H : AHeap), x < 18446744073709551616 → y < 18446744073709551616 → callX kx kn env (m + 1) (.func (.func 35) []) [u64 x, u64 y, u64 0] H = some (.tuple [u64 ((x + y) % 18446744073709551616), u64 ((x + y) / 18446744073709551616)], H)
  awake : ∀ (n : Nat) (H : AHeap), callX kx kn env (n + 1) (.func (.func 6) []) [] H = some (abool true, H)

theorem boundI_bad {c k r l : Int} (h : c < 1 ∨ r < 1 ∨ l < 2 ∨ k < 0) : boundI c k r l = -1 := if_pos h
theorem boundI_good {c k r l : Nat} (hc : 1 ≤ c) (hr : 1 ≤ r) (hl : 2 ≤ l) : boundI c k r l = (if boundT c k r l < 9223372036854775808 then (boundT c k r l : Int) else -1) := by
  unfold boundI
  rw [if_neg (by omega)]
  simp only [Int.toNat_natCast]

variable (E : LawE kx kn env) (n : Nat) (hn : 10000000 < n)
include E hn

theorem boundAll {c k r l : Int} (hc : I64 c) (hk : I64 k) (hr : I64 r) (hl : I64 l) (H : AHeap) : ∃ H', callX kx kn env (n + 4) (.func (.func 7) []) [vi c, vi k, vi r, vi l] H = some (vi (boundI c k r l), H') ∧ H.next ≤ H'.next := by
  by_cases h : c < 1 ∨ r < 1 ∨ l < 2 ∨ k < 0
  · rw [boundI_bad h]
    exact ⟨H, c7a E.bound (n + 3) h, Nat.le_refl _⟩
  · obtain ⟨c, rfl⟩ := Int.eq_ofNat_of_zero_le (show 0 ≤ c by omega)
    obtain ⟨k, rfl⟩ := Int.eq_ofNat_of_zero_le (show 0 ≤ k by omega)
    obtain ⟨r, rfl⟩ := Int.eq_ofNat_of_zero_le (show 0 ≤ r by omega)
    obtain ⟨l, rfl⟩ := Int.eq_ofNat_of_zero_le (show 0 ≤ l by omega)
    rw [boundI_good (by omega) (by omega) (by omega)]
    exact c7b E.bound E.product E.sum E.mul (n + 1) (by omega) (by omega) (by omega) (by omega) (by omega) (by omega) (by omega) (by omega) E.add

theorem refAll {c k r l : Int} (hc : I64 c) (hk : I64 k) (hr : I64 r) (hl : I64 l) (H : AHeap) : ∃ H', callX kx kn env (n + 4) (.func (.func 8) []) [vi c, vi k, vi r, vi l] H = some (vi (boundI c k r l), H') := by
  by_cases h : c < 1 ∨ r < 1 ∨ l < 2 ∨ k < 0
  · rw [boundI_bad h]
    exact ⟨H, c8a E.ref n hn h⟩
  · obtain ⟨c, rfl⟩ := Int.eq_ofNat_of_zero_le (show 0 ≤ c by omega)
    obtain ⟨k, rfl⟩ := Int.eq_ofNat_of_zero_le (show 0 ≤ k by omega)
    obtain ⟨r, rfl⟩ := Int.eq_ofNat_of_zero_le (show 0 ≤ r by omega)
    obtain ⟨l, rfl⟩ := Int.eq_ofNat_of_zero_le (show 0 ≤ l by omega)
    rw [boundI_good (by omega) (by omega) (by omega)]
    exact c8b E.ref n hn (by omega) (by omega) (by omega) (by omega) (by omega) (by omega) (by omega)

theorem c3 (h : FnX kx kn env 3 a3) {c k r l : Int} (hc : I64 c) (hk : I64 k) (hr : I64 r) (hl : I64 l) (H : AHeap) : ∃ H', callX kx kn env (n + 5) (.func (.func 3) []) [vi c, vi k, vi r, vi l] H = some (abool true, H') := by
  have e0 := E.awake (n + 3) H
  obtain ⟨H1, e1, _⟩ := boundAll E n hn hc hk hr hl H
  obtain ⟨H2, e2⟩ := refAll E n hn hc hk hr hl H1
  generalize boundI c k r l = T at *
  refine ⟨H2, Wp.callX1 23 [0, 1, 2, 3, 8] h rfl (by simp [-getElem?_pos]) ?_⟩
  repeat (first | apply Wp.seq | apply Wp.blk | apply Wp.ret | apply Wp.skip | apply Wp.exit | apply Wp.cT rfl | apply Wp.cF rfl | ((apply Wp.reg; (repeat (apply Ex.cons; (simp (disch := omega) [-getElem?_pos, e0, e1, e2]; rfl))); exact Ex.nil; rfl; (simp [-getElem?_pos]; rfl))))
  simp [-getElem?_pos, a3]

end Go.Proofs.YtipmhhogebnpkaaGreatDoor
