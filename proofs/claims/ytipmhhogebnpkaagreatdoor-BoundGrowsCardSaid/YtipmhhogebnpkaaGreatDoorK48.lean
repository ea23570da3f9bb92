/- The abstract machine: a walked run over plain arguments is a call, from any world. -/
import Derived.Test.YtipmhhogebnpkaaGreatDoorK27
import Derived.Test.YtipmhhogebnpkaaGreatDoorK18
import Derived.Test.YtipmhhogebnpkaaGreatDoorK28
import Derived.Test.YtipmhhogebnpkaaGreatDoorK47
namespace Go.Vm
open Go

set_option linter.unusedVariables false

/-- **A WALK OVER PLAIN ARGUMENTS IS A CALL** (functions without a body answered from outside). -/
theorem calls_of_callX {P : Program} {kx kn : Known} {env : Nat → Option AFunc} (hx : ExtOk P kx) (hk : KnownOk P kn) (henv : EnvOk P env) (hm : P.follows .mixedOrders = true) {n f : Nat} (hgo : GoFn P f) {cs : List Value} {v : Value} {H1 : AHeap}
    (h : callX kx kn env n (.func (.func f) []) (cs.map .raw) .empty = some (.raw v, H1)) (w : World) (hgl : GlHeld w) : Calls P f cs.toArray w fun e w' => e = .returned v ∧ GrownW w w' := by
  have hc := (callX_ok hx hk henv hm n _ _ _ _ _ h).calls hgo
  have := hc (bare w) _ w cs.toArray.toList (HRel.bare P w hgl) (by rw [List.append_nil, List.toList_toArray]; exact VRels.map_raw cs)
  rw [callsIn_wide] at this
  refine this.mono fun e w' ⟨v', cv, H', ρ', e1, ⟨e2, e3⟩, e4, e5, _⟩ => ?_
  subst e2
  cases e4
  exact ⟨e1, e5.grown⟩

end Go.Vm
namespace Go.Proofs.YtipmhhogebnpkaaGreatDoor
open Go Go.Vm
set_option linter.unusedVariables false
set_option linter.unusedSimpArgs false

variable {kn : Known} {env : Nat → Option AFunc}

abbrev KX : Known := orX (cloneX 286) (addX 35)

theorem kx_none {f : Nat} (args : List AVal) (H : AHeap) (h1 : f ≠ 286) (h2 : f ≠ 35) : KX f args H = none := by simp [-getElem?_pos, orX, cloneX, addX, h1, h2]
theorem yes_none {f : Nat} (args : List AVal) (H : AHeap) (h : f ≠ 6) : yes 6 f args H = none := by
  cases args with
  | cons a l => rfl
  | nil =>
    show Bool.rec (motive := fun _ => Res) none (some (abool true, H)) (Nat.beq f 6) = none
    rw [show Nat.beq f 6 = false from Bool.eq_false_iff.2 fun e => h (Nat.eq_of_beq_eq_true e)]

theorem fnx {f : Nat} {a : AFunc} (h : envOf tab f = some a) (h1 : f ≠ 286) (h2 : f ≠ 35) (h3 : f ≠ 6) : FnX KX (yes 6) (envOf tab) f a := ⟨h, fun args H => kx_none args H h1 h2, fun args H => yes_none args H h3⟩

theorem add_says (m x y : Nat) (H : AHeap) (hx : x < 18446744073709551616) (hy : y < 18446744073709551616) : callX KX (yes 6) (envOf tab) (m + 1) (.func (.func 35) []) [u64 x, u64 y, u64 0] H = some (.tuple [u64 ((x + y) % 18446744073709551616), u64 ((x + y) / 18446744073709551616)], H) := by
  refine exX m ?_
  have e1 : cloneX 286 35 [u64 x, u64 y, u64 0] H = none := by simp [-getElem?_pos, cloneX]
  have e2 : (ile 0 (x : Int) && ile 0 (y : Int) && (ieq ((0 : Nat) : Int) 0 || ieq ((0 : Nat) : Int) 1)) = true := by simp [-getElem?_pos, ile_eq, ieq_eq]
  simp only [orX, e1, addX, if_true, e2]
  have e3 : ((x : Int) + (y : Int) + ((0 : Nat) : Int)) % 18446744073709551616 = (((x + y) % 18446744073709551616 : Nat) : Int) := by omega
  have e4 : ((x : Int) + (y : Int) + ((0 : Nat) : Int)) / 18446744073709551616 = (((x + y) / 18446744073709551616 : Nat) : Int) := by omega
  rw [e3, e4]

theorem awake_says (n : Nat) (H : AHeap) : callX KX (yes 6) (envOf tab) (n + 1) (.func (.func 6) []) [] H = some (abool true, H) :=
  knX n (kx_none [] H (by decide) (by decide)) rfl

theorem lawE : LawE KX (yes 6) (envOf tab) where
  ref := ⟨fnx (by kernel_rfl) (by decide) (by decide) (by decide), fnx (by kernel_rfl) (by decide) (by decide) (by decide), fnx (by kernel_rfl) (by decide) (by decide) (by decide), fnx (by kernel_rfl) (by decide) (by decide) (by decide), fnx (by kernel_rfl) (by decide) (by decide) (by decide), fnx (by kernel_rfl) (by decide) (by decide) (by decide), fnx (by kernel_rfl) (by decide) (by decide) (by decide)⟩
  bound := fnx (by kernel_rfl) (by decide) (by decide) (by decide)
  product := fnx (by kernel_rfl) (by decide) (by decide) (by decide)
  sum := fnx (by kernel_rfl) (by decide) (by decide) (by decide)
  mul := fnx (by kernel_rfl) (by decide) (by decide) (by decide)
  add := add_says
  awake := awake_says

theorem i64_of {x : Int} (h : (Lit.int .i64 x).wf = true) : I64 x := by
  simp [-getElem?_pos, Lit.wf, IntKind.min, IntKind.max, IntKind.bits, IntKind.signed] at h; omega

end Go.Proofs.YtipmhhogebnpkaaGreatDoor
namespace Go.Proofs.YtipmhhogebnpkaaGreatDoor
open Go Go.Vm
set_option linter.unusedVariables false
set_option linter.unusedSimpArgs false

variable {kn : Known} {env : Nat → Option AFunc}

variable {kx : Known}

theorem sum_lt {c c' S S' : Nat} (hc : 1 ≤ c) (h : (c < c' ∧ S ≤ S') ∨ (c ≤ c' ∧ S < S')) : c * S ≤ c' * S' ∧ (0 < S → c * S < c' * S') := by
  have h1 : c * S ≤ c' * S' := Nat.mul_le_mul (by omega) (by omega)
  refine ⟨h1, fun hS => ?_⟩
  rcases h with ⟨a, b⟩ | ⟨a, b⟩
  · have h2 : (c + 1) * S ≤ c' * S' := Nat.mul_le_mul a b
    rw [Nat.succ_mul] at h2
    omega
  · have h2 : c * (S + 1) ≤ c' * S' := Nat.mul_le_mul a b
    rw [Nat.mul_succ] at h2
    omega

theorem boundT_lt {c k r l c' k' r' l' : Nat} (hc : 1 ≤ c) (hr : 1 ≤ r) (h : (c' = c + 1 ∧ k' = k ∧ r' = r ∧ l' = l) ∨ (c' = c ∧ k' = k + 1 ∧ r' = r ∧ l' = l) ∨ (c' = c ∧ k' = k ∧ r' = r + 1 ∧ l' = l) ∨ (c' = c ∧ k' = k ∧ r' = r ∧ l' = l + 1)) : boundT c k r l < boundT c' k' r' l' := by
  unfold boundT
  have g : (2 * c - 1) * (r + 2) ≤ (2 * c' - 1) * (r' + 2) := Nat.mul_le_mul (by omega) (by omega)
  generalize (2 * c - 1) * (r + 2) = G at *
  generalize (2 * c' - 1) * (r' + 2) = G' at *
  refine (sum_lt hc ?_).2 (by omega)
  rcases h with h | h | h | h
  · left; omega
  all_goals (right; omega)
theorem boundT_pos {c k r l : Nat} (hc : 1 ≤ c) : 0 < boundT c k r l := Nat.mul_pos hc (by omega)

/-- What the law asks of the two bounds. -/
def growsB (c k r l a b : Int) : Bool := if c < 1 ∨ k < 0 ∨ r < 1 ∨ l < 2 then decide (a = -1) else if a = -1 then decide (b = -1) else decide (0 < a) && (decide (a < b) || decide (b = -1))

theorem grows_plain {c k r l c' k' r' l' : Int} (h : (c' = c + 1 ∧ k' = k ∧ r' = r ∧ l' = l) ∨ (c' = c ∧ k' = k + 1 ∧ r' = r ∧ l' = l) ∨ (c' = c ∧ k' = k ∧ r' = r + 1 ∧ l' = l) ∨ (c' = c ∧ k' = k ∧ r' = r ∧ l' = l + 1)) : growsB c k r l (boundI c k r l) (boundI c' k' r' l') = true := by
  unfold growsB
  by_cases hb : c < 1 ∨ k < 0 ∨ r < 1 ∨ l < 2
  · rw [if_pos hb, boundI_bad (by omega)]; rfl
  · rw [if_neg hb]
    obtain ⟨c, rfl⟩ := Int.eq_ofNat_of_zero_le (show 0 ≤ c by omega)
    obtain ⟨k, rfl⟩ := Int.eq_ofNat_of_zero_le (show 0 ≤ k by omega)
    obtain ⟨r, rfl⟩ := Int.eq_ofNat_of_zero_le (show 0 ≤ r by omega)
    obtain ⟨l, rfl⟩ := Int.eq_ofNat_of_zero_le (show 0 ≤ l by omega)
    obtain ⟨c', rfl⟩ := Int.eq_ofNat_of_zero_le (show 0 ≤ c' by omega)
    obtain ⟨k', rfl⟩ := Int.eq_ofNat_of_zero_le (show 0 ≤ k' by omega)
    obtain ⟨r', rfl⟩ := Int.eq_ofNat_of_zero_le (show 0 ≤ r' by omega)
    obtain ⟨l', rfl⟩ := Int.eq_ofNat_of_zero_le (show 0 ≤ l' by omega)
    rw [boundI_good (by omega) (by omega) (by omega), boundI_good (by omega) (by omega) (by omega)]
    have h1 := boundT_lt (c := c) (k := k) (r := r) (l := l) (c' := c') (k' := k') (r' := r') (l' := l') (by omega) (by omega) (by omega)
    have h2 := boundT_pos (c := c) (k := k) (r := r) (l := l) (by omega)
    generalize boundT c k r l = T at *
    generalize boundT c' k' r' l' = T' at *
    by_cases ha : T < 9223372036854775808
    · rw [if_pos ha, if_neg (by omega)]
      by_cases hb2 : T' < 9223372036854775808
      · rw [if_pos hb2]; simp [-getElem?_pos]; omega
      · rw [if_neg hb2]; simp [-getElem?_pos]; omega
    · rw [if_neg ha, if_neg (show ¬ T' < _ by omega)]; rfl

theorem tmod4 {w : Int} : -4 < w.tmod 4 ∧ w.tmod 4 < 4 := ⟨by have := Int.lt_tmod_of_pos w (show (0 : Int) < 4 by omega); omega, Int.tmod_lt_of_pos w (by omega)⟩
theorem tmod4' {s : Int} (h0 : 0 < s) (h : s < 8) : s.tmod 4 = 0 ∨ s.tmod 4 = 1 ∨ s.tmod 4 = 2 ∨ s.tmod 4 = 3 := by
  rw [Int.tmod_eq_emod_of_nonneg (by omega)]; omega

variable (E : LawE kx kn env) (n : Nat) (hn : 10000000 < n)
include E hn

set_option maxHeartbeats 4000000 in
theorem c5 (h : FnX kx kn env 5 a5) {c k r l w : Int} (hc : I64 c) (hk : I64 k) (hr : I64 r) (hl : I64 l) (H : AHeap) : ∃ H', callX kx kn env (n + 5) (.func (.func 5) []) [vi c, vi k, vi r, vi l, vi w] H = some (abool true, H') := by
  have e0 := E.awake (n + 3) H
  obtain ⟨H1, e1, _⟩ := boundAll E n hn hc hk hr hl H
  obtain ⟨m1, m2⟩ := tmod4 (w := w)
  obtain ⟨s, hs⟩ : ∃ s, s = w.tmod 4 + 4 := ⟨_, rfl⟩
  have hw1 : wrapF .i64 (w.tmod 4) = w.tmod 4 := wrapI' ⟨by omega, by omega⟩
  have hw2 : wrapF .i64 (w.tmod 4 + 4) = s := by rw [wrapI' ⟨by omega, by omega⟩, hs]
  have hgp := fun c' k' r' l' q => grows_plain (c := c) (k := k) (r := r) (l := l) (c' := c') (k' := k') (r' := r') (l' := l') q
  obtain ⟨H2, hH2⟩ : ∃ H2, H2 = H1.push (.row [some (0, [vi c, vi k, vi r, vi l])]) := ⟨_, rfl⟩
  have hrw : RowW H2 H1.next 0 1 [vi c, vi k, vi r, vi l] H2 := ⟨⟨_, by rw [hH2, AHeap.get_push_same], rfl, rfl⟩, rfl, fun _ _ => rfl⟩
  have hrow := hrw.at
  suffices hh : ∃ v H', callX kx kn env (n + 5) (.func (.func 5) []) [vi c, vi k, vi r, vi l, vi w] H = some (v, H') ∧ v = abool true by
    obtain ⟨v, H', h1, rfl⟩ := hh
    exact ⟨H', h1⟩
  generalize boundI c k r l = a at *
  refine Wp.callX 86 [0, 1, 2, 3, 4, 10, 11, 12, 13, 14, 16, 35, 68, 72] h rfl (by simp [-getElem?_pos]) ?_
  rcases tmod4' (s := s) (by omega) (by omega) with hi | hi | hi | hi
  · by_cases hmx : c = 9223372036854775807
    · subst hmx
      repeat (first | apply Wp.seq | apply Wp.blk | apply Wp.ret | apply Wp.skip | apply Wp.exit | apply Wp.cT rfl | apply Wp.cF rfl | ((apply Wp.reg; (repeat (apply Ex.cons; (simp (disch := omega) [-getElem?_pos, e0, e1, hw1, hw2, hi, repl]; rfl))); exact Ex.nil; rfl; (simp [-getElem?_pos]; rfl))))
      simp [-getElem?_pos, a5]
    · have hwx : wrapF .i64 (c + 1) = c + 1 := wrapI' ⟨by omega, by omega⟩
      obtain ⟨H3, hwr, hrw3⟩ := hrw.write (off := 0) (vals := [vi (c + 1)]) (by simp [-getElem?_pos]) (by simp [-getElem?_pos]) rfl
      have hrow3 : H3.rowAt H1.next 0 = some [vi (c + 1), vi k, vi r, vi l] := hrw3.at
      have hn3 := hrw3.next
      obtain ⟨H4, e2, hn4⟩ := boundAll E n hn (c := (c + 1)) (k := k) (r := r) (l := l) (by simp only [I64] at *; omega) (by simp only [I64] at *; omega) (by simp only [I64] at *; omega) (by simp only [I64] at *; omega) H3
      have hp := hgp (c + 1) k r l (by omega)
      generalize boundI (c + 1) k r l = b at *
      repeat (first | apply Wp.seq | apply Wp.blk | apply Wp.ret | apply Wp.skip | apply Wp.exit | apply Wp.cT rfl | apply Wp.cF rfl | ((apply Wp.reg; (repeat (apply Ex.cons; (simp (disch := omega) [-getElem?_pos, e0, e1, hw1, hw2, hi, hmx, repl]; rfl))); exact Ex.nil; rfl; (simp [-getElem?_pos]; rfl))))
      rw [show H1.push (.row [some (0, [.raw (.int .i64 c), .raw (.int .i64 k), .raw (.int .i64 r), .raw (.int .i64 l)])]) = H2 from hH2.symm]
      repeat (first | apply Wp.seq | apply Wp.blk | apply Wp.ret | apply Wp.skip | apply Wp.exit | apply Wp.cT rfl | apply Wp.cF rfl | ((apply Wp.reg; (repeat (apply Ex.cons; (simp (disch := omega) [-getElem?_pos, hmx, hrow, hwx, hwr, hrow3, e2]; rfl))); exact Ex.nil; rfl; (simp [-getElem?_pos]; rfl))) | ((apply Wp.draw; (repeat (first | ((first | apply Dr.q rfl rfl | apply Dr.r rfl rfl); (simp (disch := omega) [-getElem?_pos, hmx, hrow, hwx, hwr, hrow3, e2]; rfl); (simp [-getElem?_pos]; rfl)) | (apply Dr.imm rfl; (simp (disch := omega) [-getElem?_pos, hmx, hrow, hwx, hwr, hrow3, e2]; rfl); (focus first | (simp [-getElem?_pos]; done) | (simp [-getElem?_pos]; omega))))); exact Dr.nil; rfl; (first | (focus (simp (disch := omega) [-getElem?_pos, hmx, hrow, hwx, hwr, hrow3, e2]; done)) | rfl); (simp [-getElem?_pos]; rfl))))
      unfold growsB at hp
      by_cases q1 : c < 1
      · have qa : a = -1 := by simpa [-getElem?_pos, q1] using hp
        repeat (first | apply Wp.seq | apply Wp.blk | apply Wp.ret | apply Wp.skip | apply Wp.exit | apply Wp.cT rfl | apply Wp.cF rfl | ((apply Wp.reg; (repeat (apply Ex.cons; (simp (disch := omega) [-getElem?_pos, q1, qa]; rfl))); exact Ex.nil; rfl; (simp [-getElem?_pos]; rfl))))
        simp [-getElem?_pos, a5]
      · by_cases q2 : k < 0
        · have qa : a = -1 := by simpa [-getElem?_pos, q2] using hp
          repeat (first | apply Wp.seq | apply Wp.blk | apply Wp.ret | apply Wp.skip | apply Wp.exit | apply Wp.cT rfl | apply Wp.cF rfl | ((apply Wp.reg; (repeat (apply Ex.cons; (simp (disch := omega) [-getElem?_pos, q1, q2, qa]; rfl))); exact Ex.nil; rfl; (simp [-getElem?_pos]; rfl))))
          simp [-getElem?_pos, a5]
        · by_cases q3 : r < 1
          · have qa : a = -1 := by simpa [-getElem?_pos, q3] using hp
            repeat (first | apply Wp.seq | apply Wp.blk | apply Wp.ret | apply Wp.skip | apply Wp.exit | apply Wp.cT rfl | apply Wp.cF rfl | ((apply Wp.reg; (repeat (apply Ex.cons; (simp (disch := omega) [-getElem?_pos, q1, q2, q3, qa]; rfl))); exact Ex.nil; rfl; (simp [-getElem?_pos]; rfl))))
            simp [-getElem?_pos, a5]
          · by_cases q4 : l < 2
            · have qa : a = -1 := by simpa [-getElem?_pos, q4] using hp
              repeat (first | apply Wp.seq | apply Wp.blk | apply Wp.ret | apply Wp.skip | apply Wp.exit | apply Wp.cT rfl | apply Wp.cF rfl | ((apply Wp.reg; (repeat (apply Ex.cons; (simp (disch := omega) [-getElem?_pos, q1, q2, q3, q4, qa]; rfl))); exact Ex.nil; rfl; (simp [-getElem?_pos]; rfl))))
              simp [-getElem?_pos, a5]
            · rw [if_neg (by omega)] at hp
              by_cases qa : a = -1
              · have qb : b = -1 := by simpa [-getElem?_pos, qa] using hp
                repeat (first | apply Wp.seq | apply Wp.blk | apply Wp.ret | apply Wp.skip | apply Wp.exit | apply Wp.cT rfl | apply Wp.cF rfl | ((apply Wp.reg; (repeat (apply Ex.cons; (simp (disch := omega) [-getElem?_pos, q1, q2, q3, q4, qa, qb]; rfl))); exact Ex.nil; rfl; (simp [-getElem?_pos]; rfl))))
                simp [-getElem?_pos, a5]
              · rw [if_neg qa] at hp
                have hp' : 0 < a ∧ (a < b ∨ b = -1) := by simpa [-getElem?_pos] using hp
                obtain ⟨qp, qb⟩ := hp'
                by_cases qc : a < b
                · repeat (first | apply Wp.seq | apply Wp.blk | apply Wp.ret | apply Wp.skip | apply Wp.exit | apply Wp.cT rfl | apply Wp.cF rfl | ((apply Wp.reg; (repeat (apply Ex.cons; (simp (disch := omega) [-getElem?_pos, q1, q2, q3, q4, qa, qp, qc]; rfl))); exact Ex.nil; rfl; (simp [-getElem?_pos]; rfl))))
                  simp [-getElem?_pos, a5]
                · have qb : b = -1 := by omega
                  repeat (first | apply Wp.seq | apply Wp.blk | apply Wp.ret | apply Wp.skip | apply Wp.exit | apply Wp.cT rfl | apply Wp.cF rfl | ((apply Wp.reg; (repeat (apply Ex.cons; (simp (disch := omega) [-getElem?_pos, q1, q2, q3, q4, qa, qp, qc, qb]; rfl))); exact Ex.nil; rfl; (simp [-getElem?_pos]; rfl))))
                  simp [-getElem?_pos, a5]
  · by_cases hmx : k = 9223372036854775807
    · subst hmx
      repeat (first | apply Wp.seq | apply Wp.blk | apply Wp.ret | apply Wp.skip | apply Wp.exit | apply Wp.cT rfl | apply Wp.cF rfl | ((apply Wp.reg; (repeat (apply Ex.cons; (simp (disch := omega) [-getElem?_pos, e0, e1, hw1, hw2, hi, repl]; rfl))); exact Ex.nil; rfl; (simp [-getElem?_pos]; rfl))))
      simp [-getElem?_pos, a5]
    · have hwx : wrapF .i64 (k + 1) = k + 1 := wrapI' ⟨by omega, by omega⟩
      obtain ⟨H3, hwr, hrw3⟩ := hrw.write (off := 1) (vals := [vi (k + 1)]) (by simp [-getElem?_pos]) (by simp [-getElem?_pos]) rfl
      have hrow3 : H3.rowAt H1.next 0 = some [vi c, vi (k + 1), vi r, vi l] := hrw3.at
      have hn3 := hrw3.next
      obtain ⟨H4, e2, hn4⟩ := boundAll E n hn (c := c) (k := (k + 1)) (r := r) (l := l) (by simp only [I64] at *; omega) (by simp only [I64] at *; omega) (by simp only [I64] at *; omega) (by simp only [I64] at *; omega) H3
      have hp := hgp c (k + 1) r l (by omega)
      generalize boundI c (k + 1) r l = b at *
      repeat (first | apply Wp.seq | apply Wp.blk | apply Wp.ret | apply Wp.skip | apply Wp.exit | apply Wp.cT rfl | apply Wp.cF rfl | ((apply Wp.reg; (repeat (apply Ex.cons; (simp (disch := omega) [-getElem?_pos, e0, e1, hw1, hw2, hi, hmx, repl]; rfl))); exact Ex.nil; rfl; (simp [-getElem?_pos]; rfl))))
      rw [show H1.push (.row [some (0, [.raw (.int .i64 c), .raw (.int .i64 k), .raw (.int .i64 r), .raw (.int .i64 l)])]) = H2 from hH2.symm]
      repeat (first | apply Wp.seq | apply Wp.blk | apply Wp.ret | apply Wp.skip | apply Wp.exit | apply Wp.cT rfl | apply Wp.cF rfl | ((apply Wp.reg; (repeat (apply Ex.cons; (simp (disch := omega) [-getElem?_pos, hmx, hrow, hwx, hwr, hrow3, e2]; rfl))); exact Ex.nil; rfl; (simp [-getElem?_pos]; rfl))) | ((apply Wp.draw; (repeat (first | ((first | apply Dr.q rfl rfl | apply Dr.r rfl rfl); (simp (disch := omega) [-getElem?_pos, hmx, hrow, hwx, hwr, hrow3, e2]; rfl); (simp [-getElem?_pos]; rfl)) | (apply Dr.imm rfl; (simp (disch := omega) [-getElem?_pos, hmx, hrow, hwx, hwr, hrow3, e2]; rfl); (focus first | (simp [-getElem?_pos]; done) | (simp [-getElem?_pos]; omega))))); exact Dr.nil; rfl; (first | (focus (simp (disch := omega) [-getElem?_pos, hmx, hrow, hwx, hwr, hrow3, e2]; done)) | rfl); (simp [-getElem?_pos]; rfl))))
      unfold growsB at hp
      by_cases q1 : c < 1
      · have qa : a = -1 := by simpa [-getElem?_pos, q1] using hp
        repeat (first | apply Wp.seq | apply Wp.blk | apply Wp.ret | apply Wp.skip | apply Wp.exit | apply Wp.cT rfl | apply Wp.cF rfl | ((apply Wp.reg; (repeat (apply Ex.cons; (simp (disch := omega) [-getElem?_pos, q1, qa]; rfl))); exact Ex.nil; rfl; (simp [-getElem?_pos]; rfl))))
        simp [-getElem?_pos, a5]
      · by_cases q2 : k < 0
        · have qa : a = -1 := by simpa [-getElem?_pos, q2] using hp
          repeat (first | apply Wp.seq | apply Wp.blk | apply Wp.ret | apply Wp.skip | apply Wp.exit | apply Wp.cT rfl | apply Wp.cF rfl | ((apply Wp.reg; (repeat (apply Ex.cons; (simp (disch := omega) [-getElem?_pos, q1, q2, qa]; rfl))); exact Ex.nil; rfl; (simp [-getElem?_pos]; rfl))))
          simp [-getElem?_pos, a5]
        · by_cases q3 : r < 1
          · have qa : a = -1 := by simpa [-getElem?_pos, q3] using hp
            repeat (first | apply Wp.seq | apply Wp.blk | apply Wp.ret | apply Wp.skip | apply Wp.exit | apply Wp.cT rfl | apply Wp.cF rfl | ((apply Wp.reg; (repeat (apply Ex.cons; (simp (disch := omega) [-getElem?_pos, q1, q2, q3, qa]; rfl))); exact Ex.nil; rfl; (simp [-getElem?_pos]; rfl))))
            simp [-getElem?_pos, a5]
          · by_cases q4 : l < 2
            · have qa : a = -1 := by simpa [-getElem?_pos, q4] using hp
              repeat (first | apply Wp.seq | apply Wp.blk | apply Wp.ret | apply Wp.skip | apply Wp.exit | apply Wp.cT rfl | apply Wp.cF rfl | ((apply Wp.reg; (repeat (apply Ex.cons; (simp (disch := omega) [-getElem?_pos, q1, q2, q3, q4, qa]; rfl))); exact Ex.nil; rfl; (simp [-getElem?_pos]; rfl))))
              simp [-getElem?_pos, a5]
            · rw [if_neg (by omega)] at hp
              by_cases qa : a = -1
              · have qb : b = -1 := by simpa [-getElem?_pos, qa] using hp
                repeat (first | apply Wp.seq | apply Wp.blk | apply Wp.ret | apply Wp.skip | apply Wp.exit | apply Wp.cT rfl | apply Wp.cF rfl | ((apply Wp.reg; (repeat (apply Ex.cons; (simp (disch := omega) [-getElem?_pos, q1, q2, q3, q4, qa, qb]; rfl))); exact Ex.nil; rfl; (simp [-getElem?_pos]; rfl))))
                simp [-getElem?_pos, a5]
              · rw [if_neg qa] at hp
                have hp' : 0 < a ∧ (a < b ∨ b = -1) := by simpa [-getElem?_pos] using hp
                obtain ⟨qp, qb⟩ := hp'
                by_cases qc : a < b
                · repeat (first | apply Wp.seq | apply Wp.blk | apply Wp.ret | apply Wp.skip | apply Wp.exit | apply Wp.cT rfl | apply Wp.cF rfl | ((apply Wp.reg; (repeat (apply Ex.cons; (simp (disch := omega) [-getElem?_pos, q1, q2, q3, q4, qa, qp, qc]; rfl))); exact Ex.nil; rfl; (simp [-getElem?_pos]; rfl))))
                  simp [-getElem?_pos, a5]
                · have qb : b = -1 := by omega
                  repeat (first | apply Wp.seq | apply Wp.blk | apply Wp.ret | apply Wp.skip | apply Wp.exit | apply Wp.cT rfl | apply Wp.cF rfl | ((apply Wp.reg; (repeat (apply Ex.cons; (simp (disch := omega) [-getElem?_pos, q1, q2, q3, q4, qa, qp, qc, qb]; rfl))); exact Ex.nil; rfl; (simp [-getElem?_pos]; rfl))))
                  simp [-getElem?_pos, a5]
  · by_cases hmx : r = 9223372036854775807
    · subst hmx
      repeat (first | apply Wp.seq | apply Wp.blk | apply Wp.ret | apply Wp.skip | apply Wp.exit | apply Wp.cT rfl | apply Wp.cF rfl | ((apply Wp.reg; (repeat (apply Ex.cons; (simp (disch := omega) [-getElem?_pos, e0, e1, hw1, hw2, hi, repl]; rfl))); exact Ex.nil; rfl; (simp [-getElem?_pos]; rfl))))
      simp [-getElem?_pos, a5]
    · have hwx : wrapF .i64 (r + 1) = r + 1 := wrapI' ⟨by omega, by omega⟩
      obtain ⟨H3, hwr, hrw3⟩ := hrw.write (off := 2) (vals := [vi (r + 1)]) (by simp [-getElem?_pos]) (by simp [-getElem?_pos]) rfl
      have hrow3 : H3.rowAt H1.next 0 = some [vi c, vi k, vi (r + 1), vi l] := hrw3.at
      have hn3 := hrw3.next
      obtain ⟨H4, e2, hn4⟩ := boundAll E n hn (c := c) (k := k) (r := (r + 1)) (l := l) (by simp only [I64] at *; omega) (by simp only [I64] at *; omega) (by simp only [I64] at *; omega) (by simp only [I64] at *; omega) H3
      have hp := hgp c k (r + 1) l (by omega)
      generalize boundI c k (r + 1) l = b at *
      repeat (first | apply Wp.seq | apply Wp.blk | apply Wp.ret | apply Wp.skip | apply Wp.exit | apply Wp.cT rfl | apply Wp.cF rfl | ((apply Wp.reg; (repeat (apply Ex.cons; (simp (disch := omega) [-getElem?_pos, e0, e1, hw1, hw2, hi, hmx, repl]; rfl))); exact Ex.nil; rfl; (simp [-getElem?_pos]; rfl))))
      rw [show H1.push (.row [some (0, [.raw (.int .i64 c), .raw (.int .i64 k), .raw (.int .i64 r), .raw (.int .i64 l)])]) = H2 from hH2.symm]
      repeat (first | apply Wp.seq | apply Wp.blk | apply Wp.ret | apply Wp.skip | apply Wp.exit | apply Wp.cT rfl | apply Wp.cF rfl | ((apply Wp.reg; (repeat (apply Ex.cons; (simp (disch := omega) [-getElem?_pos, hmx, hrow, hwx, hwr, hrow3, e2]; rfl))); exact Ex.nil; rfl; (simp [-getElem?_pos]; rfl))) | ((apply Wp.draw; (repeat (first | ((first | apply Dr.q rfl rfl | apply Dr.r rfl rfl); (simp (disch := omega) [-getElem?_pos, hmx, hrow, hwx, hwr, hrow3, e2]; rfl); (simp [-getElem?_pos]; rfl)) | (apply Dr.imm rfl; (simp (disch := omega) [-getElem?_pos, hmx, hrow, hwx, hwr, hrow3, e2]; rfl); (focus first | (simp [-getElem?_pos]; done) | (simp [-getElem?_pos]; omega))))); exact Dr.nil; rfl; (first | (focus (simp (disch := omega) [-getElem?_pos, hmx, hrow, hwx, hwr, hrow3, e2]; done)) | rfl); (simp [-getElem?_pos]; rfl))))
      unfold growsB at hp
      by_cases q1 : c < 1
      · have qa : a = -1 := by simpa [-getElem?_pos, q1] using hp
        repeat (first | apply Wp.seq | apply Wp.blk | apply Wp.ret | apply Wp.skip | apply Wp.exit | apply Wp.cT rfl | apply Wp.cF rfl | ((apply Wp.reg; (repeat (apply Ex.cons; (simp (disch := omega) [-getElem?_pos, q1, qa]; rfl))); exact Ex.nil; rfl; (simp [-getElem?_pos]; rfl))))
        simp [-getElem?_pos, a5]
      · by_cases q2 : k < 0
        · have qa : a = -1 := by simpa [-getElem?_pos, q2] using hp
          repeat (first | apply Wp.seq | apply Wp.blk | apply Wp.ret | apply Wp.skip | apply Wp.exit | apply Wp.cT rfl | apply Wp.cF rfl | ((apply Wp.reg; (repeat (apply Ex.cons; (simp (disch := omega) [-getElem?_pos, q1, q2, qa]; rfl))); exact Ex.nil; rfl; (simp [-getElem?_pos]; rfl))))
          simp [-getElem?_pos, a5]
        · by_cases q3 : r < 1
          · have qa : a = -1 := by simpa [-getElem?_pos, q3] using hp
            repeat (first | apply Wp.seq | apply Wp.blk | apply Wp.ret | apply Wp.skip | apply Wp.exit | apply Wp.cT rfl | apply Wp.cF rfl | ((apply Wp.reg; (repeat (apply Ex.cons; (simp (disch := omega) [-getElem?_pos, q1, q2, q3, qa]; rfl))); exact Ex.nil; rfl; (simp [-getElem?_pos]; rfl))))
            simp [-getElem?_pos, a5]
          · by_cases q4 : l < 2
            · have qa : a = -1 := by simpa [-getElem?_pos, q4] using hp
              repeat (first | apply Wp.seq | apply Wp.blk | apply Wp.ret | apply Wp.skip | apply Wp.exit | apply Wp.cT rfl | apply Wp.cF rfl | ((apply Wp.reg; (repeat (apply Ex.cons; (simp (disch := omega) [-getElem?_pos, q1, q2, q3, q4, qa]; rfl))); exact Ex.nil; rfl; (simp [-getElem?_pos]; rfl))))
              simp [-getElem?_pos, a5]
            · rw [if_neg (by omega)] at hp
              by_cases qa : a = -1
              · have qb : b = -1 := by simpa [-getElem?_pos, qa] using hp
                repeat (first | apply Wp.seq | apply Wp.blk | apply Wp.ret | apply Wp.skip | apply Wp.exit | apply Wp.cT rfl | apply Wp.cF rfl | ((apply Wp.reg; (repeat (apply Ex.cons; (simp (disch := omega) [-getElem?_pos, q1, q2, q3, q4, qa, qb]; rfl))); exact Ex.nil; rfl; (simp [-getElem?_pos]; rfl))))
                simp [-getElem?_pos, a5]
              · rw [if_neg qa] at hp
                have hp' : 0 < a ∧ (a < b ∨ b = -1) := by simpa [-getElem?_pos] using hp
                obtain ⟨qp, qb⟩ := hp'
                by_cases qc : a < b
                · repeat (first | apply Wp.seq | apply Wp.blk | apply Wp.ret | apply Wp.skip | apply Wp.exit | apply Wp.cT rfl | apply Wp.cF rfl | ((apply Wp.reg; (repeat (apply Ex.cons; (simp (disch := omega) [-getElem?_pos, q1, q2, q3, q4, qa, qp, qc]; rfl))); exact Ex.nil; rfl; (simp [-getElem?_pos]; rfl))))
                  simp [-getElem?_pos, a5]
                · have qb : b = -1 := by omega
                  repeat (first | apply Wp.seq | apply Wp.blk | apply Wp.ret | apply Wp.skip | apply Wp.exit | apply Wp.cT rfl | apply Wp.cF rfl | ((apply Wp.reg; (repeat (apply Ex.cons; (simp (disch := omega) [-getElem?_pos, q1, q2, q3, q4, qa, qp, qc, qb]; rfl))); exact Ex.nil; rfl; (simp [-getElem?_pos]; rfl))))
                  simp [-getElem?_pos, a5]
  · by_cases hmx : l = 9223372036854775807
    · subst hmx
      repeat (first | apply Wp.seq | apply Wp.blk | apply Wp.ret | apply Wp.skip | apply Wp.exit | apply Wp.cT rfl | apply Wp.cF rfl | ((apply Wp.reg; (repeat (apply Ex.cons; (simp (disch := omega) [-getElem?_pos, e0, e1, hw1, hw2, hi, repl]; rfl))); exact Ex.nil; rfl; (simp [-getElem?_pos]; rfl))))
      simp [-getElem?_pos, a5]
    · have hwx : wrapF .i64 (l + 1) = l + 1 := wrapI' ⟨by omega, by omega⟩
      obtain ⟨H3, hwr, hrw3⟩ := hrw.write (off := 3) (vals := [vi (l + 1)]) (by simp [-getElem?_pos]) (by simp [-getElem?_pos]) rfl
      have hrow3 : H3.rowAt H1.next 0 = some [vi c, vi k, vi r, vi (l + 1)] := hrw3.at
      have hn3 := hrw3.next
      obtain ⟨H4, e2, hn4⟩ := boundAll E n hn (c := c) (k := k) (r := r) (l := (l + 1)) (by simp only [I64] at *; omega) (by simp only [I64] at *; omega) (by simp only [I64] at *; omega) (by simp only [I64] at *; omega) H3
      have hp := hgp c k r (l + 1) (by omega)
      generalize boundI c k r (l + 1) = b at *
      repeat (first | apply Wp.seq | apply Wp.blk | apply Wp.ret | apply Wp.skip | apply Wp.exit | apply Wp.cT rfl | apply Wp.cF rfl | ((apply Wp.reg; (repeat (apply Ex.cons; (simp (disch := omega) [-getElem?_pos, e0, e1, hw1, hw2, hi, hmx, repl]; rfl))); exact Ex.nil; rfl; (simp [-getElem?_pos]; rfl))))
      rw [show H1.push (.row [some (0, [.raw (.int .i64 c), .raw (.int .i64 k), .raw (.int .i64 r), .raw (.int .i64 l)])]) = H2 from hH2.symm]
      repeat (first | apply Wp.seq | apply Wp.blk | apply Wp.ret | apply Wp.skip | apply Wp.exit | apply Wp.cT rfl | apply Wp.cF rfl | ((apply Wp.reg; (repeat (apply Ex.cons; (simp (disch := omega) [-getElem?_pos, hmx, hrow, hwx, hwr, hrow3, e2]; rfl))); exact Ex.nil; rfl; (simp [-getElem?_pos]; rfl))) | ((apply Wp.draw; (repeat (first | ((first | apply Dr.q rfl rfl | apply Dr.r rfl rfl); (simp (disch := omega) [-getElem?_pos, hmx, hrow, hwx, hwr, hrow3, e2]; rfl); (simp [-getElem?_pos]; rfl)) | (apply Dr.imm rfl; (simp (disch := omega) [-getElem?_pos, hmx, hrow, hwx, hwr, hrow3, e2]; rfl); (focus first | (simp [-getElem?_pos]; done) | (simp [-getElem?_pos]; omega))))); exact Dr.nil; rfl; (first | (focus (simp (disch := omega) [-getElem?_pos, hmx, hrow, hwx, hwr, hrow3, e2]; done)) | rfl); (simp [-getElem?_pos]; rfl))))
      unfold growsB at hp
      by_cases q1 : c < 1
      · have qa : a = -1 := by simpa [-getElem?_pos, q1] using hp
        repeat (first | apply Wp.seq | apply Wp.blk | apply Wp.ret | apply Wp.skip | apply Wp.exit | apply Wp.cT rfl | apply Wp.cF rfl | ((apply Wp.reg; (repeat (apply Ex.cons; (simp (disch := omega) [-getElem?_pos, q1, qa]; rfl))); exact Ex.nil; rfl; (simp [-getElem?_pos]; rfl))))
        simp [-getElem?_pos, a5]
      · by_cases q2 : k < 0
        · have qa : a = -1 := by simpa [-getElem?_pos, q2] using hp
          repeat (first | apply Wp.seq | apply Wp.blk | apply Wp.ret | apply Wp.skip | apply Wp.exit | apply Wp.cT rfl | apply Wp.cF rfl | ((apply Wp.reg; (repeat (apply Ex.cons; (simp (disch := omega) [-getElem?_pos, q1, q2, qa]; rfl))); exact Ex.nil; rfl; (simp [-getElem?_pos]; rfl))))
          simp [-getElem?_pos, a5]
        · by_cases q3 : r < 1
          · have qa : a = -1 := by simpa [-getElem?_pos, q3] using hp
            repeat (first | apply Wp.seq | apply Wp.blk | apply Wp.ret | apply Wp.skip | apply Wp.exit | apply Wp.cT rfl | apply Wp.cF rfl | ((apply Wp.reg; (repeat (apply Ex.cons; (simp (disch := omega) [-getElem?_pos, q1, q2, q3, qa]; rfl))); exact Ex.nil; rfl; (simp [-getElem?_pos]; rfl))))
            simp [-getElem?_pos, a5]
          · by_cases q4 : l < 2
            · have qa : a = -1 := by simpa [-getElem?_pos, q4] using hp
              repeat (first | apply Wp.seq | apply Wp.blk | apply Wp.ret | apply Wp.skip | apply Wp.exit | apply Wp.cT rfl | apply Wp.cF rfl | ((apply Wp.reg; (repeat (apply Ex.cons; (simp (disch := omega) [-getElem?_pos, q1, q2, q3, q4, qa]; rfl))); exact Ex.nil; rfl; (simp [-getElem?_pos]; rfl))))
              simp [-getElem?_pos, a5]
            · rw [if_neg (by omega)] at hp
              by_cases qa : a = -1
              · have qb : b = -1 := by simpa [-getElem?_pos, qa] using hp
                repeat (first | apply Wp.seq | apply Wp.blk | apply Wp.ret | apply Wp.skip | apply Wp.exit | apply Wp.cT rfl | apply Wp.cF rfl | ((apply Wp.reg; (repeat (apply Ex.cons; (simp (disch := omega) [-getElem?_pos, q1, q2, q3, q4, qa, qb]; rfl))); exact Ex.nil; rfl; (simp [-getElem?_pos]; rfl))))
                simp [-getElem?_pos, a5]
              · rw [if_neg qa] at hp
                have hp' : 0 < a ∧ (a < b ∨ b = -1) := by simpa [-getElem?_pos] using hp
                obtain ⟨qp, qb⟩ := hp'
                by_cases qc : a < b
                · repeat (first | apply Wp.seq | apply Wp.blk | apply Wp.ret | apply Wp.skip | apply Wp.exit | apply Wp.cT rfl | apply Wp.cF rfl | ((apply Wp.reg; (repeat (apply Ex.cons; (simp (disch := omega) [-getElem?_pos, q1, q2, q3, q4, qa, qp, qc]; rfl))); exact Ex.nil; rfl; (simp [-getElem?_pos]; rfl))))
                  simp [-getElem?_pos, a5]
                · have qb : b = -1 := by omega
                  repeat (first | apply Wp.seq | apply Wp.blk | apply Wp.ret | apply Wp.skip | apply Wp.exit | apply Wp.cT rfl | apply Wp.cF rfl | ((apply Wp.reg; (repeat (apply Ex.cons; (simp (disch := omega) [-getElem?_pos, q1, q2, q3, q4, qa, qp, qc, qb]; rfl))); exact Ex.nil; rfl; (simp [-getElem?_pos]; rfl))))
                  simp [-getElem?_pos, a5]

end Go.Proofs.YtipmhhogebnpkaaGreatDoor
namespace Go.Proofs.YtipmhhogebnpkaaGreatDoor
open Go Go.Vm
set_option linter.unusedVariables false
set_option linter.unusedSimpArgs false

variable {kn : Known} {env : Nat → Option AFunc}

theorem grows_calls {c k r l m : Int} (hc : I64 c) (hk : I64 k) (hr : I64 r) (hl : I64 l) (w : World) (hgl : GlHeld w) : Calls Tryz.prog 5 #[.int .i64 c, .int .i64 k, .int .i64 r, .int .i64 l, .int .i64 m] w fun e w' => e = .returned (.bool true) ∧ GrownW w w' := by
  obtain ⟨H', h⟩ := c5 (w := m) lawE 10000001 (by omega) (fnx (by kernel_rfl) (by decide) (by decide) (by decide)) hc hk hr hl .empty
  exact calls_of_callX ext_ok root_known (envOf_ok tabIs) mixed (go_of e5) (cs := [.int .i64 c, .int .i64 k, .int .i64 r, .int .i64 l, .int .i64 m]) h w hgl

end Go.Proofs.YtipmhhogebnpkaaGreatDoor
