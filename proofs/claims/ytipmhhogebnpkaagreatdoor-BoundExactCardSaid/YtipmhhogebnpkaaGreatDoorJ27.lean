/- Walks: bound.Bound. -/
import Derived.Test.YtipmhhogebnpkaaGreatDoorJ26
namespace Go.Proofs.YtipmhhogebnpkaaGreatDoor
open Go Go.Vm
set_option linter.unusedVariables false
set_option linter.unusedSimpArgs false

variable {kn : Known} {env : Nat → Option AFunc}

variable {H : AHeap} {kx : Known}

def boundI (c k r l : Int) : Int := if c < 1 ∨ r < 1 ∨ l < 2 ∨ k < 0 then -1 else if boundT c.toNat k.toNat r.toNat l.toNat < 9223372036854775808 then boundT c.toNat k.toNat r.toNat l.toNat else -1

theorem c7a (h : FnX kx kn env 7 a7) (n : Nat) {c k r l : Int} (hb : c < 1 ∨ r < 1 ∨ l < 2 ∨ k < 0) : callX kx kn env (n + 1) (.func (.func 7) []) [vi c, vi k, vi r, vi l] H = some (vi (-1), H) := by
  refine Wp.callX1 87 [0, 1, 2, 3, 8, 9, 10, 11, 13, 27, 61, 62, 63, 64, 84] h rfl (by simp [-getElem?_pos]) ?_
  by_cases h1 : c < 1
  · repeat (first | apply Wp.seq | apply Wp.blk | apply Wp.ret | apply Wp.skip | apply Wp.exit | apply Wp.cT rfl | apply Wp.cF rfl | ((apply Wp.reg; (repeat (apply Ex.cons; (simp (disch := omega) [-getElem?_pos, h1]; rfl))); exact Ex.nil; rfl; (simp [-getElem?_pos]; rfl))))
    simp [-getElem?_pos, a7]
  · by_cases h2 : r < 1
    · repeat (first | apply Wp.seq | apply Wp.blk | apply Wp.ret | apply Wp.skip | apply Wp.exit | apply Wp.cT rfl | apply Wp.cF rfl | ((apply Wp.reg; (repeat (apply Ex.cons; (simp (disch := omega) [-getElem?_pos, h1, h2]; rfl))); exact Ex.nil; rfl; (simp [-getElem?_pos]; rfl))))
      simp [-getElem?_pos, a7]
    · by_cases h3 : l < 2
      · repeat (first | apply Wp.seq | apply Wp.blk | apply Wp.ret | apply Wp.skip | apply Wp.exit | apply Wp.cT rfl | apply Wp.cF rfl | ((apply Wp.reg; (repeat (apply Ex.cons; (simp (disch := omega) [-getElem?_pos, h1, h2, h3]; rfl))); exact Ex.nil; rfl; (simp [-getElem?_pos]; rfl))))
        simp [-getElem?_pos, a7]
      · have h4 : k < 0 := by omega
        repeat (first | apply Wp.seq | apply Wp.blk | apply Wp.ret | apply Wp.skip | apply Wp.exit | apply Wp.cT rfl | apply Wp.cF rfl | ((apply Wp.reg; (repeat (apply Ex.cons; (simp (disch := omega) [-getElem?_pos, h1, h2, h3, h4]; rfl))); exact Ex.nil; rfl; (simp [-getElem?_pos]; rfl))))
        simp [-getElem?_pos, a7]


theorem c7b (h : FnX kx kn env 7 a7) (h1 : FnX kx kn env 19 a19) (h2 : FnX kx kn env 20 a20) (h3 : FnX kx kn env 34 a34) (m : Nat) {c k r l : Nat} (hc : 1 ≤ c) (hr : 1 ≤ r) (hl : 2 ≤ l) (hc2 : c < 9223372036854775808) (hr2 : r < 9223372036854775808) (hk2 : k < 9223372036854775808) (hl2 : l < 9223372036854775808) (hm : 10 < m)
    (hadd : ∀ (m x y : Nat) (H : AHeap), x < 18446744073709551616 → y < 18446744073709551616 → callX kx kn env (m + 1) (.func (.func 35) []) [u64 x, u64 y, u64 0] H = some (.tuple [u64 ((x + y) % 18446744073709551616), u64 ((x + y) / 18446744073709551616)], H)) :
    ∃ H', callX kx kn env (m + 3) (.func (.func 7) []) [vi c, vi k, vi r, vi l] H = some (vi (if boundT c k r l < 9223372036854775808 then boundT c k r l else -1), H') ∧ H.next ≤ H'.next := by
  obtain ⟨hz1, hz2⟩ := chZ_is hc hr hc2 hr2 hk2 hl2
  have M : ∀ (H : AHeap) (x y : Nat) (ok : Bool), x < 18446744073709551616 → y < 18446744073709551616 → callX kx kn env (m + 2) (.func (.func 19) []) [u64 x, u64 y, abool ok] H = some (.tuple [u64 (mulO x y ok).1, abool (mulO x y ok).2], H) := fun H x y ok a b => c19 h1 h3 m ok a b
  have A : ∀ (H : AHeap) (x y : Nat) (ok : Bool), x < 18446744073709551616 → y < 18446744073709551616 → callX kx kn env (m + 2) (.func (.func 20) []) [u64 x, u64 y, abool ok] H = some (.tuple [u64 (addO x y ok).1, abool (addO x y ok).2], H) := fun H x y ok a b => c20 h2 (m + 1) ok a b (hadd m x y H a b)
  have lt : ∀ (x y : Nat) (ok : Bool), (mulO x y ok).1 < 18446744073709551616 ∧ (addO x y ok).1 < 18446744073709551616 := fun x y ok => ⟨Nat.mod_lt _ (by omega), Nat.mod_lt _ (by omega)⟩
  have p1 : (mulO 2 c true).1 = 2 * c := Nat.mod_eq_of_lt (by omega)
  have q1 := M H 2 c true (by omega) (by omega)
  have q2 := A H r 2 (mulO 2 c true).2 (by omega) (by omega)
  have q3 : callX kx kn env (m + 2) (.func (.func 19) []) [u64 ((mulO 2 c true).1 - 1), u64 (addO r 2 (mulO 2 c true).2).1, abool (addO r 2 (mulO 2 c true).2).2] H = some (.tuple [u64 (chG c r).1, abool (chG c r).2], H) := M H _ _ _ (by rw [p1]; omega) (lt _ _ false).2
  have q4 : callX kx kn env (m + 2) (.func (.func 19) []) [u64 2, u64 l, abool (chG c r).2] H = some (.tuple [u64 (ch0 c r l).1, abool (ch0 c r l).2], H) := M H 2 l _ (by omega) (by omega)
  have q5 : ∀ H, callX kx kn env (m + 2) (.func (.func 20) []) [u64 (ch0 c r l).1, u64 r, abool (ch0 c r l).2] H = some (.tuple [u64 (ch1 c r l).1, abool (ch1 c r l).2], H) := fun H => A H _ _ _ (lt 2 l (chG c r).2).1 (by omega)
  have q6 : ∀ H, callX kx kn env (m + 2) (.func (.func 20) []) [u64 (ch1 c r l).1, u64 k, abool (ch1 c r l).2] H = some (.tuple [u64 (ch2 c k r l).1, abool (ch2 c k r l).2], H) := fun H => A H _ _ _ (lt (ch0 c r l).1 r (ch0 c r l).2).2 (by omega)
  have q7 : ∀ H, callX kx kn env (m + 2) (.func (.func 20) []) [u64 (ch2 c k r l).1, u64 13, abool (ch2 c k r l).2] H = some (.tuple [u64 (ch3 c k r l).1, abool (ch3 c k r l).2], H) := fun H => A H _ _ _ (lt (ch1 c r l).1 k (ch1 c r l).2).2 (by omega)
  have q8 : ∀ H, callX kx kn env (m + 2) (.func (.func 20) []) [u64 (ch3 c k r l).1, u64 (chG c r).1, abool (ch3 c k r l).2] H = some (.tuple [u64 (ch4 c k r l).1, abool (ch4 c k r l).2], H) := fun H => A H _ _ _ (lt (ch2 c k r l).1 13 (ch2 c k r l).2).2 (lt _ _ (addO r 2 (mulO 2 c true).2).2).1
  have q9 : ∀ H, callX kx kn env (m + 2) (.func (.func 19) []) [u64 c, u64 (ch4 c k r l).1, abool (ch4 c k r l).2] H = some (.tuple [u64 (chZ c k r l).1, abool (chZ c k r l).2], H) := fun H => M H _ _ _ (by omega) (lt (ch3 c k r l).1 (chG c r).1 (ch3 c k r l).2).2
  have wd : wrapF .u64 (((mulO 2 c true).1 : Int) - 1) = (((mulO 2 c true).1 - 1 : Nat) : Int) := wrapD (by rw [p1]; omega) (lt _ _ _).1
  have wc := wrapC (a := (c : Int)) (by omega) (by omega)
  have wk := wrapC (a := (k : Int)) (by omega) (by omega)
  have wr := wrapC (a := (r : Int)) (by omega) (by omega)
  have wl := wrapC (a := (l : Int)) (by omega) (by omega)
  have i1 : ¬ (c : Int) < 1 := by omega
  have i2 : ¬ (r : Int) < 1 := by omega
  have i3 : ¬ (l : Int) < 2 := by omega
  have i4 : ¬ (k : Int) < 0 := by omega
  clear M A p1
  generalize (mulO 2 c true).1 = a1 at *
  generalize (mulO 2 c true).2 = b1 at *
  generalize (addO r 2 b1).1 = a2 at *
  generalize (addO r 2 b1).2 = b2 at *
  generalize chG c r = G at *
  generalize ch0 c r l = d0 at *
  generalize ch1 c r l = d1 at *
  generalize ch2 c k r l = d2 at *
  generalize ch3 c k r l = d3 at *
  generalize ch4 c k r l = d4 at *
  generalize chZ c k r l = dz at *
  obtain ⟨g1, g2⟩ := G
  obtain ⟨x0, y0⟩ := d0
  obtain ⟨x1, y1⟩ := d1
  obtain ⟨x2, y2⟩ := d2
  obtain ⟨x3, y3⟩ := d3
  obtain ⟨x4, y4⟩ := d4
  obtain ⟨xz, yz⟩ := dz
  dsimp only at q1 q2 q3 q4 q5 q6 q7 q8 q9 wd hz1 hz2
  have q1' : callX kx kn env (m + 2) (.func (.func 19) []) [.raw (.int .u64 2), u64 c, abool true] H = some (.tuple [u64 a1, abool b1], H) := q1
  have q2' : callX kx kn env (m + 2) (.func (.func 20) []) [u64 r, .raw (.int .u64 2), abool b1] H = some (.tuple [u64 a2, abool b2], H) := q2
  have q4' : callX kx kn env (m + 2) (.func (.func 19) []) [.raw (.int .u64 2), u64 l, abool g2] H = some (.tuple [u64 x0, abool y0], H) := q4
  have q7' : ∀ H, callX kx kn env (m + 2) (.func (.func 20) []) [u64 x2, .raw (.int .u64 13), abool y2] H = some (.tuple [u64 x3, abool y3], H) := q7
  obtain ⟨H1, hH1⟩ : ∃ H1, H1 = H.push (.row [some (0, [u64 r, u64 k, .raw (.int .u64 13), u64 g1])]) := ⟨_, rfl⟩
  have hrow : H1.rowAt H.next 0 = some [u64 r, u64 k, .raw (.int .u64 13), u64 g1] := by rw [hH1]; simp [-getElem?_pos]
  refine ⟨H1, ?_, by rw [hH1]; simp [-getElem?_pos]⟩
  refine Wp.callX1 87 [0, 1, 2, 3, 8, 9, 10, 11, 13, 27, 61, 62, 63, 64, 84] h rfl (by simp [-getElem?_pos]) ?_
  repeat (first | apply Wp.seq | apply Wp.blk | apply Wp.ret | apply Wp.skip | apply Wp.exit | apply Wp.cT rfl | apply Wp.cF rfl | ((apply Wp.reg; (repeat (apply Ex.cons; (simp (disch := omega) [-getElem?_pos, i1, i2, i3, i4, wc, wk, wr, wl, wd, q1', q2', q3, q4', repl]; rfl))); exact Ex.nil; rfl; (simp [-getElem?_pos]; rfl))))
  rw [← hH1]
  apply Wp.loop (α := Nat × Nat × Bool) (fun y => [(0, vi c), (9, u64 y.2.1), (10, abool y.2.2), (61, .slice H.next 0 0 4 4 true 1), (62, vi 4), (63, vi y.1)]) (fun _ => H1)
    (fun y => y = (0, x0, y0) ∨ y = (1, x1, y1) ∨ y = (2, x2, y2) ∨ y = (3, x3, y3) ∨ y = (4, x4, y4)) (fun y => 4 - y.1) (0, x0, y0) rfl (.inl rfl) (by show 4 - 0 < _; omega) (by simp [-getElem?_pos])
  rintro ⟨i, a, b⟩ hi
  rcases hi with e | e | e | e | e <;> cases e
  · repeat (first | apply Wp.seq | apply Wp.blk | apply Wp.ret | apply Wp.skip | apply Wp.exit | apply Wp.cT rfl | apply Wp.cF rfl | ((apply Wp.reg; (repeat (apply Ex.cons; (simp (disch := omega) [-getElem?_pos, hrow, q5]; rfl))); exact Ex.nil; rfl; (simp [-getElem?_pos]; rfl))))
    exact ⟨(1, x1, y1), rfl, .inr (.inl rfl), by simp [-getElem?_pos], by simp [-getElem?_pos]⟩
  · repeat (first | apply Wp.seq | apply Wp.blk | apply Wp.ret | apply Wp.skip | apply Wp.exit | apply Wp.cT rfl | apply Wp.cF rfl | ((apply Wp.reg; (repeat (apply Ex.cons; (simp (disch := omega) [-getElem?_pos, hrow, q6]; rfl))); exact Ex.nil; rfl; (simp [-getElem?_pos]; rfl))))
    exact ⟨(2, x2, y2), rfl, .inr (.inr (.inl rfl)), by simp [-getElem?_pos], by simp [-getElem?_pos]⟩
  · repeat (first | apply Wp.seq | apply Wp.blk | apply Wp.ret | apply Wp.skip | apply Wp.exit | apply Wp.cT rfl | apply Wp.cF rfl | ((apply Wp.reg; (repeat (apply Ex.cons; (simp (disch := omega) [-getElem?_pos, hrow, q7']; rfl))); exact Ex.nil; rfl; (simp [-getElem?_pos]; rfl))))
    exact ⟨(3, x3, y3), rfl, .inr (.inr (.inr (.inl rfl))), by simp [-getElem?_pos], by simp [-getElem?_pos]⟩
  · repeat (first | apply Wp.seq | apply Wp.blk | apply Wp.ret | apply Wp.skip | apply Wp.exit | apply Wp.cT rfl | apply Wp.cF rfl | ((apply Wp.reg; (repeat (apply Ex.cons; (simp (disch := omega) [-getElem?_pos, hrow, q8]; rfl))); exact Ex.nil; rfl; (simp [-getElem?_pos]; rfl))))
    exact ⟨(4, x4, y4), rfl, .inr (.inr (.inr (.inr rfl))), by simp [-getElem?_pos], by simp [-getElem?_pos]⟩
  · by_cases hT : boundT c k r l < 9223372036854775808
    · have hy : yz = true := by rw [hz1]; simpa [-getElem?_pos] using hT
      have hxz := hz2 hT
      rw [if_pos hT, ← hxz]
      subst hy
      have hwz := wrapI (a := xz) (by omega)
      repeat (first | apply Wp.seq | apply Wp.blk | apply Wp.ret | apply Wp.skip | apply Wp.exit | apply Wp.cT rfl | apply Wp.cF rfl | ((apply Wp.reg; (repeat (apply Ex.cons; (simp (disch := omega) [-getElem?_pos, hrow, q9, wc, hwz]; rfl))); exact Ex.nil; rfl; (simp [-getElem?_pos]; rfl))))
      simp [-getElem?_pos, a7]
    · have hy : yz = false := by rw [hz1]; simpa [-getElem?_pos] using hT
      rw [if_neg hT]
      subst hy
      repeat (first | apply Wp.seq | apply Wp.blk | apply Wp.ret | apply Wp.skip | apply Wp.exit | apply Wp.cT rfl | apply Wp.cF rfl | ((apply Wp.reg; (repeat (apply Ex.cons; (simp (disch := omega) [-getElem?_pos, hrow, q9, wc]; rfl))); exact Ex.nil; rfl; (simp [-getElem?_pos]; rfl))))
      simp [-getElem?_pos, a7]

end Go.Proofs.YtipmhhogebnpkaaGreatDoor
namespace Go.Proofs.YtipmhhogebnpkaaGreatDoor
open Go Go.Vm
set_option linter.unusedVariables false
set_option linter.unusedSimpArgs false

variable {kn : Known} {env : Nat → Option AFunc}

variable {H H' : AHeap} {v u : AVal} {l m : List Nat} {kx : Known}

set_option maxHeartbeats 2000000 in
theorem c23 (h : FnX kx kn env 23 a23) (h2 : FnX kx kn env 36 a36) (n : Nat) (ha : Big H v l) (hb : Big H u m) (hl0 : l ≠ []) (hdl : Dig l) (hdm : Dig m) (hl : l.length < 900000) (hm : m.length < 900000) (hn : 10000000 < n) :
    ∃ v' H' l', callX kx kn env (n + 2) (.func (.func 23) []) [v, u] H = some (v', H') ∧ Grow H H' ∧ Big H' v' l' ∧ Dig l' ∧ val l' = val l + val m ∧ max l.length m.length ≤ l'.length ∧ l'.length ≤ max l.length m.length + 3 := by
  have hlen := hb.lenS
  obtain ⟨vo, H1, hc1, hs1, hg1⟩ := big_copy ha hl0 (by omega)
  obtain ⟨v', H', hc, hg, l', hs, hd', hv', hle, hle2⟩ := Wp.callX (R := fun v' H' => Grow H H' ∧ ∃ l', Big H' v' l' ∧ Dig l' ∧ val l' = val l + val m ∧ max l.length m.length ≤ l'.length ∧ l'.length ≤ max l.length m.length + 3) 41 [0, 1, 4, 5, 6, 13, 19] h rfl (by simp [-getElem?_pos]) (n := n + 1) (args := [v, u]) (H := H) (by
    repeat (first | apply Wp.seq | apply Wp.blk | apply Wp.ret | apply Wp.skip | apply Wp.exit | apply Wp.cT rfl | apply Wp.cF rfl | ((apply Wp.reg; (repeat (apply Ex.cons; (simp (disch := omega) [-getElem?_pos, hc1, repl, aFill]; rfl))); exact Ex.nil; rfl; (simp [-getElem?_pos]; rfl))))
    apply Wp.loop (α := Nat × List Nat × AVal × AHeap) (fun y => [(0, v), (1, u), (5, y.2.2.1), (6, vi y.1)]) (·.2.2.2)
      (fun y => y.1 ≤ m.length ∧ Grow H y.2.2.2 ∧ SliceE y.2.2.2 H.next 1 y.2.2.1 (bigC y.2.1) ∧ (∀ d ∈ y.2.1, d < 131072) ∧ (∀ j d, y.1 ≤ j → y.2.1[j]? = some d → d < 65536) ∧ y.2.1.length = max l.length y.1 ∧ val y.2.1 + 65536 ^ y.1 * val (m.drop y.1) = val l + val m)
      (fun y => m.length - y.1) (0, l, vo, H1) rfl ⟨Nat.zero_le _, hg1, hs1, fun d hd => Nat.lt_trans (hdl d hd) (by omega), fun j d _ hd => hdl d (List.mem_of_getElem? hd), by simp [-getElem?_pos], by simp [-getElem?_pos]⟩ (by show m.length - 0 < _; omega) (by simp [-getElem?_pos])
    rintro ⟨i, o, vo, H2⟩ ⟨him, hg, hs, hd1, hd2, ho, hval⟩
    dsimp only at him hg hs hd1 hd2 ho hval ⊢
    have hw1 : wrapF .i64 ((i : Int) + 1) = (i : Int) + 1 := wrap_small (by omega) (by omega)
    have hlo : aLenS vo = some (vi o.length) := by have := hs.rd.lenS; rwa [bigC_len] at this
    by_cases hil : i < m.length
    · obtain ⟨y, hy⟩ : ∃ y, m[i]? = some y := ⟨_, List.getElem?_eq_getElem hil⟩
      obtain ⟨R, ver, off, kc, ex, cells, hv, hR, hrow, hb1, hcell⟩ := hb.at hy
      have hrow2 : H2.rowAt R ver = some cells := by rw [hg.rowAt hR]; exact hrow
      have hyl := hdm y (List.mem_of_getElem? hy)
      by_cases hio : i < o.length
      · obtain ⟨x, hx⟩ : ∃ x, o[i]? = some x := ⟨_, List.getElem?_eq_getElem hio⟩
        have hxl := hd2 i x (Nat.le_refl _) hx
        obtain ⟨R2, ver2, cells2, hv2, hR2, hR3, hrow3, hb2, hcell2, hst⟩ := sl_cell hg rfl hs hx
        obtain ⟨s, hs'⟩ : ∃ s, s = x + y := ⟨_, rfl⟩
        have w1 : wrapF .u64 ((x : Int) + (y : Int)) = (s : Int) := by rw [wrapS (a := x) (b := y) (by omega), hs']
        obtain ⟨H3, hwr, hs3, hg3, hn3⟩ := hst s
        have hval' := plus_step hval hx hy
        rw [← hs'] at hval'
        repeat (first | apply Wp.seq | apply Wp.blk | apply Wp.ret | apply Wp.skip | apply Wp.exit | apply Wp.cT rfl | apply Wp.cF rfl | ((apply Wp.reg; (repeat (apply Ex.cons; (simp (disch := omega) [-getElem?_pos, hlen, hil, hlo, hio, hv, hv2, hrow2, hrow3, hb1, hb2, hcell, hcell2, w1, hwr, hw1]; rfl))); exact Ex.nil; rfl; (simp [-getElem?_pos]; rfl))) | ((apply Wp.draw; (repeat (first | ((first | apply Dr.q rfl rfl | apply Dr.r rfl rfl); (simp (disch := omega) [-getElem?_pos, hlen, hil, hlo, hio, hv, hv2, hrow2, hrow3, hb1, hb2, hcell, hcell2, w1, hwr, hw1]; rfl); (simp [-getElem?_pos]; rfl)) | (apply Dr.imm rfl; (simp (disch := omega) [-getElem?_pos, hlen, hil, hlo, hio, hv, hv2, hrow2, hrow3, hb1, hb2, hcell, hcell2, w1, hwr, hw1]; rfl); (focus first | (simp [-getElem?_pos]; done) | (simp [-getElem?_pos]; omega))))); exact Dr.nil; rfl; (first | (focus (simp (disch := omega) [-getElem?_pos, hlen, hil, hlo, hio, hv, hv2, hrow2, hrow3, hb1, hb2, hcell, hcell2, w1, hwr, hw1]; done)) | rfl); (simp [-getElem?_pos]; rfl))))
        exact ⟨(i + 1, o.set i s, vo, H3), rfl, ⟨by show i + 1 ≤ _; omega, hg3, hs3, fun d hd => by
          rcases List.mem_or_eq_of_mem_set hd with h | h
          · exact hd1 d h
          · omega, fun j d hj hd => hd2 j d (by have : i + 1 ≤ j := hj; omega) (by have : i + 1 ≤ j := hj; rw [List.getElem?_set_ne (by omega)] at hd; exact hd), by show (o.set i s).length = max l.length (i + 1); rw [List.length_set]; omega, hval'⟩, by show m.length - (i + 1) < _; omega, by simp [-getElem?_pos, hv, hv2]⟩
      · have hoi : o.length = i := by omega
        obtain ⟨va, Ha, ha, hsa, hga⟩ := big_push hg rfl hs (by omega) y
        have hval' := plus_step2 hval hoi hy
        repeat (first | apply Wp.seq | apply Wp.blk | apply Wp.ret | apply Wp.skip | apply Wp.exit | apply Wp.cT rfl | apply Wp.cF rfl | ((apply Wp.reg; (repeat (apply Ex.cons; (simp (disch := omega) [-getElem?_pos, hlen, hil, hlo, hio, hv, hrow2, hb1, hcell, ha, hw1, aFill, repl]; rfl))); exact Ex.nil; rfl; (simp [-getElem?_pos]; rfl))))
        exact ⟨(i + 1, o ++ [y], va, Ha), rfl, ⟨by show i + 1 ≤ _; omega, hga, hsa, fun d hd => by
          rcases List.mem_append.1 hd with h | h
          · exact hd1 d h
          · simp [-getElem?_pos] at h; omega, fun j d hj hd => by
          have : j < (o ++ [y]).length := (List.getElem?_eq_some_iff.1 hd).1
          have h3 : i + 1 ≤ j := hj
          rw [List.length_append, hoi] at this
          simp [-getElem?_pos] at this
          omega, by show (o ++ [y]).length = max l.length (i + 1); rw [List.length_append]; simp [-getElem?_pos]; omega, hval'⟩, by show m.length - (i + 1) < _; omega, by simp [-getElem?_pos, hv]⟩
    · have him' : i = m.length := by omega
      rw [List.drop_of_length_le (by omega)] at hval
      have hval : val o = val l + val m := by simpa [-getElem?_pos, val] using hval
      obtain ⟨v1, H3, l1, hc3, hg3, hb3, hd3, hv3, hl3, hl4⟩ := c36 h2 n (big_of hs) (fun d hd => Nat.lt_trans (hd1 d hd) (by omega)) (by omega) hn
      repeat (first | apply Wp.seq | apply Wp.blk | apply Wp.ret | apply Wp.skip | apply Wp.exit | apply Wp.cT rfl | apply Wp.cF rfl | ((apply Wp.reg; (repeat (apply Ex.cons; (simp (disch := omega) [-getElem?_pos, hlen, hil, hc3]; rfl))); exact Ex.nil; rfl; (simp [-getElem?_pos]; rfl))))
      simp [-getElem?_pos, a23]
      exact ⟨hg.trans hg3, l1, hb3, hd3, by rw [hv3, hval], by omega, by omega⟩)
  exact ⟨v', H', l', hc, hg, hs, hd', hv', hle, hle2⟩

set_option maxHeartbeats 4000000 in
theorem c21 (h : FnX kx kn env 21 a21) (h1 : FnX kx kn env 23 a23) (h2 : FnX kx kn env 36 a36) (n : Nat) (ha : Big H v l) (hb : Big H u m) (hl0 : l ≠ []) (hdl : Dig l) (hdm : Dig m) (hl : l.length < 1000) (hm : m.length < 1000) (hn : 10000000 < n) :
    ∃ v' H' l', callX kx kn env (n + 3) (.func (.func 21) []) [v, u] H = some (v', H') ∧ Grow H H' ∧ Big H' v' l' ∧ Dig l' ∧ val l' = val l * val m ∧ l.length + m.length + 1 ≤ l'.length ∧ l'.length ≤ 7 * l.length + m.length + 1 := by
  have hla := ha.lenS
  have hlb := hb.lenS
  obtain ⟨N, hN⟩ : ∃ N, N = l.length + m.length + 1 := ⟨_, rfl⟩
  have hw0 : wrapF .i64 ((l.length : Int) + (m.length : Int)) = (l.length : Int) + (m.length : Int) := wrap_small (by omega) (by omega)
  have hw00 : wrapF .i64 ((l.length : Int) + (m.length : Int) + 1) = (N : Int) := by rw [wrap_small (by omega) (by omega)]; omega
  have hmk := big_make H N
  have hz1 := row_big hmk (by simp [-getElem?_pos]) (List.length_replicate (n := N) (a := 0))
  rw [← repl_zero] at hmk hz1
  obtain ⟨v', H', hc, hg, l', hs, hd', hv', hle, hle2⟩ := Wp.callX (R := fun v' H' => Grow H H' ∧ ∃ l', Big H' v' l' ∧ Dig l' ∧ val l' = val l * val m ∧ l.length + m.length + 1 ≤ l'.length ∧ l'.length ≤ 7 * l.length + m.length + 1) 50 [0, 1, 4, 5, 6, 7, 8, 19, 28] h rfl (by simp [-getElem?_pos]) (n := n + 2) (args := [v, u]) (H := H) (by
    repeat (first | apply Wp.seq | apply Wp.blk | apply Wp.ret | apply Wp.skip | apply Wp.exit | apply Wp.cT rfl | apply Wp.cF rfl | ((apply Wp.reg; (repeat (apply Ex.cons; (simp (disch := omega) [-getElem?_pos, hla, hlb, hw0, hw00]; rfl))); exact Ex.nil; rfl; (simp [-getElem?_pos]; rfl))))
    apply Wp.loop (α := Nat × List Nat × AVal × AHeap) (fun y => [(0, v), (1, u), (5, y.2.2.1), (6, vi y.1)]) (·.2.2.2)
      (fun y => y.1 ≤ l.length ∧ Grow H y.2.2.2 ∧ Big y.2.2.2 y.2.2.1 y.2.1 ∧ Dig y.2.1 ∧ N ≤ y.2.1.length ∧ y.2.1.length ≤ N + 6 * y.1 ∧ val y.2.1 + 65536 ^ y.1 * val (l.drop y.1) * val m = val l * val m)
      (fun y => l.length - y.1) (0, List.replicate N 0, .slice H.next 0 0 N N true 1, H.push (.row [some (0, repl N [u64 0])])) rfl ⟨Nat.zero_le _, Grow.push _ _, hz1, fun d hd => by rw [List.eq_of_mem_replicate hd]; omega, by simp [-getElem?_pos], by simp [-getElem?_pos], by simp [-getElem?_pos, val_zeros]⟩ (by show l.length - 0 < _; omega) (by simp [-getElem?_pos])
    rintro ⟨i, o, vo, H2⟩ ⟨hil, hg, hbo, hdo, hol, hou, hval⟩
    dsimp only at hil hg hbo hdo hol hou hval ⊢
    have hw1 : wrapF .i64 ((i : Int) + 1) = (i : Int) + 1 := wrap_small (by omega) (by omega)
    have hlo := hbo.lenS
    by_cases hi : i < l.length
    · obtain ⟨x, hx⟩ : ∃ x, l[i]? = some x := ⟨_, List.getElem?_eq_getElem hi⟩
      have hxl := hdl x (List.mem_of_getElem? hx)
      obtain ⟨R, ver, off, kc, ex, cells, hv, hR, hrow, hb1, hcell⟩ := ha.at hx
      have hmk2 := big_make H2 o.length
      rw [← repl_zero] at hmk2
      obtain ⟨H3, hH3⟩ : ∃ H3, H3 = H2.push (.row [some (0, repl o.length [u64 0])]) := ⟨_, rfl⟩
      rw [repl_zero] at hmk2
      rw [← repl_zero, ← hH3] at hmk2
      have hg3 : Grow H2 H3 := by rw [hH3]; exact Grow.push _ _
      have hn3 : H3.next = H2.next + 1 := by rw [hH3]; simp [-getElem?_pos]
      have hlz : (o.length : Int) * 8 ≤ 281474976710656 := by omega
      repeat (first | apply Wp.seq | apply Wp.blk | apply Wp.ret | apply Wp.skip | apply Wp.exit | apply Wp.cT rfl | apply Wp.cF rfl | ((apply Wp.reg; (repeat (apply Ex.cons; (simp (disch := omega) [-getElem?_pos, hlo, hla, hi, hlz]; rfl))); exact Ex.nil; rfl; (simp [-getElem?_pos]; rfl))))
      rw [show H2.push (.row [some (0, repl o.length [.raw (.int .u64 0)])]) = H3 from hH3.symm]
      apply Wp.loop (α := Nat × List Nat × AHeap) (fun y => [(0, v), (1, u), (5, vo), (6, vi i), (7, .slice H2.next 0 0 o.length o.length true 1), (8, vi y.1)]) (·.2.2)
        (fun y => y.1 ≤ m.length ∧ y.2.1.length = o.length ∧ RowW H3 H2.next 0 1 (y.2.1.map u64) y.2.2 ∧ (∀ d ∈ y.2.1, d < 8589934592) ∧ (∀ j, i + y.1 ≤ j → j < o.length → y.2.1[j]? = some 0) ∧ val y.2.1 + 65536 ^ (i + y.1) * (x * val (m.drop y.1)) = 65536 ^ i * (x * val m))
        (fun y => m.length - y.1) (0, List.replicate o.length 0, H3) rfl ⟨Nat.zero_le _, List.length_replicate, by rw [← repl_zero]; exact hmk2, fun d hd => by rw [List.eq_of_mem_replicate hd]; omega, fun j _ hj => by rw [List.getElem?_replicate, if_pos hj], by simp [-getElem?_pos, val_zeros]⟩ (by show m.length - 0 < _; omega) (by simp [-getElem?_pos])
      rintro ⟨k, r, H4⟩ ⟨hkm, hrl, hrw, hrd, hr0, hrv⟩
      dsimp only at hkm hrl hrw hrd hr0 hrv ⊢
      have hwk : wrapF .i64 ((k : Int) + 1) = (k : Int) + 1 := wrap_small (by omega) (by omega)
      have hg4 : Grow H2 H4 := ⟨by rw [hrw.next, hn3]; omega, fun A hA => by rw [hrw.other A (by omega), hg3.get A hA]⟩
      have hn4 : H4.next = H2.next + 1 := by rw [hrw.next, hn3]
      have hrow2 : H4.rowAt R ver = some cells := by rw [(hg.trans hg4).rowAt hR]; exact hrow
      by_cases hkl : k < m.length
      · obtain ⟨y, hy⟩ : ∃ y, m[k]? = some y := ⟨_, List.getElem?_eq_getElem hkl⟩
        have hyl := hdm y (List.mem_of_getElem? hy)
        obtain ⟨Rb, verb, offb, kcb, exb, cellsb, hvb, hRb, hrowb, hbb, hcellb⟩ := hb.at hy
        have hrowb2 : H4.rowAt Rb verb = some cellsb := by rw [(hg.trans hg4).rowAt hRb]; exact hrowb
        have hr0' := hr0 (i + k) (Nat.le_refl _) (by omega)
        have hrv' := row_step hrv hr0' hy
        have hml := mul32 (a := x) (b := y) (by omega) (by omega)
        have hml2 : x * y ≤ 65535 * 65535 := Nat.mul_le_mul (by omega) (by omega)
        obtain ⟨p, hp⟩ : ∃ p, p = x * y := ⟨_, rfl⟩
        obtain ⟨j, hj⟩ : ∃ j, j = i + k := ⟨_, rfl⟩
        have hwm : wrapF .u64 ((x : Int) * (y : Int)) = (p : Int) := by rw [wrapM32 (a := x) (b := y) (by omega) (by omega), hp]
        have hwj : wrapF .i64 ((i : Int) + (k : Int)) = (j : Int) := by rw [wrap_small (by omega) (by omega)]; omega
        obtain ⟨H5, hwr, hrw5, hn5⟩ := row_cell hrw (i := j) (by omega) p
        rw [← hp, ← hj] at hrv'
        have hjl : j < o.length := by omega
        repeat (first | apply Wp.seq | apply Wp.blk | apply Wp.ret | apply Wp.skip | apply Wp.exit | apply Wp.cT rfl | apply Wp.cF rfl | ((apply Wp.reg; (repeat (apply Ex.cons; (simp (disch := omega) [-getElem?_pos, hlb, hkl, hwk, hv, hvb, hrow2, hrowb2, hb1, hbb, hcell, hcellb, hwm, hwj, hwr, hjl]; rfl))); exact Ex.nil; rfl; (simp [-getElem?_pos]; rfl))) | ((apply Wp.draw; (repeat (first | ((first | apply Dr.q rfl rfl | apply Dr.r rfl rfl); (simp (disch := omega) [-getElem?_pos, hlb, hkl, hwk, hv, hvb, hrow2, hrowb2, hb1, hbb, hcell, hcellb, hwm, hwj, hwr, hjl]; rfl); (simp [-getElem?_pos]; rfl)) | (apply Dr.imm rfl; (simp (disch := omega) [-getElem?_pos, hlb, hkl, hwk, hv, hvb, hrow2, hrowb2, hb1, hbb, hcell, hcellb, hwm, hwj, hwr, hjl]; rfl); (focus first | (simp [-getElem?_pos]; done) | (simp [-getElem?_pos]; omega))))); exact Dr.nil; rfl; (first | (focus (simp (disch := omega) [-getElem?_pos, hlb, hkl, hwk, hv, hvb, hrow2, hrowb2, hb1, hbb, hcell, hcellb, hwm, hwj, hwr, hjl]; done)) | rfl); (simp [-getElem?_pos]; rfl))))
        exact ⟨(k + 1, r.set j p, H5), rfl, ⟨by show k + 1 ≤ _; omega, by show (r.set j p).length = _; rw [List.length_set]; exact hrl, hrw5, fun d hd => by
          rcases List.mem_or_eq_of_mem_set hd with h | h
          · exact hrd d h
          · omega, fun q hq hql => by
          have : i + (k + 1) ≤ q := hq
          show (r.set j p)[q]? = some 0
          rw [List.getElem?_set_ne (by omega)]; exact hr0 q (by omega) hql, hrv'⟩, by show m.length - (k + 1) < _; omega, by simp [-getElem?_pos, hv, hvb]⟩
      · have hkm' : k = m.length := by omega
        rw [List.drop_of_length_le (by omega)] at hrv
        have hrv : val r = 65536 ^ i * (x * val m) := by simpa [-getElem?_pos, val] using hrv
        have hbr := row_big hrw (by omega) hrl
        obtain ⟨v1, H5, l1, hc5, hg5, hb5, hd5, hv5, hl5, hl6⟩ := c36 h2 (n + 1) hbr hrd (by omega) (by omega)
        have hbo5 := (hbo.grow hg4).grow hg5
        obtain ⟨v2, H6, l2, hc6, hg6, hb6, hd6, hv6, hl7, hl8⟩ := c23 h1 h2 n hbo5 hb5 (fun e => by rw [e] at hol; simp [-getElem?_pos] at hol; omega) hdo hd5 (by omega) (by omega) hn
        have hval' := times_step hval hx (w := val l2) (by rw [hv6, hv5, hrv])
        repeat (first | apply Wp.seq | apply Wp.blk | apply Wp.ret | apply Wp.skip | apply Wp.exit | apply Wp.cT rfl | apply Wp.cF rfl | ((apply Wp.reg; (repeat (apply Ex.cons; (simp (disch := omega) [-getElem?_pos, hlb, hkl, hc5, hc6, hw1]; rfl))); exact Ex.nil; rfl; (simp [-getElem?_pos]; rfl))))
        exact ⟨(i + 1, l2, v2, H6), rfl, ⟨by show i + 1 ≤ _; omega, ((hg.trans hg4).trans hg5).trans hg6, hb6, hd6, by show N ≤ l2.length; omega, by show l2.length ≤ N + 6 * (i + 1); omega, hval'⟩, by show l.length - (i + 1) < _; omega, by simp [-getElem?_pos]⟩
    · have hil' : i = l.length := by omega
      rw [List.drop_of_length_le (by omega)] at hval
      have hval : val o = val l * val m := by simpa [-getElem?_pos, val] using hval
      repeat (first | apply Wp.seq | apply Wp.blk | apply Wp.ret | apply Wp.skip | apply Wp.exit | apply Wp.cT rfl | apply Wp.cF rfl | ((apply Wp.reg; (repeat (apply Ex.cons; (simp (disch := omega) [-getElem?_pos, hla, hi]; rfl))); exact Ex.nil; rfl; (simp [-getElem?_pos]; rfl))))
      simp [-getElem?_pos, a21]
      exact ⟨hg, o, hbo, hdo, hval, by omega, by omega⟩)
  exact ⟨v', H', l', hc, hg, hs, hd', hv', hle, hle2⟩

end Go.Proofs.YtipmhhogebnpkaaGreatDoor
namespace Go.Proofs.YtipmhhogebnpkaaGreatDoor
open Go Go.Vm
set_option linter.unusedVariables false
set_option linter.unusedSimpArgs false

variable {kn : Known} {env : Nat → Option AFunc}

variable {H H' : AHeap} {v u : AVal} {l m : List Nat} {kx : Known}

set_option maxHeartbeats 2000000 in
theorem c24 (h : FnX kx kn env 24 a24) (n : Nat) (ha : Big H v l) (hdl : Dig l) (h0 : 0 < val l) (hl : l.length < 900000) (hn : 10000000 < n) :
    ∃ v' H' l', callX kx kn env (n + 1) (.func (.func 24) []) [v] H = some (v', H') ∧ Grow H H' ∧ Big H' v' l' ∧ Dig l' ∧ val l' = val l - 1 ∧ l'.length = l.length := by
  obtain ⟨vo, H1, hc1, hs1, hg1⟩ := big_copy ha (fun e => by rw [e] at h0; exact absurd h0 (by simp [-getElem?_pos, val])) (by omega)
  obtain ⟨v', H', hc, hg, l', hs, hd', hv', hle⟩ := Wp.callX (R := fun v' H' => Grow H H' ∧ ∃ l', Big H' v' l' ∧ Dig l' ∧ val l' = val l - 1 ∧ l'.length = l.length) 30 [0, 2, 3, 4, 11, 18] h rfl (by simp [-getElem?_pos]) (n := n) (args := [v]) (H := H) (by
    repeat (first | apply Wp.seq | apply Wp.blk | apply Wp.ret | apply Wp.skip | apply Wp.exit | apply Wp.cT rfl | apply Wp.cF rfl | ((apply Wp.reg; (repeat (apply Ex.cons; (simp (disch := omega) [-getElem?_pos, hc1, repl, aFill]; rfl))); exact Ex.nil; rfl; (simp [-getElem?_pos]; rfl))))
    apply Wp.loop (α := Nat × List Nat × AHeap) (fun y => [(3, vo), (4, vi y.1)]) (·.2.2)
      (fun y => y.1 ≤ l.length ∧ Grow H y.2.2 ∧ SliceE y.2.2 H.next 1 vo (bigC y.2.1) ∧ Dig y.2.1 ∧ y.2.1.length = l.length ∧ val y.2.1 + 1 = val l + 65536 ^ y.1)
      (fun y => l.length - y.1) (0, l, H1) rfl ⟨Nat.zero_le _, hg1, hs1, hdl, rfl, by simp [-getElem?_pos]⟩ (by show l.length - 0 < _; omega) (by simp [-getElem?_pos])
    rintro ⟨i, o, H2⟩ ⟨him, hg, hs, hd, ho, hval⟩
    dsimp only at him hg hs hd ho hval ⊢
    have hw1 : wrapF .i64 ((i : Int) + 1) = (i : Int) + 1 := wrap_small (by omega) (by omega)
    have hlo : aLenS vo = some (vi o.length) := by have := hs.rd.lenS; rwa [bigC_len] at this
    by_cases hi : i < o.length
    · obtain ⟨x, hx⟩ : ∃ x, o[i]? = some x := ⟨_, List.getElem?_eq_getElem hi⟩
      have hxl := hd x (List.mem_of_getElem? hx)
      obtain ⟨R, ver, cells, hv2, hR2, hR3, hrow, hb, hcell, hst⟩ := sl_cell hg rfl hs hx
      by_cases hx0 : 0 < x
      · have hxi : (0 : Int) < (x : Int) := by omega
        have w1 := wrapD (a := x) hx0 (by omega)
        obtain ⟨p, hp⟩ : ∃ p, p = x - 1 := ⟨_, rfl⟩
        rw [← hp] at w1
        obtain ⟨H3, hwr, hs3, hg3, hn3⟩ := hst p
        have hval' := minus_end hval hx hx0
        rw [← hp] at hval'
        repeat (first | apply Wp.seq | apply Wp.blk | apply Wp.ret | apply Wp.skip | apply Wp.exit | apply Wp.cT rfl | apply Wp.cF rfl | ((apply Wp.reg; (repeat (apply Ex.cons; (simp (disch := omega) [-getElem?_pos, hlo, hi, hv2, hrow, hb, hcell, hxi, hx0, w1, hwr]; rfl))); exact Ex.nil; rfl; (simp [-getElem?_pos]; rfl))))
        simp [-getElem?_pos, a24]
        rw [hv2] at hs3
        exact ⟨hg3, o.set i p, big_of hs3, fun d h => by
          rcases List.mem_or_eq_of_mem_set h with h | h
          · exact hd d h
          · omega, by omega, by rw [List.length_set, ho]⟩
      · have hx00 : x = 0 := by omega
        subst hx00
        obtain ⟨H3, hwr, hs3, hg3, hn3⟩ := hst 65535
        have hval' := minus_step hval hx
        have hwr' : H2.write R ver i [.raw (.int .u64 65535)] = some H3 := hwr
        have hcell' : cells[i]? = some (.raw (.int .u64 0)) := hcell
        repeat (first | apply Wp.seq | apply Wp.blk | apply Wp.ret | apply Wp.skip | apply Wp.exit | apply Wp.cT rfl | apply Wp.cF rfl | ((apply Wp.reg; (repeat (apply Ex.cons; (simp (disch := omega) [-getElem?_pos, hlo, hi, hv2, hrow, hb, hcell', hwr', hw1]; rfl))); exact Ex.nil; rfl; (simp [-getElem?_pos]; rfl))))
        exact ⟨(i + 1, o.set i 65535, H3), rfl, ⟨by show i + 1 ≤ _; omega, hg3, hs3, fun d h => by
          rcases List.mem_or_eq_of_mem_set h with h | h
          · exact hd d h
          · omega, by show (o.set i 65535).length = _; rw [List.length_set, ho], hval'⟩, by show l.length - (i + 1) < _; omega, by simp [-getElem?_pos, hv2]⟩
    · have hi' : i = o.length := by omega
      rw [hi'] at hval
      have := minus_over hval hd
      omega)
  exact ⟨v', H', l', hc, hg, hs, hd', hv', hle⟩

set_option maxHeartbeats 2000000 in
theorem c25 (h : FnX kx kn env 25 a25) (n : Nat) (ha : Big H v l) (hdl : Dig l) (h0 : l ≠ []) (hl : l.length < 900000) (hn : 10000000 < n) :
    callX kx kn env (n + 1) (.func (.func 25) []) [v] H = some (vi (if val l < 9223372036854775808 then val l else -1), H) := by
  have hlen := ha.lenS
  have hlp : 0 < l.length := List.length_pos_iff.2 h0
  have hw0 : wrapF .i64 ((l.length : Int) - 1) = (l.length : Int) - 1 := wrap_small (by omega) (by omega)
  refine Wp.callX1 25 [0, 2, 3, 4, 9, 13, 22] h rfl (by simp [-getElem?_pos]) (n := n) ?_
  repeat (first | apply Wp.seq | apply Wp.blk | apply Wp.ret | apply Wp.skip | apply Wp.exit | apply Wp.cT rfl | apply Wp.cF rfl | ((apply Wp.reg; (repeat (apply Ex.cons; (simp (disch := omega) [-getElem?_pos, hlen, hw0]; rfl))); exact Ex.nil; rfl; (simp [-getElem?_pos]; rfl))))
  apply Wp.loop (α := Nat × Nat) (fun y => [(0, v), (3, u64 y.2), (4, vi ((y.1 : Int) - 1))]) (fun _ => H)
    (fun y => y.1 ≤ l.length ∧ y.2 < 9223372036854775808 ∧ y.2 * 65536 ^ y.1 + val (l.take y.1) = val l)
    (fun y => y.1) (l.length, 0) rfl ⟨Nat.le_refl _, by omega, by simp [-getElem?_pos]⟩ (by show l.length < _; omega) (by simp [-getElem?_pos])
  rintro ⟨i, x⟩ ⟨hil, hx, hval⟩
  dsimp only at hil hx hval ⊢
  cases i with
  | zero =>
    have hval : val l = x := by simpa [-getElem?_pos, val] using hval.symm
    rw [hval, if_pos hx]
    have hi : ¬ (0 : Int) ≤ ((0 : Nat) : Int) - 1 := by omega
    have hxi : ¬ (9223372036854775807 : Int) < (x : Int) := by omega
    have hwx := wrapI hx
    repeat (first | apply Wp.seq | apply Wp.blk | apply Wp.ret | apply Wp.skip | apply Wp.exit | apply Wp.cT rfl | apply Wp.cF rfl | ((apply Wp.reg; (repeat (apply Ex.cons; (simp (disch := omega) [-getElem?_pos, hi, hxi, hwx]; rfl))); exact Ex.nil; rfl; (simp [-getElem?_pos]; rfl))))
    simp [-getElem?_pos, a25]
  | succ i =>
    obtain ⟨d, hd⟩ : ∃ d, l[i]? = some d := ⟨_, List.getElem?_eq_getElem (by omega)⟩
    have hdd := hdl d (List.mem_of_getElem? hd)
    obtain ⟨R, ver, off, kc, ex, cells, hv, hR, hrow, hb1, hcell⟩ := ha.at hd
    have e1 : ((i + 1 : Nat) : Int) - 1 = (i : Int) := by omega
    have hwi : wrapF .i64 ((i : Int) - 1) = (i : Int) - 1 := Go.Vm.wrapI' ⟨by omega, by omega⟩
    rw [e1]
    have hi : (0 : Int) ≤ (i : Int) := by omega
    by_cases hx2 : 140737488355327 < x
    · have := small_over hval hx2
      rw [if_neg (by omega)]
      have hxi : (140737488355327 : Int) < (x : Int) := by omega
      repeat (first | apply Wp.seq | apply Wp.blk | apply Wp.ret | apply Wp.skip | apply Wp.exit | apply Wp.cT rfl | apply Wp.cF rfl | ((apply Wp.reg; (repeat (apply Ex.cons; (simp (disch := omega) [-getElem?_pos, hi, hxi, hx2]; rfl))); exact Ex.nil; rfl; (simp [-getElem?_pos]; rfl))))
      simp [-getElem?_pos, a25]
    · have hxi : ¬ (140737488355327 : Int) < (x : Int) := by omega
      have hval' := small_step hval hd
      obtain ⟨y, hy⟩ : ∃ y, y = 65536 * x := ⟨_, rfl⟩
      obtain ⟨z, hz⟩ : ∃ z, z = y + d := ⟨_, rfl⟩
      have hw1 : wrapF .u64 (65536 * (x : Int)) = (y : Int) := by rw [hy]; simp only [wrapF]; omega
      have hw2 : wrapF .u64 ((y : Int) + (d : Int)) = (z : Int) := by rw [hz]; simp only [wrapF]; omega
      rw [← hy, ← hz] at hval'
      repeat (first | apply Wp.seq | apply Wp.blk | apply Wp.ret | apply Wp.skip | apply Wp.exit | apply Wp.cT rfl | apply Wp.cF rfl | ((apply Wp.reg; (repeat (apply Ex.cons; (simp (disch := omega) [-getElem?_pos, hi, hxi, hx2, hv, hrow, hb1, hcell, hw1, hw2, hwi]; rfl))); exact Ex.nil; rfl; (simp [-getElem?_pos]; rfl))))
      exact ⟨(i, z), rfl, ⟨by show i ≤ _; omega, by show z < _; omega, hval'⟩, by show i < i + 1; omega, by simp [-getElem?_pos, hv]⟩

end Go.Proofs.YtipmhhogebnpkaaGreatDoor
