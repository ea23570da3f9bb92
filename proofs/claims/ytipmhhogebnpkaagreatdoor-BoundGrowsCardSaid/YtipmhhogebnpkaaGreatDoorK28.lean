/- The abstract machine, part 40: elements of slices, stored into; what stays. -/
import Derived.Test.YtipmhhogebnpkaaGreatDoorK25
import Derived.Test.YtipmhhogebnpkaaGreatDoorK27
namespace Go.Vm
open Go

set_option linter.unusedVariables false
set_option linter.unusedSimpArgs false

/-! ### Setting what is there -/

/-! ### Elements -/

theorem spl_len {α : Type} {l v : List α} {off : Nat} (h : off + v.length ≤ l.length) : (spl l off v).length = l.length := by
  simp only [spl, List.length_append, List.length_take, List.length_drop]; omega

theorem spl_mid {α : Type} {a e b v : List α} {f : Nat} (h : f + v.length ≤ e.length) : spl (a ++ (e ++ b)) (a.length + f) v = a ++ (spl e f v ++ b) := by
  simp only [spl]
  rw [List.take_append, List.take_of_length_le (by omega), Nat.add_sub_cancel_left, List.take_append_of_le_length (by omega), Nat.add_assoc, List.drop_append, List.drop_eq_nil_of_le (by omega), Nat.add_sub_cancel_left, List.nil_append, List.drop_append_of_le_length h]
  simp only [List.append_assoc]

theorem flatten_part {α : Type} {n : Nat} {es : List (List α)} (he : ∀ e ∈ es, e.length = n) {i f : Nat} {e v : List α} (hi : es[i]? = some e) (h : f + v.length ≤ n) : spl es.flatten (i * n + f) v = (es.set i (spl e f v)).flatten := by
  obtain ⟨hlt, hei⟩ := List.getElem?_eq_some_iff.1 hi
  have hd : es = es.take i ++ (e :: es.drop (i + 1)) := by rw [← hei, List.getElem_cons_drop, List.take_append_drop]
  have hl : (es.take i).flatten.length = i * n := by rw [flatten_len (n := n) fun x hx => he x (List.mem_of_mem_take hx), List.length_take, Nat.min_eq_left (by omega)]
  have hel := he e (List.mem_of_getElem? hi)
  have h1 : es.flatten = (es.take i).flatten ++ (e ++ (es.drop (i + 1)).flatten) := by
    conv => lhs; rw [hd]
    simp
  rw [h1, ← hl, spl_mid (by omega), List.set_eq_take_append_cons_drop, if_pos hlt]
  simp

theorem mem_set {α : Type} {es : List α} {i : Nat} {v e : α} (h : e ∈ es.set i v) : e ∈ es ∨ e = v := List.mem_or_eq_of_mem_set h

/-- Cells of an element, stored. -/
theorem SliceE.store {H : AHeap} {base esz : Nat} {v : AVal} {es : List (List AVal)} (h : SliceE H base esz v es) {i f : Nat} {e vals : List AVal} (hi : es[i]? = some e) (h0 : 0 < vals.length) (hf : f + vals.length ≤ esz) (hone : vals.all AVal.one = true) :
    ∃ R ver H', v = .slice R ver 0 es.length es.length false esz ∧ base ≤ R ∧ R < H.next ∧ H.write R ver (i * esz + f) vals = some H' ∧ SliceE H' base esz v (es.set i (spl e f vals)) ∧ H'.next = H.next ∧ ∀ A, A ≠ R → H'.get A = H.get A := by
  obtain ⟨hlt, hei⟩ := List.getElem?_eq_some_iff.1 hi
  rcases h with ⟨hes, ⟨rfl, rfl⟩ | ⟨R, ver, vs, h1, h2, rfl, h4, h5⟩⟩
  · simp at hi
  · have hfl := flatten_len hes
    have hm : (i + 1) * esz ≤ es.length * esz := Nat.mul_le_mul_right _ hlt
    rw [Nat.succ_mul] at hm
    obtain ⟨H', hw, hr⟩ := RowW.write (H0 := H) (nv := vs.length) ⟨⟨vs, h4, rfl, h5⟩, rfl, fun _ _ => rfl⟩ (off := i * esz + f) (vals := vals) h0 (by omega) hone
    obtain ⟨vs', q1, q2, q3⟩ := hr.row
    refine ⟨R, ver, H', rfl, h1, h2, hw, ⟨fun x hx => ?_, .inr ⟨R, ver, vs', h1, by rw [hr.next]; exact h2, by rw [List.length_set], q1, ?_⟩⟩, hr.next, hr.other⟩
    · rcases mem_set hx with h | rfl
      · exact hes x h
      · rw [spl_len (by rw [hes e (List.mem_of_getElem? hi)]; exact hf)]; exact hes e (List.mem_of_getElem? hi)
    · rw [q3, ← flatten_part hes hi hf]; rfl

/-- Cells of an element, read. -/
theorem SliceE.load {H : AHeap} {base esz : Nat} {v : AVal} {es : List (List AVal)} (h : SliceE H base esz v es) {i : Nat} {e : List AVal} (hi : es[i]? = some e) :
    ∃ R ver cells, v = .slice R ver 0 es.length es.length false esz ∧ base ≤ R ∧ R < H.next ∧ H.rowAt R ver = some cells ∧ i * esz + esz ≤ cells.length ∧ (∀ f, f < esz → cells[i * esz + f]? = e[f]?) ∧ (cells.drop (i * esz)).take esz = e := by
  obtain ⟨hlt, hei⟩ := List.getElem?_eq_some_iff.1 hi
  obtain ⟨R, ver, off, kcap, ex, cells, h1, h2, h3, h4⟩ := h.rd.at hi
  rcases h with ⟨hes, ⟨rfl, rfl⟩ | ⟨R', ver', vs, g1, g2, rfl, g4, g5⟩⟩
  · simp at hi
  · cases h1
    rw [Nat.zero_add] at h3 h4
    exact ⟨_, _, cells, rfl, g1, g2, h2, h3, fun f hf => part_at h4 hf, h4⟩

theorem RdE.beq {H : AHeap} {esz : Nat} {v : AVal} {es : List (List AVal)} (h : RdE H esz v es) : AVal.beq v v = true := by
  rcases h with ⟨_, ⟨rfl, _⟩ | ⟨R, ver, off, kc, ex, cells, rfl, _⟩⟩ <;> simp

theorem SliceE.beq {H : AHeap} {base esz : Nat} {v : AVal} {es : List (List AVal)} (h : SliceE H base esz v es) : AVal.beq v v = true := by
  rcases h with ⟨_, ⟨rfl, _⟩ | ⟨R, ver, vs, _, _, rfl, _⟩⟩ <;> simp

end Go.Vm
namespace Go.Proofs.YtipmhhogebnpkaaGreatDoor
open Go Go.Vm
set_option linter.unusedVariables false
set_option linter.unusedSimpArgs false

variable {kn : Known} {env : Nat → Option AFunc}

variable {H H' : AHeap} {v : AVal} {l : List Nat} {kx : Known}

abbrev bigC (l : List Nat) : List (List AVal) := l.map fun d => [u64 d]

theorem bigC_len (l : List Nat) : (bigC l).length = l.length := List.length_map ..
theorem bigC_at {i d : Nat} (h : l[i]? = some d) : (bigC l)[i]? = some [u64 d] := by rw [List.getElem?_map, h]; rfl
/-- A number in memory. -/
structure Big (H : AHeap) (v : AVal) (l : List Nat) : Prop where
  rd : RdE H 1 v (bigC l)
  lies : v.lies (· < H.next)

theorem Big.at (h : Big H v l) {i d : Nat} (hi : l[i]? = some d) : ∃ R ver off kc ex cells, v = .slice R ver off l.length kc ex 1 ∧ R < H.next ∧ H.rowAt R ver = some cells ∧ off + i + 1 ≤ cells.length ∧ cells[off + i]? = some (u64 d) := by
  obtain ⟨R, ver, off, kc, ex, cells, e1, e2, e3, e4⟩ := h.rd.at (bigC_at hi)
  rw [bigC_len] at e1
  rw [Nat.mul_one] at e3 e4
  refine ⟨R, ver, off, kc, ex, cells, e1, h.lies R ver off _ kc ex 1 e1, e2, e3, ?_⟩
  have := part_at (j := 0) e4 (by omega)
  exact this
end Go.Proofs.YtipmhhogebnpkaaGreatDoor
namespace Go.Proofs.YtipmhhogebnpkaaGreatDoor
open Go Go.Vm
set_option linter.unusedVariables false
set_option linter.unusedSimpArgs false

variable {kn : Known} {env : Nat → Option AFunc}

variable {H H' : AHeap} {v : AVal} {l : List Nat} {kx : Known}

theorem wrapC {a : Int} (h0 : 0 ≤ a) (h : a < 9223372036854775808) : wrapF .u64 a = a := by simp only [wrapF]; omega
theorem wrapD {a : Nat} (h0 : 1 ≤ a) (h : a < 18446744073709551616) : wrapF .u64 ((a : Int) - 1) = ((a - 1 : Nat) : Int) := by simp only [wrapF]; omega
theorem wrapI {a : Nat} (h : a < 9223372036854775808) : wrapF .i64 (a : Int) = (a : Int) := wrap_small (by omega) (by omega)
end Go.Proofs.YtipmhhogebnpkaaGreatDoor
namespace Go.Proofs.YtipmhhogebnpkaaGreatDoor
open Go Go.Vm
set_option linter.unusedVariables false
set_option linter.unusedSimpArgs false

variable {kn : Known} {env : Nat → Option AFunc}

variable {H : AHeap} {kx : Known}

def boundI (c k r l : Int) : Int := if c < 1 ∨ r < 1 ∨ l < 2 ∨ k < 0 then -1 else if boundT c.toNat k.toNat r.toNat l.toNat < 9223372036854775808 then boundT c.toNat k.toNat r.toNat l.toNat else -1

theorem c7a (h : FnX kx kn env 7 a7) (n : Nat) {c k r l : Int} (hb : c < 1 ∨ r < 1 ∨ l < 2 ∨ k < 0) : callX kx kn env (n + 1) (.func (.func 7) []) [vi c, vi k, vi r, vi l] H = some (vi (-1), H) := by
  refine Wp.callX1 87 [0, 1, 2, 3, 8, 9, 10, 11, 13, 27, 61, 62, 63, 64, 84] h rfl (by simp [-getElem?_pos]) ?_
  by_cases h1 : c < 1
  · repeat (first | apply Wp.seq | apply Wp.blk | apply Wp.ret | apply Wp.skip | apply Wp.exit | apply Wp.cT rfl | apply Wp.cF rfl | ((apply Wp.reg; (repeat (apply Ex.cons; (simp (disch := omega) [-getElem?_pos, h1]; rfl))); exact Ex.nil; rfl; (simp [-getElem?_pos]; rfl))))
    simp [-getElem?_pos, a7]
  · by_cases h2 : r < 1
    · repeat (first | apply Wp.seq | apply Wp.blk | apply Wp.ret | apply Wp.skip | apply Wp.exit | apply Wp.cT rfl | apply Wp.cF rfl | ((apply Wp.reg; (repeat (apply Ex.cons; (simp (disch := omega) [-getElem?_pos, h1, h2]; rfl))); exact Ex.nil; rfl; (simp [-getElem?_pos]; rfl))))
      simp [-getElem?_pos, a7]
    · by_cases h3 : l < 2
      · repeat (first | apply Wp.seq | apply Wp.blk | apply Wp.ret | apply Wp.skip | apply Wp.exit | apply Wp.cT rfl | apply Wp.cF rfl | ((apply Wp.reg; (repeat (apply Ex.cons; (simp (disch := omega) [-getElem?_pos, h1, h2, h3]; rfl))); exact Ex.nil; rfl; (simp [-getElem?_pos]; rfl))))
        simp [-getElem?_pos, a7]
      · have h4 : k < 0 := by omega
        repeat (first | apply Wp.seq | apply Wp.blk | apply Wp.ret | apply Wp.skip | apply Wp.exit | apply Wp.cT rfl | apply Wp.cF rfl | ((apply Wp.reg; (repeat (apply Ex.cons; (simp (disch := omega) [-getElem?_pos, h1, h2, h3, h4]; rfl))); exact Ex.nil; rfl; (simp [-getElem?_pos]; rfl))))
        simp [-getElem?_pos, a7]


theorem c7b (h : FnX kx kn env 7 a7) (h1 : FnX kx kn env 19 a19) (h2 : FnX kx kn env 20 a20) (h3 : FnX kx kn env 34 a34) (m : Nat) {c k r l : Nat} (hc : 1 ≤ c) (hr : 1 ≤ r) (hl : 2 ≤ l) (hc2 : c < 9223372036854775808) (hr2 : r < 9223372036854775808) (hk2 : k < 9223372036854775808) (hl2 : l < 9223372036854775808) (hm : 10 < m)
    (hadd : ∀ (m x y : Nat) (H : AHeap), x < 18446744073709551616 → y < 18446744073709551616 → callX kx kn env (m + 1) (.func (.func 35) []) [u64 x, u64 y, u64 0] H = some (.tuple [u64 ((x + y) % 18446744073709551616), u64 ((x + y) / 18446744073709551616)], H)) :
    ∃ H', callX kx kn env (m + 3) (.func (.func 7) []) [vi c, vi k, vi r, vi l] H = some (vi (if boundT c k r l < 9223372036854775808 then boundT c k r l else -1), H') ∧ H.next ≤ H'.next := by
  obtain ⟨hz1, hz2⟩ := chZ_is hc hr hc2 hr2 hk2 hl2
  have M : ∀ (H : AHeap) (x y : Nat) (ok : Bool), x < 18446744073709551616 → y < 18446744073709551616 → callX kx kn env (m + 2) (.func (.func 19) []) [u64 x, u64 y, abool ok] H = some (.tuple [u64 (mulO x y ok).1, abool (mulO x y ok).2], H) := fun H x y ok a b => c19 h1 h3 m ok a b
  have A : ∀ (H : AHeap) (x y : Nat) (ok : Bool), x < 18446744073709551616 → y < 18446744073709551616 → callX kx kn env (m + 2) (.func (.func 20) []) [u64 x, u64 y, abool ok] H = some (.tuple [u64 (addO x y ok).1, abool (addO x y ok).2], H) := fun H x y ok a b => c20 h2 (m + 1) ok a b (hadd m x y H a b)
  have lt : ∀ (x y : Nat) (ok : Bool), (mulO x y ok).1 < 18446744073709551616 ∧ (addO x y ok).1 < 18446744073709551616 := fun x y ok => ⟨Nat.mod_lt _ (by omega), Nat.mod_lt _ (by omega)⟩
  have p1 : (mulO 2 c true).1 = 2 * c := Nat.mod_eq_of_lt (by omega)
  have q1 := M H 2 c true (by omega) (by omega)
  have q2 := A H r 2 (mulO 2 c true).2 (by omega) (by omega)
  have q3 : callX kx kn env (m + 2) (.func (.func 19) []) [u64 ((mulO 2 c true).1 - 1), u64 (addO r 2 (mulO 2 c true).2).1, abool (addO r 2 (mulO 2 c true).2).2] H = some (.tuple [u64 (chG c r).1, abool (chG c r).2], H) := M H _ _ _ (by rw [p1]; omega) (lt _ _ false).2
  have q4 : callX kx kn env (m + 2) (.func (.func 19) []) [u64 2, u64 l, abool (chG c r).2] H = some (.tuple [u64 (ch0 c r l).1, abool (ch0 c r l).2], H) := M H 2 l _ (by omega) (by omega)
  have q5 : ∀ H, callX kx kn env (m + 2) (.func (.func 20) []) [u64 (ch0 c r l).1, u64 r, abool (ch0 c r l).2] H = some (.tuple [u64 (ch1 c r l).1, abool (ch1 c r l).2], H) := fun H => A H _ _ _ (lt 2 l (chG c r).2).1 (by omega)
  have q6 : ∀ H, callX kx kn env (m + 2) (.func (.func 20) []) [u64 (ch1 c r l).1, u64 k, abool (ch1 c r l).2] H = some (.tuple [u64 (ch2 c k r l).1, abool (ch2 c k r l).2], H) := fun H => A H _ _ _ (lt (ch0 c r l).1 r (ch0 c r l).2).2 (by omega)
  have q7 : ∀ H, callX kx kn env (m + 2) (.func (.func 20) []) [u64 (ch2 c k r l).1, u64 13, abool (ch2 c k r l).2] H = some (.tuple [u64 (ch3 c k r l).1, abool (ch3 c k r l).2], H) := fun H => A H _ _ _ (lt (ch1 c r l).1 k (ch1 c r l).2).2 (by omega)
  have q8 : ∀ H, callX kx kn env (m + 2) (.func (.func 20) []) [u64 (ch3 c k r l).1, u64 (chG c r).1, abool (ch3 c k r l).2] H = some (.tuple [u64 (ch4 c k r l).1, abool (ch4 c k r l).2], H) := fun H => A H _ _ _ (lt (ch2 c k r l).1 13 (ch2 c k r l).2).2 (lt _ _ (addO r 2 (mulO 2 c true).2).2).1
  have q9 : ∀ H, callX kx kn env (m + 2) (.func (.func 19) []) [u64 c, u64 (ch4 c k r l).1, abool (ch4 c k r l).2] H = some (.tuple [u64 (chZ c k r l).1, abool (chZ c k r l).2], H) := fun H => M H _ _ _ (by omega) (lt (ch3 c k r l).1 (chG c r).1 (ch3 c k r l).2).2
  have wd : wrapF .u64 (((mulO 2 c true).1 : Int) - 1) = (((mulO 2 c true).1 - 1 : Nat) : Int) := wrapD (by rw [p1]; omega) (lt _ _ _).1
  have wc := wrapC (a := (c : Int)) (by omega) (by omega)
  have wk := wrapC (a := (k : Int)) (by omega) (by omega)
  have wr := wrapC (a := (r : Int)) (by omega) (by omega)
  have wl := wrapC (a := (l : Int)) (by omega) (by omega)
  have i1 : ¬ (c : Int) < 1 := by omega
  have i2 : ¬ (r : Int) < 1 := by omega
  have i3 : ¬ (l : Int) < 2 := by omega
  have i4 : ¬ (k : Int) < 0 := by omega
  clear M A p1
  generalize (mulO 2 c true).1 = a1 at *
  generalize (mulO 2 c true).2 = b1 at *
  generalize (addO r 2 b1).1 = a2 at *
  generalize (addO r 2 b1).2 = b2 at *
  generalize chG c r = G at *
  generalize ch0 c r l = d0 at *
  generalize ch1 c r l = d1 at *
  generalize ch2 c k r l = d2 at *
  generalize ch3 c k r l = d3 at *
  generalize ch4 c k r l = d4 at *
  generalize chZ c k r l = dz at *
  obtain ⟨g1, g2⟩ := G
  obtain ⟨x0, y0⟩ := d0
  obtain ⟨x1, y1⟩ := d1
  obtain ⟨x2, y2⟩ := d2
  obtain ⟨x3, y3⟩ := d3
  obtain ⟨x4, y4⟩ := d4
  obtain ⟨xz, yz⟩ := dz
  dsimp only at q1 q2 q3 q4 q5 q6 q7 q8 q9 wd hz1 hz2
  have q1' : callX kx kn env (m + 2) (.func (.func 19) []) [.raw (.int .u64 2), u64 c, abool true] H = some (.tuple [u64 a1, abool b1], H) := q1
  have q2' : callX kx kn env (m + 2) (.func (.func 20) []) [u64 r, .raw (.int .u64 2), abool b1] H = some (.tuple [u64 a2, abool b2], H) := q2
  have q4' : callX kx kn env (m + 2) (.func (.func 19) []) [.raw (.int .u64 2), u64 l, abool g2] H = some (.tuple [u64 x0, abool y0], H) := q4
  have q7' : ∀ H, callX kx kn env (m + 2) (.func (.func 20) []) [u64 x2, .raw (.int .u64 13), abool y2] H = some (.tuple [u64 x3, abool y3], H) := q7
  obtain ⟨H1, hH1⟩ : ∃ H1, H1 = H.push (.row [some (0, [u64 r, u64 k, .raw (.int .u64 13), u64 g1])]) := ⟨_, rfl⟩
  have hrow : H1.rowAt H.next 0 = some [u64 r, u64 k, .raw (.int .u64 13), u64 g1] := by rw [hH1]; simp [-getElem?_pos]
  refine ⟨H1, ?_, by rw [hH1]; simp [-getElem?_pos]⟩
  refine Wp.callX1 87 [0, 1, 2, 3, 8, 9, 10, 11, 13, 27, 61, 62, 63, 64, 84] h rfl (by simp [-getElem?_pos]) ?_
  repeat (first | apply Wp.seq | apply Wp.blk | apply Wp.ret | apply Wp.skip | apply Wp.exit | apply Wp.cT rfl | apply Wp.cF rfl | ((apply Wp.reg; (repeat (apply Ex.cons; (simp (disch := omega) [-getElem?_pos, i1, i2, i3, i4, wc, wk, wr, wl, wd, q1', q2', q3, q4', repl]; rfl))); exact Ex.nil; rfl; (simp [-getElem?_pos]; rfl))))
  rw [← hH1]
  apply Wp.loop (α := Nat × Nat × Bool) (fun y => [(0, vi c), (9, u64 y.2.1), (10, abool y.2.2), (61, .slice H.next 0 0 4 4 true 1), (62, vi 4), (63, vi y.1)]) (fun _ => H1)
    (fun y => y = (0, x0, y0) ∨ y = (1, x1, y1) ∨ y = (2, x2, y2) ∨ y = (3, x3, y3) ∨ y = (4, x4, y4)) (fun y => 4 - y.1) (0, x0, y0) rfl (.inl rfl) (by show 4 - 0 < _; omega) (by simp [-getElem?_pos])
  rintro ⟨i, a, b⟩ hi
  rcases hi with e | e | e | e | e <;> cases e
  · repeat (first | apply Wp.seq | apply Wp.blk | apply Wp.ret | apply Wp.skip | apply Wp.exit | apply Wp.cT rfl | apply Wp.cF rfl | ((apply Wp.reg; (repeat (apply Ex.cons; (simp (disch := omega) [-getElem?_pos, hrow, q5]; rfl))); exact Ex.nil; rfl; (simp [-getElem?_pos]; rfl))))
    exact ⟨(1, x1, y1), rfl, .inr (.inl rfl), by simp [-getElem?_pos], by simp [-getElem?_pos]⟩
  · repeat (first | apply Wp.seq | apply Wp.blk | apply Wp.ret | apply Wp.skip | apply Wp.exit | apply Wp.cT rfl | apply Wp.cF rfl | ((apply Wp.reg; (repeat (apply Ex.cons; (simp (disch := omega) [-getElem?_pos, hrow, q6]; rfl))); exact Ex.nil; rfl; (simp [-getElem?_pos]; rfl))))
    exact ⟨(2, x2, y2), rfl, .inr (.inr (.inl rfl)), by simp [-getElem?_pos], by simp [-getElem?_pos]⟩
  · repeat (first | apply Wp.seq | apply Wp.blk | apply Wp.ret | apply Wp.skip | apply Wp.exit | apply Wp.cT rfl | apply Wp.cF rfl | ((apply Wp.reg; (repeat (apply Ex.cons; (simp (disch := omega) [-getElem?_pos, hrow, q7']; rfl))); exact Ex.nil; rfl; (simp [-getElem?_pos]; rfl))))
    exact ⟨(3, x3, y3), rfl, .inr (.inr (.inr (.inl rfl))), by simp [-getElem?_pos], by simp [-getElem?_pos]⟩
  · repeat (first | apply Wp.seq | apply Wp.blk | apply Wp.ret | apply Wp.skip | apply Wp.exit | apply Wp.cT rfl | apply Wp.cF rfl | ((apply Wp.reg; (repeat (apply Ex.cons; (simp (disch := omega) [-getElem?_pos, hrow, q8]; rfl))); exact Ex.nil; rfl; (simp [-getElem?_pos]; rfl))))
    exact ⟨(4, x4, y4), rfl, .inr (.inr (.inr (.inr rfl))), by simp [-getElem?_pos], by simp [-getElem?_pos]⟩
  · by_cases hT : boundT c k r l < 9223372036854775808
    · have hy : yz = true := by rw [hz1]; simpa [-getElem?_pos] using hT
      have hxz := hz2 hT
      rw [if_pos hT, ← hxz]
      subst hy
      have hwz := wrapI (a := xz) (by omega)
      repeat (first | apply Wp.seq | apply Wp.blk | apply Wp.ret | apply Wp.skip | apply Wp.exit | apply Wp.cT rfl | apply Wp.cF rfl | ((apply Wp.reg; (repeat (apply Ex.cons; (simp (disch := omega) [-getElem?_pos, hrow, q9, wc, hwz]; rfl))); exact Ex.nil; rfl; (simp [-getElem?_pos]; rfl))))
      simp [-getElem?_pos, a7]
    · have hy : yz = false := by rw [hz1]; simpa [-getElem?_pos] using hT
      rw [if_neg hT]
      subst hy
      repeat (first | apply Wp.seq | apply Wp.blk | apply Wp.ret | apply Wp.skip | apply Wp.exit | apply Wp.cT rfl | apply Wp.cF rfl | ((apply Wp.reg; (repeat (apply Ex.cons; (simp (disch := omega) [-getElem?_pos, hrow, q9, wc]; rfl))); exact Ex.nil; rfl; (simp [-getElem?_pos]; rfl))))
      simp [-getElem?_pos, a7]

end Go.Proofs.YtipmhhogebnpkaaGreatDoor
namespace Go.Proofs.YtipmhhogebnpkaaGreatDoor
open Go Go.Vm
set_option linter.unusedVariables false
set_option linter.unusedSimpArgs false

variable {kn : Known} {env : Nat → Option AFunc}

variable {H H' : AHeap} {v u : AVal} {l m : List Nat} {kx : Known}

end Go.Proofs.YtipmhhogebnpkaaGreatDoor
namespace Go.Proofs.YtipmhhogebnpkaaGreatDoor
open Go Go.Vm
set_option linter.unusedVariables false
set_option linter.unusedSimpArgs false

variable {kn : Known} {env : Nat → Option AFunc}

variable {H H' : AHeap} {v u : AVal} {l m : List Nat} {kx : Known}

end Go.Proofs.YtipmhhogebnpkaaGreatDoor
namespace Go.Proofs.YtipmhhogebnpkaaGreatDoor
open Go Go.Vm
set_option linter.unusedVariables false
set_option linter.unusedSimpArgs false

variable {kn : Known} {env : Nat → Option AFunc}

variable {H H' : AHeap} {v u : AVal} {l m : List Nat} {kx : Known}

structure RefE (kx kn : Known) (env : Nat → Option AFunc) : Prop where
  of : FnX kx kn env 22 a22
  plus : FnX kx kn env 23 a23
  times : FnX kx kn env 21 a21
  minus : FnX kx kn env 24 a24
  small : FnX kx kn env 25 a25
  carried : FnX kx kn env 36 a36
  bound : FnX kx kn env 8 a8

variable (E : RefE kx kn env) (n : Nat) (hn : 10000000 < n)
include E hn

end Go.Proofs.YtipmhhogebnpkaaGreatDoor
namespace Go.Proofs.YtipmhhogebnpkaaGreatDoor
open Go Go.Vm
set_option linter.unusedVariables false
set_option linter.unusedSimpArgs false

variable {kn : Known} {env : Nat → Option AFunc}

variable {kx : Known}

/-- A number of 64 bits with a sign. -/
abbrev I64 (x : Int) : Prop := -9223372036854775808 ≤ x ∧ x < 9223372036854775808

structure LawE (kx kn : Known) (env : Nat → Option AFunc) : Prop where
  ref : RefE kx kn env
  bound : FnX kx kn env 7 a7
  product : FnX kx kn env 19 a19
  sum : FnX kx kn env 20 a20
  mul : FnX kx kn env 34 a34
  add : ∀ (m x y : Nat) (H : AHeap), x < 18446744073709551616 → y < 18446744073709551616 → callX kx kn env (m + 1) (.func (.func 35) []) [u64 x, u64 y, u64 0] H = some (.tuple [u64 ((x + y) % 18446744073709551616), u64 ((x + y) / 18446744073709551616)], H)
  awake : ∀ (n : Nat) (H : AHeap), callX kx kn env (n + 1) (.func (.func 6) []) [] H = some (abool true, H)

theorem boundI_bad {c k r l : Int} (h : c < 1 ∨ r < 1 ∨ l < 2 ∨ k < 0) : boundI c k r l = -1 := if_pos h
theorem boundI_good {c k r l : Nat} (hc : 1 ≤ c) (hr : 1 ≤ r) (hl : 2 ≤ l) : boundI c k r l = (if boundT c k r l < 9223372036854775808 then (boundT c k r l : Int) else -1) := by
  unfold boundI
  rw [if_neg (by omega)]
  simp only [Int.toNat_natCast]

variable (E : LawE kx kn env) (n : Nat) (hn : 10000000 < n)
include E hn

theorem boundAll {c k r l : Int} (hc : I64 c) (hk : I64 k) (hr : I64 r) (hl : I64 l) (H : AHeap) : ∃ H', callX kx kn env (n + 4) (.func (.func 7) []) [vi c, vi k, vi r, vi l] H = some (vi (boundI c k r l), H') ∧ H.next ≤ H'.next := by
  by_cases h : c < 1 ∨ r < 1 ∨ l < 2 ∨ k < 0
  · rw [boundI_bad h]
    exact ⟨H, c7a E.bound (n + 3) h, Nat.le_refl _⟩
  · obtain ⟨c, rfl⟩ := Int.eq_ofNat_of_zero_le (show 0 ≤ c by omega)
    obtain ⟨k, rfl⟩ := Int.eq_ofNat_of_zero_le (show 0 ≤ k by omega)
    obtain ⟨r, rfl⟩ := Int.eq_ofNat_of_zero_le (show 0 ≤ r by omega)
    obtain ⟨l, rfl⟩ := Int.eq_ofNat_of_zero_le (show 0 ≤ l by omega)
    rw [boundI_good (by omega) (by omega) (by omega)]
    exact c7b E.bound E.product E.sum E.mul (n + 1) (by omega) (by omega) (by omega) (by omega) (by omega) (by omega) (by omega) (by omega) E.add

end Go.Proofs.YtipmhhogebnpkaaGreatDoor
