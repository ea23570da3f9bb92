/- The abstract machine: walks over calls of which some are answered from outside (functions without a body). -/
import Derived.Test.YtipmhhogebnpkaaGreatDoorP19
import Derived.Test.YtipmhhogebnpkaaGreatDoorP15
import Derived.Test.YtipmhhogebnpkaaGreatDoorP21
import Derived.Test.YtipmhhogebnpkaaGreatDoorP20
namespace Go.Vm
open Go
set_option linter.unusedVariables false
set_option linter.unusedSimpArgs false
variable {n N : Nat} {C : List Nat} {H H' : AHeap}
structure FnX (kx kn : Known) (env : Nat → Option AFunc) (f : Nat) (af : AFunc) : Prop where
  e : env f = some af
  nx : ∀ args H, kx f args H = none
  no : ∀ args H, kn f args H = none
theorem opnX {kx kn : Known} {env : Nat → Option AFunc} {f : Nat} {af : AFunc} (h : env f = some af) (n : Nat) (args : List AVal) (H : AHeap) (hx : kx f args H = none) (hk : kn f args H = none) : callX kx kn env (n + 1) (.func (.func f) []) args H =
    endF af.res (aCode (callX kx kn env n) true n af.code { tm := initTm af args, H := H, marks := [] }) := by
  simp only [callX, extOr, hx, knOr, List.append_nil, hk, stepOr, callF, h, Option.bind_some, initTm]
  unfold endF
  split <;> rename_i hx <;> simp only [hx]
theorem knX {kx kn : Known} {env : Nat → Option AFunc} {f : Nat} (n : Nat) {args : List AVal} {H : AHeap} {r : AVal × AHeap} (hx : kx f args H = none) (hk : kn f args H = some r) : callX kx kn env (n + 1) (.func (.func f) []) args H = some r := by
  simp only [callX, extOr, hx, knOr, List.append_nil, hk]
theorem Wp.callX {kx kn : Known} {env : Nat → Option AFunc} {f : Nat} {af : AFunc} {args : List AVal} {R : AVal → AHeap → Prop} (N : Nat) (C : List Nat) (h : FnX kx kn env f af) (hN : af.ntmps = N) (ha : args.length ≤ N)
    (hw : Wp (Vm.callX kx kn env n) n N C af.code (argK 0 args, H) (EndK af.res R)) : ∃ v H', Vm.callX kx kn env (n + 1) (.func (.func f) []) args H = some (v, H') ∧ R v H' := by
  subst hN
  obtain ⟨e, tm', s', h1, h2, h3⟩ := hw.run (initTm af args) ⟨initTm_len ha, fun k v hv => initTm_at (by have := look_argK args 0 k v hv; simpa using this.2)⟩
  have key : ∀ vs, ressK s'.1 s'.2 af.res = some vs → endF af.res (some (.normal, ⟨tm', s'.2, []⟩)) = some (tup vs, s'.2) := fun vs hv => by
    simp only [endF, aLeave, Option.bind_some, ressK_ok h2 hv, Option.map_some]
  have key2 : ∀ vs, ressK s'.1 s'.2 af.res = some vs → endF af.res (some (.ret, ⟨tm', s'.2, []⟩)) = some (tup vs, s'.2) := fun vs hv => by
    simp only [endF, aLeave, Option.bind_some, ressK_ok h2 hv, Option.map_some]
  have ho := opnX h.e n args H (h.nx args H) (h.no args H)
  cases e with
  | normal => obtain ⟨vs, g1, g2⟩ := h3; exact ⟨_, _, by rw [ho, h1]; exact key vs g1, g2⟩
  | ret => obtain ⟨vs, g1, g2⟩ := h3; exact ⟨_, _, by rw [ho, h1]; exact key2 vs g1, g2⟩
  | _ => exact h3.elim
theorem Wp.callX1 {kx kn : Known} {env : Nat → Option AFunc} {f : Nat} {af : AFunc} {args : List AVal} {v : AVal} (N : Nat) (C : List Nat) (h : FnX kx kn env f af) (hN : af.ntmps = N) (ha : args.length ≤ N)
    (hw : Wp (Vm.callX kx kn env n) n N C af.code (argK 0 args, H) (EndK af.res fun v' h' => v' = v ∧ h' = H')) : Vm.callX kx kn env (n + 1) (.func (.func f) []) args H = some (v, H') := by
  obtain ⟨_, _, h1, rfl, rfl⟩ := Wp.callX N C h hN ha hw
  exact h1
end Go.Vm
namespace Go.Proofs.YtipmhhogebnpkaaGreatDoor
open Go Go.Vm
set_option linter.unusedVariables false
set_option linter.unusedSimpArgs false
variable {kn : Known} {env : Nat → Option AFunc}
variable {H : AHeap} {kx : Known}
abbrev u64 (n : Nat) : AVal := .raw (.int .u64 (n : Int))
end Go.Proofs.YtipmhhogebnpkaaGreatDoor
namespace Go.Proofs.YtipmhhogebnpkaaGreatDoor
open Go Go.Vm
set_option linter.unusedVariables false
set_option linter.unusedSimpArgs false
variable {kn : Known} {env : Nat → Option AFunc}
end Go.Proofs.YtipmhhogebnpkaaGreatDoor
namespace Go.Proofs.YtipmhhogebnpkaaGreatDoor
open Go Go.Vm
set_option linter.unusedVariables false
set_option linter.unusedSimpArgs false
variable {kn : Known} {env : Nat → Option AFunc}
def val : List Nat → Nat
  | [] => 0
  | d :: l => d + 65536 * val l
end Go.Proofs.YtipmhhogebnpkaaGreatDoor
namespace Go.Vm
open Go
set_option linter.unusedVariables false
set_option linter.unusedSimpArgs false
theorem spl_len {α : Type} {l v : List α} {off : Nat} (h : off + v.length ≤ l.length) : (spl l off v).length = l.length := by
  simp only [spl, List.length_append, List.length_take, List.length_drop]; omega
theorem spl_mid {α : Type} {a e b v : List α} {f : Nat} (h : f + v.length ≤ e.length) : spl (a ++ (e ++ b)) (a.length + f) v = a ++ (spl e f v ++ b) := by
  simp only [spl]
  rw [List.take_append, List.take_of_length_le (by omega), Nat.add_sub_cancel_left, List.take_append_of_le_length (by omega), Nat.add_assoc, List.drop_append, List.drop_eq_nil_of_le (by omega), Nat.add_sub_cancel_left, List.nil_append, List.drop_append_of_le_length h]
  simp only [List.append_assoc]
theorem flatten_part {α : Type} {n : Nat} {es : List (List α)} (he : ∀ e ∈ es, e.length = n) {i f : Nat} {e v : List α} (hi : es[i]? = some e) (h : f + v.length ≤ n) : spl es.flatten (i * n + f) v = (es.set i (spl e f v)).flatten := by
  obtain ⟨hlt, hei⟩ := List.getElem?_eq_some_iff.1 hi
  have hd : es = es.take i ++ (e :: es.drop (i + 1)) := by rw [← hei, List.getElem_cons_drop, List.take_append_drop]
  have hl : (es.take i).flatten.length = i * n := by rw [flatten_len (n := n) fun x hx => he x (List.mem_of_mem_take hx), List.length_take, Nat.min_eq_left (by omega)]
  have hel := he e (List.mem_of_getElem? hi)
  have h1 : es.flatten = (es.take i).flatten ++ (e ++ (es.drop (i + 1)).flatten) := by
    conv => lhs; rw [hd]
    simp
  rw [h1, ← hl, spl_mid (by omega), List.set_eq_take_append_cons_drop, if_pos hlt]
  simp
theorem mem_set {α : Type} {es : List α} {i : Nat} {v e : α} (h : e ∈ es.set i v) : e ∈ es ∨ e = v := List.mem_or_eq_of_mem_set h
theorem SliceE.store {H : AHeap} {base esz : Nat} {v : AVal} {es : List (List AVal)} (h : SliceE H base esz v es) {i f : Nat} {e vals : List AVal} (hi : es[i]? = some e) (h0 : 0 < vals.length) (hf : f + vals.length ≤ esz) (hone : vals.all AVal.one = true) :
    ∃ R ver H', v = .slice R ver 0 es.length es.length false esz ∧ base ≤ R ∧ R < H.next ∧ H.write R ver (i * esz + f) vals = some H' ∧ SliceE H' base esz v (es.set i (spl e f vals)) ∧ H'.next = H.next ∧ ∀ A, A ≠ R → H'.get A = H.get A := by
  obtain ⟨hlt, hei⟩ := List.getElem?_eq_some_iff.1 hi
  rcases h with ⟨hes, ⟨rfl, rfl⟩ | ⟨R, ver, vs, h1, h2, rfl, h4, h5⟩⟩
  · simp at hi
  · have hfl := flatten_len hes
    have hm : (i + 1) * esz ≤ es.length * esz := Nat.mul_le_mul_right _ hlt
    rw [Nat.succ_mul] at hm
    obtain ⟨H', hw, hr⟩ := RowW.write (H0 := H) (nv := vs.length) ⟨⟨vs, h4, rfl, h5⟩, rfl, fun _ _ => rfl⟩ (off := i * esz + f) (vals := vals) h0 (by omega) hone
    obtain ⟨vs', q1, q2, q3⟩ := hr.row
    refine ⟨R, ver, H', rfl, h1, h2, hw, ⟨fun x hx => ?_, .inr ⟨R, ver, vs', h1, by rw [hr.next]; exact h2, by rw [List.length_set], q1, ?_⟩⟩, hr.next, hr.other⟩
    · rcases mem_set hx with h | rfl
      · exact hes x h
      · rw [spl_len (by rw [hes e (List.mem_of_getElem? hi)]; exact hf)]; exact hes e (List.mem_of_getElem? hi)
    · rw [q3, ← flatten_part hes hi hf]; rfl
theorem SliceE.load {H : AHeap} {base esz : Nat} {v : AVal} {es : List (List AVal)} (h : SliceE H base esz v es) {i : Nat} {e : List AVal} (hi : es[i]? = some e) :
    ∃ R ver cells, v = .slice R ver 0 es.length es.length false esz ∧ base ≤ R ∧ R < H.next ∧ H.rowAt R ver = some cells ∧ i * esz + esz ≤ cells.length ∧ (∀ f, f < esz → cells[i * esz + f]? = e[f]?) ∧ (cells.drop (i * esz)).take esz = e := by
  obtain ⟨hlt, hei⟩ := List.getElem?_eq_some_iff.1 hi
  obtain ⟨R, ver, off, kcap, ex, cells, h1, h2, h3, h4⟩ := h.rd.at hi
  rcases h with ⟨hes, ⟨rfl, rfl⟩ | ⟨R', ver', vs, g1, g2, rfl, g4, g5⟩⟩
  · simp at hi
  · cases h1
    rw [Nat.zero_add] at h3 h4
    exact ⟨_, _, cells, rfl, g1, g2, h2, h3, fun f hf => part_at h4 hf, h4⟩
theorem RdE.beq {H : AHeap} {esz : Nat} {v : AVal} {es : List (List AVal)} (h : RdE H esz v es) : AVal.beq v v = true := by
  rcases h with ⟨_, ⟨rfl, _⟩ | ⟨R, ver, off, kc, ex, cells, rfl, _⟩⟩ <;> simp
theorem cells_one {v : AVal} (h : v.one = true) : v.cells = [v] := by
  cases v with
  | raw x => cases x <;> first | rfl | (cases h; done)
  | agg _ => cases h
  | _ => rfl
theorem SliceE.beq {H : AHeap} {base esz : Nat} {v : AVal} {es : List (List AVal)} (h : SliceE H base esz v es) : AVal.beq v v = true := by
  rcases h with ⟨_, ⟨rfl, _⟩ | ⟨R, ver, vs, _, _, rfl, _⟩⟩ <;> simp
end Go.Vm
namespace Go.Proofs.YtipmhhogebnpkaaGreatDoor
open Go Go.Vm
set_option linter.unusedVariables false
set_option linter.unusedSimpArgs false
variable {kn : Known} {env : Nat → Option AFunc}
variable {H H' : AHeap} {v : AVal} {l : List Nat} {kx : Known}
abbrev bigC (l : List Nat) : List (List AVal) := l.map fun d => [u64 d]
theorem bigC_len (l : List Nat) : (bigC l).length = l.length := List.length_map ..
theorem bigC_at {i d : Nat} (h : l[i]? = some d) : (bigC l)[i]? = some [u64 d] := by rw [List.getElem?_map, h]; rfl
structure Big (H : AHeap) (v : AVal) (l : List Nat) : Prop where
  rd : RdE H 1 v (bigC l)
  lies : v.lies (· < H.next)
theorem Big.grow (h : Big H v l) (hg : Grow H H') : Big H' v l := ⟨h.rd.grow hg h.lies, fun R ver off len kcap ex esz e => Nat.lt_of_lt_of_le (h.lies R ver off len kcap ex esz e) hg.next⟩
theorem Big.lenS (h : Big H v l) : aLenS v = some (vi l.length) := by have := h.rd.lenS; rwa [bigC_len] at this
theorem Big.at (h : Big H v l) {i d : Nat} (hi : l[i]? = some d) : ∃ R ver off kc ex cells, v = .slice R ver off l.length kc ex 1 ∧ R < H.next ∧ H.rowAt R ver = some cells ∧ off + i + 1 ≤ cells.length ∧ cells[off + i]? = some (u64 d) := by
  obtain ⟨R, ver, off, kc, ex, cells, e1, e2, e3, e4⟩ := h.rd.at (bigC_at hi)
  rw [bigC_len] at e1
  rw [Nat.mul_one] at e3 e4
  refine ⟨R, ver, off, kc, ex, cells, e1, h.lies R ver off _ kc ex 1 e1, e2, e3, ?_⟩
  have := part_at (j := 0) e4 (by omega)
  exact this
end Go.Proofs.YtipmhhogebnpkaaGreatDoor
namespace Go.Proofs.YtipmhhogebnpkaaGreatDoor
open Go Go.Vm
set_option linter.unusedVariables false
set_option linter.unusedSimpArgs false
variable {kn : Known} {env : Nat → Option AFunc}
variable {H H' : AHeap} {v : AVal} {l : List Nat} {kx : Known}
end Go.Proofs.YtipmhhogebnpkaaGreatDoor
namespace Go.Proofs.YtipmhhogebnpkaaGreatDoor
open Go Go.Vm
set_option linter.unusedVariables false
set_option linter.unusedSimpArgs false
variable {kn : Known} {env : Nat → Option AFunc}
variable {H H' H0 H2 : AHeap} {v : AVal} {l o : List Int} {kx : Known}
abbrev intC (l : List Int) : List (List AVal) := l.map fun d => [vi d]
theorem intC_len (l : List Int) : (intC l).length = l.length := List.length_map ..
theorem intC_at {i : Nat} {d : Int} (h : l[i]? = some d) : (intC l)[i]? = some [vi d] := by rw [List.getElem?_map, h]; rfl
theorem intC_one (l : List Int) : ∀ e ∈ intC l, e.all AVal.one = true := fun e he => by
  obtain ⟨d, _, rfl⟩ := List.mem_map.1 he
  rfl
theorem intC_flat : ∀ l : List Int, (intC l).flatten = l.map vi
  | [] => rfl
  | d :: r => by
    show [vi d] ++ (intC r).flatten = _
    rw [intC_flat r]; rfl
structure Ints (H : AHeap) (v : AVal) (l : List Int) : Prop where
  rd : RdE H 1 v (intC l)
  lies : v.lies (· < H.next)
theorem Ints.grow (h : Ints H v l) (hg : Grow H H') : Ints H' v l := ⟨h.rd.grow hg h.lies, fun R ver off len kcap ex esz e => Nat.lt_of_lt_of_le (h.lies R ver off len kcap ex esz e) hg.next⟩
theorem Ints.lenS (h : Ints H v l) : aLenS v = some (vi l.length) := by have := h.rd.lenS; rwa [intC_len] at this
theorem Ints.at (h : Ints H v l) {i : Nat} {d : Int} (hi : l[i]? = some d) : ∃ R ver off kc ex cells, v = .slice R ver off l.length kc ex 1 ∧ R < H.next ∧ H.rowAt R ver = some cells ∧ off + i + 1 ≤ cells.length ∧ cells[off + i]? = some (vi d) := by
  obtain ⟨R, ver, off, kc, ex, cells, e1, e2, e3, e4⟩ := h.rd.at (intC_at hi)
  rw [intC_len] at e1
  rw [Nat.mul_one] at e3 e4
  exact ⟨R, ver, off, kc, ex, cells, e1, h.lies R ver off _ kc ex 1 e1, e2, e3, part_at (j := 0) e4 (by omega)⟩
theorem ints_of {base : Nat} (h : SliceE H base 1 v (intC l)) : Ints H v l := ⟨h.rd, fun R ver off len kcap ex esz e => (h.lies R ver off len kcap ex esz e).2⟩
theorem ints_nil (H : AHeap) : Ints H anil [] := ⟨⟨fun e he => by simp [-getElem?_pos] at he, .inl ⟨rfl, rfl⟩⟩, fun R ver off len kcap ex esz e => by cases e⟩
theorem int_copy (h : Ints H v l) (h0 : l ≠ []) (hl : l.length ≤ 17592186044416) :
    ∃ R ver nv H', aAppend (H.push (.row [some (0, [])])) 1 8 (.slice H.next 0 0 0 0 true 1) v = some (.slice R ver 0 l.length l.length false 1, H') ∧ H.next ≤ R ∧ R < H'.next ∧ RowW H' R ver nv (l.map vi) H' ∧ Grow H H' := by
  have h1 := (h.grow (Grow.push H (.row [some (0, [])]))).rd
  obtain ⟨e1, e2⟩ := h1.appendNew (bytes := 8) (X := H.next) (by simpa [-getElem?_pos] using h0) (by omega) (by omega) (intC_one l) (by rw [intC_len]; omega) (by simp [-getElem?_pos])
  rw [intC_len] at e1
  refine ⟨_, _, _, _, e1, by simp [-getElem?_pos], by simp [-getElem?_pos], ⟨⟨_, AHeap.get_push_same _ _, rfl, ?_⟩, rfl, fun _ _ => rfl⟩, (Grow.push _ _).trans (Grow.push _ _)⟩
  rw [intC_flat]; rfl
def dedS (acc : List Int) (x : Int) : List Int := if acc.getLast? = some x then acc else acc ++ [x]
def dedA (l : List Int) : List Int := l.foldl dedS []
theorem dedA_take {p : Nat} {x : Int} (h : l[p]? = some x) : dedA (l.take (p + 1)) = dedS (dedA (l.take p)) x := by
  unfold dedA
  rw [List.take_add_one, h, List.foldl_append]; rfl
theorem dedS_last (acc : List Int) (x : Int) : (dedS acc x).getLast? = some x := by
  unfold dedS; split
  · assumption
  · simp [-getElem?_pos]
theorem dedA_last {p : Nat} {x : Int} (h : l[p]? = some x) : (dedA (l.take (p + 1))).getLast? = some x := by rw [dedA_take h, dedS_last]
theorem dedA_len (p : Nat) : (dedA (l.take p)).length ≤ p := by
  induction p with
  | zero => simp [-getElem?_pos, dedA]
  | succ p ih =>
    cases hx : l[p]? with
    | none =>
      have : l.take (p + 1) = l.take p := by rw [List.take_add_one, hx]; simp [-getElem?_pos]
      rw [this]; omega
    | some x =>
      rw [dedA_take hx]
      unfold dedS
      split
      · omega
      · simp [-getElem?_pos]; omega
theorem take_set {α : Type} {l : List α} {q : Nat} {v : α} (h : q < l.length) : (l.set q v).take (q + 1) = l.take q ++ [v] := by
  rw [List.set_eq_take_append_cons_drop, if_pos h, List.take_append, List.take_of_length_le (by simp [-getElem?_pos]; omega)]
  have : q + 1 - (l.take q).length = 1 := by rw [List.length_take]; omega
  rw [this]; rfl
theorem repl_len {x : AVal} : ∀ n, (repl n [x]).length = n
  | 0 => rfl
  | n + 1 => by rw [repl, List.length_append, repl_len n]; simp [-getElem?_pos]; omega
theorem repl_one : ∀ n, (repl n [AVal.raw (.int .i64 0)]).all AVal.one = true
  | 0 => rfl
  | n + 1 => by rw [repl, List.all_append, repl_one n]; rfl
theorem slice_from {R ver n m : Nat} {x : Int} (h : m ≤ n) (hx : x = m) : aSliceS 1 (.slice R ver 0 n n false 1) (some (vi x)) none none = some (.slice R ver m (n - m) (n - m) false 1) := by
  subst hx
  have e1 : (0 : Int) ≤ (m : Int) := by omega
  have e2 : (m : Int) ≤ (n : Int) := by omega
  simp [-getElem?_pos, aSliceS, aBoundO, aBound, ile_eq, e1, e2, h]
theorem slice_to {R ver n m : Nat} {x : Int} (h : m ≤ n) (hx : x = m) : aSliceS 1 (.slice R ver 0 n n false 1) none (some (vi x)) none = some (.slice R ver 0 m n false 1) := by
  subst hx
  have e1 : (0 : Int) ≤ (m : Int) := by omega
  have e2 : (m : Int) ≤ (n : Int) := by omega
  simp [-getElem?_pos, aSliceS, aBoundO, aBound, ile_eq, e1, e2, h]
set_option maxHeartbeats 2000000 in
theorem c70 (h : FnX kx kn env 70 p70) (n : Nat) {R ver nv : Nat} (hr : RowW H0 R ver nv (l.map vi) H) (hl : l.length ≤ 17592186044416) (hn : 100000000000000 < n) :
    ∃ H' cs, callX kx kn env (n + 1) (.func (.func 70) []) [.slice R ver 0 l.length l.length false 1] H = some (.slice R ver 0 (dedA l).length l.length false 1, H') ∧ RowW H0 R ver nv cs H' ∧ cs.length = l.length ∧ cs.take (dedA l).length = (dedA l).map vi := by
  suffices hh : ∃ v H', callX kx kn env (n + 1) (.func (.func 70) []) [.slice R ver 0 l.length l.length false 1] H = some (v, H') ∧ v = .slice R ver 0 (dedA l).length l.length false 1 ∧ ∃ cs, RowW H0 R ver nv cs H' ∧ cs.length = l.length ∧ cs.take (dedA l).length = (dedA l).map vi by
    obtain ⟨v, H', h1, rfl, cs, h2⟩ := hh
    exact ⟨H', cs, h1, h2⟩
  have hlL := hl
  have same : dedA l = l → RowW H0 R ver nv (l.map vi) H ∧ (l.map vi).length = l.length ∧ (l.map vi).take (dedA l).length = (dedA l).map vi := fun e => ⟨hr, by simp [-getElem?_pos], by rw [e, List.take_of_length_le (by simp [-getElem?_pos])]⟩
  refine Wp.callX 61 [0, 2, 3, 4, 5, 8, 13, 25, 32, 44] h rfl (by simp [-getElem?_pos]) (n := n) ?_
  by_cases h2 : l.length < 2
  · have he : dedA l = l := by
      match l, h2 with
      | [], _ => rfl
      | [x], _ => rfl
      | _ :: _ :: _, h => simp [-getElem?_pos] at h; omega
    have := same he
    repeat (first | apply Wp.seq | apply Wp.blk | apply Wp.ret | apply Wp.skip | apply Wp.exit | apply Wp.cT rfl | apply Wp.cF rfl | ((apply Wp.reg; (repeat (apply Ex.cons; (simp (disch := omega) [-getElem?_pos, h2]; rfl))); exact Ex.nil; rfl; (simp [-getElem?_pos]; rfl))))
    simp [-getElem?_pos, p70]
    rw [he] at this ⊢
    exact ⟨rfl, _, this⟩
  · repeat (first | apply Wp.seq | apply Wp.blk | apply Wp.ret | apply Wp.skip | apply Wp.exit | apply Wp.cT rfl | apply Wp.cF rfl | ((apply Wp.reg; (repeat (apply Ex.cons; (simp (disch := omega) [-getElem?_pos, h2]; rfl))); exact Ex.nil; rfl; (simp [-getElem?_pos]; rfl))))
    apply Wp.loop (α := Nat) (fun y => [(0, .slice R ver 0 l.length l.length false 1), (3, vi ((y : Int) + 1))]) (fun _ => H)
      (fun y => y + 1 ≤ l.length ∧ dedA (l.take (y + 1)) = l.take (y + 1)) (fun y => l.length - y) 0 rfl ⟨by omega, by
        match l, h2 with
        | [], h => simp [-getElem?_pos] at h
        | x :: r, _ => rfl⟩ (by show l.length - 0 < _; omega) (by simp [-getElem?_pos])
    rintro i ⟨hi, hde⟩
    have hwi : wrapF .i64 ((i : Int) + 1 - 1) = (i : Int) := by rw [wrap_small (by omega) (by omega)]; omega
    have hwi2 : wrapF .i64 ((i : Int) + 1 + 1) = (i : Int) + 1 + 1 := wrap_small (by omega) (by omega)
    have hrow := hr.at
    by_cases hil : i + 1 < l.length
    · obtain ⟨x, hx⟩ : ∃ x, l[i + 1]? = some x := ⟨_, List.getElem?_eq_getElem hil⟩
      obtain ⟨y, hy⟩ : ∃ y, l[i]? = some y := ⟨_, List.getElem?_eq_getElem (by omega)⟩
      have hcx : (l.map vi)[i + 1]? = some (vi x) := by rw [List.getElem?_map, hx]; rfl
      have hcy : (l.map vi)[i]? = some (vi y) := by rw [List.getElem?_map, hy]; rfl
      have hcl : (l.map vi).length = l.length := List.length_map ..
      have hl1 : i + 1 + 1 ≤ (l.map vi).length := by omega
      have hl2 : i + 1 ≤ (l.map vi).length := by omega
      have hil' : (i : Int) + 1 < l.length := by omega
      generalize hL : l.map vi = L at *
      by_cases hxy : x = y
      · subst hxy
        have hd1 : dedA (l.take (i + 1 + 1)) = l.take (i + 1) := by
          rw [dedA_take hx]
          unfold dedS
          rw [dedA_last hy, if_pos rfl, hde]
        have hsf := slice_from (R := R) (ver := ver) (n := l.length) (m := i + 1) (x := (i : Int) + 1) (by omega) (by omega)
        repeat (first | apply Wp.seq | apply Wp.blk | apply Wp.ret | apply Wp.skip | apply Wp.exit | apply Wp.cT rfl | apply Wp.cF rfl | ((apply Wp.reg; (repeat (apply Ex.cons; (simp (disch := omega) [-getElem?_pos, hil, hil', hwi, hwi2, hrow, hcx, hcy, hl1, hl2, hsf]; rfl))); exact Ex.nil; rfl; (simp [-getElem?_pos]; rfl))) | ((apply Wp.draw; (repeat (first | ((first | apply Dr.q rfl rfl | apply Dr.r rfl rfl); (simp (disch := omega) [-getElem?_pos, hil, hil', hwi, hwi2, hrow, hcx, hcy, hl1, hl2, hsf]; rfl); (simp [-getElem?_pos]; rfl)) | (apply Dr.imm rfl; (simp (disch := omega) [-getElem?_pos, hil, hil', hwi, hwi2, hrow, hcx, hcy, hl1, hl2, hsf]; rfl); (focus first | (simp [-getElem?_pos]; done) | (simp [-getElem?_pos]; omega))))); exact Dr.nil; rfl; (first | (focus (simp (disch := omega) [-getElem?_pos, hil, hil', hwi, hwi2, hrow, hcx, hcy, hl1, hl2, hsf]; done)) | rfl); (simp [-getElem?_pos]; rfl))))
        apply Wp.loop (α := Nat × Nat × List AVal × AHeap) (fun y => [(0, .slice R ver 0 l.length l.length false 1), (3, vi (y.2.1 : Nat)), (4, .slice R ver (i + 1) (l.length - (i + 1)) (l.length - (i + 1)) false 1), (5, vi ((y.1 : Int) + 1))]) (·.2.2.2)
          (fun y => i + 1 + y.1 + 1 ≤ l.length ∧ RowW H0 R ver nv y.2.2.1 y.2.2.2 ∧ y.2.2.1.length = l.length ∧ (dedA (l.take (i + 1 + y.1 + 1))).length = y.2.1 ∧ y.2.1 ≤ i + 1 + y.1 ∧ y.2.2.1.take y.2.1 = (dedA (l.take (i + 1 + y.1 + 1))).map vi ∧ ∀ j, y.2.1 ≤ j → y.2.2.1[j]? = L[j]?)
          (fun y => l.length - y.1) (0, i + 1, L, H) rfl ⟨by show i + 1 + 0 + 1 ≤ _; omega, hr, hcl, by show (dedA (l.take (i + 1 + 1))).length = i + 1; rw [hd1, List.length_take]; omega, by show i + 1 ≤ i + 1 + 0; omega, by show L.take (i + 1) = (dedA (l.take (i + 1 + 1))).map vi; rw [hd1, ← hL, List.map_take], fun _ _ => rfl⟩ (by show l.length - 0 < _; omega) (by simp [-getElem?_pos])
        rintro ⟨k, q, cs, H2⟩ ⟨hk, hr2, hcs, hdl, hqk, hct, hsame⟩
        dsimp only at hk hr2 hcs hdl hqk hct hsame ⊢
        have hrow2 := hr2.at
        have hwk : wrapF .i64 ((k : Int) + 1 - 1) = (k : Int) := by rw [wrap_small (by omega) (by omega)]; omega
        have hwk2 : wrapF .i64 ((k : Int) + 1 + 1) = (k : Int) + 1 + 1 := wrap_small (by omega) (by omega)
        by_cases hkl : i + 1 + (k + 1) < l.length
        · obtain ⟨z, hz⟩ : ∃ z, l[i + 1 + (k + 1)]? = some z := ⟨_, List.getElem?_eq_getElem hkl⟩
          obtain ⟨y, hy2⟩ : ∃ y, l[i + 1 + k]? = some y := ⟨_, List.getElem?_eq_getElem (by omega)⟩
          have hcz : cs[i + 1 + (k + 1)]? = some (vi z) := by rw [hsame _ (by omega), ← hL, List.getElem?_map, hz]; rfl
          have hcy2 : cs[i + 1 + k]? = some (vi y) := by rw [hsame _ (by omega), ← hL, List.getElem?_map, hy2]; rfl
          have hkl' : (k : Int) + 1 < ((l.length - (i + 1) : Nat) : Int) := by omega
          have hb1 : i + 1 + (k + 1) + 1 ≤ cs.length := by omega
          have hb2 : i + 1 + k + 1 ≤ cs.length := by omega
          have hdz := dedA_take (l := l) (p := i + 1 + k + 1) (x := z) hz
          have hlast := dedA_last hy2
          by_cases hzy : z = y
          · subst hzy
            have hd2 : dedA (l.take (i + 1 + k + 1 + 1)) = dedA (l.take (i + 1 + k + 1)) := by rw [hdz]; unfold dedS; rw [hlast, if_pos rfl]
            repeat (first | apply Wp.seq | apply Wp.blk | apply Wp.ret | apply Wp.skip | apply Wp.exit | apply Wp.cT rfl | apply Wp.cF rfl | ((apply Wp.reg; (repeat (apply Ex.cons; (simp (disch := omega) [-getElem?_pos, hkl', hwk, hwk2, hrow2, hcz, hcy2, hb1, hb2]; rfl))); exact Ex.nil; rfl; (simp [-getElem?_pos]; rfl))) | ((apply Wp.draw; (repeat (first | ((first | apply Dr.q rfl rfl | apply Dr.r rfl rfl); (simp (disch := omega) [-getElem?_pos, hkl', hwk, hwk2, hrow2, hcz, hcy2, hb1, hb2]; rfl); (simp [-getElem?_pos]; rfl)) | (apply Dr.imm rfl; (simp (disch := omega) [-getElem?_pos, hkl', hwk, hwk2, hrow2, hcz, hcy2, hb1, hb2]; rfl); (focus first | (simp [-getElem?_pos]; done) | (simp [-getElem?_pos]; omega))))); exact Dr.nil; rfl; (first | (focus (simp (disch := omega) [-getElem?_pos, hkl', hwk, hwk2, hrow2, hcz, hcy2, hb1, hb2]; done)) | rfl); (simp [-getElem?_pos]; rfl))))
            exact ⟨(k + 1, q, cs, H2), rfl, ⟨by show i + 1 + (k + 1) + 1 ≤ _; omega, hr2, hcs, by show (dedA (l.take (i + 1 + k + 1 + 1))).length = q; rw [hd2]; exact hdl, by show q ≤ i + 1 + (k + 1); omega, by show cs.take q = (dedA (l.take (i + 1 + k + 1 + 1))).map vi; rw [hd2]; exact hct, hsame⟩, by show l.length - (k + 1) < l.length - k; omega, by simp [-getElem?_pos]⟩
          · have hd2 : dedA (l.take (i + 1 + k + 1 + 1)) = dedA (l.take (i + 1 + k + 1)) ++ [z] := by rw [hdz]; unfold dedS; rw [hlast, if_neg (fun e => hzy (Option.some.inj e).symm)]
            have hqc : q < cs.length := by omega
            obtain ⟨H3, hwr, hr3⟩ := hr2.write (off := q) (vals := [vi z]) (by simp [-getElem?_pos]) (by simp [-getElem?_pos]; omega) rfl
            rw [set_spl hqc] at hr3
            have hn3 := hr3.next
            have hn2 := hr2.next
            have hwq : wrapF .i64 ((q : Int) + 1) = (q : Int) + 1 := wrap_small (by omega) (by omega)
            have hql : (q : Int) < (l.length : Int) := by omega
            have hql' : q < l.length := by omega
            repeat (first | apply Wp.seq | apply Wp.blk | apply Wp.ret | apply Wp.skip | apply Wp.exit | apply Wp.cT rfl | apply Wp.cF rfl | ((apply Wp.reg; (repeat (apply Ex.cons; (simp (disch := omega) [-getElem?_pos, hkl', hwk, hwk2, hrow2, hcz, hcy2, hb1, hb2, hzy, hwr, hwq, hql, hql']; rfl))); exact Ex.nil; rfl; (simp [-getElem?_pos]; rfl))) | ((apply Wp.draw; (repeat (first | ((first | apply Dr.q rfl rfl | apply Dr.r rfl rfl); (simp (disch := omega) [-getElem?_pos, hkl', hwk, hwk2, hrow2, hcz, hcy2, hb1, hb2, hzy, hwr, hwq, hql, hql']; rfl); (simp [-getElem?_pos]; rfl)) | (apply Dr.imm rfl; (simp (disch := omega) [-getElem?_pos, hkl', hwk, hwk2, hrow2, hcz, hcy2, hb1, hb2, hzy, hwr, hwq, hql, hql']; rfl); (focus first | (simp [-getElem?_pos]; done) | (simp [-getElem?_pos]; omega))))); exact Dr.nil; rfl; (first | (focus (simp (disch := omega) [-getElem?_pos, hkl', hwk, hwk2, hrow2, hcz, hcy2, hb1, hb2, hzy, hwr, hwq, hql, hql']; done)) | rfl); (simp [-getElem?_pos]; rfl))))
            exact ⟨(k + 1, q + 1, cs.set q (vi z), H3), rfl, ⟨by show i + 1 + (k + 1) + 1 ≤ _; omega, hr3, by show (cs.set q (vi z)).length = _; rw [List.length_set, hcs], by show (dedA (l.take (i + 1 + k + 1 + 1))).length = q + 1; rw [hd2, List.length_append, hdl]; rfl, by show q + 1 ≤ i + 1 + (k + 1); omega, by show (cs.set q (vi z)).take (q + 1) = (dedA (l.take (i + 1 + k + 1 + 1))).map vi; rw [hd2, take_set hqc, hct, List.map_append]; rfl, fun j hj => by
              have : q + 1 ≤ j := hj
              show (cs.set q (vi z))[j]? = _
              rw [List.getElem?_set_ne (by omega)]; exact hsame j (by omega)⟩, by show l.length - (k + 1) < l.length - k; omega, by simp [-getElem?_pos]⟩
        · have hke : i + 1 + k + 1 = l.length := by omega
          rw [hke, List.take_length] at hdl hct
          have hkl' : ¬ (k : Int) + 1 < ((l.length - (i + 1) : Nat) : Int) := by omega
          have hsq := slice_from (R := R) (ver := ver) (n := l.length) (m := q) (x := (q : Int)) (by omega) rfl
          have hst := slice_to (R := R) (ver := ver) (n := l.length) (m := q) (x := (q : Int)) (by omega) rfl
          have hrl : (repl (l.length - q) [AVal.raw (.int .i64 0)]).length = l.length - q := by rw [repl_len]
          obtain ⟨H3, hwr, hr3⟩ := hr2.write (off := q) (vals := repl (l.length - q) [.raw (.int .i64 0)]) (by omega) (by omega) (repl_one _)
          have hcl2 : aClearS H2 [.raw (.int .i64 0)] (.slice R ver q (l.length - q) (l.length - q) false 1) = some H3 := by
            simp only [aClearS]
            rw [if_neg (by omega)]; exact hwr
          repeat (first | apply Wp.seq | apply Wp.blk | apply Wp.ret | apply Wp.skip | apply Wp.exit | apply Wp.cT rfl | apply Wp.cF rfl | ((apply Wp.reg; (repeat (apply Ex.cons; (simp (disch := omega) [-getElem?_pos, hkl', hsq, hst, hcl2]; rfl))); exact Ex.nil; rfl; (simp [-getElem?_pos]; rfl))) | ((apply Wp.draw; (repeat (first | ((first | apply Dr.q rfl rfl | apply Dr.r rfl rfl); (simp (disch := omega) [-getElem?_pos, hkl', hsq, hst, hcl2]; rfl); (simp [-getElem?_pos]; rfl)) | (apply Dr.imm rfl; (simp (disch := omega) [-getElem?_pos, hkl', hsq, hst, hcl2]; rfl); (focus first | (simp [-getElem?_pos]; done) | (simp [-getElem?_pos]; omega))))); exact Dr.nil; rfl; (first | (focus (simp (disch := omega) [-getElem?_pos, hkl', hsq, hst, hcl2]; done)) | rfl); (simp [-getElem?_pos]; rfl))))
          simp [-getElem?_pos, p70]
          rw [hdl]
          refine ⟨rfl, _, hr3, ?_, ?_⟩
          · rw [hrl]; simp [-getElem?_pos]; omega
          · rw [List.take_append_of_le_length (by simp [-getElem?_pos]; omega), List.take_take, Nat.min_self]; exact hct
      · have hnext : dedA (l.take (i + 1 + 1)) = l.take (i + 1 + 1) := by
          rw [dedA_take hx]
          unfold dedS
          rw [dedA_last hy, if_neg (fun e => hxy (Option.some.inj e).symm), hde, List.take_add_one (i := i + 1), hx]
          rfl
        repeat (first | apply Wp.seq | apply Wp.blk | apply Wp.ret | apply Wp.skip | apply Wp.exit | apply Wp.cT rfl | apply Wp.cF rfl | ((apply Wp.reg; (repeat (apply Ex.cons; (simp (disch := omega) [-getElem?_pos, hil, hil', hwi, hwi2, hrow, hcx, hcy, hl1, hl2, hxy]; rfl))); exact Ex.nil; rfl; (simp [-getElem?_pos]; rfl))) | ((apply Wp.draw; (repeat (first | ((first | apply Dr.q rfl rfl | apply Dr.r rfl rfl); (simp (disch := omega) [-getElem?_pos, hil, hil', hwi, hwi2, hrow, hcx, hcy, hl1, hl2, hxy]; rfl); (simp [-getElem?_pos]; rfl)) | (apply Dr.imm rfl; (simp (disch := omega) [-getElem?_pos, hil, hil', hwi, hwi2, hrow, hcx, hcy, hl1, hl2, hxy]; rfl); (focus first | (simp [-getElem?_pos]; done) | (simp [-getElem?_pos]; omega))))); exact Dr.nil; rfl; (first | (focus (simp (disch := omega) [-getElem?_pos, hil, hil', hwi, hwi2, hrow, hcx, hcy, hl1, hl2, hxy]; done)) | rfl); (simp [-getElem?_pos]; rfl))))
        exact ⟨i + 1, rfl, ⟨by omega, hnext⟩, by omega, by simp [-getElem?_pos]⟩
    · have he : dedA l = l := by
        have : l.take (i + 1) = l := List.take_of_length_le (by omega)
        rw [this] at hde; exact hde
      have := same he
      have hil' : ¬ (i : Int) + 1 < l.length := by omega
      repeat (first | apply Wp.seq | apply Wp.blk | apply Wp.ret | apply Wp.skip | apply Wp.exit | apply Wp.cT rfl | apply Wp.cF rfl | ((apply Wp.reg; (repeat (apply Ex.cons; (simp (disch := omega) [-getElem?_pos, hil, hil']; rfl))); exact Ex.nil; rfl; (simp [-getElem?_pos]; rfl))))
      simp [-getElem?_pos, p70]
      rw [he] at this ⊢
      exact ⟨rfl, _, this⟩
end Go.Proofs.YtipmhhogebnpkaaGreatDoor
namespace Go.Proofs.YtipmhhogebnpkaaGreatDoor
open Go Go.Vm
set_option linter.unusedVariables false
set_option linter.unusedSimpArgs false
variable {kn : Known} {env : Nat → Option AFunc}
variable {l : List Int}
theorem mem_dedS (acc : List Int) (x y : Int) : y ∈ dedS acc x ↔ y ∈ acc ∨ y = x := by
  unfold dedS
  split
  · rename_i h
    have := List.mem_of_getLast? h
    constructor
    · exact .inl
    · rintro (h1 | rfl) <;> assumption
  · simp [-getElem?_pos]
theorem mem_dedT (y : Int) (p : Nat) : y ∈ dedA (l.take p) ↔ y ∈ l.take p := by
  induction p with
  | zero => simp [-getElem?_pos, dedA]
  | succ p ih =>
    cases hx : l[p]? with
    | none =>
      have : l.take (p + 1) = l.take p := by rw [List.take_add_one, hx]; simp [-getElem?_pos]
      rw [this]; exact ih
    | some x =>
      rw [dedA_take hx, mem_dedS, ih, List.take_add_one, hx]
      simp [-getElem?_pos]
theorem mem_dedA (l : List Int) (y : Int) : y ∈ dedA l ↔ y ∈ l := by
  have := mem_dedT (l := l) y l.length
  rwa [List.take_length] at this
theorem last_max {acc : List Int} {y : Int} (h : acc.Pairwise (· < ·)) (hl : acc.getLast? = some y) : ∀ e ∈ acc, e ≤ y := by
  obtain ⟨ys, rfl⟩ := List.getLast?_eq_some_iff.1 hl
  intro e he
  rcases List.mem_append.1 he with h1 | h1
  · have := (List.pairwise_append.1 h).2.2 e h1 y (by simp [-getElem?_pos])
    omega
  · simp [-getElem?_pos] at h1; omega
theorem dedT_lt (hs : l.Pairwise (· ≤ ·)) (p : Nat) : (dedA (l.take p)).Pairwise (· < ·) := by
  induction p with
  | zero => simp [-getElem?_pos, dedA]
  | succ p ih =>
    cases hx : l[p]? with
    | none =>
      have : l.take (p + 1) = l.take p := by rw [List.take_add_one, hx]; simp [-getElem?_pos]
      rw [this]; exact ih
    | some x =>
      rw [dedA_take hx]
      unfold dedS
      split
      · exact ih
      · rename_i hne
        rw [List.pairwise_append]
        refine ⟨ih, by simp [-getElem?_pos], fun a ha b hb => ?_⟩
        simp [-getElem?_pos] at hb; subst hb
        have hle : ∀ e ∈ dedA (l.take p), e ≤ b := fun e he => by
          rw [mem_dedT] at he
          obtain ⟨i, hi⟩ := List.mem_iff_getElem?.1 he
          rw [List.getElem?_take] at hi
          split at hi
          · rename_i hip
            obtain ⟨h1, h2⟩ := List.getElem?_eq_some_iff.1 hi
            obtain ⟨h3, h4⟩ := List.getElem?_eq_some_iff.1 hx
            have := (List.pairwise_iff_getElem.1 hs) i p h1 h3 hip
            rw [h2, h4] at this; exact this
          · cases hi
        cases hl : (dedA (l.take p)).getLast? with
        | none =>
          rw [List.getLast?_eq_none_iff] at hl
          rw [hl] at ha; simp [-getElem?_pos] at ha
        | some y =>
          have h1 := last_max ih hl a ha
          have h2 := hle y (List.mem_of_getLast? hl)
          rw [hl] at hne
          have : y ≠ b := fun e => hne (by rw [e])
          omega
theorem dedA_lt (hs : l.Pairwise (· ≤ ·)) : (dedA l).Pairwise (· < ·) := by
  have := dedT_lt hs l.length
  rwa [List.take_length] at this
theorem strict_ext : ∀ {a b : List Int}, a.Pairwise (· < ·) → b.Pairwise (· < ·) → (∀ x, x ∈ a ↔ x ∈ b) → a = b
  | [], [], _, _, _ => rfl
  | [], y :: b, _, _, h => by have := (h y).2 (by simp [-getElem?_pos]); simp [-getElem?_pos] at this
  | x :: a, [], _, _, h => by have := (h x).1 (by simp [-getElem?_pos]); simp [-getElem?_pos] at this
  | x :: a, y :: b, ha, hb, h => by
    have ha' := List.pairwise_cons.1 ha
    have hb' := List.pairwise_cons.1 hb
    have hxy : x = y := by
      have h1 := (h x).1 (by simp [-getElem?_pos])
      have h2 := (h y).2 (by simp [-getElem?_pos])
      rcases List.mem_cons.1 h1 with h1 | h1
      · exact h1
      · rcases List.mem_cons.1 h2 with h2 | h2
        · exact h2.symm
        · have := ha'.1 y h2
          have := hb'.1 x h1
          omega
    subst hxy
    rw [strict_ext ha'.2 hb'.2 fun z => ?_]
    constructor
    · intro hz
      have h1 := (h z).1 (List.mem_cons_of_mem _ hz)
      have := ha'.1 z hz
      rcases List.mem_cons.1 h1 with h1 | h1
      · omega
      · exact h1
    · intro hz
      have h1 := (h z).2 (List.mem_cons_of_mem _ hz)
      have := hb'.1 z hz
      rcases List.mem_cons.1 h1 with h1 | h1
      · omega
      · exact h1
theorem count_range {u set : List Int} {b : Nat} (hu : u.Pairwise (· < ·)) (hm : ∀ x, x ∈ u ↔ x ∈ set) (hr : ∀ x ∈ set, 0 ≤ x ∧ x < b) : (List.range b).filter (fun i : Nat => decide ((i : Int) ∈ set)) = u.map Int.toNat := by
  have hw : ((List.range b).filter (fun i : Nat => decide ((i : Int) ∈ set))).map Int.ofNat = u := by
    refine strict_ext ?_ hu fun x => ?_
    · rw [List.pairwise_map]
      exact (List.Pairwise.filter _ List.pairwise_lt_range).imp fun h => by simp [-getElem?_pos]; exact h
    · rw [hm]
      constructor
      · intro h
        obtain ⟨i, hi, rfl⟩ := List.mem_map.1 h
        have := (List.mem_filter.1 hi).2
        simpa [-getElem?_pos] using this
      · intro h
        have := hr x h
        refine List.mem_map.2 ⟨x.toNat, List.mem_filter.2 ⟨by simp [-getElem?_pos]; omega, ?_⟩, by simp [-getElem?_pos]; omega⟩
        have e : ((x.toNat : Nat) : Int) = x := by omega
        rw [e]; simpa [-getElem?_pos] using h
  rw [← hw, List.map_map]
  have : Int.toNat ∘ Int.ofNat = id := by funext i; simp [-getElem?_pos]
  rw [this, List.map_id]
end Go.Proofs.YtipmhhogebnpkaaGreatDoor
