/- Numbers in parts of 2^16: their value; plain. -/
import Derived.Test.YtipmhhogebnpkaaGreatDoorJ25
import Derived.Test.YtipmhhogebnpkaaGreatDoorJ23
namespace Go.Proofs.YtipmhhogebnpkaaGreatDoor
open Go Go.Vm
set_option linter.unusedVariables false
set_option linter.unusedSimpArgs false

variable {kn : Known} {env : Nat → Option AFunc}

def val : List Nat → Nat
  | [] => 0
  | d :: l => d + 65536 * val l

theorem val_append : ∀ (a b : List Nat), val (a ++ b) = val a + 65536 ^ a.length * val b
  | [], b => by simp [-getElem?_pos, val]
  | d :: a, b => by
    simp only [List.cons_append, val, val_append a b, List.length_cons, Nat.pow_succ]
    generalize 65536 ^ a.length = P
    grind

theorem val_drop {l : List Nat} {i d : Nat} (h : l[i]? = some d) : val (l.drop i) = d + 65536 * val (l.drop (i + 1)) := by
  obtain ⟨hi, rfl⟩ := List.getElem?_eq_some_iff.1 h
  rw [List.drop_eq_getElem_cons hi]; rfl

theorem val_set : ∀ {l : List Nat} {i d : Nat} (x : Nat), l[i]? = some d → val (l.set i x) + 65536 ^ i * d = val l + 65536 ^ i * x
  | [], i, d, x, h => by simp [-getElem?_pos] at h
  | e :: l, 0, d, x, h => by simp [-getElem?_pos] at h; subst h; simp [-getElem?_pos, val]; omega
  | e :: l, i + 1, d, x, h => by
    have ih := val_set x (l := l) (i := i) (d := d) (by simpa [-getElem?_pos] using h)
    simp only [List.set_cons_succ, val, Nat.pow_succ]
    generalize 65536 ^ i = P at *
    grind

theorem val_lt : ∀ {l : List Nat}, (∀ d ∈ l, d < 65536) → val l < 65536 ^ l.length
  | [], _ => by simp [-getElem?_pos, val]
  | d :: l, h => by
    have h1 := val_lt fun x hx => h x (List.mem_cons_of_mem _ hx)
    have h2 := h d (List.mem_cons_self ..)
    simp only [val, List.length_cons, Nat.pow_succ]; omega

theorem val_zeros : ∀ (n : Nat), val (List.replicate n 0) = 0
  | 0 => rfl
  | n + 1 => by simp only [List.replicate_succ, val, val_zeros n]

theorem val_take {l : List Nat} {i d : Nat} (h : l[i]? = some d) : val (l.take (i + 1)) = val (l.take i) + 65536 ^ i * d := by
  have hi := (List.getElem?_eq_some_iff.1 h).1
  rw [List.take_add_one, h, val_append]; simp [-getElem?_pos, val, Nat.min_eq_left (Nat.le_of_lt hi)]

theorem pow_pos' (i : Nat) : 0 < 65536 ^ i := Nat.pow_pos (by omega)

/-! ### Steps -/

theorem carry_step {l out : List Nat} {i c d V : Nat} (ho : out.length = i) (hV : val out + 65536 ^ i * (c + val (l.drop i)) = V) (hd : val (l.drop i) = d + 65536 * val (l.drop (i + 1))) :
    val (out ++ [(c + d) % 65536]) + 65536 ^ (i + 1) * ((c + d) / 65536 + val (l.drop (i + 1))) = V := by
  rw [val_append, ho, ← hV, hd]
  generalize val (l.drop (i+1)) = w
  have hx : c + (d + 65536 * w) = (c + d) % 65536 + 65536 * ((c + d) / 65536 + w) := by omega
  rw [hx]
  simp only [val, Nat.pow_succ]
  generalize (c + d) % 65536 = p
  generalize (c + d) / 65536 + w = q
  generalize 65536 ^ i = P
  grind

/-- How many parts a carry still makes. -/
def kk (c : Nat) : Nat := if c = 0 then 0 else if c < 65536 then 1 else if c < 4294967296 then 2 else 3
theorem kk_le (c : Nat) : kk c ≤ 3 := by unfold kk; split <;> (try split) <;> (try split) <;> omega
theorem kk_div {c : Nat} (h : 0 < c) (h2 : c < 281474976710656) : kk (c / 65536) + 1 ≤ kk c := by
  unfold kk; (repeat' split) <;> omega

theorem plus_step {b out : List Nat} {i x y V : Nat} (hV : val out + 65536 ^ i * val (b.drop i) = V) (hx : out[i]? = some x) (hy : b[i]? = some y) :
    val (out.set i (x + y)) + 65536 ^ (i + 1) * val (b.drop (i + 1)) = V := by
  have h1 := val_set (x + y) hx
  rw [val_drop hy] at hV
  simp only [Nat.pow_succ]
  generalize val (b.drop (i + 1)) = w at *
  generalize 65536 ^ i = P at *
  grind
theorem plus_step2 {b out : List Nat} {i y V : Nat} (hV : val out + 65536 ^ i * val (b.drop i) = V) (hx : out.length = i) (hy : b[i]? = some y) :
    val (out ++ [y]) + 65536 ^ (i + 1) * val (b.drop (i + 1)) = V := by
  rw [val_drop hy] at hV
  rw [val_append, hx]
  simp only [Nat.pow_succ, val]
  generalize val (b.drop (i + 1)) = w at *
  generalize 65536 ^ i = P at *
  grind

theorem row_step {b r : List Nat} {i k x y V : Nat} (hV : val r + 65536 ^ (i + k) * (x * val (b.drop k)) = V) (hr : r[i + k]? = some 0) (hy : b[k]? = some y) :
    val (r.set (i + k) (x * y)) + 65536 ^ (i + (k + 1)) * (x * val (b.drop (k + 1))) = V := by
  have h1 := val_set (x * y) hr
  rw [val_drop hy] at hV
  rw [← Nat.add_assoc, Nat.pow_succ]
  generalize val (b.drop (k + 1)) = w at *
  generalize 65536 ^ (i + k) = P at *
  grind

theorem times_step {a : List Nat} {i x v w V B : Nat} (hV : v + 65536 ^ i * val (a.drop i) * B = V) (hx : a[i]? = some x) (hw : w = v + 65536 ^ i * (x * B)) :
    w + 65536 ^ (i + 1) * val (a.drop (i + 1)) * B = V := by
  rw [val_drop hx] at hV
  subst hw
  rw [Nat.pow_succ]
  generalize val (a.drop (i + 1)) = w at *
  generalize 65536 ^ i = P at *
  grind

theorem small_step {l : List Nat} {i n d V : Nat} (hV : n * 65536 ^ (i + 1) + val (l.take (i + 1)) = V) (hd : l[i]? = some d) : (65536 * n + d) * 65536 ^ i + val (l.take i) = V := by
  rw [val_take hd] at hV
  rw [Nat.pow_succ] at hV
  generalize val (l.take i) = w at *
  generalize 65536 ^ i = P at *
  grind
theorem small_over {l : List Nat} {i n V : Nat} (hV : n * 65536 ^ (i + 1) + val (l.take (i + 1)) = V) (hn : 140737488355327 < n) : 9223372036854775808 ≤ V := by
  have h1 : 65536 ≤ 65536 ^ (i + 1) := by rw [Nat.pow_succ]; have := pow_pos' i; omega
  have h2 : 140737488355328 * 65536 ≤ n * 65536 ^ (i + 1) := Nat.mul_le_mul hn h1
  omega

theorem minus_step {out : List Nat} {i V : Nat} (hV : val out + 1 = V + 65536 ^ i) (ho : out[i]? = some 0) : val (out.set i 65535) + 1 = V + 65536 ^ (i + 1) := by
  have h1 := val_set 65535 ho
  rw [Nat.pow_succ]
  generalize 65536 ^ i = P at *
  omega
theorem minus_end {out : List Nat} {i d V : Nat} (hV : val out + 1 = V + 65536 ^ i) (ho : out[i]? = some d) (hd : 0 < d) : val (out.set i (d - 1)) + 1 = V := by
  obtain ⟨e, rfl⟩ : ∃ e, d = e + 1 := ⟨d - 1, by omega⟩
  have h1 := val_set e ho
  rw [Nat.add_sub_cancel]
  generalize 65536 ^ i = P at *
  grind
theorem minus_over {out : List Nat} {V : Nat} (hV : val out + 1 = V + 65536 ^ out.length) (hd : ∀ d ∈ out, d < 65536) : V = 0 := by
  have := val_lt hd
  omega

end Go.Proofs.YtipmhhogebnpkaaGreatDoor
namespace Go.Vm
open Go

set_option linter.unusedVariables false
set_option linter.unusedSimpArgs false

/-! ### Setting what is there -/

/-! ### Elements -/

theorem spl_len {α : Type} {l v : List α} {off : Nat} (h : off + v.length ≤ l.length) : (spl l off v).length = l.length := by
  simp only [spl, List.length_append, List.length_take, List.length_drop]; omega

theorem spl_mid {α : Type} {a e b v : List α} {f : Nat} (h : f + v.length ≤ e.length) : spl (a ++ (e ++ b)) (a.length + f) v = a ++ (spl e f v ++ b) := by
  simp only [spl]
  rw [List.take_append, List.take_of_length_le (by omega), Nat.add_sub_cancel_left, List.take_append_of_le_length (by omega), Nat.add_assoc, List.drop_append, List.drop_eq_nil_of_le (by omega), Nat.add_sub_cancel_left, List.nil_append, List.drop_append_of_le_length h]
  simp only [List.append_assoc]

theorem flatten_part {α : Type} {n : Nat} {es : List (List α)} (he : ∀ e ∈ es, e.length = n) {i f : Nat} {e v : List α} (hi : es[i]? = some e) (h : f + v.length ≤ n) : spl es.flatten (i * n + f) v = (es.set i (spl e f v)).flatten := by
  obtain ⟨hlt, hei⟩ := List.getElem?_eq_some_iff.1 hi
  have hd : es = es.take i ++ (e :: es.drop (i + 1)) := by rw [← hei, List.getElem_cons_drop, List.take_append_drop]
  have hl : (es.take i).flatten.length = i * n := by rw [flatten_len (n := n) fun x hx => he x (List.mem_of_mem_take hx), List.length_take, Nat.min_eq_left (by omega)]
  have hel := he e (List.mem_of_getElem? hi)
  have h1 : es.flatten = (es.take i).flatten ++ (e ++ (es.drop (i + 1)).flatten) := by
    conv => lhs; rw [hd]
    simp
  rw [h1, ← hl, spl_mid (by omega), List.set_eq_take_append_cons_drop, if_pos hlt]
  simp

theorem mem_set {α : Type} {es : List α} {i : Nat} {v e : α} (h : e ∈ es.set i v) : e ∈ es ∨ e = v := List.mem_or_eq_of_mem_set h

/-- Cells of an element, stored. -/
theorem SliceE.store {H : AHeap} {base esz : Nat} {v : AVal} {es : List (List AVal)} (h : SliceE H base esz v es) {i f : Nat} {e vals : List AVal} (hi : es[i]? = some e) (h0 : 0 < vals.length) (hf : f + vals.length ≤ esz) (hone : vals.all AVal.one = true) :
    ∃ R ver H', v = .slice R ver 0 es.length es.length false esz ∧ base ≤ R ∧ R < H.next ∧ H.write R ver (i * esz + f) vals = some H' ∧ SliceE H' base esz v (es.set i (spl e f vals)) ∧ H'.next = H.next ∧ ∀ A, A ≠ R → H'.get A = H.get A := by
  obtain ⟨hlt, hei⟩ := List.getElem?_eq_some_iff.1 hi
  rcases h with ⟨hes, ⟨rfl, rfl⟩ | ⟨R, ver, vs, h1, h2, rfl, h4, h5⟩⟩
  · simp at hi
  · have hfl := flatten_len hes
    have hm : (i + 1) * esz ≤ es.length * esz := Nat.mul_le_mul_right _ hlt
    rw [Nat.succ_mul] at hm
    obtain ⟨H', hw, hr⟩ := RowW.write (H0 := H) (nv := vs.length) ⟨⟨vs, h4, rfl, h5⟩, rfl, fun _ _ => rfl⟩ (off := i * esz + f) (vals := vals) h0 (by omega) hone
    obtain ⟨vs', q1, q2, q3⟩ := hr.row
    refine ⟨R, ver, H', rfl, h1, h2, hw, ⟨fun x hx => ?_, .inr ⟨R, ver, vs', h1, by rw [hr.next]; exact h2, by rw [List.length_set], q1, ?_⟩⟩, hr.next, hr.other⟩
    · rcases mem_set hx with h | rfl
      · exact hes x h
      · rw [spl_len (by rw [hes e (List.mem_of_getElem? hi)]; exact hf)]; exact hes e (List.mem_of_getElem? hi)
    · rw [q3, ← flatten_part hes hi hf]; rfl

/-- Cells of an element, read. -/
theorem SliceE.load {H : AHeap} {base esz : Nat} {v : AVal} {es : List (List AVal)} (h : SliceE H base esz v es) {i : Nat} {e : List AVal} (hi : es[i]? = some e) :
    ∃ R ver cells, v = .slice R ver 0 es.length es.length false esz ∧ base ≤ R ∧ R < H.next ∧ H.rowAt R ver = some cells ∧ i * esz + esz ≤ cells.length ∧ (∀ f, f < esz → cells[i * esz + f]? = e[f]?) ∧ (cells.drop (i * esz)).take esz = e := by
  obtain ⟨hlt, hei⟩ := List.getElem?_eq_some_iff.1 hi
  obtain ⟨R, ver, off, kcap, ex, cells, h1, h2, h3, h4⟩ := h.rd.at hi
  rcases h with ⟨hes, ⟨rfl, rfl⟩ | ⟨R', ver', vs, g1, g2, rfl, g4, g5⟩⟩
  · simp at hi
  · cases h1
    rw [Nat.zero_add] at h3 h4
    exact ⟨_, _, cells, rfl, g1, g2, h2, h3, fun f hf => part_at h4 hf, h4⟩

theorem RdE.beq {H : AHeap} {esz : Nat} {v : AVal} {es : List (List AVal)} (h : RdE H esz v es) : AVal.beq v v = true := by
  rcases h with ⟨_, ⟨rfl, _⟩ | ⟨R, ver, off, kc, ex, cells, rfl, _⟩⟩ <;> simp

theorem SliceE.beq {H : AHeap} {base esz : Nat} {v : AVal} {es : List (List AVal)} (h : SliceE H base esz v es) : AVal.beq v v = true := by
  rcases h with ⟨_, ⟨rfl, _⟩ | ⟨R, ver, vs, _, _, rfl, _⟩⟩ <;> simp

end Go.Vm
namespace Go.Proofs.YtipmhhogebnpkaaGreatDoor
open Go Go.Vm
set_option linter.unusedVariables false
set_option linter.unusedSimpArgs false

variable {kn : Known} {env : Nat → Option AFunc}

variable {H H' : AHeap} {v : AVal} {l : List Nat} {kx : Known}

abbrev bigC (l : List Nat) : List (List AVal) := l.map fun d => [u64 d]

theorem bigC_len (l : List Nat) : (bigC l).length = l.length := List.length_map ..
theorem bigC_at {i d : Nat} (h : l[i]? = some d) : (bigC l)[i]? = some [u64 d] := by rw [List.getElem?_map, h]; rfl
theorem bigC_app (l : List Nat) (d : Nat) : bigC l ++ [[u64 d]] = bigC (l ++ [d]) := by simp [-getElem?_pos]
theorem bigC_set (l : List Nat) (i d : Nat) : (bigC l).set i [u64 d] = bigC (l.set i d) := by simp [-getElem?_pos, List.map_set]
theorem bigC_one (l : List Nat) : ∀ e ∈ bigC l, e.all AVal.one = true := fun e he => by
  obtain ⟨d, _, rfl⟩ := List.mem_map.1 he
  rfl

/-- A number in memory. -/
structure Big (H : AHeap) (v : AVal) (l : List Nat) : Prop where
  rd : RdE H 1 v (bigC l)
  lies : v.lies (· < H.next)

theorem Big.grow (h : Big H v l) (hg : Grow H H') : Big H' v l := ⟨h.rd.grow hg h.lies, fun R ver off len kcap ex esz e => Nat.lt_of_lt_of_le (h.lies R ver off len kcap ex esz e) hg.next⟩
theorem Big.lenS (h : Big H v l) : aLenS v = some (vi l.length) := by have := h.rd.lenS; rwa [bigC_len] at this
theorem Big.at (h : Big H v l) {i d : Nat} (hi : l[i]? = some d) : ∃ R ver off kc ex cells, v = .slice R ver off l.length kc ex 1 ∧ R < H.next ∧ H.rowAt R ver = some cells ∧ off + i + 1 ≤ cells.length ∧ cells[off + i]? = some (u64 d) := by
  obtain ⟨R, ver, off, kc, ex, cells, e1, e2, e3, e4⟩ := h.rd.at (bigC_at hi)
  rw [bigC_len] at e1
  rw [Nat.mul_one] at e3 e4
  refine ⟨R, ver, off, kc, ex, cells, e1, h.lies R ver off _ kc ex 1 e1, e2, e3, ?_⟩
  have := part_at (j := 0) e4 (by omega)
  exact this
theorem big_of {base : Nat} (h : SliceE H base 1 v (bigC l)) : Big H v l := ⟨h.rd, fun R ver off len kcap ex esz e => (h.lies R ver off len kcap ex esz e).2⟩

/-- Parts below 2^16. -/
abbrev Dig (l : List Nat) : Prop := ∀ d ∈ l, d < 65536

/-- One part more. -/
theorem big_push {H2 : AHeap} {vo : AVal} {o : List Nat} {base : Nat} (hg : Grow H H2) (hb : H.next = base) (hs : SliceE H2 base 1 vo (bigC o)) (hl : o.length < 2000000) (x : Nat) :
    ∃ va Ha, aAppend (H2.push (.row [some (0, [u64 x])])) 1 8 vo (.slice H2.next 0 0 1 1 true 1) = some (va, Ha) ∧ SliceE Ha base 1 va (bigC (o ++ [x])) ∧ Grow H Ha := by
  subst hb
  obtain ⟨va, Ha, ha, hsa, hna, hka, _⟩ := (hs.move (Nat.le_refl _) (Nat.le_succ _) (H' := H2.push (.row [some (0, [u64 x])])) fun A _ hA => AHeap.get_push_ne _ _ (by omega)).append (bytes := 8) (by have := hg.next; simp [-getElem?_pos]; omega) (X := H2.next) (e := [u64 x]) (by simp [-getElem?_pos]) rfl (by omega) (by omega) rfl (by rw [bigC_len]; omega) (ex := true) (kc := 1)
  rw [bigC_app] at hsa
  exact ⟨va, Ha, ha, hsa, by have := hg.next; simp [-getElem?_pos] at hna; omega, fun A hA => by have := hg.next; rw [hka A hA, AHeap.get_push_ne _ _ (by omega), hg.get A hA]⟩

theorem dig_push {o : List Nat} {x : Nat} (h : Dig o) (hx : x < 65536) : Dig (o ++ [x]) := fun d hd => by
  rcases List.mem_append.1 hd with h1 | h1
  · exact h d h1
  · simp [-getElem?_pos] at h1; subst h1; exact hx

/-- A part, read and written. -/
theorem sl_cell {H0 H2 : AHeap} {vo : AVal} {o : List Nat} {base i x : Nat} (hg : Grow H0 H2) (hb : H0.next = base) (hs : SliceE H2 base 1 vo (bigC o)) (hx : o[i]? = some x) :
    ∃ R ver cells, vo = .slice R ver 0 o.length o.length false 1 ∧ base ≤ R ∧ R < H2.next ∧ H2.rowAt R ver = some cells ∧ i + 1 ≤ cells.length ∧ cells[i]? = some (u64 x) ∧ ∀ y, ∃ H', H2.write R ver i [u64 y] = some H' ∧ SliceE H' base 1 vo (bigC (o.set i y)) ∧ Grow H0 H' ∧ H'.next = H2.next := by
  obtain ⟨R, ver, cells, e1, e2, e3, e4, e5, e6, _⟩ := hs.load (bigC_at hx)
  rw [bigC_len] at e1
  rw [Nat.mul_one] at e5 e6
  refine ⟨R, ver, cells, e1, e2, e3, e4, e5, e6 0 (by omega), fun y => ?_⟩
  obtain ⟨R', ver', H', f1, f2, f3, f4, f5, f6, f7⟩ := hs.store (i := i) (f := 0) (vals := [u64 y]) (bigC_at hx) (by simp [-getElem?_pos]) (by simp [-getElem?_pos]) rfl
  rw [e1, bigC_len] at f1
  cases f1
  rw [Nat.mul_one] at f4
  refine ⟨H', f4, ?_, ⟨by rw [f6]; exact hg.next, fun A hA => by rw [f7 A (by omega), hg.get A hA]⟩, f6⟩
  have e : spl [u64 x] 0 [u64 y] = [u64 y] := rfl
  rw [e, bigC_set] at f5
  exact f5

theorem repl_zero : ∀ n, repl n [u64 0] = (List.replicate n 0).map u64
  | 0 => rfl
  | n + 1 => by rw [repl, repl_zero n]; rfl

theorem bigC_flat : ∀ r : List Nat, (bigC r).flatten = r.map u64
  | [] => rfl
  | d :: r => by
    show [u64 d] ++ (bigC r).flatten = _
    rw [bigC_flat r]; rfl

/-- A row that is written, as a number. -/
theorem row_big {H0 H : AHeap} {R : Nat} {r : List Nat} (h : RowW H0 R 0 1 (r.map u64) H) (hR : R < H0.next) {n : Nat} (hn : r.length = n) : Big H (.slice R 0 0 n n true 1) r := by
  subst hn
  have hfl : (bigC r).flatten = r.map u64 := bigC_flat r
  refine ⟨⟨fun e he => ?_, .inr ⟨R, 0, 0, r.length, true, r.map u64, by rw [bigC_len], h.at, by rw [bigC_len]; exact Nat.le_refl _, by rw [bigC_len]; simp [-getElem?_pos], ?_⟩⟩, fun R' ver off len kcap ex esz e => ?_⟩
  · obtain ⟨d, _, rfl⟩ := List.mem_map.1 he
    rfl
  · rw [hfl, bigC_len, List.drop_zero, Nat.mul_one, List.take_of_length_le (by simp [-getElem?_pos])]
  · cases e
    rw [h.next]; exact hR

/-- Its parts, read and written. -/
theorem row_cell {H0 H : AHeap} {R : Nat} {r : List Nat} (h : RowW H0 R 0 1 (r.map u64) H) {i : Nat} (hi : i < r.length) (y : Nat) : ∃ H', H.write R 0 i [u64 y] = some H' ∧ RowW H0 R 0 1 ((r.set i y).map u64) H' ∧ H'.next = H.next := by
  obtain ⟨H', h1, h2⟩ := h.write (off := i) (vals := [u64 y]) (by simp [-getElem?_pos]) (by simp [-getElem?_pos]; omega) rfl
  rw [set_spl (by simpa [-getElem?_pos] using hi), ← List.map_set] at h2
  exact ⟨H', h1, h2, by rw [h2.next, h.next]⟩

theorem big_make (H : AHeap) (n : Nat) : RowW (H.push (.row [some (0, (List.replicate n 0).map u64)])) H.next 0 1 ((List.replicate n 0).map u64) (H.push (.row [some (0, (List.replicate n 0).map u64)])) := ⟨⟨_, AHeap.get_push_same _ _, rfl, rfl⟩, rfl, fun _ _ => rfl⟩

/-- A number, copied to a new list. -/
theorem big_copy {H : AHeap} {v : AVal} {l : List Nat} (h : Big H v l) (h0 : l ≠ []) (hl : l.length < 2000000) :
    ∃ vo H', aAppend (H.push (.row [some (0, [])])) 1 8 (.slice H.next 0 0 0 0 true 1) v = some (vo, H') ∧ SliceE H' H.next 1 vo (bigC l) ∧ Grow H H' := by
  have h1 := (h.grow (Grow.push H (.row [some (0, [])]))).rd
  obtain ⟨e1, e2⟩ := h1.appendNew (bytes := 8) (X := H.next) (by simpa [-getElem?_pos] using h0) (by omega) (by omega) (bigC_one l) (by rw [bigC_len]; omega) (by simp [-getElem?_pos])
  refine ⟨_, _, e1, e2.move (by simp [-getElem?_pos]) (Nat.le_refl _) fun _ _ _ => rfl, (Grow.push _ _).trans (Grow.push _ _)⟩

end Go.Proofs.YtipmhhogebnpkaaGreatDoor
namespace Go.Proofs.YtipmhhogebnpkaaGreatDoor
open Go Go.Vm
set_option linter.unusedVariables false
set_option linter.unusedSimpArgs false

variable {kn : Known} {env : Nat → Option AFunc}

variable {H H' : AHeap} {v : AVal} {l : List Nat} {kx : Known}

theorem wrapC {a : Int} (h0 : 0 ≤ a) (h : a < 9223372036854775808) : wrapF .u64 a = a := by simp only [wrapF]; omega
theorem wrapD {a : Nat} (h0 : 1 ≤ a) (h : a < 18446744073709551616) : wrapF .u64 ((a : Int) - 1) = ((a - 1 : Nat) : Int) := by simp only [wrapF]; omega
theorem wrapI {a : Nat} (h : a < 9223372036854775808) : wrapF .i64 (a : Int) = (a : Int) := wrap_small (by omega) (by omega)
theorem remU (a : Nat) : (a : Int).tmod 65536 = ((a % 65536 : Nat) : Int) := rfl
theorem quoU (a : Nat) : (a : Int).tdiv 65536 = ((a / 65536 : Nat) : Int) := rfl

theorem c22 (h : FnX kx kn env 22 a22) (n : Nat) {x : Nat} (hx : x < 9223372036854775808) :
    ∃ v' H' l', callX kx kn env (n + 1) (.func (.func 22) []) [vi x] H = some (v', H') ∧ Grow H H' ∧ Big H' v' l' ∧ Dig l' ∧ val l' = x ∧ l'.length = 4 := by
  have wc : wrapF .u64 (x : Int) = (x : Int) := by simp only [wrapF]; omega
  have q1 := quoU x
  have q2 := quoU (x / 65536)
  have q3 := quoU (x / 65536 / 65536)
  have w1 := wrapU (a := x) (by omega)
  have w2 := wrapU (a := x / 65536) (by omega)
  have w3 := wrapU (a := x / 65536 / 65536) (by omega)
  have w4 := wrapU (a := x / 65536 / 65536 / 65536) (by omega)
  have r1 := remU x
  have r2 := remU (x / 65536)
  have r3 := remU (x / 65536 / 65536)
  have hv : val [x % 65536, x / 65536 % 65536, x / 65536 / 65536 % 65536, x / 65536 / 65536 / 65536] = x := by simp only [val]; omega
  have hd : Dig [x % 65536, x / 65536 % 65536, x / 65536 / 65536 % 65536, x / 65536 / 65536 / 65536] := by
    intro d hd
    simp [-getElem?_pos] at hd
    omega
  generalize x / 65536 / 65536 / 65536 = x4 at *
  generalize x / 65536 / 65536 % 65536 = y3 at *
  generalize x / 65536 / 65536 = x3 at *
  generalize x / 65536 % 65536 = y2 at *
  generalize x / 65536 = x2 at *
  generalize x % 65536 = y1 at *
  refine ⟨.slice H.next 0 0 4 4 true 1, H.push (.row [some (0, [u64 y1, u64 y2, u64 y3, u64 x4])]), [y1, y2, y3, x4], Wp.callX1 20 [0, 2, 3] h rfl (by simp [-getElem?_pos]) ?_, Grow.push _ _, ⟨⟨?_, .inr ⟨H.next, 0, 0, 4, true, [u64 y1, u64 y2, u64 y3, u64 x4], rfl, by simp [-getElem?_pos], by simp [-getElem?_pos], by simp [-getElem?_pos], by simp [-getElem?_pos]⟩⟩, ?_⟩, hd, hv, rfl⟩
  · repeat (first | apply Wp.seq | apply Wp.blk | apply Wp.ret | apply Wp.skip | apply Wp.exit | apply Wp.cT rfl | apply Wp.cF rfl | ((apply Wp.reg; (repeat (apply Ex.cons; (simp (disch := omega) [-getElem?_pos, wc, w1, w2, w3, w4, q1, q2, q3, r1, r2, r3, repl]; rfl))); exact Ex.nil; rfl; (simp [-getElem?_pos]; rfl))))
    simp [-getElem?_pos, a22]
  · intro e he
    obtain ⟨d, _, rfl⟩ := List.mem_map.1 he
    rfl
  · intro R ver off len kcap ex esz e
    cases e
    simp [-getElem?_pos]

set_option maxHeartbeats 1000000 in
theorem c36 (h : FnX kx kn env 36 a36) (n : Nat) (hb : Big H v l) (hd : ∀ d ∈ l, d < 8589934592) (hl : l.length < 1000000) (hn : 10000000 < n) :
    ∃ v' H' l', callX kx kn env (n + 1) (.func (.func 36) []) [v] H = some (v', H') ∧ Grow H H' ∧ Big H' v' l' ∧ Dig l' ∧ val l' = val l ∧ l.length ≤ l'.length ∧ l'.length ≤ l.length + 3 := by
  have hlen := hb.lenS
  obtain ⟨v', H', hc, hg, l', hs, hd', hv', hle, hle2⟩ := Wp.callX (R := fun v' H' => Grow H H' ∧ ∃ l', SliceE H' H.next 1 v' (bigC l') ∧ Dig l' ∧ val l' = val l ∧ l.length ≤ l'.length ∧ l'.length ≤ l.length + 3) 34 [0, 2, 3, 4, 5, 13, 19] h rfl (by simp [-getElem?_pos]) (n := n) (args := [v]) (H := H) (by
    repeat (first | apply Wp.seq | apply Wp.blk | apply Wp.ret | apply Wp.skip | apply Wp.exit | apply Wp.cT rfl | apply Wp.cF rfl | ((apply Wp.reg; (repeat (apply Ex.cons; (simp (disch := omega) [-getElem?_pos]; rfl))); exact Ex.nil; rfl; (simp [-getElem?_pos]; rfl))))
    apply Wp.loop (α := Nat × Nat × List Nat × AVal × AHeap) (fun y => [(0, v), (3, y.2.2.2.1), (4, u64 y.2.1), (5, vi y.1)]) (·.2.2.2.2)
      (fun y => Grow H y.2.2.2.2 ∧ SliceE y.2.2.2.2 H.next 1 y.2.2.2.1 (bigC y.2.2.1) ∧ Dig y.2.2.1 ∧ y.2.2.1.length = y.1 ∧ y.2.1 < 281474976710656 ∧ y.1 + kk y.2.1 ≤ l.length + 3 ∧ val y.2.2.1 + 65536 ^ y.1 * (y.2.1 + val (l.drop y.1)) = val l)
      (fun y => 4 * (l.length - y.1) + kk y.2.1) (0, 0, [], ns, H) rfl ⟨Grow.refl _, SliceE.nil _ _ _, fun _ h => by simp [-getElem?_pos] at h, rfl, Nat.zero_lt_succ _, by have := kk_le 0; show 0 + kk 0 ≤ _; omega, by simp [-getElem?_pos, val]⟩ (by have := kk_le 0; show 4 * (l.length - 0) + kk 0 < n; omega) (by simp [-getElem?_pos])
    rintro ⟨i, c, o, vo, H2⟩ ⟨hg, hs, hd2, ho, hc, hik, hval⟩
    dsimp only at hg hs hd2 ho hc hik hval ⊢
    have hw1 : wrapF .i64 ((i : Int) + 1) = (i : Int) + 1 := wrap_small (by omega) (by omega)
    by_cases hil : i < l.length
    · obtain ⟨d, hdi⟩ : ∃ d, l[i]? = some d := ⟨_, List.getElem?_eq_getElem hil⟩
      obtain ⟨R, ver, off, kc, ex, cells, hv, hR, hrow, hb1, hcell⟩ := hb.at hdi
      have hrow2 : H2.rowAt R ver = some cells := by rw [hg.rowAt hR]; exact hrow
      have hdl := hd d (List.mem_of_getElem? hdi)
      have hval' := carry_step ho hval (val_drop hdi)
      obtain ⟨s, hs'⟩ : ∃ s, s = c + d := ⟨_, rfl⟩
      rw [← hs'] at hval'
      have w1 : wrapF .u64 ((c : Int) + (d : Int)) = (s : Int) := by rw [wrapS (a := c) (b := d) (by omega), hs']
      have q1 := quoU s
      have r1 := remU s
      obtain ⟨p, hp⟩ : ∃ p, p = s % 65536 := ⟨_, rfl⟩
      obtain ⟨q, hq⟩ : ∃ q, q = s / 65536 := ⟨_, rfl⟩
      rw [← hp] at r1 hval'
      rw [← hq] at q1 hval'
      have w2 := wrapU (a := q) (by omega)
      have w3 := wrapU (a := p) (by omega)
      obtain ⟨va, Ha, ha, hsa, hga⟩ := big_push hg rfl hs (by omega) p
      have hk := kk_le q
      have hk2 := kk_le c
      repeat (first | apply Wp.seq | apply Wp.blk | apply Wp.ret | apply Wp.skip | apply Wp.exit | apply Wp.cT rfl | apply Wp.cF rfl | ((apply Wp.reg; (repeat (apply Ex.cons; (simp (disch := omega) [-getElem?_pos, hlen, hil, hv, hrow2, hb1, hcell, w1, w2, w3, q1, r1, ha, aFill, repl, hw1]; rfl))); exact Ex.nil; rfl; (simp [-getElem?_pos]; rfl))))
      exact ⟨(i + 1, q, o ++ [p], va, Ha), rfl, ⟨hga, hsa, dig_push hd2 (by omega), by simp [-getElem?_pos, ho], by show q < _; omega, by show i + 1 + kk q ≤ _; omega, hval'⟩, by show 4 * (l.length - (i + 1)) + kk q < _; omega, by simp [-getElem?_pos, hv]⟩
    · have hnil : ∀ k, i ≤ k → l.drop k = [] := fun k hk => List.drop_of_length_le (by omega)
      by_cases hc0 : c = 0
      · subst hc0
        rw [hnil i (by omega)] at hval
        have hval : val o = val l := by simpa [-getElem?_pos, val] using hval
        repeat (first | apply Wp.seq | apply Wp.blk | apply Wp.ret | apply Wp.skip | apply Wp.exit | apply Wp.cT rfl | apply Wp.cF rfl | ((apply Wp.reg; (repeat (apply Ex.cons; (simp (disch := omega) [-getElem?_pos, hlen, hil]; rfl))); exact Ex.nil; rfl; (simp [-getElem?_pos]; rfl))))
        simp [-getElem?_pos, a36]
        exact ⟨hg, o, hs, hd2, hval, by omega, by omega⟩
      · have hval' := carry_step (d := 0) ho hval (by rw [hnil i (by omega), hnil (i + 1) (by omega)]; rfl)
        rw [Nat.add_zero] at hval'
        have hk := kk_div (c := c) (by omega) hc
        have q1 := quoU c
        have r1 := remU c
        obtain ⟨p, hp⟩ : ∃ p, p = c % 65536 := ⟨_, rfl⟩
        obtain ⟨q, hq⟩ : ∃ q, q = c / 65536 := ⟨_, rfl⟩
        rw [← hp] at r1 hval'
        rw [← hq] at q1 hval' hk
        have w2 := wrapU (a := q) (by omega)
        have w3 := wrapU (a := p) (by omega)
        obtain ⟨va, Ha, ha, hsa, hga⟩ := big_push hg rfl hs (by omega) p
        have hcp : (0 : Int) < (c : Int) := by omega
        have hcp2 : 0 < c := by omega
        repeat (first | apply Wp.seq | apply Wp.blk | apply Wp.ret | apply Wp.skip | apply Wp.exit | apply Wp.cT rfl | apply Wp.cF rfl | ((apply Wp.reg; (repeat (apply Ex.cons; (simp (disch := omega) [-getElem?_pos, hlen, hil, hcp, hcp2, w2, w3, q1, r1, ha, aFill, repl, hw1]; rfl))); exact Ex.nil; rfl; (simp [-getElem?_pos]; rfl))))
        exact ⟨(i + 1, q, o ++ [p], va, Ha), rfl, ⟨hga, hsa, dig_push hd2 (by omega), by simp [-getElem?_pos, ho], by show q < _; omega, by show i + 1 + kk q ≤ _; omega, hval'⟩, by show 4 * (l.length - (i + 1)) + kk q < _; omega, by simp [-getElem?_pos]⟩)
  exact ⟨v', H', l', hc, hg, big_of hs, hd', hv', hle, hle2⟩

end Go.Proofs.YtipmhhogebnpkaaGreatDoor
