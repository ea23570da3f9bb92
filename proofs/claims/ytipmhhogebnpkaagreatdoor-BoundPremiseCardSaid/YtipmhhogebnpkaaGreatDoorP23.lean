/- Walks: blocks.Form and what it calls. -/
import Derived.Test.YtipmhhogebnpkaaGreatDoorP22
namespace Go.Proofs.YtipmhhogebnpkaaGreatDoor
open Go Go.Vm
set_option linter.unusedVariables false
set_option linter.unusedSimpArgs false
variable {kn : Known} {env : Nat → Option AFunc}
variable {H H' H0 H2 : AHeap} {v : AVal} {l : List Int} {kx : Known}
theorem c44 (h : FnX kx kn env 44 p44) (n : Nat) (hi : Ints H v l) (h0 : l ≠ []) (hl : l.length ≤ 17592186044416) :
    ∃ R ver nv H', callX kx kn env (n + 1) (.func (.func 44) []) [v] H = some (.slice R ver 0 l.length l.length false 1, H') ∧ H.next ≤ R ∧ R < H'.next ∧ RowW H' R ver nv (l.map vi) H' ∧ Grow H H' := by
  obtain ⟨R, ver, nv, H', e1, e2, e3, e4, e5⟩ := int_copy hi h0 hl
  refine ⟨R, ver, nv, H', Wp.callX1 8 [0, 2, 4] h rfl (by simp [-getElem?_pos]) ?_, e2, e3, e4, e5⟩
  rcases hi.rd with ⟨_, ⟨rfl, he⟩ | ⟨R0, ver0, off, kc, ex, cells, hv, _⟩⟩
  · exact absurd (by simpa [-getElem?_pos] using he) h0
  · rw [intC_len] at hv
    subst hv
    repeat (first | apply Wp.seq | apply Wp.blk | apply Wp.ret | apply Wp.skip | apply Wp.exit | apply Wp.cT rfl | apply Wp.cF rfl | ((apply Wp.reg; (repeat (apply Ex.cons; (simp (disch := omega) [-getElem?_pos, aEqP, e1, repl, aFill]; rfl))); exact Ex.nil; rfl; (simp [-getElem?_pos]; rfl))))
    simp [-getElem?_pos, p44]
theorem c69 (h : FnX kx kn env 69 p69) (n : Nat) {R ver k m : Nat} (hk : k ≤ m) : callX kx kn env (n + 1) (.func (.func 69) []) [.slice R ver 0 k m false 1] H = some (.slice R ver 0 k k true 1, H) := by
  have e1 : (0 : Int) ≤ (k : Int) := by omega
  have e2 : (k : Int) ≤ (m : Int) := by omega
  have hs : aSliceS 1 (.slice R ver 0 k m false 1) none (some (vi k)) (some (vi k)) = some (.slice R ver 0 k k true 1) := by simp [-getElem?_pos, aSliceS, aBoundO, aBound, ile_eq, e1, e2, hk]
  refine Wp.callX1 9 [0, 2] h rfl (by simp [-getElem?_pos]) ?_
  repeat (first | apply Wp.seq | apply Wp.blk | apply Wp.ret | apply Wp.skip | apply Wp.exit | apply Wp.cT rfl | apply Wp.cF rfl | ((apply Wp.reg; (repeat (apply Ex.cons; (simp (disch := omega) [-getElem?_pos, hs]; rfl))); exact Ex.nil; rfl; (simp [-getElem?_pos]; rfl))))
  simp [-getElem?_pos, p69]
structure FormE (kx kn : Known) (env : Nat → Option AFunc) : Prop where
  clone : FnX kx kn env 44 p44
  clip : FnX kx kn env 69 p69
  compact : FnX kx kn env 70 p70
  rising : FnX kx kn env 52 p52
  form : FnX kx kn env 37 p37
  sort : ∀ (n : Nat) (args : List AVal) (H H' : AHeap), SortR 68 68 args H H' → callX kx kn env (n + 1) (.func (.func 68) []) args H = some (.tuple [], H')
theorem row_ints {R ver nv k : Nat} {cs : List AVal} {u : List Int} (hr : RowW H0 R ver nv cs H) (hR : R < H0.next) (hk : u.length = k) (hl : k ≤ cs.length) (ht : cs.take k = u.map vi) : Ints H (.slice R ver 0 k k true 1) u := by
  subst hk
  refine ⟨⟨fun e he => ?_, .inr ⟨R, ver, 0, u.length, true, cs, by rw [intC_len], hr.at, by rw [intC_len]; exact Nat.le_refl _, by rw [intC_len]; omega, ?_⟩⟩, fun R' ver off len kcap ex esz e => ?_⟩
  · obtain ⟨d, _, rfl⟩ := List.mem_map.1 he
    rfl
  · rw [intC_flat, intC_len, List.drop_zero, Nat.mul_one, ht]
  · cases e
    rw [hr.next]; exact hR
theorem c52 (E : FormE kx kn env) (n : Nat) (hi : Ints H v l) (h0 : l ≠ []) (hl : l.length ≤ 17592186044416) (hn : 100000000000000 < n) :
    ∃ fv H', callX kx kn env (n + 2) (.func (.func 52) []) [v] H = some (fv, H') ∧ Grow H H' ∧ Ints H' fv (dedA (srtI l)) := by
  obtain ⟨R, ver, nv, H1, e1, hR1, hR2, hr, hg⟩ := c44 E.clone n hi h0 hl
  have hlp : 0 < l.length := List.length_pos_iff.2 h0
  have hsl := srtI_len l
  obtain ⟨H2, hwr, hr2⟩ := hr.write (off := 0) (vals := (srtI l).map vi) (by simp [-getElem?_pos]; omega) (by simp [-getElem?_pos]; omega) (by rw [List.all_eq_true]; intro x hx; obtain ⟨y, _, rfl⟩ := List.mem_map.1 hx; rfl)
  have e2 := E.sort n _ _ _ (show SortR 68 68 [.slice R ver 0 l.length l.length false 1] H1 H2 from ⟨rfl, R, ver, l.length, false, l, l.map vi, rfl, by omega, hr.at, by rw [List.take_of_length_le (by simp [-getElem?_pos])], hwr⟩)
  have hcs : (l.map vi).take 0 ++ ((srtI l).map vi ++ (l.map vi).drop (0 + ((srtI l).map vi).length)) = (srtI l).map vi := by
    rw [List.take_zero, List.nil_append, List.drop_of_length_le (by simp [-getElem?_pos]; omega), List.append_nil]
  rw [hcs] at hr2
  obtain ⟨H3, cs, e3, hr3, hcl, hct⟩ := c70 E.compact n hr2 (by omega) hn
  rw [hsl] at e3 hcl
  have hdl : (dedA (srtI l)).length ≤ l.length := by have := dedA_len (l := srtI l) (srtI l).length; rw [List.take_length] at this; omega
  have e4 := c69 (H := H3) E.clip n (R := R) (ver := ver) hdl
  refine ⟨_, H3, Wp.callX1 11 [0, 2, 3] E.rising rfl (by simp [-getElem?_pos]) (v := .slice R ver 0 (dedA (srtI l)).length (dedA (srtI l)).length true 1) ?_, ⟨?_, fun A hA => ?_⟩, row_ints hr3 hR2 rfl (by omega) hct⟩
  · repeat (first | apply Wp.seq | apply Wp.blk | apply Wp.ret | apply Wp.skip | apply Wp.exit | apply Wp.cT rfl | apply Wp.cF rfl | ((apply Wp.reg; (repeat (apply Ex.cons; (simp (disch := omega) [-getElem?_pos, e1, e2, e3, e4]; rfl))); exact Ex.nil; rfl; (simp [-getElem?_pos]; rfl))))
    simp [-getElem?_pos, p52]
  · rw [hr3.next]; exact hg.next
  · rw [hr3.other A (by omega), hg.get A hA]
def formP (set : List Int) (b m : Int) : Int × Nat :=
  if b < 1 ∨ 64 < b ∨ m < 1 ∨ 16 < m ∨ b < m then (2, 0) else if set = [] then (50, 0) else if set.any (fun x => decide (x < 0) || decide (b ≤ x)) then (51, 0)
  else if m < (dedA (srtI set)).length then (52, 0) else (0, (dedA (srtI set)).length)
theorem ded_mem (x : Int) : x ∈ dedA (srtI l) ↔ x ∈ l := by rw [mem_dedA]; exact (srtI_perm l).mem_iff
set_option maxHeartbeats 2000000 in
theorem c37 (E : FormE kx kn env) (n : Nat) {b m : Int} (hi : Ints H v l) (hl : l.length ≤ 17592186044416) (hn : 100000000000000 < n) :
    ∃ fv H', callX kx kn env (n + 3) (.func (.func 37) []) [v, vi b, vi m] H = some (.tuple [fv, vi (formP l b m).1], H') ∧ Grow H H' ∧ aLenS fv = some (vi (formP l b m).2) ∧ fv.one = true := by
  suffices hh : ∃ r H', callX kx kn env (n + 3) (.func (.func 37) []) [v, vi b, vi m] H = some (r, H') ∧ ∃ fv, r = .tuple [fv, vi (formP l b m).1] ∧ Grow H H' ∧ aLenS fv = some (vi (formP l b m).2) ∧ fv.one = true by
    obtain ⟨r, H', h1, fv, rfl, h2⟩ := hh
    exact ⟨fv, H', h1, h2⟩
  have hlen := hi.lenS
  refine Wp.callX 54 [0, 1, 2, 6, 7, 8, 27, 30, 33, 48] E.form rfl (by simp [-getElem?_pos]) (n := n + 2) ?_
  have out : ∀ (H' : AHeap) (e : Int) (fv : AVal) (k : Nat), formP l b m = (e, k) → Grow H H' → aLenS fv = some (vi k) → fv.one = true → ∃ fv', (fv = fv' ∧ e = (formP l b m).1) ∧ Grow H H' ∧ aLenS fv' = some (vi (formP l b m).2) ∧ fv'.one = true := fun H' e fv k h1 h2 h3 h4 => by
    rw [h1]; exact ⟨fv, ⟨rfl, rfl⟩, h2, h3, h4⟩
  have bad : (b < 1 ∨ 64 < b ∨ m < 1 ∨ 16 < m ∨ b < m) → ∃ fv', (ns = fv' ∧ (2 : Int) = (formP l b m).1) ∧ Grow H H ∧ aLenS fv' = some (vi (formP l b m).2) ∧ fv'.one = true := fun h => out H 2 ns 0 (by unfold formP; rw [if_pos h]) (Grow.refl _) rfl rfl
  by_cases b1 : b < 1
  · have := bad (.inl b1)
    repeat (first | apply Wp.seq | apply Wp.blk | apply Wp.ret | apply Wp.skip | apply Wp.exit | apply Wp.cT rfl | apply Wp.cF rfl | ((apply Wp.reg; (repeat (apply Ex.cons; (simp (disch := omega) [-getElem?_pos, b1]; rfl))); exact Ex.nil; rfl; (simp [-getElem?_pos]; rfl))))
    simp [-getElem?_pos, p37]
    exact this
  by_cases b2 : 64 < b
  · have := bad (.inr (.inl b2))
    repeat (first | apply Wp.seq | apply Wp.blk | apply Wp.ret | apply Wp.skip | apply Wp.exit | apply Wp.cT rfl | apply Wp.cF rfl | ((apply Wp.reg; (repeat (apply Ex.cons; (simp (disch := omega) [-getElem?_pos, b1, b2]; rfl))); exact Ex.nil; rfl; (simp [-getElem?_pos]; rfl))))
    simp [-getElem?_pos, p37]
    exact this
  by_cases b3 : m < 1
  · have := bad (.inr (.inr (.inl b3)))
    repeat (first | apply Wp.seq | apply Wp.blk | apply Wp.ret | apply Wp.skip | apply Wp.exit | apply Wp.cT rfl | apply Wp.cF rfl | ((apply Wp.reg; (repeat (apply Ex.cons; (simp (disch := omega) [-getElem?_pos, b1, b2, b3]; rfl))); exact Ex.nil; rfl; (simp [-getElem?_pos]; rfl))))
    simp [-getElem?_pos, p37]
    exact this
  by_cases b4 : 16 < m
  · have := bad (.inr (.inr (.inr (.inl b4))))
    repeat (first | apply Wp.seq | apply Wp.blk | apply Wp.ret | apply Wp.skip | apply Wp.exit | apply Wp.cT rfl | apply Wp.cF rfl | ((apply Wp.reg; (repeat (apply Ex.cons; (simp (disch := omega) [-getElem?_pos, b1, b2, b3, b4]; rfl))); exact Ex.nil; rfl; (simp [-getElem?_pos]; rfl))))
    simp [-getElem?_pos, p37]
    exact this
  by_cases b5 : b < m
  · have := bad (.inr (.inr (.inr (.inr b5))))
    repeat (first | apply Wp.seq | apply Wp.blk | apply Wp.ret | apply Wp.skip | apply Wp.exit | apply Wp.cT rfl | apply Wp.cF rfl | ((apply Wp.reg; (repeat (apply Ex.cons; (simp (disch := omega) [-getElem?_pos, b1, b2, b3, b4, b5]; rfl))); exact Ex.nil; rfl; (simp [-getElem?_pos]; rfl))))
    simp [-getElem?_pos, p37]
    exact this
  have hno : ¬ (b < 1 ∨ 64 < b ∨ m < 1 ∨ 16 < m ∨ b < m) := by omega
  by_cases h0 : l = []
  · have := out H 50 ns 0 (by unfold formP; rw [if_neg hno, if_pos h0]) (Grow.refl _) rfl rfl
    have hl0 : l.length = 0 := by rw [h0]; rfl
    repeat (first | apply Wp.seq | apply Wp.blk | apply Wp.ret | apply Wp.skip | apply Wp.exit | apply Wp.cT rfl | apply Wp.cF rfl | ((apply Wp.reg; (repeat (apply Ex.cons; (simp (disch := omega) [-getElem?_pos, b1, b2, b3, b4, b5, hlen, hl0]; rfl))); exact Ex.nil; rfl; (simp [-getElem?_pos]; rfl))))
    simp [-getElem?_pos, p37]
    exact this
  · have hlp := List.length_pos_iff.2 h0
    have hlp' : ¬ (l.length : Int) = 0 := by omega
    obtain ⟨fv, H1, e1, hg1, hI⟩ := c52 E n hi h0 hl hn
    have hlt := dedA_lt (srtI_pair l)
    have hdl : (dedA (srtI l)).length ≤ l.length := by have := dedA_len (l := srtI l) (srtI l).length; rw [List.take_length, srtI_len] at this; exact this
    have hmem : ∀ x, x ∈ dedA (srtI l) ↔ x ∈ l := fun x => ded_mem x
    have hfl := hI.lenS
    have hform : formP l b m = if l.any (fun x => decide (x < 0) || decide (b ≤ x)) then (51, 0) else if m < (dedA (srtI l)).length then (52, 0) else (0, (dedA (srtI l)).length) := by
      unfold formP; rw [if_neg hno, if_neg h0]
    obtain ⟨u, hu⟩ : ∃ u, u = dedA (srtI l) := ⟨_, rfl⟩
    rw [← hu] at hI hlt hdl hfl hform
    simp only [← hu] at hmem
    have hu0 : 0 < u.length := by
      rcases Nat.eq_zero_or_pos u.length with h | h
      · have hue := List.eq_nil_of_length_eq_zero h
        obtain ⟨x, hx⟩ := List.exists_mem_of_ne_nil l h0
        have := (hmem x).2 hx
        rw [hue] at this; simp [-getElem?_pos] at this
      · exact h
    obtain ⟨x0, hx0⟩ : ∃ x, u[0]? = some x := ⟨_, List.getElem?_eq_getElem hu0⟩
    obtain ⟨x1, hx1⟩ : ∃ x, u[u.length - 1]? = some x := ⟨_, List.getElem?_eq_getElem (by omega)⟩
    obtain ⟨R, ver, off, kc, ex, cells, hv, hR, hrow, hb0, hc0⟩ := hI.at hx0
    obtain ⟨R', ver', off', kc', ex', cells', hv', _, hrow', hb1, hc1⟩ := hI.at hx1
    rw [hv] at hv'
    cases hv'
    rw [hrow] at hrow'; cases hrow'
    have hw1 : wrapF .i64 ((u.length : Int) - 1) = ((u.length - 1 : Nat) : Int) := by rw [wrap_small (by omega) (by omega)]; omega
    obtain ⟨q, hq⟩ : ∃ q, q = u.length - 1 := ⟨_, rfl⟩
    rw [← hq] at hw1 hb1 hc1 hx1
    have hql : q < u.length := by omega
    rw [Nat.add_zero] at hb0 hc0
    have hlow : x0 < 0 → (l.any fun x => decide (x < 0) || decide (b ≤ x)) = true := fun h => by
      rw [List.any_eq_true]; exact ⟨x0, (hmem x0).1 (List.mem_of_getElem? hx0), by simp [-getElem?_pos, h]⟩
    have hhigh : b ≤ x1 → (l.any fun x => decide (x < 0) || decide (b ≤ x)) = true := fun h => by
      rw [List.any_eq_true]; exact ⟨x1, (hmem x1).1 (List.mem_of_getElem? hx1), by simp [-getElem?_pos, h]⟩
    have hnone : ¬ x0 < 0 → ¬ b ≤ x1 → (l.any fun x => decide (x < 0) || decide (b ≤ x)) = false := fun h1 h2 => by
      rw [Bool.eq_false_iff]
      intro h
      obtain ⟨x, hx, hxb⟩ := List.any_eq_true.1 h
      obtain ⟨j, hj⟩ := List.mem_iff_getElem?.1 ((hmem x).2 hx)
      obtain ⟨j1, j2⟩ := List.getElem?_eq_some_iff.1 hj
      obtain ⟨a1, a2⟩ := List.getElem?_eq_some_iff.1 hx0
      obtain ⟨c1, c2⟩ := List.getElem?_eq_some_iff.1 hx1
      have l1 : x0 ≤ x := by
        rcases Nat.eq_zero_or_pos j with e | e
        · subst e; rw [a2] at j2; omega
        · have := (List.pairwise_iff_getElem.1 hlt) 0 j a1 j1 e
          rw [a2, j2] at this; omega
      have l2 : x ≤ x1 := by
        rcases Nat.lt_or_ge j q with e | e
        · have := (List.pairwise_iff_getElem.1 hlt) j q j1 c1 e
          rw [j2, c2] at this; omega
        · have : j = q := by omega
          subst this; rw [c2] at j2; omega
      simp [-getElem?_pos] at hxb
      omega
    by_cases k1 : x0 < 0
    · have := out H1 51 ns 0 (by rw [hform, if_pos (hlow k1)]) hg1 rfl rfl
      repeat (first | apply Wp.seq | apply Wp.blk | apply Wp.ret | apply Wp.skip | apply Wp.exit | apply Wp.cT rfl | apply Wp.cF rfl | ((apply Wp.reg; (repeat (apply Ex.cons; (simp (disch := omega) [-getElem?_pos, b1, b2, b3, b4, b5, hlen, hlp', h0, e1, hv, hrow, hb0, hc0, k1]; rfl))); exact Ex.nil; rfl; (simp [-getElem?_pos]; rfl))))
      simp [-getElem?_pos, p37]
      exact this
    by_cases k2 : b ≤ x1
    · have := out H1 51 ns 0 (by rw [hform, if_pos (hhigh k2)]) hg1 rfl rfl
      repeat (first | apply Wp.seq | apply Wp.blk | apply Wp.ret | apply Wp.skip | apply Wp.exit | apply Wp.cT rfl | apply Wp.cF rfl | ((apply Wp.reg; (repeat (apply Ex.cons; (simp (disch := omega) [-getElem?_pos, b1, b2, b3, b4, b5, hlen, hlp', h0, e1, hv, hrow, hb0, hc0, k1, hw1, hb1, hc1, hql, k2]; rfl))); exact Ex.nil; rfl; (simp [-getElem?_pos]; rfl))))
      simp [-getElem?_pos, p37]
      exact this
    have hn1 := hnone k1 k2
    by_cases k3 : m < u.length
    · have := out H1 52 ns 0 (by rw [hform, hn1, if_neg (by simp [-getElem?_pos]), if_pos k3]) hg1 rfl rfl
      repeat (first | apply Wp.seq | apply Wp.blk | apply Wp.ret | apply Wp.skip | apply Wp.exit | apply Wp.cT rfl | apply Wp.cF rfl | ((apply Wp.reg; (repeat (apply Ex.cons; (simp (disch := omega) [-getElem?_pos, b1, b2, b3, b4, b5, hlen, hlp', h0, e1, hv, hrow, hb0, hc0, k1, hw1, hb1, hc1, hql, k2, k3]; rfl))); exact Ex.nil; rfl; (simp [-getElem?_pos]; rfl))))
      simp [-getElem?_pos, p37]
      exact this
    · have := out H1 0 fv u.length (by rw [hform, hn1, if_neg (by simp [-getElem?_pos]), if_neg k3]) hg1 hfl (by rw [hv]; rfl)
      repeat (first | apply Wp.seq | apply Wp.blk | apply Wp.ret | apply Wp.skip | apply Wp.exit | apply Wp.cT rfl | apply Wp.cF rfl | ((apply Wp.reg; (repeat (apply Ex.cons; (simp (disch := omega) [-getElem?_pos, b1, b2, b3, b4, b5, hlen, hlp', h0, e1, hv, hrow, hb0, hc0, k1, hw1, hb1, hc1, hql, k2, k3]; rfl))); exact Ex.nil; rfl; (simp [-getElem?_pos]; rfl))))
      simp [-getElem?_pos, p37]
      rw [hv] at this
      exact this
end Go.Proofs.YtipmhhogebnpkaaGreatDoor
namespace Go.Proofs.YtipmhhogebnpkaaGreatDoor
open Go Go.Vm
set_option linter.unusedVariables false
set_option linter.unusedSimpArgs false
variable {kn : Known} {env : Nat → Option AFunc}
variable {H H' H0 H2 : AHeap} {v : AVal} {l : List Int} {kx : Known}
theorem mem_take {x d : Int} {i : Nat} (h : l[i]? = some d) : x ∈ l.take (i + 1) ↔ x ∈ l.take i ∨ x = d := by
  rw [List.take_add_one, h]; simp [-getElem?_pos]
theorem c38 (h : FnX kx kn env 38 p38) (n : Nat) (hi : Ints H v l) (x : Int) (hl : l.length ≤ 17592186044416) (hn : 100000000000000 < n) : callX kx kn env (n + 1) (.func (.func 38) []) [v, vi x] H = some (abool (decide (x ∈ l)), H) := by
  have hlen := hi.lenS
  refine Wp.callX1 18 [0, 1, 4, 5, 9, 17] h rfl (by simp [-getElem?_pos]) (n := n) ?_
  repeat (first | apply Wp.seq | apply Wp.blk | apply Wp.ret | apply Wp.skip | apply Wp.exit | apply Wp.cT rfl | apply Wp.cF rfl | ((apply Wp.reg; (repeat (apply Ex.cons; (simp (disch := omega) [-getElem?_pos]; rfl))); exact Ex.nil; rfl; (simp [-getElem?_pos]; rfl))))
  apply Wp.loop (α := Nat) (fun y => [(0, v), (1, vi x), (5, vi y)]) (fun _ => H) (fun y => y ≤ l.length ∧ x ∉ l.take y) (fun y => l.length - y) 0 rfl ⟨Nat.zero_le _, by simp [-getElem?_pos]⟩ (by show l.length - 0 < _; omega) (by simp [-getElem?_pos])
  rintro i ⟨hil, hno⟩
  have hw1 : wrapF .i64 ((i : Int) + 1) = (i : Int) + 1 := wrap_small (by omega) (by omega)
  by_cases hi2 : i < l.length
  · obtain ⟨d, hd⟩ : ∃ d, l[i]? = some d := ⟨_, List.getElem?_eq_getElem hi2⟩
    obtain ⟨R, ver, off, kc, ex, cells, hv, hR, hrow, hb, hc⟩ := hi.at hd
    by_cases hdx : d = x
    · have : decide (x ∈ l) = true := by rw [← hdx]; simp [-getElem?_pos]; exact List.mem_of_getElem? hd
      rw [this]
      repeat (first | apply Wp.seq | apply Wp.blk | apply Wp.ret | apply Wp.skip | apply Wp.exit | apply Wp.cT rfl | apply Wp.cF rfl | ((apply Wp.reg; (repeat (apply Ex.cons; (simp (disch := omega) [-getElem?_pos, hlen, hi2, hv, hrow, hb, hc, hdx]; rfl))); exact Ex.nil; rfl; (simp [-getElem?_pos]; rfl))))
      simp [-getElem?_pos, p38]
    · have hno' : x ∉ l.take (i + 1) := by rw [mem_take hd]; rintro (h1 | h1); exact hno h1; exact hdx h1.symm
      repeat (first | apply Wp.seq | apply Wp.blk | apply Wp.ret | apply Wp.skip | apply Wp.exit | apply Wp.cT rfl | apply Wp.cF rfl | ((apply Wp.reg; (repeat (apply Ex.cons; (simp (disch := omega) [-getElem?_pos, hlen, hi2, hv, hrow, hb, hc, hdx, hw1]; rfl))); exact Ex.nil; rfl; (simp [-getElem?_pos]; rfl))))
      exact ⟨i + 1, rfl, ⟨by omega, hno'⟩, by omega, by simp [-getElem?_pos, hv]⟩
  · have : decide (x ∈ l) = false := by
      rw [List.take_of_length_le (by omega)] at hno
      simpa [-getElem?_pos] using hno
    rw [this]
    repeat (first | apply Wp.seq | apply Wp.blk | apply Wp.ret | apply Wp.skip | apply Wp.exit | apply Wp.cT rfl | apply Wp.cF rfl | ((apply Wp.reg; (repeat (apply Ex.cons; (simp (disch := omega) [-getElem?_pos, hlen, hi2]; rfl))); exact Ex.nil; rfl; (simp [-getElem?_pos]; rfl))))
    simp [-getElem?_pos, p38]
theorem filt_succ (p : Nat → Bool) (k : Nat) : (List.range (k + 1)).filter p = (List.range k).filter p ++ (if p k then [k] else []) := by
  rw [List.range_succ, List.filter_append]
  congr 1
  simp only [List.filter_cons, List.filter_nil]
theorem any_take {p : Int → Bool} {d : Int} {i : Nat} (h : l[i]? = some d) : (l.take (i + 1)).any p = ((l.take i).any p || p d) := by
  rw [List.take_add_one, h]; simp [-getElem?_pos]
set_option maxHeartbeats 4000000 in
theorem c27 (h : FnX kx kn env 27 p27) (h2 : FnX kx kn env 38 p38) (n : Nat) {b m : Int} (hi : Ints H v l) (hl : l.length ≤ 17592186044416) (hn : 100000000000000 < n) :
    ∃ fv H', callX kx kn env (n + 2) (.func (.func 27) []) [v, vi b, vi m] H = some (.tuple [fv, vi (formP l b m).1], H') ∧ Grow H H' ∧ aLenS fv = some (vi (formP l b m).2) ∧ fv.one = true := by
  suffices hh : ∃ r H', callX kx kn env (n + 2) (.func (.func 27) []) [v, vi b, vi m] H = some (r, H') ∧ ∃ fv, r = .tuple [fv, vi (formP l b m).1] ∧ Grow H H' ∧ aLenS fv = some (vi (formP l b m).2) ∧ fv.one = true by
    obtain ⟨r, H', h1, fv, rfl, h2⟩ := hh
    exact ⟨fv, H', h1, h2⟩
  have hlen := hi.lenS
  refine Wp.callX 69 [0, 1, 2, 6, 7, 8, 9, 10, 29, 32, 36, 51, 54, 59, 67] h rfl (by simp [-getElem?_pos]) (n := n + 1) ?_
  have out : ∀ (H' : AHeap) (e : Int) (fv : AVal) (k : Nat), formP l b m = (e, k) → Grow H H' → aLenS fv = some (vi k) → fv.one = true → ∃ fv', (fv = fv' ∧ e = (formP l b m).1) ∧ Grow H H' ∧ aLenS fv' = some (vi (formP l b m).2) ∧ fv'.one = true := fun H' e fv k h1 h2 h3 h4 => by
    rw [h1]; exact ⟨fv, ⟨rfl, rfl⟩, h2, h3, h4⟩
  have bad : (b < 1 ∨ 64 < b ∨ m < 1 ∨ 16 < m ∨ b < m) → ∃ fv', (ns = fv' ∧ (2 : Int) = (formP l b m).1) ∧ Grow H H ∧ aLenS fv' = some (vi (formP l b m).2) ∧ fv'.one = true := fun h => out H 2 ns 0 (by unfold formP; rw [if_pos h]) (Grow.refl _) rfl rfl
  by_cases b1 : b < 1
  · have := bad (.inl b1)
    repeat (first | apply Wp.seq | apply Wp.blk | apply Wp.ret | apply Wp.skip | apply Wp.exit | apply Wp.cT rfl | apply Wp.cF rfl | ((apply Wp.reg; (repeat (apply Ex.cons; (simp (disch := omega) [-getElem?_pos, b1]; rfl))); exact Ex.nil; rfl; (simp [-getElem?_pos]; rfl))))
    simp [-getElem?_pos, p27]
    exact this
  by_cases b2 : 64 < b
  · have := bad (.inr (.inl b2))
    repeat (first | apply Wp.seq | apply Wp.blk | apply Wp.ret | apply Wp.skip | apply Wp.exit | apply Wp.cT rfl | apply Wp.cF rfl | ((apply Wp.reg; (repeat (apply Ex.cons; (simp (disch := omega) [-getElem?_pos, b1, b2]; rfl))); exact Ex.nil; rfl; (simp [-getElem?_pos]; rfl))))
    simp [-getElem?_pos, p27]
    exact this
  by_cases b3 : m < 1
  · have := bad (.inr (.inr (.inl b3)))
    repeat (first | apply Wp.seq | apply Wp.blk | apply Wp.ret | apply Wp.skip | apply Wp.exit | apply Wp.cT rfl | apply Wp.cF rfl | ((apply Wp.reg; (repeat (apply Ex.cons; (simp (disch := omega) [-getElem?_pos, b1, b2, b3]; rfl))); exact Ex.nil; rfl; (simp [-getElem?_pos]; rfl))))
    simp [-getElem?_pos, p27]
    exact this
  by_cases b4 : 16 < m
  · have := bad (.inr (.inr (.inr (.inl b4))))
    repeat (first | apply Wp.seq | apply Wp.blk | apply Wp.ret | apply Wp.skip | apply Wp.exit | apply Wp.cT rfl | apply Wp.cF rfl | ((apply Wp.reg; (repeat (apply Ex.cons; (simp (disch := omega) [-getElem?_pos, b1, b2, b3, b4]; rfl))); exact Ex.nil; rfl; (simp [-getElem?_pos]; rfl))))
    simp [-getElem?_pos, p27]
    exact this
  by_cases b5 : b < m
  · have := bad (.inr (.inr (.inr (.inr b5))))
    repeat (first | apply Wp.seq | apply Wp.blk | apply Wp.ret | apply Wp.skip | apply Wp.exit | apply Wp.cT rfl | apply Wp.cF rfl | ((apply Wp.reg; (repeat (apply Ex.cons; (simp (disch := omega) [-getElem?_pos, b1, b2, b3, b4, b5]; rfl))); exact Ex.nil; rfl; (simp [-getElem?_pos]; rfl))))
    simp [-getElem?_pos, p27]
    exact this
  have hno : ¬ (b < 1 ∨ 64 < b ∨ m < 1 ∨ 16 < m ∨ b < m) := by omega
  by_cases h0 : l = []
  · have := out H 50 ns 0 (by unfold formP; rw [if_neg hno, if_pos h0]) (Grow.refl _) rfl rfl
    have hl0 : l.length = 0 := by rw [h0]; rfl
    repeat (first | apply Wp.seq | apply Wp.blk | apply Wp.ret | apply Wp.skip | apply Wp.exit | apply Wp.cT rfl | apply Wp.cF rfl | ((apply Wp.reg; (repeat (apply Ex.cons; (simp (disch := omega) [-getElem?_pos, b1, b2, b3, b4, b5, hlen, hl0]; rfl))); exact Ex.nil; rfl; (simp [-getElem?_pos]; rfl))))
    simp [-getElem?_pos, p27]
    exact this
  have hlp := List.length_pos_iff.2 h0
  have hlp' : ¬ (l.length : Int) = 0 := by omega
  have hform : formP l b m = if l.any (fun x => decide (x < 0) || decide (b ≤ x)) then (51, 0) else if m < (dedA (srtI l)).length then (52, 0) else (0, (dedA (srtI l)).length) := by
    unfold formP; rw [if_neg hno, if_neg h0]
  obtain ⟨B, rfl⟩ := Int.eq_ofNat_of_zero_le (show 0 ≤ b by omega)
  repeat (first | apply Wp.seq | apply Wp.blk | apply Wp.ret | apply Wp.skip | apply Wp.exit | apply Wp.cT rfl | apply Wp.cF rfl | ((apply Wp.reg; (repeat (apply Ex.cons; (simp (disch := omega) [-getElem?_pos, b1, b2, b3, b4, b5, hlen, hlp', h0]; rfl))); exact Ex.nil; rfl; (simp [-getElem?_pos]; rfl))))
  apply Wp.loop (α := Nat) (fun y => [(0, v), (1, vi B), (2, vi m), (8, vi y)]) (fun _ => H) (fun y => y ≤ l.length ∧ (l.take y).any (fun x => decide (x < 0) || decide ((B : Int) ≤ x)) = false) (fun y => l.length - y) 0 rfl ⟨Nat.zero_le _, by simp [-getElem?_pos]⟩ (by show l.length - 0 < _; omega) (by simp [-getElem?_pos])
  rintro i ⟨hil, hany⟩
  have hw1 : wrapF .i64 ((i : Int) + 1) = (i : Int) + 1 := wrap_small (by omega) (by omega)
  by_cases hi2 : i < l.length
  · obtain ⟨d, hd⟩ : ∃ d, l[i]? = some d := ⟨_, List.getElem?_eq_getElem hi2⟩
    obtain ⟨R, ver, off, kc, ex, cells, hv, hR, hrow, hb, hc⟩ := hi.at hd
    have hmem := List.mem_of_getElem? hd
    by_cases k1 : d < 0
    · have := out H 51 ns 0 (by rw [hform, if_pos (List.any_eq_true.2 ⟨d, hmem, by simp [-getElem?_pos, k1]⟩)]) (Grow.refl _) rfl rfl
      repeat (first | apply Wp.seq | apply Wp.blk | apply Wp.ret | apply Wp.skip | apply Wp.exit | apply Wp.cT rfl | apply Wp.cF rfl | ((apply Wp.reg; (repeat (apply Ex.cons; (simp (disch := omega) [-getElem?_pos, hlen, hi2, hv, hrow, hb, hc, k1]; rfl))); exact Ex.nil; rfl; (simp [-getElem?_pos]; rfl))))
      simp [-getElem?_pos, p27]
      exact this
    by_cases k2 : (B : Int) ≤ d
    · have := out H 51 ns 0 (by rw [hform, if_pos (List.any_eq_true.2 ⟨d, hmem, by simp [-getElem?_pos, k2]⟩)]) (Grow.refl _) rfl rfl
      repeat (first | apply Wp.seq | apply Wp.blk | apply Wp.ret | apply Wp.skip | apply Wp.exit | apply Wp.cT rfl | apply Wp.cF rfl | ((apply Wp.reg; (repeat (apply Ex.cons; (simp (disch := omega) [-getElem?_pos, hlen, hi2, hv, hrow, hb, hc, k1, k2]; rfl))); exact Ex.nil; rfl; (simp [-getElem?_pos]; rfl))))
      simp [-getElem?_pos, p27]
      exact this
    repeat (first | apply Wp.seq | apply Wp.blk | apply Wp.ret | apply Wp.skip | apply Wp.exit | apply Wp.cT rfl | apply Wp.cF rfl | ((apply Wp.reg; (repeat (apply Ex.cons; (simp (disch := omega) [-getElem?_pos, hlen, hi2, hv, hrow, hb, hc, k1, k2, hw1]; rfl))); exact Ex.nil; rfl; (simp [-getElem?_pos]; rfl))))
    exact ⟨i + 1, rfl, ⟨by omega, by rw [any_take hd, hany]; simp [-getElem?_pos]; omega⟩, by omega, by simp [-getElem?_pos, hv]⟩
  · have hil' : i = l.length := by omega
    rw [hil', List.take_length] at hany
    rw [hany, if_neg (by simp [-getElem?_pos])] at hform
    have hrng : ∀ x ∈ l, 0 ≤ x ∧ x < (B : Int) := fun x hx => by
      have := List.any_eq_false.1 hany x hx
      simp [-getElem?_pos] at this; omega
    have hcount := count_range (dedA_lt (srtI_pair l)) (fun x => ded_mem x) hrng
    obtain ⟨L, hL⟩ : ∃ L, L = dedA (srtI l) := ⟨_, rfl⟩
    rw [← hL] at hform hcount
    have hcl := congrArg List.length hcount
    rw [List.length_map] at hcl
    repeat (first | apply Wp.seq | apply Wp.blk | apply Wp.ret | apply Wp.skip | apply Wp.exit | apply Wp.cT rfl | apply Wp.cF rfl | ((apply Wp.reg; (repeat (apply Ex.cons; (simp (disch := omega) [-getElem?_pos, hlen, hi2]; rfl))); exact Ex.nil; rfl; (simp [-getElem?_pos]; rfl))))
    apply Wp.loop (α := Nat × AVal × AHeap) (fun y => [(0, v), (1, vi B), (2, vi m), (9, y.2.1), (10, vi y.1)]) (·.2.2)
      (fun y => y.1 ≤ B ∧ Grow H y.2.2 ∧ SliceE y.2.2 H.next 1 y.2.1 (intC (((List.range y.1).filter fun i : Nat => decide ((i : Int) ∈ l)).map Int.ofNat))) (fun y => B - y.1) (0, ns, H) rfl ⟨Nat.zero_le _, Grow.refl _, by simp [-getElem?_pos]; exact SliceE.nil _ _ _⟩ (by show B - 0 < _; omega) (by simp [-getElem?_pos])
    rintro ⟨k, vo, H2⟩ ⟨hkB, hg, hs⟩
    dsimp only at hkB hg hs ⊢
    have hwk : wrapF .i64 ((k : Int) + 1) = (k : Int) + 1 := wrap_small (by omega) (by omega)
    by_cases hk : k < B
    · have hhas := c38 h2 n (hi.grow hg) (k : Int) hl hn
      by_cases hm : (k : Int) ∈ l
      · rw [decide_eq_true hm] at hhas
        have hfl : ((List.range k).filter fun i : Nat => decide ((i : Int) ∈ l)).length ≤ k := by have := List.length_filter_le (fun i : Nat => decide ((i : Int) ∈ l)) (List.range k); rwa [List.length_range] at this
        obtain ⟨va, Ha, ha, hsa, hna, hka, _⟩ := (hs.move (Nat.le_refl _) (Nat.le_succ _) (H' := H2.push (.row [some (0, [vi (k : Int)])])) fun A _ hA => AHeap.get_push_ne _ _ (by omega)).append (bytes := 8) (by have := hg.next; simp [-getElem?_pos]; omega) (X := H2.next) (e := [vi (k : Int)]) (by simp [-getElem?_pos]) rfl (by omega) (by omega) rfl (by rw [intC_len, List.length_map]; omega) (ex := true) (kc := 1)
        have hga : Grow H Ha := ⟨by have := hg.next; simp [-getElem?_pos] at hna; omega, fun A hA => by have := hg.next; rw [hka A hA, AHeap.get_push_ne _ _ (by omega), hg.get A hA]⟩
        have hse : SliceE Ha H.next 1 va (intC (((List.range (k + 1)).filter fun i : Nat => decide ((i : Int) ∈ l)).map Int.ofNat)) := by
          rw [filt_succ, if_pos (by simpa [-getElem?_pos] using hm), List.map_append]
          have : intC (((List.range k).filter fun i : Nat => decide ((i : Int) ∈ l)).map Int.ofNat) ++ [[vi (k : Int)]] = intC (((List.range k).filter fun i : Nat => decide ((i : Int) ∈ l)).map Int.ofNat ++ [k].map Int.ofNat) := by simp [-getElem?_pos]
          rw [← this]; exact hsa
        repeat (first | apply Wp.seq | apply Wp.blk | apply Wp.ret | apply Wp.skip | apply Wp.exit | apply Wp.cT rfl | apply Wp.cF rfl | ((apply Wp.reg; (repeat (apply Ex.cons; (simp (disch := omega) [-getElem?_pos, hk, hhas, ha, aFill, repl, hwk]; rfl))); exact Ex.nil; rfl; (simp [-getElem?_pos]; rfl))))
        exact ⟨(k + 1, va, Ha), rfl, ⟨by show k + 1 ≤ _; omega, hga, hse⟩, by show B - (k + 1) < _; omega, by simp [-getElem?_pos]⟩
      · rw [decide_eq_false hm] at hhas
        have hse : SliceE H2 H.next 1 vo (intC (((List.range (k + 1)).filter fun i : Nat => decide ((i : Int) ∈ l)).map Int.ofNat)) := by
          rw [filt_succ, if_neg (by simpa [-getElem?_pos] using hm), List.append_nil]; exact hs
        repeat (first | apply Wp.seq | apply Wp.blk | apply Wp.ret | apply Wp.skip | apply Wp.exit | apply Wp.cT rfl | apply Wp.cF rfl | ((apply Wp.reg; (repeat (apply Ex.cons; (simp (disch := omega) [-getElem?_pos, hk, hhas, hwk]; rfl))); exact Ex.nil; rfl; (simp [-getElem?_pos]; rfl))))
        exact ⟨(k + 1, vo, H2), rfl, ⟨by show k + 1 ≤ _; omega, hg, hse⟩, by show B - (k + 1) < _; omega, by simp [-getElem?_pos]⟩
    · have hkB' : k = B := by omega
      have hlo := (ints_of hs).lenS
      rw [hkB', List.length_map, hcl] at hlo
      have hone : vo.one = true := (ints_of hs).rd.one
      by_cases k3 : m < L.length
      · have := out H2 52 ns 0 (by rw [hform, if_pos k3]) hg rfl rfl
        repeat (first | apply Wp.seq | apply Wp.blk | apply Wp.ret | apply Wp.skip | apply Wp.exit | apply Wp.cT rfl | apply Wp.cF rfl | ((apply Wp.reg; (repeat (apply Ex.cons; (simp (disch := omega) [-getElem?_pos, hk, hlo, k3]; rfl))); exact Ex.nil; rfl; (simp [-getElem?_pos]; rfl))))
        simp [-getElem?_pos, p27]
        exact this
      · have := out H2 0 vo L.length (by rw [hform, if_neg k3]) hg hlo hone
        repeat (first | apply Wp.seq | apply Wp.blk | apply Wp.ret | apply Wp.skip | apply Wp.exit | apply Wp.cT rfl | apply Wp.cF rfl | ((apply Wp.reg; (repeat (apply Ex.cons; (simp (disch := omega) [-getElem?_pos, hk, hlo, k3]; rfl))); exact Ex.nil; rfl; (simp [-getElem?_pos]; rfl))))
        simp [-getElem?_pos, p27]
        exact this
end Go.Proofs.YtipmhhogebnpkaaGreatDoor
namespace Go.Proofs.YtipmhhogebnpkaaGreatDoor
open Go Go.Vm
set_option linter.unusedVariables false
set_option linter.unusedSimpArgs false
variable {kn : Known} {env : Nat → Option AFunc}
variable {H H' H0 H2 : AHeap} {v : AVal} {kx : Known}
structure OpP where
  kind : Int
  set : List Int
  blk : Int
  val : List AVal
structure Bytes32 (l : List AVal) : Prop where
  len : l.length = 32
  at_ : ∀ c ∈ l, ∃ k : Int, c = .raw (.int .u8 k)
structure OpAt (H : AHeap) (rc : List AVal) (o : OpP) : Prop where
  len : rc.length = 35
  k : rc[0]? = some (vi o.kind)
  s : ∃ sv, rc[1]? = some sv ∧ Ints H sv o.set
  b : rc[2]? = some (vi o.blk)
  v : rc.drop 3 = o.val
  ok : Bytes32 o.val
  sl : o.set.length ≤ 17592186044416
theorem OpAt.grow {rc : List AVal} {o : OpP} (h : OpAt H rc o) (hg : Grow H H') : OpAt H' rc o := ⟨h.len, h.k, let ⟨sv, h1, h2⟩ := h.s; ⟨sv, h1, h2.grow hg⟩, h.b, h.v, h.ok, h.sl⟩
theorem OpAt.cells {rc : List AVal} {o : OpP} (h : OpAt H rc o) : ∃ sv, rc = vi o.kind :: sv :: vi o.blk :: o.val ∧ Ints H sv o.set := by
  obtain ⟨sv, h1, h2⟩ := h.s
  have hl := h.len
  have hk := h.k
  have hb := h.b
  have hv := h.v
  match rc, hl with
  | a :: b :: c :: r, _ =>
    simp [-getElem?_pos] at h1 hk hb hv
    subst h1 hk hb hv
    exact ⟨_, rfl, h2⟩
theorem OpAt.one {rc : List AVal} {o : OpP} (h : OpAt H rc o) : rc.all AVal.one = true := by
  obtain ⟨sv, rfl, h2⟩ := h.cells
  have h3 : o.val.all AVal.one = true := by
    rw [List.all_eq_true]
    intro c hc
    obtain ⟨k, rfl⟩ := h.ok.at_ c hc
    rfl
  rw [List.all_cons, List.all_cons, List.all_cons, h3, h2.rd.one]; rfl
structure ProgAt (H : AHeap) (pv : AVal) (p : List OpP) : Prop where
  rows : ∃ rcs, RdE H 35 pv rcs ∧ rcs.length = p.length ∧ ∀ (i : Nat) rc o, rcs[i]? = some rc → p[i]? = some o → OpAt H rc o
  lies : pv.lies (· < H.next)
  len : (p.length + 1) * 72 ≤ 140737488355328
theorem ProgAt.grow {pv : AVal} {p : List OpP} (h : ProgAt H pv p) (hg : Grow H H') : ProgAt H' pv p :=
  ⟨let ⟨rcs, h1, h2, h3⟩ := h.rows; ⟨rcs, h1.grow hg h.lies, h2, fun i rc o a b => (h3 i rc o a b).grow hg⟩, fun R ver off len kcap ex esz e => Nat.lt_of_lt_of_le (h.lies R ver off len kcap ex esz e) hg.next, h.len⟩
theorem ProgAt.lenS {pv : AVal} {p : List OpP} (h : ProgAt H pv p) : aLenS pv = some (vi p.length) := by
  obtain ⟨rcs, h1, h2, _⟩ := h.rows
  rw [← h2]; exact h1.lenS
theorem ProgAt.at {pv : AVal} {p : List OpP} (h : ProgAt H pv p) {i : Nat} {o : OpP} (hi : p[i]? = some o) :
    ∃ R ver off kc ex cells rc, pv = .slice R ver off p.length kc ex 35 ∧ R < H.next ∧ H.rowAt R ver = some cells ∧ off + i * 35 + 35 ≤ cells.length ∧ (cells.drop (off + i * 35)).take 35 = rc ∧ OpAt H rc o := by
  obtain ⟨rcs, h1, h2, h3⟩ := h.rows
  obtain ⟨rc, hrc⟩ : ∃ rc, rcs[i]? = some rc := ⟨_, List.getElem?_eq_getElem (by have := (List.getElem?_eq_some_iff.1 hi).1; omega)⟩
  obtain ⟨R, ver, off, kc, ex, cells, e1, e2, e3, e4⟩ := h1.at hrc
  rw [h2] at e1
  exact ⟨R, ver, off, kc, ex, cells, rc, e1, h.lies _ _ _ _ _ _ _ e1, e2, e3, e4, h3 i rc o hrc hi⟩
theorem ProgAt.one {pv : AVal} {p : List OpP} (h : ProgAt H pv p) : pv.one = true := let ⟨_, h1, _⟩ := h.rows; h1.one
structure ProgsAt (H : AHeap) (v : AVal) (ps : List (List OpP)) : Prop where
  rows : ∃ pvs : List AVal, RdE H 1 v (pvs.map fun x => [x]) ∧ pvs.length = ps.length ∧ ∀ (i : Nat) pv p, pvs[i]? = some pv → ps[i]? = some p → ProgAt H pv p
  lies : v.lies (· < H.next)
  len : (ps.length + 1) * 24 ≤ 140737488355328
theorem ProgsAt.grow {ps : List (List OpP)} (h : ProgsAt H v ps) (hg : Grow H H') : ProgsAt H' v ps :=
  ⟨let ⟨rcs, h1, h2, h3⟩ := h.rows; ⟨rcs, h1.grow hg h.lies, h2, fun i rc o a b => (h3 i rc o a b).grow hg⟩, fun R ver off len kcap ex esz e => Nat.lt_of_lt_of_le (h.lies R ver off len kcap ex esz e) hg.next, h.len⟩
theorem ProgsAt.lenS {ps : List (List OpP)} (h : ProgsAt H v ps) : aLenS v = some (vi ps.length) := by
  obtain ⟨rcs, h1, h2, _⟩ := h.rows
  rw [← h2]; have := h1.lenS; rwa [List.length_map] at this
theorem ProgsAt.at {ps : List (List OpP)} (h : ProgsAt H v ps) {i : Nat} {p : List OpP} (hi : ps[i]? = some p) :
    ∃ R ver off kc ex cells pv, v = .slice R ver off ps.length kc ex 1 ∧ R < H.next ∧ H.rowAt R ver = some cells ∧ off + i + 1 ≤ cells.length ∧ cells[off + i]? = some pv ∧ ProgAt H pv p := by
  obtain ⟨rcs, h1, h2, h3⟩ := h.rows
  obtain ⟨pv, hrc⟩ : ∃ rc, rcs[i]? = some rc := ⟨_, List.getElem?_eq_getElem (by have := (List.getElem?_eq_some_iff.1 hi).1; omega)⟩
  obtain ⟨R, ver, off, kc, ex, cells, e1, e2, e3, e4⟩ := h1.at (i := i) (e := [pv]) (by rw [List.getElem?_map, hrc]; rfl)
  rw [List.length_map, h2] at e1
  rw [Nat.mul_one] at e3 e4
  exact ⟨R, ver, off, kc, ex, cells, pv, e1, h.lies _ _ _ _ _ _ _ e1, e2, e3, part_at (j := 0) e4 (by omega), h3 i pv p hrc hi⟩
def mx (a b : Int) : Int := if a < b then b else a
theorem mx_is (a b : Int) : aMinMax true (vi a) [vi b] = some (vi (mx a b)) := by
  unfold mx
  by_cases h : a < b <;> simp [-getElem?_pos, aMinMax, ilt_eq, h]
theorem mx_assoc (a b c : Int) : mx (mx a b) c = mx a (mx b c) := by
  unfold mx; (repeat' split) <;> omega
structure CntS where
  ins : Bool
  n : Int
  k : Int
  r : Int
def cntO (b m : Int) (s : CntS) (o : OpP) : Option CntS :=
  if s.ins = false then
    if o.kind = 1 ∧ (formP o.set b m).1 = 0 then some ⟨true, 0, s.k, mx s.r (formP o.set b m).2⟩ else some s
  else if o.kind = 4 then some ⟨false, s.n, mx s.k s.n, s.r⟩
  else if o.kind = 5 then none
  else some ⟨true, s.n + 1, s.k, s.r⟩
def cntP (b m : Int) : List OpP → CntS → Option CntS
  | [], s => some s
  | o :: p, s => (cntO b m s o).bind (cntP b m p)
theorem cntP_at {b m : Int} {p : List OpP} {i : Nat} {o : OpP} (h : p[i]? = some o) (s : CntS) : cntP b m (p.drop i) s = (cntO b m s o).bind (cntP b m (p.drop (i + 1))) := by
  obtain ⟨hi, rfl⟩ := List.getElem?_eq_some_iff.1 h
  rw [List.drop_eq_getElem_cons hi]; rfl
theorem cntP_more (b m : Int) : ∀ (p : List OpP) (ins : Bool) (n k r k0 r0 : Int), cntP b m p ⟨ins, n, mx k0 k, mx r0 r⟩ = (cntP b m p ⟨ins, n, k, r⟩).map fun s => ⟨s.ins, s.n, mx k0 s.k, mx r0 s.r⟩
  | [], ins, n, k, r, k0, r0 => rfl
  | o :: p, ins, n, k, r, k0, r0 => by
    simp only [cntP, cntO]
    split
    · split
      · simp only [Option.bind_some]
        rw [mx_assoc, cntP_more b m p]
      · simp only [Option.bind_some]
        rw [cntP_more b m p]
    · split
      · simp only [Option.bind_some]
        rw [mx_assoc, cntP_more b m p]
      · split
        · rfl
        · simp only [Option.bind_some]
          rw [cntP_more b m p]
def premP (b m : Int) : List (List OpP) → Int → Int → Int × Int × Bool
  | [], k, r => (k, r, true)
  | p :: ps, k, r => match cntP b m p ⟨false, 0, 0, 0⟩ with
    | some s => if s.ins then (0, 0, false) else premP b m ps (mx k s.k) (mx r s.r)
    | none => (0, 0, false)
def premR (b m : Int) : List (List OpP) → Int → Int → Int × Int × Bool
  | [], k, r => (k, r, true)
  | p :: ps, k, r => match cntP b m p ⟨false, 0, k, r⟩ with
    | some s => if s.ins then (0, 0, false) else premR b m ps s.k s.r
    | none => (0, 0, false)
theorem mx_zero {k : Int} (h : 0 ≤ k) : mx k 0 = k := by unfold mx; split <;> omega
theorem mx_nn {a b : Int} (h : 0 ≤ a) : 0 ≤ mx a b := by unfold mx; split <;> omega
theorem prem_same (b m : Int) : ∀ (ps : List (List OpP)) (k r : Int), 0 ≤ k → 0 ≤ r → premR b m ps k r = premP b m ps k r
  | [], _, _, _, _ => rfl
  | p :: ps, k, r, hk, hr => by
    have h := cntP_more b m p false 0 0 0 k r
    rw [mx_zero hk, mx_zero hr] at h
    simp only [premR, premP, h]
    cases hc : cntP b m p ⟨false, 0, 0, 0⟩ with
    | none => rfl
    | some s =>
      simp only [Option.map_some]
      split
      · rfl
      · exact prem_same b m ps _ _ (mx_nn hk) (mx_nn hr)
end Go.Proofs.YtipmhhogebnpkaaGreatDoor
