/- Walks: programs in new memory. -/
import Derived.Test.YtipmhhogebnpkaaGreatDoorP24
import Derived.Test.YtipmhhogebnpkaaGreatDoorP18
import Derived.Test.YtipmhhogebnpkaaGreatDoorProg
namespace Go.Proofs.YtipmhhogebnpkaaGreatDoor
open Go Go.Vm
set_option linter.unusedVariables false
set_option linter.unusedSimpArgs false
variable {kn : Known} {env : Nat → Option AFunc}
variable {H H' H0 H2 : AHeap} {v pv : AVal} {kx : Known} {p : List OpP} {ps : List (List OpP)} {l : List Int} {S S' : Nat → Prop}
theorem int_own (h : Ints H v l) (hl : l.length ≤ 17592186044416) : ∃ sv H', aAppend (H.push (.row [some (0, [])])) 1 8 (.slice H.next 0 0 0 0 true 1) v = some (sv, H') ∧ Grow H H' ∧ Ints H' sv l ∧ (sv.lies fun A => H.next ≤ A) ∧ sv.one = true := by
  by_cases h0 : l = []
  · subst h0
    have h1 := (h.grow (Grow.push H (.row [some (0, [])]))).rd
    refine ⟨.slice H.next 0 0 0 0 true 1, H.push (.row [some (0, [])]), ?_, Grow.push _ _, ⟨⟨fun e he => by simp [-getElem?_pos] at he, .inr ⟨H.next, 0, 0, 0, true, [], rfl, by simp [-getElem?_pos], by simp [-getElem?_pos], by simp [-getElem?_pos], by simp [-getElem?_pos]⟩⟩, fun R ver off len kcap ex esz e => by cases e; simp [-getElem?_pos]⟩, fun R ver off len kcap ex esz e => by cases e; exact Nat.le_refl _, rfl⟩
    simp only [aAppend, h1.len, h1.aCells, Option.bind_some, List.map_nil, List.length_nil, if_true]
  · obtain ⟨R, ver, nv, H', e1, e2, e3, e4, e5⟩ := int_copy h h0 hl
    refine ⟨_, H', e1, e5, ⟨⟨fun e he => ?_, .inr ⟨R, ver, 0, l.length, false, l.map vi, by rw [intC_len], e4.at, by rw [intC_len]; exact Nat.le_refl _, by rw [intC_len]; simp [-getElem?_pos], ?_⟩⟩, fun R' ver off len kcap ex esz e => by cases e; exact e3⟩, fun R' ver off len kcap ex esz e => by cases e; exact e2, rfl⟩
    · obtain ⟨d, _, rfl⟩ := List.mem_map.1 he
      rfl
    · rw [intC_flat, intC_len, List.drop_zero, Nat.mul_one, List.take_of_length_le (by simp [-getElem?_pos])]
structure OpIn (S : Nat → Prop) (H : AHeap) (rc : List AVal) (o : OpP) : Prop where
  at_ : OpAt H rc o
  in_ : ∀ sv, rc[1]? = some sv → sv.lies S
theorem AVal.lies_mono (h : v.lies S) (hS : ∀ A, S A → S' A) : v.lies S' := fun R ver off len kcap ex esz e => hS _ (h R ver off len kcap ex esz e)
theorem Ints.move (h : Ints H v l) (hl : v.lies S) (hg : ∀ A, S A → H'.get A = H.get A) (hn : H.next ≤ H'.next) : Ints H' v l :=
  ⟨h.rd.move fun R ver off len kcap ex e => by unfold AHeap.rowAt; rw [hg R (hl _ _ _ _ _ _ _ e)], AVal.lies_mono h.lies fun A hA => Nat.lt_of_lt_of_le hA hn⟩
theorem OpIn.move {rc : List AVal} {o : OpP} (h : OpIn S H rc o) (hg : ∀ A, S A → H'.get A = H.get A) (hn : H.next ≤ H'.next) (hS : ∀ A, S A → S' A) : OpIn S' H' rc o := by
  obtain ⟨sv, h1, h2⟩ := h.at_.s
  exact ⟨⟨h.at_.len, h.at_.k, ⟨sv, h1, h2.move (h.in_ sv h1) hg hn⟩, h.at_.b, h.at_.v, h.at_.ok, h.at_.sl⟩, fun sv hq => AVal.lies_mono (h.in_ sv hq) hS⟩
structure ProgIn (S : Nat → Prop) (H : AHeap) (pv : AVal) (p : List OpP) : Prop where
  rows : ∃ rcs, RdE H 35 pv rcs ∧ rcs.length = p.length ∧ ∀ (i : Nat) rc o, rcs[i]? = some rc → p[i]? = some o → OpIn S H rc o
  lies : pv.lies fun A => S A ∧ A < H.next
  len : (p.length + 1) * 72 ≤ 140737488355328
theorem ProgIn.at_ (h : ProgIn S H pv p) : ProgAt H pv p := ⟨let ⟨rcs, h1, h2, h3⟩ := h.rows; ⟨rcs, h1, h2, fun i rc o a b => (h3 i rc o a b).at_⟩, AVal.lies_mono h.lies fun _ h => h.2, h.len⟩
theorem ProgIn.move (h : ProgIn S H pv p) (hg : ∀ A, S A → H'.get A = H.get A) (hn : H.next ≤ H'.next) (hS : ∀ A, S A → S' A) : ProgIn S' H' pv p :=
  ⟨let ⟨rcs, h1, h2, h3⟩ := h.rows; ⟨rcs, h1.move fun R ver off len kcap ex e => by unfold AHeap.rowAt; rw [hg R (h.lies _ _ _ _ _ _ _ e).1], h2, fun i rc o a b => (h3 i rc o a b).move hg hn hS⟩, AVal.lies_mono h.lies fun A hA => ⟨hS A hA.1, Nat.lt_of_lt_of_le hA.2 hn⟩, h.len⟩
set_option maxHeartbeats 8000000 in
theorem c9 (h : FnX kx kn env 9 p9) (n : Nat) (hp : ProgsAt H v ps) (hn : 100000000000000 < n) :
    ∃ v' H', callX kx kn env (n + 1) (.func (.func 9) []) [v] H = some (v', H') ∧ Grow H H' ∧ ProgsAt H' v' ps := by
  have hlen := hp.lenS
  have hplen := hp.len
  refine Wp.callX (R := fun v' H' => Grow H H' ∧ ProgsAt H' v' ps) 38 [0, 2, 3, 4, 5, 7, 9, 10, 11, 16, 17, 18, 19] h rfl (by simp [-getElem?_pos]) (n := n) ?_
  repeat (first | apply Wp.seq | apply Wp.blk | apply Wp.ret | apply Wp.skip | apply Wp.exit | apply Wp.cT rfl | apply Wp.cF rfl | ((apply Wp.reg; (repeat (apply Ex.cons; (simp (disch := omega) [-getElem?_pos, hlen]; rfl))); exact Ex.nil; rfl; (simp [-getElem?_pos]; rfl))))
  apply Wp.loop (α := Nat × AVal × AHeap) (fun y => [(0, v), (3, y.2.1), (9, vi ps.length), (10, vi y.1)]) (·.2.2)
    (fun y => y.1 ≤ ps.length ∧ Grow H y.2.2 ∧ ∃ pvs : List AVal, SliceE y.2.2 H.next 1 y.2.1 (pvs.map fun x => [x]) ∧ pvs.length = y.1 ∧ ∀ (q : Nat) pv p, pvs[q]? = some pv → ps[q]? = some p → ProgIn (fun A => A < y.2.2.next ∧ y.2.1.lies (· ≠ A)) y.2.2 pv p)
    (fun y => ps.length - y.1) (0, ns, H) rfl ⟨Nat.zero_le _, Grow.refl _, [], SliceE.nil _ _ _, rfl, fun q pv p h => by simp [-getElem?_pos] at h⟩ (by show ps.length - 0 < _; omega) (by simp [-getElem?_pos])
  rintro ⟨i, vo, H2⟩ ⟨hil, hg2, pvs, hso, hpl, hpi⟩
  dsimp only at hil hg2 hso hpl hpi ⊢
  have hw1 : wrapF .i64 ((i : Int) + 1) = (i : Int) + 1 := wrap_small (by omega) (by omega)
  by_cases hi : i < ps.length
  · obtain ⟨p, hpp⟩ : ∃ p, ps[i]? = some p := ⟨_, List.getElem?_eq_getElem hi⟩
    obtain ⟨R, ver, off, kc, ex, cells, pv, hv, hR, hrow, hb1, hc1, hP⟩ := (hp.grow hg2).at hpp
    have hpl2 := hP.len
    have hpls := hP.lenS
    repeat (first | apply Wp.seq | apply Wp.blk | apply Wp.ret | apply Wp.skip | apply Wp.exit | apply Wp.cT rfl | apply Wp.cF rfl | ((apply Wp.reg; (repeat (apply Ex.cons; (simp (disch := omega) [-getElem?_pos, hlen, hi, hv, hrow, hb1, hc1, hpls]; rfl))); exact Ex.nil; rfl; (simp [-getElem?_pos]; rfl))))
    apply Wp.loop (α := Nat × AVal × AHeap) (fun y => [(0, .slice R ver off ps.length kc ex 1), (3, vo), (5, y.2.1), (9, vi ps.length), (10, vi i), (16, pv), (17, vi p.length), (18, vi y.1)]) (·.2.2)
      (fun y => y.1 ≤ p.length ∧ Grow H2 y.2.2 ∧ ∃ rcs, SliceE y.2.2 H2.next 35 y.2.1 rcs ∧ rcs.length = y.1 ∧ ∀ (q : Nat) rc o, rcs[q]? = some rc → p[q]? = some o → OpIn (fun A => H2.next ≤ A ∧ A < y.2.2.next ∧ y.2.1.lies (· ≠ A)) y.2.2 rc o)
      (fun y => p.length - y.1) (0, ns, H2) rfl ⟨Nat.zero_le _, Grow.refl _, [], SliceE.nil _ _ _, rfl, fun q pv p h => by simp [-getElem?_pos] at h⟩ (by show p.length - 0 < _; omega) (by simp [-getElem?_pos])
    rintro ⟨j, vl, H3⟩ ⟨hjl, hg3, rcs, hsl, hrl, hri⟩
    dsimp only at hjl hg3 hsl hrl hri ⊢
    have hwj : wrapF .i64 ((j : Int) + 1) = (j : Int) + 1 := wrap_small (by omega) (by omega)
    have hn3 := hg3.next
    by_cases hj : j < p.length
    · obtain ⟨o, ho⟩ : ∃ o, p[j]? = some o := ⟨_, List.getElem?_eq_getElem hj⟩
      obtain ⟨R2, ver2, off2, kc2, ex2, cells2, rc, hv2, hR2, hrow2, hb2, hd2, hop⟩ := (hP.grow hg3).at ho
      obtain ⟨sv, hrc, hI⟩ := hop.cells
      have hone := hop.one
      have hlen35 := hop.len
      rw [hrc] at hd2 hone hlen35
      have hvl : o.val.length = 32 := by simpa [-getElem?_pos] using hlen35
      obtain ⟨H4, hw4, hg4, hcl4, hn4⟩ := newCells H3 (z := zop) (e := vi o.kind :: sv :: vi o.blk :: o.val) (by rw [hlen35]; rfl) (by simp [-getElem?_pos]) hone
      have hX := hcl4.at
      obtain ⟨sv', H5, ha5, hg5, hI5, hlies5, hone5⟩ := int_own (hI.grow hg4) hop.sl
      have hcl5 : Cells H5 H3.next (vi o.kind :: sv :: vi o.blk :: o.val) := hcl4.mono (hg5.get _ (by omega))
      have hX5 := hcl5.at
      have hwr := hcl5.write (off := 1) (vs := [sv']) (by simp [-getElem?_pos]) (by simp [-getElem?_pos]) (by simp [-getElem?_pos, hone5])
      obtain ⟨H6, hH6⟩ : ∃ H6, H6 = H5.set H3.next (.row [some (0, spl (vi o.kind :: sv :: vi o.blk :: o.val) 1 [sv'])]) := ⟨_, rfl⟩
      rw [← hH6] at hwr
      have hsp : spl (vi o.kind :: sv :: vi o.blk :: o.val) 1 [sv'] = vi o.kind :: sv' :: vi o.blk :: o.val := by simp [-getElem?_pos, spl]
      have hX6 : H6.rowAt H3.next 0 = some (vi o.kind :: sv' :: vi o.blk :: o.val) := by rw [hH6, hsp]; simp [-getElem?_pos]
      have hn6 : H6.next = H5.next := by rw [hH6]; rfl
      have hget6 : ∀ A, A ≠ H3.next → H6.get A = H5.get A := fun A hA => by rw [hH6, AHeap.get_set_ne _ _ hA]
      have hn5 := hg5.next
      have hone' : (vi o.kind :: sv' :: vi o.blk :: o.val).all AVal.one = true := by
        rw [List.all_cons, List.all_cons] at hone ⊢
        simp only [Bool.and_eq_true] at hone ⊢
        exact ⟨hone.1, hone5, hone.2.2⟩
      have hslm : SliceE (H6.push (.row [some (0, vi o.kind :: sv' :: vi o.blk :: o.val)])) H2.next 35 vl rcs := hsl.move (Nat.le_refl _) (by simp [-getElem?_pos]; omega) fun A _ hA => by
        rw [AHeap.get_push_ne _ _ (by omega), hget6 A (by omega), hg5.get A (by omega), hg4.get A hA]
      obtain ⟨va, Ha, ha7, hsa, hna, hka, hka2, hlia⟩ := hslm.append (bytes := 72) (by simp [-getElem?_pos]; omega) (X := H6.next) (e := vi o.kind :: sv' :: vi o.blk :: o.val) (by simp [-getElem?_pos]) (by simpa [-getElem?_pos] using hvl) (by omega) (by omega) hone' (by rw [hrl]; omega) (ex := true) (kc := 1)
      have hna' : H6.next + 1 ≤ Ha.next := by simpa [-getElem?_pos] using hna
      have hold : ∀ A, A < H3.next → vl.lies (· ≠ A) → Ha.get A = H3.get A := fun A h1 h2 => by
        rw [hka2 A (by simp [-getElem?_pos]; omega) h2, AHeap.get_push_ne _ _ (by omega), hget6 A (by omega), hg5.get A (by omega), hg4.get A h1]
      have hga : Grow H2 Ha := ⟨by omega, fun A hA => by
        rw [hka A hA, AHeap.get_push_ne _ _ (by omega), hget6 A (by omega), hg5.get A (by omega), hg4.get A (by omega), hg3.get A hA]⟩
      have hvll := hsl.lies
      have hnew : OpIn (fun A => H2.next ≤ A ∧ A < Ha.next ∧ va.lies (· ≠ A)) Ha (vi o.kind :: sv' :: vi o.blk :: o.val) o := by
        have h1 : OpIn (fun A => H4.next ≤ A ∧ A < H5.next) H5 (vi o.kind :: sv' :: vi o.blk :: o.val) o := ⟨⟨by simpa [-getElem?_pos] using hvl, rfl, ⟨sv', rfl, hI5⟩, rfl, rfl, hop.ok, hop.sl⟩, fun s hs => by
          have hs : sv' = s := by simpa [-getElem?_pos] using hs
          subst hs
          exact fun R ver off len kcap ex esz e => ⟨hlies5 _ _ _ _ _ _ _ e, hI5.lies _ _ _ _ _ _ _ e⟩⟩
        refine h1.move (fun A hA => ?_) (by omega) fun A hA => ⟨by omega, by omega, hlia _ (AVal.lies_mono hvll fun R hR => by omega) fun R hR => by simp [-getElem?_pos] at hR; omega⟩
        rw [hka2 A (by simp [-getElem?_pos]; omega) (AVal.lies_mono hvll fun R hR => by omega), AHeap.get_push_ne _ _ (by omega), hget6 A (by omega)]
      have hri' : ∀ (q : Nat) rc o', (rcs ++ [vi o.kind :: sv' :: vi o.blk :: o.val])[q]? = some rc → p[q]? = some o' → OpIn (fun A => H2.next ≤ A ∧ A < Ha.next ∧ va.lies (· ≠ A)) Ha rc o' := fun q rc o' h1 h2 => by
        rcases Nat.lt_or_ge q rcs.length with hq | hq
        · rw [List.getElem?_append_left hq] at h1
          exact (hri q rc o' h1 h2).move (fun A hA => hold A hA.2.1 hA.2.2) (by omega) fun A hA => ⟨hA.1, by omega, hlia _ hA.2.2 fun R hR => by simp [-getElem?_pos] at hR; show R ≠ A; omega⟩
        · have hqe : q = rcs.length := by
            have := (List.getElem?_eq_some_iff.1 h1).1
            simp [-getElem?_pos] at this; omega
          subst hqe
          rw [List.getElem?_append_right (Nat.le_refl _), Nat.sub_self] at h1
          cases h1
          rw [hrl, ho] at h2; cases h2
          exact hnew
      have hcell5 := cells_one hone5
      have htk : o.val.take 32 = o.val := List.take_of_length_le (by omega)
      repeat (first | apply Wp.seq | apply Wp.blk | apply Wp.ret | apply Wp.skip | apply Wp.exit | apply Wp.cT rfl | apply Wp.cF rfl | ((apply Wp.reg; (repeat (apply Ex.cons; (simp (disch := omega) [-getElem?_pos, hj, hv2, hrow2, hb2, hd2, hw4, hX, ha5, hwr, hcell5, hX5, hX6, ha7, hvl, htk, hwj, repl, aFill]; rfl))); exact Ex.nil; rfl; (simp [-getElem?_pos]; rfl))))
      exact ⟨(j + 1, va, Ha), rfl, ⟨by show j + 1 ≤ _; omega, hga, _, hsa, by rw [List.length_append, hrl]; rfl, hri'⟩, by show p.length - (j + 1) < _; omega, by simp [-getElem?_pos, hv2]⟩
    · have hje : j = p.length := by omega
      have hvll := hsl.lies
      have hso3 : SliceE H3 H.next 1 vo (pvs.map fun x => [x]) := hso.move (Nat.le_refl _) (by omega) fun A _ hA => hg3.get A hA
      have hnewP : ProgIn (fun A => A < H3.next ∧ vo.lies (· ≠ A)) H3 vl p := ⟨⟨rcs, hsl.rd, by rw [hrl, hje], fun q rc o h1 h2 => (hri q rc o h1 h2).move (fun _ _ => rfl) (Nat.le_refl _) fun A hA => ⟨hA.2.1, AVal.lies_mono hso.lies fun R hR => by omega⟩⟩, AVal.lies_mono hvll fun R hR => ⟨⟨by omega, AVal.lies_mono hso.lies fun R' hR' => by omega⟩, by omega⟩, hP.len⟩
      have holdP : ∀ (q : Nat) pv p, pvs[q]? = some pv → ps[q]? = some p → ProgIn (fun A => A < H3.next ∧ vo.lies (· ≠ A)) H3 pv p := fun q pv p h1 h2 => (hpi q pv p h1 h2).move (fun A hA => hg3.get A hA.1) hn3 fun A hA => ⟨by omega, hA.2⟩
      have honel : vl.one = true := hsl.rd.one
      have hcelll := cells_one honel
      have hsom : SliceE (H3.push (.row [some (0, [vl])])) H.next 1 vo (pvs.map fun x => [x]) := hso3.move (Nat.le_refl _) (by simp [-getElem?_pos]) fun A _ hA => AHeap.get_push_ne _ _ (by omega)
      have hgH3 : Grow H H3 := hg2.trans hg3
      have hnH := hgH3.next
      obtain ⟨va, Ha, ha7, hsa, hna, hka, hka2, hlia⟩ := hsom.append (bytes := 24) (by simp [-getElem?_pos]; omega) (X := H3.next) (e := [vl]) (by simp [-getElem?_pos]) rfl (by omega) (by omega) (by simp [-getElem?_pos, honel]) (by rw [List.length_map, hpl]; omega) (ex := true) (kc := 1)
      have hna' : H3.next + 1 ≤ Ha.next := by simpa [-getElem?_pos] using hna
      have hga : Grow H Ha := ⟨by omega, fun A hA => by rw [hka A hA, AHeap.get_push_ne _ _ (by omega), hgH3.get A hA]⟩
      have hmv : ∀ (pv : AVal) (p : List OpP), ProgIn (fun A => A < H3.next ∧ vo.lies (· ≠ A)) H3 pv p → ProgIn (fun A => A < Ha.next ∧ va.lies (· ≠ A)) Ha pv p := fun pv p h => h.move (fun A hA => by rw [hka2 A (by simp [-getElem?_pos]; omega) hA.2, AHeap.get_push_ne _ _ (by omega)]) (by omega) fun A hA => ⟨by omega, hlia _ hA.2 fun R hR => by simp [-getElem?_pos] at hR; show R ≠ A; omega⟩
      have hfin : ∀ (q : Nat) pv' p', (pvs ++ [vl])[q]? = some pv' → ps[q]? = some p' → ProgIn (fun A => A < Ha.next ∧ va.lies (· ≠ A)) Ha pv' p' := fun q pv' p' h1 h2 => by
        rcases Nat.lt_or_ge q pvs.length with hq | hq
        · rw [List.getElem?_append_left hq] at h1
          exact hmv _ _ (holdP q pv' p' h1 h2)
        · have hqe : q = pvs.length := by
            have := (List.getElem?_eq_some_iff.1 h1).1
            simp [-getElem?_pos] at this; omega
          subst hqe
          rw [List.getElem?_append_right (Nat.le_refl _), Nat.sub_self] at h1
          cases h1
          rw [hpl, hpp] at h2; cases h2
          exact hmv _ _ hnewP
      have hsa' : SliceE Ha H.next 1 va ((pvs ++ [vl]).map fun x => [x]) := by rw [List.map_append]; exact hsa
      repeat (first | apply Wp.seq | apply Wp.blk | apply Wp.ret | apply Wp.skip | apply Wp.exit | apply Wp.cT rfl | apply Wp.cF rfl | ((apply Wp.reg; (repeat (apply Ex.cons; (simp (disch := omega) [-getElem?_pos, hj, hcelll, ha7, hw1, repl, aFill]; rfl))); exact Ex.nil; rfl; (simp [-getElem?_pos]; rfl))))
      exact ⟨(i + 1, va, Ha), rfl, ⟨by show i + 1 ≤ _; omega, hga, _, hsa', by rw [List.length_append, hpl]; rfl, hfin⟩, by show ps.length - (i + 1) < _; omega, by simp [-getElem?_pos, hv]⟩
  · have hie : i = ps.length := by omega
    repeat (first | apply Wp.seq | apply Wp.blk | apply Wp.ret | apply Wp.skip | apply Wp.exit | apply Wp.cT rfl | apply Wp.cF rfl | ((apply Wp.reg; (repeat (apply Ex.cons; (simp (disch := omega) [-getElem?_pos, hi]; rfl))); exact Ex.nil; rfl; (simp [-getElem?_pos]; rfl))))
    simp [-getElem?_pos, p9]
    exact ⟨hg2, ⟨pvs, hso.rd, by rw [hpl, hie], fun q pv p h1 h2 => (hpi q pv p h1 h2).at_⟩, AVal.lies_mono hso.lies fun R hR => hR.2, hplen⟩
end Go.Proofs.YtipmhhogebnpkaaGreatDoor
namespace Go.Proofs.YtipmhhogebnpkaaGreatDoor
open Go Go.Vm
set_option linter.unusedVariables false
set_option linter.unusedSimpArgs false
variable {kn : Known} {env : Nat → Option AFunc}
variable {H H' H0 H2 : AHeap} {v u pv : AVal} {kx : Known} {p : List OpP} {ps : List (List OpP)} {l : List Int}
theorem eqLoop_t {xs : List AVal} (hx : ∀ c ∈ xs, ∃ k : Int, c = .raw (.int .u8 k)) : ∀ (n i : Nat), xs.length = i + n → aEqLoop (aEqP .int) false 1 xs xs i n = some true
  | 0, i, h1 => by simp [-getElem?_pos, aEqLoop]
  | n + 1, i, h1 => by
    obtain ⟨a, ha⟩ := hx (xs[i]'(by omega)) (List.getElem_mem _)
    have ga : xs[i]? = some (.raw (.int .u8 a)) := by rw [← ha]; exact List.getElem?_eq_getElem _
    have ih := eqLoop_t hx n (i + 1) (by omega)
    have hone : aEqP .int (.raw (.int .u8 a)) (.raw (.int .u8 a)) = some true := by simp only [aEqP, if_true, ieq_eq, decide_true]
    unfold aEqLoop
    simp only [aPart, Nat.mul_one, ga, Bool.false_eq_true, if_false, Option.bind_some, hone, ih, if_true]
theorem eqVal_t {a : List AVal} (ha : Bytes32 a) : aEqP (.arr 32 1 false .int) (.agg a) (.agg a) = some true := by
  have := eqLoop_t ha.at_ 32 0 (by rw [ha.len])
  simpa [-getElem?_pos, aEqP] using this
theorem beqs_bytes : ∀ {a : List AVal}, (∀ c ∈ a, ∃ k : Int, c = .raw (.int .u8 k)) → AVal.beqs a a = true
  | [], _ => by simp [-getElem?_pos]
  | c :: r, h => by
    obtain ⟨k, rfl⟩ := h c (List.mem_cons_self ..)
    simp [-getElem?_pos, beqs_bytes fun x hx => h x (List.mem_cons_of_mem _ hx)]
theorem c29 (h : FnX kx kn env 29 p29) (n : Nat) (hu : Ints H u l) (hv : Ints H v l) (hl : l.length ≤ 17592186044416) (hn : 100000000000000 < n) : callX kx kn env (n + 1) (.func (.func 29) []) [u, v] H = some (abool true, H) := by
  have hlu := hu.lenS
  have hlv := hv.lenS
  refine Wp.callX1 26 [0, 1, 4, 5, 10, 14, 25] h rfl (by simp [-getElem?_pos]) (n := n) ?_
  repeat (first | apply Wp.seq | apply Wp.blk | apply Wp.ret | apply Wp.skip | apply Wp.exit | apply Wp.cT rfl | apply Wp.cF rfl | ((apply Wp.reg; (repeat (apply Ex.cons; (simp (disch := omega) [-getElem?_pos, hlu, hlv]; rfl))); exact Ex.nil; rfl; (simp [-getElem?_pos]; rfl))))
  apply Wp.loop (α := Nat) (fun y => [(0, u), (1, v), (5, vi y)]) (fun _ => H) (fun y => y ≤ l.length) (fun y => l.length - y) 0 rfl (Nat.zero_le _) (by show l.length - 0 < _; omega) (by simp [-getElem?_pos])
  intro i hil
  have hw1 : wrapF .i64 ((i : Int) + 1) = (i : Int) + 1 := wrap_small (by omega) (by omega)
  by_cases hi : i < l.length
  · obtain ⟨d, hd⟩ : ∃ d, l[i]? = some d := ⟨_, List.getElem?_eq_getElem hi⟩
    obtain ⟨R, ver, off, kc, ex, cells, hv1, hR, hrow, hb, hc⟩ := hu.at hd
    obtain ⟨R2, ver2, off2, kc2, ex2, cells2, hv2, hR2, hrow2, hb2, hc2⟩ := hv.at hd
    repeat (first | apply Wp.seq | apply Wp.blk | apply Wp.ret | apply Wp.skip | apply Wp.exit | apply Wp.cT rfl | apply Wp.cF rfl | ((apply Wp.reg; (repeat (apply Ex.cons; (simp (disch := omega) [-getElem?_pos, hlu, hi, hv1, hrow, hb, hc, hv2, hrow2, hb2, hc2, hw1]; rfl))); exact Ex.nil; rfl; (simp [-getElem?_pos]; rfl))) | ((apply Wp.draw; (repeat (first | ((first | apply Dr.q rfl rfl | apply Dr.r rfl rfl); (simp (disch := omega) [-getElem?_pos, hlu, hi, hv1, hrow, hb, hc, hv2, hrow2, hb2, hc2, hw1]; rfl); (simp [-getElem?_pos]; rfl)) | (apply Dr.imm rfl; (simp (disch := omega) [-getElem?_pos, hlu, hi, hv1, hrow, hb, hc, hv2, hrow2, hb2, hc2, hw1]; rfl); (focus first | (simp [-getElem?_pos]; done) | (simp [-getElem?_pos]; omega))))); exact Dr.nil; rfl; (first | (focus (simp (disch := omega) [-getElem?_pos, hlu, hi, hv1, hrow, hb, hc, hv2, hrow2, hb2, hc2, hw1]; done)) | rfl); (simp [-getElem?_pos]; rfl))))
    exact ⟨i + 1, rfl, by omega, by omega, by simp [-getElem?_pos, hv1, hv2]⟩
  · repeat (first | apply Wp.seq | apply Wp.blk | apply Wp.ret | apply Wp.skip | apply Wp.exit | apply Wp.cT rfl | apply Wp.cF rfl | ((apply Wp.reg; (repeat (apply Ex.cons; (simp (disch := omega) [-getElem?_pos, hlu, hi]; rfl))); exact Ex.nil; rfl; (simp [-getElem?_pos]; rfl))))
    simp [-getElem?_pos, p29]
theorem c28 (h : FnX kx kn env 28 p28) (n : Nat) (hn : 10 < n) : callX kx kn env (n + 1) (.func (.func 28) []) [ns, ns] H = some (abool true, H) := by
  refine Wp.callX1 29 [0, 1, 4, 5, 6, 11, 15, 28] h rfl (by simp [-getElem?_pos]) (n := n) ?_
  repeat (first | apply Wp.seq | apply Wp.blk | apply Wp.ret | apply Wp.skip | apply Wp.exit | apply Wp.cT rfl | apply Wp.cF rfl | ((apply Wp.reg; (repeat (apply Ex.cons; (simp (disch := omega) [-getElem?_pos, aLenS]; rfl))); exact Ex.nil; rfl; (simp [-getElem?_pos]; rfl))))
  apply Wp.loop (α := Nat) (fun y => [(0, ns), (1, ns), (5, vi 0)]) (fun _ => H) (fun y => True) (fun y => 0) 0 rfl trivial (by show 0 < n; omega) (by simp [-getElem?_pos])
  intro i hil
  repeat (first | apply Wp.seq | apply Wp.blk | apply Wp.ret | apply Wp.skip | apply Wp.exit | apply Wp.cT rfl | apply Wp.cF rfl | ((apply Wp.reg; (repeat (apply Ex.cons; (simp (disch := omega) [-getElem?_pos, aLenS]; rfl))); exact Ex.nil; rfl; (simp [-getElem?_pos]; rfl))))
  simp [-getElem?_pos, p28]
abbrev histC (v : AVal) : List AVal := [zi, zi, zi, zi, zi, v, ns, ns, ns]
set_option maxHeartbeats 16000000 in
theorem c12 (h : FnX kx kn env 12 p12) (h1 : FnX kx kn env 29 p29) (h2 : FnX kx kn env 28 p28) (n : Nat) (hu : ProgsAt H u ps) (hv : ProgsAt H v ps) (hn : 100000000000000 < n) :
    ∃ H', callX kx kn env (n + 2) (.func (.func 12) []) [.agg (histC u), .agg (histC v)] H = some (abool true, H') := by
  suffices hh : ∃ r H', callX kx kn env (n + 2) (.func (.func 12) []) [.agg (histC u), .agg (histC v)] H = some (r, H') ∧ r = abool true by
    obtain ⟨r, H', h1, rfl⟩ := hh
    exact ⟨H', h1⟩
  have hlu := hu.lenS
  have hlv := hv.lenS
  have hpl := hu.len
  obtain ⟨H1, hH1⟩ : ∃ H1, H1 = (H.push (.row [some (0, histC u)])).push (.row [some (0, histC v)]) := ⟨_, rfl⟩
  have hg1 : Grow H H1 := by rw [hH1]; exact (Grow.push _ _).trans (Grow.push _ _)
  have hX1 : H1.rowAt H.next 0 = some (histC u) := by rw [hH1]; simp [-getElem?_pos]
  have hY1 : H1.rowAt (H.next + 1) 0 = some (histC v) := by rw [hH1]; simp [-getElem?_pos]
  have hn1 : H1.next = H.next + 2 := by rw [hH1]; simp [-getElem?_pos]
  have r1 := c28 (H := H1) h2 n (by omega)
  have i1 := c29 h1 n (ints_nil H1) (ints_nil H1) (by simp [-getElem?_pos]) hn
  refine Wp.callX 173 [0, 1, 2, 3, 4, 5, 6, 7, 8, 9, 48, 53, 68, 76, 121, 126, 172] h rfl (by simp [-getElem?_pos]) (n := n + 1) ?_
  (repeat (first | apply Wp.seq | apply Wp.blk)); (apply Wp.reg; (repeat (apply Ex.cons; (simp (disch := omega) [-getElem?_pos]; rfl))); exact Ex.nil; rfl; (simp [-getElem?_pos]; rfl))
  rw [← hH1]
  repeat (first | apply Wp.seq | apply Wp.blk | apply Wp.ret | apply Wp.skip | apply Wp.exit | apply Wp.cT rfl | apply Wp.cF rfl | ((apply Wp.reg; (repeat (apply Ex.cons; (simp (disch := omega) [-getElem?_pos, hX1, hY1, hlu, hlv, r1, i1, aEqP]; rfl))); exact Ex.nil; rfl; (simp [-getElem?_pos]; rfl))))
  apply Wp.loop (α := Nat × AHeap) (fun y => [(2, .ptr H.next 0 0), (3, .ptr (H.next + 1) 0 0), (5, vi y.1)]) (·.2)
    (fun y => y.1 ≤ ps.length ∧ Grow H1 y.2) (fun y => ps.length - y.1) (0, H1) rfl ⟨Nat.zero_le _, Grow.refl _⟩ (by show ps.length - 0 < _; omega) (by simp [-getElem?_pos])
  rintro ⟨i, H2⟩ ⟨hil, hg2⟩
  dsimp only at hil hg2 ⊢
  have hw1 : wrapF .i64 ((i : Int) + 1) = (i : Int) + 1 := wrap_small (by omega) (by omega)
  have hX2 : H2.rowAt H.next 0 = some (histC u) := by rw [hg2.rowAt (by omega)]; exact hX1
  have hY2 : H2.rowAt (H.next + 1) 0 = some (histC v) := by rw [hg2.rowAt (by omega)]; exact hY1
  by_cases hi : i < ps.length
  · obtain ⟨p, hpi⟩ : ∃ p, ps[i]? = some p := ⟨_, List.getElem?_eq_getElem hi⟩
    obtain ⟨R, ver, off, kc, ex, cells, pu, hvu, hR, hrow, hb1, hc1, hPu⟩ := (hu.grow (hg1.trans hg2)).at hpi
    obtain ⟨R', ver', off', kc', ex', cells', pv, hvv, hR', hrow', hb1', hc1', hPv⟩ := (hv.grow (hg1.trans hg2)).at hpi
    have hpu := hPu.lenS
    have hpv := hPv.lenS
    have hpl2 := hPu.len
    have hbu : AVal.beq pu pu = true := by obtain ⟨_, h, _⟩ := hPu.rows; exact h.beq
    have hbv : AVal.beq pv pv = true := by obtain ⟨_, h, _⟩ := hPv.rows; exact h.beq
    repeat (first | apply Wp.seq | apply Wp.blk | apply Wp.ret | apply Wp.skip | apply Wp.exit | apply Wp.cT rfl | apply Wp.cF rfl | ((apply Wp.reg; (repeat (apply Ex.cons; (simp (disch := omega) [-getElem?_pos, hX2, hY2, hlu, hi, hvu, hrow, hb1, hc1, hvv, hrow', hb1', hc1', hpu, hpv, hbu, hbv]; rfl))); exact Ex.nil; rfl; (simp [-getElem?_pos]; rfl))) | ((apply Wp.draw; (repeat (first | ((first | apply Dr.q rfl rfl | apply Dr.r rfl rfl); (simp (disch := omega) [-getElem?_pos, hX2, hY2, hlu, hi, hvu, hrow, hb1, hc1, hvv, hrow', hb1', hc1', hpu, hpv, hbu, hbv]; rfl); (simp [-getElem?_pos]; rfl)) | (apply Dr.imm rfl; (simp (disch := omega) [-getElem?_pos, hX2, hY2, hlu, hi, hvu, hrow, hb1, hc1, hvv, hrow', hb1', hc1', hpu, hpv, hbu, hbv]; rfl); (focus first | (simp [-getElem?_pos]; done) | (simp [-getElem?_pos]; omega))))); exact Dr.nil; rfl; (first | (focus (simp (disch := omega) [-getElem?_pos, hX2, hY2, hlu, hi, hvu, hrow, hb1, hc1, hvv, hrow', hb1', hc1', hpu, hpv, hbu, hbv]; done)) | rfl); (simp [-getElem?_pos]; rfl))))
    apply Wp.loop (α := Nat × AHeap) (fun y => [(2, .ptr H.next 0 0), (3, .ptr (H.next + 1) 0 0), (5, vi i), (6, vi y.1)]) (·.2)
      (fun y => y.1 ≤ p.length ∧ Grow H2 y.2) (fun y => p.length - y.1) (0, H2) rfl ⟨Nat.zero_le _, Grow.refl _⟩ (by show p.length - 0 < _; omega) (by simp [-getElem?_pos])
    rintro ⟨j, H3⟩ ⟨hjl, hg3⟩
    dsimp only at hjl hg3 ⊢
    have hwj : wrapF .i64 ((j : Int) + 1) = (j : Int) + 1 := wrap_small (by omega) (by omega)
    have hn2 := hg2.next
    have hn3 := hg3.next
    have hX3 : H3.rowAt H.next 0 = some (histC u) := by rw [hg3.rowAt (by omega)]; exact hX2
    have hY3 : H3.rowAt (H.next + 1) 0 = some (histC v) := by rw [hg3.rowAt (by omega)]; exact hY2
    have hrow3 : H3.rowAt R ver = some cells := by rw [hg3.rowAt hR]; exact hrow
    have hrow3' : H3.rowAt R' ver' = some cells' := by rw [hg3.rowAt hR']; exact hrow'
    by_cases hj : j < p.length
    · obtain ⟨o, ho⟩ : ∃ o, p[j]? = some o := ⟨_, List.getElem?_eq_getElem hj⟩
      obtain ⟨Q, qv, qo, qk, qx, qc, ru, hqu, hQ, hqrow, hqb, hqd, hopu⟩ := (hPu.grow hg3).at ho
      obtain ⟨Q', qv', qo', qk', qx', qc', rv, hqv, hQ', hqrow', hqb', hqd', hopv⟩ := (hPv.grow hg3).at ho
      obtain ⟨su, hru, hIu⟩ := hopu.cells
      obtain ⟨sv, hrv, hIv⟩ := hopv.cells
      have honeu := hopu.one
      have honev := hopv.one
      have hlu35 := hopu.len
      have hval := hopu.ok
      have hsl := hopu.sl
      rw [hru] at hqd honeu hlu35
      rw [hrv] at hqd' honev
      have hvl : o.val.length = 32 := hval.len
      have hbs : AVal.beq su su = true := hIu.rd.beq
      have hbs' : AVal.beq sv sv = true := hIv.rd.beq
      have hbb : AVal.beqs o.val o.val = true := beqs_bytes hval.at_
      have hev := eqVal_t hval
      obtain ⟨Ha, hHa⟩ : ∃ Ha, Ha = (H3.push (.row [some (0, zop)])).push (.row [some (0, zop)]) := ⟨_, rfl⟩
      have hna : Ha.next = H3.next + 2 := by rw [hHa]; simp [-getElem?_pos]
      have hga : Grow H3 Ha := by rw [hHa]; exact (Grow.push _ _).trans (Grow.push _ _)
      have hca : Cells Ha H3.next zop := by rw [hHa]; unfold Cells; simp [-getElem?_pos]
      have hcb : Cells Ha (H3.next + 1) zop := by rw [hHa]; unfold Cells; simp [-getElem?_pos]
      have hw4 := hca.write (off := 0) (vs := vi o.kind :: su :: vi o.blk :: o.val) (by simp [-getElem?_pos]) (by simp [-getElem?_pos, hvl]) honeu
      obtain ⟨H4, hH4⟩ : ∃ H4, H4 = Ha.set H3.next (.row [some (0, spl zop 0 (vi o.kind :: su :: vi o.blk :: o.val))]) := ⟨_, rfl⟩
      have hs4 : spl zop 0 (vi o.kind :: su :: vi o.blk :: o.val) = vi o.kind :: su :: vi o.blk :: o.val := by
        simp only [spl, List.take_zero, List.nil_append, Nat.zero_add]
        rw [List.drop_of_length_le (by simp [-getElem?_pos, hvl]), List.append_nil]
      rw [← hH4] at hw4
      have hn4 : H4.next = H3.next + 2 := by rw [hH4]; exact hna
      have hg4 : Grow H3 H4 := by rw [hH4]; exact hga.set (Nat.le_refl _) _
      have hc4 : Cells H4 H3.next (vi o.kind :: su :: vi o.blk :: o.val) := by rw [hH4, hs4]; unfold Cells; simp [-getElem?_pos]
      have hc4b : Cells H4 (H3.next + 1) zop := by rw [hH4]; unfold Cells; rw [AHeap.get_set_ne _ _ (by omega)]; exact hcb
      have hw5 := hc4b.write (off := 0) (vs := vi o.kind :: sv :: vi o.blk :: o.val) (by simp [-getElem?_pos]) (by simp [-getElem?_pos, hvl]) honev
      obtain ⟨H5, hH5⟩ : ∃ H5, H5 = H4.set (H3.next + 1) (.row [some (0, spl zop 0 (vi o.kind :: sv :: vi o.blk :: o.val))]) := ⟨_, rfl⟩
      have hs5 : spl zop 0 (vi o.kind :: sv :: vi o.blk :: o.val) = vi o.kind :: sv :: vi o.blk :: o.val := by
        simp only [spl, List.take_zero, List.nil_append, Nat.zero_add]
        rw [List.drop_of_length_le (by simp [-getElem?_pos, hvl]), List.append_nil]
      rw [← hH5] at hw5
      have hn5 : H5.next = H3.next + 2 := by rw [hH5]; exact hn4
      have hg5 : Grow H3 H5 := by rw [hH5]; exact hg4.set (by omega) _
      have hZ5 : H5.rowAt (H3.next + 1) 0 = some (vi o.kind :: sv :: vi o.blk :: o.val) := by rw [hH5, hs5]; simp [-getElem?_pos]
      have hW5 : H5.rowAt H3.next 0 = some (vi o.kind :: su :: vi o.blk :: o.val) := by
        have : Cells H5 H3.next (vi o.kind :: su :: vi o.blk :: o.val) := hc4.mono (by rw [hH5, AHeap.get_set_ne _ _ (by omega)])
        exact this.at
      have hX4 : H4.rowAt H.next 0 = some (histC u) := by rw [hg4.rowAt (by omega)]; exact hX3
      have hY4 : H4.rowAt (H.next + 1) 0 = some (histC v) := by rw [hg4.rowAt (by omega)]; exact hY3
      have hrow4' : H4.rowAt R' ver' = some cells' := by rw [hg4.rowAt (by omega)]; exact hrow3'
      have hrow4 : H4.rowAt R ver = some cells := by rw [hg4.rowAt (by omega)]; exact hrow3
      have hqrow4 : H4.rowAt Q qv = some qc := by rw [hg4.rowAt hQ]; exact hqrow
      have hqrow4' : H4.rowAt Q' qv' = some qc' := by rw [hg4.rowAt hQ']; exact hqrow'
      have e5 := c29 (H := H5) h1 n (hIu.grow hg5) (hIv.grow hg5) hsl hn
      have htk : o.val.take 32 = o.val := List.take_of_length_le (by omega)
      have hw4' : ((H3.push (.row [some (0, zop)])).push (.row [some (0, zop)])).write H3.next 0 0 (vi o.kind :: su :: vi o.blk :: o.val) = some H4 := by rw [← hHa]; exact hw4
      (repeat (first | apply Wp.seq | apply Wp.blk)); (apply Wp.reg; (repeat (apply Ex.cons; (simp (disch := omega) [-getElem?_pos, hX3, hvu, hrow3, hb1, hc1, hpu, hj]; rfl))); exact Ex.nil; rfl; (simp [-getElem?_pos]; rfl))
      apply Wp.cT rfl
      apply Wp.skip
      (repeat (first | apply Wp.seq | apply Wp.blk)); (apply Wp.draw; (repeat (first | ((first | apply Dr.q rfl rfl | apply Dr.r rfl rfl); (simp (disch := omega) [-getElem?_pos, hX3, hY3, hvu, hrow3, hb1, hc1, hvv, hrow3', hb1', hc1', hj, hqu, hqrow, hqb, hqd, hqv, hqrow', hqb', hqd', hw4', hw5, hX4, hY4, hrow4, hqrow4, hrow4', hqrow4', hbs, hbs', hbb, hvl, htk]; rfl); (simp [-getElem?_pos]; rfl)) | (apply Dr.imm rfl; (simp (disch := omega) [-getElem?_pos, hX3, hY3, hvu, hrow3, hb1, hc1, hvv, hrow3', hb1', hc1', hj, hqu, hqrow, hqb, hqd, hqv, hqrow', hqb', hqd', hw4', hw5, hX4, hY4, hrow4, hqrow4, hrow4', hqrow4', hbs, hbs', hbb, hvl, htk]; rfl); (focus first | (simp [-getElem?_pos]; done) | (simp [-getElem?_pos]; omega))))); exact Dr.nil; rfl; (first | (focus (simp (disch := omega) [-getElem?_pos, hX3, hY3, hvu, hrow3, hb1, hc1, hvv, hrow3', hb1', hc1', hj, hqu, hqrow, hqb, hqd, hqv, hqrow', hqb', hqd', hw4', hw5, hX4, hY4, hrow4, hqrow4, hrow4', hqrow4', hbs, hbs', hbb, hvl, htk]; done)) | rfl); (simp [-getElem?_pos]; rfl))
      repeat (first | apply Wp.seq | apply Wp.blk | apply Wp.ret | apply Wp.skip | apply Wp.exit | apply Wp.cT rfl | apply Wp.cF rfl | ((apply Wp.reg; (repeat (apply Ex.cons; (simp (disch := omega) [-getElem?_pos, hW5, hZ5, hev, htk, hvl, e5, hwj]; rfl))); exact Ex.nil; rfl; (simp [-getElem?_pos]; rfl))))
      exact ⟨(j + 1, H5), rfl, ⟨by show j + 1 ≤ _; omega, hg3.trans hg5⟩, by show p.length - (j + 1) < _; omega, by simp [-getElem?_pos]⟩
    · repeat (first | apply Wp.seq | apply Wp.blk | apply Wp.ret | apply Wp.skip | apply Wp.exit | apply Wp.cT rfl | apply Wp.cF rfl | ((apply Wp.reg; (repeat (apply Ex.cons; (simp (disch := omega) [-getElem?_pos, hX3, hvu, hrow3, hb1, hc1, hpu, hj, hw1]; rfl))); exact Ex.nil; rfl; (simp [-getElem?_pos]; rfl))))
      exact ⟨(i + 1, H3), rfl, ⟨by show i + 1 ≤ _; omega, hg2.trans hg3⟩, by show ps.length - (i + 1) < _; omega, by simp [-getElem?_pos]⟩
  · repeat (first | apply Wp.seq | apply Wp.blk | apply Wp.ret | apply Wp.skip | apply Wp.exit | apply Wp.cT rfl | apply Wp.cF rfl | ((apply Wp.reg; (repeat (apply Ex.cons; (simp (disch := omega) [-getElem?_pos, hX2, hY2, hlu, hi]; rfl))); exact Ex.nil; rfl; (simp [-getElem?_pos]; rfl))))
    apply Wp.loop (α := Nat) (fun y => [(2, .ptr H.next 0 0), (3, .ptr (H.next + 1) 0 0), (9, vi 0)]) (fun _ => H2) (fun y => True) (fun y => 0) 0 rfl trivial (by show 0 < n + 1; omega) (by simp [-getElem?_pos])
    intro k _
    repeat (first | apply Wp.seq | apply Wp.blk | apply Wp.ret | apply Wp.skip | apply Wp.exit | apply Wp.cT rfl | apply Wp.cF rfl | ((apply Wp.reg; (repeat (apply Ex.cons; (simp (disch := omega) [-getElem?_pos, hX2, hY2, aLenS]; rfl))); exact Ex.nil; rfl; (simp [-getElem?_pos]; rfl))))
    simp [-getElem?_pos, p12]
end Go.Proofs.YtipmhhogebnpkaaGreatDoor
namespace Go.Proofs.YtipmhhogebnpkaaGreatDoor
open Go Go.Vm
set_option linter.unusedVariables false
set_option linter.unusedSimpArgs false
variable {kn : Known} {env : Nat → Option AFunc}
variable {H H' H0 H2 : AHeap} {v u pv : AVal} {kx : Known} {ps : List (List OpP)}
structure PremE (kx kn : Known) (env : Nat → Option AFunc) : Prop where
  form : FormE kx kn env
  count : FnX kx kn env 26 p26
  prem : FnX kx kn env 10 p10
  rForm : FnX kx kn env 27 p27
  has : FnX kx kn env 38 p38
  refPrem : FnX kx kn env 11 p11
  own : FnX kx kn env 9 p9
  same : FnX kx kn env 12 p12
  sameInts : FnX kx kn env 29 p29
  sameRows : FnX kx kn env 28 p28
  law : FnX kx kn env 4 p4
  awake : ∀ (n : Nat) (H : AHeap), callX kx kn env (n + 1) (.func (.func 6) []) [] H = some (abool true, H)
theorem ProgsAt.one (h : ProgsAt H v ps) : v.one = true := let ⟨_, h1, _⟩ := h.rows; h1.one
set_option maxHeartbeats 4000000 in
theorem c4 (E : PremE kx kn env) (n : Nat) {b c m d e : Int} (hp : ProgsAt H v ps) (hn : 100000000000000 < n) : ∃ H', callX kx kn env (n + 6) (.func (.func 4) []) [.agg (cfgC b c m d e), v] H = some (abool true, H') := by
  obtain ⟨H1, hH1⟩ : ∃ H1, H1 = H.push (.row [some (0, cfgC b c m d e)]) := ⟨_, rfl⟩
  have hg1 : Grow H H1 := by rw [hH1]; exact Grow.push _ _
  have hX1 : H1.rowAt H.next 0 = some (cfgC b c m d e) := by rw [hH1]; simp [-getElem?_pos]
  have hn1 : H1.next = H.next + 1 := by rw [hH1]; simp [-getElem?_pos]
  have e0 := E.awake (n + 4) H1
  have hp1 := hp.grow hg1
  obtain ⟨w, H2, e2, hg2, hw2⟩ := c9 E.own (n + 4) hp1 (by omega)
  have hX2 : H2.rowAt H.next 0 = some (cfgC b c m d e) := by rw [hg2.rowAt (by omega)]; exact hX1
  obtain ⟨H3, e3, hg3⟩ := c10 E.form E.count E.prem n (b := b) (c := c) (m := m) (d := d) (e := e) hw2 hn
  have hX3 : H3.rowAt H.next 0 = some (cfgC b c m d e) := by rw [hg3.rowAt (by have := hg2.next; omega)]; exact hX2
  have hp3 := (hp1.grow hg2).grow hg3
  obtain ⟨H4, e4, hg4⟩ := c11 E.rForm E.has E.refPrem (n + 2) (b := b) (c := c) (m := m) (d := d) (e := e) hp3 (by omega)
  rw [prem_same b m ps 0 0 (by omega) (by omega)] at e4
  generalize premP b m ps 0 0 = S at *
  obtain ⟨k, r, g⟩ := S
  dsimp only at e3 e4
  obtain ⟨H5, e5⟩ := c12 E.same E.sameInts E.sameRows (n + 3) ((hw2.grow hg3).grow hg4) (hp3.grow hg4) (by omega)
  have c1 := cells_one hw2.one
  have c2 := cells_one hp.one
  suffices hh : ∃ r H', callX kx kn env (n + 6) (.func (.func 4) []) [.agg (cfgC b c m d e), v] H = some (r, H') ∧ r = abool true by
    obtain ⟨r, H', h1, rfl⟩ := hh
    exact ⟨H', h1⟩
  refine Wp.callX 50 [0, 1, 2, 4, 5, 6, 7, 8, 9, 10, 11, 13] E.law rfl (by simp [-getElem?_pos]) (n := n + 5) ?_
  (repeat (first | apply Wp.seq | apply Wp.blk)); (apply Wp.reg; (repeat (apply Ex.cons; (simp (disch := omega) [-getElem?_pos]; rfl))); exact Ex.nil; rfl; (simp [-getElem?_pos]; rfl))
  rw [← hH1]
  have e3' : callX kx kn env (n + 5) (.func (.func 10) []) [.agg [vi b, vi c, vi m, vi d, vi e], w] H2 = some (.tuple [vi k, vi r, abool g], H3) := e3
  have e4' : callX kx kn env (n + 5) (.func (.func 11) []) [.agg [vi b, vi c, vi m, vi d, vi e], v] H3 = some (.tuple [vi k, vi r, abool g], H4) := e4
  have e5' : callX kx kn env (n + 5) (.func (.func 12) []) [.agg [zi, zi, zi, zi, zi, w, ns, ns, ns], .agg [zi, zi, zi, zi, zi, v, ns, ns, ns]] H4 = some (abool true, H5) := e5
  cases g <;>
  · repeat (first | apply Wp.seq | apply Wp.blk | apply Wp.ret | apply Wp.skip | apply Wp.exit | apply Wp.cT rfl | apply Wp.cF rfl | ((apply Wp.reg; (repeat (apply Ex.cons; (simp (disch := omega) [-getElem?_pos, e0, e2, hX1, hX2, hX3, e3', e4', e5', aEqP, c1, c2, aFill]; rfl))); exact Ex.nil; rfl; (simp [-getElem?_pos]; rfl))))
    trace_state
    simp [-getElem?_pos, p4]
end Go.Proofs.YtipmhhogebnpkaaGreatDoor
namespace Go.Proofs.YtipmhhogebnpkaaGreatDoor
open Go Go.Vm
set_option linter.unusedVariables false
set_option linter.unusedSimpArgs false
variable {kn : Known} {env : Nat → Option AFunc}
variable {X : Type}
section
variable {P : Program} {H : AHeap} {n : Nat} {t e : TypeId} {cs : List AVal} {d : DataW X}
theorem shows_int {k : IntKind} (ht : P.underlying t = some (.int k)) (h : shows P H n t cs d) : ∃ m, cs = [.raw (.int k m)] := by
  cases n with
  | zero => exact h.elim
  | succ n =>
    unfold shows at h
    rw [ht] at h
    obtain ⟨m, h1, _⟩ := h
    exact ⟨m, h1⟩
theorem shows_slice (ht : P.underlying t = some (.slice e)) (h : shows P H n t cs d) : (cs = [anil] ∧ d = .nil) ∨ ∃ (m A : Nat) (acss : List (List AVal)) (es sp : List (DataW X)), n = m + 1 ∧ cs = [.slice A 0 0 es.length (es.length + sp.length) true (P.cellsOf e)] ∧ d = .slice es sp ∧ H.get A = some (.ro acss.flatten) ∧
    acss.length = es.length + sp.length ∧ ∀ (i : Nat) (x : DataW X) (acs : List AVal), (es ++ sp)[i]? = some x → acss[i]? = some acs → acs.length = P.cellsOf e ∧ shows P H m e acs x := by
  cases n with
  | zero => exact h.elim
  | succ n =>
    unfold shows at h
    rw [ht] at h
    rcases h with h | ⟨A, acss, es, sp, h1, h2, h3, _, h5, h6⟩
    · exact .inl h
    · exact .inr ⟨n, A, acss, es, sp, rfl, h1, h2, h3, h5, h6⟩
theorem shows_array {k : Nat} (ht : P.underlying t = some (.array k e)) (h : shows P H n t cs d) : ∃ (m : Nat) (acss : List (List AVal)) (ds : List (DataW X)), n = m + 1 ∧ cs = acss.flatten ∧ acss.length = k ∧ ds.length = k ∧
    ∀ (i : Nat) (x : DataW X) (acs : List AVal), ds[i]? = some x → acss[i]? = some acs → acs.length = P.cellsOf e ∧ shows P H m e acs x := by
  cases n with
  | zero => exact h.elim
  | succ n =>
    unfold shows at h
    rw [ht] at h
    obtain ⟨acss, ds, h1, _, h3, h4, h5⟩ := h
    exact ⟨n, acss, ds, rfl, h1, h3, h4, h5⟩
theorem shows_nil (ht : P.underlying t = some (.slice e)) : shows P H (n + 1) t [anil] (DataW.nil : DataW X) := by
  unfold shows
  rw [ht]
  exact .inl ⟨rfl, rfl⟩
theorem weights_slice (ht : P.underlying t = some (.slice e)) (es sp : List (DataW X)) : (DataW.slice es sp).weights P t = (es.length + sp.length) * P.bytesOf e :: (DataW.weightsAll P e es ++ DataW.weightsAll P e sp) := by
  simp only [DataW.weights, ht]
theorem ok_slice {W : World} {b : Nat} {v : Value} (ht : P.underlying t = some (.slice e)) (h : Value.okWide P W .any b t v) : v = .slice none 0 0 ∨ ∃ a len cap, v = .slice (some a) len cap ∧ HasBlock W := by
  simp only [Value.okWide, ht, Cell.okWide] at h
  cases v with
  | slice a l c =>
    cases a with
    | none =>
      simp only [Cell.ok, ht] at h
      split at h
      all_goals first | exact h.elim | (simp_all [-getElem?_pos]; done) | skip
      all_goals (first | (left; simp_all [-getElem?_pos]; done) | simp_all [-getElem?_pos])
    | some a =>
      simp only [Cell.ok, ht] at h
      obtain ⟨_, _, _, _, row, cells, hs, _⟩ := h
      refine .inr ⟨a, l, c, rfl, ?_⟩
      unfold World.shape? at hs
      split at hs
      · rename_i c e fz hh
        exact ⟨a.block, c, e, fz, hh⟩
      · cases hs
  | _ => simp [-getElem?_pos, Cell.ok, ht] at h
end
theorem weightsAll_mem {P : Program} {e : TypeId} : ∀ {l : List (DataW X)} {x : DataW X} {w : Nat}, x ∈ l → w ∈ x.weights P e → w ∈ DataW.weightsAll P e l
  | [], x, w, h, _ => by simp [-getElem?_pos] at h
  | y :: r, x, w, h, hw => by
    simp only [DataW.weightsAll]
    rcases List.mem_cons.1 h with rfl | h
    · exact List.mem_append_left _ hw
    · exact List.mem_append_right _ (weightsAll_mem h hw)
theorem open_arg {P : Program} {base : Nat} {t e : TypeId} {v1 : Value} {d1 : DataW X} {W : World} {enc : TypeId × Value → X} {ps : List MemPlace} (ht : P.underlying t = some (.slice e)) (htl : tiles P 20 t = true) (h1 : DataW.Trod enc P W 0 (fun _ => true) true t v1 d1 ps) (hv : Value.okWide P W .any base t v1) :
    ∃ ρ H v, Opened W ρ H ∧ VRel ρ v v1 ∧ ∃ n, shows P H n t [v] d1 := by
  obtain ⟨fuel, h1⟩ := h1
  rcases ok_slice ht hv with rfl | ⟨a, len, cap, rfl, hb⟩
  · rcases DataW.trod_slice ht h1 with ⟨hc, hx⟩ | ⟨a, len, cap, elems, rest, n, hn, hc, _⟩
    · exact ⟨_, _, anil, Opened.empty W, .raw _, 1, by rw [(Prod.mk.inj hx).1]; exact shows_nil ht⟩
    · simp [-getElem?_pos, Value.cells] at hc
  · obtain ⟨ρ', H', acs, o1, _, _, vr, sh⟩ := open_cells hb fuel 20 t _ _ _ _ htl (Opened.empty W) h1
    have vr' : VRels ρ' acs [Value.slice (some a) len cap] := vr
    cases vr' with
    | cons hvr hrest =>
      cases hrest
      exact ⟨ρ', H', _, o1, hvr, fuel, sh⟩
theorem shows_struct' {P : Program} {H : AHeap} {n : Nat} {t : TypeId} {cs : List AVal} {d : DataW X} {fs : Array Field} (ht : P.underlying t = some (.struct fs)) (h : shows P H n t cs d) : ∃ (m : Nat) (acss : List (List AVal)) (ds : List (DataW X)), n = m + 1 ∧ cs = acss.flatten ∧ d = .agg ds ∧ acss.length = fs.size ∧ ds.length = fs.size ∧
    ∀ (i : Nat) (f : Field) (x : DataW X) (acs : List AVal), fs[i]? = some f → ds[i]? = some x → acss[i]? = some acs → acs.length = P.cellsOf f.type ∧ shows P H m f.type acs x := by
  cases n with
  | zero => exact h.elim
  | succ n =>
    unfold shows at h
    rw [ht] at h
    obtain ⟨acss, ds, h1, h2, h3, h4, h5⟩ := h
    exact ⟨n, acss, ds, rfl, h1, h2, h3, h4, h5⟩
theorem mem_weightsEach {P : Program} {t : TypeId} {d : DataW X} {w : Nat} : ∀ {ts : List TypeId} {ds : List (DataW X)} (i : Nat), ts[i]? = some t → ds[i]? = some d → w ∈ d.weights P t → w ∈ DataW.weightsEach P ts ds
  | [], _, i, h, _, _ => by simp [-getElem?_pos] at h
  | _, [], i, _, h, _ => by simp [-getElem?_pos] at h
  | t0 :: ts, d0 :: ds, 0, h1, h2, h3 => by
    simp only [List.getElem?_cons_zero, Option.some.injEq] at h1 h2
    subst h1 h2
    simp only [DataW.weightsEach]
    exact List.mem_append_left _ h3
  | t0 :: ts, d0 :: ds, i + 1, h1, h2, h3 => by
    simp only [List.getElem?_cons_succ] at h1 h2
    simp only [DataW.weightsEach]
    exact List.mem_append_right _ (mem_weightsEach i h1 h2 h3)
theorem weights_agg {P : Program} {t : TypeId} {fs : Array Field} (ht : P.underlying t = some (.struct fs)) (ds : List (DataW X)) : (DataW.agg ds).weights P t = DataW.weightsEach P (fs.toList.map (·.type)) ds := by
  simp only [DataW.weights, ht]
theorem reach_le : reachBytes ≤ 140737488355328 := by decide
theorem cells3 : Tryz.prog.cellsOf 3 = 1 := by kernel_rfl
theorem bytes3 : Tryz.prog.bytesOf 3 = 8 := by kernel_rfl
theorem cells68 : Tryz.prog.cellsOf 68 = 35 := by kernel_rfl
theorem bytes68 : Tryz.prog.bytesOf 68 = 72 := by kernel_rfl
theorem cells64 : Tryz.prog.cellsOf 64 = 1 := by kernel_rfl
theorem bytes64 : Tryz.prog.bytesOf 64 = 24 := by kernel_rfl
theorem tiles27 : tiles Tryz.prog 20 27 = true := by kernel_rfl
theorem ints_of_cells : ∀ (l : List (List AVal)), (∀ e ∈ l, ∃ m : Int, e = [vi m]) → ∃ t : List Int, l = intC t
  | [], _ => ⟨[], rfl⟩
  | e :: r, h => by
    obtain ⟨m, h1⟩ := h e (List.mem_cons_self ..)
    obtain ⟨t, h3⟩ := ints_of_cells r fun x hx => h x (List.mem_cons_of_mem _ hx)
    exact ⟨m :: t, by rw [h1, h3]; rfl⟩
theorem shows_ints {H : AHeap} {n : Nat} {cs : List AVal} {d : DataW X} (h : shows Tryz.prog H n 34 cs d) (hw : ∀ w ∈ d.weights Tryz.prog 34, w ≤ reachBytes) (hd : ∀ A o, H.get A = some o → A < H.next) :
    ∃ (a : AVal) (t : List Int), cs = [a] ∧ Ints H a t ∧ t.length * 8 ≤ reachBytes := by
  rcases shows_slice Tryz.underlying34 h with ⟨rfl, _⟩ | ⟨m, A, acss, es, sp, rfl, rfl, rfl, hg, hl, hall⟩
  · exact ⟨anil, [], rfl, ints_nil H, by simp [-getElem?_pos]⟩
  · rw [cells3] at hall ⊢
    have hsome : ∀ (i : Nat) acs, acss[i]? = some acs → ∃ x, (es ++ sp)[i]? = some x := fun i acs hi => by
      have hlt := (List.getElem?_eq_some_iff.1 hi).1
      have hlt2 : i < (es ++ sp).length := by rw [List.length_append]; omega
      exact ⟨_, List.getElem?_eq_getElem hlt2⟩
    have h1 : ∀ e ∈ acss, e.length = 1 := fun e he => by
      obtain ⟨i, hi⟩ := List.mem_iff_getElem?.1 he
      obtain ⟨x, hx⟩ := hsome i e hi
      exact (hall i x e hx hi).1
    obtain ⟨t, ht⟩ := ints_of_cells (acss.take es.length) fun e he => by
      obtain ⟨i, hi⟩ := List.mem_iff_getElem?.1 (List.mem_of_mem_take he)
      obtain ⟨x, hx⟩ := hsome i e hi
      exact shows_int Tryz.underlying3 (hall i x e hx hi).2
    have htl : t.length = es.length := by
      have := congrArg List.length ht
      rw [List.length_take, List.length_map] at this
      omega
    have hfl := flatten_len h1
    refine ⟨_, t, rfl, ⟨⟨fun e he => by rw [← ht] at he; exact h1 e (List.mem_of_mem_take he), .inr ⟨A, 0, 0, es.length + sp.length, true, acss.flatten, by rw [List.length_map, htl], by unfold AHeap.rowAt; rw [hg]; rfl, by rw [List.length_map]; omega, ?_, ?_⟩⟩, fun R a1 a2 a3 a4 a5 a6 q => by cases q; exact hd A _ hg⟩, ?_⟩
    · rw [List.length_map, htl, Nat.zero_add, hfl, hl]; exact Nat.mul_le_mul_right _ (Nat.le_add_right _ _)
    · rw [List.length_map, htl, List.drop_zero, ← ht, flatten_take es.length h1]
    · have := hw ((es.length + sp.length) * Tryz.prog.bytesOf 3) (by rw [weights_slice Tryz.underlying34]; exact List.mem_cons_self ..)
      rw [bytes3] at this
      rw [htl]
      exact Nat.le_trans (Nat.mul_le_mul_right 8 (Nat.le_add_right _ _)) this
theorem shows_val {H : AHeap} {n : Nat} {cs : List AVal} {d : DataW X} (h : shows Tryz.prog H n 66 cs d) : Bytes32 cs := by
  obtain ⟨m, a3, e3, _, z1, z3, z4, z5⟩ := shows_array Tryz.underlying66 h
  have hb : ∀ e ∈ a3, ∃ k : Int, e = [.raw (.int .u8 k)] := fun e he => by
    obtain ⟨i, hi⟩ := List.mem_iff_getElem?.1 he
    have hi2 : i < e3.length := by rw [z4, ← z3]; exact (List.getElem?_eq_some_iff.1 hi).1
    exact shows_int Tryz.underlying5 (z5 i _ e (List.getElem?_eq_getElem hi2) hi).2
  refine ⟨?_, fun c hc => ?_⟩
  · rw [z1, flatten_len (n := 1) fun e he => by obtain ⟨k, rfl⟩ := hb e he; rfl]; omega
  · rw [z1] at hc
    obtain ⟨e, he, hce⟩ := List.mem_flatten.1 hc
    obtain ⟨k, rfl⟩ := hb e he
    simp [-getElem?_pos] at hce
    exact ⟨k, hce⟩
theorem four {α : Type} : ∀ (l : List α), l.length = 4 → ∃ a0 a1 a2 a3, l = [a0, a1, a2, a3]
  | [a0, a1, a2, a3], _ => ⟨a0, a1, a2, a3, rfl⟩
theorem five {α : Type} : ∀ (l : List α), l.length = 5 → ∃ a0 a1 a2 a3 a4, l = [a0, a1, a2, a3, a4]
  | [a0, a1, a2, a3, a4], _ => ⟨a0, a1, a2, a3, a4, rfl⟩
theorem shows_op {H : AHeap} {n : Nat} {cs : List AVal} {d : DataW X} (h : shows Tryz.prog H n 68 cs d) (hw : ∀ w ∈ d.weights Tryz.prog 68, w ≤ reachBytes) (hd : ∀ A o, H.get A = some o → A < H.next) : ∃ o : OpP, OpAt H cs o := by
  obtain ⟨n, acss, ds, rfl, h1, hdd, h3, h4, h5⟩ := shows_struct' Tryz.underlying68 h
  subst hdd
  rw [weights_agg Tryz.underlying68] at hw
  obtain ⟨c0, c1, c2, c3, rfl⟩ := four acss h3
  obtain ⟨d0, d1, d2, d3, rfl⟩ := four ds h4
  · obtain ⟨_, s0⟩ := h5 0 _ d0 c0 rfl rfl rfl
    obtain ⟨_, s1⟩ := h5 1 _ d1 c1 rfl rfl rfl
    obtain ⟨_, s2⟩ := h5 2 _ d2 c2 rfl rfl rfl
    obtain ⟨_, s3⟩ := h5 3 _ d3 c3 rfl rfl rfl
    obtain ⟨m0, rfl⟩ := shows_int Tryz.underlying3 s0
    obtain ⟨m2, rfl⟩ := shows_int Tryz.underlying3 s2
    have hv := shows_val s3
    obtain ⟨sv, t, rfl, hI, hlen⟩ := shows_ints s1 (fun w hww => hw w (mem_weightsEach 1 rfl rfl hww)) hd
    have hcs : cs = vi m0 :: sv :: vi m2 :: c3 := by rw [h1]; simp [-getElem?_pos]
    have hlen2 : t.length * 8 ≤ 140737488355328 := Nat.le_trans hlen reach_le
    exact ⟨⟨m0, t, m2, c3⟩, ⟨by rw [hcs]; simp [-getElem?_pos, hv.len], by rw [hcs]; rfl, ⟨sv, by rw [hcs]; rfl, hI⟩, by rw [hcs]; rfl, by rw [hcs]; rfl, hv, by show t.length ≤ _; omega⟩⟩
theorem shows_prog {H : AHeap} {n : Nat} {cs : List AVal} {d : DataW X} (h : shows Tryz.prog H n 64 cs d) (hw : ∀ w ∈ d.weights Tryz.prog 64, w ≤ reachBytes) (hd : ∀ A o, H.get A = some o → A < H.next) :
    ∃ (a : AVal) (p : List OpP), cs = [a] ∧ ProgAt H a p := by
  rcases shows_slice Tryz.underlying64 h with ⟨rfl, _⟩ | ⟨m, A, acss, es, sp, rfl, rfl, rfl, hg, hl, hall⟩
  · exact ⟨anil, [], rfl, ⟨⟨[], ⟨fun e he => by simp [-getElem?_pos] at he, .inl ⟨rfl, rfl⟩⟩, rfl, fun i rc o h => by simp [-getElem?_pos] at h⟩, fun R a1 a2 a3 a4 a5 a6 q => by (cases q), by decide⟩⟩
  · rw [cells68] at hall ⊢
    have hsome : ∀ (i : Nat) acs, acss[i]? = some acs → ∃ x, (es ++ sp)[i]? = some x := fun i acs hi => by
      have hlt := (List.getElem?_eq_some_iff.1 hi).1
      have hlt2 : i < (es ++ sp).length := by rw [List.length_append]; omega
      exact ⟨_, List.getElem?_eq_getElem hlt2⟩
    have h35 : ∀ e ∈ acss, e.length = 35 := fun e he => by
      obtain ⟨i, hi⟩ := List.mem_iff_getElem?.1 he
      obtain ⟨x, hx⟩ := hsome i e hi
      exact (hall i x e hx hi).1
    have one : ∀ i, i < es.length → ∃ o : OpP, ∃ acs, acss[i]? = some acs ∧ OpAt H acs o := fun i hi => by
      have hx : es[i]? = some es[i] := List.getElem?_eq_getElem hi
      have hx' : (es ++ sp)[i]? = some es[i] := by rw [List.getElem?_append_left hi]; exact hx
      have hlt : i < acss.length := by omega
      have hc : acss[i]? = some acss[i] := List.getElem?_eq_getElem hlt
      obtain ⟨_, s⟩ := hall i _ _ hx' hc
      obtain ⟨o, q⟩ := shows_op s (fun w hww => hw w (by
        rw [weights_slice Tryz.underlying64]
        exact List.mem_cons_of_mem _ (List.mem_append_left _ (weightsAll_mem (List.getElem_mem hi) hww)))) hd
      exact ⟨o, _, hc, q⟩
    have hfl := flatten_len h35
    have htl : (acss.take es.length).length = es.length := by rw [List.length_take]; omega
    refine ⟨_, (List.range es.length).map fun i => if hi : i < es.length then (one i hi).choose else ⟨0, [], 0, []⟩, rfl, ⟨⟨acss.take es.length, ⟨fun e he => h35 e (List.mem_of_mem_take he), .inr ⟨A, 0, 0, es.length + sp.length, true, acss.flatten, by rw [htl], by unfold AHeap.rowAt; rw [hg]; rfl, by rw [htl]; omega, ?_, ?_⟩⟩, by rw [List.length_take, List.length_map, List.length_range]; omega, fun k rc r hrc hr => ?_⟩, fun R a1 a2 a3 a4 a5 a6 q => by (cases q; exact hd A _ hg), ?_⟩⟩
    · rw [htl, Nat.zero_add, hfl, hl]; exact Nat.mul_le_mul_right _ (Nat.le_add_right _ _)
    · rw [htl, List.drop_zero, flatten_take es.length h35]
    · rw [List.getElem?_map] at hr
      obtain ⟨j, hj, rfl⟩ := Option.map_eq_some_iff.1 hr
      have hlt : k < es.length := by
        have := (List.getElem?_eq_some_iff.1 hj).1
        simpa [-getElem?_pos] using this
      rw [List.getElem?_range hlt] at hj
      cases hj
      rw [List.getElem?_take, if_pos hlt] at hrc
      obtain ⟨acs, q1, q2⟩ := (one k hlt).choose_spec
      rw [dif_pos hlt]
      rw [q1] at hrc
      cases hrc
      exact q2
    · have := hw ((es.length + sp.length) * Tryz.prog.bytesOf 68) (by rw [weights_slice Tryz.underlying64]; exact List.mem_cons_self ..)
      rw [bytes68] at this
      rw [List.length_map, List.length_range]
      have h1 : es.length * 72 ≤ reachBytes := Nat.le_trans (Nat.mul_le_mul_right 72 (Nat.le_add_right _ _)) this
      rw [Nat.succ_mul]
      exact Nat.le_trans (Nat.add_le_add_right h1 72) (by decide)
theorem shows_progs {H : AHeap} {n : Nat} {v : AVal} {d : DataW X} (h : shows Tryz.prog H n 27 [v] d) (hw : ∀ w ∈ d.weights Tryz.prog 27, w ≤ reachBytes) (hd : ∀ A o, H.get A = some o → A < H.next) : ∃ ps, ProgsAt H v ps := by
  rcases shows_slice Tryz.underlying27 h with ⟨h1, _⟩ | ⟨m, A, acss, es, sp, rfl, h1, rfl, hg, hl, hall⟩
  · cases h1
    exact ⟨[], ⟨⟨[], ⟨fun e he => by simp [-getElem?_pos] at he, .inl ⟨rfl, rfl⟩⟩, rfl, fun i rc o h => by simp [-getElem?_pos] at h⟩, fun R a1 a2 a3 a4 a5 a6 q => by (cases q), by decide⟩⟩
  · cases h1
    rw [cells64] at hall ⊢
    have hsome : ∀ (i : Nat) acs, acss[i]? = some acs → ∃ x, (es ++ sp)[i]? = some x := fun i acs hi => by
      have hlt := (List.getElem?_eq_some_iff.1 hi).1
      have hlt2 : i < (es ++ sp).length := by rw [List.length_append]; omega
      exact ⟨_, List.getElem?_eq_getElem hlt2⟩
    have h1' : ∀ e ∈ acss, e.length = 1 := fun e he => by
      obtain ⟨i, hi⟩ := List.mem_iff_getElem?.1 he
      obtain ⟨x, hx⟩ := hsome i e hi
      exact (hall i x e hx hi).1
    have one : ∀ i, i < es.length → ∃ ap : AVal × List OpP, acss[i]? = some [ap.1] ∧ ProgAt H ap.1 ap.2 := fun i hi => by
      have hx : es[i]? = some es[i] := List.getElem?_eq_getElem hi
      have hx' : (es ++ sp)[i]? = some es[i] := by rw [List.getElem?_append_left hi]; exact hx
      have hlt : i < acss.length := by omega
      have hc : acss[i]? = some acss[i] := List.getElem?_eq_getElem hlt
      obtain ⟨_, s⟩ := hall i _ _ hx' hc
      obtain ⟨a, p, q1, q2⟩ := shows_prog s (fun w hww => hw w (by
        rw [weights_slice Tryz.underlying27]
        exact List.mem_cons_of_mem _ (List.mem_append_left _ (weightsAll_mem (List.getElem_mem hi) hww)))) hd
      exact ⟨(a, p), by rw [hc, q1], q2⟩
    obtain ⟨g, hgx⟩ : ∃ g : Nat → AVal × List OpP, ∀ i, i < es.length → acss[i]? = some [(g i).1] ∧ ProgAt H (g i).1 (g i).2 := by
      refine ⟨fun i => if hi : i < es.length then (one i hi).choose else (anil, []), fun i hi => ?_⟩
      simp only [hi, dif_pos]
      exact (one i hi).choose_spec
    have hat : ∀ {β : Type} (f : Nat → β) (i : Nat) y, ((List.range es.length).map f)[i]? = some y → i < es.length ∧ y = f i := fun {β} f i y hy => by
      rw [List.getElem?_map] at hy
      obtain ⟨j, hj, rfl⟩ := Option.map_eq_some_iff.1 hy
      have hlt : i < es.length := by
        have := (List.getElem?_eq_some_iff.1 hj).1
        simpa [-getElem?_pos] using this
      rw [List.getElem?_range hlt] at hj
      cases hj
      exact ⟨hlt, rfl⟩
    have htk : acss.take es.length = ((List.range es.length).map fun i => (g i).1).map fun a => [a] := by
      refine List.ext_getElem? fun i => ?_
      by_cases hi : i < es.length
      · rw [List.getElem?_take, if_pos hi, (hgx i hi).1, List.getElem?_map, List.getElem?_map, List.getElem?_range hi]; rfl
      · rw [List.getElem?_take, if_neg hi, List.getElem?_eq_none (by simp [-getElem?_pos]; omega)]
    have hfl := flatten_len h1'
    refine ⟨(List.range es.length).map fun i => (g i).2, ⟨⟨(List.range es.length).map fun i => (g i).1, ⟨fun e he => ?_, .inr ⟨A, 0, 0, es.length + sp.length, true, acss.flatten, by simp [-getElem?_pos], by unfold AHeap.rowAt; rw [hg]; rfl, by simp [-getElem?_pos], ?_, ?_⟩⟩, by simp [-getElem?_pos], fun i a t ha ht => ?_⟩, fun R a1 a2 a3 a4 a5 a6 q => by (cases q; exact hd A _ hg), ?_⟩⟩
    · obtain ⟨a, _, rfl⟩ := List.mem_map.1 he; rfl
    · simp only [List.length_map, List.length_range, hfl, hl]; omega
    · simp only [List.length_map, List.length_range]
      rw [List.drop_zero, ← flatten_take es.length h1', htk]
    · obtain ⟨hi, rfl⟩ := hat _ i a ha
      obtain ⟨_, rfl⟩ := hat _ i t ht
      exact (hgx i hi).2
    · have := hw ((es.length + sp.length) * Tryz.prog.bytesOf 64) (by rw [weights_slice Tryz.underlying27]; exact List.mem_cons_self ..)
      rw [bytes64] at this
      rw [List.length_map, List.length_range]
      have h1 : es.length * 24 ≤ reachBytes := Nat.le_trans (Nat.mul_le_mul_right 24 (Nat.le_add_right _ _)) this
      rw [Nat.succ_mul]
      exact Nat.le_trans (Nat.add_le_add_right h1 24) (by decide)
theorem open_cfg {base : Nat} {v : Value} {d : DataW X} {W : World} {enc : TypeId × Value → X} {ps : List MemPlace} {t : TypeId} {P : Program} {f0 f1 f2 f3 f4 : Field} (ht : P.underlying t = some (.struct #[f0, f1, f2, f3, f4])) (hc : P.cellsOf t = 5)
    (q0 : f0.offset = 0) (q1 : f1.offset = 1) (q2 : f2.offset = 2) (q3 : f3.offset = 3) (q4 : f4.offset = 4) (i0 : P.underlying f0.type = some (.int .i64)) (i1 : P.underlying f1.type = some (.int .i64)) (i2 : P.underlying f2.type = some (.int .i64)) (i3 : P.underlying f3.type = some (.int .i64)) (i4 : P.underlying f4.type = some (.int .i64))
    (c0 : P.cellsOf f0.type = 1) (c1 : P.cellsOf f1.type = 1) (c2 : P.cellsOf f2.type = 1) (c3 : P.cellsOf f3.type = 1) (c4 : P.cellsOf f4.type = 1)
    (h : DataW.Trod enc P W 0 (fun _ => true) true t v d ps) (hv : Value.okWide P W .any base t v) : ∃ b c m e g : Int, v = .agg #[.int .i64 b, .int .i64 c, .int .i64 m, .int .i64 e, .int .i64 g] := by
  obtain ⟨fuel, h⟩ := h
  simp only [Value.okWide, ht] at hv
  obtain ⟨cs, rfl, hsz, _⟩ := hv
  rw [hc] at hsz
  obtain ⟨xs, n, rfl, hx, hl, hxl, hat⟩ := DataW.trod_struct ht h
  have hcs : (Value.agg cs).cells.toList = cs.toList := rfl
  rw [hcs] at hat
  obtain ⟨a0, a1, a2, a3, a4, ha⟩ := five cs.toList (by simpa [-getElem?_pos] using hsz)
  obtain ⟨x0, x1, x2, x3, x4, rfl⟩ := five xs hxl
  rw [ha] at hat
  have g0 := hat 0 f0 rfl
  have g1 := hat 1 f1 rfl
  have g2 := hat 2 f2 rfl
  have g3 := hat 3 f3 rfl
  have g4 := hat 4 f4 rfl
  rw [q0, c0] at g0
  rw [q1, c1] at g1
  rw [q2, c2] at g2
  rw [q3, c3] at g3
  rw [q4, c4] at g4
  obtain ⟨n0, e0, _⟩ := DataW.trod_int i0 (x := x0) g0
  obtain ⟨n1, e1, _⟩ := DataW.trod_int i1 (x := x1) g1
  obtain ⟨n2, e2, _⟩ := DataW.trod_int i2 (x := x2) g2
  obtain ⟨n3, e3, _⟩ := DataW.trod_int i3 (x := x3) g3
  obtain ⟨n4, e4, _⟩ := DataW.trod_int i4 (x := x4) g4
  simp [-getElem?_pos] at e0 e1 e2 e3 e4
  subst e0 e1 e2 e3 e4
  refine ⟨n0, n1, n2, n3, n4, ?_⟩
  have : cs = (cs.toList).toArray := by simp [-getElem?_pos]
  rw [this, ha]
end Go.Proofs.YtipmhhogebnpkaaGreatDoor
