/- Walks: Roomy (a list in memory of its own, with marks in the room behind it), Own (rows so). -/
import Derived.Test.YthbjfkkjmecaaaaT19
import Derived.Test.YthbjfkkjmecaaaaT31
import Derived.Test.YthbjfkkjmecaaaaT32
set_option linter.unusedVariables false
set_option linter.unusedSimpArgs false
namespace Go.Proofs.Ythbjfkkjmecaaaa
open Go Go.Vm
variable {kn : Known} {env : Nat → Option AFunc}
variable {H H' H0 H1 H2 : AHeap} {N A M R ver nv L : Nat} {v v0 sv : AVal} {rows : List RowD} {l : List Int} {rcs : List (List AVal)} {r : RowD}
theorem ints_flat (l : List Int) : (ints l).flatten = l.map vi := by
  induction l with
  | nil => rfl
  | cons z l ih => simp only [List.map_cons, List.flatten_cons, List.singleton_append]; rw [ih]
abbrev marks : List AVal := [vi 7777, vi 8888]
def RoomyAt (H : AHeap) (N : Nat) (v : AVal) (l : List Int) : Prop := ∃ R ver vs, N ≤ R ∧ R < H.next ∧ v = .slice R ver 0 l.length (l.length + 2) false 1 ∧ H.get R = some (.row vs) ∧ vs[ver]? = some (some (0, l.map vi ++ marks))
theorem RoomyAt.row (h : RoomyAt H N v l) : ∃ R ver, v = .slice R ver 0 l.length (l.length + 2) false 1 ∧ N ≤ R ∧ R < H.next ∧ H.rowAt R ver = some (l.map vi ++ marks) := by
  obtain ⟨R, ver, vs, h1, h2, h3, h4, h5⟩ := h
  exact ⟨R, ver, h3, h1, h2, by unfold AHeap.rowAt; rw [h4]; simp only [h5]⟩
theorem RoomyAt.rd (h : RoomyAt H N v l) : RdE H 1 v (ints l) := by
  obtain ⟨R, ver, h3, h1, h2, h4⟩ := h.row
  refine ⟨fun e he => by obtain ⟨z, _, rfl⟩ := List.mem_map.1 he; rfl, .inr ⟨R, ver, 0, l.length + 2, false, _, by rw [h3, List.length_map], h4, by rw [List.length_map]; omega, by simp [-getElem?_pos], ?_⟩⟩
  rw [ints_flat, List.drop_zero, List.length_map, Nat.mul_one, List.take_left' (by simp [-getElem?_pos])]
theorem RoomyAt.lies (h : RoomyAt H N v l) : v.lies fun R => N ≤ R ∧ R < H.next := fun R ver off len kc ex esz e => by
  obtain ⟨R', ver', h3, h1, h2, _⟩ := h.row
  rw [h3] at e; cases e; exact ⟨h1, h2⟩
theorem RoomyAt.one (h : RoomyAt H N v l) : v.one = true := by
  obtain ⟨R', ver', h3, _⟩ := h.row
  rw [h3]; rfl
theorem RoomyAt.move (h : RoomyAt H N v l) (hn : H.next ≤ H'.next) (hg : ∀ A, N ≤ A → A < H.next → H'.get A = H.get A) : RoomyAt H' N v l := by
  obtain ⟨R, ver, vs, h1, h2, h3, h4, h5⟩ := h
  exact ⟨R, ver, vs, h1, by omega, h3, by rw [hg R h1 h2]; exact h4, h5⟩
theorem ap1 {Z Y : Nat} (hl : l ≠ []) (hZ : H.get Z = some (.row [some (0, l.map vi)])) (hY : H.rowAt Y 0 = some marks) (hlen : (l.length + 2) * 8 ≤ 140737488355328) :
    ∃ u, aAppend H 1 8 (.slice Z 0 0 l.length l.length false 1) (.slice Y 0 0 2 2 true 1) = some (.slice Z 1 0 (l.length + 2) (l.length + 2) false 1, H.set Z (.row [u, some (0, l.map vi ++ marks)])) := by
  have hr : H.rowAt Z 0 = some (l.map vi) := by unfold AHeap.rowAt; rw [hZ]; rfl
  have hn : ¬ (l.length + 2 ≤ l.length) := by omega
  have hc : aCells H 1 (.slice Y 0 0 2 2 true 1) = some marks := by simp only [aCells, hY, Option.bind_some]; rfl
  have hm : ∃ u, newVer [some (0, l.map vi)] (0 + 0 + l.length * 1) 2 (0 + 0) (((l.map vi).drop 0).take (l.length * 1) ++ marks) = [u, some (0, l.map vi ++ marks)] := by
    unfold newVer
    simp only [killAt]
    rw [List.drop_zero, Nat.mul_one, List.take_of_length_le (by simp [-getElem?_pos])]
    exact ⟨_, rfl⟩
  obtain ⟨u, hu⟩ := hm
  refine ⟨u, ?_⟩
  simp only [aAppend, aLen, hc, Option.bind_some, hn, if_false, hlen, if_true, hr, hZ, List.getElem?_cons_zero]
  rw [← hu]
  have e1 : ¬ (2 : Nat) = 0 := by omega
  have e2 : marks.all AVal.one = true := rfl
  have e3 : 0 + l.length * 1 ≤ (l.map vi).length := by simp [-getElem?_pos]
  simp only [e1, if_false, e2, e3, if_true]
  rfl
theorem ap0 {X Y : Nat} (hX : H.rowAt X 0 = some []) (hY : H.rowAt Y 0 = some marks) :
    aAppend H 1 8 (.slice X 0 0 0 0 true 1) (.slice Y 0 0 2 2 true 1) = some (.slice H.next 0 0 2 2 false 1, H.push (.row [some (0, marks)])) := by
  have hc : aCells H 1 (.slice Y 0 0 2 2 true 1) = some marks := by simp only [aCells, hY, Option.bind_some]; rfl
  have e1 : ¬ (2 : Nat) = 0 := by omega
  have e2 : marks.all AVal.one = true := rfl
  simp only [aAppend, aLen, hc, Option.bind_some, e1, if_false, e2, hX]
  rfl
structure OwnE (kn : Known) (env : Nat → Option AFunc) : Prop where
  f16 : Fn kn env 16 a16
  f29 : Fn kn env 29 a29
  f32 : Fn kn env 32 a32
theorem c32 (E : OwnE kn env) (n : Nat) (hv : RdE H 1 v (ints l)) (hl : v.lies (· < H.next)) (hlen : (l.length + 2) * 8 ≤ 140737488355328) :
    ∃ v' H', callM kn env (n + 1) (.func (.func 32) []) [v] H = some (v', H') ∧ (Grow H H' ∧ ((l = [] ∧ v' = .slice H.next 0 0 0 0 true 1 ∧ H' = H.push (.row [some (0, [])])) ∨ (l ≠ [] ∧ v' = .slice (H.next + 1) 0 0 l.length l.length false 1 ∧ H' = (H.push (.row [some (0, [])])).push (.row [some (0, l.map vi)])))) := by
  obtain ⟨H1, hH1⟩ : ∃ H1, H1 = H.push (.row [some (0, [])]) := ⟨_, rfl⟩
  have hg1 : Grow H H1 := by rw [hH1]; exact Grow.push _ _
  have hn1 : H1.next = H.next + 1 := by rw [hH1]; simp [-getElem?_pos]
  have hX : H1.rowAt H.next 0 = some [] := by rw [hH1]; simp [-getElem?_pos]
  have hv1 := hv.grow hg1 hl
  refine Wp.call 6 [0, 2] E.f32.e (E.f32.no _ H) rfl (by simp [-getElem?_pos]) ?_
  by_cases hnil : l = []
  · have ha : aAppend H1 1 8 (.slice H.next 0 0 0 0 true 1) v = some (.slice H.next 0 0 0 0 true 1, H1) := by
      have h0 : aLen v = some 0 := by have := hv1.len; rw [hnil] at this; exact this
      have hc := hv1.aCells
      simp only [aAppend, h0, hc, Option.bind_some, if_true]
    rw [hH1] at ha
    repeat (first | apply Wp.seq | apply Wp.blk | apply Wp.ret | apply Wp.skip | apply Wp.exit | apply Wp.cT rfl | apply Wp.cF rfl | ((apply Wp.reg; (repeat (apply Ex.cons; (simp (disch := omega) [-getElem?_pos, ha, aFill, repl]; rfl))); exact Ex.nil; rfl; (simp; rfl))))
    simp [-getElem?_pos, a32]
    rw [← hH1]
    exact ⟨hg1, hnil⟩
  · have ha := (hv1.appendNew (bytes := 8) (by simpa [-getElem?_pos] using hnil) (by omega) (by omega) (ints_one l) (by rw [List.length_map]; omega) hX).1
    rw [List.length_map, ints_flat, hH1] at ha
    rw [hH1] at hn1
    repeat (first | apply Wp.seq | apply Wp.blk | apply Wp.ret | apply Wp.skip | apply Wp.exit | apply Wp.cT rfl | apply Wp.cF rfl | ((apply Wp.reg; (repeat (apply Ex.cons; (simp (disch := omega) [-getElem?_pos, ha, aFill, repl]; rfl))); exact Ex.nil; rfl; (simp; rfl))))
    simp [-getElem?_pos, a32]
    rw [← hH1]
    exact ⟨hg1.trans (Grow.push _ _), hnil⟩
theorem c29 (E : OwnE kn env) (n : Nat) (hv : RdE H 1 v (ints l)) (hl : v.lies (· < H.next)) (hlen : (l.length + 2) * 8 ≤ 140737488355328) :
    ∃ v' H', callM kn env (n + 2) (.func (.func 29) []) [v] H = some (v', H') ∧ (Grow H H' ∧ RoomyAt H' H.next v' l) := by
  obtain ⟨w, H1, h32, hg1, hw⟩ := c32 E n hv hl hlen
  have hlv : aLenS v = some (vi l.length) := by have := hv.lenS; rwa [List.length_map] at this
  refine Wp.call 10 [0, 2] E.f29.e (E.f29.no _ H) (n := n + 1) rfl (by simp [-getElem?_pos]) ?_
  rcases hw with ⟨rfl, rfl, rfl⟩ | ⟨hne, rfl, rfl⟩
  · have ha := ap0 (H := (H.push (.row [some (0, [])])).push (.row [some (0, marks)])) (X := H.next) (Y := H.next + 1) (by simp (disch := omega) [-getElem?_pos]) (by simp (disch := omega) [-getElem?_pos])
    simp only [AHeap.next_push] at ha
    simp only [List.length_nil] at hlv
    repeat (first | apply Wp.seq | apply Wp.blk | apply Wp.ret | apply Wp.skip | apply Wp.exit | apply Wp.cT rfl | apply Wp.cF rfl | ((apply Wp.reg; (repeat (apply Ex.cons; (simp (disch := omega) [-getElem?_pos, h32, ha, aFill, repl, hlv, aSliceS, aBoundO, aBound]; rfl))); exact Ex.nil; rfl; (simp; rfl))))
    simp [-getElem?_pos, a29]
    exact ⟨((Grow.push _ _).trans (Grow.push _ _)).trans (Grow.push _ _), H.next + 2, 0, [some (0, marks)], by omega, by simp [-getElem?_pos], rfl, by simp (disch := omega) [-getElem?_pos], rfl⟩
  · obtain ⟨u, ha⟩ := ap1 (H := ((H.push (.row [some (0, [])])).push (.row [some (0, l.map vi)])).push (.row [some (0, marks)])) (Z := H.next + 1) (Y := H.next + 2) hne (by simp (disch := omega) [-getElem?_pos]) (by simp (disch := omega) [-getElem?_pos]) hlen
    have h1 : (l.length : Int) ≤ l.length + 2 := by omega
    repeat (first | apply Wp.seq | apply Wp.blk | apply Wp.ret | apply Wp.skip | apply Wp.exit | apply Wp.cT rfl | apply Wp.cF rfl | ((apply Wp.reg; (repeat (apply Ex.cons; (simp (disch := omega) [-getElem?_pos, h32, ha, aFill, repl, hlv, aSliceS, aBoundO, aBound, h1]; rfl))); exact Ex.nil; rfl; (simp; rfl))))
    simp [-getElem?_pos, a29]
    refine ⟨(((Grow.push _ _).trans (Grow.push _ _)).trans (Grow.push _ _)).set (by omega) _, H.next + 1, 1, [u, some (0, l.map vi ++ marks)], by omega, by simp [-getElem?_pos], rfl, AHeap.get_set_same _ _ _, rfl⟩
end Go.Proofs.Ythbjfkkjmecaaaa
namespace Go.Proofs.Ythbjfkkjmecaaaa
open Go Go.Vm
variable {kn : Known} {env : Nat → Option AFunc}
variable {H H' H1 : AHeap} {N A M : Nat} {v v0 : AVal} {rows l : List RowD} {rcs ocs : List (List AVal)} {rc : List AVal} {r : RowD} {x : TxD} {sv rv wv : AVal}
abbrev zrow : List AVal := [zi, .raw (.int .u64 0), zi, .raw (.int .u64 0), zi, zb, zb, zb, zb, zb, zb, zb, zb, zb, zb, zb, zb, zb, zb, zb, zb, zb, zb, zb, zb, zb, zb, zb, zb, zb, zb, zb, zb, zb, zb, zb, zb, .raw (.int .u64 0), zi, zi, ns]
theorem ownB_le (c : Int) : ∀ l : List RowD, (ownB c l).length ≤ l.length
  | [] => by simp [-getElem?_pos, ownB]
  | r :: l => by
    have := ownB_le c l
    unfold ownB
    split
    · simp [-getElem?_pos]; omega
    · split
      · simp [-getElem?_pos]
      · split <;> simp [-getElem?_pos] <;> omega
set_option maxHeartbeats 1000000 in
theorem c62 (h : Fn kn env 62 a62) (n : Nat) (hrd : RdE H 41 v0 rcs) (hlies : v0.lies (· < H.next)) (hrc : RowsC rcs rows) {k : Nat} (hk : x.begun = (k : Nat)) (hkl : k < rows.length) (hm : rows.length < 400000000000) (hn : rows.length + 5 < n) (h1 : sv.one = true) (h2 : rv.one = true) (h3 : wv.one = true) :
    ∃ v' H' ocs, callM kn env (n + 1) (.func (.func 62) []) [v0, .agg (txc x sv rv wv)] H = some (v', H') ∧ Grow H H' ∧ SliceE H' H.next 41 v' ocs ∧ RowsC ocs (ownD rows x) := by
  obtain ⟨H1, hH1⟩ : ∃ H1, H1 = H.push (.row [some (0, txc x sv rv wv)]) := ⟨_, rfl⟩
  have hl1 := hrc.1
  obtain ⟨v12, hsl, hrd2, hl12⟩ := hrd.from (k := k + 1) (by omega)
  have hsl' : aSliceS 41 v0 (some (vi ((k : Int) + 1))) none none = some v12 := by have := hsl; simpa [-getElem?_pos] using this
  have hlen2 : aLenS v12 = some (vi (rows.length - (k + 1) : Nat)) := by have := hrd2.lenS; rw [List.length_drop, hl1] at this; exact this
  have hc0 : x.begun + 1 = ((k + 1 : Nat) : Int) := by omega
  have hod : ownD rows x = ownB x.client (rows.drop (k + 1)) := by unfold ownD; rw [hc0]; rfl
  have hrc2 := hrc.drop (k + 1)
  have hg1 : Grow H H1 := by rw [hH1]; exact Grow.push _ _
  have hX1 : H1.rowAt H.next 0 = some (txc x sv rv wv) := by rw [hH1]; simp [-getElem?_pos]
  have hn1 : H1.next = H.next + 1 := by rw [hH1]; simp [-getElem?_pos]
  obtain ⟨v', H', hc, hg, ocs, hs, hR⟩ := Wp.call (R := fun v' H' => Grow H H' ∧ ∃ ocs, SliceE H' H.next 41 v' ocs ∧ RowsC ocs (ownB x.client (rows.drop (k + 1)))) 40 [0, 1, 3, 4, 5, 7, 12, 13, 14, 15, 22, 25, 33] h.e (h.no [v0, .agg (txc x sv rv wv)] H) rfl (by simp [-getElem?_pos]) (n := n) (by
    repeat (first | apply Wp.seq | apply Wp.blk | apply Wp.ret | apply Wp.skip | apply Wp.exit | apply Wp.cT rfl | apply Wp.cF rfl | ((apply Wp.reg; (repeat (apply Ex.cons; (simp (disch := omega) [-getElem?_pos, hk, hsl', hlen2, txc]; rfl))); exact Ex.nil; rfl; (simp; rfl))))
    have hX0 : H.push (.row [some (0, [vi x.client, vu x.life, vu x.ticket, sv, rv, wv, vi k, vi x.asked, vi x.commit, vu x.pos, vi x.done, vi x.fate])]) = H1 := by rw [hH1]; simp only [txc, hk]
    rw [hX0]
    apply Wp.loop (α := Nat × AVal × AHeap) (fun y => [(3, .ptr H.next 0 0), (5, y.2.1), (12, v12), (13, vi (rows.length - (k + 1) : Nat)), (14, vi y.1)]) (·.2.2)
      (fun y => y.1 ≤ rows.length - (k + 1) ∧ Grow H1 y.2.2 ∧ ∃ ocs l, SliceE y.2.2 H1.next 41 y.2.1 ocs ∧ RowsC ocs l ∧ ocs.length ≤ y.1 ∧ l ++ ownB x.client (rows.drop (k + 1 + y.1)) = ownB x.client (rows.drop (k + 1))) (fun y => rows.length - (k + 1) - y.1)
      (0, ns, H1) rfl ⟨by omega, Grow.refl _, [], [], SliceE.nil _ _ _, RowsC.nil, by simp [-getElem?_pos], by simp [-getElem?_pos]⟩ (by simp [-getElem?_pos]; omega) (by simp [-getElem?_pos])
    rintro ⟨j, v5, H2⟩ ⟨hj, hg2, ocs, l, hs, hR, hol, hown⟩
    dsimp only at hj hg2 hs hR hol hown ⊢
    have hgH : Grow H H2 := hg1.trans hg2
    have hend : ∀ (v : AVal) (H2 : AHeap) ocs, Grow H1 H2 → SliceE H2 H1.next 41 v ocs → Grow H H2 ∧ SliceE H2 H.next 41 v ocs := fun v H2 ocs hg hs => ⟨hg1.trans hg, hs.move (by omega) (Nat.le_refl _) fun _ _ _ => rfl⟩
    (repeat (first | apply Wp.seq | apply Wp.blk)); (apply Wp.reg; (repeat (apply Ex.cons; (simp (disch := omega) [-getElem?_pos]; rfl))); exact Ex.nil; rfl; (simp; rfl))
    (repeat (first | apply Wp.seq | apply Wp.blk)); apply Wp.ite rfl
    · intro hjl
      obtain ⟨r, hr⟩ : ∃ r, rows[k + 1 + j]? = some r := ⟨_, List.getElem?_eq_getElem (by omega)⟩
      obtain ⟨rc, hrc'⟩ : ∃ rc, rcs[k + 1 + j]? = some rc := ⟨_, List.getElem?_eq_getElem (by omega)⟩
      have hRC := hrc.2 _ rc r hrc' hr
      obtain ⟨R0, ver0, off, kc, ex, cells, hv12, hrow, hc1, hc2⟩ := hrd2.at (i := j) (e := rc) (by rw [List.getElem?_drop]; exact hrc')
      rw [List.length_drop, hl1] at hv12
      have hR0 : R0 < H.next := hl12 _ hlies _ _ _ _ _ _ _ hv12
      have hrow2 : H2.rowAt R0 ver0 = some cells := by rw [hgH.rowAt hR0]; exact hrow
      have r5 := hRC.len
      have r0 := hRC.a0
      have r2 := hRC.a2
      have rt : rc.take 41 = rc := List.take_of_length_le (by omega)
      rw [drop_at hr] at hown
      obtain ⟨H3, hw1, g3, hcl, hn3⟩ := newCells H2 (z := zrow) (e := rc) r5 (by omega) hRC.one
      have hX := hcl.at
      have hX3 : H3.rowAt H.next 0 = some (txc x sv rv wv) := by rw [(hg2.trans g3).rowAt (by omega)]; exact hX1
      have hs3 : SliceE H3 H1.next 41 v5 ocs := hs.move (Nat.le_refl _) g3.next fun A _ hA => g3.get A hA
      have hg3 : Grow H1 H3 := hg2.trans g3
      apply Wp.skip
      by_cases q1 : r.actor = x.client
      · by_cases q2 : r.kind = 2
        · have hown' : l = ownB x.client (rows.drop (k + 1)) := by rw [← hown]; simp [-getElem?_pos, ownB, q1, q2]
          obtain ⟨e1, e2⟩ := hend v5 H3 ocs hg3 hs3
          repeat (first | apply Wp.seq | apply Wp.blk | apply Wp.ret | apply Wp.skip | apply Wp.exit | apply Wp.cT rfl | apply Wp.cF rfl | ((apply Wp.reg; (repeat (apply Ex.cons; (simp (disch := omega) [-getElem?_pos, hv12, hrow2, hc2, r5, rt, hw1, hX, hX3, r0, r2, txc, q1, q2]; rfl))); exact Ex.nil; rfl; (simp; rfl))))
          simp [-getElem?_pos, a62]
          exact ⟨e1, ocs, e2, by rw [← hown']; exact hR⟩
        · by_cases q3 : r.kind = 5 ∨ r.kind = 6
          · have hown' : (l ++ [r]) ++ ownB x.client (rows.drop (k + 1 + (j + 1))) = ownB x.client (rows.drop (k + 1)) := by rw [← hown]; simp [-getElem?_pos, ownB, q1, q2, q3]; rfl
            obtain ⟨v', H', ha, hs', hn', hk', _⟩ := (hs3.move (Nat.le_refl _) (Nat.le_succ _) (H' := H3.push (.row [some (0, rc)])) fun A _ hA => AHeap.get_push_ne _ _ (by omega)).append (bytes := 120) (by have := hg3.next; simp [-getElem?_pos]; omega) (X := H3.next) (e := rc) (by simp [-getElem?_pos]) r5 (by omega) (by omega) hRC.one (by omega) (ex := true) (kc := 1)
            have hfin : ∃ ocs l, SliceE H' H1.next 41 v' ocs ∧ RowsC ocs l ∧ ocs.length ≤ j + 1 ∧ l ++ ownB x.client (rows.drop (k + 1 + (j + 1))) = ownB x.client (rows.drop (k + 1)) := ⟨ocs ++ [rc], l ++ [r], hs', hR.push hRC, by simp [-getElem?_pos]; omega, hown'⟩
            have hgf : Grow H1 H' := ⟨by have := hg3.next; simp [-getElem?_pos] at hn'; omega, fun A hA => by have := hg3.next; rw [hk' A hA, AHeap.get_push_ne _ _ (by omega), hg3.get A hA]⟩
            rcases q3 with q3 | q3
            · repeat (first | apply Wp.seq | apply Wp.blk | apply Wp.ret | apply Wp.skip | apply Wp.exit | apply Wp.cT rfl | apply Wp.cF rfl | ((apply Wp.reg; (repeat (apply Ex.cons; (simp (disch := omega) [-getElem?_pos, hv12, hrow2, hc2, r5, rt, hw1, hX, hX3, r0, r2, txc, q1, q3, ha, aFill, repl]; rfl))); exact Ex.nil; rfl; (simp; rfl))))
              exact ⟨(j + 1, v', H'), rfl, ⟨by show j + 1 ≤ _; omega, hgf, hfin⟩, by show _ - (j + 1) < _ - j; omega, by simp [-getElem?_pos, hv12]⟩
            · repeat (first | apply Wp.seq | apply Wp.blk | apply Wp.ret | apply Wp.skip | apply Wp.exit | apply Wp.cT rfl | apply Wp.cF rfl | ((apply Wp.reg; (repeat (apply Ex.cons; (simp (disch := omega) [-getElem?_pos, hv12, hrow2, hc2, r5, rt, hw1, hX, hX3, r0, r2, txc, q1, q3, ha, aFill, repl]; rfl))); exact Ex.nil; rfl; (simp; rfl))))
              exact ⟨(j + 1, v', H'), rfl, ⟨by show j + 1 ≤ _; omega, hgf, hfin⟩, by show _ - (j + 1) < _ - j; omega, by simp [-getElem?_pos, hv12]⟩
          · have hown' : l ++ ownB x.client (rows.drop (k + 1 + (j + 1))) = ownB x.client (rows.drop (k + 1)) := by rw [← hown]; simp [-getElem?_pos, ownB, q1, q2, q3]; rfl
            have q4 : r.kind ≠ 5 := fun q => q3 (.inl q)
            have q5 : r.kind ≠ 6 := fun q => q3 (.inr q)
            repeat (first | apply Wp.seq | apply Wp.blk | apply Wp.ret | apply Wp.skip | apply Wp.exit | apply Wp.cT rfl | apply Wp.cF rfl | ((apply Wp.reg; (repeat (apply Ex.cons; (simp (disch := omega) [-getElem?_pos, hv12, hrow2, hc2, r5, rt, hw1, hX, hX3, r0, r2, txc, q1, q4, q5]; rfl))); exact Ex.nil; rfl; (simp; rfl))))
            exact ⟨(j + 1, v5, H3), rfl, ⟨by show j + 1 ≤ _; omega, hg3, ocs, l, hs3, hR, by show _ ≤ j + 1; omega, hown'⟩, by show _ - (j + 1) < _ - j; omega, by simp [-getElem?_pos, hv12]⟩
      · have hown' : l ++ ownB x.client (rows.drop (k + 1 + (j + 1))) = ownB x.client (rows.drop (k + 1)) := by rw [← hown]; simp [-getElem?_pos, ownB, q1]; rfl
        repeat (first | apply Wp.seq | apply Wp.blk | apply Wp.ret | apply Wp.skip | apply Wp.exit | apply Wp.cT rfl | apply Wp.cF rfl | ((apply Wp.reg; (repeat (apply Ex.cons; (simp (disch := omega) [-getElem?_pos, hv12, hrow2, hc2, r5, rt, hw1, hX, hX3, r0, r2, txc, q1]; rfl))); exact Ex.nil; rfl; (simp; rfl))))
        exact ⟨(j + 1, v5, H3), rfl, ⟨by show j + 1 ≤ _; omega, hg3, ocs, l, hs3, hR, by show _ ≤ j + 1; omega, hown'⟩, by show _ - (j + 1) < _ - j; omega, by simp [-getElem?_pos, hv12]⟩
    · intro hjl
      apply Wp.exit
      have hown' : l = ownB x.client (rows.drop (k + 1)) := by rw [← hown, List.drop_of_length_le (by omega)]; simp [-getElem?_pos, ownB]
      obtain ⟨e1, e2⟩ := hend v5 H2 ocs hg2 hs
      repeat (first | apply Wp.seq | apply Wp.blk | apply Wp.ret | apply Wp.skip | apply Wp.exit | apply Wp.cT rfl | apply Wp.cF rfl | ((apply Wp.reg; (repeat (apply Ex.cons; (simp (disch := omega) [-getElem?_pos]; rfl))); exact Ex.nil; rfl; (simp; rfl))))
      simp [-getElem?_pos, a62]
      exact ⟨e1, ocs, e2, by rw [← hown']; exact hR⟩)
  exact ⟨v', H', ocs, hc, hg, hs, by rw [hod]; exact hR⟩
end Go.Proofs.Ythbjfkkjmecaaaa
namespace Go.Proofs.Ythbjfkkjmecaaaa
open Go Go.Vm
variable {kn : Known} {env : Nat → Option AFunc}
variable {H H' H0 H1 H2 : AHeap} {N A R ver nv L : Nat} {v v0 sv : AVal} {rows : List RowD} {l : List Int} {rcs : List (List AVal)} {rc : List AVal} {r : RowD}
theorem RowC.put40 (h : RowC rc r) (h1 : sv.one = true) : RowC (rc.set 40 sv) r := by
  have hl := h.len
  refine ⟨by rw [List.length_set]; exact hl, ?_, ?_, ?_, ?_, ?_, ?_, ?_, ?_, ?_, h.isv, ?_⟩
  · rw [List.getElem?_set_ne (by omega)]; exact h.a0
  · rw [List.getElem?_set_ne (by omega)]; exact h.a1
  · rw [List.getElem?_set_ne (by omega)]; exact h.a2
  · rw [List.getElem?_set_ne (by omega)]; exact h.a3
  · rw [List.getElem?_set_ne (by omega)]; exact h.a4
  · rw [← h.av]
    refine List.ext_getElem? fun k => ?_
    rw [List.getElem?_take, List.getElem?_take]
    split
    · rw [List.getElem?_drop, List.getElem?_drop, List.getElem?_set_ne (by omega)]
    · rfl
  · rw [List.getElem?_set_ne (by omega)]; exact h.a37
  · rw [List.getElem?_set_ne (by omega)]; exact h.a38
  · rw [List.getElem?_set_ne (by omega)]; exact h.a39
  · rw [List.all_eq_true]
    intro c hc
    rcases List.mem_or_eq_of_mem_set hc with hc | rfl
    · exact (List.all_eq_true.1 h.one) c hc
    · exact h1
abbrev mrow : List AVal := [vi 7777, .raw (.int .u64 0), zi, .raw (.int .u64 0), zi, zb, zb, zb, zb, zb, zb, zb, zb, zb, zb, zb, zb, zb, zb, zb, zb, zb, zb, zb, zb, zb, zb, zb, zb, zb, zb, zb, zb, zb, zb, zb, zb, .raw (.int .u64 0), zi, zi, ns]
structure OwnIs (H : AHeap) (N : Nat) (v : AVal) (rows : List RowD) (R ver : Nat) (vs : Vers) (rcs : List (List AVal)) : Prop where
  hN : N ≤ R
  hR : R < H.next
  val : v = .slice R ver 0 rows.length (rows.length + 1) false 41
  get : H.get R = some (.row vs)
  at_ : vs[ver]? = some (some (0, (rcs ++ [mrow]).flatten))
  len : rcs.length = rows.length
  each : ∀ (k : Nat) (rc : List AVal) (r : RowD), rcs[k]? = some rc → rows[k]? = some r → RowC rc r ∧ ∃ sv, rc[40]? = some sv ∧ RoomyAt H N sv r.set ∧ sv.lies (· ≠ R) ∧ (r.set.length + 2) * 8 ≤ 140737488355328
abbrev C16 : List Nat := [0, 2, 3, 4, 5, 9]
set_option maxHeartbeats 4000000 in
theorem c16 (E : OwnE kn env) (n : Nat) (hrows : RowsAt H H.next v0 rows) (hset : ∀ r ∈ rows, (r.set.length + 2) * 8 ≤ 140737488355328) (hm : rows.length < 400000000000) (hn : rows.length + 5 < n) :
    ∃ v H', callM kn env (n + 3) (.func (.func 16) []) [v0] H = some (v, H') ∧ (Grow H H' ∧ ∃ R ver vs rcs, OwnIs H' H.next v rows R ver vs rcs) := by
  obtain ⟨rcs, hrd, hlies, hrlen, hat⟩ := hrows
  have hlen : aLenS v0 = some (vi rows.length) := by rw [hrd.lenS, hrlen]
  refine Wp.call 31 C16 E.f16.e (E.f16.no _ H) (n := n + 2) rfl (by simp [-getElem?_pos]) ?_
  repeat (first | apply Wp.seq | apply Wp.blk | apply Wp.ret | apply Wp.skip | apply Wp.exit | apply Wp.cT rfl | apply Wp.cF rfl | ((apply Wp.reg; (repeat (apply Ex.cons; (simp (disch := omega) [-getElem?_pos]; rfl))); exact Ex.nil; rfl; (simp; rfl))))
  apply Wp.loop (α := Nat × AVal × AHeap) (fun y => [(0, v0), (2, anil), (3, y.2.1), (4, vi y.1)]) (·.2.2)
    (fun y => y.1 ≤ rows.length ∧ Grow H y.2.2 ∧ ∃ ocs : List (List AVal), SliceE y.2.2 H.next 41 y.2.1 ocs ∧ ocs.length = y.1 ∧ ∀ (k : Nat) (rc : List AVal) (r : RowD), ocs[k]? = some rc → rows[k]? = some r → RowC rc r ∧ ∃ sv, rc[40]? = some sv ∧ RoomyAt y.2.2 H.next sv r.set ∧ y.2.1.lies (fun R => sv.lies (· ≠ R))) (fun y => rows.length - y.1) (0, anil, H) rfl ⟨Nat.zero_le _, Grow.refl _, [], SliceE.nil _ _ _, rfl, fun k rc r h => by simp [-getElem?_pos] at h⟩ (by dsimp only; omega) (by simp [-getElem?_pos])
  rintro ⟨j, v3, H1⟩ ⟨hj, hg1, ocs, hs, hol, hoat⟩
  dsimp only at hj hg1 hs hol hoat ⊢
  (repeat (first | apply Wp.seq | apply Wp.blk)); (apply Wp.reg; (repeat (apply Ex.cons; (simp (disch := omega) [-getElem?_pos, hlen]; rfl))); exact Ex.nil; rfl; (simp; rfl))
  (repeat (first | apply Wp.seq | apply Wp.blk)); apply Wp.ite rfl
  · intro hjl
    apply Wp.skip
    obtain ⟨r, hr⟩ : ∃ r, rows[j]? = some r := ⟨_, List.getElem?_eq_getElem (by omega)⟩
    obtain ⟨rc, hrc⟩ : ∃ rc, rcs[j]? = some rc := ⟨_, List.getElem?_eq_getElem (by omega)⟩
    obtain ⟨hRC, sv, hso⟩ := hat j rc r hrc hr
    obtain ⟨R0, ver0, off, kc, ex, cells, hv0, hrow, hc1, hc2⟩ := hrd.at hrc
    rw [hrlen] at hv0
    have hR0 : R0 < H.next := hlies _ _ _ _ _ _ _ hv0
    have hrow1 : H1.rowAt R0 ver0 = some cells := by rw [hg1.rowAt hR0]; exact hrow
    have r5 := hRC.len
    have rt : rc.take 41 = rc := List.take_of_length_le (by omega)
    obtain ⟨H3, hw1, g3, hcl, hn3⟩ := newCells H1 (z := zrow) (e := rc) r5 (by omega) hRC.one
    have hX := hcl.at
    have h40 := hso.at_
    have hg03 := hg1.trans g3
    have hsr := hset r (List.mem_of_getElem? hr)
    have hsl : sv.lies (· < H3.next) := fun R ver off len kc ex esz e => by have := hso.lies R ver off len kc ex esz e; have := hg03.next; omega
    obtain ⟨sv', H4, h29, hg4, hroom⟩ := c29 E n (H := H3) (v := sv) (l := r.set) (hso.rd.grow hg03 hso.lies) hsl hsr
    have hcl4 : Cells H4 H1.next rc := by unfold Cells; rw [hg4.get _ (by omega)]; exact hcl
    have hw4 := Cells.write hcl4 (off := 40) (vs := [sv']) (by simp [-getElem?_pos]) (by rw [r5]; simp [-getElem?_pos]) (by simp [-getElem?_pos, hroom.one])
    have hc1s := cells_one hroom.one
    have hspl : spl rc 40 [sv'] = rc.set 40 sv' := set_spl (by omega)
    rw [hspl] at hw4
    obtain ⟨H5, hH5⟩ : ∃ H5, H5 = H4.set H1.next (.row [some (0, rc.set 40 sv')]) := ⟨_, rfl⟩
    rw [← hH5] at hw4
    have hX5 : H5.rowAt H1.next 0 = some (rc.set 40 sv') := by rw [hH5]; simp [-getElem?_pos]
    have hn5 : H5.next = H4.next := by rw [hH5]; rfl
    have hg15 : Grow H1 H5 := by rw [hH5]; exact (g3.trans hg4).set (Nat.le_refl _) _
    have hRC' : RowC (rc.set 40 sv') r := hRC.put40 hroom.one
    have s5 := hRC'.len
    have st : (rc.set 40 sv').take 41 = rc.set 40 sv' := List.take_of_length_le (by omega)
    have hroom5 : RoomyAt H5 H3.next sv' r.set := hroom.move (by omega) fun A hA _ => by rw [hH5]; exact AHeap.get_set_ne _ _ (by omega)
    have hs5 : SliceE H5 H.next 41 v3 ocs := hs.move (Nat.le_refl _) hg15.next fun A _ hA => hg15.get A hA
    have hv3l := hs.lies
    obtain ⟨v7, H7, ha, hs7, hn7, hk7, hk7', hl7⟩ := (hs5.move (Nat.le_refl _) (Nat.le_succ _) (H' := H5.push (.row [some (0, rc.set 40 sv')])) fun A _ hA => AHeap.get_push_ne _ _ (by omega)).append (bytes := 120) (by have := hg1.next; have := hg15.next; simp [-getElem?_pos]; omega) (X := H5.next) (e := rc.set 40 sv') (by simp [-getElem?_pos]) s5 (by omega) (by omega) hRC'.one (by omega) (ex := true) (kc := 1)
    have hgf : Grow H H7 := ⟨by have := hg1.next; have := hg15.next; simp [-getElem?_pos] at hn7; omega, fun A hA => by have := hg1.next; have := hg15.next; rw [hk7 A hA, AHeap.get_push_ne _ _ (by omega), hg15.get A (by omega), hg1.get A hA]⟩
    have hfin : ∀ (k : Nat) (rc1 : List AVal) (r1 : RowD), (ocs ++ [rc.set 40 sv'])[k]? = some rc1 → rows[k]? = some r1 → RowC rc1 r1 ∧ ∃ sv, rc1[40]? = some sv ∧ RoomyAt H7 H.next sv r1.set ∧ v7.lies (fun R => sv.lies (· ≠ R)) := fun k rc1 r1 h1 h2 => by
      have key : ∀ (u : AVal) (l : List Int), RoomyAt H5 H.next u l → v3.lies (fun R => u.lies (· ≠ R)) → RoomyAt H7 H.next u l ∧ v7.lies (fun R => u.lies (· ≠ R)) := fun u l hu hd => by
        obtain ⟨Ru, veru, vsu, u1, u2, u3, u4, u5⟩ := hu
        have hd2 : v3.lies fun R => R ≠ Ru := fun R ver off len kc ex esz e => fun e' => hd R ver off len kc ex esz e _ _ _ _ _ _ _ u3 e'.symm
        refine ⟨⟨Ru, veru, vsu, u1, by simp [-getElem?_pos] at hn7; omega, u3, ?_, u5⟩, ?_⟩
        · rw [hk7' Ru (by simp [-getElem?_pos]; omega) hd2, AHeap.get_push_ne _ _ (by omega)]; exact u4
        · refine hl7 _ hd fun R hR R' ver' off' len' kc' ex' esz' e => ?_
          rw [u3] at e; cases e
          simp [-getElem?_pos] at hR; omega
      rcases Nat.lt_or_ge k ocs.length with hk | hk
      · rw [List.getElem?_append_left hk] at h1
        obtain ⟨q1, u, q2, q3, q4⟩ := hoat k rc1 r1 h1 h2
        obtain ⟨q5, q6⟩ := key u r1.set (q3.move hg15.next fun A _ hA => hg15.get A hA) q4
        exact ⟨q1, u, q2, q5, q6⟩
      · have hk2 := (List.getElem?_eq_some_iff.1 h1).1
        simp [-getElem?_pos] at hk2
        have : k = ocs.length := by omega
        subst this
        rw [List.getElem?_concat_length] at h1
        cases h1
        rw [hol, hr] at h2; cases h2
        obtain ⟨q5, q6⟩ := key sv' r.set (by
          obtain ⟨Ru, veru, vsu, u1, u2, u3, u4, u5⟩ := hroom5
          exact ⟨Ru, veru, vsu, by have := hg03.next; omega, u2, u3, u4, u5⟩) (fun R ver off len kc ex esz e => by
          have h3 := (hv3l _ _ _ _ _ _ _ e).2
          exact fun R' ver' off' len' kc' ex' esz' e' => by have := (hroom5.lies _ _ _ _ _ _ _ e').1; have := g3.next; omega)
        exact ⟨hRC', sv', by rw [List.getElem?_set_self (by omega)], q5, q6⟩
    repeat (first | apply Wp.seq | apply Wp.blk | apply Wp.ret | apply Wp.skip | apply Wp.exit | apply Wp.cT rfl | apply Wp.cF rfl | ((apply Wp.reg; (repeat (apply Ex.cons; (simp (disch := omega) [-getElem?_pos, hv0, hrow1, hc2, r5, rt, hw1, hX, h40, h29, hc1s, hw4, hX5, s5, st, ha, aFill, repl]; rfl))); exact Ex.nil; rfl; (simp; rfl))))
    exact ⟨(j + 1, v7, H7), rfl, ⟨by dsimp only; omega, hgf, ocs ++ [rc.set 40 sv'], hs7, by simp [-getElem?_pos, hol], hfin⟩, by dsimp only; omega, by simp [-getElem?_pos, hv0]⟩
  · intro hjl
    have : j = rows.length := by omega
    subst this
    apply Wp.exit
    have hlen3 : aLenS v3 = some (vi rows.length) := by rw [hs.rd.lenS, hol]
    obtain ⟨v7, H7, ha, hs7, hn7, hk7, hk7', hl7⟩ := (hs.move (Nat.le_refl _) (Nat.le_succ _) (H' := H1.push (.row [some (0, mrow)])) fun A _ hA => AHeap.get_push_ne _ _ (by omega)).append (bytes := 120) (by have := hg1.next; simp [-getElem?_pos]; omega) (X := H1.next) (e := mrow) (by simp [-getElem?_pos]) rfl (by omega) (by omega) rfl (by omega) (ex := true) (kc := 1)
    have hgf : Grow H H7 := ⟨by have := hg1.next; simp [-getElem?_pos] at hn7; omega, fun A hA => by have := hg1.next; rw [hk7 A hA, AHeap.get_push_ne _ _ (by omega), hg1.get A hA]⟩
    obtain ⟨_, ⟨_, h⟩ | ⟨R, ver, vs, h1, h2, h3, h4, h5⟩⟩ := hs7
    · simp [-getElem?_pos] at h
    rw [List.length_append, hol] at h3
    simp only [List.length_singleton] at h3
    have hle : (rows.length : Int) ≤ rows.length + 1 := by omega
    rw [h3] at ha hl7
    repeat (first | apply Wp.seq | apply Wp.blk | apply Wp.ret | apply Wp.skip | apply Wp.exit | apply Wp.cT rfl | apply Wp.cF rfl | ((apply Wp.reg; (repeat (apply Ex.cons; (simp (disch := omega) [-getElem?_pos, ha, hlen3, aFill, repl, aSliceS, aBoundO, aBound, hle]; rfl))); exact Ex.nil; rfl; (simp; rfl))))
    simp [-getElem?_pos, a16]
    refine ⟨hgf, R, ver, vs, ocs, ⟨h1, h2, rfl, h4, h5, hol, fun k rc r hk1 hk2 => ?_⟩⟩
    obtain ⟨q1, u, q2, q3, q4⟩ := hoat k rc r hk1 hk2
    obtain ⟨Ru, veru, vsu, u1, u2, u3, u4, u5⟩ := q3
    have hd2 : v3.lies fun R => R ≠ Ru := fun R ver off len kc ex esz e => fun e' => q4 R ver off len kc ex esz e _ _ _ _ _ _ _ u3 e'.symm
    refine ⟨q1, u, q2, ⟨Ru, veru, vsu, u1, by simp [-getElem?_pos] at hn7; omega, u3, ?_, u5⟩, ?_, hset r (List.mem_of_getElem? hk2)⟩
    · rw [hk7' Ru (by simp [-getElem?_pos]; omega) hd2, AHeap.get_push_ne _ _ (by omega)]; exact u4
    · have hne := hl7 (fun R => R ≠ Ru) hd2 fun R hR e => by simp [-getElem?_pos] at hR; omega
      have hne2 := hne _ _ _ _ _ _ _ rfl
      intro R' ver' off' len' kc' ex' esz' e
      rw [u3] at e; cases e
      exact fun e' => hne2 e'.symm
end Go.Proofs.Ythbjfkkjmecaaaa
