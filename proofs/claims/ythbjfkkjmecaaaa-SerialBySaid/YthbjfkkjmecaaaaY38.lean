/- Walks: Roomy (a list in memory of its own, with marks in the room behind it), Own (rows so). -/
import Derived.Test.YthbjfkkjmecaaaaY37
import Derived.Test.YthbjfkkjmecaaaaY35
set_option linter.unusedVariables false
set_option linter.unusedSimpArgs false
namespace Go.Proofs.Ythbjfkkjmecaaaa
open Go Go.Vm
section
variable {kn : zy0} {env : Nat → Option zzq}
variable {H H' H1 : zz6} {N A R ver : Nat} {v v0 sv : AVal} {rows : List RowD} {l : List Int} {rcs : List (List AVal)} {r : RowD}
theorem zsl (l : List Int) : (ints l).flatten = l.map vi := by
 induction l with
 | nil => rfl
 | cons z l ih => simp only [List.map_cons, List.flatten_cons, List.singleton_append]; rw [ih]
abbrev marks : List AVal := [vi 7777, vi 8888]
def zyt (H : zz6) (N : Nat) (v : AVal) (l : List Int) : Prop := ∃ R ver vs, N ≤ R ∧ R < H.next ∧ v = .slice R ver 0 l.length (l.length + 2) false 1 ∧ H.get R = some (.row vs) ∧ vs[ver]? = some (some (0, l.map vi ++ marks))
theorem zyt.row (h : zyt H N v l) : ∃ R ver, v = .slice R ver 0 l.length (l.length + 2) false 1 ∧ N ≤ R ∧ R < H.next ∧ H.rowAt R ver = some (l.map vi ++ marks) := by
 obtain ⟨R, ver, vs, h1, h2, h3, h4, h5⟩ := h
 exact ⟨R, ver, h3, h1, h2, by unfold zz6.rowAt; rw [h4]; simp only [h5]⟩
theorem zyt.rd (h : zyt H N v l) : RdE H 1 v (ints l) := by
 obtain ⟨R, ver, h3, h1, h2, h4⟩ := h.row
 refine ⟨fun e he => by obtain ⟨z, _, rfl⟩ := List.mem_map.1 he; rfl, .inr ⟨R, ver, 0, l.length + 2, false, _, by rw [h3, List.length_map], h4, by rw [List.length_map]; omega, by simp [-getElem?_pos], ?_⟩⟩
 rw [zsl, List.drop_zero, List.length_map, Nat.mul_one, List.take_left' (by simp)]
theorem zyt.lies (h : zyt H N v l) : v.lies fun R => N ≤ R ∧ R < H.next := fun R ver off len kc ex esz e => by
 obtain ⟨R', ver', h3, h1, h2, _⟩ := h.row
 rw [h3] at e; cases e; exact ⟨h1, h2⟩
theorem zyt.one (h : zyt H N v l) : v.one = true := by
 obtain ⟨R', ver', h3, _⟩ := h.row
 rw [h3]; rfl
theorem zyt.move (h : zyt H N v l) (hn : H.next ≤ H'.next) (hg : ∀ A, N ≤ A → A < H.next → H'.get A = H.get A) : zyt H' N v l := by
 obtain ⟨R, ver, vs, h1, h2, h3, h4, h5⟩ := h
 exact ⟨R, ver, vs, h1, by omega, h3, by rw [hg R h1 h2]; exact h4, h5⟩
theorem ap1 {Z Y : Nat} (hl : l ≠ []) (hZ : H.get Z = some (.row [some (0, l.map vi)])) (hY : H.rowAt Y 0 = some marks) (hlen : (l.length + 2) * 8 ≤ 140737488355328) :
  ∃ u, zzf H 1 8 (.slice Z 0 0 l.length l.length false 1) (.slice Y 0 0 2 2 true 1) = some (.slice Z 1 0 (l.length + 2) (l.length + 2) false 1, H.set Z (.row [u, some (0, l.map vi ++ marks)])) := by
 have hr : H.rowAt Z 0 = some (l.map vi) := by unfold zz6.rowAt; rw [hZ]; rfl
 have hn : ¬ (l.length + 2 ≤ l.length) := by omega
 have hc : aCells H 1 (.slice Y 0 0 2 2 true 1) = some marks := by simp only [aCells, hY, Option.bind_some]; rfl
 have hm : ∃ u, zwy [some (0, l.map vi)] (0 + 0 + l.length * 1) 2 (0 + 0) (((l.map vi).drop 0).take (l.length * 1) ++ marks) = [u, some (0, l.map vi ++ marks)] := by
  unfold zwy
  simp only [killAt]
  rw [List.drop_zero, Nat.mul_one, List.take_of_length_le (by simp)]
  exact ⟨_, rfl⟩
 obtain ⟨u, hu⟩ := hm
 refine ⟨u, ?_⟩
 simp only [zzf, zjl, hc, Option.bind_some, hn, if_false, hlen, if_true, hr, hZ, List.getElem?_cons_zero]
 rw [← hu]
 have e1 : ¬ (2 : Nat) = 0 := by omega
 have e2 : marks.all AVal.one = true := rfl
 have e3 : 0 + l.length * 1 ≤ (l.map vi).length := by simp [-getElem?_pos]
 simp only [e1, if_false, e2, e3, if_true]
 rfl
theorem ap0 {X Y : Nat} (hX : H.rowAt X 0 = some []) (hY : H.rowAt Y 0 = some marks) :
  zzf H 1 8 (.slice X 0 0 0 0 true 1) (.slice Y 0 0 2 2 true 1) = some (.slice H.next 0 0 2 2 false 1, H.push (.row [some (0, marks)])) := by
 have hc : aCells H 1 (.slice Y 0 0 2 2 true 1) = some marks := by simp only [aCells, hY, Option.bind_some]; rfl
 have e1 : ¬ (2 : Nat) = 0 := by omega
 have e2 : marks.all AVal.one = true := rfl
 simp only [zzf, zjl, hc, Option.bind_some, e1, if_false, e2, hX]
 rfl
structure OwnE (kn : zy0) (env : Nat → Option zzq) : Prop where
 f16 : Fn kn env 16 a16
 f29 : Fn kn env 29 a29
 f32 : Fn kn env 32 a32
theorem c32 (E : OwnE kn env) (n : Nat) (hv : RdE H 1 v (ints l)) (hl : v.lies (· < H.next)) (hlen : (l.length + 2) * 8 ≤ 140737488355328) :
  ∃ v' H', zzp kn env (n + 1) (.func (.func 32) []) [v] H = some (v', H') ∧ (Grow H H' ∧ ((l = [] ∧ v' = .slice H.next 0 0 0 0 true 1 ∧ H' = H.push (.row [some (0, [])])) ∨ (l ≠ [] ∧ v' = .slice (H.next + 1) 0 0 l.length l.length false 1 ∧ H' = (H.push (.row [some (0, [])])).push (.row [some (0, l.map vi)])))) := by
 obtain ⟨H1, hH1⟩ : ∃ H1, H1 = H.push (.row [some (0, [])]) := ⟨_, rfl⟩
 have hg1 : Grow H H1 := by rw [hH1]; exact Grow.push _ _
 have hn1 : H1.next = H.next + 1 := by rw [hH1]; simp [-getElem?_pos]
 have hX : H1.rowAt H.next 0 = some [] := by rw [hH1]; simp [-getElem?_pos]
 have hv1 := hv.grow hg1 hl
 refine Wp.call 6 [0, 2] E.f32.e (E.f32.no _ H) rfl (by simp) ?_
 by_cases hnil : l = []
 ·have ha : zzf H1 1 8 (.slice H.next 0 0 0 0 true 1) v = some (.slice H.next 0 0 0 0 true 1, H1) := by
   have h0 : zjl v = some 0 := by have := hv1.len; rw [hnil] at this; exact this
   have hc := hv1.aCells
   simp only [zzf, h0, hc, Option.bind_some, if_true]
  rw [hH1] at ha
  repeat (first | apply Wp.za | apply Wp.zb | apply Wp.zc | apply Wp.zd | apply Wp.ze | apply Wp.zf rfl | apply Wp.zg rfl | ((apply Wp.zh; (repeat (apply Ex.zc; (simp (disch := omega) [-getElem?_pos, ha, zzm, zx1]; rfl))); exact Ex.zn; rfl; (simp; rfl))))
  simp [-getElem?_pos, a32]
  rw [← hH1]
  exact ⟨hg1, hnil⟩
 ·have ha := (hv1.appendNew (bytes := 8) (by simpa [-getElem?_pos] using hnil) (by omega) (by omega) (zmy l) (by rw [List.length_map]; omega) hX).1
  rw [List.length_map, zsl, hH1] at ha
  rw [hH1] at hn1
  repeat (first | apply Wp.za | apply Wp.zb | apply Wp.zc | apply Wp.zd | apply Wp.ze | apply Wp.zf rfl | apply Wp.zg rfl | ((apply Wp.zh; (repeat (apply Ex.zc; (simp (disch := omega) [-getElem?_pos, ha, zzm, zx1]; rfl))); exact Ex.zn; rfl; (simp; rfl))))
  simp [-getElem?_pos, a32]
  rw [← hH1]
  exact ⟨hg1.trans (Grow.push _ _), hnil⟩
theorem c29 (E : OwnE kn env) (n : Nat) (hv : RdE H 1 v (ints l)) (hl : v.lies (· < H.next)) (hlen : (l.length + 2) * 8 ≤ 140737488355328) :
  ∃ v' H', zzp kn env (n + 2) (.func (.func 29) []) [v] H = some (v', H') ∧ (Grow H H' ∧ zyt H' H.next v' l) := by
 obtain ⟨w, H1, h32, hg1, hw⟩ := c32 E n hv hl hlen
 have hlv : zyy v = some (vi l.length) := by have := hv.lenS; rwa [List.length_map] at this
 refine Wp.call 10 [0, 2] E.f29.e (E.f29.no _ H) (n := n + 1) rfl (by simp) ?_
 rcases hw with ⟨rfl, rfl, rfl⟩ | ⟨hne, rfl, rfl⟩
 ·have ha := ap0 (H := (H.push (.row [some (0, [])])).push (.row [some (0, marks)])) (X := H.next) (Y := H.next + 1) (by simp (disch := omega) [-getElem?_pos]) (by simp (disch := omega) [-getElem?_pos])
  simp only [zz6.zyc] at ha
  simp only [List.length_nil] at hlv
  repeat (first | apply Wp.za | apply Wp.zb | apply Wp.zc | apply Wp.zd | apply Wp.ze | apply Wp.zf rfl | apply Wp.zg rfl | ((apply Wp.zh; (repeat (apply Ex.zc; (simp (disch := omega) [-getElem?_pos, h32, ha, zzm, zx1, hlv, zye, zy7, zxz]; rfl))); exact Ex.zn; rfl; (simp; rfl))))
  simp [-getElem?_pos, a29]
  exact ⟨((Grow.push _ _).trans (Grow.push _ _)).trans (Grow.push _ _), H.next + 2, 0, [some (0, marks)], by omega, by simp [-getElem?_pos], rfl, by simp (disch := omega) [-getElem?_pos], rfl⟩
 ·obtain ⟨u, ha⟩ := ap1 (H := ((H.push (.row [some (0, [])])).push (.row [some (0, l.map vi)])).push (.row [some (0, marks)])) (Z := H.next + 1) (Y := H.next + 2) hne (by simp (disch := omega) [-getElem?_pos]) (by simp (disch := omega) [-getElem?_pos]) hlen
  have h1 : (l.length : Int) ≤ l.length + 2 := by omega
  repeat (first | apply Wp.za | apply Wp.zb | apply Wp.zc | apply Wp.zd | apply Wp.ze | apply Wp.zf rfl | apply Wp.zg rfl | ((apply Wp.zh; (repeat (apply Ex.zc; (simp (disch := omega) [-getElem?_pos, h32, ha, zzm, zx1, hlv, zye, zy7, zxz, h1]; rfl))); exact Ex.zn; rfl; (simp; rfl))))
  simp [-getElem?_pos, a29]
  refine ⟨(((Grow.push _ _).trans (Grow.push _ _)).trans (Grow.push _ _)).set (by omega) _, H.next + 1, 1, [u, some (0, l.map vi ++ marks)], by omega, by simp [-getElem?_pos], rfl, zz6.zzy _ _ _, rfl⟩
end
section
variable {kn : zy0} {env : Nat → Option zzq}
variable {H H' H1 : zz6} {N A R ver : Nat} {v v0 sv : AVal} {rows : List RowD} {l : List Int} {rcs : List (List AVal)} {rc : List AVal} {r : RowD}
theorem RowC.put40 (h : RowC rc r) (h1 : sv.one = true) : RowC (rc.set 40 sv) r := by
 have hl := h.len
 refine ⟨by rw [List.length_set]; exact hl, ?_, ?_, ?_, ?_, ?_, ?_, ?_, ?_, ?_, h.isv, ?_⟩
 ·rw [List.getElem?_set_ne (by omega)]; exact h.a0
 ·rw [List.getElem?_set_ne (by omega)]; exact h.a1
 ·rw [List.getElem?_set_ne (by omega)]; exact h.a2
 ·rw [List.getElem?_set_ne (by omega)]; exact h.a3
 ·rw [List.getElem?_set_ne (by omega)]; exact h.a4
 ·rw [← h.av]
  refine List.ext_getElem? fun k => ?_
  rw [List.getElem?_take, List.getElem?_take]
  split
  ·rw [List.getElem?_drop, List.getElem?_drop, List.getElem?_set_ne (by omega)]
  ·rfl
 ·rw [List.getElem?_set_ne (by omega)]; exact h.a37
 ·rw [List.getElem?_set_ne (by omega)]; exact h.a38
 ·rw [List.getElem?_set_ne (by omega)]; exact h.a39
 ·rw [List.all_eq_true]
  intro c hc
  rcases List.mem_or_eq_of_mem_set hc with hc | rfl
  ·exact (List.all_eq_true.1 h.one) c hc
  ·exact h1
abbrev yqr : List AVal := [vi 7777, .raw (.int .u64 0), zi, .raw (.int .u64 0), zi, zb, zb, zb, zb, zb, zb, zb, zb, zb, zb, zb, zb, zb, zb, zb, zb, zb, zb, zb, zb, zb, zb, zb, zb, zb, zb, zb, zb, zb, zb, zb, zb, .raw (.int .u64 0), zi, zi, ns]
structure zs0 (H : zz6) (N : Nat) (v : AVal) (rows : List RowD) (R ver : Nat) (vs : zuq) (rcs : List (List AVal)) : Prop where
 hN : N ≤ R
 hR : R < H.next
 val : v = .slice R ver 0 rows.length (rows.length + 1) false 41
 get : H.get R = some (.row vs)
 at_ : vs[ver]? = some (some (0, (rcs ++ [yqr]).flatten))
 len : rcs.length = rows.length
 each : ∀ (k : Nat) (rc : List AVal) (r : RowD), rcs[k]? = some rc → rows[k]? = some r → RowC rc r ∧ ∃ sv, rc[40]? = some sv ∧ zyt H N sv r.set ∧ sv.lies (· ≠ R) ∧ (r.set.length + 2) * 8 ≤ 140737488355328
abbrev C16 : List Nat := [0, 2, 3, 4, 5, 9]
set_option maxHeartbeats 4000000 in
theorem c16 (E : OwnE kn env) (n : Nat) (hrows : zwz H H.next v0 rows) (hset : ∀ r ∈ rows, (r.set.length + 2) * 8 ≤ 140737488355328) (hm : rows.length < 400000000000) (hn : rows.length + 5 < n) :
  ∃ v H', zzp kn env (n + 3) (.func (.func 16) []) [v0] H = some (v, H') ∧ (Grow H H' ∧ ∃ R ver vs rcs, zs0 H' H.next v rows R ver vs rcs) := by
 obtain ⟨rcs, hrd, hlies, hrlen, hat⟩ := hrows
 have hlen : zyy v0 = some (vi rows.length) := by rw [hrd.lenS, hrlen]
 refine Wp.call 31 C16 E.f16.e (E.f16.no _ H) (n := n + 2) rfl (by simp) ?_
 repeat (first | apply Wp.za | apply Wp.zb | apply Wp.zc | apply Wp.zd | apply Wp.ze | apply Wp.zf rfl | apply Wp.zg rfl | ((apply Wp.zh; (repeat (apply Ex.zc; (simp (disch := omega) [-getElem?_pos]; rfl))); exact Ex.zn; rfl; (simp; rfl))))
 apply Wp.loop (α := Nat × AVal × zz6) (fun y => [(0, v0), (2, zxa), (3, y.2.1), (4, vi y.1)]) (·.2.2)
  (fun y => y.1 ≤ rows.length ∧ Grow H y.2.2 ∧ ∃ ocs : List (List AVal), zzw y.2.2 H.next 41 y.2.1 ocs ∧ ocs.length = y.1 ∧ ∀ (k : Nat) (rc : List AVal) (r : RowD), ocs[k]? = some rc → rows[k]? = some r → RowC rc r ∧ ∃ sv, rc[40]? = some sv ∧ zyt y.2.2 H.next sv r.set ∧ y.2.1.lies (fun R => sv.lies (· ≠ R))) (fun y => rows.length - y.1) (0, zxa, H) rfl ⟨Nat.zero_le _, Grow.refl _, [], zzw.nil _ _ _, rfl, fun k rc r h => by simp [-getElem?_pos] at h⟩ (by dsimp only; omega) (by simp)
 rintro ⟨j, v3, H1⟩ ⟨hj, hg1, ocs, hs, hol, hoat⟩
 dsimp only at hj hg1 hs hol hoat ⊢
 (repeat (first | apply Wp.za | apply Wp.zb)); (apply Wp.zh; (repeat (apply Ex.zc; (simp (disch := omega) [-getElem?_pos, hlen]; rfl))); exact Ex.zn; rfl; (simp; rfl))
 (repeat (first | apply Wp.za | apply Wp.zb)); apply Wp.ite rfl
 ·intro hjl
  apply Wp.zd
  obtain ⟨r, hr⟩ : ∃ r, rows[j]? = some r := ⟨_, List.getElem?_eq_getElem (by omega)⟩
  obtain ⟨rc, hrc⟩ : ∃ rc, rcs[j]? = some rc := ⟨_, List.getElem?_eq_getElem (by omega)⟩
  obtain ⟨hRC, sv, hso⟩ := hat j rc r hrc hr
  obtain ⟨R0, ver0, off, kc, ex, cells, hv0, hrow, hc1, hc2⟩ := hrd.at hrc
  rw [hrlen] at hv0
  have hR0 : R0 < H.next := hlies _ _ _ _ _ _ _ hv0
  have hrow1 : H1.rowAt R0 ver0 = some cells := by rw [hg1.rowAt hR0]; exact hrow
  have r5 := hRC.len
  have rt : rc.take 41 = rc := List.take_of_length_le (by omega)
  obtain ⟨H3, hw1, g3, hcl, hn3⟩ := zx6 H1 (z := zpv) (e := rc) r5 (by omega) hRC.one
  have hX := hcl.at
  have h40 := hso.at_
  have hg03 := hg1.trans g3
  have hsr := hset r (List.mem_of_getElem? hr)
  have hsl : sv.lies (· < H3.next) := fun R ver off len kc ex esz e => by have := hso.lies R ver off len kc ex esz e; have := hg03.next; omega
  obtain ⟨sv', H4, h29, hg4, hroom⟩ := c29 E n (H := H3) (v := sv) (l := r.set) (hso.rd.grow hg03 hso.lies) hsl hsr
  have hcl4 : Cells H4 H1.next rc := by unfold Cells; rw [hg4.get _ (by omega)]; exact hcl
  have hw4 := Cells.write hcl4 (off := 40) (vs := [sv']) (by simp) (by rw [r5]; simp [-getElem?_pos]) (by simp [-getElem?_pos, hroom.one])
  have hc1s := zx4 hroom.one
  have hspl : spl rc 40 [sv'] = rc.set 40 sv' := zn9 (by omega)
  rw [hspl] at hw4
  obtain ⟨H5, hH5⟩ : ∃ H5, H5 = H4.set H1.next (.row [some (0, rc.set 40 sv')]) := ⟨_, rfl⟩
  rw [← hH5] at hw4
  have hX5 : H5.rowAt H1.next 0 = some (rc.set 40 sv') := by rw [hH5]; simp [-getElem?_pos]
  have hn5 : H5.next = H4.next := by rw [hH5]; rfl
  have hg15 : Grow H1 H5 := by rw [hH5]; exact (g3.trans hg4).set (Nat.le_refl _) _
  have hRC' : RowC (rc.set 40 sv') r := hRC.put40 hroom.one
  have s5 := hRC'.len
  have st : (rc.set 40 sv').take 41 = rc.set 40 sv' := List.take_of_length_le (by omega)
  have hroom5 : zyt H5 H3.next sv' r.set := hroom.move (by omega) fun A hA _ => by rw [hH5]; exact zz6.zzz _ _ (by omega)
  have hs5 : zzw H5 H.next 41 v3 ocs := hs.move (Nat.le_refl _) hg15.next fun A _ hA => hg15.get A hA
  have hv3l := hs.lies
  obtain ⟨v7, H7, ha, hs7, hn7, hk7, hk7', hl7⟩ := (hs5.move (Nat.le_refl _) (Nat.le_succ _) (H' := H5.push (.row [some (0, rc.set 40 sv')])) fun A _ hA => zz6.zz9 _ _ (by omega)).append (bytes := 120) (by have := hg1.next; have := hg15.next; simp [-getElem?_pos]; omega) (X := H5.next) (e := rc.set 40 sv') (by simp) s5 (by omega) (by omega) hRC'.one (by omega) (ex := true) (kc := 1)
  have hgf : Grow H H7 := ⟨by have := hg1.next; have := hg15.next; simp [-getElem?_pos] at hn7; omega, fun A hA => by have := hg1.next; have := hg15.next; rw [hk7 A hA, zz6.zz9 _ _ (by omega), hg15.get A (by omega), hg1.get A hA]⟩
  have hfin : ∀ (k : Nat) (rc1 : List AVal) (r1 : RowD), (ocs ++ [rc.set 40 sv'])[k]? = some rc1 → rows[k]? = some r1 → RowC rc1 r1 ∧ ∃ sv, rc1[40]? = some sv ∧ zyt H7 H.next sv r1.set ∧ v7.lies (fun R => sv.lies (· ≠ R)) := fun k rc1 r1 h1 h2 => by
   have key : ∀ (u : AVal) (l : List Int), zyt H5 H.next u l → v3.lies (fun R => u.lies (· ≠ R)) → zyt H7 H.next u l ∧ v7.lies (fun R => u.lies (· ≠ R)) := fun u l hu hd => by
    obtain ⟨Ru, veru, vsu, u1, u2, u3, u4, u5⟩ := hu
    have hd2 : v3.lies fun R => R ≠ Ru := fun R ver off len kc ex esz e => fun e' => hd R ver off len kc ex esz e _ _ _ _ _ _ _ u3 e'.symm
    refine ⟨⟨Ru, veru, vsu, u1, by simp [-getElem?_pos] at hn7; omega, u3, ?_, u5⟩, ?_⟩
    ·rw [hk7' Ru (by simp; omega) hd2, zz6.zz9 _ _ (by omega)]; exact u4
    ·refine hl7 _ hd fun R hR R' ver' off' len' kc' ex' esz' e => ?_
     rw [u3] at e; cases e
     simp [-getElem?_pos] at hR; omega
   rcases Nat.lt_or_ge k ocs.length with hk | hk
   ·rw [List.getElem?_append_left hk] at h1
    obtain ⟨q1, u, q2, q3, q4⟩ := hoat k rc1 r1 h1 h2
    obtain ⟨q5, q6⟩ := key u r1.set (q3.move hg15.next fun A _ hA => hg15.get A hA) q4
    exact ⟨q1, u, q2, q5, q6⟩
   ·have hk2 := (List.getElem?_eq_some_iff.1 h1).1
    simp [-getElem?_pos] at hk2
    have : k = ocs.length := by omega
    subst this
    rw [List.getElem?_concat_length] at h1
    cases h1
    rw [hol, hr] at h2; cases h2
    obtain ⟨q5, q6⟩ := key sv' r.set (by
     obtain ⟨Ru, veru, vsu, u1, u2, u3, u4, u5⟩ := hroom5
     exact ⟨Ru, veru, vsu, by have := hg03.next; omega, u2, u3, u4, u5⟩) (fun R ver off len kc ex esz e => by
     have h3 := (hv3l _ _ _ _ _ _ _ e).2
     exact fun R' ver' off' len' kc' ex' esz' e' => by have := (hroom5.lies _ _ _ _ _ _ _ e').1; have := g3.next; omega)
    exact ⟨hRC', sv', by rw [List.getElem?_set_self (by omega)], q5, q6⟩
  repeat (first | apply Wp.za | apply Wp.zb | apply Wp.zc | apply Wp.zd | apply Wp.ze | apply Wp.zf rfl | apply Wp.zg rfl | ((apply Wp.zh; (repeat (apply Ex.zc; (simp (disch := omega) [-getElem?_pos, hv0, hrow1, hc2, r5, rt, hw1, hX, h40, h29, hc1s, hw4, hX5, s5, st, ha, zzm, zx1]; rfl))); exact Ex.zn; rfl; (simp; rfl))))
  exact ⟨(j + 1, v7, H7), rfl, ⟨by dsimp only; omega, hgf, ocs ++ [rc.set 40 sv'], hs7, by simp [-getElem?_pos, hol], hfin⟩, by dsimp only; omega, by simp [-getElem?_pos, hv0]⟩
 ·intro hjl
  have : j = rows.length := by omega
  subst this
  apply Wp.ze
  have hlen3 : zyy v3 = some (vi rows.length) := by rw [hs.rd.lenS, hol]
  obtain ⟨v7, H7, ha, hs7, hn7, hk7, hk7', hl7⟩ := (hs.move (Nat.le_refl _) (Nat.le_succ _) (H' := H1.push (.row [some (0, yqr)])) fun A _ hA => zz6.zz9 _ _ (by omega)).append (bytes := 120) (by have := hg1.next; simp [-getElem?_pos]; omega) (X := H1.next) (e := yqr) (by simp) rfl (by omega) (by omega) rfl (by omega) (ex := true) (kc := 1)
  have hgf : Grow H H7 := ⟨by have := hg1.next; simp [-getElem?_pos] at hn7; omega, fun A hA => by have := hg1.next; rw [hk7 A hA, zz6.zz9 _ _ (by omega), hg1.get A hA]⟩
  obtain ⟨_, ⟨_, h⟩ | ⟨R, ver, vs, h1, h2, h3, h4, h5⟩⟩ := hs7
  ·simp [-getElem?_pos] at h
  rw [List.length_append, hol] at h3
  simp only [List.length_singleton] at h3
  have hle : (rows.length : Int) ≤ rows.length + 1 := by omega
  rw [h3] at ha hl7
  repeat (first | apply Wp.za | apply Wp.zb | apply Wp.zc | apply Wp.zd | apply Wp.ze | apply Wp.zf rfl | apply Wp.zg rfl | ((apply Wp.zh; (repeat (apply Ex.zc; (simp (disch := omega) [-getElem?_pos, ha, hlen3, zzm, zx1, zye, zy7, zxz, hle]; rfl))); exact Ex.zn; rfl; (simp; rfl))))
  simp [-getElem?_pos, a16]
  refine ⟨hgf, R, ver, vs, ocs, ⟨h1, h2, rfl, h4, h5, hol, fun k rc r hk1 hk2 => ?_⟩⟩
  obtain ⟨q1, u, q2, q3, q4⟩ := hoat k rc r hk1 hk2
  obtain ⟨Ru, veru, vsu, u1, u2, u3, u4, u5⟩ := q3
  have hd2 : v3.lies fun R => R ≠ Ru := fun R ver off len kc ex esz e => fun e' => q4 R ver off len kc ex esz e _ _ _ _ _ _ _ u3 e'.symm
  refine ⟨q1, u, q2, ⟨Ru, veru, vsu, u1, by simp [-getElem?_pos] at hn7; omega, u3, ?_, u5⟩, ?_, hset r (List.mem_of_getElem? hk2)⟩
  ·rw [hk7' Ru (by simp; omega) hd2, zz6.zz9 _ _ (by omega)]; exact u4
  ·have hne := hl7 (fun R => R ≠ Ru) hd2 fun R hR e => by simp [-getElem?_pos] at hR; omega
   have hne2 := hne _ _ _ _ _ _ _ rfl
   intro R' ver' off' len' kc' ex' esz' e
   rw [u3] at e; cases e
   exact fun e' => hne2 e'.symm
end
section
variable {kn : zy0} {env : Nat → Option zzq}
variable {H H' H1 : zz6} {N A : Nat} {v v0 : AVal} {rows l : List RowD} {rcs ocs : List (List AVal)} {rc : List AVal} {r : RowD} {sv rv : AVal}
theorem c11 (h : Fn kn env 11 a11) (n : Nat) (hrd : RdE H 41 v0 rcs) : ∃ v', zzp kn env (n + 1) (.func (.func 11) []) [v0] H = some (v', H) ∧ RdE H 41 v' (rcs.take 400) ∧ ∀ p : Nat → Prop, v0.lies p → v'.lies p := by
 have hlen := hrd.lenS
 by_cases hc : 400 < rcs.length
 ·rcases id hrd with ⟨h0, ⟨rfl, rfl⟩ | ⟨R, ver, off, kc, ex, cells, rfl, h2, h3, h4, h5⟩⟩
  ·simp [-getElem?_pos] at hc
  ·refine ⟨.slice R ver off 400 kc ex 41, Wp.call1 9 [0, 2, 5] h.e (h.no [.slice R ver off rcs.length kc ex 41] H) rfl (by simp) ?_, ⟨fun e he => h0 e (List.mem_of_mem_take he), .inr ⟨R, ver, off, kc, ex, cells, by rw [List.length_take, Nat.min_eq_left (by omega)], h2, by rw [List.length_take]; omega, by rw [List.length_take]; omega, ?_⟩⟩, fun p hp R' ver' off' len kcap ex' esz' e => by cases e; exact hp _ _ _ _ _ _ _ rfl⟩
   ·repeat (first | apply Wp.za | apply Wp.zb | apply Wp.zc | apply Wp.zd | apply Wp.ze | apply Wp.zf rfl | apply Wp.zg rfl | ((apply Wp.zh; (repeat (apply Ex.zc; (simp (disch := omega) [-getElem?_pos, zyy, zye, zy7, zxz, hc]; rfl))); exact Ex.zn; rfl; (simp; rfl))))
    simp [-getElem?_pos, a11]
   ·rw [List.length_take, Nat.min_eq_left (by omega), zxb 400 h0, ← h5, List.take_take, Nat.min_eq_left (by omega)]
 ·refine ⟨v0, Wp.call1 9 [0, 2, 5] h.e (h.no [v0] H) rfl (by simp) ?_, by rw [List.take_of_length_le (by omega)]; exact hrd, fun p hp => hp⟩
  repeat (first | apply Wp.za | apply Wp.zb | apply Wp.zc | apply Wp.zd | apply Wp.ze | apply Wp.zf rfl | apply Wp.zg rfl | ((apply Wp.zh; (repeat (apply Ex.zc; (simp (disch := omega) [-getElem?_pos, hlen]; rfl))); exact Ex.zn; rfl; (simp; rfl))))
  simp [-getElem?_pos, a11]
open Classical in
theorem c22 (h : Fn kn env 22 a22) (n : Nat) {v1 v2 : AVal} {es1 es2 : List (List AVal)} (h1 : RdE H 32 v1 es1) (h2 : RdE H 32 v2 es2) (hv1 : ∀ e ∈ es1, zyr e) (hv2 : ∀ e ∈ es2, zyr e) (hl : es1.length < 1000000000000) (hn : es1.length + 5 < n) : zzp kn env (n + 1) (.func (.func 22) []) [v1, v2] H = some (zzt (decide (es1 = es2)), H) := by
 have hl1 := h1.lenS
 have hl2 := h2.lenS
 refine Wp.call1 26 [0, 1, 4, 5, 10, 14, 25] h.e (h.no [v1, v2] H) rfl (by simp) ?_
 by_cases hne : (es1.length : Int) = es2.length
 ·repeat (first | apply Wp.za | apply Wp.zb | apply Wp.zc | apply Wp.zd | apply Wp.ze | apply Wp.zf rfl | apply Wp.zg rfl | ((apply Wp.zh; (repeat (apply Ex.zc; (simp (disch := omega) [-getElem?_pos, hl1, hl2]; rfl))); exact Ex.zn; rfl; (simp; rfl))))
  apply Wp.loop (α := Nat) (fun y => [(0, v1), (1, v2), (5, vi y)]) (fun _ => H) (fun y => y ≤ es1.length ∧ es1.take y = es2.take y) (fun y => es1.length - y) 0 rfl ⟨by omega, rfl⟩ (by simp; omega) (by simp)
  rintro j ⟨hj, heq⟩
  skip
  (repeat (first | apply Wp.za | apply Wp.zb)); (apply Wp.zh; (repeat (apply Ex.zc; (simp (disch := omega) [-getElem?_pos, hl1]; rfl))); exact Ex.zn; rfl; (simp; rfl))
  (repeat (first | apply Wp.za | apply Wp.zb)); apply Wp.ite rfl
  ·intro hjl
   obtain ⟨e1, he1⟩ : ∃ e, es1[j]? = some e := ⟨_, List.getElem?_eq_getElem (by omega)⟩
   obtain ⟨e2, he2⟩ : ∃ e, es2[j]? = some e := ⟨_, List.getElem?_eq_getElem (by omega)⟩
   obtain ⟨R1, ver1, off1, kc1, ex1, cells1, hq1, hr1, ha1, hb1⟩ := h1.at he1
   obtain ⟨R2, ver2, off2, kc2, ex2, cells2, hq2, hr2, ha2, hb2⟩ := h2.at he2
   have i1 := hv1 e1 (List.mem_of_getElem? he1)
   have i2 := hv2 e2 (List.mem_of_getElem? he2)
   have b1 : AVal.beqs e1 e1 = true := zyq i1.bytes
   have b2 : AVal.beqs e2 e2 = true := zyq i2.bytes
   apply Wp.zd
   by_cases hee : e1 = e2
   ·subst hee
    have hev := zj7 i1
    repeat (first | apply Wp.za | apply Wp.zb | apply Wp.zc | apply Wp.zd | apply Wp.ze | apply Wp.zf rfl | apply Wp.zg rfl | ((apply Wp.zh; (repeat (apply Ex.zc; (simp (disch := omega) [-getElem?_pos, hq1, hq2, hr1, hr2, ha1, ha2, hb1, hb2, hev, b1]; rfl))); exact Ex.zn; rfl; (simp; rfl))) | ((apply Wp.zi; (repeat ((first | apply Dr.q rfl rfl | apply Dr.r rfl rfl | apply Dr.imm rfl); (simp (disch := omega) [-getElem?_pos, hq1, hq2, hr1, hr2, ha1, ha2, hb1, hb2, hev, b1]; rfl); (focus first | (simp; rfl) | (simp; done) | (simp; omega)))); exact Dr.nil; rfl; (simp (disch := omega) [-getElem?_pos, hq1, hq2, hr1, hr2, ha1, ha2, hb1, hb2, hev, b1]); (simp; rfl))))
    exact ⟨j + 1, rfl, ⟨by omega, by rw [List.take_add_one, List.take_add_one, heq, he1, he2]⟩, by omega, by simp [-getElem?_pos, hq1, hq2]⟩
   ·have hev := zne i1 i2 hee
    repeat (first | apply Wp.za | apply Wp.zb | apply Wp.zc | apply Wp.zd | apply Wp.ze | apply Wp.zf rfl | apply Wp.zg rfl | ((apply Wp.zh; (repeat (apply Ex.zc; (simp (disch := omega) [-getElem?_pos, hq1, hq2, hr1, hr2, ha1, ha2, hb1, hb2, hev, b1, b2]; rfl))); exact Ex.zn; rfl; (simp; rfl))) | ((apply Wp.zi; (repeat ((first | apply Dr.q rfl rfl | apply Dr.r rfl rfl | apply Dr.imm rfl); (simp (disch := omega) [-getElem?_pos, hq1, hq2, hr1, hr2, ha1, ha2, hb1, hb2, hev, b1, b2]; rfl); (focus first | (simp; rfl) | (simp; done) | (simp; omega)))); exact Dr.nil; rfl; (simp (disch := omega) [-getElem?_pos, hq1, hq2, hr1, hr2, ha1, ha2, hb1, hb2, hev, b1, b2]); (simp; rfl))))
    simp [-getElem?_pos, a22]
    intro e
    rw [e, he2] at he1
    exact hee (Option.some.inj he1).symm
  ·intro hjl
   apply Wp.ze
   repeat (first | apply Wp.za | apply Wp.zb | apply Wp.zc | apply Wp.zd | apply Wp.ze | apply Wp.zf rfl | apply Wp.zg rfl | ((apply Wp.zh; (repeat (apply Ex.zc; (simp (disch := omega) [-getElem?_pos]; rfl))); exact Ex.zn; rfl; (simp; rfl))))
   simp [-getElem?_pos, a22]
   rw [List.take_of_length_le (by omega), List.take_of_length_le (by omega)] at heq
   exact heq
 ·have hne2 : es1 ≠ es2 := fun e => hne (by rw [e])
  repeat (first | apply Wp.za | apply Wp.zb | apply Wp.zc | apply Wp.zd | apply Wp.ze | apply Wp.zf rfl | apply Wp.zg rfl | ((apply Wp.zh; (repeat (apply Ex.zc; (simp (disch := omega) [-getElem?_pos, hl1, hl2, hne]; rfl))); exact Ex.zn; rfl; (simp; rfl))))
  simp [-getElem?_pos, a22, hne2]
end
section
variable {kn : zy0} {env : Nat → Option zzq}
variable {rows l a : List RowD} {r : RowD} {f : zyw} {p : Int} {k : Nat}
end
section
variable {kn : zy0} {env : Nat → Option zzq}
variable {rows l a : List RowD} {r : RowD} {f : zyw} {p q : Int} {k : Nat}
end
section
variable {kn : zy0} {env : Nat → Option zzq}
variable {rows l : List RowD} {r : RowD} {y : TxD} {c q : Int} {k n p : Nat} {f : zyw}
end
section
variable {kn : zy0} {env : Nat → Option zzq}
variable {H H' H1 : zz6} {N A R ver : Nat} {v v0 sv a : AVal} {rows : List RowD} {l : List Int} {rcs : List (List AVal)} {rc : List AVal} {r : RowD} {vs : zuq}
theorem zs0.lens (h : zs0 H N v rows R ver vs rcs) : ∀ e ∈ rcs, e.length = 41 := fun e he => by
 obtain ⟨k, hk⟩ := List.mem_iff_getElem?.1 he
 have hkl := (List.getElem?_eq_some_iff.1 hk).1
 have hl := h.len
 exact (h.each k e rows[k] hk (List.getElem?_eq_getElem (by omega))).1.len
theorem zs0.row (h : zs0 H N v rows R ver vs rcs) : H.rowAt R ver = some (rcs ++ [yqr]).flatten := by unfold zz6.rowAt; rw [h.get]; simp only [h.at_]
theorem zs0.rowsAt (h : zs0 H N v rows R ver vs rcs) : zwz H H.next v rows := by
 have hl := zy1 h.lens
 refine ⟨rcs, ⟨h.lens, .inr ⟨R, ver, 0, rows.length + 1, false, _, by rw [h.val, h.len], h.row, by rw [h.len]; omega, by rw [List.flatten_append, List.length_append, hl]; omega, ?_⟩⟩, fun R' ver' off len kc ex esz e => by rw [h.val] at e; cases e; exact h.hR, h.len, fun k rc r h1 h2 => ?_⟩
 ·rw [List.drop_zero, List.flatten_append, List.take_left' hl]
 ·obtain ⟨q1, sv, q2, q3, q4, q5⟩ := h.each k rc r h1 h2
  exact ⟨q1, sv, q2, q3.rd, fun R' ver' off len kc ex esz e => (q3.lies _ _ _ _ _ _ _ e).2, by omega⟩
end
section
variable {kn : zy0} {env : Nat → Option zzq}
variable {H H' H1 : zz6} {N A R ver : Nat} {v v0 sv a : AVal} {rows : List RowD} {l : List Int} {rcs : List (List AVal)} {rc : List AVal} {r : RowD} {vs : zuq} {f : zyw}
theorem zs0.move (h : zs0 H N v rows R ver vs rcs) (hg : Grow H H') : zs0 H' N v rows R ver vs rcs where
 hN := h.hN
 hR := by have := h.hR; have := hg.next; omega
 val := h.val
 get := by rw [hg.get _ h.hR]; exact h.get
 at_ := h.at_
 len := h.len
 each := fun k rc r h1 h2 => by
  obtain ⟨q1, sv, q2, q3, q4, q5⟩ := h.each k rc r h1 h2
  exact ⟨q1, sv, q2, q3.move hg.next fun A _ hA => hg.get A hA, q4, q5⟩
end
section
variable {kn : zy0} {env : Nat → Option zzq}
variable {H H' H1 : zz6} {N A R ver : Nat} {v w v0 sv sv' : AVal} {rows : List RowD} {l : List Int} {rc rc' : List AVal} {r : RowD} {vs : zuq} {rcs : List (List AVal)} {f : zyw}
theorem c20 (h : Fn kn env 20 a20) (n : Nat) (h1 : RdE H 1 v (ints l)) (h2 : RdE H 1 w (ints l)) (hm : l.length < 40000000000000) (hn : l.length < n) : zzp kn env (n + 1) (.func (.func 20) []) [v, w] H = some (zzt true, H) := by
 have hl1 : zyy v = some (vi l.length) := by have := h1.lenS; rwa [List.length_map] at this
 have hl2 : zyy w = some (vi l.length) := by have := h2.lenS; rwa [List.length_map] at this
 refine Wp.call1 26 [0, 1, 4, 5, 10, 14, 25] h.e (h.no _ H) rfl (by simp) ?_
 repeat (first | apply Wp.za | apply Wp.zb | apply Wp.zc | apply Wp.zd | apply Wp.ze | apply Wp.zf rfl | apply Wp.zg rfl | ((apply Wp.zh; (repeat (apply Ex.zc; (simp (disch := omega) [-getElem?_pos, hl1, hl2]; rfl))); exact Ex.zn; rfl; (simp; rfl))))
 apply Wp.loop (α := Nat) (fun y => [(0, v), (1, w), (5, vi y)]) (fun _ => H) (fun y => y ≤ l.length) (fun y => l.length - y) 0 rfl (Nat.zero_le _) (by omega) (by simp)
 rintro j hj
 (repeat (first | apply Wp.za | apply Wp.zb)); (apply Wp.zh; (repeat (apply Ex.zc; (simp (disch := omega) [-getElem?_pos, hl1]; rfl))); exact Ex.zn; rfl; (simp; rfl))
 (repeat (first | apply Wp.za | apply Wp.zb)); apply Wp.ite rfl
 ·intro hjl
  apply Wp.zd
  obtain ⟨z, hz⟩ : ∃ z, l[j]? = some z := ⟨_, List.getElem?_eq_getElem (by omega)⟩
  obtain ⟨R1, v1, o1, k1, x1, c1, e1, e2, e3, e4⟩ := zts h1 hz
  obtain ⟨R2, v2, o2, k2, x2, c2, g1, g2, g3, g4⟩ := zts h2 hz
  repeat (first | apply Wp.za | apply Wp.zb | apply Wp.zc | apply Wp.zd | apply Wp.ze | apply Wp.zf rfl | apply Wp.zg rfl | ((apply Wp.zh; (repeat (apply Ex.zc; (simp (disch := omega) [-getElem?_pos, e1, e2, e4, g1, g2, g4]; rfl))); exact Ex.zn; rfl; (simp; rfl))) | ((apply Wp.zi; (repeat ((first | apply Dr.q rfl rfl | apply Dr.r rfl rfl | apply Dr.imm rfl); (simp (disch := omega) [-getElem?_pos, e1, e2, e4, g1, g2, g4]; rfl); (focus first | (simp; rfl) | (simp; done) | (simp; omega)))); exact Dr.nil; rfl; (first | (focus (simp (disch := omega) [-getElem?_pos, e1, e2, e4, g1, g2, g4]; done)) | rfl); (simp; rfl))))
  exact ⟨j + 1, rfl, by omega, by omega, by simp [-getElem?_pos, e1, g1]⟩
 ·intro hjl
  apply Wp.ze
  repeat (first | apply Wp.za | apply Wp.zb | apply Wp.zc | apply Wp.zd | apply Wp.ze | apply Wp.zf rfl | apply Wp.zg rfl | ((apply Wp.zh; (repeat (apply Ex.zc; (simp (disch := omega) [-getElem?_pos]; rfl))); exact Ex.zn; rfl; (simp; rfl))))
  simp [-getElem?_pos, a20]
theorem zyt.all (h : zyt H N v l) : ∃ R ver, v = .slice R ver 0 l.length (l.length + 2) false 1 ∧ H.rowAt R ver = some (l.map vi ++ marks) ∧ RdE H 1 (.slice R ver 0 l.length (l.length + 2) false 1) (ints l) := by
 obtain ⟨R, ver, h3, h1, h2, h4⟩ := h.row
 exact ⟨R, ver, h3, h4, by rw [← h3]; exact h.rd⟩
theorem c31 (h : Fn kn env 31 a31) (h20 : Fn kn env 20 a20) (n : Nat) (h1 : zyt H N v l) (h2 : RdE H 1 w (ints l)) (hm : l.length < 40000000000000) (hn : l.length < n) : zzp kn env (n + 2) (.func (.func 31) []) [v, w] H = some (zzt true, H) := by
 have hl2 : zyy w = some (vi l.length) := by have := h2.lenS; rwa [List.length_map] at this
 obtain ⟨R, ver, rfl, hrow, hrd⟩ := h1.all
 have hc := c20 h20 n hrd h2 hm hn
 have g1 : (l.map vi ++ marks)[l.length]? = some (vi 7777) := by rw [List.getElem?_append_right (by simp)]; simp [-getElem?_pos]
 have g2 : (l.map vi ++ marks)[l.length + 1]? = some (vi 8888) := by rw [List.getElem?_append_right (by simp)]; simp [-getElem?_pos]
 have gl : (l.map vi ++ marks).length = l.length + 2 := by simp [-getElem?_pos]
 obtain ⟨cs, hcs⟩ : ∃ cs, cs = l.map vi ++ marks := ⟨_, rfl⟩
 rw [← hcs] at hrow g1 g2 gl
 refine Wp.call1 34 [0, 1, 4, 5] h.e (h.no _ H) rfl (by simp) ?_
 obtain ⟨L2, hL2⟩ : ∃ L2, L2 = l.length + 2 := ⟨_, rfl⟩
 obtain ⟨L1, hL1⟩ : ∃ L1, L1 = l.length + 1 := ⟨_, rfl⟩
 have q1 : (l.length : Int) + 2 = (L2 : Int) := by omega
 have q2 : (l.length : Int) + 1 = (L1 : Int) := by omega
 rw [← hL1] at g2
 rw [← hL2] at gl
 repeat (first | apply Wp.za | apply Wp.zb | apply Wp.zc | apply Wp.zd | apply Wp.ze | apply Wp.zf rfl | apply Wp.zg rfl | ((apply Wp.zh; (repeat (apply Ex.zc; (simp (disch := omega) [-getElem?_pos, hl2, zye, zy7, zxz, q1, q2, hc, hrow, g1, g2, gl]; rfl))); exact Ex.zn; rfl; (simp; rfl))))
 simp [-getElem?_pos, a31]
theorem c21 (h : Fn kn env 21 a21) (n : Nat) (hf : zyr f.want) : ∃ v H', zzp kn env (n + 1) (.func (.func 21) []) [.agg f.cells, .agg f.cells] H = some (v, H') ∧ (v = zzt true ∧ Grow H H') := by
 obtain ⟨f35, f1⟩ := zyw.full hf
 have ht : (f.cells.drop 3).take 32 = f.want := by
  show f.want.take 32 = _
  rw [List.take_of_length_le (by rw [hf.len]; omega)]
 have h0 : f.cells[0]? = some (zzt f.good) := rfl
 have h1 : f.cells[1]? = some (vi f.tx) := rfl
 have h2 : f.cells[2]? = some (vi f.read) := rfl
 have hev := zj7 hf
 have hb : zxh .bool (zzt f.good) (zzt f.good) = some true := by simp [-getElem?_pos, zxh]
 refine Wp.call 31 [0, 1, 2, 3, 4] h.e (h.no _ H) (n := n) rfl (by simp) ?_
 repeat (first | apply Wp.za | apply Wp.zb | apply Wp.zc | apply Wp.zd | apply Wp.ze | apply Wp.zf rfl | apply Wp.zg rfl | ((apply Wp.zh; (repeat (apply Ex.zc; (simp (disch := omega) [-getElem?_pos, f35, h0, h1, h2, ht, hev, hb]; rfl))); exact Ex.zn; rfl; (simp; rfl))))
 simp [-getElem?_pos, a21]
 exact (Grow.push _ _).trans (Grow.push _ _)
abbrev C83 : List Nat := [0, 1, 2, 3, 4, 5, 75, 80, 93]
set_option maxHeartbeats 2000000 in
theorem c83 (h : Fn kn env 83 a83) (n : Nat) (h1 : RowC rc r) (h2 : RowC rc' r) (a1 : rc[40]? = some sv) (a2 : rc'[40]? = some sv') (q1 : RdE H 1 sv (ints r.set)) (q2 : RdE H 1 sv' (ints r.set)) (l1 : sv.lies (· < H.next)) (l2 : sv'.lies (· < H.next)) (hm : r.set.length < 40000000000000) (hn : r.set.length < n) :
  ∃ v H', zzp kn env (n + 1) (.func (.func 83) []) [.agg rc, .agg rc'] H = some (v, H') ∧ (v = zzt true ∧ Grow H H') := by
 obtain ⟨H1, hH1⟩ : ∃ H1, H1 = (H.push (.row [some (0, rc)])).push (.row [some (0, rc')]) := ⟨_, rfl⟩
 have hg1 : Grow H H1 := by rw [hH1]; exact (Grow.push _ _).trans (Grow.push _ _)
 have hX : H1.rowAt H.next 0 = some rc := by rw [hH1]; simp (disch := omega) [-getElem?_pos]
 have hY : H1.rowAt (H.next + 1) 0 = some rc' := by rw [hH1]; simp (disch := omega) [-getElem?_pos]
 have hs1 : zyy sv = some (vi r.set.length) := by have := q1.lenS; rwa [List.length_map] at this
 have hs2 : zyy sv' = some (vi r.set.length) := by have := q2.lenS; rwa [List.length_map] at this
 have r5 := h1.len; have s5 := h2.len
 have r0 := h1.a0; have r1 := h1.a1; have r2 := h1.a2; have r3 := h1.a3; have r4 := h1.a4; have rv := h1.av; have r37 := h1.a37; have r38 := h1.a38; have r39 := h1.a39
 have s0 := h2.a0; have s1 := h2.a1; have s2 := h2.a2; have s3 := h2.a3; have s4 := h2.a4; have sv9 := h2.av; have s37 := h2.a37; have s38 := h2.a38; have s39 := h2.a39
 have hev := zj7 h1.isv
 have b1 := q1.beq
 have b2 := q2.beq
 refine Wp.call 94 C83 h.e (h.no _ H) (n := n) rfl (by simp) ?_
 repeat (first | apply Wp.za | apply Wp.zb)
 (repeat (first | apply Wp.za | apply Wp.zb)); (apply Wp.zh; (repeat (apply Ex.zc; (simp (disch := omega) [-getElem?_pos]; rfl))); exact Ex.zn; rfl; (simp; rfl))
 rw [← hH1]
 repeat (first | apply Wp.za | apply Wp.zb | apply Wp.zc | apply Wp.zd | apply Wp.ze | apply Wp.zf rfl | apply Wp.zg rfl | ((apply Wp.zh; (repeat (apply Ex.zc; (simp (disch := omega) [-getElem?_pos, hX, hY, r5, s5, r0, r1, r2, r3, r4, rv, r37, r38, r39, s0, s1, s2, s3, s4, sv9, s37, s38, s39, hev, a1, a2, hs1, hs2]; rfl))); exact Ex.zn; rfl; (simp; rfl))))
 apply Wp.loop (α := Nat) (fun y => [(2, .ptr H.next 0 0), (3, .ptr (H.next + 1) 0 0), (5, vi y)]) (fun _ => H1) (fun y => y ≤ r.set.length) (fun y => r.set.length - y) 0 rfl (Nat.zero_le _) (by omega) (by simp)
 rintro j hj
 (repeat (first | apply Wp.za | apply Wp.zb)); (apply Wp.zh; (repeat (apply Ex.zc; (simp (disch := omega) [-getElem?_pos, hX, r5, a1, hs1]; rfl))); exact Ex.zn; rfl; (simp; rfl))
 (repeat (first | apply Wp.za | apply Wp.zb)); apply Wp.ite rfl
 ·intro hjl
  apply Wp.zd
  obtain ⟨z, hz⟩ : ∃ z, r.set[j]? = some z := ⟨_, List.getElem?_eq_getElem (by omega)⟩
  obtain ⟨R1, v1, o1, k1, x1, c1, e1, e2, e3, e4⟩ := zts (q1.grow hg1 l1) hz
  obtain ⟨R2, v2, o2, k2, x2, c2, g1, g2, g3, g4⟩ := zts (q2.grow hg1 l2) hz
  repeat (first | apply Wp.za | apply Wp.zb | apply Wp.zc | apply Wp.zd | apply Wp.ze | apply Wp.zf rfl | apply Wp.zg rfl | ((apply Wp.zh; (repeat (apply Ex.zc; (simp (disch := omega) [-getElem?_pos, hX, hY, r5, s5, a1, a2, b1, b2, e1, e2, e4, g1, g2, g4]; rfl))); exact Ex.zn; rfl; (simp; rfl))) | ((apply Wp.zi; (repeat ((first | apply Dr.q rfl rfl | apply Dr.r rfl rfl | apply Dr.imm rfl); (simp (disch := omega) [-getElem?_pos, hX, hY, r5, s5, a1, a2, b1, b2, e1, e2, e4, g1, g2, g4]; rfl); (focus first | (simp; rfl) | (simp; done) | (simp; omega)))); exact Dr.nil; rfl; (first | (focus (simp (disch := omega) [-getElem?_pos, hX, hY, r5, s5, a1, a2, b1, b2, e1, e2, e4, g1, g2, g4]; done)) | rfl); (simp; rfl))))
  exact ⟨j + 1, rfl, by omega, by omega, by simp [-getElem?_pos]⟩
 ·intro hjl
  apply Wp.ze
  repeat (first | apply Wp.za | apply Wp.zb | apply Wp.zc | apply Wp.zd | apply Wp.ze | apply Wp.zf rfl | apply Wp.zg rfl | ((apply Wp.zh; (repeat (apply Ex.zc; (simp (disch := omega) [-getElem?_pos]; rfl))); exact Ex.zn; rfl; (simp; rfl))))
  simp [-getElem?_pos, a83]
  exact hg1
end
end Go.Proofs.Ythbjfkkjmecaaaa
