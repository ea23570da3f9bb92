/- Walks: the reference's has, Own: the places of a transaction's own rows. -/
import Derived.Test.YthbjfkkjmecaaaaY28
import Derived.Test.YthbjfkkjmecaaaaY26
import Derived.Test.YthbjfkkjmecaaaaY27
set_option linter.unusedVariables false
set_option linter.unusedSimpArgs false
namespace Go.Proofs.Ythbjfkkjmecaaaa
open Go Go.Vm
section
variable {kn : zy0} {env : Nat → Option zzq}
variable {H H' H1 : zz6} {N A M : Nat} {v v0 : AVal} {rows l : List RowD} {rcs ocs : List (List AVal)} {rc : List AVal} {r : RowD} {x : TxD} {sv rv wv : AVal} {ks : List Int}
def yyr (rows : List RowD) (ks : List Int) (l : List RowD) : Prop := ks.length = l.length ∧ ∀ (i : Nat) (k : Int) (r : RowD), ks[i]? = some k → l[i]? = some r → 0 ≤ k ∧ rows[k.toNat]? = some r
theorem yyr.nil : yyr rows [] [] := ⟨rfl, fun i k r h => by simp [-getElem?_pos] at h⟩
theorem yyr.push (h : yyr rows ks l) {k : Nat} (hr : rows[k]? = some r) : yyr rows (ks ++ [(k : Int)]) (l ++ [r]) := by
 refine ⟨by simp [-getElem?_pos, h.1], fun i c q h1 h2 => ?_⟩
 have := h.1
 rcases Nat.lt_or_ge i l.length with hk | hk
 ·rw [List.getElem?_append_left (by omega)] at h1 h2
  exact h.2 i c q h1 h2
 ·have hk1 := (List.getElem?_eq_some_iff.1 h2).1
  simp [-getElem?_pos] at hk1
  have : i = l.length := by omega
  subst this
  rw [← h.1, List.getElem?_concat_length] at h1
  rw [List.getElem?_concat_length] at h2
  cases h1; cases h2
  exact ⟨by omega, by rw [Int.toNat_natCast]; exact hr⟩
theorem zts {H : zz6} {v : AVal} {l : List Int} (h : RdE H 1 v (ints l)) {j : Nat} {p : Int} (hp : l[j]? = some p) : ∃ R ver off kc ex cells, v = .slice R ver off l.length kc ex 1 ∧ H.rowAt R ver = some cells ∧ off + j + 1 ≤ cells.length ∧ cells[off + j]? = some (vi p) := by
 obtain ⟨R0, ver0, off, kc, ex, cells, hv, hrow, hc1, hc2⟩ := h.at (i := j) (e := [vi p]) (by rw [List.getElem?_map, hp]; rfl)
 rw [List.length_map] at hv
 rw [Nat.mul_one] at hc1 hc2
 refine ⟨R0, ver0, off, kc, ex, cells, hv, hrow, hc1, ?_⟩
 have : (List.take 1 (List.drop (off + j) cells))[0]? = some (vi p) := by rw [hc2]; rfl
 rw [List.getElem?_take, if_pos (by omega), List.getElem?_drop] at this
 exact this
theorem c59 (h : Fn kn env 59 a59) (n : Nat) {l : List Int} (hl : RdE H 1 v (ints l)) (p : Int) (hn : l.length < n) (hm : l.length < 40000000000000) : zzp kn env (n + 1) (.func (.func 59) []) [v, vi p] H = some (zzt (decide (p ∈ l)), H) := by
 have hlen : zyy v = some (vi l.length) := by have := hl.lenS; rwa [List.length_map] at this
 refine Wp.call1 18 [0, 1, 4, 5, 9, 17] h.e (h.no _ _) rfl (by simp) ?_
 repeat (first | apply Wp.za | apply Wp.zb | apply Wp.zc | apply Wp.zd | apply Wp.ze | apply Wp.zf rfl | apply Wp.zg rfl | ((apply Wp.zh; (repeat (apply Ex.zc; (simp (disch := omega) [-getElem?_pos]; rfl))); exact Ex.zn; rfl; (simp; rfl))))
 apply Wp.loop (α := Nat) (fun y => [(0, v), (1, vi p), (5, vi y)]) (fun _ => H) (fun y => y ≤ l.length ∧ p ∉ l.take y) (fun y => l.length - y) 0 rfl ⟨Nat.zero_le _, by simp [-getElem?_pos]⟩ (by omega) (by simp)
 rintro i ⟨hi, hno⟩
 (repeat (first | apply Wp.za | apply Wp.zb)); (apply Wp.zh; (repeat (apply Ex.zc; (simp (disch := omega) [-getElem?_pos, hlen]; rfl))); exact Ex.zn; rfl; (simp; rfl))
 (repeat (first | apply Wp.za | apply Wp.zb)); apply Wp.ite rfl
 ·intro hil
  apply Wp.zd
  obtain ⟨z, hz⟩ : ∃ z, l[i]? = some z := ⟨_, List.getElem?_eq_getElem (by omega)⟩
  obtain ⟨R, ver, off, kc, ex, cells, hv, hrow, hc1, hc2⟩ := zts hl hz
  by_cases hzp : z = p
  ·have hin : p ∈ l := by rw [← hzp]; exact List.mem_of_getElem? hz
   repeat (first | apply Wp.za | apply Wp.zb | apply Wp.zc | apply Wp.zd | apply Wp.ze | apply Wp.zf rfl | apply Wp.zg rfl | ((apply Wp.zh; (repeat (apply Ex.zc; (simp (disch := omega) [-getElem?_pos, hv, hrow, hc2, hzp]; rfl))); exact Ex.zn; rfl; (simp; rfl))))
   simp [-getElem?_pos, a59, hin]
  ·repeat (first | apply Wp.za | apply Wp.zb | apply Wp.zc | apply Wp.zd | apply Wp.ze | apply Wp.zf rfl | apply Wp.zg rfl | ((apply Wp.zh; (repeat (apply Ex.zc; (simp (disch := omega) [-getElem?_pos, hv, hrow, hc2, hzp]; rfl))); exact Ex.zn; rfl; (simp; rfl))))
   refine ⟨i + 1, rfl, ⟨by omega, fun h => ?_⟩, by omega, by simp [-getElem?_pos, hv]⟩
   rw [List.take_add_one, hz] at h
   rcases List.mem_append.1 h with h | h
   ·exact hno h
   ·simp [-getElem?_pos] at h; exact hzp h.symm
 ·intro hil
  apply Wp.ze
  rw [List.take_of_length_le (by omega)] at hno
  repeat (first | apply Wp.za | apply Wp.zb | apply Wp.zc | apply Wp.zd | apply Wp.ze | apply Wp.zf rfl | apply Wp.zg rfl | ((apply Wp.zh; (repeat (apply Ex.zc; (simp (disch := omega) [-getElem?_pos]; rfl))); exact Ex.zn; rfl; (simp; rfl))))
  simp [-getElem?_pos, a59, hno]
set_option maxHeartbeats 1000000 in
theorem c60 (h : Fn kn env 60 a60) (n : Nat) (hrd : RdE H 41 v0 rcs) (hlies : v0.lies (· < H.next)) (hrc : zqj rcs rows) {k : Nat} (hk : x.begun = (k : Nat)) (hkl : k < rows.length) (hm : rows.length < 400000000000) (hn : rows.length + 5 < n) :
  ∃ v' H', zzp kn env (n + 1) (.func (.func 60) []) [v0, .agg (txc x sv rv wv)] H = some (v', H') ∧ (Grow H H' ∧ ∃ ks, zzw H' H.next 1 v' (ints ks) ∧ yyr rows ks (zf2 rows x)) := by
 obtain ⟨H1, hH1⟩ : ∃ H1, H1 = H.push (.row [some (0, txc x sv rv wv)]) := ⟨_, rfl⟩
 have hl1 := hrc.1
 have hlen : zyy v0 = some (vi rows.length) := by rw [← hl1]; exact hrd.lenS
 have hod : zf2 rows x = zv8 x.client (rows.drop (k + 1)) := by unfold zf2; rw [show x.begun + 1 = ((k + 1 : Nat) : Int) by omega]; rfl
 have hg1 : Grow H H1 := by rw [hH1]; exact Grow.push _ _
 have hX1 : H1.rowAt H.next 0 = some (txc x sv rv wv) := by rw [hH1]; simp [-getElem?_pos]
 have hn1 : H1.next = H.next + 1 := by rw [hH1]; simp [-getElem?_pos]
 rw [hod]
 refine Wp.call 61 [0, 1, 3, 4, 5, 6, 13, 31, 55] h.e (h.no _ H) rfl (by simp) ?_
 repeat (first | apply Wp.za | apply Wp.zb)
 (repeat (first | apply Wp.za | apply Wp.zb)); (apply Wp.zh; (repeat (apply Ex.zc; (simp (disch := omega) [-getElem?_pos]; rfl))); exact Ex.zn; rfl; (simp; rfl))
 rw [← hH1]
 repeat (first | apply Wp.za | apply Wp.zb | apply Wp.zc | apply Wp.zd | apply Wp.ze | apply Wp.zf rfl | apply Wp.zg rfl | ((apply Wp.zh; (repeat (apply Ex.zc; (simp (disch := omega) [-getElem?_pos, hX1, txc, hk]; rfl))); exact Ex.zn; rfl; (simp; rfl))))
 apply Wp.loop (α := Nat × AVal × zz6) (fun y => [(0, v0), (3, .ptr H.next 0 0), (5, y.2.1), (6, vi (y.1 : Nat))]) (·.2.2)
  (fun y => k + 1 ≤ y.1 ∧ y.1 ≤ rows.length ∧ Grow H1 y.2.2 ∧ ∃ ks l, zzw y.2.2 H1.next 1 y.2.1 (ints ks) ∧ yyr rows ks l ∧ ks.length ≤ y.1 ∧ l ++ zv8 x.client (rows.drop y.1) = zv8 x.client (rows.drop (k + 1))) (fun y => rows.length - y.1)
  (k + 1, ns, H1) rfl ⟨Nat.le_refl _, by dsimp only; omega, Grow.refl _, [], [], zzw.nil _ _ _, yyr.nil, by simp [-getElem?_pos], by simp [-getElem?_pos]⟩ (by dsimp only; omega) (by simp)
 rintro ⟨j, v5, H2⟩ ⟨hkj, hj, hg2, ks, l, hs, hR, hol, hown⟩
 dsimp only at hkj hj hg2 hs hR hol hown ⊢
 have hgH : Grow H H2 := hg1.trans hg2
 have hend : ∀ (v : AVal) (H2 : zz6) ks, Grow H1 H2 → zzw H2 H1.next 1 v (ints ks) → Grow H H2 ∧ zzw H2 H.next 1 v (ints ks) := fun v H2 ks hg hs => ⟨hg1.trans hg, hs.move (by omega) (Nat.le_refl _) fun _ _ _ => rfl⟩
 (repeat (first | apply Wp.za | apply Wp.zb)); (apply Wp.zh; (repeat (apply Ex.zc; (simp (disch := omega) [-getElem?_pos, hlen]; rfl))); exact Ex.zn; rfl; (simp; rfl))
 (repeat (first | apply Wp.za | apply Wp.zb)); apply Wp.ite rfl
 ·intro hjl
  obtain ⟨r, hr⟩ : ∃ r, rows[j]? = some r := ⟨_, List.getElem?_eq_getElem (by omega)⟩
  obtain ⟨rc, hrc'⟩ : ∃ rc, rcs[j]? = some rc := ⟨_, List.getElem?_eq_getElem (by omega)⟩
  have hRC := hrc.2 _ rc r hrc' hr
  obtain ⟨R0, ver0, off, kc, ex, cells, hv, hrow, hc1, hc2⟩ := hrd.at hrc'
  rw [hl1] at hv
  have hR0 : R0 < H.next := hlies _ _ _ _ _ _ _ hv
  have hrow2 : H2.rowAt R0 ver0 = some cells := by rw [hgH.rowAt hR0]; exact hrow
  have c0 := zk5 hc2 (j := 0) (by omega)
  have c2 := zk5 hc2 (j := 2) (by omega)
  rw [hRC.a0, Nat.add_zero] at c0
  rw [hRC.a2] at c2
  have hX2 : H2.rowAt H.next 0 = some (txc x sv rv wv) := by rw [hg2.rowAt (by omega)]; exact hX1
  rw [zqe hr] at hown
  apply Wp.zd
  by_cases q1 : r.actor = x.client
  ·by_cases q2 : r.kind = 2
   ·have hown' : l = zv8 x.client (rows.drop (k + 1)) := by rw [← hown]; simp [-getElem?_pos, zv8, q1, q2]
    obtain ⟨e1, e2⟩ := hend v5 H2 ks hg2 hs
    repeat (first | apply Wp.za | apply Wp.zb | apply Wp.zc | apply Wp.zd | apply Wp.ze | apply Wp.zf rfl | apply Wp.zg rfl | ((apply Wp.zh; (repeat (apply Ex.zc; (simp (disch := omega) [-getElem?_pos, hv, hrow2, c0, c2, hX2, txc, q1, q2]; rfl))); exact Ex.zn; rfl; (simp; rfl))) | ((apply Wp.zi; (repeat ((first | apply Dr.q rfl rfl | apply Dr.r rfl rfl | apply Dr.imm rfl); (simp (disch := omega) [-getElem?_pos, hv, hrow2, c0, c2, hX2, txc, q1, q2]; rfl); (focus first | (simp; rfl) | (simp; done) | (simp; omega)))); exact Dr.nil; rfl; (first | (focus (simp (disch := omega) [-getElem?_pos, hv, hrow2, c0, c2, hX2, txc, q1, q2]; done)) | rfl); (simp; rfl))))
    simp [-getElem?_pos, a60]
    exact ⟨e1, ks, e2, by rw [← hown']; exact hR⟩
   ·by_cases q3 : r.kind = 5 ∨ r.kind = 6
    ·have hown' : (l ++ [r]) ++ zv8 x.client (rows.drop (j + 1)) = zv8 x.client (rows.drop (k + 1)) := by rw [← hown]; simp [-getElem?_pos, zv8, q1, q2, q3]
     obtain ⟨v', H', ha, hs', hn', hk', _⟩ := (hs.move (Nat.le_refl _) (Nat.le_succ _) (H' := H2.push (.row [some (0, [vi ((j : Nat) : Int)])])) fun A _ hA => zz6.zz9 _ _ (by omega)).append (bytes := 8) (by have := hg2.next; simp [-getElem?_pos]; omega) (X := H2.next) (e := [vi ((j : Nat) : Int)]) (by simp) rfl (by omega) (by omega) rfl (by rw [List.length_map]; omega) (ex := true) (kc := 1)
     have hfin : ∃ ks l, zzw H' H1.next 1 v' (ints ks) ∧ yyr rows ks l ∧ ks.length ≤ j + 1 ∧ l ++ zv8 x.client (rows.drop (j + 1)) = zv8 x.client (rows.drop (k + 1)) := ⟨ks ++ [((j : Nat) : Int)], l ++ [r], by simpa [-getElem?_pos] using hs', hR.push hr, by simp; omega, hown'⟩
     have hgf : Grow H1 H' := ⟨by have := hg2.next; simp [-getElem?_pos] at hn'; omega, fun A hA => by have := hg2.next; rw [hk' A hA, zz6.zz9 _ _ (by omega), hg2.get A hA]⟩
     rcases q3 with q3 | q3
     all_goals
      repeat (first | apply Wp.za | apply Wp.zb | apply Wp.zc | apply Wp.zd | apply Wp.ze | apply Wp.zf rfl | apply Wp.zg rfl | ((apply Wp.zh; (repeat (apply Ex.zc; (simp (disch := omega) [-getElem?_pos, hv, hrow2, c0, c2, hX2, txc, q1, q3, ha, zzm, zx1]; rfl))); exact Ex.zn; rfl; (simp; rfl))) | ((apply Wp.zi; (repeat ((first | apply Dr.q rfl rfl | apply Dr.r rfl rfl | apply Dr.imm rfl); (simp (disch := omega) [-getElem?_pos, hv, hrow2, c0, c2, hX2, txc, q1, q3, ha, zzm, zx1]; rfl); (focus first | (simp; rfl) | (simp; done) | (simp; omega)))); exact Dr.nil; rfl; (first | (focus (simp (disch := omega) [-getElem?_pos, hv, hrow2, c0, c2, hX2, txc, q1, q3, ha, zzm, zx1]; done)) | rfl); (simp; rfl))))
      exact ⟨(j + 1, v', H'), rfl, ⟨by dsimp only; omega, by dsimp only; omega, hgf, hfin⟩, by dsimp only; omega, by simp [-getElem?_pos, hv]⟩
    ·have hown' : l ++ zv8 x.client (rows.drop (j + 1)) = zv8 x.client (rows.drop (k + 1)) := by rw [← hown]; simp [-getElem?_pos, zv8, q1, q2, q3]
     have q4 : r.kind ≠ 5 := fun q => q3 (.inl q)
     have q5 : r.kind ≠ 6 := fun q => q3 (.inr q)
     repeat (first | apply Wp.za | apply Wp.zb | apply Wp.zc | apply Wp.zd | apply Wp.ze | apply Wp.zf rfl | apply Wp.zg rfl | ((apply Wp.zh; (repeat (apply Ex.zc; (simp (disch := omega) [-getElem?_pos, hv, hrow2, c0, c2, hX2, txc, q1, q2, q4, q5]; rfl))); exact Ex.zn; rfl; (simp; rfl))) | ((apply Wp.zi; (repeat ((first | apply Dr.q rfl rfl | apply Dr.r rfl rfl | apply Dr.imm rfl); (simp (disch := omega) [-getElem?_pos, hv, hrow2, c0, c2, hX2, txc, q1, q2, q4, q5]; rfl); (focus first | (simp; rfl) | (simp; done) | (simp; omega)))); exact Dr.nil; rfl; (first | (focus (simp (disch := omega) [-getElem?_pos, hv, hrow2, c0, c2, hX2, txc, q1, q2, q4, q5]; done)) | rfl); (simp; rfl))))
     exact ⟨(j + 1, v5, H2), rfl, ⟨by dsimp only; omega, by dsimp only; omega, hg2, ks, l, hs, hR, by dsimp only; omega, hown'⟩, by dsimp only; omega, by simp [-getElem?_pos, hv]⟩
  ·have hown' : l ++ zv8 x.client (rows.drop (j + 1)) = zv8 x.client (rows.drop (k + 1)) := by rw [← hown]; simp [-getElem?_pos, zv8, q1]
   by_cases q2 : r.kind = 2
   ·repeat (first | apply Wp.za | apply Wp.zb | apply Wp.zc | apply Wp.zd | apply Wp.ze | apply Wp.zf rfl | apply Wp.zg rfl | ((apply Wp.zh; (repeat (apply Ex.zc; (simp (disch := omega) [-getElem?_pos, hv, hrow2, c0, c2, hX2, txc, q1, q2]; rfl))); exact Ex.zn; rfl; (simp; rfl))) | ((apply Wp.zi; (repeat ((first | apply Dr.q rfl rfl | apply Dr.r rfl rfl | apply Dr.imm rfl); (simp (disch := omega) [-getElem?_pos, hv, hrow2, c0, c2, hX2, txc, q1, q2]; rfl); (focus first | (simp; rfl) | (simp; done) | (simp; omega)))); exact Dr.nil; rfl; (first | (focus (simp (disch := omega) [-getElem?_pos, hv, hrow2, c0, c2, hX2, txc, q1, q2]; done)) | rfl); (simp; rfl))))
    exact ⟨(j + 1, v5, H2), rfl, ⟨by dsimp only; omega, by dsimp only; omega, hg2, ks, l, hs, hR, by dsimp only; omega, hown'⟩, by dsimp only; omega, by simp [-getElem?_pos, hv]⟩
   ·by_cases q4 : r.kind = 5
    ·repeat (first | apply Wp.za | apply Wp.zb | apply Wp.zc | apply Wp.zd | apply Wp.ze | apply Wp.zf rfl | apply Wp.zg rfl | ((apply Wp.zh; (repeat (apply Ex.zc; (simp (disch := omega) [-getElem?_pos, hv, hrow2, c0, c2, hX2, txc, q1, q2, q4]; rfl))); exact Ex.zn; rfl; (simp; rfl))) | ((apply Wp.zi; (repeat ((first | apply Dr.q rfl rfl | apply Dr.r rfl rfl | apply Dr.imm rfl); (simp (disch := omega) [-getElem?_pos, hv, hrow2, c0, c2, hX2, txc, q1, q2, q4]; rfl); (focus first | (simp; rfl) | (simp; done) | (simp; omega)))); exact Dr.nil; rfl; (first | (focus (simp (disch := omega) [-getElem?_pos, hv, hrow2, c0, c2, hX2, txc, q1, q2, q4]; done)) | rfl); (simp; rfl))))
     exact ⟨(j + 1, v5, H2), rfl, ⟨by dsimp only; omega, by dsimp only; omega, hg2, ks, l, hs, hR, by dsimp only; omega, hown'⟩, by dsimp only; omega, by simp [-getElem?_pos, hv]⟩
    ·by_cases q5 : r.kind = 6
     all_goals
      repeat (first | apply Wp.za | apply Wp.zb | apply Wp.zc | apply Wp.zd | apply Wp.ze | apply Wp.zf rfl | apply Wp.zg rfl | ((apply Wp.zh; (repeat (apply Ex.zc; (simp (disch := omega) [-getElem?_pos, hv, hrow2, c0, c2, hX2, txc, q1, q2, q4, q5]; rfl))); exact Ex.zn; rfl; (simp; rfl))) | ((apply Wp.zi; (repeat ((first | apply Dr.q rfl rfl | apply Dr.r rfl rfl | apply Dr.imm rfl); (simp (disch := omega) [-getElem?_pos, hv, hrow2, c0, c2, hX2, txc, q1, q2, q4, q5]; rfl); (focus first | (simp; rfl) | (simp; done) | (simp; omega)))); exact Dr.nil; rfl; (first | (focus (simp (disch := omega) [-getElem?_pos, hv, hrow2, c0, c2, hX2, txc, q1, q2, q4, q5]; done)) | rfl); (simp; rfl))))
      exact ⟨(j + 1, v5, H2), rfl, ⟨by dsimp only; omega, by dsimp only; omega, hg2, ks, l, hs, hR, by dsimp only; omega, hown'⟩, by dsimp only; omega, by simp [-getElem?_pos, hv]⟩
 ·intro hjl
  apply Wp.ze
  have hown' : l = zv8 x.client (rows.drop (k + 1)) := by rw [← hown, List.drop_of_length_le (by omega)]; simp [-getElem?_pos, zv8]
  obtain ⟨e1, e2⟩ := hend v5 H2 ks hg2 hs
  repeat (first | apply Wp.za | apply Wp.zb | apply Wp.zc | apply Wp.zd | apply Wp.ze | apply Wp.zf rfl | apply Wp.zg rfl | ((apply Wp.zh; (repeat (apply Ex.zc; (simp (disch := omega) [-getElem?_pos]; rfl))); exact Ex.zn; rfl; (simp; rfl))))
  simp [-getElem?_pos, a60]
  exact ⟨e1, ks, e2, by rw [← hown']; exact hR⟩
end
section
variable {kn : zy0} {env : Nat → Option zzq}
variable {H H' H1 : zz6} {N A M : Nat} {v v0 : AVal} {rows l : List RowD} {rcs ocs : List (List AVal)} {rc : List AVal} {r : RowD} {x : TxD} {sv rv wv : AVal} {m : Int}
abbrev C30 : List Nat := [0, 1, 2, 4, 6, 7, 8, 9, 10, 11, 13, 15, 16, 17, 19, 20, 21, 23, 26, 34, 38, 39, 40, 41, 60, 74, 78, 79, 80, 81, 87, 88, 89, 90, 95, 111]
abbrev by8 : zym := zj9 (zj9 (zj9 (zj9 (zj9 (zj9 (zj9 (zj9 a30.code)))))))
abbrev byX : zym := yxl (yxl (zj9 (zj9 (yxl (yxl (zj9 (yxl by8)))))))
abbrev byI : zym := yxl (zj9 (zj9 (zj9 byX)))
set_option maxHeartbeats 2000000 in
theorem byIn {or : zzn} {n : Nat} {Q : Exit → KS → Prop} {Hb : zz6} {F P I : Nat} {f : zyw} {mm ins : zkc} (hd : zut Hb F P I f mm ins H) {w p4 p6 p78 p79 p80 : AVal} (hw : RdE Hb 41 w ocs) (hwl : w.lies (· < Hb.next)) (hR : zqj ocs l) (hbad : l.any (zp3 m) = false) (hm : m ≤ 64) {es : zzb} {clock i b : Nat} (hM : Hb.get M = some (.map es clock)) (hMn : M < Hb.next) {place : Int}
  (hf : zwe .i64 place es 0 = some (some (i, w, b))) (hl : l.length < 400000000000) (hn : l.length + 5 < n)
  (hQ : ∀ l' H' f' ins' k', SubK [(4, p4), (6, p6), (11, .map M), (16, .ptr F 0 0), (17, .ptr P 0 0), (20, .ptr I 0 0), (78, p78), (79, p79), (80, p80)] l' → zut Hb F P I f' mm ins' H' → l.foldl (zv5 place) (f, ins, 0) = (f', ins', k') → Q .normal (l', H')) :
  Wp or n 128 C30 byI ([(4, p4), (6, p6), (11, .map M), (16, .ptr F 0 0), (17, .ptr P 0 0), (19, vi place), (20, .ptr I 0 0), (21, vi 0), (78, p78), (79, p79), (80, p80)], H) Q := by
 have hl1 := hR.1
 have hM1 : H.get M = some (.map es clock) := by rw [hd.grow.get M hMn]; exact hM
 have hlen : zyy w = some (vi l.length) := by rw [← hl1]; exact hw.lenS
 repeat (first | apply Wp.za | apply Wp.zb | apply Wp.zc | apply Wp.zd | apply Wp.ze | apply Wp.zf rfl | apply Wp.zg rfl | ((apply Wp.zh; (repeat (apply Ex.zc; (simp (disch := omega) [-getElem?_pos, hM1, hf, zzr, zzs, hlen]; rfl))); exact Ex.zn; rfl; (simp; rfl))))
 apply Wp.loop (α := Nat × zz6 × zyw × zkc × Nat) (fun y => [(4, p4), (6, p6), (11, .map M), (16, .ptr F 0 0), (17, .ptr P 0 0), (19, vi place), (20, .ptr I 0 0), (21, vi (y.2.2.2.2 : Nat)), (78, p78), (79, p79), (80, p80), (87, w), (88, vi l.length), (89, vi y.1)]) (·.2.1)
  (fun y => y.1 ≤ l.length ∧ zut Hb F P I y.2.2.1 mm y.2.2.2.1 y.2.1 ∧ y.2.2.2.2 ≤ y.1 ∧ (l.drop y.1).foldl (zv5 place) (y.2.2.1, y.2.2.2.1, y.2.2.2.2) = l.foldl (zv5 place) (f, ins, 0)) (fun y => l.length - y.1)
  (0, H, f, ins, 0) rfl ⟨by omega, hd, Nat.le_refl _, rfl⟩ (by simp; omega) (by simp)
 rintro ⟨j, H2, f2, ins2, k⟩ ⟨hj, hd2, hkj, hfold⟩
 dsimp only at hj hd2 hkj hfold ⊢
 (repeat (first | apply Wp.za | apply Wp.zb)); (apply Wp.zh; (repeat (apply Ex.zc; (simp (disch := omega) [-getElem?_pos]; rfl))); exact Ex.zn; rfl; (simp; rfl))
 (repeat (first | apply Wp.za | apply Wp.zb)); apply Wp.ite rfl
 ·intro hjl
  obtain ⟨r, hr⟩ : ∃ r, l[j]? = some r := ⟨_, List.getElem?_eq_getElem (by omega)⟩
  obtain ⟨rc, hrc⟩ : ∃ rc, ocs[j]? = some rc := ⟨_, List.getElem?_eq_getElem (by omega)⟩
  have hRC := hR.2 _ rc r hrc hr
  have hbr : zp3 m r = false := by
   have := List.any_eq_false.1 hbad r (List.mem_of_getElem? hr)
   simpa [-getElem?_pos] using this
  obtain ⟨q, hq, hq64⟩ : ∃ q : Nat, r.blk = q ∧ q < 64 := by
   unfold zp3 at hbr
   rw [decide_eq_false_iff_not] at hbr
   exact ⟨r.blk.toNat, by omega, by omega⟩
  obtain ⟨R0, ver0, off, kc, ex, cells, hv, hrow, hc1, hc2⟩ := hw.at hrc
  rw [hl1] at hv
  have hR0 := hwl _ _ _ _ _ _ _ hv
  have hrow2 : H2.rowAt R0 ver0 = some cells := by rw [hd2.grow.rowAt hR0]; exact hrow
  have r5 := hRC.len
  have r0 := hRC.a0
  have r4 := hRC.a4
  rw [hq] at r4
  have rv5 := hRC.av
  have hv32 := hRC.isv.len
  have rt : rc.take 41 = rc := List.take_of_length_le (by omega)
  rw [zqe hr, List.foldl_cons] at hfold
  obtain ⟨H3, hw1, g3, hcl, hn3⟩ := zx6 H2 (z := zpv) (e := rc) r5 (by omega) hRC.one
  have hX := hcl.at
  have hd3 := hd2.move g3
  have hIne : I ≠ H2.next := by have := hd2.hI; omega
  have hFne : F ≠ H2.next := by have := hd2.hF; omega
  have hF3 := hd3.cf.at
  have hF35 : f2.cells.length = 35 := by simp [-getElem?_pos, zyw.cells, hd2.fw.len]
  have hI3 := hd3.ci.at
  have hil : ∀ e ∈ ins2, e.length = 32 := fun e he => (hd2.im.val e he).len
  have hifl := zy1 hil
  rw [hd2.im.len] at hifl
  obtain ⟨ha1, ha2⟩ := hd2.im.at (b := (q : Int)) (by omega) (by omega)
  rw [Int.toNat_natCast] at ha1
  have hia := zt9 q _ hil ha1
  apply Wp.zd
  by_cases h6 : r.kind = 6
  ·obtain ⟨H4, hw4, hd4, hn4⟩ := hd3.setI hq64 hRC.isv
   have hst : zv5 place (f2, ins2, k) r = (f2, ins2.set q r.val, k) := by simp [-getElem?_pos, zv5, h6, hq]
   rw [hst] at hfold
   repeat (first | apply Wp.za | apply Wp.zb | apply Wp.zc | apply Wp.zd | apply Wp.ze | apply Wp.zf rfl | apply Wp.zg rfl | ((apply Wp.zh; (repeat (apply Ex.zc; (simp (disch := omega) [-getElem?_pos, hv, hrow2, hc2, r5, rt, hw1, hX, r0, r4, rv5, h6, hw4, hI3, hifl, hv32]; rfl))); exact Ex.zn; rfl; (simp; rfl))))
   exact ⟨(j + 1, H4, f2, ins2.set q r.val, k), rfl, ⟨by show j + 1 ≤ _; omega, hd4, by show k ≤ j + 1; omega, hfold⟩, by show _ - (j + 1) < _ - j; omega, by simp [-getElem?_pos, hv]⟩
  ·cases hg : f2.good with
   | false =>
    have hst : zv5 place (f2, ins2, k) r = (f2, ins2, k + 1) := by simp [-getElem?_pos, zv5, h6, hg]
    rw [hst] at hfold
    have hF0 : f2.cells[0]? = some (zzt false) := by rw [← hg]; rfl
    repeat (first | apply Wp.za | apply Wp.zb | apply Wp.zc | apply Wp.zd | apply Wp.ze | apply Wp.zf rfl | apply Wp.zg rfl | ((apply Wp.zh; (repeat (apply Ex.zc; (simp (disch := omega) [-getElem?_pos, hv, hrow2, hc2, r5, rt, hw1, hX, r0, r4, h6, hF3, hF35, hF0]; rfl))); exact Ex.zn; rfl; (simp; rfl))) | ((apply Wp.zi; (repeat ((first | apply Dr.q rfl rfl | apply Dr.r rfl rfl | apply Dr.imm rfl); (simp (disch := omega) [-getElem?_pos, hv, hrow2, hc2, r5, rt, hw1, hX, r0, r4, h6, hF3, hF35, hF0]; rfl); (focus first | (simp; rfl) | (simp; done) | (simp; omega)))); exact Dr.nil; rfl; (simp (disch := omega) [-getElem?_pos, hv, hrow2, hc2, r5, rt, hw1, hX, r0, r4, h6, hF3, hF35, hF0]); (simp; rfl))))
    exact ⟨(j + 1, H3, f2, ins2, k + 1), rfl, ⟨by show j + 1 ≤ _; omega, hd3, by show k + 1 ≤ j + 1; omega, hfold⟩, by show _ - (j + 1) < _ - j; omega, by simp [-getElem?_pos, hv]⟩
   | true =>
    have hF0 : f2.cells[0]? = some (zzt true) := by rw [← hg]; rfl
    by_cases he : atM ins2 q = r.val
    ·have hst : zv5 place (f2, ins2, k) r = (f2, ins2, k + 1) := by simp [-getElem?_pos, zv5, h6, hg, hq, he]
     rw [hst] at hfold
     rw [he] at hia
     have hev := zj7 hRC.isv
     have hbq : AVal.beqs r.val r.val = true := zyq hRC.isv.bytes
     repeat (first | apply Wp.za | apply Wp.zb | apply Wp.zc | apply Wp.zd | apply Wp.ze | apply Wp.zf rfl | apply Wp.zg rfl | ((apply Wp.zh; (repeat (apply Ex.zc; (simp (disch := omega) [-getElem?_pos, hv, hrow2, hc2, r5, rt, hw1, hX, r0, r4, rv5, h6, hF3, hF35, hF0, hI3, hifl, hia, hev, hv32, hbq]; rfl))); exact Ex.zn; rfl; (simp; rfl))) | ((apply Wp.zi; (repeat ((first | apply Dr.q rfl rfl | apply Dr.r rfl rfl | apply Dr.imm rfl); (simp (disch := omega) [-getElem?_pos, hv, hrow2, hc2, r5, rt, hw1, hX, r0, r4, rv5, h6, hF3, hF35, hF0, hI3, hifl, hia, hev, hv32, hbq]; rfl); (focus first | (simp; rfl) | (simp; done) | (simp; omega)))); exact Dr.nil; rfl; (simp (disch := omega) [-getElem?_pos, hv, hrow2, hc2, r5, rt, hw1, hX, r0, r4, rv5, h6, hF3, hF35, hF0, hI3, hifl, hia, hev, hv32, hbq]); (simp; rfl))))
     exact ⟨(j + 1, H3, f2, ins2, k + 1), rfl, ⟨by show j + 1 ≤ _; omega, hd3, by show k + 1 ≤ j + 1; omega, hfold⟩, by show _ - (j + 1) < _ - j; omega, by simp [-getElem?_pos, hv]⟩
    ·have hst : zv5 place (f2, ins2, k) r = (⟨false, place, k, atM ins2 q⟩, ins2, k + 1) := by simp [-getElem?_pos, zv5, h6, hg, hq, he]
     rw [hst] at hfold
     have hev := zne ha2 hRC.isv he
     have hbq : AVal.beqs r.val r.val = true := zyq hRC.isv.bytes
     have hbq2 : AVal.beqs (atM ins2 q) (atM ins2 q) = true := zyq ha2.bytes
     have hq32 := ha2.len
     obtain ⟨H4, hw4, hd4, hn4⟩ := hd3.setF (g := ⟨false, place, k, atM ins2 q⟩) ha2
     simp only [zyw.cells] at hw4
     repeat (first | apply Wp.za | apply Wp.zb | apply Wp.zc | apply Wp.zd | apply Wp.ze | apply Wp.zf rfl | apply Wp.zg rfl | ((apply Wp.zh; (repeat (apply Ex.zc; (simp (disch := omega) [-getElem?_pos, hv, hrow2, hc2, r5, rt, hw1, hX, r0, r4, rv5, h6, hF3, hF35, hF0, hI3, hifl, hia, hev, hv32, hbq, hbq2, hq32, hw4, zzm, zx1]; rfl))); exact Ex.zn; rfl; (simp; rfl))) | ((apply Wp.zi; (repeat ((first | apply Dr.q rfl rfl | apply Dr.r rfl rfl | apply Dr.imm rfl); (simp (disch := omega) [-getElem?_pos, hv, hrow2, hc2, r5, rt, hw1, hX, r0, r4, rv5, h6, hF3, hF35, hF0, hI3, hifl, hia, hev, hv32, hbq, hbq2, hq32, hw4, zzm, zx1]; rfl); (focus first | (simp; rfl) | (simp; done) | (simp; omega)))); exact Dr.nil; rfl; (simp (disch := omega) [-getElem?_pos, hv, hrow2, hc2, r5, rt, hw1, hX, r0, r4, rv5, h6, hF3, hF35, hF0, hI3, hifl, hia, hev, hv32, hbq, hbq2, hq32, hw4, zzm, zx1]); (simp; rfl))))
     exact ⟨(j + 1, H4, ⟨false, place, k, atM ins2 q⟩, ins2, k + 1), rfl, ⟨by show j + 1 ≤ _; omega, hd4, by show k + 1 ≤ j + 1; omega, hfold⟩, by show _ - (j + 1) < _ - j; omega, by simp [-getElem?_pos, hv]⟩
 ·intro hjl
  apply Wp.ze
  have : l.drop j = [] := List.drop_of_length_le (by omega)
  rw [this, List.foldl_nil] at hfold
  exact hQ _ _ f2 ins2 k (by simp) hd2 hfold.symm
end
section
variable {kn : zy0} {env : Nat → Option zzq}
variable {H H' H1 : zz6} {N A M : Nat} {v v0 : AVal} {rows l : List RowD} {rcs ocs : List (List AVal)} {rc : List AVal} {r : RowD} {x : TxD} {sv rv wv : AVal} {m : Int}
structure zub (Hb : zz6) (F P : Nat) (f : zyw) (mm : zkc) (H : zz6) : Prop where
 grow : Grow Hb H
 cf : Cells H F f.cells
 cp : Cells H P mm.flatten
 fw : zyr f.want
 pm : zuj mm
 hF : Hb.next ≤ F ∧ F < H.next
 hP : Hb.next ≤ P ∧ P < H.next
 ne : F ≠ P
theorem zuj.flat {mm : zkc} (h : zuj mm) : mm.flatten.length = 2048 ∧ mm.flatten.all AVal.one = true := by
 refine ⟨by rw [zy1 fun e he => (h.val e he).len, h.len], ?_⟩
 exact zkj fun e he => (h.val e he).one
theorem zub.begin {Hb H : zz6} {F P : Nat} {f : zyw} {mm : zkc} (h : zub Hb F P f mm H) : ∃ H', (H.push (.row [some (0, List.replicate 2048 zb)])).write H.next 0 0 mm.flatten = some H' ∧ zut Hb F P H.next f mm mm H' ∧ H'.next = H.next + 1 := by
 obtain ⟨h1, h2⟩ := h.pm.flat
 obtain ⟨H', hw, hg, hc, hn⟩ := zx6 H (z := List.replicate 2048 zb) (e := mm.flatten) (by rw [h1, List.length_replicate]) (by omega) h2
 have hF := h.hF
 have hP := h.hP
 refine ⟨H', hw, ⟨h.grow.trans hg, by unfold Cells; rw [hg.get F hF.2]; exact h.cf, by unfold Cells; rw [hg.get P hP.2]; exact h.cp, hc, h.fw, h.pm, h.pm, ⟨hF.1, by omega⟩, ⟨hP.1, by omega⟩, ⟨h.grow.next, by omega⟩, h.ne, by omega, by omega⟩, hn⟩
theorem zut.done {Hb H : zz6} {F P I : Nat} {f : zyw} {mm ins : zkc} (h : zut Hb F P I f mm ins H) : ∃ H', H.write P 0 0 ins.flatten = some H' ∧ zub Hb F P f ins H' ∧ H'.next = H.next := by
 obtain ⟨h1, h2⟩ := h.im.flat
 obtain ⟨h3, h4⟩ := h.pm.flat
 obtain ⟨n1, n2, n3⟩ := h.ne
 refine ⟨_, Cells.write h.cp (by omega) (by omega) h2, ⟨h.grow.set h.hP.1 _, ?_, ?_, h.fw, h.im, h.hF, h.hP, n1⟩, rfl⟩
 ·unfold Cells; rw [zz6.zzz _ _ n1]; exact h.cf
 ·unfold Cells; rw [zz6.zzy]; simp only [spl, List.take_zero, List.nil_append, Nat.zero_add]; rw [List.drop_of_length_le (by omega), List.append_nil]
theorem zcd {txs : List TxD} {f f' : zyw} {mm ins' : zkc} {p : Int} {k' : Nat} (h : (zqt rows txs p).foldl (zv5 p) (f, mm, 0) = (f', ins', k')) : ywn rows txs (f, mm) p = (f', ins') := by
 unfold ywn; simp only [h]
set_option maxHeartbeats 2000000 in
theorem yu9 {or : zzn} {n : Nat} {Q : Exit → KS → Prop} {Hb : zz6} {F P : Nat} {f : zyw} {mm : zkc} (hd : zub Hb F P f mm H) {ov p4 p6 : AVal} {order : List Int} (ho : RdE Hb 1 ov (ints order)) (hol : ov.lies (· < Hb.next)) (hm : m ≤ 64) {txs : List TxD} {es : zzb} {clock : Nat} (hM : Hb.get M = some (.map es clock)) (hMn : M < Hb.next)
  (how : zk2 Hb N rows m txs es order) (hol2 : order.length < 40000000000000) (hrl : rows.length < 400000000000) (hn : order.length + rows.length + 10 < n)
  (hQ : ∀ l' H' f' mm', SubK [(4, p4), (6, p6), (16, .ptr F 0 0), (17, .ptr P 0 0)] l' → zub Hb F P f' mm' H' → order.foldl (ywn rows txs) (f, mm) = (f', mm') → Q .normal (l', H')) :
  Wp or n 128 C30 (yxl by8) ([(2, ov), (4, p4), (6, p6), (11, .map M), (16, .ptr F 0 0), (17, .ptr P 0 0)], H) Q := by
 have hlen : zyy ov = some (vi order.length) := by have := ho.lenS; simpa [-getElem?_pos, -List.reduceReplicate] using this
 repeat (first | apply Wp.za | apply Wp.zb | apply Wp.zc | apply Wp.zd | apply Wp.ze | apply Wp.zf rfl | apply Wp.zg rfl | ((apply Wp.zh; (repeat (apply Ex.zc; (simp (disch := omega) [-getElem?_pos, -List.reduceReplicate, hlen]; rfl))); exact Ex.zn; rfl; (simp; rfl))))
 apply Wp.loop (α := Nat × zz6 × zyw × zkc) (fun y => [(4, p4), (6, p6), (11, .map M), (16, .ptr F 0 0), (17, .ptr P 0 0), (78, ov), (79, vi order.length), (80, vi y.1)]) (·.2.1)
  (fun y => y.1 ≤ order.length ∧ zub Hb F P y.2.2.1 y.2.2.2 y.2.1 ∧ (order.drop y.1).foldl (ywn rows txs) (y.2.2.1, y.2.2.2) = order.foldl (ywn rows txs) (f, mm)) (fun y => order.length - y.1)
  (0, H, f, mm) rfl ⟨by omega, hd, rfl⟩ (by simp [-List.reduceReplicate]; omega) (by simp [-List.reduceReplicate])
 rintro ⟨j, H2, f2, mm2⟩ ⟨hj, hd2, hfold⟩
 dsimp only at hj hd2 hfold ⊢
 (repeat (first | apply Wp.za | apply Wp.zb)); (apply Wp.zh; (repeat (apply Ex.zc; (simp (disch := omega) [-getElem?_pos, -List.reduceReplicate]; rfl))); exact Ex.zn; rfl; (simp; rfl))
 (repeat (first | apply Wp.za | apply Wp.zb)); apply Wp.ite rfl
 ·intro hjl
  obtain ⟨p, hp⟩ : ∃ p, order[j]? = some p := ⟨_, List.getElem?_eq_getElem (by omega)⟩
  obtain ⟨w, b, ocs, he, hf, hws, hwR⟩ := how.find hp
  obtain ⟨R0, ver0, off, kc, ex, cells, hv, hrow, hc1, hc2⟩ := ho.at (i := j) (e := [vi p]) (by rw [List.getElem?_map, hp]; rfl)
  simp only [List.length_map] at hv
  have hR0 := hol _ _ _ _ _ _ _ hv
  have hrow2 : H2.rowAt R0 ver0 = some cells := by rw [hd2.grow.rowAt hR0]; exact hrow
  rw [Nat.mul_one] at hc1 hc2
  have hc3 : cells[off + j]? = some (vi p) := by
   have : (List.take 1 (List.drop (off + j) cells))[0]? = some (vi p) := by rw [hc2]; rfl
   rw [List.getElem?_take, if_pos (by omega), List.getElem?_drop] at this
   exact this
  obtain ⟨hfl1, hfl2⟩ := hd2.pm.flat
  have hP2 := hd2.cp.at
  have hbq : mm2.flatten.take 2048 = mm2.flatten := List.take_of_length_le (by omega)
  obtain ⟨H3, hw3, hd3, hn3⟩ := hd2.begin
  have hwlen := how.rows_ j _ p he hp
  have hok := how.ok p (List.mem_of_getElem? hp)
  have hown : (zqt rows txs p).length ≤ rows.length := by
   unfold zqt
   split
   ·rename_i x _; unfold zf2; have := zrh x.client (rows.drop (x.begun + 1).toNat); simp [-getElem?_pos, -List.reduceReplicate] at this; omega
   ·simp [-getElem?_pos, -List.reduceReplicate]
  rw [zqe hp, List.foldl_cons] at hfold
  apply Wp.zd
  (repeat (first | apply Wp.za | apply Wp.zb)); (apply Wp.zh; (repeat (apply Ex.zc; (simp (disch := omega) [-getElem?_pos, -List.reduceReplicate, hv, hrow2, hc3]; rfl))); exact Ex.zn; rfl; (simp; rfl))
  (repeat (first | apply Wp.za | apply Wp.zb)); (apply Wp.zh; (repeat (apply Ex.zc; (simp (disch := omega) [-getElem?_pos, -List.reduceReplicate, hP2, hfl1, hbq, hw3]; rfl))); exact Ex.zn; rfl; (simp; rfl))
  (repeat (first | apply Wp.za | apply Wp.zb)); (apply Wp.zh; (repeat (apply Ex.zc; (simp (disch := omega) [-getElem?_pos, -List.reduceReplicate]; rfl))); exact Ex.zn; rfl; (simp; rfl))
  apply Wp.za
  refine Wp.sub [(4, p4), (6, p6), (11, .map M), (16, .ptr F 0 0), (17, .ptr P 0 0), (19, vi p), (20, .ptr H2.next 0 0), (21, vi 0), (78, ov), (79, vi order.length), (80, vi j)] ?_ (by simp [-getElem?_pos, -List.reduceReplicate, hv])
  refine byIn hd3 hws.rd (fun R ver off len kc ex esz e => (hws.lies R ver off len kc ex esz e).2) hwR hok.2.2 hm hM hMn hf (by omega) (by omega) fun l' H' f' ins' k' hsub hd' hT => ?_
  obtain ⟨H4, hw4, hb4, hn4⟩ := hd'.done
  obtain ⟨hf1, hf2⟩ := hd'.im.flat
  have hI' := hd'.ci.at
  have hbq' : ins'.flatten.take 2048 = ins'.flatten := List.take_of_length_le (by omega)
  rw [zcd hT] at hfold
  refine Wp.sub [(4, p4), (6, p6), (11, .map M), (16, .ptr F 0 0), (17, .ptr P 0 0), (20, .ptr H2.next 0 0), (78, ov), (79, vi order.length), (80, vi j)] ?_ hsub
  repeat (first | apply Wp.za | apply Wp.zb | apply Wp.zc | apply Wp.zd | apply Wp.ze | apply Wp.zf rfl | apply Wp.zg rfl | ((apply Wp.zh; (repeat (apply Ex.zc; (simp (disch := omega) [-getElem?_pos, -List.reduceReplicate, hI', hf1, hbq', hw4]; rfl))); exact Ex.zn; rfl; (simp; rfl))))
  exact ⟨(j + 1, H4, f', ins'), rfl, ⟨by show j + 1 ≤ _; omega, hb4, hfold⟩, by show _ - (j + 1) < _ - j; omega, by simp [-getElem?_pos, -List.reduceReplicate]⟩
 ·intro hjl
  apply Wp.ze
  have : order.drop j = [] := List.drop_of_length_le (by omega)
  rw [this, List.foldl_nil] at hfold
  exact hQ _ _ f2 mm2 (by simp [-List.reduceReplicate]) hd2 hfold.symm
end
section
variable {kn : zy0} {env : Nat → Option zzq}
variable {H H' H1 : zz6} {N A M : Nat} {v v0 ov : AVal} {rows l : List RowD} {rcs ocs : List (List AVal)} {rc : List AVal} {r : RowD} {x : TxD} {sv rv wv : AVal} {m : Int} {txs : List TxD} {order : List Int}
theorem zhe {b b' : List TxD} {i : Int} {Pr : Int → Prop} (h : ∀ x ∈ b, Pr x.begun) (hi : Pr i) (hs : zx3 b i r = some b') : ∀ x ∈ b', Pr x.begun := by
 have upd : ∀ {k : Nat} {x y : TxD}, b[k]? = some x → y.begun = x.begun → ∀ z ∈ b.set k y, Pr z.begun := fun hx hy z hz => by
  rcases List.mem_or_eq_of_mem_set hz with hz | rfl
  ·exact h z hz
  ·rw [hy]; exact h _ (List.mem_of_getElem? hx)
 have updB' : ∀ (k : Nat) (f : TxD → TxD), (∀ x, (f x).begun = x.begun) → ∀ z ∈ zjb b k f, Pr z.begun := fun k f hf => by
  unfold zjb
  split
  ·rename_i x hx; exact upd hx (hf x)
  ·exact h
 have mp : ∀ (f : TxD → TxD), (∀ x, (f x).begun = x.begun) → ∀ z ∈ b.map f, Pr z.begun := fun f hf z hz => by
  obtain ⟨x, hx, rfl⟩ := List.mem_map.1 hz
  rw [hf]; exact h x hx
 unfold zx3 at hs
 split at hs
 ·unfold zur at hs
  split at hs
  ·cases hs
  ·split at hs
   ·split at hs
    ·cases hs
    ·cases hs; exact h
   ·split at hs
    ·split at hs
     ·cases hs
     ·cases hs
      intro x hx
      rcases List.mem_append.1 hx with hx | hx
      ·exact h x hx
      ·simp [-getElem?_pos] at hx; subst hx; exact hi
    ·obtain ⟨k, _, rfl⟩ := Option.map_eq_some_iff.1 hs
     split
     ·exact updB' k _ fun _ => rfl
     ·split
      ·exact updB' k _ fun _ => rfl
      ·split
       ·exact updB' k _ fun _ => rfl
       ·split
        ·exact updB' k _ fun _ => rfl
        ·exact h
 ·split at hs
  ·obtain ⟨k, _, hs⟩ := Option.bind_eq_some_iff.1 hs
   obtain ⟨x, hx, hs⟩ := Option.bind_eq_some_iff.1 hs
   split at hs
   ·cases hs
    split
    ·exact upd hx rfl
    ·exact h
   ·cases hs
  ·split at hs
   ·obtain ⟨k, _, hs⟩ := Option.bind_eq_some_iff.1 hs
    obtain ⟨x, hx, hs⟩ := Option.bind_eq_some_iff.1 hs
    split at hs
    ·cases hs; exact upd hx rfl
    ·cases hs
   ·split at hs
    ·cases hs; exact mp _ fun x => by split <;> rfl
    ·split at hs
     ·cases hs; exact mp _ fun x => by split <;> rfl
     ·cases hs; exact h
theorem ztr : ∀ {l : List RowD} {b b' : List TxD} {k n : Nat}, k + l.length ≤ n → (∀ x ∈ b, ∃ q : Nat, x.begun = q ∧ q < n) → zqv b k l = some b' → ∀ x ∈ b', ∃ q : Nat, x.begun = q ∧ q < n
 | [], b, b', k, n, _, h, hs => by cases hs; exact h
 | r :: l, b, b', k, n, hn, h, hs => by
  obtain ⟨b1, h1, h2⟩ := Option.bind_eq_some_iff.1 hs
  simp [-getElem?_pos] at hn
  exact ztr (k := k + 1) (by omega) (zhe (Pr := fun z => ∃ q : Nat, z = q ∧ q < n) h ⟨k, rfl, by omega⟩ h1) h2
theorem zpe (h : zmc rows = some txs) : ∀ x ∈ txs, ∃ q : Nat, x.begun = q ∧ q < rows.length := fun x hx => by
 unfold zmc at h
 obtain ⟨b, h1, rfl⟩ := Option.map_eq_some_iff.1 h
 obtain ⟨y, hy, rfl⟩ := List.mem_map.1 hx
 have := ztr (n := rows.length) (by omega) (by simp) h1 y hy
 unfold zcl
 split <;> exact this
theorem zun (h : okO rows m txs order) {j : Nat} {p : Int} (hp : order[j]? = some p) : p ∉ order.take j ∧ okP rows m txs p := by
 refine ⟨fun hm => ?_, h.2 p (List.mem_of_getElem? hp)⟩
 have hn := h.1
 obtain ⟨i, hi, he⟩ := List.getElem_of_mem hm
 have hj := (List.getElem?_eq_some_iff.1 hp).1
 simp [-getElem?_pos] at hi
 rw [List.getElem_take] at he
 have h2 : order[j] = p := (List.getElem?_eq_some_iff.1 hp).2
 exact List.pairwise_iff_getElem.1 hn i j (by omega) hj (by omega) (he.trans h2.symm)
theorem yyt.one {H : zz6} {l : List Int} (h : yyt H N v l) : v.one = true := by
 rcases h with h | ⟨_, R, rfl, _⟩
 ·exact h.rd.one
 ·rfl
theorem yxh {es : zzb} {ps : List Int} {p : Int} {w : AVal} {b : Nat} (hk : es.map (·.1) = ps.map vi) (hn : ps.Nodup) (hp : p ∉ ps) : zwe .i64 p (es ++ [(vi p, w, b)]) 0 = some (some (es.length, w, b)) := by
 have hkeys : (es ++ [(vi p, w, b)]).map (·.1) = (ps ++ [p]).map vi := by simp [-getElem?_pos, hk]
 have hnd : (ps ++ [p]).Nodup := List.nodup_append.2 ⟨hn, by simp [-getElem?_pos], fun a ha b hb => by simp [-getElem?_pos] at hb; subst hb; exact fun e => hp (by rw [← e]; exact ha)⟩
 have := znn (i := 0) (c := p) (p := es.length) (v := w) (bn := b) (es := es ++ [(vi p, w, b)]) (fun e he => by
  have : e.1 ∈ (es ++ [(vi p, w, b)]).map (·.1) := List.mem_map_of_mem (f := fun e : AVal × AVal × Nat => e.1) he
  rw [hkeys] at this
  obtain ⟨q, _, hq⟩ := List.mem_map.1 this
  exact ⟨q, hq.symm⟩) (by rw [hkeys]; exact zeb hnd) (by rw [List.getElem?_concat_length])
 rw [Nat.zero_add] at this
 exact this
end
end Go.Proofs.Ythbjfkkjmecaaaa
