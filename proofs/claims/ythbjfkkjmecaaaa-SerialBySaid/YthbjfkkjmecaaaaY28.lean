/- Walks: apart. -/
import Derived.Test.YthbjfkkjmecaaaaY27
import Derived.Test.YthbjfkkjmecaaaaY17
import Derived.Test.YthbjfkkjmecaaaaProg
set_option linter.unusedVariables false
set_option linter.unusedSimpArgs false
namespace Go.Proofs.Ythbjfkkjmecaaaa
open Go Go.Vm
section
variable {kn : zy0} {env : Nat → Option zzq}
variable {H H' : zz6} {own : Nat → Nat} {vl vL a x w : AVal} {avs lav : List AVal} {lc : Nat → List (List AVal)} {cont : Nat → List (List AVal)} {i k q g : Nat} {es : List (List AVal)}
theorem znk (i : Nat) (c : Int) : mark i c = [v8 (zq3 .u8 ((i : Int) + 1)), v8 c, zb, zb, zb, zb, zb, zb, zb, zb, zb, zb, zb, zb, zb, zb, zb, zb, zb, zb, zb, zb, zb, zb, zb, zb, zb, zb, zb, zb, zb, zb] := rfl
theorem zwf.congr {lc' : Nat → List (List AVal)} {cont' : Nat → List (List AVal)} (h : zwf H own vl vL avs lc [] cont) (he : ∀ (j : Nat) a, avs[j]? = some a → lc j = lc' j) : zwf H own vl vL avs lc' [] cont' where
 rdl := h.rdl
 liesl := h.liesl
 at_ := fun j a ha => by rw [← he j a ha]; exact h.at_ j a ha
 rdL := h.rdL
 liesL := h.liesL
 atL := fun q w hw => by simp [-getElem?_pos] at hw
theorem zfb {v : AVal} {l : List AVal} (h : RdE H 1 v (l.map fun a => [a])) {j : Nat} {p : AVal} (hp : l[j]? = some p) : ∃ R ver off kc ex cells, v = .slice R ver off l.length kc ex 1 ∧ H.rowAt R ver = some cells ∧ off + j + 1 ≤ cells.length ∧ cells[off + j]? = some p := by
 obtain ⟨R0, ver0, off, kc, ex, cells, hv, hrow, hc1, hc2⟩ := h.at (i := j) (e := [p]) (by rw [List.getElem?_map, hp]; rfl)
 rw [List.length_map] at hv
 rw [Nat.mul_one] at hc1 hc2
 refine ⟨R0, ver0, off, kc, ex, cells, hv, hrow, hc1, ?_⟩
 have : (List.take 1 (List.drop (off + j) cells))[0]? = some p := by rw [hc2]; rfl
 rw [List.getElem?_take, if_pos (by omega), List.getElem?_drop] at this
 exact this
theorem zqa : (zuk lc i).length = (lc i).length := by unfold zuk; rw [List.length_replicate]
theorem zn2 (hg : g < 17) (hl : lav.length = 17 * i + g) (he : es = zuk lc i ++ List.replicate (cnt g) (mark i 8)) : (fun q => if q = lav.length then es else zu8 lc q) = zu8 lc := by
 funext q
 by_cases h : q = lav.length
 ·rw [if_pos h, he]
  unfold zu8
  rw [show q / 17 = i by omega, show q % 17 = g by omega]
 ·rw [if_neg h]
theorem zhd {q k : Nat} (hq : q / 17 = i) (hk : q % 17 < min k 16) : (zu8 lc q).length ≤ (zuk lc i ++ List.replicate k (mark i 8)).length := by
 unfold zu8 cnt
 rw [hq, List.length_append, List.length_append, List.length_replicate, List.length_replicate]
 split <;> omega
theorem yz3 (hq : q / 17 = i) : (zu8 lc q).length = (lc i).length + cnt (q % 17) := by
 unfold zu8
 rw [hq, List.length_append, List.length_replicate, zqa]
theorem ykv (g : Nat) : cnt g ≤ 70 := by unfold cnt; split <;> omega
theorem yya (hq : q / 17 = i) (h1 : (lc i).length ≤ k) (h2 : k < (zu8 lc q).length) : (zu8 lc q)[k]? = some (mark i 8) := by
 unfold zu8 at h2 ⊢
 rw [hq] at h2 ⊢
 rw [List.length_append, List.length_replicate, zqa] at h2
 rw [List.getElem?_append_right (by rw [zqa]; exact h1), List.getElem?_replicate, if_pos (by rw [zqa]; omega)]
theorem yyf (hk : k < (lc i).length) : (zuk lc i)[k]? = some (mark i 7) := by
 unfold zuk
 rw [List.getElem?_replicate, if_pos hk]
theorem yj3 {es : List (List AVal)} {e : List AVal} (h : zzw H 0 32 a es) (hk : es[k]? = some e) : ∃ R ver cells, a = .slice R ver 0 es.length es.length false 32 ∧ H.rowAt R ver = some cells ∧ k * 32 + 32 ≤ cells.length ∧ (cells.drop (k * 32)).take 32 = e := by
 obtain ⟨R, ver, cells, e1, _, _, e4, e5, _, e7⟩ := h.load hk
 exact ⟨R, ver, cells, e1, e4, e5, e7⟩
theorem zg4 {x : Nat} (h : (x + 71) * 32 ≤ 140737488355328) : x ≤ 4398046511104 := by
 have h2 : (x + 71) * 32 ≤ 4398046511104 * 32 := h
 have := Nat.le_of_mul_le_mul_right h2 (by decide)
 omega
abbrev C27 : List Nat := [0, 2, 3, 4, 5, 6, 7, 8, 9, 10, 11, 12, 13, 17, 26, 42, 50, 61, 73, 82, 96, 98, 116, 127]
set_option maxHeartbeats 8000000 in
theorem c27 (h : Fn kn env 27 a27) (n : Nat) (hm : zwf H own vl zxa avs lc [] (fun _ => [])) (hL : ∀ (i : Nat) a, avs[i]? = some a → ((lc i).length + 71) * 32 ≤ 140737488355328 ∧ (lc i).length + 70 < n) (hi : avs.length ≤ 1000)
  (hn70 : 70 < n) (hna : avs.length < n) : ∃ v H', zzp kn env (n + 1) (.func (.func 27) []) [vl] H = some (v, H') ∧ v = zzt true := by
 have hlen : zyy vl = some (vi avs.length) := by have := hm.rdl.lenS; rwa [List.length_map] at this
 refine Wp.call (R := fun v H' => v = zzt true) 128 C27 h.e (h.no [vl] H) (n := n) rfl (by simp) ?_
 repeat (first | apply Wp.za | apply Wp.zb | apply Wp.zc | apply Wp.zd | apply Wp.ze | apply Wp.zf rfl | apply Wp.zg rfl | ((apply Wp.zh; (repeat (apply Ex.zc; (simp (disch := omega) [-getElem?_pos]; rfl))); exact Ex.zn; rfl; (simp; rfl))))
 apply Wp.loop (α := Nat × zz6) (fun y => [(0, vl), (3, vi y.1)]) (·.2) (fun y => y.1 ≤ avs.length ∧ zwf y.2 own vl zxa avs (zfy lc y.1 0) [] (fun _ => [])) (fun y => avs.length - y.1) (0, H) rfl ⟨Nat.zero_le _, by rw [zcj]; exact hm⟩ (by dsimp only; omega) (by simp)
 rintro ⟨i, H1⟩ ⟨hi1, hm1⟩
 dsimp only at hi1 hm1 ⊢
 (repeat (first | apply Wp.za | apply Wp.zb)); (apply Wp.zh; (repeat (apply Ex.zc; (simp (disch := omega) [-getElem?_pos, hlen]; rfl))); exact Ex.zn; rfl; (simp; rfl))
 (repeat (first | apply Wp.za | apply Wp.zb)); apply Wp.ite rfl
 ·intro hil
  apply Wp.zd
  obtain ⟨a, ha⟩ : ∃ a, avs[i]? = some a := ⟨_, List.getElem?_eq_getElem (by omega)⟩
  have hL2 := (hL i a ha).2
  have hL3 := zg4 (hL i a ha).1
  repeat (first | apply Wp.za | apply Wp.zb | apply Wp.zc | apply Wp.zd | apply Wp.ze | apply Wp.zf rfl | apply Wp.zg rfl | ((apply Wp.zh; (repeat (apply Ex.zc; (simp (disch := omega) [-getElem?_pos]; rfl))); exact Ex.zn; rfl; (simp; rfl))))
  apply Wp.loop (α := Nat × zz6) (fun y => [(0, vl), (3, vi i), (4, vi y.1)]) (·.2) (fun y => y.1 ≤ (lc i).length ∧ zwf y.2 own vl zxa avs (zfy lc i y.1) [] (fun _ => [])) (fun y => (lc i).length - y.1) (0, H1) rfl ⟨Nat.zero_le _, hm1⟩ (by dsimp only; omega) (by simp)
  rintro ⟨k, H2⟩ ⟨hk2, hm2⟩
  dsimp only at hk2 hm2 ⊢
  obtain ⟨Rv, vv, ov, kv, xv, cv, hvl, hvr, hv1, hv2⟩ := zfb hm2.rdl ha
  have la := (hm2.at_ i a ha).1.rd.lenS
  rw [zm8 _ _ _ _ hk2] at la
  (repeat (first | apply Wp.za | apply Wp.zb)); (apply Wp.zh; (repeat (apply Ex.zc; (simp (disch := omega) [-getElem?_pos, hvl, hvr, hv2, la]; rfl))); exact Ex.zn; rfl; (simp; rfl))
  (repeat (first | apply Wp.za | apply Wp.zb)); apply Wp.ite rfl
  ·intro hkl
   apply Wp.zd
   obtain ⟨R, ver, H3, e1, e2, e3⟩ := hm2.put ha (k := k) (by rw [zm8 _ _ _ _ hk2]; omega) (zm2 i 7)
   rw [yxr lc i k (by omega)] at e3
   rw [zm8 _ _ _ _ hk2] at e1
   rw [znk] at e2
   have hne := e3.rdl
   repeat (first | apply Wp.za | apply Wp.zb | apply Wp.zc | apply Wp.zd | apply Wp.ze | apply Wp.zf rfl | apply Wp.zg rfl | ((apply Wp.zh; (repeat (apply Ex.zc; (simp (disch := omega) [-getElem?_pos, hvl, hvr, hv2, e1, e2, zzm, zx1]; rfl))); exact Ex.zn; rfl; (simp; rfl))))
   exact ⟨(k + 1, H3), rfl, ⟨by dsimp only; omega, e3⟩, by dsimp only; omega, by simp [-getElem?_pos, hvl]⟩
  ·intro hkl
   apply Wp.ze
   have : k = (lc i).length := by omega
   subst this
   rw [yzg] at hm2
   repeat (first | apply Wp.za | apply Wp.zb | apply Wp.zc | apply Wp.zd | apply Wp.ze | apply Wp.zf rfl | apply Wp.zg rfl | ((apply Wp.zh; (repeat (apply Ex.zc; (simp (disch := omega) [-getElem?_pos]; rfl))); exact Ex.zn; rfl; (simp; rfl))))
   exact ⟨(i + 1, H2), rfl, ⟨by dsimp only; omega, hm2⟩, by dsimp only; omega, by simp [-getElem?_pos, hvl]⟩
 intro hil
 apply Wp.ze
 have hie : i = avs.length := by omega
 subst hie
 have hm2 : zwf H1 own vl zxa avs (zuk lc) [] (zu8 lc) := hm1.congr fun j a ha => yx7 lc _ j (List.getElem?_eq_some_iff.1 ha).1
 repeat (first | apply Wp.za | apply Wp.zb | apply Wp.zc | apply Wp.zd | apply Wp.ze | apply Wp.zf rfl | apply Wp.zg rfl | ((apply Wp.zh; (repeat (apply Ex.zc; (simp (disch := omega) [-getElem?_pos]; rfl))); exact Ex.zn; rfl; (simp; rfl))))
 apply Wp.loop (α := Nat × zz6 × (Nat → Nat) × AVal × List AVal) (fun y => [(0, vl), (5, y.2.2.2.1), (6, vi y.1)]) (·.2.1) (fun y => y.1 ≤ avs.length ∧ zwf y.2.1 y.2.2.1 vl y.2.2.2.1 avs (zuk lc) y.2.2.2.2 (zu8 lc) ∧ y.2.2.2.2.length = 17 * y.1) (fun y => avs.length - y.1) (0, H1, own, zxa, []) rfl ⟨Nat.zero_le _, hm2, rfl⟩ (by dsimp only; omega) (by simp)
 rintro ⟨i, H2, own2, vL, lav⟩ ⟨hi2, hm3, hlav⟩
 dsimp only at hi2 hm3 hlav ⊢
 (repeat (first | apply Wp.za | apply Wp.zb)); (apply Wp.zh; (repeat (apply Ex.zc; (simp (disch := omega) [-getElem?_pos, hlen]; rfl))); exact Ex.zn; rfl; (simp; rfl))
 (repeat (first | apply Wp.za | apply Wp.zb)); apply Wp.ite rfl
 ·intro hil
  apply Wp.zd
  obtain ⟨a, ha⟩ : ∃ a, avs[i]? = some a := ⟨_, List.getElem?_eq_getElem (by omega)⟩
  have hL2 := (hL i a ha).2
  have hL3 := zg4 (hL i a ha).1
  obtain ⟨Rv, vv, ov, kv, xv, cv, hvl, hvr, hv1, hv2⟩ := zfb hm3.rdl ha
  obtain ⟨c1, c2⟩ := hm3.at_ i a ha
  repeat (first | apply Wp.za | apply Wp.zb | apply Wp.zc | apply Wp.zd | apply Wp.ze | apply Wp.zf rfl | apply Wp.zg rfl | ((apply Wp.zh; (repeat (apply Ex.zc; (simp (disch := omega) [-getElem?_pos, hvl, hvr, hv2]; rfl))); exact Ex.zn; rfl; (simp; rfl))))
  apply Wp.loop (α := Nat × zz6 × (Nat → Nat) × AVal × List AVal × AVal) (fun y => [(0, vl), (5, y.2.2.2.1), (6, vi i), (7, y.2.2.2.2.2), (8, vi y.1)]) (·.2.1)
   (fun y => y.1 ≤ 70 ∧ zwf y.2.1 y.2.2.1 vl y.2.2.2.1 avs (zuk lc) y.2.2.2.2.1 (zu8 lc) ∧ y.2.2.2.2.1.length = 17 * i + min y.1 16 ∧ zzw y.2.1 0 32 y.2.2.2.2.2 (zuk lc i ++ List.replicate y.1 (mark i 8)) ∧ y.2.2.2.2.2.lies fun R => y.2.2.1 R = i + 2) (fun y => 70 - y.1)
   (0, H2, own2, vL, lav, a) rfl ⟨Nat.zero_le _, hm3, by simpa [-getElem?_pos] using hlav, by simpa [-getElem?_pos] using c1, c2⟩ (by dsimp only; omega) (by simp [-getElem?_pos, hvl])
  rintro ⟨k, H3, own3, vL3, lav3, x⟩ ⟨hk, hm4, hlav3, hs3, hx3⟩
  dsimp only at hk hm4 hlav3 hs3 hx3 ⊢
  (repeat (first | apply Wp.za | apply Wp.zb)); (apply Wp.zh; (repeat (apply Ex.zc; (simp (disch := omega) [-getElem?_pos]; rfl))); exact Ex.zn; rfl; (simp; rfl))
  (repeat (first | apply Wp.za | apply Wp.zb)); apply Wp.ite rfl
  ·intro hkl
   apply Wp.zd
   obtain ⟨x', H4, own4, e1, e2, e3, e4⟩ := hm4.grow hs3 hx3 (by simp) (fun q w hq hqi => zhd hqi (by have := (List.getElem?_eq_some_iff.1 hq).1; omega)) (zm2 i 8) (Nat.le_trans (Nat.mul_le_mul_right 32 (by rw [List.length_append, List.length_replicate, zqa]; omega)) (hL i a ha).1)
   rw [znk] at e1
   have e3' : zzw H4 0 32 x' (zuk lc i ++ List.replicate (k + 1) (mark i 8)) := by rw [List.replicate_succ', ← List.append_assoc]; exact e3
   have hxc := zx4 e3.rd.one
   by_cases h16 : k < 16
   ·obtain ⟨vL', H5, own5, f1, f2, f3, f4⟩ := e2.note e3' e4 (by omega) (by omega)
    rw [zn2 (i := i) (lc := lc) (g := k) (by omega) (by omega) (by unfold cnt; rw [if_pos h16])] at f2
    repeat (first | apply Wp.za | apply Wp.zb | apply Wp.zc | apply Wp.zd | apply Wp.ze | apply Wp.zf rfl | apply Wp.zg rfl | ((apply Wp.zh; (repeat (apply Ex.zc; (simp (disch := omega) [-getElem?_pos, e1, f1, hxc, h16, zzm, zx1]; rfl))); exact Ex.zn; rfl; (simp; rfl))))
    exact ⟨(k + 1, H5, own5, vL', lav3 ++ [x'], x'), rfl, ⟨by dsimp only; omega, f2, by simp; omega, f3, f4⟩, by dsimp only; omega, by simp [-getElem?_pos]⟩
   ·repeat (first | apply Wp.za | apply Wp.zb | apply Wp.zc | apply Wp.zd | apply Wp.ze | apply Wp.zf rfl | apply Wp.zg rfl | ((apply Wp.zh; (repeat (apply Ex.zc; (simp (disch := omega) [-getElem?_pos, e1, hxc, h16, zzm, zx1]; rfl))); exact Ex.zn; rfl; (simp; rfl))))
    exact ⟨(k + 1, H4, own4, vL3, lav3, x'), rfl, ⟨by dsimp only; omega, e2, by dsimp only; omega, e3', e4⟩, by dsimp only; omega, by simp [-getElem?_pos]⟩
  ·intro hkl
   apply Wp.ze
   have : k = 70 := by omega
   subst this
   have hxc := zx4 hs3.rd.one
   obtain ⟨vL', H5, own5, f1, f2, f3, f4⟩ := hm4.note hs3 hx3 (by omega) (by omega)
   rw [zn2 (i := i) (lc := lc) (g := 16) (es := zuk lc i ++ List.replicate 70 (mark i 8)) (by omega) (by omega) rfl] at f2
   repeat (first | apply Wp.za | apply Wp.zb | apply Wp.zc | apply Wp.zd | apply Wp.ze | apply Wp.zf rfl | apply Wp.zg rfl | ((apply Wp.zh; (repeat (apply Ex.zc; (simp (disch := omega) [-getElem?_pos, f1, hxc, zzm, zx1]; rfl))); exact Ex.zn; rfl; (simp; rfl))))
   exact ⟨(i + 1, H5, own5, vL', lav3 ++ [x]), rfl, ⟨by dsimp only; omega, f2, by simp; omega⟩, by dsimp only; omega, by simp [-getElem?_pos]⟩
 intro hil
 apply Wp.ze
 have hie : i = avs.length := by omega
 subst hie
 repeat (first | apply Wp.za | apply Wp.zb | apply Wp.zc | apply Wp.zd | apply Wp.ze | apply Wp.zf rfl | apply Wp.zg rfl | ((apply Wp.zh; (repeat (apply Ex.zc; (simp (disch := omega) [-getElem?_pos]; rfl))); exact Ex.zn; rfl; (simp; rfl))))
 apply Wp.loop (α := Nat) (fun y => [(0, vl), (5, vL), (9, vi y)]) (fun _ => H2) (fun y => y ≤ avs.length) (fun y => avs.length - y) 0 rfl (Nat.zero_le _) (by omega) (by simp)
 rintro i hi3
 (repeat (first | apply Wp.za | apply Wp.zb)); (apply Wp.zh; (repeat (apply Ex.zc; (simp (disch := omega) [-getElem?_pos, hlen]; rfl))); exact Ex.zn; rfl; (simp; rfl))
 (repeat (first | apply Wp.za | apply Wp.zb)); apply Wp.ite rfl
 ·intro hil
  apply Wp.zd
  obtain ⟨a, ha⟩ : ∃ a, avs[i]? = some a := ⟨_, List.getElem?_eq_getElem (by omega)⟩
  have hL2 := (hL i a ha).2
  have hL3 := zg4 (hL i a ha).1
  obtain ⟨Rv, vv, ov, kv, xv, cv, hvl, hvr, hv1, hv2⟩ := zfb hm3.rdl ha
  obtain ⟨c1, c2⟩ := hm3.at_ i a ha
  have la := c1.rd.lenS
  rw [zqa] at la
  repeat (first | apply Wp.za | apply Wp.zb | apply Wp.zc | apply Wp.zd | apply Wp.ze | apply Wp.zf rfl | apply Wp.zg rfl | ((apply Wp.zh; (repeat (apply Ex.zc; (simp (disch := omega) [-getElem?_pos]; rfl))); exact Ex.zn; rfl; (simp; rfl))))
  apply Wp.loop (α := Nat) (fun y => [(0, vl), (5, vL), (9, vi i), (10, vi y)]) (fun _ => H2) (fun y => y ≤ (lc i).length) (fun y => (lc i).length - y) 0 rfl (Nat.zero_le _) (by omega) (by simp)
  rintro k hk
  (repeat (first | apply Wp.za | apply Wp.zb)); (apply Wp.zh; (repeat (apply Ex.zc; (simp (disch := omega) [-getElem?_pos, hvl, hvr, hv2, la]; rfl))); exact Ex.zn; rfl; (simp; rfl))
  (repeat (first | apply Wp.za | apply Wp.zb)); apply Wp.ite rfl
  ·intro hkl
   apply Wp.zd
   obtain ⟨Ra, va, ca, e1, e2, e3, e4⟩ := yj3 c1 (yyf (k := k) (by omega))
   rw [zqa] at e1
   have hev := zj7 (zm2 i 7)
   rw [znk] at e4 hev
   repeat (first | apply Wp.za | apply Wp.zb | apply Wp.zc | apply Wp.zd | apply Wp.ze | apply Wp.zf rfl | apply Wp.zg rfl | ((apply Wp.zh; (repeat (apply Ex.zc; (simp (disch := omega) [-getElem?_pos, hvl, hvr, hv2, e1, e2, e4, hev, zzm, zx1]; rfl))); exact Ex.zn; rfl; (simp; rfl))))
   exact ⟨k + 1, rfl, by omega, by omega, by simp [-getElem?_pos, hvl]⟩
  intro hkl
  apply Wp.ze
  repeat (first | apply Wp.za | apply Wp.zb | apply Wp.zc | apply Wp.zd | apply Wp.ze | apply Wp.zf rfl | apply Wp.zg rfl | ((apply Wp.zh; (repeat (apply Ex.zc; (simp (disch := omega) [-getElem?_pos]; rfl))); exact Ex.zn; rfl; (simp; rfl))))
  apply Wp.loop (α := Nat) (fun y => [(0, vl), (5, vL), (9, vi i), (11, vi y)]) (fun _ => H2) (fun y => y ≤ 17) (fun y => 17 - y) 0 rfl (Nat.zero_le _) (by omega) (by simp [-getElem?_pos, hvl])
  rintro g hg
  (repeat (first | apply Wp.za | apply Wp.zb)); (apply Wp.zh; (repeat (apply Ex.zc; (simp (disch := omega) [-getElem?_pos]; rfl))); exact Ex.zn; rfl; (simp; rfl))
  (repeat (first | apply Wp.za | apply Wp.zb)); apply Wp.ite rfl
  ·intro hgl
   apply Wp.zd
   obtain ⟨p, hp⟩ : ∃ p, p = 17 * i + g := ⟨_, rfl⟩
   obtain ⟨w, hw⟩ : ∃ w, lav[p]? = some w := ⟨_, List.getElem?_eq_getElem (by omega)⟩
   obtain ⟨RL, verL, oL, kL, xL, cL, hvL, hLr, hL1', hL2'⟩ := zfb hm3.rdL.rd hw
   obtain ⟨d1, d2⟩ := hm3.atL _ w hw
   have hq : p / 17 = i := by omega
   have hcl := yz3 (lc := lc) hq
   have hcn := ykv (p % 17)
   have lw := d1.rd.lenS
   have hidx : (17 * (i : Int) + g) = (p : Int) := by omega
   repeat (first | apply Wp.za | apply Wp.zb | apply Wp.zc | apply Wp.zd | apply Wp.ze | apply Wp.zf rfl | apply Wp.zg rfl | ((apply Wp.zh; (repeat (apply Ex.zc; (simp (disch := omega) [-getElem?_pos, hvl, hvr, hv2, la, hidx, hvL, hLr, hL2']; rfl))); exact Ex.zn; rfl; (simp; rfl))))
   apply Wp.loop (α := Nat) (fun y => [(0, vl), (5, vL), (9, vi i), (11, vi g), (12, w), (13, vi y)]) (fun _ => H2) (fun y => (lc i).length ≤ y ∧ y ≤ (zu8 lc p).length) (fun y => (zu8 lc p).length - y) (lc i).length rfl ⟨Nat.le_refl _, by omega⟩ (by omega) (by simp [-getElem?_pos, hvl, hvL])
   rintro k ⟨hk1, hk2⟩
   (repeat (first | apply Wp.za | apply Wp.zb)); (apply Wp.zh; (repeat (apply Ex.zc; (simp (disch := omega) [-getElem?_pos, lw]; rfl))); exact Ex.zn; rfl; (simp; rfl))
   (repeat (first | apply Wp.za | apply Wp.zb)); apply Wp.ite rfl
   ·intro hkl
    apply Wp.zd
    obtain ⟨Ra, va, ca, e1, e2, e3, e4⟩ := yj3 d1 (yya hq hk1 (by omega))
    have hev := zj7 (zm2 i 8)
    rw [znk] at e4 hev
    repeat (first | apply Wp.za | apply Wp.zb | apply Wp.zc | apply Wp.zd | apply Wp.ze | apply Wp.zf rfl | apply Wp.zg rfl | ((apply Wp.zh; (repeat (apply Ex.zc; (simp (disch := omega) [-getElem?_pos, e1, e2, e4, hev, zzm, zx1]; rfl))); exact Ex.zn; rfl; (simp; rfl))))
    exact ⟨k + 1, rfl, ⟨by omega, by omega⟩, by omega, by simp [-getElem?_pos, e1]⟩
   ·intro hkl
    apply Wp.ze
    repeat (first | apply Wp.za | apply Wp.zb | apply Wp.zc | apply Wp.zd | apply Wp.ze | apply Wp.zf rfl | apply Wp.zg rfl | ((apply Wp.zh; (repeat (apply Ex.zc; (simp (disch := omega) [-getElem?_pos]; rfl))); exact Ex.zn; rfl; (simp; rfl))))
    exact ⟨g + 1, rfl, by omega, by omega, by simp [-getElem?_pos, hvl, hvL]⟩
  ·intro hgl
   apply Wp.ze
   repeat (first | apply Wp.za | apply Wp.zb | apply Wp.zc | apply Wp.zd | apply Wp.ze | apply Wp.zf rfl | apply Wp.zg rfl | ((apply Wp.zh; (repeat (apply Ex.zc; (simp (disch := omega) [-getElem?_pos]; rfl))); exact Ex.zn; rfl; (simp; rfl))))
   exact ⟨i + 1, rfl, by omega, by omega, by simp [-getElem?_pos, hvl]⟩
 ·intro hil
  apply Wp.ze
  repeat (first | apply Wp.za | apply Wp.zb | apply Wp.zc | apply Wp.zd | apply Wp.ze | apply Wp.zf rfl | apply Wp.zg rfl | ((apply Wp.zh; (repeat (apply Ex.zc; (simp (disch := omega) [-getElem?_pos]; rfl))); exact Ex.zn; rfl; (simp; rfl))))
  simp [-getElem?_pos, a27]
end
section
variable {kn : zy0} {env : Nat → Option zzq}
variable {H H' H1 : zz6} {base esz bytes : Nat} {v w : AVal} {es fs : List (List AVal)}
def GrE (H : zz6) (base esz : Nat) (v : AVal) (es : List (List AVal)) : Prop :=
 (es = [] ∧ ∃ X, v = .slice X 0 0 0 0 true esz ∧ base ≤ X ∧ X < H.next ∧ H.get X = some (.row [some (0, [])])) ∨ zzw H base esz v es
theorem GrE.new (H : zz6) (hb : base ≤ H.next) : GrE (H.push (.row [some (0, [])])) base esz (.slice H.next 0 0 0 0 true esz) [] := .inl ⟨rfl, _, rfl, hb, by simp [-getElem?_pos], zz6.zzl _ _⟩
theorem GrE.slice (h : GrE H base esz v es) (hne : es ≠ []) : zzw H base esz v es := h.resolve_left fun q => hne q.1
theorem GrE.move (h : GrE H base esz v es) (hn : H.next ≤ H'.next) (hg : ∀ A, base ≤ A → A < H.next → H'.get A = H.get A) : GrE H' base esz v es := by
 rcases h with ⟨h1, X, h2, h3, h4, h5⟩ | h
 ·exact .inl ⟨h1, X, h2, h3, by omega, by rw [hg X h3 h4]; exact h5⟩
 ·exact .inr (h.move (Nat.le_refl _) hn hg)
theorem GrE.rd (h : GrE H base esz v es) : RdE H esz v es := by
 rcases h with ⟨rfl, X, rfl, h3, h4, h5⟩ | h
 ·have h5 : H.rowAt X 0 = some [] := Cells.at h5
  exact ⟨fun e he => by simp [-getElem?_pos] at he, .inr ⟨X, 0, 0, 0, true, [], rfl, h5, by simp [-getElem?_pos], by simp [-getElem?_pos], by simp [-getElem?_pos]⟩⟩
 ·exact h.rd
theorem GrE.app2 (h : GrE H base esz v es) (hb : base ≤ H.next) (hw : RdE H esz w fs) (h0 : 0 < esz) (hb0 : 0 < bytes) (hone : ∀ e ∈ fs, e.all AVal.one = true) (hlen : (es.length + fs.length) * bytes ≤ 140737488355328) :
  ∃ v' H', zzf H esz bytes v w = some (v', H') ∧ GrE H' base esz v' (es ++ fs) ∧ H.next ≤ H'.next ∧ (∀ A, A < base → H'.get A = H.get A) ∧ ∀ A, A < H.next → (v.lies fun R => R ≠ A) → H'.get A = H.get A := by
 have hlw := hw.len
 have hcw := hw.aCells
 by_cases hf : fs = []
 ·subst hf
  refine ⟨v, H, ?_, by rw [List.append_nil]; exact h, Nat.le_refl _, fun _ _ => rfl, fun _ _ _ => rfl⟩
  simp only [zzf, hlw, hcw, Option.bind_some, List.length_nil, if_true]
  rcases h with ⟨_, X, rfl, _⟩ | ⟨_, ⟨rfl, _⟩ | ⟨R, ver, vs, _, _, rfl, _⟩⟩ <;> rfl
 have hn : fs.length ≠ 0 := fun h1 => hf (List.eq_nil_of_length_eq_zero h1)
 have ha := zkj hone
 have h00 : (∀ e ∈ es, e.length = esz) → ∀ x ∈ es ++ fs, x.length = esz := fun hes x hx => by
  rcases List.mem_append.1 hx with h1 | h1
  ·exact hes x h1
  ·exact hw.1 x h1
 rcases h with ⟨rfl, X, rfl, h3, h4, h5⟩ | ⟨hes, ⟨rfl, rfl⟩ | ⟨R, ver, vs, h1, h2, rfl, h4, h5⟩⟩
 ·obtain ⟨q1, q2⟩ := hw.appendNew (bytes := bytes) hf h0 hb0 hone (by simpa [-getElem?_pos] using hlen) (Cells.at h5)
  exact ⟨_, _, q1, .inr (by rw [List.nil_append]; exact q2.move hb (Nat.le_refl _) fun _ _ _ => rfl), by simp [-getElem?_pos], fun A hA => zz6.zz9 _ _ (by omega), fun A hA _ => zz6.zz9 _ _ (by omega)⟩
 ·refine ⟨.slice H.next 0 0 fs.length fs.length false esz, H.push (.row [some (0, fs.flatten)]), ?_, .inr ⟨h00 hes, .inr ⟨H.next, 0, [some (0, fs.flatten)], hb, by simp [-getElem?_pos], by simp [-getElem?_pos], zz6.zzl _ _, by simp [-getElem?_pos]⟩⟩, by simp [-getElem?_pos], fun A hA => zz6.zz9 _ _ (by omega), fun A hA _ => zz6.zz9 _ _ (by omega)⟩
  rw [List.length_nil, Nat.zero_add] at hlen
  simp only [zzf, hlw, hcw, Option.bind_some, hn, if_false, h0, hb0, ha, decide_true, Bool.and_self, if_true, hlen]
 ·have hr : H.rowAt R ver = some es.flatten := by unfold zz6.rowAt; rw [h4]; simp only [h5]
  have hfl := zy1 hes
  refine ⟨.slice R vs.length 0 (es.length + fs.length) (es.length + fs.length) false esz, H.set R (.row (zwy vs (0 + 0 + es.length * esz) fs.flatten.length (0 + 0) ((es.flatten.drop 0).take (es.length * esz) ++ fs.flatten))), ?_, .inr ⟨h00 hes, .inr ⟨R, vs.length, _, h1, h2, by simp [-getElem?_pos], zz6.zzy _ _ _, ?_⟩⟩, Nat.le_refl _, fun A hA => zz6.zzz _ _ (by omega), fun A _ hA => zz6.zzz _ _ fun e => hA _ _ _ _ _ _ _ rfl e.symm⟩
  ·have g1 : 0 + es.length * esz ≤ es.flatten.length := by omega
   have g2 : ¬ (es.length + fs.length ≤ es.length) := by omega
   simp only [zzf, hlw, hcw, Option.bind_some, hn, if_false, h0, hb0, ha, decide_true, Bool.and_self, if_true, g2, hlen, hr, g1, h4, h5, Bool.false_eq_true]
  ·unfold zwy
   rw [List.getElem?_append_right (by rw [zy2]; exact Nat.le_refl _), zy2]
   simp [-getElem?_pos, List.take_of_length_le, hfl]
theorem GrE.app (h : GrE H base esz v es) (hb : base ≤ H.next) (hw : RdE H esz w fs) (h0 : 0 < esz) (hb0 : 0 < bytes) (hone : ∀ e ∈ fs, e.all AVal.one = true) (hlen : (es.length + fs.length) * bytes ≤ 140737488355328) :
  ∃ v' H', zzf H esz bytes v w = some (v', H') ∧ GrE H' base esz v' (es ++ fs) ∧ H.next ≤ H'.next ∧ ∀ A, A < base → H'.get A = H.get A := by
 obtain ⟨v', H', a1, a2, a3, a4, _⟩ := h.app2 hb hw h0 hb0 hone hlen
 exact ⟨v', H', a1, a2, a3, a4⟩
theorem GrE.one (h : GrE H base esz v es) (hb : base ≤ H.next) {X : Nat} {e : List AVal} (hX : H.rowAt X 0 = some e) (he : e.length = esz) (h0 : 0 < esz) (hb0 : 0 < bytes) (hone : e.all AVal.one = true) (hlen : (es.length + 1) * bytes ≤ 140737488355328) :
  ∃ v' H', zzf H esz bytes v (.slice X 0 0 1 1 true esz) = some (v', H') ∧ GrE H' base esz v' (es ++ [e]) ∧ H.next ≤ H'.next ∧ ∀ A, A < base → H'.get A = H.get A :=
 h.app hb ⟨by simp [-getElem?_pos, he], .inr ⟨X, 0, 0, 1, true, e, rfl, hX, by simp [-getElem?_pos], by simp [-getElem?_pos, he], by simp [-getElem?_pos, List.take_of_length_le (Nat.le_of_eq he)]⟩⟩ h0 hb0 (by simpa [-getElem?_pos] using hone) hlen
end
section
set_option maxRecDepth 20000
def a28 : zzq := ⟨(.seq (.region [qr 6 (.alloc zz0) [] [] .makes, qq 7 (.move (.c ns)) [], qr 8 (.move ci) [1] [] .quiet]) (.seq (.seq (.region [zz8 23 1, zx0 24 .lss 23 1 [0], zzx 25 24 [1], zya 26 1 25 false [2], ⟨(some 27), (.bin .gtr (.t 26) (.c (ki 64))), (some (25, false)), [3, 2], [26], .quiet⟩, zkn 28 25 27 [2,4]]) (.cond (.t 28) (.seq (.region [qq 29 (.build zz0 []) [], zx7 35 6 29 [0, 0], qr 7 (.move (.c ns)) [1,0,1] [] .quiet, qr 8 (.move (.c (ki 2))) [2,0,1,2] [] .quiet]) .ret) .skip)) (.seq (.region [zz8 31 0, zus 32 52 31 [0], zzx 30 32 [1], zq7 33 0 30 [2], zq7 34 1 30 [2], zzx 9 33 [3,1,0,1,2,3], zzx 10 34 [4,5,0,1,2,3,4,5]]) (.seq (.seq (.region [zz8 35 10, qr 36 (.bin .neq (.t 35) ci) [0] [35] .quiet]) (.cond (.t 36) (.seq (.region [qq 37 (.build zz0 []) [], zz8 38 10, zx7 35 6 37 [0, 0], qr 7 (.move (.c ns)) [2,0,2] [] .quiet, zzx 8 38 [1,3,0,1,2,3]]) .ret) .skip)) (.seq (.seq (.region [qq 11 (.move ci) []]) (.block 0 (.loop (.seq (.seq (.region [zz8 39 11, zz8 40 2, zwu 41 40 [1], zyu 42 .lss 39 41 [0,2]]) (.cond (.t 42) .skip (.exit 0))) (.seq (.block 1 (.seq (.seq (.draw [zz8 45 2, zz8 46 11, zyb 47 1 45 46 [0,1], zzg 48 47 [2], qr 49 (.bin .lss (.t 48) ci) [3] [48] .quiet, zzx 50 49 [4], zya 51 2 50 false [5], zya 52 11 50 false [5], zbf 53 1 51 52 50 false [6, 7, 5], zxn 54 53 50 false [8, 5], zya 55 9 50 false [5], ⟨(some 56), (.len 1 (.t 55)), (some (50, false)), [10, 5], [55], .quiet⟩, ⟨(some 57), (.bin .geq (.t 54) (.t 56)), (some (50, false)), [9, 11, 5], [54, 56], .quiet⟩, zkn 58 50 57 [5,12], zzx 59 58 [13,5], zya 60 2 59 false [14], zya 61 11 59 false [14], ⟨(some 62), (.sliceS 1 (.t 60) none (some (.t 61)) none), (some (59, false)), [15, 16, 14], [60, 61], .quiet⟩, zya 63 2 59 false [14], zya 64 11 59 false [14], zbf 65 1 63 64 59 false [18, 19, 14], zxn 66 65 59 false [20, 14], ⟨(some 67), (.call (.c (.func (.func 59) [])) [(.t 62), (.t 66)]), (some (59, false)), [17, 21, 14, 14], [62, 66], .any⟩, zkn 68 59 67 [14,22]] [.mob 0, .mob 1, .mob 2, .mob 3, .mob 4, .mob 5, .mob 6, .mob 7, .mob 8, .mob 9, .mob 10, .mob 11, .mob 12, .mob 13, .mob 14, .mob 15, .mob 16, .mob 17, .mob 18, .mob 19, .mob 20, .mob 21, .imm 22 [], .mob 23] [3, 9, 11, 21]) (.cond (.t 68) (.seq (.region [qq 69 (.build zz0 []) [], zx7 35 6 69 [0, 0], qr 7 (.move (.c ns)) [1,0,1] [] .quiet, qr 8 (.move (.c (ki 230))) [2,0,1,2] [] .quiet]) .ret) .skip)) (.seq (.region [zz8 70 0, zz8 71 9, zz8 72 2, zz8 73 11, zyb 74 1 72 73 [2,3], zzg 75 74 [4], zyb 76 12 71 75 [1,5], zb1 77 12 76 [6], zbm 78 60 70 77 [0,7], zzx 12 78 [8,8,0,1,2,3,4,5,6,7,8]]) (.seq (.region [qq 13 (.move ci) []]) (.block 2 (.loop (.seq (.seq (.region [zz8 79 13, zz8 80 12, zwu 81 80 [1], zyu 82 .lss 79 81 [0,2]]) (.cond (.t 82) .skip (.exit 2))) (.seq (.block 3 (.seq (.region [zz8 85 0, zz8 86 12, zz8 87 13, zyb 88 1 86 87 [1,2], zzg 89 88 [3], zyb 90 41 85 89 [0,4], zyk 91 4 90 [5], zzg 92 91 [6], zzx 14 92 [7,0,1,2,3,4,5,6,7]]) (.seq (.region [zz8 93 14, qr 94 (.bin .lss (.t 93) ci) [0] [93] .quiet, zzx 95 94 [1], zya 96 14 95 false [2], zya 97 1 95 false [2], ⟨(some 98), (.bin .geq (.t 96) (.t 97)), (some (95, false)), [3, 4, 2], [96, 97], .quiet⟩, zkn 99 95 98 [2,5]]) (.cond (.t 99) (.seq (.region [qq 100 (.build zz0 []) [], zx7 35 6 100 [0, 0], qr 7 (.move (.c ns)) [1,0,1] [] .quiet, qr 8 (.move (.c (ki 230))) [2,0,1,2] [] .quiet]) .ret) .skip)))) (.region [zz8 83 13, zx0 84 .add 83 1 [0], zzx 13 84 [1,0,1]]))))))))) (.region [zz8 43 11, zx0 44 .add 43 1 [0], zzx 11 44 [1,0,1]])))))) (.seq (.region [zz8 101 1, qr 102 (.makeSlice 32 32 zz2 (.t 101) (.t 101)) [0,0] [101,101] .makes, zzx 15 102 [1,0,1]]) (.seq (.region [qq 103 (.build zz0 [(0, 1, zwp), (1, 1, (.c (ki (-1)))), (2, 1, (.c (ki (-1))))]) [], qr 16 (.alloc zz0) [] [] .makes, zx7 35 16 103 [1, 0, 0, 1]]) (.seq (.seq (.region [qq 17 (.move ci) []]) (.block 4 (.loop (.seq (.seq (.region [zz8 104 17, zz8 105 2, zwu 106 105 [1], zyu 107 .lss 104 106 [0,2]]) (.cond (.t 107) .skip (.exit 4))) (.seq (.block 5 (.seq (.region [zz8 110 0, zz8 111 9, zz8 112 2, zz8 113 17, zyb 114 1 112 113 [2,3], zzg 115 114 [4], zyb 116 12 111 115 [1,5], zb1 117 12 116 [6], zbm 118 60 110 117 [0,7], zzx 18 118 [8,8,0,1,2,3,4,5,6,7,8]]) (.seq (.region [qr 119 (.buildSlice 0 32 zz2 []) [] [] .makes, zz8 120 15, zjm 121 32 32 119 120 [0,1], zzx 19 121 [2,2,0,1,2]]) (.seq (.region [qq 20 (.move ci) []]) (.seq (.seq (.region [qq 21 (.move ci) []]) (.block 6 (.loop (.seq (.seq (.region [zz8 122 21, zz8 123 18, zwu 124 123 [1], zyu 125 .lss 122 124 [0,2]]) (.cond (.t 125) .skip (.exit 6))) (.seq (.block 7 (.seq (.region [zz8 128 0, zz8 129 18, zz8 130 21, zyb 131 1 129 130 [1,2], zzg 132 131 [3], zyb 133 41 128 132 [0,4], zb1 134 41 133 [5], qr 22 (.alloc zz1) [] [] .makes, zx7 41 22 134 [7, 6, 0, 1, 2, 3, 4, 5, 6, 7]]) (.seq (.seq (.region [zw5 135 0 22, zzg 136 135 [0], zx0 137 .eql 136 6 [1]]) (.cond (.t 137) (.seq (.region [zz8 138 19, zw5 139 4 22, zzg 140 139 [1], zw5 141 5 22, zb1 142 32 141 [3], zyb 143 32 138 140 [0,2,0,1,2,3,4], zx7 32 143 142 [5, 4, 0, 1, 2, 3, 4]]) (.exit 7)) .skip)) (.seq (.seq (.draw [zw5 144 5 22, zb1 145 32 144 [0], zz8 146 19, zw5 147 4 22, zzg 148 147 [3], zyb 149 32 146 148 [2,4], zb1 150 32 149 [5], qr 151 (.eqP true (.arr 32 1 false .int) (.t 145) (.t 150)) [1,6] [145,150] .quiet, zzx 152 151 [7], zw8 153 0 16 152 true [8], zxn 154 153 152 true [9, 8], zk4 155 152 154 [8,10]] [.mob 0, .mob 1, .mob 2, .mob 3, .mob 4, .mob 5, .mob 6, .mob 7, .mob 8, .mob 9, .mob 10, .mob 11] [1, 4, 6, 10]) (.cond (.t 155) (.draw [zz8 156 2, zz8 157 17, zyb 158 1 156 157 [0,1], zzg 159 158 [2], zz8 160 20, zz8 161 19, zw5 162 4 22, zzg 163 162 [6], zyb 164 32 161 163 [5,7], zb1 165 32 164 [8], qr 166 (.build zz0 [(1, 1, (.t 159)), (2, 1, (.t 160)), (3, 32, (.t 165))]) [3,4,9] [159,160,165] .quiet, zx7 35 16 166 [10, 0, 1, 2, 3, 4, 5, 6, 7, 8, 9, 10]] [.mob 0, .mob 1, .mob 2, .mob 3, .mob 4, .mob 5, .mob 6, .mob 7, .mob 8, .mob 9, .mob 10, .imm 11 []] [3, 7, 9]) .skip)) (.region [zz8 167 20, zx0 168 .add 167 1 [0], zzx 20 168 [1,0,1]]))))) (.region [zz8 126 21, zx0 127 .add 126 1 [0], zzx 21 127 [1,0,1]])))))) (.region [zz8 169 19, zzx 15 169 [0,0]])))))) (.region [zz8 108 17, zx0 109 .add 108 1 [0], zzx 17 109 [1,0,1]])))))) (.seq (.region [qq 170 (.load true 35 (.t 16)) [16], zz8 171 15, zx7 35 6 170 [0, 0], zzx 7 171 [1,2,0,1,2], qr 8 (.move ci) [3,0,1,2,3] [] .quiet]) .ret))))))))), 172, [.cell 6 true 35, .tmp 7, .tmp 8]⟩
theorem e28 : zxf Try.prog 28 = some a28 := by kernel_rfl
def a59 : zzq := ⟨(.seq (.region [qq 4 (.move zzh) []]) (.seq (.seq (.region [qq 5 (.move ci) []]) (.block 0 (.loop (.seq (.seq (.region [zz8 6 5, zz8 7 0, zwu 8 7 [1], zyu 9 .lss 6 8 [0,2]]) (.cond (.t 9) .skip (.exit 0))) (.seq (.block 1 (.seq (.region [zz8 12 0, zz8 13 5, zyb 14 1 12 13 [0,1], zzg 15 14 [2], zz8 16 1, zyu 17 .eql 15 16 [3,4]]) (.cond (.t 17) (.seq (.region [qq 4 (.move zwp) []]) .ret) .skip))) (.region [zz8 10 5, zx0 11 .add 10 1 [0], zzx 5 11 [1,0,1]])))))) (.seq (.region [qq 4 (.move zzh) []]) .ret))), 18, [.tmp 4]⟩
theorem e59 : zxf Try.prog 59 = some a59 := by kernel_rfl
def a60 : zzq := ⟨(.seq (.region [qr 3 (.box (.t 1)) [] [1] .makes, qq 4 (.move (.c ns)) []]) (.seq (.region [qq 5 (.move (.c ns)) []]) (.seq (.seq (.region [zw5 7 6 3, zzg 8 7 [0], zx0 9 .add 8 1 [1], zzx 6 9 [2,0,1,2]]) (.block 0 (.loop (.seq (.seq (.region [zz8 10 6, zz8 11 0, zwu 12 11 [1], zyu 13 .lss 10 12 [0,2]]) (.cond (.t 13) .skip (.exit 0))) (.seq (.block 1 (.seq (.seq (.draw [zz8 16 0, zz8 17 6, zyb 18 41 16 17 [0,1], zyk 19 0 18 [2], zzg 20 19 [3], zx0 21 .eql 20 2 [4], zzx 22 21 [5], zya 23 0 22 true [6], zya 24 6 22 true [6], zbf 25 41 23 24 22 true [7, 8, 6], zw8 26 2 25 22 true [9, 6], zxn 27 26 22 true [10, 6], zw8 28 0 3 22 true [6], zxn 29 28 22 true [12, 6], ⟨(some 30), (.bin .eql (.t 27) (.t 29)), (some (22, true)), [11, 13, 6], [27, 29], .quiet⟩, zk4 31 22 30 [6,14]] [.mob 0, .mob 1, .mob 2, .mob 3, .mob 4, .mob 5, .mob 6, .mob 7, .mob 8, .mob 9, .mob 10, .mob 11, .mob 12, .mob 13, .mob 14, .mob 15] [4, 11, 13]) (.cond (.t 31) (.exit 0) .skip)) (.seq (.draw [zz8 32 0, zz8 33 6, zyb 34 41 32 33 [0,1], zyk 35 0 34 [2], zzg 36 35 [3], zx0 37 .eql 36 5 [4], zzx 38 37 [5], zya 39 0 38 false [6], zya 40 6 38 false [6], zbf 41 41 39 40 38 false [7, 8, 6], zw8 42 0 41 38 false [9, 6], zxn 43 42 38 false [10, 6], ⟨(some 44), (.bin .eql (.t 43) (.c (ki 6))), (some (38, false)), [11, 6], [43], .quiet⟩, zkn 45 38 44 [6,12], zzx 46 45 [13,6], zya 47 0 46 true [14], zya 48 6 46 true [14], zbf 49 41 47 48 46 true [15, 16, 14], zw8 50 2 49 46 true [17, 14], zxn 51 50 46 true [18, 14], zw8 52 0 3 46 true [14], zxn 53 52 46 true [20, 14], ⟨(some 54), (.bin .eql (.t 51) (.t 53)), (some (46, true)), [19, 21, 14], [51, 53], .quiet⟩, zk4 55 46 54 [14,22]] [.mob 0, .mob 1, .mob 2, .mob 3, .mob 4, .mob 5, .mob 6, .mob 7, .mob 8, .mob 9, .mob 10, .mob 11, .mob 12, .mob 13, .mob 14, .mob 15, .mob 16, .mob 17, .mob 18, .mob 19, .mob 20, .mob 21, .mob 22, .mob 23] [4, 11, 19, 21]) (.cond (.t 55) (.region [zz8 56 5, zz8 57 6, qr 58 (.buildSlice 1 1 [zi] [(0, 1, (.t 57))]) [1] [57] .makes, zjm 59 1 8 56 58 [0,2], zzx 5 59 [3,3,0,1,2,3]]) .skip)))) (.region [zz8 14 6, zx0 15 .add 14 1 [0], zzx 6 15 [1,0,1]])))))) (.seq (.region [zz8 60 5, zzx 4 60 [0,0]]) .ret)))), 61, [.tmp 4]⟩
theorem e60 : zxf Try.prog 60 = some a60 := by kernel_rfl
end
end Go.Proofs.Ythbjfkkjmecaaaa
