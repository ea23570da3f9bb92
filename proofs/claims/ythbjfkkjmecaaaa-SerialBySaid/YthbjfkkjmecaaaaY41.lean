/- Walks: two. -/
import Derived.Test.YthbjfkkjmecaaaaY40
import Derived.Test.YthbjfkkjmecaaaaY36
import Derived.Test.YthbjfkkjmecaaaaY39
set_option linter.unusedVariables false
set_option linter.unusedSimpArgs false
namespace Go.Proofs.Ythbjfkkjmecaaaa
open Go Go.Vm
section
variable {kn : zy0} {env : Nat → Option zzq}
variable {H H' H1 : zz6}
abbrev zop : List AVal := [zi, ns, zi, zb, zb, zb, zb, zb, zb, zb, zb, zb, zb, zb, zb, zb, zb, zb, zb, zb, zb, zb, zb, zb, zb, zb, zb, zb, zb, zb, zb, zb, zb, zb, zb]
abbrev yw4 : List AVal := [zb, zb, zb, zb, zb, zb, zb, zb, zb, zb, zb, zb, zb, zb, zb, zb, zb, zb, zb, zb, zb, zb, zb, zb, zb, zb, zb, zb, zb, zb, zb, zb]
theorem yjl {ra rb z : List AVal} (h1 : ra.length = 35) (h2 : rb.length = 35) (hz : z.length = 70) : zzm z [(0, 35, .agg ra), (35, 35, .agg rb)] = some (ra ++ rb) := by
 have s1 : spl z 0 ra = ra ++ z.drop 35 := by simp [-getElem?_pos, spl, h1]
 have s2 : spl (ra ++ z.drop 35) 35 rb = ra ++ rb := by
  simp only [spl, h2]
  rw [List.take_left' h1, List.drop_of_length_le (by simp [-getElem?_pos, h1, hz]), List.append_nil]
 simp only [zzm, zhv, h1, h2, s1, s2, hz, List.length_append, List.length_drop]
 simp [-getElem?_pos]
theorem zak {K : zz6} : ∃ K4 K5, ((K.push (.row [some (0, yw4)])).push (.row [some (0, yw4)])).write K.next 0 0 (zvh 1) = some K4 ∧ K4.write (K.next + 1) 0 0 (zvh 2) = some K5 ∧ Grow K K5 ∧ K.next + 2 ≤ K5.next ∧ K5.rowAt K.next 0 = some (zvh 1) ∧ K5.rowAt (K.next + 1) 0 = some (zvh 2) := by
 obtain ⟨K3, hK3⟩ : ∃ K3, K3 = (K.push (.row [some (0, yw4)])).push (.row [some (0, yw4)]) := ⟨_, rfl⟩
 have a0 : Cells K3 K.next yw4 := by rw [hK3]; show zz6.get _ _ = _; simp (disch := omega) [-getElem?_pos]
 have b0 : Cells K3 (K.next + 1) yw4 := by rw [hK3]; show zz6.get _ _ = _; simp (disch := omega) [-getElem?_pos]
 have n3 : K3.next = K.next + 2 := by rw [hK3]; simp [-getElem?_pos]
 have o3 : ∀ A, A < K.next → K3.get A = K.get A := fun A hA => by rw [hK3, zz6.zz9 _ _ (by simp; omega), zz6.zz9 _ _ (by omega)]
 have w4 := Cells.write a0 (off := 0) (vs := zvh 1) (by simp) (by simp) (zvb 1).one
 obtain ⟨K4, hK4⟩ : ∃ K4, K4 = K3.set K.next (.row [some (0, zvh 1)]) := ⟨_, rfl⟩
 rw [show spl yw4 0 (zvh 1) = zvh 1 from rfl, ← hK4] at w4
 have ne : K.next ≠ K.next + 1 := by omega
 have b4 : Cells K4 (K.next + 1) yw4 := by unfold Cells; rw [hK4, zz6.zzz _ _ ne.symm]; exact b0
 have w5 := Cells.write b4 (off := 0) (vs := zvh 2) (by simp) (by simp) (zvb 2).one
 obtain ⟨K5, hK5⟩ : ∃ K5, K5 = K4.set (K.next + 1) (.row [some (0, zvh 2)]) := ⟨_, rfl⟩
 rw [show spl yw4 0 (zvh 2) = zvh 2 from rfl, ← hK5] at w5
 have n5 : K5.next = K.next + 2 := by rw [hK5, hK4]; exact n3
 refine ⟨K4, K5, by rw [← hK3]; exact w4, w5, ⟨by omega, fun A hA => by rw [hK5, zz6.zzz _ _ (by omega), hK4, zz6.zzz _ _ (by omega), o3 A hA]⟩, by omega, ?_, ?_⟩
 ·rw [zzk, hK5, zz6.zzz _ _ ne, hK4, zz6.zzy]; rfl
 ·rw [zzk, hK5, zz6.zzy]; rfl
theorem zr7 {v : AVal} {H : zz6} {R ver a b c e : Nat} {x : Bool} (hv : v = .slice R ver a b c x e) (h : R < H.next) : v.lies (· < H.next) := fun R' ver' off len kc ex esz q => by rw [hv] at q; cases q; exact h
set_option maxHeartbeats 4000000 in
theorem c24 (E : TwE kn env) (n : Nat) (hn : 10 < n) : ∃ v H', zzp kn env (n + 3) (.func (.func 24) []) [.agg (zvh 1)] H = some (v, H') ∧ (Grow H H' ∧ ∃ rcs, zzw H' H.next 41 v rcs ∧ rcs.length ≤ 20 ∧ ∀ rc ∈ rcs, zvt H' (· < H'.next) rc) := by
 obtain ⟨H1, hH1⟩ : ∃ H1, H1 = H.push (.row [some (0, zvh 1)]) := ⟨_, rfl⟩
 have hn1 : H1.next = H.next + 1 := by rw [hH1]; simp [-getElem?_pos]
 have hg1 : Grow H H1 := by rw [hH1]; exact Grow.push _ _
 have x1 : H1.rowAt H.next 0 = some (zvh 1) := by rw [hH1]; simp [-getElem?_pos]
 obtain ⟨K4, H2, w4, w5, hg2, hn2, y1, y2⟩ := zak (K := H1)
 have x2 : H2.rowAt H.next 0 = some (zvh 1) := by rw [hg2.rowAt (by omega)]; exact x1
 have lv : (zvh 1).length = 32 := rfl
 have tv1 : (zvh 1).take 32 = zvh 1 := rfl
 have tv2 : (zvh 2).take 32 = zvh 2 := rfl
 have hlo : (opc 3 0 (zvh 1)).length = 35 := rfl
 obtain ⟨H3, hH3⟩ : ∃ H3, H3 = H2.push (.row [some (0, [vi 0])]) := ⟨_, rfl⟩
 have hg3 : Grow H2 H3 := by rw [hH3]; exact Grow.push _ _
 have hn3 : H3.next = H2.next + 1 := by rw [hH3]; simp [-getElem?_pos]
 have s3 : H3.rowAt H2.next 0 = some [vi 0] := by rw [hH3]; simp [-getElem?_pos]
 have y3 : H3.rowAt H1.next 0 = some (zvh 1) := by rw [hg3.rowAt (by omega)]; exact y1
 obtain ⟨_, H4, h37, rfl, hg4⟩ := c37 (H := H3) (b := 0) E.f37 (n + 1) (zvb 1)
 obtain ⟨H5, hH5⟩ : ∃ H5, H5 = H4.push (.row [some (0, opc 3 0 (zvh 1))]) := ⟨_, rfl⟩
 have hg5 : Grow H4 H5 := by rw [hH5]; exact Grow.push _ _
 have hn5 : H5.next = H4.next + 1 := by rw [hH5]; simp [-getElem?_pos]
 have s5 : H5.rowAt H4.next 0 = some (opc 3 0 (zvh 1)) := by rw [hH5]; simp [-getElem?_pos]
 have hg35 := hg4.trans hg5
 have n4 := hg4.next
 obtain ⟨v6, H6, h36, hg6, rcs, hs6, hp6, hl6, hr6⟩ := c36 (pr := (· < H5.next)) (H := H5) (c := 0) (t := 1) (p := 1) (sv := .slice H2.next 0 0 1 1 true 1) (ov := .slice H4.next 0 0 1 1 true 35) (l := [0]) (ops := [⟨3, 0, zvh 1⟩]) E n
  ⟨by simp [-getElem?_pos], .inr ⟨H2.next, 0, 0, 1, true, _, rfl, (by rw [hg35.rowAt (by omega)]; exact s3), by simp [-getElem?_pos], by simp [-getElem?_pos], by simp [-getElem?_pos]⟩⟩ (zr7 rfl (by omega)) (zr7 rfl (by omega)) (by simp)
  ⟨by simp [-getElem?_pos], .inr ⟨H4.next, 0, 0, 1, true, _, rfl, s5, by simp [-getElem?_pos], by simp [-getElem?_pos], by simp [-getElem?_pos]⟩⟩ (zr7 rfl (by omega)) (fun o ho => by simp [-getElem?_pos] at ho; subst ho; exact zvb 1) (by simp) (by simp; omega)
 have n6 := hg6.next
 have hg26 := hg3.trans (hg35.trans hg6)
 have x6 : H6.rowAt H.next 0 = some (zvh 1) := by rw [hg26.rowAt (by omega)]; exact x2
 have y6 : H6.rowAt (H1.next + 1) 0 = some (zvh 2) := by rw [hg26.rowAt (by omega)]; exact y2
 obtain ⟨_, H7, h38, rfl, hg7⟩ := c38 (H := H6) (b := 0) E.f38 (n + 1) (zvb 1)
 have y7 : H7.rowAt (H1.next + 1) 0 = some (zvh 2) := by rw [hg7.rowAt (by omega)]; exact y6
 obtain ⟨_, H8, h37b, rfl, hg8⟩ := c37 (H := H7) (b := 1) E.f37 (n + 1) (zvb 2)
 have n7 := hg7.next
 have n8 := hg8.next
 obtain ⟨op2, hop2⟩ : ∃ l, l = opc 2 0 (zvh 1) ++ opc 3 1 (zvh 2) := ⟨_, rfl⟩
 obtain ⟨H9, hH9⟩ : ∃ H9, H9 = (H8.push (.row [some (0, [vi 0, vi 1])])).push (.row [some (0, op2)]) := ⟨_, rfl⟩
 have hg9 : Grow H8 H9 := by rw [hH9]; exact (Grow.push _ _).trans (Grow.push _ _)
 have hn9 : H9.next = H8.next + 2 := by rw [hH9]; simp [-getElem?_pos]
 have s9 : H9.rowAt H8.next 0 = some [vi 0, vi 1] := by rw [hH9]; simp (disch := omega) [-getElem?_pos]
 have t9 : H9.rowAt (H8.next + 1) 0 = some op2 := by rw [hH9]; simp (disch := omega) [-getElem?_pos]
 obtain ⟨v10, H10, h36b, hg10, rcs2, hs10, hp10, hl10, hr10⟩ := c36 (pr := fun A => H6.next ≤ A ∧ A < H9.next) (H := H9) (c := 1) (t := 2) (p := 3) (sv := .slice H8.next 0 0 2 2 true 1) (ov := .slice (H8.next + 1) 0 0 2 2 true 35) (l := [0, 1]) (ops := [⟨2, 0, zvh 1⟩, ⟨3, 1, zvh 2⟩]) E n
  ⟨by simp [-getElem?_pos], .inr ⟨H8.next, 0, 0, 2, true, _, rfl, s9, by simp [-getElem?_pos], by simp [-getElem?_pos], by simp [-getElem?_pos]⟩⟩ (fun R ver off len kc ex esz e => by cases e; omega) (zr7 rfl (by omega)) (by simp)
  ⟨by simp [-getElem?_pos], .inr ⟨H8.next + 1, 0, 0, 2, true, _, rfl, t9, by simp [-getElem?_pos], by rw [hop2]; simp [-getElem?_pos], by rw [hop2]; simp [-getElem?_pos]⟩⟩ (zr7 rfl (by omega)) (fun o ho => by
   simp [-getElem?_pos] at ho
   rcases ho with rfl | rfl
   ·exact zvb 1
   ·exact zvb 2) (by simp) (by simp; omega)
 have hg610 := hg7.trans (hg8.trans (hg9.trans hg10))
 have hs6' : zzw H10 H5.next 41 v6 rcs := hs6.move (Nat.le_refl _) hg610.next fun A _ hA => hg610.get A hA
 simp only [List.length_cons, List.length_nil] at hl6 hl10
 have r10 : ∀ rc ∈ rcs2, rc.all AVal.one = true := fun rc hrc => (hr10 rc hrc).len41.2
 obtain ⟨v11, H11, ha, hs11, hn11, hk11, ho11⟩ := GrE.app2 (.inr hs6') (bytes := 120) (by have := hg610.next; omega) hs10.rd (by omega) (by omega) r10 (by omega)
 have hgA : Grow H H10 := hg1.trans (hg2.trans (hg26.trans hg610))
 have hf2 := yjl (ra := opc 2 0 (zvh 1)) (rb := opc 3 1 (zvh 2)) (z := zx1 2 zop) rfl rfl rfl
 have n10 := hg10.next
 refine Wp.call 22 [0, 1, 2, 3, 4, 5] E.f24.e (E.f24.no _ H) (n := n + 2) rfl (by simp) ?_
 repeat (first | apply Wp.za | apply Wp.zb)
 (repeat (first | apply Wp.za | apply Wp.zb)); (apply Wp.zh; (repeat (apply Ex.zc; (simp (disch := omega) [-getElem?_pos]; rfl))); exact Ex.zn; rfl; (simp; rfl))
 rw [← hH1]
 (repeat (first | apply Wp.za | apply Wp.zb)); (apply Wp.zh; (repeat (apply Ex.zc; (simp (disch := omega) [-getElem?_pos, w4, w5, zzm, zx1]; rfl))); exact Ex.zn; rfl; (simp; rfl))
 have z1 : H1.next ≠ H2.next := by omega
 have z2 : H.next ≠ H2.next := by omega
 rw [hH3] at h37
 rw [hH5] at h36
 rw [hH9] at h36b
 rw [← hop2] at hf2
 have b1 : AVal.beqs (zvh 1) (zvh 1) = true := zyq (zvb 1).bytes
 have b2 : AVal.beqs (zvh 2) (zvh 2) = true := zyq (zvb 2).bytes
 have hb6 := hs6.beq
 have g3 : zzm (zx1 2 [zi]) [(0, 1, zi), (1, 1, vi 1)] = some [vi 0, vi 1] := rfl
 repeat (first | apply Wp.za | apply Wp.zb | apply Wp.zc | apply Wp.zd | apply Wp.ze | apply Wp.zf rfl | apply Wp.zg rfl | ((apply Wp.zh; (repeat (apply Ex.zc; (simp (disch := omega) [-getElem?_pos, y1, tv1, lv, h37, h36, zzm, zx1]; rfl))); exact Ex.zn; rfl; (simp; rfl))))
 have x7 : H7.rowAt H.next 0 = some (zvh 1) := by rw [hg7.rowAt (by omega)]; exact x6
 (repeat (first | apply Wp.za | apply Wp.zb)); (apply Wp.zi; (repeat ((first | apply Dr.q rfl rfl | apply Dr.r rfl rfl | apply Dr.imm rfl); (simp (disch := omega) [-getElem?_pos, x6, x7, tv1, lv, y6, h38, y7, tv2, h37b, hf2, g3, h36b, ha, b1, b2, hb6]; rfl); (focus first | (simp; rfl) | (simp; done) | (simp; omega)))); exact Dr.nil; rfl; (first | (focus (simp (disch := omega) [-getElem?_pos, x6, x7, tv1, lv, y6, h38, y7, tv2, h37b, hf2, g3, h36b, ha, b1, b2, hb6]; done)) | rfl); (simp; rfl))
 repeat (first | apply Wp.za | apply Wp.zb | apply Wp.zc | apply Wp.zd | apply Wp.ze | apply Wp.zf rfl | apply Wp.zg rfl | ((apply Wp.zh; (repeat (apply Ex.zc; (simp (disch := omega) [-getElem?_pos]; rfl))); exact Ex.zn; rfl; (simp; rfl))))
 simp [-getElem?_pos, a24]
 refine ⟨⟨by have := hgA.next; omega, fun A hA => by rw [hk11 A (by have := hg1.next; have := hg2.next; have := hg3.next; omega), hgA.get A hA]⟩, rcs ++ rcs2, ?_, by simp; omega, fun rc hrc => ?_⟩
 ·have h5 : H.next ≤ H5.next := by have := hg1.next; have := hg2.next; have := hg3.next; omega
  rcases hs11 with ⟨q1, X, q2, q3, q4, q5⟩ | hs11
  ·exact absurd q1 (by intro e; rw [List.append_eq_nil_iff] at e; rw [e.1] at hp6; simp [-getElem?_pos] at hp6)
  ·exact hs11.move h5 (Nat.le_refl _) fun _ _ _ => rfl
 ·rcases List.mem_append.1 hrc with hrc | hrc
  ·exact (hr6 rc hrc).move (fun A hA => by rw [hk11 A hA, hg610.get A (by omega), hg6.get A hA]) (fun A hA => by have := hg610.next; omega)
  ·exact (hr10 rc hrc).move (fun A hA => by rw [ho11 A (by omega) (fun R ver off len kc ex esz e => by have := hs6.lies _ _ _ _ _ _ _ e; omega), hg10.get A hA.2]) (fun A hA => by omega)
end
section
variable {kn : zy0} {env : Nat → Option zzq}
variable {H H0 H' H1 : zz6} {N : Nat} {v a w : AVal} {avs : List AVal} {lcs : List (List (List AVal))} {l : List (List AVal)} {own : Nat → Nat} {t : Except Int (zyw × zkc)} {rows : List RowD} {m : Int} {order q : List Int}
structure zvu (H : zz6) (N : Nat) (v : AVal) (avs : List AVal) (lcs : List (List (List AVal))) (own : Nat → Nat) : Prop where
 len : lcs.length = avs.length
 rd : zzw H N 1 v (avs.map fun a => [a])
 lies : v.lies fun R => own R = 0
 at_ : ∀ (j : Nat) (a : AVal) (l : List (List AVal)), avs[j]? = some a → lcs[j]? = some l → zzw H N 32 a l ∧ a.lies fun R => own R = j + 2
theorem zvu.nil (H : zz6) (N : Nat) (own : Nat → Nat) : zvu H N zxa [] [] own := ⟨rfl, zzw.nil _ _ _, (fun R _ _ _ _ _ _ e => by cases e), fun j a l h => by simp [-getElem?_pos] at h⟩
theorem zvu.move (h : zvu H N v avs lcs own) (hn : H.next ≤ H'.next) (hg : ∀ A, N ≤ A → A < H.next → H'.get A = H.get A) : zvu H' N v avs lcs own :=
 ⟨h.len, h.rd.move (Nat.le_refl _) hn hg, h.lies, fun j a l h1 h2 => ⟨(h.at_ j a l h1 h2).1.move (Nat.le_refl _) hn hg, (h.at_ j a l h1 h2).2⟩⟩
theorem zvu.push (h : zvu H0 N v avs lcs own) (hN : N ≤ H0.next) (hg : Grow H0 H) (hs : zzw H H0.next 32 a l) (hl : avs.length < 1000) :
  ∃ v' H' own', zzf (H.push (.row [some (0, [a])])) 1 24 v (.slice H.next 0 0 1 1 true 1) = some (v', H') ∧ zvu H' N v' (avs ++ [a]) (lcs ++ [l]) own' ∧ H.next + 1 ≤ H'.next ∧ ∀ A, A < N → H'.get A = H.get A := by
 have h1 := h.move hg.next fun A _ hA => hg.get A hA
 have hgn := hg.next
 obtain ⟨v', H', e1, e2, e3, e4, e5, e6⟩ := (h1.rd.move (Nat.le_refl _) (Nat.le_succ _) (H' := H.push (.row [some (0, [a])])) fun A _ hA => zz6.zz9 _ _ (by omega)).append (bytes := 24) (by simp; omega) (X := H.next) (e := [a]) (by simp) rfl (by omega) (by omega) (by simp [-getElem?_pos, hs.rd.one]) (by simp; omega) (ex := true) (kc := 1)
 simp only [zz6.zyc] at e3 e5 e6
 have vl : v.lies fun R => R < H0.next ∧ own R = 0 := fun R _ _ _ _ _ _ e => ⟨(h.rd.lies _ _ _ _ _ _ _ e).2, h.lies _ _ _ _ _ _ _ e⟩
 obtain ⟨own', o1, o2, o3⟩ : ∃ own' : Nat → Nat, (∀ A, A < H0.next → own' A = own A) ∧ (∀ A, H0.next ≤ A → A < H.next → own' A = avs.length + 2) ∧ ∀ A, H.next ≤ A → own' A = 0 :=
  ⟨fun A => if A < H0.next then own A else if A < H.next then avs.length + 2 else 0, fun A h => if_pos h, fun A h1 h2 => by simp only; rw [if_neg (by omega), if_pos h2], fun A h => by simp only; rw [if_neg (by omega), if_neg (by omega)]⟩
 have stay : ∀ (u : AVal) (ls : List (List AVal)) (b c : Nat), zzw H b 32 u ls → (u.lies fun R => own' R = c) → c ≠ 0 → zzw H' b 32 u ls := fun u ls b c hu hc h0 => by
  rcases hu with ⟨z0, ⟨z1, z2⟩ | ⟨R, ver, vs, z1, z2, z3, z4, z5⟩⟩
  ·exact ⟨z0, .inl ⟨z1, z2⟩⟩
  ·refine ⟨z0, .inr ⟨R, ver, vs, z1, by omega, z3, ?_, z5⟩⟩
   have hcR : own' R = c := hc _ _ _ _ _ _ _ z3
   rw [e5 R (by omega) (fun R' _ _ _ _ _ _ e he => by
    obtain ⟨y1, y2⟩ := vl _ _ _ _ _ _ _ e
    rw [he] at y1 y2
    rw [o1 R y1] at hcR; omega), zz6.zz9 _ _ (by omega)]
   exact z4
 refine ⟨v', H', own', e1, ⟨by simp [-getElem?_pos, h.len], by simpa [-getElem?_pos] using e2, e6 _ (fun R _ _ _ _ _ _ e => ?_) (fun R hR => o3 R (by omega)), fun j b lb h2 h3 => ?_⟩, by omega, fun A hA => by rw [e4 A hA, zz6.zz9 _ _ (by omega)]⟩
 ·obtain ⟨y1, y2⟩ := vl _ _ _ _ _ _ _ e
  show own' R = 0
  rw [o1 R y1]; exact y2
 ·have hll := h.len
  rcases Nat.lt_or_ge j avs.length with hj | hj
  ·rw [List.getElem?_append_left hj] at h2
   rw [List.getElem?_append_left (by omega)] at h3
   obtain ⟨y1, y2⟩ := h1.at_ j b lb h2 h3
   have y0 := (h.at_ j b lb h2 h3).1
   have y3 : b.lies fun R => own' R = j + 2 := fun R _ _ _ _ _ _ e => by
    show own' R = _
    rw [o1 R (y0.lies _ _ _ _ _ _ _ e).2]; exact y2 _ _ _ _ _ _ _ e
   exact ⟨stay b lb N (j + 2) y1 y3 (by omega), y3⟩
  ·have hj2 := (List.getElem?_eq_some_iff.1 h2).1
   simp [-getElem?_pos] at hj2
   have : j = avs.length := by omega
   subst this
   rw [List.getElem?_concat_length] at h2
   rw [← hll, List.getElem?_concat_length] at h3
   cases h2; cases h3
   have y3 : a.lies fun R => own' R = avs.length + 2 := fun R _ _ _ _ _ _ e => by
    obtain ⟨y1, y2⟩ := hs.lies _ _ _ _ _ _ _ e
    exact o2 R y1 y2
   exact ⟨(stay a l H0.next (avs.length + 2) hs y3 (by omega)).move hN (Nat.le_refl _) fun _ _ _ => rfl, y3⟩
theorem zvu.marked (h : zvu H N v avs lcs own) : zwf H own v zxa avs (fun j => lcs.getD j []) [] (fun _ => []) where
 rdl := h.rd.rd
 liesl := fun R _ _ _ _ _ _ e => ⟨(h.rd.lies _ _ _ _ _ _ _ e).2, h.lies _ _ _ _ _ _ _ e⟩
 at_ := fun j a ha => by
  have hj := (List.getElem?_eq_some_iff.1 ha).1
  have hl := h.len
  have hlj : lcs[j]? = some lcs[j] := List.getElem?_eq_getElem (by omega)
  obtain ⟨h1, h2⟩ := h.at_ j a _ ha hlj
  have : lcs.getD j [] = lcs[j] := by rw [List.getD_eq_getElem?_getD, hlj]; rfl
  rw [this]
  exact ⟨h1.move (Nat.zero_le _) (Nat.le_refl _) fun _ _ _ => rfl, h2⟩
 rdL := zzw.nil _ _ _
 liesL := fun R _ _ _ _ _ _ e => by cases e
 atL := fun q w h => by simp [-getElem?_pos] at h
def jM (t : Except Int (zyw × zkc)) : zkc := match t with
 | .ok (_, mm) => mm
 | .error _ => []
theorem zl3.any (h : zl3 H N t v) : ∃ mv, v = .tuple [.agg (jF t).cells, mv, vi (jC t)] ∧ zzw H N 32 mv (jM t) ∧ zyr (jF t).want ∧ ∀ e ∈ jM t, zyr e := by
 cases t with
 | error c => exact ⟨zxa, h, zzw.nil _ _ _, zxp, fun e he => by simp [-getElem?_pos, jM] at he⟩
 | ok p => obtain ⟨f, mm⟩ := p; obtain ⟨mv, h1, h2, h3, h4⟩ := h; exact ⟨mv, h1, h2, h3, h4⟩
theorem yxx.any (h : yxx H N t v) : ∃ mv, v = .tuple [.agg (jF t).cells, mv, vi (jC t)] ∧ RdE H 32 mv (jM t) ∧ (mv.lies fun R => N ≤ R ∧ R < H.next) ∧ zyr (jF t).want ∧ ∀ e ∈ jM t, zyr e := by
 cases t with
 | error c => exact ⟨zxa, h, ⟨fun e he => by simp [-getElem?_pos, jM] at he, .inl ⟨rfl, rfl⟩⟩, (fun R _ _ _ _ _ _ e => by cases e), zxp, fun e he => by simp [-getElem?_pos, jM] at he⟩
 | ok p => obtain ⟨f, mm⟩ := p; obtain ⟨mv, h1, h2, h3, h4, h5⟩ := h; exact ⟨mv, h1, h2, h3, h4, h5⟩
theorem zgs : (jM (byD rows m order)).length ≤ 64 := by
 unfold byD
 split
 ·simp [-getElem?_pos, jM]
 ·rename_i hm
  split
  ·simp [-getElem?_pos, jM]
  ·split
   ·simp only [jM, List.length_take]; omega
   ·simp [-getElem?_pos, jM]
theorem zyt.put {l : List Int} (h : zyt H N v l) {k : Nat} (hk : k < l.length) (z : Int) : ∃ R ver H', v = .slice R ver 0 l.length (l.length + 2) false 1 ∧ N ≤ R ∧ R < H.next ∧ H.write R ver k [vi z] = some H' ∧ zyt H' N v (l.set k z) ∧ H'.next = H.next ∧ ∀ A, A ≠ R → H'.get A = H.get A := by
 obtain ⟨R, ver, vs, h1, h2, h3, h4, h5⟩ := h
 obtain ⟨H', hw, hr⟩ := RowW.write (H0 := H) (nv := vs.length) ⟨⟨vs, h4, rfl, h5⟩, rfl, fun _ _ => rfl⟩ (off := k) (vals := [vi z]) (by simp) (by simp; omega) rfl
 obtain ⟨vs', q1, q2, q3⟩ := hr.row
 have hl : k < (l.map vi ++ marks).length := by simp; omega
 refine ⟨R, ver, H', h3, h1, h2, hw, ⟨R, ver, vs', h1, by rw [hr.next]; exact h2, by rw [List.length_set]; exact h3, q1, ?_⟩, hr.next, hr.other⟩
 rw [q3]
 congr 3
 rw [show (l.map vi ++ marks).take k ++ ([vi z] ++ (l.map vi ++ marks).drop (k + [vi z].length)) = (l.map vi ++ marks).set k (vi z) from zn9 hl, List.set_append_left _ _ (by simpa [-getElem?_pos] using hk), ← List.map_set]
theorem c32r {l : List Int} (E : OwnE kn env) (n : Nat) (hv : RdE H 1 v (ints l)) (hl : v.lies (· < H.next)) (hlen : (l.length + 2) * 8 ≤ 140737488355328) :
  ∃ v' H', zzp kn env (n + 1) (.func (.func 32) []) [v] H = some (v', H') ∧ Grow H H' ∧ RdE H' 1 v' (ints l) ∧ v'.lies (· < H'.next) := by
 obtain ⟨v', H', h1, hg, h2⟩ := c32 E n hv hl hlen
 refine ⟨v', H', h1, hg, ?_⟩
 rcases h2 with ⟨rfl, rfl, rfl⟩ | ⟨hne, rfl, rfl⟩
 ·exact ⟨⟨by simp [-getElem?_pos], .inr ⟨H.next, 0, 0, 0, true, [], rfl, by simp [-getElem?_pos], by simp [-getElem?_pos], by simp [-getElem?_pos], by simp [-getElem?_pos]⟩⟩, fun R ver off len kc ex esz e => by cases e; simp [-getElem?_pos]⟩
 ·refine ⟨⟨fun e he => by obtain ⟨z, _, rfl⟩ := List.mem_map.1 he; rfl, .inr ⟨H.next + 1, 0, 0, l.length, false, l.map vi, by simp [-getElem?_pos], by simp [-getElem?_pos], by simp [-getElem?_pos], by simp [-getElem?_pos], ?_⟩⟩, fun R ver off len kc ex esz e => by cases e; simp [-getElem?_pos]⟩
  rw [zsl, List.drop_zero, List.take_of_length_le (by simp)]
end
section
variable {kn : zy0} {env : Nat → Option zzq}
variable {H H' H0 H1 H2 : zz6} {N A : Nat} {v v0 ov : AVal} {rows : List RowD} {m : Int} {order : List Int}
structure LwE (kn : zy0) (env : Nat → Option zzq) : Prop where
 by_ : ByE kn env
 own : OwnE kn env
 rb : RbE kn env
 hd : HdE kn env
 tw : TwE kn env
 f27 : Fn kn env 27 a27
 f21 : Fn kn env 21 a21
 f22 : Fn kn env 22 a22
 f11 : Fn kn env 11 a11
 f4 : Fn kn env 4 a4
abbrev lw6 : zym := zj9 (zj9 (zj9 (zj9 a4.code)))
abbrev C4 : List Nat := [0, 1, 2, 6, 7, 8, 9, 10, 11, 12, 13, 14, 15, 16, 17, 18, 19, 20, 24, 27, 43, 80, 86, 103]
set_option maxHeartbeats 16000000 in
theorem c4 (E : LwE kn env) (n : Nat) (hins : ∀ n, yyb (zzp kn env (n + 1))) (h12 : ∀ H, zzp kn env (n + 9) (.func (.func 12) []) [] H = some (zzt true, H)) (hrows : zwz H H.next v0 rows) (hset : ∀ r ∈ rows, (r.set.length + 2) * 8 ≤ 140737488355328) (ho : RdE H 1 ov (ints order)) (hol : ov.lies (· < H.next)) (hn : 200000 < n) (hsn : ∀ r ∈ rows, r.set.length < n) :
  ∃ v H', zzp kn env (n + 10) (.func (.func 4) []) [v0, vi m, ov] H = some (v, H') ∧ v = zzt true := by
 obtain ⟨rcs, hrd, hlies, hrlen, hat⟩ := hrows
 obtain ⟨v1, h11, hrd1, hl1⟩ := c11 E.f11 (n + 8) hrd
 have hl1 := hl1 _ hlies
 obtain ⟨rws, hrws⟩ : ∃ rws, rws = rows.take 400 := ⟨_, rfl⟩
 have hrl : rws.length ≤ 400 := by rw [hrws, List.length_take]; omega
 have hsetw : ∀ r ∈ rws, (r.set.length + 2) * 8 ≤ 140737488355328 := fun r hr => by rw [hrws] at hr; exact hset r (List.mem_of_mem_take hr)
 have hsnw : ∀ r ∈ rws, r.set.length < n := fun r hr => by rw [hrws] at hr; exact hsn r (List.mem_of_mem_take hr)
 have hrows1 : zwz H H.next v1 rws := ⟨rcs.take 400, hrd1, hl1, by rw [hrws, List.length_take, List.length_take, hrlen], fun k rc r a b => by
  have ha : rcs[k]? = some rc := by rw [List.getElem?_take] at a; split at a; exact a; cases a
  have hb : rows[k]? = some r := by rw [hrws, List.getElem?_take] at b; split at b; exact b; cases b
  exact hat k rc r ha hb⟩
 clear hrd hlies hat hrlen hrd1 hl1 hset hrws hsn
 have h12a := h12 H
 have hlo : zyy ov = some (vi order.length) := by have := ho.lenS; rwa [List.length_map] at this
 refine Wp.call (R := fun v H' => v = zzt true) 165 C4 E.f4.e (E.f4.no _ H) (n := n + 9) rfl (by simp [-List.reduceReplicate]) ?_
 have main : ∀ (ov1 : AVal) (ord : List Int), RdE H 1 ov1 (ints ord) → ov1.lies (· < H.next) → ord.length ≤ 400 → Wp (zzp kn env (n + 9)) (n + 9) 165 C4 (yxl lw6) ([(0, v1), (1, vi m), (2, ov1)], H) (QSeq (zzp kn env (n + 9)) (n + 9) 165 C4 (zj9 lw6) (EndK a4.res fun v H' => v = zzt true)) := fun ov1 ord ho1 hol1 hord => by
  obtain ⟨t28, H1, h28, hg1, hr28⟩ := c28 E.rb (n + 5) (H := H) (v0 := v1) (m := m) hrows1 ho1 hol1 (by omega) (by omega) (by omega)
  obtain ⟨wv, e28, hwr, hwl, hwv, hwe⟩ := hr28.any
  rw [e28] at h28
  have hml := zgs (rows := rws) (m := m) (order := ord)
  obtain ⟨f35, f1⟩ := zyw.full hwv
  obtain ⟨H2, hw2, hg2, hc2, hn2⟩ := zx6 H1 (z := zwj) (e := (jF (byD rws m ord)).cells) (by rw [f35]; rfl) (by omega) f1
  have hg02 := hg1.trans hg2
  obtain ⟨inv, H3, h16, hg3, R, ver, vs, rcs, hown⟩ := c16 E.own (n + 6) (H := H2) (hrows1.up hg02) hsetw (by omega) (by omega)
  have hg03 := hg02.trans hg3
  obtain ⟨byv, H4, h29, hg4, hroom⟩ := c29 E.own (n + 7) (H := H3) (v := ov1) (l := ord) (ho1.grow hg03 hol1) (fun R ver off len kc ex esz e => by have := hol1 _ _ _ _ _ _ _ e; have := hg03.next; omega) (by omega)
  have hg04 := hg03.trans hg4
  generalize ht : byD rws m ord = t at *
  have hn01 := hg1.next
  have hn23 := hg3.next
  have hn34 := hg4.next
  repeat (first | apply Wp.za | apply Wp.zb | apply Wp.zc | apply Wp.zd | apply Wp.ze | apply Wp.zf rfl | apply Wp.zg rfl | ((apply Wp.zh; (repeat (apply Ex.zc; (simp (disch := omega) [-getElem?_pos, -List.reduceReplicate, h28, f35, hw2, h16, h29]; rfl))); exact Ex.zn; rfl; (simp; rfl))))
  apply Wp.loop (α := Nat × zz6 × AVal × List AVal × List (List (List AVal)) × (Nat → Nat)) (fun y => [(0, v1), (1, vi m), (2, ov1), (7, .ptr H1.next 0 0), (8, wv), (9, vi (jC t)), (10, inv), (11, byv), (12, y.2.2.1), (13, vi y.1)]) (·.2.1)
   (fun y => y.1 ≤ 3 ∧ Grow H4 y.2.1 ∧ zvu y.2.1 H4.next y.2.2.1 y.2.2.2.1 y.2.2.2.2.1 y.2.2.2.2.2 ∧ y.2.2.2.1.length ≤ 2 * y.1 ∧ ∀ l ∈ y.2.2.2.2.1, l.length ≤ 64) (fun y => 3 - y.1)
   (0, H4, zxa, [], [], fun _ => 0) rfl ⟨by dsimp only; omega, Grow.refl _, zvu.nil _ _ _, by simp [-getElem?_pos, -List.reduceReplicate], by simp [-getElem?_pos, -List.reduceReplicate]⟩ (by dsimp only; omega) (by simp [-List.reduceReplicate])
  rintro ⟨j, H5, v12, avs, lcs, own⟩ ⟨hj, hg5, hmp, hal, hll⟩
  dsimp only at hj hg5 hmp hal hll ⊢
  (repeat (first | apply Wp.za | apply Wp.zb)); (apply Wp.zh; (repeat (apply Ex.zc; (simp (disch := omega) [-getElem?_pos, -List.reduceReplicate]; rfl))); exact Ex.zn; rfl; (simp; rfl))
  (repeat (first | apply Wp.za | apply Wp.zb)); apply Wp.ite rfl
  ·intro hj3
   apply Wp.zd
   have hg35 := hg4.trans hg5
   have hin5 := hown.move hg35
   have hby5 : zyt H5 H3.next byv ord := hroom.move hg5.next fun A _ hA => hg5.get A hA
   have hn45 := hg5.next
   obtain ⟨t30, H6, h30, hg6, hb6⟩ := c30 E.by_ (n + 2) (H := H5) (m := m) (order := ord) (ov := byv) (hins (n + 3)) hin5.rowsAt hby5.rd (fun R ver off len kc ex esz e => (hby5.lies _ _ _ _ _ _ _ e).2) (by omega) (by omega) (by omega)
   rw [ht] at hb6
   obtain ⟨mv, e30, hms, _, hme⟩ := hb6.any
   rw [e30] at h30
   obtain ⟨H7, hw7, hg7, hc7, hn7⟩ := zx6 H6 (z := zwj) (e := (jF t).cells) (by rw [f35]; rfl) (by omega) f1
   have hX7 := hc7.at
   have hg27 : Grow H2 H7 := hg3.trans (hg35.trans (hg6.trans hg7))
   have hW7 : H7.rowAt H1.next 0 = some (jF t).cells := by rw [hg27.rowAt (by omega)]; exact hc2.at
   have ft : (jF t).cells.take 35 = (jF t).cells := List.take_of_length_le (by omega)
   obtain ⟨_, H8, h21, rfl, hg8⟩ := c21 E.f21 (n + 8) (H := H7) hwv
   have hg58 := hg6.trans (hg7.trans hg8)
   have hg38 := hg35.trans hg58
   have hg08 := hg03.trans hg38
   have h22 := c22 E.f22 (n + 8) (H := H8) (hms.rd.grow (hg7.trans hg8) (fun R ver off len kc ex esz e => (hms.lies _ _ _ _ _ _ _ e).2)) (hwr.grow (hg2.trans (hg27.trans hg8)) (fun R ver off len kc ex esz e => (hwl _ _ _ _ _ _ _ e).2)) hme hme (by omega) (by omega)
   simp only [decide_true] at h22
   obtain ⟨_, H9, h23, rfl, hg9⟩ := c23 E.hd (n + 6) (H := H8) (w := v1) (hown.move hg38) (hrows1.up hg08) (by omega) (by omega) (fun r hr => by have := hsnw r hr; omega)
   have hg59 := hg58.trans hg9
   have hg09 := hg08.trans hg9
   have h31 := c31 E.hd.f31 E.hd.f20 (n + 7) (H := H9) (w := ov1) (hby5.move hg59.next fun A _ hA => hg59.get A hA) (ho1.grow hg09 hol1) (by omega) (by omega)
   obtain ⟨v12', H10, own', ha, hmp', hn10, hk10⟩ := hmp.push hn45 hg59 (hms.move (Nat.le_refl _) ((hg7.trans hg8).trans hg9).next fun A _ hA => ((hg7.trans hg8).trans hg9).get A hA) (by omega)
   have hmone := zx4 hms.rd.one
   have hg410 : Grow H4 H10 := ⟨by have := hg59.next; omega, fun A hA => by rw [hk10 A hA, hg59.get A (by omega), hg5.get A hA]⟩
   have hn56 := hg6.next
   have hn78 := hg8.next
   have hn89 := hg9.next
   have hll' : ∀ l ∈ lcs ++ [jM t], l.length ≤ 64 := fun l hl => by
    rcases List.mem_append.1 hl with hl | hl
    ·exact hll l hl
    ·simp [-getElem?_pos, -List.reduceReplicate] at hl; subst hl; exact hml
   by_cases hj1 : j = 1
   ·obtain ⟨v24, H11, h24, hg11, rcs2, hs11, hl11, hr11⟩ := c24 E.tw (n + 6) (H := H10) (by omega)
    obtain ⟨rows2, hl2, hrows2⟩ := yqq hs11 hr11
    have hgp := Grow.push H11 (.row [some (0, [vi 0])])
    obtain ⟨tb, H13, h30b, hg13, hb13⟩ := c30 E.by_ (n + 2) (H := H11.push (.row [some (0, [vi 0])])) (m := 2) (order := [0]) (ov := .slice H11.next 0 0 1 1 true 1) (hins (n + 3)) (hrows2.up hgp) ⟨by simp [-getElem?_pos, -List.reduceReplicate], .inr ⟨H11.next, 0, 0, 1, true, [vi 0], rfl, by simp [-getElem?_pos, -List.reduceReplicate], by simp [-getElem?_pos, -List.reduceReplicate], by simp [-getElem?_pos, -List.reduceReplicate], by simp [-getElem?_pos, -List.reduceReplicate]⟩⟩ (fun R ver off len kc ex esz e => by cases e; simp [-getElem?_pos, -List.reduceReplicate]) (by omega) (by simp [-List.reduceReplicate]) (by simp [-List.reduceReplicate]; omega)
    obtain ⟨mv2, e30b, hms2, _, _⟩ := hb13.any
    have hml2 := zgs (rows := rows2) (m := 2) (order := [0])
    rw [e30b] at h30b
    generalize byD rows2 2 [0] = tt at *
    have hg1013 := hg11.trans (hgp.trans hg13)
    have hn11 := hg11.next
    obtain ⟨v12b, H14, own2, hab, hmpb, hn14, hk14⟩ := hmp'.push (by omega) hg1013 (hms2.move (by simp [-List.reduceReplicate]; omega) (Nat.le_refl _) fun _ _ _ => rfl) (by simp [-List.reduceReplicate]; omega)
    have hmone2 := zx4 hms2.rd.one
    have hn13 := hg1013.next
    subst hj1
    repeat (first | apply Wp.za | apply Wp.zb | apply Wp.zc | apply Wp.zd | apply Wp.ze | apply Wp.zf rfl | apply Wp.zg rfl | ((apply Wp.zh; (repeat (apply Ex.zc; (simp (disch := omega) [-getElem?_pos, -List.reduceReplicate, h30, f35, hw7, hX7, hW7, ft, h21, h22, h23, h31, hmone, ha, h24, h30b, hmone2, hab, zzm, zx1]; rfl))); exact Ex.zn; rfl; (simp; rfl))))
    refine ⟨(1 + 1, H14, v12b, avs ++ [mv] ++ [mv2], lcs ++ [jM t] ++ [jM tt], own2), rfl, ⟨by dsimp only; omega, ⟨by dsimp only; omega, fun A hA => by dsimp only; rw [hk14 A hA, hg1013.get A (by omega), hg410.get A hA]⟩, hmpb, by simp [-List.reduceReplicate]; omega, fun l hl => ?_⟩, by dsimp only; omega, by simp [-getElem?_pos, -List.reduceReplicate]⟩
    rcases List.mem_append.1 hl with hl | hl
    ·exact hll' l hl
    ·simp [-getElem?_pos, -List.reduceReplicate] at hl; subst hl; exact hml2
   ·repeat (first | apply Wp.za | apply Wp.zb | apply Wp.zc | apply Wp.zd | apply Wp.ze | apply Wp.zf rfl | apply Wp.zg rfl | ((apply Wp.zh; (repeat (apply Ex.zc; (simp (disch := omega) [-getElem?_pos, -List.reduceReplicate, h30, f35, hw7, hX7, hW7, ft, h21, h22, h23, h31, hmone, ha, hj1, zzm, zx1]; rfl))); exact Ex.zn; rfl; (simp; rfl))))
    exact ⟨(j + 1, H10, v12', avs ++ [mv], lcs ++ [jM t], own'), rfl, ⟨by dsimp only; omega, hg410, hmp', by simp [-List.reduceReplicate]; omega, hll'⟩, by dsimp only; omega, by simp [-getElem?_pos, -List.reduceReplicate]⟩
  intro hj3
  apply Wp.ze
  have hn45 := hg5.next
  have hby5 : zyt H5 H3.next byv ord := hroom.move hg5.next fun A _ hA => hg5.get A hA
  have hl6 : avs.length ≤ 6 := by omega
  obtain ⟨h2, hh2⟩ : ∃ h2, h2 = ord.length / 2 := ⟨_, rfl⟩
  have hq2 : (ord.length : Int).tdiv 2 = (h2 : Int) := by rw [hh2]; rfl
  repeat (first | apply Wp.za | apply Wp.zb | apply Wp.zc | apply Wp.zd | apply Wp.ze | apply Wp.zf rfl | apply Wp.zg rfl | ((apply Wp.zh; (repeat (apply Ex.zc; (simp (disch := omega) [-getElem?_pos, -List.reduceReplicate]; rfl))); exact Ex.zn; rfl; (simp; rfl))))
  apply Wp.loop (α := Nat × zz6 × List Int) (fun y => [(0, v1), (1, vi m), (7, .ptr H1.next 0 0), (10, inv), (11, byv), (12, v12), (17, vi y.1)]) (·.2.1)
   (fun y => y.1 ≤ h2 ∧ zyt y.2.1 H3.next byv y.2.2 ∧ y.2.2.length = ord.length ∧ y.2.1.next = H5.next ∧ ∀ A, (A < H3.next ∨ H4.next ≤ A) → y.2.1.get A = H5.get A) (fun y => h2 - y.1)
   (0, H5, ord) rfl ⟨Nat.zero_le _, hby5, rfl, rfl, fun _ _ => rfl⟩ (by dsimp only; omega) (by simp [-List.reduceReplicate])
  rintro ⟨i, H6, l'⟩ ⟨hi, hr6, hl', hn6, ho6⟩
  dsimp only at hi hr6 hl' hn6 ho6 ⊢
  obtain ⟨Rb, vb, hbv, hbrow, hbrd⟩ := hr6.all
  rw [hl'] at hbv
  have hRb : H3.next ≤ Rb ∧ Rb < H4.next := by
   obtain ⟨R', ver', w1, w2, w3, _⟩ := hroom.row
   rw [w1] at hbv; cases hbv; exact ⟨w2, w3⟩
  have hlb : zyy byv = some (vi ord.length) := by rw [hbv]; rfl
  (repeat (first | apply Wp.za | apply Wp.zb)); (apply Wp.zh; (repeat (apply Ex.zc; (simp (disch := omega) [-getElem?_pos, -List.reduceReplicate, hlb, hq2]; rfl))); exact Ex.zn; rfl; (simp; rfl))
  (repeat (first | apply Wp.za | apply Wp.zb)); apply Wp.ite rfl
  ·intro hih
   apply Wp.zd
   obtain ⟨p, hp⟩ : ∃ p, p = ord.length - 1 - i := ⟨_, rfl⟩
   have hpi : (ord.length : Int) - 1 - i = (p : Int) := by omega
   obtain ⟨zi', hzi⟩ : ∃ z, l'[i]? = some z := ⟨_, List.getElem?_eq_getElem (by omega)⟩
   obtain ⟨zp, hzp⟩ : ∃ z, l'[p]? = some z := ⟨_, List.getElem?_eq_getElem (by omega)⟩
   obtain ⟨R1, w1, H7, e1, _, _, hw7, hr7, hn7, ho7⟩ := hr6.put (k := i) (by omega) zp
   obtain ⟨R2, w2, H8, e2, _, _, hw8, hr8, hn8, ho8⟩ := hr7.put (k := p) (by rw [List.length_set]; omega) zi'
   rw [hl'] at e1
   rw [List.length_set, hl'] at e2
   rw [hbv] at e1 e2
   cases e1; cases e2
   have gi : (l'.map vi ++ marks)[i]? = some (vi zi') := by rw [List.getElem?_append_left (by simp [-List.reduceReplicate]; omega), List.getElem?_map, hzi]; rfl
   have gp : (l'.map vi ++ marks)[p]? = some (vi zp) := by rw [List.getElem?_append_left (by simp [-List.reduceReplicate]; omega), List.getElem?_map, hzp]; rfl
   have gl : (l'.map vi ++ marks).length = ord.length + 2 := by simp [-getElem?_pos, -List.reduceReplicate, hl']
   generalize l'.map vi ++ marks = cs at hbrow gi gp gl
   repeat (first | apply Wp.za | apply Wp.zb | apply Wp.zc | apply Wp.zd | apply Wp.ze | apply Wp.zf rfl | apply Wp.zg rfl | ((apply Wp.zh; (repeat (apply Ex.zc; (simp (disch := omega) [-getElem?_pos, -List.reduceReplicate, hbv, zyy, hpi, hbrow, gi, gp, hw7, hw8, zp6]; rfl))); exact Ex.zn; rfl; (simp; rfl))) | ((apply Wp.zi; (repeat ((first | apply Dr.q rfl rfl | apply Dr.r rfl rfl | apply Dr.imm rfl); (simp (disch := omega) [-getElem?_pos, -List.reduceReplicate, hbv, zyy, hpi, hbrow, gi, gp, hw7, hw8, zp6]; rfl); (focus first | (simp; rfl) | (simp [-List.reduceReplicate]; done) | (simp [-List.reduceReplicate]; omega)))); exact Dr.nil; rfl; (first | (focus (simp (disch := omega) [-getElem?_pos, -List.reduceReplicate, hbv, zyy, hpi, hbrow, gi, gp, hw7, hw8, zp6]; done)) | rfl); (simp; rfl))))
   exact ⟨(i + 1, H8, (l'.set i zp).set p zi'), rfl, ⟨by dsimp only; omega, hr8, by simp [-getElem?_pos, -List.reduceReplicate, hl'], by dsimp only; omega, fun A hA => by dsimp only; rw [ho8 A (by omega), ho7 A (by omega), ho6 A hA]⟩, by dsimp only; omega, by simp [-getElem?_pos, -List.reduceReplicate, hbv]⟩
  intro hih
  apply Wp.ze
  have hg36 : Grow H3 H6 := ⟨by omega, fun A hA => by rw [ho6 A (.inl hA), (hg4.trans hg5).get A hA]⟩
  have hg06 := hg03.trans hg36
  have hmp6 : zvu H6 H4.next v12 avs lcs own := hmp.move (by omega) fun A hA _ => ho6 A (.inr hA)
  have hin6 := hown.move hg36
  obtain ⟨cv, H7, h32, hg7, hcv, hcl⟩ := c32r E.own (n + 8) (H := H6) hr6.rd (fun R ver off len kc ex esz e => (hr6.lies _ _ _ _ _ _ _ e).2) (by omega)
  obtain ⟨t28', H8, h28', hg8, hr28'⟩ := c28 E.rb (n + 5) (H := H7) (v0 := v1) (m := m) (hrows1.up (hg06.trans hg7)) hcv hcl (by omega) (by omega) (by omega)
  obtain ⟨wv', e28', hwr', hwl', hwv', hwe'⟩ := hr28'.any
  rw [e28'] at h28'
  have hml' := zgs (rows := rws) (m := m) (order := l')
  have hg38 : Grow H3 H8 := hg36.trans (hg7.trans hg8)
  have hF8 : Cells H8 H1.next (jF t).cells := by unfold Cells; rw [(hg3.trans hg38).get _ (by omega)]; exact hc2
  obtain ⟨H9, hw9, hn9, hc9, ho9⟩ := yvl hwv' hwv hF8
  obtain ⟨g35, g1⟩ := zyw.full hwv'
  have hF1 : H1.next < H2.next := by omega
  have hg09 : Grow H H9 := ⟨by have := hg06.next; have := hg38.next; omega, fun A hA => by rw [ho9 A (by omega), hg38.get A (by omega), hg03.get A hA]⟩
  have hin9 : zs0 H9 H2.next inv rws R ver vs rcs := by
   have h8 := hown.move hg38
   obtain ⟨w1, w2, w3, w4, w5, w6, w7⟩ := h8
   refine ⟨w1, by omega, w3, by rw [ho9 R (by omega)]; exact w4, w5, w6, fun k rc r a b => ?_⟩
   obtain ⟨z1, sv, z2, z3, z4, z5⟩ := w7 k rc r a b
   exact ⟨z1, sv, z2, z3.move (by omega) fun A hA _ => ho9 A (by omega), z4, z5⟩
  have hr9 : zyt H9 H3.next byv l' := (hr6.move (hg7.trans hg8).next fun A _ hA => (hg7.trans hg8).get A hA).move (by omega) fun A hA _ => ho9 A (by omega)
  have hmp9 : zvu H9 H4.next v12 avs lcs own := (hmp6.move (hg7.trans hg8).next fun A _ hA => (hg7.trans hg8).get A hA).move (by omega) fun A hA _ => ho9 A (by omega)
  obtain ⟨t30c, H10, h30c, hg10, hb10⟩ := c30 E.by_ (n + 2) (H := H9) (m := m) (order := l') (ov := byv) (hins (n + 3)) hin9.rowsAt hr9.rd (fun R ver off len kc ex esz e => (hr9.lies _ _ _ _ _ _ _ e).2) (by omega) (by omega) (by omega)
  generalize ht' : byD rws m l' = t' at *
  obtain ⟨mv, e30c, hms, _, hme⟩ := hb10.any
  rw [e30c] at h30c
  obtain ⟨H11, hw11, hg11, hc11, hn11⟩ := zx6 H10 (z := zwj) (e := (jF t').cells) (by rw [g35]; rfl) (by omega) g1
  have hX11 := hc11.at
  have hW11 : H11.rowAt H1.next 0 = some (jF t').cells := by rw [(hg10.trans hg11).rowAt (by have := hg06.next; have := hg7.next; have := hg8.next; omega)]; exact hc9.at
  have ft : (jF t').cells.take 35 = (jF t').cells := List.take_of_length_le (by omega)
  obtain ⟨_, H12, h21, rfl, hg12⟩ := c21 E.f21 (n + 8) (H := H11) hwv'
  have hg912 := hg10.trans (hg11.trans hg12)
  have hwr9 : RdE H9 32 wv' (jM t') := hwr'.move fun R ver off len kc ex e => by
   have := hwl' _ _ _ _ _ _ _ e
   rw [zzk, zzk, ho9 R (by have := hg7.next; omega)]
  have h22 := c22 E.f22 (n + 8) (H := H12) (hms.rd.grow (hg11.trans hg12) (fun R ver off len kc ex esz e => (hms.lies _ _ _ _ _ _ _ e).2)) (hwr9.grow hg912 (fun R ver off len kc ex esz e => by have := (hwl' _ _ _ _ _ _ _ e).2; omega)) hme hme (by omega) (by omega)
  simp only [decide_true] at h22
  obtain ⟨vf, H13, own', ha, hmpf, hn13, hk13⟩ := hmp9.push (by have := hg7.next; have := hg8.next; omega) hg912 (hms.move (Nat.le_refl _) (hg11.trans hg12).next fun A _ hA => (hg11.trans hg12).get A hA) (by omega)
  have hmone := zx4 hms.rd.one
  have hlf : ∀ l ∈ lcs ++ [jM t'], l.length ≤ 64 := fun l hl => by
   rcases List.mem_append.1 hl with hl | hl
   ·exact hll l hl
   ·simp [-getElem?_pos, -List.reduceReplicate] at hl; subst hl; exact hml'
  have hlg : ∀ i, ((lcs ++ [jM t']).getD i []).length ≤ 64 := fun i => by
   rw [List.getD_eq_getElem?_getD]
   cases hx : (lcs ++ [jM t'])[i]? with
   | none => simp [-getElem?_pos, -List.reduceReplicate]
   | some l => exact hlf l (List.mem_of_getElem? hx)
  obtain ⟨_, H14, h27, rfl⟩ := c27 E.f27 (n + 8) hmpf.marked (fun i a _ => ⟨Nat.le_trans (Nat.mul_le_mul_right 32 (show _ ≤ 135 from by have := hlg i; omega)) (by decide), by have := hlg i; omega⟩) (by simp [-List.reduceReplicate]; omega) (by omega) (by simp [-List.reduceReplicate]; omega)
  have hn78 := hg7.next
  have hn88 := hg8.next
  repeat (first | apply Wp.za | apply Wp.zb | apply Wp.zc | apply Wp.zd | apply Wp.ze | apply Wp.zf rfl | apply Wp.zg rfl | ((apply Wp.zh; (repeat (apply Ex.zc; (simp (disch := omega) [-getElem?_pos, -List.reduceReplicate, h32, h28', g35, hw9, h30c, hw11, hX11, hW11, ft, h21, h22, hmone, ha, h27, zzm, zx1]; rfl))); exact Ex.zn; rfl; (simp; rfl))))
  simp [-getElem?_pos, -List.reduceReplicate, a4]
 by_cases h400 : 400 < order.length
 ·obtain ⟨ov1, q1, q2, q3⟩ := ho.first (k := 400) (by rw [List.length_map]; omega)
  rw [← List.map_take] at q2
  have q1' : zye 1 ov none (some (vi 400)) none = some ov1 := q1
  repeat (first | apply Wp.za | apply Wp.zb)
  (repeat (first | apply Wp.za | apply Wp.zb)); (apply Wp.zh; (repeat (apply Ex.zc; (simp (disch := omega) [-getElem?_pos, -List.reduceReplicate]; rfl))); exact Ex.zn; rfl; (simp; rfl))
  repeat (first | apply Wp.za | apply Wp.zb | apply Wp.zc | apply Wp.zd | apply Wp.ze | apply Wp.zf rfl | apply Wp.zg rfl | ((apply Wp.zh; (repeat (apply Ex.zc; (simp (disch := omega) [-getElem?_pos, -List.reduceReplicate, h11, h12a, hlo, h400, q1']; rfl))); exact Ex.zn; rfl; (simp; rfl))))
  exact Wp.sub [(0, v1), (1, vi m), (2, ov1)] (main ov1 (order.take 400) q2 (q3 _ hol) (by simp [-List.reduceReplicate]; omega)) (by simp [-List.reduceReplicate])
 ·repeat (first | apply Wp.za | apply Wp.zb | apply Wp.zc | apply Wp.zd | apply Wp.ze | apply Wp.zf rfl | apply Wp.zg rfl | ((apply Wp.zh; (repeat (apply Ex.zc; (simp (disch := omega) [-getElem?_pos, -List.reduceReplicate, h11, h12a, hlo, h400]; rfl))); exact Ex.zn; rfl; (simp; rfl))))
  exact Wp.sub [(0, v1), (1, vi m), (2, ov)] (main ov order ho hol (by omega)) (by simp [-List.reduceReplicate])
end
end Go.Proofs.Ythbjfkkjmecaaaa
