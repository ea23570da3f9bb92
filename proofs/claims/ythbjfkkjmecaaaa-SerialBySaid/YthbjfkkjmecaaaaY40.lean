/- Walks: the second example's rows. -/
import Derived.Test.YthbjfkkjmecaaaaY37
import Derived.Test.YthbjfkkjmecaaaaY28
set_option linter.unusedVariables false
set_option linter.unusedSimpArgs false
namespace Go.Proofs.Ythbjfkkjmecaaaa
open Go Go.Vm
variable {kn : zy0} {env : Nat → Option zzq}
variable {H H' H1 : zz6} {N A X Y : Nat} {v w sv : AVal} {rcs : List (List AVal)} {k c t b : Int} {val : List AVal}
def zvt (H : zz6) (p : Nat → Prop) (rc : List AVal) : Prop := ∃ r sv, RowC rc r ∧ rc[40]? = some sv ∧ RdE H 1 sv (ints r.set) ∧ sv.lies p ∧ r.set.length * 8 ≤ 140737488355328
theorem zvt.move {rc : List AVal} {p q : Nat → Prop} (h : zvt H p rc) (hg : ∀ A, p A → H'.get A = H.get A) (hq : ∀ A, p A → q A) : zvt H' q rc := by
 obtain ⟨r, sv, h1, h2, h3, h4, h5⟩ := h
 exact ⟨r, sv, h1, h2, h3.move fun R ver off len kc ex e => by rw [zzk, zzk, hg R (h4 _ _ _ _ _ _ _ e)], fun R ver off len kc ex esz e => hq _ (h4 _ _ _ _ _ _ _ e), h5⟩
def zyn (k c t p b : Int) (val : List AVal) (sv : AVal) : List AVal := vi k :: vu 1 :: vi c :: vu t :: vi b :: (val ++ [vu p, vi 0, vi 0, sv])
theorem yyz {p : Int} {pr : Nat → Prop} (hv : zyr val) {l : List Int} (hs : RdE H 1 sv (ints l)) (hl : sv.lies pr) (hlen : l.length * 8 ≤ 140737488355328) : zvt H pr (zyn k c t p b val sv) := by
 have h32 := hv.len
 refine ⟨⟨k, 1, c, t, b, val, p, 0, 0, l⟩, sv, ⟨by simp [-getElem?_pos, zyn, h32], rfl, rfl, rfl, rfl, rfl, by simp [-getElem?_pos, zyn, List.take_append, h32], ?_, ?_, ?_, hv, ?_⟩, ?_, hs, hl, hlen⟩
 ·simp [-getElem?_pos, zyn, List.getElem?_append, h32]
 ·simp [-getElem?_pos, zyn, List.getElem?_append, h32]
 ·simp [-getElem?_pos, zyn, List.getElem?_append, h32]
 ·have hone : sv.one = true := hs.one
  simp only [zyn, List.all_cons, List.all_append, hv.one, List.all_nil, hone]; rfl
 ·simp [-getElem?_pos, zyn, List.getElem?_append, h32]
theorem RdE.none (H : zz6) : RdE H 1 ns (ints []) := ⟨by simp [-getElem?_pos], .inl ⟨rfl, rfl⟩⟩
theorem c70 (h : Fn kn env 70 a70) (n : Nat) (hX : H.rowAt X 0 = some [vi c]) (hY : H.rowAt Y 0 = some [vu t]) (hXn : X < H.next) (hYn : Y < H.next) (k : Int) :
  ∃ v H', zzp kn env (n + 1) (.func (.func 70) [.ptr X 0 0, .ptr Y 0 0]) [vi k] H = some (v, H') ∧ (v = .agg (zyn k c t 0 (-1) zzd ns) ∧ Grow H H') := by
 have hx : X ≠ H.next := by omega
 have hy : Y ≠ H.next := by omega
 obtain ⟨H1, hw, hg, hc, hn⟩ := zx6 H (z := zpv) (e := zyn k c t 0 (-1) zzd ns) (by simp [-getElem?_pos, zyn]) (by simp [-getElem?_pos, zyn]) (by simp [-getElem?_pos, zyn, AVal.one, Value.oneCell'])
 have hX1 := hc.at
 have hl : (zyn k c t 0 (-1) zzd ns).length = 41 := by simp [-getElem?_pos, zyn]
 have ht : (zyn k c t 0 (-1) zzd ns).take 41 = zyn k c t 0 (-1) zzd ns := List.take_of_length_le (by omega)
 obtain ⟨rr, hrr⟩ : ∃ rr, rr = zyn k c t 0 (-1) zzd ns := ⟨_, rfl⟩
 have hre : [vi k, vu 1, vi c, vu t, vi (-1), zb, zb, zb, zb, zb, zb, zb, zb, zb, zb, zb, zb, zb, zb, zb, zb, zb, zb, zb, zb, zb, zb, zb, zb, zb, zb, zb, zb, zb, zb, zb, zb, vu 0, vi 0, vi 0, ns] = rr := by rw [hrr]; rfl
 rw [← hrr] at hw hX1 hl ht ⊢
 rw [← hre] at hw
 refine Wp.callC 9 [0, 1, 2, 4] h.e (h.no _ H) rfl (by simp) ?_
 repeat (first | apply Wp.za | apply Wp.zb | apply Wp.zc | apply Wp.zd | apply Wp.ze | apply Wp.zf rfl | apply Wp.zg rfl | ((apply Wp.zh; (repeat (apply Ex.zc; (simp (disch := omega) [-getElem?_pos, hX, hY, zzm, zx1, hw]; rfl))); exact Ex.zn; rfl; (simp; rfl))))
 simp [-getElem?_pos, a70, hX1, hl, ht]
 exact hg
abbrev opc (k b : Int) (val : List AVal) : List AVal := vi k :: ns :: vi b :: val
theorem c37 (h : Fn kn env 37 a37) (n : Nat) (hv : zyr val) : ∃ v H', zzp kn env (n + 1) (.func (.func 37) []) [vi b, .agg val] H = some (v, H') ∧ (v = .agg (opc 3 b val) ∧ Grow H H') := by
 obtain ⟨H0, hH0⟩ : ∃ H0, H0 = H.push (.row [some (0, val)]) := ⟨_, rfl⟩
 have h32 := hv.len
 have hg0 : Grow H H0 := by rw [hH0]; exact Grow.push _ _
 have hn0 : H0.next = H.next + 1 := by rw [hH0]; simp [-getElem?_pos]
 have hX : H0.rowAt H.next 0 = some val := by rw [hH0]; simp [-getElem?_pos]
 have hvt : val.take 32 = val := List.take_of_length_le (by omega)
 obtain ⟨H1, hw, hg, hc, hn⟩ := zx6 H0 (z := [zi, ns, zi, zb, zb, zb, zb, zb, zb, zb, zb, zb, zb, zb, zb, zb, zb, zb, zb, zb, zb, zb, zb, zb, zb, zb, zb, zb, zb, zb, zb, zb, zb, zb, zb]) (e := opc 3 b val) (by simp [-getElem?_pos, h32]) (by simp) (by simp only [List.all_cons, hv.one, Bool.and_true]; rfl)
 have hX1 := hc.at
 have hl : (opc 3 b val).length = 35 := by simp [-getElem?_pos, h32]
 have ht : (opc 3 b val).take 35 = opc 3 b val := List.take_of_length_le (by omega)
 rw [hn0] at hw hX1
 refine Wp.call 8 [0, 1, 3, 4] h.e (h.no _ H) rfl (by simp) ?_
 repeat (first | apply Wp.za | apply Wp.zb)
 (repeat (first | apply Wp.za | apply Wp.zb)); (apply Wp.zh; (repeat (apply Ex.zc; (simp (disch := omega) [-getElem?_pos]; rfl))); exact Ex.zn; rfl; (simp; rfl))
 rw [← hH0]
 repeat (first | apply Wp.za | apply Wp.zb | apply Wp.zc | apply Wp.zd | apply Wp.ze | apply Wp.zf rfl | apply Wp.zg rfl | ((apply Wp.zh; (repeat (apply Ex.zc; (simp (disch := omega) [-getElem?_pos, hX, h32, hvt, zzm, zx1, hw]; rfl))); exact Ex.zn; rfl; (simp; rfl))))
 simp [-getElem?_pos, a37, hX1, hl, ht]
 exact hg0.trans hg
theorem c38 (h : Fn kn env 38 a38) (n : Nat) (hv : zyr val) : ∃ v H', zzp kn env (n + 1) (.func (.func 38) []) [vi b, .agg val] H = some (v, H') ∧ (v = .agg (opc 2 b val) ∧ Grow H H') := by
 obtain ⟨H0, hH0⟩ : ∃ H0, H0 = H.push (.row [some (0, val)]) := ⟨_, rfl⟩
 have h32 := hv.len
 have hg0 : Grow H H0 := by rw [hH0]; exact Grow.push _ _
 have hn0 : H0.next = H.next + 1 := by rw [hH0]; simp [-getElem?_pos]
 have hX : H0.rowAt H.next 0 = some val := by rw [hH0]; simp [-getElem?_pos]
 have hvt : val.take 32 = val := List.take_of_length_le (by omega)
 obtain ⟨H1, hw, hg, hc, hn⟩ := zx6 H0 (z := [zi, ns, zi, zb, zb, zb, zb, zb, zb, zb, zb, zb, zb, zb, zb, zb, zb, zb, zb, zb, zb, zb, zb, zb, zb, zb, zb, zb, zb, zb, zb, zb, zb, zb, zb]) (e := opc 2 b val) (by simp [-getElem?_pos, h32]) (by simp) (by simp only [List.all_cons, hv.one, Bool.and_true]; rfl)
 have hX1 := hc.at
 have hl : (opc 2 b val).length = 35 := by simp [-getElem?_pos, h32]
 have ht : (opc 2 b val).take 35 = opc 2 b val := List.take_of_length_le (by omega)
 rw [hn0] at hw hX1
 refine Wp.call 8 [0, 1, 3, 4] h.e (h.no _ H) rfl (by simp) ?_
 repeat (first | apply Wp.za | apply Wp.zb)
 (repeat (first | apply Wp.za | apply Wp.zb)); (apply Wp.zh; (repeat (apply Ex.zc; (simp (disch := omega) [-getElem?_pos]; rfl))); exact Ex.zn; rfl; (simp; rfl))
 rw [← hH0]
 repeat (first | apply Wp.za | apply Wp.zb | apply Wp.zc | apply Wp.zd | apply Wp.ze | apply Wp.zf rfl | apply Wp.zg rfl | ((apply Wp.zh; (repeat (apply Ex.zc; (simp (disch := omega) [-getElem?_pos, hX, h32, hvt, zzm, zx1, hw]; rfl))); exact Ex.zn; rfl; (simp; rfl))))
 simp [-getElem?_pos, a38, hX1, hl, ht]
 exact hg0.trans hg
def GrF (H : zz6) (base esz : Nat) (v : AVal) (es : List (List AVal)) : Prop :=
 (∃ X, v = .slice X 0 0 es.length es.length true esz ∧ base ≤ X ∧ X < H.next ∧ H.get X = some (.row [some (0, es.flatten)]) ∧ ∀ e ∈ es, e.length = esz) ∨ zzw H base esz v es
variable {base esz bytes : Nat} {es fs : List (List AVal)}
theorem GrF.move (h : GrF H base esz v es) (hn : H.next ≤ H'.next) (hg : ∀ A, base ≤ A → A < H.next → H'.get A = H.get A) : GrF H' base esz v es := by
 rcases h with ⟨X, h2, h3, h4, h5, h6⟩ | h
 ·exact .inl ⟨X, h2, h3, by omega, by rw [hg X h3 h4]; exact h5, h6⟩
 ·exact .inr (h.move (Nat.le_refl _) hn hg)
theorem GrF.app (h : GrF H base esz v es) (hb : base ≤ H.next) (hw : RdE H esz w fs) (hf : fs ≠ []) (h0 : 0 < esz) (hb0 : 0 < bytes) (hone : ∀ e ∈ fs, e.all AVal.one = true) (hlen : (es.length + fs.length) * bytes ≤ 140737488355328) :
  ∃ v' H', zzf H esz bytes v w = some (v', H') ∧ zzw H' base esz v' (es ++ fs) ∧ H.next ≤ H'.next ∧ ∀ A, A < base → H'.get A = H.get A := by
 rcases h with ⟨X, rfl, h3, h4, h5, hes⟩ | h
 ·have hlw := hw.len
  have hcw := hw.aCells
  have hn : fs.length ≠ 0 := fun h1 => hf (List.eq_nil_of_length_eq_zero h1)
  have ha := zkj hone
  have hr : H.rowAt X 0 = some es.flatten := Cells.at h5
  have hfl := zy1 hes
  refine ⟨.slice H.next 0 0 (es.length + fs.length) (es.length + fs.length) false esz, H.push (.row [some (0, es.flatten ++ fs.flatten)]), ?_, ⟨fun x hx => ?_, .inr ⟨H.next, 0, [some (0, es.flatten ++ fs.flatten)], hb, by simp [-getElem?_pos], by simp [-getElem?_pos], zz6.zzl _ _, by simp [-getElem?_pos]⟩⟩, by simp [-getElem?_pos], fun A hA => zz6.zz9 _ _ (by omega)⟩
  ·have g1 : 0 + es.length * esz ≤ es.flatten.length := by omega
   have g2 : ¬ (es.length + fs.length ≤ es.length) := by omega
   have g3 : es.flatten.take (es.length * esz) = es.flatten := List.take_of_length_le (by omega)
   simp only [zzf, hlw, hcw, Option.bind_some, hn, if_false, h0, hb0, ha, decide_true, Bool.and_self, if_true, g2, hlen, hr, g1, List.drop_zero, g3]
  ·rcases List.mem_append.1 hx with h1 | h1
   ·exact hes x h1
   ·exact hw.1 x h1
 ·obtain ⟨v', H', a1, a2, a3, a4⟩ := GrE.app (.inr h) hb hw h0 hb0 hone hlen
  exact ⟨v', H', a1, a2.slice (by simp [-getElem?_pos, hf]), a3, a4⟩
structure TwE (kn : zy0) (env : Nat → Option zzq) : Prop where
 f70 : Fn kn env 70 a70
 f37 : Fn kn env 37 a37
 f38 : Fn kn env 38 a38
 f36 : Fn kn env 36 a36
 f24 : Fn kn env 24 a24
theorem zq9 {p : Int} (hv : zyr val) (hs : sv.one = true) : (zyn k c t p b val sv).length = 41 ∧ (zyn k c t p b val sv).all AVal.one = true ∧ (zyn k c t p b val sv).take 41 = zyn k c t p b val sv := by
 have h32 := hv.len
 have hl : (zyn k c t p b val sv).length = 41 := by simp [-getElem?_pos, zyn, h32]
 exact ⟨hl, by simp only [zyn, List.all_cons, List.all_append, hv.one, List.all_nil, hs]; rfl, List.take_of_length_le (by omega)⟩
theorem zvt.bare {p : Int} {pr : Nat → Prop} (hv : zyr val) : zvt H pr (zyn k c t p b val ns) := yyz hv (RdE.none H) (fun R ver off len kc ex esz e => by cases e) (l := []) (by simp)
theorem zvt.len41 {rc : List AVal} {pr : Nat → Prop} (h : zvt H pr rc) : rc.length = 41 ∧ rc.all AVal.one = true := by
 obtain ⟨r, sv, h1, _⟩ := h
 exact ⟨h1.len, h1.one⟩
structure OpD where
 kind : Int
 blk : Int
 val : List AVal
abbrev OpD.cells (o : OpD) : List AVal := opc o.kind o.blk o.val
theorem yje {ra rb rd z : List AVal} (h1 : ra.length = 41) (h2 : rb.length = 41) (h3 : rd.length = 41) (hz : z.length = 123) : zzm z [(0, 41, .agg ra), (41, 41, .agg rb), (82, 41, .agg rd)] = some (ra ++ (rb ++ rd)) := by
 have s1 : spl z 0 ra = ra ++ z.drop 41 := by simp [-getElem?_pos, spl, h1]
 have s2 : spl (ra ++ z.drop 41) 41 rb = ra ++ (rb ++ z.drop 82) := by
  simp only [spl, h2]
  rw [List.take_left' h1, List.drop_append, List.drop_of_length_le (by omega), h1, List.nil_append, List.drop_drop]
 have s3 : spl (ra ++ (rb ++ z.drop 82)) 82 rd = ra ++ (rb ++ rd) := by
  simp only [spl, h3]
  have h82 : (ra ++ rb).length = 82 := by simp [-getElem?_pos, h1, h2]
  have e : ra ++ (rb ++ z.drop 82) = (ra ++ rb) ++ z.drop 82 := (List.append_assoc ..).symm
  rw [e, List.take_left' h82, List.drop_of_length_le (by simp [-getElem?_pos, h1, h2, hz]), List.append_nil, List.append_assoc]
 simp only [zzm, zhv, h1, h2, h3, s1, s2, s3, hz, List.length_append, List.length_drop]
 simp [-getElem?_pos]
theorem yu8 {K : zz6} {t c p : Int} : ∃ K4 K5 K6 K7 K8 K9 K10,
  (((K.push (.row [some (0, zpv)])).push (.row [some (0, zpv)])).push (.row [some (0, zpv)])).write K.next 0 0 (zyn 8 c t 0 (-1) zzd ns) = some K4 ∧ K4.write (K.next + 1) 0 0 (zyn 11 c t 0 (-1) zzd ns) = some K5 ∧ K5.write (K.next + 1 + 1) 0 0 (zyn 13 c t 0 (-1) zzd ns) = some K6 ∧
  K6.write (K.next + 1) 0 37 [vu p] = some K7 ∧ K7.write (K.next + 1 + 1) 0 37 [vu p] = some K8 ∧ K8.write (K.next + 1) 0 2 [vi 8] = some K9 ∧ K9.write (K.next + 1 + 1) 0 2 [vi 8] = some K10 ∧
  Grow K K10 ∧ K10.rowAt K.next 0 = some (zyn 8 c t 0 (-1) zzd ns) ∧ K10.rowAt (K.next + 1) 0 = some (zyn 11 8 t p (-1) zzd ns) ∧ K10.rowAt (K.next + 1 + 1) 0 = some (zyn 13 8 t p (-1) zzd ns) := by
 have full : ∀ k : Int, _ := fun k => zq9 (k := k) (c := c) (t := t) (p := 0) (b := -1) (sv := ns) zxp rfl
 obtain ⟨K3, hK3⟩ : ∃ K3, K3 = ((K.push (.row [some (0, zpv)])).push (.row [some (0, zpv)])).push (.row [some (0, zpv)]) := ⟨_, rfl⟩
 have n3 : K3.next = K.next + 3 := by rw [hK3]; simp [-getElem?_pos]
 have a0 : Cells K3 K.next zpv := by rw [hK3]; show zz6.get _ _ = _; simp (disch := omega) [-getElem?_pos]
 have b0 : Cells K3 (K.next + 1) zpv := by rw [hK3]; show zz6.get _ _ = _; simp (disch := omega) [-getElem?_pos]
 have d0 : Cells K3 (K.next + 1 + 1) zpv := by rw [hK3]; show zz6.get _ _ = _; simp (disch := omega) [-getElem?_pos]
 have o3 : ∀ A, A < K.next → K3.get A = K.get A := fun A hA => by rw [hK3, zz6.zz9 _ _ (by simp; omega), zz6.zz9 _ _ (by simp; omega), zz6.zz9 _ _ (by omega)]
 have whole : ∀ k : Int, spl zpv 0 (zyn k c t 0 (-1) zzd ns) = zyn k c t 0 (-1) zzd ns := fun k => by
  simp only [spl, (full k).1, List.take_zero, List.nil_append, Nat.zero_add]
  rw [List.drop_of_length_le (by simp), List.append_nil]
 have ne1 : K.next ≠ K.next + 1 := by omega
 have ne2 : K.next ≠ K.next + 1 + 1 := by omega
 have ne3 : K.next + 1 ≠ K.next + 1 + 1 := by omega
 have w4 := Cells.write a0 (off := 0) (vs := zyn 8 c t 0 (-1) zzd ns) (by simp [-getElem?_pos, zyn]) (by simp [-getElem?_pos, zyn]) (full 8).2.1
 rw [whole] at w4
 obtain ⟨K4, hK4⟩ : ∃ K4, K4 = K3.set K.next (.row [some (0, zyn 8 c t 0 (-1) zzd ns)]) := ⟨_, rfl⟩
 rw [← hK4] at w4
 have a4 : Cells K4 K.next (zyn 8 c t 0 (-1) zzd ns) := by rw [hK4]; exact zz6.zzy _ _ _
 have b4 : Cells K4 (K.next + 1) zpv := by unfold Cells; rw [hK4, zz6.zzz _ _ ne1.symm]; exact b0
 have d4 : Cells K4 (K.next + 1 + 1) zpv := by unfold Cells; rw [hK4, zz6.zzz _ _ ne2.symm]; exact d0
 have w5 := Cells.write b4 (off := 0) (vs := zyn 11 c t 0 (-1) zzd ns) (by simp [-getElem?_pos, zyn]) (by simp [-getElem?_pos, zyn]) (full 11).2.1
 rw [whole] at w5
 obtain ⟨K5, hK5⟩ : ∃ K5, K5 = K4.set (K.next + 1) (.row [some (0, zyn 11 c t 0 (-1) zzd ns)]) := ⟨_, rfl⟩
 rw [← hK5] at w5
 have d5 : Cells K5 (K.next + 1 + 1) zpv := by unfold Cells; rw [hK5, zz6.zzz _ _ ne3.symm]; exact d4
 have w6 := Cells.write d5 (off := 0) (vs := zyn 13 c t 0 (-1) zzd ns) (by simp [-getElem?_pos, zyn]) (by simp [-getElem?_pos, zyn]) (full 13).2.1
 rw [whole] at w6
 obtain ⟨K6, hK6⟩ : ∃ K6, K6 = K5.set (K.next + 1 + 1) (.row [some (0, zyn 13 c t 0 (-1) zzd ns)]) := ⟨_, rfl⟩
 rw [← hK6] at w6
 have b6 : Cells K6 (K.next + 1) (zyn 11 c t 0 (-1) zzd ns) := by unfold Cells; rw [hK6, zz6.zzz _ _ ne3, hK5, zz6.zzy]
 have w7 := Cells.write b6 (off := 37) (vs := [vu p]) (by simp) (by simp [-getElem?_pos, zyn]) rfl
 obtain ⟨K7, hK7⟩ : ∃ K7, K7 = K6.set (K.next + 1) (.row [some (0, zyn 11 c t p (-1) zzd ns)]) := ⟨_, rfl⟩
 rw [show spl (zyn 11 c t 0 (-1) zzd ns) 37 [vu p] = zyn 11 c t p (-1) zzd ns from rfl, ← hK7] at w7
 have d7 : Cells K7 (K.next + 1 + 1) (zyn 13 c t 0 (-1) zzd ns) := by unfold Cells; rw [hK7, zz6.zzz _ _ ne3.symm, hK6, zz6.zzy]
 have w8 := Cells.write d7 (off := 37) (vs := [vu p]) (by simp) (by simp [-getElem?_pos, zyn]) rfl
 obtain ⟨K8, hK8⟩ : ∃ K8, K8 = K7.set (K.next + 1 + 1) (.row [some (0, zyn 13 c t p (-1) zzd ns)]) := ⟨_, rfl⟩
 rw [show spl (zyn 13 c t 0 (-1) zzd ns) 37 [vu p] = zyn 13 c t p (-1) zzd ns from rfl, ← hK8] at w8
 have b8 : Cells K8 (K.next + 1) (zyn 11 c t p (-1) zzd ns) := by unfold Cells; rw [hK8, zz6.zzz _ _ ne3, hK7, zz6.zzy]
 have w9 := Cells.write b8 (off := 2) (vs := [vi 8]) (by simp) (by simp [-getElem?_pos, zyn]) rfl
 obtain ⟨K9, hK9⟩ : ∃ K9, K9 = K8.set (K.next + 1) (.row [some (0, zyn 11 8 t p (-1) zzd ns)]) := ⟨_, rfl⟩
 rw [show spl (zyn 11 c t p (-1) zzd ns) 2 [vi 8] = zyn 11 8 t p (-1) zzd ns from rfl, ← hK9] at w9
 have d9 : Cells K9 (K.next + 1 + 1) (zyn 13 c t p (-1) zzd ns) := by unfold Cells; rw [hK9, zz6.zzz _ _ ne3.symm, hK8, zz6.zzy]
 have w10 := Cells.write d9 (off := 2) (vs := [vi 8]) (by simp) (by simp [-getElem?_pos, zyn]) rfl
 obtain ⟨K10, hK10⟩ : ∃ K10, K10 = K9.set (K.next + 1 + 1) (.row [some (0, zyn 13 8 t p (-1) zzd ns)]) := ⟨_, rfl⟩
 rw [show spl (zyn 13 c t p (-1) zzd ns) 2 [vi 8] = zyn 13 8 t p (-1) zzd ns from rfl, ← hK10] at w10
 have n10 : K10.next = K.next + 3 := by rw [hK10, hK9, hK8, hK7, hK6, hK5, hK4]; exact n3
 have low : ∀ A, A ≤ K.next → K10.get A = K4.get A := fun A hA => by
  rw [hK10, zz6.zzz _ _ (by omega), hK9, zz6.zzz _ _ (by omega), hK8, zz6.zzz _ _ (by omega), hK7, zz6.zzz _ _ (by omega), hK6, zz6.zzz _ _ (by omega), hK5, zz6.zzz _ _ (by omega)]
 refine ⟨K4, K5, K6, K7, K8, K9, K10, by rw [← hK3]; exact w4, w5, w6, w7, w8, w9, w10, ⟨by omega, fun A hA => by rw [low A (by omega), hK4, zz6.zzz _ _ (by omega), o3 A hA]⟩, ?_, ?_, ?_⟩
 ·rw [zzk, low _ (Nat.le_refl _), ← zzk]; exact a4.at
 ·rw [zzk, hK10, zz6.zzz _ _ ne3, hK9, zz6.zzy]; rfl
 ·rw [zzk, hK10, zz6.zzy]; rfl
abbrev C36 : List Nat := [0, 1, 2, 3, 4, 5, 6, 10, 11, 12, 13, 14, 15, 16, 17, 18, 29, 39]
set_option maxHeartbeats 4000000 in
theorem c36 (E : TwE kn env) (n : Nat) {sv ov : AVal} {l : List Int} {ops : List OpD} {p : Int} {pr : Nat → Prop} (hs : RdE H 1 sv (ints l)) (hsp : sv.lies pr) (hsl : sv.lies (· < H.next)) (hlen : l.length * 8 ≤ 140737488355328) (ho : RdE H 35 ov (ops.map OpD.cells)) (hol : ov.lies (· < H.next)) (hov : ∀ o ∈ ops, zyr o.val) (hm : ops.length < 1000) (hn : ops.length < n) :
  ∃ v H', zzp kn env (n + 2) (.func (.func 36) []) [vi c, vu t, vu p, sv, ov] H = some (v, H') ∧ (Grow H H' ∧ ∃ rcs, zzw H' H.next 41 v rcs ∧ 0 < rcs.length ∧ rcs.length ≤ ops.length + 4 ∧ ∀ rc ∈ rcs, zvt H pr rc) := by
 have hlo : zyy ov = some (vi ops.length) := by have := ho.lenS; rwa [List.length_map] at this
 obtain ⟨H1, hH1⟩ : ∃ H1, H1 = (H.push (.row [some (0, [vi c])])).push (.row [some (0, [vu t])]) := ⟨_, rfl⟩
 have hn1 : H1.next = H.next + 2 := by rw [hH1]; simp [-getElem?_pos]
 have hg1 : Grow H H1 := by rw [hH1]; exact (Grow.push _ _).trans (Grow.push _ _)
 have hX : H1.rowAt H.next 0 = some [vi c] := by rw [hH1]; simp (disch := omega) [-getElem?_pos]
 have hY : H1.rowAt (H.next + 1) 0 = some [vu t] := by rw [hH1]; simp (disch := omega) [-getElem?_pos]
 have row : ∀ (k : Int) (H' : zz6), Grow H1 H' → ∃ H'', zzp kn env (n + 1) (.func (.func 70) [.ptr H.next 0 0, .ptr (H.next + 1) 0 0]) [vi k] H' = some (.agg (zyn k c t 0 (-1) zzd ns), H'') ∧ Grow H' H'' := fun k H' hg => by
  have := hg.next
  obtain ⟨v, H'', h1, rfl, h3⟩ := c70 (X := H.next) (Y := H.next + 1) (c := c) (t := t) E.f70 n (by rw [hg.rowAt (by omega)]; exact hX) (by rw [hg.rowAt (by omega)]; exact hY) (by omega) (by omega) k
  exact ⟨H'', h1, h3⟩
 have f0 : ∀ k : Int, _ := fun k => zq9 (k := k) (c := c) (t := t) (p := 0) (b := -1) (sv := ns) zxp rfl
 obtain ⟨H2, h70, hg2⟩ := row 2 H1 (Grow.refl _)
 obtain ⟨q1, q2, q3⟩ := f0 2
 obtain ⟨H3, hw3, hg3, hc3, hn3⟩ := zx6 H2 (z := zpv) (e := zyn 2 c t 0 (-1) zzd ns) q1 (by omega) q2
 have hsone : sv.one = true := hs.one
 have hw4 := Cells.write hc3 (off := 40) (vs := [sv]) (by simp) (by simp [-getElem?_pos, q1]) (by simp [-getElem?_pos, hsone])
 have hsp4 : spl (zyn 2 c t 0 (-1) zzd ns) 40 [sv] = zyn 2 c t 0 (-1) zzd sv := rfl
 rw [hsp4] at hw4
 obtain ⟨H4, hH4⟩ : ∃ H4, H4 = H3.set H2.next (.row [some (0, zyn 2 c t 0 (-1) zzd sv)]) := ⟨_, rfl⟩
 rw [← hH4] at hw4
 have hX4 : H4.rowAt H2.next 0 = some (zyn 2 c t 0 (-1) zzd sv) := by rw [hH4]; simp [-getElem?_pos]
 have hn4 : H4.next = H3.next := by rw [hH4]; rfl
 have hg14 : Grow H1 H4 := by rw [hH4]; exact (hg2.trans hg3).set (by have := hg2.next; omega) _
 obtain ⟨r1, r2, r3⟩ := zq9 (k := 2) (c := c) (t := t) (p := 0) (b := -1) (sv := sv) zxp hsone
 have hcs := zx4 hsone
 have hg04 := hg1.trans hg14
 have hR0 : zvt H pr (zyn 2 c t 0 (-1) zzd sv) := yyz zxp hs hsp hlen
 obtain ⟨rr, hrr⟩ : ∃ rr, rr = zyn 2 c t 0 (-1) zzd sv := ⟨_, rfl⟩
 rw [← hrr] at hX4 r1 r2 r3 hR0 hH4
 refine Wp.call 76 C36 E.f36.e (E.f36.no _ H) (n := n + 1) rfl (by simp) ?_
 repeat (first | apply Wp.za | apply Wp.zb)
 (repeat (first | apply Wp.za | apply Wp.zb)); (apply Wp.zh; (repeat (apply Ex.zc; (simp (disch := omega) [-getElem?_pos]; rfl))); exact Ex.zn; rfl; (simp; rfl))
 rw [← hH1]
 repeat (first | apply Wp.za | apply Wp.zb | apply Wp.zc | apply Wp.zd | apply Wp.ze | apply Wp.zf rfl | apply Wp.zg rfl | ((apply Wp.zh; (repeat (apply Ex.zc; (simp (disch := omega) [-getElem?_pos, h70, q1, hw3, hcs, hw4, hX4, r1, r3, zzm, zx1]; rfl))); exact Ex.zn; rfl; (simp; rfl))))
 have hgp : Grow H4 (H4.push (.row [some (0, rr)])) := Grow.push _ _
 apply Wp.loop (α := Nat × zz6 × AVal × List (List AVal)) (fun y => [(2, vu p), (4, ov), (11, .func (.func 70) [.ptr H.next 0 0, .ptr (H.next + 1) 0 0]), (13, y.2.2.1), (14, vi y.1)]) (·.2.1)
  (fun y => y.1 ≤ ops.length ∧ Grow H4 y.2.1 ∧ GrF y.2.1 H4.next 41 y.2.2.1 y.2.2.2 ∧ y.2.2.2.length = y.1 + 1 ∧ ∀ rc ∈ y.2.2.2, zvt H pr rc) (fun y => ops.length - y.1)
  (0, H4.push (.row [some (0, rr)]), .slice H4.next 0 0 1 1 true 41, [rr]) rfl ⟨Nat.zero_le _, hgp, .inl ⟨H4.next, rfl, Nat.le_refl _, by simp [-getElem?_pos], by simp [-getElem?_pos, zz6.zzl], by simpa [-getElem?_pos] using r1⟩, rfl, fun rc hrc => by simp [-getElem?_pos] at hrc; subst hrc; exact hR0⟩ (by dsimp only; omega) (by simp)
 rintro ⟨j, H5, v13, rcs⟩ ⟨hj, hg5, hF, hrl, hall⟩
 dsimp only at hj hg5 hF hrl hall ⊢
 (repeat (first | apply Wp.za | apply Wp.zb)); (apply Wp.zh; (repeat (apply Ex.zc; (simp (disch := omega) [-getElem?_pos, hlo]; rfl))); exact Ex.zn; rfl; (simp; rfl))
 (repeat (first | apply Wp.za | apply Wp.zb)); apply Wp.ite rfl
 ·intro hjl
  apply Wp.zd
  obtain ⟨o, hoj⟩ : ∃ o, ops[j]? = some o := ⟨_, List.getElem?_eq_getElem (by omega)⟩
  obtain ⟨Ro, vo, oo, ko, xo, co, e1, e2, e3, e4⟩ := ho.at (i := j) (e := o.cells) (by rw [List.getElem?_map, hoj]; rfl)
  rw [List.length_map] at e1
  have hRo := hol _ _ _ _ _ _ _ e1
  have hval := hov o (List.mem_of_getElem? hoj)
  have hv32 := hval.len
  have c0 := zk5 e4 (j := 0) (by omega)
  have c2 := zk5 e4 (j := 2) (by omega)
  have c3 : (co.drop (oo + j * 35 + 3)).take 32 = o.val := by
   have h35 := congrArg (fun l => (l.drop 3).take 32) e4
   simp only [List.drop_take, List.drop_drop, List.take_take] at h35
   have hd : (List.drop 3 o.cells).take 32 = o.val := by
    show o.val.take 32 = _
    exact List.take_of_length_le (by omega)
   rw [hd] at h35
   simpa [-getElem?_pos] using h35
  have k0 : o.cells[0]? = some (vi o.kind) := rfl
  have k2 : o.cells[2]? = some (vi o.blk) := rfl
  rw [k0, Nat.add_zero] at c0
  rw [k2] at c2
  have hgn4 := hg04.next
  obtain ⟨H6, h5, hg6⟩ := row 5 H5 (hg14.trans hg5)
  obtain ⟨p1, p2, p3⟩ := f0 5
  obtain ⟨H7, hw7, hg7, hc7, hn7⟩ := zx6 H6 (z := zpv) (e := zyn 5 c t 0 (-1) zzd ns) p1 (by omega) p2
  have hg57 := hg6.trans hg7
  have hg07 := hg04.trans (hg5.trans hg57)
  have hro7 : H7.rowAt Ro vo = some co := by rw [hg07.rowAt hRo]; exact e2
  have hbq : AVal.beqs o.val o.val = true := zyq hval.bytes
  have hZ : H.next ≤ H6.next := by have := hg5.next; have := hg6.next; omega
  have hn56 : H5.next ≤ H6.next := hg6.next
  have fill : ∀ (k' : Int) (Hc : zz6), Cells Hc H6.next (zyn k' c t 0 (-1) zzd ns) → ∃ Ha Hb, Hc.write H6.next 0 4 [vi o.blk] = some Ha ∧ Ha.write H6.next 0 5 o.val = some Hb ∧ Cells Hb H6.next (zyn k' c t 0 o.blk o.val ns) ∧ Ha.next = Hc.next ∧ Hb.next = Hc.next ∧ (∀ A, A ≠ H6.next → Ha.get A = Hc.get A) ∧ ∀ A, A ≠ H6.next → Hb.get A = Hc.get A := fun k' Hc hc => by
   have w1 := Cells.write hc (off := 4) (vs := [vi o.blk]) (by simp) (by simp [-getElem?_pos, zyn]) rfl
   have s1 : spl (zyn k' c t 0 (-1) zzd ns) 4 [vi o.blk] = zyn k' c t 0 o.blk zzd ns := rfl
   rw [s1] at w1
   have hc2 : Cells (Hc.set H6.next (.row [some (0, zyn k' c t 0 o.blk zzd ns)])) H6.next (zyn k' c t 0 o.blk zzd ns) := zz6.zzy _ _ _
   have w2 := Cells.write hc2 (off := 5) (vs := o.val) (by omega) (by simp [-getElem?_pos, zyn, hv32]) hval.one
   have s2 : spl (zyn k' c t 0 o.blk zzd ns) 5 o.val = zyn k' c t 0 o.blk o.val ns := by
    simp only [spl, hv32]; rfl
   rw [s2] at w2
   exact ⟨_, _, w1, w2, zz6.zzy _ _ _, rfl, rfl, fun A hA => zz6.zzz _ _ hA, fun A hA => by rw [zz6.zzz _ _ hA, zz6.zzz _ _ hA]⟩
  have put : ∀ (k' : Int) (Hb : zz6), Grow H5 Hb → ∃ v' H', zzf (Hb.push (.row [some (0, zyn k' c t 0 o.blk o.val ns)])) 41 120 v13 (.slice Hb.next 0 0 1 1 true 41) = some (v', H') ∧ Grow H4 H' ∧ GrF H' H4.next 41 v' (rcs ++ [zyn k' c t 0 o.blk o.val ns]) ∧ ∀ rc ∈ rcs ++ [zyn k' c t 0 o.blk o.val ns], zvt H pr rc := fun k' Hb hg => by
   obtain ⟨z1, z2, z3⟩ := zq9 (k := k') (c := c) (t := t) (p := 0) (b := o.blk) (sv := ns) hval rfl
   obtain ⟨v', H', a1, a2, a3, a4⟩ := (hF.move (H' := Hb.push (.row [some (0, zyn k' c t 0 o.blk o.val ns)])) (by have := hg.next; simp [-getElem?_pos]; omega) fun A _ hA => by rw [zz6.zz9 _ _ (by have := hg.next; omega), hg.get A hA]).app (bytes := 120) (by have := hg5.next; have := hg.next; simp [-getElem?_pos]; omega) (fs := [zyn k' c t 0 o.blk o.val ns]) (w := .slice Hb.next 0 0 1 1 true 41) ⟨by simpa [-getElem?_pos] using z1, .inr ⟨Hb.next, 0, 0, 1, true, zyn k' c t 0 o.blk o.val ns, rfl, by simp [-getElem?_pos], by simp [-getElem?_pos], by simp [-getElem?_pos, z1], by simp [-getElem?_pos, z3]⟩⟩ (by simp) (by omega) (by omega) (by simpa [-getElem?_pos] using z2) (by simp; omega)
   simp only [zz6.zyc] at a3
   have hgH : Grow H4 H' := ⟨by have := hg5.next; have := hg.next; omega, fun A hA => by rw [a4 A hA, zz6.zz9 _ _ (by have := hg5.next; have := hg.next; omega), hg.get A (by have := hg5.next; omega), hg5.get A hA]⟩
   refine ⟨v', H', a1, hgH, .inr a2, fun rc hrc => ?_⟩
   rcases List.mem_append.1 hrc with hrc | hrc
   ·exact hall rc hrc
   ·simp [-getElem?_pos] at hrc; subst hrc; exact zvt.bare hval
  by_cases h3 : o.kind = 3
  ·obtain ⟨H8, h6, hg8⟩ := row 6 H7 (hg14.trans (hg5.trans hg57))
   obtain ⟨u1, u2, u3⟩ := f0 6
   have hc8 : Cells H8 H6.next (zyn 5 c t 0 (-1) zzd ns) := by unfold Cells; rw [hg8.get _ (by omega)]; exact hc7
   have hw9 := Cells.write hc8 (off := 0) (vs := zyn 6 c t 0 (-1) zzd ns) (by simp [-getElem?_pos, zyn]) (by simp [-getElem?_pos, zyn]) u2
   have s9 : spl (zyn 5 c t 0 (-1) zzd ns) 0 (zyn 6 c t 0 (-1) zzd ns) = zyn 6 c t 0 (-1) zzd ns := by simp [-getElem?_pos, zyn]
   rw [s9] at hw9
   obtain ⟨H9, hH9⟩ : ∃ H9, H9 = H8.set H6.next (.row [some (0, zyn 6 c t 0 (-1) zzd ns)]) := ⟨_, rfl⟩
   rw [← hH9] at hw9
   have hc9 : Cells H9 H6.next (zyn 6 c t 0 (-1) zzd ns) := by rw [hH9]; exact zz6.zzy _ _ _
   obtain ⟨Ha, Hb, wa, wb, hcb, na, nb, ka, kb⟩ := fill 6 H9 hc9
   have hn9 : H9.next = H8.next := by rw [hH9]; rfl
   have hk9 : ∀ A, A ≠ H6.next → H9.get A = H8.get A := fun A hA => by rw [hH9, zz6.zzz _ _ hA]
   have hg5b : Grow H5 Hb := ⟨by have := hg57.next; have := hg8.next; omega, fun A hA => by rw [kb A (by omega), hk9 A (by omega), hg8.get A (by have := hg57.next; omega), hg57.get A hA]⟩
   obtain ⟨v', H', a1, a2, a3, a4⟩ := put 6 Hb hg5b
   have hn5 := hg5.next
   have hro9 : H9.rowAt Ro vo = some co := by rw [zzk, hk9 Ro (by omega), ← zzk, hg8.rowAt (by have := hg07.next; omega)]; exact hro7
   have hroa : Ha.rowAt Ro vo = some co := by rw [zzk, ka Ro (by omega), ← zzk]; exact hro9
   have hXb := hcb.at
   obtain ⟨z1, z2, z3⟩ := zq9 (k := 6) (c := c) (t := t) (p := 0) (b := o.blk) (sv := ns) hval rfl
   clear fill put hc9 hcb hc8 hc7 s9 hH9 f0 row
   generalize zyn 6 c t 0 o.blk o.val ns = rx at a1 a3 a4 hXb z1 z2 z3
   generalize zyn 6 c t 0 (-1) zzd ns = ry at h6 hw9 u1 u2 u3
   generalize zyn 5 c t 0 (-1) zzd ns = rz at h5 hw7 p1 p2 p3
   repeat (first | apply Wp.za | apply Wp.zb | apply Wp.zc | apply Wp.zd | apply Wp.ze | apply Wp.zf rfl | apply Wp.zg rfl | ((apply Wp.zh; (repeat (apply Ex.zc; (simp (disch := omega) [-getElem?_pos, h5, p1, hw7, e1, hro7, c0, h3, h6, u1, hw9, hro9, c2, c3, hv32, wa, hroa, hbq, wb, hXb, z1, z3, a1, zzm, zx1]; rfl))); exact Ex.zn; rfl; (simp; rfl))) | ((apply Wp.zi; (repeat ((first | apply Dr.q rfl rfl | apply Dr.r rfl rfl | apply Dr.imm rfl); (simp (disch := omega) [-getElem?_pos, h5, p1, hw7, e1, hro7, c0, h3, h6, u1, hw9, hro9, c2, c3, hv32, wa, hroa, hbq, wb, hXb, z1, z3, a1, zzm, zx1]; rfl); (focus first | (simp; rfl) | (simp; done) | (simp; omega)))); exact Dr.nil; rfl; (first | (focus (simp (disch := omega) [-getElem?_pos, h5, p1, hw7, e1, hro7, c0, h3, h6, u1, hw9, hro9, c2, c3, hv32, wa, hroa, hbq, wb, hXb, z1, z3, a1, zzm, zx1]; done)) | rfl); (simp; rfl))))
   exact ⟨(j + 1, H', v', rcs ++ [rx]), rfl, ⟨by dsimp only; omega, a2, a3, by simp; omega, a4⟩, by dsimp only; omega, by simp [-getElem?_pos, e1]⟩
  ·obtain ⟨Ha, Hb, wa, wb, hcb, na, nb, ka, kb⟩ := fill 5 H7 hc7
   have hg5b : Grow H5 Hb := ⟨by have := hg57.next; omega, fun A hA => by rw [kb A (by omega), hg57.get A hA]⟩
   obtain ⟨v', H', a1, a2, a3, a4⟩ := put 5 Hb hg5b
   have hn5 := hg5.next
   have hroa : Ha.rowAt Ro vo = some co := by rw [zzk, ka Ro (by omega), ← zzk]; exact hro7
   have hXb := hcb.at
   obtain ⟨z1, z2, z3⟩ := zq9 (k := 5) (c := c) (t := t) (p := 0) (b := o.blk) (sv := ns) hval rfl
   clear fill put hcb hc7 f0 row
   generalize zyn 5 c t 0 o.blk o.val ns = rx at a1 a3 a4 hXb z1 z2 z3
   generalize zyn 5 c t 0 (-1) zzd ns = rz at h5 hw7 p1 p2 p3
   repeat (first | apply Wp.za | apply Wp.zb | apply Wp.zc | apply Wp.zd | apply Wp.ze | apply Wp.zf rfl | apply Wp.zg rfl | ((apply Wp.zh; (repeat (apply Ex.zc; (simp (disch := omega) [-getElem?_pos, h5, p1, hw7, e1, hro7, c0, h3, c2, c3, hv32, wa, hroa, hbq, wb, hXb, z1, z3, a1, zzm, zx1]; rfl))); exact Ex.zn; rfl; (simp; rfl))) | ((apply Wp.zi; (repeat ((first | apply Dr.q rfl rfl | apply Dr.r rfl rfl | apply Dr.imm rfl); (simp (disch := omega) [-getElem?_pos, h5, p1, hw7, e1, hro7, c0, h3, c2, c3, hv32, wa, hroa, hbq, wb, hXb, z1, z3, a1, zzm, zx1]; rfl); (focus first | (simp; rfl) | (simp; done) | (simp; omega)))); exact Dr.nil; rfl; (first | (focus (simp (disch := omega) [-getElem?_pos, h5, p1, hw7, e1, hro7, c0, h3, c2, c3, hv32, wa, hroa, hbq, wb, hXb, z1, z3, a1, zzm, zx1]; done)) | rfl); (simp; rfl))))
   exact ⟨(j + 1, H', v', rcs ++ [rx]), rfl, ⟨by dsimp only; omega, a2, a3, by simp; omega, a4⟩, by dsimp only; omega, by simp [-getElem?_pos, e1]⟩
 ·intro hjl
  apply Wp.ze
  have hn5 := hg5.next
  obtain ⟨K1, k1, kg1⟩ := row 8 H5 (hg14.trans hg5)
  obtain ⟨K2, k2, kg2⟩ := row 11 K1 (hg14.trans (hg5.trans kg1))
  obtain ⟨K3, k3, kg3⟩ := row 13 K2 (hg14.trans (hg5.trans (kg1.trans kg2)))
  obtain ⟨K4, K5, K6, K7, K8, K9, K10, w4, w5, w6, w7, w8, w9, w10, kg10, x8, x11, x13⟩ := yu8 (K := K3) (t := t) (c := c) (p := p)
  have hg5K := kg1.trans (kg2.trans (kg3.trans kg10))
  obtain ⟨a1, a2, a3⟩ := f0 8
  obtain ⟨b1, b2, b3⟩ := zq9 (k := 11) (c := 8) (t := t) (p := p) (b := -1) (sv := ns) zxp rfl
  obtain ⟨d1, d2, d3⟩ := zq9 (k := 13) (c := 8) (t := t) (p := p) (b := -1) (sv := ns) zxp rfl
  obtain ⟨a11, _, _⟩ := f0 11
  obtain ⟨a13, _, _⟩ := f0 13
  have i8 : zvt H pr (zyn 8 c t 0 (-1) zzd ns) := zvt.bare zxp
  have i11 : zvt H pr (zyn 11 8 t p (-1) zzd ns) := zvt.bare zxp
  have i13 : zvt H pr (zyn 13 8 t p (-1) zzd ns) := zvt.bare zxp
  clear f0 row
  generalize zyn 8 c t 0 (-1) zzd ns = ra at k1 w4 x8 a1 a2 a3 i8
  generalize zyn 11 8 t p (-1) zzd ns = rb at x11 b1 b2 b3 i11
  generalize zyn 13 8 t p (-1) zzd ns = rd at x13 d1 d2 d3 i13
  generalize zyn 11 c t 0 (-1) zzd ns = ry at k2 w5 a11
  generalize zyn 13 c t 0 (-1) zzd ns = rz at k3 w6 a13
  have hfl := yje (z := zx1 3 zpv) a1 b1 d1 rfl
  obtain ⟨v', H', g1, g2, g3, g4⟩ := (hF.move (H' := K10.push (.row [some (0, ra ++ (rb ++ rd))])) (by have := hg5K.next; simp [-getElem?_pos]; omega) fun A _ hA => by rw [zz6.zz9 _ _ (by have := hg5K.next; omega), hg5K.get A hA]).app (bytes := 120) (by have := hg5K.next; simp [-getElem?_pos]; omega) (fs := [ra, rb, rd]) (w := .slice K10.next 0 0 3 3 true 41) ⟨by simp [-getElem?_pos, a1, b1, d1], .inr ⟨K10.next, 0, 0, 3, true, ra ++ (rb ++ rd), rfl, by simp [-getElem?_pos], by simp [-getElem?_pos], by simp [-getElem?_pos, a1, b1, d1], by simp [-getElem?_pos, List.take_of_length_le, a1, b1, d1]⟩⟩ (by simp) (by omega) (by omega) (fun e he => by
   simp [-getElem?_pos] at he
   rcases he with rfl | rfl | rfl
   ·exact a2
   ·exact b2
   ·exact d2) (by simp; omega)
  simp only [zz6.zyc] at g3
  have hgH : Grow H4 H' := ⟨by have := hg5K.next; omega, fun A hA => by rw [g4 A hA, zz6.zz9 _ _ (by have := hg5K.next; omega), hg5K.get A (by omega), hg5.get A hA]⟩
  have hgn := hg04.next
  repeat (first | apply Wp.za | apply Wp.zb | apply Wp.zc | apply Wp.zd | apply Wp.ze | apply Wp.zf rfl | apply Wp.zg rfl | ((apply Wp.zh; (repeat (apply Ex.zc; (simp (disch := omega) [-getElem?_pos, k1, k2, k3, a1, a11, a13, w4, w5, w6, w7, w8, w9, w10, x8, x11, x13, a3, b1, b3, d1, d3, hfl, g1]; rfl))); exact Ex.zn; rfl; (simp; rfl))))
  simp [-getElem?_pos, a36]
  refine ⟨hg04.trans hgH, rcs ++ [ra, rb, rd], by simpa [-getElem?_pos] using g2.move (base' := H.next) (by omega) (Nat.le_refl _) fun _ _ _ => rfl, by simp [-getElem?_pos], by simp; omega, fun rc hrc => ?_⟩
  rcases List.mem_append.1 hrc with hrc | hrc
  ·exact hall rc hrc
  ·simp [-getElem?_pos] at hrc
   rcases hrc with rfl | rfl | rfl
   ·exact i8
   ·exact i11
   ·exact i13
abbrev zvh (z : Int) : List AVal := [v8 z, zb, zb, zb, zb, zb, zb, zb, zb, zb, zb, zb, zb, zb, zb, zb, zb, zb, zb, zb, zb, zb, zb, zb, zb, zb, zb, zb, zb, zb, zb, zb]
theorem zvb (z : Int) : zyr (zvh z) := ⟨rfl, fun c hc => by
 simp only [zvh, List.mem_cons, List.not_mem_nil, or_false] at hc
 rcases hc with rfl | hc
 ·exact ⟨_, rfl⟩
 ·exact ⟨0, by rcases hc with rfl | rfl | rfl | rfl | rfl | rfl | rfl | rfl | rfl | rfl | rfl | rfl | rfl | rfl | rfl | rfl | rfl | rfl | rfl | rfl | rfl | rfl | rfl | rfl | rfl | rfl | rfl | rfl | rfl | rfl | rfl <;> rfl⟩⟩
theorem yqq {rcs : List (List AVal)} (hs : zzw H N 41 v rcs) (h : ∀ rc ∈ rcs, zvt H (· < H.next) rc) : ∃ rows : List RowD, rows.length = rcs.length ∧ zwz H H.next v rows := by
 have one : ∀ k, k < rcs.length → ∃ r : RowD, ∃ rc sv, rcs[k]? = some rc ∧ RowC rc r ∧ zuu H H.next rc r sv := fun k hk => by
  obtain ⟨r, sv, h1, h2, h3, h4, h5⟩ := h rcs[k] (List.getElem_mem hk)
  exact ⟨r, _, sv, List.getElem?_eq_getElem hk, h1, h2, h3, h4, h5⟩
 refine ⟨(List.range rcs.length).map fun i => if hi : i < rcs.length then (one i hi).choose else ⟨0, 0, 0, 0, 0, [], 0, 0, 0, []⟩, by simp [-getElem?_pos], rcs, hs.rd, fun R ver off len kc ex esz e => (hs.lies _ _ _ _ _ _ _ e).2, by simp [-getElem?_pos], fun k rc r a b => ?_⟩
 have hk := (List.getElem?_eq_some_iff.1 a).1
 rw [List.getElem?_map, List.getElem?_range hk] at b
 simp only [Option.map_some, dif_pos hk, Option.some.injEq] at b
 obtain ⟨rc', sv, h1, h2, h3⟩ := (one k hk).choose_spec
 rw [a] at h1; cases h1
 rw [b] at h2 h3
 exact ⟨h2, sv, h3⟩
end Go.Proofs.Ythbjfkkjmecaaaa
