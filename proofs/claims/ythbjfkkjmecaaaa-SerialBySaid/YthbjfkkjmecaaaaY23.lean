/- Walks: a copy of a list, a search in a rising list; a transaction of the book, changed. -/
import Derived.Test.YthbjfkkjmecaaaaY21
import Derived.Test.YthbjfkkjmecaaaaY22
set_option linter.unusedVariables false
set_option linter.unusedSimpArgs false
namespace Go.Proofs.Ythbjfkkjmecaaaa
open Go Go.Vm
section
variable {kn : zy0} {env : Nat → Option zzq}
variable {H H' H1 : zz6} {N B M clock i : Nat} {b : List TxD} {tv sv rv wv sv' rv' wv' : AVal} {es : zzb} {tvs : List (List AVal)} {o o' o1 : Nat → Nat} {e : List AVal} {x x' : TxD} {r : RowD} {rc : List AVal}
theorem Bk.putTx (hb : Bk H N B b tv M es clock tvs o) {k f : Nat} {y : AVal} (hx : b[k]? = some x) (he : tvs[k]? = some (txc x sv rv wv)) (hn : H.next ≤ H1.next) (hg : ∀ A, A < H.next → o A ≠ 3 * k + 3 → o A ≠ 3 * k + 4 → o A ≠ 3 * k + 5 → H1.get A = H.get A)
  (hgN : ∀ A, A < N → H1.get A = H.get A) (ho : ∀ A, A < H.next → o1 A = o A) (hT : TxAt H1 N o1 k (txc x' sv' rv' wv') x' sv' rv' wv') (hspl : spl (txc x sv rv wv) f [y] = txc x' sv' rv' wv') (hf : f < 12) (hy : y.one = true) (hon : x'.on = x.on) (hcl : x'.client = x.client) :
  ∃ R ver H2 tvs', tv = .slice R ver 0 b.length b.length false 12 ∧ H1.write R ver (k * 12 + f) [y] = some H2 ∧ Bk H2 N B (b.set k x') tv M es clock tvs' o1 ∧ H2.next = H1.next ∧ (∀ A, A < N → H2.get A = H.get A) ∧ tvs'[k]? = some (txc x' sv' rv' wv') ∧ ∀ A, A ≠ R → H2.get A = H1.get A := by
 have hk := (List.getElem?_eq_some_iff.1 hx).1
 have hl := hb.each.1
 have hs1 : zzw H1 N 12 tv tvs := zza hb.txs hb.txsL hn fun A _ a c => hg A a (by omega) (by omega) (by omega)
 have hL1 : zs4 N H1 o1 2 tv := hb.txsL.move hn ho
 obtain ⟨R, ver, H2, g1, g2, g3, g4, g5, g6, g7⟩ := hs1.store he (f := f) (vals := [y]) (by simp) (by simp; omega) (by simp [-getElem?_pos, hy])
 rw [hl] at g1
 have hR2 : o1 R = 2 := (hL1 _ _ _ _ _ _ _ g1).2.2
 have h27 : ∀ A, o1 A ≠ 2 → H2.get A = H1.get A := fun A hA => g7 A fun e => hA (by rw [e, hR2])
 have hB := hb.hB
 have hM := hb.hM
 refine ⟨R, ver, H2, _, g1, g4, ⟨?_, ?_, ?_, g5, by rw [hspl] at *; exact hL1.move (by omega) fun _ _ => rfl, ⟨by simp [-getElem?_pos, hl], fun i e z hi hz => ?_⟩, by rw [ho B hB.2, hb.oB], by rw [ho M hM.2, hb.oM], ⟨hB.1, by omega⟩, ⟨hM.1, by omega⟩⟩, g6, fun A hA => by rw [g7 A (by omega), hgN A hA], ?_, g7⟩
 ·show H2.get B = _
  rw [h27 B (by rw [ho B hB.2, hb.oB]; omega), hg B hB.2 (by rw [hb.oB]; omega) (by rw [hb.oB]; omega) (by rw [hb.oB]; omega)]; exact hb.cells
 ·rw [h27 M (by rw [ho M hM.2, hb.oM]; omega), hg M hM.2 (by rw [hb.oM]; omega) (by rw [hb.oM]; omega) (by rw [hb.oM]; omega)]; exact hb.map
 ·refine hb.ok.same (zl5 (by simp) fun j => ?_) fun j _ => zvv hx hcl
  unfold zlf
  rw [List.getElem?_set]
  by_cases e : k = j
  ·subst e; rw [if_pos rfl, if_pos hk, hx]; exact hon
  ·rw [if_neg e]
 ·rw [List.getElem?_set] at hi hz
  by_cases e1 : k = i
  ·subst e1
   rw [if_pos rfl, if_pos (by omega)] at hi hz
   cases hi; cases hz
   rw [hspl]
   exact ⟨sv', rv', wv', hT.move (by omega) (fun A _ _ hA => h27 A (by omega)) fun _ _ => rfl⟩
  ·rw [if_neg e1] at hi hz
   obtain ⟨sv, rv, wv, h⟩ := hb.each.2 i e z hi hz
   have h1 := h.move (H' := H1) (o' := o1) hn (fun A _ a hA => hg A a (by omega) (by omega) (by omega)) ho
   exact ⟨sv, rv, wv, h1.move (by omega) (fun A _ _ hA => h27 A (by omega)) fun _ _ => rfl⟩
 ·rw [List.getElem?_set_self (by omega), hspl]
abbrev ints (l : List Int) : List (List AVal) := l.map fun n => [vi n]
theorem zmy (l : List Int) : ∀ e ∈ ints l, e.all AVal.one = true := fun e he => by
 obtain ⟨n, _, rfl⟩ := List.mem_map.1 he
 rfl
theorem c111 (h : Fn kn env 111 a111) (n : Nat) {v : AVal} {l : List Int} (hv : RdE H 1 v (ints l)) (hvl : v.lies (· < H.next)) (hl : l.length * 8 ≤ 140737488355328) :
  ∃ v' H', zzp kn env (n + 1) (.func (.func 111) []) [v] H = some (v', H') ∧ Grow H H' ∧ yyt H' H.next v' l ∧ v'.lies (fun R => H.next ≤ R ∧ R < H'.next) ∧ v'.one = true := by
 rcases id hv with ⟨h0, ⟨rfl, h1⟩ | ⟨R, ver, off, kcap, ex, cells, rfl, h2⟩⟩
 ·have : l = [] := by simpa [-getElem?_pos] using h1
  subst this
  refine ⟨zxa, H, Wp.call1 8 [0, 2, 4] h.e (h.no _ _) rfl (by simp) ?_, Grow.refl _, .inl (zzw.nil _ _ _), (fun R ver off len kc ex esz e => by cases e), rfl⟩
  repeat (first | apply Wp.za | apply Wp.zb | apply Wp.zc | apply Wp.zd | apply Wp.ze | apply Wp.zf rfl | apply Wp.zg rfl | ((apply Wp.zh; (repeat (apply Ex.zc; (simp (disch := omega) [-getElem?_pos, zxh]; rfl))); exact Ex.zn; rfl; (simp; rfl))))
  simp [-getElem?_pos, a111]
 ·have hg := Grow.push H (.row [some (0, [])])
  have hv1 := hv.grow hg hvl
  by_cases hz : l = []
  ·subst hz
   refine ⟨.slice H.next 0 0 0 0 true 1, H.push (.row [some (0, [])]), Wp.call1 8 [0, 2, 4] h.e (h.no _ _) rfl (by simp) ?_, hg, .inr ⟨rfl, _, rfl, zz6.zzl _ _⟩, (fun R ver off len kc ex esz e => by cases e; simp [-getElem?_pos]), rfl⟩
   have ha : zzf (H.push (.row [some (0, [])])) 1 8 (.slice H.next 0 0 0 0 true 1) (.slice R ver off (ints []).length kcap ex 1) = some (.slice H.next 0 0 0 0 true 1, H.push (.row [some (0, [])])) := by
    have := hv1.aCells
    simp only [List.map_nil, List.length_nil] at this
    simp [-getElem?_pos, zzf, zjl, this]
   simp only [List.map_nil, List.length_nil] at ha
   repeat (first | apply Wp.za | apply Wp.zb | apply Wp.zc | apply Wp.zd | apply Wp.ze | apply Wp.zf rfl | apply Wp.zg rfl | ((apply Wp.zh; (repeat (apply Ex.zc; (simp (disch := omega) [-getElem?_pos, zxh, ha, zzm, zx1]; rfl))); exact Ex.zn; rfl; (simp; rfl))))
   simp [-getElem?_pos, a111]
  ·obtain ⟨ha, hs⟩ := hv1.appendNew (bytes := 8) (X := H.next) (by simpa [-getElem?_pos] using hz) (by omega) (by omega) (zmy l) (by simpa [-getElem?_pos] using hl) (by simp)
   refine ⟨_, _, Wp.call1 8 [0, 2, 4] h.e (h.no _ _) rfl (by simp) ?_, hg.trans (Grow.push _ _), .inl (hs.move (by simp) (Nat.le_refl _) fun _ _ _ => rfl), (fun R ver off len kc ex esz e => by cases e; simp [-getElem?_pos]), rfl⟩
   simp only [List.length_map] at ha
   repeat (first | apply Wp.za | apply Wp.zb | apply Wp.zc | apply Wp.zd | apply Wp.ze | apply Wp.zf rfl | apply Wp.zg rfl | ((apply Wp.zh; (repeat (apply Ex.zc; (simp (disch := omega) [-getElem?_pos, zxh, ha, zzm, zx1]; rfl))); exact Ex.zn; rfl; (simp; rfl))))
   simp [-getElem?_pos, a111]
def zpy (l : List ImgD) : Prop := l.Pairwise fun x y => x.blk < y.blk
theorem zbe {l : List ImgD} {x y : ImgD} (h : y ∈ zyx l x) : y ∈ l ∨ y = x := by
 induction l with
 | nil => simp [-getElem?_pos, zyx] at h; exact .inr h
 | cons z l ih =>
  unfold zyx at h
  split at h
  ·rcases List.mem_cons.1 h with rfl | h
   ·exact .inl (List.mem_cons_self ..)
   ·rcases ih h with h | h
    ·exact .inl (List.mem_cons_of_mem _ h)
    ·exact .inr h
  ·split at h
   ·rcases List.mem_cons.1 h with rfl | h
    ·exact .inr rfl
    ·exact .inl (List.mem_cons_of_mem _ h)
   ·rcases List.mem_cons.1 h with rfl | h
    ·exact .inr rfl
    ·exact .inl h
theorem zpy.write {l : List ImgD} (h : zpy l) (x : ImgD) : zpy (zyx l x) := by
 induction l with
 | nil => simp [-getElem?_pos, zyx, zpy]
 | cons z l ih =>
  obtain ⟨h1, h2⟩ := List.pairwise_cons.1 h
  unfold zyx
  split
  ·rename_i hlt
   refine List.pairwise_cons.2 ⟨fun y hy => ?_, ih h2⟩
   rcases zbe hy with hy | rfl
   ·exact h1 y hy
   ·exact hlt
  ·split
   ·rename_i he
    exact List.pairwise_cons.2 ⟨fun y hy => by rw [← he]; exact h1 y hy, h2⟩
   ·rename_i h3 h4
    refine List.pairwise_cons.2 ⟨fun y hy => ?_, h⟩
    rcases List.mem_cons.1 hy with rfl | hy
    ·omega
    ·have := h1 y hy; omega
theorem zrf : ∀ {l : List ImgD} {p : Nat} {x : ImgD}, p ≤ l.length → (∀ j y, j < p → l[j]? = some y → y.blk < x.blk) → (∀ y, l[p]? = some y → x.blk ≤ y.blk) →
  (∀ y, l[p]? = some y → y.blk = x.blk → zyx l x = l.set p x) ∧ ((∀ y, l[p]? = some y → y.blk ≠ x.blk) → zyx l x = l.take p ++ x :: l.drop p)
 | [], p, x, hp, h1, h2 => by
  have : p = 0 := by simpa [-getElem?_pos] using hp
  subst this
  simp [-getElem?_pos, zyx]
 | z :: l, 0, x, hp, h1, h2 => by
  have := h2 z rfl
  refine ⟨fun y hy e => ?_, fun hn => ?_⟩
  ·simp [-getElem?_pos] at hy; subst hy
   unfold zyx
   rw [if_neg (by omega), if_pos e]; rfl
  ·have := hn z rfl
   unfold zyx
   rw [if_neg (by omega), if_neg (by omega)]; rfl
 | z :: l, p + 1, x, hp, h1, h2 => by
  have hz := h1 0 z (by omega) rfl
  obtain ⟨g1, g2⟩ := zrf (l := l) (p := p) (x := x) (by simpa [-getElem?_pos] using hp) (fun j y hj hy => h1 (j + 1) y (by omega) hy) (fun y hy => h2 y hy)
  unfold zyx
  rw [if_pos hz]
  refine ⟨fun y hy e => ?_, fun hn => ?_⟩
  ·rw [g1 y hy e]; rfl
  ·rw [g2 fun y hy => hn y hy]; rfl
theorem c120 (h : Fn kn env 120 a120) (n : Nat) {e : List AVal} {z y : Int} (he : e[0]? = some (vi z)) (hl : e.length = 33) :
  zzp kn env (n + 1) (.func (.func 120) []) [.agg e, vi y] H = some (vi (if z < y then -1 else if y < z then 1 else 0), H.push (.row [some (0, e)])) := by
 by_cases h1 : z < y
 ·refine Wp.call1 15 [0, 1, 2, 4, 5, 10] h.e (h.no _ _) rfl (by simp) ?_
  repeat (first | apply Wp.za | apply Wp.zb | apply Wp.zc | apply Wp.zd | apply Wp.ze | apply Wp.zf rfl | apply Wp.zg rfl | ((apply Wp.zh; (repeat (apply Ex.zc; (simp (disch := omega) [-getElem?_pos, he, hl]; rfl))); exact Ex.zn; rfl; (simp; rfl))))
  simp [-getElem?_pos, a120, h1]
 ·by_cases h2 : y < z
  ·refine Wp.call1 15 [0, 1, 2, 4, 5, 10] h.e (h.no _ _) rfl (by simp) ?_
   repeat (first | apply Wp.za | apply Wp.zb | apply Wp.zc | apply Wp.zd | apply Wp.ze | apply Wp.zf rfl | apply Wp.zg rfl | ((apply Wp.zh; (repeat (apply Ex.zc; (simp (disch := omega) [-getElem?_pos, he, hl]; rfl))); exact Ex.zn; rfl; (simp; rfl))))
   simp [-getElem?_pos, a120, h1, h2]
  ·refine Wp.call1 15 [0, 1, 2, 4, 5, 10] h.e (h.no _ _) rfl (by simp) ?_
   repeat (first | apply Wp.za | apply Wp.zb | apply Wp.zc | apply Wp.zd | apply Wp.ze | apply Wp.zf rfl | apply Wp.zg rfl | ((apply Wp.zh; (repeat (apply Ex.zc; (simp (disch := omega) [-getElem?_pos, he, hl]; rfl))); exact Ex.zn; rfl; (simp; rfl))))
   simp [-getElem?_pos, a120, h1, h2]
abbrev zhh (l : List ImgD) : List (List AVal) := l.map ImgD.cells
structure yk0 (l : List ImgD) (y : Int) (p : Nat) : Prop where
 le : p ≤ l.length
 lt : ∀ j z, j < p → l[j]? = some z → z.blk < y
 ge : ∀ z, l[p]? = some z → y ≤ z.blk
theorem yxp {l : List ImgD} (h : zpy l) {i j : Nat} {x y : ImgD} (hx : l[i]? = some x) (hy : l[j]? = some y) (hij : i < j) : x.blk < y.blk := by
 obtain ⟨h1, rfl⟩ := List.getElem?_eq_some_iff.1 hx
 obtain ⟨h2, rfl⟩ := List.getElem?_eq_some_iff.1 hy
 exact List.pairwise_iff_getElem.1 h i j h1 h2 hij
theorem c119 (h : Fn kn env 119 a119) (h120 : Fn kn env 120 a120) (n : Nat) {l : List ImgD} (hs : zzw H N 33 wv (zhh l)) (hr : zpy l) (hl : l.length < 1000000000000) (hn : l.length + 5 < n) (y : Int) :
  ∃ p fd H', zzp kn env (n + 2) (.func (.func 119) []) [wv, vi y, .func (.func 120) []] H = some (.tuple [vi (p : Nat), zzt fd], H') ∧ Grow H H' ∧ yk0 l y p ∧ (fd = true ↔ ∃ z, l[p]? = some z ∧ z.blk = y) := by
 have hlen : zyy wv = some (vi l.length) := by have := hs.rd.lenS; simpa [-getElem?_pos] using this
 have c := fun (H' : zz6) (z : ImgD) (hz : z ∈ l) => c120 h120 n (H := H') (e := z.cells) (z := z.blk) (y := y) rfl
 have key : ∀ Q : Exit → KS → Prop, (∀ (p : Nat) H', Grow H H' → yk0 l y p → Wp (zzp kn env (n + 1)) (n + 1) 49 [0, 1, 2, 6, 7, 8, 9, 10, 11, 17, 31] (zj9 (zj9 (zj9 (zj9 a119.code)))) ([(0, wv), (1, vi y), (2, .func (.func 120) []), (8, vi l.length), (9, vi p)], H') Q) →
   Wp (zzp kn env (n + 1)) (n + 1) 49 [0, 1, 2, 6, 7, 8, 9, 10, 11, 17, 31] a119.code ([(0, wv), (1, vi y), (2, .func (.func 120) [])], H) Q := by
  intro Q hQ
  (repeat (first | apply Wp.za | apply Wp.zb)); (apply Wp.zh; (repeat (apply Ex.zc; (simp (disch := omega) [-getElem?_pos]; rfl))); exact Ex.zn; rfl; (simp; rfl))
  (repeat (first | apply Wp.za | apply Wp.zb)); (apply Wp.zh; (repeat (apply Ex.zc; (simp (disch := omega) [-getElem?_pos, hlen]; rfl))); exact Ex.zn; rfl; (simp; rfl))
  (repeat (first | apply Wp.za | apply Wp.zb)); (apply Wp.zh; (repeat (apply Ex.zc; (simp (disch := omega) [-getElem?_pos]; rfl))); exact Ex.zn; rfl; (simp; rfl))
  repeat (first | apply Wp.za | apply Wp.zb)
  apply Wp.loop (α := Nat × Nat × zz6) (fun x => [(0, wv), (1, vi y), (2, .func (.func 120) []), (8, vi l.length), (9, vi x.1), (10, vi x.2.1)]) (·.2.2) (fun x => x.1 ≤ x.2.1 ∧ x.2.1 ≤ l.length ∧ Grow H x.2.2 ∧ (∀ j z, j < x.1 → l[j]? = some z → z.blk < y) ∧ ∀ z, l[x.2.1]? = some z → y ≤ z.blk)
   (fun x => x.2.1 - x.1) (0, l.length, H) rfl ⟨by omega, Nat.le_refl _, Grow.refl _, fun j z hj => by omega, fun z hz => by simp [-getElem?_pos] at hz⟩ (by simp; omega) (by simp)
  rintro ⟨i, j, H1⟩ ⟨hij, hjl, hg, hlt, hge⟩
  dsimp only at hij hjl hg hlt hge ⊢
  (repeat (first | apply Wp.za | apply Wp.zb)); (apply Wp.zh; (repeat (apply Ex.zc; (simp (disch := omega) [-getElem?_pos]; rfl))); exact Ex.zn; rfl; (simp; rfl))
  (repeat (first | apply Wp.za | apply Wp.zb)); apply Wp.ite rfl
  ·intro hc
   apply Wp.zd
   obtain ⟨m, hme⟩ : ∃ m, m = (i + j) / 2 := ⟨_, rfl⟩
   have hfd : ((i : Int) + j).fdiv 2 = (m : Nat) := by
    rw [Int.fdiv_eq_ediv_of_nonneg _ (by omega)]; omega
   have hm : m < l.length := by omega
   obtain ⟨z, hz⟩ : ∃ z, l[m]? = some z := ⟨_, List.getElem?_eq_getElem hm⟩
   have hzc : z.cells.length = 33 := hs.1 _ (by simp [-getElem?_pos]; exact ⟨z, List.mem_of_getElem? hz, rfl⟩)
   obtain ⟨R, ver, cells, h1, h2, h3, h4, h5, _, h6⟩ := hs.load (i := m) (e := z.cells) (by simp [-getElem?_pos, hz])
   rw [← hg.rowAt h3] at h4
   simp only [List.length_map] at h1
   have w := c H1 z (List.mem_of_getElem? hz) hzc
   (repeat (first | apply Wp.za | apply Wp.zb)); (apply Wp.zh; (repeat (apply Ex.zc; (simp (disch := omega) [-getElem?_pos, IntKind.bits, hfd]; rfl))); exact Ex.zn; rfl; (simp; rfl))
   by_cases hzy : z.blk < y
   ·rw [if_pos hzy] at w
    (repeat (first | apply Wp.za | apply Wp.zb)); (apply Wp.zh; (repeat (apply Ex.zc; (simp (disch := omega) [-getElem?_pos, h1, h4, h6, w]; rfl))); exact Ex.zn; rfl; (simp; rfl))
    apply Wp.zf rfl
    (repeat (first | apply Wp.za | apply Wp.zb)); (apply Wp.zh; (repeat (apply Ex.zc; (simp (disch := omega) [-getElem?_pos]; rfl))); exact Ex.zn; rfl; (simp; rfl))
    refine ⟨(m + 1, j, _), rfl, ⟨by show m + 1 ≤ j; omega, hjl, hg.trans (Grow.push _ _), fun q u hq hu => ?_, hge⟩, by show j - (m + 1) < j - i; omega, by simp [-getElem?_pos, h1]⟩
    by_cases e : q = m
    ·subst e; rw [hz] at hu; cases hu; exact hzy
    ·have := yxp hr hu hz (by have : q < m + 1 := hq; omega); omega
   ·rw [if_neg hzy] at w
    have hw0 : ¬ (if y < z.blk then (1 : Int) else 0) < 0 := by split <;> omega
    (repeat (first | apply Wp.za | apply Wp.zb)); (apply Wp.zh; (repeat (apply Ex.zc; (simp (disch := omega) [-getElem?_pos, h1, h4, h6, w]; rfl))); exact Ex.zn; rfl; (simp; rfl))
    apply Wp.zg rfl
    (repeat (first | apply Wp.za | apply Wp.zb)); (apply Wp.zh; (repeat (apply Ex.zc; (simp (disch := omega) [-getElem?_pos]; rfl))); exact Ex.zn; rfl; (simp; rfl))
    refine ⟨(i, m, _), rfl, ⟨by show i ≤ m; omega, by show m ≤ _; omega, hg.trans (Grow.push _ _), hlt, fun u hu => by rw [hz] at hu; cases hu; omega⟩, by show m - i < j - i; omega, by simp [-getElem?_pos, h1]⟩
  ·intro hc
   apply Wp.ze
   have : i = j := by omega
   subst this
   exact Wp.sub [(0, wv), (1, vi y), (2, .func (.func 120) []), (8, vi l.length), (9, vi i)] (hQ i H1 hg ⟨by omega, hlt, hge⟩) (by simp)
 obtain ⟨_, H', h1, p, fd, rfl, h2, h3, h4⟩ := Wp.call (R := fun v H' => ∃ p fd, v = .tuple [vi (p : Nat), zzt fd] ∧ Grow H H' ∧ yk0 l y p ∧ (fd = true ↔ ∃ z, l[p]? = some z ∧ z.blk = y)) 49 [0, 1, 2, 6, 7, 8, 9, 10, 11, 17, 31] h.e (h.no [wv, vi y, .func (.func 120) []] H) rfl (by simp) (key _ fun p H1 hg hp => by
  by_cases hpl : p < l.length
  ·obtain ⟨z, hz⟩ : ∃ z, l[p]? = some z := ⟨_, List.getElem?_eq_getElem hpl⟩
   have hzc : z.cells.length = 33 := hs.1 _ (by simp [-getElem?_pos]; exact ⟨z, List.mem_of_getElem? hz, rfl⟩)
   obtain ⟨R, ver, cells, h1, h2, h3, h4, h5, _, h6⟩ := hs.load (i := p) (e := z.cells) (by simp [-getElem?_pos, hz])
   rw [← hg.rowAt h3] at h4
   simp only [List.length_map] at h1
   have w := c H1 z (List.mem_of_getElem? hz) hzc
   have := hp.ge z hz
   rw [if_neg (by omega)] at w
   repeat (first | apply Wp.za | apply Wp.zb | apply Wp.zc | apply Wp.zd | apply Wp.ze | apply Wp.zf rfl | apply Wp.zg rfl | ((apply Wp.zh; (repeat (apply Ex.zc; (simp (disch := omega) [-getElem?_pos, h1, h4, h6, w]; rfl))); exact Ex.zn; rfl; (simp; rfl))))
   simp [-getElem?_pos, a119]
   refine ⟨p, ?_⟩
   by_cases e : y < z.blk
   ·exact .inl ⟨⟨rfl, e⟩, hg.trans (Grow.push _ _), hp, fun u hu hb => by rw [hz] at hu; cases hu; omega⟩
   ·exact .inr ⟨⟨rfl, by omega⟩, hg.trans (Grow.push _ _), hp, z, hz, by omega⟩
  ·repeat (first | apply Wp.za | apply Wp.zb | apply Wp.zc | apply Wp.zd | apply Wp.ze | apply Wp.zf rfl | apply Wp.zg rfl | ((apply Wp.zh; (repeat (apply Ex.zc; (simp (disch := omega) [-getElem?_pos]; rfl))); exact Ex.zn; rfl; (simp; rfl))))
   simp [-getElem?_pos, a119]
   exact ⟨p, rfl, hg, hp, fun u hu => by have := (List.getElem?_eq_some_iff.1 hu).1; omega⟩)
 exact ⟨p, fd, H', h1, h2, h3, h4⟩
theorem Bk.sameTx (hb : Bk H N B b tv M es clock tvs o) {k : Nat} (hx : b[k]? = some x) (he : tvs[k]? = some (txc x sv rv wv)) (hn : H.next ≤ H1.next) (hg : ∀ A, A < H.next → o A ≠ 3 * k + 3 → o A ≠ 3 * k + 4 → o A ≠ 3 * k + 5 → H1.get A = H.get A)
  (ho : ∀ A, A < H.next → o1 A = o A) (hT : TxAt H1 N o1 k (txc x sv rv wv) x' sv rv wv) (hon : x'.on = x.on) (hcl : x'.client = x.client) : Bk H1 N B (b.set k x') tv M es clock tvs o1 := by
 have hk := (List.getElem?_eq_some_iff.1 hx).1
 have hl := hb.each.1
 have hB := hb.hB
 have hM := hb.hM
 refine ⟨?_, ?_, ?_, zza hb.txs hb.txsL hn fun A _ a c => hg A a (by omega) (by omega) (by omega), hb.txsL.move hn ho, ⟨by simp [-getElem?_pos, hl], fun i e z hi hz => ?_⟩, by rw [ho B hB.2, hb.oB], by rw [ho M hM.2, hb.oM], ⟨hB.1, by omega⟩, ⟨hM.1, by omega⟩⟩
 ·show H1.get B = _
  rw [hg B hB.2 (by rw [hb.oB]; omega) (by rw [hb.oB]; omega) (by rw [hb.oB]; omega)]; exact hb.cells
 ·rw [hg M hM.2 (by rw [hb.oM]; omega) (by rw [hb.oM]; omega) (by rw [hb.oM]; omega)]; exact hb.map
 ·refine hb.ok.same (zl5 (by simp) fun j => ?_) fun j _ => zvv hx hcl
  unfold zlf
  rw [List.getElem?_set]
  by_cases e : k = j
  ·subst e; rw [if_pos rfl, if_pos hk, hx]; exact hon
  ·rw [if_neg e]
 ·rw [List.getElem?_set] at hz
  by_cases e1 : k = i
  ·subst e1
   rw [if_pos rfl, if_pos (by omega)] at hz
   cases hz
   rw [he] at hi; cases hi
   exact ⟨sv, rv, wv, hT⟩
  ·rw [if_neg e1] at hz
   obtain ⟨sv, rv, wv, h⟩ := hb.each.2 i e z hi hz
   exact ⟨sv, rv, wv, h.move hn (fun A _ a hA => hg A a (by omega) (by omega) (by omega)) ho⟩
end
section
variable {kn : zy0} {env : Nat → Option zzq}
variable {H H' H1 : zz6} {N B M clock i : Nat} {b : List TxD} {tv sv rv wv sv' rv' wv' : AVal} {es : zzb} {tvs : List (List AVal)} {o o' o1 : Nat → Nat} {e : List AVal} {x x' : TxD} {r : RowD} {rc : List AVal}
theorem ywz {l : List ImgD} (h : ∀ w ∈ l, zyr w.val) : ∀ e ∈ zhh l, e.all zcw = true := fun e he => by
 obtain ⟨w, hw, rfl⟩ := List.mem_map.1 he
 simp only [ImgD.cells, List.all_cons, List.all_eq_true, Bool.and_eq_true]
 refine ⟨rfl, fun c hc => ?_⟩
 obtain ⟨n, rfl⟩ := (h w hw).bytes c hc
 rfl
theorem c113 (h : Fn kn env 113 a113) (h119 : Fn kn env 119 a119) (h120 : Fn kn env 120 a120) (n : Nat) (hins : yyb (zzp kn env (n + 2))) (hb : Bk H N B b tv M es clock tvs o) (hr : RowC rc r) {k R ver : Nat} (hx : b[k]? = some x) (htv : tv = .slice R ver 0 b.length b.length false 12) (hri : zpy x.writes) (hl : x.writes.length < 1000000000000) (hn : x.writes.length + 5 < n) :
  ∃ H' tvs' o', zzp kn env (n + 3) (.func (.func 113) []) [.ptr R ver (k * 12), .agg rc] H = some (.tuple [], H') ∧ Bk H' N B (b.set k { x with writes := zyx x.writes ⟨r.blk, r.val⟩ }) tv M es clock tvs' o' ∧ H.next ≤ H'.next ∧ ∀ A, A < N → H'.get A = H.get A := by
 have hNn : N ≤ H.next := by have := hb.hB; omega
 have hb1 := hb.grow (Grow.push H (.row [some (0, rc)]))
 obtain ⟨R', ver', cells, sv, rv, wv, htv', _, hRn, hoR, hrow, hlen, hcell, he, ht0⟩ := hb.tx hx
 have ht := ht0.move (H' := H.push (.row [some (0, rc)])) (o' := o) (by simp) (fun A _ hA _ => zz6.zz9 _ _ (by omega)) fun _ _ => rfl
 rw [htv] at htv'; cases htv'
 have g5 := hcell 5 (by omega)
 simp only [txc, List.getElem?_cons_succ, List.getElem?_cons_zero] at g5
 have r4 := hr.a4
 have r5 := hr.len
 have rv5 := hr.av
 have hX : (H.push (.row [some (0, rc)])).rowAt H.next 0 = some rc := by simp [-getElem?_pos]
 obtain ⟨p, fd, H2, w1, hg2, hp, hfd⟩ := c119 h119 h120 n ht.writes hri hl hn r.blk
 have hX2 : H2.rowAt H.next 0 = some rc := by rw [hg2.rowAt (by simp)]; exact hX
 have hb2 := hb1.grow hg2
 have hbq : AVal.beqs r.val r.val = true := zyq hr.isv.bytes
 have hrow2 : H2.rowAt R ver = some cells := by rw [hg2.rowAt (by simp; omega), (Grow.push H _).rowAt hRn]; exact hrow
 have ht2 := ht.move (H' := H2) (o' := o) hg2.next (fun A _ hA _ => hg2.get A hA) fun _ _ => rfl
 have hn2 := hg2.next
 simp only [zz6.zyc] at hn2
 cases fd with
 | true =>
  obtain ⟨z, hz, hzb⟩ := hfd.1 rfl
  have hzc : z.cells.length = 33 := ht.writes.1 _ (by simp [-getElem?_pos]; exact ⟨z, List.mem_of_getElem? hz, rfl⟩)
  have hv32 := hr.isv.len
  obtain ⟨Rw, verw, H3, hw1, hw2, hw3, hw4, hw5, hw6, hw7⟩ := ht2.writes.store (i := p) (e := z.cells) (by simp [-getElem?_pos, hz]) (f := 1) (vals := r.val) (by omega) (by omega) hr.isv.one
  have hpl := (List.getElem?_eq_some_iff.1 hz).1
  have hRw : o Rw = 3 * k + 5 := (ht2.writesL _ _ _ _ _ _ _ hw1).2.2
  have hnw : ∀ A, o A ≠ 3 * k + 5 → H3.get A = H2.get A := fun A hA => hw7 A fun e => hA (by rw [e, hRw])
  have hspl : spl z.cells 1 r.val = (⟨r.blk, r.val⟩ : ImgD).cells := by
   simp only [ImgD.cells, List.length_cons] at hzc
   simp [-getElem?_pos, ImgD.cells, hzb, hv32]; omega
  have hwd : zyx x.writes ⟨r.blk, r.val⟩ = x.writes.set p ⟨r.blk, r.val⟩ := (zrf hp.le hp.lt hp.ge).1 z hz hzb
  rw [hspl, ← List.map_set] at hw5
  refine ⟨H3, tvs, o, Wp.call1 40 [0, 1, 3, 4, 5, 17] h.e (h.no _ _) rfl (by simp) ?_, hb2.sameTx hx he (by omega) (fun A _ _ _ h5 => hnw A h5) (fun _ _ => rfl) ⟨rfl, ht2.set.move ht2.setL (by omega) fun A _ _ h => hnw A (by omega), ht2.setL.move (by omega) fun _ _ => rfl, zza ht2.reads ht2.readsL (by omega) fun A _ _ h => hnw A (by omega), ht2.readsL.move (by omega) fun _ _ => rfl, by rw [hwd]; exact hw5, ht2.writesL.move (by omega) fun _ _ => rfl, ht2.rvals, fun w hw => ?_⟩ rfl rfl, by omega, fun A hA => ?_⟩
  ·simp only [List.length_map] at hw1
   subst hw1
   repeat (first | apply Wp.za | apply Wp.zb | apply Wp.zc | apply Wp.zd | apply Wp.ze | apply Wp.zf rfl | apply Wp.zg rfl | ((apply Wp.zh; (repeat (apply Ex.zc; (simp (disch := omega) [-getElem?_pos, hrow, g5, r4, r5, w1, hX2, hrow2, rv5, hv32, hw4, hbq]; rfl))); exact Ex.zn; rfl; (simp; rfl))) | ((apply Wp.zi; (repeat ((first | apply Dr.q rfl rfl | apply Dr.r rfl rfl | apply Dr.imm rfl); (simp (disch := omega) [-getElem?_pos, hrow, g5, r4, r5, w1, hX2, hrow2, rv5, hv32, hw4, hbq]; rfl); (focus first | (simp; rfl) | (simp; done) | (simp; omega)))); exact Dr.nil; rfl; (simp (disch := omega) [-getElem?_pos, hrow, g5, r4, r5, w1, hX2, hrow2, rv5, hv32, hw4, hbq]); (simp; rfl))))
   simp [-getElem?_pos, a113]
  ·rcases zbe hw with hw | rfl
   ·exact ht.wvals w hw
   ·exact hr.isv
  ·rw [hw7 A (by omega), hg2.get A (by simp; omega), zz6.zz9 _ _ (by omega)]
 | false =>
  have hwl : wv.lies fun A => A < H.next := fun A _ _ _ _ _ _ e => (ht0.writesL _ _ _ _ _ _ _ e).2.1
  have hwt : wv.lies fun A => N ≤ A ∧ o A = 3 * k + 5 := fun A _ _ _ _ _ _ e => ⟨(ht0.writesL _ _ _ _ _ _ _ e).1, (ht0.writesL _ _ _ _ _ _ _ e).2.2⟩
  have hs2' : zzw (H2.push (.row [some (0, vi r.blk :: zzd)])) N 33 wv (zhh x.writes) := ht2.writes.move (Nat.le_refl _) (by simp) fun A _ hA => zz6.zz9 _ _ (by omega)
  obtain ⟨v', H4, hi, hs4, hn4, hf4, hv1, hl4⟩ := hins _ N wv (zhh x.writes) p H2.next (vi r.blk :: zzd) (by simp; omega) hs2' (ywz ht.wvals) (by simpa [-getElem?_pos] using hp.le) (by simpa [-getElem?_pos] using hl) (by simp) (by simp) (fun A _ _ _ _ _ _ e => by have := hwl _ _ _ _ _ _ _ e; omega) rfl rfl
  have hv32 := hr.isv.len
  have hno : ∀ y, x.writes[p]? = some y → y.blk ≠ r.blk := fun y hy e => by have := hfd.2 ⟨y, hy, e⟩; cases this
  have hwd : zyx x.writes ⟨r.blk, r.val⟩ = x.writes.take p ++ ⟨r.blk, r.val⟩ :: x.writes.drop p := (zrf hp.le hp.lt hp.ge).2 hno
  have hme : (zhh x.writes).take p ++ (vi r.blk :: zzd) :: (zhh x.writes).drop p = zhh (x.writes.take p ++ ⟨r.blk, zzd⟩ :: x.writes.drop p) := by
   simp [-getElem?_pos, zhh, ImgD.cells]
  rw [hme] at hs4
  simp only [zz6.zyc] at hn4 hf4 hl4
  have hwv : ∀ w ∈ x.writes.take p ++ ⟨r.blk, zzd⟩ :: x.writes.drop p, zyr w.val := fun w hw => by
   rcases List.mem_append.1 hw with hw | hw
   ·exact ht.wvals w (List.mem_of_mem_take hw)
   ·rcases List.mem_cons.1 hw with rfl | hw
    ·exact zxp
    ·exact ht.wvals w (List.mem_of_mem_drop hw)
  -- what keeps
  have hk4 : ∀ A, A < H2.next → o A ≠ 3 * k + 5 → H4.get A = H2.get A := fun A hA ho => by
   rw [hf4 A (by omega) (fun R _ _ _ _ _ _ e he => ho (by rw [← he]; exact (hwt _ _ _ _ _ _ _ e).2)), zz6.zz9 _ _ (by omega)]
  have hk4' : ∀ A, A < H2.next → (N ≤ A → o A ≠ 3 * k + 5) → H4.get A = H2.get A := fun A hA ho => by
   rw [hf4 A (by omega) (fun R _ _ _ _ _ _ e he => ho (by rw [← he]; exact (hwt _ _ _ _ _ _ _ e).1) (by rw [← he]; exact (hwt _ _ _ _ _ _ _ e).2)), zz6.zz9 _ _ (by omega)]
  have hXn : H4.get H.next = H2.get H.next := by
   rw [hf4 _ (by omega) (fun R _ _ _ _ _ _ e he => by have := hwl _ _ _ _ _ _ _ e; omega), zz6.zz9 _ _ (by omega)]
  obtain ⟨o1, ho1, ho1n⟩ : ∃ o1 : Nat → Nat, (∀ A, A < H2.next → o1 A = o A) ∧ ∀ A, H2.next ≤ A → o1 A = 3 * k + 5 := ⟨fun A => if A < H2.next then o A else 3 * k + 5, fun A h => if_pos h, fun A h => if_neg (by omega)⟩
  have hl5 : zs4 N H4 o1 (3 * k + 5) v' := fun R ver off len kc ex esz e => by
   obtain ⟨q1, q2⟩ := hs4.lies _ _ _ _ _ _ _ e
   refine ⟨q1, q2, hl4 (fun R => o1 R = 3 * k + 5) (fun R _ _ _ _ _ _ e => ?_) (fun R hR => ho1n R (by omega)) _ _ _ _ _ _ _ e⟩
   show o1 R = _
   rw [ho1 R (by have := hwl _ _ _ _ _ _ _ e; omega)]
   exact (hwt _ _ _ _ _ _ _ e).2
  have hT : TxAt H4 N o1 k (txc { x with writes := x.writes.take p ++ ⟨r.blk, zzd⟩ :: x.writes.drop p } sv rv v') { x with writes := x.writes.take p ++ ⟨r.blk, zzd⟩ :: x.writes.drop p } sv rv v' :=
   ⟨rfl, ht2.set.move ht2.setL (by omega) fun A _ a h => hk4 A a (by omega), ht2.setL.move (by omega) ho1, zza ht2.reads ht2.readsL (by omega) fun A _ a h => hk4 A a (by omega), ht2.readsL.move (by omega) ho1, hs4, hl5, ht2.rvals, hwv⟩
  obtain ⟨R5, ver5, H5, tvs5, e5, hw5, hb5, hn5, hN5, he5, hf5⟩ := hb2.putTx (f := 5) (y := v') hx he (by omega) (fun A hA _ _ h5 => hk4 A hA h5) (fun A hA => hk4' A (by omega) (fun h => by omega)) ho1 hT rfl (by omega) hv1 rfl rfl
  rw [htv] at e5; cases e5
  obtain ⟨R6, ver6, cells6, sv6, rv6, wv6, e6, _, _, _, hrow6, hlen6, hcell6, he6, ht6⟩ := hb5.tx (k := k) (x := { x with writes := x.writes.take p ++ ⟨r.blk, zzd⟩ :: x.writes.drop p }) (by rw [List.getElem?_set_self (List.getElem?_eq_some_iff.1 hx).1])
  rw [List.length_set, htv] at e6; cases e6
  rw [he5] at he6
  simp only [txc, Option.some.injEq, List.cons.injEq, true_and, and_true] at he6
  obtain ⟨rfl, rfl, rfl⟩ := he6
  have g56 := hcell6 5 (by omega)
  simp only [txc, List.getElem?_cons_succ, List.getElem?_cons_zero] at g56
  have hX5 : H5.rowAt H.next 0 = some rc := by rw [zzk, hf5 _ (by omega), hXn, ← zzk]; exact hX2
  have hple := hp.le
  obtain ⟨Rw, verw, H6, hw1, hw2, hw3, hw4, hw5', hw6, hw7⟩ := ht6.writes.store (i := p) (e := (⟨r.blk, zzd⟩ : ImgD).cells) (by
   rw [List.getElem?_map, List.getElem?_append_right (by simp; omega)]; simp [-getElem?_pos, Nat.min_eq_left hple]) (f := 1) (vals := r.val) (by omega) (by omega) hr.isv.one
  have hspl : spl (⟨r.blk, zzd⟩ : ImgD).cells 1 r.val = (⟨r.blk, r.val⟩ : ImgD).cells := by
   simp [-getElem?_pos, ImgD.cells, hv32]
  rw [hspl, ← List.map_set] at hw5'
  have hset : (x.writes.take p ++ (⟨r.blk, zzd⟩ : ImgD) :: x.writes.drop p).set p ⟨r.blk, r.val⟩ = zyx x.writes ⟨r.blk, r.val⟩ := by
   rw [hwd, List.set_append_right _ _ (by simp; omega)]; simp [-getElem?_pos, Nat.min_eq_left hple]
  simp only at hw5'
  rw [hset] at hw5'
  have hbw := ht.writes.beq
  have hRw : o1 Rw = 3 * k + 5 := (ht6.writesL _ _ _ _ _ _ _ hw1).2.2
  have hnw : ∀ A, o1 A ≠ 3 * k + 5 → H6.get A = H5.get A := fun A hA => hw7 A fun e => hA (by rw [e, hRw])
  have hsame := hb5.sameTx (H1 := H6) (o1 := o1) (x' := { x with writes := zyx x.writes ⟨r.blk, r.val⟩ }) (by rw [List.getElem?_set_self (List.getElem?_eq_some_iff.1 hx).1]) he5 (by omega) (fun A _ _ _ h5 => hnw A h5) (fun _ _ => rfl)
   ⟨rfl, ht6.set.move ht6.setL (by omega) fun A _ _ h => hnw A (by omega), ht6.setL.move (by omega) fun _ _ => rfl, zza ht6.reads ht6.readsL (by omega) fun A _ _ h => hnw A (by omega), ht6.readsL.move (by omega) fun _ _ => rfl, hw5', ht6.writesL.move (by omega) fun _ _ => rfl, ht6.rvals, fun w hw => by
    rcases zbe hw with hw | rfl
    ·exact ht.wvals w hw
    ·exact hr.isv⟩ rfl rfl
  rw [List.set_set] at hsame
  refine ⟨H6, tvs5, _, Wp.call1 40 [0, 1, 3, 4, 5, 17] h.e (h.no _ _) rfl (by simp) ?_, hsame, by omega, fun A hA => ?_⟩
  ·simp only [List.length_map] at hw1
   simp [-getElem?_pos, zzd] at hi
   have hcv := zx4 hv1
   repeat (first | apply Wp.za | apply Wp.zb | apply Wp.zc | apply Wp.zd | apply Wp.ze | apply Wp.zf rfl | apply Wp.zg rfl | ((apply Wp.zh; (repeat (apply Ex.zc; (simp (disch := omega) [-getElem?_pos, hrow, g5, r4, r5, w1, hX2, hrow2, hbq, hi, hw5, hbw, hcv, zzm, zx1]; rfl))); exact Ex.zn; rfl; (simp; rfl))) | ((apply Wp.zi; (repeat ((first | apply Dr.q rfl rfl | apply Dr.r rfl rfl | apply Dr.imm rfl); (simp (disch := omega) [-getElem?_pos, hrow, g5, r4, r5, w1, hX2, hrow2, hbq, hi, hw5, hbw, hcv, zzm, zx1]; rfl); (focus first | (simp; rfl) | (simp; done) | (simp; omega)))); exact Dr.nil; rfl; (simp (disch := omega) [-getElem?_pos, hrow, g5, r4, r5, w1, hX2, hrow2, hbq, hi, hw5, hbw, hcv, zzm, zx1]); (simp; rfl))))
   have hpl : p < (x.writes.take p ++ (⟨r.blk, zzd⟩ : ImgD) :: x.writes.drop p).length := by simp; omega
   (repeat (first | apply Wp.za | apply Wp.zb)); (apply Wp.zi; (repeat ((first | apply Dr.q rfl rfl | apply Dr.r rfl rfl | apply Dr.imm rfl); (simp (disch := omega) [-getElem?_pos, r5, rv5, hv32, hw1, hpl, hw4, hbq, hrow6, g56, hX5]; rfl); (focus first | (simp; rfl) | (simp; done) | (simp; omega)))); exact Dr.nil; rfl; (simp (disch := omega) [-getElem?_pos, r5, rv5, hv32, hw1, hpl, hw4, hbq, hrow6, g56, hX5]); (simp; rfl))
   simp [-getElem?_pos, a113]
  ·rw [hw7 A (by omega), hN5 A hA, hg2.get A (by simp; omega), zz6.zz9 _ _ (by omega)]
end
section
variable {kn : zy0} {env : Nat → Option zzq}
variable {H H' H1 : zz6} {N B M clock : Nat} {i : Int} {b : List TxD} {tv sv rv wv sv' rv' wv' : AVal} {es : zzb} {tvs : List (List AVal)} {o o' o1 : Nat → Nat} {e : List AVal} {x x' : TxD} {r : RowD} {rc : List AVal}
def Out (H : zz6) (N B : Nat) (b : Option (List TxD)) (H' : zz6) : Prop := match b with
 | some b => (∃ tv M es clock tvs o, Bk H' N B b tv M es clock tvs o) ∧ (∀ A, A < N → H'.get A = H.get A) ∧ H.next ≤ H'.next
 | none => Bad H N B H'
theorem Bk.badOut (hb : Bk H N B b tv M es clock tvs o) (hg : Grow H H1) : Out H N B none (H1.set B (.row [some (0, [tv, .map M, zzt true])])) :=
 ⟨⟨tv, .map M, zz6.zzy _ _ _⟩, fun A hA => by have := hb.hB; rw [zz6.zzz _ _ (by omega), hg.get A (by omega)], hg.next⟩
theorem Bk.sameOut (hb : Bk H N B b tv M es clock tvs o) (hg : Grow H H1) : Out H N B (some b) H1 := ⟨⟨tv, M, es, clock, tvs, o, hb.grow hg⟩, fun A hA => hg.get A (by have := hb.hB; omega), hg.next⟩
def zkx (b : List TxD) (m : Nat) : Prop := b.length ≤ m ∧ ∀ x ∈ b, zpy x.writes ∧ x.writes.length ≤ m ∧ x.reads.length ≤ m
structure zuu (H : zz6) (N : Nat) (rc : List AVal) (r : RowD) (sv : AVal) : Prop where
 at_ : rc[40]? = some sv
 rd : RdE H 1 sv (ints r.set)
 lies : sv.lies (· < N)
 len : r.set.length * 8 ≤ 140737488355328
theorem Bk.begin (hb : Bk H N B b tv M es clock tvs o) (hr : RowC rc r) (hs : zuu H N rc r sv) (h111 : Fn kn env 111 a111) (n : Nat) (ha : 0 ≤ r.actor ∧ r.actor < 8) (hof : zy5 b r.actor = none) (hm : b.length < 400000000000) {H1 : zz6} (hg : Grow H H1) :
  ∃ sv' H3 tv' H5, zzp kn env (n + 1) (.func (.func 111) []) [sv] (H1.set M (.map (es ++ [(vi r.actor, vi b.length, clock)]) (clock + 1))) = some (sv', H3) ∧ Grow (H1.set M (.map (es ++ [(vi r.actor, vi b.length, clock)]) (clock + 1))) H3 ∧ sv'.one = true ∧
   zzf (H3.push (.row [some (0, txc (zv0 i r) sv' zxa zxa)])) 12 144 tv (.slice H3.next 0 0 1 1 true 12) = some (tv', H5) ∧ tv'.one = true ∧ H3.next < H5.next ∧ H5.get B = H1.get B ∧ Out H N B (some (b ++ [zv0 i r])) (H5.set B (.row [some (0, [tv', .map M, zzt false])])) := by
 have hB := hb.hB
 have hM := hb.hM
 have hBM : B ≠ M := fun e => by have := hb.oM; rw [← e, hb.oB] at this; omega
 have hgn := hg.next
 have hl := hb.each.1
 obtain ⟨H2, hH2⟩ : ∃ H2, H2 = H1.set M (.map (es ++ [(vi r.actor, vi b.length, clock)]) (clock + 1)) := ⟨_, rfl⟩
 rw [← hH2]
 have h2n : H2.next = H1.next := by rw [hH2]; rfl
 have h2g : ∀ A, A ≠ M → H2.get A = H1.get A := fun A hA => by rw [hH2, zz6.zzz _ _ hA]
 have hrd2 : RdE H2 1 sv (ints r.set) := hs.rd.move fun R ver off len kc ex e => by
  have := hs.lies _ _ _ _ _ _ _ e
  rw [zzk, zzk, h2g R (by omega), hg.get R (by omega)]
 obtain ⟨sv', H3, hc, hg3, hset, hlies, hone⟩ := c111 h111 n hrd2 (fun R ver off len kc ex esz e => by have := hs.lies _ _ _ _ _ _ _ e; omega) hs.len
 have h3n := hg3.next
 have htv3 : zzw (H3.push (.row [some (0, txc (zv0 i r) sv' zxa zxa)])) N 12 tv tvs := zza hb.txs hb.txsL (by simp; omega) fun A a1 a2 a3 => by
  rw [zz6.zz9 _ _ (by omega), hg3.get A (by omega), h2g A (fun e => by rw [e, hb.oM] at a3; omega), hg.get A a2]
 obtain ⟨tv', H5, ha5, hs5, hn5, hN5, hk5, hl5⟩ := htv3.append (bytes := 144) (by simp; omega) (X := H3.next) (e := txc (zv0 i r) sv' zxa zxa) (by simp) rfl (by omega) (by omega) (by simp [-getElem?_pos, txc, hone]; simp [-getElem?_pos, AVal.one, Value.oneCell']) (by rw [hl]; omega) (ex := true) (kc := 1)
 simp only [zz6.zyc] at hn5 hk5 hl5
 have htvl : tv.lies fun R => R < H.next ∧ o R = 2 := fun R _ _ _ _ _ _ e => ⟨(hb.txsL _ _ _ _ _ _ _ e).2.1, (hb.txsL _ _ _ _ _ _ _ e).2.2⟩
 -- what stays
 have keep : ∀ A, A < H.next → o A ≠ 1 → o A ≠ 2 → H5.get A = H.get A := fun A a1 a2 a3 => by
  rw [hk5 A (by omega) (fun R _ _ _ _ _ _ e he => a3 (by rw [← he]; exact (htvl _ _ _ _ _ _ _ e).2)), zz6.zz9 _ _ (by omega), hg3.get A (by omega), h2g A (fun e => a2 (by rw [e, hb.oM])), hg.get A a1]
 have keep3 : ∀ A, H.next ≤ A → A < H3.next → H5.get A = H3.get A := fun A a1 a2 => by
  rw [hk5 A (by omega) (fun R _ _ _ _ _ _ e he => by have := (htvl _ _ _ _ _ _ _ e).1; omega), zz6.zz9 _ _ (by omega)]
 refine ⟨sv', H3, tv', H5, hc, hg3, hone, ha5, hs5.rd.one, by omega, ?_, ?_⟩
 ·rw [keep B hB.2 (by rw [hb.oB]; omega) (by rw [hb.oB]; omega), hg.get B hB.2]
 ·obtain ⟨o', ho1, ho2, ho3⟩ : ∃ o' : Nat → Nat, (∀ A, A < H.next → o' A = o A) ∧ (∀ A, H.next ≤ A → A < H3.next → o' A = 3 * b.length + 3) ∧ ∀ A, H3.next ≤ A → o' A = 2 :=
   ⟨fun A => if A < H.next then o A else if A < H3.next then 3 * b.length + 3 else 2, fun A h => if_pos h, fun A h1 h2 => by simp only; rw [if_neg (by omega), if_pos h2], fun A h => by simp only; rw [if_neg (by omega), if_neg (by omega)]⟩
  have hBs : ∀ A, A ≠ B → (H5.set B (.row [some (0, [tv', .map M, zzt false])])).get A = H5.get A := fun A hA => zz6.zzz _ _ hA
  refine ⟨⟨tv', M, es ++ [(vi r.actor, vi b.length, clock)], clock + 1, tvs ++ [txc (zv0 i r) sv' zxa zxa], o', ?_⟩, fun A hA => ?_, by simp; omega⟩
  ·have hl2 : zs4 N H5 o' 2 tv' := fun R ver off len kc ex esz e => by
    obtain ⟨q1, q2⟩ := hs5.lies _ _ _ _ _ _ _ e
    exact ⟨q1, q2, hl5 (fun R => o' R = 2) (fun R _ _ _ _ _ _ e => by
     show o' R = 2
     rw [ho1 R (htvl _ _ _ _ _ _ _ e).1]; exact (htvl _ _ _ _ _ _ _ e).2) (fun R hR => ho3 R (by omega)) _ _ _ _ _ _ _ e⟩
   have ho0 : ∀ A, A < H5.next → o' A ≠ 0 → (H5.set B (.row [some (0, [tv', .map M, zzt false])])).get A = H5.get A := fun A a1 a2 => hBs A fun e => a2 (by rw [e, ho1 B hB.2, hb.oB])
   refine ⟨zz6.zzy _ _ _, ?_, hb.ok.push (x := zv0 i r) rfl ha hof, zza (H := H5) (o := o') (t := 2) hs5 hl2 (Nat.le_refl _) fun A _ a c => ho0 A a (by omega), hl2.move (Nat.le_refl _) fun _ _ => rfl, ⟨by simp [-getElem?_pos, hl], fun j e z hj hz => ?_⟩, by rw [ho1 B hB.2, hb.oB], by rw [ho1 M hM.2, hb.oM], ⟨hB.1, by simp; omega⟩, ⟨hM.1, by simp; omega⟩⟩
   ·rw [hBs M (fun e => hBM e.symm), hk5 M (by omega) (fun R _ _ _ _ _ _ e he => by have := (htvl _ _ _ _ _ _ _ e).2; rw [he, hb.oM] at this; omega), zz6.zz9 _ _ (by omega), hg3.get M (by omega), hH2, zz6.zzy]
   ·by_cases hj2 : j < b.length
    ·rw [List.getElem?_append_left (by omega)] at hj hz
     obtain ⟨s1, r1, w1, h1⟩ := hb.each.2 j e z hj hz
     refine ⟨s1, r1, w1, h1.move (by simp; omega) (fun A _ a c => ?_) ho1⟩
     rw [hBs A (fun e => by rw [e, hb.oB] at c; omega), keep A a (by omega) (by omega)]
    ·have hj3 : j = b.length := by
      have := (List.getElem?_eq_some_iff.1 hz).1
      simp [-getElem?_pos] at this; omega
     subst hj3
     rw [List.getElem?_append_right (by omega)] at hj hz
     rw [hl] at hj
     simp [-getElem?_pos] at hj hz
     subst hj; subst hz
     have hsl : zs4 N H3 o' (3 * b.length + 3) sv' := fun R _ _ _ _ _ _ e => by
      obtain ⟨q1, q2⟩ := hlies _ _ _ _ _ _ _ e
      exact ⟨by omega, q2, ho2 R (by omega) q2⟩
     have hset' : yyt H3 N sv' (zv0 i r).set := by
      rcases hset with hset | hset
      ·exact .inl (hset.move (by omega) (Nat.le_refl _) fun _ _ _ => rfl)
      ·exact .inr hset
     refine ⟨sv', zxa, zxa, rfl, hset'.move hsl (by simp; omega) (fun A a1 a2 a3 => ?_), hsl.move (by simp; omega) fun _ _ => rfl, zzw.nil _ _ _, (fun R _ _ _ _ _ _ e => by cases e), zzw.nil _ _ _, (fun R _ _ _ _ _ _ e => by cases e), (fun _ h => by cases h), (fun _ h => by cases h)⟩
     have hAB : A ≠ B := fun e => by rw [e, ho1 B hB.2, hb.oB] at a3; omega
     rw [hBs A hAB]
     by_cases hA : A < H.next
     ·rw [ho1 A hA] at a3
      rw [keep A hA (by omega) (by omega), hg3.get A (by omega), h2g A (fun e => by rw [e, hb.oM] at a3; omega), hg.get A hA]
     ·exact keep3 A (by omega) a2
  ·rw [hBs A (by omega)]
   rw [hN5 A hA, zz6.zz9 _ _ (by omega), hg3.get A (by omega), h2g A (by omega), hg.get A (by omega)]
theorem Bk.read (hb : Bk H N B b tv M es clock tvs o) {k : Nat} (hx : b[k]? = some x) (he : tvs[k]? = some (txc x sv rv wv)) (ht : TxAt H N o k (txc x sv rv wv) x sv rv wv) (y : zta) (hy : zyr y.val) (hl : x.reads.length < 400000000000) :
  ∃ rv' H4 R ver H5, zzf (H.push (.row [some (0, y.cells)])) 34 48 rv (.slice H.next 0 0 1 1 true 34) = some (rv', H4) ∧ rv'.one = true ∧ H.next < H4.next ∧ tv = .slice R ver 0 b.length b.length false 12 ∧ H4.write R ver (k * 12 + 4) [rv'] = some H5 ∧ H5.next = H4.next ∧ Out H N B (some (b.set k { x with reads := x.reads ++ [y] })) H5 := by
 have hB := hb.hB
 have hyl := hy.len
 obtain ⟨rv', H4, ha, hs4, hn4, hN4, hk4, hl4⟩ := (ht.reads.move (Nat.le_refl _) (by simp) (H' := H.push (.row [some (0, y.cells)])) fun A _ hA => zz6.zz9 _ _ (by omega)).append (bytes := 48) (by simp; omega) (X := H.next) (e := y.cells) (by simp) (by simp [-getElem?_pos, zta.cells, hyl]) (by omega) (by omega) (by simp only [zta.cells, List.all_cons, hy.one, Bool.and_true]; rfl) (by simp; omega) (ex := true) (kc := 1)
 simp only [zz6.zyc] at hn4 hk4 hl4
 have hrl : rv.lies fun R => R < H.next ∧ o R = 3 * k + 4 := fun R _ _ _ _ _ _ e => ⟨(ht.readsL _ _ _ _ _ _ _ e).2.1, (ht.readsL _ _ _ _ _ _ _ e).2.2⟩
 have keep : ∀ A, A < H.next → o A ≠ 3 * k + 4 → H4.get A = H.get A := fun A a1 a2 => by
  rw [hk4 A (by omega) (fun R _ _ _ _ _ _ e he => a2 (by rw [← he]; exact (hrl _ _ _ _ _ _ _ e).2)), zz6.zz9 _ _ (by omega)]
 obtain ⟨o1, ho1, ho1n⟩ : ∃ o1 : Nat → Nat, (∀ A, A < H.next → o1 A = o A) ∧ ∀ A, H.next ≤ A → o1 A = 3 * k + 4 := ⟨fun A => if A < H.next then o A else 3 * k + 4, fun A h => if_pos h, fun A h => if_neg (by omega)⟩
 have hl5 : zs4 N H4 o1 (3 * k + 4) rv' := fun R ver off len kc ex esz e => by
  obtain ⟨q1, q2⟩ := hs4.lies _ _ _ _ _ _ _ e
  refine ⟨q1, q2, hl4 (fun R => o1 R = 3 * k + 4) (fun R _ _ _ _ _ _ e => ?_) (fun R hR => ho1n R (by omega)) _ _ _ _ _ _ _ e⟩
  show o1 R = _
  rw [ho1 R (hrl _ _ _ _ _ _ _ e).1]
  exact (hrl _ _ _ _ _ _ _ e).2
 have hT : TxAt H4 N o1 k (txc { x with reads := x.reads ++ [y] } sv rv' wv) { x with reads := x.reads ++ [y] } sv rv' wv :=
  ⟨rfl, ht.set.move ht.setL (by omega) fun A _ a h => keep A a (by omega), ht.setL.move (by omega) ho1, by simpa [-getElem?_pos] using hs4, hl5, zza ht.writes ht.writesL (by omega) fun A _ a h => keep A a (by omega), ht.writesL.move (by omega) ho1, fun z hz => by
   rcases List.mem_append.1 hz with hz | hz
   ·exact ht.rvals z hz
   ·simp [-getElem?_pos] at hz; subst hz; exact hy, ht.wvals⟩
 obtain ⟨R5, ver5, H5, tvs5, e5, hw5, hb5, hn5, hN5, he5, hf5⟩ := hb.putTx (f := 4) (y := rv') hx he (by omega) (fun A hA _ h4 _ => keep A hA h4) (fun A hA => by rw [hN4 A hA, zz6.zz9 _ _ (by omega)]) ho1 hT rfl (by omega) hs4.rd.one rfl rfl
 exact ⟨rv', H4, R5, ver5, H5, ha, hs4.rd.one, by omega, e5, hw5, hn5, ⟨tv, M, es, clock, tvs5, o1, hb5⟩, hN5, by omega⟩
theorem Bk.num (hb : Bk H N B b tv M es clock tvs o) {k f : Nat} {y : AVal} (hx : b[k]? = some x) (hf : f < 12) (hy : y.one = true) (hxy : ∀ sv rv wv, spl (txc x sv rv wv) f [y] = txc x' sv rv wv) (hs : x'.set = x.set ∧ x'.reads = x.reads ∧ x'.writes = x.writes) (hon : x'.on = x.on) (hcl : x'.client = x.client) :
  ∃ R ver H2, tv = .slice R ver 0 b.length b.length false 12 ∧ H.write R ver (k * 12 + f) [y] = some H2 ∧ H2.next = H.next ∧ (∃ tvs', Bk H2 N B (b.set k x') tv M es clock tvs' o) ∧ (∀ A, A < N → H2.get A = H.get A) ∧ ∀ A, A ≠ R → H2.get A = H.get A := by
 obtain ⟨R, ver, cells, sv, rv, wv, h1, h2, h3, h4, h5, h6, h7, he, ht⟩ := hb.tx hx
 obtain ⟨R, ver, H2, tvs', e1, e2, e3, e4, e5, e6, e7⟩ := hb.putTx (f := f) (y := y) (x' := x') hx he (Nat.le_refl _) (fun _ _ _ _ _ => rfl) (fun _ _ => rfl) (o1 := o) (fun _ _ => rfl)
  ⟨rfl, by rw [hs.1]; exact ht.set, ht.setL, by rw [hs.2.1]; exact ht.reads, ht.readsL, by rw [hs.2.2]; exact ht.writes, ht.writesL, by rw [hs.2.1]; exact ht.rvals, by rw [hs.2.2]; exact ht.wvals⟩ (hxy sv rv wv) hf hy hon hcl
 exact ⟨R, ver, H2, e1, e2, e4, ⟨tvs', e3⟩, e5, e7⟩
theorem Out.from {H0 H1 : zz6} {b' : Option (List TxD)} (hg : Grow H0 H1) (hN : N ≤ H0.next) (h : Out H1 N B b' H') : Out H0 N B b' H' := by
 have := hg.next
 cases b' with
 | none => exact ⟨h.bad, fun A hA => by rw [h.old A hA, hg.get A (by omega)], by have := h.next; omega⟩
 | some b => exact ⟨h.1, fun A hA => by rw [h.2.1 A hA, hg.get A (by omega)], by have := h.2.2; omega⟩
structure ClientE (kn : zy0) (env : Nat → Option zzq) : Prop where
 f85 : Fn kn env 85 a85
 f110 : Fn kn env 110 a110
 f111 : Fn kn env 111 a111
 f112 : Fn kn env 112 a112
 f113 : Fn kn env 113 a113
 f119 : Fn kn env 119 a119
 f120 : Fn kn env 120 a120
 f89 : Fn kn env 89 a89
end
end Go.Proofs.Ythbjfkkjmecaaaa
