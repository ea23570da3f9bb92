/- Walks: the reference's write: a block's last value. -/
import Derived.Test.YthbjfkkjmecaaaaY28
import Derived.Test.YthbjfkkjmecaaaaY31
import Derived.Test.YthbjfkkjmecaaaaY26
import Derived.Test.YthbjfkkjmecaaaaY19
import Derived.Test.YthbjfkkjmecaaaaY25
set_option linter.unusedVariables false
set_option linter.unusedSimpArgs false
namespace Go.Proofs.Ythbjfkkjmecaaaa
open Go Go.Vm
section
variable {kn : zy0} {env : Nat → Option zzq}
variable {H H' H1 : zz6} {N B : Nat} {l l' : List ImgD} {x y : ImgD} {lv : AVal}
theorem zh6 : ∀ (l : List ImgD) (x : ImgD), (∀ y ∈ l, y.blk < x.blk) → ∀ l', zyx (l ++ l') x = l ++ zyx l' x
 | [], x, _, l' => rfl
 | y :: l, x, h, l' => by
  have h1 := h y (List.mem_cons_self ..)
  have h2 := zh6 l x (fun z hz => h z (List.mem_cons_of_mem _ hz)) l'
  show (if y.blk < x.blk then y :: zyx (l ++ l') x else _) = _
  rw [if_pos h1, h2]; rfl
theorem zc2 {k : Nat} (hk : ∀ (j : Nat) (y : ImgD), j < k → l[j]? = some y → y.blk < x.blk) (hkl : k ≤ l.length) : zyx l x = l.take k ++ zyx (l.drop k) x := by
 have := zh6 (l.take k) x (fun y hy => by
  obtain ⟨j, hj⟩ := List.mem_iff_getElem?.1 hy
  have hjl := (List.getElem?_eq_some_iff.1 hj).1
  rw [List.length_take] at hjl
  rw [List.getElem?_take, if_pos (by omega)] at hj
  exact hk j y (by omega) hj) (l.drop k)
 rwa [List.take_append_drop] at this
theorem ImgD.full (h : zyr x.val) : x.cells.length = 33 ∧ x.cells.all AVal.one = true := ⟨by simp [-getElem?_pos, ImgD.cells, h.len], by simp only [ImgD.cells, List.all_cons, h.one, Bool.and_true]; rfl⟩
set_option maxHeartbeats 2000000 in
theorem c106 (h : Fn kn env 106 a106) (n : Nat) (hl : RdE H 33 lv (zhh l)) (hlies : lv.lies (· < H.next)) (hv : ∀ y ∈ l, zyr y.val) (hx : zyr x.val) (hm : l.length < 400000000000) (hn : l.length < n) :
  ∃ v H', zzp kn env (n + 1) (.func (.func 106) []) [lv, .agg x.cells] H = some (v, H') ∧ (Grow H H' ∧ zzw H' H.next 33 v (zhh (zyx l x))) := by
 obtain ⟨f33, f1⟩ := ImgD.full hx
 have hlen : zyy lv = some (vi l.length) := by have := hl.lenS; rwa [List.length_map] at this
 obtain ⟨H1, hH1⟩ : ∃ H1, H1 = H.push (.row [some (0, x.cells)]) := ⟨_, rfl⟩
 have hn1 : H1.next = H.next + 1 := by rw [hH1]; simp [-getElem?_pos]
 have hg1 : Grow H H1 := by rw [hH1]; exact Grow.push _ _
 have hX : H1.rowAt H.next 0 = some x.cells := by rw [hH1]; simp [-getElem?_pos]
 have hx0 : x.cells[0]? = some (vi x.blk) := rfl
 have hl1 := hl.grow hg1 hlies
 have hone : ∀ e ∈ zhh l, e.all AVal.one = true := fun e he => by obtain ⟨y, hy, rfl⟩ := List.mem_map.1 he; exact (ImgD.full (hv y hy)).2
 refine Wp.call 57 [0, 1, 3, 4, 5, 6, 20, 36] h.e (h.no _ _) rfl (by simp) ?_
 repeat (first | apply Wp.za | apply Wp.zb)
 (repeat (first | apply Wp.za | apply Wp.zb)); (apply Wp.zh; (repeat (apply Ex.zc; (simp (disch := omega) [-getElem?_pos]; rfl))); exact Ex.zn; rfl; (simp; rfl))
 rw [← hH1]
 repeat (first | apply Wp.za | apply Wp.zb | apply Wp.zc | apply Wp.zd | apply Wp.ze | apply Wp.zf rfl | apply Wp.zg rfl | ((apply Wp.zh; (repeat (apply Ex.zc; (simp (disch := omega) [-getElem?_pos]; rfl))); exact Ex.zn; rfl; (simp; rfl))))
 apply Wp.loop (α := Nat) (fun y => [(0, lv), (3, .ptr H.next 0 0), (5, vi y)]) (fun _ => H1) (fun k => k ≤ l.length ∧ ∀ (j : Nat) (y : ImgD), j < k → l[j]? = some y → y.blk < x.blk) (fun k => l.length - k) 0 rfl ⟨Nat.zero_le _, fun j y hj => by omega⟩ (by omega) (by simp)
 rintro k ⟨hk, hlt⟩
 have hwa := zc2 hlt hk
 have hX2 : (H1.push (.row [some (0, [])])).rowAt H.next 0 = some x.cells := by simp (disch := omega) [-getElem?_pos]; rw [hX]
 -- a copy ahead, the one, what is behind
 have pre : ∃ w1 w2 v3 H3 v5 H5 v6 H6, zye 33 lv none (some (vi k)) none = some w1 ∧ zye 33 lv (some (vi k)) none none = some w2 ∧ zzf (H1.push (.row [some (0, [])])) 33 40 (.slice H1.next 0 0 0 0 true 33) w1 = some (v3, H3) ∧ H3.rowAt H.next 0 = some x.cells ∧
   zzf (H3.push (.row [some (0, x.cells)])) 33 40 v3 (.slice H3.next 0 0 1 1 true 33) = some (v5, H5) ∧ zzf H5 33 40 v5 w2 = some (v6, H6) ∧ Grow H H6 ∧ zzw H6 H.next 33 v6 (zhh (l.take k ++ x :: l.drop k)) ∧ H1.next + 1 ≤ H3.next ∧ H3.next + 1 ≤ H5.next ∧ H5.next ≤ H6.next := by
  obtain ⟨w1, q1, q2, q3⟩ := hl1.first (k := k) (by rw [List.length_map]; exact hk)
  obtain ⟨w2, r1, r2, r3⟩ := hl1.from (k := k) (by rw [List.length_map]; exact hk)
  have hl1' : lv.lies (· < H1.next) := fun R ver off len kc ex esz e => by have := hlies R ver off len kc ex esz e; omega
  have hlb : lv.lies (· < H.next) := hlies
  obtain ⟨v3, H3, a1, a2, a3, a4⟩ := (GrE.new (esz := 33) (base := H1.next) H1 (Nat.le_refl _)).app (bytes := 40) (by simp) (q2.grow (Grow.push _ _) (q3 _ hl1')) (by omega) (by omega) (fun e he => hone e (List.mem_of_mem_take he)) (by simp; omega)
  have g13 : Grow H1 H3 := ⟨by simp [-getElem?_pos] at a3; omega, fun A hA => by rw [a4 A hA, zz6.zz9 _ _ (by omega)]⟩
  obtain ⟨v5, H5, b1, b2, b3, b4⟩ := ((a2.move (H' := H3.push (.row [some (0, x.cells)])) (by simp) fun A _ hA => zz6.zz9 _ _ (by omega)).one (bytes := 40) (X := H3.next) (e := x.cells) (by have := g13.next; simp [-getElem?_pos]; omega) (by simp) f33 (by omega) (by omega) f1 (by simp; omega))
  have g15 : Grow H1 H5 := ⟨by have := g13.next; simp [-getElem?_pos] at b3; omega, fun A hA => by have := g13.next; rw [b4 A hA, zz6.zz9 _ _ (by omega), g13.get A hA]⟩
  obtain ⟨v6, H6, c1, c2, c3, c4⟩ := b2.app (bytes := 40) (by have := g15.next; omega) (r2.grow g15 (r3 _ hl1')) (by omega) (by omega) (fun e he => hone e (List.mem_of_mem_drop he)) (by simp; omega)
  refine ⟨w1, w2, v3, H3, v5, H5, v6, H6, q1, r1, a1, ?_, b1, c1, ⟨by have := g15.next; omega, fun A hA => by rw [c4 A (by omega), g15.get A (by omega), hg1.get A hA]⟩, ?_, by simpa [-getElem?_pos] using a3, by simpa [-getElem?_pos] using b3, c3⟩
  ·rw [g13.rowAt (by omega)]; exact hX
  ·have := c2.slice (by simp)
   refine (show zhh (l.take k ++ x :: l.drop k) = _ from ?_) ▸ this.move (base' := H.next) (by omega) (Nat.le_refl _) fun _ _ _ => rfl
   simp [-getElem?_pos, List.map_take, List.map_drop]
 obtain ⟨w1, w2, v3, H3, v5, H5, v6, H6, p1, p2, p3, p4, p5, p6, p7, p8, n3, n5, n6⟩ := pre
 have hbq : AVal.beqs x.cells x.cells = true := by simp [-getElem?_pos, ImgD.cells, zyq hx.bytes]
 have ht33 : x.cells.take 33 = x.cells := List.take_of_length_le (by omega)
 by_cases hkl : k < l.length
 ·obtain ⟨y, hy⟩ : ∃ y, l[k]? = some y := ⟨_, List.getElem?_eq_getElem hkl⟩
  obtain ⟨R, ver, off, kc, ex, cells, hlv, hrow, hc1, hc2⟩ := hl1.at (i := k) (e := y.cells) (by rw [List.getElem?_map, hy]; rfl)
  rw [List.length_map] at hlv
  have g0 := zk5 hc2 (j := 0) (by omega)
  have hy0 : y.cells[0]? = some (vi y.blk) := rfl
  rw [hy0, Nat.add_zero] at g0
  by_cases h1 : y.blk < x.blk
  ·repeat (first | apply Wp.za | apply Wp.zb | apply Wp.zc | apply Wp.zd | apply Wp.ze | apply Wp.zf rfl | apply Wp.zg rfl | ((apply Wp.zh; (repeat (apply Ex.zc; (simp (disch := omega) [-getElem?_pos, hlen, hlv, hrow, hX, hx0, g0, h1, zyy]; rfl))); exact Ex.zn; rfl; (simp; rfl))) | ((apply Wp.zi; (repeat ((first | apply Dr.q rfl rfl | apply Dr.r rfl rfl | apply Dr.imm rfl); (simp (disch := omega) [-getElem?_pos, hlen, hlv, hrow, hX, hx0, g0, h1, zyy]; rfl); (focus first | (simp; rfl) | (simp; done) | (simp; omega)))); exact Dr.nil; rfl; (first | (focus (simp (disch := omega) [-getElem?_pos, hlen, hlv, hrow, hX, hx0, g0, h1, zyy]; done)) | rfl); (simp; rfl))))
   refine ⟨k + 1, rfl, ⟨by omega, fun j z hj hz => ?_⟩, by omega, by simp [-getElem?_pos, hlv]⟩
   rcases Nat.lt_or_ge j k with hjk | hjk
   ·exact hlt j z hjk hz
   ·have : j = k := by omega
    subst this; rw [hy] at hz; cases hz; exact h1
  ·by_cases h2 : y.blk = x.blk
   ·obtain ⟨v4, H4, a1, a2, a3, a4⟩ := (GrE.new (esz := 33) (base := H1.next) H1 (Nat.le_refl _)).app (bytes := 40) (by simp) (hl1.grow (Grow.push _ _) (fun R ver off len kc ex esz e => by have := hlies R ver off len kc ex esz e; omega)) (by omega) (by omega) hone (by simp; omega)
    have g14 : Grow H1 H4 := ⟨by simp [-getElem?_pos] at a3; omega, fun A hA => by rw [a4 A hA, zz6.zz9 _ _ (by omega)]⟩
    have hs4 := a2.slice (by rw [List.nil_append]; intro e; have := congrArg List.length e; rw [List.length_map, List.length_nil] at this; omega)
    rw [List.nil_append] at hs4
    obtain ⟨R4, ver4, H5', b1, b2, b3, b4, b5, b6, b7⟩ := hs4.store (i := k) (e := y.cells) (by rw [List.getElem?_map, hy]; rfl) (f := 0) (vals := x.cells) (by omega) (by omega) f1
    rw [List.length_map] at b1
    rw [Nat.add_zero] at b4
    have hX4 : H4.rowAt H.next 0 = some x.cells := by rw [g14.rowAt (by omega)]; exact hX
    rw [hlv] at a1
    rw [b1] at a1 b5
    repeat (first | apply Wp.za | apply Wp.zb | apply Wp.zc | apply Wp.zd | apply Wp.ze | apply Wp.zf rfl | apply Wp.zg rfl | ((apply Wp.zh; (repeat (apply Ex.zc; (simp (disch := omega) [-getElem?_pos, hlen, hlv, hrow, hX, hx0, g0, h1, h2, zyy, a1, zzm, zx1, hX4, f33, ht33, b4]; rfl))); exact Ex.zn; rfl; (simp; rfl))) | ((apply Wp.zi; (repeat ((first | apply Dr.q rfl rfl | apply Dr.r rfl rfl | apply Dr.imm rfl); (simp (disch := omega) [-getElem?_pos, hlen, hlv, hrow, hX, hx0, g0, h1, h2, zyy, a1, zzm, zx1, hX4, f33, ht33, b4]; rfl); (focus first | (simp; rfl) | (simp; done) | (simp; omega)))); exact Dr.nil; rfl; (first | (focus (simp (disch := omega) [-getElem?_pos, hlen, hlv, hrow, hX, hx0, g0, h1, h2, zyy, a1, zzm, zx1, hX4, f33, ht33, b4]; done)) | rfl); (simp; rfl))))
    simp [-getElem?_pos, a106]
    refine ⟨⟨by have := g14.next; omega, fun A hA => by rw [b7 A (by omega), g14.get A (by omega), hg1.get A hA]⟩, ?_⟩
    have hwr : zhh (zyx l x) = (zhh l).set k x.cells := by
     rw [hwa, zqe hy]
     unfold zyx
     rw [if_neg h1, if_pos h2]
     show List.map _ _ = _
     rw [← List.map_set, List.set_eq_take_append_cons_drop, if_pos hkl]
    have hsp : spl y.cells 0 x.cells = x.cells := by
     have hy33 := (ImgD.full (hv y (List.mem_of_getElem? hy))).1
     simp only [spl, List.take_zero, List.nil_append, Nat.zero_add]
     rw [List.drop_of_length_le (by omega), List.append_nil]
    rw [hwr, ← hsp]
    exact b5.move (by omega) (Nat.le_refl _) fun _ _ _ => rfl
   ·have hwr : zyx l x = l.take k ++ x :: l.drop k := by
     rw [hwa, zqe hy]
     unfold zyx
     rw [if_neg h1, if_neg h2]
    rw [← hwr] at p8
    have hne : ¬ (y.blk = x.blk) := h2
    rw [hlv] at p1 p2
    repeat (first | apply Wp.za | apply Wp.zb | apply Wp.zc | apply Wp.zd | apply Wp.ze | apply Wp.zf rfl | apply Wp.zg rfl | ((apply Wp.zh; (repeat (apply Ex.zc; (simp (disch := omega) [-getElem?_pos, hlen, hlv, hrow, hX, hx0, g0, h1, h2, zyy, p1, p2, p3, p4, p5, p6, zzm, zx1, f33, ht33, hbq]; rfl))); exact Ex.zn; rfl; (simp; rfl))) | ((apply Wp.zi; (repeat ((first | apply Dr.q rfl rfl | apply Dr.r rfl rfl | apply Dr.imm rfl); (simp (disch := omega) [-getElem?_pos, hlen, hlv, hrow, hX, hx0, g0, h1, h2, zyy, p1, p2, p3, p4, p5, p6, zzm, zx1, f33, ht33, hbq]; rfl); (focus first | (simp; rfl) | (simp; done) | (simp; omega)))); exact Dr.nil; rfl; (first | (focus (simp (disch := omega) [-getElem?_pos, hlen, hlv, hrow, hX, hx0, g0, h1, h2, zyy, p1, p2, p3, p4, p5, p6, zzm, zx1, f33, ht33, hbq]; done)) | rfl); (simp; rfl))))
    simp [-getElem?_pos, a106]
    exact ⟨p7, p8⟩
 ·have hwr : zyx l x = l.take k ++ x :: l.drop k := by
   rw [hwa, List.drop_of_length_le (by omega)]; rfl
  rw [← hwr] at p8
  repeat (first | apply Wp.za | apply Wp.zb | apply Wp.zc | apply Wp.zd | apply Wp.ze | apply Wp.zf rfl | apply Wp.zg rfl | ((apply Wp.zh; (repeat (apply Ex.zc; (simp (disch := omega) [-getElem?_pos, hlen, hX, hx0, p1, p2, p3, p4, p5, p6, zzm, zx1, f33, ht33, hbq]; rfl))); exact Ex.zn; rfl; (simp; rfl))) | ((apply Wp.zi; (repeat ((first | apply Dr.q rfl rfl | apply Dr.r rfl rfl | apply Dr.imm rfl); (simp (disch := omega) [-getElem?_pos, hlen, hX, hx0, p1, p2, p3, p4, p5, p6, zzm, zx1, f33, ht33, hbq]; rfl); (focus first | (simp; rfl) | (simp; done) | (simp; omega)))); exact Dr.nil; rfl; (first | (focus (simp (disch := omega) [-getElem?_pos, hlen, hX, hx0, p1, p2, p3, p4, p5, p6, zzm, zx1, f33, ht33, hbq]; done)) | rfl); (simp; rfl))))
  simp [-getElem?_pos, a106]
  exact ⟨p7, p8⟩
end
section
variable {kn : zy0} {env : Nat → Option zzq}
variable {b : List TxD} {i : Nat} {x : TxD}
theorem yqk {c : Int} (hx : b[i]? = some x) (h1 : x.on = true) (h2 : x.client = c) (hno : ∀ (j : Nat) (y : TxD), j < i → b[j]? = some y → y.on = true → y.client ≠ c) : zy5 b c = some i := by
 unfold zy5 zzj
 rw [List.find?_filter, List.find?_range_eq_some]
 have hi := (List.getElem?_eq_some_iff.1 hx).1
 refine ⟨by simp [-getElem?_pos, zlf, zy3, hx, h1, h2], by simpa [-getElem?_pos] using hi, fun j hj => ?_⟩
 obtain ⟨y, hy⟩ : ∃ y, b[j]? = some y := ⟨_, List.getElem?_eq_getElem (by omega)⟩
 have := hno j y hj hy
 simp [-getElem?_pos, zlf, zy3, hy]
 by_cases h : y.on = true
 ·exact .inr (this h)
 ·exact .inl (by simpa [-getElem?_pos] using h)
theorem yxs {c : Int} (hno : ∀ (j : Nat) (y : TxD), b[j]? = some y → y.on = true → y.client ≠ c) : zy5 b c = none := by
 unfold zy5 zzj
 rw [List.find?_filter, List.find?_eq_none]
 intro j hj
 have hj : j < b.length := by simpa [-getElem?_pos] using hj
 obtain ⟨y, hy⟩ : ∃ y, b[j]? = some y := ⟨_, List.getElem?_eq_getElem hj⟩
 have := hno j y hy
 simp [-getElem?_pos, zlf, zy3, hy]
 exact this
def zpz (b : List TxD) (t : Int) (i : Nat) : List Nat := (List.range i).filter fun k => zlf b k && zqf b t k
theorem zc6 {t : Int} (hx : b[i]? = some x) : zpz b t (i + 1) = zpz b t i ++ (if x.on = true ∧ x.ticket = t then [i] else []) := by
 unfold zpz
 rw [List.range_succ, List.filter_append]
 congr 1
 by_cases h : x.on = true ∧ x.ticket = t
 ·rw [if_pos h]; simp [-getElem?_pos, zlf, zqf, hx, h.1, h.2]
 ·rw [if_neg h]; simp [-getElem?_pos, zlf, zqf, hx]; intro a b; exact h ⟨a, b⟩
theorem zep (t : Int) : zvc b t = lone (zpz b t b.length) := by
 unfold zvc zzj zpz
 rw [List.filter_filter]
 congr 2
 funext k
 rw [Bool.and_comm]
theorem zpl {t : Int} : ∀ (d : Nat), ∃ r, zpz b t (i + d) = zpz b t i ++ r
 | 0 => ⟨[], by simp [-getElem?_pos]⟩
 | d + 1 => by
  obtain ⟨r, hr⟩ := zpl (t := t) d
  refine ⟨r ++ ([i + d].filter fun k => zlf b k && zqf b t k), ?_⟩
  rw [← List.append_assoc, ← hr]
  unfold zpz
  rw [← Nat.add_assoc, List.range_succ, List.filter_append]
theorem zct {t : Int} {k l : Nat} (hi : i ≤ b.length) (h : zpz b t i = [k, l]) : zvc b t = none := by
 rw [zep]
 obtain ⟨r, hr⟩ := zpl (b := b) (t := t) (i := i) (b.length - i)
 rw [show i + (b.length - i) = b.length by omega, h] at hr
 rw [hr]; rfl
end
section
variable {kn : zy0} {env : Nat → Option zzq}
variable {H H' H1 : zz6} {N B i k : Nat} {b c : List TxD} {e : List Bool} {tv ev sv rv wv sv' rv' wv' : AVal} {tvs : List (List AVal)} {o o' o1 : Nat → Nat} {x x' y : TxD}
def zxc (x : TxD) : TxD := { x with fate := if x.on then 1 else x.fate, on := false }
abbrev zbl (b : List TxD) : List TxD := b.map zxc
abbrev zbq (b : List TxD) : List Bool := b.map fun x => !x.on
abbrev yk4 (e : List Bool) : List (List AVal) := e.map fun z => [zzt z]
structure RB (H : zz6) (N B : Nat) (c : List TxD) (e : List Bool) (tv ev : AVal) (tvs : List (List AVal)) (o : Nat → Nat) : Prop where
 cells : Cells H B [tv, ev]
 txs : zzw H N 12 tv tvs
 txsL : zs4 N H o 2 tv
 ends : zzw H N 1 ev (yk4 e)
 endsL : zs4 N H o 1 ev
 each : zte H N o tvs c
 same : e.length = c.length
 oB : o B = 0
 hB : N ≤ B ∧ B < H.next
theorem RB.grow (h : RB H N B c e tv ev tvs o) (hg : Grow H H') : RB H' N B c e tv ev tvs o where
 cells := h.cells.mono (hg.get _ h.hB.2)
 txs := zza h.txs h.txsL hg.next fun A _ a _ => hg.get A a
 txsL := h.txsL.move hg.next fun _ _ => rfl
 ends := zza h.ends h.endsL hg.next fun A _ a _ => hg.get A a
 endsL := h.endsL.move hg.next fun _ _ => rfl
 each := h.each.move hg.next (fun A _ a _ => hg.get A a) fun _ _ => rfl
 same := h.same
 oB := h.oB
 hB := ⟨h.hB.1, by have := hg.next; have := h.hB.2; omega⟩
theorem RB.len (h : RB H N B c e tv ev tvs o) : tvs.length = c.length := h.each.1
theorem RB.lenT (h : RB H N B c e tv ev tvs o) : zyy tv = some (vi c.length) := by rw [h.txs.rd.lenS, h.len]
theorem RB.tx (h : RB H N B c e tv ev tvs o) (hx : c[k]? = some x) : ∃ R ver cells sv rv wv, tv = .slice R ver 0 c.length c.length false 12 ∧ N ≤ R ∧ R < H.next ∧ o R = 2 ∧ H.rowAt R ver = some cells ∧ k * 12 + 12 ≤ cells.length ∧
  (∀ f, f < 12 → cells[k * 12 + f]? = (txc x sv rv wv)[f]?) ∧ tvs[k]? = some (txc x sv rv wv) ∧ TxAt H N o k (txc x sv rv wv) x sv rv wv := by
 have hk := (List.getElem?_eq_some_iff.1 hx).1
 have hl := h.len
 have he : tvs[k]? = some tvs[k] := List.getElem?_eq_getElem (by omega)
 obtain ⟨sv, rv, wv, ht⟩ := h.each.2 k _ x he hx
 obtain ⟨R, ver, cells, h1, h2, h3, h4, h5, h6, _⟩ := h.txs.load he
 rw [hl] at h1
 rw [ht.eq] at h6 he
 refine ⟨R, ver, cells, sv, rv, wv, h1, h2, h3, (h.txsL _ _ _ _ _ _ _ h1).2.2, h4, h5, h6, he, ?_⟩
 rw [← ht.eq]; exact ht
theorem RB.ended (h : RB H N B c e tv ev tvs o) {z : Bool} (hx : e[k]? = some z) : ∃ R ver cells, ev = .slice R ver 0 c.length c.length false 1 ∧ N ≤ R ∧ R < H.next ∧ o R = 1 ∧ H.rowAt R ver = some cells ∧ k + 1 ≤ cells.length ∧ cells[k]? = some (zzt z) := by
 obtain ⟨R, ver, cells, h1, h2, h3, h4, h5, h6, _⟩ := h.ends.load (i := k) (e := [zzt z]) (by rw [List.getElem?_map, hx]; rfl)
 rw [List.length_map, h.same] at h1
 rw [Nat.mul_one] at h5 h6
 exact ⟨R, ver, cells, h1, h2, h3, (h.endsL _ _ _ _ _ _ _ h1).2.2, h4, h5, by have := h6 0 (by omega); simpa [-getElem?_pos] using this⟩
theorem RB.see (hb : RB H N B c e tv ev tvs o) (hx : c[k]? = some x) {z : Bool} (hz : e[k]? = some z) : ∃ R ver cells R2 ver2 cells2 sv rv wv, H.rowAt B 0 = some [.slice R ver 0 c.length c.length false 12, .slice R2 ver2 0 c.length c.length false 1] ∧ H.rowAt R ver = some cells ∧ k * 12 + 12 ≤ cells.length ∧ (∀ f, f < 12 → cells[k * 12 + f]? = (txc x sv rv wv)[f]?) ∧ H.rowAt R2 ver2 = some cells2 ∧ k + 1 ≤ cells2.length ∧ cells2[k]? = some (zzt z) ∧ tv = .slice R ver 0 c.length c.length false 12 ∧ ev = .slice R2 ver2 0 c.length c.length false 1 := by
 obtain ⟨R, ver, cells, sv, rv, wv, rfl, _, _, _, hrow, hlen, hcell, _, _⟩ := hb.tx hx
 obtain ⟨R2, ver2, cells2, rfl, _, _, _, hrow2, hlen2, hcell2⟩ := hb.ended hz
 exact ⟨R, ver, cells, R2, ver2, cells2, sv, rv, wv, hb.cells.at, hrow, hlen, hcell, hrow2, hlen2, hcell2, rfl, rfl⟩
theorem RB.putTx (hb : RB H N B c e tv ev tvs o) {f : Nat} {u : AVal} (hx : c[k]? = some x) (hv : tvs[k]? = some (txc x sv rv wv)) (hn : H.next ≤ H1.next) (hg : ∀ A, A < H.next → o A ≠ 3 * k + 3 → o A ≠ 3 * k + 4 → o A ≠ 3 * k + 5 → H1.get A = H.get A)
  (hgN : ∀ A, A < N → H1.get A = H.get A) (ho : ∀ A, A < H.next → o1 A = o A) (hT : TxAt H1 N o1 k (txc x' sv' rv' wv') x' sv' rv' wv') (hspl : spl (txc x sv rv wv) f [u] = txc x' sv' rv' wv') (hf : f < 12) (hy : u.one = true) :
  ∃ R ver H2 tvs', tv = .slice R ver 0 c.length c.length false 12 ∧ H1.write R ver (k * 12 + f) [u] = some H2 ∧ RB H2 N B (c.set k x') e tv ev tvs' o1 ∧ H2.next = H1.next ∧ (∀ A, A < N → H2.get A = H.get A) := by
 have hk := (List.getElem?_eq_some_iff.1 hx).1
 have hl := hb.len
 have hs1 : zzw H1 N 12 tv tvs := zza hb.txs hb.txsL hn fun A _ a c => hg A a (by omega) (by omega) (by omega)
 have hL1 : zs4 N H1 o1 2 tv := hb.txsL.move hn ho
 obtain ⟨R, ver, H2, g1, g2, g3, g4, g5, g6, g7⟩ := hs1.store hv (f := f) (vals := [u]) (by simp) (by simp; omega) (by simp [-getElem?_pos, hy])
 rw [hl] at g1
 have hR2 : o1 R = 2 := (hL1 _ _ _ _ _ _ _ g1).2.2
 have h27 : ∀ A, o1 A ≠ 2 → H2.get A = H1.get A := fun A hA => g7 A fun e => hA (by rw [e, hR2])
 have hB := hb.hB
 have hE1 : zzw H1 N 1 ev (yk4 e) := zza hb.ends hb.endsL hn fun A _ a c => hg A a (by omega) (by omega) (by omega)
 have hEL : zs4 N H1 o1 1 ev := hb.endsL.move hn ho
 refine ⟨R, ver, H2, _, g1, g4, ⟨?_, g5, hL1.move (by omega) fun _ _ => rfl, zza hE1 hEL (by omega) fun A _ _ c => h27 A (by omega), hEL.move (by omega) fun _ _ => rfl, ⟨by simp [-getElem?_pos, hl], fun i e z hi hz => ?_⟩, by rw [List.length_set]; exact hb.same, by rw [ho B hB.2, hb.oB], ⟨hB.1, by omega⟩⟩, g6, fun A hA => by rw [g7 A (by omega), hgN A hA]⟩
 ·show H2.get B = _
  rw [h27 B (by rw [ho B hB.2, hb.oB]; omega), hg B hB.2 (by rw [hb.oB]; omega) (by rw [hb.oB]; omega) (by rw [hb.oB]; omega)]; exact hb.cells
 ·rw [List.getElem?_set] at hi hz
  by_cases e1 : k = i
  ·subst e1
   rw [if_pos rfl, if_pos (by omega)] at hi hz
   cases hi; cases hz
   rw [hspl]
   exact ⟨sv', rv', wv', hT.move (by omega) (fun A _ _ hA => h27 A (by omega)) fun _ _ => rfl⟩
  ·rw [if_neg e1] at hi hz
   obtain ⟨sv, rv, wv, h⟩ := hb.each.2 i e z hi hz
   have h1 := h.move (H' := H1) (o' := o1) hn (fun A _ a hA => hg A a (by omega) (by omega) (by omega)) ho
   exact ⟨sv, rv, wv, h1.move (by omega) (fun A _ _ hA => h27 A (by omega)) fun _ _ => rfl⟩
theorem RB.num (hb : RB H N B c e tv ev tvs o) {f : Nat} {u : AVal} (hx : c[k]? = some x) (hs : x'.set = x.set ∧ x'.reads = x.reads ∧ x'.writes = x.writes) (hspl : ∀ sv rv wv, spl (txc x sv rv wv) f [u] = txc x' sv rv wv) (hf : f < 12) (hy : u.one = true) :
  ∃ R ver H2 tvs', tv = .slice R ver 0 c.length c.length false 12 ∧ H.write R ver (k * 12 + f) [u] = some H2 ∧ RB H2 N B (c.set k x') e tv ev tvs' o ∧ H2.next = H.next ∧ (∀ A, A < N → H2.get A = H.get A) := by
 obtain ⟨R, ver, cells, sv, rv, wv, h1, h2, h3, h4, h5, h6, h7, h8, h9⟩ := hb.tx hx
 exact hb.putTx hx h8 (Nat.le_refl _) (fun _ _ _ _ _ => rfl) (fun _ _ => rfl) (fun _ _ => rfl) ⟨rfl, by rw [hs.1]; exact h9.set, h9.setL, by rw [hs.2.1]; exact h9.reads, h9.readsL, by rw [hs.2.2]; exact h9.writes, h9.writesL, by rw [hs.2.1]; exact h9.rvals, by rw [hs.2.2]; exact h9.wvals⟩ (hspl sv rv wv) hf hy
theorem RB.putEnd (hb : RB H N B c e tv ev tvs o) (hk : k < c.length) :
  ∃ R ver H2, ev = .slice R ver 0 c.length c.length false 1 ∧ H.write R ver k [zzt true] = some H2 ∧ RB H2 N B c (e.set k true) tv ev tvs o ∧ H2.next = H.next ∧ (∀ A, A < N → H2.get A = H.get A) := by
 have hl := hb.same
 obtain ⟨z, hz⟩ : ∃ z, e[k]? = some z := ⟨_, List.getElem?_eq_getElem (by omega)⟩
 obtain ⟨R, ver, H2, g1, g2, g3, g4, g5, g6, g7⟩ := hb.ends.store (i := k) (e := [zzt z]) (by rw [List.getElem?_map, hz]; rfl) (f := 0) (vals := [zzt true]) (by simp) (by simp) rfl
 rw [List.length_map, hl] at g1
 rw [Nat.mul_one, Nat.add_zero] at g4
 have hR : o R = 1 := (hb.endsL _ _ _ _ _ _ _ g1).2.2
 have h27 : ∀ A, o A ≠ 1 → H2.get A = H.get A := fun A hA => g7 A fun e => hA (by rw [e, hR])
 have hB := hb.hB
 refine ⟨R, ver, H2, g1, g4, ⟨?_, zza hb.txs hb.txsL (by omega) fun A _ _ c => h27 A (by omega), hb.txsL.move (by omega) fun _ _ => rfl, ?_, hb.endsL.move (by omega) fun _ _ => rfl, hb.each.move (by omega) (fun A _ _ c => h27 A (by omega)) fun _ _ => rfl, by rw [List.length_set]; exact hl, hb.oB, ⟨hB.1, by omega⟩⟩, g6, fun A hA => g7 A (by omega)⟩
 ·show H2.get B = _
  rw [h27 B (by rw [hb.oB]; omega)]; exact hb.cells
 ·have : yk4 (e.set k true) = (yk4 e).set k (spl [zzt z] 0 [zzt true]) := by
   show List.map (fun z => [zzt z]) (e.set k true) = _
   rw [List.map_set]; rfl
  rw [this]; exact g5
theorem RB.vals (hb : RB H N B c e tv ev tvs o) (hx : c[k]? = some x) : ∃ R ver R2 ver2, tv = .slice R ver 0 c.length c.length false 12 ∧ ev = .slice R2 ver2 0 c.length c.length false 1 := by
 obtain ⟨R, ver, _, _, _, _, h1, _⟩ := hb.tx hx
 have hk := (List.getElem?_eq_some_iff.1 hx).1
 obtain ⟨R2, ver2, _, h2, _⟩ := hb.putEnd hk
 exact ⟨R, ver, R2, ver2, h1, h2⟩
variable {R ver L : Nat}
theorem RB.rdT (hb : RB H N B c e tv ev tvs o) (htv : tv = .slice R ver 0 L L false 12) (hx : c[k]? = some x) : ∃ cells sv rv wv, H.rowAt R ver = some cells ∧ k * 12 + 12 ≤ cells.length ∧ (∀ f, f < 12 → cells[k * 12 + f]? = (txc x sv rv wv)[f]?) := by
 obtain ⟨R', ver', cells, sv, rv, wv, h1, _, _, _, h2, h3, h4, _⟩ := hb.tx hx
 rw [htv] at h1; cases h1
 exact ⟨cells, sv, rv, wv, h2, h3, h4⟩
theorem RB.rdE (hb : RB H N B c e tv ev tvs o) (hev : ev = .slice R ver 0 L L false 1) {z : Bool} (hz : e[k]? = some z) : ∃ cells, H.rowAt R ver = some cells ∧ k + 1 ≤ cells.length ∧ cells[k]? = some (zzt z) := by
 obtain ⟨R', ver', cells, h1, _, _, _, h2, h3, h4⟩ := hb.ended hz
 rw [hev] at h1; cases h1
 exact ⟨cells, h2, h3, h4⟩
theorem RB.numT (hb : RB H N B c e tv ev tvs o) (htv : tv = .slice R ver 0 L L false 12) {f : Nat} {u : AVal} (hx : c[k]? = some x) (x' : TxD) (hs : x'.set = x.set ∧ x'.reads = x.reads ∧ x'.writes = x.writes) (hspl : ∀ sv rv wv, spl (txc x sv rv wv) f [u] = txc x' sv rv wv) (hf : f < 12) (hy : u.one = true) :
  ∃ H2 tvs', H.write R ver (k * 12 + f) [u] = some H2 ∧ RB H2 N B (c.set k x') e tv ev tvs' o ∧ H2.next = H.next ∧ (∀ A, A < N → H2.get A = H.get A) := by
 obtain ⟨R', ver', H2, tvs', h1, h2⟩ := hb.num hx hs hspl hf hy
 rw [htv] at h1; cases h1
 exact ⟨H2, tvs', h2⟩
theorem RB.endE (hb : RB H N B c e tv ev tvs o) (hev : ev = .slice R ver 0 L L false 1) (hk : k < c.length) :
  ∃ H2, H.write R ver k [zzt true] = some H2 ∧ RB H2 N B c (e.set k true) tv ev tvs o ∧ H2.next = H.next ∧ (∀ A, A < N → H2.get A = H.get A) := by
 obtain ⟨R', ver', H2, h1, h2⟩ := hb.putEnd hk
 rw [hev] at h1; cases h1
 exact ⟨H2, h2⟩
theorem zxy (hx : b[k]? = some x) : (zbl b)[k]? = some (zxc x) := by rw [List.getElem?_map, hx]; rfl
theorem zsm (hx : b[k]? = some x) : (zbq b)[k]? = some (!x.on) := by rw [List.getElem?_map, hx]; rfl
theorem zq5 (hx : zxc x' = y) : (zbl b).set k y = zbl (b.set k x') := by rw [← hx]; exact (List.map_set ..).symm
theorem zvf (hx : b[k]? = some x) (hon : x'.on = x.on) : zbq (b.set k x') = zbq b := by
 show List.map (fun x : TxD => !x.on) (b.set k x') = List.map (fun x : TxD => !x.on) b
 rw [List.map_set, hon]
 refine List.ext_getElem? fun j => ?_
 rw [List.getElem?_set]
 by_cases e : k = j
 ·subst e; rw [if_pos rfl, if_pos (by simpa [-getElem?_pos] using (List.getElem?_eq_some_iff.1 hx).1), List.getElem?_map, hx]; rfl
 ·rw [if_neg e]
theorem zsz (hon : x'.on = false) : (zbq b).set k true = zbq (b.set k x') := by
 show _ = List.map (fun x : TxD => !x.on) (b.set k x')
 rw [List.map_set, hon]; rfl
def znx (f : TxD → TxD) (b : List TxD) (i : Nat) : List TxD := (b.take i).map f ++ b.drop i
theorem zhp (f : TxD → TxD) (b : List TxD) : znx f b 0 = b := by simp [-getElem?_pos, znx]
theorem ze6 (f : TxD → TxD) (b : List TxD) : znx f b b.length = b.map f := by simp [-getElem?_pos, znx]
theorem zku (f : TxD → TxD) (b : List TxD) (i : Nat) : (znx f b i).length = b.length := by simp [-getElem?_pos, znx]; omega
theorem zm3 (f : TxD → TxD) (hx : b[i]? = some x) : (znx f b i)[i]? = some x := by
 have hi := (List.getElem?_eq_some_iff.1 hx).1
 unfold znx
 rw [List.getElem?_append_right (by simp; omega), List.getElem?_drop, List.length_map, List.length_take, Nat.min_eq_left (by omega), Nat.sub_self, Nat.add_zero]
 exact hx
theorem zr2 (f : TxD → TxD) (hx : b[i]? = some x) : (znx f b i).set i (f x) = znx f b (i + 1) := by
 have hi := (List.getElem?_eq_some_iff.1 hx).1
 unfold znx
 have hd : b.drop i = x :: b.drop (i + 1) := by
  obtain ⟨h1, h2⟩ := List.getElem?_eq_some_iff.1 hx
  rw [List.drop_eq_getElem_cons h1, h2]
 have hl : (List.map f (b.take i)).length = i := by simp; omega
 rw [List.set_append_right _ _ (by omega), hl, Nat.sub_self, hd, List.set_cons_zero, List.take_add_one, hx, List.map_append]
 simp [-getElem?_pos]
theorem zhz (f : TxD → TxD) (hx : b[i]? = some x) (h : f x = x) : znx f b i = znx f b (i + 1) := by
 rw [← zr2 f hx, h]
 refine List.ext_getElem? fun j => ?_
 rw [List.getElem?_set]
 by_cases e : i = j
 ·subst e; rw [if_pos rfl, if_pos (List.getElem?_eq_some_iff.1 (zm3 f hx)).1, zm3 f hx]
 ·rw [if_neg e]
end
section
variable {kn : zy0} {env : Nat → Option zzq}
variable {H H' H1 : zz6} {N B : Nat} {b : List TxD} {tv ev : AVal} {tvs : List (List AVal)} {o : Nat → Nat} {x x' : TxD}
def atV : Option Nat → AVal
 | some k => vi k
 | none => vi (-1)
theorem c105 (h : Fn kn env 105 a105) (n : Nat) (hb : RB H N B (zbl b) (zbq b) tv ev tvs o) (c : Int) (hn : b.length < n) (hm : b.length < 400000000000) :
  zzp kn env (n + 1) (.func (.func 105) []) [vp B, vi c] H = some (atV (zy5 b c), H) := by
 have hB1 := hb.cells.at
 have hlT := hb.lenT
 rw [List.length_map] at hlT
 refine Wp.call1 36 [0, 1, 4, 5, 12, 34] h.e (h.no _ _) rfl (by simp) ?_
 repeat (first | apply Wp.za | apply Wp.zb | apply Wp.zc | apply Wp.zd | apply Wp.ze | apply Wp.zf rfl | apply Wp.zg rfl | ((apply Wp.zh; (repeat (apply Ex.zc; (simp (disch := omega) [-getElem?_pos]; rfl))); exact Ex.zn; rfl; (simp; rfl))))
 apply Wp.loop (α := Nat) (fun y => [(0, vp B), (1, vi c), (5, vi y)]) (fun _ => H) (fun y => y ≤ b.length ∧ ∀ (j : Nat) (x : TxD), j < y → b[j]? = some x → x.on = true → x.client ≠ c) (fun y => b.length - y) 0 rfl ⟨Nat.zero_le _, fun j x hj => by omega⟩ (by omega) (by simp)
 rintro i ⟨hi, hno⟩
 (repeat (first | apply Wp.za | apply Wp.zb)); (apply Wp.zh; (repeat (apply Ex.zc; (simp (disch := omega) [-getElem?_pos, hB1, hlT]; rfl))); exact Ex.zn; rfl; (simp; rfl))
 (repeat (first | apply Wp.za | apply Wp.zb)); apply Wp.ite rfl
 ·intro hil
  apply Wp.zd
  obtain ⟨x, hx⟩ : ∃ x, b[i]? = some x := ⟨_, List.getElem?_eq_getElem (by omega)⟩
  obtain ⟨R, ver, cells, R2, ver2, cells2, sv, rv, wv, hB2, hrow, hlen, hcell, hrow2, hlen2, hcell2, _, _⟩ := hb.see (zxy hx) (zsm hx)
  rw [List.length_map] at hB2
  have g0 := hcell 0 (by omega)
  simp only [txc, List.getElem?_cons_succ, List.getElem?_cons_zero, Nat.add_zero, zxc] at g0
  by_cases h1 : x.client = c
  ·cases h2 : x.on with
   | true =>
    rw [h2] at hcell2
    repeat (first | apply Wp.za | apply Wp.zb | apply Wp.zc | apply Wp.zd | apply Wp.ze | apply Wp.zf rfl | apply Wp.zg rfl | ((apply Wp.zh; (repeat (apply Ex.zc; (simp (disch := omega) [-getElem?_pos, hB2, hrow, g0, hrow2, hcell2, h1]; rfl))); exact Ex.zn; rfl; (simp; rfl))))
    simp [-getElem?_pos, a105, yqk hx h2 h1 (fun j y a b c => hno j y a b c), atV]
   | false =>
    rw [h2] at hcell2
    repeat (first | apply Wp.za | apply Wp.zb | apply Wp.zc | apply Wp.zd | apply Wp.ze | apply Wp.zf rfl | apply Wp.zg rfl | ((apply Wp.zh; (repeat (apply Ex.zc; (simp (disch := omega) [-getElem?_pos, hB2, hrow, g0, hrow2, hcell2, h1]; rfl))); exact Ex.zn; rfl; (simp; rfl))))
    refine ⟨i + 1, rfl, ⟨by omega, fun j y hj hy hon => ?_⟩, by omega, by simp [-getElem?_pos]⟩
    rcases Nat.lt_or_ge j i with hji | hji
    ·exact hno j y hji hy hon
    ·have : j = i := by omega
     subst this; rw [hx] at hy; cases hy; rw [h2] at hon; cases hon
  ·repeat (first | apply Wp.za | apply Wp.zb | apply Wp.zc | apply Wp.zd | apply Wp.ze | apply Wp.zf rfl | apply Wp.zg rfl | ((apply Wp.zh; (repeat (apply Ex.zc; (simp (disch := omega) [-getElem?_pos, hB2, hrow, g0, hrow2, hcell2, h1]; rfl))); exact Ex.zn; rfl; (simp; rfl))))
   refine ⟨i + 1, rfl, ⟨by omega, fun j y hj hy hon => ?_⟩, by omega, by simp [-getElem?_pos]⟩
   rcases Nat.lt_or_ge j i with hji | hji
   ·exact hno j y hji hy hon
   ·have : j = i := by omega
    subst this; rw [hx] at hy; cases hy; exact h1
 ·intro hil
  apply Wp.ze
  repeat (first | apply Wp.za | apply Wp.zb | apply Wp.zc | apply Wp.zd | apply Wp.ze | apply Wp.zf rfl | apply Wp.zg rfl | ((apply Wp.zh; (repeat (apply Ex.zc; (simp (disch := omega) [-getElem?_pos]; rfl))); exact Ex.zn; rfl; (simp; rfl))))
  simp [-getElem?_pos, a105, atV, yxs (b := b) (c := c) fun j y hy => hno j y (by have := (List.getElem?_eq_some_iff.1 hy).1; omega) hy]
theorem c107 (h : Fn kn env 107 a107) (n : Nat) (hb : RB H N B (zbl b) (zbq b) tv ev tvs o) (t : Int) (hn : b.length < n) (hm : b.length < 400000000000) :
  zzp kn env (n + 1) (.func (.func 107) []) [vp B, vu t] H = some (atV (zvc b t), H) := by
 have hB1 := hb.cells.at
 have hlT := hb.lenT
 rw [List.length_map] at hlT
 refine Wp.call1 40 [0, 1, 4, 5, 6, 13, 35, 37] h.e (h.no _ _) rfl (by simp) ?_
 repeat (first | apply Wp.za | apply Wp.zb | apply Wp.zc | apply Wp.zd | apply Wp.ze | apply Wp.zf rfl | apply Wp.zg rfl | ((apply Wp.zh; (repeat (apply Ex.zc; (simp (disch := omega) [-getElem?_pos]; rfl))); exact Ex.zn; rfl; (simp; rfl))))
 apply Wp.loop (α := Nat × Option Nat) (fun y => [(0, vp B), (1, vu t), (5, atV y.2), (6, vi y.1)]) (fun _ => H) (fun y => y.1 ≤ b.length ∧ zpz b t y.1 = y.2.toList) (fun y => b.length - y.1) (0, none) rfl ⟨Nat.zero_le _, rfl⟩ (by dsimp only; omega) (by simp [-getElem?_pos, atV])
 rintro ⟨i, p⟩ ⟨hi, hp⟩
 dsimp only at hi hp ⊢
 (repeat (first | apply Wp.za | apply Wp.zb)); (apply Wp.zh; (repeat (apply Ex.zc; (simp (disch := omega) [-getElem?_pos, hB1, hlT]; rfl))); exact Ex.zn; rfl; (simp; rfl))
 (repeat (first | apply Wp.za | apply Wp.zb)); apply Wp.ite rfl
 ·intro hil
  apply Wp.zd
  obtain ⟨x, hx⟩ : ∃ x, b[i]? = some x := ⟨_, List.getElem?_eq_getElem (by omega)⟩
  obtain ⟨R, ver, cells, R2, ver2, cells2, sv, rv, wv, hB2, hrow, hlen, hcell, hrow2, hlen2, hcell2, _, _⟩ := hb.see (zxy hx) (zsm hx)
  rw [List.length_map] at hB2
  have g2 := hcell 2 (by omega)
  simp only [txc, List.getElem?_cons_succ, List.getElem?_cons_zero, Nat.add_zero, zxc] at g2
  have hs := zc6 (t := t) hx
  rw [hp] at hs
  by_cases h1 : x.ticket = t
  ·cases h2 : x.on with
   | true =>
    rw [h2] at hcell2
    rw [if_pos ⟨h2, h1⟩] at hs
    cases p with
    | some q =>
     have := zct (b := b) (t := t) (i := i + 1) (k := q) (l := i) (by omega) (by rw [hs]; rfl)
     rw [this]
     repeat (first | apply Wp.za | apply Wp.zb | apply Wp.zc | apply Wp.zd | apply Wp.ze | apply Wp.zf rfl | apply Wp.zg rfl | ((apply Wp.zh; (repeat (apply Ex.zc; (simp (disch := omega) [-getElem?_pos, hB2, hrow, g2, hrow2, hcell2, h1, atV]; rfl))); exact Ex.zn; rfl; (simp; rfl))))
     simp [-getElem?_pos, a107, atV]
    | none =>
     repeat (first | apply Wp.za | apply Wp.zb | apply Wp.zc | apply Wp.zd | apply Wp.ze | apply Wp.zf rfl | apply Wp.zg rfl | ((apply Wp.zh; (repeat (apply Ex.zc; (simp (disch := omega) [-getElem?_pos, hB2, hrow, g2, hrow2, hcell2, h1, atV]; rfl))); exact Ex.zn; rfl; (simp; rfl))))
     exact ⟨(i + 1, some i), rfl, ⟨by dsimp only; omega, by rw [hs]; rfl⟩, by dsimp only; omega, by simp [-getElem?_pos, atV]⟩
   | false =>
    rw [h2] at hcell2
    rw [if_neg (fun q => by rw [h2] at q; cases q.1)] at hs
    repeat (first | apply Wp.za | apply Wp.zb | apply Wp.zc | apply Wp.zd | apply Wp.ze | apply Wp.zf rfl | apply Wp.zg rfl | ((apply Wp.zh; (repeat (apply Ex.zc; (simp (disch := omega) [-getElem?_pos, hB2, hrow, g2, hrow2, hcell2, h1]; rfl))); exact Ex.zn; rfl; (simp; rfl))))
    exact ⟨(i + 1, p), rfl, ⟨by dsimp only; omega, by rw [hs, List.append_nil]⟩, by dsimp only; omega, by simp [-getElem?_pos]⟩
  ·rw [if_neg (fun q => h1 q.2)] at hs
   repeat (first | apply Wp.za | apply Wp.zb | apply Wp.zc | apply Wp.zd | apply Wp.ze | apply Wp.zf rfl | apply Wp.zg rfl | ((apply Wp.zh; (repeat (apply Ex.zc; (simp (disch := omega) [-getElem?_pos, hB2, hrow, g2, hrow2, hcell2, h1]; rfl))); exact Ex.zn; rfl; (simp; rfl))))
   exact ⟨(i + 1, p), rfl, ⟨by dsimp only; omega, by rw [hs, List.append_nil]⟩, by dsimp only; omega, by simp [-getElem?_pos]⟩
 ·intro hil
  apply Wp.ze
  have : i = b.length := by omega
  subst this
  have h1 : zvc b t = p := by rw [zep, hp]; cases p <;> rfl
  rw [h1]
  repeat (first | apply Wp.za | apply Wp.zb | apply Wp.zc | apply Wp.zd | apply Wp.ze | apply Wp.zf rfl | apply Wp.zg rfl | ((apply Wp.zh; (repeat (apply Ex.zc; (simp (disch := omega) [-getElem?_pos]; rfl))); exact Ex.zn; rfl; (simp; rfl))))
  simp [-getElem?_pos, a107, atV]
end
end Go.Proofs.Ythbjfkkjmecaaaa
