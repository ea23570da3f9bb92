/- Walks: the reference's book: a crash, a recovery's reading. -/
import Derived.Test.YthbjfkkjmecaaaaY32
set_option linter.unusedVariables false
set_option linter.unusedSimpArgs false
namespace Go.Proofs.Ythbjfkkjmecaaaa
open Go Go.Vm
section
variable {kn : zy0} {env : Nat → Option zzq}
variable {H H' H1 : zz6} {N B : Nat} {b : List TxD} {tv ev : AVal} {tvs : List (List AVal)} {o : Nat → Nat} {x x' : TxD}
def zvw (x : TxD) : TxD := if x.on then { x with fate := if x.commit < 0 then 3 else 4, on := false } else x
def zbv (p : Int) (x : TxD) : TxD := if x.fate = 4 then { x with fate := if x.pos < p then 6 else 7 } else x
theorem c80 (h : Fn kn env 80 a80) (n : Nat) (hb : RB H N B (zbl b) (zbq b) tv ev tvs o) (hn : b.length < n) (hm : b.length < 400000000000) :
  ∃ v H', zzp kn env (n + 1) (.func (.func 80) []) [vp B] H = some (v, H') ∧ (v = .tuple [] ∧ (∃ tvs', RB H' N B (zbl (b.map zvw)) (zbq (b.map zvw)) tv ev tvs' o) ∧ H'.next = H.next ∧ ∀ A, A < N → H'.get A = H.get A) := by
 refine Wp.call 49 [0, 2, 9, 19, 41] h.e (h.no _ _) rfl (by simp) ?_
 repeat (first | apply Wp.za | apply Wp.zb | apply Wp.zc | apply Wp.zd | apply Wp.ze | apply Wp.zf rfl | apply Wp.zg rfl | ((apply Wp.zh; (repeat (apply Ex.zc; (simp (disch := omega) [-getElem?_pos]; rfl))); exact Ex.zn; rfl; (simp; rfl))))
 apply Wp.loop (α := Nat × zz6) (fun y => [(0, vp B), (2, vi y.1)]) (·.2) (fun y => y.1 ≤ b.length ∧ (∃ tvs', RB y.2 N B (zbl (znx zvw b y.1)) (zbq (znx zvw b y.1)) tv ev tvs' o) ∧ y.2.next = H.next ∧ ∀ A, A < N → y.2.get A = H.get A) (fun y => b.length - y.1) (0, H) rfl ⟨Nat.zero_le _, ⟨tvs, by rw [zhp]; exact hb⟩, rfl, fun _ _ => rfl⟩ (by dsimp only; omega) (by simp)
 rintro ⟨i, H1⟩ ⟨hi, ⟨tvs1, hb1⟩, hn1, ho1⟩
 dsimp only at hi hb1 hn1 ho1 ⊢
 have hB1 := hb1.cells.at
 have hlT := hb1.lenT
 rw [List.length_map, zku] at hlT
 (repeat (first | apply Wp.za | apply Wp.zb)); (apply Wp.zh; (repeat (apply Ex.zc; (simp (disch := omega) [-getElem?_pos, hB1, hlT]; rfl))); exact Ex.zn; rfl; (simp; rfl))
 (repeat (first | apply Wp.za | apply Wp.zb)); apply Wp.ite rfl
 ·intro hil
  apply Wp.zd
  obtain ⟨x, hx⟩ : ∃ x, b[i]? = some x := ⟨_, List.getElem?_eq_getElem (by omega)⟩
  have hxu := zm3 zvw hx
  obtain ⟨R, ver, R2, ver2, htv, hev⟩ := hb1.vals (zxy hxu)
  rw [List.length_map, zku] at htv hev
  obtain ⟨cells2, hrow2, hlen2, hcell2⟩ := hb1.rdE hev (zsm hxu)
  rw [htv, hev] at hB1
  cases h2 : x.on with
  | false =>
   rw [h2] at hcell2
   repeat (first | apply Wp.za | apply Wp.zb | apply Wp.zc | apply Wp.zd | apply Wp.ze | apply Wp.zf rfl | apply Wp.zg rfl | ((apply Wp.zh; (repeat (apply Ex.zc; (simp (disch := omega) [-getElem?_pos, hB1, hrow2, hcell2]; rfl))); exact Ex.zn; rfl; (simp; rfl))))
   have hus := zhz zvw hx (by unfold zvw; rw [h2]; rfl)
   exact ⟨(i + 1, H1), rfl, ⟨by dsimp only; omega, ⟨tvs1, by dsimp only; rw [← hus]; exact hb1⟩, hn1, ho1⟩, by dsimp only; omega, by simp [-getElem?_pos]⟩
  | true =>
   rw [h2] at hcell2
   have hus := zr2 zvw hx
   obtain ⟨H2, hw2, hb2, hn2, ho2⟩ := hb1.endE hev (k := i) (by rw [List.length_map, zku]; omega)
   obtain ⟨H3, tvs3, hw3, hb3, hn3, ho3⟩ := hb2.numT htv (f := 11) (u := vi 3) (zxy hxu) { zxc x with fate := 3 } ⟨rfl, rfl, rfl⟩ (fun _ _ _ => rfl) (by omega) rfl
   have hx3 : ((zbl (znx zvw b i)).set i { zxc x with fate := 3 })[i]? = some { zxc x with fate := 3 } := List.getElem?_set_self (by rw [List.length_map, zku]; omega)
   obtain ⟨cells3, sv3, rv3, wv3, hrow3, hlen3, hcell3⟩ := hb3.rdT htv hx3
   have g8 := hcell3 8 (by omega)
   simp only [txc, List.getElem?_cons_succ, List.getElem?_cons_zero, zxc] at g8
   have hB2 := hb2.cells.at
   have hB3 := hb3.cells.at
   rw [htv, hev] at hB2 hB3
   by_cases hc : x.commit < 0
   ·have hcx : zxc { x with fate := 3, on := false } = { zxc x with fate := 3 } := rfl
    have hcr : zvw x = { x with fate := 3, on := false } := by unfold zvw; rw [if_pos h2, if_pos hc]
    rw [hcr] at hus
    rw [zq5 hcx, zsz (x' := { x with fate := 3, on := false }) rfl, hus] at hb3
    repeat (first | apply Wp.za | apply Wp.zb | apply Wp.zc | apply Wp.zd | apply Wp.ze | apply Wp.zf rfl | apply Wp.zg rfl | ((apply Wp.zh; (repeat (apply Ex.zc; (simp (disch := omega) [-getElem?_pos, hB1, hrow2, hcell2, hw2, hB2, hw3, hB3, hrow3, g8]; rfl))); exact Ex.zn; rfl; (simp; rfl))))
    exact ⟨(i + 1, H3), rfl, ⟨by dsimp only; omega, ⟨tvs3, hb3⟩, by dsimp only; omega, fun A hA => by dsimp only; rw [ho3 A hA, ho2 A hA, ho1 A hA]⟩, by dsimp only; omega, by simp [-getElem?_pos]⟩
   ·obtain ⟨H4, tvs4, hw4, hb4, hn4, ho4⟩ := hb3.numT htv (f := 11) (u := vi 4) hx3 { zxc x with fate := 4 } ⟨rfl, rfl, rfl⟩ (fun _ _ _ => rfl) (by omega) rfl
    rw [List.set_set] at hb4
    have hcx : zxc { x with fate := 4, on := false } = { zxc x with fate := 4 } := rfl
    have hcr : zvw x = { x with fate := 4, on := false } := by unfold zvw; rw [if_pos h2, if_neg hc]
    rw [hcr] at hus
    rw [zq5 hcx, zsz (x' := { x with fate := 4, on := false }) rfl, hus] at hb4
    repeat (first | apply Wp.za | apply Wp.zb | apply Wp.zc | apply Wp.zd | apply Wp.ze | apply Wp.zf rfl | apply Wp.zg rfl | ((apply Wp.zh; (repeat (apply Ex.zc; (simp (disch := omega) [-getElem?_pos, hB1, hrow2, hcell2, hw2, hB2, hw3, hB3, hrow3, g8, hw4]; rfl))); exact Ex.zn; rfl; (simp; rfl))))
    exact ⟨(i + 1, H4), rfl, ⟨by dsimp only; omega, ⟨tvs4, hb4⟩, by dsimp only; omega, fun A hA => by dsimp only; rw [ho4 A hA, ho3 A hA, ho2 A hA, ho1 A hA]⟩, by dsimp only; omega, by simp [-getElem?_pos]⟩
 ·intro hil
  apply Wp.ze
  have : i = b.length := by omega
  subst this
  rw [ze6] at hb1
  repeat (first | apply Wp.za | apply Wp.zb | apply Wp.zc | apply Wp.zd | apply Wp.ze | apply Wp.zf rfl | apply Wp.zg rfl | ((apply Wp.zh; (repeat (apply Ex.zc; (simp (disch := omega) [-getElem?_pos]; rfl))); exact Ex.zn; rfl; (simp; rfl))))
  simp [-getElem?_pos, a80, -List.map_map]
  exact ⟨⟨_, hb1⟩, hn1, ho1⟩
theorem c81 (h : Fn kn env 81 a81) (n : Nat) (hb : RB H N B (zbl b) (zbq b) tv ev tvs o) (p : Int) (hon : ∀ x ∈ b, x.on = true → x.fate ≠ 4) (hn : b.length < n) (hm : b.length < 400000000000) :
  ∃ v H', zzp kn env (n + 1) (.func (.func 81) []) [vp B, vu p] H = some (v, H') ∧ (v = .tuple [] ∧ (∃ tvs', RB H' N B (zbl (b.map (zbv p))) (zbq (b.map (zbv p))) tv ev tvs' o) ∧ H'.next = H.next ∧ ∀ A, A < N → H'.get A = H.get A) := by
 refine Wp.call 56 [0, 1, 4, 11, 31, 48] h.e (h.no _ _) rfl (by simp) ?_
 repeat (first | apply Wp.za | apply Wp.zb | apply Wp.zc | apply Wp.zd | apply Wp.ze | apply Wp.zf rfl | apply Wp.zg rfl | ((apply Wp.zh; (repeat (apply Ex.zc; (simp (disch := omega) [-getElem?_pos]; rfl))); exact Ex.zn; rfl; (simp; rfl))))
 apply Wp.loop (α := Nat × zz6) (fun y => [(0, vp B), (1, vu p), (4, vi y.1)]) (·.2) (fun y => y.1 ≤ b.length ∧ (∃ tvs', RB y.2 N B (zbl (znx (zbv p) b y.1)) (zbq (znx (zbv p) b y.1)) tv ev tvs' o) ∧ y.2.next = H.next ∧ ∀ A, A < N → y.2.get A = H.get A) (fun y => b.length - y.1) (0, H) rfl ⟨Nat.zero_le _, ⟨tvs, by rw [zhp]; exact hb⟩, rfl, fun _ _ => rfl⟩ (by dsimp only; omega) (by simp)
 rintro ⟨i, H1⟩ ⟨hi, ⟨tvs1, hb1⟩, hn1, ho1⟩
 dsimp only at hi hb1 hn1 ho1 ⊢
 have hB1 := hb1.cells.at
 have hlT := hb1.lenT
 rw [List.length_map, zku] at hlT
 (repeat (first | apply Wp.za | apply Wp.zb)); (apply Wp.zh; (repeat (apply Ex.zc; (simp (disch := omega) [-getElem?_pos, hB1, hlT]; rfl))); exact Ex.zn; rfl; (simp; rfl))
 (repeat (first | apply Wp.za | apply Wp.zb)); apply Wp.ite rfl
 ·intro hil
  apply Wp.zd
  obtain ⟨x, hx⟩ : ∃ x, b[i]? = some x := ⟨_, List.getElem?_eq_getElem (by omega)⟩
  have hxu := zm3 (zbv p) hx
  obtain ⟨R, ver, R2, ver2, htv, hev⟩ := hb1.vals (zxy hxu)
  rw [List.length_map, zku] at htv hev
  obtain ⟨cells2, hrow2, hlen2, hcell2⟩ := hb1.rdE hev (zsm hxu)
  obtain ⟨cells1, sv1, rv1, wv1, hrow1, hlen1, hcell1⟩ := hb1.rdT htv (zxy hxu)
  have g11 := hcell1 11 (by omega)
  simp only [txc, List.getElem?_cons_succ, List.getElem?_cons_zero, zxc] at g11
  rw [htv, hev] at hB1
  have hus := zr2 (zbv p) hx
  by_cases h4 : x.fate = 4
  ·have h2 : x.on = false := by
    cases h : x.on with
    | false => rfl
    | true => exact absurd h4 (hon x (List.mem_of_getElem? hx) h)
   rw [h2] at hcell2 g11
   obtain ⟨H3, tvs3, hw3, hb3, hn3, ho3⟩ := hb1.numT htv (f := 11) (u := vi 7) (zxy hxu) { zxc x with fate := 7 } ⟨rfl, rfl, rfl⟩ (fun _ _ _ => rfl) (by omega) rfl
   have hx3 : ((zbl (znx (zbv p) b i)).set i { zxc x with fate := 7 })[i]? = some { zxc x with fate := 7 } := List.getElem?_set_self (by rw [List.length_map, zku]; omega)
   obtain ⟨cells3, sv3, rv3, wv3, hrow3, hlen3, hcell3⟩ := hb3.rdT htv hx3
   have g9 := hcell3 9 (by omega)
   simp only [txc, List.getElem?_cons_succ, List.getElem?_cons_zero, zxc] at g9
   have hB3 := hb3.cells.at
   rw [htv, hev] at hB3
   by_cases hc : x.pos < p
   ·obtain ⟨H4, tvs4, hw4, hb4, hn4, ho4⟩ := hb3.numT htv (f := 11) (u := vi 6) hx3 { zxc x with fate := 6 } ⟨rfl, rfl, rfl⟩ (fun _ _ _ => rfl) (by omega) rfl
    rw [List.set_set] at hb4
    have hcr : zbv p x = { x with fate := 6 } := by unfold zbv; rw [if_pos h4, if_pos hc]
    have hcx : zxc { x with fate := 6 } = { zxc x with fate := 6 } := by simp [-getElem?_pos, zxc, h2]
    rw [hcr] at hus
    rw [zq5 hcx, ← zvf (x' := { x with fate := 6 }) hxu rfl, hus] at hb4
    repeat (first | apply Wp.za | apply Wp.zb | apply Wp.zc | apply Wp.zd | apply Wp.ze | apply Wp.zf rfl | apply Wp.zg rfl | ((apply Wp.zh; (repeat (apply Ex.zc; (simp (disch := omega) [-getElem?_pos, hB1, hrow2, hcell2, hrow1, g11, h4, hw3, hB3, hrow3, g9, hc, hw4]; rfl))); exact Ex.zn; rfl; (simp; rfl))))
    exact ⟨(i + 1, H4), rfl, ⟨by dsimp only; omega, ⟨tvs4, hb4⟩, by dsimp only; omega, fun A hA => by dsimp only; rw [ho4 A hA, ho3 A hA, ho1 A hA]⟩, by dsimp only; omega, by simp [-getElem?_pos]⟩
   ·have hcr : zbv p x = { x with fate := 7 } := by unfold zbv; rw [if_pos h4, if_neg hc]
    have hcx : zxc { x with fate := 7 } = { zxc x with fate := 7 } := by simp [-getElem?_pos, zxc, h2]
    rw [hcr] at hus
    rw [zq5 hcx, ← zvf (x' := { x with fate := 7 }) hxu rfl, hus] at hb3
    repeat (first | apply Wp.za | apply Wp.zb | apply Wp.zc | apply Wp.zd | apply Wp.ze | apply Wp.zf rfl | apply Wp.zg rfl | ((apply Wp.zh; (repeat (apply Ex.zc; (simp (disch := omega) [-getElem?_pos, hB1, hrow2, hcell2, hrow1, g11, h4, hw3, hB3, hrow3, g9, hc]; rfl))); exact Ex.zn; rfl; (simp; rfl))))
    exact ⟨(i + 1, H3), rfl, ⟨by dsimp only; omega, ⟨tvs3, hb3⟩, by dsimp only; omega, fun A hA => by dsimp only; rw [ho3 A hA, ho1 A hA]⟩, by dsimp only; omega, by simp [-getElem?_pos]⟩
  ·have hus := zhz (zbv p) hx (by unfold zbv; rw [if_neg h4])
   cases h2 : x.on with
   | true =>
    rw [h2] at hcell2
    repeat (first | apply Wp.za | apply Wp.zb | apply Wp.zc | apply Wp.zd | apply Wp.ze | apply Wp.zf rfl | apply Wp.zg rfl | ((apply Wp.zh; (repeat (apply Ex.zc; (simp (disch := omega) [-getElem?_pos, hB1, hrow2, hcell2]; rfl))); exact Ex.zn; rfl; (simp; rfl))))
    exact ⟨(i + 1, H1), rfl, ⟨by dsimp only; omega, ⟨tvs1, by dsimp only; rw [← hus]; exact hb1⟩, hn1, ho1⟩, by dsimp only; omega, by simp [-getElem?_pos]⟩
   | false =>
    rw [h2] at hcell2 g11
    repeat (first | apply Wp.za | apply Wp.zb | apply Wp.zc | apply Wp.zd | apply Wp.ze | apply Wp.zf rfl | apply Wp.zg rfl | ((apply Wp.zh; (repeat (apply Ex.zc; (simp (disch := omega) [-getElem?_pos, hB1, hrow2, hcell2, hrow1, g11, h4]; rfl))); exact Ex.zn; rfl; (simp; rfl))))
    exact ⟨(i + 1, H1), rfl, ⟨by dsimp only; omega, ⟨tvs1, by dsimp only; rw [← hus]; exact hb1⟩, hn1, ho1⟩, by dsimp only; omega, by simp [-getElem?_pos]⟩
 ·intro hil
  apply Wp.ze
  have : i = b.length := by omega
  subst this
  rw [ze6] at hb1
  repeat (first | apply Wp.za | apply Wp.zb | apply Wp.zc | apply Wp.zd | apply Wp.ze | apply Wp.zf rfl | apply Wp.zg rfl | ((apply Wp.zh; (repeat (apply Ex.zc; (simp (disch := omega) [-getElem?_pos]; rfl))); exact Ex.zn; rfl; (simp; rfl))))
  simp [-getElem?_pos, a81, -List.map_map]
  exact ⟨⟨_, hb1⟩, hn1, ho1⟩
end
section
variable {kn : zy0} {env : Nat → Option zzq}
variable {H H' H1 : zz6} {N B : Nat} {i : Int} {b : List TxD} {tv ev sv rv wv : AVal} {tvs : List (List AVal)} {o : Nat → Nat} {x x' : TxD} {r : RowD} {rc : List AVal}
def ztg (H : zz6) (N B : Nat) (t : Option (List TxD)) (v : AVal) (H' : zz6) : Prop :=
 (match t with | some b => v = zzt true ∧ ∃ tv ev tvs o, RB H' N B (zbl b) (zbq b) tv ev tvs o | none => v = zzt false) ∧ H.next ≤ H'.next ∧ ∀ A, A < N → H'.get A = H.get A
theorem GrE.setV {H : zz6} {base : Nat} {v : AVal} {l : List Int} (h : GrE H base 1 v (ints l)) : yyt H base v l := by
 rcases h with ⟨h1, X, h2, _, _, h5⟩ | h
 ·exact .inr ⟨by simpa [-getElem?_pos] using h1, X, h2, h5⟩
 ·exact .inl h
theorem GrE.lies {H : zz6} {base esz : Nat} {v : AVal} {es : List (List AVal)} (h : GrE H base esz v es) : v.lies fun R => base ≤ R ∧ R < H.next := by
 rcases h with ⟨h1, X, rfl, h3, h4, h5⟩ | h
 ·intro R ver off len kc ex esz e; cases e; exact ⟨h3, h4⟩
 ·exact h.lies
theorem RB.begin (hb : RB H N B (zbl b) (zbq b) tv ev tvs o) (hs : zuu H N rc r sv) (hm : b.length < 400000000000) (hg : Grow H H1) :
  ∃ sv' H3 tv' H5 ev' H8, zzf (H1.push (.row [some (0, [])])) 1 8 (.slice H1.next 0 0 0 0 true 1) sv = some (sv', H3) ∧ sv'.one = true ∧ H1.next + 1 ≤ H3.next ∧ (∀ A, A < H1.next → H3.get A = H1.get A) ∧
   zzf (H3.push (.row [some (0, txc (zxc (zv0 i r)) sv' zxa zxa)])) 12 144 tv (.slice H3.next 0 0 1 1 true 12) = some (tv', H5) ∧ tv'.one = true ∧ H3.next + 1 ≤ H5.next ∧ Cells H5 B [tv, ev] ∧
   zzf ((H5.set B (.row [some (0, [tv', ev])])).push (.row [some (0, [zzt false])])) 1 1 ev (.slice H5.next 0 0 1 1 true 1) = some (ev', H8) ∧ ev'.one = true ∧ Cells H8 B [tv', ev] ∧
   ztg H N B (some (b ++ [zv0 i r])) (zzt true) (H8.set B (.row [some (0, [tv', ev'])])) := by
 have hB := hb.hB
 have hgn := hg.next
 have hl := hb.len
 rw [List.length_map] at hl
 have hsn : sv.lies (· < H1.next) := fun R ver off len kc ex esz e => by have := hs.lies _ _ _ _ _ _ _ e; omega
 have hrd : RdE (H1.push (.row [some (0, [])])) 1 sv (ints r.set) := (hs.rd.grow hg (fun R ver off len kc ex esz e => by have := hs.lies _ _ _ _ _ _ _ e; omega)).grow (Grow.push _ _) hsn
 obtain ⟨sv', H3, ha3, hs3, hn3, hN3⟩ := (GrE.new (esz := 1) (base := H1.next) H1 (Nat.le_refl _)).app (bytes := 8) (by simp) hrd (by omega) (by omega) (zmy _) (by have := hs.len; simpa [-getElem?_pos] using this)
 rw [List.nil_append] at hs3
 simp only [zz6.zyc] at hn3
 have hg3 : Grow H1 H3 := ⟨by omega, fun A hA => by rw [hN3 A hA, zz6.zz9 _ _ (by omega)]⟩
 have hset := hs3.setV
 have hslies := hs3.lies
 have hsone : sv'.one = true := hs3.rd.one
 have htv3 : zzw (H3.push (.row [some (0, txc (zxc (zv0 i r)) sv' zxa zxa)])) N 12 tv tvs := zza hb.txs hb.txsL (by simp; omega) fun A a1 a2 a3 => by
  rw [zz6.zz9 _ _ (by omega), hg3.get A (by omega), hg.get A a2]
 obtain ⟨tv', H5, ha5, hs5, hn5, hN5, hk5, hl5⟩ := htv3.append (bytes := 144) (by simp; omega) (X := H3.next) (e := txc (zxc (zv0 i r)) sv' zxa zxa) (by simp) rfl (by omega) (by omega) (by simp [-getElem?_pos, txc, hsone]; simp [-getElem?_pos, AVal.one, Value.oneCell']) (by rw [hl]; omega) (ex := true) (kc := 1)
 simp only [zz6.zyc] at hn5 hk5 hl5
 have htvl : tv.lies fun R => R < H.next ∧ o R = 2 := fun R _ _ _ _ _ _ e => ⟨(hb.txsL _ _ _ _ _ _ _ e).2.1, (hb.txsL _ _ _ _ _ _ _ e).2.2⟩
 have hevl : ev.lies fun R => R < H.next ∧ o R = 1 := fun R _ _ _ _ _ _ e => ⟨(hb.endsL _ _ _ _ _ _ _ e).2.1, (hb.endsL _ _ _ _ _ _ _ e).2.2⟩
 have keep : ∀ A, A < H.next → o A ≠ 2 → H5.get A = H.get A := fun A a1 a3 => by
  rw [hk5 A (by omega) (fun R _ _ _ _ _ _ e he => a3 (by rw [← he]; exact (htvl _ _ _ _ _ _ _ e).2)), zz6.zz9 _ _ (by omega), hg3.get A (by omega), hg.get A a1]
 have keep3 : ∀ A, H.next ≤ A → A < H3.next → H5.get A = H3.get A := fun A a1 a2 => by
  rw [hk5 A (by omega) (fun R _ _ _ _ _ _ e he => by have := (htvl _ _ _ _ _ _ _ e).1; omega), zz6.zz9 _ _ (by omega)]
 have hBo := hb.oB
 have hcB : Cells H5 B [tv, ev] := by unfold Cells; rw [keep B hB.2 (by omega)]; exact hb.cells
 obtain ⟨H7, hH7⟩ : ∃ H7, H7 = (H5.set B (.row [some (0, [tv', ev])])).push (.row [some (0, [zzt false])]) := ⟨_, rfl⟩
 have hn7 : H7.next = H5.next + 1 := by rw [hH7]; simp [-getElem?_pos]
 have hg7 : ∀ A, A < H5.next → A ≠ B → H7.get A = H5.get A := fun A a1 a2 => by rw [hH7, zz6.zz9 _ _ (by simp; omega), zz6.zzz _ _ a2]
 have hX7 : H7.rowAt H5.next 0 = some [zzt false] := by rw [hH7]; simp [-getElem?_pos]
 have hB7 : Cells H7 B [tv', ev] := by rw [hH7]; unfold Cells; rw [zz6.zz9 _ _ (by simp; omega), zz6.zzy]
 have hev7 : zzw H7 N 1 ev (yk4 (zbq b)) := zza hb.ends hb.endsL (by omega) fun A a1 a2 a3 => by
  rw [hg7 A (by omega) (fun e => by rw [e] at a3; omega), keep A a2 (by omega)]
 obtain ⟨ev', H8, ha8, hs8, hn8, hN8, hk8, hl8⟩ := hev7.append (bytes := 1) (by omega) (X := H5.next) (e := [zzt false]) hX7 rfl (by omega) (by omega) rfl (by simp; omega) (ex := true) (kc := 1)
 have k8 : ∀ A, A < H7.next → (A < H.next → o A ≠ 1) → H8.get A = H7.get A := fun A a1 a2 => hk8 A a1 fun R _ _ _ _ _ _ e he => by
  have := hevl _ _ _ _ _ _ _ e
  rw [he] at this
  exact a2 this.1 this.2
 refine ⟨sv', H3, tv', H5, ev', H8, ha3, hsone, by omega, hg3.get, ha5, hs5.rd.one, by omega, hcB, by rw [← hH7]; exact ha8, hs8.rd.one, ?_, ⟨rfl, ?_⟩, by simp; omega, fun A hA => ?_⟩
 ·unfold Cells; rw [k8 B (by omega) (fun _ => by omega)]; exact hB7
 ·obtain ⟨o', ho1, ho2, ho3, ho4⟩ : ∃ o' : Nat → Nat, (∀ A, A < H.next → o' A = o A) ∧ (∀ A, H.next ≤ A → A < H3.next → o' A = 3 * b.length + 3) ∧ (∀ A, H3.next ≤ A → A < H5.next → o' A = 2) ∧ ∀ A, H5.next ≤ A → o' A = 1 :=
   ⟨fun A => if A < H.next then o A else if A < H3.next then 3 * b.length + 3 else if A < H5.next then 2 else 1, fun A h => if_pos h, fun A h1 h2 => by simp only; rw [if_neg (by omega), if_pos h2], fun A h1 h2 => by simp only; rw [if_neg (by omega), if_neg (by omega), if_pos h2], fun A h => by simp only; rw [if_neg (by omega), if_neg (by omega), if_neg (by omega)]⟩
  have hoB : o' B = 0 := by rw [ho1 B hB.2, hBo]
  have kk : ∀ A, A < H5.next → o' A ≠ 0 → o' A ≠ 1 → (H8.set B (.row [some (0, [tv', ev'])])).get A = H5.get A := fun A a1 a2 a3 => by
   have hAB : A ≠ B := fun e => a2 (by rw [e, hoB])
   rw [zz6.zzz _ _ hAB, k8 A (by omega) (fun h => by rw [← ho1 A h]; exact a3), hg7 A a1 hAB]
  have hl2 : zs4 N H5 o' 2 tv' := fun R ver off len kc ex esz e => by
   obtain ⟨q1, q2⟩ := hs5.lies _ _ _ _ _ _ _ e
   refine ⟨q1, q2, ?_⟩
   have := hl5 (fun R => R < H5.next → o' R = 2) (fun R _ _ _ _ _ _ e _ => by
     show o' R = 2
     rw [ho1 R (htvl _ _ _ _ _ _ _ e).1]; exact (htvl _ _ _ _ _ _ _ e).2) (fun R hR h5 => ho3 R (by omega) h5) _ _ _ _ _ _ _ e
   exact this q2
  have hl1 : zs4 N H8 o' 1 ev' := fun R ver off len kc ex esz e => by
   obtain ⟨q1, q2⟩ := hs8.lies _ _ _ _ _ _ _ e
   exact ⟨q1, q2, hl8 (fun R => o' R = 1) (fun R _ _ _ _ _ _ e => by
     show o' R = 1
     rw [ho1 R (hevl _ _ _ _ _ _ _ e).1]; exact (hevl _ _ _ _ _ _ _ e).2) (fun R hR => ho4 R (by omega)) _ _ _ _ _ _ _ e⟩
  have hrb : zbl (b ++ [zv0 i r]) = zbl b ++ [zxc (zv0 i r)] := by simp [-getElem?_pos]
  have hre : zbq (b ++ [zv0 i r]) = zbq b ++ [false] := by simp [-getElem?_pos, zv0]
  rw [hrb, hre]
  refine ⟨tv', ev', _, o', zz6.zzy _ _ _, zza hs5 hl2 (by simp; omega) fun A _ a c => kk A a (by omega) (by omega), hl2.move (by simp; omega) fun _ _ => rfl, ?_, hl1.move (by simp) fun _ _ => rfl, ⟨by simp [-getElem?_pos, hl], fun j e z hj hz => ?_⟩, by simp [-getElem?_pos], hoB, ⟨hB.1, by simp; omega⟩⟩
  ·refine (show yk4 (zbq b ++ [false]) = _ from ?_) ▸ zza hs8 hl1 (by simp) fun A _ a c => zz6.zzz _ _ fun e => by rw [e, hoB] at c; omega
   simp [-getElem?_pos]
  ·by_cases hj2 : j < b.length
   ·rw [List.getElem?_append_left (by omega)] at hj
    rw [List.getElem?_append_left (by simpa [-getElem?_pos] using hj2)] at hz
    obtain ⟨s1, r1, w1, h1⟩ := hb.each.2 j e z hj hz
    refine ⟨s1, r1, w1, h1.move (by simp; omega) (fun A _ a c => ?_) ho1⟩
    rw [kk A (by omega) (by rw [ho1 A a]; omega) (by rw [ho1 A a]; omega), keep A a (by omega)]
   ·have hj3 : j = b.length := by
     have := (List.getElem?_eq_some_iff.1 hz).1
     simp [-getElem?_pos] at this; omega
    subst hj3
    rw [List.getElem?_append_right (by omega)] at hj
    rw [List.getElem?_append_right (by simp)] at hz
    rw [hl] at hj
    simp [-getElem?_pos] at hj hz
    subst hj; subst hz
    have hsl : zs4 N H3 o' (3 * b.length + 3) sv' := fun R _ _ _ _ _ _ e => by
     obtain ⟨q1, q2⟩ := hslies _ _ _ _ _ _ _ e
     exact ⟨by omega, q2, ho2 R (by omega) q2⟩
    have hset' : yyt H3 N sv' (zxc (zv0 i r)).set := by
     rcases hset with hset | hset
     ·exact .inl (hset.move (by omega) (Nat.le_refl _) fun _ _ _ => rfl)
     ·exact .inr hset
    refine ⟨sv', zxa, zxa, rfl, hset'.move hsl (by simp; omega) (fun A a1 a2 a3 => ?_), hsl.move (by simp; omega) fun _ _ => rfl, zzw.nil _ _ _, (fun R _ _ _ _ _ _ e => by cases e), zzw.nil _ _ _, (fun R _ _ _ _ _ _ e => by cases e), (fun _ h => by cases h), (fun _ h => by cases h)⟩
    rw [kk A (by omega) (by omega) (by omega)]
    by_cases hA : A < H.next
    ·rw [ho1 A hA] at a3
     rw [keep A hA (by omega), hg3.get A (by omega), hg.get A hA]
    ·exact keep3 A (by omega) a2
 ·rw [zz6.zzz _ _ (by omega), hN8 A hA, hg7 A (by omega) (by omega), hN5 A hA, zz6.zz9 _ _ (by omega), hg3.get A (by omega), hg.get A (by omega)]
theorem RB.read (hb : RB H N B (zbl b) (zbq b) tv ev tvs o) {k : Nat} (hx : b[k]? = some x) (y : zta) (hy : zyr y.val) (hl : x.reads.length < 400000000000) :
  ∃ R ver cells rv rv' H4 H5, tv = .slice R ver 0 b.length b.length false 12 ∧ H.rowAt R ver = some cells ∧ cells[k * 12 + 4]? = some rv ∧ k * 12 + 12 ≤ cells.length ∧ rv.one = true ∧ zzf (H.push (.row [some (0, y.cells)])) 34 48 rv (.slice H.next 0 0 1 1 true 34) = some (rv', H4) ∧ rv'.one = true ∧ H.next + 1 ≤ H4.next ∧ Cells H4 B [tv, ev] ∧ H4.write R ver (k * 12 + 4) [rv'] = some H5 ∧ H5.next = H4.next ∧ (∀ A, A < H.next → (rv.lies fun R => R ≠ A) → H4.get A = H.get A) ∧ ztg H N B (some (b.set k { x with reads := x.reads ++ [y] })) (zzt true) H5 := by
 obtain ⟨R0, ver0, cells0, sv, rv, wv, e0, _, _, _, hrow0, hlen0, hcell0, he, ht⟩ := hb.tx (zxy hx)
 rw [List.length_map] at e0
 have hB := hb.hB
 have hyl := hy.len
 obtain ⟨rv', H4, ha, hs4, hn4, hN4, hk4, hl4⟩ := (ht.reads.move (Nat.le_refl _) (by simp) (H' := H.push (.row [some (0, y.cells)])) fun A _ hA => zz6.zz9 _ _ (by omega)).append (bytes := 48) (by simp; omega) (X := H.next) (e := y.cells) (by simp) (by simp [-getElem?_pos, zta.cells, hyl]) (by omega) (by omega) (by simp only [zta.cells, List.all_cons, hy.one, Bool.and_true]; rfl) (by simp [-getElem?_pos, zxc]; omega) (ex := true) (kc := 1)
 simp only [zz6.zyc] at hn4 hk4 hl4
 have hrl : rv.lies fun R => R < H.next ∧ o R = 3 * k + 4 := fun R _ _ _ _ _ _ e => ⟨(ht.readsL _ _ _ _ _ _ _ e).2.1, (ht.readsL _ _ _ _ _ _ _ e).2.2⟩
 have keep : ∀ A, A < H.next → o A ≠ 3 * k + 4 → H4.get A = H.get A := fun A a1 a2 => by
  rw [hk4 A (by omega) (fun R _ _ _ _ _ _ e he => a2 (by rw [← he]; exact (hrl _ _ _ _ _ _ _ e).2)), zz6.zz9 _ _ (by omega)]
 obtain ⟨o1, ho1, ho1n⟩ : ∃ o1 : Nat → Nat, (∀ A, A < H.next → o1 A = o A) ∧ ∀ A, H.next ≤ A → o1 A = 3 * k + 4 := ⟨fun A => if A < H.next then o A else 3 * k + 4, fun A h => if_pos h, fun A h => if_neg (by omega)⟩
 have hl5 : zs4 N H4 o1 (3 * k + 4) rv' := fun R ver off len kc ex esz e => by
  obtain ⟨q1, q2⟩ := hs4.lies _ _ _ _ _ _ _ e
  refine ⟨q1, q2, hl4 (fun R => o1 R = 3 * k + 4) (fun R _ _ _ _ _ _ e => ?_) (fun R hR => ho1n R (by omega)) _ _ _ _ _ _ _ e⟩
  show o1 R = _
  rw [ho1 R (hrl _ _ _ _ _ _ _ e).1]
  exact (hrl _ _ _ _ _ _ _ e).2
 have hT : TxAt H4 N o1 k (txc (zxc { x with reads := x.reads ++ [y] }) sv rv' wv) (zxc { x with reads := x.reads ++ [y] }) sv rv' wv :=
  ⟨rfl, ht.set.move ht.setL (by omega) fun A _ a h => keep A a (by omega), ht.setL.move (by omega) ho1, by simpa [-getElem?_pos, zxc] using hs4, hl5, zza ht.writes ht.writesL (by omega) fun A _ a h => keep A a (by omega), ht.writesL.move (by omega) ho1, fun z hz => by
   rcases List.mem_append.1 hz with hz | hz
   ·exact ht.rvals z hz
   ·simp [-getElem?_pos] at hz; subst hz; exact hy, ht.wvals⟩
 obtain ⟨R5, ver5, H5, tvs5, e5, hw5, hb5, hn5, hN5⟩ := hb.putTx (f := 4) (u := rv') (zxy hx) he (by omega) (fun A hA _ h4 _ => keep A hA h4) (fun A hA => by rw [hN4 A hA, zz6.zz9 _ _ (by omega)]) ho1 hT rfl (by omega) hs4.rd.one
 rw [List.length_map, e0] at e5
 cases e5
 rw [zq5 rfl, ← zvf (x' := { x with reads := x.reads ++ [y] }) hx rfl] at hb5
 have g4 := hcell0 4 (by omega)
 simp only [txc, List.getElem?_cons_succ, List.getElem?_cons_zero] at g4
 refine ⟨R0, ver0, cells0, rv, rv', H4, H5, e0, hrow0, g4, hlen0, ht.reads.rd.one, ha, hs4.rd.one, by omega, ?_, hw5, hn5, fun A a1 a2 => by rw [hk4 A (by omega) a2, zz6.zz9 _ _ (by omega)], ⟨rfl, tv, ev, tvs5, o1, hb5⟩, by omega, hN5⟩
 unfold Cells; rw [keep B hB.2 (by rw [hb.oB]; omega)]; exact hb.cells
theorem RB.wrote (hb : RB H N B (zbl b) (zbq b) tv ev tvs o) {k : Nat} (hx : b[k]? = some x) {y : ImgD} (hy : zyr y.val) {wv' : AVal} (hg : Grow H H1) (hs : zzw H1 H.next 33 wv' (zhh (zyx x.writes y))) :
  ∃ R ver H5, tv = .slice R ver 0 b.length b.length false 12 ∧ H1.write R ver (k * 12 + 5) [wv'] = some H5 ∧ H5.next = H1.next ∧ ztg H N B (some (b.set k { x with writes := zyx x.writes y })) (zzt true) H5 := by
 obtain ⟨R0, ver0, cells0, sv, rv, wv, e0, _, _, _, hrow0, hlen0, hcell0, he, ht⟩ := hb.tx (zxy hx)
 rw [List.length_map] at e0
 have hB := hb.hB
 have hgn := hg.next
 obtain ⟨o1, ho1, ho1n⟩ : ∃ o1 : Nat → Nat, (∀ A, A < H.next → o1 A = o A) ∧ ∀ A, H.next ≤ A → o1 A = 3 * k + 5 := ⟨fun A => if A < H.next then o A else 3 * k + 5, fun A h => if_pos h, fun A h => if_neg (by omega)⟩
 have hl5 : zs4 N H1 o1 (3 * k + 5) wv' := fun R ver off len kc ex esz e => by
  obtain ⟨q1, q2⟩ := hs.lies _ _ _ _ _ _ _ e
  exact ⟨by omega, q2, ho1n R q1⟩
 have hT : TxAt H1 N o1 k (txc (zxc { x with writes := zyx x.writes y }) sv rv wv') (zxc { x with writes := zyx x.writes y }) sv rv wv' :=
  ⟨rfl, ht.set.move ht.setL (by omega) fun A _ a h => hg.get A a, ht.setL.move (by omega) ho1, zza ht.reads ht.readsL (by omega) fun A _ a h => hg.get A a, ht.readsL.move (by omega) ho1, hs.move (by omega) (Nat.le_refl _) fun _ _ _ => rfl, hl5, ht.rvals, fun z hz => by
   have : ∀ (l : List ImgD), (∀ w ∈ l, zyr w.val) → ∀ w ∈ zyx l y, zyr w.val := fun l => by
    induction l with
    | nil => intro _ w hw; simp [-getElem?_pos, zyx] at hw; subst hw; exact hy
    | cons u l ih =>
     intro hu w hw
     unfold zyx at hw
     split at hw
     ·rcases List.mem_cons.1 hw with rfl | hw
      ·exact hu _ (List.mem_cons_self ..)
      ·exact ih (fun w hw => hu w (List.mem_cons_of_mem _ hw)) w hw
     ·split at hw
      ·rcases List.mem_cons.1 hw with rfl | hw
       ·exact hy
       ·exact hu w (List.mem_cons_of_mem _ hw)
      ·rcases List.mem_cons.1 hw with rfl | hw
       ·exact hy
       ·exact hu w hw
   exact this x.writes ht.wvals z hz⟩
 obtain ⟨R5, ver5, H5, tvs5, e5, hw5, hb5, hn5, hN5⟩ := hb.putTx (f := 5) (u := wv') (zxy hx) he (by omega) (fun A hA _ _ _ => hg.get A hA) (fun A hA => hg.get A (by omega)) ho1 hT rfl (by omega) hs.rd.one
 rw [List.length_map] at e5
 rw [zq5 rfl, ← zvf (x' := { x with writes := zyx x.writes y }) hx rfl] at hb5
 exact ⟨R5, ver5, H5, e5, hw5, hn5, ⟨rfl, tv, ev, tvs5, o1, hb5⟩, by omega, hN5⟩
end
section
variable {kn : zy0} {env : Nat → Option zzq}
variable {H H' H1 : zz6} {N B : Nat} {i : Int} {b : List TxD} {tv ev sv rv wv : AVal} {tvs : List (List AVal)} {o : Nat → Nat} {x x' : TxD} {r : RowD} {rc : List AVal}
theorem yxu {t : Int} {k : Nat} (h : zvc b t = some k) : ∃ x, b[k]? = some x ∧ x.on = true := by
 unfold zvc at h
 have : k ∈ (zzj b).filter (zqf b t) := by
  generalize (zzj b).filter (zqf b t) = l at h
  match l, h with
  | [j], h => simp only [lone] at h; cases h; simp [-getElem?_pos]
 exact zxd.1 (List.mem_filter.1 this).1
theorem RB.out (hb : RB H1 N B (zbl b) (zbq b) tv ev tvs o) (hn : H.next ≤ H1.next) (hN : ∀ A, A < N → H1.get A = H.get A) : ztg H N B (some b) (zzt true) H1 := ⟨⟨rfl, tv, ev, tvs, o, hb⟩, hn, hN⟩
theorem ztg.from {t : Option (List TxD)} {v : AVal} (h : ztg H1 N B t v H') (hg : Grow H H1) (hN : N ≤ H.next) : ztg H N B t v H' := ⟨h.1, by have := h.2.1; have := hg.next; omega, fun A hA => by rw [h.2.2 A hA, hg.get A (by omega)]⟩
theorem zrq {R ver off : Nat} {vals : List AVal} {H2 : zz6} (hw : H.write R ver off vals = some H2) : ∀ A, A ≠ R → H2.get A = H.get A := by
 unfold zz6.write at hw
 split at hw
 ·split at hw
  ·split at hw
   ·cases hw; exact fun A hA => zz6.zzz _ _ hA
   ·cases hw
  ·cases hw
 ·cases hw
structure BookE (kn : zy0) (env : Nat → Option zzq) : Prop where
 f105 : Fn kn env 105 a105
 f106 : Fn kn env 106 a106
 f107 : Fn kn env 107 a107
 f78 : Fn kn env 78 a78
 f79 : Fn kn env 79 a79
 f80 : Fn kn env 80 a80
 f81 : Fn kn env 81 a81
abbrev C79 : List Nat := [0, 1, 2, 5, 6, 7, 13, 16, 36, 39, 78]
set_option maxHeartbeats 2000000 in
theorem c79 (E : BookE kn env) (n : Nat) (hb : RB H N B (zbl b) (zbq b) tv ev tvs o) (hr : RowC rc r) (hk : r.kind = 11 ∨ r.kind = 13) (hn : b.length < n) (hm : b.length < 400000000000) :
  ∃ v H', zzp kn env (n + 2) (.func (.func 79) []) [vp B, vi i, .agg rc] H = some (v, H') ∧ ztg H N B (zx3 b i r) v H' := by
 have hBn := hb.hB
 obtain ⟨H1, hH1⟩ : ∃ H1, H1 = H.push (.row [some (0, rc)]) := ⟨_, rfl⟩
 have hn1 : H1.next = H.next + 1 := by rw [hH1]; simp [-getElem?_pos]
 have hg1 : Grow H H1 := by rw [hH1]; exact Grow.push _ _
 have hX : H1.rowAt H.next 0 = some rc := by rw [hH1]; simp [-getElem?_pos]
 have hb1 := hb.grow hg1
 have h107 := c107 E.f107 n hb1 r.ticket hn hm
 have r0 := hr.a0; have r3 := hr.a3; have r4 := hr.a4; have r37 := hr.a37; have r5 := hr.len
 have hst : zx3 b i r = if r.kind = 11 then (zvc b r.ticket).bind fun k => (b[k]?).bind fun x => if 0 ≤ x.asked ∧ x.commit < 0 then some (if r.blk = -1 then b.set k { x with commit := i, pos := r.pos } else b) else none
   else (zvc b r.ticket).bind fun k => (b[k]?).bind fun x => if 0 ≤ x.commit ∧ x.pos = r.pos then some (b.set k { x with done := i, fate := 5, on := false }) else none := by
  unfold zx3
  rw [if_neg (by omega)]
  by_cases h : r.kind = 11
  ·rw [if_pos h, if_pos h]
  ·rw [if_neg h, if_neg h, if_pos (by omega)]
 have no : ztg H N B none (zzt false) H1 := ⟨rfl, by omega, fun A hA => hg1.get A (by omega)⟩
 refine Wp.call 100 C79 E.f79.e (E.f79.no _ H) (n := n + 1) rfl (by simp) ?_
 repeat (first | apply Wp.za | apply Wp.zb)
 (repeat (first | apply Wp.za | apply Wp.zb)); (apply Wp.zh; (repeat (apply Ex.zc; (simp (disch := omega) [-getElem?_pos]; rfl))); exact Ex.zn; rfl; (simp; rfl))
 rw [← hH1]
 cases ho : zvc b r.ticket with
 | none =>
  rw [ho] at h107 hst
  simp only [Option.bind_none, ite_self] at hst
  rw [hst]
  repeat (first | apply Wp.za | apply Wp.zb | apply Wp.zc | apply Wp.zd | apply Wp.ze | apply Wp.zf rfl | apply Wp.zg rfl | ((apply Wp.zh; (repeat (apply Ex.zc; (simp (disch := omega) [-getElem?_pos, hX, r3, h107, atV]; rfl))); exact Ex.zn; rfl; (simp; rfl))))
  simp [-getElem?_pos, a79]
  exact no
 | some k =>
  obtain ⟨x, hx, hon⟩ := yxu ho
  rw [ho] at h107 hst
  simp only [Option.bind_some, hx] at hst
  have hkl := (List.getElem?_eq_some_iff.1 hx).1
  obtain ⟨R, ver, R2, ver2, htv, hev⟩ := hb1.vals (zxy hx)
  rw [List.length_map] at htv hev
  obtain ⟨cells, sv, rv, wv, hrow, hlen, hcell⟩ := hb1.rdT htv (zxy hx)
  have g7 := hcell 7 (by omega)
  have g8 := hcell 8 (by omega)
  have g9 := hcell 9 (by omega)
  simp only [txc, List.getElem?_cons_succ, List.getElem?_cons_zero, zxc] at g7 g8 g9
  have hB1 := hb1.cells.at
  rw [htv, hev] at hB1
  by_cases h11 : r.kind = 11
  ·rw [if_pos h11] at hst
   by_cases ha : x.asked < 0
   ·rw [if_neg (by omega)] at hst
    rw [hst]
    repeat (first | apply Wp.za | apply Wp.zb | apply Wp.zc | apply Wp.zd | apply Wp.ze | apply Wp.zf rfl | apply Wp.zg rfl | ((apply Wp.zh; (repeat (apply Ex.zc; (simp (disch := omega) [-getElem?_pos, hX, r3, r0, h107, atV, h11, hB1, hrow, g7, ha]; rfl))); exact Ex.zn; rfl; (simp; rfl))))
    simp [-getElem?_pos, a79]
    exact no
   ·by_cases hc : x.commit < 0
    ·rw [if_pos (by omega)] at hst
     rw [hst]
     by_cases hbl : r.blk = -1
     ·rw [if_pos hbl]
      obtain ⟨H2, tvs2, hw2, hb2, hn2, ho2⟩ := hb1.numT htv (f := 8) (u := vi i) (zxy hx) { zxc x with commit := i } ⟨rfl, rfl, rfl⟩ (fun _ _ _ => rfl) (by omega) rfl
      have hx2 : ((zbl b).set k { zxc x with commit := i })[k]? = some { zxc x with commit := i } := List.getElem?_set_self (by rw [List.length_map]; omega)
      obtain ⟨H3, tvs3, hw3, hb3, hn3, ho3⟩ := hb2.numT htv (f := 9) (u := vu r.pos) hx2 { zxc x with commit := i, pos := r.pos } ⟨rfl, rfl, rfl⟩ (fun _ _ _ => rfl) (by omega) rfl
      have hcx : zxc { x with commit := i, pos := r.pos } = { zxc x with commit := i, pos := r.pos } := rfl
      rw [List.set_set, zq5 hcx, ← zvf (x' := { x with commit := i, pos := r.pos }) hx rfl] at hb3
      have hB2 := hb2.cells.at
      rw [htv, hev] at hB2
      have hX2 : H2.rowAt H.next 0 = some rc := by rw [zzk, zrq hw2 _ (by have := (hb.txsL _ _ _ _ _ _ _ htv).2.1; omega), ← zzk]; exact hX
      have hX3 : H3.rowAt H.next 0 = some rc := by rw [zzk, zrq hw3 _ (by have := (hb.txsL _ _ _ _ _ _ _ htv).2.1; omega), ← zzk]; exact hX2
      repeat (first | apply Wp.za | apply Wp.zb | apply Wp.zc | apply Wp.zd | apply Wp.ze | apply Wp.zf rfl | apply Wp.zg rfl | ((apply Wp.zh; (repeat (apply Ex.zc; (simp (disch := omega) [-getElem?_pos, hX, r3, r0, r4, h107, atV, h11, hB1, hrow, g7, g8, ha, hc, hbl, hw2, hB2, hX2, r37, hw3, hX3]; rfl))); exact Ex.zn; rfl; (simp; rfl))) | ((apply Wp.zi; (repeat ((first | apply Dr.q rfl rfl | apply Dr.r rfl rfl | apply Dr.imm rfl); (simp (disch := omega) [-getElem?_pos, hX, r3, r0, r4, h107, atV, h11, hB1, hrow, g7, g8, ha, hc, hbl, hw2, hB2, hX2, r37, hw3, hX3]; rfl); (focus first | (simp; rfl) | (simp; done) | (simp; omega)))); exact Dr.nil; rfl; (first | (focus (simp (disch := omega) [-getElem?_pos, hX, r3, r0, r4, h107, atV, h11, hB1, hrow, g7, g8, ha, hc, hbl, hw2, hB2, hX2, r37, hw3, hX3]; done)) | rfl); (simp; rfl))))
      simp [-getElem?_pos, a79]
      exact hb3.out (by omega) fun A hA => by rw [ho3 A hA, ho2 A hA, hg1.get A (by omega)]
     ·rw [if_neg hbl]
      repeat (first | apply Wp.za | apply Wp.zb | apply Wp.zc | apply Wp.zd | apply Wp.ze | apply Wp.zf rfl | apply Wp.zg rfl | ((apply Wp.zh; (repeat (apply Ex.zc; (simp (disch := omega) [-getElem?_pos, hX, r3, r0, r4, h107, atV, h11, hB1, hrow, g7, g8, ha, hc, hbl]; rfl))); exact Ex.zn; rfl; (simp; rfl))))
      simp [-getElem?_pos, a79]
      exact hb1.out (by omega) fun A hA => hg1.get A (by omega)
    ·rw [if_neg (by omega)] at hst
     rw [hst]
     repeat (first | apply Wp.za | apply Wp.zb | apply Wp.zc | apply Wp.zd | apply Wp.ze | apply Wp.zf rfl | apply Wp.zg rfl | ((apply Wp.zh; (repeat (apply Ex.zc; (simp (disch := omega) [-getElem?_pos, hX, r3, r0, h107, atV, h11, hB1, hrow, g7, g8, ha, hc]; rfl))); exact Ex.zn; rfl; (simp; rfl))))
     simp [-getElem?_pos, a79]
     exact no
  ·rw [if_neg h11] at hst
   by_cases hc : x.commit < 0
   ·rw [if_neg (by omega)] at hst
    rw [hst]
    repeat (first | apply Wp.za | apply Wp.zb | apply Wp.zc | apply Wp.zd | apply Wp.ze | apply Wp.zf rfl | apply Wp.zg rfl | ((apply Wp.zh; (repeat (apply Ex.zc; (simp (disch := omega) [-getElem?_pos, hX, r3, r0, h107, atV, h11, hB1, hrow, g8, hc, r5]; rfl))); exact Ex.zn; rfl; (simp; rfl))) | ((apply Wp.zi; (repeat ((first | apply Dr.q rfl rfl | apply Dr.r rfl rfl | apply Dr.imm rfl); (simp (disch := omega) [-getElem?_pos, hX, r3, r0, h107, atV, h11, hB1, hrow, g8, hc, r5]; rfl); (focus first | (simp; rfl) | (simp; done) | (simp; omega)))); exact Dr.nil; rfl; (first | (focus (simp (disch := omega) [-getElem?_pos, hX, r3, r0, h107, atV, h11, hB1, hrow, g8, hc, r5]; done)) | rfl); (simp; rfl))))
    simp [-getElem?_pos, a79]
    exact no
   ·by_cases hp : x.pos = r.pos
    ·rw [if_pos (by omega)] at hst
     rw [hst]
     obtain ⟨H2, tvs2, hw2, hb2, hn2, ho2⟩ := hb1.numT htv (f := 10) (u := vi i) (zxy hx) { zxc x with done := i } ⟨rfl, rfl, rfl⟩ (fun _ _ _ => rfl) (by omega) rfl
     have hx2 : ((zbl b).set k { zxc x with done := i })[k]? = some { zxc x with done := i } := List.getElem?_set_self (by rw [List.length_map]; omega)
     obtain ⟨H3, tvs3, hw3, hb3, hn3, ho3⟩ := hb2.numT htv (f := 11) (u := vi 5) hx2 { zxc x with done := i, fate := 5 } ⟨rfl, rfl, rfl⟩ (fun _ _ _ => rfl) (by omega) rfl
     obtain ⟨H4, hw4, hb4, hn4, ho4⟩ := hb3.endE hev (k := k) (by simp; omega)
     have hcx : zxc { x with done := i, fate := 5, on := false } = { zxc x with done := i, fate := 5 } := rfl
     rw [List.set_set, zq5 hcx, zsz (x' := { x with done := i, fate := 5, on := false }) rfl] at hb4
     have hB2 := hb2.cells.at
     have hB3 := hb3.cells.at
     rw [htv, hev] at hB2 hB3
     repeat (first | apply Wp.za | apply Wp.zb | apply Wp.zc | apply Wp.zd | apply Wp.ze | apply Wp.zf rfl | apply Wp.zg rfl | ((apply Wp.zh; (repeat (apply Ex.zc; (simp (disch := omega) [-getElem?_pos, hX, r3, r0, h107, atV, h11, hB1, hrow, g8, g9, hc, hp, r37, r5, hw2, hB2, hw3, hB3, hw4]; rfl))); exact Ex.zn; rfl; (simp; rfl))) | ((apply Wp.zi; (repeat ((first | apply Dr.q rfl rfl | apply Dr.r rfl rfl | apply Dr.imm rfl); (simp (disch := omega) [-getElem?_pos, hX, r3, r0, h107, atV, h11, hB1, hrow, g8, g9, hc, hp, r37, r5, hw2, hB2, hw3, hB3, hw4]; rfl); (focus first | (simp; rfl) | (simp; done) | (simp; omega)))); exact Dr.nil; rfl; (first | (focus (simp (disch := omega) [-getElem?_pos, hX, r3, r0, h107, atV, h11, hB1, hrow, g8, g9, hc, hp, r37, r5, hw2, hB2, hw3, hB3, hw4]; done)) | rfl); (simp; rfl))))
     simp [-getElem?_pos, a79]
     exact hb4.out (by omega) fun A hA => by rw [ho4 A hA, ho3 A hA, ho2 A hA, hg1.get A (by omega)]
    ·rw [if_neg (by omega)] at hst
     rw [hst]
     repeat (first | apply Wp.za | apply Wp.zb | apply Wp.zc | apply Wp.zd | apply Wp.ze | apply Wp.zf rfl | apply Wp.zg rfl | ((apply Wp.zh; (repeat (apply Ex.zc; (simp (disch := omega) [-getElem?_pos, hX, r3, r0, h107, atV, h11, hB1, hrow, g8, g9, hc, hp, r37, r5]; rfl))); exact Ex.zn; rfl; (simp; rfl))) | ((apply Wp.zi; (repeat ((first | apply Dr.q rfl rfl | apply Dr.r rfl rfl | apply Dr.imm rfl); (simp (disch := omega) [-getElem?_pos, hX, r3, r0, h107, atV, h11, hB1, hrow, g8, g9, hc, hp, r37, r5]; rfl); (focus first | (simp; rfl) | (simp; done) | (simp; omega)))); exact Dr.nil; rfl; (first | (focus (simp (disch := omega) [-getElem?_pos, hX, r3, r0, h107, atV, h11, hB1, hrow, g8, g9, hc, hp, r37, r5]; done)) | rfl); (simp; rfl))))
     simp [-getElem?_pos, a79]
     exact no
end
end Go.Proofs.Ythbjfkkjmecaaaa
