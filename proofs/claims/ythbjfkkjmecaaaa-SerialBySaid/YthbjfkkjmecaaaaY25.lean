/- Walks: a crash, a scan; a row, whole. -/
import Derived.Test.YthbjfkkjmecaaaaY24
set_option linter.unusedVariables false
set_option linter.unusedSimpArgs false
namespace Go.Proofs.Ythbjfkkjmecaaaa
open Go Go.Vm
section
variable {kn : zy0} {env : Nat → Option zzq}
variable {H H' H1 : zz6} {N B M clock : Nat} {i : Int} {b : List TxD} {tv sv rv wv : AVal} {es : zzb} {tvs : List (List AVal)} {o o' o1 : Nat → Nat} {e : List AVal} {x x' : TxD} {r : RowD} {rc : List AVal}
theorem c67k (E : RowE kn env) (n : Nat) (hn : 20 < n) (hb : Bk H N B b tv M es clock tvs o) (hr : RowC rc r) (hk : r.kind = 18) :
  ∃ H', zzp kn env (n + 5) (.func (.func 67) []) [vp B, vi i, .agg rc] H = some (.tuple [], H') ∧ Out H N B (zx3 b i r) H' := by
 have hg1 := Grow.push H (.row [some (0, rc)])
 have hb1 := hb.grow hg1
 have hB := hb.hB
 have r0 := hr.a0
 have r5 := hr.len
 rw [zgr hk]
 obtain ⟨v, H1, hres, hg2, hlv, hat⟩ := ztw (H.push (.row [some (0, rc)])) (es.map fun e => zvl e.2.1)
 have h68 : zzp kn env (n + 4) (.func (.func 68) []) [vp B] (H.push (.row [some (0, rc)])) = some (v, H1) := knM (n + 3) (by rw [List.append_nil, E.live, hb1.live, hres])
 rw [hb.ok.live] at hat
 have hlen : (es.map fun e => zvl e.2.1).length = (zzj b).length := by rw [← zvz, hb.ok.live, List.length_map]
 rw [hlen] at hlv hat
 have hl8 : (zzj b).length ≤ 8 := by rw [← hlen, List.length_map]; exact hb.ok.len
 have hn1 := hg2.next
 simp only [zz6.zyc] at hn1
 have hb2 := hb1.grow hg2
 obtain ⟨_, H', h1, rfl, h2⟩ := Wp.call (R := fun v H' => v = .tuple [] ∧ Out H N B (some (zw3 zpn b (zzj b))) H') 130 C67 E.f67.e (E.f67.no [vp B, vi i, .agg rc] H) (n := n + 4) rfl (by simp) (by
  repeat (first | apply Wp.za | apply Wp.zb | apply Wp.zc | apply Wp.zd | apply Wp.ze | apply Wp.zf rfl | apply Wp.zg rfl | ((apply Wp.zh; (repeat (apply Ex.zc; (simp (disch := omega) [-getElem?_pos, r0, r5, h68, hlv]; rfl))); exact Ex.zn; rfl; (simp; rfl))))
  apply Wp.loop (α := Nat × zz6 × zzb × List (List AVal)) (fun x => [(0, vp B), (70, v), (71, vi (zzj b).length), (72, vi x.1)]) (·.2.1)
   (fun x => x.1 ≤ (zzj b).length ∧ Bk x.2.1 N B (zw3 zpn b ((zzj b).take x.1)) tv M x.2.2.1 clock x.2.2.2 o ∧ x.2.1.next = H1.next ∧ (∀ A, H.next ≤ A → x.2.1.get A = H1.get A) ∧ ∀ A, A < N → x.2.1.get A = H1.get A) (fun x => (zzj b).length - x.1) (0, H1, es, tvs) rfl ⟨by omega, hb2, rfl, fun _ _ => rfl, fun _ _ => rfl⟩ (by simp; omega) (by simp)
  rintro ⟨j, H2, es2, tvs2⟩ ⟨hj, hbk, hnx, hfr, hNk⟩
  dsimp only at hj hbk hnx hfr hNk ⊢
  (repeat (first | apply Wp.za | apply Wp.zb)); (apply Wp.zh; (repeat (apply Ex.zc; (simp (disch := omega) [-getElem?_pos]; rfl))); exact Ex.zn; rfl; (simp; rfl))
  (repeat (first | apply Wp.za | apply Wp.zb)); apply Wp.ite rfl
  ·intro hjl
   obtain ⟨z, hz⟩ : ∃ z, (zzj b)[j]? = some z := ⟨_, List.getElem?_eq_getElem (by omega)⟩
   obtain ⟨x, hx, hon⟩ := zxd.1 (List.mem_of_getElem? hz)
   obtain ⟨R1, ver1, cells1, hv, hR1, hR1n, hrow1, hc1, hcell1⟩ := hat j z (by rw [List.getElem?_map, hz]; rfl)
   simp only [zz6.zyc] at hR1
   have hrow1' : H2.rowAt R1 ver1 = some cells1 := by rw [zzk, hfr R1 (by omega), ← zzk]; exact hrow1
   have hx2 : (zw3 zpn b ((zzj b).take j))[z]? = some x := by rw [zek hz, hx]
   obtain ⟨R, ver, cells, sv, rv, wv, htv, hR1', hR2, hR3, hrow, hlen2, hcell, _, _⟩ := hbk.tx hx2
   have hbl : (zw3 zpn b ((zzj b).take j)).length = b.length := zgt _ _ _
   rw [hbl] at htv
   have hRH : R < H.next := by
    obtain ⟨R', ver', _, _, _, _, e, _, h, _⟩ := hb.tx hx
    rw [htv] at e; cases e; exact h
   have hkl := (List.getElem?_eq_some_iff.1 hx).1
   have g8 := hcell 8 (by omega)
   simp only [txc, List.getElem?_cons_succ, List.getElem?_cons_zero] at g8
   have hB1 := hbk.cells.at
   rw [htv] at hB1
   have key : ∀ f : Int, f = (if x.commit < 0 then 3 else 4) → ∃ H3 es3 tvs3, zzp kn env (n + 4) (.func (.func 89) []) [vp B, .ptr R ver (z * 12), vi f] H2 = some (.tuple [], H3) ∧ Bk H3 N B (zw3 zpn b ((zzj b).take (j + 1))) tv M es3 clock tvs3 o ∧ H3.next = H1.next ∧ (∀ A, H.next ≤ A → H3.get A = H1.get A) ∧ ∀ A, A < N → H3.get A = H1.get A := fun f hf => by
    obtain ⟨H3, es3, tvs3, hc, hb3, hn3, hN3, hA3⟩ := c89 E.f89 (n + 3) hbk (f := f) hx2 hon (by rw [hbl]; exact htv)
    refine ⟨H3, es3, tvs3, hc, ?_, by rw [hn3, hnx], fun A hA => by rw [hA3 A (by have := hb.hM; omega) (by omega), hfr A hA], fun A hA => by rw [hN3 A hA, hNk A hA]⟩
    rw [zna hz]
    unfold zjb
    rw [hx2]
    rw [hf] at hb3
    exact hb3
   apply Wp.zd
   by_cases hcm : x.commit < 0
   ·obtain ⟨H3, es3, tvs3, hc, hb3, hn3, hf3, hN3⟩ := key 3 (by rw [if_pos hcm])
    repeat (first | apply Wp.za | apply Wp.zb | apply Wp.zc | apply Wp.zd | apply Wp.ze | apply Wp.zf rfl | apply Wp.zg rfl | ((apply Wp.zh; (repeat (apply Ex.zc; (simp (disch := omega) [-getElem?_pos, hv, hrow1', hcell1, hB1, hrow, g8, hc]; rfl))); exact Ex.zn; rfl; (simp; rfl))))
    exact ⟨(j + 1, H3, es3, tvs3), rfl, ⟨by show j + 1 ≤ _; omega, hb3, hn3, hf3, hN3⟩, by show _ - (j + 1) < _ - j; omega, by simp [-getElem?_pos, hv]⟩
   ·obtain ⟨H3, es3, tvs3, hc, hb3, hn3, hf3, hN3⟩ := key 4 (by rw [if_neg hcm])
    repeat (first | apply Wp.za | apply Wp.zb | apply Wp.zc | apply Wp.zd | apply Wp.ze | apply Wp.zf rfl | apply Wp.zg rfl | ((apply Wp.zh; (repeat (apply Ex.zc; (simp (disch := omega) [-getElem?_pos, hv, hrow1', hcell1, hB1, hrow, g8, hc]; rfl))); exact Ex.zn; rfl; (simp; rfl))))
    exact ⟨(j + 1, H3, es3, tvs3), rfl, ⟨by show j + 1 ≤ _; omega, hb3, hn3, hf3, hN3⟩, by show _ - (j + 1) < _ - j; omega, by simp [-getElem?_pos, hv]⟩
  ·intro hjl
   apply Wp.ze
   have : (zzj b).take j = zzj b := List.take_of_length_le (by omega)
   rw [this] at hbk
   simp [-getElem?_pos, a67]
   exact ⟨⟨_, _, _, _, _, _, hbk⟩, fun A hA => by rw [hNk A hA, hg2.get A (by simp; omega), zz6.zz9 _ _ (by omega)], by omega⟩)
 exact ⟨H', h1, h2⟩
def zv1 (p : Int) (b : List TxD) (j : Nat) : List TxD := (b.take j).map (zsh p) ++ b.drop j
theorem zdm (p : Int) (b : List TxD) (j : Nat) : (zv1 p b j).length = b.length := by simp [-getElem?_pos, zv1]; omega
theorem zad {p : Int} {b : List TxD} {j : Nat} (hx : b[j]? = some x) : (zv1 p b j)[j]? = some x := by
 have hj := (List.getElem?_eq_some_iff.1 hx).1
 unfold zv1
 rw [List.getElem?_append_right (by simp; omega)]
 simp [-getElem?_pos, Nat.min_eq_left (Nat.le_of_lt hj), hx]
theorem zje {p : Int} {b : List TxD} {j : Nat} (hx : b[j]? = some x) : zv1 p b (j + 1) = (zv1 p b j).set j (zsh p x) := by
 have hj := (List.getElem?_eq_some_iff.1 hx).1
 have hd : b.drop j = x :: b.drop (j + 1) := by rw [← (List.getElem?_eq_some_iff.1 hx).2]; exact (List.drop_eq_getElem_cons hj)
 unfold zv1
 rw [List.set_append_right _ _ (by simp; omega), List.take_add_one, hx, hd]
 simp [-getElem?_pos, Nat.min_eq_left (Nat.le_of_lt hj)]
theorem zdw (p : Int) (b : List TxD) : zv1 p b b.length = b.map (zsh p) := by simp [-getElem?_pos, zv1]
theorem yw8 {α : Type} {l : List α} {j : Nat} {x : α} (h : l[j]? = some x) : l.set j x = l := by
 obtain ⟨h1, rfl⟩ := List.getElem?_eq_some_iff.1 h
 exact List.set_getElem_self h1
theorem c67s (E : RowE kn env) (n : Nat) (hb : Bk H N B b tv M es clock tvs o) (hr : RowC rc r) {m : Nat} (hsm : b.length ≤ m) (hm : m < 400000000000) (hn : m + 10 < n) (hk : r.kind = 19) :
  ∃ H', zzp kn env (n + 5) (.func (.func 67) []) [vp B, vi i, .agg rc] H = some (.tuple [], H') ∧ Out H N B (zx3 b i r) H' := by
 have hg1 := Grow.push H (.row [some (0, rc)])
 have hb1 := hb.grow hg1
 have hB := hb.hB
 have r0 := hr.a0
 have r5 := hr.len
 have r37 := hr.a37
 have hst : zx3 b i r = some (b.map (zsh r.pos)) := by
  unfold zx3
  rw [if_neg (by omega), if_neg (by omega), if_neg (by omega), if_neg (by omega), if_pos hk]; rfl
 rw [hst]
 have hltv : zyy tv = some (vi b.length) := by have := hb.txs.rd.lenS; rw [hb.each.1] at this; exact this
 have hB1 := hb.cells.at
 obtain ⟨_, H', h1, rfl, h2⟩ := Wp.call (R := fun v H' => v = .tuple [] ∧ Out H N B (some (b.map (zsh r.pos))) H') 130 C67 E.f67.e (E.f67.no [vp B, vi i, .agg rc] H) (n := n + 4) rfl (by simp) (by
  repeat (first | apply Wp.za | apply Wp.zb | apply Wp.zc | apply Wp.zd | apply Wp.ze | apply Wp.zf rfl | apply Wp.zg rfl | ((apply Wp.zh; (repeat (apply Ex.zc; (simp (disch := omega) [-getElem?_pos, r0, r5, hB1, hltv]; rfl))); exact Ex.zn; rfl; (simp; rfl))))
  apply Wp.loop (α := Nat × zz6 × List (List AVal)) (fun x => [(0, vp B), (5, vp H.next), (101, vi b.length), (102, vi x.1)]) (·.2.1)
   (fun x => x.1 ≤ b.length ∧ Bk x.2.1 N B (zv1 r.pos b x.1) tv M es clock x.2.2 o ∧ x.2.1.next = H.next + 1 ∧ x.2.1.rowAt H.next 0 = some rc ∧ ∀ A, A < N → x.2.1.get A = H.get A) (fun x => b.length - x.1) (0, H.push (.row [some (0, rc)]), tvs) rfl ⟨by omega, by simpa [-getElem?_pos, zv1] using hb1, rfl, by simp [-getElem?_pos], fun A hA => zz6.zz9 _ _ (by omega)⟩ (by simp; omega) (by simp)
  rintro ⟨j, H2, tvs2⟩ ⟨hj, hbk, hnx, hX, hNk⟩
  dsimp only at hj hbk hnx hX hNk ⊢
  (repeat (first | apply Wp.za | apply Wp.zb)); (apply Wp.zh; (repeat (apply Ex.zc; (simp (disch := omega) [-getElem?_pos]; rfl))); exact Ex.zn; rfl; (simp; rfl))
  (repeat (first | apply Wp.za | apply Wp.zb)); apply Wp.ite rfl
  ·intro hjl
   obtain ⟨x, hx⟩ : ∃ x, b[j]? = some x := ⟨_, List.getElem?_eq_getElem (by omega)⟩
   have hx2 := zad (p := r.pos) hx
   obtain ⟨R, ver, cells, sv, rv, wv, htv, hR1', hR2, hR3, hrow, hlen2, hcell, _, _⟩ := hbk.tx hx2
   have hbl := zdm r.pos b j
   rw [hbl] at htv
   have hRH : R < H.next := by
    obtain ⟨R', ver', _, _, _, _, e, _, h, _⟩ := hb.tx hx
    rw [htv] at e; cases e; exact h
   have g9 := hcell 9 (by omega)
   have g11 := hcell 11 (by omega)
   simp only [txc, List.getElem?_cons_succ, List.getElem?_cons_zero] at g9 g11
   have hB2 := hbk.cells.at
   rw [htv] at hB2
   apply Wp.zd
   by_cases hf : x.fate = 4
   ·obtain ⟨R', ver', H3, htv', hw, hn3, ⟨tvs3, hb3⟩, hN3, hR3⟩ := hbk.num (f := 11) (y := vi 7) (x' := { x with fate := 7 }) hx2 (by omega) rfl (fun _ _ _ => by simp [-getElem?_pos, txc]) ⟨rfl, rfl, rfl⟩ rfl rfl
    rw [hbl, htv] at htv'; cases htv'
    have hx3 : ((zv1 r.pos b j).set j { x with fate := 7 })[j]? = some { x with fate := 7 } := List.getElem?_set_self (by rw [hbl]; omega)
    obtain ⟨R', ver', cells3, sv3, rv3, wv3, htv', _, _, _, hrow3, hlen3, hcell3, _, _⟩ := hb3.tx hx3
    rw [List.length_set, hbl, htv] at htv'; cases htv'
    have g93 := hcell3 9 (by omega)
    simp only [txc, List.getElem?_cons_succ, List.getElem?_cons_zero] at g93
    have hX3 : H3.rowAt H.next 0 = some rc := by rw [zzk, hR3 _ (by omega), ← zzk]; exact hX
    by_cases hp : x.pos < r.pos
    ·obtain ⟨R', ver', H4, htv', hw4, hn4, ⟨tvs4, hb4⟩, hN4, hR4⟩ := hb3.num (f := 11) (y := vi 6) (x' := { x with fate := 6 }) hx3 (by omega) rfl (fun _ _ _ => by simp [-getElem?_pos, txc]) ⟨rfl, rfl, rfl⟩ rfl rfl
     rw [List.length_set, hbl, htv] at htv'; cases htv'
     have hX4 : H4.rowAt H.next 0 = some rc := by rw [zzk, hR4 _ (by omega), ← zzk]; exact hX3
     rw [List.set_set] at hb4
     have hsx : zsh r.pos x = { x with fate := 6 } := by unfold zsh; rw [if_pos hf, if_pos hp]
     repeat (first | apply Wp.za | apply Wp.zb | apply Wp.zc | apply Wp.zd | apply Wp.ze | apply Wp.zf rfl | apply Wp.zg rfl | ((apply Wp.zh; (repeat (apply Ex.zc; (simp (disch := omega) [-getElem?_pos, hB2, hrow, g11, hf, hw, hX3, r37, r5, hrow3, g93, hw4]; rfl))); exact Ex.zn; rfl; (simp; rfl))) | ((apply Wp.zi; (repeat ((first | apply Dr.q rfl rfl | apply Dr.r rfl rfl | apply Dr.imm rfl); (simp (disch := omega) [-getElem?_pos, hB2, hrow, g11, hf, hw, hX3, r37, r5, hrow3, g93, hw4]; rfl); (focus first | (simp; rfl) | (simp; done) | (simp; omega)))); exact Dr.nil; rfl; (simp (disch := omega) [-getElem?_pos, hB2, hrow, g11, hf, hw, hX3, r37, r5, hrow3, g93, hw4]); (simp; rfl))))
     exact ⟨(j + 1, H4, tvs4), rfl, ⟨by show j + 1 ≤ _; omega, by show Bk H4 N B (zv1 r.pos b (j + 1)) _ _ _ _ _ _; rw [zje hx, hsx]; exact hb4, by show H4.next = _; omega, hX4, fun A hA => by show H4.get A = _; rw [hN4 A hA, hN3 A hA, hNk A hA]⟩, by show _ - (j + 1) < _ - j; omega, by simp [-getElem?_pos]⟩
    ·have hsx : zsh r.pos x = { x with fate := 7 } := by unfold zsh; rw [if_pos hf, if_neg hp]
     repeat (first | apply Wp.za | apply Wp.zb | apply Wp.zc | apply Wp.zd | apply Wp.ze | apply Wp.zf rfl | apply Wp.zg rfl | ((apply Wp.zh; (repeat (apply Ex.zc; (simp (disch := omega) [-getElem?_pos, hB2, hrow, g11, hf, hw, hX3, r37, r5, hrow3, g93]; rfl))); exact Ex.zn; rfl; (simp; rfl))) | ((apply Wp.zi; (repeat ((first | apply Dr.q rfl rfl | apply Dr.r rfl rfl | apply Dr.imm rfl); (simp (disch := omega) [-getElem?_pos, hB2, hrow, g11, hf, hw, hX3, r37, r5, hrow3, g93]; rfl); (focus first | (simp; rfl) | (simp; done) | (simp; omega)))); exact Dr.nil; rfl; (simp (disch := omega) [-getElem?_pos, hB2, hrow, g11, hf, hw, hX3, r37, r5, hrow3, g93]); (simp; rfl))))
     exact ⟨(j + 1, H3, tvs3), rfl, ⟨by show j + 1 ≤ _; omega, by show Bk H3 N B (zv1 r.pos b (j + 1)) _ _ _ _ _ _; rw [zje hx, hsx]; exact hb3, by show H3.next = _; omega, hX3, fun A hA => by show H3.get A = _; rw [hN3 A hA, hNk A hA]⟩, by show _ - (j + 1) < _ - j; omega, by simp [-getElem?_pos]⟩
   ·have hsx : zsh r.pos x = x := by unfold zsh; rw [if_neg hf]
    repeat (first | apply Wp.za | apply Wp.zb | apply Wp.zc | apply Wp.zd | apply Wp.ze | apply Wp.zf rfl | apply Wp.zg rfl | ((apply Wp.zh; (repeat (apply Ex.zc; (simp (disch := omega) [-getElem?_pos, hB2, hrow, g11]; rfl))); exact Ex.zn; rfl; (simp; rfl))) | ((apply Wp.zi; (repeat ((first | apply Dr.q rfl rfl | apply Dr.r rfl rfl | apply Dr.imm rfl); (simp (disch := omega) [-getElem?_pos, hB2, hrow, g11]; rfl); (focus first | (simp; rfl) | (simp; done) | (simp; omega)))); exact Dr.nil; rfl; (simp (disch := omega) [-getElem?_pos, hB2, hrow, g11]); (simp; rfl))))
    exact ⟨(j + 1, H2, tvs2), rfl, ⟨by show j + 1 ≤ _; omega, by show Bk H2 N B (zv1 r.pos b (j + 1)) _ _ _ _ _ _; rw [zje hx, hsx, yw8 hx2]; exact hbk, hnx, hX, hNk⟩, by show _ - (j + 1) < _ - j; omega, by simp [-getElem?_pos]⟩
  ·intro hjl
   apply Wp.ze
   have : j = b.length := by omega
   subst this
   rw [zdw] at hbk
   simp [-getElem?_pos, a67]
   exact ⟨⟨_, _, _, _, _, _, hbk⟩, hNk, by omega⟩)
 exact ⟨H', h1, h2⟩
theorem c67 (E : RowE kn env) (n : Nat) (hins : yyb (zzp kn env (n + 2))) (hb : Bk H N B b tv M es clock tvs o) (hr : RowC rc r) (hs : zuu H N rc r sv) {m : Nat} (hsm : zkx b m) (hm : m < 400000000000) (hn : m + 20 < n) :
  ∃ H', zzp kn env (n + 5) (.func (.func 67) []) [vp B, vi i, .agg rc] H = some (.tuple [], H') ∧ Out H N B (zx3 b i r) H' := by
 by_cases h1 : 1 ≤ r.kind ∧ r.kind ≤ 9
 ·exact c67c E n hins hb hr hs hsm hm (by omega) h1
 ·by_cases h2 : r.kind = 11
  ·exact c67a E n (by omega) hb hr h2
  ·by_cases h3 : r.kind = 13
   ·exact c67d E n (by omega) hb hr h3
   ·by_cases h4 : r.kind = 18
    ·exact c67k E n (by omega) hb hr h4
    ·by_cases h5 : r.kind = 19
     ·exact c67s E n hb hr hsm.1 hm (by omega) h5
     ·exact c67n E n hb hr ⟨h1, h2, h3, h4, h5⟩
end
section
variable {kn : zy0} {env : Nat → Option zzq}
variable {H H' H1 : zz6} {N B M clock : Nat} {i : Int} {b : List TxD} {tv sv rv wv : AVal} {es : zzb} {tvs : List (List AVal)} {o o' o1 : Nat → Nat} {e : List AVal} {x x' : TxD} {r : RowD} {rc : List AVal}
theorem zkv : ∀ (l l' : List RowD) (b : List TxD) (k : Nat), zqv b k (l ++ l') = (zqv b k l).bind fun b => zqv b (k + l.length) l'
 | [], l', b, k => rfl
 | r :: l, l', b, k => by
  show (zx3 b k r).bind _ = ((zx3 b k r).bind _).bind _
  cases h : zx3 b k r with
  | none => rfl
  | some b' =>
   simp only [Option.bind_some]
   show zqv b' (k + 1) (l ++ l') = _
   rw [zkv l l' b' (k + 1), List.length_cons, show k + 1 + l.length = k + (l.length + 1) by omega]
theorem zjz {l : List RowD} {j : Nat} {r : RowD} (hr : l[j]? = some r) : zqv [] 0 (l.take (j + 1)) = (zqv [] 0 (l.take j)).bind fun b => zx3 b j r := by
 have hj := (List.getElem?_eq_some_iff.1 hr).1
 rw [List.take_add_one, hr, zkv]
 have : (l.take j).length = j := by simp; omega
 rw [this, Nat.zero_add]
 congr 1; funext b
 show (zx3 b j r).bind _ = _
 cases zx3 b j r <;> rfl
theorem zph {l : List RowD} {j : Nat} (h : zqv [] 0 (l.take j) = none) : zqv [] 0 l = none := by
 conv => lhs; rw [← List.take_append_drop j l, zkv, h]
 rfl
theorem zd6 (l : List ImgD) (x : ImgD) : (zyx l x).length ≤ l.length + 1 := by
 induction l with
 | nil => simp [-getElem?_pos, zyx]
 | cons y l ih =>
  unfold zyx
  split
  ·simp [-getElem?_pos]; exact ih
  ·split <;> simp [-getElem?_pos]
theorem zkx.upd {m k : Nat} (h : zkx b m) (hx : b[k]? = some x) (hs : zpy x'.writes ∧ x'.writes.length ≤ m + 1 ∧ x'.reads.length ≤ m + 1) : zkx (b.set k x') (m + 1) := by
 refine ⟨by rw [List.length_set]; have := h.1; omega, fun y hy => ?_⟩
 rcases List.mem_or_eq_of_mem_set hy with hy | rfl
 ·obtain ⟨a, c, d⟩ := h.2 y hy; exact ⟨a, by omega, by omega⟩
 ·exact hs
theorem zkx.le {m m' : Nat} (h : zkx b m) (hm : m ≤ m') : zkx b m' := ⟨Nat.le_trans h.1 hm, fun x hx => by obtain ⟨a, c, d⟩ := h.2 x hx; exact ⟨a, by omega, by omega⟩⟩
theorem zkx.map {m : Nat} {f : TxD → TxD} (h : zkx b m) (hf : ∀ x, (f x).writes = x.writes ∧ (f x).reads = x.reads) : zkx (b.map f) m := by
 refine ⟨by simpa [-getElem?_pos] using h.1, fun y hy => ?_⟩
 obtain ⟨x, hx, rfl⟩ := List.mem_map.1 hy
 rw [(hf x).1, (hf x).2]; exact h.2 x hx
theorem zss {m : Nat} {b' : List TxD} (h : zkx b m) (hs : zx3 b i r = some b') : zkx b' (m + 1) := by
 have own : ∀ {k : Nat} {x : TxD}, b[k]? = some x → zpy x.writes ∧ x.writes.length ≤ m + 1 ∧ x.reads.length ≤ m + 1 := fun hx => by
  obtain ⟨a, c, d⟩ := h.2 _ (List.mem_of_getElem? hx); exact ⟨a, by omega, by omega⟩
 unfold zx3 at hs
 split at hs
 ·unfold zur at hs
  split at hs
  ·cases hs
  ·split at hs
   ·split at hs
    ·cases hs
    ·cases hs; exact h.le (by omega)
   ·split at hs
    ·split at hs
     ·cases hs
     ·cases hs
      refine ⟨by have := h.1; simp [-getElem?_pos]; omega, fun x hx => ?_⟩
      rcases List.mem_append.1 hx with hx | hx
      ·exact (h.le (Nat.le_succ m)).2 x hx
      ·simp [-getElem?_pos] at hx; subst hx
       exact ⟨List.Pairwise.nil, by simp [-getElem?_pos, zv0], by simp [-getElem?_pos, zv0]⟩
    ·obtain ⟨k, hk, rfl⟩ := Option.map_eq_some_iff.1 hs
     obtain ⟨x, hx, _⟩ := znr hk
     have hup : ∀ f : TxD → TxD, zjb b k f = b.set k (f x) := fun f => by unfold zjb; rw [hx]
     obtain ⟨o1, o2, o3⟩ := own hx
     obtain ⟨p1, p2, p3⟩ := h.2 x (List.mem_of_getElem? hx)
     split
     ·rw [hup]; exact h.upd hx ⟨o1, o2, by simp; omega⟩
     ·split
      ·rw [hup]; exact h.upd hx ⟨o1.write _, by have := zd6 x.writes ⟨r.blk, r.val⟩; simp only; omega, o3⟩
      ·split
       ·rw [hup]; exact h.upd hx ⟨o1, o2, o3⟩
       ·split
        ·rw [hup]; exact h.upd hx ⟨o1, o2, o3⟩
        ·exact h.le (by omega)
 ·split at hs
  ·obtain ⟨k, hk, hs⟩ := Option.bind_eq_some_iff.1 hs
   obtain ⟨x, hx, hs⟩ := Option.bind_eq_some_iff.1 hs
   split at hs
   ·cases hs
    split
    ·have q := own hx; exact h.upd hx ⟨q.1, q.2.1, q.2.2⟩
    ·exact h.le (by omega)
   ·cases hs
  ·split at hs
   ·obtain ⟨k, hk, hs⟩ := Option.bind_eq_some_iff.1 hs
    obtain ⟨x, hx, hs⟩ := Option.bind_eq_some_iff.1 hs
    split at hs
    ·cases hs
     have q := own hx; exact h.upd hx ⟨q.1, q.2.1, q.2.2⟩
    ·cases hs
   ·split at hs
    ·cases hs
     exact (h.map fun x => by split <;> exact ⟨rfl, rfl⟩).le (by omega)
    ·split at hs
     ·cases hs
      exact (h.map fun x => by split <;> exact ⟨rfl, rfl⟩).le (by omega)
     ·cases hs; exact h.le (by omega)
def zwz (H : zz6) (N : Nat) (v : AVal) (rows : List RowD) : Prop := ∃ rcs : List (List AVal), RdE H 41 v rcs ∧ v.lies (· < N) ∧ rcs.length = rows.length ∧ ∀ (k : Nat) (rc : List AVal) (r : RowD), rcs[k]? = some rc → rows[k]? = some r → RowC rc r ∧ ∃ sv, zuu H N rc r sv
def zlg (H' : zz6) (N : Nat) (t : Option (List TxD)) (v : AVal) : Prop := match t with
 | some b => ∃ tv tvs o, v = .tuple [tv, vi 0] ∧ zzw H' N 12 tv tvs ∧ zs4 N H' o 2 tv ∧ zte H' N o tvs b
 | none => v = .tuple [zxa, vi 230]
def zck (x : TxD) : TxD := { x with fate := if 0 ≤ x.commit then 4 else 1 }
abbrev C33 : List Nat := [0, 2, 3, 4, 5, 6, 8, 12, 13, 14, 15, 26, 29, 30, 31, 32, 50]
theorem c33 (E : RowE kn env) (h : Fn kn env 33 a33) (n : Nat) (hins : yyb (zzp kn env (n + 2))) {v0 : AVal} {rows : List RowD} (hrows : zwz H H.next v0 rows) (hm : rows.length < 400000000000) (hn : rows.length + 20 < n) :
  ∃ v H', zzp kn env (n + 6) (.func (.func 33) []) [v0] H = some (v, H') ∧ Grow H H' ∧ zlg H' H.next (zmc rows) v := by
 obtain ⟨rcs, hrd, hlies, hlen, hat⟩ := hrows
 have hl0 : zyy v0 = some (vi rows.length) := by rw [← hlen]; exact hrd.lenS
 have hbk0 : Bk ((H.push (.map [] 0)).push (.row [some (0, [zxa, .map H.next, zzt false])])) H.next (H.next + 1) [] zxa H.next [] 0 [] (fun A => if A = H.next then 1 else 0) :=
  ⟨by show zz6.get _ _ = _; simp [-getElem?_pos], by simp (disch := omega) [-getElem?_pos], zqx.none (es := []) (by simp), zzw.nil _ _ _, (fun R _ _ _ _ _ _ e => by cases e), ⟨rfl, fun i e x h => by simp [-getElem?_pos] at h⟩, by simp [-getElem?_pos], by simp [-getElem?_pos], by simp [-getElem?_pos], by simp; omega⟩
 obtain ⟨v, H', h1, h2, h3⟩ := Wp.call (R := fun v H' => Grow H H' ∧ zlg H' H.next (zmc rows) v) 63 C33 h.e (h.no [v0] H) (n := n + 5) rfl (by simp) (by
  repeat (first | apply Wp.za | apply Wp.zb | apply Wp.zc | apply Wp.zd | apply Wp.ze | apply Wp.zf rfl | apply Wp.zg rfl | ((apply Wp.zh; (repeat (apply Ex.zc; (simp (disch := omega) [-getElem?_pos, hl0]; rfl))); exact Ex.zn; rfl; (simp; rfl))))
  apply Wp.loop (α := Nat × zz6 × List TxD) (fun x => [(4, vp (H.next + 1)), (12, v0), (13, vi rows.length), (14, vi x.1)]) (·.2.1)
   (fun x => x.1 ≤ rows.length ∧ zqv [] 0 (rows.take x.1) = some x.2.2 ∧ (∃ tv M es clock tvs o, Bk x.2.1 H.next (H.next + 1) x.2.2 tv M es clock tvs o) ∧ (∀ A, A < H.next → x.2.1.get A = H.get A) ∧ zkx x.2.2 x.1) (fun x => rows.length - x.1)
   (0, (H.push (.map [] 0)).push (.row [some (0, [zxa, .map H.next, zzt false])]), []) rfl ⟨by omega, by simp [-getElem?_pos, zqv], ⟨_, _, _, _, _, _, hbk0⟩, fun A hA => by rw [zz6.zz9 _ _ (by simp; omega), zz6.zz9 _ _ (by omega)], by simp [-getElem?_pos], by simp [-getElem?_pos]⟩ (by simp; omega) (by simp)
  rintro ⟨j, H2, b⟩ ⟨hj, hst, ⟨tv, M, es, clock, tvs, o, hb⟩, hold, hsm⟩
  dsimp only at hj hst hb hold hsm ⊢
  (repeat (first | apply Wp.za | apply Wp.zb)); (apply Wp.zh; (repeat (apply Ex.zc; (simp (disch := omega) [-getElem?_pos]; rfl))); exact Ex.zn; rfl; (simp; rfl))
  (repeat (first | apply Wp.za | apply Wp.zb)); apply Wp.ite rfl
  ·intro hjl
   obtain ⟨r, hr⟩ : ∃ r, rows[j]? = some r := ⟨_, List.getElem?_eq_getElem (by omega)⟩
   obtain ⟨rc, hrc⟩ : ∃ rc, rcs[j]? = some rc := ⟨_, List.getElem?_eq_getElem (by omega)⟩
   obtain ⟨hR, sv, hS⟩ := hat j rc r hrc hr
   obtain ⟨R0, ver0, off, kc, ex, cells, hv0, hrow, hc1, hc2⟩ := hrd.at hrc
   rw [hlen] at hv0
   have hR0 := hlies _ _ _ _ _ _ _ hv0
   have hrow2 : H2.rowAt R0 ver0 = some cells := by rw [zzk, hold R0 hR0, ← zzk]; exact hrow
   have r5 := hR.len
   have rt : rc.take 41 = rc := List.take_of_length_le (by omega)
   obtain ⟨H3, hw1, g1, hcl, hn3⟩ := zx6 H2 (z := [zi, .raw (.int .u64 0), zi, .raw (.int .u64 0), zi, zb, zb, zb, zb, zb, zb, zb, zb, zb, zb, zb, zb, zb, zb, zb, zb, zb, zb, zb, zb, zb, zb, zb, zb, zb, zb, zb, zb, zb, zb, zb, zb, .raw (.int .u64 0), zi, zi, ns]) (e := rc) r5 (by omega) hR.one
   have hX := hcl.at
   have hb3 := hb.grow g1
   obtain ⟨H4, hc, ho⟩ := c67 E (i := j) n hins hb3 hR (hS.move fun A hA => by rw [g1.get A (by have := hb.hB; omega), hold A hA]) hsm (by omega) (by omega)
   apply Wp.zd
   cases hs : zx3 b j r with
   | some b' =>
    rw [hs] at ho
    obtain ⟨⟨tv', M', es', clock', tvs', o', hb'⟩, hN', hn'⟩ := ho
    have hB' := hb'.cells.at
    repeat (first | apply Wp.za | apply Wp.zb | apply Wp.zc | apply Wp.zd | apply Wp.ze | apply Wp.zf rfl | apply Wp.zg rfl | ((apply Wp.zh; (repeat (apply Ex.zc; (simp (disch := omega) [-getElem?_pos, hv0, hrow2, hc2, r5, rt, hw1, hX, hc, hB']; rfl))); exact Ex.zn; rfl; (simp; rfl))))
    exact ⟨(j + 1, H4, b'), rfl, ⟨by show j + 1 ≤ _; omega, by rw [zjz hr, hst]; exact hs, ⟨_, _, _, _, _, _, hb'⟩, fun A hA => by show H4.get A = _; rw [hN' A hA, g1.get A (by have := hb.hB; omega), hold A hA], zss hsm hs⟩, by show _ - (j + 1) < _ - j; omega, by simp [-getElem?_pos, hv0]⟩
   | none =>
    rw [hs] at ho
    obtain ⟨⟨qa, qc, hB'⟩, hN', hn'⟩ := ho
    have hB' := hB'.at
    repeat (first | apply Wp.za | apply Wp.zb | apply Wp.zc | apply Wp.zd | apply Wp.ze | apply Wp.zf rfl | apply Wp.zg rfl | ((apply Wp.zh; (repeat (apply Ex.zc; (simp (disch := omega) [-getElem?_pos, hv0, hrow2, hc2, r5, rt, hw1, hX, hc, hB']; rfl))); exact Ex.zn; rfl; (simp; rfl))))
    have hno : zmc rows = none := by unfold zmc; rw [zph (j := j + 1) (by rw [zjz hr, hst]; exact hs)]; rfl
    simp [-getElem?_pos, a33, hno, zlg]
    exact ⟨by have := hb.hB; have := g1.next; omega, fun A hA => by rw [hN' A hA, g1.get A (by have := hb.hB; omega), hold A hA]⟩
  ·intro hjl
   apply Wp.ze
   have : rows.take j = rows := List.take_of_length_le (by omega)
   rw [this] at hst
   have ht : zmc rows = some (b.map zcl) := by unfold zmc; rw [hst]; rfl
   rw [ht]
   have he : zw3 zck b (zzj b) = b.map zcl := yzu zck b
   have hB := hb.hB
   obtain ⟨v, H1, hres, hg2, hlv, hat⟩ := ztw H2 (es.map fun e => zvl e.2.1)
   have h68 : zzp kn env (n + 5) (.func (.func 68) []) [vp (H.next + 1)] H2 = some (v, H1) := knM (n + 4) (by rw [List.append_nil, E.live, hb.live, hres])
   rw [hb.ok.live] at hat
   have hlen : (es.map fun e => zvl e.2.1).length = (zzj b).length := by rw [← zvz, hb.ok.live, List.length_map]
   rw [hlen] at hlv hat
   have hl8 : (zzj b).length ≤ 8 := by rw [← hlen, List.length_map]; exact hb.ok.len
   have hb2 := hb.grow hg2
   have hn1 := hg2.next
   repeat (first | apply Wp.za | apply Wp.zb | apply Wp.zc | apply Wp.zd | apply Wp.ze | apply Wp.zf rfl | apply Wp.zg rfl | ((apply Wp.zh; (repeat (apply Ex.zc; (simp (disch := omega) [-getElem?_pos, h68, hlv]; rfl))); exact Ex.zn; rfl; (simp; rfl))))
   apply Wp.loop (α := Nat × zz6 × List (List AVal)) (fun x => [(4, vp (H.next + 1)), (29, v), (30, vi (zzj b).length), (31, vi x.1)]) (·.2.1)
    (fun x => x.1 ≤ (zzj b).length ∧ Bk x.2.1 H.next (H.next + 1) (zw3 zck b ((zzj b).take x.1)) tv M es clock x.2.2 o ∧ x.2.1.next = H1.next ∧ (∀ A, H2.next ≤ A → x.2.1.get A = H1.get A) ∧ ∀ A, A < H.next → x.2.1.get A = H1.get A) (fun x => (zzj b).length - x.1) (0, H1, tvs) rfl ⟨by omega, hb2, rfl, fun _ _ => rfl, fun _ _ => rfl⟩ (by simp; omega) (by simp)
   rintro ⟨j, H5, tvs5⟩ ⟨hj, hbk, hnx, hfr, hNk⟩
   dsimp only at hj hbk hnx hfr hNk ⊢
   (repeat (first | apply Wp.za | apply Wp.zb)); (apply Wp.zh; (repeat (apply Ex.zc; (simp (disch := omega) [-getElem?_pos]; rfl))); exact Ex.zn; rfl; (simp; rfl))
   (repeat (first | apply Wp.za | apply Wp.zb)); apply Wp.ite rfl
   ·intro hjl
    obtain ⟨z, hz⟩ : ∃ z, (zzj b)[j]? = some z := ⟨_, List.getElem?_eq_getElem (by omega)⟩
    obtain ⟨x, hx, hon⟩ := zxd.1 (List.mem_of_getElem? hz)
    obtain ⟨R1, ver1, cells1, hv, hR1, hR1n, hrow1, hc1, hcell1⟩ := hat j z (by rw [List.getElem?_map, hz]; rfl)
    have hrow1' : H5.rowAt R1 ver1 = some cells1 := by rw [zzk, hfr R1 (by omega), ← zzk]; exact hrow1
    have hx2 : (zw3 zck b ((zzj b).take j))[z]? = some x := by rw [zek hz, hx]
    have hbl : (zw3 zck b ((zzj b).take j)).length = b.length := zgt _ _ _
    have hkl := (List.getElem?_eq_some_iff.1 hx).1
    obtain ⟨R, ver, H6, htv, hw6, hn6, ⟨tvs6, hb6⟩, hN6, hR6⟩ := hbk.num (f := 11) (y := vi 1) (x' := { x with fate := 1 }) hx2 (by omega) rfl (fun _ _ _ => by simp [-getElem?_pos, txc]) ⟨rfl, rfl, rfl⟩ rfl rfl
    rw [hbl] at htv
    have hRH : R < H2.next := by
     obtain ⟨R', ver', _, _, _, _, e, _, h, _⟩ := hb.tx hx
     rw [htv] at e; cases e; exact h
    have hx6 : ((zw3 zck b ((zzj b).take j)).set z { x with fate := 1 })[z]? = some { x with fate := 1 } := List.getElem?_set_self (by rw [hbl]; omega)
    obtain ⟨R', ver', cells, sv, rv, wv, htv', _, _, _, hrow, hlen2, hcell, _, _⟩ := hb6.tx hx6
    rw [List.length_set, hbl, htv] at htv'; cases htv'
    have g8 := hcell 8 (by omega)
    simp only [txc, List.getElem?_cons_succ, List.getElem?_cons_zero] at g8
    have hB1 := hbk.cells.at
    have hB6 := hb6.cells.at
    rw [htv] at hB1 hB6
    have hrow6 : H6.rowAt R1 ver1 = some cells1 := by rw [zzk, hR6 R1 (by omega), ← zzk]; exact hrow1'
    apply Wp.zd
    by_cases hcm : 0 ≤ x.commit
    ·obtain ⟨R', ver', H7, htv', hw7, hn7, ⟨tvs7, hb7⟩, hN7, hR7⟩ := hb6.num (f := 11) (y := vi 4) (x' := { x with fate := 4 }) hx6 (by omega) rfl (fun _ _ _ => by simp [-getElem?_pos, txc]) ⟨rfl, rfl, rfl⟩ rfl rfl
     rw [List.length_set, hbl, htv] at htv'; cases htv'
     rw [List.set_set] at hb7
     have hsx : zck x = { x with fate := 4 } := by unfold zck; rw [if_pos hcm]
     have hB7 := hb7.cells.at
     rw [htv] at hB7
     repeat (first | apply Wp.za | apply Wp.zb | apply Wp.zc | apply Wp.zd | apply Wp.ze | apply Wp.zf rfl | apply Wp.zg rfl | ((apply Wp.zh; (repeat (apply Ex.zc; (simp (disch := omega) [-getElem?_pos, hv, hrow1', hcell1, hB1, hw6, hB6, hrow, g8, hw7]; rfl))); exact Ex.zn; rfl; (simp; rfl))))
     exact ⟨(j + 1, H7, tvs7), rfl, ⟨by show j + 1 ≤ _; omega, by show Bk H7 _ _ (zw3 zck b ((zzj b).take (j + 1))) _ _ _ _ _ _; rw [zna hz]; unfold zjb; rw [hx2]; simp only [hsx]; exact hb7, by show H7.next = _; omega, fun A hA => by show H7.get A = _; rw [hR7 A (by omega), hR6 A (by omega), hfr A hA], fun A hA => by show H7.get A = _; rw [hN7 A hA, hN6 A hA, hNk A hA]⟩, by show _ - (j + 1) < _ - j; omega, by simp [-getElem?_pos, hv]⟩
    ·have hsx : zck x = { x with fate := 1 } := by unfold zck; rw [if_neg hcm]
     repeat (first | apply Wp.za | apply Wp.zb | apply Wp.zc | apply Wp.zd | apply Wp.ze | apply Wp.zf rfl | apply Wp.zg rfl | ((apply Wp.zh; (repeat (apply Ex.zc; (simp (disch := omega) [-getElem?_pos, hv, hrow1', hcell1, hB1, hw6, hB6, hrow, g8]; rfl))); exact Ex.zn; rfl; (simp; rfl))))
     exact ⟨(j + 1, H6, tvs6), rfl, ⟨by show j + 1 ≤ _; omega, by show Bk H6 _ _ (zw3 zck b ((zzj b).take (j + 1))) _ _ _ _ _ _; rw [zna hz]; unfold zjb; rw [hx2]; simp only [hsx]; exact hb6, by show H6.next = _; omega, fun A hA => by show H6.get A = _; rw [hR6 A (by omega), hfr A hA], fun A hA => by show H6.get A = _; rw [hN6 A hA, hNk A hA]⟩, by show _ - (j + 1) < _ - j; omega, by simp [-getElem?_pos, hv]⟩
   ·intro hjl
    apply Wp.ze
    have : (zzj b).take j = zzj b := List.take_of_length_le (by omega)
    rw [this, he] at hbk
    have hB1 := hbk.cells.at
    repeat (first | apply Wp.za | apply Wp.zb | apply Wp.zc | apply Wp.zd | apply Wp.ze | apply Wp.zf rfl | apply Wp.zg rfl | ((apply Wp.zh; (repeat (apply Ex.zc; (simp (disch := omega) [-getElem?_pos, hB1]; rfl))); exact Ex.zn; rfl; (simp; rfl))))
    simp [-getElem?_pos, a33]
    exact ⟨⟨by omega, fun A hA => by rw [hNk A hA, hg2.get A (by omega), hold A hA]⟩, tv, tvs5, o, rfl, hbk.txs, hbk.txsL, hbk.each⟩)
 exact ⟨v, H', h1, h2, h3⟩
end
end Go.Proofs.Ythbjfkkjmecaaaa
