/- The abstract machine, part 41: slices whose room is not yw0: their capacity learned at a call's door, the outcome told without it. -/
import Derived.Test.YthbjfkkjmecaaaaY18
import Derived.Test.YthbjfkkjmecaaaaProg
import Derived.Lib.Overlaps
set_option linter.unusedVariables false
set_option linter.unusedSimpArgs false
namespace Go.Vm
open Go
variable {P : Program} {B : Base} {ρ ρ' : Ren} {H H' H2 H0 : zz6} {w w' w0 : World}
theorem HRel.congr (h : HRel P B ρ H w) (hg : ∀ A, H2.get A = H.get A) (hn : H.next ≤ H2.next) : HRel P B ρ H2 w := by
 have hro : ∀ A, isRo H2 A ↔ isRo H A := fun A => by unfold isRo; rw [hg]
 exact ⟨h.le, fun A v q => h.fresh A v (by omega), fun A q => by rw [hg]; exact h.wf A (by omega), fun A v l q => by rw [hg]; exact h.dom A v l q, fun A o q => h.obj A o (by rw [← hg]; exact q), fun A1 A2 v1 v2 l1 l2 e1 e2 e3 => by rw [hro, hro]; exact h.sep A1 A2 v1 v2 l1 l2 e1 e2 e3,
  fun A v l e r => h.own A v l e (by rw [← hro]; exact r), h.lt, h.size, h.frame, h.side, fun A v l r e => h.ro A v l (by rw [← hro]; exact r) e⟩
theorem HRel.reRow2 (h : HRel P B ρ H w) {A : Nat} {vs vs' : zuq} (hg : H.get A = some (.row vs)) (hle : ρ.le ρ') (hρ : ∀ X v, X ≠ A → ρ' X v = ρ X v)
  (hloc : ∀ v x, ρ' A v = some x → (∃ v0 x0, ρ A v0 = some x0 ∧ x0.c = x.c) ∨ ((∀ X v y, ρ X v = some y → y.c ≠ x.c) ∧ (B.own x.c ∨ B.w.heap.size ≤ x.c))) (hlt : ∀ v x, ρ' A v = some x → x.c < w.heap.size) (hrel : zv3 ρ' w A vs') : HRel P B ρ' (H.set A (.row vs')) w := by
 have hro : ∀ X, isRo (H.set A (.row vs')) X ↔ isRo H X := fun X => by
  unfold isRo
  by_cases e : X = A
  ·subst e; rw [zz6.zzy, hg]; simp
  ·rw [zz6.zzz _ _ e]
 have hA : ¬ isRo H A := by rintro ⟨x, hx⟩; rw [hg] at hx; cases hx
 have hAlt : A < H.next := by
  rcases Nat.lt_or_ge A H.next with h1 | h1
  ·exact h1
  ·rw [h.wf A h1] at hg; cases hg
 refine ⟨Ren.le_trans h.le hle, fun X v hX => ?_, fun X hX => ?_, fun X v x hx => ?_, fun X o' hX => ?_, fun A1 A2 v1 v2 l1 l2 e1 e2 e3 => ?_, fun X v x hx hr => ?_, fun X v x hx => ?_, h.size, h.frame, h.side, fun X v x hr hx => ?_⟩
 ·have hX' : H.next ≤ X := hX
  rw [hρ X v (by omega)]; exact h.fresh X v hX
 ·have hX' : H.next ≤ X := hX
  rw [zz6.zzz _ _ (by omega)]; exact h.wf X hX
 ·by_cases e : X = A
  ·subst e; exact ⟨_, zz6.zzy _ _ _⟩
  ·rw [zz6.zzz _ _ e]; exact h.dom X v x (by rw [← hρ X v e]; exact hx)
 ·by_cases e : X = A
  ·subst e; rw [zz6.zzy] at hX; cases hX; exact hrel
  ·rw [zz6.zzz _ _ e] at hX
   exact (h.obj X o' hX).keep hle (fun v => hρ X v e) (fun v x hx => rfl)
 ·rw [hro, hro]
  have old : ∀ X v x, X ≠ A → ρ' X v = some x → ρ X v = some x := fun X v x e hx => by rw [← hρ X v e]; exact hx
  have cross : ∀ X v v' x y, X ≠ A → ρ' X v = some x → ρ' A v' = some y → x.c ≠ y.c := fun X v v' x y e hx hy hc => by
   have hx' := old X v x e hx
   rcases hloc v' y hy with ⟨v0, x0, h1, h2⟩ | ⟨h1, _⟩
   ·rcases h.sep X A v v0 x x0 hx' h1 (by rw [h2]; exact hc) with h3 | h3
    ·exact e h3
    ·exact hA h3.2
   ·exact h1 X v x hx' hc
  by_cases a : A1 = A <;> by_cases b : A2 = A
  ·left; rw [a, b]
  ·subst a; exact absurd e3.symm (cross A2 v2 v1 l2 l1 b e2 e1)
  ·subst b; exact absurd e3 (cross A1 v1 v2 l1 l2 a e1 e2)
  ·exact h.sep A1 A2 v1 v2 l1 l2 (old _ _ _ a e1) (old _ _ _ b e2) e3
 ·rw [hro] at hr
  by_cases e : X = A
  ·subst e
   rcases hloc v x hx with ⟨v0, x0, h1, h2⟩ | ⟨_, h1⟩
   ·rw [← h2]; exact h.own X v0 x0 h1 hA
   ·exact h1
  ·exact h.own X v x (by rw [← hρ X v e]; exact hx) hr
 ·by_cases e : X = A
  ·subst e; exact hlt v x hx
  ·exact h.lt X v x (by rw [← hρ X v e]; exact hx)
 ·rw [hro] at hr
  by_cases e : X = A
  ·subst e; exact (hA hr).elim
  ·exact h.ro X v x hr (by rw [← hρ X v e]; exact hx)
theorem zyd.raws {arr : Array Value} {s : Nat} {l : List AVal} (h : zyd ρ arr s l) (hr : ∀ x ∈ l, ∃ y, x = .raw y) : zyd ρ' arr s l := fun i v hv => by
 obtain ⟨cv, h1, h2⟩ := h i v hv
 obtain ⟨y, rfl⟩ := hr v (List.mem_of_getElem? hv)
 exact ⟨cv, h1, by rw [h2.raw_inv]; exact .raw _⟩
abbrev zjg (n : Nat) (out : List AVal) : zuq := List.replicate n none ++ [some (0, out)]
theorem zja {n : Nat} {out : List AVal} {v rel : Nat} {cells : List AVal} (h : (zjg n out)[v]? = some (some (rel, cells))) : v = n ∧ rel = 0 ∧ cells = out := by
 rw [List.getElem?_append] at h
 split at h
 ·rename_i hv
  rw [List.length_replicate] at hv
  rw [List.getElem?_replicate, if_pos hv] at h; cases h
 ·rename_i hv
  rw [List.length_replicate] at h hv
  have : v = n := by
   have := (List.getElem?_eq_some_iff.1 h).1
   simp at this; omega
  subst this
  simp at h
  exact ⟨rfl, h.1.symm, h.2.symm⟩
theorem zv3.last {A : Nat} {vs : zuq} {out : List AVal} {l : Loc} (h : zv3 ρ w A vs) (hl : zfp w l) (hr : zr8 (ρ.put A vs.length l) w l out) : zv3 (ρ.put A vs.length l) w A (zjg vs.length out) := by
 obtain ⟨h1, h2, h3, h4⟩ := h
 refine ⟨fun v hv => ?_, fun v hv => ?_, fun v rel cells x e1 e2 => ?_, fun v1 v2 r1 r2 c1 c2 l1 l2 e1 e2 e3 e4 hc => ?_⟩
 ·simp at hv
  rw [Ren.put_ne _ _ (by omega)]; exact h1 v (by omega)
 ·simp at hv
  by_cases e : v = vs.length
  ·subst e; exact ⟨l, Ren.put_same _ _ _ _, hl⟩
  ·rw [Ren.put_ne _ _ (by omega)]; exact h2 v (by omega)
 ·obtain ⟨rfl, rfl, rfl⟩ := zja e1
  rw [Ren.put_same] at e2; cases e2
  exact hr
 ·obtain ⟨rfl, rfl, rfl⟩ := zja e1
  obtain ⟨rfl, rfl, rfl⟩ := zja e2
  rw [e3] at e4; cases e4; rfl
def yks (H : zz6) (A ver nv esz m : Nat) (out : List AVal) (Hc : zz6) (cap : Nat) (v' : AVal) (H' : zz6) : Prop :=
 (∃ vs' cells', v' = .slice A ver 0 m cap true esz ∧ m ≤ cap ∧ 0 < m ∧ H'.next = H.next ∧ (∀ Y, Y ≠ A → H'.get Y = H.get Y) ∧ H'.get A = some (.row vs') ∧ vs'.length = nv ∧ vs'[ver]? = some (some (0, cells')) ∧ cells'.take out.length = out ∧ out.length ≤ cells'.length) ∨
 (v' = .slice H.next 0 0 m m false esz ∧ 0 < m ∧ H'.next = H.next + 1 ∧ (∀ Y, Y < H.next → H'.get Y = Hc.get Y) ∧ H'.get H.next = some (.row [some (0, out)]))
theorem zyp.sized {f A ver n esz m : Nat} {args : List AVal} {vs : zuq} {cells out : List AVal} (hg : H.get A = some (.row vs)) (hv : vs[ver]? = some (some (0, cells))) (hl : cells.length = n * esz) (hn : 0 < n) (hraw : ∀ x ∈ out, ∃ y, x = .raw y)
  (hrun : ∀ cap junk, n ≤ cap → junk.length = (cap - n) * esz → zyp P f (.slice A ver 0 n cap true esz :: args) (H.set A (.row (vs.set ver (some (0, cells ++ junk))))) (yks H A ver vs.length esz m out (H.set A (.row (vs.set ver (some (0, cells ++ junk))))) cap)) :
  zyp P f (.slice A ver 0 n n false esz :: args) H fun v' H' => v' = .slice A vs.length 0 m m false esz ∧ H' = (H.up 1).set A (.row (zjg vs.length out)) := by
 intro B ρ w cargs hH hargs
 have hverlt := (List.getElem?_eq_some_iff.1 hv).1
 have hAlt : A < H.next := by
  rcases Nat.lt_or_ge A H.next with h1 | h1
  ·exact h1
  ·rw [hH.wf A h1] at hg; cases hg
 cases hargs with
 | @cons _ _ c cs hx hxs =>
 obtain ⟨l, a, cap, hlv, rfl, hk, _, _, ⟨ha, hfit⟩ | ⟨h0, _⟩⟩ := hx.slice_inv
 case inr => omega
 obtain ⟨g1, g2, g3, g4⟩ := hH.obj A _ hg
 obtain ⟨arr, e, fz, harr, hsz, hca⟩ := g3 ver 0 cells l hv hlv
 -- what lies behind
 obtain ⟨junk, hj⟩ : ∃ junk, junk = ((arr.toList.drop (l.s + n * esz)).take ((cap - n) * esz)).map AVal.raw := ⟨_, rfl⟩
 have hmul : n * esz + (cap - n) * esz = cap * esz := by rw [← Nat.add_mul]; congr 1; omega
 have hjl : junk.length = (cap - n) * esz := by
  rw [hj]; simp; omega
 have hca2 : zyd ρ arr l.s (cells ++ junk) := by
  refine zyd.append hca fun i v hv => ?_
  rw [hj, List.getElem?_map] at hv
  obtain ⟨cv, h1, h2⟩ := Option.map_eq_some_iff.1 hv
  subst h2
  rw [List.getElem?_take] at h1
  split at h1
  ·rw [List.getElem?_drop, Array.getElem?_toList] at h1
   exact ⟨cv, by rw [← h1, hl], .raw _⟩
  ·cases h1
 have hlearn : HRel P B ρ (H.set A (.row (vs.set ver (some (0, cells ++ junk))))) w := by
  refine hH.reRow2 hg (Ren.le_refl _) (fun _ _ _ => rfl) (fun v x hx => .inl ⟨v, x, hx, rfl⟩) (fun v x hx => hH.lt A v x hx) ⟨fun v hv => g1 v (by simpa using hv), fun v hv => g2 v (by simpa using hv), fun v rel cs x e1 e2 => ?_, fun v1 v2 r1 r2 c1 c2 l1 l2 e1 e2 f1 f2 hc => ?_⟩
  ·rw [List.getElem?_set] at e1
   split at e1
   ·rename_i e; subst e
    simp [hverlt] at e1
    obtain ⟨rfl, rfl⟩ := e1
    rw [hlv] at e2; cases e2
    exact ⟨arr, e, fz, harr, hsz, hca2⟩
   ·exact g3 v rel cs x e1 e2
  ·have key : ∀ (v r : Nat) (c : List AVal), (vs.set ver (some (0, cells ++ junk)))[v]? = some (some (r, c)) → ∃ c', vs[v]? = some (some (r, c')) := fun v r c e1 => by
    rw [List.getElem?_set] at e1
    split at e1
    ·rename_i e; subst e
     simp [hverlt] at e1
     exact ⟨cells, by rw [hv, e1.1]⟩
    ·exact ⟨c, e1⟩
   obtain ⟨c1', e1'⟩ := key _ _ _ e1
   obtain ⟨c2', e2'⟩ := key _ _ _ e2
   exact g4 v1 v2 r1 r2 c1' c2' l1 l2 e1' e2' f1 f2 hc
 have hexact : VRel ρ (.slice A ver 0 n cap true esz) (.slice (some a) n cap) := by
  rw [ha]; exact .slice hlv (Nat.le_refl _) hk (fun _ => rfl) hfit
 refine (hrun cap junk hk hjl B ρ w (.slice (some a) n cap :: cs) hlearn (.cons hexact hxs)).mono fun e w' ⟨v, cv, H', ρ', e1, e2, e3, e4, e5⟩ => ?_
 rcases e2 with ⟨vs', cells', rfl, hm, hm0, hnx, hoth, hgA, hvl, hvc, hout, hol⟩ | ⟨rfl, hm0, hnx, hold, hgN⟩
 ·-- in place
  obtain ⟨l', a', cap', hl', rfl, hk', _, hex, ⟨ha', hfit'⟩ | ⟨h0, _⟩⟩ := e3.slice_inv
  case inr => omega
  have := hex rfl
  subst this
  obtain ⟨q1, q2, q3, q4⟩ := e4.obj A _ hgA
  obtain ⟨arr', e', fz', harr', hsz', hca'⟩ := q3 ver 0 cells' l' hvc hl'
  obtain ⟨l2, hl2, hwr⟩ := q2 ver (by rw [hvl]; exact hverlt)
  rw [hl'] at hl2; cases hl2
  have hnone : ρ' A vs.length = none := q1 _ (by rw [hvl]; exact Nat.le_refl _)
  have hle := Ren.put_le (l := l') hnone
  have hrow : zv3 (ρ'.put A vs'.length l') w' A (zjg vs'.length out) := zv3.last ⟨q1, q2, q3, q4⟩ hwr ⟨arr', e', fz', harr', hsz', fun i v hv => by
   have hi := (List.getElem?_eq_some_iff.1 hv).1
   have : cells'[i]? = some v := by rw [← hout, List.getElem?_take, if_pos hi] at hv; exact hv
   obtain ⟨cv, p1, p2⟩ := hca' i v this
   exact ⟨cv, p1, p2.mono (by rw [hvl]; exact hle)⟩⟩
  rw [hvl] at hrow
  have hfin := e4.reRow2 (ρ' := ρ'.put A vs.length l') hgA hle (fun X v e => Ren.put_ne _ _ (by omega)) (fun v x hx => by
   by_cases ev : v = vs.length
   ·subst ev; rw [Ren.put_same] at hx; cases hx; exact .inl ⟨ver, l', hl', rfl⟩
   ·rw [Ren.put_ne _ _ (by omega)] at hx; exact .inl ⟨v, x, hx, rfl⟩) (fun v x hx => by
   by_cases ev : v = vs.length
   ·subst ev; rw [Ren.put_same] at hx; cases hx; exact e4.lt A ver l' hl'
   ·rw [Ren.put_ne _ _ (by omega)] at hx; exact e4.lt A v x hx) hrow
  refine ⟨_, _, _, _, e1, ⟨rfl, rfl⟩, ?_, hfin.congr (fun Y => ?_) (by simp; omega), Ren.le_trans e5 hle⟩
  ·rw [ha']
   exact .slice (Ren.put_same _ _ _ _) hm (Nat.le_refl _) (fun h => by cases h) hfit'
  ·by_cases e : Y = A
   ·subst e; rw [zz6.zzy, zz6.zzy]
   ·rw [zz6.zzz _ _ e, zz6.zzz _ _ e, hoth Y e]; rfl
 ·-- in a new block
  obtain ⟨l', a', cap', hl', rfl, hk', _, _, ⟨ha', hfit'⟩ | ⟨h0, _⟩⟩ := e3.slice_inv
  case inr => omega
  obtain ⟨q1, q2, q3, q4⟩ := e4.obj _ _ hgN
  obtain ⟨arr', e', fz', harr', hsz', hca'⟩ := q3 0 0 out l' rfl hl'
  obtain ⟨l2, hl2, hwr⟩ := q2 0 (by simp)
  rw [hl'] at hl2; cases hl2
  have hNro : ¬ isRo H' H.next := by rintro ⟨x, hx⟩; rw [hgN] at hx; cases hx
  obtain ⟨honly, hole⟩ := HRel.only (H2 := (H.set A (.row (vs.set ver (some (0, cells ++ junk))))).up 1) hlearn e4 e5 hold (fun Y => decide (Y < H.next)) (fun Y hY => by simpa using hY) (fun Y o hY hK _ => by simp at hK; simp at hY; omega) (fun Y hY => by
   simp at hY; rw [hold Y hY]; rfl) (fun Y hY => by simp at hY; exact hlearn.wf Y hY) (by simp [hnx]) (by simp [hnx])
  have hgA2 : ((H.set A (.row (vs.set ver (some (0, cells ++ junk))))).up 1).get A = some (.row (vs.set ver (some (0, cells ++ junk)))) := zz6.zzy _ _ _
  have hrow0 := honly.obj A _ hgA2
  have hnone : ρ'.only (fun Y => decide (Y < H.next)) A vs.length = none := hrow0.1 _ (by simp)
  have hle := Ren.put_le (l := l') hnone
  have hrow : zv3 ((ρ'.only fun Y => decide (Y < H.next)).put A (vs.set ver (some (0, cells ++ junk))).length l') w' A (zjg (vs.set ver (some (0, cells ++ junk))).length out) := zv3.last hrow0 hwr ⟨arr', e', fz', harr', hsz', hca'.raws hraw⟩
  rw [List.length_set] at hrow
  have hfin := honly.reRow2 (ρ' := (ρ'.only fun Y => decide (Y < H.next)).put A vs.length l') hgA2 hle (fun X v e => Ren.put_ne _ _ (by omega)) (fun v x hx => by
   by_cases ev : v = vs.length
   ·subst ev; rw [Ren.put_same] at hx; cases hx
    refine .inr ⟨fun X v y hy hc => ?_, e4.own _ _ _ hl' hNro⟩
    obtain ⟨k1, k2⟩ := Ren.only_some hy
    simp at k1
    rcases e4.sep X H.next v 0 y l' k2 hl' hc with q | ⟨_, q⟩
    ·omega
    ·exact hNro q
   ·rw [Ren.put_ne _ _ (by omega)] at hx; exact .inl ⟨v, x, hx, rfl⟩) (fun v x hx => by
   by_cases ev : v = vs.length
   ·subst ev; rw [Ren.put_same] at hx; cases hx; exact e4.lt _ _ _ hl'
   ·rw [Ren.put_ne _ _ (by omega)] at hx; exact honly.lt A v x hx) hrow
  refine ⟨_, _, _, _, e1, ⟨rfl, rfl⟩, ?_, hfin.congr (fun Y => ?_) (by simp), Ren.le_trans hole hle⟩
  ·rw [ha']
   exact .slice (Ren.put_same _ _ _ _) hk' (Nat.le_refl _) (fun h => by cases h) hfit'
  ·by_cases e : Y = A
   ·subst e; rw [zz6.zzy, zz6.zzy]
   ·rw [zz6.zzz _ _ e, zz6.zzz _ _ e]
    show H.get Y = (H.set A _).get Y
    rw [zz6.zzz _ _ e]
end Go.Vm
namespace Go.Proofs.Ythbjfkkjmecaaaa
open Go Go.Vm
section
set_option maxRecDepth 20000
def a121 : zzq := ⟨(.seq (.region [qq 6 (.move (.c ns)) []]) (.seq (.region [zz8 10 0, zz8 11 1, qr 12 (.sliceS 33 (.t 10) (some (.t 11)) none none) [0,1] [10,11] .quiet]) (.seq (.region [zz8 13 2, zwu 14 13 [0], zzx 7 14 [1,0,1]]) (.seq (.seq (.region [zz8 15 7, qr 16 (.bin .eql (.t 15) ci) [0] [15] .quiet]) (.cond (.t 16) (.seq (.region [zz8 17 0, zzx 6 17 [0,0]]) .ret) .skip)) (.seq (.region [zz8 18 0, zwu 19 18 [0], zzx 8 19 [1,0,1]]) (.seq (.seq (.region [zz8 20 1, zz8 21 8, zyu 22 .eql 20 21 [0,1]]) (.cond (.t 22) (.seq (.region [zz8 23 0, zz8 24 2, zjm 25 33 40 23 24 [0,1], zzx 6 25 [2,2,0,1,2]]) .ret) .skip)) (.seq (.seq (.region [zz8 26 8, zz8 27 7, zyu 28 .add 26 27 [0,1], zz8 29 0, qr 30 (.cap (.t 29)) [3] [29] .any, zyu 31 .gtr 28 30 [2,4]]) (.cond (.t 31) (.seq (.region [zz8 32 0, zz8 33 1, qr 34 (.sliceS 33 (.t 32) none (some (.t 33)) none) [0,1] [32,33] .quiet, zz8 35 8, zz8 36 7, zyu 37 .add 35 36 [3,4], zz8 38 1, zyu 39 .sub 37 38 [5,6], qr 40 (.appendZ 33 40 zz3 (.t 34) (.t 39)) [2,7] [34,39] .any, zzx 9 40 [8,8,0,1,2,3,4,5,6,7,8]]) (.seq (.region [zz8 41 9, zz8 42 1, qr 43 (.sliceS 33 (.t 41) (some (.t 42)) none none) [0,1] [41,42] .quiet, zz8 44 2, qr 45 (.copy 33 (.t 43) (.t 44)) [2,3] [43,44] .any]) (.seq (.draw [zz8 46 9, zz8 47 1, zz8 48 7, zyu 49 .add 47 48 [1,2], qr 50 (.sliceS 33 (.t 46) (some (.t 49)) none none) [0,3] [46,49] .quiet, zz8 51 0, zz8 52 1, qr 53 (.sliceS 33 (.t 51) (some (.t 52)) none none) [5,6] [51,52] .quiet, qr 54 (.copy 33 (.t 50) (.t 53)) [4,7] [50,53] .any] [.mob 0, .mob 1, .mob 2, .mob 3, .mob 4, .mob 5, .mob 6, .mob 7, .imm 8 []] []) (.seq (.region [zz8 55 9, zzx 6 55 [0,0]]) .ret)))) .skip)) (.seq (.region [zz8 56 0, zz8 57 8, zz8 58 7, zyu 59 .add 57 58 [1,2], qr 60 (.sliceS 33 (.t 56) none (some (.t 59)) none) [0,3] [56,59] .quiet, zzx 0 60 [4,0,1,2,3,4]]) (.seq (.seq (.region [zz8 61 2, zz8 62 0, zz8 63 1, zz8 64 7, zyu 65 .add 63 64 [2,3], qr 66 (.sliceS 33 (.t 62) (some (.t 65)) none none) [1,4] [62,65] .quiet, zbm 67 136 61 66 [0,5], qr 68 (.un .not (.t 67)) [6] [67] .quiet]) (.cond (.t 68) (.seq (.draw [zz8 69 0, zz8 70 1, zz8 71 7, zyu 72 .add 70 71 [1,2], qr 73 (.sliceS 33 (.t 69) (some (.t 72)) none none) [0,3] [69,72] .quiet, zz8 74 0, zz8 75 1, qr 76 (.sliceS 33 (.t 74) (some (.t 75)) none none) [5,6] [74,75] .quiet, qr 77 (.copy 33 (.t 73) (.t 76)) [4,7] [73,76] .any] [.mob 0, .mob 1, .mob 2, .mob 3, .mob 4, .mob 5, .mob 6, .mob 7, .imm 8 []] []) (.seq (.region [zz8 78 0, zz8 79 1, qr 80 (.sliceS 33 (.t 78) (some (.t 79)) none none) [0,1] [78,79] .quiet, zz8 81 2, qr 82 (.copy 33 (.t 80) (.t 81)) [2,3] [80,81] .any]) (.seq (.region [zz8 83 0, zzx 6 83 [0,0]]) .ret))) .skip)) (.seq (.region [zz8 84 0, zz8 85 8, qr 86 (.sliceS 33 (.t 84) (some (.t 85)) none none) [0,1] [84,85] .quiet, zz8 87 2, qr 88 (.copy 33 (.t 86) (.t 87)) [2,3] [86,87] .any]) (.seq (.region [zz8 89 0, zz8 90 1, qr 91 (.sliceS 33 (.t 89) (some (.t 90)) none none) [0,1] [89,90] .quiet, zz8 92 7, zbm 93 137 91 92 [2,3]]) (.seq (.region [zz8 94 0, zzx 6 94 [0,0]]) .ret)))))))))))), 95, [.tmp 6]⟩
theorem e121 : zxf Try.prog 121 = some a121 := by kernel_rfl
end
section
variable {kn : zy0} {env : Nat → Option zzq}
open Classical in
noncomputable def yys (or : zzn) : zzn := fun fv args H => match fv, args with
 | .func (.func 136) [], [.slice X vx ox lx kx ex zx, .slice A va oa la ka ea za] => if lx ≠ 0 ∧ la ≠ 0 ∧ zx = 33 ∧ za = 33 ∧ X ≠ A ∧ (∃ vs, H.get X = some (.row vs)) ∧ (∃ vs, H.get A = some (.row vs)) then some (zzt false, H) else none
 | _, _ => or fv args H
theorem zh9 {w : World} {c : Nat} {arr : Array Value} {e : TypeId} {fz : Nat × Nat} (h : w.heap[c]? = some (.cells arr e fz)) : w.shape? c = some (e, arr.size) := by
 simp [-getElem?_pos, World.shape?, h]
theorem yv5 {or : zzn} (hor : zx8 Try.prog or) : zx8 Try.prog (yys or) := fun fv args H v H' h => by
 unfold yys at h
 split at h
 ·rename_i X vx ox lx kx ex zx A va oa la ka ea za
  split at h
  ·rename_i hc
   cases h
   obtain ⟨h1, h2, rfl, rfl, hne, ⟨vsX, hX⟩, ⟨vsA, hA⟩⟩ := hc
   intro B ρ w cf cargs hH hf hargs
   obtain ⟨vs, hvs, rfl⟩ := hf.func_inv
   cases hvs
   cases hargs with
   | @cons _ _ c1 cs1 hx hr =>
   cases hr with
   | @cons _ _ c2 cs2 ha hr =>
   cases hr
   obtain ⟨l1, a1, cap1, hl1, rfl, hk1, hn1, _, ⟨e1, f1⟩ | ⟨q, _⟩⟩ := hx.slice_inv
   case inr => exact absurd q h1
   obtain ⟨l2, a2, cap2, hl2, rfl, hk2, hn2, _, ⟨e2, f2⟩ | ⟨q, _⟩⟩ := ha.slice_inv
   case inr => exact absurd q h2
   obtain ⟨p1, p2, _⟩ := hH.obj X _ hX
   obtain ⟨p3, p4, _⟩ := hH.obj A _ hA
   have hvx : vx < vsX.length := by
    rcases Nat.lt_or_ge vx vsX.length with q | q
    ·exact q
    ·rw [p1 vx q] at hl1; cases hl1
   have hva : va < vsA.length := by
    rcases Nat.lt_or_ge va vsA.length with q | q
    ·exact q
    ·rw [p3 va q] at hl2; cases hl2
   obtain ⟨l1', q1, ykr, el1, fz1, w1, s1, nf1⟩ := p2 vx hvx
   rw [hl1] at q1; cases q1
   obtain ⟨l2', q2, ywy, el2, fz2, w2, s2, nf2⟩ := p4 va hva
   rw [hl2] at q2; cases q2
   have hblock : l1.c ≠ l2.c := fun e => by
    rcases hH.sep X A vx va l1 l2 hl1 hl2 e with q | ⟨⟨_, q⟩, _⟩
    ·exact hne q
    ·rw [hX] at q; cases q
   have hfz : ∀ i, i < l1.n + 1 → w.frozen? ⟨l1.c, i, none⟩ = false := fun i hi => by
    have hfr := Go.Vm.frozen_of_row w1 i; rw [hfr]
    have := nf1 i hi
    rw [Bool.and_eq_false_iff]
    simp only [decide_eq_false_iff_not]
    by_cases q : fz1.1 ≤ i
    ·exact .inr fun q2 => this ⟨q, q2⟩
    ·exact .inl q
   refine ⟨_, w, .value (.bool false), w, by simp [-getElem?_pos, Deferred.ofValue]; rfl, ?_, zzt false, .bool false, _, ρ, rfl, ⟨rfl, rfl⟩, .raw _, hH, Ren.le_refl _⟩
   simp only [invoke]
   subst e1; subst e2
   have hov := Lib.run_overlaps_apart (P := Try.prog) w 69 4 174 (by kernel_rfl) 33 (fun w => by kernel_rfl) ⟨l1.c, l1.s + ox, none⟩ ⟨l2.c, l2.s + oa, none⟩ lx cap1 la cap2 hblock _ _ _ _ (zh9 w1) (zh9 w2) (by omega) (hfz _ (by omega)) (by rw [s1]; exact hfz _ (by omega))
   have := run_callFunc_extern (P := Try.prog) (f := 136) (fn := Try.prog.funcs[136]!) (e := Extern.SlicesOverlaps.overlaps #[69, 69] #[4]) (by kernel_rfl) (by kernel_rfl) (by kernel_rfl) (by kernel_rfl) (by kernel_rfl) #[.slice (some ⟨l1.c, l1.s + ox, none⟩) lx cap1, .slice (some ⟨l2.c, l2.s + oa, none⟩) la cap2] w
   rw [hov] at this
   simpa [-getElem?_pos] using this
  ·cases h
 ·exact hor _ _ _ _ _ h
theorem ykl {or : zzn} (hgo : zk1 Try.prog or) : zk1 Try.prog (yys or) := fun g caps L H x h => by
 unfold yys at h
 split at h
 ·rename_i _ _ _ _ _ _ _ _ _ _ _ _ _ _ _ _ _ hargs
  cases hargs
 ·exact hgo g caps L H x h
end
section
variable {kn : zy0} {env : Nat → Option zzq}
variable {or : zzn} {k : Nat} {H H0 Hc : zz6} {A R ver n p X nv cap : Nat} {a b e junk : List AVal}
theorem RowW.refl {vs : zuq} {cells : List AVal} (h : H.get R = some (.row vs)) (h2 : vs[ver]? = some (some (0, cells))) : RowW H R ver vs.length cells H := ⟨⟨vs, h, rfl, h2⟩, rfl, fun _ _ => rfl⟩
theorem zmq {cells sc vals : List AVal} {off dl kc esz sl : Nat} {ex : Bool} {s : AVal} (hw : RowW H0 R ver nv cells H) (hl : zjl s = some sl) (hs : aCells H esz s = some sc) (hv : sc.take (min sl dl * esz) = vals) (h0 : 0 < vals.length) (hle : off + vals.length ≤ cells.length) (hone : vals.all AVal.one = true) :
  ∃ H', zdy H esz (.slice R ver off dl kc ex esz) s = some (zsk ((min sl dl : Nat) : Int), H') ∧ RowW H0 R ver nv (cells.take off ++ (vals ++ cells.drop (off + vals.length))) H' := by
 obtain ⟨H', h1, h2⟩ := hw.write h0 hle hone
 refine ⟨H', ?_, h2⟩
 have hne : ¬ min sl dl * esz = 0 := fun q => by rw [q] at hv; simp [-getElem?_pos] at hv; subst hv; simp [-getElem?_pos] at h0
 simp only [zdy, hl, hs, Option.bind_some]
 rw [show zjl (.slice R ver off dl kc ex esz) = some dl from rfl, Option.bind_some, if_neg hne, hv, h1]; rfl
theorem ykf (hrow : RowW Hc A ver nv (a ++ (b ++ junk)) Hc) (hx : Hc.rowAt X 0 = some e) (hgX : ∃ vs, Hc.get X = some (.row vs)) (hgA : ∃ vs, Hc.get A = some (.row vs)) (hAX : X ≠ A) (ha : a.length = p * 33) (hb : b.length = (n - p) * 33) (hp : p < n) (he : e.length = 33) (he1 : e.all AVal.one = true) (hb1 : b.all AVal.one = true)
  (hj : junk.length = (cap - n) * 33) (hcap : n < cap) (hn : n < 1000000000000) :
  Wp (yys or) k 95 [0, 1, 2, 6, 7, 8, 9, 16, 22, 31, 68] a121.code (argK 0 [.slice A ver 0 n cap true 33, vi p, .slice X 0 0 1 1 true 33], Hc) (EndK a121.res fun v H' => v = .slice A ver 0 (n + 1) cap true 33 ∧ ∃ rest, RowW Hc A ver nv (a ++ (e ++ (b ++ rest))) H') := by
 have hlc : (a ++ (b ++ junk)).length = cap * 33 := by simp; omega
 have hov : yys or (.func (.func 136) []) [.slice X 0 0 1 1 true 33, .slice A ver ((p + 1) * 33) (n - p) (cap - (p + 1)) true 33] Hc = some (zzt false, Hc) := by
  simp only [yys]
  rw [if_pos ⟨by omega, by omega, rfl, rfl, hAX, hgX, hgA⟩]
 have hd : (a ++ (b ++ junk)).drop (p * 33) = b ++ junk := by rw [← ha]; simp [-getElem?_pos]
 obtain ⟨H1, f1, w1⟩ := zmq (off := (p + 1) * 33) (dl := n - p) (kc := cap - (p + 1)) (ex := true) (esz := 33) (s := .slice A ver (p * 33) (n + 1 - p) (cap - p) true 33) (sl := n + 1 - p) (sc := (b ++ junk).take ((n + 1 - p) * 33)) (vals := b) hrow rfl (by
  simp only [aCells, hrow.at, Option.bind_some, hd, hlc]; rw [if_pos (by omega)]) (by
  rw [List.take_take, show min (min (n + 1 - p) (n - p) * 33) ((n + 1 - p) * 33) = b.length from by omega]; simp [-getElem?_pos]) (by omega) (by omega) hb1
 obtain ⟨H2, f2, w2⟩ := zmq (off := p * 33) (dl := n + 1 - p) (kc := cap - p) (ex := true) (esz := 33) (s := .slice X 0 0 1 1 true 33) (sl := 1) (sc := e) (vals := e) w1 rfl (by
  simp only [aCells]; rw [zzk, w1.other X hAX, ← zzk, hx]; simp [-getElem?_pos, he]; rw [← he]; simp [-getElem?_pos]) (by
  rw [show min 1 (n + 1 - p) * 33 = e.length from by omega]; simp [-getElem?_pos]) (by omega) (by simp; omega) he1
 have n1 : H1.next = Hc.next := w1.next
 have n2 : H2.next = Hc.next := w2.next
 repeat (first | apply Wp.za | apply Wp.zb | apply Wp.zc | apply Wp.zd | apply Wp.ze | apply Wp.zf rfl | apply Wp.zg rfl | ((apply Wp.zh; (repeat (apply Ex.zc; (simp (disch := omega) [-getElem?_pos, f1, f2, hov, zye, zxz, zy7, ywa, zyy]; rfl))); exact Ex.zn; rfl; (simp; rfl))) | ((apply Wp.zi; (repeat ((first | apply Dr.q rfl rfl | apply Dr.r rfl rfl | apply Dr.imm rfl); (simp (disch := omega) [-getElem?_pos, f1, f2, hov, zye, zxz, zy7, ywa, zyy]; rfl); (focus first | (simp; rfl) | (simp; done) | (simp; omega)))); exact Dr.nil; rfl; (simp (disch := omega) [-getElem?_pos, f1, f2, hov, zye, zxz, zy7, ywa, zyy]); (simp; rfl))))
 simp [-getElem?_pos, a121]
 refine ⟨(a ++ (b ++ junk)).drop ((p + 1) * 33 + b.length), ?_⟩
 have hT : ((a ++ (b ++ junk)).take ((p + 1) * 33)).length = (p + 1) * 33 := by rw [List.length_take]; omega
 have e1 : (List.take ((p + 1) * 33) (a ++ (b ++ junk)) ++ (b ++ List.drop ((p + 1) * 33 + b.length) (a ++ (b ++ junk)))).take (p * 33) = a := by
  rw [List.take_append_of_le_length (by omega), List.take_take, Nat.min_eq_left (by omega), ← ha, List.take_left']
  rfl
 have e2 : (List.take ((p + 1) * 33) (a ++ (b ++ junk)) ++ (b ++ List.drop ((p + 1) * 33 + b.length) (a ++ (b ++ junk)))).drop (p * 33 + e.length) = b ++ List.drop ((p + 1) * 33 + b.length) (a ++ (b ++ junk)) := by
  rw [List.drop_left']; rw [hT, he]; omega
 rw [e1, e2] at w2
 exact w2
abbrev zcq : List AVal := [zi, zb, zb, zb, zb, zb, zb, zb, zb, zb, zb, zb, zb, zb, zb, zb, zb, zb, zb, zb, zb, zb, zb, zb, zb, zb, zb, zb, zb, zb, zb, zb, zb]
theorem yqt (hrow : Hc.rowAt A ver = some (a ++ b)) (hx : Hc.rowAt X 0 = some e) (hXN : X < Hc.next) (hAN : A < Hc.next) (ha : a.length = p * 33) (hb : b.length = (n - p) * 33) (hp : p < n) (he : e.length = 33) (he1 : e.all AVal.one = true) (hb1 : b.all AVal.one = true) (hn : n < 1000000000000) :
  Wp (yys or) k 95 [0, 1, 2, 6, 7, 8, 9, 16, 22, 31, 68] a121.code (argK 0 [.slice A ver 0 n n true 33, vi p, .slice X 0 0 1 1 true 33], Hc) (EndK a121.res fun v H' => v = .slice Hc.next 0 0 (n + 1) (n + 1) false 33 ∧ RowW (Hc.push (.row [some (0, a ++ zx1 (n + 1 - p) zcq)])) Hc.next 0 1 (a ++ (e ++ b)) H') := by
 have hz : (zx1 (n + 1 - p) zcq).length = (n + 1 - p) * 33 := by rw [zkk]; rfl
 have f0 : zs3 Hc 33 40 zcq (.slice A ver 0 p n true 33) (.raw (.int .i64 ((n : Int) + 1 - p))) = some (.slice Hc.next 0 0 (n + 1) (n + 1) false 33, Hc.push (.row [some (0, a ++ zx1 (n + 1 - p) zcq)])) := by
  have q : ((n : Int) + 1 - p).toNat = n + 1 - p := by omega
  simp only [zs3, q, hrow, Option.bind_some, List.drop_zero, Nat.zero_add]
  rw [if_pos ⟨trivial, by omega, by omega, by omega, by omega, by omega⟩, if_pos (by simp; omega), List.take_left' ha, show p + (n + 1 - p) = n + 1 from by omega]
 obtain ⟨Hn, hHn⟩ : ∃ Hn, Hn = Hc.push (.row [some (0, a ++ zx1 (n + 1 - p) zcq)]) := ⟨_, rfl⟩
 rw [← hHn] at f0 ⊢
 have w0 : RowW Hn Hc.next 0 1 (a ++ zx1 (n + 1 - p) zcq) Hn := by
  have := RowW.refl (H := Hn) (R := Hc.next) (ver := 0) (vs := [some (0, a ++ zx1 (n + 1 - p) zcq)]) (cells := a ++ zx1 (n + 1 - p) zcq) (by rw [hHn]; exact zz6.zzl _ _) rfl
  exact this
 have n0 : Hn.next = Hc.next + 1 := by rw [hHn]; simp [-getElem?_pos]
 have g0 : ∀ Y v, Y < Hc.next → Hn.rowAt Y v = Hc.rowAt Y v := fun Y v hY => by rw [hHn, zzk, zz6.zz9 _ _ (by omega), zzk]
 obtain ⟨H1, f1, w1⟩ := zmq (off := p * 33) (dl := n + 1 - p) (kc := n + 1 - p) (ex := false) (esz := 33) (s := .slice X 0 0 1 1 true 33) (sl := 1) (sc := e) (vals := e) w0 rfl (by
  simp only [aCells]; rw [g0 X 0 hXN, hx]; simp [-getElem?_pos, he]; rw [← he]; simp [-getElem?_pos]) (by
  rw [show min 1 (n + 1 - p) * 33 = e.length from by omega]; simp [-getElem?_pos]) (by omega) (by simp only [List.length_append]; omega) he1
 have hd : (a ++ b).drop (p * 33) = b := by rw [← ha]; simp [-getElem?_pos]
 obtain ⟨H2, f2, w2⟩ := zmq (off := (p + 1) * 33) (dl := n - p) (kc := n - p) (ex := false) (esz := 33) (s := .slice A ver (p * 33) (n - p) (n - p) true 33) (sl := n - p) (sc := b) (vals := b) w1 rfl (by
  simp only [aCells]; rw [zzk, w1.other A (by omega), ← zzk, g0 A ver hAN, hrow, Option.bind_some, hd, if_pos (by simp; omega), ← hb, List.take_length]) (by
  rw [Nat.min_self, ← hb, List.take_length]) (by omega) (by simp; omega) hb1
 have n1 : H1.next = Hn.next := w1.next
 have n2 : H2.next = Hn.next := w2.next
 repeat (first | apply Wp.za | apply Wp.zb | apply Wp.zc | apply Wp.zd | apply Wp.ze | apply Wp.zf rfl | apply Wp.zg rfl | ((apply Wp.zh; (repeat (apply Ex.zc; (simp (disch := omega) [-getElem?_pos, f0, f1, f2, zye, zxz, zy7, ywa, zyy]; rfl))); exact Ex.zn; rfl; (simp; rfl))) | ((apply Wp.zi; (repeat ((first | apply Dr.q rfl rfl | apply Dr.r rfl rfl | apply Dr.imm rfl); (simp (disch := omega) [-getElem?_pos, f0, f1, f2, zye, zxz, zy7, ywa, zyy]; rfl); (focus first | (simp; rfl) | (simp; done) | (simp; omega)))); exact Dr.nil; rfl; (simp (disch := omega) [-getElem?_pos, f0, f1, f2, zye, zxz, zy7, ywa, zyy]); (simp; rfl))))
 simp [-getElem?_pos, a121]
 have e1 : (List.take (p * 33) (a ++ zx1 (n + 1 - p) zcq) ++ (e ++ List.drop (p * 33 + e.length) (a ++ zx1 (n + 1 - p) zcq))).take ((p + 1) * 33) = a ++ e := by
  rw [List.take_left' ha, ← List.append_assoc, List.take_left']; simp [-getElem?_pos]; omega
 have e2 : (List.take (p * 33) (a ++ zx1 (n + 1 - p) zcq) ++ (e ++ List.drop (p * 33 + e.length) (a ++ zx1 (n + 1 - p) zcq))).drop ((p + 1) * 33 + b.length) = [] := by
  rw [List.drop_eq_nil_iff]; simp [-getElem?_pos]; omega
 rw [e1, e2] at w2
 simpa [-getElem?_pos] using w2
end
section
variable {kn : zy0} {env : Nat → Option zzq}
variable {H : zz6} {A X ver n p : Nat} {a b e : List AVal} {vs : zuq}
def zcw : AVal → Bool
 | .raw v => v.oneCell'
 | _ => false
theorem zue {l : List AVal} (h : l.all zcw = true) : l.all AVal.one = true := by
 rw [List.all_eq_true] at h ⊢
 intro x hx
 have := h x hx
 cases x <;> simp_all [-getElem?_pos, zcw, AVal.one]
theorem zns {l : List AVal} (h : l.all zcw = true) : ∀ x ∈ l, ∃ y, x = .raw y := fun x hx => by
 have := List.all_eq_true.1 h x hx
 cases x <;> simp_all [-getElem?_pos, zcw]
theorem EndK.mono {res : List ARes} {R R' : AVal → zz6 → Prop} (h : ∀ v H, R v H → R' v H) : ∀ e s, EndK res R e s → EndK res R' e s := fun e s hq => by
 cases e with
 | normal => obtain ⟨vs, g1, g2⟩ := hq; exact ⟨vs, g1, h _ _ g2⟩
 | ret => obtain ⟨vs, g1, g2⟩ := hq; exact ⟨vs, g1, h _ _ g2⟩
 | _ => exact hq
theorem yx8 (henv : zjt Try.prog env) (hm : Try.prog.follows .mixedOrders = true) (h : env 121 = some a121) (hg : H.get A = some (.row vs)) (hv : vs[ver]? = some (some (0, a ++ b))) (ha : a.length = p * 33) (hb : b.length = (n - p) * 33) (hp : p < n) (hgX : ∃ vs, H.get X = some (.row vs)) (hx : H.rowAt X 0 = some e) (hAX : X ≠ A)
  (he : e.length = 33) (ha1 : a.all zcw = true) (hb1 : b.all zcw = true) (he1 : e.all zcw = true) (hn : n < 1000000000000) (hwf : ∀ Y, H.next ≤ Y → H.get Y = none) :
  zyp Try.prog 121 [.slice A ver 0 n n false 33, vi p, .slice X 0 0 1 1 true 33] H fun v' H' => v' = .slice A vs.length 0 (n + 1) (n + 1) false 33 ∧ H' = (H.up 1).set A (.row (zjg vs.length (a ++ (e ++ b)))) := by
 have hl : (a ++ b).length = n * 33 := by simp; omega
 have hverlt := (List.getElem?_eq_some_iff.1 hv).1
 have hor : zx8 Try.prog (yys fun _ _ _ => none) := yv5 fun fv args H v H' h => by cases h
 have hgo : zk1 Try.prog (yys fun _ _ _ => none) := ykl fun g caps L H x h => by cases h
 have hlt : ∀ {Y o}, H.get Y = some o → Y < H.next := fun {Y o} q => by
  rcases Nat.lt_or_ge Y H.next with q2 | q2
  ·exact q2
  ·rw [hwf Y q2] at q; cases q
 obtain ⟨vsX, hgX⟩ := hgX
 refine zyp.sized hg hv hl (by omega) (fun x hx => ?_) fun cap junk hcap hj => ?_
 ·rcases List.mem_append.1 hx with q | q
  ·exact zns ha1 x q
  ·rcases List.mem_append.1 q with q | q
   ·exact zns he1 x q
   ·exact zns hb1 x q
 obtain ⟨Hc, hHc⟩ : ∃ Hc, Hc = H.set A (.row (vs.set ver (some (0, a ++ b ++ junk)))) := ⟨_, rfl⟩
 rw [← hHc]
 have hgA : Hc.get A = some (.row (vs.set ver (some (0, a ++ b ++ junk)))) := by rw [hHc]; exact zz6.zzy _ _ _
 have hgXc : Hc.get X = some (.row vsX) := by rw [hHc, zz6.zzz _ _ hAX]; exact hgX
 have hxc : Hc.rowAt X 0 = some e := by rw [zzk, hgXc, ← hgX, ← zzk]; exact hx
 have hvc : (vs.set ver (some (0, a ++ b ++ junk)))[ver]? = some (some (0, a ++ (b ++ junk))) := by rw [List.getElem?_set_self hverlt, List.append_assoc]
 have hnx : Hc.next = H.next := by rw [hHc]; rfl
 by_cases hc : n < cap
 ·refine WpR.calls henv 95 [0, 1, 2, 6, 7, 8, 9, 16, 22, 31, 68] h rfl (by simp) (WpR.of (n := 0) hor hm hgo ((ykf (RowW.refl hgA hvc) hxc ⟨_, hgXc⟩ ⟨_, hgA⟩ hAX ha hb hp he (zue he1) (zue hb1) hj hc hn).mono (EndK.mono fun v H' ⟨hv', rest, hw⟩ => ?_)))
  obtain ⟨vs', q1, q2, q3⟩ := hw.row
  have hlo : (a ++ (e ++ b)).length = (n + 1) * 33 := by simp; omega
  refine .inl ⟨vs', _, hv', by omega, by omega, by rw [hw.next, hnx], fun Y hY => by rw [hw.other Y hY, hHc, zz6.zzz _ _ hY], q1, by simp [-getElem?_pos, q2], q3, ?_, by simp only [List.length_append]; omega⟩
  rw [show a ++ (e ++ (b ++ rest)) = (a ++ (e ++ b)) ++ rest from by simp [-getElem?_pos], List.take_left']
  rfl
 ·have hcn : cap = n := by omega
  subst hcn
  have hj0 : junk = [] := by
   rw [Nat.sub_self, Nat.zero_mul] at hj; exact List.length_eq_zero_iff.1 hj
  refine WpR.calls henv 95 [0, 1, 2, 6, 7, 8, 9, 16, 22, 31, 68] h rfl (by simp) (WpR.of (n := 0) hor hm hgo ((yqt (by rw [zzk, hgA]; simp only [rowOf, hvc]; rw [hj0, List.append_nil]) hxc (by rw [hnx]; exact hlt hgX) (by rw [hnx]; exact hlt hg) ha hb hp he (zue he1) (zue hb1) hn).mono (EndK.mono fun v H' ⟨hv', hw⟩ => ?_)))
  obtain ⟨vs', q1, q2, q3⟩ := hw.row
  have hvs' : vs' = [some (0, a ++ (e ++ b))] := by
   match vs', q2, q3 with
   | [x], _, q3 => simp [-getElem?_pos] at q3; rw [q3]
  subst hvs'
  rw [hnx] at hv' q1
  refine .inr ⟨hv', by omega, by rw [hw.next]; simp [-getElem?_pos, hnx], fun Y hY => ?_, q1⟩
  rw [hw.other Y (by omega), zz6.zz9 _ _ (by omega)]
def yx6 (H : zz6) (A ver n n' : Nat) (p : Int) (X : Nat) : Res := match H.get A with
 | some (.row vs) => match vs[ver]? with
  | some (some (0, cells)) => match H.get X with
   | some (.row _) => match H.rowAt X 0 with
    | some e => if n' = n ∧ 0 ≤ p ∧ p < n ∧ cells.length = n * 33 ∧ e.length = 33 ∧ X ≠ A ∧ n < 1000000000000 ∧ cells.all zcw = true ∧ e.all zcw = true then
     some (.slice A vs.length 0 (n + 1) (n + 1) false 33, (H.up 1).set A (.row (zjg vs.length (cells.take (p.toNat * 33) ++ (e ++ cells.drop (p.toNat * 33)))))) else none
    | none => none
   | _ => none
  | _ => none
 | _ => none
def zdl : zy0 := fun f args H => if f = 121 then match args with
 | [.slice A ver 0 n n' false 33, .raw (.int .i64 p), .slice X 0 0 1 1 true 33] => yx6 H A ver n n' p X
 | _ => none else none
theorem ywq (henv : zjt Try.prog env) (hm : Try.prog.follows .mixedOrders = true) (h : env 121 = some a121) : zw1 Try.prog zdl := fun f args H v H' hk => by
 unfold zdl at hk
 split at hk
 ·rename_i hf
  subst hf
  split at hk
  ·rename_i A ver n n' p X
   refine ⟨henv.go h, ?_⟩
   unfold yx6 at hk
   split at hk
   ·rename_i vs hg
    split at hk
    ·rename_i cells hv
     split at hk
     ·rename_i vsX hgX
      split at hk
      ·rename_i e hx
       split at hk
       ·rename_i hc
        obtain ⟨rfl, c4, c5, c6, c7, c8, c9, c10, c11⟩ := hc
        cases hk
        intro B ρ w cargs hH hargs
        obtain ⟨q, rfl⟩ : ∃ q : Nat, p = (q : Int) := ⟨p.toNat, by omega⟩
        rw [List.all_eq_true] at c10
        have := yx8 (n := n') (p := q) henv hm h hg (a := cells.take (q * 33)) (b := cells.drop (q * 33)) (by rw [List.take_append_drop]; exact hv) (by rw [List.length_take]; omega) (by rw [List.length_drop]; omega) (by omega) ⟨_, hgX⟩ hx c8 c7
         (by rw [List.all_eq_true]; exact fun x hx => c10 x (List.mem_of_mem_take hx)) (by rw [List.all_eq_true]; exact fun x hx => c10 x (List.mem_of_mem_drop hx)) c11 c9 hH.wf
        exact this B ρ w cargs hH hargs
       ·cases hk
      ·cases hk
     ·cases hk
    ·cases hk
   ·cases hk
  ·cases hk
 ·cases hk
end
section
variable {kn : zy0} {env : Nat → Option zzq}
variable {H H' : zz6} {N p X : Nat} {v : AVal} {es : List (List AVal)} {e : List AVal}
def yyb (or : zzn) : Prop := ∀ (H : zz6) (N : Nat) (v : AVal) (es : List (List AVal)) (p X : Nat) (e : List AVal), N ≤ H.next → zzw H N 33 v es → (∀ e ∈ es, e.all zcw = true) → p ≤ es.length → es.length < 1000000000000 → H.get X = some (.row [some (0, e)]) → X < H.next → (v.lies fun R => R ≠ X) → e.length = 33 → e.all zcw = true →
 ∃ v' H', or (.func (.func 121) []) [v, vi p, .slice X 0 0 1 1 true 33] H = some (v', H') ∧ zzw H' N 33 v' (es.take p ++ e :: es.drop p) ∧ H.next ≤ H'.next ∧ (∀ A, A < H.next → (v.lies fun R => R ≠ A) → H'.get A = H.get A) ∧ v'.one = true ∧ ∀ q : Nat → Prop, v.lies q → (∀ R, H.next ≤ R → q R) → v'.lies q
theorem zgc {q : AVal → Bool} {es : List (List AVal)} (h : ∀ e ∈ es, e.all q = true) : es.flatten.all q = true := by
 rw [List.all_eq_true]
 intro x hx
 obtain ⟨l, h1, h2⟩ := List.mem_flatten.1 hx
 exact List.all_eq_true.1 (h l h1) x h2
theorem ztt {es : List (List AVal)} {m : Nat} (k : Nat) (h : ∀ e ∈ es, e.length = m) : (es.drop k).flatten = es.flatten.drop (k * m) := by
 have h1 : es.flatten = (es.take k).flatten ++ (es.drop k).flatten := by rw [← List.flatten_append, List.take_append_drop]
 have h2 := zxb k h
 rw [h2] at h1
 have h3 : es.flatten = es.flatten.take (k * m) ++ es.flatten.drop (k * m) := (List.take_append_drop _ _).symm
 exact (List.append_cancel_left (h1.symm.trans h3))
theorem yva (he : env 121 = some a121) (hk : ∀ args H, kn 121 args H = zdl 121 args H) (n : Nat) : yyb (zzp kn env (n + 1)) := fun H N v es p X e hN hs hes hp hl hX hXn hv hel he1 => by
 have hx : H.rowAt X 0 = some e := by rw [zzk, hX]; rfl
 by_cases hpn : p < es.length
 ·obtain ⟨h0, ⟨rfl, rfl⟩ | ⟨R, ver, vs, h1, h2, rfl, h4, h5⟩⟩ := hs
  ·simp [-getElem?_pos] at hpn
  have hne : X ≠ R := fun q => hv R ver 0 es.length es.length false 33 rfl q.symm
  have hlen := zy1 h0
  refine ⟨_, _, knM n (by rw [List.append_nil, hk]; simp only [zdl, if_true, yx6, h4, h5, hX, hx]; exact if_pos ⟨trivial, by omega, by omega, hlen, hel, hne, hl, zgc hes, he1⟩), ?_, ?_, ?_, rfl, fun q hq _ R' ver' off len kcap ex esz' e' => ?_⟩
  ·have hkt : (es.take p ++ e :: es.drop p).length = es.length + 1 := by simp; omega
   refine ⟨fun x hx => ?_, .inr ⟨R, vs.length, _, h1, by simp; omega, by rw [hkt], zz6.zzy _ _ _, ?_⟩⟩
   ·rcases List.mem_append.1 hx with q | q
    ·exact h0 x (List.mem_of_mem_take q)
    ·rcases List.mem_cons.1 q with rfl | q
     ·exact hel
     ·exact h0 x (List.mem_of_mem_drop q)
   ·rw [Int.toNat_natCast, List.flatten_append, List.flatten_cons, zxb p h0, ztt p h0, List.getElem?_append_right (by simp)]
    simp [-getElem?_pos]
  ·simp [-getElem?_pos]
  ·intro A hA hvA
   rw [zz6.zzz _ _ (fun q => hvA R ver 0 es.length es.length false 33 rfl q.symm)]; rfl
  ·cases e'
   exact hq R ver 0 es.length es.length false 33 rfl
 ·have hpe : p = es.length := by omega
  subst hpe
  obtain ⟨v', H', ha, hs', hn', _, hk', hl'⟩ := hs.append (bytes := 40) hN hx hel (by omega) (by omega) (zue he1) (by omega) (ex := true) (kc := 1)
  have hno : kn 121 [v, vi es.length, .slice X 0 0 1 1 true 33] H = none := by
   rw [hk]
   obtain ⟨h0, ⟨rfl, rfl⟩ | ⟨R, ver, vs, h1, h2, rfl, h4, h5⟩⟩ := hs
   ·rfl
   ·simp only [zdl, if_true, yx6, h4, h5, hX, hx]
    exact if_neg fun q => by obtain ⟨_, _, q, _⟩ := q; omega
  have hsl : ∃ u, zye 33 v (some (vi es.length)) none none = some u := by
   obtain ⟨h0, ⟨rfl, rfl⟩ | ⟨R, ver, vs, h1, h2, rfl, h4, h5⟩⟩ := hs
   ·exact ⟨_, rfl⟩
   ·exact ⟨_, by simp [-getElem?_pos, zye, zy7, zxz]; rfl⟩
  obtain ⟨u, hu⟩ := hsl
  have hlv : zyy v = some (zsk es.length) := by
   obtain ⟨h0, ⟨rfl, rfl⟩ | ⟨R, ver, vs, h1, h2, rfl, h4, h5⟩⟩ := hs <;> rfl
  obtain ⟨_, _, h1, rfl, rfl⟩ := Wp.call (R := fun v1 H1 => v1 = v' ∧ H1 = H') 95 [0, 1, 2, 6, 7, 8, 9, 16, 22, 31, 68] he hno rfl (by simp) (n := n) (by
   have hlx : zyy (.slice X 0 0 1 1 true 33) = some (zsk 1) := rfl
   repeat (first | apply Wp.za | apply Wp.zb | apply Wp.zc | apply Wp.zd | apply Wp.ze | apply Wp.zf rfl | apply Wp.zg rfl | ((apply Wp.zh; (repeat (apply Ex.zc; (simp (disch := omega) [-getElem?_pos, hu, hlv, ha, hlx]; rfl))); exact Ex.zn; rfl; (simp; rfl))) | ((apply Wp.zi; (repeat ((first | apply Dr.q rfl rfl | apply Dr.r rfl rfl | apply Dr.imm rfl); (simp (disch := omega) [-getElem?_pos, hu, hlv, ha, hlx]; rfl); (focus first | (simp; rfl) | (simp; done) | (simp; omega)))); exact Dr.nil; rfl; (simp (disch := omega) [-getElem?_pos, hu, hlv, ha, hlx]); (simp; rfl))))
   simp [-getElem?_pos, a121])
  refine ⟨_, _, h1, ?_, hn', fun A hA hvA => hk' A hA hvA, ?_, hl'⟩
  ·rw [List.take_length, List.drop_length]; exact hs'
  ·obtain ⟨h0, ⟨rfl, _⟩ | ⟨R, ver, vs, h1, h2, rfl, h4, h5⟩⟩ := hs' <;> rfl
end
end Go.Proofs.Ythbjfkkjmecaaaa
