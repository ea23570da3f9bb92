/- Walks: bound.count and bound.Premise. -/
import Derived.Test.YtipmhhogebnpkaaGreatDoorP23
namespace Go.Proofs.YtipmhhogebnpkaaGreatDoor
open Go Go.Vm
set_option linter.unusedVariables false
set_option linter.unusedSimpArgs false
variable {kn : Known} {env : Nat → Option AFunc}
variable {H H' H0 H2 : AHeap} {v pv : AVal} {kx : Known} {p : List OpP}
abbrev zop : List AVal := [zi, ns, zi, zb, zb, zb, zb, zb, zb, zb, zb, zb, zb, zb, zb, zb, zb, zb, zb, zb, zb, zb, zb, zb, zb, zb, zb, zb, zb, zb, zb, zb, zb, zb, zb]
abbrev cfgC (b c m d e : Int) : List AVal := [vi b, vi c, vi m, vi d, vi e]
def cntR (s : Option CntS) : Int × Int × Bool := match s with
  | some s => if s.ins then (s.k, s.r, false) else (s.k, s.r, true)
  | none => (0, 0, false)
set_option maxHeartbeats 8000000 in
theorem c26 (E : FormE kx kn env) (h : FnX kx kn env 26 p26) (n : Nat) {b c m d e : Int} (hp : ProgAt H pv p) (hn : 100000000000000 < n) :
    ∃ H', callX kx kn env (n + 4) (.func (.func 26) []) [.agg (cfgC b c m d e), pv] H = some (.tuple [vi (cntR (cntP b m p ⟨false, 0, 0, 0⟩)).1, vi (cntR (cntP b m p ⟨false, 0, 0, 0⟩)).2.1, abool (cntR (cntP b m p ⟨false, 0, 0, 0⟩)).2.2], H') ∧ Grow H H' := by
  generalize hS : cntR (cntP b m p ⟨false, 0, 0, 0⟩) = S
  suffices hh : ∃ r H', callX kx kn env (n + 4) (.func (.func 26) []) [.agg (cfgC b c m d e), pv] H = some (r, H') ∧ r = .tuple [vi S.1, vi S.2.1, abool S.2.2] ∧ Grow H H' by
    obtain ⟨r, H', h1, rfl, h2⟩ := hh
    exact ⟨H', h1, h2⟩
  have hlen := hp.lenS
  have hplen := hp.len
  obtain ⟨H1, hH1⟩ : ∃ H1, H1 = H.push (.row [some (0, cfgC b c m d e)]) := ⟨_, rfl⟩
  have hg1 : Grow H H1 := by rw [hH1]; exact Grow.push _ _
  have hX1 : H1.rowAt H.next 0 = some (cfgC b c m d e) := by rw [hH1]; simp [-getElem?_pos]
  have hn1 : H1.next = H.next + 1 := by rw [hH1]; simp [-getElem?_pos]
  refine Wp.callX 58 [0, 1, 2, 4, 5, 6, 7, 8, 10, 11, 12, 13, 14, 15, 16, 20, 37, 43, 46, 51] h rfl (by simp [-getElem?_pos]) (n := n + 3) ?_
  repeat (first | apply Wp.seq | apply Wp.blk | apply Wp.ret | apply Wp.skip | apply Wp.exit | apply Wp.cT rfl | apply Wp.cF rfl | ((apply Wp.reg; (repeat (apply Ex.cons; (simp (disch := omega) [-getElem?_pos, hlen]; rfl))); exact Ex.nil; rfl; (simp [-getElem?_pos]; rfl))))
  rw [show H.push (.row [some (0, [.raw (.int .i64 b), .raw (.int .i64 c), .raw (.int .i64 m), .raw (.int .i64 d), .raw (.int .i64 e)])]) = H1 from hH1.symm]
  apply Wp.loop (α := Nat × CntS × AHeap) (fun y => [(2, .ptr H.next 0 0), (4, vi y.2.1.k), (5, vi y.2.1.r), (7, abool y.2.1.ins), (8, vi y.2.1.n), (13, pv), (14, vi p.length), (15, vi y.1)]) (·.2.2)
    (fun y => y.1 ≤ p.length ∧ Grow H1 y.2.2 ∧ 0 ≤ y.2.1.n ∧ y.2.1.n ≤ y.1 ∧ cntR (cntP b m (p.drop y.1) y.2.1) = S) (fun y => p.length - y.1) (0, ⟨false, 0, 0, 0⟩, H1) rfl ⟨Nat.zero_le _, Grow.refl _, Int.le_refl _, Int.le_refl _, hS⟩ (by show p.length - 0 < _; omega) (by simp [-getElem?_pos])
  rintro ⟨i, ⟨ins, cn, ck, cr⟩, H2⟩ ⟨hil, hg2, hcn, hcn2, hcs⟩
  dsimp only at hil hg2 hcn hcn2 hcs ⊢
  have hw1 : wrapF .i64 ((i : Int) + 1) = (i : Int) + 1 := wrap_small (by omega) (by omega)
  have hX2 : H2.rowAt H.next 0 = some (cfgC b c m d e) := by rw [hg2.rowAt (by omega)]; exact hX1
  by_cases hi : i < p.length
  · obtain ⟨o, ho⟩ : ∃ o, p[i]? = some o := ⟨_, List.getElem?_eq_getElem hi⟩
    obtain ⟨R, ver, off, kc, ex, cells, rc, hv, hR, hrow, hb1, hd1, hop⟩ := (hp.grow (hg1.trans hg2)).at ho
    obtain ⟨sv, hrc, hI⟩ := hop.cells
    have hone := hop.one
    have hlen35 := hop.len
    have hsl := hop.sl
    rw [hrc] at hd1 hone hlen35
    obtain ⟨H3, hw3, hg3, hcl3, hn3⟩ := newCells H2 (z := zop) (e := vi o.kind :: sv :: vi o.blk :: o.val) (by rw [hlen35]; rfl) (by simp [-getElem?_pos]) hone
    have hX := hcl3.at
    have hX3 : H3.rowAt H.next 0 = some (cfgC b c m d e) := by rw [hg3.rowAt (by have := hg2.next; omega)]; exact hX2
    have hvl : o.val.length = 32 := by simpa [-getElem?_pos] using hlen35
    rw [cntP_at ho] at hcs
    unfold cntO at hcs
    clear hop hrc
    generalize o.kind = kd at *
    cases ins with
    | false =>
      obtain ⟨fv, H4, e4, hg4, hfl, hfo⟩ := c37 E n (b := b) (m := m) (hI.grow hg3) hsl hn
      generalize formP o.set b m = F at *
      obtain ⟨fe, fk⟩ := F
      dsimp only at e4 hfl hcs
      have hX4 : H4.rowAt H2.next 0 = some (vi kd :: sv :: vi o.blk :: o.val) := by rw [hg4.rowAt (by rw [hn3]; omega)]; exact hX
      have hmx := mx_is cr (fk : Int)
      have hgg : Grow H1 H4 := (hg2.trans hg3).trans hg4
      have hno : (kd = 1 ∧ fe = 0 → False) → cntR (cntP b m (p.drop (i + 1)) ⟨false, cn, ck, cr⟩) = S := fun h => by
        rw [if_pos rfl, if_neg h] at hcs; exact hcs
      by_cases k1 : kd = 1
      · by_cases k2 : fe = 0
        · rw [if_pos rfl, if_pos ⟨k1, k2⟩] at hcs
          subst k1
          repeat (first | apply Wp.seq | apply Wp.blk | apply Wp.ret | apply Wp.skip | apply Wp.exit | apply Wp.cT rfl | apply Wp.cF rfl | ((apply Wp.reg; (repeat (apply Ex.cons; (simp (disch := omega) [-getElem?_pos, hi, hv, hrow, hb1, hd1, hw3, hX, hX3, e4, hX4, k2, hfl, hmx, hw1, hvl]; rfl))); exact Ex.nil; rfl; (simp [-getElem?_pos]; rfl))))
          exact ⟨(i + 1, ⟨true, 0, ck, mx cr fk⟩, H4), rfl, ⟨by show i + 1 ≤ _; omega, hgg, Int.le_refl _, by show (0 : Int) ≤ ((i + 1 : Nat) : Int); omega, hcs⟩, by show p.length - (i + 1) < _; omega, by simp [-getElem?_pos, hv]⟩
        · have hcs' := hno fun h => k2 h.2
          subst k1
          repeat (first | apply Wp.seq | apply Wp.blk | apply Wp.ret | apply Wp.skip | apply Wp.exit | apply Wp.cT rfl | apply Wp.cF rfl | ((apply Wp.reg; (repeat (apply Ex.cons; (simp (disch := omega) [-getElem?_pos, hi, hv, hrow, hb1, hd1, hw3, hX, hX3, e4, hX4, k2, hw1, hvl]; rfl))); exact Ex.nil; rfl; (simp [-getElem?_pos]; rfl))))
          exact ⟨(i + 1, ⟨false, cn, ck, cr⟩, H4), rfl, ⟨by show i + 1 ≤ _; omega, hgg, hcn, by show cn ≤ ((i + 1 : Nat) : Int); omega, hcs'⟩, by show p.length - (i + 1) < _; omega, by simp [-getElem?_pos, hv]⟩
      · have hcs' := hno fun h => k1 h.1
        repeat (first | apply Wp.seq | apply Wp.blk | apply Wp.ret | apply Wp.skip | apply Wp.exit | apply Wp.cT rfl | apply Wp.cF rfl | ((apply Wp.reg; (repeat (apply Ex.cons; (simp (disch := omega) [-getElem?_pos, hi, hv, hrow, hb1, hd1, hw3, hX, hX3, e4, hX4, k1, hw1, hvl]; rfl))); exact Ex.nil; rfl; (simp [-getElem?_pos]; rfl))))
        exact ⟨(i + 1, ⟨false, cn, ck, cr⟩, H4), rfl, ⟨by show i + 1 ≤ _; omega, hgg, hcn, by show cn ≤ ((i + 1 : Nat) : Int); omega, hcs'⟩, by show p.length - (i + 1) < _; omega, by simp [-getElem?_pos, hv]⟩
    | true =>
      rw [if_neg (by simp [-getElem?_pos])] at hcs
      have hgg : Grow H1 H3 := hg2.trans hg3
      have hmx := mx_is ck cn
      have hwn : wrapF .i64 (cn + 1) = cn + 1 := wrapI' ⟨by omega, by omega⟩
      by_cases k4 : kd = 4
      · rw [if_pos k4] at hcs
        subst k4
        repeat (first | apply Wp.seq | apply Wp.blk | apply Wp.ret | apply Wp.skip | apply Wp.exit | apply Wp.cT rfl | apply Wp.cF rfl | ((apply Wp.reg; (repeat (apply Ex.cons; (simp (disch := omega) [-getElem?_pos, hi, hv, hrow, hb1, hd1, hw3, hX, hX3, hmx, hw1, hvl]; rfl))); exact Ex.nil; rfl; (simp [-getElem?_pos]; rfl))))
        exact ⟨(i + 1, ⟨false, cn, mx ck cn, cr⟩, H3), rfl, ⟨by show i + 1 ≤ _; omega, hgg, hcn, by show cn ≤ ((i + 1 : Nat) : Int); omega, hcs⟩, by show p.length - (i + 1) < _; omega, by simp [-getElem?_pos, hv]⟩
      · rw [if_neg k4] at hcs
        by_cases k5 : kd = 5
        · rw [if_pos k5] at hcs
          have hS' : S = (0, 0, false) := hcs.symm
          subst k5
          rw [hS']
          repeat (first | apply Wp.seq | apply Wp.blk | apply Wp.ret | apply Wp.skip | apply Wp.exit | apply Wp.cT rfl | apply Wp.cF rfl | ((apply Wp.reg; (repeat (apply Ex.cons; (simp (disch := omega) [-getElem?_pos, hi, hv, hrow, hb1, hd1, hw3, hX, hX3, hw1, hvl]; rfl))); exact Ex.nil; rfl; (simp [-getElem?_pos]; rfl))))
          simp [-getElem?_pos, p26]
          exact hg1.trans hgg
        · rw [if_neg k5] at hcs
          repeat (first | apply Wp.seq | apply Wp.blk | apply Wp.ret | apply Wp.skip | apply Wp.exit | apply Wp.cT rfl | apply Wp.cF rfl | ((apply Wp.reg; (repeat (apply Ex.cons; (simp (disch := omega) [-getElem?_pos, hi, hv, hrow, hb1, hd1, hw3, hX, hX3, hwn, hw1, hvl, k4, k5]; rfl))); exact Ex.nil; rfl; (simp [-getElem?_pos]; rfl))))
          exact ⟨(i + 1, ⟨true, cn + 1, ck, cr⟩, H3), rfl, ⟨by show i + 1 ≤ _; omega, hgg, by show 0 ≤ cn + 1; omega, by show cn + 1 ≤ ((i + 1 : Nat) : Int); omega, hcs⟩, by show p.length - (i + 1) < _; omega, by simp [-getElem?_pos, hv]⟩
  · rw [List.drop_of_length_le (by omega)] at hcs
    cases ins with
    | false =>
      have hS' : S = (ck, cr, true) := hcs.symm
      rw [hS']
      repeat (first | apply Wp.seq | apply Wp.blk | apply Wp.ret | apply Wp.skip | apply Wp.exit | apply Wp.cT rfl | apply Wp.cF rfl | ((apply Wp.reg; (repeat (apply Ex.cons; (simp (disch := omega) [-getElem?_pos, hi]; rfl))); exact Ex.nil; rfl; (simp [-getElem?_pos]; rfl))))
      simp [-getElem?_pos, p26]
      exact hg1.trans hg2
    | true =>
      have hS' : S = (ck, cr, false) := hcs.symm
      rw [hS']
      repeat (first | apply Wp.seq | apply Wp.blk | apply Wp.ret | apply Wp.skip | apply Wp.exit | apply Wp.cT rfl | apply Wp.cF rfl | ((apply Wp.reg; (repeat (apply Ex.cons; (simp (disch := omega) [-getElem?_pos, hi]; rfl))); exact Ex.nil; rfl; (simp [-getElem?_pos]; rfl))))
      simp [-getElem?_pos, p26]
      exact hg1.trans hg2
end Go.Proofs.YtipmhhogebnpkaaGreatDoor
namespace Go.Proofs.YtipmhhogebnpkaaGreatDoor
open Go Go.Vm
set_option linter.unusedVariables false
set_option linter.unusedSimpArgs false
variable {kn : Known} {env : Nat → Option AFunc}
variable {H H' H0 H2 : AHeap} {v pv : AVal} {kx : Known} {p : List OpP} {ps : List (List OpP)}
theorem premP_at {b m k r : Int} {i : Nat} (h : ps[i]? = some p) : premP b m (ps.drop i) k r = match cntP b m p ⟨false, 0, 0, 0⟩ with
    | some s => if s.ins then (0, 0, false) else premP b m (ps.drop (i + 1)) (mx k s.k) (mx r s.r)
    | none => (0, 0, false) := by
  obtain ⟨hi, rfl⟩ := List.getElem?_eq_some_iff.1 h
  rw [List.drop_eq_getElem_cons hi]; rfl
theorem premR_at {b m k r : Int} {i : Nat} (h : ps[i]? = some p) : premR b m (ps.drop i) k r = match cntP b m p ⟨false, 0, k, r⟩ with
    | some s => if s.ins then (0, 0, false) else premR b m (ps.drop (i + 1)) s.k s.r
    | none => (0, 0, false) := by
  obtain ⟨hi, rfl⟩ := List.getElem?_eq_some_iff.1 h
  rw [List.drop_eq_getElem_cons hi]; rfl
set_option maxHeartbeats 4000000 in
theorem c10 (E : FormE kx kn env) (hc : FnX kx kn env 26 p26) (h : FnX kx kn env 10 p10) (n : Nat) {b c m d e : Int} (hp : ProgsAt H v ps) (hn : 100000000000000 < n) :
    ∃ H', callX kx kn env (n + 5) (.func (.func 10) []) [.agg (cfgC b c m d e), v] H = some (.tuple [vi (premP b m ps 0 0).1, vi (premP b m ps 0 0).2.1, abool (premP b m ps 0 0).2.2], H') ∧ Grow H H' := by
  generalize hS : premP b m ps 0 0 = S
  suffices hh : ∃ r H', callX kx kn env (n + 5) (.func (.func 10) []) [.agg (cfgC b c m d e), v] H = some (r, H') ∧ r = .tuple [vi S.1, vi S.2.1, abool S.2.2] ∧ Grow H H' by
    obtain ⟨r, H', h1, rfl, h2⟩ := hh
    exact ⟨H', h1, h2⟩
  have hlen := hp.lenS
  have hplen := hp.len
  obtain ⟨H1, hH1⟩ : ∃ H1, H1 = H.push (.row [some (0, cfgC b c m d e)]) := ⟨_, rfl⟩
  have hg1 : Grow H H1 := by rw [hH1]; exact Grow.push _ _
  have hX1 : H1.rowAt H.next 0 = some (cfgC b c m d e) := by rw [hH1]; simp [-getElem?_pos]
  have hn1 : H1.next = H.next + 1 := by rw [hH1]; simp [-getElem?_pos]
  refine Wp.callX 36 [0, 1, 2, 4, 5, 6, 8, 9, 10, 11, 12, 13, 14, 15, 26] h rfl (by simp [-getElem?_pos]) (n := n + 4) ?_
  repeat (first | apply Wp.seq | apply Wp.blk | apply Wp.ret | apply Wp.skip | apply Wp.exit | apply Wp.cT rfl | apply Wp.cF rfl | ((apply Wp.reg; (repeat (apply Ex.cons; (simp (disch := omega) [-getElem?_pos, hlen]; rfl))); exact Ex.nil; rfl; (simp [-getElem?_pos]; rfl))))
  rw [show H.push (.row [some (0, [.raw (.int .i64 b), .raw (.int .i64 c), .raw (.int .i64 m), .raw (.int .i64 d), .raw (.int .i64 e)])]) = H1 from hH1.symm]
  apply Wp.loop (α := Nat × Int × Int × AHeap) (fun y => [(2, .ptr H.next 0 0), (4, vi y.2.1), (5, vi y.2.2.1), (12, v), (13, vi ps.length), (14, vi y.1)]) (·.2.2.2)
    (fun y => y.1 ≤ ps.length ∧ Grow H1 y.2.2.2 ∧ premP b m (ps.drop y.1) y.2.1 y.2.2.1 = S) (fun y => ps.length - y.1) (0, 0, 0, H1) rfl ⟨Nat.zero_le _, Grow.refl _, hS⟩ (by show ps.length - 0 < _; omega) (by simp [-getElem?_pos])
  rintro ⟨i, k, r, H2⟩ ⟨hil, hg2, hcs⟩
  dsimp only at hil hg2 hcs ⊢
  have hw1 : wrapF .i64 ((i : Int) + 1) = (i : Int) + 1 := wrap_small (by omega) (by omega)
  have hX2 : H2.rowAt H.next 0 = some (cfgC b c m d e) := by rw [hg2.rowAt (by omega)]; exact hX1
  by_cases hi : i < ps.length
  · obtain ⟨p, hpi⟩ : ∃ p, ps[i]? = some p := ⟨_, List.getElem?_eq_getElem hi⟩
    obtain ⟨R, ver, off, kc, ex, cells, pv, hv, hR, hrow, hb1, hc1, hP⟩ := (hp.grow (hg1.trans hg2)).at hpi
    obtain ⟨H3, e3, hg3⟩ := c26 E hc n (b := b) (c := c) (m := m) (d := d) (e := e) hP hn
    rw [premP_at hpi] at hcs
    generalize cntP b m p ⟨false, 0, 0, 0⟩ = C at *
    have hgg : Grow H1 H3 := hg2.trans hg3
    match C, e3, hcs with
    | none, e3, hcs =>
      have hS' : S = (0, 0, false) := hcs.symm
      have e3' : callX kx kn env (n + 4) (.func (.func 26) []) [.agg [.raw (.int .i64 b), .raw (.int .i64 c), .raw (.int .i64 m), .raw (.int .i64 d), .raw (.int .i64 e)], pv] H2 = some (.tuple [vi 0, vi 0, abool false], H3) := e3
      rw [hS']
      repeat (first | apply Wp.seq | apply Wp.blk | apply Wp.ret | apply Wp.skip | apply Wp.exit | apply Wp.cT rfl | apply Wp.cF rfl | ((apply Wp.reg; (repeat (apply Ex.cons; (simp (disch := omega) [-getElem?_pos, hi, hv, hrow, hb1, hc1, hX2, e3']; rfl))); exact Ex.nil; rfl; (simp [-getElem?_pos]; rfl))))
      simp [-getElem?_pos, p10]
      exact hg1.trans hgg
    | some ⟨true, cn, ck, cr⟩, e3, hcs =>
      have hS' : S = (0, 0, false) := hcs.symm
      have e3' : callX kx kn env (n + 4) (.func (.func 26) []) [.agg [.raw (.int .i64 b), .raw (.int .i64 c), .raw (.int .i64 m), .raw (.int .i64 d), .raw (.int .i64 e)], pv] H2 = some (.tuple [vi ck, vi cr, abool false], H3) := e3
      rw [hS']
      repeat (first | apply Wp.seq | apply Wp.blk | apply Wp.ret | apply Wp.skip | apply Wp.exit | apply Wp.cT rfl | apply Wp.cF rfl | ((apply Wp.reg; (repeat (apply Ex.cons; (simp (disch := omega) [-getElem?_pos, hi, hv, hrow, hb1, hc1, hX2, e3']; rfl))); exact Ex.nil; rfl; (simp [-getElem?_pos]; rfl))))
      simp [-getElem?_pos, p10]
      exact hg1.trans hgg
    | some ⟨false, cn, ck, cr⟩, e3, hcs =>
      have e3' : callX kx kn env (n + 4) (.func (.func 26) []) [.agg [.raw (.int .i64 b), .raw (.int .i64 c), .raw (.int .i64 m), .raw (.int .i64 d), .raw (.int .i64 e)], pv] H2 = some (.tuple [vi ck, vi cr, abool true], H3) := e3
      have m1 := mx_is k ck
      have m2 := mx_is r cr
      repeat (first | apply Wp.seq | apply Wp.blk | apply Wp.ret | apply Wp.skip | apply Wp.exit | apply Wp.cT rfl | apply Wp.cF rfl | ((apply Wp.reg; (repeat (apply Ex.cons; (simp (disch := omega) [-getElem?_pos, hi, hv, hrow, hb1, hc1, hX2, e3', m1, m2, hw1]; rfl))); exact Ex.nil; rfl; (simp [-getElem?_pos]; rfl))))
      exact ⟨(i + 1, mx k ck, mx r cr, H3), rfl, ⟨by show i + 1 ≤ _; omega, hgg, hcs⟩, by show ps.length - (i + 1) < _; omega, by simp [-getElem?_pos, hv]⟩
  · rw [List.drop_of_length_le (by omega)] at hcs
    have hS' : S = (k, r, true) := hcs.symm
    rw [hS']
    repeat (first | apply Wp.seq | apply Wp.blk | apply Wp.ret | apply Wp.skip | apply Wp.exit | apply Wp.cT rfl | apply Wp.cF rfl | ((apply Wp.reg; (repeat (apply Ex.cons; (simp (disch := omega) [-getElem?_pos, hi]; rfl))); exact Ex.nil; rfl; (simp [-getElem?_pos]; rfl))))
    simp [-getElem?_pos, p10]
    exact hg1.trans hg2
set_option maxHeartbeats 8000000 in
theorem c11 (hf : FnX kx kn env 27 p27) (hh : FnX kx kn env 38 p38) (h : FnX kx kn env 11 p11) (n : Nat) {b c m d e : Int} (hp : ProgsAt H v ps) (hn : 100000000000000 < n) :
    ∃ H', callX kx kn env (n + 3) (.func (.func 11) []) [.agg (cfgC b c m d e), v] H = some (.tuple [vi (premR b m ps 0 0).1, vi (premR b m ps 0 0).2.1, abool (premR b m ps 0 0).2.2], H') ∧ Grow H H' := by
  generalize hS : premR b m ps 0 0 = S
  suffices hh : ∃ r H', callX kx kn env (n + 3) (.func (.func 11) []) [.agg (cfgC b c m d e), v] H = some (r, H') ∧ r = .tuple [vi S.1, vi S.2.1, abool S.2.2] ∧ Grow H H' by
    obtain ⟨r, H', h1, rfl, h2⟩ := hh
    exact ⟨H', h1, h2⟩
  have hlen := hp.lenS
  have hplen := hp.len
  obtain ⟨H1, hH1⟩ : ∃ H1, H1 = H.push (.row [some (0, cfgC b c m d e)]) := ⟨_, rfl⟩
  have hg1 : Grow H H1 := by rw [hH1]; exact Grow.push _ _
  have hX1 : H1.rowAt H.next 0 = some (cfgC b c m d e) := by rw [hH1]; simp [-getElem?_pos]
  have hn1 : H1.next = H.next + 1 := by rw [hH1]; simp [-getElem?_pos]
  refine Wp.callX 78 [0, 1, 2, 4, 5, 6, 7, 8, 9, 10, 11, 12, 13, 14, 15, 19, 28, 40, 59, 64, 71, 75] h rfl (by simp [-getElem?_pos]) (n := n + 2) ?_
  repeat (first | apply Wp.seq | apply Wp.blk | apply Wp.ret | apply Wp.skip | apply Wp.exit | apply Wp.cT rfl | apply Wp.cF rfl | ((apply Wp.reg; (repeat (apply Ex.cons; (simp (disch := omega) [-getElem?_pos, hlen]; rfl))); exact Ex.nil; rfl; (simp [-getElem?_pos]; rfl))))
  rw [show H.push (.row [some (0, [.raw (.int .i64 b), .raw (.int .i64 c), .raw (.int .i64 m), .raw (.int .i64 d), .raw (.int .i64 e)])]) = H1 from hH1.symm]
  apply Wp.loop (α := Nat × Int × Int × AHeap) (fun y => [(1, v), (2, .ptr H.next 0 0), (7, vi y.2.1), (8, vi y.2.2.1), (9, vi y.1)]) (·.2.2.2)
    (fun y => y.1 ≤ ps.length ∧ Grow H1 y.2.2.2 ∧ premR b m (ps.drop y.1) y.2.1 y.2.2.1 = S) (fun y => ps.length - y.1) (0, 0, 0, H1) rfl ⟨Nat.zero_le _, Grow.refl _, hS⟩ (by show ps.length - 0 < _; omega) (by simp [-getElem?_pos])
  rintro ⟨i, k0, r0, H2⟩ ⟨hil, hg2, hcs⟩
  dsimp only at hil hg2 hcs ⊢
  have hw1 : wrapF .i64 ((i : Int) + 1) = (i : Int) + 1 := wrap_small (by omega) (by omega)
  by_cases hi : i < ps.length
  · obtain ⟨p, hpi⟩ : ∃ p, ps[i]? = some p := ⟨_, List.getElem?_eq_getElem hi⟩
    obtain ⟨R, ver, off, kc, ex, cells, pv, hv, hR, hrow, hb1, hc1, hP⟩ := (hp.grow (hg1.trans hg2)).at hpi
    have hpl := hP.len
    have hpls := hP.lenS
    rw [premR_at hpi] at hcs
    generalize hC : cntP b m p ⟨false, 0, k0, r0⟩ = C at *
    repeat (first | apply Wp.seq | apply Wp.blk | apply Wp.ret | apply Wp.skip | apply Wp.exit | apply Wp.cT rfl | apply Wp.cF rfl | ((apply Wp.reg; (repeat (apply Ex.cons; (simp (disch := omega) [-getElem?_pos, hlen, hi]; rfl))); exact Ex.nil; rfl; (simp [-getElem?_pos]; rfl))))
    apply Wp.loop (α := Nat × CntS × AHeap) (fun y => [(1, v), (2, .ptr H.next 0 0), (7, vi y.2.1.k), (8, vi y.2.1.r), (9, vi i), (10, abool y.2.1.ins), (11, vi y.2.1.n), (12, vi y.1)]) (·.2.2)
      (fun y => y.1 ≤ p.length ∧ Grow H2 y.2.2 ∧ 0 ≤ y.2.1.n ∧ y.2.1.n ≤ y.1 ∧ cntP b m (p.drop y.1) y.2.1 = C) (fun y => p.length - y.1) (0, ⟨false, 0, k0, r0⟩, H2) rfl ⟨Nat.zero_le _, Grow.refl _, Int.le_refl _, Int.le_refl _, hC⟩ (by show p.length - 0 < _; omega) (by simp [-getElem?_pos])
    rintro ⟨j, ⟨ins, cn, ck, cr⟩, H3⟩ ⟨hjl, hg3, hcn, hcn2, hcc⟩
    dsimp only at hjl hg3 hcn hcn2 hcc ⊢
    have hwj : wrapF .i64 ((j : Int) + 1) = (j : Int) + 1 := wrap_small (by omega) (by omega)
    have hX3 : H3.rowAt H.next 0 = some (cfgC b c m d e) := by rw [(hg2.trans hg3).rowAt (by omega)]; exact hX1
    have hrow3 : H3.rowAt R ver = some cells := by rw [hg3.rowAt hR]; exact hrow
    by_cases hj : j < p.length
    · obtain ⟨o, ho⟩ : ∃ o, p[j]? = some o := ⟨_, List.getElem?_eq_getElem hj⟩
      obtain ⟨R2, ver2, off2, kc2, ex2, cells2, rc, hv2, hR2, hrow2, hb2, hd2, hop⟩ := (hP.grow hg3).at ho
      obtain ⟨sv, hrc, hI⟩ := hop.cells
      have hone := hop.one
      have hlen35 := hop.len
      have hsl := hop.sl
      rw [hrc] at hd2 hone hlen35
      obtain ⟨H4, hw4, hg4, hcl4, hn4⟩ := newCells H3 (z := zop) (e := vi o.kind :: sv :: vi o.blk :: o.val) (by rw [hlen35]; rfl) (by simp [-getElem?_pos]) hone
      have hX := hcl4.at
      have hX4 : H4.rowAt H.next 0 = some (cfgC b c m d e) := by rw [hg4.rowAt (by have := hg2.next; have := hg3.next; omega)]; exact hX3
      have hvl : o.val.length = 32 := by simpa [-getElem?_pos] using hlen35
      rw [cntP_at ho] at hcc
      unfold cntO at hcc
      clear hop hrc
      generalize o.kind = kd at *
      cases ins with
      | false =>
        obtain ⟨fv, H5, e5, hg5, hfl, hfo⟩ := c27 hf hh n (b := b) (m := m) (hI.grow hg4) hsl hn
        generalize formP o.set b m = F at *
        obtain ⟨fe, fk⟩ := F
        dsimp only at e5 hfl hcc
        have hX5 : H5.rowAt H3.next 0 = some (vi kd :: sv :: vi o.blk :: o.val) := by rw [hg5.rowAt (by rw [hn4]; omega)]; exact hX
        have hmx := mx_is cr (fk : Int)
        have hgg : Grow H2 H5 := (hg3.trans hg4).trans hg5
        have hno : (kd = 1 ∧ fe = 0 → False) → cntP b m (p.drop (j + 1)) ⟨false, cn, ck, cr⟩ = C := fun h => by
          rw [if_pos rfl, if_neg h] at hcc; exact hcc
        by_cases k1 : kd = 1
        · by_cases k2 : fe = 0
          · rw [if_pos rfl, if_pos ⟨k1, k2⟩] at hcc
            subst k1
            repeat (first | apply Wp.seq | apply Wp.blk | apply Wp.ret | apply Wp.skip | apply Wp.exit | apply Wp.cT rfl | apply Wp.cF rfl | ((apply Wp.reg; (repeat (apply Ex.cons; (simp (disch := omega) [-getElem?_pos, hj, hv, hrow3, hb1, hc1, hpls, hv2, hrow2, hb2, hd2, hw4, hX, hX4, e5, hX5, k2, hfl, hmx, hwj, hvl]; rfl))); exact Ex.nil; rfl; (simp [-getElem?_pos]; rfl))))
            exact ⟨(j + 1, ⟨true, 0, ck, mx cr fk⟩, H5), rfl, ⟨by show j + 1 ≤ _; omega, hgg, Int.le_refl _, by show (0 : Int) ≤ ((j + 1 : Nat) : Int); omega, hcc⟩, by show p.length - (j + 1) < _; omega, by simp [-getElem?_pos, hv, hv2]⟩
          · have hcc' := hno fun h => k2 h.2
            subst k1
            repeat (first | apply Wp.seq | apply Wp.blk | apply Wp.ret | apply Wp.skip | apply Wp.exit | apply Wp.cT rfl | apply Wp.cF rfl | ((apply Wp.reg; (repeat (apply Ex.cons; (simp (disch := omega) [-getElem?_pos, hj, hv, hrow3, hb1, hc1, hpls, hv2, hrow2, hb2, hd2, hw4, hX, hX4, e5, hX5, k2, hwj, hvl]; rfl))); exact Ex.nil; rfl; (simp [-getElem?_pos]; rfl))))
            exact ⟨(j + 1, ⟨false, cn, ck, cr⟩, H5), rfl, ⟨by show j + 1 ≤ _; omega, hgg, hcn, by show cn ≤ ((j + 1 : Nat) : Int); omega, hcc'⟩, by show p.length - (j + 1) < _; omega, by simp [-getElem?_pos, hv, hv2]⟩
        · have hcc' := hno fun h => k1 h.1
          repeat (first | apply Wp.seq | apply Wp.blk | apply Wp.ret | apply Wp.skip | apply Wp.exit | apply Wp.cT rfl | apply Wp.cF rfl | ((apply Wp.reg; (repeat (apply Ex.cons; (simp (disch := omega) [-getElem?_pos, hj, hv, hrow3, hb1, hc1, hpls, hv2, hrow2, hb2, hd2, hw4, hX, hX4, e5, hX5, k1, hwj, hvl]; rfl))); exact Ex.nil; rfl; (simp [-getElem?_pos]; rfl))))
          exact ⟨(j + 1, ⟨false, cn, ck, cr⟩, H5), rfl, ⟨by show j + 1 ≤ _; omega, hgg, hcn, by show cn ≤ ((j + 1 : Nat) : Int); omega, hcc'⟩, by show p.length - (j + 1) < _; omega, by simp [-getElem?_pos, hv, hv2]⟩
      | true =>
        rw [if_neg (by simp [-getElem?_pos])] at hcc
        have hgg : Grow H2 H4 := hg3.trans hg4
        have hmx := mx_is ck cn
        have hwn : wrapF .i64 (cn + 1) = cn + 1 := wrapI' ⟨by omega, by omega⟩
        by_cases k4 : kd = 4
        · rw [if_pos k4] at hcc
          subst k4
          repeat (first | apply Wp.seq | apply Wp.blk | apply Wp.ret | apply Wp.skip | apply Wp.exit | apply Wp.cT rfl | apply Wp.cF rfl | ((apply Wp.reg; (repeat (apply Ex.cons; (simp (disch := omega) [-getElem?_pos, hj, hv, hrow3, hb1, hc1, hpls, hv2, hrow2, hb2, hd2, hw4, hX, hX4, hmx, hwj, hvl]; rfl))); exact Ex.nil; rfl; (simp [-getElem?_pos]; rfl))))
          exact ⟨(j + 1, ⟨false, cn, mx ck cn, cr⟩, H4), rfl, ⟨by show j + 1 ≤ _; omega, hgg, hcn, by show cn ≤ ((j + 1 : Nat) : Int); omega, hcc⟩, by show p.length - (j + 1) < _; omega, by simp [-getElem?_pos, hv, hv2]⟩
        · rw [if_neg k4] at hcc
          by_cases k5 : kd = 5
          · rw [if_pos k5] at hcc
            have hCn : C = none := hcc.symm
            rw [hCn] at hcs
            have hS' : S = (0, 0, false) := hcs.symm
            subst k5
            rw [hS']
            repeat (first | apply Wp.seq | apply Wp.blk | apply Wp.ret | apply Wp.skip | apply Wp.exit | apply Wp.cT rfl | apply Wp.cF rfl | ((apply Wp.reg; (repeat (apply Ex.cons; (simp (disch := omega) [-getElem?_pos, hj, hv, hrow3, hb1, hc1, hpls, hv2, hrow2, hb2, hd2, hw4, hX, hX4, hwj, hvl]; rfl))); exact Ex.nil; rfl; (simp [-getElem?_pos]; rfl))))
            simp [-getElem?_pos, p11]
            exact (hg1.trans hg2).trans hgg
          · rw [if_neg k5] at hcc
            repeat (first | apply Wp.seq | apply Wp.blk | apply Wp.ret | apply Wp.skip | apply Wp.exit | apply Wp.cT rfl | apply Wp.cF rfl | ((apply Wp.reg; (repeat (apply Ex.cons; (simp (disch := omega) [-getElem?_pos, hj, hv, hrow3, hb1, hc1, hpls, hv2, hrow2, hb2, hd2, hw4, hX, hX4, hwn, hwj, hvl, k4, k5]; rfl))); exact Ex.nil; rfl; (simp [-getElem?_pos]; rfl))))
            exact ⟨(j + 1, ⟨true, cn + 1, ck, cr⟩, H4), rfl, ⟨by show j + 1 ≤ _; omega, hgg, by show 0 ≤ cn + 1; omega, by show cn + 1 ≤ ((j + 1 : Nat) : Int); omega, hcc⟩, by show p.length - (j + 1) < _; omega, by simp [-getElem?_pos, hv, hv2]⟩
    · rw [List.drop_of_length_le (by omega)] at hcc
      have hC' : C = some ⟨ins, cn, ck, cr⟩ := hcc.symm
      rw [hC'] at hcs
      cases ins with
      | true =>
        have hS' : S = (0, 0, false) := hcs.symm
        rw [hS']
        repeat (first | apply Wp.seq | apply Wp.blk | apply Wp.ret | apply Wp.skip | apply Wp.exit | apply Wp.cT rfl | apply Wp.cF rfl | ((apply Wp.reg; (repeat (apply Ex.cons; (simp (disch := omega) [-getElem?_pos, hj, hv, hrow3, hb1, hc1, hpls]; rfl))); exact Ex.nil; rfl; (simp [-getElem?_pos]; rfl))))
        simp [-getElem?_pos, p11]
        exact (hg1.trans hg2).trans hg3
      | false =>
        have hcs' : premR b m (ps.drop (i + 1)) ck cr = S := hcs
        repeat (first | apply Wp.seq | apply Wp.blk | apply Wp.ret | apply Wp.skip | apply Wp.exit | apply Wp.cT rfl | apply Wp.cF rfl | ((apply Wp.reg; (repeat (apply Ex.cons; (simp (disch := omega) [-getElem?_pos, hj, hv, hrow3, hb1, hc1, hpls, hw1]; rfl))); exact Ex.nil; rfl; (simp [-getElem?_pos]; rfl))))
        exact ⟨(i + 1, ck, cr, H3), rfl, ⟨by show i + 1 ≤ _; omega, hg2.trans hg3, hcs'⟩, by show ps.length - (i + 1) < _; omega, by simp [-getElem?_pos, hv]⟩
  · rw [List.drop_of_length_le (by omega)] at hcs
    have hS' : S = (k0, r0, true) := hcs.symm
    rw [hS']
    repeat (first | apply Wp.seq | apply Wp.blk | apply Wp.ret | apply Wp.skip | apply Wp.exit | apply Wp.cT rfl | apply Wp.cF rfl | ((apply Wp.reg; (repeat (apply Ex.cons; (simp (disch := omega) [-getElem?_pos, hlen, hi]; rfl))); exact Ex.nil; rfl; (simp [-getElem?_pos]; rfl))))
    simp [-getElem?_pos, p11]
    exact hg1.trans hg2
end Go.Proofs.YtipmhhogebnpkaaGreatDoor
