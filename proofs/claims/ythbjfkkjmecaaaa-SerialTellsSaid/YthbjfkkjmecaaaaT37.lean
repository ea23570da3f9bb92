/- Walks: stable sorting with a comparison. -/
import Derived.Test.YthbjfkkjmecaaaaT36
import Derived.Test.YthbjfkkjmecaaaaT33
set_option linter.unusedVariables false
set_option linter.unusedSimpArgs false
namespace Go.Proofs.Ythbjfkkjmecaaaa
open Go Go.Vm
variable {kn : Known} {env : Nat → Option AFunc}
variable {H0 H H' : AHeap} {R ver nv L a b c m n i j kc s e : Nat} {ex : Bool} {f g g' : Nat → Int} {cv : AVal} {key : Int → Int} {G : Int → Prop}
inductive Pre (key : Int → Int) (g : Nat → Int) (s : Nat) : Nat → Prop
  | zero : Pre key g s 0
  | step {e : Nat} : Pre key g s e → SrS key g e (e + s) → Pre key g s (e + s)
inductive Blk (key : Int → Int) (g : Nat → Int) (s L : Nat) : Nat → Prop
  | last {e : Nat} : L ≤ e + s → SrS key g e L → Blk key g s L e
  | more {e : Nat} : e + s ≤ L → SrS key g e (e + s) → Blk key g s L (e + s) → Blk key g s L e
theorem Pre.same (h : Pre key g s a) (hg : ∀ k, k < a → g' k = g k) : Pre key g' s a := by
  induction h with
  | zero => exact .zero
  | step h1 h2 ih => exact .step (ih fun k hk => hg k (by omega)) (h2.same fun k _ hk => hg k hk)
theorem Blk.same (h : Blk key g s L e) (hg : ∀ k, e ≤ k → g' k = g k) : Blk key g' s L e := by
  induction h with
  | last h1 h2 => exact .last h1 (h2.same fun k hk _ => hg k hk)
  | more h1 h2 h3 ih => exact .more h1 (h2.same fun k hk _ => hg k hk) (ih fun k hk => hg k (by omega))
theorem Pre.blk (h : Pre key g s a) : a ≤ L → Blk key g s L a → Blk key g s L 0 := by
  induction h with
  | zero => exact fun _ h => h
  | step h1 h2 ih => exact fun hl hb => ih (by omega) (.more hl h2 hb)
theorem Blk.one (h : Blk key g s L a) (hl : L ≤ a + s) : SrS key g a L := by
  cases h with
  | last _ h => exact h
  | more h1 h2 _ => exact h2.part (Nat.le_refl _) hl
theorem Blk.fst (h : Blk key g s L a) (hl : a + s ≤ L) : SrS key g a (a + s) := by
  cases h with
  | last _ h => exact h.part (Nat.le_refl _) hl
  | more _ h2 _ => exact h2
theorem Blk.snd (h : Blk key g s L a) (hl : a + s ≤ L) : Blk key g s L (a + s) := by
  cases h with
  | last h1 h => exact .last (by omega) (h.part (by omega) (Nat.le_refl _))
  | more _ _ h3 => exact h3
structure StabE (kn : Known) (env : Nat → Option AFunc) : Prop where
  f55 : Fn kn env 55 a55
  f82 : Fn kn env 82 a82
  f108 : Fn kn env 108 a108
  f109 : Fn kn env 109 a109
  f118 : Fn kn env 118 a118
  f135 : Fn kn env 135 a135
abbrev C82 : List Nat := [0, 1, 2, 6, 7, 8, 9, 13, 30, 35, 54]
set_option maxHeartbeats 4000000 in
theorem c82 (E : StabE kn env) (n : Nat) (hcv : CmpOk kn env cv key G H0 R ver nv) (hr : RowW H0 R ver nv (cellsF f L) H) (hG : ∀ k, k < L → G (f k)) (hL : L < 576460752303423488) (hn : 2 * L + 2 < n) :
    ∃ v H', callM kn env (n + 4) (.func (.func 82) []) [.slice R ver 0 L kc ex 1, vi L, cv] H = some (v, H') ∧ MrgR H0 R ver nv L key f 0 L v H' := by
  have hM := c109 E.f109 E.f118 E.f135 hcv (kc := kc) (ex := ex) (L := L) (by omega) (L + 1) n (by omega)
  have hI := fun {g : Nat → Int} {H1 : AHeap} (hr : RowW H0 R ver nv (cellsF g L) H1) (hG : ∀ k, k < L → G (g k)) {a b : Nat} (hab : a ≤ b) (hb : b ≤ L) => c108 E.f108 (n + 1) (kc := kc) (ex := ex) hcv hr hG hab hb (by omega) (by omega)
  refine Wp.call 63 C82 E.f82.e (E.f82.no _ H) (n := n + 3) rfl (by simp [-getElem?_pos]) ?_
  (repeat (first | apply Wp.seq | apply Wp.blk)); (apply Wp.reg; (repeat (apply Ex.cons; (simp (disch := omega) [-getElem?_pos]; rfl))); exact Ex.nil; rfl; (simp; rfl))
  (repeat (first | apply Wp.seq | apply Wp.blk)); (apply Wp.reg; (repeat (apply Ex.cons; (simp (disch := omega) [-getElem?_pos]; rfl))); exact Ex.nil; rfl; (simp; rfl))
  repeat (first | apply Wp.seq | apply Wp.blk)
  apply Wp.loop (α := (Nat × (Nat → Int)) × AHeap) (fun x => [(0, .slice R ver 0 L kc ex 1), (1, vi L), (2, cv), (6, vi 20), (7, vi x.1.1), (8, vi (x.1.1 + 20 : Nat))]) (·.2)
    (fun x => x.1.1 ≤ L ∧ Pre key x.1.2 20 x.1.1 ∧ PmS f x.1.2 0 L ∧ RowW H0 R ver nv (cellsF x.1.2 L) x.2) (fun x => L - x.1.1) ((0, f), H) rfl ⟨Nat.zero_le _, .zero, PmS.refl _ _ _, hr⟩ (by dsimp only; omega) (by simp [-getElem?_pos])
  rintro ⟨⟨a, g⟩, H1⟩ ⟨ha, hpre, hp, hr1⟩
  dsimp only at ha hpre hp hr1 ⊢
  have hG1 := PmS.all hp (Nat.le_refl _) hG
  (repeat (first | apply Wp.seq | apply Wp.blk)); (apply Wp.reg; (repeat (apply Ex.cons; (simp (disch := omega) [-getElem?_pos]; rfl))); exact Ex.nil; rfl; (simp; rfl))
  (repeat (first | apply Wp.seq | apply Wp.blk)); apply Wp.ite rfl
  · intro hle
    apply Wp.skip
    obtain ⟨v, H2, e1, rfl, g2, p2, q2, r2⟩ := hI hr1 hG1 (a := a) (b := a + 20) (by omega) (by omega)
    have e1' : callM kn env (n + 3) (.func (.func 108) []) [.slice R ver 0 L kc ex 1, vi a, vi (a + 20), cv] H1 = some (.tuple [], H2) := e1
    (repeat (first | apply Wp.seq | apply Wp.blk)); (apply Wp.reg; (repeat (apply Ex.cons; (simp (disch := omega) [-getElem?_pos, e1']; rfl))); exact Ex.nil; rfl; (simp; rfl))
    (repeat (first | apply Wp.seq | apply Wp.blk)); (apply Wp.reg; (repeat (apply Ex.cons; (simp (disch := omega) [-getElem?_pos]; rfl))); exact Ex.nil; rfl; (simp; rfl))
    (repeat (first | apply Wp.seq | apply Wp.blk)); (apply Wp.reg; (repeat (apply Ex.cons; (simp (disch := omega) [-getElem?_pos]; rfl))); exact Ex.nil; rfl; (simp; rfl))
    exact ⟨((a + 20, g2), H2), rfl, ⟨by dsimp only; omega, (hpre.same fun k hk => p2.out (.inl hk)).step q2, hp.trans (p2.wide (Nat.zero_le _) (by omega)), r2⟩, by simp [-getElem?_pos]; omega, by simp [-getElem?_pos]⟩
  intro hle
  apply Wp.exit
  obtain ⟨v, H2, e1, rfl, g2, p2, q2, r2⟩ := hI hr1 hG1 (a := a) (b := L) (by omega) (by omega)
  (repeat (first | apply Wp.seq | apply Wp.blk)); (apply Wp.reg; (repeat (apply Ex.cons; (simp (disch := omega) [-getElem?_pos, e1]; rfl))); exact Ex.nil; rfl; (simp; rfl))
  have hp2 := hp.trans (p2.wide (Nat.zero_le _) (Nat.le_refl _))
  have hb2 : Blk key g2 20 L 0 := (hpre.same fun k hk => p2.out (.inl hk)).blk ha (.last (by omega) q2)
  repeat (first | apply Wp.seq | apply Wp.blk)
  apply Wp.loop (α := (Nat × (Nat → Int)) × AHeap) (fun x => [(0, .slice R ver 0 L kc ex 1), (1, vi L), (2, cv), (6, vi x.1.1)]) (·.2)
    (fun x => 0 < x.1.1 ∧ x.1.1 ≤ 2 * L + 20 ∧ Blk key x.1.2 x.1.1 L 0 ∧ PmS f x.1.2 0 L ∧ RowW H0 R ver nv (cellsF x.1.2 L) x.2) (fun x => L - x.1.1) ((20, g2), H2) rfl ⟨by dsimp only; omega, by dsimp only; omega, hb2, hp2, r2⟩ (by dsimp only; omega) (by simp [-getElem?_pos])
  rintro ⟨⟨s, g3⟩, H3⟩ ⟨hs0, hs1, hb3, hp3, hr3⟩
  dsimp only at hs0 hs1 hb3 hp3 hr3 ⊢
  (repeat (first | apply Wp.seq | apply Wp.blk)); (apply Wp.reg; (repeat (apply Ex.cons; (simp (disch := omega) [-getElem?_pos]; rfl))); exact Ex.nil; rfl; (simp; rfl))
  (repeat (first | apply Wp.seq | apply Wp.blk)); apply Wp.ite rfl
  · intro hlt
    apply Wp.skip
    (repeat (first | apply Wp.seq | apply Wp.blk)); (apply Wp.reg; (repeat (apply Ex.cons; (simp (disch := omega) [-getElem?_pos]; rfl))); exact Ex.nil; rfl; (simp; rfl))
    repeat (first | apply Wp.seq | apply Wp.blk)
    apply Wp.loop (α := (Nat × (Nat → Int)) × AHeap) (fun x => [(0, .slice R ver 0 L kc ex 1), (1, vi L), (2, cv), (6, vi s), (7, vi x.1.1), (8, vi (x.1.1 + 2 * s : Nat))]) (·.2)
      (fun x => x.1.1 ≤ L ∧ Pre key x.1.2 (2 * s) x.1.1 ∧ Blk key x.1.2 s L x.1.1 ∧ PmS f x.1.2 0 L ∧ RowW H0 R ver nv (cellsF x.1.2 L) x.2) (fun x => L - x.1.1) ((0, g3), H3) rfl ⟨Nat.zero_le _, .zero, hb3, hp3, hr3⟩ (by dsimp only; omega) (by simp [-getElem?_pos])
    rintro ⟨⟨a, g4⟩, H4⟩ ⟨ha, hpre4, hb4, hp4, hr4⟩
    dsimp only at ha hpre4 hb4 hp4 hr4 ⊢
    have hG4 := PmS.all hp4 (Nat.le_refl _) hG
    (repeat (first | apply Wp.seq | apply Wp.blk)); (apply Wp.reg; (repeat (apply Ex.cons; (simp (disch := omega) [-getElem?_pos]; rfl))); exact Ex.nil; rfl; (simp; rfl))
    (repeat (first | apply Wp.seq | apply Wp.blk)); apply Wp.ite rfl
    · intro hle
      have hle : a + 2 * s ≤ L := by omega
      apply Wp.skip
      have k1 := hb4.fst (by omega)
      have k2 := hb4.snd (by omega)
      have k3 := k2.fst (by omega)
      have k4 := k2.snd (by omega)
      rw [show a + s + s = a + 2 * s by omega] at k3 k4
      obtain ⟨v, H5, e5, rfl, g5, p5, q5, r5⟩ := hM a (a + s) (a + 2 * s) g4 H4 (by omega) (by omega) hle (by omega) hr4 hG4 k1 k3
      have e5' : callM kn env (n + 3) (.func (.func 109) []) [.slice R ver 0 L kc ex 1, vi a, vi (a + s), vi (a + 2 * s), cv] H4 = some (.tuple [], H5) := by
        rw [← e5]; congr <;> simp [-getElem?_pos]
      (repeat (first | apply Wp.seq | apply Wp.blk)); (apply Wp.reg; (repeat (apply Ex.cons; (simp (disch := omega) [-getElem?_pos, e5']; rfl))); exact Ex.nil; rfl; (simp; rfl))
      (repeat (first | apply Wp.seq | apply Wp.blk)); (apply Wp.reg; (repeat (apply Ex.cons; (simp (disch := omega) [-getElem?_pos]; rfl))); exact Ex.nil; rfl; (simp; rfl))
      (repeat (first | apply Wp.seq | apply Wp.blk)); (apply Wp.reg; (repeat (apply Ex.cons; (simp (disch := omega) [-getElem?_pos]; rfl))); exact Ex.nil; rfl; (simp; rfl))
      exact ⟨((a + 2 * s, g5), H5), rfl, ⟨hle, (hpre4.same fun k hk => p5.out (.inl hk)).step q5, k4.same fun k hk => p5.out (.inr hk), hp4.trans (p5.wide (Nat.zero_le _) hle), r5⟩, by simp [-getElem?_pos]; omega, by simp [-getElem?_pos]⟩
    · intro hle
      have hle : L < a + 2 * s := by omega
      apply Wp.exit
      (repeat (first | apply Wp.seq | apply Wp.blk)); (apply Wp.reg; (repeat (apply Ex.cons; (simp (disch := omega) [-getElem?_pos]; rfl))); exact Ex.nil; rfl; (simp; rfl))
      (repeat (first | apply Wp.seq | apply Wp.blk)); (apply Wp.reg; (repeat (apply Ex.cons; (simp (disch := omega) [-getElem?_pos]; rfl))); exact Ex.nil; rfl; (simp; rfl))
      have fin : ∀ (g5 : Nat → Int) (H5 : AHeap), PmS g4 g5 a L → SrS key g5 a L → RowW H0 R ver nv (cellsF g5 L) H5 → ∀ l, SubK [(0, .slice R ver 0 L kc ex 1), (1, vi L), (2, cv), (6, vi (s * 2 : Nat))] l → ∃ y : (Nat × (Nat → Int)) × AHeap, y.2 = H5 ∧ (0 < y.1.1 ∧ y.1.1 ≤ 2 * L + 20 ∧ Blk key y.1.2 y.1.1 L 0 ∧ PmS f y.1.2 0 L ∧ RowW H0 R ver nv (cellsF y.1.2 L) y.2) ∧ L - y.1.1 < L - s ∧ SubK [(0, .slice R ver 0 L kc ex 1), (1, vi L), (2, cv), (6, vi y.1.1)] l := fun g5 H5 p5 q5 r5 l hl =>
        ⟨((s * 2, g5), H5), rfl, ⟨by dsimp only; omega, by dsimp only; omega, by
          dsimp only
          rw [show s * 2 = 2 * s by omega]
          exact (hpre4.same fun k hk => p5.out (.inl hk)).blk ha (.last (by omega) q5), hp4.trans (p5.wide (Nat.zero_le _) (Nat.le_refl _)), r5⟩, by dsimp only; omega, hl⟩
      (repeat (first | apply Wp.seq | apply Wp.blk)); apply Wp.ite rfl
      · intro hml
        have hml : a + s < L := by omega
        have k1 := hb4.fst (by omega)
        have k2 := (hb4.snd (by omega)).one (by omega)
        obtain ⟨v, H5, e5, rfl, g5, p5, q5, r5⟩ := hM a (a + s) L g4 H4 (by omega) (by omega) (Nat.le_refl _) (by omega) hr4 hG4 k1 k2
        have e5' : callM kn env (n + 3) (.func (.func 109) []) [.slice R ver 0 L kc ex 1, vi a, vi (a + s), vi L, cv] H4 = some (.tuple [], H5) := by
          rw [← e5]; congr <;> simp [-getElem?_pos]
        (repeat (first | apply Wp.seq | apply Wp.blk)); (apply Wp.reg; (repeat (apply Ex.cons; (simp (disch := omega) [-getElem?_pos, e5']; rfl))); exact Ex.nil; rfl; (simp; rfl))
        (repeat (first | apply Wp.seq | apply Wp.blk)); (apply Wp.reg; (repeat (apply Ex.cons; (simp (disch := omega) [-getElem?_pos]; rfl))); exact Ex.nil; rfl; (simp; rfl))
        exact fin g5 H5 p5 q5 r5 _ (by simp [-getElem?_pos])
      · intro hml
        apply Wp.skip
        (repeat (first | apply Wp.seq | apply Wp.blk)); (apply Wp.reg; (repeat (apply Ex.cons; (simp (disch := omega) [-getElem?_pos]; rfl))); exact Ex.nil; rfl; (simp; rfl))
        exact fin g4 H4 (PmS.refl _ _ _) (hb4.one (by omega)) hr4 _ (by simp [-getElem?_pos])
  · intro hlt
    apply Wp.exit
    simp [-getElem?_pos, a82]
    exact ⟨rfl, g3, hp3, hb3.one (by omega), hr3⟩
abbrev C55 : List Nat := [0, 1]
theorem c55 (E : StabE kn env) (n : Nat) (hcv : CmpOk kn env cv key G H0 R ver nv) (hr : RowW H0 R ver nv (cellsF f L) H) (hG : ∀ k, k < L → G (f k)) (hL : L < 576460752303423488) (hn : 2 * L + 2 < n) :
    ∃ v H', callM kn env (n + 5) (.func (.func 55) []) [.slice R ver 0 L kc ex 1, cv] H = some (v, H') ∧ MrgR H0 R ver nv L key f 0 L v H' := by
  obtain ⟨v, H1, e1, rfl, h1⟩ := c82 E n hcv hr hG hL hn (kc := kc) (ex := ex)
  refine Wp.call 9 C55 E.f55.e (E.f55.no _ H) (n := n + 4) rfl (by simp [-getElem?_pos]) ?_
  repeat (first | apply Wp.seq | apply Wp.blk | apply Wp.ret | apply Wp.skip | apply Wp.exit | apply Wp.cT rfl | apply Wp.cF rfl | ((apply Wp.reg; (repeat (apply Ex.cons; (simp (disch := omega) [-getElem?_pos, e1]; rfl))); exact Ex.nil; rfl; (simp; rfl))))
  simp [-getElem?_pos, a55]
  exact ⟨rfl, h1⟩
end Go.Proofs.Ythbjfkkjmecaaaa
namespace Go.Proofs.Ythbjfkkjmecaaaa
open Go Go.Vm
variable {kn : Known} {env : Nat → Option AFunc}
variable {H H' H1 : AHeap} {N A B M : Nat} {v v0 : AVal} {rows l : List RowD} {rcs ocs : List (List AVal)} {rc : List AVal} {r : RowD} {x : TxD} {sv rv wv : AVal} {m : Int}
theorem c84 (h : Fn kn env 84 a84) (h64 : Fn kn env 64 a64) (n : Nat) (hs : RdE H 41 v ocs) (hl : v.lies (· < H.next)) (hR : RowsC ocs l) (hB : H.rowAt B 0 = some [vi m]) (hBn : B < H.next) (hm : l.length < 400000000000) (hn : l.length + 5 < n) :
    ∃ (z : Int) (H' : AHeap), callM kn env (n + 2) (.func (.func 84) []) [v, .func (.func 64) [.ptr B 0 0]] H = some (vi z, H') ∧ Grow H H' ∧ decide (0 ≤ z) = l.any (badB m) := by
  have hl1 := hR.1
  have hlen : aLenS v = some (vi l.length) := by rw [← hl1]; exact hs.lenS
  obtain ⟨v', H', hc, z, rfl, hg, hz⟩ := Wp.call (R := fun v' H' => ∃ z : Int, v' = vi z ∧ Grow H H' ∧ decide (0 ≤ z) = l.any (badB m)) 19 [0, 1, 4, 5, 7, 8, 9, 16] h.e (h.no [v, .func (.func 64) [.ptr B 0 0]] H) rfl (by simp [-getElem?_pos]) (n := n + 1) (by
    repeat (first | apply Wp.seq | apply Wp.blk | apply Wp.ret | apply Wp.skip | apply Wp.exit | apply Wp.cT rfl | apply Wp.cF rfl | ((apply Wp.reg; (repeat (apply Ex.cons; (simp (disch := omega) [-getElem?_pos, hlen]; rfl))); exact Ex.nil; rfl; (simp; rfl))))
    apply Wp.loop (α := Nat × AHeap) (fun y => [(0, v), (1, .func (.func 64) [.ptr B 0 0]), (7, vi l.length), (8, vi y.1)]) (·.2) (fun y => y.1 ≤ l.length ∧ Grow H y.2 ∧ ∀ i r, i < y.1 → l[i]? = some r → badB m r = false) (fun y => l.length - y.1) (0, H) rfl ⟨by omega, Grow.refl _, fun i r hi => by omega⟩ (by simp [-getElem?_pos]; omega) (by simp [-getElem?_pos])
    rintro ⟨j, H2⟩ ⟨hj, hg, hno⟩
    dsimp only at hj hg hno ⊢
    (repeat (first | apply Wp.seq | apply Wp.blk)); (apply Wp.reg; (repeat (apply Ex.cons; (simp (disch := omega) [-getElem?_pos]; rfl))); exact Ex.nil; rfl; (simp; rfl))
    (repeat (first | apply Wp.seq | apply Wp.blk)); apply Wp.ite rfl
    · intro hjl
      obtain ⟨r, hr⟩ : ∃ r, l[j]? = some r := ⟨_, List.getElem?_eq_getElem (by omega)⟩
      obtain ⟨rc, hrc⟩ : ∃ rc, ocs[j]? = some rc := ⟨_, List.getElem?_eq_getElem (by omega)⟩
      have hRC := hR.2 _ rc r hrc hr
      obtain ⟨R0, ver0, off, kc, ex, cells, hv, hrow, hc1, hc2⟩ := hs.at hrc
      rw [hl1] at hv
      have hrow2 : H2.rowAt R0 ver0 = some cells := by rw [hg.rowAt (hl _ _ _ _ _ _ _ hv)]; exact hrow
      obtain ⟨H3, hb, hg3⟩ := c64 h64 n hRC (H := H2) (B := B) (m := m) (by rw [hg.rowAt hBn]; exact hB) (by have := hg.next; omega)
      apply Wp.skip
      cases hbad : badB m r with
      | true =>
        rw [hbad] at hb
        repeat (first | apply Wp.seq | apply Wp.blk | apply Wp.ret | apply Wp.skip | apply Wp.exit | apply Wp.cT rfl | apply Wp.cF rfl | ((apply Wp.reg; (repeat (apply Ex.cons; (simp (disch := omega) [-getElem?_pos, hv, hrow2, hc2, hb]; rfl))); exact Ex.nil; rfl; (simp; rfl))))
        simp [-getElem?_pos, a84]
        exact ⟨hg.trans hg3, r, List.mem_of_getElem? hr, hbad⟩
      | false =>
        rw [hbad] at hb
        repeat (first | apply Wp.seq | apply Wp.blk | apply Wp.ret | apply Wp.skip | apply Wp.exit | apply Wp.cT rfl | apply Wp.cF rfl | ((apply Wp.reg; (repeat (apply Ex.cons; (simp (disch := omega) [-getElem?_pos, hv, hrow2, hc2, hb]; rfl))); exact Ex.nil; rfl; (simp; rfl))))
        exact ⟨(j + 1, H3), rfl, ⟨by show j + 1 ≤ _; omega, hg.trans hg3, fun i q hi hq => by
          by_cases e : i = j
          · subst e; rw [hr] at hq; cases hq; exact hbad
          · exact hno i q (by show i < j; have : i < j + 1 := hi; omega) hq⟩, by show _ - (j + 1) < _ - j; omega, by simp [-getElem?_pos, hv]⟩
    · intro hjl
      apply Wp.exit
      repeat (first | apply Wp.seq | apply Wp.blk | apply Wp.ret | apply Wp.skip | apply Wp.exit | apply Wp.cT rfl | apply Wp.cF rfl | ((apply Wp.reg; (repeat (apply Ex.cons; (simp (disch := omega) [-getElem?_pos]; rfl))); exact Ex.nil; rfl; (simp; rfl))))
      simp [-getElem?_pos, a84]
      refine ⟨hg, fun r hr => ?_⟩
      obtain ⟨i, hi, he⟩ := List.getElem_of_mem hr
      exact hno i r (by omega) (by rw [List.getElem?_eq_getElem hi, he]))
  exact ⟨z, H', hc, hg, hz⟩
theorem c63 (h : Fn kn env 63 a63) (h84 : Fn kn env 84 a84) (h64 : Fn kn env 64 a64) (n : Nat) (hs : RdE H 41 v ocs) (hl : v.lies (· < H.next)) (hR : RowsC ocs l) (hB : H.rowAt B 0 = some [vi m]) (hBn : B < H.next) (hm : l.length < 400000000000) (hn : l.length + 5 < n) :
    ∃ H', callM kn env (n + 3) (.func (.func 63) []) [v, .func (.func 64) [.ptr B 0 0]] H = some (abool (l.any (badB m)), H') ∧ Grow H H' := by
  obtain ⟨z, H1, hc, hg, hz⟩ := c84 h84 h64 n hs hl hR hB hBn hm hn
  rw [← hz]
  refine ⟨H1, Wp.call1 9 [0, 1, 4] h.e (h.no [v, .func (.func 64) [.ptr B 0 0]] H) rfl (by simp [-getElem?_pos]) ?_, hg⟩
  repeat (first | apply Wp.seq | apply Wp.blk | apply Wp.ret | apply Wp.skip | apply Wp.exit | apply Wp.cT rfl | apply Wp.cF rfl | ((apply Wp.reg; (repeat (apply Ex.cons; (simp (disch := omega) [-getElem?_pos, hc]; rfl))); exact Ex.nil; rfl; (simp; rfl))))
  simp [-getElem?_pos, a63]
theorem c66 (h : Fn kn env 66 a66) (n : Nat) {es : List (List AVal)} (hv : RdE H 32 v es) (hvl : v.lies (· < H.next)) (h0 : es ≠ []) (hone : ∀ e ∈ es, e.all AVal.one = true) (hl : es.length * 32 ≤ 140737488355328) :
    ∃ v' H', callM kn env (n + 1) (.func (.func 66) []) [v] H = some (v', H') ∧ Grow H H' ∧ SliceE H' H.next 32 v' es := by
  rcases id hv with ⟨_, ⟨rfl, h1⟩ | ⟨R, ver, off, kcap, ex, cells, rfl, h2⟩⟩
  · exact absurd h1 h0
  · have hg := Grow.push H (.row [some (0, [])])
    have hv1 := hv.grow hg hvl
    obtain ⟨ha, hs⟩ := hv1.appendNew (bytes := 32) (X := H.next) h0 (by omega) (by omega) hone hl (by simp [-getElem?_pos])
    refine ⟨_, _, Wp.call1 8 [0, 2, 4] h.e (h.no _ _) rfl (by simp [-getElem?_pos]) ?_, hg.trans (Grow.push _ _), hs.move (by simp [-getElem?_pos]) (Nat.le_refl _) fun _ _ _ => rfl⟩
    repeat (first | apply Wp.seq | apply Wp.blk | apply Wp.ret | apply Wp.skip | apply Wp.exit | apply Wp.cT rfl | apply Wp.cF rfl | ((apply Wp.reg; (repeat (apply Ex.cons; (simp (disch := omega) [-getElem?_pos, aEqP, ha, aFill, repl]; rfl))); exact Ex.nil; rfl; (simp; rfl))))
    simp [-getElem?_pos, a66]
end Go.Proofs.Ythbjfkkjmecaaaa
namespace Go.Proofs.Ythbjfkkjmecaaaa
open Go Go.Vm
variable {kn : Known} {env : Nat → Option AFunc}
variable {H H' H1 : AHeap} {N A B M : Nat} {v v0 : AVal} {rows l : List RowD} {rcs ocs : List (List AVal)} {rc : List AVal} {r : RowD} {x : TxD} {sv rv wv : AVal} {m : Int}
structure FindD where
  good : Bool
  tx : Int
  read : Int
  want : List AVal
def FindD.cells (f : FindD) : List AVal := abool f.good :: vi f.tx :: vi f.read :: f.want
def goodF : FindD := ⟨true, -1, -1, zeroV⟩
def zeroF : FindD := ⟨false, 0, 0, zeroV⟩
abbrev MapD := List (List AVal)
def atM (m : MapD) (b : Int) : List AVal := (m[b.toNat]?).getD zeroV
open Classical in
noncomputable def doRow (place : Int) (st : FindD × MapD × Nat) (r : RowD) : FindD × MapD × Nat :=
  if r.kind = 6 then (st.1, st.2.1.set r.blk.toNat r.val, st.2.2)
  else (if st.1.good = true ∧ atM st.2.1 r.blk ≠ r.val then ⟨false, place, st.2.2, atM st.2.1 r.blk⟩ else st.1, st.2.1, st.2.2 + 1)
def ownAt (rows : List RowD) (txs : List TxD) (p : Int) : List RowD := match txs[p.toNat]? with
  | some x => ownD rows x
  | none => []
noncomputable def doTx (rows : List RowD) (txs : List TxD) (st : FindD × MapD) (p : Int) : FindD × MapD :=
  let z := (ownAt rows txs p).foldl (doRow p) (st.1, st.2, 0)
  (z.1, z.2.1)
def okP (rows : List RowD) (m : Int) (txs : List TxD) (p : Int) : Prop := 0 ≤ p ∧ p < txs.length ∧ (ownAt rows txs p).any (badB m) = false
def okO (rows : List RowD) (m : Int) (txs : List TxD) (ps : List Int) : Prop := ps.Nodup ∧ ∀ p ∈ ps, okP rows m txs p
abbrev zeroM : MapD := List.replicate 64 zeroV
open Classical in
noncomputable def byD (rows : List RowD) (m : Int) (order : List Int) : Except Int (FindD × MapD) :=
  if ¬ (1 ≤ m ∧ m ≤ 64) then .error 2 else match txsD rows with
  | none => .error 230
  | some txs => if okO rows m txs order then let z := order.foldl (doTx rows txs) (goodF, zeroM); .ok (z.1, z.2.take m.toNat) else .error 230
def ByRes (H' : AHeap) (N : Nat) (t : Except Int (FindD × MapD)) (v : AVal) : Prop := match t with
  | .ok (f, mm) => ∃ mv, v = .tuple [.agg f.cells, mv, vi 0] ∧ SliceE H' N 32 mv mm ∧ IsVal f.want ∧ ∀ e ∈ mm, IsVal e
  | .error c => v = .tuple [.agg zeroF.cells, anil, vi c]
structure IsMap (m : MapD) : Prop where
  len : m.length = 64
  val : ∀ v ∈ m, IsVal v
theorem zeroM_is : IsMap zeroM := ⟨by simp [-getElem?_pos], fun v hv => by rw [(List.mem_replicate.1 hv).2]; exact zeroV_is⟩
theorem IsMap.set {mm : MapD} (h : IsMap mm) {k : Nat} {u : List AVal} (hu : IsVal u) : IsMap (mm.set k u) := ⟨by rw [List.length_set]; exact h.len, fun v hv => by
  rcases List.mem_or_eq_of_mem_set hv with hv | rfl
  · exact h.val v hv
  · exact hu⟩
theorem IsMap.at {mm : MapD} (h : IsMap mm) {b : Int} (h0 : 0 ≤ b) (h1 : b < 64) : mm[b.toNat]? = some (atM mm b) ∧ IsVal (atM mm b) := by
  have hl := h.len
  have : mm[b.toNat]? = some (mm[b.toNat]'(by omega)) := List.getElem?_eq_getElem (by omega)
  unfold atM
  rw [this]
  exact ⟨rfl, h.val _ (List.getElem_mem _)⟩
structure OwnOk (H : AHeap) (N : Nat) (rows : List RowD) (m : Int) (txs : List TxD) (es : AEntries) (ps : List Int) : Prop where
  len : es.length = ps.length
  key : es.map (·.1) = ps.map vi
  nodup : ps.Nodup
  ok : ∀ p ∈ ps, okP rows m txs p
  rows_ : ∀ (i : Nat) (e : AVal × AVal × Nat) (p : Int), es[i]? = some e → ps[i]? = some p → ∃ ocs, SliceE H N 41 e.2.1 ocs ∧ RowsC ocs (ownAt rows txs p)
theorem OwnOk.nil {txs : List TxD} : OwnOk H N rows m txs [] [] := ⟨rfl, rfl, List.nodup_nil, by simp [-getElem?_pos], fun i e p h => by simp [-getElem?_pos] at h⟩
variable {txs : List TxD} {es : AEntries} {ps : List Int}
theorem nodup_vi (h : ps.Nodup) : (ps.map vi).Nodup := by
  exact List.pairwise_map.2 (h.imp fun hne e => hne (by simpa [-getElem?_pos] using e))
theorem OwnOk.ints (h : OwnOk H N rows m txs es ps) : ∀ e ∈ es, ∃ n, e.1 = vi n := fun e he => by
  have : e.1 ∈ es.map (·.1) := List.mem_map_of_mem (f := fun e : AVal × AVal × Nat => e.1) he
  rw [h.key] at this
  obtain ⟨p, _, hp⟩ := List.mem_map.1 this
  exact ⟨p, hp.symm⟩
theorem OwnOk.find (h : OwnOk H N rows m txs es ps) {i : Nat} {p : Int} (hp : ps[i]? = some p) : ∃ w b ocs, es[i]? = some (vi p, w, b) ∧ aFind .i64 p es 0 = some (some (i, w, b)) ∧ SliceE H N 41 w ocs ∧ RowsC ocs (ownAt rows txs p) := by
  have hi := (List.getElem?_eq_some_iff.1 hp).1
  have hl := h.len
  obtain ⟨⟨k, w, b⟩, he⟩ : ∃ e, es[i]? = some e := ⟨_, List.getElem?_eq_getElem (by omega)⟩
  have hk : k = vi p := by
    have : (es.map (·.1))[i]? = some k := by rw [List.getElem?_map, he]; rfl
    rw [h.key, List.getElem?_map, hp] at this
    simpa [-getElem?_pos] using this.symm
  subst hk
  obtain ⟨ocs, h1, h2⟩ := h.rows_ i _ p he hp
  refine ⟨w, b, ocs, he, ?_, h1, h2⟩
  have := find_at (i := 0) h.ints (by rw [h.key]; exact nodup_vi h.nodup) he
  rw [Nat.zero_add] at this
  exact this
theorem OwnOk.findNo (h : OwnOk H N rows m txs es ps) {p : Int} (hp : p ∉ ps) : aFind .i64 p es 0 = some none := find_no fun e he => by
  have : e.1 ∈ es.map (·.1) := List.mem_map_of_mem (f := fun e : AVal × AVal × Nat => e.1) he
  rw [h.key] at this
  obtain ⟨q, hq, e1⟩ := List.mem_map.1 this
  exact ⟨q, e1.symm, fun e2 => hp (by rw [← e2]; exact hq)⟩
theorem OwnOk.push (h : OwnOk H N rows m txs es ps) {p : Int} {w : AVal} {clock : Nat} (hno : p ∉ ps) (hok : okP rows m txs p) (hs : SliceE H N 41 w ocs) (hR : RowsC ocs (ownAt rows txs p)) : OwnOk H N rows m txs (es ++ [(vi p, w, clock)]) (ps ++ [p]) := by
  have hl := h.len
  refine ⟨by simp [-getElem?_pos, hl], by simp [-getElem?_pos, h.key], List.nodup_append.2 ⟨h.nodup, by simp [-getElem?_pos], fun a ha b hb => by simp [-getElem?_pos] at hb; subst hb; exact fun e => hno (by rw [← e]; exact ha)⟩, fun q hq => ?_, fun i e q h1 h2 => ?_⟩
  · rcases List.mem_append.1 hq with hq | hq
    · exact h.ok q hq
    · simp [-getElem?_pos] at hq; subst hq; exact hok
  · rcases Nat.lt_or_ge i ps.length with hi | hi
    · rw [List.getElem?_append_left (by omega)] at h1 h2
      exact h.rows_ i e q h1 h2
    · have hi2 := (List.getElem?_eq_some_iff.1 h2).1
      simp [-getElem?_pos] at hi2
      have : i = ps.length := by omega
      subst this
      rw [List.getElem?_concat_length] at h2
      rw [← hl, List.getElem?_concat_length] at h1
      cases h1; cases h2
      exact ⟨ocs, hs, hR⟩
theorem OwnOk.move (h : OwnOk H N rows m txs es ps) (hn : H.next ≤ H'.next) (hg : ∀ A, N ≤ A → A < H.next → H'.get A = H.get A) : OwnOk H' N rows m txs es ps := ⟨h.len, h.key, h.nodup, h.ok, fun i e p h1 h2 => by
  obtain ⟨ocs, a, b⟩ := h.rows_ i e p h1 h2
  exact ⟨ocs, a.move (Nat.le_refl _) hn hg, b⟩⟩
end Go.Proofs.Ythbjfkkjmecaaaa
