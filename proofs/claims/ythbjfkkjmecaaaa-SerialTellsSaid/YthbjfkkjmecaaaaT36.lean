/- Walks: insertion sort with a comparison. -/
import Derived.Test.YthbjfkkjmecaaaaT35
set_option linter.unusedVariables false
set_option linter.unusedSimpArgs false
namespace Go.Proofs.Ythbjfkkjmecaaaa
open Go Go.Vm
variable {kn : Known} {env : Nat → Option AFunc}
variable {H0 H H' : AHeap} {R ver nv L a b c m n i j kc : Nat} {ex : Bool} {f g : Nat → Int} {cv : AVal} {key : Int → Int} {G : Int → Prop}
def cmpI (x y : Int) : Int := if x < y then -1 else if y < x then 1 else 0
theorem cmpI_lt (x y : Int) : cmpI x y < 0 ↔ x < y := by
  unfold cmpI; split
  · omega
  · split <;> omega
theorem cmpI_t {x y : Int} (h : x < y) : cmpI x y = -1 := if_pos h
def CmpOk (kn : Known) (env : Nat → Option AFunc) (cv : AVal) (key : Int → Int) (G : Int → Prop) (H0 : AHeap) (R ver nv : Nat) : Prop :=
  ∀ (n : Nat) (x y : Int) (cells : List AVal) (H : AHeap), G x → G y → RowW H0 R ver nv cells H → callM kn env (n + 1) cv [vi x, vi y] H = some (vi (cmpI (key x) (key y)), H)
theorem PmS.all (h : PmS f g a b) (hb : b ≤ L) (hG : ∀ k, k < L → G (f k)) : ∀ k, k < L → G (g k) := fun k hk => by
  obtain ⟨s, t, h1, _, h3⟩ := h
  by_cases hk2 : a ≤ k ∧ k < b
  · obtain ⟨q1, q2, _, q3⟩ := h1 k hk2.1 hk2.2
    rw [q3]; exact hG _ (by omega)
  · rw [h3 k (by omega)]; exact hG k hk
abbrev C108 : List Nat := [0, 1, 2, 3, 8, 9, 14, 34]
theorem c108 (h : Fn kn env 108 a108) (n : Nat) (hcv : CmpOk kn env cv key G H0 R ver nv) (hr : RowW H0 R ver nv (cellsF f L) H) (hG : ∀ k, k < L → G (f k)) (hab : a ≤ b) (hb : b ≤ L) (hL : L < 4611686018427387904) (hn : L < n) :
    ∃ v H', callM kn env (n + 2) (.func (.func 108) []) [.slice R ver 0 L kc ex 1, vi a, vi b, cv] H = some (v, H') ∧ (v = .tuple [] ∧ ∃ g, PmS f g a b ∧ SrS key g a b ∧ RowW H0 R ver nv (cellsF g L) H') := by
  refine Wp.call 53 C108 h.e (h.no _ H) (n := n + 1) rfl (by simp [-getElem?_pos]) ?_
  (repeat (first | apply Wp.seq | apply Wp.blk)); (apply Wp.reg; (repeat (apply Ex.cons; (simp (disch := omega) [-getElem?_pos]; rfl))); exact Ex.nil; rfl; (simp; rfl))
  repeat (first | apply Wp.seq | apply Wp.blk)
  apply Wp.loop (α := (Nat × (Nat → Int)) × AHeap) (fun x => [(0, .slice R ver 0 L kc ex 1), (1, vi a), (2, vi b), (3, cv), (8, vi x.1.1)]) (·.2)
    (fun x => a < x.1.1 ∧ x.1.1 ≤ b + 1 ∧ (a < b → x.1.1 ≤ b) ∧ PmS f x.1.2 a b ∧ SrS key x.1.2 a x.1.1 ∧ RowW H0 R ver nv (cellsF x.1.2 L) x.2) (fun x => b + 1 - x.1.1) ((a + 1, f), H) rfl ⟨by simp [-getElem?_pos], by dsimp only; omega, fun q => by dsimp only; omega, PmS.refl _ _ _, fun p q h1 h2 h3 => by dsimp only at h3; omega, hr⟩ (by dsimp only; omega) (by simp [-getElem?_pos])
  rintro ⟨⟨i, g⟩, H1⟩ ⟨hi0, hi1, hi2, hp, hs, hr1⟩
  dsimp only at hi0 hi1 hi2 hp hs hr1 ⊢
  (repeat (first | apply Wp.seq | apply Wp.blk)); (apply Wp.reg; (repeat (apply Ex.cons; (simp (disch := omega) [-getElem?_pos]; rfl))); exact Ex.nil; rfl; (simp; rfl))
  (repeat (first | apply Wp.seq | apply Wp.blk)); apply Wp.ite rfl
  · intro hib
    apply Wp.skip
    (repeat (first | apply Wp.seq | apply Wp.blk)); (apply Wp.reg; (repeat (apply Ex.cons; (simp (disch := omega) [-getElem?_pos]; rfl))); exact Ex.nil; rfl; (simp; rfl))
    repeat (first | apply Wp.seq | apply Wp.blk)
    apply Wp.loop (α := (Nat × (Nat → Int)) × AHeap) (fun x => [(0, .slice R ver 0 L kc ex 1), (1, vi a), (2, vi b), (3, cv), (8, vi i), (9, vi x.1.1)]) (·.2)
      (fun x => a ≤ x.1.1 ∧ x.1.1 ≤ i ∧ PmS f x.1.2 a b ∧ InsS key x.1.2 a (i + 1) x.1.1 ∧ RowW H0 R ver nv (cellsF x.1.2 L) x.2) (fun x => x.1.1) ((i, g), H1) rfl ⟨by dsimp only; omega, Nat.le_refl _, hp, InsS.start hs, hr1⟩ (by dsimp only; omega) (by simp [-getElem?_pos])
    rintro ⟨⟨j, g1⟩, H2⟩ ⟨hj0, hj1, hp1, hs1, hr2⟩
    dsimp only at hj0 hj1 hp1 hs1 hr2 ⊢
    have hG1 := PmS.all hp1 hb hG
    by_cases hja : a < j
    · obtain ⟨k, rfl⟩ : ∃ k, j = k + 1 := ⟨j - 1, by omega⟩
      have r1 := hr2.at
      have x1 := cellsF_at (f := g1) (L := L) (k := k + 1) (by omega)
      have x2 := cellsF_at (f := g1) (L := L) (k := k) (by omega)
      have hca := hcv n (g1 (k + 1)) (g1 k) _ H2 (hG1 _ (by omega)) (hG1 _ (by omega)) hr2
      have hja' : (a : Int) < k + 1 := by omega
      (repeat (first | apply Wp.seq | apply Wp.blk)); (apply Wp.draw; (repeat (first | ((first | apply Dr.q rfl rfl | apply Dr.r rfl rfl); (simp (disch := omega) [-getElem?_pos, r1, x1, x2, hca, hja', cmpI_lt]; rfl); (simp; rfl)) | (apply Dr.imm rfl; (simp (disch := omega) [-getElem?_pos, r1, x1, x2, hca, hja', cmpI_lt]; rfl); (focus first | (simp [-getElem?_pos]; done) | (simp [-getElem?_pos]; omega))))); exact Dr.nil; rfl; (first | (focus (simp (disch := omega) [-getElem?_pos, r1, x1, x2, hca, hja', cmpI_lt]; done)) | rfl); (simp; rfl))
      (repeat (first | apply Wp.seq | apply Wp.blk)); apply Wp.ite rfl
      · intro hlt
        apply Wp.skip
        obtain ⟨H3, H4, w1, w2, n1, n2, r2⟩ := RowW.swap hr2 (i := k + 1) (j := k) (by omega) (by omega)
        (repeat (first | apply Wp.seq | apply Wp.blk)); (apply Wp.draw; (repeat (first | ((first | apply Dr.q rfl rfl | apply Dr.r rfl rfl); (simp (disch := omega) [-getElem?_pos, r1, x1, x2, w1, w2]; rfl); (simp; rfl)) | (apply Dr.imm rfl; (simp (disch := omega) [-getElem?_pos, r1, x1, x2, w1, w2]; rfl); exact Nat.le_of_eq (by simp [-getElem?_pos, n1, n2])))); exact Dr.nil; rfl; (first | (focus (simp (disch := omega) [-getElem?_pos, r1, x1, x2, w1, w2]; done)) | rfl); (simp; rfl))
        (repeat (first | apply Wp.seq | apply Wp.blk)); (apply Wp.reg; (repeat (apply Ex.cons; (simp (disch := omega) [-getElem?_pos]; rfl))); exact Ex.nil; rfl; (simp; rfl))
        exact ⟨((k, swp g1 (k + 1) k), H4), rfl, ⟨by dsimp only; omega, by dsimp only; omega, hp1.trans (PmS.swp ⟨by omega, by omega⟩ ⟨by omega, by omega⟩), hs1.step hlt (by omega) (by omega), r2⟩, by simp [-getElem?_pos], by simp [-getElem?_pos]⟩
      · intro hlt
        apply Wp.exit
        (repeat (first | apply Wp.seq | apply Wp.blk)); (apply Wp.reg; (repeat (apply Ex.cons; (simp (disch := omega) [-getElem?_pos]; rfl))); exact Ex.nil; rfl; (simp; rfl))
        exact ⟨((i + 1, g1), H2), rfl, ⟨by dsimp only; omega, by dsimp only; omega, fun q => by dsimp only; omega, hp1, hs1.done (.inr (by rw [Nat.add_sub_cancel]; omega)) (by omega), hr2⟩, by simp [-getElem?_pos]; omega, by simp [-getElem?_pos]⟩
    · have : j = a := by omega
      subst this
      (repeat (first | apply Wp.seq | apply Wp.blk)); (apply Wp.draw; (repeat (first | ((first | apply Dr.q rfl rfl | apply Dr.r rfl rfl); (simp (disch := omega) [-getElem?_pos]; rfl); (simp; rfl)) | (apply Dr.imm rfl; (simp (disch := omega) [-getElem?_pos]; rfl); (focus first | (simp [-getElem?_pos]; done) | (simp [-getElem?_pos]; omega))))); exact Dr.nil; rfl; (first | (focus (simp (disch := omega) [-getElem?_pos]; done)) | rfl); (simp; rfl))
      apply Wp.cF rfl
      apply Wp.exit
      (repeat (first | apply Wp.seq | apply Wp.blk)); (apply Wp.reg; (repeat (apply Ex.cons; (simp (disch := omega) [-getElem?_pos]; rfl))); exact Ex.nil; rfl; (simp; rfl))
      exact ⟨((i + 1, g1), H2), rfl, ⟨by dsimp only; omega, by dsimp only; omega, fun q => by dsimp only; omega, hp1, hs1.done (.inl rfl) (by omega), hr2⟩, by simp [-getElem?_pos]; omega, by simp [-getElem?_pos]⟩
  · intro hib
    apply Wp.exit
    simp [-getElem?_pos, a108]
    exact ⟨g, hp, hs.part (Nat.le_refl _) (by omega), hr1⟩
end Go.Proofs.Ythbjfkkjmecaaaa
namespace Go.Proofs.Ythbjfkkjmecaaaa
open Go Go.Vm
variable {kn : Known} {env : Nat → Option AFunc}
variable {H0 H H' : AHeap} {R ver nv L a b c m n i j kc : Nat} {ex : Bool} {f g : Nat → Int} {cv : AVal} {key : Int → Int} {G : Int → Prop}
theorem shr1 (a b : Nat) : ((a : Int) + b).fdiv (2 ^ min 1 IntKind.u64.bits) = (((a + b) / 2 : Nat) : Int) := by
  have : (2 : Int) ^ min 1 IntKind.u64.bits = 2 := by decide
  rw [this, Int.fdiv_eq_ediv_of_nonneg _ (by omega)]
  omega
def MrgR (H0 : AHeap) (R ver nv L : Nat) (key : Int → Int) (f : Nat → Int) (a b : Nat) (v : AVal) (H' : AHeap) : Prop := v = .tuple [] ∧ ∃ g, PmS f g a b ∧ SrS key g a b ∧ RowW H0 R ver nv (cellsF g L) H'
abbrev C109 : List Nat := [0, 1, 2, 3, 4, 10, 11, 12, 13, 14, 15, 16, 17, 18, 19, 20, 21, 22, 23, 24, 28, 33, 50, 58, 80, 85, 103, 110, 140, 151, 171, 185, 199, 213]
set_option maxHeartbeats 4000000 in
theorem c109a (h : Fn kn env 109 a109) (n : Nat) (hcv : CmpOk kn env cv key G H0 R ver nv) (hr : RowW H0 R ver nv (cellsF f L) H) (hG : ∀ k, k < L → G (f k)) (hb : a + 1 < b) (hbL : b ≤ L) (hL : L < 4611686018427387904) (hn : L < n) (hB : SrS key f (a + 1) b) :
    ∃ v H', callM kn env (n + 2) (.func (.func 109) []) [.slice R ver 0 L kc ex 1, vi a, vi (a + 1 : Nat), vi b, cv] H = some (v, H') ∧ MrgR H0 R ver nv L key f a b v H' := by
  refine Wp.call 220 C109 h.e (h.no _ H) (n := n + 1) rfl (by simp [-getElem?_pos]) ?_
  have t1 : (a : Int) + 1 - a = 1 := by omega
  (repeat (first | apply Wp.seq | apply Wp.blk)); (apply Wp.reg; (repeat (apply Ex.cons; (simp (disch := omega) [-getElem?_pos, t1]; rfl))); exact Ex.nil; rfl; (simp; rfl))
  apply Wp.cT rfl
  (repeat (first | apply Wp.seq | apply Wp.blk)); (apply Wp.reg; (repeat (apply Ex.cons; (simp (disch := omega) [-getElem?_pos]; rfl))); exact Ex.nil; rfl; (simp; rfl))
  (repeat (first | apply Wp.seq | apply Wp.blk)); (apply Wp.reg; (repeat (apply Ex.cons; (simp (disch := omega) [-getElem?_pos]; rfl))); exact Ex.nil; rfl; (simp; rfl))
  repeat (first | apply Wp.seq | apply Wp.blk)
  have rr := hr.at
  have xa := cellsF_at (f := f) (L := L) (k := a) (by omega)
  apply Wp.loop (α := (Nat × Nat) × AHeap) (fun x => [(0, .slice R ver 0 L kc ex 1), (1, vi a), (2, vi (a + 1 : Nat)), (3, vi b), (4, cv), (10, vi x.1.1), (11, vi x.1.2)]) (·.2)
    (fun x => x.2 = H ∧ a + 1 ≤ x.1.1 ∧ x.1.1 ≤ x.1.2 ∧ x.1.2 ≤ b ∧ (x.1.1 = a + 1 ∨ key (f (x.1.1 - 1)) < key (f a)) ∧ (x.1.2 = b ∨ key (f a) ≤ key (f x.1.2))) (fun x => x.1.2 - x.1.1) ((a + 1, b), H) rfl ⟨rfl, Nat.le_refl _, by dsimp only; omega, Nat.le_refl _, .inl rfl, .inl rfl⟩ (by dsimp only; omega) (by simp [-getElem?_pos])
  rintro ⟨⟨i, j⟩, H1⟩ ⟨rfl, hi0, hij, hj, hc1, hc2⟩
  dsimp only at hi0 hij hj hc1 hc2 ⊢
  (repeat (first | apply Wp.seq | apply Wp.blk)); (apply Wp.reg; (repeat (apply Ex.cons; (simp (disch := omega) [-getElem?_pos]; rfl))); exact Ex.nil; rfl; (simp; rfl))
  (repeat (first | apply Wp.seq | apply Wp.blk)); apply Wp.ite rfl
  · intro hlt
    apply Wp.skip
    obtain ⟨q, hq⟩ : ∃ q, q = (i + j) / 2 := ⟨_, rfl⟩
    have hsh := shr1 i j
    rw [← hq] at hsh
    (repeat (first | apply Wp.seq | apply Wp.blk)); (apply Wp.reg; (repeat (apply Ex.cons; (simp (disch := omega) [-getElem?_pos, hsh]; rfl))); exact Ex.nil; rfl; (simp; rfl))
    have xq := cellsF_at (f := f) (L := L) (k := q) (by omega)
    have hca := hcv n (f q) (f a) _ H1 (hG _ (by omega)) (hG _ (by omega)) hr
    (repeat (first | apply Wp.seq | apply Wp.blk)); (apply Wp.draw; (repeat (first | ((first | apply Dr.q rfl rfl | apply Dr.r rfl rfl); (simp (disch := omega) [-getElem?_pos, rr, xq, xa, hca, cmpI_lt]; rfl); (simp; rfl)) | (apply Dr.imm rfl; (simp (disch := omega) [-getElem?_pos, rr, xq, xa, hca, cmpI_lt]; rfl); (focus first | (simp [-getElem?_pos]; done) | (simp [-getElem?_pos]; omega))))); exact Dr.nil; rfl; (first | (focus (simp (disch := omega) [-getElem?_pos, rr, xq, xa, hca, cmpI_lt]; done)) | rfl); (simp; rfl))
    (repeat (first | apply Wp.seq | apply Wp.blk)); apply Wp.ite rfl
    · intro hk
      (repeat (first | apply Wp.seq | apply Wp.blk)); (apply Wp.reg; (repeat (apply Ex.cons; (simp (disch := omega) [-getElem?_pos]; rfl))); exact Ex.nil; rfl; (simp; rfl))
      exact ⟨((q + 1, j), H1), rfl, ⟨rfl, by dsimp only; omega, by dsimp only; omega, hj, .inr (by dsimp only; rw [Nat.add_sub_cancel]; exact hk), hc2⟩, by simp [-getElem?_pos]; omega, by simp [-getElem?_pos]⟩
    · intro hk
      (repeat (first | apply Wp.seq | apply Wp.blk)); (apply Wp.reg; (repeat (apply Ex.cons; (simp (disch := omega) [-getElem?_pos]; rfl))); exact Ex.nil; rfl; (simp; rfl))
      exact ⟨((i, q), H1), rfl, ⟨rfl, hi0, by dsimp only; omega, by dsimp only; omega, hc1, .inr (by dsimp only; omega)⟩, by simp [-getElem?_pos]; omega, by simp [-getElem?_pos]⟩
  · intro hlt
    have : i = j := by omega
    subst this
    apply Wp.exit
    (repeat (first | apply Wp.seq | apply Wp.blk)); (apply Wp.reg; (repeat (apply Ex.cons; (simp (disch := omega) [-getElem?_pos]; rfl))); exact Ex.nil; rfl; (simp; rfl))
    repeat (first | apply Wp.seq | apply Wp.blk)
    have t2 : (i : Int) - 1 = ((i - 1 : Nat) : Int) := by omega
    apply Wp.loop (α := Nat × AHeap) (fun x => [(0, .slice R ver 0 L kc ex 1), (10, vi i), (13, vi x.1)]) (·.2)
      (fun x => a ≤ x.1 ∧ x.1 ≤ i - 1 ∧ RowW H0 R ver nv (cellsF (rot f a (a + 1) (x.1 + 1)) L) x.2) (fun x => i - 1 - x.1) (a, H1) rfl ⟨Nat.le_refl _, by dsimp only; omega, by dsimp only; rw [rot_left0]; exact hr⟩ (by dsimp only; omega) (by simp [-getElem?_pos])
    rintro ⟨k, H2⟩ ⟨hk0, hk1, hr2⟩
    dsimp only at hk0 hk1 hr2 ⊢
    (repeat (first | apply Wp.seq | apply Wp.blk)); (apply Wp.reg; (repeat (apply Ex.cons; (simp (disch := omega) [-getElem?_pos, t2]; rfl))); exact Ex.nil; rfl; (simp; rfl))
    (repeat (first | apply Wp.seq | apply Wp.blk)); apply Wp.ite rfl
    · intro hlt
      apply Wp.skip
      have r1 := hr2.at
      have x1 := cellsF_at (f := rot f a (a + 1) (k + 1)) (L := L) (k := k) (by omega)
      have x2 := cellsF_at (f := rot f a (a + 1) (k + 1)) (L := L) (k := k + 1) (by omega)
      obtain ⟨H3, H4, w1, w2, n1, n2, r2⟩ := RowW.swap hr2 (i := k) (j := k + 1) (by omega) (by omega)
      rw [rot_left hk0] at r2
      (repeat (first | apply Wp.seq | apply Wp.blk)); (apply Wp.draw; (repeat (first | ((first | apply Dr.q rfl rfl | apply Dr.r rfl rfl); (simp (disch := omega) [-getElem?_pos, r1, x1, x2, w1, w2]; rfl); (simp; rfl)) | (apply Dr.imm rfl; (simp (disch := omega) [-getElem?_pos, r1, x1, x2, w1, w2]; rfl); exact Nat.le_of_eq (by simp [-getElem?_pos, n1, n2])))); exact Dr.nil; rfl; (first | (focus (simp (disch := omega) [-getElem?_pos, r1, x1, x2, w1, w2]; done)) | rfl); (simp; rfl))
      (repeat (first | apply Wp.seq | apply Wp.blk)); (apply Wp.reg; (repeat (apply Ex.cons; (simp (disch := omega) [-getElem?_pos]; rfl))); exact Ex.nil; rfl; (simp; rfl))
      exact ⟨(k + 1, H4), rfl, ⟨by dsimp only; omega, by dsimp only; omega, r2⟩, by simp [-getElem?_pos]; omega, by simp [-getElem?_pos]⟩
    · intro hlt
      apply Wp.exit
      apply Wp.ret
      have : k + 1 = i := by omega
      rw [this] at hr2
      simp [-getElem?_pos, a109]
      exact ⟨rfl, _, (PmS.rot (by omega) (by omega)).wide (Nat.le_refl _) (by omega), merge_left hB (by omega) (by omega) hc1 hc2, hr2⟩
set_option maxHeartbeats 4000000 in
theorem c109b (h : Fn kn env 109 a109) (n : Nat) (hcv : CmpOk kn env cv key G H0 R ver nv) (hr : RowW H0 R ver nv (cellsF f L) H) (hG : ∀ k, k < L → G (f k)) (ha : a + 1 < m) (hbL : m + 1 ≤ L) (hL : L < 4611686018427387904) (hn : L < n) (hA : SrS key f a m) :
    ∃ v H', callM kn env (n + 2) (.func (.func 109) []) [.slice R ver 0 L kc ex 1, vi a, vi m, vi (m + 1 : Nat), cv] H = some (v, H') ∧ MrgR H0 R ver nv L key f a (m + 1) v H' := by
  refine Wp.call 220 C109 h.e (h.no _ H) (n := n + 1) rfl (by simp [-getElem?_pos]) ?_
  have t1 : ¬ (m : Int) - a = 1 := by omega
  have t2 : (m : Int) + 1 - m = 1 := by omega
  (repeat (first | apply Wp.seq | apply Wp.blk)); (apply Wp.reg; (repeat (apply Ex.cons; (simp (disch := omega) [-getElem?_pos, t1]; rfl))); exact Ex.nil; rfl; (simp; rfl))
  apply Wp.cF rfl
  repeat (first | apply Wp.seq | apply Wp.blk | apply Wp.ret | apply Wp.skip | apply Wp.exit | apply Wp.cT rfl | apply Wp.cF rfl | ((apply Wp.reg; (repeat (apply Ex.cons; (simp (disch := omega) [-getElem?_pos, t2]; rfl))); exact Ex.nil; rfl; (simp; rfl))))
  repeat (first | apply Wp.seq | apply Wp.blk)
  have rr := hr.at
  have xa := cellsF_at (f := f) (L := L) (k := m) (by omega)
  apply Wp.loop (α := (Nat × Nat) × AHeap) (fun x => [(0, .slice R ver 0 L kc ex 1), (1, vi a), (2, vi m), (4, cv), (14, vi x.1.1), (15, vi x.1.2)]) (·.2)
    (fun x => x.2 = H ∧ a ≤ x.1.1 ∧ x.1.1 ≤ x.1.2 ∧ x.1.2 ≤ m ∧ (x.1.1 = a ∨ key (f (x.1.1 - 1)) ≤ key (f m)) ∧ (x.1.2 = m ∨ key (f m) < key (f x.1.2))) (fun x => x.1.2 - x.1.1) ((a, m), H) rfl ⟨rfl, Nat.le_refl _, by dsimp only; omega, Nat.le_refl _, .inl rfl, .inl rfl⟩ (by dsimp only; omega) (by simp [-getElem?_pos])
  rintro ⟨⟨i, j⟩, H1⟩ ⟨rfl, hi0, hij, hj, hc1, hc2⟩
  dsimp only at hi0 hij hj hc1 hc2 ⊢
  (repeat (first | apply Wp.seq | apply Wp.blk)); (apply Wp.reg; (repeat (apply Ex.cons; (simp (disch := omega) [-getElem?_pos]; rfl))); exact Ex.nil; rfl; (simp; rfl))
  (repeat (first | apply Wp.seq | apply Wp.blk)); apply Wp.ite rfl
  · intro hlt
    apply Wp.skip
    obtain ⟨q, hq⟩ : ∃ q, q = (i + j) / 2 := ⟨_, rfl⟩
    have hsh := shr1 i j
    rw [← hq] at hsh
    (repeat (first | apply Wp.seq | apply Wp.blk)); (apply Wp.reg; (repeat (apply Ex.cons; (simp (disch := omega) [-getElem?_pos, hsh]; rfl))); exact Ex.nil; rfl; (simp; rfl))
    have xq := cellsF_at (f := f) (L := L) (k := q) (by omega)
    have hca := hcv n (f m) (f q) _ H1 (hG _ (by omega)) (hG _ (by omega)) hr
    by_cases hk : key (f m) < key (f q)
    · have hk' := (cmpI_lt (key (f m)) (key (f q))).2 hk
      (repeat (first | apply Wp.seq | apply Wp.blk)); (apply Wp.draw; (repeat (first | ((first | apply Dr.q rfl rfl | apply Dr.r rfl rfl); (simp (disch := omega) [-getElem?_pos, rr, xq, xa, hca, hk']; rfl); (simp; rfl)) | (apply Dr.imm rfl; (simp (disch := omega) [-getElem?_pos, rr, xq, xa, hca, hk']; rfl); (focus first | (simp [-getElem?_pos]; done) | (simp [-getElem?_pos]; omega))))); exact Dr.nil; rfl; (first | (focus (simp (disch := omega) [-getElem?_pos, rr, xq, xa, hca, hk']; done)) | rfl); (simp; rfl))
      apply Wp.cF rfl
      (repeat (first | apply Wp.seq | apply Wp.blk)); (apply Wp.reg; (repeat (apply Ex.cons; (simp (disch := omega) [-getElem?_pos]; rfl))); exact Ex.nil; rfl; (simp; rfl))
      exact ⟨((i, q), H1), rfl, ⟨rfl, hi0, by dsimp only; omega, by dsimp only; omega, hc1, .inr (by dsimp only; omega)⟩, by simp [-getElem?_pos]; omega, by simp [-getElem?_pos]⟩
    · have hk' : ¬ cmpI (key (f m)) (key (f q)) < 0 := fun z => hk ((cmpI_lt _ _).1 z)
      (repeat (first | apply Wp.seq | apply Wp.blk)); (apply Wp.draw; (repeat (first | ((first | apply Dr.q rfl rfl | apply Dr.r rfl rfl); (simp (disch := omega) [-getElem?_pos, rr, xq, xa, hca, hk']; rfl); (simp; rfl)) | (apply Dr.imm rfl; (simp (disch := omega) [-getElem?_pos, rr, xq, xa, hca, hk']; rfl); (focus first | (simp [-getElem?_pos]; done) | (simp [-getElem?_pos]; omega))))); exact Dr.nil; rfl; (first | (focus (simp (disch := omega) [-getElem?_pos, rr, xq, xa, hca, hk']; done)) | rfl); (simp; rfl))
      apply Wp.cT rfl
      (repeat (first | apply Wp.seq | apply Wp.blk)); (apply Wp.reg; (repeat (apply Ex.cons; (simp (disch := omega) [-getElem?_pos]; rfl))); exact Ex.nil; rfl; (simp; rfl))
      exact ⟨((q + 1, j), H1), rfl, ⟨rfl, by dsimp only; omega, by dsimp only; omega, hj, .inr (by dsimp only; rw [Nat.add_sub_cancel]; omega), hc2⟩, by simp [-getElem?_pos]; omega, by simp [-getElem?_pos]⟩
  · intro hlt
    have : i = j := by omega
    subst this
    apply Wp.exit
    (repeat (first | apply Wp.seq | apply Wp.blk)); (apply Wp.reg; (repeat (apply Ex.cons; (simp (disch := omega) [-getElem?_pos]; rfl))); exact Ex.nil; rfl; (simp; rfl))
    repeat (first | apply Wp.seq | apply Wp.blk)
    apply Wp.loop (α := Nat × AHeap) (fun x => [(0, .slice R ver 0 L kc ex 1), (14, vi i), (17, vi x.1)]) (·.2)
      (fun x => i ≤ x.1 ∧ x.1 ≤ m ∧ RowW H0 R ver nv (cellsF (rot f x.1 m (m + 1)) L) x.2) (fun x => x.1) (m, H1) rfl ⟨by dsimp only; omega, Nat.le_refl _, by dsimp only; rw [rot_right0]; exact hr⟩ (by dsimp only; omega) (by simp [-getElem?_pos])
    rintro ⟨k, H2⟩ ⟨hk0, hk1, hr2⟩
    dsimp only at hk0 hk1 hr2 ⊢
    (repeat (first | apply Wp.seq | apply Wp.blk)); (apply Wp.reg; (repeat (apply Ex.cons; (simp (disch := omega) [-getElem?_pos]; rfl))); exact Ex.nil; rfl; (simp; rfl))
    (repeat (first | apply Wp.seq | apply Wp.blk)); apply Wp.ite rfl
    · intro hlt
      apply Wp.skip
      obtain ⟨k, rfl⟩ : ∃ k', k = k' + 1 := ⟨k - 1, by omega⟩
      have r1 := hr2.at
      have x1 := cellsF_at (f := rot f (k + 1) m (m + 1)) (L := L) (k := k) (by omega)
      have x2 := cellsF_at (f := rot f (k + 1) m (m + 1)) (L := L) (k := k + 1) (by omega)
      obtain ⟨H3, H4, w1, w2, n1, n2, r2⟩ := RowW.swap hr2 (i := k + 1) (j := k) (by omega) (by omega)
      rw [rot_right hk1] at r2
      (repeat (first | apply Wp.seq | apply Wp.blk)); (apply Wp.draw; (repeat (first | ((first | apply Dr.q rfl rfl | apply Dr.r rfl rfl); (simp (disch := omega) [-getElem?_pos, r1, x1, x2, w1, w2]; rfl); (simp; rfl)) | (apply Dr.imm rfl; (simp (disch := omega) [-getElem?_pos, r1, x1, x2, w1, w2]; rfl); exact Nat.le_of_eq (by simp [-getElem?_pos, n1, n2])))); exact Dr.nil; rfl; (first | (focus (simp (disch := omega) [-getElem?_pos, r1, x1, x2, w1, w2]; done)) | rfl); (simp; rfl))
      (repeat (first | apply Wp.seq | apply Wp.blk)); (apply Wp.reg; (repeat (apply Ex.cons; (simp (disch := omega) [-getElem?_pos]; rfl))); exact Ex.nil; rfl; (simp; rfl))
      exact ⟨(k, H4), rfl, ⟨by dsimp only; omega, by dsimp only; omega, r2⟩, by simp [-getElem?_pos], by simp [-getElem?_pos]⟩
    · intro hlt
      apply Wp.exit
      apply Wp.ret
      have : k = i := by omega
      rw [this] at hr2
      simp [-getElem?_pos, a109]
      exact ⟨rfl, _, (PmS.rot (by omega) (by omega)).wide (by omega) (Nat.le_refl _), merge_right hA (by omega) (by omega) hc1 hc2, hr2⟩
end Go.Proofs.Ythbjfkkjmecaaaa
namespace Go.Proofs.Ythbjfkkjmecaaaa
open Go Go.Vm
variable {kn : Known} {env : Nat → Option AFunc}
variable {H0 H H' : AHeap} {R ver nv L a b c m n i j kc : Nat} {ex : Bool} {f g : Nat → Int} {cv : AVal} {key : Int → Int} {G : Int → Prop}
theorem rot_id1 (f : Nat → Int) (m e : Nat) : rot f m m e = f := by
  funext k; unfold rot
  by_cases h : m ≤ k ∧ k < e
  · rw [if_pos h, if_pos (by omega)]; congr 1; omega
  · rw [if_neg h]
theorem rot_id2 (f : Nat → Int) (s m : Nat) : rot f s m m = f := by
  funext k; unfold rot
  by_cases h : s ≤ k ∧ k < m
  · rw [if_pos h, if_neg (by omega)]; congr 1; omega
  · rw [if_neg h]
theorem PmS.out (h : PmS f g a b) {k : Nat} (hk : k < a ∨ b ≤ k) : g k = f k := by
  obtain ⟨_, _, _, _, h3⟩ := h; exact h3 k hk
def MrgOk (kn : Known) (env : Nat → Option AFunc) (n d : Nat) (kc : Nat) (ex : Bool) (cv : AVal) (key : Int → Int) (G : Int → Prop) (H0 : AHeap) (R ver nv L : Nat) : Prop :=
  ∀ (a m b : Nat) (f : Nat → Int) (H : AHeap), a < m → m < b → b ≤ L → b - a < d → RowW H0 R ver nv (cellsF f L) H → (∀ k, k < L → G (f k)) → SrS key f a m → SrS key f m b →
    ∃ v H', callM kn env n (.func (.func 109) []) [.slice R ver 0 L kc ex 1, vi a, vi m, vi b, cv] H = some (v, H') ∧ MrgR H0 R ver nv L key f a b v H'
theorem qsub {or : Oracle} {n N : Nat} {C : List Nat} {d : ACode} {Q : Exit → KS → Prop} {l : KL} (l' : KL) (hs : SubK l' l) (h : Wp or n N C d (l', H) Q) : QSeq or n N C d Q .normal (l, H) := Wp.sub l' h hs
set_option maxHeartbeats 8000000 in
theorem c109c (h : Fn kn env 109 a109) (h118 : Fn kn env 118 a118) (h135 : Fn kn env 135 a135) (n : Nat) (hcv : CmpOk kn env cv key G H0 R ver nv) (hM : MrgOk kn env (n + 2) (b - a) kc ex cv key G H0 R ver nv L) (hr : RowW H0 R ver nv (cellsF f L) H) (hG : ∀ k, k < L → G (f k)) (ha : a + 1 < m) (hb : m + 1 < b) (hbL : b ≤ L) (hL : L < 2305843009213693952) (hn : L + 1 < n) (hA : SrS key f a m) (hB : SrS key f m b) :
    ∃ v H', callM kn env (n + 3) (.func (.func 109) []) [.slice R ver 0 L kc ex 1, vi a, vi m, vi b, cv] H = some (v, H') ∧ MrgR H0 R ver nv L key f a b v H' := by
  refine Wp.call 220 C109 h.e (h.no _ H) (n := n + 2) rfl (by simp [-getElem?_pos]) ?_
  have t1 : ¬ (m : Int) - a = 1 := by omega
  have t2 : ¬ (b : Int) - m = 1 := by omega
  have hsh := shr1 a b
  obtain ⟨mid, hmid⟩ : ∃ q, q = (a + b) / 2 := ⟨_, rfl⟩
  obtain ⟨N, hN⟩ : ∃ q, q = mid + m := ⟨_, rfl⟩
  rw [← hmid] at hsh
  have t3 : (mid : Int) + m = (N : Int) := by omega
  have t5 : (N : Int) - 1 = ((N - 1 : Nat) : Int) := by omega
  (repeat (first | apply Wp.seq | apply Wp.blk)); (apply Wp.reg; (repeat (apply Ex.cons; (simp (disch := omega) [-getElem?_pos, t1]; rfl))); exact Ex.nil; rfl; (simp; rfl))
  apply Wp.cF rfl
  apply Wp.skip
  (repeat (first | apply Wp.seq | apply Wp.blk)); (apply Wp.reg; (repeat (apply Ex.cons; (simp (disch := omega) [-getElem?_pos, t2]; rfl))); exact Ex.nil; rfl; (simp; rfl))
  apply Wp.cF rfl
  apply Wp.skip
  (repeat (first | apply Wp.seq | apply Wp.blk)); (apply Wp.reg; (repeat (apply Ex.cons; (simp (disch := omega) [-getElem?_pos, hsh]; rfl))); exact Ex.nil; rfl; (simp; rfl))
  (repeat (first | apply Wp.seq | apply Wp.blk)); (apply Wp.reg; (repeat (apply Ex.cons; (simp (disch := omega) [-getElem?_pos, t3]; rfl))); exact Ex.nil; rfl; (simp; rfl))
  (repeat (first | apply Wp.seq | apply Wp.blk)); (apply Wp.reg; (repeat (apply Ex.cons; (simp (disch := omega) [-getElem?_pos]; rfl))); exact Ex.nil; rfl; (simp; rfl))
  (repeat (first | apply Wp.seq | apply Wp.blk)); (apply Wp.reg; (repeat (apply Ex.cons; (simp (disch := omega) [-getElem?_pos]; rfl))); exact Ex.nil; rfl; (simp; rfl))
  have rr := hr.at
  repeat (first | apply Wp.seq | apply Wp.blk)
  refine Wp.cut (Q' := fun e s => e = Exit.normal ∧ s.2 = H ∧ ∃ s0 r0 : Nat, (a ≤ s0 ∧ s0 ≤ r0 ∧ r0 ≤ m ∧ N ≤ s0 + b ∧ m + r0 ≤ N ∧ (s0 = a ∨ N = s0 + b) ∧ (r0 = m ∨ m + r0 = N)) ∧ SubK [(0, .slice R ver 0 L kc ex 1), (1, vi a), (2, vi m), (3, vi b), (4, cv), (18, vi mid), (19, vi N), (20, vi s0), (21, vi r0)] s.1) ?_ ?_
  · (repeat (first | apply Wp.seq | apply Wp.blk)); apply Wp.ite rfl
    · intro hmm
      have t4 : (N : Int) - b = ((N - b : Nat) : Int) := by omega
      (repeat (first | apply Wp.seq | apply Wp.blk)); (apply Wp.reg; (repeat (apply Ex.cons; (simp (disch := omega) [-getElem?_pos, t4]; rfl))); exact Ex.nil; rfl; (simp; rfl))
      (repeat (first | apply Wp.seq | apply Wp.blk)); (apply Wp.reg; (repeat (apply Ex.cons; (simp (disch := omega) [-getElem?_pos]; rfl))); exact Ex.nil; rfl; (simp; rfl))
      exact ⟨rfl, rfl, N - b, mid, ⟨by omega, by omega, by omega, by omega, by omega, .inr (by omega), .inr (by omega)⟩, by simp [-getElem?_pos]⟩
    · intro hmm
      (repeat (first | apply Wp.seq | apply Wp.blk)); (apply Wp.reg; (repeat (apply Ex.cons; (simp (disch := omega) [-getElem?_pos]; rfl))); exact Ex.nil; rfl; (simp; rfl))
      (repeat (first | apply Wp.seq | apply Wp.blk)); (apply Wp.reg; (repeat (apply Ex.cons; (simp (disch := omega) [-getElem?_pos]; rfl))); exact Ex.nil; rfl; (simp; rfl))
      exact ⟨rfl, rfl, a, m, ⟨by omega, by omega, by omega, by omega, by omega, .inl rfl, .inl rfl⟩, by simp [-getElem?_pos]⟩
  rintro e ⟨l, H1⟩ ⟨rfl, rfl, s0, r0, ⟨i1, i2, i3, i4, i5, i6, i7⟩, hsub⟩
  refine qsub _ hsub ?_
  clear hsub
  (repeat (first | apply Wp.seq | apply Wp.blk)); (apply Wp.reg; (repeat (apply Ex.cons; (simp (disch := omega) [-getElem?_pos, t5]; rfl))); exact Ex.nil; rfl; (simp; rfl))
  repeat (first | apply Wp.seq | apply Wp.blk)
  apply Wp.loop (α := (Nat × Nat) × AHeap) (fun x => [(0, .slice R ver 0 L kc ex 1), (1, vi a), (2, vi m), (3, vi b), (4, cv), (18, vi mid), (19, vi N), (20, vi x.1.1), (21, vi x.1.2), (22, vi (N - 1 : Nat))]) (·.2)
    (fun x => x.2 = H1 ∧ a ≤ x.1.1 ∧ x.1.1 ≤ x.1.2 ∧ x.1.2 ≤ m ∧ N ≤ x.1.1 + b ∧ m + x.1.2 ≤ N ∧ (x.1.1 = a ∨ N = x.1.1 + b ∨ key (f (x.1.1 - 1)) ≤ key (f (N - x.1.1))) ∧ (x.1.2 = m ∨ m + x.1.2 = N ∨ key (f (N - 1 - x.1.2)) < key (f x.1.2))) (fun x => x.1.2 - x.1.1) ((s0, r0), H1) rfl ⟨rfl, i1, i2, i3, i4, i5, i6.imp id .inl, i7.imp id .inl⟩ (by dsimp only; omega) (by simp [-getElem?_pos])
  rintro ⟨⟨st, r⟩, H2⟩ ⟨rfl, j1, j2, j3, j4, j5, j6, j7⟩
  dsimp only at j1 j2 j3 j4 j5 j6 j7 ⊢
  (repeat (first | apply Wp.seq | apply Wp.blk)); (apply Wp.reg; (repeat (apply Ex.cons; (simp (disch := omega) [-getElem?_pos]; rfl))); exact Ex.nil; rfl; (simp; rfl))
  (repeat (first | apply Wp.seq | apply Wp.blk)); apply Wp.ite rfl
  · intro hlt
    apply Wp.skip
    have hsh := shr1 st r
    obtain ⟨q, hq⟩ : ∃ q, q = (st + r) / 2 := ⟨_, rfl⟩
    rw [← hq] at hsh
    (repeat (first | apply Wp.seq | apply Wp.blk)); (apply Wp.reg; (repeat (apply Ex.cons; (simp (disch := omega) [-getElem?_pos, hsh]; rfl))); exact Ex.nil; rfl; (simp; rfl))
    have s1 : ((N - 1 : Nat) : Int) - q = ((N - 1 - q : Nat) : Int) := by omega
    have xq := cellsF_at (f := f) (L := L) (k := q) (by omega)
    have xp := cellsF_at (f := f) (L := L) (k := N - 1 - q) (by omega)
    have hca := hcv (n + 1) (f (N - 1 - q)) (f q) _ H2 (hG _ (by omega)) (hG _ (by omega)) hr
    by_cases hk : key (f (N - 1 - q)) < key (f q)
    · have hk' := (cmpI_lt (key (f (N - 1 - q))) (key (f q))).2 hk
      (repeat (first | apply Wp.seq | apply Wp.blk)); (apply Wp.draw; (repeat (first | ((first | apply Dr.q rfl rfl | apply Dr.r rfl rfl); (simp (disch := omega) [-getElem?_pos, rr, xq, xp, s1, hca, hk']; rfl); (simp; rfl)) | (apply Dr.imm rfl; (simp (disch := omega) [-getElem?_pos, rr, xq, xp, s1, hca, hk']; rfl); (focus first | (simp [-getElem?_pos]; done) | (simp [-getElem?_pos]; omega))))); exact Dr.nil; rfl; (first | (focus (simp (disch := omega) [-getElem?_pos, rr, xq, xp, s1, hca, hk']; done)) | rfl); (simp; rfl))
      apply Wp.cF rfl
      (repeat (first | apply Wp.seq | apply Wp.blk)); (apply Wp.reg; (repeat (apply Ex.cons; (simp (disch := omega) [-getElem?_pos]; rfl))); exact Ex.nil; rfl; (simp; rfl))
      exact ⟨((st, q), H2), rfl, ⟨rfl, j1, by dsimp only; omega, by dsimp only; omega, j4, by dsimp only; omega, j6, .inr (.inr hk)⟩, by simp [-getElem?_pos]; omega, by simp [-getElem?_pos]⟩
    · have hk' : ¬ cmpI (key (f (N - 1 - q))) (key (f q)) < 0 := fun z => hk ((cmpI_lt _ _).1 z)
      (repeat (first | apply Wp.seq | apply Wp.blk)); (apply Wp.draw; (repeat (first | ((first | apply Dr.q rfl rfl | apply Dr.r rfl rfl); (simp (disch := omega) [-getElem?_pos, rr, xq, xp, s1, hca, hk']; rfl); (simp; rfl)) | (apply Dr.imm rfl; (simp (disch := omega) [-getElem?_pos, rr, xq, xp, s1, hca, hk']; rfl); (focus first | (simp [-getElem?_pos]; done) | (simp [-getElem?_pos]; omega))))); exact Dr.nil; rfl; (first | (focus (simp (disch := omega) [-getElem?_pos, rr, xq, xp, s1, hca, hk']; done)) | rfl); (simp; rfl))
      apply Wp.cT rfl
      (repeat (first | apply Wp.seq | apply Wp.blk)); (apply Wp.reg; (repeat (apply Ex.cons; (simp (disch := omega) [-getElem?_pos]; rfl))); exact Ex.nil; rfl; (simp; rfl))
      exact ⟨((q + 1, r), H2), rfl, ⟨rfl, by dsimp only; omega, by dsimp only; omega, j3, by dsimp only; omega, j5, .inr (.inr (by dsimp only; rw [Nat.add_sub_cancel, show N - (q + 1) = N - 1 - q by omega]; omega)), j7⟩, by simp [-getElem?_pos]; omega, by simp [-getElem?_pos]⟩
  intro hlt
  have : st = r := by omega
  subst this
  apply Wp.exit
  obtain ⟨en, hen⟩ : ∃ q, q = N - st := ⟨_, rfl⟩
  have t6 : (N : Int) - st = (en : Int) := by omega
  have hcut := sym_cut (st := st) (en := en) (mid := mid) hA hB j1 j3 (by omega) (by omega) (by omega) (fun q1 q2 => by
    rcases j6 with q | q | q
    · omega
    · omega
    · rw [hen]; exact q) (fun q1 q2 => by
    rcases j7 with q | q | q
    · omega
    · omega
    · rw [show en - 1 = N - 1 - st by omega]; omega)
  have hpm : PmS f (rot f st m en) a b := (PmS.rot j3 (by omega)).wide j1 (by omega)
  obtain ⟨u1, u2, u3, u4, u5⟩ := hcut
  (repeat (first | apply Wp.seq | apply Wp.blk)); (apply Wp.reg; (repeat (apply Ex.cons; (simp (disch := omega) [-getElem?_pos, t6]; rfl))); exact Ex.nil; rfl; (simp; rfl))
  repeat (first | apply Wp.seq | apply Wp.blk)
  refine Wp.cut (Q' := fun e s => e = Exit.normal ∧ s.2 = H2 ∧ SubK [(0, .slice R ver 0 L kc ex 1), (1, vi a), (2, vi m), (3, vi b), (4, cv), (18, vi mid), (20, vi st), (24, vi en), (185, abool (decide (st < m ∧ m < en)))] s.1) ?_ ?_
  · by_cases c1 : st < m
    · by_cases c2 : m < en
      · have hd : decide (st < m ∧ m < en) = true := decide_eq_true ⟨c1, c2⟩
        rw [hd]
        (repeat (first | apply Wp.seq | apply Wp.blk)); (apply Wp.reg; (repeat (apply Ex.cons; (simp (disch := omega) [-getElem?_pos]; rfl))); exact Ex.nil; rfl; (simp; rfl))
        exact ⟨rfl, rfl, by simp [-getElem?_pos]⟩
      · have hd : decide (st < m ∧ m < en) = false := decide_eq_false fun q => c2 q.2
        rw [hd]
        (repeat (first | apply Wp.seq | apply Wp.blk)); (apply Wp.reg; (repeat (apply Ex.cons; (simp (disch := omega) [-getElem?_pos]; rfl))); exact Ex.nil; rfl; (simp; rfl))
        exact ⟨rfl, rfl, by simp [-getElem?_pos]⟩
    · have hd : decide (st < m ∧ m < en) = false := decide_eq_false fun q => c1 q.1
      rw [hd]
      (repeat (first | apply Wp.seq | apply Wp.blk)); (apply Wp.reg; (repeat (apply Ex.cons; (simp (disch := omega) [-getElem?_pos]; rfl))); exact Ex.nil; rfl; (simp; rfl))
      exact ⟨rfl, rfl, by simp [-getElem?_pos]⟩
  rintro e ⟨l, H3⟩ ⟨rfl, rfl, hsub⟩
  refine qsub _ hsub ?_
  clear hsub
  repeat (first | apply Wp.seq | apply Wp.blk)
  refine Wp.cut (Q' := fun e s => e = Exit.normal ∧ RowW H0 R ver nv (cellsF (rot f st m en) L) s.2 ∧ SubK [(0, .slice R ver 0 L kc ex 1), (1, vi a), (2, vi m), (3, vi b), (4, cv), (18, vi mid), (20, vi st), (24, vi en)] s.1) ?_ ?_
  · (repeat (first | apply Wp.seq | apply Wp.blk)); apply Wp.ite rfl
    · rintro ⟨c1, c2⟩
      obtain ⟨v, H4, e1, rfl, r2⟩ := c118 h118 h135 n hr (a := st) (m := m) (b := en) (kc := kc) (ex := ex) (cv := cv) c1 c2 (by omega) (by omega) (by omega)
      (repeat (first | apply Wp.seq | apply Wp.blk)); (apply Wp.reg; (repeat (apply Ex.cons; (simp (disch := omega) [-getElem?_pos, e1]; rfl))); exact Ex.nil; rfl; (simp; rfl))
      exact ⟨rfl, r2, by simp [-getElem?_pos]⟩
    · intro hc
      apply Wp.skip
      refine ⟨rfl, ?_, by simp [-getElem?_pos]⟩
      by_cases c1 : st < m
      · have : en = m := by omega
        rw [this, rot_id2]; exact hr
      · have : st = m := by omega
        rw [this, rot_id1]; exact hr
  rintro e ⟨l, H4⟩ ⟨rfl, hr4, hsub⟩
  refine qsub _ hsub ?_
  clear hsub
  dsimp only at hr4
  have hG4 := PmS.all hpm hbL hG
  generalize rot f st m en = g0 at *
  repeat (first | apply Wp.seq | apply Wp.blk)
  refine Wp.cut (Q' := fun e s => e = Exit.normal ∧ s.2 = H4 ∧ SubK [(0, .slice R ver 0 L kc ex 1), (1, vi a), (2, vi m), (3, vi b), (4, cv), (18, vi mid), (20, vi st), (24, vi en), (199, abool (decide (a < st ∧ st < mid)))] s.1) ?_ ?_
  · by_cases c1 : a < st
    · by_cases c2 : st < mid
      · have hd : decide (a < st ∧ st < mid) = true := decide_eq_true ⟨c1, c2⟩
        rw [hd]
        (repeat (first | apply Wp.seq | apply Wp.blk)); (apply Wp.reg; (repeat (apply Ex.cons; (simp (disch := omega) [-getElem?_pos]; rfl))); exact Ex.nil; rfl; (simp; rfl))
        exact ⟨rfl, rfl, by simp [-getElem?_pos]⟩
      · have hd : decide (a < st ∧ st < mid) = false := decide_eq_false fun q => c2 q.2
        rw [hd]
        (repeat (first | apply Wp.seq | apply Wp.blk)); (apply Wp.reg; (repeat (apply Ex.cons; (simp (disch := omega) [-getElem?_pos]; rfl))); exact Ex.nil; rfl; (simp; rfl))
        exact ⟨rfl, rfl, by simp [-getElem?_pos]⟩
    · have hd : decide (a < st ∧ st < mid) = false := decide_eq_false fun q => c1 q.1
      rw [hd]
      (repeat (first | apply Wp.seq | apply Wp.blk)); (apply Wp.reg; (repeat (apply Ex.cons; (simp (disch := omega) [-getElem?_pos]; rfl))); exact Ex.nil; rfl; (simp; rfl))
      exact ⟨rfl, rfl, by simp [-getElem?_pos]⟩
  rintro e ⟨l, H5⟩ ⟨rfl, rfl, hsub⟩
  refine qsub _ hsub ?_
  clear hsub
  repeat (first | apply Wp.seq | apply Wp.blk)
  refine Wp.cut (Q' := fun e s => e = Exit.normal ∧ (∃ g1, PmS g0 g1 a mid ∧ SrS key g1 a mid ∧ RowW H0 R ver nv (cellsF g1 L) s.2) ∧ SubK [(0, .slice R ver 0 L kc ex 1), (1, vi a), (2, vi m), (3, vi b), (4, cv), (18, vi mid), (20, vi st), (24, vi en)] s.1) ?_ ?_
  · (repeat (first | apply Wp.seq | apply Wp.blk)); apply Wp.ite rfl
    · rintro ⟨c1, c2⟩
      obtain ⟨v, H6, e1, rfl, g1, p1, q1, r2⟩ := hM a st mid g0 H5 c1 c2 (by omega) (by omega) hr4 hG4 u1 u2
      (repeat (first | apply Wp.seq | apply Wp.blk)); (apply Wp.reg; (repeat (apply Ex.cons; (simp (disch := omega) [-getElem?_pos, e1]; rfl))); exact Ex.nil; rfl; (simp; rfl))
      exact ⟨rfl, ⟨g1, p1, q1, r2⟩, by simp [-getElem?_pos]⟩
    · intro hc
      apply Wp.skip
      refine ⟨rfl, ⟨g0, PmS.refl _ _ _, ?_, hr4⟩, by simp [-getElem?_pos]⟩
      by_cases c1 : a < st
      · have : mid = st := by omega
        rw [this]; exact u1
      · have : a = st := by omega
        rw [this]; exact u2
  rintro e ⟨l, H6⟩ ⟨rfl, ⟨g1, p1, q1, hr6⟩, hsub⟩
  refine qsub _ hsub ?_
  clear hsub
  dsimp only at hr6
  have hG6 := PmS.all p1 (by omega) hG4
  have v3 : SrS key g1 mid en := u3.same fun k hk _ => p1.out (.inr hk)
  have v4 : SrS key g1 en b := u4.same fun k hk _ => p1.out (.inr (by omega))
  have fin : ∀ g2, PmS g1 g2 mid b → SrS key g2 mid b → PmS f g2 a b ∧ SrS key g2 a b := fun g2 p2 q2 =>
    ⟨(hpm.trans (p1.wide (Nat.le_refl _) (by omega))).trans (p2.wide (by omega) (Nat.le_refl _)), SrS.join (q1.same fun k _ hk => p2.out (.inl hk)) q2 (cross_pm u5 p1 p2)⟩
  repeat (first | apply Wp.seq | apply Wp.blk)
  refine Wp.cut (Q' := fun e s => e = Exit.normal ∧ s.2 = H6 ∧ SubK [(0, .slice R ver 0 L kc ex 1), (1, vi a), (2, vi m), (3, vi b), (4, cv), (18, vi mid), (20, vi st), (24, vi en), (213, abool (decide (mid < en ∧ en < b)))] s.1) ?_ ?_
  · by_cases c1 : mid < en
    · by_cases c2 : en < b
      · have hd : decide (mid < en ∧ en < b) = true := decide_eq_true ⟨c1, c2⟩
        rw [hd]
        (repeat (first | apply Wp.seq | apply Wp.blk)); (apply Wp.reg; (repeat (apply Ex.cons; (simp (disch := omega) [-getElem?_pos]; rfl))); exact Ex.nil; rfl; (simp; rfl))
        exact ⟨rfl, rfl, by simp [-getElem?_pos]⟩
      · have hd : decide (mid < en ∧ en < b) = false := decide_eq_false fun q => c2 q.2
        rw [hd]
        (repeat (first | apply Wp.seq | apply Wp.blk)); (apply Wp.reg; (repeat (apply Ex.cons; (simp (disch := omega) [-getElem?_pos]; rfl))); exact Ex.nil; rfl; (simp; rfl))
        exact ⟨rfl, rfl, by simp [-getElem?_pos]⟩
    · have hd : decide (mid < en ∧ en < b) = false := decide_eq_false fun q => c1 q.1
      rw [hd]
      (repeat (first | apply Wp.seq | apply Wp.blk)); (apply Wp.reg; (repeat (apply Ex.cons; (simp (disch := omega) [-getElem?_pos]; rfl))); exact Ex.nil; rfl; (simp; rfl))
      exact ⟨rfl, rfl, by simp [-getElem?_pos]⟩
  rintro e ⟨l, H7⟩ ⟨rfl, rfl, hsub⟩
  refine qsub _ hsub ?_
  clear hsub
  (repeat (first | apply Wp.seq | apply Wp.blk)); apply Wp.ite rfl
  · rintro ⟨c1, c2⟩
    obtain ⟨v, H8, e1, rfl, g2, p2, q2, r2⟩ := hM mid en b g1 H7 c1 c2 hbL (by omega) hr6 hG6 v3 v4
    (repeat (first | apply Wp.seq | apply Wp.blk)); (apply Wp.reg; (repeat (apply Ex.cons; (simp (disch := omega) [-getElem?_pos, e1]; rfl))); exact Ex.nil; rfl; (simp; rfl))
    simp [-getElem?_pos, a109]
    exact ⟨rfl, g2, (fin g2 p2 q2).1, (fin g2 p2 q2).2, r2⟩
  · intro hc
    apply Wp.skip
    have q2 : SrS key g1 mid b := by
      by_cases c1 : mid < en
      · have : b = en := by omega
        rw [this]; exact v3
      · have : mid = en := by omega
        rw [this]; exact v4
    simp [-getElem?_pos, a109]
    exact ⟨rfl, g1, (fin g1 (PmS.refl _ _ _) q2).1, (fin g1 (PmS.refl _ _ _) q2).2, hr6⟩
theorem c109 (h : Fn kn env 109 a109) (h118 : Fn kn env 118 a118) (h135 : Fn kn env 135 a135) (hcv : CmpOk kn env cv key G H0 R ver nv) (hL : L < 2305843009213693952) : ∀ (d n : Nat), L + d + 1 < n → MrgOk kn env (n + 3) d kc ex cv key G H0 R ver nv L
  | 0, n, hn => fun a m b f H h1 h2 h3 h4 => by omega
  | d + 1, n, hn => fun a m b f H h1 h2 h3 h4 hr hG hA hB => by
    obtain ⟨n, rfl⟩ : ∃ n', n = n' + 1 := ⟨n - 1, by omega⟩
    by_cases e1 : m = a + 1
    · subst e1
      exact c109a h (n + 2) hcv hr hG h2 h3 (by omega) (by omega) hB
    · by_cases e2 : b = m + 1
      · subst e2
        exact c109b h (n + 2) hcv hr hG (by omega) h3 (by omega) (by omega) hA
      · have ih := c109 h h118 h135 hcv hL d n (by omega)
        exact c109c h h118 h135 (n + 1) hcv (fun a' m' b' f' H' g1 g2 g3 g4 => ih a' m' b' f' H' g1 g2 g3 (by omega)) hr hG (by omega) (by omega) h3 hL (by omega) hA hB
end Go.Proofs.Ythbjfkkjmecaaaa
