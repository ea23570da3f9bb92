/- Sorting with a comparison: the row that is sorted, in memory. -/
import Derived.Test.YthbjfkkjmecaaaaT23
set_option linter.unusedVariables false
set_option linter.unusedSimpArgs false
namespace Go.Proofs.Ythbjfkkjmecaaaa
open Go Go.Vm
variable {kn : Known} {env : Nat → Option AFunc}
def PmS (f g : Nat → Int) (a b : Nat) : Prop := ∃ s t : Nat → Nat, (∀ k, a ≤ k → k < b → a ≤ s k ∧ s k < b ∧ t (s k) = k ∧ g k = f (s k)) ∧ (∀ k, a ≤ k → k < b → a ≤ t k ∧ t k < b ∧ s (t k) = k) ∧ ∀ k, k < a ∨ b ≤ k → g k = f k
theorem PmS.refl (f : Nat → Int) (a b : Nat) : PmS f f a b := ⟨id, id, fun k h1 h2 => ⟨h1, h2, rfl, rfl⟩, fun k h1 h2 => ⟨h1, h2, rfl⟩, fun _ _ => rfl⟩
theorem PmS.trans {f g h : Nat → Int} {a b : Nat} (h1 : PmS f g a b) (h2 : PmS g h a b) : PmS f h a b := by
  obtain ⟨s, t, p1, p2, p3⟩ := h1
  obtain ⟨s', t', q1, q2, q3⟩ := h2
  refine ⟨fun k => s (s' k), fun k => t' (t k), fun k ha hb => ?_, fun k ha hb => ?_, fun k hk => by rw [q3 k hk, p3 k hk]⟩
  · obtain ⟨a1, a2, a3, a4⟩ := q1 k ha hb
    obtain ⟨b1, b2, b3, b4⟩ := p1 (s' k) a1 a2
    exact ⟨b1, b2, by show t' (t (s (s' k))) = k; rw [b3, a3], by rw [a4, b4]⟩
  · obtain ⟨a1, a2, a3⟩ := p2 k ha hb
    obtain ⟨b1, b2, b3⟩ := q2 (t k) a1 a2
    exact ⟨b1, b2, by show s (s' (t' (t k))) = k; rw [b3, a3]⟩
theorem PmS.wide {f g : Nat → Int} {a b a' b' : Nat} (h : PmS f g a b) (ha : a' ≤ a) (hb : b ≤ b') : PmS f g a' b' := by
  obtain ⟨s, t, p1, p2, p3⟩ := h
  refine ⟨fun k => if a ≤ k ∧ k < b then s k else k, fun k => if a ≤ k ∧ k < b then t k else k, fun k h1 h2 => ?_, fun k h1 h2 => ?_, fun k hk => p3 k (by omega)⟩
  · by_cases hk : a ≤ k ∧ k < b
    · obtain ⟨b1, b2, b3, b4⟩ := p1 k hk.1 hk.2
      simp only [hk, and_self, if_true, b1, b2, b3, b4]
      exact ⟨by omega, by omega, trivial⟩
    · simp only [hk, if_false]
      exact ⟨h1, h2, trivial, p3 k (by omega)⟩
  · by_cases hk : a ≤ k ∧ k < b
    · obtain ⟨b1, b2, b3⟩ := p2 k hk.1 hk.2
      simp only [hk, and_self, if_true, b1, b2, b3]
      exact ⟨by omega, by omega, trivial⟩
    · simp only [hk, if_false]
      exact ⟨h1, h2, trivial⟩
def swp (f : Nat → Int) (i j : Nat) : Nat → Int := fun k => if k = i then f j else if k = j then f i else f k
theorem PmS.swp {f : Nat → Int} {a b i j : Nat} (hi : a ≤ i ∧ i < b) (hj : a ≤ j ∧ j < b) : PmS f (swp f i j) a b := by
  refine ⟨fun k => if k = i then j else if k = j then i else k, fun k => if k = i then j else if k = j then i else k, fun k h1 h2 => ?_, fun k h1 h2 => ?_, fun k hk => ?_⟩
  · unfold Go.Proofs.Ythbjfkkjmecaaaa.swp
    by_cases e1 : k = i
    · subst e1
      simp only [if_true]
      refine ⟨hj.1, hj.2, ?_, trivial⟩
      by_cases e : j = k <;> simp [-getElem?_pos, e]
    · by_cases e2 : k = j
      · subst e2
        simp only [e1, if_false, if_true]
        exact ⟨hi.1, hi.2, trivial, trivial⟩
      · simp only [e1, e2, if_false]
        exact ⟨h1, h2, trivial, trivial⟩
  · by_cases e1 : k = i
    · subst e1
      simp only [if_true]
      refine ⟨hj.1, hj.2, ?_⟩
      by_cases e : j = k <;> simp [-getElem?_pos, e]
    · by_cases e2 : k = j
      · subst e2
        simp only [e1, if_false, if_true]
        exact ⟨hi.1, hi.2, trivial⟩
      · simp only [e1, e2, if_false]
        exact ⟨h1, h2, trivial⟩
  · unfold Go.Proofs.Ythbjfkkjmecaaaa.swp
    rw [if_neg (by omega), if_neg (by omega)]
def swr (f : Nat → Int) (a b n : Nat) : Nat → Int := fun k => if a ≤ k ∧ k < a + n then f (k - a + b) else if b ≤ k ∧ k < b + n then f (k - b + a) else f k
theorem swr_zero (f : Nat → Int) (a b : Nat) : swr f a b 0 = f := by funext k; unfold swr; rw [if_neg (by omega), if_neg (by omega)]
theorem swr_succ (f : Nat → Int) {a b n : Nat} (h : a + n < b) : swr f a b (n + 1) = swp (swr f a b n) (a + n) (b + n) := by
  funext k
  unfold swr swp
  by_cases e1 : k = a + n
  · subst e1
    rw [if_pos (by omega), if_pos rfl]
    show _ = if a ≤ b + n ∧ b + n < a + n then _ else if b ≤ b + n ∧ b + n < b + n then _ else f (b + n)
    rw [if_neg (by omega), if_neg (by omega)]
    congr 1; omega
  · by_cases e2 : k = b + n
    · subst e2
      rw [if_neg (by omega), if_pos (by omega), if_neg (by omega), if_pos rfl]
      show _ = if a ≤ a + n ∧ a + n < a + n then _ else if b ≤ a + n ∧ a + n < b + n then _ else f (a + n)
      rw [if_neg (by omega), if_neg (by omega)]
      congr 1; omega
    · rw [if_neg e1, if_neg e2]
      show _ = if a ≤ k ∧ k < a + n then f (k - a + b) else if b ≤ k ∧ k < b + n then f (k - b + a) else f k
      by_cases e3 : a ≤ k ∧ k < a + n
      · rw [if_pos (by omega), if_pos e3]
      · rw [if_neg (by omega), if_neg e3]
        by_cases e4 : b ≤ k ∧ k < b + n
        · rw [if_pos (by omega), if_pos e4]
        · rw [if_neg (by omega), if_neg e4]
def rot (f : Nat → Int) (a m b : Nat) : Nat → Int := fun k => if a ≤ k ∧ k < b then (if k < a + (b - m) then f (k - a + m) else f (k - (b - m))) else f k
theorem rot_big (f : Nat → Int) {m i j : Nat} (hi : i ≤ m) (hij : j < i) : rot (swr f (m - i) m j) (m - (i - j)) m (m + j) = rot f (m - i) m (m + j) := by
  funext k
  unfold rot swr
  by_cases h1 : m - i ≤ k ∧ k < m + j
  · rw [if_pos h1]
    by_cases h2 : m - (i - j) ≤ k
    · rw [if_pos (show m - (i - j) ≤ k ∧ k < m + j by omega)]
      by_cases h3 : k < m - (i - j) + (m + j - m)
      · rw [if_pos h3, if_neg (show ¬ (m - i ≤ k - (m - (i - j)) + m ∧ k - (m - (i - j)) + m < m - i + j) by omega), if_pos (show m ≤ k - (m - (i - j)) + m ∧ k - (m - (i - j)) + m < m + j by omega), if_neg (show ¬ k < m - i + (m + j - m) by omega)]
        congr 1; omega
      · rw [if_neg h3, if_neg (show ¬ (m - i ≤ k - (m + j - m) ∧ k - (m + j - m) < m - i + j) by omega), if_neg (show ¬ (m ≤ k - (m + j - m) ∧ k - (m + j - m) < m + j) by omega), if_neg (show ¬ k < m - i + (m + j - m) by omega)]
    · rw [if_neg (show ¬ (m - (i - j) ≤ k ∧ k < m + j) by omega), if_pos (show m - i ≤ k ∧ k < m - i + j by omega), if_pos (show k < m - i + (m + j - m) by omega)]
  · rw [if_neg h1, if_neg (show ¬ (m - (i - j) ≤ k ∧ k < m + j) by omega), if_neg (show ¬ (m - i ≤ k ∧ k < m - i + j) by omega), if_neg (show ¬ (m ≤ k ∧ k < m + j) by omega)]
theorem rot_small (f : Nat → Int) {m i j : Nat} (hi : i ≤ m) (hij : i < j) : rot (swr f (m - i) (m + j - i) i) (m - i) m (m + (j - i)) = rot f (m - i) m (m + j) := by
  funext k
  unfold rot swr
  by_cases h1 : m - i ≤ k ∧ k < m + j
  · rw [if_pos h1]
    by_cases h2 : k < m + (j - i)
    · rw [if_pos (show m - i ≤ k ∧ k < m + (j - i) by omega)]
      by_cases h3 : k < m - i + (m + (j - i) - m)
      · rw [if_pos h3, if_neg (show ¬ (m - i ≤ k - (m - i) + m ∧ k - (m - i) + m < m - i + i) by omega), if_neg (show ¬ (m + j - i ≤ k - (m - i) + m ∧ k - (m - i) + m < m + j - i + i) by omega), if_pos (show k < m - i + (m + j - m) by omega)]
      · rw [if_neg h3, if_pos (show m - i ≤ k - (m + (j - i) - m) ∧ k - (m + (j - i) - m) < m - i + i by omega), if_pos (show k < m - i + (m + j - m) by omega)]
        congr 1; omega
    · rw [if_neg (show ¬ (m - i ≤ k ∧ k < m + (j - i)) by omega), if_neg (show ¬ (m - i ≤ k ∧ k < m - i + i) by omega), if_pos (show m + j - i ≤ k ∧ k < m + j - i + i by omega), if_neg (show ¬ k < m - i + (m + j - m) by omega)]
      congr 1; omega
  · rw [if_neg h1, if_neg (show ¬ (m - i ≤ k ∧ k < m + (j - i)) by omega), if_neg (show ¬ (m - i ≤ k ∧ k < m - i + i) by omega), if_neg (show ¬ (m + j - i ≤ k ∧ k < m + j - i + i) by omega)]
theorem rot_same (f : Nat → Int) {m i : Nat} (hi : i ≤ m) : swr f (m - i) m i = rot f (m - i) m (m + i) := by
  funext k
  unfold rot swr
  by_cases h1 : m - i ≤ k ∧ k < m + i
  · rw [if_pos h1]
    by_cases h2 : k < m
    · rw [if_pos (show m - i ≤ k ∧ k < m - i + i by omega), if_pos (show k < m - i + (m + i - m) by omega)]
    · rw [if_neg (show ¬ (m - i ≤ k ∧ k < m - i + i) by omega), if_pos (show m ≤ k ∧ k < m + i by omega), if_neg (show ¬ k < m - i + (m + i - m) by omega)]
      congr 1; omega
  · rw [if_neg h1, if_neg (show ¬ (m - i ≤ k ∧ k < m - i + i) by omega), if_neg (show ¬ (m ≤ k ∧ k < m + i) by omega)]
theorem PmS.rot {f : Nat → Int} {a m b : Nat} (h1 : a ≤ m) (h2 : m ≤ b) : PmS f (rot f a m b) a b := by
  refine ⟨fun k => if k < a + (b - m) then k - a + m else k - (b - m), fun k => if k < m then k + (b - m) else k - m + a, fun k ha hb => ?_, fun k ha hb => ?_, fun k hk => ?_⟩
  · unfold Go.Proofs.Ythbjfkkjmecaaaa.rot
    rw [if_pos ⟨ha, hb⟩]
    by_cases h : k < a + (b - m)
    · simp only [h, if_true]
      refine ⟨by omega, by omega, ?_, trivial⟩
      rw [if_neg (by omega)]; omega
    · simp only [h, if_false]
      refine ⟨by omega, by omega, ?_, trivial⟩
      rw [if_pos (by omega)]; omega
  · by_cases h : k < m
    · simp only [h, if_true]
      refine ⟨by omega, by omega, ?_⟩
      rw [if_neg (by omega)]; omega
    · simp only [h, if_false]
      refine ⟨by omega, by omega, ?_⟩
      rw [if_pos (by omega)]; omega
  · unfold Go.Proofs.Ythbjfkkjmecaaaa.rot
    rw [if_neg (by omega)]
def SrS (key : Int → Int) (f : Nat → Int) (a b : Nat) : Prop := ∀ i j, a ≤ i → i < j → j < b → key (f i) ≤ key (f j)
variable {key : Int → Int} {f g : Nat → Int}
theorem SrS.part {a b a' b' : Nat} (h : SrS key f a b) (ha : a ≤ a') (hb : b' ≤ b) : SrS key f a' b' := fun i j h1 h2 h3 => h i j (by omega) h2 (by omega)
theorem SrS.le {a b i j : Nat} (h : SrS key f a b) (h1 : a ≤ i) (h2 : i ≤ j) (h3 : j < b) : key (f i) ≤ key (f j) := by
  rcases Nat.lt_or_ge i j with h4 | h4
  · exact h i j h1 h4 h3
  · have : i = j := by omega
    subst this; exact Int.le_refl _
theorem SrS.same {a b : Nat} (h : SrS key f a b) (he : ∀ k, a ≤ k → k < b → g k = f k) : SrS key g a b := fun i j h1 h2 h3 => by rw [he i h1 (by omega), he j (by omega) h3]; exact h i j h1 h2 h3
theorem SrS.join {a m b : Nat} (h1 : SrS key f a m) (h2 : SrS key f m b) (h : ∀ i j, a ≤ i → i < m → m ≤ j → j < b → key (f i) ≤ key (f j)) : SrS key f a b := fun i j ha hij hb => by
  rcases Nat.lt_or_ge j m with h3 | h3
  · exact h1 i j ha hij h3
  · rcases Nat.lt_or_ge i m with h4 | h4
    · exact h i j ha h4 h3 hb
    · exact h2 i j h4 hij hb
theorem cross_pm {a m b : Nat} {g1 g2 : Nat → Int} (h : ∀ i j, a ≤ i → i < m → m ≤ j → j < b → key (f i) ≤ key (f j)) (p1 : PmS f g1 a m) (p2 : PmS g1 g2 m b) : ∀ i j, a ≤ i → i < m → m ≤ j → j < b → key (g2 i) ≤ key (g2 j) := fun i j h1 h2 h3 h4 => by
  obtain ⟨s, t, q1, _, q3⟩ := p1
  obtain ⟨s', t', r1, _, r3⟩ := p2
  obtain ⟨a1, a2, _, a4⟩ := q1 i h1 h2
  obtain ⟨b1, b2, _, b4⟩ := r1 j h3 h4
  rw [r3 i (by omega), a4, b4, q3 (s' j) (by omega)]
  exact h _ _ a1 a2 b1 b2
theorem sym_cut {a m b st en mid : Nat} (hA : SrS key f a m) (hB : SrS key f m b) (h1 : a ≤ st) (h2 : st ≤ m) (h3 : m ≤ en) (h4 : en ≤ b) (hm : st + (en - m) = mid)
    (c1 : a < st → en < b → key (f (st - 1)) ≤ key (f en)) (c2 : m < en → st < m → key (f (en - 1)) ≤ key (f st)) :
    SrS key (rot f st m en) a st ∧ SrS key (rot f st m en) st mid ∧ SrS key (rot f st m en) mid en ∧ SrS key (rot f st m en) en b ∧ ∀ i j, a ≤ i → i < mid → mid ≤ j → j < b → key (rot f st m en i) ≤ key (rot f st m en j) := by
  have v1 : ∀ k, k < st → rot f st m en k = f k := fun k hk => by unfold rot; rw [if_neg (by omega)]
  have v2 : ∀ k, st ≤ k → k < mid → rot f st m en k = f (k - st + m) := fun k h h' => by unfold rot; rw [if_pos (by omega), if_pos (by omega)]
  have v3 : ∀ k, mid ≤ k → k < en → rot f st m en k = f (k - (en - m)) := fun k h h' => by unfold rot; rw [if_pos (by omega), if_neg (by omega)]
  have v4 : ∀ k, en ≤ k → rot f st m en k = f k := fun k hk => by unfold rot; rw [if_neg (by omega)]
  refine ⟨fun i j p q r => ?_, fun i j p q r => ?_, fun i j p q r => ?_, fun i j p q r => ?_, fun i j p q r s => ?_⟩
  · rw [v1 i (by omega), v1 j (by omega)]; exact hA i j p q (by omega)
  · rw [v2 i p (by omega), v2 j (by omega) r]; exact hB _ _ (by omega) (by omega) (by omega)
  · rw [v3 i p (by omega), v3 j (by omega) r]; exact hA _ _ (by omega) (by omega) (by omega)
  · rw [v4 i p, v4 j (by omega)]; exact hB i j (by omega) q r
  · rcases Nat.lt_or_ge i st with hi | hi
    · rw [v1 i hi]
      rcases Nat.lt_or_ge j en with hj | hj
      · rw [v3 j r hj]; exact hA.le (by omega) (by omega) (by omega)
      · rw [v4 j hj]
        have := hA.le (i := i) (j := st - 1) p (by omega) (by omega)
        have := hB.le (i := en) (j := j) h3 hj s
        have := c1 (by omega) (by omega)
        omega
    · rw [v2 i hi q]
      rcases Nat.lt_or_ge j en with hj | hj
      · rw [v3 j r hj]
        have := hB.le (i := i - st + m) (j := en - 1) (by omega) (by omega) (by omega)
        have := hA.le (i := st) (j := j - (en - m)) h1 (by omega) (by omega)
        have := c2 (by omega) (by omega)
        omega
      · rw [v4 j hj]; exact hB.le (by omega) (by omega) s
theorem rot_left {f : Nat → Int} {a k : Nat} (h : a ≤ k) : swp (rot f a (a + 1) (k + 1)) k (k + 1) = rot f a (a + 1) (k + 2) := by
  funext q
  show (if q = k then rot f a (a + 1) (k + 1) (k + 1) else if q = k + 1 then rot f a (a + 1) (k + 1) k else rot f a (a + 1) (k + 1) q) = rot f a (a + 1) (k + 2) q
  unfold rot
  by_cases e1 : q = k
  · subst e1
    rw [if_pos rfl, if_neg (by omega), if_pos (by omega), if_pos (by omega)]
    congr 1; omega
  · rw [if_neg e1]
    by_cases e2 : q = k + 1
    · subst e2
      rw [if_pos rfl, if_pos (by omega), if_neg (by omega), if_pos (by omega), if_neg (by omega)]
      congr 1; omega
    · rw [if_neg e2]
      by_cases h1 : a ≤ q ∧ q < k + 1
      · rw [if_pos h1, if_pos (by omega), if_pos (by omega), if_pos (by omega)]
      · rw [if_neg h1, if_neg (by omega)]
theorem rot_left0 (f : Nat → Int) (a : Nat) : rot f a (a + 1) (a + 1) = f := by
  funext q
  unfold rot
  by_cases h : a ≤ q ∧ q < a + 1
  · rw [if_pos h, if_neg (by omega)]
    congr 1; omega
  · rw [if_neg h]
theorem rot_right {f : Nat → Int} {m k : Nat} (h : k + 1 ≤ m) : swp (rot f (k + 1) m (m + 1)) (k + 1) k = rot f k m (m + 1) := by
  funext q
  show (if q = k + 1 then rot f (k + 1) m (m + 1) k else if q = k then rot f (k + 1) m (m + 1) (k + 1) else rot f (k + 1) m (m + 1) q) = rot f k m (m + 1) q
  unfold rot
  by_cases e1 : q = k + 1
  · subst e1
    rw [if_pos rfl, if_neg (by omega), if_pos (by omega), if_neg (by omega)]
    congr 1; omega
  · rw [if_neg e1]
    by_cases e2 : q = k
    · subst e2
      rw [if_pos rfl, if_pos (by omega), if_pos (by omega), if_pos (by omega), if_pos (by omega)]
      congr 1; omega
    · rw [if_neg e2]
      by_cases h1 : k + 1 ≤ q ∧ q < m + 1
      · rw [if_pos h1, if_neg (by omega), if_pos (by omega), if_neg (by omega)]
      · rw [if_neg h1, if_neg (by omega)]
theorem rot_right0 (f : Nat → Int) (m : Nat) : rot f m m (m + 1) = f := by
  funext q
  unfold rot
  by_cases h : m ≤ q ∧ q < m + 1
  · rw [if_pos h, if_pos (by omega)]
    congr 1; omega
  · rw [if_neg h]
theorem merge_left {a b i : Nat} (hB : SrS key f (a + 1) b) (h1 : a + 1 ≤ i) (h2 : i ≤ b) (c1 : i = a + 1 ∨ key (f (i - 1)) < key (f a)) (c2 : i = b ∨ key (f a) ≤ key (f i)) : SrS key (rot f a (a + 1) i) a b := by
  obtain ⟨_, s2, s3, s4, s5⟩ := sym_cut (f := f) (a := a) (m := a + 1) (b := b) (st := a) (en := i) (mid := a + (i - (a + 1))) (fun p q h h' h'' => by omega) hB (Nat.le_refl _) (by omega) h1 h2 rfl (fun h => by omega) (fun h _ => by rcases c1 with e | e <;> omega)
  refine s2.join (s3.join s4 fun p q h3 h4 h5 h6 => ?_) s5
  have v3 : rot f a (a + 1) i p = f a := by
    unfold rot; rw [if_pos (by omega), if_neg (by omega)]; congr 1; omega
  have v4 : rot f a (a + 1) i q = f q := by unfold rot; rw [if_neg (by omega)]
  rw [v3, v4]
  rcases c2 with e | e
  · omega
  · have := hB.le (i := i) (j := q) h1 h5 h6
    omega
theorem merge_right {a m i : Nat} (hA : SrS key f a m) (h1 : a ≤ i) (h2 : i ≤ m) (c1 : i = a ∨ key (f (i - 1)) ≤ key (f m)) (c2 : i = m ∨ key (f m) < key (f i)) : SrS key (rot f i m (m + 1)) a (m + 1) := by
  obtain ⟨s1, s2, s3, _, s5⟩ := sym_cut (f := f) (a := a) (m := m) (b := m + 1) (st := i) (en := m + 1) (mid := i + 1) hA (fun p q h h' h'' => by omega) h1 h2 (by omega) (Nat.le_refl _) (by omega) (fun h h' => by omega) (fun h h' => by
    rcases c2 with e | e
    · omega
    · rw [Nat.add_sub_cancel]; omega)
  refine (s1.join s2 fun p q h3 h4 h5 h6 => ?_).join s3 s5
  have v1 : rot f i m (m + 1) p = f p := by unfold rot; rw [if_neg (by omega)]
  have v2 : rot f i m (m + 1) q = f m := by
    unfold rot; rw [if_pos (by omega), if_pos (by omega)]; congr 1; omega
  rw [v1, v2]
  rcases c1 with e | e
  · omega
  · have := hA.le (i := p) (j := i - 1) h3 (by omega) (by omega)
    omega
structure InsS (key : Int → Int) (f : Nat → Int) (a e j : Nat) : Prop where
  rest : ∀ p q, a ≤ p → p < q → q < e → p ≠ j → q ≠ j → key (f p) ≤ key (f q)
  up : ∀ q, j < q → q < e → key (f j) ≤ key (f q)
theorem InsS.start {a j : Nat} (h : SrS key f a j) : InsS key f a (j + 1) j := ⟨fun p q h1 h2 h3 _ h5 => h p q h1 h2 (by omega), fun q h1 h2 => by omega⟩
theorem InsS.done {a e j : Nat} (h : InsS key f a e j) (hj : j = a ∨ key (f (j - 1)) ≤ key (f j)) (ha : a ≤ j) : SrS key f a e := fun p q h1 h2 h3 => by
  by_cases e1 : p = j
  · subst e1; exact h.up q h2 h3
  · by_cases e2 : q = j
    · subst e2
      rcases hj with e3 | e3
      · omega
      · rcases Nat.lt_or_ge p (q - 1) with h4 | h4
        · have := h.rest p (q - 1) h1 h4 (by omega) e1 (by omega)
          omega
        · have : p = q - 1 := by omega
          subst this; exact e3
    · exact h.rest p q h1 h2 h3 e1 e2
theorem InsS.step {a e j : Nat} (h : InsS key f a e (j + 1)) (hlt : key (f (j + 1)) < key (f j)) (ha : a ≤ j) (he : j + 1 < e) : InsS key (swp f (j + 1) j) a e j := by
  have v : ∀ k, swp f (j + 1) j k = if k = j + 1 then f j else if k = j then f (j + 1) else f k := fun k => rfl
  refine ⟨fun p q h1 h2 h3 h4 h5 => ?_, fun q h1 h2 => ?_⟩
  · rw [v, v, if_neg h4, if_neg h5]
    by_cases e1 : p = j + 1
    · rw [if_pos e1, if_neg (by omega)]
      exact h.rest j q ha (by omega) h3 (by omega) (by omega)
    · rw [if_neg e1]
      by_cases e2 : q = j + 1
      · rw [if_pos e2]
        exact h.rest p j h1 (by omega) (by omega) (by omega) (by omega)
      · rw [if_neg e2]
        exact h.rest p q h1 h2 h3 e1 e2
  · rw [v, v, if_neg (by omega), if_pos rfl]
    by_cases e2 : q = j + 1
    · rw [if_pos e2]; omega
    · rw [if_neg e2, if_neg (by omega)]
      exact h.up q (by omega) h2
abbrev cellsF (f : Nat → Int) (L : Nat) : List AVal := (List.range L).map fun k => vi (f k)
theorem cellsF_len (f : Nat → Int) (L : Nat) : (cellsF f L).length = L := by simp [-getElem?_pos]
theorem cellsF_at {f : Nat → Int} {L k : Nat} (h : k < L) : (cellsF f L)[k]? = some (vi (f k)) := by rw [List.getElem?_map, List.getElem?_range h]; rfl
theorem cellsF_set2 {f : Nat → Int} {L i j : Nat} (hi : i < L) (hj : j < L) : ((cellsF f L).set i (vi (f j))).set j (vi (f i)) = cellsF (swp f i j) L := by
  refine List.ext_getElem? fun k => ?_
  rw [List.getElem?_set, List.length_set, cellsF_len, List.getElem?_set, cellsF_len]
  by_cases hk : k < L
  · rw [cellsF_at hk, cellsF_at hk]
    unfold swp
    by_cases e1 : j = k
    · subst e1
      rw [if_pos rfl, if_pos hj]
      by_cases e2 : j = i
      · rw [if_pos e2, e2]
      · rw [if_neg e2, if_pos rfl]
    · rw [if_neg e1]
      by_cases e2 : i = k
      · subst e2; rw [if_pos rfl, if_pos hi, if_pos rfl]
      · rw [if_neg e2, if_neg (fun e => e2 e.symm), if_neg (fun e => e1 e.symm)]
  · rw [if_neg (by omega), if_neg (by omega)]
    rw [List.getElem?_eq_none (by rw [cellsF_len]; omega), List.getElem?_eq_none (by rw [cellsF_len]; omega)]
variable {H0 H : AHeap} {R ver nv L : Nat}
theorem RowW.swap {f : Nat → Int} (h : RowW H0 R ver nv (cellsF f L) H) {i j : Nat} (hi : i < L) (hj : j < L) :
    ∃ H1 H2, H.write R ver i [vi (f j)] = some H1 ∧ H1.write R ver j [vi (f i)] = some H2 ∧ H1.next = H.next ∧ H2.next = H.next ∧ RowW H0 R ver nv (cellsF (swp f i j) L) H2 := by
  obtain ⟨H1, w1, r1⟩ := h.write (off := i) (vals := [vi (f j)]) (by simp [-getElem?_pos]) (by rw [cellsF_len]; simp [-getElem?_pos]; omega) rfl
  rw [set_spl (by rw [cellsF_len]; exact hi)] at r1
  obtain ⟨H2, w2, r2⟩ := r1.write (off := j) (vals := [vi (f i)]) (by simp [-getElem?_pos]) (by rw [List.length_set, cellsF_len]; simp [-getElem?_pos]; omega) rfl
  rw [set_spl (by rw [List.length_set, cellsF_len]; exact hj), cellsF_set2 hi hj] at r2
  exact ⟨H1, H2, w1, w2, by rw [r1.next, h.next], by rw [r2.next, h.next], r2⟩
end Go.Proofs.Ythbjfkkjmecaaaa
