/- RingLap, walked. -/
import Derived.Test.YtmdppcokjdpnoaaRingH
namespace Go.Proofs.Ytmdppcokjdpnoaa
open Go Go.Vm
set_option linter.unusedVariables false
set_option linter.unusedSimpArgs false

attribute [local simp] endF aCode aSteps aStep awanted aOp ev List.replicate aRess aRes1 aLeave tup aBin aUn aArith ASt.put ile_eq ilt_eq ieq_eq aPart List.getElem?_cons_zero

theorem seqE {or : Oracle} {top : Bool} {n id : Nat} {a b : ACode} {st s : ASt} (h1 : aCode or top n a st = some (.exit id, s)) : aCode or top n (.seq a b) st = some (.exit id, s) := by
  simp only [aCode, h1]

theorem end5b (or : Oracle) (f : Nat) (T : Int) (n : Nat) (tm : List AVal) (h : In5b T n n tm) (H : AHeap) : ∃ tm', aCode or true f body5b ⟨tm, H, []⟩ = some (.exit 2, ⟨tm', H, []⟩) ∧ tm'.length = 123 := by
  obtain ⟨l, t0, t5, t13⟩ := h
  refine ⟨?w, ?a1, ?a2⟩
  case a1 =>
    simp only [body5b, a5, fstC, sndC]
    apply seqE
    simp [-getElem?_pos, List.getElem?_set, l, t5, t13]
    rfl
  case a2 => simp [l]

theorem end5a (or : Oracle) (f : Nat) (T : Int) (n A : Nat) (tm : List AVal) (h : In5a T n A n tm) (H : AHeap) : ∃ tm', aCode or true f body5a ⟨tm, H, []⟩ = some (.exit 0, ⟨tm', H, []⟩) ∧ In5a T n A n tm' := by
  obtain ⟨l, t0, t5, t6, t7⟩ := h
  refine ⟨?w, ?a1, ?a2, ?a3, ?a4, ?a5, ?a6⟩
  case a1 =>
    simp only [body5a, a5, fstC, sndC]
    apply seqE
    simp [-getElem?_pos, List.getElem?_set, l, t5, t7]
    rfl
  all_goals simp [-getElem?_pos, List.getElem?_set, l, t0, t5, t6, t7]

theorem loop5b (or : Oracle) (f : Nat) (T : Int) (n : Nat) (hT : 0 ≤ T) (hT' : T ≤ 4611686018427387904) (hn : 2 ≤ n) (hn' : n ≤ 64)
    (F9 : ∀ q, 0 ≤ q → q ≤ 4611686018427387968 → ∀ H, or (.func (.func 9) []) [u q, i n] H = some (.tuple [i (q % n), i 0], H))
    (F16 : ∀ s H, 0 ≤ s → s < (n : Int) → ∃ H', or (.func (.func 16) []) [i s, u T, i n] H = some (.tuple [u (T + (s - T) % n), i 0], H') ∧ Ext H H')
    (t11 : ∀ x H, or (.func (.func 11) []) [i x] H = some (i x, H)) :
    ∀ (c j m : Nat) (tm : List AVal) (H : AHeap), j + c = n → c < m → In5b T n j tm → ∃ tm' H', aLoop (aCode or true f body5b) m ⟨tm, H, []⟩ = some (.exit 2, ⟨tm', H', []⟩) ∧ tm'.length = 123
  | 0, j, m + 1, tm, H, hj, _, h => by
    have : j = n := by omega
    subst this
    obtain ⟨tm', h1, h2⟩ := end5b or f T j tm h H
    exact ⟨tm', H, loopE h1 (by simp), h2⟩
  | c + 1, j, m + 1, tm, H, hj, hm, h => by
    obtain ⟨H', t16, _⟩ := F16 j H (by omega) (by omega)
    have p1 := Int.emod_nonneg ((j : Int) - T) (show (n : Int) ≠ 0 by omega)
    have p2 := Int.emod_lt_of_pos ((j : Int) - T) (show 0 < (n : Int) by omega)
    have hq := (gap_hit (t := T) (show (2 : Int) ≤ n by omega) (show (0 : Int) ≤ j by omega) (by omega) p1 (Int.le_refl _)).2 rfl
    have t9 := F9 (T + ((j : Int) - T) % n) (by omega) (by omega)
    rw [hq] at t9
    obtain ⟨tm', h1, h2⟩ := it5b or f T n j hT hT' hn hn' (by omega) tm h H H' _ (by omega) (by omega) t16 t9 t11
    obtain ⟨tm2, H2, g1, g2⟩ := loop5b or f T n hT hT' hn hn' F9 F16 t11 c (j + 1) m tm' H' (by omega) (by omega) h2
    exact ⟨tm2, H2, loopN h1 g1, g2⟩

/-- What has been seen ahead of round j. -/
structure Seen (T : Int) (n A j : Nat) (H : AHeap) : Prop where
  lt : A < H.next
  row : ∃ cells, H.get A = some (.row [some (0, cells)]) ∧ cells.length = n ∧ ∀ s : Nat, s < n → cells[s]? = some (abool (decide (((s : Int) - T) % n < j)))

theorem loop5a (or : Oracle) (f : Nat) (T : Int) (n A : Nat) (hT : 0 ≤ T) (hT' : T ≤ 4611686018427387904) (hn : 2 ≤ n) (hn' : n ≤ 64)
    (F9 : ∀ q, 0 ≤ q → q ≤ 4611686018427387968 → ∀ H, or (.func (.func 9) []) [u q, i n] H = some (.tuple [i (q % n), i 0], H))
    (F16 : ∀ s H, 0 ≤ s → s < (n : Int) → ∃ H', or (.func (.func 16) []) [i s, u T, i n] H = some (.tuple [u (T + (s - T) % n), i 0], H') ∧ Ext H H')
    (t11 : ∀ x H, or (.func (.func 11) []) [i x] H = some (i x, H)) :
    ∀ (c j m : Nat) (tm : List AVal) (H : AHeap), j + c = n → c < m → In5a T n A j tm → Seen T n A j H → ∃ tm' H', aLoop (aCode or true f body5a) m ⟨tm, H, []⟩ = some (.exit 0, ⟨tm', H', []⟩) ∧ In5a T n A n tm'
  | 0, j, m + 1, tm, H, hj, _, h, _ => by
    have : j = n := by omega
    subst this
    obtain ⟨tm', h1, h2⟩ := end5a or f T j A tm h H
    exact ⟨tm', H, loopE h1 (by simp), h2⟩
  | c + 1, j, m + 1, tm, H, hj, hm, h, hs => by
    obtain ⟨hlt, cells, hr, hl, hc⟩ := hs
    have n0 : (n : Int) ≠ 0 := by omega
    have p1 := Int.emod_nonneg (T + j) n0
    have p2 := Int.emod_lt_of_pos (T + j) (show 0 < (n : Int) by omega)
    obtain ⟨s, hse⟩ : ∃ s : Nat, (s : Int) = (T + j) % n := ⟨((T + j) % n).toNat, by omega⟩
    have hsn : s < n := by omega
    have d1 := Int.emod_nonneg ((s : Int) - T) n0
    have d2 := Int.emod_lt_of_pos ((s : Int) - T) (show 0 < (n : Int) by omega)
    -- the place that round j sees is the one whose gap is j
    have gap : ∀ s' : Nat, s' < n → (((s' : Int) - T) % n = j ↔ s' = s) := by
      intro s' hs'
      have e1 : ((s' : Int) - T) % n = j ↔ (T + j) % n = s' := by
        constructor
        · intro e
          have := (gap_hit (t := T) (k := ((s' : Int) - T) % n) (show (2 : Int) ≤ n by omega) (show (0 : Int) ≤ s' by omega) (by omega) (Int.emod_nonneg _ n0) (Int.le_refl _)).2 rfl
          rw [e] at this; exact this
        · intro e
          have : ((s' : Int) - T) % n = (j : Int) % n := by
            rw [← e]
            rw [Int.emod_sub_emod]
            congr 1; omega
          rw [this, Int.emod_eq_of_lt (by omega) (by omega)]
      rw [e1, ← hse]
      omega
    have hd : ((s : Int) - T) % n = j := (gap s hsn).2 rfl
    have hcs : cells[s]? = some (abool false) := by rw [hc s hsn, hd]; simp
    have t9 := F9 (T + j) (by omega) (by omega)
    rw [← hse] at t9
    have hw := write_at hr (s := s) (by omega) (v := abool true) rfl
    obtain ⟨H', t16, x⟩ := F16 s (H.set A (.row [some (0, cells.set s (abool true))])) (by omega) (by omega)
    rw [hd] at t16
    have er : H.rowAt A 0 = some cells := by unfold AHeap.rowAt; rw [hr]; rfl
    obtain ⟨tm', h1, h2⟩ := it5a or f T n A j s hT hT' hn' (by omega) hsn tm h H _ H' cells er hl hcs hw t9 t16 t11
    have hs' : Seen T n A (j + 1) H' := by
      refine ⟨Nat.lt_of_lt_of_le hlt x.next, _, (x.get A hlt).trans (AHeap.get_set_same _ _ _), by simpa using hl, fun s' hs' => ?_⟩
      rw [List.getElem?_set]
      by_cases es : s = s'
      · subst es
        rw [if_pos rfl, if_pos (by omega), hd]
        simp; omega
      · rw [if_neg es, hc s' hs']
        have : ¬ ((s' : Int) - T) % n = j := fun e => es ((gap s' hs').1 e).symm
        congr 3
        simp; omega
    obtain ⟨tm2, H2, g1, g2⟩ := loop5a or f T n A hT hT' hn hn' F9 F16 t11 c (j + 1) m tm' H' (by omega) (by omega) h2 hs'
    exact ⟨tm2, H2, loopN h1 g1, g2⟩

theorem repl_one (n : Nat) (v : AVal) : repl n [v] = List.replicate n v := by
  induction n with
  | zero => rfl
  | succ n ih => simp [repl, ih, List.replicate_succ]

set_option maxHeartbeats 1000000 in
theorem c5 (k : Nat) (a b : Int) (hw : ∃ H', callN env (k + 72) (.func (.func 8) []) [] .empty = some (abool true, H')) (ha : 0 ≤ a) :
    ∃ H', callN env (k + 73) (.func (.func 5) []) [u a, i b] .empty = some (abool true, H') := by
  obtain ⟨H1, hw⟩ := hw
  rw [show k + 73 = k + 72 + 1 from rfl, opn e5]
  have t22 := fun H => c22' (k + 71) a b ha H
  have hT : 0 ≤ a % 4611686018427387905 := by omega
  have hT' : a % 4611686018427387905 ≤ 4611686018427387904 := by omega
  generalize a % 4611686018427387905 = T at t22 hT hT'
  obtain ⟨n, hn⟩ : ∃ n : Nat, (n : Int) = 2 + b % 63 := ⟨(2 + b % 63).toNat, by omega⟩
  rw [← hn] at t22
  have hn1 : 2 ≤ n := by omega
  have hn2 : n ≤ 64 := by omega
  have F9 : ∀ q, 0 ≤ q → q ≤ 4611686018427387968 → ∀ H, callN env (k + 72) (.func (.func 9) []) [u q, i n] H = some (.tuple [i (q % n), i 0], H) := fun q h0 h1 H => by
    have := c9 (k + 70) q n h0 H
    rw [show slotS q n = (q % n, 0) by simp only [slotS]; rw [if_pos (by omega), if_pos h1]] at this
    exact this
  have F16 : ∀ s H, 0 ≤ s → s < (n : Int) → ∃ H', callN env (k + 72) (.func (.func 16) []) [i s, u T, i n] H = some (.tuple [u (T + (s - T) % n), i 0], H') ∧ Ext H H' := fun s H h0 h1 => by
    have := c16 k s T n hT H
    rw [show ownerS s T n = (T + (s - T) % n, 0) by simp only [ownerS]; rw [if_pos (by omega), if_pos hT']] at this
    exact this
  have t11 := fun x H => c11 (k + 71) x H
  have kk : 65 < k + 72 := by omega
  simp only [Nat.reduceAdd, Nat.add_assoc] at hw t22 F9 F16 t11 ⊢
  generalize callN env (k + 72) = or at hw t22 F9 F16 t11 ⊢
  generalize k + 72 = f at kk ⊢
  have lpa := fun tm H h hs => loop5a or f T n H1.next hT hT' hn1 hn2 F9 F16 t11 n 0 f tm H (by omega) (by omega) h hs
  have lpb := fun tm H h => loop5b or f T n hT hT' hn1 hn2 F9 F16 t11 n 0 f tm H (by omega) (by omega) h
  have hseen : Seen T n H1.next 0 (H1.push (.row [some (0, List.replicate n (abool false))])) := by
    refine ⟨by simp, _, AHeap.get_push_same _ _, by simp, fun s hs => ?_⟩
    have := Int.emod_nonneg ((s : Int) - T) (show (n : Int) ≠ 0 by omega)
    rw [List.getElem?_replicate, if_pos hs]
    congr 3
    simp; omega
  have lqa : ∀ tm, In5a T n H1.next (0 : Nat) tm → ∃ x : List AVal × AHeap, aLoop (aCode or true f body5a) f ⟨tm, H1.push (.row [some (0, List.replicate n (abool false))]), []⟩ = some (.exit 0, ⟨x.1, x.2, []⟩) ∧ In5a T n H1.next n x.1 :=
    fun tm h => let ⟨tm', H', g1, g2⟩ := lpa tm _ h hseen; ⟨(tm', H'), g1, g2⟩
  have lqb : ∀ y : List AVal × AHeap, In5b T n (0 : Nat) y.1 → ∃ x : List AVal × AHeap, aLoop (aCode or true f body5b) f ⟨y.1, y.2, []⟩ = some (.exit 2, ⟨x.1, x.2, []⟩) ∧ x.1.length = 123 :=
    fun y h => let ⟨tm', H', g1, g2⟩ := lpb y.1 y.2 h; ⟨(tm', H'), g1, g2⟩
  obtain ⟨fa, hfa⟩ := skol lqa
  obtain ⟨fb, hfb⟩ := skol lqb
  clear lpa lpb lqa lqb
  have hsz : (n : Int) ≤ 281474976710656 := by omega
  have hfb' : ∀ tm H (h : In5b T n (0 : Nat) tm), aLoop (aCode or true f body5b) f ⟨tm, H, []⟩ = some (.exit 2, ⟨(fb (tm, H) h).1, (fb (tm, H) h).2, []⟩) ∧ (fb (tm, H) h).1.length = 123 := fun tm H h => hfb (tm, H) h
  have inb : ∀ tm h, In5b T n (0 : Nat) ((fa tm h).1.set 13 (i 0)) := by
    intro tm h
    obtain ⟨l, t0, t5, _, _⟩ := (hfa tm h).2
    constructor <;> simp [-getElem?_pos, List.getElem?_set, l, t0, t5]
  clear hfb
  refine ⟨?G, ?a1⟩
  case a1 =>
    apply endN
    · simp only [a5]
      apply seqN
      · simp; rfl
      apply seqN
      · simp [hw]; rfl
      apply seqN
      · simp [t22]; rfl
      apply seqN
      · simp [hsz, repl_one, -List.replicate]; rfl
      apply seqN
      · apply seqN
        · simp; rfl
        · exact blkLoopX (hfa _ (by constructor <;> rfl)).1
      apply seqN
      · apply seqN
        · simp; rfl
        · exact blkLoopX (hfb' _ _ (inb _ _)).1
      apply seqN
      · simp; rfl
      · rfl
    · simp [-getElem?_pos, a5, List.getElem?_set, fun tm H h => (hfb' tm H h).2]
      rfl

end Go.Proofs.Ytmdppcokjdpnoaa
