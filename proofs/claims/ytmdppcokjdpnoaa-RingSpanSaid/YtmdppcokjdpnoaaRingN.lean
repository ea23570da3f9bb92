/- Walks of the ring laws: lists that are read; same. -/
import Derived.Test.YtmdppcokjdpnoaaRingM
namespace Go.Proofs.Ytmdppcokjdpnoaa
open Go Go.Vm

attribute [local simp] endF aCode aSteps aStep awanted aOp ev List.replicate aRess aRes1 aLeave tup aBin aUn aArith ASt.put ile_eq ilt_eq ieq_eq aPart List.getElem?_cons_zero
attribute [local simp] aDraw drawGo fltVal AOp.reads allAsked hasN yldB AVal.beq valBeq

/-- A value reads as a list of one-cell values. -/
def Rd (H : AHeap) (v : AVal) (l : List AVal) : Prop :=
  (v = anil ∧ l = []) ∨ ∃ R ver off kcap ex cells, v = .slice R ver off l.length kcap ex 1 ∧ H.rowAt R ver = some cells ∧ off + l.length ≤ cells.length ∧ l.length ≤ kcap ∧ (cells.drop off).take l.length = l

theorem _root_.Go.Vm.SliceIs.rd {H : AHeap} {base : Nat} {v : AVal} {l : List AVal} (h : SliceIs H base v l) : Rd H v l := by
  rcases h with h | ⟨R, ver, vs, h1, h2, h3, h4, h5⟩
  · exact .inl h
  · exact .inr ⟨R, ver, 0, l.length, false, l, h3, SliceIs.rowAt h4 h5, by omega, Nat.le_refl _, by simp⟩

theorem Rd.lenS {H : AHeap} {v : AVal} {l : List AVal} (h : Rd H v l) : aLenS v = some (aint l.length) := by
  rcases h with ⟨rfl, rfl⟩ | ⟨R, ver, off, kcap, ex, cells, rfl, _⟩ <;> rfl

theorem Rd.cells1 {H : AHeap} {v : AVal} {l : List AVal} (h : Rd H v l) : v.cells = [v] := by
  rcases h with ⟨rfl, rfl⟩ | ⟨R, ver, off, kcap, ex, cells, rfl, _⟩ <;> rfl

theorem Rd.at {H : AHeap} {v : AVal} {l : List AVal} (h : Rd H v l) {k : Nat} {x : AVal} (hk : l[k]? = some x) :
    ∃ R ver off kcap ex cells, v = .slice R ver off l.length kcap ex 1 ∧ H.rowAt R ver = some cells ∧ off + k + 1 ≤ cells.length ∧ cells[off + k]? = some x := by
  have hlt := (List.getElem?_eq_some_iff.1 hk).1
  rcases h with ⟨rfl, rfl⟩ | ⟨R, ver, off, kcap, ex, cells, h1, h2, h3, h4, h5⟩
  · simp at hk
  · refine ⟨R, ver, off, kcap, ex, cells, h1, h2, by omega, ?_⟩
    rw [← h5, List.getElem?_take, if_pos hlt, List.getElem?_drop] at hk
    exact hk

/-- The first so many, sliced. -/
theorem Rd.first {H : AHeap} {v : AVal} {l : List AVal} (h : Rd H v l) {k : Nat} (hk : k ≤ l.length) : ∃ v', aSliceS 1 v none (some (.raw (.int .i64 k))) none = some v' ∧ Rd H v' (l.take k) := by
  rcases h with ⟨rfl, rfl⟩ | ⟨R, ver, off, kcap, ex, cells, rfl, h2, h3, h4, h5⟩
  · have : k = 0 := by simpa using hk
    subst this
    exact ⟨anil, rfl, .inl ⟨rfl, rfl⟩⟩
  · refine ⟨.slice R ver off k kcap ex 1, ?_, .inr ⟨R, ver, off, kcap, ex, cells, ?_, h2, ?_, ?_, ?_⟩⟩
    · have e1 : (k : Int) ≤ kcap := by omega
      have e2 : (0 : Int) ≤ k := by omega
      simp [aSliceS, aBoundO, aBound, e1, e2]
    · simp [Nat.min_eq_left hk]
    · simp; omega
    · simp; omega
    · rw [← h5]
      simp [List.take_take, Nat.min_eq_left hk]

def body21 : ACode := fstC (fstC (sndC (fstC (sndC (sndC a21.code)))))

structure In21 (va vb : AVal) (m k : Nat) (tm : List AVal) : Prop where
  len : tm.length = 26
  t0 : tm[0]? = some va
  t1 : tm[1]? = some vb
  t12 : tm[12]? = some (i m)
  t13 : tm[13]? = some (i k)

set_option maxHeartbeats 1000000 in
theorem it21 (or : Oracle) (n : Nat) (H : AHeap) (va vb : AVal) (xs ys : List Int) (ra : Rd H va (xs.map u)) (rb : Rd H vb (ys.map u)) (hl : xs.length ≤ 70) (k : Nat) (x y : Int) (hx : xs[k]? = some x) (hy : ys[k]? = some y) (tm : List AVal) (h : In21 va vb xs.length k tm) :
    if x = y then ∃ tm', aCode or true n body21 ⟨tm, H, []⟩ = some (.normal, ⟨tm', H, []⟩) ∧ In21 va vb xs.length (k + 1) tm'
    else ∃ tm', aCode or true n body21 ⟨tm, H, []⟩ = some (.ret, ⟨tm', H, []⟩) ∧ tm'[4]? = some (abool false) := by
  obtain ⟨len, t0, t1, t12, t13⟩ := h
  have hk := (List.getElem?_eq_some_iff.1 hx).1
  have hk' := (List.getElem?_eq_some_iff.1 hy).1
  obtain ⟨R, ver, off, kc, ex, cells, rfl, a2, a3, a4⟩ := ra.at (k := k) (x := u x) (by simp [hx])
  obtain ⟨R', ver', off', kc', ex', cells', rfl, b2, b3, b4⟩ := rb.at (k := k) (x := u y) (by simp [hy])
  have w : wrapF .i64 ((k : Int) + 1) = k + 1 := wI (by omega) (by omega)
  split
  · rename_i e
    subst e
    refine ⟨?w, ?h1, ?h2, ?h3, ?h4, ?h5, ?h6⟩
    case h1 =>
      simp [-getElem?_pos, body21, a21, fstC, sndC, List.getElem?_set, len, t0, t1, t12, t13, hk, hk', a2, a3, a4, b2, b3, b4, w]
      rfl
    all_goals simp [-getElem?_pos, List.getElem?_set, len, t0, t1, t12]
  · rename_i e
    refine ⟨?v, ?k1, ?k2⟩
    case k1 =>
      simp [-getElem?_pos, body21, a21, fstC, sndC, List.getElem?_set, len, t0, t1, t12, t13, hk, hk', a2, a3, a4, b2, b3, b4, e]
      rfl
    all_goals simp [-getElem?_pos, List.getElem?_set, len]

theorem end21 (or : Oracle) (n : Nat) (H : AHeap) (va vb : AVal) (m : Nat) (tm : List AVal) (h : In21 va vb m m tm) :
    ∃ tm', aCode or true n body21 ⟨tm, H, []⟩ = some (.exit 0, ⟨tm', H, []⟩) ∧ tm'.length = 26 := by
  obtain ⟨len, t0, t1, t12, t13⟩ := h
  refine ⟨?w, ?h1, ?h2⟩
  case h1 =>
    simp [-getElem?_pos, body21, a21, fstC, sndC, List.getElem?_set, len, t0, t1, t12, t13]
    rfl
  all_goals simp [-getElem?_pos, List.getElem?_set, len]

theorem loop21 (or : Oracle) (n : Nat) (H : AHeap) (va vb : AVal) (xs ys : List Int) (ra : Rd H va (xs.map u)) (rb : Rd H vb (ys.map u)) (hl : xs.length ≤ 70) (he : ys.length = xs.length) :
    ∀ (j k m : Nat) (tm : List AVal), k + j = xs.length → j < m → In21 va vb xs.length k tm → (∀ q, q < k → xs[q]? = ys[q]?) →
      ∃ e tm', aLoop (aCode or true n body21) m ⟨tm, H, []⟩ = some (e, ⟨tm', H, []⟩) ∧ ((e = .exit 0 ∧ xs = ys ∧ tm'.length = 26) ∨ (e = .ret ∧ xs ≠ ys ∧ tm'[4]? = some (abool false)))
  | 0, k, m + 1, tm, hj, _, h, hq => by
    have : k = xs.length := by omega
    subst this
    obtain ⟨tm', h1, h2⟩ := end21 or n H va vb _ tm h
    refine ⟨_, tm', loopE h1 (by simp), .inl ⟨rfl, List.ext_getElem? fun q => ?_, h2⟩⟩
    by_cases hq' : q < xs.length
    · exact hq q hq'
    · rw [List.getElem?_eq_none (by omega), List.getElem?_eq_none (by omega)]
  | j + 1, k, m + 1, tm, hj, hm, h, hq => by
    have hx : xs[k]? = some xs[k] := List.getElem?_eq_getElem (by omega)
    have hy : ys[k]? = some ys[k] := List.getElem?_eq_getElem (by omega)
    have st := it21 or n H va vb xs ys ra rb hl k _ _ hx hy tm h
    by_cases e : xs[k] = ys[k]
    · rw [if_pos e] at st
      obtain ⟨tm', h1, h2⟩ := st
      obtain ⟨e', tm2, g1, g2⟩ := loop21 or n H va vb xs ys ra rb hl he j (k + 1) m tm' (by omega) (by omega) h2 (fun q hq' => by
        by_cases eq : q = k
        · subst eq; rw [hx, hy, e]
        · exact hq q (by omega))
      exact ⟨e', tm2, loopN h1 g1, g2⟩
    · rw [if_neg e] at st
      obtain ⟨tm', h1, h2⟩ := st
      refine ⟨_, tm', loopE h1 (by simp), .inr ⟨rfl, fun h => e ?_, h2⟩⟩
      subst h; rfl

/-- same: the same numbers. -/
theorem c21 (n : Nat) (H : AHeap) (va vb : AVal) (xs ys : List Int) (ra : Rd H va (xs.map u)) (rb : Rd H vb (ys.map u)) (hl : xs.length ≤ 70) :
    callN env (n + 72) (.func (.func 21) []) [va, vb] H = some (abool (decide (xs = ys)), H) := by
  have la := ra.lenS
  have lb := rb.lenS
  rw [List.length_map] at la lb
  rw [show n + 72 = n + 71 + 1 from rfl, opn e21]
  by_cases hlen : xs.length = ys.length
  · have lp := fun tm h => loop21 (callN env (n + 71)) (n + 71) H va vb xs ys ra rb hl hlen.symm xs.length 0 (n + 71) tm (by omega) (by omega) h (fun q hq => by omega)
    generalize callN env (n + 71) = or at lp
    have lb' : aLenS vb = some (aint xs.length) := by rw [lb, hlen]
    obtain ⟨e, tm', g1, g2⟩ := lp ([va, vb, aundef, aundef, abool false, aundef, va, i xs.length, vb, i xs.length, abool false, va, i xs.length, i (0 : Nat)] ++ List.replicate 12 aundef) (by constructor <;> simp)
    rcases g2 with ⟨rfl, e2, e3⟩ | ⟨rfl, e2, e3⟩
    · rw [decide_eq_true e2]
      apply endN
      · simp only [a21]
        apply seqN
        · simp; rfl
        apply seqN
        · simp [la, lb']; rfl
        apply seqN
        · apply seqN
          · simp [la]; rfl
          · exact blkLoopX g1
        simp; rfl
      · simp [-getElem?_pos, List.getElem?_set, e3, a21]
    · rw [decide_eq_false e2]
      apply endN
      · simp only [a21]
        apply seqN
        · simp; rfl
        apply seqN
        · simp [la, lb']; rfl
        apply seqR
        apply seqN
        · simp [la]; rfl
        · exact blkLoopR g1
      · simp [-getElem?_pos, e3, a21]
  · have hne : xs ≠ ys := fun h => hlen (by rw [h])
    have hne' : ¬ ((xs.length : Int) = ys.length) := by omega
    rw [decide_eq_false hne]
    apply endN
    · simp only [a21]
      apply seqN
      · simp; rfl
      apply seqR
      simp [la, lb, hne']; rfl
    · simp [a21]

end Go.Proofs.Ytmdppcokjdpnoaa
