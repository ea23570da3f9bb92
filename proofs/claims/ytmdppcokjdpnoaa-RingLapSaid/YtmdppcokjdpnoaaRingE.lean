/- Walks of the ring functions: Owner. -/
import Derived.Test.YtmdppcokjdpnoaaRingD
namespace Go.Proofs.Ytmdppcokjdpnoaa
open Go Go.Vm

attribute [local simp] endF aCode aSteps aStep awanted aOp ev List.replicate aRess aRes1 aLeave tup aBin aUn aArith ASt.put ile_eq ilt_eq ieq_eq aPart List.getElem?_cons_zero

def rfA : ACode → ACode | .rangeFunc _ _ a _ => a | c => c
def rfB : ACode → ACode | .rangeFunc _ _ _ b => b | c => c
def rf16 : ACode := fstC (sndC (fstC (sndC (sndC (sndC a16.code)))))

abbrev Row1 (H : AHeap) (A : Nat) (v : AVal) : Prop := H.get A = some (.row [some (0, [v])])

theorem Row1.at {H : AHeap} {A : Nat} {v : AVal} (h : Row1 H A v) : H.rowAt A 0 = some [v] := by
  unfold AHeap.rowAt; rw [h]; rfl

theorem Row1.write {H : AHeap} {A : Nat} {v v' : AVal} (h : Row1 H A v) (hv : v'.one = true) : H.write A 0 0 [v'] = some (H.set A (.row [some (0, [v'])])) := by
  unfold AHeap.write; rw [h]
  simp [hv, killAt, spl]

theorem yieldT {n L : Nat} {or : Oracle} {args : List AVal} {H : AHeap} {l l1 l2 : ALoop} {s1 s2 : ASt} (hL : H.get L = some (.loop l)) (hr : l.state = .ready) (hlen : args.length = l.params.length)
    (h1 : aCode or false n l.assign { tm := setParams l.tmps l.params args, H := H, marks := [] } = some (.normal, s1)) (hg1 : s1.H.get L = some (.loop l1)) (hr1 : l1.state = .ready)
    (h2 : aCode or false n l.body { s1 with H := s1.H.set L (.loop { l1 with state := .busy }) } = some (.normal, s2)) (hg2 : s2.H.get L = some (.loop l2)) :
    callY n or L args H = some (abool true, s2.H.set L (.loop { l2 with state := .ready, pending := none })) := by
  simp only [callY, hL, hr, if_pos hlen, h1, hg1, hr1, h2, hg2]
theorem yieldR {n L : Nat} {or : Oracle} {args : List AVal} {H : AHeap} {l l1 l2 : ALoop} {s1 s2 : ASt} (hL : H.get L = some (.loop l)) (hr : l.state = .ready) (hlen : args.length = l.params.length)
    (h1 : aCode or false n l.assign { tm := setParams l.tmps l.params args, H := H, marks := [] } = some (.normal, s1)) (hg1 : s1.H.get L = some (.loop l1)) (hr1 : l1.state = .ready)
    (h2 : aCode or false n l.body { s1 with H := s1.H.set L (.loop { l1 with state := .busy }) } = some (.ret, s2)) (hg2 : s2.H.get L = some (.loop l2)) :
    callY n or L args H = some (abool false, s2.H.set L (.loop { l2 with state := .done, pending := some .ret })) := by
  simp only [callY, hL, hr, if_pos hlen, h1, hg1, hr1, h2, hg2]
theorem yieldE {n L id : Nat} {or : Oracle} {args : List AVal} {H : AHeap} {l l1 l2 : ALoop} {s1 s2 : ASt} (hL : H.get L = some (.loop l)) (hr : l.state = .ready) (hlen : args.length = l.params.length)
    (h1 : aCode or false n l.assign { tm := setParams l.tmps l.params args, H := H, marks := [] } = some (.normal, s1)) (hg1 : s1.H.get L = some (.loop l1)) (hr1 : l1.state = .ready)
    (h2 : aCode or false n l.body { s1 with H := s1.H.set L (.loop { l1 with state := .busy }) } = some (.exit id, s2)) (hg2 : s2.H.get L = some (.loop l2)) :
    callY n or L args H = some (abool false, s2.H.set L (.loop { l2 with state := .done, pending := some (.exit id) })) := by
  simp only [callY, hL, hr, if_pos hlen, h1, hg1, hr1, h2, hg2]

structure Tm16 (N : Nat) (tm : List AVal) : Prop where
  len : tm.length = 38
  t3 : tm[3]? = some (p N)
  t5 : tm[5]? = some (p (N + 1))
  t6 : tm[6]? = some (p (N + 2))
  t7 : tm[7]? = some (p (N + 3))

def loop16 (tm : List AVal) (D : Nat) : ALoop := newLoop tm [29] (rfA rf16) (rfB rf16) D

set_option maxHeartbeats 2000000 in
theorem y16 (n N L D : Nat) (hNL : N + 3 < L) (tm : List AVal) (ht : Tm16 N tm) (s c q : Int) (hc : 2 ≤ c) (hc' : c ≤ 64) (hq : 0 ≤ q) (x y : AVal) (H : AHeap)
    (r0 : Row1 H N (i s)) (r1 : Row1 H (N + 1) (i c)) (r2 : Row1 H (N + 2) x) (r3 : Row1 H (N + 3) y) (rL : H.get L = some (.loop (loop16 tm D))) :
    if q % c = s then ∃ H', callN env (n + 1) (.yield L) [u q] H = some (abool false, H') ∧ H'.next = H.next ∧ Row1 H' (N + 2) (u q) ∧ Row1 H' (N + 3) (i 0) ∧ H'.get L = some (.loop { loop16 tm D with state := .done, pending := some .ret }) ∧ ∀ A, A ≠ N + 2 → A ≠ N + 3 → A ≠ L → H'.get A = H.get A
    else ∃ H', callN env (n + 1) (.yield L) [u q] H = some (abool true, H') ∧ H'.next = H.next ∧ ∀ A, H'.get A = H.get A := by
  obtain ⟨l, t3, t5, t6, t7⟩ := ht
  have w1 : wrapF .u64 c = c := wU (by omega) (by omega)
  have w2 : q.tmod c = q % c := Int.tmod_eq_emod_of_nonneg hq
  have q1 := Int.emod_nonneg q (show c ≠ 0 by omega)
  have q2 := Int.emod_lt_of_pos q (show 0 < c by omega)
  have w3 : wrapF .i64 (q % c) = q % c := wI (by omega) (by omega)
  have n0 : ¬ c = 0 := by omega
  show if q % c = s then ∃ H', callY n (callN env n) L [u q] H = some (abool false, H') ∧ _ else ∃ H', callY n (callN env n) L [u q] H = some (abool true, H') ∧ _
  generalize callN env n = or
  have n1 : ¬ N = L := by omega
  have n2 : ¬ N + 1 = L := by omega
  have n3 : ¬ N + 2 = L := by omega
  have n4 : ¬ N + 3 = L := by omega
  have m3 : ¬ L = N + 2 := by omega
  have m4 : ¬ L = N + 3 := by omega
  have e0 := r0.at
  have e1 := r1.at
  have b0 : (H.set L (.loop { loop16 tm D with state := .busy })).rowAt N 0 = some [i s] := Row1.at (by unfold Row1; rw [AHeap.get_set_ne _ _ n1]; exact r0)
  have b1 : (H.set L (.loop { loop16 tm D with state := .busy })).rowAt (N + 1) 0 = some [i c] := Row1.at (by unfold Row1; rw [AHeap.get_set_ne _ _ n2]; exact r1)
  have b2 : Row1 (H.set L (.loop { loop16 tm D with state := .busy })) (N + 2) x := by unfold Row1; rw [AHeap.get_set_ne _ _ n3]; exact r2
  have bL : (H.set L (.loop { loop16 tm D with state := .busy })).get L = some (.loop { loop16 tm D with state := .busy }) := AHeap.get_set_same _ _ _
  have bA : ∀ A, A ≠ L → (H.set L (.loop { loop16 tm D with state := .busy })).get A = H.get A := fun A hA => AHeap.get_set_ne _ _ hA
  have bN : (H.set L (.loop { loop16 tm D with state := .busy })).next = H.next := rfl
  have ha : aCode or false n (loop16 tm D).assign { tm := setParams (loop16 tm D).tmps (loop16 tm D).params [u q], H := H, marks := [] } = some (.normal, { tm := (tm.set 29 (u q)).set 8 (u q), H := H, marks := [] }) := by
    simp [-getElem?_pos, loop16, newLoop, setParams, rfA, rf16, fstC, sndC, a16, List.getElem?_set, l]
  generalize hB : H.set L (.loop { loop16 tm D with state := .busy }) = B at b0 b1 b2 bL bA bN
  have b3 : Row1 (B.set (N + 2) (.row [some (0, [u q])])) (N + 3) y := by unfold Row1; rw [AHeap.get_set_ne _ _ (by omega), bA _ (by omega)]; exact r3
  have k2 := b2.write (v' := u q) rfl
  have k3 := b3.write (v' := i 0) rfl
  split
  · rename_i hm
    subst hm
    have hb : ∃ tm', aCode or false n (loop16 tm D).body { tm := (tm.set 29 (u q)).set 8 (u q), H := B, marks := [] } = some (.ret, { tm := tm', H := (B.set (N + 2) (.row [some (0, [u q])])).set (N + 3) (.row [some (0, [i 0])]), marks := [] }) := by
      refine ⟨?w, ?a1⟩
      case a1 =>
        simp [-getElem?_pos, loop16, newLoop, rfB, rf16, fstC, sndC, a16, List.getElem?_set, l, t3, t5, t6, t7, b0, b1, w1, w2, w3, n0, aDraw, drawGo, mobVal, allAsked, yldB, AVal.beq, valBeq, AOp.reads, AVal.cells, k2, k3]
        rfl
    obtain ⟨tm', hb⟩ := hb
    refine ⟨_, yieldR rL rfl rfl ha rL rfl (by rw [hB]; exact hb) (l2 := { loop16 tm D with state := .busy }) ?_, ?_⟩
    · rw [AHeap.get_set_ne _ _ m4, AHeap.get_set_ne _ _ m3, bL]
    · refine ⟨bN, ?_, ?_, AHeap.get_set_same _ _ _, fun A h1 h2 h3 => ?_⟩
      · unfold Row1; rw [AHeap.get_set_ne _ _ n3, AHeap.get_set_ne _ _ (by omega), AHeap.get_set_same]
      · unfold Row1; rw [AHeap.get_set_ne _ _ n4, AHeap.get_set_same]
      · rw [AHeap.get_set_ne _ _ h3, AHeap.get_set_ne _ _ h2, AHeap.get_set_ne _ _ h1, bA _ h3]
  · rename_i hm
    have hb : ∃ tm', aCode or false n (loop16 tm D).body { tm := (tm.set 29 (u q)).set 8 (u q), H := B, marks := [] } = some (.normal, { tm := tm', H := B, marks := [] }) := by
      refine ⟨?v, ?a2⟩
      case a2 =>
        simp [-getElem?_pos, loop16, newLoop, rfB, rf16, fstC, sndC, a16, List.getElem?_set, l, t3, t5, t6, t7, b0, b1, w1, w2, w3, n0, hm, aDraw, drawGo, mobVal, allAsked, yldB, AVal.beq, valBeq, AOp.reads]
        rfl
    obtain ⟨tm', hb⟩ := hb
    refine ⟨_, yieldT rL rfl rfl ha rL rfl (by rw [hB]; exact hb) (l2 := { loop16 tm D with state := .busy }) bL, ?_, fun A => ?_⟩
    · exact bN
    · by_cases hA : A = L
      · subst hA; rw [AHeap.get_set_same, rL]; rfl
      · rw [AHeap.get_set_ne _ _ hA, bA _ hA]

end Go.Proofs.Ytmdppcokjdpnoaa
