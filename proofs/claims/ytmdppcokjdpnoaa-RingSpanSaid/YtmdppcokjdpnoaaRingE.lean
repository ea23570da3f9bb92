/- Rules of rounds over functions; cells of one value. -/
import Derived.Test.YtmdppcokjdpnoaaRingD
namespace Go.Proofs.Ytmdppcokjdpnoaa
open Go Go.Vm

attribute [local simp] endF aCode aSteps aStep awanted aOp ev List.replicate aRess aRes1 aLeave tup aBin aUn aArith ASt.put ile_eq ilt_eq ieq_eq aPart List.getElem?_cons_zero

def rfA : ACode → ACode | .rangeFunc _ _ a _ => a | c => c
def rfB : ACode → ACode | .rangeFunc _ _ _ b => b | c => c
def rf16 : ACode := fstC (sndC (fstC (sndC (sndC (sndC a16.code)))))

abbrev Row1 (H : AHeap) (A : Nat) (v : AVal) : Prop := H.get A = some (.row [some (0, [v])])

theorem Row1.at {H : AHeap} {A : Nat} {v : AVal} (h : Row1 H A v) : H.rowAt A 0 = some [v] := by
  unfold AHeap.rowAt; rw [h]; rfl

theorem Row1.write {H : AHeap} {A : Nat} {v v' : AVal} (h : Row1 H A v) (hv : v'.one = true) : H.write A 0 0 [v'] = some (H.set A (.row [some (0, [v'])])) := by
  unfold AHeap.write; rw [h]
  simp [hv, killAt, spl]

theorem yieldT {n L : Nat} {or : Oracle} {args : List AVal} {H : AHeap} {l l1 l2 : ALoop} {s1 s2 : ASt} (hL : H.get L = some (.loop l)) (hr : l.state = .ready) (hlen : args.length = l.params.length)
    (h1 : aCode or false n l.assign { tm := setParams l.tmps l.params args, H := H, marks := [] } = some (.normal, s1)) (hg1 : s1.H.get L = some (.loop l1)) (hr1 : l1.state = .ready)
    (h2 : aCode or false n l.body { s1 with H := s1.H.set L (.loop { l1 with state := .busy }) } = some (.normal, s2)) (hg2 : s2.H.get L = some (.loop l2)) :
    callY n or L args H = some (abool true, s2.H.set L (.loop { l2 with state := .ready, pending := none })) := by
  simp only [callY, hL, hr, if_pos hlen, h1, hg1, hr1, h2, hg2]
theorem yieldR {n L : Nat} {or : Oracle} {args : List AVal} {H : AHeap} {l l1 l2 : ALoop} {s1 s2 : ASt} (hL : H.get L = some (.loop l)) (hr : l.state = .ready) (hlen : args.length = l.params.length)
    (h1 : aCode or false n l.assign { tm := setParams l.tmps l.params args, H := H, marks := [] } = some (.normal, s1)) (hg1 : s1.H.get L = some (.loop l1)) (hr1 : l1.state = .ready)
    (h2 : aCode or false n l.body { s1 with H := s1.H.set L (.loop { l1 with state := .busy }) } = some (.ret, s2)) (hg2 : s2.H.get L = some (.loop l2)) :
    callY n or L args H = some (abool false, s2.H.set L (.loop { l2 with state := .done, pending := some .ret })) := by
  simp only [callY, hL, hr, if_pos hlen, h1, hg1, hr1, h2, hg2]
theorem yieldE {n L id : Nat} {or : Oracle} {args : List AVal} {H : AHeap} {l l1 l2 : ALoop} {s1 s2 : ASt} (hL : H.get L = some (.loop l)) (hr : l.state = .ready) (hlen : args.length = l.params.length)
    (h1 : aCode or false n l.assign { tm := setParams l.tmps l.params args, H := H, marks := [] } = some (.normal, s1)) (hg1 : s1.H.get L = some (.loop l1)) (hr1 : l1.state = .ready)
    (h2 : aCode or false n l.body { s1 with H := s1.H.set L (.loop { l1 with state := .busy }) } = some (.exit id, s2)) (hg2 : s2.H.get L = some (.loop l2)) :
    callY n or L args H = some (abool false, s2.H.set L (.loop { l2 with state := .done, pending := some (.exit id) })) := by
  simp only [callY, hL, hr, if_pos hlen, h1, hg1, hr1, h2, hg2]

/-- The heap has grown. -/
structure Ext (H H' : AHeap) : Prop where
  next : H.next ≤ H'.next
  get : ∀ A, A < H.next → H'.get A = H.get A

theorem Ext.refl (H : AHeap) : Ext H H := ⟨Nat.le_refl _, fun _ _ => rfl⟩
theorem Ext.trans {H H' H'' : AHeap} (h : Ext H H') (h' : Ext H' H'') : Ext H H'' := ⟨Nat.le_trans h.next h'.next, fun A hA => by rw [h'.get A (Nat.lt_of_lt_of_le hA h.next), h.get A hA]⟩

abbrev row1 (v : AVal) : AObj := .row [some (0, [v])]

theorem c19 (n : Nat) (t e : Int) (H : AHeap) : callN env (n + 1) (.func (.func 19) []) [u t, u e] H = some (.func (.func 25) [p H.next, p (H.next + 1)], (H.push (row1 (u t))).push (row1 (u e))) := by
  rw [opn e19]
  simp [a19, AVal.cells]

theorem rfR {or : Oracle} {n g : Nat} {f : AOpd} {ps : List Nat} {a b : ACode} {st : ASt} {caps : List AVal} {v : AVal} {H' H'' : AHeap} (hf : ev st.tm f = .func (.func g) caps)
    (ho : or (.func (.func g) caps) [.yield (st.H.next + 1)] (st.H.enter st.tm ps a b) = some (v, H')) (he : aEndLoop H' (st.H.next + 1) = some (some .ret, H'')) :
    aCode or true n (.rangeFunc f ps a b) st = some (.ret, { st with H := H'', marks := st.H.next :: st.marks }) := by
  simp only [aCode, if_true, hf, ho, Option.bind_some, he]
theorem rfN {or : Oracle} {n g : Nat} {f : AOpd} {ps : List Nat} {a b : ACode} {st : ASt} {caps : List AVal} {v : AVal} {H' H'' : AHeap} (hf : ev st.tm f = .func (.func g) caps)
    (ho : or (.func (.func g) caps) [.yield (st.H.next + 1)] (st.H.enter st.tm ps a b) = some (v, H')) (he : aEndLoop H' (st.H.next + 1) = some (none, H'')) :
    aCode or true n (.rangeFunc f ps a b) st = some (.normal, { st with H := H'', marks := st.H.next :: st.marks }) := by
  simp only [aCode, if_true, hf, ho, Option.bind_some, he]
theorem rfX {or : Oracle} {n g id : Nat} {f : AOpd} {ps : List Nat} {a b : ACode} {st : ASt} {caps : List AVal} {v : AVal} {H' H'' : AHeap} (hf : ev st.tm f = .func (.func g) caps)
    (ho : or (.func (.func g) caps) [.yield (st.H.next + 1)] (st.H.enter st.tm ps a b) = some (v, H')) (he : aEndLoop H' (st.H.next + 1) = some (some (.exit id), H'')) :
    aCode or true n (.rangeFunc f ps a b) st = some (.exit id, { st with H := H'', marks := st.H.next :: st.marks }) := by
  simp only [aCode, if_true, hf, ho, Option.bind_some, he]
theorem seqR {or : Oracle} {top : Bool} {n : Nat} {a b : ACode} {st s : ASt} (h1 : aCode or top n a st = some (.ret, s)) : aCode or top n (.seq a b) st = some (.ret, s) := by
  simp only [aCode, h1]
theorem blkR {or : Oracle} {top : Bool} {n id : Nat} {b : ACode} {st s : ASt} (h : aCode or top n b st = some (.ret, s)) : aCode or top n (.block id b) st = some (.ret, s) := by
  simp only [aCode, h]
theorem blkN {or : Oracle} {top : Bool} {n id : Nat} {b : ACode} {st s : ASt} (h : aCode or top n b st = some (.normal, s)) : aCode or top n (.block id b) st = some (.normal, s) := by
  simp only [aCode, h]
theorem blkX {or : Oracle} {top : Bool} {n id : Nat} {b : ACode} {st s : ASt} (h : aCode or top n b st = some (.exit id, s)) : aCode or top n (.block id b) st = some (.normal, s) := by
  simp only [aCode, h, if_true]

theorem endLoopR {H : AHeap} {L : Nat} {l : ALoop} (h : H.get L = some (.loop l)) (hs : l.state ≠ .busy) : aEndLoop H L = some (l.pending, H.set L (.loop { l with state := .exhausted })) := by
  unfold aEndLoop
  rw [h]
  cases hx : l.state <;> simp_all

theorem leave1 {H : AHeap} {M : Nat} (h : H.get M = some (.defs false)) : aLeave [M] H = some (H.set M (.defs true)) := by
  unfold aLeave; rw [h]; rfl

end Go.Proofs.Ytmdppcokjdpnoaa
