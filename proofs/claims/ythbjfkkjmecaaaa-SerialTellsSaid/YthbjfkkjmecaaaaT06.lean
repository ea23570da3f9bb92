/- The abstract machine, part 13: the operations are sound (builtin functions, slices that grow). -/
import Derived.Test.YthbjfkkjmecaaaaT05
import Derived.Laws.IdiomRangeMap
set_option linter.unusedVariables false
set_option linter.unusedSimpArgs false
namespace Go.Vm
open Go
variable {P : Program} {B : Base} {ρ ρ' : Ren} {H H' : AHeap} {w w' : World} {tm : List AVal} {ce : Operand → Value} {o : Oper} {av : AVal} {ao : AOp}
theorem exec_builtin {c : Call} {b : Builtin} (hop : o.op = .call c) (hb : c.callee = .builtin b) :
    execOp ce o = builtin b c.argTypes o.type (c.args.map fun | .const _ => true | _ => false) (c.args.map ce) := by
  simp only [execOp, hop, resolve, hb]
  rfl
theorem arr2 {α : Type} {a : Array α} {x y : α} (h : a.toList = [x, y]) : a = #[x, y] := by
  apply Array.ext'; simpa using h
theorem arr1 {α : Type} {a : Array α} {x : α} (h : a.toList = [x]) : a = #[x] := by
  apply Array.ext'; simpa using h
theorem growBy_le (n : Nat) : ∀ (r c : Nat), c < 2 * n → 256 ≤ c → Builtin.growBy n r c ≤ 2 * n
  | 0, c, h, _ => by simp [Builtin.growBy]; omega
  | r + 1, c, h, h2 => by
    unfold Builtin.growBy
    split
    · omega
    · rename_i hn
      by_cases h3 : c + (c + 768) / 4 < 2 * n
      · exact growBy_le n r _ h3 (by omega)
      · have h4 : ∀ r c, n ≤ c → Builtin.growBy n r c = c := fun r c hc => by
          cases r with
          | zero => rfl
          | succ r => unfold Builtin.growBy; rw [if_pos hc]
        rw [h4 r _ (by omega)]
        omega
theorem nextslicecap_le {n c : Nat} (h : c < n) : Builtin.nextslicecap n c ≤ 2 * n := by
  unfold Builtin.nextslicecap
  split
  · omega
  · split
    · omega
    · exact growBy_le n 4 c (by omega) (by omega)
theorem run_askRoom' (n : Nat) : (askRoom n).run P w = .ok () w := by
  unfold askRoom; split <;> simp [mark, Sem.run]
theorem firstCells_run (h : HRel P B ρ H w) {esz m : Nat} {x : AVal} {cx : Value} {cells : List AVal} (hx : VRel ρ x cx) (hc : aCells H esz x = some cells) (hm : aLen x = some m) :
    ∃ cvs, (Builtin.firstCells esz m cx).run P w = .ok cvs.toArray w ∧ VRels ρ cells cvs ∧ cells.length = m * esz ∧ (∃ a cap, cx = .slice a m cap) := by
  obtain ⟨a, cap, cvs, rfl, hor, hrel, hlen⟩ := run_firstCells (P := P) h hx hc hm
  have hcl := hrel.length
  refine ⟨cvs, ?_, hrel, hlen, a, cap, rfl⟩
  rcases hor with ⟨rfl, rfl⟩ | ⟨ad, rfl, hload⟩
  · have : cvs = [] := List.eq_nil_of_length_eq_zero (by omega)
    subst this
    simp [Builtin.firstCells]
  · have e1 := hload m (Nat.le_refl _)
    rw [List.take_of_length_le (by omega)] at e1
    simp only [Builtin.firstCells, e1]
theorem run_append_room {t u e eu : TypeId} {i : TypeInfo} (ht : P.underlying t = some (.slice e)) (hu : P.underlying u = some (.slice eu)) (hi : P.info? e = some i) (ty : TypeId)
    {base a : Option Addr} {sLen sCap n cap : Nat} {news : Array Value} (hr : sLen + n ≤ sCap) (hn : (Builtin.firstCells i.size n (.slice a n cap)).run P w = .ok news w)
    (hst : ∀ ad, base = some ad → (storeCells (ad.add (sLen * i.size)) news.toList).run P w = .ok () w') (hnb : base = none → w' = w) :
    (Builtin.append_ #[t, u] ty #[.slice base sLen sCap, .slice a n cap]).run P w = .ok (.slice base (sLen + n) sCap) w' := by
  have hsz : szOf P e = some i.size := by simp [szOf, hi]
  unfold Builtin.append_
  simp only [List.getElem?_toArray, List.getElem?_cons_zero, List.getElem?_cons_succ, Sem.run_bind, run_underlying' ht, run_underlying' hu, Result.andThen_ok, run_sizeOf' hsz, Sem.run_pure, Bool.false_eq_true, if_false, Builtin.lenOf, Bool.not_false, if_true]
  rw [if_pos hr]
  simp only [Sem.run_bind, hn, Result.andThen_ok]
  cases base with
  | none => rw [hnb rfl]; simp
  | some ad => simp only [Sem.run_bind, hst ad rfl, Result.andThen_ok, Sem.run_pure]
theorem run_append_grow {t u e eu : TypeId} {i : TypeInfo} {z : Value} (ht : P.underlying t = some (.slice e)) (hu : P.underlying u = some (.slice eu)) (hi : P.info? e = some i) (hz : i.zero = some z) (ty : TypeId)
    {base a : Option Addr} {sLen sCap n cap : Nat} {news olds : Array Value} (hr : sCap < sLen + n) (hb : 0 < i.bytes) (hbig : (sLen + n) * i.bytes ≤ 140737488355328)
    (hn : (Builtin.firstCells i.size n (.slice a n cap)).run P w.drew = .ok news w.drew) (ho : (Builtin.firstCells i.size sLen (.slice base sLen sCap)).run P w.drew = .ok olds w.drew) :
    ∃ newCap, sLen + n ≤ newCap ∧ (Builtin.append_ #[t, u] ty #[.slice base sLen sCap, .slice a n cap]).run P w =
      .ok (.slice (some ⟨w.heap.size, 0, none⟩) (sLen + n) newCap) (w.drew.alloc (.cells (olds ++ news ++ Builtin.zeroCells z.cells (newCap - (sLen + n))) e)) := by
  have hsz : szOf P e = some i.size := by simp [szOf, hi]
  have hzo : zeroOf P e = some z := by simp [zeroOf, hi, hz]
  refine ⟨(Question.appendCap (sLen + n) sCap e).cut (w.tape w.drawn (.appendCap (sLen + n) sCap e)), by simp [Question.cut], ?_⟩
  have hmax : IntKind.i64.max = 9223372036854775807 := by decide +kernel
  have h48 : (2 : Nat) ^ 48 = 281474976710656 := by decide +kernel
  have hnext := nextslicecap_le hr
  have hmul : Builtin.nextslicecap (sLen + n) sCap * i.bytes ≤ 2 * (sLen + n) * i.bytes := Nat.mul_le_mul_right _ hnext
  have hmul2 : 2 * (sLen + n) * i.bytes = 2 * ((sLen + n) * i.bytes) := Nat.mul_assoc _ _ _
  have hle1 : sLen + n ≤ (sLen + n) * i.bytes := Nat.le_mul_of_pos_right _ hb
  unfold Builtin.append_
  simp only [List.getElem?_toArray, List.getElem?_cons_zero, List.getElem?_cons_succ, Sem.run_bind, run_underlying' ht, run_underlying' hu, Result.andThen_ok, run_sizeOf' hsz, Sem.run_pure, Bool.false_eq_true, if_false, Builtin.lenOf, Bool.not_false, if_true]
  rw [if_neg (by omega)]
  simp only [Sem.run_bind, run_typeInfo' hi, Result.andThen_ok, false_or]
  rw [if_neg (by rw [hmax]; omega)]
  simp only [Sem.run_bind, run_typeInfo' hi, Result.andThen_ok]
  rw [if_neg (by rw [h48]; omega)]
  have hch : (choose (.appendCap (sLen + n) sCap e)).run P w = .ok ((Question.appendCap (sLen + n) sCap e).cut (w.tape w.drawn (.appendCap (sLen + n) sCap e))) w.drew := by
    rw [run_choose]; simp [Question.forced]
  simp only [Sem.run_bind, hch, run_typeInfo' hi, run_askRoom', ho, hn, run_zeroValue' hzo, Result.andThen_ok, Sem.run_pure]
  simp [newRow]
theorem ite_some {c : Prop} [Decidable c] {α : Type} {x : Option α} {a : α} (h : (if c then x else none) = some a) : c ∧ x = some a := by
  split at h
  · exact ⟨‹_›, h⟩
  · cases h
theorem zeroCells_size (z : Array Value) (n : Nat) : (Builtin.zeroCells z n).size = n * z.size := by simp [Builtin.zeroCells]
theorem grown_cells {olds news : List AVal} {colds cnews : List Value} (ho : VRels ρ olds colds) (hn : VRels ρ news cnews) (rest : Array Value) : CellsAt ρ (colds.toArray ++ cnews.toArray ++ rest) 0 (olds ++ news) := fun i v hv => by
  obtain ⟨cv, h1, h2⟩ := (ho.append hn).get i v hv
  refine ⟨cv, ?_, h2⟩
  have : i < (colds ++ cnews).length := (List.getElem?_eq_some_iff.1 h1).1
  rw [Nat.zero_add, Array.getElem?_append_left (by simpa using this)]
  simpa using h1
theorem op_append (h : HRel P B ρ H w) (hev : EvOk ρ tm ce) {c : Call} (hop : o.op = .call c) (hb : c.callee = .builtin .append) (hc : cAppend P c.args.toList c.argTypes.toList = some ao) (ha : aOp tm ao H = some (av, H')) :
    OpRes .any P B ρ H w (execOp ce o) av H' := by
  rw [exec_builtin hop hb]
  unfold cAppend at hc
  split at hc
  · rename_i s x t u hargs htys
    rw [arr2 hargs, arr2 htys]
    split at hc
    · rename_i e eu ht hu
      simp only [Option.bind_eq_some_iff] at hc
      obtain ⟨i, hi, z, hz, hc⟩ := hc
      obtain ⟨hzl, hc⟩ := ite_some hc
      simp only [beq_iff_eq] at hzl
      simp only [Option.bind_eq_some_iff, Option.map_eq_some_iff] at hc
      obtain ⟨as, hs, ax, hx, rfl⟩ := hc
      have hsv := hev _ _ hs
      have hxv := hev _ _ hx
      have hzc : z.cells.size = i.size := by
        have := (aconst_rel ρ z).cells.length
        simp at this; omega
      have hmap : (#[s, x]).map ce = #[ce s, ce x] := by simp
      rw [hmap]
      simp only [builtin]
      simp only [aOp] at ha
      unfold aAppend at ha
      simp only [Option.bind_eq_some_iff] at ha
      obtain ⟨m, hm, news, hnews, ha⟩ := ha
      obtain ⟨cnews, hnr, hnrel, hnlen, xa, xcap, hcx⟩ := firstCells_run (P := P) h hxv hnews hm
      obtain ⟨cnewsD, hnrD, hnrelD, _, _, _, _⟩ := firstCells_run (P := P) h.drew hxv hnews hm
      have hncl := hnrel.length
      have hnclD := hnrelD.length
      rw [hcx] at hnr hnrD ⊢
      split at ha
      · -- nothing is appended
        rename_i hm0
        subst hm0
        have hc0 : cnews = [] := List.eq_nil_of_length_eq_zero (by omega)
        subst hc0
        split at ha
        · rename_i hse
          cases ha
          rw [hse] at hsv
          rw [hsv.raw_inv]
          refine .v h (cv := .slice none 0 0) ?_ (by rw [hse]; exact .raw _)
          exact run_append_room (w := w) (w' := w) ht hu hi o.type (n := 0) (Nat.le_refl _) hnr (fun ad h => by cases h) (fun _ => rfl)
        · rename_i A ver off len kcap ex esz hse
          cases ha
          have hsv' := hsv
          rw [hse] at hsv
          obtain ⟨l, a, cap, hl, hcs, hk, hlen, hex, hor⟩ := hsv.slice_inv
          refine .v h (cv := ce s) ?_ hsv'
          rw [hcs]
          exact run_append_room (w := w) (w' := w) ht hu hi o.type (n := 0) (by omega) hnr (fun ad h => by simp [storeCells]) (fun _ => rfl)
        · cases ha
      · rename_i hm0
        obtain ⟨hcond, ha⟩ := ite_some ha
        simp only [Bool.and_eq_true, decide_eq_true_eq] at hcond
        obtain ⟨⟨hez, hbz⟩, hone⟩ := hcond
        -- a slice over a new block
        have fresh : ∀ (olds : List AVal) (colds : List Value) (sLen newCap : Nat), VRels ρ olds colds → olds.length = sLen * i.size → sLen + m ≤ newCap →
            VRel (ρ.put H.next 0 ⟨w.heap.size, 0, (colds.toArray ++ cnewsD.toArray ++ Builtin.zeroCells z.cells (newCap - (sLen + m))).size⟩) (.slice H.next 0 0 (sLen + m) (sLen + m) false i.size) (.slice (some ⟨w.heap.size, 0, none⟩) (sLen + m) newCap) ∧
            HRel P B (ρ.put H.next 0 ⟨w.heap.size, 0, (colds.toArray ++ cnewsD.toArray ++ Builtin.zeroCells z.cells (newCap - (sLen + m))).size⟩) (H.push (.row [some (0, olds ++ news)])) (w.drew.alloc (.cells (colds.toArray ++ cnewsD.toArray ++ Builtin.zeroCells z.cells (newCap - (sLen + m))) e)) := fun olds colds sLen newCap ho hol hcap => by
          have hcl := ho.length
          have hsize : (colds.toArray ++ cnewsD.toArray ++ Builtin.zeroCells z.cells (newCap - (sLen + m))).size = newCap * i.size := by
            have e1 : (newCap - (sLen + m)) * i.size = newCap * i.size - (sLen + m) * i.size := Nat.sub_mul _ _ _
            have e2 : (sLen + m) * i.size = sLen * i.size + m * i.size := Nat.add_mul _ _ _
            have e3 : (sLen + m) * i.size ≤ newCap * i.size := Nat.mul_le_mul_right _ hcap
            simp only [Array.size_append, zeroCells_size, hzc, List.size_toArray]
            omega
          refine ⟨?_, h.drew.newRow (grown_cells ho hnrelD _)⟩
          have := VRel.slice (ρ := ρ.put H.next 0 ⟨w.heap.size, 0, (colds.toArray ++ cnewsD.toArray ++ Builtin.zeroCells z.cells (newCap - (sLen + m))).size⟩) (off := 0) (len := sLen + m) (kcap := sLen + m) (cap := newCap) (ex := false) (esz := i.size) (Ren.put_same _ _ _ _) hcap (Nat.le_refl _) (fun h => by cases h) (by dsimp only; omega)
          simpa using this
        split at ha
        · -- onto nil
          rename_i hse
          obtain ⟨hbig, ha⟩ := ite_some ha
          cases ha
          rw [hse] at hsv
          rw [hsv.raw_inv]
          obtain ⟨newCap, hcap, hrun⟩ := run_append_grow (P := P) (w := w) ht hu hi hz o.type (base := none) (sLen := 0) (sCap := 0) (n := m) (olds := #[]) (by omega) hbz (by simpa using hbig) hnrD (by simp [Builtin.firstCells])
          obtain ⟨f1, f2⟩ := fresh [] [] 0 newCap .nil (by simp) (by simpa using hcap)
          simp only [Nat.zero_add, List.nil_append] at f1 f2 hrun
          exact .vw hrun f1 f2 (Ren.put_le (h.fresh _ _ (Nat.le_refl _)))
        · rename_i A ver off len kcap ex esz hse
          obtain ⟨hes, ha2⟩ := ite_some ha
          clear ha
          subst hes
          have ha := ha2
          clear ha2
          have hsv' := hsv
          rw [hse] at hsv
          obtain ⟨l, a, cap, hl, hcs, hk, hlen, hex, hor⟩ := hsv.slice_inv
          rw [hcs]
          by_cases hroom : len + m ≤ kcap
          · -- there is room
            rw [if_pos hroom] at ha
            obtain ⟨H'', hw, heq⟩ := Option.map_eq_some_iff.1 ha
            cases heq
            rcases hor with ⟨rfl, hn⟩ | ⟨h1, h2, h3⟩
            · obtain ⟨w', h4, h5⟩ := h.write hw hl hnrel
              refine .vw (cv := .slice (some ⟨l.c, l.s + off, none⟩) (len + m) cap) (run_append_room (w := w) (w' := w') ht hu hi o.type (by omega) hnr (fun ad had => ?_) (fun h => by cases h)) (.slice hl hk hroom hex hn) h5 (Ren.le_refl _)
              cases had
              rw [add_none, Nat.add_assoc]
              exact h4
            · omega
          · rw [if_neg hroom] at ha
            obtain ⟨hbig, ha⟩ := ite_some ha
            obtain ⟨cells, hrow, ha⟩ := Option.bind_eq_some_iff.1 ha
            obtain ⟨hfit, ha⟩ := ite_some ha
            have hac : aCells H i.size (.slice A ver off len kcap ex i.size) = some ((cells.drop off).take (len * i.size)) := by
              simp only [aCells, hrow, Option.bind_some]
              rw [if_pos hfit]
            have hoD := firstCells_run (P := P) h.drew hsv hac rfl
            obtain ⟨coldsD, horD, hoRelD, hoLen, _⟩ := hoD
            rw [hcs] at horD
            by_cases hcap : len + m ≤ cap
            · -- in place, unseen
              have hnex : ex = false := by
                cases ex with
                | false => rfl
                | true => have := hex rfl; omega
              subst hnex
              simp only [Bool.false_eq_true, if_false] at ha
              split at ha
              · rename_i vs hg
                split at ha
                · rename_i rel cells' hv
                  cases ha
                  have hcc : cells' = cells := by
                    unfold AHeap.rowAt at hrow
                    rw [hg] at hrow
                    simp only [hv] at hrow
                    exact Option.some.inj hrow
                  subst hcc
                  rcases hor with ⟨rfl, hn⟩ | ⟨h1, h2, h3⟩
                  · have e2 : (len + m) * i.size = len * i.size + m * i.size := Nat.add_mul _ _ _
                    have e3 : (len + m) * i.size ≤ cap * i.size := Nat.mul_le_mul_right _ hcap
                    obtain ⟨w', h4, h5⟩ := h.verIn hg hv hl hfit (by omega) hone hnrel
                    refine .vw (cv := .slice (some ⟨l.c, l.s + off, none⟩) (len + m) cap) (run_append_room (w := w) (w' := w') ht hu hi o.type hcap hnr (fun ad had => ?_) (fun h => by cases h)) ?_ h5 ?_
                    · cases had
                      rw [add_none]
                      exact h4
                    · have := VRel.slice (ρ := ρ.put A vs.length ⟨l.c, l.s + off, l.n⟩) (off := 0) (len := len + m) (kcap := len + m) (cap := cap) (ex := false) (esz := i.size) (Ren.put_same _ _ _ _) hcap (Nat.le_refl _) (fun h => by cases h) (by dsimp only; omega)
                      simpa using this
                    · exact Ren.put_le ((h.obj A _ hg).1 _ (Nat.le_refl _))
                  · omega
                · cases ha
              · cases ha
            · -- it moves
              obtain ⟨newCap, hnc, hrun⟩ := run_append_grow (P := P) (w := w) ht hu hi hz o.type (base := some a) (sLen := len) (sCap := cap) (n := m) (by omega) hbz hbig hnrD horD
              cases ex
              case true =>
                simp only [if_true] at ha
                cases ha
                obtain ⟨f1, f2⟩ := fresh _ coldsD len newCap hoRelD hoLen hnc
                exact .vw hrun f1 f2 (Ren.put_le (h.fresh _ _ (Nat.le_refl _)))
              case false =>
                simp only [Bool.false_eq_true, if_false] at ha
                split at ha
                · rename_i vs hg
                  split at ha
                  · rename_i rel cells' hv
                    cases ha
                    have hnone := (h.obj A _ hg).1 vs.length (Nat.le_refl _)
                    have hout := h.drew.verOut (p := rel + off + len * i.size) (m := news.length) (rel := rel + off) (e := e) hg (grown_cells hoRelD hnrelD (Builtin.zeroCells z.cells (newCap - (len + m))))
                    refine .vw hrun ?_ hout (Ren.put_le hnone)
                    have hsize : (coldsD.toArray ++ cnewsD.toArray ++ Builtin.zeroCells z.cells (newCap - (len + m))).size = newCap * i.size := by
                      have e1 : (newCap - (len + m)) * i.size = newCap * i.size - (len + m) * i.size := Nat.sub_mul _ _ _
                      have e2 : (len + m) * i.size = len * i.size + m * i.size := Nat.add_mul _ _ _
                      have e3 : (len + m) * i.size ≤ newCap * i.size := Nat.mul_le_mul_right _ hnc
                      have := hoRelD.length
                      simp only [Array.size_append, zeroCells_size, hzc, List.size_toArray]
                      omega
                    have := VRel.slice (ρ := ρ.put A vs.length ⟨w.heap.size, 0, (coldsD.toArray ++ cnewsD.toArray ++ Builtin.zeroCells z.cells (newCap - (len + m))).size⟩) (off := 0) (len := len + m) (kcap := len + m) (cap := newCap) (ex := false) (esz := i.size) (Ren.put_same _ _ _ _) hnc (Nat.le_refl _) (fun h => by cases h) (by dsimp only; omega)
                    simpa using this
                  · cases ha
                · cases ha
        · cases ha
    · cases hc
  · cases hc
end Go.Vm
namespace Go.Vm
open Go
variable {P : Program} {B : Base} {ρ ρ' : Ren} {H H' : AHeap} {w w' : World} {tm : List AVal} {ce : Operand → Value} {o : Oper} {av : AVal} {ao : AOp}
theorem op_iterNew (h : HRel P B ρ H w) (hev : EvOk ρ tm ce) {t : TypeId} {x : Operand} (hop : o.op = .range t x) (hc : cOp P o.op = some ao) (ha : aOp tm ao H = some (av, H')) : OpRes .any P B ρ H w (execOp ce o) av H' := by
  rw [hop] at hc
  simp only [cOp] at hc
  have he : execOp ce o = (do Pure.pure (.value (← Instr.range t (ce x)))) := by simp [execOp, hop]
  rw [he]
  split at hc
  · rename_i k e hu
    obtain ⟨ax, hx, rfl⟩ := Option.map_eq_some_iff.1 hc
    have hxv := hev _ _ hx
    simp only [aOp, aIterNew] at ha
    have hn := h.fresh H.next 0 (Nat.le_refl _)
    have hsing : Single (ρ.put H.next 0 ⟨w.heap.size, 0, 0⟩) H.next := fun v hv => by rw [Ren.put_ne _ _ (by omega)]; exact h.fresh _ _ (Nat.le_refl _)
    split at ha
    · rename_i hxe
      cases ha
      rw [hxe] at hxv
      have hp := h.push (o := .iter none 0 [] 0) (co := .mapIter none 0 #[] 0) (s := 0) (n := 0) (fun l => by simp) ⟨hsing, _, none, Ren.put_same _ _ _ _, rfl, World.alloc_heap_new _ _, trivial⟩
      refine .vw (cv := .pointer (some ⟨w.heap.size, 0, none⟩)) ?_ (.ptr (off := 0) (Ren.put_same ρ H.next 0 _)) hp (Ren.put_le hn)
      rw [hxv.raw_inv]
      exact run_range_nilMap w t k e hu
    · rename_i M hxe
      split at ha
      · rename_i es clock hg
        cases ha
        rw [hxe] at hxv
        obtain ⟨l, hl, hcx⟩ := hxv.map_inv
        obtain ⟨_, l', ces, hl', hw, _⟩ := h.obj M _ hg
        rw [hl] at hl'; cases hl'
        have hM : M ≠ H.next := fun e => by rw [e, h.fresh H.next 0 (Nat.le_refl _)] at hl; cases hl
        have hp := h.push (o := .iter (some M) clock [] clock) (co := .mapIter (some l.c) clock #[] clock) (s := 0) (n := 0) (fun l => by simp)
          ⟨hsing, _, some l.c, Ren.put_same _ _ _ _, rfl, World.alloc_heap_new _ _, l, by rw [Ren.put_ne _ _ (by omega)]; exact hl, rfl⟩
        refine .vw (cv := .pointer (some ⟨w.heap.size, 0, none⟩)) ?_ (.ptr (off := 0) (Ren.put_same ρ H.next 0 _)) hp (Ren.put_le hn)
        rw [hcx]
        exact run_range_map w t k e l.c ces clock hu hw
      · cases ha
    · cases ha
  · cases hc
theorem EntriesRel.filter {p : Nat → Bool} : ∀ {es : AEntries} {ces : List MapEntry}, EntriesRel ρ es ces → EntriesRel ρ (es.filter fun e => p e.2.2) (ces.filter fun e => p e.born)
  | [], [], _ => trivial
  | [], _ :: _, h => h.elim
  | _ :: _, [], h => h.elim
  | (k, v, b) :: r, e :: ces, ⟨h1, h2, h3, h4⟩ => by
    have ih := EntriesRel.filter (p := p) h4
    simp only [List.filter_cons, h3]
    split
    · exact ⟨h1, h2, h3, ih⟩
    · exact ih
theorem EntriesRel.all {p : Nat → Bool} : ∀ {es : AEntries} {ces : List MapEntry}, EntriesRel ρ es ces → (ces.all fun e => p e.born) = es.all fun e => p e.2.2
  | [], [], _ => rfl
  | [], _ :: _, h => h.elim
  | _ :: _, [], h => h.elim
  | (k, v, b) :: r, e :: ces, ⟨h1, h2, h3, h4⟩ => by simp only [List.all_cons, h3, EntriesRel.all (p := p) h4]
theorem EntriesRel.isEmpty : ∀ {es : AEntries} {ces : List MapEntry}, EntriesRel ρ es ces → ces.isEmpty = es.isEmpty
  | [], [], _ => rfl
  | [], _ :: _, h => h.elim
  | _ :: _, [], h => h.elim
  | _ :: _, _ :: _, _ => rfl
theorem EntriesRel.nil_left {ces : List MapEntry} (h : EntriesRel ρ [] ces) : ces = [] := by
  cases ces with
  | nil => rfl
  | cons => exact h.elim
theorem bornIn_eq (seen : List Nat) (b : Nat) : bornIn seen b = seen.toArray.contains b := by
  unfold bornIn
  rw [Bool.eq_iff_iff]
  simp only [List.any_eq_true, Array.contains_iff_mem, List.mem_toArray]
  constructor
  · rintro ⟨x, h1, h2⟩; rw [Nat.beq_eq.mp h2]; exact h1
  · intro h; exact ⟨b, h, by simp⟩
theorem run_getObj' {r : Nat} {ob : Obj} (h : w.heap[r]? = some ob) (hp : Plain ob := by trivial) : (getObj r).run P w = .ok ob w := by
  cases ob <;> first | exact hp.elim | simp [getObj, Sem.run, h]
theorem run_setObj' {r : Nat} {ob : Obj} (ob' : Obj) (h : w.heap[r]? = some ob) (hp : Plain ob := by trivial) : (setObj r ob').run P w = .ok () (w.putObj r ob') := by
  cases ob <;> first | exact hp.elim | simp [setObj, Sem.run, h, World.putObj]
theorem op_iterNext (h : HRel P B ρ H w) (hev : EvOk ρ tm ce) {x : Operand} {str : Bool} (hop : o.op = .next x str) (hc : cOp P o.op = some ao) (ha : aOp tm ao H = some (av, H')) : OpRes .any P B ρ H w (execOp ce o) av H' := by
  rw [hop] at hc
  simp only [cOp] at hc
  have he : execOp ce o = (do Pure.pure (.value (← Instr.next (ce x) str o.type))) := by simp [execOp, hop]
  rw [he]
  cases str with
  | true => simp at hc
  | false =>
    simp only [Bool.false_eq_true, if_false] at hc
    obtain ⟨ax, hx, rfl⟩ := Option.map_eq_some_iff.1 hc
    have hxv := hev _ _ hx
    simp only [aOp, aIterNext] at ha
    split at ha
    · rename_i A hxe
      unfold aIterNextAt at ha
      rw [hxe] at hxv
      obtain ⟨l, hl, hcx⟩ := hxv.ptr_inv
      split at ha
      · rename_i since seen last hg
        cases ha
        obtain ⟨_, l', cm, hl', h0, hw, hit⟩ := h.obj A _ hg
        rw [hl] at hl'; cases hl'
        cases cm with
        | some c => exact hit.elim
        | none =>
          refine .v h (cv := .tuple #[.bool false]) ?_ (.tuple (.cons (.raw _) .nil))
          rw [hcx, h0]
          simp only [Instr.next, Sem.run_bind, run_getObj' hw, Result.andThen_ok, Sem.run_pure]
      · rename_i M since seen last hg
        split at ha
        · rename_i es clock hgM
          obtain ⟨q, hq, hv⟩ := Option.map_eq_some_iff.1 ha
          obtain ⟨hsing, l', cm, hl', h0, hw, hit⟩ := h.obj A _ hg
          rw [hl] at hl'; cases hl'
          cases cm with
          | none => exact hit.elim
          | some c =>
            obtain ⟨lM, hlM, rfl⟩ := hit
            obtain ⟨_, lM', ces, hlM', hwM, hes⟩ := h.obj M _ hgM
            rw [hlM] at hlM'; cases hlM'
            unfold aNext at hq
            have hseen : seen.toArray.isEmpty = seen.isEmpty := by cases seen <;> rfl
            have htest : (!seen.toArray.isEmpty && !ces.isEmpty && ces.all (fun x => decide (x.born ≥ last))) = (!seen.isEmpty && !es.isEmpty && es.all (fun e => Nat.ble last e.2.2)) := by
              have e1 : ces.all (fun x => decide (x.born ≥ last)) = es.all (fun e => Nat.ble last e.2.2) := by
                rw [← hes.all (p := fun b => Nat.ble last b), ← Array.all_toList]
                congr 1; funext e
                rw [Bool.eq_iff_iff, decide_eq_true_eq, Nat.ble_eq]
              have e2 : ces.isEmpty = es.isEmpty := by rw [← hes.isEmpty, Array.isEmpty_toList]
              rw [e1, e2, hseen]
            split at hq
            · cases hq
            · rename_i hcond
              have hcond' : (!seen.toArray.isEmpty && !ces.isEmpty && ces.all (fun x => decide (x.born ≥ last))) = false := by rw [htest]; simpa using hcond
              have hleft := hes.filter (p := fun b => !bornIn seen b)
              have hold := hleft.filter (p := fun b => Nat.blt b since)
              have hnew := hleft.filter (p := fun b => Nat.ble since b)
              have f1 : ((ces.filter fun e => !seen.toArray.contains e.born).filter fun x => decide (x.born < since)).toList = ((ces.toList.filter fun e => !bornIn seen e.born).filter fun e => Nat.blt e.born since) := by
                rw [Array.toList_filter, Array.toList_filter]
                have : (fun e : MapEntry => !seen.toArray.contains e.born) = fun e => !bornIn seen e.born := by funext e; rw [bornIn_eq]
                rw [this]
                congr 1; funext e
                rw [Bool.eq_iff_iff, decide_eq_true_eq]; simp [Nat.blt]; omega
              have f2 : ((ces.filter fun e => !seen.toArray.contains e.born).filter fun x => decide (x.born ≥ since)).toList = ((ces.toList.filter fun e => !bornIn seen e.born).filter fun e => Nat.ble since e.born) := by
                rw [Array.toList_filter, Array.toList_filter]
                have : (fun e : MapEntry => !seen.toArray.contains e.born) = fun e => !bornIn seen e.born := by funext e; rw [bornIn_eq]
                rw [this]
                congr 1; funext e
                rw [Bool.eq_iff_iff, decide_eq_true_eq]; simp
              split at hq
              · rename_i e1 e2
                cases hq
                cases hv
                rw [e1] at hold; rw [e2] at hnew
                have g1 := hold.nil_left; have g2 := hnew.nil_left
                rw [← f1] at g1; rw [← f2] at g2
                have g1' : ((ces.filter fun e => !seen.toArray.contains e.born).filter fun x => decide (x.born < since)) = #[] := by simpa using g1
                have g2' : ((ces.filter fun e => !seen.toArray.contains e.born).filter fun x => decide (x.born ≥ since)) = #[] := by simpa using g2
                refine .v h (cv := .tuple #[.bool false]) ?_ (.tuple (.cons (.raw _) .nil))
                rw [hcx, h0]
                simp only [Instr.next, Sem.run_bind, run_getObj' hw, Result.andThen_ok, Sem.run_pure, run_getObj' hwM, hcond', Bool.false_eq_true, if_false, g1', g2']
                simp [choose, Sem.run, Question.forced]
              · rename_i e e1 e2
                cases hq
                obtain ⟨k, v, b⟩ := e
                simp only at hv
                cases hv
                rw [e1] at hold; rw [e2] at hnew
                have g2 := hnew.nil_left
                rw [← f2] at g2
                have g2' : ((ces.filter fun e => !seen.toArray.contains e.born).filter fun x => decide (x.born ≥ since)) = #[] := by simpa using g2
                obtain ⟨ce', hce, g3, g4, g5⟩ : ∃ ce' : MapEntry, ((ces.toList.filter fun e => !bornIn seen e.born).filter fun e => Nat.blt e.born since) = [ce'] ∧ VRel ρ k ce'.key ∧ VRel ρ v ce'.val ∧ ce'.born = b := by
                  generalize ((ces.toList.filter fun e => !bornIn seen e.born).filter fun e => Nat.blt e.born since) = L at hold
                  cases L with
                  | nil => exact hold.elim
                  | cons c L =>
                    obtain ⟨k1, k2, k3, k4⟩ := hold
                    exact ⟨c, by rw [k4.nil_left], k1, k2, k3⟩
                rw [← f1] at hce
                have g1' : ((ces.filter fun e => !seen.toArray.contains e.born).filter fun x => decide (x.born < since)) = #[ce'] := Array.toList_inj.1 hce
                have hput := h.putObj (co := .mapIter (some lM.c) since (seen ++ [b]).toArray clock) hg hl (fun x => by simp) (ob' := .iter (some M) since (seen ++ [b]) clock) (fun x => by simp)
                  ⟨hsing, l, some lM.c, hl, h0, World.putObj_heap_same (Array.getElem?_eq_some_iff.1 hw).1, lM, hlM, rfl⟩ (Side.putPlain hw trivial trivial)
                refine .vw (cv := .tuple #[.bool true, ce'.key, ce'.val]) ?_ (.tuple (.cons (.raw _) (.cons g3 (.cons g4 .nil)))) hput (Ren.le_refl _)
                rw [hcx, h0]
                simp only [Instr.next, Sem.run_bind, run_getObj' hw, Result.andThen_ok, Sem.run_pure, run_getObj' hwM, hcond', Bool.false_eq_true, if_false, g1', g2']
                simp [choose, Sem.run, Question.forced, run_setObj' _ hw, g5]
              · cases hq
        · cases ha
      · cases ha
    · cases ha
theorem lastOf_back : ∀ (l : List Nat) (b : Nat), lastOf l = some b → l.toArray.back? = some b
  | [], _, h => by cases h
  | [x], b, h => by simp [lastOf] at h; subst h; simp
  | x :: y :: r, b, h => by
    have := lastOf_back (y :: r) b h
    simp only [List.back?_toArray] at this ⊢
    rw [List.getLast?_cons_cons]; exact this
theorem EntriesRel.find {b : Nat} : ∀ {es : AEntries} {ces : List MapEntry} {e : AVal × AVal × Nat}, EntriesRel ρ es ces → (es.find? fun e => Nat.beq e.2.2 b) = some e → ∃ c, (ces.find? fun c => c.born == b) = some c ∧ VRel ρ e.1 c.key ∧ VRel ρ e.2.1 c.val
  | [], [], _, _, h => by simp at h
  | [], _ :: _, _, h, _ => h.elim
  | _ :: _, [], _, h, _ => h.elim
  | (k, v, b') :: r, c :: ces, e, ⟨h1, h2, h3, h4⟩, h => by
    simp only [List.find?_cons] at h ⊢
    by_cases hb : b' = b
    · subst hb
      simp at h; subst h
      rw [h3]
      exact ⟨c, by simp, h1, h2⟩
    · have e1 : Nat.beq b' b = false := by
        cases hx : Nat.beq b' b with
        | false => rfl
        | true => exact absurd (Nat.beq_eq.mp hx) hb
      have e2 : (c.born == b) = false := by rw [h3]; simpa using hb
      rw [e1] at h; rw [e2]
      exact h4.find h
theorem op_iterEntry (h : HRel P B ρ H w) (hev : EvOk ρ tm ce) {x : Operand} (hop : o.op = .entry x) (hc : cOp P o.op = some ao) (ha : aOp tm ao H = some (av, H')) : OpRes .any P B ρ H w (execOp ce o) av H' := by
  rw [hop] at hc
  obtain ⟨ax, hx, rfl⟩ := Option.map_eq_some_iff.1 hc
  have he : execOp ce o = (do Pure.pure (.value (← Instr.entry (ce x)))) := by simp [execOp, hop]
  rw [he]
  have hxv := hev _ _ hx
  simp only [aOp] at ha
  obtain ⟨_, hq, heq⟩ := Option.map_eq_some_iff.1 ha
  cases heq
  unfold aIterEntry at hq
  split at hq
  · rename_i A hxe
    rw [hxe] at hxv
    obtain ⟨l, hl, hcx⟩ := hxv.ptr_inv
    split at hq
    · rename_i M since seen last hg
      split at hq
      · rename_i es clock hgM
        obtain ⟨hcl, hq⟩ := ite_some hq
        obtain ⟨b, hb, hq⟩ := Option.bind_eq_some_iff.1 hq
        obtain ⟨e, hf, hv⟩ := Option.map_eq_some_iff.1 hq
        obtain ⟨hsing, l', cm, hl', h0, hw, hit⟩ := h.obj A _ hg
        rw [hl] at hl'; cases hl'
        cases cm with
        | none => exact hit.elim
        | some c =>
          obtain ⟨lM, hlM, rfl⟩ := hit
          obtain ⟨_, lM', ces, hlM', hwM, hes⟩ := h.obj M _ hgM
          rw [hlM] at hlM'; cases hlM'
          obtain ⟨ce', k1, k2, k3⟩ := hes.find hf
          subst hv
          refine .v h (cv := .tuple #[ce'.key, ce'.val]) ?_ (.tuple (.cons k2 (.cons k3 .nil)))
          have hcl' : clock = last := Nat.beq_eq.mp hcl
          rw [hcx, h0]
          rw [Array.find?_toList] at k1
          simp only [Instr.entry, Sem.run_bind, run_getObj' hw, Result.andThen_ok, lastOf_back _ _ hb, run_getObj' hwM, hcl', bne_self_eq_false, Bool.false_eq_true, if_false, k1, Sem.run_pure]
      · cases hq
    · cases hq
  · cases hq
theorem op_clear (h : HRel P B ρ H w) (hev : EvOk ρ tm ce) {c : Call} (hop : o.op = .call c) (hb : c.callee = .builtin .clear) (hc : cClear P c.args.toList c.argTypes.toList = some ao) (ha : aOp tm ao H = some (av, H')) :
    OpRes .any P B ρ H w (execOp ce o) av H' := by
  rw [exec_builtin hop hb]
  unfold cClear at hc
  split at hc
  · rename_i x t hargs htys
    rw [arr1 hargs, arr1 htys]
    have hmap : (#[x]).map ce = #[ce x] := by simp
    rw [hmap]
    simp only [builtin]
    split at hc
    · rename_i k e hu
      obtain ⟨ax, hx, rfl⟩ := Option.map_eq_some_iff.1 hc
      have hxv := hev _ _ hx
      simp only [aOp] at ha
      obtain ⟨H1, hm, heq⟩ := Option.map_eq_some_iff.1 ha
      cases heq
      unfold aClearM at hm
      split at hm
      · rename_i hxe
        cases hm
        rw [hxe] at hxv
        refine .v h (cv := .tuple #[]) ?_ (.tuple .nil)
        simp [Builtin.clear_, run_underlying' hu, hxv.raw_inv]
      · rename_i M hxe
        split at hm
        · rename_i es clock hg
          cases hm
          rw [hxe] at hxv
          obtain ⟨l, hl, hcx⟩ := hxv.map_inv
          obtain ⟨_, ces, hw, hrel⟩ := h.mapOf hg hl
          refine .vw (cv := .tuple #[]) (w' := w.putObj l.c (.map #[] clock)) ?_ (.tuple .nil) (h.putMap hg hl (es' := []) (ces' := #[]) trivial) (Ren.le_refl _)
          simp [Builtin.clear_, run_underlying' hu, hcx, run_getObj' hw, run_setObj' _ hw]
        · cases hm
      · cases hm
    · rename_i e hu
      obtain ⟨z, hz, hc⟩ := Option.bind_eq_some_iff.1 hc
      obtain ⟨ax, hx, rfl⟩ := Option.map_eq_some_iff.1 hc
      have hxv := hev _ _ hx
      simp only [aOp] at ha
      obtain ⟨H1, hm, heq⟩ := Option.map_eq_some_iff.1 ha
      cases heq
      unfold aClearS at hm
      split at hm
      · rename_i hxe
        cases hm
        rw [hxe] at hxv
        refine .v h (cv := .tuple #[]) ?_ (.tuple .nil)
        simp [Builtin.clear_, run_underlying' hu, hxv.raw_inv]
      · rename_i A ver off len kcap ex esz hxe
        rw [hxe] at hxv
        obtain ⟨l, a, cap, hl, hcx, hk, hlk, _, hor⟩ := hxv.slice_inv
        split at hm
        · rename_i h0
          cases hm
          subst h0
          refine .v h (cv := .tuple #[]) ?_ (.tuple .nil)
          simp [Builtin.clear_, run_underlying' hu, hcx]
        · rename_i h0
          rcases hor with ⟨rfl, _⟩ | ⟨e1, _, _⟩
          · have hzr := zeros_rel (aconst_rel ρ z).cells len
            obtain ⟨w', h2, h3⟩ := h.write hm hl hzr
            refine .vw (cv := .tuple #[]) (w' := w') ?_ (.tuple .nil) h3 (Ren.le_refl _)
            cases len with
            | zero => exact absurd rfl h0
            | succ n =>
              have hz0 : (Builtin.zeroCells z.cells (n + 1)).toList = (Array.map (fun x => z.cells.toList.toArray[x % z.cells.toList.toArray.size]!) (Array.range ((n + 1) * z.cells.toList.length))).toList := by
                simp only [Builtin.zeroCells, Array.toArray_toList, Array.length_toList]
              rw [← hz0] at h2
              simp [Builtin.clear_, run_underlying' hu, hcx, run_zeroValue' hz, h2]
          · exact absurd e1 h0
      · cases hm
    · cases hc
  · cases hc
end Go.Vm
