/- The abstract machine, part 13: the operations are sound (builtin functions, slices that grow). -/
import Derived.Test.YtipmhhogebnpkaaGreatDoorP05
import Derived.Laws.IdiomRangeMap
import Derived.Lib.AppendZerosOnto
namespace Go.Vm
open Go
set_option linter.unusedVariables false
set_option linter.unusedSimpArgs false
variable {P : Program} {B : Base} {ρ ρ' : Ren} {H H' : AHeap} {w w' : World} {tm : List AVal} {ce : Operand → Value} {o : Oper} {av : AVal} {ao : AOp}
theorem exec_builtin {c : Call} {b : Builtin} (hop : o.op = .call c) (hb : c.callee = .builtin b) :
    execOp ce o = builtin b c.argTypes o.type (c.args.map fun | .const _ => true | _ => false) (c.args.map ce) := by
  simp only [execOp, hop, resolve, hb]
  rfl
theorem arr2 {α : Type} {a : Array α} {x y : α} (h : a.toList = [x, y]) : a = #[x, y] := by
  apply Array.ext'; simpa using h
theorem arr1 {α : Type} {a : Array α} {x : α} (h : a.toList = [x]) : a = #[x] := by
  apply Array.ext'; simpa using h
theorem growBy_le (n : Nat) : ∀ (r c : Nat), c < 2 * n → 256 ≤ c → Builtin.growBy n r c ≤ 2 * n
  | 0, c, h, _ => by simp [Builtin.growBy]; omega
  | r + 1, c, h, h2 => by
    unfold Builtin.growBy
    split
    · omega
    · rename_i hn
      by_cases h3 : c + (c + 768) / 4 < 2 * n
      · exact growBy_le n r _ h3 (by omega)
      · have h4 : ∀ r c, n ≤ c → Builtin.growBy n r c = c := fun r c hc => by
          cases r with
          | zero => rfl
          | succ r => unfold Builtin.growBy; rw [if_pos hc]
        rw [h4 r _ (by omega)]
        omega
theorem nextslicecap_le {n c : Nat} (h : c < n) : Builtin.nextslicecap n c ≤ 2 * n := by
  unfold Builtin.nextslicecap
  split
  · omega
  · split
    · omega
    · exact growBy_le n 4 c (by omega) (by omega)
theorem run_askRoom' (n : Nat) : (askRoom n).run P w = .ok () w := by
  unfold askRoom; split <;> simp [mark, Sem.run]
theorem firstCells_run (h : HRel P B ρ H w) {esz m : Nat} {x : AVal} {cx : Value} {cells : List AVal} (hx : VRel ρ x cx) (hc : aCells H esz x = some cells) (hm : aLen x = some m) :
    ∃ cvs, (Builtin.firstCells esz m cx).run P w = .ok cvs.toArray w ∧ VRels ρ cells cvs ∧ cells.length = m * esz ∧ (∃ a cap, cx = .slice a m cap) := by
  obtain ⟨a, cap, cvs, rfl, hor, hrel, hlen⟩ := run_firstCells (P := P) h hx hc hm
  have hcl := hrel.length
  refine ⟨cvs, ?_, hrel, hlen, a, cap, rfl⟩
  rcases hor with ⟨rfl, rfl⟩ | ⟨ad, rfl, hload⟩
  · have : cvs = [] := List.eq_nil_of_length_eq_zero (by omega)
    subst this
    simp [Builtin.firstCells]
  · have e1 := hload m (Nat.le_refl _)
    rw [List.take_of_length_le (by omega)] at e1
    simp only [Builtin.firstCells, e1]
theorem run_append_room {t u e eu : TypeId} {i : TypeInfo} (ht : P.underlying t = some (.slice e)) (hu : P.underlying u = some (.slice eu)) (hi : P.info? e = some i) (ty : TypeId)
    {base a : Option Addr} {sLen sCap n cap : Nat} {news : Array Value} (hr : sLen + n ≤ sCap) (hn : (Builtin.firstCells i.size n (.slice a n cap)).run P w = .ok news w)
    (hst : ∀ ad, base = some ad → (storeCells (ad.add (sLen * i.size)) news.toList).run P w = .ok () w') (hnb : base = none → w' = w) :
    (Builtin.append_ #[t, u] ty #[.slice base sLen sCap, .slice a n cap]).run P w = .ok (.slice base (sLen + n) sCap) w' := by
  have hsz : szOf P e = some i.size := by simp [szOf, hi]
  unfold Builtin.append_
  simp only [List.getElem?_toArray, List.getElem?_cons_zero, List.getElem?_cons_succ, Sem.run_bind, run_underlying' ht, run_underlying' hu, Result.andThen_ok, run_sizeOf' hsz, Sem.run_pure, Bool.false_eq_true, if_false, Builtin.lenOf, Bool.not_false, if_true]
  rw [if_pos hr]
  simp only [Sem.run_bind, hn, Result.andThen_ok]
  cases base with
  | none => rw [hnb rfl]; simp
  | some ad => simp only [Sem.run_bind, hst ad rfl, Result.andThen_ok, Sem.run_pure]
theorem run_append_grow {t u e eu : TypeId} {i : TypeInfo} {z : Value} (ht : P.underlying t = some (.slice e)) (hu : P.underlying u = some (.slice eu)) (hi : P.info? e = some i) (hz : i.zero = some z) (ty : TypeId)
    {base a : Option Addr} {sLen sCap n cap : Nat} {news olds : Array Value} (hr : sCap < sLen + n) (hb : 0 < i.bytes) (hbig : (sLen + n) * i.bytes ≤ 140737488355328)
    (hn : (Builtin.firstCells i.size n (.slice a n cap)).run P w.drew = .ok news w.drew) (ho : (Builtin.firstCells i.size sLen (.slice base sLen sCap)).run P w.drew = .ok olds w.drew) :
    ∃ newCap, sLen + n ≤ newCap ∧ (Builtin.append_ #[t, u] ty #[.slice base sLen sCap, .slice a n cap]).run P w =
      .ok (.slice (some ⟨w.heap.size, 0, none⟩) (sLen + n) newCap) (w.drew.alloc (.cells (olds ++ news ++ Builtin.zeroCells z.cells (newCap - (sLen + n))) e)) := by
  have hsz : szOf P e = some i.size := by simp [szOf, hi]
  have hzo : zeroOf P e = some z := by simp [zeroOf, hi, hz]
  refine ⟨(Question.appendCap (sLen + n) sCap e).cut (w.tape w.drawn (.appendCap (sLen + n) sCap e)), by simp [Question.cut], ?_⟩
  have hmax : IntKind.i64.max = 9223372036854775807 := by decide +kernel
  have h48 : (2 : Nat) ^ 48 = 281474976710656 := by decide +kernel
  have hnext := nextslicecap_le hr
  have hmul : Builtin.nextslicecap (sLen + n) sCap * i.bytes ≤ 2 * (sLen + n) * i.bytes := Nat.mul_le_mul_right _ hnext
  have hmul2 : 2 * (sLen + n) * i.bytes = 2 * ((sLen + n) * i.bytes) := Nat.mul_assoc _ _ _
  have hle1 : sLen + n ≤ (sLen + n) * i.bytes := Nat.le_mul_of_pos_right _ hb
  unfold Builtin.append_
  simp only [List.getElem?_toArray, List.getElem?_cons_zero, List.getElem?_cons_succ, Sem.run_bind, run_underlying' ht, run_underlying' hu, Result.andThen_ok, run_sizeOf' hsz, Sem.run_pure, Bool.false_eq_true, if_false, Builtin.lenOf, Bool.not_false, if_true]
  rw [if_neg (by omega)]
  simp only [Sem.run_bind, run_typeInfo' hi, Result.andThen_ok, false_or]
  rw [if_neg (by rw [hmax]; omega)]
  simp only [Sem.run_bind, run_typeInfo' hi, Result.andThen_ok]
  rw [if_neg (by rw [h48]; omega)]
  have hch : (choose (.appendCap (sLen + n) sCap e)).run P w = .ok ((Question.appendCap (sLen + n) sCap e).cut (w.tape w.drawn (.appendCap (sLen + n) sCap e))) w.drew := by
    rw [run_choose]; simp [Question.forced]
  simp only [Sem.run_bind, hch, run_typeInfo' hi, run_askRoom', ho, hn, run_zeroValue' hzo, Result.andThen_ok, Sem.run_pure]
  simp [newRow]
theorem ite_some {c : Prop} [Decidable c] {α : Type} {x : Option α} {a : α} (h : (if c then x else none) = some a) : c ∧ x = some a := by
  split at h
  · exact ⟨‹_›, h⟩
  · cases h
theorem zeroCells_size (z : Array Value) (n : Nat) : (Builtin.zeroCells z n).size = n * z.size := by simp [Builtin.zeroCells]
theorem grown_cells {olds news : List AVal} {colds cnews : List Value} (ho : VRels ρ olds colds) (hn : VRels ρ news cnews) (rest : Array Value) : CellsAt ρ (colds.toArray ++ cnews.toArray ++ rest) 0 (olds ++ news) := fun i v hv => by
  obtain ⟨cv, h1, h2⟩ := (ho.append hn).get i v hv
  refine ⟨cv, ?_, h2⟩
  have : i < (colds ++ cnews).length := (List.getElem?_eq_some_iff.1 h1).1
  rw [Nat.zero_add, Array.getElem?_append_left (by simpa using this)]
  simpa using h1
theorem op_append (h : HRel P B ρ H w) (hev : EvOk ρ tm ce) {c : Call} (hop : o.op = .call c) (hb : c.callee = .builtin .append) (hc : cAppend P c.args.toList c.argTypes.toList = some ao) (ha : aOp tm ao H = some (av, H')) :
    OpRes .any P B ρ H w (execOp ce o) av H' := by
  rw [exec_builtin hop hb]
  unfold cAppend at hc
  split at hc
  · rename_i s x t u hargs htys
    rw [arr2 hargs, arr2 htys]
    split at hc
    · rename_i e eu ht hu
      simp only [Option.bind_eq_some_iff] at hc
      obtain ⟨i, hi, z, hz, hc⟩ := hc
      obtain ⟨hzl, hc⟩ := ite_some hc
      simp only [beq_iff_eq] at hzl
      simp only [Option.bind_eq_some_iff, Option.map_eq_some_iff] at hc
      obtain ⟨as, hs, ax, hx, rfl⟩ := hc
      have hsv := hev _ _ hs
      have hxv := hev _ _ hx
      have hzc : z.cells.size = i.size := by
        have := (aconst_rel ρ z).cells.length
        simp at this; omega
      have hmap : (#[s, x]).map ce = #[ce s, ce x] := by simp
      rw [hmap]
      simp only [builtin]
      simp only [aOp] at ha
      unfold aAppend at ha
      simp only [Option.bind_eq_some_iff] at ha
      obtain ⟨m, hm, news, hnews, ha⟩ := ha
      obtain ⟨cnews, hnr, hnrel, hnlen, xa, xcap, hcx⟩ := firstCells_run (P := P) h hxv hnews hm
      obtain ⟨cnewsD, hnrD, hnrelD, _, _, _, _⟩ := firstCells_run (P := P) h.drew hxv hnews hm
      have hncl := hnrel.length
      have hnclD := hnrelD.length
      rw [hcx] at hnr hnrD ⊢
      split at ha
      · -- nothing is appended
        rename_i hm0
        subst hm0
        have hc0 : cnews = [] := List.eq_nil_of_length_eq_zero (by omega)
        subst hc0
        split at ha
        · rename_i hse
          cases ha
          rw [hse] at hsv
          rw [hsv.raw_inv]
          refine .v h (cv := .slice none 0 0) ?_ (by rw [hse]; exact .raw _)
          exact run_append_room (w := w) (w' := w) ht hu hi o.type (n := 0) (Nat.le_refl _) hnr (fun ad h => by cases h) (fun _ => rfl)
        · rename_i A ver off len kcap ex esz hse
          cases ha
          have hsv' := hsv
          rw [hse] at hsv
          obtain ⟨l, a, cap, hl, hcs, hk, hlen, hex, hor⟩ := hsv.slice_inv
          refine .v h (cv := ce s) ?_ hsv'
          rw [hcs]
          exact run_append_room (w := w) (w' := w) ht hu hi o.type (n := 0) (by omega) hnr (fun ad h => by simp [storeCells]) (fun _ => rfl)
        · cases ha
      · rename_i hm0
        obtain ⟨hcond, ha⟩ := ite_some ha
        simp only [Bool.and_eq_true, decide_eq_true_eq] at hcond
        obtain ⟨⟨hez, hbz⟩, hone⟩ := hcond
        -- a slice over a new block
        have fresh : ∀ (olds : List AVal) (colds : List Value) (sLen newCap : Nat), VRels ρ olds colds → olds.length = sLen * i.size → sLen + m ≤ newCap →
            VRel (ρ.put H.next 0 ⟨w.heap.size, 0, (colds.toArray ++ cnewsD.toArray ++ Builtin.zeroCells z.cells (newCap - (sLen + m))).size⟩) (.slice H.next 0 0 (sLen + m) (sLen + m) false i.size) (.slice (some ⟨w.heap.size, 0, none⟩) (sLen + m) newCap) ∧
            HRel P B (ρ.put H.next 0 ⟨w.heap.size, 0, (colds.toArray ++ cnewsD.toArray ++ Builtin.zeroCells z.cells (newCap - (sLen + m))).size⟩) (H.push (.row [some (0, olds ++ news)])) (w.drew.alloc (.cells (colds.toArray ++ cnewsD.toArray ++ Builtin.zeroCells z.cells (newCap - (sLen + m))) e)) := fun olds colds sLen newCap ho hol hcap => by
          have hcl := ho.length
          have hsize : (colds.toArray ++ cnewsD.toArray ++ Builtin.zeroCells z.cells (newCap - (sLen + m))).size = newCap * i.size := by
            have e1 : (newCap - (sLen + m)) * i.size = newCap * i.size - (sLen + m) * i.size := Nat.sub_mul _ _ _
            have e2 : (sLen + m) * i.size = sLen * i.size + m * i.size := Nat.add_mul _ _ _
            have e3 : (sLen + m) * i.size ≤ newCap * i.size := Nat.mul_le_mul_right _ hcap
            simp only [Array.size_append, zeroCells_size, hzc, List.size_toArray]
            omega
          refine ⟨?_, h.drew.newRow (grown_cells ho hnrelD _)⟩
          have := VRel.slice (ρ := ρ.put H.next 0 ⟨w.heap.size, 0, (colds.toArray ++ cnewsD.toArray ++ Builtin.zeroCells z.cells (newCap - (sLen + m))).size⟩) (off := 0) (len := sLen + m) (kcap := sLen + m) (cap := newCap) (ex := false) (esz := i.size) (Ren.put_same _ _ _ _) hcap (Nat.le_refl _) (fun h => by cases h) (by dsimp only; omega)
          simpa using this
        split at ha
        · -- onto nil
          rename_i hse
          obtain ⟨hbig, ha⟩ := ite_some ha
          cases ha
          rw [hse] at hsv
          rw [hsv.raw_inv]
          obtain ⟨newCap, hcap, hrun⟩ := run_append_grow (P := P) (w := w) ht hu hi hz o.type (base := none) (sLen := 0) (sCap := 0) (n := m) (olds := #[]) (by omega) hbz (by simpa using hbig) hnrD (by simp [Builtin.firstCells])
          obtain ⟨f1, f2⟩ := fresh [] [] 0 newCap .nil (by simp) (by simpa using hcap)
          simp only [Nat.zero_add, List.nil_append] at f1 f2 hrun
          exact .vw hrun f1 f2 (Ren.put_le (h.fresh _ _ (Nat.le_refl _)))
        · rename_i A ver off len kcap ex esz hse
          obtain ⟨hes, ha2⟩ := ite_some ha
          clear ha
          subst hes
          have ha := ha2
          clear ha2
          have hsv' := hsv
          rw [hse] at hsv
          obtain ⟨l, a, cap, hl, hcs, hk, hlen, hex, hor⟩ := hsv.slice_inv
          rw [hcs]
          by_cases hroom : len + m ≤ kcap
          · -- there is room
            rw [if_pos hroom] at ha
            obtain ⟨H'', hw, heq⟩ := Option.map_eq_some_iff.1 ha
            cases heq
            rcases hor with ⟨rfl, hn⟩ | ⟨h1, h2, h3⟩
            · obtain ⟨w', h4, h5⟩ := h.write hw hl hnrel
              refine .vw (cv := .slice (some ⟨l.c, l.s + off, none⟩) (len + m) cap) (run_append_room (w := w) (w' := w') ht hu hi o.type (by omega) hnr (fun ad had => ?_) (fun h => by cases h)) (.slice hl hk hroom hex hn) h5 (Ren.le_refl _)
              cases had
              rw [add_none, Nat.add_assoc]
              exact h4
            · omega
          · rw [if_neg hroom] at ha
            obtain ⟨hbig, ha⟩ := ite_some ha
            obtain ⟨cells, hrow, ha⟩ := Option.bind_eq_some_iff.1 ha
            obtain ⟨hfit, ha⟩ := ite_some ha
            have hac : aCells H i.size (.slice A ver off len kcap ex i.size) = some ((cells.drop off).take (len * i.size)) := by
              simp only [aCells, hrow, Option.bind_some]
              rw [if_pos hfit]
            have hoD := firstCells_run (P := P) h.drew hsv hac rfl
            obtain ⟨coldsD, horD, hoRelD, hoLen, _⟩ := hoD
            rw [hcs] at horD
            by_cases hcap : len + m ≤ cap
            · -- in place, unseen
              have hnex : ex = false := by
                cases ex with
                | false => rfl
                | true => have := hex rfl; omega
              subst hnex
              simp only [Bool.false_eq_true, if_false] at ha
              split at ha
              · rename_i vs hg
                split at ha
                · rename_i rel cells' hv
                  cases ha
                  have hcc : cells' = cells := by
                    unfold AHeap.rowAt at hrow
                    rw [hg] at hrow
                    simp only [hv] at hrow
                    exact Option.some.inj hrow
                  subst hcc
                  rcases hor with ⟨rfl, hn⟩ | ⟨h1, h2, h3⟩
                  · have e2 : (len + m) * i.size = len * i.size + m * i.size := Nat.add_mul _ _ _
                    have e3 : (len + m) * i.size ≤ cap * i.size := Nat.mul_le_mul_right _ hcap
                    obtain ⟨w', h4, h5⟩ := h.verIn hg hv hl hfit (by omega) hone hnrel
                    refine .vw (cv := .slice (some ⟨l.c, l.s + off, none⟩) (len + m) cap) (run_append_room (w := w) (w' := w') ht hu hi o.type hcap hnr (fun ad had => ?_) (fun h => by cases h)) ?_ h5 ?_
                    · cases had
                      rw [add_none]
                      exact h4
                    · have := VRel.slice (ρ := ρ.put A vs.length ⟨l.c, l.s + off, l.n⟩) (off := 0) (len := len + m) (kcap := len + m) (cap := cap) (ex := false) (esz := i.size) (Ren.put_same _ _ _ _) hcap (Nat.le_refl _) (fun h => by cases h) (by dsimp only; omega)
                      simpa using this
                    · exact Ren.put_le ((h.obj A _ hg).1 _ (Nat.le_refl _))
                  · omega
                · cases ha
              · cases ha
            · -- it moves
              obtain ⟨newCap, hnc, hrun⟩ := run_append_grow (P := P) (w := w) ht hu hi hz o.type (base := some a) (sLen := len) (sCap := cap) (n := m) (by omega) hbz hbig hnrD horD
              cases ex
              case true =>
                simp only [if_true] at ha
                cases ha
                obtain ⟨f1, f2⟩ := fresh _ coldsD len newCap hoRelD hoLen hnc
                exact .vw hrun f1 f2 (Ren.put_le (h.fresh _ _ (Nat.le_refl _)))
              case false =>
                simp only [Bool.false_eq_true, if_false] at ha
                split at ha
                · rename_i vs hg
                  split at ha
                  · rename_i rel cells' hv
                    cases ha
                    have hnone := (h.obj A _ hg).1 vs.length (Nat.le_refl _)
                    have hout := h.drew.verOut (p := rel + off + len * i.size) (m := news.length) (rel := rel + off) (e := e) hg (grown_cells hoRelD hnrelD (Builtin.zeroCells z.cells (newCap - (len + m))))
                    refine .vw hrun ?_ hout (Ren.put_le hnone)
                    have hsize : (coldsD.toArray ++ cnewsD.toArray ++ Builtin.zeroCells z.cells (newCap - (len + m))).size = newCap * i.size := by
                      have e1 : (newCap - (len + m)) * i.size = newCap * i.size - (len + m) * i.size := Nat.sub_mul _ _ _
                      have e2 : (len + m) * i.size = len * i.size + m * i.size := Nat.add_mul _ _ _
                      have e3 : (len + m) * i.size ≤ newCap * i.size := Nat.mul_le_mul_right _ hnc
                      have := hoRelD.length
                      simp only [Array.size_append, zeroCells_size, hzc, List.size_toArray]
                      omega
                    have := VRel.slice (ρ := ρ.put A vs.length ⟨w.heap.size, 0, (coldsD.toArray ++ cnewsD.toArray ++ Builtin.zeroCells z.cells (newCap - (len + m))).size⟩) (off := 0) (len := len + m) (kcap := len + m) (cap := newCap) (ex := false) (esz := i.size) (Ren.put_same _ _ _ _) hnc (Nat.le_refl _) (fun h => by cases h) (by dsimp only; omega)
                    simpa using this
                  · cases ha
                · cases ha
        · cases ha
    · cases hc
  · cases hc
end Go.Vm
namespace Go.Vm
open Go
set_option linter.unusedVariables false
set_option linter.unusedSimpArgs false
variable {P : Program} {B : Base} {ρ ρ' : Ren} {H H' : AHeap} {w w' : World} {tm : List AVal} {ce : Operand → Value} {o : Oper} {av : AVal} {ao : AOp}
theorem op_iterNew (h : HRel P B ρ H w) (hev : EvOk ρ tm ce) {t : TypeId} {x : Operand} (hop : o.op = .range t x) (hc : cOp P o.op = some ao) (ha : aOp tm ao H = some (av, H')) : OpRes .any P B ρ H w (execOp ce o) av H' := by
  rw [hop] at hc
  simp only [cOp] at hc
  have he : execOp ce o = (do Pure.pure (.value (← Instr.range t (ce x)))) := by simp [execOp, hop]
  rw [he]
  split at hc
  · rename_i k e hu
    obtain ⟨ax, hx, rfl⟩ := Option.map_eq_some_iff.1 hc
    have hxv := hev _ _ hx
    simp only [aOp, aIterNew] at ha
    have hn := h.fresh H.next 0 (Nat.le_refl _)
    have hsing : Single (ρ.put H.next 0 ⟨w.heap.size, 0, 0⟩) H.next := fun v hv => by rw [Ren.put_ne _ _ (by omega)]; exact h.fresh _ _ (Nat.le_refl _)
    split at ha
    · rename_i hxe
      cases ha
      rw [hxe] at hxv
      have hp := h.push (o := .iter none 0 [] 0) (co := .mapIter none 0 #[] 0) (s := 0) (n := 0) (fun l => by simp) ⟨hsing, _, none, Ren.put_same _ _ _ _, rfl, World.alloc_heap_new _ _, trivial⟩
      refine .vw (cv := .pointer (some ⟨w.heap.size, 0, none⟩)) ?_ (.ptr (off := 0) (Ren.put_same ρ H.next 0 _)) hp (Ren.put_le hn)
      rw [hxv.raw_inv]
      exact run_range_nilMap w t k e hu
    · rename_i M hxe
      split at ha
      · rename_i es clock hg
        cases ha
        rw [hxe] at hxv
        obtain ⟨l, hl, hcx⟩ := hxv.map_inv
        obtain ⟨_, l', ces, hl', hw, _⟩ := h.obj M _ hg
        rw [hl] at hl'; cases hl'
        have hM : M ≠ H.next := fun e => by rw [e, h.fresh H.next 0 (Nat.le_refl _)] at hl; cases hl
        have hp := h.push (o := .iter (some M) clock [] clock) (co := .mapIter (some l.c) clock #[] clock) (s := 0) (n := 0) (fun l => by simp)
          ⟨hsing, _, some l.c, Ren.put_same _ _ _ _, rfl, World.alloc_heap_new _ _, l, by rw [Ren.put_ne _ _ (by omega)]; exact hl, rfl⟩
        refine .vw (cv := .pointer (some ⟨w.heap.size, 0, none⟩)) ?_ (.ptr (off := 0) (Ren.put_same ρ H.next 0 _)) hp (Ren.put_le hn)
        rw [hcx]
        exact run_range_map w t k e l.c ces clock hu hw
      · cases ha
    · cases ha
  · cases hc
theorem EntriesRel.filter {p : Nat → Bool} : ∀ {es : AEntries} {ces : List MapEntry}, EntriesRel ρ es ces → EntriesRel ρ (es.filter fun e => p e.2.2) (ces.filter fun e => p e.born)
  | [], [], _ => trivial
  | [], _ :: _, h => h.elim
  | _ :: _, [], h => h.elim
  | (k, v, b) :: r, e :: ces, ⟨h1, h2, h3, h4⟩ => by
    have ih := EntriesRel.filter (p := p) h4
    simp only [List.filter_cons, h3]
    split
    · exact ⟨h1, h2, h3, ih⟩
    · exact ih
theorem EntriesRel.all {p : Nat → Bool} : ∀ {es : AEntries} {ces : List MapEntry}, EntriesRel ρ es ces → (ces.all fun e => p e.born) = es.all fun e => p e.2.2
  | [], [], _ => rfl
  | [], _ :: _, h => h.elim
  | _ :: _, [], h => h.elim
  | (k, v, b) :: r, e :: ces, ⟨h1, h2, h3, h4⟩ => by simp only [List.all_cons, h3, EntriesRel.all (p := p) h4]
theorem EntriesRel.isEmpty : ∀ {es : AEntries} {ces : List MapEntry}, EntriesRel ρ es ces → ces.isEmpty = es.isEmpty
  | [], [], _ => rfl
  | [], _ :: _, h => h.elim
  | _ :: _, [], h => h.elim
  | _ :: _, _ :: _, _ => rfl
theorem EntriesRel.nil_left {ces : List MapEntry} (h : EntriesRel ρ [] ces) : ces = [] := by
  cases ces with
  | nil => rfl
  | cons => exact h.elim
theorem bornIn_eq (seen : List Nat) (b : Nat) : bornIn seen b = seen.toArray.contains b := by
  unfold bornIn
  rw [Bool.eq_iff_iff]
  simp only [List.any_eq_true, Array.contains_iff_mem, List.mem_toArray]
  constructor
  · rintro ⟨x, h1, h2⟩; rw [Nat.beq_eq.mp h2]; exact h1
  · intro h; exact ⟨b, h, by simp⟩
theorem run_getObj' {r : Nat} {ob : Obj} (h : w.heap[r]? = some ob) (hp : Plain ob := by trivial) : (getObj r).run P w = .ok ob w := by
  cases ob <;> first | exact hp.elim | simp [getObj, Sem.run, h]
theorem run_setObj' {r : Nat} {ob : Obj} (ob' : Obj) (h : w.heap[r]? = some ob) (hp : Plain ob := by trivial) : (setObj r ob').run P w = .ok () (w.putObj r ob') := by
  cases ob <;> first | exact hp.elim | simp [setObj, Sem.run, h, World.putObj]
theorem op_iterNext (h : HRel P B ρ H w) (hev : EvOk ρ tm ce) {x : Operand} {str : Bool} (hop : o.op = .next x str) (hc : cOp P o.op = some ao) (ha : aOp tm ao H = some (av, H')) : OpRes .any P B ρ H w (execOp ce o) av H' := by
  rw [hop] at hc
  simp only [cOp] at hc
  have he : execOp ce o = (do Pure.pure (.value (← Instr.next (ce x) str o.type))) := by simp [execOp, hop]
  rw [he]
  cases str with
  | true => simp at hc
  | false =>
    simp only [Bool.false_eq_true, if_false] at hc
    obtain ⟨ax, hx, rfl⟩ := Option.map_eq_some_iff.1 hc
    have hxv := hev _ _ hx
    simp only [aOp, aIterNext] at ha
    split at ha
    · rename_i A hxe
      unfold aIterNextAt at ha
      rw [hxe] at hxv
      obtain ⟨l, hl, hcx⟩ := hxv.ptr_inv
      split at ha
      · rename_i since seen last hg
        cases ha
        obtain ⟨_, l', cm, hl', h0, hw, hit⟩ := h.obj A _ hg
        rw [hl] at hl'; cases hl'
        cases cm with
        | some c => exact hit.elim
        | none =>
          refine .v h (cv := .tuple #[.bool false]) ?_ (.tuple (.cons (.raw _) .nil))
          rw [hcx, h0]
          simp only [Instr.next, Sem.run_bind, run_getObj' hw, Result.andThen_ok, Sem.run_pure]
      · rename_i M since seen last hg
        split at ha
        · rename_i es clock hgM
          obtain ⟨q, hq, hv⟩ := Option.map_eq_some_iff.1 ha
          obtain ⟨hsing, l', cm, hl', h0, hw, hit⟩ := h.obj A _ hg
          rw [hl] at hl'; cases hl'
          cases cm with
          | none => exact hit.elim
          | some c =>
            obtain ⟨lM, hlM, rfl⟩ := hit
            obtain ⟨_, lM', ces, hlM', hwM, hes⟩ := h.obj M _ hgM
            rw [hlM] at hlM'; cases hlM'
            unfold aNext at hq
            have hseen : seen.toArray.isEmpty = seen.isEmpty := by cases seen <;> rfl
            have htest : (!seen.toArray.isEmpty && !ces.isEmpty && ces.all (fun x => decide (x.born ≥ last))) = (!seen.isEmpty && !es.isEmpty && es.all (fun e => Nat.ble last e.2.2)) := by
              have e1 : ces.all (fun x => decide (x.born ≥ last)) = es.all (fun e => Nat.ble last e.2.2) := by
                rw [← hes.all (p := fun b => Nat.ble last b), ← Array.all_toList]
                congr 1; funext e
                rw [Bool.eq_iff_iff, decide_eq_true_eq, Nat.ble_eq]
              have e2 : ces.isEmpty = es.isEmpty := by rw [← hes.isEmpty, Array.isEmpty_toList]
              rw [e1, e2, hseen]
            split at hq
            · cases hq
            · rename_i hcond
              have hcond' : (!seen.toArray.isEmpty && !ces.isEmpty && ces.all (fun x => decide (x.born ≥ last))) = false := by rw [htest]; simpa using hcond
              have hleft := hes.filter (p := fun b => !bornIn seen b)
              have hold := hleft.filter (p := fun b => Nat.blt b since)
              have hnew := hleft.filter (p := fun b => Nat.ble since b)
              have f1 : ((ces.filter fun e => !seen.toArray.contains e.born).filter fun x => decide (x.born < since)).toList = ((ces.toList.filter fun e => !bornIn seen e.born).filter fun e => Nat.blt e.born since) := by
                rw [Array.toList_filter, Array.toList_filter]
                have : (fun e : MapEntry => !seen.toArray.contains e.born) = fun e => !bornIn seen e.born := by funext e; rw [bornIn_eq]
                rw [this]
                congr 1; funext e
                rw [Bool.eq_iff_iff, decide_eq_true_eq]; simp [Nat.blt]; omega
              have f2 : ((ces.filter fun e => !seen.toArray.contains e.born).filter fun x => decide (x.born ≥ since)).toList = ((ces.toList.filter fun e => !bornIn seen e.born).filter fun e => Nat.ble since e.born) := by
                rw [Array.toList_filter, Array.toList_filter]
                have : (fun e : MapEntry => !seen.toArray.contains e.born) = fun e => !bornIn seen e.born := by funext e; rw [bornIn_eq]
                rw [this]
                congr 1; funext e
                rw [Bool.eq_iff_iff, decide_eq_true_eq]; simp
              split at hq
              · rename_i e1 e2
                cases hq
                cases hv
                rw [e1] at hold; rw [e2] at hnew
                have g1 := hold.nil_left; have g2 := hnew.nil_left
                rw [← f1] at g1; rw [← f2] at g2
                have g1' : ((ces.filter fun e => !seen.toArray.contains e.born).filter fun x => decide (x.born < since)) = #[] := by simpa using g1
                have g2' : ((ces.filter fun e => !seen.toArray.contains e.born).filter fun x => decide (x.born ≥ since)) = #[] := by simpa using g2
                refine .v h (cv := .tuple #[.bool false]) ?_ (.tuple (.cons (.raw _) .nil))
                rw [hcx, h0]
                simp only [Instr.next, Sem.run_bind, run_getObj' hw, Result.andThen_ok, Sem.run_pure, run_getObj' hwM, hcond', Bool.false_eq_true, if_false, g1', g2']
                simp [choose, Sem.run, Question.forced]
              · rename_i e e1 e2
                cases hq
                obtain ⟨k, v, b⟩ := e
                simp only at hv
                cases hv
                rw [e1] at hold; rw [e2] at hnew
                have g2 := hnew.nil_left
                rw [← f2] at g2
                have g2' : ((ces.filter fun e => !seen.toArray.contains e.born).filter fun x => decide (x.born ≥ since)) = #[] := by simpa using g2
                obtain ⟨ce', hce, g3, g4, g5⟩ : ∃ ce' : MapEntry, ((ces.toList.filter fun e => !bornIn seen e.born).filter fun e => Nat.blt e.born since) = [ce'] ∧ VRel ρ k ce'.key ∧ VRel ρ v ce'.val ∧ ce'.born = b := by
                  generalize ((ces.toList.filter fun e => !bornIn seen e.born).filter fun e => Nat.blt e.born since) = L at hold
                  cases L with
                  | nil => exact hold.elim
                  | cons c L =>
                    obtain ⟨k1, k2, k3, k4⟩ := hold
                    exact ⟨c, by rw [k4.nil_left], k1, k2, k3⟩
                rw [← f1] at hce
                have g1' : ((ces.filter fun e => !seen.toArray.contains e.born).filter fun x => decide (x.born < since)) = #[ce'] := Array.toList_inj.1 hce
                have hput := h.putObj (co := .mapIter (some lM.c) since (seen ++ [b]).toArray clock) hg hl (fun x => by simp) (ob' := .iter (some M) since (seen ++ [b]) clock) (fun x => by simp)
                  ⟨hsing, l, some lM.c, hl, h0, World.putObj_heap_same (Array.getElem?_eq_some_iff.1 hw).1, lM, hlM, rfl⟩ (Side.putPlain hw trivial trivial)
                refine .vw (cv := .tuple #[.bool true, ce'.key, ce'.val]) ?_ (.tuple (.cons (.raw _) (.cons g3 (.cons g4 .nil)))) hput (Ren.le_refl _)
                rw [hcx, h0]
                simp only [Instr.next, Sem.run_bind, run_getObj' hw, Result.andThen_ok, Sem.run_pure, run_getObj' hwM, hcond', Bool.false_eq_true, if_false, g1', g2']
                simp [choose, Sem.run, Question.forced, run_setObj' _ hw, g5]
              · cases hq
        · cases ha
      · cases ha
    · cases ha
theorem lastOf_back : ∀ (l : List Nat) (b : Nat), lastOf l = some b → l.toArray.back? = some b
  | [], _, h => by cases h
  | [x], b, h => by simp [lastOf] at h; subst h; simp
  | x :: y :: r, b, h => by
    have := lastOf_back (y :: r) b h
    simp only [List.back?_toArray] at this ⊢
    rw [List.getLast?_cons_cons]; exact this
theorem EntriesRel.find {b : Nat} : ∀ {es : AEntries} {ces : List MapEntry} {e : AVal × AVal × Nat}, EntriesRel ρ es ces → (es.find? fun e => Nat.beq e.2.2 b) = some e → ∃ c, (ces.find? fun c => c.born == b) = some c ∧ VRel ρ e.1 c.key ∧ VRel ρ e.2.1 c.val
  | [], [], _, _, h => by simp at h
  | [], _ :: _, _, h, _ => h.elim
  | _ :: _, [], _, h, _ => h.elim
  | (k, v, b') :: r, c :: ces, e, ⟨h1, h2, h3, h4⟩, h => by
    simp only [List.find?_cons] at h ⊢
    by_cases hb : b' = b
    · subst hb
      simp at h; subst h
      rw [h3]
      exact ⟨c, by simp, h1, h2⟩
    · have e1 : Nat.beq b' b = false := by
        cases hx : Nat.beq b' b with
        | false => rfl
        | true => exact absurd (Nat.beq_eq.mp hx) hb
      have e2 : (c.born == b) = false := by rw [h3]; simpa using hb
      rw [e1] at h; rw [e2]
      exact h4.find h
theorem op_iterEntry (h : HRel P B ρ H w) (hev : EvOk ρ tm ce) {x : Operand} (hop : o.op = .entry x) (hc : cOp P o.op = some ao) (ha : aOp tm ao H = some (av, H')) : OpRes .any P B ρ H w (execOp ce o) av H' := by
  rw [hop] at hc
  obtain ⟨ax, hx, rfl⟩ := Option.map_eq_some_iff.1 hc
  have he : execOp ce o = (do Pure.pure (.value (← Instr.entry (ce x)))) := by simp [execOp, hop]
  rw [he]
  have hxv := hev _ _ hx
  simp only [aOp] at ha
  obtain ⟨_, hq, heq⟩ := Option.map_eq_some_iff.1 ha
  cases heq
  unfold aIterEntry at hq
  split at hq
  · rename_i A hxe
    rw [hxe] at hxv
    obtain ⟨l, hl, hcx⟩ := hxv.ptr_inv
    split at hq
    · rename_i M since seen last hg
      split at hq
      · rename_i es clock hgM
        obtain ⟨hcl, hq⟩ := ite_some hq
        obtain ⟨b, hb, hq⟩ := Option.bind_eq_some_iff.1 hq
        obtain ⟨e, hf, hv⟩ := Option.map_eq_some_iff.1 hq
        obtain ⟨hsing, l', cm, hl', h0, hw, hit⟩ := h.obj A _ hg
        rw [hl] at hl'; cases hl'
        cases cm with
        | none => exact hit.elim
        | some c =>
          obtain ⟨lM, hlM, rfl⟩ := hit
          obtain ⟨_, lM', ces, hlM', hwM, hes⟩ := h.obj M _ hgM
          rw [hlM] at hlM'; cases hlM'
          obtain ⟨ce', k1, k2, k3⟩ := hes.find hf
          subst hv
          refine .v h (cv := .tuple #[ce'.key, ce'.val]) ?_ (.tuple (.cons k2 (.cons k3 .nil)))
          have hcl' : clock = last := Nat.beq_eq.mp hcl
          rw [hcx, h0]
          rw [Array.find?_toList] at k1
          simp only [Instr.entry, Sem.run_bind, run_getObj' hw, Result.andThen_ok, lastOf_back _ _ hb, run_getObj' hwM, hcl', bne_self_eq_false, Bool.false_eq_true, if_false, k1, Sem.run_pure]
      · cases hq
    · cases hq
  · cases hq
theorem op_clear (h : HRel P B ρ H w) (hev : EvOk ρ tm ce) {c : Call} (hop : o.op = .call c) (hb : c.callee = .builtin .clear) (hc : cClear P c.args.toList c.argTypes.toList = some ao) (ha : aOp tm ao H = some (av, H')) :
    OpRes .any P B ρ H w (execOp ce o) av H' := by
  rw [exec_builtin hop hb]
  unfold cClear at hc
  split at hc
  · rename_i x t hargs htys
    rw [arr1 hargs, arr1 htys]
    have hmap : (#[x]).map ce = #[ce x] := by simp
    rw [hmap]
    simp only [builtin]
    split at hc
    · rename_i k e hu
      obtain ⟨ax, hx, rfl⟩ := Option.map_eq_some_iff.1 hc
      have hxv := hev _ _ hx
      simp only [aOp] at ha
      obtain ⟨H1, hm, heq⟩ := Option.map_eq_some_iff.1 ha
      cases heq
      unfold aClearM at hm
      split at hm
      · rename_i hxe
        cases hm
        rw [hxe] at hxv
        refine .v h (cv := .tuple #[]) ?_ (.tuple .nil)
        simp [Builtin.clear_, run_underlying' hu, hxv.raw_inv]
      · rename_i M hxe
        split at hm
        · rename_i es clock hg
          cases hm
          rw [hxe] at hxv
          obtain ⟨l, hl, hcx⟩ := hxv.map_inv
          obtain ⟨_, ces, hw, hrel⟩ := h.mapOf hg hl
          refine .vw (cv := .tuple #[]) (w' := w.putObj l.c (.map #[] clock)) ?_ (.tuple .nil) (h.putMap hg hl (es' := []) (ces' := #[]) trivial) (Ren.le_refl _)
          simp [Builtin.clear_, run_underlying' hu, hcx, run_getObj' hw, run_setObj' _ hw]
        · cases hm
      · cases hm
    · rename_i e hu
      obtain ⟨z, hz, hc⟩ := Option.bind_eq_some_iff.1 hc
      obtain ⟨ax, hx, rfl⟩ := Option.map_eq_some_iff.1 hc
      have hxv := hev _ _ hx
      simp only [aOp] at ha
      obtain ⟨H1, hm, heq⟩ := Option.map_eq_some_iff.1 ha
      cases heq
      unfold aClearS at hm
      split at hm
      · rename_i hxe
        cases hm
        rw [hxe] at hxv
        refine .v h (cv := .tuple #[]) ?_ (.tuple .nil)
        simp [Builtin.clear_, run_underlying' hu, hxv.raw_inv]
      · rename_i A ver off len kcap ex esz hxe
        rw [hxe] at hxv
        obtain ⟨l, a, cap, hl, hcx, hk, hlk, _, hor⟩ := hxv.slice_inv
        split at hm
        · rename_i h0
          cases hm
          subst h0
          refine .v h (cv := .tuple #[]) ?_ (.tuple .nil)
          simp [Builtin.clear_, run_underlying' hu, hcx]
        · rename_i h0
          rcases hor with ⟨rfl, _⟩ | ⟨e1, _, _⟩
          · have hzr := zeros_rel (aconst_rel ρ z).cells len
            obtain ⟨w', h2, h3⟩ := h.write hm hl hzr
            refine .vw (cv := .tuple #[]) (w' := w') ?_ (.tuple .nil) h3 (Ren.le_refl _)
            cases len with
            | zero => exact absurd rfl h0
            | succ n =>
              have hz0 : (Builtin.zeroCells z.cells (n + 1)).toList = (Array.map (fun x => z.cells.toList.toArray[x % z.cells.toList.toArray.size]!) (Array.range ((n + 1) * z.cells.toList.length))).toList := by
                simp only [Builtin.zeroCells, Array.toArray_toList, Array.length_toList]
              rw [← hz0] at h2
              simp [Builtin.clear_, run_underlying' hu, hcx, run_zeroValue' hz, h2]
          · exact absurd e1 h0
      · cases hm
    · cases hc
  · cases hc
end Go.Vm
namespace Go.Vm
open Go
set_option linter.unusedVariables false
set_option linter.unusedSimpArgs false
variable {P : Program} {B : Base} {ρ ρ' : Ren} {H H' : AHeap} {w w' : World} {tm : List AVal} {ce : Operand → Value} {o : Oper} {av : AVal} {ao : AOp}
theorem op_copy (h : HRel P B ρ H w) (hev : EvOk ρ tm ce) {c : Call} (hop : o.op = .call c) (hb : c.callee = .builtin .copy) (hc : cCopy P c.args.toList c.argTypes.toList = some ao) (ha : aOp tm ao H = some (av, H')) :
    OpRes .any P B ρ H w (execOp ce o) av H' := by
  rw [exec_builtin hop hb]
  unfold cCopy at hc
  split at hc
  · rename_i d s t u hargs htys
    rw [arr2 hargs, arr2 htys]
    split at hc
    · rename_i e eu ht hu
      simp only [Option.bind_eq_some_iff, Option.map_eq_some_iff] at hc
      obtain ⟨n, hn, ad, hd, as, hs, rfl⟩ := hc
      have hdv := hev _ _ hd
      have hsv := hev _ _ hs
      have hmap : (#[d, s]).map ce = #[ce d, ce s] := by simp
      rw [hmap]
      simp only [builtin]
      simp only [aOp] at ha
      unfold aCopy at ha
      simp only [Option.bind_eq_some_iff] at ha
      obtain ⟨dl, hdl, sl, hsl, cells, hcells, ha⟩ := ha
      obtain ⟨a, cap, cvs, hcs, hor, hrel, hlen⟩ := run_firstCells (P := P) h hsv hcells hsl
      -- the first cells of the source
      have hfirst : ∀ k, k ≤ sl → (Builtin.firstCells n k (ce s)).run P w = .ok (cvs.take (k * n)).toArray w := fun k hk => by
        rw [hcs]
        rcases hor with ⟨rfl, h0⟩ | ⟨x, rfl, hl⟩
        · have hc0 : cvs = [] := List.eq_nil_of_length_eq_zero (by have := hrel.length; rw [this, hlen, h0]; simp)
          subst hc0
          simp [Builtin.firstCells]
        · simp only [Builtin.firstCells, hl k hk]
      have hdst : ∃ base dcap, ce d = .slice base dl dcap ∧ (base = none → dl = 0) := by
        unfold aLen at hdl
        split at hdl
        · rename_i hxe
          cases hdl
          rw [hxe] at hdv
          exact ⟨none, 0, hdv.raw_inv, fun _ => rfl⟩
        · rename_i hxe
          cases hdl
          rw [hxe] at hdv
          obtain ⟨l, x, c, _, h1, _⟩ := hdv.slice_inv
          exact ⟨some x, c, h1, fun h => by cases h⟩
        · cases hdl
      obtain ⟨base, dcap, hcd, hbase⟩ := hdst
      have hmin : Nat.min sl dl = min sl dl := rfl
      have hrun : ∀ w', (∀ x, base = some x → (storeCells x (cvs.take (min sl dl * n))).run P w = .ok () w') → (base = none → w' = w) →
          (Builtin.copy_ #[t, u] o.type #[ce d, ce s]).run P w = .ok (goInt ((min sl dl : Nat) : Int)) w' := fun w' h1 h2 => by
        unfold Builtin.copy_
        simp only [List.getElem?_toArray, List.getElem?_cons_zero, List.getElem?_cons_succ, Sem.run_bind, run_underlying' ht, Result.andThen_ok, hcd]
        have hls : (Builtin.lenOf (ce s)).run P w = .ok sl w := by rw [hcs]; simp [Builtin.lenOf]
        simp only [Sem.run_bind, hls, run_sizeOf' hn, Result.andThen_ok, hmin]
        rw [hfirst _ (Nat.min_le_left _ _)]
        simp only [Result.andThen_ok]
        cases base with
        | none => rw [h2 rfl]; simp
        | some x => simp only [Sem.run_bind, h1 x rfl, Result.andThen_ok, Sem.run_pure]
      split at ha
      · rename_i h0
        cases ha
        refine .v h (hrun w (fun x _ => ?_) (fun _ => rfl)) (.raw _)
        rw [h0]; simp [storeCells]
      · rename_i h0
        split at ha
        · rename_i A ver off len kcap ex esz hde
          obtain ⟨H'', hw, heq⟩ := Option.map_eq_some_iff.1 ha
          cases heq
          rw [hde] at hdv
          obtain ⟨l, x, c, hl, h1, hk, hlk, _, hor2⟩ := hdv.slice_inv
          rw [hcd] at h1
          cases h1
          rcases hor2 with ⟨rfl, _⟩ | ⟨e1, _, _⟩
          · obtain ⟨w', h2, h3⟩ := h.write hw hl (hrel.take _)
            refine .vw (hrun w' (fun x hx => ?_) (fun h => by cases h)) (.raw _) h3 (Ren.le_refl _)
            cases hx
            exact h2
          · subst e1; simp at h0
        · cases ha
    · cases hc
  · cases hc
theorem op_len (h : HRel P B ρ H w) (hev : EvOk ρ tm ce) {c : Call} (hop : o.op = .call c) (hb : c.callee = .builtin .len) (hc : cLen P c.args.toList c.argTypes.toList = some ao) (ha : aOp tm ao H = some (av, H')) :
    OpRes .quiet P B ρ H w (execOp ce o) av H' := by
  rw [exec_builtin hop hb]
  unfold cLen at hc
  split at hc
  · rename_i x t hargs htys
    rw [arr1 hargs, arr1 htys]
    have hmap : (#[x]).map ce = #[ce x] := by simp
    rw [hmap]
    simp only [builtin]
    split at hc
    · rename_i hu
      obtain ⟨ax, hx, rfl⟩ := Option.map_eq_some_iff.1 hc
      have hxv := hev _ _ hx
      simp only [aOp] at ha
      obtain ⟨_, hl, heq⟩ := Option.map_eq_some_iff.1 ha
      cases heq
      unfold aLenStr at hl
      split at hl
      · rename_i s hxe
        cases hl
        rw [hxe] at hxv
        refine .v h (cv := goInt s.size) ?_ (.raw _)
        simp [Builtin.len_, run_underlying' hu, hxv.raw_inv]
      · cases hl
    · rename_i e hu
      obtain ⟨ax, hx, rfl⟩ := Option.map_eq_some_iff.1 hc
      have hxv := hev _ _ hx
      simp only [aOp] at ha
      obtain ⟨_, hl, heq⟩ := Option.map_eq_some_iff.1 ha
      cases heq
      unfold aLenS at hl
      split at hl
      · rename_i hxe
        cases hl
        rw [hxe] at hxv
        refine .v h (cv := goInt 0) ?_ (.raw _)
        simp [Builtin.len_, run_underlying' hu, hxv.raw_inv]
      · rename_i hxe
        cases hl
        rw [hxe] at hxv
        obtain ⟨l, a, cap, _, hcx, _⟩ := hxv.slice_inv
        refine .v h (cv := goInt _) ?_ (.raw _)
        simp [Builtin.len_, run_underlying' hu, hcx]
      · cases hl
    · rename_i k e hu
      obtain ⟨ax, hx, rfl⟩ := Option.map_eq_some_iff.1 hc
      have hxv := hev _ _ hx
      simp only [aOp] at ha
      obtain ⟨_, hl, heq⟩ := Option.map_eq_some_iff.1 ha
      cases heq
      unfold aLenM at hl
      split at hl
      · rename_i hxe
        cases hl
        rw [hxe] at hxv
        refine .v h (cv := goInt 0) ?_ (.raw _)
        simp [Builtin.len_, run_underlying' hu, hxv.raw_inv]
      · rename_i M hxe
        split at hl
        · rename_i es clock hg
          cases hl
          rw [hxe] at hxv
          obtain ⟨l, hl, hcx⟩ := hxv.map_inv
          obtain ⟨_, ces, hw, hrel⟩ := h.mapOf hg hl
          have hlen := hrel.length
          refine .v h (cv := goInt ces.size) ?_ (by rw [show ces.size = es.length by simpa using hlen]; exact .raw _)
          simp only [Builtin.len_, List.getElem?_toArray, List.getElem?_cons_zero, Sem.run_bind, run_underlying' hu, Result.andThen_ok, hcx, run_getObj_at hw, Sem.run_pure]
        · cases hl
      · cases hl
    · rename_i n e hu
      obtain ⟨ax, hx, rfl⟩ := Option.map_eq_some_iff.1 hc
      simp only [aOp] at ha
      cases ha
      refine .v h (cv := goInt n) ?_ (.raw _)
      simp [Builtin.len_, run_underlying' hu]
    · rename_i a hu
      split at hc
      · rename_i n e hu2
        obtain ⟨ax, hx, rfl⟩ := Option.map_eq_some_iff.1 hc
        simp only [aOp] at ha
        cases ha
        refine .v h (cv := goInt n) ?_ (.raw _)
        simp [Builtin.len_, run_underlying' hu, run_underlying' hu2]
      · cases hc
    · cases hc
  · cases hc
theorem minmax_fold (isMax : Bool) : ∀ (xs : List AVal) (cxs : List Value) (k : IntKind) (a : Int) {av : AVal}, VRels ρ xs cxs → aMinMax isMax (.raw (.int k a)) xs = some av →
    ∃ cv, av = .raw cv ∧ (cxs.foldlM (if isMax then Builtin.max2 else Builtin.min2) (Value.int k a)).run P w = .ok cv w
  | [], _, k, a, av, .nil, h => by
    simp [aMinMax] at h; subst h
    exact ⟨_, rfl, by simp⟩
  | x :: xs, cx :: cxs, k, a, av, .cons hx hxs, h => by
    have hxe : ∃ k' b, x = .raw (.int k' b) := by
      cases x with
      | raw v => cases v <;> first | exact ⟨_, _, rfl⟩ | (simp [aMinMax] at h)
      | _ => simp [aMinMax] at h
    obtain ⟨k', b, rfl⟩ := hxe
    simp only [aMinMax, ilt_eq] at h
    obtain ⟨cv, h1, h2⟩ := minmax_fold isMax xs cxs k _ hxs h
    refine ⟨cv, h1, ?_⟩
    rw [hx.raw_inv, List.foldlM_cons]
    cases isMax
    · simp only [Bool.false_eq_true, if_false, Builtin.min2, Sem.run_bind, Sem.run_pure, Result.andThen_ok, decide_eq_true_eq] at h2 ⊢
      exact h2
    · simp only [if_true, Builtin.max2, Sem.run_bind, Sem.run_pure, Result.andThen_ok, decide_eq_true_eq] at h2 ⊢
      have : (if a > b then a else b) = (if a < b then b else a) := by
        by_cases h1 : a < b
        · rw [if_neg (by omega), if_pos h1]
        · rw [if_neg h1]
          by_cases h3 : a > b
          · rw [if_pos h3]
          · rw [if_neg h3]; omega
      first | exact h2 | (rw [this]; exact h2)
theorem op_minmax (isMax : Bool) (h : HRel P B ρ H w) (hev : EvOk ρ tm ce) {c : Call} (hop : o.op = .call c) (hb : c.callee = .builtin (if isMax then .max else .min)) (hc : (cOpds c.args.toList).map (.minmax isMax) = some ao) (ha : aOp tm ao H = some (av, H')) :
    OpRes .quiet P B ρ H w (execOp ce o) av H' := by
  rw [exec_builtin hop hb]
  obtain ⟨axs, hxs, rfl⟩ := Option.map_eq_some_iff.1 hc
  have hrel := cOpds_rel hev hxs
  simp only [aOp] at ha
  split at ha
  · rename_i x r hxe
    obtain ⟨_, hm, heq⟩ := Option.map_eq_some_iff.1 ha
    cases heq
    rw [hxe] at hrel
    have hmap : (c.args.map ce).toList = c.args.toList.map ce := by simp
    cases hcm : c.args.toList.map ce with
    | nil => rw [hcm] at hrel; cases hrel
    | cons cx cr =>
      rw [hcm] at hrel
      cases hrel with
      | cons h1 h2 =>
        have hxe' : (∃ k a, x = .raw (.int k a)) ∨ r = [] := by
          cases r with
          | nil => exact .inr rfl
          | cons y r =>
            left
            cases x with
            | raw v => cases v <;> first | exact ⟨_, _, rfl⟩ | (simp [aMinMax] at hm)
            | _ => simp [aMinMax] at hm
        have hrun : ∃ cv, VRel ρ av cv ∧ (cr.foldlM (if isMax then Builtin.max2 else Builtin.min2) cx).run P w = .ok cv w := by
          rcases hxe' with ⟨k, a, rfl⟩ | rfl
          · obtain ⟨cv, rfl, h3⟩ := minmax_fold (P := P) (w := w) isMax r cr k a h2 hm
            rw [h1.raw_inv]
            exact ⟨cv, .raw _, h3⟩
          · cases h2
            simp [aMinMax] at hm; subst hm
            exact ⟨cx, h1, by simp⟩
        obtain ⟨cv, h3, h4⟩ := hrun
        cases isMax
        · simp only [Bool.false_eq_true, if_false, builtin] at h4 ⊢
          refine .v h (cv := cv) ?_ h3
          simp only [Builtin.min_, hmap, hcm, h4]
        · simp only [if_true, builtin] at h4 ⊢
          refine .v h (cv := cv) ?_ h3
          simp only [Builtin.max_, hmap, hcm, h4]
  · cases ha
theorem op_delete (h : HRel P B ρ H w) (hev : EvOk ρ tm ce) {c : Call} (hop : o.op = .call c) (hb : c.callee = .builtin .delete) (hc : cDelete P c.args.toList c.argTypes.toList = some ao) (ha : aOp tm ao H = some (av, H')) :
    OpRes .any P B ρ H w (execOp ce o) av H' := by
  rw [exec_builtin hop hb]
  unfold cDelete at hc
  split at hc
  · rename_i m k t tk hargs htys
    rw [arr2 hargs, arr2 htys]
    have hmap : (#[m, k]).map ce = #[ce m, ce k] := by simp
    rw [hmap]
    simp only [builtin]
    split at hc
    · rename_i key e hu
      split at hc
      · rename_i q hkey
        simp only [Option.bind_eq_some_iff, Option.map_eq_some_iff] at hc
        obtain ⟨am, hm, ak, hk, rfl⟩ := hc
        have hmv := hev _ _ hm
        have hkv := hev _ _ hk
        simp only [aOp, Option.map_eq_some_iff] at ha
        obtain ⟨H'', hd, heq⟩ := ha
        cases heq
        unfold aMapDelete at hd
        split at hd
        · rename_i hme
          cases hd
          rw [hme] at hmv
          refine .v h (cv := .tuple #[]) ?_ (.raw _)
          simp [Builtin.delete_, run_underlying' hu, hmv.raw_inv, run_checkKey_int hkey]
        · rename_i M kk n hme hke
          rw [hme] at hmv
          rw [hke] at hkv
          have hck := hkv.raw_inv
          split at hd
          · rename_i es clock hg
            obtain ⟨r, hf, hH⟩ := Option.map_eq_some_iff.1 hd
            obtain ⟨l, hl', hcm⟩ := hmv.map_inv
            obtain ⟨_, ces, hw, hrel⟩ := h.mapOf hg hl'
            obtain ⟨cr, h1, h2⟩ := aFind_rel q hrel hf
            cases r with
            | none =>
              subst h2
              simp only at hH
              subst hH
              have hput : w.putObj l.c (.map ces clock) = w := by
                unfold World.putObj
                obtain ⟨hc, hv⟩ := Array.getElem?_eq_some_iff.1 hw
                have : w.heap.setIfInBounds l.c (.map ces clock) = w.heap := by
                  apply Array.ext_getElem?
                  intro j
                  rw [Array.getElem?_setIfInBounds]
                  by_cases hj : l.c = j
                  · subst hj; simp [hc, hv]
                  · simp [hj]
                rw [this]
              refine .v h (cv := .tuple #[]) ?_ (.raw _)
              simp only [Builtin.delete_, List.getElem?_toArray, List.getElem?_cons_zero, List.getElem?_cons_succ, Sem.run_bind, run_underlying' hu, Result.andThen_ok, hcm, hck, run_checkKey_int hkey, run_getObj_at hw]
              rw [run_findKey hkey h1]
              simp only [Result.andThen_ok, Sem.run_bind, run_setObj_at _ hw, hput, Sem.run_pure]
            | some y =>
              obtain ⟨j, v, b⟩ := y
              obtain ⟨cv, e', rfl, g2, _, g4, g5, g6, g7⟩ := h2
              simp only at hH
              subst hH
              refine .vw (cv := .tuple #[]) (w' := w.putObj l.c (.map (ces.eraseIdxIfInBounds j) clock)) ?_ (.raw _) (h.putMap hg hl' ?_) (Ren.le_refl _)
              · simp only [Builtin.delete_, List.getElem?_toArray, List.getElem?_cons_zero, List.getElem?_cons_succ, Sem.run_bind, run_underlying' hu, Result.andThen_ok, hcm, hck, run_checkKey_int hkey, run_getObj_at hw]
                rw [run_findKey hkey h1]
                simp only [Result.andThen_ok, Sem.run_bind, run_setObj_at _ hw, Sem.run_pure]
              · have hj : j < ces.size := by
                  have := (List.getElem?_eq_some_iff.1 g4).1
                  simpa using this
                rw [show (ces.eraseIdxIfInBounds j).toList = ces.toList.eraseIdx j by simp [Array.eraseIdxIfInBounds, hj]]
                exact EntriesRel.erase j hrel
          · cases hd
        · cases hd
      · cases hc
    · cases hc
  · cases hc
theorem op_cap (h : HRel P B ρ H w) (hev : EvOk ρ tm ce) {c : Call} (hop : o.op = .call c) (hb : c.callee = .builtin .cap) (hc : cCap P c.args.toList c.argTypes.toList = some ao) (ha : aOp tm ao H = some (av, H')) :
    OpRes .any P B ρ H w (execOp ce o) av H' := by
  rw [exec_builtin hop hb]
  unfold cCap at hc
  split at hc
  · rename_i x t hargs htys
    have e1 : c.args = #[x] := by rw [← Array.toArray_toList (xs := c.args), hargs]
    have e2 : c.argTypes = #[t] := by rw [← Array.toArray_toList (xs := c.argTypes), htys]
    rw [e1, e2]
    have hmap : (#[x]).map ce = #[ce x] := by simp
    rw [hmap]
    split at hc
    · rename_i e hu
      obtain ⟨ax, hx, rfl⟩ := Option.map_eq_some_iff.1 hc
      have hxv := hev _ _ hx
      simp only [aOp] at ha
      obtain ⟨v, hv, heq⟩ := Option.map_eq_some_iff.1 ha
      cases heq
      simp only [builtin]
      unfold aCap at hv
      split at hv
      · rename_i hxe
        cases hv
        rw [hxe] at hxv
        obtain ⟨l, a, cap, hl, hcs, hk, hlen, hex, hor⟩ := hxv.slice_inv
        have := hex rfl
        subst this
        refine .v h (cv := goInt cap) ?_ (.raw _)
        rw [hcs]
        simp [Builtin.cap_, run_underlying' hu]
      · rename_i hxe
        cases hv
        rw [hxe] at hxv
        refine .v h (cv := goInt 0) ?_ (.raw _)
        rw [hxv.raw_inv]
        simp [Builtin.cap_, run_underlying' hu]
      · cases hv
    · cases hc
  · cases hc
set_option maxHeartbeats 1000000 in
theorem op_appendZ (h : HRel P B ρ H w) (hev : EvOk ρ tm ce) {c : Call} (hop : o.op = .call c) (hb : c.callee = .builtin .append) (hc : cAppendZ P c.args.toList c.argTypes.toList = some ao) (ha : aOp tm ao H = some (av, H')) :
    OpRes .any P B ρ H w (execOp ce o) av H' := by
  rw [exec_builtin hop hb]
  unfold cAppendZ at hc
  split at hc
  · rename_i s x t u hargs htys
    rw [arr2 hargs, arr2 htys]
    split at hc
    · rename_i e kn ht hu
      simp only [Option.bind_eq_some_iff] at hc
      obtain ⟨i, hi, z, hz, hc⟩ := hc
      obtain ⟨hzl, hc⟩ := ite_some hc
      simp only [beq_iff_eq] at hzl
      simp only [Option.bind_eq_some_iff, Option.map_eq_some_iff] at hc
      obtain ⟨as, hs, ax, hx, rfl⟩ := hc
      have hsv := hev _ _ hs
      have hxv := hev _ _ hx
      have hzr := (aconst_rel ρ z).cells
      have hzl' := hzr.length
      have hzc : z.cells.size = i.size := by simp at hzl'; omega
      have hmap : (#[s, x]).map ce = #[ce s, ce x] := by simp
      rw [hmap]
      simp only [builtin]
      simp only [aOp] at ha
      unfold aAppendZ at ha
      split at ha
      · rename_i A ver off len kcap esz' l hse hxe
        obtain ⟨hcnd, ha2⟩ := ite_some ha
        obtain ⟨hes, hez, hbz, hl0, hkc, hbig⟩ := hcnd
        subst hes
        obtain ⟨cells, hrow, ha3⟩ := Option.bind_eq_some_iff.1 ha2
        obtain ⟨hcl, ha4⟩ := ite_some ha3
        cases ha4
        rw [hse] at hsv
        rw [hxe] at hxv
        have hcells : aCells H i.size (.slice A ver off len kcap true i.size) = some ((cells.drop off).take (len * i.size)) := by
          simp only [aCells, hrow, Option.bind_some, hcl, if_true]
        obtain ⟨colds, hor, horel, holen, xa, xcap, hcx⟩ := firstCells_run (P := P) h.drew hsv hcells rfl
        obtain ⟨lc, a, cap, hlc, hcs, hk, hlen, hex, _⟩ := hsv.slice_inv
        have hq : xa = some a ∧ xcap = kcap := by
          have := hcx.symm.trans hcs
          simp only [Value.slice.injEq, true_and] at this
          exact ⟨this.1, this.2.trans (hex rfl)⟩
        rw [hq.1, hq.2] at hcx
        have hk2 : (l.toNat : Int) = l := Int.toNat_of_nonneg (by omega)
        have hmax := Nat.le_mul_of_pos_right (len + l.toNat) hbz
        have hrun := Lib.run_append_grow_zeros (P := P) w t u o.type e i z .i64 kn ht hu hi hz (some a) len kcap colds (by rw [← hcx]; exact hor) l.toNat (by omega) hez hkc (by omega) (by
          have := Nat.mul_le_mul_right i.bytes (show l.toNat ≤ len + l.toNat by omega); omega) (by
          have h1 := nextslicecap_le hkc
          have h2 := Nat.mul_le_mul_right i.bytes h1
          rw [Nat.mul_assoc] at h2; omega)
        rw [hk2] at hrun
        have hcap := Go.grownCap_ge w (len + l.toNat) kcap e
        have hzero := zeros_rel hzr l.toNat
        have hze : (Array.range (l.toNat * z.cells.toList.length)).map (fun x => z.cells.toList.toArray[x % z.cells.toList.toArray.size]!) = Builtin.zeroCells z.cells l.toNat := by
          simp [Builtin.zeroCells]
        rw [hze] at hzero
        have hzz : (Builtin.zeroCells z.cells l.toNat).toList.toArray = Builtin.zeroCells z.cells l.toNat := Array.toArray_toList
        rw [← hzz] at hrun
        have hsize : (colds.toArray ++ (Builtin.zeroCells z.cells l.toNat).toList.toArray ++ Builtin.zeroCells z.cells (grownCap w (len + l.toNat) kcap e - (len + l.toNat))).size = grownCap w (len + l.toNat) kcap e * i.size := by
          have hcl2 := horel.length
          have e1 : (grownCap w (len + l.toNat) kcap e - (len + l.toNat)) * i.size = grownCap w (len + l.toNat) kcap e * i.size - (len + l.toNat) * i.size := Nat.sub_mul _ _ _
          have e2 : (len + l.toNat) * i.size = len * i.size + l.toNat * i.size := Nat.add_mul _ _ _
          have e3 : (len + l.toNat) * i.size ≤ grownCap w (len + l.toNat) kcap e * i.size := Nat.mul_le_mul_right _ hcap
          simp only [Array.size_append, zeroCells_size, hzc, List.size_toArray, Array.length_toList]
          omega
        have f1 := VRel.slice (ρ := ρ.put H.next 0 ⟨w.heap.size, 0, (colds.toArray ++ (Builtin.zeroCells z.cells l.toNat).toList.toArray ++ Builtin.zeroCells z.cells (grownCap w (len + l.toNat) kcap e - (len + l.toNat))).size⟩) (off := 0) (len := len + l.toNat) (kcap := len + l.toNat) (cap := grownCap w (len + l.toNat) kcap e) (ex := false) (esz := i.size) (Ren.put_same _ _ _ _) hcap (Nat.le_refl _) (fun h => by cases h) (by dsimp only; omega)
        have f2 := h.drew.newRow (e := e) (grown_cells horel hzero (Builtin.zeroCells z.cells (grownCap w (len + l.toNat) kcap e - (len + l.toNat))))
        rw [hxv.raw_inv, hcx]
        simp only [Nat.add_zero] at f1
        exact .vw hrun f1 f2 (Ren.put_le (h.fresh _ _ (Nat.le_refl _)))
      · cases ha
    · cases hc
  · cases hc
theorem aOp_modes (h : HRel P B ρ H w) (hev : EvOk ρ tm ce) (hc : cOp P o.op = some ao) (ha : aOp tm ao H = some (av, H')) :
    OpRes (opMode o.op) P B ρ H w (execOp ce o) av H' := by
  cases hop : o.op with
  | move x =>
    rw [hop] at hc
    obtain ⟨ax, hx, rfl⟩ := Option.map_eq_some_iff.1 hc
    simp only [aOp] at ha; cases ha
    exact op_move h hev (.inl hop) hx
  | assign x =>
    rw [hop] at hc
    obtain ⟨ax, hx, rfl⟩ := Option.map_eq_some_iff.1 hc
    simp only [aOp] at ha; cases ha
    exact op_move h hev (.inr hop) hx
  | pick c a b => exact op_pick h hev hop hc ha
  | alloc t => exact op_alloc h hop hc ha
  | box t x => exact op_box h hev hop hc ha
  | build t ps => exact op_build h hev hop hc ha
  | buildSlice t n ps => exact op_buildSlice h hev hop hc ha
  | load t x => exact op_load h hev hop hc ha
  | store t a x => exact op_store h hev hop hc ha
  | nilCheck x => exact op_nilCheck h hev hop hc ha
  | binOp op t x y yt => exact op_bin h hev hop hc ha
  | unOp op t x => exact op_un h hev hop hc ha
  | convert s d x => exact op_conv h hev hop hc ha
  | makeFunc fn f c => exact op_makeFunc h hev hop hc ha
  | makeInterface t x => exact op_makeIface h hev hop hc ha
  | fieldAddr s x f => exact op_ptrAdd h hev hop hc ha
  | field s x f => exact op_field h hev hop hc ha
  | indexAddr t x i => exact op_idxAddr h hev hop hc ha
  | index t x i => exact op_index h hev hop hc ha
  | slice t x lo hi mx => exact op_slice h hev hop hc ha
  | makeSlice t l c => exact op_makeSlice h hev hop hc ha
  | makeMap t r => exact op_makeMap h hop hc ha
  | lookup t x k ok => exact op_lookup h hev hop hc ha
  | mapUpdate t m k x => exact op_mapUpdate h hev (.inl hop) hc ha
  | insert t m k x => exact op_mapUpdate h hev (.inr hop) hc ha
  | mapEntry t m k => exact op_mapEntry h hev hop hc ha
  | entryStore t m s x => exact op_entryStore h hev hop hc ha
  | extract x i => exact op_extract h hev hop hc ha
  | range t x => exact op_iterNew h hev hop hc ha
  | next x str => exact op_iterNext h hev hop hc ha
  | entry x => exact op_iterEntry h hev hop hc ha
  | sliceToArrayPointer a x => exact op_s2ap h hev hop hc ha
  | typeAssert x xt a ok => exact op_assert h hev hop hc ha
  | call c =>
    rw [hop] at hc
    change cCall P c = some ao at hc
    unfold cCall at hc
    split at hc
    · obtain ⟨f, _, hc⟩ := Option.bind_eq_some_iff.1 hc
      obtain ⟨as, _, rfl⟩ := Option.map_eq_some_iff.1 hc
      cases ha
    · obtain ⟨as, _, rfl⟩ := Option.map_eq_some_iff.1 hc
      cases ha
    · cases hc
    · rename_i b hb
      unfold cBuiltin at hc
      split at hc
      · rw [show opMode (.call c) = .any by simp [opMode, hb]]
        split at hc
        · exact op_appendZ h hev hop hb hc ha
        · exact op_append h hev hop hb hc ha
      · rw [show opMode (.call c) = .any by simp [opMode, hb]]; exact op_cap h hev hop hb hc ha
      · rw [show opMode (.call c) = .any by simp [opMode, hb]]; exact op_copy h hev hop hb hc ha
      · rw [show opMode (.call c) = .quiet by simp [opMode, hb]]; exact op_len h hev hop hb hc ha
      · rw [show opMode (.call c) = .any by simp [opMode, hb]]; exact op_delete h hev hop hb hc ha
      · rw [show opMode (.call c) = .any by simp [opMode, hb]]; exact op_clear h hev hop hb hc ha
      · rw [show opMode (.call c) = .quiet by simp [opMode, hb]]; exact op_minmax false h hev hop hb hc ha
      · rw [show opMode (.call c) = .quiet by simp [opMode, hb]]; exact op_minmax true h hev hop hb hc ha
      · cases hc
  | _ => rw [hop] at hc; cases hc
theorem OpRes.any {m : Mode} {H0 : AHeap} {s : Sem Next} (h : OpRes m P B ρ H0 w s av H') : OpRes .any P B ρ H0 w s av H' := h.weak
theorem aOp_sound (h : HRel P B ρ H w) (hev : EvOk ρ tm ce) (hc : cOp P o.op = some ao) (ha : aOp tm ao H = some (av, H')) : OpRes .any P B ρ H w (execOp ce o) av H' := (aOp_modes h hev hc ha).weak
end Go.Vm
