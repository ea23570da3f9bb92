/- The abstract machine, part 6: the operations are sound (aggregates, cells, new blocks). -/
import Derived.Test.YthbjfkkjmecaaaaT02
import Derived.Laws.Cells
set_option linter.unusedVariables false
set_option linter.unusedSimpArgs false
namespace Go.Vm
open Go
variable {P : Program} {B : Base} {ρ ρ' : Ren} {H H' : AHeap} {w w' : World} {tm : List AVal} {ce : Operand → Value}
theorem partSz_some {t : TypeId} {a : Bool} {n : Nat} (h : partSz P t = some (a, n)) : ∃ d m, P.underlying t = some d ∧ szOf P t = some m ∧ a = isAggD d ∧ n = if a then m else 1 := by
  unfold partSz shOf at h
  obtain ⟨⟨a', n'⟩, h1, h2⟩ := Option.map_eq_some_iff.1 h
  obtain ⟨d, hd, h3⟩ := Option.bind_eq_some_iff.1 h1
  obtain ⟨m, hm, h4⟩ := Option.map_eq_some_iff.1 h3
  cases h4
  simp at h2
  obtain ⟨rfl, rfl⟩ := h2
  exact ⟨d, _, hd, hm, rfl, rfl⟩
theorem extract_rel {cs : List AVal} {vs : List Value} (h : VRels ρ cs vs) (off n : Nat) : VRel ρ (.agg ((cs.drop off).take n)) (.agg (vs.toArray.extract off (off + n))) := by
  have : vs.toArray.extract off (off + n) = ((vs.drop off).take n).toArray := by simp
  rw [this]
  exact .agg ((h.drop off).take n)
theorem run_part {t : TypeId} {a : Bool} {n : Nat} (ht : partSz P t = some (a, n)) {cs : List AVal} {vs : List Value} (h : VRels ρ cs vs) {off : Nat} {av : AVal} (ha : aPart a cs off n = some av) :
    ∃ cv, (part t vs.toArray off).run P w = .ok cv w ∧ VRel ρ av cv := by
  obtain ⟨d, m, hd, hm, rfl, rfl⟩ := partSz_some ht
  unfold aPart at ha
  cases hagg : isAggD d with
  | true =>
    simp only [hagg, if_true] at ha
    cases ha
    refine ⟨_, ?_, extract_rel h off m⟩
    simp [part, run_isAgg' hd, hagg, run_sizeOf' hm]
  | false =>
    simp only [hagg, Bool.false_eq_true, if_false] at ha
    obtain ⟨cv, h1, h2⟩ := h.get _ _ ha
    refine ⟨cv, ?_, h2⟩
    simp [part, run_isAgg' hd, hagg, h1]
theorem run_loadCells_rel {ρ : Ren} {l : Loc} {cells : List AVal} (h : RowAt ρ w l cells) {off n : Nat} (hn : off + n ≤ cells.length) :
    ∃ cvs, (loadCells ⟨l.c, l.s + off, none⟩ n).run P w = .ok cvs.toArray w ∧ VRels ρ ((cells.drop off).take n) cvs := by
  obtain ⟨arr, e, fz, ha, _, hc⟩ := h
  have key : ∀ j, j < n → ∃ cv, arr[l.s + off + j]? = some cv := fun j hj => by
    obtain ⟨cv, h1, _⟩ := hc (off + j) _ (List.getElem?_eq_getElem (by omega))
    exact ⟨cv, by rw [← h1]; congr 1; omega⟩
  refine ⟨(List.range n).map fun j => (arr[l.s + off + j]?).getD undef, ?_, VRels.of_get (by simp; omega) fun i v hv => ?_⟩
  · rw [run_loadCells w _ n (fun j => (arr[l.s + off + j]?).getD undef) fun j hj => ?_]
    obtain ⟨cv, h1⟩ := key j hj
    rw [add_none, cell_of_row ha, h1]; rfl
  · have hi : i < n := by
      have := (List.getElem?_eq_some_iff.1 hv).1
      simp at this; omega
    rw [List.getElem?_take, if_pos hi, List.getElem?_drop] at hv
    obtain ⟨cv, h1, h2⟩ := hc _ _ hv
    refine ⟨cv, ?_, h2⟩
    rw [List.getElem?_map, List.getElem?_range hi]
    simp only [Option.map_some]
    rw [show l.s + off + i = l.s + (off + i) by omega, h1]; rfl
theorem run_load_rel {l : Loc} {cells : List AVal} (h : RowAt ρ w l cells) {off : Nat} {v : AVal} (hv : cells[off]? = some v) :
    ∃ cv, (load ⟨l.c, l.s + off, none⟩).run P w = .ok cv w ∧ VRel ρ v cv := by
  obtain ⟨arr, e, fz, ha, _, hc⟩ := h
  obtain ⟨cv, h1, h2⟩ := hc off v hv
  exact ⟨cv, by rw [run_load, cell_of_row ha, h1], h2⟩
theorem run_firstCells (h : HRel P B ρ H w) {esz : Nat} {x : AVal} {cx : Value} {cells : List AVal} {m : Nat} (hx : VRel ρ x cx) (hc : aCells H esz x = some cells) (hm : aLen x = some m) :
    ∃ a cap cvs, cx = .slice a m cap ∧ ((a = none ∧ m = 0) ∨ ∃ ad, a = some ad ∧ (∀ k, k ≤ m → (loadCells ad (k * esz)).run P w = .ok (cvs.take (k * esz)).toArray w)) ∧ VRels ρ cells cvs ∧ cells.length = m * esz := by
  unfold aCells at hc
  split at hc
  · cases hc
    simp [aLen] at hm; subst hm
    cases hx.raw_inv
    exact ⟨none, 0, [], rfl, .inl ⟨rfl, rfl⟩, .nil, by simp⟩
  · rename_i A ver off len kcap ex esz'
    simp [aLen] at hm; subst hm
    obtain ⟨row, hr, hif⟩ := Option.bind_eq_some_iff.1 hc
    obtain ⟨l, a, cap, hl, rfl, hk, hlen, _, hor⟩ := hx.slice_inv
    split at hif
    · rename_i hfit
      cases hif
      rcases hor with ⟨rfl, hn⟩ | ⟨rfl, _, _⟩
      · obtain ⟨cvs, h1, h2⟩ := run_loadCells_rel (P := P) (h.rowAt hr hl) hfit
        refine ⟨some _, cap, cvs, rfl, .inr ⟨_, rfl, fun k hkm => ?_⟩, h2, by simp; omega⟩
        have hle : k * esz ≤ len * esz := Nat.mul_le_mul_right _ hkm
        obtain ⟨cvs', h3, h4⟩ := run_loadCells_rel (P := P) (h.rowAt hr hl) (off := off) (n := k * esz) (by omega)
        rw [h3]
        obtain ⟨arr, e, fz, ha, _, hc⟩ := h.rowAt hr hl
        congr 2
        apply List.ext_getElem?
        intro i
        rw [List.getElem?_take]
        have hl1 := h2.length
        have hl4 := h4.length
        simp at hl1 hl4
        by_cases hi : i < k * esz
        · rw [if_pos hi]
          have e1 : (loadCells ⟨l.c, l.s + off, none⟩ (len * esz)).run P w = .ok cvs.toArray w := h1
          have key : ∀ (n : Nat) (cs : List Value), off + n ≤ row.length → (loadCells ⟨l.c, l.s + off, none⟩ n).run P w = .ok cs.toArray w → ∀ j, j < n → cs[j]? = arr[l.s + off + j]? := fun n cs hn hrun j hj => by
            rw [run_loadCells w _ n (fun j => (arr[l.s + off + j]?).getD undef) fun j hj => by
              obtain ⟨cv, h1, _⟩ := hc (off + j) _ (List.getElem?_eq_getElem (by omega))
              rw [add_none, cell_of_row ha, show l.s + off + j = l.s + (off + j) by omega, h1]; rfl] at hrun
            simp only [Result.ok.injEq, and_true] at hrun
            have hcs : cs = (List.range n).map fun j => (arr[l.s + off + j]?).getD undef := by
              have := congrArg Array.toList hrun
              simpa using this.symm
            rw [hcs, List.getElem?_map, List.getElem?_range hj]
            obtain ⟨cv, h1, _⟩ := hc (off + j) _ (List.getElem?_eq_getElem (by omega))
            simp only [Option.map_some]
            rw [show l.s + off + j = l.s + (off + j) by omega, h1]; rfl
          rw [key _ _ (by omega) h3 i hi, key _ _ hfit e1 i (by omega)]
        · rw [if_neg hi, List.getElem?_eq_none (by omega)]
      · refine ⟨some a, cap, [], rfl, .inr ⟨a, rfl, fun k hk => ?_⟩, ?_, by simp⟩
        · have : k = 0 := by omega
          subst this
          simp [loadCells, loadCellsFrom]
        · simp; exact .nil
    · cases hif
  · cases hc
theorem CellsAt.of_rels {cells : List AVal} {vs : List Value} (h : VRels ρ cells vs) : CellsAt ρ vs.toArray 0 cells := fun i v hv => by
  obtain ⟨cv, h1, h2⟩ := h.get i v hv
  exact ⟨cv, by simpa using h1, h2⟩
theorem newRow_ptr (h : HRel P B ρ H w) {cells : List AVal} {vs : List Value} (e : TypeId) (hr : VRels ρ cells vs) :
    (newRow e vs.toArray).run P w = .ok ⟨w.heap.size, 0, none⟩ (w.alloc (.cells vs.toArray e)) ∧ HRel P B (ρ.put H.next 0 ⟨w.heap.size, 0, objN (.cells vs.toArray e)⟩) (H.push (.row [some (0, cells)])) (w.alloc (.cells vs.toArray e)) ∧ ρ.le (ρ.put H.next 0 ⟨w.heap.size, 0, objN (.cells vs.toArray e)⟩) ∧
      (ρ.put H.next 0 ⟨w.heap.size, 0, objN (.cells vs.toArray e)⟩) H.next 0 = some ⟨w.heap.size, 0, vs.toArray.size⟩ :=
  ⟨by simp [newRow], h.newRow (CellsAt.of_rels hr), Ren.put_le (h.fresh _ _ (Nat.le_refl _)), Ren.put_same _ _ _ _⟩
theorem fill_rel (place : Nat → Option (Nat × Nat)) : ∀ (parts : List (Nat × Operand)) {aps : List (Nat × Nat × AOpd)} {cells : List AVal} {vs : List Value} {out : List AVal}, EvOk ρ tm ce →
    cParts place parts = some aps → VRels ρ cells vs → aFill cells (aps.map fun (o, n, x) => (o, n, ev tm x)) = some out →
    ∃ cvs, Instr.fill place vs.toArray (parts.map fun (i, x) => (i, ce x)) = some cvs.toArray ∧ VRels ρ out cvs
  | [], aps, cells, vs, out, hev, hp, hr, ho => by
    simp [cParts] at hp; subst hp
    simp [aFill] at ho; subst ho
    exact ⟨vs, rfl, hr⟩
  | (i, x) :: parts, aps, cells, vs, out, hev, hp, hr, ho => by
    simp only [cParts, Option.bind_eq_some_iff, Option.map_eq_some_iff] at hp
    obtain ⟨⟨o, n⟩, hpl, y, hy, r, hr', rfl⟩ := hp
    simp only [List.map_cons, aFill] at ho
    split at ho
    · rename_i hfit
      have hv := (hev _ _ hy).cells
      have hlen := hv.length
      have hsz : (ce x).cells.size = n := by rw [← hfit.1, ← hlen]; simp
      have hrl := hr.length
      have hspl : VRels ρ (spl cells o (ev tm y).cells) (vs.take o ++ ((ce x).cells.toList ++ vs.drop (o + (ce x).cells.toList.length))) := by
        unfold spl
        rw [hlen]
        exact (hr.take o).append (hv.append (hr.drop _))
      obtain ⟨cvs, h1, h2⟩ := fill_rel place parts hev hr' hspl ho
      refine ⟨cvs, ?_, h2⟩
      simp only [List.map_cons, Instr.fill, hpl]
      rw [if_neg (by simp; omega)]
      rw [← h1]
      congr 1
      have hfold : ∀ (us : List Value) (j : Nat) (acc : Array Value), ((us.zipIdx j).foldl (fun cs (c, j) => cs.setIfInBounds (o + j) c) acc) = wr acc (o + j) us := by
        intro us
        induction us with
        | nil => intro j acc; rfl
        | cons u us ih =>
          intro j acc
          simp only [List.zipIdx_cons, List.foldl_cons]
          rw [ih (j + 1)]
          rfl
      rw [← Array.foldl_toList, Array.toList_zipIdx]
      have := hfold (ce x).cells.toList 0 vs.toArray
      rw [this, wr_spl _ _ _ (by simp; omega)]
      rfl
    · cases ho
end Go.Vm
namespace Go.Vm
open Go
variable {P : Program} {B : Base} {ρ ρ' : Ren} {H H' : AHeap} {w w' : World} {tm : List AVal} {ce : Operand → Value} {o : Oper} {av : AVal} {ao : AOp}
theorem ptr_new {A : Nat} {s c n : Nat} (h : ρ A 0 = some ⟨c, s, n⟩) : VRel ρ (.ptr A 0 0) (.pointer (some ⟨c, s, none⟩)) := VRel.ptr (off := 0) h
theorem op_move (h : HRel P B ρ H w) (hev : EvOk ρ tm ce) {x : Operand} (hop : o.op = .move x ∨ o.op = .assign x) {ax : AOpd} (hx : cOpd x = some ax) : OpRes .quiet P B ρ H w (execOp ce o) (ev tm ax) H := by
  refine .pure h (cv := ce x) ?_ (hev _ _ hx)
  rcases hop with e | e <;> simp [execOp, e]
theorem op_pick (h : HRel P B ρ H w) (hev : EvOk ρ tm ce) {c a b : Operand} (hop : o.op = .pick c a b) (hc : cOp P o.op = some ao) (ha : aOp tm ao H = some (av, H')) : OpRes .quiet P B ρ H w (execOp ce o) av H' := by
  rw [hop] at hc
  simp only [cOp, Option.bind_eq_some_iff, Option.map_eq_some_iff] at hc
  obtain ⟨c', h1, a', h2, b', h3, rfl⟩ := hc
  simp only [aOp] at ha
  split at ha
  · rename_i t ht
    cases ha
    have hcv := hev _ _ h1
    rw [ht] at hcv
    refine .pure h (cv := if t then ce a else ce b) ?_ ?_
    · simp [execOp, hop, hcv.raw_inv, asBool]
    · cases t
      · exact hev _ _ h3
      · exact hev _ _ h2
  · cases ha
theorem op_alloc (h : HRel P B ρ H w) {t : TypeId} (hop : o.op = .alloc t) (hc : cOp P o.op = some ao) (ha : aOp tm ao H = some (av, H')) : OpRes .makes P B ρ H w (execOp ce o) av H' := by
  rw [hop] at hc
  simp only [cOp, Option.map_eq_some_iff] at hc
  obtain ⟨z, hz, rfl⟩ := hc
  simp only [aOp] at ha
  cases ha
  obtain ⟨h1, h2, h3, h4⟩ := newRow_ptr (P := P) h t (aconst_rel ρ z).cells
  have he : execOp ce o = (do Pure.pure (.value (← Instr.alloc t true (.tuple #[])))) := by simp [execOp, hop]
  rw [he]
  refine .mk (cv := .pointer (some ⟨w.heap.size, 0, none⟩)) ?_ (show Thaw (.cells _ _) from rfl) (ptr_new h4) h2 h3
  simp only [Instr.alloc, Sem.run_bind, run_zeroValue' hz, Result.andThen_ok, newVar]
  simp at h1
  simp [h1]
theorem op_box (h : HRel P B ρ H w) (hev : EvOk ρ tm ce) {t : TypeId} {x : Operand} (hop : o.op = .box t x) (hc : cOp P o.op = some ao) (ha : aOp tm ao H = some (av, H')) : OpRes .makes P B ρ H w (execOp ce o) av H' := by
  rw [hop] at hc
  simp only [cOp, Option.map_eq_some_iff] at hc
  obtain ⟨ax, hx, rfl⟩ := hc
  simp only [aOp] at ha
  cases ha
  obtain ⟨h1, h2, h3, h4⟩ := newRow_ptr (P := P) h t (hev _ _ hx).cells
  have he : execOp ce o = (do Pure.pure (.value (← Instr.box t (ce x)))) := by simp [execOp, hop]
  rw [he]
  refine .mk (cv := .pointer (some ⟨w.heap.size, 0, none⟩)) ?_ (show Thaw (.cells _ _) from rfl) (ptr_new h4) h2 h3
  simp only [Instr.box, Sem.run_bind, newVar]
  simp at h1
  simp [h1]
theorem aparts_map (ce : Operand → Value) (parts : Array (Nat × Operand)) : (parts.map fun (i, x) => (i, ce x)).toList = parts.toList.map fun (i, x) => (i, ce x) := by simp
theorem mapM_sizes (fs : List Field) {ns : List Nat} (h : fs.mapM (fun f => szOf P f.type) = some ns) : ∀ f ∈ fs, ∃ n, szOf P f.type = some n := by
  induction fs generalizing ns with
  | nil => intro f hf; cases hf
  | cons f fs ih =>
    simp only [List.mapM_cons, Option.bind_eq_bind, Option.bind_eq_some_iff] at h
    obtain ⟨n, hn, ms, hms, _⟩ := h
    intro g hg
    rcases List.mem_cons.1 hg with rfl | hg
    · exact ⟨n, hn⟩
    · exact ih hms g hg
theorem run_mapM_places : ∀ (fs : List Field), (∀ f ∈ fs, ∃ n, szOf P f.type = some n) →
    (fs.mapM (m := Sem) fun f => do Pure.pure (f.offset, ← sizeOf f.type)).run P w = .ok (fs.map fun f => (f.offset, (szOf P f.type).getD 0)) w
  | [], _ => by simp
  | f :: fs, h => by
    obtain ⟨n, hn⟩ := h f (by simp)
    simp only [List.mapM_cons, Sem.run_bind, run_sizeOf' hn, Result.andThen_ok, Sem.run_pure, List.map_cons, hn]
    rw [run_mapM_places fs fun g hg => h g (by simp [hg])]
    simp
theorem op_build (h : HRel P B ρ H w) (hev : EvOk ρ tm ce) {t : TypeId} {parts : Array (Nat × Operand)} (hop : o.op = .build t parts) (hc : cOp P o.op = some ao) (ha : aOp tm ao H = some (av, H')) :
    OpRes .quiet P B ρ H w (execOp ce o) av H' := by
  rw [hop] at hc
  simp only [cOp, Option.bind_eq_some_iff] at hc
  obtain ⟨z, hz, hc⟩ := hc
  have he : execOp ce o = (do Pure.pure (.value (← Instr.build t (parts.map fun (i, x) => (i, ce x))))) := by simp [execOp, hop]
  rw [he]
  split at hc
  · rename_i fs hu
    simp only [Option.bind_eq_some_iff, Option.map_eq_some_iff] at hc
    obtain ⟨ns, hns, aps, haps, rfl⟩ := hc
    simp only [aOp, Option.map_eq_some_iff] at ha
    obtain ⟨_, ⟨out, hout, rfl⟩, heq⟩ := ha
    cases heq
    obtain ⟨cvs, h1, h2⟩ := fill_rel (fieldPlaces P fs) parts.toList hev haps (aconst_rel ρ z).cells hout
    refine .v h (cv := .agg cvs.toArray) ?_ (.agg h2)
    have hsz := mapM_sizes (P := P) fs.toList hns
    have hpl : ∀ i, (fs.toList.map fun f => (f.offset, (szOf P f.type).getD 0)).toArray[i]? = fieldPlaces P fs i := fun i => by
      unfold fieldPlaces
      rw [List.getElem?_toArray, List.getElem?_map, Array.getElem?_toList]
      cases hf : fs[i]? with
      | none => rfl
      | some f =>
        obtain ⟨n, hn⟩ := hsz f (by
          obtain ⟨h1, h2⟩ := Array.getElem?_eq_some_iff.1 hf
          rw [← h2]; simp)
        simp [hn]
    have hmap : (fs.mapM (m := Sem) fun f => do Pure.pure (f.offset, ← sizeOf f.type)).run P w = .ok (fs.toList.map fun f => (f.offset, (szOf P f.type).getD 0)).toArray w := by
      rw [Array.mapM_eq_mapM_toList]
      rw [Sem.run_map, run_mapM_places fs.toList hsz]
      rfl
    unfold Instr.build
    simp only [Sem.run_bind, run_zeroValue' hz, Result.andThen_ok, run_underlying' hu]
    rw [hmap]
    simp only [Result.andThen_ok]
    have hfun : (fun i => (fs.toList.map fun f => (f.offset, (szOf P f.type).getD 0)).toArray[i]?) = fieldPlaces P fs := funext hpl
    simp only [aparts_map]
    rw [hfun]
    simp at h1
    simp [h1]
  · rename_i n e hu
    simp only [Option.bind_eq_some_iff, Option.map_eq_some_iff] at hc
    obtain ⟨k, hk, aps, haps, rfl⟩ := hc
    simp only [aOp, Option.map_eq_some_iff] at ha
    obtain ⟨_, ⟨out, hout, rfl⟩, heq⟩ := ha
    cases heq
    obtain ⟨cvs, h1, h2⟩ := fill_rel (fun i => some (i * k, k)) parts.toList hev haps (aconst_rel ρ z).cells hout
    refine .v h (cv := .agg cvs.toArray) ?_ (.agg h2)
    unfold Instr.build
    simp only [Sem.run_bind, run_zeroValue' hz, Result.andThen_ok, run_underlying' hu, run_sizeOf' hk, aparts_map]
    simp at h1
    simp [h1]
  · cases hc
theorem repl_length {n : Nat} {l : List AVal} : (repl n l).length = n * l.length := by
  induction n with
  | zero => simp [repl]
  | succ n ih => simp [repl, ih, Nat.succ_mul]; omega
theorem repl_get : ∀ (n : Nat) (l : List AVal) (i : Nat), i < n * l.length → (repl n l)[i]? = l[i % l.length]?
  | 0, l, i, h => by simp at h
  | n + 1, l, i, h => by
    simp only [repl, List.getElem?_append]
    rw [Nat.succ_mul] at h
    split
    · rename_i hi; rw [Nat.mod_eq_of_lt hi]
    · rename_i hi
      rw [repl_get n l (i - l.length) (by omega)]
      rw [Nat.mod_eq_sub_mod (a := i) (by omega)]
theorem zeros_rel {l : List AVal} {vs : List Value} (h : VRels ρ l vs) (n : Nat) : VRels ρ (repl n l) ((Array.range (n * vs.length)).map (vs.toArray[· % vs.toArray.size]!)).toList := by
  have hl := h.length
  refine VRels.of_get (by simp [repl_length, hl]) fun i v hv => ?_
  have hi : i < n * l.length := by
    have := (List.getElem?_eq_some_iff.1 hv).1
    rwa [repl_length] at this
  rw [repl_get n l i hi] at hv
  obtain ⟨cv, h1, h2⟩ := h.get _ _ hv
  refine ⟨cv, ?_, h2⟩
  have h3 : i < n * vs.length := by rw [hl]; exact hi
  simp only [Array.toList_map, List.getElem?_map, Array.toList_range, List.getElem?_range h3, Option.map_some, List.size_toArray, List.getElem!_toArray]
  rw [hl, List.getElem!_eq_getElem?_getD, h1]
  rfl
theorem slice_new {A n len cap esz : Nat} {ex : Bool} {c : Nat} (h : ρ A 0 = some ⟨c, 0, n⟩) (hl : len ≤ cap) (hn : cap * esz ≤ n) : VRel ρ (.slice A 0 0 len cap ex esz) (.slice (some ⟨c, 0, none⟩) len cap) := by
  have := VRel.slice (off := 0) (len := len) (kcap := cap) (cap := cap) (ex := ex) (esz := esz) h (Nat.le_refl _) hl (fun _ => rfl) (by dsimp only; omega)
  simpa using this
theorem aFill_length : ∀ (ps : List (Nat × Nat × AVal)) (cells out : List AVal), aFill cells ps = some out → out.length = cells.length
  | [], cells, out, h => by simp [aFill] at h; rw [h]
  | (o, n, v) :: ps, cells, out, h => by
    simp only [aFill] at h
    split at h
    · rename_i hf
      rw [aFill_length ps _ _ h, spl_length _ _ _ (by omega)]
    · cases h
theorem op_buildSlice (h : HRel P B ρ H w) (hev : EvOk ρ tm ce) {t : TypeId} {len : Nat} {parts : Array (Nat × Operand)} (hop : o.op = .buildSlice t len parts) (hc : cOp P o.op = some ao) (ha : aOp tm ao H = some (av, H')) :
    OpRes .makes P B ρ H w (execOp ce o) av H' := by
  rw [hop] at hc
  simp only [cOp] at hc
  have he : execOp ce o = (do Pure.pure (.value (← Instr.buildSlice t len (parts.map fun (i, x) => (i, ce x))))) := by simp [execOp, hop]
  rw [he]
  split at hc
  · rename_i e hu
    simp only [Option.bind_eq_some_iff] at hc
    obtain ⟨n, hn, z, hz, hc⟩ := hc
    split at hc
    · rename_i hcond
      simp only [Bool.and_eq_true, decide_eq_true_eq, beq_iff_eq] at hcond
      obtain ⟨aps, haps, rfl⟩ := Option.map_eq_some_iff.1 hc
      simp only [aOp, Option.map_eq_some_iff] at ha
      obtain ⟨out, hout, heq⟩ := ha
      cases heq
      have hzr := (aconst_rel ρ z).cells
      have hzl := hzr.length
      have hzero := zeros_rel hzr len
      obtain ⟨cvs, h1, h2⟩ := fill_rel (fun i => some (i * n, n)) parts.toList hev haps hzero hout
      have hol := aFill_length _ _ _ hout
      rw [repl_length, hcond.2] at hol
      obtain ⟨h3, h4, h5, h6⟩ := newRow_ptr (P := P) h e h2
      have hcl := h2.length
      refine .mk (cv := .slice (some ⟨w.heap.size, 0, none⟩) len len) ?_ (show Thaw (.cells _ _) from rfl) (slice_new h6 (Nat.le_refl _) (by simp; omega)) h4 h5
      unfold Instr.buildSlice
      simp only [Sem.run_bind, run_underlying' hu, Result.andThen_ok, run_sizeOf' hn]
      rw [if_neg (by omega)]
      have hzc : z.cells.toList.length = n := by rw [hzl, hcond.2]
      simp only [Array.toArray_toList] at h1
      have hcells : ∀ zero : Array Value, (len * n = 0 ∨ zero = z.cells) → (Array.range (len * n)).map (fun x => zero[x % zero.size]!) = (Array.range (len * z.cells.toList.length)).map (fun x => z.cells[x % z.cells.size]!) := fun zero hzz => by
        rw [hzc]
        rcases hzz with h0 | rfl
        · rw [h0]; simp
        · rfl
      by_cases h0 : len * n = 0
      · rw [if_pos h0]
        simp only [Sem.run_bind, Sem.run_pure, Result.andThen_ok, aparts_map]
        rw [hcells _ (.inl h0), h1]
        simp only [Sem.run_bind, h3, Result.andThen_ok, Sem.run_pure]
      · rw [if_neg h0]
        simp only [Sem.run_bind, run_zeroValue' hz, Sem.run_pure, Result.andThen_ok, aparts_map]
        rw [hcells _ (.inr rfl), h1]
        simp only [Sem.run_bind, h3, Result.andThen_ok, Sem.run_pure]
    · cases hc
  · cases hc
end Go.Vm
namespace Go.Vm
open Go
variable {P : Program} {B : Base} {ρ ρ' : Ren} {H H' : AHeap} {w w' : World} {tm : List AVal} {ce : Operand → Value} {o : Oper} {av : AVal} {ao : AOp}
theorem op_load (h : HRel P B ρ H w) (hev : EvOk ρ tm ce) {t : TypeId} {x : Operand} (hop : o.op = .load t x) (hc : cOp P o.op = some ao) (ha : aOp tm ao H = some (av, H')) : OpRes .quiet P B ρ H w (execOp ce o) av H' := by
  rw [hop] at hc
  simp only [cOp, Option.bind_eq_some_iff, Option.map_eq_some_iff] at hc
  obtain ⟨⟨a, n⟩, hp, ax, hx, rfl⟩ := hc
  obtain ⟨d, m, hd, hm, rfl, rfl⟩ := partSz_some hp
  have he : execOp ce o = (do Pure.pure (.value (← Instr.loadAt t (ce x)))) := by simp [execOp, hop]
  rw [he]
  simp only [aOp] at ha
  split at ha
  · rename_i A ver off hxe
    simp only [Option.map_eq_some_iff, Option.bind_eq_some_iff] at ha
    obtain ⟨_, ⟨cells, hr, hif⟩, heq⟩ := ha
    cases heq
    have hxv := hev _ _ hx
    rw [hxe] at hxv
    obtain ⟨l, hl, hcx⟩ := hxv.ptr_inv
    unfold aPart at hif
    cases hagg : isAggD d with
    | true =>
      simp only [hagg, if_true] at hif
      split at hif
      · rename_i hfit
        cases hif
        obtain ⟨cvs, h1, h2⟩ := run_loadCells_rel (P := P) (h.rowAt hr hl) hfit
        refine .v h (cv := .agg cvs.toArray) ?_ (.agg h2)
        simp [Instr.loadAt, hcx, Instr.sureAddr, loadVar, run_isAgg' hd, hagg, run_sizeOf' hm, h1]
      · cases hif
    | false =>
      simp only [hagg, Bool.false_eq_true, if_false] at hif
      split at hif
      · obtain ⟨cv, h1, h2⟩ := run_load_rel (P := P) (h.rowAt hr hl) hif
        refine .v h (cv := cv) ?_ h2
        simp only [Instr.loadAt, hcx, Instr.sureAddr, loadVar, Sem.run_bind, Sem.run_pure, Result.andThen_ok, run_isAgg' hd, hagg, Bool.false_eq_true, if_false, h1]
      · cases hif
  · cases ha
theorem op_store (h : HRel P B ρ H w) (hev : EvOk ρ tm ce) {t : TypeId} {a x : Operand} (hop : o.op = .store t a x) (hc : cOp P o.op = some ao) (ha : aOp tm ao H = some (av, H')) : OpRes .any P B ρ H w (execOp ce o) av H' := by
  rw [hop] at hc
  simp only [cOp, Option.bind_eq_some_iff, Option.map_eq_some_iff] at hc
  obtain ⟨n, hn, aa, haa, ax, hx, rfl⟩ := hc
  have he : execOp ce o = (do Instr.storeAt t (ce a) (ce x); Pure.pure .skip) := by simp [execOp, hop]
  rw [he]
  simp only [aOp] at ha
  split at ha
  · rename_i A ver off hae
    split at ha
    · rename_i hlen
      obtain ⟨H'', hw, heq⟩ := Option.map_eq_some_iff.1 ha
      cases heq
      have hav := hev _ _ haa
      rw [hae] at hav
      obtain ⟨l, hl, hca⟩ := hav.ptr_inv
      have hcells := (hev _ _ hx).cells
      obtain ⟨w', h1, h2⟩ := h.write hw hl hcells
      refine .uw ?_ h2 (Ren.le_refl _)
      have hcl := hcells.length
      simp only [Instr.storeAt, hca, Instr.sureAddr, Sem.run_bind, Sem.run_pure, Result.andThen_ok, storeVar, run_sizeOf' hn]
      rw [if_neg (by simp at hcl; omega)]
      exact h1
    · cases ha
  · cases ha
theorem op_nilCheck (h : HRel P B ρ H w) (hev : EvOk ρ tm ce) {x : Operand} (hop : o.op = .nilCheck x) (hc : cOp P o.op = some ao) (ha : aOp tm ao H = some (av, H')) : OpRes .quiet P B ρ H w (execOp ce o) av H' := by
  rw [hop] at hc
  simp only [cOp, Option.map_eq_some_iff] at hc
  obtain ⟨ax, hx, rfl⟩ := hc
  have hxv := hev _ _ hx
  simp only [aOp] at ha
  split at ha
  · rename_i hxe
    cases ha
    rw [hxe] at hxv
    obtain ⟨l, hl, hcx⟩ := hxv.ptr_inv
    exact .pure h (cv := ce x) (by simp [execOp, hop, hcx]) hxv
  · rename_i fn cs hxe
    cases ha
    rw [hxe] at hxv
    obtain ⟨vs, hvs, hcx⟩ := hxv.func_inv
    refine .pure h (cv := ce x) ?_ hxv
    rw [hcx]
    cases fn <;> simp [execOp, hop, hcx]
  · rename_i hxe
    cases ha
    rw [hxe] at hxv
    obtain ⟨l, hl, hcx⟩ := hxv.yield_inv
    exact .pure h (cv := ce x) (by simp [execOp, hop, hcx]) hxv
  · rename_i hxe
    cases ha
    rw [hxe] at hxv
    obtain ⟨l, hl, hcx⟩ := hxv.map_inv
    exact .pure h (cv := ce x) (by simp [execOp, hop, hcx]) hxv
  · cases ha
theorem op_un (h : HRel P B ρ H w) (hev : EvOk ρ tm ce) {op : UnOp} {t : TypeId} {x : Operand} (hop : o.op = .unOp op t x) (hc : cOp P o.op = some ao) (ha : aOp tm ao H = some (av, H')) : OpRes .quiet P B ρ H w (execOp ce o) av H' := by
  rw [hop] at hc
  simp only [cOp, Option.map_eq_some_iff] at hc
  obtain ⟨ax, hx, rfl⟩ := hc
  have hxv := hev _ _ hx
  have he : execOp ce o = (do Pure.pure (.value (← Op.unary op (ce x)))) := by simp [execOp, hop]
  rw [he]
  simp only [aOp, Option.map_eq_some_iff] at ha
  obtain ⟨_, hu, heq⟩ := ha
  cases heq
  unfold aUn at hu
  split at hu
  · rename_i k n hxe
    cases hu
    rw [hxe] at hxv
    exact .v h (cv := .int k (wrapF k (0 - n))) (by rw [hxv.raw_inv]; simp [Op.unary, Op.intArith, wrapF_eq]) (.raw _)
  · rename_i k n hxe
    obtain ⟨m, hm, rfl⟩ := Option.map_eq_some_iff.1 hu
    rw [hxe] at hxv
    exact .v h (by rw [hxv.raw_inv]; simp only [Op.unary]; exact aBits_some hm) (.raw _)
  · rename_i b hxe
    cases hu
    rw [hxe] at hxv
    exact .v h (cv := .bool !b) (by rw [hxv.raw_inv]; simp [Op.unary]) (.raw _)
  · cases hu
theorem op_ptrAdd (h : HRel P B ρ H w) (hev : EvOk ρ tm ce) {s : TypeId} {x : Operand} {f : Nat} (hop : o.op = .fieldAddr s x f) (hc : cOp P o.op = some ao) (ha : aOp tm ao H = some (av, H')) : OpRes .quiet P B ρ H w (execOp ce o) av H' := by
  rw [hop] at hc
  simp only [cOp] at hc
  split at hc
  · rename_i fs hu
    simp only [Option.bind_eq_some_iff] at hc
    obtain ⟨fd, hf, n, hn, hc⟩ := hc
    split at hc
    · cases hc
    · rename_i hn0
      obtain ⟨ax, hx, rfl⟩ := Option.map_eq_some_iff.1 hc
      have hxv := hev _ _ hx
      have he : execOp ce o = (do Pure.pure (.value (← Instr.fieldAt s (ce x) f))) := by simp [execOp, hop]
      rw [he]
      simp only [aOp] at ha
      split at ha
      · rename_i A v off hxe
        cases ha
        rw [hxe] at hxv
        obtain ⟨l, hl, hcx⟩ := hxv.ptr_inv
        refine .v h (cv := .pointer (some ⟨l.c, l.s + off + fd.offset, none⟩)) ?_ (by rw [Nat.add_assoc]; exact .ptr hl)
        simp [Instr.fieldAt, run_underlying' hu, hf, hcx, Instr.sureAddr, fieldPlace, run_sizeOf' hn, hn0, add_none]
      · cases ha
  · cases hc
theorem op_field (h : HRel P B ρ H w) (hev : EvOk ρ tm ce) {s : TypeId} {x : Operand} {f : Nat} (hop : o.op = .field s x f) (hc : cOp P o.op = some ao) (ha : aOp tm ao H = some (av, H')) : OpRes .quiet P B ρ H w (execOp ce o) av H' := by
  rw [hop] at hc
  simp only [cOp] at hc
  split at hc
  · rename_i fs hu
    simp only [Option.bind_eq_some_iff, Option.map_eq_some_iff] at hc
    obtain ⟨fd, hf, ⟨a, n⟩, hp, ax, hx, rfl⟩ := hc
    have hxv := hev _ _ hx
    have he : execOp ce o = (do Pure.pure (.value (← Instr.field s (ce x) f))) := by simp [execOp, hop]
    rw [he]
    simp only [aOp] at ha
    split at ha
    · rename_i cs hxe
      obtain ⟨_, hpart, heq⟩ := Option.map_eq_some_iff.1 ha
      cases heq
      rw [hxe] at hxv
      obtain ⟨vs, hvs, hcx⟩ := hxv.agg_inv
      obtain ⟨cv, h1, h2⟩ := run_part (P := P) (w := w) hp hvs hpart
      refine .v h (cv := cv) ?_ h2
      simp only [Instr.field, Sem.run_bind, run_underlying' hu, Result.andThen_ok, hf, hcx, asAgg, Sem.run_pure, h1]
    · cases ha
  · cases hc
theorem idx_ok {i : Int} {len : Nat} (h : (ile 0 i && ilt i len) = true) : 0 ≤ i ∧ i < (len : Int) := by
  simpa [ile_eq, ilt_eq] using h
theorem op_idxAddr (h : HRel P B ρ H w) (hev : EvOk ρ tm ce) {t : TypeId} {x i : Operand} (hop : o.op = .indexAddr t x i) (hc : cOp P o.op = some ao) (ha : aOp tm ao H = some (av, H')) : OpRes .quiet P B ρ H w (execOp ce o) av H' := by
  rw [hop] at hc
  simp only [cOp] at hc
  have he : execOp ce o = (do Pure.pure (.value (← Instr.indexAt t (ce x) (ce i)))) := by simp [execOp, hop]
  rw [he]
  split at hc
  · rename_i len e hu
    simp only [Option.bind_eq_some_iff, Option.map_eq_some_iff] at hc
    obtain ⟨n, hn, ax, hx, ai, hi, rfl⟩ := hc
    have hxv := hev _ _ hx
    have hiv := hev _ _ hi
    simp only [aOp] at ha
    split at ha
    · rename_i A v off k j hxe hie
      split at ha
      · rename_i hb
        cases ha
        rw [hxe] at hxv
        rw [hie] at hiv
        obtain ⟨l, hl, hcx⟩ := hxv.ptr_inv
        have hb' := idx_ok hb
        refine .v h (cv := .pointer (some ⟨l.c, l.s + off + j.toNat * n, none⟩)) ?_ (by rw [Nat.add_assoc]; exact .ptr hl)
        rw [hiv.raw_inv, hcx]
        simp only [Instr.indexAt, asIntOf, Sem.run_bind, Sem.run_pure, Result.andThen_ok, run_underlying' hu, Instr.sureAddr]
        rw [if_pos hb']
        simp [run_sizeOf' hn, add_none]
      · cases ha
    · cases ha
  · rename_i e hu
    simp only [Option.bind_eq_some_iff, Option.map_eq_some_iff] at hc
    obtain ⟨n, hn, ax, hx, ai, hi, rfl⟩ := hc
    have hxv := hev _ _ hx
    have hiv := hev _ _ hi
    simp only [aOp] at ha
    split at ha
    · rename_i A v off len kcap ex esz k j hxe hie
      split at ha
      · rename_i hb
        cases ha
        rw [hxe] at hxv
        rw [hie] at hiv
        obtain ⟨l, a, cap, hl, hcx, hk, hlen, _, hor⟩ := hxv.slice_inv
        have hb' := idx_ok hb
        rcases hor with ⟨rfl, hn'⟩ | ⟨rfl, _, _⟩
        · refine .v h (cv := .pointer (some ⟨l.c, l.s + off + j.toNat * n, none⟩)) ?_ (by rw [Nat.add_assoc]; exact .ptr hl)
          rw [hiv.raw_inv, hcx]
          simp only [Instr.indexAt, asIntOf, Sem.run_bind, Sem.run_pure, Result.andThen_ok, run_underlying' hu]
          rw [if_pos hb']
          simp [run_sizeOf' hn, add_none]
        · omega
      · cases ha
    · cases ha
  · cases hc
theorem op_index (h : HRel P B ρ H w) (hev : EvOk ρ tm ce) {t : TypeId} {x i : Operand} (hop : o.op = .index t x i) (hc : cOp P o.op = some ao) (ha : aOp tm ao H = some (av, H')) : OpRes .quiet P B ρ H w (execOp ce o) av H' := by
  rw [hop] at hc
  simp only [cOp] at hc
  have he : execOp ce o = (do Pure.pure (.value (← Instr.index t (ce x) (ce i)))) := by simp [execOp, hop]
  rw [he]
  split at hc
  · rename_i len e hu
    simp only [Option.bind_eq_some_iff] at hc
    obtain ⟨⟨a, n⟩, hp, m, hm, hc⟩ := hc
    split at hc
    · rename_i hnm
      dsimp only at hnm
      subst hnm
      simp only [Option.bind_eq_some_iff, Option.map_eq_some_iff] at hc
      obtain ⟨ax, hx, ai, hi, rfl⟩ := hc
      have hxv := hev _ _ hx
      have hiv := hev _ _ hi
      simp only [aOp] at ha
      split at ha
      · rename_i cs k j hxe hie
        split at ha
        · rename_i hb
          obtain ⟨_, hpart, heq⟩ := Option.map_eq_some_iff.1 ha
          cases heq
          rw [hxe] at hxv
          rw [hie] at hiv
          obtain ⟨vs, hvs, hcx⟩ := hxv.agg_inv
          have hb' := idx_ok hb
          obtain ⟨cv, h1, h2⟩ := run_part (P := P) (w := w) hp hvs hpart
          refine .v h (cv := cv) ?_ h2
          rw [hiv.raw_inv, hcx]
          simp only [Instr.index, asIntOf, Sem.run_bind, Sem.run_pure, Result.andThen_ok, run_underlying' hu]
          rw [if_pos hb']
          simp only [Sem.run_bind, run_sizeOf' hm, Result.andThen_ok, h1]
        · cases ha
      · cases ha
    · cases hc
  · rename_i hu
    simp only [Option.bind_eq_some_iff, Option.map_eq_some_iff] at hc
    obtain ⟨ax, hx, ai, hi, rfl⟩ := hc
    have hxv := hev _ _ hx
    have hiv := hev _ _ hi
    simp only [aOp] at ha
    split at ha
    · rename_i s k j hxe hie
      split at ha
      · rename_i hb
        simp only [Option.map_eq_some_iff] at ha
        obtain ⟨_, ⟨b, hb2, rfl⟩, heq⟩ := ha
        cases heq
        rw [hxe] at hxv
        rw [hie] at hiv
        have hb' : 0 ≤ j := by simpa [ile_eq] using hb
        refine .v h (cv := .int .u8 b.toNat) ?_ (.raw _)
        rw [hiv.raw_inv, hxv.raw_inv]
        have hsb : s[j.toNat]? = some b := by
          obtain ⟨h1, h2⟩ := List.getElem?_eq_some_iff.1 hb2
          have h1' : j.toNat < s.size := h1
          rw [getElem?_pos s j.toNat h1']
          congr 1
        simp only [Instr.index, asIntOf, Sem.run_bind, Sem.run_pure, Result.andThen_ok, run_underlying' hu]
        rw [if_pos hb', hsb]
        rfl
      · cases ha
    · cases ha
  · cases hc
end Go.Vm
