/- The abstract machine, part 6: the operations are sound (aggregates, cells, new blocks). -/
import Derived.Test.YtaeleakdmphnfaaGreatDoorVmSound1
import Derived.Laws.Cells
namespace Go.Vm
open Go

set_option linter.unusedVariables false
set_option linter.unusedSimpArgs false

variable {P : Program} {B : Base} {ρ ρ' : Ren} {H H' : AHeap} {w w' : World} {tm : List AVal} {ce : Operand → Value}

/-! ### Parts of aggregates -/

theorem partSz_some {t : TypeId} {a : Bool} {n : Nat} (h : partSz P t = some (a, n)) : ∃ d m, P.underlying t = some d ∧ szOf P t = some m ∧ a = isAggD d ∧ n = if a then m else 1 := by
  unfold partSz shOf at h
  obtain ⟨⟨a', n'⟩, h1, h2⟩ := Option.map_eq_some_iff.1 h
  obtain ⟨d, hd, h3⟩ := Option.bind_eq_some_iff.1 h1
  obtain ⟨m, hm, h4⟩ := Option.map_eq_some_iff.1 h3
  cases h4
  simp at h2
  obtain ⟨rfl, rfl⟩ := h2
  exact ⟨d, _, hd, hm, rfl, rfl⟩

theorem extract_rel {cs : List AVal} {vs : List Value} (h : VRels ρ cs vs) (off n : Nat) : VRel ρ (.agg ((cs.drop off).take n)) (.agg (vs.toArray.extract off (off + n))) := by
  have : vs.toArray.extract off (off + n) = ((vs.drop off).take n).toArray := by simp
  rw [this]
  exact .agg ((h.drop off).take n)

theorem run_part {t : TypeId} {a : Bool} {n : Nat} (ht : partSz P t = some (a, n)) {cs : List AVal} {vs : List Value} (h : VRels ρ cs vs) {off : Nat} {av : AVal} (ha : aPart a cs off n = some av) :
    ∃ cv, (part t vs.toArray off).run P w = .ok cv w ∧ VRel ρ av cv := by
  obtain ⟨d, m, hd, hm, rfl, rfl⟩ := partSz_some ht
  unfold aPart at ha
  cases hagg : isAggD d with
  | true =>
    simp only [hagg, if_true] at ha
    cases ha
    refine ⟨_, ?_, extract_rel h off m⟩
    simp [part, run_isAgg' hd, hagg, run_sizeOf' hm]
  | false =>
    simp only [hagg, Bool.false_eq_true, if_false] at ha
    obtain ⟨cv, h1, h2⟩ := h.get _ _ ha
    refine ⟨cv, ?_, h2⟩
    simp [part, run_isAgg' hd, hagg, h1]

/-! ### Loads -/

theorem run_loadCells_rel {ρ : Ren} {l : Loc} {cells : List AVal} (h : RowAt ρ w l cells) {off n : Nat} (hn : off + n ≤ cells.length) :
    ∃ cvs, (loadCells ⟨l.c, l.s + off, none⟩ n).run P w = .ok cvs.toArray w ∧ VRels ρ ((cells.drop off).take n) cvs := by
  obtain ⟨arr, e, fz, ha, _, hc⟩ := h
  have key : ∀ j, j < n → ∃ cv, arr[l.s + off + j]? = some cv := fun j hj => by
    obtain ⟨cv, h1, _⟩ := hc (off + j) _ (List.getElem?_eq_getElem (by omega))
    exact ⟨cv, by rw [← h1]; congr 1; omega⟩
  refine ⟨(List.range n).map fun j => (arr[l.s + off + j]?).getD undef, ?_, VRels.of_get (by simp; omega) fun i v hv => ?_⟩
  · rw [run_loadCells w _ n (fun j => (arr[l.s + off + j]?).getD undef) fun j hj => ?_]
    obtain ⟨cv, h1⟩ := key j hj
    rw [add_none, cell_of_row ha, h1]; rfl
  · have hi : i < n := by
      have := (List.getElem?_eq_some_iff.1 hv).1
      simp at this; omega
    rw [List.getElem?_take, if_pos hi, List.getElem?_drop] at hv
    obtain ⟨cv, h1, h2⟩ := hc _ _ hv
    refine ⟨cv, ?_, h2⟩
    rw [List.getElem?_map, List.getElem?_range hi]
    simp only [Option.map_some]
    rw [show l.s + off + i = l.s + (off + i) by omega, h1]; rfl

theorem run_load_rel {l : Loc} {cells : List AVal} (h : RowAt ρ w l cells) {off : Nat} {v : AVal} (hv : cells[off]? = some v) :
    ∃ cv, (load ⟨l.c, l.s + off, none⟩).run P w = .ok cv w ∧ VRel ρ v cv := by
  obtain ⟨arr, e, fz, ha, _, hc⟩ := h
  obtain ⟨cv, h1, h2⟩ := hc off v hv
  exact ⟨cv, by rw [run_load, cell_of_row ha, h1], h2⟩

/-- The cells that a slice reads. -/
theorem run_firstCells (h : HRel P B ρ H w) {esz : Nat} {x : AVal} {cx : Value} {cells : List AVal} {m : Nat} (hx : VRel ρ x cx) (hc : aCells H esz x = some cells) (hm : aLen x = some m) :
    ∃ a cap cvs, cx = .slice a m cap ∧ ((a = none ∧ m = 0) ∨ ∃ ad, a = some ad ∧ (∀ k, k ≤ m → (loadCells ad (k * esz)).run P w = .ok (cvs.take (k * esz)).toArray w)) ∧ VRels ρ cells cvs ∧ cells.length = m * esz := by
  unfold aCells at hc
  split at hc
  · cases hc
    simp [aLen] at hm; subst hm
    cases hx.raw_inv
    exact ⟨none, 0, [], rfl, .inl ⟨rfl, rfl⟩, .nil, by simp⟩
  · rename_i A ver off len kcap ex esz'
    simp [aLen] at hm; subst hm
    obtain ⟨row, hr, hif⟩ := Option.bind_eq_some_iff.1 hc
    obtain ⟨l, a, cap, hl, rfl, hk, hlen, _, hor⟩ := hx.slice_inv
    split at hif
    · rename_i hfit
      cases hif
      rcases hor with ⟨rfl, hn⟩ | ⟨rfl, _, _⟩
      · obtain ⟨cvs, h1, h2⟩ := run_loadCells_rel (P := P) (h.rowAt hr hl) hfit
        refine ⟨some _, cap, cvs, rfl, .inr ⟨_, rfl, fun k hkm => ?_⟩, h2, by simp; omega⟩
        have hle : k * esz ≤ len * esz := Nat.mul_le_mul_right _ hkm
        obtain ⟨cvs', h3, h4⟩ := run_loadCells_rel (P := P) (h.rowAt hr hl) (off := off) (n := k * esz) (by omega)
        rw [h3]
        obtain ⟨arr, e, fz, ha, _, hc⟩ := h.rowAt hr hl
        congr 2
        apply List.ext_getElem?
        intro i
        rw [List.getElem?_take]
        have hl1 := h2.length
        have hl4 := h4.length
        simp at hl1 hl4
        by_cases hi : i < k * esz
        · rw [if_pos hi]
          have e1 : (loadCells ⟨l.c, l.s + off, none⟩ (len * esz)).run P w = .ok cvs.toArray w := h1
          have key : ∀ (n : Nat) (cs : List Value), off + n ≤ row.length → (loadCells ⟨l.c, l.s + off, none⟩ n).run P w = .ok cs.toArray w → ∀ j, j < n → cs[j]? = arr[l.s + off + j]? := fun n cs hn hrun j hj => by
            rw [run_loadCells w _ n (fun j => (arr[l.s + off + j]?).getD undef) fun j hj => by
              obtain ⟨cv, h1, _⟩ := hc (off + j) _ (List.getElem?_eq_getElem (by omega))
              rw [add_none, cell_of_row ha, show l.s + off + j = l.s + (off + j) by omega, h1]; rfl] at hrun
            simp only [Result.ok.injEq, and_true] at hrun
            have hcs : cs = (List.range n).map fun j => (arr[l.s + off + j]?).getD undef := by
              have := congrArg Array.toList hrun
              simpa using this.symm
            rw [hcs, List.getElem?_map, List.getElem?_range hj]
            obtain ⟨cv, h1, _⟩ := hc (off + j) _ (List.getElem?_eq_getElem (by omega))
            simp only [Option.map_some]
            rw [show l.s + off + j = l.s + (off + j) by omega, h1]; rfl
          rw [key _ _ (by omega) h3 i hi, key _ _ hfit e1 i (by omega)]
        · rw [if_neg hi, List.getElem?_eq_none (by omega)]
      · refine ⟨some a, cap, [], rfl, .inr ⟨a, rfl, fun k hk => ?_⟩, ?_, by simp⟩
        · have : k = 0 := by omega
          subst this
          simp [loadCells, loadCellsFrom]
        · simp; exact .nil
    · cases hif
  · cases hc

/-! ### New blocks -/

theorem CellsAt.of_rels {cells : List AVal} {vs : List Value} (h : VRels ρ cells vs) : CellsAt ρ vs.toArray 0 cells := fun i v hv => by
  obtain ⟨cv, h1, h2⟩ := h.get i v hv
  exact ⟨cv, by simpa using h1, h2⟩

theorem VRels.len_toArray {cells : List AVal} {vs : List Value} (h : VRels ρ cells vs) : vs.toArray.size = cells.length := by simpa using h.length

/-- A new row: the pointer to it. -/
theorem newRow_ptr (h : HRel P B ρ H w) {cells : List AVal} {vs : List Value} (e : TypeId) (hr : VRels ρ cells vs) :
    (newRow e vs.toArray).run P w = .ok ⟨w.heap.size, 0, none⟩ (w.alloc (.cells vs.toArray e)) ∧ HRel P B (ρ.put H.next 0 ⟨w.heap.size, 0, objN (.cells vs.toArray e)⟩) (H.push (.row [some (0, cells)])) (w.alloc (.cells vs.toArray e)) ∧ ρ.le (ρ.put H.next 0 ⟨w.heap.size, 0, objN (.cells vs.toArray e)⟩) ∧
      (ρ.put H.next 0 ⟨w.heap.size, 0, objN (.cells vs.toArray e)⟩) H.next 0 = some ⟨w.heap.size, 0, vs.toArray.size⟩ :=
  ⟨by simp [newRow], h.newRow (CellsAt.of_rels hr), Ren.put_le (h.fresh _ _ (Nat.le_refl _)), Ren.put_same _ _ _ _⟩

theorem fill_rel (place : Nat → Option (Nat × Nat)) : ∀ (parts : List (Nat × Operand)) {aps : List (Nat × Nat × AOpd)} {cells : List AVal} {vs : List Value} {out : List AVal}, EvOk ρ tm ce →
    cParts place parts = some aps → VRels ρ cells vs → aFill cells (aps.map fun (o, n, x) => (o, n, ev tm x)) = some out →
    ∃ cvs, Instr.fill place vs.toArray (parts.map fun (i, x) => (i, ce x)) = some cvs.toArray ∧ VRels ρ out cvs
  | [], aps, cells, vs, out, hev, hp, hr, ho => by
    simp [cParts] at hp; subst hp
    simp [aFill] at ho; subst ho
    exact ⟨vs, rfl, hr⟩
  | (i, x) :: parts, aps, cells, vs, out, hev, hp, hr, ho => by
    simp only [cParts, Option.bind_eq_some_iff, Option.map_eq_some_iff] at hp
    obtain ⟨⟨o, n⟩, hpl, y, hy, r, hr', rfl⟩ := hp
    simp only [List.map_cons, aFill] at ho
    split at ho
    · rename_i hfit
      have hv := (hev _ _ hy).cells
      have hlen := hv.length
      have hsz : (ce x).cells.size = n := by rw [← hfit.1, ← hlen]; simp
      have hrl := hr.length
      have hspl : VRels ρ (spl cells o (ev tm y).cells) (vs.take o ++ ((ce x).cells.toList ++ vs.drop (o + (ce x).cells.toList.length))) := by
        unfold spl
        rw [hlen]
        exact (hr.take o).append (hv.append (hr.drop _))
      obtain ⟨cvs, h1, h2⟩ := fill_rel place parts hev hr' hspl ho
      refine ⟨cvs, ?_, h2⟩
      simp only [List.map_cons, Instr.fill, hpl]
      rw [if_neg (by simp; omega)]
      rw [← h1]
      congr 1
      have hfold : ∀ (us : List Value) (j : Nat) (acc : Array Value), ((us.zipIdx j).foldl (fun cs (c, j) => cs.setIfInBounds (o + j) c) acc) = wr acc (o + j) us := by
        intro us
        induction us with
        | nil => intro j acc; rfl
        | cons u us ih =>
          intro j acc
          simp only [List.zipIdx_cons, List.foldl_cons]
          rw [ih (j + 1)]
          rfl
      rw [← Array.foldl_toList, Array.toList_zipIdx]
      have := hfold (ce x).cells.toList 0 vs.toArray
      rw [this, wr_spl _ _ _ (by simp; omega)]
      rfl
    · cases ho

end Go.Vm
