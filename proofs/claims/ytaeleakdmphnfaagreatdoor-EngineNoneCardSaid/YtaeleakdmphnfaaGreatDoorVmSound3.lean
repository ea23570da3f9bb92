/- The abstract machine, part 7: the operations are sound, one by one (all but slices that grow, maps, equality). -/
import Derived.Test.YtaeleakdmphnfaaGreatDoorVmSound2
namespace Go.Vm
open Go

set_option linter.unusedVariables false
set_option linter.unusedSimpArgs false

variable {P : Program} {B : Base} {ρ ρ' : Ren} {H H' : AHeap} {w w' : World} {tm : List AVal} {ce : Operand → Value} {o : Oper} {av : AVal} {ao : AOp}

theorem ptr_new {A : Nat} {s c n : Nat} (h : ρ A 0 = some ⟨c, s, n⟩) : VRel ρ (.ptr A 0 0) (.pointer (some ⟨c, s, none⟩)) := VRel.ptr (off := 0) h

theorem op_move (h : HRel P B ρ H w) (hev : EvOk ρ tm ce) {x : Operand} (hop : o.op = .move x ∨ o.op = .assign x) {ax : AOpd} (hx : cOpd x = some ax) : OpRes .quiet P B ρ H w (execOp ce o) (ev tm ax) H := by
  refine .pure h (cv := ce x) ?_ (hev _ _ hx)
  rcases hop with e | e <;> simp [execOp, e]

theorem op_pick (h : HRel P B ρ H w) (hev : EvOk ρ tm ce) {c a b : Operand} (hop : o.op = .pick c a b) (hc : cOp P o.op = some ao) (ha : aOp tm ao H = some (av, H')) : OpRes .quiet P B ρ H w (execOp ce o) av H' := by
  rw [hop] at hc
  simp only [cOp, Option.bind_eq_some_iff, Option.map_eq_some_iff] at hc
  obtain ⟨c', h1, a', h2, b', h3, rfl⟩ := hc
  simp only [aOp] at ha
  split at ha
  · rename_i t ht
    cases ha
    have hcv := hev _ _ h1
    rw [ht] at hcv
    refine .pure h (cv := if t then ce a else ce b) ?_ ?_
    · simp [execOp, hop, hcv.raw_inv, asBool]
    · cases t
      · exact hev _ _ h3
      · exact hev _ _ h2
  · cases ha

theorem op_alloc (h : HRel P B ρ H w) {t : TypeId} (hop : o.op = .alloc t) (hc : cOp P o.op = some ao) (ha : aOp tm ao H = some (av, H')) : OpRes .makes P B ρ H w (execOp ce o) av H' := by
  rw [hop] at hc
  simp only [cOp, Option.map_eq_some_iff] at hc
  obtain ⟨z, hz, rfl⟩ := hc
  simp only [aOp] at ha
  cases ha
  obtain ⟨h1, h2, h3, h4⟩ := newRow_ptr (P := P) h t (aconst_rel ρ z).cells
  have he : execOp ce o = (do Pure.pure (.value (← Instr.alloc t true (.tuple #[])))) := by simp [execOp, hop]
  rw [he]
  refine .mk (cv := .pointer (some ⟨w.heap.size, 0, none⟩)) ?_ (show Thaw (.cells _ _) from rfl) (ptr_new h4) h2 h3
  simp only [Instr.alloc, Sem.run_bind, run_zeroValue' hz, Result.andThen_ok, newVar]
  simp at h1
  simp [h1]

theorem op_box (h : HRel P B ρ H w) (hev : EvOk ρ tm ce) {t : TypeId} {x : Operand} (hop : o.op = .box t x) (hc : cOp P o.op = some ao) (ha : aOp tm ao H = some (av, H')) : OpRes .makes P B ρ H w (execOp ce o) av H' := by
  rw [hop] at hc
  simp only [cOp, Option.map_eq_some_iff] at hc
  obtain ⟨ax, hx, rfl⟩ := hc
  simp only [aOp] at ha
  cases ha
  obtain ⟨h1, h2, h3, h4⟩ := newRow_ptr (P := P) h t (hev _ _ hx).cells
  have he : execOp ce o = (do Pure.pure (.value (← Instr.box t (ce x)))) := by simp [execOp, hop]
  rw [he]
  refine .mk (cv := .pointer (some ⟨w.heap.size, 0, none⟩)) ?_ (show Thaw (.cells _ _) from rfl) (ptr_new h4) h2 h3
  simp only [Instr.box, Sem.run_bind, newVar]
  simp at h1
  simp [h1]

theorem aparts_map (ce : Operand → Value) (parts : Array (Nat × Operand)) : (parts.map fun (i, x) => (i, ce x)).toList = parts.toList.map fun (i, x) => (i, ce x) := by simp

theorem mapM_sizes (fs : List Field) {ns : List Nat} (h : fs.mapM (fun f => szOf P f.type) = some ns) : ∀ f ∈ fs, ∃ n, szOf P f.type = some n := by
  induction fs generalizing ns with
  | nil => intro f hf; cases hf
  | cons f fs ih =>
    simp only [List.mapM_cons, Option.bind_eq_bind, Option.bind_eq_some_iff] at h
    obtain ⟨n, hn, ms, hms, _⟩ := h
    intro g hg
    rcases List.mem_cons.1 hg with rfl | hg
    · exact ⟨n, hn⟩
    · exact ih hms g hg

theorem run_mapM_places : ∀ (fs : List Field), (∀ f ∈ fs, ∃ n, szOf P f.type = some n) →
    (fs.mapM (m := Sem) fun f => do Pure.pure (f.offset, ← sizeOf f.type)).run P w = .ok (fs.map fun f => (f.offset, (szOf P f.type).getD 0)) w
  | [], _ => by simp
  | f :: fs, h => by
    obtain ⟨n, hn⟩ := h f (by simp)
    simp only [List.mapM_cons, Sem.run_bind, run_sizeOf' hn, Result.andThen_ok, Sem.run_pure, List.map_cons, hn]
    rw [run_mapM_places fs fun g hg => h g (by simp [hg])]
    simp

theorem op_build (h : HRel P B ρ H w) (hev : EvOk ρ tm ce) {t : TypeId} {parts : Array (Nat × Operand)} (hop : o.op = .build t parts) (hc : cOp P o.op = some ao) (ha : aOp tm ao H = some (av, H')) :
    OpRes .quiet P B ρ H w (execOp ce o) av H' := by
  rw [hop] at hc
  simp only [cOp, Option.bind_eq_some_iff] at hc
  obtain ⟨z, hz, hc⟩ := hc
  have he : execOp ce o = (do Pure.pure (.value (← Instr.build t (parts.map fun (i, x) => (i, ce x))))) := by simp [execOp, hop]
  rw [he]
  split at hc
  · rename_i fs hu
    simp only [Option.bind_eq_some_iff, Option.map_eq_some_iff] at hc
    obtain ⟨ns, hns, aps, haps, rfl⟩ := hc
    simp only [aOp, Option.map_eq_some_iff] at ha
    obtain ⟨_, ⟨out, hout, rfl⟩, heq⟩ := ha
    cases heq
    obtain ⟨cvs, h1, h2⟩ := fill_rel (fieldPlaces P fs) parts.toList hev haps (aconst_rel ρ z).cells hout
    refine .v h (cv := .agg cvs.toArray) ?_ (.agg h2)
    have hsz := mapM_sizes (P := P) fs.toList hns
    have hpl : ∀ i, (fs.toList.map fun f => (f.offset, (szOf P f.type).getD 0)).toArray[i]? = fieldPlaces P fs i := fun i => by
      unfold fieldPlaces
      rw [List.getElem?_toArray, List.getElem?_map, Array.getElem?_toList]
      cases hf : fs[i]? with
      | none => rfl
      | some f =>
        obtain ⟨n, hn⟩ := hsz f (by
          obtain ⟨h1, h2⟩ := Array.getElem?_eq_some_iff.1 hf
          rw [← h2]; simp)
        simp [hn]
    have hmap : (fs.mapM (m := Sem) fun f => do Pure.pure (f.offset, ← sizeOf f.type)).run P w = .ok (fs.toList.map fun f => (f.offset, (szOf P f.type).getD 0)).toArray w := by
      rw [Array.mapM_eq_mapM_toList]
      rw [Sem.run_map, run_mapM_places fs.toList hsz]
      rfl
    unfold Instr.build
    simp only [Sem.run_bind, run_zeroValue' hz, Result.andThen_ok, run_underlying' hu]
    rw [hmap]
    simp only [Result.andThen_ok]
    have hfun : (fun i => (fs.toList.map fun f => (f.offset, (szOf P f.type).getD 0)).toArray[i]?) = fieldPlaces P fs := funext hpl
    simp only [aparts_map]
    rw [hfun]
    simp at h1
    simp [h1]
  · rename_i n e hu
    simp only [Option.bind_eq_some_iff, Option.map_eq_some_iff] at hc
    obtain ⟨k, hk, aps, haps, rfl⟩ := hc
    simp only [aOp, Option.map_eq_some_iff] at ha
    obtain ⟨_, ⟨out, hout, rfl⟩, heq⟩ := ha
    cases heq
    obtain ⟨cvs, h1, h2⟩ := fill_rel (fun i => some (i * k, k)) parts.toList hev haps (aconst_rel ρ z).cells hout
    refine .v h (cv := .agg cvs.toArray) ?_ (.agg h2)
    unfold Instr.build
    simp only [Sem.run_bind, run_zeroValue' hz, Result.andThen_ok, run_underlying' hu, run_sizeOf' hk, aparts_map]
    simp at h1
    simp [h1]
  · cases hc

theorem repl_length {n : Nat} {l : List AVal} : (repl n l).length = n * l.length := by
  induction n with
  | zero => simp [repl]
  | succ n ih => simp [repl, ih, Nat.succ_mul]; omega

theorem repl_get : ∀ (n : Nat) (l : List AVal) (i : Nat), i < n * l.length → (repl n l)[i]? = l[i % l.length]?
  | 0, l, i, h => by simp at h
  | n + 1, l, i, h => by
    simp only [repl, List.getElem?_append]
    rw [Nat.succ_mul] at h
    split
    · rename_i hi; rw [Nat.mod_eq_of_lt hi]
    · rename_i hi
      rw [repl_get n l (i - l.length) (by omega)]
      rw [Nat.mod_eq_sub_mod (a := i) (by omega)]

/-- Zero cells over and over, as the model lays them. -/
theorem zeros_rel {l : List AVal} {vs : List Value} (h : VRels ρ l vs) (n : Nat) : VRels ρ (repl n l) ((Array.range (n * vs.length)).map (vs.toArray[· % vs.toArray.size]!)).toList := by
  have hl := h.length
  refine VRels.of_get (by simp [repl_length, hl]) fun i v hv => ?_
  have hi : i < n * l.length := by
    have := (List.getElem?_eq_some_iff.1 hv).1
    rwa [repl_length] at this
  rw [repl_get n l i hi] at hv
  obtain ⟨cv, h1, h2⟩ := h.get _ _ hv
  refine ⟨cv, ?_, h2⟩
  have h3 : i < n * vs.length := by rw [hl]; exact hi
  simp only [Array.toList_map, List.getElem?_map, Array.toList_range, List.getElem?_range h3, Option.map_some, List.size_toArray, List.getElem!_toArray]
  rw [hl, List.getElem!_eq_getElem?_getD, h1]
  rfl

theorem slice_new {A n len cap esz : Nat} {ex : Bool} {c : Nat} (h : ρ A 0 = some ⟨c, 0, n⟩) (hl : len ≤ cap) (hn : cap * esz ≤ n) : VRel ρ (.slice A 0 0 len cap ex esz) (.slice (some ⟨c, 0, none⟩) len cap) := by
  have := VRel.slice (off := 0) (len := len) (kcap := cap) (cap := cap) (ex := ex) (esz := esz) h (Nat.le_refl _) hl (fun _ => rfl) (by dsimp only; omega)
  simpa using this

theorem aFill_length : ∀ (ps : List (Nat × Nat × AVal)) (cells out : List AVal), aFill cells ps = some out → out.length = cells.length
  | [], cells, out, h => by simp [aFill] at h; rw [h]
  | (o, n, v) :: ps, cells, out, h => by
    simp only [aFill] at h
    split at h
    · rename_i hf
      rw [aFill_length ps _ _ h, spl_length _ _ _ (by omega)]
    · cases h

theorem op_buildSlice (h : HRel P B ρ H w) (hev : EvOk ρ tm ce) {t : TypeId} {len : Nat} {parts : Array (Nat × Operand)} (hop : o.op = .buildSlice t len parts) (hc : cOp P o.op = some ao) (ha : aOp tm ao H = some (av, H')) :
    OpRes .makes P B ρ H w (execOp ce o) av H' := by
  rw [hop] at hc
  simp only [cOp] at hc
  have he : execOp ce o = (do Pure.pure (.value (← Instr.buildSlice t len (parts.map fun (i, x) => (i, ce x))))) := by simp [execOp, hop]
  rw [he]
  split at hc
  · rename_i e hu
    simp only [Option.bind_eq_some_iff] at hc
    obtain ⟨n, hn, z, hz, hc⟩ := hc
    split at hc
    · rename_i hcond
      simp only [Bool.and_eq_true, decide_eq_true_eq, beq_iff_eq] at hcond
      obtain ⟨aps, haps, rfl⟩ := Option.map_eq_some_iff.1 hc
      simp only [aOp, Option.map_eq_some_iff] at ha
      obtain ⟨out, hout, heq⟩ := ha
      cases heq
      have hzr := (aconst_rel ρ z).cells
      have hzl := hzr.length
      have hzero := zeros_rel hzr len
      obtain ⟨cvs, h1, h2⟩ := fill_rel (fun i => some (i * n, n)) parts.toList hev haps hzero hout
      have hol := aFill_length _ _ _ hout
      rw [repl_length, hcond.2] at hol
      obtain ⟨h3, h4, h5, h6⟩ := newRow_ptr (P := P) h e h2
      have hcl := h2.length
      refine .mk (cv := .slice (some ⟨w.heap.size, 0, none⟩) len len) ?_ (show Thaw (.cells _ _) from rfl) (slice_new h6 (Nat.le_refl _) (by simp; omega)) h4 h5
      unfold Instr.buildSlice
      simp only [Sem.run_bind, run_underlying' hu, Result.andThen_ok, run_sizeOf' hn]
      rw [if_neg (by omega)]
      have hzc : z.cells.toList.length = n := by rw [hzl, hcond.2]
      simp only [Array.toArray_toList] at h1
      have hcells : ∀ zero : Array Value, (len * n = 0 ∨ zero = z.cells) → (Array.range (len * n)).map (fun x => zero[x % zero.size]!) = (Array.range (len * z.cells.toList.length)).map (fun x => z.cells[x % z.cells.size]!) := fun zero hzz => by
        rw [hzc]
        rcases hzz with h0 | rfl
        · rw [h0]; simp
        · rfl
      by_cases h0 : len * n = 0
      · rw [if_pos h0]
        simp only [Sem.run_bind, Sem.run_pure, Result.andThen_ok, aparts_map]
        rw [hcells _ (.inl h0), h1]
        simp only [Sem.run_bind, h3, Result.andThen_ok, Sem.run_pure]
      · rw [if_neg h0]
        simp only [Sem.run_bind, run_zeroValue' hz, Sem.run_pure, Result.andThen_ok, aparts_map]
        rw [hcells _ (.inr rfl), h1]
        simp only [Sem.run_bind, h3, Result.andThen_ok, Sem.run_pure]
    · cases hc
  · cases hc

end Go.Vm
