/- The abstract machine, part 7: the operations are sound, one by one (all but slices that grow, maps, equality). -/
import Derived.Test.YthbjfkkjmecaaaaY02
set_option linter.unusedVariables false
set_option linter.unusedSimpArgs false
namespace Go.Vm
open Go
section
variable {P : Program} {B : Base} {ρ : Ren} {H H' : zz6} {w w' : World} {tm : List AVal} {ce : Operand → Value} {o : Oper} {av : AVal} {ao : AOp}
theorem yzv {A : Nat} {s c n : Nat} (h : ρ A 0 = some ⟨c, s, n⟩) : VRel ρ (.ptr A 0 0) (.pointer (some ⟨c, s, none⟩)) := VRel.ptr (off := 0) h
theorem za5 (h : HRel P B ρ H w) (hev : zvg ρ tm ce) {x : Operand} (hop : o.op = .move x ∨ o.op = .assign x) {ax : AOpd} (hx : zxt x = some ax) : zyf .quiet P B ρ H w (execOp ce o) (ev tm ax) H := by
 refine .pure h (cv := ce x) ?_ (hev _ _ hx)
 rcases hop with e | e <;> simp [execOp, e]
theorem yqd (h : HRel P B ρ H w) (hev : zvg ρ tm ce) {c a b : Operand} (hop : o.op = .pick c a b) (hc : cOp P o.op = some ao) (ha : aOp tm ao H = some (av, H')) : zyf .quiet P B ρ H w (execOp ce o) av H' := by
 rw [hop] at hc
 simp only [cOp, Option.bind_eq_some_iff, Option.map_eq_some_iff] at hc
 obtain ⟨c', h1, a', h2, b', h3, rfl⟩ := hc
 simp only [aOp] at ha
 split at ha
 ·rename_i t ht
  cases ha
  have hcv := hev _ _ h1
  rw [ht] at hcv
  refine .pure h (cv := if t then ce a else ce b) ?_ ?_
  ·simp [execOp, hop, hcv.raw_inv, asBool]
  ·cases t
   ·exact hev _ _ h3
   ·exact hev _ _ h2
 ·cases ha
theorem yxm (h : HRel P B ρ H w) {t : TypeId} (hop : o.op = .alloc t) (hc : cOp P o.op = some ao) (ha : aOp tm ao H = some (av, H')) : zyf .makes P B ρ H w (execOp ce o) av H' := by
 rw [hop] at hc
 simp only [cOp, Option.map_eq_some_iff] at hc
 obtain ⟨z, hz, rfl⟩ := hc
 simp only [aOp] at ha
 cases ha
 obtain ⟨h1, h2, h3, h4⟩ := zj8 (P := P) h t (zyl ρ z).cells
 have he : execOp ce o = (do Pure.pure (.value (← Instr.alloc t true (.tuple #[])))) := by simp [execOp, hop]
 rw [he]
 refine .mk (cv := .pointer (some ⟨w.heap.size, 0, none⟩)) ?_ (show zah (.cells _ _) from rfl) (yzv h4) h2 h3
 simp only [Instr.alloc, Sem.run_bind, zyj hz, Result.andThen_ok, newVar]
 simp at h1
 simp [h1]
theorem yka (h : HRel P B ρ H w) (hev : zvg ρ tm ce) {t : TypeId} {x : Operand} (hop : o.op = .box t x) (hc : cOp P o.op = some ao) (ha : aOp tm ao H = some (av, H')) : zyf .makes P B ρ H w (execOp ce o) av H' := by
 rw [hop] at hc
 simp only [cOp, Option.map_eq_some_iff] at hc
 obtain ⟨ax, hx, rfl⟩ := hc
 simp only [aOp] at ha
 cases ha
 obtain ⟨h1, h2, h3, h4⟩ := zj8 (P := P) h t (hev _ _ hx).cells
 have he : execOp ce o = (do Pure.pure (.value (← Instr.box t (ce x)))) := by simp [execOp, hop]
 rw [he]
 refine .mk (cv := .pointer (some ⟨w.heap.size, 0, none⟩)) ?_ (show zah (.cells _ _) from rfl) (yzv h4) h2 h3
 simp only [Instr.box, Sem.run_bind, newVar]
 simp at h1
 simp [h1]
theorem zjy (ce : Operand → Value) (parts : Array (Nat × Operand)) : (parts.map fun (i, x) => (i, ce x)).toList = parts.toList.map fun (i, x) => (i, ce x) := by simp
theorem zd5 (fs : List Field) {ns : List Nat} (h : fs.mapM (fun f => zjc P f.type) = some ns) : ∀ f ∈ fs, ∃ n, zjc P f.type = some n := by
 induction fs generalizing ns with
 | nil => intro f hf; cases hf
 | cons f fs ih =>
  simp only [List.mapM_cons, Option.bind_eq_bind, Option.bind_eq_some_iff] at h
  obtain ⟨n, hn, ms, hms, _⟩ := h
  intro g hg
  rcases List.mem_cons.1 hg with rfl | hg
  ·exact ⟨n, hn⟩
  ·exact ih hms g hg
theorem zkl : ∀ (fs : List Field), (∀ f ∈ fs, ∃ n, zjc P f.type = some n) →
  (fs.mapM (m := Sem) fun f => do Pure.pure (f.offset, ← sizeOf f.type)).run P w = .ok (fs.map fun f => (f.offset, (zjc P f.type).getD 0)) w
 | [], _ => by simp
 | f :: fs, h => by
  obtain ⟨n, hn⟩ := h f (by simp)
  simp only [List.mapM_cons, Sem.run_bind, zy4 hn, Result.andThen_ok, Sem.run_pure, List.map_cons, hn]
  rw [zkl fs fun g hg => h g (by simp [hg])]
  simp
theorem yw1 (h : HRel P B ρ H w) (hev : zvg ρ tm ce) {t : TypeId} {parts : Array (Nat × Operand)} (hop : o.op = .build t parts) (hc : cOp P o.op = some ao) (ha : aOp tm ao H = some (av, H')) :
  zyf .quiet P B ρ H w (execOp ce o) av H' := by
 rw [hop] at hc
 simp only [cOp, Option.bind_eq_some_iff] at hc
 obtain ⟨z, hz, hc⟩ := hc
 have he : execOp ce o = (do Pure.pure (.value (← Instr.build t (parts.map fun (i, x) => (i, ce x))))) := by simp [execOp, hop]
 rw [he]
 split at hc
 ·rename_i fs hu
  simp only [Option.bind_eq_some_iff, Option.map_eq_some_iff] at hc
  obtain ⟨ns, hns, aps, haps, rfl⟩ := hc
  simp only [aOp, Option.map_eq_some_iff] at ha
  obtain ⟨_, ⟨out, hout, rfl⟩, heq⟩ := ha
  cases heq
  obtain ⟨cvs, h1, h2⟩ := zsy (zv4 P fs) parts.toList hev haps (zyl ρ z).cells hout
  refine .v h (cv := .agg cvs.toArray) ?_ (.agg h2)
  have hsz := zd5 (P := P) fs.toList hns
  have hpl : ∀ i, (fs.toList.map fun f => (f.offset, (zjc P f.type).getD 0)).toArray[i]? = zv4 P fs i := fun i => by
   unfold zv4
   rw [List.getElem?_toArray, List.getElem?_map, Array.getElem?_toList]
   cases hf : fs[i]? with
   | none => rfl
   | some f =>
    obtain ⟨n, hn⟩ := hsz f (by
     obtain ⟨h1, h2⟩ := Array.getElem?_eq_some_iff.1 hf
     rw [← h2]; simp)
    simp [hn]
  have hmap : (fs.mapM (m := Sem) fun f => do Pure.pure (f.offset, ← sizeOf f.type)).run P w = .ok (fs.toList.map fun f => (f.offset, (zjc P f.type).getD 0)).toArray w := by
   rw [Array.mapM_eq_mapM_toList]
   rw [Sem.run_map, zkl fs.toList hsz]
   rfl
  unfold Instr.build
  simp only [Sem.run_bind, zyj hz, Result.andThen_ok, zz7 hu]
  rw [hmap]
  simp only [Result.andThen_ok]
  have hfun : (fun i => (fs.toList.map fun f => (f.offset, (zjc P f.type).getD 0)).toArray[i]?) = zv4 P fs := funext hpl
  simp only [zjy]
  rw [hfun]
  simp at h1
  simp [h1]
 ·rename_i n e hu
  simp only [Option.bind_eq_some_iff, Option.map_eq_some_iff] at hc
  obtain ⟨k, hk, aps, haps, rfl⟩ := hc
  simp only [aOp, Option.map_eq_some_iff] at ha
  obtain ⟨_, ⟨out, hout, rfl⟩, heq⟩ := ha
  cases heq
  obtain ⟨cvs, h1, h2⟩ := zsy (fun i => some (i * k, k)) parts.toList hev haps (zyl ρ z).cells hout
  refine .v h (cv := .agg cvs.toArray) ?_ (.agg h2)
  unfold Instr.build
  simp only [Sem.run_bind, zyj hz, Result.andThen_ok, zz7 hu, zy4 hk, zjy]
  simp at h1
  simp [h1]
 ·cases hc
theorem zkk {n : Nat} {l : List AVal} : (zx1 n l).length = n * l.length := by
 induction n with
 | zero => simp [zx1]
 | succ n ih => simp [zx1, ih, Nat.succ_mul]; omega
theorem zem : ∀ (n : Nat) (l : List AVal) (i : Nat), i < n * l.length → (zx1 n l)[i]? = l[i % l.length]?
 | 0, l, i, h => by simp at h
 | n + 1, l, i, h => by
  simp only [zx1, List.getElem?_append]
  rw [Nat.succ_mul] at h
  split
  ·rename_i hi; rw [Nat.mod_eq_of_lt hi]
  ·rename_i hi
   rw [zem n l (i - l.length) (by omega)]
   rw [Nat.mod_eq_sub_mod (a := i) (by omega)]
theorem zb2 {l : List AVal} {vs : List Value} (h : VRels ρ l vs) (n : Nat) : VRels ρ (zx1 n l) ((Array.range (n * vs.length)).map (vs.toArray[· % vs.toArray.size]!)).toList := by
 have hl := h.length
 refine VRels.of_get (by simp [zkk, hl]) fun i v hv => ?_
 have hi : i < n * l.length := by
  have := (List.getElem?_eq_some_iff.1 hv).1
  rwa [zkk] at this
 rw [zem n l i hi] at hv
 obtain ⟨cv, h1, h2⟩ := h.get _ _ hv
 refine ⟨cv, ?_, h2⟩
 have h3 : i < n * vs.length := by rw [hl]; exact hi
 simp only [Array.toList_map, List.getElem?_map, Array.toList_range, List.getElem?_range h3, Option.map_some, List.size_toArray, List.getElem!_toArray]
 rw [hl, List.getElem!_eq_getElem?_getD, h1]
 rfl
theorem zht {A n len cap esz : Nat} {ex : Bool} {c : Nat} (h : ρ A 0 = some ⟨c, 0, n⟩) (hl : len ≤ cap) (hn : cap * esz ≤ n) : VRel ρ (.slice A 0 0 len cap ex esz) (.slice (some ⟨c, 0, none⟩) len cap) := by
 have := VRel.slice (off := 0) (len := len) (kcap := cap) (cap := cap) (ex := ex) (esz := esz) h (Nat.le_refl _) hl (fun _ => rfl) (by dsimp only; omega)
 simpa using this
theorem ztj : ∀ (ps : List (Nat × Nat × AVal)) (cells out : List AVal), zzm cells ps = some out → out.length = cells.length
 | [], cells, out, h => by simp [zzm] at h; rw [h]
 | (o, n, v) :: ps, cells, out, h => by
  simp only [zzm] at h
  split at h
  ·rename_i hf
   rw [ztj ps _ _ h, zea _ _ _ (by omega)]
  ·cases h
theorem zmn (h : HRel P B ρ H w) (hev : zvg ρ tm ce) {t : TypeId} {len : Nat} {parts : Array (Nat × Operand)} (hop : o.op = .buildSlice t len parts) (hc : cOp P o.op = some ao) (ha : aOp tm ao H = some (av, H')) :
  zyf .makes P B ρ H w (execOp ce o) av H' := by
 rw [hop] at hc
 simp only [cOp] at hc
 have he : execOp ce o = (do Pure.pure (.value (← Instr.buildSlice t len (parts.map fun (i, x) => (i, ce x))))) := by simp [execOp, hop]
 rw [he]
 split at hc
 ·rename_i e hu
  simp only [Option.bind_eq_some_iff] at hc
  obtain ⟨n, hn, z, hz, hc⟩ := hc
  split at hc
  ·rename_i hcond
   simp only [Bool.and_eq_true, decide_eq_true_eq, beq_iff_eq] at hcond
   obtain ⟨aps, haps, rfl⟩ := Option.map_eq_some_iff.1 hc
   simp only [aOp, Option.map_eq_some_iff] at ha
   obtain ⟨out, hout, heq⟩ := ha
   cases heq
   have hzr := (zyl ρ z).cells
   have hzl := hzr.length
   have hzero := zb2 hzr len
   obtain ⟨cvs, h1, h2⟩ := zsy (fun i => some (i * n, n)) parts.toList hev haps hzero hout
   have hol := ztj _ _ _ hout
   rw [zkk, hcond.2] at hol
   obtain ⟨h3, h4, h5, h6⟩ := zj8 (P := P) h e h2
   have hcl := h2.length
   refine .mk (cv := .slice (some ⟨w.heap.size, 0, none⟩) len len) ?_ (show zah (.cells _ _) from rfl) (zht h6 (Nat.le_refl _) (by simp; omega)) h4 h5
   unfold Instr.buildSlice
   simp only [Sem.run_bind, zz7 hu, Result.andThen_ok, zy4 hn]
   rw [if_neg (by omega)]
   have hzc : z.cells.toList.length = n := by rw [hzl, hcond.2]
   simp only [Array.toArray_toList] at h1
   have hcells : ∀ zero : Array Value, (len * n = 0 ∨ zero = z.cells) → (Array.range (len * n)).map (fun x => zero[x % zero.size]!) = (Array.range (len * z.cells.toList.length)).map (fun x => z.cells[x % z.cells.size]!) := fun zero hzz => by
    rw [hzc]
    rcases hzz with h0 | rfl
    ·rw [h0]; simp
    ·rfl
   by_cases h0 : len * n = 0
   ·rw [if_pos h0]
    simp only [Sem.run_bind, Sem.run_pure, Result.andThen_ok, zjy]
    rw [hcells _ (.inl h0), h1]
    simp only [Sem.run_bind, h3, Result.andThen_ok, Sem.run_pure]
   ·rw [if_neg h0]
    simp only [Sem.run_bind, zyj hz, Sem.run_pure, Result.andThen_ok, zjy]
    rw [hcells _ (.inr rfl), h1]
    simp only [Sem.run_bind, h3, Result.andThen_ok, Sem.run_pure]
  ·cases hc
 ·cases hc
end
section
variable {P : Program} {B : Base} {ρ : Ren} {H H' : zz6} {w w' : World} {tm : List AVal} {ce : Operand → Value} {o : Oper} {av : AVal} {ao : AOp}
theorem yve (h : HRel P B ρ H w) (hev : zvg ρ tm ce) {t : TypeId} {x : Operand} (hop : o.op = .load t x) (hc : cOp P o.op = some ao) (ha : aOp tm ao H = some (av, H')) : zyf .quiet P B ρ H w (execOp ce o) av H' := by
 rw [hop] at hc
 simp only [cOp, Option.bind_eq_some_iff, Option.map_eq_some_iff] at hc
 obtain ⟨⟨a, n⟩, hp, ax, hx, rfl⟩ := hc
 obtain ⟨d, m, hd, hm, rfl, rfl⟩ := zux hp
 have he : execOp ce o = (do Pure.pure (.value (← Instr.loadAt t (ce x)))) := by simp [execOp, hop]
 rw [he]
 simp only [aOp] at ha
 split at ha
 ·rename_i A ver off hxe
  simp only [Option.map_eq_some_iff, Option.bind_eq_some_iff] at ha
  obtain ⟨_, ⟨cells, hr, hif⟩, heq⟩ := ha
  cases heq
  have hxv := hev _ _ hx
  rw [hxe] at hxv
  obtain ⟨l, hl, hcx⟩ := hxv.ptr_inv
  unfold aPart at hif
  cases hagg : zj3 d with
  | true =>
   simp only [hagg, if_true] at hif
   split at hif
   ·rename_i hfit
    cases hif
    obtain ⟨cvs, h1, h2⟩ := zw6 (P := P) (h.rowAt hr hl) hfit
    refine .v h (cv := .agg cvs.toArray) ?_ (.agg h2)
    simp [Instr.loadAt, hcx, Instr.sureAddr, loadVar, zqp hd, hagg, zy4 hm, h1]
   ·cases hif
  | false =>
   simp only [hagg, Bool.false_eq_true, if_false] at hif
   split at hif
   ·obtain ⟨cv, h1, h2⟩ := ztb (P := P) (h.rowAt hr hl) hif
    refine .v h (cv := cv) ?_ h2
    simp only [Instr.loadAt, hcx, Instr.sureAddr, loadVar, Sem.run_bind, Sem.run_pure, Result.andThen_ok, zqp hd, hagg, Bool.false_eq_true, if_false, h1]
   ·cases hif
 ·cases ha
theorem yxb (h : HRel P B ρ H w) (hev : zvg ρ tm ce) {t : TypeId} {a x : Operand} (hop : o.op = .store t a x) (hc : cOp P o.op = some ao) (ha : aOp tm ao H = some (av, H')) : zyf .any P B ρ H w (execOp ce o) av H' := by
 rw [hop] at hc
 simp only [cOp, Option.bind_eq_some_iff, Option.map_eq_some_iff] at hc
 obtain ⟨n, hn, aa, haa, ax, hx, rfl⟩ := hc
 have he : execOp ce o = (do Instr.storeAt t (ce a) (ce x); Pure.pure .skip) := by simp [execOp, hop]
 rw [he]
 simp only [aOp] at ha
 split at ha
 ·rename_i A ver off hae
  split at ha
  ·rename_i hlen
   obtain ⟨H'', hw, heq⟩ := Option.map_eq_some_iff.1 ha
   cases heq
   have hav := hev _ _ haa
   rw [hae] at hav
   obtain ⟨l, hl, hca⟩ := hav.ptr_inv
   have hcells := (hev _ _ hx).cells
   obtain ⟨w', h1, h2⟩ := h.write hw hl hcells
   refine .uw ?_ h2 (Ren.le_refl _)
   have hcl := hcells.length
   simp only [Instr.storeAt, hca, Instr.sureAddr, Sem.run_bind, Sem.run_pure, Result.andThen_ok, storeVar, zy4 hn]
   rw [if_neg (by simp at hcl; omega)]
   exact h1
  ·cases ha
 ·cases ha
theorem zg5 (h : HRel P B ρ H w) (hev : zvg ρ tm ce) {x : Operand} (hop : o.op = .nilCheck x) (hc : cOp P o.op = some ao) (ha : aOp tm ao H = some (av, H')) : zyf .quiet P B ρ H w (execOp ce o) av H' := by
 rw [hop] at hc
 simp only [cOp, Option.map_eq_some_iff] at hc
 obtain ⟨ax, hx, rfl⟩ := hc
 have hxv := hev _ _ hx
 simp only [aOp] at ha
 split at ha
 ·rename_i hxe
  cases ha
  rw [hxe] at hxv
  obtain ⟨l, hl, hcx⟩ := hxv.ptr_inv
  exact .pure h (cv := ce x) (by simp [execOp, hop, hcx]) hxv
 ·rename_i fn cs hxe
  cases ha
  rw [hxe] at hxv
  obtain ⟨vs, hvs, hcx⟩ := hxv.func_inv
  refine .pure h (cv := ce x) ?_ hxv
  rw [hcx]
  cases fn <;> simp [execOp, hop, hcx]
 ·rename_i hxe
  cases ha
  rw [hxe] at hxv
  obtain ⟨l, hl, hcx⟩ := hxv.yield_inv
  exact .pure h (cv := ce x) (by simp [execOp, hop, hcx]) hxv
 ·rename_i hxe
  cases ha
  rw [hxe] at hxv
  obtain ⟨l, hl, hcx⟩ := hxv.map_inv
  exact .pure h (cv := ce x) (by simp [execOp, hop, hcx]) hxv
 ·cases ha
theorem yu3 (h : HRel P B ρ H w) (hev : zvg ρ tm ce) {op : UnOp} {t : TypeId} {x : Operand} (hop : o.op = .unOp op t x) (hc : cOp P o.op = some ao) (ha : aOp tm ao H = some (av, H')) : zyf .quiet P B ρ H w (execOp ce o) av H' := by
 rw [hop] at hc
 simp only [cOp, Option.map_eq_some_iff] at hc
 obtain ⟨ax, hx, rfl⟩ := hc
 have hxv := hev _ _ hx
 have he : execOp ce o = (do Pure.pure (.value (← Op.unary op (ce x)))) := by simp [execOp, hop]
 rw [he]
 simp only [aOp, Option.map_eq_some_iff] at ha
 obtain ⟨_, hu, heq⟩ := ha
 cases heq
 unfold aUn at hu
 split at hu
 ·rename_i k n hxe
  cases hu
  rw [hxe] at hxv
  exact .v h (cv := .int k (zq3 k (0 - n))) (by rw [hxv.raw_inv]; simp [Op.unary, Op.intArith, zk6]) (.raw _)
 ·rename_i k n hxe
  obtain ⟨m, hm, rfl⟩ := Option.map_eq_some_iff.1 hu
  rw [hxe] at hxv
  exact .v h (by rw [hxv.raw_inv]; simp only [Op.unary]; exact zpk hm) (.raw _)
 ·rename_i b hxe
  cases hu
  rw [hxe] at hxv
  exact .v h (cv := .bool !b) (by rw [hxv.raw_inv]; simp [Op.unary]) (.raw _)
 ·cases hu
theorem yyw (h : HRel P B ρ H w) (hev : zvg ρ tm ce) {s : TypeId} {x : Operand} {f : Nat} (hop : o.op = .fieldAddr s x f) (hc : cOp P o.op = some ao) (ha : aOp tm ao H = some (av, H')) : zyf .quiet P B ρ H w (execOp ce o) av H' := by
 rw [hop] at hc
 simp only [cOp] at hc
 split at hc
 ·rename_i fs hu
  simp only [Option.bind_eq_some_iff] at hc
  obtain ⟨fd, hf, n, hn, hc⟩ := hc
  split at hc
  ·cases hc
  ·rename_i hn0
   obtain ⟨ax, hx, rfl⟩ := Option.map_eq_some_iff.1 hc
   have hxv := hev _ _ hx
   have he : execOp ce o = (do Pure.pure (.value (← Instr.fieldAt s (ce x) f))) := by simp [execOp, hop]
   rw [he]
   simp only [aOp] at ha
   split at ha
   ·rename_i A v off hxe
    cases ha
    rw [hxe] at hxv
    obtain ⟨l, hl, hcx⟩ := hxv.ptr_inv
    refine .v h (cv := .pointer (some ⟨l.c, l.s + off + fd.offset, none⟩)) ?_ (by rw [Nat.add_assoc]; exact .ptr hl)
    simp [Instr.fieldAt, zz7 hu, hf, hcx, Instr.sureAddr, fieldPlace, zy4 hn, hn0, zvk]
   ·cases ha
 ·cases hc
theorem yxf (h : HRel P B ρ H w) (hev : zvg ρ tm ce) {s : TypeId} {x : Operand} {f : Nat} (hop : o.op = .field s x f) (hc : cOp P o.op = some ao) (ha : aOp tm ao H = some (av, H')) : zyf .quiet P B ρ H w (execOp ce o) av H' := by
 rw [hop] at hc
 simp only [cOp] at hc
 split at hc
 ·rename_i fs hu
  simp only [Option.bind_eq_some_iff, Option.map_eq_some_iff] at hc
  obtain ⟨fd, hf, ⟨a, n⟩, hp, ax, hx, rfl⟩ := hc
  have hxv := hev _ _ hx
  have he : execOp ce o = (do Pure.pure (.value (← Instr.field s (ce x) f))) := by simp [execOp, hop]
  rw [he]
  simp only [aOp] at ha
  split at ha
  ·rename_i cs hxe
   obtain ⟨_, hpart, heq⟩ := Option.map_eq_some_iff.1 ha
   cases heq
   rw [hxe] at hxv
   obtain ⟨vs, hvs, hcx⟩ := hxv.agg_inv
   obtain ⟨cv, h1, h2⟩ := zju (P := P) (w := w) hp hvs hpart
   refine .v h (cv := cv) ?_ h2
   simp only [Instr.field, Sem.run_bind, zz7 hu, Result.andThen_ok, hf, hcx, asAgg, Sem.run_pure, h1]
  ·cases ha
 ·cases hc
theorem zcb {i : Int} {len : Nat} (h : (ile 0 i && ilt i len) = true) : 0 ≤ i ∧ i < (len : Int) := by
 simpa [ile_eq, ilt_eq] using h
theorem zdp (h : HRel P B ρ H w) (hev : zvg ρ tm ce) {t : TypeId} {x i : Operand} (hop : o.op = .indexAddr t x i) (hc : cOp P o.op = some ao) (ha : aOp tm ao H = some (av, H')) : zyf .quiet P B ρ H w (execOp ce o) av H' := by
 rw [hop] at hc
 simp only [cOp] at hc
 have he : execOp ce o = (do Pure.pure (.value (← Instr.indexAt t (ce x) (ce i)))) := by simp [execOp, hop]
 rw [he]
 split at hc
 ·rename_i len e hu
  simp only [Option.bind_eq_some_iff, Option.map_eq_some_iff] at hc
  obtain ⟨n, hn, ax, hx, ai, hi, rfl⟩ := hc
  have hxv := hev _ _ hx
  have hiv := hev _ _ hi
  simp only [aOp] at ha
  split at ha
  ·rename_i A v off k j hxe hie
   split at ha
   ·rename_i hb
    cases ha
    rw [hxe] at hxv
    rw [hie] at hiv
    obtain ⟨l, hl, hcx⟩ := hxv.ptr_inv
    have hb' := zcb hb
    refine .v h (cv := .pointer (some ⟨l.c, l.s + off + j.toNat * n, none⟩)) ?_ (by rw [Nat.add_assoc]; exact .ptr hl)
    rw [hiv.raw_inv, hcx]
    simp only [Instr.indexAt, asIntOf, Sem.run_bind, Sem.run_pure, Result.andThen_ok, zz7 hu, Instr.sureAddr]
    rw [if_pos hb']
    simp [zy4 hn, zvk]
   ·cases ha
  ·cases ha
 ·rename_i e hu
  simp only [Option.bind_eq_some_iff, Option.map_eq_some_iff] at hc
  obtain ⟨n, hn, ax, hx, ai, hi, rfl⟩ := hc
  have hxv := hev _ _ hx
  have hiv := hev _ _ hi
  simp only [aOp] at ha
  split at ha
  ·rename_i A v off len kcap ex esz k j hxe hie
   split at ha
   ·rename_i hb
    cases ha
    rw [hxe] at hxv
    rw [hie] at hiv
    obtain ⟨l, a, cap, hl, hcx, hk, hlen, _, hor⟩ := hxv.slice_inv
    have hb' := zcb hb
    rcases hor with ⟨rfl, hn'⟩ | ⟨rfl, _, _⟩
    ·refine .v h (cv := .pointer (some ⟨l.c, l.s + off + j.toNat * n, none⟩)) ?_ (by rw [Nat.add_assoc]; exact .ptr hl)
     rw [hiv.raw_inv, hcx]
     simp only [Instr.indexAt, asIntOf, Sem.run_bind, Sem.run_pure, Result.andThen_ok, zz7 hu]
     rw [if_pos hb']
     simp [zy4 hn, zvk]
    ·omega
   ·cases ha
  ·cases ha
 ·cases hc
theorem yxj (h : HRel P B ρ H w) (hev : zvg ρ tm ce) {t : TypeId} {x i : Operand} (hop : o.op = .index t x i) (hc : cOp P o.op = some ao) (ha : aOp tm ao H = some (av, H')) : zyf .quiet P B ρ H w (execOp ce o) av H' := by
 rw [hop] at hc
 simp only [cOp] at hc
 have he : execOp ce o = (do Pure.pure (.value (← Instr.index t (ce x) (ce i)))) := by simp [execOp, hop]
 rw [he]
 split at hc
 ·rename_i len e hu
  simp only [Option.bind_eq_some_iff] at hc
  obtain ⟨⟨a, n⟩, hp, m, hm, hc⟩ := hc
  split at hc
  ·rename_i hnm
   dsimp only at hnm
   subst hnm
   simp only [Option.bind_eq_some_iff, Option.map_eq_some_iff] at hc
   obtain ⟨ax, hx, ai, hi, rfl⟩ := hc
   have hxv := hev _ _ hx
   have hiv := hev _ _ hi
   simp only [aOp] at ha
   split at ha
   ·rename_i cs k j hxe hie
    split at ha
    ·rename_i hb
     obtain ⟨_, hpart, heq⟩ := Option.map_eq_some_iff.1 ha
     cases heq
     rw [hxe] at hxv
     rw [hie] at hiv
     obtain ⟨vs, hvs, hcx⟩ := hxv.agg_inv
     have hb' := zcb hb
     obtain ⟨cv, h1, h2⟩ := zju (P := P) (w := w) hp hvs hpart
     refine .v h (cv := cv) ?_ h2
     rw [hiv.raw_inv, hcx]
     simp only [Instr.index, asIntOf, Sem.run_bind, Sem.run_pure, Result.andThen_ok, zz7 hu]
     rw [if_pos hb']
     simp only [Sem.run_bind, zy4 hm, Result.andThen_ok, h1]
    ·cases ha
   ·cases ha
  ·cases hc
 ·rename_i hu
  simp only [Option.bind_eq_some_iff, Option.map_eq_some_iff] at hc
  obtain ⟨ax, hx, ai, hi, rfl⟩ := hc
  have hxv := hev _ _ hx
  have hiv := hev _ _ hi
  simp only [aOp] at ha
  split at ha
  ·rename_i s k j hxe hie
   split at ha
   ·rename_i hb
    simp only [Option.map_eq_some_iff] at ha
    obtain ⟨_, ⟨b, hb2, rfl⟩, heq⟩ := ha
    cases heq
    rw [hxe] at hxv
    rw [hie] at hiv
    have hb' : 0 ≤ j := by simpa [ile_eq] using hb
    refine .v h (cv := .int .u8 b.toNat) ?_ (.raw _)
    rw [hiv.raw_inv, hxv.raw_inv]
    have hsb : s[j.toNat]? = some b := by
     obtain ⟨h1, h2⟩ := List.getElem?_eq_some_iff.1 hb2
     have h1' : j.toNat < s.size := h1
     rw [getElem?_pos s j.toNat h1']
     congr 1
    simp only [Instr.index, asIntOf, Sem.run_bind, Sem.run_pure, Result.andThen_ok, zz7 hu]
    rw [if_pos hb', hsb]
    rfl
   ·cases ha
  ·cases ha
 ·cases hc
end
section
variable {P : Program} {B : Base} {ρ : Ren} {H H' : zz6} {w w' : World} {tm : List AVal} {ce : Operand → Value} {o : Oper} {av : AVal} {ao : AOp}
theorem zjx {x : AVal} {cx : Value} {top n : Nat} (h : zxz x top = some n) (hx : VRel ρ x cx) : n ≤ top ∧ ∀ y code, top ≤ y → (Instr.sliceBound cx y code).run P w = .ok n w := by
 unfold zxz at h
 split at h
 ·rename_i k i
  split at h
  ·rename_i hb
   cases h
   have hb' : 0 ≤ i ∧ i ≤ (top : Int) := by simpa [ile_eq] using hb
   refine ⟨by omega, fun y code hy => ?_⟩
   rw [hx.raw_inv]
   simp only [Instr.sliceBound, asIntOf, Sem.run_bind, Sem.run_pure, Result.andThen_ok]
   rw [if_pos (by omega)]
   rfl
  ·cases h
 ·cases h
theorem zjj (hev : zvg ρ tm ce) {lo hi mx : Option Operand} {alo ahi amx : Option AOpd} (hlo : znf lo = some alo) (hhi : znf hi = some ahi) (hmx : znf mx = some amx)
  {len kcap cap : Nat} (isS : Bool) (hk : kcap ≤ cap) :
  (∀ h l, amx = none → zy7 (ahi.map (ev tm)) len kcap = some h → zy7 (alo.map (ev tm)) 0 h = some l → len ≤ kcap →
   (Instr.sliceBounds isS len cap (lo.map ce) (hi.map ce) (mx.map ce)).run P w = .ok (l, h, cap) w ∧ l ≤ h ∧ h ≤ kcap) ∧
  (∀ am ah m h l, amx = some am → ahi = some ah → zxz (ev tm am) kcap = some m → zxz (ev tm ah) m = some h → zy7 (alo.map (ev tm)) 0 h = some l →
   (Instr.sliceBounds isS len cap (lo.map ce) (hi.map ce) (mx.map ce)).run P w = .ok (l, h, m) w ∧ l ≤ h ∧ h ≤ m ∧ m ≤ kcap) := by
 have low : ∀ (h l : Nat) (code : BoundsCode) (K : Nat → Sem (Nat × Nat × Nat)), zy7 (alo.map (ev tm)) 0 h = some l →
   (match lo.map ce with | some v => do let l ← Instr.sliceBound v h code; K l | none => do let l ← pure 0; K l : Sem (Nat × Nat × Nat)).run P w = (K l).run P w ∧ l ≤ h := fun h l code K hl => by
  rcases zqm hlo with ⟨rfl, rfl⟩ | ⟨y, ay, rfl, rfl, hy⟩
  ·simp [zy7] at hl; subst hl; exact ⟨by simp, Nat.zero_le _⟩
  ·simp only [Option.map_some, zy7] at hl
   obtain ⟨h1, h2⟩ := zjx (P := P) (w := w) hl (hev _ _ hy)
   refine ⟨?_, h1⟩
   simp only [Option.map_some, Sem.run_bind]
   rw [h2 _ _ (Nat.le_refl _)]
   rfl
 constructor
 ·intro h l hm hh hl hle
  rcases zqm hmx with ⟨rfl, rfl⟩ | ⟨y, ay, rfl, rfl, hy⟩
  ·rcases zqm hhi with ⟨rfl, rfl⟩ | ⟨y, ay, rfl, rfl, hy⟩
   ·simp [zy7] at hh; subst hh
    obtain ⟨h1, h2⟩ := low _ _ (if (none : Option Value).isSome then .slice3C else .sliceB) (fun l => pure (l, _, _)) hl
    refine ⟨?_, h2, hle⟩
    simp only [Instr.sliceBounds, Option.map_none, Sem.run_bind, Sem.run_pure, Result.andThen_ok]
    exact h1
   ·simp only [Option.map_some, zy7] at hh
    obtain ⟨h3, h4⟩ := zjx (P := P) (w := w) hh (hev _ _ hy)
    obtain ⟨h1, h2⟩ := low _ _ (if (none : Option Value).isSome then .slice3C else .sliceB) (fun l => pure (l, _, _)) hl
    refine ⟨?_, h2, h3⟩
    simp only [Instr.sliceBounds, Option.map_none, Option.map_some, Sem.run_bind, Sem.run_pure, Result.andThen_ok]
    rw [h4 _ _ hk]
    simp only [Result.andThen_ok]
    exact h1
  ·cases hm
 ·intro am ah m h l e1 e2 hm hh hl
  rcases zqm hmx with ⟨rfl, rfl⟩ | ⟨y, ay, rfl, rfl, hy⟩
  ·cases e1
  ·cases e1
   rcases zqm hhi with ⟨rfl, rfl⟩ | ⟨z, az, rfl, rfl, hz⟩
   ·cases e2
   ·cases e2
    obtain ⟨h3, h4⟩ := zjx (P := P) (w := w) hm (hev _ _ hy)
    obtain ⟨h5, h6⟩ := zjx (P := P) (w := w) hh (hev _ _ hz)
    obtain ⟨h1, h2⟩ := low _ _ (if (some (ce y)).isSome then .slice3C else .sliceB) (fun l => pure (l, _, _)) hl
    refine ⟨?_, h2, h5, h3⟩
    simp only [Instr.sliceBounds, Option.map_some, Sem.run_bind, Sem.run_pure, Result.andThen_ok]
    rw [h4 _ _ hk]
    simp only [Result.andThen_ok]
    rw [h6 _ _ (Nat.le_refl _)]
    simp only [Result.andThen_ok]
    exact h1
theorem ywf {c : Prop} [Decidable c] (a : Addr) (f : Addr → Addr) : (if c then some a else Option.map f (some a)) = some (if c then a else f a) := by split <;> rfl
theorem zsx {A ver off esz : Nat} {l : Loc} {lo h kc cap : Nat} {ex : Bool} (hl : ρ A ver = some l) (hlh : lo ≤ h) (hk : kc ≤ cap) (hle : h ≤ kc) (he : ex = true → cap = kc) (hn : l.s + off + cap * esz ≤ l.n) :
  VRel ρ (.slice A ver (off + lo * esz) (h - lo) (kc - lo) ex esz) (.slice (some (if cap = lo then ⟨l.c, l.s + off, none⟩ else (⟨l.c, l.s + off, none⟩ : Addr).add (lo * esz))) (h - lo) (cap - lo)) := by
 by_cases e : cap = lo
 ·have e1 : h - lo = 0 := by omega
  have e2 : kc - lo = 0 := by omega
  have e3 : cap - lo = 0 := by omega
  rw [if_pos e, e1, e2, e3]
  exact .sliceE hl
 ·rw [if_neg e, zvk, Nat.add_assoc]
  refine .slice hl (by omega) (by omega) (fun hx => by have := he hx; omega) ?_
  have : (cap - lo) * esz = cap * esz - lo * esz := Nat.sub_mul _ _ _
  have : lo * esz ≤ cap * esz := Nat.mul_le_mul_right _ (by omega)
  omega
theorem yw2 (h : HRel P B ρ H w) (hev : zvg ρ tm ce) {t : TypeId} {x : Operand} {lo hi mx : Option Operand} (hop : o.op = .slice t x lo hi mx) (hc : cOp P o.op = some ao) (ha : aOp tm ao H = some (av, H')) :
  zyf .quiet P B ρ H w (execOp ce o) av H' := by
 rw [hop] at hc
 simp only [cOp, Option.bind_eq_some_iff] at hc
 obtain ⟨alo, hlo, ahi, hhi, amx, hmx, hc⟩ := hc
 have he : execOp ce o = (do Pure.pure (.value (← Instr.sliceAt t (ce x) (lo.map ce) (hi.map ce) (mx.map ce)))) := by simp [execOp, hop]
 rw [he]
 split at hc
 ·rename_i n e hu
  simp only [Option.bind_eq_some_iff, Option.map_eq_some_iff] at hc
  obtain ⟨s, hs, ax, hx, rfl⟩ := hc
  have hxv := hev _ _ hx
  simp only [aOp, Option.map_eq_some_iff] at ha
  obtain ⟨_, hsl, heq⟩ := ha
  cases heq
  unfold zt8 at hsl
  split at hsl
  ·rename_i A ver off hxe
   rw [hxe] at hxv
   obtain ⟨l, hl, hcx⟩ := hxv.ptr_inv
   obtain ⟨cells, hr, hsl⟩ := Option.bind_eq_some_iff.1 hsl
   split at hsl
   ·rename_i hfit
    obtain ⟨arr, e', fz, ha', hn', hcs⟩ := h.rowAt hr hl
    have hroom : l.s + off + n * s ≤ l.n := by
     obtain ⟨cv, h1, _⟩ := hcs (off + n * s - 1) _ (List.getElem?_eq_getElem (by omega))
     have := (Array.getElem?_eq_some_iff.1 h1).1
     omega
    obtain ⟨hb1, hb2⟩ := zjj (P := P) (w := w) hev hlo hhi hmx (len := n) (kcap := n) (cap := n) false (Nat.le_refl _)
    cases amx with
    | none =>
     simp only [Option.map_none, Option.bind_eq_some_iff, Option.map_eq_some_iff] at hsl
     obtain ⟨hh, h1, ll, h2, rfl⟩ := hsl
     obtain ⟨h3, h4, h5⟩ := hb1 hh ll rfl h1 h2 (Nat.le_refl _)
     refine .v h ?_ (zsx (ex := true) hl h4 (Nat.le_refl _) h5 (fun _ => rfl) hroom)
     simp only [Instr.sliceAt, Sem.run_bind, zz7 hu, Result.andThen_ok, hcx, Instr.sureAddr, Sem.run_pure]
     rw [h3]
     simp only [Result.andThen_ok, zy4 hs]
    | some am =>
     simp only [Option.map_some, Option.bind_eq_some_iff] at hsl
     obtain ⟨m, h1, hsl⟩ := hsl
     cases ahi with
     | none => cases hsl
     | some ah =>
      simp only [Option.map_some, Option.bind_eq_some_iff, Option.map_eq_some_iff] at hsl
      obtain ⟨hh, h2, ll, h3, rfl⟩ := hsl
      obtain ⟨h4, h5, h6, h7⟩ := hb2 am ah m hh ll rfl rfl h1 h2 h3
      have hms : m * s ≤ n * s := Nat.mul_le_mul_right _ h7
      refine .v h ?_ (zsx (ex := true) hl h5 (Nat.le_refl m) h6 (fun _ => rfl) (by omega))
      simp only [Instr.sliceAt, Sem.run_bind, zz7 hu, Result.andThen_ok, hcx, Instr.sureAddr, Sem.run_pure]
      rw [h4]
      simp only [Result.andThen_ok, zy4 hs]
   ·cases hsl
  ·cases hsl
 ·rename_i e hu
  simp only [Option.bind_eq_some_iff, Option.map_eq_some_iff] at hc
  obtain ⟨s, hs, ax, hx, rfl⟩ := hc
  have hxv := hev _ _ hx
  simp only [aOp, Option.map_eq_some_iff] at ha
  obtain ⟨_, hsl, heq⟩ := ha
  cases heq
  have hrun : ∀ (a : Option Addr) (len cap l hh m : Nat), ce x = .slice a len cap → (Instr.sliceBounds true len cap (lo.map ce) (hi.map ce) (mx.map ce)).run P w = .ok (l, hh, m) w →
    (Instr.sliceAt t (ce x) (lo.map ce) (hi.map ce) (mx.map ce)).run P w = .ok (.slice (if m = l then a else a.map (·.add (l * s))) (hh - l) (m - l)) w := fun a len cap l hh m hcx hb => by
   simp only [Instr.sliceAt, Sem.run_bind, zz7 hu, Result.andThen_ok, Instr.slice, hcx]
   rw [hb]
   simp only [Result.andThen_ok, zy4 hs, Sem.run_pure]
  unfold zye at hsl
  split at hsl
  ·rename_i A ver off len kcap ex esz hxe
   split at hsl
   ·rename_i hes
    subst hes
    rw [hxe] at hxv
    obtain ⟨l, a, cap, hl, hcx, hk, hlen, hex, hor⟩ := hxv.slice_inv
    obtain ⟨hb1, hb2⟩ := zjj (P := P) (w := w) hev hlo hhi hmx (len := len) (kcap := kcap) (cap := cap) true hk
    cases amx with
    | none =>
     simp only [Option.map_none, Option.bind_eq_some_iff, Option.map_eq_some_iff] at hsl
     obtain ⟨hh, h1, ll, h2, rfl⟩ := hsl
     obtain ⟨h3, h4, h5⟩ := hb1 hh ll rfl h1 h2 hlen
     refine .v h (hrun _ _ _ _ _ _ hcx h3) ?_
     rcases hor with ⟨rfl, hn⟩ | ⟨h6, h7, h8⟩
     ·have := zsx (ex := ex) hl h4 hk h5 hex hn
      rw [ywf]
      exact this
     ·have e1 : hh - ll = 0 := by omega
      have e2 : kcap - ll = 0 := by omega
      have e3 : cap - ll = 0 := by omega
      rw [if_pos (by omega), e1, e2, e3]
      exact .sliceE hl
    | some am =>
     simp only [Option.map_some, Option.bind_eq_some_iff] at hsl
     obtain ⟨m, h1, hsl⟩ := hsl
     cases ahi with
     | none => cases hsl
     | some ah =>
      simp only [Option.map_some, Option.bind_eq_some_iff, Option.map_eq_some_iff] at hsl
      obtain ⟨hh, h2, ll, h3, rfl⟩ := hsl
      obtain ⟨h4, h5, h6, h7⟩ := hb2 am ah m hh ll rfl rfl h1 h2 h3
      refine .v h (hrun _ _ _ _ _ _ hcx h4) ?_
      rcases hor with ⟨rfl, hn⟩ | ⟨h8, h9, h10⟩
      ·have hms : m * esz ≤ cap * esz := Nat.mul_le_mul_right _ (by omega)
       have := zsx (ex := true) (off := off) (cap := m) (esz := esz) (lo := ll) hl h5 (Nat.le_refl m) h6 (fun _ => rfl) (by omega)
       rw [ywf]
       exact this
      ·have e1 : hh - ll = 0 := by omega
       have e3 : m - ll = 0 := by omega
       rw [if_pos (by omega), e1, e3]
       exact .sliceE hl
   ·cases hsl
  ·rename_i hxe
   rw [hxe] at hxv
   have hcx := hxv.raw_inv
   obtain ⟨hb1, hb2⟩ := zjj (P := P) (w := w) hev hlo hhi hmx (len := 0) (kcap := 0) (cap := 0) true (Nat.le_refl _)
   cases amx with
   | none =>
    simp only [Option.map_none, Option.bind_eq_some_iff, Option.map_eq_some_iff] at hsl
    obtain ⟨hh, h1, ll, h2, rfl⟩ := hsl
    obtain ⟨h3, h4, h5⟩ := hb1 hh ll rfl h1 h2 (Nat.le_refl _)
    refine .v h (hrun _ _ _ _ _ _ hcx h3) ?_
    have e1 : hh - ll = 0 := by omega
    have e2 : 0 - ll = 0 := by omega
    rw [if_pos (by omega), e1, e2]
    exact .raw _
   | some am =>
    simp only [Option.map_some, Option.bind_eq_some_iff] at hsl
    obtain ⟨m, h1, hsl⟩ := hsl
    cases ahi with
    | none => cases hsl
    | some ah =>
     simp only [Option.map_some, Option.bind_eq_some_iff, Option.map_eq_some_iff] at hsl
     obtain ⟨hh, h2, ll, h3, rfl⟩ := hsl
     obtain ⟨h4, h5, h6, h7⟩ := hb2 am ah m hh ll rfl rfl h1 h2 h3
     refine .v h (hrun _ _ _ _ _ _ hcx h4) ?_
     have e1 : hh - ll = 0 := by omega
     have e2 : m - ll = 0 := by omega
     rw [if_pos (by omega), e1, e2]
     exact .raw _
  ·cases hsl
 ·rename_i hu
  cases amx with
  | some am => cases hc
  | none =>
   obtain ⟨ax, hx, rfl⟩ := Option.map_eq_some_iff.1 hc
   have hxv := hev _ _ hx
   simp only [aOp, Option.map_eq_some_iff] at ha
   obtain ⟨_, hsl, heq⟩ := ha
   cases heq
   unfold zlx at hsl
   split at hsl
   ·rename_i s hxe
    rw [hxe] at hxv
    have hcx := hxv.raw_inv
    simp only [Option.bind_eq_some_iff, Option.map_eq_some_iff] at hsl
    obtain ⟨hh, h1, ll, h2, rfl⟩ := hsl
    have hsz : s.data.toList.length = s.size := rfl
    rw [hsz] at h1
    obtain ⟨hb1, _⟩ := zjj (P := P) (w := w) hev hlo hhi hmx (len := s.size) (kcap := s.size) (cap := s.size) false (Nat.le_refl _)
    obtain ⟨h3, h4, h5⟩ := hb1 hh ll rfl h1 h2 (Nat.le_refl _)
    rcases zqm hmx with ⟨rfl, _⟩ | ⟨y, ay, rfl, h, _⟩
    ·refine .v h (cv := .string (s.extract ll hh)) ?_ ?_
     ·simp only [Instr.sliceAt, Sem.run_bind, zz7 hu, Result.andThen_ok, Instr.slice, hcx, Option.map_none, Option.isSome_none, Bool.false_eq_true, if_false, Sem.run_pure]
      simp only [Option.map_none] at h3
      rw [h3]
      simp only [Result.andThen_ok]
     ·have : s.extract ll hh = ⟨((s.data.toList.drop ll).take (hh - ll)).toArray⟩ := by
       apply ByteArray.ext
       apply Array.ext'
       simp [ByteArray.data_extract, List.extract]
      rw [this]
      exact .raw _
    ·cases h
   ·cases hsl
 ·cases hc
end
end Go.Vm
