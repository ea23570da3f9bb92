/- The abstract machine, part 13a: the operations are sound (ranges over maps, clear). -/
import Derived.Test.YthbjfkkjmecaaaaY05
import Derived.Laws.IdiomRangeMap
import Derived.Lib.AppendZerosOnto
set_option linter.unusedVariables false
set_option linter.unusedSimpArgs false
namespace Go.Vm
open Go
section
variable {P : Program} {B : Base} {ρ : Ren} {H H' : zz6} {w w' : World} {tm : List AVal} {ce : Operand → Value} {o : Oper} {av : AVal} {ao : AOp}
theorem zdk (h : HRel P B ρ H w) (hev : zvg ρ tm ce) {t : TypeId} {x : Operand} (hop : o.op = .range t x) (hc : cOp P o.op = some ao) (ha : aOp tm ao H = some (av, H')) : zyf .any P B ρ H w (execOp ce o) av H' := by
 rw [hop] at hc
 simp only [cOp] at hc
 have he : execOp ce o = (do Pure.pure (.value (← Instr.range t (ce x)))) := by simp [execOp, hop]
 rw [he]
 split at hc
 ·rename_i k e hu
  obtain ⟨ax, hx, rfl⟩ := Option.map_eq_some_iff.1 hc
  have hxv := hev _ _ hx
  simp only [aOp, zb5] at ha
  have hn := h.fresh H.next 0 (Nat.le_refl _)
  have hsing : zxg (ρ.put H.next 0 ⟨w.heap.size, 0, 0⟩) H.next := fun v hv => by rw [Ren.put_ne _ _ (by omega)]; exact h.fresh _ _ (Nat.le_refl _)
  split at ha
  ·rename_i hxe
   cases ha
   rw [hxe] at hxv
   have hp := h.push (o := .iter none 0 [] 0) (co := .mapIter none 0 #[] 0) (s := 0) (n := 0) (fun l => by simp) ⟨hsing, _, none, Ren.put_same _ _ _ _, rfl, World.alloc_heap_new _ _, trivial⟩
   refine .vw (cv := .pointer (some ⟨w.heap.size, 0, none⟩)) ?_ (.ptr (off := 0) (Ren.put_same ρ H.next 0 _)) hp (Ren.put_le hn)
   rw [hxv.raw_inv]
   exact run_range_nilMap w t k e hu
  ·rename_i M hxe
   split at ha
   ·rename_i es clock hg
    cases ha
    rw [hxe] at hxv
    obtain ⟨l, hl, hcx⟩ := hxv.map_inv
    obtain ⟨_, l', ces, hl', hw, _⟩ := h.obj M _ hg
    rw [hl] at hl'; cases hl'
    have hM : M ≠ H.next := fun e => by rw [e, h.fresh H.next 0 (Nat.le_refl _)] at hl; cases hl
    have hp := h.push (o := .iter (some M) clock [] clock) (co := .mapIter (some l.c) clock #[] clock) (s := 0) (n := 0) (fun l => by simp)
     ⟨hsing, _, some l.c, Ren.put_same _ _ _ _, rfl, World.alloc_heap_new _ _, l, by rw [Ren.put_ne _ _ (by omega)]; exact hl, rfl⟩
    refine .vw (cv := .pointer (some ⟨w.heap.size, 0, none⟩)) ?_ (.ptr (off := 0) (Ren.put_same ρ H.next 0 _)) hp (Ren.put_le hn)
    rw [hcx]
    exact run_range_map w t k e l.c ces clock hu hw
   ·cases ha
  ·cases ha
 ·cases hc
theorem zzv.filter {p : Nat → Bool} : ∀ {es : zzb} {ces : List MapEntry}, zzv ρ es ces → zzv ρ (es.filter fun e => p e.2.2) (ces.filter fun e => p e.born)
 | [], [], _ => trivial
 | [], _ :: _, h => h.elim
 | _ :: _, [], h => h.elim
 | (k, v, b) :: r, e :: ces, ⟨h1, h2, h3, h4⟩ => by
  have ih := zzv.filter (p := p) h4
  simp only [List.filter_cons, h3]
  split
  ·exact ⟨h1, h2, h3, ih⟩
  ·exact ih
theorem zzv.all {p : Nat → Bool} : ∀ {es : zzb} {ces : List MapEntry}, zzv ρ es ces → (ces.all fun e => p e.born) = es.all fun e => p e.2.2
 | [], [], _ => rfl
 | [], _ :: _, h => h.elim
 | _ :: _, [], h => h.elim
 | (k, v, b) :: r, e :: ces, ⟨h1, h2, h3, h4⟩ => by simp only [List.all_cons, h3, zzv.all (p := p) h4]
theorem zzv.isEmpty : ∀ {es : zzb} {ces : List MapEntry}, zzv ρ es ces → ces.isEmpty = es.isEmpty
 | [], [], _ => rfl
 | [], _ :: _, h => h.elim
 | _ :: _, [], h => h.elim
 | _ :: _, _ :: _, _ => rfl
theorem zzv.nil_left {ces : List MapEntry} (h : zzv ρ [] ces) : ces = [] := by
 cases ces with
 | nil => rfl
 | cons => exact h.elim
theorem zsf (seen : List Nat) (b : Nat) : zqk seen b = seen.toArray.contains b := by
 unfold zqk
 rw [Bool.eq_iff_iff]
 simp only [List.any_eq_true, Array.contains_iff_mem, List.mem_toArray]
 constructor
 ·rintro ⟨x, h1, h2⟩; rw [Nat.beq_eq.mp h2]; exact h1
 ·intro h; exact ⟨b, h, by simp⟩
theorem zx2 {r : Nat} {ob : Obj} (h : w.heap[r]? = some ob) (hp : yx2 ob := by trivial) : (getObj r).run P w = .ok ob w := by
 cases ob <;> first | exact hp.elim | simp [getObj, Sem.run, h]
theorem zu6 {r : Nat} {ob : Obj} (ob' : Obj) (h : w.heap[r]? = some ob) (hp : yx2 ob := by trivial) : (setObj r ob').run P w = .ok () (w.putObj r ob') := by
 cases ob <;> first | exact hp.elim | simp [setObj, Sem.run, h, World.putObj]
theorem zgm (h : HRel P B ρ H w) (hev : zvg ρ tm ce) {x : Operand} {str : Bool} (hop : o.op = .next x str) (hc : cOp P o.op = some ao) (ha : aOp tm ao H = some (av, H')) : zyf .any P B ρ H w (execOp ce o) av H' := by
 rw [hop] at hc
 simp only [cOp] at hc
 have he : execOp ce o = (do Pure.pure (.value (← Instr.next (ce x) str o.type))) := by simp [execOp, hop]
 rw [he]
 cases str with
 | true => simp at hc
 | false =>
  simp only [Bool.false_eq_true, if_false] at hc
  obtain ⟨ax, hx, rfl⟩ := Option.map_eq_some_iff.1 hc
  have hxv := hev _ _ hx
  simp only [aOp, zr6] at ha
  split at ha
  ·rename_i A hxe
   unfold zk8 at ha
   rw [hxe] at hxv
   obtain ⟨l, hl, hcx⟩ := hxv.ptr_inv
   split at ha
   ·rename_i since seen last hg
    cases ha
    obtain ⟨_, l', cm, hl', h0, hw, hit⟩ := h.obj A _ hg
    rw [hl] at hl'; cases hl'
    cases cm with
    | some c => exact hit.elim
    | none =>
     refine .v h (cv := .tuple #[.bool false]) ?_ (.tuple (.cons (.raw _) .nil))
     rw [hcx, h0]
     simp only [Instr.next, Sem.run_bind, zx2 hw, Result.andThen_ok, Sem.run_pure]
   ·rename_i M since seen last hg
    split at ha
    ·rename_i es clock hgM
     obtain ⟨q, hq, hv⟩ := Option.map_eq_some_iff.1 ha
     obtain ⟨hsing, l', cm, hl', h0, hw, hit⟩ := h.obj A _ hg
     rw [hl] at hl'; cases hl'
     cases cm with
     | none => exact hit.elim
     | some c =>
      obtain ⟨lM, hlM, rfl⟩ := hit
      obtain ⟨_, lM', ces, hlM', hwM, hes⟩ := h.obj M _ hgM
      rw [hlM] at hlM'; cases hlM'
      unfold yxy at hq
      have hseen : seen.toArray.isEmpty = seen.isEmpty := by cases seen <;> rfl
      have htest : (!seen.toArray.isEmpty && !ces.isEmpty && ces.all (fun x => decide (x.born ≥ last))) = (!seen.isEmpty && !es.isEmpty && es.all (fun e => Nat.ble last e.2.2)) := by
       have e1 : ces.all (fun x => decide (x.born ≥ last)) = es.all (fun e => Nat.ble last e.2.2) := by
        rw [← hes.all (p := fun b => Nat.ble last b), ← Array.all_toList]
        congr 1; funext e
        rw [Bool.eq_iff_iff, decide_eq_true_eq, Nat.ble_eq]
       have e2 : ces.isEmpty = es.isEmpty := by rw [← hes.isEmpty, Array.isEmpty_toList]
       rw [e1, e2, hseen]
      split at hq
      ·cases hq
      ·rename_i hcond
       have hcond' : (!seen.toArray.isEmpty && !ces.isEmpty && ces.all (fun x => decide (x.born ≥ last))) = false := by rw [htest]; simpa using hcond
       have hleft := hes.filter (p := fun b => !zqk seen b)
       have hold := hleft.filter (p := fun b => Nat.blt b since)
       have hnew := hleft.filter (p := fun b => Nat.ble since b)
       have f1 : ((ces.filter fun e => !seen.toArray.contains e.born).filter fun x => decide (x.born < since)).toList = ((ces.toList.filter fun e => !zqk seen e.born).filter fun e => Nat.blt e.born since) := by
        rw [Array.toList_filter, Array.toList_filter]
        have : (fun e : MapEntry => !seen.toArray.contains e.born) = fun e => !zqk seen e.born := by funext e; rw [zsf]
        rw [this]
        congr 1; funext e
        rw [Bool.eq_iff_iff, decide_eq_true_eq]; simp [Nat.blt]; omega
       have f2 : ((ces.filter fun e => !seen.toArray.contains e.born).filter fun x => decide (x.born ≥ since)).toList = ((ces.toList.filter fun e => !zqk seen e.born).filter fun e => Nat.ble since e.born) := by
        rw [Array.toList_filter, Array.toList_filter]
        have : (fun e : MapEntry => !seen.toArray.contains e.born) = fun e => !zqk seen e.born := by funext e; rw [zsf]
        rw [this]
        congr 1; funext e
        rw [Bool.eq_iff_iff, decide_eq_true_eq]; simp
       split at hq
       ·rename_i e1 e2
        cases hq
        cases hv
        rw [e1] at hold; rw [e2] at hnew
        have g1 := hold.nil_left; have g2 := hnew.nil_left
        rw [← f1] at g1; rw [← f2] at g2
        have g1' : ((ces.filter fun e => !seen.toArray.contains e.born).filter fun x => decide (x.born < since)) = #[] := by simpa using g1
        have g2' : ((ces.filter fun e => !seen.toArray.contains e.born).filter fun x => decide (x.born ≥ since)) = #[] := by simpa using g2
        refine .v h (cv := .tuple #[.bool false]) ?_ (.tuple (.cons (.raw _) .nil))
        rw [hcx, h0]
        simp only [Instr.next, Sem.run_bind, zx2 hw, Result.andThen_ok, Sem.run_pure, zx2 hwM, hcond', Bool.false_eq_true, if_false, g1', g2']
        simp [choose, Sem.run, Question.forced]
       ·rename_i e e1 e2
        cases hq
        obtain ⟨k, v, b⟩ := e
        simp only at hv
        cases hv
        rw [e1] at hold; rw [e2] at hnew
        have g2 := hnew.nil_left
        rw [← f2] at g2
        have g2' : ((ces.filter fun e => !seen.toArray.contains e.born).filter fun x => decide (x.born ≥ since)) = #[] := by simpa using g2
        obtain ⟨ce', hce, g3, g4, g5⟩ : ∃ ce' : MapEntry, ((ces.toList.filter fun e => !zqk seen e.born).filter fun e => Nat.blt e.born since) = [ce'] ∧ VRel ρ k ce'.key ∧ VRel ρ v ce'.val ∧ ce'.born = b := by
         generalize ((ces.toList.filter fun e => !zqk seen e.born).filter fun e => Nat.blt e.born since) = L at hold
         cases L with
         | nil => exact hold.elim
         | cons c L =>
          obtain ⟨k1, k2, k3, k4⟩ := hold
          exact ⟨c, by rw [k4.nil_left], k1, k2, k3⟩
        rw [← f1] at hce
        have g1' : ((ces.filter fun e => !seen.toArray.contains e.born).filter fun x => decide (x.born < since)) = #[ce'] := Array.toList_inj.1 hce
        have hput := h.putObj (co := .mapIter (some lM.c) since (seen ++ [b]).toArray clock) hg hl (fun x => by simp) (ob' := .iter (some M) since (seen ++ [b]) clock) (fun x => by simp)
         ⟨hsing, l, some lM.c, hl, h0, World.putObj_heap_same (Array.getElem?_eq_some_iff.1 hw).1, lM, hlM, rfl⟩ (Side.putPlain hw trivial trivial)
        refine .vw (cv := .tuple #[.bool true, ce'.key, ce'.val]) ?_ (.tuple (.cons (.raw _) (.cons g3 (.cons g4 .nil)))) hput (Ren.le_refl _)
        rw [hcx, h0]
        simp only [Instr.next, Sem.run_bind, zx2 hw, Result.andThen_ok, Sem.run_pure, zx2 hwM, hcond', Bool.false_eq_true, if_false, g1', g2']
        simp [choose, Sem.run, Question.forced, zu6 _ hw, g5]
       ·cases hq
    ·cases ha
   ·cases ha
  ·cases ha
theorem zrs : ∀ (l : List Nat) (b : Nat), zn4 l = some b → l.toArray.back? = some b
 | [], _, h => by cases h
 | [x], b, h => by simp [zn4] at h; subst h; simp
 | x :: y :: r, b, h => by
  have := zrs (y :: r) b h
  simp only [List.back?_toArray] at this ⊢
  rw [List.getLast?_cons_cons]; exact this
theorem zzv.find {b : Nat} : ∀ {es : zzb} {ces : List MapEntry} {e : AVal × AVal × Nat}, zzv ρ es ces → (es.find? fun e => Nat.beq e.2.2 b) = some e → ∃ c, (ces.find? fun c => c.born == b) = some c ∧ VRel ρ e.1 c.key ∧ VRel ρ e.2.1 c.val
 | [], [], _, _, h => by simp at h
 | [], _ :: _, _, h, _ => h.elim
 | _ :: _, [], _, h, _ => h.elim
 | (k, v, b') :: r, c :: ces, e, ⟨h1, h2, h3, h4⟩, h => by
  simp only [List.find?_cons] at h ⊢
  by_cases hb : b' = b
  ·subst hb
   simp at h; subst h
   rw [h3]
   exact ⟨c, by simp, h1, h2⟩
  ·have e1 : Nat.beq b' b = false := by
    cases hx : Nat.beq b' b with
    | false => rfl
    | true => exact absurd (Nat.beq_eq.mp hx) hb
   have e2 : (c.born == b) = false := by rw [h3]; simpa using hb
   rw [e1] at h; rw [e2]
   exact h4.find h
theorem zhk (h : HRel P B ρ H w) (hev : zvg ρ tm ce) {x : Operand} (hop : o.op = .entry x) (hc : cOp P o.op = some ao) (ha : aOp tm ao H = some (av, H')) : zyf .any P B ρ H w (execOp ce o) av H' := by
 rw [hop] at hc
 obtain ⟨ax, hx, rfl⟩ := Option.map_eq_some_iff.1 hc
 have he : execOp ce o = (do Pure.pure (.value (← Instr.entry (ce x)))) := by simp [execOp, hop]
 rw [he]
 have hxv := hev _ _ hx
 simp only [aOp] at ha
 obtain ⟨_, hq, heq⟩ := Option.map_eq_some_iff.1 ha
 cases heq
 unfold zt3 at hq
 split at hq
 ·rename_i A hxe
  rw [hxe] at hxv
  obtain ⟨l, hl, hcx⟩ := hxv.ptr_inv
  split at hq
  ·rename_i M since seen last hg
   split at hq
   ·rename_i es clock hgM
    obtain ⟨hcl, hq⟩ := zyh hq
    obtain ⟨b, hb, hq⟩ := Option.bind_eq_some_iff.1 hq
    obtain ⟨e, hf, hv⟩ := Option.map_eq_some_iff.1 hq
    obtain ⟨hsing, l', cm, hl', h0, hw, hit⟩ := h.obj A _ hg
    rw [hl] at hl'; cases hl'
    cases cm with
    | none => exact hit.elim
    | some c =>
     obtain ⟨lM, hlM, rfl⟩ := hit
     obtain ⟨_, lM', ces, hlM', hwM, hes⟩ := h.obj M _ hgM
     rw [hlM] at hlM'; cases hlM'
     obtain ⟨ce', k1, k2, k3⟩ := hes.find hf
     subst hv
     refine .v h (cv := .tuple #[ce'.key, ce'.val]) ?_ (.tuple (.cons k2 (.cons k3 .nil)))
     have hcl' : clock = last := Nat.beq_eq.mp hcl
     rw [hcx, h0]
     rw [Array.find?_toList] at k1
     simp only [Instr.entry, Sem.run_bind, zx2 hw, Result.andThen_ok, zrs _ _ hb, zx2 hwM, hcl', bne_self_eq_false, Bool.false_eq_true, if_false, k1, Sem.run_pure]
   ·cases hq
  ·cases hq
 ·cases hq
theorem yx4 (h : HRel P B ρ H w) (hev : zvg ρ tm ce) {c : Call} (hop : o.op = .call c) (hb : c.callee = .builtin .clear) (hc : zlk P c.args.toList c.argTypes.toList = some ao) (ha : aOp tm ao H = some (av, H')) :
  zyf .any P B ρ H w (execOp ce o) av H' := by
 rw [zxj hop hb]
 unfold zlk at hc
 split at hc
 ·rename_i x t hargs htys
  rw [ykr hargs, ykr htys]
  have hmap : (#[x]).map ce = #[ce x] := by simp
  rw [hmap]
  simp only [builtin]
  split at hc
  ·rename_i k e hu
   obtain ⟨ax, hx, rfl⟩ := Option.map_eq_some_iff.1 hc
   have hxv := hev _ _ hx
   simp only [aOp] at ha
   obtain ⟨H1, hm, heq⟩ := Option.map_eq_some_iff.1 ha
   cases heq
   unfold yyx at hm
   split at hm
   ·rename_i hxe
    cases hm
    rw [hxe] at hxv
    refine .v h (cv := .tuple #[]) ?_ (.tuple .nil)
    simp [Builtin.clear_, zz7 hu, hxv.raw_inv]
   ·rename_i M hxe
    split at hm
    ·rename_i es clock hg
     cases hm
     rw [hxe] at hxv
     obtain ⟨l, hl, hcx⟩ := hxv.map_inv
     obtain ⟨_, ces, hw, hrel⟩ := h.mapOf hg hl
     refine .vw (cv := .tuple #[]) (w' := w.putObj l.c (.map #[] clock)) ?_ (.tuple .nil) (h.putMap hg hl (es' := []) (ces' := #[]) trivial) (Ren.le_refl _)
     simp [Builtin.clear_, zz7 hu, hcx, zx2 hw, zu6 _ hw]
    ·cases hm
   ·cases hm
  ·rename_i e hu
   obtain ⟨z, hz, hc⟩ := Option.bind_eq_some_iff.1 hc
   obtain ⟨ax, hx, rfl⟩ := Option.map_eq_some_iff.1 hc
   have hxv := hev _ _ hx
   simp only [aOp] at ha
   obtain ⟨H1, hm, heq⟩ := Option.map_eq_some_iff.1 ha
   cases heq
   unfold zaf at hm
   split at hm
   ·rename_i hxe
    cases hm
    rw [hxe] at hxv
    refine .v h (cv := .tuple #[]) ?_ (.tuple .nil)
    simp [Builtin.clear_, zz7 hu, hxv.raw_inv]
   ·rename_i A ver off len kcap ex esz hxe
    rw [hxe] at hxv
    obtain ⟨l, a, cap, hl, hcx, hk, hlk, _, hor⟩ := hxv.slice_inv
    split at hm
    ·rename_i h0
     cases hm
     subst h0
     refine .v h (cv := .tuple #[]) ?_ (.tuple .nil)
     simp [Builtin.clear_, zz7 hu, hcx]
    ·rename_i h0
     rcases hor with ⟨rfl, _⟩ | ⟨e1, _, _⟩
     ·have hzr := zb2 (zyl ρ z).cells len
      obtain ⟨w', h2, h3⟩ := h.write hm hl hzr
      refine .vw (cv := .tuple #[]) (w' := w') ?_ (.tuple .nil) h3 (Ren.le_refl _)
      cases len with
      | zero => exact absurd rfl h0
      | succ n =>
       have hz0 : (Builtin.zeroCells z.cells (n + 1)).toList = (Array.map (fun x => z.cells.toList.toArray[x % z.cells.toList.toArray.size]!) (Array.range ((n + 1) * z.cells.toList.length))).toList := by
        simp only [Builtin.zeroCells, Array.toArray_toList, Array.length_toList]
       rw [← hz0] at h2
       simp [Builtin.clear_, zz7 hu, hcx, zyj hz, h2]
     ·exact absurd e1 h0
   ·cases hm
  ·cases hc
 ·cases hc
end
section
variable {P : Program} {B : Base} {ρ : Ren} {H H' : zz6} {w w' : World} {tm : List AVal} {ce : Operand → Value} {o : Oper} {av : AVal} {ao : AOp}
theorem yvt (h : HRel P B ρ H w) (hev : zvg ρ tm ce) {c : Call} (hop : o.op = .call c) (hb : c.callee = .builtin .copy) (hc : yz4 P c.args.toList c.argTypes.toList = some ao) (ha : aOp tm ao H = some (av, H')) :
  zyf .any P B ρ H w (execOp ce o) av H' := by
 rw [zxj hop hb]
 unfold yz4 at hc
 split at hc
 ·rename_i d s t u hargs htys
  rw [ywy hargs, ywy htys]
  split at hc
  ·rename_i e eu ht hu
   simp only [Option.bind_eq_some_iff, Option.map_eq_some_iff] at hc
   obtain ⟨n, hn, ad, hd, as, hs, rfl⟩ := hc
   have hdv := hev _ _ hd
   have hsv := hev _ _ hs
   have hmap : (#[d, s]).map ce = #[ce d, ce s] := by simp
   rw [hmap]
   simp only [builtin]
   simp only [aOp] at ha
   unfold zdy at ha
   simp only [Option.bind_eq_some_iff] at ha
   obtain ⟨dl, hdl, sl, hsl, cells, hcells, ha⟩ := ha
   obtain ⟨a, cap, cvs, hcs, hor, hrel, hlen⟩ := zvs (P := P) h hsv hcells hsl
   -- the first cells of the source
   have hfirst : ∀ k, k ≤ sl → (Builtin.firstCells n k (ce s)).run P w = .ok (cvs.take (k * n)).toArray w := fun k hk => by
    rw [hcs]
    rcases hor with ⟨rfl, h0⟩ | ⟨x, rfl, hl⟩
    ·have hc0 : cvs = [] := List.eq_nil_of_length_eq_zero (by have := hrel.length; rw [this, hlen, h0]; simp)
     subst hc0
     simp [Builtin.firstCells]
    ·simp only [Builtin.firstCells, hl k hk]
   have hdst : ∃ base dcap, ce d = .slice base dl dcap ∧ (base = none → dl = 0) := by
    unfold zjl at hdl
    split at hdl
    ·rename_i hxe
     cases hdl
     rw [hxe] at hdv
     exact ⟨none, 0, hdv.raw_inv, fun _ => rfl⟩
    ·rename_i hxe
     cases hdl
     rw [hxe] at hdv
     obtain ⟨l, x, c, _, h1, _⟩ := hdv.slice_inv
     exact ⟨some x, c, h1, fun h => by cases h⟩
    ·cases hdl
   obtain ⟨base, dcap, hcd, hbase⟩ := hdst
   have hmin : Nat.min sl dl = min sl dl := rfl
   have hrun : ∀ w', (∀ x, base = some x → (storeCells x (cvs.take (min sl dl * n))).run P w = .ok () w') → (base = none → w' = w) →
     (Builtin.copy_ #[t, u] o.type #[ce d, ce s]).run P w = .ok (goInt ((min sl dl : Nat) : Int)) w' := fun w' h1 h2 => by
    unfold Builtin.copy_
    simp only [List.getElem?_toArray, List.getElem?_cons_zero, List.getElem?_cons_succ, Sem.run_bind, zz7 ht, Result.andThen_ok, hcd]
    have hls : (Builtin.lenOf (ce s)).run P w = .ok sl w := by rw [hcs]; simp [Builtin.lenOf]
    simp only [Sem.run_bind, hls, zy4 hn, Result.andThen_ok, hmin]
    rw [hfirst _ (Nat.min_le_left _ _)]
    simp only [Result.andThen_ok]
    cases base with
    | none => rw [h2 rfl]; simp
    | some x => simp only [Sem.run_bind, h1 x rfl, Result.andThen_ok, Sem.run_pure]
   split at ha
   ·rename_i h0
    cases ha
    refine .v h (hrun w (fun x _ => ?_) (fun _ => rfl)) (.raw _)
    rw [h0]; simp [storeCells]
   ·rename_i h0
    split at ha
    ·rename_i A ver off len kcap ex esz hde
     obtain ⟨H'', hw, heq⟩ := Option.map_eq_some_iff.1 ha
     cases heq
     rw [hde] at hdv
     obtain ⟨l, x, c, hl, h1, hk, hlk, _, hor2⟩ := hdv.slice_inv
     rw [hcd] at h1
     cases h1
     rcases hor2 with ⟨rfl, _⟩ | ⟨e1, _, _⟩
     ·obtain ⟨w', h2, h3⟩ := h.write hw hl (hrel.take _)
      refine .vw (hrun w' (fun x hx => ?_) (fun h => by cases h)) (.raw _) h3 (Ren.le_refl _)
      cases hx
      exact h2
     ·subst e1; simp at h0
    ·cases ha
  ·cases hc
 ·cases hc
theorem ykq (h : HRel P B ρ H w) (hev : zvg ρ tm ce) {c : Call} (hop : o.op = .call c) (hb : c.callee = .builtin .len) (hc : yj2 P c.args.toList c.argTypes.toList = some ao) (ha : aOp tm ao H = some (av, H')) :
  zyf .quiet P B ρ H w (execOp ce o) av H' := by
 rw [zxj hop hb]
 unfold yj2 at hc
 split at hc
 ·rename_i x t hargs htys
  rw [ykr hargs, ykr htys]
  have hmap : (#[x]).map ce = #[ce x] := by simp
  rw [hmap]
  simp only [builtin]
  split at hc
  ·rename_i hu
   obtain ⟨ax, hx, rfl⟩ := Option.map_eq_some_iff.1 hc
   have hxv := hev _ _ hx
   simp only [aOp] at ha
   obtain ⟨_, hl, heq⟩ := Option.map_eq_some_iff.1 ha
   cases heq
   unfold znb at hl
   split at hl
   ·rename_i s hxe
    cases hl
    rw [hxe] at hxv
    refine .v h (cv := goInt s.size) ?_ (.raw _)
    simp [Builtin.len_, zz7 hu, hxv.raw_inv]
   ·cases hl
  ·rename_i e hu
   obtain ⟨ax, hx, rfl⟩ := Option.map_eq_some_iff.1 hc
   have hxv := hev _ _ hx
   simp only [aOp] at ha
   obtain ⟨_, hl, heq⟩ := Option.map_eq_some_iff.1 ha
   cases heq
   unfold zyy at hl
   split at hl
   ·rename_i hxe
    cases hl
    rw [hxe] at hxv
    refine .v h (cv := goInt 0) ?_ (.raw _)
    simp [Builtin.len_, zz7 hu, hxv.raw_inv]
   ·rename_i hxe
    cases hl
    rw [hxe] at hxv
    obtain ⟨l, a, cap, _, hcx, _⟩ := hxv.slice_inv
    refine .v h (cv := goInt _) ?_ (.raw _)
    simp [Builtin.len_, zz7 hu, hcx]
   ·cases hl
  ·rename_i k e hu
   obtain ⟨ax, hx, rfl⟩ := Option.map_eq_some_iff.1 hc
   have hxv := hev _ _ hx
   simp only [aOp] at ha
   obtain ⟨_, hl, heq⟩ := Option.map_eq_some_iff.1 ha
   cases heq
   unfold zds at hl
   split at hl
   ·rename_i hxe
    cases hl
    rw [hxe] at hxv
    refine .v h (cv := goInt 0) ?_ (.raw _)
    simp [Builtin.len_, zz7 hu, hxv.raw_inv]
   ·rename_i M hxe
    split at hl
    ·rename_i es clock hg
     cases hl
     rw [hxe] at hxv
     obtain ⟨l, hl, hcx⟩ := hxv.map_inv
     obtain ⟨_, ces, hw, hrel⟩ := h.mapOf hg hl
     have hlen := hrel.length
     refine .v h (cv := goInt ces.size) ?_ (by rw [show ces.size = es.length by simpa using hlen]; exact .raw _)
     simp only [Builtin.len_, List.getElem?_toArray, List.getElem?_cons_zero, Sem.run_bind, zz7 hu, Result.andThen_ok, hcx, zyg hw, Sem.run_pure]
    ·cases hl
   ·cases hl
  ·rename_i n e hu
   obtain ⟨ax, hx, rfl⟩ := Option.map_eq_some_iff.1 hc
   simp only [aOp] at ha
   cases ha
   refine .v h (cv := goInt n) ?_ (.raw _)
   simp [Builtin.len_, zz7 hu]
  ·rename_i a hu
   split at hc
   ·rename_i n e hu2
    obtain ⟨ax, hx, rfl⟩ := Option.map_eq_some_iff.1 hc
    simp only [aOp] at ha
    cases ha
    refine .v h (cv := goInt n) ?_ (.raw _)
    simp [Builtin.len_, zz7 hu, zz7 hu2]
   ·cases hc
  ·cases hc
 ·cases hc
theorem zrj (isMax : Bool) : ∀ (xs : List AVal) (cxs : List Value) (k : IntKind) (a : Int) {av : AVal}, VRels ρ xs cxs → zvr isMax (.raw (.int k a)) xs = some av →
  ∃ cv, av = .raw cv ∧ (cxs.foldlM (if isMax then Builtin.max2 else Builtin.min2) (Value.int k a)).run P w = .ok cv w
 | [], _, k, a, av, .nil, h => by
  simp [zvr] at h; subst h
  exact ⟨_, rfl, by simp⟩
 | x :: xs, cx :: cxs, k, a, av, .cons hx hxs, h => by
  have hxe : ∃ k' b, x = .raw (.int k' b) := by
   cases x with
   | raw v => cases v <;> first | exact ⟨_, _, rfl⟩ | (simp [zvr] at h)
   | _ => simp [zvr] at h
  obtain ⟨k', b, rfl⟩ := hxe
  simp only [zvr, ilt_eq] at h
  obtain ⟨cv, h1, h2⟩ := zrj isMax xs cxs k _ hxs h
  refine ⟨cv, h1, ?_⟩
  rw [hx.raw_inv, List.foldlM_cons]
  cases isMax
  ·simp only [Bool.false_eq_true, if_false, Builtin.min2, Sem.run_bind, Sem.run_pure, Result.andThen_ok, decide_eq_true_eq] at h2 ⊢
   exact h2
  ·simp only [if_true, Builtin.max2, Sem.run_bind, Sem.run_pure, Result.andThen_ok, decide_eq_true_eq] at h2 ⊢
   have : (if a > b then a else b) = (if a < b then b else a) := by
    by_cases h1 : a < b
    ·rw [if_neg (by omega), if_pos h1]
    ·rw [if_neg h1]
     by_cases h3 : a > b
     ·rw [if_pos h3]
     ·rw [if_neg h3]; omega
   first | exact h2 | (rw [this]; exact h2)
theorem zlp (isMax : Bool) (h : HRel P B ρ H w) (hev : zvg ρ tm ce) {c : Call} (hop : o.op = .call c) (hb : c.callee = .builtin (if isMax then .max else .min)) (hc : (zpq c.args.toList).map (.minmax isMax) = some ao) (ha : aOp tm ao H = some (av, H')) :
  zyf .quiet P B ρ H w (execOp ce o) av H' := by
 rw [zxj hop hb]
 obtain ⟨axs, hxs, rfl⟩ := Option.map_eq_some_iff.1 hc
 have hrel := zb9 hev hxs
 simp only [aOp] at ha
 split at ha
 ·rename_i x r hxe
  obtain ⟨_, hm, heq⟩ := Option.map_eq_some_iff.1 ha
  cases heq
  rw [hxe] at hrel
  have hmap : (c.args.map ce).toList = c.args.toList.map ce := by simp
  cases hcm : c.args.toList.map ce with
  | nil => rw [hcm] at hrel; cases hrel
  | cons cx cr =>
   rw [hcm] at hrel
   cases hrel with
   | cons h1 h2 =>
    have hxe' : (∃ k a, x = .raw (.int k a)) ∨ r = [] := by
     cases r with
     | nil => exact .inr rfl
     | cons y r =>
      left
      cases x with
      | raw v => cases v <;> first | exact ⟨_, _, rfl⟩ | (simp [zvr] at hm)
      | _ => simp [zvr] at hm
    have hrun : ∃ cv, VRel ρ av cv ∧ (cr.foldlM (if isMax then Builtin.max2 else Builtin.min2) cx).run P w = .ok cv w := by
     rcases hxe' with ⟨k, a, rfl⟩ | rfl
     ·obtain ⟨cv, rfl, h3⟩ := zrj (P := P) (w := w) isMax r cr k a h2 hm
      rw [h1.raw_inv]
      exact ⟨cv, .raw _, h3⟩
     ·cases h2
      simp [zvr] at hm; subst hm
      exact ⟨cx, h1, by simp⟩
    obtain ⟨cv, h3, h4⟩ := hrun
    cases isMax
    ·simp only [Bool.false_eq_true, if_false, builtin] at h4 ⊢
     refine .v h (cv := cv) ?_ h3
     simp only [Builtin.min_, hmap, hcm, h4]
    ·simp only [if_true, builtin] at h4 ⊢
     refine .v h (cv := cv) ?_ h3
     simp only [Builtin.max_, hmap, hcm, h4]
 ·cases ha
theorem za4 (h : HRel P B ρ H w) (hev : zvg ρ tm ce) {c : Call} (hop : o.op = .call c) (hb : c.callee = .builtin .delete) (hc : zrp P c.args.toList c.argTypes.toList = some ao) (ha : aOp tm ao H = some (av, H')) :
  zyf .any P B ρ H w (execOp ce o) av H' := by
 rw [zxj hop hb]
 unfold zrp at hc
 split at hc
 ·rename_i m k t tk hargs htys
  rw [ywy hargs, ywy htys]
  have hmap : (#[m, k]).map ce = #[ce m, ce k] := by simp
  rw [hmap]
  simp only [builtin]
  split at hc
  ·rename_i key e hu
   split at hc
   ·rename_i q hkey
    simp only [Option.bind_eq_some_iff, Option.map_eq_some_iff] at hc
    obtain ⟨am, hm, ak, hk, rfl⟩ := hc
    have hmv := hev _ _ hm
    have hkv := hev _ _ hk
    simp only [aOp, Option.map_eq_some_iff] at ha
    obtain ⟨H'', hd, heq⟩ := ha
    cases heq
    unfold zq2 at hd
    split at hd
    ·rename_i hme
     cases hd
     rw [hme] at hmv
     refine .v h (cv := .tuple #[]) ?_ (.raw _)
     simp [Builtin.delete_, zz7 hu, hmv.raw_inv, zyz hkey]
    ·rename_i M kk n hme hke
     rw [hme] at hmv
     rw [hke] at hkv
     have hck := hkv.raw_inv
     split at hd
     ·rename_i es clock hg
      obtain ⟨r, hf, hH⟩ := Option.map_eq_some_iff.1 hd
      obtain ⟨l, hl', hcm⟩ := hmv.map_inv
      obtain ⟨_, ces, hw, hrel⟩ := h.mapOf hg hl'
      obtain ⟨cr, h1, h2⟩ := zj1 q hrel hf
      cases r with
      | none =>
       subst h2
       simp only at hH
       subst hH
       have hput : w.putObj l.c (.map ces clock) = w := by
        unfold World.putObj
        obtain ⟨hc, hv⟩ := Array.getElem?_eq_some_iff.1 hw
        have : w.heap.setIfInBounds l.c (.map ces clock) = w.heap := by
         apply Array.ext_getElem?
         intro j
         rw [Array.getElem?_setIfInBounds]
         by_cases hj : l.c = j
         ·subst hj; simp [hc, hv]
         ·simp [hj]
        rw [this]
       refine .v h (cv := .tuple #[]) ?_ (.raw _)
       simp only [Builtin.delete_, List.getElem?_toArray, List.getElem?_cons_zero, List.getElem?_cons_succ, Sem.run_bind, zz7 hu, Result.andThen_ok, hcm, hck, zyz hkey, zyg hw]
       rw [zxr hkey h1]
       simp only [Result.andThen_ok, Sem.run_bind, zxs _ hw, hput, Sem.run_pure]
      | some y =>
       obtain ⟨j, v, b⟩ := y
       obtain ⟨cv, e', rfl, g2, _, g4, g5, g6, g7⟩ := h2
       simp only at hH
       subst hH
       refine .vw (cv := .tuple #[]) (w' := w.putObj l.c (.map (ces.eraseIdxIfInBounds j) clock)) ?_ (.raw _) (h.putMap hg hl' ?_) (Ren.le_refl _)
       ·simp only [Builtin.delete_, List.getElem?_toArray, List.getElem?_cons_zero, List.getElem?_cons_succ, Sem.run_bind, zz7 hu, Result.andThen_ok, hcm, hck, zyz hkey, zyg hw]
        rw [zxr hkey h1]
        simp only [Result.andThen_ok, Sem.run_bind, zxs _ hw, Sem.run_pure]
       ·have hj : j < ces.size := by
         have := (List.getElem?_eq_some_iff.1 g4).1
         simpa using this
        rw [show (ces.eraseIdxIfInBounds j).toList = ces.toList.eraseIdx j by simp [Array.eraseIdxIfInBounds, hj]]
        exact zzv.erase j hrel
     ·cases hd
    ·cases hd
   ·cases hc
  ·cases hc
 ·cases hc
theorem ykh (h : HRel P B ρ H w) (hev : zvg ρ tm ce) {c : Call} (hop : o.op = .call c) (hb : c.callee = .builtin .cap) (hc : yj9 P c.args.toList c.argTypes.toList = some ao) (ha : aOp tm ao H = some (av, H')) :
  zyf .any P B ρ H w (execOp ce o) av H' := by
 rw [zxj hop hb]
 unfold yj9 at hc
 split at hc
 ·rename_i x t hargs htys
  have e1 : c.args = #[x] := by rw [← Array.toArray_toList (xs := c.args), hargs]
  have e2 : c.argTypes = #[t] := by rw [← Array.toArray_toList (xs := c.argTypes), htys]
  rw [e1, e2]
  have hmap : (#[x]).map ce = #[ce x] := by simp
  rw [hmap]
  split at hc
  ·rename_i e hu
   obtain ⟨ax, hx, rfl⟩ := Option.map_eq_some_iff.1 hc
   have hxv := hev _ _ hx
   simp only [aOp] at ha
   obtain ⟨v, hv, heq⟩ := Option.map_eq_some_iff.1 ha
   cases heq
   simp only [builtin]
   unfold ywa at hv
   split at hv
   ·rename_i hxe
    cases hv
    rw [hxe] at hxv
    obtain ⟨l, a, cap, hl, hcs, hk, hlen, hex, hor⟩ := hxv.slice_inv
    have := hex rfl
    subst this
    refine .v h (cv := goInt cap) ?_ (.raw _)
    rw [hcs]
    simp [Builtin.cap_, zz7 hu]
   ·rename_i hxe
    cases hv
    rw [hxe] at hxv
    refine .v h (cv := goInt 0) ?_ (.raw _)
    rw [hxv.raw_inv]
    simp [Builtin.cap_, zz7 hu]
   ·cases hv
  ·cases hc
 ·cases hc
set_option maxHeartbeats 1000000 in
theorem zd1 (h : HRel P B ρ H w) (hev : zvg ρ tm ce) {c : Call} (hop : o.op = .call c) (hb : c.callee = .builtin .append) (hc : zb3 P c.args.toList c.argTypes.toList = some ao) (ha : aOp tm ao H = some (av, H')) :
  zyf .any P B ρ H w (execOp ce o) av H' := by
 rw [zxj hop hb]
 unfold zb3 at hc
 split at hc
 ·rename_i s x t u hargs htys
  rw [ywy hargs, ywy htys]
  split at hc
  ·rename_i e kn ht hu
   simp only [Option.bind_eq_some_iff] at hc
   obtain ⟨i, hi, z, hz, hc⟩ := hc
   obtain ⟨hzl, hc⟩ := zyh hc
   simp only [beq_iff_eq] at hzl
   simp only [Option.bind_eq_some_iff, Option.map_eq_some_iff] at hc
   obtain ⟨as, hs, ax, hx, rfl⟩ := hc
   have hsv := hev _ _ hs
   have hxv := hev _ _ hx
   have hzr := (zyl ρ z).cells
   have hzl' := hzr.length
   have hzc : z.cells.size = i.size := by simp at hzl'; omega
   have hmap : (#[s, x]).map ce = #[ce s, ce x] := by simp
   rw [hmap]
   simp only [builtin]
   simp only [aOp] at ha
   unfold zs3 at ha
   split at ha
   ·rename_i A ver off len kcap esz' l hse hxe
    obtain ⟨hcnd, ha2⟩ := zyh ha
    obtain ⟨hes, hez, hbz, hl0, hkc, hbig⟩ := hcnd
    subst hes
    obtain ⟨cells, hrow, ha3⟩ := Option.bind_eq_some_iff.1 ha2
    obtain ⟨hcl, ha4⟩ := zyh ha3
    cases ha4
    rw [hse] at hsv
    rw [hxe] at hxv
    have hcells : aCells H i.size (.slice A ver off len kcap true i.size) = some ((cells.drop off).take (len * i.size)) := by
     simp only [aCells, hrow, Option.bind_some, hcl, if_true]
    obtain ⟨colds, hor, horel, holen, xa, xcap, hcx⟩ := zq4 (P := P) h.drew hsv hcells rfl
    obtain ⟨lc, a, cap, hlc, hcs, hk, hlen, hex, _⟩ := hsv.slice_inv
    have hq : xa = some a ∧ xcap = kcap := by
     have := hcx.symm.trans hcs
     simp only [Value.slice.injEq, true_and] at this
     exact ⟨this.1, this.2.trans (hex rfl)⟩
    rw [hq.1, hq.2] at hcx
    have hk2 : (l.toNat : Int) = l := Int.toNat_of_nonneg (by omega)
    have hmax := Nat.le_mul_of_pos_right (len + l.toNat) hbz
    have hrun := Lib.run_append_grow_zeros (P := P) w t u o.type e i z .i64 kn ht hu hi hz (some a) len kcap colds (by rw [← hcx]; exact hor) l.toNat (by omega) hez hkc (by omega) (by
     have := Nat.mul_le_mul_right i.bytes (show l.toNat ≤ len + l.toNat by omega); omega) (by
     have h1 := zkm hkc
     have h2 := Nat.mul_le_mul_right i.bytes h1
     rw [Nat.mul_assoc] at h2; omega)
    rw [hk2] at hrun
    have hcap := Go.grownCap_ge w (len + l.toNat) kcap e
    have hzero := zb2 hzr l.toNat
    have hze : (Array.range (l.toNat * z.cells.toList.length)).map (fun x => z.cells.toList.toArray[x % z.cells.toList.toArray.size]!) = Builtin.zeroCells z.cells l.toNat := by
     simp [Builtin.zeroCells]
    rw [hze] at hzero
    have hzz : (Builtin.zeroCells z.cells l.toNat).toList.toArray = Builtin.zeroCells z.cells l.toNat := Array.toArray_toList
    rw [← hzz] at hrun
    have hsize : (colds.toArray ++ (Builtin.zeroCells z.cells l.toNat).toList.toArray ++ Builtin.zeroCells z.cells (grownCap w (len + l.toNat) kcap e - (len + l.toNat))).size = grownCap w (len + l.toNat) kcap e * i.size := by
     have hcl2 := horel.length
     have e1 : (grownCap w (len + l.toNat) kcap e - (len + l.toNat)) * i.size = grownCap w (len + l.toNat) kcap e * i.size - (len + l.toNat) * i.size := Nat.sub_mul _ _ _
     have e2 : (len + l.toNat) * i.size = len * i.size + l.toNat * i.size := Nat.add_mul _ _ _
     have e3 : (len + l.toNat) * i.size ≤ grownCap w (len + l.toNat) kcap e * i.size := Nat.mul_le_mul_right _ hcap
     simp only [Array.size_append, zvp, hzc, List.size_toArray, Array.length_toList]
     omega
    have f1 := VRel.slice (ρ := ρ.put H.next 0 ⟨w.heap.size, 0, (colds.toArray ++ (Builtin.zeroCells z.cells l.toNat).toList.toArray ++ Builtin.zeroCells z.cells (grownCap w (len + l.toNat) kcap e - (len + l.toNat))).size⟩) (off := 0) (len := len + l.toNat) (kcap := len + l.toNat) (cap := grownCap w (len + l.toNat) kcap e) (ex := false) (esz := i.size) (Ren.put_same _ _ _ _) hcap (Nat.le_refl _) (fun h => by cases h) (by dsimp only; omega)
    have f2 := h.drew.newRow (e := e) (zjf horel hzero (Builtin.zeroCells z.cells (grownCap w (len + l.toNat) kcap e - (len + l.toNat))))
    rw [hxv.raw_inv, hcx]
    simp only [Nat.add_zero] at f1
    exact .vw hrun f1 f2 (Ren.put_le (h.fresh _ _ (Nat.le_refl _)))
   ·cases ha
  ·cases hc
 ·cases hc
theorem zru (h : HRel P B ρ H w) (hev : zvg ρ tm ce) (hc : cOp P o.op = some ao) (ha : aOp tm ao H = some (av, H')) :
  zyf (zwv o.op) P B ρ H w (execOp ce o) av H' := by
 cases hop : o.op with
 | move x =>
  rw [hop] at hc
  obtain ⟨ax, hx, rfl⟩ := Option.map_eq_some_iff.1 hc
  simp only [aOp] at ha; cases ha
  exact za5 h hev (.inl hop) hx
 | assign x =>
  rw [hop] at hc
  obtain ⟨ax, hx, rfl⟩ := Option.map_eq_some_iff.1 hc
  simp only [aOp] at ha; cases ha
  exact za5 h hev (.inr hop) hx
 | pick c a b => exact yqd h hev hop hc ha
 | alloc t => exact yxm h hop hc ha
 | box t x => exact yka h hev hop hc ha
 | build t ps => exact yw1 h hev hop hc ha
 | buildSlice t n ps => exact zmn h hev hop hc ha
 | load t x => exact yve h hev hop hc ha
 | store t a x => exact yxb h hev hop hc ha
 | nilCheck x => exact zg5 h hev hop hc ha
 | binOp op t x y yt => exact ykj h hev hop hc ha
 | unOp op t x => exact yu3 h hev hop hc ha
 | convert s d x => exact yvr h hev hop hc ha
 | makeFunc fn f c => exact zgl h hev hop hc ha
 | makeInterface t x => exact zh2 h hev hop hc ha
 | fieldAddr s x f => exact yyw h hev hop hc ha
 | field s x f => exact yxf h hev hop hc ha
 | indexAddr t x i => exact zdp h hev hop hc ha
 | index t x i => exact yxj h hev hop hc ha
 | slice t x lo hi mx => exact yw2 h hev hop hc ha
 | makeSlice t l c => exact zhj h hev hop hc ha
 | makeMap t r => exact zda h hop hc ha
 | lookup t x k ok => exact zax h hev hop hc ha
 | mapUpdate t m k x => exact ztu h hev (.inl hop) hc ha
 | insert t m k x => exact ztu h hev (.inr hop) hc ha
 | mapEntry t m k => exact zha h hev hop hc ha
 | entryStore t m s x => exact znp h hev hop hc ha
 | extract x i => exact zcz h hev hop hc ha
 | range t x => exact zdk h hev hop hc ha
 | next x str => exact zgm h hev hop hc ha
 | entry x => exact zhk h hev hop hc ha
 | call c =>
  rw [hop] at hc
  change zf8 P c = some ao at hc
  unfold zf8 at hc
  split at hc
  ·obtain ⟨f, _, hc⟩ := Option.bind_eq_some_iff.1 hc
   obtain ⟨as, _, rfl⟩ := Option.map_eq_some_iff.1 hc
   cases ha
  ·cases hc
  ·rename_i b hb
   unfold znu at hc
   split at hc
   ·rw [show zwv (.call c) = .any by simp [zwv, hb]]
    split at hc
    ·exact zd1 h hev hop hb hc ha
    ·exact yze h hev hop hb hc ha
   ·rw [show zwv (.call c) = .any by simp [zwv, hb]]; exact ykh h hev hop hb hc ha
   ·rw [show zwv (.call c) = .any by simp [zwv, hb]]; exact yvt h hev hop hb hc ha
   ·rw [show zwv (.call c) = .quiet by simp [zwv, hb]]; exact ykq h hev hop hb hc ha
   ·rw [show zwv (.call c) = .any by simp [zwv, hb]]; exact za4 h hev hop hb hc ha
   ·rw [show zwv (.call c) = .any by simp [zwv, hb]]; exact yx4 h hev hop hb hc ha
   ·rw [show zwv (.call c) = .quiet by simp [zwv, hb]]; exact zlp false h hev hop hb hc ha
   ·rw [show zwv (.call c) = .quiet by simp [zwv, hb]]; exact zlp true h hev hop hb hc ha
   ·cases hc
 | _ => rw [hop] at hc; cases hc
theorem zac (h : HRel P B ρ H w) (hev : zvg ρ tm ce) (hc : cOp P o.op = some ao) (ha : aOp tm ao H = some (av, H')) : zyf .any P B ρ H w (execOp ce o) av H' := (zru h hev hc ha).weak
end
end Go.Vm
