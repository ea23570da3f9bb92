/- The abstract machine, part 13a: the operations are sound (ranges over maps, clear). -/
import Derived.Test.YtaeleakdmphnfaaGreatDoorVmSound9
import Derived.Laws.IdiomRangeMap
namespace Go.Vm
open Go

set_option linter.unusedVariables false
set_option linter.unusedSimpArgs false

variable {P : Program} {B : Base} {ρ ρ' : Ren} {H H' : AHeap} {w w' : World} {tm : List AVal} {ce : Operand → Value} {o : Oper} {av : AVal} {ao : AOp}

theorem op_iterNew (h : HRel P B ρ H w) (hev : EvOk ρ tm ce) {t : TypeId} {x : Operand} (hop : o.op = .range t x) (hc : cOp P o.op = some ao) (ha : aOp tm ao H = some (av, H')) : OpRes .any P B ρ H w (execOp ce o) av H' := by
  rw [hop] at hc
  simp only [cOp] at hc
  have he : execOp ce o = (do Pure.pure (.value (← Instr.range t (ce x)))) := by simp [execOp, hop]
  rw [he]
  split at hc
  · rename_i k e hu
    obtain ⟨ax, hx, rfl⟩ := Option.map_eq_some_iff.1 hc
    have hxv := hev _ _ hx
    simp only [aOp, aIterNew] at ha
    have hn := h.fresh H.next 0 (Nat.le_refl _)
    have hsing : Single (ρ.put H.next 0 ⟨w.heap.size, 0, 0⟩) H.next := fun v hv => by rw [Ren.put_ne _ _ (by omega)]; exact h.fresh _ _ (Nat.le_refl _)
    split at ha
    · rename_i hxe
      cases ha
      rw [hxe] at hxv
      have hp := h.push (o := .iter none 0 [] 0) (co := .mapIter none 0 #[] 0) (s := 0) (n := 0) (fun l => by simp) ⟨hsing, _, none, Ren.put_same _ _ _ _, rfl, World.alloc_heap_new _ _, trivial⟩
      refine .vw (cv := .pointer (some ⟨w.heap.size, 0, none⟩)) ?_ (.ptr (off := 0) (Ren.put_same ρ H.next 0 _)) hp (Ren.put_le hn)
      rw [hxv.raw_inv]
      exact run_range_nilMap w t k e hu
    · rename_i M hxe
      split at ha
      · rename_i es clock hg
        cases ha
        rw [hxe] at hxv
        obtain ⟨l, hl, hcx⟩ := hxv.map_inv
        obtain ⟨_, l', ces, hl', hw, _⟩ := h.obj M _ hg
        rw [hl] at hl'; cases hl'
        have hM : M ≠ H.next := fun e => by rw [e, h.fresh H.next 0 (Nat.le_refl _)] at hl; cases hl
        have hp := h.push (o := .iter (some M) clock [] clock) (co := .mapIter (some l.c) clock #[] clock) (s := 0) (n := 0) (fun l => by simp)
          ⟨hsing, _, some l.c, Ren.put_same _ _ _ _, rfl, World.alloc_heap_new _ _, l, by rw [Ren.put_ne _ _ (by omega)]; exact hl, rfl⟩
        refine .vw (cv := .pointer (some ⟨w.heap.size, 0, none⟩)) ?_ (.ptr (off := 0) (Ren.put_same ρ H.next 0 _)) hp (Ren.put_le hn)
        rw [hcx]
        exact run_range_map w t k e l.c ces clock hu hw
      · cases ha
    · cases ha
  · cases hc

theorem EntriesRel.filter {p : Nat → Bool} : ∀ {es : AEntries} {ces : List MapEntry}, EntriesRel ρ es ces → EntriesRel ρ (es.filter fun e => p e.2.2) (ces.filter fun e => p e.born)
  | [], [], _ => trivial
  | [], _ :: _, h => h.elim
  | _ :: _, [], h => h.elim
  | (k, v, b) :: r, e :: ces, ⟨h1, h2, h3, h4⟩ => by
    have ih := EntriesRel.filter (p := p) h4
    simp only [List.filter_cons, h3]
    split
    · exact ⟨h1, h2, h3, ih⟩
    · exact ih

theorem EntriesRel.all {p : Nat → Bool} : ∀ {es : AEntries} {ces : List MapEntry}, EntriesRel ρ es ces → (ces.all fun e => p e.born) = es.all fun e => p e.2.2
  | [], [], _ => rfl
  | [], _ :: _, h => h.elim
  | _ :: _, [], h => h.elim
  | (k, v, b) :: r, e :: ces, ⟨h1, h2, h3, h4⟩ => by simp only [List.all_cons, h3, EntriesRel.all (p := p) h4]

theorem EntriesRel.isEmpty : ∀ {es : AEntries} {ces : List MapEntry}, EntriesRel ρ es ces → ces.isEmpty = es.isEmpty
  | [], [], _ => rfl
  | [], _ :: _, h => h.elim
  | _ :: _, [], h => h.elim
  | _ :: _, _ :: _, _ => rfl

theorem EntriesRel.nil_left {ces : List MapEntry} (h : EntriesRel ρ [] ces) : ces = [] := by
  cases ces with
  | nil => rfl
  | cons => exact h.elim

theorem bornIn_eq (seen : List Nat) (b : Nat) : bornIn seen b = seen.toArray.contains b := by
  unfold bornIn
  rw [Bool.eq_iff_iff]
  simp only [List.any_eq_true, Array.contains_iff_mem, List.mem_toArray]
  constructor
  · rintro ⟨x, h1, h2⟩; rw [Nat.beq_eq.mp h2]; exact h1
  · intro h; exact ⟨b, h, by simp⟩

theorem run_getObj' {r : Nat} {ob : Obj} (h : w.heap[r]? = some ob) (hp : Plain ob := by trivial) : (getObj r).run P w = .ok ob w := by
  cases ob <;> first | exact hp.elim | simp [getObj, Sem.run, h]
theorem run_setObj' {r : Nat} {ob : Obj} (ob' : Obj) (h : w.heap[r]? = some ob) (hp : Plain ob := by trivial) : (setObj r ob').run P w = .ok () (w.putObj r ob') := by
  cases ob <;> first | exact hp.elim | simp [setObj, Sem.run, h, World.putObj]

theorem op_iterNext (h : HRel P B ρ H w) (hev : EvOk ρ tm ce) {x : Operand} {str : Bool} (hop : o.op = .next x str) (hc : cOp P o.op = some ao) (ha : aOp tm ao H = some (av, H')) : OpRes .any P B ρ H w (execOp ce o) av H' := by
  rw [hop] at hc
  simp only [cOp] at hc
  have he : execOp ce o = (do Pure.pure (.value (← Instr.next (ce x) str o.type))) := by simp [execOp, hop]
  rw [he]
  cases str with
  | true => simp at hc
  | false =>
    simp only [Bool.false_eq_true, if_false] at hc
    obtain ⟨ax, hx, rfl⟩ := Option.map_eq_some_iff.1 hc
    have hxv := hev _ _ hx
    simp only [aOp, aIterNext] at ha
    split at ha
    · rename_i A hxe
      unfold aIterNextAt at ha
      rw [hxe] at hxv
      obtain ⟨l, hl, hcx⟩ := hxv.ptr_inv
      split at ha
      · rename_i since seen last hg
        cases ha
        obtain ⟨_, l', cm, hl', h0, hw, hit⟩ := h.obj A _ hg
        rw [hl] at hl'; cases hl'
        cases cm with
        | some c => exact hit.elim
        | none =>
          refine .v h (cv := .tuple #[.bool false]) ?_ (.tuple (.cons (.raw _) .nil))
          rw [hcx, h0]
          simp only [Instr.next, Sem.run_bind, run_getObj' hw, Result.andThen_ok, Sem.run_pure]
      · rename_i M since seen last hg
        split at ha
        · rename_i es clock hgM
          obtain ⟨q, hq, hv⟩ := Option.map_eq_some_iff.1 ha
          obtain ⟨hsing, l', cm, hl', h0, hw, hit⟩ := h.obj A _ hg
          rw [hl] at hl'; cases hl'
          cases cm with
          | none => exact hit.elim
          | some c =>
            obtain ⟨lM, hlM, rfl⟩ := hit
            obtain ⟨_, lM', ces, hlM', hwM, hes⟩ := h.obj M _ hgM
            rw [hlM] at hlM'; cases hlM'
            unfold aNext at hq
            have hseen : seen.toArray.isEmpty = seen.isEmpty := by cases seen <;> rfl
            have htest : (!seen.toArray.isEmpty && !ces.isEmpty && ces.all (fun x => decide (x.born ≥ last))) = (!seen.isEmpty && !es.isEmpty && es.all (fun e => Nat.ble last e.2.2)) := by
              have e1 : ces.all (fun x => decide (x.born ≥ last)) = es.all (fun e => Nat.ble last e.2.2) := by
                rw [← hes.all (p := fun b => Nat.ble last b), ← Array.all_toList]
                congr 1; funext e
                rw [Bool.eq_iff_iff, decide_eq_true_eq, Nat.ble_eq]
              have e2 : ces.isEmpty = es.isEmpty := by rw [← hes.isEmpty, Array.isEmpty_toList]
              rw [e1, e2, hseen]
            split at hq
            · cases hq
            · rename_i hcond
              have hcond' : (!seen.toArray.isEmpty && !ces.isEmpty && ces.all (fun x => decide (x.born ≥ last))) = false := by rw [htest]; simpa using hcond
              have hleft := hes.filter (p := fun b => !bornIn seen b)
              have hold := hleft.filter (p := fun b => Nat.blt b since)
              have hnew := hleft.filter (p := fun b => Nat.ble since b)
              have f1 : ((ces.filter fun e => !seen.toArray.contains e.born).filter fun x => decide (x.born < since)).toList = ((ces.toList.filter fun e => !bornIn seen e.born).filter fun e => Nat.blt e.born since) := by
                rw [Array.toList_filter, Array.toList_filter]
                have : (fun e : MapEntry => !seen.toArray.contains e.born) = fun e => !bornIn seen e.born := by funext e; rw [bornIn_eq]
                rw [this]
                congr 1; funext e
                rw [Bool.eq_iff_iff, decide_eq_true_eq]; simp [Nat.blt]; omega
              have f2 : ((ces.filter fun e => !seen.toArray.contains e.born).filter fun x => decide (x.born ≥ since)).toList = ((ces.toList.filter fun e => !bornIn seen e.born).filter fun e => Nat.ble since e.born) := by
                rw [Array.toList_filter, Array.toList_filter]
                have : (fun e : MapEntry => !seen.toArray.contains e.born) = fun e => !bornIn seen e.born := by funext e; rw [bornIn_eq]
                rw [this]
                congr 1; funext e
                rw [Bool.eq_iff_iff, decide_eq_true_eq]; simp
              split at hq
              · rename_i e1 e2
                cases hq
                cases hv
                rw [e1] at hold; rw [e2] at hnew
                have g1 := hold.nil_left; have g2 := hnew.nil_left
                rw [← f1] at g1; rw [← f2] at g2
                have g1' : ((ces.filter fun e => !seen.toArray.contains e.born).filter fun x => decide (x.born < since)) = #[] := by simpa using g1
                have g2' : ((ces.filter fun e => !seen.toArray.contains e.born).filter fun x => decide (x.born ≥ since)) = #[] := by simpa using g2
                refine .v h (cv := .tuple #[.bool false]) ?_ (.tuple (.cons (.raw _) .nil))
                rw [hcx, h0]
                simp only [Instr.next, Sem.run_bind, run_getObj' hw, Result.andThen_ok, Sem.run_pure, run_getObj' hwM, hcond', Bool.false_eq_true, if_false, g1', g2']
                simp [choose, Sem.run, Question.forced]
              · rename_i e e1 e2
                cases hq
                obtain ⟨k, v, b⟩ := e
                simp only at hv
                cases hv
                rw [e1] at hold; rw [e2] at hnew
                have g2 := hnew.nil_left
                rw [← f2] at g2
                have g2' : ((ces.filter fun e => !seen.toArray.contains e.born).filter fun x => decide (x.born ≥ since)) = #[] := by simpa using g2
                obtain ⟨ce', hce, g3, g4, g5⟩ : ∃ ce' : MapEntry, ((ces.toList.filter fun e => !bornIn seen e.born).filter fun e => Nat.blt e.born since) = [ce'] ∧ VRel ρ k ce'.key ∧ VRel ρ v ce'.val ∧ ce'.born = b := by
                  generalize ((ces.toList.filter fun e => !bornIn seen e.born).filter fun e => Nat.blt e.born since) = L at hold
                  cases L with
                  | nil => exact hold.elim
                  | cons c L =>
                    obtain ⟨k1, k2, k3, k4⟩ := hold
                    exact ⟨c, by rw [k4.nil_left], k1, k2, k3⟩
                rw [← f1] at hce
                have g1' : ((ces.filter fun e => !seen.toArray.contains e.born).filter fun x => decide (x.born < since)) = #[ce'] := Array.toList_inj.1 hce
                have hput := h.putObj (co := .mapIter (some lM.c) since (seen ++ [b]).toArray clock) hg hl (fun x => by simp) (ob' := .iter (some M) since (seen ++ [b]) clock) (fun x => by simp)
                  ⟨hsing, l, some lM.c, hl, h0, World.putObj_heap_same (Array.getElem?_eq_some_iff.1 hw).1, lM, hlM, rfl⟩ (Side.putPlain hw trivial trivial)
                refine .vw (cv := .tuple #[.bool true, ce'.key, ce'.val]) ?_ (.tuple (.cons (.raw _) (.cons g3 (.cons g4 .nil)))) hput (Ren.le_refl _)
                rw [hcx, h0]
                simp only [Instr.next, Sem.run_bind, run_getObj' hw, Result.andThen_ok, Sem.run_pure, run_getObj' hwM, hcond', Bool.false_eq_true, if_false, g1', g2']
                simp [choose, Sem.run, Question.forced, run_setObj' _ hw, g5]
              · cases hq
        · cases ha
      · cases ha
    · cases ha

theorem lastOf_back : ∀ (l : List Nat) (b : Nat), lastOf l = some b → l.toArray.back? = some b
  | [], _, h => by cases h
  | [x], b, h => by simp [lastOf] at h; subst h; simp
  | x :: y :: r, b, h => by
    have := lastOf_back (y :: r) b h
    simp only [List.back?_toArray] at this ⊢
    rw [List.getLast?_cons_cons]; exact this

theorem EntriesRel.find {b : Nat} : ∀ {es : AEntries} {ces : List MapEntry} {e : AVal × AVal × Nat}, EntriesRel ρ es ces → (es.find? fun e => Nat.beq e.2.2 b) = some e → ∃ c, (ces.find? fun c => c.born == b) = some c ∧ VRel ρ e.1 c.key ∧ VRel ρ e.2.1 c.val
  | [], [], _, _, h => by simp at h
  | [], _ :: _, _, h, _ => h.elim
  | _ :: _, [], _, h, _ => h.elim
  | (k, v, b') :: r, c :: ces, e, ⟨h1, h2, h3, h4⟩, h => by
    simp only [List.find?_cons] at h ⊢
    by_cases hb : b' = b
    · subst hb
      simp at h; subst h
      rw [h3]
      exact ⟨c, by simp, h1, h2⟩
    · have e1 : Nat.beq b' b = false := by
        cases hx : Nat.beq b' b with
        | false => rfl
        | true => exact absurd (Nat.beq_eq.mp hx) hb
      have e2 : (c.born == b) = false := by rw [h3]; simpa using hb
      rw [e1] at h; rw [e2]
      exact h4.find h

theorem op_iterEntry (h : HRel P B ρ H w) (hev : EvOk ρ tm ce) {x : Operand} (hop : o.op = .entry x) (hc : cOp P o.op = some ao) (ha : aOp tm ao H = some (av, H')) : OpRes .any P B ρ H w (execOp ce o) av H' := by
  rw [hop] at hc
  obtain ⟨ax, hx, rfl⟩ := Option.map_eq_some_iff.1 hc
  have he : execOp ce o = (do Pure.pure (.value (← Instr.entry (ce x)))) := by simp [execOp, hop]
  rw [he]
  have hxv := hev _ _ hx
  simp only [aOp] at ha
  obtain ⟨_, hq, heq⟩ := Option.map_eq_some_iff.1 ha
  cases heq
  unfold aIterEntry at hq
  split at hq
  · rename_i A hxe
    rw [hxe] at hxv
    obtain ⟨l, hl, hcx⟩ := hxv.ptr_inv
    split at hq
    · rename_i M since seen last hg
      split at hq
      · rename_i es clock hgM
        obtain ⟨hcl, hq⟩ := ite_some hq
        obtain ⟨b, hb, hq⟩ := Option.bind_eq_some_iff.1 hq
        obtain ⟨e, hf, hv⟩ := Option.map_eq_some_iff.1 hq
        obtain ⟨hsing, l', cm, hl', h0, hw, hit⟩ := h.obj A _ hg
        rw [hl] at hl'; cases hl'
        cases cm with
        | none => exact hit.elim
        | some c =>
          obtain ⟨lM, hlM, rfl⟩ := hit
          obtain ⟨_, lM', ces, hlM', hwM, hes⟩ := h.obj M _ hgM
          rw [hlM] at hlM'; cases hlM'
          obtain ⟨ce', k1, k2, k3⟩ := hes.find hf
          subst hv
          refine .v h (cv := .tuple #[ce'.key, ce'.val]) ?_ (.tuple (.cons k2 (.cons k3 .nil)))
          have hcl' : clock = last := Nat.beq_eq.mp hcl
          rw [hcx, h0]
          rw [Array.find?_toList] at k1
          simp only [Instr.entry, Sem.run_bind, run_getObj' hw, Result.andThen_ok, lastOf_back _ _ hb, run_getObj' hwM, hcl', bne_self_eq_false, Bool.false_eq_true, if_false, k1, Sem.run_pure]
      · cases hq
    · cases hq
  · cases hq

theorem op_clear (h : HRel P B ρ H w) (hev : EvOk ρ tm ce) {c : Call} (hop : o.op = .call c) (hb : c.callee = .builtin .clear) (hc : cClear P c.args.toList c.argTypes.toList = some ao) (ha : aOp tm ao H = some (av, H')) :
    OpRes .any P B ρ H w (execOp ce o) av H' := by
  rw [exec_builtin hop hb]
  unfold cClear at hc
  split at hc
  · rename_i x t hargs htys
    rw [arr1 hargs, arr1 htys]
    have hmap : (#[x]).map ce = #[ce x] := by simp
    rw [hmap]
    simp only [builtin]
    split at hc
    · rename_i k e hu
      obtain ⟨ax, hx, rfl⟩ := Option.map_eq_some_iff.1 hc
      have hxv := hev _ _ hx
      simp only [aOp] at ha
      obtain ⟨H1, hm, heq⟩ := Option.map_eq_some_iff.1 ha
      cases heq
      unfold aClearM at hm
      split at hm
      · rename_i hxe
        cases hm
        rw [hxe] at hxv
        refine .v h (cv := .tuple #[]) ?_ (.tuple .nil)
        simp [Builtin.clear_, run_underlying' hu, hxv.raw_inv]
      · rename_i M hxe
        split at hm
        · rename_i es clock hg
          cases hm
          rw [hxe] at hxv
          obtain ⟨l, hl, hcx⟩ := hxv.map_inv
          obtain ⟨_, ces, hw, hrel⟩ := h.mapOf hg hl
          refine .vw (cv := .tuple #[]) (w' := w.putObj l.c (.map #[] clock)) ?_ (.tuple .nil) (h.putMap hg hl (es' := []) (ces' := #[]) trivial) (Ren.le_refl _)
          simp [Builtin.clear_, run_underlying' hu, hcx, run_getObj' hw, run_setObj' _ hw]
        · cases hm
      · cases hm
    · rename_i e hu
      obtain ⟨z, hz, hc⟩ := Option.bind_eq_some_iff.1 hc
      obtain ⟨ax, hx, rfl⟩ := Option.map_eq_some_iff.1 hc
      have hxv := hev _ _ hx
      simp only [aOp] at ha
      obtain ⟨H1, hm, heq⟩ := Option.map_eq_some_iff.1 ha
      cases heq
      unfold aClearS at hm
      split at hm
      · rename_i hxe
        cases hm
        rw [hxe] at hxv
        refine .v h (cv := .tuple #[]) ?_ (.tuple .nil)
        simp [Builtin.clear_, run_underlying' hu, hxv.raw_inv]
      · rename_i A ver off len kcap ex esz hxe
        rw [hxe] at hxv
        obtain ⟨l, a, cap, hl, hcx, hk, hlk, _, hor⟩ := hxv.slice_inv
        split at hm
        · rename_i h0
          cases hm
          subst h0
          refine .v h (cv := .tuple #[]) ?_ (.tuple .nil)
          simp [Builtin.clear_, run_underlying' hu, hcx]
        · rename_i h0
          rcases hor with ⟨rfl, _⟩ | ⟨e1, _, _⟩
          · have hzr := zeros_rel (aconst_rel ρ z).cells len
            obtain ⟨w', h2, h3⟩ := h.write hm hl hzr
            refine .vw (cv := .tuple #[]) (w' := w') ?_ (.tuple .nil) h3 (Ren.le_refl _)
            cases len with
            | zero => exact absurd rfl h0
            | succ n =>
              have hz0 : (Builtin.zeroCells z.cells (n + 1)).toList = (Array.map (fun x => z.cells.toList.toArray[x % z.cells.toList.toArray.size]!) (Array.range ((n + 1) * z.cells.toList.length))).toList := by
                simp only [Builtin.zeroCells, Array.toArray_toList, Array.length_toList]
              rw [← hz0] at h2
              simp [Builtin.clear_, run_underlying' hu, hcx, run_zeroValue' hz, h2]
          · exact absurd e1 h0
      · cases hm
    · cases hc
  · cases hc

end Go.Vm
