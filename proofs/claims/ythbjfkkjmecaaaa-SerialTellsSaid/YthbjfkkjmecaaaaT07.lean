/- The abstract machine, part 14: the operations are sound (the rest; all together). -/
import Derived.Test.YthbjfkkjmecaaaaT06
import Derived.Lib.AppendZerosOnto
set_option linter.unusedVariables false
set_option linter.unusedSimpArgs false
namespace Go.Vm
open Go
variable {P : Program} {B : Base} {ρ ρ' : Ren} {H H' : AHeap} {w w' : World} {tm : List AVal} {ce : Operand → Value} {o : Oper} {av : AVal} {ao : AOp}
theorem op_copy (h : HRel P B ρ H w) (hev : EvOk ρ tm ce) {c : Call} (hop : o.op = .call c) (hb : c.callee = .builtin .copy) (hc : cCopy P c.args.toList c.argTypes.toList = some ao) (ha : aOp tm ao H = some (av, H')) :
    OpRes .any P B ρ H w (execOp ce o) av H' := by
  rw [exec_builtin hop hb]
  unfold cCopy at hc
  split at hc
  · rename_i d s t u hargs htys
    rw [arr2 hargs, arr2 htys]
    split at hc
    · rename_i e eu ht hu
      simp only [Option.bind_eq_some_iff, Option.map_eq_some_iff] at hc
      obtain ⟨n, hn, ad, hd, as, hs, rfl⟩ := hc
      have hdv := hev _ _ hd
      have hsv := hev _ _ hs
      have hmap : (#[d, s]).map ce = #[ce d, ce s] := by simp
      rw [hmap]
      simp only [builtin]
      simp only [aOp] at ha
      unfold aCopy at ha
      simp only [Option.bind_eq_some_iff] at ha
      obtain ⟨dl, hdl, sl, hsl, cells, hcells, ha⟩ := ha
      obtain ⟨a, cap, cvs, hcs, hor, hrel, hlen⟩ := run_firstCells (P := P) h hsv hcells hsl
      -- the first cells of the source
      have hfirst : ∀ k, k ≤ sl → (Builtin.firstCells n k (ce s)).run P w = .ok (cvs.take (k * n)).toArray w := fun k hk => by
        rw [hcs]
        rcases hor with ⟨rfl, h0⟩ | ⟨x, rfl, hl⟩
        · have hc0 : cvs = [] := List.eq_nil_of_length_eq_zero (by have := hrel.length; rw [this, hlen, h0]; simp)
          subst hc0
          simp [Builtin.firstCells]
        · simp only [Builtin.firstCells, hl k hk]
      have hdst : ∃ base dcap, ce d = .slice base dl dcap ∧ (base = none → dl = 0) := by
        unfold aLen at hdl
        split at hdl
        · rename_i hxe
          cases hdl
          rw [hxe] at hdv
          exact ⟨none, 0, hdv.raw_inv, fun _ => rfl⟩
        · rename_i hxe
          cases hdl
          rw [hxe] at hdv
          obtain ⟨l, x, c, _, h1, _⟩ := hdv.slice_inv
          exact ⟨some x, c, h1, fun h => by cases h⟩
        · cases hdl
      obtain ⟨base, dcap, hcd, hbase⟩ := hdst
      have hmin : Nat.min sl dl = min sl dl := rfl
      have hrun : ∀ w', (∀ x, base = some x → (storeCells x (cvs.take (min sl dl * n))).run P w = .ok () w') → (base = none → w' = w) →
          (Builtin.copy_ #[t, u] o.type #[ce d, ce s]).run P w = .ok (goInt ((min sl dl : Nat) : Int)) w' := fun w' h1 h2 => by
        unfold Builtin.copy_
        simp only [List.getElem?_toArray, List.getElem?_cons_zero, List.getElem?_cons_succ, Sem.run_bind, run_underlying' ht, Result.andThen_ok, hcd]
        have hls : (Builtin.lenOf (ce s)).run P w = .ok sl w := by rw [hcs]; simp [Builtin.lenOf]
        simp only [Sem.run_bind, hls, run_sizeOf' hn, Result.andThen_ok, hmin]
        rw [hfirst _ (Nat.min_le_left _ _)]
        simp only [Result.andThen_ok]
        cases base with
        | none => rw [h2 rfl]; simp
        | some x => simp only [Sem.run_bind, h1 x rfl, Result.andThen_ok, Sem.run_pure]
      split at ha
      · rename_i h0
        cases ha
        refine .v h (hrun w (fun x _ => ?_) (fun _ => rfl)) (.raw _)
        rw [h0]; simp [storeCells]
      · rename_i h0
        split at ha
        · rename_i A ver off len kcap ex esz hde
          obtain ⟨H'', hw, heq⟩ := Option.map_eq_some_iff.1 ha
          cases heq
          rw [hde] at hdv
          obtain ⟨l, x, c, hl, h1, hk, hlk, _, hor2⟩ := hdv.slice_inv
          rw [hcd] at h1
          cases h1
          rcases hor2 with ⟨rfl, _⟩ | ⟨e1, _, _⟩
          · obtain ⟨w', h2, h3⟩ := h.write hw hl (hrel.take _)
            refine .vw (hrun w' (fun x hx => ?_) (fun h => by cases h)) (.raw _) h3 (Ren.le_refl _)
            cases hx
            exact h2
          · subst e1; simp at h0
        · cases ha
    · cases hc
  · cases hc
theorem op_len (h : HRel P B ρ H w) (hev : EvOk ρ tm ce) {c : Call} (hop : o.op = .call c) (hb : c.callee = .builtin .len) (hc : cLen P c.args.toList c.argTypes.toList = some ao) (ha : aOp tm ao H = some (av, H')) :
    OpRes .quiet P B ρ H w (execOp ce o) av H' := by
  rw [exec_builtin hop hb]
  unfold cLen at hc
  split at hc
  · rename_i x t hargs htys
    rw [arr1 hargs, arr1 htys]
    have hmap : (#[x]).map ce = #[ce x] := by simp
    rw [hmap]
    simp only [builtin]
    split at hc
    · rename_i hu
      obtain ⟨ax, hx, rfl⟩ := Option.map_eq_some_iff.1 hc
      have hxv := hev _ _ hx
      simp only [aOp] at ha
      obtain ⟨_, hl, heq⟩ := Option.map_eq_some_iff.1 ha
      cases heq
      unfold aLenStr at hl
      split at hl
      · rename_i s hxe
        cases hl
        rw [hxe] at hxv
        refine .v h (cv := goInt s.size) ?_ (.raw _)
        simp [Builtin.len_, run_underlying' hu, hxv.raw_inv]
      · cases hl
    · rename_i e hu
      obtain ⟨ax, hx, rfl⟩ := Option.map_eq_some_iff.1 hc
      have hxv := hev _ _ hx
      simp only [aOp] at ha
      obtain ⟨_, hl, heq⟩ := Option.map_eq_some_iff.1 ha
      cases heq
      unfold aLenS at hl
      split at hl
      · rename_i hxe
        cases hl
        rw [hxe] at hxv
        refine .v h (cv := goInt 0) ?_ (.raw _)
        simp [Builtin.len_, run_underlying' hu, hxv.raw_inv]
      · rename_i hxe
        cases hl
        rw [hxe] at hxv
        obtain ⟨l, a, cap, _, hcx, _⟩ := hxv.slice_inv
        refine .v h (cv := goInt _) ?_ (.raw _)
        simp [Builtin.len_, run_underlying' hu, hcx]
      · cases hl
    · rename_i k e hu
      obtain ⟨ax, hx, rfl⟩ := Option.map_eq_some_iff.1 hc
      have hxv := hev _ _ hx
      simp only [aOp] at ha
      obtain ⟨_, hl, heq⟩ := Option.map_eq_some_iff.1 ha
      cases heq
      unfold aLenM at hl
      split at hl
      · rename_i hxe
        cases hl
        rw [hxe] at hxv
        refine .v h (cv := goInt 0) ?_ (.raw _)
        simp [Builtin.len_, run_underlying' hu, hxv.raw_inv]
      · rename_i M hxe
        split at hl
        · rename_i es clock hg
          cases hl
          rw [hxe] at hxv
          obtain ⟨l, hl, hcx⟩ := hxv.map_inv
          obtain ⟨_, ces, hw, hrel⟩ := h.mapOf hg hl
          have hlen := hrel.length
          refine .v h (cv := goInt ces.size) ?_ (by rw [show ces.size = es.length by simpa using hlen]; exact .raw _)
          simp only [Builtin.len_, List.getElem?_toArray, List.getElem?_cons_zero, Sem.run_bind, run_underlying' hu, Result.andThen_ok, hcx, run_getObj_at hw, Sem.run_pure]
        · cases hl
      · cases hl
    · rename_i n e hu
      obtain ⟨ax, hx, rfl⟩ := Option.map_eq_some_iff.1 hc
      simp only [aOp] at ha
      cases ha
      refine .v h (cv := goInt n) ?_ (.raw _)
      simp [Builtin.len_, run_underlying' hu]
    · rename_i a hu
      split at hc
      · rename_i n e hu2
        obtain ⟨ax, hx, rfl⟩ := Option.map_eq_some_iff.1 hc
        simp only [aOp] at ha
        cases ha
        refine .v h (cv := goInt n) ?_ (.raw _)
        simp [Builtin.len_, run_underlying' hu, run_underlying' hu2]
      · cases hc
    · cases hc
  · cases hc
theorem minmax_fold (isMax : Bool) : ∀ (xs : List AVal) (cxs : List Value) (k : IntKind) (a : Int) {av : AVal}, VRels ρ xs cxs → aMinMax isMax (.raw (.int k a)) xs = some av →
    ∃ cv, av = .raw cv ∧ (cxs.foldlM (if isMax then Builtin.max2 else Builtin.min2) (Value.int k a)).run P w = .ok cv w
  | [], _, k, a, av, .nil, h => by
    simp [aMinMax] at h; subst h
    exact ⟨_, rfl, by simp⟩
  | x :: xs, cx :: cxs, k, a, av, .cons hx hxs, h => by
    have hxe : ∃ k' b, x = .raw (.int k' b) := by
      cases x with
      | raw v => cases v <;> first | exact ⟨_, _, rfl⟩ | (simp [aMinMax] at h)
      | _ => simp [aMinMax] at h
    obtain ⟨k', b, rfl⟩ := hxe
    simp only [aMinMax, ilt_eq] at h
    obtain ⟨cv, h1, h2⟩ := minmax_fold isMax xs cxs k _ hxs h
    refine ⟨cv, h1, ?_⟩
    rw [hx.raw_inv, List.foldlM_cons]
    cases isMax
    · simp only [Bool.false_eq_true, if_false, Builtin.min2, Sem.run_bind, Sem.run_pure, Result.andThen_ok, decide_eq_true_eq] at h2 ⊢
      exact h2
    · simp only [if_true, Builtin.max2, Sem.run_bind, Sem.run_pure, Result.andThen_ok, decide_eq_true_eq] at h2 ⊢
      have : (if a > b then a else b) = (if a < b then b else a) := by
        by_cases h1 : a < b
        · rw [if_neg (by omega), if_pos h1]
        · rw [if_neg h1]
          by_cases h3 : a > b
          · rw [if_pos h3]
          · rw [if_neg h3]; omega
      first | exact h2 | (rw [this]; exact h2)
theorem op_minmax (isMax : Bool) (h : HRel P B ρ H w) (hev : EvOk ρ tm ce) {c : Call} (hop : o.op = .call c) (hb : c.callee = .builtin (if isMax then .max else .min)) (hc : (cOpds c.args.toList).map (.minmax isMax) = some ao) (ha : aOp tm ao H = some (av, H')) :
    OpRes .quiet P B ρ H w (execOp ce o) av H' := by
  rw [exec_builtin hop hb]
  obtain ⟨axs, hxs, rfl⟩ := Option.map_eq_some_iff.1 hc
  have hrel := cOpds_rel hev hxs
  simp only [aOp] at ha
  split at ha
  · rename_i x r hxe
    obtain ⟨_, hm, heq⟩ := Option.map_eq_some_iff.1 ha
    cases heq
    rw [hxe] at hrel
    have hmap : (c.args.map ce).toList = c.args.toList.map ce := by simp
    cases hcm : c.args.toList.map ce with
    | nil => rw [hcm] at hrel; cases hrel
    | cons cx cr =>
      rw [hcm] at hrel
      cases hrel with
      | cons h1 h2 =>
        have hxe' : (∃ k a, x = .raw (.int k a)) ∨ r = [] := by
          cases r with
          | nil => exact .inr rfl
          | cons y r =>
            left
            cases x with
            | raw v => cases v <;> first | exact ⟨_, _, rfl⟩ | (simp [aMinMax] at hm)
            | _ => simp [aMinMax] at hm
        have hrun : ∃ cv, VRel ρ av cv ∧ (cr.foldlM (if isMax then Builtin.max2 else Builtin.min2) cx).run P w = .ok cv w := by
          rcases hxe' with ⟨k, a, rfl⟩ | rfl
          · obtain ⟨cv, rfl, h3⟩ := minmax_fold (P := P) (w := w) isMax r cr k a h2 hm
            rw [h1.raw_inv]
            exact ⟨cv, .raw _, h3⟩
          · cases h2
            simp [aMinMax] at hm; subst hm
            exact ⟨cx, h1, by simp⟩
        obtain ⟨cv, h3, h4⟩ := hrun
        cases isMax
        · simp only [Bool.false_eq_true, if_false, builtin] at h4 ⊢
          refine .v h (cv := cv) ?_ h3
          simp only [Builtin.min_, hmap, hcm, h4]
        · simp only [if_true, builtin] at h4 ⊢
          refine .v h (cv := cv) ?_ h3
          simp only [Builtin.max_, hmap, hcm, h4]
  · cases ha
theorem op_delete (h : HRel P B ρ H w) (hev : EvOk ρ tm ce) {c : Call} (hop : o.op = .call c) (hb : c.callee = .builtin .delete) (hc : cDelete P c.args.toList c.argTypes.toList = some ao) (ha : aOp tm ao H = some (av, H')) :
    OpRes .any P B ρ H w (execOp ce o) av H' := by
  rw [exec_builtin hop hb]
  unfold cDelete at hc
  split at hc
  · rename_i m k t tk hargs htys
    rw [arr2 hargs, arr2 htys]
    have hmap : (#[m, k]).map ce = #[ce m, ce k] := by simp
    rw [hmap]
    simp only [builtin]
    split at hc
    · rename_i key e hu
      split at hc
      · rename_i q hkey
        simp only [Option.bind_eq_some_iff, Option.map_eq_some_iff] at hc
        obtain ⟨am, hm, ak, hk, rfl⟩ := hc
        have hmv := hev _ _ hm
        have hkv := hev _ _ hk
        simp only [aOp, Option.map_eq_some_iff] at ha
        obtain ⟨H'', hd, heq⟩ := ha
        cases heq
        unfold aMapDelete at hd
        split at hd
        · rename_i hme
          cases hd
          rw [hme] at hmv
          refine .v h (cv := .tuple #[]) ?_ (.raw _)
          simp [Builtin.delete_, run_underlying' hu, hmv.raw_inv, run_checkKey_int hkey]
        · rename_i M kk n hme hke
          rw [hme] at hmv
          rw [hke] at hkv
          have hck := hkv.raw_inv
          split at hd
          · rename_i es clock hg
            obtain ⟨r, hf, hH⟩ := Option.map_eq_some_iff.1 hd
            obtain ⟨l, hl', hcm⟩ := hmv.map_inv
            obtain ⟨_, ces, hw, hrel⟩ := h.mapOf hg hl'
            obtain ⟨cr, h1, h2⟩ := aFind_rel q hrel hf
            cases r with
            | none =>
              subst h2
              simp only at hH
              subst hH
              have hput : w.putObj l.c (.map ces clock) = w := by
                unfold World.putObj
                obtain ⟨hc, hv⟩ := Array.getElem?_eq_some_iff.1 hw
                have : w.heap.setIfInBounds l.c (.map ces clock) = w.heap := by
                  apply Array.ext_getElem?
                  intro j
                  rw [Array.getElem?_setIfInBounds]
                  by_cases hj : l.c = j
                  · subst hj; simp [hc, hv]
                  · simp [hj]
                rw [this]
              refine .v h (cv := .tuple #[]) ?_ (.raw _)
              simp only [Builtin.delete_, List.getElem?_toArray, List.getElem?_cons_zero, List.getElem?_cons_succ, Sem.run_bind, run_underlying' hu, Result.andThen_ok, hcm, hck, run_checkKey_int hkey, run_getObj_at hw]
              rw [run_findKey hkey h1]
              simp only [Result.andThen_ok, Sem.run_bind, run_setObj_at _ hw, hput, Sem.run_pure]
            | some y =>
              obtain ⟨j, v, b⟩ := y
              obtain ⟨cv, e', rfl, g2, _, g4, g5, g6, g7⟩ := h2
              simp only at hH
              subst hH
              refine .vw (cv := .tuple #[]) (w' := w.putObj l.c (.map (ces.eraseIdxIfInBounds j) clock)) ?_ (.raw _) (h.putMap hg hl' ?_) (Ren.le_refl _)
              · simp only [Builtin.delete_, List.getElem?_toArray, List.getElem?_cons_zero, List.getElem?_cons_succ, Sem.run_bind, run_underlying' hu, Result.andThen_ok, hcm, hck, run_checkKey_int hkey, run_getObj_at hw]
                rw [run_findKey hkey h1]
                simp only [Result.andThen_ok, Sem.run_bind, run_setObj_at _ hw, Sem.run_pure]
              · have hj : j < ces.size := by
                  have := (List.getElem?_eq_some_iff.1 g4).1
                  simpa using this
                rw [show (ces.eraseIdxIfInBounds j).toList = ces.toList.eraseIdx j by simp [Array.eraseIdxIfInBounds, hj]]
                exact EntriesRel.erase j hrel
          · cases hd
        · cases hd
      · cases hc
    · cases hc
  · cases hc
theorem op_cap (h : HRel P B ρ H w) (hev : EvOk ρ tm ce) {c : Call} (hop : o.op = .call c) (hb : c.callee = .builtin .cap) (hc : cCap P c.args.toList c.argTypes.toList = some ao) (ha : aOp tm ao H = some (av, H')) :
    OpRes .any P B ρ H w (execOp ce o) av H' := by
  rw [exec_builtin hop hb]
  unfold cCap at hc
  split at hc
  · rename_i x t hargs htys
    have e1 : c.args = #[x] := by rw [← Array.toArray_toList (xs := c.args), hargs]
    have e2 : c.argTypes = #[t] := by rw [← Array.toArray_toList (xs := c.argTypes), htys]
    rw [e1, e2]
    have hmap : (#[x]).map ce = #[ce x] := by simp
    rw [hmap]
    split at hc
    · rename_i e hu
      obtain ⟨ax, hx, rfl⟩ := Option.map_eq_some_iff.1 hc
      have hxv := hev _ _ hx
      simp only [aOp] at ha
      obtain ⟨v, hv, heq⟩ := Option.map_eq_some_iff.1 ha
      cases heq
      simp only [builtin]
      unfold aCap at hv
      split at hv
      · rename_i hxe
        cases hv
        rw [hxe] at hxv
        obtain ⟨l, a, cap, hl, hcs, hk, hlen, hex, hor⟩ := hxv.slice_inv
        have := hex rfl
        subst this
        refine .v h (cv := goInt cap) ?_ (.raw _)
        rw [hcs]
        simp [Builtin.cap_, run_underlying' hu]
      · rename_i hxe
        cases hv
        rw [hxe] at hxv
        refine .v h (cv := goInt 0) ?_ (.raw _)
        rw [hxv.raw_inv]
        simp [Builtin.cap_, run_underlying' hu]
      · cases hv
    · cases hc
  · cases hc
set_option maxHeartbeats 1000000 in
theorem op_appendZ (h : HRel P B ρ H w) (hev : EvOk ρ tm ce) {c : Call} (hop : o.op = .call c) (hb : c.callee = .builtin .append) (hc : cAppendZ P c.args.toList c.argTypes.toList = some ao) (ha : aOp tm ao H = some (av, H')) :
    OpRes .any P B ρ H w (execOp ce o) av H' := by
  rw [exec_builtin hop hb]
  unfold cAppendZ at hc
  split at hc
  · rename_i s x t u hargs htys
    rw [arr2 hargs, arr2 htys]
    split at hc
    · rename_i e kn ht hu
      simp only [Option.bind_eq_some_iff] at hc
      obtain ⟨i, hi, z, hz, hc⟩ := hc
      obtain ⟨hzl, hc⟩ := ite_some hc
      simp only [beq_iff_eq] at hzl
      simp only [Option.bind_eq_some_iff, Option.map_eq_some_iff] at hc
      obtain ⟨as, hs, ax, hx, rfl⟩ := hc
      have hsv := hev _ _ hs
      have hxv := hev _ _ hx
      have hzr := (aconst_rel ρ z).cells
      have hzl' := hzr.length
      have hzc : z.cells.size = i.size := by simp at hzl'; omega
      have hmap : (#[s, x]).map ce = #[ce s, ce x] := by simp
      rw [hmap]
      simp only [builtin]
      simp only [aOp] at ha
      unfold aAppendZ at ha
      split at ha
      · rename_i A ver off len kcap esz' l hse hxe
        obtain ⟨hcnd, ha2⟩ := ite_some ha
        obtain ⟨hes, hez, hbz, hl0, hkc, hbig⟩ := hcnd
        subst hes
        obtain ⟨cells, hrow, ha3⟩ := Option.bind_eq_some_iff.1 ha2
        obtain ⟨hcl, ha4⟩ := ite_some ha3
        cases ha4
        rw [hse] at hsv
        rw [hxe] at hxv
        have hcells : aCells H i.size (.slice A ver off len kcap true i.size) = some ((cells.drop off).take (len * i.size)) := by
          simp only [aCells, hrow, Option.bind_some, hcl, if_true]
        obtain ⟨colds, hor, horel, holen, xa, xcap, hcx⟩ := firstCells_run (P := P) h.drew hsv hcells rfl
        obtain ⟨lc, a, cap, hlc, hcs, hk, hlen, hex, _⟩ := hsv.slice_inv
        have hq : xa = some a ∧ xcap = kcap := by
          have := hcx.symm.trans hcs
          simp only [Value.slice.injEq, true_and] at this
          exact ⟨this.1, this.2.trans (hex rfl)⟩
        rw [hq.1, hq.2] at hcx
        have hk2 : (l.toNat : Int) = l := Int.toNat_of_nonneg (by omega)
        have hmax := Nat.le_mul_of_pos_right (len + l.toNat) hbz
        have hrun := Lib.run_append_grow_zeros (P := P) w t u o.type e i z .i64 kn ht hu hi hz (some a) len kcap colds (by rw [← hcx]; exact hor) l.toNat (by omega) hez hkc (by omega) (by
          have := Nat.mul_le_mul_right i.bytes (show l.toNat ≤ len + l.toNat by omega); omega) (by
          have h1 := nextslicecap_le hkc
          have h2 := Nat.mul_le_mul_right i.bytes h1
          rw [Nat.mul_assoc] at h2; omega)
        rw [hk2] at hrun
        have hcap := Go.grownCap_ge w (len + l.toNat) kcap e
        have hzero := zeros_rel hzr l.toNat
        have hze : (Array.range (l.toNat * z.cells.toList.length)).map (fun x => z.cells.toList.toArray[x % z.cells.toList.toArray.size]!) = Builtin.zeroCells z.cells l.toNat := by
          simp [Builtin.zeroCells]
        rw [hze] at hzero
        have hzz : (Builtin.zeroCells z.cells l.toNat).toList.toArray = Builtin.zeroCells z.cells l.toNat := Array.toArray_toList
        rw [← hzz] at hrun
        have hsize : (colds.toArray ++ (Builtin.zeroCells z.cells l.toNat).toList.toArray ++ Builtin.zeroCells z.cells (grownCap w (len + l.toNat) kcap e - (len + l.toNat))).size = grownCap w (len + l.toNat) kcap e * i.size := by
          have hcl2 := horel.length
          have e1 : (grownCap w (len + l.toNat) kcap e - (len + l.toNat)) * i.size = grownCap w (len + l.toNat) kcap e * i.size - (len + l.toNat) * i.size := Nat.sub_mul _ _ _
          have e2 : (len + l.toNat) * i.size = len * i.size + l.toNat * i.size := Nat.add_mul _ _ _
          have e3 : (len + l.toNat) * i.size ≤ grownCap w (len + l.toNat) kcap e * i.size := Nat.mul_le_mul_right _ hcap
          simp only [Array.size_append, zeroCells_size, hzc, List.size_toArray, Array.length_toList]
          omega
        have f1 := VRel.slice (ρ := ρ.put H.next 0 ⟨w.heap.size, 0, (colds.toArray ++ (Builtin.zeroCells z.cells l.toNat).toList.toArray ++ Builtin.zeroCells z.cells (grownCap w (len + l.toNat) kcap e - (len + l.toNat))).size⟩) (off := 0) (len := len + l.toNat) (kcap := len + l.toNat) (cap := grownCap w (len + l.toNat) kcap e) (ex := false) (esz := i.size) (Ren.put_same _ _ _ _) hcap (Nat.le_refl _) (fun h => by cases h) (by dsimp only; omega)
        have f2 := h.drew.newRow (e := e) (grown_cells horel hzero (Builtin.zeroCells z.cells (grownCap w (len + l.toNat) kcap e - (len + l.toNat))))
        rw [hxv.raw_inv, hcx]
        simp only [Nat.add_zero] at f1
        exact .vw hrun f1 f2 (Ren.put_le (h.fresh _ _ (Nat.le_refl _)))
      · cases ha
    · cases hc
  · cases hc
theorem aOp_modes (h : HRel P B ρ H w) (hev : EvOk ρ tm ce) (hc : cOp P o.op = some ao) (ha : aOp tm ao H = some (av, H')) :
    OpRes (opMode o.op) P B ρ H w (execOp ce o) av H' := by
  cases hop : o.op with
  | move x =>
    rw [hop] at hc
    obtain ⟨ax, hx, rfl⟩ := Option.map_eq_some_iff.1 hc
    simp only [aOp] at ha; cases ha
    exact op_move h hev (.inl hop) hx
  | assign x =>
    rw [hop] at hc
    obtain ⟨ax, hx, rfl⟩ := Option.map_eq_some_iff.1 hc
    simp only [aOp] at ha; cases ha
    exact op_move h hev (.inr hop) hx
  | pick c a b => exact op_pick h hev hop hc ha
  | alloc t => exact op_alloc h hop hc ha
  | box t x => exact op_box h hev hop hc ha
  | build t ps => exact op_build h hev hop hc ha
  | buildSlice t n ps => exact op_buildSlice h hev hop hc ha
  | load t x => exact op_load h hev hop hc ha
  | store t a x => exact op_store h hev hop hc ha
  | nilCheck x => exact op_nilCheck h hev hop hc ha
  | binOp op t x y yt => exact op_bin h hev hop hc ha
  | unOp op t x => exact op_un h hev hop hc ha
  | convert s d x => exact op_conv h hev hop hc ha
  | makeFunc fn f c => exact op_makeFunc h hev hop hc ha
  | makeInterface t x => exact op_makeIface h hev hop hc ha
  | fieldAddr s x f => exact op_ptrAdd h hev hop hc ha
  | field s x f => exact op_field h hev hop hc ha
  | indexAddr t x i => exact op_idxAddr h hev hop hc ha
  | index t x i => exact op_index h hev hop hc ha
  | slice t x lo hi mx => exact op_slice h hev hop hc ha
  | makeSlice t l c => exact op_makeSlice h hev hop hc ha
  | makeMap t r => exact op_makeMap h hop hc ha
  | lookup t x k ok => exact op_lookup h hev hop hc ha
  | mapUpdate t m k x => exact op_mapUpdate h hev (.inl hop) hc ha
  | insert t m k x => exact op_mapUpdate h hev (.inr hop) hc ha
  | mapEntry t m k => exact op_mapEntry h hev hop hc ha
  | entryStore t m s x => exact op_entryStore h hev hop hc ha
  | extract x i => exact op_extract h hev hop hc ha
  | range t x => exact op_iterNew h hev hop hc ha
  | next x str => exact op_iterNext h hev hop hc ha
  | entry x => exact op_iterEntry h hev hop hc ha
  | call c =>
    rw [hop] at hc
    change cCall P c = some ao at hc
    unfold cCall at hc
    split at hc
    · obtain ⟨f, _, hc⟩ := Option.bind_eq_some_iff.1 hc
      obtain ⟨as, _, rfl⟩ := Option.map_eq_some_iff.1 hc
      cases ha
    · cases hc
    · rename_i b hb
      unfold cBuiltin at hc
      split at hc
      · rw [show opMode (.call c) = .any by simp [opMode, hb]]
        split at hc
        · exact op_appendZ h hev hop hb hc ha
        · exact op_append h hev hop hb hc ha
      · rw [show opMode (.call c) = .any by simp [opMode, hb]]; exact op_cap h hev hop hb hc ha
      · rw [show opMode (.call c) = .any by simp [opMode, hb]]; exact op_copy h hev hop hb hc ha
      · rw [show opMode (.call c) = .quiet by simp [opMode, hb]]; exact op_len h hev hop hb hc ha
      · rw [show opMode (.call c) = .any by simp [opMode, hb]]; exact op_delete h hev hop hb hc ha
      · rw [show opMode (.call c) = .any by simp [opMode, hb]]; exact op_clear h hev hop hb hc ha
      · rw [show opMode (.call c) = .quiet by simp [opMode, hb]]; exact op_minmax false h hev hop hb hc ha
      · rw [show opMode (.call c) = .quiet by simp [opMode, hb]]; exact op_minmax true h hev hop hb hc ha
      · cases hc
  | _ => rw [hop] at hc; cases hc
theorem OpRes.any {m : Mode} {H0 : AHeap} {s : Sem Next} (h : OpRes m P B ρ H0 w s av H') : OpRes .any P B ρ H0 w s av H' := h.weak
theorem aOp_sound (h : HRel P B ρ H w) (hev : EvOk ρ tm ce) (hc : cOp P o.op = some ao) (ha : aOp tm ao H = some (av, H')) : OpRes .any P B ρ H w (execOp ce o) av H' := (aOp_modes h hev hc ha).weak
end Go.Vm
