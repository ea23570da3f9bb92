/- The abstract machine, part 12: the operations are sound (maps). -/
import Derived.Test.YthbjfkkjmecaaaaY04
set_option linter.unusedVariables false
set_option linter.unusedSimpArgs false
namespace Go.Vm
open Go
section
variable {P : Program} {B : Base} {ρ : Ren} {H H' : zz6} {w w' : World} {tm : List AVal} {ce : Operand → Value} {o : Oper} {av : AVal} {ao : AOp}
theorem HRel.putObj (h : HRel P B ρ H w) {A ver : Nat} {ob ob' : AObj} {l : Loc} {co : Obj} (hg : H.get A = some ob) (hl : ρ A ver = some l) (hn : ∀ x, ob ≠ .ro x) (hn' : ∀ x, ob' ≠ .ro x)
  (hrel : zwc P ρ (w.putObj l.c co) A ob') (hs : Side w (w.putObj l.c co)) : HRel P B ρ (H.set A ob') (w.putObj l.c co) := by
 have hro : ∀ X, isRo (H.set A ob') X ↔ isRo H X := fun X => by
  unfold isRo
  by_cases e : X = A
  ·subst e; rw [zz6.zzy, hg]; simp [hn, hn']
  ·rw [zz6.zzz _ _ e]
 have hA : ¬ isRo H A := by rintro ⟨x, hx⟩; rw [hg] at hx; exact hn x (Option.some.inj hx)
 refine ⟨h.le, h.fresh, fun X hX => ?_, fun X v x hx => ?_, fun X o' hX => ?_, fun A1 A2 v1 v2 l1 l2 e1 e2 e3 => ?_, fun X v x hx hr => ?_, fun X v x hx => ?_, ?_, fun c hc hb => ?_, h.side.trans hs, fun X v x hr hx => h.ro X v x ((hro X).1 hr) hx⟩
 ·have := h.wf X hX
  by_cases e : X = A
  ·subst e; rw [hg] at this; cases this
  ·rw [zz6.zzz _ _ e]; exact this
 ·by_cases e : X = A
  ·subst e; exact ⟨_, zz6.zzy _ _ _⟩
  ·rw [zz6.zzz _ _ e]; exact h.dom X v x hx
 ·by_cases e : X = A
  ·subst e; rw [zz6.zzy] at hX; cases hX; exact hrel
  ·rw [zz6.zzz _ _ e] at hX
   refine (h.obj X o' hX).keep (Ren.le_refl _) (fun _ => rfl) (fun v x hx => World.putObj_heap_other fun hc => ?_)
   rcases h.sep X A v ver x l hx hl hc with h1 | h1
   ·exact e h1
   ·exact hA h1.2
 ·rw [hro, hro]; exact h.sep A1 A2 v1 v2 l1 l2 e1 e2 e3
 ·rw [hro] at hr; exact h.own X v x hx hr
 ·simp; exact h.lt X v x hx
 ·simp; exact h.size
 ·by_cases e : c = l.c
  ·rcases h.own A ver l hl hA with h1 | h1
   ·exact absurd (e ▸ h1) hb
   ·omega
  ·rw [World.putObj_heap_other e]; exact h.frame c hc hb
theorem HRel.mapOf (h : HRel P B ρ H w) {M : Nat} {es : zzb} {clock : Nat} (hg : H.get M = some (.map es clock)) {l : Loc} (hl : ρ M 0 = some l) :
  zxg ρ M ∧ ∃ ces, w.heap[l.c]? = some (.map ces clock) ∧ zzv ρ es ces.toList := by
 obtain ⟨h1, l', ces, h2, h3, h4⟩ := h.obj M _ hg
 rw [hl] at h2; cases h2
 exact ⟨h1, ces, h3, h4⟩
theorem HRel.putMap (h : HRel P B ρ H w) {M : Nat} {es es' : zzb} {clock clock' : Nat} (hg : H.get M = some (.map es clock)) {l : Loc} (hl : ρ M 0 = some l) {ces' : Array MapEntry}
  (hrel : zzv ρ es' ces'.toList) : HRel P B ρ (H.set M (.map es' clock')) (w.putObj l.c (.map ces' clock')) := by
 obtain ⟨h1, ces, h2, h3⟩ := h.mapOf hg hl
 exact h.putObj hg hl (fun x => by simp) (fun x => by simp) ⟨h1, l, ces', hl, World.putObj_heap_same (Array.getElem?_eq_some_iff.1 h2).1, hrel⟩ (Side.putPlain h2 trivial trivial)
theorem zj1 {kk : IntKind} {n : Int} (q : IntKind) : ∀ {es : zzb} {ces : List MapEntry} {i : Nat} {r : Option (Nat × AVal × Nat)}, zzv ρ es ces → zwe kk n es i = some r →
  ∃ cr, Instr.findNow (.int q) (.int kk n) ces i = some cr ∧ (match r with
   | none => cr = none
   | some (j, v, b) => ∃ cv e, cr = some (j, cv) ∧ VRel ρ v cv ∧ i ≤ j ∧ ces[j - i]? = some e ∧ e.val = cv ∧ e.born = b ∧ e.key = .int kk n)
 | [], [], i, r, _, h => by
  simp [zwe] at h; subst h
  exact ⟨none, rfl, rfl⟩
 | [], _ :: _, _, _, h, _ => h.elim
 | _ :: _, [], _, _, h, _ => h.elim
 | (k, v, b) :: es, e :: ces, i, r, ⟨hk, hv, hb, hr⟩, h => by
  have hke : ∃ k' m, k = .raw (.int k' m) := by
   cases k with
   | raw kv => cases kv <;> first | exact ⟨_, _, rfl⟩ | (simp [zwe] at h)
   | _ => simp [zwe] at h
  obtain ⟨k', m, rfl⟩ := hke
  have hke := hk.raw_inv
  simp only [zwe] at h
  split at h
  ·rename_i hkk
   subst hkk
   split at h
   ·rename_i hm
    cases h
    have hm' : n = m := by simpa [ieq_eq] using hm
    subst hm'
    refine ⟨some (i, e.val), ?_, e.val, e, rfl, hv, Nat.le_refl _, by simp, rfl, hb, hke⟩
    simp [Instr.findNow, hke, Instr.sameNow]
   ·rename_i hm
    have hm' : ¬ n = m := by simpa [ieq_eq] using hm
    obtain ⟨cr, h1, h2⟩ := zj1 q hr h
    refine ⟨cr, ?_, ?_⟩
    ·have : (n == m) = false := by simpa using hm'
     simp [Instr.findNow, hke, Instr.sameNow, this, h1]
    ·cases r with
     | none => exact h2
     | some x =>
      obtain ⟨j, v, b⟩ := x
      obtain ⟨cv, e', g1, g2, g3, g4, g5⟩ := h2
      refine ⟨cv, e', g1, g2, by omega, ?_, g5⟩
      rw [show j - i = (j - (i + 1)) + 1 by omega]
      simpa using g4
  ·cases h
theorem zyz {key : TypeId} {q : IntKind} (hk : P.underlying key = some (.int q)) (b : Bool) (n : Nat) (v : Value) : (Instr.checkKey b (n + 1) key v).run P w = .ok () w := by
 simp [Instr.checkKey, zz7 hk]
theorem zxr {key : TypeId} {q : IntKind} (hk : P.underlying key = some (.int q)) {kk : IntKind} {n : Int} {ces : List MapEntry} {cr : Option (Nat × Value)} (h : Instr.findNow (.int q) (.int kk n) ces 0 = some cr) :
  (Instr.findKey key (.int kk n) ces).run P w = .ok cr w := by
 simp [Instr.findKey, zz7 hk, h]
theorem zzv.setVal {v : AVal} {cv : Value} (hv : VRel ρ v cv) : ∀ {es : zzb} {ces : List MapEntry} (i : Nat), zzv ρ es ces → zzv ρ (setVal v es i) (ces.modify i fun e => { e with val := cv })
 | [], [], i, _ => by cases i <;> trivial
 | [], _ :: _, _, h => h.elim
 | _ :: _, [], _, h => h.elim
 | (k, u, b) :: es, e :: ces, 0, ⟨h1, h2, h3, h4⟩ => ⟨h1, hv, h3, h4⟩
 | (k, u, b) :: es, e :: ces, i + 1, ⟨h1, h2, h3, h4⟩ => ⟨h1, h2, h3, zzv.setVal hv i h4⟩
theorem zzv.snoc {k v : AVal} {ck cv : Value} {b : Nat} (hk : VRel ρ k ck) (hv : VRel ρ v cv) : ∀ {es : zzb} {ces : List MapEntry}, zzv ρ es ces → zzv ρ (es ++ [(k, v, b)]) (ces ++ [{ key := ck, val := cv, born := b }])
 | [], [], _ => ⟨hk, hv, rfl, trivial⟩
 | [], _ :: _, h => h.elim
 | _ :: _, [], h => h.elim
 | _ :: es, _ :: ces, ⟨h1, h2, h3, h4⟩ => ⟨h1, h2, h3, zzv.snoc hk hv h4⟩
theorem zzv.erase : ∀ {es : zzb} {ces : List MapEntry} (i : Nat), zzv ρ es ces → zzv ρ (es.eraseIdx i) (ces.eraseIdx i)
 | [], [], i, _ => by simp; trivial
 | [], _ :: _, _, h => h.elim
 | _ :: _, [], _, h => h.elim
 | (_, _, _) :: es, _ :: ces, 0, ⟨h1, h2, h3, h4⟩ => h4
 | (_, _, _) :: es, _ :: ces, i + 1, ⟨h1, h2, h3, h4⟩ => ⟨h1, h2, h3, zzv.erase i h4⟩
theorem zzv.length : ∀ {es : zzb} {ces : List MapEntry}, zzv ρ es ces → ces.length = es.length
 | [], [], _ => rfl
 | [], _ :: _, h => h.elim
 | _ :: _, [], h => h.elim
 | (_, _, _) :: es, _ :: ces, ⟨_, _, _, h4⟩ => by simp [zzv.length h4]
theorem zyg {r : Nat} {es : Array MapEntry} {clock : Nat} (h : w.heap[r]? = some (.map es clock)) : (getObj r).run P w = .ok (.map es clock) w := by simp [getObj, Sem.run, h]
theorem zxs {r : Nat} {es : Array MapEntry} {clock : Nat} (ob : Obj) (h : w.heap[r]? = some (.map es clock)) : (setObj r ob).run P w = .ok () (w.putObj r ob) := by simp [setObj, Sem.run, h, World.putObj]
theorem zax (h : HRel P B ρ H w) (hev : zvg ρ tm ce) {t : TypeId} {x k : Operand} {ok : Bool} (hop : o.op = .lookup t x k ok) (hc : cOp P o.op = some ao) (ha : aOp tm ao H = some (av, H')) : zyf .quiet P B ρ H w (execOp ce o) av H' := by
 rw [hop] at hc
 simp only [cOp] at hc
 have he : execOp ce o = (do Pure.pure (.value (← Instr.lookup t (ce x) (ce k) ok))) := by simp [execOp, hop]
 rw [he]
 split at hc
 ·rename_i key e hu
  split at hc
  ·rename_i q hkey
   simp only [Option.bind_eq_some_iff, Option.map_eq_some_iff] at hc
   obtain ⟨z, hz, ax, hx, ak, hk, rfl⟩ := hc
   have hxv := hev _ _ hx
   have hkv := hev _ _ hk
   simp only [aOp, Option.map_eq_some_iff] at ha
   obtain ⟨_, hl, heq⟩ := ha
   cases heq
   unfold zzr at hl
   split at hl
   ·rename_i kk n hke
    rw [hke] at hkv
    have hck := hkv.raw_inv
    split at hl
    ·rename_i hxe
     cases hl
     rw [hxe] at hxv
     have hcx := hxv.raw_inv
     refine .v h (cv := if ok then .tuple #[z, .bool false] else z) ?_ ?_
     ·simp only [Instr.lookup, Sem.run_bind, zz7 hu, Result.andThen_ok, hcx, Sem.run_pure, hck, zyz hkey]
      rw [zxr hkey (cr := none) rfl]
      simp only [Result.andThen_ok, Sem.run_bind, zyj hz, Sem.run_pure]
     ·cases ok
      ·exact zyl ρ z
      ·exact .tuple (.cons (zyl ρ z) (.cons (.raw _) .nil))
    ·rename_i M hxe
     split at hl
     ·rename_i es clock hg
      obtain ⟨r, hf, rfl⟩ := Option.map_eq_some_iff.1 hl
      rw [hxe] at hxv
      obtain ⟨l, hl', hcx⟩ := hxv.map_inv
      obtain ⟨_, ces, hw, hrel⟩ := h.mapOf hg hl'
      obtain ⟨cr, h1, h2⟩ := zj1 q hrel hf
      cases r with
      | none =>
       subst h2
       refine .v h (cv := if ok then .tuple #[z, .bool false] else z) ?_ ?_
       ·simp only [Instr.lookup, Sem.run_bind, zz7 hu, Result.andThen_ok, hcx, Sem.run_pure, hck, zyz hkey, zyg hw]
        rw [zxr hkey h1]
        simp only [Result.andThen_ok, Sem.run_bind, zyj hz, Sem.run_pure]
       ·cases ok
        ·exact zyl ρ z
        ·exact .tuple (.cons (zyl ρ z) (.cons (.raw _) .nil))
      | some x =>
       obtain ⟨j, v, b⟩ := x
       obtain ⟨cv, e', rfl, g2, _⟩ := h2
       refine .v h (cv := if ok then .tuple #[cv, .bool true] else cv) ?_ ?_
       ·simp only [Instr.lookup, Sem.run_bind, zz7 hu, Result.andThen_ok, hcx, Sem.run_pure, hck, zyz hkey, zyg hw]
        rw [zxr hkey h1]
        simp only [Result.andThen_ok, Sem.run_bind, Sem.run_pure]
       ·cases ok
        ·exact g2
        ·exact .tuple (.cons g2 (.cons (.raw _) .nil))
     ·cases hl
    ·cases hl
   ·cases hl
  ·cases hc
 ·cases hc
theorem zkb {k : IntKind} {n : Int} : (Instr.keyThatStays (.int k n) (.int k n)).run P w = .ok (.int k n) w := by
 simp [Instr.keyThatStays, Instr.sameBits]
theorem zpa {ces : Array MapEntry} {i : Nat} {e : MapEntry} (h : ces.toList[i]? = some e) {k : Value} (hk : e.key = k) (f : MapEntry → MapEntry) :
  (ces.modify i fun e => f { e with key := k }) = ces.modify i f := by
 apply Array.ext_getElem?
 intro j
 rw [Array.getElem?_modify, Array.getElem?_modify]
 by_cases hj : i = j
 ·subst hj
  rw [Array.getElem?_toList] at h
  simp [h]
  rw [← hk]
 ·simp [hj]
theorem ztu (h : HRel P B ρ H w) (hev : zvg ρ tm ce) {t : TypeId} {m k x : Operand} (hop : o.op = .mapUpdate t m k x ∨ o.op = .insert t m k x) (hc : cOp P o.op = some ao) (ha : aOp tm ao H = some (av, H')) : zyf .any P B ρ H w (execOp ce o) av H' := by
 have hc' : cOp P (.mapUpdate t m k x) = some ao := by rcases hop with e | e <;> rw [e] at hc <;> exact hc
 simp only [cOp] at hc'
 have he : execOp ce o = (do Instr.mapUpdate t (ce m) (ce k) (ce x); Pure.pure .skip) := by rcases hop with e | e <;> simp [execOp, e]
 rw [he]
 split at hc'
 ·rename_i key e hu
  split at hc'
  ·rename_i q hkey
   simp only [Option.bind_eq_some_iff, Option.map_eq_some_iff] at hc'
   obtain ⟨am, hm, ak, hk, ax, hx, rfl⟩ := hc'
   have hmv := hev _ _ hm
   have hxv := hev _ _ hx
   have hkv := hev _ _ hk
   simp only [aOp, Option.map_eq_some_iff] at ha
   obtain ⟨H'', hl, heq⟩ := ha
   cases heq
   unfold zwr at hl
   split at hl
   ·rename_i M kk n hme hke
    rw [hme] at hmv
    have hkv' := hkv
    rw [hke] at hkv
    have hck := hkv.raw_inv
    split at hl
    ·rename_i es clock hg
     obtain ⟨r, hf, hH⟩ := Option.map_eq_some_iff.1 hl
     obtain ⟨l, hl', hcm⟩ := hmv.map_inv
     obtain ⟨_, ces, hw, hrel⟩ := h.mapOf hg hl'
     obtain ⟨cr, h1, h2⟩ := zj1 q hrel hf
     cases r with
     | none =>
      subst h2
      simp only at hH
      subst hH
      refine .uw (w' := w.putObj l.c (.map (ces.push { key := .int kk n, val := ce x, born := clock }) (clock + 1))) ?_ (h.putMap hg hl' ?_) (Ren.le_refl _)
      ·simp only [Instr.mapUpdate, Sem.run_bind, zz7 hu, Result.andThen_ok, hcm, hck, zyz hkey, zyg hw]
       rw [zxr hkey h1]
       simp only [Result.andThen_ok, zxs _ hw]
      ·simp only [Array.toList_push]
       rw [hke]
       exact zzv.snoc (.raw _) hxv hrel
     | some y =>
      obtain ⟨j, v, b⟩ := y
      obtain ⟨cv, e', rfl, g2, _, g4, g5, g6, g7⟩ := h2
      simp only at hH
      subst hH
      refine .uw (w' := w.putObj l.c (.map (ces.modify j fun e => { e with val := ce x }) clock)) ?_ (h.putMap hg hl' ?_) (Ren.le_refl _)
      ·simp only [Instr.mapUpdate, Sem.run_bind, zz7 hu, Result.andThen_ok, hcm, hck, zyz hkey, zyg hw]
       rw [zxr hkey h1]
       have hge : (((ces[j]?).map (·.key)).getD (.int kk n)) = .int kk n := by
        rw [← Array.getElem?_toList]
        simp at g4
        simp [g4, g7]
       simp only [Result.andThen_ok, Sem.run_bind, hge, zkb, zxs _ hw]
       have := zpa (ces := ces) (i := j) (e := e') (by simpa using g4) g7 (fun e => { e with val := ce x })
       rw [← this]
      ·rw [Array.toList_modify]
       exact zzv.setVal hxv j hrel
    ·cases hl
   ·cases hl
  ·cases hc'
 ·cases hc'
theorem zha (h : HRel P B ρ H w) (hev : zvg ρ tm ce) {t : TypeId} {m k : Operand} (hop : o.op = .mapEntry t m k) (hc : cOp P o.op = some ao) (ha : aOp tm ao H = some (av, H')) : zyf .any P B ρ H w (execOp ce o) av H' := by
 rw [hop] at hc
 simp only [cOp] at hc
 have he : execOp ce o = (do Pure.pure (.value (← Instr.mapEntry t (ce m) (ce k)))) := by simp [execOp, hop]
 rw [he]
 split at hc
 ·rename_i key e hu
  split at hc
  ·rename_i q hkey
   simp only [Option.bind_eq_some_iff, Option.map_eq_some_iff] at hc
   obtain ⟨z, hz, am, hm, ak, hk, rfl⟩ := hc
   have hmv := hev _ _ hm
   have hkv := hev _ _ hk
   simp only [aOp] at ha
   unfold zbr at ha
   split at ha
   ·rename_i M kk n hme hke
    rw [hme] at hmv
    rw [hke] at hkv
    have hck := hkv.raw_inv
    split at ha
    ·rename_i es clock hg
     obtain ⟨r, hf, hH⟩ := Option.map_eq_some_iff.1 ha
     obtain ⟨l, hl', hcm⟩ := hmv.map_inv
     obtain ⟨_, ces, hw, hrel⟩ := h.mapOf hg hl'
     obtain ⟨cr, h1, h2⟩ := zj1 q hrel hf
     cases r with
     | none =>
      subst h2
      cases hH
      refine .vw (cv := .tuple #[z, goInt clock]) (w' := w.putObj l.c (.map (ces.push { key := .int kk n, val := z, born := clock }) (clock + 1))) ?_ (.tuple (.cons (zyl ρ z) (.cons (.raw _) .nil))) (h.putMap hg hl' ?_) (Ren.le_refl _)
      ·simp only [Instr.mapEntry, Sem.run_bind, zz7 hu, Result.andThen_ok, hcm, hck, zyz hkey, zyg hw]
       rw [zxr hkey h1]
       simp only [Result.andThen_ok, Sem.run_bind, zyj hz, zxs _ hw, Sem.run_pure]
      ·simp only [Array.toList_push]
       rw [hke]
       exact zzv.snoc (.raw _) (zyl ρ z) hrel
     | some y =>
      obtain ⟨j, v, b⟩ := y
      obtain ⟨cv, e', rfl, g2, _, g4, g5, g6, g7⟩ := h2
      cases hH
      have hmod : (ces.modify j fun e => { e with key := .int kk n }) = ces := by
       have := zpa (ces := ces) (i := j) (e := e') (by simpa using g4) g7 id
       simp only [id] at this
       rw [this]
       apply Array.ext_getElem?
       intro q
       rw [Array.getElem?_modify]
       split
       ·simp
       ·rfl
      have hput : w.putObj l.c (.map ces clock) = w := by
       unfold World.putObj
       obtain ⟨hc, hv⟩ := Array.getElem?_eq_some_iff.1 hw
       have : w.heap.setIfInBounds l.c (.map ces clock) = w.heap := by
        apply Array.ext_getElem?
        intro j
        rw [Array.getElem?_setIfInBounds]
        by_cases hj : l.c = j
        ·subst hj; simp [hc, hv]
        ·simp [hj]
       rw [this]
      refine .vw (cv := .tuple #[cv, goInt b]) (w' := w) ?_ (.tuple (.cons g2 (.cons (.raw _) .nil))) h (Ren.le_refl _)
      simp only [Instr.mapEntry, Sem.run_bind, zz7 hu, Result.andThen_ok, hcm, hck, zyz hkey, zyg hw]
      rw [zxr hkey h1]
      have hge : ces[j]? = some e' := by simpa using g4
      simp only [Result.andThen_ok, Sem.run_bind, hge, Option.map_some, Option.getD_some, g7, zkb, zxs _ hw, hmod, hput, Sem.run_pure, g6]
    ·cases ha
   ·cases ha
  ·cases hc
 ·cases hc
theorem zb0 {n : Int} : ∀ {es : zzb} {ces : List MapEntry} {i j : Nat}, zzv ρ es ces → zv2 n es i = some j → i ≤ j ∧ ces.findIdx? (fun e => (e.born : Int) == n) = some (j - i)
 | [], _, i, j, _, h => by simp [zv2] at h
 | _ :: _, [], i, j, h, _ => h.elim
 | (k, v, b) :: es, e :: ces, i, j, ⟨_, _, hb, hr⟩, h => by
  simp only [zv2, ieq_eq] at h
  split at h
  ·rename_i hbn
   cases h
   have : (e.born : Int) = n := by rw [hb]; simpa using hbn
   refine ⟨Nat.le_refl _, ?_⟩
   simp [List.findIdx?_cons, this]
  ·rename_i hbn
   obtain ⟨h1, h2⟩ := zb0 hr h
   have : ¬ (e.born : Int) = n := by rw [hb]; simpa using hbn
   refine ⟨by omega, ?_⟩
   simp [List.findIdx?_cons, this, h2]
   omega
theorem znp (h : HRel P B ρ H w) (hev : zvg ρ tm ce) {t : TypeId} {m s x : Operand} (hop : o.op = .entryStore t m s x) (hc : cOp P o.op = some ao) (ha : aOp tm ao H = some (av, H')) : zyf .any P B ρ H w (execOp ce o) av H' := by
 rw [hop] at hc
 simp only [cOp, Option.bind_eq_some_iff, Option.map_eq_some_iff] at hc
 obtain ⟨am, hm, as, hs, ax, hx, rfl⟩ := hc
 have he : execOp ce o = (do Instr.entryStore t (ce m) (ce s) (ce x); Pure.pure .skip) := by simp [execOp, hop]
 rw [he]
 have hmv := hev _ _ hm
 have hsv := hev _ _ hs
 have hxv := hev _ _ hx
 simp only [aOp, Option.map_eq_some_iff] at ha
 obtain ⟨H'', hl, heq⟩ := ha
 cases heq
 unfold zkw at hl
 split at hl
 ·rename_i M k n hme hse
  rw [hme] at hmv
  rw [hse] at hsv
  split at hl
  ·rename_i es clock hg
   obtain ⟨i, hf, rfl⟩ := Option.map_eq_some_iff.1 hl
   obtain ⟨l, hl', hcm⟩ := hmv.map_inv
   obtain ⟨_, ces, hw, hrel⟩ := h.mapOf hg hl'
   obtain ⟨_, h2⟩ := zb0 hrel hf
   refine .uw (w' := w.putObj l.c (.map (ces.modify i fun e => { e with val := ce x }) clock)) ?_ (h.putMap hg hl' ?_) (Ren.le_refl _)
   ·simp only [Instr.entryStore, hcm, hsv.raw_inv, asInt, asIntOf, Sem.run_bind, Sem.run_pure, Result.andThen_ok, zyg hw]
    have hfi : ces.findIdx? (fun e => (e.born : Int) == n) = some (i - 0) := by
     rw [← h2]
     conv => lhs; rw [← Array.toArray_toList (xs := ces)]
     rw [List.findIdx?_toArray]
    rw [hfi]
    simp only [Nat.sub_zero, zxs _ hw]
   ·rw [Array.toList_modify]
    exact zzv.setVal hxv i hrel
  ·cases hl
 ·cases hl
end
section
variable {P : Program} {B : Base} {ρ : Ren} {H H' : zz6} {w w' : World} {tm : List AVal} {ce : Operand → Value} {o : Oper} {av : AVal} {ao : AOp}
theorem zxj {c : Call} {b : Builtin} (hop : o.op = .call c) (hb : c.callee = .builtin b) :
  execOp ce o = builtin b c.argTypes o.type (c.args.map fun | .const _ => true | _ => false) (c.args.map ce) := by
 simp only [execOp, hop, resolve, hb]
 rfl
theorem ywy {α : Type} {a : Array α} {x y : α} (h : a.toList = [x, y]) : a = #[x, y] := by
 apply Array.ext'; simpa using h
theorem ykr {α : Type} {a : Array α} {x : α} (h : a.toList = [x]) : a = #[x] := by
 apply Array.ext'; simpa using h
theorem zhx (n : Nat) : ∀ (r c : Nat), c < 2 * n → 256 ≤ c → Builtin.growBy n r c ≤ 2 * n
 | 0, c, h, _ => by simp [Builtin.growBy]; omega
 | r + 1, c, h, h2 => by
  unfold Builtin.growBy
  split
  ·omega
  ·rename_i hn
   by_cases h3 : c + (c + 768) / 4 < 2 * n
   ·exact zhx n r _ h3 (by omega)
   ·have h4 : ∀ r c, n ≤ c → Builtin.growBy n r c = c := fun r c hc => by
     cases r with
     | zero => rfl
     | succ r => unfold Builtin.growBy; rw [if_pos hc]
    rw [h4 r _ (by omega)]
    omega
theorem zkm {n c : Nat} (h : c < n) : Builtin.nextslicecap n c ≤ 2 * n := by
 unfold Builtin.nextslicecap
 split
 ·omega
 ·split
  ·omega
  ·exact zhx n 4 c (by omega) (by omega)
theorem zlb (n : Nat) : (askRoom n).run P w = .ok () w := by
 unfold askRoom; split <;> simp [mark, Sem.run]
theorem zq4 (h : HRel P B ρ H w) {esz m : Nat} {x : AVal} {cx : Value} {cells : List AVal} (hx : VRel ρ x cx) (hc : aCells H esz x = some cells) (hm : zjl x = some m) :
  ∃ cvs, (Builtin.firstCells esz m cx).run P w = .ok cvs.toArray w ∧ VRels ρ cells cvs ∧ cells.length = m * esz ∧ (∃ a cap, cx = .slice a m cap) := by
 obtain ⟨a, cap, cvs, rfl, hor, hrel, hlen⟩ := zvs (P := P) h hx hc hm
 have hcl := hrel.length
 refine ⟨cvs, ?_, hrel, hlen, a, cap, rfl⟩
 rcases hor with ⟨rfl, rfl⟩ | ⟨ad, rfl, hload⟩
 ·have : cvs = [] := List.eq_nil_of_length_eq_zero (by omega)
  subst this
  simp [Builtin.firstCells]
 ·have e1 := hload m (Nat.le_refl _)
  rw [List.take_of_length_le (by omega)] at e1
  simp only [Builtin.firstCells, e1]
theorem zwm {t u e eu : TypeId} {i : TypeInfo} (ht : P.underlying t = some (.slice e)) (hu : P.underlying u = some (.slice eu)) (hi : P.info? e = some i) (ty : TypeId)
  {base a : Option Addr} {sLen sCap n cap : Nat} {news : Array Value} (hr : sLen + n ≤ sCap) (hn : (Builtin.firstCells i.size n (.slice a n cap)).run P w = .ok news w)
  (hst : ∀ ad, base = some ad → (storeCells (ad.add (sLen * i.size)) news.toList).run P w = .ok () w') (hnb : base = none → w' = w) :
  (Builtin.append_ #[t, u] ty #[.slice base sLen sCap, .slice a n cap]).run P w = .ok (.slice base (sLen + n) sCap) w' := by
 have hsz : zjc P e = some i.size := by simp [zjc, hi]
 unfold Builtin.append_
 simp only [List.getElem?_toArray, List.getElem?_cons_zero, List.getElem?_cons_succ, Sem.run_bind, zz7 ht, zz7 hu, Result.andThen_ok, zy4 hsz, Sem.run_pure, Bool.false_eq_true, if_false, Builtin.lenOf, Bool.not_false, if_true]
 rw [if_pos hr]
 simp only [Sem.run_bind, hn, Result.andThen_ok]
 cases base with
 | none => rw [hnb rfl]; simp
 | some ad => simp only [Sem.run_bind, hst ad rfl, Result.andThen_ok, Sem.run_pure]
theorem zkh {t u e eu : TypeId} {i : TypeInfo} {z : Value} (ht : P.underlying t = some (.slice e)) (hu : P.underlying u = some (.slice eu)) (hi : P.info? e = some i) (hz : i.zero = some z) (ty : TypeId)
  {base a : Option Addr} {sLen sCap n cap : Nat} {news olds : Array Value} (hr : sCap < sLen + n) (hb : 0 < i.bytes) (hbig : (sLen + n) * i.bytes ≤ 140737488355328)
  (hn : (Builtin.firstCells i.size n (.slice a n cap)).run P w.drew = .ok news w.drew) (ho : (Builtin.firstCells i.size sLen (.slice base sLen sCap)).run P w.drew = .ok olds w.drew) :
  ∃ newCap, sLen + n ≤ newCap ∧ (Builtin.append_ #[t, u] ty #[.slice base sLen sCap, .slice a n cap]).run P w =
   .ok (.slice (some ⟨w.heap.size, 0, none⟩) (sLen + n) newCap) (w.drew.alloc (.cells (olds ++ news ++ Builtin.zeroCells z.cells (newCap - (sLen + n))) e)) := by
 have hsz : zjc P e = some i.size := by simp [zjc, hi]
 have hzo : zkt P e = some z := by simp [zkt, hi, hz]
 refine ⟨(Question.appendCap (sLen + n) sCap e).cut (w.tape w.drawn (.appendCap (sLen + n) sCap e)), by simp [Question.cut], ?_⟩
 have hmax : IntKind.i64.max = 9223372036854775807 := by decide +kernel
 have h48 : (2 : Nat) ^ 48 = 281474976710656 := by decide +kernel
 have hnext := zkm hr
 have hmul : Builtin.nextslicecap (sLen + n) sCap * i.bytes ≤ 2 * (sLen + n) * i.bytes := Nat.mul_le_mul_right _ hnext
 have hmul2 : 2 * (sLen + n) * i.bytes = 2 * ((sLen + n) * i.bytes) := Nat.mul_assoc _ _ _
 have hle1 : sLen + n ≤ (sLen + n) * i.bytes := Nat.le_mul_of_pos_right _ hb
 unfold Builtin.append_
 simp only [List.getElem?_toArray, List.getElem?_cons_zero, List.getElem?_cons_succ, Sem.run_bind, zz7 ht, zz7 hu, Result.andThen_ok, zy4 hsz, Sem.run_pure, Bool.false_eq_true, if_false, Builtin.lenOf, Bool.not_false, if_true]
 rw [if_neg (by omega)]
 simp only [Sem.run_bind, zw9 hi, Result.andThen_ok, false_or]
 rw [if_neg (by rw [hmax]; omega)]
 simp only [Sem.run_bind, zw9 hi, Result.andThen_ok]
 rw [if_neg (by rw [h48]; omega)]
 have hch : (choose (.appendCap (sLen + n) sCap e)).run P w = .ok ((Question.appendCap (sLen + n) sCap e).cut (w.tape w.drawn (.appendCap (sLen + n) sCap e))) w.drew := by
  rw [run_choose]; simp [Question.forced]
 simp only [Sem.run_bind, hch, zw9 hi, zlb, ho, hn, zyj hzo, Result.andThen_ok, Sem.run_pure]
 simp [newRow]
theorem zyh {c : Prop} [Decidable c] {α : Type} {x : Option α} {a : α} (h : (if c then x else none) = some a) : c ∧ x = some a := by
 split at h
 ·exact ⟨‹_›, h⟩
 ·cases h
theorem zvp (z : Array Value) (n : Nat) : (Builtin.zeroCells z n).size = n * z.size := by simp [Builtin.zeroCells]
theorem zjf {olds news : List AVal} {colds cnews : List Value} (ho : VRels ρ olds colds) (hn : VRels ρ news cnews) (rest : Array Value) : zyd ρ (colds.toArray ++ cnews.toArray ++ rest) 0 (olds ++ news) := fun i v hv => by
 obtain ⟨cv, h1, h2⟩ := (ho.append hn).get i v hv
 refine ⟨cv, ?_, h2⟩
 have : i < (colds ++ cnews).length := (List.getElem?_eq_some_iff.1 h1).1
 rw [Nat.zero_add, Array.getElem?_append_left (by simpa using this)]
 simpa using h1
theorem yze (h : HRel P B ρ H w) (hev : zvg ρ tm ce) {c : Call} (hop : o.op = .call c) (hb : c.callee = .builtin .append) (hc : zr0 P c.args.toList c.argTypes.toList = some ao) (ha : aOp tm ao H = some (av, H')) :
  zyf .any P B ρ H w (execOp ce o) av H' := by
 rw [zxj hop hb]
 unfold zr0 at hc
 split at hc
 ·rename_i s x t u hargs htys
  rw [ywy hargs, ywy htys]
  split at hc
  ·rename_i e eu ht hu
   simp only [Option.bind_eq_some_iff] at hc
   obtain ⟨i, hi, z, hz, hc⟩ := hc
   obtain ⟨hzl, hc⟩ := zyh hc
   simp only [beq_iff_eq] at hzl
   simp only [Option.bind_eq_some_iff, Option.map_eq_some_iff] at hc
   obtain ⟨as, hs, ax, hx, rfl⟩ := hc
   have hsv := hev _ _ hs
   have hxv := hev _ _ hx
   have hzc : z.cells.size = i.size := by
    have := (zyl ρ z).cells.length
    simp at this; omega
   have hmap : (#[s, x]).map ce = #[ce s, ce x] := by simp
   rw [hmap]
   simp only [builtin]
   simp only [aOp] at ha
   unfold zzf at ha
   simp only [Option.bind_eq_some_iff] at ha
   obtain ⟨m, hm, news, hnews, ha⟩ := ha
   obtain ⟨cnews, hnr, hnrel, hnlen, xa, xcap, hcx⟩ := zq4 (P := P) h hxv hnews hm
   obtain ⟨cnewsD, hnrD, hnrelD, _, _, _, _⟩ := zq4 (P := P) h.drew hxv hnews hm
   have hncl := hnrel.length
   have hnclD := hnrelD.length
   rw [hcx] at hnr hnrD ⊢
   split at ha
   ·-- nothing is appended
    rename_i hm0
    subst hm0
    have hc0 : cnews = [] := List.eq_nil_of_length_eq_zero (by omega)
    subst hc0
    split at ha
    ·rename_i hse
     cases ha
     rw [hse] at hsv
     rw [hsv.raw_inv]
     refine .v h (cv := .slice none 0 0) ?_ (by rw [hse]; exact .raw _)
     exact zwm (w := w) (w' := w) ht hu hi o.type (n := 0) (Nat.le_refl _) hnr (fun ad h => by cases h) (fun _ => rfl)
    ·rename_i A ver off len kcap ex esz hse
     cases ha
     have hsv' := hsv
     rw [hse] at hsv
     obtain ⟨l, a, cap, hl, hcs, hk, hlen, hex, hor⟩ := hsv.slice_inv
     refine .v h (cv := ce s) ?_ hsv'
     rw [hcs]
     exact zwm (w := w) (w' := w) ht hu hi o.type (n := 0) (by omega) hnr (fun ad h => by simp [storeCells]) (fun _ => rfl)
    ·cases ha
   ·rename_i hm0
    obtain ⟨hcond, ha⟩ := zyh ha
    simp only [Bool.and_eq_true, decide_eq_true_eq] at hcond
    obtain ⟨⟨hez, hbz⟩, hone⟩ := hcond
    -- a slice over a new block
    have fresh : ∀ (olds : List AVal) (colds : List Value) (sLen newCap : Nat), VRels ρ olds colds → olds.length = sLen * i.size → sLen + m ≤ newCap →
      VRel (ρ.put H.next 0 ⟨w.heap.size, 0, (colds.toArray ++ cnewsD.toArray ++ Builtin.zeroCells z.cells (newCap - (sLen + m))).size⟩) (.slice H.next 0 0 (sLen + m) (sLen + m) false i.size) (.slice (some ⟨w.heap.size, 0, none⟩) (sLen + m) newCap) ∧
      HRel P B (ρ.put H.next 0 ⟨w.heap.size, 0, (colds.toArray ++ cnewsD.toArray ++ Builtin.zeroCells z.cells (newCap - (sLen + m))).size⟩) (H.push (.row [some (0, olds ++ news)])) (w.drew.alloc (.cells (colds.toArray ++ cnewsD.toArray ++ Builtin.zeroCells z.cells (newCap - (sLen + m))) e)) := fun olds colds sLen newCap ho hol hcap => by
     have hcl := ho.length
     have hsize : (colds.toArray ++ cnewsD.toArray ++ Builtin.zeroCells z.cells (newCap - (sLen + m))).size = newCap * i.size := by
      have e1 : (newCap - (sLen + m)) * i.size = newCap * i.size - (sLen + m) * i.size := Nat.sub_mul _ _ _
      have e2 : (sLen + m) * i.size = sLen * i.size + m * i.size := Nat.add_mul _ _ _
      have e3 : (sLen + m) * i.size ≤ newCap * i.size := Nat.mul_le_mul_right _ hcap
      simp only [Array.size_append, zvp, hzc, List.size_toArray]
      omega
     refine ⟨?_, h.drew.newRow (zjf ho hnrelD _)⟩
     have := VRel.slice (ρ := ρ.put H.next 0 ⟨w.heap.size, 0, (colds.toArray ++ cnewsD.toArray ++ Builtin.zeroCells z.cells (newCap - (sLen + m))).size⟩) (off := 0) (len := sLen + m) (kcap := sLen + m) (cap := newCap) (ex := false) (esz := i.size) (Ren.put_same _ _ _ _) hcap (Nat.le_refl _) (fun h => by cases h) (by dsimp only; omega)
     simpa using this
    split at ha
    ·-- onto nil
     rename_i hse
     obtain ⟨hbig, ha⟩ := zyh ha
     cases ha
     rw [hse] at hsv
     rw [hsv.raw_inv]
     obtain ⟨newCap, hcap, hrun⟩ := zkh (P := P) (w := w) ht hu hi hz o.type (base := none) (sLen := 0) (sCap := 0) (n := m) (olds := #[]) (by omega) hbz (by simpa using hbig) hnrD (by simp [Builtin.firstCells])
     obtain ⟨f1, f2⟩ := fresh [] [] 0 newCap .nil (by simp) (by simpa using hcap)
     simp only [Nat.zero_add, List.nil_append] at f1 f2 hrun
     exact .vw hrun f1 f2 (Ren.put_le (h.fresh _ _ (Nat.le_refl _)))
    ·rename_i A ver off len kcap ex esz hse
     obtain ⟨hes, ha2⟩ := zyh ha
     clear ha
     subst hes
     have ha := ha2
     clear ha2
     have hsv' := hsv
     rw [hse] at hsv
     obtain ⟨l, a, cap, hl, hcs, hk, hlen, hex, hor⟩ := hsv.slice_inv
     rw [hcs]
     by_cases hroom : len + m ≤ kcap
     ·-- there is room
      rw [if_pos hroom] at ha
      obtain ⟨H'', hw, heq⟩ := Option.map_eq_some_iff.1 ha
      cases heq
      rcases hor with ⟨rfl, hn⟩ | ⟨h1, h2, h3⟩
      ·obtain ⟨w', h4, h5⟩ := h.write hw hl hnrel
       refine .vw (cv := .slice (some ⟨l.c, l.s + off, none⟩) (len + m) cap) (zwm (w := w) (w' := w') ht hu hi o.type (by omega) hnr (fun ad had => ?_) (fun h => by cases h)) (.slice hl hk hroom hex hn) h5 (Ren.le_refl _)
       cases had
       rw [zvk, Nat.add_assoc]
       exact h4
      ·omega
     ·rw [if_neg hroom] at ha
      obtain ⟨hbig, ha⟩ := zyh ha
      obtain ⟨cells, hrow, ha⟩ := Option.bind_eq_some_iff.1 ha
      obtain ⟨hfit, ha⟩ := zyh ha
      have hac : aCells H i.size (.slice A ver off len kcap ex i.size) = some ((cells.drop off).take (len * i.size)) := by
       simp only [aCells, hrow, Option.bind_some]
       rw [if_pos hfit]
      have hoD := zq4 (P := P) h.drew hsv hac rfl
      obtain ⟨coldsD, horD, hoRelD, hoLen, _⟩ := hoD
      rw [hcs] at horD
      by_cases hcap : len + m ≤ cap
      ·-- in place, unseen
       have hnex : ex = false := by
        cases ex with
        | false => rfl
        | true => have := hex rfl; omega
       subst hnex
       simp only [Bool.false_eq_true, if_false] at ha
       split at ha
       ·rename_i vs hg
        split at ha
        ·rename_i rel cells' hv
         cases ha
         have hcc : cells' = cells := by
          unfold zz6.rowAt at hrow
          rw [hg] at hrow
          simp only [hv] at hrow
          exact Option.some.inj hrow
         subst hcc
         rcases hor with ⟨rfl, hn⟩ | ⟨h1, h2, h3⟩
         ·have e2 : (len + m) * i.size = len * i.size + m * i.size := Nat.add_mul _ _ _
          have e3 : (len + m) * i.size ≤ cap * i.size := Nat.mul_le_mul_right _ hcap
          obtain ⟨w', h4, h5⟩ := h.verIn hg hv hl hfit (by omega) hone hnrel
          refine .vw (cv := .slice (some ⟨l.c, l.s + off, none⟩) (len + m) cap) (zwm (w := w) (w' := w') ht hu hi o.type hcap hnr (fun ad had => ?_) (fun h => by cases h)) ?_ h5 ?_
          ·cases had
           rw [zvk]
           exact h4
          ·have := VRel.slice (ρ := ρ.put A vs.length ⟨l.c, l.s + off, l.n⟩) (off := 0) (len := len + m) (kcap := len + m) (cap := cap) (ex := false) (esz := i.size) (Ren.put_same _ _ _ _) hcap (Nat.le_refl _) (fun h => by cases h) (by dsimp only; omega)
           simpa using this
          ·exact Ren.put_le ((h.obj A _ hg).1 _ (Nat.le_refl _))
         ·omega
        ·cases ha
       ·cases ha
      ·-- it moves
       obtain ⟨newCap, hnc, hrun⟩ := zkh (P := P) (w := w) ht hu hi hz o.type (base := some a) (sLen := len) (sCap := cap) (n := m) (by omega) hbz hbig hnrD horD
       cases ex
       case true =>
        simp only [if_true] at ha
        cases ha
        obtain ⟨f1, f2⟩ := fresh _ coldsD len newCap hoRelD hoLen hnc
        exact .vw hrun f1 f2 (Ren.put_le (h.fresh _ _ (Nat.le_refl _)))
       case false =>
        simp only [Bool.false_eq_true, if_false] at ha
        split at ha
        ·rename_i vs hg
         split at ha
         ·rename_i rel cells' hv
          cases ha
          have hnone := (h.obj A _ hg).1 vs.length (Nat.le_refl _)
          have hout := h.drew.verOut (p := rel + off + len * i.size) (m := news.length) (rel := rel + off) (e := e) hg (zjf hoRelD hnrelD (Builtin.zeroCells z.cells (newCap - (len + m))))
          refine .vw hrun ?_ hout (Ren.put_le hnone)
          have hsize : (coldsD.toArray ++ cnewsD.toArray ++ Builtin.zeroCells z.cells (newCap - (len + m))).size = newCap * i.size := by
           have e1 : (newCap - (len + m)) * i.size = newCap * i.size - (len + m) * i.size := Nat.sub_mul _ _ _
           have e2 : (len + m) * i.size = len * i.size + m * i.size := Nat.add_mul _ _ _
           have e3 : (len + m) * i.size ≤ newCap * i.size := Nat.mul_le_mul_right _ hnc
           have := hoRelD.length
           simp only [Array.size_append, zvp, hzc, List.size_toArray]
           omega
          have := VRel.slice (ρ := ρ.put A vs.length ⟨w.heap.size, 0, (coldsD.toArray ++ cnewsD.toArray ++ Builtin.zeroCells z.cells (newCap - (len + m))).size⟩) (off := 0) (len := len + m) (kcap := len + m) (cap := newCap) (ex := false) (esz := i.size) (Ren.put_same _ _ _ _) hnc (Nat.le_refl _) (fun h => by cases h) (by dsimp only; omega)
          simpa using this
         ·cases ha
        ·cases ha
    ·cases ha
  ·cases hc
 ·cases hc
end
end Go.Vm
