/- The abstract machine, part 17: ranges over functions. -/
import Derived.Test.YthbjfkkjmecaaaaT08
set_option linter.unusedVariables false
set_option linter.unusedSimpArgs false
namespace Go.Vm
open Go
variable {P : Program} {B : Base} {ρ ρ' : Ren} {H H' : AHeap} {w w' : World} {st : ASt} {Q Q' : Exit → ASt → Prop}
def newLoop (tm : List AVal) (ps : List Nat) (assign body : ACode) (D : Nat) : ALoop := { state := .ready, pending := none, tmps := tm, params := ps, assign := assign, body := body, defers := D }
def AHeap.enter (H : AHeap) (tm : List AVal) (ps : List Nat) (assign body : ACode) : AHeap := (H.push (.defs false)).push (.loop (newLoop tm ps assign body H.next))
def aEndLoop (H : AHeap) (L : Nat) : Option (Option ACode × AHeap) :=
  match H.get L with
  | some (.loop l) => match l.state with
    | .busy => none
    | _ => some (l.pending, H.set L (.loop { l with state := .exhausted }))
  | _ => none
theorem Single.put_new {A : Nat} {l : Loc} (h : ∀ v, ρ A v = none) : Single (ρ.put A 0 l) A := fun v hv => by rw [Ren.put_ne _ _ (by omega)]; exact h v
theorem HRel.enter (h : HRel P B ρ H w) (fn : FuncId) {tm : List AVal} {tmps : Array Value} (ht : VRels ρ tm tmps.toList) {ps : Array Tmp} {ca cb : Code} {assign body : ACode} (ha : cCode P ca = some assign) (hb : cCode P cb = some body) :
    ∃ ρ', HRel P B ρ' (H.enter tm ps.toList assign body) ((w.alloc (.deferred (some []))).alloc (.loop { state := .ready, pending := none, fn, tmps, params := ps, assign := ca, body := cb, defers := w.heap.size })) ∧ ρ.le ρ' ∧
      ρ' H.next 0 = some ⟨w.heap.size, 0, 0⟩ ∧ ρ' (H.next + 1) 0 = some ⟨w.heap.size + 1, 0, 0⟩ := by
  have hn : ∀ v, ρ H.next v = none := fun v => h.fresh _ v (Nat.le_refl _)
  have h1 := h.push (o := .defs false) (co := .deferred (some [])) (s := 0) (n := 0) (fun l => by simp) ⟨Single.put_new hn, _, Ren.put_same _ _ _ _, World.alloc_heap_new _ _⟩
  have le1 := Ren.put_le (l := (⟨w.heap.size, 0, 0⟩ : Loc)) (hn 0)
  have hn2 : ∀ v, (ρ.put H.next 0 ⟨w.heap.size, 0, 0⟩) (H.next + 1) v = none := fun v => h1.fresh _ v (by simp)
  have le2 := Ren.put_le (l := (⟨(w.alloc (.deferred (some []))).heap.size, 0, 0⟩ : Loc)) (hn2 0)
  have h2 := h1.push (o := .loop (newLoop tm ps.toList assign body H.next)) (co := .loop { state := .ready, pending := none, fn, tmps, params := ps, assign := ca, body := cb, defers := w.heap.size }) (s := 0) (n := 0) (fun l => by simp)
    ⟨Single.put_new hn2, _, _, Ren.put_same _ _ _ _, World.alloc_heap_new _ _, rfl, trivial, ht.mono (Ren.le_trans le1 le2), rfl, ha, hb, _, le2 _ _ _ (Ren.put_same _ _ _ _), rfl⟩
  refine ⟨_, h2, Ren.le_trans le1 le2, le2 _ _ _ (Ren.put_same _ _ _ _), ?_⟩
  have := Ren.put_same (ρ.put H.next 0 ⟨w.heap.size, 0, 0⟩) (H.next + 1) 0 ⟨(w.alloc (.deferred (some []))).heap.size, 0, 0⟩
  simpa using this
theorem HRel.loopOf (h : HRel P B ρ H w) {L : Nat} {l : ALoop} (hg : H.get L = some (.loop l)) {x : Loc} (hx : ρ L 0 = some x) : Single ρ L ∧ ∃ r, w.heap[x.c]? = some (.loop r) ∧ LoopRel P ρ l r := by
  obtain ⟨h1, x', r, h2, h3, h4⟩ := h.obj L _ hg
  rw [hx] at h2; cases h2
  exact ⟨h1, r, h3, h4⟩
theorem HRel.putLoop (h : HRel P B ρ H w) {L : Nat} {l l' : ALoop} (hg : H.get L = some (.loop l)) {x : Loc} (hx : ρ L 0 = some x) {r' : Loop} (hrel : LoopRel P ρ l' r') :
    HRel P B ρ (H.set L (.loop l')) (w.putObj x.c (.loop r')) := by
  obtain ⟨h1, r, h2, h3⟩ := h.loopOf hg hx
  exact h.putObj hg hx (fun x => by simp) (fun x => by simp) ⟨h1, x, r', hx, World.putObj_heap_same (Array.getElem?_eq_some_iff.1 h2).1, hrel⟩ (Side.putPlain h2 trivial trivial)
theorem endLoop_run (h : HRel P B ρ H w) {L : Nat} {x : Loc} (hx : ρ L 0 = some x) {j : Option ACode} (he : aEndLoop H L = some (j, H')) :
    ∃ jump w', (Instr.endLoop x.c).run P w = .ok jump w' ∧ JumpRel P j jump ∧ HRel P B ρ H' w' := by
  unfold aEndLoop at he
  split at he
  · rename_i l hg
    obtain ⟨_, r, h2, h3, h4, h5, h6, h7, h8, h9⟩ := h.loopOf hg hx
    have hnb : r.state ≠ .busy := by
      rw [h3]; intro hb; rw [hb] at he; cases he
    have he' : some (l.pending, H.set L (.loop { l with state := .exhausted })) = some (j, H') := by
      rw [← he]
      split
      · rename_i hb; rw [h3, hb] at hnb; exact absurd rfl hnb
      · rfl
    cases he'
    exact ⟨r.pending, _, run_endLoop h2 hnb, h4, h.putLoop hg hx ⟨rfl, h4, h5, h6, h7, h8, h9⟩⟩
  · cases he
def AJump (Q : Exit → ASt → Prop) : Option ACode → ASt → Prop
  | none, st => Q .normal st
  | some .ret, st => Q .ret st
  | some (.exit id), st => Q (.exit id) st
  | _, _ => False
theorem cCode_ret {c : Code} (h : cCode P c = some .ret) : c = .ret := by
  cases c with
  | ret => rfl
  | region id ops dr =>
    simp only [cCode] at h
    obtain ⟨_, _, h⟩ := Option.bind_eq_some_iff.1 h
    split at h
    · split at h <;> cases h
    · cases h
  | _ =>
    simp only [cCode] at h
    first
      | cases h; done
      | (obtain ⟨_, _, h⟩ := Option.map_eq_some_iff.1 h; cases h; done)
      | (obtain ⟨_, _, h⟩ := Option.bind_eq_some_iff.1 h; obtain ⟨_, _, h⟩ := Option.map_eq_some_iff.1 h; cases h; done)
      | (obtain ⟨_, _, h⟩ := Option.bind_eq_some_iff.1 h; obtain ⟨_, _, h⟩ := Option.bind_eq_some_iff.1 h; obtain ⟨_, _, h⟩ := Option.map_eq_some_iff.1 h; cases h; done)
theorem cCode_exit {c : Code} {id : Nat} (h : cCode P c = some (.exit id)) : c = .exit id := by
  cases c with
  | exit id' => simp [cCode] at h; rw [h]
  | region id ops dr =>
    simp only [cCode] at h
    obtain ⟨_, _, h⟩ := Option.bind_eq_some_iff.1 h
    split at h
    · split at h <;> cases h
    · cases h
  | _ =>
    simp only [cCode] at h
    first
      | cases h; done
      | (obtain ⟨_, _, h⟩ := Option.map_eq_some_iff.1 h; cases h; done)
      | (obtain ⟨_, _, h⟩ := Option.bind_eq_some_iff.1 h; obtain ⟨_, _, h⟩ := Option.map_eq_some_iff.1 h; cases h; done)
      | (obtain ⟨_, _, h⟩ := Option.bind_eq_some_iff.1 h; obtain ⟨_, _, h⟩ := Option.bind_eq_some_iff.1 h; obtain ⟨_, _, h⟩ := Option.map_eq_some_iff.1 h; cases h; done)
theorem AWp.rangeFunc {g : Operand} {ag : AOpd} {ps : Array Tmp} {ca cb : Code} {assign body : ACode} {f : FuncId} {caps : List AVal} (hg : cOpd g = some ag) (hgv : ev st.tm ag = .func (.func f) caps) (hf : GoFn P f)
    (ha : cCode P ca = some assign) (hb : cCode P cb = some body)
    (h : ACalls P f (.yield (st.H.next + 1) :: caps) (st.H.enter st.tm ps.toList assign body) fun _ H' => ∃ j H'', aEndLoop H' (st.H.next + 1) = some (j, H'') ∧ AJump Q j { st with H := H'', marks := st.H.next :: st.marks }) :
    AWp P none (.rangeFunc g ps ca cb) Q st := by
  intro B ρ a w hs
  refine wpIn_rangeFunc fun fn _ => ?_
  have hgr := hs.ev _ _ hg
  rw [hgv] at hgr
  obtain ⟨vs, hvs, hce⟩ := hgr.func_inv
  obtain ⟨ρ', h1, hle, h2, h3⟩ := hs.H.enter fn hs.tm (ps := ps) ha hb
  have hargs : VRels ρ' (.yield (st.H.next + 1) :: caps) (.func (.yield (w.heap.size + 1)) #[] #[] :: vs) := .cons (.yield h3) (hvs.mono hle)
  have hcall := h B ρ' _ _ h1 hargs
  refine ⟨_, _, _, { target := .fn (.func f) vs.toArray, args := #[.func (.yield (w.heap.size + 1)) #[] #[]] }, ((w.alloc (.deferred (some []))).alloc (.loop { state := .ready, pending := none, fn, tmps := a.tmps, params := ps, assign := ca, body := cb, defers := w.heap.size })), f, _, _, run_enterLoop_outer fn a.tmps ps ca cb, ?_, fun _ _ => trivial, ?_, fun h => by simp at h, callsIn_FW (CallsIn.mono hcall fun e w3 hp => ?_)⟩
  · simp only [resolve, rangeCall, hce, Deferred.ofValue, Sem.run_pure]
    simp [Act.eval]
  · have := run_callFunc (w := (w.alloc (.deferred (some []))).alloc (.loop { state := .ready, pending := none, fn, tmps := a.tmps, params := ps, assign := ca, body := cb, defers := w.heap.size })) hf (.func (.yield (w.heap.size + 1)) #[] #[] :: vs).toArray
    simpa [invoke] using this
  · obtain ⟨v, cv, H', ρ'', rfl, ⟨j, H'', e1, e2⟩, hv, hH, hle2⟩ := hp
    obtain ⟨jump, w4, e3, e4, e5⟩ := endLoop_run hH (hle2 _ _ _ h3) e1
    refine ⟨jump, w4, by simpa using e3, ?_⟩
    have hle3 := Ren.le_trans hle hle2
    have hst : StRel P B ρ'' { st with H := H'', marks := st.H.next :: st.marks } { a with defers := [{ target := .collected w.heap.size, args := #[] }] ++ a.defers } w4 :=
      ⟨hs.tm.mono hle3, e5, .cons (hle2 _ _ _ h2) (hs.marks.mono hle3)⟩
    cases jump with
    | none =>
      cases j with
      | none => exact ⟨_, ρ'', e2, hst, hle3⟩
      | some _ => exact e4.elim
    | some c =>
      cases j with
      | none => exact e4.elim
      | some jc =>
        cases jc with
        | ret =>
          rw [cCode_ret e4]
          exact wpIn_ret ⟨_, ρ'', e2, hst, hle3⟩
        | exit id =>
          rw [cCode_exit e4]
          exact wpIn_exit ⟨_, ρ'', e2, hst, hle3⟩
        | _ => exact e2.elim
def setParams : List AVal → List Nat → List AVal → List AVal
  | tm, p :: ps, a :: as => setParams (tm.set p a) ps as
  | tm, _, _ => tm
theorem setParams_rel : ∀ (ps : List Nat) {tm as : List AVal} {tmps cas : List Value}, VRels ρ tm tmps → VRels ρ as cas → VRels ρ (setParams tm ps as) ((ps.zip cas).foldl (fun t (p, a) => t.set p a) tmps)
  | [], _, _, _, _, h, _ => by simpa [setParams] using h
  | p :: ps, tm, _, tmps, _, h, .nil => by simpa [setParams] using h
  | p :: ps, tm, _, tmps, _, h, .cons h1 h2 => by
    simp only [setParams, List.zip_cons_cons, List.foldl_cons]
    exact setParams_rel ps (h.set h1 p) h2
def ARoundEnds (L : Nat) (R : AVal → AHeap → Prop) : Exit → ASt → Prop
  | .normal, st => ∃ l, st.H.get L = some (.loop l) ∧ R (abool true) (st.H.set L (.loop { l with state := .ready, pending := none }))
  | .ret, st => ∃ l, st.H.get L = some (.loop l) ∧ R (abool false) (st.H.set L (.loop { l with state := .done, pending := some .ret }))
  | .exit id, st => ∃ l, st.H.get L = some (.loop l) ∧ R (abool false) (st.H.set L (.loop { l with state := .done, pending := some (.exit id) }))
  | _, _ => False
theorem ACallV.yield {L : Nat} {l : ALoop} {args : List AVal} {R : AVal → AHeap → Prop} (hg : H.get L = some (.loop l)) (hr : l.state = .ready) (hlen : args.length = l.params.length)
    (h : ∀ r ca cb, cCode P ca = some l.assign → cCode P cb = some l.body → AWp P (some r) ca (AThen (fun st1 => ∃ l1, st1.H.get L = some (.loop l1) ∧ l1.state = .ready ∧
      AWp P (some r) cb (ARoundEnds L R) { st1 with H := st1.H.set L (.loop { l1 with state := .busy }) }) fun _ _ => False) { tm := setParams l.tmps l.params args, H := H, marks := [] }) :
    ACallV P (.yield L) args H R := by
  intro B ρ w cf cargs hH hv hargs
  obtain ⟨x, hx, rfl⟩ := hv.yield_inv
  obtain ⟨_, rec, h2, h3, h4, h5, h6, h7, h8, h9⟩ := hH.loopOf hg hx
  have hal := hargs.length
  have hps : cargs.toArray.size = rec.params.size := by
    have : rec.params.size = l.params.length := by rw [← h6]; simp
    simp; omega
  refine ⟨{ target := .fn (.yield x.c) #[], args := cargs.toArray }, w, .round x.c rec.fn ((rec.params.zip cargs.toArray).foldl (fun tmps (t, a) => tmps.setIfInBounds t a) rec.tmps) rec.assign rec.body, w, by simp [Deferred.ofValue], ?_, ?_⟩
  · simp only [invoke]
    exact run_yield h2 hps
  · refine roundIn_of_wpIn (F := Fence.wide) (n := 0) trivial ?_
    have htm : VRels ρ (setParams l.tmps l.params args) ((rec.params.zip cargs.toArray).foldl (fun tmps (t, a) => tmps.setIfInBounds t a) rec.tmps).toList := by
      have := setParams_rel l.params h5 hargs
      have hfold : ∀ (zs : List (Nat × Value)) (t : Array Value), (zs.foldl (fun tmps (x : Nat × Value) => tmps.setIfInBounds x.1 x.2) t).toList = zs.foldl (fun t x => t.set x.1 x.2) t.toList := by
        intro zs
        induction zs with
        | nil => intro t; rfl
        | cons z zs ih => intro t; simp only [List.foldl_cons]; rw [ih]; simp
      rw [← Array.foldl_toList, Array.toList_zip]
      have e1 := hfold (rec.params.toList.zip cargs.toArray.toList) rec.tmps
      rw [h6] at e1 ⊢
      simp only at e1 ⊢
      rw [e1]
      exact this
    have hst : StRel P B ρ { tm := setParams l.tmps l.params args, H := H, marks := [] } { tmps := (rec.params.zip cargs.toArray).foldl (fun tmps (t, a) => tmps.setIfInBounds t a) rec.tmps, defers := [] } w := ⟨htm, hH, .nil⟩
    have hw := h x.c rec.assign rec.body h7 h8 B ρ _ w hst
    refine wpIn_mono hw fun e a1 w1 hq => ?_
    obtain ⟨st1, ρ1, q1, q2, q3⟩ := hq
    cases e with
    | normal =>
      obtain ⟨l1, g1, g2, g3⟩ := q1
      have hx1 := q3 _ _ _ hx
      obtain ⟨_, rec1, k2, k3, k4, k5, k6, k7, k8, k9⟩ := q2.H.loopOf g1 hx1
      refine ⟨_, run_beginRound k2 (by rw [k3]; exact g2), ?_⟩
      have hput := q2.H.putLoop (l' := { l1 with state := .busy }) (r' := { rec1 with state := .busy }) g1 hx1 ⟨rfl, k4, k5, k6, k7, k8, k9⟩
      have hst2 : StRel P B ρ1 { st1 with H := st1.H.set L (.loop { l1 with state := .busy }) } a1 (w1.putObj x.c (.loop { rec1 with state := .busy })) := ⟨q2.tm, hput, q2.marks⟩
      refine wpIn_mono (g3 B ρ1 a1 _ hst2) fun e2 a2 w2 hq2 => ?_
      obtain ⟨st2, ρ2, p1, p2, p3⟩ := hq2
      have hle := Ren.le_trans q3 p3
      have hx2 := p3 _ _ _ hx1
      cases e2 with
      | normal =>
        obtain ⟨l2, m1, m2⟩ := p1
        obtain ⟨_, rec2, n2, n3, n4, n5, n6, n7, n8, n9⟩ := p2.H.loopOf m1 hx2
        exact ⟨_, _, run_endRound none n2, _, _, _, ρ2, rfl, m2, .raw _, p2.H.putLoop (r' := { rec2 with state := .ready, pending := none }) m1 hx2 ⟨rfl, trivial, n5, n6, n7, n8, n9⟩, hle⟩
      | ret =>
        obtain ⟨l2, m1, m2⟩ := p1
        obtain ⟨_, rec2, n2, n3, n4, n5, n6, n7, n8, n9⟩ := p2.H.loopOf m1 hx2
        exact ⟨_, _, run_endRound (some .ret) n2, _, _, _, ρ2, rfl, m2, .raw _, p2.H.putLoop (r' := { rec2 with state := .done, pending := some .ret }) m1 hx2 ⟨rfl, rfl, n5, n6, n7, n8, n9⟩, hle⟩
      | exit id =>
        obtain ⟨l2, m1, m2⟩ := p1
        obtain ⟨_, rec2, n2, n3, n4, n5, n6, n7, n8, n9⟩ := p2.H.loopOf m1 hx2
        exact ⟨_, _, run_endRound (some (.exit id)) n2, _, _, _, ρ2, rfl, m2, .raw _, p2.H.putLoop (r' := { rec2 with state := .done, pending := some (.exit id) }) m1 hx2 ⟨rfl, rfl, n5, n6, n7, n8, n9⟩, hle⟩
      | goto _ => exact p1.elim
      | panic _ => exact p1.elim
      | outgrown => exact p1.elim
    | exit _ => exact q1.elim
    | goto _ => exact q1.elim
    | ret => exact q1.elim
    | panic _ => exact q1.elim
    | outgrown => exact q1.elim
end Go.Vm
namespace Go.Vm
open Go
variable {P : Program} {B : Base} {ρ ρ' : Ren} {H H' : AHeap} {w w' : World}
theorem isRo_same {H2 : AHeap} (hg : ∀ A, H2.get A = H.get A) (A : Nat) : isRo H2 A ↔ isRo H A := by unfold isRo; rw [hg]
theorem HRel.same (h : HRel P B ρ H w) {H2 : AHeap} (hg : ∀ A, H2.get A = H.get A) (hn : ∀ A, H2.next ≤ A → H.get A = none) : HRel P B ρ H2 w where
  le := h.le
  fresh := fun A v hA => by
    cases hx : ρ A v with
    | none => rfl
    | some l => obtain ⟨o, ho⟩ := h.dom A v l hx; rw [hn A hA] at ho; cases ho
  wf := fun A hA => by rw [hg]; exact hn A hA
  dom := fun A v l hl => by rw [hg]; exact h.dom A v l hl
  obj := fun A o ho => by rw [hg] at ho; exact h.obj A o ho
  sep := fun A1 A2 v1 v2 l1 l2 e1 e2 e3 => by rw [isRo_same hg, isRo_same hg]; exact h.sep A1 A2 v1 v2 l1 l2 e1 e2 e3
  own := fun A v l hl hr => by rw [isRo_same hg] at hr; exact h.own A v l hl hr
  lt := h.lt
  size := h.size
  frame := h.frame
  side := h.side
  ro := fun A v l hr hl => by rw [isRo_same hg] at hr; exact h.ro A v l hr hl
theorem alloc_old (w : World) (co : Obj) {c : Nat} (hc : c < w.heap.size) : (w.alloc co).heap[c]? = w.heap[c]? := by
  simp only [World.alloc, Array.getElem?_push]; rw [if_neg (by omega)]
theorem HRel.junk (h : HRel P B ρ H w) {co : Obj} (hco : Thaw co) : HRel P B ρ H (w.alloc co) where
  le := h.le
  fresh := h.fresh
  wf := h.wf
  dom := h.dom
  obj := fun A o ho => (h.obj A o ho).keep (Ren.le_refl _) (fun _ => rfl) fun v l hl => alloc_old w co (h.lt A v l hl)
  sep := h.sep
  own := h.own
  lt := fun A v l hl => by have := h.lt A v l hl; simp; omega
  size := by have := h.size; simp; omega
  frame := fun c hc hb => by rw [alloc_old w co (Nat.lt_of_lt_of_le hc h.size)]; exact h.frame c hc hb
  side := h.side.trans (Side.alloc w hco)
  ro := h.ro
theorem HRel.place (h : HRel P B ρ H w) {A : Nat} (hA : H.get A = none) {o : AObj} {co : Obj} {n : Nat} (ho : ∀ l, o ≠ .ro l)
    (hrel : ObjRel P (ρ.put A 0 ⟨w.heap.size, 0, n⟩) (w.alloc co) A o) (hco : Thaw co) {H2 : AHeap} (hg : ∀ X, H2.get X = if X = A then some o else H.get X) (hn : ∀ X, H2.next ≤ X → H2.get X = none) :
    HRel P B (ρ.put A 0 ⟨w.heap.size, 0, n⟩) H2 (w.alloc co) := by
  have hno : ∀ v, ρ A v = none := fun v => by
    cases hx : ρ A v with
    | none => rfl
    | some l => obtain ⟨o, ho⟩ := h.dom A v l hx; rw [hA] at ho; cases ho
  have hle := Ren.put_le (l := ⟨w.heap.size, 0, n⟩) (hno 0)
  have key : ∀ X v l, ρ.put A 0 ⟨w.heap.size, 0, n⟩ X v = some l → (X = A ∧ v = 0 ∧ l.c = w.heap.size) ∨ (X ≠ A ∧ ρ X v = some l) := fun X v l hl => by
    by_cases e : X = A ∧ v = 0
    · obtain ⟨rfl, rfl⟩ := e; rw [Ren.put_same] at hl; cases hl; exact .inl ⟨rfl, rfl, rfl⟩
    · rw [Ren.put_ne _ _ e] at hl
      refine .inr ⟨fun e' => ?_, hl⟩
      subst e'; rw [hno v] at hl; cases hl
  have gA : H2.get A = some o := by rw [hg, if_pos rfl]
  have gX : ∀ X, X ≠ A → H2.get X = H.get X := fun X e => by rw [hg, if_neg e]
  have hro : ∀ X, isRo H2 X ↔ isRo H X := fun X => by
    unfold isRo
    by_cases e : X = A
    · subst e; rw [gA, hA]; simp [ho]
    · rw [gX X e]
  refine ⟨Ren.le_trans h.le hle, fun X v hX => ?_, hn, fun X v l hl => ?_, fun X o' hX => ?_, fun A1 A2 v1 v2 l1 l2 e1 e2 e3 => ?_, fun X v l hl hr => ?_, fun X v l hl => ?_, ?_, fun c hc hb => ?_, h.side.trans (Side.alloc w hco), fun X v l hr hl => ?_⟩
  · cases hx : ρ.put A 0 ⟨w.heap.size, 0, n⟩ X v with
    | none => rfl
    | some l =>
      have := hn X hX
      rcases key X v l hx with ⟨rfl, _, _⟩ | ⟨e, h1⟩
      · rw [gA] at this; cases this
      · rw [gX X e] at this
        obtain ⟨o', ho'⟩ := h.dom X v l h1; rw [this] at ho'; cases ho'
  · rcases key X v l hl with ⟨rfl, _, _⟩ | ⟨e, h1⟩
    · exact ⟨o, gA⟩
    · rw [gX X e]; exact h.dom X v l h1
  · by_cases e : X = A
    · subst e; rw [gA] at hX; cases hX; exact hrel
    · rw [gX X e] at hX
      exact (h.obj X o' hX).keep hle (fun v => by rw [Ren.put_ne _ _ (by omega)]) (fun v l hl => alloc_old w co (h.lt X v l hl))
  · rw [hro, hro]
    rcases key _ _ _ e1 with ⟨a1, _, a3⟩ | ⟨a1, a2⟩ <;> rcases key _ _ _ e2 with ⟨b1, _, b3⟩ | ⟨b1, b2⟩
    · left; rw [a1, b1]
    · have := h.lt _ _ _ b2; omega
    · have := h.lt _ _ _ a2; omega
    · exact h.sep A1 A2 v1 v2 l1 l2 a2 b2 e3
  · rw [hro] at hr
    rcases key _ _ _ hl with ⟨_, _, a3⟩ | ⟨a1, a2⟩
    · right; rw [a3]; exact h.size
    · exact h.own X v l a2 hr
  · rcases key _ _ _ hl with ⟨_, _, a3⟩ | ⟨a1, a2⟩
    · rw [a3]; simp
    · have := h.lt _ _ _ a2; simp; omega
  · have := h.size; simp; omega
  · rw [alloc_old w co (Nat.lt_of_lt_of_le hc h.size)]; exact h.frame c hc hb
  · rw [hro] at hr
    rcases key _ _ _ hl with ⟨rfl, _, _⟩ | ⟨a1, a2⟩
    · obtain ⟨x, hx⟩ := hr; rw [hA] at hx; cases hx
    · exact h.ro X v l hr a2
theorem HRel.graft {ρ0 ρ1 : Ren} {H0 H1 : AHeap} (h0 : HRel P B ρ0 H0 w) (h1 : HRel P B ρ1 H1 w) (N : Nat → Bool) (hN0 : ∀ A v, N A = true → ρ0 A v = none)
    (hout : ∀ A v, N A = false → ρ1 A v = ρ0 A v) (hg : ∀ A, N A = false → H1.get A = H0.get A) (hNr : ∀ A, N A = true → ¬ isRo H1 A) (hc : HRel P (Vm.here ρ0 H0 w) ρ' H' w') (hN' : ∀ A, N A = true → H'.get A = none)
    {H2 : AHeap} (hg2 : ∀ A, H2.get A = if N A = true then H1.get A else H'.get A) (hn2 : ∀ A, H2.next ≤ A → H2.get A = none) :
    HRel P B (fun A v => if N A = true then ρ1 A v else ρ' A v) H2 w' := by
  have ht := h0.trans hc
  have gN : ∀ A, N A = true → H2.get A = H1.get A := fun A h => by rw [hg2, if_pos h]
  have gO : ∀ A, N A = false → H2.get A = H'.get A := fun A h => by rw [hg2, if_neg (by simp [h])]
  have rN : ∀ A, N A = true → (isRo H2 A ↔ isRo H1 A) := fun A h => by unfold isRo; rw [gN A h]
  have rO : ∀ A, N A = false → (isRo H2 A ↔ isRo H' A) := fun A h => by unfold isRo; rw [gO A h]
  have fN : ∀ A v, N A = true → (if N A = true then ρ1 A v else ρ' A v) = ρ1 A v := fun A v h => if_pos h
  have fO : ∀ A v, N A = false → (if N A = true then ρ1 A v else ρ' A v) = ρ' A v := fun A v h => if_neg (by simp [h])
  have hle1 : ρ1.le (fun A v => if N A = true then ρ1 A v else ρ' A v) := fun A v x hx => by
    cases hA : N A with
    | true => simpa [hA] using hx
    | false => rw [hout A v hA] at hx; simpa [hA] using hc.le A v x hx
  have hle2 : ρ'.le (fun A v => if N A = true then ρ1 A v else ρ' A v) := fun A v x hx => by
    cases hA : N A with
    | true => obtain ⟨o, ho⟩ := hc.dom A v x hx; rw [hN' A hA] at ho; cases ho
    | false => simpa [hA] using hx
  have alien : ∀ A v l, N A = true → ρ1 A v = some l → ¬ ownOf ρ0 H0 l.c := fun A v l hA hl ⟨A2, v2, l2, g1, g2, g3⟩ => by
    cases hA2 : N A2 with
    | true => rw [hN0 A2 v2 hA2] at g1; cases g1
    | false =>
      rw [← hout A2 v2 hA2] at g1
      rcases h1.sep A2 A v2 v l2 l g1 hl g3 with e | e
      · rw [e, hA] at hA2; cases hA2
      · exact hNr A hA e.2
  have cross : ∀ A1 A2 v1 v2 l1 l2, N A1 = true → N A2 = false → ρ1 A1 v1 = some l1 → ρ' A2 v2 = some l2 → l1.c ≠ l2.c := fun A1 A2 v1 v2 l1 l2 n1 n2 e1 e2 e3 => by
    by_cases hr : isRo H' A2
    · obtain ⟨_, g2⟩ := hc.ro A2 v2 l2 hr e2
      rw [← hout A2 v2 n2] at g2
      rcases h1.sep A1 A2 v1 v2 l1 l2 e1 g2 e3 with e | e
      · rw [e, n2] at n1; cases n1
      · exact hNr A1 n1 e.1
    · rcases hc.own A2 v2 l2 e2 hr with g | g
      · exact alien A1 v1 l1 n1 e1 (e3 ▸ g)
      · have := h1.lt A1 v1 l1 e1
        have g' : w.heap.size ≤ l2.c := g
        omega
  refine ⟨Ren.le_trans h1.le hle1, fun A v hA => ?_, hn2, fun A v l hl => ?_, fun A o ho => ?_, fun A1 A2 v1 v2 l1 l2 e1 e2 e3 => ?_, fun A v l hl hr => ?_, fun A v l hl => ?_, ht.size, ht.frame, ht.side, fun A v l hr hl => ?_⟩
  · have := hn2 A hA
    cases hN : N A with
    | true =>
      simp only [if_true]
      cases hx : ρ1 A v with
      | none => rfl
      | some l => obtain ⟨o, ho⟩ := h1.dom A v l hx; rw [gN A hN, ho] at this; cases this
    | false =>
      simp only [Bool.false_eq_true, if_false]
      cases hx : ρ' A v with
      | none => rfl
      | some l => obtain ⟨o, ho⟩ := hc.dom A v l hx; rw [gO A hN, ho] at this; cases this
  · cases hN : N A with
    | true => rw [gN A hN]; exact h1.dom A v l (by simpa [hN] using hl)
    | false => rw [gO A hN]; exact hc.dom A v l (by simpa [hN] using hl)
  · cases hN : N A with
    | true =>
      rw [gN A hN] at ho
      exact (h1.obj A o ho).keep hle1 (fun v => fN A v hN) fun v l hl => hc.frame l.c (h1.lt A v l hl) (alien A v l hN hl)
    | false =>
      rw [gO A hN] at ho
      exact (hc.obj A o ho).keep hle2 (fun v => fO A v hN) fun _ _ _ => rfl
  · cases n1 : N A1 with
    | true =>
      rw [fN _ _ n1] at e1
      cases n2 : N A2 with
      | true =>
        rw [fN _ _ n2] at e2
        rcases h1.sep A1 A2 v1 v2 l1 l2 e1 e2 e3 with e | e
        · exact .inl e
        · exact (hNr A1 n1 e.1).elim
      | false => rw [fO _ _ n2] at e2; exact absurd e3 (cross A1 A2 v1 v2 l1 l2 n1 n2 e1 e2)
    | false =>
      rw [fO _ _ n1] at e1
      cases n2 : N A2 with
      | true => rw [fN _ _ n2] at e2; exact absurd e3.symm (cross A2 A1 v2 v1 l2 l1 n2 n1 e2 e1)
      | false =>
        rw [fO _ _ n2] at e2
        rw [rO A1 n1, rO A2 n2]
        exact hc.sep A1 A2 v1 v2 l1 l2 e1 e2 e3
  · cases hN : N A with
    | true => rw [fN _ _ hN] at hl; exact h1.own A v l hl (hNr A hN)
    | false => rw [fO _ _ hN] at hl; exact ht.own A v l hl (fun h => hr ((rO A hN).2 h))
  · cases hN : N A with
    | true => rw [fN _ _ hN] at hl; exact Nat.lt_of_lt_of_le (h1.lt A v l hl) hc.size
    | false => rw [fO _ _ hN] at hl; exact hc.lt A v l hl
  · cases hN : N A with
    | true => exact (hNr A hN ((rN A hN).1 hr)).elim
    | false => rw [fO _ _ hN] at hl; exact ht.ro A v l ((rO A hN).1 hr) hl
end Go.Vm
