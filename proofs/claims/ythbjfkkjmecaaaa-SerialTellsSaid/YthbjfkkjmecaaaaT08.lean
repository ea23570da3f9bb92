/- The abstract machine, part 15: states, code, calls: what a run of code does, as it follows from the model's steps. -/
import Derived.Test.YthbjfkkjmecaaaaT07
set_option linter.unusedVariables false
set_option linter.unusedSimpArgs false
namespace Go.Vm
open Go
variable {P : Program} {B : Base} {ρ ρ' : Ren} {H H' : AHeap} {w w' : World}
def FW (r : Option Nat) : Fence := { Fence.wide with round := r }
theorem FW_fn (r : Option Nat) (f : FuncId) : (FW r).fn f := trivial
@[simp] theorem FW_depth (r : Option Nat) : (FW r).depth = none := rfl
@[simp] theorem FW_round (r : Option Nat) : (FW r).round = r := rfl
theorem callsIn_FW {r : Option Nat} {n : Nat} {f : FuncId} {args : Array Value} {R : Ending → World → Prop} (h : CallsIn Fence.wide n P f args w R) : CallsIn (FW r) n P f args w R := h
theorem roundIn_FW {r : Option Nat} {n l : Nat} {f : FuncId} {tmps : Array Value} {a b : Code} {R : Ending → World → Prop} (h : RoundIn Fence.wide n P l f tmps a b w R) : RoundIn (FW r) n P l f tmps a b w R := h
structure ASt where
  tm : List AVal
  H : AHeap
  marks : List Nat
  deriving Inhabited
def ASt.put (st : ASt) (d : Option Nat) (v : AVal) : ASt :=
  match d with
  | some d => { st with tm := st.tm.set d v }
  | none => st
inductive MarksRel (ρ : Ren) : List Nat → List Deferred → Prop
  | nil : MarksRel ρ [] []
  | cons {M : Nat} {l : Loc} {ms : List Nat} {ds : List Deferred} (h : ρ M 0 = some l) (hs : MarksRel ρ ms ds) : MarksRel ρ (M :: ms) ({ target := .collected l.c, args := #[] } :: ds)
theorem MarksRel.mono (hle : ρ.le ρ') : ∀ {ms : List Nat} {ds : List Deferred}, MarksRel ρ ms ds → MarksRel ρ' ms ds
  | _, _, .nil => .nil
  | _, _, .cons h hs => .cons (hle _ _ _ h) (hs.mono hle)
structure StRel (P : Program) (B : Base) (ρ : Ren) (st : ASt) (a : Act) (w : World) : Prop where
  tm : VRels ρ st.tm a.tmps.toList
  H : HRel P B ρ st.H w
  marks : MarksRel ρ st.marks a.defers
theorem StRel.ev {st : ASt} {a : Act} (h : StRel P B ρ st a w) : EvOk ρ st.tm a.eval := fun x ax hx => by
  cases x with
  | tmp t =>
    simp [cOpd] at hx; subst hx
    simp only [Vm.ev, Act.eval, List.getD_eq_getElem?_getD, Array.getD_eq_getD_getElem?]
    cases hv : st.tm[t]? with
    | none =>
      have : a.tmps[t]? = none := by
        have h1 := h.tm.length
        have h2 := List.getElem?_eq_none_iff.1 hv
        rw [Array.getElem?_eq_none_iff]
        simp at h1; omega
      rw [this]; exact .raw _
    | some v =>
      obtain ⟨cv, h1, h2⟩ := h.tm.get _ _ hv
      rw [Array.getElem?_toList] at h1
      rw [h1]; exact h2
  | const v => simp [cOpd] at hx; subst hx; exact aconst_rel ρ v
  | global g => simp [cOpd] at hx
  | func f => simp [cOpd] at hx; subst hx; exact VRel.func (vs := []) .nil
theorem put_tm {st : ASt} {a : Act} (h : VRels ρ st.tm a.tmps.toList) (d : Option Nat) {v : AVal} {cv : Value} (hv : VRel ρ v cv) : VRels ρ (st.put d v).tm (a.put d cv).tmps.toList := by
  cases d with
  | none => exact h
  | some d => simpa [ASt.put, Act.put] using h.set hv d
theorem StRel.put {st : ASt} {a : Act} (h : StRel P B ρ st a w) (hle : ρ.le ρ') (d : Option Nat) {v : AVal} {cv : Value} (hv : VRel ρ' v cv) (hH : HRel P B ρ' H' w') :
    StRel P B ρ' ({ st with H := H' }.put d v) (a.put d cv) w' := by
  refine ⟨?_, ?_, ?_⟩
  · have := put_tm (st := { st with H := H' }) (h.tm.mono hle) d hv
    exact this
  · cases d <;> exact hH
  · have hm := h.marks.mono hle
    cases d <;> exact hm
def CPost (P : Program) (B : Base) (ρ : Ren) (R : AVal → AHeap → Prop) : Ending → World → Prop := fun e w' => ∃ v cv H' ρ', e = .returned cv ∧ R v H' ∧ VRel ρ' v cv ∧ HRel P B ρ' H' w' ∧ ρ.le ρ'
def NextOk (P : Program) (nx : Next) (w : World) (Post : Ending → World → Prop) : Prop :=
  match nx with
  | .enter f as => CallsIn Fence.wide 0 P f as w Post
  | .round l f tmps a b => RoundIn Fence.wide 0 P l f tmps a b w Post
  | .value v => Post (.returned v) w
  | _ => False
def ACallV (P : Program) (fv : AVal) (args : List AVal) (H : AHeap) (R : AVal → AHeap → Prop) : Prop :=
  ∀ B ρ w cf cargs, HRel P B ρ H w → VRel ρ fv cf → VRels ρ args cargs →
    ∃ d w0 nx w1, (Deferred.ofValue cf cargs.toArray).run P w = .ok d w0 ∧ (invoke d.target d.args).run P w0 = .ok nx w1 ∧ NextOk P nx w1 (CPost P B ρ R)
def ACalls (P : Program) (f : FuncId) (args : List AVal) (H : AHeap) (R : AVal → AHeap → Prop) : Prop :=
  ∀ B ρ w cargs, HRel P B ρ H w → VRels ρ args cargs → CallsIn Fence.wide 0 P f cargs.toArray w (CPost P B ρ R)
theorem ACalls.mono {f : FuncId} {args : List AVal} {R R' : AVal → AHeap → Prop} (h : ACalls P f args H R) (hr : ∀ v H', R v H' → R' v H') : ACalls P f args H R' :=
  fun B ρ w cargs h1 h2 => (h B ρ w cargs h1 h2).mono fun _ _ ⟨v, cv, H', ρ', a, b, c⟩ => ⟨v, cv, H', ρ', a, hr _ _ b, c⟩
def GoFn (P : Program) (f : FuncId) : Prop := ∃ fn, P.funcs[f]? = some fn ∧ (fn.name == "runtime.NumGoroutine") = false ∧ fn.body.isSome = true
theorem run_callFunc {f : FuncId} (h : GoFn P f) (args : Array Value) : (callFunc f args).run P w = .ok (.enter f args) w := by
  obtain ⟨fn, h1, h2, h3⟩ := h
  have h3' : fn.body.isNone = false := by cases hb : fn.body <;> simp_all
  simp only [callFunc, Sem.run_bind, run_program, Result.andThen_ok, h1, h2, Bool.false_eq_true, if_false, h3', Sem.run_pure]
theorem ACalls.value {f : FuncId} {caps args : List AVal} {R : AVal → AHeap → Prop} (hf : GoFn P f) (h : ACalls P f (args ++ caps) H R) : ACallV P (.func (.func f) caps) args H R := by
  intro B ρ w cf cargs h1 h2 h3
  obtain ⟨vs, hvs, rfl⟩ := h2.func_inv
  refine ⟨_, w, .enter f (cargs ++ vs).toArray, w, by simp [Deferred.ofValue]; rfl, ?_, h B ρ w _ h1 (h3.append hvs)⟩
  simp only [invoke]
  have := run_callFunc (w := w) hf (cargs ++ vs).toArray
  simpa using this
def awanted (g : Option (Nat × Bool)) (tm : List AVal) : Option Bool :=
  match g with
  | none => some true
  | some (d, b) => match tm[d]? with
    | some (.raw (.bool b')) => some (b' == b)
    | some (.raw (.tuple _)) => some false
    | _ => none
theorem awanted_run {ops : Array Oper} {o : Oper} {ao : AOper} {tm : List AVal} {tmps : Array Value} {b : Bool} (hc : cOper P ops o = some ao) (h : VRels ρ tm tmps.toList) (hw : awanted ao.guard tm = some b) :
    Region.wanted o (yielded ops tmps) = b := by
  unfold cOper at hc
  obtain ⟨a, ha, hc⟩ := Option.bind_eq_some_iff.1 hc
  obtain ⟨_, hc⟩ := ite_some hc
  split at hc
  · rename_i hg
    cases hc
    simp [awanted] at hw
    simp [Region.wanted, hg, hw]
  · rename_i j want hg
    obtain ⟨d, hd, rfl⟩ := Option.map_eq_some_iff.1 hc
    simp only [awanted] at hw
    split at hw
    · rename_i b' hv
      cases hw
      obtain ⟨cv, h1, h2⟩ := h.get _ _ hv
      rw [h2.raw_inv, Array.getElem?_toList] at h1
      simp only [Region.wanted, hg, yielded, hd, Option.bind_some, h1]
      rw [Bool.eq_iff_iff]; simp
    · rename_i vs hv
      cases hw
      obtain ⟨cv, h1, h2⟩ := h.get _ _ hv
      rw [h2.raw_inv, Array.getElem?_toList] at h1
      simp [Region.wanted, hg, yielded, hd, Option.bind_some, h1]
    · cases hw
theorem cOp'_some {o : Op} {a : AOp} (h : cOp' P o = some a) : (a = .bad ∨ cOp P o = some a) ∧ loud o = false ∨ cOp P o = some a := by
  unfold cOp' at h
  split at h
  · rename_i x hx; cases h; exact .inr hx
  · split at h
    · cases h
    · rename_i hl; cases h; exact .inl ⟨.inl rfl, by simpa using hl⟩
theorem loud_no {o : Op} {a : AOp} (h : cOp' P o = some a) : loud o = false := by
  rcases cOp'_some h with ⟨_, h1⟩ | h1
  · exact h1
  · cases o <;> first | rfl | (cases h1)
theorem cOper_some {ops : Array Oper} {o : Oper} {ao : AOper} (hc : cOper P ops o = some ao) : cOp' P o.op = some ao.op ∧ ao.dst = o.dst ∧ okCall o.op ao.op = true := by
  unfold cOper at hc
  obtain ⟨a, ha, hc⟩ := Option.bind_eq_some_iff.1 hc
  obtain ⟨hk, hc⟩ := ite_some hc
  split at hc
  · cases hc; exact ⟨ha, rfl, hk⟩
  · obtain ⟨d, hd, rfl⟩ := Option.map_eq_some_iff.1 hc; exact ⟨ha, rfl, hk⟩
theorem known {tm : List AVal} {v : AVal} {o : Op} {a : AOp} (h : cOp' P o = some a) (ha : aOp tm a H = some (v, H')) : cOp P o = some a := by
  rcases cOp'_some h with ⟨rfl | h1, _⟩ | h1
  · cases ha
  · exact h1
  · exact h1
theorem knownCall {o : Op} {f : AOpd} {args : List AOpd} (h : cOp' P o = some (.call f args)) : cOp P o = some (.call f args) := by
  rcases cOp'_some h with ⟨h1 | h1, _⟩ | h1
  · cases h1
  · exact h1
  · exact h1
theorem noDefer {o : Oper} {ao : AOp} (hc : cOp' P o.op = some ao) : ∀ c, o.op ≠ .defer c := fun c h => by have := loud_no hc; rw [h] at this; cases this
def AQ (P : Program) (B : Base) (ρ : Ren) (Q : Exit → ASt → Prop) : Exit → Act → World → Prop := fun e a w => ∃ st ρ', Q e st ∧ StRel P B ρ' st a w ∧ ρ.le ρ'
def AOps (P : Program) (r : Option Nat) (ops : Array Oper) (l : List Nat) (K : ASt → Prop) (st : ASt) : Prop :=
  ∀ B ρ a w, StRel P B ρ st a w → wpOpsIn (FW r) 0 P ops (AQ P B ρ fun e st => e = .normal ∧ K st) l a w
theorem wpOpsIn_mono {F : Fence} {n : Nat} {ops : Array Oper} {Q Q' : Exit → Act → World → Prop} (hq : ∀ e a w, Q e a w → Q' e a w) : ∀ (l : List Nat) (a : Act) (w : World), wpOpsIn F n P ops Q l a w → wpOpsIn F n P ops Q' l a w
  | [], a, w, h => hq _ _ _ h
  | i :: rest, a, w, h => by
    simp only [wpOpsIn] at h ⊢
    have ih := wpOpsIn_mono (F := F) (n := n) (ops := ops) hq rest
    cases ho : ops[i]? with
    | none => rw [ho] at h; exact ih _ _ h
    | some o =>
      rw [ho] at h
      simp only at h ⊢
      by_cases hw : Region.wanted o (yielded ops a.tmps) = true
      · rw [if_pos hw] at h ⊢
        obtain ⟨h1, h2⟩ := h
        refine ⟨h1, ?_⟩
        generalize (Oper.semAt F.round a.eval _).run P w = x at h2 ⊢
        cases x with
        | ok x w' =>
          cases x <;> simp only [Oper.uponIn] at h2 ⊢ <;> first
            | exact ih _ _ h2
            | exact ⟨h2.1, CallsIn.mono h2.2 fun e w'' he => by cases e <;> first | exact ih _ _ he | exact hq _ _ _ he | (obtain ⟨a0, w0, hx⟩ := he; exact ⟨a0, w0, hq _ _ _ hx⟩)⟩
            | exact ⟨h2.1, RowsIn.mono h2.2 fun _ _ he => ih _ _ he⟩
            | exact ⟨h2.1, RoundIn.mono h2.2 fun e w'' he => by cases e <;> first | exact ih _ _ he | exact hq _ _ _ he | (obtain ⟨a0, w0, hx⟩ := he; exact ⟨a0, w0, hq _ _ _ hx⟩)⟩
        | halt x w' => cases x <;> simp only [Oper.uponIn] at h2 ⊢ <;> first | exact hq _ _ _ h2 | exact h2
      · rw [if_neg hw] at h ⊢
        exact ⟨h.1, ih _ _ h.2⟩
theorem wpOpsIn_op {r : Option Nat} {ops : Array Oper} {o : Oper} {i : Nat} {rest : List Nat} {Q : Exit → Act → World → Prop} {a : Act} {nx : Next} {cv : Value} (ho : ops[i]? = some o) (hw : Region.wanted o (yielded ops a.tmps) = true)
    (hd : ∀ c, o.op ≠ .defer c) (hrun : (execOp a.eval o).run P w = .ok nx w') (hnx : nx = .value cv ∨ (nx = .skip ∧ cv = undef)) (h : wpOpsIn (FW r) 0 P ops Q rest (a.put o.dst cv) w') :
    wpOpsIn (FW r) 0 P ops Q (i :: rest) a w := by
  simp only [wpOpsIn, ho, hw, if_true, Oper.wpIn]
  refine ⟨fun _ _ => trivial, ?_⟩
  rw [Oper.semAt_eq _ _ _ hd, hrun]
  rcases hnx with rfl | ⟨rfl, rfl⟩
  · exact h
  · exact h
theorem AOps.nil {r : Option Nat} {ops : Array Oper} {K : ASt → Prop} {st : ASt} (h : K st) : AOps P r ops [] K st := fun _ _ _ _ hs => ⟨st, _, ⟨rfl, h⟩, hs, Ren.le_refl _⟩
theorem AQ.le {B : Base} {ρ ρ' : Ren} (hle : ρ.le ρ') {Q : Exit → ASt → Prop} {e : Exit} {a : Act} {w : World} (h : AQ P B ρ' Q e a w) : AQ P B ρ Q e a w :=
  let ⟨st, ρ'', h1, h2, h3⟩ := h; ⟨st, ρ'', h1, h2, Ren.le_trans hle h3⟩
theorem AOps.op {r : Option Nat} {ops : Array Oper} {o : Oper} {ao : AOper} {i : Nat} {rest : List Nat} {K : ASt → Prop} {st : ASt} {v : AVal} (ho : ops[i]? = some o) (hc : cOper P ops o = some ao)
    (hw : awanted ao.guard st.tm = some true) (ha : aOp st.tm ao.op st.H = some (v, H')) (h : AOps P r ops rest K ({ st with H := H' }.put ao.dst v)) : AOps P r ops (i :: rest) K st := by
  intro B ρ a w hs
  obtain ⟨hc1, hc2, hc3⟩ := cOper_some hc
  obtain ⟨ρ', w', nx, cv, h1, h2, h3, h4, h5, _⟩ := aOp_sound hs.H hs.ev (known hc1 ha) ha
  refine wpOpsIn_op ho (awanted_run hc hs.tm hw) (noDefer hc1) h1 h2 ?_
  have := h B ρ' _ w' (hs.put h5 ao.dst h3 h4)
  rw [hc2] at this
  exact wpOpsIn_mono (fun e a w hq => hq.le h5) _ _ _ this
theorem AOps.skip {r : Option Nat} {ops : Array Oper} {o : Oper} {ao : AOper} {i : Nat} {rest : List Nat} {K : ASt → Prop} {st : ASt} (ho : ops[i]? = some o) (hc : cOper P ops o = some ao)
    (hw : awanted ao.guard st.tm = some false) (h : AOps P r ops rest K (st.put ao.dst aundef)) : AOps P r ops (i :: rest) K st := by
  intro B ρ a w hs
  obtain ⟨hc1, hc2, hc3⟩ := cOper_some hc
  simp only [wpOpsIn, ho, awanted_run hc hs.tm hw, Bool.false_eq_true, if_false]
  refine ⟨fun _ _ => trivial, ?_⟩
  have := h B ρ (a.put o.dst undef) w (by
    have := hs.put (H' := st.H) (w' := w) (Ren.le_refl ρ) ao.dst (v := aundef) (cv := undef) (.raw _) hs.H
    rw [hc2] at this ⊢
    exact this)
  exact this
theorem cOp_call {o : Oper} {f : AOpd} {args : List AOpd} (hk : okCall o.op (.call f args) = true) (hc : cOp P o.op = some (.call f args)) :
    ∃ c x, o.op = .call c ∧ c.callee = .value x ∧ cOpd x = some f ∧ cOpds c.args.toList = some args := by
  cases hop : o.op with
  | call c =>
    rw [hop] at hc hk
    cases hx : c.callee with
    | value x =>
      have hc' : cCall P c = some (.call f args) := hc
      unfold cCall at hc'
      rw [hx] at hc'
      obtain ⟨g, h1, h2⟩ := Option.bind_eq_some_iff.1 hc'
      obtain ⟨as, h3, h4⟩ := Option.map_eq_some_iff.1 h2
      cases h4
      exact ⟨c, x, rfl, hx, h1, h3⟩
    | invoke _ _ => simp [okCall, hx] at hk
    | builtin _ => simp [okCall, hx] at hk
  | _ => rw [hop] at hk; simp [okCall] at hk
theorem AOps.call {r : Option Nat} {ops : Array Oper} {o : Oper} {ao : AOper} {i : Nat} {rest : List Nat} {K : ASt → Prop} {st : ASt} {f : AOpd} {args : List AOpd} {R : AVal → AHeap → Prop} (ho : ops[i]? = some o) (hc : cOper P ops o = some ao)
    (hw : awanted ao.guard st.tm = some true) (hop : ao.op = .call f args) (hcall : ACallV P (ev st.tm f) (args.map (ev st.tm)) st.H R)
    (h : ∀ v H', R v H' → AOps P r ops rest K ({ st with H := H' }.put ao.dst v)) : AOps P r ops (i :: rest) K st := by
  intro B ρ a w hs
  obtain ⟨hc1, hc2, hc3⟩ := cOper_some hc
  rw [hop] at hc1 hc3
  obtain ⟨c, x, e1, e2, e3, e4⟩ := cOp_call hc3 (knownCall hc1)
  obtain ⟨d, w0, nx, w1, h1, h2, h3⟩ := hcall B ρ w (a.eval x) (c.args.toList.map a.eval) hs.H (hs.ev _ _ e3) (cOpds_rel hs.ev e4)
  have hargs : (c.args.toList.map a.eval).toArray = c.args.map a.eval := by rw [← Array.toList_map, Array.toArray_toList]
  rw [hargs] at h1
  have hrun : (execOp a.eval o).run P w = .ok nx w1 := by
    simp only [execOp, e1, resolve, e2, Sem.run_bind, h1, Result.andThen_ok, h2]
  simp only [wpOpsIn, ho, awanted_run hc hs.tm hw, if_true, Oper.wpIn]
  refine ⟨fun _ _ => trivial, ?_⟩
  rw [Oper.semAt_eq _ _ _ (noDefer hc1), hrun]
  have post : ∀ e w'', CPost P B ρ R e w'' → match e with
      | .returned v => wpOpsIn (FW r) 0 P ops (AQ P B ρ fun e st => e = .normal ∧ K st) rest (a.put o.dst v) w''
      | .panicked chain => AQ P B ρ (fun e st => e = .normal ∧ K st) (.panic chain) a w''
      | .outgrown => LetsOut (AQ P B ρ fun e st => e = .normal ∧ K st) := fun e w'' hp => by
    obtain ⟨v, cv, H', ρ', rfl, hR, hv, hH, hle⟩ := hp
    have := h v H' hR B ρ' _ w'' (hs.put hle ao.dst hv hH)
    rw [hc2] at this
    exact wpOpsIn_mono (fun e a w hq => hq.le hle) _ _ _ this
  cases nx <;> simp only [NextOk] at h3
  · have := post _ _ h3
    exact this
  · exact ⟨fun h => by simp at h, CallsIn.mono (callsIn_FW h3) fun e w'' hp => by have := post e w'' hp; cases e <;> exact this⟩
  · exact ⟨fun h => by simp at h, RoundIn.mono (roundIn_FW h3) fun e w'' hp => by have := post e w'' hp; cases e <;> exact this⟩
end Go.Vm
namespace Go.Vm
open Go
variable {P : Program} {B : Base} {ρ ρ' : Ren} {H H' : AHeap} {w w' : World} {r : Option Nat} {st : ASt} {Q Q' : Exit → ASt → Prop}
def AWp (P : Program) (r : Option Nat) (c : Code) (Q : Exit → ASt → Prop) (st : ASt) : Prop :=
  ∀ B ρ a w, StRel P B ρ st a w → c.wpIn (FW r) 0 P (AQ P B ρ Q) a w
theorem AWp.mono {c : Code} (h : AWp P r c Q st) (hq : ∀ e st, Q e st → Q' e st) : AWp P r c Q' st :=
  fun B ρ a w hs => wpIn_mono (h B ρ a w hs) fun _ _ _ ⟨st, ρ', h1, h2, h3⟩ => ⟨st, ρ', hq _ _ h1, h2, h3⟩
def AThen (K : ASt → Prop) (Q : Exit → ASt → Prop) : Exit → ASt → Prop
  | .normal, st => K st
  | e, st => Q e st
def ABlock (id : Nat) (Q : Exit → ASt → Prop) : Exit → ASt → Prop
  | .exit id', st => if id' = id then Q .normal st else Q (.exit id') st
  | e, st => Q e st
theorem AWp.skip (h : Q .normal st) : AWp P r .skip Q st := fun _ _ _ _ hs => wpIn_skip ⟨st, _, h, hs, Ren.le_refl _⟩
theorem AWp.exit {id : Nat} (h : Q (.exit id) st) : AWp P r (.exit id) Q st := fun _ _ _ _ hs => wpIn_exit ⟨st, _, h, hs, Ren.le_refl _⟩
theorem AWp.ret (h : Q .ret st) : AWp P r .ret Q st := fun _ _ _ _ hs => wpIn_ret ⟨st, _, h, hs, Ren.le_refl _⟩
theorem AWp.seq {x y : Code} (h : AWp P r x (AThen (AWp P r y Q) Q) st) : AWp P r (.seq x y) Q st := fun B ρ a w hs =>
  wpIn_seq (wpIn_mono (h B ρ a w hs) fun e a w hq => by
    obtain ⟨st', ρ', h1, h2, h3⟩ := hq
    cases e with
    | normal => exact wpIn_mono (h1 B ρ' a w h2) fun _ _ _ hq => hq.le h3
    | _ => exact ⟨st', ρ', h1, h2, h3⟩)
theorem AWp.cond {x : Operand} {c d : Code} {ax : AOpd} {t : Bool} (hx : cOpd x = some ax) (he : ev st.tm ax = .raw (.bool t)) (h : AWp P r (if t then c else d) Q st) : AWp P r (.cond x c d) Q st := fun B ρ a w hs => by
  have := hs.ev _ _ hx
  rw [he] at this
  exact wpIn_cond this.raw_inv (h B ρ a w hs)
theorem AWp.block {id : Nat} {c : Code} (h : AWp P r c (ABlock id Q) st) : AWp P r (.block id c) Q st := fun B ρ a w hs =>
  wpIn_block (wpIn_mono (h B ρ a w hs) fun e a w hq => by
    obtain ⟨st', ρ', h1, h2, h3⟩ := hq
    cases e with
    | exit id' =>
      simp only [Exit.inBlock, ABlock] at h1 ⊢
      split
      · rename_i e; rw [if_pos e] at h1; exact ⟨st', ρ', h1, h2, h3⟩
      · rename_i e; rw [if_neg e] at h1; exact ⟨st', ρ', h1, h2, h3⟩
    | _ => exact ⟨st', ρ', h1, h2, h3⟩)
theorem AWp.region {id : Nat} {ops : Array Oper} (h : AOps P r ops (List.range ops.size) (Q .normal) st) : AWp P r (.region id ops false) Q st := fun B ρ a w hs =>
  wpIn_region (wpOpsIn_mono (fun e a w hq => by
    obtain ⟨st', ρ', ⟨rfl, h1⟩, h2, h3⟩ := hq
    exact ⟨st', ρ', h1, h2, h3⟩) _ _ _ (h B ρ a w hs))
theorem AWp.loop {c : Code} (T : Nat → ASt → Prop) (hT : ∀ n st, T n st → AWp P r c (AThen (fun st' => ∃ m, m < n ∧ T m st') Q) st) {n : Nat} (h0 : T n st) : AWp P r (.loop c) Q st := by
  intro B ρ a w hs b k cs hro hb hr
  have key : ∀ j st ρ a w, T j st → StRel P B ρ st a w →
      ∃ e a' w', AQ P B ρ Q e a' w' ∧ ArrivesIn (Machine.fenced P (FW r)) P (lone (b.atR a (.code c :: .inLoop c :: k)) cs w) b k cs e a' w' := by
    intro j
    induction j using Nat.strongRecOn with
    | _ j ih =>
      intro st ρ a w hI hs
      obtain ⟨e, a₁, w₁, ⟨st', ρ', h1, h2, h3⟩, harr⟩ := hT j st hI B ρ a w hs b (.inLoop c :: k) cs hro hb hr
      cases e with
      | normal =>
        obtain ⟨m, hlt, hm⟩ := h1
        obtain ⟨e₂, a₂, w₂, hq₂, harr₂⟩ := ih m hlt st' ρ' a₁ w₁ hm h2
        exact ⟨e₂, a₂, w₂, hq₂.le h3, .of_steps (StepsIn.trans harr (.one (fenced_calm hb hr rfl) stepR_inLoop)) harr₂⟩
      | exit id => exact ⟨_, a₁, w₁, ⟨st', ρ', h1, h2, h3⟩, .pass (x := .inLoop c) rfl (fun _ _ => .inl (by simp)) harr⟩
      | goto l => exact ⟨_, a₁, w₁, ⟨st', ρ', h1, h2, h3⟩, .pass (x := .inLoop c) rfl (fun _ _ => .inl (by simp)) harr⟩
      | ret => exact ⟨_, a₁, w₁, ⟨st', ρ', h1, h2, h3⟩, .pass (x := .inLoop c) rfl (fun _ _ => .inl (by simp)) harr⟩
      | panic ch => exact ⟨_, a₁, w₁, ⟨st', ρ', h1, h2, h3⟩, .pass (x := .inLoop c) rfl (fun _ _ => .inl (by simp)) harr⟩
      | outgrown => exact ⟨_, a₁, w₁, ⟨st', ρ', h1, h2, h3⟩, .pass (x := .inLoop c) rfl (fun _ _ => .inl (by simp)) harr⟩
  obtain ⟨e, a', w', hq, harr⟩ := key n st ρ a w h0 hs
  exact ⟨e, a', w', hq, .of_steps (.one (fenced_calm hb hr rfl) stepR_loop) harr⟩
inductive ARes where
  | tmp (t : Nat)
  | cell (t : Nat) (agg : Bool) (n : Nat)
  deriving Inhabited
structure AFunc where
  code : ACode
  ntmps : Nat
  res : List ARes
  deriving Inhabited
def cRes (P : Program) : List ResultVar → Option (List ARes)
  | [] => some []
  | .tmp t :: rs => (cRes P rs).map (.tmp t :: ·)
  | .cell t ty :: rs => (partSz P ty).bind fun (a, n) => (cRes P rs).map (.cell t a n :: ·)
def cFunc (P : Program) (fn : Func) : Option AFunc :=
  fn.body.bind fun c => (cCode P c).bind fun ac => (cRes P fn.results.toList).map fun rs => { code := ac, ntmps := fn.ntmps, res := rs }
def aRes1 (tm : List AVal) (H : AHeap) : ARes → Option AVal
  | .tmp t => some (tm.getD t aundef)
  | .cell t agg n => match tm.getD t aundef with
    | .ptr A ver off => (H.rowAt A ver).bind fun cells => if off + n ≤ cells.length then aPart agg cells off n else none
    | _ => none
def aRess (tm : List AVal) (H : AHeap) : List ARes → Option (List AVal)
  | [] => some []
  | x :: xs => (aRes1 tm H x).bind fun v => (aRess tm H xs).map (v :: ·)
def tup : List AVal → AVal
  | [v] => v
  | vs => .tuple vs
def aLeave : List Nat → AHeap → Option AHeap
  | [], H => some H
  | M :: ms, H => match H.get M with
    | some (.defs false) => aLeave ms (H.set M (.defs true))
    | _ => none
theorem HRel.leave (h : HRel P B ρ H w) {M : Nat} {l : Loc} (hl : ρ M 0 = some l) (hg : H.get M = some (.defs false)) :
    (Instr.takeDeferred l.c).run P w = .ok [] (w.putObj l.c (.deferred none)) ∧ HRel P B ρ (H.set M (.defs true)) (w.putObj l.c (.deferred none)) := by
  obtain ⟨h1, l', h2, h3⟩ := h.obj M _ hg
  rw [hl] at h2; cases h2
  refine ⟨run_takeDeferred h3, h.putObj hg hl (fun x => by simp) (fun x => by simp) ⟨h1, l, hl, World.putObj_heap_same (Array.getElem?_eq_some_iff.1 h3).1⟩ (Side.putPlain h3 trivial trivial)⟩
theorem aRes1_run (h : HRel P B ρ H w) {tm : List AVal} {tmps : Array Value} (ht : VRels ρ tm tmps.toList) (f : ResultVar → Sem Value) (hf1 : ∀ t, f (.tmp t) = Pure.pure (tmps.getD t undef))
    (hf2 : ∀ a t, f (.cell a t) = (do loadVar t (← asAddr (tmps.getD a undef)))) : ∀ {rs : List ResultVar} {ars : List ARes} {vs : List AVal}, cRes P rs = some ars → aRess tm H ars = some vs →
    ∃ cvs, (rs.mapM (m := Sem) f).run P w = .ok cvs w ∧ VRels ρ vs cvs
  | [], ars, vs, hc, ha => by
    simp [cRes] at hc; subst hc
    simp [aRess] at ha; subst ha
    exact ⟨[], by simp, .nil⟩
  | x :: rs, ars, vs, hc, ha => by
    have hget : ∀ t, VRel ρ (tm.getD t aundef) (tmps.getD t undef) := fun t => by
      simp only [List.getD_eq_getElem?_getD, Array.getD_eq_getD_getElem?]
      cases hv : tm[t]? with
      | none =>
        have : tmps[t]? = none := by
          have h1 := ht.length
          have h2 := List.getElem?_eq_none_iff.1 hv
          rw [Array.getElem?_eq_none_iff]
          simp at h1; omega
        rw [this]; exact .raw _
      | some v =>
        obtain ⟨cv, h1, h2⟩ := ht.get _ _ hv
        rw [Array.getElem?_toList] at h1
        rw [h1]; exact h2
    cases x with
    | tmp t =>
      simp only [cRes] at hc
      obtain ⟨ars', h1, rfl⟩ := Option.map_eq_some_iff.1 hc
      simp only [aRess, aRes1, Option.bind_some] at ha
      obtain ⟨vs', h2, rfl⟩ := Option.map_eq_some_iff.1 ha
      obtain ⟨cvs, h3, h4⟩ := aRes1_run h ht f hf1 hf2 h1 h2
      refine ⟨_ :: cvs, ?_, .cons (hget t) h4⟩
      simp only [List.mapM_cons, hf1, Sem.run_bind, Sem.run_pure, Result.andThen_ok]
      rw [h3]
      simp
    | cell t ty =>
      simp only [cRes, Option.bind_eq_some_iff] at hc
      obtain ⟨⟨a, n⟩, hp, hc⟩ := hc
      obtain ⟨ars', h1, rfl⟩ := Option.map_eq_some_iff.1 hc
      obtain ⟨d, m, hd, hm, rfl, rfl⟩ := partSz_some hp
      simp only [aRess, Option.bind_eq_some_iff] at ha
      obtain ⟨v, hv, ha⟩ := ha
      obtain ⟨vs', h2, rfl⟩ := Option.map_eq_some_iff.1 ha
      obtain ⟨cvs, h3, h4⟩ := aRes1_run h ht f hf1 hf2 h1 h2
      simp only [aRes1] at hv
      split at hv
      · rename_i A ver off hxe
        obtain ⟨cells, hr, hif⟩ := Option.bind_eq_some_iff.1 hv
        obtain ⟨hfit, hif⟩ := ite_some hif
        have hx := hget t
        rw [hxe] at hx
        obtain ⟨l, hl, hcx⟩ := hx.ptr_inv
        have : ∃ cv, (do loadVar ty (← asAddr (tmps.getD t undef)) : Sem Value).run P w = .ok cv w ∧ VRel ρ v cv := by
          unfold aPart at hif
          cases hagg : isAggD d with
          | true =>
            simp only [hagg, if_true] at hif hfit
            cases hif
            obtain ⟨cvs, h1, h2⟩ := run_loadCells_rel (P := P) (h.rowAt hr hl) hfit
            refine ⟨.agg cvs.toArray, ?_, .agg h2⟩
            simp [hcx, asAddr, loadVar, run_isAgg' hd, hagg, run_sizeOf' hm, h1]
          | false =>
            simp only [hagg, Bool.false_eq_true, if_false] at hif
            obtain ⟨cv, h1, h2⟩ := run_load_rel (P := P) (h.rowAt hr hl) hif
            refine ⟨cv, ?_, h2⟩
            simp only [hcx, asAddr, loadVar, Sem.run_bind, Sem.run_pure, Result.andThen_ok, run_isAgg' hd, hagg, Bool.false_eq_true, if_false, h1]
        obtain ⟨cv, h5, h6⟩ := this
        refine ⟨cv :: cvs, ?_, .cons h6 h4⟩
        simp only [List.mapM_cons, hf2, Sem.run_bind, Sem.run_pure, Result.andThen_ok] at h5 ⊢
        rw [h5]
        simp only [Result.andThen_ok]
        rw [h3]
        simp
      · cases hv
theorem results_run (h : HRel P B ρ H w) {fn : Func} {tm : List AVal} {tmps : Array Value} (ht : VRels ρ tm tmps.toList) {ars : List ARes} {vs : List AVal} (hc : cRes P fn.results.toList = some ars) (ha : aRess tm H ars = some vs) :
    ∃ cv, (results fn tmps).run P w = .ok cv w ∧ VRel ρ (tup vs) cv := by
  obtain ⟨cvs, h1, h2⟩ := aRes1_run h ht (fun
    | .tmp t => Pure.pure (tmps.getD t undef)
    | .cell a t => do loadVar t (← asAddr (tmps.getD a undef))) (fun _ => rfl) (fun _ _ => rfl) hc ha
  refine ⟨if h : cvs.toArray.size = 1 then cvs.toArray[0] else .tuple cvs.toArray, ?_, ?_⟩
  · unfold results
    rw [Array.mapM_eq_mapM_toList, Sem.run_bind, Sem.run_map]
    refine Eq.trans (congrArg (fun x => (Result.andThen (Result.andThen x _) _)) (Eq.trans ?_ h1)) ?_
    · rfl
    · simp only [Result.andThen_ok, Sem.run_pure]
  · have hl := h2.length
    cases h2 with
    | nil => exact .tuple .nil
    | cons h3 h4 =>
      cases h4 with
      | nil => simpa [tup] using h3
      | cons h5 h6 =>
        simp only [tup]
        rw [dif_neg (by simp)]
        exact .tuple (.cons h3 (.cons h5 h6))
theorem LeavesInM_marks {fn : Func} {tm : List AVal} {tmps : Array Value} {ars : List ARes} (hc : cRes P fn.results.toList = some ars) {R : Ending → World → Prop} : ∀ (ms : List Nat) (ds : List Deferred) (H H' : AHeap) (w : World), HRel P B ρ H w → VRels ρ tm tmps.toList →
    MarksRel ρ ms ds → aLeave ms H = some H' → (∀ w' vs, aRess tm H' ars = some vs → HRel P B ρ H' w' → ∀ cv, VRel ρ (tup vs) cv → R (.returned cv) w') → ∀ vs, aRess tm H' ars = some vs → LeavesInM (FW none) 0 P fn tmps R ds .returning w
  | [], _, H, H', w, h, ht, .nil, hl, hR, vs, hv => by
    simp [aLeave] at hl; subst hl
    obtain ⟨cv, h1, h2⟩ := results_run h ht hc hv
    exact ⟨cv, h1, hR w vs hv h cv h2⟩
  | M :: ms, _, H, H', w, h, ht, .cons hM hms, hl, hR, vs, hv => by
    simp only [aLeave] at hl
    split at hl
    · rename_i hg
      obtain ⟨h1, h2⟩ := h.leave hM hg
      exact ⟨by simp, .inl ⟨_, _, rfl, h1, LeavesInM_marks hc ms _ _ H' _ h2 ht hms hl hR vs hv⟩⟩
    · cases hl
def AEnds (ars : List ARes) (R : AVal → AHeap → Prop) : Exit → ASt → Prop
  | .normal, st | .ret, st => ∃ H' vs, aLeave st.marks st.H = some H' ∧ aRess st.tm H' ars = some vs ∧ R (tup vs) H'
  | _, _ => False
theorem ACalls.of_body {f : FuncId} {fn : Func} {c : Code} {ars : List ARes} {args : List AVal} {R : AVal → AHeap → Prop} (hf : P.funcs[f]? = some fn) (hb : fn.body = some c) (hr : cRes P fn.results.toList = some ars)
    (h : AWp P none c (AEnds ars R) { tm := args ++ List.replicate (fn.ntmps - args.length) aundef, H := H, marks := [] }) : ACalls P f args H R := by
  intro B ρ w cargs hH hargs
  refine callsIn_of_wp_marks (F := FW none) hf hb trivial ?_ rfl
  have hl := hargs.length
  have hst : StRel P B ρ { tm := args ++ List.replicate (fn.ntmps - args.length) aundef, H := H, marks := [] } { tmps := cargs.toArray ++ Array.replicate (fn.ntmps - cargs.toArray.size) undef, defers := [] } w := by
    refine ⟨?_, hH, .nil⟩
    have := hargs.append (VRels.replicate_raw (ρ := ρ) undef (fn.ntmps - args.length))
    simp only [Array.toList_append, List.toList_toArray, Array.toList_replicate, List.size_toArray, hl]
    exact this
  refine wpIn_mono (h B ρ _ w hst) fun e a w' hq => ?_
  obtain ⟨st', ρ', h1, h2, h3⟩ := hq
  have fin : ∀ H' vs, aLeave st'.marks st'.H = some H' → aRess st'.tm H' ars = some vs → R (tup vs) H' → LeavesInM (FW none) 0 P fn a.tmps (CPost P B ρ R) a.defers .returning w' := fun H' vs e1 e2 e3 =>
    LeavesInM_marks hr st'.marks a.defers st'.H H' w' h2.H h2.tm h2.marks e1 (fun w'' vs' e4 e5 cv e6 => by
      rw [e2] at e4; cases e4
      exact ⟨_, cv, H', ρ', rfl, e3, e6, e5, h3⟩) vs e2
  cases e with
  | normal => obtain ⟨H', vs, e1, e2, e3⟩ := h1; exact fin H' vs e1 e2 e3
  | ret => obtain ⟨H', vs, e1, e2, e3⟩ := h1; exact fin H' vs e1 e2 e3
  | _ => exact h1.elim
end Go.Vm
