/- The abstract machine, part 15: states, code, calls: what a run of code does, as it follows from the model's steps. -/
import Derived.Test.YtipmhhogebnpkaaGreatDoorK09
namespace Go.Vm
open Go

set_option linter.unusedVariables false
set_option linter.unusedSimpArgs false

variable {P : Program} {B : Base} {ρ ρ' : Ren} {H H' : AHeap} {w w' : World}

/-- Frames of a function's own (none), or of a round of a range over a function. -/
def FW (r : Option Nat) : Fence := { Fence.wide with round := r }

theorem FW_fn (r : Option Nat) (f : FuncId) : (FW r).fn f := trivial
@[simp] theorem FW_depth (r : Option Nat) : (FW r).depth = none := rfl
@[simp] theorem FW_round (r : Option Nat) : (FW r).round = r := rfl

theorem callsIn_FW {r : Option Nat} {n : Nat} {f : FuncId} {args : Array Value} {R : Ending → World → Prop} (h : CallsIn Fence.wide n P f args w R) : CallsIn (FW r) n P f args w R := h
theorem roundIn_FW {r : Option Nat} {n l : Nat} {f : FuncId} {tmps : Array Value} {a b : Code} {R : Ending → World → Prop} (h : RoundIn Fence.wide n P l f tmps a b w R) : RoundIn (FW r) n P l f tmps a b w R := h

structure ASt where
  tm : List AVal
  H : AHeap
  marks : List Nat
  deriving Inhabited

def ASt.put (st : ASt) (d : Option Nat) (v : AVal) : ASt :=
  match d with
  | some d => { st with tm := st.tm.set d v }
  | none => st

inductive MarksRel (ρ : Ren) : List Nat → List Deferred → Prop
  | nil : MarksRel ρ [] []
  | cons {M : Nat} {l : Loc} {ms : List Nat} {ds : List Deferred} (h : ρ M 0 = some l) (hs : MarksRel ρ ms ds) : MarksRel ρ (M :: ms) ({ target := .collected l.c, args := #[] } :: ds)

theorem MarksRel.mono (hle : ρ.le ρ') : ∀ {ms : List Nat} {ds : List Deferred}, MarksRel ρ ms ds → MarksRel ρ' ms ds
  | _, _, .nil => .nil
  | _, _, .cons h hs => .cons (hle _ _ _ h) (hs.mono hle)

structure StRel (P : Program) (B : Base) (ρ : Ren) (st : ASt) (a : Act) (w : World) : Prop where
  tm : VRels ρ st.tm a.tmps.toList
  H : HRel P B ρ st.H w
  marks : MarksRel ρ st.marks a.defers

theorem StRel.ev {st : ASt} {a : Act} (h : StRel P B ρ st a w) : EvOk ρ st.tm a.eval := fun x ax hx => by
  cases x with
  | tmp t =>
    simp [cOpd] at hx; subst hx
    simp only [Vm.ev, Act.eval, List.getD_eq_getElem?_getD, Array.getD_eq_getD_getElem?]
    cases hv : st.tm[t]? with
    | none =>
      have : a.tmps[t]? = none := by
        have h1 := h.tm.length
        have h2 := List.getElem?_eq_none_iff.1 hv
        rw [Array.getElem?_eq_none_iff]
        simp at h1; omega
      rw [this]; exact .raw _
    | some v =>
      obtain ⟨cv, h1, h2⟩ := h.tm.get _ _ hv
      rw [Array.getElem?_toList] at h1
      rw [h1]; exact h2
  | const v => simp [cOpd] at hx; subst hx; exact aconst_rel ρ v
  | global g => simp [cOpd] at hx; subst hx; exact .raw _
  | func f => simp [cOpd] at hx; subst hx; exact VRel.func (vs := []) .nil

theorem put_tm {st : ASt} {a : Act} (h : VRels ρ st.tm a.tmps.toList) (d : Option Nat) {v : AVal} {cv : Value} (hv : VRel ρ v cv) : VRels ρ (st.put d v).tm (a.put d cv).tmps.toList := by
  cases d with
  | none => exact h
  | some d => simpa [ASt.put, Act.put] using h.set hv d

theorem StRel.put {st : ASt} {a : Act} (h : StRel P B ρ st a w) (hle : ρ.le ρ') (d : Option Nat) {v : AVal} {cv : Value} (hv : VRel ρ' v cv) (hH : HRel P B ρ' H' w') :
    StRel P B ρ' ({ st with H := H' }.put d v) (a.put d cv) w' := by
  refine ⟨?_, ?_, ?_⟩
  · have := put_tm (st := { st with H := H' }) (h.tm.mono hle) d hv
    exact this
  · cases d <;> exact hH
  · have hm := h.marks.mono hle
    cases d <;> exact hm

/-! ### Function values, called -/

def CPost (P : Program) (B : Base) (ρ : Ren) (R : AVal → AHeap → Prop) : Ending → World → Prop := fun e w' => ∃ v cv H' ρ', e = .returned cv ∧ R v H' ∧ VRel ρ' v cv ∧ HRel P B ρ' H' w' ∧ ρ.le ρ'

def NextOk (P : Program) (nx : Next) (w : World) (Post : Ending → World → Prop) : Prop :=
  match nx with
  | .enter f as => CallsIn Fence.wide 0 P f as w Post
  | .round l f tmps a b => RoundIn Fence.wide 0 P l f tmps a b w Post
  | .value v => Post (.returned v) w
  | _ => False

/-- A call of a function value. -/
def ACallV (P : Program) (fv : AVal) (args : List AVal) (H : AHeap) (R : AVal → AHeap → Prop) : Prop :=
  ∀ B ρ w cf cargs, HRel P B ρ H w → VRel ρ fv cf → VRels ρ args cargs →
    ∃ d w0 nx w1, (Deferred.ofValue cf cargs.toArray).run P w = .ok d w0 ∧ (invoke d.target d.args).run P w0 = .ok nx w1 ∧ NextOk P nx w1 (CPost P B ρ R)

/-- A call of function f. -/
def ACalls (P : Program) (f : FuncId) (args : List AVal) (H : AHeap) (R : AVal → AHeap → Prop) : Prop :=
  ∀ B ρ w cargs, HRel P B ρ H w → VRels ρ args cargs → CallsIn Fence.wide 0 P f cargs.toArray w (CPost P B ρ R)

theorem ACalls.mono {f : FuncId} {args : List AVal} {R R' : AVal → AHeap → Prop} (h : ACalls P f args H R) (hr : ∀ v H', R v H' → R' v H') : ACalls P f args H R' :=
  fun B ρ w cargs h1 h2 => (h B ρ w cargs h1 h2).mono fun _ _ ⟨v, cv, H', ρ', a, b, c⟩ => ⟨v, cv, H', ρ', a, hr _ _ b, c⟩

/-- A function that is entered when it is called. -/
def GoFn (P : Program) (f : FuncId) : Prop := ∃ fn, P.funcs[f]? = some fn ∧ (fn.name == "runtime.NumGoroutine") = false ∧ fn.body.isSome = true

theorem run_callFunc {f : FuncId} (h : GoFn P f) (args : Array Value) : (callFunc f args).run P w = .ok (.enter f args) w := by
  obtain ⟨fn, h1, h2, h3⟩ := h
  have h3' : fn.body.isNone = false := by cases hb : fn.body <;> simp_all
  simp only [callFunc, Sem.run_bind, run_program, Result.andThen_ok, h1, h2, Bool.false_eq_true, if_false, h3', Sem.run_pure]

theorem ACalls.value {f : FuncId} {caps args : List AVal} {R : AVal → AHeap → Prop} (hf : GoFn P f) (h : ACalls P f (args ++ caps) H R) : ACallV P (.func (.func f) caps) args H R := by
  intro B ρ w cf cargs h1 h2 h3
  obtain ⟨vs, hvs, rfl⟩ := h2.func_inv
  refine ⟨_, w, .enter f (cargs ++ vs).toArray, w, by simp [Deferred.ofValue]; rfl, ?_, h B ρ w _ h1 (h3.append hvs)⟩
  simp only [invoke]
  have := run_callFunc (w := w) hf (cargs ++ vs).toArray
  simpa using this

theorem ACalls.bound {f : FuncId} {first args : List AVal} {R : AVal → AHeap → Prop} (hf : GoFn P f) (h : ACalls P f (first ++ args) H R) : ACallV P (.bound f first) args H R := by
  intro B ρ w cf cargs h1 h2 h3
  obtain ⟨vs, hvs, rfl⟩ := h2.bound_inv
  refine ⟨_, w, .enter f (vs ++ cargs).toArray, w, by simp [Deferred.ofValue]; rfl, ?_, h B ρ w _ h1 (hvs.append h3)⟩
  simp only [invoke]
  have := run_callFunc (w := w) hf (vs ++ cargs).toArray
  simpa using this

/-! ### Operations of a region, one behind the other -/

/-- Is an operation wanted? (none: cannot be told) -/
def awanted (g : Option (Nat × Bool)) (tm : List AVal) : Option Bool :=
  match g with
  | none => some true
  | some (d, b) => match tm[d]? with
    | some (.raw (.bool b')) => some (b' == b)
    | some (.raw (.tuple _)) => some false
    | _ => none

theorem awanted_run {ops : Array Oper} {o : Oper} {ao : AOper} {tm : List AVal} {tmps : Array Value} {b : Bool} (hc : cOper P ops o = some ao) (h : VRels ρ tm tmps.toList) (hw : awanted ao.guard tm = some b) :
    Region.wanted o (yielded ops tmps) = b := by
  unfold cOper at hc
  obtain ⟨a, ha, hc⟩ := Option.bind_eq_some_iff.1 hc
  obtain ⟨_, hc⟩ := ite_some hc
  split at hc
  · rename_i hg
    cases hc
    simp [awanted] at hw
    simp [Region.wanted, hg, hw]
  · rename_i j want hg
    obtain ⟨d, hd, rfl⟩ := Option.map_eq_some_iff.1 hc
    simp only [awanted] at hw
    split at hw
    · rename_i b' hv
      cases hw
      obtain ⟨cv, h1, h2⟩ := h.get _ _ hv
      rw [h2.raw_inv, Array.getElem?_toList] at h1
      simp only [Region.wanted, hg, yielded, hd, Option.bind_some, h1]
      rw [Bool.eq_iff_iff]; simp
    · rename_i vs hv
      cases hw
      obtain ⟨cv, h1, h2⟩ := h.get _ _ hv
      rw [h2.raw_inv, Array.getElem?_toList] at h1
      simp [Region.wanted, hg, yielded, hd, Option.bind_some, h1]
    · cases hw

theorem cOp'_some {o : Op} {a : AOp} (h : cOp' P o = some a) : (a = .bad ∨ cOp P o = some a) ∧ loud o = false ∨ cOp P o = some a := by
  unfold cOp' at h
  split at h
  · rename_i x hx; cases h; exact .inr hx
  · split at h
    · cases h
    · rename_i hl; cases h; exact .inl ⟨.inl rfl, by simpa using hl⟩

theorem loud_no {o : Op} {a : AOp} (h : cOp' P o = some a) : loud o = false := by
  rcases cOp'_some h with ⟨_, h1⟩ | h1
  · exact h1
  · cases o <;> first | rfl | (cases h1)

theorem cOper_some {ops : Array Oper} {o : Oper} {ao : AOper} (hc : cOper P ops o = some ao) : cOp' P o.op = some ao.op ∧ ao.dst = o.dst ∧ okCall o.op ao.op = true := by
  unfold cOper at hc
  obtain ⟨a, ha, hc⟩ := Option.bind_eq_some_iff.1 hc
  obtain ⟨hk, hc⟩ := ite_some hc
  split at hc
  · cases hc; exact ⟨ha, rfl, hk⟩
  · obtain ⟨d, hd, rfl⟩ := Option.map_eq_some_iff.1 hc; exact ⟨ha, rfl, hk⟩

theorem known {tm : List AVal} {v : AVal} {o : Op} {a : AOp} (h : cOp' P o = some a) (ha : aOp tm a H = some (v, H')) : cOp P o = some a := by
  rcases cOp'_some h with ⟨rfl | h1, _⟩ | h1
  · cases ha
  · exact h1
  · exact h1

theorem knownCall {o : Op} {f : AOpd} {args : List AOpd} (h : cOp' P o = some (.call f args)) : cOp P o = some (.call f args) := by
  rcases cOp'_some h with ⟨h1 | h1, _⟩ | h1
  · cases h1
  · exact h1
  · exact h1

theorem noDefer {o : Oper} {ao : AOp} (hc : cOp' P o.op = some ao) : ∀ c, o.op ≠ .defer c := fun c h => by have := loud_no hc; rw [h] at this; cases this

/-- The post of a piece of code over abstract states. -/
def AQ (P : Program) (B : Base) (ρ : Ren) (Q : Exit → ASt → Prop) : Exit → Act → World → Prop := fun e a w => ∃ st ρ', Q e st ∧ StRel P B ρ' st a w ∧ ρ.le ρ'

def AOps (P : Program) (r : Option Nat) (ops : Array Oper) (l : List Nat) (K : ASt → Prop) (st : ASt) : Prop :=
  ∀ B ρ a w, StRel P B ρ st a w → wpOpsIn (FW r) 0 P ops (AQ P B ρ fun e st => e = .normal ∧ K st) l a w

theorem wpOpsIn_mono {F : Fence} {n : Nat} {ops : Array Oper} {Q Q' : Exit → Act → World → Prop} (hq : ∀ e a w, Q e a w → Q' e a w) : ∀ (l : List Nat) (a : Act) (w : World), wpOpsIn F n P ops Q l a w → wpOpsIn F n P ops Q' l a w
  | [], a, w, h => hq _ _ _ h
  | i :: rest, a, w, h => by
    simp only [wpOpsIn] at h ⊢
    have ih := wpOpsIn_mono (F := F) (n := n) (ops := ops) hq rest
    cases ho : ops[i]? with
    | none => rw [ho] at h; exact ih _ _ h
    | some o =>
      rw [ho] at h
      simp only at h ⊢
      by_cases hw : Region.wanted o (yielded ops a.tmps) = true
      · rw [if_pos hw] at h ⊢
        obtain ⟨h1, h2⟩ := h
        refine ⟨h1, ?_⟩
        generalize (Oper.semAt F.round a.eval _).run P w = x at h2 ⊢
        cases x with
        | ok x w' =>
          cases x <;> simp only [Oper.uponIn] at h2 ⊢ <;> first
            | exact ih _ _ h2
            | exact ⟨h2.1, CallsIn.mono h2.2 fun e w'' he => by cases e <;> first | exact ih _ _ he | exact hq _ _ _ he | (obtain ⟨a0, w0, hx⟩ := he; exact ⟨a0, w0, hq _ _ _ hx⟩)⟩
            | exact ⟨h2.1, RowsIn.mono h2.2 fun _ _ he => ih _ _ he⟩
            | exact ⟨h2.1, RoundIn.mono h2.2 fun e w'' he => by cases e <;> first | exact ih _ _ he | exact hq _ _ _ he | (obtain ⟨a0, w0, hx⟩ := he; exact ⟨a0, w0, hq _ _ _ hx⟩)⟩
        | halt x w' => cases x <;> simp only [Oper.uponIn] at h2 ⊢ <;> first | exact hq _ _ _ h2 | exact h2
      · rw [if_neg hw] at h ⊢
        exact ⟨h.1, ih _ _ h.2⟩

/-- One operation has run. -/
theorem wpOpsIn_op {r : Option Nat} {ops : Array Oper} {o : Oper} {i : Nat} {rest : List Nat} {Q : Exit → Act → World → Prop} {a : Act} {nx : Next} {cv : Value} (ho : ops[i]? = some o) (hw : Region.wanted o (yielded ops a.tmps) = true)
    (hd : ∀ c, o.op ≠ .defer c) (hrun : (execOp a.eval o).run P w = .ok nx w') (hnx : nx = .value cv ∨ (nx = .skip ∧ cv = undef)) (h : wpOpsIn (FW r) 0 P ops Q rest (a.put o.dst cv) w') :
    wpOpsIn (FW r) 0 P ops Q (i :: rest) a w := by
  simp only [wpOpsIn, ho, hw, if_true, Oper.wpIn]
  refine ⟨fun _ _ => trivial, ?_⟩
  rw [Oper.semAt_eq _ _ _ hd, hrun]
  rcases hnx with rfl | ⟨rfl, rfl⟩
  · exact h
  · exact h

theorem AOps.nil {r : Option Nat} {ops : Array Oper} {K : ASt → Prop} {st : ASt} (h : K st) : AOps P r ops [] K st := fun _ _ _ _ hs => ⟨st, _, ⟨rfl, h⟩, hs, Ren.le_refl _⟩

/-- From a state on, weaker posts. -/
theorem AQ.le {B : Base} {ρ ρ' : Ren} (hle : ρ.le ρ') {Q : Exit → ASt → Prop} {e : Exit} {a : Act} {w : World} (h : AQ P B ρ' Q e a w) : AQ P B ρ Q e a w :=
  let ⟨st, ρ'', h1, h2, h3⟩ := h; ⟨st, ρ'', h1, h2, Ren.le_trans hle h3⟩

theorem AOps.op {r : Option Nat} {ops : Array Oper} {o : Oper} {ao : AOper} {i : Nat} {rest : List Nat} {K : ASt → Prop} {st : ASt} {v : AVal} (ho : ops[i]? = some o) (hc : cOper P ops o = some ao)
    (hw : awanted ao.guard st.tm = some true) (ha : aOp st.tm ao.op st.H = some (v, H')) (h : AOps P r ops rest K ({ st with H := H' }.put ao.dst v)) : AOps P r ops (i :: rest) K st := by
  intro B ρ a w hs
  obtain ⟨hc1, hc2, hc3⟩ := cOper_some hc
  obtain ⟨ρ', w', nx, cv, h1, h2, h3, h4, h5, _⟩ := aOp_sound hs.H hs.ev (known hc1 ha) ha
  refine wpOpsIn_op ho (awanted_run hc hs.tm hw) (noDefer hc1) h1 h2 ?_
  have := h B ρ' _ w' (hs.put h5 ao.dst h3 h4)
  rw [hc2] at this
  exact wpOpsIn_mono (fun e a w hq => hq.le h5) _ _ _ this

theorem AOps.skip {r : Option Nat} {ops : Array Oper} {o : Oper} {ao : AOper} {i : Nat} {rest : List Nat} {K : ASt → Prop} {st : ASt} (ho : ops[i]? = some o) (hc : cOper P ops o = some ao)
    (hw : awanted ao.guard st.tm = some false) (h : AOps P r ops rest K (st.put ao.dst aundef)) : AOps P r ops (i :: rest) K st := by
  intro B ρ a w hs
  obtain ⟨hc1, hc2, hc3⟩ := cOper_some hc
  simp only [wpOpsIn, ho, awanted_run hc hs.tm hw, Bool.false_eq_true, if_false]
  refine ⟨fun _ _ => trivial, ?_⟩
  have := h B ρ (a.put o.dst undef) w (by
    have := hs.put (H' := st.H) (w' := w) (Ren.le_refl ρ) ao.dst (v := aundef) (cv := undef) (.raw _) hs.H
    rw [hc2] at this ⊢
    exact this)
  exact this

theorem cOp_call {o : Oper} {f : AOpd} {args : List AOpd} (hk : okCall o.op (.call f args) = true) (hc : cOp P o.op = some (.call f args)) :
    (∃ c x, o.op = .call c ∧ c.callee = .value x ∧ cOpd x = some f ∧ cOpds c.args.toList = some args) ∨
    ∃ c r m as, o.op = .call c ∧ c.callee = .invoke (.tmp r) m ∧ f = .disp (methTab P m) r ∧ args = .recv r :: as ∧ cOpds c.args.toList = some as := by
  cases hop : o.op with
  | call c =>
    rw [hop] at hc hk
    have hc' : cCall P c = some (.call f args) := hc
    unfold cCall at hc'
    split at hc'
    · rename_i x hx
      obtain ⟨g, h1, h2⟩ := Option.bind_eq_some_iff.1 hc'
      obtain ⟨as, h3, h4⟩ := Option.map_eq_some_iff.1 h2
      cases h4
      exact .inl ⟨c, x, rfl, hx, h1, h3⟩
    · rename_i r m hx
      obtain ⟨as, h3, h4⟩ := Option.map_eq_some_iff.1 hc'
      cases h4
      exact .inr ⟨c, r, m, as, rfl, hx, rfl, rfl, h3⟩
    · cases hc'
    · rename_i b hx
      simp [okCall, hx] at hk
  | _ => rw [hop] at hk; simp [okCall] at hk

/-- What the table of a method's functions says. -/
structure MethFact (P : Program) (m : String) (t f : Nat) : Prop where
  info : ∃ i x, P.info? t = some i ∧ i.methods.find? (·.name == m) = some x ∧ x.path = #[] ∧ x.func = some (f, false)
  struct : ∃ fs, P.underlying t = some (.struct fs)

theorem methTab_mem {m : String} {t f : Nat} (h : (t, f) ∈ methTab P m) : MethFact P m t f := by
  unfold methTab at h
  obtain ⟨t', _, h⟩ := List.mem_filterMap.1 h
  obtain ⟨i, hi, h⟩ := Option.bind_eq_some_iff.1 h
  obtain ⟨x, hx, h⟩ := Option.bind_eq_some_iff.1 h
  split at h
  · rename_i hp
    obtain ⟨⟨f', p⟩, hf, h⟩ := Option.bind_eq_some_iff.1 h
    dsimp only at h
    split at h
    · rename_i fs hu
      split at h
      · cases h
      · rename_i hpp
        cases h
        have hpp' : p = false := by simpa using hpp
        subst hpp'
        exact ⟨⟨i, x, hi, hx, by simpa using hp, hf⟩, fs, hu⟩
    · cases h
  · cases h

theorem dispF_func : ∀ {tab : List (Nat × Nat)} {t : Nat}, dispF tab t = aundef ∨ ∃ f, (t, f) ∈ tab ∧ dispF tab t = .func (.func f) []
  | [], t => .inl rfl
  | (t', f) :: r, t => by
    unfold dispF
    split
    · rename_i e; subst e; exact .inr ⟨f, List.mem_cons_self .., rfl⟩
    · rcases dispF_func (tab := r) (t := t) with h | ⟨g, h1, h2⟩
      · exact .inl h
      · exact .inr ⟨g, List.mem_cons_of_mem _ h1, h2⟩

theorem MethFact.run {m : String} {t f : Nat} (h : MethFact P m t f) (v : Value) (n : Nat) (hn : n ≠ 0) : (method n t v m).run P w = .ok (f, v) w := by
  obtain ⟨⟨i, x, h1, h2, h3, h4⟩, fs, h5⟩ := h
  obtain ⟨k, rfl⟩ : ∃ k, n = k + 1 := ⟨n - 1, by omega⟩
  simp [method, run_typeInfo' h1, h2, h3, h4, follow, receiverAt, run_underlying' h5, Place.get]

/-- A call of nothing is no call. -/
theorem ACallV.noCall {args : List AVal} {R : AVal → AHeap → Prop} (h : ACallV P aundef args H R) (hH : HRel P B ρ H w) {cargs : List Value} (ha : VRels ρ args cargs) : False := by
  obtain ⟨d, w0, nx, w1, h1, _⟩ := h B ρ w undef cargs hH (.raw _) ha
  simp [undef, Deferred.ofValue] at h1

/-- A call of a function value. -/
theorem AOps.call {r : Option Nat} {ops : Array Oper} {o : Oper} {ao : AOper} {i : Nat} {rest : List Nat} {K : ASt → Prop} {st : ASt} {f : AOpd} {args : List AOpd} {R : AVal → AHeap → Prop} (ho : ops[i]? = some o) (hc : cOper P ops o = some ao)
    (hw : awanted ao.guard st.tm = some true) (hop : ao.op = .call f args) (hcall : ACallV P (ev st.tm f) (args.map (ev st.tm)) st.H R)
    (h : ∀ v H', R v H' → AOps P r ops rest K ({ st with H := H' }.put ao.dst v)) : AOps P r ops (i :: rest) K st := by
  intro B ρ a w hs
  obtain ⟨hc1, hc2, hc3⟩ := cOper_some hc
  rw [hop] at hc1 hc3
  obtain ⟨nx, w1, hrun, h3⟩ : ∃ nx w1, (execOp a.eval o).run P w = .ok nx w1 ∧ NextOk P nx w1 (CPost P B ρ R) := by
    rcases cOp_call hc3 (knownCall hc1) with ⟨c, x, e1, e2, e3, e4⟩ | ⟨c, x, m, as, e1, e2, rfl, rfl, e4⟩
    · obtain ⟨d, w0, nx, w1, h1, h2, h3⟩ := hcall B ρ w (a.eval x) (c.args.toList.map a.eval) hs.H (hs.ev _ _ e3) (cOpds_rel hs.ev e4)
      have hargs : (c.args.toList.map a.eval).toArray = c.args.map a.eval := by rw [← Array.toList_map, Array.toArray_toList]
      rw [hargs] at h1
      exact ⟨nx, w1, by simp only [execOp, e1, resolve, e2, Sem.run_bind, h1, Result.andThen_ok, h2], h3⟩
    · have hx : VRel ρ (ev st.tm (.t x)) (a.eval (.tmp x)) := hs.ev _ _ rfl
      have hrel := cOpds_rel hs.ev e4
      have hargs : (c.args.toList.map a.eval).toArray = c.args.map a.eval := by rw [← Array.toList_map, Array.toArray_toList]
      simp only [List.map_cons] at hcall
      have hev : ev st.tm (.t x) = st.tm.getD x aundef := rfl
      cases htm : st.tm.getD x aundef with
      | iface t v =>
        have e5 : ev st.tm (.disp (methTab P m) x) = dispF (methTab P m) t := by simp only [ev, htm]
        have e6 : ev st.tm (.recv x) = v := by simp only [ev, htm]
        rw [hev, htm] at hx
        obtain ⟨cv, hcv, hcx⟩ := hx.iface_inv
        rw [e5, e6] at hcall
        rcases dispF_func (tab := methTab P m) (t := t) with h0 | ⟨f, hf, h0⟩
        · rw [h0] at hcall
          exact (hcall.noCall hs.H (.cons hcv hrel)).elim
        · rw [h0] at hcall
          obtain ⟨d, w0, nx, w1, h1, h2, h3⟩ := hcall B ρ w (.func (.func f) #[] #[]) (cv :: c.args.toList.map a.eval) hs.H (.func (vs := []) .nil) (.cons hcv hrel)
          simp only [Deferred.ofValue, Sem.run_pure, Result.ok.injEq] at h1
          obtain ⟨rfl, rfl⟩ := h1
          refine ⟨nx, w1, ?_, h3⟩
          simp only [invoke] at h2
          have hm := (methTab_mem hf).run (w := w) cv (P.types.size + Made.depth) (by unfold Made.depth; omega)
          simp only [execOp, e1, resolve, e2, Sem.run_bind, Sem.run_pure, Result.andThen_ok, invoke, hcx, callMethod, run_program]
          simp [hm, ← hargs] at h2 ⊢
          rw [List.take_of_length_le (by simp)]
          exact h2
      | _ =>
        have e5 : ev st.tm (.disp (methTab P m) x) = aundef := by simp only [ev, htm]
        have e6 : ev st.tm (.recv x) = aundef := by simp only [ev, htm]
        rw [e5, e6] at hcall
        exact (hcall.noCall hs.H (.cons (.raw _) hrel)).elim
  simp only [wpOpsIn, ho, awanted_run hc hs.tm hw, if_true, Oper.wpIn]
  refine ⟨fun _ _ => trivial, ?_⟩
  rw [Oper.semAt_eq _ _ _ (noDefer hc1), hrun]
  have post : ∀ e w'', CPost P B ρ R e w'' → match e with
      | .returned v => wpOpsIn (FW r) 0 P ops (AQ P B ρ fun e st => e = .normal ∧ K st) rest (a.put o.dst v) w''
      | .panicked chain => AQ P B ρ (fun e st => e = .normal ∧ K st) (.panic chain) a w''
      | .outgrown => LetsOut (AQ P B ρ fun e st => e = .normal ∧ K st) := fun e w'' hp => by
    obtain ⟨v, cv, H', ρ', rfl, hR, hv, hH, hle⟩ := hp
    have := h v H' hR B ρ' _ w'' (hs.put hle ao.dst hv hH)
    rw [hc2] at this
    exact wpOpsIn_mono (fun e a w hq => hq.le hle) _ _ _ this
  cases nx <;> simp only [NextOk] at h3
  · have := post _ _ h3
    exact this
  · exact ⟨fun h => by simp at h, CallsIn.mono (callsIn_FW h3) fun e w'' hp => by have := post e w'' hp; cases e <;> exact this⟩
  · exact ⟨fun h => by simp at h, RoundIn.mono (roundIn_FW h3) fun e w'' hp => by have := post e w'' hp; cases e <;> exact this⟩

end Go.Vm
