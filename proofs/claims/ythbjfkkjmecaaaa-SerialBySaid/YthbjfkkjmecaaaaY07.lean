/- The abstract machine, part 15: states, code, calls: what a run of code does, as it follows from the model's steps. -/
import Derived.Test.YthbjfkkjmecaaaaY06
set_option linter.unusedVariables false
set_option linter.unusedSimpArgs false
namespace Go.Vm
open Go
section
variable {P : Program} {B : Base} {ρ ρ' : Ren} {H H' : zz6} {w w' : World}
def FW (r : Option Nat) : Fence := { Fence.wide with round := r }
theorem yj1 (r : Option Nat) (f : FuncId) : (FW r).fn f := trivial
@[simp] theorem yjb (r : Option Nat) : (FW r).depth = none := rfl
@[simp] theorem yjq (r : Option Nat) : (FW r).round = r := rfl
theorem zpj {r : Option Nat} {n : Nat} {f : FuncId} {args : Array Value} {R : Ending → World → Prop} (h : CallsIn Fence.wide n P f args w R) : CallsIn (FW r) n P f args w R := h
theorem zd4 {r : Option Nat} {n l : Nat} {f : FuncId} {tmps : Array Value} {a b : Code} {R : Ending → World → Prop} (h : RoundIn Fence.wide n P l f tmps a b w R) : RoundIn (FW r) n P l f tmps a b w R := h
structure ASt where
 tm : List AVal
 H : zz6
 marks : List Nat
 deriving Inhabited
def ASt.put (st : ASt) (d : Option Nat) (v : AVal) : ASt :=
 match d with
 | some d => { st with tm := st.tm.set d v }
 | none => st
inductive zvj (ρ : Ren) : List Nat → List Deferred → Prop
 | nil : zvj ρ [] []
 | cons {M : Nat} {l : Loc} {ms : List Nat} {ds : List Deferred} (h : ρ M 0 = some l) (hs : zvj ρ ms ds) : zvj ρ (M :: ms) ({ target := .collected l.c, args := #[] } :: ds)
theorem zvj.mono (hle : ρ.le ρ') : ∀ {ms : List Nat} {ds : List Deferred}, zvj ρ ms ds → zvj ρ' ms ds
 | _, _, .nil => .nil
 | _, _, .cons h hs => .cons (hle _ _ _ h) (hs.mono hle)
structure zv7 (P : Program) (B : Base) (ρ : Ren) (st : ASt) (a : Act) (w : World) : Prop where
 tm : VRels ρ st.tm a.tmps.toList
 H : HRel P B ρ st.H w
 marks : zvj ρ st.marks a.defers
theorem zv7.ev {st : ASt} {a : Act} (h : zv7 P B ρ st a w) : zvg ρ st.tm a.eval := fun x ax hx => by
 cases x with
 | tmp t =>
  simp [zxt] at hx; subst hx
  simp only [Vm.ev, Act.eval, List.getD_eq_getElem?_getD, Array.getD_eq_getD_getElem?]
  cases hv : st.tm[t]? with
  | none =>
   have : a.tmps[t]? = none := by
    have h1 := h.tm.length
    have h2 := List.getElem?_eq_none_iff.1 hv
    rw [Array.getElem?_eq_none_iff]
    simp at h1; omega
   rw [this]; exact .raw _
  | some v =>
   obtain ⟨cv, h1, h2⟩ := h.tm.get _ _ hv
   rw [Array.getElem?_toList] at h1
   rw [h1]; exact h2
 | const v => simp [zxt] at hx; subst hx; exact zyl ρ v
 | global g => simp [zxt] at hx
 | func f => simp [zxt] at hx; subst hx; exact VRel.func (vs := []) .nil
theorem zca {st : ASt} {a : Act} (h : VRels ρ st.tm a.tmps.toList) (d : Option Nat) {v : AVal} {cv : Value} (hv : VRel ρ v cv) : VRels ρ (st.put d v).tm (a.put d cv).tmps.toList := by
 cases d with
 | none => exact h
 | some d => simpa [ASt.put, Act.put] using h.set hv d
theorem zv7.put {st : ASt} {a : Act} (h : zv7 P B ρ st a w) (hle : ρ.le ρ') (d : Option Nat) {v : AVal} {cv : Value} (hv : VRel ρ' v cv) (hH : HRel P B ρ' H' w') :
  zv7 P B ρ' ({ st with H := H' }.put d v) (a.put d cv) w' := by
 refine ⟨?_, ?_, ?_⟩
 ·have := zca (st := { st with H := H' }) (h.tm.mono hle) d hv
  exact this
 ·cases d <;> exact hH
 ·have hm := h.marks.mono hle
  cases d <;> exact hm
def ywv (P : Program) (B : Base) (ρ : Ren) (R : AVal → zz6 → Prop) : Ending → World → Prop := fun e w' => ∃ v cv H' ρ', e = .returned cv ∧ R v H' ∧ VRel ρ' v cv ∧ HRel P B ρ' H' w' ∧ ρ.le ρ'
def ywh (P : Program) (nx : Next) (w : World) (Post : Ending → World → Prop) : Prop :=
 match nx with
 | .enter f as => CallsIn Fence.wide 0 P f as w Post
 | .round l f tmps a b => RoundIn Fence.wide 0 P l f tmps a b w Post
 | .value v => Post (.returned v) w
 | _ => False
def zbj (P : Program) (fv : AVal) (args : List AVal) (H : zz6) (R : AVal → zz6 → Prop) : Prop :=
 ∀ B ρ w cf cargs, HRel P B ρ H w → VRel ρ fv cf → VRels ρ args cargs →
  ∃ d w0 nx w1, (Deferred.ofValue cf cargs.toArray).run P w = .ok d w0 ∧ (invoke d.target d.args).run P w0 = .ok nx w1 ∧ ywh P nx w1 (ywv P B ρ R)
def zyp (P : Program) (f : FuncId) (args : List AVal) (H : zz6) (R : AVal → zz6 → Prop) : Prop :=
 ∀ B ρ w cargs, HRel P B ρ H w → VRels ρ args cargs → CallsIn Fence.wide 0 P f cargs.toArray w (ywv P B ρ R)
theorem zyp.mono {f : FuncId} {args : List AVal} {R R' : AVal → zz6 → Prop} (h : zyp P f args H R) (hr : ∀ v H', R v H' → R' v H') : zyp P f args H R' :=
 fun B ρ w cargs h1 h2 => (h B ρ w cargs h1 h2).mono fun _ _ ⟨v, cv, H', ρ', a, b, c⟩ => ⟨v, cv, H', ρ', a, hr _ _ b, c⟩
def yyj (P : Program) (f : FuncId) : Prop := ∃ fn, P.funcs[f]? = some fn ∧ (fn.name == "runtime.NumGoroutine") = false ∧ fn.body.isSome = true
theorem zj4 {f : FuncId} (h : yyj P f) (args : Array Value) : (callFunc f args).run P w = .ok (.enter f args) w := by
 obtain ⟨fn, h1, h2, h3⟩ := h
 have h3' : fn.body.isNone = false := by cases hb : fn.body <;> simp_all
 simp only [callFunc, Sem.run_bind, run_program, Result.andThen_ok, h1, h2, Bool.false_eq_true, if_false, h3', Sem.run_pure]
theorem zyp.value {f : FuncId} {caps args : List AVal} {R : AVal → zz6 → Prop} (hf : yyj P f) (h : zyp P f (args ++ caps) H R) : zbj P (.func (.func f) caps) args H R := by
 intro B ρ w cf cargs h1 h2 h3
 obtain ⟨vs, hvs, rfl⟩ := h2.func_inv
 refine ⟨_, w, .enter f (cargs ++ vs).toArray, w, by simp [Deferred.ofValue]; rfl, ?_, h B ρ w _ h1 (h3.append hvs)⟩
 simp only [invoke]
 have := zj4 (w := w) hf (cargs ++ vs).toArray
 simpa using this
def zy6 (g : Option (Nat × Bool)) (tm : List AVal) : Option Bool :=
 match g with
 | none => some true
 | some (d, b) => match tm[d]? with
  | some (.raw (.bool b')) => some (b' == b)
  | some (.raw (.tuple _)) => some false
  | _ => none
theorem zw2 {ops : Array Oper} {o : Oper} {ao : zzu} {tm : List AVal} {tmps : Array Value} {b : Bool} (hc : zkr P ops o = some ao) (h : VRels ρ tm tmps.toList) (hw : zy6 ao.guard tm = some b) :
  Region.wanted o (yielded ops tmps) = b := by
 unfold zkr at hc
 obtain ⟨a, ha, hc⟩ := Option.bind_eq_some_iff.1 hc
 obtain ⟨_, hc⟩ := zyh hc
 split at hc
 ·rename_i hg
  cases hc
  simp [zy6] at hw
  simp [Region.wanted, hg, hw]
 ·rename_i j want hg
  obtain ⟨d, hd, rfl⟩ := Option.map_eq_some_iff.1 hc
  simp only [zy6] at hw
  split at hw
  ·rename_i b' hv
   cases hw
   obtain ⟨cv, h1, h2⟩ := h.get _ _ hv
   rw [h2.raw_inv, Array.getElem?_toList] at h1
   simp only [Region.wanted, hg, yielded, hd, Option.bind_some, h1]
   rw [Bool.eq_iff_iff]; simp
  ·rename_i vs hv
   cases hw
   obtain ⟨cv, h1, h2⟩ := h.get _ _ hv
   rw [h2.raw_inv, Array.getElem?_toList] at h1
   simp [Region.wanted, hg, yielded, hd, Option.bind_some, h1]
  ·cases hw
theorem zb7 {o : Op} {a : AOp} (h : ywk P o = some a) : (a = .bad ∨ cOp P o = some a) ∧ yja o = false ∨ cOp P o = some a := by
 unfold ywk at h
 split at h
 ·rename_i x hx; cases h; exact .inr hx
 ·split at h
  ·cases h
  ·rename_i hl; cases h; exact .inl ⟨.inl rfl, by simpa using hl⟩
theorem zaj {o : Op} {a : AOp} (h : ywk P o = some a) : yja o = false := by
 rcases zb7 h with ⟨_, h1⟩ | h1
 ·exact h1
 ·cases o <;> first | rfl | (cases h1)
theorem zqs {ops : Array Oper} {o : Oper} {ao : zzu} (hc : zkr P ops o = some ao) : ywk P o.op = some ao.op ∧ ao.dst = o.dst ∧ zpc o.op ao.op = true := by
 unfold zkr at hc
 obtain ⟨a, ha, hc⟩ := Option.bind_eq_some_iff.1 hc
 obtain ⟨hk, hc⟩ := zyh hc
 split at hc
 ·cases hc; exact ⟨ha, rfl, hk⟩
 ·obtain ⟨d, hd, rfl⟩ := Option.map_eq_some_iff.1 hc; exact ⟨ha, rfl, hk⟩
theorem yw0 {tm : List AVal} {v : AVal} {o : Op} {a : AOp} (h : ywk P o = some a) (ha : aOp tm a H = some (v, H')) : cOp P o = some a := by
 rcases zb7 h with ⟨rfl | h1, _⟩ | h1
 ·cases ha
 ·exact h1
 ·exact h1
theorem yza {o : Op} {f : AOpd} {args : List AOpd} (h : ywk P o = some (.call f args)) : cOp P o = some (.call f args) := by
 rcases zb7 h with ⟨h1 | h1, _⟩ | h1
 ·cases h1
 ·exact h1
 ·exact h1
theorem zu0 {o : Oper} {ao : AOp} (hc : ywk P o.op = some ao) : ∀ c, o.op ≠ .defer c := fun c h => by have := zaj hc; rw [h] at this; cases this
def AQ (P : Program) (B : Base) (ρ : Ren) (Q : Exit → ASt → Prop) : Exit → Act → World → Prop := fun e a w => ∃ st ρ', Q e st ∧ zv7 P B ρ' st a w ∧ ρ.le ρ'
def zjw (P : Program) (r : Option Nat) (ops : Array Oper) (l : List Nat) (K : ASt → Prop) (st : ASt) : Prop :=
 ∀ B ρ a w, zv7 P B ρ st a w → wpOpsIn (FW r) 0 P ops (AQ P B ρ fun e st => e = .normal ∧ K st) l a w
theorem zxv {F : Fence} {n : Nat} {ops : Array Oper} {Q Q' : Exit → Act → World → Prop} (hq : ∀ e a w, Q e a w → Q' e a w) : ∀ (l : List Nat) (a : Act) (w : World), wpOpsIn F n P ops Q l a w → wpOpsIn F n P ops Q' l a w
 | [], a, w, h => hq _ _ _ h
 | i :: rest, a, w, h => by
  simp only [wpOpsIn] at h ⊢
  have ih := zxv (F := F) (n := n) (ops := ops) hq rest
  cases ho : ops[i]? with
  | none => rw [ho] at h; exact ih _ _ h
  | some o =>
   rw [ho] at h
   simp only at h ⊢
   by_cases hw : Region.wanted o (yielded ops a.tmps) = true
   ·rw [if_pos hw] at h ⊢
    obtain ⟨h1, h2⟩ := h
    refine ⟨h1, ?_⟩
    generalize (Oper.semAt F.round a.eval _).run P w = x at h2 ⊢
    cases x with
    | ok x w' =>
     cases x <;> simp only [Oper.uponIn] at h2 ⊢ <;> first
      | exact ih _ _ h2
      | exact ⟨h2.1, CallsIn.mono h2.2 fun e w'' he => by cases e <;> first | exact ih _ _ he | exact hq _ _ _ he | (obtain ⟨a0, w0, hx⟩ := he; exact ⟨a0, w0, hq _ _ _ hx⟩)⟩
      | exact ⟨h2.1, RowsIn.mono h2.2 fun _ _ he => ih _ _ he⟩
      | exact ⟨h2.1, RoundIn.mono h2.2 fun e w'' he => by cases e <;> first | exact ih _ _ he | exact hq _ _ _ he | (obtain ⟨a0, w0, hx⟩ := he; exact ⟨a0, w0, hq _ _ _ hx⟩)⟩
    | halt x w' => cases x <;> simp only [Oper.uponIn] at h2 ⊢ <;> first | exact hq _ _ _ h2 | exact h2
   ·rw [if_neg hw] at h ⊢
    exact ⟨h.1, ih _ _ h.2⟩
theorem zba {r : Option Nat} {ops : Array Oper} {o : Oper} {i : Nat} {rest : List Nat} {Q : Exit → Act → World → Prop} {a : Act} {nx : Next} {cv : Value} (ho : ops[i]? = some o) (hw : Region.wanted o (yielded ops a.tmps) = true)
  (hd : ∀ c, o.op ≠ .defer c) (hrun : (execOp a.eval o).run P w = .ok nx w') (hnx : nx = .value cv ∨ (nx = .skip ∧ cv = undef)) (h : wpOpsIn (FW r) 0 P ops Q rest (a.put o.dst cv) w') :
  wpOpsIn (FW r) 0 P ops Q (i :: rest) a w := by
 simp only [wpOpsIn, ho, hw, if_true, Oper.wpIn]
 refine ⟨fun _ _ => trivial, ?_⟩
 rw [Oper.semAt_eq _ _ _ hd, hrun]
 rcases hnx with rfl | ⟨rfl, rfl⟩
 ·exact h
 ·exact h
theorem zjw.nil {r : Option Nat} {ops : Array Oper} {K : ASt → Prop} {st : ASt} (h : K st) : zjw P r ops [] K st := fun _ _ _ _ hs => ⟨st, _, ⟨rfl, h⟩, hs, Ren.le_refl _⟩
theorem AQ.le {B : Base} {ρ ρ' : Ren} (hle : ρ.le ρ') {Q : Exit → ASt → Prop} {e : Exit} {a : Act} {w : World} (h : AQ P B ρ' Q e a w) : AQ P B ρ Q e a w :=
 let ⟨st, ρ'', h1, h2, h3⟩ := h; ⟨st, ρ'', h1, h2, Ren.le_trans hle h3⟩
theorem zjw.op {r : Option Nat} {ops : Array Oper} {o : Oper} {ao : zzu} {i : Nat} {rest : List Nat} {K : ASt → Prop} {st : ASt} {v : AVal} (ho : ops[i]? = some o) (hc : zkr P ops o = some ao)
  (hw : zy6 ao.guard st.tm = some true) (ha : aOp st.tm ao.op st.H = some (v, H')) (h : zjw P r ops rest K ({ st with H := H' }.put ao.dst v)) : zjw P r ops (i :: rest) K st := by
 intro B ρ a w hs
 obtain ⟨hc1, hc2, hc3⟩ := zqs hc
 obtain ⟨ρ', w', nx, cv, h1, h2, h3, h4, h5, _⟩ := zac hs.H hs.ev (yw0 hc1 ha) ha
 refine zba ho (zw2 hc hs.tm hw) (zu0 hc1) h1 h2 ?_
 have := h B ρ' _ w' (hs.put h5 ao.dst h3 h4)
 rw [hc2] at this
 exact zxv (fun e a w hq => hq.le h5) _ _ _ this
theorem zjw.skip {r : Option Nat} {ops : Array Oper} {o : Oper} {ao : zzu} {i : Nat} {rest : List Nat} {K : ASt → Prop} {st : ASt} (ho : ops[i]? = some o) (hc : zkr P ops o = some ao)
  (hw : zy6 ao.guard st.tm = some false) (h : zjw P r ops rest K (st.put ao.dst zzc)) : zjw P r ops (i :: rest) K st := by
 intro B ρ a w hs
 obtain ⟨hc1, hc2, hc3⟩ := zqs hc
 simp only [wpOpsIn, ho, zw2 hc hs.tm hw, Bool.false_eq_true, if_false]
 refine ⟨fun _ _ => trivial, ?_⟩
 have := h B ρ (a.put o.dst undef) w (by
  have := hs.put (H' := st.H) (w' := w) (Ren.le_refl ρ) ao.dst (v := zzc) (cv := undef) (.raw _) hs.H
  rw [hc2] at this ⊢
  exact this)
 exact this
theorem yxd {o : Oper} {f : AOpd} {args : List AOpd} (hk : zpc o.op (.call f args) = true) (hc : cOp P o.op = some (.call f args)) :
  ∃ c x, o.op = .call c ∧ c.callee = .value x ∧ zxt x = some f ∧ zpq c.args.toList = some args := by
 cases hop : o.op with
 | call c =>
  rw [hop] at hc hk
  cases hx : c.callee with
  | value x =>
   have hc' : zf8 P c = some (.call f args) := hc
   unfold zf8 at hc'
   rw [hx] at hc'
   obtain ⟨g, h1, h2⟩ := Option.bind_eq_some_iff.1 hc'
   obtain ⟨as, h3, h4⟩ := Option.map_eq_some_iff.1 h2
   cases h4
   exact ⟨c, x, rfl, hx, h1, h3⟩
  | invoke _ _ => simp [zpc, hx] at hk
  | builtin _ => simp [zpc, hx] at hk
 | _ => rw [hop] at hk; simp [zpc] at hk
theorem zjw.call {r : Option Nat} {ops : Array Oper} {o : Oper} {ao : zzu} {i : Nat} {rest : List Nat} {K : ASt → Prop} {st : ASt} {f : AOpd} {args : List AOpd} {R : AVal → zz6 → Prop} (ho : ops[i]? = some o) (hc : zkr P ops o = some ao)
  (hw : zy6 ao.guard st.tm = some true) (hop : ao.op = .call f args) (hcall : zbj P (ev st.tm f) (args.map (ev st.tm)) st.H R)
  (h : ∀ v H', R v H' → zjw P r ops rest K ({ st with H := H' }.put ao.dst v)) : zjw P r ops (i :: rest) K st := by
 intro B ρ a w hs
 obtain ⟨hc1, hc2, hc3⟩ := zqs hc
 rw [hop] at hc1 hc3
 obtain ⟨c, x, e1, e2, e3, e4⟩ := yxd hc3 (yza hc1)
 obtain ⟨d, w0, nx, w1, h1, h2, h3⟩ := hcall B ρ w (a.eval x) (c.args.toList.map a.eval) hs.H (hs.ev _ _ e3) (zb9 hs.ev e4)
 have hargs : (c.args.toList.map a.eval).toArray = c.args.map a.eval := by rw [← Array.toList_map, Array.toArray_toList]
 rw [hargs] at h1
 have hrun : (execOp a.eval o).run P w = .ok nx w1 := by
  simp only [execOp, e1, resolve, e2, Sem.run_bind, h1, Result.andThen_ok, h2]
 simp only [wpOpsIn, ho, zw2 hc hs.tm hw, if_true, Oper.wpIn]
 refine ⟨fun _ _ => trivial, ?_⟩
 rw [Oper.semAt_eq _ _ _ (zu0 hc1), hrun]
 have post : ∀ e w'', ywv P B ρ R e w'' → match e with
   | .returned v => wpOpsIn (FW r) 0 P ops (AQ P B ρ fun e st => e = .normal ∧ K st) rest (a.put o.dst v) w''
   | .panicked chain => AQ P B ρ (fun e st => e = .normal ∧ K st) (.panic chain) a w''
   | .outgrown => LetsOut (AQ P B ρ fun e st => e = .normal ∧ K st) := fun e w'' hp => by
  obtain ⟨v, cv, H', ρ', rfl, hR, hv, hH, hle⟩ := hp
  have := h v H' hR B ρ' _ w'' (hs.put hle ao.dst hv hH)
  rw [hc2] at this
  exact zxv (fun e a w hq => hq.le hle) _ _ _ this
 cases nx <;> simp only [ywh] at h3
 ·have := post _ _ h3
  exact this
 ·exact ⟨fun h => by simp at h, CallsIn.mono (zpj h3) fun e w'' hp => by have := post e w'' hp; cases e <;> exact this⟩
 ·exact ⟨fun h => by simp at h, RoundIn.mono (zd4 h3) fun e w'' hp => by have := post e w'' hp; cases e <;> exact this⟩
end
section
variable {P : Program} {B : Base} {ρ ρ' : Ren} {H H' : zz6} {w w' : World} {r : Option Nat} {st : ASt} {Q Q' : Exit → ASt → Prop}
def AWp (P : Program) (r : Option Nat) (c : Code) (Q : Exit → ASt → Prop) (st : ASt) : Prop :=
 ∀ B ρ a w, zv7 P B ρ st a w → c.wpIn (FW r) 0 P (AQ P B ρ Q) a w
theorem AWp.mono {c : Code} (h : AWp P r c Q st) (hq : ∀ e st, Q e st → Q' e st) : AWp P r c Q' st :=
 fun B ρ a w hs => wpIn_mono (h B ρ a w hs) fun _ _ _ ⟨st, ρ', h1, h2, h3⟩ => ⟨st, ρ', hq _ _ h1, h2, h3⟩
def yy0 (K : ASt → Prop) (Q : Exit → ASt → Prop) : Exit → ASt → Prop
 | .normal, st => K st
 | e, st => Q e st
def zma (id : Nat) (Q : Exit → ASt → Prop) : Exit → ASt → Prop
 | .exit id', st => if id' = id then Q .normal st else Q (.exit id') st
 | e, st => Q e st
theorem AWp.skip (h : Q .normal st) : AWp P r .skip Q st := fun _ _ _ _ hs => wpIn_skip ⟨st, _, h, hs, Ren.le_refl _⟩
theorem AWp.exit {id : Nat} (h : Q (.exit id) st) : AWp P r (.exit id) Q st := fun _ _ _ _ hs => wpIn_exit ⟨st, _, h, hs, Ren.le_refl _⟩
theorem AWp.ret (h : Q .ret st) : AWp P r .ret Q st := fun _ _ _ _ hs => wpIn_ret ⟨st, _, h, hs, Ren.le_refl _⟩
theorem AWp.seq {x y : Code} (h : AWp P r x (yy0 (AWp P r y Q) Q) st) : AWp P r (.seq x y) Q st := fun B ρ a w hs =>
 wpIn_seq (wpIn_mono (h B ρ a w hs) fun e a w hq => by
  obtain ⟨st', ρ', h1, h2, h3⟩ := hq
  cases e with
  | normal => exact wpIn_mono (h1 B ρ' a w h2) fun _ _ _ hq => hq.le h3
  | _ => exact ⟨st', ρ', h1, h2, h3⟩)
theorem AWp.cond {x : Operand} {c d : Code} {ax : AOpd} {t : Bool} (hx : zxt x = some ax) (he : ev st.tm ax = .raw (.bool t)) (h : AWp P r (if t then c else d) Q st) : AWp P r (.cond x c d) Q st := fun B ρ a w hs => by
 have := hs.ev _ _ hx
 rw [he] at this
 exact wpIn_cond this.raw_inv (h B ρ a w hs)
theorem AWp.block {id : Nat} {c : Code} (h : AWp P r c (zma id Q) st) : AWp P r (.block id c) Q st := fun B ρ a w hs =>
 wpIn_block (wpIn_mono (h B ρ a w hs) fun e a w hq => by
  obtain ⟨st', ρ', h1, h2, h3⟩ := hq
  cases e with
  | exit id' =>
   simp only [Exit.inBlock, zma] at h1 ⊢
   split
   ·rename_i e; rw [if_pos e] at h1; exact ⟨st', ρ', h1, h2, h3⟩
   ·rename_i e; rw [if_neg e] at h1; exact ⟨st', ρ', h1, h2, h3⟩
  | _ => exact ⟨st', ρ', h1, h2, h3⟩)
theorem AWp.region {id : Nat} {ops : Array Oper} (h : zjw P r ops (List.range ops.size) (Q .normal) st) : AWp P r (.region id ops false) Q st := fun B ρ a w hs =>
 wpIn_region (zxv (fun e a w hq => by
  obtain ⟨st', ρ', ⟨rfl, h1⟩, h2, h3⟩ := hq
  exact ⟨st', ρ', h1, h2, h3⟩) _ _ _ (h B ρ a w hs))
theorem AWp.loop {c : Code} (T : Nat → ASt → Prop) (hT : ∀ n st, T n st → AWp P r c (yy0 (fun st' => ∃ m, m < n ∧ T m st') Q) st) {n : Nat} (h0 : T n st) : AWp P r (.loop c) Q st := by
 intro B ρ a w hs b k cs hro hb hr
 have key : ∀ j st ρ a w, T j st → zv7 P B ρ st a w →
   ∃ e a' w', AQ P B ρ Q e a' w' ∧ ArrivesIn (Machine.fenced P (FW r)) P (lone (b.atR a (.code c :: .inLoop c :: k)) cs w) b k cs e a' w' := by
  intro j
  induction j using Nat.strongRecOn with
  | _ j ih =>
   intro st ρ a w hI hs
   obtain ⟨e, a₁, w₁, ⟨st', ρ', h1, h2, h3⟩, harr⟩ := hT j st hI B ρ a w hs b (.inLoop c :: k) cs hro hb hr
   cases e with
   | normal =>
    obtain ⟨m, hlt, hm⟩ := h1
    obtain ⟨e₂, a₂, w₂, hq₂, harr₂⟩ := ih m hlt st' ρ' a₁ w₁ hm h2
    exact ⟨e₂, a₂, w₂, hq₂.le h3, .of_steps (StepsIn.trans harr (.one (fenced_calm hb hr rfl) stepR_inLoop)) harr₂⟩
   | exit id => exact ⟨_, a₁, w₁, ⟨st', ρ', h1, h2, h3⟩, .pass (x := .inLoop c) rfl (fun _ _ => .inl (by simp)) harr⟩
   | goto l => exact ⟨_, a₁, w₁, ⟨st', ρ', h1, h2, h3⟩, .pass (x := .inLoop c) rfl (fun _ _ => .inl (by simp)) harr⟩
   | ret => exact ⟨_, a₁, w₁, ⟨st', ρ', h1, h2, h3⟩, .pass (x := .inLoop c) rfl (fun _ _ => .inl (by simp)) harr⟩
   | panic ch => exact ⟨_, a₁, w₁, ⟨st', ρ', h1, h2, h3⟩, .pass (x := .inLoop c) rfl (fun _ _ => .inl (by simp)) harr⟩
   | outgrown => exact ⟨_, a₁, w₁, ⟨st', ρ', h1, h2, h3⟩, .pass (x := .inLoop c) rfl (fun _ _ => .inl (by simp)) harr⟩
 obtain ⟨e, a', w', hq, harr⟩ := key n st ρ a w h0 hs
 exact ⟨e, a', w', hq, .of_steps (.one (fenced_calm hb hr rfl) stepR_loop) harr⟩
inductive ARes where
 | tmp (t : Nat)
 | cell (t : Nat) (agg : Bool) (n : Nat)
 deriving Inhabited
structure zzq where
 code : zym
 ntmps : Nat
 res : List ARes
 deriving Inhabited
def yyp (P : Program) : List ResultVar → Option (List ARes)
 | [] => some []
 | .tmp t :: rs => (yyp P rs).map (.tmp t :: ·)
 | .cell t ty :: rs => (zjs P ty).bind fun (a, n) => (yyp P rs).map (.cell t a n :: ·)
def yz9 (P : Program) (fn : Func) : Option zzq :=
 fn.body.bind fun c => (zyv P c).bind fun ac => (yyp P fn.results.toList).map fun rs => { code := ac, ntmps := fn.ntmps, res := rs }
def aRes1 (tm : List AVal) (H : zz6) : ARes → Option AVal
 | .tmp t => some (tm.getD t zzc)
 | .cell t agg n => match tm.getD t zzc with
  | .ptr A ver off => (H.rowAt A ver).bind fun cells => if off + n ≤ cells.length then aPart agg cells off n else none
  | _ => none
def aRess (tm : List AVal) (H : zz6) : List ARes → Option (List AVal)
 | [] => some []
 | x :: xs => (aRes1 tm H x).bind fun v => (aRess tm H xs).map (v :: ·)
def tup : List AVal → AVal
 | [v] => v
 | vs => .tuple vs
def zvq : List Nat → zz6 → Option zz6
 | [], H => some H
 | M :: ms, H => match H.get M with
  | some (.defs false) => zvq ms (H.set M (.defs true))
  | _ => none
theorem HRel.leave (h : HRel P B ρ H w) {M : Nat} {l : Loc} (hl : ρ M 0 = some l) (hg : H.get M = some (.defs false)) :
  (Instr.takeDeferred l.c).run P w = .ok [] (w.putObj l.c (.deferred none)) ∧ HRel P B ρ (H.set M (.defs true)) (w.putObj l.c (.deferred none)) := by
 obtain ⟨h1, l', h2, h3⟩ := h.obj M _ hg
 rw [hl] at h2; cases h2
 refine ⟨run_takeDeferred h3, h.putObj hg hl (fun x => by simp) (fun x => by simp) ⟨h1, l, hl, World.putObj_heap_same (Array.getElem?_eq_some_iff.1 h3).1⟩ (Side.putPlain h3 trivial trivial)⟩
theorem zsa (h : HRel P B ρ H w) {tm : List AVal} {tmps : Array Value} (ht : VRels ρ tm tmps.toList) (f : ResultVar → Sem Value) (hf1 : ∀ t, f (.tmp t) = Pure.pure (tmps.getD t undef))
  (hf2 : ∀ a t, f (.cell a t) = (do loadVar t (← asAddr (tmps.getD a undef)))) : ∀ {rs : List ResultVar} {ars : List ARes} {vs : List AVal}, yyp P rs = some ars → aRess tm H ars = some vs →
  ∃ cvs, (rs.mapM (m := Sem) f).run P w = .ok cvs w ∧ VRels ρ vs cvs
 | [], ars, vs, hc, ha => by
  simp [yyp] at hc; subst hc
  simp [aRess] at ha; subst ha
  exact ⟨[], by simp, .nil⟩
 | x :: rs, ars, vs, hc, ha => by
  have hget : ∀ t, VRel ρ (tm.getD t zzc) (tmps.getD t undef) := fun t => by
   simp only [List.getD_eq_getElem?_getD, Array.getD_eq_getD_getElem?]
   cases hv : tm[t]? with
   | none =>
    have : tmps[t]? = none := by
     have h1 := ht.length
     have h2 := List.getElem?_eq_none_iff.1 hv
     rw [Array.getElem?_eq_none_iff]
     simp at h1; omega
    rw [this]; exact .raw _
   | some v =>
    obtain ⟨cv, h1, h2⟩ := ht.get _ _ hv
    rw [Array.getElem?_toList] at h1
    rw [h1]; exact h2
  cases x with
  | tmp t =>
   simp only [yyp] at hc
   obtain ⟨ars', h1, rfl⟩ := Option.map_eq_some_iff.1 hc
   simp only [aRess, aRes1, Option.bind_some] at ha
   obtain ⟨vs', h2, rfl⟩ := Option.map_eq_some_iff.1 ha
   obtain ⟨cvs, h3, h4⟩ := zsa h ht f hf1 hf2 h1 h2
   refine ⟨_ :: cvs, ?_, .cons (hget t) h4⟩
   simp only [List.mapM_cons, hf1, Sem.run_bind, Sem.run_pure, Result.andThen_ok]
   rw [h3]
   simp
  | cell t ty =>
   simp only [yyp, Option.bind_eq_some_iff] at hc
   obtain ⟨⟨a, n⟩, hp, hc⟩ := hc
   obtain ⟨ars', h1, rfl⟩ := Option.map_eq_some_iff.1 hc
   obtain ⟨d, m, hd, hm, rfl, rfl⟩ := zux hp
   simp only [aRess, Option.bind_eq_some_iff] at ha
   obtain ⟨v, hv, ha⟩ := ha
   obtain ⟨vs', h2, rfl⟩ := Option.map_eq_some_iff.1 ha
   obtain ⟨cvs, h3, h4⟩ := zsa h ht f hf1 hf2 h1 h2
   simp only [aRes1] at hv
   split at hv
   ·rename_i A ver off hxe
    obtain ⟨cells, hr, hif⟩ := Option.bind_eq_some_iff.1 hv
    obtain ⟨hfit, hif⟩ := zyh hif
    have hx := hget t
    rw [hxe] at hx
    obtain ⟨l, hl, hcx⟩ := hx.ptr_inv
    have : ∃ cv, (do loadVar ty (← asAddr (tmps.getD t undef)) : Sem Value).run P w = .ok cv w ∧ VRel ρ v cv := by
     unfold aPart at hif
     cases hagg : zj3 d with
     | true =>
      simp only [hagg, if_true] at hif hfit
      cases hif
      obtain ⟨cvs, h1, h2⟩ := zw6 (P := P) (h.rowAt hr hl) hfit
      refine ⟨.agg cvs.toArray, ?_, .agg h2⟩
      simp [hcx, asAddr, loadVar, zqp hd, hagg, zy4 hm, h1]
     | false =>
      simp only [hagg, Bool.false_eq_true, if_false] at hif
      obtain ⟨cv, h1, h2⟩ := ztb (P := P) (h.rowAt hr hl) hif
      refine ⟨cv, ?_, h2⟩
      simp only [hcx, asAddr, loadVar, Sem.run_bind, Sem.run_pure, Result.andThen_ok, zqp hd, hagg, Bool.false_eq_true, if_false, h1]
    obtain ⟨cv, h5, h6⟩ := this
    refine ⟨cv :: cvs, ?_, .cons h6 h4⟩
    simp only [List.mapM_cons, hf2, Sem.run_bind, Sem.run_pure, Result.andThen_ok] at h5 ⊢
    rw [h5]
    simp only [Result.andThen_ok]
    rw [h3]
    simp
   ·cases hv
theorem zf5 (h : HRel P B ρ H w) {fn : Func} {tm : List AVal} {tmps : Array Value} (ht : VRels ρ tm tmps.toList) {ars : List ARes} {vs : List AVal} (hc : yyp P fn.results.toList = some ars) (ha : aRess tm H ars = some vs) :
  ∃ cv, (results fn tmps).run P w = .ok cv w ∧ VRel ρ (tup vs) cv := by
 obtain ⟨cvs, h1, h2⟩ := zsa h ht (fun
  | .tmp t => Pure.pure (tmps.getD t undef)
  | .cell a t => do loadVar t (← asAddr (tmps.getD a undef))) (fun _ => rfl) (fun _ _ => rfl) hc ha
 refine ⟨if h : cvs.toArray.size = 1 then cvs.toArray[0] else .tuple cvs.toArray, ?_, ?_⟩
 ·unfold results
  rw [Array.mapM_eq_mapM_toList, Sem.run_bind, Sem.run_map]
  refine Eq.trans (congrArg (fun x => (Result.andThen (Result.andThen x _) _)) (Eq.trans ?_ h1)) ?_
  ·rfl
  ·simp only [Result.andThen_ok, Sem.run_pure]
 ·have hl := h2.length
  cases h2 with
  | nil => exact .tuple .nil
  | cons h3 h4 =>
   cases h4 with
   | nil => simpa [tup] using h3
   | cons h5 h6 =>
    simp only [tup]
    rw [dif_neg (by simp)]
    exact .tuple (.cons h3 (.cons h5 h6))
theorem zkg {fn : Func} {tm : List AVal} {tmps : Array Value} {ars : List ARes} (hc : yyp P fn.results.toList = some ars) {R : Ending → World → Prop} : ∀ (ms : List Nat) (ds : List Deferred) (H H' : zz6) (w : World), HRel P B ρ H w → VRels ρ tm tmps.toList →
  zvj ρ ms ds → zvq ms H = some H' → (∀ w' vs, aRess tm H' ars = some vs → HRel P B ρ H' w' → ∀ cv, VRel ρ (tup vs) cv → R (.returned cv) w') → ∀ vs, aRess tm H' ars = some vs → LeavesInM (FW none) 0 P fn tmps R ds .returning w
 | [], _, H, H', w, h, ht, .nil, hl, hR, vs, hv => by
  simp [zvq] at hl; subst hl
  obtain ⟨cv, h1, h2⟩ := zf5 h ht hc hv
  exact ⟨cv, h1, hR w vs hv h cv h2⟩
 | M :: ms, _, H, H', w, h, ht, .cons hM hms, hl, hR, vs, hv => by
  simp only [zvq] at hl
  split at hl
  ·rename_i hg
   obtain ⟨h1, h2⟩ := h.leave hM hg
   exact ⟨by simp, .inl ⟨_, _, rfl, h1, zkg hc ms _ _ H' _ h2 ht hms hl hR vs hv⟩⟩
  ·cases hl
def yq9 (ars : List ARes) (R : AVal → zz6 → Prop) : Exit → ASt → Prop
 | .normal, st | .ret, st => ∃ H' vs, zvq st.marks st.H = some H' ∧ aRess st.tm H' ars = some vs ∧ R (tup vs) H'
 | _, _ => False
theorem zyp.of_body {f : FuncId} {fn : Func} {c : Code} {ars : List ARes} {args : List AVal} {R : AVal → zz6 → Prop} (hf : P.funcs[f]? = some fn) (hb : fn.body = some c) (hr : yyp P fn.results.toList = some ars)
  (h : AWp P none c (yq9 ars R) { tm := args ++ List.replicate (fn.ntmps - args.length) zzc, H := H, marks := [] }) : zyp P f args H R := by
 intro B ρ w cargs hH hargs
 refine callsIn_of_wp_marks (F := FW none) hf hb trivial ?_ rfl
 have hl := hargs.length
 have hst : zv7 P B ρ { tm := args ++ List.replicate (fn.ntmps - args.length) zzc, H := H, marks := [] } { tmps := cargs.toArray ++ Array.replicate (fn.ntmps - cargs.toArray.size) undef, defers := [] } w := by
  refine ⟨?_, hH, .nil⟩
  have := hargs.append (VRels.replicate_raw (ρ := ρ) undef (fn.ntmps - args.length))
  simp only [Array.toList_append, List.toList_toArray, Array.toList_replicate, List.size_toArray, hl]
  exact this
 refine wpIn_mono (h B ρ _ w hst) fun e a w' hq => ?_
 obtain ⟨st', ρ', h1, h2, h3⟩ := hq
 have fin : ∀ H' vs, zvq st'.marks st'.H = some H' → aRess st'.tm H' ars = some vs → R (tup vs) H' → LeavesInM (FW none) 0 P fn a.tmps (ywv P B ρ R) a.defers .returning w' := fun H' vs e1 e2 e3 =>
  zkg hr st'.marks a.defers st'.H H' w' h2.H h2.tm h2.marks e1 (fun w'' vs' e4 e5 cv e6 => by
   rw [e2] at e4; cases e4
   exact ⟨_, cv, H', ρ', rfl, e3, e6, e5, h3⟩) vs e2
 cases e with
 | normal => obtain ⟨H', vs, e1, e2, e3⟩ := h1; exact fin H' vs e1 e2 e3
 | ret => obtain ⟨H', vs, e1, e2, e3⟩ := h1; exact fin H' vs e1 e2 e3
 | _ => exact h1.elim
end
section
variable {P : Program} {B : Base} {ρ ρ' : Ren} {H H' : zz6} {w w' : World} {st : ASt} {Q Q' : Exit → ASt → Prop}
def yzb (tm : List AVal) (ps : List Nat) (assign body : zym) (D : Nat) : zfq := { state := .ready, pending := none, tmps := tm, params := ps, assign := assign, body := body, defers := D }
def zz6.enter (H : zz6) (tm : List AVal) (ps : List Nat) (assign body : zym) : zz6 := (H.push (.defs false)).push (.loop (yzb tm ps assign body H.next))
def zjk (H : zz6) (L : Nat) : Option (Option zym × zz6) :=
 match H.get L with
 | some (.loop l) => match l.state with
  | .busy => none
  | _ => some (l.pending, H.set L (.loop { l with state := .exhausted }))
 | _ => none
theorem zxg.put_new {A : Nat} {l : Loc} (h : ∀ v, ρ A v = none) : zxg (ρ.put A 0 l) A := fun v hv => by rw [Ren.put_ne _ _ (by omega)]; exact h v
theorem HRel.enter (h : HRel P B ρ H w) (fn : FuncId) {tm : List AVal} {tmps : Array Value} (ht : VRels ρ tm tmps.toList) {ps : Array Tmp} {ca cb : Code} {assign body : zym} (ha : zyv P ca = some assign) (hb : zyv P cb = some body) :
  ∃ ρ', HRel P B ρ' (H.enter tm ps.toList assign body) ((w.alloc (.deferred (some []))).alloc (.loop { state := .ready, pending := none, fn, tmps, params := ps, assign := ca, body := cb, defers := w.heap.size })) ∧ ρ.le ρ' ∧
   ρ' H.next 0 = some ⟨w.heap.size, 0, 0⟩ ∧ ρ' (H.next + 1) 0 = some ⟨w.heap.size + 1, 0, 0⟩ := by
 have hn : ∀ v, ρ H.next v = none := fun v => h.fresh _ v (Nat.le_refl _)
 have h1 := h.push (o := .defs false) (co := .deferred (some [])) (s := 0) (n := 0) (fun l => by simp) ⟨zxg.put_new hn, _, Ren.put_same _ _ _ _, World.alloc_heap_new _ _⟩
 have le1 := Ren.put_le (l := (⟨w.heap.size, 0, 0⟩ : Loc)) (hn 0)
 have hn2 : ∀ v, (ρ.put H.next 0 ⟨w.heap.size, 0, 0⟩) (H.next + 1) v = none := fun v => h1.fresh _ v (by simp)
 have le2 := Ren.put_le (l := (⟨(w.alloc (.deferred (some []))).heap.size, 0, 0⟩ : Loc)) (hn2 0)
 have h2 := h1.push (o := .loop (yzb tm ps.toList assign body H.next)) (co := .loop { state := .ready, pending := none, fn, tmps, params := ps, assign := ca, body := cb, defers := w.heap.size }) (s := 0) (n := 0) (fun l => by simp)
  ⟨zxg.put_new hn2, _, _, Ren.put_same _ _ _ _, World.alloc_heap_new _ _, rfl, trivial, ht.mono (Ren.le_trans le1 le2), rfl, ha, hb, _, le2 _ _ _ (Ren.put_same _ _ _ _), rfl⟩
 refine ⟨_, h2, Ren.le_trans le1 le2, le2 _ _ _ (Ren.put_same _ _ _ _), ?_⟩
 have := Ren.put_same (ρ.put H.next 0 ⟨w.heap.size, 0, 0⟩) (H.next + 1) 0 ⟨(w.alloc (.deferred (some []))).heap.size, 0, 0⟩
 simpa using this
theorem HRel.loopOf (h : HRel P B ρ H w) {L : Nat} {l : zfq} (hg : H.get L = some (.loop l)) {x : Loc} (hx : ρ L 0 = some x) : zxg ρ L ∧ ∃ r, w.heap[x.c]? = some (.loop r) ∧ zuv P ρ l r := by
 obtain ⟨h1, x', r, h2, h3, h4⟩ := h.obj L _ hg
 rw [hx] at h2; cases h2
 exact ⟨h1, r, h3, h4⟩
theorem HRel.putLoop (h : HRel P B ρ H w) {L : Nat} {l l' : zfq} (hg : H.get L = some (.loop l)) {x : Loc} (hx : ρ L 0 = some x) {r' : Loop} (hrel : zuv P ρ l' r') :
  HRel P B ρ (H.set L (.loop l')) (w.putObj x.c (.loop r')) := by
 obtain ⟨h1, r, h2, h3⟩ := h.loopOf hg hx
 exact h.putObj hg hx (fun x => by simp) (fun x => by simp) ⟨h1, x, r', hx, World.putObj_heap_same (Array.getElem?_eq_some_iff.1 h2).1, hrel⟩ (Side.putPlain h2 trivial trivial)
theorem zgx (h : HRel P B ρ H w) {L : Nat} {x : Loc} (hx : ρ L 0 = some x) {j : Option zym} (he : zjk H L = some (j, H')) :
  ∃ jump w', (Instr.endLoop x.c).run P w = .ok jump w' ∧ zav P j jump ∧ HRel P B ρ H' w' := by
 unfold zjk at he
 split at he
 ·rename_i l hg
  obtain ⟨_, r, h2, h3, h4, h5, h6, h7, h8, h9⟩ := h.loopOf hg hx
  have hnb : r.state ≠ .busy := by
   rw [h3]; intro hb; rw [hb] at he; cases he
  have he' : some (l.pending, H.set L (.loop { l with state := .exhausted })) = some (j, H') := by
   rw [← he]
   split
   ·rename_i hb; rw [h3, hb] at hnb; exact absurd rfl hnb
   ·rfl
  cases he'
  exact ⟨r.pending, _, run_endLoop h2 hnb, h4, h.putLoop hg hx ⟨rfl, h4, h5, h6, h7, h8, h9⟩⟩
 ·cases he
def yxg (Q : Exit → ASt → Prop) : Option zym → ASt → Prop
 | none, st => Q .normal st
 | some .ret, st => Q .ret st
 | some (.exit id), st => Q (.exit id) st
 | _, _ => False
theorem zmf {c : Code} (h : zyv P c = some .ret) : c = .ret := by
 cases c with
 | ret => rfl
 | region id ops dr =>
  simp only [zyv] at h
  obtain ⟨_, _, h⟩ := Option.bind_eq_some_iff.1 h
  split at h
  ·split at h <;> cases h
  ·cases h
 | _ =>
  simp only [zyv] at h
  first
   | cases h; done
   | (obtain ⟨_, _, h⟩ := Option.map_eq_some_iff.1 h; cases h; done)
   | (obtain ⟨_, _, h⟩ := Option.bind_eq_some_iff.1 h; obtain ⟨_, _, h⟩ := Option.map_eq_some_iff.1 h; cases h; done)
   | (obtain ⟨_, _, h⟩ := Option.bind_eq_some_iff.1 h; obtain ⟨_, _, h⟩ := Option.bind_eq_some_iff.1 h; obtain ⟨_, _, h⟩ := Option.map_eq_some_iff.1 h; cases h; done)
theorem zdj {c : Code} {id : Nat} (h : zyv P c = some (.exit id)) : c = .exit id := by
 cases c with
 | exit id' => simp [zyv] at h; rw [h]
 | region id ops dr =>
  simp only [zyv] at h
  obtain ⟨_, _, h⟩ := Option.bind_eq_some_iff.1 h
  split at h
  ·split at h <;> cases h
  ·cases h
 | _ =>
  simp only [zyv] at h
  first
   | cases h; done
   | (obtain ⟨_, _, h⟩ := Option.map_eq_some_iff.1 h; cases h; done)
   | (obtain ⟨_, _, h⟩ := Option.bind_eq_some_iff.1 h; obtain ⟨_, _, h⟩ := Option.map_eq_some_iff.1 h; cases h; done)
   | (obtain ⟨_, _, h⟩ := Option.bind_eq_some_iff.1 h; obtain ⟨_, _, h⟩ := Option.bind_eq_some_iff.1 h; obtain ⟨_, _, h⟩ := Option.map_eq_some_iff.1 h; cases h; done)
theorem AWp.rangeFunc {g : Operand} {ag : AOpd} {ps : Array Tmp} {ca cb : Code} {assign body : zym} {f : FuncId} {caps : List AVal} (hg : zxt g = some ag) (hgv : ev st.tm ag = .func (.func f) caps) (hf : yyj P f)
  (ha : zyv P ca = some assign) (hb : zyv P cb = some body)
  (h : zyp P f (.yield (st.H.next + 1) :: caps) (st.H.enter st.tm ps.toList assign body) fun _ H' => ∃ j H'', zjk H' (st.H.next + 1) = some (j, H'') ∧ yxg Q j { st with H := H'', marks := st.H.next :: st.marks }) :
  AWp P none (.rangeFunc g ps ca cb) Q st := by
 intro B ρ a w hs
 refine wpIn_rangeFunc fun fn _ => ?_
 have hgr := hs.ev _ _ hg
 rw [hgv] at hgr
 obtain ⟨vs, hvs, hce⟩ := hgr.func_inv
 obtain ⟨ρ', h1, hle, h2, h3⟩ := hs.H.enter fn hs.tm (ps := ps) ha hb
 have hargs : VRels ρ' (.yield (st.H.next + 1) :: caps) (.func (.yield (w.heap.size + 1)) #[] #[] :: vs) := .cons (.yield h3) (hvs.mono hle)
 have hcall := h B ρ' _ _ h1 hargs
 refine ⟨_, _, _, { target := .fn (.func f) vs.toArray, args := #[.func (.yield (w.heap.size + 1)) #[] #[]] }, ((w.alloc (.deferred (some []))).alloc (.loop { state := .ready, pending := none, fn, tmps := a.tmps, params := ps, assign := ca, body := cb, defers := w.heap.size })), f, _, _, run_enterLoop_outer fn a.tmps ps ca cb, ?_, fun _ _ => trivial, ?_, fun h => by simp at h, zpj (CallsIn.mono hcall fun e w3 hp => ?_)⟩
 ·simp only [resolve, rangeCall, hce, Deferred.ofValue, Sem.run_pure]
  simp [Act.eval]
 ·have := zj4 (w := (w.alloc (.deferred (some []))).alloc (.loop { state := .ready, pending := none, fn, tmps := a.tmps, params := ps, assign := ca, body := cb, defers := w.heap.size })) hf (.func (.yield (w.heap.size + 1)) #[] #[] :: vs).toArray
  simpa [invoke] using this
 ·obtain ⟨v, cv, H', ρ'', rfl, ⟨j, H'', e1, e2⟩, hv, hH, hle2⟩ := hp
  obtain ⟨jump, w4, e3, e4, e5⟩ := zgx hH (hle2 _ _ _ h3) e1
  refine ⟨jump, w4, by simpa using e3, ?_⟩
  have hle3 := Ren.le_trans hle hle2
  have hst : zv7 P B ρ'' { st with H := H'', marks := st.H.next :: st.marks } { a with defers := [{ target := .collected w.heap.size, args := #[] }] ++ a.defers } w4 :=
   ⟨hs.tm.mono hle3, e5, .cons (hle2 _ _ _ h2) (hs.marks.mono hle3)⟩
  cases jump with
  | none =>
   cases j with
   | none => exact ⟨_, ρ'', e2, hst, hle3⟩
   | some _ => exact e4.elim
  | some c =>
   cases j with
   | none => exact e4.elim
   | some jc =>
    cases jc with
    | ret =>
     rw [zmf e4]
     exact wpIn_ret ⟨_, ρ'', e2, hst, hle3⟩
    | exit id =>
     rw [zdj e4]
     exact wpIn_exit ⟨_, ρ'', e2, hst, hle3⟩
    | _ => exact e2.elim
def zw0 : List AVal → List Nat → List AVal → List AVal
 | tm, p :: ps, a :: as => zw0 (tm.set p a) ps as
 | tm, _, _ => tm
theorem zbk : ∀ (ps : List Nat) {tm as : List AVal} {tmps cas : List Value}, VRels ρ tm tmps → VRels ρ as cas → VRels ρ (zw0 tm ps as) ((ps.zip cas).foldl (fun t (p, a) => t.set p a) tmps)
 | [], _, _, _, _, h, _ => by simpa [zw0] using h
 | p :: ps, tm, _, tmps, _, h, .nil => by simpa [zw0] using h
 | p :: ps, tm, _, tmps, _, h, .cons h1 h2 => by
  simp only [zw0, List.zip_cons_cons, List.foldl_cons]
  exact zbk ps (h.set h1 p) h2
def zec (L : Nat) (R : AVal → zz6 → Prop) : Exit → ASt → Prop
 | .normal, st => ∃ l, st.H.get L = some (.loop l) ∧ R (zzt true) (st.H.set L (.loop { l with state := .ready, pending := none }))
 | .ret, st => ∃ l, st.H.get L = some (.loop l) ∧ R (zzt false) (st.H.set L (.loop { l with state := .done, pending := some .ret }))
 | .exit id, st => ∃ l, st.H.get L = some (.loop l) ∧ R (zzt false) (st.H.set L (.loop { l with state := .done, pending := some (.exit id) }))
 | _, _ => False
theorem zbj.yield {L : Nat} {l : zfq} {args : List AVal} {R : AVal → zz6 → Prop} (hg : H.get L = some (.loop l)) (hr : l.state = .ready) (hlen : args.length = l.params.length)
  (h : ∀ r ca cb, zyv P ca = some l.assign → zyv P cb = some l.body → AWp P (some r) ca (yy0 (fun st1 => ∃ l1, st1.H.get L = some (.loop l1) ∧ l1.state = .ready ∧
   AWp P (some r) cb (zec L R) { st1 with H := st1.H.set L (.loop { l1 with state := .busy }) }) fun _ _ => False) { tm := zw0 l.tmps l.params args, H := H, marks := [] }) :
  zbj P (.yield L) args H R := by
 intro B ρ w cf cargs hH hv hargs
 obtain ⟨x, hx, rfl⟩ := hv.yield_inv
 obtain ⟨_, rec, h2, h3, h4, h5, h6, h7, h8, h9⟩ := hH.loopOf hg hx
 have hal := hargs.length
 have hps : cargs.toArray.size = rec.params.size := by
  have : rec.params.size = l.params.length := by rw [← h6]; simp
  simp; omega
 refine ⟨{ target := .fn (.yield x.c) #[], args := cargs.toArray }, w, .round x.c rec.fn ((rec.params.zip cargs.toArray).foldl (fun tmps (t, a) => tmps.setIfInBounds t a) rec.tmps) rec.assign rec.body, w, by simp [Deferred.ofValue], ?_, ?_⟩
 ·simp only [invoke]
  exact run_yield h2 hps
 ·refine roundIn_of_wpIn (F := Fence.wide) (n := 0) trivial ?_
  have htm : VRels ρ (zw0 l.tmps l.params args) ((rec.params.zip cargs.toArray).foldl (fun tmps (t, a) => tmps.setIfInBounds t a) rec.tmps).toList := by
   have := zbk l.params h5 hargs
   have hfold : ∀ (zs : List (Nat × Value)) (t : Array Value), (zs.foldl (fun tmps (x : Nat × Value) => tmps.setIfInBounds x.1 x.2) t).toList = zs.foldl (fun t x => t.set x.1 x.2) t.toList := by
    intro zs
    induction zs with
    | nil => intro t; rfl
    | cons z zs ih => intro t; simp only [List.foldl_cons]; rw [ih]; simp
   rw [← Array.foldl_toList, Array.toList_zip]
   have e1 := hfold (rec.params.toList.zip cargs.toArray.toList) rec.tmps
   rw [h6] at e1 ⊢
   simp only at e1 ⊢
   rw [e1]
   exact this
  have hst : zv7 P B ρ { tm := zw0 l.tmps l.params args, H := H, marks := [] } { tmps := (rec.params.zip cargs.toArray).foldl (fun tmps (t, a) => tmps.setIfInBounds t a) rec.tmps, defers := [] } w := ⟨htm, hH, .nil⟩
  have hw := h x.c rec.assign rec.body h7 h8 B ρ _ w hst
  refine wpIn_mono hw fun e a1 w1 hq => ?_
  obtain ⟨st1, ρ1, q1, q2, q3⟩ := hq
  cases e with
  | normal =>
   obtain ⟨l1, g1, g2, g3⟩ := q1
   have hx1 := q3 _ _ _ hx
   obtain ⟨_, rec1, k2, k3, k4, k5, k6, k7, k8, k9⟩ := q2.H.loopOf g1 hx1
   refine ⟨_, run_beginRound k2 (by rw [k3]; exact g2), ?_⟩
   have hput := q2.H.putLoop (l' := { l1 with state := .busy }) (r' := { rec1 with state := .busy }) g1 hx1 ⟨rfl, k4, k5, k6, k7, k8, k9⟩
   have hst2 : zv7 P B ρ1 { st1 with H := st1.H.set L (.loop { l1 with state := .busy }) } a1 (w1.putObj x.c (.loop { rec1 with state := .busy })) := ⟨q2.tm, hput, q2.marks⟩
   refine wpIn_mono (g3 B ρ1 a1 _ hst2) fun e2 a2 w2 hq2 => ?_
   obtain ⟨st2, ρ2, p1, p2, p3⟩ := hq2
   have hle := Ren.le_trans q3 p3
   have hx2 := p3 _ _ _ hx1
   cases e2 with
   | normal =>
    obtain ⟨l2, m1, m2⟩ := p1
    obtain ⟨_, rec2, n2, n3, n4, n5, n6, n7, n8, n9⟩ := p2.H.loopOf m1 hx2
    exact ⟨_, _, run_endRound none n2, _, _, _, ρ2, rfl, m2, .raw _, p2.H.putLoop (r' := { rec2 with state := .ready, pending := none }) m1 hx2 ⟨rfl, trivial, n5, n6, n7, n8, n9⟩, hle⟩
   | ret =>
    obtain ⟨l2, m1, m2⟩ := p1
    obtain ⟨_, rec2, n2, n3, n4, n5, n6, n7, n8, n9⟩ := p2.H.loopOf m1 hx2
    exact ⟨_, _, run_endRound (some .ret) n2, _, _, _, ρ2, rfl, m2, .raw _, p2.H.putLoop (r' := { rec2 with state := .done, pending := some .ret }) m1 hx2 ⟨rfl, rfl, n5, n6, n7, n8, n9⟩, hle⟩
   | exit id =>
    obtain ⟨l2, m1, m2⟩ := p1
    obtain ⟨_, rec2, n2, n3, n4, n5, n6, n7, n8, n9⟩ := p2.H.loopOf m1 hx2
    exact ⟨_, _, run_endRound (some (.exit id)) n2, _, _, _, ρ2, rfl, m2, .raw _, p2.H.putLoop (r' := { rec2 with state := .done, pending := some (.exit id) }) m1 hx2 ⟨rfl, rfl, n5, n6, n7, n8, n9⟩, hle⟩
   | goto _ => exact p1.elim
   | panic _ => exact p1.elim
   | outgrown => exact p1.elim
  | exit _ => exact q1.elim
  | goto _ => exact q1.elim
  | ret => exact q1.elim
  | panic _ => exact q1.elim
  | outgrown => exact q1.elim
end
end Go.Vm
