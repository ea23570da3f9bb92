/- The abstract machine, part 16: the rules of code, loops, rounds and functions; the evaluator and that it is right. -/
import Derived.Test.YtaeleakdmphnfaaGreatDoorVmCode
namespace Go.Vm
open Go

set_option linter.unusedVariables false
set_option linter.unusedSimpArgs false

variable {P : Program} {B : Base} {ρ ρ' : Ren} {H H' : AHeap} {w w' : World} {r : Option Nat} {st : ASt} {Q Q' : Exit → ASt → Prop}

def AWp (P : Program) (r : Option Nat) (c : Code) (Q : Exit → ASt → Prop) (st : ASt) : Prop :=
  ∀ B ρ a w, StRel P B ρ st a w → c.wpIn (FW r) 0 P (AQ P B ρ Q) a w

theorem AWp.mono {c : Code} (h : AWp P r c Q st) (hq : ∀ e st, Q e st → Q' e st) : AWp P r c Q' st :=
  fun B ρ a w hs => wpIn_mono (h B ρ a w hs) fun _ _ _ ⟨st, ρ', h1, h2, h3⟩ => ⟨st, ρ', hq _ _ h1, h2, h3⟩

/-- What comes next where code ends normally. -/
def AThen (K : ASt → Prop) (Q : Exit → ASt → Prop) : Exit → ASt → Prop
  | .normal, st => K st
  | e, st => Q e st

def ABlock (id : Nat) (Q : Exit → ASt → Prop) : Exit → ASt → Prop
  | .exit id', st => if id' = id then Q .normal st else Q (.exit id') st
  | e, st => Q e st

theorem AWp.skip (h : Q .normal st) : AWp P r .skip Q st := fun _ _ _ _ hs => wpIn_skip ⟨st, _, h, hs, Ren.le_refl _⟩
theorem AWp.exit {id : Nat} (h : Q (.exit id) st) : AWp P r (.exit id) Q st := fun _ _ _ _ hs => wpIn_exit ⟨st, _, h, hs, Ren.le_refl _⟩
theorem AWp.ret (h : Q .ret st) : AWp P r .ret Q st := fun _ _ _ _ hs => wpIn_ret ⟨st, _, h, hs, Ren.le_refl _⟩

theorem AWp.seq {x y : Code} (h : AWp P r x (AThen (AWp P r y Q) Q) st) : AWp P r (.seq x y) Q st := fun B ρ a w hs =>
  wpIn_seq (wpIn_mono (h B ρ a w hs) fun e a w hq => by
    obtain ⟨st', ρ', h1, h2, h3⟩ := hq
    cases e with
    | normal => exact wpIn_mono (h1 B ρ' a w h2) fun _ _ _ hq => hq.le h3
    | _ => exact ⟨st', ρ', h1, h2, h3⟩)

theorem AWp.cond {x : Operand} {c d : Code} {ax : AOpd} {t : Bool} (hx : cOpd x = some ax) (he : ev st.tm ax = .raw (.bool t)) (h : AWp P r (if t then c else d) Q st) : AWp P r (.cond x c d) Q st := fun B ρ a w hs => by
  have := hs.ev _ _ hx
  rw [he] at this
  exact wpIn_cond this.raw_inv (h B ρ a w hs)

theorem AWp.block {id : Nat} {c : Code} (h : AWp P r c (ABlock id Q) st) : AWp P r (.block id c) Q st := fun B ρ a w hs =>
  wpIn_block (wpIn_mono (h B ρ a w hs) fun e a w hq => by
    obtain ⟨st', ρ', h1, h2, h3⟩ := hq
    cases e with
    | exit id' =>
      simp only [Exit.inBlock, ABlock] at h1 ⊢
      split
      · rename_i e; rw [if_pos e] at h1; exact ⟨st', ρ', h1, h2, h3⟩
      · rename_i e; rw [if_neg e] at h1; exact ⟨st', ρ', h1, h2, h3⟩
    | _ => exact ⟨st', ρ', h1, h2, h3⟩)

theorem AWp.region {id : Nat} {ops : Array Oper} (h : AOps P r ops (List.range ops.size) (Q .normal) st) : AWp P r (.region id ops false) Q st := fun B ρ a w hs =>
  wpIn_region (wpOpsIn_mono (fun e a w hq => by
    obtain ⟨st', ρ', ⟨rfl, h1⟩, h2, h3⟩ := hq
    exact ⟨st', ρ', h1, h2, h3⟩) _ _ _ (h B ρ a w hs))

/-- A loop, by a family of its states that goes down with each round. -/
theorem AWp.loop {c : Code} (T : Nat → ASt → Prop) (hT : ∀ n st, T n st → AWp P r c (AThen (fun st' => ∃ m, m < n ∧ T m st') Q) st) {n : Nat} (h0 : T n st) : AWp P r (.loop c) Q st := by
  intro B ρ a w hs b k cs hro hb hr
  have key : ∀ j st ρ a w, T j st → StRel P B ρ st a w →
      ∃ e a' w', AQ P B ρ Q e a' w' ∧ ArrivesIn (Machine.fenced P (FW r)) P (lone (b.atR a (.code c :: .inLoop c :: k)) cs w) b k cs e a' w' := by
    intro j
    induction j using Nat.strongRecOn with
    | _ j ih =>
      intro st ρ a w hI hs
      obtain ⟨e, a₁, w₁, ⟨st', ρ', h1, h2, h3⟩, harr⟩ := hT j st hI B ρ a w hs b (.inLoop c :: k) cs hro hb hr
      cases e with
      | normal =>
        obtain ⟨m, hlt, hm⟩ := h1
        obtain ⟨e₂, a₂, w₂, hq₂, harr₂⟩ := ih m hlt st' ρ' a₁ w₁ hm h2
        exact ⟨e₂, a₂, w₂, hq₂.le h3, .of_steps (StepsIn.trans harr (.one (fenced_calm hb hr rfl) stepR_inLoop)) harr₂⟩
      | exit id => exact ⟨_, a₁, w₁, ⟨st', ρ', h1, h2, h3⟩, .pass (x := .inLoop c) rfl (fun _ _ => .inl (by simp)) harr⟩
      | goto l => exact ⟨_, a₁, w₁, ⟨st', ρ', h1, h2, h3⟩, .pass (x := .inLoop c) rfl (fun _ _ => .inl (by simp)) harr⟩
      | ret => exact ⟨_, a₁, w₁, ⟨st', ρ', h1, h2, h3⟩, .pass (x := .inLoop c) rfl (fun _ _ => .inl (by simp)) harr⟩
      | panic ch => exact ⟨_, a₁, w₁, ⟨st', ρ', h1, h2, h3⟩, .pass (x := .inLoop c) rfl (fun _ _ => .inl (by simp)) harr⟩
      | outgrown => exact ⟨_, a₁, w₁, ⟨st', ρ', h1, h2, h3⟩, .pass (x := .inLoop c) rfl (fun _ _ => .inl (by simp)) harr⟩
  obtain ⟨e, a', w', hq, harr⟩ := key n st ρ a w h0 hs
  exact ⟨e, a', w', hq, .of_steps (.one (fenced_calm hb hr rfl) stepR_loop) harr⟩

/-! ### Functions -/

inductive ARes where
  | tmp (t : Nat)
  | cell (t : Nat) (agg : Bool) (n : Nat)
  deriving Inhabited

structure AFunc where
  code : ACode
  ntmps : Nat
  res : List ARes
  deriving Inhabited

def cRes (P : Program) : List ResultVar → Option (List ARes)
  | [] => some []
  | .tmp t :: rs => (cRes P rs).map (.tmp t :: ·)
  | .cell t ty :: rs => (partSz P ty).bind fun (a, n) => (cRes P rs).map (.cell t a n :: ·)

def cFunc (P : Program) (fn : Func) : Option AFunc :=
  fn.body.bind fun c => (cCode P c).bind fun ac => (cRes P fn.results.toList).map fun rs => { code := ac, ntmps := fn.ntmps, res := rs }

def aRes1 (tm : List AVal) (H : AHeap) : ARes → Option AVal
  | .tmp t => some (tm.getD t aundef)
  | .cell t agg n => match tm.getD t aundef with
    | .ptr A ver off => (H.rowAt A ver).bind fun cells => if off + n ≤ cells.length then aPart agg cells off n else none
    | _ => none

def aRess (tm : List AVal) (H : AHeap) : List ARes → Option (List AVal)
  | [] => some []
  | x :: xs => (aRes1 tm H x).bind fun v => (aRess tm H xs).map (v :: ·)

def tup : List AVal → AVal
  | [v] => v
  | vs => .tuple vs

/-- The blocks for deferred calls of rounds are shut. -/
def aLeave : List Nat → AHeap → Option AHeap
  | [], H => some H
  | M :: ms, H => match H.get M with
    | some (.defs false) => aLeave ms (H.set M (.defs true))
    | _ => none

theorem HRel.leave (h : HRel P B ρ H w) {M : Nat} {l : Loc} (hl : ρ M 0 = some l) (hg : H.get M = some (.defs false)) :
    (Instr.takeDeferred l.c).run P w = .ok [] (w.putObj l.c (.deferred none)) ∧ HRel P B ρ (H.set M (.defs true)) (w.putObj l.c (.deferred none)) := by
  obtain ⟨h1, l', h2, h3⟩ := h.obj M _ hg
  rw [hl] at h2; cases h2
  refine ⟨run_takeDeferred h3, h.putObj hg hl (fun x => by simp) (fun x => by simp) ⟨h1, l, hl, World.putObj_heap_same (Array.getElem?_eq_some_iff.1 h3).1⟩ (Side.putPlain h3 trivial trivial)⟩

theorem aRes1_run (h : HRel P B ρ H w) {tm : List AVal} {tmps : Array Value} (ht : VRels ρ tm tmps.toList) (f : ResultVar → Sem Value) (hf1 : ∀ t, f (.tmp t) = Pure.pure (tmps.getD t undef))
    (hf2 : ∀ a t, f (.cell a t) = (do loadVar t (← asAddr (tmps.getD a undef)))) : ∀ {rs : List ResultVar} {ars : List ARes} {vs : List AVal}, cRes P rs = some ars → aRess tm H ars = some vs →
    ∃ cvs, (rs.mapM (m := Sem) f).run P w = .ok cvs w ∧ VRels ρ vs cvs
  | [], ars, vs, hc, ha => by
    simp [cRes] at hc; subst hc
    simp [aRess] at ha; subst ha
    exact ⟨[], by simp, .nil⟩
  | x :: rs, ars, vs, hc, ha => by
    have hget : ∀ t, VRel ρ (tm.getD t aundef) (tmps.getD t undef) := fun t => by
      simp only [List.getD_eq_getElem?_getD, Array.getD_eq_getD_getElem?]
      cases hv : tm[t]? with
      | none =>
        have : tmps[t]? = none := by
          have h1 := ht.length
          have h2 := List.getElem?_eq_none_iff.1 hv
          rw [Array.getElem?_eq_none_iff]
          simp at h1; omega
        rw [this]; exact .raw _
      | some v =>
        obtain ⟨cv, h1, h2⟩ := ht.get _ _ hv
        rw [Array.getElem?_toList] at h1
        rw [h1]; exact h2
    cases x with
    | tmp t =>
      simp only [cRes] at hc
      obtain ⟨ars', h1, rfl⟩ := Option.map_eq_some_iff.1 hc
      simp only [aRess, aRes1, Option.bind_some] at ha
      obtain ⟨vs', h2, rfl⟩ := Option.map_eq_some_iff.1 ha
      obtain ⟨cvs, h3, h4⟩ := aRes1_run h ht f hf1 hf2 h1 h2
      refine ⟨_ :: cvs, ?_, .cons (hget t) h4⟩
      simp only [List.mapM_cons, hf1, Sem.run_bind, Sem.run_pure, Result.andThen_ok]
      rw [h3]
      simp
    | cell t ty =>
      simp only [cRes, Option.bind_eq_some_iff] at hc
      obtain ⟨⟨a, n⟩, hp, hc⟩ := hc
      obtain ⟨ars', h1, rfl⟩ := Option.map_eq_some_iff.1 hc
      obtain ⟨d, m, hd, hm, rfl, rfl⟩ := partSz_some hp
      simp only [aRess, Option.bind_eq_some_iff] at ha
      obtain ⟨v, hv, ha⟩ := ha
      obtain ⟨vs', h2, rfl⟩ := Option.map_eq_some_iff.1 ha
      obtain ⟨cvs, h3, h4⟩ := aRes1_run h ht f hf1 hf2 h1 h2
      simp only [aRes1] at hv
      split at hv
      · rename_i A ver off hxe
        obtain ⟨cells, hr, hif⟩ := Option.bind_eq_some_iff.1 hv
        obtain ⟨hfit, hif⟩ := ite_some hif
        have hx := hget t
        rw [hxe] at hx
        obtain ⟨l, hl, hcx⟩ := hx.ptr_inv
        have : ∃ cv, (do loadVar ty (← asAddr (tmps.getD t undef)) : Sem Value).run P w = .ok cv w ∧ VRel ρ v cv := by
          unfold aPart at hif
          cases hagg : isAggD d with
          | true =>
            simp only [hagg, if_true] at hif hfit
            cases hif
            obtain ⟨cvs, h1, h2⟩ := run_loadCells_rel (P := P) (h.rowAt hr hl) hfit
            refine ⟨.agg cvs.toArray, ?_, .agg h2⟩
            simp [hcx, asAddr, loadVar, run_isAgg' hd, hagg, run_sizeOf' hm, h1]
          | false =>
            simp only [hagg, Bool.false_eq_true, if_false] at hif
            obtain ⟨cv, h1, h2⟩ := run_load_rel (P := P) (h.rowAt hr hl) hif
            refine ⟨cv, ?_, h2⟩
            simp only [hcx, asAddr, loadVar, Sem.run_bind, Sem.run_pure, Result.andThen_ok, run_isAgg' hd, hagg, Bool.false_eq_true, if_false, h1]
        obtain ⟨cv, h5, h6⟩ := this
        refine ⟨cv :: cvs, ?_, .cons h6 h4⟩
        simp only [List.mapM_cons, hf2, Sem.run_bind, Sem.run_pure, Result.andThen_ok] at h5 ⊢
        rw [h5]
        simp only [Result.andThen_ok]
        rw [h3]
        simp
      · cases hv

theorem results_run (h : HRel P B ρ H w) {fn : Func} {tm : List AVal} {tmps : Array Value} (ht : VRels ρ tm tmps.toList) {ars : List ARes} {vs : List AVal} (hc : cRes P fn.results.toList = some ars) (ha : aRess tm H ars = some vs) :
    ∃ cv, (results fn tmps).run P w = .ok cv w ∧ VRel ρ (tup vs) cv := by
  obtain ⟨cvs, h1, h2⟩ := aRes1_run h ht (fun
    | .tmp t => Pure.pure (tmps.getD t undef)
    | .cell a t => do loadVar t (← asAddr (tmps.getD a undef))) (fun _ => rfl) (fun _ _ => rfl) hc ha
  refine ⟨if h : cvs.toArray.size = 1 then cvs.toArray[0] else .tuple cvs.toArray, ?_, ?_⟩
  · unfold results
    rw [Array.mapM_eq_mapM_toList, Sem.run_bind, Sem.run_map]
    refine Eq.trans (congrArg (fun x => (Result.andThen (Result.andThen x _) _)) (Eq.trans ?_ h1)) ?_
    · rfl
    · simp only [Result.andThen_ok, Sem.run_pure]
  · have hl := h2.length
    cases h2 with
    | nil => exact .tuple .nil
    | cons h3 h4 =>
      cases h4 with
      | nil => simpa [tup] using h3
      | cons h5 h6 =>
        simp only [tup]
        rw [dif_neg (by simp)]
        exact .tuple (.cons h3 (.cons h5 h6))

theorem LeavesInM_marks {fn : Func} {tm : List AVal} {tmps : Array Value} {ars : List ARes} (hc : cRes P fn.results.toList = some ars) {R : Ending → World → Prop} : ∀ (ms : List Nat) (ds : List Deferred) (H H' : AHeap) (w : World), HRel P B ρ H w → VRels ρ tm tmps.toList →
    MarksRel ρ ms ds → aLeave ms H = some H' → (∀ w' vs, aRess tm H' ars = some vs → HRel P B ρ H' w' → ∀ cv, VRel ρ (tup vs) cv → R (.returned cv) w') → ∀ vs, aRess tm H' ars = some vs → LeavesInM (FW none) 0 P fn tmps R ds .returning w
  | [], _, H, H', w, h, ht, .nil, hl, hR, vs, hv => by
    simp [aLeave] at hl; subst hl
    obtain ⟨cv, h1, h2⟩ := results_run h ht hc hv
    exact ⟨cv, h1, hR w vs hv h cv h2⟩
  | M :: ms, _, H, H', w, h, ht, .cons hM hms, hl, hR, vs, hv => by
    simp only [aLeave] at hl
    split at hl
    · rename_i hg
      obtain ⟨h1, h2⟩ := h.leave hM hg
      exact ⟨by simp, .inl ⟨_, _, rfl, h1, LeavesInM_marks hc ms _ _ H' _ h2 ht hms hl hR vs hv⟩⟩
    · cases hl

/-- How a function's body must end. -/
def AEnds (ars : List ARes) (R : AVal → AHeap → Prop) : Exit → ASt → Prop
  | .normal, st | .ret, st => ∃ H' vs, aLeave st.marks st.H = some H' ∧ aRess st.tm H' ars = some vs ∧ R (tup vs) H'
  | _, _ => False

/-- **A FUNCTION's CONTRACT FROM ITS BODY.** -/
theorem ACalls.of_body {f : FuncId} {fn : Func} {c : Code} {ars : List ARes} {args : List AVal} {R : AVal → AHeap → Prop} (hf : P.funcs[f]? = some fn) (hb : fn.body = some c) (hr : cRes P fn.results.toList = some ars)
    (h : AWp P none c (AEnds ars R) { tm := args ++ List.replicate (fn.ntmps - args.length) aundef, H := H, marks := [] }) : ACalls P f args H R := by
  intro B ρ w cargs hH hargs
  refine callsIn_of_wp_marks (F := FW none) hf hb trivial ?_ rfl
  have hl := hargs.length
  have hst : StRel P B ρ { tm := args ++ List.replicate (fn.ntmps - args.length) aundef, H := H, marks := [] } { tmps := cargs.toArray ++ Array.replicate (fn.ntmps - cargs.toArray.size) undef, defers := [] } w := by
    refine ⟨?_, hH, .nil⟩
    have := hargs.append (VRels.replicate_raw (ρ := ρ) undef (fn.ntmps - args.length))
    simp only [Array.toList_append, List.toList_toArray, Array.toList_replicate, List.size_toArray, hl]
    exact this
  refine wpIn_mono (h B ρ _ w hst) fun e a w' hq => ?_
  obtain ⟨st', ρ', h1, h2, h3⟩ := hq
  have fin : ∀ H' vs, aLeave st'.marks st'.H = some H' → aRess st'.tm H' ars = some vs → R (tup vs) H' → LeavesInM (FW none) 0 P fn a.tmps (CPost P B ρ R) a.defers .returning w' := fun H' vs e1 e2 e3 =>
    LeavesInM_marks hr st'.marks a.defers st'.H H' w' h2.H h2.tm h2.marks e1 (fun w'' vs' e4 e5 cv e6 => by
      rw [e2] at e4; cases e4
      exact ⟨_, cv, H', ρ', rfl, e3, e6, e5, h3⟩) vs e2
  cases e with
  | normal => obtain ⟨H', vs, e1, e2, e3⟩ := h1; exact fin H' vs e1 e2 e3
  | ret => obtain ⟨H', vs, e1, e2, e3⟩ := h1; exact fin H' vs e1 e2 e3
  | _ => exact h1.elim

end Go.Vm
