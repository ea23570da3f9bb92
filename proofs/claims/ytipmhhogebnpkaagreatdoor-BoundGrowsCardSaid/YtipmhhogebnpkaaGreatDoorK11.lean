/- The abstract machine, part 16: the rules of code, loops, rounds and functions; the evaluator and that it is right. -/
import Derived.Test.YtipmhhogebnpkaaGreatDoorK10
namespace Go.Vm
open Go

set_option linter.unusedVariables false
set_option linter.unusedSimpArgs false

variable {P : Program} {B : Base} {ρ ρ' : Ren} {H H' : AHeap} {w w' : World} {r : Option Nat} {st : ASt} {Q Q' : Exit → ASt → Prop}

def AWp (P : Program) (r : Option Nat) (c : Code) (Q : Exit → ASt → Prop) (st : ASt) : Prop :=
  ∀ B ρ a w, StRel P B ρ st a w → c.wpIn (FW r) 0 P (AQ P B ρ Q) a w

theorem AWp.mono {c : Code} (h : AWp P r c Q st) (hq : ∀ e st, Q e st → Q' e st) : AWp P r c Q' st :=
  fun B ρ a w hs => wpIn_mono (h B ρ a w hs) fun _ _ _ ⟨st, ρ', h1, h2, h3⟩ => ⟨st, ρ', hq _ _ h1, h2, h3⟩

/-- What comes next where code ends normally. -/
def AThen (K : ASt → Prop) (Q : Exit → ASt → Prop) : Exit → ASt → Prop
  | .normal, st => K st
  | e, st => Q e st

def ABlock (id : Nat) (Q : Exit → ASt → Prop) : Exit → ASt → Prop
  | .exit id', st => if id' = id then Q .normal st else Q (.exit id') st
  | e, st => Q e st

theorem AWp.skip (h : Q .normal st) : AWp P r .skip Q st := fun _ _ _ _ hs => wpIn_skip ⟨st, _, h, hs, Ren.le_refl _⟩
theorem AWp.exit {id : Nat} (h : Q (.exit id) st) : AWp P r (.exit id) Q st := fun _ _ _ _ hs => wpIn_exit ⟨st, _, h, hs, Ren.le_refl _⟩
theorem AWp.ret (h : Q .ret st) : AWp P r .ret Q st := fun _ _ _ _ hs => wpIn_ret ⟨st, _, h, hs, Ren.le_refl _⟩

theorem AWp.seq {x y : Code} (h : AWp P r x (AThen (AWp P r y Q) Q) st) : AWp P r (.seq x y) Q st := fun B ρ a w hs =>
  wpIn_seq (wpIn_mono (h B ρ a w hs) fun e a w hq => by
    obtain ⟨st', ρ', h1, h2, h3⟩ := hq
    cases e with
    | normal => exact wpIn_mono (h1 B ρ' a w h2) fun _ _ _ hq => hq.le h3
    | _ => exact ⟨st', ρ', h1, h2, h3⟩)

theorem AWp.cond {x : Operand} {c d : Code} {ax : AOpd} {t : Bool} (hx : cOpd x = some ax) (he : ev st.tm ax = .raw (.bool t)) (h : AWp P r (if t then c else d) Q st) : AWp P r (.cond x c d) Q st := fun B ρ a w hs => by
  have := hs.ev _ _ hx
  rw [he] at this
  exact wpIn_cond this.raw_inv (h B ρ a w hs)

theorem AWp.block {id : Nat} {c : Code} (h : AWp P r c (ABlock id Q) st) : AWp P r (.block id c) Q st := fun B ρ a w hs =>
  wpIn_block (wpIn_mono (h B ρ a w hs) fun e a w hq => by
    obtain ⟨st', ρ', h1, h2, h3⟩ := hq
    cases e with
    | exit id' =>
      simp only [Exit.inBlock, ABlock] at h1 ⊢
      split
      · rename_i e; rw [if_pos e] at h1; exact ⟨st', ρ', h1, h2, h3⟩
      · rename_i e; rw [if_neg e] at h1; exact ⟨st', ρ', h1, h2, h3⟩
    | _ => exact ⟨st', ρ', h1, h2, h3⟩)

theorem AWp.region {id : Nat} {ops : Array Oper} (h : AOps P r ops (List.range ops.size) (Q .normal) st) : AWp P r (.region id ops false) Q st := fun B ρ a w hs =>
  wpIn_region (wpOpsIn_mono (fun e a w hq => by
    obtain ⟨st', ρ', ⟨rfl, h1⟩, h2, h3⟩ := hq
    exact ⟨st', ρ', h1, h2, h3⟩) _ _ _ (h B ρ a w hs))

/-- A loop, by a family of its states that goes down with each round. -/
theorem AWp.loop {c : Code} (T : Nat → ASt → Prop) (hT : ∀ n st, T n st → AWp P r c (AThen (fun st' => ∃ m, m < n ∧ T m st') Q) st) {n : Nat} (h0 : T n st) : AWp P r (.loop c) Q st := by
  intro B ρ a w hs b k cs hro hb hr
  have key : ∀ j st ρ a w, T j st → StRel P B ρ st a w →
      ∃ e a' w', AQ P B ρ Q e a' w' ∧ ArrivesIn (Machine.fenced P (FW r)) P (lone (b.atR a (.code c :: .inLoop c :: k)) cs w) b k cs e a' w' := by
    intro j
    induction j using Nat.strongRecOn with
    | _ j ih =>
      intro st ρ a w hI hs
      obtain ⟨e, a₁, w₁, ⟨st', ρ', h1, h2, h3⟩, harr⟩ := hT j st hI B ρ a w hs b (.inLoop c :: k) cs hro hb hr
      cases e with
      | normal =>
        obtain ⟨m, hlt, hm⟩ := h1
        obtain ⟨e₂, a₂, w₂, hq₂, harr₂⟩ := ih m hlt st' ρ' a₁ w₁ hm h2
        exact ⟨e₂, a₂, w₂, hq₂.le h3, .of_steps (StepsIn.trans harr (.one (fenced_calm hb hr rfl) stepR_inLoop)) harr₂⟩
      | exit id => exact ⟨_, a₁, w₁, ⟨st', ρ', h1, h2, h3⟩, .pass (x := .inLoop c) rfl (fun _ _ => .inl (by simp)) harr⟩
      | goto l => exact ⟨_, a₁, w₁, ⟨st', ρ', h1, h2, h3⟩, .pass (x := .inLoop c) rfl (fun _ _ => .inl (by simp)) harr⟩
      | ret => exact ⟨_, a₁, w₁, ⟨st', ρ', h1, h2, h3⟩, .pass (x := .inLoop c) rfl (fun _ _ => .inl (by simp)) harr⟩
      | panic ch => exact ⟨_, a₁, w₁, ⟨st', ρ', h1, h2, h3⟩, .pass (x := .inLoop c) rfl (fun _ _ => .inl (by simp)) harr⟩
      | outgrown => exact ⟨_, a₁, w₁, ⟨st', ρ', h1, h2, h3⟩, .pass (x := .inLoop c) rfl (fun _ _ => .inl (by simp)) harr⟩
  obtain ⟨e, a', w', hq, harr⟩ := key n st ρ a w h0 hs
  exact ⟨e, a', w', hq, .of_steps (.one (fenced_calm hb hr rfl) stepR_loop) harr⟩

/-! ### Functions -/

inductive ARes where
  | tmp (t : Nat)
  | cell (t : Nat) (agg : Bool) (n : Nat)
  deriving Inhabited

structure AFunc where
  code : ACode
  ntmps : Nat
  res : List ARes
  deriving Inhabited

def cRes (P : Program) : List ResultVar → Option (List ARes)
  | [] => some []
  | .tmp t :: rs => (cRes P rs).map (.tmp t :: ·)
  | .cell t ty :: rs => (partSz P ty).bind fun (a, n) => (cRes P rs).map (.cell t a n :: ·)

def cFunc (P : Program) (fn : Func) : Option AFunc :=
  fn.body.bind fun c => (cCode P c).bind fun ac => (cRes P fn.results.toList).map fun rs => { code := ac, ntmps := fn.ntmps, res := rs }

def aRes1 (tm : List AVal) (H : AHeap) : ARes → Option AVal
  | .tmp t => some (tm.getD t aundef)
  | .cell t agg n => match tm.getD t aundef with
    | .ptr A ver off => (H.rowAt A ver).bind fun cells => if off + n ≤ cells.length then aPart agg cells off n else none
    | _ => none

def aRess (tm : List AVal) (H : AHeap) : List ARes → Option (List AVal)
  | [] => some []
  | x :: xs => (aRes1 tm H x).bind fun v => (aRess tm H xs).map (v :: ·)

def tup : List AVal → AVal
  | [v] => v
  | vs => .tuple vs

/-- The blocks for deferred calls of rounds are shut. -/
def aLeave : List Nat → AHeap → Option AHeap
  | [], H => some H
  | M :: ms, H => match H.get M with
    | some (.defs false) => aLeave ms (H.set M (.defs true))
    | _ => none

theorem HRel.leave (h : HRel P B ρ H w) {M : Nat} {l : Loc} (hl : ρ M 0 = some l) (hg : H.get M = some (.defs false)) :
    (Instr.takeDeferred l.c).run P w = .ok [] (w.putObj l.c (.deferred none)) ∧ HRel P B ρ (H.set M (.defs true)) (w.putObj l.c (.deferred none)) := by
  obtain ⟨h1, l', h2, h3⟩ := h.obj M _ hg
  rw [hl] at h2; cases h2
  refine ⟨run_takeDeferred h3, h.putObj hg hl (fun x => by simp) (fun x => by simp) ⟨h1, l, hl, World.putObj_heap_same (Array.getElem?_eq_some_iff.1 h3).1⟩ (Side.putPlain h3 trivial trivial)⟩

theorem aRes1_run (h : HRel P B ρ H w) {tm : List AVal} {tmps : Array Value} (ht : VRels ρ tm tmps.toList) (f : ResultVar → Sem Value) (hf1 : ∀ t, f (.tmp t) = Pure.pure (tmps.getD t undef))
    (hf2 : ∀ a t, f (.cell a t) = (do loadVar t (← asAddr (tmps.getD a undef)))) : ∀ {rs : List ResultVar} {ars : List ARes} {vs : List AVal}, cRes P rs = some ars → aRess tm H ars = some vs →
    ∃ cvs, (rs.mapM (m := Sem) f).run P w = .ok cvs w ∧ VRels ρ vs cvs
  | [], ars, vs, hc, ha => by
    simp [cRes] at hc; subst hc
    simp [aRess] at ha; subst ha
    exact ⟨[], by simp, .nil⟩
  | x :: rs, ars, vs, hc, ha => by
    have hget : ∀ t, VRel ρ (tm.getD t aundef) (tmps.getD t undef) := fun t => by
      simp only [List.getD_eq_getElem?_getD, Array.getD_eq_getD_getElem?]
      cases hv : tm[t]? with
      | none =>
        have : tmps[t]? = none := by
          have h1 := ht.length
          have h2 := List.getElem?_eq_none_iff.1 hv
          rw [Array.getElem?_eq_none_iff]
          simp at h1; omega
        rw [this]; exact .raw _
      | some v =>
        obtain ⟨cv, h1, h2⟩ := ht.get _ _ hv
        rw [Array.getElem?_toList] at h1
        rw [h1]; exact h2
    cases x with
    | tmp t =>
      simp only [cRes] at hc
      obtain ⟨ars', h1, rfl⟩ := Option.map_eq_some_iff.1 hc
      simp only [aRess, aRes1, Option.bind_some] at ha
      obtain ⟨vs', h2, rfl⟩ := Option.map_eq_some_iff.1 ha
      obtain ⟨cvs, h3, h4⟩ := aRes1_run h ht f hf1 hf2 h1 h2
      refine ⟨_ :: cvs, ?_, .cons (hget t) h4⟩
      simp only [List.mapM_cons, hf1, Sem.run_bind, Sem.run_pure, Result.andThen_ok]
      rw [h3]
      simp
    | cell t ty =>
      simp only [cRes, Option.bind_eq_some_iff] at hc
      obtain ⟨⟨a, n⟩, hp, hc⟩ := hc
      obtain ⟨ars', h1, rfl⟩ := Option.map_eq_some_iff.1 hc
      obtain ⟨d, m, hd, hm, rfl, rfl⟩ := partSz_some hp
      simp only [aRess, Option.bind_eq_some_iff] at ha
      obtain ⟨v, hv, ha⟩ := ha
      obtain ⟨vs', h2, rfl⟩ := Option.map_eq_some_iff.1 ha
      obtain ⟨cvs, h3, h4⟩ := aRes1_run h ht f hf1 hf2 h1 h2
      simp only [aRes1] at hv
      split at hv
      · rename_i A ver off hxe
        obtain ⟨cells, hr, hif⟩ := Option.bind_eq_some_iff.1 hv
        obtain ⟨hfit, hif⟩ := ite_some hif
        have hx := hget t
        rw [hxe] at hx
        obtain ⟨l, hl, hcx⟩ := hx.ptr_inv
        have : ∃ cv, (do loadVar ty (← asAddr (tmps.getD t undef)) : Sem Value).run P w = .ok cv w ∧ VRel ρ v cv := by
          unfold aPart at hif
          cases hagg : isAggD d with
          | true =>
            simp only [hagg, if_true] at hif hfit
            cases hif
            obtain ⟨cvs, h1, h2⟩ := run_loadCells_rel (P := P) (h.rowAt hr hl) hfit
            refine ⟨.agg cvs.toArray, ?_, .agg h2⟩
            simp [hcx, asAddr, loadVar, run_isAgg' hd, hagg, run_sizeOf' hm, h1]
          | false =>
            simp only [hagg, Bool.false_eq_true, if_false] at hif
            obtain ⟨cv, h1, h2⟩ := run_load_rel (P := P) (h.rowAt hr hl) hif
            refine ⟨cv, ?_, h2⟩
            simp only [hcx, asAddr, loadVar, Sem.run_bind, Sem.run_pure, Result.andThen_ok, run_isAgg' hd, hagg, Bool.false_eq_true, if_false, h1]
        obtain ⟨cv, h5, h6⟩ := this
        refine ⟨cv :: cvs, ?_, .cons h6 h4⟩
        simp only [List.mapM_cons, hf2, Sem.run_bind, Sem.run_pure, Result.andThen_ok] at h5 ⊢
        rw [h5]
        simp only [Result.andThen_ok]
        rw [h3]
        simp
      · cases hv

theorem results_run (h : HRel P B ρ H w) {fn : Func} {tm : List AVal} {tmps : Array Value} (ht : VRels ρ tm tmps.toList) {ars : List ARes} {vs : List AVal} (hc : cRes P fn.results.toList = some ars) (ha : aRess tm H ars = some vs) :
    ∃ cv, (results fn tmps).run P w = .ok cv w ∧ VRel ρ (tup vs) cv := by
  obtain ⟨cvs, h1, h2⟩ := aRes1_run h ht (fun
    | .tmp t => Pure.pure (tmps.getD t undef)
    | .cell a t => do loadVar t (← asAddr (tmps.getD a undef))) (fun _ => rfl) (fun _ _ => rfl) hc ha
  refine ⟨if h : cvs.toArray.size = 1 then cvs.toArray[0] else .tuple cvs.toArray, ?_, ?_⟩
  · unfold results
    rw [Array.mapM_eq_mapM_toList, Sem.run_bind, Sem.run_map]
    refine Eq.trans (congrArg (fun x => (Result.andThen (Result.andThen x _) _)) (Eq.trans ?_ h1)) ?_
    · rfl
    · simp only [Result.andThen_ok, Sem.run_pure]
  · have hl := h2.length
    cases h2 with
    | nil => exact .tuple .nil
    | cons h3 h4 =>
      cases h4 with
      | nil => simpa [tup] using h3
      | cons h5 h6 =>
        simp only [tup]
        rw [dif_neg (by simp)]
        exact .tuple (.cons h3 (.cons h5 h6))

theorem LeavesInM_marks {fn : Func} {tm : List AVal} {tmps : Array Value} {ars : List ARes} (hc : cRes P fn.results.toList = some ars) {R : Ending → World → Prop} : ∀ (ms : List Nat) (ds : List Deferred) (H H' : AHeap) (w : World), HRel P B ρ H w → VRels ρ tm tmps.toList →
    MarksRel ρ ms ds → aLeave ms H = some H' → (∀ w' vs, aRess tm H' ars = some vs → HRel P B ρ H' w' → ∀ cv, VRel ρ (tup vs) cv → R (.returned cv) w') → ∀ vs, aRess tm H' ars = some vs → LeavesInM (FW none) 0 P fn tmps R ds .returning w
  | [], _, H, H', w, h, ht, .nil, hl, hR, vs, hv => by
    simp [aLeave] at hl; subst hl
    obtain ⟨cv, h1, h2⟩ := results_run h ht hc hv
    exact ⟨cv, h1, hR w vs hv h cv h2⟩
  | M :: ms, _, H, H', w, h, ht, .cons hM hms, hl, hR, vs, hv => by
    simp only [aLeave] at hl
    split at hl
    · rename_i hg
      obtain ⟨h1, h2⟩ := h.leave hM hg
      exact ⟨by simp, .inl ⟨_, _, rfl, h1, LeavesInM_marks hc ms _ _ H' _ h2 ht hms hl hR vs hv⟩⟩
    · cases hl

/-- How a function's body must end. -/
def AEnds (ars : List ARes) (R : AVal → AHeap → Prop) : Exit → ASt → Prop
  | .normal, st | .ret, st => ∃ H' vs, aLeave st.marks st.H = some H' ∧ aRess st.tm H' ars = some vs ∧ R (tup vs) H'
  | _, _ => False

/-- **A FUNCTION's CONTRACT FROM ITS BODY.** -/
theorem ACalls.of_body {f : FuncId} {fn : Func} {c : Code} {ars : List ARes} {args : List AVal} {R : AVal → AHeap → Prop} (hf : P.funcs[f]? = some fn) (hb : fn.body = some c) (hr : cRes P fn.results.toList = some ars)
    (h : AWp P none c (AEnds ars R) { tm := args ++ List.replicate (fn.ntmps - args.length) aundef, H := H, marks := [] }) : ACalls P f args H R := by
  intro B ρ w cargs hH hargs
  refine callsIn_of_wp_marks (F := FW none) hf hb trivial ?_ rfl
  have hl := hargs.length
  have hst : StRel P B ρ { tm := args ++ List.replicate (fn.ntmps - args.length) aundef, H := H, marks := [] } { tmps := cargs.toArray ++ Array.replicate (fn.ntmps - cargs.toArray.size) undef, defers := [] } w := by
    refine ⟨?_, hH, .nil⟩
    have := hargs.append (VRels.replicate_raw (ρ := ρ) undef (fn.ntmps - args.length))
    simp only [Array.toList_append, List.toList_toArray, Array.toList_replicate, List.size_toArray, hl]
    exact this
  refine wpIn_mono (h B ρ _ w hst) fun e a w' hq => ?_
  obtain ⟨st', ρ', h1, h2, h3⟩ := hq
  have fin : ∀ H' vs, aLeave st'.marks st'.H = some H' → aRess st'.tm H' ars = some vs → R (tup vs) H' → LeavesInM (FW none) 0 P fn a.tmps (CPost P B ρ R) a.defers .returning w' := fun H' vs e1 e2 e3 =>
    LeavesInM_marks hr st'.marks a.defers st'.H H' w' h2.H h2.tm h2.marks e1 (fun w'' vs' e4 e5 cv e6 => by
      rw [e2] at e4; cases e4
      exact ⟨_, cv, H', ρ', rfl, e3, e6, e5, h3⟩) vs e2
  cases e with
  | normal => obtain ⟨H', vs, e1, e2, e3⟩ := h1; exact fin H' vs e1 e2 e3
  | ret => obtain ⟨H', vs, e1, e2, e3⟩ := h1; exact fin H' vs e1 e2 e3
  | _ => exact h1.elim

end Go.Vm
namespace Go.Vm
open Go

set_option linter.unusedVariables false
set_option linter.unusedSimpArgs false

variable {P : Program} {B : Base} {ρ ρ' : Ren} {H H' : AHeap} {w w' : World} {st : ASt} {Q Q' : Exit → ASt → Prop}

def newLoop (tm : List AVal) (ps : List Nat) (assign body : ACode) (D : Nat) : ALoop := { state := .ready, pending := none, tmps := tm, params := ps, assign := assign, body := body, defers := D }

/-- The heap when the loop is entered: the block for deferred calls, the loop's record. -/
def AHeap.enter (H : AHeap) (tm : List AVal) (ps : List Nat) (assign body : ACode) : AHeap := (H.push (.defs false)).push (.loop (newLoop tm ps assign body H.next))

/-- When the function that was ranged over has ended: the record is shut; the jump that is pending. -/
def aEndLoop (H : AHeap) (L : Nat) : Option (Option ACode × AHeap) :=
  match H.get L with
  | some (.loop l) => match l.state with
    | .busy => none
    | _ => some (l.pending, H.set L (.loop { l with state := .exhausted }))
  | _ => none

theorem Single.put_new {A : Nat} {l : Loc} (h : ∀ v, ρ A v = none) : Single (ρ.put A 0 l) A := fun v hv => by rw [Ren.put_ne _ _ (by omega)]; exact h v

theorem HRel.enter (h : HRel P B ρ H w) (fn : FuncId) {tm : List AVal} {tmps : Array Value} (ht : VRels ρ tm tmps.toList) {ps : Array Tmp} {ca cb : Code} {assign body : ACode} (ha : cCode P ca = some assign) (hb : cCode P cb = some body) :
    ∃ ρ', HRel P B ρ' (H.enter tm ps.toList assign body) ((w.alloc (.deferred (some []))).alloc (.loop { state := .ready, pending := none, fn, tmps, params := ps, assign := ca, body := cb, defers := w.heap.size })) ∧ ρ.le ρ' ∧
      ρ' H.next 0 = some ⟨w.heap.size, 0, 0⟩ ∧ ρ' (H.next + 1) 0 = some ⟨w.heap.size + 1, 0, 0⟩ := by
  have hn : ∀ v, ρ H.next v = none := fun v => h.fresh _ v (Nat.le_refl _)
  have h1 := h.push (o := .defs false) (co := .deferred (some [])) (s := 0) (n := 0) (fun l => by simp) ⟨Single.put_new hn, _, Ren.put_same _ _ _ _, World.alloc_heap_new _ _⟩
  have le1 := Ren.put_le (l := (⟨w.heap.size, 0, 0⟩ : Loc)) (hn 0)
  have hn2 : ∀ v, (ρ.put H.next 0 ⟨w.heap.size, 0, 0⟩) (H.next + 1) v = none := fun v => h1.fresh _ v (by simp)
  have le2 := Ren.put_le (l := (⟨(w.alloc (.deferred (some []))).heap.size, 0, 0⟩ : Loc)) (hn2 0)
  have h2 := h1.push (o := .loop (newLoop tm ps.toList assign body H.next)) (co := .loop { state := .ready, pending := none, fn, tmps, params := ps, assign := ca, body := cb, defers := w.heap.size }) (s := 0) (n := 0) (fun l => by simp)
    ⟨Single.put_new hn2, _, _, Ren.put_same _ _ _ _, World.alloc_heap_new _ _, rfl, trivial, ht.mono (Ren.le_trans le1 le2), rfl, ha, hb, _, le2 _ _ _ (Ren.put_same _ _ _ _), rfl⟩
  refine ⟨_, h2, Ren.le_trans le1 le2, le2 _ _ _ (Ren.put_same _ _ _ _), ?_⟩
  have := Ren.put_same (ρ.put H.next 0 ⟨w.heap.size, 0, 0⟩) (H.next + 1) 0 ⟨(w.alloc (.deferred (some []))).heap.size, 0, 0⟩
  simpa using this

theorem HRel.loopOf (h : HRel P B ρ H w) {L : Nat} {l : ALoop} (hg : H.get L = some (.loop l)) {x : Loc} (hx : ρ L 0 = some x) : Single ρ L ∧ ∃ r, w.heap[x.c]? = some (.loop r) ∧ LoopRel P ρ l r := by
  obtain ⟨h1, x', r, h2, h3, h4⟩ := h.obj L _ hg
  rw [hx] at h2; cases h2
  exact ⟨h1, r, h3, h4⟩

theorem HRel.putLoop (h : HRel P B ρ H w) {L : Nat} {l l' : ALoop} (hg : H.get L = some (.loop l)) {x : Loc} (hx : ρ L 0 = some x) {r' : Loop} (hrel : LoopRel P ρ l' r') :
    HRel P B ρ (H.set L (.loop l')) (w.putObj x.c (.loop r')) := by
  obtain ⟨h1, r, h2, h3⟩ := h.loopOf hg hx
  exact h.putObj hg hx (fun x => by simp) (fun x => by simp) ⟨h1, x, r', hx, World.putObj_heap_same (Array.getElem?_eq_some_iff.1 h2).1, hrel⟩ (Side.putPlain h2 trivial trivial)

theorem endLoop_run (h : HRel P B ρ H w) {L : Nat} {x : Loc} (hx : ρ L 0 = some x) {j : Option ACode} (he : aEndLoop H L = some (j, H')) :
    ∃ jump w', (Instr.endLoop x.c).run P w = .ok jump w' ∧ JumpRel P j jump ∧ HRel P B ρ H' w' := by
  unfold aEndLoop at he
  split at he
  · rename_i l hg
    obtain ⟨_, r, h2, h3, h4, h5, h6, h7, h8, h9⟩ := h.loopOf hg hx
    have hnb : r.state ≠ .busy := by
      rw [h3]; intro hb; rw [hb] at he; cases he
    have he' : some (l.pending, H.set L (.loop { l with state := .exhausted })) = some (j, H') := by
      rw [← he]
      split
      · rename_i hb; rw [h3, hb] at hnb; exact absurd rfl hnb
      · rfl
    cases he'
    exact ⟨r.pending, _, run_endLoop h2 hnb, h4, h.putLoop hg hx ⟨rfl, h4, h5, h6, h7, h8, h9⟩⟩
  · cases he

/-- How the statement goes on when its loop has ended. -/
def AJump (Q : Exit → ASt → Prop) : Option ACode → ASt → Prop
  | none, st => Q .normal st
  | some .ret, st => Q .ret st
  | some (.exit id), st => Q (.exit id) st
  | _, _ => False

theorem cCode_ret {c : Code} (h : cCode P c = some .ret) : c = .ret := by
  cases c with
  | ret => rfl
  | region id ops dr =>
    simp only [cCode] at h
    obtain ⟨_, _, h⟩ := Option.bind_eq_some_iff.1 h
    split at h
    · split at h <;> cases h
    · cases h
  | _ =>
    simp only [cCode] at h
    first
      | cases h; done
      | (obtain ⟨_, _, h⟩ := Option.map_eq_some_iff.1 h; cases h; done)
      | (obtain ⟨_, _, h⟩ := Option.bind_eq_some_iff.1 h; obtain ⟨_, _, h⟩ := Option.map_eq_some_iff.1 h; cases h; done)
      | (obtain ⟨_, _, h⟩ := Option.bind_eq_some_iff.1 h; obtain ⟨_, _, h⟩ := Option.bind_eq_some_iff.1 h; obtain ⟨_, _, h⟩ := Option.map_eq_some_iff.1 h; cases h; done)

theorem cCode_exit {c : Code} {id : Nat} (h : cCode P c = some (.exit id)) : c = .exit id := by
  cases c with
  | exit id' => simp [cCode] at h; rw [h]
  | region id ops dr =>
    simp only [cCode] at h
    obtain ⟨_, _, h⟩ := Option.bind_eq_some_iff.1 h
    split at h
    · split at h <;> cases h
    · cases h
  | _ =>
    simp only [cCode] at h
    first
      | cases h; done
      | (obtain ⟨_, _, h⟩ := Option.map_eq_some_iff.1 h; cases h; done)
      | (obtain ⟨_, _, h⟩ := Option.bind_eq_some_iff.1 h; obtain ⟨_, _, h⟩ := Option.map_eq_some_iff.1 h; cases h; done)
      | (obtain ⟨_, _, h⟩ := Option.bind_eq_some_iff.1 h; obtain ⟨_, _, h⟩ := Option.bind_eq_some_iff.1 h; obtain ⟨_, _, h⟩ := Option.map_eq_some_iff.1 h; cases h; done)

/-- **A RANGE OVER A FUNCTION**: the function is called with the loop's yield; behind it the record is shut, and the jump that a round has left is taken. -/
theorem AWp.rangeFunc {g : Operand} {ag : AOpd} {ps : Array Tmp} {ca cb : Code} {assign body : ACode} {f : FuncId} {caps : List AVal} (hg : cOpd g = some ag) (hgv : ev st.tm ag = .func (.func f) caps) (hf : GoFn P f)
    (ha : cCode P ca = some assign) (hb : cCode P cb = some body)
    (h : ACalls P f (.yield (st.H.next + 1) :: caps) (st.H.enter st.tm ps.toList assign body) fun _ H' => ∃ j H'', aEndLoop H' (st.H.next + 1) = some (j, H'') ∧ AJump Q j { st with H := H'', marks := st.H.next :: st.marks }) :
    AWp P none (.rangeFunc g ps ca cb) Q st := by
  intro B ρ a w hs
  refine wpIn_rangeFunc fun fn _ => ?_
  have hgr := hs.ev _ _ hg
  rw [hgv] at hgr
  obtain ⟨vs, hvs, hce⟩ := hgr.func_inv
  obtain ⟨ρ', h1, hle, h2, h3⟩ := hs.H.enter fn hs.tm (ps := ps) ha hb
  have hargs : VRels ρ' (.yield (st.H.next + 1) :: caps) (.func (.yield (w.heap.size + 1)) #[] #[] :: vs) := .cons (.yield h3) (hvs.mono hle)
  have hcall := h B ρ' _ _ h1 hargs
  refine ⟨_, _, _, { target := .fn (.func f) vs.toArray, args := #[.func (.yield (w.heap.size + 1)) #[] #[]] }, ((w.alloc (.deferred (some []))).alloc (.loop { state := .ready, pending := none, fn, tmps := a.tmps, params := ps, assign := ca, body := cb, defers := w.heap.size })), f, _, _, run_enterLoop_outer fn a.tmps ps ca cb, ?_, fun _ _ => trivial, ?_, fun h => by simp at h, callsIn_FW (CallsIn.mono hcall fun e w3 hp => ?_)⟩
  · simp only [resolve, rangeCall, hce, Deferred.ofValue, Sem.run_pure]
    simp [Act.eval]
  · have := run_callFunc (w := (w.alloc (.deferred (some []))).alloc (.loop { state := .ready, pending := none, fn, tmps := a.tmps, params := ps, assign := ca, body := cb, defers := w.heap.size })) hf (.func (.yield (w.heap.size + 1)) #[] #[] :: vs).toArray
    simpa [invoke] using this
  · obtain ⟨v, cv, H', ρ'', rfl, ⟨j, H'', e1, e2⟩, hv, hH, hle2⟩ := hp
    obtain ⟨jump, w4, e3, e4, e5⟩ := endLoop_run hH (hle2 _ _ _ h3) e1
    refine ⟨jump, w4, by simpa using e3, ?_⟩
    have hle3 := Ren.le_trans hle hle2
    have hst : StRel P B ρ'' { st with H := H'', marks := st.H.next :: st.marks } { a with defers := [{ target := .collected w.heap.size, args := #[] }] ++ a.defers } w4 :=
      ⟨hs.tm.mono hle3, e5, .cons (hle2 _ _ _ h2) (hs.marks.mono hle3)⟩
    cases jump with
    | none =>
      cases j with
      | none => exact ⟨_, ρ'', e2, hst, hle3⟩
      | some _ => exact e4.elim
    | some c =>
      cases j with
      | none => exact e4.elim
      | some jc =>
        cases jc with
        | ret =>
          rw [cCode_ret e4]
          exact wpIn_ret ⟨_, ρ'', e2, hst, hle3⟩
        | exit id =>
          rw [cCode_exit e4]
          exact wpIn_exit ⟨_, ρ'', e2, hst, hle3⟩
        | _ => exact e2.elim

/-! ### A round -/

def setParams : List AVal → List Nat → List AVal → List AVal
  | tm, p :: ps, a :: as => setParams (tm.set p a) ps as
  | tm, _, _ => tm

theorem setParams_rel : ∀ (ps : List Nat) {tm as : List AVal} {tmps cas : List Value}, VRels ρ tm tmps → VRels ρ as cas → VRels ρ (setParams tm ps as) ((ps.zip cas).foldl (fun t (p, a) => t.set p a) tmps)
  | [], _, _, _, _, h, _ => by simpa [setParams] using h
  | p :: ps, tm, _, tmps, _, h, .nil => by simpa [setParams] using h
  | p :: ps, tm, _, tmps, _, h, .cons h1 h2 => by
    simp only [setParams, List.zip_cons_cons, List.foldl_cons]
    exact setParams_rel ps (h.set h1 p) h2

/-- How a round's body must end. -/
def ARoundEnds (L : Nat) (R : AVal → AHeap → Prop) : Exit → ASt → Prop
  | .normal, st => ∃ l, st.H.get L = some (.loop l) ∧ R (abool true) (st.H.set L (.loop { l with state := .ready, pending := none }))
  | .ret, st => ∃ l, st.H.get L = some (.loop l) ∧ R (abool false) (st.H.set L (.loop { l with state := .done, pending := some .ret }))
  | .exit id, st => ∃ l, st.H.get L = some (.loop l) ∧ R (abool false) (st.H.set L (.loop { l with state := .done, pending := some (.exit id) }))
  | _, _ => False

/-- **A CALL OF yield**: the loop's left sides, then its body, in a frame of the round's own. -/
theorem ACallV.yield {L : Nat} {l : ALoop} {args : List AVal} {R : AVal → AHeap → Prop} (hg : H.get L = some (.loop l)) (hr : l.state = .ready) (hlen : args.length = l.params.length)
    (h : ∀ r ca cb, cCode P ca = some l.assign → cCode P cb = some l.body → AWp P (some r) ca (AThen (fun st1 => ∃ l1, st1.H.get L = some (.loop l1) ∧ l1.state = .ready ∧
      AWp P (some r) cb (ARoundEnds L R) { st1 with H := st1.H.set L (.loop { l1 with state := .busy }) }) fun _ _ => False) { tm := setParams l.tmps l.params args, H := H, marks := [] }) :
    ACallV P (.yield L) args H R := by
  intro B ρ w cf cargs hH hv hargs
  obtain ⟨x, hx, rfl⟩ := hv.yield_inv
  obtain ⟨_, rec, h2, h3, h4, h5, h6, h7, h8, h9⟩ := hH.loopOf hg hx
  have hal := hargs.length
  have hps : cargs.toArray.size = rec.params.size := by
    have : rec.params.size = l.params.length := by rw [← h6]; simp
    simp; omega
  refine ⟨{ target := .fn (.yield x.c) #[], args := cargs.toArray }, w, .round x.c rec.fn ((rec.params.zip cargs.toArray).foldl (fun tmps (t, a) => tmps.setIfInBounds t a) rec.tmps) rec.assign rec.body, w, by simp [Deferred.ofValue], ?_, ?_⟩
  · simp only [invoke]
    exact run_yield h2 hps
  · refine roundIn_of_wpIn (F := Fence.wide) (n := 0) trivial ?_
    have htm : VRels ρ (setParams l.tmps l.params args) ((rec.params.zip cargs.toArray).foldl (fun tmps (t, a) => tmps.setIfInBounds t a) rec.tmps).toList := by
      have := setParams_rel l.params h5 hargs
      have hfold : ∀ (zs : List (Nat × Value)) (t : Array Value), (zs.foldl (fun tmps (x : Nat × Value) => tmps.setIfInBounds x.1 x.2) t).toList = zs.foldl (fun t x => t.set x.1 x.2) t.toList := by
        intro zs
        induction zs with
        | nil => intro t; rfl
        | cons z zs ih => intro t; simp only [List.foldl_cons]; rw [ih]; simp
      rw [← Array.foldl_toList, Array.toList_zip]
      have e1 := hfold (rec.params.toList.zip cargs.toArray.toList) rec.tmps
      rw [h6] at e1 ⊢
      simp only at e1 ⊢
      rw [e1]
      exact this
    have hst : StRel P B ρ { tm := setParams l.tmps l.params args, H := H, marks := [] } { tmps := (rec.params.zip cargs.toArray).foldl (fun tmps (t, a) => tmps.setIfInBounds t a) rec.tmps, defers := [] } w := ⟨htm, hH, .nil⟩
    have hw := h x.c rec.assign rec.body h7 h8 B ρ _ w hst
    refine wpIn_mono hw fun e a1 w1 hq => ?_
    obtain ⟨st1, ρ1, q1, q2, q3⟩ := hq
    cases e with
    | normal =>
      obtain ⟨l1, g1, g2, g3⟩ := q1
      have hx1 := q3 _ _ _ hx
      obtain ⟨_, rec1, k2, k3, k4, k5, k6, k7, k8, k9⟩ := q2.H.loopOf g1 hx1
      refine ⟨_, run_beginRound k2 (by rw [k3]; exact g2), ?_⟩
      have hput := q2.H.putLoop (l' := { l1 with state := .busy }) (r' := { rec1 with state := .busy }) g1 hx1 ⟨rfl, k4, k5, k6, k7, k8, k9⟩
      have hst2 : StRel P B ρ1 { st1 with H := st1.H.set L (.loop { l1 with state := .busy }) } a1 (w1.putObj x.c (.loop { rec1 with state := .busy })) := ⟨q2.tm, hput, q2.marks⟩
      refine wpIn_mono (g3 B ρ1 a1 _ hst2) fun e2 a2 w2 hq2 => ?_
      obtain ⟨st2, ρ2, p1, p2, p3⟩ := hq2
      have hle := Ren.le_trans q3 p3
      have hx2 := p3 _ _ _ hx1
      cases e2 with
      | normal =>
        obtain ⟨l2, m1, m2⟩ := p1
        obtain ⟨_, rec2, n2, n3, n4, n5, n6, n7, n8, n9⟩ := p2.H.loopOf m1 hx2
        exact ⟨_, _, run_endRound none n2, _, _, _, ρ2, rfl, m2, .raw _, p2.H.putLoop (r' := { rec2 with state := .ready, pending := none }) m1 hx2 ⟨rfl, trivial, n5, n6, n7, n8, n9⟩, hle⟩
      | ret =>
        obtain ⟨l2, m1, m2⟩ := p1
        obtain ⟨_, rec2, n2, n3, n4, n5, n6, n7, n8, n9⟩ := p2.H.loopOf m1 hx2
        exact ⟨_, _, run_endRound (some .ret) n2, _, _, _, ρ2, rfl, m2, .raw _, p2.H.putLoop (r' := { rec2 with state := .done, pending := some .ret }) m1 hx2 ⟨rfl, rfl, n5, n6, n7, n8, n9⟩, hle⟩
      | exit id =>
        obtain ⟨l2, m1, m2⟩ := p1
        obtain ⟨_, rec2, n2, n3, n4, n5, n6, n7, n8, n9⟩ := p2.H.loopOf m1 hx2
        exact ⟨_, _, run_endRound (some (.exit id)) n2, _, _, _, ρ2, rfl, m2, .raw _, p2.H.putLoop (r' := { rec2 with state := .done, pending := some (.exit id) }) m1 hx2 ⟨rfl, rfl, n5, n6, n7, n8, n9⟩, hle⟩
      | goto _ => exact p1.elim
      | panic _ => exact p1.elim
      | outgrown => exact p1.elim
    | exit _ => exact q1.elim
    | goto _ => exact q1.elim
    | ret => exact q1.elim
    | panic _ => exact q1.elim
    | outgrown => exact q1.elim

end Go.Vm
