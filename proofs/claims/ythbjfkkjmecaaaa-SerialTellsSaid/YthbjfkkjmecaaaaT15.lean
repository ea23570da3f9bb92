/- The abstract machine, part 27: the evaluator for the kernel: code and calls. -/
import Derived.Test.YthbjfkkjmecaaaaT14
import Derived.Test.YthbjfkkjmecaaaaT13
set_option linter.unusedVariables false
set_option linter.unusedSimpArgs false
namespace Go.Vm
open Go
variable {P : Program}
def bEq (a b : Bool) : Bool := match a with
  | true => b
  | false => not b
theorem bEq_eq (a b : Bool) : bEq a b = (a == b) := by cases a <;> cases b <;> rfl
noncomputable def fWanted (g : Option (Nat × Bool)) (tm : FT) : Option Bool :=
  match g with
  | none => some true
  | some (d, b) => match fnth tm d with
    | some (.raw (.bool b')) => some (bEq b' b)
    | some (.raw (.tuple _)) => some false
    | _ => none
theorem fWanted_eq (g : Option (Nat × Bool)) (tm : List AVal) : fWanted g (toFT tm) = awanted g tm := by
  unfold fWanted awanted
  cases g with
  | none => rfl
  | some p =>
    obtain ⟨d, b⟩ := p
    simp only [fnth_eq, bEq_eq]
    cases tm[d]? with
    | none => rfl
    | some v => cases v with
      | raw c => cases c <;> rfl
      | _ => rfl
noncomputable def fPut {R : Type} (d : Option Nat) (v : AVal) (tm : FT) (k : FT → R) : R :=
  match d with
  | some d => vK v fun v' => fsetK v' tm d k
  | none => k tm
theorem fPut_eq {R : Type} (d : Option Nat) (v : AVal) (tm : List AVal) (H : AHeap) (ms : List Nat) (k : FT → R) : fPut d v (toFT tm) k = k (toFT (({ tm := tm, H := H, marks := ms } : ASt).put d v).tm) := by
  cases d with
  | none => rfl
  | some d => simp only [fPut, vK_eq]; exact fsetK_eq v tm d k
def okS (x : Option ASt) (k : FT → AHeap → Res) : Res :=
  match x with
  | some s => k (toFT s.tm) s.H
  | none => none
noncomputable def fStep (o : AOper) : Oracle → FT → AHeap → (FT → AHeap → Res) → Res := fun or tm H k =>
  match fWanted o.guard tm with
  | none => none
  | some false => fPut o.dst aundef tm fun tm' => k tm' H
  | some true => fOp o.op or tm H fun v H' => fPut o.dst v tm fun tm' => k tm' H'
theorem aStep_sem (or : Oracle) (st : ASt) (o : AOper) : aStep or st o = match awanted o.guard st.tm with
    | none => none
    | some false => some (st.put o.dst aundef)
    | some true => (opSem or st.tm o.op st.H).map fun (v, H') => { st with H := H' }.put o.dst v := by
  unfold aStep opSem
  split <;> simp_all
  split <;> simp_all
theorem fStep_eq (o : AOper) (or : Oracle) (tm : List AVal) (H : AHeap) (ms : List Nat) (k : FT → AHeap → Res) : fStep o or (toFT tm) H k = okS (aStep or ⟨tm, H, ms⟩ o) k := by
  unfold fStep
  rw [aStep_sem, fWanted_eq]
  simp only
  cases awanted o.guard tm with
  | none => rfl
  | some b =>
    cases b with
    | false =>
      simp only [okS, put_H]
      exact fPut_eq o.dst aundef tm H ms _
    | true =>
      simp only
      rw [fOp_ok]
      cases opSem or tm o.op H with
      | none => rfl
      | some x =>
        obtain ⟨v, H'⟩ := x
        simp only [ok2, Option.map_some, okS, put_H]
        exact fPut_eq o.dst v tm H' ms _
noncomputable def fSteps (os : List AOper) : Oracle → FT → AHeap → (FT → AHeap → Res) → Res :=
  List.rec (motive := fun _ => Oracle → FT → AHeap → (FT → AHeap → Res) → Res) (fun or tm H k => k tm H) (fun o _ ih or tm H k => fStep o or tm H fun tm' H' => ih or tm' H' k) os
theorem aStep_marks {or : Oracle} {st s : ASt} {o : AOper} (h : aStep or st o = some s) : s.marks = st.marks := by
  rw [aStep_sem] at h
  split at h
  · cases h
  · cases h; exact put_marks _ _ _
  · obtain ⟨x, _, rfl⟩ := Option.map_eq_some_iff.1 h
    exact put_marks _ _ _
theorem aSteps_marks {or : Oracle} : ∀ {os : List AOper} {st s : ASt}, aSteps or os st = some s → s.marks = st.marks
  | [], st, s, h => by cases h; rfl
  | o :: os, st, s, h => by
    simp only [aSteps, Option.bind_eq_some_iff] at h
    obtain ⟨s1, h1, h2⟩ := h
    rw [aSteps_marks h2, aStep_marks h1]
theorem fSteps_eq : ∀ (os : List AOper) (or : Oracle) (tm : List AVal) (H : AHeap) (ms : List Nat) (k : FT → AHeap → Res), fSteps os or (toFT tm) H k = okS (aSteps or os ⟨tm, H, ms⟩) k
  | [], _, _, _, _, _ => rfl
  | o :: os, or, tm, H, ms, k => by
    show fStep o or (toFT tm) H (fun tm' H' => fSteps os or tm' H' k) = _
    rw [fStep_eq o or tm H ms]
    simp only [aSteps]
    cases h : aStep or ⟨tm, H, ms⟩ o with
    | none => rfl
    | some s =>
      simp only [okS, Option.bind_some]
      have := aStep_marks h
      rw [fSteps_eq os or s.tm s.H ms k]
      have e : (⟨s.tm, s.H, ms⟩ : ASt) = s := by
        obtain ⟨a, b, c⟩ := s; simp only at this; subst this; rfl
      rw [e]; rfl
def noOr : Oracle := fun _ _ _ => none
theorem opSem_no (tm : List AVal) (op : AOp) (H : AHeap) : opSem noOr tm op H = aOp tm op H := by
  unfold opSem
  cases op <;> rfl
noncomputable def fFlt (o : AOper) (tm : FT) (H : AHeap) (k : AVal → AHeap → Res) : Res :=
  match fWanted o.guard tm with
  | none => none
  | some false => k aundef H
  | some true => fOp o.op noOr tm H k
theorem fFlt_eq (o : AOper) (tm : List AVal) (H : AHeap) (ms : List Nat) (k : AVal → AHeap → Res) : fFlt o (toFT tm) H k = ok2 (fltVal o ⟨tm, H, ms⟩) k := by
  unfold fFlt fltVal
  rw [fWanted_eq]
  simp only
  cases awanted o.guard tm with
  | none => rfl
  | some b =>
    cases b with
    | false => rfl
    | true => simp only; rw [fOp_ok, opSem_no]
noncomputable def fDraw (aos : List AOper) (or : Oracle) (ps : List PStep) : FT → AHeap → List Told → List (List Nat × AHeap) → (FT → AHeap → List Told → List (List Nat × AHeap) → Res) → Res :=
  List.rec (motive := fun _ => FT → AHeap → List Told → List (List Nat × AHeap) → (FT → AHeap → List Told → List (List Nat × AHeap) → Res) → Res) (fun tm H V Hs k => k tm H V Hs)
    (fun p _ ih tm H V Hs k => PStep.rec (motive := fun _ => Res)
      (fun i => match lnth aos i with
        | some o => fFlt o tm H fun v H' => fPut o.dst v tm fun tm' => ih tm' H' (Bool.rec (motive := fun _ => List Told) V ({ i := i, o := o, v := v, tm := tm.flatten } :: V) o.op.reads) Hs k
        | none => none)
      (fun i obl => match lnth aos i with
        | some o => fStep o or tm H fun tm' H' => Bool.rec (motive := fun _ => Res) none (ih tm' H' V ((obl, H') :: Hs) k) (Nat.ble H.next H'.next)
        | none => none) p) ps
theorem fDraw_eq (aos : List AOper) (or : Oracle) : ∀ (ps : List PStep) (tm : List AVal) (H : AHeap) (ms : List Nat) (V : List Told) (Hs : List (List Nat × AHeap)) (k : FT → AHeap → List Told → List (List Nat × AHeap) → Res),
    fDraw aos or ps (toFT tm) H V Hs k = match drawGo or aos ps ⟨tm, H, ms⟩ with
      | some (s, V', Hs') => k (toFT s.tm) s.H (V'.reverse ++ V) (Hs'.reverse ++ Hs)
      | none => none
  | [], tm, H, ms, V, Hs, k => by simp [fDraw, drawGo]
  | .mob i :: ps, tm, H, ms, V, Hs, k => by
    show (match lnth aos i with
        | some o => fFlt o (toFT tm) H fun v H' => fPut o.dst v (toFT tm) fun tm' => fDraw aos or ps tm' H' (Bool.rec (motive := fun _ => List Told) V ({ i := i, o := o, v := v, tm := (toFT tm).flatten } :: V) o.op.reads) Hs k
        | none => none) = _
    rw [lnth_eq, toFT_flat]
    simp only [drawGo]
    cases aos[i]? with
    | none => rfl
    | some o =>
      simp only [Option.bind_some]
      rw [fFlt_eq o tm H ms]
      cases fltVal o ⟨tm, H, ms⟩ with
      | none => rfl
      | some x =>
        obtain ⟨v, H'⟩ := x
        simp only [ok2, Option.bind_some]
        rw [fPut_eq o.dst v tm H' ms, fDraw_eq aos or ps _ H' ms]
        have e : (⟨(({ tm := tm, H := H', marks := ms } : ASt).put o.dst v).tm, H', ms⟩ : ASt) = ({ tm := tm, H := H', marks := ms } : ASt).put o.dst v := by cases o.dst <;> rfl
        rw [e]
        cases drawGo or aos ps (({ tm := tm, H := H', marks := ms } : ASt).put o.dst v) with
        | none => rfl
        | some y =>
          obtain ⟨s, V', Hs'⟩ := y
          simp only [Option.map_some]
          cases o.op.reads <;> simp
  | .imm i obl :: ps, tm, H, ms, V, Hs, k => by
    show (match lnth aos i with
        | some o => fStep o or (toFT tm) H fun tm' H' => Bool.rec (motive := fun _ => Res) none (fDraw aos or ps tm' H' V ((obl, H') :: Hs) k) (Nat.ble H.next H'.next)
        | none => none) = _
    rw [lnth_eq]
    simp only [drawGo]
    cases aos[i]? with
    | none => rfl
    | some o =>
      simp only [Option.bind_some]
      rw [fStep_eq o or tm H ms]
      cases h : aStep or ⟨tm, H, ms⟩ o with
      | none => rfl
      | some s1 =>
        simp only [okS, Option.bind_some]
        have hm := aStep_marks h
        cases Nat.ble H.next s1.H.next with
        | false => rfl
        | true =>
          simp only [if_true]
          rw [fDraw_eq aos or ps s1.tm s1.H ms]
          have e : (⟨s1.tm, s1.H, ms⟩ : ASt) = s1 := by
            obtain ⟨a, b, c⟩ := s1; simp only at hm; subst hm; rfl
          rw [e]
          cases drawGo or aos ps s1 with
          | none => rfl
          | some y => obtain ⟨s, V', Hs'⟩ := y; simp
noncomputable def fYld (x : Told) (H : AHeap) : Bool :=
  match fWanted x.o.guard (toFT x.tm) with
  | none => false
  | some false => AVal.beq aundef x.v || (match x.v with | .raw (.tuple _) => true | _ => false)
  | some true => match fOp x.o.op noOr (toFT x.tm) H (fun v _ => Bool.rec (motive := fun _ => Res) none (some (aundef, H)) (AVal.beq v x.v)) with
    | some _ => true
    | none => false
theorem fYld_eq (x : Told) (H : AHeap) : fYld x H = yldB x H := by
  unfold fYld yldB
  rw [fWanted_eq]
  cases awanted x.o.guard x.tm with
  | none => rfl
  | some b =>
    cases b with
    | false => rfl
    | true =>
      simp only
      rw [fOp_ok, opSem_no]
      cases aOp x.tm x.o.op H with
      | none => rfl
      | some y =>
        obtain ⟨v, H'⟩ := y
        simp only [ok2]
        cases AVal.beq v x.v <;> rfl
noncomputable def fAsked (V : List Told) : List (List Nat × AHeap) → Bool
  | [] => true
  | (obl, H) :: r => (V.all fun x => !hasN obl x.i || fYld x H) && fAsked V r
theorem fAsked_eq (V : List Told) : ∀ (l : List (List Nat × AHeap)), fAsked V l = allAsked V l
  | [] => rfl
  | (obl, H) :: r => by simp only [fAsked, allAsked, fYld_eq, fAsked_eq V r]
noncomputable def fDraws (aos : List AOper) (ps : List PStep) (start : List Nat) (or : Oracle) (tm : FT) (H : AHeap) (k : FT → AHeap → Res) : Res :=
  fDraw aos or ps tm H [] [] fun tm' H' V Hs => match V with
    | [] => k tm' H'
    | x :: V' => Bool.rec (motive := fun _ => Res) none (k tm' H') (fAsked (x :: V').reverse ((start, H) :: Hs.reverse))
theorem allAsked_nil : ∀ (l : List (List Nat × AHeap)), allAsked [] l = true
  | [] => rfl
  | (obl, H) :: r => by simp [allAsked, allAsked_nil r]
theorem fDraws_eq (aos : List AOper) (ps : List PStep) (start : List Nat) (or : Oracle) (tm : List AVal) (H : AHeap) (ms : List Nat) (k : FT → AHeap → Res) : fDraws aos ps start or (toFT tm) H k = okS (aDraw or aos ps start ⟨tm, H, ms⟩) k := by
  unfold fDraws aDraw
  rw [fDraw_eq aos or ps tm H ms]
  cases drawGo or aos ps ⟨tm, H, ms⟩ with
  | none => rfl
  | some y =>
    obtain ⟨s, V, Hs⟩ := y
    simp only [List.append_nil, Option.bind_some]
    cases hV : V.reverse with
    | nil =>
      have : V = [] := by simpa using hV
      subst this
      rw [allAsked_nil]; rfl
    | cons x V' =>
      simp only [fAsked_eq, List.reverse_reverse]
      have e : V'.reverse ++ [x] = V := by
        have := congrArg List.reverse hV
        simpa using this.symm
      simp only [List.reverse_cons, e]
      cases allAsked V ((start, H) :: Hs) <;> rfl
theorem drawGo_marks {or : Oracle} {aos : List AOper} : ∀ {ps : List PStep} {st s : ASt} {V Hs}, drawGo or aos ps st = some (s, V, Hs) → s.marks = st.marks
  | [], st, s, V, Hs, h => by
    simp only [drawGo, Option.some.injEq, Prod.mk.injEq] at h; rw [← h.1]
  | .mob i :: ps, st, s, V, Hs, h => by
    simp only [drawGo, Option.bind_eq_some_iff] at h
    obtain ⟨o, ho, ⟨v, H'⟩, hv, h⟩ := h
    obtain ⟨⟨s', V', Hs'⟩, h1, h2⟩ := Option.map_eq_some_iff.1 h
    cases h2
    rw [drawGo_marks h1, put_marks]
  | .imm i obl :: ps, st, s, V, Hs, h => by
    simp only [drawGo, Option.bind_eq_some_iff] at h
    obtain ⟨o, ho, st', hs, h⟩ := h
    obtain ⟨_, h⟩ := ite_some h
    obtain ⟨⟨s', V', Hs'⟩, h1, h2⟩ := Option.map_eq_some_iff.1 h
    cases h2
    rw [drawGo_marks h1, aStep_marks hs]
theorem aDraw_marks {or : Oracle} {aos : List AOper} {ps : List PStep} {start : List Nat} {st s : ASt} (h : aDraw or aos ps start st = some s) : s.marks = st.marks := by
  unfold aDraw at h
  obtain ⟨⟨s', V, Hs⟩, h1, h2⟩ := Option.bind_eq_some_iff.1 h
  obtain ⟨_, h3⟩ := ite_some h2
  cases h3
  exact drawGo_marks h1
abbrev FK := Exit → FT → AHeap → List Nat → Res
abbrev FC := Oracle → Bool → Nat → FT → AHeap → List Nat → FK → Res
def okC (x : Option (Exit × ASt)) (k : FK) : Res :=
  match x with
  | some (e, s) => k e (toFT s.tm) s.H s.marks
  | none => none
noncomputable def fLoop (body : FT → AHeap → List Nat → FK → Res) (n : Nat) : FT → AHeap → List Nat → FK → Res :=
  Nat.rec (motive := fun _ => FT → AHeap → List Nat → FK → Res) (fun _ _ _ _ => none) (fun _ ih tm H ms k => body tm H ms fun e tm' H' ms' => match e with
    | .normal => ih tm' H' ms' k
    | e => k e tm' H' ms') n
noncomputable def fRange (f : AOpd) (ps : List Nat) (a b : ACode) (or : Oracle) (top : Bool) (tm : FT) (H : AHeap) (ms : List Nat) (k : FK) : Res :=
  match top with
  | false => none
  | true => match fEv tm f with
    | .func (.func g) caps => match or (.func (.func g) caps) [.yield (Nat.add H.next 1)] (H.enter tm.flatten ps a b) with
      | some (_, H') => match aEndLoop H' (Nat.add H.next 1) with
        | some (j, H'') => match j with
          | none => k .normal tm H'' (H.next :: ms)
          | some .ret => k .ret tm H'' (H.next :: ms)
          | some (.exit id) => k (.exit id) tm H'' (H.next :: ms)
          | _ => none
        | none => none
      | none => none
    | _ => none
noncomputable def fCode (c : ACode) : FC :=
  ACode.rec (motive := fun _ => FC) (fun or top n tm H ms k => k .normal tm H ms) (fun ops or top n tm H ms k => fSteps ops or tm H fun tm' H' => k .normal tm' H' ms)
    (fun ops ps start or top n tm H ms k => fDraws ops ps start or tm H fun tm' H' => k .normal tm' H' ms)
    (fun _ _ iha ihb or top n tm H ms k => iha or top n tm H ms fun e tm' H' ms' => match e with
      | .normal => ihb or top n tm' H' ms' k
      | e => k e tm' H' ms')
    (fun c _ _ iha ihb or top n tm H ms k => match fEv tm c with
      | .raw (.bool t) => Bool.rec (motive := fun _ => Res) (ihb or top n tm H ms k) (iha or top n tm H ms k) t
      | _ => none)
    (fun id _ iha or top n tm H ms k => iha or top n tm H ms fun e tm' H' ms' => match e with
      | .exit j => Bool.rec (motive := fun _ => Res) (k (.exit j) tm' H' ms') (k .normal tm' H' ms') (Nat.beq j id)
      | e => k e tm' H' ms')
    (fun _ iha or top n tm H ms k => fLoop (iha or top n) n tm H ms k)
    (fun f ps a b _ _ or top n tm H ms k => fRange f ps a b or top tm H ms k)
    (fun id or top n tm H ms k => k (.exit id) tm H ms) (fun or top n tm H ms k => k .ret tm H ms) (fun _ _ _ _ _ _ _ => none) c
theorem fLoop_eq {body : FT → AHeap → List Nat → FK → Res} {f : ASt → Option (Exit × ASt)} (hb : ∀ tm H ms k, body (toFT tm) H ms k = okC (f ⟨tm, H, ms⟩) k) : ∀ (n : Nat) (tm : List AVal) (H : AHeap) (ms : List Nat) (k : FK), fLoop body n (toFT tm) H ms k = okC (aLoop f n ⟨tm, H, ms⟩) k
  | 0, _, _, _, _ => rfl
  | n + 1, tm, H, ms, k => by
    show body (toFT tm) H ms (fun e tm' H' ms' => match e with
      | .normal => fLoop body n tm' H' ms' k
      | e => k e tm' H' ms') = _
    rw [hb]
    simp only [aLoop]
    cases f ⟨tm, H, ms⟩ with
    | none => rfl
    | some x =>
      obtain ⟨e, s⟩ := x
      cases e with
      | normal => simp only [okC]; rw [fLoop_eq hb n]; rfl
      | _ => rfl
theorem fRange_eq (f : AOpd) (ps : List Nat) (a b : ACode) (or : Oracle) (top : Bool) (n : Nat) (tm : List AVal) (H : AHeap) (ms : List Nat) (k : FK) : fRange f ps a b or top (toFT tm) H ms k = okC (aCode or top n (.rangeFunc f ps a b) ⟨tm, H, ms⟩) k := by
  unfold fRange
  cases top with
  | false => rfl
  | true =>
    simp only [aCode, if_true, fEv_eq, toFT_flat]
    cases ev tm f with
    | func fn caps =>
      cases fn with
      | func g =>
        simp only
        have e : Nat.add H.next 1 = H.next + 1 := rfl
        rw [e]
        cases or (.func (.func g) caps) [.yield (H.next + 1)] (H.enter tm ps a b) with
        | none => rfl
        | some x =>
          obtain ⟨v, H'⟩ := x
          simp only [Option.bind_some]
          cases aEndLoop H' (H.next + 1) with
          | none => rfl
          | some y =>
            obtain ⟨j, H''⟩ := y
            simp only [Option.bind_some]
            cases j with
            | none => rfl
            | some c => cases c <;> rfl
      | _ => rfl
    | _ => rfl
theorem fCode_eq (c : ACode) : ∀ (or : Oracle) (top : Bool) (n : Nat) (tm : List AVal) (H : AHeap) (ms : List Nat) (k : FK), fCode c or top n (toFT tm) H ms k = okC (aCode or top n c ⟨tm, H, ms⟩) k := by
  induction c with
  | skip => intros; rfl
  | region ops =>
    intro or top n tm H ms k
    show fSteps ops or (toFT tm) H (fun tm' H' => k .normal tm' H' ms) = _
    rw [fSteps_eq ops or tm H ms]
    simp only [aCode]
    cases h : aSteps or ops ⟨tm, H, ms⟩ with
    | none => rfl
    | some s => have := aSteps_marks h; simp only at this; simp only [okS, okC, Option.map_some, this]
  | draw ops ps start =>
    intro or top n tm H ms k
    show fDraws ops ps start or (toFT tm) H (fun tm' H' => k .normal tm' H' ms) = _
    rw [fDraws_eq ops ps start or tm H ms]
    simp only [aCode]
    cases h : aDraw or ops ps start ⟨tm, H, ms⟩ with
    | none => rfl
    | some s => have := aDraw_marks h; simp only at this; simp only [okS, okC, Option.map_some, this]
  | seq a b iha ihb =>
    intro or top n tm H ms k
    show fCode a or top n (toFT tm) H ms (fun e tm' H' ms' => match e with
      | .normal => fCode b or top n tm' H' ms' k
      | e => k e tm' H' ms') = _
    rw [iha]
    simp only [aCode]
    cases aCode or top n a ⟨tm, H, ms⟩ with
    | none => rfl
    | some x =>
      obtain ⟨e, s⟩ := x
      cases e with
      | normal => simp only [okC]; rw [ihb]; rfl
      | _ => rfl
  | cond c a b iha ihb =>
    intro or top n tm H ms k
    show (match fEv (toFT tm) c with
      | .raw (.bool t) => Bool.rec (motive := fun _ => Res) (fCode b or top n (toFT tm) H ms k) (fCode a or top n (toFT tm) H ms k) t
      | _ => none) = _
    rw [iha, ihb, fEv_eq]
    simp only [aCode]
    cases ev tm c with
    | raw v =>
      cases v with
      | bool t => cases t <;> rfl
      | _ => rfl
    | _ => rfl
  | block id a iha =>
    intro or top n tm H ms k
    show fCode a or top n (toFT tm) H ms (fun e tm' H' ms' => match e with
      | .exit j => Bool.rec (motive := fun _ => Res) (k (.exit j) tm' H' ms') (k .normal tm' H' ms') (Nat.beq j id)
      | e => k e tm' H' ms') = _
    rw [iha]
    simp only [aCode]
    cases aCode or top n a ⟨tm, H, ms⟩ with
    | none => rfl
    | some x =>
      obtain ⟨e, s⟩ := x
      cases e with
      | exit j =>
        simp only [okC]
        have hb : Nat.beq j id = decide (j = id) := by rw [Bool.eq_iff_iff]; simp
        rw [hb]
        by_cases h : j = id <;> simp [h]
      | _ => rfl
  | loop a iha =>
    intro or top n tm H ms k
    exact fLoop_eq (fun tm H ms k => iha or top n tm H ms k) n tm H ms k
  | rangeFunc f ps a b _ _ =>
    intro or top n tm H ms k
    exact fRange_eq f ps a b or top n tm H ms k
  | exit id => intros; rfl
  | ret => intros; rfl
  | bad => intros; rfl
noncomputable def fRes1 (tm : FT) (H : AHeap) : ARes → Option AVal
  | .tmp t => some (fget tm t)
  | .cell t agg n => match fget tm t with
    | .ptr A ver off => (fRow H A ver).bind fun cells => if off + n ≤ llenG cells then (Bool.rec (motive := fun _ => Option AVal) (lnth cells off) (some (.agg (ltk n (ldp off cells)))) agg) else none
    | _ => none
theorem fRes1_eq (tm : List AVal) (H : AHeap) (x : ARes) : fRes1 (toFT tm) H x = aRes1 tm H x := by
  cases x with
  | tmp t => simp only [fRes1, aRes1, fget_eq]
  | cell t agg n =>
    have e : ∀ (cells : List AVal) (off : Nat), (Bool.rec (motive := fun _ => Option AVal) (lnth cells off) (some (.agg (ltk n (ldp off cells)))) agg) = aPart agg cells off n := fun cells off => by
      cases agg with
      | false => simp only [lnth_eq]; rfl
      | true => simp only [ltk_eq, ldp_eq]; rfl
    simp only [fRes1, aRes1, fget_eq, fRow_eq, llenG_eq, e]
    cases tm.getD t aundef <;> rfl
noncomputable def fRess (tm : FT) (H : AHeap) (xs : List ARes) : Option (List AVal) := List.rec (motive := fun _ => Option (List AVal)) (some []) (fun x _ ih => (fRes1 tm H x).bind fun v => ih.map (v :: ·)) xs
theorem fRess_eq (tm : List AVal) (H : AHeap) : ∀ (xs : List ARes), fRess (toFT tm) H xs = aRess tm H xs
  | [] => rfl
  | x :: xs => by
    show ((fRes1 (toFT tm) H x).bind fun v => (fRess (toFT tm) H xs).map (v :: ·)) = _
    rw [fRes1_eq, fRess_eq tm H xs]; rfl
def padFT (n : Nat) : FT := toFT (List.replicate n aundef)
noncomputable def fArgs {R : Type} (args : List AVal) : Nat → FT → (FT → R) → R :=
  List.rec (motive := fun _ => Nat → FT → (FT → R) → R) (fun _ t k => k t) (fun x _ ih i t k => fsetK x t i fun t' => ih (Nat.succ i) t' k) args
def setFrom : List AVal → Nat → List AVal → List AVal
  | l, _, [] => l
  | l, i, x :: xs => setFrom (l.set i x) (i + 1) xs
theorem fArgs_eq {R : Type} : ∀ (args : List AVal) (i : Nat) (l : List AVal) (k : FT → R), fArgs args i (toFT l) k = k (toFT (setFrom l i args))
  | [], _, _, _ => rfl
  | x :: xs, i, l, k => by
    show fsetK x (toFT l) i (fun t' => fArgs xs (Nat.succ i) t' k) = _
    rw [fsetK_eq, fArgs_eq xs]; rfl
theorem setFrom_pad : ∀ (args pre : List AVal) (m : Nat), args.length ≤ m → setFrom (pre ++ List.replicate m aundef) pre.length args = pre ++ args ++ List.replicate (m - args.length) aundef
  | [], pre, m, _ => by simp [setFrom]
  | x :: xs, pre, 0, h => by simp at h
  | x :: xs, pre, m + 1, h => by
    simp only [setFrom]
    have e : (pre ++ List.replicate (m + 1) aundef).set pre.length x = (pre ++ [x]) ++ List.replicate m aundef := by
      rw [List.set_append_right _ _ (Nat.le_refl _)]
      simp [List.replicate_succ]
    rw [e]
    have := setFrom_pad xs (pre ++ [x]) m (by simp at h; omega)
    rw [show (pre ++ [x]).length = pre.length + 1 by simp] at this
    rw [this]
    simp
noncomputable def fInit {R : Type} (args : List AVal) (n : Nat) (k : FT → Option R) : Option R :=
  Bool.rec (motive := fun _ => Option R) (frameK (args ++ List.replicate (n - args.length) aundef) k) (fArgs args 0 (padFT n) k) (Nat.ble (llenG args) n)
theorem fInit_eq {R : Type} (args : List AVal) (n : Nat) (k : FT → Option R) : fInit args n k = k (toFT (args ++ List.replicate (n - args.length) aundef)) := by
  unfold fInit
  cases h : Nat.ble (llenG args) n with
  | false => simp only [frameK_eq]
  | true =>
    simp only
    unfold padFT
    rw [fArgs_eq]
    rw [llenG_eq] at h
    have := setFrom_pad args [] n (Nat.le_of_ble_eq_true h)
    simp only [List.nil_append, List.length_nil] at this
    rw [this]
noncomputable def fCallF (env : Nat → Option AFunc) (n : Nat) (or : Oracle) (f : Nat) (args : List AVal) (H : AHeap) : Res :=
  match env f with
  | some af => fInit args af.ntmps fun tm => fCode af.code or true n tm H [] fun e tm H ms => match e with
    | .normal => (aLeave ms H).bind fun H' => (fRess tm H' af.res).map fun vs => (tup vs, H')
    | .ret => (aLeave ms H).bind fun H' => (fRess tm H' af.res).map fun vs => (tup vs, H')
    | _ => none
  | none => none
theorem fCallF_eq (env : Nat → Option AFunc) (n : Nat) (or : Oracle) (f : Nat) (args : List AVal) (H : AHeap) : fCallF env n or f args H = callF env n or f args H := by
  unfold fCallF callF
  cases env f with
  | none => rfl
  | some af =>
    simp only [fInit_eq, fCode_eq, Option.bind_some]
    cases aCode or true n af.code { tm := args ++ List.replicate (af.ntmps - args.length) aundef, H := H, marks := [] } with
    | none => rfl
    | some x => obtain ⟨e, s⟩ := x; cases e <;> simp only [okC, fRess_eq]
noncomputable def fCallY (n : Nat) (or : Oracle) (L : Nat) (args : List AVal) (H : AHeap) : Res :=
  match fTr H.tr L with
  | some (.loop l) => match l.state with
    | .ready => Bool.rec (motive := fun _ => Res) none (frameK (setParams l.tmps l.params args) fun tm => fCode l.assign or false n tm H [] fun e tm H ms => match e with
        | .normal => match fTr H.tr L with
          | some (.loop l1) => match l1.state with
            | .ready => fPutK H L (.loop { l1 with state := .busy }) fun H1 => fCode l.body or false n tm H1 ms fun e tm2 H2 _ => match fTr H2.tr L with
              | some (.loop l2) => match e with
                | .normal => fPutK H2 L (.loop { l2 with state := .ready, pending := none }) fun H3 => some (abool true, H3)
                | .ret => fPutK H2 L (.loop { l2 with state := .done, pending := some .ret }) fun H3 => some (abool false, H3)
                | .exit id => fPutK H2 L (.loop { l2 with state := .done, pending := some (.exit id) }) fun H3 => some (abool false, H3)
                | _ => none
              | _ => none
            | _ => none
          | _ => none
        | _ => none) (Nat.beq args.length l.params.length)
    | _ => none
  | _ => none
theorem fCallY_eq (n : Nat) (or : Oracle) (L : Nat) (args : List AVal) (H : AHeap) : fCallY n or L args H = callY n or L args H := by
  unfold fCallY callY
  have hg : ∀ (G : AHeap), fTr G.tr L = G.get L := fun G => fTr_eq _ _
  simp only [hg, frameK_eq, fCode_eq, fPutK_eq]
  cases H.get L with
  | none => rfl
  | some o =>
    cases o with
    | loop l =>
      simp only
      cases l.state with
      | ready =>
        simp only
        have hb : Nat.beq args.length l.params.length = decide (args.length = l.params.length) := by rw [Bool.eq_iff_iff]; simp
        rw [hb]
        by_cases h : args.length = l.params.length
        · simp only [h, decide_true, if_true]
          cases aCode or false n l.assign { tm := setParams l.tmps l.params args, H := H, marks := [] } with
          | none => rfl
          | some x =>
            obtain ⟨e, s1⟩ := x
            cases e with
            | normal =>
              simp only [okC, fCode_eq]
              cases s1.H.get L with
              | none => rfl
              | some o1 =>
                cases o1 with
                | loop l1 =>
                  simp only
                  cases l1.state with
                  | ready =>
                    simp only
                    cases aCode or false n l.body { tm := s1.tm, H := s1.H.set L (.loop { l1 with state := .busy }), marks := s1.marks } with
                    | none => rfl
                    | some y =>
                      obtain ⟨e2, s2⟩ := y
                      simp only [okC]
                      cases s2.H.get L with
                      | none => rfl
                      | some o2 => cases o2 with
                        | loop l2 => cases e2 <;> rfl
                        | _ => rfl
                  | _ => rfl
                | _ => rfl
            | _ => rfl
        · simp [h]
      | _ => rfl
    | _ => rfl
noncomputable def envOf (t : List (List (Option AFunc))) (f : Nat) : Option AFunc :=
  match lnth t (Nat.div f 16) with
  | some l => match lnth l (Nat.mod f 16) with
    | some x => x
    | none => none
  | none => none
def RowIs (P : Program) : Nat → List (Option AFunc) → Prop
  | _, [] => True
  | k, none :: l => RowIs P (k + 1) l
  | k, some a :: l => envP P k = some a ∧ RowIs P (k + 1) l
def TabIs (P : Program) : Nat → List (List (Option AFunc)) → Prop
  | _, [] => True
  | k, l :: t => RowIs P (16 * k) l ∧ TabIs P (k + 1) t
theorem RowIs.get {P : Program} : ∀ {l : List (Option AFunc)} {k i : Nat} {a : AFunc}, RowIs P k l → l[i]? = some (some a) → envP P (k + i) = some a
  | [], k, i, a, _, h => by simp at h
  | none :: l, k, 0, a, _, h => by simp at h
  | none :: l, k, i + 1, a, hr, h => by
    have := RowIs.get (l := l) (k := k + 1) hr (by simpa using h)
    rw [show k + (i + 1) = k + 1 + i by omega]; exact this
  | some b :: l, k, 0, a, hr, h => by simp at h; subst h; exact hr.1
  | some b :: l, k, i + 1, a, hr, h => by
    have := RowIs.get (l := l) (k := k + 1) hr.2 (by simpa using h)
    rw [show k + (i + 1) = k + 1 + i by omega]; exact this
theorem TabIs.get {P : Program} : ∀ {t : List (List (Option AFunc))} {k q : Nat} {l : List (Option AFunc)}, TabIs P k t → t[q]? = some l → RowIs P (16 * (k + q)) l
  | [], k, q, l, _, h => by simp at h
  | l0 :: t, k, 0, l, hr, h => by simp at h; subst h; exact hr.1
  | l0 :: t, k, q + 1, l, hr, h => by
    have := TabIs.get (t := t) (k := k + 1) hr.2 (by simpa using h)
    rw [show k + (q + 1) = k + 1 + q by omega]; exact this
theorem envOf_ok {P : Program} {t : List (List (Option AFunc))} (h : TabIs P 0 t) : EnvOk P (envOf t) := fun f af hf => by
  unfold envOf at hf
  rw [lnth_eq] at hf
  cases ht : t[Nat.div f 16]? with
  | none => rw [ht] at hf; cases hf
  | some l =>
    rw [ht] at hf
    simp only [lnth_eq] at hf
    cases hl : l[Nat.mod f 16]? with
    | none => rw [hl] at hf; cases hf
    | some x =>
      rw [hl] at hf
      simp only at hf
      subst hf
      have h1 := (h.get ht).get hl
      rw [Nat.zero_add, show 16 * Nat.div f 16 + Nat.mod f 16 = f from Nat.div_add_mod f 16] at h1
      exact envP_ok f af h1
end Go.Vm
namespace Go.Vm
open Go
variable {P : Program} {B : Base} {ρ ρ' : Ren} {H H' : AHeap} {w w' : World}
abbrev Known := Nat → List AVal → AHeap → Res
def KnownOk (P : Program) (kn : Known) : Prop := ∀ f args H v H', kn f args H = some (v, H') → GoFn P f ∧ ACalls P f args H fun v' h' => v' = v ∧ h' = H'
def knOr (kn : Known) (or : Oracle) : Oracle := fun fv args H => match fv with
  | .func (.func f) caps => match kn f (args ++ caps) H with
    | some r => some r
    | none => or fv args H
  | _ => or fv args H
theorem knOr_ok {kn : Known} {or : Oracle} (hk : KnownOk P kn) (hor : OracleOk P or) : OracleOk P (knOr kn or) := fun fv args H v H' h => by
  unfold knOr at h
  split at h
  · rename_i f caps
    split at h
    · rename_i r hr
      cases h
      obtain ⟨h1, h2⟩ := hk _ _ _ _ _ hr
      exact ACalls.value h1 h2
    · exact hor _ _ _ _ _ h
  · exact hor _ _ _ _ _ h
theorem knOr_go {kn : Known} {or : Oracle} (hk : KnownOk P kn) (hgo : OracleGo P or) : OracleGo P (knOr kn or) := fun g caps args H x h => by
  unfold knOr at h
  simp only at h
  split at h
  · rename_i r hr
    obtain ⟨v, H'⟩ := r
    exact (hk _ _ _ _ _ hr).1
  · exact hgo _ _ _ _ _ h
def callM (kn : Known) (env : Nat → Option AFunc) : Nat → Oracle
  | 0 => fun _ _ _ => none
  | n + 1 => knOr kn (stepOr env n (callM kn env n))
theorem callM_go {kn : Known} {env : Nat → Option AFunc} (hk : KnownOk P kn) (henv : EnvOk P env) : ∀ n, OracleGo P (callM kn env n)
  | 0 => fun _ _ _ _ _ h => by cases h
  | n + 1 => knOr_go hk (stepOr_go henv n _)
theorem callM_ok {kn : Known} {env : Nat → Option AFunc} (hk : KnownOk P kn) (henv : EnvOk P env) (hm : P.follows .mixedOrders = true) : ∀ n, OracleOk P (callM kn env n)
  | 0 => fun fv args H v H' h => by cases h
  | n + 1 => knOr_ok hk (stepOr_ok henv hm n (callM_ok hk henv hm n) (callM_go hk henv n))
noncomputable def fCallM (kn : Known) (env : Nat → Option AFunc) (n : Nat) : Oracle :=
  Nat.rec (motive := fun _ => Oracle) (fun _ _ _ => none) (fun n ih fv args H => match fv with
    | .func (.func f) caps => match kn f (lapp args caps) H with
      | some r => some r
      | none => fCallF env n ih f (lapp args caps) H
    | .yield L => fCallY n ih L args H
    | _ => none) n
theorem fCallM_eq (kn : Known) (env : Nat → Option AFunc) : ∀ (n : Nat), fCallM kn env n = callM kn env n
  | 0 => rfl
  | n + 1 => by
    funext fv args H
    show (match fv with
      | .func (.func f) caps => match kn f (lapp args caps) H with
        | some r => some r
        | none => fCallF env n (fCallM kn env n) f (lapp args caps) H
      | .yield L => fCallY n (fCallM kn env n) L args H
      | _ => none) = _
    rw [fCallM_eq kn env n]
    simp only [callM, knOr, stepOr, lapp_eq, fCallF_eq, fCallY_eq]
    cases fv with
    | func fn cs => cases fn <;> rfl
    | _ => rfl
theorem HRel.outlive (h : HRel P B ρ H w) (hs : w.heap.size ≤ w'.heap.size) (hf : ∀ c, c < w.heap.size → w'.heap[c]? = w.heap[c]?) (hsd : Side w w') : HRel P B ρ H w' where
  le := h.le
  fresh := h.fresh
  wf := h.wf
  dom := h.dom
  obj := fun A o ho => (h.obj A o ho).keep (Ren.le_refl _) (fun _ => rfl) fun v l hl => hf _ (h.lt A v l hl)
  sep := h.sep
  own := h.own
  lt := fun A v l hl => Nat.lt_of_lt_of_le (h.lt A v l hl) hs
  size := Nat.le_trans h.size hs
  frame := fun c hc hb => by rw [hf c (Nat.lt_of_lt_of_le hc h.size)]; exact h.frame c hc hb
  side := h.side.trans hsd
  ro := h.ro
theorem ACalls.closed {f : Nat} {v : Value} {H1 : AHeap} (h : ACalls P f [] .empty fun v' h' => v' = .raw v ∧ h' = H1) (H : AHeap) : ACalls P f [] H fun v' h' => v' = .raw v ∧ h' = H := by
  intro B ρ w cargs hH hargs
  refine (h (bare w) _ w cargs (HRel.bare P w) (by cases hargs; exact .nil)).mono fun e w' ⟨v', cv, H', ρ', e1, ⟨e2, e3⟩, e4, e5, e6⟩ => ?_
  subst e2
  cases e4
  exact ⟨_, v, H, ρ, e1, ⟨rfl, rfl⟩, .raw v, hH.outlive e5.size (fun c hc => e5.frame c hc fun x => x) e5.side, Ren.le_refl _⟩
noncomputable def yes (g : Nat) : Known := fun f args H => match args with
  | [] => Bool.rec (motive := fun _ => Res) none (some (abool true, H)) (Nat.beq f g)
  | _ => none
theorem yes_ok {g : Nat} (hg : GoFn P g) {H1 : AHeap} (h : ACalls P g [] .empty fun v' h' => v' = abool true ∧ h' = H1) : KnownOk P (yes g) := fun f args H v H' hy => by
  unfold yes at hy
  cases args with
  | cons a as => cases hy
  | nil =>
    cases hb : Nat.beq f g with
    | false => rw [hb] at hy; cases hy
    | true =>
      rw [hb] at hy
      have := Nat.beq_eq.mp hb
      subst this
      cases hy
      exact ⟨hg, h.closed H⟩
def noKnown : Known := fun _ _ _ => none
theorem noKnown_ok : KnownOk P noKnown := fun f args H v H' h => by cases h
noncomputable def saysM (kn : Known) (t : List (List (Option AFunc))) (n f : Nat) : Bool :=
  match fCallM kn (envOf t) n (.func (.func f) []) [] .empty with
  | some (.raw (.bool b), _) => b
  | _ => false
theorem saysM_ok {kn : Known} {t : List (List (Option AFunc))} {n f : Nat} (hk : KnownOk P kn) (ht : TabIs P 0 t) (hm : P.follows .mixedOrders = true) (h : saysM kn t n f = true) :
    GoFn P f ∧ ∃ H1, ACalls P f [] .empty fun v' h' => v' = abool true ∧ h' = H1 := by
  unfold saysM at h
  rw [fCallM_eq] at h
  split at h
  · rename_i b H1 he
    subst h
    have hgo := callM_go hk (envOf_ok ht) n _ _ _ _ _ he
    exact ⟨hgo, H1, (callM_ok hk (envOf_ok ht) hm n _ _ _ _ _ he).calls hgo⟩
  · cases h
theorem saysM_yes {kn : Known} {t : List (List (Option AFunc))} {n f : Nat} (hk : KnownOk P kn) (ht : TabIs P 0 t) (hm : P.follows .mixedOrders = true) (h : saysM kn t n f = true) : KnownOk P (yes f) :=
  let ⟨h1, H1, h2⟩ := saysM_ok hk ht hm h; yes_ok h1 h2
end Go.Vm
namespace Go.Vm
open Go
def SliceIs (H : AHeap) (base : Nat) (v : AVal) (l : List AVal) : Prop :=
  (v = anil ∧ l = []) ∨ ∃ R ver vs, base ≤ R ∧ R < H.next ∧ v = .slice R ver 0 l.length l.length false 1 ∧ H.get R = some (.row vs) ∧ vs[ver]? = some (some (0, l))
theorem SliceIs.rowAt {H : AHeap} {R ver : Nat} {vs : Vers} {l : List AVal} (h : H.get R = some (.row vs)) (hv : vs[ver]? = some (some (0, l))) : H.rowAt R ver = some l := by
  unfold AHeap.rowAt; rw [h]; simp only [hv]
theorem SliceIs.move {H H' : AHeap} {base : Nat} {v : AVal} {l : List AVal} (h : SliceIs H base v l) (hn : H.next ≤ H'.next) (hg : ∀ A, base ≤ A → A < H.next → H'.get A = H.get A) : SliceIs H' base v l := by
  rcases h with h | ⟨R, ver, vs, h1, h2, h3, h4, h5⟩
  · exact .inl h
  · exact .inr ⟨R, ver, vs, h1, by omega, h3, by rw [hg R h1 h2]; exact h4, h5⟩
theorem SliceIs.one {H : AHeap} {base : Nat} {v : AVal} {l : List AVal} (h : SliceIs H base v l) : v.one = true := by
  rcases h with ⟨rfl, _⟩ | ⟨R, ver, vs, _, _, rfl, _⟩ <;> rfl
theorem SliceIs.lenS {H : AHeap} {base : Nat} {v : AVal} {l : List AVal} (h : SliceIs H base v l) : aLenS v = some (aint l.length) := by
  rcases h with ⟨rfl, rfl⟩ | ⟨R, ver, vs, _, _, rfl, _⟩ <;> rfl
theorem SliceIs.cells1 {H : AHeap} {base : Nat} {v : AVal} {l : List AVal} (h : SliceIs H base v l) : v.cells = [v] := by
  rcases h with ⟨rfl, _⟩ | ⟨R, ver, vs, _, _, rfl, _⟩ <;> rfl
end Go.Vm
