/- The abstract machine, part 27: the evaluator for the kernel: code and calls. -/
import Derived.Test.YthbjfkkjmecaaaaY13
import Derived.Test.YthbjfkkjmecaaaaY12
set_option linter.unusedVariables false
set_option linter.unusedSimpArgs false
namespace Go.Vm
open Go
section
variable {P : Program}
def bEq (a b : Bool) : Bool := match a with
 | true => b
 | false => not b
theorem ykg (a b : Bool) : bEq a b = (a == b) := by cases a <;> cases b <;> rfl
noncomputable def zra (g : Option (Nat × Bool)) (tm : FT) : Option Bool :=
 match g with
 | none => some true
 | some (d, b) => match yjk tm d with
  | some (.raw (.bool b')) => some (bEq b' b)
  | some (.raw (.tuple _)) => some false
  | _ => none
theorem zty (g : Option (Nat × Bool)) (tm : List AVal) : zra g (zwd tm) = zy6 g tm := by
 unfold zra zy6
 cases g with
 | none => rfl
 | some p =>
  obtain ⟨d, b⟩ := p
  simp only [yz5, ykg]
  cases tm[d]? with
  | none => rfl
  | some v => cases v with
   | raw c => cases c <;> rfl
   | _ => rfl
noncomputable def yk2 {R : Type} (d : Option Nat) (v : AVal) (tm : FT) (k : FT → R) : R :=
 match d with
 | some d => vK v fun v' => yzy v' tm d k
 | none => k tm
theorem zgg {R : Type} (d : Option Nat) (v : AVal) (tm : List AVal) (H : zz6) (ms : List Nat) (k : FT → R) : yk2 d v (zwd tm) k = k (zwd (({ tm := tm, H := H, marks := ms } : ASt).put d v).tm) := by
 cases d with
 | none => rfl
 | some d => simp only [yk2, yjp]; exact ze7 v tm d k
def okS (x : Option ASt) (k : FT → zz6 → Res) : Res :=
 match x with
 | some s => k (zwd s.tm) s.H
 | none => none
noncomputable def zc7 (o : zzu) : zzn → FT → zz6 → (FT → zz6 → Res) → Res := fun or tm H k =>
 match zra o.guard tm with
 | none => none
 | some false => yk2 o.dst zzc tm fun tm' => k tm' H
 | some true => fOp o.op or tm H fun v H' => yk2 o.dst v tm fun tm' => k tm' H'
theorem zla (or : zzn) (st : ASt) (o : zzu) : zu4 or st o = match zy6 o.guard st.tm with
  | none => none
  | some false => some (st.put o.dst zzc)
  | some true => (zwq or st.tm o.op st.H).map fun (v, H') => { st with H := H' }.put o.dst v := by
 unfold zu4 zwq
 split <;> simp_all
 split <;> simp_all
theorem ze4 (o : zzu) (or : zzn) (tm : List AVal) (H : zz6) (ms : List Nat) (k : FT → zz6 → Res) : zc7 o or (zwd tm) H k = okS (zu4 or ⟨tm, H, ms⟩ o) k := by
 unfold zc7
 rw [zla, zty]
 simp only
 cases zy6 o.guard tm with
 | none => rfl
 | some b =>
  cases b with
  | false =>
   simp only [okS, yyd]
   exact zgg o.dst zzc tm H ms _
  | true =>
   simp only
   rw [yyq]
   cases zwq or tm o.op H with
   | none => rfl
   | some x =>
    obtain ⟨v, H'⟩ := x
    simp only [ok2, Option.map_some, okS, yyd]
    exact zgg o.dst v tm H' ms _
noncomputable def zfs (os : List zzu) : zzn → FT → zz6 → (FT → zz6 → Res) → Res :=
 List.rec (motive := fun _ => zzn → FT → zz6 → (FT → zz6 → Res) → Res) (fun or tm H k => k tm H) (fun o _ ih or tm H k => zc7 o or tm H fun tm' H' => ih or tm' H' k) os
theorem zk9 {or : zzn} {st s : ASt} {o : zzu} (h : zu4 or st o = some s) : s.marks = st.marks := by
 rw [zla] at h
 split at h
 ·cases h
 ·cases h; exact zul _ _ _
 ·obtain ⟨x, _, rfl⟩ := Option.map_eq_some_iff.1 h
  exact zul _ _ _
theorem ztl {or : zzn} : ∀ {os : List zzu} {st s : ASt}, zqq or os st = some s → s.marks = st.marks
 | [], st, s, h => by cases h; rfl
 | o :: os, st, s, h => by
  simp only [zqq, Option.bind_eq_some_iff] at h
  obtain ⟨s1, h1, h2⟩ := h
  rw [ztl h2, zk9 h1]
theorem zh0 : ∀ (os : List zzu) (or : zzn) (tm : List AVal) (H : zz6) (ms : List Nat) (k : FT → zz6 → Res), zfs os or (zwd tm) H k = okS (zqq or os ⟨tm, H, ms⟩) k
 | [], _, _, _, _, _ => rfl
 | o :: os, or, tm, H, ms, k => by
  show zc7 o or (zwd tm) H (fun tm' H' => zfs os or tm' H' k) = _
  rw [ze4 o or tm H ms]
  simp only [zqq]
  cases h : zu4 or ⟨tm, H, ms⟩ o with
  | none => rfl
  | some s =>
   simp only [okS, Option.bind_some]
   have := zk9 h
   rw [zh0 os or s.tm s.H ms k]
   have e : (⟨s.tm, s.H, ms⟩ : ASt) = s := by
    obtain ⟨a, b, c⟩ := s; simp only at this; subst this; rfl
   rw [e]; rfl
def yu7 : zzn := fun _ _ _ => none
theorem zez (tm : List AVal) (op : AOp) (H : zz6) : zwq yu7 tm op H = aOp tm op H := by
 unfold zwq
 cases op <;> rfl
noncomputable def yjz (o : zzu) (tm : FT) (H : zz6) (k : AVal → zz6 → Res) : Res :=
 match zra o.guard tm with
 | none => none
 | some false => k zzc H
 | some true => fOp o.op yu7 tm H k
theorem yvz (o : zzu) (tm : List AVal) (H : zz6) (ms : List Nat) (k : AVal → zz6 → Res) : yjz o (zwd tm) H k = ok2 (zb6 o ⟨tm, H, ms⟩) k := by
 unfold yjz zb6
 rw [zty]
 simp only
 cases zy6 o.guard tm with
 | none => rfl
 | some b =>
  cases b with
  | false => rfl
  | true => simp only; rw [yyq, zez]
noncomputable def zap (aos : List zzu) (or : zzn) (ps : List zxx) : FT → zz6 → List Told → List (List Nat × zz6) → (FT → zz6 → List Told → List (List Nat × zz6) → Res) → Res :=
 List.rec (motive := fun _ => FT → zz6 → List Told → List (List Nat × zz6) → (FT → zz6 → List Told → List (List Nat × zz6) → Res) → Res) (fun tm H V Hs k => k tm H V Hs)
  (fun p _ ih tm H V Hs k => zxx.rec (motive := fun _ => Res)
   (fun i => match zp4 aos i with
    | some o => yjz o tm H fun v H' => yk2 o.dst v tm fun tm' => ih tm' H' (Bool.rec (motive := fun _ => List Told) V ({ i := i, o := o, v := v, tm := tm.flatten } :: V) o.op.reads) Hs k
    | none => none)
   (fun i obl => match zp4 aos i with
    | some o => zc7 o or tm H fun tm' H' => Bool.rec (motive := fun _ => Res) none (ih tm' H' V ((obl, H') :: Hs) k) (Nat.ble H.next H'.next)
    | none => none) p) ps
theorem zmk (aos : List zzu) (or : zzn) : ∀ (ps : List zxx) (tm : List AVal) (H : zz6) (ms : List Nat) (V : List Told) (Hs : List (List Nat × zz6)) (k : FT → zz6 → List Told → List (List Nat × zz6) → Res),
  zap aos or ps (zwd tm) H V Hs k = match zxu or aos ps ⟨tm, H, ms⟩ with
   | some (s, V', Hs') => k (zwd s.tm) s.H (V'.reverse ++ V) (Hs'.reverse ++ Hs)
   | none => none
 | [], tm, H, ms, V, Hs, k => by simp [zap, zxu]
 | .mob i :: ps, tm, H, ms, V, Hs, k => by
  show (match zp4 aos i with
    | some o => yjz o (zwd tm) H fun v H' => yk2 o.dst v (zwd tm) fun tm' => zap aos or ps tm' H' (Bool.rec (motive := fun _ => List Told) V ({ i := i, o := o, v := v, tm := (zwd tm).flatten } :: V) o.op.reads) Hs k
    | none => none) = _
  rw [zww, zse]
  simp only [zxu]
  cases aos[i]? with
  | none => rfl
  | some o =>
   simp only [Option.bind_some]
   rw [yvz o tm H ms]
   cases zb6 o ⟨tm, H, ms⟩ with
   | none => rfl
   | some x =>
    obtain ⟨v, H'⟩ := x
    simp only [ok2, Option.bind_some]
    rw [zgg o.dst v tm H' ms, zmk aos or ps _ H' ms]
    have e : (⟨(({ tm := tm, H := H', marks := ms } : ASt).put o.dst v).tm, H', ms⟩ : ASt) = ({ tm := tm, H := H', marks := ms } : ASt).put o.dst v := by cases o.dst <;> rfl
    rw [e]
    cases zxu or aos ps (({ tm := tm, H := H', marks := ms } : ASt).put o.dst v) with
    | none => rfl
    | some y =>
     obtain ⟨s, V', Hs'⟩ := y
     simp only [Option.map_some]
     cases o.op.reads <;> simp
 | .imm i obl :: ps, tm, H, ms, V, Hs, k => by
  show (match zp4 aos i with
    | some o => zc7 o or (zwd tm) H fun tm' H' => Bool.rec (motive := fun _ => Res) none (zap aos or ps tm' H' V ((obl, H') :: Hs) k) (Nat.ble H.next H'.next)
    | none => none) = _
  rw [zww]
  simp only [zxu]
  cases aos[i]? with
  | none => rfl
  | some o =>
   simp only [Option.bind_some]
   rw [ze4 o or tm H ms]
   cases h : zu4 or ⟨tm, H, ms⟩ o with
   | none => rfl
   | some s1 =>
    simp only [okS, Option.bind_some]
    have hm := zk9 h
    cases Nat.ble H.next s1.H.next with
    | false => rfl
    | true =>
     simp only [if_true]
     rw [zmk aos or ps s1.tm s1.H ms]
     have e : (⟨s1.tm, s1.H, ms⟩ : ASt) = s1 := by
      obtain ⟨a, b, c⟩ := s1; simp only at hm; subst hm; rfl
     rw [e]
     cases zxu or aos ps s1 with
     | none => rfl
     | some y => obtain ⟨s, V', Hs'⟩ := y; simp
noncomputable def yux (x : Told) (H : zz6) : Bool :=
 match zra x.o.guard (zwd x.tm) with
 | none => false
 | some false => AVal.beq zzc x.v || (match x.v with | .raw (.tuple _) => true | _ => false)
 | some true => match fOp x.o.op yu7 (zwd x.tm) H (fun v _ => Bool.rec (motive := fun _ => Res) none (some (zzc, H)) (AVal.beq v x.v)) with
  | some _ => true
  | none => false
theorem yq1 (x : Told) (H : zz6) : yux x H = yvn x H := by
 unfold yux yvn
 rw [zty]
 cases zy6 x.o.guard x.tm with
 | none => rfl
 | some b =>
  cases b with
  | false => rfl
  | true =>
   simp only
   rw [yyq, zez]
   cases aOp x.tm x.o.op H with
   | none => rfl
   | some y =>
    obtain ⟨v, H'⟩ := y
    simp only [ok2]
    cases AVal.beq v x.v <;> rfl
noncomputable def zex (V : List Told) : List (List Nat × zz6) → Bool
 | [] => true
 | (obl, H) :: r => (V.all fun x => !hasN obl x.i || yux x H) && zex V r
theorem zhr (V : List Told) : ∀ (l : List (List Nat × zz6)), zex V l = zw7 V l
 | [] => rfl
 | (obl, H) :: r => by simp only [zex, zw7, yq1, zhr V r]
noncomputable def zfg (aos : List zzu) (ps : List zxx) (start : List Nat) (or : zzn) (tm : FT) (H : zz6) (k : FT → zz6 → Res) : Res :=
 zap aos or ps tm H [] [] fun tm' H' V Hs => match V with
  | [] => k tm' H'
  | x :: V' => Bool.rec (motive := fun _ => Res) none (k tm' H') (zex (x :: V').reverse ((start, H) :: Hs.reverse))
theorem ztk : ∀ (l : List (List Nat × zz6)), zw7 [] l = true
 | [] => rfl
 | (obl, H) :: r => by simp [zw7, ztk r]
theorem zar (aos : List zzu) (ps : List zxx) (start : List Nat) (or : zzn) (tm : List AVal) (H : zz6) (ms : List Nat) (k : FT → zz6 → Res) : zfg aos ps start or (zwd tm) H k = okS (zmm or aos ps start ⟨tm, H, ms⟩) k := by
 unfold zfg zmm
 rw [zmk aos or ps tm H ms]
 cases zxu or aos ps ⟨tm, H, ms⟩ with
 | none => rfl
 | some y =>
  obtain ⟨s, V, Hs⟩ := y
  simp only [List.append_nil, Option.bind_some]
  cases hV : V.reverse with
  | nil =>
   have : V = [] := by simpa using hV
   subst this
   rw [ztk]; rfl
  | cons x V' =>
   simp only [zhr, List.reverse_reverse]
   have e : V'.reverse ++ [x] = V := by
    have := congrArg List.reverse hV
    simpa using this.symm
   simp only [List.reverse_cons, e]
   cases zw7 V ((start, H) :: Hs) <;> rfl
theorem zj0 {or : zzn} {aos : List zzu} : ∀ {ps : List zxx} {st s : ASt} {V Hs}, zxu or aos ps st = some (s, V, Hs) → s.marks = st.marks
 | [], st, s, V, Hs, h => by
  simp only [zxu, Option.some.injEq, Prod.mk.injEq] at h; rw [← h.1]
 | .mob i :: ps, st, s, V, Hs, h => by
  simp only [zxu, Option.bind_eq_some_iff] at h
  obtain ⟨o, ho, ⟨v, H'⟩, hv, h⟩ := h
  obtain ⟨⟨s', V', Hs'⟩, h1, h2⟩ := Option.map_eq_some_iff.1 h
  cases h2
  rw [zj0 h1, zul]
 | .imm i obl :: ps, st, s, V, Hs, h => by
  simp only [zxu, Option.bind_eq_some_iff] at h
  obtain ⟨o, ho, st', hs, h⟩ := h
  obtain ⟨_, h⟩ := zyh h
  obtain ⟨⟨s', V', Hs'⟩, h1, h2⟩ := Option.map_eq_some_iff.1 h
  cases h2
  rw [zj0 h1, zk9 hs]
theorem zgn {or : zzn} {aos : List zzu} {ps : List zxx} {start : List Nat} {st s : ASt} (h : zmm or aos ps start st = some s) : s.marks = st.marks := by
 unfold zmm at h
 obtain ⟨⟨s', V, Hs⟩, h1, h2⟩ := Option.bind_eq_some_iff.1 h
 obtain ⟨_, h3⟩ := zyh h2
 cases h3
 exact zj0 h1
abbrev FK := Exit → FT → zz6 → List Nat → Res
abbrev FC := zzn → Bool → Nat → FT → zz6 → List Nat → FK → Res
def okC (x : Option (Exit × ASt)) (k : FK) : Res :=
 match x with
 | some (e, s) => k e (zwd s.tm) s.H s.marks
 | none => none
noncomputable def yqx (body : FT → zz6 → List Nat → FK → Res) (n : Nat) : FT → zz6 → List Nat → FK → Res :=
 Nat.rec (motive := fun _ => FT → zz6 → List Nat → FK → Res) (fun _ _ _ _ => none) (fun _ ih tm H ms k => body tm H ms fun e tm' H' ms' => match e with
  | .normal => ih tm' H' ms' k
  | e => k e tm' H' ms') n
noncomputable def zaq (f : AOpd) (ps : List Nat) (a b : zym) (or : zzn) (top : Bool) (tm : FT) (H : zz6) (ms : List Nat) (k : FK) : Res :=
 match top with
 | false => none
 | true => match fEv tm f with
  | .func (.func g) caps => match or (.func (.func g) caps) [.yield (Nat.add H.next 1)] (H.enter tm.flatten ps a b) with
   | some (_, H') => match zjk H' (Nat.add H.next 1) with
    | some (j, H'') => match j with
     | none => k .normal tm H'' (H.next :: ms)
     | some .ret => k .ret tm H'' (H.next :: ms)
     | some (.exit id) => k (.exit id) tm H'' (H.next :: ms)
     | _ => none
    | none => none
   | none => none
  | _ => none
noncomputable def zm9 (c : zym) : FC :=
 zym.rec (motive := fun _ => FC) (fun or top n tm H ms k => k .normal tm H ms) (fun ops or top n tm H ms k => zfs ops or tm H fun tm' H' => k .normal tm' H' ms)
  (fun ops ps start or top n tm H ms k => zfg ops ps start or tm H fun tm' H' => k .normal tm' H' ms)
  (fun _ _ iha ihb or top n tm H ms k => iha or top n tm H ms fun e tm' H' ms' => match e with
   | .normal => ihb or top n tm' H' ms' k
   | e => k e tm' H' ms')
  (fun c _ _ iha ihb or top n tm H ms k => match fEv tm c with
   | .raw (.bool t) => Bool.rec (motive := fun _ => Res) (ihb or top n tm H ms k) (iha or top n tm H ms k) t
   | _ => none)
  (fun id _ iha or top n tm H ms k => iha or top n tm H ms fun e tm' H' ms' => match e with
   | .exit j => Bool.rec (motive := fun _ => Res) (k (.exit j) tm' H' ms') (k .normal tm' H' ms') (Nat.beq j id)
   | e => k e tm' H' ms')
  (fun _ iha or top n tm H ms k => yqx (iha or top n) n tm H ms k)
  (fun f ps a b _ _ or top n tm H ms k => zaq f ps a b or top tm H ms k)
  (fun id or top n tm H ms k => k (.exit id) tm H ms) (fun or top n tm H ms k => k .ret tm H ms) (fun _ _ _ _ _ _ _ => none) c
theorem zfm {body : FT → zz6 → List Nat → FK → Res} {f : ASt → Option (Exit × ASt)} (hb : ∀ tm H ms k, body (zwd tm) H ms k = okC (f ⟨tm, H, ms⟩) k) : ∀ (n : Nat) (tm : List AVal) (H : zz6) (ms : List Nat) (k : FK), yqx body n (zwd tm) H ms k = okC (zp8 f n ⟨tm, H, ms⟩) k
 | 0, _, _, _, _ => rfl
 | n + 1, tm, H, ms, k => by
  show body (zwd tm) H ms (fun e tm' H' ms' => match e with
   | .normal => yqx body n tm' H' ms' k
   | e => k e tm' H' ms') = _
  rw [hb]
  simp only [zp8]
  cases f ⟨tm, H, ms⟩ with
  | none => rfl
  | some x =>
   obtain ⟨e, s⟩ := x
   cases e with
   | normal => simp only [okC]; rw [zfm hb n]; rfl
   | _ => rfl
theorem zcf (f : AOpd) (ps : List Nat) (a b : zym) (or : zzn) (top : Bool) (n : Nat) (tm : List AVal) (H : zz6) (ms : List Nat) (k : FK) : zaq f ps a b or top (zwd tm) H ms k = okC (zys or top n (.rangeFunc f ps a b) ⟨tm, H, ms⟩) k := by
 unfold zaq
 cases top with
 | false => rfl
 | true =>
  simp only [zys, if_true, zy8, zse]
  cases ev tm f with
  | func fn caps =>
   cases fn with
   | func g =>
    simp only
    have e : Nat.add H.next 1 = H.next + 1 := rfl
    rw [e]
    cases or (.func (.func g) caps) [.yield (H.next + 1)] (H.enter tm ps a b) with
    | none => rfl
    | some x =>
     obtain ⟨v, H'⟩ := x
     simp only [Option.bind_some]
     cases zjk H' (H.next + 1) with
     | none => rfl
     | some y =>
      obtain ⟨j, H''⟩ := y
      simp only [Option.bind_some]
      cases j with
      | none => rfl
      | some c => cases c <;> rfl
   | _ => rfl
  | _ => rfl
theorem zms (c : zym) : ∀ (or : zzn) (top : Bool) (n : Nat) (tm : List AVal) (H : zz6) (ms : List Nat) (k : FK), zm9 c or top n (zwd tm) H ms k = okC (zys or top n c ⟨tm, H, ms⟩) k := by
 induction c with
 | skip => intros; rfl
 | region ops =>
  intro or top n tm H ms k
  show zfs ops or (zwd tm) H (fun tm' H' => k .normal tm' H' ms) = _
  rw [zh0 ops or tm H ms]
  simp only [zys]
  cases h : zqq or ops ⟨tm, H, ms⟩ with
  | none => rfl
  | some s => have := ztl h; simp only at this; simp only [okS, okC, Option.map_some, this]
 | draw ops ps start =>
  intro or top n tm H ms k
  show zfg ops ps start or (zwd tm) H (fun tm' H' => k .normal tm' H' ms) = _
  rw [zar ops ps start or tm H ms]
  simp only [zys]
  cases h : zmm or ops ps start ⟨tm, H, ms⟩ with
  | none => rfl
  | some s => have := zgn h; simp only at this; simp only [okS, okC, Option.map_some, this]
 | seq a b iha ihb =>
  intro or top n tm H ms k
  show zm9 a or top n (zwd tm) H ms (fun e tm' H' ms' => match e with
   | .normal => zm9 b or top n tm' H' ms' k
   | e => k e tm' H' ms') = _
  rw [iha]
  simp only [zys]
  cases zys or top n a ⟨tm, H, ms⟩ with
  | none => rfl
  | some x =>
   obtain ⟨e, s⟩ := x
   cases e with
   | normal => simp only [okC]; rw [ihb]; rfl
   | _ => rfl
 | cond c a b iha ihb =>
  intro or top n tm H ms k
  show (match fEv (zwd tm) c with
   | .raw (.bool t) => Bool.rec (motive := fun _ => Res) (zm9 b or top n (zwd tm) H ms k) (zm9 a or top n (zwd tm) H ms k) t
   | _ => none) = _
  rw [iha, ihb, zy8]
  simp only [zys]
  cases ev tm c with
  | raw v =>
   cases v with
   | bool t => cases t <;> rfl
   | _ => rfl
  | _ => rfl
 | block id a iha =>
  intro or top n tm H ms k
  show zm9 a or top n (zwd tm) H ms (fun e tm' H' ms' => match e with
   | .exit j => Bool.rec (motive := fun _ => Res) (k (.exit j) tm' H' ms') (k .normal tm' H' ms') (Nat.beq j id)
   | e => k e tm' H' ms') = _
  rw [iha]
  simp only [zys]
  cases zys or top n a ⟨tm, H, ms⟩ with
  | none => rfl
  | some x =>
   obtain ⟨e, s⟩ := x
   cases e with
   | exit j =>
    simp only [okC]
    have hb : Nat.beq j id = decide (j = id) := by rw [Bool.eq_iff_iff]; simp
    rw [hb]
    by_cases h : j = id <;> simp [h]
   | _ => rfl
 | loop a iha =>
  intro or top n tm H ms k
  exact zfm (fun tm H ms k => iha or top n tm H ms k) n tm H ms k
 | rangeFunc f ps a b _ _ =>
  intro or top n tm H ms k
  exact zcf f ps a b or top n tm H ms k
 | exit id => intros; rfl
 | ret => intros; rfl
 | bad => intros; rfl
noncomputable def yzp (tm : FT) (H : zz6) : ARes → Option AVal
 | .tmp t => some (ykc tm t)
 | .cell t agg n => match ykc tm t with
  | .ptr A ver off => (yvp H A ver).bind fun cells => if off + n ≤ zk7 cells then (Bool.rec (motive := fun _ => Option AVal) (zp4 cells off) (some (.agg (ltk n (ldp off cells)))) agg) else none
  | _ => none
theorem yxk (tm : List AVal) (H : zz6) (x : ARes) : yzp (zwd tm) H x = aRes1 tm H x := by
 cases x with
 | tmp t => simp only [yzp, aRes1, zge]
 | cell t agg n =>
  have e : ∀ (cells : List AVal) (off : Nat), (Bool.rec (motive := fun _ => Option AVal) (zp4 cells off) (some (.agg (ltk n (ldp off cells)))) agg) = aPart agg cells off n := fun cells off => by
   cases agg with
   | false => simp only [zww]; rfl
   | true => simp only [zst, zpg]; rfl
  simp only [yzp, aRes1, zge, zrm, zq6, e]
  cases tm.getD t zzc <;> rfl
noncomputable def yxw (tm : FT) (H : zz6) (xs : List ARes) : Option (List AVal) := List.rec (motive := fun _ => Option (List AVal)) (some []) (fun x _ ih => (yzp tm H x).bind fun v => ih.map (v :: ·)) xs
theorem zfh (tm : List AVal) (H : zz6) : ∀ (xs : List ARes), yxw (zwd tm) H xs = aRess tm H xs
 | [] => rfl
 | x :: xs => by
  show ((yzp (zwd tm) H x).bind fun v => (yxw (zwd tm) H xs).map (v :: ·)) = _
  rw [yxk, zfh tm H xs]; rfl
def yj7 (n : Nat) : FT := zwd (List.replicate n zzc)
noncomputable def yq7 {R : Type} (args : List AVal) : Nat → FT → (FT → R) → R :=
 List.rec (motive := fun _ => Nat → FT → (FT → R) → R) (fun _ t k => k t) (fun x _ ih i t k => yzy x t i fun t' => ih (Nat.succ i) t' k) args
def zsp : List AVal → Nat → List AVal → List AVal
 | l, _, [] => l
 | l, i, x :: xs => zsp (l.set i x) (i + 1) xs
theorem zeg {R : Type} : ∀ (args : List AVal) (i : Nat) (l : List AVal) (k : FT → R), yq7 args i (zwd l) k = k (zwd (zsp l i args))
 | [], _, _, _ => rfl
 | x :: xs, i, l, k => by
  show yzy x (zwd l) i (fun t' => yq7 xs (Nat.succ i) t' k) = _
  rw [ze7, zeg xs]; rfl
theorem zrx : ∀ (args pre : List AVal) (m : Nat), args.length ≤ m → zsp (pre ++ List.replicate m zzc) pre.length args = pre ++ args ++ List.replicate (m - args.length) zzc
 | [], pre, m, _ => by simp [zsp]
 | x :: xs, pre, 0, h => by simp at h
 | x :: xs, pre, m + 1, h => by
  simp only [zsp]
  have e : (pre ++ List.replicate (m + 1) zzc).set pre.length x = (pre ++ [x]) ++ List.replicate m zzc := by
   rw [List.set_append_right _ _ (Nat.le_refl _)]
   simp [List.replicate_succ]
  rw [e]
  have := zrx xs (pre ++ [x]) m (by simp at h; omega)
  rw [show (pre ++ [x]).length = pre.length + 1 by simp] at this
  rw [this]
  simp
noncomputable def yq4 {R : Type} (args : List AVal) (n : Nat) (k : FT → Option R) : Option R :=
 Bool.rec (motive := fun _ => Option R) (zfu (args ++ List.replicate (n - args.length) zzc) k) (yq7 args 0 (yj7 n) k) (Nat.ble (zk7 args) n)
theorem yw6 {R : Type} (args : List AVal) (n : Nat) (k : FT → Option R) : yq4 args n k = k (zwd (args ++ List.replicate (n - args.length) zzc)) := by
 unfold yq4
 cases h : Nat.ble (zk7 args) n with
 | false => simp only [zl6]
 | true =>
  simp only
  unfold yj7
  rw [zeg]
  rw [zq6] at h
  have := zrx args [] n (Nat.le_of_ble_eq_true h)
  simp only [List.nil_append, List.length_nil] at this
  rw [this]
noncomputable def ze3 (env : Nat → Option zzq) (n : Nat) (or : zzn) (f : Nat) (args : List AVal) (H : zz6) : Res :=
 match env f with
 | some af => yq4 args af.ntmps fun tm => zm9 af.code or true n tm H [] fun e tm H ms => match e with
  | .normal => (zvq ms H).bind fun H' => (yxw tm H' af.res).map fun vs => (tup vs, H')
  | .ret => (zvq ms H).bind fun H' => (yxw tm H' af.res).map fun vs => (tup vs, H')
  | _ => none
 | none => none
theorem yzz (env : Nat → Option zzq) (n : Nat) (or : zzn) (f : Nat) (args : List AVal) (H : zz6) : ze3 env n or f args H = zdc env n or f args H := by
 unfold ze3 zdc
 cases env f with
 | none => rfl
 | some af =>
  simp only [yw6, zms, Option.bind_some]
  cases zys or true n af.code { tm := args ++ List.replicate (af.ntmps - args.length) zzc, H := H, marks := [] } with
  | none => rfl
  | some x => obtain ⟨e, s⟩ := x; cases e <;> simp only [okC, zfh]
noncomputable def zft (n : Nat) (or : zzn) (L : Nat) (args : List AVal) (H : zz6) : Res :=
 match fTr H.tr L with
 | some (.loop l) => match l.state with
  | .ready => Bool.rec (motive := fun _ => Res) none (zfu (zw0 l.tmps l.params args) fun tm => zm9 l.assign or false n tm H [] fun e tm H ms => match e with
    | .normal => match fTr H.tr L with
     | some (.loop l1) => match l1.state with
      | .ready => zml H L (.loop { l1 with state := .busy }) fun H1 => zm9 l.body or false n tm H1 ms fun e tm2 H2 _ => match fTr H2.tr L with
       | some (.loop l2) => match e with
        | .normal => zml H2 L (.loop { l2 with state := .ready, pending := none }) fun H3 => some (zzt true, H3)
        | .ret => zml H2 L (.loop { l2 with state := .done, pending := some .ret }) fun H3 => some (zzt false, H3)
        | .exit id => zml H2 L (.loop { l2 with state := .done, pending := some (.exit id) }) fun H3 => some (zzt false, H3)
        | _ => none
       | _ => none
      | _ => none
     | _ => none
    | _ => none) (Nat.beq args.length l.params.length)
  | _ => none
 | _ => none
theorem yy1 (n : Nat) (or : zzn) (L : Nat) (args : List AVal) (H : zz6) : zft n or L args H = ywj n or L args H := by
 unfold zft ywj
 have hg : ∀ (G : zz6), fTr G.tr L = G.get L := fun G => ztn _ _
 simp only [hg, zl6, zms, zs1]
 cases H.get L with
 | none => rfl
 | some o =>
  cases o with
  | loop l =>
   simp only
   cases l.state with
   | ready =>
    simp only
    have hb : Nat.beq args.length l.params.length = decide (args.length = l.params.length) := by rw [Bool.eq_iff_iff]; simp
    rw [hb]
    by_cases h : args.length = l.params.length
    ·simp only [h, decide_true, if_true]
     cases zys or false n l.assign { tm := zw0 l.tmps l.params args, H := H, marks := [] } with
     | none => rfl
     | some x =>
      obtain ⟨e, s1⟩ := x
      cases e with
      | normal =>
       simp only [okC, zms]
       cases s1.H.get L with
       | none => rfl
       | some o1 =>
        cases o1 with
        | loop l1 =>
         simp only
         cases l1.state with
         | ready =>
          simp only
          cases zys or false n l.body { tm := s1.tm, H := s1.H.set L (.loop { l1 with state := .busy }), marks := s1.marks } with
          | none => rfl
          | some y =>
           obtain ⟨e2, s2⟩ := y
           simp only [okC]
           cases s2.H.get L with
           | none => rfl
           | some o2 => cases o2 with
            | loop l2 => cases e2 <;> rfl
            | _ => rfl
         | _ => rfl
        | _ => rfl
      | _ => rfl
    ·simp [h]
   | _ => rfl
  | _ => rfl
noncomputable def zcr (t : List (List (Option zzq))) (f : Nat) : Option zzq :=
 match zp4 t (Nat.div f 16) with
 | some l => match zp4 l (Nat.mod f 16) with
  | some x => x
  | none => none
 | none => none
def zlt (P : Program) : Nat → List (Option zzq) → Prop
 | _, [] => True
 | k, none :: l => zlt P (k + 1) l
 | k, some a :: l => zxf P k = some a ∧ zlt P (k + 1) l
def zng (P : Program) : Nat → List (List (Option zzq)) → Prop
 | _, [] => True
 | k, l :: t => zlt P (16 * k) l ∧ zng P (k + 1) t
theorem zlt.get {P : Program} : ∀ {l : List (Option zzq)} {k i : Nat} {a : zzq}, zlt P k l → l[i]? = some (some a) → zxf P (k + i) = some a
 | [], k, i, a, _, h => by simp at h
 | none :: l, k, 0, a, _, h => by simp at h
 | none :: l, k, i + 1, a, hr, h => by
  have := zlt.get (l := l) (k := k + 1) hr (by simpa using h)
  rw [show k + (i + 1) = k + 1 + i by omega]; exact this
 | some b :: l, k, 0, a, hr, h => by simp at h; subst h; exact hr.1
 | some b :: l, k, i + 1, a, hr, h => by
  have := zlt.get (l := l) (k := k + 1) hr.2 (by simpa using h)
  rw [show k + (i + 1) = k + 1 + i by omega]; exact this
theorem zng.get {P : Program} : ∀ {t : List (List (Option zzq))} {k q : Nat} {l : List (Option zzq)}, zng P k t → t[q]? = some l → zlt P (16 * (k + q)) l
 | [], k, q, l, _, h => by simp at h
 | l0 :: t, k, 0, l, hr, h => by simp at h; subst h; exact hr.1
 | l0 :: t, k, q + 1, l, hr, h => by
  have := zng.get (t := t) (k := k + 1) hr.2 (by simpa using h)
  rw [show k + (q + 1) = k + 1 + q by omega]; exact this
theorem zby {P : Program} {t : List (List (Option zzq))} (h : zng P 0 t) : zjt P (zcr t) := fun f af hf => by
 unfold zcr at hf
 rw [zww] at hf
 cases ht : t[Nat.div f 16]? with
 | none => rw [ht] at hf; cases hf
 | some l =>
  rw [ht] at hf
  simp only [zww] at hf
  cases hl : l[Nat.mod f 16]? with
  | none => rw [hl] at hf; cases hf
  | some x =>
   rw [hl] at hf
   simp only at hf
   subst hf
   have h1 := (h.get ht).get hl
   rw [Nat.zero_add, show 16 * Nat.div f 16 + Nat.mod f 16 = f from Nat.div_add_mod f 16] at h1
   exact yvc f af h1
end
section
variable {P : Program} {B : Base} {ρ ρ' : Ren} {H H' : zz6} {w w' : World}
abbrev zy0 := Nat → List AVal → zz6 → Res
def zw1 (P : Program) (kn : zy0) : Prop := ∀ f args H v H', kn f args H = some (v, H') → yyj P f ∧ zyp P f args H fun v' h' => v' = v ∧ h' = H'
def ywd (kn : zy0) (or : zzn) : zzn := fun fv args H => match fv with
 | .func (.func f) caps => match kn f (args ++ caps) H with
  | some r => some r
  | none => or fv args H
 | _ => or fv args H
theorem yqz {kn : zy0} {or : zzn} (hk : zw1 P kn) (hor : zx8 P or) : zx8 P (ywd kn or) := fun fv args H v H' h => by
 unfold ywd at h
 split at h
 ·rename_i f caps
  split at h
  ·rename_i r hr
   cases h
   obtain ⟨h1, h2⟩ := hk _ _ _ _ _ hr
   exact zyp.value h1 h2
  ·exact hor _ _ _ _ _ h
 ·exact hor _ _ _ _ _ h
theorem yvj {kn : zy0} {or : zzn} (hk : zw1 P kn) (hgo : zky P or) : zky P (ywd kn or) := fun g caps args H x h => by
 unfold ywd at h
 simp only at h
 split at h
 ·rename_i r hr
  obtain ⟨v, H'⟩ := r
  exact (hk _ _ _ _ _ hr).1
 ·exact hgo _ _ _ _ _ h
def zzp (kn : zy0) (env : Nat → Option zzq) : Nat → zzn
 | 0 => fun _ _ _ => none
 | n + 1 => ywd kn (zrl env n (zzp kn env n))
theorem zs6 {kn : zy0} {env : Nat → Option zzq} (hk : zw1 P kn) (henv : zjt P env) : ∀ n, zky P (zzp kn env n)
 | 0 => fun _ _ _ _ _ h => by cases h
 | n + 1 => yvj hk (yyk henv n _)
theorem zsw {kn : zy0} {env : Nat → Option zzq} (hk : zw1 P kn) (henv : zjt P env) (hm : P.follows .mixedOrders = true) : ∀ n, zx8 P (zzp kn env n)
 | 0 => fun fv args H v H' h => by cases h
 | n + 1 => yqz hk (zaw henv hm n (zsw hk henv hm n) (zs6 hk henv n))
noncomputable def zfl (kn : zy0) (env : Nat → Option zzq) (n : Nat) : zzn :=
 Nat.rec (motive := fun _ => zzn) (fun _ _ _ => none) (fun n ih fv args H => match fv with
  | .func (.func f) caps => match kn f (zcv args caps) H with
   | some r => some r
   | none => ze3 env n ih f (zcv args caps) H
  | .yield L => zft n ih L args H
  | _ => none) n
theorem zld (kn : zy0) (env : Nat → Option zzq) : ∀ (n : Nat), zfl kn env n = zzp kn env n
 | 0 => rfl
 | n + 1 => by
  funext fv args H
  show (match fv with
   | .func (.func f) caps => match kn f (zcv args caps) H with
    | some r => some r
    | none => ze3 env n (zfl kn env n) f (zcv args caps) H
   | .yield L => zft n (zfl kn env n) L args H
   | _ => none) = _
  rw [zld kn env n]
  simp only [zzp, ywd, zrl, zm0, yzz, yy1]
  cases fv with
  | func fn cs => cases fn <;> rfl
  | _ => rfl
theorem HRel.outlive (h : HRel P B ρ H w) (hs : w.heap.size ≤ w'.heap.size) (hf : ∀ c, c < w.heap.size → w'.heap[c]? = w.heap[c]?) (hsd : Side w w') : HRel P B ρ H w' where
 le := h.le
 fresh := h.fresh
 wf := h.wf
 dom := h.dom
 obj := fun A o ho => (h.obj A o ho).keep (Ren.le_refl _) (fun _ => rfl) fun v l hl => hf _ (h.lt A v l hl)
 sep := h.sep
 own := h.own
 lt := fun A v l hl => Nat.lt_of_lt_of_le (h.lt A v l hl) hs
 size := Nat.le_trans h.size hs
 frame := fun c hc hb => by rw [hf c (Nat.lt_of_lt_of_le hc h.size)]; exact h.frame c hc hb
 side := h.side.trans hsd
 ro := h.ro
theorem zyp.closed {f : Nat} {v : Value} {H1 : zz6} (h : zyp P f [] .empty fun v' h' => v' = .raw v ∧ h' = H1) (H : zz6) : zyp P f [] H fun v' h' => v' = .raw v ∧ h' = H := by
 intro B ρ w cargs hH hargs
 refine (h (bare w) _ w cargs (HRel.bare P w) (by cases hargs; exact .nil)).mono fun e w' ⟨v', cv, H', ρ', e1, ⟨e2, e3⟩, e4, e5, e6⟩ => ?_
 subst e2
 cases e4
 exact ⟨_, v, H, ρ, e1, ⟨rfl, rfl⟩, .raw v, hH.outlive e5.size (fun c hc => e5.frame c hc fun x => x) e5.side, Ren.le_refl _⟩
noncomputable def yes (g : Nat) : zy0 := fun f args H => match args with
 | [] => Bool.rec (motive := fun _ => Res) none (some (zzt true, H)) (Nat.beq f g)
 | _ => none
theorem yk9 {g : Nat} (hg : yyj P g) {H1 : zz6} (h : zyp P g [] .empty fun v' h' => v' = zzt true ∧ h' = H1) : zw1 P (yes g) := fun f args H v H' hy => by
 unfold yes at hy
 cases args with
 | cons a as => cases hy
 | nil =>
  cases hb : Nat.beq f g with
  | false => rw [hb] at hy; cases hy
  | true =>
   rw [hb] at hy
   have := Nat.beq_eq.mp hb
   subst this
   cases hy
   exact ⟨hg, h.closed H⟩
def zgq : zy0 := fun _ _ _ => none
theorem zpd : zw1 P zgq := fun f args H v H' h => by cases h
noncomputable def yxq (kn : zy0) (t : List (List (Option zzq))) (n f : Nat) : Bool :=
 match zfl kn (zcr t) n (.func (.func f) []) [] .empty with
 | some (.raw (.bool b), _) => b
 | _ => false
theorem ywt {kn : zy0} {t : List (List (Option zzq))} {n f : Nat} (hk : zw1 P kn) (ht : zng P 0 t) (hm : P.follows .mixedOrders = true) (h : yxq kn t n f = true) :
  yyj P f ∧ ∃ H1, zyp P f [] .empty fun v' h' => v' = zzt true ∧ h' = H1 := by
 unfold yxq at h
 rw [zld] at h
 split at h
 ·rename_i b H1 he
  subst h
  have hgo := zs6 hk (zby ht) n _ _ _ _ _ he
  exact ⟨hgo, H1, (zsw hk (zby ht) hm n _ _ _ _ _ he).calls hgo⟩
 ·cases h
theorem yzl {kn : zy0} {t : List (List (Option zzq))} {n f : Nat} (hk : zw1 P kn) (ht : zng P 0 t) (hm : P.follows .mixedOrders = true) (h : yxq kn t n f = true) : zw1 P (yes f) :=
 let ⟨h1, H1, h2⟩ := ywt hk ht hm h; yk9 h1 h2
end
section
def zbg (H : zz6) (base : Nat) (v : AVal) (l : List AVal) : Prop :=
 (v = zxa ∧ l = []) ∨ ∃ R ver vs, base ≤ R ∧ R < H.next ∧ v = .slice R ver 0 l.length l.length false 1 ∧ H.get R = some (.row vs) ∧ vs[ver]? = some (some (0, l))
theorem zbg.one {H : zz6} {base : Nat} {v : AVal} {l : List AVal} (h : zbg H base v l) : v.one = true := by
 rcases h with ⟨rfl, _⟩ | ⟨R, ver, vs, _, _, rfl, _⟩ <;> rfl
theorem zbg.lenS {H : zz6} {base : Nat} {v : AVal} {l : List AVal} (h : zbg H base v l) : zyy v = some (zsk l.length) := by
 rcases h with ⟨rfl, rfl⟩ | ⟨R, ver, vs, _, _, rfl, _⟩ <;> rfl
theorem zbg.cells1 {H : zz6} {base : Nat} {v : AVal} {l : List AVal} (h : zbg H base v l) : v.cells = [v] := by
 rcases h with ⟨rfl, _⟩ | ⟨R, ver, vs, _, _, rfl, _⟩ <;> rfl
end
end Go.Vm
