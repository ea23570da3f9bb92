/- The abstract machine, part 20: the evaluator, and that it is right. -/
import Derived.Test.YthbjfkkjmecaaaaY11
import Derived.RowKit3
set_option linter.unusedVariables false
set_option linter.unusedSimpArgs false
namespace Go.Vm
open Go
section
variable {P : Program} {B : Base} {ρ ρ' : Ren} {H H' : zz6} {w : World} {r : Option Nat} {st : ASt} {Q : Exit → ASt → Prop}
abbrev zzn := AVal → List AVal → zz6 → Option (AVal × zz6)
def zx8 (P : Program) (or : zzn) : Prop := ∀ fv args H v H', or fv args H = some (v, H') → zbj P fv args H fun v' h' => v' = v ∧ h' = H'
def zu4 (or : zzn) (st : ASt) (o : zzu) : Option ASt :=
 match zy6 o.guard st.tm with
 | none => none
 | some false => some (st.put o.dst zzc)
 | some true => match o.op with
  | .call f args => (or (ev st.tm f) (args.map (ev st.tm)) st.H).map fun (v, H') => { st with H := H' }.put o.dst v
  | op => (aOp st.tm op st.H).map fun (v, H') => { st with H := H' }.put o.dst v
theorem zen {or : zzn} (hor : zx8 P or) {o : zzu} {st' : ASt} (h : zu4 or st o = some st') : yz2 P st o st' := by
 unfold zu4 at h
 split at h
 ·cases h
 ·rename_i hw; cases h; exact .inl ⟨hw, rfl⟩
 ·rename_i hw
  split at h
  ·rename_i f args hop
   obtain ⟨⟨v, H'⟩, h1, h2⟩ := Option.map_eq_some_iff.1 h
   exact .inr ⟨hw, v, H', h2.symm, .inl ⟨f, args, hop, hor _ _ _ _ _ h1⟩⟩
  ·rename_i op _ hop
   obtain ⟨⟨v, H'⟩, h1, h2⟩ := Option.map_eq_some_iff.1 h
   exact .inr ⟨hw, v, H', h2.symm, .inr h1⟩
def zqq (or : zzn) : List zzu → ASt → Option ASt
 | [], st => some st
 | o :: os, st => (zu4 or st o).bind (zqq or os)
theorem zjw.step {ops : Array Oper} {o : Oper} {ao : zzu} {i : Nat} {rest : List Nat} {K : ASt → Prop} {st st' : ASt} (ho : ops[i]? = some o) (hc : zkr P ops o = some ao) (h : yz2 P st ao st') (hK : zjw P r ops rest K st') : zjw P r ops (i :: rest) K st := by
 rcases h with ⟨g1, rfl⟩ | ⟨g1, v, H', rfl, g3⟩
 ·exact zjw.skip ho hc g1 hK
 ·rcases g3 with ⟨f, args, g3, g4⟩ | g3
  ·exact zjw.call ho hc g1 g3 g4 fun v' h' ⟨e1, e2⟩ => by rw [e1, e2]; exact hK
  ·exact zjw.op ho hc g1 g3 hK
theorem zrg {or : zzn} (hor : zx8 P or) {ops : Array Oper} : ∀ (l : List Oper) (aos : List zzu) (k : Nat) (st st' : ASt), (∀ i o, l[i]? = some o → ops[k + i]? = some o) → zqc P ops l = some aos → zqq or aos st = some st' →
  zjw P r ops (List.range' k l.length) (fun s => s = st') st
 | [], aos, k, st, st', _, hc, h => by
  simp [zqc] at hc; subst hc
  simp [zqq] at h; subst h
  exact zjw.nil rfl
 | o :: l, aos, k, st, st', hl, hc, h => by
  simp only [zqc, Option.bind_eq_some_iff, Option.map_eq_some_iff] at hc
  obtain ⟨ao, hao, as, has, rfl⟩ := hc
  simp only [zqq, Option.bind_eq_some_iff] at h
  obtain ⟨st1, h1, h2⟩ := h
  simp only [List.length_cons, List.range'_succ]
  refine zjw.step (by simpa using hl 0 o (by simp)) hao (zen hor h1) ?_
  exact zrg hor l as (k + 1) st1 st' (fun i o' ho' => by
   have := hl (i + 1) o' (by simpa using ho')
   rw [← this]; congr 1; omega) has h2
def zpu : Value → Value → Bool
 | .bool a, .bool b => a == b
 | .int j a, .int k b => (match j, k with
  | .i64, .i64 | .u64, .u64 | .u8, .u8 | .i32, .i32 | .u32, .u32 | .u16, .u16 | .i16, .i16 | .i8, .i8 => true
  | _, _ => false) && ieq a b
 | .string a, .string b => zmt a.data.toList b.data.toList
 | .pointer none, .pointer none => true
 | .slice none a b, .slice none c d => Nat.beq a c && Nat.beq b d
 | .map none, .map none => true
 | .nilFunc, .nilFunc => true
 | .nilIface, .nilIface => true
 | _, _ => false
theorem yzd {a b : Value} (h : zpu a b = true) : a = b := by
 unfold zpu at h
 split at h
 ·simp at h; rw [h]
 ·rename_i j a k b
  simp only [Bool.and_eq_true, ieq_eq, decide_eq_true_eq] at h
  obtain ⟨h1, rfl⟩ := h
  cases j <;> cases k <;> first | rfl | (simp at h1)
 ·rename_i a b
  rw [zsq, beq_iff_eq] at h
  rw [ByteArray.ext (Array.ext' h)]
 ·rfl
 ·simp only [Bool.and_eq_true, Nat.beq_eq] at h
  rw [h.1, h.2]
 ·rfl
 ·rfl
 ·rfl
 ·cases h
mutual
def AVal.beq : AVal → AVal → Bool
 | .raw a, .raw b => zpu a b
 | .ptr a b c, .ptr a' b' c' => Nat.beq a a' && Nat.beq b b' && Nat.beq c c'
 | .slice a b c d e f g, .slice a' b' c' d' e' f' g' => Nat.beq a a' && Nat.beq b b' && Nat.beq c c' && Nat.beq d d' && Nat.beq e e' && f == f' && Nat.beq g g'
 | .map a, .map b => Nat.beq a b
 | .func (.func f) cs, .func (.func g) ds => Nat.beq f g && AVal.beqs cs ds
 | .yield a, .yield b => Nat.beq a b
 | .agg cs, .agg ds => AVal.beqs cs ds
 | .tuple cs, .tuple ds => AVal.beqs cs ds
 | .iface t v, .iface u w => Nat.beq t u && AVal.beq v w
 | _, _ => false
def AVal.beqs : List AVal → List AVal → Bool
 | [], [] => true
 | a :: as, b :: bs => AVal.beq a b && AVal.beqs as bs
 | _, _ => false
end
mutual
theorem AVal.beq_ok : ∀ (a b : AVal), AVal.beq a b = true → a = b
 | .raw a, b, h => by
  cases b <;> simp [AVal.beq] at h
  rw [yzd h]
 | .ptr a b c, x, h => by
  cases x <;> simp [AVal.beq] at h
  obtain ⟨⟨rfl, rfl⟩, rfl⟩ := h; rfl
 | .slice a b c d e f g, x, h => by
  cases x <;> simp [AVal.beq] at h
  obtain ⟨⟨⟨⟨⟨⟨rfl, rfl⟩, rfl⟩, rfl⟩, rfl⟩, rfl⟩, rfl⟩ := h; rfl
 | .map a, x, h => by
  cases x <;> simp [AVal.beq] at h
  rw [h]
 | .func fn cs, x, h => by
  cases x with
  | func fn' ds =>
   cases fn with
   | func f =>
    cases fn' with
    | func g =>
     simp [AVal.beq] at h
     obtain ⟨rfl, h⟩ := h
     rw [AVal.beqs_ok cs _ h]
    | _ => simp [AVal.beq] at h
   | _ => simp [AVal.beq] at h
  | _ => cases fn <;> simp [AVal.beq] at h
 | .yield a, x, h => by
  cases x <;> simp [AVal.beq] at h
  rw [h]
 | .agg cs, x, h => by
  cases x <;> simp [AVal.beq] at h
  rw [AVal.beqs_ok cs _ h]
 | .tuple cs, x, h => by
  cases x <;> simp [AVal.beq] at h
  rw [AVal.beqs_ok cs _ h]
 | .iface t v, x, h => by
  cases x <;> simp [AVal.beq] at h
  obtain ⟨rfl, h⟩ := h
  rw [AVal.beq_ok v _ h]
theorem AVal.beqs_ok : ∀ (a b : List AVal), AVal.beqs a b = true → a = b
 | [], x, h => by cases x <;> simp [AVal.beqs] at h; rfl
 | a :: as, x, h => by
  cases x <;> simp [AVal.beqs] at h
  obtain ⟨h1, h2⟩ := h
  rw [AVal.beq_ok a _ h1, AVal.beqs_ok as _ h2]
end
def zb6 (o : zzu) (st : ASt) : Option (AVal × zz6) :=
 match zy6 o.guard st.tm with
 | none => none
 | some false => some (zzc, st.H)
 | some true => aOp st.tm o.op st.H
structure Told where
 i : Nat
 o : zzu
 v : AVal
 tm : List AVal
def zxu (or : zzn) (aos : List zzu) : List zxx → ASt → Option (ASt × List Told × List (List Nat × zz6))
 | [], st => some (st, [], [])
 | .mob i :: ps, st => (aos[i]?).bind fun o => (zb6 o st).bind fun (v, H') => (zxu or aos ps ({ st with H := H' }.put o.dst v)).map fun (s, V, Hs) => (s, if o.op.reads then { i := i, o := o, v := v, tm := st.tm } :: V else V, Hs)
 | .imm i obl :: ps, st => (aos[i]?).bind fun o => (zu4 or st o).bind fun st' => if Nat.ble st.H.next st'.H.next then (zxu or aos ps st').map fun (s, V, Hs) => (s, V, (obl, st'.H) :: Hs) else none
def yvn (x : Told) (H : zz6) : Bool :=
 match zy6 x.o.guard x.tm with
 | none => false
 | some false => AVal.beq zzc x.v || (match x.v with | .raw (.tuple _) => true | _ => false)
 | some true => match aOp x.tm x.o.op H with
  | some (v, _) => AVal.beq v x.v
  | none => false
def zw7 (V : List Told) : List (List Nat × zz6) → Bool
 | [] => true
 | (obl, H) :: r => (V.all fun x => !hasN obl x.i || yvn x H) && zw7 V r
def zmm (or : zzn) (aos : List zzu) (ps : List zxx) (start : List Nat) (st : ASt) : Option ASt :=
 (zxu or aos ps st).bind fun (s, V, Hs) => if zw7 V ((start, st.H) :: Hs) then some s else none
theorem zjq {l : List Nat} {n : Nat} : hasN l n = true ↔ n ∈ l := by
 induction l with
 | nil => simp [hasN]
 | cons x l ih => simp only [hasN, Bool.or_eq_true, ih, List.mem_cons, Nat.beq_eq]; exact or_congr_left eq_comm
theorem Mode.eqb_ok {a b : Mode} (h : a.eqb b = true) : a = b := by cases a <;> cases b <;> simp_all [Mode.eqb]
theorem ywl {d : Option Nat} {l : List Nat} (h : oIn d l = false) : ∀ x, d = some x → x ∉ l := fun x hx hm => by
 subst hx
 simp only [oIn] at h
 rw [zjq.2 hm] at h; cases h
theorem zch {o oj : zzu} (h : zab o oj = true) : zdg o oj := by
 simp only [zab, Bool.and_eq_true, Bool.not_eq_true'] at h
 refine ⟨ywl h.1.1, fun x hx hy => ?_, ywl h.2⟩
 have := h.1.2
 rw [hx, hy] at this
 simp [oEq] at this
theorem zr4 {tab : List Nat} {o : zzu} {i : Nat} : ∀ {l : List zzu} {k0 : Nat}, zuh tab o i l k0 = true → ∀ (k : Nat) ok, l[k]? = some ok → i ≠ k0 + k → inA tab i (k0 + k) = true ∨ inA tab (k0 + k) i = true ∨ zdg o ok
 | [], _, _, k, ok, hk, _ => by simp at hk
 | x :: l, k0, h, k, ok, hk, hne => by
  simp only [zuh, Bool.and_eq_true, Bool.or_eq_true] at h
  cases k with
  | zero =>
   simp at hk; subst hk
   rcases h.1 with ((e | e) | e) | e
   ·exact absurd (Nat.beq_eq.mp e) hne
   ·exact .inr (.inr (zch e))
   ·exact .inl e
   ·exact .inr (.inl e)
  | succ k =>
   have := zr4 h.2 k ok (by simpa using hk) (by omega)
   rw [show k0 + (k + 1) = k0 + 1 + k by omega]
   exact this
theorem zn6 {tab : List Nat} {aos : List zzu} : ∀ {l : List zzu} {i0 : Nat}, zr9 tab aos l i0 = true → ∀ (i : Nat) o, l[i]? = some o → zuh tab o (i0 + i) aos 0 = true
 | [], _, _, i, o, ho => by simp at ho
 | x :: l, i0, h, i, o, ho => by
  simp only [zr9, Bool.and_eq_true] at h
  cases i with
  | zero => simp at ho; subst ho; exact h.1
  | succ i =>
   have := zn6 h.2 i o (by simpa using ho)
   rw [show i0 + (i + 1) = i0 + 1 + i by omega]
   exact this
theorem zd3 {tab : List Nat} {aos : List zzu} (h : zr9 tab aos aos 0 = true) : zuw aos (inA tab) := fun i k o ok hi hk hne => by
 have h1 := zn6 h i o hi
 have h2 := zr4 h1 k ok hk (by omega)
 simpa using h2
theorem ztz {aos : List zzu} {tab : List Nat} : ∀ {ps : List zxx} {listed pend : List Nat} {last : Option Nat}, zvd aos tab ps listed pend last = true → zhl aos (ps.map zxx.idx) (hasN listed)
 | [], listed, pend, last, h => fun i hi => by
  simp only [zvd, List.all_eq_true] at h
  exact h i (by simpa using hi)
 | .mob i :: ps, listed, pend, last, h => by
  simp only [zvd, Bool.and_eq_true, Bool.not_eq_true'] at h
  obtain ⟨⟨h1, h2⟩, h3⟩ := h
  refine ⟨h1, ?_, ?_⟩
  ·cases ho : aos[i]? with
   | none => rw [ho] at h2; cases h2
   | some o => rw [ho] at h2; simp only [Bool.and_eq_true, List.all_eq_true] at h2; exact ⟨o, ho, h2.2⟩
  ·have := ztz h3
   have e : upd (hasN listed) i = hasN (i :: listed) := by
    funext k
    rw [Bool.eq_iff_iff, zze, zjq, zjq, List.mem_cons]
    exact or_comm
   simp only [zxx.idx]
   rw [e]; exact this
 | .imm i obl :: ps, listed, pend, last, h => by
  simp only [zvd, Bool.and_eq_true, Bool.not_eq_true'] at h
  obtain ⟨⟨⟨⟨⟨h1, h2⟩, _⟩, _⟩, _⟩, h3⟩ := h
  refine ⟨h1, ?_, ?_⟩
  ·cases ho : aos[i]? with
   | none => rw [ho] at h2; cases h2
   | some o => rw [ho] at h2; simp only [List.all_eq_true] at h2; exact ⟨o, ho, h2⟩
  ·have := ztz h3
   have e : upd (hasN listed) i = hasN (i :: listed) := by
    funext k
    rw [Bool.eq_iff_iff, zze, zjq, zjq, List.mem_cons]
    exact or_comm
   simp only [zxx.idx]
   rw [e]; exact this
inductive Fits : List Item → List zxx → Prop
 | nil : Fits [] []
 | flt {x : Flt} {r : List Item} {ps : List zxx} (h : Fits r ps) : Fits (.flt x :: r) (.mob x.i :: ps)
 | imm {j : Nat} {o : zzu} {s : ASt} {obl : List Nat} {r : List Item} {ps : List zxx} (h : Fits r ps) : Fits (.imm j o s :: r) (.imm j obl :: ps)
theorem Fits.idx {r : List Item} {ps : List zxx} (h : Fits r ps) : r.map Item.idx = ps.map zxx.idx := by
 induction h with
 | nil => rfl
 | flt _ ih => simp [Item.idx, zxx.idx, ih]
 | imm _ ih => simp [Item.idx, zxx.idx, ih]
theorem Fits.chain {aos : List zzu} {tab : List Nat} {r : List Item} {ps : List zxx} (h : Fits r ps) : ∀ {listed pend : List Nat} {last : Option Nat}, zvd aos tab ps listed pend last = true → zjh (inA tab) r pend last := by
 induction h with
 | nil => intros; trivial
 | flt _ ih =>
  intro listed pend last hp
  simp only [zvd, Bool.and_eq_true] at hp
  exact ih hp.2
 | imm _ ih =>
  intro listed pend last hp
  simp only [zvd, Bool.and_eq_true] at hp
  obtain ⟨⟨⟨⟨_, h3⟩, h4⟩, _⟩, h6⟩ := hp
  refine ⟨fun p hp => List.all_eq_true.1 h3 p hp, fun l hl => ?_, ih h6⟩
  subst hl; exact h4
theorem Fits.imms {r : List Item} {ps : List zxx} (h : Fits r ps) : ∀ j, j ∈ zlc ps → ∃ o s, Item.imm j o s ∈ r := by
 induction h with
 | nil => intro j hj; cases hj
 | flt _ ih => intro j hj; obtain ⟨o, s, h1⟩ := ih j hj; exact ⟨o, s, by simp [h1]⟩
 | @imm j' o' s' obl r ps _ ih =>
  intro j hj
  simp only [zlc, List.mem_cons] at hj
  rcases hj with rfl | hj
  ·exact ⟨o', s', by simp⟩
  ·obtain ⟨o, s, h1⟩ := ih j hj; exact ⟨o, s, by simp [h1]⟩
theorem zdh {aos : List zzu} {tab imms : List Nat} {r : List Item} {ps : List zxx} (h : Fits r ps) : ∀ x, Item.flt x ∈ r → zf7 aos x.i = true → (∀ j ∈ imms, inA tab x.i j = false) → x.i ∈ zpf aos tab imms ps := by
 induction h with
 | nil => intro x hx; cases hx
 | @flt y r ps _ ih =>
  intro x hx h1 h2
  simp only [zpf]
  rcases List.mem_cons.1 hx with e | e
  ·cases e
   rw [if_pos]
   ·simp
   ·simp only [Bool.and_eq_true, List.all_eq_true, Bool.not_eq_true']; exact ⟨h1, h2⟩
  ·have := ih x e h1 h2
   split
   ·simp [this]
   ·exact this
 | imm _ ih =>
  intro x hx h1 h2
  rcases List.mem_cons.1 hx with e | e
  ·cases e
  ·exact ih x e h1 h2
theorem zes {aos : List zzu} {tab : List Nat} {r : List Item} {ps : List zxx} (h : Fits r ps) (x : Flt) (hx : Item.flt x ∈ r) (ho : aos[x.i]? = some x.o) (hr : x.o.op.reads = true) (hi : ∀ j o s, Item.imm j o s ∈ r → inA tab x.i j = false) :
  x.i ∈ yjy aos tab ps := zdh h x hx (by simp [zf7, ho, hr]) fun j hj => by obtain ⟨o, s, h1⟩ := h.imms j hj; exact hi j o s h1
theorem yzf {x : Told} (hm : x.o.op.reads = true) (hv : zy6 x.o.guard x.tm = some false → x.v = zzc) {H : zz6} (h : yvn x H = true) : Yld x.o x.v x.tm H := by
 unfold yvn at h
 split at h
 ·cases h
 ·rename_i hw; exact .inl ⟨hw, hv hw⟩
 ·rename_i hw
  split at h
  ·rename_i v H' ha
   have := zh8 hm ha
   subst this
   rw [AVal.beq_ok _ _ h] at ha
   exact .inr ⟨hw, ha⟩
  ·cases h
theorem zln {o : zzu} (h : o.floats = true) : (o.mode = .quiet ∧ (o.op.pure = true ∨ o.op.reads = true)) ∨ (o.mode = .makes ∧ o.op.makes = true) := by
 simp only [zzu.floats, Bool.or_eq_true, Bool.and_eq_true] at h
 rcases h with ⟨h1, h2⟩ | ⟨h1, h2⟩
 ·exact .inl ⟨Mode.eqb_ok h1, h2⟩
 ·exact .inr ⟨Mode.eqb_ok h1, h2⟩
theorem yyv {o : zzu} (hf : o.floats = true) {i : Nat} {v : AVal} {H' : zz6} (h : zb6 o st = some (v, H')) :
  ∃ nb, ykt ⟨i, o, v, nb, st.tm⟩ st ∧ st.flt ⟨i, o, v, nb, st.tm⟩ = { st with H := H' }.put o.dst v := by
 unfold zb6 at h
 split at h
 ·cases h
 ·rename_i hw; cases h; exact ⟨none, ⟨rfl, .inl ⟨hw, rfl, rfl⟩⟩, rfl⟩
 ·rename_i hw
  rcases zln hf with ⟨h1, h2⟩ | ⟨h1, h2⟩
  ·have : H' = st.H := by
    rcases h2 with h2 | h2
    ·have := zey h2 h st.H; rw [h] at this; cases this; rfl
    ·exact zh8 h2 h
   subst this
   exact ⟨none, ⟨rfl, .inr (.inl ⟨hw, rfl, h1, h, h2⟩)⟩, rfl⟩
  ·obtain ⟨ob, e1, e2, _⟩ := zlj h2 h
   subst e1
   exact ⟨some (st.H.next, ob), ⟨rfl, .inr (.inr ⟨hw, h1, h2, ob, e2, h, rfl⟩)⟩, rfl⟩
theorem zrb {or : zzn} (hor : zx8 P or) {aos : List zzu} {tab : List Nat} {V0 : List Told} : ∀ (ps : List zxx) (listed pend : List Nat) (last : Option Nat) (st s : ASt) (V : List Told) (Hs : List (List Nat × zz6)),
  zvd aos tab ps listed pend last = true → zxu or aos ps st = some (s, V, Hs) → (∀ x ∈ V, x ∈ V0) → zw7 V0 Hs = true →
  ∃ tr, Fits tr ps ∧ ztv P aos (inA tab) (fun s' => s' = s) tr st ∧ ∀ x, Item.flt x ∈ tr → x.o.op.reads = true → ⟨x.i, x.o, x.v, x.tm⟩ ∈ V ∧ (zy6 x.o.guard x.tm = some false → x.v = zzc)
 | [], _, _, _, st, s, V, Hs, _, h, _, _ => by
  simp only [zxu, Option.some.injEq, Prod.mk.injEq] at h
  exact ⟨[], .nil, h.1, fun x hx => by cases hx⟩
 | .mob i :: ps, listed, pend, last, st, s, V, Hs, hp, h, hV, hall => by
  simp only [zxu, Option.bind_eq_some_iff] at h
  obtain ⟨o, ho, ⟨v, H'⟩, hv, h⟩ := h
  obtain ⟨⟨s', V', Hs'⟩, h1, h2⟩ := Option.map_eq_some_iff.1 h
  cases h2
  simp only [zvd, Bool.and_eq_true, ho] at hp
  obtain ⟨⟨_, hf, _⟩, hp⟩ := hp
  obtain ⟨nb, k1, k2⟩ := yyv (i := i) hf hv
  obtain ⟨tr, t1, t2, t3⟩ := zrb hor ps _ _ _ _ _ V' _ hp h1 (fun x hx => hV x (by dsimp only; split <;> first | exact List.mem_cons_of_mem _ hx | exact hx)) hall
  refine ⟨.flt ⟨i, o, v, nb, st.tm⟩ :: tr, .flt t1, ⟨ho, k1, by rw [k2]; exact t2⟩, fun x hx hr => ?_⟩
  rcases List.mem_cons.1 hx with e | e
  ·cases e
   refine ⟨by simp only at hr; rw [if_pos hr]; simp, fun hw => ?_⟩
   obtain ⟨_, ⟨_, k3, _⟩ | ⟨k3, _⟩ | ⟨k3, _⟩⟩ := k1
   ·exact k3
   ·simp only at k3 hw; rw [k3] at hw; cases hw
   ·simp only at k3 hw; rw [k3] at hw; cases hw
  ·obtain ⟨g1, g2⟩ := t3 x e hr
   refine ⟨?_, g2⟩
   split
   ·exact List.mem_cons_of_mem _ g1
   ·exact g1
 | .imm i obl :: ps, listed, pend, last, st, s, V, Hs, hp, h, hV, hall => by
  simp only [zxu, Option.bind_eq_some_iff] at h
  obtain ⟨o, ho, st', hs, h⟩ := h
  obtain ⟨hble, h⟩ := zyh h
  obtain ⟨⟨s', V', Hs'⟩, h1, h2⟩ := Option.map_eq_some_iff.1 h
  cases h2
  simp only [zw7, Bool.and_eq_true] at hall
  simp only [zvd, Bool.and_eq_true] at hp
  obtain ⟨⟨_, hobl⟩, hp⟩ := hp
  obtain ⟨tr, t1, t2, t3⟩ := zrb hor ps _ _ _ _ _ V' _ hp h1 hV hall.2
  refine ⟨.imm i o st' :: tr, .imm t1, ⟨ho, zen hor hs, Nat.le_of_ble_eq_true hble, fun x hx hr hi => ?_, t2⟩, fun x hx hr => ?_⟩
  ·obtain ⟨g1, g2⟩ := t3 x hx hr
   have hin := zes t1 x hx (t2.get_flt x hx) hr hi
   have := List.all_eq_true.1 hobl _ hin
   have h3 := List.all_eq_true.1 hall.1 _ (hV _ g1)
   simp only [this, Bool.not_true, Bool.false_or] at h3
   exact yzf hr g2 h3
  ·rcases List.mem_cons.1 hx with e | e
   ·cases e
   ·exact t3 x e hr
theorem yx0 {or : zzn} (hor : zx8 P or) (hm : P.follows .mixedOrders = true) {id : Nat} {ops : Array Oper} {aos : List zzu} (hc : zqc P ops ops.toList = some aos) {ps : List zxx} {start : List Nat} (hpl : zgf aos = some (ps, start)) {s : ASt}
  (h : zmm or aos ps start st = some s) (hQ : Q .normal s) : AWp P r (.region id ops true) Q st := by
 unfold zgf at hpl
 obtain ⟨h3, h4⟩ := zyh hpl
 obtain ⟨e1, e2⟩ := Prod.mk.inj (Option.some.inj h4)
 rw [e1] at h3 e2
 simp only [Bool.and_eq_true, beq_iff_eq] at h3
 obtain ⟨⟨h5, h6⟩, h7⟩ := h3
 unfold zmm at h
 obtain ⟨⟨s', V, Hs⟩, h8, h9⟩ := Option.bind_eq_some_iff.1 h
 obtain ⟨h10, h11⟩ := zyh h9
 cases h11
 simp only [zw7, Bool.and_eq_true] at h10
 obtain ⟨tr, t1, t2, t3⟩ := zrb hor (V0 := V) ps _ _ _ st s V Hs h7 h8 (fun _ hx => hx) h10.2
 refine AWp.mono (Q := fun e s' => e = .normal ∧ s' = s) (AWp.draws (tr := tr) hm hc (zd3 h6) ?_ ?_ (t1.chain h7) (fun x hx hr hi => ?_) ?_) fun e s' ⟨e1, e2⟩ => by rw [e1, e2]; exact hQ
 ·rw [← h5, ← List.length_map (f := Item.idx), t1.idx, List.length_map]
 ·rw [t1.idx]
  have := ztz h7
  have e : (fun _ => false : zxk) = hasN [] := by funext k; rfl
  rw [e]; exact this
 ·obtain ⟨g1, g2⟩ := t3 x hx hr
  have hin := zes t1 x hx (t2.get_flt x hx) hr hi
  rw [e2] at hin
  have h3 := List.all_eq_true.1 h10.1 _ g1
  simp only [zjq.2 hin, Bool.not_true, Bool.false_or] at h3
  exact yzf hr g2 h3
 ·have aux : ∀ {tr : List Item} {st : ASt}, ztv P aos (inA (ztf aos [])) (fun s' => s' = s) tr st → ztv P aos (inA (ztf aos [])) ((fun e s' => e = Exit.normal ∧ s' = s) Exit.normal) tr st := by
   intro tr
   induction tr with
   | nil => intro st h; exact ⟨rfl, h⟩
   | cons it tr ih =>
    intro st h
    cases it with
    | flt x => exact ⟨h.1, h.2.1, ih h.2.2⟩
    | imm j o s => exact ⟨h.1, h.2.1, h.2.2.1, h.2.2.2.1, ih h.2.2.2.2⟩
  exact aux t2
def zp8 (f : ASt → Option (Exit × ASt)) : Nat → ASt → Option (Exit × ASt)
 | 0, _ => none
 | n + 1, st => match f st with
  | some (.normal, st') => zp8 f n st'
  | x => x
def zys (or : zzn) (top : Bool) (n : Nat) : zym → ASt → Option (Exit × ASt)
 | .skip, st => some (.normal, st)
 | .region ops, st => (zqq or ops st).map fun s => (.normal, s)
 | .draw ops ps start, st => (zmm or ops ps start st).map fun s => (.normal, s)
 | .seq a b, st => match zys or top n a st with
  | some (.normal, s) => zys or top n b s
  | x => x
 | .cond c a b, st => match ev st.tm c with
  | .raw (.bool t) => if t then zys or top n a st else zys or top n b st
  | _ => none
 | .block id a, st => match zys or top n a st with
  | some (.exit k, s) => some (if k = id then .normal else .exit k, s)
  | x => x
 | .loop a, st => zp8 (zys or top n a) n st
 | .rangeFunc f ps a b, st =>
  if top then
   match ev st.tm f with
   | .func (.func g) caps => (or (.func (.func g) caps) [.yield (st.H.next + 1)] (st.H.enter st.tm ps a b)).bind fun (_, H') => (zjk H' (st.H.next + 1)).bind fun (j, H'') =>
    let s : ASt := { st with H := H'', marks := st.H.next :: st.marks }
    match j with
    | none => some (.normal, s)
    | some .ret => some (.ret, s)
    | some (.exit id) => some (.exit id, s)
    | _ => none
   | _ => none
  else none
 | .exit id, st => some (.exit id, st)
 | .ret, st => some (.ret, st)
 | .bad, _ => none
theorem zbj.calls {f : FuncId} {caps args : List AVal} {R : AVal → zz6 → Prop} (h : zbj P (.func (.func f) caps) args H R) (hf : yyj P f) : zyp P f (args ++ caps) H R := by
 intro B ρ w cargs h1 h2
 have hl := h2.length
 have ha : VRels ρ args (cargs.take args.length) := by
  have := h2.take args.length
  simpa using this
 have hb : VRels ρ caps (cargs.drop args.length) := by
  have := h2.drop args.length
  simpa using this
 obtain ⟨d, w0, nx, w1, e1, e2, e3⟩ := h B ρ w _ _ h1 (.func hb) ha
 simp only [Deferred.ofValue, Sem.run_pure, Result.ok.injEq] at e1
 obtain ⟨rfl, rfl⟩ := e1
 simp only [invoke] at e2
 have hrun := zj4 (w := w) hf cargs.toArray
 have hargs : (#[] ++ (cargs.take args.length).toArray ++ (cargs.drop args.length).toArray) = cargs.toArray := by simp
 rw [hargs, hrun] at e2
 cases e2
 exact e3
theorem zs8 {or : zzn} (hor : zx8 P or) (hm : P.follows .mixedOrders = true) (hgo : ∀ g caps L H x, or (.func (.func g) caps) [.yield L] H = some x → yyj P g) {top : Bool} (htop : top = true → r = none) {n : Nat} : ∀ (c : Code) (ac : zym) (st : ASt) (e : Exit) (s : ASt), zyv P c = some ac →
  zys or top n ac st = some (e, s) → AWp P r c (fun e' s' => e' = e ∧ s' = s) st := by
 intro c
 induction c with
 | skip =>
  intro ac st e s hc h
  simp [zyv] at hc; subst hc
  simp [zys] at h
  exact AWp.skip ⟨h.1, h.2⟩
 | exit id =>
  intro ac st e s hc h
  simp [zyv] at hc; subst hc
  simp [zys] at h
  exact AWp.exit ⟨h.1, h.2⟩
 | ret =>
  intro ac st e s hc h
  simp [zyv] at hc; subst hc
  simp [zys] at h
  exact AWp.ret ⟨h.1, h.2⟩
 | region id ops dr =>
  intro ac st e s hc h
  simp only [zyv, Option.bind_eq_some_iff] at hc
  obtain ⟨aos, hao, hc⟩ := hc
  split at hc
  ·rename_i hd
   subst hd
   split at hc
   ·rename_i ps start hpl
    cases hc
    simp only [zys] at h
    obtain ⟨s', h1, h2⟩ := Option.map_eq_some_iff.1 h
    cases h2
    exact yx0 hor hm hao hpl h1 ⟨rfl, rfl⟩
   ·cases hc
    simp [zys] at h
  ·rename_i hd
   have : dr = false := by simpa using hd
   subst this
   cases hc
   simp only [zys] at h
   obtain ⟨s', h1, h2⟩ := Option.map_eq_some_iff.1 h
   cases h2
   refine AWp.region ?_
   have := zrg (r := r) hor ops.toList aos 0 st s (fun i o ho => by simpa using ho) hao h1
   rw [List.range_eq_range', ← Array.length_toList]
   exact fun B ρ a w hs => zxv (fun e a w hq => by
    obtain ⟨st', ρ', ⟨h1, h2⟩, h3, h4⟩ := hq
    exact ⟨st', ρ', ⟨h1, rfl, h2⟩, h3, h4⟩) _ _ _ (this B ρ a w hs)
 | seq a b iha ihb =>
  intro ac st e s hc h
  simp only [zyv, Option.bind_eq_some_iff, Option.map_eq_some_iff] at hc
  obtain ⟨ca, hca, cb, hcb, rfl⟩ := hc
  simp only [zys] at h
  split at h
  ·rename_i s1 h1
   refine AWp.seq ((iha ca st _ _ hca h1).mono fun e' s' ⟨e1, e2⟩ => ?_)
   subst e1; subst e2
   exact ihb cb _ _ _ hcb h
  ·rename_i hn
   refine AWp.seq ((iha ca st _ _ hca h).mono fun e' s' ⟨e1, e2⟩ => ?_)
   subst e1; subst e2
   cases e' with
   | normal => exact absurd h (hn _)
   | _ => exact ⟨rfl, rfl⟩
 | cond x a b iha ihb =>
  intro ac st e s hc h
  simp only [zyv, Option.bind_eq_some_iff, Option.map_eq_some_iff] at hc
  obtain ⟨cx, hcx, ca, hca, cb, hcb, rfl⟩ := hc
  simp only [zys] at h
  split at h
  ·rename_i t ht
   refine AWp.cond hcx ht ?_
   cases t
   ·exact ihb cb _ _ _ hcb (by simpa using h)
   ·exact iha ca _ _ _ hca (by simpa using h)
  ·cases h
 | block id a iha =>
  intro ac st e s hc h
  simp only [zyv, Option.map_eq_some_iff] at hc
  obtain ⟨ca, hca, rfl⟩ := hc
  simp only [zys] at h
  split at h
  ·rename_i k s1 h1
   cases h
   refine AWp.block ((iha ca st _ _ hca h1).mono fun e' s' ⟨e1, e2⟩ => ?_)
   subst e1; subst e2
   simp only [zma]
   split <;> simp [*]
  ·rename_i hn
   refine AWp.block ((iha ca st _ _ hca h).mono fun e' s' ⟨e1, e2⟩ => ?_)
   subst e1; subst e2
   cases e' with
   | exit k => exact absurd h (hn _ _)
   | _ => exact ⟨rfl, rfl⟩
 | loop a iha =>
  intro ac st e s hc h
  simp only [zyv, Option.map_eq_some_iff] at hc
  obtain ⟨ca, hca, rfl⟩ := hc
  simp only [zys] at h
  refine AWp.loop (fun k st' => zp8 (zys or top n ca) k st' = some (e, s)) (fun k st' hk => ?_) h
  cases k with
  | zero => cases hk
  | succ k =>
   simp only [zp8] at hk
   split at hk
   ·rename_i s1 h1
    refine (iha ca st' _ _ hca h1).mono fun e' s' ⟨e1, e2⟩ => ?_
    subst e1; subst e2
    exact ⟨k, by omega, hk⟩
   ·rename_i hn
    refine (iha ca st' _ _ hca hk).mono fun e' s' ⟨e1, e2⟩ => ?_
    subst e1; subst e2
    cases e' with
    | normal => exact absurd hk (hn _)
    | _ => exact ⟨rfl, rfl⟩
 | rangeFunc f ps a b iha ihb =>
  intro ac st e s hc h
  simp only [zyv, Option.bind_eq_some_iff, Option.map_eq_some_iff] at hc
  obtain ⟨cf, hcf, ca, hca, cb, hcb, rfl⟩ := hc
  simp only [zys] at h
  obtain ⟨ht, h⟩ := zyh h
  have hr := htop ht
  subst hr
  split at h
  ·rename_i g caps hg
   simp only [Option.bind_eq_some_iff] at h
   obtain ⟨⟨v, H'⟩, h1, ⟨j, H''⟩, h2, h3⟩ := h
   refine AWp.rangeFunc hcf hg (hgo _ _ _ _ _ h1) hca hcb ?_
   have hcall := (hor _ _ _ _ _ h1).calls (hgo _ _ _ _ _ h1)
   refine hcall.mono fun v' h' ⟨e1, e2⟩ => ?_
   subst e2
   refine ⟨j, H'', h2, ?_⟩
   simp only at h3
   split at h3
   ·cases h3; simp [yxg]
   ·cases h3; simp [yxg]
   ·cases h3; simp [yxg]
   ·cases h3
  ·cases h
 | _ =>
  intro ac st e s hc h
  simp [zyv] at hc; subst hc
  simp [zys] at h
def zdc (env : Nat → Option zzq) (n : Nat) (or : zzn) (f : Nat) (args : List AVal) (H : zz6) : Option (AVal × zz6) :=
 (env f).bind fun af =>
  match zys or true n af.code { tm := args ++ List.replicate (af.ntmps - args.length) zzc, H := H, marks := [] } with
  | some (.normal, s) | some (.ret, s) => (zvq s.marks s.H).bind fun H' => (aRess s.tm H' af.res).map fun vs => (tup vs, H')
  | _ => none
def ywj (n : Nat) (or : zzn) (L : Nat) (args : List AVal) (H : zz6) : Option (AVal × zz6) :=
 match H.get L with
 | some (.loop l) => match l.state with
  | .ready => if args.length = l.params.length then
    match zys or false n l.assign { tm := zw0 l.tmps l.params args, H := H, marks := [] } with
    | some (.normal, s1) => match s1.H.get L with
     | some (.loop l1) => match l1.state with
      | .ready => match zys or false n l.body { s1 with H := s1.H.set L (.loop { l1 with state := .busy }) } with
       | some (e, s2) => match s2.H.get L with
        | some (.loop l2) => match e with
         | .normal => some (zzt true, s2.H.set L (.loop { l2 with state := .ready, pending := none }))
         | .ret => some (zzt false, s2.H.set L (.loop { l2 with state := .done, pending := some .ret }))
         | .exit id => some (zzt false, s2.H.set L (.loop { l2 with state := .done, pending := some (.exit id) }))
         | _ => none
        | _ => none
       | none => none
      | _ => none
     | _ => none
    | _ => none
   else none
  | _ => none
 | _ => none
def zjt (P : Program) (env : Nat → Option zzq) : Prop := ∀ f af, env f = some af → ∃ fn, P.funcs[f]? = some fn ∧ (fn.name == "runtime.NumGoroutine") = false ∧ yz9 P fn = some af
theorem zjt.go {env : Nat → Option zzq} (h : zjt P env) {f : Nat} {af : zzq} (hf : env f = some af) : yyj P f := by
 obtain ⟨fn, h1, h2, h3⟩ := h f af hf
 refine ⟨fn, h1, h2, ?_⟩
 unfold yz9 at h3
 obtain ⟨c, hc, _⟩ := Option.bind_eq_some_iff.1 h3
 rw [hc]; rfl
def zrl (env : Nat → Option zzq) (n : Nat) (or : zzn) : zzn := fun fv args H => match fv with
 | .func (.func f) caps => zdc env n or f (args ++ caps) H
 | .yield L => ywj n or L args H
 | _ => none
def zky (P : Program) (or : zzn) : Prop := ∀ g caps args H x, or (.func (.func g) caps) args H = some x → yyj P g
def zk1 (P : Program) (or : zzn) : Prop := ∀ g caps L H x, or (.func (.func g) caps) [.yield L] H = some x → yyj P g
theorem zky.y {or : zzn} (h : zky P or) : zk1 P or := fun g caps L H x => h g caps _ H x
theorem zaw {env : Nat → Option zzq} (henv : zjt P env) (hm : P.follows .mixedOrders = true) {or : zzn} (n : Nat) (hor : zx8 P or) (hgo : zky P or) : zx8 P (zrl env n or) := by
 intro fv args H v H' h
 have ih := hor
 unfold zrl at h
 split at h
 ·rename_i f caps
  unfold zdc at h
  obtain ⟨af, hf, h⟩ := Option.bind_eq_some_iff.1 h
  refine zyp.value (henv.go hf) ?_
  obtain ⟨fn, h1, h2, h3⟩ := henv f af hf
  unfold yz9 at h3
  simp only [Option.bind_eq_some_iff, Option.map_eq_some_iff] at h3
  obtain ⟨c, hb, ac, hac, rs, hrs, rfl⟩ := h3
  refine zyp.of_body h1 hb hrs ?_
  have fin : ∀ (e : Exit) (s : ASt), (e = .normal ∨ e = .ret) → zys (or) true n ac { tm := (args ++ caps) ++ List.replicate (fn.ntmps - (args ++ caps).length) zzc, H := H, marks := [] } = some (e, s) →
    (zvq s.marks s.H).bind (fun H' => (aRess s.tm H' rs).map fun vs => (tup vs, H')) = some (v, H') →
    AWp P none c (yq9 rs fun v' h' => v' = v ∧ h' = H') { tm := (args ++ caps) ++ List.replicate (fn.ntmps - (args ++ caps).length) zzc, H := H, marks := [] } := fun e s he hrun hres => by
   obtain ⟨H1, h4, h5⟩ := Option.bind_eq_some_iff.1 hres
   obtain ⟨vs, h6, h7⟩ := Option.map_eq_some_iff.1 h5
   cases h7
   refine (zs8 ih hm hgo.y (r := none) (fun _ => rfl) c ac _ e s hac hrun).mono fun e' s' ⟨e1, e2⟩ => ?_
   subst e1; subst e2
   rcases he with rfl | rfl
   ·exact ⟨_, vs, h4, h6, rfl, rfl⟩
   ·exact ⟨_, vs, h4, h6, rfl, rfl⟩
  dsimp only at h
  split at h
  ·rename_i s hs; exact fin _ s (.inl rfl) hs h
  ·rename_i s hs; exact fin _ s (.inr rfl) hs h
  ·cases h
 ·rename_i L
  unfold ywj at h
  split at h
  ·rename_i l hg
   split at h
   ·rename_i hst
    split at h
    ·rename_i hlen
     split at h
     ·rename_i s1 hs1
      split at h
      ·rename_i l1 hg1
       split at h
       ·rename_i hst1
        split at h
        ·rename_i e s2 hs2
         split at h
         ·rename_i l2 hg2
          refine zbj.yield hg hst hlen fun r ca cb hca hcb => ?_
          refine (zs8 ih hm hgo.y (r := some r) (top := false) (fun h => by cases h) ca l.assign _ _ _ hca hs1).mono fun e' s' ⟨e1, e2⟩ => ?_
          subst e1; subst e2
          refine ⟨l1, hg1, hst1, ?_⟩
          refine (zs8 ih hm hgo.y (r := some r) (top := false) (fun h => by cases h) cb l.body _ _ _ hcb hs2).mono fun e' s' ⟨e1, e2⟩ => ?_
          subst e1; subst e2
          cases e' with
          | normal => cases h; exact ⟨l2, hg2, rfl, rfl⟩
          | ret => cases h; exact ⟨l2, hg2, rfl, rfl⟩
          | exit id => cases h; exact ⟨l2, hg2, rfl, rfl⟩
          | _ => cases h
         ·cases h
        ·cases h
       ·cases h
      ·cases h
     ·cases h
    ·cases h
   ·cases h
  ·cases h
 ·cases h
theorem yyk {env : Nat → Option zzq} (henv : zjt P env) (n : Nat) (or : zzn) : zky P (zrl env n or) := fun g caps args H x hx => by
 simp only [zrl, zdc] at hx
 obtain ⟨af, hf, _⟩ := Option.bind_eq_some_iff.1 hx
 exact henv.go hf
def zxf (P : Program) (f : Nat) : Option zzq := (P.funcs[f]?).bind fun fn => if (fn.name == "runtime.NumGoroutine") then none else yz9 P fn
theorem yvc : zjt P (zxf P) := fun f af h => by
 unfold zxf at h
 obtain ⟨fn, h1, h2⟩ := Option.bind_eq_some_iff.1 h
 split at h2
 ·cases h2
 ·rename_i hn; exact ⟨fn, h1, by simpa using hn, h2⟩
end
section
variable {P : Program}
def bare (w : World) : Base := { ρ := fun _ _ => none, own := fun _ => False, ro := fun _ _ _ => False, w := w }
theorem zz6.get_empty (A : Nat) : zz6.empty.get A = none := by simp [zz6.get, zz6.empty, Tr.get]
theorem HRel.bare (P : Program) (w : World) : HRel P (bare w) (fun _ _ => none) .empty w where
 le := Ren.le_refl _
 fresh := fun _ _ _ => rfl
 wf := fun A _ => zz6.get_empty A
 dom := fun A v l h => by cases h
 obj := fun A o h => by rw [zz6.get_empty] at h; cases h
 sep := fun A1 A2 v1 v2 l1 l2 h => by cases h
 own := fun A v l h => by cases h
 lt := fun A v l h => by cases h
 size := Nat.le_refl _
 frame := fun _ _ _ => rfl
 side := Side.refl _
 ro := fun A v l _ h => by cases h
end
end Go.Vm
