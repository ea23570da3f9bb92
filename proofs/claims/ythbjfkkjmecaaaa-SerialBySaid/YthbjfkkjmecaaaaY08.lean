/- The abstract machine, part 18a: heaps of the same look, blocks that nobody names, a part of a heap under a call. -/
import Derived.Test.YthbjfkkjmecaaaaY07
set_option linter.unusedVariables false
set_option linter.unusedSimpArgs false
namespace Go.Vm
open Go
section
variable {P : Program} {B : Base} {ρ ρ' : Ren} {H H' : zz6} {w w' : World}
theorem zbn {H2 : zz6} (hg : ∀ A, H2.get A = H.get A) (A : Nat) : isRo H2 A ↔ isRo H A := by unfold isRo; rw [hg]
theorem HRel.same (h : HRel P B ρ H w) {H2 : zz6} (hg : ∀ A, H2.get A = H.get A) (hn : ∀ A, H2.next ≤ A → H.get A = none) : HRel P B ρ H2 w where
 le := h.le
 fresh := fun A v hA => by
  cases hx : ρ A v with
  | none => rfl
  | some l => obtain ⟨o, ho⟩ := h.dom A v l hx; rw [hn A hA] at ho; cases ho
 wf := fun A hA => by rw [hg]; exact hn A hA
 dom := fun A v l hl => by rw [hg]; exact h.dom A v l hl
 obj := fun A o ho => by rw [hg] at ho; exact h.obj A o ho
 sep := fun A1 A2 v1 v2 l1 l2 e1 e2 e3 => by rw [zbn hg, zbn hg]; exact h.sep A1 A2 v1 v2 l1 l2 e1 e2 e3
 own := fun A v l hl hr => by rw [zbn hg] at hr; exact h.own A v l hl hr
 lt := h.lt
 size := h.size
 frame := h.frame
 side := h.side
 ro := fun A v l hr hl => by rw [zbn hg] at hr; exact h.ro A v l hr hl
theorem zua (w : World) (co : Obj) {c : Nat} (hc : c < w.heap.size) : (w.alloc co).heap[c]? = w.heap[c]? := by
 simp only [World.alloc, Array.getElem?_push]; rw [if_neg (by omega)]
theorem HRel.junk (h : HRel P B ρ H w) {co : Obj} (hco : zah co) : HRel P B ρ H (w.alloc co) where
 le := h.le
 fresh := h.fresh
 wf := h.wf
 dom := h.dom
 obj := fun A o ho => (h.obj A o ho).keep (Ren.le_refl _) (fun _ => rfl) fun v l hl => zua w co (h.lt A v l hl)
 sep := h.sep
 own := h.own
 lt := fun A v l hl => by have := h.lt A v l hl; simp; omega
 size := by have := h.size; simp; omega
 frame := fun c hc hb => by rw [zua w co (Nat.lt_of_lt_of_le hc h.size)]; exact h.frame c hc hb
 side := h.side.trans (Side.alloc w hco)
 ro := h.ro
theorem HRel.place (h : HRel P B ρ H w) {A : Nat} (hA : H.get A = none) {o : AObj} {co : Obj} {n : Nat} (ho : ∀ l, o ≠ .ro l)
  (hrel : zwc P (ρ.put A 0 ⟨w.heap.size, 0, n⟩) (w.alloc co) A o) (hco : zah co) {H2 : zz6} (hg : ∀ X, H2.get X = if X = A then some o else H.get X) (hn : ∀ X, H2.next ≤ X → H2.get X = none) :
  HRel P B (ρ.put A 0 ⟨w.heap.size, 0, n⟩) H2 (w.alloc co) := by
 have hno : ∀ v, ρ A v = none := fun v => by
  cases hx : ρ A v with
  | none => rfl
  | some l => obtain ⟨o, ho⟩ := h.dom A v l hx; rw [hA] at ho; cases ho
 have hle := Ren.put_le (l := ⟨w.heap.size, 0, n⟩) (hno 0)
 have key : ∀ X v l, ρ.put A 0 ⟨w.heap.size, 0, n⟩ X v = some l → (X = A ∧ v = 0 ∧ l.c = w.heap.size) ∨ (X ≠ A ∧ ρ X v = some l) := fun X v l hl => by
  by_cases e : X = A ∧ v = 0
  ·obtain ⟨rfl, rfl⟩ := e; rw [Ren.put_same] at hl; cases hl; exact .inl ⟨rfl, rfl, rfl⟩
  ·rw [Ren.put_ne _ _ e] at hl
   refine .inr ⟨fun e' => ?_, hl⟩
   subst e'; rw [hno v] at hl; cases hl
 have gA : H2.get A = some o := by rw [hg, if_pos rfl]
 have gX : ∀ X, X ≠ A → H2.get X = H.get X := fun X e => by rw [hg, if_neg e]
 have hro : ∀ X, isRo H2 X ↔ isRo H X := fun X => by
  unfold isRo
  by_cases e : X = A
  ·subst e; rw [gA, hA]; simp [ho]
  ·rw [gX X e]
 refine ⟨Ren.le_trans h.le hle, fun X v hX => ?_, hn, fun X v l hl => ?_, fun X o' hX => ?_, fun A1 A2 v1 v2 l1 l2 e1 e2 e3 => ?_, fun X v l hl hr => ?_, fun X v l hl => ?_, ?_, fun c hc hb => ?_, h.side.trans (Side.alloc w hco), fun X v l hr hl => ?_⟩
 ·cases hx : ρ.put A 0 ⟨w.heap.size, 0, n⟩ X v with
  | none => rfl
  | some l =>
   have := hn X hX
   rcases key X v l hx with ⟨rfl, _, _⟩ | ⟨e, h1⟩
   ·rw [gA] at this; cases this
   ·rw [gX X e] at this
    obtain ⟨o', ho'⟩ := h.dom X v l h1; rw [this] at ho'; cases ho'
 ·rcases key X v l hl with ⟨rfl, _, _⟩ | ⟨e, h1⟩
  ·exact ⟨o, gA⟩
  ·rw [gX X e]; exact h.dom X v l h1
 ·by_cases e : X = A
  ·subst e; rw [gA] at hX; cases hX; exact hrel
  ·rw [gX X e] at hX
   exact (h.obj X o' hX).keep hle (fun v => by rw [Ren.put_ne _ _ (by omega)]) (fun v l hl => zua w co (h.lt X v l hl))
 ·rw [hro, hro]
  rcases key _ _ _ e1 with ⟨a1, _, a3⟩ | ⟨a1, a2⟩ <;> rcases key _ _ _ e2 with ⟨b1, _, b3⟩ | ⟨b1, b2⟩
  ·left; rw [a1, b1]
  ·have := h.lt _ _ _ b2; omega
  ·have := h.lt _ _ _ a2; omega
  ·exact h.sep A1 A2 v1 v2 l1 l2 a2 b2 e3
 ·rw [hro] at hr
  rcases key _ _ _ hl with ⟨_, _, a3⟩ | ⟨a1, a2⟩
  ·right; rw [a3]; exact h.size
  ·exact h.own X v l a2 hr
 ·rcases key _ _ _ hl with ⟨_, _, a3⟩ | ⟨a1, a2⟩
  ·rw [a3]; simp
  ·have := h.lt _ _ _ a2; simp; omega
 ·have := h.size; simp; omega
 ·rw [zua w co (Nat.lt_of_lt_of_le hc h.size)]; exact h.frame c hc hb
 ·rw [hro] at hr
  rcases key _ _ _ hl with ⟨rfl, _, _⟩ | ⟨a1, a2⟩
  ·obtain ⟨x, hx⟩ := hr; rw [hA] at hx; cases hx
  ·exact h.ro X v l hr a2
theorem HRel.graft {ρ0 ρ1 : Ren} {H0 H1 : zz6} (h0 : HRel P B ρ0 H0 w) (h1 : HRel P B ρ1 H1 w) (N : Nat → Bool) (hN0 : ∀ A v, N A = true → ρ0 A v = none)
  (hout : ∀ A v, N A = false → ρ1 A v = ρ0 A v) (hg : ∀ A, N A = false → H1.get A = H0.get A) (hNr : ∀ A, N A = true → ¬ isRo H1 A) (hc : HRel P (Vm.here ρ0 H0 w) ρ' H' w') (hN' : ∀ A, N A = true → H'.get A = none)
  {H2 : zz6} (hg2 : ∀ A, H2.get A = if N A = true then H1.get A else H'.get A) (hn2 : ∀ A, H2.next ≤ A → H2.get A = none) :
  HRel P B (fun A v => if N A = true then ρ1 A v else ρ' A v) H2 w' := by
 have ht := h0.trans hc
 have gN : ∀ A, N A = true → H2.get A = H1.get A := fun A h => by rw [hg2, if_pos h]
 have gO : ∀ A, N A = false → H2.get A = H'.get A := fun A h => by rw [hg2, if_neg (by simp [h])]
 have rN : ∀ A, N A = true → (isRo H2 A ↔ isRo H1 A) := fun A h => by unfold isRo; rw [gN A h]
 have rO : ∀ A, N A = false → (isRo H2 A ↔ isRo H' A) := fun A h => by unfold isRo; rw [gO A h]
 have fN : ∀ A v, N A = true → (if N A = true then ρ1 A v else ρ' A v) = ρ1 A v := fun A v h => if_pos h
 have fO : ∀ A v, N A = false → (if N A = true then ρ1 A v else ρ' A v) = ρ' A v := fun A v h => if_neg (by simp [h])
 have hle1 : ρ1.le (fun A v => if N A = true then ρ1 A v else ρ' A v) := fun A v x hx => by
  cases hA : N A with
  | true => simpa [hA] using hx
  | false => rw [hout A v hA] at hx; simpa [hA] using hc.le A v x hx
 have hle2 : ρ'.le (fun A v => if N A = true then ρ1 A v else ρ' A v) := fun A v x hx => by
  cases hA : N A with
  | true => obtain ⟨o, ho⟩ := hc.dom A v x hx; rw [hN' A hA] at ho; cases ho
  | false => simpa [hA] using hx
 have alien : ∀ A v l, N A = true → ρ1 A v = some l → ¬ yk7 ρ0 H0 l.c := fun A v l hA hl ⟨A2, v2, l2, g1, g2, g3⟩ => by
  cases hA2 : N A2 with
  | true => rw [hN0 A2 v2 hA2] at g1; cases g1
  | false =>
   rw [← hout A2 v2 hA2] at g1
   rcases h1.sep A2 A v2 v l2 l g1 hl g3 with e | e
   ·rw [e, hA] at hA2; cases hA2
   ·exact hNr A hA e.2
 have cross : ∀ A1 A2 v1 v2 l1 l2, N A1 = true → N A2 = false → ρ1 A1 v1 = some l1 → ρ' A2 v2 = some l2 → l1.c ≠ l2.c := fun A1 A2 v1 v2 l1 l2 n1 n2 e1 e2 e3 => by
  by_cases hr : isRo H' A2
  ·obtain ⟨_, g2⟩ := hc.ro A2 v2 l2 hr e2
   rw [← hout A2 v2 n2] at g2
   rcases h1.sep A1 A2 v1 v2 l1 l2 e1 g2 e3 with e | e
   ·rw [e, n2] at n1; cases n1
   ·exact hNr A1 n1 e.1
  ·rcases hc.own A2 v2 l2 e2 hr with g | g
   ·exact alien A1 v1 l1 n1 e1 (e3 ▸ g)
   ·have := h1.lt A1 v1 l1 e1
    have g' : w.heap.size ≤ l2.c := g
    omega
 refine ⟨Ren.le_trans h1.le hle1, fun A v hA => ?_, hn2, fun A v l hl => ?_, fun A o ho => ?_, fun A1 A2 v1 v2 l1 l2 e1 e2 e3 => ?_, fun A v l hl hr => ?_, fun A v l hl => ?_, ht.size, ht.frame, ht.side, fun A v l hr hl => ?_⟩
 ·have := hn2 A hA
  cases hN : N A with
  | true =>
   simp only [if_true]
   cases hx : ρ1 A v with
   | none => rfl
   | some l => obtain ⟨o, ho⟩ := h1.dom A v l hx; rw [gN A hN, ho] at this; cases this
  | false =>
   simp only [Bool.false_eq_true, if_false]
   cases hx : ρ' A v with
   | none => rfl
   | some l => obtain ⟨o, ho⟩ := hc.dom A v l hx; rw [gO A hN, ho] at this; cases this
 ·cases hN : N A with
  | true => rw [gN A hN]; exact h1.dom A v l (by simpa [hN] using hl)
  | false => rw [gO A hN]; exact hc.dom A v l (by simpa [hN] using hl)
 ·cases hN : N A with
  | true =>
   rw [gN A hN] at ho
   exact (h1.obj A o ho).keep hle1 (fun v => fN A v hN) fun v l hl => hc.frame l.c (h1.lt A v l hl) (alien A v l hN hl)
  | false =>
   rw [gO A hN] at ho
   exact (hc.obj A o ho).keep hle2 (fun v => fO A v hN) fun _ _ _ => rfl
 ·cases n1 : N A1 with
  | true =>
   rw [fN _ _ n1] at e1
   cases n2 : N A2 with
   | true =>
    rw [fN _ _ n2] at e2
    rcases h1.sep A1 A2 v1 v2 l1 l2 e1 e2 e3 with e | e
    ·exact .inl e
    ·exact (hNr A1 n1 e.1).elim
   | false => rw [fO _ _ n2] at e2; exact absurd e3 (cross A1 A2 v1 v2 l1 l2 n1 n2 e1 e2)
  | false =>
   rw [fO _ _ n1] at e1
   cases n2 : N A2 with
   | true => rw [fN _ _ n2] at e2; exact absurd e3.symm (cross A2 A1 v2 v1 l2 l1 n2 n1 e2 e1)
   | false =>
    rw [fO _ _ n2] at e2
    rw [rO A1 n1, rO A2 n2]
    exact hc.sep A1 A2 v1 v2 l1 l2 e1 e2 e3
 ·cases hN : N A with
  | true => rw [fN _ _ hN] at hl; exact h1.own A v l hl (hNr A hN)
  | false => rw [fO _ _ hN] at hl; exact ht.own A v l hl (fun h => hr ((rO A hN).2 h))
 ·cases hN : N A with
  | true => rw [fN _ _ hN] at hl; exact Nat.lt_of_lt_of_le (h1.lt A v l hl) hc.size
  | false => rw [fO _ _ hN] at hl; exact hc.lt A v l hl
 ·cases hN : N A with
  | true => exact (hNr A hN ((rN A hN).1 hr)).elim
  | false => rw [fO _ _ hN] at hl; exact ht.ro A v l ((rO A hN).1 hr) hl
end
section
variable {P : Program} {B : Base} {ρ ρ' : Ren} {H H' : zz6} {w w' : World} {st : ASt}
theorem yyd (st : ASt) (d : Option Nat) (v : AVal) : (st.put d v).H = st.H := by cases d <;> rfl
theorem zul (st : ASt) (d : Option Nat) (v : AVal) : (st.put d v).marks = st.marks := by cases d <;> rfl
theorem yye {st : ASt} {d e : Option Nat} {v u : AVal} (h : ∀ x, d = some x → e ≠ some x) : (st.put d v).put e u = (st.put e u).put d v := by
 cases d with
 | none => rfl
 | some d => cases e with
  | none => rfl
  | some e =>
   have : e ≠ d := fun he => h d rfl (by rw [he])
   simp only [ASt.put]
   rw [List.set_comm _ _ (Ne.symm this)]
theorem zey {tm : List AVal} {op : AOp} {v : AVal} (hp : op.pure = true) (h : aOp tm op H = some (v, H')) : ∀ H2, aOp tm op H2 = some (v, H2) := by
  intro H2
  cases op <;> simp only [AOp.pure, Bool.false_eq_true] at hp <;> simp only [aOp] at h ⊢
  all_goals
    first
      | (obtain ⟨x, hx, he⟩ := Option.map_eq_some_iff.1 h
         cases he
         rw [hx]; rfl)
      | (split at h <;> (first | (cases h; done) | skip)
         all_goals first
           | (cases h; rfl)
           | (obtain ⟨x, hx, he⟩ := Option.map_eq_some_iff.1 h
              cases he
              rw [hx]; rfl)
           | (split at h <;> (first | (cases h; done) | skip)
              all_goals first
                | (cases h; simp only [*, if_true]; done)
                | (obtain ⟨x, hx, he⟩ := Option.map_eq_some_iff.1 h
                   cases he
                   simp only [*, if_true, Option.map_some]; done)))
      | (cases h; rfl)
theorem zh8 {tm : List AVal} {op : AOp} {v : AVal} (hp : op.reads = true) (h : aOp tm op H = some (v, H')) : H' = H := by
 cases op <;> simp only [AOp.reads, Bool.false_eq_true] at hp <;> simp only [aOp] at h
 all_goals
  first
   | (obtain ⟨x, hx, he⟩ := Option.map_eq_some_iff.1 h; cases he; rfl)
   | (split at h <;> first | (cases h; done) | (obtain ⟨x, hx, he⟩ := Option.map_eq_some_iff.1 h; cases he; rfl))
def yz2 (P : Program) (st : ASt) (o : zzu) (st' : ASt) : Prop :=
 (zy6 o.guard st.tm = some false ∧ st' = st.put o.dst zzc) ∨
 (zy6 o.guard st.tm = some true ∧ ∃ v H', st' = { st with H := H' }.put o.dst v ∧
  ((∃ f args, o.op = .call f args ∧ zbj P (ev st.tm f) (args.map (ev st.tm)) st.H fun v' h' => v' = v ∧ h' = H') ∨ aOp st.tm o.op st.H = some (v, H')))
def Yld (o : zzu) (v : AVal) (tm : List AVal) (H : zz6) : Prop :=
 (zy6 o.guard tm = some false ∧ v = zzc) ∨ (zy6 o.guard tm = some true ∧ aOp tm o.op H = some (v, H))
theorem zva {ops : Array Oper} : ∀ {l : List Oper} {aos : List zzu}, zqc P ops l = some aos → aos.length = l.length ∧ ∀ (i : Nat) (o : Oper), l[i]? = some o → ∃ ao, aos[i]? = some ao ∧ zkr P ops o = some ao
 | [], aos, h => by simp [zqc] at h; subst h; simp
 | o :: l, aos, h => by
  simp only [zqc, Option.bind_eq_some_iff, Option.map_eq_some_iff] at h
  obtain ⟨a, ha, as, has, rfl⟩ := h
  obtain ⟨h1, h2⟩ := zva has
  refine ⟨by simp [h1], fun i o' ho => ?_⟩
  cases i with
  | zero => simp at ho; subst ho; exact ⟨a, by simp, ha⟩
  | succ i => simpa using h2 i o' (by simpa using ho)
theorem zg0 {ops : Array Oper} {o : Oper} {ao : zzu} (hc : zkr P ops o = some ao) : ao.after = (o.after.toList.filter (Region.binds .any)).map (·.on) := by
 unfold zkr at hc
 obtain ⟨a, ha, hc⟩ := Option.bind_eq_some_iff.1 hc
 obtain ⟨_, hc⟩ := zyh hc
 split at hc
 ·cases hc; rfl
 ·obtain ⟨d, hd, rfl⟩ := Option.map_eq_some_iff.1 hc; rfl
theorem zr5 {ops : Array Oper} {aos : List zzu} (h : zqc P ops ops.toList = some aos) (listed : Array Bool) : Region.ready .any ops listed = zh5 aos listed := by
 obtain ⟨h1, h2⟩ := zva h
 unfold Region.ready zh5
 rw [h1, Array.length_toList]
 apply List.filter_congr
 intro i hi
 have hlt : i < ops.size := by simpa using hi
 obtain ⟨ao, h3, h4⟩ := h2 i ops[i] (by simp [hlt])
 rw [h3, Array.getElem?_eq_getElem hlt]
 congr 1
 simp only [Option.map_some, Option.getD_some, zg0 h4, List.all_map, List.all_filter]
 rw [← Array.all_toList]
 congr 1
theorem znz {F : Fence} {n : Nat} {ops : Array Oper} {Q1 Q2 : Exit → Act → World → Prop} {K1 K2 : Act → World → Prop} {i : Nat} {a : Act} {w : World} (hQ : ∀ e a w, e ≠ .normal → Q1 e a w → False) (hK : ∀ a w, K1 a w → K2 a w)
  (h : wpOpIn F n P ops Q1 i K1 a w) : wpOpIn F n P ops Q2 i K2 a w := by
 have out : ¬ LetsOut Q1 := fun ⟨a, w, h⟩ => hQ _ a w (by simp) h
 unfold wpOpIn at *
 cases ho : ops[i]? with
 | none => rw [ho] at h; exact hK _ _ h
 | some o =>
  rw [ho] at h
  simp only at h ⊢
  by_cases hw : Region.wanted o (yielded ops a.tmps) = true
  ·rw [if_pos hw] at h ⊢
   obtain ⟨h1, h2⟩ := h
   refine ⟨h1, ?_⟩
   generalize (Oper.semAt F.round a.eval _).run P w = x at h2 ⊢
   cases x with
   | ok x w' =>
    cases x <;> simp only [Oper.uponIn] at h2 ⊢ <;> first
     | exact hK _ _ h2
     | exact ⟨h2.1, CallsIn.mono h2.2 fun e w'' he => by cases e <;> first | exact hK _ _ he | exact (hQ _ _ _ (by simp) he).elim | exact (out he).elim⟩
     | exact ⟨h2.1, RowsIn.mono h2.2 fun _ _ he => hK _ _ he⟩
     | exact ⟨h2.1, RoundIn.mono h2.2 fun e w'' he => by cases e <;> first | exact hK _ _ he | exact (hQ _ _ _ (by simp) he).elim | exact (out he).elim⟩
   | halt x w' => cases x <;> simp only [Oper.uponIn] at h2 ⊢ <;> first | exact (hQ _ _ _ (by simp) h2).elim | exact h2
  ·rw [if_neg hw] at h ⊢
   exact ⟨h.1, hK _ _ h.2⟩
theorem ztp {F : Fence} {n : Nat} {md : Region.Mode} {ops : Array Oper} {Q1 Q2 : Exit → Act → World → Prop} (hQ0 : ∀ e a w, e ≠ .normal → Q1 e a w → False) (hQ : ∀ e a w, Q1 e a w → Q2 e a w) : ∀ (fuel : Nat) (listed : Array Bool) (a : Act) (w : World),
  wpAnyIn F n P md ops Q1 fuel listed a w → wpAnyIn F n P md ops Q2 fuel listed a w
 | 0, _, _, _, h => ⟨h.1, hQ _ _ _ h.2⟩
 | fuel + 1, _, _, _, h => ⟨fun hr => hQ _ _ _ (h.1 hr), fun i hi => znz hQ0 (fun a w hk => ztp hQ0 hQ fuel _ a w hk) (h.2 i hi)⟩
theorem zkd {tm tm' : List AVal} : ∀ {xs : List AOpd}, (∀ x ∈ xs, ev tm x = ev tm' x) → xs.map (ev tm) = xs.map (ev tm')
 | [], _ => rfl
 | x :: xs, h => by simp only [List.map_cons]; rw [h x (by simp), zkd fun y hy => h y (by simp [hy])]
theorem zx9 {tm tm' : List AVal} {x : Option AOpd} (h : ∀ y ∈ zp1 x, ev tm y = ev tm' y) : x.map (ev tm) = x.map (ev tm') := by
 cases x with
 | none => rfl
 | some y => simp only [Option.map_some]; rw [h y (by simp [zp1])]
theorem zjp {tm tm' : List AVal} {ps : List (Nat × Nat × AOpd)} (h : ∀ x ∈ ps.map (·.2.2), ev tm x = ev tm' x) :
  (ps.map fun (o, n, x) => (o, n, ev tm x)) = ps.map fun (o, n, x) => (o, n, ev tm' x) := by
 induction ps with
 | nil => rfl
 | cons p ps ih =>
  obtain ⟨o, n, x⟩ := p
  simp only [List.map_cons]
  rw [h x (by simp), ih fun y hy => h y (by simp at hy ⊢; exact .inr hy)]
theorem yz0 {tm tm' : List AVal} {op : AOp} (h : ∀ x ∈ op.opds, ev tm x = ev tm' x) (H : zz6) : aOp tm op H = aOp tm' op H := by
 cases op
 case build zero ps => simp only [aOp]; rw [zjp h]
 case buildSlice len esz zero ps => simp only [aOp]; rw [zjp h]
 case sliceA n esz x lo hi mx =>
  simp only [aOp]
  rw [h x (by simp [AOp.opds]), zx9 fun y hy => h y (by simp [AOp.opds, hy]), zx9 fun y hy => h y (by simp [AOp.opds, hy]), zx9 fun y hy => h y (by simp [AOp.opds, hy])]
 case sliceS esz x lo hi mx =>
  simp only [aOp]
  rw [h x (by simp [AOp.opds]), zx9 fun y hy => h y (by simp [AOp.opds, hy]), zx9 fun y hy => h y (by simp [AOp.opds, hy]), zx9 fun y hy => h y (by simp [AOp.opds, hy])]
 case sliceStr x lo hi =>
  simp only [aOp]
  rw [h x (by simp [AOp.opds]), zx9 fun y hy => h y (by simp [AOp.opds, hy]), zx9 fun y hy => h y (by simp [AOp.opds, hy])]
 case makeFunc fn cs => simp only [aOp]; rw [zkd (xs := cs) h]
 case minmax m xs => simp only [aOp]; rw [zkd (xs := xs) h]
 case call f as => rfl
 all_goals
  simp only [AOp.opds, List.mem_cons, List.not_mem_nil, or_false, forall_eq_or_imp, forall_eq, false_imp_iff, implies_true] at h
  first
   | (simp only [aOp]; done)
   | (simp only [aOp, h]; done)
   | (simp only [aOp, h.1, h.2]; done)
   | (simp only [aOp, h.1, h.2.1, h.2.2]; done)
theorem zm7 {g : Option (Nat × Bool)} {tm tm' : List AVal} (h : ∀ d b, g = some (d, b) → tm[d]? = tm'[d]?) : zy6 g tm = zy6 g tm' := by
 cases g with
 | none => rfl
 | some x => obtain ⟨d, b⟩ := x; simp only [zy6]; rw [h d b rfl]
def zvn (o : zzu) (tm tm' : List AVal) : Prop := ∀ n ∈ o.looks, tm[n]? = tm'[n]?
theorem zvn.ev {o : zzu} {tm tm' : List AVal} (h : zvn o tm tm') : ∀ x ∈ o.op.opds, ev tm x = ev tm' x := fun x hx => by
 cases x with
 | c v => rfl
 | t n =>
  have := h n (List.mem_append_left _ (List.mem_append_left _ (List.mem_filterMap.2 ⟨AOpd.t n, hx, rfl⟩)))
  simp only [Vm.ev, List.getD_eq_getElem?_getD, this]
theorem zvn.wanted {o : zzu} {tm tm' : List AVal} (h : zvn o tm tm') : zy6 o.guard tm = zy6 o.guard tm' :=
 zm7 fun d b hg => h d (List.mem_append_left _ (List.mem_append_right _ (by rw [hg]; simp)))
theorem zvn.op {o : zzu} {tm tm' : List AVal} (h : zvn o tm tm') (H : zz6) : aOp tm o.op H = aOp tm' o.op H := yz0 h.ev H
theorem zvn.refl (o : zzu) (tm : List AVal) : zvn o tm tm := fun _ _ => rfl
theorem zlj {tm : List AVal} {op : AOp} {v : AVal} (hm : op.makes = true) (h : aOp tm op H = some (v, H')) :
  ∃ ob, H' = H.push ob ∧ (∀ l, ob ≠ .ro l) ∧ ∀ H2, H2.next = H.next → aOp tm op H2 = some (v, H2.push ob) := by
 cases op <;> simp only [AOp.makes, Bool.false_eq_true] at hm <;> simp only [aOp] at h ⊢
 ·cases h; exact ⟨_, rfl, fun l => by simp, fun H2 e => by rw [e]⟩
 ·cases h; exact ⟨_, rfl, fun l => by simp, fun H2 e => by rw [e]⟩
 ·obtain ⟨x, hx, he⟩ := Option.map_eq_some_iff.1 h
  cases he
  exact ⟨_, rfl, fun l => by simp, fun H2 e => by rw [hx, e]; rfl⟩
 ·split at h
  ·split at h
   ·cases h; exact ⟨_, rfl, fun l => by simp, fun H2 e => by simp only [*, if_true]⟩
   ·cases h
  ·cases h
 ·cases h; exact ⟨_, rfl, fun l => by simp, fun H2 e => by rw [e]⟩
def HLe (H H2 : zz6) : Prop := ∀ A o, H.get A = some o → H2.get A = some o
theorem HLe.rowAt {H2 : zz6} (h : HLe H H2) {A ver : Nat} {l : List AVal} (hr : H.rowAt A ver = some l) : H2.rowAt A ver = some l := by
 unfold zz6.rowAt at hr ⊢
 cases hg : H.get A with
 | none => rw [hg] at hr; cases hr
 | some o => rw [h A o hg]; rw [hg] at hr; exact hr
theorem yzx {H2 : zz6} (h : HLe H H2) {esz : Nat} {x : AVal} {l : List AVal} (hx : aCells H esz x = some l) : aCells H2 esz x = some l := by
 unfold aCells at hx ⊢
 split at hx
 ·exact hx
 ·obtain ⟨cells, h1, h2⟩ := Option.bind_eq_some_iff.1 hx
  rw [h.rowAt h1]; exact h2
 ·cases hx
theorem zh3 {tm : List AVal} {op : AOp} {v : AVal} {H2 : zz6} (hle : HLe H H2) (hp : op.reads = true) (h : aOp tm op H = some (v, H')) : aOp tm op H2 = some (v, H2) := by
 cases op <;> simp only [AOp.reads, Bool.false_eq_true] at hp <;> simp only [aOp] at h ⊢
 case load agg n x =>
  split at h
  ·rename_i A ver off hx
   obtain ⟨u, hu, he⟩ := Option.map_eq_some_iff.1 h
   cases he
   obtain ⟨cells, h1, h2⟩ := Option.bind_eq_some_iff.1 hu
   simp only [hle.rowAt h1, Option.bind_some, h2, Option.map_some]
  ·cases h
 case strOfBytes x =>
  obtain ⟨u, hu, he⟩ := Option.map_eq_some_iff.1 h
  cases he
  obtain ⟨cells, h1, h2⟩ := Option.bind_eq_some_iff.1 hu
  simp only [yzx hle h1, Option.bind_some, h2, Option.map_some]
 case sliceA n esz x lo hi mx =>
  obtain ⟨u, hu, he⟩ := Option.map_eq_some_iff.1 h
  cases he
  unfold zt8 at hu ⊢
  split at hu
  ·obtain ⟨cells, h1, h2⟩ := Option.bind_eq_some_iff.1 hu
   simp only [hle.rowAt h1, Option.bind_some, h2, Option.map_some]
  ·cases hu
 case lookup zero ok x k =>
  obtain ⟨u, hu, he⟩ := Option.map_eq_some_iff.1 h
  cases he
  have : zzr H2 zero ok (ev tm x) (ev tm k) = some v := by
   unfold zzr at hu ⊢
   split at hu
   ·split at hu
    ·exact hu
    ·split at hu
     ·rename_i hg; simp only [hle _ _ hg]; exact hu
     ·cases hu
    ·cases hu
   ·cases hu
  simp only [this, Option.map_some]
 case len kind x =>
  split at h
  ·obtain ⟨u, hu, he⟩ := Option.map_eq_some_iff.1 h
   cases he
   simp only [hu, Option.map_some]
  ·obtain ⟨u, hu, he⟩ := Option.map_eq_some_iff.1 h
   cases he
   simp only [hu, Option.map_some]
  ·obtain ⟨u, hu, he⟩ := Option.map_eq_some_iff.1 h
   cases he
   have : zds H2 (ev tm x) = some v := by
    unfold zds at hu ⊢
    split at hu
    ·exact hu
    ·split at hu
     ·rename_i hg; simp only [hle _ _ hg]; exact hu
     ·cases hu
    ·cases hu
   simp only [this, Option.map_some]
theorem zql {ops : Array Oper} {o : Oper} {ao : zzu} (hc : zkr P ops o = some ao) : ao.uses = zff o.op ∧ ao.mode = zwv o.op ∧ ∀ j b, o.guard = some (j, b) → ∃ d, (ops[j]?).bind (·.dst) = some d ∧ ao.guard = some (d, b) := by
 unfold zkr at hc
 obtain ⟨a, ha, hc⟩ := Option.bind_eq_some_iff.1 hc
 obtain ⟨_, hc⟩ := zyh hc
 split at hc
 ·rename_i hg
  cases hc; exact ⟨rfl, rfl, fun j b e => by rw [hg] at e; cases e⟩
 ·rename_i j b hg
  obtain ⟨d, hd, rfl⟩ := Option.map_eq_some_iff.1 hc
  exact ⟨rfl, rfl, fun j' b' e => by rw [hg] at e; cases e; exact ⟨d, hd, rfl⟩⟩
theorem zpt {o : Op} {t : Nat} (h : .tmp t ∈ o.operands) : t ∈ zff o := by
 unfold zff
 rw [List.mem_filterMap]
 exact ⟨.tmp t, by simpa using h, rfl⟩
end
end Go.Vm
