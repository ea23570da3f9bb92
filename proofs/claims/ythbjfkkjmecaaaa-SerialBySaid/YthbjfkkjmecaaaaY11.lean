/- The abstract machine, part 22: the simulation's other step, and the whole. -/
import Derived.Test.YthbjfkkjmecaaaaY10
set_option linter.unusedVariables false
set_option linter.unusedSimpArgs false
namespace Go.Vm
open Go
variable {P : Program} {B : Base} {ρ ρ' : Ren} {H H' : zz6} {w w' : World} {r : Option Nat} {st : ASt} {K : ASt → Prop} {aos : List zzu} {tab : Nat → Nat → Bool} {ρb : Ren}
theorem zm4 {F : Fence} {n : Nat} {ops : Array Oper} {Q0 Q : Exit → Act → World → Prop} {K0 Kc : Act → World → Prop} {i : Nat} {o : Oper} {a0 a : Act} (ho : ops[i]? = some o) (hs : ∀ cs b, o.op ≠ .select cs b) (hd : ∀ c, o.op ≠ .defer c)
  (he : ∀ x ∈ o.op.operands, a0.eval x = a.eval x) (hy : Region.wanted o (yielded ops a0.tmps) = Region.wanted o (yielded ops a.tmps)) (hQ : ∀ e a w, e ≠ .normal → Q0 e a w → False)
  (hK : ∀ (f : List Deferred → List Deferred) v w', K0 ({ a0 with defers := f a0.defers }.put o.dst v) w' → Kc ({ a with defers := f a.defers }.put o.dst v) w') (h : wpOpIn F n P ops Q0 i K0 a0 w) : wpOpIn F n P ops Q i Kc a w := by
 have out : ¬ LetsOut Q0 := fun ⟨a, w, h⟩ => hQ _ a w (by simp) h
 have hK1 : ∀ v w', K0 (a0.put o.dst v) w' → Kc (a.put o.dst v) w' := fun v w' => hK id v w'
 unfold wpOpIn at *
 rw [ho] at h ⊢
 simp only at h ⊢
 rw [hy] at h
 by_cases hw : Region.wanted o (yielded ops a.tmps) = true
 ·rw [if_pos hw] at h ⊢
  obtain ⟨h1, h2⟩ := h
  refine ⟨by rw [← about_congr o w he]; exact h1, ?_⟩
  rw [Oper.semAt_eq _ _ _ hd] at h2 ⊢
  rw [execOp_congr o hs he] at h2
  generalize (execOp a.eval o).run P w = x at h2 ⊢
  cases x with
  | ok x w' =>
   cases x <;> simp only [Oper.uponIn] at h2 ⊢ <;> first
    | exact hK1 _ _ h2
    | exact hK (fun ds => _ :: ds) _ _ h2
    | exact ⟨h2.1, CallsIn.mono h2.2 fun e w'' he => by cases e <;> first | exact hK1 _ _ he | exact (hQ _ _ _ (by simp) he).elim | exact (out he).elim⟩
    | exact ⟨h2.1, RowsIn.mono h2.2 fun _ _ he => hK1 _ _ he⟩
    | exact ⟨h2.1, RoundIn.mono h2.2 fun e w'' he => by cases e <;> first | exact hK1 _ _ he | exact (hQ _ _ _ (by simp) he).elim | exact (out he).elim⟩
  | halt x w' => cases x <;> simp only [Oper.uponIn] at h2 ⊢ <;> first | exact (hQ _ _ _ (by simp) h2).elim | exact h2
 ·rw [if_neg hw] at h ⊢
  exact ⟨by rw [← about_congr o w he]; exact h.1, hK1 _ _ h.2⟩
theorem zsv {S : zxk} : ∀ {pre : List Item} {st : ASt}, zvy pre → (∀ x, Item.flt x ∈ pre → S x.i = true) → part S pre st = zxl pre st
 | [], _, _, _ => rfl
 | .flt x :: pre, st, hf, h => by simp only [part, zxl, h x (by simp), if_true]; exact zsv hf fun y hy => h y (by simp [hy])
 | .imm _ _ _ :: _, _, hf, _ => hf.elim
theorem zjh.split {j : Nat} {o : zzu} {s : ASt} {rest : List Item} : ∀ {pre : List Item} {pend : List Nat} {last : Option Nat}, zvy pre → zjh tab (pre ++ .imm j o s :: rest) pend last →
  (∀ p, p ∈ pre.map Item.idx ∨ p ∈ pend → tab j p = true) ∧ zjh tab rest [] (some j)
 | [], pend, last, _, h => ⟨fun p hp => hp.elim (fun hp => by cases hp) fun hp => h.1 p hp, h.2.2⟩
 | .flt x :: pre, pend, last, hf, h => by
  obtain ⟨h1, h2⟩ := zjh.split (pre := pre) hf h
  refine ⟨fun p hp => h1 p ?_, h2⟩
  rcases hp with hp | hp
  ·rcases List.mem_cons.1 hp with e | e
   ·right; rw [e]; simp [Item.idx]
   ·left; exact e
  ·right; simp [hp]
 | .imm _ _ _ :: _, _, _, hf, _ => hf.elim
theorem zjh.first {j : Nat} {o : zzu} {s : ASt} {rest : List Item} : ∀ {pre : List Item} {pend : List Nat} {last : Option Nat}, zjh tab (pre ++ .imm j o s :: rest) pend last →
  (zvy pre ∧ ∀ l, last = some l → tab j l = true) ∨ ∃ k o' s', Item.imm k o' s' ∈ pre ∧ tab j k = true
 | [], pend, last, h => .inl ⟨trivial, h.2.1⟩
 | .flt x :: pre, pend, last, h => by
  rcases zjh.first (pre := pre) h with h1 | ⟨k, o', s', h1, h2⟩
  ·exact .inl h1
  ·exact .inr ⟨k, o', s', by simp [h1], h2⟩
 | .imm k o' s' :: pre, pend, last, h => by
  rcases zjh.first (pre := pre) h.2.2 with h1 | ⟨k, o', s', h1, h2⟩
  ·exact .inr ⟨k, o', s', by simp, h1.2 k rfl⟩
  ·exact .inr ⟨k, o', s', by simp [h1], h2⟩
theorem ztv.notRo : ∀ {tr : List Item} {st : ASt}, ztv P aos tab K tr st → ∀ x A ob, Item.flt x ∈ tr → x.nb = some (A, ob) → ∀ l, ob ≠ .ro l
 | [], _, _, x, _, _, hx, _ => by cases hx
 | .flt y :: tr, st, h, x, A, ob, hx, hn => by
  rcases List.mem_cons.1 hx with e | e
  ·cases e
   obtain ⟨_, hf, _⟩ := h
   obtain ⟨_, ⟨_, _, h1⟩ | ⟨_, h1, _⟩ | ⟨_, _, _, ob', h2, _, h1⟩⟩ := hf
   ·rw [h1] at hn; cases hn
   ·rw [h1] at hn; cases hn
   ·rw [h1] at hn; cases hn; exact h2
  ·exact h.2.2.notRo x A ob e hn
 | .imm _ _ _ :: tr, st, h, x, A, ob, hx, hn => by
  rcases List.mem_cons.1 hx with e | e
  ·cases e
  ·exact h.2.2.2.2.notRo x A ob e hn
theorem zbz (D : zxk) (l : List Nat) (i : Nat) : uni D (l ++ [i]) = upd (uni D l) i := by
 funext k
 simp only [uni, upd]
 rw [Bool.eq_iff_iff]
 simp only [Bool.or_eq_true, List.contains_iff_mem, List.mem_append, List.mem_singleton, beq_iff_eq, or_assoc]
theorem yvv {tm : List AVal} {tmps : Array Value} (h : VRels ρ tm tmps.toList) (dst : Option Nat) {u : AVal} {cv : Value} (hu : ∀ d, dst = some d → d < tm.length → VRel ρ u cv) (st : ASt) (a : Act) (e1 : st.tm = tm) (e2 : a.tmps = tmps) :
  VRels ρ (st.put dst u).tm (a.put dst cv).tmps.toList := by
 subst e1; subst e2
 cases dst with
 | none => exact h
 | some d =>
  by_cases hd : d < st.tm.length
  ·simpa [ASt.put, Act.put] using h.set (hu d rfl hd) d
  ·have hl := h.length
   have e1 : st.tm.set d u = st.tm := List.set_eq_of_length_le (by omega)
   have e2 : a.tmps.setIfInBounds d cv = a.tmps := by
    apply Array.ext_getElem?
    intro i
    rw [Array.getElem?_setIfInBounds]
    split
    ·rename_i e; subst e
     rw [if_neg (by simp at hl; omega)]
     simp at hl
     exact (Array.getElem?_eq_none (by omega)).symm
    ·rfl
   simp only [ASt.put, Act.put, e1, e2]; exact h
theorem Inv.step {tr pre rest : List Item} {D L : zxk} {a : Act} {j : Nat} {o : zzu} {st' : ASt} {ops : Array Oper} {oc : Oper} {Q : Exit → Act → World → Prop} {Kc : Act → World → Prop} (hanc : zhu aos tab) (hfree : zuw aos tab)
  (h : Inv P B ρb aos tab K tr D L st ρ a w) (htr : tr = pre ++ .imm j o st' :: rest) (hpre : zvy pre) (hax : ∀ e ∈ o.after, L e = true) (ho : ops[j]? = some oc) (hoc : zkr P ops oc = some o)
  (hK : ∀ a' w' ρ', Inv P B ρb aos tab K rest (uni D (pre.map Item.idx ++ [j])) (upd L j) st' ρ' a' w' → Kc a' w') : wpOpIn (FW r) 0 P ops Q j Kc a w := by
 have hmem : Item.imm j o st' ∈ tr := by rw [htr]; simp
 have hjL : L j = false := h.imm j o st' hmem
 have hjo : aos[j]? = some o := h.trok.get_imm j o st' hmem
 have htrok := h.trok
 rw [htr] at htrok
 obtain ⟨_, hstep, hnext, hz, hrest⟩ := htrok.split
 have hord := h.ord
 have hnd := h.ord.nodup
 rw [htr, List.map_append, List.map_cons] at hord hnd
 obtain ⟨o1, o2, ⟨o', o3, o4⟩, o5⟩ := hord.split h.dcl
 change uni D (pre.map Item.idx) j = false at o2
 change aos[j]? = some o' at o3
 change zhl aos (rest.map Item.idx) (uni D (pre.map Item.idx ++ [j])) at o5
 rw [hjo] at o3; cases o3
 obtain ⟨last, hch⟩ := h.chain
 rw [htr] at hch
 obtain ⟨c1, c2⟩ := zjh.split hpre hch
 have hupL : zxw aos (upd L j) := h.lcl.upd hjo hax
 have hS0L : ∀ i, uni D (pre.map Item.idx) i = true → L i = true := fun i hi => by
  rcases zwh.1 hi with e | e
  ·exact h.dl i e
  ·have := hanc j i (c1 i (.inl e)) (upd L j) hupL (zze.2 (.inr rfl))
   rcases zze.1 this with g | g
   ·exact g
   ·rw [g, o2] at hi; cases hi
 have hDS0 : ∀ i, D i = true → uni D (pre.map Item.idx) i = true := fun i hi => zwh.2 (.inl hi)
 obtain ⟨a0, s1, s2, s3, s4⟩ := h.main _ o1 hDS0 hS0L
 have hrestS0 : ∀ k ∈ rest.map Item.idx, uni D (pre.map Item.idx) k = false ∧ k ≠ j := fun k hk => by
  have := o5.not_mem k hk
  rw [zbz, zqy] at this
  exact this
 have hpart0 : part (uni D (pre.map Item.idx)) tr st = zxl pre st := by
  rw [htr, zws, zsv hpre fun x hx => zwh.2 (.inr (zy9 hx))]
  refine zve _ _ fun y hy => ?_
  rcases List.mem_cons.1 hy with e | e
  ·cases e
  ·exact (hrestS0 _ (zy9 e)).1
 rw [hpart0] at s1
 have hcl : zxw aos (upd (uni D (pre.map Item.idx)) j) := o1.upd hjo o4
 have hap0 : ∀ i oi, L i = true → uni D (pre.map Item.idx) i = false → aos[i]? = some oi → zdg o oi := fun i oi hi hS hoi => by
  have hne : j ≠ i := fun e => by rw [← e, hjL] at hi; cases hi
  exact zs7 hanc hfree hjo hoi hne hcl (zze.2 (.inr rfl)) (by rw [zqy]; exact ⟨hS, Ne.symm hne⟩) h.lcl hi hjL
 obtain ⟨hc1, hc2, hc3⟩ := zqs hoc
 -- the one operation
 have one : zjw P r ops [j] (fun s => s = st') (zxl pre st) := by
  rcases hstep with ⟨g1, g2⟩ | ⟨g1, v, H', g2, g3⟩
  ·exact zjw.skip ho hoc g1 (zjw.nil g2.symm)
  ·rcases g3 with ⟨f, args, g3, g4⟩ | g3
   ·exact zjw.call ho hoc g1 g3 g4 fun v' h' ⟨e1, e2⟩ => zjw.nil (by rw [e1, e2]; exact g2.symm)
   ·exact zjw.op ho hoc g1 g3 (zjw.nil g2.symm)
 have hone := one (Vm.here (zqg (nm tr fun k => L k && !uni D (pre.map Item.idx) k) ρ) (zxl pre st).H w) _ a0 w ⟨s1.tm, s1.H.here, s1.marks⟩
 rw [wpOpsIn_cons] at hone
 refine zm4 ho (zmb hc1) (zu0 hc1) (fun y hy => ?_) ?_ (fun e a w he hq => ?_) (fun f v w' hq => ?_) hone
 ·cases y with
  | tmp t =>
   have ht : t ∈ o.looks := List.mem_append_right _ (by rw [(zql hoc).1]; exact zpt hy)
   have := s3 t fun i oi hi hS hoi e => (hap0 i oi hi hS hoi).2.2 t e ht
   simp only [Act.eval, Array.getD_eq_getD_getElem?, this]
  | _ => rfl
 ·cases hg : oc.guard with
  | none => simp [Region.wanted, hg]
  | some p =>
   obtain ⟨k, b⟩ := p
   obtain ⟨d, hd, hgx⟩ := (zql hoc).2.2 k b hg
   have ht : d ∈ o.looks := List.mem_append_left _ (List.mem_append_right _ (by rw [hgx]; simp))
   have := s3 d fun i oi hi hS hoi e => (hap0 i oi hi hS hoi).2.2 d e ht
   simp only [Region.wanted, hg, yielded, hd, Option.bind_some, this]
 ·obtain ⟨_, _, ⟨h0, _⟩, _⟩ := hq
  exact he h0
 ·obtain ⟨s, ρ2, ⟨_, rfl⟩, q1, q2⟩ := hq
  have hrnames := hrest.names
  have htnames := h.trok.names
  have hstwf : ∀ X, s.H.next ≤ X → s.H.get X = none := q1.H.wf
  have hsub : ∀ y, y ∈ rest → y ∈ tr := fun y hy => by rw [htr]; simp [hy]
  refine hK _ _ (fun A v => if nm rest L A = true then ρ A v else ρ2 A v) ⟨fun A v x hx => ?_, o5, ?_, hupL, fun i hi => ?_, fun k ok sk hk => ?_, hrest, ⟨_, c2⟩, hz, fun S' hS' hDS' hSL' => ?_⟩
  ·obtain ⟨g1, g2⟩ := h.le A v x hx
   have hA : A < s.H.next := Nat.lt_of_lt_of_le g2 (Nat.le_trans (zqd htrok) hnext)
   refine ⟨?_, hA⟩
   have n1 : nm rest L A = false := by
    cases hv : nm rest L A with
    | false => rfl
    | true => have := zsd hrnames hv; omega
   simp only [n1, Bool.false_eq_true, if_false]
   refine q2 A v x ?_
   have n2 : nm tr (fun k => L k && !uni D (pre.map Item.idx) k) A = false := by
    cases hv : nm tr (fun k => L k && !uni D (pre.map Item.idx) k) A with
    | false => rfl
    | true => have := zsd htnames hv; omega
   unfold zqg; rw [n2]; exact g1
  ·rw [zbz]; exact hcl
  ·rw [zbz] at hi
   rcases zze.1 hi with e | e
   ·exact zze.2 (.inl (hS0L i e))
   ·exact zze.2 (.inr e)
  ·exact zqy.2 ⟨h.imm k ok sk (hsub _ hk), (hrestS0 k (zu7 hk)).2⟩
  ·-- a part
   have hjS' : S' j = true := hDS' j (by rw [zbz]; exact zze.2 (.inr rfl))
   have hclS : zxw aos (mns S' j) := fun i oi hoi hi e he => by
    rw [zv9] at hi ⊢
    refine ⟨hS' i oi hoi hi.1 e he, fun hej => ?_⟩
    have hiL : L i = true := by
     rcases zze.1 (hSL' i hi.1) with g | g
     ·exact g
     ·exact (hi.2 g).elim
    have := h.lcl i oi hoi hiL e he
    rw [hej, hjL] at this; cases this
   have hS0S : ∀ i, uni D (pre.map Item.idx) i = true → mns S' j i = true := fun i hi => zv9.2 ⟨hDS' i (by rw [zbz]; exact zze.2 (.inl hi)), fun e => by rw [e, o2] at hi; cases hi⟩
   have hSL : ∀ i, mns S' j i = true → L i = true := fun i hi => by
    rw [zv9] at hi
    rcases zze.1 (hSL' i hi.1) with g | g
    ·exact g
    ·exact (hi.2 g).elim
   obtain ⟨aS, t1, t2, t3, t4⟩ := h.main (mns S' j) hclS (fun i hi => hS0S i (hDS0 i hi)) hSL
   generalize hSd : mns S' j = S at hclS hS0S hSL t1 t2 t3
   have hSj : S j = false := by rw [← hSd]; exact yqb
   have hSS' : ∀ k, k ≠ j → S k = S' k := fun k hk => by rw [← hSd]; simp [mns, hk]
   have hpartS : part S tr st = part S rest (zxl pre st) := by
    rw [htr, zws]
    simp only [part]
    rw [zsv hpre fun x hx => hS0S _ (zwh.2 (.inr (zy9 hx)))]
   have hsz : ∀ (b : Act) (dst : Option Nat), (b.put dst v).tmps.size = b.tmps.size := fun b dst => by cases dst <;> simp [Act.put]
   have hdf : ∀ (b : Act) (dst : Option Nat), (b.put dst v).defers = b.defers := fun b dst => by cases dst <;> rfl
   -- the names
   have hN0 : ∀ A, nm rest S A = true → nm tr (fun k => L k && !uni D (pre.map Item.idx) k) A = true := fun A hA => by
    obtain ⟨x, ob, h1, h2, h3⟩ := zx5.1 hA
    exact zx5.2 ⟨x, ob, hsub _ h1, by simp [hSL _ h2, (hrestS0 _ (zy9 h1)).1], h3⟩
   have hout : ∀ A, nm rest S A = false → nm tr (fun k => L k && !S k) A = nm tr (fun k => L k && !uni D (pre.map Item.idx) k) A := fun A hA => by
    rw [Bool.eq_iff_iff, zx5, zx5]
    constructor
    ·rintro ⟨x, ob, h1, h2, h3⟩
     simp only [Bool.and_eq_true, Bool.not_eq_true'] at h2
     refine ⟨x, ob, h1, ?_, h3⟩
     cases hv : uni D (pre.map Item.idx) x.i with
     | false => simp [h2.1]
     | true => rw [hS0S _ hv] at h2; cases h2.2
    ·rintro ⟨x, ob, h1, h2, h3⟩
     simp only [Bool.and_eq_true, Bool.not_eq_true'] at h2
     refine ⟨x, ob, h1, ?_, h3⟩
     cases hv : S x.i with
     | false => simp [h2.1]
     | true =>
      exfalso
      rw [htr] at h1
      rcases List.mem_append.1 h1 with e | e
      ·rw [zwh.2 (.inr (zy9 e))] at h2; cases h2.2
      ·rcases List.mem_cons.1 e with e | e
       ·cases e
       ·rw [zx5.2 ⟨x, ob, e, hv, h3⟩] at hA; cases hA
   have hN' : ∀ A, nm rest S A = true → s.H.get A = none := fun A hA => hstwf A (zsd hrnames hA)
   have hget : ∀ X, (part S' rest s).H.get X = if nm rest S X = true then (part S tr st).H.get X else s.H.get X := fun X => by
    rw [zqr rest s (T := S) fun x hx => (hSS' _ (hrestS0 _ (zy9 hx)).2).symm, hpartS, zwb, zwb]
    cases hv : nm rest S X with
    | true => simp only [if_true]; exact zay hv _ _
    | false => simp only [Bool.false_eq_true, if_false]; exact zth hv
   have hgr := HRel.graft s1.H t1.H (nm rest S) (fun A u hA => by unfold zqg; rw [hN0 A hA]; rfl) (fun A u hA => by unfold zqg; rw [hout A hA])
    (fun A hA => by rw [hpartS, zwb, zth hA]) (fun A hA => by
     rintro ⟨l, hl⟩
     obtain ⟨x, ob, h1, h2, h3, h4⟩ := zaz (d := (zxl pre st).H.get A) hA
     rw [hpartS, zwb, h4] at hl
     cases hl
     exact hrest.notRo x A _ h1 h3 l rfl) q1.H hN' hget (fun X hX => zt1 hrnames hstwf X hX)
   have hren : (fun A u => if nm rest S A = true then zqg (nm tr fun k => L k && !S k) ρ A u else ρ2 A u) = zqg (nm rest fun k => upd L j k && !S' k) (fun A u => if nm rest L A = true then ρ A u else ρ2 A u) := by
    funext A u
    cases hv : nm rest S A with
    | true =>
     simp only [if_true]
     obtain ⟨x, ob, h1, h2, h3⟩ := zx5.1 hv
     have e1 : nm tr (fun k => L k && !S k) A = false := by
      cases hw : nm tr (fun k => L k && !S k) A with
      | false => rfl
      | true =>
       obtain ⟨y, ob', k1, k2, k3⟩ := zx5.1 hw
       have := zj5 htnames k1 (hsub _ h1) k3 h3
       subst this
       rw [h2] at k2; simp at k2
     have e2 : nm rest (fun k => upd L j k && !S' k) A = false := by
      cases hw : nm rest (fun k => upd L j k && !S' k) A with
      | false => rfl
      | true =>
       obtain ⟨y, ob', k1, k2, k3⟩ := zx5.1 hw
       have := zj5 hrnames k1 h1 k3 h3
       subst this
       rw [← hSS' _ (hrestS0 _ (zy9 h1)).2, h2] at k2; simp at k2
     have e3 : nm rest L A = true := zx5.2 ⟨x, ob, h1, hSL _ h2, h3⟩
     simp [zqg, e1, e2, e3]
    | false =>
     simp only [Bool.false_eq_true, if_false]
     cases hw : nm rest (fun k => upd L j k && !S' k) A with
     | true =>
      have hA := zsd hrnames hw
      unfold zqg
      rw [hw]
      simp only [if_true]
      exact q1.H.fresh A u hA
     | false =>
      have e3 : nm rest L A = false := by
       cases hx : nm rest L A with
       | false => rfl
       | true =>
        obtain ⟨y, ob', k1, k2, k3⟩ := zx5.1 hx
        have hyj := (hrestS0 _ (zy9 k1)).2
        cases hv2 : S' y.i with
        | true => rw [zx5.2 ⟨y, ob', k1, by rw [hSS' _ hyj]; exact hv2, k3⟩] at hv; cases hv
        | false => rw [zx5.2 ⟨y, ob', k1, by simp [zze.2 (.inl k2), hv2], k3⟩] at hw; cases hw
      simp [zqg, hw, e3]
   rw [hren] at hgr
   have hle1 : (zqg (nm tr fun k => L k && !S k) ρ).le (zqg (nm rest fun k => upd L j k && !S' k) fun A u => if nm rest L A = true then ρ A u else ρ2 A u) := by
    rw [← hren]
    intro A u x hx
    cases hv : nm rest S A with
    | true => simpa [hv] using hx
    | false =>
     simp only [hv, Bool.false_eq_true, if_false]
     refine q2 A u x ?_
     unfold zqg at hx ⊢
     rw [← hout A hv]; exact hx
   have hle2 : ρ2.le (zqg (nm rest fun k => upd L j k && !S' k) fun A u => if nm rest L A = true then ρ A u else ρ2 A u) := by
    rw [← hren]
    intro A u x hx
    cases hv : nm rest S A with
    | true => obtain ⟨ob, hob⟩ := q1.H.dom A u x hx; rw [hN' A hv] at hob; cases hob
    | false => simpa [hv] using hx
   obtain ⟨u, hu⟩ := hstep.tm_eq
   have htmS : (part S' rest s).tm = ((part S tr st).put o.dst u).tm := by
    rw [zqr rest s (T := S) fun x hx => (hSS' _ (hrestS0 _ (zy9 hx)).2).symm, hpartS, ← zbs fun y hy hSy t ht => ?_]
    ·exact zmv hu
    ·have hyL := hSL _ hSy
     exact (hap0 y.i y.o hyL (hrestS0 _ (zy9 hy)).1 (h.trok.get_flt y (hsub _ hy))).2.1 t ht
   refine ⟨{ aS with defers := f aS.defers }.put oc.dst v, ⟨?_, hgr, ?_⟩, ?_, fun t ht => ?_, ?_⟩
   ·rw [htmS, ← hc2]
    refine yvv (t1.tm.mono hle1) o.dst (fun d hd hlt => ?_) _ _ rfl rfl
    have hlen1 := t1.tm.length
    have hlen0 := s1.tm.length
    simp only [Array.length_toList] at hlen1 hlen0
    have hq := q1.tm
    rw [hu, ← hc2, hd] at hq
    simp only [ASt.put, Act.put] at hq
    have hlt0 : d < (zxl pre st).tm.length := by omega
    obtain ⟨c, hc, hrel⟩ := hq.get d u (List.getElem?_set_self hlt0)
    rw [Array.getElem?_toList, Array.getElem?_setIfInBounds, if_pos rfl, if_pos (by omega)] at hc
    cases hc
    exact hrel.mono hle2
   ·rw [zq1, hdf]
    have := q1.marks
    rw [hdf] at this
    simp only at this ⊢
    rw [s4] at this
    rw [t4]
    exact this.mono hle2
   ·rw [hsz, hsz]; exact t2
   ·have h3 : aS.tmps[t]? = a.tmps[t]? := t3 t fun i oi hi hS hoi => by
     refine ht i oi (zze.2 (.inl hi)) ?_ hoi
     rw [← hSS' i fun e => by rw [e, hjL] at hi; cases hi]
     exact hS
    cases hd : oc.dst with
    | none => exact h3
    | some d => simp only [Act.put, Array.getElem?_setIfInBounds, t2, h3]
   ·rw [hdf, hdf, t4]
def cnt (tr : List Item) (L : zxk) : Nat := (tr.filter fun it => !L it.idx).length
theorem zt5 {listed : Array Bool} {j : Nat} : j ∈ zh5 aos listed ↔ ∃ o, aos[j]? = some o ∧ listed.getD j true = false ∧ ∀ e ∈ o.after, listed.getD e false = true := by
 unfold zh5
 rw [List.mem_filter]
 constructor
 ·rintro ⟨h1, h2⟩
  simp only [Bool.and_eq_true, Bool.not_eq_true'] at h2
  cases ho : aos[j]? with
  | none => rw [ho] at h2; simp at h2
  | some o =>
   rw [ho] at h2
   exact ⟨o, rfl, h2.1, by simpa using h2.2⟩
 ·rintro ⟨o, h1, h2, h3⟩
  refine ⟨by simpa using (List.getElem?_eq_some_iff.1 h1).1, ?_⟩
  simp only [Bool.and_eq_true, Bool.not_eq_true', h1, Option.map_some, Option.getD_some]
  exact ⟨h2, by simpa using h3⟩
theorem yz6 {listed : Array Bool} {j : Nat} (h : listed.getD j true = false) : listed.getD j false = false ∧ j < listed.size := by
 simp only [Array.getD_eq_getD_getElem?] at h ⊢
 cases hv : listed[j]? with
 | none => rw [hv] at h; simp at h
 | some b => rw [hv] at h; simp at h; subst h; exact ⟨by simp, (Array.getElem?_eq_some_iff.1 hv).1⟩
theorem yv2 {listed : Array Bool} {j : Nat} (h : listed.getD j false = false) (hj : j < listed.size) : listed.getD j true = false := by
 simp only [Array.getD_eq_getD_getElem?] at h ⊢
 have hv : listed[j]? = some listed[j] := Array.getElem?_eq_getElem hj
 rw [hv] at h ⊢
 simpa using h
theorem zs9 {listed : Array Bool} {i : Nat} (hi : i < listed.size) : (fun k => (listed.setIfInBounds i true).getD k false) = upd (fun k => listed.getD k false) i := by
 funext k
 simp only [upd, Array.getD_eq_getD_getElem?, Array.getElem?_setIfInBounds]
 by_cases e : i = k
 ·subst e; simp [hi]
 ·have e' : (k == i) = false := by simp; exact fun h => e h.symm
  simp [e, e']
theorem zmd : ∀ {tr : List Item} {L : zxk}, 0 < cnt tr L → ∃ pre it post, tr = pre ++ it :: post ∧ L it.idx = false ∧ ∀ x ∈ pre, L x.idx = true
 | [], L, h => by simp [cnt] at h
 | it :: tr, L, h => by
  cases hv : L it.idx with
  | false => exact ⟨[], it, tr, rfl, hv, by simp⟩
  | true =>
   have : 0 < cnt tr L := by simpa [cnt, List.filter_cons, hv] using h
   obtain ⟨pre, it', post, e, h1, h2⟩ := zmd this
   exact ⟨it :: pre, it', post, by rw [e]; rfl, h1, fun x hx => (List.mem_cons.1 hx).elim (fun e => e ▸ hv) fun g => h2 x g⟩
theorem ywb {tr : List Item} {L : zxk} (h : cnt tr L = 0) : ∀ it ∈ tr, L it.idx = true := fun it hit => by
 unfold cnt at h
 have := List.eq_nil_of_length_eq_zero h
 rw [List.filter_eq_nil_iff] at this
 simpa using this it hit
theorem zn3 (a b : List Item) (L : zxk) : cnt (a ++ b) L = cnt a L + cnt b L := by simp [cnt]
theorem zfc (it : Item) (b : List Item) (L : zxk) : cnt (it :: b) L = (if L it.idx = true then 0 else 1) + cnt b L := by
 simp only [cnt, List.filter_cons]
 cases L it.idx <;> simp <;> omega
theorem zf6 {tr : List Item} {L : zxk} {i : Nat} (h : i ∉ tr.map Item.idx) : cnt tr (upd L i) = cnt tr L := by
 unfold cnt
 congr 1
 apply List.filter_congr
 intro it hit
 have : it.idx ≠ i := fun e => h (e ▸ List.mem_map.2 ⟨it, hit, rfl⟩)
 have e' : (it.idx == i) = false := by simp [this]
 simp [upd, e']
theorem Inv.done {tr : List Item} {D L : zxk} {a : Act} (h : Inv P B ρb aos tab K tr D L st ρ a w) (hall : ∀ it ∈ tr, L it.idx = true) : AQ P B ρb (fun e s => e = .normal ∧ K s) .normal a w := by
 obtain ⟨aL, l1, l2, l3, l4⟩ := h.main L h.lcl h.dl fun _ h => h
 have e : zqg (nm tr fun k => L k && !L k) ρ = ρ := zrk fun X => by
  cases hv : nm tr (fun k => L k && !L k) X with
  | false => rfl
  | true => obtain ⟨y, ob, _, h2, _⟩ := zx5.1 hv; simp at h2
 rw [e] at l1
 have hflt : zvy tr := by
  have key : ∀ (l : List Item), (∀ it ∈ l, it ∈ tr) → zvy l := by
   intro l
   induction l with
   | nil => intro _; trivial
   | cons it l ih =>
    intro hl
    cases it with
    | flt x => exact ih fun y hy => hl y (by simp [hy])
    | imm j o s =>
     have h1 := h.imm j o s (hl _ (by simp))
     have h2 := hall _ (hl (.imm j o s) (by simp))
     simp only [Item.idx] at h2
     rw [h1] at h2; cases h2
  exact key tr fun _ h => h
 rw [zsv hflt fun x hx => hall _ hx] at l1
 have hK := (ztv.split (pre := tr) (post := []) (by rw [List.append_nil]; exact h.trok) : ztv P aos tab K [] _)
 have ha : aL = a := by
  obtain ⟨tm, df⟩ := aL
  obtain ⟨tm', df'⟩ := a
  simp only at l4
  subst l4
  have : tm = tm' := Array.ext_getElem? fun t => l3 t fun i o hi hn => by rw [hi] at hn; cases hn
  rw [this]
 rw [ha] at l1
 exact ⟨_, ρ, ⟨rfl, hK⟩, l1, fun A v x hx => (h.le A v x hx).1⟩
theorem Inv.all {ops : Array Oper} (hc : zqc P ops ops.toList = some aos) (hanc : zhu aos tab) (hfree : zuw aos tab) : ∀ (n : Nat) (tr : List Item) (D : zxk) (listed : Array Bool) (st : ASt) (ρ : Ren) (a : Act) (w : World),
  Inv P B ρb aos tab K tr D (fun i => listed.getD i false) st ρ a w → listed.size = aos.length → cnt tr (fun i => listed.getD i false) = n → wpAnyIn (FW r) 0 P .any ops (AQ P B ρb fun e s => e = .normal ∧ K s) n listed a w := by
 intro n
 induction n with
 | zero =>
  intro tr D listed st ρ a w h hsz hn
  have hall := ywb hn
  refine ⟨?_, h.done hall⟩
  rw [zr5 hc, List.eq_nil_iff_forall_not_mem]
  intro j hj
  obtain ⟨o, h1, h2, h3⟩ := zt5.1 hj
  obtain ⟨g1, g2⟩ := yz6 h2
  rcases h.ord.all j (by rw [← hsz]; exact g2) with e | e
  ·have := h.dl j e; rw [g1] at this; cases this
  ·obtain ⟨it, hit, rfl⟩ := List.mem_map.1 e
   have := hall it hit; rw [g1] at this; cases this
 | succ n ih =>
  intro tr D listed st ρ a w h hsz hn
  refine ⟨fun hr => ?_, fun i hi => ?_⟩
  ·exfalso
   obtain ⟨pre, it, post, e, h1, h2⟩ := zmd (tr := tr) (L := fun i => listed.getD i false) (by omega)
   have hord := h.ord
   rw [e, List.map_append, List.map_cons] at hord
   obtain ⟨o1, o2, ⟨o', o3, o4⟩, o5⟩ := hord.split h.dcl
   rw [zr5 hc] at hr
   have : it.idx ∈ zh5 aos listed := zt5.2 ⟨o', o3, yv2 h1 (by rw [hsz]; exact (List.getElem?_eq_some_iff.1 o3).1), fun e he => by
    rcases zwh.1 (o4 e he) with g | g
    ·exact h.dl e g
    ·obtain ⟨y, hy, rfl⟩ := List.mem_map.1 g; exact h2 y hy⟩
   rw [hr] at this; cases this
  ·rw [zr5 hc] at hi
   obtain ⟨o, h1, h2, h3⟩ := zt5.1 hi
   obtain ⟨g1, g2⟩ := yz6 h2
   have hmem : i ∈ tr.map Item.idx := by
    rcases h.ord.all i (by rw [← hsz]; exact g2) with e | e
    ·have := h.dl i e; rw [g1] at this; cases this
    ·exact e
   obtain ⟨it, hit, hidx⟩ := List.mem_map.1 hmem
   obtain ⟨pre, post, htr⟩ := List.append_of_mem hit
   have hlt : i < ops.size := by
    have := (List.getElem?_eq_some_iff.1 h1).1
    rw [(zva hc).1] at this
    simpa using this
   have ho : ops[i]? = some ops[i] := Array.getElem?_eq_getElem hlt
   obtain ⟨ao', h5, h6⟩ := (zva hc).2 i ops[i] (by simp [hlt])
   rw [h1] at h5; cases h5
   have hnd := h.ord.nodup
   rw [htr, List.map_append, List.map_cons, List.nodup_append] at hnd
   have hnpre : i ∉ pre.map Item.idx := fun hm => hnd.2.2 i hm it.idx (by simp) hidx.symm
   have hnpost : i ∉ post.map Item.idx := fun hm => (List.nodup_cons.1 hnd.2.1).1 (hidx ▸ hm)
   have hsz' : (listed.setIfInBounds i true).size = aos.length := by simpa using hsz
   cases it with
   | flt x =>
    simp only [Item.idx] at hidx
    subst hidx
    have hxo : aos[x.i]? = some x.o := h.trok.get_flt x hit
    rw [h1] at hxo; cases hxo
    refine h.float hanc hfree htr g1 h3 ho h6 fun a' w' ρ' hinv => ?_
    refine ih tr D _ st ρ' a' w' (by rw [zs9 g2]; exact hinv) hsz' ?_
    rw [zs9 g2]
    rw [htr] at hn ⊢
    rw [zn3, zfc] at hn ⊢
    rw [zf6 hnpre, zf6 hnpost]
    simp only [Item.idx, g1, zze.2 (.inr rfl), Bool.false_eq_true, if_false, if_true] at hn ⊢
    omega
   | imm j o' s =>
    simp only [Item.idx] at hidx
    subst hidx
    have hjo := h.trok.get_imm j o' s hit
    rw [h1] at hjo; cases hjo
    have hpre : zvy pre := by
     obtain ⟨last, hch⟩ := h.chain
     rw [htr] at hch
     rcases hch.first with e | ⟨k, o2, s2, e1, e2⟩
     ·exact e.1
     ·exfalso
      have hk := h.imm k o2 s2 (by rw [htr]; simp [e1])
      have := hanc j k e2 (upd (fun i => listed.getD i false) j) (h.lcl.upd h1 h3) (zze.2 (.inr rfl))
      rcases zze.1 this with g | g
      ·rw [hk] at g; cases g
      ·exact hnpre (g ▸ zu7 e1)
    have hpreL : ∀ y ∈ pre, listed.getD y.idx false = true := fun y hy => by
     obtain ⟨last, hch⟩ := h.chain
     rw [htr] at hch
     have := hanc j y.idx ((zjh.split hpre hch).1 _ (.inl (List.mem_map.2 ⟨y, hy, rfl⟩))) (upd (fun i => listed.getD i false) j) (h.lcl.upd h1 h3) (zze.2 (.inr rfl))
     rcases zze.1 this with g | g
     ·exact g
     ·exact (hnpre (g ▸ List.mem_map.2 ⟨y, hy, rfl⟩)).elim
    refine h.step hanc hfree htr hpre h3 ho h6 fun a' w' ρ' hinv => ?_
    refine ih post _ _ s ρ' a' w' (by rw [zs9 g2]; exact hinv) hsz' ?_
    rw [zs9 g2, zf6 hnpost]
    rw [htr, zn3, zfc] at hn
    simp only [Item.idx, g1, Bool.false_eq_true, if_false] at hn
    have : cnt pre (fun i => listed.getD i false) = 0 := by
     unfold cnt
     rw [List.length_eq_zero_iff, List.filter_eq_nil_iff]
     intro y hy
     simp [hpreL y hy]
    omega
theorem AWp.draws {Q : Exit → ASt → Prop} {id : Nat} {ops : Array Oper} (hm : P.follows .mixedOrders = true) (hc : zqc P ops ops.toList = some aos) (hfree : zuw aos (inA (ztf aos []))) {tr : List Item} (hlen : tr.length = aos.length)
  (hord : zhl aos (tr.map Item.idx) fun _ => false) (hch : zjh (inA (ztf aos [])) tr [] none) (hz : Zr (inA (ztf aos [])) tr st.H) (htr : ztv P aos (inA (ztf aos [])) (Q .normal) tr st) : AWp P r (.region id ops true) Q st := by
 intro B ρ a w hs
 have hsz : aos.length = ops.size := by rw [(zva hc).1]; simp
 refine wpIn_region_any hm ?_
 have hs' : zv7 P B ρ st a { w with drawn := w.drawn + 1 } := ⟨hs.tm, hs.H.congr_heap rfl rfl rfl, hs.marks⟩
 have hL : (fun i => (Array.replicate aos.length false).getD i false) = fun _ => false := by
  funext i
  simp only [Array.getD_eq_getD_getElem?, Array.getElem?_replicate]
  split <;> rfl
 have hcl : zxw aos fun _ => false := fun j o ho hj => by cases hj
 have hno : ∀ S : zxk, (nm tr fun k => false && !S k) = fun _ => false := fun S => by
  funext X
  cases hv : nm tr (fun k => false && !S k) X with
  | false => rfl
  | true => obtain ⟨y, ob, _, h2, _⟩ := zx5.1 hv; simp at h2
 have hinv : Inv P B ρ aos (inA (ztf aos [])) (Q .normal) tr (fun _ => false) (fun i => (Array.replicate aos.length false).getD i false) st ρ a { w with drawn := w.drawn + 1 } := by
  rw [hL]
  refine ⟨fun A v x hx => ⟨hx, ?_⟩, hord, hcl, hcl, fun i hi => hi, fun _ _ _ _ => rfl, htr, ⟨_, hch⟩, hz, fun S hS hDS hSL => ⟨a, ?_, rfl, fun _ _ => rfl, rfl⟩⟩
  ·rcases Nat.lt_or_ge A st.H.next with g | g
   ·exact g
   ·rw [hs.H.fresh A v g] at hx; cases hx
  ·have hSf : ∀ i, S i = false := fun i => by
    cases hv : S i with
    | false => rfl
    | true => have := hSL i hv; cases this
   rw [zve tr st fun x _ => hSf _, hno S, zrk fun _ => rfl]
   exact hs'
 have := Inv.all (r := r) hc ykz hfree aos.length tr _ _ st ρ a _ hinv (by simp) (by
  rw [hL]; unfold cnt; rw [← hlen]; exact congrArg List.length (List.filter_eq_self.2 fun _ _ => rfl))
 rw [hsz] at this
 exact ztp (fun e a w he ⟨_, _, ⟨h0, _⟩, _⟩ => he h0) (fun e a w hq => by
  obtain ⟨st', ρ', ⟨rfl, h1⟩, h2, h3⟩ := hq
  exact ⟨st', ρ', h1, h2, h3⟩) _ _ _ _ this
end Go.Vm
