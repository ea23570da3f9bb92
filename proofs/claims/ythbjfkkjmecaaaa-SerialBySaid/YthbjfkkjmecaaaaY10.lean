/- The abstract machine, part 21: the simulation's two steps. -/
import Derived.Test.YthbjfkkjmecaaaaY09
set_option linter.unusedVariables false
set_option linter.unusedSimpArgs false
namespace Go.Vm
open Go
variable {P : Program} {B : Base} {ρ ρ' : Ren} {H : zz6} {w w' : World} {r : Option Nat} {st : ASt} {K : ASt → Prop} {aos : List zzu} {tab : Nat → Nat → Bool} {ρb : Ren}
theorem zs2 : ∀ {tr : List Item}, (tr.map Item.idx).Nodup → ∀ {x y : Item}, x ∈ tr → y ∈ tr → x.idx = y.idx → x = y
 | [], _, _, _, hx, _, _ => by cases hx
 | it :: tr, h, x, y, hx, hy, e => by
  rw [List.map_cons, List.nodup_cons] at h
  rcases List.mem_cons.1 hx with h1 | h1 <;> rcases List.mem_cons.1 hy with h2 | h2
  ·rw [h1, h2]
  ·subst h1; exact (h.1 (e ▸ List.mem_map.2 ⟨y, h2, rfl⟩)).elim
  ·subst h2; exact (h.1 (e ▸ List.mem_map.2 ⟨x, h1, rfl⟩)).elim
  ·exact zs2 h.2 h1 h2 e
theorem yv6 {S : zxk} {i : Nat} (h : S i = true) : upd (mns S i) i = S := by
 funext k
 by_cases e : k = i
 ·simp [upd, mns, e, h]
 ·have e' : (k == i) = false := by simp [e]
  simp [upd, mns, e']
theorem yqb {S : zxk} {i : Nat} : mns S i i = false := by simp [mns]
theorem Inv.add {tr : List Item} {D L : zxk} {a : Act} {x : Flt} (h : Inv P B ρb aos tab K tr D L st ρ a w) (hmem : Item.flt x ∈ tr) (hx : L x.i = false) (hax : ∀ e ∈ x.o.after, L e = true) (cv : Value) (hle : ρ.le ρ')
  (H1 : ∀ (S : zxk) (aS : Act), S x.i = false → zv7 P B (zqg (nm tr fun k => L k && !S k) ρ) (part S tr st) aS w → zv7 P B (zqg (nm tr fun k => upd L x.i k && !S k) ρ') (part S tr st) aS w')
  (H2 : ∀ (S : zxk) (aS : Act), zxw aos S → (∀ i, D i = true → S i = true) → (∀ i, S i = true → L i = true) → (∀ e ∈ x.o.after, S e = true) → zv7 P B (zqg (nm tr fun k => L k && !S k) ρ) (part S tr st) aS w →
   zv7 P B (zqg (nm tr fun k => upd L x.i k && !upd S x.i k) ρ') (part (upd S x.i) tr st) (aS.put x.o.dst cv) w') :
  Inv P B ρb aos tab K tr D (upd L x.i) st ρ' (a.put x.o.dst cv) w' := by
 have hxo : aos[x.i]? = some x.o := h.trok.get_flt x hmem
 have hDx : D x.i = false := h.ord.not_mem _ (zy9 hmem)
 refine ⟨fun A v y hy => ⟨hle A v y (h.le A v y hy).1, (h.le A v y hy).2⟩, h.ord, h.dcl, h.lcl.upd hxo hax, fun i hi => zze.2 (.inl (h.dl i hi)), fun j o s hj => ?_, h.trok, h.chain, h.z, fun S hS hDS hSL => ?_⟩
 ·rw [zqy]
  refine ⟨h.imm j o s hj, fun e => ?_⟩
  have := zs2 h.ord.nodup hj hmem e
  cases this
 ·have hput : ∀ t, x.o.dst ≠ some t → (a.put x.o.dst cv).tmps[t]? = a.tmps[t]? := fun t ht => by
   cases hd : x.o.dst with
   | none => rfl
   | some d =>
    rw [hd] at ht
    simp only [Act.put]
    rw [Array.getElem?_setIfInBounds_ne (fun e => ht (by rw [e]))]
  have hsz : ∀ (b : Act), (b.put x.o.dst cv).tmps.size = b.tmps.size := fun b => by cases x.o.dst <;> simp [Act.put]
  have hdf : ∀ (b : Act), (b.put x.o.dst cv).defers = b.defers := fun b => by cases x.o.dst <;> rfl
  cases hSx : S x.i with
  | false =>
   have hSL' : ∀ i, S i = true → L i = true := fun i hi => by
    rcases zze.1 (hSL i hi) with e | e
    ·exact e
    ·rw [e, hSx] at hi; cases hi
   obtain ⟨aS, g1, g2, g3, g4⟩ := h.main S hS hDS hSL'
   refine ⟨aS, H1 S aS hSx g1, by rw [hsz, g2], fun t ht => ?_, by rw [hdf, g4]⟩
   rw [hput t (ht x.i x.o (zze.2 (.inr rfl)) hSx hxo)]
   exact g3 t fun i o hi hs ho => ht i o (zze.2 (.inl hi)) hs ho
  | true =>
   have hcl : zxw aos (mns S x.i) := fun j o ho hj e he => by
    rw [zv9] at hj ⊢
    refine ⟨hS j o ho hj.1 e he, fun hex => ?_⟩
    have hjL : L j = true := by
     rcases zze.1 (hSL j hj.1) with e | e
     ·exact e
     ·exact (hj.2 e).elim
    have := h.lcl j o ho hjL e he
    rw [hex, hx] at this; cases this
   have hD' : ∀ i, D i = true → mns S x.i i = true := fun i hi => zv9.2 ⟨hDS i hi, fun e => by rw [e, hDx] at hi; cases hi⟩
   have hL' : ∀ i, mns S x.i i = true → L i = true := fun i hi => by
    rw [zv9] at hi
    rcases zze.1 (hSL i hi.1) with e | e
    ·exact e
    ·exact (hi.2 e).elim
   have haS : ∀ e ∈ x.o.after, mns S x.i e = true := fun e he => zv9.2 ⟨hS x.i x.o hxo hSx e he, fun hex => by have := hax e he; rw [hex, hx] at this; cases this⟩
   obtain ⟨aS, g1, g2, g3, g4⟩ := h.main (mns S x.i) hcl hD' hL'
   have := H2 (mns S x.i) aS hcl hD' hL' haS g1
   rw [yv6 hSx] at this
   refine ⟨aS.put x.o.dst cv, this, by rw [hsz, hsz, g2], fun t ht => ?_, by rw [hdf, hdf, g4]⟩
   have ht' : ∀ i o, L i = true → mns S x.i i = false → aos[i]? = some o → o.dst ≠ some t := fun i o hi hs ho => by
    refine ht i o (zze.2 (.inl hi)) ?_ ho
    cases hv : S i with
    | false => rfl
    | true =>
     have : mns S x.i i = true := zv9.2 ⟨hv, fun e => by rw [e, hx] at hi; cases hi⟩
     rw [this] at hs; cases hs
   have h3 := g3 t ht'
   cases hd : x.o.dst with
   | none => exact h3
   | some d =>
    simp only [Act.put, Array.getElem?_setIfInBounds, g2, h3]
theorem ze1 {n : Nat} {tr pre post : List Item} {x : Flt} {S : zxk} {st : ASt} (htr : tr = pre ++ .flt x :: post) (hnd : (tr.map Item.idx).Nodup) (hnames : zxe n tr) (hS : S x.i = false)
  (hap : ∀ y, Item.flt y ∈ post → S y.i = true → ∀ t, x.o.dst = some t → y.o.dst ≠ some t) :
  (part (upd S x.i) tr st).tm = ((part S tr st).put x.o.dst x.v).tm ∧ ∀ X, (part (upd S x.i) tr st).H.get X = match x.nb with | some (A, ob) => if X = A then some ob else (part S tr st).H.get X | none => (part S tr st).H.get X := by
 have hne : ∀ y, Item.flt y ∈ pre ∨ Item.flt y ∈ post → y.i ≠ x.i := fun y hy e => by
  rw [htr, List.map_append, List.map_cons, List.nodup_append] at hnd
  rcases hy with hy | hy
  ·exact hnd.2.2 y.i (zy9 hy) x.i (by simp [Item.idx]) e
  ·have := (List.nodup_cons.1 hnd.2.1).1
   exact this (by rw [show Item.idx (.flt x) = y.i from e.symm]; exact zy9 hy)
 have hU : ∀ y : Flt, y.i ≠ x.i → upd S x.i y.i = S y.i := fun y hy => by simp [upd, hy]
 have e1 : part (upd S x.i) tr st = part S post ((part S pre st).flt x) := by
  rw [htr, zws]
  simp only [part, zze.2 (.inr rfl), if_true]
  rw [zqr pre st (T := S) fun y hy => hU y (hne y (.inl hy)), zqr post _ (T := S) fun y hy => hU y (hne y (.inr hy))]
 have e2 : part S tr st = part S post (part S pre st) := by
  rw [htr, zws]; simp only [part, hS, Bool.false_eq_true, if_false]
 constructor
 ·rw [e1, e2, ← zbs hap]
  exact zmv (za3 x _)
 ·intro X
  rw [e1, e2, zwb, zwb, yqv, znw]
  cases hn : x.nb with
  | none => rfl
  | some p =>
   obtain ⟨A, ob⟩ := p
   simp only
   by_cases hX : X = A
   ·rw [if_pos hX, if_pos hX]
    rw [zth]
    cases hv : nm post S X with
    | false => rfl
    | true =>
     obtain ⟨y, ob', h1, _, h3⟩ := zx5.1 hv
     rw [hX] at h3
     rw [htr] at hnames
     have := zj5 hnames (x := x) (y := y) (by simp) (by simp [h1]) hn h3
     exact absurd (by rw [this]) (hne y (.inr h1))
   ·rw [if_neg hX, if_neg hX]
theorem zn0 {F : Fence} {n : Nat} {ops : Array Oper} {Q : Exit → Act → World → Prop} {Kc : Act → World → Prop} {i : Nat} {o : Oper} {a : Act} {nx : Next} {cv : Value} (ho : ops[i]? = some o) (hw : Region.wanted o (yielded ops a.tmps) = true)
  (hd : ∀ c, o.op ≠ .defer c) (hf : ∀ f, F.fn f) (hrun : (execOp a.eval o).run P w = .ok nx w') (hnx : nx = .value cv ∨ (nx = .skip ∧ cv = undef)) (h : Kc (a.put o.dst cv) w') : wpOpIn F n P ops Q i Kc a w := by
 simp only [wpOpIn, ho, hw, if_true, Oper.wpIn]
 refine ⟨fun f _ => hf f, ?_⟩
 rw [Oper.semAt_eq _ _ _ hd, hrun]
 rcases hnx with rfl | ⟨rfl, rfl⟩
 ·exact h
 ·exact h
theorem zmb {o : Oper} {ao : AOp} (hc : ywk P o.op = some ao) : ∀ cs b, o.op ≠ .select cs b := fun c b h => by have := zaj hc; rw [h] at this; cases this
theorem Inv.float {tr pre post : List Item} {D L : zxk} {a : Act} {x : Flt} {ops : Array Oper} {oc : Oper} {Q : Exit → Act → World → Prop} {Kc : Act → World → Prop} (hanc : zhu aos tab) (hfree : zuw aos tab)
  (h : Inv P B ρb aos tab K tr D L st ρ a w) (htr : tr = pre ++ .flt x :: post) (hx : L x.i = false) (hax : ∀ e ∈ x.o.after, L e = true) (ho : ops[x.i]? = some oc) (hoc : zkr P ops oc = some x.o)
  (hK : ∀ a' w' ρ', Inv P B ρb aos tab K tr D (upd L x.i) st ρ' a' w' → Kc a' w') : wpOpIn (FW r) 0 P ops Q x.i Kc a w := by
 have hmem : Item.flt x ∈ tr := by rw [htr]; simp
 have hxo : aos[x.i]? = some x.o := h.trok.get_flt x hmem
 have htrok := h.trok
 rw [htr] at htrok
 obtain ⟨_, ⟨htm, hfl⟩, _⟩ := htrok.split
 obtain ⟨hc1, hc2, hc3⟩ := zqs hoc
 have hnames := h.trok.names
 have hLname : ∀ A ob, x.nb = some (A, ob) → ∀ S : zxk, (∀ k, S k = true → k ≠ x.i) → nm tr S A = false := fun A ob hn S hS => by
  cases hv : nm tr S A with
  | false => rfl
  | true =>
   obtain ⟨y, ob', h1, h2, h3⟩ := zx5.1 hv
   have := zj5 hnames h1 hmem h3 hn
   exact absurd (by rw [this]) (hS y.i h2)
 have hLne : ∀ k, L k = true → k ≠ x.i := fun k hk e => by rw [e, hx] at hk; cases hk
 -- the sets of those that are listed and not in a part
 have hset : ∀ S : zxk, (fun k => upd L x.i k && !upd S x.i k) = fun k => L k && !S k := fun S => by
  funext k
  by_cases e : k = x.i
  ·simp [upd, e, hx]
  ·have e' : (k == x.i) = false := by simp [e]
   simp [upd, e']
 have hnm1 : ∀ (S : zxk) (X : Nat), (∀ ob, x.nb ≠ some (X, ob)) → nm tr (fun k => upd L x.i k && !S k) X = nm tr (fun k => L k && !S k) X := fun S X hX => by
  rw [Bool.eq_iff_iff, zx5, zx5]
  constructor
  ·rintro ⟨y, ob, h1, h2, h3⟩
   simp only [Bool.and_eq_true] at h2
   rcases zze.1 h2.1 with e | e
   ·exact ⟨y, ob, h1, by simp [e, h2.2], h3⟩
   ·have := zs2 h.ord.nodup h1 hmem e
    cases this
    exact absurd h3 (hX ob)
  ·rintro ⟨y, ob, h1, h2, h3⟩
   simp only [Bool.and_eq_true] at h2
   exact ⟨y, ob, h1, by simp [zze.2 (.inl h2.1), h2.2], h3⟩
 have hapS : ∀ S : zxk, zxw aos S → (∀ i, S i = true → L i = true) → (∀ e ∈ x.o.after, S e = true) → ∀ y, Item.flt y ∈ post → S y.i = true → ∀ t, x.o.dst = some t → y.o.dst ≠ some t := fun S hS hSL hax' y hy hSy t ht => by
  have hord := h.ord
  rw [htr, List.map_append, List.map_cons] at hord
  obtain ⟨o1, o2, ⟨o', o3, o4⟩, o5⟩ := hord.split h.dcl
  have hne : x.i ≠ y.i := fun e => by rw [← e, ] at hSy; have := hSL _ hSy; rw [hx] at this; cases this
  have hcl : zxw aos (upd (uni D (pre.map Item.idx)) x.i) := o1.upd hxo fun e he => by
   rw [show Item.idx (.flt x) = x.i from rfl, hxo] at o3; cases o3; exact o4 e he
  have hyU : upd (uni D (pre.map Item.idx)) x.i y.i = false := by
   rw [zqy]
   refine ⟨?_, Ne.symm hne⟩
   have := o5.not_mem y.i (zy9 hy)
   cases hv : uni D (pre.map Item.idx) y.i with
   | false => rfl
   | true =>
    have : uni D (pre.map Item.idx ++ [Item.idx (.flt x)]) y.i = true := by
     rw [zwh] at hv ⊢
     rcases hv with e | e
     ·exact .inl e
     ·exact .inr (List.mem_append_left _ e)
    simp_all
  have := zs7 hanc hfree hxo (h.trok.get_flt y (by rw [htr]; simp [hy])) hne hcl (zze.2 (.inr rfl)) hyU hS hSy (by
   cases hv : S x.i with
   | false => rfl
   | true => rw [hSL _ hv] at hx; cases hx)
  exact this.2.1 t ht
 have hSx : ∀ S : zxk, (∀ i, S i = true → L i = true) → S x.i = false := fun S hSL => by
  cases hv : S x.i with
  | false => rfl
  | true => rw [hSL _ hv] at hx; cases hx
 -- the new state of a part, where the heap stays
 have quietAdd : ∀ cv : Value, x.nb = none → (∀ S : zxk, zxw aos S → (∀ i, D i = true → S i = true) → (∀ i, S i = true → L i = true) → (∀ e ∈ x.o.after, S e = true) → VRel (zqg (nm tr fun k => L k && !S k) ρ) x.v cv) →
   Inv P B ρb aos tab K tr D (upd L x.i) st ρ (a.put x.o.dst cv) w := fun cv hn hv => by
  refine h.add hmem hx hax cv (Ren.le_refl _) (fun S aS hS1 hs => ?_) (fun S aS hS hDS hSL hax' hs => ?_)
  ·have : (nm tr fun k => upd L x.i k && !S k) = nm tr fun k => L k && !S k := by
    funext X; exact hnm1 S X fun ob e => by rw [hn] at e; cases e
   rw [this]; exact hs
  ·rw [hset]
   obtain ⟨p1, p2⟩ := ze1 (st := st) htr h.ord.nodup hnames (hSx S hSL) (hapS S hS hSL hax')
   refine ⟨?_, ?_, ?_⟩
   ·rw [p1]; exact zca hs.tm x.o.dst (hv S hS hDS hSL hax')
   ·refine hs.H.same (fun X => ?_) (fun X hX => ?_)
    ·rw [p2, hn]
    ·have := zt1 (S := upd S x.i) hnames h.wf X hX
     rw [p2, hn] at this; exact this
   ·rw [zq1]
    have := hs.marks
    rw [zq1] at this
    cases x.o.dst <;> exact this
 obtain ⟨S0, a0, s1, s1', s2, s3, s4, s5, s6⟩ := h.sees (ops := ops) hanc hfree htr hx hoc h.lcl h.dl (fun _ h => h) hax
 rcases hfl with ⟨f1, f2, f3⟩ | ⟨f1, f2, f3, f4, f5⟩ | ⟨f1, f2, f3, ob, f4, f5, f6⟩
 ·-- not wanted
  have hw0 : zy6 x.o.guard (part S0 tr st).tm = some false := by rw [← s3.wanted]; exact f1
  have := zw2 hoc s2.tm hw0
  rw [s5] at this
  simp only [wpOpIn, ho, this, Bool.false_eq_true, if_false]
  refine ⟨fun _ _ => trivial, hK _ _ ρ ?_⟩
  rw [← hc2]
  exact quietAdd undef f3 fun S _ _ _ _ => by rw [f2]; exact .raw _
 ·-- a quiet one
  have hw0 : zy6 x.o.guard (part S0 tr st).tm = some true := by rw [← s3.wanted]; exact f1
  have hwant := zw2 hoc s2.tm hw0
  rw [s5] at hwant
  have hval : ∀ {S1 : zxk}, zvn x.o (zxl pre st).tm (part S1 tr st).tm → aOp (part S1 tr st).tm x.o.op (part S1 tr st).H = some (x.v, (part S1 tr st).H) := fun {S1} hal => by
   rw [← hal.op]
   rcases f5 with f5 | f5
   ·exact zey f5 f4 _
   ·have hy := h.z x hmem f5 fun j o s hj => by
     cases hja : tab x.i j with
     | false => rfl
     | true =>
     exfalso
     have hjL := hanc x.i j hja (upd L x.i) (h.lcl.upd hxo hax) (zze.2 (.inr rfl))
     rcases zze.1 hjL with e | e
     ·rw [h.imm j o s hj] at e; cases e
     ·have := zs2 h.ord.nodup hj hmem e
      cases this
    rcases hy with ⟨y1, _⟩ | ⟨_, y2⟩
    ·rw [htm, f1] at y1; cases y1
    ·rw [htm] at y2
     exact zh3 (h.hle S1) f5 y2
  have hmd : zwv oc.op = .quiet := by rw [← (zql hoc).2.1]; exact f3
  have key : ∀ {S1 : zxk} {a1 : Act}, zv7 P B (zqg (nm tr fun k => L k && !S1 k) ρ) (part S1 tr st) a1 w → zvn x.o (zxl pre st).tm (part S1 tr st).tm → (∀ y ∈ oc.op.operands, a1.eval y = a.eval y) →
    ∃ nx cv, (execOp a.eval oc).run P w = .ok nx w ∧ (nx = .value cv ∨ (nx = .skip ∧ cv = undef)) ∧ VRel (zqg (nm tr fun k => L k && !S1 k) ρ) x.v cv := fun {S1 a1} g1 g2 g3 => by
   obtain ⟨ρ1, w1, nx, cv, k1, k2, k3, k4, k5, k6, k7⟩ := zru g1.H g1.ev (yw0 hc1 (hval g2)) (hval g2)
   obtain ⟨rfl, rfl⟩ := k6 hmd
   rw [execOp_congr oc (zmb hc1) g3] at k1
   exact ⟨nx, cv, k1, k2, k3⟩
  obtain ⟨nx, cv, k1, k2, k3⟩ := key s2 s3 s4
  refine zn0 ho hwant (zu0 hc1) (yj1 r) k1 k2 (hK _ _ ρ ?_)
  rw [← hc2]
  refine quietAdd cv f2 fun S hS hDS hSL hax' => ?_
  obtain ⟨S1, a1, t1, t1', t2, t3, t4, t5, t6⟩ := h.sees (ops := ops) hanc hfree htr hx hoc hS hDS hSL hax'
  obtain ⟨nx', cv', j1, j2, j3⟩ := key t2 t3 t4
  rw [k1] at j1; cases j1
  have : cv' = cv := by
   rcases k2 with rfl | ⟨rfl, rfl⟩
   ·rcases j2 with e | ⟨e, _⟩
    ·cases e; rfl
    ·cases e
   ·rcases j2 with e | ⟨_, rfl⟩
    ·cases e
    ·rfl
  subst this
  refine j3.mono (yy8 fun A hA => zcp (fun k hk => ?_) A hA)
  simp only [Bool.and_eq_true, Bool.not_eq_true'] at hk ⊢
  refine ⟨hk.1, ?_⟩
  cases hv : S1 k with
  | false => rfl
  | true => rw [t1 k hv] at hk; cases hk.2
 ·-- a new block
  have hw0 : zy6 x.o.guard (part S0 tr st).tm = some true := by rw [← s3.wanted]; exact f1
  have hwant := zw2 hoc s2.tm hw0
  rw [s5] at hwant
  have hmd : zwv oc.op = .makes := by rw [← (zql hoc).2.1]; exact f2
  obtain ⟨ob', m1, _, m3⟩ := zlj f3 f5
  have hob : ob' = ob := by
   have e1 := congrArg (fun G => zz6.get G (zxl pre st).H.next) m1
   simp only [zz6.zzl] at e1
   cases e1; rfl
  subst hob
  generalize hA : (zxl pre st).H.next = A at m3 f6 s6
  have key : ∀ {S1 : zxk} {a1 : Act}, zv7 P B (zqg (nm tr fun k => L k && !S1 k) ρ) (part S1 tr st) a1 w → zvn x.o (zxl pre st).tm (part S1 tr st).tm → (∀ y ∈ oc.op.operands, a1.eval y = a.eval y) → (∀ X, A ≤ X → (part S1 tr st).H.get X = none) →
    ∃ cv co, (execOp a.eval oc).run P w = .ok (.value cv) (w.alloc co) ∧ zah co ∧ VRel ((zqg (nm tr fun k => L k && !S1 k) ρ).put A 0 ⟨w.heap.size, 0, zhf co⟩) x.v cv ∧ zwc P ((zqg (nm tr fun k => L k && !S1 k) ρ).put A 0 ⟨w.heap.size, 0, zhf co⟩) (w.alloc co) A ob' := fun {S1 a1} g1 g2 g3 g4 => by
   have hH : HRel P B (zqg (nm tr fun k => L k && !S1 k) ρ) { (part S1 tr st).H with next := A } w := g1.H.same (fun X => rfl) g4
   have ha := m3 { (part S1 tr st).H with next := A } rfl
   rw [g2.op] at ha
   obtain ⟨ρ1, w1, nx, cv, k1, k2, k3, k4, k5, k6, k7⟩ := zru hH g1.ev (yw0 hc1 ha) ha
   obtain ⟨k8, co, k9, k10, k11⟩ := k7 hmd
   subst k9; subst k8
   rw [k11] at k3 k4
   rw [execOp_congr oc (zmb hc1) g3] at k1
   refine ⟨cv, co, k1, k10, k3, k4.obj A ob' ?_⟩
   exact zz6.zzl (H := { (part S1 tr st).H with next := A }) ob'
  obtain ⟨cv, co, k1, k2, k3, k4⟩ := key s2 s3 s4 s6
  have hAst : st.H.next ≤ A := by rw [← hA]; exact zqd htrok
  have hfreeA : ∀ v, ρ A v = none := fun v => by
   obtain ⟨aL, l1, _⟩ := h.main L h.lcl h.dl fun _ h => h
   have e : zqg (nm tr fun k => L k && !L k) ρ = ρ := zrk fun X => by
    cases hv : nm tr (fun k => L k && !L k) X with
    | false => rfl
    | true => obtain ⟨y, ob, _, h2, _⟩ := zx5.1 hv; simp at h2
   rw [e] at l1
   cases hv : ρ A v with
   | none => rfl
   | some l =>
    obtain ⟨o', ho'⟩ := l1.H.dom A v l hv
    rw [zwb, zth (hLname A ob' f6 L hLne), h.wf A hAst] at ho'; cases ho'
  refine zn0 ho hwant (zu0 hc1) (yj1 r) k1 (.inl rfl) (hK _ _ (ρ.put A 0 ⟨w.heap.size, 0, zhf co⟩) ?_)
  rw [← hc2]
  have hputA : ∀ (N : zxk), N A = false → zqg N (ρ.put A 0 ⟨w.heap.size, 0, zhf co⟩) = (zqg N ρ).put A 0 ⟨w.heap.size, 0, zhf co⟩ := fun N hN => by
   funext X v
   unfold zqg Ren.put
   by_cases e : X = A ∧ v = 0
   ·rw [e.1]; simp [hN, e]
   ·simp [e]
  refine h.add hmem hx hax cv (Ren.put_le (hfreeA 0)) (fun S aS hS1 hs => ?_) (fun S aS hS hDS hSL hax' hs => ?_)
  ·have e : zqg (nm tr fun k => upd L x.i k && !S k) (ρ.put A 0 ⟨w.heap.size, 0, zhf co⟩) = zqg (nm tr fun k => L k && !S k) ρ := by
    funext X v
    unfold zqg
    by_cases hX : X = A
    ·subst hX
     have : nm tr (fun k => upd L x.i k && !S k) X = true := zx5.2 ⟨x, ob', hmem, by simp [zze.2 (.inr rfl), hS1], f6⟩
     rw [this, hfreeA v]; simp
    ·rw [hnm1 S X fun ob e => by rw [f6] at e; cases e; exact hX rfl, Ren.put_ne _ _ (fun e => hX e.1)]
   rw [e]
   exact ⟨hs.tm, hs.H.junk k2, hs.marks⟩
  ·rw [hset]
   obtain ⟨p1, p2⟩ := ze1 (st := st) htr h.ord.nodup hnames (hSx S hSL) (hapS S hS hSL hax')
   obtain ⟨S1, a1, t1, t1', t2, t3, t4, t5, t6⟩ := h.sees (ops := ops) hanc hfree htr hx hoc hS hDS hSL hax'
   rw [hA] at t6
   obtain ⟨cv', co', j1, j2, j3, j4⟩ := key t2 t3 t4 t6
   rw [k1] at j1
   have hcv : cv' = cv := (Next.value.inj (Result.ok.inj j1).1).symm
   have hco : co' = co := by
    have e := (Result.ok.inj j1).2.symm
    have e2 := congrArg (fun G : World => G.heap[w.heap.size]?) e
    simp only [World.alloc_heap_new] at e2
    exact Option.some.inj e2
   subst hcv; subst hco
   have hNA : nm tr (fun k => L k && !S k) A = false := hLname A ob' f6 _ fun k hk => hLne k (by simp only [Bool.and_eq_true] at hk; exact hk.1)
   rw [hputA _ hNA]
   have hN1 : (zqg (nm tr fun k => L k && !S1 k) ρ).le (zqg (nm tr fun k => L k && !S k) ρ) := yy8 fun X hX => zcp (fun k hk => by
    simp only [Bool.and_eq_true, Bool.not_eq_true'] at hk ⊢
    refine ⟨hk.1, ?_⟩
    cases hv : S1 k with
    | false => rfl
    | true => rw [t1 k hv] at hk; cases hk.2) X hX
   have hle : ((zqg (nm tr fun k => L k && !S1 k) ρ).put A 0 ⟨w.heap.size, 0, zhf co'⟩).le ((zqg (nm tr fun k => L k && !S k) ρ).put A 0 ⟨w.heap.size, 0, zhf co'⟩) := fun X v y hy => by
    by_cases e : X = A ∧ v = 0
    ·obtain ⟨rfl, rfl⟩ := e; rw [Ren.put_same] at hy ⊢; exact hy
    ·rw [Ren.put_ne _ _ e] at hy ⊢; exact hN1 X v y hy
   have hle2 : (zqg (nm tr fun k => L k && !S k) ρ).le ((zqg (nm tr fun k => L k && !S k) ρ).put A 0 ⟨w.heap.size, 0, zhf co'⟩) := Ren.put_le (by unfold zqg; rw [hfreeA]; simp)
   refine ⟨?_, ?_, ?_⟩
   ·rw [p1]; exact zca (hs.tm.mono hle2) x.o.dst (j3.mono hle)
   ·refine hs.H.place (o := ob') ?_ f4 (j4.keep hle (fun v => ?_) (fun _ _ _ => rfl)) k2 (fun X => ?_) (fun X hX => zt1 hnames h.wf X hX)
    ·rw [zwb, zth (hLname A ob' f6 S fun k hk => hLne k (hSL k hk)), h.wf A hAst]
    ·by_cases e : v = 0
     ·subst e; rw [Ren.put_same, Ren.put_same]
     ·rw [Ren.put_ne _ _ (fun h => e h.2), Ren.put_ne _ _ (fun h => e h.2)]
      unfold zqg; rw [hfreeA]; simp
    ·rw [p2, f6]
   ·rw [zq1]
    have := hs.marks.mono hle2
    rw [zq1] at this
    cases x.o.dst <;> exact this
end Go.Vm
