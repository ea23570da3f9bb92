/- The abstract machine, part 20: the simulation: every order of a drawn region against one plan. -/
import Derived.Test.YthbjfkkjmecaaaaT10
set_option linter.unusedVariables false
set_option linter.unusedSimpArgs false
namespace Go.Vm
open Go
variable {P : Program} {B : Base} {ρ ρ' : Ren} {H H' : AHeap} {w w' : World} {r : Option Nat} {st : ASt} {K : ASt → Prop} {aos : List AOper} {tab : Nat → Nat → Bool} {ρb : Ren}
def hide (N : NSet) (ρ : Ren) : Ren := fun A v => if N A = true then none else ρ A v
theorem hide_le {N N' : NSet} (h : ∀ A, N' A = true → N A = true) : (hide N ρ).le (hide N' ρ) := fun A v x hx => by
  unfold hide at *
  cases hN : N' A with
  | true => rw [h A hN] at hx; cases hx
  | false =>
    simp only [Bool.false_eq_true, if_false]
    cases hN2 : N A with
    | true => rw [hN2] at hx; cases hx
    | false => rw [hN2] at hx; exact hx
theorem hide_none {N : NSet} (h : ∀ A, N A = false) : hide N ρ = ρ := by
  funext A v; unfold hide; rw [h A]; rfl
theorem nm_mono {tr : List Item} {S T : NSet} (h : ∀ k, S k = true → T k = true) (A : Nat) (hA : nm tr S A = true) : nm tr T A = true := by
  obtain ⟨x, ob, h1, h2, h3⟩ := nm_true.1 hA
  exact nm_true.2 ⟨x, ob, h1, h x.i h2, h3⟩
structure Inv (P : Program) (B : Base) (ρb : Ren) (aos : List AOper) (tab : Nat → Nat → Bool) (K : ASt → Prop) (tr : List Item) (D L : NSet) (st : ASt) (ρ : Ren) (a : Act) (w : World) : Prop where
  le : ∀ A v x, ρb A v = some x → ρ A v = some x ∧ A < st.H.next
  ord : OrdL aos (tr.map Item.idx) D
  dcl : Closed aos D
  lcl : Closed aos L
  dl : ∀ i, D i = true → L i = true
  imm : ∀ j o s, Item.imm j o s ∈ tr → L j = false
  trok : TrOk P aos tab K tr st
  chain : ∃ last, Chain tab tr [] last
  z : Zr tab tr st.H
  main : ∀ S : NSet, Closed aos S → (∀ i, D i = true → S i = true) → (∀ i, S i = true → L i = true) → ∃ aS : Act,
    StRel P B (hide (nm tr fun k => L k && !S k) ρ) (part S tr st) aS w ∧ aS.tmps.size = a.tmps.size ∧
    (∀ t, (∀ i o, L i = true → S i = false → aos[i]? = some o → o.dst ≠ some t) → aS.tmps[t]? = a.tmps[t]?) ∧ aS.defers = a.defers
theorem apart_of (hanc : AncOk aos tab) (hfree : AllFree aos tab) {i k : Nat} {o ok : AOper} (hi : aos[i]? = some o) (hk : aos[k]? = some ok) (hne : i ≠ k) {T U : NSet} (hT : Closed aos T) (t1 : T i = true) (t2 : T k = false)
    (hU : Closed aos U) (u1 : U k = true) (u2 : U i = false) : Apart o ok := by
  rcases hfree i k o ok hi hk hne with h | h | h
  · rw [hanc i k h T hT t1] at t2; cases t2
  · rw [hanc k i h U hU u1] at u2; cases u2
  · exact h
def planSt : List Item → ASt → ASt
  | [], st => st
  | .flt x :: r, st => planSt r (st.flt x)
  | .imm _ _ s :: r, _ => planSt r s
theorem TrOk.split : ∀ {pre post : List Item} {st : ASt}, TrOk P aos tab K (pre ++ post) st → TrOk P aos tab K post (planSt pre st)
  | [], _, _, h => h
  | .flt _ :: pre, _, _, h => TrOk.split (pre := pre) h.2.2
  | .imm _ _ _ :: pre, _, _, h => TrOk.split (pre := pre) h.2.2.2.2
theorem TrOk.get_flt : ∀ {tr : List Item} {st : ASt}, TrOk P aos tab K tr st → ∀ x, Item.flt x ∈ tr → aos[x.i]? = some x.o
  | [], _, _, x, hx => by cases hx
  | .flt y :: r, _, h, x, hx => by
    rcases List.mem_cons.1 hx with e | e
    · cases e; exact h.1
    · exact h.2.2.get_flt x e
  | .imm _ _ _ :: r, _, h, x, hx => by
    rcases List.mem_cons.1 hx with e | e
    · cases e
    · exact h.2.2.2.2.get_flt x e
theorem TrOk.get_imm : ∀ {tr : List Item} {st : ASt}, TrOk P aos tab K tr st → ∀ j o s, Item.imm j o s ∈ tr → aos[j]? = some o
  | [], _, _, _, _, _, hx => by cases hx
  | .flt y :: r, _, h, j, o, s, hx => by
    rcases List.mem_cons.1 hx with e | e
    · cases e
    · exact h.2.2.get_imm j o s e
  | .imm _ _ _ :: r, _, h, j, o, s, hx => by
    rcases List.mem_cons.1 hx with e | e
    · cases e; exact h.1
    · exact h.2.2.2.2.get_imm j o s e
theorem AStep.tm_eq {o : AOper} {st st' : ASt} (h : AStep P st o st') : ∃ v, st'.tm = (st.put o.dst v).tm := by
  rcases h with ⟨_, rfl⟩ | ⟨_, v, H', rfl, _⟩
  · exact ⟨_, rfl⟩
  · exact ⟨v, by cases o.dst <;> rfl⟩
theorem set_getElem? {α : Type} {tm tm' : List α} {d n : Nat} (v : α) (h : d = n → tm[n]? = tm'[n]?) (h' : d ≠ n → tm[n]? = tm'[n]?) : (tm.set d v)[n]? = (tm'.set d v)[n]? := by
  by_cases e : d = n
  · subst e
    have := h rfl
    by_cases hl : d < tm.length
    · have hl' : d < tm'.length := by
        rcases Nat.lt_or_ge d tm'.length with h1 | h1
        · exact h1
        · rw [List.getElem?_eq_none h1, List.getElem?_eq_getElem hl] at this; cases this
      rw [List.getElem?_set_self hl, List.getElem?_set_self hl']
    · have hl' : ¬ d < tm'.length := fun h1 => by
        rw [List.getElem?_eq_none (by omega), List.getElem?_eq_getElem h1] at this; cases this
      rw [List.getElem?_eq_none (by simp; omega), List.getElem?_eq_none (by simp; omega)]
  · rw [List.getElem?_set_ne e, List.getElem?_set_ne e]; exact h' e
theorem Alike.put2 {o : AOper} {s s' : ASt} (h : Alike o s.tm s'.tm) (d : Option Nat) (v : AVal) : Alike o (s.put d v).tm (s'.put d v).tm := fun n hn => by
  cases d with
  | none => exact h n hn
  | some d => exact set_getElem? v (fun _ => h n hn) (fun _ => h n hn)
theorem flt_tm (x : Flt) (st : ASt) : (st.flt x).tm = (st.put x.o.dst x.v).tm := by unfold ASt.flt; cases x.o.dst <;> rfl
theorem Alike.put_left {o : AOper} {s : ASt} {tm : List AVal} (h : Alike o s.tm tm) {d : Option Nat} (hd : ∀ t, d = some t → t ∉ o.looks) (v : AVal) : Alike o (s.put d v).tm tm := fun n hn => by
  cases d with
  | none => exact h n hn
  | some d =>
    have : d ≠ n := fun e => hd d rfl (e ▸ hn)
    simp only [ASt.put, List.getElem?_set_ne this]
    exact h n hn
theorem alike_pre {xo : AOper} {S : NSet} : ∀ {pre post : List Item} {s1 s2 : ASt}, TrOk P aos tab K (pre ++ post) s1 → (∀ y, Item.flt y ∈ pre → S y.i = false → ∀ t, y.o.dst = some t → t ∉ xo.looks) →
    (∀ j o s, Item.imm j o s ∈ pre → ∀ t, o.dst = some t → t ∉ xo.looks) → Alike xo s1.tm s2.tm → Alike xo (planSt pre s1).tm (part S pre s2).tm
  | [], _, _, _, _, _, _, h => h
  | .flt y :: pre, post, s1, s2, ht, h1, h2, h => by
    simp only [planSt, part]
    refine alike_pre ht.2.2 (fun z hz => h1 z (by simp [hz])) (fun j o s hj => h2 j o s (by simp [hj])) ?_
    cases hS : S y.i with
    | true =>
      simp only [if_true, flt_tm]
      exact h.put2 _ _
    | false =>
      simp only [Bool.false_eq_true, if_false, flt_tm]
      exact h.put_left (h1 y (by simp) hS) _
  | .imm j o s :: pre, post, s1, s2, ht, h1, h2, h => by
    simp only [planSt, part]
    refine alike_pre ht.2.2.2.2 (fun z hz => h1 z (by simp [hz])) (fun j o s hj => h2 j o s (by simp [hj])) ?_
    obtain ⟨v, hv⟩ := ht.2.1.tm_eq
    rw [hv]
    exact h.put_left (h2 j o s (by simp)) v
theorem planSt_next : ∀ {pre post : List Item} {st : ASt}, TrOk P aos tab K (pre ++ post) st → ∀ A ∈ pre.filterMap nameOf, A < (planSt pre st).H.next
  | [], _, _, _, A, hA => by cases hA
  | .flt x :: pre, post, st, h, A, hA => by
    have hmono : ∀ {p q : List Item} {s : ASt}, TrOk P aos tab K (p ++ q) s → s.H.next ≤ (planSt p s).H.next := by
      intro p
      induction p with
      | nil => intro q s h; exact Nat.le_refl _
      | cons it p ih =>
        intro q s h
        cases it with
        | flt x =>
          refine Nat.le_trans ?_ (ih h.2.2)
          rw [flt_next]
          obtain ⟨_, hf, _⟩ := h
          obtain ⟨_, ⟨_, _, hn⟩ | ⟨_, hn, _⟩ | ⟨_, _, _, ob, _, _, hn⟩⟩ := hf
          · rw [hn]; exact Nat.le_refl _
          · rw [hn]; exact Nat.le_refl _
          · rw [hn]; exact Nat.le_succ _
        | imm j o s' => exact Nat.le_trans h.2.2.1 (ih h.2.2.2.2)
    simp only [planSt]
    cases hn : x.nb with
    | none =>
      simp only [List.filterMap_cons, nameOf, hn, Option.map_none] at hA
      exact planSt_next h.2.2 A hA
    | some p =>
      obtain ⟨A', ob⟩ := p
      simp only [List.filterMap_cons, nameOf, hn, Option.map_some, List.mem_cons] at hA
      rcases hA with rfl | hA
      · have := hmono h.2.2
        rw [flt_next, hn] at this
        exact this
      · exact planSt_next h.2.2 A hA
  | .imm j o s :: pre, post, st, h, A, hA => by
    simp only [List.filterMap_cons, nameOf] at hA
    exact planSt_next h.2.2.2.2 A hA
theorem planSt_mono : ∀ {p q : List Item} {s : ASt}, TrOk P aos tab K (p ++ q) s → s.H.next ≤ (planSt p s).H.next
  | [], _, _, _ => Nat.le_refl _
  | .flt x :: p, q, s, h => by
    refine Nat.le_trans ?_ (planSt_mono (p := p) h.2.2)
    rw [flt_next]
    obtain ⟨_, hf, _⟩ := h
    obtain ⟨_, ⟨_, _, hn⟩ | ⟨_, hn, _⟩ | ⟨_, _, _, ob, _, _, hn⟩⟩ := hf
    · rw [hn]; exact Nat.le_refl _
    · rw [hn]; exact Nat.le_refl _
    · rw [hn]; exact Nat.le_succ _
  | .imm j o s' :: p, q, s, h => Nat.le_trans h.2.2.1 (planSt_mono (p := p) h.2.2.2.2)
theorem mem_idx_flt {tr : List Item} {x : Flt} (h : Item.flt x ∈ tr) : x.i ∈ tr.map Item.idx := List.mem_map.2 ⟨_, h, rfl⟩
theorem mem_idx_imm {tr : List Item} {j : Nat} {o : AOper} {s : ASt} (h : Item.imm j o s ∈ tr) : j ∈ tr.map Item.idx := List.mem_map.2 ⟨_, h, rfl⟩
theorem Inv.wf {tr : List Item} {D L : NSet} {a : Act} (h : Inv P B ρb aos tab K tr D L st ρ a w) : ∀ X, st.H.next ≤ X → st.H.get X = none := by
  obtain ⟨aS, h1, _⟩ := h.main D h.dcl (fun _ h => h) h.dl
  have : part D tr st = st := part_none tr st fun x hx => h.ord.not_mem _ (mem_idx_flt hx)
  rw [this] at h1
  exact h1.H.wf
theorem Inv.hle {tr : List Item} {D L : NSet} {a : Act} (h : Inv P B ρb aos tab K tr D L st ρ a w) (S : NSet) : HLe st.H (part S tr st).H := fun A o ho => by
  rw [part_get, lk_no, ho]
  cases hn : nm tr S A with
  | false => rfl
  | true =>
    have h1 := nm_name h.trok.names hn
    rw [h.wf A h1] at ho; cases ho
theorem Inv.sees {tr pre post : List Item} {D L : NSet} {a : Act} {x : Flt} {ops : Array Oper} {oc : Oper} (hanc : AncOk aos tab) (hfree : AllFree aos tab) (h : Inv P B ρb aos tab K tr D L st ρ a w) (htr : tr = pre ++ .flt x :: post)
    (hx : L x.i = false) (hoc : cOper P ops oc = some x.o) {S : NSet} (hS : Closed aos S) (hDS : ∀ i, D i = true → S i = true) (hSL : ∀ i, S i = true → L i = true) (hax : ∀ e ∈ x.o.after, S e = true) :
    ∃ (S0 : NSet) (a0 : Act), (∀ k, S0 k = true → S k = true) ∧ (∀ k, D k = true → S0 k = true) ∧ StRel P B (hide (nm tr fun k => L k && !S0 k) ρ) (part S0 tr st) a0 w ∧ Alike x.o (planSt pre st).tm (part S0 tr st).tm ∧
      (∀ y ∈ oc.op.operands, a0.eval y = a.eval y) ∧ Region.wanted oc (yielded ops a0.tmps) = Region.wanted oc (yielded ops a.tmps) ∧ (∀ X, (planSt pre st).H.next ≤ X → (part S0 tr st).H.get X = none) := by
  have hord := h.ord
  rw [htr, List.map_append, List.map_cons] at hord
  obtain ⟨o1, o2, ⟨o', o3, o4⟩, o5⟩ := hord.split h.dcl
  have hxo : aos[x.i]? = some x.o := h.trok.get_flt x (by rw [htr]; simp)
  change uni D (pre.map Item.idx) x.i = false at o2
  change aos[x.i]? = some o' at o3
  change OrdL aos (post.map Item.idx) (uni D (pre.map Item.idx ++ [x.i])) at o5
  rw [hxo] at o3; cases o3
  refine ⟨fun k => S k && uni D (pre.map Item.idx) k, ?_⟩
  have hS0 : Closed aos fun k => S k && uni D (pre.map Item.idx) k := hS.and o1
  have hup : Closed aos (upd (fun k => S k && uni D (pre.map Item.idx) k) x.i) := hS0.upd hxo fun e he => by simp [hax e he, o4 e he]
  have hS0L : ∀ k, (S k && uni D (pre.map Item.idx) k) = true → L k = true := fun k hk => hSL k (by simp only [Bool.and_eq_true] at hk; exact hk.1)
  have hDS0 : ∀ k, D k = true → (S k && uni D (pre.map Item.idx) k) = true := fun k hk => by simp [hDS k hk, uni_true.2 (.inl hk)]
  obtain ⟨a0, g1, g2, g3, g4⟩ := h.main _ hS0 hDS0 hS0L
  -- those that are listed and not in S0 are apart
  have hap : ∀ i o, L i = true → (S i && uni D (pre.map Item.idx) i) = false → aos[i]? = some o → Apart x.o o := fun i o hi hS' ho => by
    have hne : x.i ≠ i := fun e => by rw [e, hi] at hx; cases hx
    exact apart_of hanc hfree hxo ho hne hup (upd_true.2 (.inr rfl)) (by rw [upd_false]; exact ⟨hS', Ne.symm hne⟩) h.lcl hi hx
  have hpost : ∀ k ∈ post.map Item.idx, uni D (pre.map Item.idx) k = false := fun k hk => by
    have := o5.not_mem k hk
    cases hv : uni D (pre.map Item.idx) k with
    | false => rfl
    | true =>
      have : uni D (pre.map Item.idx ++ [x.i]) k = true := by
        rw [uni_true] at hv ⊢
        rcases hv with e | e
        · exact .inl e
        · exact .inr (List.mem_append_left _ e)
      simp_all
  have hpart : part (fun k => S k && uni D (pre.map Item.idx) k) tr st = part (fun k => S k && uni D (pre.map Item.idx) k) pre st := by
    rw [htr, part_append]
    refine part_none _ _ fun y hy => ?_
    rcases List.mem_cons.1 hy with e | e
    · cases e; simp [o2]
    · simp [hpost _ (mem_idx_flt e)]
  have htrok := h.trok
  rw [htr] at htrok
  refine ⟨a0, fun k hk => by simp only [Bool.and_eq_true] at hk; exact hk.1, hDS0, g1, ?_, ?_, ?_, ?_⟩
  · rw [hpart]
    have hpre : ∀ k o, aos[k]? = some o → k ∈ pre.map Item.idx → (S k && uni D (pre.map Item.idx) k) = false → ∀ t, o.dst = some t → t ∉ x.o.looks := fun k o ho hk hS' t ht => by
      have hne : x.i ≠ k := fun e => by rw [e] at o2; rw [uni_true.2 (.inr hk)] at o2; cases o2
      have := apart_of hanc hfree hxo ho hne hup (upd_true.2 (.inr rfl)) (by rw [upd_false]; exact ⟨hS', Ne.symm hne⟩) o1 (uni_true.2 (.inr hk)) o2
      exact this.2.2 t ht
    refine alike_pre htrok (fun y hy hS' => hpre y.i y.o (h.trok.get_flt y (by rw [htr]; simp [hy])) (mem_idx_flt hy) hS') (fun j o s hj => hpre j o (h.trok.get_imm j o s (by rw [htr]; simp [hj])) (mem_idx_imm hj) ?_) (Alike.refl _ _)
    have : L j = false := h.imm j o s (by rw [htr]; simp [hj])
    cases hv : S j with
    | false => rfl
    | true => rw [hSL j hv] at this; cases this
  · intro y hy
    cases y with
    | tmp t =>
      have ht : t ∈ x.o.looks := List.mem_append_right _ (by rw [(cOper_uses hoc).1]; exact usesOf_mem hy)
      have := g3 t fun i o hi hS' ho e => (hap i o hi hS' ho).2.2 t e ht
      simp only [Act.eval, Array.getD_eq_getD_getElem?, this]
    | _ => rfl
  · cases hg : oc.guard with
    | none => simp [Region.wanted, hg]
    | some p =>
      obtain ⟨j, b⟩ := p
      obtain ⟨d, hd, hgx⟩ := (cOper_uses hoc).2.2 j b hg
      have ht : d ∈ x.o.looks := List.mem_append_left _ (List.mem_append_right _ (by rw [hgx]; simp))
      have := g3 d fun i o hi hS' ho e => (hap i o hi hS' ho).2.2 d e ht
      simp only [Region.wanted, hg, yielded, hd, Option.bind_some, this]
  · intro X hX
    rw [hpart, part_get]
    have hst : st.H.get X = none := h.wf X (Nat.le_trans (planSt_mono htrok) hX)
    cases hn : nm pre (fun k => S k && uni D (pre.map Item.idx) k) X with
    | false => rw [lk_no hn]; exact hst
    | true =>
      obtain ⟨y, ob, h1, _, h3⟩ := nm_true.1 hn
      have := planSt_next htrok X (List.mem_filterMap.2 ⟨_, h1, by simp [nameOf, h3]⟩)
      omega
end Go.Vm
namespace Go.Vm
open Go
variable {P : Program} {B : Base} {ρ ρ' : Ren} {H H' : AHeap} {w w' : World} {r : Option Nat} {st : ASt} {K : ASt → Prop} {aos : List AOper} {tab : Nat → Nat → Bool} {ρb : Ren}
theorem idx_uniq : ∀ {tr : List Item}, (tr.map Item.idx).Nodup → ∀ {x y : Item}, x ∈ tr → y ∈ tr → x.idx = y.idx → x = y
  | [], _, _, _, hx, _, _ => by cases hx
  | it :: tr, h, x, y, hx, hy, e => by
    rw [List.map_cons, List.nodup_cons] at h
    rcases List.mem_cons.1 hx with h1 | h1 <;> rcases List.mem_cons.1 hy with h2 | h2
    · rw [h1, h2]
    · subst h1; exact (h.1 (e ▸ List.mem_map.2 ⟨y, h2, rfl⟩)).elim
    · subst h2; exact (h.1 (e ▸ List.mem_map.2 ⟨x, h1, rfl⟩)).elim
    · exact idx_uniq h.2 h1 h2 e
theorem upd_mns {S : NSet} {i : Nat} (h : S i = true) : upd (mns S i) i = S := by
  funext k
  by_cases e : k = i
  · simp [upd, mns, e, h]
  · have e' : (k == i) = false := by simp [e]
    simp [upd, mns, e']
theorem mns_not {S : NSet} {i : Nat} : mns S i i = false := by simp [mns]
theorem Inv.add {tr : List Item} {D L : NSet} {a : Act} {x : Flt} (h : Inv P B ρb aos tab K tr D L st ρ a w) (hmem : Item.flt x ∈ tr) (hx : L x.i = false) (hax : ∀ e ∈ x.o.after, L e = true) (cv : Value) (hle : ρ.le ρ')
    (H1 : ∀ (S : NSet) (aS : Act), S x.i = false → StRel P B (hide (nm tr fun k => L k && !S k) ρ) (part S tr st) aS w → StRel P B (hide (nm tr fun k => upd L x.i k && !S k) ρ') (part S tr st) aS w')
    (H2 : ∀ (S : NSet) (aS : Act), Closed aos S → (∀ i, D i = true → S i = true) → (∀ i, S i = true → L i = true) → (∀ e ∈ x.o.after, S e = true) → StRel P B (hide (nm tr fun k => L k && !S k) ρ) (part S tr st) aS w →
      StRel P B (hide (nm tr fun k => upd L x.i k && !upd S x.i k) ρ') (part (upd S x.i) tr st) (aS.put x.o.dst cv) w') :
    Inv P B ρb aos tab K tr D (upd L x.i) st ρ' (a.put x.o.dst cv) w' := by
  have hxo : aos[x.i]? = some x.o := h.trok.get_flt x hmem
  have hDx : D x.i = false := h.ord.not_mem _ (mem_idx_flt hmem)
  refine ⟨fun A v y hy => ⟨hle A v y (h.le A v y hy).1, (h.le A v y hy).2⟩, h.ord, h.dcl, h.lcl.upd hxo hax, fun i hi => upd_true.2 (.inl (h.dl i hi)), fun j o s hj => ?_, h.trok, h.chain, h.z, fun S hS hDS hSL => ?_⟩
  · rw [upd_false]
    refine ⟨h.imm j o s hj, fun e => ?_⟩
    have := idx_uniq h.ord.nodup hj hmem e
    cases this
  · have hput : ∀ t, x.o.dst ≠ some t → (a.put x.o.dst cv).tmps[t]? = a.tmps[t]? := fun t ht => by
      cases hd : x.o.dst with
      | none => rfl
      | some d =>
        rw [hd] at ht
        simp only [Act.put]
        rw [Array.getElem?_setIfInBounds_ne (fun e => ht (by rw [e]))]
    have hsz : ∀ (b : Act), (b.put x.o.dst cv).tmps.size = b.tmps.size := fun b => by cases x.o.dst <;> simp [Act.put]
    have hdf : ∀ (b : Act), (b.put x.o.dst cv).defers = b.defers := fun b => by cases x.o.dst <;> rfl
    cases hSx : S x.i with
    | false =>
      have hSL' : ∀ i, S i = true → L i = true := fun i hi => by
        rcases upd_true.1 (hSL i hi) with e | e
        · exact e
        · rw [e, hSx] at hi; cases hi
      obtain ⟨aS, g1, g2, g3, g4⟩ := h.main S hS hDS hSL'
      refine ⟨aS, H1 S aS hSx g1, by rw [hsz, g2], fun t ht => ?_, by rw [hdf, g4]⟩
      rw [hput t (ht x.i x.o (upd_true.2 (.inr rfl)) hSx hxo)]
      exact g3 t fun i o hi hs ho => ht i o (upd_true.2 (.inl hi)) hs ho
    | true =>
      have hcl : Closed aos (mns S x.i) := fun j o ho hj e he => by
        rw [mns_true] at hj ⊢
        refine ⟨hS j o ho hj.1 e he, fun hex => ?_⟩
        have hjL : L j = true := by
          rcases upd_true.1 (hSL j hj.1) with e | e
          · exact e
          · exact (hj.2 e).elim
        have := h.lcl j o ho hjL e he
        rw [hex, hx] at this; cases this
      have hD' : ∀ i, D i = true → mns S x.i i = true := fun i hi => mns_true.2 ⟨hDS i hi, fun e => by rw [e, hDx] at hi; cases hi⟩
      have hL' : ∀ i, mns S x.i i = true → L i = true := fun i hi => by
        rw [mns_true] at hi
        rcases upd_true.1 (hSL i hi.1) with e | e
        · exact e
        · exact (hi.2 e).elim
      have haS : ∀ e ∈ x.o.after, mns S x.i e = true := fun e he => mns_true.2 ⟨hS x.i x.o hxo hSx e he, fun hex => by have := hax e he; rw [hex, hx] at this; cases this⟩
      obtain ⟨aS, g1, g2, g3, g4⟩ := h.main (mns S x.i) hcl hD' hL'
      have := H2 (mns S x.i) aS hcl hD' hL' haS g1
      rw [upd_mns hSx] at this
      refine ⟨aS.put x.o.dst cv, this, by rw [hsz, hsz, g2], fun t ht => ?_, by rw [hdf, hdf, g4]⟩
      have ht' : ∀ i o, L i = true → mns S x.i i = false → aos[i]? = some o → o.dst ≠ some t := fun i o hi hs ho => by
        refine ht i o (upd_true.2 (.inl hi)) ?_ ho
        cases hv : S i with
        | false => rfl
        | true =>
          have : mns S x.i i = true := mns_true.2 ⟨hv, fun e => by rw [e, hx] at hi; cases hi⟩
          rw [this] at hs; cases hs
      have h3 := g3 t ht'
      cases hd : x.o.dst with
      | none => exact h3
      | some d =>
        simp only [Act.put, Array.getElem?_setIfInBounds, g2, h3]
theorem NamesOk.tail {n : Nat} {it : Item} {tr : List Item} (h : NamesOk n (it :: tr)) : NamesOk n tr := by
  cases hz : nameOf it with
  | none => simpa only [NamesOk, List.filterMap_cons, hz] using h
  | some A =>
    have h1 := h.1; have h2 := h.2
    simp only [List.filterMap_cons, hz, List.pairwise_cons, List.mem_cons, forall_eq_or_imp] at h1 h2
    exact ⟨h1.2, h2.2⟩
theorem NamesOk.drop {n : Nat} : ∀ {pre tr : List Item}, NamesOk n (pre ++ tr) → NamesOk n tr
  | [], _, h => h
  | _ :: pre, _, h => NamesOk.drop (pre := pre) h.tail
theorem part_upd {n : Nat} {tr pre post : List Item} {x : Flt} {S : NSet} {st : ASt} (htr : tr = pre ++ .flt x :: post) (hnd : (tr.map Item.idx).Nodup) (hnames : NamesOk n tr) (hS : S x.i = false)
    (hap : ∀ y, Item.flt y ∈ post → S y.i = true → ∀ t, x.o.dst = some t → y.o.dst ≠ some t) :
    (part (upd S x.i) tr st).tm = ((part S tr st).put x.o.dst x.v).tm ∧ ∀ X, (part (upd S x.i) tr st).H.get X = match x.nb with | some (A, ob) => if X = A then some ob else (part S tr st).H.get X | none => (part S tr st).H.get X := by
  have hne : ∀ y, Item.flt y ∈ pre ∨ Item.flt y ∈ post → y.i ≠ x.i := fun y hy e => by
    rw [htr, List.map_append, List.map_cons, List.nodup_append] at hnd
    rcases hy with hy | hy
    · exact hnd.2.2 y.i (mem_idx_flt hy) x.i (by simp [Item.idx]) e
    · have := (List.nodup_cons.1 hnd.2.1).1
      exact this (by rw [show Item.idx (.flt x) = y.i from e.symm]; exact mem_idx_flt hy)
  have hU : ∀ y : Flt, y.i ≠ x.i → upd S x.i y.i = S y.i := fun y hy => by simp [upd, hy]
  have e1 : part (upd S x.i) tr st = part S post ((part S pre st).flt x) := by
    rw [htr, part_append]
    simp only [part, upd_true.2 (.inr rfl), if_true]
    rw [part_congr pre st (T := S) fun y hy => hU y (hne y (.inl hy)), part_congr post _ (T := S) fun y hy => hU y (hne y (.inr hy))]
  have e2 : part S tr st = part S post (part S pre st) := by
    rw [htr, part_append]; simp only [part, hS, Bool.false_eq_true, if_false]
  constructor
  · rw [e1, e2, ← part_put hap]
    exact part_tm (flt_tm x _)
  · intro X
    rw [e1, e2, part_get, part_get, flt_H, heap_get]
    cases hn : x.nb with
    | none => rfl
    | some p =>
      obtain ⟨A, ob⟩ := p
      simp only
      by_cases hX : X = A
      · rw [if_pos hX, if_pos hX]
        rw [lk_no]
        cases hv : nm post S X with
        | false => rfl
        | true =>
          obtain ⟨y, ob', h1, _, h3⟩ := nm_true.1 hv
          rw [hX] at h3
          rw [htr] at hnames
          have := name_uniq hnames (x := x) (y := y) (by simp) (by simp [h1]) hn h3
          exact absurd (by rw [this]) (hne y (.inr h1))
      · rw [if_neg hX, if_neg hX]
theorem wpOpIn_run {F : Fence} {n : Nat} {ops : Array Oper} {Q : Exit → Act → World → Prop} {Kc : Act → World → Prop} {i : Nat} {o : Oper} {a : Act} {nx : Next} {cv : Value} (ho : ops[i]? = some o) (hw : Region.wanted o (yielded ops a.tmps) = true)
    (hd : ∀ c, o.op ≠ .defer c) (hf : ∀ f, F.fn f) (hrun : (execOp a.eval o).run P w = .ok nx w') (hnx : nx = .value cv ∨ (nx = .skip ∧ cv = undef)) (h : Kc (a.put o.dst cv) w') : wpOpIn F n P ops Q i Kc a w := by
  simp only [wpOpIn, ho, hw, if_true, Oper.wpIn]
  refine ⟨fun f _ => hf f, ?_⟩
  rw [Oper.semAt_eq _ _ _ hd, hrun]
  rcases hnx with rfl | ⟨rfl, rfl⟩
  · exact h
  · exact h
theorem noSelect {o : Oper} {ao : AOp} (hc : cOp' P o.op = some ao) : ∀ cs b, o.op ≠ .select cs b := fun c b h => by have := loud_no hc; rw [h] at this; cases this
theorem Inv.float {tr pre post : List Item} {D L : NSet} {a : Act} {x : Flt} {ops : Array Oper} {oc : Oper} {Q : Exit → Act → World → Prop} {Kc : Act → World → Prop} (hanc : AncOk aos tab) (hfree : AllFree aos tab)
    (h : Inv P B ρb aos tab K tr D L st ρ a w) (htr : tr = pre ++ .flt x :: post) (hx : L x.i = false) (hax : ∀ e ∈ x.o.after, L e = true) (ho : ops[x.i]? = some oc) (hoc : cOper P ops oc = some x.o)
    (hK : ∀ a' w' ρ', Inv P B ρb aos tab K tr D (upd L x.i) st ρ' a' w' → Kc a' w') : wpOpIn (FW r) 0 P ops Q x.i Kc a w := by
  have hmem : Item.flt x ∈ tr := by rw [htr]; simp
  have hxo : aos[x.i]? = some x.o := h.trok.get_flt x hmem
  have htrok := h.trok
  rw [htr] at htrok
  obtain ⟨_, ⟨htm, hfl⟩, _⟩ := htrok.split
  obtain ⟨hc1, hc2, hc3⟩ := cOper_some hoc
  have hnames := h.trok.names
  have hLname : ∀ A ob, x.nb = some (A, ob) → ∀ S : NSet, (∀ k, S k = true → k ≠ x.i) → nm tr S A = false := fun A ob hn S hS => by
    cases hv : nm tr S A with
    | false => rfl
    | true =>
      obtain ⟨y, ob', h1, h2, h3⟩ := nm_true.1 hv
      have := name_uniq hnames h1 hmem h3 hn
      exact absurd (by rw [this]) (hS y.i h2)
  have hLne : ∀ k, L k = true → k ≠ x.i := fun k hk e => by rw [e, hx] at hk; cases hk
  -- the sets of those that are listed and not in a part
  have hset : ∀ S : NSet, (fun k => upd L x.i k && !upd S x.i k) = fun k => L k && !S k := fun S => by
    funext k
    by_cases e : k = x.i
    · simp [upd, e, hx]
    · have e' : (k == x.i) = false := by simp [e]
      simp [upd, e']
  have hnm1 : ∀ (S : NSet) (X : Nat), (∀ ob, x.nb ≠ some (X, ob)) → nm tr (fun k => upd L x.i k && !S k) X = nm tr (fun k => L k && !S k) X := fun S X hX => by
    rw [Bool.eq_iff_iff, nm_true, nm_true]
    constructor
    · rintro ⟨y, ob, h1, h2, h3⟩
      simp only [Bool.and_eq_true] at h2
      rcases upd_true.1 h2.1 with e | e
      · exact ⟨y, ob, h1, by simp [e, h2.2], h3⟩
      · have := idx_uniq h.ord.nodup h1 hmem e
        cases this
        exact absurd h3 (hX ob)
    · rintro ⟨y, ob, h1, h2, h3⟩
      simp only [Bool.and_eq_true] at h2
      exact ⟨y, ob, h1, by simp [upd_true.2 (.inl h2.1), h2.2], h3⟩
  have hapS : ∀ S : NSet, Closed aos S → (∀ i, S i = true → L i = true) → (∀ e ∈ x.o.after, S e = true) → ∀ y, Item.flt y ∈ post → S y.i = true → ∀ t, x.o.dst = some t → y.o.dst ≠ some t := fun S hS hSL hax' y hy hSy t ht => by
    have hord := h.ord
    rw [htr, List.map_append, List.map_cons] at hord
    obtain ⟨o1, o2, ⟨o', o3, o4⟩, o5⟩ := hord.split h.dcl
    have hne : x.i ≠ y.i := fun e => by rw [← e, ] at hSy; have := hSL _ hSy; rw [hx] at this; cases this
    have hcl : Closed aos (upd (uni D (pre.map Item.idx)) x.i) := o1.upd hxo fun e he => by
      rw [show Item.idx (.flt x) = x.i from rfl, hxo] at o3; cases o3; exact o4 e he
    have hyU : upd (uni D (pre.map Item.idx)) x.i y.i = false := by
      rw [upd_false]
      refine ⟨?_, Ne.symm hne⟩
      have := o5.not_mem y.i (mem_idx_flt hy)
      cases hv : uni D (pre.map Item.idx) y.i with
      | false => rfl
      | true =>
        have : uni D (pre.map Item.idx ++ [Item.idx (.flt x)]) y.i = true := by
          rw [uni_true] at hv ⊢
          rcases hv with e | e
          · exact .inl e
          · exact .inr (List.mem_append_left _ e)
        simp_all
    have := apart_of hanc hfree hxo (h.trok.get_flt y (by rw [htr]; simp [hy])) hne hcl (upd_true.2 (.inr rfl)) hyU hS hSy (by
      cases hv : S x.i with
      | false => rfl
      | true => rw [hSL _ hv] at hx; cases hx)
    exact this.2.1 t ht
  have hSx : ∀ S : NSet, (∀ i, S i = true → L i = true) → S x.i = false := fun S hSL => by
    cases hv : S x.i with
    | false => rfl
    | true => rw [hSL _ hv] at hx; cases hx
  -- the new state of a part, where the heap stays
  have quietAdd : ∀ cv : Value, x.nb = none → (∀ S : NSet, Closed aos S → (∀ i, D i = true → S i = true) → (∀ i, S i = true → L i = true) → (∀ e ∈ x.o.after, S e = true) → VRel (hide (nm tr fun k => L k && !S k) ρ) x.v cv) →
      Inv P B ρb aos tab K tr D (upd L x.i) st ρ (a.put x.o.dst cv) w := fun cv hn hv => by
    refine h.add hmem hx hax cv (Ren.le_refl _) (fun S aS hS1 hs => ?_) (fun S aS hS hDS hSL hax' hs => ?_)
    · have : (nm tr fun k => upd L x.i k && !S k) = nm tr fun k => L k && !S k := by
        funext X; exact hnm1 S X fun ob e => by rw [hn] at e; cases e
      rw [this]; exact hs
    · rw [hset]
      obtain ⟨p1, p2⟩ := part_upd (st := st) htr h.ord.nodup hnames (hSx S hSL) (hapS S hS hSL hax')
      refine ⟨?_, ?_, ?_⟩
      · rw [p1]; exact put_tm hs.tm x.o.dst (hv S hS hDS hSL hax')
      · refine hs.H.same (fun X => ?_) (fun X hX => ?_)
        · rw [p2, hn]
        · have := part_wf (S := upd S x.i) hnames h.wf X hX
          rw [p2, hn] at this; exact this
      · rw [part_marks]
        have := hs.marks
        rw [part_marks] at this
        cases x.o.dst <;> exact this
  obtain ⟨S0, a0, s1, s1', s2, s3, s4, s5, s6⟩ := h.sees (ops := ops) hanc hfree htr hx hoc h.lcl h.dl (fun _ h => h) hax
  rcases hfl with ⟨f1, f2, f3⟩ | ⟨f1, f2, f3, f4, f5⟩ | ⟨f1, f2, f3, ob, f4, f5, f6⟩
  · -- not wanted
    have hw0 : awanted x.o.guard (part S0 tr st).tm = some false := by rw [← s3.wanted]; exact f1
    have := awanted_run hoc s2.tm hw0
    rw [s5] at this
    simp only [wpOpIn, ho, this, Bool.false_eq_true, if_false]
    refine ⟨fun _ _ => trivial, hK _ _ ρ ?_⟩
    rw [← hc2]
    exact quietAdd undef f3 fun S _ _ _ _ => by rw [f2]; exact .raw _
  · -- a quiet one
    have hw0 : awanted x.o.guard (part S0 tr st).tm = some true := by rw [← s3.wanted]; exact f1
    have hwant := awanted_run hoc s2.tm hw0
    rw [s5] at hwant
    have hval : ∀ {S1 : NSet}, Alike x.o (planSt pre st).tm (part S1 tr st).tm → aOp (part S1 tr st).tm x.o.op (part S1 tr st).H = some (x.v, (part S1 tr st).H) := fun {S1} hal => by
      rw [← hal.op]
      rcases f5 with f5 | f5
      · exact aOp_pure f5 f4 _
      · have hy := h.z x hmem f5 fun j o s hj => by
          cases hja : tab x.i j with
          | false => rfl
          | true =>
          exfalso
          have hjL := hanc x.i j hja (upd L x.i) (h.lcl.upd hxo hax) (upd_true.2 (.inr rfl))
          rcases upd_true.1 hjL with e | e
          · rw [h.imm j o s hj] at e; cases e
          · have := idx_uniq h.ord.nodup hj hmem e
            cases this
        rcases hy with ⟨y1, _⟩ | ⟨_, y2⟩
        · rw [htm, f1] at y1; cases y1
        · rw [htm] at y2
          exact aOp_reads_le (h.hle S1) f5 y2
    have hmd : opMode oc.op = .quiet := by rw [← (cOper_uses hoc).2.1]; exact f3
    have key : ∀ {S1 : NSet} {a1 : Act}, StRel P B (hide (nm tr fun k => L k && !S1 k) ρ) (part S1 tr st) a1 w → Alike x.o (planSt pre st).tm (part S1 tr st).tm → (∀ y ∈ oc.op.operands, a1.eval y = a.eval y) →
        ∃ nx cv, (execOp a.eval oc).run P w = .ok nx w ∧ (nx = .value cv ∨ (nx = .skip ∧ cv = undef)) ∧ VRel (hide (nm tr fun k => L k && !S1 k) ρ) x.v cv := fun {S1 a1} g1 g2 g3 => by
      obtain ⟨ρ1, w1, nx, cv, k1, k2, k3, k4, k5, k6, k7⟩ := aOp_modes g1.H g1.ev (known hc1 (hval g2)) (hval g2)
      obtain ⟨rfl, rfl⟩ := k6 hmd
      rw [execOp_congr oc (noSelect hc1) g3] at k1
      exact ⟨nx, cv, k1, k2, k3⟩
    obtain ⟨nx, cv, k1, k2, k3⟩ := key s2 s3 s4
    refine wpOpIn_run ho hwant (noDefer hc1) (FW_fn r) k1 k2 (hK _ _ ρ ?_)
    rw [← hc2]
    refine quietAdd cv f2 fun S hS hDS hSL hax' => ?_
    obtain ⟨S1, a1, t1, t1', t2, t3, t4, t5, t6⟩ := h.sees (ops := ops) hanc hfree htr hx hoc hS hDS hSL hax'
    obtain ⟨nx', cv', j1, j2, j3⟩ := key t2 t3 t4
    rw [k1] at j1; cases j1
    have : cv' = cv := by
      rcases k2 with rfl | ⟨rfl, rfl⟩
      · rcases j2 with e | ⟨e, _⟩
        · cases e; rfl
        · cases e
      · rcases j2 with e | ⟨_, rfl⟩
        · cases e
        · rfl
    subst this
    refine j3.mono (hide_le fun A hA => nm_mono (fun k hk => ?_) A hA)
    simp only [Bool.and_eq_true, Bool.not_eq_true'] at hk ⊢
    refine ⟨hk.1, ?_⟩
    cases hv : S1 k with
    | false => rfl
    | true => rw [t1 k hv] at hk; cases hk.2
  · -- a new block
    have hw0 : awanted x.o.guard (part S0 tr st).tm = some true := by rw [← s3.wanted]; exact f1
    have hwant := awanted_run hoc s2.tm hw0
    rw [s5] at hwant
    have hmd : opMode oc.op = .makes := by rw [← (cOper_uses hoc).2.1]; exact f2
    obtain ⟨ob', m1, _, m3⟩ := aOp_makes f3 f5
    have hob : ob' = ob := by
      have e1 := congrArg (fun G => AHeap.get G (planSt pre st).H.next) m1
      simp only [AHeap.get_push_same] at e1
      cases e1; rfl
    subst hob
    generalize hA : (planSt pre st).H.next = A at m3 f6 s6
    have key : ∀ {S1 : NSet} {a1 : Act}, StRel P B (hide (nm tr fun k => L k && !S1 k) ρ) (part S1 tr st) a1 w → Alike x.o (planSt pre st).tm (part S1 tr st).tm → (∀ y ∈ oc.op.operands, a1.eval y = a.eval y) → (∀ X, A ≤ X → (part S1 tr st).H.get X = none) →
        ∃ cv co, (execOp a.eval oc).run P w = .ok (.value cv) (w.alloc co) ∧ Thaw co ∧ VRel ((hide (nm tr fun k => L k && !S1 k) ρ).put A 0 ⟨w.heap.size, 0, objN co⟩) x.v cv ∧ ObjRel P ((hide (nm tr fun k => L k && !S1 k) ρ).put A 0 ⟨w.heap.size, 0, objN co⟩) (w.alloc co) A ob' := fun {S1 a1} g1 g2 g3 g4 => by
      have hH : HRel P B (hide (nm tr fun k => L k && !S1 k) ρ) { (part S1 tr st).H with next := A } w := g1.H.same (fun X => rfl) g4
      have ha := m3 { (part S1 tr st).H with next := A } rfl
      rw [g2.op] at ha
      obtain ⟨ρ1, w1, nx, cv, k1, k2, k3, k4, k5, k6, k7⟩ := aOp_modes hH g1.ev (known hc1 ha) ha
      obtain ⟨k8, co, k9, k10, k11⟩ := k7 hmd
      subst k9; subst k8
      rw [k11] at k3 k4
      rw [execOp_congr oc (noSelect hc1) g3] at k1
      refine ⟨cv, co, k1, k10, k3, k4.obj A ob' ?_⟩
      exact AHeap.get_push_same (H := { (part S1 tr st).H with next := A }) ob'
    obtain ⟨cv, co, k1, k2, k3, k4⟩ := key s2 s3 s4 s6
    have hAst : st.H.next ≤ A := by rw [← hA]; exact planSt_mono htrok
    have hfreeA : ∀ v, ρ A v = none := fun v => by
      obtain ⟨aL, l1, _⟩ := h.main L h.lcl h.dl fun _ h => h
      have e : hide (nm tr fun k => L k && !L k) ρ = ρ := hide_none fun X => by
        cases hv : nm tr (fun k => L k && !L k) X with
        | false => rfl
        | true => obtain ⟨y, ob, _, h2, _⟩ := nm_true.1 hv; simp at h2
      rw [e] at l1
      cases hv : ρ A v with
      | none => rfl
      | some l =>
        obtain ⟨o', ho'⟩ := l1.H.dom A v l hv
        rw [part_get, lk_no (hLname A ob' f6 L hLne), h.wf A hAst] at ho'; cases ho'
    refine wpOpIn_run ho hwant (noDefer hc1) (FW_fn r) k1 (.inl rfl) (hK _ _ (ρ.put A 0 ⟨w.heap.size, 0, objN co⟩) ?_)
    rw [← hc2]
    have hputA : ∀ (N : NSet), N A = false → hide N (ρ.put A 0 ⟨w.heap.size, 0, objN co⟩) = (hide N ρ).put A 0 ⟨w.heap.size, 0, objN co⟩ := fun N hN => by
      funext X v
      unfold hide Ren.put
      by_cases e : X = A ∧ v = 0
      · rw [e.1]; simp [hN, e]
      · simp [e]
    refine h.add hmem hx hax cv (Ren.put_le (hfreeA 0)) (fun S aS hS1 hs => ?_) (fun S aS hS hDS hSL hax' hs => ?_)
    · have e : hide (nm tr fun k => upd L x.i k && !S k) (ρ.put A 0 ⟨w.heap.size, 0, objN co⟩) = hide (nm tr fun k => L k && !S k) ρ := by
        funext X v
        unfold hide
        by_cases hX : X = A
        · subst hX
          have : nm tr (fun k => upd L x.i k && !S k) X = true := nm_true.2 ⟨x, ob', hmem, by simp [upd_true.2 (.inr rfl), hS1], f6⟩
          rw [this, hfreeA v]; simp
        · rw [hnm1 S X fun ob e => by rw [f6] at e; cases e; exact hX rfl, Ren.put_ne _ _ (fun e => hX e.1)]
      rw [e]
      exact ⟨hs.tm, hs.H.junk k2, hs.marks⟩
    · rw [hset]
      obtain ⟨p1, p2⟩ := part_upd (st := st) htr h.ord.nodup hnames (hSx S hSL) (hapS S hS hSL hax')
      obtain ⟨S1, a1, t1, t1', t2, t3, t4, t5, t6⟩ := h.sees (ops := ops) hanc hfree htr hx hoc hS hDS hSL hax'
      rw [hA] at t6
      obtain ⟨cv', co', j1, j2, j3, j4⟩ := key t2 t3 t4 t6
      rw [k1] at j1
      have hcv : cv' = cv := (Next.value.inj (Result.ok.inj j1).1).symm
      have hco : co' = co := by
        have e := (Result.ok.inj j1).2.symm
        have e2 := congrArg (fun G : World => G.heap[w.heap.size]?) e
        simp only [World.alloc_heap_new] at e2
        exact Option.some.inj e2
      subst hcv; subst hco
      have hNA : nm tr (fun k => L k && !S k) A = false := hLname A ob' f6 _ fun k hk => hLne k (by simp only [Bool.and_eq_true] at hk; exact hk.1)
      rw [hputA _ hNA]
      have hN1 : (hide (nm tr fun k => L k && !S1 k) ρ).le (hide (nm tr fun k => L k && !S k) ρ) := hide_le fun X hX => nm_mono (fun k hk => by
        simp only [Bool.and_eq_true, Bool.not_eq_true'] at hk ⊢
        refine ⟨hk.1, ?_⟩
        cases hv : S1 k with
        | false => rfl
        | true => rw [t1 k hv] at hk; cases hk.2) X hX
      have hle : ((hide (nm tr fun k => L k && !S1 k) ρ).put A 0 ⟨w.heap.size, 0, objN co'⟩).le ((hide (nm tr fun k => L k && !S k) ρ).put A 0 ⟨w.heap.size, 0, objN co'⟩) := fun X v y hy => by
        by_cases e : X = A ∧ v = 0
        · obtain ⟨rfl, rfl⟩ := e; rw [Ren.put_same] at hy ⊢; exact hy
        · rw [Ren.put_ne _ _ e] at hy ⊢; exact hN1 X v y hy
      have hle2 : (hide (nm tr fun k => L k && !S k) ρ).le ((hide (nm tr fun k => L k && !S k) ρ).put A 0 ⟨w.heap.size, 0, objN co'⟩) := Ren.put_le (by unfold hide; rw [hfreeA]; simp)
      refine ⟨?_, ?_, ?_⟩
      · rw [p1]; exact put_tm (hs.tm.mono hle2) x.o.dst (j3.mono hle)
      · refine hs.H.place (o := ob') ?_ f4 (j4.keep hle (fun v => ?_) (fun _ _ _ => rfl)) k2 (fun X => ?_) (fun X hX => part_wf hnames h.wf X hX)
        · rw [part_get, lk_no (hLname A ob' f6 S fun k hk => hLne k (hSL k hk)), h.wf A hAst]
        · by_cases e : v = 0
          · subst e; rw [Ren.put_same, Ren.put_same]
          · rw [Ren.put_ne _ _ (fun h => e h.2), Ren.put_ne _ _ (fun h => e h.2)]
            unfold hide; rw [hfreeA]; simp
        · rw [p2, f6]
      · rw [part_marks]
        have := hs.marks.mono hle2
        rw [part_marks] at this
        cases x.o.dst <;> exact this
end Go.Vm
