/- The abstract machine, part 20: the simulation: every order of a drawn region against one plan. -/
import Derived.Test.YtipmhhogebnpkaaGreatDoorK13
namespace Go.Vm
open Go

set_option linter.unusedVariables false
set_option linter.unusedSimpArgs false

variable {P : Program} {B : Base} {ρ ρ' : Ren} {H H' : AHeap} {w w' : World} {r : Option Nat} {st : ASt} {K : ASt → Prop} {aos : List AOper} {tab : Nat → Nat → Bool} {ρb : Ren}

def hide (N : NSet) (ρ : Ren) : Ren := fun A v => if N A = true then none else ρ A v

theorem hide_le {N N' : NSet} (h : ∀ A, N' A = true → N A = true) : (hide N ρ).le (hide N' ρ) := fun A v x hx => by
  unfold hide at *
  cases hN : N' A with
  | true => rw [h A hN] at hx; cases hx
  | false =>
    simp only [Bool.false_eq_true, if_false]
    cases hN2 : N A with
    | true => rw [hN2] at hx; cases hx
    | false => rw [hN2] at hx; exact hx

theorem hide_none {N : NSet} (h : ∀ A, N A = false) : hide N ρ = ρ := by
  funext A v; unfold hide; rw [h A]; rfl

theorem nm_mono {tr : List Item} {S T : NSet} (h : ∀ k, S k = true → T k = true) (A : Nat) (hA : nm tr S A = true) : nm tr T A = true := by
  obtain ⟨x, ob, h1, h2, h3⟩ := nm_true.1 hA
  exact nm_true.2 ⟨x, ob, h1, h x.i h2, h3⟩

structure Inv (P : Program) (B : Base) (ρb : Ren) (aos : List AOper) (tab : Nat → Nat → Bool) (K : ASt → Prop) (tr : List Item) (D L : NSet) (st : ASt) (ρ : Ren) (a : Act) (w : World) : Prop where
  le : ∀ A v x, ρb A v = some x → ρ A v = some x ∧ A < st.H.next
  ord : OrdL aos (tr.map Item.idx) D
  dcl : Closed aos D
  lcl : Closed aos L
  dl : ∀ i, D i = true → L i = true
  imm : ∀ j o s, Item.imm j o s ∈ tr → L j = false
  trok : TrOk P aos tab K tr st
  chain : ∃ last, Chain tab tr [] last
  z : Zr tab tr st.H
  main : ∀ S : NSet, Closed aos S → (∀ i, D i = true → S i = true) → (∀ i, S i = true → L i = true) → ∃ aS : Act,
    StRel P B (hide (nm tr fun k => L k && !S k) ρ) (part S tr st) aS w ∧ aS.tmps.size = a.tmps.size ∧
    (∀ t, (∀ i o, L i = true → S i = false → aos[i]? = some o → o.dst ≠ some t) → aS.tmps[t]? = a.tmps[t]?) ∧ aS.defers = a.defers

theorem apart_of (hanc : AncOk aos tab) (hfree : AllFree aos tab) {i k : Nat} {o ok : AOper} (hi : aos[i]? = some o) (hk : aos[k]? = some ok) (hne : i ≠ k) {T U : NSet} (hT : Closed aos T) (t1 : T i = true) (t2 : T k = false)
    (hU : Closed aos U) (u1 : U k = true) (u2 : U i = false) : Apart o ok := by
  rcases hfree i k o ok hi hk hne with h | h | h
  · rw [hanc i k h T hT t1] at t2; cases t2
  · rw [hanc k i h U hU u1] at u2; cases u2
  · exact h

def planSt : List Item → ASt → ASt
  | [], st => st
  | .flt x :: r, st => planSt r (st.flt x)
  | .imm _ _ s :: r, _ => planSt r s

theorem TrOk.split : ∀ {pre post : List Item} {st : ASt}, TrOk P aos tab K (pre ++ post) st → TrOk P aos tab K post (planSt pre st)
  | [], _, _, h => h
  | .flt _ :: pre, _, _, h => TrOk.split (pre := pre) h.2.2
  | .imm _ _ _ :: pre, _, _, h => TrOk.split (pre := pre) h.2.2.2.2

theorem TrOk.get_flt : ∀ {tr : List Item} {st : ASt}, TrOk P aos tab K tr st → ∀ x, Item.flt x ∈ tr → aos[x.i]? = some x.o
  | [], _, _, x, hx => by cases hx
  | .flt y :: r, _, h, x, hx => by
    rcases List.mem_cons.1 hx with e | e
    · cases e; exact h.1
    · exact h.2.2.get_flt x e
  | .imm _ _ _ :: r, _, h, x, hx => by
    rcases List.mem_cons.1 hx with e | e
    · cases e
    · exact h.2.2.2.2.get_flt x e

theorem TrOk.get_imm : ∀ {tr : List Item} {st : ASt}, TrOk P aos tab K tr st → ∀ j o s, Item.imm j o s ∈ tr → aos[j]? = some o
  | [], _, _, _, _, _, hx => by cases hx
  | .flt y :: r, _, h, j, o, s, hx => by
    rcases List.mem_cons.1 hx with e | e
    · cases e
    · exact h.2.2.get_imm j o s e
  | .imm _ _ _ :: r, _, h, j, o, s, hx => by
    rcases List.mem_cons.1 hx with e | e
    · cases e; exact h.1
    · exact h.2.2.2.2.get_imm j o s e

theorem AStep.tm_eq {o : AOper} {st st' : ASt} (h : AStep P st o st') : ∃ v, st'.tm = (st.put o.dst v).tm := by
  rcases h with ⟨_, rfl⟩ | ⟨_, v, H', rfl, _⟩
  · exact ⟨_, rfl⟩
  · exact ⟨v, by cases o.dst <;> rfl⟩

theorem set_getElem? {α : Type} {tm tm' : List α} {d n : Nat} (v : α) (h : d = n → tm[n]? = tm'[n]?) (h' : d ≠ n → tm[n]? = tm'[n]?) : (tm.set d v)[n]? = (tm'.set d v)[n]? := by
  by_cases e : d = n
  · subst e
    have := h rfl
    by_cases hl : d < tm.length
    · have hl' : d < tm'.length := by
        rcases Nat.lt_or_ge d tm'.length with h1 | h1
        · exact h1
        · rw [List.getElem?_eq_none h1, List.getElem?_eq_getElem hl] at this; cases this
      rw [List.getElem?_set_self hl, List.getElem?_set_self hl']
    · have hl' : ¬ d < tm'.length := fun h1 => by
        rw [List.getElem?_eq_none (by omega), List.getElem?_eq_getElem h1] at this; cases this
      rw [List.getElem?_eq_none (by simp; omega), List.getElem?_eq_none (by simp; omega)]
  · rw [List.getElem?_set_ne e, List.getElem?_set_ne e]; exact h' e

theorem Alike.put2 {o : AOper} {s s' : ASt} (h : Alike o s.tm s'.tm) (d : Option Nat) (v : AVal) : Alike o (s.put d v).tm (s'.put d v).tm := fun n hn => by
  cases d with
  | none => exact h n hn
  | some d => exact set_getElem? v (fun _ => h n hn) (fun _ => h n hn)

theorem flt_tm (x : Flt) (st : ASt) : (st.flt x).tm = (st.put x.o.dst x.v).tm := by unfold ASt.flt; cases x.o.dst <;> rfl

theorem Alike.put_left {o : AOper} {s : ASt} {tm : List AVal} (h : Alike o s.tm tm) {d : Option Nat} (hd : ∀ t, d = some t → t ∉ o.looks) (v : AVal) : Alike o (s.put d v).tm tm := fun n hn => by
  cases d with
  | none => exact h n hn
  | some d =>
    have : d ≠ n := fun e => hd d rfl (e ▸ hn)
    simp only [ASt.put, List.getElem?_set_ne this]
    exact h n hn

/-- What an operation looks at is in a part as it is in the plan. -/
theorem alike_pre {xo : AOper} {S : NSet} : ∀ {pre post : List Item} {s1 s2 : ASt}, TrOk P aos tab K (pre ++ post) s1 → (∀ y, Item.flt y ∈ pre → S y.i = false → ∀ t, y.o.dst = some t → t ∉ xo.looks) →
    (∀ j o s, Item.imm j o s ∈ pre → ∀ t, o.dst = some t → t ∉ xo.looks) → Alike xo s1.tm s2.tm → Alike xo (planSt pre s1).tm (part S pre s2).tm
  | [], _, _, _, _, _, _, h => h
  | .flt y :: pre, post, s1, s2, ht, h1, h2, h => by
    simp only [planSt, part]
    refine alike_pre ht.2.2 (fun z hz => h1 z (by simp [hz])) (fun j o s hj => h2 j o s (by simp [hj])) ?_
    cases hS : S y.i with
    | true =>
      simp only [if_true, flt_tm]
      exact h.put2 _ _
    | false =>
      simp only [Bool.false_eq_true, if_false, flt_tm]
      exact h.put_left (h1 y (by simp) hS) _
  | .imm j o s :: pre, post, s1, s2, ht, h1, h2, h => by
    simp only [planSt, part]
    refine alike_pre ht.2.2.2.2 (fun z hz => h1 z (by simp [hz])) (fun j o s hj => h2 j o s (by simp [hj])) ?_
    obtain ⟨v, hv⟩ := ht.2.1.tm_eq
    rw [hv]
    exact h.put_left (h2 j o s (by simp)) v

theorem planSt_next : ∀ {pre post : List Item} {st : ASt}, TrOk P aos tab K (pre ++ post) st → ∀ A ∈ pre.filterMap nameOf, A < (planSt pre st).H.next
  | [], _, _, _, A, hA => by cases hA
  | .flt x :: pre, post, st, h, A, hA => by
    have hmono : ∀ {p q : List Item} {s : ASt}, TrOk P aos tab K (p ++ q) s → s.H.next ≤ (planSt p s).H.next := by
      intro p
      induction p with
      | nil => intro q s h; exact Nat.le_refl _
      | cons it p ih =>
        intro q s h
        cases it with
        | flt x =>
          refine Nat.le_trans ?_ (ih h.2.2)
          rw [flt_next]
          obtain ⟨_, hf, _⟩ := h
          obtain ⟨_, ⟨_, _, hn⟩ | ⟨_, hn, _⟩ | ⟨_, _, _, ob, _, _, hn⟩⟩ := hf
          · rw [hn]; exact Nat.le_refl _
          · rw [hn]; exact Nat.le_refl _
          · rw [hn]; exact Nat.le_succ _
        | imm j o s' => exact Nat.le_trans h.2.2.1 (ih h.2.2.2.2)
    simp only [planSt]
    cases hn : x.nb with
    | none =>
      simp only [List.filterMap_cons, nameOf, hn, Option.map_none] at hA
      exact planSt_next h.2.2 A hA
    | some p =>
      obtain ⟨A', ob⟩ := p
      simp only [List.filterMap_cons, nameOf, hn, Option.map_some, List.mem_cons] at hA
      rcases hA with rfl | hA
      · have := hmono h.2.2
        rw [flt_next, hn] at this
        exact this
      · exact planSt_next h.2.2 A hA
  | .imm j o s :: pre, post, st, h, A, hA => by
    simp only [List.filterMap_cons, nameOf] at hA
    exact planSt_next h.2.2.2.2 A hA

theorem planSt_mono : ∀ {p q : List Item} {s : ASt}, TrOk P aos tab K (p ++ q) s → s.H.next ≤ (planSt p s).H.next
  | [], _, _, _ => Nat.le_refl _
  | .flt x :: p, q, s, h => by
    refine Nat.le_trans ?_ (planSt_mono (p := p) h.2.2)
    rw [flt_next]
    obtain ⟨_, hf, _⟩ := h
    obtain ⟨_, ⟨_, _, hn⟩ | ⟨_, hn, _⟩ | ⟨_, _, _, ob, _, _, hn⟩⟩ := hf
    · rw [hn]; exact Nat.le_refl _
    · rw [hn]; exact Nat.le_refl _
    · rw [hn]; exact Nat.le_succ _
  | .imm j o s' :: p, q, s, h => Nat.le_trans h.2.2.1 (planSt_mono (p := p) h.2.2.2.2)

theorem mem_idx_flt {tr : List Item} {x : Flt} (h : Item.flt x ∈ tr) : x.i ∈ tr.map Item.idx := List.mem_map.2 ⟨_, h, rfl⟩
theorem mem_idx_imm {tr : List Item} {j : Nat} {o : AOper} {s : ASt} (h : Item.imm j o s ∈ tr) : j ∈ tr.map Item.idx := List.mem_map.2 ⟨_, h, rfl⟩

theorem Inv.wf {tr : List Item} {D L : NSet} {a : Act} (h : Inv P B ρb aos tab K tr D L st ρ a w) : ∀ X, st.H.next ≤ X → st.H.get X = none := by
  obtain ⟨aS, h1, _⟩ := h.main D h.dcl (fun _ h => h) h.dl
  have : part D tr st = st := part_none tr st fun x hx => h.ord.not_mem _ (mem_idx_flt hx)
  rw [this] at h1
  exact h1.H.wf

theorem Inv.hle {tr : List Item} {D L : NSet} {a : Act} (h : Inv P B ρb aos tab K tr D L st ρ a w) (S : NSet) : HLe st.H (part S tr st).H := fun A o ho => by
  rw [part_get, lk_no, ho]
  cases hn : nm tr S A with
  | false => rfl
  | true =>
    have h1 := nm_name h.trok.names hn
    rw [h.wf A h1] at ho; cases ho

/-- A float that may run now: what it sees. -/
theorem Inv.sees {tr pre post : List Item} {D L : NSet} {a : Act} {x : Flt} {ops : Array Oper} {oc : Oper} (hanc : AncOk aos tab) (hfree : AllFree aos tab) (h : Inv P B ρb aos tab K tr D L st ρ a w) (htr : tr = pre ++ .flt x :: post)
    (hx : L x.i = false) (hoc : cOper P ops oc = some x.o) {S : NSet} (hS : Closed aos S) (hDS : ∀ i, D i = true → S i = true) (hSL : ∀ i, S i = true → L i = true) (hax : ∀ e ∈ x.o.after, S e = true) :
    ∃ (S0 : NSet) (a0 : Act), (∀ k, S0 k = true → S k = true) ∧ (∀ k, D k = true → S0 k = true) ∧ StRel P B (hide (nm tr fun k => L k && !S0 k) ρ) (part S0 tr st) a0 w ∧ Alike x.o (planSt pre st).tm (part S0 tr st).tm ∧
      (∀ y ∈ oc.op.operands, a0.eval y = a.eval y) ∧ Region.wanted oc (yielded ops a0.tmps) = Region.wanted oc (yielded ops a.tmps) ∧ (∀ X, (planSt pre st).H.next ≤ X → (part S0 tr st).H.get X = none) := by
  have hord := h.ord
  rw [htr, List.map_append, List.map_cons] at hord
  obtain ⟨o1, o2, ⟨o', o3, o4⟩, o5⟩ := hord.split h.dcl
  have hxo : aos[x.i]? = some x.o := h.trok.get_flt x (by rw [htr]; simp)
  change uni D (pre.map Item.idx) x.i = false at o2
  change aos[x.i]? = some o' at o3
  change OrdL aos (post.map Item.idx) (uni D (pre.map Item.idx ++ [x.i])) at o5
  rw [hxo] at o3; cases o3
  refine ⟨fun k => S k && uni D (pre.map Item.idx) k, ?_⟩
  have hS0 : Closed aos fun k => S k && uni D (pre.map Item.idx) k := hS.and o1
  have hup : Closed aos (upd (fun k => S k && uni D (pre.map Item.idx) k) x.i) := hS0.upd hxo fun e he => by simp [hax e he, o4 e he]
  have hS0L : ∀ k, (S k && uni D (pre.map Item.idx) k) = true → L k = true := fun k hk => hSL k (by simp only [Bool.and_eq_true] at hk; exact hk.1)
  have hDS0 : ∀ k, D k = true → (S k && uni D (pre.map Item.idx) k) = true := fun k hk => by simp [hDS k hk, uni_true.2 (.inl hk)]
  obtain ⟨a0, g1, g2, g3, g4⟩ := h.main _ hS0 hDS0 hS0L
  -- those that are listed and not in S0 are apart
  have hap : ∀ i o, L i = true → (S i && uni D (pre.map Item.idx) i) = false → aos[i]? = some o → Apart x.o o := fun i o hi hS' ho => by
    have hne : x.i ≠ i := fun e => by rw [e, hi] at hx; cases hx
    exact apart_of hanc hfree hxo ho hne hup (upd_true.2 (.inr rfl)) (by rw [upd_false]; exact ⟨hS', Ne.symm hne⟩) h.lcl hi hx
  have hpost : ∀ k ∈ post.map Item.idx, uni D (pre.map Item.idx) k = false := fun k hk => by
    have := o5.not_mem k hk
    cases hv : uni D (pre.map Item.idx) k with
    | false => rfl
    | true =>
      have : uni D (pre.map Item.idx ++ [x.i]) k = true := by
        rw [uni_true] at hv ⊢
        rcases hv with e | e
        · exact .inl e
        · exact .inr (List.mem_append_left _ e)
      simp_all
  have hpart : part (fun k => S k && uni D (pre.map Item.idx) k) tr st = part (fun k => S k && uni D (pre.map Item.idx) k) pre st := by
    rw [htr, part_append]
    refine part_none _ _ fun y hy => ?_
    rcases List.mem_cons.1 hy with e | e
    · cases e; simp [o2]
    · simp [hpost _ (mem_idx_flt e)]
  have htrok := h.trok
  rw [htr] at htrok
  refine ⟨a0, fun k hk => by simp only [Bool.and_eq_true] at hk; exact hk.1, hDS0, g1, ?_, ?_, ?_, ?_⟩
  · rw [hpart]
    have hpre : ∀ k o, aos[k]? = some o → k ∈ pre.map Item.idx → (S k && uni D (pre.map Item.idx) k) = false → ∀ t, o.dst = some t → t ∉ x.o.looks := fun k o ho hk hS' t ht => by
      have hne : x.i ≠ k := fun e => by rw [e] at o2; rw [uni_true.2 (.inr hk)] at o2; cases o2
      have := apart_of hanc hfree hxo ho hne hup (upd_true.2 (.inr rfl)) (by rw [upd_false]; exact ⟨hS', Ne.symm hne⟩) o1 (uni_true.2 (.inr hk)) o2
      exact this.2.2 t ht
    refine alike_pre htrok (fun y hy hS' => hpre y.i y.o (h.trok.get_flt y (by rw [htr]; simp [hy])) (mem_idx_flt hy) hS') (fun j o s hj => hpre j o (h.trok.get_imm j o s (by rw [htr]; simp [hj])) (mem_idx_imm hj) ?_) (Alike.refl _ _)
    have : L j = false := h.imm j o s (by rw [htr]; simp [hj])
    cases hv : S j with
    | false => rfl
    | true => rw [hSL j hv] at this; cases this
  · intro y hy
    cases y with
    | tmp t =>
      have ht : t ∈ x.o.looks := List.mem_append_right _ (by rw [(cOper_uses hoc).1]; exact usesOf_mem hy)
      have := g3 t fun i o hi hS' ho e => (hap i o hi hS' ho).2.2 t e ht
      simp only [Act.eval, Array.getD_eq_getD_getElem?, this]
    | _ => rfl
  · cases hg : oc.guard with
    | none => simp [Region.wanted, hg]
    | some p =>
      obtain ⟨j, b⟩ := p
      obtain ⟨d, hd, hgx⟩ := (cOper_uses hoc).2.2 j b hg
      have ht : d ∈ x.o.looks := List.mem_append_left _ (List.mem_append_right _ (by rw [hgx]; simp))
      have := g3 d fun i o hi hS' ho e => (hap i o hi hS' ho).2.2 d e ht
      simp only [Region.wanted, hg, yielded, hd, Option.bind_some, this]
  · intro X hX
    rw [hpart, part_get]
    have hst : st.H.get X = none := h.wf X (Nat.le_trans (planSt_mono htrok) hX)
    cases hn : nm pre (fun k => S k && uni D (pre.map Item.idx) k) X with
    | false => rw [lk_no hn]; exact hst
    | true =>
      obtain ⟨y, ob, h1, _, h3⟩ := nm_true.1 hn
      have := planSt_next htrok X (List.mem_filterMap.2 ⟨_, h1, by simp [nameOf, h3]⟩)
      omega

end Go.Vm
