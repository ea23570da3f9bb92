/- The abstract machine, part 19: regions whose order is drawn: one order for all. -/
import Derived.Test.YtmdppcokjdpnoaaVmDraw
namespace Go.Vm
open Go

variable {P : Program} {B : Base} {ρ ρ' : Ren} {H H' : AHeap} {w w' : World} {r : Option Nat} {st : ASt} {Q : Exit → ASt → Prop} {K : ASt → Prop} {aos : List AOper}

/-- What is listed is listed with all that it waits for. -/
def Good (aos : List AOper) (listed : Array Bool) : Prop := listed.size = aos.length ∧ ∀ j o, aos[j]? = some o → listed.getD j false = true → ∀ e ∈ o.after, listed.getD e false = true

theorem mem_aReady {listed : Array Bool} {j : Nat} : j ∈ aReady aos listed ↔ ∃ o, aos[j]? = some o ∧ listed.getD j true = false ∧ ∀ e ∈ o.after, listed.getD e false = true := by
  unfold aReady
  rw [List.mem_filter]
  constructor
  · rintro ⟨h1, h2⟩
    simp only [Bool.and_eq_true, Bool.not_eq_true'] at h2
    cases ho : aos[j]? with
    | none => rw [ho] at h2; simp at h2
    | some o =>
      rw [ho] at h2
      exact ⟨o, rfl, h2.1, by simpa using h2.2⟩
  · rintro ⟨o, h1, h2, h3⟩
    refine ⟨by simpa using (List.getElem?_eq_some_iff.1 h1).1, ?_⟩
    simp only [Bool.and_eq_true, Bool.not_eq_true', h1, Option.map_some, Option.getD_some]
    exact ⟨h2, by simpa using h3⟩

theorem getD_lists {listed : Array Bool} {i e : Nat} (h : listed.getD e false = true) : (listed.setIfInBounds i true).getD e false = true := by
  simp only [Array.getD_eq_getD_getElem?, Array.getElem?_setIfInBounds] at h ⊢
  split
  · split <;> simp_all
  · exact h

theorem Good.step {listed : Array Bool} (hg : Good aos listed) {i : Nat} (hi : i ∈ aReady aos listed) : Good aos (listed.setIfInBounds i true) := by
  obtain ⟨o, h1, h2, h3⟩ := mem_aReady.1 hi
  refine ⟨by simpa using hg.1, fun j oj hj hl e he => getD_lists ?_⟩
  by_cases hij : i = j
  · subst hij; rw [h1] at hj; cases hj; exact h3 e he
  · refine hg.2 j oj hj ?_ e he
    simp only [Array.getD_eq_getD_getElem?, Array.getElem?_setIfInBounds] at hl ⊢
    rw [if_neg hij] at hl
    exact hl

theorem ready_keep {listed : Array Bool} {i j : Nat} (hj : j ∈ aReady aos listed) (hne : j ≠ i) : j ∈ aReady aos (listed.setIfInBounds i true) := by
  obtain ⟨o, h1, h2, h3⟩ := mem_aReady.1 hj
  refine mem_aReady.2 ⟨o, h1, ?_, fun e he => getD_lists (h3 e he)⟩
  simp only [Array.getD_eq_getD_getElem?, Array.getElem?_setIfInBounds] at h2 ⊢
  rw [if_neg (Ne.symm hne)]
  exact h2

def Apart (o oj : AOper) : Prop := (∀ x, o.dst = some x → x ∉ oj.looks) ∧ (∀ x, o.dst = some x → oj.dst ≠ some x) ∧ (∀ x, oj.dst = some x → x ∉ o.looks)

theorem ACallV_congr {fv fv' : AVal} {args args' : List AVal} {R : AVal → AHeap → Prop} (h : ACallV P fv args H R) (e1 : fv' = fv) (e2 : args' = args) : ACallV P fv' args' H R := by rw [e1, e2]; exact h

/-- An operation that is apart from one that has moved ahead does as it would have done. -/
theorem AStep.back {o oj : AOper} {v : AVal} {s : ASt} (hap : Apart o oj) (h : AStep P (st.put o.dst v) oj s) : ∃ u H', AStep P st oj ({ st with H := H' }.put oj.dst u) ∧ s = ({ st with H := H' }.put oj.dst u).put o.dst v := by
  obtain ⟨h1, h2, h3⟩ := put_looks hap.1 st v
  have comm : ∀ (H' : AHeap) (u : AVal), ({ st.put o.dst v with H := H' } : ASt).put oj.dst u = (({ st with H := H' } : ASt).put oj.dst u).put o.dst v := fun H' u => by
    have e : ({ st.put o.dst v with H := H' } : ASt) = ({ st with H := H' } : ASt).put o.dst v := by cases o.dst <;> rfl
    rw [e, put_comm (fun x hx => hap.2.1 x hx)]
  rcases h with ⟨g1, rfl⟩ | ⟨g1, u, H', rfl, g2⟩
  · refine ⟨aundef, st.H, .inl ⟨by rw [← h1]; exact g1, rfl⟩, ?_⟩
    have := comm st.H aundef
    rw [← this]
    cases o.dst <;> rfl
  · refine ⟨u, H', .inr ⟨by rw [← h1]; exact g1, u, H', rfl, ?_⟩, comm H' u⟩
    rw [put_H] at g2
    rcases g2 with ⟨f, args, g3, g4⟩ | g3
    · left
      refine ⟨f, args, g3, ACallV_congr g4 (h3 f (by rw [g3]; simp [AOp.opds])).symm ?_⟩
      apply List.map_congr_left
      intro x hx
      exact (h3 x (by rw [g3]; simp [AOp.opds, hx])).symm
    · right; rw [← h2]; exact g3

theorem AllOk.take {i : Nat} {o : AOper} {v : AVal} {tm0 : List AVal} (hi : aos[i]? = some o) {Z : Array Bool → AHeap → Prop}
    (hrob : ∀ (listed : Array Bool) (H : AHeap), Good aos listed → i ∈ aReady aos listed → Z (listed.setIfInBounds i true) H → Yld o v tm0 H)
    (hZ : ∀ (listed : Array Bool) (j : Nat) (H : AHeap), Z ((listed.setIfInBounds i true).setIfInBounds j true) H → Z (listed.setIfInBounds j true) H) :
    ∀ (n : Nat) (listed : Array Bool) (st : ASt), Good aos listed → (∀ j oj, aos[j]? = some oj → j ≠ i → listed.getD j false = false → i ∉ oj.after → Apart o oj) → i ∈ aReady aos listed →
      (∀ H, Yld o v tm0 H → Yld o v st.tm H) → Z (listed.setIfInBounds i true) st.H → AllOk P aos Z K n (listed.setIfInBounds i true) (st.put o.dst v) → AllOk P aos Z K (n + 1) listed st := by
  intro n
  induction n with
  | zero =>
    intro listed st hg hfree hr hag hz h
    refine ⟨fun h0 => (by rw [h0] at hr; cases hr), fun j hj => ?_⟩
    by_cases hji : j = i
    · subst hji
      exact ⟨o, _, hi, (hag _ (hrob _ _ hg hr hz)).step, by rw [put_H]; exact hz, h⟩
    · have := ready_keep hj hji
      rw [h.1] at this; cases this
  | succ n ih =>
    intro listed st hg hfree hr hag hz h
    refine ⟨fun h0 => (by rw [h0] at hr; cases hr), fun j hj => ?_⟩
    by_cases hji : j = i
    · subst hji
      exact ⟨o, _, hi, (hag _ (hrob _ _ hg hr hz)).step, by rw [put_H]; exact hz, h⟩
    · obtain ⟨oj, s, h1, h2, h3, h4⟩ := h.2 j (ready_keep hj hji)
      obtain ⟨oj', k1, k2, k3⟩ := mem_aReady.1 hj
      rw [h1] at k1; cases k1
      have hnot : i ∉ oj.after := fun he => by
        have := k3 i he
        obtain ⟨_, _, k4, _⟩ := mem_aReady.1 hr
        simp only [Array.getD_eq_getD_getElem?] at this k4
        cases hv : listed[i]? <;> simp [hv] at this k4
        rw [this] at k4; cases k4
      have hjf : listed.getD j false = false := by
        simp only [Array.getD_eq_getD_getElem?] at k2 ⊢
        cases hv : listed[j]? <;> simp [hv] at k2 ⊢
        exact k2
      have hap := hfree j oj h1 hji hjf hnot
      obtain ⟨u, H', g1, g2⟩ := h2.back hap
      subst g2
      rw [put_H] at h3
      have hcomm : (listed.setIfInBounds i true).setIfInBounds j true = (listed.setIfInBounds j true).setIfInBounds i true := Array.setIfInBounds_comm _ _ (Ne.symm hji)
      refine ⟨oj, _, h1, g1, hZ _ _ _ h3, ih _ _ (hg.step hj) (fun k ok hk hki hun hno => hfree k ok hk hki ?_ hno) (ready_keep hr (Ne.symm hji)) (fun H hy => ?_) (by rw [← hcomm]; exact h3) (by rw [← hcomm]; exact h4)⟩
      · by_cases e : listed.getD k false = true
        · rw [getD_lists e] at hun; cases hun
        · simpa using e
      · have : Yld o v ({ st with H := H' } : ASt).tm H := hag H hy
        exact this.put hap.2.2 u

/-! ### Ancestors -/

def AncOk (aos : List AOper) (tab : List (List Nat)) : Prop := ∀ j a, a ∈ tab.getD j [] → ∀ listed, Good aos listed → listed.getD j false = true → listed.getD a false = true

theorem mkAnc_ok : ∀ (os : List AOper) (pre : List AOper) (acc : List (List Nat)), aos = pre ++ os → acc.length = pre.length → AncOk aos acc → AncOk aos (mkAnc os acc)
  | [], _, _, _, _, h => h
  | o :: os, pre, acc, ha, hl, h => by
    unfold mkAnc
    refine mkAnc_ok os (pre ++ [o]) _ (by simp [ha]) (by simp [hl]) fun j a hm listed hg hj => ?_
    rw [List.getD_eq_getElem?_getD, List.getElem?_append] at hm
    split at hm
    · exact h j a (by rw [List.getD_eq_getElem?_getD]; exact hm) listed hg hj
    · rename_i hjl
      have hj0 : j - acc.length = 0 := by
        rcases Nat.eq_zero_or_pos (j - acc.length) with e | e
        · exact e
        · rw [List.getElem?_eq_none (by simp; omega)] at hm; simp at hm
      have hjp : j = pre.length := by omega
      rw [hj0] at hm
      simp only [List.getElem?_cons_zero, Option.getD_some, List.mem_eraseDups, List.mem_flatMap, List.mem_cons] at hm
      obtain ⟨p, hp, hm⟩ := hm
      have hoj : aos[j]? = some o := by rw [ha, hjp]; simp
      have hpl := hg.2 j o hoj hj p hp
      rcases hm with rfl | hm
      · exact hpl
      · exact h p a hm listed hg hpl

theorem anc_ok : AncOk aos (mkAnc aos []) := mkAnc_ok aos [] [] rfl rfl fun j a hm => by simp at hm

theorem cond_mobile {tab : List (List Nat)} {i k : Nat} {o : AOper} (hk : aos[k]? = some o) (hm : o.op.mobile = true) (listed : Array Bool) : cond aos tab i (listed.setIfInBounds k true) = cond aos tab i listed := by
  unfold cond
  rw [Bool.eq_iff_iff, List.all_eq_true, List.all_eq_true]
  have hne : ∀ j ∈ stays aos, k ≠ j := fun j hj e => by
    subst e
    unfold stays at hj
    rw [List.mem_filter, hk] at hj
    simp [hm] at hj
  have key : ∀ j ∈ stays aos, (listed.setIfInBounds k true).getD j false = listed.getD j false := fun j hj => by
    simp only [Array.getD_eq_getD_getElem?, Array.getElem?_setIfInBounds, if_neg (hne j hj)]
  constructor
  · intro h j hj; rw [← key j hj]; exact h j hj
  · intro h j hj; rw [key j hj]; exact h j hj

theorem cond_ready {tab : List (List Nat)} (ht : AncOk aos tab) {i : Nat} {o : AOper} (hi : aos[i]? = some o) (hm : o.op.mobile = true) {listed : Array Bool} (hg : Good aos listed) (hr : i ∈ aReady aos listed) : cond aos tab i (listed.setIfInBounds i true) = true := by
  rw [cond_mobile hi hm]
  unfold cond
  rw [List.all_eq_true]
  intro j hj
  have hji : j ≠ i := fun e => by
    subst e
    unfold stays at hj
    rw [List.mem_filter, hi] at hj
    simp [hm] at hj
  obtain ⟨o', k1, k2, k3⟩ := mem_aReady.1 hr
  have hif : listed.getD i false ≠ true := fun e => by
    simp only [Array.getD_eq_getD_getElem?] at e k2
    cases hv : listed[i]? <;> simp [hv] at e k2
    rw [e] at k2; cases k2
  simp only [Bool.and_eq_true, Bool.not_eq_true', Bool.or_eq_true]
  constructor
  · cases hl : listed.getD j false with
    | false => rfl
    | true =>
      cases hc : (tab.getD j []).contains i with
      | false => rfl
      | true => exact absurd (ht j i (by simpa using hc) listed hg hl) hif
  · cases hc : (tab.getD i []).contains j with
    | false => exact .inl rfl
    | true =>
      right
      have hlt : i < listed.size := by rw [hg.1]; exact (List.getElem?_eq_some_iff.1 hi).1
      have h1 := ht i j (by simpa using hc) _ (hg.step hr) (by simp [hlt])
      simp only [Array.getD_eq_getD_getElem?, Array.getElem?_setIfInBounds, if_neg (Ne.symm hji)] at h1 ⊢
      exact h1

/-! ### A plan -/

/-- What a looking operation has told. -/
structure Told where
  i : Nat
  o : AOper
  v : AVal
  tm : List AVal

def ZV (aos : List AOper) (tab : List (List Nat)) (V : List Told) (listed : Array Bool) (H : AHeap) : Prop := ∀ x ∈ V, cond aos tab x.i listed = true → Yld x.o x.v x.tm H

def PlanRun (P : Program) (aos : List AOper) (tab : List (List Nat)) (V : List Told) (K : ASt → Prop) : List PStep → Array Bool → ASt → Prop
  | [], _, st => K st
  | .mob i :: ps, listed, st => ∃ o v, aos[i]? = some o ∧ Yld o v st.tm st.H ∧ (o.op.pure = true ∨ ⟨i, o, v, st.tm⟩ ∈ V) ∧ PlanRun P aos tab V K ps (listed.setIfInBounds i true) (st.put o.dst v)
  | .imm i _ :: ps, listed, st => ∃ o st', aos[i]? = some o ∧ AStep P st o st' ∧ ZV aos tab V (listed.setIfInBounds i true) st'.H ∧ PlanRun P aos tab V K ps (listed.setIfInBounds i true) st'

theorem apartB_ok {o oj : AOper} (h : apartB o oj = true) : Apart o oj := by
  unfold apartB at h
  have third : ∀ (h : (match oj.dst with | some y => !o.looks.contains y | none => true) = true) x, oj.dst = some x → x ∉ o.looks := fun h x hx => by
    rw [hx] at h; simpa using h
  split at h
  · rename_i x hx
    simp only [Bool.and_eq_true, Bool.not_eq_true', bne_iff_ne, ne_eq] at h
    refine ⟨fun y hy => ?_, fun y hy => ?_, third h.2⟩
    · rw [hx] at hy; cases hy; simpa using h.1.1
    · rw [hx] at hy; cases hy; exact h.1.2
  · rename_i hx
    exact ⟨fun y hy => (by rw [hx] at hy; cases hy), fun y hy => (by rw [hx] at hy; cases hy), third h⟩

theorem PlanRun.allOk {tab : List (List Nat)} (ht : AncOk aos tab) {V : List Told} : ∀ (ps : List PStep) (listed : Array Bool) (st : ASt), planOk aos tab ps listed = true → Good aos listed → ZV aos tab V listed st.H → PlanRun P aos tab V K ps listed st →
    AllOk P aos (ZV aos tab V) K ps.length listed st
  | [], listed, st, hp, _, _, h => by
    simp [planOk] at hp
    exact ⟨hp, h⟩
  | .mob i :: ps, listed, st, hp, hg, hz, h => by
    obtain ⟨o, v, h1, h2, h3, h4⟩ := h
    simp only [planOk, h1, Bool.and_eq_true] at hp
    obtain ⟨⟨⟨hm, hr⟩, hf⟩, hp⟩ := hp
    have hr' : i ∈ aReady aos listed := by simpa using hr
    have hz' : ZV aos tab V (listed.setIfInBounds i true) st.H := fun x hx hc => hz x hx (by rw [← cond_mobile h1 hm]; exact hc)
    have hrob : ∀ (listed : Array Bool) (H : AHeap), Good aos listed → i ∈ aReady aos listed → ZV aos tab V (listed.setIfInBounds i true) H → Yld o v st.tm H := fun listed' H' hg' hr'' hz'' => by
      rcases h3 with h3 | h3
      · rcases h2 with ⟨k1, k2⟩ | ⟨k1, k2⟩
        · exact .inl ⟨k1, k2⟩
        · exact .inr ⟨k1, aOp_pure h3 k2 H'⟩
      · exact hz'' _ h3 (cond_ready ht h1 hm hg' hr'')
    have hZ : ∀ (listed : Array Bool) (j : Nat) (H : AHeap), ZV aos tab V ((listed.setIfInBounds i true).setIfInBounds j true) H → ZV aos tab V (listed.setIfInBounds j true) H := fun listed' j H' hz'' x hx hc => by
      refine hz'' x hx ?_
      by_cases e : i = j
      · subst e
        rw [cond_mobile h1 hm] at hc ⊢
        rw [cond_mobile h1 hm]; exact hc
      · rw [Array.setIfInBounds_comm _ _ e, cond_mobile h1 hm]; exact hc
    have hfree : ∀ j oj, aos[j]? = some oj → j ≠ i → listed.getD j false = false → i ∉ oj.after → Apart o oj := fun j oj hj hji hun hno => by
      unfold freeB at hf
      rw [List.all_eq_true] at hf
      have := hf j (by simpa using (List.getElem?_eq_some_iff.1 hj).1)
      simp only [hj, Bool.or_eq_true, beq_iff_eq, hji, hun, Bool.false_eq_true, false_or, or_self] at this
      rcases this with h | h
      · exact absurd (by simpa using h) hno
      · exact apartB_ok h
    exact AllOk.take h1 hrob hZ ps.length listed st hg hfree hr' (fun _ hy => hy) hz' (PlanRun.allOk ht ps _ _ hp (hg.step hr') (by rw [put_H]; exact hz') h4)
  | .imm i obl :: ps, listed, st, hp, hg, hz, h => by
    obtain ⟨o, st', h1, h2, h3, h4⟩ := h
    simp only [planOk, Bool.and_eq_true, beq_iff_eq] at hp
    obtain ⟨⟨hr, _⟩, hp⟩ := hp
    have hmem : i ∈ aReady aos listed := by rw [hr]; simp
    refine ⟨fun h0 => (by rw [hr] at h0; cases h0), fun j hj => ?_⟩
    rw [hr] at hj
    have : j = i := by simpa using hj
    subst this
    exact ⟨o, st', h1, h2, h3, PlanRun.allOk ht ps _ _ hp (hg.step hmem) h3 h4⟩

theorem Good.start : Good aos (Array.replicate aos.length false) := ⟨by simp, fun j o _ hl => by
  simp only [Array.getD_eq_getD_getElem?, Array.getElem?_replicate] at hl
  split at hl <;> simp at hl⟩

/-- **A REGION WHOSE ORDER IS DRAWN**, by one plan. -/
theorem AWp.draw {id : Nat} {ops : Array Oper} (hm : P.follows .mixedOrders = true) (hc : cOpers P ops ops.toList = some aos) {ps : List PStep} (hlen : ps.length = aos.length) (hp : planOk aos (mkAnc aos []) ps (Array.replicate aos.length false) = true)
    {V : List Told} (hz : ZV aos (mkAnc aos []) V (Array.replicate aos.length false) st.H) (h : PlanRun P aos (mkAnc aos []) V (Q .normal) ps (Array.replicate aos.length false) st) : AWp P r (.region id ops true) Q st := by
  intro B ρ a w hs
  have hall := PlanRun.allOk anc_ok ps _ st hp Good.start hz h
  have hsz : aos.length = ops.size := by rw [(cOpers_get hc).1]; simp
  refine wpIn_region_any hm ?_
  have hs' : StRel P B ρ st a { w with drawn := w.drawn + 1 } := ⟨hs.tm, hs.H.congr_heap rfl rfl rfl, hs.marks⟩
  have := hall.sound (r := r) hc _ _ _ B ρ a _ hs'
  rw [hlen, hsz] at this
  exact wpAnyIn_post (fun e a w he ⟨_, _, ⟨h0, _⟩, _⟩ => he h0) (fun e a w hq => by
    obtain ⟨st', ρ', ⟨rfl, h1⟩, h2, h3⟩ := hq
    exact ⟨st', ρ', h1, h2, h3⟩) _ _ _ _ this

end Go.Vm
