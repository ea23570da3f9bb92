/- The abstract machine: a long closed run cut into calls known beforehand: between them only what is still led to is kept. -/
import Derived.Test.YtipmhhogebnpkaaGreatDoorP15
import Derived.Test.YtipmhhogebnpkaaGreatDoorP36
namespace Go.Vm
open Go
set_option linter.unusedVariables false
set_option linter.unusedSimpArgs false
variable {P : Program} {B : Base} {ρ0 ρ : Ren} {H0 H H2 : AHeap} {w0 w : World} {K : Nat → Bool}
mutual
def AVal.inK (K : Nat → Bool) : AVal → Bool
  | .raw _ => true
  | .ptr A _ _ | .slice A _ _ _ _ _ _ | .map A | .yield A => K A
  | .func _ cs | .bound _ cs | .agg cs | .tuple cs => AVal.insK K cs
  | .iface _ v => AVal.inK K v
def AVal.insK (K : Nat → Bool) : List AVal → Bool
  | [] => true
  | v :: r => AVal.inK K v && AVal.insK K r
end
theorem Ren.only_of {K : Nat → Bool} {A v : Nat} {l : Loc} (hk : K A = true) (h : ρ A v = some l) : ρ.only K A v = some l := by unfold Ren.only; rw [if_pos hk]; exact h
mutual
theorem VRel.inK : ∀ {v : AVal} {c : Value}, v.inK K = true → VRel ρ v c → VRel (ρ.only K) v c
  | _, _, _, .raw v => .raw v
  | _, _, hk, .ptr h => .ptr (Ren.only_of (by simpa [AVal.inK] using hk) h)
  | _, _, hk, .slice h a b c d => .slice (Ren.only_of (by simpa [AVal.inK] using hk) h) a b c d
  | _, _, hk, .sliceE h => .sliceE (Ren.only_of (by simpa [AVal.inK] using hk) h)
  | _, _, hk, .map h => .map (Ren.only_of (by simpa [AVal.inK] using hk) h)
  | _, _, hk, .func h => .func (VRels.inK (by simpa [AVal.inK] using hk) h)
  | _, _, hk, .bound h => .bound (VRels.inK (by simpa [AVal.inK] using hk) h)
  | _, _, hk, .yield h => .yield (Ren.only_of (by simpa [AVal.inK] using hk) h)
  | _, _, hk, .agg h => .agg (VRels.inK (by simpa [AVal.inK] using hk) h)
  | _, _, hk, .tuple h => .tuple (VRels.inK (by simpa [AVal.inK] using hk) h)
  | _, _, hk, .iface h => .iface (VRel.inK (by simpa [AVal.inK] using hk) h)
theorem VRels.inK : ∀ {v : List AVal} {c : List Value}, AVal.insK K v = true → VRels ρ v c → VRels (ρ.only K) v c
  | _, _, _, .nil => .nil
  | _, _, hk, .cons h hs => by
    simp only [AVal.insK, Bool.and_eq_true] at hk
    exact .cons (VRel.inK hk.1 h) (VRels.inK hk.2 hs)
end
theorem insK_mem : ∀ {l : List AVal}, AVal.insK K l = true → ∀ v ∈ l, v.inK K = true
  | v :: r, h, x, hx => by
    simp only [AVal.insK, Bool.and_eq_true] at h
    rcases List.mem_cons.1 hx with rfl | hx
    · exact h.1
    · exact insK_mem h.2 x hx
def versK (K : Nat → Bool) : Vers → Bool
  | [] => true
  | none :: r => versK K r
  | some (_, l) :: r => AVal.insK K l && versK K r
theorem versK_at : ∀ {vs : Vers}, versK K vs = true → ∀ (v : Nat) rel cells, vs[v]? = some (some (rel, cells)) → AVal.insK K cells = true
  | none :: r, h, 0, _, _, e => by simp at e
  | none :: r, h, v + 1, _, _, e => versK_at (vs := r) (by simpa [versK] using h) v _ _ (by simpa using e)
  | some (_, l) :: r, h, 0, _, _, e => by simp at e; obtain ⟨_, rfl⟩ := e; simp only [versK, Bool.and_eq_true] at h; exact h.1
  | some (_, l) :: r, h, v + 1, _, _, e => by simp only [versK, Bool.and_eq_true] at h; exact versK_at (vs := r) h.2 v _ _ (by simpa using e)
def objK (K : Nat → Bool) : AObj → Bool
  | .row vs => versK K vs
  | _ => false
theorem ObjRel.inK {A : Nat} {o : AObj} (hA : K A = true) (hk : objK K o = true) (h : ObjRel P ρ w A o) : ObjRel P (ρ.only K) w A o := by
  cases o with
  | row vs =>
    have hv := versK_at hk
    have hN : ∀ v, ρ.only K A v = ρ A v := fun v => by unfold Ren.only; rw [hA, if_pos rfl]
    obtain ⟨h1, h2, h3, h4⟩ := h
    refine ⟨fun v hv => by rw [hN]; exact h1 v hv, fun v hv => by rw [hN]; exact h2 v hv, fun v rel cells l e1 e2 => ?_, fun v1 v2 r1 r2 c1 c2 l1 l2 e1 e2 e3 e4 => ?_⟩
    · rw [hN] at e2
      obtain ⟨arr, e, fz, a, b, c⟩ := h3 v rel cells l e1 e2
      refine ⟨arr, e, fz, a, b, fun i x hx => ?_⟩
      obtain ⟨cv, p, q⟩ := c i x hx
      exact ⟨cv, p, VRel.inK (insK_mem (hv v rel cells e1) x (List.mem_of_getElem? hx)) q⟩
    · rw [hN] at e3 e4
      exact h4 v1 v2 r1 r2 c1 c2 l1 l2 e1 e2 e3 e4
  | _ => cases hk
theorem HRel.cut (h0 : HRel P B ρ0 H0 w0) (h : HRel P B ρ H w) (hle : ρ0.le ρ) (hold : ∀ A o, H0.get A = some o → ∃ o', H2.get A = some o') (hK : ∀ A o, H2.get A = some o → K A = true) (hN : ∀ A, K A = true → ∃ o, H2.get A = some o)
    (hg : ∀ A o, H2.get A = some o → H.get A = some o ∧ objK K o = true) (hnext : H2.next = H.next) : HRel P B (ρ.only K) H2 w ∧ ρ0.le (ρ.only K) := by
  have hlow : ρ0.le (ρ.only K) := fun A v l q => by
    obtain ⟨o, ho⟩ := h0.dom A v l q
    obtain ⟨o', ho'⟩ := hold A o ho
    exact Ren.only_of (hK A o' ho') (hle _ _ _ q)
  have hro : ∀ A, K A = true → ¬ isRo H A := fun A hA ⟨l, q⟩ => by
    obtain ⟨o, ho⟩ := hN A hA
    obtain ⟨a, b⟩ := hg A o ho
    rw [q] at a; cases a; cases b
  refine ⟨⟨fun A v l q => hlow _ _ _ (h0.le _ _ _ q), fun A v q => ?_, fun A q => ?_, fun A v l q => ?_, fun A o q => ?_, fun A1 A2 v1 v2 l1 l2 e1 e2 e3 => ?_, fun A v l e r => ?_, fun A v l e => h.lt A v l (Ren.only_some e).2, h.size, h.frame, h.side, fun A v l r e => ?_, h.gl⟩, hlow⟩
  · unfold Ren.only
    split
    · exact h.fresh A v (by rw [← hnext]; exact q)
    · rfl
  · cases ho : H2.get A with
    | none => rfl
    | some o =>
      have := (hg A o ho).1
      rw [h.wf A (by rw [← hnext]; exact q)] at this
      cases this
  · exact hN A (Ren.only_some q).1
  · exact ObjRel.inK (hK A o q) (hg A o q).2 (h.obj A o (hg A o q).1)
  · obtain ⟨a1, b1⟩ := Ren.only_some e1
    obtain ⟨a2, b2⟩ := Ren.only_some e2
    rcases h.sep A1 A2 v1 v2 l1 l2 b1 b2 e3 with x | ⟨x, y⟩
    · exact .inl x
    · exact absurd x (hro A1 a1)
  · obtain ⟨a, b⟩ := Ren.only_some e
    exact h.own A v l b (hro A a)
  · obtain ⟨a, b⟩ := Ren.only_some e
    obtain ⟨cs, q⟩ := r
    have := (hg A _ q).2
    cases this
def versEq : Vers → Vers → Bool
  | [], [] => true
  | none :: a, none :: b => versEq a b
  | some (r, l) :: a, some (r', l') :: b => Nat.beq r r' && AVal.beqs l l' && versEq a b
  | _, _ => false
theorem versEq_ok : ∀ {a b : Vers}, versEq a b = true → a = b
  | [], [], _ => rfl
  | none :: a, none :: b, h => by rw [versEq_ok (a := a) (b := b) (by simpa [versEq] using h)]
  | some (r, l) :: a, some (r', l') :: b, h => by
    simp only [versEq, Bool.and_eq_true] at h
    obtain ⟨⟨h1, h2⟩, h3⟩ := h
    rw [Nat.eq_of_beq_eq_true h1, AVal.beqs_ok _ _ h2, versEq_ok h3]
  | [], _ :: _, h => by simp [versEq] at h
  | none :: _, [], h => by simp [versEq] at h
  | some _ :: _, [], h => by simp [versEq] at h
  | none :: _, some _ :: _, h => by simp [versEq] at h
  | some (_, _) :: _, none :: _, h => by simp [versEq] at h
def objEq : AObj → AObj → Bool
  | .row a, .row b => versEq a b
  | _, _ => false
theorem objEq_ok {a b : AObj} (h : objEq a b = true) : a = b := by
  unfold objEq at h
  split at h
  · rw [versEq_ok h]
  · cases h
def subT : Tr AObj → Tr AObj → Bool
  | .leaf, _ => true
  | .node v l r, t => match t with
    | .leaf => (match v with | none => true | some _ => false) && subT l .leaf && subT r .leaf
    | .node v' l' r' => (match v with | none => true | some o => match v' with | some o' => objEq o o' | none => false) && subT l l' && subT r r'
theorem subT_ok : ∀ {a b : Tr AObj}, subT a b = true → ∀ (k : Nat) o, a.get k = some o → b.get k = some o
  | .leaf, _, _, k, o, e => by cases e
  | .node v l r, .leaf, h, k, o, e => by
    simp only [subT, Bool.and_eq_true] at h
    obtain ⟨⟨h1, h2⟩, h3⟩ := h
    unfold Tr.get at e
    split at e
    · subst e; cases h1
    · split at e
      · have := subT_ok h2 _ _ e; cases this
      · have := subT_ok h3 _ _ e; cases this
  | .node v l r, .node v' l' r', h, k, o, e => by
    simp only [subT, Bool.and_eq_true] at h
    obtain ⟨⟨h1, h2⟩, h3⟩ := h
    unfold Tr.get at e ⊢
    split at e
    · rename_i hk
      subst e
      rw [if_pos hk]
      cases v' with
      | none => cases h1
      | some o' => rw [objEq_ok h1]
    · rename_i hk
      rw [if_neg hk]
      split at e
      · rename_i hk; rw [if_pos hk]; exact subT_ok h2 _ _ e
      · rename_i hk; rw [if_neg hk]; exact subT_ok h3 _ _ e
def hasT (t : Tr AObj) (A : Nat) : Bool := match t.get A with | some _ => true | none => false
def allT (p : AObj → Bool) : Tr AObj → Bool
  | .leaf => true
  | .node v l r => (match v with | none => true | some o => p o) && allT p l && allT p r
theorem allT_ok {p : AObj → Bool} : ∀ {t : Tr AObj}, allT p t = true → ∀ (k : Nat) o, t.get k = some o → p o = true
  | .leaf, _, k, o, e => by cases e
  | .node v l r, h, k, o, e => by
    simp only [allT, Bool.and_eq_true] at h
    obtain ⟨⟨h1, h2⟩, h3⟩ := h
    unfold Tr.get at e
    split at e
    · subst e; exact h1
    · split at e
      · exact allT_ok h2 _ _ e
      · exact allT_ok h3 _ _ e
def leavesH (H0 : AHeap) (v : AVal) (H2 : AHeap) (r : Option (AVal × AHeap)) : Bool := match r with
  | some (v', H') => AVal.beq v v' && Nat.beq H2.next H'.next && subT H2.tr H'.tr && subT H0.tr H2.tr && allT (objK (hasT H2.tr)) H2.tr && AVal.inK (hasT H2.tr) v
  | none => false
theorem ACalls.cut {f : Nat} {args : List AVal} {v : AVal} {r : Option (AVal × AHeap)} (hl : leavesH H0 v H2 r = true) (h : ∀ v1 H1, r = some (v1, H1) → ACalls P f args H0 fun v' h' => v' = v1 ∧ h' = H1) : ACalls P f args H0 fun v' h' => v' = v ∧ h' = H2 := by
  unfold leavesH at hl
  split at hl
  · rename_i v1 H1
    simp only [Bool.and_eq_true] at hl
    obtain ⟨⟨⟨⟨⟨b1, b2⟩, b3⟩, b4⟩, b5⟩, b6⟩ := hl
    have e1 := AVal.beq_ok _ _ b1
    subst e1
    intro B ρ w cargs hH hargs
    refine (h v H1 rfl B ρ w cargs hH hargs).mono fun e w' ⟨v', cv, H', ρ', e1, ⟨e2, e6⟩, e3, e4, e5⟩ => ?_
    subst e2 e6
    have hN : ∀ A, hasT H2.tr A = true → ∃ o, H2.get A = some o := fun A hA => by
      unfold hasT at hA
      split at hA
      · rename_i o ho; exact ⟨o, ho⟩
      · cases hA
    have hK : ∀ A o, H2.get A = some o → hasT H2.tr A = true := fun A o ho => by
      unfold hasT
      rw [show H2.tr.get A = some o from ho]
    obtain ⟨c1, c2⟩ := HRel.cut (K := hasT H2.tr) hH e4 e5 (fun A o q => ⟨o, subT_ok b4 A o q⟩) hK hN (fun A o q => ⟨subT_ok b3 A o q, allT_ok b5 A o q⟩) (Nat.eq_of_beq_eq_true b2)
    exact ⟨v', cv, H2, _, e1, ⟨rfl, rfl⟩, VRel.inK b6 e3, c1, c2⟩
  · cases hl
def eqT : Tr AObj → Tr AObj → Bool
  | .leaf, .leaf => true
  | .node v l r, .node v' l' r' => (match v, v' with | none, none => true | some o, some o' => objEq o o' | _, _ => false) && eqT l l' && eqT r r'
  | _, _ => false
theorem eqT_ok : ∀ {a b : Tr AObj}, eqT a b = true → a = b
  | .leaf, .leaf, _ => rfl
  | .node v l r, .node v' l' r', h => by
    simp only [eqT, Bool.and_eq_true] at h
    obtain ⟨⟨h1, h2⟩, h3⟩ := h
    rw [eqT_ok h2, eqT_ok h3]
    cases v <;> cases v' <;> simp at h1
    · rfl
    · rw [objEq_ok h1]
  | .leaf, .node _ _ _, h => by simp [eqT] at h
  | .node _ _ _, .leaf, h => by simp [eqT] at h
def cutKn (g : Nat) (as : List AVal) (H0 : AHeap) (v : AVal) (H2 : AHeap) : Known := fun f args H => bif Nat.beq f g && Nat.beq H.next H0.next && AVal.beqs args as && eqT H.tr H0.tr then some (v, H2) else none
theorem cutKn_ok {g : Nat} {as : List AVal} {v : AVal} (hg : GoFn P g) (h : ACalls P g as H0 fun v' h' => v' = v ∧ h' = H2) : KnownOk P (cutKn g as H0 v H2) := fun f args H v' H' e => by
  unfold cutKn at e
  cases hb : Nat.beq f g && Nat.beq H.next H0.next && AVal.beqs args as && eqT H.tr H0.tr with
  | false => rw [hb] at e; cases e
  | true =>
    rw [hb] at e
    cases e
    simp only [Bool.and_eq_true] at hb
    obtain ⟨⟨⟨h1, h2⟩, h3⟩, h4⟩ := hb
    have a1 := Nat.eq_of_beq_eq_true h1
    have a3 := AVal.beqs_ok _ _ h3
    have a4 : H = H0 := by
      obtain ⟨n, t⟩ := H
      obtain ⟨n0, t0⟩ := H0
      simp only at h2 h4
      rw [Nat.eq_of_beq_eq_true h2, eqT_ok h4]
    subst a1 a3 a4
    exact ⟨hg, h⟩
theorem cut_of {kx kn : Known} {t : List (List (Option AFunc))} {n g : Nat} {as : List AVal} {v : AVal} (hx : ExtOk P kx) (hk : KnownOk P kn) (ht : TabIs P 0 t) (hm : P.follows .mixedOrders = true) (hgo : GoFn P g)
    (h : leavesH H0 v H2 (fCallX kx kn (envOf t) n (.func (.func g) []) as H0) = true) : KnownOk P (cutKn g as H0 v H2) :=
  cutKn_ok hgo (ACalls.cut h fun v1 H1 e => by
    rw [fCallX_eq] at e
    have := (callX_ok hx hk (envOf_ok ht) hm n _ _ _ _ _ e).calls hgo
    rwa [List.append_nil] at this)
end Go.Vm
