/- The abstract machine, part 33: what a heap may forget: cells of old versions, new objects that nothing leads to. -/
import Derived.Test.YtipmhhogebnpkaaGreatDoorP01
namespace Go.Vm
open Go
set_option linter.unusedVariables false
set_option linter.unusedSimpArgs false
variable {P : Program} {B : Base} {ρ0 ρ ρ2 : Ren} {H0 H H2 : AHeap} {w0 w : World}
mutual
theorem VRel.shrink (hle : ρ0.le ρ) : ∀ {v : AVal} {c0 c : Value}, VRel ρ0 v c0 → VRel ρ v c → VRel ρ0 v c
  | _, _, _, .raw v, .raw _ => .raw v
  | _, _, _, .ptr h0, .ptr h => by rw [hle _ _ _ h0] at h; cases h; exact .ptr h0
  | _, _, _, .slice h0 _ _ _ _, .slice h hk hl he hn => by rw [hle _ _ _ h0] at h; cases h; exact .slice h0 hk hl he hn
  | _, _, _, .sliceE h0, .sliceE h => .sliceE h0
  | _, _, _, .slice h0 _ _ _ _, .sliceE h => .sliceE h0
  | _, _, _, .sliceE h0, .slice h hk hl he hn => by rw [hle _ _ _ h0] at h; cases h; exact .slice h0 hk hl he hn
  | _, _, _, .map h0, .map h => by rw [hle _ _ _ h0] at h; cases h; exact .map h0
  | _, _, _, .func h0, .func h => .func (VRels.shrink hle h0 h)
  | _, _, _, .bound h0, .bound h => .bound (VRels.shrink hle h0 h)
  | _, _, _, .yield h0, .yield h => by rw [hle _ _ _ h0] at h; cases h; exact .yield h0
  | _, _, _, .agg h0, .agg h => .agg (VRels.shrink hle h0 h)
  | _, _, _, .tuple h0, .tuple h => .tuple (VRels.shrink hle h0 h)
  | _, _, _, .iface h0, .iface h => .iface (VRel.shrink hle h0 h)
theorem VRels.shrink (hle : ρ0.le ρ) : ∀ {v : List AVal} {c0 c : List Value}, VRels ρ0 v c0 → VRels ρ v c → VRels ρ0 v c
  | _, _, _, .nil, .nil => .nil
  | _, _, _, .cons h0 hs0, .cons h hs => .cons (VRel.shrink hle h0 h) (VRels.shrink hle hs0 hs)
end
theorem CellsAt.shrink (hle : ρ0.le ρ) {a0 a : Array Value} {s0 s : Nat} {l : List AVal} (h0 : CellsAt ρ0 a0 s0 l) (h : CellsAt ρ a s l) : CellsAt ρ0 a s l := fun i v hv => by
  obtain ⟨c0, _, r0⟩ := h0 i v hv
  obtain ⟨c, e, r⟩ := h i v hv
  exact ⟨c, e, r0.shrink hle r⟩
theorem RowAt.shrink (hle : ρ0.le ρ) {l0 l : Loc} {cells : List AVal} (h0 : RowAt ρ0 w0 l0 cells) (h : RowAt ρ w l cells) : RowAt ρ0 w l cells := by
  obtain ⟨a0, e0, f0, _, _, c0⟩ := h0
  obtain ⟨a, e, f, h1, h2, c⟩ := h
  exact ⟨a, e, f, h1, h2, c0.shrink hle c⟩
theorem EntriesRel.shrink (hle : ρ0.le ρ) : ∀ {es : List (AVal × AVal × Nat)} {c0 c : List MapEntry}, EntriesRel ρ0 es c0 → EntriesRel ρ es c → EntriesRel ρ0 es c
  | [], _, [], _, _ => trivial
  | [], _, _ :: _, _, h => h.elim
  | _ :: _, _, [], _, h => h.elim
  | _ :: _, [], _ :: _, h0, _ => h0.elim
  | (_, _, _) :: _, _ :: _, _ :: _, ⟨a0, b0, _, d0⟩, ⟨a, b, c, d⟩ => ⟨a0.shrink hle a, b0.shrink hle b, c, EntriesRel.shrink hle d0 d⟩
theorem IterRel.shrink (hle : ρ0.le ρ) : ∀ {M c0 c : Option Nat}, IterRel ρ0 M c0 → IterRel ρ M c → IterRel ρ0 M c
  | none, _, none, _, _ => trivial
  | none, _, some _, _, h => h.elim
  | some _, _, none, _, h => h.elim
  | some M, some _, some _, ⟨x0, a0, _⟩, ⟨x, a, b⟩ => by
    rw [hle _ _ _ a0] at a
    cases a
    exact ⟨x0, a0, b⟩
  | some M, none, some _, h0, _ => h0.elim
theorem LoopRel.shrink (hle : ρ0.le ρ) {L : ALoop} {l0 l : Loop} (h0 : LoopRel P ρ0 L l0) (h : LoopRel P ρ L l) : LoopRel P ρ0 L l := by
  obtain ⟨_, _, t0, _, _, _, x0, d0, _⟩ := h0
  obtain ⟨a, b, t, c, d, e, x, f, g⟩ := h
  rw [hle _ _ _ d0] at f
  cases f
  exact ⟨a, b, t0.shrink hle t, c, d, e, x0, d0, g⟩
theorem Single.of_eq {A : Nat} (hA : ∀ v, ρ0 A v = ρ A v) (h : Single ρ A) : Single ρ0 A := fun v hv => by rw [hA]; exact h v hv
theorem ObjRel.shrink (hle : ρ0.le ρ) {A : Nat} {o : AObj} (hA : ∀ v, ρ0 A v = ρ A v) (h0 : ObjRel P ρ0 w0 A o) (h : ObjRel P ρ w A o) : ObjRel P ρ0 w A o := by
  cases o with
  | row vs =>
    obtain ⟨_, _, k, _⟩ := h0
    obtain ⟨h1, h2, h3, h4⟩ := h
    refine ⟨fun v hv => by rw [hA]; exact h1 v hv, fun v hv => by rw [hA]; exact h2 v hv, fun v rel cells l e1 e2 => ?_, fun v1 v2 r1 r2 c1 c2 l1 l2 e1 e2 e3 e4 => ?_⟩
    · exact (k v rel cells l e1 e2).shrink hle (h3 v rel cells l e1 (by rw [← hA]; exact e2))
    · rw [hA] at e3 e4
      exact h4 v1 v2 r1 r2 c1 c2 l1 l2 e1 e2 e3 e4
  | ro cells =>
    obtain ⟨_, l0, a0, b0⟩ := h0
    obtain ⟨s, l, a, b⟩ := h
    exact ⟨Single.of_eq hA s, l, by rw [hA]; exact a, b0.shrink hle b⟩
  | map es clock =>
    obtain ⟨_, l0, c0, _, _, k0⟩ := h0
    obtain ⟨s, l, c, a, b, k⟩ := h
    exact ⟨Single.of_eq hA s, l, c, by rw [hA]; exact a, b, k0.shrink hle k⟩
  | loop L =>
    obtain ⟨_, l0, r0, _, _, k0⟩ := h0
    obtain ⟨s, l, r, a, b, k⟩ := h
    exact ⟨Single.of_eq hA s, l, r, by rw [hA]; exact a, b, k0.shrink hle k⟩
  | defs taken =>
    obtain ⟨s, l, a, b⟩ := h
    exact ⟨Single.of_eq hA s, l, by rw [hA]; exact a, b⟩
  | iter M since seen last =>
    obtain ⟨_, l0, m0, _, _, _, k0⟩ := h0
    obtain ⟨s, l, m, a, b, c, k⟩ := h
    exact ⟨Single.of_eq hA s, l, m, by rw [hA]; exact a, b, c, k0.shrink hle k⟩
theorem ObjRel.names (hle : ρ0.le ρ) {A : Nat} {o : AObj} (h0 : ObjRel P ρ0 w0 A o) (h : ObjRel P ρ w A o) : ∀ v, ρ0 A v = ρ A v := by
  have one : ∀ {l0 l : Loc}, Single ρ0 A → Single ρ A → ρ0 A 0 = some l0 → ρ A 0 = some l → ∀ v, ρ0 A v = ρ A v := fun {l0 l} s0 s a0 a v => by
    by_cases hv : v = 0
    · subst hv; rw [a0, hle _ _ _ a0]
    · rw [s0 v hv, s v hv]
  cases o with
  | row vs =>
    intro v
    rcases Nat.lt_or_ge v vs.length with hv | hv
    · obtain ⟨l, a, _⟩ := h0.2.1 v hv
      rw [a, hle _ _ _ a]
    · rw [h0.1 v hv, h.1 v hv]
  | ro cells => obtain ⟨s0, l0, a0, _⟩ := h0; obtain ⟨s, l, a, _⟩ := h; exact one s0 s a0 a
  | map es clock => obtain ⟨s0, l0, _, a0, _⟩ := h0; obtain ⟨s, l, _, a, _⟩ := h; exact one s0 s a0 a
  | loop L => obtain ⟨s0, l0, _, a0, _⟩ := h0; obtain ⟨s, l, _, a, _⟩ := h; exact one s0 s a0 a
  | defs taken => obtain ⟨s0, l0, a0, _⟩ := h0; obtain ⟨s, l, a, _⟩ := h; exact one s0 s a0 a
  | iter M since seen last => obtain ⟨s0, l0, _, a0, _⟩ := h0; obtain ⟨s, l, _, a, _⟩ := h; exact one s0 s a0 a
def Ren.only (ρ : Ren) (K : Nat → Bool) : Ren := fun A v => if K A then ρ A v else none
theorem Ren.only_some {K : Nat → Bool} {A v : Nat} {l : Loc} (h : ρ.only K A v = some l) : K A = true ∧ ρ A v = some l := by
  unfold Ren.only at h
  split at h
  · exact ⟨by assumption, h⟩
  · cases h
theorem HRel.only (h0 : HRel P B ρ0 H0 w0) (h : HRel P B ρ H w) (hle : ρ0.le ρ) (hold : ∀ A, A < H0.next → H.get A = H0.get A) (K : Nat → Bool) (hK : ∀ A, A < H0.next → K A = true)
    (hnew : ∀ A o, H0.next ≤ A → K A = true → H.get A = some o → ObjRel P (ρ.only K) w A o) (hg : ∀ A, K A = true → H2.get A = H.get A) (hn : ∀ A, K A = false → H2.get A = none) (hnext : H2.next = H.next) (hmono : H0.next ≤ H.next) :
    HRel P B (ρ.only K) H2 w ∧ ρ0.le (ρ.only K) := by
  have hlow : ρ0.le (ρ.only K) := fun A v l q => by
    have hA : A < H0.next := by
      rcases Nat.lt_or_ge A H0.next with x | x
      · exact x
      · rw [h0.fresh A v x] at q; cases q
    unfold Ren.only
    rw [hK A hA]
    exact hle _ _ _ q
  have hro : ∀ A, K A = true → (isRo H2 A ↔ isRo H A) := fun A hA => by unfold isRo; rw [hg A hA]
  refine ⟨⟨fun A v l q => hlow _ _ _ (h0.le _ _ _ q), fun A v q => ?_, fun A q => ?_, fun A v l q => ?_, fun A o q => ?_, fun A1 A2 v1 v2 l1 l2 e1 e2 e3 => ?_, fun A v l e r => ?_, fun A v l e => h.lt A v l (Ren.only_some e).2, h.size, h.frame, h.side, fun A v l r e => ?_, h.gl⟩, hlow⟩
  · unfold Ren.only
    split
    · exact h.fresh A v (by rw [← hnext]; exact q)
    · rfl
  · cases hk : K A with
    | true => rw [hg A hk]; exact h.wf A (by rw [← hnext]; exact q)
    | false => exact hn A hk
  · obtain ⟨a, b⟩ := Ren.only_some q
    rw [hg A a]
    exact h.dom A v l b
  · have hk : K A = true := by
      cases hk : K A with
      | true => rfl
      | false => rw [hn A hk] at q; cases q
    rw [hg A hk] at q
    rcases Nat.lt_or_ge A H0.next with x | x
    · have q0 : H0.get A = some o := by rw [← hold A x]; exact q
      have r0 := h0.obj A o q0
      have r := h.obj A o q
      have hA := ObjRel.names hle r0 r
      exact (ObjRel.shrink hle hA r0 r).keep hlow (fun v => by unfold Ren.only; rw [hK A x, if_pos rfl, hA]) fun v l _ => rfl
    · exact hnew A o x hk q
  · obtain ⟨a1, b1⟩ := Ren.only_some e1
    obtain ⟨a2, b2⟩ := Ren.only_some e2
    rcases h.sep A1 A2 v1 v2 l1 l2 b1 b2 e3 with x | ⟨x, y⟩
    · exact .inl x
    · exact .inr ⟨(hro A1 a1).2 x, (hro A2 a2).2 y⟩
  · obtain ⟨a, b⟩ := Ren.only_some e
    exact h.own A v l b fun x => r ((hro A a).2 x)
  · obtain ⟨a, b⟩ := Ren.only_some e
    exact h.ro A v l ((hro A a).1 r) b
end Go.Vm
