/- The abstract machine, part 28: calls that are known beforehand; the evaluator over them. -/
import Derived.Test.YtaeleakdmphnfaaGreatDoorVmFast2
namespace Go.Vm
open Go

set_option linter.unusedVariables false
set_option linter.unusedSimpArgs false

variable {P : Program} {B : Base} {ρ ρ' : Ren} {H H' : AHeap} {w w' : World}

abbrev Known := Nat → List AVal → AHeap → Res

def KnownOk (P : Program) (kn : Known) : Prop := ∀ f args H v H', kn f args H = some (v, H') → GoFn P f ∧ ACalls P f args H fun v' h' => v' = v ∧ h' = H'

/-- One level of calls, some of them known. -/
def knOr (kn : Known) (or : Oracle) : Oracle := fun fv args H => match fv with
  | .func (.func f) caps => match kn f (args ++ caps) H with
    | some r => some r
    | none => or fv args H
  | .bound f first => match kn f (first ++ args) H with
    | some r => some r
    | none => or fv args H
  | _ => or fv args H

theorem knOr_ok {kn : Known} {or : Oracle} (hk : KnownOk P kn) (hor : OracleOk P or) : OracleOk P (knOr kn or) := fun fv args H v H' h => by
  unfold knOr at h
  split at h
  · rename_i f caps
    split at h
    · rename_i r hr
      cases h
      obtain ⟨h1, h2⟩ := hk _ _ _ _ _ hr
      exact ACalls.value h1 h2
    · exact hor _ _ _ _ _ h
  · rename_i f first
    split at h
    · rename_i r hr
      cases h
      obtain ⟨h1, h2⟩ := hk _ _ _ _ _ hr
      exact ACalls.bound h1 h2
    · exact hor _ _ _ _ _ h
  · exact hor _ _ _ _ _ h

theorem knOr_go {kn : Known} {or : Oracle} (hk : KnownOk P kn) (hgo : OracleGo P or) : OracleGo P (knOr kn or) := fun g caps args H x h => by
  unfold knOr at h
  simp only at h
  split at h
  · rename_i r hr
    obtain ⟨v, H'⟩ := r
    exact (hk _ _ _ _ _ hr).1
  · exact hgo _ _ _ _ _ h

def callM (kn : Known) (env : Nat → Option AFunc) : Nat → Oracle
  | 0 => fun _ _ _ => none
  | n + 1 => knOr kn (stepOr env n (callM kn env n))

theorem callM_go {kn : Known} {env : Nat → Option AFunc} (hk : KnownOk P kn) (henv : EnvOk P env) : ∀ n, OracleGo P (callM kn env n)
  | 0 => fun _ _ _ _ _ h => by cases h
  | n + 1 => knOr_go hk (stepOr_go henv n _)

theorem callM_ok {kn : Known} {env : Nat → Option AFunc} (hk : KnownOk P kn) (henv : EnvOk P env) (hm : P.follows .mixedOrders = true) : ∀ n, OracleOk P (callM kn env n)
  | 0 => fun fv args H v H' h => by cases h
  | n + 1 => knOr_ok hk (stepOr_ok henv hm n (callM_ok hk henv hm n) (OracleGo.y (callM_go hk henv n)))

/-! ### For the kernel -/

noncomputable def fCallM (kn : Known) (env : Nat → Option AFunc) (n : Nat) : Oracle :=
  Nat.rec (motive := fun _ => Oracle) (fun _ _ _ => none) (fun n ih fv args H => match fv with
    | .func (.func f) caps => match kn f (lapp args caps) H with
      | some r => some r
      | none => fCallF env n ih f (lapp args caps) H
    | .bound f first => match kn f (lapp first args) H with
      | some r => some r
      | none => fCallF env n ih f (lapp first args) H
    | .yield L => fCallY n ih L args H
    | _ => none) n

theorem fCallM_eq (kn : Known) (env : Nat → Option AFunc) : ∀ (n : Nat), fCallM kn env n = callM kn env n
  | 0 => rfl
  | n + 1 => by
    funext fv args H
    show (match fv with
      | .func (.func f) caps => match kn f (lapp args caps) H with
        | some r => some r
        | none => fCallF env n (fCallM kn env n) f (lapp args caps) H
      | .bound f first => match kn f (lapp first args) H with
        | some r => some r
        | none => fCallF env n (fCallM kn env n) f (lapp first args) H
      | .yield L => fCallY n (fCallM kn env n) L args H
      | _ => none) = _
    rw [fCallM_eq kn env n]
    simp only [callM, knOr, stepOr, lapp_eq, fCallF_eq, fCallY_eq]
    cases fv with
    | func fn cs => cases fn <;> rfl
    | _ => rfl

/-! ### Calls without arguments that say yes -/

/-- A world that has grown bears what it bore. -/
theorem HRel.outlive (h : HRel P B ρ H w) (hs : w.heap.size ≤ w'.heap.size) (hf : ∀ c, c < w.heap.size → w'.heap[c]? = w.heap[c]?) (hsd : Side w w') : HRel P B ρ H w' where
  le := h.le
  fresh := h.fresh
  wf := h.wf
  dom := h.dom
  obj := fun A o ho => (h.obj A o ho).keep (Ren.le_refl _) (fun _ => rfl) fun v l hl => hf _ (h.lt A v l hl)
  sep := h.sep
  own := h.own
  lt := fun A v l hl => Nat.lt_of_lt_of_le (h.lt A v l hl) hs
  size := Nat.le_trans h.size hs
  frame := fun c hc hb => by rw [hf c (Nat.lt_of_lt_of_le hc h.size)]; exact h.frame c hc hb
  side := h.side.trans hsd
  ro := h.ro
  gl := h.gl

/-- What a call without arguments answers from nothing, it answers anywhere; it leaves what lay there. -/
theorem ACalls.closed {f : Nat} {v : Value} {H1 : AHeap} (h : ACalls P f [] .empty fun v' h' => v' = .raw v ∧ h' = H1) (H : AHeap) : ACalls P f [] H fun v' h' => v' = .raw v ∧ h' = H := by
  intro B ρ w cargs hH hargs
  refine (h (bare w) _ w cargs (HRel.bare P w hH.held) (by cases hargs; exact .nil)).mono fun e w' ⟨v', cv, H', ρ', e1, ⟨e2, e3⟩, e4, e5, e6⟩ => ?_
  subst e2
  cases e4
  exact ⟨_, v, H, ρ, e1, ⟨rfl, rfl⟩, .raw v, hH.outlive e5.size (fun c hc => e5.frame c hc fun x => x) e5.side, Ren.le_refl _⟩

/-- One closed call that says yes, known. -/
noncomputable def yes (g : Nat) : Known := fun f args H => match args with
  | [] => Bool.rec (motive := fun _ => Res) none (some (abool true, H)) (Nat.beq f g)
  | _ => none

theorem yes_ok {g : Nat} (hg : GoFn P g) {H1 : AHeap} (h : ACalls P g [] .empty fun v' h' => v' = abool true ∧ h' = H1) : KnownOk P (yes g) := fun f args H v H' hy => by
  unfold yes at hy
  cases args with
  | cons a as => cases hy
  | nil =>
    cases hb : Nat.beq f g with
    | false => rw [hb] at hy; cases hy
    | true =>
      rw [hb] at hy
      have := Nat.beq_eq.mp hb
      subst this
      cases hy
      exact ⟨hg, h.closed H⟩

def noKnown : Known := fun _ _ _ => none
theorem noKnown_ok : KnownOk P noKnown := fun f args H v H' h => by cases h

noncomputable def saysM (kn : Known) (t : List (List (Option AFunc))) (n f : Nat) : Bool :=
  match fCallM kn (envOf t) n (.func (.func f) []) [] .empty with
  | some (.raw (.bool b), _) => b
  | _ => false

/-- What says yes for the kernel is a contract. -/
theorem saysM_ok {kn : Known} {t : List (List (Option AFunc))} {n f : Nat} (hk : KnownOk P kn) (ht : TabIs P 0 t) (hm : P.follows .mixedOrders = true) (h : saysM kn t n f = true) :
    GoFn P f ∧ ∃ H1, ACalls P f [] .empty fun v' h' => v' = abool true ∧ h' = H1 := by
  unfold saysM at h
  rw [fCallM_eq] at h
  split at h
  · rename_i b H1 he
    subst h
    have hgo := callM_go hk (envOf_ok ht) n _ _ _ _ _ he
    exact ⟨hgo, H1, (callM_ok hk (envOf_ok ht) hm n _ _ _ _ _ he).calls hgo⟩
  · cases h

/-- The known one of a call that says yes. -/
theorem saysM_yes {kn : Known} {t : List (List (Option AFunc))} {n f : Nat} (hk : KnownOk P kn) (ht : TabIs P 0 t) (hm : P.follows .mixedOrders = true) (h : saysM kn t n f = true) : KnownOk P (yes f) :=
  let ⟨h1, H1, h2⟩ := saysM_ok hk ht hm h; yes_ok h1 h2

/-- A contract, as a call from any world. -/
theorem ACalls.world {f : Nat} {v : Value} {H1 : AHeap} (h : ACalls P f [] .empty fun v' h' => v' = .raw v ∧ h' = H1) (w : World) (hgl : GlHeld w) : Calls P f #[] w fun e w' => e = .returned v ∧ GrownW w w' := by
  have := h (bare w) _ w [] (HRel.bare P w hgl) .nil
  rw [callsIn_wide] at this
  refine this.mono fun e w' ⟨v', cv, H', ρ', e1, ⟨e2, e3⟩, e4, e5, _⟩ => ?_
  subst e2
  cases e4
  exact ⟨e1, e5.grown⟩

end Go.Vm
