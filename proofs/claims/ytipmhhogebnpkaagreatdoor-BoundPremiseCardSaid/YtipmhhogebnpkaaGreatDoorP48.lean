/- The abstract machine: a walked run over plain arguments is a call, from any world. -/
import Derived.Test.YtipmhhogebnpkaaGreatDoorP22
import Derived.Test.YtipmhhogebnpkaaGreatDoorP12
import Derived.Test.YtipmhhogebnpkaaGreatDoorP25
import Derived.Test.YtipmhhogebnpkaaGreatDoorP26
import Derived.Test.YtipmhhogebnpkaaGreatDoorP27
import Derived.Test.YtipmhhogebnpkaaGreatDoorP47
namespace Go.Vm
open Go
set_option linter.unusedVariables false
end Go.Vm
namespace Go.Proofs.YtipmhhogebnpkaaGreatDoor
open Go Go.Vm
set_option linter.unusedVariables false
set_option linter.unusedSimpArgs false
variable {kn : Known} {env : Nat → Option AFunc}
variable {X : Type}
abbrev KX : Known := orX (cloneX 286) (addX 35)
noncomputable abbrev KP : Known := orX (yes 6) (sortKn 68)
theorem sort_says : SortSays Tryz.prog 68 := fun blk off cap zs w h1 h2 h3 => Go.Proofs.Any.slices_Sort_int sortLays blk off cap zs w h1 h2 h3
theorem kp_known : KnownOk Tryz.prog KP := orK_ok root_known (sortKn_ok sort_says (go_of e68))
theorem kx_none {f : Nat} (args : List AVal) (H : AHeap) (h1 : f ≠ 286) (h2 : f ≠ 35) : KX f args H = none := by simp [-getElem?_pos, orX, cloneX, addX, h1, h2]
theorem yes_none {f : Nat} (args : List AVal) (H : AHeap) (h : f ≠ 6) : yes 6 f args H = none := by
  cases args with
  | cons a l => rfl
  | nil =>
    show Bool.rec (motive := fun _ => Res) none (some (abool true, H)) (Nat.beq f 6) = none
    rw [show Nat.beq f 6 = false from Bool.eq_false_iff.2 fun e => h (Nat.eq_of_beq_eq_true e)]
theorem kp_none {f : Nat} (args : List AVal) (H : AHeap) (h1 : f ≠ 6) (h2 : f ≠ 68) : KP f args H = none := by
  unfold KP orX
  rw [yes_none args H h1, sortKn_none args H h2]
theorem fnp {f : Nat} {a : AFunc} (h : envOf tabP f = some a) (h1 : f ≠ 286) (h2 : f ≠ 35) (h3 : f ≠ 6) (h4 : f ≠ 68) : FnX KX KP (envOf tabP) f a := ⟨h, fun args H => kx_none args H h1 h2, fun args H => kp_none args H h3 h4⟩
theorem awake_says (n : Nat) (H : AHeap) : callX KX KP (envOf tabP) (n + 1) (.func (.func 6) []) [] H = some (abool true, H) :=
  knX n (kx_none [] H (by decide) (by decide)) rfl
theorem sort_is (n : Nat) (args : List AVal) (H H' : AHeap) (h : SortR 68 68 args H H') : callX KX KP (envOf tabP) (n + 1) (.func (.func 68) []) args H = some (.tuple [], H') :=
  knX n (kx_none args H (by decide) (by decide)) (by unfold KP orX; rw [yes_none args H (by decide), sortKn_says h])
theorem formE : FormE KX KP (envOf tabP) where
  clone := fnp (by kernel_rfl) (by decide) (by decide) (by decide) (by decide)
  clip := fnp (by kernel_rfl) (by decide) (by decide) (by decide) (by decide)
  compact := fnp (by kernel_rfl) (by decide) (by decide) (by decide) (by decide)
  rising := fnp (by kernel_rfl) (by decide) (by decide) (by decide) (by decide)
  form := fnp (by kernel_rfl) (by decide) (by decide) (by decide) (by decide)
  sort := sort_is
theorem premE : PremE KX KP (envOf tabP) where
  form := formE
  count := fnp (by kernel_rfl) (by decide) (by decide) (by decide) (by decide)
  prem := fnp (by kernel_rfl) (by decide) (by decide) (by decide) (by decide)
  rForm := fnp (by kernel_rfl) (by decide) (by decide) (by decide) (by decide)
  has := fnp (by kernel_rfl) (by decide) (by decide) (by decide) (by decide)
  refPrem := fnp (by kernel_rfl) (by decide) (by decide) (by decide) (by decide)
  own := fnp (by kernel_rfl) (by decide) (by decide) (by decide) (by decide)
  same := fnp (by kernel_rfl) (by decide) (by decide) (by decide) (by decide)
  sameInts := fnp (by kernel_rfl) (by decide) (by decide) (by decide) (by decide)
  sameRows := fnp (by kernel_rfl) (by decide) (by decide) (by decide) (by decide)
  law := fnp (by kernel_rfl) (by decide) (by decide) (by decide) (by decide)
  awake := awake_says
theorem calls_leftX {P : Program} {kx kn : Known} {env : Nat → Option AFunc} (hx : ExtOk P kx) (hk : KnownOk P kn) (henv : EnvOk P env) (hm : P.follows .mixedOrders = true) {n f : Nat} (hgo : GoFn P f) {args : List AVal} {cargs : Array Value} {v : Value} {w : World} {ρ : Ren} {H H' : AHeap}
    (h : callX kx kn env n (.func (.func f) []) args H = some (.raw v, H')) (ho : Opened w ρ H) (hgl : GlHeld w) (hargs : VRels ρ args cargs.toList) : Calls P f cargs w fun e w' => e = .returned v ∧ GrownW w w' ∧ ∀ c, c < w.heap.size → w'.heap[c]? = w.heap[c]? := by
  have hc := (callX_ok hx hk henv hm n _ _ _ _ _ h).calls hgo
  have := hc (reads w) _ w cargs.toList (ho.hrel hgl) (by simpa [-getElem?_pos] using hargs)
  rw [callsIn_wide] at this
  refine this.mono fun e w' ⟨v', cv, H1, ρ', e1, ⟨e2, e3⟩, e4, e5, _⟩ => ?_
  subst e2
  cases e4
  exact ⟨e1, e5.grownR, fun c hc => e5.frame c hc fun x => x⟩
theorem premise_true (b c m d e : Int) (v1 : Value) (d1 : DataW X) (W : World) (hgl : GlHeld W) (hop : ∃ ρ H v, Opened W ρ H ∧ VRel ρ v v1 ∧ ∃ n, shows Tryz.prog H n 27 [v] d1) (hw : ∀ w ∈ d1.weights Tryz.prog 27, w ≤ reachBytes) :
    Calls Tryz.prog 4 #[.agg #[.int .i64 b, .int .i64 c, .int .i64 m, .int .i64 d, .int .i64 e], v1] W fun e w' => e = .returned (.bool true) ∧ GrownW W w' ∧ ∀ c, c < W.heap.size → w'.heap[c]? = W.heap[c]? := by
  obtain ⟨ρ, H, v, ho, hvr, n, hs⟩ := hop
  have hd : ∀ A o, H.get A = some o → A < H.next := fun A o hA => by
    rcases Nat.lt_or_ge A H.next with h | h
    · exact h
    · rw [ho.wf A h] at hA; cases hA
  obtain ⟨ps, hps⟩ := shows_progs hs hw hd
  obtain ⟨H', hrun⟩ := c4 premE 100000000000001 (b := b) (c := c) (m := m) (d := d) (e := e) hps (by omega)
  exact calls_leftX ext_ok kp_known (envOf_ok tabPIs) mixed (go_of ep4) hrun ho hgl (.cons (VRel.agg (.cons (.raw _) (.cons (.raw _) (.cons (.raw _) (.cons (.raw _) (.cons (.raw _) .nil)))))) (.cons hvr .nil))
end Go.Proofs.YtipmhhogebnpkaaGreatDoor
