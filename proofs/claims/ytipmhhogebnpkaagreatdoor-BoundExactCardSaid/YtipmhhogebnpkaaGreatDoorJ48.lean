/- The abstract machine: a walked run over plain arguments is a call, from any world. -/
import Derived.Test.YtipmhhogebnpkaaGreatDoorJ25
import Derived.Test.YtipmhhogebnpkaaGreatDoorJ16
import Derived.Test.YtipmhhogebnpkaaGreatDoorJ28
import Derived.Test.YtipmhhogebnpkaaGreatDoorJ47
namespace Go.Vm
open Go

set_option linter.unusedVariables false

/-- **A WALK OVER PLAIN ARGUMENTS IS A CALL** (functions without a body answered from outside). -/
theorem calls_of_callX {P : Program} {kx kn : Known} {env : Nat → Option AFunc} (hx : ExtOk P kx) (hk : KnownOk P kn) (henv : EnvOk P env) (hm : P.follows .mixedOrders = true) {n f : Nat} (hgo : GoFn P f) {cs : List Value} {v : Value} {H1 : AHeap}
    (h : callX kx kn env n (.func (.func f) []) (cs.map .raw) .empty = some (.raw v, H1)) (w : World) (hgl : GlHeld w) : Calls P f cs.toArray w fun e w' => e = .returned v ∧ GrownW w w' := by
  have hc := (callX_ok hx hk henv hm n _ _ _ _ _ h).calls hgo
  have := hc (bare w) _ w cs.toArray.toList (HRel.bare P w hgl) (by rw [List.append_nil, List.toList_toArray]; exact VRels.map_raw cs)
  rw [callsIn_wide] at this
  refine this.mono fun e w' ⟨v', cv, H', ρ', e1, ⟨e2, e3⟩, e4, e5, _⟩ => ?_
  subst e2
  cases e4
  exact ⟨e1, e5.grown⟩

end Go.Vm
namespace Go.Proofs.YtipmhhogebnpkaaGreatDoor
open Go Go.Vm
set_option linter.unusedVariables false
set_option linter.unusedSimpArgs false

variable {kn : Known} {env : Nat → Option AFunc}

abbrev KX : Known := orX (cloneX 286) (addX 35)

theorem kx_none {f : Nat} (args : List AVal) (H : AHeap) (h1 : f ≠ 286) (h2 : f ≠ 35) : KX f args H = none := by simp [-getElem?_pos, orX, cloneX, addX, h1, h2]
theorem yes_none {f : Nat} (args : List AVal) (H : AHeap) (h : f ≠ 6) : yes 6 f args H = none := by
  cases args with
  | cons a l => rfl
  | nil =>
    show Bool.rec (motive := fun _ => Res) none (some (abool true, H)) (Nat.beq f 6) = none
    rw [show Nat.beq f 6 = false from Bool.eq_false_iff.2 fun e => h (Nat.eq_of_beq_eq_true e)]

theorem fnx {f : Nat} {a : AFunc} (h : envOf tab f = some a) (h1 : f ≠ 286) (h2 : f ≠ 35) (h3 : f ≠ 6) : FnX KX (yes 6) (envOf tab) f a := ⟨h, fun args H => kx_none args H h1 h2, fun args H => yes_none args H h3⟩

theorem add_says (m x y : Nat) (H : AHeap) (hx : x < 18446744073709551616) (hy : y < 18446744073709551616) : callX KX (yes 6) (envOf tab) (m + 1) (.func (.func 35) []) [u64 x, u64 y, u64 0] H = some (.tuple [u64 ((x + y) % 18446744073709551616), u64 ((x + y) / 18446744073709551616)], H) := by
  refine exX m ?_
  have e1 : cloneX 286 35 [u64 x, u64 y, u64 0] H = none := by simp [-getElem?_pos, cloneX]
  have e2 : (ile 0 (x : Int) && ile 0 (y : Int) && (ieq ((0 : Nat) : Int) 0 || ieq ((0 : Nat) : Int) 1)) = true := by simp [-getElem?_pos, ile_eq, ieq_eq]
  simp only [orX, e1, addX, if_true, e2]
  have e3 : ((x : Int) + (y : Int) + ((0 : Nat) : Int)) % 18446744073709551616 = (((x + y) % 18446744073709551616 : Nat) : Int) := by omega
  have e4 : ((x : Int) + (y : Int) + ((0 : Nat) : Int)) / 18446744073709551616 = (((x + y) / 18446744073709551616 : Nat) : Int) := by omega
  rw [e3, e4]

theorem awake_says (n : Nat) (H : AHeap) : callX KX (yes 6) (envOf tab) (n + 1) (.func (.func 6) []) [] H = some (abool true, H) :=
  knX n (kx_none [] H (by decide) (by decide)) rfl

theorem lawE : LawE KX (yes 6) (envOf tab) where
  ref := ⟨fnx (by kernel_rfl) (by decide) (by decide) (by decide), fnx (by kernel_rfl) (by decide) (by decide) (by decide), fnx (by kernel_rfl) (by decide) (by decide) (by decide), fnx (by kernel_rfl) (by decide) (by decide) (by decide), fnx (by kernel_rfl) (by decide) (by decide) (by decide), fnx (by kernel_rfl) (by decide) (by decide) (by decide), fnx (by kernel_rfl) (by decide) (by decide) (by decide)⟩
  bound := fnx (by kernel_rfl) (by decide) (by decide) (by decide)
  product := fnx (by kernel_rfl) (by decide) (by decide) (by decide)
  sum := fnx (by kernel_rfl) (by decide) (by decide) (by decide)
  mul := fnx (by kernel_rfl) (by decide) (by decide) (by decide)
  add := add_says
  awake := awake_says

theorem exact_calls {c k r l : Int} (hc : I64 c) (hk : I64 k) (hr : I64 r) (hl : I64 l) (w : World) (hgl : GlHeld w) : Calls Tryz.prog 3 #[.int .i64 c, .int .i64 k, .int .i64 r, .int .i64 l] w fun e w' => e = .returned (.bool true) ∧ GrownW w w' := by
  obtain ⟨H', h⟩ := c3 lawE 10000001 (by omega) (fnx (by kernel_rfl) (by decide) (by decide) (by decide)) hc hk hr hl .empty
  exact calls_of_callX ext_ok root_known (envOf_ok tabIs) mixed (go_of e3) (cs := [.int .i64 c, .int .i64 k, .int .i64 r, .int .i64 l]) h w hgl

theorem i64_of {x : Int} (h : (Lit.int .i64 x).wf = true) : I64 x := by
  simp [-getElem?_pos, Lit.wf, IntKind.min, IntKind.max, IntKind.bits, IntKind.signed] at h; omega

end Go.Proofs.YtipmhhogebnpkaaGreatDoor
