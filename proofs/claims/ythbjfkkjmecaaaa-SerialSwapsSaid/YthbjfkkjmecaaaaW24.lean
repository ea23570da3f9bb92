/- The abstract machine, part 32: rules of walks. -/
import Derived.Test.YthbjfkkjmecaaaaW22
import Derived.Test.YthbjfkkjmecaaaaW23
namespace Go.Vm
open Go

set_option linter.unusedVariables false
set_option linter.unusedSimpArgs false

abbrev vi (n : Int) : AVal := .raw (.int .i64 n)
abbrev vu (n : Int) : AVal := .raw (.int .u64 n)
abbrev v8 (n : Int) : AVal := .raw (.int .u8 n)
abbrev vp (A : Nat) : AVal := .ptr A 0 0

theorem wrapU {n : Int} (h0 : 0 ≤ n) (h1 : n < 18446744073709551616) : wrapF .u64 n = n := Int.emod_eq_of_lt h0 h1
theorem wrapI {n : Int} (h0 : -9223372036854775808 ≤ n) (h1 : n < 9223372036854775808) : wrapF .i64 n = n := by
  simp only [wrapF, ile_eq, decide_eq_true_eq]; omega

/-! ### Parts of code -/

def fstC : ACode → ACode | .seq a _ => a | .cond _ a _ => a | .block _ a => a | .loop a => a | c => c
def sndC : ACode → ACode | .seq _ b => b | .cond _ _ b => b | c => c
def rfA : ACode → ACode | .rangeFunc _ _ a _ => a | c => c
def rfB : ACode → ACode | .rangeFunc _ _ _ b => b | c => c

/-- How a call ends. -/
def endF (res : List ARes) : Option (Exit × ASt) → Option (AVal × AHeap)
  | some (.normal, s) => (aLeave s.marks s.H).bind fun H' => (aRess s.tm H' res).map fun vs => (tup vs, H')
  | some (.ret, s) => (aLeave s.marks s.H).bind fun H' => (aRess s.tm H' res).map fun vs => (tup vs, H')
  | _ => none

def initTm (af : AFunc) (args : List AVal) : List AVal := args ++ List.replicate (af.ntmps - args.length) aundef

theorem initTm_len {af : AFunc} {args : List AVal} (h : args.length ≤ af.ntmps) : (initTm af args).length = af.ntmps := by simp [initTm]; omega
theorem initTm_at {af : AFunc} {args : List AVal} {k : Nat} {v : AVal} (h : args[k]? = some v) : (initTm af args)[k]? = some v := by
  unfold initTm
  rw [List.getElem?_append_left (List.getElem?_eq_some_iff.1 h).1]; exact h

/-- A call of a function of the program, opened. -/
theorem opnM {kn : Known} {env : Nat → Option AFunc} {f : Nat} {af : AFunc} (h : env f = some af) (n : Nat) (caps args : List AVal) (H : AHeap) (hk : kn f (args ++ caps) H = none) : callM kn env (n + 1) (.func (.func f) caps) args H =
    endF af.res (aCode (callM kn env n) true n af.code { tm := initTm af (args ++ caps), H := H, marks := [] }) := by
  simp only [callM, knOr, hk, stepOr, callF, h, Option.bind_some, initTm]
  unfold endF
  split <;> rename_i hx <;> simp only [hx]

/-- A call that is known. -/
theorem knM {kn : Known} {env : Nat → Option AFunc} {f : Nat} (n : Nat) {caps args : List AVal} {H : AHeap} {r : AVal × AHeap} (hk : kn f (args ++ caps) H = some r) : callM kn env (n + 1) (.func (.func f) caps) args H = some r := by
  simp only [callM, knOr, hk]

theorem endN {res : List ARes} {x : Option (Exit × ASt)} {es : Exit × ASt} {y : Option (AVal × AHeap)} (h1 : x = some es) (h2 : endF res (some es) = y) : endF res x = y := by rw [h1, h2]

theorem seqN {or : Oracle} {top : Bool} {n : Nat} {a b : ACode} {st s : ASt} {x : Option (Exit × ASt)} (h1 : aCode or top n a st = some (.normal, s)) (h2 : aCode or top n b s = x) : aCode or top n (.seq a b) st = x := by
  simp only [aCode, h1, h2]
theorem seqX {or : Oracle} {top : Bool} {n : Nat} {a b : ACode} {st s : ASt} {e : Exit} (h1 : aCode or top n a st = some (e, s)) (he : e ≠ .normal) : aCode or top n (.seq a b) st = some (e, s) := by
  simp only [aCode, h1]
  cases e <;> first | rfl | exact absurd rfl he
theorem regN {or : Oracle} {top : Bool} {n : Nat} {ops : List AOper} {st s : ASt} (h1 : aSteps or ops st = some s) : aCode or top n (.region ops) st = some (.normal, s) := by
  simp only [aCode, h1, Option.map_some]
theorem stepN {or : Oracle} {o : AOper} {os : List AOper} {st s : ASt} {x : Option ASt} (h1 : aStep or st o = some s) (h2 : aSteps or os s = x) : aSteps or (o :: os) st = x := by
  simp only [aSteps, h1, Option.bind_some, h2]
theorem nilN {or : Oracle} {st : ASt} : aSteps or [] st = some st := rfl
theorem skipN {or : Oracle} {top : Bool} {n : Nat} {st : ASt} : aCode or top n .skip st = some (.normal, st) := rfl
theorem retN {or : Oracle} {top : Bool} {n : Nat} {st : ASt} : aCode or top n .ret st = some (.ret, st) := rfl
theorem exitN {or : Oracle} {top : Bool} {n id : Nat} {st : ASt} : aCode or top n (.exit id) st = some (.exit id, st) := rfl
theorem condT {or : Oracle} {top : Bool} {n t : Nat} {a b : ACode} {st : ASt} {x : Option (Exit × ASt)} (h : st.tm[t]? = some (abool true)) (h2 : aCode or top n a st = x) : aCode or top n (.cond (.t t) a b) st = x := by
  simp only [aCode, ev, List.getD_eq_getElem?_getD, h, Option.getD_some, if_true, h2]
theorem condF {or : Oracle} {top : Bool} {n t : Nat} {a b : ACode} {st : ASt} {x : Option (Exit × ASt)} (h : st.tm[t]? = some (abool false)) (h2 : aCode or top n b st = x) : aCode or top n (.cond (.t t) a b) st = x := by
  simp only [aCode, ev, List.getD_eq_getElem?_getD, h, Option.getD_some, Bool.false_eq_true, if_false, h2]
theorem blkN {or : Oracle} {top : Bool} {n id : Nat} {b : ACode} {st s : ASt} (h : aCode or top n b st = some (.normal, s)) : aCode or top n (.block id b) st = some (.normal, s) := by
  simp only [aCode, h]
theorem blkE {or : Oracle} {top : Bool} {n id : Nat} {b : ACode} {st s : ASt} (h : aCode or top n b st = some (.exit id, s)) : aCode or top n (.block id b) st = some (.normal, s) := by
  simp only [aCode, h, if_true]
theorem blkR {or : Oracle} {top : Bool} {n id : Nat} {b : ACode} {st s : ASt} (h : aCode or top n b st = some (.ret, s)) : aCode or top n (.block id b) st = some (.ret, s) := by
  simp only [aCode, h]
theorem blkO {or : Oracle} {top : Bool} {n id k : Nat} {b : ACode} {st s : ASt} (h : aCode or top n b st = some (.exit k, s)) (hk : k ≠ id) : aCode or top n (.block id b) st = some (.exit k, s) := by
  simp only [aCode, h, if_neg hk]
theorem loopC {or : Oracle} {top : Bool} {n : Nat} {b : ACode} {st : ASt} {x : Option (Exit × ASt)} (h : aLoop (aCode or top n b) n st = x) : aCode or top n (.loop b) st = x := by
  simp only [aCode, h]

/-! ### Drawn regions -/

theorem drawN {or : Oracle} {top : Bool} {n : Nat} {ops : List AOper} {ps : List PStep} {start : List Nat} {st s : ASt} {V : List Told} {Hs : List (List Nat × AHeap)} (h1 : drawGo or ops ps st = some (s, V, Hs)) (h2 : allAsked V ((start, st.H) :: Hs) = true) : aCode or top n (.draw ops ps start) st = some (.normal, s) := by
  simp only [aCode, aDraw, h1, Option.bind_some, h2, if_true, Option.map_some]
theorem drawMob {or : Oracle} {aos : List AOper} {ps : List PStep} {i : Nat} {o : AOper} {st s : ASt} {r : AVal × AHeap} {V : List Told} {Hs : List (List Nat × AHeap)} (ho : aos[i]? = some o) (h1 : fltVal o st = some r) (h2 : drawGo or aos ps ({ st with H := r.2 }.put o.dst r.1) = some (s, V, Hs)) :
    drawGo or aos (.mob i :: ps) st = some (s, (if o.op.reads then { i := i, o := o, v := r.1, tm := st.tm } :: V else V), Hs) := by
  simp only [drawGo, ho, Option.bind_some, h1, h2, Option.map_some]
theorem drawImm {or : Oracle} {aos : List AOper} {ps : List PStep} {i : Nat} {obl : List Nat} {o : AOper} {st s st' : ASt} {V : List Told} {Hs : List (List Nat × AHeap)} (ho : aos[i]? = some o) (h1 : aStep or st o = some st') (hn : st.H.next ≤ st'.H.next) (h2 : drawGo or aos ps st' = some (s, V, Hs)) :
    drawGo or aos (.imm i obl :: ps) st = some (s, V, (obl, st'.H) :: Hs) := by
  have : Nat.ble st.H.next st'.H.next = true := by rw [Nat.ble_eq]; exact hn
  simp only [drawGo, ho, Option.bind_some, h1, this, if_true, h2, Option.map_some]
theorem drawNil {or : Oracle} {aos : List AOper} {st : ASt} : drawGo or aos [] st = some (st, [], []) := rfl

/-! ### A run over inputs that are only read -/

/-- **A RUN OF THE EVALUATOR IS A CALL**: over arguments that are only read. -/
theorem calls_of_runM {P : Program} {kn : Known} {t : List (List (Option AFunc))} (hk : KnownOk P kn) (ht : TabIs P 0 t) (hm : P.follows .mixedOrders = true) {n f : Nat} {args : List AVal} {cargs : Array Value} {v : Value} {w : World} {ρ : Ren} {H H' : AHeap}
    (h : callM kn (envOf t) n (.func (.func f) []) args H = some (.raw v, H')) (ho : Opened w ρ H) (hargs : VRels ρ args cargs.toList) : Calls P f cargs w fun e w' => e = .returned v ∧ Go.RowKit.Grown w w' := by
  have hgo := callM_go hk (envOf_ok ht) n _ _ _ _ _ h
  have hc := (callM_ok hk (envOf_ok ht) hm n _ _ _ _ _ h).calls hgo
  have := hc (reads w) _ w cargs.toList ho.hrel (by simpa using hargs)
  rw [callsIn_wide] at this
  refine this.mono fun e w' ⟨v', cv, H1, ρ', e1, ⟨e2, e3⟩, e4, e5, _⟩ => ?_
  subst e2
  cases e4
  exact ⟨e1, e5.grownR⟩

end Go.Vm
