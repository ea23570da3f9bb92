/- The abstract machine: calls of functions without a body, for which the model stands in. -/
import Derived.Test.YtipmhhogebnpkaaGreatDoorP14
import Derived.Laws.Externs
namespace Go.Vm
open Go
set_option linter.unusedVariables false
set_option linter.unusedSimpArgs false
variable {P : Program} {B : Base} {ρ ρ' : Ren} {H H' : AHeap} {w w' : World}
def ExtOk (P : Program) (kx : Known) : Prop := ∀ f args H v H', kx f args H = some (v, H') → (ACallV P (.func (.func f) []) args H fun v' h' => v' = v ∧ h' = H') ∧ ∀ L, args ≠ [.yield L]
def extOr (kx : Known) (or : Oracle) : Oracle := fun fv args H => match fv with
  | .func (.func f) [] => match kx f args H with
    | some r => some r
    | none => or fv args H
  | _ => or fv args H
theorem extOr_ok {kx : Known} {or : Oracle} (hk : ExtOk P kx) (hor : OracleOk P or) : OracleOk P (extOr kx or) := fun fv args H v H' h => by
  unfold extOr at h
  split at h
  · split at h
    · rename_i r hr
      cases h
      exact (hk _ _ _ _ _ hr).1
    · exact hor _ _ _ _ _ h
  · exact hor _ _ _ _ _ h
theorem extOr_y {kx : Known} {or : Oracle} (hk : ExtOk P kx) (hgo : OracleGoY P or) : OracleGoY P (extOr kx or) := fun g caps L H x h => by
  unfold extOr at h
  split at h
  · split at h
    · rename_i r hr
      obtain ⟨v, H'⟩ := r
      exact absurd rfl ((hk _ _ _ _ _ hr).2 L)
    · exact hgo _ _ _ _ _ h
  · exact hgo _ _ _ _ _ h
theorem knOr_y {kn : Known} {or : Oracle} (hk : KnownOk P kn) (hgo : OracleGoY P or) : OracleGoY P (knOr kn or) := fun g caps L H x h => by
  unfold knOr at h
  simp only at h
  split at h
  · rename_i r hr
    obtain ⟨v, H'⟩ := r
    exact (hk _ _ _ _ _ hr).1
  · exact hgo _ _ _ _ _ h
def callX (kx kn : Known) (env : Nat → Option AFunc) : Nat → Oracle
  | 0 => fun _ _ _ => none
  | n + 1 => extOr kx (knOr kn (stepOr env n (callX kx kn env n)))
theorem callX_y {kx kn : Known} {env : Nat → Option AFunc} (hx : ExtOk P kx) (hk : KnownOk P kn) (henv : EnvOk P env) : ∀ n, OracleGoY P (callX kx kn env n)
  | 0 => fun _ _ _ _ _ h => by cases h
  | n + 1 => extOr_y hx (knOr_y hk (OracleGo.y (stepOr_go henv n _)))
theorem callX_ok {kx kn : Known} {env : Nat → Option AFunc} (hx : ExtOk P kx) (hk : KnownOk P kn) (henv : EnvOk P env) (hm : P.follows .mixedOrders = true) : ∀ n, OracleOk P (callX kx kn env n)
  | 0 => fun fv args H v H' h => by cases h
  | n + 1 => extOr_ok hx (knOr_ok hk (stepOr_ok henv hm n (callX_ok hx hk henv hm n) (callX_y hx hk henv n)))
noncomputable def fCallX (kx kn : Known) (env : Nat → Option AFunc) (n : Nat) : Oracle :=
  Nat.rec (motive := fun _ => Oracle) (fun _ _ _ => none) (fun n ih fv args H => match fv with
    | .func (.func f) caps => match caps with
      | [] => match kx f args H with
        | some r => some r
        | none => match kn f args H with
          | some r => some r
          | none => fCallF env n ih f args H
      | c :: cs => match kn f (lapp args (c :: cs)) H with
        | some r => some r
        | none => fCallF env n ih f (lapp args (c :: cs)) H
    | .bound f first => match kn f (lapp first args) H with
      | some r => some r
      | none => fCallF env n ih f (lapp first args) H
    | .yield L => fCallY n ih L args H
    | _ => none) n
theorem fCallX_eq (kx kn : Known) (env : Nat → Option AFunc) : ∀ (n : Nat), fCallX kx kn env n = callX kx kn env n
  | 0 => rfl
  | n + 1 => by
    funext fv args H
    show (match fv with
      | .func (.func f) caps => match caps with
        | [] => match kx f args H with
          | some r => some r
          | none => match kn f args H with
            | some r => some r
            | none => fCallF env n (fCallX kx kn env n) f args H
        | c :: cs => match kn f (lapp args (c :: cs)) H with
          | some r => some r
          | none => fCallF env n (fCallX kx kn env n) f (lapp args (c :: cs)) H
      | .bound f first => match kn f (lapp first args) H with
        | some r => some r
        | none => fCallF env n (fCallX kx kn env n) f (lapp first args) H
      | .yield L => fCallY n (fCallX kx kn env n) L args H
      | _ => none) = _
    rw [fCallX_eq kx kn env n]
    simp only [callX, extOr, knOr, stepOr, lapp_eq, fCallF_eq, fCallY_eq]
    cases fv with
    | func fn cs =>
      cases fn with
      | func f =>
        cases cs with
        | nil => simp only [List.append_nil] <;> (cases kx f args H <;> first | rfl | (cases kn f args H <;> rfl))
        | cons c cs => cases kn f (args ++ c :: cs) H <;> rfl
      | _ => rfl
    | bound f first => cases kn f (first ++ args) H <;> rfl
    | _ => rfl
noncomputable def saysX (kx kn : Known) (t : List (List (Option AFunc))) (n f : Nat) : Bool :=
  match fCallX kx kn (envOf t) n (.func (.func f) []) [] .empty with
  | some (.raw (.bool b), _) => b
  | _ => false
theorem saysX_ok {kx kn : Known} {t : List (List (Option AFunc))} {n f : Nat} (hx : ExtOk P kx) (hk : KnownOk P kn) (ht : TabIs P 0 t) (hm : P.follows .mixedOrders = true) (hgo : GoFn P f) (h : saysX kx kn t n f = true) :
    ∃ H1, ACalls P f [] .empty fun v' h' => v' = abool true ∧ h' = H1 := by
  unfold saysX at h
  rw [fCallX_eq] at h
  split at h
  · rename_i b H1 he
    subst h
    exact ⟨H1, (callX_ok hx hk (envOf_ok ht) hm n _ _ _ _ _ he).calls hgo⟩
  · cases h
theorem saysX_yes {kx kn : Known} {t : List (List (Option AFunc))} {n f : Nat} (hx : ExtOk P kx) (hk : KnownOk P kn) (ht : TabIs P 0 t) (hm : P.follows .mixedOrders = true) (hgo : GoFn P f) (h : saysX kx kn t n f = true) : KnownOk P (yes f) :=
  let ⟨_, h2⟩ := saysX_ok hx hk ht hm hgo h; yes_ok hgo h2
def cloneX (g : Nat) : Known := fun f args H => if f = g then (match args with
  | [.iface t (.map M)] => match H.get M with
    | some (.map es clock) => some (.iface t (.map H.next), H.push (.map es clock))
    | _ => none
  | _ => none) else none
theorem clone_run {r : Nat} {es : Array MapEntry} {clock : Nat} (t : TypeId) (hb : w.heap[r]? = some (.map es clock)) :
    (Extern.MapsClone.clone #[.iface t (.map (some r))]).run P w = .ok (.iface t (.map (some w.heap.size))) (w.alloc (.map es clock)) := by
  have e : Extern.MapsClone.clone #[.iface t (.map (some r))] = (getObj r >>= fun o => match o with
      | .map entries clock => (newObj (.map entries clock) >>= fun n => pure (.iface t (.map (some n))))
      | _ => stuck "maps.clone: a map expected") := rfl
  rw [e]
  rw [Sem.run_bind, run_getObj_at hb]
  simp only [Result.andThen_ok, Sem.run_bind]
  rfl
theorem cloneX_ok {g : Nat} {fn : Func} (hf : P.funcs[g]? = some fn) (hname : (fn.name == "runtime.NumGoroutine") = false) (hb : fn.body.isNone = true) (hn : Extern.findNext fn = none) (he : Extern.find fn = some Extern.MapsClone.clone) : ExtOk P (cloneX g) := fun f args H v H' h => by
  unfold cloneX at h
  split at h
  · rename_i hfg
    subst hfg
    split at h
    · rename_i t M
      split at h
      · rename_i es clock hg
        cases h
        refine ⟨?_, fun L e => by cases e⟩
        intro B ρ w cf cargs hH hcf hargs
        obtain ⟨vs, hvs, rfl⟩ := hcf.func_inv
        cases hvs
        cases hargs with
        | @cons _ _ c1 cs1 hx hr =>
        cases hr
        obtain ⟨cv, hcv, rfl⟩ := hx.iface_inv
        obtain ⟨l, hl, rfl⟩ := hcv.map_inv
        obtain ⟨_, l', ces, hl', hw, hes⟩ := hH.obj M _ hg
        rw [hl] at hl'; cases hl'
        have hn0 := hH.fresh H.next 0 (Nat.le_refl _)
        have hle := Ren.put_le (l := ⟨w.heap.size, 0, 0⟩) hn0
        have hp := hH.push (o := .map es clock) (co := .map ces clock) (s := 0) (n := 0) (fun l => by simp)
          ⟨fun v hv => by rw [Ren.put_ne _ _ (by omega)]; exact hH.fresh _ _ (Nat.le_refl _), _, ces, Ren.put_same _ _ _ _, World.alloc_heap_new _ _, hes.mono hle⟩
        refine ⟨_, w, .value (.iface t (.map (some w.heap.size))), w.alloc (.map ces clock), by simp [Deferred.ofValue]; rfl, ?_, _, _, _, _, rfl, ⟨rfl, rfl⟩, .iface (.map (Ren.put_same ρ H.next 0 _)), hp, hle⟩
        simp only [invoke]
        have := run_callFunc_extern hf hname hb hn he #[.iface t (.map (some l.c))] w
        rw [show (#[Value.iface t (.map (some l.c))] ++ ([] : List Value).toArray) = #[.iface t (.map (some l.c))] from rfl, this]
        rw [clone_run t hw]
        rfl
      · cases h
    · cases h
  · cases h
def addX (g : Nat) : Known := fun f args H => if f = g then (match args with
  | [.raw (.int .u64 a), .raw (.int .u64 b), .raw (.int .u64 c)] => if (ile 0 a && ile 0 b && (ieq c 0 || ieq c 1)) = true then some (.tuple [.raw (.int .u64 ((a + b + c) % 18446744073709551616)), .raw (.int .u64 ((a + b + c) / 18446744073709551616))], H) else none
  | _ => none) else none
theorem addX_ok {g : Nat} {fn : Func} (hf : P.funcs[g]? = some fn) (hname : (fn.name == "runtime.NumGoroutine") = false) (hb : fn.body.isNone = true) (hn : Extern.findNext fn = none) (he : Extern.find fn = some add64Entry) : ExtOk P (addX g) := fun f args H v H' h => by
  unfold addX at h
  split at h
  · rename_i hfg
    subst hfg
    split at h
    · rename_i a b c
      split at h
      · rename_i hc
        cases h
        simp only [ile_eq, ieq_eq, Bool.and_eq_true, Bool.or_eq_true, decide_eq_true_eq] at hc
        refine ⟨?_, fun L e => by cases e⟩
        intro B ρ w cf cargs hH hcf hargs
        obtain ⟨vs, hvs, rfl⟩ := hcf.func_inv
        cases hvs
        cases hargs with
        | @cons _ _ c1 cs1 hx hr =>
        cases hr with
        | @cons _ _ c2 cs2 hy hr =>
        cases hr with
        | @cons _ _ c3 cs3 hz hr =>
        cases hr
        cases hx.raw_inv; cases hy.raw_inv; cases hz.raw_inv
        refine ⟨_, w, .value (.tuple #[.int .u64 ((a + b + c) % 18446744073709551616), .int .u64 ((a + b + c) / 18446744073709551616)]), w, by simp [Deferred.ofValue]; rfl, ?_, _, _, _, _, rfl, ⟨rfl, rfl⟩, VRel.tuple (.cons (.raw _) (.cons (.raw _) .nil)), hH, Ren.le_refl _⟩
        simp only [invoke]
        have := run_callFunc_extern hf hname hb hn he #[.int .u64 a, .int .u64 b, .int .u64 c] w
        rw [show (#[Value.int .u64 a, .int .u64 b, .int .u64 c] ++ ([] : List Value).toArray) = #[.int .u64 a, .int .u64 b, .int .u64 c] from rfl, this]
        rw [run_add64 a b c hc.1.1 hc.1.2 (by omega) (by omega)]
        rfl
      · cases h
    · cases h
  · cases h
def orX (k1 k2 : Known) : Known := fun f args H => match k1 f args H with
  | some r => some r
  | none => k2 f args H
theorem orX_ok {k1 k2 : Known} (h1 : ExtOk P k1) (h2 : ExtOk P k2) : ExtOk P (orX k1 k2) := fun f args H v H' h => by
  unfold orX at h
  split at h
  · rename_i r hr; cases h; exact h1 _ _ _ _ _ hr
  · exact h2 _ _ _ _ _ h
theorem orK_ok {k1 k2 : Known} (h1 : KnownOk P k1) (h2 : KnownOk P k2) : KnownOk P (orX k1 k2) := fun f args H v H' h => by
  unfold orX at h
  split at h
  · rename_i r hr; cases h; exact h1 _ _ _ _ _ hr
  · exact h2 _ _ _ _ _ h
end Go.Vm
