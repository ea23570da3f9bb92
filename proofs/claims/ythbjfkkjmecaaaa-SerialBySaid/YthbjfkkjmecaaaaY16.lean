/- The abstract machine, part 32: rules of walks. -/
import Derived.Test.YthbjfkkjmecaaaaY14
import Derived.Test.YthbjfkkjmecaaaaY15
set_option linter.unusedVariables false
set_option linter.unusedSimpArgs false
namespace Go.Vm
open Go
section
abbrev vi (n : Int) : AVal := .raw (.int .i64 n)
abbrev vu (n : Int) : AVal := .raw (.int .u64 n)
abbrev v8 (n : Int) : AVal := .raw (.int .u8 n)
abbrev vp (A : Nat) : AVal := .ptr A 0 0
theorem yuu {n : Int} (h0 : 0 ≤ n) (h1 : n < 18446744073709551616) : zq3 .u64 n = n := Int.emod_eq_of_lt h0 h1
theorem yjm {n : Int} (h0 : -9223372036854775808 ≤ n) (h1 : n < 9223372036854775808) : zq3 .i64 n = n := by
 simp only [zq3, ile_eq, decide_eq_true_eq]; omega
def yxl : zym → zym | .seq a _ => a | .cond _ a _ => a | .block _ a => a | .loop a => a | c => c
def zj9 : zym → zym | .seq _ b => b | .cond _ _ b => b | c => c
def yk6 (res : List ARes) : Option (Exit × ASt) → Option (AVal × zz6)
 | some (.normal, s) => (zvq s.marks s.H).bind fun H' => (aRess s.tm H' res).map fun vs => (tup vs, H')
 | some (.ret, s) => (zvq s.marks s.H).bind fun H' => (aRess s.tm H' res).map fun vs => (tup vs, H')
 | _ => none
def ztm (af : zzq) (args : List AVal) : List AVal := args ++ List.replicate (af.ntmps - args.length) zzc
theorem zpr {af : zzq} {args : List AVal} (h : args.length ≤ af.ntmps) : (ztm af args).length = af.ntmps := by simp [ztm]; omega
theorem zhs {af : zzq} {args : List AVal} {k : Nat} {v : AVal} (h : args[k]? = some v) : (ztm af args)[k]? = some v := by
 unfold ztm
 rw [List.getElem?_append_left (List.getElem?_eq_some_iff.1 h).1]; exact h
theorem yu4 {kn : zy0} {env : Nat → Option zzq} {f : Nat} {af : zzq} (h : env f = some af) (n : Nat) (caps args : List AVal) (H : zz6) (hk : kn f (args ++ caps) H = none) : zzp kn env (n + 1) (.func (.func f) caps) args H =
  yk6 af.res (zys (zzp kn env n) true n af.code { tm := ztm af (args ++ caps), H := H, marks := [] }) := by
 simp only [zzp, ywd, hk, zrl, zdc, h, Option.bind_some, ztm]
 unfold yk6
 split <;> rename_i hx <;> simp only [hx]
theorem knM {kn : zy0} {env : Nat → Option zzq} {f : Nat} (n : Nat) {caps args : List AVal} {H : zz6} {r : AVal × zz6} (hk : kn f (args ++ caps) H = some r) : zzp kn env (n + 1) (.func (.func f) caps) args H = some r := by
 simp only [zzp, ywd, hk]
theorem seqN {or : zzn} {top : Bool} {n : Nat} {a b : zym} {st s : ASt} {x : Option (Exit × ASt)} (h1 : zys or top n a st = some (.normal, s)) (h2 : zys or top n b s = x) : zys or top n (.seq a b) st = x := by
 simp only [zys, h1, h2]
theorem seqX {or : zzn} {top : Bool} {n : Nat} {a b : zym} {st s : ASt} {e : Exit} (h1 : zys or top n a st = some (e, s)) (he : e ≠ .normal) : zys or top n (.seq a b) st = some (e, s) := by
 simp only [zys, h1]
 cases e <;> first | rfl | exact absurd rfl he
theorem regN {or : zzn} {top : Bool} {n : Nat} {ops : List zzu} {st s : ASt} (h1 : zqq or ops st = some s) : zys or top n (.region ops) st = some (.normal, s) := by
 simp only [zys, h1, Option.map_some]
theorem yuk {or : zzn} {top : Bool} {n : Nat} {b : zym} {st : ASt} {x : Option (Exit × ASt)} (h : zp8 (zys or top n b) n st = x) : zys or top n (.loop b) st = x := by
 simp only [zys, h]
theorem yuq {or : zzn} {top : Bool} {n : Nat} {ops : List zzu} {ps : List zxx} {start : List Nat} {st s : ASt} {V : List Told} {Hs : List (List Nat × zz6)} (h1 : zxu or ops ps st = some (s, V, Hs)) (h2 : zw7 V ((start, st.H) :: Hs) = true) : zys or top n (.draw ops ps start) st = some (.normal, s) := by
 simp only [zys, zmm, h1, Option.bind_some, h2, if_true, Option.map_some]
theorem yqu {or : zzn} {aos : List zzu} {ps : List zxx} {i : Nat} {o : zzu} {st s : ASt} {r : AVal × zz6} {V : List Told} {Hs : List (List Nat × zz6)} (ho : aos[i]? = some o) (h1 : zb6 o st = some r) (h2 : zxu or aos ps ({ st with H := r.2 }.put o.dst r.1) = some (s, V, Hs)) :
  zxu or aos (.mob i :: ps) st = some (s, (if o.op.reads then { i := i, o := o, v := r.1, tm := st.tm } :: V else V), Hs) := by
 simp only [zxu, ho, Option.bind_some, h1, h2, Option.map_some]
theorem yvw {or : zzn} {aos : List zzu} {ps : List zxx} {i : Nat} {obl : List Nat} {o : zzu} {st s st' : ASt} {V : List Told} {Hs : List (List Nat × zz6)} (ho : aos[i]? = some o) (h1 : zu4 or st o = some st') (hn : st.H.next ≤ st'.H.next) (h2 : zxu or aos ps st' = some (s, V, Hs)) :
  zxu or aos (.imm i obl :: ps) st = some (s, V, (obl, st'.H) :: Hs) := by
 have : Nat.ble st.H.next st'.H.next = true := by rw [Nat.ble_eq]; exact hn
 simp only [zxu, ho, Option.bind_some, h1, this, if_true, h2, Option.map_some]
end
section
abbrev KL := List (Nat × AVal)
abbrev KS := KL × zz6
def look : KL → Nat → Option AVal
 | [], _ => none
 | (k, v) :: r, j => if k = j then some v else look r j
def dropK : KL → Nat → KL
 | [], _ => []
 | (k, v) :: r, j => if k = j then dropK r j else (k, v) :: dropK r j
def putK (N : Nat) (l : KL) (d : Option Nat) (v : AVal) : KL :=
 match d with
 | none => l
 | some d => if d < N then (d, v) :: dropK l d else l
def pruneK (C : List Nat) : KL → KL
 | [] => []
 | (k, v) :: r => if k ∈ C then (k, v) :: pruneK C r else pruneK C r
structure Kn (N : Nat) (l : KL) (tm : List AVal) : Prop where
 len : tm.length = N
 get : ∀ k v, look l k = some v → tm[k]? = some v
theorem zry : ∀ (l : KL) (j k : Nat), look (dropK l j) k = if j = k then none else look l k
 | [], j, k => by simp [dropK, look]
 | (i, v) :: r, j, k => by
  unfold dropK
  by_cases h : i = j
  ·rw [if_pos h, zry r j k]
   by_cases e : j = k
   ·simp [e]
   ·simp [e, look, h]
  ·rw [if_neg h]
   simp only [look]
   rw [zry r j k]
   by_cases e : i = k
   ·simp [e]; intro e'; omega
   ·simp [e]
theorem zbd : ∀ (C : List Nat) (l : KL) (k : Nat) (v : AVal), look (pruneK C l) k = some v → look l k = some v
 | C, [], k, v, h => by simp [pruneK, look] at h
 | C, (i, u) :: r, k, v, h => by
  unfold pruneK at h
  simp only [look]
  split at h
  ·simp only [look] at h
   split at h
   ·rename_i e; rw [if_pos e]; exact h
   ·rename_i e; rw [if_neg e]; exact zbd C r k v h
  ·rename_i hc
   by_cases e : i = k
   ·exfalso
    subst e
    have : ∀ (r : KL), look (pruneK C r) i = none := fun r => by
     induction r with
     | nil => rfl
     | cons p r ih =>
      unfold pruneK
      split
      ·rename_i h1
       simp only [look]
       rw [if_neg (fun e => hc (by rw [← e]; exact h1))]; exact ih
      ·exact ih
    rw [this] at h; cases h
   ·rw [if_neg e]; exact zbd C r k v h
theorem Kn.prune {N : Nat} {l : KL} {tm : List AVal} (h : Kn N l tm) (C : List Nat) : Kn N (pruneK C l) tm := ⟨h.len, fun k v hv => h.get k v (zbd C l k v hv)⟩
theorem Kn.put {N : Nat} {l : KL} {tm : List AVal} (h : Kn N l tm) (d : Option Nat) (v : AVal) (H : zz6) (m : List Nat) : ∃ tm', ({ tm := tm, H := H, marks := m } : ASt).put d v = ⟨tm', H, m⟩ ∧ Kn N (putK N l d v) tm' := by
 cases d with
 | none => exact ⟨tm, rfl, h⟩
 | some d =>
  refine ⟨tm.set d v, rfl, by simp [h.len], fun k u hu => ?_⟩
  unfold putK at hu
  by_cases hd : d < N
  ·simp only [hd, if_true, look] at hu
   rw [List.getElem?_set]
   split at hu
   ·rename_i e; subst e
    cases hu
    simp [h.len, hd]
   ·rename_i e
    rw [if_neg e]
    rw [zry, if_neg e] at hu
    exact h.get k u hu
  ·simp only [hd, if_false] at hu
   rw [List.getElem?_set]
   have := h.get k u hu
   have hk := (List.getElem?_eq_some_iff.1 this).1
   have := h.len
   rw [if_neg (by omega)]; exact h.get k u hu
def SubK : KL → KL → Prop
 | [], _ => True
 | (k, v) :: r, l => look l k = some v ∧ SubK r l
theorem SubK.look : ∀ {a l : KL}, SubK a l → ∀ k v, Vm.look a k = some v → Vm.look l k = some v
 | [], _, _, k, v, h => by simp [Vm.look] at h
 | (i, u) :: r, l, ⟨h1, h2⟩, k, v, h => by
  simp only [Vm.look] at h
  split at h
  ·rename_i e; subst e; cases h; exact h1
  ·exact h2.look k v h
theorem SubK.kn {N : Nat} {a l : KL} {tm : List AVal} (h : SubK a l) (hk : Kn N l tm) : Kn N a tm := ⟨hk.len, fun k v hv => hk.get k v (h.look k v hv)⟩
def evK (l : KL) : AOpd → Option AVal
 | .t n => look l n
 | .c v => some v
def evsK (l : KL) : List AOpd → Option (List AVal)
 | [] => some []
 | x :: r => (evK l x).bind fun v => (evsK l r).bind fun vs => some (v :: vs)
def eoK (l : KL) : Option AOpd → Option (Option AOpd)
 | none => some none
 | some x => (evK l x).bind fun v => some (some (.c v))
def csK (l : KL) : List AOpd → Option (List AOpd)
 | [] => some []
 | x :: r => (evK l x).bind fun v => (csK l r).bind fun vs => some (.c v :: vs)
def psK (l : KL) : List (Nat × Nat × AOpd) → Option (List (Nat × Nat × AOpd))
 | [] => some []
 | (o, n, x) :: r => (evK l x).bind fun v => (psK l r).bind fun vs => some ((o, n, .c v) :: vs)
def subK (l : KL) : AOp → Option AOp
 | .move x => (evK l x).bind fun a => some (.move (.c a))
 | .pick c a b => (evK l c).bind fun c => (evK l a).bind fun a => (evK l b).bind fun b => some (.pick (.c c) (.c a) (.c b))
 | .alloc z => some (.alloc z)
 | .box x => (evK l x).bind fun a => some (.box (.c a))
 | .build z ps => (psK l ps).bind fun ps => some (.build z ps)
 | .buildSlice n e z ps => (psK l ps).bind fun ps => some (.buildSlice n e z ps)
 | .load g n x => (evK l x).bind fun a => some (.load g n (.c a))
 | .store n a x => (evK l a).bind fun a => (evK l x).bind fun x => some (.store n (.c a) (.c x))
 | .nilCheck x => (evK l x).bind fun a => some (.nilCheck (.c a))
 | .bin op x y => (evK l x).bind fun a => (evK l y).bind fun b => some (.bin op (.c a) (.c b))
 | .eqP g p x y => (evK l x).bind fun a => (evK l y).bind fun b => some (.eqP g p (.c a) (.c b))
 | .un op x => (evK l x).bind fun a => some (.un op (.c a))
 | .conv k x => (evK l x).bind fun a => some (.conv k (.c a))
 | .strOfBytes x => (evK l x).bind fun a => some (.strOfBytes (.c a))
 | .strId x => (evK l x).bind fun a => some (.strId (.c a))
 | .ptrAdd o x => (evK l x).bind fun a => some (.ptrAdd o (.c a))
 | .field g o n x => (evK l x).bind fun a => some (.field g o n (.c a))
 | .idxAddrA n e x i => (evK l x).bind fun a => (evK l i).bind fun b => some (.idxAddrA n e (.c a) (.c b))
 | .idxAddrS e x i => (evK l x).bind fun a => (evK l i).bind fun b => some (.idxAddrS e (.c a) (.c b))
 | .idxA n e g x i => (evK l x).bind fun a => (evK l i).bind fun b => some (.idxA n e g (.c a) (.c b))
 | .idxStr x i => (evK l x).bind fun a => (evK l i).bind fun b => some (.idxStr (.c a) (.c b))
 | .sliceA n e x lo hi mx => (evK l x).bind fun a => (eoK l lo).bind fun lo => (eoK l hi).bind fun hi => (eoK l mx).bind fun mx => some (.sliceA n e (.c a) lo hi mx)
 | .sliceS e x lo hi mx => (evK l x).bind fun a => (eoK l lo).bind fun lo => (eoK l hi).bind fun hi => (eoK l mx).bind fun mx => some (.sliceS e (.c a) lo hi mx)
 | .sliceStr x lo hi => (evK l x).bind fun a => (eoK l lo).bind fun lo => (eoK l hi).bind fun hi => some (.sliceStr (.c a) lo hi)
 | .makeSlice e b z x c => (evK l x).bind fun a => (evK l c).bind fun c => some (.makeSlice e b z (.c a) (.c c))
 | .makeMap => some .makeMap
 | .lookup z ok x k => (evK l x).bind fun a => (evK l k).bind fun k => some (.lookup z ok (.c a) (.c k))
 | .mapUpdate m k v => (evK l m).bind fun m => (evK l k).bind fun k => (evK l v).bind fun v => some (.mapUpdate (.c m) (.c k) (.c v))
 | .mapEntry z m k => (evK l m).bind fun m => (evK l k).bind fun k => some (.mapEntry z (.c m) (.c k))
 | .entryStore m s v => (evK l m).bind fun m => (evK l s).bind fun s => (evK l v).bind fun v => some (.entryStore (.c m) (.c s) (.c v))
 | .mapDelete m k => (evK l m).bind fun m => (evK l k).bind fun k => some (.mapDelete (.c m) (.c k))
 | .makeFunc fn cs => (csK l cs).bind fun cs => some (.makeFunc fn cs)
 | .makeIface t x => (evK l x).bind fun a => some (.makeIface t (.c a))
 | .append e b s x => (evK l s).bind fun s => (evK l x).bind fun x => some (.append e b (.c s) (.c x))
 | .copy e d s => (evK l d).bind fun d => (evK l s).bind fun s => some (.copy e (.c d) (.c s))
 | .len k x => (evK l x).bind fun a => some (.len k (.c a))
 | .lenC n x => some (.lenC n (.c zzc))
 | .minmax m xs => (csK l xs).bind fun xs => some (.minmax m xs)
 | .extract i x => (evK l x).bind fun a => some (.extract i (.c a))
 | .call _ _ => none
 | .bad => none
 | .iterNew x => (evK l x).bind fun a => some (.iterNew (.c a))
 | .iterNext x => (evK l x).bind fun a => some (.iterNext (.c a))
 | .iterEntry x => (evK l x).bind fun a => some (.iterEntry (.c a))
 | .clearM x => (evK l x).bind fun a => some (.clearM (.c a))
 | .clearS z x => (evK l x).bind fun a => some (.clearS z (.c a))
 | .cap x => (evK l x).bind fun a => some (.cap (.c a))
 | .appendZ e b z s n => (evK l s).bind fun s => (evK l n).bind fun n => some (.appendZ e b z (.c s) (.c n))
variable {N : Nat} {l l' l1 : KL} {tm : List AVal} {H H' H1 : zz6}
theorem yvu {tm : List AVal} {v : AVal} : ev tm (.c v) = v := rfl
theorem zbp (hk : Kn N l tm) {x : AOpd} {v : AVal} (h : evK l x = some v) : ev tm x = v := by
 cases x with
 | t n =>
  simp only [ev, List.getD_eq_getElem?_getD, hk.get n v h, Option.getD_some]
 | c u => cases h; rfl
theorem yzm (hk : Kn N l tm) : ∀ {xs : List AOpd} {vs : List AVal}, evsK l xs = some vs → xs.map (ev tm) = vs
 | [], vs, h => by cases h; rfl
 | x :: r, vs, h => by
  simp only [evsK, Option.bind_eq_some_iff] at h
  obtain ⟨v, h1, us, h2, h3⟩ := h
  cases h3
  rw [List.map_cons, zbp hk h1, yzm hk h2]
theorem yq0 (hk : Kn N l tm) : ∀ {xs : List AOpd} {vs : List AOpd}, csK l xs = some vs → xs.map (ev tm) = vs.map (ev [])
 | [], vs, h => by cases h; rfl
 | x :: r, vs, h => by
  simp only [csK, Option.bind_eq_some_iff] at h
  obtain ⟨v, h1, us, h2, h3⟩ := h
  cases h3
  rw [List.map_cons, zbp hk h1, yq0 hk h2]; rfl
theorem ywc (hk : Kn N l tm) : ∀ {xs : List (Nat × Nat × AOpd)} {vs : List (Nat × Nat × AOpd)}, psK l xs = some vs → (xs.map fun (o, n, x) => (o, n, ev tm x)) = vs.map fun (o, n, x) => (o, n, ev [] x)
 | [], vs, h => by cases h; rfl
 | (o, n, x) :: r, vs, h => by
  simp only [psK, Option.bind_eq_some_iff] at h
  obtain ⟨v, h1, us, h2, h3⟩ := h
  cases h3
  rw [List.map_cons, List.map_cons, ywc hk h2]
  simp only [zbp hk h1, yvu]
theorem zl4 (hk : Kn N l tm) {x y : Option AOpd} (h : eoK l x = some y) : x.map (ev tm) = y.map (ev []) := by
 cases x with
 | none => cases h; rfl
 | some x =>
  simp only [eoK, Option.bind_eq_some_iff] at h
  obtain ⟨v, h1, h2⟩ := h
  cases h2
  simp only [Option.map_some, zbp hk h1, yvu]
theorem yy9 (hk : Kn N l tm) {op op' : AOp} (h : subK l op = some op') (H : zz6) : aOp tm op H = aOp [] op' H := by
 have e1 : ∀ {x v}, evK l x = some v → ev tm x = v := fun h => zbp hk h
 cases op <;> simp only [subK, Option.bind_eq_some_iff] at h
 case alloc | makeMap => cases h; rfl
 case call | bad => cases h
 case lenC => cases h; rfl
 case build | buildSlice =>
  obtain ⟨ps, h1, h2⟩ := h
  cases h2
  simp only [aOp, ywc hk h1]
 case makeFunc | minmax =>
  obtain ⟨ps, h1, h2⟩ := h
  cases h2
  simp only [aOp, yq0 hk h1]
 case sliceA | sliceS =>
  obtain ⟨a, h1, lo, h2, hi, h3, mx, h4, h5⟩ := h
  cases h5
  simp only [aOp, e1 h1, zl4 hk h2, zl4 hk h3, zl4 hk h4, yvu]
 case sliceStr =>
  obtain ⟨a, h1, lo, h2, hi, h3, h5⟩ := h
  cases h5
  simp only [aOp, e1 h1, zl4 hk h2, zl4 hk h3, yvu]
 all_goals first
  | (obtain ⟨a, h1, h2⟩ := h; cases h2; simp only [aOp, e1 h1, yvu]; done)
  | (obtain ⟨a, h1, b, h2, h3⟩ := h; cases h3; simp only [aOp, e1 h1, e1 h2, yvu]; done)
  | (obtain ⟨a, h1, b, h2, h3⟩ := h; cases h3; simp only [aOp, e1 h1, e1 h2]; rfl)
  | (obtain ⟨a, h1, b, h2, c, h3, h4⟩ := h; cases h4; simp only [aOp, e1 h1, e1 h2, e1 h3, yvu]; done)
def wantK (l : KL) : Option (Nat × Bool) → Option Bool
 | none => some true
 | some (d, b) => match look l d with
  | some (.raw (.bool b')) => some (b' == b)
  | some (.raw (.tuple _)) => some false
  | _ => none
def opK2 (H : zz6) : Option AOp → Option (AVal × zz6)
 | none => none
 | some op => aOp [] op H
def opK (l : KL) (op : AOp) (H : zz6) : Option (AVal × zz6) := opK2 H (subK l op)
def putR (N : Nat) (l : KL) (d : Option Nat) : Option (AVal × zz6) → Option KS
 | none => none
 | some r => some (putK N l d r.1, r.2)
def callK (or : zzn) (H : zz6) : Option AVal → Option (List AVal) → Option (AVal × zz6)
 | some fv, some vs => or fv vs H
 | _, _ => none
def stepO (or : zzn) (N : Nat) (s : KS) (d : Option Nat) (op : AOp) : Option KS :=
 match op with
 | .call f args => putR N s.1 d (callK or s.2 (evK s.1 f) (evsK s.1 args))
 | op => putR N s.1 d (opK s.1 op s.2)
def stepW (or : zzn) (N : Nat) (s : KS) (d : Option Nat) (op : AOp) : Option Bool → Option KS
 | none => none
 | some b => bif b then stepO or N s d op else some (putK N s.1 d zzc, s.2)
def stepK (or : zzn) (N : Nat) (s : KS) (o : zzu) : Option KS := stepW or N s o.dst o.op (wantK s.1 o.guard)
theorem zug (hk : Kn N l tm) {g : Option (Nat × Bool)} {b : Bool} (h : wantK l g = some b) : zy6 g tm = some b := by
 unfold wantK at h
 unfold zy6
 split at h
 ·exact h
 ·rename_i d b'
  split at h
  ·rename_i hl; simp only [hk.get _ _ hl]; exact h
  ·rename_i hl; simp only [hk.get _ _ hl]; exact h
  ·cases h
variable {or : zzn} {n : Nat} {C : List Nat} {s s' s1 : KS}
theorem zev {o : zzu} (hk : Kn N s.1 tm) (h : stepK or N s o = some s') (m : List Nat) : ∃ tm', zu4 or ⟨tm, s.2, m⟩ o = some ⟨tm', s'.2, m⟩ ∧ Kn N s'.1 tm' := by
 unfold stepK at h
 cases hw : wantK s.1 o.guard with
 | none => rw [hw] at h; cases h
 | some b =>
  rw [hw] at h
  cases b with
  | false =>
   cases h
   obtain ⟨tm', h1, h2⟩ := hk.put o.dst zzc s.2 m
   exact ⟨tm', by unfold zu4; simp only [zug hk hw, h1], h2⟩
  | true =>
   simp only [stepW, cond_true, stepO] at h
   split at h
   ·rename_i f args hop
    cases h1 : evK s.1 f with
    | none => rw [h1] at h; simp [callK, putR] at h
    | some fv =>
     cases h2 : evsK s.1 args with
     | none => rw [h1, h2] at h; simp [callK, putR] at h
     | some vs =>
      rw [h1, h2] at h
      simp only [callK] at h
      cases h3 : or fv vs s.2 with
      | none => rw [h3] at h; simp [putR] at h
      | some r =>
       rw [h3] at h
       cases h
       obtain ⟨tm', g1, g2⟩ := hk.put o.dst r.1 r.2 m
       refine ⟨tm', ?_, g2⟩
       unfold zu4
       simp only [zug hk hw, hop, zbp hk h1, yzm hk h2, h3, Option.map_some, g1]
   ·rename_i op hne
    unfold opK at h
    cases h1 : subK s.1 o.op with
    | none => rw [h1] at h; simp [opK2, putR] at h
    | some op' =>
     rw [h1] at h
     simp only [opK2] at h
     cases h2 : aOp [] op' s.2 with
     | none => rw [h2] at h; simp [putR] at h
     | some r =>
      rw [h2] at h
      cases h
      obtain ⟨tm', g1, g2⟩ := hk.put o.dst r.1 r.2 m
      refine ⟨tm', ?_, g2⟩
      have := yy9 hk h1 s.2
      unfold zu4
      simp only [zug hk hw]
      rw [this, h2, Option.map_some, g1]
def Ex (or : zzn) (N : Nat) (ops : List zzu) (s s' : KS) : Prop := ∀ tm m, Kn N s.1 tm → ∃ tm', zqq or ops ⟨tm, s.2, m⟩ = some ⟨tm', s'.2, m⟩ ∧ Kn N s'.1 tm'
theorem Ex.zn : Ex or N [] s s := fun tm m hk => ⟨tm, rfl, hk⟩
theorem Ex.zc {o : zzu} {os : List zzu} (h : stepK or N s o = some s1) (h2 : Ex or N os s1 s') : Ex or N (o :: os) s s' := fun tm m hk => by
 obtain ⟨tm1, a1, a2⟩ := zev hk h m
 obtain ⟨tm2, b1, b2⟩ := h2 tm1 m a2
 exact ⟨tm2, by simp only [zqq, a1, Option.bind_some, b1], b2⟩
structure Wp (or : zzn) (n N : Nat) (C : List Nat) (c : zym) (s : KS) (Q : Exit → KS → Prop) : Prop where
 run : ∀ tm, Kn N s.1 tm → ∃ e tm' s', zys or true n c ⟨tm, s.2, []⟩ = some (e, ⟨tm', s'.2, []⟩) ∧ Kn N s'.1 tm' ∧ Q e s'
variable {Q Q' : Exit → KS → Prop} {a b : zym}
theorem Wp.mono {c : zym} (h : Wp or n N C c s Q) (hq : ∀ e s, Q e s → Q' e s) : Wp or n N C c s Q' := ⟨fun tm hk => let ⟨e, tm', s', a, b, c⟩ := h.run tm hk; ⟨e, tm', s', a, b, hq _ _ c⟩⟩
theorem Wp.sub {c : zym} (l' : KL) (h : Wp or n N C c (l', s.2) Q) (hs : SubK l' s.1) : Wp or n N C c s Q := ⟨fun tm hk => h.run tm (hs.kn hk)⟩
def QSeq (or : zzn) (n N : Nat) (C : List Nat) (b : zym) (Q : Exit → KS → Prop) : Exit → KS → Prop
 | .normal, s => Wp or n N C b s Q
 | e, s => Q e s
def QBlk (id : Nat) (Q : Exit → KS → Prop) : Exit → KS → Prop
 | .exit k, s => Q (if k = id then .normal else .exit k) s
 | e, s => Q e s
theorem Wp.za (h : Wp or n N C a s (QSeq or n N C b Q)) : Wp or n N C (.seq a b) s Q := by
 refine ⟨fun tm hk => ?_⟩
 obtain ⟨e, tm1, s1, h1, h2, h3⟩ := h.run tm hk
 cases e with
 | normal =>
  obtain ⟨e', tm2, s2, g1, g2, g3⟩ := h3.run tm1 h2
  exact ⟨e', tm2, s2, seqN h1 g1, g2, g3⟩
 | _ => exact ⟨_, tm1, s1, seqX h1 (by simp), h2, h3⟩
theorem Wp.zb {id : Nat} (h : Wp or n N C a s (QBlk id Q)) : Wp or n N C (.block id a) s Q := by
 refine ⟨fun tm hk => ?_⟩
 obtain ⟨e, tm1, s1, h1, h2, h3⟩ := h.run tm hk
 cases e with
 | exit k => exact ⟨_, tm1, s1, by simp only [zys, h1], h2, h3⟩
 | _ => exact ⟨_, tm1, s1, by simp only [zys, h1], h2, h3⟩
theorem Wp.zd (h : Q .normal s) : Wp or n N C .skip s Q := ⟨fun tm hk => ⟨_, tm, s, rfl, hk, h⟩⟩
theorem Wp.zc (h : Q .ret s) : Wp or n N C .ret s Q := ⟨fun tm hk => ⟨_, tm, s, rfl, hk, h⟩⟩
theorem Wp.ze {id : Nat} (h : Q (.exit id) s) : Wp or n N C (.exit id) s Q := ⟨fun tm hk => ⟨_, tm, s, rfl, hk, h⟩⟩
theorem Wp.zh {ops : List zzu} (h : Ex or N ops s s1) (he : s1 = (l1, H1)) (hp : pruneK C l1 = l') (hQ : Q .normal (l', H1)) : Wp or n N C (.region ops) s Q := by
 subst he
 refine ⟨fun tm hk => ?_⟩
 obtain ⟨tm', h1, h2⟩ := h tm [] hk
 exact ⟨_, tm', (l', H1), regN h1, hp ▸ h2.prune C, hQ⟩
theorem Wp.cond {x : AOpd} {t : Bool} (he : evK s.1 x = some (zzt t)) (h : Wp or n N C (if t then a else b) s Q) : Wp or n N C (.cond x a b) s Q := by
 refine ⟨fun tm hk => ?_⟩
 obtain ⟨e, tm', s', h1, h2, h3⟩ := h.run tm hk
 refine ⟨e, tm', s', ?_, h2, h3⟩
 simp only [zys, zbp hk he]
 cases t <;> exact h1
theorem Wp.zf {x : AOpd} (he : evK s.1 x = some (zzt true)) (h : Wp or n N C a s Q) : Wp or n N C (.cond x a b) s Q := Wp.cond he h
theorem Wp.zg {x : AOpd} (he : evK s.1 x = some (zzt false)) (h : Wp or n N C b s Q) : Wp or n N C (.cond x a b) s Q := Wp.cond he h
theorem Wp.ite {x : AOpd} {p : Prop} [Decidable p] (he : evK s.1 x = some (zzt (decide p))) (h1 : p → Wp or n N C a s Q) (h2 : ¬ p → Wp or n N C b s Q) : Wp or n N C (.cond x a b) s Q :=
 if hp : p then Wp.cond (t := true) (by rw [he]; simp [hp]) (h1 hp) else Wp.cond (t := false) (by rw [he]; simp [hp]) (h2 hp)
theorem Wp.loop {α : Type} (L : α → KL) (Hp : α → zz6) (I : α → Prop) (μ : α → Nat) (x : α) (hH : Hp x = s.2) (hI : I x) (hn : μ x < n) (hl : SubK (L x) s.1)
  (h : ∀ x, I x → Wp or n N C a (L x, Hp x) (fun e s' => match e with | .normal => ∃ y, Hp y = s'.2 ∧ I y ∧ μ y < μ x ∧ SubK (L y) s'.1 | e => Q e s')) : Wp or n N C (.loop a) s Q := by
 have key : ∀ (m : Nat) (x : α) (tm : List AVal), I x → μ x < m → Kn N (L x) tm → ∃ e tm' s', zp8 (zys or true n a) m ⟨tm, Hp x, []⟩ = some (e, ⟨tm', s'.2, []⟩) ∧ Kn N s'.1 tm' ∧ Q e s' := fun m => by
  induction m with
  | zero => intro x tm _ hm; omega
  | succ m ih =>
   intro x tm hI hm hk
   obtain ⟨e, tm', s', h1, h2, h3⟩ := (h x hI).run tm hk
   cases e with
   | normal =>
    obtain ⟨y, e1, e2, e3, e4⟩ := h3
    obtain ⟨e', tm2, s2, g1, g2, g3⟩ := ih y tm' e2 (by omega) (e4.kn h2)
    exact ⟨e', tm2, s2, by simp only [zp8, h1]; rw [← e1]; exact g1, g2, g3⟩
   | _ => exact ⟨_, tm', s', by simp only [zp8, h1], h2, h3⟩
 refine ⟨fun tm hk => ?_⟩
 obtain ⟨e, tm', s', h1, h2, h3⟩ := key n x tm hI hn (hl.kn hk)
 exact ⟨e, tm', s', yuk (by rw [← hH]; exact h1), h2, h3⟩
structure ztc where
 i : Nat
 o : zzu
 v : AVal
 l : KL
def fltW (l : KL) (H : zz6) (op : AOp) : Option Bool → Option (AVal × zz6)
 | none => none
 | some b => bif b then opK l op H else some (zzc, H)
def fltK (l : KL) (H : zz6) (o : zzu) : Option (AVal × zz6) := fltW l H o.op (wantK l o.guard)
theorem ywm (hk : Kn N l tm) {op : AOp} {r : AVal × zz6} (h : opK l op H = some r) : aOp tm op H = some r := by
 unfold opK at h
 cases h1 : subK l op with
 | none => rw [h1] at h; cases h
 | some op' => rw [h1] at h; rw [yy9 hk h1]; exact h
theorem yv7 {o : zzu} {r : AVal × zz6} (hk : Kn N l tm) (h : fltK l H o = some r) (m : List Nat) : zb6 o ⟨tm, H, m⟩ = some r := by
 unfold fltK at h
 unfold zb6
 cases hw : wantK l o.guard with
 | none => rw [hw] at h; cases h
 | some b =>
  rw [hw] at h
  simp only [zug hk hw]
  cases b with
  | false => exact h
  | true => exact ywm hk h
def yldV (v : AVal) : Option (AVal × zz6) → Bool
 | none => false
 | some r => AVal.beq r.1 v
def yj8 : AVal → Bool
 | .raw (.tuple _) => true
 | _ => false
def yldW (x : ztc) (H : zz6) : Option Bool → Bool
 | none => false
 | some b => bif b then yldV x.v (opK x.l x.o.op H) else AVal.beq zzc x.v || yj8 x.v
def yldK (x : ztc) (H : zz6) : Bool := yldW x H (wantK x.l x.o.guard)
def askV (obl : List Nat) (H : zz6) : List ztc → Bool
 | [] => true
 | x :: V => bif hasN obl x.i then yldK x H && askV obl H V else askV obl H V
def askK (V : List ztc) : List (List Nat × zz6) → Bool
 | [] => true
 | (obl, H) :: r => askV obl H V && askK V r
def TR (N : Nat) (x : ztc) (y : Told) : Prop := x.i = y.i ∧ x.o = y.o ∧ x.v = y.v ∧ Kn N x.l y.tm
inductive TRs (N : Nat) : List ztc → List Told → Prop
 | nil : TRs N [] []
 | cons {x : ztc} {y : Told} {xs : List ztc} {ys : List Told} (h : TR N x y) (hs : TRs N xs ys) : TRs N (x :: xs) (y :: ys)
theorem yqj {x : ztc} {y : Told} (h : TR N x y) (H : zz6) (hy : yldK x H = true) : yvn y H = true := by
 obtain ⟨h1, h2, h3, h4⟩ := h
 unfold yldK at hy
 unfold yvn
 rw [← h2, ← h3]
 cases hw : wantK x.l x.o.guard with
 | none => rw [hw] at hy; cases hy
 | some b =>
  rw [hw] at hy
  simp only [zug h4 hw]
  cases b with
  | false => exact hy
  | true =>
   simp only [yldW, cond_true] at hy
   cases ho : opK x.l x.o.op H with
   | none => rw [ho] at hy; cases hy
   | some r =>
    rw [ho] at hy
    rw [ywm h4 ho]
    exact hy
theorem yz1 {V : List ztc} {V' : List Told} (hV : TRs N V V') : ∀ {Hs : List (List Nat × zz6)}, askK V Hs = true → zw7 V' Hs = true
 | [], _ => rfl
 | (obl, H) :: r, h => by
  simp only [askK, Bool.and_eq_true] at h
  simp only [zw7, Bool.and_eq_true]
  refine ⟨?_, yz1 hV h.2⟩
  have h1 := h.1
  clear h
  induction hV with
  | nil => rfl
  | @cons x y xs ys hx hs ih =>
   simp only [List.all_cons, Bool.and_eq_true]
   simp only [askV] at h1
   rw [← hx.1]
   cases hb : hasN obl x.i with
   | false => rw [hb] at h1; exact ⟨by simp, ih h1⟩
   | true =>
    rw [hb] at h1
    simp only [cond_true, Bool.and_eq_true] at h1
    exact ⟨by simp [yqj hx H h1.1], ih h1.2⟩
def Dr (or : zzn) (N : Nat) (aos : List zzu) (ps : List zxx) (s s' : KS) (V : List ztc) (Hs : List (List Nat × zz6)) : Prop :=
 ∀ tm, Kn N s.1 tm → ∃ tm' V', zxu or aos ps ⟨tm, s.2, []⟩ = some (⟨tm', s'.2, []⟩, V', Hs) ∧ Kn N s'.1 tm' ∧ TRs N V V'
variable {aos : List zzu} {ps : List zxx} {V : List ztc} {Hs : List (List Nat × zz6)}
theorem Dr.nil : Dr or N aos [] s s [] [] := fun tm hk => ⟨tm, [], rfl, hk, .nil⟩
theorem Dr.mob {i : Nat} {o : zzu} {r : AVal × zz6} (ho : aos[i]? = some o) (h : fltK s.1 s.2 o = some r) (h1 : putK N s.1 o.dst r.1 = l1) (h2 : Dr or N aos ps (l1, r.2) s' V Hs) :
  Dr or N aos (.mob i :: ps) s s' (if o.op.reads then ⟨i, o, r.1, s.1⟩ :: V else V) Hs := fun tm hk => by
 obtain ⟨tm1, a1, a2⟩ := hk.put o.dst r.1 r.2 []
 obtain ⟨tm2, V', b1, b2, b3⟩ := h2 tm1 (h1 ▸ a2)
 refine ⟨tm2, _, yqu ho (yv7 hk h []) (by rw [a1]; exact b1), b2, ?_⟩
 split
 ·exact .cons ⟨rfl, rfl, rfl, hk⟩ b3
 ·exact b3
theorem Dr.q {i : Nat} {o : zzu} {r : AVal × zz6} (ho : aos[i]? = some o) (hr : o.op.reads = false) (h : fltK s.1 s.2 o = some r) (h1 : putK N s.1 o.dst r.1 = l1) (h2 : Dr or N aos ps (l1, r.2) s' V Hs) : Dr or N aos (.mob i :: ps) s s' V Hs := by
 have := Dr.mob ho h h1 h2
 rw [hr, if_neg (by simp)] at this
 exact this
theorem Dr.r {i : Nat} {o : zzu} {r : AVal × zz6} (ho : aos[i]? = some o) (hr : o.op.reads = true) (h : fltK s.1 s.2 o = some r) (h1 : putK N s.1 o.dst r.1 = l1) (h2 : Dr or N aos ps (l1, r.2) s' V Hs) : Dr or N aos (.mob i :: ps) s s' (⟨i, o, r.1, s.1⟩ :: V) Hs := by
 have := Dr.mob ho h h1 h2
 rw [hr, if_pos rfl] at this
 exact this
theorem Dr.imm {i : Nat} {obl : List Nat} {o : zzu} (ho : aos[i]? = some o) (h : stepK or N s o = some s1) (hn : s.2.next ≤ s1.2.next) (h2 : Dr or N aos ps s1 s' V Hs) :
  Dr or N aos (.imm i obl :: ps) s s' V ((obl, s1.2) :: Hs) := fun tm hk => by
 obtain ⟨tm1, a1, a2⟩ := zev hk h []
 obtain ⟨tm2, V', b1, b2, b3⟩ := h2 tm1 a2
 exact ⟨tm2, _, yvw ho a1 hn b1, b2, b3⟩
theorem Wp.zi {ops : List zzu} {start : List Nat} (h : Dr or N ops ps s s1 V Hs) (he : s1 = (l1, H1)) (ha : askK V ((start, s.2) :: Hs) = true) (hp : pruneK C l1 = l') (hQ : Q .normal (l', H1)) : Wp or n N C (.draw ops ps start) s Q := by
 subst he
 refine ⟨fun tm hk => ?_⟩
 obtain ⟨tm', V', h1, h2, h3⟩ := h tm hk
 exact ⟨_, tm', (l', H1), yuq h1 (yz1 h3 ha), hp ▸ h2.prune C, hQ⟩
def argK : Nat → List AVal → KL
 | _, [] => []
 | i, v :: r => (i, v) :: argK (i + 1) r
theorem zr3 : ∀ (args : List AVal) (i k : Nat) (v : AVal), look (argK i args) k = some v → i ≤ k ∧ args[k - i]? = some v
 | [], i, k, v, h => by simp [argK, look] at h
 | u :: r, i, k, v, h => by
  simp only [argK, look] at h
  split at h
  ·rename_i e; subst e; cases h; simp
  ·obtain ⟨h1, h2⟩ := zr3 r (i + 1) k v h
   refine ⟨by omega, ?_⟩
   rw [show k - i = (k - (i + 1)) + 1 by omega, List.getElem?_cons_succ]; exact h2
def resK (l : KL) (H : zz6) : ARes → Option AVal
 | .tmp t => look l t
 | .cell t agg n => match look l t with
  | some (.ptr A ver off) => (H.rowAt A ver).bind fun cells => if off + n ≤ cells.length then aPart agg cells off n else none
  | _ => none
def ressK (l : KL) (H : zz6) : List ARes → Option (List AVal)
 | [] => some []
 | x :: xs => (resK l H x).bind fun v => (ressK l H xs).bind fun vs => some (v :: vs)
theorem yvb (hk : Kn N l tm) {x : ARes} {v : AVal} (h : resK l H x = some v) : aRes1 tm H x = some v := by
 cases x with
 | tmp t => simp only [aRes1, List.getD_eq_getElem?_getD, hk.get t v h, Option.getD_some]
 | cell t agg m =>
  simp only [resK] at h
  split at h
  ·rename_i A ver off hl
   simp only [aRes1, List.getD_eq_getElem?_getD, hk.get t _ hl, Option.getD_some]
   exact h
  ·cases h
theorem zbu (hk : Kn N l tm) : ∀ {xs : List ARes} {vs : List AVal}, ressK l H xs = some vs → aRess tm H xs = some vs
 | [], vs, h => by cases h; rfl
 | x :: xs, vs, h => by
  simp only [ressK, Option.bind_eq_some_iff] at h
  obtain ⟨v, h1, us, h2, h3⟩ := h
  cases h3
  simp only [aRess, yvb hk h1, Option.bind_some, zbu hk h2, Option.map_some]
def EndK (res : List ARes) (R : AVal → zz6 → Prop) : Exit → KS → Prop
 | .normal, s | .ret, s => ∃ vs, ressK s.1 s.2 res = some vs ∧ R (tup vs) s.2
 | _, _ => False
theorem Wp.call {kn : zy0} {env : Nat → Option zzq} {f : Nat} {af : zzq} {args : List AVal} {R : AVal → zz6 → Prop} (N : Nat) (C : List Nat) (h : env f = some af) (hk : kn f args H = none) (hN : af.ntmps = N) (ha : args.length ≤ N)
  (hw : Wp (zzp kn env n) n N C af.code (argK 0 args, H) (EndK af.res R)) : ∃ v H', zzp kn env (n + 1) (.func (.func f) []) args H = some (v, H') ∧ R v H' := by
 subst hN
 obtain ⟨e, tm', s', h1, h2, h3⟩ := hw.run (ztm af args) ⟨zpr ha, fun k v hv => zhs (by have := zr3 args 0 k v hv; simpa using this.2)⟩
 have key : ∀ vs, ressK s'.1 s'.2 af.res = some vs → yk6 af.res (some (.normal, ⟨tm', s'.2, []⟩)) = some (tup vs, s'.2) := fun vs hv => by
  simp only [yk6, zvq, Option.bind_some, zbu h2 hv, Option.map_some]
 have key2 : ∀ vs, ressK s'.1 s'.2 af.res = some vs → yk6 af.res (some (.ret, ⟨tm', s'.2, []⟩)) = some (tup vs, s'.2) := fun vs hv => by
  simp only [yk6, zvq, Option.bind_some, zbu h2 hv, Option.map_some]
 have ho := yu4 (kn := kn) h n [] args H (by rw [List.append_nil]; exact hk)
 rw [List.append_nil] at ho
 cases e with
 | normal => obtain ⟨vs, g1, g2⟩ := h3; exact ⟨_, _, by rw [ho, h1]; exact key vs g1, g2⟩
 | ret => obtain ⟨vs, g1, g2⟩ := h3; exact ⟨_, _, by rw [ho, h1]; exact key2 vs g1, g2⟩
 | _ => exact h3.elim
theorem Wp.callC {kn : zy0} {env : Nat → Option zzq} {f : Nat} {af : zzq} {caps args : List AVal} {R : AVal → zz6 → Prop} (N : Nat) (C : List Nat) (h : env f = some af) (hk : kn f (args ++ caps) H = none) (hN : af.ntmps = N) (ha : (args ++ caps).length ≤ N)
  (hw : Wp (zzp kn env n) n N C af.code (argK 0 (args ++ caps), H) (EndK af.res R)) : ∃ v H', zzp kn env (n + 1) (.func (.func f) caps) args H = some (v, H') ∧ R v H' := by
 obtain ⟨v, H', h1, h2⟩ := Wp.call (kn := kn) (env := env) N C h hk hN ha hw
 refine ⟨v, H', ?_, h2⟩
 have e1 := yu4 (kn := kn) h n [] (args ++ caps) H (by rw [List.append_nil]; exact hk)
 have e2 := yu4 (kn := kn) h n caps args H hk
 rw [List.append_nil] at e1
 rw [e2, ← e1, h1]
theorem Wp.callC1 {kn : zy0} {env : Nat → Option zzq} {f : Nat} {af : zzq} {caps args : List AVal} {v : AVal} (N : Nat) (C : List Nat) (h : env f = some af) (hk : kn f (args ++ caps) H = none) (hN : af.ntmps = N) (ha : (args ++ caps).length ≤ N)
  (hw : Wp (zzp kn env n) n N C af.code (argK 0 (args ++ caps), H) (EndK af.res fun v' h' => v' = v ∧ h' = H')) : zzp kn env (n + 1) (.func (.func f) caps) args H = some (v, H') := by
 obtain ⟨_, _, h1, rfl, rfl⟩ := Wp.callC (caps := caps) N C h hk hN ha hw
 exact h1
theorem Wp.call1 {kn : zy0} {env : Nat → Option zzq} {f : Nat} {af : zzq} {args : List AVal} {v : AVal} (N : Nat) (C : List Nat) (h : env f = some af) (hk : kn f args H = none) (hN : af.ntmps = N) (ha : args.length ≤ N)
  (hw : Wp (zzp kn env n) n N C af.code (argK 0 args, H) (EndK af.res fun v' h' => v' = v ∧ h' = H')) : zzp kn env (n + 1) (.func (.func f) []) args H = some (v, H') := by
 obtain ⟨_, _, h1, rfl, rfl⟩ := Wp.call N C h hk hN ha hw
 exact h1
end
section
abbrev zb : AVal := .raw (.int .u8 0)
abbrev zi : AVal := .raw (.int .i64 0)
abbrev ns : AVal := .raw (.slice none 0 0)
abbrev ki (n : Int) : AVal := .raw (.int .i64 n)
abbrev ci : AOpd := .c zi
abbrev mv (n : Nat) : AOp := .move (.t n)
abbrev qq (d : Nat) (x : AOp) (u : List Nat) : zzu := ⟨some d, x, none, [], u, .quiet⟩
abbrev qr (d : Nat) (x : AOp) (a u : List Nat) (m : Go.Vm.Mode) : zzu := ⟨some d, x, none, a, u, m⟩
abbrev gm (d : Nat) (x : AOp) (g : Nat) (b : Bool) (a u : List Nat) : zzu := ⟨some d, x, some (g, b), a, u, .quiet⟩
abbrev zz0 : List AVal := [(.raw (.bool false)), zi, zi, zb, zb, zb, zb, zb, zb, zb, zb, zb, zb, zb, zb, zb, zb, zb, zb, zb, zb, zb, zb, zb, zb, zb, zb, zb, zb, zb, zb, zb, zb, zb, zb]
abbrev zz1 : List AVal := [zi, (.raw (.int .u64 0)), zi, (.raw (.int .u64 0)), zi, zb, zb, zb, zb, zb, zb, zb, zb, zb, zb, zb, zb, zb, zb, zb, zb, zb, zb, zb, zb, zb, zb, zb, zb, zb, zb, zb, zb, zb, zb, zb, zb, (.raw (.int .u64 0)), zi, zi, ns]
abbrev zz2 : List AVal := [zb, zb, zb, zb, zb, zb, zb, zb, zb, zb, zb, zb, zb, zb, zb, zb, zb, zb, zb, zb, zb, zb, zb, zb, zb, zb, zb, zb, zb, zb, zb, zb]
abbrev zz3 : List AVal := [zi, zb, zb, zb, zb, zb, zb, zb, zb, zb, zb, zb, zb, zb, zb, zb, zb, zb, zb, zb, zb, zb, zb, zb, zb, zb, zb, zb, zb, zb, zb, zb, zb]
abbrev zz4 : List AVal := [zi, ns, zi, zb, zb, zb, zb, zb, zb, zb, zb, zb, zb, zb, zb, zb, zb, zb, zb, zb, zb, zb, zb, zb, zb, zb, zb, zb, zb, zb, zb, zb, zb, zb, zb]
abbrev zz5 : List AVal := [zi, zi, zb, zb, zb, zb, zb, zb, zb, zb, zb, zb, zb, zb, zb, zb, zb, zb, zb, zb, zb, zb, zb, zb, zb, zb, zb, zb, zb, zb, zb, zb, zb, zb]
abbrev zwp : AOpd := .c (.raw (.bool true))
abbrev zzh : AOpd := .c (.raw (.bool false))
abbrev zz8 (d x : Nat) : zzu := qq d (mv x) [x]
abbrev zzx (d x : Nat) (a : List Nat) : zzu := qr d (mv x) a [x] .quiet
abbrev zzg (d x : Nat) (a : List Nat) : zzu := qr d (.load false 1 (.t x)) a [x] .quiet
abbrev zb1 (d n x : Nat) (a : List Nat) : zzu := qr d (.load true n (.t x)) a [x] .quiet
abbrev zyb (d e x y : Nat) (a : List Nat) : zzu := qr d (.idxAddrS e (.t x) (.t y)) a [x, y] .quiet
abbrev zx7 (n x y : Nat) (a : List Nat) : zzu := ⟨none, (.store n (.t x) (.t y)), none, a, [x, y], .any⟩
abbrev zyk (d o x : Nat) (a : List Nat) : zzu := qr d (.ptrAdd o (.t x)) a [x] .quiet
abbrev zw5 (d o x : Nat) : zzu := qq d (.ptrAdd o (.t x)) [x]
abbrev zxm (d x : Nat) (a : List Nat) : zzu := qr d (.nilCheck (.t x)) a [x] .quiet
abbrev zkn (d x y : Nat) (a : List Nat) : zzu := qr d (.pick (.t x) (.c (.raw (.bool true))) (.t y)) a [x, y] .quiet
abbrev zk4 (d x y : Nat) (a : List Nat) : zzu := qr d (.pick (.t x) (.t y) (.c (.raw (.bool false)))) a [x, y] .quiet
abbrev zxn (d x g : Nat) (b : Bool) (a : List Nat) : zzu := ⟨(some d), (.load false 1 (.t x)), (some (g, b)), a, [x], .quiet⟩
abbrev zw8 (d o x g : Nat) (b : Bool) (a : List Nat) : zzu := ⟨(some d), (.ptrAdd o (.t x)), (some (g, b)), a, [x], .quiet⟩
abbrev zbf (d e x y g : Nat) (b : Bool) (a : List Nat) : zzu := ⟨(some d), (.idxAddrS e (.t x) (.t y)), (some (g, b)), a, [x, y], .quiet⟩
abbrev zx0 (d : Nat) (o : BinOp) (x : Nat) (k : Int) (a : List Nat) : zzu := qr d (.bin o (.t x) (.c (ki k))) a [x] .quiet
abbrev zyu (d : Nat) (o : BinOp) (x y : Nat) (a : List Nat) : zzu := qr d (.bin o (.t x) (.t y)) a [x, y] .quiet
abbrev zq7 (d i x : Nat) (a : List Nat) : zzu := qr d (.extract i (.t x)) a [x] .quiet
abbrev zwu (d x : Nat) (a : List Nat) : zzu := qr d (.len 1 (.t x)) a [x] .quiet
abbrev zus (d f x : Nat) (a : List Nat) : zzu := qr d (.call (.c (.func (.func f) [])) [(.t x)]) a [x] .any
abbrev zbm (d f x y : Nat) (a : List Nat) : zzu := qr d (.call (.c (.func (.func f) [])) [(.t x), (.t y)]) a [x, y] .any
abbrev znv (d f x y z : Nat) (a : List Nat) : zzu := qr d (.call (.c (.func (.func f) [])) [(.t x), (.t y), (.t z)]) a [x, y, z] .any
abbrev zjm (d e b x y : Nat) (a : List Nat) : zzu := qr d (.append e b (.t x) (.t y)) a [x, y] .any
abbrev zks (d x : Nat) (k : Int) : zzu := qq d (.bin .eql (.t x) (.c (ki k))) [x]
abbrev zya (d x g : Nat) (b : Bool) (a : List Nat) : zzu := gm d (mv x) g b a [x]
@[simp high] theorem ile_t {a b : Int} (h : a ≤ b) : ile a b = true := by simp [ile_eq, h]
@[simp high] theorem ile_f {a b : Int} (h : b < a) : ile a b = false := by simp [ile_eq]; omega
@[simp high] theorem ilt_t {a b : Int} (h : a < b) : ilt a b = true := by simp [ilt_eq, h]
@[simp high] theorem ilt_f {a b : Int} (h : b ≤ a) : ilt a b = false := by simp [ilt_eq]; omega
@[simp high] theorem ieq_t {a b : Int} (h : a = b) : ieq a b = true := by simp [ieq_eq, h]
@[simp high] theorem ieq_f {a b : Int} (h : a ≠ b) : ieq a b = false := by simp [ieq_eq, h]
@[simp] theorem wrapI' {n : Int} (h : -9223372036854775808 ≤ n ∧ n < 9223372036854775808) : zq3 .i64 n = n := yjm h.1 h.2
@[simp] theorem wrapU' {n : Int} (h : 0 ≤ n ∧ n < 18446744073709551616) : zq3 .u64 n = n := yuu h.1 h.2
attribute [simp] ile_eq ilt_eq ieq_eq
def aeq (a b : Nat) : Bool := Nat.beq a b
@[simp high] theorem aeq_t {a b : Nat} (h : a = b) : aeq a b = true := by simp [aeq, h]
@[simp high] theorem aeq_f {a b : Nat} (h : a ≠ b) : aeq a b = false := Bool.eq_false_iff.2 fun e => h (Nat.beq_eq.mp e)
def rowOf (ver : Nat) : Option AObj → Option (List AVal)
 | some (.row vs) => match vs[ver]? with | some (some (_, l)) => some l | _ => none
 | some (.ro l) => if ver = 0 then some l else none
 | _ => none
@[simp] theorem yz7 (H : zz6) (B : Nat) (o : AObj) : (H.push o).get B = bif aeq B H.next then some o else H.get B := by
 rw [zz6.get_push]; by_cases h : B = H.next <;> simp [h]
@[simp] theorem yyg (H : zz6) (A B : Nat) (o : AObj) : (H.set A o).get B = bif aeq B A then some o else H.get B := by
 rw [zz6.get_set]; by_cases h : B = A <;> simp [h]
theorem zzk (H : zz6) (A v : Nat) : H.rowAt A v = rowOf v (H.get A) := rfl
@[simp] theorem yvq (H : zz6) (B v : Nat) (o : AObj) : (H.push o).rowAt B v = bif aeq B H.next then rowOf v (some o) else H.rowAt B v := by
 rw [zzk, zzk, yz7]; cases aeq B H.next <;> rfl
@[simp] theorem yk1 (H : zz6) (A B v : Nat) (o : AObj) : (H.set A o).rowAt B v = bif aeq B A then rowOf v (some o) else H.rowAt B v := by
 rw [zzk, zzk, yyg]; cases aeq B A <;> rfl
def zz6.up (H : zz6) (m : Nat) : zz6 := { next := H.next + m, tr := H.tr }
@[simp] theorem zel (H : zz6) (m A : Nat) : (H.up m).get A = H.get A := rfl
@[simp] theorem yjc (H : zz6) (m : Nat) : (H.up m).next = H.next + m := rfl
@[simp] theorem yjj (H : zz6) (m A v : Nat) : (H.up m).rowAt A v = H.rowAt A v := rfl
attribute [simp] rowOf killAt spl List.getElem?_cons_zero List.getElem?_cons_succ
@[simp] theorem ifle_t {α : Type} {a b : Nat} {x y : α} (h : a ≤ b) : (if a ≤ b then x else y) = x := if_pos h
@[simp] theorem ifle_f {α : Type} {a b : Nat} {x y : α} (h : b < a) : (if a ≤ b then x else y) = y := if_neg (by omega)
@[simp] theorem yj6 (k : IntKind) (a : Int) : (AVal.raw (.int k a)).cells = [.raw (.int k a)] := rfl
@[simp] theorem yk5 (b : Bool) : (AVal.raw (.bool b)).cells = [.raw (.bool b)] := rfl
@[simp] theorem yju (a b : Nat) : (AVal.raw (.slice none a b)).cells = [.raw (.slice none a b)] := rfl
@[simp] theorem yjw : (AVal.raw (.pointer none)).cells = [.raw (.pointer none)] := rfl
@[simp] theorem yjs : (AVal.raw (.map none)).cells = [.raw (.map none)] := rfl
@[simp] theorem yke (a b c : Nat) : (AVal.ptr a b c).cells = [.ptr a b c] := rfl
@[simp] theorem yvf (a b c d e : Nat) (f : Bool) (g : Nat) : (AVal.slice a b c d e f g).cells = [.slice a b c d e f g] := rfl
@[simp] theorem ykw (a : Nat) : (AVal.map a).cells = [.map a] := rfl
@[simp] theorem zhv (cs : List AVal) : (AVal.agg cs).cells = cs := rfl
structure RowW (H0 : zz6) (R ver nv : Nat) (cells : List AVal) (H : zz6) : Prop where
 row : ∃ vs, H.get R = some (.row vs) ∧ vs.length = nv ∧ vs[ver]? = some (some (0, cells))
 next : H.next = H0.next
 other : ∀ A, A ≠ R → H.get A = H0.get A
theorem RowW.at {H0 H : zz6} {R ver nv : Nat} {cells : List AVal} (h : RowW H0 R ver nv cells H) : H.rowAt R ver = some cells := by
 obtain ⟨vs, h1, h2, h3⟩ := h.row
 rw [zzk, h1]; simp [h3]
theorem zn9 {α : Type} {l : List α} {off : Nat} {v : α} (h : off < l.length) : l.take off ++ ([v] ++ l.drop (off + [v].length)) = l.set off v := by
 rw [List.set_eq_take_append_cons_drop, if_pos h]; rfl
theorem zq0 (p n : Nat) : ∀ vs : zuq, (killAt p n vs).length = vs.length
 | [] => rfl
 | none :: r => by simp [killAt, zq0 p n r]
 | some (rel, l) :: r => by simp [killAt, zq0 p n r]
theorem RowW.write {H0 H : zz6} {R ver nv : Nat} {cells : List AVal} (h : RowW H0 R ver nv cells H) {off : Nat} {vals : List AVal} (h0 : 0 < vals.length) (h1 : off + vals.length ≤ cells.length) (hv : vals.all AVal.one = true) :
  ∃ H', H.write R ver off vals = some H' ∧ RowW H0 R ver nv (cells.take off ++ (vals ++ cells.drop (off + vals.length))) H' := by
 obtain ⟨vs, a1, a2, a3⟩ := h.row
 have hlt := (List.getElem?_eq_some_iff.1 a3).1
 refine ⟨_, by unfold zz6.write; rw [a1]; simp only [a3, h0, h1, hv, decide_true, Bool.and_self, if_true]; rfl, ⟨_, zz6.zzy _ _ _, ?_, ?_⟩, h.next, fun A hA => by rw [zz6.zzz _ _ hA]; exact h.other A hA⟩
 ·rw [List.length_set, zq0, a2]
 ·rw [List.getElem?_set_self (by rw [zq0]; exact hlt)]; rfl
attribute [simp] look dropK putK pruneK SubK evK evsK eoK csK psK subK wantK opK opK2 putR callK stepO stepW stepK fltW fltK yldV yldW yldK askV askK resK ressK argK QSeq QBlk EndK
@[simp] theorem yv0 : yj8 (.raw undef) = true := rfl
@[simp] theorem yuv (k : IntKind) (a : Int) : AVal.beq (.raw (.int k a)) (.raw (.int k a)) = true := by cases k <;> simp [AVal.beq, zpu, ieq_eq]
@[simp] theorem yjx (b : Bool) : AVal.beq (.raw (.bool b)) (.raw (.bool b)) = true := by simp [AVal.beq, zpu]
@[simp] theorem beq_ns (a b : Nat) : AVal.beq (.raw (.slice none a b)) (.raw (.slice none a b)) = true := by simp [AVal.beq, zpu]
@[simp] theorem beq_np : AVal.beq (.raw (.pointer none)) (.raw (.pointer none)) = true := rfl
@[simp] theorem beq_nm : AVal.beq (.raw (.map none)) (.raw (.map none)) = true := rfl
@[simp] theorem yuj (a b c : Nat) : AVal.beq (.ptr a b c) (.ptr a b c) = true := by simp [AVal.beq]
@[simp] theorem yj4 (a b c d e : Nat) (f : Bool) (g : Nat) : AVal.beq (.slice a b c d e f g) (.slice a b c d e f g) = true := by simp [AVal.beq]
@[simp] theorem yub (a : Nat) : AVal.beq (.map a) (.map a) = true := by simp [AVal.beq]
@[simp] theorem yuy (cs ds : List AVal) : AVal.beq (.agg cs) (.agg ds) = AVal.beqs cs ds := by simp [AVal.beq]
@[simp] theorem yjv : AVal.beqs [] [] = true := by simp [AVal.beqs]
@[simp] theorem yky (a b : AVal) (xs ys : List AVal) : AVal.beqs (a :: xs) (b :: ys) = (AVal.beq a b && AVal.beqs xs ys) := by simp [AVal.beqs]
@[simp] theorem yjd (cs ds : List AVal) : AVal.beq (.tuple cs) (.tuple ds) = AVal.beqs cs ds := by simp [AVal.beq]
attribute [simp] aOp ev aRess aRes1 tup aBin aUn aArith aPart hasN
@[congr] theorem bindK {α β : Type} {x y : Option α} (f : α → Option β) (h : x = y) : x.bind f = y.bind f := by rw [h]
@[congr] theorem mapK {α β : Type} {x y : Option α} (f : α → β) (h : x = y) : x.map f = y.map f := by rw [h]
end
end Go.Vm
