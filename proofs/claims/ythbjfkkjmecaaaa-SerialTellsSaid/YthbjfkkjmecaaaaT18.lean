/- The abstract machine, part 37: walks over the temporaries that are known. -/
import Derived.Test.YthbjfkkjmecaaaaT17
set_option linter.unusedVariables false
set_option linter.unusedSimpArgs false
namespace Go.Vm
open Go
abbrev KL := List (Nat × AVal)
abbrev KS := KL × AHeap
def look : KL → Nat → Option AVal
  | [], _ => none
  | (k, v) :: r, j => if k = j then some v else look r j
def dropK : KL → Nat → KL
  | [], _ => []
  | (k, v) :: r, j => if k = j then dropK r j else (k, v) :: dropK r j
def putK (N : Nat) (l : KL) (d : Option Nat) (v : AVal) : KL :=
  match d with
  | none => l
  | some d => if d < N then (d, v) :: dropK l d else l
def pruneK (C : List Nat) : KL → KL
  | [] => []
  | (k, v) :: r => if k ∈ C then (k, v) :: pruneK C r else pruneK C r
structure Kn (N : Nat) (l : KL) (tm : List AVal) : Prop where
  len : tm.length = N
  get : ∀ k v, look l k = some v → tm[k]? = some v
theorem look_drop : ∀ (l : KL) (j k : Nat), look (dropK l j) k = if j = k then none else look l k
  | [], j, k => by simp [dropK, look]
  | (i, v) :: r, j, k => by
    unfold dropK
    by_cases h : i = j
    · rw [if_pos h, look_drop r j k]
      by_cases e : j = k
      · simp [e]
      · simp [e, look, h]
    · rw [if_neg h]
      simp only [look]
      rw [look_drop r j k]
      by_cases e : i = k
      · simp [e]; intro e'; omega
      · simp [e]
theorem look_prune : ∀ (C : List Nat) (l : KL) (k : Nat) (v : AVal), look (pruneK C l) k = some v → look l k = some v
  | C, [], k, v, h => by simp [pruneK, look] at h
  | C, (i, u) :: r, k, v, h => by
    unfold pruneK at h
    simp only [look]
    split at h
    · simp only [look] at h
      split at h
      · rename_i e; rw [if_pos e]; exact h
      · rename_i e; rw [if_neg e]; exact look_prune C r k v h
    · rename_i hc
      by_cases e : i = k
      · exfalso
        subst e
        have : ∀ (r : KL), look (pruneK C r) i = none := fun r => by
          induction r with
          | nil => rfl
          | cons p r ih =>
            unfold pruneK
            split
            · rename_i h1
              simp only [look]
              rw [if_neg (fun e => hc (by rw [← e]; exact h1))]; exact ih
            · exact ih
        rw [this] at h; cases h
      · rw [if_neg e]; exact look_prune C r k v h
theorem Kn.prune {N : Nat} {l : KL} {tm : List AVal} (h : Kn N l tm) (C : List Nat) : Kn N (pruneK C l) tm := ⟨h.len, fun k v hv => h.get k v (look_prune C l k v hv)⟩
theorem Kn.put {N : Nat} {l : KL} {tm : List AVal} (h : Kn N l tm) (d : Option Nat) (v : AVal) (H : AHeap) (m : List Nat) : ∃ tm', ({ tm := tm, H := H, marks := m } : ASt).put d v = ⟨tm', H, m⟩ ∧ Kn N (putK N l d v) tm' := by
  cases d with
  | none => exact ⟨tm, rfl, h⟩
  | some d =>
    refine ⟨tm.set d v, rfl, by simp [h.len], fun k u hu => ?_⟩
    unfold putK at hu
    by_cases hd : d < N
    · simp only [hd, if_true, look] at hu
      rw [List.getElem?_set]
      split at hu
      · rename_i e; subst e
        cases hu
        simp [h.len, hd]
      · rename_i e
        rw [if_neg e]
        rw [look_drop, if_neg e] at hu
        exact h.get k u hu
    · simp only [hd, if_false] at hu
      rw [List.getElem?_set]
      have := h.get k u hu
      have hk := (List.getElem?_eq_some_iff.1 this).1
      have := h.len
      rw [if_neg (by omega)]; exact h.get k u hu
def SubK : KL → KL → Prop
  | [], _ => True
  | (k, v) :: r, l => look l k = some v ∧ SubK r l
theorem SubK.look : ∀ {a l : KL}, SubK a l → ∀ k v, Vm.look a k = some v → Vm.look l k = some v
  | [], _, _, k, v, h => by simp [Vm.look] at h
  | (i, u) :: r, l, ⟨h1, h2⟩, k, v, h => by
    simp only [Vm.look] at h
    split at h
    · rename_i e; subst e; cases h; exact h1
    · exact h2.look k v h
theorem SubK.kn {N : Nat} {a l : KL} {tm : List AVal} (h : SubK a l) (hk : Kn N l tm) : Kn N a tm := ⟨hk.len, fun k v hv => hk.get k v (h.look k v hv)⟩
def evK (l : KL) : AOpd → Option AVal
  | .t n => look l n
  | .c v => some v
def evsK (l : KL) : List AOpd → Option (List AVal)
  | [] => some []
  | x :: r => (evK l x).bind fun v => (evsK l r).bind fun vs => some (v :: vs)
def eoK (l : KL) : Option AOpd → Option (Option AOpd)
  | none => some none
  | some x => (evK l x).bind fun v => some (some (.c v))
def csK (l : KL) : List AOpd → Option (List AOpd)
  | [] => some []
  | x :: r => (evK l x).bind fun v => (csK l r).bind fun vs => some (.c v :: vs)
def psK (l : KL) : List (Nat × Nat × AOpd) → Option (List (Nat × Nat × AOpd))
  | [] => some []
  | (o, n, x) :: r => (evK l x).bind fun v => (psK l r).bind fun vs => some ((o, n, .c v) :: vs)
def subK (l : KL) : AOp → Option AOp
  | .move x => (evK l x).bind fun a => some (.move (.c a))
  | .pick c a b => (evK l c).bind fun c => (evK l a).bind fun a => (evK l b).bind fun b => some (.pick (.c c) (.c a) (.c b))
  | .alloc z => some (.alloc z)
  | .box x => (evK l x).bind fun a => some (.box (.c a))
  | .build z ps => (psK l ps).bind fun ps => some (.build z ps)
  | .buildSlice n e z ps => (psK l ps).bind fun ps => some (.buildSlice n e z ps)
  | .load g n x => (evK l x).bind fun a => some (.load g n (.c a))
  | .store n a x => (evK l a).bind fun a => (evK l x).bind fun x => some (.store n (.c a) (.c x))
  | .nilCheck x => (evK l x).bind fun a => some (.nilCheck (.c a))
  | .bin op x y => (evK l x).bind fun a => (evK l y).bind fun b => some (.bin op (.c a) (.c b))
  | .eqP g p x y => (evK l x).bind fun a => (evK l y).bind fun b => some (.eqP g p (.c a) (.c b))
  | .un op x => (evK l x).bind fun a => some (.un op (.c a))
  | .conv k x => (evK l x).bind fun a => some (.conv k (.c a))
  | .strOfBytes x => (evK l x).bind fun a => some (.strOfBytes (.c a))
  | .strId x => (evK l x).bind fun a => some (.strId (.c a))
  | .ptrAdd o x => (evK l x).bind fun a => some (.ptrAdd o (.c a))
  | .field g o n x => (evK l x).bind fun a => some (.field g o n (.c a))
  | .idxAddrA n e x i => (evK l x).bind fun a => (evK l i).bind fun b => some (.idxAddrA n e (.c a) (.c b))
  | .idxAddrS e x i => (evK l x).bind fun a => (evK l i).bind fun b => some (.idxAddrS e (.c a) (.c b))
  | .idxA n e g x i => (evK l x).bind fun a => (evK l i).bind fun b => some (.idxA n e g (.c a) (.c b))
  | .idxStr x i => (evK l x).bind fun a => (evK l i).bind fun b => some (.idxStr (.c a) (.c b))
  | .sliceA n e x lo hi mx => (evK l x).bind fun a => (eoK l lo).bind fun lo => (eoK l hi).bind fun hi => (eoK l mx).bind fun mx => some (.sliceA n e (.c a) lo hi mx)
  | .sliceS e x lo hi mx => (evK l x).bind fun a => (eoK l lo).bind fun lo => (eoK l hi).bind fun hi => (eoK l mx).bind fun mx => some (.sliceS e (.c a) lo hi mx)
  | .sliceStr x lo hi => (evK l x).bind fun a => (eoK l lo).bind fun lo => (eoK l hi).bind fun hi => some (.sliceStr (.c a) lo hi)
  | .makeSlice e b z x c => (evK l x).bind fun a => (evK l c).bind fun c => some (.makeSlice e b z (.c a) (.c c))
  | .makeMap => some .makeMap
  | .lookup z ok x k => (evK l x).bind fun a => (evK l k).bind fun k => some (.lookup z ok (.c a) (.c k))
  | .mapUpdate m k v => (evK l m).bind fun m => (evK l k).bind fun k => (evK l v).bind fun v => some (.mapUpdate (.c m) (.c k) (.c v))
  | .mapEntry z m k => (evK l m).bind fun m => (evK l k).bind fun k => some (.mapEntry z (.c m) (.c k))
  | .entryStore m s v => (evK l m).bind fun m => (evK l s).bind fun s => (evK l v).bind fun v => some (.entryStore (.c m) (.c s) (.c v))
  | .mapDelete m k => (evK l m).bind fun m => (evK l k).bind fun k => some (.mapDelete (.c m) (.c k))
  | .makeFunc fn cs => (csK l cs).bind fun cs => some (.makeFunc fn cs)
  | .makeIface t x => (evK l x).bind fun a => some (.makeIface t (.c a))
  | .append e b s x => (evK l s).bind fun s => (evK l x).bind fun x => some (.append e b (.c s) (.c x))
  | .copy e d s => (evK l d).bind fun d => (evK l s).bind fun s => some (.copy e (.c d) (.c s))
  | .len k x => (evK l x).bind fun a => some (.len k (.c a))
  | .lenC n x => some (.lenC n (.c aundef))
  | .minmax m xs => (csK l xs).bind fun xs => some (.minmax m xs)
  | .extract i x => (evK l x).bind fun a => some (.extract i (.c a))
  | .call _ _ => none
  | .bad => none
  | .iterNew x => (evK l x).bind fun a => some (.iterNew (.c a))
  | .iterNext x => (evK l x).bind fun a => some (.iterNext (.c a))
  | .iterEntry x => (evK l x).bind fun a => some (.iterEntry (.c a))
  | .clearM x => (evK l x).bind fun a => some (.clearM (.c a))
  | .clearS z x => (evK l x).bind fun a => some (.clearS z (.c a))
  | .cap x => (evK l x).bind fun a => some (.cap (.c a))
  | .appendZ e b z s n => (evK l s).bind fun s => (evK l n).bind fun n => some (.appendZ e b z (.c s) (.c n))
variable {N : Nat} {l l' l1 : KL} {tm : List AVal} {H H' H1 : AHeap}
theorem ev_c {tm : List AVal} {v : AVal} : ev tm (.c v) = v := rfl
theorem evK_ok (hk : Kn N l tm) {x : AOpd} {v : AVal} (h : evK l x = some v) : ev tm x = v := by
  cases x with
  | t n =>
    simp only [ev, List.getD_eq_getElem?_getD, hk.get n v h, Option.getD_some]
  | c u => cases h; rfl
theorem evsK_ok (hk : Kn N l tm) : ∀ {xs : List AOpd} {vs : List AVal}, evsK l xs = some vs → xs.map (ev tm) = vs
  | [], vs, h => by cases h; rfl
  | x :: r, vs, h => by
    simp only [evsK, Option.bind_eq_some_iff] at h
    obtain ⟨v, h1, us, h2, h3⟩ := h
    cases h3
    rw [List.map_cons, evK_ok hk h1, evsK_ok hk h2]
theorem csK_ok (hk : Kn N l tm) : ∀ {xs : List AOpd} {vs : List AOpd}, csK l xs = some vs → xs.map (ev tm) = vs.map (ev [])
  | [], vs, h => by cases h; rfl
  | x :: r, vs, h => by
    simp only [csK, Option.bind_eq_some_iff] at h
    obtain ⟨v, h1, us, h2, h3⟩ := h
    cases h3
    rw [List.map_cons, evK_ok hk h1, csK_ok hk h2]; rfl
theorem psK_ok (hk : Kn N l tm) : ∀ {xs : List (Nat × Nat × AOpd)} {vs : List (Nat × Nat × AOpd)}, psK l xs = some vs → (xs.map fun (o, n, x) => (o, n, ev tm x)) = vs.map fun (o, n, x) => (o, n, ev [] x)
  | [], vs, h => by cases h; rfl
  | (o, n, x) :: r, vs, h => by
    simp only [psK, Option.bind_eq_some_iff] at h
    obtain ⟨v, h1, us, h2, h3⟩ := h
    cases h3
    rw [List.map_cons, List.map_cons, psK_ok hk h2]
    simp only [evK_ok hk h1, ev_c]
theorem eoK_ok (hk : Kn N l tm) {x y : Option AOpd} (h : eoK l x = some y) : x.map (ev tm) = y.map (ev []) := by
  cases x with
  | none => cases h; rfl
  | some x =>
    simp only [eoK, Option.bind_eq_some_iff] at h
    obtain ⟨v, h1, h2⟩ := h
    cases h2
    simp only [Option.map_some, evK_ok hk h1, ev_c]
theorem subK_ok (hk : Kn N l tm) {op op' : AOp} (h : subK l op = some op') (H : AHeap) : aOp tm op H = aOp [] op' H := by
  have e1 : ∀ {x v}, evK l x = some v → ev tm x = v := fun h => evK_ok hk h
  cases op <;> simp only [subK, Option.bind_eq_some_iff] at h
  case alloc | makeMap => cases h; rfl
  case call | bad => cases h
  case lenC => cases h; rfl
  case build | buildSlice =>
    obtain ⟨ps, h1, h2⟩ := h
    cases h2
    simp only [aOp, psK_ok hk h1]
  case makeFunc | minmax =>
    obtain ⟨ps, h1, h2⟩ := h
    cases h2
    simp only [aOp, csK_ok hk h1]
  case sliceA | sliceS =>
    obtain ⟨a, h1, lo, h2, hi, h3, mx, h4, h5⟩ := h
    cases h5
    simp only [aOp, e1 h1, eoK_ok hk h2, eoK_ok hk h3, eoK_ok hk h4, ev_c]
  case sliceStr =>
    obtain ⟨a, h1, lo, h2, hi, h3, h5⟩ := h
    cases h5
    simp only [aOp, e1 h1, eoK_ok hk h2, eoK_ok hk h3, ev_c]
  all_goals first
    | (obtain ⟨a, h1, h2⟩ := h; cases h2; simp only [aOp, e1 h1, ev_c]; done)
    | (obtain ⟨a, h1, b, h2, h3⟩ := h; cases h3; simp only [aOp, e1 h1, e1 h2, ev_c]; done)
    | (obtain ⟨a, h1, b, h2, h3⟩ := h; cases h3; simp only [aOp, e1 h1, e1 h2]; rfl)
    | (obtain ⟨a, h1, b, h2, c, h3, h4⟩ := h; cases h4; simp only [aOp, e1 h1, e1 h2, e1 h3, ev_c]; done)
def wantK (l : KL) : Option (Nat × Bool) → Option Bool
  | none => some true
  | some (d, b) => match look l d with
    | some (.raw (.bool b')) => some (b' == b)
    | some (.raw (.tuple _)) => some false
    | _ => none
def opK2 (H : AHeap) : Option AOp → Option (AVal × AHeap)
  | none => none
  | some op => aOp [] op H
def opK (l : KL) (op : AOp) (H : AHeap) : Option (AVal × AHeap) := opK2 H (subK l op)
def putR (N : Nat) (l : KL) (d : Option Nat) : Option (AVal × AHeap) → Option KS
  | none => none
  | some r => some (putK N l d r.1, r.2)
def callK (or : Oracle) (H : AHeap) : Option AVal → Option (List AVal) → Option (AVal × AHeap)
  | some fv, some vs => or fv vs H
  | _, _ => none
def stepO (or : Oracle) (N : Nat) (s : KS) (d : Option Nat) (op : AOp) : Option KS :=
  match op with
  | .call f args => putR N s.1 d (callK or s.2 (evK s.1 f) (evsK s.1 args))
  | op => putR N s.1 d (opK s.1 op s.2)
def stepW (or : Oracle) (N : Nat) (s : KS) (d : Option Nat) (op : AOp) : Option Bool → Option KS
  | none => none
  | some b => bif b then stepO or N s d op else some (putK N s.1 d aundef, s.2)
def stepK (or : Oracle) (N : Nat) (s : KS) (o : AOper) : Option KS := stepW or N s o.dst o.op (wantK s.1 o.guard)
theorem wantK_ok (hk : Kn N l tm) {g : Option (Nat × Bool)} {b : Bool} (h : wantK l g = some b) : awanted g tm = some b := by
  unfold wantK at h
  unfold awanted
  split at h
  · exact h
  · rename_i d b'
    split at h
    · rename_i hl; simp only [hk.get _ _ hl]; exact h
    · rename_i hl; simp only [hk.get _ _ hl]; exact h
    · cases h
variable {or : Oracle} {n : Nat} {C : List Nat} {s s' s1 : KS}
theorem stepK_ok {o : AOper} (hk : Kn N s.1 tm) (h : stepK or N s o = some s') (m : List Nat) : ∃ tm', aStep or ⟨tm, s.2, m⟩ o = some ⟨tm', s'.2, m⟩ ∧ Kn N s'.1 tm' := by
  unfold stepK at h
  cases hw : wantK s.1 o.guard with
  | none => rw [hw] at h; cases h
  | some b =>
    rw [hw] at h
    cases b with
    | false =>
      cases h
      obtain ⟨tm', h1, h2⟩ := hk.put o.dst aundef s.2 m
      exact ⟨tm', by unfold aStep; simp only [wantK_ok hk hw, h1], h2⟩
    | true =>
      simp only [stepW, cond_true, stepO] at h
      split at h
      · rename_i f args hop
        cases h1 : evK s.1 f with
        | none => rw [h1] at h; simp [callK, putR] at h
        | some fv =>
          cases h2 : evsK s.1 args with
          | none => rw [h1, h2] at h; simp [callK, putR] at h
          | some vs =>
            rw [h1, h2] at h
            simp only [callK] at h
            cases h3 : or fv vs s.2 with
            | none => rw [h3] at h; simp [putR] at h
            | some r =>
              rw [h3] at h
              cases h
              obtain ⟨tm', g1, g2⟩ := hk.put o.dst r.1 r.2 m
              refine ⟨tm', ?_, g2⟩
              unfold aStep
              simp only [wantK_ok hk hw, hop, evK_ok hk h1, evsK_ok hk h2, h3, Option.map_some, g1]
      · rename_i op hne
        unfold opK at h
        cases h1 : subK s.1 o.op with
        | none => rw [h1] at h; simp [opK2, putR] at h
        | some op' =>
          rw [h1] at h
          simp only [opK2] at h
          cases h2 : aOp [] op' s.2 with
          | none => rw [h2] at h; simp [putR] at h
          | some r =>
            rw [h2] at h
            cases h
            obtain ⟨tm', g1, g2⟩ := hk.put o.dst r.1 r.2 m
            refine ⟨tm', ?_, g2⟩
            have := subK_ok hk h1 s.2
            unfold aStep
            simp only [wantK_ok hk hw]
            rw [this, h2, Option.map_some, g1]
def Ex (or : Oracle) (N : Nat) (ops : List AOper) (s s' : KS) : Prop := ∀ tm m, Kn N s.1 tm → ∃ tm', aSteps or ops ⟨tm, s.2, m⟩ = some ⟨tm', s'.2, m⟩ ∧ Kn N s'.1 tm'
theorem Ex.nil : Ex or N [] s s := fun tm m hk => ⟨tm, rfl, hk⟩
theorem Ex.cons {o : AOper} {os : List AOper} (h : stepK or N s o = some s1) (h2 : Ex or N os s1 s') : Ex or N (o :: os) s s' := fun tm m hk => by
  obtain ⟨tm1, a1, a2⟩ := stepK_ok hk h m
  obtain ⟨tm2, b1, b2⟩ := h2 tm1 m a2
  exact ⟨tm2, by simp only [aSteps, a1, Option.bind_some, b1], b2⟩
structure Wp (or : Oracle) (n N : Nat) (C : List Nat) (c : ACode) (s : KS) (Q : Exit → KS → Prop) : Prop where
  run : ∀ tm, Kn N s.1 tm → ∃ e tm' s', aCode or true n c ⟨tm, s.2, []⟩ = some (e, ⟨tm', s'.2, []⟩) ∧ Kn N s'.1 tm' ∧ Q e s'
variable {Q Q' : Exit → KS → Prop} {a b : ACode}
theorem Wp.mono {c : ACode} (h : Wp or n N C c s Q) (hq : ∀ e s, Q e s → Q' e s) : Wp or n N C c s Q' := ⟨fun tm hk => let ⟨e, tm', s', a, b, c⟩ := h.run tm hk; ⟨e, tm', s', a, b, hq _ _ c⟩⟩
theorem Wp.sub {c : ACode} (l' : KL) (h : Wp or n N C c (l', s.2) Q) (hs : SubK l' s.1) : Wp or n N C c s Q := ⟨fun tm hk => h.run tm (hs.kn hk)⟩
def QSeq (or : Oracle) (n N : Nat) (C : List Nat) (b : ACode) (Q : Exit → KS → Prop) : Exit → KS → Prop
  | .normal, s => Wp or n N C b s Q
  | e, s => Q e s
def QBlk (id : Nat) (Q : Exit → KS → Prop) : Exit → KS → Prop
  | .exit k, s => Q (if k = id then .normal else .exit k) s
  | e, s => Q e s
theorem Wp.seq (h : Wp or n N C a s (QSeq or n N C b Q)) : Wp or n N C (.seq a b) s Q := by
  refine ⟨fun tm hk => ?_⟩
  obtain ⟨e, tm1, s1, h1, h2, h3⟩ := h.run tm hk
  cases e with
  | normal =>
    obtain ⟨e', tm2, s2, g1, g2, g3⟩ := h3.run tm1 h2
    exact ⟨e', tm2, s2, seqN h1 g1, g2, g3⟩
  | _ => exact ⟨_, tm1, s1, seqX h1 (by simp), h2, h3⟩
theorem Wp.blk {id : Nat} (h : Wp or n N C a s (QBlk id Q)) : Wp or n N C (.block id a) s Q := by
  refine ⟨fun tm hk => ?_⟩
  obtain ⟨e, tm1, s1, h1, h2, h3⟩ := h.run tm hk
  cases e with
  | exit k => exact ⟨_, tm1, s1, by simp only [aCode, h1], h2, h3⟩
  | _ => exact ⟨_, tm1, s1, by simp only [aCode, h1], h2, h3⟩
theorem Wp.skip (h : Q .normal s) : Wp or n N C .skip s Q := ⟨fun tm hk => ⟨_, tm, s, rfl, hk, h⟩⟩
theorem Wp.ret (h : Q .ret s) : Wp or n N C .ret s Q := ⟨fun tm hk => ⟨_, tm, s, rfl, hk, h⟩⟩
theorem Wp.exit {id : Nat} (h : Q (.exit id) s) : Wp or n N C (.exit id) s Q := ⟨fun tm hk => ⟨_, tm, s, rfl, hk, h⟩⟩
theorem Wp.reg {ops : List AOper} (h : Ex or N ops s s1) (he : s1 = (l1, H1)) (hp : pruneK C l1 = l') (hQ : Q .normal (l', H1)) : Wp or n N C (.region ops) s Q := by
  subst he
  refine ⟨fun tm hk => ?_⟩
  obtain ⟨tm', h1, h2⟩ := h tm [] hk
  exact ⟨_, tm', (l', H1), regN h1, hp ▸ h2.prune C, hQ⟩
theorem Wp.cond {x : AOpd} {t : Bool} (he : evK s.1 x = some (abool t)) (h : Wp or n N C (if t then a else b) s Q) : Wp or n N C (.cond x a b) s Q := by
  refine ⟨fun tm hk => ?_⟩
  obtain ⟨e, tm', s', h1, h2, h3⟩ := h.run tm hk
  refine ⟨e, tm', s', ?_, h2, h3⟩
  simp only [aCode, evK_ok hk he]
  cases t <;> exact h1
theorem Wp.cT {x : AOpd} (he : evK s.1 x = some (abool true)) (h : Wp or n N C a s Q) : Wp or n N C (.cond x a b) s Q := Wp.cond he h
theorem Wp.cF {x : AOpd} (he : evK s.1 x = some (abool false)) (h : Wp or n N C b s Q) : Wp or n N C (.cond x a b) s Q := Wp.cond he h
theorem Wp.ite {x : AOpd} {p : Prop} [Decidable p] (he : evK s.1 x = some (abool (decide p))) (h1 : p → Wp or n N C a s Q) (h2 : ¬ p → Wp or n N C b s Q) : Wp or n N C (.cond x a b) s Q :=
  if hp : p then Wp.cond (t := true) (by rw [he]; simp [hp]) (h1 hp) else Wp.cond (t := false) (by rw [he]; simp [hp]) (h2 hp)
theorem Wp.loop {α : Type} (L : α → KL) (Hp : α → AHeap) (I : α → Prop) (μ : α → Nat) (x : α) (hH : Hp x = s.2) (hI : I x) (hn : μ x < n) (hl : SubK (L x) s.1)
    (h : ∀ x, I x → Wp or n N C a (L x, Hp x) (fun e s' => match e with | .normal => ∃ y, Hp y = s'.2 ∧ I y ∧ μ y < μ x ∧ SubK (L y) s'.1 | e => Q e s')) : Wp or n N C (.loop a) s Q := by
  have key : ∀ (m : Nat) (x : α) (tm : List AVal), I x → μ x < m → Kn N (L x) tm → ∃ e tm' s', aLoop (aCode or true n a) m ⟨tm, Hp x, []⟩ = some (e, ⟨tm', s'.2, []⟩) ∧ Kn N s'.1 tm' ∧ Q e s' := fun m => by
    induction m with
    | zero => intro x tm _ hm; omega
    | succ m ih =>
      intro x tm hI hm hk
      obtain ⟨e, tm', s', h1, h2, h3⟩ := (h x hI).run tm hk
      cases e with
      | normal =>
        obtain ⟨y, e1, e2, e3, e4⟩ := h3
        obtain ⟨e', tm2, s2, g1, g2, g3⟩ := ih y tm' e2 (by omega) (e4.kn h2)
        exact ⟨e', tm2, s2, by simp only [aLoop, h1]; rw [← e1]; exact g1, g2, g3⟩
      | _ => exact ⟨_, tm', s', by simp only [aLoop, h1], h2, h3⟩
  refine ⟨fun tm hk => ?_⟩
  obtain ⟨e, tm', s', h1, h2, h3⟩ := key n x tm hI hn (hl.kn hk)
  exact ⟨e, tm', s', loopC (by rw [← hH]; exact h1), h2, h3⟩
theorem Wp.cut {c : ACode} {Q' : Exit → KS → Prop} (h : Wp or n N C c s Q') (hq : ∀ e s, Q' e s → Q e s) : Wp or n N C c s Q := h.mono hq
structure ToldK where
  i : Nat
  o : AOper
  v : AVal
  l : KL
def fltW (l : KL) (H : AHeap) (op : AOp) : Option Bool → Option (AVal × AHeap)
  | none => none
  | some b => bif b then opK l op H else some (aundef, H)
def fltK (l : KL) (H : AHeap) (o : AOper) : Option (AVal × AHeap) := fltW l H o.op (wantK l o.guard)
theorem opK_ok (hk : Kn N l tm) {op : AOp} {r : AVal × AHeap} (h : opK l op H = some r) : aOp tm op H = some r := by
  unfold opK at h
  cases h1 : subK l op with
  | none => rw [h1] at h; cases h
  | some op' => rw [h1] at h; rw [subK_ok hk h1]; exact h
theorem fltK_ok {o : AOper} {r : AVal × AHeap} (hk : Kn N l tm) (h : fltK l H o = some r) (m : List Nat) : fltVal o ⟨tm, H, m⟩ = some r := by
  unfold fltK at h
  unfold fltVal
  cases hw : wantK l o.guard with
  | none => rw [hw] at h; cases h
  | some b =>
    rw [hw] at h
    simp only [wantK_ok hk hw]
    cases b with
    | false => exact h
    | true => exact opK_ok hk h
def yldV (v : AVal) : Option (AVal × AHeap) → Bool
  | none => false
  | some r => AVal.beq r.1 v
def isTup : AVal → Bool
  | .raw (.tuple _) => true
  | _ => false
def yldW (x : ToldK) (H : AHeap) : Option Bool → Bool
  | none => false
  | some b => bif b then yldV x.v (opK x.l x.o.op H) else AVal.beq aundef x.v || isTup x.v
def yldK (x : ToldK) (H : AHeap) : Bool := yldW x H (wantK x.l x.o.guard)
def askV (obl : List Nat) (H : AHeap) : List ToldK → Bool
  | [] => true
  | x :: V => bif hasN obl x.i then yldK x H && askV obl H V else askV obl H V
def askK (V : List ToldK) : List (List Nat × AHeap) → Bool
  | [] => true
  | (obl, H) :: r => askV obl H V && askK V r
def TR (N : Nat) (x : ToldK) (y : Told) : Prop := x.i = y.i ∧ x.o = y.o ∧ x.v = y.v ∧ Kn N x.l y.tm
inductive TRs (N : Nat) : List ToldK → List Told → Prop
  | nil : TRs N [] []
  | cons {x : ToldK} {y : Told} {xs : List ToldK} {ys : List Told} (h : TR N x y) (hs : TRs N xs ys) : TRs N (x :: xs) (y :: ys)
theorem yldK_ok {x : ToldK} {y : Told} (h : TR N x y) (H : AHeap) (hy : yldK x H = true) : yldB y H = true := by
  obtain ⟨h1, h2, h3, h4⟩ := h
  unfold yldK at hy
  unfold yldB
  rw [← h2, ← h3]
  cases hw : wantK x.l x.o.guard with
  | none => rw [hw] at hy; cases hy
  | some b =>
    rw [hw] at hy
    simp only [wantK_ok h4 hw]
    cases b with
    | false => exact hy
    | true =>
      simp only [yldW, cond_true] at hy
      cases ho : opK x.l x.o.op H with
      | none => rw [ho] at hy; cases hy
      | some r =>
        rw [ho] at hy
        rw [opK_ok h4 ho]
        exact hy
theorem askK_ok {V : List ToldK} {V' : List Told} (hV : TRs N V V') : ∀ {Hs : List (List Nat × AHeap)}, askK V Hs = true → allAsked V' Hs = true
  | [], _ => rfl
  | (obl, H) :: r, h => by
    simp only [askK, Bool.and_eq_true] at h
    simp only [allAsked, Bool.and_eq_true]
    refine ⟨?_, askK_ok hV h.2⟩
    have h1 := h.1
    clear h
    induction hV with
    | nil => rfl
    | @cons x y xs ys hx hs ih =>
      simp only [List.all_cons, Bool.and_eq_true]
      simp only [askV] at h1
      rw [← hx.1]
      cases hb : hasN obl x.i with
      | false => rw [hb] at h1; exact ⟨by simp, ih h1⟩
      | true =>
        rw [hb] at h1
        simp only [cond_true, Bool.and_eq_true] at h1
        exact ⟨by simp [yldK_ok hx H h1.1], ih h1.2⟩
def Dr (or : Oracle) (N : Nat) (aos : List AOper) (ps : List PStep) (s s' : KS) (V : List ToldK) (Hs : List (List Nat × AHeap)) : Prop :=
  ∀ tm, Kn N s.1 tm → ∃ tm' V', drawGo or aos ps ⟨tm, s.2, []⟩ = some (⟨tm', s'.2, []⟩, V', Hs) ∧ Kn N s'.1 tm' ∧ TRs N V V'
variable {aos : List AOper} {ps : List PStep} {V : List ToldK} {Hs : List (List Nat × AHeap)}
theorem Dr.nil : Dr or N aos [] s s [] [] := fun tm hk => ⟨tm, [], rfl, hk, .nil⟩
theorem Dr.mob {i : Nat} {o : AOper} {r : AVal × AHeap} (ho : aos[i]? = some o) (h : fltK s.1 s.2 o = some r) (h1 : putK N s.1 o.dst r.1 = l1) (h2 : Dr or N aos ps (l1, r.2) s' V Hs) :
    Dr or N aos (.mob i :: ps) s s' (if o.op.reads then ⟨i, o, r.1, s.1⟩ :: V else V) Hs := fun tm hk => by
  obtain ⟨tm1, a1, a2⟩ := hk.put o.dst r.1 r.2 []
  obtain ⟨tm2, V', b1, b2, b3⟩ := h2 tm1 (h1 ▸ a2)
  refine ⟨tm2, _, drawMob ho (fltK_ok hk h []) (by rw [a1]; exact b1), b2, ?_⟩
  split
  · exact .cons ⟨rfl, rfl, rfl, hk⟩ b3
  · exact b3
theorem Dr.q {i : Nat} {o : AOper} {r : AVal × AHeap} (ho : aos[i]? = some o) (hr : o.op.reads = false) (h : fltK s.1 s.2 o = some r) (h1 : putK N s.1 o.dst r.1 = l1) (h2 : Dr or N aos ps (l1, r.2) s' V Hs) : Dr or N aos (.mob i :: ps) s s' V Hs := by
  have := Dr.mob ho h h1 h2
  rw [hr, if_neg (by simp)] at this
  exact this
theorem Dr.r {i : Nat} {o : AOper} {r : AVal × AHeap} (ho : aos[i]? = some o) (hr : o.op.reads = true) (h : fltK s.1 s.2 o = some r) (h1 : putK N s.1 o.dst r.1 = l1) (h2 : Dr or N aos ps (l1, r.2) s' V Hs) : Dr or N aos (.mob i :: ps) s s' (⟨i, o, r.1, s.1⟩ :: V) Hs := by
  have := Dr.mob ho h h1 h2
  rw [hr, if_pos rfl] at this
  exact this
theorem Dr.imm {i : Nat} {obl : List Nat} {o : AOper} (ho : aos[i]? = some o) (h : stepK or N s o = some s1) (hn : s.2.next ≤ s1.2.next) (h2 : Dr or N aos ps s1 s' V Hs) :
    Dr or N aos (.imm i obl :: ps) s s' V ((obl, s1.2) :: Hs) := fun tm hk => by
  obtain ⟨tm1, a1, a2⟩ := stepK_ok hk h []
  obtain ⟨tm2, V', b1, b2, b3⟩ := h2 tm1 a2
  exact ⟨tm2, _, drawImm ho a1 hn b1, b2, b3⟩
theorem Wp.draw {ops : List AOper} {start : List Nat} (h : Dr or N ops ps s s1 V Hs) (he : s1 = (l1, H1)) (ha : askK V ((start, s.2) :: Hs) = true) (hp : pruneK C l1 = l') (hQ : Q .normal (l', H1)) : Wp or n N C (.draw ops ps start) s Q := by
  subst he
  refine ⟨fun tm hk => ?_⟩
  obtain ⟨tm', V', h1, h2, h3⟩ := h tm hk
  exact ⟨_, tm', (l', H1), drawN h1 (askK_ok h3 ha), hp ▸ h2.prune C, hQ⟩
def argK : Nat → List AVal → KL
  | _, [] => []
  | i, v :: r => (i, v) :: argK (i + 1) r
theorem look_argK : ∀ (args : List AVal) (i k : Nat) (v : AVal), look (argK i args) k = some v → i ≤ k ∧ args[k - i]? = some v
  | [], i, k, v, h => by simp [argK, look] at h
  | u :: r, i, k, v, h => by
    simp only [argK, look] at h
    split at h
    · rename_i e; subst e; cases h; simp
    · obtain ⟨h1, h2⟩ := look_argK r (i + 1) k v h
      refine ⟨by omega, ?_⟩
      rw [show k - i = (k - (i + 1)) + 1 by omega, List.getElem?_cons_succ]; exact h2
def resK (l : KL) (H : AHeap) : ARes → Option AVal
  | .tmp t => look l t
  | .cell t agg n => match look l t with
    | some (.ptr A ver off) => (H.rowAt A ver).bind fun cells => if off + n ≤ cells.length then aPart agg cells off n else none
    | _ => none
def ressK (l : KL) (H : AHeap) : List ARes → Option (List AVal)
  | [] => some []
  | x :: xs => (resK l H x).bind fun v => (ressK l H xs).bind fun vs => some (v :: vs)
theorem resK_ok (hk : Kn N l tm) {x : ARes} {v : AVal} (h : resK l H x = some v) : aRes1 tm H x = some v := by
  cases x with
  | tmp t => simp only [aRes1, List.getD_eq_getElem?_getD, hk.get t v h, Option.getD_some]
  | cell t agg m =>
    simp only [resK] at h
    split at h
    · rename_i A ver off hl
      simp only [aRes1, List.getD_eq_getElem?_getD, hk.get t _ hl, Option.getD_some]
      exact h
    · cases h
theorem ressK_ok (hk : Kn N l tm) : ∀ {xs : List ARes} {vs : List AVal}, ressK l H xs = some vs → aRess tm H xs = some vs
  | [], vs, h => by cases h; rfl
  | x :: xs, vs, h => by
    simp only [ressK, Option.bind_eq_some_iff] at h
    obtain ⟨v, h1, us, h2, h3⟩ := h
    cases h3
    simp only [aRess, resK_ok hk h1, Option.bind_some, ressK_ok hk h2, Option.map_some]
def EndK (res : List ARes) (R : AVal → AHeap → Prop) : Exit → KS → Prop
  | .normal, s | .ret, s => ∃ vs, ressK s.1 s.2 res = some vs ∧ R (tup vs) s.2
  | _, _ => False
theorem Wp.call {kn : Known} {env : Nat → Option AFunc} {f : Nat} {af : AFunc} {args : List AVal} {R : AVal → AHeap → Prop} (N : Nat) (C : List Nat) (h : env f = some af) (hk : kn f args H = none) (hN : af.ntmps = N) (ha : args.length ≤ N)
    (hw : Wp (callM kn env n) n N C af.code (argK 0 args, H) (EndK af.res R)) : ∃ v H', callM kn env (n + 1) (.func (.func f) []) args H = some (v, H') ∧ R v H' := by
  subst hN
  obtain ⟨e, tm', s', h1, h2, h3⟩ := hw.run (initTm af args) ⟨initTm_len ha, fun k v hv => initTm_at (by have := look_argK args 0 k v hv; simpa using this.2)⟩
  have key : ∀ vs, ressK s'.1 s'.2 af.res = some vs → endF af.res (some (.normal, ⟨tm', s'.2, []⟩)) = some (tup vs, s'.2) := fun vs hv => by
    simp only [endF, aLeave, Option.bind_some, ressK_ok h2 hv, Option.map_some]
  have key2 : ∀ vs, ressK s'.1 s'.2 af.res = some vs → endF af.res (some (.ret, ⟨tm', s'.2, []⟩)) = some (tup vs, s'.2) := fun vs hv => by
    simp only [endF, aLeave, Option.bind_some, ressK_ok h2 hv, Option.map_some]
  have ho := opnM (kn := kn) h n [] args H (by rw [List.append_nil]; exact hk)
  rw [List.append_nil] at ho
  cases e with
  | normal => obtain ⟨vs, g1, g2⟩ := h3; exact ⟨_, _, by rw [ho, h1]; exact key vs g1, g2⟩
  | ret => obtain ⟨vs, g1, g2⟩ := h3; exact ⟨_, _, by rw [ho, h1]; exact key2 vs g1, g2⟩
  | _ => exact h3.elim
theorem Wp.callC {kn : Known} {env : Nat → Option AFunc} {f : Nat} {af : AFunc} {caps args : List AVal} {R : AVal → AHeap → Prop} (N : Nat) (C : List Nat) (h : env f = some af) (hk : kn f (args ++ caps) H = none) (hN : af.ntmps = N) (ha : (args ++ caps).length ≤ N)
    (hw : Wp (callM kn env n) n N C af.code (argK 0 (args ++ caps), H) (EndK af.res R)) : ∃ v H', callM kn env (n + 1) (.func (.func f) caps) args H = some (v, H') ∧ R v H' := by
  obtain ⟨v, H', h1, h2⟩ := Wp.call (kn := kn) (env := env) N C h hk hN ha hw
  refine ⟨v, H', ?_, h2⟩
  have e1 := opnM (kn := kn) h n [] (args ++ caps) H (by rw [List.append_nil]; exact hk)
  have e2 := opnM (kn := kn) h n caps args H hk
  rw [List.append_nil] at e1
  rw [e2, ← e1, h1]
theorem Wp.callC1 {kn : Known} {env : Nat → Option AFunc} {f : Nat} {af : AFunc} {caps args : List AVal} {v : AVal} (N : Nat) (C : List Nat) (h : env f = some af) (hk : kn f (args ++ caps) H = none) (hN : af.ntmps = N) (ha : (args ++ caps).length ≤ N)
    (hw : Wp (callM kn env n) n N C af.code (argK 0 (args ++ caps), H) (EndK af.res fun v' h' => v' = v ∧ h' = H')) : callM kn env (n + 1) (.func (.func f) caps) args H = some (v, H') := by
  obtain ⟨_, _, h1, rfl, rfl⟩ := Wp.callC (caps := caps) N C h hk hN ha hw
  exact h1
theorem Wp.call1 {kn : Known} {env : Nat → Option AFunc} {f : Nat} {af : AFunc} {args : List AVal} {v : AVal} (N : Nat) (C : List Nat) (h : env f = some af) (hk : kn f args H = none) (hN : af.ntmps = N) (ha : args.length ≤ N)
    (hw : Wp (callM kn env n) n N C af.code (argK 0 args, H) (EndK af.res fun v' h' => v' = v ∧ h' = H')) : callM kn env (n + 1) (.func (.func f) []) args H = some (v, H') := by
  obtain ⟨_, _, h1, rfl, rfl⟩ := Wp.call N C h hk hN ha hw
  exact h1
end Go.Vm
