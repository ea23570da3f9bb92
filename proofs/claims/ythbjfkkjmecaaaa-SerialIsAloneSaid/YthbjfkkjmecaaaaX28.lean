/- Transactions as plain data: what rows tell, row by row. -/
import Derived.Test.YthbjfkkjmecaaaaX24
import Derived.Test.YthbjfkkjmecaaaaX27
namespace Go.Proofs.Ythbjfkkjmecaaaa
open Go Go.Vm
set_option linter.unusedVariables false
set_option linter.unusedSimpArgs false

/-- The cells of a value. -/
structure IsVal (v : List AVal) : Prop where
  len : v.length = 32
  bytes : ∀ c ∈ v, ∃ n, c = v8 n

theorem IsVal.one {v : List AVal} (h : IsVal v) : v.all AVal.one = true := by
  rw [List.all_eq_true]
  intro c hc
  obtain ⟨n, rfl⟩ := h.bytes c hc
  rfl

theorem beqs_bytes : ∀ {v : List AVal}, (∀ c ∈ v, ∃ n, c = v8 n) → AVal.beqs v v = true
  | [], _ => by simp
  | c :: r, h => by
    obtain ⟨n, rfl⟩ := h c (List.mem_cons_self ..)
    simp [beqs_bytes fun x hx => h x (List.mem_cons_of_mem _ hx)]

abbrev zeroV : List AVal := List.replicate 32 (v8 0)
theorem zeroV_is : IsVal zeroV := ⟨by simp, fun c hc => ⟨0, (List.mem_replicate.1 hc).2⟩⟩

structure ReadD where
  row : Int
  blk : Int
  val : List AVal
def ReadD.cells (x : ReadD) : List AVal := vi x.row :: vi x.blk :: x.val
structure ImgD where
  blk : Int
  val : List AVal
def ImgD.cells (x : ImgD) : List AVal := vi x.blk :: x.val

structure RowD where
  kind : Int
  life : Int
  actor : Int
  ticket : Int
  blk : Int
  val : List AVal
  pos : Int
  cnt : Int
  err : Int
  set : List Int

/-- A transaction; 'on': it has not ended. -/
structure TxD where
  client : Int
  life : Int
  ticket : Int
  set : List Int
  reads : List ReadD
  writes : List ImgD
  begun : Int
  asked : Int
  commit : Int
  pos : Int
  done : Int
  fate : Int
  on : Bool

def newTx (i : Int) (r : RowD) : TxD := ⟨r.actor, r.life, r.ticket, r.set, [], [], i, -1, -1, 0, -1, 0, true⟩

def onAt (b : List TxD) (k : Nat) : Bool := match b[k]? with
  | some x => x.on
  | none => false
/-- The places of those that have not ended. -/
def liveIdx (b : List TxD) : List Nat := (List.range b.length).filter (onAt b)
def clientAt (b : List TxD) (k : Nat) : Int := match b[k]? with
  | some x => x.client
  | none => 0
def ofClient (b : List TxD) (c : Int) : Option Nat := (liveIdx b).find? fun k => clientAt b k == c

def ofB (b : List TxD) (r : RowD) : Option Nat := (ofClient b r.actor).bind fun k => (b[k]?).bind fun x => if x.ticket = r.ticket ∧ x.asked < 0 then some k else none

def writeD : List ImgD → ImgD → List ImgD
  | [], x => [x]
  | y :: l, x => if y.blk < x.blk then y :: writeD l x else if y.blk = x.blk then x :: l else x :: y :: l

def updB (b : List TxD) (k : Nat) (f : TxD → TxD) : List TxD := match b[k]? with
  | some x => b.set k (f x)
  | none => b

def stepC (b : List TxD) (i : Int) (r : RowD) : Option (List TxD) :=
  if ¬ (0 ≤ r.actor ∧ r.actor < 8) then none
  else if r.kind = 1 ∨ (r.kind = 7 ∧ r.ticket = 0) then (if (ofClient b r.actor).isSome then none else some b)
  else if r.kind = 2 then (if (ofClient b r.actor).isSome then none else some (b ++ [newTx i r]))
  else (ofB b r).map fun k =>
    if r.kind = 5 then updB b k fun x => { x with reads := x.reads ++ [⟨i, r.blk, r.val⟩] }
    else if r.kind = 6 then updB b k fun x => { x with writes := writeD x.writes ⟨r.blk, r.val⟩ }
    else if r.kind = 8 then updB b k fun x => { x with asked := i }
    else if r.kind = 9 then updB b k fun x => { x with fate := 2, on := false }
    else b

def tickAt (b : List TxD) (t : Int) (k : Nat) : Bool := match b[k]? with
  | some x => x.ticket == t
  | none => false
def lone : List Nat → Option Nat
  | [k] => some k
  | _ => none
def onlyB (b : List TxD) (t : Int) : Option Nat := lone ((liveIdx b).filter (tickAt b t))

def stepD (b : List TxD) (i : Int) (r : RowD) : Option (List TxD) :=
  if 1 ≤ r.kind ∧ r.kind ≤ 9 then stepC b i r
  else if r.kind = 11 then (onlyB b r.ticket).bind fun k => (b[k]?).bind fun x => if 0 ≤ x.asked ∧ x.commit < 0 then some (if r.blk = -1 then b.set k { x with commit := i, pos := r.pos } else b) else none
  else if r.kind = 13 then (onlyB b r.ticket).bind fun k => (b[k]?).bind fun x => if 0 ≤ x.commit ∧ x.pos = r.pos then some (b.set k { x with done := i, fate := 5, on := false }) else none
  else if r.kind = 18 then some (b.map fun x => if x.on then { x with fate := if x.commit < 0 then 3 else 4, on := false } else x)
  else if r.kind = 19 then some (b.map fun x => if x.fate = 4 then { x with fate := if x.pos < r.pos then 6 else 7 } else x)
  else some b

def stepsD : List TxD → Nat → List RowD → Option (List TxD)
  | b, _, [] => some b
  | b, i, r :: l => (stepD b i r).bind fun b => stepsD b (i + 1) l

def endD (x : TxD) : TxD := if x.on then { x with fate := if 0 ≤ x.commit then 4 else 1 } else x

/-- What rows tell. -/
def txsD (l : List RowD) : Option (List TxD) := (stepsD [] 0 l).map (·.map endD)

/-! ### The places of those that have not ended -/

theorem mem_live {b : List TxD} {k : Nat} : k ∈ liveIdx b ↔ ∃ x, b[k]? = some x ∧ x.on = true := by
  unfold liveIdx onAt
  rw [List.mem_filter, List.mem_range]
  constructor
  · rintro ⟨h1, h2⟩
    rw [List.getElem?_eq_getElem h1] at h2
    exact ⟨b[k], List.getElem?_eq_getElem h1, h2⟩
  · rintro ⟨x, h1, h2⟩
    exact ⟨(List.getElem?_eq_some_iff.1 h1).1, by rw [h1]; exact h2⟩

theorem live_sorted (b : List TxD) : (liveIdx b).Pairwise (· < ·) := (List.pairwise_lt_range).sublist List.filter_sublist
theorem live_nodup (b : List TxD) : (liveIdx b).Nodup := (live_sorted b).imp fun h => Nat.ne_of_lt h

theorem live_push {b : List TxD} {x : TxD} (hx : x.on = true) : liveIdx (b ++ [x]) = liveIdx b ++ [b.length] := by
  unfold liveIdx
  rw [List.length_append, List.length_singleton, List.range_succ, List.filter_append]
  congr 1
  · apply List.filter_congr
    intro k hk
    rw [List.mem_range] at hk
    unfold onAt
    rw [List.getElem?_append_left hk]
  · simp [onAt, hx]

theorem live_same {b b' : List TxD} (hl : b'.length = b.length) (h : ∀ k, onAt b' k = onAt b k) : liveIdx b' = liveIdx b := by
  unfold liveIdx
  rw [hl]
  exact List.filter_congr fun k _ => h k

theorem live_off {b : List TxD} {k : Nat} {x : TxD} (hk : k ∈ liveIdx b) (hx : x.on = false) : liveIdx (b.set k x) = (liveIdx b).filter (· != k) := by
  unfold liveIdx
  rw [List.length_set, List.filter_filter]
  apply List.filter_congr
  intro j hj
  rw [List.mem_range] at hj
  unfold onAt
  rw [List.getElem?_set]
  by_cases e : k = j
  · subst e; simp [hj, hx]
  · rw [if_neg e]
    have : (j != k) = true := by simp; exact fun h => e h.symm
    rw [this, Bool.true_and]

theorem live_none {b : List TxD} (h : ∀ x ∈ b, x.on = false) : liveIdx b = [] := by
  unfold liveIdx
  rw [List.filter_eq_nil_iff]
  intro k hk
  rw [List.mem_range] at hk
  unfold onAt
  rw [List.getElem?_eq_getElem hk]
  simp [h _ (List.getElem_mem hk)]

/-! ### The map of those that have not ended -/

structure MapOk (es : AEntries) (clock : Nat) (b : List TxD) : Prop where
  perm : (es.map fun e => (e.1, e.2.1)).Perm ((liveIdx b).map fun k => (vi (clientAt b k), vi k))
  keys : (es.map (·.1)).Nodup
  born : ∀ e ∈ es, e.2.2 < clock
  nodup : (es.map (·.2.2)).Nodup
  rng : ∀ k ∈ liveIdx b, 0 ≤ clientAt b k ∧ clientAt b k < 8

theorem MapOk.key {es : AEntries} {clock : Nat} {b : List TxD} (h : MapOk es clock b) {e : AVal × AVal × Nat} (he : e ∈ es) : ∃ k ∈ liveIdx b, e.1 = vi (clientAt b k) ∧ e.2.1 = vi k := by
  have : (e.1, e.2.1) ∈ es.map fun e => (e.1, e.2.1) := List.mem_map_of_mem (f := fun e : AVal × AVal × Nat => (e.1, e.2.1)) he
  rw [h.perm.mem_iff] at this
  obtain ⟨k, h1, h2⟩ := List.mem_map.1 this
  cases e
  simp only [Prod.mk.injEq] at h2
  exact ⟨k, h1, h2.1.symm, h2.2.symm⟩
theorem MapOk.ent {es : AEntries} {clock : Nat} {b : List TxD} (h : MapOk es clock b) {k : Nat} (hk : k ∈ liveIdx b) : ∃ e ∈ es, e.1 = vi (clientAt b k) ∧ e.2.1 = vi k := by
  have : (vi (clientAt b k), vi k) ∈ (liveIdx b).map fun k => (vi (clientAt b k), vi k) := List.mem_map_of_mem (f := fun k : Nat => (vi (clientAt b k), vi (k : Int))) hk
  rw [← h.perm.mem_iff] at this
  obtain ⟨e, h1, h2⟩ := List.mem_map.1 this
  simp only [Prod.mk.injEq] at h2
  exact ⟨e, h1, h2.1, h2.2⟩

theorem key_inj {es : AEntries} (h : (es.map (·.1)).Nodup) {i j : Nat} {e e' : AVal × AVal × Nat} (hi : es[i]? = some e) (hj : es[j]? = some e') (hk : e.1 = e'.1) : i = j := by
  have h1 : (es.map (·.1))[i]? = some e.1 := by rw [List.getElem?_map, hi]; rfl
  have h2 : (es.map (·.1))[j]? = some e.1 := by rw [List.getElem?_map, hj, hk]; rfl
  have hl := (List.getElem?_eq_some_iff.1 h1).1
  exact (List.getElem?_inj hl h).1 (h1.trans h2.symm)

theorem find_at : ∀ {es : AEntries} {c : Int} {i p : Nat} {v : AVal} {bn : Nat}, (∀ e ∈ es, ∃ n, e.1 = vi n) → (es.map (·.1)).Nodup → es[p]? = some (vi c, v, bn) → aFind .i64 c es i = some (some (i + p, v, bn))
  | [], c, i, p, v, bn, _, _, h => by simp at h
  | (k, u, b) :: r, c, i, 0, v, bn, hk, hn, h => by
    simp only [List.getElem?_cons_zero, Option.some.injEq, Prod.mk.injEq] at h
    obtain ⟨rfl, rfl, rfl⟩ := h
    simp [aFind, ieq_eq]
  | (k, u, b) :: r, c, i, p + 1, v, bn, hk, hn, h => by
    obtain ⟨m, hm⟩ := hk _ (List.mem_cons_self ..)
    simp only at hm
    subst hm
    rw [List.getElem?_cons_succ] at h
    simp only [List.map_cons, List.nodup_cons] at hn
    have hne : c ≠ m := fun e => hn.1 (by subst e; exact List.mem_map_of_mem (f := fun e : AVal × AVal × Nat => e.1) (List.mem_of_getElem? h))
    simp only [aFind, ieq_eq, hne, decide_false, Bool.false_eq_true, if_false, if_true]
    rw [find_at (fun e he => hk e (List.mem_cons_of_mem _ he)) hn.2 h]
    congr 3; omega

theorem find_no : ∀ {es : AEntries} {c : Int} {i : Nat}, (∀ e ∈ es, ∃ n, e.1 = vi n ∧ n ≠ c) → aFind .i64 c es i = some none
  | [], _, _, _ => rfl
  | (k, u, b) :: r, c, i, h => by
    obtain ⟨m, hm, hne⟩ := h _ (List.mem_cons_self ..)
    simp only at hm
    subst hm
    simp only [aFind, ieq_eq, Ne.symm hne, decide_false, Bool.false_eq_true, if_false, if_true]
    exact find_no fun e he => h e (List.mem_cons_of_mem _ he)

theorem ofClient_some {b : List TxD} {c : Int} {k : Nat} (h : ofClient b c = some k) : k ∈ liveIdx b ∧ clientAt b k = c := by
  unfold ofClient at h
  exact ⟨List.mem_of_find?_eq_some h, by simpa using List.find?_some h⟩
theorem ofClient_none {b : List TxD} {c : Int} (h : ofClient b c = none) : ∀ k ∈ liveIdx b, clientAt b k ≠ c := by
  unfold ofClient at h
  rw [List.find?_eq_none] at h
  intro k hk e
  exact h k hk (by simp [e])

theorem MapOk.ints {es : AEntries} {clock : Nat} {b : List TxD} (h : MapOk es clock b) : ∀ e ∈ es, ∃ n, e.1 = vi n := fun e he => let ⟨k, _, h2, _⟩ := h.key he; ⟨_, h2⟩

/-- Looked up in the map. -/
theorem MapOk.find {es : AEntries} {clock : Nat} {b : List TxD} (h : MapOk es clock b) (c : Int) :
    match ofClient b c with
    | some k => ∃ p bn, es[p]? = some (vi c, vi k, bn) ∧ aFind .i64 c es 0 = some (some (p, vi k, bn))
    | none => aFind .i64 c es 0 = some none := by
  cases hc : ofClient b c with
  | some k =>
    obtain ⟨h1, h2⟩ := ofClient_some hc
    obtain ⟨e, he, e1, e2⟩ := h.ent h1
    obtain ⟨p, hp⟩ := List.mem_iff_getElem?.1 he
    obtain ⟨ek, ev, eb⟩ := e
    simp only at e1 e2
    subst e1; subst e2
    rw [h2] at hp
    exact ⟨p, eb, hp, by have := find_at (i := 0) h.ints h.keys hp; rwa [Nat.zero_add] at this⟩
  | none =>
    refine find_no fun e he => ?_
    obtain ⟨k, h1, h2, _⟩ := h.key he
    exact ⟨_, h2, ofClient_none hc k h1⟩

theorem MapOk.len {es : AEntries} {clock : Nat} {b : List TxD} (h : MapOk es clock b) : es.length ≤ 8 := by
  have hs : (es.map (·.1)) ⊆ (List.range 8).map fun n : Nat => vi (n : Int) := fun x hx => by
    obtain ⟨e, he, rfl⟩ := List.mem_map.1 hx
    obtain ⟨k, h1, h2, _⟩ := h.key he
    obtain ⟨g1, g2⟩ := h.rng k h1
    rw [h2]
    refine List.mem_map.2 ⟨(clientAt b k).toNat, by simp; omega, by rw [Int.toNat_of_nonneg g1]⟩
  have := List.Nodup.length_le_of_subset h.keys hs
  simpa using this

/-- The places, told rising. -/
theorem MapOk.live {es : AEntries} {clock : Nat} {b : List TxD} (h : MapOk es clock b) : srtI (es.map fun e => intOf e.2.1) = (liveIdx b).map fun k : Nat => (k : Int) := by
  refine (srtI_eq ?_ ?_).symm
  · have := h.perm.map fun p : AVal × AVal => intOf p.2
    simp only [List.map_map, Function.comp_def, intOf] at this
    exact this.symm
  · have hp : ((liveIdx b).map fun k : Nat => (k : Int)).Pairwise (· < ·) := List.pairwise_map.2 ((live_sorted b).imp fun h => by omega)
    intro p q hpq hq
    rw [List.pairwise_iff_getElem] at hp
    have := hp p q (by omega) hq hpq
    rw [List.getD_eq_getElem?_getD, List.getD_eq_getElem?_getD, List.getElem?_eq_getElem (by omega), List.getElem?_eq_getElem hq]
    simp only [Option.getD_some]
    omega

/-! ### What steps do to the map -/

theorem MapOk.same {es : AEntries} {clock : Nat} {b b' : List TxD} (h : MapOk es clock b) (h1 : liveIdx b' = liveIdx b) (h2 : ∀ k ∈ liveIdx b, clientAt b' k = clientAt b k) : MapOk es clock b' where
  perm := by
    rw [h1]
    refine h.perm.trans (.of_eq (List.map_congr_left fun k hk => ?_))
    rw [h2 k hk]
  keys := h.keys
  born := h.born
  nodup := h.nodup
  rng := fun k hk => by rw [h1] at hk; rw [h2 k hk]; exact h.rng k hk

theorem clientAt_push {b : List TxD} {x : TxD} {k : Nat} (hk : k < b.length) : clientAt (b ++ [x]) k = clientAt b k := by
  unfold clientAt; rw [List.getElem?_append_left hk]

theorem MapOk.push {es : AEntries} {clock : Nat} {b : List TxD} {x : TxD} (h : MapOk es clock b) (hx : x.on = true) (hr : 0 ≤ x.client ∧ x.client < 8) (hno : ofClient b x.client = none) : MapOk (es ++ [(vi x.client, vi b.length, clock)]) (clock + 1) (b ++ [x]) where
  perm := by
    rw [live_push hx, List.map_append, List.map_append]
    refine List.Perm.append ?_ (.of_eq ?_)
    · refine h.perm.trans (.of_eq (List.map_congr_left fun k hk => ?_))
      rw [clientAt_push (List.getElem?_eq_some_iff.1 (mem_live.1 hk).choose_spec.1).1]
    · simp [clientAt]
  keys := by
    rw [List.map_append, List.nodup_append]
    refine ⟨h.keys, by simp, fun a ha c hc e => ?_⟩
    simp at hc
    subst hc; subst e
    obtain ⟨y, hy, hy2⟩ := List.mem_map.1 ha
    obtain ⟨k, hk, h2, _⟩ := h.key hy
    rw [h2] at hy2
    exact ofClient_none hno k hk (by simpa using hy2)
  born := fun e he => by
    rcases List.mem_append.1 he with he | he
    · have := h.born e he; omega
    · simp at he; subst he; simp
  nodup := by
    rw [List.map_append, List.nodup_append]
    refine ⟨h.nodup, by simp, fun a ha c hc e => ?_⟩
    simp at hc
    subst hc; subst e
    obtain ⟨y, hy, hy2⟩ := List.mem_map.1 ha
    have := h.born y hy
    omega
  rng := fun k hk => by
    rw [live_push hx] at hk
    rcases List.mem_append.1 hk with hk | hk
    · rw [clientAt_push (List.getElem?_eq_some_iff.1 (mem_live.1 hk).choose_spec.1).1]; exact h.rng k hk
    · simp at hk; subst hk; simpa [clientAt] using hr

theorem clientAt_set {b : List TxD} {k j : Nat} {x y : TxD} (hx : b[k]? = some x) (hc : y.client = x.client) : clientAt (b.set k y) j = clientAt b j := by
  unfold clientAt
  have hk := (List.getElem?_eq_some_iff.1 hx).1
  rw [List.getElem?_set]
  by_cases e : k = j
  · subst e; rw [if_pos rfl, hx]; simp [hk, hc]
  · rw [if_neg e]

theorem perm_erase {α : Type} : ∀ {l : List α} {p : Nat} {e : α}, l[p]? = some e → l.Perm (e :: l.eraseIdx p)
  | [], p, e, h => by simp at h
  | x :: l, 0, e, h => by simp at h; subst h; exact .refl _
  | x :: l, p + 1, e, h => by
    rw [List.getElem?_cons_succ] at h
    rw [List.eraseIdx_cons_succ]
    exact ((perm_erase h).cons x).trans (.swap ..)

theorem perm_filter_ne {l : List Nat} (hn : l.Nodup) {k : Nat} (hk : k ∈ l) : l.Perm (k :: l.filter (· != k)) := by
  have h := (List.filter_append_perm (fun x => x == k) l).symm
  have e : l.filter (fun x => x == k) = [k] := by
    clear h
    induction l with
    | nil => cases hk
    | cons x r ih =>
      rw [List.nodup_cons] at hn
      rw [List.filter_cons]
      rcases List.mem_cons.1 hk with rfl | hk
      · have : r.filter (fun x => x == k) = [] := by
          rw [List.filter_eq_nil_iff]
          intro y hy e
          have : y = k := by simpa using e
          subst this; exact hn.1 hy
        simp [this]
      · have : (x == k) = false := by
          simp; rintro rfl; exact hn.1 hk
        rw [this]
        exact ih hn.2 hk
  rw [e] at h
  exact h

theorem MapOk.off {es : AEntries} {clock : Nat} {b : List TxD} (h : MapOk es clock b) {k p : Nat} {x y : TxD} {bn : Nat} (hx : b[k]? = some x) (hon : x.on = true) (hc : y.client = x.client) (hy : y.on = false) (hp : es[p]? = some (vi x.client, vi k, bn)) : MapOk (es.eraseIdx p) clock (b.set k y) := by
  have hk : k ∈ liveIdx b := mem_live.2 ⟨x, hx, hon⟩
  have hcl : clientAt b k = x.client := by unfold clientAt; rw [hx]
  have hsub : (es.eraseIdx p).Sublist es := List.eraseIdx_sublist ..
  refine ⟨?_, h.keys.sublist (hsub.map _), fun e he => h.born e (hsub.subset he), h.nodup.sublist (hsub.map _), fun j hj => ?_⟩
  · rw [live_off hk hy]
    have h1 := ((perm_erase hp).map fun e => (e.1, e.2.1)).symm.trans h.perm
    have h2 := (perm_filter_ne (live_nodup b) hk).map fun j : Nat => (vi (clientAt b j), vi (j : Int))
    have h3 := h1.trans h2
    simp only [List.map_cons, hcl] at h3
    refine (List.Perm.cons_inv h3).trans (.of_eq (List.map_congr_left fun j _ => ?_))
    rw [clientAt_set hx hc]
  · rw [live_off hk hy] at hj
    rw [clientAt_set hx hc]
    exact h.rng j (List.mem_filter.1 hj).1

theorem MapOk.none {es : AEntries} {clock : Nat} {b : List TxD} (h : ∀ x ∈ b, x.on = false) : MapOk [] clock b := by
  have := live_none h
  exact ⟨by simp [this], by simp, by simp, by simp, by simp [this]⟩

theorem ofClient_of {es : AEntries} {clock : Nat} {b : List TxD} (h : MapOk es clock b) {k : Nat} {x : TxD} (hx : b[k]? = some x) (hon : x.on = true) : ofClient b x.client = some k := by
  have hk : k ∈ liveIdx b := mem_live.2 ⟨x, hx, hon⟩
  have hcl : clientAt b k = x.client := by unfold clientAt; rw [hx]
  have hf := h.find x.client
  cases hc : ofClient b x.client with
  | none => exact absurd hcl (ofClient_none hc k hk)
  | some j =>
    rw [hc] at hf
    obtain ⟨p, bn, hp, _⟩ := hf
    obtain ⟨e, he, e1, e2⟩ := h.ent hk
    obtain ⟨q, hq⟩ := List.mem_iff_getElem?.1 he
    have hpq := key_inj h.keys hp hq (by rw [e1, hcl])
    subst hpq
    rw [hp] at hq
    cases hq
    have e3 : (j : Int) = k := by simpa using e2
    rw [Int.ofNat_inj.1 e3]

end Go.Proofs.Ythbjfkkjmecaaaa
namespace Go.Proofs.Ythbjfkkjmecaaaa
open Go Go.Vm
set_option linter.unusedVariables false
set_option linter.unusedSimpArgs false

/-- The cells of a row. -/
structure RowC (c : List AVal) (r : RowD) : Prop where
  len : c.length = 41
  a0 : c[0]? = some (vi r.kind)
  a1 : c[1]? = some (vu r.life)
  a2 : c[2]? = some (vi r.actor)
  a3 : c[3]? = some (vu r.ticket)
  a4 : c[4]? = some (vi r.blk)
  av : (c.drop 5).take 32 = r.val
  a37 : c[37]? = some (vu r.pos)
  a38 : c[38]? = some (vi r.cnt)
  a39 : c[39]? = some (vi r.err)
  isv : IsVal r.val
  one : c.all AVal.one = true

def txc (x : TxD) (sv rv wv : AVal) : List AVal := [vi x.client, vu x.life, vu x.ticket, sv, rv, wv, vi x.begun, vi x.asked, vi x.commit, vu x.pos, vi x.done, vi x.fate]

def Lies (N : Nat) (H : AHeap) (o : Nat → Nat) (t : Nat) (v : AVal) : Prop := v.lies fun R => N ≤ R ∧ R < H.next ∧ o R = t

def SetV (H : AHeap) (N : Nat) (v : AVal) (l : List Int) : Prop := SliceE H N 1 v (l.map fun n => [vi n]) ∨ (l = [] ∧ ∃ R, v = .slice R 0 0 0 0 true 1 ∧ H.get R = some (.row [some (0, [])]))

structure TxAt (H : AHeap) (N : Nat) (o : Nat → Nat) (i : Nat) (e : List AVal) (x : TxD) (sv rv wv : AVal) : Prop where
  eq : e = txc x sv rv wv
  set : SetV H N sv x.set
  setL : Lies N H o (3 * i + 3) sv
  reads : SliceE H N 34 rv (x.reads.map ReadD.cells)
  readsL : Lies N H o (3 * i + 4) rv
  writes : SliceE H N 33 wv (x.writes.map ImgD.cells)
  writesL : Lies N H o (3 * i + 5) wv
  rvals : ∀ r ∈ x.reads, IsVal r.val
  wvals : ∀ w ∈ x.writes, IsVal w.val

def TxsAt (H : AHeap) (N : Nat) (o : Nat → Nat) (tvs : List (List AVal)) (b : List TxD) : Prop := tvs.length = b.length ∧ ∀ i e x, tvs[i]? = some e → b[i]? = some x → ∃ sv rv wv, TxAt H N o i e x sv rv wv

/-- The book B, all of it at N or behind; o tells what lies where. -/
structure Bk (H : AHeap) (N B : Nat) (b : List TxD) (tv : AVal) (M : Nat) (es : AEntries) (clock : Nat) (tvs : List (List AVal)) (o : Nat → Nat) : Prop where
  cells : Cells H B [tv, .map M, abool false]
  map : H.get M = some (.map es clock)
  ok : MapOk es clock b
  txs : SliceE H N 12 tv tvs
  txsL : Lies N H o 2 tv
  each : TxsAt H N o tvs b
  oB : o B = 0
  oM : o M = 1
  hB : N ≤ B ∧ B < H.next
  hM : N ≤ M ∧ M < H.next

variable {H H' : AHeap} {N B M clock i : Nat} {b : List TxD} {tv sv rv wv : AVal} {es : AEntries} {tvs : List (List AVal)} {o o' : Nat → Nat} {e : List AVal} {x : TxD}

theorem Lies.move {t : Nat} {v : AVal} (h : Lies N H o t v) (hn : H.next ≤ H'.next) (ho : ∀ A, A < H.next → o' A = o A) : Lies N H' o' t v := fun R ver off len kc ex esz e => by
  obtain ⟨h1, h2, h3⟩ := h R ver off len kc ex esz e
  exact ⟨h1, by omega, by rw [ho R h2, h3]⟩

theorem slice_move {esz t : Nat} {v : AVal} {l : List (List AVal)} (h : SliceE H N esz v l) (hl : Lies N H o t v) (hn : H.next ≤ H'.next) (hg : ∀ A, N ≤ A → A < H.next → o A = t → H'.get A = H.get A) : SliceE H' N esz v l := by
  rcases h with ⟨h0, h | ⟨R, ver, vs, h1, h2, h3, h4, h5⟩⟩
  · exact ⟨h0, .inl h⟩
  · exact ⟨h0, .inr ⟨R, ver, vs, h1, by omega, h3, by rw [hg R h1 h2 (hl _ _ _ _ _ _ _ h3).2.2]; exact h4, h5⟩⟩

theorem SetV.move {t : Nat} {v : AVal} {l : List Int} (h : SetV H N v l) (hl : Lies N H o t v) (hn : H.next ≤ H'.next) (hg : ∀ A, N ≤ A → A < H.next → o A = t → H'.get A = H.get A) : SetV H' N v l := by
  rcases h with h | ⟨h1, R, h2, h3⟩
  · exact .inl (slice_move h hl hn hg)
  · obtain ⟨q1, q2, q3⟩ := hl _ _ _ _ _ _ _ h2
    exact .inr ⟨h1, R, h2, by rw [hg R q1 q2 q3]; exact h3⟩

theorem TxAt.move (h : TxAt H N o i e x sv rv wv) (hn : H.next ≤ H'.next) (hg : ∀ A, N ≤ A → A < H.next → (o A = 3 * i + 3 ∨ o A = 3 * i + 4 ∨ o A = 3 * i + 5) → H'.get A = H.get A) (ho : ∀ A, A < H.next → o' A = o A) : TxAt H' N o' i e x sv rv wv where
  eq := h.eq
  set := h.set.move h.setL hn fun A a b c => hg A a b (.inl c)
  setL := h.setL.move hn ho
  reads := slice_move h.reads h.readsL hn fun A a b c => hg A a b (.inr (.inl c))
  readsL := h.readsL.move hn ho
  writes := slice_move h.writes h.writesL hn fun A a b c => hg A a b (.inr (.inr c))
  writesL := h.writesL.move hn ho
  rvals := h.rvals
  wvals := h.wvals

theorem TxsAt.move (h : TxsAt H N o tvs b) (hn : H.next ≤ H'.next) (hg : ∀ A, N ≤ A → A < H.next → 3 ≤ o A → H'.get A = H.get A) (ho : ∀ A, A < H.next → o' A = o A) : TxsAt H' N o' tvs b :=
  ⟨h.1, fun i e x h1 h2 => let ⟨sv, rv, wv, h3⟩ := h.2 i e x h1 h2; ⟨sv, rv, wv, h3.move hn (fun A a b c => hg A a b (by omega)) ho⟩⟩

theorem Bk.grow (h : Bk H N B b tv M es clock tvs o) (hg : Grow H H') : Bk H' N B b tv M es clock tvs o where
  cells := h.cells.mono (hg.get _ h.hB.2)
  map := by rw [hg.get _ h.hM.2]; exact h.map
  ok := h.ok
  txs := slice_move h.txs h.txsL hg.next fun A _ a _ => hg.get A a
  txsL := h.txsL.move hg.next fun _ _ => rfl
  each := h.each.move hg.next (fun A _ a _ => hg.get A a) fun _ _ => rfl
  oB := h.oB
  oM := h.oM
  hB := ⟨h.hB.1, by have := hg.next; have := h.hB.2; omega⟩
  hM := ⟨h.hM.1, by have := hg.next; have := h.hM.2; omega⟩

/-- A transaction of the book. -/
theorem Bk.tx (h : Bk H N B b tv M es clock tvs o) {k : Nat} (hx : b[k]? = some x) : ∃ R ver cells sv rv wv, tv = .slice R ver 0 b.length b.length false 12 ∧ N ≤ R ∧ R < H.next ∧ o R = 2 ∧ H.rowAt R ver = some cells ∧ k * 12 + 12 ≤ cells.length ∧
    (∀ f, f < 12 → cells[k * 12 + f]? = (txc x sv rv wv)[f]?) ∧ tvs[k]? = some (txc x sv rv wv) ∧ TxAt H N o k (txc x sv rv wv) x sv rv wv := by
  have hk := (List.getElem?_eq_some_iff.1 hx).1
  have hl := h.each.1
  have he : tvs[k]? = some tvs[k] := List.getElem?_eq_getElem (by omega)
  obtain ⟨sv, rv, wv, ht⟩ := h.each.2 k _ x he hx
  obtain ⟨R, ver, cells, h1, h2, h3, h4, h5, h6, _⟩ := h.txs.load he
  rw [hl] at h1
  rw [ht.eq] at h6 he
  refine ⟨R, ver, cells, sv, rv, wv, h1, h2, h3, (h.txsL _ _ _ _ _ _ _ h1).2.2, h4, h5, h6, he, ?_⟩
  rw [← ht.eq]; exact ht

/-- The places of those that have not ended: the known call. -/
theorem Bk.live (h : Bk H N B b tv M es clock tvs o) : liveKn 68 [vp B] H = some (liveRes H (es.map fun e => intOf e.2.1)) := by
  have h1 := h.cells.at
  have hc : (∀ e ∈ es, isVi e.2.1 = true ∧ e.2.2 < clock) ∧ es.length ≤ 12 ∧ (es.map (·.2.2)).Nodup ∧ B < H.next ∧ M < H.next :=
    ⟨fun e he => ⟨by obtain ⟨k, _, _, h2⟩ := h.ok.key he; rw [h2]; rfl, h.ok.born e he⟩, by have := h.ok.len; omega, h.ok.nodup, h.hB.2, h.hM.2⟩
  have h2 : liveOf H B = some (es.map fun e => intOf e.2.1) := by
    unfold liveOf
    rw [h1]
    simp only [Option.bind_some, List.getElem?_cons_succ, List.getElem?_cons_zero, h.map]
    rw [if_pos hc]
  simp only [liveKn, if_true, h2, Option.map_some]

/-- What 'live' gives: the places, rising. -/
theorem liveRes_at (H : AHeap) (l : List Int) : ∃ v H', liveRes H l = (v, H') ∧ Grow H H' ∧ aLenS v = some (vi l.length) ∧ ∀ (j : Nat) (z : Int), (srtI l)[j]? = some z → ∃ R ver cells, v = .slice R ver 0 l.length l.length false 1 ∧ H.next ≤ R ∧ R < H'.next ∧ H'.rowAt R ver = some cells ∧ j < cells.length ∧ cells[j]? = some (vi z) := by
  unfold liveRes
  by_cases h0 : l.length = 0
  · rw [if_pos h0]
    refine ⟨_, _, rfl, ⟨by simp, fun A _ => rfl⟩, by rw [h0]; rfl, fun j z hz => ?_⟩
    have := (List.getElem?_eq_some_iff.1 hz).1
    rw [srtI_len] at this; omega
  · rw [if_neg h0]
    refine ⟨_, _, rfl, ⟨by simp, fun A hA => by rw [AHeap.get_set_ne _ _ (by omega)]; rfl⟩, rfl, fun j z hz => ?_⟩
    have hj := (List.getElem?_eq_some_iff.1 hz).1
    refine ⟨_, _, (srtI l).map vi, rfl, by omega, by simp; omega, ?_, by simpa using hj, by rw [List.getElem?_map, hz]; rfl⟩
    rw [rowAt_eq, AHeap.get_set_same]
    simp only [rowOf]
    rw [List.getElem?_append_right (by simp)]
    simp

end Go.Proofs.Ythbjfkkjmecaaaa
