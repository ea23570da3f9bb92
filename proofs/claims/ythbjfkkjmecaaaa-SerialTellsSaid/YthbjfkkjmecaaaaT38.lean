/- The plain law of SerialTells, part 1: what the value of a read changes in the book, and which rows are a transaction's reads. -/
import Derived.Test.YthbjfkkjmecaaaaT37
set_option linter.unusedVariables false
set_option linter.unusedSimpArgs false
namespace Go.Proofs.Ythbjfkkjmecaaaa
open Go Go.Vm
variable {kn : Known} {env : Nat → Option AFunc}
variable {rows rows' l : List RowD} {r r' : RowD} {b b' : List TxD} {x y : TxD} {i c : Int} {t k n : Nat}
def erX (x : TxD) : TxD := { x with reads := x.reads.map fun y => ⟨y.row, y.blk, []⟩ }
def erR (r : RowD) : RowD := if r.kind = 5 then { r with val := [] } else r
theorem erR_is (r : RowD) : (erR r).kind = r.kind ∧ (erR r).life = r.life ∧ (erR r).actor = r.actor ∧ (erR r).ticket = r.ticket ∧ (erR r).blk = r.blk ∧ (erR r).pos = r.pos ∧ (erR r).set = r.set := by
  unfold erR; split <;> exact ⟨rfl, rfl, rfl, rfl, rfl, rfl, rfl⟩
theorem onAt_er (b : List TxD) (k : Nat) : onAt (b.map erX) k = onAt b k := by
  unfold onAt; rw [List.getElem?_map]; cases b[k]? <;> rfl
theorem live_er (b : List TxD) : liveIdx (b.map erX) = liveIdx b := live_same (by simp [-getElem?_pos]) (onAt_er b)
theorem clientAt_er (b : List TxD) (k : Nat) : clientAt (b.map erX) k = clientAt b k := by
  unfold clientAt; rw [List.getElem?_map]; cases b[k]? <;> rfl
theorem tickAt_er (b : List TxD) (t : Int) (k : Nat) : tickAt (b.map erX) t k = tickAt b t k := by
  unfold tickAt; rw [List.getElem?_map]; cases b[k]? <;> rfl
theorem ofClient_er (b : List TxD) (c : Int) : ofClient (b.map erX) c = ofClient b c := by
  unfold ofClient; rw [live_er]; congr 1; funext k; rw [clientAt_er]
theorem onlyB_er (b : List TxD) (t : Int) : onlyB (b.map erX) t = onlyB b t := by
  unfold onlyB; rw [live_er]; congr 2; funext k; rw [tickAt_er]
theorem ofB_er (b : List TxD) (r : RowD) : ofB (b.map erX) (erR r) = ofB b r := by
  obtain ⟨e1, e2, e3, e4, e5, e6, e7⟩ := erR_is r
  unfold ofB
  rw [e3, e4, ofClient_er]
  congr 1; funext k
  rw [List.getElem?_map]
  cases b[k]? <;> rfl
theorem updB_er {f g : TxD → TxD} (h : ∀ x, g (erX x) = erX (f x)) : updB (b.map erX) k g = (updB b k f).map erX := by
  unfold updB
  rw [List.getElem?_map]
  cases b[k]? with
  | none => rfl
  | some x =>
    show (b.map erX).set k (g (erX x)) = (b.set k (f x)).map erX
    rw [h, List.map_set]
theorem stepC_er : stepC (b.map erX) i (erR r) = (stepC b i r).map (List.map erX) := by
  obtain ⟨e1, e2, e3, e4, e5, e6, e7⟩ := erR_is r
  unfold stepC
  rw [e1, e3, e4, ofClient_er, ofB_er]
  by_cases h1 : ¬ (0 ≤ r.actor ∧ r.actor < 8)
  · rw [if_pos h1, if_pos h1]; rfl
  rw [if_neg h1, if_neg h1]
  by_cases h2 : r.kind = 1 ∨ (r.kind = 7 ∧ r.ticket = 0)
  · rw [if_pos h2, if_pos h2]; split <;> rfl
  rw [if_neg h2, if_neg h2]
  by_cases h3 : r.kind = 2
  · rw [if_pos h3, if_pos h3]
    split
    · rfl
    · simp [-getElem?_pos, newTx, erX, e2, e3, e4, e7]
  rw [if_neg h3, if_neg h3]
  cases ofB b r with
  | none => rfl
  | some k =>
    simp only [Option.map_some]
    congr 1
    by_cases h5 : r.kind = 5
    · rw [if_pos h5, if_pos h5]
      exact updB_er fun x => by simp [-getElem?_pos, erX, erR, h5]
    rw [if_neg h5, if_neg h5]
    by_cases h6 : r.kind = 6
    · rw [if_pos h6, if_pos h6]
      exact updB_er fun x => by simp [-getElem?_pos, erX, erR, h5]
    rw [if_neg h6, if_neg h6]
    by_cases h8 : r.kind = 8
    · rw [if_pos h8, if_pos h8]
      exact updB_er fun x => rfl
    rw [if_neg h8, if_neg h8]
    by_cases h9 : r.kind = 9
    · rw [if_pos h9, if_pos h9]
      exact updB_er fun x => rfl
    rw [if_neg h9, if_neg h9]
theorem stepD_er : stepD (b.map erX) i (erR r) = (stepD b i r).map (List.map erX) := by
  obtain ⟨e1, e2, e3, e4, e5, e6, e7⟩ := erR_is r
  unfold stepD
  rw [e1, e4, e5, e6, onlyB_er, stepC_er]
  by_cases h1 : 1 ≤ r.kind ∧ r.kind ≤ 9
  · rw [if_pos h1, if_pos h1]
  rw [if_neg h1, if_neg h1]
  by_cases h2 : r.kind = 11
  · rw [if_pos h2, if_pos h2]
    cases onlyB b r.ticket with
    | none => rfl
    | some k =>
      simp only [Option.bind_some]
      rw [List.getElem?_map]
      cases b[k]? with
      | none => rfl
      | some x =>
        simp only [Option.map_some, Option.bind_some]
        show (if 0 ≤ x.asked ∧ x.commit < 0 then _ else _) = _
        by_cases h : 0 ≤ x.asked ∧ x.commit < 0
        · rw [if_pos h, if_pos h]
          simp only [Option.map_some]
          congr 1
          by_cases h' : r.blk = -1
          · rw [if_pos h', if_pos h', List.map_set]; rfl
          · rw [if_neg h', if_neg h']
        · rw [if_neg h, if_neg h]; rfl
  rw [if_neg h2, if_neg h2]
  by_cases h3 : r.kind = 13
  · rw [if_pos h3, if_pos h3]
    cases onlyB b r.ticket with
    | none => rfl
    | some k =>
      simp only [Option.bind_some]
      rw [List.getElem?_map]
      cases b[k]? with
      | none => rfl
      | some x =>
        simp only [Option.map_some, Option.bind_some]
        show (if 0 ≤ x.commit ∧ x.pos = r.pos then _ else _) = _
        by_cases h : 0 ≤ x.commit ∧ x.pos = r.pos
        · rw [if_pos h, if_pos h]
          simp only [Option.map_some]
          congr 1
          rw [List.map_set]; rfl
        · rw [if_neg h, if_neg h]; rfl
  rw [if_neg h3, if_neg h3]
  by_cases h4 : r.kind = 18
  · rw [if_pos h4, if_pos h4]
    simp only [Option.map_some, List.map_map]
    congr 2; funext x
    show (if x.on = true then _ else _) = erX (if x.on = true then _ else _)
    split <;> rfl
  rw [if_neg h4, if_neg h4]
  by_cases h5 : r.kind = 19
  · rw [if_pos h5, if_pos h5]
    simp only [Option.map_some, List.map_map]
    congr 2; funext x
    show (if x.fate = 4 then _ else _) = erX (if x.fate = 4 then _ else _)
    split <;> rfl
  rw [if_neg h5, if_neg h5]; rfl
theorem stepsD_er : ∀ (l : List RowD) (b : List TxD) (i : Nat), stepsD (b.map erX) i (l.map erR) = (stepsD b i l).map (List.map erX)
  | [], b, i => rfl
  | r :: l, b, i => by
    show (stepD (b.map erX) i (erR r)).bind _ = _
    rw [stepD_er]
    show _ = ((stepD b i r).bind _).map _
    cases h : stepD b i r with
    | none => rfl
    | some b' => exact stepsD_er l b' (i + 1)
theorem txsD_er : txsD (rows.map erR) = (txsD rows).map (List.map erX) := by
  unfold txsD
  have h := stepsD_er rows [] 0
  rw [List.map_nil] at h
  rw [h]
  cases stepsD [] 0 rows with
  | none => rfl
  | some b =>
    simp only [Option.map_some, List.map_map]
    congr 2; funext x
    show endD (erX x) = erX (endD x)
    unfold endD
    show (if x.on = true then _ else _) = _
    split <;> rfl
theorem txsD_same (h : rows'.map erR = rows.map erR) : (txsD rows').map (List.map erX) = (txsD rows).map (List.map erX) := by
  rw [← txsD_er, ← txsD_er, h]
def ownJ (c : Int) : Nat → List RowD → List (Nat × RowD)
  | _, [] => []
  | i, r :: l => if r.actor ≠ c then ownJ c (i + 1) l else if r.kind = 2 then [] else if r.kind = 5 ∨ r.kind = 6 then (i, r) :: ownJ c (i + 1) l else ownJ c (i + 1) l
theorem ownJ_rows (c : Int) : ∀ (l : List RowD) (i : Nat), (ownJ c i l).map (·.2) = ownB c l
  | [], i => rfl
  | r :: l, i => by
    unfold ownJ ownB
    split
    · exact ownJ_rows c l _
    · split
      · rfl
      · split
        · rw [List.map_cons, ownJ_rows c l]
        · exact ownJ_rows c l _
def begs (c : Int) (l : List RowD) : Prop := ∃ r ∈ l, r.actor = c ∧ r.kind = 2
theorem ownJ_at (c : Int) : ∀ (l : List RowD) (i : Nat) (e : Nat × RowD), e ∈ ownJ c i l → ∃ k, e.1 = i + k ∧ l[k]? = some e.2 ∧ e.2.actor = c ∧ (e.2.kind = 5 ∨ e.2.kind = 6) ∧ ¬ begs c (l.take k)
  | [], i, e, h => by simp [-getElem?_pos, ownJ] at h
  | r :: l, i, e, h => by
    have up : ¬ (r.actor = c ∧ r.kind = 2) → e ∈ ownJ c (i + 1) l → ∃ k, e.1 = i + k ∧ (r :: l)[k]? = some e.2 ∧ e.2.actor = c ∧ (e.2.kind = 5 ∨ e.2.kind = 6) ∧ ¬ begs c ((r :: l).take k) := fun hr he => by
      obtain ⟨k, h1, h2, h3, h4, h5⟩ := ownJ_at c l (i + 1) e he
      refine ⟨k + 1, by omega, by rw [List.getElem?_cons_succ]; exact h2, h3, h4, ?_⟩
      rintro ⟨q, hq, h6⟩
      rw [List.take_succ_cons] at hq
      rcases List.mem_cons.1 hq with rfl | hq
      · exact hr h6
      · exact h5 ⟨q, hq, h6⟩
    unfold ownJ at h
    split at h
    · rename_i h1; exact up (fun q => h1 q.1) h
    · rename_i h1
      split at h
      · simp [-getElem?_pos] at h
      · rename_i h2
        split at h
        · rename_i h3
          rcases List.mem_cons.1 h with rfl | h
          · exact ⟨0, rfl, rfl, Classical.byContradiction h1, h3, fun ⟨q, hq, _⟩ => by simp [-getElem?_pos] at hq⟩
          · exact up (fun q => h2 q.2) h
        · exact up (fun q => h2 q.2) h
theorem ownJ_c0 {q : RowD} {l : List RowD} {i : Nat} (h : ¬ q.actor = c) : ownJ c i (q :: l) = ownJ c (i + 1) l := if_pos h
theorem ownJ_c1 {q : RowD} {l : List RowD} {i : Nat} (h : q.actor = c) (h2 : q.kind = 2) : ownJ c i (q :: l) = [] := by
  show (if q.actor ≠ c then _ else _) = _
  rw [if_neg (fun z => z h), if_pos h2]
theorem ownJ_c2 {q : RowD} {l : List RowD} {i : Nat} (h : q.actor = c) (h2 : ¬ q.kind = 2) (h3 : q.kind = 5 ∨ q.kind = 6) : ownJ c i (q :: l) = (i, q) :: ownJ c (i + 1) l := by
  show (if q.actor ≠ c then _ else _) = _
  rw [if_neg (fun z => z h), if_neg h2, if_pos h3]
theorem ownJ_c3 {q : RowD} {l : List RowD} {i : Nat} (h : q.actor = c) (h2 : ¬ q.kind = 2) (h3 : ¬ (q.kind = 5 ∨ q.kind = 6)) : ownJ c i (q :: l) = ownJ c (i + 1) l := by
  show (if q.actor ≠ c then _ else _) = _
  rw [if_neg (fun z => z h), if_neg h2, if_neg h3]
open Classical in
theorem ownJ_push (c : Int) (r : RowD) : ∀ (l : List RowD) (i : Nat), ownJ c i (l ++ [r]) = if begs c l then ownJ c i l else ownJ c i l ++ (if r.actor = c ∧ (r.kind = 5 ∨ r.kind = 6) then [(i + l.length, r)] else [])
  | [], i => by
    rw [if_neg (fun ⟨q, hq, _⟩ => by simp [-getElem?_pos] at hq)]
    show ownJ c i [r] = [] ++ _
    rw [List.nil_append]
    unfold ownJ
    by_cases h1 : r.actor = c
    · rw [if_neg (fun q => q h1)]
      by_cases h2 : r.kind = 2
      · rw [if_pos h2, if_neg (fun q => by omega)]
      · rw [if_neg h2]
        by_cases h3 : r.kind = 5 ∨ r.kind = 6
        · rw [if_pos h3, if_pos ⟨h1, h3⟩]; rfl
        · rw [if_neg h3, if_neg (fun q => h3 q.2)]; rfl
    · rw [if_pos h1, if_neg (fun q => h1 q.1)]; rfl
  | q :: l, i => by
    have ih := ownJ_push c r l (i + 1)
    have hb : ¬ (q.actor = c ∧ q.kind = 2) → (begs c (q :: l) ↔ begs c l) := fun hn => ⟨fun ⟨z, hz, h⟩ => by
      rcases List.mem_cons.1 hz with rfl | hz
      · exact absurd h hn
      · exact ⟨z, hz, h⟩, fun ⟨z, hz, h⟩ => ⟨z, List.mem_cons_of_mem _ hz, h⟩⟩
    have hi : i + 1 + l.length = i + (q :: l).length := by rw [List.length_cons]; omega
    rw [hi] at ih
    rw [List.cons_append]
    by_cases h1 : q.actor = c
    · by_cases h2 : q.kind = 2
      · rw [ownJ_c1 h1 h2, ownJ_c1 h1 h2, if_pos ⟨q, List.mem_cons_self .., h1, h2⟩]
      · have hb := hb fun z => h2 z.2
        by_cases h3 : q.kind = 5 ∨ q.kind = 6
        · rw [ownJ_c2 h1 h2 h3, ownJ_c2 h1 h2 h3, ih]
          by_cases h4 : begs c l
          · rw [if_pos h4, if_pos (hb.2 h4)]
          · rw [if_neg h4, if_neg (fun z => h4 (hb.1 z))]; rfl
        · rw [ownJ_c3 h1 h2 h3, ownJ_c3 h1 h2 h3, ih]
          by_cases h4 : begs c l
          · rw [if_pos h4, if_pos (hb.2 h4)]
          · rw [if_neg h4, if_neg (fun z => h4 (hb.1 z))]
    · have hb := hb fun z => h1 z.1
      rw [ownJ_c0 h1, ownJ_c0 h1, ih]
      by_cases h4 : begs c l
      · rw [if_pos h4, if_pos (hb.2 h4)]
      · rw [if_neg h4, if_neg (fun z => h4 (hb.1 z))]
theorem begs_push (c : Int) (r : RowD) (l : List RowD) : begs c (l ++ [r]) ↔ begs c l ∨ (r.actor = c ∧ r.kind = 2) := by
  constructor
  · rintro ⟨q, hq, h⟩
    rcases List.mem_append.1 hq with hq | hq
    · exact .inl ⟨q, hq, h⟩
    · simp [-getElem?_pos] at hq; subst hq; exact .inr h
  · rintro (⟨q, hq, h⟩ | h)
    · exact ⟨q, List.mem_append_left _ hq, h⟩
    · exact ⟨r, by simp [-getElem?_pos], h⟩
def rdOf (e : Nat × RowD) : ReadD := ⟨e.1, e.2.blk, e.2.val⟩
def isRd (e : Nat × RowD) : Bool := decide (e.2.kind = 5)
abbrev rdsJ (c : Int) (i : Nat) (l : List RowD) : List ReadD := ((ownJ c i l).filter isRd).map rdOf
theorem rdsJ_skip (c : Int) (r : RowD) (l : List RowD) (i : Nat) (h : begs c l ∨ r.actor ≠ c ∨ r.kind ≠ 5) : rdsJ c i (l ++ [r]) = rdsJ c i l := by
  unfold rdsJ
  rw [ownJ_push]
  by_cases h1 : begs c l
  · rw [if_pos h1]
  · rw [if_neg h1]
    rcases h with h | h | h
    · exact absurd h h1
    · rw [if_neg (fun q => h q.1), List.append_nil]
    · split
      · rw [List.filter_append]; simp [-getElem?_pos, isRd, h]
      · rw [List.append_nil]
theorem rdsJ_read (c : Int) (r : RowD) (l : List RowD) (i : Nat) (h : ¬ begs c l) (h1 : r.actor = c) (h2 : r.kind = 5) : rdsJ c i (l ++ [r]) = rdsJ c i l ++ [⟨(i + l.length : Nat), r.blk, r.val⟩] := by
  unfold rdsJ
  rw [ownJ_push, if_neg h, if_pos ⟨h1, .inl h2⟩, List.filter_append, List.map_append]
  simp [-getElem?_pos, isRd, h2, rdOf]
theorem stepD_what (hs : stepD b n r = some b') :
    (r.kind = 2 ∧ ofClient b r.actor = none ∧ b' = b ++ [newTx n r]) ∨
    (r.kind = 5 ∧ ∃ (k : Nat) (x : TxD), b[k]? = some x ∧ x.on = true ∧ x.client = r.actor ∧ b' = b.set k { x with reads := x.reads ++ [⟨n, r.blk, r.val⟩] }) ∨
    (r.kind ≠ 2 ∧ r.kind ≠ 5 ∧ ∀ (t : Nat) (y : TxD), b'[t]? = some y → ∃ x : TxD, b[t]? = some x ∧ y.client = x.client ∧ y.begun = x.begun ∧ y.reads = x.reads ∧ (y.on = true → x.on = true)) := by
  have one : ∀ {k : Nat} {x x' : TxD}, b[k]? = some x → x'.client = x.client → x'.begun = x.begun → x'.reads = x.reads → (x'.on = true → x.on = true) → ∀ (t : Nat) (y : TxD), (b.set k x')[t]? = some y → ∃ x : TxD, b[t]? = some x ∧ y.client = x.client ∧ y.begun = x.begun ∧ y.reads = x.reads ∧ (y.on = true → x.on = true) := fun {k x x'} hx h1 h2 h3 h4 t y hy => by
    rw [List.getElem?_set] at hy
    split at hy
    · rename_i e; subst e
      split at hy
      · cases hy; exact ⟨x, hx, h1, h2, h3, h4⟩
      · cases hy
    · exact ⟨y, hy, rfl, rfl, rfl, id⟩
  have same : ∀ (t : Nat) (y : TxD), b[t]? = some y → ∃ x : TxD, b[t]? = some x ∧ y.client = x.client ∧ y.begun = x.begun ∧ y.reads = x.reads ∧ (y.on = true → x.on = true) := fun t y hy => ⟨y, hy, rfl, rfl, rfl, id⟩
  have all : ∀ {f : TxD → TxD}, (∀ x, (f x).client = x.client ∧ (f x).begun = x.begun ∧ (f x).reads = x.reads ∧ ((f x).on = true → x.on = true)) → ∀ (t : Nat) (y : TxD), (b.map f)[t]? = some y → ∃ x : TxD, b[t]? = some x ∧ y.client = x.client ∧ y.begun = x.begun ∧ y.reads = x.reads ∧ (y.on = true → x.on = true) := fun {f} hf t y hy => by
    rw [List.getElem?_map] at hy
    obtain ⟨x, hx, rfl⟩ := Option.map_eq_some_iff.1 hy
    exact ⟨x, hx, hf x⟩
  unfold stepD at hs
  split at hs
  · rename_i hk
    unfold stepC at hs
    split at hs
    · cases hs
    · split at hs
      · rename_i h17
        split at hs
        · cases hs
        · cases hs; exact .inr (.inr ⟨by omega, by omega, same⟩)
      · split at hs
        · rename_i h2
          split at hs
          · cases hs
          · rename_i hno
            cases hs
            refine .inl ⟨h2, ?_, rfl⟩
            cases h : ofClient b r.actor with
            | none => rfl
            | some k => rw [h] at hno; exact absurd rfl hno
        · rename_i h2
          obtain ⟨k, hk, rfl⟩ := Option.map_eq_some_iff.1 hs
          have hcl : ∃ x, b[k]? = some x ∧ x.on = true ∧ x.client = r.actor := by
            unfold ofB at hk
            obtain ⟨j, g1, g2⟩ := Option.bind_eq_some_iff.1 hk
            obtain ⟨x, g3, g4⟩ := Option.bind_eq_some_iff.1 g2
            split at g4
            · cases g4
              obtain ⟨q1, q2⟩ := ofClient_some g1
              obtain ⟨z, q3, q4⟩ := mem_live.1 q1
              rw [q3] at g3; cases g3
              unfold clientAt at q2; rw [q3] at q2
              exact ⟨x, q3, q4, q2⟩
            · cases g4
          obtain ⟨x, hx, hon, hcx⟩ := hcl
          have hup : ∀ f : TxD → TxD, updB b k f = b.set k (f x) := fun f => by unfold updB; rw [hx]
          by_cases h5 : r.kind = 5
          · rw [if_pos h5, hup]
            exact .inr (.inl ⟨h5, k, x, hx, hon, hcx, rfl⟩)
          · rw [if_neg h5]
            refine .inr (.inr ⟨h2, h5, ?_⟩)
            split
            · rw [hup]; exact one hx rfl rfl rfl id
            · split
              · rw [hup]; exact one hx rfl rfl rfl id
              · split
                · rw [hup]; exact one hx rfl rfl rfl fun h => by cases h
                · exact same
  · rename_i hk
    refine .inr (.inr ⟨by omega, by omega, ?_⟩)
    split at hs
    · obtain ⟨k, hk, hs⟩ := Option.bind_eq_some_iff.1 hs
      obtain ⟨x, hx, hs⟩ := Option.bind_eq_some_iff.1 hs
      split at hs
      · cases hs
        split
        · exact one hx rfl rfl rfl id
        · exact same
      · cases hs
    · split at hs
      · obtain ⟨k, hk, hs⟩ := Option.bind_eq_some_iff.1 hs
        obtain ⟨x, hx, hs⟩ := Option.bind_eq_some_iff.1 hs
        split at hs
        · cases hs
          exact one hx rfl rfl rfl fun h => by cases h
        · cases hs
      · split at hs
        · cases hs
          exact all fun x => by split <;> first | exact ⟨rfl, rfl, rfl, id⟩ | exact ⟨rfl, rfl, rfl, fun h => by cases h⟩
        · split at hs
          · cases hs
            exact all fun x => by split <;> exact ⟨rfl, rfl, rfl, id⟩
          · cases hs; exact same
structure TxIs (rows : List RowD) (n : Nat) (x : TxD) (g : Nat) : Prop where
  begun : x.begun = g
  lt : g < n
  row : ∃ r, rows[g]? = some r ∧ r.kind = 2 ∧ r.actor = x.client
  reads : x.reads = rdsJ x.client (g + 1) ((rows.take n).drop (g + 1))
  on : x.on = true → ¬ begs x.client ((rows.take n).drop (g + 1))
structure RdInv (rows : List RowD) (n : Nat) (b : List TxD) : Prop where
  each : ∀ (t : Nat) (x : TxD), b[t]? = some x → ∃ g, TxIs rows n x g
  inc : ∀ (t u : Nat) (x y : TxD), t < u → b[t]? = some x → b[u]? = some y → x.begun < y.begun
theorem rng_push (hr : rows[n]? = some r) {g : Nat} (hg : g < n) : (rows.take (n + 1)).drop (g + 1) = (rows.take n).drop (g + 1) ++ [r] := by
  have hn := (List.getElem?_eq_some_iff.1 hr).1
  rw [List.take_add_one, hr, List.drop_append_of_le_length (by simp [-getElem?_pos]; omega)]; rfl
theorem rng_len (hr : rows[n]? = some r) {g : Nat} (hg : g < n) : g + 1 + ((rows.take n).drop (g + 1)).length = n := by
  have hn := (List.getElem?_eq_some_iff.1 hr).1
  simp [-getElem?_pos]; omega
theorem rng_beg (hr : rows[n]? = some r) {g h : Nat} (hg : g < h) (hh : h < n) {q : RowD} (hq : rows[h]? = some q) (h1 : q.actor = c) (h2 : q.kind = 2) : begs c ((rows.take n).drop (g + 1)) := by
  have hn := (List.getElem?_eq_some_iff.1 hr).1
  refine ⟨q, ?_, h1, h2⟩
  rw [List.mem_iff_getElem?]
  refine ⟨h - (g + 1), ?_⟩
  rw [List.getElem?_drop, List.getElem?_take, if_pos (by omega), show g + 1 + (h - (g + 1)) = h by omega, hq]
theorem RdInv.step (h : RdInv rows n b) (hr : rows[n]? = some r) (hs : stepD b n r = some b') : RdInv rows (n + 1) b' := by
  rcases stepD_what hs with ⟨h2, hno, rfl⟩ | ⟨h5, k, x0, hx0, hon0, hc0, rfl⟩ | ⟨h2, h5, hsame⟩
  · have old : ∀ (t : Nat) (x : TxD), b[t]? = some x → ∃ g, TxIs rows (n + 1) x g := fun t x hx => by
      obtain ⟨g, e⟩ := h.each t x hx
      refine ⟨g, e.begun, by have := e.lt; omega, e.row, ?_, fun hon => ?_⟩
      · rw [rng_push hr e.lt, rdsJ_skip _ _ _ _ (.inr (.inr (by omega)))]; exact e.reads
      · rw [rng_push hr e.lt, begs_push]
        rintro (q | q)
        · exact e.on hon q
        · refine ofClient_none hno t (mem_live.2 ⟨x, hx, hon⟩) ?_
          unfold clientAt; rw [hx]; exact q.1.symm
    refine ⟨fun t x hx => ?_, fun t u x y htu hx hy => ?_⟩
    · rcases Nat.lt_or_ge t b.length with ht | ht
      · rw [List.getElem?_append_left ht] at hx; exact old t x hx
      · have ht2 := (List.getElem?_eq_some_iff.1 hx).1
        simp [-getElem?_pos] at ht2
        have : t = b.length := by omega
        subst this
        rw [List.getElem?_concat_length] at hx; cases hx
        have hn := (List.getElem?_eq_some_iff.1 hr).1
        have he : (rows.take (n + 1)).drop (n + 1) = [] := by rw [List.drop_eq_nil_iff, List.length_take]; omega
        exact ⟨n, rfl, by omega, ⟨r, hr, h2, rfl⟩, by rw [he]; rfl, fun _ ⟨q, hq, _⟩ => by rw [he] at hq; simp [-getElem?_pos] at hq⟩
    · have hu := (List.getElem?_eq_some_iff.1 hy).1
      simp [-getElem?_pos] at hu
      rw [List.getElem?_append_left (by omega)] at hx
      rcases Nat.lt_or_ge u b.length with hu2 | hu2
      · rw [List.getElem?_append_left hu2] at hy; exact h.inc t u x y htu hx hy
      · have : u = b.length := by omega
        subst this
        rw [List.getElem?_concat_length] at hy; cases hy
        obtain ⟨g, e⟩ := h.each t x hx
        rw [e.begun]
        show (g : Int) < (n : Int)
        have := e.lt; omega
  · obtain ⟨g0, e0⟩ := h.each k x0 hx0
    have hk := (List.getElem?_eq_some_iff.1 hx0).1
    refine ⟨fun t x hx => ?_, fun t u x y htu hx hy => ?_⟩
    · rw [List.getElem?_set] at hx
      split at hx
      · rename_i e; subst e
        cases hx
        refine ⟨g0, e0.begun, by have := e0.lt; omega, e0.row, ?_, fun hon => ?_⟩
        · show x0.reads ++ _ = _
          rw [rng_push hr e0.lt, rdsJ_read _ _ _ _ (e0.on hon0) hc0.symm h5, rng_len hr e0.lt, e0.reads]
        · show ¬ begs x0.client _
          rw [rng_push hr e0.lt, begs_push]
          rintro (q | q)
          · exact e0.on hon0 q
          · omega
      · rename_i hne
        obtain ⟨g, e⟩ := h.each t x hx
        refine ⟨g, e.begun, by have := e.lt; omega, e.row, ?_, fun hon => ?_⟩
        · rw [rng_push hr e.lt, rdsJ_skip _ _ _ _ ?_]
          · exact e.reads
          · by_cases hc : r.actor = x.client
            · refine .inl ?_
              rcases Nat.lt_or_ge t k with htk | htk
              · have := h.inc t k x x0 htk hx hx0
                rw [e.begun, e0.begun] at this
                obtain ⟨q, q1, q2, q3⟩ := e0.row
                exact rng_beg hr (by omega) e0.lt q1 (by rw [q3, hc0, hc]) q2
              · have := h.inc k t x0 x (by omega) hx0 hx
                rw [e.begun, e0.begun] at this
                obtain ⟨q, q1, q2, q3⟩ := e.row
                exact absurd (rng_beg hr (by omega) e.lt q1 (by rw [q3, ← hc, hc0]) q2) (e0.on hon0)
            · exact .inr (.inl hc)
        · rw [rng_push hr e.lt, begs_push]
          rintro (q | q)
          · exact e.on hon q
          · omega
    · have key : ∀ (j : Nat) (z : TxD), (b.set k { x0 with reads := x0.reads ++ [⟨n, r.blk, r.val⟩] })[j]? = some z → ∃ z', b[j]? = some z' ∧ z.begun = z'.begun := fun j z hz => by
        rw [List.getElem?_set] at hz
        split at hz
        · rename_i e; subst e
          cases hz; exact ⟨x0, hx0, rfl⟩
        · exact ⟨z, hz, rfl⟩
      obtain ⟨x', q1, q2⟩ := key t x hx
      obtain ⟨y', q3, q4⟩ := key u y hy
      rw [q2, q4]
      exact h.inc t u x' y' htu q1 q3
  · refine ⟨fun t y hy => ?_, fun t u y z htu hy hz => ?_⟩
    · obtain ⟨x, hx, q1, q2, q3, q4⟩ := hsame t y hy
      obtain ⟨g, e⟩ := h.each t x hx
      refine ⟨g, by rw [q2]; exact e.begun, by have := e.lt; omega, by rw [q1]; exact e.row, ?_, fun hon => ?_⟩
      · rw [q1, q3, rng_push hr e.lt, rdsJ_skip _ _ _ _ (.inr (.inr h5))]; exact e.reads
      · rw [q1, rng_push hr e.lt, begs_push]
        rintro (q | q)
        · exact e.on (q4 hon) q
        · exact h2 q.2
    · obtain ⟨x1, a1, a2, a3, a4, a5⟩ := hsame t y hy
      obtain ⟨x2, b1, b2, b3, b4, b5⟩ := hsame u z hz
      rw [a3, b3]; exact h.inc t u x1 x2 htu a1 b1
theorem RdInv.all : ∀ (n : Nat) (b : List TxD), n ≤ rows.length → stepsD [] 0 (rows.take n) = some b → RdInv rows n b
  | 0, b, _, h => by
    cases h
    exact ⟨fun t x hx => by simp [-getElem?_pos] at hx, fun t u x y _ hx => by simp [-getElem?_pos] at hx⟩
  | n + 1, b, hn, h => by
    obtain ⟨r, hr⟩ : ∃ r, rows[n]? = some r := ⟨_, List.getElem?_eq_getElem (by omega)⟩
    rw [steps_succ hr] at h
    obtain ⟨b1, h1, h2⟩ := Option.bind_eq_some_iff.1 h
    exact (RdInv.all n b1 (by omega) h1).step hr h2
structure TxRd (rows : List RowD) (x : TxD) (g : Nat) : Prop where
  begun : x.begun = g
  lt : g < rows.length
  row : ∃ r, rows[g]? = some r ∧ r.kind = 2 ∧ r.actor = x.client
  reads : x.reads = rdsJ x.client (g + 1) (rows.drop (g + 1))
theorem txsD_reads {txs : List TxD} (h : txsD rows = some txs) : (∀ (t : Nat) (x : TxD), txs[t]? = some x → ∃ g, TxRd rows x g) ∧ ∀ (t u : Nat) (x y : TxD), t < u → txs[t]? = some x → txs[u]? = some y → x.begun < y.begun := by
  unfold txsD at h
  obtain ⟨b, hb, rfl⟩ := Option.map_eq_some_iff.1 h
  have hI := RdInv.all (rows := rows) rows.length b (Nat.le_refl _) (by rw [List.take_length]; exact hb)
  have he : ∀ x, (endD x).client = x.client ∧ (endD x).begun = x.begun ∧ (endD x).reads = x.reads := fun x => by unfold endD; split <;> exact ⟨rfl, rfl, rfl⟩
  refine ⟨fun t y hy => ?_, fun t u y z htu hy hz => ?_⟩
  · rw [List.getElem?_map] at hy
    obtain ⟨x, hx, rfl⟩ := Option.map_eq_some_iff.1 hy
    obtain ⟨g, e⟩ := hI.each t x hx
    obtain ⟨e1, e2, e3⟩ := he x
    exact ⟨g, by rw [e2]; exact e.begun, e.lt, by rw [e1]; exact e.row, by have := e.reads; rw [List.take_length] at this; rw [e1, e3]; exact this⟩
  · rw [List.getElem?_map] at hy hz
    obtain ⟨x1, a1, rfl⟩ := Option.map_eq_some_iff.1 hy
    obtain ⟨x2, b1, rfl⟩ := Option.map_eq_some_iff.1 hz
    rw [(he x1).2.1, (he x2).2.1]
    exact hI.inc t u x1 x2 htu a1 b1
end Go.Proofs.Ythbjfkkjmecaaaa
namespace Go.Proofs.Ythbjfkkjmecaaaa
open Go Go.Vm
variable {kn : Known} {env : Nat → Option AFunc}
variable {txs txs' : List TxD} {o o' : List Int} {x : TxD} {k : Nat}
def counts (x : TxD) : Bool := decide (x.fate = 5 ∨ x.fate = 6)
def cntAt (txs : List TxD) (k : Nat) : Bool := match txs[k]? with
  | some x => counts x
  | none => false
def posA (txs : List TxD) (z : Int) : Int := match txs[z.toNat]? with
  | some x => x.pos
  | none => 0
def cntL (txs : List TxD) (n : Nat) : List Int := ((List.range n).filter (cntAt txs)).map fun k : Nat => (k : Int)
theorem cntL_succ (txs : List TxD) (n : Nat) : cntL txs (n + 1) = cntL txs n ++ (if cntAt txs n = true then [(n : Int)] else []) := by
  unfold cntL
  rw [List.range_succ, List.filter_append, List.map_append]
  congr 1
  by_cases h : cntAt txs n = true
  · rw [if_pos h]; simp [-getElem?_pos, h]
  · rw [if_neg h]; simp [-getElem?_pos, h]
theorem cntL_mem {n : Nat} {z : Int} (h : z ∈ cntL txs n) : ∃ k : Nat, z = k ∧ k < n ∧ cntAt txs k = true := by
  unfold cntL at h
  obtain ⟨k, h1, rfl⟩ := List.mem_map.1 h
  rw [List.mem_filter, List.mem_range] at h1
  exact ⟨k, rfl, h1.1, h1.2⟩
theorem cntL_le (txs : List TxD) (n : Nat) : (cntL txs n).length ≤ n := by
  unfold cntL
  rw [List.length_map]
  have := List.length_filter_le (cntAt txs) (List.range n)
  rwa [List.length_range] at this
def OrdIs (txs : List TxD) (o : List Int) : Prop := o.Perm (cntL txs txs.length) ∧ o.Pairwise fun a b => posA txs a < posA txs b
theorem perm_rise {α : Type} {f : α → Int} : ∀ {a b : List α}, a.Perm b → a.Pairwise (fun x y => f x < f y) → b.Pairwise (fun x y => f x < f y) → a = b
  | [], b, hp, _, _ => by rw [List.nil_perm.1 hp]
  | x :: a, b, hp, ha, hb => by
    cases b with
    | nil => exact absurd hp.symm (by intro h; exact absurd (List.nil_perm.1 h) (by simp [-getElem?_pos]))
    | cons y b =>
      rw [List.pairwise_cons] at ha hb
      have hxy : x = y := by
        have h1 : x ∈ y :: b := hp.mem_iff.1 (List.mem_cons_self ..)
        have h2 : y ∈ x :: a := hp.mem_iff.2 (List.mem_cons_self ..)
        rcases List.mem_cons.1 h1 with h1 | h1
        · exact h1
        · rcases List.mem_cons.1 h2 with h2 | h2
          · exact h2.symm
          · have := hb.1 x h1; have := ha.1 y h2; omega
      subst hxy
      rw [perm_rise (List.Perm.cons_inv hp) ha.2 hb.2]
theorem OrdIs.uniq (h : OrdIs txs o) (h' : OrdIs txs o') : o = o' := perm_rise (h.1.trans h'.1.symm) h.2 h'.2
open Classical in
noncomputable def orderD (txs : List TxD) : Option (List Int) := if h : ∃ o, OrdIs txs o then some (Classical.choose h) else none
theorem orderD_is (h : OrdIs txs o) : orderD txs = some o := by
  unfold orderD
  have hex : ∃ o, OrdIs txs o := ⟨o, h⟩
  rw [dif_pos hex, (Classical.choose_spec hex).uniq h]
theorem orderD_no (h : ∀ o, ¬ OrdIs txs o) : orderD txs = none := by
  unfold orderD
  rw [dif_neg fun ⟨o, q⟩ => h o q]
theorem orderD_some (h : orderD txs = some o) : OrdIs txs o := by
  unfold orderD at h
  split at h
  · rename_i hex; cases h; exact Classical.choose_spec hex
  · cases h
theorem OrdIs.mem (h : OrdIs txs o) {z : Int} (hz : z ∈ o) : ∃ k : Nat, z = k ∧ k < txs.length ∧ cntAt txs k = true := cntL_mem (h.1.mem_iff.1 hz)
theorem OrdIs.nodup (h : OrdIs txs o) : o.Nodup := h.2.imp fun {a b} hab e => by rw [e] at hab; omega
theorem ord_same (h : txs'.map erX = txs.map erX) : orderD txs' = orderD txs := by
  have hl : txs'.length = txs.length := by have := congrArg List.length h; simpa [-getElem?_pos] using this
  have hat : ∀ k : Nat, (txs'[k]?).map erX = (txs[k]?).map erX := fun k => by rw [← List.getElem?_map, ← List.getElem?_map, h]
  have e1 : ∀ (l : List TxD) (k : Nat), cntAt l k = match (l[k]?).map erX with | some x => counts x | none => false := fun l k => by unfold cntAt; cases l[k]? <;> rfl
  have e2 : ∀ (l : List TxD) (z : Int), posA l z = match (l[z.toNat]?).map erX with | some x => x.pos | none => 0 := fun l z => by unfold posA; cases l[z.toNat]? <;> rfl
  have hc : cntAt txs' = cntAt txs := by funext k; rw [e1, e1, hat]
  have hp : posA txs' = posA txs := by funext z; rw [e2, e2, hat]
  have hi : ∀ o, OrdIs txs' o ↔ OrdIs txs o := fun o => by unfold OrdIs cntL; rw [hl, hc, hp]
  cases h1 : orderD txs with
  | some o => exact orderD_is ((hi o).2 (orderD_some h1))
  | none =>
    refine orderD_no fun o ho => ?_
    rw [orderD_is ((hi o).1 ho)] at h1; cases h1
noncomputable def judgeD (rows : List RowD) (m : Int) : Except Int (FindD × MapD) :=
  if ¬ (1 ≤ m ∧ m ≤ 64) then .error 2 else match txsD rows with
  | none => .error 230
  | some txs => match orderD txs with
    | none => .error 230
    | some o => byD rows m o
end Go.Proofs.Ythbjfkkjmecaaaa
