/- The abstract machine, part 34: a range over a map of several entries: whichever comes next. -/
import Derived.Test.YthbjfkkjmecaaaaT08
import Derived.Test.YthbjfkkjmecaaaaT13
import Derived.Test.YthbjfkkjmecaaaaT01
set_option linter.unusedVariables false
set_option linter.unusedSimpArgs false
namespace Go.Vm
open Go
variable {P : Program} {B : Base} {ρ ρ' : Ren} {H H' : AHeap} {w w' : World} {tm : List AVal} {ce : Operand → Value} {o : Oper} {av : AVal} {ao : AOp}
theorem EntriesRel.at : ∀ {es : AEntries} {ces : List MapEntry} {j : Nat} {c : MapEntry}, EntriesRel ρ es ces → ces[j]? = some c → ∃ e, es[j]? = some e ∧ VRel ρ e.1 c.key ∧ VRel ρ e.2.1 c.val ∧ c.born = e.2.2
  | [], [], _, _, _, h => by simp at h
  | [], _ :: _, _, _, h, _ => h.elim
  | _ :: _, [], _, _, h, _ => h.elim
  | (k, v, b) :: r, e :: es, 0, c, ⟨h1, h2, h3, h4⟩, h => by
    simp at h
    subst h
    exact ⟨_, rfl, h1, h2, h3⟩
  | (k, v, b) :: r, e :: es, j + 1, c, ⟨h1, h2, h3, h4⟩, h => by
    simp at h
    obtain ⟨e', q⟩ := EntriesRel.at h4 h
    exact ⟨e', by simpa using q⟩
def leftIn (es : AEntries) (seen : List Nat) : AEntries := es.filter fun e => !bornIn seen e.2.2
theorem op_iterNext_any (h : HRel P B ρ H w) (hev : EvOk ρ tm ce) {x : Operand} {ax : AOpd} (hop : o.op = .next x false) (hx : cOpd x = some ax) {A M since last clock : Nat} {seen : List Nat} {es : AEntries}
    (hxe : ev tm ax = .ptr A 0 0) (hg : H.get A = some (.iter (some M) since seen last)) (hgM : H.get M = some (.map es clock)) (hold : ∀ e ∈ es, e.2.2 < since) (hsl : since ≤ last) :
    (leftIn es seen = [] ∧ OpRes .any P B ρ H w (execOp ce o) (.tuple [abool false]) H) ∨
    ∃ e ∈ leftIn es seen, OpRes .any P B ρ H w (execOp ce o) (.tuple [abool true, e.1, e.2.1]) (H.set A (.iter (some M) since (seen ++ [e.2.2]) clock)) := by
  have he : execOp ce o = (do Pure.pure (.value (← Instr.next (ce x) false o.type))) := by simp [execOp, hop]
  rw [he]
  have hxv := hev _ _ hx
  rw [hxe] at hxv
  obtain ⟨l, hl, hcx⟩ := hxv.ptr_inv
  obtain ⟨hsing, l', cm, hl', h0, hw, hit⟩ := h.obj A _ hg
  rw [hl] at hl'; cases hl'
  cases cm with
  | none => exact hit.elim
  | some c =>
    obtain ⟨lM, hlM, rfl⟩ := hit
    obtain ⟨_, lM', ces, hlM', hwM, hes⟩ := h.obj M _ hgM
    rw [hlM] at hlM'; cases hlM'
    have hcold : ∀ x ∈ ces.toList, x.born < since := fun x hx => by
      obtain ⟨j, hj⟩ := List.mem_iff_getElem?.1 hx
      obtain ⟨e, he, _, _, hb⟩ := hes.at hj
      rw [hb]
      exact hold e (List.mem_of_getElem? he)
    have hcond := next_test_false seen.toArray ces since last hcold hsl
    have hleft : EntriesRel ρ (leftIn es seen) (ces.filter fun e => !seen.toArray.contains e.born).toList := by
      have := hes.filter (p := fun b => !bornIn seen b)
      have e1 : (ces.filter fun e => !seen.toArray.contains e.born).toList = ces.toList.filter fun e => !bornIn seen e.born := by
        rw [Array.toList_filter]
        congr 1; funext e; rw [bornIn_eq]
      rw [e1]
      exact this
    have hmem : ∀ x ∈ (ces.filter fun e => !seen.toArray.contains e.born).toList, x.born < since := fun x hx => hcold x (by simp at hx ⊢; exact hx.1)
    generalize hL : (ces.filter fun e => !seen.toArray.contains e.born) = L at hleft hmem
    have e1 : L.filter (fun x => decide (x.born < since)) = L := Array.filter_eq_self.2 (fun x hx => by simpa using hmem x (by simpa using hx))
    have e2 : L.filter (fun x => decide (x.born ≥ since)) = #[] := by
      rw [Array.filter_eq_empty_iff]
      intro x hx
      have := hmem x (by simpa using hx)
      simp
      omega
    by_cases hz : L.size = 0
    · have hL0 : L = #[] := Array.eq_empty_of_size_eq_zero hz
      left
      refine ⟨?_, .v h (cv := .tuple #[.bool false]) ?_ (.tuple (.cons (.raw _) .nil))⟩
      · have := hleft.length
        rw [hL0] at this
        exact List.length_eq_zero_iff.1 (by simpa using this.symm)
      · rw [hcx, h0]
        simp only [Instr.next, Sem.run_bind, run_getObj' hw, Result.andThen_ok, Sem.run_pure, run_getObj' hwM, hcond, Bool.false_eq_true, if_false, hL, e1, e2]
        rw [hL0]
        simp [choose, Sem.run, Question.forced]
    · right
      have hne : L.isEmpty = false := by simp [Array.isEmpty, hz]
      have hch : ∃ (j : Nat) (w1 : World), j < L.size ∧ (w1 = w ∨ w1 = w.drew) ∧ (choose (Question.mapNext L.size)).run P w = .ok j w1 := by
        by_cases hf : L.size ≤ 1
        · exact ⟨0, w, by omega, .inl rfl, by simp [choose, Sem.run, Question.forced, hf]⟩
        · exact ⟨_, w.drew, Nat.mod_lt _ (by omega), .inr rfl, by
            simp only [choose, Sem.run, Question.forced, decide_eq_true_eq, hf, if_false, Question.cut]
            rfl⟩
      obtain ⟨j, w1, hj, hw1, hrun⟩ := hch
      obtain ⟨e, hej, hk, hv, hb⟩ := hleft.at (j := j) (c := L[j]) (by rw [Array.getElem?_toList, Array.getElem?_eq_getElem hj])
      have h1 : HRel P B ρ H w1 := by rcases hw1 with rfl | rfl; exact h; exact h.drew
      have hheap : w1.heap = w.heap := by rcases hw1 with rfl | rfl <;> rfl
      have hw' : w1.heap[l.c]? = some (.mapIter (some lM.c) since seen.toArray last) := by rw [hheap]; exact hw
      have hput := h1.putObj (co := .mapIter (some lM.c) since (seen ++ [e.2.2]).toArray clock) hg hl (fun x => by simp) (ob' := .iter (some M) since (seen ++ [e.2.2]) clock) (fun x => by simp)
        ⟨hsing, l, some lM.c, hl, h0, World.putObj_heap_same (Array.getElem?_eq_some_iff.1 hw').1, lM, hlM, rfl⟩ (Side.putPlain hw' trivial trivial)
      refine ⟨e, List.mem_of_getElem? hej, .vw (cv := .tuple #[.bool true, L[j].key, L[j].val]) ?_ (.tuple (.cons (.raw _) (.cons hk (.cons hv .nil)))) hput (Ren.le_refl _)⟩
      rw [hcx, h0]
      simp only [Instr.next, Sem.run_bind, run_getObj' hw, Result.andThen_ok, Sem.run_pure, run_getObj' hwM, hcond, Bool.false_eq_true, if_false, hL, e1, e2, Array.append_empty, hne, Array.empty_append, Array.size_map, hrun, Array.getElem?_map, Array.getElem?_eq_getElem hj, Option.map_some]
      rw [show seen.toArray.push L[j].born = (seen ++ [e.2.2]).toArray by rw [hb]; simp]
      simp [run_setObj' _ hw']
theorem cBin_no {op : BinOp} {t : TypeId} {x y ax : AOpd} (h : cBin P op t x y = some (.iterNext ax)) : False := by
  unfold cBin at h
  (repeat' split at h) <;> simp [Option.map_eq_some_iff] at h
theorem cConv_no {s d : TypeId} {x ax : AOpd} (h : cConv P s d x = some (.iterNext ax)) : False := by
  unfold cConv at h
  (repeat' split at h) <;> simp [Option.map_eq_some_iff] at h
theorem cAppend_no {l : List Operand} {ts : List TypeId} {ax : AOpd} (h : cAppend P l ts = some (.iterNext ax)) : False := by
  unfold cAppend at h
  (repeat' split at h) <;> simp [Option.map_eq_some_iff, Option.bind_eq_some_iff] at h
theorem cAppendZ_no {l : List Operand} {ts : List TypeId} {ax : AOpd} (h : cAppendZ P l ts = some (.iterNext ax)) : False := by
  unfold cAppendZ at h
  (repeat' split at h) <;> simp [Option.map_eq_some_iff, Option.bind_eq_some_iff] at h
theorem cCap_no {l : List Operand} {ts : List TypeId} {ax : AOpd} (h : cCap P l ts = some (.iterNext ax)) : False := by
  unfold cCap at h
  (repeat' split at h) <;> simp [Option.map_eq_some_iff] at h
theorem cCopy_no {l : List Operand} {ts : List TypeId} {ax : AOpd} (h : cCopy P l ts = some (.iterNext ax)) : False := by
  unfold cCopy at h
  (repeat' split at h) <;> simp [Option.map_eq_some_iff, Option.bind_eq_some_iff] at h
theorem cLen_no {l : List Operand} {ts : List TypeId} {ax : AOpd} (h : cLen P l ts = some (.iterNext ax)) : False := by
  unfold cLen at h
  (repeat' split at h) <;> simp [Option.map_eq_some_iff, Option.bind_eq_some_iff] at h
theorem cDelete_no {l : List Operand} {ts : List TypeId} {ax : AOpd} (h : cDelete P l ts = some (.iterNext ax)) : False := by
  unfold cDelete at h
  (repeat' split at h) <;> simp [Option.map_eq_some_iff, Option.bind_eq_some_iff] at h
theorem cClear_no {l : List Operand} {ts : List TypeId} {ax : AOpd} (h : cClear P l ts = some (.iterNext ax)) : False := by
  unfold cClear at h
  (repeat' split at h) <;> simp [Option.map_eq_some_iff, Option.bind_eq_some_iff] at h
theorem ite_no {c : Bool} {α : Type} {x y : Option α} {a : α} (h : (if c = true then x else y) = some a) : x = some a ∨ y = some a := by
  cases c
  · exact .inr h
  · exact .inl h
theorem cCall_no {c : Call} {ax : AOpd} (h : cCall P c = some (.iterNext ax)) : False := by
  unfold cCall at h
  split at h
  · simp [Option.map_eq_some_iff, Option.bind_eq_some_iff] at h
  · cases h
  · unfold cBuiltin at h
    split at h <;> first | exact (ite_no h).elim cAppendZ_no cAppend_no | exact cCap_no h | exact cCopy_no h | exact cLen_no h | exact cDelete_no h | exact cClear_no h | (simp [Option.map_eq_some_iff, Option.bind_eq_some_iff] at h; done)
theorem cOp_next {op : Op} {ax : AOpd} (h : cOp P op = some (.iterNext ax)) : ∃ x, op = .next x false ∧ cOpd x = some ax := by
  cases op with
  | next x str =>
    simp only [cOp] at h
    split at h
    · cases h
    · rename_i hs
      obtain ⟨a, h1, h2⟩ := Option.map_eq_some_iff.1 h
      cases h2
      exact ⟨x, by simp at hs; rw [hs], h1⟩
  | makeMap t r =>
    cases r <;> simp only [cOp] at h
    all_goals (repeat' split at h) <;> simp at h
  | _ =>
    simp only [cOp] at h
    first
    | exact (cCall_no h).elim
    | (obtain ⟨_, _, h⟩ := Option.bind_eq_some_iff.1 h
       first
       | exact (cConv_no h).elim
       | (obtain ⟨_, _, h⟩ := Option.bind_eq_some_iff.1 h
          exact (cBin_no h).elim))
    | ((repeat' split at h) <;> (try simp [Option.map_eq_some_iff, Option.bind_eq_some_iff] at h)
       all_goals
         obtain ⟨_, _, _, _, m, _, h⟩ := h
         cases m <;> simp [Option.map_eq_some_iff] at h)
theorem AOps.iterNext {r : Option Nat} {ops : Array Oper} {o : Oper} {ao : AOper} {i : Nat} {rest : List Nat} {K : ASt → Prop} {st : ASt} {ax : AOpd} {A M since last clock : Nat} {seen : List Nat} {es : AEntries} (ho : ops[i]? = some o) (hc : cOper P ops o = some ao)
    (hop : ao.op = .iterNext ax) (hw : awanted ao.guard st.tm = some true) (hxe : ev st.tm ax = .ptr A 0 0) (hg : st.H.get A = some (.iter (some M) since seen last)) (hgM : st.H.get M = some (.map es clock)) (hold : ∀ e ∈ es, e.2.2 < since) (hsl : since ≤ last)
    (h0 : leftIn es seen = [] → AOps P r ops rest K (st.put ao.dst (.tuple [abool false])))
    (h1 : ∀ e ∈ leftIn es seen, AOps P r ops rest K ({ st with H := st.H.set A (.iter (some M) since (seen ++ [e.2.2]) clock) }.put ao.dst (.tuple [abool true, e.1, e.2.1]))) : AOps P r ops (i :: rest) K st := by
  intro B ρ a w hs
  obtain ⟨hc1, hc2, hc3⟩ := cOper_some hc
  rw [hop] at hc1
  obtain ⟨x, hopo, hx⟩ : ∃ x, o.op = .next x false ∧ cOpd x = some ax := by
    have hk : cOp P o.op = some (.iterNext ax) := by
      rcases cOp'_some hc1 with ⟨q | q, _⟩ | q
      · cases q
      · exact q
      · exact q
    exact cOp_next hk
  rcases op_iterNext_any hs.H hs.ev hopo hx hxe hg hgM hold hsl with ⟨hl, ρ', w', nx, cv, h1', h2, h3, h4, h5, _⟩ | ⟨e, hel, ρ', w', nx, cv, h1', h2, h3, h4, h5, _⟩
  · refine wpOpsIn_op ho (awanted_run hc hs.tm hw) (noDefer hc1) h1' h2 ?_
    have := h0 hl B ρ' _ w' (hs.put h5 ao.dst h3 h4)
    rw [hc2] at this
    exact wpOpsIn_mono (fun e a w hq => hq.le h5) _ _ _ this
  · refine wpOpsIn_op ho (awanted_run hc hs.tm hw) (noDefer hc1) h1' h2 ?_
    have := h1 e hel B ρ' _ w' (hs.put h5 ao.dst h3 h4)
    rw [hc2] at this
    exact wpOpsIn_mono (fun e a w hq => hq.le h5) _ _ _ this
end Go.Vm
namespace Go.Vm
open Go
variable {P : Program} {r : Option Nat} {st st' : ASt} {Q Q' : Exit → ASt → Prop} {or : Oracle}
theorem cCode_seq {c : Code} {a b : ACode} (h : cCode P c = some (.seq a b)) : ∃ x y, c = .seq x y ∧ cCode P x = some a ∧ cCode P y = some b := by
  cases c with
  | seq x y =>
    simp only [cCode] at h
    obtain ⟨_, h1, h⟩ := Option.bind_eq_some_iff.1 h
    obtain ⟨_, h2, h⟩ := Option.map_eq_some_iff.1 h
    cases h
    exact ⟨x, y, rfl, h1, h2⟩
  | region id ops dr =>
    simp only [cCode] at h
    obtain ⟨_, _, h⟩ := Option.bind_eq_some_iff.1 h
    split at h
    · split at h <;> cases h
    · cases h
  | _ =>
    simp only [cCode] at h
    first
      | cases h; done
      | (obtain ⟨_, _, h⟩ := Option.map_eq_some_iff.1 h; cases h; done)
      | (obtain ⟨_, _, h⟩ := Option.bind_eq_some_iff.1 h; obtain ⟨_, _, h⟩ := Option.map_eq_some_iff.1 h; cases h; done)
      | (obtain ⟨_, _, h⟩ := Option.bind_eq_some_iff.1 h; obtain ⟨_, _, h⟩ := Option.bind_eq_some_iff.1 h; obtain ⟨_, _, h⟩ := Option.map_eq_some_iff.1 h; cases h; done)
theorem cCode_loop {c : Code} {a : ACode} (h : cCode P c = some (.loop a)) : ∃ x, c = .loop x ∧ cCode P x = some a := by
  cases c with
  | loop x =>
    simp only [cCode] at h
    obtain ⟨_, h1, h⟩ := Option.map_eq_some_iff.1 h
    cases h
    exact ⟨x, rfl, h1⟩
  | region id ops dr =>
    simp only [cCode] at h
    obtain ⟨_, _, h⟩ := Option.bind_eq_some_iff.1 h
    split at h
    · split at h <;> cases h
    · cases h
  | _ =>
    simp only [cCode] at h
    first
      | cases h; done
      | (obtain ⟨_, _, h⟩ := Option.map_eq_some_iff.1 h; cases h; done)
      | (obtain ⟨_, _, h⟩ := Option.bind_eq_some_iff.1 h; obtain ⟨_, _, h⟩ := Option.map_eq_some_iff.1 h; cases h; done)
      | (obtain ⟨_, _, h⟩ := Option.bind_eq_some_iff.1 h; obtain ⟨_, _, h⟩ := Option.bind_eq_some_iff.1 h; obtain ⟨_, _, h⟩ := Option.map_eq_some_iff.1 h; cases h; done)
theorem cCode_block {c : Code} {id : Nat} {a : ACode} (h : cCode P c = some (.block id a)) : ∃ x, c = .block id x ∧ cCode P x = some a := by
  cases c with
  | block id' x =>
    simp only [cCode] at h
    obtain ⟨_, h1, h⟩ := Option.map_eq_some_iff.1 h
    cases h
    exact ⟨x, rfl, h1⟩
  | region id ops dr =>
    simp only [cCode] at h
    obtain ⟨_, _, h⟩ := Option.bind_eq_some_iff.1 h
    split at h
    · split at h <;> cases h
    · cases h
  | _ =>
    simp only [cCode] at h
    first
      | cases h; done
      | (obtain ⟨_, _, h⟩ := Option.map_eq_some_iff.1 h; cases h; done)
      | (obtain ⟨_, _, h⟩ := Option.bind_eq_some_iff.1 h; obtain ⟨_, _, h⟩ := Option.map_eq_some_iff.1 h; cases h; done)
      | (obtain ⟨_, _, h⟩ := Option.bind_eq_some_iff.1 h; obtain ⟨_, _, h⟩ := Option.bind_eq_some_iff.1 h; obtain ⟨_, _, h⟩ := Option.map_eq_some_iff.1 h; cases h; done)
theorem cCode_region {c : Code} {aos : List AOper} (h : cCode P c = some (.region aos)) : ∃ id ops, c = .region id ops false ∧ cOpers P ops ops.toList = some aos := by
  cases c with
  | region id ops dr =>
    simp only [cCode] at h
    obtain ⟨_, h1, h⟩ := Option.bind_eq_some_iff.1 h
    split at h
    · split at h <;> cases h
    · rename_i hd
      cases h
      exact ⟨id, ops, by simp at hd; rw [hd], h1⟩
  | _ =>
    simp only [cCode] at h
    first
      | cases h; done
      | (obtain ⟨_, _, h⟩ := Option.map_eq_some_iff.1 h; cases h; done)
      | (obtain ⟨_, _, h⟩ := Option.bind_eq_some_iff.1 h; obtain ⟨_, _, h⟩ := Option.map_eq_some_iff.1 h; cases h; done)
      | (obtain ⟨_, _, h⟩ := Option.bind_eq_some_iff.1 h; obtain ⟨_, _, h⟩ := Option.bind_eq_some_iff.1 h; obtain ⟨_, _, h⟩ := Option.map_eq_some_iff.1 h; cases h; done)
def CodeW (P : Program) (r : Option Nat) (ac : ACode) (Q : Exit → ASt → Prop) (st : ASt) : Prop := ∀ c, cCode P c = some ac → AWp P r c Q st
theorem CodeW.mono {ac : ACode} (h : CodeW P r ac Q st) (hq : ∀ e st, Q e st → Q' e st) : CodeW P r ac Q' st := fun c hc => (h c hc).mono hq
theorem CodeW.seq {a b : ACode} (h : CodeW P r a (AThen (CodeW P r b Q) Q) st) : CodeW P r (.seq a b) Q st := fun c hc => by
  obtain ⟨x, y, rfl, h1, h2⟩ := cCode_seq hc
  exact AWp.seq ((h x h1).mono fun e s hq => by cases e with
    | normal => exact hq y h2
    | _ => exact hq)
theorem CodeW.block {id : Nat} {a : ACode} (h : CodeW P r a (ABlock id Q) st) : CodeW P r (.block id a) Q st := fun c hc => by
  obtain ⟨x, rfl, h1⟩ := cCode_block hc
  exact AWp.block (h x h1)
theorem CodeW.loop {a : ACode} (T : Nat → ASt → Prop) (hT : ∀ n st, T n st → CodeW P r a (AThen (fun st' => ∃ m, m < n ∧ T m st') Q) st) {n : Nat} (h0 : T n st) : CodeW P r (.loop a) Q st := fun c hc => by
  obtain ⟨x, rfl, h1⟩ := cCode_loop hc
  exact AWp.loop T (fun n st h => hT n st h x h1) h0
theorem CodeW.run (hor : OracleOk P or) (hm : P.follows .mixedOrders = true) (hgo : OracleGoY P or) {n : Nat} {ac : ACode} {e : Exit} (h : aCode or true n ac st = some (e, st')) (hq : Q e st') : CodeW P none ac Q st := fun c hc =>
  (aCode_ok hor hm hgo (fun _ => rfl) c ac st e st' hc h).mono fun _ _ ⟨a, b⟩ => by rw [a, b]; exact hq
theorem CodeW.next (hor : OracleOk P or) {ao : AOper} {aos : List AOper} {ax : AOpd} {A M since last clock : Nat} {seen : List Nat} {es : AEntries} (hop : ao.op = .iterNext ax) (hw : awanted ao.guard st.tm = some true) (hxe : ev st.tm ax = .ptr A 0 0)
    (hg : st.H.get A = some (.iter (some M) since seen last)) (hgM : st.H.get M = some (.map es clock)) (hold : ∀ e ∈ es, e.2.2 < since) (hsl : since ≤ last)
    (h0 : leftIn es seen = [] → ∃ s, aSteps or aos (st.put ao.dst (.tuple [abool false])) = some s ∧ Q .normal s)
    (h1 : ∀ e ∈ leftIn es seen, ∃ s, aSteps or aos ({ st with H := st.H.set A (.iter (some M) since (seen ++ [e.2.2]) clock) }.put ao.dst (.tuple [abool true, e.1, e.2.1])) = some s ∧ Q .normal s) : CodeW P r (.region (ao :: aos)) Q st := fun c hc => by
  obtain ⟨id, ops, rfl, hos⟩ := cCode_region hc
  refine AWp.region ?_
  cases hl : ops.toList with
  | nil => rw [hl] at hos; simp [cOpers] at hos
  | cons o l =>
    rw [hl] at hos
    simp only [cOpers, Option.bind_eq_some_iff, Option.map_eq_some_iff] at hos
    obtain ⟨ao', hao, as, has, e⟩ := hos
    cases e
    have hsz : List.range ops.size = 0 :: List.range' 1 l.length := by
      have : ops.size = l.length + 1 := by rw [← Array.length_toList, hl]; rfl
      rw [this, List.range_eq_range', List.range'_succ]
    have hat : ∀ i o', l[i]? = some o' → ops[1 + i]? = some o' := fun i o' ho' => by
      rw [← Array.getElem?_toList, hl, Nat.add_comm 1 i, List.getElem?_cons_succ]; exact ho'
    have h00 : ops[0]? = some o := by rw [← Array.getElem?_toList, hl]; rfl
    have rest : ∀ s0 s, aSteps or aos s0 = some s → Q .normal s → AOps P r ops (List.range' 1 l.length) (Q .normal) s0 := fun s0 s hs hq B ρ a w hr => by
      have := aSteps_ok (r := r) hor l aos 1 s0 s hat has hs B ρ a w hr
      refine wpOpsIn_mono (fun e a w q => ?_) _ _ _ this
      obtain ⟨s', ρ', ⟨q1, q2⟩, q3, q4⟩ := q
      subst q2
      exact ⟨s', ρ', ⟨q1, hq⟩, q3, q4⟩
    rw [hsz]
    exact AOps.iterNext h00 hao hop hw hxe hg hgM hold hsl (fun hl0 => let ⟨s, a, b⟩ := h0 hl0; rest _ s a b) fun e he => let ⟨s, a, b⟩ := h1 e he; rest _ s a b
theorem cCode_cond {c : Code} {x : AOpd} {a b : ACode} (h : cCode P c = some (.cond x a b)) : ∃ x' u v, c = .cond x' u v ∧ cOpd x' = some x ∧ cCode P u = some a ∧ cCode P v = some b := by
  cases c with
  | cond x' u v =>
    simp only [cCode] at h
    obtain ⟨_, h1, h⟩ := Option.bind_eq_some_iff.1 h
    obtain ⟨_, h2, h⟩ := Option.bind_eq_some_iff.1 h
    obtain ⟨_, h3, h⟩ := Option.map_eq_some_iff.1 h
    cases h
    exact ⟨x', u, v, rfl, h1, h2, h3⟩
  | region id ops dr =>
    simp only [cCode] at h
    obtain ⟨_, _, h⟩ := Option.bind_eq_some_iff.1 h
    split at h
    · split at h <;> cases h
    · cases h
  | _ =>
    simp only [cCode] at h
    first
      | cases h; done
      | (obtain ⟨_, _, h⟩ := Option.map_eq_some_iff.1 h; cases h; done)
      | (obtain ⟨_, _, h⟩ := Option.bind_eq_some_iff.1 h; obtain ⟨_, _, h⟩ := Option.map_eq_some_iff.1 h; cases h; done)
      | (obtain ⟨_, _, h⟩ := Option.bind_eq_some_iff.1 h; obtain ⟨_, _, h⟩ := Option.bind_eq_some_iff.1 h; obtain ⟨_, _, h⟩ := Option.map_eq_some_iff.1 h; cases h; done)
theorem CodeW.cond {x : AOpd} {a b : ACode} {t : Bool} (he : ev st.tm x = .raw (.bool t)) (h : CodeW P r (if t then a else b) Q st) : CodeW P r (.cond x a b) Q st := fun c hc => by
  obtain ⟨x', u, v, rfl, h1, h2, h3⟩ := cCode_cond hc
  refine AWp.cond h1 he ?_
  cases t
  · exact h v h3
  · exact h u h2
theorem CodeW.ret (h : Q .ret st) : CodeW P r .ret Q st := fun c hc => by
  rw [cCode_ret hc]
  exact AWp.ret h
theorem ACalls.of_code {env : Nat → Option AFunc} (henv : EnvOk P env) {f : Nat} {af : AFunc} (hf : env f = some af) {args : List AVal} {H : AHeap} {R : AVal → AHeap → Prop}
    (h : CodeW P none af.code (AEnds af.res R) { tm := args ++ List.replicate (af.ntmps - args.length) aundef, H := H, marks := [] }) : ACalls P f args H R := by
  obtain ⟨fn, h1, h2, h3⟩ := henv f af hf
  unfold cFunc at h3
  simp only [Option.bind_eq_some_iff, Option.map_eq_some_iff] at h3
  obtain ⟨c, hb, ac, hac, rs, hrs, rfl⟩ := h3
  exact ACalls.of_body h1 hb hrs (h c hac)
end Go.Vm
namespace Go.Vm
open Go
variable {P : Program} {B : Base} {ρ0 ρ ρ2 : Ren} {H0 H H2 : AHeap} {w0 w : World}
mutual
theorem VRel.shrink (hle : ρ0.le ρ) : ∀ {v : AVal} {c0 c : Value}, VRel ρ0 v c0 → VRel ρ v c → VRel ρ0 v c
  | _, _, _, .raw v, .raw _ => .raw v
  | _, _, _, .ptr h0, .ptr h => by rw [hle _ _ _ h0] at h; cases h; exact .ptr h0
  | _, _, _, .slice h0 _ _ _ _, .slice h hk hl he hn => by rw [hle _ _ _ h0] at h; cases h; exact .slice h0 hk hl he hn
  | _, _, _, .sliceE h0, .sliceE h => .sliceE h0
  | _, _, _, .slice h0 _ _ _ _, .sliceE h => .sliceE h0
  | _, _, _, .sliceE h0, .slice h hk hl he hn => by rw [hle _ _ _ h0] at h; cases h; exact .slice h0 hk hl he hn
  | _, _, _, .map h0, .map h => by rw [hle _ _ _ h0] at h; cases h; exact .map h0
  | _, _, _, .func h0, .func h => .func (VRels.shrink hle h0 h)
  | _, _, _, .yield h0, .yield h => by rw [hle _ _ _ h0] at h; cases h; exact .yield h0
  | _, _, _, .agg h0, .agg h => .agg (VRels.shrink hle h0 h)
  | _, _, _, .tuple h0, .tuple h => .tuple (VRels.shrink hle h0 h)
  | _, _, _, .iface h0, .iface h => .iface (VRel.shrink hle h0 h)
theorem VRels.shrink (hle : ρ0.le ρ) : ∀ {v : List AVal} {c0 c : List Value}, VRels ρ0 v c0 → VRels ρ v c → VRels ρ0 v c
  | _, _, _, .nil, .nil => .nil
  | _, _, _, .cons h0 hs0, .cons h hs => .cons (VRel.shrink hle h0 h) (VRels.shrink hle hs0 hs)
end
theorem HRel.forget (h : HRel P B ρ H w) {A : Nat} {vs vs' : Vers} (hA : H.get A = some (.row vs)) (hl : vs'.length = vs.length) (hv : ∀ (v : Nat) x, vs'[v]? = some (some x) → vs[v]? = some (some x)) : HRel P B ρ (H.set A (.row vs')) w := by
  have hro : ∀ C, isRo (H.set A (.row vs')) C ↔ isRo H C := fun C => by
    unfold isRo
    rw [AHeap.get_set]
    split
    · rename_i e
      rw [e, hA]
      exact ⟨fun ⟨_, h⟩ => by simp at h, fun ⟨_, h⟩ => by simp at h⟩
    · exact Iff.rfl
  have hlt : A < H.next := by
    rcases Nat.lt_or_ge A H.next with q | q
    · exact q
    · rw [h.wf A q] at hA; cases hA
  refine ⟨h.le, h.fresh, fun C hC => ?_, fun C v l q => ?_, fun C o q => ?_, fun A1 A2 v1 v2 l1 l2 e1 e2 e3 => ?_, fun C v l e r => h.own C v l e fun q => r ((hro C).2 q), h.lt, h.size, h.frame, h.side, fun C v l r e => h.ro C v l ((hro C).1 r) e⟩
  · rw [AHeap.get_set]
    split
    · rename_i e; subst e; exact absurd hlt (by simpa using hC)
    · exact h.wf C hC
  · rw [AHeap.get_set]
    split
    · exact ⟨_, rfl⟩
    · exact h.dom C v l q
  · rw [AHeap.get_set] at q
    split at q
    · rename_i e
      subst e
      cases q
      obtain ⟨h1, h2, h3, h4⟩ := h.obj _ _ hA
      exact ⟨fun v hv' => h1 v (by omega), fun v hv' => h2 v (by omega), fun v rel cells l e1 e2 => h3 v rel cells l (hv v _ e1) e2, fun v1 v2 r1 r2 c1 c2 l1 l2 e1 e2 => h4 v1 v2 r1 r2 c1 c2 l1 l2 (hv v1 _ e1) (hv v2 _ e2)⟩
    · exact h.obj C o q
  · rcases h.sep A1 A2 v1 v2 l1 l2 e1 e2 e3 with q | ⟨q1, q2⟩
    · exact .inl q
    · exact .inr ⟨(hro _).2 q1, (hro _).2 q2⟩
theorem CellsAt.shrink (hle : ρ0.le ρ) {a0 a : Array Value} {s0 s : Nat} {l : List AVal} (h0 : CellsAt ρ0 a0 s0 l) (h : CellsAt ρ a s l) : CellsAt ρ0 a s l := fun i v hv => by
  obtain ⟨c0, _, r0⟩ := h0 i v hv
  obtain ⟨c, e, r⟩ := h i v hv
  exact ⟨c, e, r0.shrink hle r⟩
theorem RowAt.shrink (hle : ρ0.le ρ) {l0 l : Loc} {cells : List AVal} (h0 : RowAt ρ0 w0 l0 cells) (h : RowAt ρ w l cells) : RowAt ρ0 w l cells := by
  obtain ⟨a0, e0, f0, _, _, c0⟩ := h0
  obtain ⟨a, e, f, h1, h2, c⟩ := h
  exact ⟨a, e, f, h1, h2, c0.shrink hle c⟩
theorem EntriesRel.shrink (hle : ρ0.le ρ) : ∀ {es : List (AVal × AVal × Nat)} {c0 c : List MapEntry}, EntriesRel ρ0 es c0 → EntriesRel ρ es c → EntriesRel ρ0 es c
  | [], _, [], _, _ => trivial
  | [], _, _ :: _, _, h => h.elim
  | _ :: _, _, [], _, h => h.elim
  | _ :: _, [], _ :: _, h0, _ => h0.elim
  | (_, _, _) :: _, _ :: _, _ :: _, ⟨a0, b0, _, d0⟩, ⟨a, b, c, d⟩ => ⟨a0.shrink hle a, b0.shrink hle b, c, EntriesRel.shrink hle d0 d⟩
theorem IterRel.shrink (hle : ρ0.le ρ) : ∀ {M c0 c : Option Nat}, IterRel ρ0 M c0 → IterRel ρ M c → IterRel ρ0 M c
  | none, _, none, _, _ => trivial
  | none, _, some _, _, h => h.elim
  | some _, _, none, _, h => h.elim
  | some M, some _, some _, ⟨x0, a0, _⟩, ⟨x, a, b⟩ => by
    rw [hle _ _ _ a0] at a
    cases a
    exact ⟨x0, a0, b⟩
  | some M, none, some _, h0, _ => h0.elim
theorem LoopRel.shrink (hle : ρ0.le ρ) {L : ALoop} {l0 l : Loop} (h0 : LoopRel P ρ0 L l0) (h : LoopRel P ρ L l) : LoopRel P ρ0 L l := by
  obtain ⟨_, _, t0, _, _, _, x0, d0, _⟩ := h0
  obtain ⟨a, b, t, c, d, e, x, f, g⟩ := h
  rw [hle _ _ _ d0] at f
  cases f
  exact ⟨a, b, t0.shrink hle t, c, d, e, x0, d0, g⟩
theorem Single.of_eq {A : Nat} (hA : ∀ v, ρ0 A v = ρ A v) (h : Single ρ A) : Single ρ0 A := fun v hv => by rw [hA]; exact h v hv
theorem ObjRel.shrink (hle : ρ0.le ρ) {A : Nat} {o : AObj} (hA : ∀ v, ρ0 A v = ρ A v) (h0 : ObjRel P ρ0 w0 A o) (h : ObjRel P ρ w A o) : ObjRel P ρ0 w A o := by
  cases o with
  | row vs =>
    obtain ⟨_, _, k, _⟩ := h0
    obtain ⟨h1, h2, h3, h4⟩ := h
    refine ⟨fun v hv => by rw [hA]; exact h1 v hv, fun v hv => by rw [hA]; exact h2 v hv, fun v rel cells l e1 e2 => ?_, fun v1 v2 r1 r2 c1 c2 l1 l2 e1 e2 e3 e4 => ?_⟩
    · exact (k v rel cells l e1 e2).shrink hle (h3 v rel cells l e1 (by rw [← hA]; exact e2))
    · rw [hA] at e3 e4
      exact h4 v1 v2 r1 r2 c1 c2 l1 l2 e1 e2 e3 e4
  | ro cells =>
    obtain ⟨_, l0, a0, b0⟩ := h0
    obtain ⟨s, l, a, b⟩ := h
    exact ⟨Single.of_eq hA s, l, by rw [hA]; exact a, b0.shrink hle b⟩
  | map es clock =>
    obtain ⟨_, l0, c0, _, _, k0⟩ := h0
    obtain ⟨s, l, c, a, b, k⟩ := h
    exact ⟨Single.of_eq hA s, l, c, by rw [hA]; exact a, b, k0.shrink hle k⟩
  | loop L =>
    obtain ⟨_, l0, r0, _, _, k0⟩ := h0
    obtain ⟨s, l, r, a, b, k⟩ := h
    exact ⟨Single.of_eq hA s, l, r, by rw [hA]; exact a, b, k0.shrink hle k⟩
  | defs taken =>
    obtain ⟨s, l, a, b⟩ := h
    exact ⟨Single.of_eq hA s, l, by rw [hA]; exact a, b⟩
  | iter M since seen last =>
    obtain ⟨_, l0, m0, _, _, _, k0⟩ := h0
    obtain ⟨s, l, m, a, b, c, k⟩ := h
    exact ⟨Single.of_eq hA s, l, m, by rw [hA]; exact a, b, c, k0.shrink hle k⟩
theorem ObjRel.names (hle : ρ0.le ρ) {A : Nat} {o : AObj} (h0 : ObjRel P ρ0 w0 A o) (h : ObjRel P ρ w A o) : ∀ v, ρ0 A v = ρ A v := by
  have one : ∀ {l0 l : Loc}, Single ρ0 A → Single ρ A → ρ0 A 0 = some l0 → ρ A 0 = some l → ∀ v, ρ0 A v = ρ A v := fun {l0 l} s0 s a0 a v => by
    by_cases hv : v = 0
    · subst hv; rw [a0, hle _ _ _ a0]
    · rw [s0 v hv, s v hv]
  cases o with
  | row vs =>
    intro v
    rcases Nat.lt_or_ge v vs.length with hv | hv
    · obtain ⟨l, a, _⟩ := h0.2.1 v hv
      rw [a, hle _ _ _ a]
    · rw [h0.1 v hv, h.1 v hv]
  | ro cells => obtain ⟨s0, l0, a0, _⟩ := h0; obtain ⟨s, l, a, _⟩ := h; exact one s0 s a0 a
  | map es clock => obtain ⟨s0, l0, _, a0, _⟩ := h0; obtain ⟨s, l, _, a, _⟩ := h; exact one s0 s a0 a
  | loop L => obtain ⟨s0, l0, _, a0, _⟩ := h0; obtain ⟨s, l, _, a, _⟩ := h; exact one s0 s a0 a
  | defs taken => obtain ⟨s0, l0, a0, _⟩ := h0; obtain ⟨s, l, a, _⟩ := h; exact one s0 s a0 a
  | iter M since seen last => obtain ⟨s0, l0, _, a0, _⟩ := h0; obtain ⟨s, l, _, a, _⟩ := h; exact one s0 s a0 a
def Ren.only (ρ : Ren) (K : Nat → Bool) : Ren := fun A v => if K A then ρ A v else none
theorem Ren.only_some {K : Nat → Bool} {A v : Nat} {l : Loc} (h : ρ.only K A v = some l) : K A = true ∧ ρ A v = some l := by
  unfold Ren.only at h
  split at h
  · exact ⟨by assumption, h⟩
  · cases h
theorem HRel.only (h0 : HRel P B ρ0 H0 w0) (h : HRel P B ρ H w) (hle : ρ0.le ρ) (hold : ∀ A, A < H0.next → H.get A = H0.get A) (K : Nat → Bool) (hK : ∀ A, A < H0.next → K A = true)
    (hnew : ∀ A o, H0.next ≤ A → K A = true → H.get A = some o → ObjRel P (ρ.only K) w A o) (hg : ∀ A, K A = true → H2.get A = H.get A) (hn : ∀ A, K A = false → H2.get A = none) (hnext : H2.next = H.next) (hmono : H0.next ≤ H.next) :
    HRel P B (ρ.only K) H2 w ∧ ρ0.le (ρ.only K) := by
  have hlow : ρ0.le (ρ.only K) := fun A v l q => by
    have hA : A < H0.next := by
      rcases Nat.lt_or_ge A H0.next with x | x
      · exact x
      · rw [h0.fresh A v x] at q; cases q
    unfold Ren.only
    rw [hK A hA]
    exact hle _ _ _ q
  have hro : ∀ A, K A = true → (isRo H2 A ↔ isRo H A) := fun A hA => by unfold isRo; rw [hg A hA]
  refine ⟨⟨fun A v l q => hlow _ _ _ (h0.le _ _ _ q), fun A v q => ?_, fun A q => ?_, fun A v l q => ?_, fun A o q => ?_, fun A1 A2 v1 v2 l1 l2 e1 e2 e3 => ?_, fun A v l e r => ?_, fun A v l e => h.lt A v l (Ren.only_some e).2, h.size, h.frame, h.side, fun A v l r e => ?_⟩, hlow⟩
  · unfold Ren.only
    split
    · exact h.fresh A v (by rw [← hnext]; exact q)
    · rfl
  · cases hk : K A with
    | true => rw [hg A hk]; exact h.wf A (by rw [← hnext]; exact q)
    | false => exact hn A hk
  · obtain ⟨a, b⟩ := Ren.only_some q
    rw [hg A a]
    exact h.dom A v l b
  · have hk : K A = true := by
      cases hk : K A with
      | true => rfl
      | false => rw [hn A hk] at q; cases q
    rw [hg A hk] at q
    rcases Nat.lt_or_ge A H0.next with x | x
    · have q0 : H0.get A = some o := by rw [← hold A x]; exact q
      have r0 := h0.obj A o q0
      have r := h.obj A o q
      have hA := ObjRel.names hle r0 r
      exact (ObjRel.shrink hle hA r0 r).keep hlow (fun v => by unfold Ren.only; rw [hK A x, if_pos rfl, hA]) fun v l _ => rfl
    · exact hnew A o x hk q
  · obtain ⟨a1, b1⟩ := Ren.only_some e1
    obtain ⟨a2, b2⟩ := Ren.only_some e2
    rcases h.sep A1 A2 v1 v2 l1 l2 b1 b2 e3 with x | ⟨x, y⟩
    · exact .inl x
    · exact .inr ⟨(hro A1 a1).2 x, (hro A2 a2).2 y⟩
  · obtain ⟨a, b⟩ := Ren.only_some e
    exact h.own A v l b fun x => r ((hro A a).2 x)
  · obtain ⟨a, b⟩ := Ren.only_some e
    exact h.ro A v l ((hro A a).1 r) b
end Go.Vm
namespace Go.Vm
open Go
variable {P : Program} {B : Base} {ρ ρ' : Ren} {H H' H2 : AHeap} {w w' : World} {K : Nat → Bool}
def Raws (vs : Vers) : Prop := ∀ (v rel : Nat) (cells : List AVal), vs[v]? = some (some (rel, cells)) → ∀ x ∈ cells, ∃ y, x = .raw y
theorem RowRel.only {A : Nat} {vs : Vers} (hK : K A = true) (h : RowRel ρ w A vs) (hr : Raws vs) : RowRel (ρ.only K) w A vs := by
  have hA : ∀ v, ρ.only K A v = ρ A v := fun v => by unfold Ren.only; rw [hK, if_pos rfl]
  obtain ⟨h1, h2, h3, h4⟩ := h
  refine ⟨fun v hv => by rw [hA]; exact h1 v hv, fun v hv => by rw [hA]; exact h2 v hv, fun v rel cells l e1 e2 => ?_, fun v1 v2 r1 r2 c1 c2 l1 l2 e1 e2 e3 e4 => ?_⟩
  · rw [hA] at e2
    obtain ⟨arr, e, fz, a, b, c⟩ := h3 v rel cells l e1 e2
    refine ⟨arr, e, fz, a, b, fun i x hx => ?_⟩
    obtain ⟨cv, p, q⟩ := c i x hx
    obtain ⟨y, rfl⟩ := hr v rel cells e1 x (List.mem_of_getElem? hx)
    exact ⟨cv, p, by rw [q.raw_inv]; exact .raw _⟩
  · rw [hA] at e3 e4
    exact h4 v1 v2 r1 r2 c1 c2 l1 l2 e1 e2 e3 e4
inductive Spoken (K : Nat → Bool) : AVal → Prop
  | raw (v : Value) : Spoken K (.raw v)
  | slice {A ver off len kcap : Nat} {ex : Bool} {esz : Nat} (h : K A = true) : Spoken K (.slice A ver off len kcap ex esz)
theorem Spoken.rel {v : AVal} {cv : Value} (hs : Spoken K v) (h : VRel ρ v cv) : VRel (ρ.only K) v cv := by
  cases hs with
  | raw x => rw [h.raw_inv]; exact .raw _
  | slice hk =>
    cases h with
    | slice a b c d e => exact .slice (by unfold Ren.only; rw [hk, if_pos rfl]; exact a) b c d e
    | sliceE a => exact .sliceE (by unfold Ren.only; rw [hk, if_pos rfl]; exact a)
theorem ACalls.only {f : Nat} {args : List AVal} {R R' : AVal → AHeap → Prop} (h : ACalls P f args H R)
    (hR : (∀ A, H.next ≤ A → H.get A = none) → ∀ v H', R v H' → ∃ (K : Nat → Bool) (H2 : AHeap), H.next ≤ H'.next ∧ (∀ A, A < H.next → H'.get A = H.get A) ∧ (∀ A, A < H.next → K A = true) ∧ (∀ A o, H.next ≤ A → K A = true → H'.get A = some o → ∃ vs, o = .row vs ∧ Raws vs) ∧
      (∀ A, K A = true → H2.get A = H'.get A) ∧ (∀ A, K A = false → H2.get A = none) ∧ H2.next = H'.next ∧ Spoken K v ∧ R' v H2) : ACalls P f args H R' := by
  intro B ρ w cargs hH hargs
  refine (h B ρ w cargs hH hargs).mono fun e w' ⟨v, cv, H', ρ', e1, e2, e3, e4, e5⟩ => ?_
  obtain ⟨K, H2, a1, a2, a3, a4, a5, a6, a7, a8, a9⟩ := hR hH.wf v H' e2
  obtain ⟨b1, b2⟩ := HRel.only (H2 := H2) hH e4 e5 a2 K a3 (fun A o hA hk hg => by
    obtain ⟨vs, rfl, hr⟩ := a4 A o hA hk hg
    exact RowRel.only hk (e4.obj A _ hg) hr) a5 a6 a7 a1
  exact ⟨v, cv, H2, _, e1, a9, a8.rel e3, b1, b2⟩
theorem ACalls.forget {f : Nat} {args : List AVal} {R R' : AVal → AHeap → Prop} (h : ACalls P f args H R)
    (hR : ∀ v H', R v H' → ∃ A vs vs', H'.get A = some (.row vs) ∧ vs'.length = vs.length ∧ (∀ (v : Nat) x, vs'[v]? = some (some x) → vs[v]? = some (some x)) ∧ R' v (H'.set A (.row vs'))) : ACalls P f args H R' := by
  intro B ρ w cargs hH hargs
  refine (h B ρ w cargs hH hargs).mono fun e w' ⟨v, cv, H', ρ', e1, e2, e3, e4, e5⟩ => ?_
  obtain ⟨A, vs, vs', a1, a2, a3, a4⟩ := hR v H' e2
  exact ⟨v, cv, _, ρ', e1, a4, e3, e4.forget a1 a2 a3, e5⟩
end Go.Vm
