/- The abstract machine, part 18: regions whose order is drawn. -/
import Derived.Test.YthbjfkkjmecaaaaT09
set_option linter.unusedVariables false
set_option linter.unusedSimpArgs false
namespace Go.Vm
open Go
variable {P : Program} {B : Base} {ρ ρ' : Ren} {H H' : AHeap} {w w' : World} {r : Option Nat} {st : ASt} {Q : Exit → ASt → Prop} {K : ASt → Prop}
theorem put_H (st : ASt) (d : Option Nat) (v : AVal) : (st.put d v).H = st.H := by cases d <;> rfl
theorem put_marks (st : ASt) (d : Option Nat) (v : AVal) : (st.put d v).marks = st.marks := by cases d <;> rfl
theorem put_comm {st : ASt} {d e : Option Nat} {v u : AVal} (h : ∀ x, d = some x → e ≠ some x) : (st.put d v).put e u = (st.put e u).put d v := by
  cases d with
  | none => rfl
  | some d => cases e with
    | none => rfl
    | some e =>
      have : e ≠ d := fun he => h d rfl (by rw [he])
      simp only [ASt.put]
      rw [List.set_comm _ _ (Ne.symm this)]
theorem aOp_pure {tm : List AVal} {op : AOp} {v : AVal} (hp : op.pure = true) (h : aOp tm op H = some (v, H')) : ∀ H2, aOp tm op H2 = some (v, H2) := by
  intro H2
  cases op <;> simp only [AOp.pure, Bool.false_eq_true] at hp <;> simp only [aOp] at h ⊢
  all_goals
    first
      | (obtain ⟨x, hx, he⟩ := Option.map_eq_some_iff.1 h
         cases he
         rw [hx]; rfl)
      | (split at h <;> (first | (cases h; done) | skip)
         all_goals first
           | (cases h; rfl)
           | (obtain ⟨x, hx, he⟩ := Option.map_eq_some_iff.1 h
              cases he
              rw [hx]; rfl)
           | (split at h <;> (first | (cases h; done) | skip)
              all_goals first
                | (cases h; simp only [*, if_true]; done)
                | (obtain ⟨x, hx, he⟩ := Option.map_eq_some_iff.1 h
                   cases he
                   simp only [*, if_true, Option.map_some]; done)))
      | (cases h; rfl)
theorem aOp_reads {tm : List AVal} {op : AOp} {v : AVal} (hp : op.reads = true) (h : aOp tm op H = some (v, H')) : H' = H := by
  cases op <;> simp only [AOp.reads, Bool.false_eq_true] at hp <;> simp only [aOp] at h
  all_goals
    first
      | (obtain ⟨x, hx, he⟩ := Option.map_eq_some_iff.1 h; cases he; rfl)
      | (split at h <;> first | (cases h; done) | (obtain ⟨x, hx, he⟩ := Option.map_eq_some_iff.1 h; cases he; rfl))
def AStep (P : Program) (st : ASt) (o : AOper) (st' : ASt) : Prop :=
  (awanted o.guard st.tm = some false ∧ st' = st.put o.dst aundef) ∨
  (awanted o.guard st.tm = some true ∧ ∃ v H', st' = { st with H := H' }.put o.dst v ∧
    ((∃ f args, o.op = .call f args ∧ ACallV P (ev st.tm f) (args.map (ev st.tm)) st.H fun v' h' => v' = v ∧ h' = H') ∨ aOp st.tm o.op st.H = some (v, H')))
def Yld (o : AOper) (v : AVal) (tm : List AVal) (H : AHeap) : Prop :=
  (awanted o.guard tm = some false ∧ v = aundef) ∨ (awanted o.guard tm = some true ∧ aOp tm o.op H = some (v, H))
theorem cOpers_get {ops : Array Oper} : ∀ {l : List Oper} {aos : List AOper}, cOpers P ops l = some aos → aos.length = l.length ∧ ∀ (i : Nat) (o : Oper), l[i]? = some o → ∃ ao, aos[i]? = some ao ∧ cOper P ops o = some ao
  | [], aos, h => by simp [cOpers] at h; subst h; simp
  | o :: l, aos, h => by
    simp only [cOpers, Option.bind_eq_some_iff, Option.map_eq_some_iff] at h
    obtain ⟨a, ha, as, has, rfl⟩ := h
    obtain ⟨h1, h2⟩ := cOpers_get has
    refine ⟨by simp [h1], fun i o' ho => ?_⟩
    cases i with
    | zero => simp at ho; subst ho; exact ⟨a, by simp, ha⟩
    | succ i => simpa using h2 i o' (by simpa using ho)
theorem cOper_after {ops : Array Oper} {o : Oper} {ao : AOper} (hc : cOper P ops o = some ao) : ao.after = (o.after.toList.filter (Region.binds .any)).map (·.on) := by
  unfold cOper at hc
  obtain ⟨a, ha, hc⟩ := Option.bind_eq_some_iff.1 hc
  obtain ⟨_, hc⟩ := ite_some hc
  split at hc
  · cases hc; rfl
  · obtain ⟨d, hd, rfl⟩ := Option.map_eq_some_iff.1 hc; rfl
theorem aReady_eq {ops : Array Oper} {aos : List AOper} (h : cOpers P ops ops.toList = some aos) (listed : Array Bool) : Region.ready .any ops listed = aReady aos listed := by
  obtain ⟨h1, h2⟩ := cOpers_get h
  unfold Region.ready aReady
  rw [h1, Array.length_toList]
  apply List.filter_congr
  intro i hi
  have hlt : i < ops.size := by simpa using hi
  obtain ⟨ao, h3, h4⟩ := h2 i ops[i] (by simp [hlt])
  rw [h3, Array.getElem?_eq_getElem hlt]
  congr 1
  simp only [Option.map_some, Option.getD_some, cOper_after h4, List.all_map, List.all_filter]
  rw [← Array.all_toList]
  congr 1
theorem wpOpIn_change {F : Fence} {n : Nat} {ops : Array Oper} {Q1 Q2 : Exit → Act → World → Prop} {K1 K2 : Act → World → Prop} {i : Nat} {a : Act} {w : World} (hQ : ∀ e a w, e ≠ .normal → Q1 e a w → False) (hK : ∀ a w, K1 a w → K2 a w)
    (h : wpOpIn F n P ops Q1 i K1 a w) : wpOpIn F n P ops Q2 i K2 a w := by
  have out : ¬ LetsOut Q1 := fun ⟨a, w, h⟩ => hQ _ a w (by simp) h
  unfold wpOpIn at *
  cases ho : ops[i]? with
  | none => rw [ho] at h; exact hK _ _ h
  | some o =>
    rw [ho] at h
    simp only at h ⊢
    by_cases hw : Region.wanted o (yielded ops a.tmps) = true
    · rw [if_pos hw] at h ⊢
      obtain ⟨h1, h2⟩ := h
      refine ⟨h1, ?_⟩
      generalize (Oper.semAt F.round a.eval _).run P w = x at h2 ⊢
      cases x with
      | ok x w' =>
        cases x <;> simp only [Oper.uponIn] at h2 ⊢ <;> first
          | exact hK _ _ h2
          | exact ⟨h2.1, CallsIn.mono h2.2 fun e w'' he => by cases e <;> first | exact hK _ _ he | exact (hQ _ _ _ (by simp) he).elim | exact (out he).elim⟩
          | exact ⟨h2.1, RowsIn.mono h2.2 fun _ _ he => hK _ _ he⟩
          | exact ⟨h2.1, RoundIn.mono h2.2 fun e w'' he => by cases e <;> first | exact hK _ _ he | exact (hQ _ _ _ (by simp) he).elim | exact (out he).elim⟩
      | halt x w' => cases x <;> simp only [Oper.uponIn] at h2 ⊢ <;> first | exact (hQ _ _ _ (by simp) h2).elim | exact h2
    · rw [if_neg hw] at h ⊢
      exact ⟨h.1, hK _ _ h.2⟩
theorem wpAnyIn_post {F : Fence} {n : Nat} {md : Region.Mode} {ops : Array Oper} {Q1 Q2 : Exit → Act → World → Prop} (hQ0 : ∀ e a w, e ≠ .normal → Q1 e a w → False) (hQ : ∀ e a w, Q1 e a w → Q2 e a w) : ∀ (fuel : Nat) (listed : Array Bool) (a : Act) (w : World),
    wpAnyIn F n P md ops Q1 fuel listed a w → wpAnyIn F n P md ops Q2 fuel listed a w
  | 0, _, _, _, h => ⟨h.1, hQ _ _ _ h.2⟩
  | fuel + 1, _, _, _, h => ⟨fun hr => hQ _ _ _ (h.1 hr), fun i hi => wpOpIn_change hQ0 (fun a w hk => wpAnyIn_post hQ0 hQ fuel _ a w hk) (h.2 i hi)⟩
theorem map_ev_congr {tm tm' : List AVal} : ∀ {xs : List AOpd}, (∀ x ∈ xs, ev tm x = ev tm' x) → xs.map (ev tm) = xs.map (ev tm')
  | [], _ => rfl
  | x :: xs, h => by simp only [List.map_cons]; rw [h x (by simp), map_ev_congr fun y hy => h y (by simp [hy])]
theorem mapO_ev_congr {tm tm' : List AVal} {x : Option AOpd} (h : ∀ y ∈ slotsO x, ev tm y = ev tm' y) : x.map (ev tm) = x.map (ev tm') := by
  cases x with
  | none => rfl
  | some y => simp only [Option.map_some]; rw [h y (by simp [slotsO])]
theorem parts_ev_congr {tm tm' : List AVal} {ps : List (Nat × Nat × AOpd)} (h : ∀ x ∈ ps.map (·.2.2), ev tm x = ev tm' x) :
    (ps.map fun (o, n, x) => (o, n, ev tm x)) = ps.map fun (o, n, x) => (o, n, ev tm' x) := by
  induction ps with
  | nil => rfl
  | cons p ps ih =>
    obtain ⟨o, n, x⟩ := p
    simp only [List.map_cons]
    rw [h x (by simp), ih fun y hy => h y (by simp at hy ⊢; exact .inr hy)]
theorem aOp_congr {tm tm' : List AVal} {op : AOp} (h : ∀ x ∈ op.opds, ev tm x = ev tm' x) (H : AHeap) : aOp tm op H = aOp tm' op H := by
  cases op
  case build zero ps => simp only [aOp]; rw [parts_ev_congr h]
  case buildSlice len esz zero ps => simp only [aOp]; rw [parts_ev_congr h]
  case sliceA n esz x lo hi mx =>
    simp only [aOp]
    rw [h x (by simp [AOp.opds]), mapO_ev_congr fun y hy => h y (by simp [AOp.opds, hy]), mapO_ev_congr fun y hy => h y (by simp [AOp.opds, hy]), mapO_ev_congr fun y hy => h y (by simp [AOp.opds, hy])]
  case sliceS esz x lo hi mx =>
    simp only [aOp]
    rw [h x (by simp [AOp.opds]), mapO_ev_congr fun y hy => h y (by simp [AOp.opds, hy]), mapO_ev_congr fun y hy => h y (by simp [AOp.opds, hy]), mapO_ev_congr fun y hy => h y (by simp [AOp.opds, hy])]
  case sliceStr x lo hi =>
    simp only [aOp]
    rw [h x (by simp [AOp.opds]), mapO_ev_congr fun y hy => h y (by simp [AOp.opds, hy]), mapO_ev_congr fun y hy => h y (by simp [AOp.opds, hy])]
  case makeFunc fn cs => simp only [aOp]; rw [map_ev_congr (xs := cs) h]
  case minmax m xs => simp only [aOp]; rw [map_ev_congr (xs := xs) h]
  case call f as => rfl
  all_goals
    simp only [AOp.opds, List.mem_cons, List.not_mem_nil, or_false, forall_eq_or_imp, forall_eq, false_imp_iff, implies_true] at h
    first
      | (simp only [aOp]; done)
      | (simp only [aOp, h]; done)
      | (simp only [aOp, h.1, h.2]; done)
      | (simp only [aOp, h.1, h.2.1, h.2.2]; done)
theorem awanted_congr {g : Option (Nat × Bool)} {tm tm' : List AVal} (h : ∀ d b, g = some (d, b) → tm[d]? = tm'[d]?) : awanted g tm = awanted g tm' := by
  cases g with
  | none => rfl
  | some x => obtain ⟨d, b⟩ := x; simp only [awanted]; rw [h d b rfl]
def Alike (o : AOper) (tm tm' : List AVal) : Prop := ∀ n ∈ o.looks, tm[n]? = tm'[n]?
theorem Alike.ev {o : AOper} {tm tm' : List AVal} (h : Alike o tm tm') : ∀ x ∈ o.op.opds, ev tm x = ev tm' x := fun x hx => by
  cases x with
  | c v => rfl
  | t n =>
    have := h n (List.mem_append_left _ (List.mem_append_left _ (List.mem_filterMap.2 ⟨AOpd.t n, hx, rfl⟩)))
    simp only [Vm.ev, List.getD_eq_getElem?_getD, this]
theorem Alike.wanted {o : AOper} {tm tm' : List AVal} (h : Alike o tm tm') : awanted o.guard tm = awanted o.guard tm' :=
  awanted_congr fun d b hg => h d (List.mem_append_left _ (List.mem_append_right _ (by rw [hg]; simp)))
theorem Alike.op {o : AOper} {tm tm' : List AVal} (h : Alike o tm tm') (H : AHeap) : aOp tm o.op H = aOp tm' o.op H := aOp_congr h.ev H
theorem Alike.refl (o : AOper) (tm : List AVal) : Alike o tm tm := fun _ _ => rfl
theorem Alike.put {o : AOper} {tm : List AVal} {st : ASt} (h : Alike o tm st.tm) {d : Option Nat} (hd : ∀ x, d = some x → x ∉ o.looks) (v : AVal) : Alike o tm (st.put d v).tm := fun n hn => by
  cases d with
  | none => exact h n hn
  | some d =>
    have : d ≠ n := fun e => hd d rfl (e ▸ hn)
    simp only [ASt.put, List.getElem?_set_ne this]
    exact h n hn
theorem aOp_makes {tm : List AVal} {op : AOp} {v : AVal} (hm : op.makes = true) (h : aOp tm op H = some (v, H')) :
    ∃ ob, H' = H.push ob ∧ (∀ l, ob ≠ .ro l) ∧ ∀ H2, H2.next = H.next → aOp tm op H2 = some (v, H2.push ob) := by
  cases op <;> simp only [AOp.makes, Bool.false_eq_true] at hm <;> simp only [aOp] at h ⊢
  · cases h; exact ⟨_, rfl, fun l => by simp, fun H2 e => by rw [e]⟩
  · cases h; exact ⟨_, rfl, fun l => by simp, fun H2 e => by rw [e]⟩
  · obtain ⟨x, hx, he⟩ := Option.map_eq_some_iff.1 h
    cases he
    exact ⟨_, rfl, fun l => by simp, fun H2 e => by rw [hx, e]; rfl⟩
  · split at h
    · split at h
      · cases h; exact ⟨_, rfl, fun l => by simp, fun H2 e => by simp only [*, if_true]⟩
      · cases h
    · cases h
  · cases h; exact ⟨_, rfl, fun l => by simp, fun H2 e => by rw [e]⟩
def HLe (H H2 : AHeap) : Prop := ∀ A o, H.get A = some o → H2.get A = some o
theorem HLe.rowAt {H2 : AHeap} (h : HLe H H2) {A ver : Nat} {l : List AVal} (hr : H.rowAt A ver = some l) : H2.rowAt A ver = some l := by
  unfold AHeap.rowAt at hr ⊢
  cases hg : H.get A with
  | none => rw [hg] at hr; cases hr
  | some o => rw [h A o hg]; rw [hg] at hr; exact hr
theorem aCells_le {H2 : AHeap} (h : HLe H H2) {esz : Nat} {x : AVal} {l : List AVal} (hx : aCells H esz x = some l) : aCells H2 esz x = some l := by
  unfold aCells at hx ⊢
  split at hx
  · exact hx
  · obtain ⟨cells, h1, h2⟩ := Option.bind_eq_some_iff.1 hx
    rw [h.rowAt h1]; exact h2
  · cases hx
theorem aOp_reads_le {tm : List AVal} {op : AOp} {v : AVal} {H2 : AHeap} (hle : HLe H H2) (hp : op.reads = true) (h : aOp tm op H = some (v, H')) : aOp tm op H2 = some (v, H2) := by
  cases op <;> simp only [AOp.reads, Bool.false_eq_true] at hp <;> simp only [aOp] at h ⊢
  case load agg n x =>
    split at h
    · rename_i A ver off hx
      obtain ⟨u, hu, he⟩ := Option.map_eq_some_iff.1 h
      cases he
      obtain ⟨cells, h1, h2⟩ := Option.bind_eq_some_iff.1 hu
      simp only [hle.rowAt h1, Option.bind_some, h2, Option.map_some]
    · cases h
  case strOfBytes x =>
    obtain ⟨u, hu, he⟩ := Option.map_eq_some_iff.1 h
    cases he
    obtain ⟨cells, h1, h2⟩ := Option.bind_eq_some_iff.1 hu
    simp only [aCells_le hle h1, Option.bind_some, h2, Option.map_some]
  case sliceA n esz x lo hi mx =>
    obtain ⟨u, hu, he⟩ := Option.map_eq_some_iff.1 h
    cases he
    unfold aSliceA at hu ⊢
    split at hu
    · obtain ⟨cells, h1, h2⟩ := Option.bind_eq_some_iff.1 hu
      simp only [hle.rowAt h1, Option.bind_some, h2, Option.map_some]
    · cases hu
  case lookup zero ok x k =>
    obtain ⟨u, hu, he⟩ := Option.map_eq_some_iff.1 h
    cases he
    have : aLookup H2 zero ok (ev tm x) (ev tm k) = some v := by
      unfold aLookup at hu ⊢
      split at hu
      · split at hu
        · exact hu
        · split at hu
          · rename_i hg; simp only [hle _ _ hg]; exact hu
          · cases hu
        · cases hu
      · cases hu
    simp only [this, Option.map_some]
  case len kind x =>
    split at h
    · obtain ⟨u, hu, he⟩ := Option.map_eq_some_iff.1 h
      cases he
      simp only [hu, Option.map_some]
    · obtain ⟨u, hu, he⟩ := Option.map_eq_some_iff.1 h
      cases he
      simp only [hu, Option.map_some]
    · obtain ⟨u, hu, he⟩ := Option.map_eq_some_iff.1 h
      cases he
      have : aLenM H2 (ev tm x) = some v := by
        unfold aLenM at hu ⊢
        split at hu
        · exact hu
        · split at hu
          · rename_i hg; simp only [hle _ _ hg]; exact hu
          · cases hu
        · cases hu
      simp only [this, Option.map_some]
theorem cOper_uses {ops : Array Oper} {o : Oper} {ao : AOper} (hc : cOper P ops o = some ao) : ao.uses = usesOf o.op ∧ ao.mode = opMode o.op ∧ ∀ j b, o.guard = some (j, b) → ∃ d, (ops[j]?).bind (·.dst) = some d ∧ ao.guard = some (d, b) := by
  unfold cOper at hc
  obtain ⟨a, ha, hc⟩ := Option.bind_eq_some_iff.1 hc
  obtain ⟨_, hc⟩ := ite_some hc
  split at hc
  · rename_i hg
    cases hc; exact ⟨rfl, rfl, fun j b e => by rw [hg] at e; cases e⟩
  · rename_i j b hg
    obtain ⟨d, hd, rfl⟩ := Option.map_eq_some_iff.1 hc
    exact ⟨rfl, rfl, fun j' b' e => by rw [hg] at e; cases e; exact ⟨d, hd, rfl⟩⟩
theorem usesOf_mem {o : Op} {t : Nat} (h : .tmp t ∈ o.operands) : t ∈ usesOf o := by
  unfold usesOf
  rw [List.mem_filterMap]
  exact ⟨.tmp t, by simpa using h, rfl⟩
end Go.Vm
namespace Go.Vm
open Go
variable {P : Program} {B : Base} {ρ ρ' : Ren} {H H' : AHeap} {w w' : World} {r : Option Nat} {st : ASt} {K : ASt → Prop} {aos : List AOper}
abbrev NSet := Nat → Bool
def upd (D : NSet) (i : Nat) : NSet := fun k => D k || k == i
def mns (D : NSet) (i : Nat) : NSet := fun k => D k && !(k == i)
def uni (D : NSet) (l : List Nat) : NSet := fun k => D k || l.contains k
theorem upd_true {D : NSet} {i k : Nat} : upd D i k = true ↔ D k = true ∨ k = i := by simp [upd]
theorem upd_false {D : NSet} {i k : Nat} : upd D i k = false ↔ D k = false ∧ k ≠ i := by simp [upd]
theorem uni_true {D : NSet} {l : List Nat} {k : Nat} : uni D l k = true ↔ D k = true ∨ k ∈ l := by simp [uni]
theorem mns_true {D : NSet} {i k : Nat} : mns D i k = true ↔ D k = true ∧ k ≠ i := by simp [mns]
def Closed (aos : List AOper) (S : NSet) : Prop := ∀ j o, aos[j]? = some o → S j = true → ∀ e ∈ o.after, S e = true
theorem Closed.upd {S : NSet} {i : Nat} {o : AOper} (h : Closed aos S) (ho : aos[i]? = some o) (ha : ∀ e ∈ o.after, S e = true) : Closed aos (upd S i) := fun j oj hj hS e he => by
  rw [upd_true] at hS ⊢
  rcases hS with hS | rfl
  · exact .inl (h j oj hj hS e he)
  · rw [ho] at hj; cases hj; exact .inl (ha e he)
theorem Closed.and {S T : NSet} (h : Closed aos S) (h' : Closed aos T) : Closed aos fun k => S k && T k := fun j oj hj hS e he => by
  simp only [Bool.and_eq_true] at hS ⊢
  exact ⟨h j oj hj hS.1 e he, h' j oj hj hS.2 e he⟩
def AncOk (aos : List AOper) (tab : Nat → Nat → Bool) : Prop := ∀ j a, tab j a = true → ∀ S, Closed aos S → S j = true → S a = true
theorem ancFold {acc : List Nat} {a : Nat} : ∀ (l : List Nat) (m : Nat), Nat.testBit (ancOf acc l m) a = true → Nat.testBit m a = true ∨ ∃ p ∈ l, a = p ∨ inA acc p a = true
  | [], m, h => .inl h
  | p :: l, m, h => by
    simp only [ancOf] at h
    rcases ancFold l _ h with h1 | ⟨q, h1, h2⟩
    · rw [Nat.testBit_or, Nat.testBit_or, Bool.or_eq_true, Bool.or_eq_true, Nat.testBit_two_pow] at h1
      rcases h1 with h1 | h1 | h1
      · exact .inl h1
      · exact .inr ⟨p, by simp, .inl (by simpa using h1 : p = a).symm⟩
      · exact .inr ⟨p, by simp, .inr h1⟩
    · exact .inr ⟨q, by simp [h1], h2⟩
theorem mkAnc_ok : ∀ (os : List AOper) (pre : List AOper) (acc : List Nat), aos = pre ++ os → acc.length = pre.length → AncOk aos (inA acc) → AncOk aos (inA (mkAnc os acc))
  | [], _, _, _, _, h => h
  | o :: os, pre, acc, ha, hl, h => by
    unfold mkAnc
    refine mkAnc_ok os (pre ++ [o]) _ (by simp [ha]) (by simp [hl]) fun j a hm S hg hj => ?_
    unfold inA at hm
    rw [List.getD_eq_getElem?_getD, List.getElem?_append] at hm
    split at hm
    · exact h j a (by unfold inA; rw [List.getD_eq_getElem?_getD]; exact hm) S hg hj
    · rename_i hjl
      have hj0 : j - acc.length = 0 := by
        rcases Nat.eq_zero_or_pos (j - acc.length) with e | e
        · exact e
        · rw [List.getElem?_eq_none (by simp; omega)] at hm; simp at hm
      have hjp : j = pre.length := by omega
      rw [hj0] at hm
      simp only [List.getElem?_cons_zero, Option.getD_some] at hm
      have hoj : aos[j]? = some o := by rw [ha, hjp]; simp
      rcases ancFold o.after 0 hm with h1 | ⟨p, hp, hm⟩
      · simp at h1
      · have hpl := hg j o hoj hj p hp
        rcases hm with rfl | hm
        · exact hpl
        · exact h p a hm S hg hpl
theorem anc_ok : AncOk aos (inA (mkAnc aos [])) := mkAnc_ok aos [] [] rfl rfl fun j a hm => by simp [inA] at hm
def OrdL (aos : List AOper) : List Nat → NSet → Prop
  | [], D => ∀ i, i < aos.length → D i = true
  | i :: r, D => D i = false ∧ (∃ o, aos[i]? = some o ∧ ∀ e ∈ o.after, D e = true) ∧ OrdL aos r (upd D i)
theorem OrdL.not_mem : ∀ {l : List Nat} {D : NSet}, OrdL aos l D → ∀ i ∈ l, D i = false
  | [], _, _, i, hi => by cases hi
  | k :: l, D, h, i, hi => by
    rcases List.mem_cons.1 hi with rfl | hi
    · exact h.1
    · have := h.2.2.not_mem i hi
      exact (upd_false.1 this).1
theorem uni_nil (D : NSet) : uni D [] = D := by funext k; simp [uni]
theorem uni_cons (D : NSet) (i : Nat) (l : List Nat) : uni (upd D i) l = uni D (i :: l) := by
  funext k
  simp only [uni, upd, List.contains_cons, Bool.or_assoc]
theorem OrdL.split : ∀ {pre : List Nat} {i : Nat} {post : List Nat} {D : NSet}, OrdL aos (pre ++ i :: post) D → Closed aos D →
    Closed aos (uni D pre) ∧ uni D pre i = false ∧ (∃ o, aos[i]? = some o ∧ ∀ e ∈ o.after, uni D pre e = true) ∧ OrdL aos post (uni D (pre ++ [i]))
  | [], i, post, D, h, hc => by
    obtain ⟨h1, h2, h3⟩ := h
    refine ⟨by rw [uni_nil]; exact hc, by rw [uni_nil]; exact h1, by rw [uni_nil]; exact h2, ?_⟩
    have : uni D ([] ++ [i]) = upd D i := by funext k; simp [uni, upd]; rfl
    rw [this]; exact h3
  | p :: pre, i, post, D, h, hc => by
    obtain ⟨h1, ⟨o, ho, ha⟩, h3⟩ := h
    have := OrdL.split (pre := pre) h3 (hc.upd ho ha)
    rw [uni_cons, uni_cons] at this
    exact this
theorem OrdL.append : ∀ {pre post : List Nat} {D : NSet}, OrdL aos (pre ++ post) D → Closed aos D → OrdL aos post (uni D pre) ∧ Closed aos (uni D pre)
  | [], post, D, h, hc => by rw [uni_nil]; exact ⟨h, hc⟩
  | p :: pre, post, D, h, hc => by
    obtain ⟨h1, ⟨o, ho, ha⟩, h3⟩ := h
    have := OrdL.append (pre := pre) h3 (hc.upd ho ha)
    rw [uni_cons] at this
    exact this
theorem OrdL.all : ∀ {l : List Nat} {D : NSet}, OrdL aos l D → ∀ i, i < aos.length → D i = true ∨ i ∈ l
  | [], D, h, i, hi => .inl (h i hi)
  | k :: l, D, h, i, hi => by
    rcases h.2.2.all i hi with h1 | h1
    · rcases upd_true.1 h1 with h2 | rfl
      · exact .inl h2
      · exact .inr (by simp)
    · exact .inr (by simp [h1])
theorem OrdL.nodup : ∀ {l : List Nat} {D : NSet}, OrdL aos l D → l.Nodup
  | [], _, _ => List.nodup_nil
  | k :: l, D, h => List.nodup_cons.2 ⟨fun hk => by have := h.2.2.not_mem k hk; simp [upd] at this, h.2.2.nodup⟩
structure Flt where
  i : Nat
  o : AOper
  v : AVal
  nb : Option (Nat × AObj)
  tm : List AVal
inductive Item where
  | flt (x : Flt)
  | imm (i : Nat) (o : AOper) (st : ASt)
def Item.idx : Item → Nat
  | .flt x => x.i
  | .imm i _ _ => i
def Flt.heap (x : Flt) (H : AHeap) : AHeap :=
  match x.nb with
  | none => H
  | some (A, ob) => { next := A + 1, tr := H.tr.set ob A }
def ASt.flt (st : ASt) (x : Flt) : ASt := ({ st with H := x.heap st.H } : ASt).put x.o.dst x.v
def part (S : NSet) : List Item → ASt → ASt
  | [], st => st
  | .flt x :: r, st => part S r (if S x.i then st.flt x else st)
  | .imm _ _ _ :: r, st => part S r st
def fltsOnly : List Item → Prop
  | [] => True
  | .flt _ :: r => fltsOnly r
  | .imm _ _ _ :: _ => False
def FltOk (x : Flt) (st : ASt) : Prop :=
  x.tm = st.tm ∧
  ((awanted x.o.guard st.tm = some false ∧ x.v = aundef ∧ x.nb = none) ∨
   (awanted x.o.guard st.tm = some true ∧ x.nb = none ∧ x.o.mode = .quiet ∧ aOp st.tm x.o.op st.H = some (x.v, st.H) ∧ (x.o.op.pure = true ∨ x.o.op.reads = true)) ∨
   (awanted x.o.guard st.tm = some true ∧ x.o.mode = .makes ∧ x.o.op.makes = true ∧ ∃ ob, (∀ l, ob ≠ .ro l) ∧ aOp st.tm x.o.op st.H = some (x.v, st.H.push ob) ∧ x.nb = some (st.H.next, ob)))
def Zr (tab : Nat → Nat → Bool) (tr : List Item) (H : AHeap) : Prop :=
  ∀ x, Item.flt x ∈ tr → x.o.op.reads = true → (∀ j o s, Item.imm j o s ∈ tr → tab x.i j = false) → Yld x.o x.v x.tm H
def TrOk (P : Program) (aos : List AOper) (tab : Nat → Nat → Bool) (K : ASt → Prop) : List Item → ASt → Prop
  | [], st => K st
  | .flt x :: r, st => aos[x.i]? = some x.o ∧ FltOk x st ∧ TrOk P aos tab K r (st.flt x)
  | .imm j o st' :: r, st => aos[j]? = some o ∧ AStep P st o st' ∧ st.H.next ≤ st'.H.next ∧ Zr tab r st'.H ∧ TrOk P aos tab K r st'
def Chain (tab : Nat → Nat → Bool) : List Item → List Nat → Option Nat → Prop
  | [], _, _ => True
  | .flt x :: r, pend, last => Chain tab r (x.i :: pend) last
  | .imm j _ _ :: r, pend, last => (∀ p ∈ pend, tab j p = true) ∧ (∀ l, last = some l → tab j l = true) ∧ Chain tab r [] (some j)
def Apart (o oj : AOper) : Prop := (∀ x, o.dst = some x → x ∉ oj.looks) ∧ (∀ x, o.dst = some x → oj.dst ≠ some x) ∧ (∀ x, oj.dst = some x → x ∉ o.looks)
def AllFree (aos : List AOper) (tab : Nat → Nat → Bool) : Prop :=
  ∀ i k o ok, aos[i]? = some o → aos[k]? = some ok → i ≠ k → tab i k = true ∨ tab k i = true ∨ Apart o ok
def nameOf : Item → Option Nat
  | .flt x => x.nb.map (·.1)
  | .imm _ _ _ => none
def NamesOk (n : Nat) (tr : List Item) : Prop := (tr.filterMap nameOf).Pairwise (· < ·) ∧ ∀ A ∈ tr.filterMap nameOf, n ≤ A
theorem NamesOk.mono {n m : Nat} {tr : List Item} (h : NamesOk n tr) (hm : m ≤ n) : NamesOk m tr := ⟨h.1, fun A hA => Nat.le_trans hm (h.2 A hA)⟩
theorem flt_next (x : Flt) (st : ASt) : (st.flt x).H.next = match x.nb with | none => st.H.next | some (A, _) => A + 1 := by
  unfold ASt.flt; rw [put_H]; unfold Flt.heap; split <;> simp_all
theorem flt_H (x : Flt) (st : ASt) : (st.flt x).H = x.heap st.H := by unfold ASt.flt; rw [put_H]
theorem TrOk.names {tab : Nat → Nat → Bool} : ∀ {tr : List Item} {st : ASt}, TrOk P aos tab K tr st → NamesOk st.H.next tr
  | [], st, _ => ⟨by simp, by simp⟩
  | .flt x :: r, st, h => by
    have ih := h.2.2.names
    obtain ⟨_, hf, _⟩ := h
    obtain ⟨_, ⟨_, _, hn⟩ | ⟨_, hn, _⟩ | ⟨_, _, _, ob, _, _, hn⟩⟩ := hf
    · rw [flt_next, hn] at ih
      simp only [NamesOk, List.filterMap_cons, nameOf, hn, Option.map_none]; exact ih
    · rw [flt_next, hn] at ih
      simp only [NamesOk, List.filterMap_cons, nameOf, hn, Option.map_none]; exact ih
    · rw [flt_next, hn] at ih
      simp only [NamesOk, List.filterMap_cons, nameOf, hn, Option.map_some, List.pairwise_cons, List.mem_cons, forall_eq_or_imp]
      exact ⟨⟨fun A hA => ih.2 A hA, ih.1⟩, Nat.le_refl _, fun A hA => Nat.le_trans (Nat.le_succ _) (ih.2 A hA)⟩
  | .imm j o st' :: r, st, h => by
    have ih := h.2.2.2.2.names.mono h.2.2.1
    simpa only [NamesOk, List.filterMap_cons, nameOf] using ih
def nm (tr : List Item) (S : NSet) (A : Nat) : Bool := tr.any fun
  | .flt x => S x.i && (match x.nb with | some (A', _) => A' == A | none => false)
  | .imm _ _ _ => false
theorem nm_true {tr : List Item} {S : NSet} {A : Nat} : nm tr S A = true ↔ ∃ x ob, Item.flt x ∈ tr ∧ S x.i = true ∧ x.nb = some (A, ob) := by
  unfold nm
  rw [List.any_eq_true]
  constructor
  · rintro ⟨it, h1, h2⟩
    cases it with
    | flt x =>
      simp only [Bool.and_eq_true] at h2
      cases hn : x.nb with
      | none => rw [hn] at h2; simp at h2
      | some p =>
        obtain ⟨A', ob⟩ := p
        rw [hn] at h2
        have : A' = A := by simpa using h2.2
        exact ⟨x, ob, h1, h2.1, by rw [hn, this]⟩
    | imm _ _ _ => simp at h2
  · rintro ⟨x, ob, h1, h2, h3⟩
    exact ⟨_, h1, by simp [h2, h3]⟩
theorem nm_name {n : Nat} {tr : List Item} {S : NSet} {A : Nat} (hn : NamesOk n tr) (h : nm tr S A = true) : n ≤ A := by
  obtain ⟨x, ob, h1, _, h3⟩ := nm_true.1 h
  exact hn.2 A (List.mem_filterMap.2 ⟨_, h1, by simp [nameOf, h3]⟩)
theorem name_uniq {n : Nat} : ∀ {tr : List Item}, NamesOk n tr → ∀ {x y : Flt} {A : Nat} {ob ob' : AObj}, Item.flt x ∈ tr → Item.flt y ∈ tr → x.nb = some (A, ob) → y.nb = some (A, ob') → x = y
  | [], _, x, y, _, _, _, hx, _, _, _ => by cases hx
  | it :: tr, h, x, y, A, ob, ob', hx, hy, ex, ey => by
    have hlt : ∀ z : Flt, it = .flt z → ∀ z' : Flt, ∀ {o1 o2 : AObj}, Item.flt z' ∈ tr → z.nb = some (A, o1) → z'.nb = some (A, o2) → False := fun z hz z' o1 o2 hz' e1 e2 => by
      subst hz
      have h1 := h.1
      simp only [List.filterMap_cons, nameOf, e1, Option.map_some, List.pairwise_cons] at h1
      have := h1.1 A (List.mem_filterMap.2 ⟨_, hz', by simp [nameOf, e2]⟩)
      omega
    have hrec : NamesOk n tr := by
      cases it with
      | flt z =>
        cases hz : z.nb with
        | none => simpa only [NamesOk, List.filterMap_cons, nameOf, hz, Option.map_none] using h
        | some p =>
          have h1 := h.1; have h2 := h.2
          simp only [List.filterMap_cons, nameOf, hz, Option.map_some, List.pairwise_cons, List.mem_cons, forall_eq_or_imp] at h1 h2
          exact ⟨h1.2, h2.2⟩
      | imm _ _ _ => simpa only [NamesOk, List.filterMap_cons, nameOf] using h
    rcases List.mem_cons.1 hx with hx | hx <;> rcases List.mem_cons.1 hy with hy | hy
    · rw [← hx] at hy; cases hy; rfl
    · exact (hlt x hx.symm y hy ex ey).elim
    · exact (hlt y hy.symm x hx ey ex).elim
    · exact name_uniq hrec hx hy ex ey
theorem part_append (S : NSet) : ∀ (a b : List Item) (st : ASt), part S (a ++ b) st = part S b (part S a st)
  | [], _, _ => rfl
  | .flt x :: a, b, st => by simp only [List.cons_append, part]; exact part_append S a b _
  | .imm _ _ _ :: a, b, st => by simp only [List.cons_append, part]; exact part_append S a b _
theorem part_congr {S T : NSet} : ∀ (tr : List Item) (st : ASt), (∀ x, Item.flt x ∈ tr → S x.i = T x.i) → part S tr st = part T tr st
  | [], _, _ => rfl
  | .flt x :: r, st, h => by simp only [part]; rw [h x (by simp)]; exact part_congr r _ fun y hy => h y (by simp [hy])
  | .imm _ _ _ :: r, st, h => by simp only [part]; exact part_congr r _ fun y hy => h y (by simp [hy])
theorem part_none {S : NSet} : ∀ (tr : List Item) (st : ASt), (∀ x, Item.flt x ∈ tr → S x.i = false) → part S tr st = st
  | [], _, _ => rfl
  | .flt x :: r, st, h => by simp only [part]; rw [h x (by simp)]; exact part_none r _ fun y hy => h y (by simp [hy])
  | .imm _ _ _ :: r, st, h => by simp only [part]; exact part_none r _ fun y hy => h y (by simp [hy])
theorem part_marks (S : NSet) : ∀ (tr : List Item) (st : ASt), (part S tr st).marks = st.marks
  | [], _ => rfl
  | .flt x :: r, st => by
    simp only [part]; rw [part_marks S r]
    split
    · unfold ASt.flt; rw [put_marks]
    · rfl
  | .imm _ _ _ :: r, st => by simp only [part]; rw [part_marks S r]
def lk (S : NSet) : List Item → Nat → Option AObj → Option AObj
  | [], _, d => d
  | .flt x :: r, A, d => lk S r A (if S x.i then (match x.nb with | some (A', ob) => if A = A' then some ob else d | none => d) else d)
  | .imm _ _ _ :: r, A, d => lk S r A d
theorem heap_get (x : Flt) (H : AHeap) (A : Nat) : (x.heap H).get A = match x.nb with | some (A', ob) => if A = A' then some ob else H.get A | none => H.get A := by
  unfold Flt.heap
  split <;> simp_all [AHeap.get, Tr.get_set]
theorem part_get (S : NSet) : ∀ (tr : List Item) (st : ASt) (A : Nat), (part S tr st).H.get A = lk S tr A (st.H.get A)
  | [], _, _ => rfl
  | .flt x :: r, st, A => by
    simp only [part, lk]; rw [part_get S r]
    cases hS : S x.i with
    | true => simp only [if_true]; rw [flt_H, heap_get]
    | false => simp
  | .imm _ _ _ :: r, st, A => by simp only [part, lk]; exact part_get S r _ _
theorem lk_no {S : NSet} : ∀ {tr : List Item} {A : Nat} {d : Option AObj}, nm tr S A = false → lk S tr A d = d
  | [], _, _, _ => rfl
  | .flt x :: r, A, d, h => by
    simp only [nm, List.any_cons, Bool.or_eq_false_iff] at h
    simp only [lk]
    have h1 := h.1
    have : (if S x.i = true then (match x.nb with | some (A', ob) => if A = A' then some ob else d | none => d) else d) = d := by
      split
      · rename_i hS
        rw [hS] at h1
        split
        · rename_i A' ob hn
          rw [hn] at h1
          rw [if_neg]
          intro e; subst e; simp at h1
        · rfl
      · rfl
    rw [this]
    exact lk_no (tr := r) h.2
  | .imm _ _ _ :: r, A, d, h => by
    simp only [nm, List.any_cons, Bool.false_or] at h
    simp only [lk]; exact lk_no (tr := r) h
theorem lk_yes {S : NSet} : ∀ {tr : List Item} {A : Nat}, nm tr S A = true → ∀ d d', lk S tr A d = lk S tr A d'
  | [], _, h, _, _ => by simp [nm] at h
  | .flt x :: r, A, h, d, d' => by
    simp only [lk]
    by_cases hr : nm r S A = true
    · exact lk_yes hr _ _
    · have hr' : nm r S A = false := by simpa using hr
      rw [lk_no hr', lk_no hr']
      have h1 : (S x.i && (match x.nb with | some (A', _) => A' == A | none => false)) = true := by
        have : nm (.flt x :: r) S A = ((S x.i && (match x.nb with | some (A', _) => A' == A | none => false)) || nm r S A) := rfl
        rw [this, hr', Bool.or_false] at h
        exact h
      simp only [Bool.and_eq_true] at h1
      rw [if_pos h1.1, if_pos h1.1]
      cases hn : x.nb with
      | none => rw [hn] at h1; simp at h1
      | some p =>
        obtain ⟨A', ob⟩ := p
        rw [hn] at h1
        have : A' = A := by simpa using h1.2
        simp [this]
  | .imm _ _ _ :: r, A, h, d, d' => by
    simp only [nm, List.any_cons, Bool.false_or] at h
    simp only [lk]; exact lk_yes (tr := r) h d d'
theorem lk_obj {S : NSet} : ∀ {tr : List Item} {A : Nat} {d : Option AObj}, nm tr S A = true → ∃ x ob, Item.flt x ∈ tr ∧ S x.i = true ∧ x.nb = some (A, ob) ∧ lk S tr A d = some ob
  | [], _, _, h => by simp [nm] at h
  | .flt x :: r, A, d, h => by
    simp only [lk]
    by_cases hr : nm r S A = true
    · obtain ⟨y, ob, h1, h2, h3, h4⟩ := lk_obj (d := if S x.i then (match x.nb with | some (A', ob) => if A = A' then some ob else d | none => d) else d) hr
      exact ⟨y, ob, by simp [h1], h2, h3, h4⟩
    · have hr' : nm r S A = false := by simpa using hr
      rw [lk_no hr']
      have h1 : (S x.i && (match x.nb with | some (A', _) => A' == A | none => false)) = true := by
        have : nm (.flt x :: r) S A = ((S x.i && (match x.nb with | some (A', _) => A' == A | none => false)) || nm r S A) := rfl
        rw [this, hr', Bool.or_false] at h
        exact h
      simp only [Bool.and_eq_true] at h1
      rw [if_pos h1.1]
      cases hn : x.nb with
      | none => rw [hn] at h1; simp at h1
      | some p =>
        obtain ⟨A', ob⟩ := p
        rw [hn] at h1
        have : A' = A := by simpa using h1.2
        exact ⟨x, ob, by simp, h1.1, by rw [hn, this], by simp [this]⟩
  | .imm _ _ _ :: r, A, d, h => by
    simp only [nm, List.any_cons, Bool.false_or] at h
    obtain ⟨y, ob, h1, h2⟩ := lk_obj (d := d) (tr := r) h
    exact ⟨y, ob, by simp [h1], h2⟩
theorem part_wf {S : NSet} : ∀ {tr : List Item} {st : ASt}, NamesOk st.H.next tr → (∀ X, st.H.next ≤ X → st.H.get X = none) → ∀ X, (part S tr st).H.next ≤ X → (part S tr st).H.get X = none
  | [], _, _, h, X, hX => h X hX
  | .flt x :: r, st, hn, h, X, hX => by
    simp only [part] at hX ⊢
    have hrec : NamesOk st.H.next r := by
      have h1 := hn.1; have h2 := hn.2
      cases hz : x.nb with
      | none => simpa only [NamesOk, List.filterMap_cons, nameOf, hz, Option.map_none] using hn
      | some p =>
        simp only [List.filterMap_cons, nameOf, hz, Option.map_some, List.pairwise_cons, List.mem_cons, forall_eq_or_imp] at h1 h2
        exact ⟨h1.2, h2.2⟩
    cases hS : S x.i with
    | false =>
      simp only [hS, Bool.false_eq_true, if_false] at hX ⊢
      exact part_wf hrec h X hX
    | true =>
      simp only [hS, if_true] at hX ⊢
      refine part_wf ?_ ?_ X hX
      · rw [flt_next]
        cases hz : x.nb with
        | none => exact hrec
        | some p =>
          obtain ⟨A, ob⟩ := p
          have h1 := hn.1
          simp only [List.filterMap_cons, nameOf, hz, Option.map_some, List.pairwise_cons] at h1
          exact ⟨hrec.1, fun B hB => h1.1 B hB⟩
      · intro Y hY
        rw [flt_next] at hY
        rw [flt_H, heap_get]
        cases hz : x.nb with
        | none => rw [hz] at hY; exact h Y hY
        | some p =>
          obtain ⟨A, ob⟩ := p
          rw [hz] at hY
          simp only at hY ⊢
          have : st.H.next ≤ A := hn.2 A (by simp [List.filterMap_cons, nameOf, hz])
          rw [if_neg (by omega)]
          exact h Y (by omega)
  | .imm _ _ _ :: r, st, hn, h, X, hX => by
    simp only [part] at hX ⊢
    exact part_wf (by simpa only [NamesOk, List.filterMap_cons, nameOf] using hn) h X hX
theorem part_put {S : NSet} {d : Option Nat} {v : AVal} : ∀ {tr : List Item} {st : ASt}, (∀ x, Item.flt x ∈ tr → S x.i = true → ∀ t, d = some t → x.o.dst ≠ some t) → (part S tr (st.put d v)) = (part S tr st).put d v
  | [], _, _ => rfl
  | .flt x :: r, st, h => by
    simp only [part]
    cases hS : S x.i with
    | false => simp only [Bool.false_eq_true, if_false]; exact part_put fun y hy => h y (by simp [hy])
    | true =>
      simp only [if_true]
      have : (st.put d v).flt x = (st.flt x).put d v := by
        unfold ASt.flt
        have e : ({ st.put d v with H := x.heap (st.put d v).H } : ASt) = ({ st with H := x.heap st.H } : ASt).put d v := by cases d <;> rfl
        rw [e, put_comm fun t ht => h x (by simp) hS t ht]
      rw [this]
      exact part_put fun y hy => h y (by simp [hy])
  | .imm _ _ _ :: r, st, h => by simp only [part]; exact part_put fun y hy => h y (by simp [hy])
theorem part_tm {S : NSet} : ∀ {tr : List Item} {st st' : ASt}, st.tm = st'.tm → (part S tr st).tm = (part S tr st').tm
  | [], _, _, h => h
  | .flt x :: r, st, st', h => by
    simp only [part]
    refine part_tm ?_
    split
    · unfold ASt.flt
      cases x.o.dst with
      | none => exact h
      | some d => simp only [ASt.put, h]
    · exact h
  | .imm _ _ _ :: r, st, st', h => by simp only [part]; exact part_tm h
end Go.Vm
