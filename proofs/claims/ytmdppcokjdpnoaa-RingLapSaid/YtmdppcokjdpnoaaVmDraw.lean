/- The abstract machine, part 18: regions whose order is drawn. -/
import Derived.Test.YtmdppcokjdpnoaaVmRange
namespace Go.Vm
open Go

variable {P : Program} {B : Base} {ρ ρ' : Ren} {H H' : AHeap} {w w' : World} {r : Option Nat} {st : ASt} {Q : Exit → ASt → Prop} {K : ASt → Prop}

/-! ### What an operation looks at -/

theorem ev_set {tm : List AVal} {d : Nat} {v : AVal} {x : AOpd} (h : x.slot ≠ some d) : ev (tm.set d v) x = ev tm x := by
  cases x with
  | c _ => rfl
  | t n =>
    have hn : d ≠ n := fun e => h (by simp [AOpd.slot, e])
    simp only [ev, List.getD_eq_getElem?_getD]
    rw [List.getElem?_set_ne hn]

theorem map_ev_set {tm : List AVal} {d : Nat} {v : AVal} : ∀ {xs : List AOpd}, (∀ x ∈ xs, x.slot ≠ some d) → xs.map (ev (tm.set d v)) = xs.map (ev tm)
  | [], _ => rfl
  | x :: xs, h => by simp only [List.map_cons]; rw [ev_set (h x (by simp)), map_ev_set fun y hy => h y (by simp [hy])]

theorem mapO_ev_set {tm : List AVal} {d : Nat} {v : AVal} {x : Option AOpd} (h : ∀ y ∈ slotsO x, y.slot ≠ some d) : x.map (ev (tm.set d v)) = x.map (ev tm) := by
  cases x with
  | none => rfl
  | some y => simp only [Option.map_some]; rw [ev_set (h y (by simp [slotsO]))]

theorem parts_ev_set {tm : List AVal} {d : Nat} {v : AVal} {ps : List (Nat × Nat × AOpd)} (h : ∀ x ∈ ps.map (·.2.2), x.slot ≠ some d) :
    (ps.map fun (o, n, x) => (o, n, ev (tm.set d v) x)) = ps.map fun (o, n, x) => (o, n, ev tm x) := by
  induction ps with
  | nil => rfl
  | cons p ps ih =>
    obtain ⟨o, n, x⟩ := p
    simp only [List.map_cons]
    rw [ev_set (h x (by simp)), ih fun y hy => h y (by simp at hy ⊢; exact .inr hy)]

theorem aOp_set {tm : List AVal} {d : Nat} {v : AVal} {op : AOp} (h : ∀ x ∈ op.opds, x.slot ≠ some d) (H : AHeap) : aOp (tm.set d v) op H = aOp tm op H := by
  cases op
  case build zero ps => simp only [aOp]; rw [parts_ev_set h]
  case buildSlice len esz zero ps => simp only [aOp]; rw [parts_ev_set h]
  case sliceA n esz x lo hi mx =>
    simp only [aOp]
    rw [ev_set (h x (by simp [AOp.opds])), mapO_ev_set fun y hy => h y (by simp [AOp.opds, hy]), mapO_ev_set fun y hy => h y (by simp [AOp.opds, hy]), mapO_ev_set fun y hy => h y (by simp [AOp.opds, hy])]
  case sliceS esz x lo hi mx =>
    simp only [aOp]
    rw [ev_set (h x (by simp [AOp.opds])), mapO_ev_set fun y hy => h y (by simp [AOp.opds, hy]), mapO_ev_set fun y hy => h y (by simp [AOp.opds, hy]), mapO_ev_set fun y hy => h y (by simp [AOp.opds, hy])]
  case sliceStr x lo hi =>
    simp only [aOp]
    rw [ev_set (h x (by simp [AOp.opds])), mapO_ev_set fun y hy => h y (by simp [AOp.opds, hy]), mapO_ev_set fun y hy => h y (by simp [AOp.opds, hy])]
  case makeFunc fn cs => simp only [aOp]; rw [map_ev_set (xs := cs) h]
  case minmax m xs => simp only [aOp]; rw [map_ev_set (xs := xs) h]
  case call f as => rfl
  all_goals
    simp only [AOp.opds, List.mem_cons, List.not_mem_nil, or_false, forall_eq_or_imp, forall_eq, false_imp_iff, implies_true] at h
    first
      | (simp only [aOp]; done)
      | (simp only [aOp, ev_set h]; done)
      | (simp only [aOp, ev_set h.1, ev_set h.2]; done)
      | (simp only [aOp, ev_set h.1, ev_set h.2.1, ev_set h.2.2]; done)

theorem awanted_set {g : Option (Nat × Bool)} {tm : List AVal} {d : Nat} {v : AVal} (h : ∀ d' b, g = some (d', b) → d' ≠ d) : awanted g (tm.set d v) = awanted g tm := by
  cases g with
  | none => rfl
  | some x =>
    obtain ⟨d', b⟩ := x
    simp only [awanted]
    rw [List.getElem?_set_ne (Ne.symm (h d' b rfl))]

theorem put_looks {o : AOper} {d : Option Nat} (h : ∀ x, d = some x → x ∉ o.looks) (st : ASt) (v : AVal) :
    awanted o.guard (st.put d v).tm = awanted o.guard st.tm ∧ (∀ H, aOp (st.put d v).tm o.op H = aOp st.tm o.op H) ∧ (∀ x ∈ o.op.opds, ev (st.put d v).tm x = ev st.tm x) := by
  cases d with
  | none => exact ⟨rfl, fun _ => rfl, fun _ _ => rfl⟩
  | some d =>
    have h0 := h d rfl
    have h1 : ∀ x ∈ o.op.opds, x.slot ≠ some d := fun x hx e => h0 (List.mem_append_left _ (List.mem_filterMap.2 ⟨x, hx, e⟩))
    have h2 : ∀ d' b, o.guard = some (d', b) → d' ≠ d := fun d' b hg e => h0 (List.mem_append_right _ (by rw [hg]; simp [e]))
    exact ⟨awanted_set h2, fun H => aOp_set h1 H, fun x hx => ev_set (h1 x hx)⟩

theorem put_H (st : ASt) (d : Option Nat) (v : AVal) : (st.put d v).H = st.H := by cases d <;> rfl
theorem put_marks (st : ASt) (d : Option Nat) (v : AVal) : (st.put d v).marks = st.marks := by cases d <;> rfl

theorem put_comm {st : ASt} {d e : Option Nat} {v u : AVal} (h : ∀ x, d = some x → e ≠ some x) : (st.put d v).put e u = (st.put e u).put d v := by
  cases d with
  | none => rfl
  | some d => cases e with
    | none => rfl
    | some e =>
      have : e ≠ d := fun he => h d rfl (by rw [he])
      simp only [ASt.put]
      rw [List.set_comm _ _ (Ne.symm this)]

/-! ### Which operations may move -/

theorem aOp_pure {tm : List AVal} {op : AOp} {v : AVal} (hp : op.pure = true) (h : aOp tm op H = some (v, H')) : ∀ H2, aOp tm op H2 = some (v, H2) := by
  intro H2
  cases op <;> simp only [AOp.pure, Bool.false_eq_true] at hp <;> simp only [aOp] at h ⊢
  all_goals
    first
      | (obtain ⟨x, hx, he⟩ := Option.map_eq_some_iff.1 h
         cases he
         rw [hx]; rfl)
      | (split at h <;> (first | (cases h; done) | skip)
         all_goals first
           | (cases h; rfl)
           | (obtain ⟨x, hx, he⟩ := Option.map_eq_some_iff.1 h
              cases he
              rw [hx]; rfl)
           | (split at h <;> (first | (cases h; done) | skip)
              all_goals first
                | (cases h; simp only [*, if_true]; done)
                | (obtain ⟨x, hx, he⟩ := Option.map_eq_some_iff.1 h
                   cases he
                   simp only [*, if_true, Option.map_some]; done)))
      | (cases h; rfl)

theorem aOp_reads {tm : List AVal} {op : AOp} {v : AVal} (hp : op.reads = true) (h : aOp tm op H = some (v, H')) : H' = H := by
  cases op <;> simp only [AOp.reads, Bool.false_eq_true] at hp <;> simp only [aOp] at h
  all_goals
    first
      | (obtain ⟨x, hx, he⟩ := Option.map_eq_some_iff.1 h; cases he; rfl)
      | (split at h <;> first | (cases h; done) | (obtain ⟨x, hx, he⟩ := Option.map_eq_some_iff.1 h; cases he; rfl))

/-! ### Every order -/

/-- One operation of a region. -/
def AStep (P : Program) (st : ASt) (o : AOper) (st' : ASt) : Prop :=
  (awanted o.guard st.tm = some false ∧ st' = st.put o.dst aundef) ∨
  (awanted o.guard st.tm = some true ∧ ∃ v H', st' = { st with H := H' }.put o.dst v ∧
    ((∃ f args, o.op = .call f args ∧ ACallV P (ev st.tm f) (args.map (ev st.tm)) st.H fun v' h' => v' = v ∧ h' = H') ∨ aOp st.tm o.op st.H = some (v, H')))

/-- The value that an operation that may move leaves. -/
def Yld (o : AOper) (v : AVal) (tm : List AVal) (H : AHeap) : Prop :=
  (awanted o.guard tm = some false ∧ v = aundef) ∨ (awanted o.guard tm = some true ∧ aOp tm o.op H = some (v, H))

theorem Yld.step {o : AOper} {v : AVal} (h : Yld o v st.tm st.H) : AStep P st o (st.put o.dst v) := by
  rcases h with ⟨h1, rfl⟩ | ⟨h1, h2⟩
  · exact .inl ⟨h1, rfl⟩
  · exact .inr ⟨h1, v, st.H, rfl, .inr h2⟩

theorem Yld.put {o : AOper} {v : AVal} (h : Yld o v st.tm H) {d : Option Nat} (hd : ∀ x, d = some x → x ∉ o.looks) (u : AVal) : Yld o v (st.put d u).tm H := by
  obtain ⟨h1, h2, _⟩ := put_looks hd st u
  rcases h with ⟨h3, rfl⟩ | ⟨h3, h4⟩
  · exact .inl ⟨by rw [h1]; exact h3, rfl⟩
  · exact .inr ⟨by rw [h1]; exact h3, by rw [h2]; exact h4⟩

def AllOk (P : Program) (aos : List AOper) (Z : Array Bool → AHeap → Prop) (K : ASt → Prop) : Nat → Array Bool → ASt → Prop
  | 0, listed, st => aReady aos listed = [] ∧ K st
  | n + 1, listed, st => (aReady aos listed = [] → K st) ∧ ∀ i ∈ aReady aos listed, ∃ o st', aos[i]? = some o ∧ AStep P st o st' ∧ Z (listed.setIfInBounds i true) st'.H ∧ AllOk P aos Z K n (listed.setIfInBounds i true) st'

theorem cOpers_get {ops : Array Oper} : ∀ {l : List Oper} {aos : List AOper}, cOpers P ops l = some aos → aos.length = l.length ∧ ∀ (i : Nat) (o : Oper), l[i]? = some o → ∃ ao, aos[i]? = some ao ∧ cOper P ops o = some ao
  | [], aos, h => by simp [cOpers] at h; subst h; simp
  | o :: l, aos, h => by
    simp only [cOpers, Option.bind_eq_some_iff, Option.map_eq_some_iff] at h
    obtain ⟨a, ha, as, has, rfl⟩ := h
    obtain ⟨h1, h2⟩ := cOpers_get has
    refine ⟨by simp [h1], fun i o' ho => ?_⟩
    cases i with
    | zero => simp at ho; subst ho; exact ⟨a, by simp, ha⟩
    | succ i => simpa using h2 i o' (by simpa using ho)

theorem cOper_after {ops : Array Oper} {o : Oper} {ao : AOper} (hc : cOper P ops o = some ao) : ao.after = (o.after.toList.filter (Region.binds .any)).map (·.on) := by
  unfold cOper at hc
  obtain ⟨a, ha, hc⟩ := Option.bind_eq_some_iff.1 hc
  obtain ⟨_, hc⟩ := ite_some hc
  split at hc
  · cases hc; rfl
  · obtain ⟨d, hd, rfl⟩ := Option.map_eq_some_iff.1 hc; rfl

theorem aReady_eq {ops : Array Oper} {aos : List AOper} (h : cOpers P ops ops.toList = some aos) (listed : Array Bool) : Region.ready .any ops listed = aReady aos listed := by
  obtain ⟨h1, h2⟩ := cOpers_get h
  unfold Region.ready aReady
  rw [h1, Array.length_toList]
  apply List.filter_congr
  intro i hi
  have hlt : i < ops.size := by simpa using hi
  obtain ⟨ao, h3, h4⟩ := h2 i ops[i] (by simp [hlt])
  rw [h3, Array.getElem?_eq_getElem hlt]
  congr 1
  simp only [Option.map_some, Option.getD_some, cOper_after h4, List.all_map, List.all_filter]
  rw [← Array.all_toList]
  congr 1

theorem wpOpIn_change {F : Fence} {n : Nat} {ops : Array Oper} {Q1 Q2 : Exit → Act → World → Prop} {K1 K2 : Act → World → Prop} {i : Nat} {a : Act} {w : World} (hQ : ∀ e a w, e ≠ .normal → Q1 e a w → False) (hK : ∀ a w, K1 a w → K2 a w)
    (h : wpOpIn F n P ops Q1 i K1 a w) : wpOpIn F n P ops Q2 i K2 a w := by
  have out : ¬ LetsOut Q1 := fun ⟨a, w, h⟩ => hQ _ a w (by simp) h
  unfold wpOpIn at *
  cases ho : ops[i]? with
  | none => rw [ho] at h; exact hK _ _ h
  | some o =>
    rw [ho] at h
    simp only at h ⊢
    by_cases hw : Region.wanted o (yielded ops a.tmps) = true
    · rw [if_pos hw] at h ⊢
      obtain ⟨h1, h2⟩ := h
      refine ⟨h1, ?_⟩
      generalize (Oper.semAt F.round a.eval _).run P w = x at h2 ⊢
      cases x with
      | ok x w' =>
        cases x <;> simp only [Oper.uponIn] at h2 ⊢ <;> first
          | exact hK _ _ h2
          | exact ⟨h2.1, CallsIn.mono h2.2 fun e w'' he => by cases e <;> first | exact hK _ _ he | exact (hQ _ _ _ (by simp) he).elim | exact (out he).elim⟩
          | exact ⟨h2.1, RowsIn.mono h2.2 fun _ _ he => hK _ _ he⟩
          | exact ⟨h2.1, RoundIn.mono h2.2 fun e w'' he => by cases e <;> first | exact hK _ _ he | exact (hQ _ _ _ (by simp) he).elim | exact (out he).elim⟩
      | halt x w' => cases x <;> simp only [Oper.uponIn] at h2 ⊢ <;> first | exact (hQ _ _ _ (by simp) h2).elim | exact h2
    · rw [if_neg hw] at h ⊢
      exact ⟨h.1, hK _ _ h.2⟩

theorem wpAnyIn_post {F : Fence} {n : Nat} {md : Region.Mode} {ops : Array Oper} {Q1 Q2 : Exit → Act → World → Prop} (hQ0 : ∀ e a w, e ≠ .normal → Q1 e a w → False) (hQ : ∀ e a w, Q1 e a w → Q2 e a w) : ∀ (fuel : Nat) (listed : Array Bool) (a : Act) (w : World),
    wpAnyIn F n P md ops Q1 fuel listed a w → wpAnyIn F n P md ops Q2 fuel listed a w
  | 0, _, _, _, h => ⟨h.1, hQ _ _ _ h.2⟩
  | fuel + 1, _, _, _, h => ⟨fun hr => hQ _ _ _ (h.1 hr), fun i hi => wpOpIn_change hQ0 (fun a w hk => wpAnyIn_post hQ0 hQ fuel _ a w hk) (h.2 i hi)⟩

/-- **EVERY ORDER**: where all orders of the abstract operations go through, so do the model's. -/
theorem AllOk.sound {ops : Array Oper} {aos : List AOper} (hc : cOpers P ops ops.toList = some aos) {Z : Array Bool → AHeap → Prop} : ∀ (n : Nat) (listed : Array Bool) (st : ASt), AllOk P aos Z K n listed st →
    ∀ B ρ a w, StRel P B ρ st a w → wpAnyIn (FW r) 0 P .any ops (AQ P B ρ fun e st => e = .normal ∧ K st) n listed a w := by
  intro n
  induction n with
  | zero =>
    intro listed st h B ρ a w hs
    exact ⟨by rw [aReady_eq hc]; exact h.1, st, ρ, ⟨rfl, h.2⟩, hs, Ren.le_refl _⟩
  | succ n ih =>
    intro listed st h B ρ a w hs
    refine ⟨fun hr => ⟨st, ρ, ⟨rfl, h.1 (by rw [← aReady_eq hc]; exact hr)⟩, hs, Ren.le_refl _⟩, fun i hi => ?_⟩
    rw [aReady_eq hc] at hi
    obtain ⟨ao, st', h1, h2, _, h4⟩ := h.2 i hi
    have hlt : i < ops.size := by
      have := (List.getElem?_eq_some_iff.1 h1).1
      rw [(cOpers_get hc).1] at this
      simpa using this
    have ho : ops[i]? = some ops[i] := Array.getElem?_eq_getElem hlt
    obtain ⟨ao', h5, h6⟩ := (cOpers_get hc).2 i ops[i] (by simp [hlt])
    rw [h1] at h5; cases h5
    -- one operation, then the rest as the post
    have one : AOps P r ops [i] (fun st => st = st') st := by
      rcases h2 with ⟨g1, g2⟩ | ⟨g1, v, H', g2, g3⟩
      · exact AOps.skip ho h6 g1 (AOps.nil g2.symm)
      · rcases g3 with ⟨f, args, g3, g4⟩ | g3
        · exact AOps.call ho h6 g1 g3 g4 fun v' h' ⟨e1, e2⟩ => AOps.nil (by rw [e1, e2]; exact g2.symm)
        · exact AOps.op ho h6 g1 g3 (AOps.nil g2.symm)
    have hone := one B ρ a w hs
    rw [wpOpsIn_cons] at hone
    -- from the one operation to the rest
    have key : ∀ a' w', wpOpsIn (FW r) 0 P ops (AQ P B ρ fun e st => e = .normal ∧ st = st') [] a' w' → wpAnyIn (FW r) 0 P .any ops (AQ P B ρ fun e st => e = .normal ∧ K st) n (listed.setIfInBounds i true) a' w' := fun a' w' hq => by
      obtain ⟨st2, ρ2, ⟨_, rfl⟩, q2, q3⟩ := hq
      have := ih _ _ h4 B ρ2 a' w' q2
      exact wpAnyIn_post (fun e a w he ⟨_, _, ⟨h0, _⟩, _⟩ => he h0) (fun e a w hq => hq.le q3) _ _ _ _ this
    exact wpOpIn_change (fun e a w he ⟨_, _, ⟨h0, _⟩, _⟩ => he h0) key hone

end Go.Vm
