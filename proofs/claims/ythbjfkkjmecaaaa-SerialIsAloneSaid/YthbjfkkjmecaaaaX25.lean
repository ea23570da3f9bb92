/- The abstract machine, part 35: compact code, whatever comes of it: relational rules. -/
import Derived.Test.YthbjfkkjmecaaaaX24
import Derived.Test.YthbjfkkjmecaaaaX17
import Derived.Test.YthbjfkkjmecaaaaX02
namespace Go.Vm
open Go

set_option linter.unusedVariables false
set_option linter.unusedSimpArgs false

variable {P : Program} {r : Option Nat} {st st' : ASt} {Q Q' : Exit → ASt → Prop} {or : Oracle}

theorem cCode_seq {c : Code} {a b : ACode} (h : cCode P c = some (.seq a b)) : ∃ x y, c = .seq x y ∧ cCode P x = some a ∧ cCode P y = some b := by
  cases c with
  | seq x y =>
    simp only [cCode] at h
    obtain ⟨_, h1, h⟩ := Option.bind_eq_some_iff.1 h
    obtain ⟨_, h2, h⟩ := Option.map_eq_some_iff.1 h
    cases h
    exact ⟨x, y, rfl, h1, h2⟩
  | region id ops dr =>
    simp only [cCode] at h
    obtain ⟨_, _, h⟩ := Option.bind_eq_some_iff.1 h
    split at h
    · split at h <;> cases h
    · cases h
  | _ =>
    simp only [cCode] at h
    first
      | cases h; done
      | (obtain ⟨_, _, h⟩ := Option.map_eq_some_iff.1 h; cases h; done)
      | (obtain ⟨_, _, h⟩ := Option.bind_eq_some_iff.1 h; obtain ⟨_, _, h⟩ := Option.map_eq_some_iff.1 h; cases h; done)
      | (obtain ⟨_, _, h⟩ := Option.bind_eq_some_iff.1 h; obtain ⟨_, _, h⟩ := Option.bind_eq_some_iff.1 h; obtain ⟨_, _, h⟩ := Option.map_eq_some_iff.1 h; cases h; done)

theorem cCode_loop {c : Code} {a : ACode} (h : cCode P c = some (.loop a)) : ∃ x, c = .loop x ∧ cCode P x = some a := by
  cases c with
  | loop x =>
    simp only [cCode] at h
    obtain ⟨_, h1, h⟩ := Option.map_eq_some_iff.1 h
    cases h
    exact ⟨x, rfl, h1⟩
  | region id ops dr =>
    simp only [cCode] at h
    obtain ⟨_, _, h⟩ := Option.bind_eq_some_iff.1 h
    split at h
    · split at h <;> cases h
    · cases h
  | _ =>
    simp only [cCode] at h
    first
      | cases h; done
      | (obtain ⟨_, _, h⟩ := Option.map_eq_some_iff.1 h; cases h; done)
      | (obtain ⟨_, _, h⟩ := Option.bind_eq_some_iff.1 h; obtain ⟨_, _, h⟩ := Option.map_eq_some_iff.1 h; cases h; done)
      | (obtain ⟨_, _, h⟩ := Option.bind_eq_some_iff.1 h; obtain ⟨_, _, h⟩ := Option.bind_eq_some_iff.1 h; obtain ⟨_, _, h⟩ := Option.map_eq_some_iff.1 h; cases h; done)

theorem cCode_block {c : Code} {id : Nat} {a : ACode} (h : cCode P c = some (.block id a)) : ∃ x, c = .block id x ∧ cCode P x = some a := by
  cases c with
  | block id' x =>
    simp only [cCode] at h
    obtain ⟨_, h1, h⟩ := Option.map_eq_some_iff.1 h
    cases h
    exact ⟨x, rfl, h1⟩
  | region id ops dr =>
    simp only [cCode] at h
    obtain ⟨_, _, h⟩ := Option.bind_eq_some_iff.1 h
    split at h
    · split at h <;> cases h
    · cases h
  | _ =>
    simp only [cCode] at h
    first
      | cases h; done
      | (obtain ⟨_, _, h⟩ := Option.map_eq_some_iff.1 h; cases h; done)
      | (obtain ⟨_, _, h⟩ := Option.bind_eq_some_iff.1 h; obtain ⟨_, _, h⟩ := Option.map_eq_some_iff.1 h; cases h; done)
      | (obtain ⟨_, _, h⟩ := Option.bind_eq_some_iff.1 h; obtain ⟨_, _, h⟩ := Option.bind_eq_some_iff.1 h; obtain ⟨_, _, h⟩ := Option.map_eq_some_iff.1 h; cases h; done)

theorem cCode_region {c : Code} {aos : List AOper} (h : cCode P c = some (.region aos)) : ∃ id ops, c = .region id ops false ∧ cOpers P ops ops.toList = some aos := by
  cases c with
  | region id ops dr =>
    simp only [cCode] at h
    obtain ⟨_, h1, h⟩ := Option.bind_eq_some_iff.1 h
    split at h
    · split at h <;> cases h
    · rename_i hd
      cases h
      exact ⟨id, ops, by simp at hd; rw [hd], h1⟩
  | _ =>
    simp only [cCode] at h
    first
      | cases h; done
      | (obtain ⟨_, _, h⟩ := Option.map_eq_some_iff.1 h; cases h; done)
      | (obtain ⟨_, _, h⟩ := Option.bind_eq_some_iff.1 h; obtain ⟨_, _, h⟩ := Option.map_eq_some_iff.1 h; cases h; done)
      | (obtain ⟨_, _, h⟩ := Option.bind_eq_some_iff.1 h; obtain ⟨_, _, h⟩ := Option.bind_eq_some_iff.1 h; obtain ⟨_, _, h⟩ := Option.map_eq_some_iff.1 h; cases h; done)

/-- Compact code, whatever comes of it. -/
def CodeW (P : Program) (r : Option Nat) (ac : ACode) (Q : Exit → ASt → Prop) (st : ASt) : Prop := ∀ c, cCode P c = some ac → AWp P r c Q st

theorem CodeW.mono {ac : ACode} (h : CodeW P r ac Q st) (hq : ∀ e st, Q e st → Q' e st) : CodeW P r ac Q' st := fun c hc => (h c hc).mono hq

theorem CodeW.seq {a b : ACode} (h : CodeW P r a (AThen (CodeW P r b Q) Q) st) : CodeW P r (.seq a b) Q st := fun c hc => by
  obtain ⟨x, y, rfl, h1, h2⟩ := cCode_seq hc
  exact AWp.seq ((h x h1).mono fun e s hq => by cases e with
    | normal => exact hq y h2
    | _ => exact hq)

theorem CodeW.block {id : Nat} {a : ACode} (h : CodeW P r a (ABlock id Q) st) : CodeW P r (.block id a) Q st := fun c hc => by
  obtain ⟨x, rfl, h1⟩ := cCode_block hc
  exact AWp.block (h x h1)

theorem CodeW.loop {a : ACode} (T : Nat → ASt → Prop) (hT : ∀ n st, T n st → CodeW P r a (AThen (fun st' => ∃ m, m < n ∧ T m st') Q) st) {n : Nat} (h0 : T n st) : CodeW P r (.loop a) Q st := fun c hc => by
  obtain ⟨x, rfl, h1⟩ := cCode_loop hc
  exact AWp.loop T (fun n st h => hT n st h x h1) h0

/-- What runs, runs so. -/
theorem CodeW.run (hor : OracleOk P or) (hm : P.follows .mixedOrders = true) (hgo : OracleGoY P or) {n : Nat} {ac : ACode} {e : Exit} (h : aCode or true n ac st = some (e, st')) (hq : Q e st') : CodeW P none ac Q st := fun c hc =>
  (aCode_ok hor hm hgo (fun _ => rfl) c ac st e st' hc h).mono fun _ _ ⟨a, b⟩ => by rw [a, b]; exact hq

/-- A region that begins with the next of a map's entries. -/
theorem CodeW.next (hor : OracleOk P or) {ao : AOper} {aos : List AOper} {ax : AOpd} {A M since last clock : Nat} {seen : List Nat} {es : AEntries} (hop : ao.op = .iterNext ax) (hw : awanted ao.guard st.tm = some true) (hxe : ev st.tm ax = .ptr A 0 0)
    (hg : st.H.get A = some (.iter (some M) since seen last)) (hgM : st.H.get M = some (.map es clock)) (hold : ∀ e ∈ es, e.2.2 < since) (hsl : since ≤ last)
    (h0 : leftIn es seen = [] → ∃ s, aSteps or aos (st.put ao.dst (.tuple [abool false])) = some s ∧ Q .normal s)
    (h1 : ∀ e ∈ leftIn es seen, ∃ s, aSteps or aos ({ st with H := st.H.set A (.iter (some M) since (seen ++ [e.2.2]) clock) }.put ao.dst (.tuple [abool true, e.1, e.2.1])) = some s ∧ Q .normal s) : CodeW P r (.region (ao :: aos)) Q st := fun c hc => by
  obtain ⟨id, ops, rfl, hos⟩ := cCode_region hc
  refine AWp.region ?_
  cases hl : ops.toList with
  | nil => rw [hl] at hos; simp [cOpers] at hos
  | cons o l =>
    rw [hl] at hos
    simp only [cOpers, Option.bind_eq_some_iff, Option.map_eq_some_iff] at hos
    obtain ⟨ao', hao, as, has, e⟩ := hos
    cases e
    have hsz : List.range ops.size = 0 :: List.range' 1 l.length := by
      have : ops.size = l.length + 1 := by rw [← Array.length_toList, hl]; rfl
      rw [this, List.range_eq_range', List.range'_succ]
    have hat : ∀ i o', l[i]? = some o' → ops[1 + i]? = some o' := fun i o' ho' => by
      rw [← Array.getElem?_toList, hl, Nat.add_comm 1 i, List.getElem?_cons_succ]; exact ho'
    have h00 : ops[0]? = some o := by rw [← Array.getElem?_toList, hl]; rfl
    have rest : ∀ s0 s, aSteps or aos s0 = some s → Q .normal s → AOps P r ops (List.range' 1 l.length) (Q .normal) s0 := fun s0 s hs hq B ρ a w hr => by
      have := aSteps_ok (r := r) hor l aos 1 s0 s hat has hs B ρ a w hr
      refine wpOpsIn_mono (fun e a w q => ?_) _ _ _ this
      obtain ⟨s', ρ', ⟨q1, q2⟩, q3, q4⟩ := q
      subst q2
      exact ⟨s', ρ', ⟨q1, hq⟩, q3, q4⟩
    rw [hsz]
    exact AOps.iterNext h00 hao hop hw hxe hg hgM hold hsl (fun hl0 => let ⟨s, a, b⟩ := h0 hl0; rest _ s a b) fun e he => let ⟨s, a, b⟩ := h1 e he; rest _ s a b

theorem cCode_cond {c : Code} {x : AOpd} {a b : ACode} (h : cCode P c = some (.cond x a b)) : ∃ x' u v, c = .cond x' u v ∧ cOpd x' = some x ∧ cCode P u = some a ∧ cCode P v = some b := by
  cases c with
  | cond x' u v =>
    simp only [cCode] at h
    obtain ⟨_, h1, h⟩ := Option.bind_eq_some_iff.1 h
    obtain ⟨_, h2, h⟩ := Option.bind_eq_some_iff.1 h
    obtain ⟨_, h3, h⟩ := Option.map_eq_some_iff.1 h
    cases h
    exact ⟨x', u, v, rfl, h1, h2, h3⟩
  | region id ops dr =>
    simp only [cCode] at h
    obtain ⟨_, _, h⟩ := Option.bind_eq_some_iff.1 h
    split at h
    · split at h <;> cases h
    · cases h
  | _ =>
    simp only [cCode] at h
    first
      | cases h; done
      | (obtain ⟨_, _, h⟩ := Option.map_eq_some_iff.1 h; cases h; done)
      | (obtain ⟨_, _, h⟩ := Option.bind_eq_some_iff.1 h; obtain ⟨_, _, h⟩ := Option.map_eq_some_iff.1 h; cases h; done)
      | (obtain ⟨_, _, h⟩ := Option.bind_eq_some_iff.1 h; obtain ⟨_, _, h⟩ := Option.bind_eq_some_iff.1 h; obtain ⟨_, _, h⟩ := Option.map_eq_some_iff.1 h; cases h; done)

theorem CodeW.cond {x : AOpd} {a b : ACode} {t : Bool} (he : ev st.tm x = .raw (.bool t)) (h : CodeW P r (if t then a else b) Q st) : CodeW P r (.cond x a b) Q st := fun c hc => by
  obtain ⟨x', u, v, rfl, h1, h2, h3⟩ := cCode_cond hc
  refine AWp.cond h1 he ?_
  cases t
  · exact h v h3
  · exact h u h2

theorem CodeW.ret (h : Q .ret st) : CodeW P r .ret Q st := fun c hc => by
  rw [cCode_ret hc]
  exact AWp.ret h

/-- A function's contract from a walk of its compact code. -/
theorem ACalls.of_code {env : Nat → Option AFunc} (henv : EnvOk P env) {f : Nat} {af : AFunc} (hf : env f = some af) {args : List AVal} {H : AHeap} {R : AVal → AHeap → Prop}
    (h : CodeW P none af.code (AEnds af.res R) { tm := args ++ List.replicate (af.ntmps - args.length) aundef, H := H, marks := [] }) : ACalls P f args H R := by
  obtain ⟨fn, h1, h2, h3⟩ := henv f af hf
  unfold cFunc at h3
  simp only [Option.bind_eq_some_iff, Option.map_eq_some_iff] at h3
  obtain ⟨c, hb, ac, hac, rs, hrs, rfl⟩ := h3
  exact ACalls.of_body h1 hb hrs (h c hac)

end Go.Vm
namespace Go.Vm
open Go

set_option linter.unusedVariables false
set_option linter.unusedSimpArgs false

variable {P : Program} {B : Base} {ρ0 ρ ρ2 : Ren} {H0 H H2 : AHeap} {w0 w : World}

mutual
/-- A value that is known under fewer names lies where it lies. -/
theorem VRel.shrink (hle : ρ0.le ρ) : ∀ {v : AVal} {c0 c : Value}, VRel ρ0 v c0 → VRel ρ v c → VRel ρ0 v c
  | _, _, _, .raw v, .raw _ => .raw v
  | _, _, _, .ptr h0, .ptr h => by rw [hle _ _ _ h0] at h; cases h; exact .ptr h0
  | _, _, _, .slice h0 _ _ _ _, .slice h hk hl he hn => by rw [hle _ _ _ h0] at h; cases h; exact .slice h0 hk hl he hn
  | _, _, _, .sliceE h0, .sliceE h => .sliceE h0
  | _, _, _, .slice h0 _ _ _ _, .sliceE h => .sliceE h0
  | _, _, _, .sliceE h0, .slice h hk hl he hn => by rw [hle _ _ _ h0] at h; cases h; exact .slice h0 hk hl he hn
  | _, _, _, .map h0, .map h => by rw [hle _ _ _ h0] at h; cases h; exact .map h0
  | _, _, _, .func h0, .func h => .func (VRels.shrink hle h0 h)
  | _, _, _, .yield h0, .yield h => by rw [hle _ _ _ h0] at h; cases h; exact .yield h0
  | _, _, _, .agg h0, .agg h => .agg (VRels.shrink hle h0 h)
  | _, _, _, .tuple h0, .tuple h => .tuple (VRels.shrink hle h0 h)
  | _, _, _, .iface h0, .iface h => .iface (VRel.shrink hle h0 h)
theorem VRels.shrink (hle : ρ0.le ρ) : ∀ {v : List AVal} {c0 c : List Value}, VRels ρ0 v c0 → VRels ρ v c → VRels ρ0 v c
  | _, _, _, .nil, .nil => .nil
  | _, _, _, .cons h0 hs0, .cons h hs => .cons (VRel.shrink hle h0 h) (VRels.shrink hle hs0 hs)
end

/-- Cells of versions, forgotten. -/
theorem HRel.forget (h : HRel P B ρ H w) {A : Nat} {vs vs' : Vers} (hA : H.get A = some (.row vs)) (hl : vs'.length = vs.length) (hv : ∀ (v : Nat) x, vs'[v]? = some (some x) → vs[v]? = some (some x)) : HRel P B ρ (H.set A (.row vs')) w := by
  have hro : ∀ C, isRo (H.set A (.row vs')) C ↔ isRo H C := fun C => by
    unfold isRo
    rw [AHeap.get_set]
    split
    · rename_i e
      rw [e, hA]
      exact ⟨fun ⟨_, h⟩ => by simp at h, fun ⟨_, h⟩ => by simp at h⟩
    · exact Iff.rfl
  have hlt : A < H.next := by
    rcases Nat.lt_or_ge A H.next with q | q
    · exact q
    · rw [h.wf A q] at hA; cases hA
  refine ⟨h.le, h.fresh, fun C hC => ?_, fun C v l q => ?_, fun C o q => ?_, fun A1 A2 v1 v2 l1 l2 e1 e2 e3 => ?_, fun C v l e r => h.own C v l e fun q => r ((hro C).2 q), h.lt, h.size, h.frame, h.side, fun C v l r e => h.ro C v l ((hro C).1 r) e⟩
  · rw [AHeap.get_set]
    split
    · rename_i e; subst e; exact absurd hlt (by simpa using hC)
    · exact h.wf C hC
  · rw [AHeap.get_set]
    split
    · exact ⟨_, rfl⟩
    · exact h.dom C v l q
  · rw [AHeap.get_set] at q
    split at q
    · rename_i e
      subst e
      cases q
      obtain ⟨h1, h2, h3, h4⟩ := h.obj _ _ hA
      exact ⟨fun v hv' => h1 v (by omega), fun v hv' => h2 v (by omega), fun v rel cells l e1 e2 => h3 v rel cells l (hv v _ e1) e2, fun v1 v2 r1 r2 c1 c2 l1 l2 e1 e2 => h4 v1 v2 r1 r2 c1 c2 l1 l2 (hv v1 _ e1) (hv v2 _ e2)⟩
    · exact h.obj C o q
  · rcases h.sep A1 A2 v1 v2 l1 l2 e1 e2 e3 with q | ⟨q1, q2⟩
    · exact .inl q
    · exact .inr ⟨(hro _).2 q1, (hro _).2 q2⟩

theorem CellsAt.shrink (hle : ρ0.le ρ) {a0 a : Array Value} {s0 s : Nat} {l : List AVal} (h0 : CellsAt ρ0 a0 s0 l) (h : CellsAt ρ a s l) : CellsAt ρ0 a s l := fun i v hv => by
  obtain ⟨c0, _, r0⟩ := h0 i v hv
  obtain ⟨c, e, r⟩ := h i v hv
  exact ⟨c, e, r0.shrink hle r⟩

theorem RowAt.shrink (hle : ρ0.le ρ) {l0 l : Loc} {cells : List AVal} (h0 : RowAt ρ0 w0 l0 cells) (h : RowAt ρ w l cells) : RowAt ρ0 w l cells := by
  obtain ⟨a0, e0, f0, _, _, c0⟩ := h0
  obtain ⟨a, e, f, h1, h2, c⟩ := h
  exact ⟨a, e, f, h1, h2, c0.shrink hle c⟩

theorem EntriesRel.shrink (hle : ρ0.le ρ) : ∀ {es : List (AVal × AVal × Nat)} {c0 c : List MapEntry}, EntriesRel ρ0 es c0 → EntriesRel ρ es c → EntriesRel ρ0 es c
  | [], _, [], _, _ => trivial
  | [], _, _ :: _, _, h => h.elim
  | _ :: _, _, [], _, h => h.elim
  | _ :: _, [], _ :: _, h0, _ => h0.elim
  | (_, _, _) :: _, _ :: _, _ :: _, ⟨a0, b0, _, d0⟩, ⟨a, b, c, d⟩ => ⟨a0.shrink hle a, b0.shrink hle b, c, EntriesRel.shrink hle d0 d⟩

theorem IterRel.shrink (hle : ρ0.le ρ) : ∀ {M c0 c : Option Nat}, IterRel ρ0 M c0 → IterRel ρ M c → IterRel ρ0 M c
  | none, _, none, _, _ => trivial
  | none, _, some _, _, h => h.elim
  | some _, _, none, _, h => h.elim
  | some M, some _, some _, ⟨x0, a0, _⟩, ⟨x, a, b⟩ => by
    rw [hle _ _ _ a0] at a
    cases a
    exact ⟨x0, a0, b⟩
  | some M, none, some _, h0, _ => h0.elim

theorem LoopRel.shrink (hle : ρ0.le ρ) {L : ALoop} {l0 l : Loop} (h0 : LoopRel P ρ0 L l0) (h : LoopRel P ρ L l) : LoopRel P ρ0 L l := by
  obtain ⟨_, _, t0, _, _, _, x0, d0, _⟩ := h0
  obtain ⟨a, b, t, c, d, e, x, f, g⟩ := h
  rw [hle _ _ _ d0] at f
  cases f
  exact ⟨a, b, t0.shrink hle t, c, d, e, x0, d0, g⟩

theorem Single.of_eq {A : Nat} (hA : ∀ v, ρ0 A v = ρ A v) (h : Single ρ A) : Single ρ0 A := fun v hv => by rw [hA]; exact h v hv

/-- What lay in an older state, under its names alone, lies there so still. -/
theorem ObjRel.shrink (hle : ρ0.le ρ) {A : Nat} {o : AObj} (hA : ∀ v, ρ0 A v = ρ A v) (h0 : ObjRel P ρ0 w0 A o) (h : ObjRel P ρ w A o) : ObjRel P ρ0 w A o := by
  cases o with
  | row vs =>
    obtain ⟨_, _, k, _⟩ := h0
    obtain ⟨h1, h2, h3, h4⟩ := h
    refine ⟨fun v hv => by rw [hA]; exact h1 v hv, fun v hv => by rw [hA]; exact h2 v hv, fun v rel cells l e1 e2 => ?_, fun v1 v2 r1 r2 c1 c2 l1 l2 e1 e2 e3 e4 => ?_⟩
    · exact (k v rel cells l e1 e2).shrink hle (h3 v rel cells l e1 (by rw [← hA]; exact e2))
    · rw [hA] at e3 e4
      exact h4 v1 v2 r1 r2 c1 c2 l1 l2 e1 e2 e3 e4
  | ro cells =>
    obtain ⟨_, l0, a0, b0⟩ := h0
    obtain ⟨s, l, a, b⟩ := h
    exact ⟨Single.of_eq hA s, l, by rw [hA]; exact a, b0.shrink hle b⟩
  | map es clock =>
    obtain ⟨_, l0, c0, _, _, k0⟩ := h0
    obtain ⟨s, l, c, a, b, k⟩ := h
    exact ⟨Single.of_eq hA s, l, c, by rw [hA]; exact a, b, k0.shrink hle k⟩
  | loop L =>
    obtain ⟨_, l0, r0, _, _, k0⟩ := h0
    obtain ⟨s, l, r, a, b, k⟩ := h
    exact ⟨Single.of_eq hA s, l, r, by rw [hA]; exact a, b, k0.shrink hle k⟩
  | defs taken =>
    obtain ⟨s, l, a, b⟩ := h
    exact ⟨Single.of_eq hA s, l, by rw [hA]; exact a, b⟩
  | iter M since seen last =>
    obtain ⟨_, l0, m0, _, _, _, k0⟩ := h0
    obtain ⟨s, l, m, a, b, c, k⟩ := h
    exact ⟨Single.of_eq hA s, l, m, by rw [hA]; exact a, b, c, k0.shrink hle k⟩

/-- An object bears the same names in two states. -/
theorem ObjRel.names (hle : ρ0.le ρ) {A : Nat} {o : AObj} (h0 : ObjRel P ρ0 w0 A o) (h : ObjRel P ρ w A o) : ∀ v, ρ0 A v = ρ A v := by
  have one : ∀ {l0 l : Loc}, Single ρ0 A → Single ρ A → ρ0 A 0 = some l0 → ρ A 0 = some l → ∀ v, ρ0 A v = ρ A v := fun {l0 l} s0 s a0 a v => by
    by_cases hv : v = 0
    · subst hv; rw [a0, hle _ _ _ a0]
    · rw [s0 v hv, s v hv]
  cases o with
  | row vs =>
    intro v
    rcases Nat.lt_or_ge v vs.length with hv | hv
    · obtain ⟨l, a, _⟩ := h0.2.1 v hv
      rw [a, hle _ _ _ a]
    · rw [h0.1 v hv, h.1 v hv]
  | ro cells => obtain ⟨s0, l0, a0, _⟩ := h0; obtain ⟨s, l, a, _⟩ := h; exact one s0 s a0 a
  | map es clock => obtain ⟨s0, l0, _, a0, _⟩ := h0; obtain ⟨s, l, _, a, _⟩ := h; exact one s0 s a0 a
  | loop L => obtain ⟨s0, l0, _, a0, _⟩ := h0; obtain ⟨s, l, _, a, _⟩ := h; exact one s0 s a0 a
  | defs taken => obtain ⟨s0, l0, a0, _⟩ := h0; obtain ⟨s, l, a, _⟩ := h; exact one s0 s a0 a
  | iter M since seen last => obtain ⟨s0, l0, _, a0, _⟩ := h0; obtain ⟨s, l, _, a, _⟩ := h; exact one s0 s a0 a

/-- The names of some blocks alone. -/
def Ren.only (ρ : Ren) (K : Nat → Bool) : Ren := fun A v => if K A then ρ A v else none

theorem Ren.only_some {K : Nat → Bool} {A v : Nat} {l : Loc} (h : ρ.only K A v = some l) : K A = true ∧ ρ A v = some l := by
  unfold Ren.only at h
  split at h
  · exact ⟨by assumption, h⟩
  · cases h

/-- A state, of which only some blocks are spoken of: those of an older state that lie as they lay, and some new ones. -/
theorem HRel.only (h0 : HRel P B ρ0 H0 w0) (h : HRel P B ρ H w) (hle : ρ0.le ρ) (hold : ∀ A, A < H0.next → H.get A = H0.get A) (K : Nat → Bool) (hK : ∀ A, A < H0.next → K A = true)
    (hnew : ∀ A o, H0.next ≤ A → K A = true → H.get A = some o → ObjRel P (ρ.only K) w A o) (hg : ∀ A, K A = true → H2.get A = H.get A) (hn : ∀ A, K A = false → H2.get A = none) (hnext : H2.next = H.next) (hmono : H0.next ≤ H.next) :
    HRel P B (ρ.only K) H2 w ∧ ρ0.le (ρ.only K) := by
  have hlow : ρ0.le (ρ.only K) := fun A v l q => by
    have hA : A < H0.next := by
      rcases Nat.lt_or_ge A H0.next with x | x
      · exact x
      · rw [h0.fresh A v x] at q; cases q
    unfold Ren.only
    rw [hK A hA]
    exact hle _ _ _ q
  have hro : ∀ A, K A = true → (isRo H2 A ↔ isRo H A) := fun A hA => by unfold isRo; rw [hg A hA]
  refine ⟨⟨fun A v l q => hlow _ _ _ (h0.le _ _ _ q), fun A v q => ?_, fun A q => ?_, fun A v l q => ?_, fun A o q => ?_, fun A1 A2 v1 v2 l1 l2 e1 e2 e3 => ?_, fun A v l e r => ?_, fun A v l e => h.lt A v l (Ren.only_some e).2, h.size, h.frame, h.side, fun A v l r e => ?_⟩, hlow⟩
  · unfold Ren.only
    split
    · exact h.fresh A v (by rw [← hnext]; exact q)
    · rfl
  · cases hk : K A with
    | true => rw [hg A hk]; exact h.wf A (by rw [← hnext]; exact q)
    | false => exact hn A hk
  · obtain ⟨a, b⟩ := Ren.only_some q
    rw [hg A a]
    exact h.dom A v l b
  · have hk : K A = true := by
      cases hk : K A with
      | true => rfl
      | false => rw [hn A hk] at q; cases q
    rw [hg A hk] at q
    rcases Nat.lt_or_ge A H0.next with x | x
    · have q0 : H0.get A = some o := by rw [← hold A x]; exact q
      have r0 := h0.obj A o q0
      have r := h.obj A o q
      have hA := ObjRel.names hle r0 r
      exact (ObjRel.shrink hle hA r0 r).keep hlow (fun v => by unfold Ren.only; rw [hK A x, if_pos rfl, hA]) fun v l _ => rfl
    · exact hnew A o x hk q
  · obtain ⟨a1, b1⟩ := Ren.only_some e1
    obtain ⟨a2, b2⟩ := Ren.only_some e2
    rcases h.sep A1 A2 v1 v2 l1 l2 b1 b2 e3 with x | ⟨x, y⟩
    · exact .inl x
    · exact .inr ⟨(hro A1 a1).2 x, (hro A2 a2).2 y⟩
  · obtain ⟨a, b⟩ := Ren.only_some e
    exact h.own A v l b fun x => r ((hro A a).2 x)
  · obtain ⟨a, b⟩ := Ren.only_some e
    exact h.ro A v l ((hro A a).1 r) b

end Go.Vm
namespace Go.Vm
open Go

set_option linter.unusedVariables false
set_option linter.unusedSimpArgs false

variable {P : Program} {B : Base} {ρ ρ' : Ren} {H H' H2 : AHeap} {w w' : World} {K : Nat → Bool}

/-- Rows of plain values alone. -/
def Raws (vs : Vers) : Prop := ∀ (v rel : Nat) (cells : List AVal), vs[v]? = some (some (rel, cells)) → ∀ x ∈ cells, ∃ y, x = .raw y

theorem RowRel.only {A : Nat} {vs : Vers} (hK : K A = true) (h : RowRel ρ w A vs) (hr : Raws vs) : RowRel (ρ.only K) w A vs := by
  have hA : ∀ v, ρ.only K A v = ρ A v := fun v => by unfold Ren.only; rw [hK, if_pos rfl]
  obtain ⟨h1, h2, h3, h4⟩ := h
  refine ⟨fun v hv => by rw [hA]; exact h1 v hv, fun v hv => by rw [hA]; exact h2 v hv, fun v rel cells l e1 e2 => ?_, fun v1 v2 r1 r2 c1 c2 l1 l2 e1 e2 e3 e4 => ?_⟩
  · rw [hA] at e2
    obtain ⟨arr, e, fz, a, b, c⟩ := h3 v rel cells l e1 e2
    refine ⟨arr, e, fz, a, b, fun i x hx => ?_⟩
    obtain ⟨cv, p, q⟩ := c i x hx
    obtain ⟨y, rfl⟩ := hr v rel cells e1 x (List.mem_of_getElem? hx)
    exact ⟨cv, p, by rw [q.raw_inv]; exact .raw _⟩
  · rw [hA] at e3 e4
    exact h4 v1 v2 r1 r2 c1 c2 l1 l2 e1 e2 e3 e4

/-- A value that lies at a block that is spoken of, or nowhere. -/
inductive Spoken (K : Nat → Bool) : AVal → Prop
  | raw (v : Value) : Spoken K (.raw v)
  | slice {A ver off len kcap : Nat} {ex : Bool} {esz : Nat} (h : K A = true) : Spoken K (.slice A ver off len kcap ex esz)

theorem Spoken.rel {v : AVal} {cv : Value} (hs : Spoken K v) (h : VRel ρ v cv) : VRel (ρ.only K) v cv := by
  cases hs with
  | raw x => rw [h.raw_inv]; exact .raw _
  | slice hk =>
    cases h with
    | slice a b c d e => exact .slice (by unfold Ren.only; rw [hk, if_pos rfl]; exact a) b c d e
    | sliceE a => exact .sliceE (by unfold Ren.only; rw [hk, if_pos rfl]; exact a)

/-- A call's outcome, told over fewer blocks. -/
theorem ACalls.only {f : Nat} {args : List AVal} {R R' : AVal → AHeap → Prop} (h : ACalls P f args H R)
    (hR : (∀ A, H.next ≤ A → H.get A = none) → ∀ v H', R v H' → ∃ (K : Nat → Bool) (H2 : AHeap), H.next ≤ H'.next ∧ (∀ A, A < H.next → H'.get A = H.get A) ∧ (∀ A, A < H.next → K A = true) ∧ (∀ A o, H.next ≤ A → K A = true → H'.get A = some o → ∃ vs, o = .row vs ∧ Raws vs) ∧
      (∀ A, K A = true → H2.get A = H'.get A) ∧ (∀ A, K A = false → H2.get A = none) ∧ H2.next = H'.next ∧ Spoken K v ∧ R' v H2) : ACalls P f args H R' := by
  intro B ρ w cargs hH hargs
  refine (h B ρ w cargs hH hargs).mono fun e w' ⟨v, cv, H', ρ', e1, e2, e3, e4, e5⟩ => ?_
  obtain ⟨K, H2, a1, a2, a3, a4, a5, a6, a7, a8, a9⟩ := hR hH.wf v H' e2
  obtain ⟨b1, b2⟩ := HRel.only (H2 := H2) hH e4 e5 a2 K a3 (fun A o hA hk hg => by
    obtain ⟨vs, rfl, hr⟩ := a4 A o hA hk hg
    exact RowRel.only hk (e4.obj A _ hg) hr) a5 a6 a7 a1
  exact ⟨v, cv, H2, _, e1, a9, a8.rel e3, b1, b2⟩

/-- A call's outcome, old versions of a row forgotten. -/
theorem ACalls.forget {f : Nat} {args : List AVal} {R R' : AVal → AHeap → Prop} (h : ACalls P f args H R)
    (hR : ∀ v H', R v H' → ∃ A vs vs', H'.get A = some (.row vs) ∧ vs'.length = vs.length ∧ (∀ (v : Nat) x, vs'[v]? = some (some x) → vs[v]? = some (some x)) ∧ R' v (H'.set A (.row vs'))) : ACalls P f args H R' := by
  intro B ρ w cargs hH hargs
  refine (h B ρ w cargs hH hargs).mono fun e w' ⟨v, cv, H', ρ', e1, e2, e3, e4, e5⟩ => ?_
  obtain ⟨A, vs, vs', a1, a2, a3, a4⟩ := hR v H' e2
  exact ⟨v, cv, _, ρ', e1, a4, e3, e4.forget a1 a2 a3, e5⟩

end Go.Vm
namespace Go.Vm
open Go

set_option linter.unusedVariables false
set_option linter.unusedSimpArgs false

variable {P : Program} {or : Oracle} {n N : Nat} {C : List Nat} {s s' s1 : KS} {l l' l1 : KL} {H H1 : AHeap} {Q Q' : Exit → KS → Prop} {a b : ACode}

def KQ (N : Nat) (Q : Exit → KS → Prop) (e : Exit) (st : ASt) : Prop := ∃ s', st.marks = [] ∧ st.H = s'.2 ∧ Kn N s'.1 st.tm ∧ Q e s'

structure WpR (P : Program) (N : Nat) (C : List Nat) (c : ACode) (s : KS) (Q : Exit → KS → Prop) : Prop where
  run : ∀ tm, Kn N s.1 tm → CodeW P none c (KQ N Q) ⟨tm, s.2, []⟩

def RSeq (P : Program) (N : Nat) (C : List Nat) (b : ACode) (Q : Exit → KS → Prop) : Exit → KS → Prop
  | .normal, s => WpR P N C b s Q
  | e, s => Q e s

theorem WpR.of (hor : OracleOk P or) (hm : P.follows .mixedOrders = true) (hgo : OracleGoY P or) {c : ACode} (h : Wp or n N C c s Q) : WpR P N C c s Q := ⟨fun tm hk => by
  obtain ⟨e, tm', s', h1, h2, h3⟩ := h.run tm hk
  exact CodeW.run hor hm hgo h1 ⟨s', rfl, rfl, h2, h3⟩⟩

theorem WpR.seq (h : WpR P N C a s (RSeq P N C b Q)) : WpR P N C (.seq a b) s Q := ⟨fun tm hk => CodeW.seq ((h.run tm hk).mono fun e st hq => by
  obtain ⟨s', h1, h2, h3, h4⟩ := hq
  obtain ⟨tm', H', m⟩ := st
  cases h1; cases h2
  cases e with
  | normal => exact h4.run tm' h3
  | _ => exact ⟨s', rfl, rfl, h3, h4⟩)⟩

theorem WpR.blk {id : Nat} (h : WpR P N C a s (QBlk id Q)) : WpR P N C (.block id a) s Q := ⟨fun tm hk => CodeW.block ((h.run tm hk).mono fun e st hq => by
  obtain ⟨s', h1, h2, h3, h4⟩ := hq
  cases e with
  | exit k =>
    simp only [QBlk] at h4
    simp only [ABlock]
    split
    · rename_i e; rw [if_pos e] at h4; exact ⟨s', h1, h2, h3, h4⟩
    · rename_i e; rw [if_neg e] at h4; exact ⟨s', h1, h2, h3, h4⟩
  | _ => exact ⟨s', h1, h2, h3, h4⟩)⟩

theorem WpR.cond {x : AOpd} {t : Bool} (he : evK s.1 x = some (abool t)) (h : WpR P N C (if t then a else b) s Q) : WpR P N C (.cond x a b) s Q := ⟨fun tm hk => CodeW.cond (by rw [evK_ok hk he]) (h.run tm hk)⟩
theorem WpR.cT {x : AOpd} (he : evK s.1 x = some (abool true)) (h : WpR P N C a s Q) : WpR P N C (.cond x a b) s Q := WpR.cond he h
theorem WpR.cF {x : AOpd} (he : evK s.1 x = some (abool false)) (h : WpR P N C b s Q) : WpR P N C (.cond x a b) s Q := WpR.cond he h

theorem WpR.loop {α : Type} (L : α → KL) (Hp : α → AHeap) (I : α → Prop) (μ : α → Nat) (x : α) (hH : Hp x = s.2) (hI : I x) (hl : SubK (L x) s.1)
    (h : ∀ x, I x → WpR P N C a (L x, Hp x) (fun e s' => match e with | .normal => ∃ y, Hp y = s'.2 ∧ I y ∧ μ y < μ x ∧ SubK (L y) s'.1 | e => Q e s')) : WpR P N C (.loop a) s Q := ⟨fun tm hk =>
  CodeW.loop (fun m st => ∃ y, μ y = m ∧ I y ∧ st.marks = [] ∧ st.H = Hp y ∧ Kn N (L y) st.tm) (fun m st ⟨y, e1, e2, e3, e4, e5⟩ => by
    obtain ⟨tm', H', mk⟩ := st
    cases e3; cases e4
    refine ((h y e2).run tm' e5).mono fun e st hq => ?_
    obtain ⟨s', h1, h2, h3, h4⟩ := hq
    cases e with
    | normal =>
      obtain ⟨z, g1, g2, g3, g4⟩ := h4
      exact ⟨μ z, by omega, z, rfl, g2, h1, h2.trans g1.symm, g4.kn h3⟩
    | _ => exact ⟨s', h1, h2, h3, h4⟩) (n := μ x) ⟨x, rfl, hI, rfl, hH.symm, hl.kn hk⟩⟩

theorem WpR.ret (h : Q .ret s) : WpR P N C .ret s Q := ⟨fun tm hk => CodeW.ret ⟨s, rfl, rfl, hk, h⟩⟩

/-- A region that begins with the next of a map's entries. -/
theorem WpR.next (hor : OracleOk P or) {ao : AOper} {aos : List AOper} {ax : AOpd} {A M since last clock : Nat} {seen : List Nat} {es : AEntries} (hop : ao.op = .iterNext ax) (hg : ao.guard = none) (hx : evK s.1 ax = some (.ptr A 0 0))
    (hA : s.2.get A = some (.iter (some M) since seen last)) (hM : s.2.get M = some (.map es clock)) (hold : ∀ e ∈ es, e.2.2 < since) (hsl : since ≤ last)
    (h0 : leftIn es seen = [] → ∃ s', Ex or N aos (putK N s.1 ao.dst (.tuple [abool false]), s.2) s' ∧ Q .normal s')
    (h1 : ∀ e ∈ leftIn es seen, ∃ s', Ex or N aos (putK N s.1 ao.dst (.tuple [abool true, e.1, e.2.1]), s.2.set A (.iter (some M) since (seen ++ [e.2.2]) clock)) s' ∧ Q .normal s') : WpR P N C (.region (ao :: aos)) s Q := ⟨fun tm hk => by
  refine CodeW.next hor hop (by unfold awanted; rw [hg]) (evK_ok hk hx) hA hM hold hsl (fun hl => ?_) fun e he => ?_
  · obtain ⟨s', g1, g2⟩ := h0 hl
    obtain ⟨tm1, a1, a2⟩ := hk.put ao.dst (.tuple [abool false]) s.2 []
    obtain ⟨tm2, b1, b2⟩ := g1 tm1 [] a2
    exact ⟨⟨tm2, s'.2, []⟩, by rw [a1]; exact b1, s', rfl, rfl, b2, g2⟩
  · obtain ⟨s', g1, g2⟩ := h1 e he
    obtain ⟨tm1, a1, a2⟩ := hk.put ao.dst (.tuple [abool true, e.1, e.2.1]) (s.2.set A (.iter (some M) since (seen ++ [e.2.2]) clock)) []
    obtain ⟨tm2, b1, b2⟩ := g1 tm1 [] a2
    exact ⟨⟨tm2, s'.2, []⟩, by rw [a1]; exact b1, s', rfl, rfl, b2, g2⟩⟩

/-- A function's contract from such a walk. -/
theorem WpR.calls {env : Nat → Option AFunc} (henv : EnvOk P env) {f : Nat} {af : AFunc} {args : List AVal} {R : AVal → AHeap → Prop} (N : Nat) (C : List Nat) (h : env f = some af) (hN : af.ntmps = N) (ha : args.length ≤ N)
    (hw : WpR P N C af.code (argK 0 args, H) (EndK af.res R)) : ACalls P f args H R := by
  subst hN
  refine ACalls.of_code henv h ((hw.run (initTm af args) ⟨initTm_len ha, fun k v hv => initTm_at (by have := look_argK args 0 k v hv; simpa using this.2)⟩).mono fun e st hq => ?_)
  obtain ⟨s', h1, h2, h3, h4⟩ := hq
  obtain ⟨tm', H', mk⟩ := st
  cases h1; cases h2
  cases e with
  | normal => obtain ⟨vs, g1, g2⟩ := h4; exact ⟨_, vs, rfl, ressK_ok h3 g1, g2⟩
  | ret => obtain ⟨vs, g1, g2⟩ := h4; exact ⟨_, vs, rfl, ressK_ok h3 g1, g2⟩
  | _ => exact h4

end Go.Vm
