/- The abstract machine, part 11: the operations are sound (operators, conversions, maps). -/
import Derived.Test.YthbjfkkjmecaaaaT04
set_option linter.unusedVariables false
set_option linter.unusedSimpArgs false
namespace Go.Vm
open Go
variable {P : Program} {B : Base} {ρ ρ' : Ren} {H H' : AHeap} {w w' : World} {tm : List AVal} {ce : Operand → Value} {o : Oper} {av : AVal} {ao : AOp}
theorem cBin_cases {op : BinOp} {t : TypeId} {x y : AOpd} (h : cBin P op t x y = some ao) : ao = .bin op x y ∨
    ∃ d p, (op = .eql ∨ op = .neq) ∧ P.underlying t = some d ∧ (∀ k, d ≠ .int k) ∧ d ≠ .string ∧ (isAggD d && P.eqGuardType P.depth t) = false ∧ cEq P 20 t = some p ∧ ao = .eqP (op == .neq) p x y := by
  unfold cBin at h
  split at h
  · split at h
    · cases h; exact .inl rfl
    · cases h; exact .inl rfl
    · rename_i d h1 h2 hd
      split at h
      · cases h
      · rename_i hg
        obtain ⟨p, hp, rfl⟩ := Option.map_eq_some_iff.1 h
        exact .inr ⟨d, p, .inl rfl, hd, fun k hk => h1 k hk, fun hk => h2 hk, by simpa using hg, hp, rfl⟩
    · cases h
  · split at h
    · cases h; exact .inl rfl
    · cases h; exact .inl rfl
    · rename_i d h1 h2 hd
      split at h
      · cases h
      · rename_i hg
        obtain ⟨p, hp, rfl⟩ := Option.map_eq_some_iff.1 h
        exact .inr ⟨d, p, .inr rfl, hd, fun k hk => h1 k hk, fun hk => h2 hk, by simpa using hg, hp, rfl⟩
    · cases h
  · split at h
    · cases h; exact .inl rfl
    · cases h; exact .inl rfl
    · cases h
theorem aEqP_other {f : Nat} {p : EqPlan} {t : TypeId} {d : TypeDesc} (ht : P.underlying t = some d) (h1 : ∀ k, d ≠ .int k) (h2 : d ≠ .string) (hp : cEq P (f + 1) t = some p) {x y : AVal} {cx cy : Value} {r : Bool} (hx : VRel ρ x cx) (hy : VRel ρ y cy)
    (hr : aEqP p x y = some r) (hg : (isAggD d && P.eqGuardType P.depth t) = false) :
    (∀ op X Y, (eqGuard op t X Y cx cy).run P w = .ok () w) ∧ binOp .eql t cx cy = (do Pure.pure (.bool (← Op.equal t cx cy))) ∧ binOp .neq t cx cy = (do Pure.pure (.bool (!(← Op.equal t cx cy)))) := by
  have agg : ∀ xs ys : Array Value, isAggD d = true → ∀ op X Y, (eqGuard op t X Y (.agg xs) (.agg ys)).run P w = .ok () w := fun xs ys ha op X Y => by
    rw [ha] at hg
    exact run_eqGuard_agg w op t X Y xs ys (by simpa using hg)
  simp only [cEq, ht] at hp
  split at hp
  · cases hp
    simp only [aEqP] at hr
    split at hr
    · rw [hx.raw_inv, hy.raw_inv]; exact ⟨fun op X Y => by rw [eqGuard_at_bool]; rfl, rfl, rfl⟩
    · cases hr
  · rename_i k hd; exact absurd (Option.some.inj hd) (h1 k)
  · rename_i hd; exact absurd (Option.some.inj hd) h2
  · cases hp
    simp only [aEqP] at hr
    split at hr
    · rw [hx.raw_inv, hy.raw_inv]; exact ⟨fun op X Y => by rw [eqGuard_at_slice]; rfl, rfl, rfl⟩
    · obtain ⟨l, a, cap, _, hcx, _⟩ := hx.slice_inv
      rw [hcx, hy.raw_inv]; exact ⟨fun op X Y => by rw [eqGuard_at_slice]; rfl, rfl, rfl⟩
    · obtain ⟨l, a, cap, _, hcy, _⟩ := hy.slice_inv
      rw [hcy, hx.raw_inv]; exact ⟨fun op X Y => by rw [eqGuard_at_slice]; rfl, rfl, rfl⟩
    · cases hr
  · cases hp
    simp only [aEqP] at hr
    split at hr
    · rw [hx.raw_inv, hy.raw_inv]; exact ⟨fun op X Y => by rw [eqGuard_at_map]; rfl, rfl, rfl⟩
    · obtain ⟨l, _, hcx⟩ := hx.map_inv
      rw [hcx, hy.raw_inv]; exact ⟨fun op X Y => by rw [eqGuard_at_map]; rfl, rfl, rfl⟩
    · obtain ⟨l, _, hcy⟩ := hy.map_inv
      rw [hcy, hx.raw_inv]; exact ⟨fun op X Y => by rw [eqGuard_at_map]; rfl, rfl, rfl⟩
    · cases hr
  · cases hp
    simp only [aEqP] at hr
    split at hr
    · rw [hx.raw_inv, hy.raw_inv]; exact ⟨fun op X Y => by rw [eqGuard_at_nilFunc]; rfl, rfl, rfl⟩
    · obtain ⟨l, _, hcx⟩ := hx.func_inv
      rw [hcx, hy.raw_inv]; exact ⟨fun op X Y => by rw [eqGuard_at_func]; rfl, rfl, rfl⟩
    · obtain ⟨l, _, hcx⟩ := hx.yield_inv
      rw [hcx, hy.raw_inv]; exact ⟨fun op X Y => by rw [eqGuard_at_func]; rfl, rfl, rfl⟩
    · obtain ⟨l, _, hcy⟩ := hy.func_inv
      rw [hcy, hx.raw_inv]; exact ⟨fun op X Y => by rw [eqGuard_at_nilFunc]; rfl, rfl, rfl⟩
    · cases hr
  · cases hp
    simp only [aEqP] at hr
    split at hr
    · rw [hx.raw_inv, hy.raw_inv]; exact ⟨fun op X Y => by rw [eqGuard_at_pointer]; rfl, rfl, rfl⟩
    · obtain ⟨l, _, hcx⟩ := hx.ptr_inv
      rw [hcx, hy.raw_inv]; exact ⟨fun op X Y => by rw [eqGuard_at_pointer]; rfl, rfl, rfl⟩
    · obtain ⟨l, _, hcy⟩ := hy.ptr_inv
      rw [hcy, hx.raw_inv]; exact ⟨fun op X Y => by rw [eqGuard_at_pointer]; rfl, rfl, rfl⟩
    · cases hr
  · rename_i fs hd
    cases hd
    split at hp
    · cases hp
    · obtain ⟨xs, ys, rfl, rfl⟩ := cFlds_agg fs.toList p hp hr
      obtain ⟨cxs, _, rfl⟩ := hx.agg_inv
      obtain ⟨cys, _, rfl⟩ := hy.agg_inv
      exact ⟨agg _ _ rfl, rfl, rfl⟩
  · rename_i n e hd
    cases hd
    simp only [Option.bind_eq_some_iff] at hp
    obtain ⟨⟨a, k⟩, hps, m, hm, hp⟩ := hp
    split at hp
    · obtain ⟨q, hq, rfl⟩ := Option.map_eq_some_iff.1 hp
      simp only [aEqP] at hr
      split at hr
      · obtain ⟨cxs, _, rfl⟩ := hx.agg_inv
        obtain ⟨cys, _, rfl⟩ := hy.agg_inv
        exact ⟨agg _ _ rfl, rfl, rfl⟩
      · cases hr
    · cases hp
  · cases hp
theorem op_bin (h : HRel P B ρ H w) (hev : EvOk ρ tm ce) {op : BinOp} {t yt : TypeId} {x y : Operand} (hop : o.op = .binOp op t x y yt) (hc : cOp P o.op = some ao) (ha : aOp tm ao H = some (av, H')) :
    OpRes .quiet P B ρ H w (execOp ce o) av H' := by
  rw [hop] at hc
  simp only [cOp, Option.bind_eq_some_iff] at hc
  obtain ⟨ax, hx, ay, hy, hc⟩ := hc
  have hxv := hev _ _ hx
  have hyv := hev _ _ hy
  have he : execOp ce o = (do Pure.pure (.value (← (do eqGuard op t x y (ce x) (ce y); binOp op t (ce x) (ce y))))) := by simp [execOp, hop]
  rw [he]
  rcases cBin_cases hc with rfl | ⟨d, p, hop', ht, h1, h2, hg, hp, rfl⟩
  · simp only [aOp, Option.map_eq_some_iff] at ha
    obtain ⟨_, hb, heq⟩ := ha
    cases heq
    obtain ⟨cv, rfl, h1, h2⟩ := aBin_sound (P := P) (w := w) t hb hxv hyv
    refine .v h (cv := cv) ?_ (.raw _)
    rw [h2]
    simpa using h1
  · simp only [aOp, Option.map_eq_some_iff] at ha
    obtain ⟨_, ⟨b, hb, rfl⟩, heq⟩ := ha
    cases heq
    obtain ⟨g1, g2, g3⟩ := aEqP_other (P := P) (w := w) ht h1 h2 hp hxv hyv hb hg
    have hfin := aEqP_sound (P := P) (w := w) 20 t p hp Op.maxDepth (by decide) _ _ _ _ _ hxv hyv hb
    rcases hop' with rfl | rfl
    · refine .v h (cv := .bool b) ?_ (.raw _)
      rw [Sem.run_bind, g1]
      simp only [Result.andThen_ok, g2, Sem.run_bind, Op.equal, hfin, Sem.run_pure]
    · refine .v h (cv := .bool (!b)) ?_ (.raw _)
      rw [Sem.run_bind, g1]
      simp only [Result.andThen_ok, g3, Sem.run_bind, Op.equal, hfin, Sem.run_pure]
theorem aBytes_rel : ∀ {cells : List AVal} {vs : List Value} {bs : List UInt8}, VRels ρ cells vs → aBytes cells = some bs → vs.map (fun v => match v with | .int .u8 n => UInt8.ofNat n.toNat | _ => 0) = bs ∧ ∀ v ∈ vs, ∃ n, v = .int .u8 n
  | [], _, bs, .nil, h => by simp [aBytes] at h; subst h; simp
  | c :: cells, v :: vs, bs, .cons hv hvs, h => by
    unfold aBytes at h
    split at h
    · rename_i heq; cases heq
    · rename_i n r heq
      cases heq
      obtain ⟨bs', hb, rfl⟩ := Option.map_eq_some_iff.1 h
      obtain ⟨h1, h2⟩ := aBytes_rel hvs hb
      rw [hv.raw_inv]
      refine ⟨by simp [← h1], fun u hu => ?_⟩
      rcases List.mem_cons.1 hu with rfl | hu
      · exact ⟨n, rfl⟩
      · exact h2 u hu
    · cases h
theorem run_bytesToString_loop (f : Value → ByteArray → Sem (ForInStep ByteArray)) (hf : ∀ n r, f (.int .u8 n) r = Pure.pure (ForInStep.yield (r.push (UInt8.ofNat n.toNat)))) : ∀ (vs : List Value) (s : ByteArray) (w : World), (∀ v ∈ vs, ∃ n, v = .int .u8 n) →
    (forIn (m := Sem) vs s f).run P w = .ok ⟨s.data ++ (vs.map (fun v => match v with | .int .u8 n => UInt8.ofNat n.toNat | _ => 0)).toArray⟩ w
  | [], s, w, _ => by simp
  | v :: vs, s, w, h => by
    obtain ⟨n, rfl⟩ := h v (by simp)
    simp only [List.forIn_cons, Sem.run_bind, hf, Sem.run_pure, Result.andThen_ok]
    rw [run_bytesToString_loop f hf vs _ w (fun u hu => h u (by simp [hu]))]
    congr 2
    apply Array.ext'
    simp [ByteArray.push]
theorem op_conv (h : HRel P B ρ H w) (hev : EvOk ρ tm ce) {src dst : TypeId} {x : Operand} (hop : o.op = .convert src dst x) (hc : cOp P o.op = some ao) (ha : aOp tm ao H = some (av, H')) :
    OpRes .quiet P B ρ H w (execOp ce o) av H' := by
  rw [hop] at hc
  simp only [cOp, Option.bind_eq_some_iff] at hc
  obtain ⟨ax, hx, hc⟩ := hc
  have hxv := hev _ _ hx
  have he : execOp ce o = (do Pure.pure (.value (← convert src dst (ce x)))) := by simp [execOp, hop]
  rw [he]
  unfold cConv at hc
  split at hc
  · rename_i k' k hs hd
    cases hc
    simp only [aOp] at ha
    split at ha
    · rename_i k0 n hxe
      cases ha
      rw [hxe] at hxv
      refine .v h (cv := .int k (wrapF k n)) ?_ (.raw _)
      simp [convert, run_underlying' hs, run_underlying' hd, hxv.raw_inv, Conv.intToInt, wrapF_eq]
    · cases ha
  · rename_i hs hd
    cases hc
    simp only [aOp] at ha
    split at ha
    · rename_i s hxe
      cases ha
      rw [hxe] at hxv
      refine .v h (cv := .string s) ?_ (.raw _)
      simp [convert, run_underlying' hs, run_underlying' hd, hxv.raw_inv]
    · cases ha
  · rename_i e hs hd
    split at hc
    · rename_i hu8
      cases hc
      simp only [aOp, Option.map_eq_some_iff, Option.bind_eq_some_iff] at ha
      obtain ⟨_, ⟨cells, hcells, bs, hbs, rfl⟩, heq⟩ := ha
      cases heq
      obtain ⟨m, hm⟩ : ∃ m, aLen (ev tm ax) = some m := by
        unfold aCells at hcells
        split at hcells
        · rename_i hxe; exact ⟨0, by rw [hxe]; rfl⟩
        · rename_i hxe; exact ⟨_, by rw [hxe]; rfl⟩
        · cases hcells
      obtain ⟨a, cap, cvs, hcx, hor, hrel, hlen⟩ := run_firstCells (P := P) h hxv hcells hm
      obtain ⟨h1, h2⟩ := aBytes_rel hrel hbs
      have hcl := hrel.length
      have hconv : convert src dst (ce x) = convert src dst (.slice a m cap) := by rw [hcx]
      rw [hconv]
      rcases hor with ⟨rfl, rfl⟩ | ⟨ad, rfl, hload⟩
      · have : cvs = [] := by
          apply List.eq_nil_of_length_eq_zero; omega
        subst this
        simp at h1; subst h1
        refine .v h (cv := .string .empty) ?_ (.raw _)
        simp [convert, run_underlying' hs, run_underlying' hd, run_underlying' hu8, Conv.bytesToString]
      · have hl := hload m (Nat.le_refl _)
        rw [Nat.mul_one] at hl hlen
        rw [List.take_of_length_le (by omega)] at hl
        refine .v h (cv := .string ⟨bs.toArray⟩) ?_ (.raw _)
        simp only [convert, Sem.run_bind, run_underlying' hs, run_underlying' hd, run_underlying' hu8, Result.andThen_ok, Conv.bytesToString, hl]
        rw [← Array.forIn_toList]
        rw [run_bytesToString_loop _ (fun n r => rfl) cvs.toArray.toList ByteArray.empty w h2]
        simp only [Result.andThen_ok, Sem.run_pure]
        rw [h1]
        congr 3
        simp
    · cases hc
  · cases hc
end Go.Vm
namespace Go.Vm
open Go
variable {P : Program} {B : Base} {ρ ρ' : Ren} {H H' : AHeap} {w w' : World} {tm : List AVal} {ce : Operand → Value} {o : Oper} {av : AVal} {ao : AOp}
theorem HRel.putObj (h : HRel P B ρ H w) {A ver : Nat} {ob ob' : AObj} {l : Loc} {co : Obj} (hg : H.get A = some ob) (hl : ρ A ver = some l) (hn : ∀ x, ob ≠ .ro x) (hn' : ∀ x, ob' ≠ .ro x)
    (hrel : ObjRel P ρ (w.putObj l.c co) A ob') (hs : Side w (w.putObj l.c co)) : HRel P B ρ (H.set A ob') (w.putObj l.c co) := by
  have hro : ∀ X, isRo (H.set A ob') X ↔ isRo H X := fun X => by
    unfold isRo
    by_cases e : X = A
    · subst e; rw [AHeap.get_set_same, hg]; simp [hn, hn']
    · rw [AHeap.get_set_ne _ _ e]
  have hA : ¬ isRo H A := by rintro ⟨x, hx⟩; rw [hg] at hx; exact hn x (Option.some.inj hx)
  refine ⟨h.le, h.fresh, fun X hX => ?_, fun X v x hx => ?_, fun X o' hX => ?_, fun A1 A2 v1 v2 l1 l2 e1 e2 e3 => ?_, fun X v x hx hr => ?_, fun X v x hx => ?_, ?_, fun c hc hb => ?_, h.side.trans hs, fun X v x hr hx => h.ro X v x ((hro X).1 hr) hx⟩
  · have := h.wf X hX
    by_cases e : X = A
    · subst e; rw [hg] at this; cases this
    · rw [AHeap.get_set_ne _ _ e]; exact this
  · by_cases e : X = A
    · subst e; exact ⟨_, AHeap.get_set_same _ _ _⟩
    · rw [AHeap.get_set_ne _ _ e]; exact h.dom X v x hx
  · by_cases e : X = A
    · subst e; rw [AHeap.get_set_same] at hX; cases hX; exact hrel
    · rw [AHeap.get_set_ne _ _ e] at hX
      refine (h.obj X o' hX).keep (Ren.le_refl _) (fun _ => rfl) (fun v x hx => World.putObj_heap_other fun hc => ?_)
      rcases h.sep X A v ver x l hx hl hc with h1 | h1
      · exact e h1
      · exact hA h1.2
  · rw [hro, hro]; exact h.sep A1 A2 v1 v2 l1 l2 e1 e2 e3
  · rw [hro] at hr; exact h.own X v x hx hr
  · simp; exact h.lt X v x hx
  · simp; exact h.size
  · by_cases e : c = l.c
    · rcases h.own A ver l hl hA with h1 | h1
      · exact absurd (e ▸ h1) hb
      · omega
    · rw [World.putObj_heap_other e]; exact h.frame c hc hb
theorem HRel.mapOf (h : HRel P B ρ H w) {M : Nat} {es : AEntries} {clock : Nat} (hg : H.get M = some (.map es clock)) {l : Loc} (hl : ρ M 0 = some l) :
    Single ρ M ∧ ∃ ces, w.heap[l.c]? = some (.map ces clock) ∧ EntriesRel ρ es ces.toList := by
  obtain ⟨h1, l', ces, h2, h3, h4⟩ := h.obj M _ hg
  rw [hl] at h2; cases h2
  exact ⟨h1, ces, h3, h4⟩
theorem HRel.putMap (h : HRel P B ρ H w) {M : Nat} {es es' : AEntries} {clock clock' : Nat} (hg : H.get M = some (.map es clock)) {l : Loc} (hl : ρ M 0 = some l) {ces' : Array MapEntry}
    (hrel : EntriesRel ρ es' ces'.toList) : HRel P B ρ (H.set M (.map es' clock')) (w.putObj l.c (.map ces' clock')) := by
  obtain ⟨h1, ces, h2, h3⟩ := h.mapOf hg hl
  exact h.putObj hg hl (fun x => by simp) (fun x => by simp) ⟨h1, l, ces', hl, World.putObj_heap_same (Array.getElem?_eq_some_iff.1 h2).1, hrel⟩ (Side.putPlain h2 trivial trivial)
theorem aFind_rel {kk : IntKind} {n : Int} (q : IntKind) : ∀ {es : AEntries} {ces : List MapEntry} {i : Nat} {r : Option (Nat × AVal × Nat)}, EntriesRel ρ es ces → aFind kk n es i = some r →
    ∃ cr, Instr.findNow (.int q) (.int kk n) ces i = some cr ∧ (match r with
      | none => cr = none
      | some (j, v, b) => ∃ cv e, cr = some (j, cv) ∧ VRel ρ v cv ∧ i ≤ j ∧ ces[j - i]? = some e ∧ e.val = cv ∧ e.born = b ∧ e.key = .int kk n)
  | [], [], i, r, _, h => by
    simp [aFind] at h; subst h
    exact ⟨none, rfl, rfl⟩
  | [], _ :: _, _, _, h, _ => h.elim
  | _ :: _, [], _, _, h, _ => h.elim
  | (k, v, b) :: es, e :: ces, i, r, ⟨hk, hv, hb, hr⟩, h => by
    have hke : ∃ k' m, k = .raw (.int k' m) := by
      cases k with
      | raw kv => cases kv <;> first | exact ⟨_, _, rfl⟩ | (simp [aFind] at h)
      | _ => simp [aFind] at h
    obtain ⟨k', m, rfl⟩ := hke
    have hke := hk.raw_inv
    simp only [aFind] at h
    split at h
    · rename_i hkk
      subst hkk
      split at h
      · rename_i hm
        cases h
        have hm' : n = m := by simpa [ieq_eq] using hm
        subst hm'
        refine ⟨some (i, e.val), ?_, e.val, e, rfl, hv, Nat.le_refl _, by simp, rfl, hb, hke⟩
        simp [Instr.findNow, hke, Instr.sameNow]
      · rename_i hm
        have hm' : ¬ n = m := by simpa [ieq_eq] using hm
        obtain ⟨cr, h1, h2⟩ := aFind_rel q hr h
        refine ⟨cr, ?_, ?_⟩
        · have : (n == m) = false := by simpa using hm'
          simp [Instr.findNow, hke, Instr.sameNow, this, h1]
        · cases r with
          | none => exact h2
          | some x =>
            obtain ⟨j, v, b⟩ := x
            obtain ⟨cv, e', g1, g2, g3, g4, g5⟩ := h2
            refine ⟨cv, e', g1, g2, by omega, ?_, g5⟩
            rw [show j - i = (j - (i + 1)) + 1 by omega]
            simpa using g4
    · cases h
theorem run_checkKey_int {key : TypeId} {q : IntKind} (hk : P.underlying key = some (.int q)) (b : Bool) (n : Nat) (v : Value) : (Instr.checkKey b (n + 1) key v).run P w = .ok () w := by
  simp [Instr.checkKey, run_underlying' hk]
theorem run_findKey {key : TypeId} {q : IntKind} (hk : P.underlying key = some (.int q)) {kk : IntKind} {n : Int} {ces : List MapEntry} {cr : Option (Nat × Value)} (h : Instr.findNow (.int q) (.int kk n) ces 0 = some cr) :
    (Instr.findKey key (.int kk n) ces).run P w = .ok cr w := by
  simp [Instr.findKey, run_underlying' hk, h]
theorem EntriesRel.setVal {v : AVal} {cv : Value} (hv : VRel ρ v cv) : ∀ {es : AEntries} {ces : List MapEntry} (i : Nat), EntriesRel ρ es ces → EntriesRel ρ (setVal v es i) (ces.modify i fun e => { e with val := cv })
  | [], [], i, _ => by cases i <;> trivial
  | [], _ :: _, _, h => h.elim
  | _ :: _, [], _, h => h.elim
  | (k, u, b) :: es, e :: ces, 0, ⟨h1, h2, h3, h4⟩ => ⟨h1, hv, h3, h4⟩
  | (k, u, b) :: es, e :: ces, i + 1, ⟨h1, h2, h3, h4⟩ => ⟨h1, h2, h3, EntriesRel.setVal hv i h4⟩
theorem EntriesRel.snoc {k v : AVal} {ck cv : Value} {b : Nat} (hk : VRel ρ k ck) (hv : VRel ρ v cv) : ∀ {es : AEntries} {ces : List MapEntry}, EntriesRel ρ es ces → EntriesRel ρ (es ++ [(k, v, b)]) (ces ++ [{ key := ck, val := cv, born := b }])
  | [], [], _ => ⟨hk, hv, rfl, trivial⟩
  | [], _ :: _, h => h.elim
  | _ :: _, [], h => h.elim
  | _ :: es, _ :: ces, ⟨h1, h2, h3, h4⟩ => ⟨h1, h2, h3, EntriesRel.snoc hk hv h4⟩
theorem EntriesRel.erase : ∀ {es : AEntries} {ces : List MapEntry} (i : Nat), EntriesRel ρ es ces → EntriesRel ρ (es.eraseIdx i) (ces.eraseIdx i)
  | [], [], i, _ => by simp; trivial
  | [], _ :: _, _, h => h.elim
  | _ :: _, [], _, h => h.elim
  | (_, _, _) :: es, _ :: ces, 0, ⟨h1, h2, h3, h4⟩ => h4
  | (_, _, _) :: es, _ :: ces, i + 1, ⟨h1, h2, h3, h4⟩ => ⟨h1, h2, h3, EntriesRel.erase i h4⟩
theorem EntriesRel.length : ∀ {es : AEntries} {ces : List MapEntry}, EntriesRel ρ es ces → ces.length = es.length
  | [], [], _ => rfl
  | [], _ :: _, h => h.elim
  | _ :: _, [], h => h.elim
  | (_, _, _) :: es, _ :: ces, ⟨_, _, _, h4⟩ => by simp [EntriesRel.length h4]
theorem run_getObj_at {r : Nat} {es : Array MapEntry} {clock : Nat} (h : w.heap[r]? = some (.map es clock)) : (getObj r).run P w = .ok (.map es clock) w := by simp [getObj, Sem.run, h]
theorem run_setObj_at {r : Nat} {es : Array MapEntry} {clock : Nat} (ob : Obj) (h : w.heap[r]? = some (.map es clock)) : (setObj r ob).run P w = .ok () (w.putObj r ob) := by simp [setObj, Sem.run, h, World.putObj]
theorem op_lookup (h : HRel P B ρ H w) (hev : EvOk ρ tm ce) {t : TypeId} {x k : Operand} {ok : Bool} (hop : o.op = .lookup t x k ok) (hc : cOp P o.op = some ao) (ha : aOp tm ao H = some (av, H')) : OpRes .quiet P B ρ H w (execOp ce o) av H' := by
  rw [hop] at hc
  simp only [cOp] at hc
  have he : execOp ce o = (do Pure.pure (.value (← Instr.lookup t (ce x) (ce k) ok))) := by simp [execOp, hop]
  rw [he]
  split at hc
  · rename_i key e hu
    split at hc
    · rename_i q hkey
      simp only [Option.bind_eq_some_iff, Option.map_eq_some_iff] at hc
      obtain ⟨z, hz, ax, hx, ak, hk, rfl⟩ := hc
      have hxv := hev _ _ hx
      have hkv := hev _ _ hk
      simp only [aOp, Option.map_eq_some_iff] at ha
      obtain ⟨_, hl, heq⟩ := ha
      cases heq
      unfold aLookup at hl
      split at hl
      · rename_i kk n hke
        rw [hke] at hkv
        have hck := hkv.raw_inv
        split at hl
        · rename_i hxe
          cases hl
          rw [hxe] at hxv
          have hcx := hxv.raw_inv
          refine .v h (cv := if ok then .tuple #[z, .bool false] else z) ?_ ?_
          · simp only [Instr.lookup, Sem.run_bind, run_underlying' hu, Result.andThen_ok, hcx, Sem.run_pure, hck, run_checkKey_int hkey]
            rw [run_findKey hkey (cr := none) rfl]
            simp only [Result.andThen_ok, Sem.run_bind, run_zeroValue' hz, Sem.run_pure]
          · cases ok
            · exact aconst_rel ρ z
            · exact .tuple (.cons (aconst_rel ρ z) (.cons (.raw _) .nil))
        · rename_i M hxe
          split at hl
          · rename_i es clock hg
            obtain ⟨r, hf, rfl⟩ := Option.map_eq_some_iff.1 hl
            rw [hxe] at hxv
            obtain ⟨l, hl', hcx⟩ := hxv.map_inv
            obtain ⟨_, ces, hw, hrel⟩ := h.mapOf hg hl'
            obtain ⟨cr, h1, h2⟩ := aFind_rel q hrel hf
            cases r with
            | none =>
              subst h2
              refine .v h (cv := if ok then .tuple #[z, .bool false] else z) ?_ ?_
              · simp only [Instr.lookup, Sem.run_bind, run_underlying' hu, Result.andThen_ok, hcx, Sem.run_pure, hck, run_checkKey_int hkey, run_getObj_at hw]
                rw [run_findKey hkey h1]
                simp only [Result.andThen_ok, Sem.run_bind, run_zeroValue' hz, Sem.run_pure]
              · cases ok
                · exact aconst_rel ρ z
                · exact .tuple (.cons (aconst_rel ρ z) (.cons (.raw _) .nil))
            | some x =>
              obtain ⟨j, v, b⟩ := x
              obtain ⟨cv, e', rfl, g2, _⟩ := h2
              refine .v h (cv := if ok then .tuple #[cv, .bool true] else cv) ?_ ?_
              · simp only [Instr.lookup, Sem.run_bind, run_underlying' hu, Result.andThen_ok, hcx, Sem.run_pure, hck, run_checkKey_int hkey, run_getObj_at hw]
                rw [run_findKey hkey h1]
                simp only [Result.andThen_ok, Sem.run_bind, Sem.run_pure]
              · cases ok
                · exact g2
                · exact .tuple (.cons g2 (.cons (.raw _) .nil))
          · cases hl
        · cases hl
      · cases hl
    · cases hc
  · cases hc
theorem run_keyThatStays {k : IntKind} {n : Int} : (Instr.keyThatStays (.int k n) (.int k n)).run P w = .ok (.int k n) w := by
  simp [Instr.keyThatStays, Instr.sameBits]
theorem modify_key {ces : Array MapEntry} {i : Nat} {e : MapEntry} (h : ces.toList[i]? = some e) {k : Value} (hk : e.key = k) (f : MapEntry → MapEntry) :
    (ces.modify i fun e => f { e with key := k }) = ces.modify i f := by
  apply Array.ext_getElem?
  intro j
  rw [Array.getElem?_modify, Array.getElem?_modify]
  by_cases hj : i = j
  · subst hj
    rw [Array.getElem?_toList] at h
    simp [h]
    rw [← hk]
  · simp [hj]
theorem op_mapUpdate (h : HRel P B ρ H w) (hev : EvOk ρ tm ce) {t : TypeId} {m k x : Operand} (hop : o.op = .mapUpdate t m k x ∨ o.op = .insert t m k x) (hc : cOp P o.op = some ao) (ha : aOp tm ao H = some (av, H')) : OpRes .any P B ρ H w (execOp ce o) av H' := by
  have hc' : cOp P (.mapUpdate t m k x) = some ao := by rcases hop with e | e <;> rw [e] at hc <;> exact hc
  simp only [cOp] at hc'
  have he : execOp ce o = (do Instr.mapUpdate t (ce m) (ce k) (ce x); Pure.pure .skip) := by rcases hop with e | e <;> simp [execOp, e]
  rw [he]
  split at hc'
  · rename_i key e hu
    split at hc'
    · rename_i q hkey
      simp only [Option.bind_eq_some_iff, Option.map_eq_some_iff] at hc'
      obtain ⟨am, hm, ak, hk, ax, hx, rfl⟩ := hc'
      have hmv := hev _ _ hm
      have hxv := hev _ _ hx
      have hkv := hev _ _ hk
      simp only [aOp, Option.map_eq_some_iff] at ha
      obtain ⟨H'', hl, heq⟩ := ha
      cases heq
      unfold aMapUpdate at hl
      split at hl
      · rename_i M kk n hme hke
        rw [hme] at hmv
        have hkv' := hkv
        rw [hke] at hkv
        have hck := hkv.raw_inv
        split at hl
        · rename_i es clock hg
          obtain ⟨r, hf, hH⟩ := Option.map_eq_some_iff.1 hl
          obtain ⟨l, hl', hcm⟩ := hmv.map_inv
          obtain ⟨_, ces, hw, hrel⟩ := h.mapOf hg hl'
          obtain ⟨cr, h1, h2⟩ := aFind_rel q hrel hf
          cases r with
          | none =>
            subst h2
            simp only at hH
            subst hH
            refine .uw (w' := w.putObj l.c (.map (ces.push { key := .int kk n, val := ce x, born := clock }) (clock + 1))) ?_ (h.putMap hg hl' ?_) (Ren.le_refl _)
            · simp only [Instr.mapUpdate, Sem.run_bind, run_underlying' hu, Result.andThen_ok, hcm, hck, run_checkKey_int hkey, run_getObj_at hw]
              rw [run_findKey hkey h1]
              simp only [Result.andThen_ok, run_setObj_at _ hw]
            · simp only [Array.toList_push]
              rw [hke]
              exact EntriesRel.snoc (.raw _) hxv hrel
          | some y =>
            obtain ⟨j, v, b⟩ := y
            obtain ⟨cv, e', rfl, g2, _, g4, g5, g6, g7⟩ := h2
            simp only at hH
            subst hH
            refine .uw (w' := w.putObj l.c (.map (ces.modify j fun e => { e with val := ce x }) clock)) ?_ (h.putMap hg hl' ?_) (Ren.le_refl _)
            · simp only [Instr.mapUpdate, Sem.run_bind, run_underlying' hu, Result.andThen_ok, hcm, hck, run_checkKey_int hkey, run_getObj_at hw]
              rw [run_findKey hkey h1]
              have hge : (((ces[j]?).map (·.key)).getD (.int kk n)) = .int kk n := by
                rw [← Array.getElem?_toList]
                simp at g4
                simp [g4, g7]
              simp only [Result.andThen_ok, Sem.run_bind, hge, run_keyThatStays, run_setObj_at _ hw]
              have := modify_key (ces := ces) (i := j) (e := e') (by simpa using g4) g7 (fun e => { e with val := ce x })
              rw [← this]
            · rw [Array.toList_modify]
              exact EntriesRel.setVal hxv j hrel
        · cases hl
      · cases hl
    · cases hc'
  · cases hc'
theorem op_mapEntry (h : HRel P B ρ H w) (hev : EvOk ρ tm ce) {t : TypeId} {m k : Operand} (hop : o.op = .mapEntry t m k) (hc : cOp P o.op = some ao) (ha : aOp tm ao H = some (av, H')) : OpRes .any P B ρ H w (execOp ce o) av H' := by
  rw [hop] at hc
  simp only [cOp] at hc
  have he : execOp ce o = (do Pure.pure (.value (← Instr.mapEntry t (ce m) (ce k)))) := by simp [execOp, hop]
  rw [he]
  split at hc
  · rename_i key e hu
    split at hc
    · rename_i q hkey
      simp only [Option.bind_eq_some_iff, Option.map_eq_some_iff] at hc
      obtain ⟨z, hz, am, hm, ak, hk, rfl⟩ := hc
      have hmv := hev _ _ hm
      have hkv := hev _ _ hk
      simp only [aOp] at ha
      unfold aMapEntry at ha
      split at ha
      · rename_i M kk n hme hke
        rw [hme] at hmv
        rw [hke] at hkv
        have hck := hkv.raw_inv
        split at ha
        · rename_i es clock hg
          obtain ⟨r, hf, hH⟩ := Option.map_eq_some_iff.1 ha
          obtain ⟨l, hl', hcm⟩ := hmv.map_inv
          obtain ⟨_, ces, hw, hrel⟩ := h.mapOf hg hl'
          obtain ⟨cr, h1, h2⟩ := aFind_rel q hrel hf
          cases r with
          | none =>
            subst h2
            cases hH
            refine .vw (cv := .tuple #[z, goInt clock]) (w' := w.putObj l.c (.map (ces.push { key := .int kk n, val := z, born := clock }) (clock + 1))) ?_ (.tuple (.cons (aconst_rel ρ z) (.cons (.raw _) .nil))) (h.putMap hg hl' ?_) (Ren.le_refl _)
            · simp only [Instr.mapEntry, Sem.run_bind, run_underlying' hu, Result.andThen_ok, hcm, hck, run_checkKey_int hkey, run_getObj_at hw]
              rw [run_findKey hkey h1]
              simp only [Result.andThen_ok, Sem.run_bind, run_zeroValue' hz, run_setObj_at _ hw, Sem.run_pure]
            · simp only [Array.toList_push]
              rw [hke]
              exact EntriesRel.snoc (.raw _) (aconst_rel ρ z) hrel
          | some y =>
            obtain ⟨j, v, b⟩ := y
            obtain ⟨cv, e', rfl, g2, _, g4, g5, g6, g7⟩ := h2
            cases hH
            have hmod : (ces.modify j fun e => { e with key := .int kk n }) = ces := by
              have := modify_key (ces := ces) (i := j) (e := e') (by simpa using g4) g7 id
              simp only [id] at this
              rw [this]
              apply Array.ext_getElem?
              intro q
              rw [Array.getElem?_modify]
              split
              · simp
              · rfl
            have hput : w.putObj l.c (.map ces clock) = w := by
              unfold World.putObj
              obtain ⟨hc, hv⟩ := Array.getElem?_eq_some_iff.1 hw
              have : w.heap.setIfInBounds l.c (.map ces clock) = w.heap := by
                apply Array.ext_getElem?
                intro j
                rw [Array.getElem?_setIfInBounds]
                by_cases hj : l.c = j
                · subst hj; simp [hc, hv]
                · simp [hj]
              rw [this]
            refine .vw (cv := .tuple #[cv, goInt b]) (w' := w) ?_ (.tuple (.cons g2 (.cons (.raw _) .nil))) h (Ren.le_refl _)
            simp only [Instr.mapEntry, Sem.run_bind, run_underlying' hu, Result.andThen_ok, hcm, hck, run_checkKey_int hkey, run_getObj_at hw]
            rw [run_findKey hkey h1]
            have hge : ces[j]? = some e' := by simpa using g4
            simp only [Result.andThen_ok, Sem.run_bind, hge, Option.map_some, Option.getD_some, g7, run_keyThatStays, run_setObj_at _ hw, hmod, hput, Sem.run_pure, g6]
        · cases ha
      · cases ha
    · cases hc
  · cases hc
theorem aFindBorn_rel {n : Int} : ∀ {es : AEntries} {ces : List MapEntry} {i j : Nat}, EntriesRel ρ es ces → aFindBorn n es i = some j → i ≤ j ∧ ces.findIdx? (fun e => (e.born : Int) == n) = some (j - i)
  | [], _, i, j, _, h => by simp [aFindBorn] at h
  | _ :: _, [], i, j, h, _ => h.elim
  | (k, v, b) :: es, e :: ces, i, j, ⟨_, _, hb, hr⟩, h => by
    simp only [aFindBorn, ieq_eq] at h
    split at h
    · rename_i hbn
      cases h
      have : (e.born : Int) = n := by rw [hb]; simpa using hbn
      refine ⟨Nat.le_refl _, ?_⟩
      simp [List.findIdx?_cons, this]
    · rename_i hbn
      obtain ⟨h1, h2⟩ := aFindBorn_rel hr h
      have : ¬ (e.born : Int) = n := by rw [hb]; simpa using hbn
      refine ⟨by omega, ?_⟩
      simp [List.findIdx?_cons, this, h2]
      omega
theorem op_entryStore (h : HRel P B ρ H w) (hev : EvOk ρ tm ce) {t : TypeId} {m s x : Operand} (hop : o.op = .entryStore t m s x) (hc : cOp P o.op = some ao) (ha : aOp tm ao H = some (av, H')) : OpRes .any P B ρ H w (execOp ce o) av H' := by
  rw [hop] at hc
  simp only [cOp, Option.bind_eq_some_iff, Option.map_eq_some_iff] at hc
  obtain ⟨am, hm, as, hs, ax, hx, rfl⟩ := hc
  have he : execOp ce o = (do Instr.entryStore t (ce m) (ce s) (ce x); Pure.pure .skip) := by simp [execOp, hop]
  rw [he]
  have hmv := hev _ _ hm
  have hsv := hev _ _ hs
  have hxv := hev _ _ hx
  simp only [aOp, Option.map_eq_some_iff] at ha
  obtain ⟨H'', hl, heq⟩ := ha
  cases heq
  unfold aEntryStore at hl
  split at hl
  · rename_i M k n hme hse
    rw [hme] at hmv
    rw [hse] at hsv
    split at hl
    · rename_i es clock hg
      obtain ⟨i, hf, rfl⟩ := Option.map_eq_some_iff.1 hl
      obtain ⟨l, hl', hcm⟩ := hmv.map_inv
      obtain ⟨_, ces, hw, hrel⟩ := h.mapOf hg hl'
      obtain ⟨_, h2⟩ := aFindBorn_rel hrel hf
      refine .uw (w' := w.putObj l.c (.map (ces.modify i fun e => { e with val := ce x }) clock)) ?_ (h.putMap hg hl' ?_) (Ren.le_refl _)
      · simp only [Instr.entryStore, hcm, hsv.raw_inv, asInt, asIntOf, Sem.run_bind, Sem.run_pure, Result.andThen_ok, run_getObj_at hw]
        have hfi : ces.findIdx? (fun e => (e.born : Int) == n) = some (i - 0) := by
          rw [← h2]
          conv => lhs; rw [← Array.toArray_toList (xs := ces)]
          rw [List.findIdx?_toArray]
        rw [hfi]
        simp only [Nat.sub_zero, run_setObj_at _ hw]
      · rw [Array.toList_modify]
        exact EntriesRel.setVal hxv i hrel
    · cases hl
  · cases hl
end Go.Vm
