/- The abstract machine, part 11: the operations are sound (operators, conversions, maps). -/
import Derived.Test.YtaeleakdmphnfaaGreatDoorVmSound6
namespace Go.Vm
open Go

set_option linter.unusedVariables false
set_option linter.unusedSimpArgs false

variable {P : Program} {B : Base} {ρ ρ' : Ren} {H H' : AHeap} {w w' : World} {tm : List AVal} {ce : Operand → Value} {o : Oper} {av : AVal} {ao : AOp}

theorem cBin_cases {k : Bool} {op : BinOp} {t : TypeId} {x y : AOpd} (h : cBin P k op t x y = some ao) : ao = .bin op x y ∨
    ∃ d p, (op = .eql ∨ op = .neq) ∧ P.underlying t = some d ∧ (∀ k, d ≠ .int k) ∧ d ≠ .string ∧ ((isAggD d && P.eqGuardType P.depth t) || (isIfD d && !k)) = false ∧ cEq P 20 t = some p ∧ ao = .eqP (op == .neq) p x y := by
  unfold cBin at h
  split at h
  · split at h
    · cases h; exact .inl rfl
    · cases h; exact .inl rfl
    · rename_i d h1 h2 hd
      split at h
      · cases h
      · rename_i hg
        obtain ⟨p, hp, rfl⟩ := Option.map_eq_some_iff.1 h
        exact .inr ⟨d, p, .inl rfl, hd, fun k hk => h1 k hk, fun hk => h2 hk, by simpa using hg, hp, rfl⟩
    · cases h
  · split at h
    · cases h; exact .inl rfl
    · cases h; exact .inl rfl
    · rename_i d h1 h2 hd
      split at h
      · cases h
      · rename_i hg
        obtain ⟨p, hp, rfl⟩ := Option.map_eq_some_iff.1 h
        exact .inr ⟨d, p, .inr rfl, hd, fun k hk => h1 k hk, fun hk => h2 hk, by simpa using hg, hp, rfl⟩
    · cases h
  · split at h
    · cases h; exact .inl rfl
    · cases h; exact .inl rfl
    · cases h

/-- Values that a plan takes are none of those whose operators the model takes apart by the value. -/
theorem aEqP_other {f : Nat} {p : EqPlan} {t : TypeId} {d : TypeDesc} (ht : P.underlying t = some d) (h1 : ∀ k, d ≠ .int k) (h2 : d ≠ .string) (hp : cEq P (f + 1) t = some p) {x y : AVal} {cx cy : Value} {r : Bool} (hx : VRel ρ x cx) (hy : VRel ρ y cy)
    (hr : aEqP p x y = some r) {k : Bool} (hg0 : ((isAggD d && P.eqGuardType P.depth t) || (isIfD d && !k)) = false) :
    (∀ op X Y, k = (isK X || isK Y) → (eqGuard op t X Y cx cy).run P w = .ok () w) ∧ binOp .eql t cx cy = (do Pure.pure (.bool (← Op.equal t cx cy))) ∧ binOp .neq t cx cy = (do Pure.pure (.bool (!(← Op.equal t cx cy)))) := by
  have hg : (isAggD d && P.eqGuardType P.depth t) = false := (Bool.or_eq_false_iff.1 hg0).1
  have agg : ∀ xs ys : Array Value, isAggD d = true → ∀ op X Y, k = (isK X || isK Y) → (eqGuard op t X Y (.agg xs) (.agg ys)).run P w = .ok () w := fun xs ys ha op X Y _ => by
    rw [ha] at hg
    exact run_eqGuard_agg w op t X Y xs ys (by simpa using hg)
  simp only [cEq, ht] at hp
  split at hp
  · cases hp
    simp only [aEqP] at hr
    split at hr
    · rw [hx.raw_inv, hy.raw_inv]; exact ⟨fun op X Y _ => by rw [eqGuard_at_bool]; rfl, rfl, rfl⟩
    · cases hr
  · rename_i k hd; exact absurd (Option.some.inj hd) (h1 k)
  · rename_i hd; exact absurd (Option.some.inj hd) h2
  · cases hp
    simp only [aEqP] at hr
    split at hr
    · rw [hx.raw_inv, hy.raw_inv]; exact ⟨fun op X Y _ => by rw [eqGuard_at_slice]; rfl, rfl, rfl⟩
    · obtain ⟨l, a, cap, _, hcx, _⟩ := hx.slice_inv
      rw [hcx, hy.raw_inv]; exact ⟨fun op X Y _ => by rw [eqGuard_at_slice]; rfl, rfl, rfl⟩
    · obtain ⟨l, a, cap, _, hcy, _⟩ := hy.slice_inv
      rw [hcy, hx.raw_inv]; exact ⟨fun op X Y _ => by rw [eqGuard_at_slice]; rfl, rfl, rfl⟩
    · cases hr
  · cases hp
    simp only [aEqP] at hr
    split at hr
    · rw [hx.raw_inv, hy.raw_inv]; exact ⟨fun op X Y _ => by rw [eqGuard_at_map]; rfl, rfl, rfl⟩
    · obtain ⟨l, _, hcx⟩ := hx.map_inv
      rw [hcx, hy.raw_inv]; exact ⟨fun op X Y _ => by rw [eqGuard_at_map]; rfl, rfl, rfl⟩
    · obtain ⟨l, _, hcy⟩ := hy.map_inv
      rw [hcy, hx.raw_inv]; exact ⟨fun op X Y _ => by rw [eqGuard_at_map]; rfl, rfl, rfl⟩
    · cases hr
  · cases hp
    simp only [aEqP] at hr
    split at hr
    · rw [hx.raw_inv, hy.raw_inv]; exact ⟨fun op X Y _ => by rw [eqGuard_at_nilFunc]; rfl, rfl, rfl⟩
    · obtain ⟨l, _, hcx⟩ := hx.func_inv
      rw [hcx, hy.raw_inv]; exact ⟨fun op X Y _ => by rw [eqGuard_at_func]; rfl, rfl, rfl⟩
    · obtain ⟨l, _, hcx⟩ := hx.yield_inv
      rw [hcx, hy.raw_inv]; exact ⟨fun op X Y _ => by rw [eqGuard_at_func]; rfl, rfl, rfl⟩
    · obtain ⟨l, _, hcy⟩ := hy.func_inv
      rw [hcy, hx.raw_inv]; exact ⟨fun op X Y _ => by rw [eqGuard_at_nilFunc]; rfl, rfl, rfl⟩
    · obtain ⟨l, _, hcx⟩ := hx.bound_inv
      rw [hcx, hy.raw_inv]; exact ⟨fun op X Y _ => by rw [eqGuard_at_func]; rfl, rfl, rfl⟩
    · obtain ⟨l, _, hcy⟩ := hy.bound_inv
      rw [hcy, hx.raw_inv]; exact ⟨fun op X Y _ => by rw [eqGuard_at_nilFunc]; rfl, rfl, rfl⟩
    · cases hr
  · cases hp
    simp only [aEqP] at hr
    split at hr
    · rw [hx.raw_inv, hy.raw_inv]; exact ⟨fun op X Y _ => by rw [eqGuard_at_pointer]; rfl, rfl, rfl⟩
    · obtain ⟨l, _, hcx⟩ := hx.ptr_inv
      rw [hcx, hy.raw_inv]; exact ⟨fun op X Y _ => by rw [eqGuard_at_pointer]; rfl, rfl, rfl⟩
    · obtain ⟨l, _, hcy⟩ := hy.ptr_inv
      rw [hcy, hx.raw_inv]; exact ⟨fun op X Y _ => by rw [eqGuard_at_pointer]; rfl, rfl, rfl⟩
    · cases hr
  · rename_i e hd
    cases hd
    cases hp
    have hk : k = true := by have := (Bool.or_eq_false_iff.1 hg0).2; simpa [isIfD] using this
    simp only [aEqP] at hr
    split at hr
    · rw [hx.raw_inv, hy.raw_inv]
      refine ⟨fun op X Y hkk => ?_, rfl, rfl⟩
      rw [hk] at hkk
      cases op <;> first | rfl | (cases X <;> cases Y <;> first | rfl | (cases hkk))
    · obtain ⟨l, _, hcx⟩ := hx.iface_inv
      rw [hcx, hy.raw_inv]; exact ⟨fun op X Y _ => by cases op <;> rfl, rfl, rfl⟩
    · obtain ⟨l, _, hcy⟩ := hy.iface_inv
      rw [hcy, hx.raw_inv]; exact ⟨fun op X Y _ => by cases op <;> rfl, rfl, rfl⟩
    · cases hr
  · rename_i fs hd
    cases hd
    split at hp
    · cases hp
    · obtain ⟨xs, ys, rfl, rfl⟩ := cFlds_agg fs.toList p hp hr
      obtain ⟨cxs, _, rfl⟩ := hx.agg_inv
      obtain ⟨cys, _, rfl⟩ := hy.agg_inv
      exact ⟨agg _ _ rfl, rfl, rfl⟩
  · rename_i n e hd
    cases hd
    simp only [Option.bind_eq_some_iff] at hp
    obtain ⟨⟨a, k⟩, hps, m, hm, hp⟩ := hp
    split at hp
    · obtain ⟨q, hq, rfl⟩ := Option.map_eq_some_iff.1 hp
      simp only [aEqP] at hr
      split at hr
      · obtain ⟨cxs, _, rfl⟩ := hx.agg_inv
        obtain ⟨cys, _, rfl⟩ := hy.agg_inv
        exact ⟨agg _ _ rfl, rfl, rfl⟩
      · cases hr
    · cases hp
  · cases hp

theorem op_bin (h : HRel P B ρ H w) (hev : EvOk ρ tm ce) {op : BinOp} {t yt : TypeId} {x y : Operand} (hop : o.op = .binOp op t x y yt) (hc : cOp P o.op = some ao) (ha : aOp tm ao H = some (av, H')) :
    OpRes .quiet P B ρ H w (execOp ce o) av H' := by
  rw [hop] at hc
  simp only [cOp, Option.bind_eq_some_iff] at hc
  obtain ⟨ax, hx, ay, hy, hc⟩ := hc
  have hxv := hev _ _ hx
  have hyv := hev _ _ hy
  have he : execOp ce o = (do Pure.pure (.value (← (do eqGuard op t x y (ce x) (ce y); binOp op t (ce x) (ce y))))) := by simp [execOp, hop]
  rw [he]
  rcases cBin_cases hc with rfl | ⟨d, p, hop', ht, h1, h2, hg, hp, rfl⟩
  · simp only [aOp, Option.map_eq_some_iff] at ha
    obtain ⟨_, hb, heq⟩ := ha
    cases heq
    obtain ⟨cv, rfl, h1, h2⟩ := aBin_sound (P := P) (w := w) t hb hxv hyv
    refine .v h (cv := cv) ?_ (.raw _)
    rw [h2]
    simpa using h1
  · simp only [aOp, Option.map_eq_some_iff] at ha
    obtain ⟨_, ⟨b, hb, rfl⟩, heq⟩ := ha
    cases heq
    obtain ⟨g1, g2, g3⟩ := aEqP_other (P := P) (w := w) ht h1 h2 hp hxv hyv hb hg
    have hfin := aEqP_sound (P := P) (w := w) 20 t p hp Op.maxDepth (by decide) _ _ _ _ _ hxv hyv hb
    rcases hop' with rfl | rfl
    · refine .v h (cv := .bool b) ?_ (.raw _)
      rw [Sem.run_bind, g1 _ _ _ rfl]
      simp only [Result.andThen_ok, g2, Sem.run_bind, Op.equal, hfin, Sem.run_pure]
    · refine .v h (cv := .bool (!b)) ?_ (.raw _)
      rw [Sem.run_bind, g1 _ _ _ rfl]
      simp only [Result.andThen_ok, g3, Sem.run_bind, Op.equal, hfin, Sem.run_pure]

theorem aBytes_rel : ∀ {cells : List AVal} {vs : List Value} {bs : List UInt8}, VRels ρ cells vs → aBytes cells = some bs → vs.map (fun v => match v with | .int .u8 n => UInt8.ofNat n.toNat | _ => 0) = bs ∧ ∀ v ∈ vs, ∃ n, v = .int .u8 n
  | [], _, bs, .nil, h => by simp [aBytes] at h; subst h; simp
  | c :: cells, v :: vs, bs, .cons hv hvs, h => by
    unfold aBytes at h
    split at h
    · rename_i heq; cases heq
    · rename_i n r heq
      cases heq
      obtain ⟨bs', hb, rfl⟩ := Option.map_eq_some_iff.1 h
      obtain ⟨h1, h2⟩ := aBytes_rel hvs hb
      rw [hv.raw_inv]
      refine ⟨by simp [← h1], fun u hu => ?_⟩
      rcases List.mem_cons.1 hu with rfl | hu
      · exact ⟨n, rfl⟩
      · exact h2 u hu
    · cases h

theorem run_bytesToString_loop (f : Value → ByteArray → Sem (ForInStep ByteArray)) (hf : ∀ n r, f (.int .u8 n) r = Pure.pure (ForInStep.yield (r.push (UInt8.ofNat n.toNat)))) : ∀ (vs : List Value) (s : ByteArray) (w : World), (∀ v ∈ vs, ∃ n, v = .int .u8 n) →
    (forIn (m := Sem) vs s f).run P w = .ok ⟨s.data ++ (vs.map (fun v => match v with | .int .u8 n => UInt8.ofNat n.toNat | _ => 0)).toArray⟩ w
  | [], s, w, _ => by simp
  | v :: vs, s, w, h => by
    obtain ⟨n, rfl⟩ := h v (by simp)
    simp only [List.forIn_cons, Sem.run_bind, hf, Sem.run_pure, Result.andThen_ok]
    rw [run_bytesToString_loop f hf vs _ w (fun u hu => h u (by simp [hu]))]
    congr 2
    apply Array.ext'
    simp [ByteArray.push]

theorem op_conv (h : HRel P B ρ H w) (hev : EvOk ρ tm ce) {src dst : TypeId} {x : Operand} (hop : o.op = .convert src dst x) (hc : cOp P o.op = some ao) (ha : aOp tm ao H = some (av, H')) :
    OpRes (if src == dst then .any else .quiet) P B ρ H w (execOp ce o) av H' := by
  have hmm : (if src == dst then Mode.any else .quiet) ≠ .makes := by split <;> decide
  rw [hop] at hc
  simp only [cOp, Option.bind_eq_some_iff] at hc
  obtain ⟨ax, hx, hc⟩ := hc
  have hxv := hev _ _ hx
  have he : execOp ce o = (do Pure.pure (.value (← convert src dst (ce x)))) := by simp [execOp, hop]
  rw [he]
  unfold cConv at hc
  split at hc
  · rename_i k' k hs hd
    cases hc
    simp only [aOp] at ha
    split at ha
    · rename_i k0 n hxe
      cases ha
      rw [hxe] at hxv
      refine .v h (cv := .int k (wrapF k n)) ?_ (.raw _) hmm
      simp [convert, run_underlying' hs, run_underlying' hd, hxv.raw_inv, Conv.intToInt, wrapF_eq]
    · cases ha
  · rename_i hs hd
    cases hc
    simp only [aOp] at ha
    split at ha
    · rename_i s hxe
      cases ha
      rw [hxe] at hxv
      refine .v h (cv := .string s) ?_ (.raw _) hmm
      simp [convert, run_underlying' hs, run_underlying' hd, hxv.raw_inv]
    · cases ha
  · rename_i e0 e hs hd
    split at hc
    · rename_i hsd
      split at hc
      · rename_i hu8
        cases hc
        simp only [aOp] at ha
        split at ha
        · rename_i A v off len k ex esz hxe
          split at ha
          · rename_i vs hg
            split at ha
            · rename_i hk
              cases ha
              have hxv' := hxv
              rw [hxe] at hxv'
              obtain ⟨l, a, cap, hl, hcx, _, _, _, hor⟩ := hxv'.slice_inv
              rcases hor with ⟨rfl, _⟩ | ⟨_, h0, _⟩
              · obtain ⟨h1, h2, _, _⟩ := h.obj A _ hg
                have hv : v < vs.length := by
                  rcases Nat.lt_or_ge v vs.length with q | q
                  · exact q
                  · rw [h1 v q] at hl; cases hl
                obtain ⟨l', hl', arr, et, fz, g1, g2, _⟩ := h2 v hv
                rw [hl] at hl'; cases hl'
                rw [hsd]
                refine .vw ?_ (by rw [hxe] at hxv; exact hxv) (h.mark hg hl) (Ren.le_refl _)
                have hsh : (shape l.c).run P w = .ok (some (et, l.n)) w := by rw [run_shape]; unfold World.shape?; rw [g1]; simp [g2]
                rw [hcx]
                simp only [convert, Sem.run_bind, Sem.run_pure, Result.andThen_ok, run_underlying' hs, run_underlying' hd, run_underlying' hu8, hsd, markStringish, hsh, run_freeze]
              · omega
            · cases ha
          · cases ha
        · cases ha
      · cases hc
    · cases hc
  · rename_i e hs hd
    split at hc
    · rename_i hu8
      cases hc
      simp only [aOp, Option.map_eq_some_iff, Option.bind_eq_some_iff] at ha
      obtain ⟨_, ⟨cells, hcells, bs, hbs, rfl⟩, heq⟩ := ha
      cases heq
      obtain ⟨m, hm⟩ : ∃ m, aLen (ev tm ax) = some m := by
        unfold aCells at hcells
        split at hcells
        · rename_i hxe; exact ⟨0, by rw [hxe]; rfl⟩
        · rename_i hxe; exact ⟨_, by rw [hxe]; rfl⟩
        · cases hcells
      obtain ⟨a, cap, cvs, hcx, hor, hrel, hlen⟩ := run_firstCells (P := P) h hxv hcells hm
      obtain ⟨h1, h2⟩ := aBytes_rel hrel hbs
      have hcl := hrel.length
      have hconv : convert src dst (ce x) = convert src dst (.slice a m cap) := by rw [hcx]
      rw [hconv]
      rcases hor with ⟨rfl, rfl⟩ | ⟨ad, rfl, hload⟩
      · have : cvs = [] := by
          apply List.eq_nil_of_length_eq_zero; omega
        subst this
        simp at h1; subst h1
        refine .v h (cv := .string .empty) ?_ (.raw _) hmm
        simp [convert, run_underlying' hs, run_underlying' hd, run_underlying' hu8, Conv.bytesToString]
      · have hl := hload m (Nat.le_refl _)
        rw [Nat.mul_one] at hl hlen
        rw [List.take_of_length_le (by omega)] at hl
        refine .v h (cv := .string ⟨bs.toArray⟩) ?_ (.raw _) hmm
        simp only [convert, Sem.run_bind, run_underlying' hs, run_underlying' hd, run_underlying' hu8, Result.andThen_ok, Conv.bytesToString, hl]
        rw [← Array.forIn_toList]
        rw [run_bytesToString_loop _ (fun n r => rfl) cvs.toArray.toList ByteArray.empty w h2]
        simp only [Result.andThen_ok, Sem.run_pure]
        rw [h1]
        congr 3
        simp
    · cases hc
  · cases hc

end Go.Vm
