/- The abstract machine, part 8: the operations are sound (cells, addresses, indices, slicing). -/
import Derived.Test.YtipmhhogebnpkaaGreatDoorK04
namespace Go.Vm
open Go

set_option linter.unusedVariables false
set_option linter.unusedSimpArgs false

variable {P : Program} {B : Base} {ρ ρ' : Ren} {H H' : AHeap} {w w' : World} {tm : List AVal} {ce : Operand → Value} {o : Oper} {av : AVal} {ao : AOp}

theorem aLoadG_row : ∀ {tab : List (Nat × List Value)} {g o n : Nat} {agg : Bool} {v : AVal}, aLoadG tab g o agg n = some v → (∀ x ∈ tab, ∃ e fz, w.heap[x.1]? = some (.cells x.2.toArray e fz)) →
    ∃ (cells : List AVal) (l : Loc), l.c = g ∧ l.s = 0 ∧ RowAt ρ w l cells ∧ (if o + n ≤ cells.length then aPart agg cells o n else none) = some v
  | [], g, o, n, agg, v, h, _ => by cases h
  | (g', vs) :: r, g, o, n, agg, v, h, hh => by
    unfold aLoadG at h
    split at h
    · rename_i e; subst e
      obtain ⟨e, fz, hw⟩ := hh (g', vs) (List.mem_cons_self ..)
      refine ⟨vs.map .raw, ⟨g', 0, vs.length⟩, rfl, rfl, ⟨vs.toArray, e, fz, hw, by simp, fun i v hv => ?_⟩, by rw [List.length_map]; exact h⟩
      rw [List.getElem?_map] at hv
      obtain ⟨c, h1, rfl⟩ := Option.map_eq_some_iff.1 hv
      exact ⟨c, by simpa using h1, .raw c⟩
    · exact aLoadG_row h fun x hx => hh x (List.mem_cons_of_mem _ hx)

theorem load_row (h : HRel P B ρ H w) {t : TypeId} {x : Operand} {d : TypeDesc} {m : Nat} (hd : P.underlying t = some d) (hm : szOf P t = some m) {cells : List AVal} {l : Loc} {off : Nat} (hrow : RowAt ρ w l cells) (hcx : ce x = .pointer (some ⟨l.c, l.s + off, none⟩))
    (hif : (if off + (if isAggD d = true then m else 1) ≤ cells.length then aPart (isAggD d) cells off (if isAggD d = true then m else 1) else none) = some av) : OpRes .quiet P B ρ H w (do Pure.pure (.value (← Instr.loadAt t (ce x)))) av H := by
  unfold aPart at hif
  cases hagg : isAggD d with
  | true =>
    simp only [hagg, if_true] at hif
    split at hif
    · rename_i hfit
      cases hif
      obtain ⟨cvs, h1, h2⟩ := run_loadCells_rel (P := P) hrow hfit
      refine .v h (cv := .agg cvs.toArray) ?_ (.agg h2)
      simp [Instr.loadAt, hcx, Instr.sureAddr, loadVar, run_isAgg' hd, hagg, run_sizeOf' hm, h1]
    · cases hif
  | false =>
    simp only [hagg, Bool.false_eq_true, if_false] at hif
    split at hif
    · obtain ⟨cv, h1, h2⟩ := run_load_rel (P := P) hrow hif
      refine .v h (cv := cv) ?_ h2
      simp only [Instr.loadAt, hcx, Instr.sureAddr, loadVar, Sem.run_bind, Sem.run_pure, Result.andThen_ok, run_isAgg' hd, hagg, Bool.false_eq_true, if_false, h1]
    · cases hif

theorem op_load (h : HRel P B ρ H w) (hev : EvOk ρ tm ce) {t : TypeId} {x : Operand} (hop : o.op = .load t x) (hc : cOp P o.op = some ao) (ha : aOp tm ao H = some (av, H')) : OpRes .quiet P B ρ H w (execOp ce o) av H' := by
  rw [hop] at hc
  simp only [cOp, Option.bind_eq_some_iff, Option.map_eq_some_iff] at hc
  obtain ⟨⟨a, n⟩, hp, ax, hx, rfl⟩ := hc
  obtain ⟨d, m, hd, hm, rfl, rfl⟩ := partSz_some hp
  have he : execOp ce o = (do Pure.pure (.value (← Instr.loadAt t (ce x)))) := by simp [execOp, hop]
  rw [he]
  simp only [aOp] at ha
  have hxv := hev _ _ hx
  split at ha
  · rename_i A ver off hxe
    simp only [Option.map_eq_some_iff, Option.bind_eq_some_iff] at ha
    obtain ⟨_, ⟨cells, hr, hif⟩, heq⟩ := ha
    cases heq
    rw [hxe] at hxv
    obtain ⟨l, hl, hcx⟩ := hxv.ptr_inv
    exact load_row h hd hm (h.rowAt hr hl) hcx hif
  · rename_i g off hxe
    obtain ⟨_, hif, heq⟩ := Option.map_eq_some_iff.1 ha
    cases heq
    rw [hxe] at hxv
    have hcx := hxv.raw_inv
    obtain ⟨cells, l, hlc, hls, hrow, hif⟩ := aLoadG_row (ρ := ρ) (w := w) hif h.held
    exact load_row h hd hm hrow (by rw [hcx, hlc, hls, Nat.zero_add]) hif
  · cases ha

theorem op_store (h : HRel P B ρ H w) (hev : EvOk ρ tm ce) {t : TypeId} {a x : Operand} (hop : o.op = .store t a x) (hc : cOp P o.op = some ao) (ha : aOp tm ao H = some (av, H')) : OpRes .any P B ρ H w (execOp ce o) av H' := by
  rw [hop] at hc
  simp only [cOp, Option.bind_eq_some_iff, Option.map_eq_some_iff] at hc
  obtain ⟨n, hn, aa, haa, ax, hx, rfl⟩ := hc
  have he : execOp ce o = (do Instr.storeAt t (ce a) (ce x); Pure.pure .skip) := by simp [execOp, hop]
  rw [he]
  simp only [aOp] at ha
  split at ha
  · rename_i A ver off hae
    split at ha
    · rename_i hlen
      obtain ⟨H'', hw, heq⟩ := Option.map_eq_some_iff.1 ha
      cases heq
      have hav := hev _ _ haa
      rw [hae] at hav
      obtain ⟨l, hl, hca⟩ := hav.ptr_inv
      have hcells := (hev _ _ hx).cells
      obtain ⟨w', h1, h2⟩ := h.write hw hl hcells
      refine .uw ?_ h2 (Ren.le_refl _)
      have hcl := hcells.length
      simp only [Instr.storeAt, hca, Instr.sureAddr, Sem.run_bind, Sem.run_pure, Result.andThen_ok, storeVar, run_sizeOf' hn]
      rw [if_neg (by simp at hcl; omega)]
      exact h1
    · cases ha
  · cases ha

theorem op_nilCheck (h : HRel P B ρ H w) (hev : EvOk ρ tm ce) {x : Operand} (hop : o.op = .nilCheck x) (hc : cOp P o.op = some ao) (ha : aOp tm ao H = some (av, H')) : OpRes .quiet P B ρ H w (execOp ce o) av H' := by
  rw [hop] at hc
  simp only [cOp, Option.map_eq_some_iff] at hc
  obtain ⟨ax, hx, rfl⟩ := hc
  have hxv := hev _ _ hx
  simp only [aOp] at ha
  split at ha
  · rename_i hxe
    cases ha
    rw [hxe] at hxv
    obtain ⟨l, hl, hcx⟩ := hxv.ptr_inv
    exact .pure h (cv := ce x) (by simp [execOp, hop, hcx]) hxv
  · rename_i fn cs hxe
    cases ha
    rw [hxe] at hxv
    obtain ⟨vs, hvs, hcx⟩ := hxv.func_inv
    refine .pure h (cv := ce x) ?_ hxv
    rw [hcx]
    cases fn <;> simp [execOp, hop, hcx]
  · rename_i hxe
    cases ha
    rw [hxe] at hxv
    obtain ⟨vs, hvs, hcx⟩ := hxv.bound_inv
    exact .pure h (cv := ce x) (by simp [execOp, hop, hcx]) hxv
  · rename_i hxe
    cases ha
    rw [hxe] at hxv
    obtain ⟨l, hl, hcx⟩ := hxv.yield_inv
    exact .pure h (cv := ce x) (by simp [execOp, hop, hcx]) hxv
  · rename_i hxe
    cases ha
    rw [hxe] at hxv
    obtain ⟨l, hl, hcx⟩ := hxv.map_inv
    exact .pure h (cv := ce x) (by simp [execOp, hop, hcx]) hxv
  · cases ha

theorem op_un (h : HRel P B ρ H w) (hev : EvOk ρ tm ce) {op : UnOp} {t : TypeId} {x : Operand} (hop : o.op = .unOp op t x) (hc : cOp P o.op = some ao) (ha : aOp tm ao H = some (av, H')) : OpRes .quiet P B ρ H w (execOp ce o) av H' := by
  rw [hop] at hc
  simp only [cOp, Option.map_eq_some_iff] at hc
  obtain ⟨ax, hx, rfl⟩ := hc
  have hxv := hev _ _ hx
  have he : execOp ce o = (do Pure.pure (.value (← Op.unary op (ce x)))) := by simp [execOp, hop]
  rw [he]
  simp only [aOp, Option.map_eq_some_iff] at ha
  obtain ⟨_, hu, heq⟩ := ha
  cases heq
  unfold aUn at hu
  split at hu
  · rename_i k n hxe
    cases hu
    rw [hxe] at hxv
    exact .v h (cv := .int k (wrapF k (0 - n))) (by rw [hxv.raw_inv]; simp [Op.unary, Op.intArith, wrapF_eq]) (.raw _)
  · rename_i k n hxe
    obtain ⟨m, hm, rfl⟩ := Option.map_eq_some_iff.1 hu
    rw [hxe] at hxv
    exact .v h (by rw [hxv.raw_inv]; simp only [Op.unary]; exact aBits_some hm) (.raw _)
  · rename_i b hxe
    cases hu
    rw [hxe] at hxv
    exact .v h (cv := .bool !b) (by rw [hxv.raw_inv]; simp [Op.unary]) (.raw _)
  · cases hu

theorem op_ptrAdd (h : HRel P B ρ H w) (hev : EvOk ρ tm ce) {s : TypeId} {x : Operand} {f : Nat} (hop : o.op = .fieldAddr s x f) (hc : cOp P o.op = some ao) (ha : aOp tm ao H = some (av, H')) : OpRes .quiet P B ρ H w (execOp ce o) av H' := by
  rw [hop] at hc
  simp only [cOp] at hc
  split at hc
  · rename_i fs hu
    simp only [Option.bind_eq_some_iff] at hc
    obtain ⟨fd, hf, n, hn, hc⟩ := hc
    split at hc
    · cases hc
    · rename_i hn0
      obtain ⟨ax, hx, rfl⟩ := Option.map_eq_some_iff.1 hc
      have hxv := hev _ _ hx
      have he : execOp ce o = (do Pure.pure (.value (← Instr.fieldAt s (ce x) f))) := by simp [execOp, hop]
      rw [he]
      simp only [aOp] at ha
      split at ha
      · rename_i A v off hxe
        cases ha
        rw [hxe] at hxv
        obtain ⟨l, hl, hcx⟩ := hxv.ptr_inv
        refine .v h (cv := .pointer (some ⟨l.c, l.s + off + fd.offset, none⟩)) ?_ (by rw [Nat.add_assoc]; exact .ptr hl)
        simp [Instr.fieldAt, run_underlying' hu, hf, hcx, Instr.sureAddr, fieldPlace, run_sizeOf' hn, hn0, add_none]
      · cases ha
  · cases hc

theorem op_field (h : HRel P B ρ H w) (hev : EvOk ρ tm ce) {s : TypeId} {x : Operand} {f : Nat} (hop : o.op = .field s x f) (hc : cOp P o.op = some ao) (ha : aOp tm ao H = some (av, H')) : OpRes .quiet P B ρ H w (execOp ce o) av H' := by
  rw [hop] at hc
  simp only [cOp] at hc
  split at hc
  · rename_i fs hu
    simp only [Option.bind_eq_some_iff, Option.map_eq_some_iff] at hc
    obtain ⟨fd, hf, ⟨a, n⟩, hp, ax, hx, rfl⟩ := hc
    have hxv := hev _ _ hx
    have he : execOp ce o = (do Pure.pure (.value (← Instr.field s (ce x) f))) := by simp [execOp, hop]
    rw [he]
    simp only [aOp] at ha
    split at ha
    · rename_i cs hxe
      obtain ⟨_, hpart, heq⟩ := Option.map_eq_some_iff.1 ha
      cases heq
      rw [hxe] at hxv
      obtain ⟨vs, hvs, hcx⟩ := hxv.agg_inv
      obtain ⟨cv, h1, h2⟩ := run_part (P := P) (w := w) hp hvs hpart
      refine .v h (cv := cv) ?_ h2
      simp only [Instr.field, Sem.run_bind, run_underlying' hu, Result.andThen_ok, hf, hcx, asAgg, Sem.run_pure, h1]
    · cases ha
  · cases hc

theorem idx_ok {i : Int} {len : Nat} (h : (ile 0 i && ilt i len) = true) : 0 ≤ i ∧ i < (len : Int) := by
  simpa [ile_eq, ilt_eq] using h

theorem op_idxAddr (h : HRel P B ρ H w) (hev : EvOk ρ tm ce) {t : TypeId} {x i : Operand} (hop : o.op = .indexAddr t x i) (hc : cOp P o.op = some ao) (ha : aOp tm ao H = some (av, H')) : OpRes .quiet P B ρ H w (execOp ce o) av H' := by
  rw [hop] at hc
  simp only [cOp] at hc
  have he : execOp ce o = (do Pure.pure (.value (← Instr.indexAt t (ce x) (ce i)))) := by simp [execOp, hop]
  rw [he]
  split at hc
  · rename_i len e hu
    simp only [Option.bind_eq_some_iff, Option.map_eq_some_iff] at hc
    obtain ⟨n, hn, ax, hx, ai, hi, rfl⟩ := hc
    have hxv := hev _ _ hx
    have hiv := hev _ _ hi
    simp only [aOp] at ha
    split at ha
    · rename_i A v off k j hxe hie
      split at ha
      · rename_i hb
        cases ha
        rw [hxe] at hxv
        rw [hie] at hiv
        obtain ⟨l, hl, hcx⟩ := hxv.ptr_inv
        have hb' := idx_ok hb
        refine .v h (cv := .pointer (some ⟨l.c, l.s + off + j.toNat * n, none⟩)) ?_ (by rw [Nat.add_assoc]; exact .ptr hl)
        rw [hiv.raw_inv, hcx]
        simp only [Instr.indexAt, asIntOf, Sem.run_bind, Sem.run_pure, Result.andThen_ok, run_underlying' hu, Instr.sureAddr]
        rw [if_pos hb']
        simp [run_sizeOf' hn, add_none]
      · cases ha
    · rename_i g off k j hxe hie
      split at ha
      · rename_i hb
        cases ha
        rw [hxe] at hxv
        rw [hie] at hiv
        have hcx := hxv.raw_inv
        have hb' := idx_ok hb
        refine .v h (cv := .pointer (some ⟨g, off + j.toNat * n, none⟩)) ?_ (.raw _)
        rw [hiv.raw_inv, hcx]
        simp only [Instr.indexAt, asIntOf, Sem.run_bind, Sem.run_pure, Result.andThen_ok, run_underlying' hu, Instr.sureAddr]
        rw [if_pos hb']
        simp [run_sizeOf' hn, add_none]
      · cases ha
    · cases ha
  · rename_i e hu
    simp only [Option.bind_eq_some_iff, Option.map_eq_some_iff] at hc
    obtain ⟨n, hn, ax, hx, ai, hi, rfl⟩ := hc
    have hxv := hev _ _ hx
    have hiv := hev _ _ hi
    simp only [aOp] at ha
    split at ha
    · rename_i A v off len kcap ex esz k j hxe hie
      split at ha
      · rename_i hb
        cases ha
        rw [hxe] at hxv
        rw [hie] at hiv
        obtain ⟨l, a, cap, hl, hcx, hk, hlen, _, hor⟩ := hxv.slice_inv
        have hb' := idx_ok hb
        rcases hor with ⟨rfl, hn'⟩ | ⟨rfl, _, _⟩
        · refine .v h (cv := .pointer (some ⟨l.c, l.s + off + j.toNat * n, none⟩)) ?_ (by rw [Nat.add_assoc]; exact .ptr hl)
          rw [hiv.raw_inv, hcx]
          simp only [Instr.indexAt, asIntOf, Sem.run_bind, Sem.run_pure, Result.andThen_ok, run_underlying' hu]
          rw [if_pos hb']
          simp [run_sizeOf' hn, add_none]
        · omega
      · cases ha
    · cases ha
  · cases hc

theorem op_index (h : HRel P B ρ H w) (hev : EvOk ρ tm ce) {t : TypeId} {x i : Operand} (hop : o.op = .index t x i) (hc : cOp P o.op = some ao) (ha : aOp tm ao H = some (av, H')) : OpRes .quiet P B ρ H w (execOp ce o) av H' := by
  rw [hop] at hc
  simp only [cOp] at hc
  have he : execOp ce o = (do Pure.pure (.value (← Instr.index t (ce x) (ce i)))) := by simp [execOp, hop]
  rw [he]
  split at hc
  · rename_i len e hu
    simp only [Option.bind_eq_some_iff] at hc
    obtain ⟨⟨a, n⟩, hp, m, hm, hc⟩ := hc
    split at hc
    · rename_i hnm
      dsimp only at hnm
      subst hnm
      simp only [Option.bind_eq_some_iff, Option.map_eq_some_iff] at hc
      obtain ⟨ax, hx, ai, hi, rfl⟩ := hc
      have hxv := hev _ _ hx
      have hiv := hev _ _ hi
      simp only [aOp] at ha
      split at ha
      · rename_i cs k j hxe hie
        split at ha
        · rename_i hb
          obtain ⟨_, hpart, heq⟩ := Option.map_eq_some_iff.1 ha
          cases heq
          rw [hxe] at hxv
          rw [hie] at hiv
          obtain ⟨vs, hvs, hcx⟩ := hxv.agg_inv
          have hb' := idx_ok hb
          obtain ⟨cv, h1, h2⟩ := run_part (P := P) (w := w) hp hvs hpart
          refine .v h (cv := cv) ?_ h2
          rw [hiv.raw_inv, hcx]
          simp only [Instr.index, asIntOf, Sem.run_bind, Sem.run_pure, Result.andThen_ok, run_underlying' hu]
          rw [if_pos hb']
          simp only [Sem.run_bind, run_sizeOf' hm, Result.andThen_ok, h1]
        · cases ha
      · cases ha
    · cases hc
  · rename_i hu
    simp only [Option.bind_eq_some_iff, Option.map_eq_some_iff] at hc
    obtain ⟨ax, hx, ai, hi, rfl⟩ := hc
    have hxv := hev _ _ hx
    have hiv := hev _ _ hi
    simp only [aOp] at ha
    split at ha
    · rename_i s k j hxe hie
      split at ha
      · rename_i hb
        simp only [Option.map_eq_some_iff] at ha
        obtain ⟨_, ⟨b, hb2, rfl⟩, heq⟩ := ha
        cases heq
        rw [hxe] at hxv
        rw [hie] at hiv
        have hb' : 0 ≤ j := by simpa [ile_eq] using hb
        refine .v h (cv := .int .u8 b.toNat) ?_ (.raw _)
        rw [hiv.raw_inv, hxv.raw_inv]
        have hsb : s[j.toNat]? = some b := by
          obtain ⟨h1, h2⟩ := List.getElem?_eq_some_iff.1 hb2
          have h1' : j.toNat < s.size := h1
          rw [getElem?_pos s j.toNat h1']
          congr 1
        simp only [Instr.index, asIntOf, Sem.run_bind, Sem.run_pure, Result.andThen_ok, run_underlying' hu]
        rw [if_pos hb', hsb]
        rfl
      · cases ha
    · cases ha
  · cases hc

end Go.Vm
namespace Go.Vm
open Go

set_option linter.unusedVariables false
set_option linter.unusedSimpArgs false

variable {P : Program} {B : Base} {ρ ρ' : Ren} {H H' : AHeap} {w w' : World} {tm : List AVal} {ce : Operand → Value} {o : Oper} {av : AVal} {ao : AOp}

theorem aBound_run {x : AVal} {cx : Value} {top n : Nat} (h : aBound x top = some n) (hx : VRel ρ x cx) : n ≤ top ∧ ∀ y code, top ≤ y → (Instr.sliceBound cx y code).run P w = .ok n w := by
  unfold aBound at h
  split at h
  · rename_i k i
    split at h
    · rename_i hb
      cases h
      have hb' : 0 ≤ i ∧ i ≤ (top : Int) := by simpa [ile_eq] using hb
      refine ⟨by omega, fun y code hy => ?_⟩
      rw [hx.raw_inv]
      simp only [Instr.sliceBound, asIntOf, Sem.run_bind, Sem.run_pure, Result.andThen_ok]
      rw [if_pos (by omega)]
      rfl
    · cases h
  · cases h

/-- The bounds of a slicing: 'cap' is the true capacity. -/
theorem bounds_run (hev : EvOk ρ tm ce) {lo hi mx : Option Operand} {alo ahi amx : Option AOpd} (hlo : cOpdO lo = some alo) (hhi : cOpdO hi = some ahi) (hmx : cOpdO mx = some amx)
    {len kcap cap : Nat} (isS : Bool) (hk : kcap ≤ cap) :
    (∀ h l, amx = none → aBoundO (ahi.map (ev tm)) len kcap = some h → aBoundO (alo.map (ev tm)) 0 h = some l → len ≤ kcap →
      (Instr.sliceBounds isS len cap (lo.map ce) (hi.map ce) (mx.map ce)).run P w = .ok (l, h, cap) w ∧ l ≤ h ∧ h ≤ kcap) ∧
    (∀ am ah m h l, amx = some am → ahi = some ah → aBound (ev tm am) kcap = some m → aBound (ev tm ah) m = some h → aBoundO (alo.map (ev tm)) 0 h = some l →
      (Instr.sliceBounds isS len cap (lo.map ce) (hi.map ce) (mx.map ce)).run P w = .ok (l, h, m) w ∧ l ≤ h ∧ h ≤ m ∧ m ≤ kcap) := by
  have low : ∀ (h l : Nat) (code : BoundsCode) (K : Nat → Sem (Nat × Nat × Nat)), aBoundO (alo.map (ev tm)) 0 h = some l →
      (match lo.map ce with | some v => do let l ← Instr.sliceBound v h code; K l | none => do let l ← pure 0; K l : Sem (Nat × Nat × Nat)).run P w = (K l).run P w ∧ l ≤ h := fun h l code K hl => by
    rcases cOpdO_some hlo with ⟨rfl, rfl⟩ | ⟨y, ay, rfl, rfl, hy⟩
    · simp [aBoundO] at hl; subst hl; exact ⟨by simp, Nat.zero_le _⟩
    · simp only [Option.map_some, aBoundO] at hl
      obtain ⟨h1, h2⟩ := aBound_run (P := P) (w := w) hl (hev _ _ hy)
      refine ⟨?_, h1⟩
      simp only [Option.map_some, Sem.run_bind]
      rw [h2 _ _ (Nat.le_refl _)]
      rfl
  constructor
  · intro h l hm hh hl hle
    rcases cOpdO_some hmx with ⟨rfl, rfl⟩ | ⟨y, ay, rfl, rfl, hy⟩
    · rcases cOpdO_some hhi with ⟨rfl, rfl⟩ | ⟨y, ay, rfl, rfl, hy⟩
      · simp [aBoundO] at hh; subst hh
        obtain ⟨h1, h2⟩ := low _ _ (if (none : Option Value).isSome then .slice3C else .sliceB) (fun l => pure (l, _, _)) hl
        refine ⟨?_, h2, hle⟩
        simp only [Instr.sliceBounds, Option.map_none, Sem.run_bind, Sem.run_pure, Result.andThen_ok]
        exact h1
      · simp only [Option.map_some, aBoundO] at hh
        obtain ⟨h3, h4⟩ := aBound_run (P := P) (w := w) hh (hev _ _ hy)
        obtain ⟨h1, h2⟩ := low _ _ (if (none : Option Value).isSome then .slice3C else .sliceB) (fun l => pure (l, _, _)) hl
        refine ⟨?_, h2, h3⟩
        simp only [Instr.sliceBounds, Option.map_none, Option.map_some, Sem.run_bind, Sem.run_pure, Result.andThen_ok]
        rw [h4 _ _ hk]
        simp only [Result.andThen_ok]
        exact h1
    · cases hm
  · intro am ah m h l e1 e2 hm hh hl
    rcases cOpdO_some hmx with ⟨rfl, rfl⟩ | ⟨y, ay, rfl, rfl, hy⟩
    · cases e1
    · cases e1
      rcases cOpdO_some hhi with ⟨rfl, rfl⟩ | ⟨z, az, rfl, rfl, hz⟩
      · cases e2
      · cases e2
        obtain ⟨h3, h4⟩ := aBound_run (P := P) (w := w) hm (hev _ _ hy)
        obtain ⟨h5, h6⟩ := aBound_run (P := P) (w := w) hh (hev _ _ hz)
        obtain ⟨h1, h2⟩ := low _ _ (if (some (ce y)).isSome then .slice3C else .sliceB) (fun l => pure (l, _, _)) hl
        refine ⟨?_, h2, h5, h3⟩
        simp only [Instr.sliceBounds, Option.map_some, Sem.run_bind, Sem.run_pure, Result.andThen_ok]
        rw [h4 _ _ hk]
        simp only [Result.andThen_ok]
        rw [h6 _ _ (Nat.le_refl _)]
        simp only [Result.andThen_ok]
        exact h1

theorem opt_if {c : Prop} [Decidable c] (a : Addr) (f : Addr → Addr) : (if c then some a else Option.map f (some a)) = some (if c then a else f a) := by split <;> rfl

/-- The slice that a slicing leaves: from 'l' on, 'h - l' long, with room 'm - l'. -/
theorem slice_at {A ver off esz : Nat} {l : Loc} {lo h kc cap : Nat} {ex : Bool} (hl : ρ A ver = some l) (hlh : lo ≤ h) (hk : kc ≤ cap) (hle : h ≤ kc) (he : ex = true → cap = kc) (hn : l.s + off + cap * esz ≤ l.n) :
    VRel ρ (.slice A ver (off + lo * esz) (h - lo) (kc - lo) ex esz) (.slice (some (if cap = lo then ⟨l.c, l.s + off, none⟩ else (⟨l.c, l.s + off, none⟩ : Addr).add (lo * esz))) (h - lo) (cap - lo)) := by
  by_cases e : cap = lo
  · have e1 : h - lo = 0 := by omega
    have e2 : kc - lo = 0 := by omega
    have e3 : cap - lo = 0 := by omega
    rw [if_pos e, e1, e2, e3]
    exact .sliceE hl
  · rw [if_neg e, add_none, Nat.add_assoc]
    refine .slice hl (by omega) (by omega) (fun hx => by have := he hx; omega) ?_
    have : (cap - lo) * esz = cap * esz - lo * esz := Nat.sub_mul _ _ _
    have : lo * esz ≤ cap * esz := Nat.mul_le_mul_right _ (by omega)
    omega

theorem op_slice (h : HRel P B ρ H w) (hev : EvOk ρ tm ce) {t : TypeId} {x : Operand} {lo hi mx : Option Operand} (hop : o.op = .slice t x lo hi mx) (hc : cOp P o.op = some ao) (ha : aOp tm ao H = some (av, H')) :
    OpRes .quiet P B ρ H w (execOp ce o) av H' := by
  rw [hop] at hc
  simp only [cOp, Option.bind_eq_some_iff] at hc
  obtain ⟨alo, hlo, ahi, hhi, amx, hmx, hc⟩ := hc
  have he : execOp ce o = (do Pure.pure (.value (← Instr.sliceAt t (ce x) (lo.map ce) (hi.map ce) (mx.map ce)))) := by simp [execOp, hop]
  rw [he]
  split at hc
  · rename_i n e hu
    simp only [Option.bind_eq_some_iff, Option.map_eq_some_iff] at hc
    obtain ⟨s, hs, ax, hx, rfl⟩ := hc
    have hxv := hev _ _ hx
    simp only [aOp, Option.map_eq_some_iff] at ha
    obtain ⟨_, hsl, heq⟩ := ha
    cases heq
    unfold aSliceA at hsl
    split at hsl
    · rename_i A ver off hxe
      rw [hxe] at hxv
      obtain ⟨l, hl, hcx⟩ := hxv.ptr_inv
      obtain ⟨cells, hr, hsl⟩ := Option.bind_eq_some_iff.1 hsl
      split at hsl
      · rename_i hfit
        obtain ⟨arr, e', fz, ha', hn', hcs⟩ := h.rowAt hr hl
        have hroom : l.s + off + n * s ≤ l.n := by
          obtain ⟨cv, h1, _⟩ := hcs (off + n * s - 1) _ (List.getElem?_eq_getElem (by omega))
          have := (Array.getElem?_eq_some_iff.1 h1).1
          omega
        obtain ⟨hb1, hb2⟩ := bounds_run (P := P) (w := w) hev hlo hhi hmx (len := n) (kcap := n) (cap := n) false (Nat.le_refl _)
        cases amx with
        | none =>
          simp only [Option.map_none, Option.bind_eq_some_iff, Option.map_eq_some_iff] at hsl
          obtain ⟨hh, h1, ll, h2, rfl⟩ := hsl
          obtain ⟨h3, h4, h5⟩ := hb1 hh ll rfl h1 h2 (Nat.le_refl _)
          refine .v h ?_ (slice_at (ex := true) hl h4 (Nat.le_refl _) h5 (fun _ => rfl) hroom)
          simp only [Instr.sliceAt, Sem.run_bind, run_underlying' hu, Result.andThen_ok, hcx, Instr.sureAddr, Sem.run_pure]
          rw [h3]
          simp only [Result.andThen_ok, run_sizeOf' hs]
        | some am =>
          simp only [Option.map_some, Option.bind_eq_some_iff] at hsl
          obtain ⟨m, h1, hsl⟩ := hsl
          cases ahi with
          | none => cases hsl
          | some ah =>
            simp only [Option.map_some, Option.bind_eq_some_iff, Option.map_eq_some_iff] at hsl
            obtain ⟨hh, h2, ll, h3, rfl⟩ := hsl
            obtain ⟨h4, h5, h6, h7⟩ := hb2 am ah m hh ll rfl rfl h1 h2 h3
            have hms : m * s ≤ n * s := Nat.mul_le_mul_right _ h7
            refine .v h ?_ (slice_at (ex := true) hl h5 (Nat.le_refl m) h6 (fun _ => rfl) (by omega))
            simp only [Instr.sliceAt, Sem.run_bind, run_underlying' hu, Result.andThen_ok, hcx, Instr.sureAddr, Sem.run_pure]
            rw [h4]
            simp only [Result.andThen_ok, run_sizeOf' hs]
      · cases hsl
    · cases hsl
  · rename_i e hu
    simp only [Option.bind_eq_some_iff, Option.map_eq_some_iff] at hc
    obtain ⟨s, hs, ax, hx, rfl⟩ := hc
    have hxv := hev _ _ hx
    simp only [aOp, Option.map_eq_some_iff] at ha
    obtain ⟨_, hsl, heq⟩ := ha
    cases heq
    have hrun : ∀ (a : Option Addr) (len cap l hh m : Nat), ce x = .slice a len cap → (Instr.sliceBounds true len cap (lo.map ce) (hi.map ce) (mx.map ce)).run P w = .ok (l, hh, m) w →
        (Instr.sliceAt t (ce x) (lo.map ce) (hi.map ce) (mx.map ce)).run P w = .ok (.slice (if m = l then a else a.map (·.add (l * s))) (hh - l) (m - l)) w := fun a len cap l hh m hcx hb => by
      simp only [Instr.sliceAt, Sem.run_bind, run_underlying' hu, Result.andThen_ok, Instr.slice, hcx]
      rw [hb]
      simp only [Result.andThen_ok, run_sizeOf' hs, Sem.run_pure]
    unfold aSliceS at hsl
    split at hsl
    · rename_i A ver off len kcap ex esz hxe
      split at hsl
      · rename_i hes
        subst hes
        rw [hxe] at hxv
        obtain ⟨l, a, cap, hl, hcx, hk, hlen, hex, hor⟩ := hxv.slice_inv
        obtain ⟨hb1, hb2⟩ := bounds_run (P := P) (w := w) hev hlo hhi hmx (len := len) (kcap := kcap) (cap := cap) true hk
        cases amx with
        | none =>
          simp only [Option.map_none, Option.bind_eq_some_iff, Option.map_eq_some_iff] at hsl
          obtain ⟨hh, h1, ll, h2, rfl⟩ := hsl
          obtain ⟨h3, h4, h5⟩ := hb1 hh ll rfl h1 h2 hlen
          refine .v h (hrun _ _ _ _ _ _ hcx h3) ?_
          rcases hor with ⟨rfl, hn⟩ | ⟨h6, h7, h8⟩
          · have := slice_at (ex := ex) hl h4 hk h5 hex hn
            rw [opt_if]
            exact this
          · have e1 : hh - ll = 0 := by omega
            have e2 : kcap - ll = 0 := by omega
            have e3 : cap - ll = 0 := by omega
            rw [if_pos (by omega), e1, e2, e3]
            exact .sliceE hl
        | some am =>
          simp only [Option.map_some, Option.bind_eq_some_iff] at hsl
          obtain ⟨m, h1, hsl⟩ := hsl
          cases ahi with
          | none => cases hsl
          | some ah =>
            simp only [Option.map_some, Option.bind_eq_some_iff, Option.map_eq_some_iff] at hsl
            obtain ⟨hh, h2, ll, h3, rfl⟩ := hsl
            obtain ⟨h4, h5, h6, h7⟩ := hb2 am ah m hh ll rfl rfl h1 h2 h3
            refine .v h (hrun _ _ _ _ _ _ hcx h4) ?_
            rcases hor with ⟨rfl, hn⟩ | ⟨h8, h9, h10⟩
            · have hms : m * esz ≤ cap * esz := Nat.mul_le_mul_right _ (by omega)
              have := slice_at (ex := true) (off := off) (cap := m) (esz := esz) (lo := ll) hl h5 (Nat.le_refl m) h6 (fun _ => rfl) (by omega)
              rw [opt_if]
              exact this
            · have e1 : hh - ll = 0 := by omega
              have e3 : m - ll = 0 := by omega
              rw [if_pos (by omega), e1, e3]
              exact .sliceE hl
      · cases hsl
    · rename_i hxe
      rw [hxe] at hxv
      have hcx := hxv.raw_inv
      obtain ⟨hb1, hb2⟩ := bounds_run (P := P) (w := w) hev hlo hhi hmx (len := 0) (kcap := 0) (cap := 0) true (Nat.le_refl _)
      cases amx with
      | none =>
        simp only [Option.map_none, Option.bind_eq_some_iff, Option.map_eq_some_iff] at hsl
        obtain ⟨hh, h1, ll, h2, rfl⟩ := hsl
        obtain ⟨h3, h4, h5⟩ := hb1 hh ll rfl h1 h2 (Nat.le_refl _)
        refine .v h (hrun _ _ _ _ _ _ hcx h3) ?_
        have e1 : hh - ll = 0 := by omega
        have e2 : 0 - ll = 0 := by omega
        rw [if_pos (by omega), e1, e2]
        exact .raw _
      | some am =>
        simp only [Option.map_some, Option.bind_eq_some_iff] at hsl
        obtain ⟨m, h1, hsl⟩ := hsl
        cases ahi with
        | none => cases hsl
        | some ah =>
          simp only [Option.map_some, Option.bind_eq_some_iff, Option.map_eq_some_iff] at hsl
          obtain ⟨hh, h2, ll, h3, rfl⟩ := hsl
          obtain ⟨h4, h5, h6, h7⟩ := hb2 am ah m hh ll rfl rfl h1 h2 h3
          refine .v h (hrun _ _ _ _ _ _ hcx h4) ?_
          have e1 : hh - ll = 0 := by omega
          have e2 : m - ll = 0 := by omega
          rw [if_pos (by omega), e1, e2]
          exact .raw _
    · cases hsl
  · rename_i hu
    cases amx with
    | some am => cases hc
    | none =>
      obtain ⟨ax, hx, rfl⟩ := Option.map_eq_some_iff.1 hc
      have hxv := hev _ _ hx
      simp only [aOp, Option.map_eq_some_iff] at ha
      obtain ⟨_, hsl, heq⟩ := ha
      cases heq
      unfold aSliceStr at hsl
      split at hsl
      · rename_i s hxe
        rw [hxe] at hxv
        have hcx := hxv.raw_inv
        simp only [Option.bind_eq_some_iff, Option.map_eq_some_iff] at hsl
        obtain ⟨hh, h1, ll, h2, rfl⟩ := hsl
        have hsz : s.data.toList.length = s.size := rfl
        rw [hsz] at h1
        obtain ⟨hb1, _⟩ := bounds_run (P := P) (w := w) hev hlo hhi hmx (len := s.size) (kcap := s.size) (cap := s.size) false (Nat.le_refl _)
        obtain ⟨h3, h4, h5⟩ := hb1 hh ll rfl h1 h2 (Nat.le_refl _)
        rcases cOpdO_some hmx with ⟨rfl, _⟩ | ⟨y, ay, rfl, h, _⟩
        · refine .v h (cv := .string (s.extract ll hh)) ?_ ?_
          · simp only [Instr.sliceAt, Sem.run_bind, run_underlying' hu, Result.andThen_ok, Instr.slice, hcx, Option.map_none, Option.isSome_none, Bool.false_eq_true, if_false, Sem.run_pure]
            simp only [Option.map_none] at h3
            rw [h3]
            simp only [Result.andThen_ok]
          · have : s.extract ll hh = ⟨((s.data.toList.drop ll).take (hh - ll)).toArray⟩ := by
              apply ByteArray.ext
              apply Array.ext'
              simp [ByteArray.data_extract, List.extract]
            rw [this]
            exact .raw _
        · cases h
      · cases hsl
  · cases hc

end Go.Vm
