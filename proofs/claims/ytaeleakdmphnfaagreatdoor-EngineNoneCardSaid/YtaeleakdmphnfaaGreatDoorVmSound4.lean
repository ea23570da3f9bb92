/- The abstract machine, part 8: the operations are sound (cells, addresses, indices, slicing). -/
import Derived.Test.YtaeleakdmphnfaaGreatDoorVmSound3
namespace Go.Vm
open Go

set_option linter.unusedVariables false
set_option linter.unusedSimpArgs false

variable {P : Program} {B : Base} {ρ ρ' : Ren} {H H' : AHeap} {w w' : World} {tm : List AVal} {ce : Operand → Value} {o : Oper} {av : AVal} {ao : AOp}

theorem aLoadG_row : ∀ {tab : List (Nat × List Value)} {g o n : Nat} {agg : Bool} {v : AVal}, aLoadG tab g o agg n = some v → (∀ x ∈ tab, ∃ e fz, w.heap[x.1]? = some (.cells x.2.toArray e fz)) →
    ∃ (cells : List AVal) (l : Loc), l.c = g ∧ l.s = 0 ∧ RowAt ρ w l cells ∧ (if o + n ≤ cells.length then aPart agg cells o n else none) = some v
  | [], g, o, n, agg, v, h, _ => by cases h
  | (g', vs) :: r, g, o, n, agg, v, h, hh => by
    unfold aLoadG at h
    split at h
    · rename_i e; subst e
      obtain ⟨e, fz, hw⟩ := hh (g', vs) (List.mem_cons_self ..)
      refine ⟨vs.map .raw, ⟨g', 0, vs.length⟩, rfl, rfl, ⟨vs.toArray, e, fz, hw, by simp, fun i v hv => ?_⟩, by rw [List.length_map]; exact h⟩
      rw [List.getElem?_map] at hv
      obtain ⟨c, h1, rfl⟩ := Option.map_eq_some_iff.1 hv
      exact ⟨c, by simpa using h1, .raw c⟩
    · exact aLoadG_row h fun x hx => hh x (List.mem_cons_of_mem _ hx)

theorem load_row (h : HRel P B ρ H w) {t : TypeId} {x : Operand} {d : TypeDesc} {m : Nat} (hd : P.underlying t = some d) (hm : szOf P t = some m) {cells : List AVal} {l : Loc} {off : Nat} (hrow : RowAt ρ w l cells) (hcx : ce x = .pointer (some ⟨l.c, l.s + off, none⟩))
    (hif : (if off + (if isAggD d = true then m else 1) ≤ cells.length then aPart (isAggD d) cells off (if isAggD d = true then m else 1) else none) = some av) : OpRes .quiet P B ρ H w (do Pure.pure (.value (← Instr.loadAt t (ce x)))) av H := by
  unfold aPart at hif
  cases hagg : isAggD d with
  | true =>
    simp only [hagg, if_true] at hif
    split at hif
    · rename_i hfit
      cases hif
      obtain ⟨cvs, h1, h2⟩ := run_loadCells_rel (P := P) hrow hfit
      refine .v h (cv := .agg cvs.toArray) ?_ (.agg h2)
      simp [Instr.loadAt, hcx, Instr.sureAddr, loadVar, run_isAgg' hd, hagg, run_sizeOf' hm, h1]
    · cases hif
  | false =>
    simp only [hagg, Bool.false_eq_true, if_false] at hif
    split at hif
    · obtain ⟨cv, h1, h2⟩ := run_load_rel (P := P) hrow hif
      refine .v h (cv := cv) ?_ h2
      simp only [Instr.loadAt, hcx, Instr.sureAddr, loadVar, Sem.run_bind, Sem.run_pure, Result.andThen_ok, run_isAgg' hd, hagg, Bool.false_eq_true, if_false, h1]
    · cases hif

theorem op_load (h : HRel P B ρ H w) (hev : EvOk ρ tm ce) {t : TypeId} {x : Operand} (hop : o.op = .load t x) (hc : cOp P o.op = some ao) (ha : aOp tm ao H = some (av, H')) : OpRes .quiet P B ρ H w (execOp ce o) av H' := by
  rw [hop] at hc
  simp only [cOp, Option.bind_eq_some_iff, Option.map_eq_some_iff] at hc
  obtain ⟨⟨a, n⟩, hp, ax, hx, rfl⟩ := hc
  obtain ⟨d, m, hd, hm, rfl, rfl⟩ := partSz_some hp
  have he : execOp ce o = (do Pure.pure (.value (← Instr.loadAt t (ce x)))) := by simp [execOp, hop]
  rw [he]
  simp only [aOp] at ha
  have hxv := hev _ _ hx
  split at ha
  · rename_i A ver off hxe
    simp only [Option.map_eq_some_iff, Option.bind_eq_some_iff] at ha
    obtain ⟨_, ⟨cells, hr, hif⟩, heq⟩ := ha
    cases heq
    rw [hxe] at hxv
    obtain ⟨l, hl, hcx⟩ := hxv.ptr_inv
    exact load_row h hd hm (h.rowAt hr hl) hcx hif
  · rename_i g off hxe
    obtain ⟨_, hif, heq⟩ := Option.map_eq_some_iff.1 ha
    cases heq
    rw [hxe] at hxv
    have hcx := hxv.raw_inv
    obtain ⟨cells, l, hlc, hls, hrow, hif⟩ := aLoadG_row (ρ := ρ) (w := w) hif h.held
    exact load_row h hd hm hrow (by rw [hcx, hlc, hls, Nat.zero_add]) hif
  · cases ha

theorem op_store (h : HRel P B ρ H w) (hev : EvOk ρ tm ce) {t : TypeId} {a x : Operand} (hop : o.op = .store t a x) (hc : cOp P o.op = some ao) (ha : aOp tm ao H = some (av, H')) : OpRes .any P B ρ H w (execOp ce o) av H' := by
  rw [hop] at hc
  simp only [cOp, Option.bind_eq_some_iff, Option.map_eq_some_iff] at hc
  obtain ⟨n, hn, aa, haa, ax, hx, rfl⟩ := hc
  have he : execOp ce o = (do Instr.storeAt t (ce a) (ce x); Pure.pure .skip) := by simp [execOp, hop]
  rw [he]
  simp only [aOp] at ha
  split at ha
  · rename_i A ver off hae
    split at ha
    · rename_i hlen
      obtain ⟨H'', hw, heq⟩ := Option.map_eq_some_iff.1 ha
      cases heq
      have hav := hev _ _ haa
      rw [hae] at hav
      obtain ⟨l, hl, hca⟩ := hav.ptr_inv
      have hcells := (hev _ _ hx).cells
      obtain ⟨w', h1, h2⟩ := h.write hw hl hcells
      refine .uw ?_ h2 (Ren.le_refl _)
      have hcl := hcells.length
      simp only [Instr.storeAt, hca, Instr.sureAddr, Sem.run_bind, Sem.run_pure, Result.andThen_ok, storeVar, run_sizeOf' hn]
      rw [if_neg (by simp at hcl; omega)]
      exact h1
    · cases ha
  · cases ha

theorem op_nilCheck (h : HRel P B ρ H w) (hev : EvOk ρ tm ce) {x : Operand} (hop : o.op = .nilCheck x) (hc : cOp P o.op = some ao) (ha : aOp tm ao H = some (av, H')) : OpRes .quiet P B ρ H w (execOp ce o) av H' := by
  rw [hop] at hc
  simp only [cOp, Option.map_eq_some_iff] at hc
  obtain ⟨ax, hx, rfl⟩ := hc
  have hxv := hev _ _ hx
  simp only [aOp] at ha
  split at ha
  · rename_i hxe
    cases ha
    rw [hxe] at hxv
    obtain ⟨l, hl, hcx⟩ := hxv.ptr_inv
    exact .pure h (cv := ce x) (by simp [execOp, hop, hcx]) hxv
  · rename_i fn cs hxe
    cases ha
    rw [hxe] at hxv
    obtain ⟨vs, hvs, hcx⟩ := hxv.func_inv
    refine .pure h (cv := ce x) ?_ hxv
    rw [hcx]
    cases fn <;> simp [execOp, hop, hcx]
  · rename_i hxe
    cases ha
    rw [hxe] at hxv
    obtain ⟨vs, hvs, hcx⟩ := hxv.bound_inv
    exact .pure h (cv := ce x) (by simp [execOp, hop, hcx]) hxv
  · rename_i hxe
    cases ha
    rw [hxe] at hxv
    obtain ⟨l, hl, hcx⟩ := hxv.yield_inv
    exact .pure h (cv := ce x) (by simp [execOp, hop, hcx]) hxv
  · rename_i hxe
    cases ha
    rw [hxe] at hxv
    obtain ⟨l, hl, hcx⟩ := hxv.map_inv
    exact .pure h (cv := ce x) (by simp [execOp, hop, hcx]) hxv
  · cases ha

theorem op_un (h : HRel P B ρ H w) (hev : EvOk ρ tm ce) {op : UnOp} {t : TypeId} {x : Operand} (hop : o.op = .unOp op t x) (hc : cOp P o.op = some ao) (ha : aOp tm ao H = some (av, H')) : OpRes .quiet P B ρ H w (execOp ce o) av H' := by
  rw [hop] at hc
  simp only [cOp, Option.map_eq_some_iff] at hc
  obtain ⟨ax, hx, rfl⟩ := hc
  have hxv := hev _ _ hx
  have he : execOp ce o = (do Pure.pure (.value (← Op.unary op (ce x)))) := by simp [execOp, hop]
  rw [he]
  simp only [aOp, Option.map_eq_some_iff] at ha
  obtain ⟨_, hu, heq⟩ := ha
  cases heq
  unfold aUn at hu
  split at hu
  · rename_i k n hxe
    cases hu
    rw [hxe] at hxv
    exact .v h (cv := .int k (wrapF k (0 - n))) (by rw [hxv.raw_inv]; simp [Op.unary, Op.intArith, wrapF_eq]) (.raw _)
  · rename_i k n hxe
    obtain ⟨m, hm, rfl⟩ := Option.map_eq_some_iff.1 hu
    rw [hxe] at hxv
    exact .v h (by rw [hxv.raw_inv]; simp only [Op.unary]; exact aBits_some hm) (.raw _)
  · rename_i b hxe
    cases hu
    rw [hxe] at hxv
    exact .v h (cv := .bool !b) (by rw [hxv.raw_inv]; simp [Op.unary]) (.raw _)
  · cases hu

theorem op_ptrAdd (h : HRel P B ρ H w) (hev : EvOk ρ tm ce) {s : TypeId} {x : Operand} {f : Nat} (hop : o.op = .fieldAddr s x f) (hc : cOp P o.op = some ao) (ha : aOp tm ao H = some (av, H')) : OpRes .quiet P B ρ H w (execOp ce o) av H' := by
  rw [hop] at hc
  simp only [cOp] at hc
  split at hc
  · rename_i fs hu
    simp only [Option.bind_eq_some_iff] at hc
    obtain ⟨fd, hf, n, hn, hc⟩ := hc
    split at hc
    · cases hc
    · rename_i hn0
      obtain ⟨ax, hx, rfl⟩ := Option.map_eq_some_iff.1 hc
      have hxv := hev _ _ hx
      have he : execOp ce o = (do Pure.pure (.value (← Instr.fieldAt s (ce x) f))) := by simp [execOp, hop]
      rw [he]
      simp only [aOp] at ha
      split at ha
      · rename_i A v off hxe
        cases ha
        rw [hxe] at hxv
        obtain ⟨l, hl, hcx⟩ := hxv.ptr_inv
        refine .v h (cv := .pointer (some ⟨l.c, l.s + off + fd.offset, none⟩)) ?_ (by rw [Nat.add_assoc]; exact .ptr hl)
        simp [Instr.fieldAt, run_underlying' hu, hf, hcx, Instr.sureAddr, fieldPlace, run_sizeOf' hn, hn0, add_none]
      · cases ha
  · cases hc

theorem op_field (h : HRel P B ρ H w) (hev : EvOk ρ tm ce) {s : TypeId} {x : Operand} {f : Nat} (hop : o.op = .field s x f) (hc : cOp P o.op = some ao) (ha : aOp tm ao H = some (av, H')) : OpRes .quiet P B ρ H w (execOp ce o) av H' := by
  rw [hop] at hc
  simp only [cOp] at hc
  split at hc
  · rename_i fs hu
    simp only [Option.bind_eq_some_iff, Option.map_eq_some_iff] at hc
    obtain ⟨fd, hf, ⟨a, n⟩, hp, ax, hx, rfl⟩ := hc
    have hxv := hev _ _ hx
    have he : execOp ce o = (do Pure.pure (.value (← Instr.field s (ce x) f))) := by simp [execOp, hop]
    rw [he]
    simp only [aOp] at ha
    split at ha
    · rename_i cs hxe
      obtain ⟨_, hpart, heq⟩ := Option.map_eq_some_iff.1 ha
      cases heq
      rw [hxe] at hxv
      obtain ⟨vs, hvs, hcx⟩ := hxv.agg_inv
      obtain ⟨cv, h1, h2⟩ := run_part (P := P) (w := w) hp hvs hpart
      refine .v h (cv := cv) ?_ h2
      simp only [Instr.field, Sem.run_bind, run_underlying' hu, Result.andThen_ok, hf, hcx, asAgg, Sem.run_pure, h1]
    · cases ha
  · cases hc

theorem idx_ok {i : Int} {len : Nat} (h : (ile 0 i && ilt i len) = true) : 0 ≤ i ∧ i < (len : Int) := by
  simpa [ile_eq, ilt_eq] using h

theorem op_idxAddr (h : HRel P B ρ H w) (hev : EvOk ρ tm ce) {t : TypeId} {x i : Operand} (hop : o.op = .indexAddr t x i) (hc : cOp P o.op = some ao) (ha : aOp tm ao H = some (av, H')) : OpRes .quiet P B ρ H w (execOp ce o) av H' := by
  rw [hop] at hc
  simp only [cOp] at hc
  have he : execOp ce o = (do Pure.pure (.value (← Instr.indexAt t (ce x) (ce i)))) := by simp [execOp, hop]
  rw [he]
  split at hc
  · rename_i len e hu
    simp only [Option.bind_eq_some_iff, Option.map_eq_some_iff] at hc
    obtain ⟨n, hn, ax, hx, ai, hi, rfl⟩ := hc
    have hxv := hev _ _ hx
    have hiv := hev _ _ hi
    simp only [aOp] at ha
    split at ha
    · rename_i A v off k j hxe hie
      split at ha
      · rename_i hb
        cases ha
        rw [hxe] at hxv
        rw [hie] at hiv
        obtain ⟨l, hl, hcx⟩ := hxv.ptr_inv
        have hb' := idx_ok hb
        refine .v h (cv := .pointer (some ⟨l.c, l.s + off + j.toNat * n, none⟩)) ?_ (by rw [Nat.add_assoc]; exact .ptr hl)
        rw [hiv.raw_inv, hcx]
        simp only [Instr.indexAt, asIntOf, Sem.run_bind, Sem.run_pure, Result.andThen_ok, run_underlying' hu, Instr.sureAddr]
        rw [if_pos hb']
        simp [run_sizeOf' hn, add_none]
      · cases ha
    · rename_i g off k j hxe hie
      split at ha
      · rename_i hb
        cases ha
        rw [hxe] at hxv
        rw [hie] at hiv
        have hcx := hxv.raw_inv
        have hb' := idx_ok hb
        refine .v h (cv := .pointer (some ⟨g, off + j.toNat * n, none⟩)) ?_ (.raw _)
        rw [hiv.raw_inv, hcx]
        simp only [Instr.indexAt, asIntOf, Sem.run_bind, Sem.run_pure, Result.andThen_ok, run_underlying' hu, Instr.sureAddr]
        rw [if_pos hb']
        simp [run_sizeOf' hn, add_none]
      · cases ha
    · cases ha
  · rename_i e hu
    simp only [Option.bind_eq_some_iff, Option.map_eq_some_iff] at hc
    obtain ⟨n, hn, ax, hx, ai, hi, rfl⟩ := hc
    have hxv := hev _ _ hx
    have hiv := hev _ _ hi
    simp only [aOp] at ha
    split at ha
    · rename_i A v off len kcap ex esz k j hxe hie
      split at ha
      · rename_i hb
        cases ha
        rw [hxe] at hxv
        rw [hie] at hiv
        obtain ⟨l, a, cap, hl, hcx, hk, hlen, _, hor⟩ := hxv.slice_inv
        have hb' := idx_ok hb
        rcases hor with ⟨rfl, hn'⟩ | ⟨rfl, _, _⟩
        · refine .v h (cv := .pointer (some ⟨l.c, l.s + off + j.toNat * n, none⟩)) ?_ (by rw [Nat.add_assoc]; exact .ptr hl)
          rw [hiv.raw_inv, hcx]
          simp only [Instr.indexAt, asIntOf, Sem.run_bind, Sem.run_pure, Result.andThen_ok, run_underlying' hu]
          rw [if_pos hb']
          simp [run_sizeOf' hn, add_none]
        · omega
      · cases ha
    · cases ha
  · cases hc

theorem op_index (h : HRel P B ρ H w) (hev : EvOk ρ tm ce) {t : TypeId} {x i : Operand} (hop : o.op = .index t x i) (hc : cOp P o.op = some ao) (ha : aOp tm ao H = some (av, H')) : OpRes .quiet P B ρ H w (execOp ce o) av H' := by
  rw [hop] at hc
  simp only [cOp] at hc
  have he : execOp ce o = (do Pure.pure (.value (← Instr.index t (ce x) (ce i)))) := by simp [execOp, hop]
  rw [he]
  split at hc
  · rename_i len e hu
    simp only [Option.bind_eq_some_iff] at hc
    obtain ⟨⟨a, n⟩, hp, m, hm, hc⟩ := hc
    split at hc
    · rename_i hnm
      dsimp only at hnm
      subst hnm
      simp only [Option.bind_eq_some_iff, Option.map_eq_some_iff] at hc
      obtain ⟨ax, hx, ai, hi, rfl⟩ := hc
      have hxv := hev _ _ hx
      have hiv := hev _ _ hi
      simp only [aOp] at ha
      split at ha
      · rename_i cs k j hxe hie
        split at ha
        · rename_i hb
          obtain ⟨_, hpart, heq⟩ := Option.map_eq_some_iff.1 ha
          cases heq
          rw [hxe] at hxv
          rw [hie] at hiv
          obtain ⟨vs, hvs, hcx⟩ := hxv.agg_inv
          have hb' := idx_ok hb
          obtain ⟨cv, h1, h2⟩ := run_part (P := P) (w := w) hp hvs hpart
          refine .v h (cv := cv) ?_ h2
          rw [hiv.raw_inv, hcx]
          simp only [Instr.index, asIntOf, Sem.run_bind, Sem.run_pure, Result.andThen_ok, run_underlying' hu]
          rw [if_pos hb']
          simp only [Sem.run_bind, run_sizeOf' hm, Result.andThen_ok, h1]
        · cases ha
      · cases ha
    · cases hc
  · rename_i hu
    simp only [Option.bind_eq_some_iff, Option.map_eq_some_iff] at hc
    obtain ⟨ax, hx, ai, hi, rfl⟩ := hc
    have hxv := hev _ _ hx
    have hiv := hev _ _ hi
    simp only [aOp] at ha
    split at ha
    · rename_i s k j hxe hie
      split at ha
      · rename_i hb
        simp only [Option.map_eq_some_iff] at ha
        obtain ⟨_, ⟨b, hb2, rfl⟩, heq⟩ := ha
        cases heq
        rw [hxe] at hxv
        rw [hie] at hiv
        have hb' : 0 ≤ j := by simpa [ile_eq] using hb
        refine .v h (cv := .int .u8 b.toNat) ?_ (.raw _)
        rw [hiv.raw_inv, hxv.raw_inv]
        have hsb : s[j.toNat]? = some b := by
          obtain ⟨h1, h2⟩ := List.getElem?_eq_some_iff.1 hb2
          have h1' : j.toNat < s.size := h1
          rw [getElem?_pos s j.toNat h1']
          congr 1
        simp only [Instr.index, asIntOf, Sem.run_bind, Sem.run_pure, Result.andThen_ok, run_underlying' hu]
        rw [if_pos hb', hsb]
        rfl
      · cases ha
    · cases ha
  · cases hc

end Go.Vm
