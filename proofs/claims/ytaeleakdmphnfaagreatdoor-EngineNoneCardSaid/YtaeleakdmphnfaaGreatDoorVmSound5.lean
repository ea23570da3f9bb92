/- The abstract machine, part 9: the operations are sound (slicing, new slices, conversions, small ones). -/
import Derived.Test.YtaeleakdmphnfaaGreatDoorVmSound4
namespace Go.Vm
open Go

set_option linter.unusedVariables false
set_option linter.unusedSimpArgs false

variable {P : Program} {B : Base} {ρ ρ' : Ren} {H H' : AHeap} {w w' : World} {tm : List AVal} {ce : Operand → Value} {o : Oper} {av : AVal} {ao : AOp}

theorem aBound_run {x : AVal} {cx : Value} {top n : Nat} (h : aBound x top = some n) (hx : VRel ρ x cx) : n ≤ top ∧ ∀ y code, top ≤ y → (Instr.sliceBound cx y code).run P w = .ok n w := by
  unfold aBound at h
  split at h
  · rename_i k i
    split at h
    · rename_i hb
      cases h
      have hb' : 0 ≤ i ∧ i ≤ (top : Int) := by simpa [ile_eq] using hb
      refine ⟨by omega, fun y code hy => ?_⟩
      rw [hx.raw_inv]
      simp only [Instr.sliceBound, asIntOf, Sem.run_bind, Sem.run_pure, Result.andThen_ok]
      rw [if_pos (by omega)]
      rfl
    · cases h
  · cases h

/-- The bounds of a slicing: 'cap' is the true capacity. -/
theorem bounds_run (hev : EvOk ρ tm ce) {lo hi mx : Option Operand} {alo ahi amx : Option AOpd} (hlo : cOpdO lo = some alo) (hhi : cOpdO hi = some ahi) (hmx : cOpdO mx = some amx)
    {len kcap cap : Nat} (isS : Bool) (hk : kcap ≤ cap) :
    (∀ h l, amx = none → aBoundO (ahi.map (ev tm)) len kcap = some h → aBoundO (alo.map (ev tm)) 0 h = some l → len ≤ kcap →
      (Instr.sliceBounds isS len cap (lo.map ce) (hi.map ce) (mx.map ce)).run P w = .ok (l, h, cap) w ∧ l ≤ h ∧ h ≤ kcap) ∧
    (∀ am ah m h l, amx = some am → ahi = some ah → aBound (ev tm am) kcap = some m → aBound (ev tm ah) m = some h → aBoundO (alo.map (ev tm)) 0 h = some l →
      (Instr.sliceBounds isS len cap (lo.map ce) (hi.map ce) (mx.map ce)).run P w = .ok (l, h, m) w ∧ l ≤ h ∧ h ≤ m ∧ m ≤ kcap) := by
  have low : ∀ (h l : Nat) (code : BoundsCode) (K : Nat → Sem (Nat × Nat × Nat)), aBoundO (alo.map (ev tm)) 0 h = some l →
      (match lo.map ce with | some v => do let l ← Instr.sliceBound v h code; K l | none => do let l ← pure 0; K l : Sem (Nat × Nat × Nat)).run P w = (K l).run P w ∧ l ≤ h := fun h l code K hl => by
    rcases cOpdO_some hlo with ⟨rfl, rfl⟩ | ⟨y, ay, rfl, rfl, hy⟩
    · simp [aBoundO] at hl; subst hl; exact ⟨by simp, Nat.zero_le _⟩
    · simp only [Option.map_some, aBoundO] at hl
      obtain ⟨h1, h2⟩ := aBound_run (P := P) (w := w) hl (hev _ _ hy)
      refine ⟨?_, h1⟩
      simp only [Option.map_some, Sem.run_bind]
      rw [h2 _ _ (Nat.le_refl _)]
      rfl
  constructor
  · intro h l hm hh hl hle
    rcases cOpdO_some hmx with ⟨rfl, rfl⟩ | ⟨y, ay, rfl, rfl, hy⟩
    · rcases cOpdO_some hhi with ⟨rfl, rfl⟩ | ⟨y, ay, rfl, rfl, hy⟩
      · simp [aBoundO] at hh; subst hh
        obtain ⟨h1, h2⟩ := low _ _ (if (none : Option Value).isSome then .slice3C else .sliceB) (fun l => pure (l, _, _)) hl
        refine ⟨?_, h2, hle⟩
        simp only [Instr.sliceBounds, Option.map_none, Sem.run_bind, Sem.run_pure, Result.andThen_ok]
        exact h1
      · simp only [Option.map_some, aBoundO] at hh
        obtain ⟨h3, h4⟩ := aBound_run (P := P) (w := w) hh (hev _ _ hy)
        obtain ⟨h1, h2⟩ := low _ _ (if (none : Option Value).isSome then .slice3C else .sliceB) (fun l => pure (l, _, _)) hl
        refine ⟨?_, h2, h3⟩
        simp only [Instr.sliceBounds, Option.map_none, Option.map_some, Sem.run_bind, Sem.run_pure, Result.andThen_ok]
        rw [h4 _ _ hk]
        simp only [Result.andThen_ok]
        exact h1
    · cases hm
  · intro am ah m h l e1 e2 hm hh hl
    rcases cOpdO_some hmx with ⟨rfl, rfl⟩ | ⟨y, ay, rfl, rfl, hy⟩
    · cases e1
    · cases e1
      rcases cOpdO_some hhi with ⟨rfl, rfl⟩ | ⟨z, az, rfl, rfl, hz⟩
      · cases e2
      · cases e2
        obtain ⟨h3, h4⟩ := aBound_run (P := P) (w := w) hm (hev _ _ hy)
        obtain ⟨h5, h6⟩ := aBound_run (P := P) (w := w) hh (hev _ _ hz)
        obtain ⟨h1, h2⟩ := low _ _ (if (some (ce y)).isSome then .slice3C else .sliceB) (fun l => pure (l, _, _)) hl
        refine ⟨?_, h2, h5, h3⟩
        simp only [Instr.sliceBounds, Option.map_some, Sem.run_bind, Sem.run_pure, Result.andThen_ok]
        rw [h4 _ _ hk]
        simp only [Result.andThen_ok]
        rw [h6 _ _ (Nat.le_refl _)]
        simp only [Result.andThen_ok]
        exact h1

theorem opt_if {c : Prop} [Decidable c] (a : Addr) (f : Addr → Addr) : (if c then some a else Option.map f (some a)) = some (if c then a else f a) := by split <;> rfl

/-- The slice that a slicing leaves: from 'l' on, 'h - l' long, with room 'm - l'. -/
theorem slice_at {A ver off esz : Nat} {l : Loc} {lo h kc cap : Nat} {ex : Bool} (hl : ρ A ver = some l) (hlh : lo ≤ h) (hk : kc ≤ cap) (hle : h ≤ kc) (he : ex = true → cap = kc) (hn : l.s + off + cap * esz ≤ l.n) :
    VRel ρ (.slice A ver (off + lo * esz) (h - lo) (kc - lo) ex esz) (.slice (some (if cap = lo then ⟨l.c, l.s + off, none⟩ else (⟨l.c, l.s + off, none⟩ : Addr).add (lo * esz))) (h - lo) (cap - lo)) := by
  by_cases e : cap = lo
  · have e1 : h - lo = 0 := by omega
    have e2 : kc - lo = 0 := by omega
    have e3 : cap - lo = 0 := by omega
    rw [if_pos e, e1, e2, e3]
    exact .sliceE hl
  · rw [if_neg e, add_none, Nat.add_assoc]
    refine .slice hl (by omega) (by omega) (fun hx => by have := he hx; omega) ?_
    have : (cap - lo) * esz = cap * esz - lo * esz := Nat.sub_mul _ _ _
    have : lo * esz ≤ cap * esz := Nat.mul_le_mul_right _ (by omega)
    omega

theorem op_slice (h : HRel P B ρ H w) (hev : EvOk ρ tm ce) {t : TypeId} {x : Operand} {lo hi mx : Option Operand} (hop : o.op = .slice t x lo hi mx) (hc : cOp P o.op = some ao) (ha : aOp tm ao H = some (av, H')) :
    OpRes .quiet P B ρ H w (execOp ce o) av H' := by
  rw [hop] at hc
  simp only [cOp, Option.bind_eq_some_iff] at hc
  obtain ⟨alo, hlo, ahi, hhi, amx, hmx, hc⟩ := hc
  have he : execOp ce o = (do Pure.pure (.value (← Instr.sliceAt t (ce x) (lo.map ce) (hi.map ce) (mx.map ce)))) := by simp [execOp, hop]
  rw [he]
  split at hc
  · rename_i n e hu
    simp only [Option.bind_eq_some_iff, Option.map_eq_some_iff] at hc
    obtain ⟨s, hs, ax, hx, rfl⟩ := hc
    have hxv := hev _ _ hx
    simp only [aOp, Option.map_eq_some_iff] at ha
    obtain ⟨_, hsl, heq⟩ := ha
    cases heq
    unfold aSliceA at hsl
    split at hsl
    · rename_i A ver off hxe
      rw [hxe] at hxv
      obtain ⟨l, hl, hcx⟩ := hxv.ptr_inv
      obtain ⟨cells, hr, hsl⟩ := Option.bind_eq_some_iff.1 hsl
      split at hsl
      · rename_i hfit
        obtain ⟨arr, e', fz, ha', hn', hcs⟩ := h.rowAt hr hl
        have hroom : l.s + off + n * s ≤ l.n := by
          obtain ⟨cv, h1, _⟩ := hcs (off + n * s - 1) _ (List.getElem?_eq_getElem (by omega))
          have := (Array.getElem?_eq_some_iff.1 h1).1
          omega
        obtain ⟨hb1, hb2⟩ := bounds_run (P := P) (w := w) hev hlo hhi hmx (len := n) (kcap := n) (cap := n) false (Nat.le_refl _)
        cases amx with
        | none =>
          simp only [Option.map_none, Option.bind_eq_some_iff, Option.map_eq_some_iff] at hsl
          obtain ⟨hh, h1, ll, h2, rfl⟩ := hsl
          obtain ⟨h3, h4, h5⟩ := hb1 hh ll rfl h1 h2 (Nat.le_refl _)
          refine .v h ?_ (slice_at (ex := true) hl h4 (Nat.le_refl _) h5 (fun _ => rfl) hroom)
          simp only [Instr.sliceAt, Sem.run_bind, run_underlying' hu, Result.andThen_ok, hcx, Instr.sureAddr, Sem.run_pure]
          rw [h3]
          simp only [Result.andThen_ok, run_sizeOf' hs]
        | some am =>
          simp only [Option.map_some, Option.bind_eq_some_iff] at hsl
          obtain ⟨m, h1, hsl⟩ := hsl
          cases ahi with
          | none => cases hsl
          | some ah =>
            simp only [Option.map_some, Option.bind_eq_some_iff, Option.map_eq_some_iff] at hsl
            obtain ⟨hh, h2, ll, h3, rfl⟩ := hsl
            obtain ⟨h4, h5, h6, h7⟩ := hb2 am ah m hh ll rfl rfl h1 h2 h3
            have hms : m * s ≤ n * s := Nat.mul_le_mul_right _ h7
            refine .v h ?_ (slice_at (ex := true) hl h5 (Nat.le_refl m) h6 (fun _ => rfl) (by omega))
            simp only [Instr.sliceAt, Sem.run_bind, run_underlying' hu, Result.andThen_ok, hcx, Instr.sureAddr, Sem.run_pure]
            rw [h4]
            simp only [Result.andThen_ok, run_sizeOf' hs]
      · cases hsl
    · cases hsl
  · rename_i e hu
    simp only [Option.bind_eq_some_iff, Option.map_eq_some_iff] at hc
    obtain ⟨s, hs, ax, hx, rfl⟩ := hc
    have hxv := hev _ _ hx
    simp only [aOp, Option.map_eq_some_iff] at ha
    obtain ⟨_, hsl, heq⟩ := ha
    cases heq
    have hrun : ∀ (a : Option Addr) (len cap l hh m : Nat), ce x = .slice a len cap → (Instr.sliceBounds true len cap (lo.map ce) (hi.map ce) (mx.map ce)).run P w = .ok (l, hh, m) w →
        (Instr.sliceAt t (ce x) (lo.map ce) (hi.map ce) (mx.map ce)).run P w = .ok (.slice (if m = l then a else a.map (·.add (l * s))) (hh - l) (m - l)) w := fun a len cap l hh m hcx hb => by
      simp only [Instr.sliceAt, Sem.run_bind, run_underlying' hu, Result.andThen_ok, Instr.slice, hcx]
      rw [hb]
      simp only [Result.andThen_ok, run_sizeOf' hs, Sem.run_pure]
    unfold aSliceS at hsl
    split at hsl
    · rename_i A ver off len kcap ex esz hxe
      split at hsl
      · rename_i hes
        subst hes
        rw [hxe] at hxv
        obtain ⟨l, a, cap, hl, hcx, hk, hlen, hex, hor⟩ := hxv.slice_inv
        obtain ⟨hb1, hb2⟩ := bounds_run (P := P) (w := w) hev hlo hhi hmx (len := len) (kcap := kcap) (cap := cap) true hk
        cases amx with
        | none =>
          simp only [Option.map_none, Option.bind_eq_some_iff, Option.map_eq_some_iff] at hsl
          obtain ⟨hh, h1, ll, h2, rfl⟩ := hsl
          obtain ⟨h3, h4, h5⟩ := hb1 hh ll rfl h1 h2 hlen
          refine .v h (hrun _ _ _ _ _ _ hcx h3) ?_
          rcases hor with ⟨rfl, hn⟩ | ⟨h6, h7, h8⟩
          · have := slice_at (ex := ex) hl h4 hk h5 hex hn
            rw [opt_if]
            exact this
          · have e1 : hh - ll = 0 := by omega
            have e2 : kcap - ll = 0 := by omega
            have e3 : cap - ll = 0 := by omega
            rw [if_pos (by omega), e1, e2, e3]
            exact .sliceE hl
        | some am =>
          simp only [Option.map_some, Option.bind_eq_some_iff] at hsl
          obtain ⟨m, h1, hsl⟩ := hsl
          cases ahi with
          | none => cases hsl
          | some ah =>
            simp only [Option.map_some, Option.bind_eq_some_iff, Option.map_eq_some_iff] at hsl
            obtain ⟨hh, h2, ll, h3, rfl⟩ := hsl
            obtain ⟨h4, h5, h6, h7⟩ := hb2 am ah m hh ll rfl rfl h1 h2 h3
            refine .v h (hrun _ _ _ _ _ _ hcx h4) ?_
            rcases hor with ⟨rfl, hn⟩ | ⟨h8, h9, h10⟩
            · have hms : m * esz ≤ cap * esz := Nat.mul_le_mul_right _ (by omega)
              have := slice_at (ex := true) (off := off) (cap := m) (esz := esz) (lo := ll) hl h5 (Nat.le_refl m) h6 (fun _ => rfl) (by omega)
              rw [opt_if]
              exact this
            · have e1 : hh - ll = 0 := by omega
              have e3 : m - ll = 0 := by omega
              rw [if_pos (by omega), e1, e3]
              exact .sliceE hl
      · cases hsl
    · rename_i hxe
      rw [hxe] at hxv
      have hcx := hxv.raw_inv
      obtain ⟨hb1, hb2⟩ := bounds_run (P := P) (w := w) hev hlo hhi hmx (len := 0) (kcap := 0) (cap := 0) true (Nat.le_refl _)
      cases amx with
      | none =>
        simp only [Option.map_none, Option.bind_eq_some_iff, Option.map_eq_some_iff] at hsl
        obtain ⟨hh, h1, ll, h2, rfl⟩ := hsl
        obtain ⟨h3, h4, h5⟩ := hb1 hh ll rfl h1 h2 (Nat.le_refl _)
        refine .v h (hrun _ _ _ _ _ _ hcx h3) ?_
        have e1 : hh - ll = 0 := by omega
        have e2 : 0 - ll = 0 := by omega
        rw [if_pos (by omega), e1, e2]
        exact .raw _
      | some am =>
        simp only [Option.map_some, Option.bind_eq_some_iff] at hsl
        obtain ⟨m, h1, hsl⟩ := hsl
        cases ahi with
        | none => cases hsl
        | some ah =>
          simp only [Option.map_some, Option.bind_eq_some_iff, Option.map_eq_some_iff] at hsl
          obtain ⟨hh, h2, ll, h3, rfl⟩ := hsl
          obtain ⟨h4, h5, h6, h7⟩ := hb2 am ah m hh ll rfl rfl h1 h2 h3
          refine .v h (hrun _ _ _ _ _ _ hcx h4) ?_
          have e1 : hh - ll = 0 := by omega
          have e2 : m - ll = 0 := by omega
          rw [if_pos (by omega), e1, e2]
          exact .raw _
    · cases hsl
  · rename_i hu
    cases amx with
    | some am => cases hc
    | none =>
      obtain ⟨ax, hx, rfl⟩ := Option.map_eq_some_iff.1 hc
      have hxv := hev _ _ hx
      simp only [aOp, Option.map_eq_some_iff] at ha
      obtain ⟨_, hsl, heq⟩ := ha
      cases heq
      unfold aSliceStr at hsl
      split at hsl
      · rename_i s hxe
        rw [hxe] at hxv
        have hcx := hxv.raw_inv
        simp only [Option.bind_eq_some_iff, Option.map_eq_some_iff] at hsl
        obtain ⟨hh, h1, ll, h2, rfl⟩ := hsl
        have hsz : s.data.toList.length = s.size := rfl
        rw [hsz] at h1
        obtain ⟨hb1, _⟩ := bounds_run (P := P) (w := w) hev hlo hhi hmx (len := s.size) (kcap := s.size) (cap := s.size) false (Nat.le_refl _)
        obtain ⟨h3, h4, h5⟩ := hb1 hh ll rfl h1 h2 (Nat.le_refl _)
        rcases cOpdO_some hmx with ⟨rfl, _⟩ | ⟨y, ay, rfl, h, _⟩
        · refine .v h (cv := .string (s.extract ll hh)) ?_ ?_
          · simp only [Instr.sliceAt, Sem.run_bind, run_underlying' hu, Result.andThen_ok, Instr.slice, hcx, Option.map_none, Option.isSome_none, Bool.false_eq_true, if_false, Sem.run_pure]
            simp only [Option.map_none] at h3
            rw [h3]
            simp only [Result.andThen_ok]
          · have : s.extract ll hh = ⟨((s.data.toList.drop ll).take (hh - ll)).toArray⟩ := by
              apply ByteArray.ext
              apply Array.ext'
              simp [ByteArray.data_extract, List.extract]
            rw [this]
            exact .raw _
        · cases h
      · cases hsl
  · cases hc

end Go.Vm
