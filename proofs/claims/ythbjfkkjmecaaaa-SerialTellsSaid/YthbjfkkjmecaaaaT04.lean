/- The abstract machine, part 9: the operations are sound (slicing, new slices, conversions, small ones). -/
import Derived.Test.YthbjfkkjmecaaaaT03
import Derived.Laws.StructEq
set_option linter.unusedVariables false
set_option linter.unusedSimpArgs false
namespace Go.Vm
open Go
variable {P : Program} {B : Base} {ρ ρ' : Ren} {H H' : AHeap} {w w' : World} {tm : List AVal} {ce : Operand → Value} {o : Oper} {av : AVal} {ao : AOp}
theorem aBound_run {x : AVal} {cx : Value} {top n : Nat} (h : aBound x top = some n) (hx : VRel ρ x cx) : n ≤ top ∧ ∀ y code, top ≤ y → (Instr.sliceBound cx y code).run P w = .ok n w := by
  unfold aBound at h
  split at h
  · rename_i k i
    split at h
    · rename_i hb
      cases h
      have hb' : 0 ≤ i ∧ i ≤ (top : Int) := by simpa [ile_eq] using hb
      refine ⟨by omega, fun y code hy => ?_⟩
      rw [hx.raw_inv]
      simp only [Instr.sliceBound, asIntOf, Sem.run_bind, Sem.run_pure, Result.andThen_ok]
      rw [if_pos (by omega)]
      rfl
    · cases h
  · cases h
theorem bounds_run (hev : EvOk ρ tm ce) {lo hi mx : Option Operand} {alo ahi amx : Option AOpd} (hlo : cOpdO lo = some alo) (hhi : cOpdO hi = some ahi) (hmx : cOpdO mx = some amx)
    {len kcap cap : Nat} (isS : Bool) (hk : kcap ≤ cap) :
    (∀ h l, amx = none → aBoundO (ahi.map (ev tm)) len kcap = some h → aBoundO (alo.map (ev tm)) 0 h = some l → len ≤ kcap →
      (Instr.sliceBounds isS len cap (lo.map ce) (hi.map ce) (mx.map ce)).run P w = .ok (l, h, cap) w ∧ l ≤ h ∧ h ≤ kcap) ∧
    (∀ am ah m h l, amx = some am → ahi = some ah → aBound (ev tm am) kcap = some m → aBound (ev tm ah) m = some h → aBoundO (alo.map (ev tm)) 0 h = some l →
      (Instr.sliceBounds isS len cap (lo.map ce) (hi.map ce) (mx.map ce)).run P w = .ok (l, h, m) w ∧ l ≤ h ∧ h ≤ m ∧ m ≤ kcap) := by
  have low : ∀ (h l : Nat) (code : BoundsCode) (K : Nat → Sem (Nat × Nat × Nat)), aBoundO (alo.map (ev tm)) 0 h = some l →
      (match lo.map ce with | some v => do let l ← Instr.sliceBound v h code; K l | none => do let l ← pure 0; K l : Sem (Nat × Nat × Nat)).run P w = (K l).run P w ∧ l ≤ h := fun h l code K hl => by
    rcases cOpdO_some hlo with ⟨rfl, rfl⟩ | ⟨y, ay, rfl, rfl, hy⟩
    · simp [aBoundO] at hl; subst hl; exact ⟨by simp, Nat.zero_le _⟩
    · simp only [Option.map_some, aBoundO] at hl
      obtain ⟨h1, h2⟩ := aBound_run (P := P) (w := w) hl (hev _ _ hy)
      refine ⟨?_, h1⟩
      simp only [Option.map_some, Sem.run_bind]
      rw [h2 _ _ (Nat.le_refl _)]
      rfl
  constructor
  · intro h l hm hh hl hle
    rcases cOpdO_some hmx with ⟨rfl, rfl⟩ | ⟨y, ay, rfl, rfl, hy⟩
    · rcases cOpdO_some hhi with ⟨rfl, rfl⟩ | ⟨y, ay, rfl, rfl, hy⟩
      · simp [aBoundO] at hh; subst hh
        obtain ⟨h1, h2⟩ := low _ _ (if (none : Option Value).isSome then .slice3C else .sliceB) (fun l => pure (l, _, _)) hl
        refine ⟨?_, h2, hle⟩
        simp only [Instr.sliceBounds, Option.map_none, Sem.run_bind, Sem.run_pure, Result.andThen_ok]
        exact h1
      · simp only [Option.map_some, aBoundO] at hh
        obtain ⟨h3, h4⟩ := aBound_run (P := P) (w := w) hh (hev _ _ hy)
        obtain ⟨h1, h2⟩ := low _ _ (if (none : Option Value).isSome then .slice3C else .sliceB) (fun l => pure (l, _, _)) hl
        refine ⟨?_, h2, h3⟩
        simp only [Instr.sliceBounds, Option.map_none, Option.map_some, Sem.run_bind, Sem.run_pure, Result.andThen_ok]
        rw [h4 _ _ hk]
        simp only [Result.andThen_ok]
        exact h1
    · cases hm
  · intro am ah m h l e1 e2 hm hh hl
    rcases cOpdO_some hmx with ⟨rfl, rfl⟩ | ⟨y, ay, rfl, rfl, hy⟩
    · cases e1
    · cases e1
      rcases cOpdO_some hhi with ⟨rfl, rfl⟩ | ⟨z, az, rfl, rfl, hz⟩
      · cases e2
      · cases e2
        obtain ⟨h3, h4⟩ := aBound_run (P := P) (w := w) hm (hev _ _ hy)
        obtain ⟨h5, h6⟩ := aBound_run (P := P) (w := w) hh (hev _ _ hz)
        obtain ⟨h1, h2⟩ := low _ _ (if (some (ce y)).isSome then .slice3C else .sliceB) (fun l => pure (l, _, _)) hl
        refine ⟨?_, h2, h5, h3⟩
        simp only [Instr.sliceBounds, Option.map_some, Sem.run_bind, Sem.run_pure, Result.andThen_ok]
        rw [h4 _ _ hk]
        simp only [Result.andThen_ok]
        rw [h6 _ _ (Nat.le_refl _)]
        simp only [Result.andThen_ok]
        exact h1
theorem opt_if {c : Prop} [Decidable c] (a : Addr) (f : Addr → Addr) : (if c then some a else Option.map f (some a)) = some (if c then a else f a) := by split <;> rfl
theorem slice_at {A ver off esz : Nat} {l : Loc} {lo h kc cap : Nat} {ex : Bool} (hl : ρ A ver = some l) (hlh : lo ≤ h) (hk : kc ≤ cap) (hle : h ≤ kc) (he : ex = true → cap = kc) (hn : l.s + off + cap * esz ≤ l.n) :
    VRel ρ (.slice A ver (off + lo * esz) (h - lo) (kc - lo) ex esz) (.slice (some (if cap = lo then ⟨l.c, l.s + off, none⟩ else (⟨l.c, l.s + off, none⟩ : Addr).add (lo * esz))) (h - lo) (cap - lo)) := by
  by_cases e : cap = lo
  · have e1 : h - lo = 0 := by omega
    have e2 : kc - lo = 0 := by omega
    have e3 : cap - lo = 0 := by omega
    rw [if_pos e, e1, e2, e3]
    exact .sliceE hl
  · rw [if_neg e, add_none, Nat.add_assoc]
    refine .slice hl (by omega) (by omega) (fun hx => by have := he hx; omega) ?_
    have : (cap - lo) * esz = cap * esz - lo * esz := Nat.sub_mul _ _ _
    have : lo * esz ≤ cap * esz := Nat.mul_le_mul_right _ (by omega)
    omega
theorem op_slice (h : HRel P B ρ H w) (hev : EvOk ρ tm ce) {t : TypeId} {x : Operand} {lo hi mx : Option Operand} (hop : o.op = .slice t x lo hi mx) (hc : cOp P o.op = some ao) (ha : aOp tm ao H = some (av, H')) :
    OpRes .quiet P B ρ H w (execOp ce o) av H' := by
  rw [hop] at hc
  simp only [cOp, Option.bind_eq_some_iff] at hc
  obtain ⟨alo, hlo, ahi, hhi, amx, hmx, hc⟩ := hc
  have he : execOp ce o = (do Pure.pure (.value (← Instr.sliceAt t (ce x) (lo.map ce) (hi.map ce) (mx.map ce)))) := by simp [execOp, hop]
  rw [he]
  split at hc
  · rename_i n e hu
    simp only [Option.bind_eq_some_iff, Option.map_eq_some_iff] at hc
    obtain ⟨s, hs, ax, hx, rfl⟩ := hc
    have hxv := hev _ _ hx
    simp only [aOp, Option.map_eq_some_iff] at ha
    obtain ⟨_, hsl, heq⟩ := ha
    cases heq
    unfold aSliceA at hsl
    split at hsl
    · rename_i A ver off hxe
      rw [hxe] at hxv
      obtain ⟨l, hl, hcx⟩ := hxv.ptr_inv
      obtain ⟨cells, hr, hsl⟩ := Option.bind_eq_some_iff.1 hsl
      split at hsl
      · rename_i hfit
        obtain ⟨arr, e', fz, ha', hn', hcs⟩ := h.rowAt hr hl
        have hroom : l.s + off + n * s ≤ l.n := by
          obtain ⟨cv, h1, _⟩ := hcs (off + n * s - 1) _ (List.getElem?_eq_getElem (by omega))
          have := (Array.getElem?_eq_some_iff.1 h1).1
          omega
        obtain ⟨hb1, hb2⟩ := bounds_run (P := P) (w := w) hev hlo hhi hmx (len := n) (kcap := n) (cap := n) false (Nat.le_refl _)
        cases amx with
        | none =>
          simp only [Option.map_none, Option.bind_eq_some_iff, Option.map_eq_some_iff] at hsl
          obtain ⟨hh, h1, ll, h2, rfl⟩ := hsl
          obtain ⟨h3, h4, h5⟩ := hb1 hh ll rfl h1 h2 (Nat.le_refl _)
          refine .v h ?_ (slice_at (ex := true) hl h4 (Nat.le_refl _) h5 (fun _ => rfl) hroom)
          simp only [Instr.sliceAt, Sem.run_bind, run_underlying' hu, Result.andThen_ok, hcx, Instr.sureAddr, Sem.run_pure]
          rw [h3]
          simp only [Result.andThen_ok, run_sizeOf' hs]
        | some am =>
          simp only [Option.map_some, Option.bind_eq_some_iff] at hsl
          obtain ⟨m, h1, hsl⟩ := hsl
          cases ahi with
          | none => cases hsl
          | some ah =>
            simp only [Option.map_some, Option.bind_eq_some_iff, Option.map_eq_some_iff] at hsl
            obtain ⟨hh, h2, ll, h3, rfl⟩ := hsl
            obtain ⟨h4, h5, h6, h7⟩ := hb2 am ah m hh ll rfl rfl h1 h2 h3
            have hms : m * s ≤ n * s := Nat.mul_le_mul_right _ h7
            refine .v h ?_ (slice_at (ex := true) hl h5 (Nat.le_refl m) h6 (fun _ => rfl) (by omega))
            simp only [Instr.sliceAt, Sem.run_bind, run_underlying' hu, Result.andThen_ok, hcx, Instr.sureAddr, Sem.run_pure]
            rw [h4]
            simp only [Result.andThen_ok, run_sizeOf' hs]
      · cases hsl
    · cases hsl
  · rename_i e hu
    simp only [Option.bind_eq_some_iff, Option.map_eq_some_iff] at hc
    obtain ⟨s, hs, ax, hx, rfl⟩ := hc
    have hxv := hev _ _ hx
    simp only [aOp, Option.map_eq_some_iff] at ha
    obtain ⟨_, hsl, heq⟩ := ha
    cases heq
    have hrun : ∀ (a : Option Addr) (len cap l hh m : Nat), ce x = .slice a len cap → (Instr.sliceBounds true len cap (lo.map ce) (hi.map ce) (mx.map ce)).run P w = .ok (l, hh, m) w →
        (Instr.sliceAt t (ce x) (lo.map ce) (hi.map ce) (mx.map ce)).run P w = .ok (.slice (if m = l then a else a.map (·.add (l * s))) (hh - l) (m - l)) w := fun a len cap l hh m hcx hb => by
      simp only [Instr.sliceAt, Sem.run_bind, run_underlying' hu, Result.andThen_ok, Instr.slice, hcx]
      rw [hb]
      simp only [Result.andThen_ok, run_sizeOf' hs, Sem.run_pure]
    unfold aSliceS at hsl
    split at hsl
    · rename_i A ver off len kcap ex esz hxe
      split at hsl
      · rename_i hes
        subst hes
        rw [hxe] at hxv
        obtain ⟨l, a, cap, hl, hcx, hk, hlen, hex, hor⟩ := hxv.slice_inv
        obtain ⟨hb1, hb2⟩ := bounds_run (P := P) (w := w) hev hlo hhi hmx (len := len) (kcap := kcap) (cap := cap) true hk
        cases amx with
        | none =>
          simp only [Option.map_none, Option.bind_eq_some_iff, Option.map_eq_some_iff] at hsl
          obtain ⟨hh, h1, ll, h2, rfl⟩ := hsl
          obtain ⟨h3, h4, h5⟩ := hb1 hh ll rfl h1 h2 hlen
          refine .v h (hrun _ _ _ _ _ _ hcx h3) ?_
          rcases hor with ⟨rfl, hn⟩ | ⟨h6, h7, h8⟩
          · have := slice_at (ex := ex) hl h4 hk h5 hex hn
            rw [opt_if]
            exact this
          · have e1 : hh - ll = 0 := by omega
            have e2 : kcap - ll = 0 := by omega
            have e3 : cap - ll = 0 := by omega
            rw [if_pos (by omega), e1, e2, e3]
            exact .sliceE hl
        | some am =>
          simp only [Option.map_some, Option.bind_eq_some_iff] at hsl
          obtain ⟨m, h1, hsl⟩ := hsl
          cases ahi with
          | none => cases hsl
          | some ah =>
            simp only [Option.map_some, Option.bind_eq_some_iff, Option.map_eq_some_iff] at hsl
            obtain ⟨hh, h2, ll, h3, rfl⟩ := hsl
            obtain ⟨h4, h5, h6, h7⟩ := hb2 am ah m hh ll rfl rfl h1 h2 h3
            refine .v h (hrun _ _ _ _ _ _ hcx h4) ?_
            rcases hor with ⟨rfl, hn⟩ | ⟨h8, h9, h10⟩
            · have hms : m * esz ≤ cap * esz := Nat.mul_le_mul_right _ (by omega)
              have := slice_at (ex := true) (off := off) (cap := m) (esz := esz) (lo := ll) hl h5 (Nat.le_refl m) h6 (fun _ => rfl) (by omega)
              rw [opt_if]
              exact this
            · have e1 : hh - ll = 0 := by omega
              have e3 : m - ll = 0 := by omega
              rw [if_pos (by omega), e1, e3]
              exact .sliceE hl
      · cases hsl
    · rename_i hxe
      rw [hxe] at hxv
      have hcx := hxv.raw_inv
      obtain ⟨hb1, hb2⟩ := bounds_run (P := P) (w := w) hev hlo hhi hmx (len := 0) (kcap := 0) (cap := 0) true (Nat.le_refl _)
      cases amx with
      | none =>
        simp only [Option.map_none, Option.bind_eq_some_iff, Option.map_eq_some_iff] at hsl
        obtain ⟨hh, h1, ll, h2, rfl⟩ := hsl
        obtain ⟨h3, h4, h5⟩ := hb1 hh ll rfl h1 h2 (Nat.le_refl _)
        refine .v h (hrun _ _ _ _ _ _ hcx h3) ?_
        have e1 : hh - ll = 0 := by omega
        have e2 : 0 - ll = 0 := by omega
        rw [if_pos (by omega), e1, e2]
        exact .raw _
      | some am =>
        simp only [Option.map_some, Option.bind_eq_some_iff] at hsl
        obtain ⟨m, h1, hsl⟩ := hsl
        cases ahi with
        | none => cases hsl
        | some ah =>
          simp only [Option.map_some, Option.bind_eq_some_iff, Option.map_eq_some_iff] at hsl
          obtain ⟨hh, h2, ll, h3, rfl⟩ := hsl
          obtain ⟨h4, h5, h6, h7⟩ := hb2 am ah m hh ll rfl rfl h1 h2 h3
          refine .v h (hrun _ _ _ _ _ _ hcx h4) ?_
          have e1 : hh - ll = 0 := by omega
          have e2 : m - ll = 0 := by omega
          rw [if_pos (by omega), e1, e2]
          exact .raw _
    · cases hsl
  · rename_i hu
    cases amx with
    | some am => cases hc
    | none =>
      obtain ⟨ax, hx, rfl⟩ := Option.map_eq_some_iff.1 hc
      have hxv := hev _ _ hx
      simp only [aOp, Option.map_eq_some_iff] at ha
      obtain ⟨_, hsl, heq⟩ := ha
      cases heq
      unfold aSliceStr at hsl
      split at hsl
      · rename_i s hxe
        rw [hxe] at hxv
        have hcx := hxv.raw_inv
        simp only [Option.bind_eq_some_iff, Option.map_eq_some_iff] at hsl
        obtain ⟨hh, h1, ll, h2, rfl⟩ := hsl
        have hsz : s.data.toList.length = s.size := rfl
        rw [hsz] at h1
        obtain ⟨hb1, _⟩ := bounds_run (P := P) (w := w) hev hlo hhi hmx (len := s.size) (kcap := s.size) (cap := s.size) false (Nat.le_refl _)
        obtain ⟨h3, h4, h5⟩ := hb1 hh ll rfl h1 h2 (Nat.le_refl _)
        rcases cOpdO_some hmx with ⟨rfl, _⟩ | ⟨y, ay, rfl, h, _⟩
        · refine .v h (cv := .string (s.extract ll hh)) ?_ ?_
          · simp only [Instr.sliceAt, Sem.run_bind, run_underlying' hu, Result.andThen_ok, Instr.slice, hcx, Option.map_none, Option.isSome_none, Bool.false_eq_true, if_false, Sem.run_pure]
            simp only [Option.map_none] at h3
            rw [h3]
            simp only [Result.andThen_ok]
          · have : s.extract ll hh = ⟨((s.data.toList.drop ll).take (hh - ll)).toArray⟩ := by
              apply ByteArray.ext
              apply Array.ext'
              simp [ByteArray.data_extract, List.extract]
            rw [this]
            exact .raw _
        · cases h
      · cases hsl
  · cases hc
end Go.Vm
namespace Go.Vm
open Go
variable {P : Program} {B : Base} {ρ ρ' : Ren} {H H' : AHeap} {w w' : World} {tm : List AVal} {ce : Operand → Value} {o : Oper} {av : AVal} {ao : AOp}
theorem op_makeSlice (h : HRel P B ρ H w) (hev : EvOk ρ tm ce) {t : TypeId} {l c : Operand} (hop : o.op = .makeSlice t l c) (hc : cOp P o.op = some ao) (ha : aOp tm ao H = some (av, H')) :
    OpRes .makes P B ρ H w (execOp ce o) av H' := by
  rw [hop] at hc
  simp only [cOp] at hc
  have he : execOp ce o = (do Pure.pure (.value (← Instr.makeSlice t (ce l) (ce c)))) := by simp [execOp, hop]
  rw [he]
  split at hc
  · rename_i e hu
    simp only [Option.bind_eq_some_iff] at hc
    obtain ⟨i, hi, z, hz, hc⟩ := hc
    split at hc
    · rename_i hzl
      simp only [beq_iff_eq] at hzl
      simp only [Option.bind_eq_some_iff, Option.map_eq_some_iff] at hc
      obtain ⟨al, hl, ac, hcc, rfl⟩ := hc
      have hlv := hev _ _ hl
      have hcv := hev _ _ hcc
      simp only [aOp] at ha
      split at ha
      · rename_i nl nc hle hce
        split at ha
        · rename_i hcond
          cases ha
          rw [hle] at hlv
          rw [hce] at hcv
          simp only [Bool.and_eq_true, ile_eq, decide_eq_true_eq] at hcond
          obtain ⟨⟨⟨h0, h1⟩, h2⟩, h3⟩ := hcond
          have hwrap : ∀ n : Int, 0 ≤ n → n ≤ 281474976710656 → IntKind.i64.wrap n = n := fun n a b => by
            rw [← wrapF_eq]
            simp only [wrapF, ile_eq]
            have : n % 18446744073709551616 = n := Int.emod_eq_of_lt a (by omega)
            rw [this, if_neg (by simp; omega)]
          have hzr := (aconst_rel ρ z).cells
          have hzl' := hzr.length
          have hzero := zeros_rel hzr nc.toNat
          obtain ⟨h4, h5, h6, h7⟩ := newRow_ptr (P := P) h e hzero
          have hzc : z.cells.toList.length = i.size := by rw [hzl', hzl]
          refine .mk (cv := .slice (some ⟨w.heap.size, 0, none⟩) nl.toNat nc.toNat) ?_ (show Thaw (.cells _ _) from rfl) (slice_new h7 (by omega) (by simp at hzc ⊢; rw [hzc]; exact Nat.le_refl _)) h5 h6
          have hzo : zeroOf P e = some z := by simp [zeroOf, hi, hz]
          have hso : szOf P e = some i.size := by simp [szOf, hi]
          have hb2 : (2 : Int) ^ 48 = 281474976710656 := by decide +kernel
          have hbig : ¬ ((i.bytes : Int) * nc > 2 ^ 48) := by rw [hb2]; omega
          have htl : ¬ ((nc < 0) ∨ (i.bytes : Int) * nc > 2 ^ 48) := by
            rintro (hx | hx)
            · omega
            · exact hbig hx
          unfold Instr.makeSlice
          simp only [Sem.run_bind, run_underlying' hu, Result.andThen_ok, hlv.raw_inv, hcv.raw_inv, asInt, asIntOf, Sem.run_pure, run_typeInfo' hi]
          rw [hwrap nl h0 (by omega), hwrap nc (by omega) h3]
          rw [if_neg (by simp only [Bool.or_eq_true, decide_eq_true_eq]; omega)]
          have hask : ∀ n, (askRoom n).run P w = .ok () w := fun n => by
            unfold askRoom; split <;> simp [mark, Sem.run]
          have hcells : ∀ zero : Array Value, (nc.toNat * i.size = 0 ∨ zero = z.cells) → (Array.range (nc.toNat * i.size)).map (fun x => zero[x % zero.size]!) = ((Array.range (nc.toNat * z.cells.toList.length)).map (fun x => z.cells.toList.toArray[x % z.cells.toList.toArray.size]!)).toList.toArray := fun zero hzz => by
            rw [hzc]
            rcases hzz with h0 | rfl
            · rw [h0]; simp
            · simp only [Array.toArray_toList]
          simp only [Sem.run_bind, Sem.run_pure, Result.andThen_ok, hask, run_sizeOf' hso]
          by_cases hz0 : nc.toNat * i.size = 0
          · rw [if_pos hz0]
            simp only [Sem.run_bind, Sem.run_pure, Result.andThen_ok]
            rw [hcells _ (.inl hz0), h4]
            simp
          · rw [if_neg hz0]
            simp only [Sem.run_bind, Sem.run_pure, run_zeroValue' hzo, Result.andThen_ok]
            rw [hcells _ (.inr rfl), h4]
            simp
        · cases ha
      · cases ha
    · cases hc
  · cases hc
theorem op_makeMap (h : HRel P B ρ H w) {t : TypeId} {r : Option Operand} (hop : o.op = .makeMap t r) (hc : cOp P o.op = some ao) (ha : aOp tm ao H = some (av, H')) : OpRes .makes P B ρ H w (execOp ce o) av H' := by
  rw [hop] at hc
  cases r with
  | some r => cases hc
  | none =>
    simp only [cOp] at hc
    split at hc
    · cases hc
      simp only [aOp] at ha
      cases ha
      have he : execOp ce o = (do Pure.pure (.value (← Instr.makeMap t none))) := by simp [execOp, hop]
      rw [he]
      have hn := h.fresh H.next 0 (Nat.le_refl _)
      have hp := h.push (o := .map [] 0) (co := .map #[] 0) (s := 0) (n := 0) (fun l => by simp)
        ⟨fun v hv => by rw [Ren.put_ne _ _ (by omega)]; exact h.fresh _ _ (Nat.le_refl _), _, #[], Ren.put_same _ _ _ _, World.alloc_heap_new _ _, trivial⟩
      refine .mk (cv := .map (some w.heap.size)) (co := .map #[] 0) ?_ trivial (.map (Ren.put_same ρ H.next 0 _)) hp (Ren.put_le hn)
      simp [Instr.makeMap]
    · cases hc
theorem op_makeFunc (h : HRel P B ρ H w) (hev : EvOk ρ tm ce) {fn : Fn} {first caps : Array Operand} (hop : o.op = .makeFunc fn first caps) (hc : cOp P o.op = some ao) (ha : aOp tm ao H = some (av, H')) : OpRes .quiet P B ρ H w (execOp ce o) av H' := by
  rw [hop] at hc
  simp only [cOp] at hc
  split at hc
  · rename_i hf
    obtain ⟨acaps, hac, rfl⟩ := Option.map_eq_some_iff.1 hc
    simp only [aOp] at ha
    cases ha
    have hf' : first = #[] := by simpa using hf
    subst hf'
    refine .pure h (cv := .func fn #[] (caps.toList.map ce).toArray) ?_ (.func (cOpds_rel hev hac))
    simp [execOp, hop, Instr.makeFunc]
    rw [← Array.toList_map, Array.toArray_toList]
  · cases hc
theorem op_makeIface (h : HRel P B ρ H w) (hev : EvOk ρ tm ce) {t : TypeId} {x : Operand} (hop : o.op = .makeInterface t x) (hc : cOp P o.op = some ao) (ha : aOp tm ao H = some (av, H')) : OpRes .quiet P B ρ H w (execOp ce o) av H' := by
  rw [hop] at hc
  simp only [cOp] at hc
  split at hc
  · cases hc
  · cases hc
  · rename_i d hno hd
    obtain ⟨ax, hx, rfl⟩ := Option.map_eq_some_iff.1 hc
    simp only [aOp] at ha
    cases ha
    have he : execOp ce o = (do Pure.pure (.value (← Instr.makeInterface t (ce x)))) := by simp [execOp, hop]
    rw [he]
    refine .v h (cv := .iface t (ce x)) ?_ (.iface (hev _ _ hx))
    simp only [Instr.makeInterface, Sem.run_bind, run_underlying' hd, Result.andThen_ok]
    cases d <;> simp at hno ⊢
theorem op_extract (h : HRel P B ρ H w) (hev : EvOk ρ tm ce) {x : Operand} {i : Nat} (hop : o.op = .extract x i) (hc : cOp P o.op = some ao) (ha : aOp tm ao H = some (av, H')) : OpRes .quiet P B ρ H w (execOp ce o) av H' := by
  rw [hop] at hc
  simp only [cOp, Option.map_eq_some_iff] at hc
  obtain ⟨ax, hx, rfl⟩ := hc
  have hxv := hev _ _ hx
  simp only [aOp] at ha
  split at ha
  · rename_i vs hxe
    obtain ⟨v, hv, heq⟩ := Option.map_eq_some_iff.1 ha
    cases heq
    rw [hxe] at hxv
    obtain ⟨cs, hcs, hcx⟩ := hxv.tuple_inv
    obtain ⟨cv, h1, h2⟩ := hcs.get _ _ hv
    have he : execOp ce o = (do Pure.pure (.value (← Instr.extract (ce x) i))) := by simp [execOp, hop]
    rw [he]
    refine .v h (cv := cv) ?_ h2
    simp [Instr.extract, hcx, h1]
  · cases ha
def eqFlds (d : Nat) (xs ys : Array Value) : List Field → Sem Bool
  | [] => pure true
  | f :: r => if f.name ≠ "_" then do
      if !(← Op.equalIn d f.type (← part f.type xs f.offset) (← part f.type ys f.offset)) then return false
      eqFlds d xs ys r
    else eqFlds d xs ys r
theorem run_equalIn_fields (d : Nat) (t : TypeId) (fs : Array Field) (xs ys : Array Value) (ht : P.underlying t = some (.struct fs)) (hp : P.stoodInHeld t = false) :
    (Op.equalIn (d + 1) t (.agg xs) (.agg ys)).run P w = (eqFlds d xs ys fs.toList).run P w := by
  simp only [Op.equalIn, Sem.run_bind, run_underlying ht, Result.andThen_ok, run_program, hp, Bool.false_eq_true, if_false]
  rw [← Array.forIn_toList]
  generalize fs.toList = fs
  clear ht
  induction fs generalizing w with
  | nil => simp [eqFlds]
  | cons f r ih =>
    simp only [List.forIn_cons, eqFlds]
    by_cases hn : f.name = "_"
    · simp only [hn, ne_eq, not_true_eq_false, if_false]
      simp only [Sem.run_bind, Sem.run_pure, Result.andThen_ok] at ih ⊢
      exact ih
    · simp only [ne_eq, hn, not_false_eq_true, if_true, Sem.run_bind, Result.andThen_ok] at ih ⊢
      cases h1 : (part f.type xs f.offset).run P w with
      | halt x w1 => simp
      | ok v w1 =>
        simp only [Result.andThen_ok]
        cases h2 : (part f.type ys f.offset).run P w1 with
        | halt x w2 => simp
        | ok u w2 =>
          simp only [Result.andThen_ok]
          cases h3 : (Op.equalIn d f.type v u).run P w2 with
          | halt x w3 => simp
          | ok b w3 =>
            cases b
            · simp
            · simpa using ih (w := w3)
def eqElems (d : Nat) (e : TypeId) (n : Nat) (xs ys : Array Value) : Nat → Nat → Sem Bool
  | _, 0 => pure true
  | i, k + 1 => do
    if !(← Op.equalIn d e (← part e xs (i * n)) (← part e ys (i * n))) then return false
    eqElems d e n xs ys (i + 1) k
theorem run_equalIn_elems (d : Nat) (t e : TypeId) (len n : Nat) (xs ys : Array Value) (ht : P.underlying t = some (.array len e)) (hn : szOf P e = some n) :
    (Op.equalIn (d + 1) t (.agg xs) (.agg ys)).run P w = (eqElems d e n xs ys 0 len).run P w := by
  simp only [Op.equalIn, Sem.run_bind, run_underlying ht, Result.andThen_ok, run_sizeOf' hn]
  rw [Std.Legacy.Range.forIn_eq_forIn_range']
  simp only [Std.Legacy.Range.size, Nat.sub_zero, Nat.add_one_sub_one, Nat.div_one]
  have key : ∀ (k i : Nat) (w : World), ((forIn (m := Sem) (List.range' i k 1) ((none, ()) : Option Bool × Unit) fun i r => do
      if (!(← Op.equalIn d e (← part e xs (i * n)) (← part e ys (i * n)))) = true then Pure.pure (ForInStep.done (some false, ()))
      else Pure.pure (ForInStep.yield (none, ()))).run P w).andThen (fun r w' => (match r.fst with | some a => Pure.pure a | none => Pure.pure true : Sem Bool).run P w') = (eqElems d e n xs ys i k).run P w := by
    intro k
    induction k with
    | zero => intro i w; simp [eqElems]
    | succ k ih =>
      intro i w
      simp only [List.range'_succ, List.forIn_cons, eqElems, Sem.run_bind]
      cases h1 : (part e xs (i * n)).run P w with
      | halt x w1 => simp
      | ok v w1 =>
        simp only [Result.andThen_ok]
        cases h2 : (part e ys (i * n)).run P w1 with
        | halt x w2 => simp
        | ok u w2 =>
          simp only [Result.andThen_ok]
          cases h3 : (Op.equalIn d e v u).run P w2 with
          | halt x w3 => simp
          | ok b w3 =>
            cases b
            · simp
            · simpa using ih (i + 1) w3
  refine Eq.trans ?_ (key len 0 w)
  congr 1
  funext r w'
  rcases r with ⟨_ | _, _⟩ <;> rfl
theorem cFlds_sound {d : Nat} {f : TypeId → Option EqPlan} (hf : ∀ t p, f t = some p → ∀ (x y : AVal) (cx cy : Value) (r : Bool), VRel ρ x cx → VRel ρ y cy → aEqP p x y = some r → (Op.equalIn d t cx cy).run P w = .ok r w)
    {xs ys : List AVal} {cxs cys : List Value} (hx : VRels ρ xs cxs) (hy : VRels ρ ys cys) : ∀ (fs : List Field) (p : EqPlan) (r : Bool), cFlds P f fs = some p → aEqP p (.agg xs) (.agg ys) = some r →
      (eqFlds d cxs.toArray cys.toArray fs).run P w = .ok r w
  | [], p, r, hp, hr => by
    simp [cFlds] at hp; subst hp
    simp [aEqP] at hr; subst hr
    simp [eqFlds]
  | fd :: fs, p, r, hp, hr => by
    simp only [cFlds] at hp
    split at hp
    · rename_i hn
      simp only [eqFlds, hn, ne_eq, not_true_eq_false, if_false]
      exact cFlds_sound hf hx hy fs p r hp hr
    · rename_i hn
      simp only [Option.bind_eq_some_iff, Option.map_eq_some_iff] at hp
      obtain ⟨⟨a, n⟩, hps, q, hq, rest, hrest, rfl⟩ := hp
      simp only [aEqP, Option.bind_eq_some_iff] at hr
      obtain ⟨x, h1, y, h2, b, h3, hr⟩ := hr
      obtain ⟨cx, h4, h5⟩ := run_part (P := P) (w := w) hps hx h1
      obtain ⟨cy, h6, h7⟩ := run_part (P := P) (w := w) hps hy h2
      have h8 := hf _ _ hq x y cx cy b h5 h7 h3
      simp only [eqFlds, ne_eq, hn, not_false_eq_true, if_true, Sem.run_bind, h4, h6, h8, Result.andThen_ok]
      cases b
      · simp at hr; subst hr; simp
      · simp only [if_true] at hr
        simpa using cFlds_sound hf hx hy fs rest r hrest hr
theorem cFlds_agg {f : TypeId → Option EqPlan} {x y : AVal} {r : Bool} : ∀ (fs : List Field) (p : EqPlan), cFlds P f fs = some p → aEqP p x y = some r → ∃ xs ys, x = .agg xs ∧ y = .agg ys
  | [], p, hp, hr => by
    simp [cFlds] at hp; subst hp
    simp only [aEqP] at hr
    split at hr
    · exact ⟨_, _, rfl, rfl⟩
    · cases hr
  | fd :: fs, p, hp, hr => by
    simp only [cFlds] at hp
    split at hp
    · exact cFlds_agg fs p hp hr
    · simp only [Option.bind_eq_some_iff, Option.map_eq_some_iff] at hp
      obtain ⟨_, _, _, _, _, _, rfl⟩ := hp
      simp only [aEqP] at hr
      split at hr
      · exact ⟨_, _, rfl, rfl⟩
      · cases hr
theorem aEqLoop_sound {d : Nat} {e : TypeId} {agg : Bool} {esz : Nat} (hps : partSz P e = some (agg, esz)) {f : AVal → AVal → Option Bool}
    (hf : ∀ (x y : AVal) (cx cy : Value) (r : Bool), VRel ρ x cx → VRel ρ y cy → f x y = some r → (Op.equalIn d e cx cy).run P w = .ok r w)
    {xs ys : List AVal} {cxs cys : List Value} (hx : VRels ρ xs cxs) (hy : VRels ρ ys cys) : ∀ (k i : Nat) (r : Bool), aEqLoop f agg esz xs ys i k = some r →
      (eqElems d e esz cxs.toArray cys.toArray i k).run P w = .ok r w
  | 0, i, r, hr => by
    simp [aEqLoop] at hr; subst hr; simp [eqElems]
  | k + 1, i, r, hr => by
    simp only [aEqLoop, Option.bind_eq_some_iff] at hr
    obtain ⟨x, h1, y, h2, b, h3, hr⟩ := hr
    obtain ⟨cx, h4, h5⟩ := run_part (P := P) (w := w) hps hx h1
    obtain ⟨cy, h6, h7⟩ := run_part (P := P) (w := w) hps hy h2
    have h8 := hf x y cx cy b h5 h7 h3
    simp only [eqElems, Sem.run_bind, h4, h6, h8, Result.andThen_ok]
    cases b
    · simp at hr; subst hr; simp
    · simp only [if_true] at hr
      simpa using aEqLoop_sound hps hf hx hy k (i + 1) r hr
theorem aEqP_sound : ∀ (fuel : Nat) (t : TypeId) (p : EqPlan), cEq P fuel t = some p → ∀ d, fuel ≤ d → ∀ (x y : AVal) (cx cy : Value) (r : Bool), VRel ρ x cx → VRel ρ y cy → aEqP p x y = some r →
    (Op.equalIn d t cx cy).run P w = .ok r w
  | 0, t, p, hp, _, _, _, _, _, _, _, _, _, _ => by simp [cEq] at hp
  | fuel + 1, t, p, hp, 0, hd, _, _, _, _, _, _, _, _ => by omega
  | fuel + 1, t, p, hp, d + 1, hd, x, y, cx, cy, r, hx, hy, hr => by
    have ih := fun t p hp => aEqP_sound fuel t p hp d (by omega)
    simp only [cEq] at hp
    split at hp
    · rename_i hu
      cases hp
      simp only [aEqP] at hr
      split at hr
      · cases hr
        rw [hx.raw_inv, hy.raw_inv]
        simp [Op.equalIn, run_underlying' hu]
      · cases hr
    · rename_i k hu
      cases hp
      simp only [aEqP] at hr
      split at hr
      · split at hr
        · rename_i hk
          cases hr
          subst hk
          rw [hx.raw_inv, hy.raw_inv]
          simp [Op.equalIn, run_underlying' hu, ieq_eq]
          rw [Bool.eq_iff_iff]; simp
        · cases hr
      · cases hr
    · rename_i hu
      cases hp
      simp only [aEqP] at hr
      split at hr
      · cases hr
        rw [hx.raw_inv, hy.raw_inv, strEq_eq]
        simp only [Op.equalIn, Sem.run_bind, run_underlying' hu, Result.andThen_ok, Sem.run_pure]
        congr 1
        rename_i a b
        have h1 : (a == b) = (a.data == b.data) := by cases a; cases b; rfl
        rw [h1, Bool.eq_iff_iff, beq_iff_eq, beq_iff_eq]
        constructor
        · intro h; rw [h]
        · intro h; exact Array.ext' h
      · cases hr
    · rename_i e hu
      cases hp
      simp only [aEqP] at hr
      split at hr
      · cases hr
        rw [hx.raw_inv, hy.raw_inv]
        simp [Op.equalIn, run_underlying' hu]
      · cases hr
        obtain ⟨l, a, cap, _, hcx, _⟩ := hx.slice_inv
        rw [hcx, hy.raw_inv]
        simp [Op.equalIn, run_underlying' hu]
      · cases hr
        obtain ⟨l, a, cap, _, hcy, _⟩ := hy.slice_inv
        rw [hcy, hx.raw_inv]
        simp [Op.equalIn, run_underlying' hu]
      · cases hr
    · rename_i k e hu
      cases hp
      simp only [aEqP] at hr
      split at hr
      · cases hr
        rw [hx.raw_inv, hy.raw_inv]
        simp [Op.equalIn, run_underlying' hu]
      · cases hr
        obtain ⟨l, _, hcx⟩ := hx.map_inv
        rw [hcx, hy.raw_inv]
        simp [Op.equalIn, run_underlying' hu]
      · cases hr
        obtain ⟨l, _, hcy⟩ := hy.map_inv
        rw [hcy, hx.raw_inv]
        simp [Op.equalIn, run_underlying' hu]
      · cases hr
    · rename_i a b c hu
      cases hp
      simp only [aEqP] at hr
      split at hr
      · cases hr
        rw [hx.raw_inv, hy.raw_inv]
        simp [Op.equalIn, run_underlying' hu]
      · cases hr
        obtain ⟨l, _, hcx⟩ := hx.func_inv
        rw [hcx, hy.raw_inv]
        simp [Op.equalIn, run_underlying' hu]
      · cases hr
        obtain ⟨l, _, hcx⟩ := hx.yield_inv
        rw [hcx, hy.raw_inv]
        simp [Op.equalIn, run_underlying' hu]
      · cases hr
        obtain ⟨l, _, hcy⟩ := hy.func_inv
        rw [hcy, hx.raw_inv]
        simp [Op.equalIn, run_underlying' hu]
      · cases hr
    · rename_i e hu
      cases hp
      simp only [aEqP] at hr
      split at hr
      · cases hr
        rw [hx.raw_inv, hy.raw_inv]
        simp [Op.equalIn, run_underlying' hu]
      · cases hr
        obtain ⟨l, _, hcx⟩ := hx.ptr_inv
        rw [hcx, hy.raw_inv]
        simp [Op.equalIn, run_underlying' hu]
      · cases hr
        obtain ⟨l, _, hcy⟩ := hy.ptr_inv
        rw [hcy, hx.raw_inv]
        simp [Op.equalIn, run_underlying' hu]
      · cases hr
    · rename_i fs hu
      split at hp
      · cases hp
      · rename_i hst
        have hxy := cFlds_agg fs.toList p hp hr
        obtain ⟨xs, ys, rfl, rfl⟩ := hxy
        obtain ⟨cxs, hcx, rfl⟩ := hx.agg_inv
        obtain ⟨cys, hcy, rfl⟩ := hy.agg_inv
        rw [run_equalIn_fields d t fs _ _ hu (by simpa using hst)]
        exact cFlds_sound (fun t p hp x y cx cy r => ih t p hp x y cx cy r) hcx hcy fs.toList p r hp hr
    · rename_i n e hu
      simp only [Option.bind_eq_some_iff] at hp
      obtain ⟨⟨a, k⟩, hps, m, hm, hp⟩ := hp
      split at hp
      · rename_i hkm
        dsimp only at hkm
        subst hkm
        obtain ⟨q, hq, rfl⟩ := Option.map_eq_some_iff.1 hp
        simp only [aEqP] at hr
        split at hr
        · obtain ⟨cxs, hcx, rfl⟩ := hx.agg_inv
          obtain ⟨cys, hcy, rfl⟩ := hy.agg_inv
          rw [run_equalIn_elems d t e n k _ _ hu hm]
          exact aEqLoop_sound hps (fun x y cx cy r => ih e q hq x y cx cy r) hcx hcy n 0 r hr
        · cases hr
      · cases hp
    · cases hp
end Go.Vm
