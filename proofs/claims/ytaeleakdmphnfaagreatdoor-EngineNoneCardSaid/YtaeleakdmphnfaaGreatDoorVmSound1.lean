/- The abstract machine, part 5: the operations are sound (values and arithmetic). -/
import Derived.Test.YtaeleakdmphnfaaGreatDoorVmOps
import Derived.Laws.Strings
namespace Go.Vm
open Go

set_option linter.unusedVariables false
set_option linter.unusedSimpArgs false

variable {P : Program} {B : Base} {ρ ρ' : Ren} {H H' : AHeap} {w w' : World} {tm : List AVal} {ce : Operand → Value}

/-- The operands are related. -/
def EvOk (ρ : Ren) (tm : List AVal) (ce : Operand → Value) : Prop := ∀ x ax, cOpd x = some ax → VRel ρ (ev tm ax) (ce x)

def objN : Obj → Nat
  | .cells arr _ _ => arr.size
  | _ => 0

def OpRes (m : Mode) (P : Program) (B : Base) (ρ : Ren) (H : AHeap) (w : World) (s : Sem Next) (av : AVal) (H' : AHeap) : Prop :=
  ∃ ρ' w' nx cv, s.run P w = .ok nx w' ∧ (nx = .value cv ∨ (nx = .skip ∧ cv = undef)) ∧ VRel ρ' av cv ∧ HRel P B ρ' H' w' ∧ ρ.le ρ' ∧ (m = .quiet → w' = w ∧ ρ' = ρ) ∧
    (m = .makes → nx = .value cv ∧ ∃ co, w' = w.alloc co ∧ Thaw co ∧ ρ' = ρ.put H.next 0 ⟨w.heap.size, 0, objN co⟩)

theorem OpRes.weak {m : Mode} {H0 : AHeap} {s : Sem Next} {av : AVal} (h : OpRes m P B ρ H0 w s av H') : OpRes .any P B ρ H0 w s av H' :=
  let ⟨ρ', w', nx, cv, h1, h2, h3, h4, h5, _⟩ := h; ⟨ρ', w', nx, cv, h1, h2, h3, h4, h5, fun h => by simp at h, fun h => by simp at h⟩

theorem OpRes.pure {m : Mode} {H0 : AHeap} (h : HRel P B ρ H w) {s : Sem Next} {av : AVal} {cv : Value} (hs : s.run P w = .ok (.value cv) w) (hv : VRel ρ av cv) (hm : m ≠ .makes := by decide) : OpRes m P B ρ H0 w s av H :=
  ⟨ρ, w, _, cv, hs, .inl rfl, hv, h, Ren.le_refl _, fun _ => ⟨rfl, rfl⟩, fun h => absurd h hm⟩

/-- A value made by v. -/
theorem OpRes.v {m : Mode} {H0 : AHeap} (h : HRel P B ρ H w) {s : Sem Value} {av : AVal} {cv : Value} (hs : s.run P w = .ok cv w) (hv : VRel ρ av cv) (hm : m ≠ .makes := by decide) :
    OpRes m P B ρ H0 w (do Pure.pure (.value (← s))) av H :=
  .pure h (by simp [hs]) hv hm

theorem OpRes.vw {H0 : AHeap} {s : Sem Value} {av : AVal} {cv : Value} (hs : s.run P w = .ok cv w') (hv : VRel ρ' av cv) (h : HRel P B ρ' H' w') (hle : ρ.le ρ') :
    OpRes .any P B ρ H0 w (do Pure.pure (.value (← s))) av H' :=
  ⟨ρ', w', _, cv, by simp [hs], .inl rfl, hv, h, hle, fun h => by simp at h, fun h => by simp at h⟩

theorem OpRes.uw {H0 : AHeap} {s : Sem Unit} (hs : s.run P w = .ok () w') (h : HRel P B ρ' H' w') (hle : ρ.le ρ') :
    OpRes .any P B ρ H0 w (do s; Pure.pure .skip) aundef H' :=
  ⟨ρ', w', _, undef, by simp [hs], .inr ⟨rfl, rfl⟩, .raw _, h, hle, fun h => by simp at h, fun h => by simp at h⟩

/-- A new block. -/
theorem OpRes.mk {s : Sem Value} {av : AVal} {cv : Value} {co : Obj} (hs : s.run P w = .ok cv (w.alloc co)) (ht : Thaw co) (hv : VRel (ρ.put H.next 0 ⟨w.heap.size, 0, objN co⟩) av cv) (h : HRel P B (ρ.put H.next 0 ⟨w.heap.size, 0, objN co⟩) H' (w.alloc co))
    (hle : ρ.le (ρ.put H.next 0 ⟨w.heap.size, 0, objN co⟩)) :
    OpRes .makes P B ρ H w (do Pure.pure (.value (← s))) av H' :=
  ⟨_, w.alloc co, _, cv, by simp [hs], .inl rfl, hv, h, hle, fun h => by simp at h, fun _ => ⟨rfl, co, rfl, ht, rfl⟩⟩

theorem run_underlying' {t : TypeId} {d : TypeDesc} (h : P.underlying t = some d) : (underlying t).run P w = .ok d w := run_underlying h w
theorem run_typeInfo' {t : TypeId} {i : TypeInfo} (h : P.info? t = some i) : (typeInfo t).run P w = .ok i w := by simp [typeInfo, h]
theorem run_sizeOf' {t : TypeId} {n : Nat} (h : szOf P t = some n) : (sizeOf t).run P w = .ok n w := by
  unfold szOf at h
  obtain ⟨i, hi, rfl⟩ := Option.map_eq_some_iff.1 h
  simp [sizeOf, run_typeInfo' hi]
theorem run_zeroValue' {t : TypeId} {z : Value} (h : zeroOf P t = some z) : (zeroValue t).run P w = .ok z w := by
  unfold zeroOf at h
  obtain ⟨i, hi, hz⟩ := Option.bind_eq_some_iff.1 h
  simp [zeroValue, run_typeInfo' hi, hz]
theorem run_isAgg' {t : TypeId} {d : TypeDesc} (h : P.underlying t = some d) : (isAgg t).run P w = .ok (isAggD d) w := by
  cases d <;> simp [isAgg, run_underlying' h, isAggD]

theorem cOpdO_some {x : Option Operand} {ax : Option AOpd} (h : cOpdO x = some ax) : (x = none ∧ ax = none) ∨ ∃ y ay, x = some y ∧ ax = some ay ∧ cOpd y = some ay := by
  cases x with
  | none => simp [cOpdO] at h; exact .inl ⟨rfl, h.symm⟩
  | some y =>
    simp only [cOpdO] at h
    obtain ⟨ay, h1, rfl⟩ := Option.map_eq_some_iff.1 h
    exact .inr ⟨y, ay, rfl, rfl, h1⟩

theorem cOpds_rel (hev : EvOk ρ tm ce) : ∀ {xs : List Operand} {axs : List AOpd}, cOpds xs = some axs → VRels ρ (axs.map (ev tm)) (xs.map ce)
  | [], axs, h => by simp [cOpds] at h; subst h; exact .nil
  | x :: xs, axs, h => by
    simp only [cOpds, Option.bind_eq_some_iff, Option.map_eq_some_iff] at h
    obtain ⟨y, hy, ys, hys, rfl⟩ := h
    exact .cons (hev _ _ hy) (cOpds_rel hev hys)

/-! ### Arithmetic -/

theorem binOp_shift {op : BinOp} (hop : op = .shl ∨ op = .shr) (t : TypeId) (k k' : IntKind) (a b : Int) : binOp op t (.int k a) (.int k' b) = Op.shift op k a k' b := by
  rcases hop with rfl | rfl <;> rfl

theorem aArith_shift {op : BinOp} (hop : op = .shl ∨ op = .shr) (k k' : IntKind) (a b : Int) {av : AVal} (h : aArith op k a b = some av) : ∃ cv, av = .raw cv ∧ (Op.shift op k a k' b).run P w = .ok cv w := by
  rcases hop with rfl | rfl
  all_goals
    simp only [aArith, ilt_eq] at h
    split at h
    · cases h
    · rename_i hb
      cases h
      refine ⟨_, rfl, ?_⟩
      have : ¬ b < 0 := by simpa using hb
      simp [Op.shift, this, wrapF_eq]

theorem aBits_some {op : BinOp} {k : IntKind} {a b n : Int} (h : aBits op k a b = some n) : (Op.intBits op k a b).run P w = .ok (.int k n) w := by
  cases op <;> simp [aBits, wrapF_eq] at h <;> subst h <;> simp [Op.intBits]

theorem aArith_sound {op : BinOp} (hop : ¬ (op = .shl ∨ op = .shr)) (t : TypeId) (k : IntKind) (a b : Int) {av : AVal} (h : aArith op k a b = some av) :
    ∃ cv, av = .raw cv ∧ (binOp op t (.int k a) (.int k b)).run P w = .ok cv w := by
  cases op
  case shl => exact absurd (.inl rfl) hop
  case shr => exact absurd (.inr rfl) hop
  case quo =>
    simp only [aArith, ieq_eq] at h
    split at h
    · cases h
    · rename_i h0; cases h
      have : ¬ b = 0 := by simpa using h0
      exact ⟨_, rfl, by simp [binOp, Op.intDiv, this, wrapF_eq]⟩
  case rem =>
    simp only [aArith, ieq_eq] at h
    split at h
    · cases h
    · rename_i h0; cases h
      have : ¬ b = 0 := by simpa using h0
      exact ⟨_, rfl, by simp [binOp, Op.intDiv, this]⟩
  case and | or | xor | andNot =>
    simp only [aArith] at h
    obtain ⟨n, hn, rfl⟩ := Option.map_eq_some_iff.1 h
    exact ⟨_, rfl, by simp only [binOp]; simpa using aBits_some hn⟩
  all_goals
    simp only [aArith, ieq_eq, ilt_eq, ile_eq, wrapF_eq] at h
    cases h
    refine ⟨_, rfl, ?_⟩
    first
      | (simp [binOp, Op.intArith]; done)
      | (simp [binOp, Op.intCmp]; done)
      | (simp [binOp, Op.intCmp, bne, beq_eq_decide]; done)
      | (simp only [binOp, Op.intCmp]; simp; rw [Bool.eq_iff_iff]; simp)

theorem strEq_eq : ∀ (a b : List UInt8), strEq a b = (a == b)
  | [], [] => rfl
  | [], _ :: _ => rfl
  | _ :: _, [] => rfl
  | a :: x, b :: y => by
    have : Nat.beq a.toNat b.toNat = (a == b) := by
      rw [Bool.eq_iff_iff]; simp [← UInt8.toNat_inj]
    simp [strEq, strEq_eq x y, this]

theorem strLess_eq : ∀ (a b : List UInt8), strLess a b = Op.bytesLess a b
  | [], [] => rfl
  | [], _ :: _ => rfl
  | _ :: _, [] => rfl
  | a :: x, b :: y => by
    have h1 : Nat.beq a.toNat b.toNat = (a == b) := by
      rw [Bool.eq_iff_iff]; simp [← UInt8.toNat_inj]
    have h2 : Nat.blt a.toNat b.toNat = decide (a < b) := by
      rw [Bool.eq_iff_iff]; simp [UInt8.lt_iff_toNat_lt, Nat.blt_eq]
    simp [strLess, Op.bytesLess, strLess_eq x y, h1, h2]

theorem aStr_sound {op : BinOp} (t : TypeId) (x y : ByteArray) {av : AVal} (h : aStr op x y = some av) : ∃ cv, av = .raw cv ∧ (binOp op t (.string x) (.string y)).run P w = .ok cv w := by
  have hb : binOp op t (.string x) (.string y) = Op.stringOp op x y := by cases op <;> rfl
  rw [hb]
  have hl : ∀ z : ByteArray, z.toList = z.data.toList := ByteArray.toList_eq
  cases op <;> simp only [aStr] at h <;> try (cases h; done)
  case add =>
    split at h
    · rename_i hle
      cases h
      refine ⟨_, rfl, ?_⟩
      have hs : ∀ z : ByteArray, z.data.toList.length = z.size := fun z => rfl
      have hle' : ¬ ((x.size + y.size : Nat) : Int) > IntKind.i64.max := by
        rw [hs, hs] at hle
        have hm : IntKind.i64.max = 9223372036854775807 := by decide +kernel
        rw [hm]; exact Int.not_lt.2 hle
      simp only [Op.stringOp, hle', if_false, Sem.run_pure]
      congr 2
    · cases h
  all_goals
    cases h
    refine ⟨_, rfl, ?_⟩
    simp only [Op.stringOp, hl, strEq_eq, strLess_eq, Sem.run_pure]

theorem aBin_sound {op : BinOp} (t : TypeId) {x y : AVal} {cx cy : Value} {av : AVal} (h : aBin op x y = some av) (hx : VRel ρ x cx) (hy : VRel ρ y cy) :
    ∃ cv, av = .raw cv ∧ (binOp op t cx cy).run P w = .ok cv w ∧ (∀ X Y, eqGuard op t X Y cx cy = pure ()) := by
  unfold aBin at h
  split at h
  · rename_i k a k' b
    cases hx.raw_inv; cases hy.raw_inv
    split at h
    · rename_i hop
      obtain ⟨cv, h1, h2⟩ := aArith_shift (P := P) (w := w) hop k k' a b h
      exact ⟨cv, h1, by rw [binOp_shift hop]; exact h2, fun X Y => eqGuard_at_int ..⟩
    · rename_i hop
      split at h
      · rename_i hk; subst hk
        obtain ⟨cv, h1, h2⟩ := aArith_sound (P := P) (w := w) hop t k a b h
        exact ⟨cv, h1, h2, fun X Y => eqGuard_at_int ..⟩
      · cases h
  · rename_i a b
    cases hx.raw_inv; cases hy.raw_inv
    obtain ⟨cv, h1, h2⟩ := aStr_sound (P := P) (w := w) t a b h
    exact ⟨cv, h1, h2, fun X Y => eqGuard_at_string ..⟩
  · cases h

end Go.Vm
