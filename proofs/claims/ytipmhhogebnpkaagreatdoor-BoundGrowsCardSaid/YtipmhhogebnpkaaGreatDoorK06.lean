/- The abstract machine, part 10: the operations are sound (new slices, conversions, equality, small ones). -/
import Derived.Test.YtipmhhogebnpkaaGreatDoorK05
import Derived.Laws.StructEq
namespace Go.Vm
open Go

set_option linter.unusedVariables false
set_option linter.unusedSimpArgs false

variable {P : Program} {B : Base} {ρ ρ' : Ren} {H H' : AHeap} {w w' : World} {tm : List AVal} {ce : Operand → Value} {o : Oper} {av : AVal} {ao : AOp}

theorem op_makeSlice (h : HRel P B ρ H w) (hev : EvOk ρ tm ce) {t : TypeId} {l c : Operand} (hop : o.op = .makeSlice t l c) (hc : cOp P o.op = some ao) (ha : aOp tm ao H = some (av, H')) :
    OpRes .makes P B ρ H w (execOp ce o) av H' := by
  rw [hop] at hc
  simp only [cOp] at hc
  have he : execOp ce o = (do Pure.pure (.value (← Instr.makeSlice t (ce l) (ce c)))) := by simp [execOp, hop]
  rw [he]
  split at hc
  · rename_i e hu
    simp only [Option.bind_eq_some_iff] at hc
    obtain ⟨i, hi, z, hz, hc⟩ := hc
    split at hc
    · rename_i hzl
      simp only [beq_iff_eq] at hzl
      simp only [Option.bind_eq_some_iff, Option.map_eq_some_iff] at hc
      obtain ⟨al, hl, ac, hcc, rfl⟩ := hc
      have hlv := hev _ _ hl
      have hcv := hev _ _ hcc
      simp only [aOp] at ha
      split at ha
      · rename_i nl nc hle hce
        split at ha
        · rename_i hcond
          cases ha
          rw [hle] at hlv
          rw [hce] at hcv
          simp only [Bool.and_eq_true, ile_eq, decide_eq_true_eq] at hcond
          obtain ⟨⟨⟨h0, h1⟩, h2⟩, h3⟩ := hcond
          have hwrap : ∀ n : Int, 0 ≤ n → n ≤ 281474976710656 → IntKind.i64.wrap n = n := fun n a b => by
            rw [← wrapF_eq]
            simp only [wrapF, ile_eq]
            have : n % 18446744073709551616 = n := Int.emod_eq_of_lt a (by omega)
            rw [this, if_neg (by simp; omega)]
          have hzr := (aconst_rel ρ z).cells
          have hzl' := hzr.length
          have hzero := zeros_rel hzr nc.toNat
          obtain ⟨h4, h5, h6, h7⟩ := newRow_ptr (P := P) h e hzero
          have hzc : z.cells.toList.length = i.size := by rw [hzl', hzl]
          refine .mk (cv := .slice (some ⟨w.heap.size, 0, none⟩) nl.toNat nc.toNat) ?_ (show Thaw (.cells _ _) from rfl) (slice_new h7 (by omega) (by simp at hzc ⊢; rw [hzc]; exact Nat.le_refl _)) h5 h6
          have hzo : zeroOf P e = some z := by simp [zeroOf, hi, hz]
          have hso : szOf P e = some i.size := by simp [szOf, hi]
          have hb2 : (2 : Int) ^ 48 = 281474976710656 := by decide +kernel
          have hbig : ¬ ((i.bytes : Int) * nc > 2 ^ 48) := by rw [hb2]; omega
          have htl : ¬ ((nc < 0) ∨ (i.bytes : Int) * nc > 2 ^ 48) := by
            rintro (hx | hx)
            · omega
            · exact hbig hx
          unfold Instr.makeSlice
          simp only [Sem.run_bind, run_underlying' hu, Result.andThen_ok, hlv.raw_inv, hcv.raw_inv, asInt, asIntOf, Sem.run_pure, run_typeInfo' hi]
          rw [hwrap nl h0 (by omega), hwrap nc (by omega) h3]
          rw [if_neg (by simp only [Bool.or_eq_true, decide_eq_true_eq]; omega)]
          have hask : ∀ n, (askRoom n).run P w = .ok () w := fun n => by
            unfold askRoom; split <;> simp [mark, Sem.run]
          have hcells : ∀ zero : Array Value, (nc.toNat * i.size = 0 ∨ zero = z.cells) → (Array.range (nc.toNat * i.size)).map (fun x => zero[x % zero.size]!) = ((Array.range (nc.toNat * z.cells.toList.length)).map (fun x => z.cells.toList.toArray[x % z.cells.toList.toArray.size]!)).toList.toArray := fun zero hzz => by
            rw [hzc]
            rcases hzz with h0 | rfl
            · rw [h0]; simp
            · simp only [Array.toArray_toList]
          simp only [Sem.run_bind, Sem.run_pure, Result.andThen_ok, hask, run_sizeOf' hso]
          by_cases hz0 : nc.toNat * i.size = 0
          · rw [if_pos hz0]
            simp only [Sem.run_bind, Sem.run_pure, Result.andThen_ok]
            rw [hcells _ (.inl hz0), h4]
            simp
          · rw [if_neg hz0]
            simp only [Sem.run_bind, Sem.run_pure, run_zeroValue' hzo, Result.andThen_ok]
            rw [hcells _ (.inr rfl), h4]
            simp
        · cases ha
      · cases ha
    · cases hc
  · cases hc

theorem op_makeMap (h : HRel P B ρ H w) {t : TypeId} {r : Option Operand} (hop : o.op = .makeMap t r) (hc : cOp P o.op = some ao) (ha : aOp tm ao H = some (av, H')) : OpRes .makes P B ρ H w (execOp ce o) av H' := by
  rw [hop] at hc
  cases r with
  | some r => cases hc
  | none =>
    simp only [cOp] at hc
    split at hc
    · cases hc
      simp only [aOp] at ha
      cases ha
      have he : execOp ce o = (do Pure.pure (.value (← Instr.makeMap t none))) := by simp [execOp, hop]
      rw [he]
      have hn := h.fresh H.next 0 (Nat.le_refl _)
      have hp := h.push (o := .map [] 0) (co := .map #[] 0) (s := 0) (n := 0) (fun l => by simp)
        ⟨fun v hv => by rw [Ren.put_ne _ _ (by omega)]; exact h.fresh _ _ (Nat.le_refl _), _, #[], Ren.put_same _ _ _ _, World.alloc_heap_new _ _, trivial⟩
      refine .mk (cv := .map (some w.heap.size)) (co := .map #[] 0) ?_ trivial (.map (Ren.put_same ρ H.next 0 _)) hp (Ren.put_le hn)
      simp [Instr.makeMap]
    · cases hc

theorem op_makeFunc (h : HRel P B ρ H w) (hev : EvOk ρ tm ce) {fn : Fn} {first caps : Array Operand} (hop : o.op = .makeFunc fn first caps) (hc : cOp P o.op = some ao) (ha : aOp tm ao H = some (av, H')) : OpRes .quiet P B ρ H w (execOp ce o) av H' := by
  rw [hop] at hc
  simp only [cOp] at hc
  split at hc
  · rename_i hf
    obtain ⟨acaps, hac, rfl⟩ := Option.map_eq_some_iff.1 hc
    simp only [aOp] at ha
    cases ha
    have hf' : first = #[] := by simpa using hf
    subst hf'
    refine .pure h (cv := .func fn #[] (caps.toList.map ce).toArray) ?_ (.func (cOpds_rel hev hac))
    simp [execOp, hop, Instr.makeFunc]
    rw [← Array.toList_map, Array.toArray_toList]
  · split at hc
    · rename_i hcp
      split at hc
      · rename_i f
        obtain ⟨acaps, hac, rfl⟩ := Option.map_eq_some_iff.1 hc
        simp only [aOp] at ha
        cases ha
        have hc' : caps = #[] := by simpa using hcp
        subst hc'
        refine .pure h (cv := .func (.func f) (first.toList.map ce).toArray #[]) ?_ (.bound (cOpds_rel hev hac))
        simp [execOp, hop, Instr.makeFunc]
        rw [← Array.toList_map, Array.toArray_toList]
      · cases hc
    · cases hc

theorem op_assert (h : HRel P B ρ H w) (hev : EvOk ρ tm ce) {x : Operand} {xt a : TypeId} {ok : Bool} (hop : o.op = .typeAssert x xt a ok) (hc : cOp P o.op = some ao) (ha : aOp tm ao H = some (av, H')) : OpRes .quiet P B ρ H w (execOp ce o) av H' := by
  rw [hop] at hc
  simp only [cOp] at hc
  split at hc
  · cases hc
  · rename_i hok
    have hok' : ok = false := by simpa using hok
    subst hok'
    split at hc
    · cases hc
    · cases hc
    · rename_i d hni hd hu
      obtain ⟨ax, hx, rfl⟩ := Option.map_eq_some_iff.1 hc
      have hxv := hev _ _ hx
      simp only [aOp] at ha
      split at ha
      · rename_i t v hxe
        split at ha
        · rename_i ht
          subst ht
          cases ha
          rw [hxe] at hxv
          obtain ⟨cv, hcv, hcx⟩ := hxv.iface_inv
          refine .pure h (cv := cv) ?_ hcv
          have he : execOp ce o = (do Pure.pure (.value (← Instr.typeAssert (ce x) xt a false))) := by simp [execOp, hop]
          rw [he, hcx]
          cases d <;> first | exact absurd rfl (hni _) | simp [Instr.typeAssert, run_underlying' hu]
        · cases ha
      · cases ha

theorem op_s2ap (h : HRel P B ρ H w) (hev : EvOk ρ tm ce) {a : TypeId} {x : Operand} (hop : o.op = .sliceToArrayPointer a x) (hc : cOp P o.op = some ao) (ha : aOp tm ao H = some (av, H')) : OpRes .quiet P B ρ H w (execOp ce o) av H' := by
  rw [hop] at hc
  simp only [cOp] at hc
  split at hc
  · rename_i n e hu
    obtain ⟨ax, hx, rfl⟩ := Option.map_eq_some_iff.1 hc
    have hxv := hev _ _ hx
    simp only [aOp] at ha
    split at ha
    · rename_i A v off len kcap ex esz hxe
      split at ha
      · rename_i hn
        cases ha
        rw [hxe] at hxv
        obtain ⟨l, a', cap, hl, hcx, hk, hlen, _, hor⟩ := hxv.slice_inv
        rcases hor with ⟨rfl, hn'⟩ | ⟨h0, _, _⟩
        · refine .pure h (cv := .pointer (some ⟨l.c, l.s + off, none⟩)) ?_ (.ptr hl)
          have he : execOp ce o = (do Pure.pure (.value (← Instr.arrayAt a (ce x)))) := by simp [execOp, hop]
          rw [he, hcx]
          simp only [Instr.arrayAt, Sem.run_bind, Sem.run_pure, Result.andThen_ok, run_underlying' hu]
          rw [if_neg (by omega)]
          rfl
        · omega
      · cases ha
    · cases ha
  · cases hc

theorem op_makeIface (h : HRel P B ρ H w) (hev : EvOk ρ tm ce) {t : TypeId} {x : Operand} (hop : o.op = .makeInterface t x) (hc : cOp P o.op = some ao) (ha : aOp tm ao H = some (av, H')) : OpRes .quiet P B ρ H w (execOp ce o) av H' := by
  rw [hop] at hc
  simp only [cOp] at hc
  split at hc
  · cases hc
  · cases hc
  · rename_i d hno hd
    obtain ⟨ax, hx, rfl⟩ := Option.map_eq_some_iff.1 hc
    simp only [aOp] at ha
    cases ha
    have he : execOp ce o = (do Pure.pure (.value (← Instr.makeInterface t (ce x)))) := by simp [execOp, hop]
    rw [he]
    refine .v h (cv := .iface t (ce x)) ?_ (.iface (hev _ _ hx))
    simp only [Instr.makeInterface, Sem.run_bind, run_underlying' hd, Result.andThen_ok]
    cases d <;> simp at hno ⊢

theorem op_extract (h : HRel P B ρ H w) (hev : EvOk ρ tm ce) {x : Operand} {i : Nat} (hop : o.op = .extract x i) (hc : cOp P o.op = some ao) (ha : aOp tm ao H = some (av, H')) : OpRes .quiet P B ρ H w (execOp ce o) av H' := by
  rw [hop] at hc
  simp only [cOp, Option.map_eq_some_iff] at hc
  obtain ⟨ax, hx, rfl⟩ := hc
  have hxv := hev _ _ hx
  simp only [aOp] at ha
  split at ha
  · rename_i vs hxe
    obtain ⟨v, hv, heq⟩ := Option.map_eq_some_iff.1 ha
    cases heq
    rw [hxe] at hxv
    obtain ⟨cs, hcs, hcx⟩ := hxv.tuple_inv
    obtain ⟨cv, h1, h2⟩ := hcs.get _ _ hv
    have he : execOp ce o = (do Pure.pure (.value (← Instr.extract (ce x) i))) := by simp [execOp, hop]
    rw [he]
    refine .v h (cv := cv) ?_ h2
    simp [Instr.extract, hcx, h1]
  · cases ha

/-! ### Equality -/

def eqFlds (d : Nat) (xs ys : Array Value) : List Field → Sem Bool
  | [] => pure true
  | f :: r => if f.name ≠ "_" then do
      if !(← Op.equalIn d f.type (← part f.type xs f.offset) (← part f.type ys f.offset)) then return false
      eqFlds d xs ys r
    else eqFlds d xs ys r

theorem run_equalIn_fields (d : Nat) (t : TypeId) (fs : Array Field) (xs ys : Array Value) (ht : P.underlying t = some (.struct fs)) (hp : P.stoodInHeld t = false) :
    (Op.equalIn (d + 1) t (.agg xs) (.agg ys)).run P w = (eqFlds d xs ys fs.toList).run P w := by
  simp only [Op.equalIn, Sem.run_bind, run_underlying ht, Result.andThen_ok, run_program, hp, Bool.false_eq_true, if_false]
  rw [← Array.forIn_toList]
  generalize fs.toList = fs
  clear ht
  induction fs generalizing w with
  | nil => simp [eqFlds]
  | cons f r ih =>
    simp only [List.forIn_cons, eqFlds]
    by_cases hn : f.name = "_"
    · simp only [hn, ne_eq, not_true_eq_false, if_false]
      simp only [Sem.run_bind, Sem.run_pure, Result.andThen_ok] at ih ⊢
      exact ih
    · simp only [ne_eq, hn, not_false_eq_true, if_true, Sem.run_bind, Result.andThen_ok] at ih ⊢
      cases h1 : (part f.type xs f.offset).run P w with
      | halt x w1 => simp
      | ok v w1 =>
        simp only [Result.andThen_ok]
        cases h2 : (part f.type ys f.offset).run P w1 with
        | halt x w2 => simp
        | ok u w2 =>
          simp only [Result.andThen_ok]
          cases h3 : (Op.equalIn d f.type v u).run P w2 with
          | halt x w3 => simp
          | ok b w3 =>
            cases b
            · simp
            · simpa using ih (w := w3)

def eqElems (d : Nat) (e : TypeId) (n : Nat) (xs ys : Array Value) : Nat → Nat → Sem Bool
  | _, 0 => pure true
  | i, k + 1 => do
    if !(← Op.equalIn d e (← part e xs (i * n)) (← part e ys (i * n))) then return false
    eqElems d e n xs ys (i + 1) k

theorem run_equalIn_elems (d : Nat) (t e : TypeId) (len n : Nat) (xs ys : Array Value) (ht : P.underlying t = some (.array len e)) (hn : szOf P e = some n) :
    (Op.equalIn (d + 1) t (.agg xs) (.agg ys)).run P w = (eqElems d e n xs ys 0 len).run P w := by
  simp only [Op.equalIn, Sem.run_bind, run_underlying ht, Result.andThen_ok, run_sizeOf' hn]
  rw [Std.Legacy.Range.forIn_eq_forIn_range']
  simp only [Std.Legacy.Range.size, Nat.sub_zero, Nat.add_one_sub_one, Nat.div_one]
  have key : ∀ (k i : Nat) (w : World), ((forIn (m := Sem) (List.range' i k 1) ((none, ()) : Option Bool × Unit) fun i r => do
      if (!(← Op.equalIn d e (← part e xs (i * n)) (← part e ys (i * n)))) = true then Pure.pure (ForInStep.done (some false, ()))
      else Pure.pure (ForInStep.yield (none, ()))).run P w).andThen (fun r w' => (match r.fst with | some a => Pure.pure a | none => Pure.pure true : Sem Bool).run P w') = (eqElems d e n xs ys i k).run P w := by
    intro k
    induction k with
    | zero => intro i w; simp [eqElems]
    | succ k ih =>
      intro i w
      simp only [List.range'_succ, List.forIn_cons, eqElems, Sem.run_bind]
      cases h1 : (part e xs (i * n)).run P w with
      | halt x w1 => simp
      | ok v w1 =>
        simp only [Result.andThen_ok]
        cases h2 : (part e ys (i * n)).run P w1 with
        | halt x w2 => simp
        | ok u w2 =>
          simp only [Result.andThen_ok]
          cases h3 : (Op.equalIn d e v u).run P w2 with
          | halt x w3 => simp
          | ok b w3 =>
            cases b
            · simp
            · simpa using ih (i + 1) w3
  refine Eq.trans ?_ (key len 0 w)
  congr 1
  funext r w'
  rcases r with ⟨_ | _, _⟩ <;> rfl

theorem cFlds_sound {d : Nat} {f : TypeId → Option EqPlan} (hf : ∀ t p, f t = some p → ∀ (x y : AVal) (cx cy : Value) (r : Bool), VRel ρ x cx → VRel ρ y cy → aEqP p x y = some r → (Op.equalIn d t cx cy).run P w = .ok r w)
    {xs ys : List AVal} {cxs cys : List Value} (hx : VRels ρ xs cxs) (hy : VRels ρ ys cys) : ∀ (fs : List Field) (p : EqPlan) (r : Bool), cFlds P f fs = some p → aEqP p (.agg xs) (.agg ys) = some r →
      (eqFlds d cxs.toArray cys.toArray fs).run P w = .ok r w
  | [], p, r, hp, hr => by
    simp [cFlds] at hp; subst hp
    simp [aEqP] at hr; subst hr
    simp [eqFlds]
  | fd :: fs, p, r, hp, hr => by
    simp only [cFlds] at hp
    split at hp
    · rename_i hn
      simp only [eqFlds, hn, ne_eq, not_true_eq_false, if_false]
      exact cFlds_sound hf hx hy fs p r hp hr
    · rename_i hn
      simp only [Option.bind_eq_some_iff, Option.map_eq_some_iff] at hp
      obtain ⟨⟨a, n⟩, hps, q, hq, rest, hrest, rfl⟩ := hp
      simp only [aEqP, Option.bind_eq_some_iff] at hr
      obtain ⟨x, h1, y, h2, b, h3, hr⟩ := hr
      obtain ⟨cx, h4, h5⟩ := run_part (P := P) (w := w) hps hx h1
      obtain ⟨cy, h6, h7⟩ := run_part (P := P) (w := w) hps hy h2
      have h8 := hf _ _ hq x y cx cy b h5 h7 h3
      simp only [eqFlds, ne_eq, hn, not_false_eq_true, if_true, Sem.run_bind, h4, h6, h8, Result.andThen_ok]
      cases b
      · simp at hr; subst hr; simp
      · simp only [if_true] at hr
        simpa using cFlds_sound hf hx hy fs rest r hrest hr

theorem cFlds_agg {f : TypeId → Option EqPlan} {x y : AVal} {r : Bool} : ∀ (fs : List Field) (p : EqPlan), cFlds P f fs = some p → aEqP p x y = some r → ∃ xs ys, x = .agg xs ∧ y = .agg ys
  | [], p, hp, hr => by
    simp [cFlds] at hp; subst hp
    simp only [aEqP] at hr
    split at hr
    · exact ⟨_, _, rfl, rfl⟩
    · cases hr
  | fd :: fs, p, hp, hr => by
    simp only [cFlds] at hp
    split at hp
    · exact cFlds_agg fs p hp hr
    · simp only [Option.bind_eq_some_iff, Option.map_eq_some_iff] at hp
      obtain ⟨_, _, _, _, _, _, rfl⟩ := hp
      simp only [aEqP] at hr
      split at hr
      · exact ⟨_, _, rfl, rfl⟩
      · cases hr

theorem aEqLoop_sound {d : Nat} {e : TypeId} {agg : Bool} {esz : Nat} (hps : partSz P e = some (agg, esz)) {f : AVal → AVal → Option Bool}
    (hf : ∀ (x y : AVal) (cx cy : Value) (r : Bool), VRel ρ x cx → VRel ρ y cy → f x y = some r → (Op.equalIn d e cx cy).run P w = .ok r w)
    {xs ys : List AVal} {cxs cys : List Value} (hx : VRels ρ xs cxs) (hy : VRels ρ ys cys) : ∀ (k i : Nat) (r : Bool), aEqLoop f agg esz xs ys i k = some r →
      (eqElems d e esz cxs.toArray cys.toArray i k).run P w = .ok r w
  | 0, i, r, hr => by
    simp [aEqLoop] at hr; subst hr; simp [eqElems]
  | k + 1, i, r, hr => by
    simp only [aEqLoop, Option.bind_eq_some_iff] at hr
    obtain ⟨x, h1, y, h2, b, h3, hr⟩ := hr
    obtain ⟨cx, h4, h5⟩ := run_part (P := P) (w := w) hps hx h1
    obtain ⟨cy, h6, h7⟩ := run_part (P := P) (w := w) hps hy h2
    have h8 := hf x y cx cy b h5 h7 h3
    simp only [eqElems, Sem.run_bind, h4, h6, h8, Result.andThen_ok]
    cases b
    · simp at hr; subst hr; simp
    · simp only [if_true] at hr
      simpa using aEqLoop_sound hps hf hx hy k (i + 1) r hr

set_option maxHeartbeats 800000 in
theorem aEqP_sound : ∀ (fuel : Nat) (t : TypeId) (p : EqPlan), cEq P fuel t = some p → ∀ d, fuel ≤ d → ∀ (x y : AVal) (cx cy : Value) (r : Bool), VRel ρ x cx → VRel ρ y cy → aEqP p x y = some r →
    (Op.equalIn d t cx cy).run P w = .ok r w
  | 0, t, p, hp, _, _, _, _, _, _, _, _, _, _ => by simp [cEq] at hp
  | fuel + 1, t, p, hp, 0, hd, _, _, _, _, _, _, _, _ => by omega
  | fuel + 1, t, p, hp, d + 1, hd, x, y, cx, cy, r, hx, hy, hr => by
    have ih := fun t p hp => aEqP_sound fuel t p hp d (by omega)
    simp only [cEq] at hp
    split at hp
    · rename_i hu
      cases hp
      simp only [aEqP] at hr
      split at hr
      · cases hr
        rw [hx.raw_inv, hy.raw_inv]
        simp [Op.equalIn, run_underlying' hu]
      · cases hr
    · rename_i k hu
      cases hp
      simp only [aEqP] at hr
      split at hr
      · split at hr
        · rename_i hk
          cases hr
          subst hk
          rw [hx.raw_inv, hy.raw_inv]
          simp [Op.equalIn, run_underlying' hu, ieq_eq]
          rw [Bool.eq_iff_iff]; simp
        · cases hr
      · cases hr
    · rename_i hu
      cases hp
      simp only [aEqP] at hr
      split at hr
      · cases hr
        rw [hx.raw_inv, hy.raw_inv, strEq_eq]
        simp only [Op.equalIn, Sem.run_bind, run_underlying' hu, Result.andThen_ok, Sem.run_pure]
        congr 1
        rename_i a b
        have h1 : (a == b) = (a.data == b.data) := by cases a; cases b; rfl
        rw [h1, Bool.eq_iff_iff, beq_iff_eq, beq_iff_eq]
        constructor
        · intro h; rw [h]
        · intro h; exact Array.ext' h
      · cases hr
    · rename_i e hu
      cases hp
      simp only [aEqP] at hr
      split at hr
      · cases hr
        rw [hx.raw_inv, hy.raw_inv]
        simp [Op.equalIn, run_underlying' hu]
      · cases hr
        obtain ⟨l, a, cap, _, hcx, _⟩ := hx.slice_inv
        rw [hcx, hy.raw_inv]
        simp [Op.equalIn, run_underlying' hu]
      · cases hr
        obtain ⟨l, a, cap, _, hcy, _⟩ := hy.slice_inv
        rw [hcy, hx.raw_inv]
        simp [Op.equalIn, run_underlying' hu]
      · cases hr
    · rename_i k e hu
      cases hp
      simp only [aEqP] at hr
      split at hr
      · cases hr
        rw [hx.raw_inv, hy.raw_inv]
        simp [Op.equalIn, run_underlying' hu]
      · cases hr
        obtain ⟨l, _, hcx⟩ := hx.map_inv
        rw [hcx, hy.raw_inv]
        simp [Op.equalIn, run_underlying' hu]
      · cases hr
        obtain ⟨l, _, hcy⟩ := hy.map_inv
        rw [hcy, hx.raw_inv]
        simp [Op.equalIn, run_underlying' hu]
      · cases hr
    · rename_i a b c hu
      cases hp
      simp only [aEqP] at hr
      split at hr
      · cases hr
        rw [hx.raw_inv, hy.raw_inv]
        simp [Op.equalIn, run_underlying' hu]
      · cases hr
        obtain ⟨l, _, hcx⟩ := hx.func_inv
        rw [hcx, hy.raw_inv]
        simp [Op.equalIn, run_underlying' hu]
      · cases hr
        obtain ⟨l, _, hcx⟩ := hx.yield_inv
        rw [hcx, hy.raw_inv]
        simp [Op.equalIn, run_underlying' hu]
      · cases hr
        obtain ⟨l, _, hcy⟩ := hy.func_inv
        rw [hcy, hx.raw_inv]
        simp [Op.equalIn, run_underlying' hu]
      · cases hr
        obtain ⟨l, _, hcx⟩ := hx.bound_inv
        rw [hcx, hy.raw_inv]
        simp [Op.equalIn, run_underlying' hu]
      · cases hr
        obtain ⟨l, _, hcy⟩ := hy.bound_inv
        rw [hcy, hx.raw_inv]
        simp [Op.equalIn, run_underlying' hu]
      · cases hr
    · rename_i e hu
      cases hp
      simp only [aEqP] at hr
      split at hr
      · cases hr
        rw [hx.raw_inv, hy.raw_inv]
        simp [Op.equalIn, run_underlying' hu]
      · cases hr
        obtain ⟨l, _, hcx⟩ := hx.ptr_inv
        rw [hcx, hy.raw_inv]
        simp [Op.equalIn, run_underlying' hu]
      · cases hr
        obtain ⟨l, _, hcy⟩ := hy.ptr_inv
        rw [hcy, hx.raw_inv]
        simp [Op.equalIn, run_underlying' hu]
      · cases hr
    · rename_i e hu
      cases hp
      simp only [aEqP] at hr
      split at hr
      · cases hr
        rw [hx.raw_inv, hy.raw_inv]
        simp [Op.equalIn, run_underlying' hu]
      · cases hr
        obtain ⟨l, _, hcx⟩ := hx.iface_inv
        rw [hcx, hy.raw_inv]
        simp [Op.equalIn, run_underlying' hu]
      · cases hr
        obtain ⟨l, _, hcy⟩ := hy.iface_inv
        rw [hcy, hx.raw_inv]
        simp [Op.equalIn, run_underlying' hu]
      · cases hr
    · rename_i fs hu
      split at hp
      · cases hp
      · rename_i hst
        have hxy := cFlds_agg fs.toList p hp hr
        obtain ⟨xs, ys, rfl, rfl⟩ := hxy
        obtain ⟨cxs, hcx, rfl⟩ := hx.agg_inv
        obtain ⟨cys, hcy, rfl⟩ := hy.agg_inv
        rw [run_equalIn_fields d t fs _ _ hu (by simpa using hst)]
        exact cFlds_sound (fun t p hp x y cx cy r => ih t p hp x y cx cy r) hcx hcy fs.toList p r hp hr
    · rename_i n e hu
      simp only [Option.bind_eq_some_iff] at hp
      obtain ⟨⟨a, k⟩, hps, m, hm, hp⟩ := hp
      split at hp
      · rename_i hkm
        dsimp only at hkm
        subst hkm
        obtain ⟨q, hq, rfl⟩ := Option.map_eq_some_iff.1 hp
        simp only [aEqP] at hr
        split at hr
        · obtain ⟨cxs, hcx, rfl⟩ := hx.agg_inv
          obtain ⟨cys, hcy, rfl⟩ := hy.agg_inv
          rw [run_equalIn_elems d t e n k _ _ hu hm]
          exact aEqLoop_sound hps (fun x y cx cy r => ih e q hq x y cx cy r) hcx hcy n 0 r hr
        · cases hr
      · cases hp
    · cases hp

end Go.Vm
