/- The abstract machine, part 10: the operations are sound (new slices, conversions, equality, small ones). -/
import Derived.Test.YthbjfkkjmecaaaaY03
import Derived.Laws.StructEq
set_option linter.unusedVariables false
set_option linter.unusedSimpArgs false
namespace Go.Vm
open Go
section
variable {P : Program} {B : Base} {ρ : Ren} {H H' : zz6} {w w' : World} {tm : List AVal} {ce : Operand → Value} {o : Oper} {av : AVal} {ao : AOp}
theorem zhj (h : HRel P B ρ H w) (hev : zvg ρ tm ce) {t : TypeId} {l c : Operand} (hop : o.op = .makeSlice t l c) (hc : cOp P o.op = some ao) (ha : aOp tm ao H = some (av, H')) :
  zyf .makes P B ρ H w (execOp ce o) av H' := by
 rw [hop] at hc
 simp only [cOp] at hc
 have he : execOp ce o = (do Pure.pure (.value (← Instr.makeSlice t (ce l) (ce c)))) := by simp [execOp, hop]
 rw [he]
 split at hc
 ·rename_i e hu
  simp only [Option.bind_eq_some_iff] at hc
  obtain ⟨i, hi, z, hz, hc⟩ := hc
  split at hc
  ·rename_i hzl
   simp only [beq_iff_eq] at hzl
   simp only [Option.bind_eq_some_iff, Option.map_eq_some_iff] at hc
   obtain ⟨al, hl, ac, hcc, rfl⟩ := hc
   have hlv := hev _ _ hl
   have hcv := hev _ _ hcc
   simp only [aOp] at ha
   split at ha
   ·rename_i nl nc hle hce
    split at ha
    ·rename_i hcond
     cases ha
     rw [hle] at hlv
     rw [hce] at hcv
     simp only [Bool.and_eq_true, ile_eq, decide_eq_true_eq] at hcond
     obtain ⟨⟨⟨h0, h1⟩, h2⟩, h3⟩ := hcond
     have hwrap : ∀ n : Int, 0 ≤ n → n ≤ 281474976710656 → IntKind.i64.wrap n = n := fun n a b => by
      rw [← zk6]
      simp only [zq3, ile_eq]
      have : n % 18446744073709551616 = n := Int.emod_eq_of_lt a (by omega)
      rw [this, if_neg (by simp; omega)]
     have hzr := (zyl ρ z).cells
     have hzl' := hzr.length
     have hzero := zb2 hzr nc.toNat
     obtain ⟨h4, h5, h6, h7⟩ := zj8 (P := P) h e hzero
     have hzc : z.cells.toList.length = i.size := by rw [hzl', hzl]
     refine .mk (cv := .slice (some ⟨w.heap.size, 0, none⟩) nl.toNat nc.toNat) ?_ (show zah (.cells _ _) from rfl) (zht h7 (by omega) (by simp at hzc ⊢; rw [hzc]; exact Nat.le_refl _)) h5 h6
     have hzo : zkt P e = some z := by simp [zkt, hi, hz]
     have hso : zjc P e = some i.size := by simp [zjc, hi]
     have hb2 : (2 : Int) ^ 48 = 281474976710656 := by decide +kernel
     have hbig : ¬ ((i.bytes : Int) * nc > 2 ^ 48) := by rw [hb2]; omega
     have htl : ¬ ((nc < 0) ∨ (i.bytes : Int) * nc > 2 ^ 48) := by
      rintro (hx | hx)
      ·omega
      ·exact hbig hx
     unfold Instr.makeSlice
     simp only [Sem.run_bind, zz7 hu, Result.andThen_ok, hlv.raw_inv, hcv.raw_inv, asInt, asIntOf, Sem.run_pure, zw9 hi]
     rw [hwrap nl h0 (by omega), hwrap nc (by omega) h3]
     rw [if_neg (by simp only [Bool.or_eq_true, decide_eq_true_eq]; omega)]
     have hask : ∀ n, (askRoom n).run P w = .ok () w := fun n => by
      unfold askRoom; split <;> simp [mark, Sem.run]
     have hcells : ∀ zero : Array Value, (nc.toNat * i.size = 0 ∨ zero = z.cells) → (Array.range (nc.toNat * i.size)).map (fun x => zero[x % zero.size]!) = ((Array.range (nc.toNat * z.cells.toList.length)).map (fun x => z.cells.toList.toArray[x % z.cells.toList.toArray.size]!)).toList.toArray := fun zero hzz => by
      rw [hzc]
      rcases hzz with h0 | rfl
      ·rw [h0]; simp
      ·simp only [Array.toArray_toList]
     simp only [Sem.run_bind, Sem.run_pure, Result.andThen_ok, hask, zy4 hso]
     by_cases hz0 : nc.toNat * i.size = 0
     ·rw [if_pos hz0]
      simp only [Sem.run_bind, Sem.run_pure, Result.andThen_ok]
      rw [hcells _ (.inl hz0), h4]
      simp
     ·rw [if_neg hz0]
      simp only [Sem.run_bind, Sem.run_pure, zyj hzo, Result.andThen_ok]
      rw [hcells _ (.inr rfl), h4]
      simp
    ·cases ha
   ·cases ha
  ·cases hc
 ·cases hc
theorem zda (h : HRel P B ρ H w) {t : TypeId} {r : Option Operand} (hop : o.op = .makeMap t r) (hc : cOp P o.op = some ao) (ha : aOp tm ao H = some (av, H')) : zyf .makes P B ρ H w (execOp ce o) av H' := by
 rw [hop] at hc
 cases r with
 | some r => cases hc
 | none =>
  simp only [cOp] at hc
  split at hc
  ·cases hc
   simp only [aOp] at ha
   cases ha
   have he : execOp ce o = (do Pure.pure (.value (← Instr.makeMap t none))) := by simp [execOp, hop]
   rw [he]
   have hn := h.fresh H.next 0 (Nat.le_refl _)
   have hp := h.push (o := .map [] 0) (co := .map #[] 0) (s := 0) (n := 0) (fun l => by simp)
    ⟨fun v hv => by rw [Ren.put_ne _ _ (by omega)]; exact h.fresh _ _ (Nat.le_refl _), _, #[], Ren.put_same _ _ _ _, World.alloc_heap_new _ _, trivial⟩
   refine .mk (cv := .map (some w.heap.size)) (co := .map #[] 0) ?_ trivial (.map (Ren.put_same ρ H.next 0 _)) hp (Ren.put_le hn)
   simp [Instr.makeMap]
  ·cases hc
theorem zgl (h : HRel P B ρ H w) (hev : zvg ρ tm ce) {fn : Fn} {first caps : Array Operand} (hop : o.op = .makeFunc fn first caps) (hc : cOp P o.op = some ao) (ha : aOp tm ao H = some (av, H')) : zyf .quiet P B ρ H w (execOp ce o) av H' := by
 rw [hop] at hc
 simp only [cOp] at hc
 split at hc
 ·rename_i hf
  obtain ⟨acaps, hac, rfl⟩ := Option.map_eq_some_iff.1 hc
  simp only [aOp] at ha
  cases ha
  have hf' : first = #[] := by simpa using hf
  subst hf'
  refine .pure h (cv := .func fn #[] (caps.toList.map ce).toArray) ?_ (.func (zb9 hev hac))
  simp [execOp, hop, Instr.makeFunc]
  rw [← Array.toList_map, Array.toArray_toList]
 ·cases hc
theorem zh2 (h : HRel P B ρ H w) (hev : zvg ρ tm ce) {t : TypeId} {x : Operand} (hop : o.op = .makeInterface t x) (hc : cOp P o.op = some ao) (ha : aOp tm ao H = some (av, H')) : zyf .quiet P B ρ H w (execOp ce o) av H' := by
 rw [hop] at hc
 simp only [cOp] at hc
 split at hc
 ·cases hc
 ·cases hc
 ·rename_i d hno hd
  obtain ⟨ax, hx, rfl⟩ := Option.map_eq_some_iff.1 hc
  simp only [aOp] at ha
  cases ha
  have he : execOp ce o = (do Pure.pure (.value (← Instr.makeInterface t (ce x)))) := by simp [execOp, hop]
  rw [he]
  refine .v h (cv := .iface t (ce x)) ?_ (.iface (hev _ _ hx))
  simp only [Instr.makeInterface, Sem.run_bind, zz7 hd, Result.andThen_ok]
  cases d <;> simp at hno ⊢
theorem zcz (h : HRel P B ρ H w) (hev : zvg ρ tm ce) {x : Operand} {i : Nat} (hop : o.op = .extract x i) (hc : cOp P o.op = some ao) (ha : aOp tm ao H = some (av, H')) : zyf .quiet P B ρ H w (execOp ce o) av H' := by
 rw [hop] at hc
 simp only [cOp, Option.map_eq_some_iff] at hc
 obtain ⟨ax, hx, rfl⟩ := hc
 have hxv := hev _ _ hx
 simp only [aOp] at ha
 split at ha
 ·rename_i vs hxe
  obtain ⟨v, hv, heq⟩ := Option.map_eq_some_iff.1 ha
  cases heq
  rw [hxe] at hxv
  obtain ⟨cs, hcs, hcx⟩ := hxv.tuple_inv
  obtain ⟨cv, h1, h2⟩ := hcs.get _ _ hv
  have he : execOp ce o = (do Pure.pure (.value (← Instr.extract (ce x) i))) := by simp [execOp, hop]
  rw [he]
  refine .v h (cv := cv) ?_ h2
  simp [Instr.extract, hcx, h1]
 ·cases ha
def zbw (d : Nat) (xs ys : Array Value) : List Field → Sem Bool
  | [] => pure true
  | f :: r => if f.name ≠ "_" then do
      if !(← Op.equalIn d f.type (← part f.type xs f.offset) (← part f.type ys f.offset)) then return false
      zbw d xs ys r
    else zbw d xs ys r
theorem zb4 (d : Nat) (t : TypeId) (fs : Array Field) (xs ys : Array Value) (ht : P.underlying t = some (.struct fs)) (hp : P.stoodInHeld t = false) :
  (Op.equalIn (d + 1) t (.agg xs) (.agg ys)).run P w = (zbw d xs ys fs.toList).run P w := by
 simp only [Op.equalIn, Sem.run_bind, run_underlying ht, Result.andThen_ok, run_program, hp, Bool.false_eq_true, if_false]
 rw [← Array.forIn_toList]
 generalize fs.toList = fs
 clear ht
 induction fs generalizing w with
 | nil => simp [zbw]
 | cons f r ih =>
  simp only [List.forIn_cons, zbw]
  by_cases hn : f.name = "_"
  ·simp only [hn, ne_eq, not_true_eq_false, if_false]
   simp only [Sem.run_bind, Sem.run_pure, Result.andThen_ok] at ih ⊢
   exact ih
  ·simp only [ne_eq, hn, not_false_eq_true, if_true, Sem.run_bind, Result.andThen_ok] at ih ⊢
   cases h1 : (part f.type xs f.offset).run P w with
   | halt x w1 => simp
   | ok v w1 =>
    simp only [Result.andThen_ok]
    cases h2 : (part f.type ys f.offset).run P w1 with
    | halt x w2 => simp
    | ok u w2 =>
     simp only [Result.andThen_ok]
     cases h3 : (Op.equalIn d f.type v u).run P w2 with
     | halt x w3 => simp
     | ok b w3 =>
      cases b
      ·simp
      ·simpa using ih (w := w3)
def zke (d : Nat) (e : TypeId) (n : Nat) (xs ys : Array Value) : Nat → Nat → Sem Bool
 | _, 0 => pure true
 | i, k + 1 => do
  if !(← Op.equalIn d e (← part e xs (i * n)) (← part e ys (i * n))) then return false
  zke d e n xs ys (i + 1) k
theorem zt2 (d : Nat) (t e : TypeId) (len n : Nat) (xs ys : Array Value) (ht : P.underlying t = some (.array len e)) (hn : zjc P e = some n) :
  (Op.equalIn (d + 1) t (.agg xs) (.agg ys)).run P w = (zke d e n xs ys 0 len).run P w := by
 simp only [Op.equalIn, Sem.run_bind, run_underlying ht, Result.andThen_ok, zy4 hn]
 rw [Std.Legacy.Range.forIn_eq_forIn_range']
 simp only [Std.Legacy.Range.size, Nat.sub_zero, Nat.add_one_sub_one, Nat.div_one]
 have key : ∀ (k i : Nat) (w : World), ((forIn (m := Sem) (List.range' i k 1) ((none, ()) : Option Bool × Unit) fun i r => do
   if (!(← Op.equalIn d e (← part e xs (i * n)) (← part e ys (i * n)))) = true then Pure.pure (ForInStep.done (some false, ()))
   else Pure.pure (ForInStep.yield (none, ()))).run P w).andThen (fun r w' => (match r.fst with | some a => Pure.pure a | none => Pure.pure true : Sem Bool).run P w') = (zke d e n xs ys i k).run P w := by
  intro k
  induction k with
  | zero => intro i w; simp [zke]
  | succ k ih =>
   intro i w
   simp only [List.range'_succ, List.forIn_cons, zke, Sem.run_bind]
   cases h1 : (part e xs (i * n)).run P w with
   | halt x w1 => simp
   | ok v w1 =>
    simp only [Result.andThen_ok]
    cases h2 : (part e ys (i * n)).run P w1 with
    | halt x w2 => simp
    | ok u w2 =>
     simp only [Result.andThen_ok]
     cases h3 : (Op.equalIn d e v u).run P w2 with
     | halt x w3 => simp
     | ok b w3 =>
      cases b
      ·simp
      ·simpa using ih (i + 1) w3
 refine Eq.trans ?_ (key len 0 w)
 congr 1
 funext r w'
 rcases r with ⟨_ | _, _⟩ <;> rfl
theorem zuy {d : Nat} {f : TypeId → Option zv6} (hf : ∀ t p, f t = some p → ∀ (x y : AVal) (cx cy : Value) (r : Bool), VRel ρ x cx → VRel ρ y cy → zxh p x y = some r → (Op.equalIn d t cx cy).run P w = .ok r w)
  {xs ys : List AVal} {cxs cys : List Value} (hx : VRels ρ xs cxs) (hy : VRels ρ ys cys) : ∀ (fs : List Field) (p : zv6) (r : Bool), zmx P f fs = some p → zxh p (.agg xs) (.agg ys) = some r →
   (zbw d cxs.toArray cys.toArray fs).run P w = .ok r w
 | [], p, r, hp, hr => by
  simp [zmx] at hp; subst hp
  simp [zxh] at hr; subst hr
  simp [zbw]
 | fd :: fs, p, r, hp, hr => by
  simp only [zmx] at hp
  split at hp
  ·rename_i hn
   simp only [zbw, hn, ne_eq, not_true_eq_false, if_false]
   exact zuy hf hx hy fs p r hp hr
  ·rename_i hn
   simp only [Option.bind_eq_some_iff, Option.map_eq_some_iff] at hp
   obtain ⟨⟨a, n⟩, hps, q, hq, rest, hrest, rfl⟩ := hp
   simp only [zxh, Option.bind_eq_some_iff] at hr
   obtain ⟨x, h1, y, h2, b, h3, hr⟩ := hr
   obtain ⟨cx, h4, h5⟩ := zju (P := P) (w := w) hps hx h1
   obtain ⟨cy, h6, h7⟩ := zju (P := P) (w := w) hps hy h2
   have h8 := hf _ _ hq x y cx cy b h5 h7 h3
   simp only [zbw, ne_eq, hn, not_false_eq_true, if_true, Sem.run_bind, h4, h6, h8, Result.andThen_ok]
   cases b
   ·simp at hr; subst hr; simp
   ·simp only [if_true] at hr
    simpa using zuy hf hx hy fs rest r hrest hr
theorem zrz {f : TypeId → Option zv6} {x y : AVal} {r : Bool} : ∀ (fs : List Field) (p : zv6), zmx P f fs = some p → zxh p x y = some r → ∃ xs ys, x = .agg xs ∧ y = .agg ys
 | [], p, hp, hr => by
  simp [zmx] at hp; subst hp
  simp only [zxh] at hr
  split at hr
  ·exact ⟨_, _, rfl, rfl⟩
  ·cases hr
 | fd :: fs, p, hp, hr => by
  simp only [zmx] at hp
  split at hp
  ·exact zrz fs p hp hr
  ·simp only [Option.bind_eq_some_iff, Option.map_eq_some_iff] at hp
   obtain ⟨_, _, _, _, _, _, rfl⟩ := hp
   simp only [zxh] at hr
   split at hr
   ·exact ⟨_, _, rfl, rfl⟩
   ·cases hr
theorem zbb {d : Nat} {e : TypeId} {agg : Bool} {esz : Nat} (hps : zjs P e = some (agg, esz)) {f : AVal → AVal → Option Bool}
  (hf : ∀ (x y : AVal) (cx cy : Value) (r : Bool), VRel ρ x cx → VRel ρ y cy → f x y = some r → (Op.equalIn d e cx cy).run P w = .ok r w)
  {xs ys : List AVal} {cxs cys : List Value} (hx : VRels ρ xs cxs) (hy : VRels ρ ys cys) : ∀ (k i : Nat) (r : Bool), zj6 f agg esz xs ys i k = some r →
   (zke d e esz cxs.toArray cys.toArray i k).run P w = .ok r w
 | 0, i, r, hr => by
  simp [zj6] at hr; subst hr; simp [zke]
 | k + 1, i, r, hr => by
  simp only [zj6, Option.bind_eq_some_iff] at hr
  obtain ⟨x, h1, y, h2, b, h3, hr⟩ := hr
  obtain ⟨cx, h4, h5⟩ := zju (P := P) (w := w) hps hx h1
  obtain ⟨cy, h6, h7⟩ := zju (P := P) (w := w) hps hy h2
  have h8 := hf x y cx cy b h5 h7 h3
  simp only [zke, Sem.run_bind, h4, h6, h8, Result.andThen_ok]
  cases b
  ·simp at hr; subst hr; simp
  ·simp only [if_true] at hr
   simpa using zbb hps hf hx hy k (i + 1) r hr
theorem zps : ∀ (fuel : Nat) (t : TypeId) (p : zv6), cEq P fuel t = some p → ∀ d, fuel ≤ d → ∀ (x y : AVal) (cx cy : Value) (r : Bool), VRel ρ x cx → VRel ρ y cy → zxh p x y = some r →
  (Op.equalIn d t cx cy).run P w = .ok r w
 | 0, t, p, hp, _, _, _, _, _, _, _, _, _, _ => by simp [cEq] at hp
 | fuel + 1, t, p, hp, 0, hd, _, _, _, _, _, _, _, _ => by omega
 | fuel + 1, t, p, hp, d + 1, hd, x, y, cx, cy, r, hx, hy, hr => by
  have ih := fun t p hp => zps fuel t p hp d (by omega)
  simp only [cEq] at hp
  split at hp
  ·rename_i hu
   cases hp
   simp only [zxh] at hr
   split at hr
   ·cases hr
    rw [hx.raw_inv, hy.raw_inv]
    simp [Op.equalIn, zz7 hu]
   ·cases hr
  ·rename_i k hu
   cases hp
   simp only [zxh] at hr
   split at hr
   ·split at hr
    ·rename_i hk
     cases hr
     subst hk
     rw [hx.raw_inv, hy.raw_inv]
     simp [Op.equalIn, zz7 hu, ieq_eq]
     rw [Bool.eq_iff_iff]; simp
    ·cases hr
   ·cases hr
  ·rename_i hu
   cases hp
   simp only [zxh] at hr
   split at hr
   ·cases hr
    rw [hx.raw_inv, hy.raw_inv, zsq]
    simp only [Op.equalIn, Sem.run_bind, zz7 hu, Result.andThen_ok, Sem.run_pure]
    congr 1
    rename_i a b
    have h1 : (a == b) = (a.data == b.data) := by cases a; cases b; rfl
    rw [h1, Bool.eq_iff_iff, beq_iff_eq, beq_iff_eq]
    constructor
    ·intro h; rw [h]
    ·intro h; exact Array.ext' h
   ·cases hr
  ·rename_i e hu
   cases hp
   simp only [zxh] at hr
   split at hr
   ·cases hr
    rw [hx.raw_inv, hy.raw_inv]
    simp [Op.equalIn, zz7 hu]
   ·cases hr
    obtain ⟨l, a, cap, _, hcx, _⟩ := hx.slice_inv
    rw [hcx, hy.raw_inv]
    simp [Op.equalIn, zz7 hu]
   ·cases hr
    obtain ⟨l, a, cap, _, hcy, _⟩ := hy.slice_inv
    rw [hcy, hx.raw_inv]
    simp [Op.equalIn, zz7 hu]
   ·cases hr
  ·rename_i k e hu
   cases hp
   simp only [zxh] at hr
   split at hr
   ·cases hr
    rw [hx.raw_inv, hy.raw_inv]
    simp [Op.equalIn, zz7 hu]
   ·cases hr
    obtain ⟨l, _, hcx⟩ := hx.map_inv
    rw [hcx, hy.raw_inv]
    simp [Op.equalIn, zz7 hu]
   ·cases hr
    obtain ⟨l, _, hcy⟩ := hy.map_inv
    rw [hcy, hx.raw_inv]
    simp [Op.equalIn, zz7 hu]
   ·cases hr
  ·rename_i a b c hu
   cases hp
   simp only [zxh] at hr
   split at hr
   ·cases hr
    rw [hx.raw_inv, hy.raw_inv]
    simp [Op.equalIn, zz7 hu]
   ·cases hr
    obtain ⟨l, _, hcx⟩ := hx.func_inv
    rw [hcx, hy.raw_inv]
    simp [Op.equalIn, zz7 hu]
   ·cases hr
    obtain ⟨l, _, hcx⟩ := hx.yield_inv
    rw [hcx, hy.raw_inv]
    simp [Op.equalIn, zz7 hu]
   ·cases hr
    obtain ⟨l, _, hcy⟩ := hy.func_inv
    rw [hcy, hx.raw_inv]
    simp [Op.equalIn, zz7 hu]
   ·cases hr
  ·rename_i e hu
   cases hp
   simp only [zxh] at hr
   split at hr
   ·cases hr
    rw [hx.raw_inv, hy.raw_inv]
    simp [Op.equalIn, zz7 hu]
   ·cases hr
    obtain ⟨l, _, hcx⟩ := hx.ptr_inv
    rw [hcx, hy.raw_inv]
    simp [Op.equalIn, zz7 hu]
   ·cases hr
    obtain ⟨l, _, hcy⟩ := hy.ptr_inv
    rw [hcy, hx.raw_inv]
    simp [Op.equalIn, zz7 hu]
   ·cases hr
  ·rename_i fs hu
   split at hp
   ·cases hp
   ·rename_i hst
    have hxy := zrz fs.toList p hp hr
    obtain ⟨xs, ys, rfl, rfl⟩ := hxy
    obtain ⟨cxs, hcx, rfl⟩ := hx.agg_inv
    obtain ⟨cys, hcy, rfl⟩ := hy.agg_inv
    rw [zb4 d t fs _ _ hu (by simpa using hst)]
    exact zuy (fun t p hp x y cx cy r => ih t p hp x y cx cy r) hcx hcy fs.toList p r hp hr
  ·rename_i n e hu
   simp only [Option.bind_eq_some_iff] at hp
   obtain ⟨⟨a, k⟩, hps, m, hm, hp⟩ := hp
   split at hp
   ·rename_i hkm
    dsimp only at hkm
    subst hkm
    obtain ⟨q, hq, rfl⟩ := Option.map_eq_some_iff.1 hp
    simp only [zxh] at hr
    split at hr
    ·obtain ⟨cxs, hcx, rfl⟩ := hx.agg_inv
     obtain ⟨cys, hcy, rfl⟩ := hy.agg_inv
     rw [zt2 d t e n k _ _ hu hm]
     exact zbb hps (fun x y cx cy r => ih e q hq x y cx cy r) hcx hcy n 0 r hr
    ·cases hr
   ·cases hp
  ·cases hp
end
section
variable {P : Program} {B : Base} {ρ : Ren} {H H' : zz6} {w w' : World} {tm : List AVal} {ce : Operand → Value} {o : Oper} {av : AVal} {ao : AOp}
theorem zdb {op : BinOp} {t : TypeId} {x y : AOpd} (h : ykd P op t x y = some ao) : ao = .bin op x y ∨
  ∃ d p, (op = .eql ∨ op = .neq) ∧ P.underlying t = some d ∧ (∀ k, d ≠ .int k) ∧ d ≠ .string ∧ (zj3 d && P.eqGuardType P.depth t) = false ∧ cEq P 20 t = some p ∧ ao = .eqP (op == .neq) p x y := by
 unfold ykd at h
 split at h
 ·split at h
  ·cases h; exact .inl rfl
  ·cases h; exact .inl rfl
  ·rename_i d h1 h2 hd
   split at h
   ·cases h
   ·rename_i hg
    obtain ⟨p, hp, rfl⟩ := Option.map_eq_some_iff.1 h
    exact .inr ⟨d, p, .inl rfl, hd, fun k hk => h1 k hk, fun hk => h2 hk, by simpa using hg, hp, rfl⟩
  ·cases h
 ·split at h
  ·cases h; exact .inl rfl
  ·cases h; exact .inl rfl
  ·rename_i d h1 h2 hd
   split at h
   ·cases h
   ·rename_i hg
    obtain ⟨p, hp, rfl⟩ := Option.map_eq_some_iff.1 h
    exact .inr ⟨d, p, .inr rfl, hd, fun k hk => h1 k hk, fun hk => h2 hk, by simpa using hg, hp, rfl⟩
  ·cases h
 ·split at h
  ·cases h; exact .inl rfl
  ·cases h; exact .inl rfl
  ·cases h
theorem zd8 {f : Nat} {p : zv6} {t : TypeId} {d : TypeDesc} (ht : P.underlying t = some d) (h1 : ∀ k, d ≠ .int k) (h2 : d ≠ .string) (hp : cEq P (f + 1) t = some p) {x y : AVal} {cx cy : Value} {r : Bool} (hx : VRel ρ x cx) (hy : VRel ρ y cy)
  (hr : zxh p x y = some r) (hg : (zj3 d && P.eqGuardType P.depth t) = false) :
  (∀ op X Y, (eqGuard op t X Y cx cy).run P w = .ok () w) ∧ binOp .eql t cx cy = (do Pure.pure (.bool (← Op.equal t cx cy))) ∧ binOp .neq t cx cy = (do Pure.pure (.bool (!(← Op.equal t cx cy)))) := by
 have agg : ∀ xs ys : Array Value, zj3 d = true → ∀ op X Y, (eqGuard op t X Y (.agg xs) (.agg ys)).run P w = .ok () w := fun xs ys ha op X Y => by
  rw [ha] at hg
  exact run_eqGuard_agg w op t X Y xs ys (by simpa using hg)
 simp only [cEq, ht] at hp
 split at hp
 ·cases hp
  simp only [zxh] at hr
  split at hr
  ·rw [hx.raw_inv, hy.raw_inv]; exact ⟨fun op X Y => by rw [eqGuard_at_bool]; rfl, rfl, rfl⟩
  ·cases hr
 ·rename_i k hd; exact absurd (Option.some.inj hd) (h1 k)
 ·rename_i hd; exact absurd (Option.some.inj hd) h2
 ·cases hp
  simp only [zxh] at hr
  split at hr
  ·rw [hx.raw_inv, hy.raw_inv]; exact ⟨fun op X Y => by rw [eqGuard_at_slice]; rfl, rfl, rfl⟩
  ·obtain ⟨l, a, cap, _, hcx, _⟩ := hx.slice_inv
   rw [hcx, hy.raw_inv]; exact ⟨fun op X Y => by rw [eqGuard_at_slice]; rfl, rfl, rfl⟩
  ·obtain ⟨l, a, cap, _, hcy, _⟩ := hy.slice_inv
   rw [hcy, hx.raw_inv]; exact ⟨fun op X Y => by rw [eqGuard_at_slice]; rfl, rfl, rfl⟩
  ·cases hr
 ·cases hp
  simp only [zxh] at hr
  split at hr
  ·rw [hx.raw_inv, hy.raw_inv]; exact ⟨fun op X Y => by rw [eqGuard_at_map]; rfl, rfl, rfl⟩
  ·obtain ⟨l, _, hcx⟩ := hx.map_inv
   rw [hcx, hy.raw_inv]; exact ⟨fun op X Y => by rw [eqGuard_at_map]; rfl, rfl, rfl⟩
  ·obtain ⟨l, _, hcy⟩ := hy.map_inv
   rw [hcy, hx.raw_inv]; exact ⟨fun op X Y => by rw [eqGuard_at_map]; rfl, rfl, rfl⟩
  ·cases hr
 ·cases hp
  simp only [zxh] at hr
  split at hr
  ·rw [hx.raw_inv, hy.raw_inv]; exact ⟨fun op X Y => by rw [eqGuard_at_nilFunc]; rfl, rfl, rfl⟩
  ·obtain ⟨l, _, hcx⟩ := hx.func_inv
   rw [hcx, hy.raw_inv]; exact ⟨fun op X Y => by rw [eqGuard_at_func]; rfl, rfl, rfl⟩
  ·obtain ⟨l, _, hcx⟩ := hx.yield_inv
   rw [hcx, hy.raw_inv]; exact ⟨fun op X Y => by rw [eqGuard_at_func]; rfl, rfl, rfl⟩
  ·obtain ⟨l, _, hcy⟩ := hy.func_inv
   rw [hcy, hx.raw_inv]; exact ⟨fun op X Y => by rw [eqGuard_at_nilFunc]; rfl, rfl, rfl⟩
  ·cases hr
 ·cases hp
  simp only [zxh] at hr
  split at hr
  ·rw [hx.raw_inv, hy.raw_inv]; exact ⟨fun op X Y => by rw [eqGuard_at_pointer]; rfl, rfl, rfl⟩
  ·obtain ⟨l, _, hcx⟩ := hx.ptr_inv
   rw [hcx, hy.raw_inv]; exact ⟨fun op X Y => by rw [eqGuard_at_pointer]; rfl, rfl, rfl⟩
  ·obtain ⟨l, _, hcy⟩ := hy.ptr_inv
   rw [hcy, hx.raw_inv]; exact ⟨fun op X Y => by rw [eqGuard_at_pointer]; rfl, rfl, rfl⟩
  ·cases hr
 ·rename_i fs hd
  cases hd
  split at hp
  ·cases hp
  ·obtain ⟨xs, ys, rfl, rfl⟩ := zrz fs.toList p hp hr
   obtain ⟨cxs, _, rfl⟩ := hx.agg_inv
   obtain ⟨cys, _, rfl⟩ := hy.agg_inv
   exact ⟨agg _ _ rfl, rfl, rfl⟩
 ·rename_i n e hd
  cases hd
  simp only [Option.bind_eq_some_iff] at hp
  obtain ⟨⟨a, k⟩, hps, m, hm, hp⟩ := hp
  split at hp
  ·obtain ⟨q, hq, rfl⟩ := Option.map_eq_some_iff.1 hp
   simp only [zxh] at hr
   split at hr
   ·obtain ⟨cxs, _, rfl⟩ := hx.agg_inv
    obtain ⟨cys, _, rfl⟩ := hy.agg_inv
    exact ⟨agg _ _ rfl, rfl, rfl⟩
   ·cases hr
  ·cases hp
 ·cases hp
theorem ykj (h : HRel P B ρ H w) (hev : zvg ρ tm ce) {op : BinOp} {t yt : TypeId} {x y : Operand} (hop : o.op = .binOp op t x y yt) (hc : cOp P o.op = some ao) (ha : aOp tm ao H = some (av, H')) :
  zyf .quiet P B ρ H w (execOp ce o) av H' := by
 rw [hop] at hc
 simp only [cOp, Option.bind_eq_some_iff] at hc
 obtain ⟨ax, hx, ay, hy, hc⟩ := hc
 have hxv := hev _ _ hx
 have hyv := hev _ _ hy
 have he : execOp ce o = (do Pure.pure (.value (← (do eqGuard op t x y (ce x) (ce y); binOp op t (ce x) (ce y))))) := by simp [execOp, hop]
 rw [he]
 rcases zdb hc with rfl | ⟨d, p, hop', ht, h1, h2, hg, hp, rfl⟩
 ·simp only [aOp, Option.map_eq_some_iff] at ha
  obtain ⟨_, hb, heq⟩ := ha
  cases heq
  obtain ⟨cv, rfl, h1, h2⟩ := zc8 (P := P) (w := w) t hb hxv hyv
  refine .v h (cv := cv) ?_ (.raw _)
  rw [h2]
  simpa using h1
 ·simp only [aOp, Option.map_eq_some_iff] at ha
  obtain ⟨_, ⟨b, hb, rfl⟩, heq⟩ := ha
  cases heq
  obtain ⟨g1, g2, g3⟩ := zd8 (P := P) (w := w) ht h1 h2 hp hxv hyv hb hg
  have hfin := zps (P := P) (w := w) 20 t p hp Op.maxDepth (by decide) _ _ _ _ _ hxv hyv hb
  rcases hop' with rfl | rfl
  ·refine .v h (cv := .bool b) ?_ (.raw _)
   rw [Sem.run_bind, g1]
   simp only [Result.andThen_ok, g2, Sem.run_bind, Op.equal, hfin, Sem.run_pure]
  ·refine .v h (cv := .bool (!b)) ?_ (.raw _)
   rw [Sem.run_bind, g1]
   simp only [Result.andThen_ok, g3, Sem.run_bind, Op.equal, hfin, Sem.run_pure]
theorem zn5 : ∀ {cells : List AVal} {vs : List Value} {bs : List UInt8}, VRels ρ cells vs → zls cells = some bs → vs.map (fun v => match v with | .int .u8 n => UInt8.ofNat n.toNat | _ => 0) = bs ∧ ∀ v ∈ vs, ∃ n, v = .int .u8 n
 | [], _, bs, .nil, h => by simp [zls] at h; subst h; simp
 | c :: cells, v :: vs, bs, .cons hv hvs, h => by
  unfold zls at h
  split at h
  ·rename_i heq; cases heq
  ·rename_i n r heq
   cases heq
   obtain ⟨bs', hb, rfl⟩ := Option.map_eq_some_iff.1 h
   obtain ⟨h1, h2⟩ := zn5 hvs hb
   rw [hv.raw_inv]
   refine ⟨by simp [← h1], fun u hu => ?_⟩
   rcases List.mem_cons.1 hu with rfl | hu
   ·exact ⟨n, rfl⟩
   ·exact h2 u hu
  ·cases h
theorem zwa (f : Value → ByteArray → Sem (ForInStep ByteArray)) (hf : ∀ n r, f (.int .u8 n) r = Pure.pure (ForInStep.yield (r.push (UInt8.ofNat n.toNat)))) : ∀ (vs : List Value) (s : ByteArray) (w : World), (∀ v ∈ vs, ∃ n, v = .int .u8 n) →
  (forIn (m := Sem) vs s f).run P w = .ok ⟨s.data ++ (vs.map (fun v => match v with | .int .u8 n => UInt8.ofNat n.toNat | _ => 0)).toArray⟩ w
 | [], s, w, _ => by simp
 | v :: vs, s, w, h => by
  obtain ⟨n, rfl⟩ := h v (by simp)
  simp only [List.forIn_cons, Sem.run_bind, hf, Sem.run_pure, Result.andThen_ok]
  rw [zwa f hf vs _ w (fun u hu => h u (by simp [hu]))]
  congr 2
  apply Array.ext'
  simp [ByteArray.push]
theorem yvr (h : HRel P B ρ H w) (hev : zvg ρ tm ce) {src dst : TypeId} {x : Operand} (hop : o.op = .convert src dst x) (hc : cOp P o.op = some ao) (ha : aOp tm ao H = some (av, H')) :
  zyf .quiet P B ρ H w (execOp ce o) av H' := by
 rw [hop] at hc
 simp only [cOp, Option.bind_eq_some_iff] at hc
 obtain ⟨ax, hx, hc⟩ := hc
 have hxv := hev _ _ hx
 have he : execOp ce o = (do Pure.pure (.value (← convert src dst (ce x)))) := by simp [execOp, hop]
 rw [he]
 unfold yw3 at hc
 split at hc
 ·rename_i k' k hs hd
  cases hc
  simp only [aOp] at ha
  split at ha
  ·rename_i k0 n hxe
   cases ha
   rw [hxe] at hxv
   refine .v h (cv := .int k (zq3 k n)) ?_ (.raw _)
   simp [convert, zz7 hs, zz7 hd, hxv.raw_inv, Conv.intToInt, zk6]
  ·cases ha
 ·rename_i hs hd
  cases hc
  simp only [aOp] at ha
  split at ha
  ·rename_i s hxe
   cases ha
   rw [hxe] at hxv
   refine .v h (cv := .string s) ?_ (.raw _)
   simp [convert, zz7 hs, zz7 hd, hxv.raw_inv]
  ·cases ha
 ·rename_i e hs hd
  split at hc
  ·rename_i hu8
   cases hc
   simp only [aOp, Option.map_eq_some_iff, Option.bind_eq_some_iff] at ha
   obtain ⟨_, ⟨cells, hcells, bs, hbs, rfl⟩, heq⟩ := ha
   cases heq
   obtain ⟨m, hm⟩ : ∃ m, zjl (ev tm ax) = some m := by
    unfold aCells at hcells
    split at hcells
    ·rename_i hxe; exact ⟨0, by rw [hxe]; rfl⟩
    ·rename_i hxe; exact ⟨_, by rw [hxe]; rfl⟩
    ·cases hcells
   obtain ⟨a, cap, cvs, hcx, hor, hrel, hlen⟩ := zvs (P := P) h hxv hcells hm
   obtain ⟨h1, h2⟩ := zn5 hrel hbs
   have hcl := hrel.length
   have hconv : convert src dst (ce x) = convert src dst (.slice a m cap) := by rw [hcx]
   rw [hconv]
   rcases hor with ⟨rfl, rfl⟩ | ⟨ad, rfl, hload⟩
   ·have : cvs = [] := by
     apply List.eq_nil_of_length_eq_zero; omega
    subst this
    simp at h1; subst h1
    refine .v h (cv := .string .empty) ?_ (.raw _)
    simp [convert, zz7 hs, zz7 hd, zz7 hu8, Conv.bytesToString]
   ·have hl := hload m (Nat.le_refl _)
    rw [Nat.mul_one] at hl hlen
    rw [List.take_of_length_le (by omega)] at hl
    refine .v h (cv := .string ⟨bs.toArray⟩) ?_ (.raw _)
    simp only [convert, Sem.run_bind, zz7 hs, zz7 hd, zz7 hu8, Result.andThen_ok, Conv.bytesToString, hl]
    rw [← Array.forIn_toList]
    rw [zwa _ (fun n r => rfl) cvs.toArray.toList ByteArray.empty w h2]
    simp only [Result.andThen_ok, Sem.run_pure]
    rw [h1]
    congr 3
    simp
  ·cases hc
 ·cases hc
end
end Go.Vm
