/- What By tells, as plain data; its map of own rows. -/
import Derived.Test.YthbjfkkjmecaaaaY26
import Derived.Test.YthbjfkkjmecaaaaY17
import Derived.Test.YthbjfkkjmecaaaaProg
set_option linter.unusedVariables false
set_option linter.unusedSimpArgs false
namespace Go.Proofs.Ythbjfkkjmecaaaa
open Go Go.Vm
section
variable {H H' : zz6} {N A : Nat} {v : AVal} {rows l : List RowD} {ocs : List (List AVal)} {r : RowD} {x : TxD} {m : Int}
structure zyw where
 good : Bool
 tx : Int
 read : Int
 want : List AVal
def zyw.cells (f : zyw) : List AVal := zzt f.good :: vi f.tx :: vi f.read :: f.want
def zc5 : zyw := ⟨true, -1, -1, zzd⟩
def yq6 : zyw := ⟨false, 0, 0, zzd⟩
abbrev zkc := List (List AVal)
def atM (m : zkc) (b : Int) : List AVal := (m[b.toNat]?).getD zzd
open Classical in
noncomputable def zv5 (place : Int) (st : zyw × zkc × Nat) (r : RowD) : zyw × zkc × Nat :=
 if r.kind = 6 then (st.1, st.2.1.set r.blk.toNat r.val, st.2.2)
 else (if st.1.good = true ∧ atM st.2.1 r.blk ≠ r.val then ⟨false, place, st.2.2, atM st.2.1 r.blk⟩ else st.1, st.2.1, st.2.2 + 1)
def zqt (rows : List RowD) (txs : List TxD) (p : Int) : List RowD := match txs[p.toNat]? with
 | some x => zf2 rows x
 | none => []
noncomputable def ywn (rows : List RowD) (txs : List TxD) (st : zyw × zkc) (p : Int) : zyw × zkc :=
 let z := (zqt rows txs p).foldl (zv5 p) (st.1, st.2, 0)
 (z.1, z.2.1)
def okP (rows : List RowD) (m : Int) (txs : List TxD) (p : Int) : Prop := 0 ≤ p ∧ p < txs.length ∧ (zqt rows txs p).any (zp3 m) = false
def okO (rows : List RowD) (m : Int) (txs : List TxD) (ps : List Int) : Prop := ps.Nodup ∧ ∀ p ∈ ps, okP rows m txs p
abbrev zll : zkc := List.replicate 64 zzd
open Classical in
noncomputable def byD (rows : List RowD) (m : Int) (order : List Int) : Except Int (zyw × zkc) :=
 if ¬ (1 ≤ m ∧ m ≤ 64) then .error 2 else match zmc rows with
 | none => .error 230
 | some txs => if okO rows m txs order then let z := order.foldl (ywn rows txs) (zc5, zll); .ok (z.1, z.2.take m.toNat) else .error 230
def zl3 (H' : zz6) (N : Nat) (t : Except Int (zyw × zkc)) (v : AVal) : Prop := match t with
 | .ok (f, mm) => ∃ mv, v = .tuple [.agg f.cells, mv, vi 0] ∧ zzw H' N 32 mv mm ∧ zyr f.want ∧ ∀ e ∈ mm, zyr e
 | .error c => v = .tuple [.agg yq6.cells, zxa, vi c]
structure zuj (m : zkc) : Prop where
 len : m.length = 64
 val : ∀ v ∈ m, zyr v
theorem zed : zuj zll := ⟨by simp [-getElem?_pos], fun v hv => by rw [(List.mem_replicate.1 hv).2]; exact zxp⟩
theorem zuj.set {mm : zkc} (h : zuj mm) {k : Nat} {u : List AVal} (hu : zyr u) : zuj (mm.set k u) := ⟨by rw [List.length_set]; exact h.len, fun v hv => by
 rcases List.mem_or_eq_of_mem_set hv with hv | rfl
 ·exact h.val v hv
 ·exact hu⟩
theorem zuj.at {mm : zkc} (h : zuj mm) {b : Int} (h0 : 0 ≤ b) (h1 : b < 64) : mm[b.toNat]? = some (atM mm b) ∧ zyr (atM mm b) := by
 have hl := h.len
 have : mm[b.toNat]? = some (mm[b.toNat]'(by omega)) := List.getElem?_eq_getElem (by omega)
 unfold atM
 rw [this]
 exact ⟨rfl, h.val _ (List.getElem_mem _)⟩
structure zk2 (H : zz6) (N : Nat) (rows : List RowD) (m : Int) (txs : List TxD) (es : zzb) (ps : List Int) : Prop where
 len : es.length = ps.length
 key : es.map (·.1) = ps.map vi
 nodup : ps.Nodup
 ok : ∀ p ∈ ps, okP rows m txs p
 rows_ : ∀ (i : Nat) (e : AVal × AVal × Nat) (p : Int), es[i]? = some e → ps[i]? = some p → ∃ ocs, zzw H N 41 e.2.1 ocs ∧ zqj ocs (zqt rows txs p)
theorem zk2.nil {txs : List TxD} : zk2 H N rows m txs [] [] := ⟨rfl, rfl, List.nodup_nil, by simp [-getElem?_pos], fun i e p h => by simp [-getElem?_pos] at h⟩
variable {txs : List TxD} {es : zzb} {ps : List Int}
theorem zeb (h : ps.Nodup) : (ps.map vi).Nodup := by
 exact List.pairwise_map.2 (h.imp fun hne e => hne (by simpa [-getElem?_pos] using e))
theorem zk2.ints (h : zk2 H N rows m txs es ps) : ∀ e ∈ es, ∃ n, e.1 = vi n := fun e he => by
 have : e.1 ∈ es.map (·.1) := List.mem_map_of_mem (f := fun e : AVal × AVal × Nat => e.1) he
 rw [h.key] at this
 obtain ⟨p, _, hp⟩ := List.mem_map.1 this
 exact ⟨p, hp.symm⟩
theorem zk2.find (h : zk2 H N rows m txs es ps) {i : Nat} {p : Int} (hp : ps[i]? = some p) : ∃ w b ocs, es[i]? = some (vi p, w, b) ∧ zwe .i64 p es 0 = some (some (i, w, b)) ∧ zzw H N 41 w ocs ∧ zqj ocs (zqt rows txs p) := by
 have hi := (List.getElem?_eq_some_iff.1 hp).1
 have hl := h.len
 obtain ⟨⟨k, w, b⟩, he⟩ : ∃ e, es[i]? = some e := ⟨_, List.getElem?_eq_getElem (by omega)⟩
 have hk : k = vi p := by
  have : (es.map (·.1))[i]? = some k := by rw [List.getElem?_map, he]; rfl
  rw [h.key, List.getElem?_map, hp] at this
  simpa [-getElem?_pos] using this.symm
 subst hk
 obtain ⟨ocs, h1, h2⟩ := h.rows_ i _ p he hp
 refine ⟨w, b, ocs, he, ?_, h1, h2⟩
 have := znn (i := 0) h.ints (by rw [h.key]; exact zeb h.nodup) he
 rw [Nat.zero_add] at this
 exact this
theorem zk2.findNo (h : zk2 H N rows m txs es ps) {p : Int} (hp : p ∉ ps) : zwe .i64 p es 0 = some none := zgp fun e he => by
 have : e.1 ∈ es.map (·.1) := List.mem_map_of_mem (f := fun e : AVal × AVal × Nat => e.1) he
 rw [h.key] at this
 obtain ⟨q, hq, e1⟩ := List.mem_map.1 this
 exact ⟨q, e1.symm, fun e2 => hp (by rw [← e2]; exact hq)⟩
theorem zk2.push (h : zk2 H N rows m txs es ps) {p : Int} {w : AVal} {clock : Nat} (hno : p ∉ ps) (hok : okP rows m txs p) (hs : zzw H N 41 w ocs) (hR : zqj ocs (zqt rows txs p)) : zk2 H N rows m txs (es ++ [(vi p, w, clock)]) (ps ++ [p]) := by
 have hl := h.len
 refine ⟨by simp [-getElem?_pos, hl], by simp [-getElem?_pos, h.key], List.nodup_append.2 ⟨h.nodup, by simp [-getElem?_pos], fun a ha b hb => by simp [-getElem?_pos] at hb; subst hb; exact fun e => hno (by rw [← e]; exact ha)⟩, fun q hq => ?_, fun i e q h1 h2 => ?_⟩
 ·rcases List.mem_append.1 hq with hq | hq
  ·exact h.ok q hq
  ·simp [-getElem?_pos] at hq; subst hq; exact hok
 ·rcases Nat.lt_or_ge i ps.length with hi | hi
  ·rw [List.getElem?_append_left (by omega)] at h1 h2
   exact h.rows_ i e q h1 h2
  ·have hi2 := (List.getElem?_eq_some_iff.1 h2).1
   simp [-getElem?_pos] at hi2
   have : i = ps.length := by omega
   subst this
   rw [List.getElem?_concat_length] at h2
   rw [← hl, List.getElem?_concat_length] at h1
   cases h1; cases h2
   exact ⟨ocs, hs, hR⟩
theorem zk2.move (h : zk2 H N rows m txs es ps) (hn : H.next ≤ H'.next) (hg : ∀ A, N ≤ A → A < H.next → H'.get A = H.get A) : zk2 H' N rows m txs es ps := ⟨h.len, h.key, h.nodup, h.ok, fun i e p h1 h2 => by
 obtain ⟨ocs, a, b⟩ := h.rows_ i e p h1 h2
 exact ⟨ocs, a.move (Nat.le_refl _) hn hg, b⟩⟩
end
section
variable {H H' : zz6} {N A : Nat} {v : AVal} {rows l : List RowD} {ocs : List (List AVal)} {r : RowD} {x : TxD} {m : Int}
open Classical in
theorem ywg {xs ys : List AVal} (hx : ∀ c ∈ xs, ∃ n, c = v8 n) (hy : ∀ c ∈ ys, ∃ n, c = v8 n) : ∀ (n i : Nat), xs.length = i + n → ys.length = i + n → zj6 (zxh .int) false 1 xs ys i n = some (decide (xs.drop i = ys.drop i))
 | 0, i, h1, h2 => by
  rw [List.drop_of_length_le (by omega), List.drop_of_length_le (by omega)]; simp [-getElem?_pos, zj6]
 | n + 1, i, h1, h2 => by
  obtain ⟨a, ha⟩ := hx (xs[i]'(by omega)) (List.getElem_mem _)
  obtain ⟨b, hb⟩ := hy (ys[i]'(by omega)) (List.getElem_mem _)
  have ga : xs[i]? = some (v8 a) := by rw [← ha]; exact List.getElem?_eq_getElem _
  have gb : ys[i]? = some (v8 b) := by rw [← hb]; exact List.getElem?_eq_getElem _
  have ih := ywg hx hy n (i + 1) (by omega) (by omega)
  rw [zqe ga, zqe gb]
  have hone : zxh .int (v8 a) (v8 b) = some (decide (a = b)) := by simp only [zxh, if_true, ieq_eq]
  unfold zj6
  simp only [aPart, Nat.mul_one, ga, gb, Bool.false_eq_true, if_false, Option.bind_some, hone, ih]
  by_cases e : a = b <;> simp [-getElem?_pos, e]
open Classical in
theorem ykn {a b : List AVal} (ha : zyr a) (hb : zyr b) : zxh (.arr 32 1 false .int) (.agg a) (.agg b) = some (decide (a = b)) := by
 have := ywg ha.bytes hb.bytes 32 0 (by rw [ha.len]) (by rw [hb.len])
 simpa [-getElem?_pos, zxh] using this
theorem zj7 {a : List AVal} (ha : zyr a) : zxh (.arr 32 1 false .int) (.agg a) (.agg a) = some true := by
 rw [ykn ha ha]; simp [-getElem?_pos]
theorem zne {a b : List AVal} (ha : zyr a) (hb : zyr b) (h : a ≠ b) : zxh (.arr 32 1 false .int) (.agg a) (.agg b) = some false := by
 rw [ykn ha hb]; simp [-getElem?_pos, h]
structure zut (Hb : zz6) (F P I : Nat) (f : zyw) (mm ins : zkc) (H : zz6) : Prop where
 grow : Grow Hb H
 cf : Cells H F f.cells
 cp : Cells H P mm.flatten
 ci : Cells H I ins.flatten
 fw : zyr f.want
 pm : zuj mm
 im : zuj ins
 hF : Hb.next ≤ F ∧ F < H.next
 hP : Hb.next ≤ P ∧ P < H.next
 hI : Hb.next ≤ I ∧ I < H.next
 ne : F ≠ P ∧ F ≠ I ∧ P ≠ I
theorem zut.move {Hb H H' : zz6} {F P I : Nat} {f : zyw} {mm ins : zkc} (h : zut Hb F P I f mm ins H) (hg : Grow H H') : zut Hb F P I f mm ins H' := by
 have hn := hg.next
 obtain ⟨a, b, c, d, e1, e2, e3, e4, e5, e6, e7⟩ := h
 exact ⟨a.trans hg, by unfold Cells; rw [hg.get F e4.2]; exact b, by unfold Cells; rw [hg.get P e5.2]; exact c, by unfold Cells; rw [hg.get I e6.2]; exact d, e1, e2, e3, ⟨e4.1, by omega⟩, ⟨e5.1, by omega⟩, ⟨e6.1, by omega⟩, e7⟩
theorem zut.setI {Hb H : zz6} {F P I : Nat} {f : zyw} {mm ins : zkc} (h : zut Hb F P I f mm ins H) {k : Nat} (hk : k < 64) {u : List AVal} (hu : zyr u) : ∃ H', H.write I 0 (k * 32) u = some H' ∧ zut Hb F P I f mm (ins.set k u) H' ∧ H'.next = H.next := by
 have hl := h.im.len
 have hel : ∀ e ∈ ins, e.length = 32 := fun e he => (h.im.val e he).len
 have hfl := zy1 hel
 obtain ⟨n1, n2, n3⟩ := h.ne
 refine ⟨_, Cells.write h.ci (by have := hu.len; omega) (by have := hu.len; omega) hu.one, ⟨h.grow.set h.hI.1 _, ?_, ?_, ?_, h.fw, h.pm, h.im.set hu, h.hF, h.hP, h.hI, h.ne⟩, rfl⟩
 ·unfold Cells; rw [zz6.zzz _ _ n2]; exact h.cf
 ·unfold Cells; rw [zz6.zzz _ _ n3]; exact h.cp
 ·unfold Cells; rw [zz6.zzy, zjd hu.len k hel (by omega)]
theorem zut.setF {Hb H : zz6} {F P I : Nat} {f g : zyw} {mm ins : zkc} (h : zut Hb F P I f mm ins H) (hg : zyr g.want) : ∃ H', H.write F 0 0 g.cells = some H' ∧ zut Hb F P I g mm ins H' ∧ H'.next = H.next := by
 have h1 : f.cells.length = 35 := by simp [-getElem?_pos, zyw.cells, h.fw.len]
 have h2 : g.cells.length = 35 := by simp [-getElem?_pos, zyw.cells, hg.len]
 obtain ⟨n1, n2, n3⟩ := h.ne
 refine ⟨_, Cells.write h.cf (by omega) (by omega) (by simp only [zyw.cells, List.all_cons, hg.one, Bool.and_true]; rfl), ⟨h.grow.set h.hF.1 _, ?_, ?_, ?_, hg, h.pm, h.im, h.hF, h.hP, h.hI, h.ne⟩, rfl⟩
 ·unfold Cells; rw [zz6.zzy]; simp [-getElem?_pos, spl, h1, h2]
 ·unfold Cells; rw [zz6.zzz _ _ (Ne.symm n1)]; exact h.cp
 ·unfold Cells; rw [zz6.zzz _ _ (Ne.symm n2)]; exact h.ci
end
section
theorem zsn {p m : Nat} : ∀ {vs : zuq} {ver rel : Nat} {l : List AVal}, vs[ver]? = some (some (rel, l)) → ¬ (p < rel + l.length ∧ rel < p + m) → (killAt p m vs)[ver]? = some (some (rel, l))
 | [], ver, rel, l, h, _ => by simp [-getElem?_pos] at h
 | none :: r, 0, rel, l, h, _ => by simp [-getElem?_pos] at h
 | none :: r, ver + 1, rel, l, h, hn => by
  simp only [killAt, List.getElem?_cons_succ] at h ⊢
  exact zsn h hn
 | some (a, b) :: r, 0, rel, l, h, hn => by
  simp only [List.getElem?_cons_zero, Option.some.injEq, Prod.mk.injEq] at h
  obtain ⟨rfl, rfl⟩ := h
  simp only [killAt, List.getElem?_cons_zero]
  rw [if_neg (by simpa [-getElem?_pos] using hn)]
 | some (a, b) :: r, ver + 1, rel, l, h, hn => by
  simp only [killAt, List.getElem?_cons_succ] at h ⊢
  exact zsn h hn
theorem _root_.Go.Vm.zzw.write {H : zz6} {base esz : Nat} {v : AVal} {es : List (List AVal)} (h : zzw H base esz v es) {k : Nat} {e : List AVal} (hk : k < es.length) (he : e.length = esz) (h0 : 0 < esz) (hone : e.all AVal.one = true) :
  ∃ R ver H', v = .slice R ver 0 es.length es.length false esz ∧ H.write R ver (k * esz) e = some H' ∧ zzw H' base esz v (es.set k e) ∧ H'.next = H.next ∧ R < H.next ∧ ∀ A, A ≠ R → H'.get A = H.get A := by
 rcases h with ⟨hes, ⟨rfl, rfl⟩ | ⟨R, ver, vs, h1, h2, rfl, h4, h5⟩⟩
 ·simp [-getElem?_pos] at hk
 ·have hfl := zy1 hes
  have hm : (k + 1) * esz ≤ es.length * esz := Nat.mul_le_mul_right _ hk
  rw [Nat.succ_mul] at hm
  refine ⟨R, ver, H.set R (.row ((killAt (0 + k * esz) e.length vs).set ver (some (0, spl es.flatten (k * esz) e)))), rfl, ?_, ⟨zg9 he hes, .inr ⟨R, ver, _, h1, h2, by simp [-getElem?_pos], zz6.zzy _ _ _, ?_⟩⟩, rfl, h2, fun A hA => zz6.zzz _ _ hA⟩
  ·unfold zz6.write
   rw [h4]
   simp only [h5, he, h0, hone, decide_true, Bool.true_and, Bool.and_true]
   rw [if_pos (by simp [-getElem?_pos]; rw [← List.length_flatten, hfl]; omega)]
  ·rw [List.getElem?_set_self (by rw [zy2]; exact (List.getElem?_eq_some_iff.1 h5).1), zjd he k hes hk]
theorem _root_.Go.Vm.zzw.append2 {H : zz6} {base esz bytes : Nat} {v : AVal} {es : List (List AVal)} (h : zzw H base esz v es) (hb : base ≤ H.next) {e : List AVal} (he : e.length = esz) (h0 : 0 < esz) (hb0 : 0 < bytes)
  (hone : e.all AVal.one = true) (hlen : (es.length + 1) * bytes ≤ 140737488355328) :
  ∃ v' H', zzf (H.push (.row [some (0, e)])) esz bytes v (.slice H.next 0 0 1 1 true esz) = some (v', H') ∧ zzw H' base esz v' (es ++ [e]) ∧ H.next < H'.next ∧ (∀ p : Nat → Prop, v.lies p → (∀ R, H.next ≤ R → p R) → v'.lies p) ∧
   (∀ A, A < H.next → (v.lies fun R => R ≠ A) → H'.get A = H.get A) ∧ ∀ (b2 : Nat) (w : AVal) (es2 : List (List AVal)), zzw H b2 esz w es2 → es2.length ≤ es.length → zzw H' b2 esz w es2 := by
 have hX : (H.push (.row [some (0, e)])).rowAt H.next 0 = some e := by unfold zz6.rowAt; rw [zz6.zzl]; rfl
 have g := Grow.push H (.row [some (0, e)])
 have hnews : aCells (H.push (.row [some (0, e)])) esz (.slice H.next 0 0 1 1 true esz) = some e := by
  simp only [aCells, hX, Option.bind_some, List.drop_zero, Nat.zero_add, Nat.one_mul, ← he, Nat.le_refl, if_true, List.take_length]
 have h00 : ∀ x ∈ es ++ [e], x.length = esz := fun x hx => by
  rcases List.mem_append.1 hx with h1 | h1
  ·exact h.1 x h1
  ·simp [-getElem?_pos] at h1; subst h1; exact he
 rcases h with ⟨hes, ⟨rfl, rfl⟩ | ⟨R, ver, vs, h1, h2, rfl, h4, h5⟩⟩
 ·refine ⟨.slice (H.next + 1) 0 0 1 1 false esz, (H.push (.row [some (0, e)])).push (.row [some (0, e)]), ?_, ⟨h00, .inr ⟨H.next + 1, 0, [some (0, e)], by omega, by simp [-getElem?_pos], rfl, zz6.zzl _ _, by simp [-getElem?_pos]⟩⟩, by simp; omega,
   fun p _ hp R ver off len kcap ex' esz' e' => by cases e'; exact hp _ (by omega), fun A hA _ => by rw [zz6.zz9 _ _ (by simp; omega), g.get A hA], fun b2 w es2 hw hl => ?_⟩
  ·simp only [zzf, zjl, hnews, Option.bind_some, h0, hb0, hone, decide_true, Bool.and_self, if_true]
   simp [-getElem?_pos] at hlen
   simp [-getElem?_pos, hlen]
  ·exact hw.move (Nat.le_refl _) (by simp; omega) fun A _ hA => by rw [zz6.zz9 _ _ (by simp; omega), g.get A hA]
 ·have h4' : (H.push (.row [some (0, e)])).get R = some (.row vs) := by rw [g.get R h2]; exact h4
  have hr : (H.push (.row [some (0, e)])).rowAt R ver = some es.flatten := by unfold zz6.rowAt; rw [h4']; simp only [h5]
  have hfl := zy1 hes
  refine ⟨.slice R vs.length 0 (es.length + 1) (es.length + 1) false esz, (H.push (.row [some (0, e)])).set R (.row (zwy vs (0 + 0 + es.length * esz) e.length (0 + 0) ((es.flatten.drop 0).take (es.length * esz) ++ e))), ?_,
   ⟨h00, .inr ⟨R, vs.length, _, h1, by simp; omega, by simp [-getElem?_pos], zz6.zzy _ _ _, ?_⟩⟩, by simp [-getElem?_pos], fun p hp _ R' ver' off' len' kcap' ex' esz' e' => by cases e'; exact hp R ver 0 _ _ _ _ rfl,
   fun A hA hne => by rw [zz6.zzz _ _ (fun e' => hne R ver 0 _ _ _ _ rfl e'.symm), g.get A hA], fun b2 w es2 hw hl => ?_⟩
  ·have g1 : 0 + es.length * esz ≤ es.flatten.length := by omega
   have g2 : ¬ (es.length + 1 ≤ es.length) := by omega
   simp only [zzf, zjl, hnews, Option.bind_some, h0, hb0, hone, decide_true, Bool.and_self, if_true, g2, if_false, hlen, hr, g1, h4', h5, Bool.false_eq_true]
   simp [-getElem?_pos]
  ·unfold zwy
   rw [List.getElem?_append_right (by rw [zy2]; exact Nat.le_refl _), zy2]
   simp [-getElem?_pos, List.take_of_length_le, hfl]
  ·rcases hw with ⟨hw0, hw | ⟨R2, ver2, vs2, q1, q2, q3, q4, q5⟩⟩
   ·exact ⟨hw0, .inl hw⟩
   ·refine ⟨hw0, ?_⟩
    by_cases hR : R2 = R
    ·subst hR
     rw [h4] at q4
     cases q4
     refine .inr ⟨R2, ver2, zwy vs (0 + 0 + es.length * esz) e.length (0 + 0) ((es.flatten.drop 0).take (es.length * esz) ++ e), q1, by simp; omega, q3, zz6.zzy _ _ _, ?_⟩
     unfold zwy
     rw [List.getElem?_append_left (by rw [zy2]; exact (List.getElem?_eq_some_iff.1 q5).1)]
     refine zsn q5 ?_
     rw [zy1 hw0]
     have : es2.length * esz ≤ es.length * esz := Nat.mul_le_mul_right _ hl
     omega
    ·exact .inr ⟨R2, ver2, vs2, q1, by simp; omega, q3, by rw [zz6.zzz _ _ hR, g.get R2 q2]; exact q4, q5⟩
def mark (i : Nat) (c : Int) : List AVal := v8 (zq3 .u8 ((i : Int) + 1)) :: v8 c :: List.replicate 30 (v8 0)
theorem zm2 (i : Nat) (c : Int) : zyr (mark i c) := by
 refine ⟨by simp [-getElem?_pos, mark], fun x hx => ?_⟩
 simp only [mark, List.mem_cons, List.mem_replicate] at hx
 rcases hx with rfl | rfl | ⟨_, rfl⟩ <;> exact ⟨_, rfl⟩
structure zwf (H : zz6) (own : Nat → Nat) (vl vL : AVal) (avs : List AVal) (lc : Nat → List (List AVal)) (lav : List AVal) (cont : Nat → List (List AVal)) : Prop where
 rdl : RdE H 1 vl (avs.map fun a => [a])
 liesl : vl.lies fun R => R < H.next ∧ own R = 0
 at_ : ∀ (j : Nat) a, avs[j]? = some a → zzw H 0 32 a (lc j) ∧ a.lies fun R => own R = j + 2
 rdL : zzw H 0 1 vL (lav.map fun a => [a])
 liesL : vL.lies fun R => own R = 1
 atL : ∀ (q : Nat) w, lav[q]? = some w → zzw H 0 32 w (cont q) ∧ w.lies fun R => own R = q / 17 + 2
theorem zup {v : AVal} {p q : Nat → Prop} (h1 : v.lies p) (h2 : v.lies q) : v.lies fun R => p R ∧ q R := fun R a b c d e f g => ⟨h1 R a b c d e f g, h2 R a b c d e f g⟩
theorem zq8 {v : AVal} {p q : Nat → Prop} (h1 : v.lies p) (h2 : ∀ R, p R → q R) : v.lies q := fun R a b c d e f g => h2 R (h1 R a b c d e f g)
theorem zwf.grow {H : zz6} {own : Nat → Nat} {vl vL : AVal} {avs : List AVal} {lc : Nat → List (List AVal)} {lav : List AVal} {cont : Nat → List (List AVal)} (h : zwf H own vl vL avs lc lav cont) {i : Nat} {x : AVal} {es : List (List AVal)} (hx : zzw H 0 32 x es) (hxl : x.lies fun R => own R = i + 2)
  (hi : (lc i).length ≤ es.length) (hq : ∀ (q : Nat) w, lav[q]? = some w → q / 17 = i → (cont q).length ≤ es.length) {e : List AVal} (he : zyr e) (hlen : (es.length + 1) * 32 ≤ 140737488355328) :
  ∃ x' H' own', zzf (H.push (.row [some (0, e)])) 32 32 x (.slice H.next 0 0 1 1 true 32) = some (x', H') ∧ zwf H' own' vl vL avs lc lav cont ∧ zzw H' 0 32 x' (es ++ [e]) ∧ (x'.lies fun R => own' R = i + 2) := by
 obtain ⟨x', H', e1, e2, e3, e4, e5, e6⟩ := hx.append2 (bytes := 32) (Nat.zero_le _) he.len (by omega) (by omega) he.one hlen
 -- rows of others stay
 have other : ∀ (w : AVal) (m : List (List AVal)) (c : Nat), zzw H 0 32 w m → (w.lies fun R => own R = c) → (c = i + 2 → m.length ≤ es.length) → zzw H' 0 32 w m := fun w m c hw hc hm => by
  by_cases hci : c = i + 2
  ·exact e6 0 w m hw (hm hci)
  ·rcases hw with ⟨h0, hw | ⟨R, ver, vs, q1, q2, q3, q4, q5⟩⟩
   ·exact ⟨h0, .inl hw⟩
   ·refine ⟨h0, .inr ⟨R, ver, vs, q1, by omega, q3, ?_, q5⟩⟩
    rw [e5 R q2 fun R1 a1 a2 a3 a4 a5 a6 q hRR => ?_]
    ·exact q4
    ·have o1 := hxl R1 a1 a2 a3 a4 a5 a6 q
     have o2 := hc R ver 0 _ _ _ _ q3
     rw [hRR] at o1
     exact hci (o2.symm.trans o1)
 have keep1 : ∀ A, A < H.next → own A ≠ i + 2 → H'.get A = H.get A := fun A hA ho => e5 A hA fun R1 a1 a2 a3 a4 a5 a6 q hRR => by
  have o1 := hxl R1 a1 a2 a3 a4 a5 a6 q
  rw [hRR] at o1
  exact ho o1
 have newo : ∀ R, R < H.next → (if R < H.next then own R else i + 2) = own R := fun R hR => if_pos hR
 have lsl : ∀ {w : AVal} {m : List (List AVal)} {b esz : Nat}, zzw H b esz w m → w.lies (· < H.next) := fun {w m b esz} hw => zq8 hw.lies fun R hR => hR.2
 refine ⟨x', H', fun R => if R < H.next then own R else i + 2, e1, ⟨?_, ?_, fun j a ha => ⟨?_, ?_⟩, ?_, ?_, fun q w hw => ⟨?_, ?_⟩⟩, e2, ?_⟩
 ·refine h.rdl.move fun R ver off len kcap ex e => ?_
  obtain ⟨b1, b2⟩ := h.liesl R ver off len kcap ex 1 e
  unfold zz6.rowAt
  rw [keep1 R b1 (by omega)]
 ·exact zq8 h.liesl fun R ⟨b1, b2⟩ => ⟨by omega, by simp only [if_pos b1]; exact b2⟩
 ·obtain ⟨c1, c2⟩ := h.at_ j a ha
  exact other a (lc j) (j + 2) c1 c2 fun hj => by
   have : j = i := by omega
   rw [this]; exact hi
 ·obtain ⟨c1, c2⟩ := h.at_ j a ha
  exact zq8 (zup (lsl c1) c2) fun R ⟨b1, b2⟩ => by simp only [if_pos b1]; exact b2
 ·rcases h.rdL with ⟨h0, hw | ⟨R, ver, vs, q1, q2, q3, q4, q5⟩⟩
  ·exact ⟨h0, .inl hw⟩
  ·refine ⟨h0, .inr ⟨R, ver, vs, q1, by omega, q3, ?_, q5⟩⟩
   rw [keep1 R q2 (by have := h.liesL R ver 0 _ _ _ _ q3; omega)]
   exact q4
 ·exact zq8 (zup (lsl h.rdL) h.liesL) fun R ⟨b1, b2⟩ => by simp only [if_pos b1]; exact b2
 ·obtain ⟨c1, c2⟩ := h.atL q w hw
  exact other w _ _ c1 c2 fun hqi => hq q w hw (by omega)
 ·obtain ⟨c1, c2⟩ := h.atL q w hw
  exact zq8 (zup (lsl c1) c2) fun R ⟨b1, b2⟩ => by simp only [if_pos b1]; exact b2
 ·refine e4 _ ?_ ?_
  ·exact zq8 (zup (lsl hx) hxl) fun R ⟨b1, b2⟩ => by simp only [if_pos b1]; exact b2
  ·intro R hR
   simp only [if_neg (show ¬ R < H.next by omega)]
theorem zwf.note {H : zz6} {own : Nat → Nat} {vl vL : AVal} {avs : List AVal} {lc : Nat → List (List AVal)} {lav : List AVal} {cont : Nat → List (List AVal)} (h : zwf H own vl vL avs lc lav cont) {i : Nat} {x : AVal} {es : List (List AVal)} (hx : zzw H 0 32 x es) (hxl : x.lies fun R => own R = i + 2)
  (hq : lav.length / 17 = i) (hlen : (lav.length + 1) * 24 ≤ 140737488355328) :
  ∃ vL' H' own', zzf (H.push (.row [some (0, [x])])) 1 24 vL (.slice H.next 0 0 1 1 true 1) = some (vL', H') ∧ zwf H' own' vl vL' avs lc (lav ++ [x]) (fun q => if q = lav.length then es else cont q) ∧ zzw H' 0 32 x es ∧ (x.lies fun R => own' R = i + 2) := by
 obtain ⟨vL', H', e1, e2, e3, e4, e5, _⟩ := h.rdL.append2 (bytes := 24) (Nat.zero_le _) (e := [x]) rfl (by omega) (by omega) (by simp [-getElem?_pos, hx.rd.one]) (by simpa [-getElem?_pos] using hlen)
 have keep1 : ∀ A, A < H.next → own A ≠ 1 → H'.get A = H.get A := fun A hA ho => e5 A hA fun R1 a1 a2 a3 a4 a5 a6 q hRR => by
  have o1 := h.liesL R1 a1 a2 a3 a4 a5 a6 q
  rw [hRR] at o1
  exact ho o1
 have other : ∀ (w : AVal) (m : List (List AVal)) (c : Nat), zzw H 0 32 w m → (w.lies fun R => own R = c) → c ≠ 1 → zzw H' 0 32 w m := fun w m c hw hc hm => by
  rcases hw with ⟨h0, hw | ⟨R, ver, vs, q1, q2, q3, q4, q5⟩⟩
  ·exact ⟨h0, .inl hw⟩
  ·refine ⟨h0, .inr ⟨R, ver, vs, q1, by omega, q3, ?_, q5⟩⟩
   rw [keep1 R q2 (by have := hc R ver 0 _ _ _ _ q3; omega)]
   exact q4
 have lsl : ∀ {w : AVal} {m : List (List AVal)} {b esz : Nat}, zzw H b esz w m → w.lies (· < H.next) := fun {w m b esz} hw => zq8 hw.lies fun R hR => hR.2
 have mv : ∀ {w : AVal} {m : List (List AVal)} {b esz c : Nat}, zzw H b esz w m → (w.lies fun R => own R = c) → w.lies fun R => (if R < H.next then own R else 1) = c := fun {w m b esz c} hw hc =>
  zq8 (zup (lsl hw) hc) fun R ⟨b1, b2⟩ => by rw [if_pos b1]; exact b2
 have hx' := other x es (i + 2) hx hxl (by omega)
 refine ⟨vL', H', fun R => if R < H.next then own R else 1, e1, ⟨?_, ?_, fun j a ha => ?_, by simpa [-getElem?_pos] using e2, ?_, fun q w hw => ?_⟩, hx', mv hx hxl⟩
 ·refine h.rdl.move fun R ver off len kcap ex e => ?_
  obtain ⟨b1, b2⟩ := h.liesl R ver off len kcap ex 1 e
  unfold zz6.rowAt
  rw [keep1 R b1 (by omega)]
 ·exact zq8 h.liesl fun R ⟨b1, b2⟩ => ⟨by omega, by simp only [if_pos b1]; exact b2⟩
 ·obtain ⟨c1, c2⟩ := h.at_ j a ha
  exact ⟨other a (lc j) _ c1 c2 (by omega), mv c1 c2⟩
 ·refine e4 _ (mv h.rdL h.liesL) ?_
  intro R hR
  rw [if_neg (by omega)]
 ·by_cases hql : q = lav.length
  ·subst hql
   rw [List.getElem?_append_right (Nat.le_refl _)] at hw
   simp [-getElem?_pos] at hw
   subst hw
   rw [if_pos rfl, hq]
   exact ⟨hx', mv hx hxl⟩
  ·rw [if_neg hql]
   have hlt : q < lav.length := by have := (List.getElem?_eq_some_iff.1 hw).1; simp [-getElem?_pos] at this; omega
   rw [List.getElem?_append_left hlt] at hw
   obtain ⟨c1, c2⟩ := h.atL q w hw
   exact ⟨other w _ _ c1 c2 (by omega), mv c1 c2⟩
theorem zwf.put {H : zz6} {own : Nat → Nat} {vl : AVal} {avs : List AVal} {lc : Nat → List (List AVal)} {cont : Nat → List (List AVal)} (h : zwf H own vl zxa avs lc [] cont) {i k : Nat} {a : AVal} (ha : avs[i]? = some a) (hk : k < (lc i).length) {e : List AVal} (he : zyr e) :
  ∃ R ver H', a = .slice R ver 0 (lc i).length (lc i).length false 32 ∧ H.write R ver (k * 32) e = some H' ∧ zwf H' own vl zxa avs (fun j => if j = i then (lc i).set k e else lc j) [] cont := by
 obtain ⟨c1, c2⟩ := h.at_ i a ha
 obtain ⟨R, ver, H', e1, e2, e3, e4, e5, e6⟩ := c1.write hk he.len (by omega) he.one
 have o1 := c2 R ver 0 _ _ _ _ e1
 refine ⟨R, ver, H', e1, e2, ⟨?_, ?_, fun j b hb => ?_, ⟨h.rdL.1, .inl ⟨rfl, rfl⟩⟩, h.liesL, fun q w hw => by simp [-getElem?_pos] at hw⟩⟩
 ·refine h.rdl.move fun R2 ver off len kcap ex e => ?_
  obtain ⟨b1, b2⟩ := h.liesl R2 ver off len kcap ex 1 e
  unfold zz6.rowAt
  rw [e6 R2 (fun e' => by rw [e'] at b2; omega)]
 ·exact zq8 h.liesl fun R ⟨b1, b2⟩ => ⟨by omega, b2⟩
 ·obtain ⟨d1, d2⟩ := h.at_ j b hb
  by_cases hj : j = i
  ·subst hj
   rw [ha] at hb
   cases hb
   rw [if_pos rfl]
   exact ⟨e3, d2⟩
  ·rw [if_neg hj]
   refine ⟨?_, d2⟩
   rcases d1 with ⟨h0, hw | ⟨R2, ver2, vs, q1, q2, q3, q4, q5⟩⟩
   ·exact ⟨h0, .inl hw⟩
   ·refine ⟨h0, .inr ⟨R2, ver2, vs, q1, by omega, q3, ?_, q5⟩⟩
    rw [e6 R2 (fun e' => by have := d2 R2 ver2 0 _ _ _ _ q3; rw [e'] at this; omega)]
    exact q4
def zfy (lc : Nat → List (List AVal)) (i k : Nat) : Nat → List (List AVal) := fun j => if j < i then List.replicate (lc j).length (mark j 7) else if j = i then List.replicate k (mark i 7) ++ (lc i).drop k else lc j
theorem yxr (lc : Nat → List (List AVal)) (i k : Nat) (hk : k < (lc i).length) : (fun j => if j = i then (zfy lc i k i).set k (mark i 7) else zfy lc i k j) = zfy lc i (k + 1) := by
 funext j
 unfold zfy
 by_cases hj : j = i
 ·subst hj
  simp only [if_true, Nat.lt_irrefl, if_false]
  rw [List.set_append_right _ _ (by simp), List.length_replicate, Nat.sub_self, List.drop_eq_getElem_cons hk, List.set_cons_zero, List.replicate_succ', List.append_assoc]
  rfl
 ·simp only [hj, if_false]
theorem zm8 (lc : Nat → List (List AVal)) (i k j : Nat) (hk : k ≤ (lc i).length) : (zfy lc i k j).length = (lc j).length := by
 unfold zfy
 split
 ·simp [-getElem?_pos]
 ·split
  ·rename_i h; subst h; simp [-getElem?_pos]; omega
  ·rfl
theorem yzg (lc : Nat → List (List AVal)) (i : Nat) : zfy lc i (lc i).length = zfy lc (i + 1) 0 := by
 funext j
 unfold zfy
 by_cases h1 : j < i
 ·rw [if_pos h1, if_pos (by omega)]
 ·rw [if_neg h1]
  by_cases h2 : j = i
  ·subst h2; rw [if_pos rfl, if_pos (by omega)]; simp [-getElem?_pos]
  ·rw [if_neg h2, if_neg (by omega)]
   by_cases h3 : j = i + 1
   ·subst h3; simp [-getElem?_pos]
   ·rw [if_neg h3]
theorem zcj (lc : Nat → List (List AVal)) : zfy lc 0 0 = lc := by
 funext j
 unfold zfy
 rw [if_neg (by omega)]
 split
 ·rename_i h; subst h; simp [-getElem?_pos]
 ·rfl
def zuk (lc : Nat → List (List AVal)) (j : Nat) : List (List AVal) := List.replicate (lc j).length (mark j 7)
theorem yx7 (lc : Nat → List (List AVal)) (n j : Nat) (hj : j < n) : zfy lc n 0 j = zuk lc j := by unfold zfy zuk; rw [if_pos hj]
def cnt (g : Nat) : Nat := if g < 16 then g + 1 else 70
def zu8 (lc : Nat → List (List AVal)) (q : Nat) : List (List AVal) := zuk lc (q / 17) ++ List.replicate (cnt (q % 17)) (mark (q / 17) 8)
end
section
set_option maxRecDepth 20000
def a27 : zzq := ⟨(.seq (.region [qq 2 (.move zzh) []]) (.seq (.seq (.region [qq 3 (.move ci) []]) (.block 0 (.loop (.seq (.seq (.region [zz8 14 3, zz8 15 0, zwu 16 15 [1], zyu 17 .lss 14 16 [0,2]]) (.cond (.t 17) .skip (.exit 0))) (.seq (.block 1 (.seq (.region [qq 4 (.move ci) []]) (.block 2 (.loop (.seq (.seq (.region [zz8 20 4, zz8 21 0, zz8 22 3, zyb 23 1 21 22 [1,2], zzg 24 23 [3], zwu 25 24 [4], zyu 26 .lss 20 25 [0,5]]) (.cond (.t 26) .skip (.exit 2))) (.seq (.block 3 (.region [zz8 29 0, zz8 30 3, zyb 31 1 29 30 [0,1], zzg 32 31 [2], zz8 33 4, zz8 34 3, zx0 35 .add 34 1 [5], qr 36 (.conv .u8 (.t 35)) [6] [35] .quiet, qr 37 (.build zz2 [(0, 1, (.t 36)), (1, 1, (.c (.raw (.int .u8 7))))]) [7] [36] .quiet, zyb 38 32 32 33 [3,4,0,1,2,3,4,5,6,7,8], zx7 32 38 37 [9, 8, 0, 1, 2, 3, 4, 5, 6, 7, 8]])) (.region [zz8 27 4, zx0 28 .add 27 1 [0], zzx 4 28 [1,0,1]]))))))) (.region [zz8 18 3, zx0 19 .add 18 1 [0], zzx 3 19 [1,0,1]])))))) (.seq (.region [qq 5 (.move (.c ns)) []]) (.seq (.seq (.region [qq 6 (.move ci) []]) (.block 4 (.loop (.seq (.seq (.region [zz8 39 6, zz8 40 0, zwu 41 40 [1], zyu 42 .lss 39 41 [0,2]]) (.cond (.t 42) .skip (.exit 4))) (.seq (.block 5 (.seq (.region [zz8 45 0, zz8 46 6, zyb 47 1 45 46 [0,1], zzg 48 47 [2], zzx 7 48 [3,0,1,2,3]]) (.seq (.seq (.region [qq 8 (.move ci) []]) (.block 6 (.loop (.seq (.seq (.region [zz8 49 8, zx0 50 .lss 49 70 [0]]) (.cond (.t 50) .skip (.exit 6))) (.seq (.block 7 (.seq (.region [zz8 53 7, zz8 54 6, zx0 55 .add 54 1 [1], qr 56 (.conv .u8 (.t 55)) [2] [55] .quiet, qr 57 (.build zz2 [(0, 1, (.t 56)), (1, 1, (.c (.raw (.int .u8 8))))]) [3] [56] .quiet, qr 58 (.buildSlice 1 32 zz2 [(0, 32, (.t 57))]) [4] [57] .makes, zjm 59 32 32 53 58 [0,5], zzx 7 59 [6,6,0,1,2,3,4,5,6]]) (.seq (.region [zz8 60 8, zx0 61 .lss 60 16 [0]]) (.cond (.t 61) (.region [zz8 62 5, zz8 63 7, qr 64 (.buildSlice 1 1 [ns] [(0, 1, (.t 63))]) [1] [63] .makes, zjm 65 1 24 62 64 [0,2], zzx 5 65 [3,3,0,1,2,3]]) .skip)))) (.region [zz8 51 8, zx0 52 .add 51 1 [0], zzx 8 52 [1,0,1]])))))) (.region [zz8 66 5, zz8 67 7, qr 68 (.buildSlice 1 1 [ns] [(0, 1, (.t 67))]) [1] [67] .makes, zjm 69 1 24 66 68 [0,2], zzx 5 69 [3,3,0,1,2,3]])))) (.region [zz8 43 6, zx0 44 .add 43 1 [0], zzx 6 44 [1,0,1]])))))) (.seq (.seq (.region [qq 9 (.move ci) []]) (.block 8 (.loop (.seq (.seq (.region [zz8 70 9, zz8 71 0, zwu 72 71 [1], zyu 73 .lss 70 72 [0,2]]) (.cond (.t 73) .skip (.exit 8))) (.seq (.block 9 (.seq (.seq (.region [qq 10 (.move ci) []]) (.block 10 (.loop (.seq (.seq (.region [zz8 76 10, zz8 77 0, zz8 78 9, zyb 79 1 77 78 [1,2], zzg 80 79 [3], zwu 81 80 [4], zyu 82 .lss 76 81 [0,5]]) (.cond (.t 82) .skip (.exit 10))) (.seq (.block 11 (.seq (.region [zz8 85 0, zz8 86 9, zyb 87 1 85 86 [0,1], zzg 88 87 [2], zz8 89 10, zyb 90 32 88 89 [3,4], zb1 91 32 90 [5], zz8 92 9, zx0 93 .add 92 1 [7], qr 94 (.conv .u8 (.t 93)) [8] [93] .quiet, qr 95 (.build zz2 [(0, 1, (.t 94)), (1, 1, (.c (.raw (.int .u8 7))))]) [9] [94] .quiet, qr 96 (.eqP true (.arr 32 1 false .int) (.t 91) (.t 95)) [6,10] [91,95] .quiet]) (.cond (.t 96) (.seq (.region [qq 2 (.move zzh) []]) .ret) .skip))) (.region [zz8 83 10, zx0 84 .add 83 1 [0], zzx 10 84 [1,0,1]])))))) (.seq (.region [qq 11 (.move ci) []]) (.block 12 (.loop (.seq (.seq (.region [zz8 97 11, zx0 98 .lss 97 17 [0]]) (.cond (.t 98) .skip (.exit 12))) (.seq (.block 13 (.seq (.region [zz8 101 5, zz8 102 9, qr 103 (.bin .mul (.c (ki 17)) (.t 102)) [1] [102] .quiet, zz8 104 11, zyu 105 .add 103 104 [2,3], zyb 106 1 101 105 [0,4], zzg 107 106 [5], zzx 12 107 [6,0,1,2,3,4,5,6]]) (.seq (.region [zz8 108 0, zz8 109 9, zyb 110 1 108 109 [0,1], zzg 111 110 [2], zwu 112 111 [3], zzx 13 112 [4,0,1,2,3,4]]) (.block 14 (.loop (.seq (.seq (.region [zz8 113 13, zz8 114 12, zwu 115 114 [1], zyu 116 .lss 113 115 [0,2]]) (.cond (.t 116) .skip (.exit 14))) (.seq (.block 15 (.seq (.region [zz8 119 12, zz8 120 13, zyb 121 32 119 120 [0,1], zb1 122 32 121 [2], zz8 123 9, zx0 124 .add 123 1 [4], qr 125 (.conv .u8 (.t 124)) [5] [124] .quiet, qr 126 (.build zz2 [(0, 1, (.t 125)), (1, 1, (.c (.raw (.int .u8 8))))]) [6] [125] .quiet, qr 127 (.eqP true (.arr 32 1 false .int) (.t 122) (.t 126)) [3,7] [122,126] .quiet]) (.cond (.t 127) (.seq (.region [qq 2 (.move zzh) []]) .ret) .skip))) (.region [zz8 117 13, zx0 118 .add 117 1 [0], zzx 13 118 [1,0,1]])))))))) (.region [zz8 99 11, zx0 100 .add 99 1 [0], zzx 11 100 [1,0,1]])))))))) (.region [zz8 74 9, zx0 75 .add 74 1 [0], zzx 9 75 [1,0,1]])))))) (.seq (.region [qq 2 (.move zwp) []]) .ret)))))), 128, [.tmp 2]⟩
theorem e27 : zxf Try.prog 27 = some a27 := by kernel_rfl
end
end Go.Proofs.Ythbjfkkjmecaaaa
