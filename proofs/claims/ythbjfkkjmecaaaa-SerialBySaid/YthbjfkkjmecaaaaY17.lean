/- The abstract machine, part 40: elements of slices, stored into; what stays. -/
import Derived.Test.YthbjfkkjmecaaaaY16
import Derived.Test.YthbjfkkjmecaaaaY07
import Derived.Test.YthbjfkkjmecaaaaY12
import Derived.Test.YthbjfkkjmecaaaaY01
set_option linter.unusedVariables false
set_option linter.unusedSimpArgs false
namespace Go.Vm
open Go
section
theorem Tr.set_self {α : Type} (u : α) : ∀ (t : Tr α) (k : Nat), t.get k = some u → t.set u k = t
 | .leaf, k, h => by simp [Tr.get] at h
 | .node v l r, k, h => by
  unfold Tr.get at h
  unfold Tr.set
  by_cases hk : k = 0
  ·simp only [hk, if_true] at h ⊢; rw [h]
  ·simp only [hk, if_false] at h ⊢
   by_cases h2 : k % 2 = 1
   ·simp only [h2, if_true] at h ⊢; rw [Tr.set_self u l _ h]
   ·simp only [h2, if_false] at h ⊢; rw [Tr.set_self u r _ h]
theorem zz6.set_self {H : zz6} {A : Nat} {o : AObj} (h : H.get A = some o) : H.set A o = H := by
 unfold zz6.set
 rw [Tr.set_self o H.tr A h]
theorem yqp {α : Type} {l v : List α} {off : Nat} (h : off + v.length ≤ l.length) : (spl l off v).length = l.length := by
 simp only [spl, List.length_append, List.length_take, List.length_drop]; omega
theorem yqa {α : Type} {a e b v : List α} {f : Nat} (h : f + v.length ≤ e.length) : spl (a ++ (e ++ b)) (a.length + f) v = a ++ (spl e f v ++ b) := by
 simp only [spl]
 rw [List.take_append, List.take_of_length_le (by omega), Nat.add_sub_cancel_left, List.take_append_of_le_length (by omega), Nat.add_assoc, List.drop_append, List.drop_eq_nil_of_le (by omega), Nat.add_sub_cancel_left, List.nil_append, List.drop_append_of_le_length h]
 simp only [List.append_assoc]
theorem zl9 {α : Type} {n : Nat} {es : List (List α)} (he : ∀ e ∈ es, e.length = n) {i f : Nat} {e v : List α} (hi : es[i]? = some e) (h : f + v.length ≤ n) : spl es.flatten (i * n + f) v = (es.set i (spl e f v)).flatten := by
 obtain ⟨hlt, hei⟩ := List.getElem?_eq_some_iff.1 hi
 have hd : es = es.take i ++ (e :: es.drop (i + 1)) := by rw [← hei, List.getElem_cons_drop, List.take_append_drop]
 have hl : (es.take i).flatten.length = i * n := by rw [zy1 (n := n) fun x hx => he x (List.mem_of_mem_take hx), List.length_take, Nat.min_eq_left (by omega)]
 have hel := he e (List.mem_of_getElem? hi)
 have h1 : es.flatten = (es.take i).flatten ++ (e ++ (es.drop (i + 1)).flatten) := by
  conv => lhs; rw [hd]
  simp
 rw [h1, ← hl, yqa (by omega), List.set_eq_take_append_cons_drop, if_pos hlt]
 simp
theorem yq8 {α : Type} {es : List α} {i : Nat} {v e : α} (h : e ∈ es.set i v) : e ∈ es ∨ e = v := List.mem_or_eq_of_mem_set h
theorem zzw.store {H : zz6} {base esz : Nat} {v : AVal} {es : List (List AVal)} (h : zzw H base esz v es) {i f : Nat} {e vals : List AVal} (hi : es[i]? = some e) (h0 : 0 < vals.length) (hf : f + vals.length ≤ esz) (hone : vals.all AVal.one = true) :
  ∃ R ver H', v = .slice R ver 0 es.length es.length false esz ∧ base ≤ R ∧ R < H.next ∧ H.write R ver (i * esz + f) vals = some H' ∧ zzw H' base esz v (es.set i (spl e f vals)) ∧ H'.next = H.next ∧ ∀ A, A ≠ R → H'.get A = H.get A := by
 obtain ⟨hlt, hei⟩ := List.getElem?_eq_some_iff.1 hi
 rcases h with ⟨hes, ⟨rfl, rfl⟩ | ⟨R, ver, vs, h1, h2, rfl, h4, h5⟩⟩
 ·simp at hi
 ·have hfl := zy1 hes
  have hm : (i + 1) * esz ≤ es.length * esz := Nat.mul_le_mul_right _ hlt
  rw [Nat.succ_mul] at hm
  obtain ⟨H', hw, hr⟩ := RowW.write (H0 := H) (nv := vs.length) ⟨⟨vs, h4, rfl, h5⟩, rfl, fun _ _ => rfl⟩ (off := i * esz + f) (vals := vals) h0 (by omega) hone
  obtain ⟨vs', q1, q2, q3⟩ := hr.row
  refine ⟨R, ver, H', rfl, h1, h2, hw, ⟨fun x hx => ?_, .inr ⟨R, ver, vs', h1, by rw [hr.next]; exact h2, by rw [List.length_set], q1, ?_⟩⟩, hr.next, hr.other⟩
  ·rcases yq8 hx with h | rfl
   ·exact hes x h
   ·rw [yqp (by rw [hes e (List.mem_of_getElem? hi)]; exact hf)]; exact hes e (List.mem_of_getElem? hi)
  ·rw [q3, ← zl9 hes hi hf]; rfl
theorem zzw.load {H : zz6} {base esz : Nat} {v : AVal} {es : List (List AVal)} (h : zzw H base esz v es) {i : Nat} {e : List AVal} (hi : es[i]? = some e) :
  ∃ R ver cells, v = .slice R ver 0 es.length es.length false esz ∧ base ≤ R ∧ R < H.next ∧ H.rowAt R ver = some cells ∧ i * esz + esz ≤ cells.length ∧ (∀ f, f < esz → cells[i * esz + f]? = e[f]?) ∧ (cells.drop (i * esz)).take esz = e := by
 obtain ⟨hlt, hei⟩ := List.getElem?_eq_some_iff.1 hi
 obtain ⟨R, ver, off, kcap, ex, cells, h1, h2, h3, h4⟩ := h.rd.at hi
 rcases h with ⟨hes, ⟨rfl, rfl⟩ | ⟨R', ver', vs, g1, g2, rfl, g4, g5⟩⟩
 ·simp at hi
 ·cases h1
  rw [Nat.zero_add] at h3 h4
  exact ⟨_, _, cells, rfl, g1, g2, h2, h3, fun f hf => zk5 h4 hf, h4⟩
theorem RdE.beq {H : zz6} {esz : Nat} {v : AVal} {es : List (List AVal)} (h : RdE H esz v es) : AVal.beq v v = true := by
 rcases h with ⟨_, ⟨rfl, _⟩ | ⟨R, ver, off, kc, ex, cells, rfl, _⟩⟩ <;> simp
theorem zx4 {v : AVal} (h : v.one = true) : v.cells = [v] := by
 cases v with
 | raw x => cases x <;> first | rfl | (cases h; done)
 | agg _ => cases h
 | _ => rfl
theorem zzw.beq {H : zz6} {base esz : Nat} {v : AVal} {es : List (List AVal)} (h : zzw H base esz v es) : AVal.beq v v = true := by
 rcases h with ⟨_, ⟨rfl, _⟩ | ⟨R, ver, vs, _, _, rfl, _⟩⟩ <;> simp
end
section
variable {P : Program} {B : Base} {ρ ρ' : Ren} {H H' : zz6} {w w' : World} {tm : List AVal} {ce : Operand → Value} {o : Oper} {ao : AOp}
theorem zzv.at : ∀ {es : zzb} {ces : List MapEntry} {j : Nat} {c : MapEntry}, zzv ρ es ces → ces[j]? = some c → ∃ e, es[j]? = some e ∧ VRel ρ e.1 c.key ∧ VRel ρ e.2.1 c.val ∧ c.born = e.2.2
 | [], [], _, _, _, h => by simp at h
 | [], _ :: _, _, _, h, _ => h.elim
 | _ :: _, [], _, _, h, _ => h.elim
 | (k, v, b) :: r, e :: es, 0, c, ⟨h1, h2, h3, h4⟩, h => by
  simp at h
  subst h
  exact ⟨_, rfl, h1, h2, h3⟩
 | (k, v, b) :: r, e :: es, j + 1, c, ⟨h1, h2, h3, h4⟩, h => by
  simp at h
  obtain ⟨e', q⟩ := zzv.at h4 h
  exact ⟨e', by simpa using q⟩
def zwn (es : zzb) (seen : List Nat) : zzb := es.filter fun e => !zqk seen e.2.2
theorem zsb (h : HRel P B ρ H w) (hev : zvg ρ tm ce) {x : Operand} {ax : AOpd} (hop : o.op = .next x false) (hx : zxt x = some ax) {A M since last clock : Nat} {seen : List Nat} {es : zzb}
  (hxe : ev tm ax = .ptr A 0 0) (hg : H.get A = some (.iter (some M) since seen last)) (hgM : H.get M = some (.map es clock)) (hold : ∀ e ∈ es, e.2.2 < since) (hsl : since ≤ last) :
  (zwn es seen = [] ∧ zyf .any P B ρ H w (execOp ce o) (.tuple [zzt false]) H) ∨
  ∃ e ∈ zwn es seen, zyf .any P B ρ H w (execOp ce o) (.tuple [zzt true, e.1, e.2.1]) (H.set A (.iter (some M) since (seen ++ [e.2.2]) clock)) := by
 have he : execOp ce o = (do Pure.pure (.value (← Instr.next (ce x) false o.type))) := by simp [execOp, hop]
 rw [he]
 have hxv := hev _ _ hx
 rw [hxe] at hxv
 obtain ⟨l, hl, hcx⟩ := hxv.ptr_inv
 obtain ⟨hsing, l', cm, hl', h0, hw, hit⟩ := h.obj A _ hg
 rw [hl] at hl'; cases hl'
 cases cm with
 | none => exact hit.elim
 | some c =>
  obtain ⟨lM, hlM, rfl⟩ := hit
  obtain ⟨_, lM', ces, hlM', hwM, hes⟩ := h.obj M _ hgM
  rw [hlM] at hlM'; cases hlM'
  have hcold : ∀ x ∈ ces.toList, x.born < since := fun x hx => by
   obtain ⟨j, hj⟩ := List.mem_iff_getElem?.1 hx
   obtain ⟨e, he, _, _, hb⟩ := hes.at hj
   rw [hb]
   exact hold e (List.mem_of_getElem? he)
  have hcond := next_test_false seen.toArray ces since last hcold hsl
  have hleft : zzv ρ (zwn es seen) (ces.filter fun e => !seen.toArray.contains e.born).toList := by
   have := hes.filter (p := fun b => !zqk seen b)
   have e1 : (ces.filter fun e => !seen.toArray.contains e.born).toList = ces.toList.filter fun e => !zqk seen e.born := by
    rw [Array.toList_filter]
    congr 1; funext e; rw [zsf]
   rw [e1]
   exact this
  have hmem : ∀ x ∈ (ces.filter fun e => !seen.toArray.contains e.born).toList, x.born < since := fun x hx => hcold x (by simp at hx ⊢; exact hx.1)
  generalize hL : (ces.filter fun e => !seen.toArray.contains e.born) = L at hleft hmem
  have e1 : L.filter (fun x => decide (x.born < since)) = L := Array.filter_eq_self.2 (fun x hx => by simpa using hmem x (by simpa using hx))
  have e2 : L.filter (fun x => decide (x.born ≥ since)) = #[] := by
   rw [Array.filter_eq_empty_iff]
   intro x hx
   have := hmem x (by simpa using hx)
   simp
   omega
  by_cases hz : L.size = 0
  ·have hL0 : L = #[] := Array.eq_empty_of_size_eq_zero hz
   left
   refine ⟨?_, .v h (cv := .tuple #[.bool false]) ?_ (.tuple (.cons (.raw _) .nil))⟩
   ·have := hleft.length
    rw [hL0] at this
    exact List.length_eq_zero_iff.1 (by simpa using this.symm)
   ·rw [hcx, h0]
    simp only [Instr.next, Sem.run_bind, zx2 hw, Result.andThen_ok, Sem.run_pure, zx2 hwM, hcond, Bool.false_eq_true, if_false, hL, e1, e2]
    rw [hL0]
    simp [choose, Sem.run, Question.forced]
  ·right
   have hne : L.isEmpty = false := by simp [Array.isEmpty, hz]
   have hch : ∃ (j : Nat) (w1 : World), j < L.size ∧ (w1 = w ∨ w1 = w.drew) ∧ (choose (Question.mapNext L.size)).run P w = .ok j w1 := by
    by_cases hf : L.size ≤ 1
    ·exact ⟨0, w, by omega, .inl rfl, by simp [choose, Sem.run, Question.forced, hf]⟩
    ·exact ⟨_, w.drew, Nat.mod_lt _ (by omega), .inr rfl, by
      simp only [choose, Sem.run, Question.forced, decide_eq_true_eq, hf, if_false, Question.cut]
      rfl⟩
   obtain ⟨j, w1, hj, hw1, hrun⟩ := hch
   obtain ⟨e, hej, hk, hv, hb⟩ := hleft.at (j := j) (c := L[j]) (by rw [Array.getElem?_toList, Array.getElem?_eq_getElem hj])
   have h1 : HRel P B ρ H w1 := by rcases hw1 with rfl | rfl; exact h; exact h.drew
   have hheap : w1.heap = w.heap := by rcases hw1 with rfl | rfl <;> rfl
   have hw' : w1.heap[l.c]? = some (.mapIter (some lM.c) since seen.toArray last) := by rw [hheap]; exact hw
   have hput := h1.putObj (co := .mapIter (some lM.c) since (seen ++ [e.2.2]).toArray clock) hg hl (fun x => by simp) (ob' := .iter (some M) since (seen ++ [e.2.2]) clock) (fun x => by simp)
    ⟨hsing, l, some lM.c, hl, h0, World.putObj_heap_same (Array.getElem?_eq_some_iff.1 hw').1, lM, hlM, rfl⟩ (Side.putPlain hw' trivial trivial)
   refine ⟨e, List.mem_of_getElem? hej, .vw (cv := .tuple #[.bool true, L[j].key, L[j].val]) ?_ (.tuple (.cons (.raw _) (.cons hk (.cons hv .nil)))) hput (Ren.le_refl _)⟩
   rw [hcx, h0]
   simp only [Instr.next, Sem.run_bind, zx2 hw, Result.andThen_ok, Sem.run_pure, zx2 hwM, hcond, Bool.false_eq_true, if_false, hL, e1, e2, Array.append_empty, hne, Array.empty_append, Array.size_map, hrun, Array.getElem?_map, Array.getElem?_eq_getElem hj, Option.map_some]
   rw [show seen.toArray.push L[j].born = (seen ++ [e.2.2]).toArray by rw [hb]; simp]
   simp [zu6 _ hw']
theorem yvd {op : BinOp} {t : TypeId} {x y ax : AOpd} (h : ykd P op t x y = some (.iterNext ax)) : False := by
 unfold ykd at h
 (repeat' split at h) <;> simp [Option.map_eq_some_iff] at h
theorem yx1 {s d : TypeId} {x ax : AOpd} (h : yw3 P s d x = some (.iterNext ax)) : False := by
 unfold yw3 at h
 (repeat' split at h) <;> simp [Option.map_eq_some_iff] at h
theorem zdq {l : List Operand} {ts : List TypeId} {ax : AOpd} (h : zr0 P l ts = some (.iterNext ax)) : False := by
 unfold zr0 at h
 (repeat' split at h) <;> simp [Option.map_eq_some_iff, Option.bind_eq_some_iff] at h
theorem zfz {l : List Operand} {ts : List TypeId} {ax : AOpd} (h : zb3 P l ts = some (.iterNext ax)) : False := by
 unfold zb3 at h
 (repeat' split at h) <;> simp [Option.map_eq_some_iff, Option.bind_eq_some_iff] at h
theorem yv8 {l : List Operand} {ts : List TypeId} {ax : AOpd} (h : yj9 P l ts = some (.iterNext ax)) : False := by
 unfold yj9 at h
 (repeat' split at h) <;> simp [Option.map_eq_some_iff] at h
theorem yw9 {l : List Operand} {ts : List TypeId} {ax : AOpd} (h : yz4 P l ts = some (.iterNext ax)) : False := by
 unfold yz4 at h
 (repeat' split at h) <;> simp [Option.map_eq_some_iff, Option.bind_eq_some_iff] at h
theorem yqs {l : List Operand} {ts : List TypeId} {ax : AOpd} (h : yj2 P l ts = some (.iterNext ax)) : False := by
 unfold yj2 at h
 (repeat' split at h) <;> simp [Option.map_eq_some_iff, Option.bind_eq_some_iff] at h
theorem zc4 {l : List Operand} {ts : List TypeId} {ax : AOpd} (h : zrp P l ts = some (.iterNext ax)) : False := by
 unfold zrp at h
 (repeat' split at h) <;> simp [Option.map_eq_some_iff, Option.bind_eq_some_iff] at h
theorem zae {l : List Operand} {ts : List TypeId} {ax : AOpd} (h : zlk P l ts = some (.iterNext ax)) : False := by
 unfold zlk at h
 (repeat' split at h) <;> simp [Option.map_eq_some_iff, Option.bind_eq_some_iff] at h
theorem yj5 {c : Bool} {α : Type} {x y : Option α} {a : α} (h : (if c = true then x else y) = some a) : x = some a ∨ y = some a := by
 cases c
 ·exact .inr h
 ·exact .inl h
theorem ywx {c : Call} {ax : AOpd} (h : zf8 P c = some (.iterNext ax)) : False := by
 unfold zf8 at h
 split at h
 ·simp [Option.map_eq_some_iff, Option.bind_eq_some_iff] at h
 ·cases h
 ·unfold znu at h
  split at h <;> first | exact (yj5 h).elim zfz zdq | exact yv8 h | exact yw9 h | exact yqs h | exact zc4 h | exact zae h | (simp [Option.map_eq_some_iff, Option.bind_eq_some_iff] at h; done)
theorem ywr {op : Op} {ax : AOpd} (h : cOp P op = some (.iterNext ax)) : ∃ x, op = .next x false ∧ zxt x = some ax := by
  cases op with
  | next x str =>
    simp only [cOp] at h
    split at h
    · cases h
    · rename_i hs
      obtain ⟨a, h1, h2⟩ := Option.map_eq_some_iff.1 h
      cases h2
      exact ⟨x, by simp at hs; rw [hs], h1⟩
  | makeMap t r =>
    cases r <;> simp only [cOp] at h
    all_goals (repeat' split at h) <;> simp at h
  | _ =>
    simp only [cOp] at h
    first
    | exact (ywx h).elim
    | (obtain ⟨_, _, h⟩ := Option.bind_eq_some_iff.1 h
       first
       | exact (yx1 h).elim
       | (obtain ⟨_, _, h⟩ := Option.bind_eq_some_iff.1 h
          exact (yvd h).elim))
    | ((repeat' split at h) <;> (try simp [Option.map_eq_some_iff, Option.bind_eq_some_iff] at h)
       all_goals
         obtain ⟨_, _, _, _, m, _, h⟩ := h
         cases m <;> simp [Option.map_eq_some_iff] at h)
theorem zjw.iterNext {r : Option Nat} {ops : Array Oper} {o : Oper} {ao : zzu} {i : Nat} {rest : List Nat} {K : ASt → Prop} {st : ASt} {ax : AOpd} {A M since last clock : Nat} {seen : List Nat} {es : zzb} (ho : ops[i]? = some o) (hc : zkr P ops o = some ao)
  (hop : ao.op = .iterNext ax) (hw : zy6 ao.guard st.tm = some true) (hxe : ev st.tm ax = .ptr A 0 0) (hg : st.H.get A = some (.iter (some M) since seen last)) (hgM : st.H.get M = some (.map es clock)) (hold : ∀ e ∈ es, e.2.2 < since) (hsl : since ≤ last)
  (h0 : zwn es seen = [] → zjw P r ops rest K (st.put ao.dst (.tuple [zzt false])))
  (h1 : ∀ e ∈ zwn es seen, zjw P r ops rest K ({ st with H := st.H.set A (.iter (some M) since (seen ++ [e.2.2]) clock) }.put ao.dst (.tuple [zzt true, e.1, e.2.1]))) : zjw P r ops (i :: rest) K st := by
 intro B ρ a w hs
 obtain ⟨hc1, hc2, hc3⟩ := zqs hc
 rw [hop] at hc1
 obtain ⟨x, hopo, hx⟩ : ∃ x, o.op = .next x false ∧ zxt x = some ax := by
  have hk : cOp P o.op = some (.iterNext ax) := by
   rcases zb7 hc1 with ⟨q | q, _⟩ | q
   ·cases q
   ·exact q
   ·exact q
  exact ywr hk
 rcases zsb hs.H hs.ev hopo hx hxe hg hgM hold hsl with ⟨hl, ρ', w', nx, cv, h1', h2, h3, h4, h5, _⟩ | ⟨e, hel, ρ', w', nx, cv, h1', h2, h3, h4, h5, _⟩
 ·refine zba ho (zw2 hc hs.tm hw) (zu0 hc1) h1' h2 ?_
  have := h0 hl B ρ' _ w' (hs.put h5 ao.dst h3 h4)
  rw [hc2] at this
  exact zxv (fun e a w hq => hq.le h5) _ _ _ this
 ·refine zba ho (zw2 hc hs.tm hw) (zu0 hc1) h1' h2 ?_
  have := h1 e hel B ρ' _ w' (hs.put h5 ao.dst h3 h4)
  rw [hc2] at this
  exact zxv (fun e a w hq => hq.le h5) _ _ _ this
end
section
variable {P : Program} {r : Option Nat} {st st' : ASt} {Q Q' : Exit → ASt → Prop} {or : zzn}
theorem yzj {c : Code} {a b : zym} (h : zyv P c = some (.seq a b)) : ∃ x y, c = .seq x y ∧ zyv P x = some a ∧ zyv P y = some b := by
 cases c with
 | seq x y =>
  simp only [zyv] at h
  obtain ⟨_, h1, h⟩ := Option.bind_eq_some_iff.1 h
  obtain ⟨_, h2, h⟩ := Option.map_eq_some_iff.1 h
  cases h
  exact ⟨x, y, rfl, h1, h2⟩
 | region id ops dr =>
  simp only [zyv] at h
  obtain ⟨_, _, h⟩ := Option.bind_eq_some_iff.1 h
  split at h
  ·split at h <;> cases h
  ·cases h
 | _ =>
  simp only [zyv] at h
  first
   | cases h; done
   | (obtain ⟨_, _, h⟩ := Option.map_eq_some_iff.1 h; cases h; done)
   | (obtain ⟨_, _, h⟩ := Option.bind_eq_some_iff.1 h; obtain ⟨_, _, h⟩ := Option.map_eq_some_iff.1 h; cases h; done)
   | (obtain ⟨_, _, h⟩ := Option.bind_eq_some_iff.1 h; obtain ⟨_, _, h⟩ := Option.bind_eq_some_iff.1 h; obtain ⟨_, _, h⟩ := Option.map_eq_some_iff.1 h; cases h; done)
theorem zdx {c : Code} {a : zym} (h : zyv P c = some (.loop a)) : ∃ x, c = .loop x ∧ zyv P x = some a := by
 cases c with
 | loop x =>
  simp only [zyv] at h
  obtain ⟨_, h1, h⟩ := Option.map_eq_some_iff.1 h
  cases h
  exact ⟨x, rfl, h1⟩
 | region id ops dr =>
  simp only [zyv] at h
  obtain ⟨_, _, h⟩ := Option.bind_eq_some_iff.1 h
  split at h
  ·split at h <;> cases h
  ·cases h
 | _ =>
  simp only [zyv] at h
  first
   | cases h; done
   | (obtain ⟨_, _, h⟩ := Option.map_eq_some_iff.1 h; cases h; done)
   | (obtain ⟨_, _, h⟩ := Option.bind_eq_some_iff.1 h; obtain ⟨_, _, h⟩ := Option.map_eq_some_iff.1 h; cases h; done)
   | (obtain ⟨_, _, h⟩ := Option.bind_eq_some_iff.1 h; obtain ⟨_, _, h⟩ := Option.bind_eq_some_iff.1 h; obtain ⟨_, _, h⟩ := Option.map_eq_some_iff.1 h; cases h; done)
theorem zga {c : Code} {id : Nat} {a : zym} (h : zyv P c = some (.block id a)) : ∃ x, c = .block id x ∧ zyv P x = some a := by
 cases c with
 | block id' x =>
  simp only [zyv] at h
  obtain ⟨_, h1, h⟩ := Option.map_eq_some_iff.1 h
  cases h
  exact ⟨x, rfl, h1⟩
 | region id ops dr =>
  simp only [zyv] at h
  obtain ⟨_, _, h⟩ := Option.bind_eq_some_iff.1 h
  split at h
  ·split at h <;> cases h
  ·cases h
 | _ =>
  simp only [zyv] at h
  first
   | cases h; done
   | (obtain ⟨_, _, h⟩ := Option.map_eq_some_iff.1 h; cases h; done)
   | (obtain ⟨_, _, h⟩ := Option.bind_eq_some_iff.1 h; obtain ⟨_, _, h⟩ := Option.map_eq_some_iff.1 h; cases h; done)
   | (obtain ⟨_, _, h⟩ := Option.bind_eq_some_iff.1 h; obtain ⟨_, _, h⟩ := Option.bind_eq_some_iff.1 h; obtain ⟨_, _, h⟩ := Option.map_eq_some_iff.1 h; cases h; done)
theorem zle {c : Code} {aos : List zzu} (h : zyv P c = some (.region aos)) : ∃ id ops, c = .region id ops false ∧ zqc P ops ops.toList = some aos := by
 cases c with
 | region id ops dr =>
  simp only [zyv] at h
  obtain ⟨_, h1, h⟩ := Option.bind_eq_some_iff.1 h
  split at h
  ·split at h <;> cases h
  ·rename_i hd
   cases h
   exact ⟨id, ops, by simp at hd; rw [hd], h1⟩
 | _ =>
  simp only [zyv] at h
  first
   | cases h; done
   | (obtain ⟨_, _, h⟩ := Option.map_eq_some_iff.1 h; cases h; done)
   | (obtain ⟨_, _, h⟩ := Option.bind_eq_some_iff.1 h; obtain ⟨_, _, h⟩ := Option.map_eq_some_iff.1 h; cases h; done)
   | (obtain ⟨_, _, h⟩ := Option.bind_eq_some_iff.1 h; obtain ⟨_, _, h⟩ := Option.bind_eq_some_iff.1 h; obtain ⟨_, _, h⟩ := Option.map_eq_some_iff.1 h; cases h; done)
def zwt (P : Program) (r : Option Nat) (ac : zym) (Q : Exit → ASt → Prop) (st : ASt) : Prop := ∀ c, zyv P c = some ac → AWp P r c Q st
theorem zwt.mono {ac : zym} (h : zwt P r ac Q st) (hq : ∀ e st, Q e st → Q' e st) : zwt P r ac Q' st := fun c hc => (h c hc).mono hq
theorem zwt.seq {a b : zym} (h : zwt P r a (yy0 (zwt P r b Q) Q) st) : zwt P r (.seq a b) Q st := fun c hc => by
 obtain ⟨x, y, rfl, h1, h2⟩ := yzj hc
 exact AWp.seq ((h x h1).mono fun e s hq => by cases e with
  | normal => exact hq y h2
  | _ => exact hq)
theorem zwt.block {id : Nat} {a : zym} (h : zwt P r a (zma id Q) st) : zwt P r (.block id a) Q st := fun c hc => by
 obtain ⟨x, rfl, h1⟩ := zga hc
 exact AWp.block (h x h1)
theorem zwt.loop {a : zym} (T : Nat → ASt → Prop) (hT : ∀ n st, T n st → zwt P r a (yy0 (fun st' => ∃ m, m < n ∧ T m st') Q) st) {n : Nat} (h0 : T n st) : zwt P r (.loop a) Q st := fun c hc => by
 obtain ⟨x, rfl, h1⟩ := zdx hc
 exact AWp.loop T (fun n st h => hT n st h x h1) h0
theorem zwt.run (hor : zx8 P or) (hm : P.follows .mixedOrders = true) (hgo : zk1 P or) {n : Nat} {ac : zym} {e : Exit} (h : zys or true n ac st = some (e, st')) (hq : Q e st') : zwt P none ac Q st := fun c hc =>
 (zs8 hor hm hgo (fun _ => rfl) c ac st e st' hc h).mono fun _ _ ⟨a, b⟩ => by rw [a, b]; exact hq
theorem zwt.next (hor : zx8 P or) {ao : zzu} {aos : List zzu} {ax : AOpd} {A M since last clock : Nat} {seen : List Nat} {es : zzb} (hop : ao.op = .iterNext ax) (hw : zy6 ao.guard st.tm = some true) (hxe : ev st.tm ax = .ptr A 0 0)
  (hg : st.H.get A = some (.iter (some M) since seen last)) (hgM : st.H.get M = some (.map es clock)) (hold : ∀ e ∈ es, e.2.2 < since) (hsl : since ≤ last)
  (h0 : zwn es seen = [] → ∃ s, zqq or aos (st.put ao.dst (.tuple [zzt false])) = some s ∧ Q .normal s)
  (h1 : ∀ e ∈ zwn es seen, ∃ s, zqq or aos ({ st with H := st.H.set A (.iter (some M) since (seen ++ [e.2.2]) clock) }.put ao.dst (.tuple [zzt true, e.1, e.2.1])) = some s ∧ Q .normal s) : zwt P r (.region (ao :: aos)) Q st := fun c hc => by
 obtain ⟨id, ops, rfl, hos⟩ := zle hc
 refine AWp.region ?_
 cases hl : ops.toList with
 | nil => rw [hl] at hos; simp [zqc] at hos
 | cons o l =>
  rw [hl] at hos
  simp only [zqc, Option.bind_eq_some_iff, Option.map_eq_some_iff] at hos
  obtain ⟨ao', hao, as, has, e⟩ := hos
  cases e
  have hsz : List.range ops.size = 0 :: List.range' 1 l.length := by
   have : ops.size = l.length + 1 := by rw [← Array.length_toList, hl]; rfl
   rw [this, List.range_eq_range', List.range'_succ]
  have hat : ∀ i o', l[i]? = some o' → ops[1 + i]? = some o' := fun i o' ho' => by
   rw [← Array.getElem?_toList, hl, Nat.add_comm 1 i, List.getElem?_cons_succ]; exact ho'
  have h00 : ops[0]? = some o := by rw [← Array.getElem?_toList, hl]; rfl
  have rest : ∀ s0 s, zqq or aos s0 = some s → Q .normal s → zjw P r ops (List.range' 1 l.length) (Q .normal) s0 := fun s0 s hs hq B ρ a w hr => by
   have := zrg (r := r) hor l aos 1 s0 s hat has hs B ρ a w hr
   refine zxv (fun e a w q => ?_) _ _ _ this
   obtain ⟨s', ρ', ⟨q1, q2⟩, q3, q4⟩ := q
   subst q2
   exact ⟨s', ρ', ⟨q1, hq⟩, q3, q4⟩
  rw [hsz]
  exact zjw.iterNext h00 hao hop hw hxe hg hgM hold hsl (fun hl0 => let ⟨s, a, b⟩ := h0 hl0; rest _ s a b) fun e he => let ⟨s, a, b⟩ := h1 e he; rest _ s a b
theorem zdz {c : Code} {x : AOpd} {a b : zym} (h : zyv P c = some (.cond x a b)) : ∃ x' u v, c = .cond x' u v ∧ zxt x' = some x ∧ zyv P u = some a ∧ zyv P v = some b := by
 cases c with
 | cond x' u v =>
  simp only [zyv] at h
  obtain ⟨_, h1, h⟩ := Option.bind_eq_some_iff.1 h
  obtain ⟨_, h2, h⟩ := Option.bind_eq_some_iff.1 h
  obtain ⟨_, h3, h⟩ := Option.map_eq_some_iff.1 h
  cases h
  exact ⟨x', u, v, rfl, h1, h2, h3⟩
 | region id ops dr =>
  simp only [zyv] at h
  obtain ⟨_, _, h⟩ := Option.bind_eq_some_iff.1 h
  split at h
  ·split at h <;> cases h
  ·cases h
 | _ =>
  simp only [zyv] at h
  first
   | cases h; done
   | (obtain ⟨_, _, h⟩ := Option.map_eq_some_iff.1 h; cases h; done)
   | (obtain ⟨_, _, h⟩ := Option.bind_eq_some_iff.1 h; obtain ⟨_, _, h⟩ := Option.map_eq_some_iff.1 h; cases h; done)
   | (obtain ⟨_, _, h⟩ := Option.bind_eq_some_iff.1 h; obtain ⟨_, _, h⟩ := Option.bind_eq_some_iff.1 h; obtain ⟨_, _, h⟩ := Option.map_eq_some_iff.1 h; cases h; done)
theorem zwt.cond {x : AOpd} {a b : zym} {t : Bool} (he : ev st.tm x = .raw (.bool t)) (h : zwt P r (if t then a else b) Q st) : zwt P r (.cond x a b) Q st := fun c hc => by
 obtain ⟨x', u, v, rfl, h1, h2, h3⟩ := zdz hc
 refine AWp.cond h1 he ?_
 cases t
 ·exact h v h3
 ·exact h u h2
theorem zwt.ret (h : Q .ret st) : zwt P r .ret Q st := fun c hc => by
 rw [zmf hc]
 exact AWp.ret h
theorem zyp.of_code {env : Nat → Option zzq} (henv : zjt P env) {f : Nat} {af : zzq} (hf : env f = some af) {args : List AVal} {H : zz6} {R : AVal → zz6 → Prop}
  (h : zwt P none af.code (yq9 af.res R) { tm := args ++ List.replicate (af.ntmps - args.length) zzc, H := H, marks := [] }) : zyp P f args H R := by
 obtain ⟨fn, h1, h2, h3⟩ := henv f af hf
 unfold yz9 at h3
 simp only [Option.bind_eq_some_iff, Option.map_eq_some_iff] at h3
 obtain ⟨c, hb, ac, hac, rs, hrs, rfl⟩ := h3
 exact zyp.of_body h1 hb hrs (h c hac)
end
section
variable {P : Program} {B : Base} {ρ0 ρ : Ren} {H0 H H2 : zz6} {w0 w : World}
mutual
theorem VRel.shrink (hle : ρ0.le ρ) : ∀ {v : AVal} {c0 c : Value}, VRel ρ0 v c0 → VRel ρ v c → VRel ρ0 v c
 | _, _, _, .raw v, .raw _ => .raw v
 | _, _, _, .ptr h0, .ptr h => by rw [hle _ _ _ h0] at h; cases h; exact .ptr h0
 | _, _, _, .slice h0 _ _ _ _, .slice h hk hl he hn => by rw [hle _ _ _ h0] at h; cases h; exact .slice h0 hk hl he hn
 | _, _, _, .sliceE h0, .sliceE h => .sliceE h0
 | _, _, _, .slice h0 _ _ _ _, .sliceE h => .sliceE h0
 | _, _, _, .sliceE h0, .slice h hk hl he hn => by rw [hle _ _ _ h0] at h; cases h; exact .slice h0 hk hl he hn
 | _, _, _, .map h0, .map h => by rw [hle _ _ _ h0] at h; cases h; exact .map h0
 | _, _, _, .func h0, .func h => .func (VRels.shrink hle h0 h)
 | _, _, _, .yield h0, .yield h => by rw [hle _ _ _ h0] at h; cases h; exact .yield h0
 | _, _, _, .agg h0, .agg h => .agg (VRels.shrink hle h0 h)
 | _, _, _, .tuple h0, .tuple h => .tuple (VRels.shrink hle h0 h)
 | _, _, _, .iface h0, .iface h => .iface (VRel.shrink hle h0 h)
theorem VRels.shrink (hle : ρ0.le ρ) : ∀ {v : List AVal} {c0 c : List Value}, VRels ρ0 v c0 → VRels ρ v c → VRels ρ0 v c
 | _, _, _, .nil, .nil => .nil
 | _, _, _, .cons h0 hs0, .cons h hs => .cons (VRel.shrink hle h0 h) (VRels.shrink hle hs0 hs)
end
theorem HRel.forget (h : HRel P B ρ H w) {A : Nat} {vs vs' : zuq} (hA : H.get A = some (.row vs)) (hl : vs'.length = vs.length) (hv : ∀ (v : Nat) x, vs'[v]? = some (some x) → vs[v]? = some (some x)) : HRel P B ρ (H.set A (.row vs')) w := by
 have hro : ∀ C, isRo (H.set A (.row vs')) C ↔ isRo H C := fun C => by
  unfold isRo
  rw [zz6.get_set]
  split
  ·rename_i e
   rw [e, hA]
   exact ⟨fun ⟨_, h⟩ => by simp at h, fun ⟨_, h⟩ => by simp at h⟩
  ·exact Iff.rfl
 have hlt : A < H.next := by
  rcases Nat.lt_or_ge A H.next with q | q
  ·exact q
  ·rw [h.wf A q] at hA; cases hA
 refine ⟨h.le, h.fresh, fun C hC => ?_, fun C v l q => ?_, fun C o q => ?_, fun A1 A2 v1 v2 l1 l2 e1 e2 e3 => ?_, fun C v l e r => h.own C v l e fun q => r ((hro C).2 q), h.lt, h.size, h.frame, h.side, fun C v l r e => h.ro C v l ((hro C).1 r) e⟩
 ·rw [zz6.get_set]
  split
  ·rename_i e; subst e; exact absurd hlt (by simpa using hC)
  ·exact h.wf C hC
 ·rw [zz6.get_set]
  split
  ·exact ⟨_, rfl⟩
  ·exact h.dom C v l q
 ·rw [zz6.get_set] at q
  split at q
  ·rename_i e
   subst e
   cases q
   obtain ⟨h1, h2, h3, h4⟩ := h.obj _ _ hA
   exact ⟨fun v hv' => h1 v (by omega), fun v hv' => h2 v (by omega), fun v rel cells l e1 e2 => h3 v rel cells l (hv v _ e1) e2, fun v1 v2 r1 r2 c1 c2 l1 l2 e1 e2 => h4 v1 v2 r1 r2 c1 c2 l1 l2 (hv v1 _ e1) (hv v2 _ e2)⟩
  ·exact h.obj C o q
 ·rcases h.sep A1 A2 v1 v2 l1 l2 e1 e2 e3 with q | ⟨q1, q2⟩
  ·exact .inl q
  ·exact .inr ⟨(hro _).2 q1, (hro _).2 q2⟩
theorem zyd.shrink (hle : ρ0.le ρ) {a0 a : Array Value} {s0 s : Nat} {l : List AVal} (h0 : zyd ρ0 a0 s0 l) (h : zyd ρ a s l) : zyd ρ0 a s l := fun i v hv => by
 obtain ⟨c0, _, r0⟩ := h0 i v hv
 obtain ⟨c, e, r⟩ := h i v hv
 exact ⟨c, e, r0.shrink hle r⟩
theorem zr8.shrink (hle : ρ0.le ρ) {l0 l : Loc} {cells : List AVal} (h0 : zr8 ρ0 w0 l0 cells) (h : zr8 ρ w l cells) : zr8 ρ0 w l cells := by
 obtain ⟨a0, e0, f0, _, _, c0⟩ := h0
 obtain ⟨a, e, f, h1, h2, c⟩ := h
 exact ⟨a, e, f, h1, h2, c0.shrink hle c⟩
theorem zzv.shrink (hle : ρ0.le ρ) : ∀ {es : List (AVal × AVal × Nat)} {c0 c : List MapEntry}, zzv ρ0 es c0 → zzv ρ es c → zzv ρ0 es c
 | [], _, [], _, _ => trivial
 | [], _, _ :: _, _, h => h.elim
 | _ :: _, _, [], _, h => h.elim
 | _ :: _, [], _ :: _, h0, _ => h0.elim
 | (_, _, _) :: _, _ :: _, _ :: _, ⟨a0, b0, _, d0⟩, ⟨a, b, c, d⟩ => ⟨a0.shrink hle a, b0.shrink hle b, c, zzv.shrink hle d0 d⟩
theorem zbh.shrink (hle : ρ0.le ρ) : ∀ {M c0 c : Option Nat}, zbh ρ0 M c0 → zbh ρ M c → zbh ρ0 M c
 | none, _, none, _, _ => trivial
 | none, _, some _, _, h => h.elim
 | some _, _, none, _, h => h.elim
 | some M, some _, some _, ⟨x0, a0, _⟩, ⟨x, a, b⟩ => by
  rw [hle _ _ _ a0] at a
  cases a
  exact ⟨x0, a0, b⟩
 | some M, none, some _, h0, _ => h0.elim
theorem zuv.shrink (hle : ρ0.le ρ) {L : zfq} {l0 l : Loop} (h0 : zuv P ρ0 L l0) (h : zuv P ρ L l) : zuv P ρ0 L l := by
 obtain ⟨_, _, t0, _, _, _, x0, d0, _⟩ := h0
 obtain ⟨a, b, t, c, d, e, x, f, g⟩ := h
 rw [hle _ _ _ d0] at f
 cases f
 exact ⟨a, b, t0.shrink hle t, c, d, e, x0, d0, g⟩
theorem zxg.of_eq {A : Nat} (hA : ∀ v, ρ0 A v = ρ A v) (h : zxg ρ A) : zxg ρ0 A := fun v hv => by rw [hA]; exact h v hv
theorem zwc.shrink (hle : ρ0.le ρ) {A : Nat} {o : AObj} (hA : ∀ v, ρ0 A v = ρ A v) (h0 : zwc P ρ0 w0 A o) (h : zwc P ρ w A o) : zwc P ρ0 w A o := by
 cases o with
 | row vs =>
  obtain ⟨_, _, k, _⟩ := h0
  obtain ⟨h1, h2, h3, h4⟩ := h
  refine ⟨fun v hv => by rw [hA]; exact h1 v hv, fun v hv => by rw [hA]; exact h2 v hv, fun v rel cells l e1 e2 => ?_, fun v1 v2 r1 r2 c1 c2 l1 l2 e1 e2 e3 e4 => ?_⟩
  ·exact (k v rel cells l e1 e2).shrink hle (h3 v rel cells l e1 (by rw [← hA]; exact e2))
  ·rw [hA] at e3 e4
   exact h4 v1 v2 r1 r2 c1 c2 l1 l2 e1 e2 e3 e4
 | ro cells =>
  obtain ⟨_, l0, a0, b0⟩ := h0
  obtain ⟨s, l, a, b⟩ := h
  exact ⟨zxg.of_eq hA s, l, by rw [hA]; exact a, b0.shrink hle b⟩
 | map es clock =>
  obtain ⟨_, l0, c0, _, _, k0⟩ := h0
  obtain ⟨s, l, c, a, b, k⟩ := h
  exact ⟨zxg.of_eq hA s, l, c, by rw [hA]; exact a, b, k0.shrink hle k⟩
 | loop L =>
  obtain ⟨_, l0, r0, _, _, k0⟩ := h0
  obtain ⟨s, l, r, a, b, k⟩ := h
  exact ⟨zxg.of_eq hA s, l, r, by rw [hA]; exact a, b, k0.shrink hle k⟩
 | defs taken =>
  obtain ⟨s, l, a, b⟩ := h
  exact ⟨zxg.of_eq hA s, l, by rw [hA]; exact a, b⟩
 | iter M since seen last =>
  obtain ⟨_, l0, m0, _, _, _, k0⟩ := h0
  obtain ⟨s, l, m, a, b, c, k⟩ := h
  exact ⟨zxg.of_eq hA s, l, m, by rw [hA]; exact a, b, c, k0.shrink hle k⟩
theorem zwc.names (hle : ρ0.le ρ) {A : Nat} {o : AObj} (h0 : zwc P ρ0 w0 A o) (h : zwc P ρ w A o) : ∀ v, ρ0 A v = ρ A v := by
 have one : ∀ {l0 l : Loc}, zxg ρ0 A → zxg ρ A → ρ0 A 0 = some l0 → ρ A 0 = some l → ∀ v, ρ0 A v = ρ A v := fun {l0 l} s0 s a0 a v => by
  by_cases hv : v = 0
  ·subst hv; rw [a0, hle _ _ _ a0]
  ·rw [s0 v hv, s v hv]
 cases o with
 | row vs =>
  intro v
  rcases Nat.lt_or_ge v vs.length with hv | hv
  ·obtain ⟨l, a, _⟩ := h0.2.1 v hv
   rw [a, hle _ _ _ a]
  ·rw [h0.1 v hv, h.1 v hv]
 | ro cells => obtain ⟨s0, l0, a0, _⟩ := h0; obtain ⟨s, l, a, _⟩ := h; exact one s0 s a0 a
 | map es clock => obtain ⟨s0, l0, _, a0, _⟩ := h0; obtain ⟨s, l, _, a, _⟩ := h; exact one s0 s a0 a
 | loop L => obtain ⟨s0, l0, _, a0, _⟩ := h0; obtain ⟨s, l, _, a, _⟩ := h; exact one s0 s a0 a
 | defs taken => obtain ⟨s0, l0, a0, _⟩ := h0; obtain ⟨s, l, a, _⟩ := h; exact one s0 s a0 a
 | iter M since seen last => obtain ⟨s0, l0, _, a0, _⟩ := h0; obtain ⟨s, l, _, a, _⟩ := h; exact one s0 s a0 a
def Ren.only (ρ : Ren) (K : Nat → Bool) : Ren := fun A v => if K A then ρ A v else none
theorem Ren.only_some {K : Nat → Bool} {A v : Nat} {l : Loc} (h : ρ.only K A v = some l) : K A = true ∧ ρ A v = some l := by
 unfold Ren.only at h
 split at h
 ·exact ⟨by assumption, h⟩
 ·cases h
theorem HRel.only (h0 : HRel P B ρ0 H0 w0) (h : HRel P B ρ H w) (hle : ρ0.le ρ) (hold : ∀ A, A < H0.next → H.get A = H0.get A) (K : Nat → Bool) (hK : ∀ A, A < H0.next → K A = true)
  (hnew : ∀ A o, H0.next ≤ A → K A = true → H.get A = some o → zwc P (ρ.only K) w A o) (hg : ∀ A, K A = true → H2.get A = H.get A) (hn : ∀ A, K A = false → H2.get A = none) (hnext : H2.next = H.next) (hmono : H0.next ≤ H.next) :
  HRel P B (ρ.only K) H2 w ∧ ρ0.le (ρ.only K) := by
 have hlow : ρ0.le (ρ.only K) := fun A v l q => by
  have hA : A < H0.next := by
   rcases Nat.lt_or_ge A H0.next with x | x
   ·exact x
   ·rw [h0.fresh A v x] at q; cases q
  unfold Ren.only
  rw [hK A hA]
  exact hle _ _ _ q
 have hro : ∀ A, K A = true → (isRo H2 A ↔ isRo H A) := fun A hA => by unfold isRo; rw [hg A hA]
 refine ⟨⟨fun A v l q => hlow _ _ _ (h0.le _ _ _ q), fun A v q => ?_, fun A q => ?_, fun A v l q => ?_, fun A o q => ?_, fun A1 A2 v1 v2 l1 l2 e1 e2 e3 => ?_, fun A v l e r => ?_, fun A v l e => h.lt A v l (Ren.only_some e).2, h.size, h.frame, h.side, fun A v l r e => ?_⟩, hlow⟩
 ·unfold Ren.only
  split
  ·exact h.fresh A v (by rw [← hnext]; exact q)
  ·rfl
 ·cases hk : K A with
  | true => rw [hg A hk]; exact h.wf A (by rw [← hnext]; exact q)
  | false => exact hn A hk
 ·obtain ⟨a, b⟩ := Ren.only_some q
  rw [hg A a]
  exact h.dom A v l b
 ·have hk : K A = true := by
   cases hk : K A with
   | true => rfl
   | false => rw [hn A hk] at q; cases q
  rw [hg A hk] at q
  rcases Nat.lt_or_ge A H0.next with x | x
  ·have q0 : H0.get A = some o := by rw [← hold A x]; exact q
   have r0 := h0.obj A o q0
   have r := h.obj A o q
   have hA := zwc.names hle r0 r
   exact (zwc.shrink hle hA r0 r).keep hlow (fun v => by unfold Ren.only; rw [hK A x, if_pos rfl, hA]) fun v l _ => rfl
  ·exact hnew A o x hk q
 ·obtain ⟨a1, b1⟩ := Ren.only_some e1
  obtain ⟨a2, b2⟩ := Ren.only_some e2
  rcases h.sep A1 A2 v1 v2 l1 l2 b1 b2 e3 with x | ⟨x, y⟩
  ·exact .inl x
  ·exact .inr ⟨(hro A1 a1).2 x, (hro A2 a2).2 y⟩
 ·obtain ⟨a, b⟩ := Ren.only_some e
  exact h.own A v l b fun x => r ((hro A a).2 x)
 ·obtain ⟨a, b⟩ := Ren.only_some e
  exact h.ro A v l ((hro A a).1 r) b
end
section
variable {P : Program} {B : Base} {ρ ρ' : Ren} {H H' H2 : zz6} {w w' : World} {K : Nat → Bool}
def Raws (vs : zuq) : Prop := ∀ (v rel : Nat) (cells : List AVal), vs[v]? = some (some (rel, cells)) → ∀ x ∈ cells, ∃ y, x = .raw y
theorem zv3.only {A : Nat} {vs : zuq} (hK : K A = true) (h : zv3 ρ w A vs) (hr : Raws vs) : zv3 (ρ.only K) w A vs := by
 have hA : ∀ v, ρ.only K A v = ρ A v := fun v => by unfold Ren.only; rw [hK, if_pos rfl]
 obtain ⟨h1, h2, h3, h4⟩ := h
 refine ⟨fun v hv => by rw [hA]; exact h1 v hv, fun v hv => by rw [hA]; exact h2 v hv, fun v rel cells l e1 e2 => ?_, fun v1 v2 r1 r2 c1 c2 l1 l2 e1 e2 e3 e4 => ?_⟩
 ·rw [hA] at e2
  obtain ⟨arr, e, fz, a, b, c⟩ := h3 v rel cells l e1 e2
  refine ⟨arr, e, fz, a, b, fun i x hx => ?_⟩
  obtain ⟨cv, p, q⟩ := c i x hx
  obtain ⟨y, rfl⟩ := hr v rel cells e1 x (List.mem_of_getElem? hx)
  exact ⟨cv, p, by rw [q.raw_inv]; exact .raw _⟩
 ·rw [hA] at e3 e4
  exact h4 v1 v2 r1 r2 c1 c2 l1 l2 e1 e2 e3 e4
inductive zhm (K : Nat → Bool) : AVal → Prop
 | raw (v : Value) : zhm K (.raw v)
 | slice {A ver off len kcap : Nat} {ex : Bool} {esz : Nat} (h : K A = true) : zhm K (.slice A ver off len kcap ex esz)
theorem zhm.rel {v : AVal} {cv : Value} (hs : zhm K v) (h : VRel ρ v cv) : VRel (ρ.only K) v cv := by
 cases hs with
 | raw x => rw [h.raw_inv]; exact .raw _
 | slice hk =>
  cases h with
  | slice a b c d e => exact .slice (by unfold Ren.only; rw [hk, if_pos rfl]; exact a) b c d e
  | sliceE a => exact .sliceE (by unfold Ren.only; rw [hk, if_pos rfl]; exact a)
theorem zyp.only {f : Nat} {args : List AVal} {R R' : AVal → zz6 → Prop} (h : zyp P f args H R)
  (hR : (∀ A, H.next ≤ A → H.get A = none) → ∀ v H', R v H' → ∃ (K : Nat → Bool) (H2 : zz6), H.next ≤ H'.next ∧ (∀ A, A < H.next → H'.get A = H.get A) ∧ (∀ A, A < H.next → K A = true) ∧ (∀ A o, H.next ≤ A → K A = true → H'.get A = some o → ∃ vs, o = .row vs ∧ Raws vs) ∧
   (∀ A, K A = true → H2.get A = H'.get A) ∧ (∀ A, K A = false → H2.get A = none) ∧ H2.next = H'.next ∧ zhm K v ∧ R' v H2) : zyp P f args H R' := by
 intro B ρ w cargs hH hargs
 refine (h B ρ w cargs hH hargs).mono fun e w' ⟨v, cv, H', ρ', e1, e2, e3, e4, e5⟩ => ?_
 obtain ⟨K, H2, a1, a2, a3, a4, a5, a6, a7, a8, a9⟩ := hR hH.wf v H' e2
 obtain ⟨b1, b2⟩ := HRel.only (H2 := H2) hH e4 e5 a2 K a3 (fun A o hA hk hg => by
  obtain ⟨vs, rfl, hr⟩ := a4 A o hA hk hg
  exact zv3.only hk (e4.obj A _ hg) hr) a5 a6 a7 a1
 exact ⟨v, cv, H2, _, e1, a9, a8.rel e3, b1, b2⟩
theorem zyp.forget {f : Nat} {args : List AVal} {R R' : AVal → zz6 → Prop} (h : zyp P f args H R)
  (hR : ∀ v H', R v H' → ∃ A vs vs', H'.get A = some (.row vs) ∧ vs'.length = vs.length ∧ (∀ (v : Nat) x, vs'[v]? = some (some x) → vs[v]? = some (some x)) ∧ R' v (H'.set A (.row vs'))) : zyp P f args H R' := by
 intro B ρ w cargs hH hargs
 refine (h B ρ w cargs hH hargs).mono fun e w' ⟨v, cv, H', ρ', e1, e2, e3, e4, e5⟩ => ?_
 obtain ⟨A, vs, vs', a1, a2, a3, a4⟩ := hR v H' e2
 exact ⟨v, cv, _, ρ', e1, a4, e3, e4.forget a1 a2 a3, e5⟩
end
end Go.Vm
