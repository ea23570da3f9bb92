/- The contract of (*book).live: whatever order its range takes. -/
import Derived.Test.YthbjfkkjmecaaaaY18
import Derived.Test.YthbjfkkjmecaaaaY17
set_option linter.unusedVariables false
set_option linter.unusedSimpArgs false
namespace Go.Proofs.Ythbjfkkjmecaaaa
open Go Go.Vm
section
variable {kn : zy0} {env : Nat → Option zzq}
theorem yqm (seen : List Nat) (b : Nat) : zqk seen b = true ↔ b ∈ seen := by
 unfold zqk
 rw [List.any_eq_true]
 constructor
 ·rintro ⟨x, h1, h2⟩; have := Nat.beq_eq.mp h2; subst this; exact h1
 ·intro h; exact ⟨b, h, by simp [-getElem?_pos]⟩
theorem zbx : ∀ (l : List Nat) (b : Nat), zn4 (l ++ [b]) = some b
 | [], b => rfl
 | [x], b => rfl
 | x :: y :: r, b => by
  show zn4 ((y :: r) ++ [b]) = some b
  exact zbx (y :: r) b
theorem zl1 : ∀ {es : zzb} {e : AVal × AVal × Nat}, (es.map (·.2.2)).Nodup → e ∈ es → (es.find? fun x => Nat.beq x.2.2 e.2.2) = some e
 | [], e, _, h => by cases h
 | x :: r, e, hn, h => by
  simp only [List.map_cons, List.nodup_cons] at hn
  rw [List.find?_cons]
  rcases List.mem_cons.1 h with rfl | h
  ·simp [-getElem?_pos]
  ·have : Nat.beq x.2.2 e.2.2 = false := Bool.eq_false_iff.2 fun hb => hn.1 (by rw [Nat.beq_eq.mp hb]; exact List.mem_map_of_mem h)
   rw [this]; exact zl1 hn.2 h
theorem za8 {es E : zzb} {e : AVal × AVal × Nat} (hn : (es.map (·.2.2)).Nodup) (he : e ∈ zwn es (E.map (·.2.2))) (hp : (E ++ zwn es (E.map (·.2.2))).Perm es) : ((E ++ [e]) ++ zwn es ((E ++ [e]).map (·.2.2))).Perm es := by
 refine .trans ?_ hp
 rw [List.append_assoc]
 refine List.Perm.append_left E ?_
 have e1 : zwn es ((E ++ [e]).map (·.2.2)) = (zwn es (E.map (·.2.2))).filter fun x => !(Nat.beq x.2.2 e.2.2) := by
  unfold zwn
  rw [List.filter_filter]
  congr 1; funext x
  rw [Bool.eq_iff_iff]
  simp only [Bool.not_eq_true', Bool.and_eq_true, ← Bool.not_eq_true, yqm, List.map_append, List.mem_append, List.map_cons, List.map_nil, List.mem_singleton, Nat.beq_eq, not_or]
  constructor
  ·rintro ⟨a, b⟩; exact ⟨b, a⟩
  ·rintro ⟨a, b⟩; exact ⟨b, a⟩
 rw [e1]
 have hnl : ((zwn es (E.map (·.2.2))).map (·.2.2)).Nodup := hn.sublist (List.Sublist.map _ List.filter_sublist)
 generalize zwn es (E.map (·.2.2)) = L at he hnl ⊢
 have := List.filter_append_perm (fun x : AVal × AVal × Nat => Nat.beq x.2.2 e.2.2) L
 refine .trans (List.Perm.append_right _ (.of_eq ?_)) this
 clear this e1 hp
 induction L with
 | nil => cases he
 | cons x r ih =>
  simp only [List.map_cons, List.nodup_cons] at hnl
  rw [List.filter_cons]
  rcases List.mem_cons.1 he with rfl | h
  ·have hr : r.filter (fun x => Nat.beq x.2.2 e.2.2) = [] := by
    rw [List.filter_eq_nil_iff]
    intro y hy hb
    exact hnl.1 (by rw [← Nat.beq_eq.mp hb]; exact List.mem_map_of_mem hy)
   simp [-getElem?_pos, hr]
  ·have : Nat.beq x.2.2 e.2.2 = false := Bool.eq_false_iff.2 fun hb => hnl.1 (by rw [Nat.beq_eq.mp hb]; exact List.mem_map_of_mem h)
   rw [this]
   exact ih h hnl.2
theorem appN {H : zz6} {R k X : Nat} {vs : zuq} {l : List AVal} {x : AVal} (hg : H.get R = some (.row vs)) (hv : vs[k]? = some (some (0, l))) (hl : l.length = k + 1) (hX : H.rowAt X 0 = some [x]) (hone : x.one = true) (hk : k < 1000) :
  zzf H 1 8 (.slice R k 0 (k + 1) (k + 1) false 1) (.slice X 0 0 1 1 true 1) = some (.slice R vs.length 0 (k + 2) (k + 2) false 1, H.set R (.row (zwy vs (k + 1) 1 0 (l ++ [x])))) := by
 have hr : H.rowAt R k = some l := by rw [zzk, hg]; simp [-getElem?_pos, hv]
 have e : (k + 1 + 1) * 8 ≤ 140737488355328 := by omega
 have e2 : l.take (k + 1) = l := List.take_of_length_le (by omega)
 simp [-getElem?_pos, zzf, zjl, aCells, hX, hone, hr, hg, hv, hl, e, e2]
theorem app0 {H : zz6} {X : Nat} {x : AVal} (hX : H.rowAt X 0 = some [x]) (hone : x.one = true) :
  zzf H 1 8 zxa (.slice X 0 0 1 1 true 1) = some (.slice H.next 0 0 1 1 false 1, H.push (.row [some (0, [x])])) := by
 simp [-getElem?_pos, zzf, zjl, aCells, hX, hone]
def Grown (H : zz6) (b : Nat) (v : AVal) (l : List AVal) : Prop :=
 (l = [] ∧ v = zxa ∧ H.next = b + 1) ∨ ∃ k vs, l.length = k + 1 ∧ v = .slice (b + 2) k 0 (k + 1) (k + 1) false 1 ∧ H.next = b + k + 3 ∧ H.get (b + 2) = some (.row vs) ∧ vs.length = k + 1 ∧ vs[k]? = some (some (0, l))
theorem Grown.step {H : zz6} {b : Nat} {v : AVal} {l : List AVal} (h : Grown H b v l) (x : AVal) (hone : x.one = true) (hl : l.length < 500) (it : AObj) :
  ∃ v' H', zzf ((H.set b it).push (.row [some (0, [x])])) 1 8 v (.slice (H.set b it).next 0 0 1 1 true 1) = some (v', H') ∧ Grown H' b v' (l ++ [x]) ∧ H'.get b = some it ∧ ∀ A, A < b → H'.get A = H.get A := by
 have hX : ((H.set b it).push (.row [some (0, [x])])).rowAt (H.set b it).next 0 = some [x] := by simp [-getElem?_pos]
 rcases h with ⟨rfl, rfl, h3⟩ | ⟨k, vs, h1, rfl, h3, h4, h5, h6⟩
 ·refine ⟨_, _, app0 hX hone, .inr ⟨0, [some (0, [x])], by simp [-getElem?_pos], by simp [-getElem?_pos, h3], by simp [-getElem?_pos, h3], ?_, by simp [-getElem?_pos], by simp [-getElem?_pos]⟩, ?_, fun A hA => ?_⟩
  ·simp (disch := omega) [-getElem?_pos, h3]
  ·simp (disch := omega) [-getElem?_pos, h3]
  ·simp (disch := omega) [-getElem?_pos, h3]
 ·have hg : ((H.set b it).push (.row [some (0, [x])])).get (b + 2) = some (.row vs) := by simp (disch := omega) [-getElem?_pos, h3, h4]
  refine ⟨_, _, appN hg h6 h1 hX hone (by omega), .inr ⟨k + 1, _, by simp [-getElem?_pos, h1], by rw [h5], by simp [-getElem?_pos, h3]; omega, zz6.zzy _ _ _, ?_, ?_⟩, ?_, fun A hA => ?_⟩
  ·simp [-getElem?_pos, zwy, zq0, h5]
  ·rw [zwy, List.getElem?_append_right (by rw [zq0, h5]; exact Nat.le_refl _), zq0, h5]; simp [-getElem?_pos]
  ·simp (disch := omega) [-getElem?_pos, h3]
  ·simp (disch := omega) [-getElem?_pos, h3]
def zvl : AVal → Int
 | .raw (.int _ n) => n
 | _ => 0
theorem zrn {L : zzb} (h : ∀ e ∈ L, e.2.1 = vi (zvl e.2.1)) : L.map (·.2.1) = (L.map fun e => zvl e.2.1).map vi := by
 rw [List.map_map]
 exact List.map_congr_left h
theorem ykx (n : Nat) (hn : 20 < n) (hk : zw1 Try.prog kn) (henv : zjt Try.prog env) (hm : Try.prog.follows .mixedOrders = true) (he : env 68 = some a68) (hs : zcy kn env) {H : zz6} {B M clock : Nat} {es : zzb} {cells : List AVal} {l : List Int}
    (hB : H.rowAt B 0 = some cells) (hB1 : cells[1]? = some (.map M)) (hBl : 2 ≤ cells.length) (hM : H.get M = some (.map es clock)) (hl : es.map (·.2.1) = l.map vi) (hl12 : l.length ≤ 12) (hold : ∀ e ∈ es, e.2.2 < clock) (hnd : (es.map (·.2.2)).Nodup) (hBn : B < H.next) (hMn : M < H.next) :
    zyp Try.prog 68 [vp B] H fun v H' => (∀ A, A < H.next → H'.get A = H.get A) ∧ Grown H' H.next v ((zer l).map vi) := by
  have hor := zsw hk henv hm (n + 5)
  have hgo := (zs6 hk henv (n + 5)).y
  have hv : ∀ e ∈ es, e.2.1 = vi (zvl e.2.1) := fun e he => by
    have : e.2.1 ∈ es.map (·.2.1) := List.mem_map_of_mem he
    rw [hl] at this
    obtain ⟨x, _, hx⟩ := List.mem_map.1 this
    rw [← hx]; rfl
  have hl2 : (es.map fun e => zvl e.2.1) = l := by
    have h1 := zrn hv
    rw [hl] at h1
    have h2 := congrArg (List.map zvl) h1
    simpa [-getElem?_pos, Function.comp_def, zvl] using h2.symm
  have hlen : es.length = l.length := by have := congrArg List.length hl; simpa [-getElem?_pos] using this
  have of : ∀ {c s Q}, Wp (zzp kn env (n + 5)) (n + 5) 22 [0, 2, 3, 5, 10, 12] c s Q → WpR Try.prog 22 [0, 2, 3, 5, 10, 12] c s Q := WpR.of hor hm hgo
  refine WpR.calls henv 22 [0, 2, 3, 5, 10, 12] he rfl (by simp) ?_
  apply WpR.seq
  apply of
  (repeat (first | apply Wp.za | apply Wp.zb)); (apply Wp.zh; (repeat (apply Ex.zc; (simp (disch := omega) [-getElem?_pos]; rfl))); exact Ex.zn; rfl; (simp; rfl))
  apply WpR.seq
  apply of
  (repeat (first | apply Wp.za | apply Wp.zb)); (apply Wp.zh; (repeat (apply Ex.zc; (simp (disch := omega) [-getElem?_pos]; rfl))); exact Ex.zn; rfl; (simp; rfl))
  apply WpR.seq; apply WpR.seq
  apply of
  (repeat (first | apply Wp.za | apply Wp.zb)); (apply Wp.zh; (repeat (apply Ex.zc; (simp (disch := omega) [-getElem?_pos, hB, hB1, hM, zb5]; rfl))); exact Ex.zn; rfl; (simp; rfl))
  apply WpR.blk
  apply WpR.loop (α := zzb × AVal × zz6) (fun x => [(10, vp H.next), (3, x.2.1)]) (·.2.2)
    (fun x => (x.1 ++ zwn es (x.1.map (·.2.2))).Perm es ∧ x.2.2.get H.next = some (.iter (some M) clock (x.1.map (·.2.2)) clock) ∧ (∀ A, A < H.next → x.2.2.get A = H.get A) ∧ Grown x.2.2 H.next x.2.1 (x.1.map (·.2.1)))
    (fun x => es.length - x.1.length) ([], zxa, H.push (.iter (some M) clock [] clock)) rfl
    ⟨by have : zwn es [] = es := List.filter_eq_self.2 (fun _ _ => rfl)
        simp [-getElem?_pos, this], by simp [-getElem?_pos], fun A hA => by simp (disch := omega) [-getElem?_pos], .inl ⟨rfl, rfl, by simp [-getElem?_pos]⟩⟩ (by simp)
  rintro ⟨E, v, H1⟩ ⟨hp, hi, hb, hg⟩
  dsimp only at hp hi hb hg ⊢
  have hM1 : H1.get M = some (.map es clock) := by rw [hb M hMn]; exact hM
  have hEl : E.length ≤ es.length := by have := hp.length_eq; rw [List.length_append] at this; omega
  apply WpR.seq
  apply WpR.next hor rfl rfl rfl hi hM1 hold (Nat.le_refl _)
  · intro hl0
    refine ⟨_, by (repeat (apply Ex.zc; (simp (disch := omega) [-getElem?_pos]; rfl))); exact Ex.zn, ?_⟩
    rw [hl0, List.append_nil] at hp
    have hm1 := zrn fun e he => hv e (hp.mem_iff.1 he)
    have hpl := hp.map fun e => zvl e.2.1
    rw [hl2] at hpl
    rw [hm1] at hg
    generalize (E.map fun e => zvl e.2.1) = l' at hg hpl
    have hl' := hpl.length_eq
    apply WpR.seq; apply WpR.cF rfl; apply of; apply Wp.ze
    apply WpR.seq
    rcases hg with ⟨g1, rfl, g3⟩ | ⟨k, vs, g1, rfl, g3, g4, g5, g6⟩
    · have h90 := c90z hs n H1
      apply of
      (repeat (first | apply Wp.za | apply Wp.zb)); (apply Wp.zh; (repeat (apply Ex.zc; (simp (disch := omega) [-getElem?_pos, h90]; rfl))); exact Ex.zn; rfl; (simp; rfl))
      apply WpR.seq; apply of
      (repeat (first | apply Wp.za | apply Wp.zb)); (apply Wp.zh; (repeat (apply Ex.zc; (simp (disch := omega) [-getElem?_pos]; rfl))); exact Ex.zn; rfl; (simp; rfl))
      apply WpR.ret
      have : l' = [] := by simpa [-getElem?_pos] using g1
      subst this
      have : l = [] := List.eq_nil_of_length_eq_zero hl'.symm
      subst this
      simp [-getElem?_pos, a68]
      exact ⟨hb, .inl ⟨by simp [-getElem?_pos, zer], rfl, g3⟩⟩
    · have g1 : l'.length = k + 1 := by simpa [-getElem?_pos] using g1
      obtain ⟨_, H2, h90, rfl, m, hm1, hm2, hm3⟩ := c90 hs n l' (by omega) hn H1 (H.next + 2) k (k + 1) (k + 1) false ⟨⟨vs, g4, g5, g6⟩, rfl, fun _ _ => rfl⟩
      rw [g1] at h90
      have := yzc (hm1.trans hpl) hm2
      subst this
      apply of
      (repeat (first | apply Wp.za | apply Wp.zb)); (apply Wp.zh; (repeat (apply Ex.zc; (simp (disch := omega) [-getElem?_pos, h90]; rfl))); exact Ex.zn; rfl; (simp; rfl))
      apply WpR.seq; apply of
      (repeat (first | apply Wp.za | apply Wp.zb)); (apply Wp.zh; (repeat (apply Ex.zc; (simp (disch := omega) [-getElem?_pos]; rfl))); exact Ex.zn; rfl; (simp; rfl))
      apply WpR.ret
      obtain ⟨vs2, q1, q2, q3⟩ := hm3.row
      simp [-getElem?_pos, a68]
      exact ⟨fun A hA => by rw [hm3.other A (by omega), hb A hA], .inr ⟨k, vs2, by simp [-getElem?_pos, zvz]; omega, rfl, by rw [hm3.next, g3], q1, q2, q3⟩⟩
  · intro e hel
    refine ⟨_, by (repeat (apply Ex.zc; (simp (disch := omega) [-getElem?_pos]; rfl))); exact Ex.zn, ?_⟩
    have hees : e ∈ es := (List.mem_filter.1 hel).1
    have hstep := za8 hnd hel hp
    have hEl2 := hstep.length_eq
    simp only [List.length_append, List.length_cons, List.length_nil] at hEl2
    have hfind : (es.find? fun x => Nat.beq x.2.2 e.2.2) = some e := zl1 hnd hees
    obtain ⟨v', H2, ha, g1, g2, g3⟩ := hg.step e.2.1 (by rw [hv e hees]; rfl) (by simp; omega) (.iter (some M) clock ((E ++ [e]).map (·.2.2)) clock)
    have hbn : H1.next ≠ H.next := by rcases hg with ⟨_, _, h⟩ | ⟨k, _, _, _, h, _⟩ <;> omega
    apply WpR.seq; apply WpR.cT rfl; apply of; apply Wp.zd
    apply WpR.blk; apply WpR.seq; apply of
    (repeat (first | apply Wp.za | apply Wp.zb)); (apply Wp.zh; (repeat (apply Ex.zc; (simp (disch := omega) [-getElem?_pos, zt3, hM1, zbx, hfind]; rfl))); exact Ex.zn; rfl; (simp; rfl))
    obtain ⟨i, hi⟩ : ∃ i, e.2.1 = vi i := ⟨_, hv e hees⟩
    simp only [List.map_append, List.map_cons, List.map_nil, zz6.next_set, hi] at ha g1
    apply of
    (repeat (first | apply Wp.za | apply Wp.zb)); (apply Wp.zh; (repeat (apply Ex.zc; (simp (disch := omega) [-getElem?_pos, ha, hi, zzm, zx1]; rfl))); exact Ex.zn; rfl; (simp; rfl))
    refine ⟨(E ++ [e], v', H2), rfl, ⟨hstep, g2, fun A hA => by rw [g3 A hA, hb A hA], by simpa [-getElem?_pos, hi] using g1⟩, by simp; omega, by simp [-getElem?_pos]⟩
def zwl (H : zz6) (l : List Int) : AVal × zz6 :=
 if l.length = 0 then (zxa, H.up 1)
 else (.slice (H.next + 2) (l.length - 1) 0 l.length l.length false 1, (H.up (l.length + 2)).set (H.next + 2) (.row (List.replicate (l.length - 1) none ++ [some (0, (zer l).map vi)])))
theorem zdn (n : Nat) (hn : 20 < n) (hk : zw1 Try.prog kn) (henv : zjt Try.prog env) (hm : Try.prog.follows .mixedOrders = true) (he : env 68 = some a68) (hs : zcy kn env) {H : zz6} {B M clock : Nat} {es : zzb} {cells : List AVal} {l : List Int}
  (hB : H.rowAt B 0 = some cells) (hB1 : cells[1]? = some (.map M)) (hBl : 2 ≤ cells.length) (hM : H.get M = some (.map es clock)) (hl : es.map (·.2.1) = l.map vi) (hl12 : l.length ≤ 12) (hold : ∀ e ∈ es, e.2.2 < clock) (hnd : (es.map (·.2.2)).Nodup) (hBn : B < H.next) (hMn : M < H.next) :
  zyp Try.prog 68 [vp B] H fun v H' => v = (zwl H l).1 ∧ H' = (zwl H l).2 := by
 have hw := ykx n hn hk henv hm he hs hB hB1 hBl hM hl hl12 hold hnd hBn hMn
 by_cases h0 : l.length = 0
 ·refine hw.only fun hwf v H' ⟨h1, h2⟩ => ?_
  rcases h2 with ⟨g1, rfl, g3⟩ | ⟨k, vs, g1, _⟩
  ·refine ⟨fun A => decide (A < H.next), H.up 1, by omega, h1, fun A hA => by simp [-getElem?_pos, hA], fun A o hA hK => ?_, fun A hA => ?_, fun A hA => ?_, by simp [-getElem?_pos, g3], .raw _, by simp [-getElem?_pos, zwl, h0], by simp [-getElem?_pos, zwl, h0]⟩
   ·simp [-getElem?_pos] at hK; omega
   ·simp [-getElem?_pos] at hA; rw [zel, h1 A hA]
   ·simp [-getElem?_pos] at hA; rw [zel, hwf A hA]
  ·simp [-getElem?_pos, zvz] at g1; omega
 ·refine zyp.only (zyp.forget (R' := fun v H' => (∀ A, A < H.next → H'.get A = H.get A) ∧ v = .slice (H.next + 2) (l.length - 1) 0 l.length l.length false 1 ∧ H'.next = H.next + l.length + 2 ∧ H'.get (H.next + 2) = some (.row (List.replicate (l.length - 1) none ++ [some (0, (zer l).map vi)]))) hw fun v H' ⟨h1, h2⟩ => ?_) fun hwf v H' ⟨h1, h2, h3, h4⟩ => ?_
  ·rcases h2 with ⟨g1, _⟩ | ⟨k, vs, g1, rfl, g3, g4, g5, g6⟩
   ·have : (zer l).length = 0 := by rw [← List.length_map (f := vi), g1]; rfl
    rw [zvz] at this; omega
   ·have hk' : l.length = k + 1 := by simpa [-getElem?_pos, zvz] using g1
    rw [hk']
    refine ⟨H.next + 2, vs, List.replicate k none ++ [some (0, (zer l).map vi)], g4, by simp [-getElem?_pos, g5], fun v x hx => ?_, fun A hA => by rw [zz6.zzz _ _ (by omega), h1 A hA], by simp [-getElem?_pos], by simp [-getElem?_pos, g3]; omega, by simp [-getElem?_pos]⟩
    rw [List.getElem?_append] at hx
    split at hx
    ·rename_i hv
     rw [List.length_replicate] at hv
     rw [List.getElem?_replicate, if_pos hv] at hx; cases hx
    ·rename_i hv
     rw [List.length_replicate] at hx hv
     have : v = k := by
      have := (List.getElem?_eq_some_iff.1 hx).1
      simp [-getElem?_pos] at this; omega
     subst this
     simp [-getElem?_pos] at hx
     rw [g6, hx]
  ·subst h2
   refine ⟨fun A => decide (A < H.next ∨ A = H.next + 2), (zwl H l).2, by omega, h1, fun A hA => by simp [-getElem?_pos, hA], fun A o hA hK hg => ?_, fun A hA => ?_, fun A hA => ?_, by simp [-getElem?_pos, zwl, h0, h3]; omega, .slice (by simp), by simp [-getElem?_pos, zwl, h0], rfl⟩
   ·simp [-getElem?_pos] at hK
    have : A = H.next + 2 := by omega
    subst this
    rw [h4] at hg; cases hg
    refine ⟨_, rfl, fun v rel cells hv x hx => ?_⟩
    rw [List.getElem?_append] at hv
    split at hv
    ·rename_i hv2
     rw [List.length_replicate] at hv2
     rw [List.getElem?_replicate, if_pos hv2] at hv; cases hv
    ·have : cells = (zer l).map vi := by
      have := List.mem_of_getElem? hv
      simp [-getElem?_pos] at this
      exact this.2
     subst this
     obtain ⟨y, _, rfl⟩ := List.mem_map.1 hx
     exact ⟨_, rfl⟩
   ·simp [-getElem?_pos] at hA
    rcases hA with hA | rfl
    ·simp only [zwl, h0, if_false]
     rw [zz6.zzz _ _ (by omega), zel, h1 A hA]
    ·simp only [zwl, h0, if_false]
     rw [zz6.zzy, h4]
   ·simp [-getElem?_pos] at hA
    simp only [zwl, h0, if_false]
    rw [zz6.zzz _ _ (by omega), zel, hwf A (by omega)]
def yu6 : AVal → Bool
 | .raw (.int .i64 _) => true
 | _ => false
def zfn (H : zz6) (B : Nat) : Option (List Int) :=
 match ((H.rowAt B 0).bind (fun c : List AVal => c[1]?) : Option AVal) with
 | some (.map M) => match H.get M with
  | some (.map es clock) => if (∀ e ∈ es, yu6 e.2.1 = true ∧ e.2.2 < clock) ∧ es.length ≤ 12 ∧ (es.map (·.2.2)).Nodup ∧ B < H.next ∧ M < H.next then some (es.map fun e => zvl e.2.1) else none
  | _ => none
 | _ => none
def zp0 : zy0 := fun f args H => if f = 68 then match args with
 | [.ptr B 0 0] => (zfn H B).map (zwl H)
 | _ => none else none
theorem yzn (hk : zw1 Try.prog kn) (henv : zjt Try.prog env) (hm : Try.prog.follows .mixedOrders = true) (he : env 68 = some a68) (hs : zcy kn env) : zw1 Try.prog zp0 := fun f args H v H' h => by
 unfold zp0 at h
 split at h
 ·rename_i hf
  subst hf
  split at h
  ·rename_i B
   obtain ⟨l, hl, hr⟩ := Option.map_eq_some_iff.1 h
   refine ⟨henv.go he, ?_⟩
   unfold zfn at hl
   split at hl
   ·rename_i M hM
    obtain ⟨cells, hc1, hc2⟩ := Option.bind_eq_some_iff.1 hM
    split at hl
    ·rename_i es clock hes
     split at hl
     ·rename_i hc
      obtain ⟨a1, a2, a3, a4, a5⟩ := hc
      cases hl
      have hmi : es.map (·.2.1) = (es.map fun e => zvl e.2.1).map vi := zrn fun e he => by
       have := (a1 e he).1
       unfold yu6 at this
       split at this
       ·rename_i x hx; rw [hx]; rfl
       ·cases this
      have := zdn 21 (by omega) hk henv hm he hs hc1 hc2 (by have := (List.getElem?_eq_some_iff.1 hc2).1; omega) hes hmi (by simpa [-getElem?_pos] using a2) (fun e he => (a1 e he).2) a3 a4 a5
      rw [hr] at this
      exact this
     ·cases hl
    ·cases hl
   ·cases hl
  ·cases h
 ·cases h
end
section
structure zyr (v : List AVal) : Prop where
 len : v.length = 32
 bytes : ∀ c ∈ v, ∃ n, c = v8 n
theorem zyr.one {v : List AVal} (h : zyr v) : v.all AVal.one = true := by
 rw [List.all_eq_true]
 intro c hc
 obtain ⟨n, rfl⟩ := h.bytes c hc
 rfl
theorem zyq : ∀ {v : List AVal}, (∀ c ∈ v, ∃ n, c = v8 n) → AVal.beqs v v = true
 | [], _ => by simp
 | c :: r, h => by
  obtain ⟨n, rfl⟩ := h c (List.mem_cons_self ..)
  simp [zyq fun x hx => h x (List.mem_cons_of_mem _ hx)]
abbrev zzd : List AVal := List.replicate 32 (v8 0)
theorem zxp : zyr zzd := ⟨by simp, fun c hc => ⟨0, (List.mem_replicate.1 hc).2⟩⟩
structure zta where
 row : Int
 blk : Int
 val : List AVal
def zta.cells (x : zta) : List AVal := vi x.row :: vi x.blk :: x.val
structure ImgD where
 blk : Int
 val : List AVal
def ImgD.cells (x : ImgD) : List AVal := vi x.blk :: x.val
structure RowD where
 kind : Int
 life : Int
 actor : Int
 ticket : Int
 blk : Int
 val : List AVal
 pos : Int
 cnt : Int
 err : Int
 set : List Int
structure TxD where
 client : Int
 life : Int
 ticket : Int
 set : List Int
 reads : List zta
 writes : List ImgD
 begun : Int
 asked : Int
 commit : Int
 pos : Int
 done : Int
 fate : Int
 on : Bool
def zv0 (i : Int) (r : RowD) : TxD := ⟨r.actor, r.life, r.ticket, r.set, [], [], i, -1, -1, 0, -1, 0, true⟩
def zlf (b : List TxD) (k : Nat) : Bool := match b[k]? with
 | some x => x.on
 | none => false
def zzj (b : List TxD) : List Nat := (List.range b.length).filter (zlf b)
def zy3 (b : List TxD) (k : Nat) : Int := match b[k]? with
 | some x => x.client
 | none => 0
def zy5 (b : List TxD) (c : Int) : Option Nat := (zzj b).find? fun k => zy3 b k == c
def ofB (b : List TxD) (r : RowD) : Option Nat := (zy5 b r.actor).bind fun k => (b[k]?).bind fun x => if x.ticket = r.ticket ∧ x.asked < 0 then some k else none
def zyx : List ImgD → ImgD → List ImgD
 | [], x => [x]
 | y :: l, x => if y.blk < x.blk then y :: zyx l x else if y.blk = x.blk then x :: l else x :: y :: l
def zjb (b : List TxD) (k : Nat) (f : TxD → TxD) : List TxD := match b[k]? with
 | some x => b.set k (f x)
 | none => b
def zur (b : List TxD) (i : Int) (r : RowD) : Option (List TxD) :=
 if ¬ (0 ≤ r.actor ∧ r.actor < 8) then none
 else if r.kind = 1 ∨ (r.kind = 7 ∧ r.ticket = 0) then (if (zy5 b r.actor).isSome then none else some b)
 else if r.kind = 2 then (if (zy5 b r.actor).isSome then none else some (b ++ [zv0 i r]))
 else (ofB b r).map fun k =>
  if r.kind = 5 then zjb b k fun x => { x with reads := x.reads ++ [⟨i, r.blk, r.val⟩] }
  else if r.kind = 6 then zjb b k fun x => { x with writes := zyx x.writes ⟨r.blk, r.val⟩ }
  else if r.kind = 8 then zjb b k fun x => { x with asked := i }
  else if r.kind = 9 then zjb b k fun x => { x with fate := 2, on := false }
  else b
def zqf (b : List TxD) (t : Int) (k : Nat) : Bool := match b[k]? with
 | some x => x.ticket == t
 | none => false
def lone : List Nat → Option Nat
 | [k] => some k
 | _ => none
def zvc (b : List TxD) (t : Int) : Option Nat := lone ((zzj b).filter (zqf b t))
def zx3 (b : List TxD) (i : Int) (r : RowD) : Option (List TxD) :=
 if 1 ≤ r.kind ∧ r.kind ≤ 9 then zur b i r
 else if r.kind = 11 then (zvc b r.ticket).bind fun k => (b[k]?).bind fun x => if 0 ≤ x.asked ∧ x.commit < 0 then some (if r.blk = -1 then b.set k { x with commit := i, pos := r.pos } else b) else none
 else if r.kind = 13 then (zvc b r.ticket).bind fun k => (b[k]?).bind fun x => if 0 ≤ x.commit ∧ x.pos = r.pos then some (b.set k { x with done := i, fate := 5, on := false }) else none
 else if r.kind = 18 then some (b.map fun x => if x.on then { x with fate := if x.commit < 0 then 3 else 4, on := false } else x)
 else if r.kind = 19 then some (b.map fun x => if x.fate = 4 then { x with fate := if x.pos < r.pos then 6 else 7 } else x)
 else some b
def zqv : List TxD → Nat → List RowD → Option (List TxD)
 | b, _, [] => some b
 | b, i, r :: l => (zx3 b i r).bind fun b => zqv b (i + 1) l
def zcl (x : TxD) : TxD := if x.on then { x with fate := if 0 ≤ x.commit then 4 else 1 } else x
def zmc (l : List RowD) : Option (List TxD) := (zqv [] 0 l).map (·.map zcl)
theorem zxd {b : List TxD} {k : Nat} : k ∈ zzj b ↔ ∃ x, b[k]? = some x ∧ x.on = true := by
 unfold zzj zlf
 rw [List.mem_filter, List.mem_range]
 constructor
 ·rintro ⟨h1, h2⟩
  rw [List.getElem?_eq_getElem h1] at h2
  exact ⟨b[k], List.getElem?_eq_getElem h1, h2⟩
 ·rintro ⟨x, h1, h2⟩
  exact ⟨(List.getElem?_eq_some_iff.1 h1).1, by rw [h1]; exact h2⟩
theorem zsr (b : List TxD) : (zzj b).Pairwise (· < ·) := (List.pairwise_lt_range).sublist List.filter_sublist
theorem zjv (b : List TxD) : (zzj b).Nodup := (zsr b).imp fun h => Nat.ne_of_lt h
theorem zhw {b : List TxD} {x : TxD} (hx : x.on = true) : zzj (b ++ [x]) = zzj b ++ [b.length] := by
 unfold zzj
 rw [List.length_append, List.length_singleton, List.range_succ, List.filter_append]
 congr 1
 ·apply List.filter_congr
  intro k hk
  rw [List.mem_range] at hk
  unfold zlf
  rw [List.getElem?_append_left hk]
 ·simp [zlf, hx]
theorem zl5 {b b' : List TxD} (hl : b'.length = b.length) (h : ∀ k, zlf b' k = zlf b k) : zzj b' = zzj b := by
 unfold zzj
 rw [hl]
 exact List.filter_congr fun k _ => h k
theorem zeu {b : List TxD} {k : Nat} {x : TxD} (hk : k ∈ zzj b) (hx : x.on = false) : zzj (b.set k x) = (zzj b).filter (· != k) := by
 unfold zzj
 rw [List.length_set, List.filter_filter]
 apply List.filter_congr
 intro j hj
 rw [List.mem_range] at hj
 unfold zlf
 rw [List.getElem?_set]
 by_cases e : k = j
 ·subst e; simp [hj, hx]
 ·rw [if_neg e]
  have : (j != k) = true := by simp; exact fun h => e h.symm
  rw [this, Bool.true_and]
theorem yzr {b : List TxD} (h : ∀ x ∈ b, x.on = false) : zzj b = [] := by
 unfold zzj
 rw [List.filter_eq_nil_iff]
 intro k hk
 rw [List.mem_range] at hk
 unfold zlf
 rw [List.getElem?_eq_getElem hk]
 simp [h _ (List.getElem_mem hk)]
structure zqx (es : zzb) (clock : Nat) (b : List TxD) : Prop where
 perm : (es.map fun e => (e.1, e.2.1)).Perm ((zzj b).map fun k => (vi (zy3 b k), vi k))
 keys : (es.map (·.1)).Nodup
 born : ∀ e ∈ es, e.2.2 < clock
 nodup : (es.map (·.2.2)).Nodup
 rng : ∀ k ∈ zzj b, 0 ≤ zy3 b k ∧ zy3 b k < 8
theorem zqx.key {es : zzb} {clock : Nat} {b : List TxD} (h : zqx es clock b) {e : AVal × AVal × Nat} (he : e ∈ es) : ∃ k ∈ zzj b, e.1 = vi (zy3 b k) ∧ e.2.1 = vi k := by
 have : (e.1, e.2.1) ∈ es.map fun e => (e.1, e.2.1) := List.mem_map_of_mem (f := fun e : AVal × AVal × Nat => (e.1, e.2.1)) he
 rw [h.perm.mem_iff] at this
 obtain ⟨k, h1, h2⟩ := List.mem_map.1 this
 cases e
 simp only [Prod.mk.injEq] at h2
 exact ⟨k, h1, h2.1.symm, h2.2.symm⟩
theorem zqx.ent {es : zzb} {clock : Nat} {b : List TxD} (h : zqx es clock b) {k : Nat} (hk : k ∈ zzj b) : ∃ e ∈ es, e.1 = vi (zy3 b k) ∧ e.2.1 = vi k := by
 have : (vi (zy3 b k), vi k) ∈ (zzj b).map fun k => (vi (zy3 b k), vi k) := List.mem_map_of_mem (f := fun k : Nat => (vi (zy3 b k), vi (k : Int))) hk
 rw [← h.perm.mem_iff] at this
 obtain ⟨e, h1, h2⟩ := List.mem_map.1 this
 simp only [Prod.mk.injEq] at h2
 exact ⟨e, h1, h2.1, h2.2⟩
theorem yv9 {es : zzb} (h : (es.map (·.1)).Nodup) {i j : Nat} {e e' : AVal × AVal × Nat} (hi : es[i]? = some e) (hj : es[j]? = some e') (hk : e.1 = e'.1) : i = j := by
 have h1 : (es.map (·.1))[i]? = some e.1 := by rw [List.getElem?_map, hi]; rfl
 have h2 : (es.map (·.1))[j]? = some e.1 := by rw [List.getElem?_map, hj, hk]; rfl
 have hl := (List.getElem?_eq_some_iff.1 h1).1
 exact (List.getElem?_inj hl h).1 (h1.trans h2.symm)
theorem znn : ∀ {es : zzb} {c : Int} {i p : Nat} {v : AVal} {bn : Nat}, (∀ e ∈ es, ∃ n, e.1 = vi n) → (es.map (·.1)).Nodup → es[p]? = some (vi c, v, bn) → zwe .i64 c es i = some (some (i + p, v, bn))
 | [], c, i, p, v, bn, _, _, h => by simp at h
 | (k, u, b) :: r, c, i, 0, v, bn, hk, hn, h => by
  simp only [List.getElem?_cons_zero, Option.some.injEq, Prod.mk.injEq] at h
  obtain ⟨rfl, rfl, rfl⟩ := h
  simp [zwe, ieq_eq]
 | (k, u, b) :: r, c, i, p + 1, v, bn, hk, hn, h => by
  obtain ⟨m, hm⟩ := hk _ (List.mem_cons_self ..)
  simp only at hm
  subst hm
  rw [List.getElem?_cons_succ] at h
  simp only [List.map_cons, List.nodup_cons] at hn
  have hne : c ≠ m := fun e => hn.1 (by subst e; exact List.mem_map_of_mem (f := fun e : AVal × AVal × Nat => e.1) (List.mem_of_getElem? h))
  simp only [zwe, ieq_eq, hne, decide_false, Bool.false_eq_true, if_false, if_true]
  rw [znn (fun e he => hk e (List.mem_cons_of_mem _ he)) hn.2 h]
  congr 3; omega
theorem zgp : ∀ {es : zzb} {c : Int} {i : Nat}, (∀ e ∈ es, ∃ n, e.1 = vi n ∧ n ≠ c) → zwe .i64 c es i = some none
 | [], _, _, _ => rfl
 | (k, u, b) :: r, c, i, h => by
  obtain ⟨m, hm, hne⟩ := h _ (List.mem_cons_self ..)
  simp only at hm
  subst hm
  simp only [zwe, ieq_eq, Ne.symm hne, decide_false, Bool.false_eq_true, if_false, if_true]
  exact zgp fun e he => h e (List.mem_cons_of_mem _ he)
theorem zqb {b : List TxD} {c : Int} {k : Nat} (h : zy5 b c = some k) : k ∈ zzj b ∧ zy3 b k = c := by
 unfold zy5 at h
 exact ⟨List.mem_of_find?_eq_some h, by simpa using List.find?_some h⟩
theorem zkz {b : List TxD} {c : Int} (h : zy5 b c = none) : ∀ k ∈ zzj b, zy3 b k ≠ c := by
 unfold zy5 at h
 rw [List.find?_eq_none] at h
 intro k hk e
 exact h k hk (by simp [e])
theorem zqx.ints {es : zzb} {clock : Nat} {b : List TxD} (h : zqx es clock b) : ∀ e ∈ es, ∃ n, e.1 = vi n := fun e he => let ⟨k, _, h2, _⟩ := h.key he; ⟨_, h2⟩
theorem zqx.find {es : zzb} {clock : Nat} {b : List TxD} (h : zqx es clock b) (c : Int) :
  match zy5 b c with
  | some k => ∃ p bn, es[p]? = some (vi c, vi k, bn) ∧ zwe .i64 c es 0 = some (some (p, vi k, bn))
  | none => zwe .i64 c es 0 = some none := by
 cases hc : zy5 b c with
 | some k =>
  obtain ⟨h1, h2⟩ := zqb hc
  obtain ⟨e, he, e1, e2⟩ := h.ent h1
  obtain ⟨p, hp⟩ := List.mem_iff_getElem?.1 he
  obtain ⟨ek, ev, eb⟩ := e
  simp only at e1 e2
  subst e1; subst e2
  rw [h2] at hp
  exact ⟨p, eb, hp, by have := znn (i := 0) h.ints h.keys hp; rwa [Nat.zero_add] at this⟩
 | none =>
  refine zgp fun e he => ?_
  obtain ⟨k, h1, h2, _⟩ := h.key he
  exact ⟨_, h2, zkz hc k h1⟩
theorem zqx.len {es : zzb} {clock : Nat} {b : List TxD} (h : zqx es clock b) : es.length ≤ 8 := by
 have hs : (es.map (·.1)) ⊆ (List.range 8).map fun n : Nat => vi (n : Int) := fun x hx => by
  obtain ⟨e, he, rfl⟩ := List.mem_map.1 hx
  obtain ⟨k, h1, h2, _⟩ := h.key he
  obtain ⟨g1, g2⟩ := h.rng k h1
  rw [h2]
  refine List.mem_map.2 ⟨(zy3 b k).toNat, by simp; omega, by rw [Int.toNat_of_nonneg g1]⟩
 have := List.Nodup.length_le_of_subset h.keys hs
 simpa using this
theorem zqx.live {es : zzb} {clock : Nat} {b : List TxD} (h : zqx es clock b) : zer (es.map fun e => zvl e.2.1) = (zzj b).map fun k : Nat => (k : Int) := by
 refine (yzc ?_ ?_).symm
 ·have := h.perm.map fun p : AVal × AVal => zvl p.2
  simp only [List.map_map, Function.comp_def, zvl] at this
  exact this.symm
 ·have hp : ((zzj b).map fun k : Nat => (k : Int)).Pairwise (· < ·) := List.pairwise_map.2 ((zsr b).imp fun h => by omega)
  intro p q hpq hq
  rw [List.pairwise_iff_getElem] at hp
  have := hp p q (by omega) hq hpq
  rw [List.getD_eq_getElem?_getD, List.getD_eq_getElem?_getD, List.getElem?_eq_getElem (by omega), List.getElem?_eq_getElem hq]
  simp only [Option.getD_some]
  omega
theorem zqx.same {es : zzb} {clock : Nat} {b b' : List TxD} (h : zqx es clock b) (h1 : zzj b' = zzj b) (h2 : ∀ k ∈ zzj b, zy3 b' k = zy3 b k) : zqx es clock b' where
 perm := by
  rw [h1]
  refine h.perm.trans (.of_eq (List.map_congr_left fun k hk => ?_))
  rw [h2 k hk]
 keys := h.keys
 born := h.born
 nodup := h.nodup
 rng := fun k hk => by rw [h1] at hk; rw [h2 k hk]; exact h.rng k hk
theorem zuf {b : List TxD} {x : TxD} {k : Nat} (hk : k < b.length) : zy3 (b ++ [x]) k = zy3 b k := by
 unfold zy3; rw [List.getElem?_append_left hk]
theorem zqx.push {es : zzb} {clock : Nat} {b : List TxD} {x : TxD} (h : zqx es clock b) (hx : x.on = true) (hr : 0 ≤ x.client ∧ x.client < 8) (hno : zy5 b x.client = none) : zqx (es ++ [(vi x.client, vi b.length, clock)]) (clock + 1) (b ++ [x]) where
 perm := by
  rw [zhw hx, List.map_append, List.map_append]
  refine List.Perm.append ?_ (.of_eq ?_)
  ·refine h.perm.trans (.of_eq (List.map_congr_left fun k hk => ?_))
   rw [zuf (List.getElem?_eq_some_iff.1 (zxd.1 hk).choose_spec.1).1]
  ·simp [zy3]
 keys := by
  rw [List.map_append, List.nodup_append]
  refine ⟨h.keys, by simp, fun a ha c hc e => ?_⟩
  simp at hc
  subst hc; subst e
  obtain ⟨y, hy, hy2⟩ := List.mem_map.1 ha
  obtain ⟨k, hk, h2, _⟩ := h.key hy
  rw [h2] at hy2
  exact zkz hno k hk (by simpa using hy2)
 born := fun e he => by
  rcases List.mem_append.1 he with he | he
  ·have := h.born e he; omega
  ·simp at he; subst he; simp
 nodup := by
  rw [List.map_append, List.nodup_append]
  refine ⟨h.nodup, by simp, fun a ha c hc e => ?_⟩
  simp at hc
  subst hc; subst e
  obtain ⟨y, hy, hy2⟩ := List.mem_map.1 ha
  have := h.born y hy
  omega
 rng := fun k hk => by
  rw [zhw hx] at hk
  rcases List.mem_append.1 hk with hk | hk
  ·rw [zuf (List.getElem?_eq_some_iff.1 (zxd.1 hk).choose_spec.1).1]; exact h.rng k hk
  ·simp at hk; subst hk; simpa [zy3] using hr
theorem zvv {b : List TxD} {k j : Nat} {x y : TxD} (hx : b[k]? = some x) (hc : y.client = x.client) : zy3 (b.set k y) j = zy3 b j := by
 unfold zy3
 have hk := (List.getElem?_eq_some_iff.1 hx).1
 rw [List.getElem?_set]
 by_cases e : k = j
 ·subst e; rw [if_pos rfl, hx]; simp [hk, hc]
 ·rw [if_neg e]
theorem zn8 {α : Type} : ∀ {l : List α} {p : Nat} {e : α}, l[p]? = some e → l.Perm (e :: l.eraseIdx p)
 | [], p, e, h => by simp at h
 | x :: l, 0, e, h => by simp at h; subst h; exact .refl _
 | x :: l, p + 1, e, h => by
  rw [List.getElem?_cons_succ] at h
  rw [List.eraseIdx_cons_succ]
  exact ((zn8 h).cons x).trans (.swap ..)
theorem zpw {l : List Nat} (hn : l.Nodup) {k : Nat} (hk : k ∈ l) : l.Perm (k :: l.filter (· != k)) := by
 have h := (List.filter_append_perm (fun x => x == k) l).symm
 have e : l.filter (fun x => x == k) = [k] := by
  clear h
  induction l with
  | nil => cases hk
  | cons x r ih =>
   rw [List.nodup_cons] at hn
   rw [List.filter_cons]
   rcases List.mem_cons.1 hk with rfl | hk
   ·have : r.filter (fun x => x == k) = [] := by
     rw [List.filter_eq_nil_iff]
     intro y hy e
     have : y = k := by simpa using e
     subst this; exact hn.1 hy
    simp [this]
   ·have : (x == k) = false := by
     simp; rintro rfl; exact hn.1 hk
    rw [this]
    exact ih hn.2 hk
 rw [e] at h
 exact h
theorem zqx.off {es : zzb} {clock : Nat} {b : List TxD} (h : zqx es clock b) {k p : Nat} {x y : TxD} {bn : Nat} (hx : b[k]? = some x) (hon : x.on = true) (hc : y.client = x.client) (hy : y.on = false) (hp : es[p]? = some (vi x.client, vi k, bn)) : zqx (es.eraseIdx p) clock (b.set k y) := by
 have hk : k ∈ zzj b := zxd.2 ⟨x, hx, hon⟩
 have hcl : zy3 b k = x.client := by unfold zy3; rw [hx]
 have hsub : (es.eraseIdx p).Sublist es := List.eraseIdx_sublist ..
 refine ⟨?_, h.keys.sublist (hsub.map _), fun e he => h.born e (hsub.subset he), h.nodup.sublist (hsub.map _), fun j hj => ?_⟩
 ·rw [zeu hk hy]
  have h1 := ((zn8 hp).map fun e => (e.1, e.2.1)).symm.trans h.perm
  have h2 := (zpw (zjv b) hk).map fun j : Nat => (vi (zy3 b j), vi (j : Int))
  have h3 := h1.trans h2
  simp only [List.map_cons, hcl] at h3
  refine (List.Perm.cons_inv h3).trans (.of_eq (List.map_congr_left fun j _ => ?_))
  rw [zvv hx hc]
 ·rw [zeu hk hy] at hj
  rw [zvv hx hc]
  exact h.rng j (List.mem_filter.1 hj).1
theorem zqx.none {es : zzb} {clock : Nat} {b : List TxD} (h : ∀ x ∈ b, x.on = false) : zqx [] clock b := by
 have := yzr h
 exact ⟨by simp [this], by simp, by simp, by simp, by simp [this]⟩
theorem zf1 {es : zzb} {clock : Nat} {b : List TxD} (h : zqx es clock b) {k : Nat} {x : TxD} (hx : b[k]? = some x) (hon : x.on = true) : zy5 b x.client = some k := by
 have hk : k ∈ zzj b := zxd.2 ⟨x, hx, hon⟩
 have hcl : zy3 b k = x.client := by unfold zy3; rw [hx]
 have hf := h.find x.client
 cases hc : zy5 b x.client with
 | none => exact absurd hcl (zkz hc k hk)
 | some j =>
  rw [hc] at hf
  obtain ⟨p, bn, hp, _⟩ := hf
  obtain ⟨e, he, e1, e2⟩ := h.ent hk
  obtain ⟨q, hq⟩ := List.mem_iff_getElem?.1 he
  have hpq := yv9 h.keys hp hq (by rw [e1, hcl])
  subst hpq
  rw [hp] at hq
  cases hq
  have e3 : (j : Int) = k := by simpa using e2
  rw [Int.ofNat_inj.1 e3]
end
section
structure RowC (c : List AVal) (r : RowD) : Prop where
 len : c.length = 41
 a0 : c[0]? = some (vi r.kind)
 a1 : c[1]? = some (vu r.life)
 a2 : c[2]? = some (vi r.actor)
 a3 : c[3]? = some (vu r.ticket)
 a4 : c[4]? = some (vi r.blk)
 av : (c.drop 5).take 32 = r.val
 a37 : c[37]? = some (vu r.pos)
 a38 : c[38]? = some (vi r.cnt)
 a39 : c[39]? = some (vi r.err)
 isv : zyr r.val
 one : c.all AVal.one = true
def txc (x : TxD) (sv rv wv : AVal) : List AVal := [vi x.client, vu x.life, vu x.ticket, sv, rv, wv, vi x.begun, vi x.asked, vi x.commit, vu x.pos, vi x.done, vi x.fate]
def zs4 (N : Nat) (H : zz6) (o : Nat → Nat) (t : Nat) (v : AVal) : Prop := v.lies fun R => N ≤ R ∧ R < H.next ∧ o R = t
def yyt (H : zz6) (N : Nat) (v : AVal) (l : List Int) : Prop := zzw H N 1 v (l.map fun n => [vi n]) ∨ (l = [] ∧ ∃ R, v = .slice R 0 0 0 0 true 1 ∧ H.get R = some (.row [some (0, [])]))
structure TxAt (H : zz6) (N : Nat) (o : Nat → Nat) (i : Nat) (e : List AVal) (x : TxD) (sv rv wv : AVal) : Prop where
 eq : e = txc x sv rv wv
 set : yyt H N sv x.set
 setL : zs4 N H o (3 * i + 3) sv
 reads : zzw H N 34 rv (x.reads.map zta.cells)
 readsL : zs4 N H o (3 * i + 4) rv
 writes : zzw H N 33 wv (x.writes.map ImgD.cells)
 writesL : zs4 N H o (3 * i + 5) wv
 rvals : ∀ r ∈ x.reads, zyr r.val
 wvals : ∀ w ∈ x.writes, zyr w.val
def zte (H : zz6) (N : Nat) (o : Nat → Nat) (tvs : List (List AVal)) (b : List TxD) : Prop := tvs.length = b.length ∧ ∀ i e x, tvs[i]? = some e → b[i]? = some x → ∃ sv rv wv, TxAt H N o i e x sv rv wv
structure Bk (H : zz6) (N B : Nat) (b : List TxD) (tv : AVal) (M : Nat) (es : zzb) (clock : Nat) (tvs : List (List AVal)) (o : Nat → Nat) : Prop where
 cells : Cells H B [tv, .map M, zzt false]
 map : H.get M = some (.map es clock)
 ok : zqx es clock b
 txs : zzw H N 12 tv tvs
 txsL : zs4 N H o 2 tv
 each : zte H N o tvs b
 oB : o B = 0
 oM : o M = 1
 hB : N ≤ B ∧ B < H.next
 hM : N ≤ M ∧ M < H.next
variable {H H' : zz6} {N B M clock i : Nat} {b : List TxD} {tv sv rv wv : AVal} {es : zzb} {tvs : List (List AVal)} {o o' : Nat → Nat} {e : List AVal} {x : TxD}
theorem zs4.move {t : Nat} {v : AVal} (h : zs4 N H o t v) (hn : H.next ≤ H'.next) (ho : ∀ A, A < H.next → o' A = o A) : zs4 N H' o' t v := fun R ver off len kc ex esz e => by
 obtain ⟨h1, h2, h3⟩ := h R ver off len kc ex esz e
 exact ⟨h1, by omega, by rw [ho R h2, h3]⟩
theorem zza {esz t : Nat} {v : AVal} {l : List (List AVal)} (h : zzw H N esz v l) (hl : zs4 N H o t v) (hn : H.next ≤ H'.next) (hg : ∀ A, N ≤ A → A < H.next → o A = t → H'.get A = H.get A) : zzw H' N esz v l := by
 rcases h with ⟨h0, h | ⟨R, ver, vs, h1, h2, h3, h4, h5⟩⟩
 ·exact ⟨h0, .inl h⟩
 ·exact ⟨h0, .inr ⟨R, ver, vs, h1, by omega, h3, by rw [hg R h1 h2 (hl _ _ _ _ _ _ _ h3).2.2]; exact h4, h5⟩⟩
theorem yyt.move {t : Nat} {v : AVal} {l : List Int} (h : yyt H N v l) (hl : zs4 N H o t v) (hn : H.next ≤ H'.next) (hg : ∀ A, N ≤ A → A < H.next → o A = t → H'.get A = H.get A) : yyt H' N v l := by
 rcases h with h | ⟨h1, R, h2, h3⟩
 ·exact .inl (zza h hl hn hg)
 ·obtain ⟨q1, q2, q3⟩ := hl _ _ _ _ _ _ _ h2
  exact .inr ⟨h1, R, h2, by rw [hg R q1 q2 q3]; exact h3⟩
theorem TxAt.move (h : TxAt H N o i e x sv rv wv) (hn : H.next ≤ H'.next) (hg : ∀ A, N ≤ A → A < H.next → (o A = 3 * i + 3 ∨ o A = 3 * i + 4 ∨ o A = 3 * i + 5) → H'.get A = H.get A) (ho : ∀ A, A < H.next → o' A = o A) : TxAt H' N o' i e x sv rv wv where
 eq := h.eq
 set := h.set.move h.setL hn fun A a b c => hg A a b (.inl c)
 setL := h.setL.move hn ho
 reads := zza h.reads h.readsL hn fun A a b c => hg A a b (.inr (.inl c))
 readsL := h.readsL.move hn ho
 writes := zza h.writes h.writesL hn fun A a b c => hg A a b (.inr (.inr c))
 writesL := h.writesL.move hn ho
 rvals := h.rvals
 wvals := h.wvals
theorem zte.move (h : zte H N o tvs b) (hn : H.next ≤ H'.next) (hg : ∀ A, N ≤ A → A < H.next → 3 ≤ o A → H'.get A = H.get A) (ho : ∀ A, A < H.next → o' A = o A) : zte H' N o' tvs b :=
 ⟨h.1, fun i e x h1 h2 => let ⟨sv, rv, wv, h3⟩ := h.2 i e x h1 h2; ⟨sv, rv, wv, h3.move hn (fun A a b c => hg A a b (by omega)) ho⟩⟩
theorem Bk.grow (h : Bk H N B b tv M es clock tvs o) (hg : Grow H H') : Bk H' N B b tv M es clock tvs o where
 cells := h.cells.mono (hg.get _ h.hB.2)
 map := by rw [hg.get _ h.hM.2]; exact h.map
 ok := h.ok
 txs := zza h.txs h.txsL hg.next fun A _ a _ => hg.get A a
 txsL := h.txsL.move hg.next fun _ _ => rfl
 each := h.each.move hg.next (fun A _ a _ => hg.get A a) fun _ _ => rfl
 oB := h.oB
 oM := h.oM
 hB := ⟨h.hB.1, by have := hg.next; have := h.hB.2; omega⟩
 hM := ⟨h.hM.1, by have := hg.next; have := h.hM.2; omega⟩
theorem Bk.tx (h : Bk H N B b tv M es clock tvs o) {k : Nat} (hx : b[k]? = some x) : ∃ R ver cells sv rv wv, tv = .slice R ver 0 b.length b.length false 12 ∧ N ≤ R ∧ R < H.next ∧ o R = 2 ∧ H.rowAt R ver = some cells ∧ k * 12 + 12 ≤ cells.length ∧
  (∀ f, f < 12 → cells[k * 12 + f]? = (txc x sv rv wv)[f]?) ∧ tvs[k]? = some (txc x sv rv wv) ∧ TxAt H N o k (txc x sv rv wv) x sv rv wv := by
 have hk := (List.getElem?_eq_some_iff.1 hx).1
 have hl := h.each.1
 have he : tvs[k]? = some tvs[k] := List.getElem?_eq_getElem (by omega)
 obtain ⟨sv, rv, wv, ht⟩ := h.each.2 k _ x he hx
 obtain ⟨R, ver, cells, h1, h2, h3, h4, h5, h6, _⟩ := h.txs.load he
 rw [hl] at h1
 rw [ht.eq] at h6 he
 refine ⟨R, ver, cells, sv, rv, wv, h1, h2, h3, (h.txsL _ _ _ _ _ _ _ h1).2.2, h4, h5, h6, he, ?_⟩
 rw [← ht.eq]; exact ht
theorem Bk.live (h : Bk H N B b tv M es clock tvs o) : zp0 68 [vp B] H = some (zwl H (es.map fun e => zvl e.2.1)) := by
 have h1 := h.cells.at
 have hc : (∀ e ∈ es, yu6 e.2.1 = true ∧ e.2.2 < clock) ∧ es.length ≤ 12 ∧ (es.map (·.2.2)).Nodup ∧ B < H.next ∧ M < H.next :=
  ⟨fun e he => ⟨by obtain ⟨k, _, _, h2⟩ := h.ok.key he; rw [h2]; rfl, h.ok.born e he⟩, by have := h.ok.len; omega, h.ok.nodup, h.hB.2, h.hM.2⟩
 have h2 : zfn H B = some (es.map fun e => zvl e.2.1) := by
  unfold zfn
  rw [h1]
  simp only [Option.bind_some, List.getElem?_cons_succ, List.getElem?_cons_zero, h.map]
  rw [if_pos hc]
 simp only [zp0, if_true, h2, Option.map_some]
theorem ztw (H : zz6) (l : List Int) : ∃ v H', zwl H l = (v, H') ∧ Grow H H' ∧ zyy v = some (vi l.length) ∧ ∀ (j : Nat) (z : Int), (zer l)[j]? = some z → ∃ R ver cells, v = .slice R ver 0 l.length l.length false 1 ∧ H.next ≤ R ∧ R < H'.next ∧ H'.rowAt R ver = some cells ∧ j < cells.length ∧ cells[j]? = some (vi z) := by
 unfold zwl
 by_cases h0 : l.length = 0
 ·rw [if_pos h0]
  refine ⟨_, _, rfl, ⟨by simp, fun A _ => rfl⟩, by rw [h0]; rfl, fun j z hz => ?_⟩
  have := (List.getElem?_eq_some_iff.1 hz).1
  rw [zvz] at this; omega
 ·rw [if_neg h0]
  refine ⟨_, _, rfl, ⟨by simp, fun A hA => by rw [zz6.zzz _ _ (by omega)]; rfl⟩, rfl, fun j z hz => ?_⟩
  have hj := (List.getElem?_eq_some_iff.1 hz).1
  refine ⟨_, _, (zer l).map vi, rfl, by omega, by simp; omega, ?_, by simpa using hj, by rw [List.getElem?_map, hz]; rfl⟩
  rw [zzk, zz6.zzy]
  simp only [rowOf]
  rw [List.getElem?_append_right (by simp)]
  simp
end
end Go.Proofs.Ythbjfkkjmecaaaa
