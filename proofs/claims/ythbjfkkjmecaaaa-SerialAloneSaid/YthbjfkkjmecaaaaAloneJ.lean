/- Lists that grow side by side in rows of their own: what a store and an append leave as it was. -/
import Derived.Test.YthbjfkkjmecaaaaAloneI
namespace Go.Proofs.Ythbjfkkjmecaaaa
open Go Go.Vm

set_option linter.unusedVariables false
set_option linter.unusedSimpArgs false

theorem killAt_at {p m : Nat} : ∀ {vs : Vers} {ver rel : Nat} {l : List AVal}, vs[ver]? = some (some (rel, l)) → ¬ (p < rel + l.length ∧ rel < p + m) → (killAt p m vs)[ver]? = some (some (rel, l))
  | [], ver, rel, l, h, _ => by simp at h
  | none :: r, 0, rel, l, h, _ => by simp at h
  | none :: r, ver + 1, rel, l, h, hn => by
    simp only [killAt, List.getElem?_cons_succ] at h ⊢
    exact killAt_at h hn
  | some (a, b) :: r, 0, rel, l, h, hn => by
    simp only [List.getElem?_cons_zero, Option.some.injEq, Prod.mk.injEq] at h
    obtain ⟨rfl, rfl⟩ := h
    simp only [killAt, List.getElem?_cons_zero]
    rw [if_neg (by simpa using hn)]
  | some (a, b) :: r, ver + 1, rel, l, h, hn => by
    simp only [killAt, List.getElem?_cons_succ] at h ⊢
    exact killAt_at h hn

/-- A store into an element. -/
theorem _root_.Go.Vm.SliceE.write {H : AHeap} {base esz : Nat} {v : AVal} {es : List (List AVal)} (h : SliceE H base esz v es) {k : Nat} {e : List AVal} (hk : k < es.length) (he : e.length = esz) (h0 : 0 < esz) (hone : e.all AVal.one = true) :
    ∃ R ver H', v = .slice R ver 0 es.length es.length false esz ∧ H.write R ver (k * esz) e = some H' ∧ SliceE H' base esz v (es.set k e) ∧ H'.next = H.next ∧ R < H.next ∧ ∀ A, A ≠ R → H'.get A = H.get A := by
  rcases h with ⟨hes, ⟨rfl, rfl⟩ | ⟨R, ver, vs, h1, h2, rfl, h4, h5⟩⟩
  · simp at hk
  · have hfl := flatten_len hes
    have hm : (k + 1) * esz ≤ es.length * esz := Nat.mul_le_mul_right _ hk
    rw [Nat.succ_mul] at hm
    refine ⟨R, ver, H.set R (.row ((killAt (0 + k * esz) e.length vs).set ver (some (0, spl es.flatten (k * esz) e)))), rfl, ?_, ⟨mem_set_len he hes, .inr ⟨R, ver, _, h1, h2, by simp, AHeap.get_set_same _ _ _, ?_⟩⟩, rfl, h2, fun A hA => AHeap.get_set_ne _ _ hA⟩
    · unfold AHeap.write
      rw [h4]
      simp only [h5, he, h0, hone, decide_true, Bool.true_and, Bool.and_true]
      rw [if_pos (by simp; rw [← List.length_flatten, hfl]; omega)]
    · rw [List.getElem?_set_self (by rw [killAt_length]; exact (List.getElem?_eq_some_iff.1 h5).1), flatten_set he k hes hk]

/-- An append: what is no longer, and what lies in other rows, stays. -/
theorem _root_.Go.Vm.SliceE.append2 {H : AHeap} {base esz bytes : Nat} {v : AVal} {es : List (List AVal)} (h : SliceE H base esz v es) (hb : base ≤ H.next) {e : List AVal} (he : e.length = esz) (h0 : 0 < esz) (hb0 : 0 < bytes)
    (hone : e.all AVal.one = true) (hlen : (es.length + 1) * bytes ≤ 140737488355328) :
    ∃ v' H', aAppend (H.push (.row [some (0, e)])) esz bytes v (.slice H.next 0 0 1 1 true esz) = some (v', H') ∧ SliceE H' base esz v' (es ++ [e]) ∧ H.next < H'.next ∧ (∀ p : Nat → Prop, v.lies p → (∀ R, H.next ≤ R → p R) → v'.lies p) ∧
      (∀ A, A < H.next → (v.lies fun R => R ≠ A) → H'.get A = H.get A) ∧ ∀ (b2 : Nat) (w : AVal) (es2 : List (List AVal)), SliceE H b2 esz w es2 → es2.length ≤ es.length → SliceE H' b2 esz w es2 := by
  have hX : (H.push (.row [some (0, e)])).rowAt H.next 0 = some e := by unfold AHeap.rowAt; rw [AHeap.get_push_same]; rfl
  have g := Grow.push H (.row [some (0, e)])
  have hnews : aCells (H.push (.row [some (0, e)])) esz (.slice H.next 0 0 1 1 true esz) = some e := by
    simp only [aCells, hX, Option.bind_some, List.drop_zero, Nat.zero_add, Nat.one_mul, ← he, Nat.le_refl, if_true, List.take_length]
  have h00 : ∀ x ∈ es ++ [e], x.length = esz := fun x hx => by
    rcases List.mem_append.1 hx with h1 | h1
    · exact h.1 x h1
    · simp at h1; subst h1; exact he
  rcases h with ⟨hes, ⟨rfl, rfl⟩ | ⟨R, ver, vs, h1, h2, rfl, h4, h5⟩⟩
  · refine ⟨.slice (H.next + 1) 0 0 1 1 false esz, (H.push (.row [some (0, e)])).push (.row [some (0, e)]), ?_, ⟨h00, .inr ⟨H.next + 1, 0, [some (0, e)], by omega, by simp, rfl, AHeap.get_push_same _ _, by simp⟩⟩, by simp; omega,
      fun p _ hp R ver off len kcap ex' esz' e' => by cases e'; exact hp _ (by omega), fun A hA _ => by rw [AHeap.get_push_ne _ _ (by simp; omega), g.get A hA], fun b2 w es2 hw hl => ?_⟩
    · simp only [aAppend, aLen, hnews, Option.bind_some, h0, hb0, hone, decide_true, Bool.and_self, if_true]
      simp at hlen
      simp [hlen]
    · exact hw.move (Nat.le_refl _) (by simp; omega) fun A _ hA => by rw [AHeap.get_push_ne _ _ (by simp; omega), g.get A hA]
  · have h4' : (H.push (.row [some (0, e)])).get R = some (.row vs) := by rw [g.get R h2]; exact h4
    have hr : (H.push (.row [some (0, e)])).rowAt R ver = some es.flatten := by unfold AHeap.rowAt; rw [h4']; simp only [h5]
    have hfl := flatten_len hes
    refine ⟨.slice R vs.length 0 (es.length + 1) (es.length + 1) false esz, (H.push (.row [some (0, e)])).set R (.row (newVer vs (0 + 0 + es.length * esz) e.length (0 + 0) ((es.flatten.drop 0).take (es.length * esz) ++ e))), ?_,
      ⟨h00, .inr ⟨R, vs.length, _, h1, by simp; omega, by simp, AHeap.get_set_same _ _ _, ?_⟩⟩, by simp, fun p hp _ R' ver' off' len' kcap' ex' esz' e' => by cases e'; exact hp R ver 0 _ _ _ _ rfl,
      fun A hA hne => by rw [AHeap.get_set_ne _ _ (fun e' => hne R ver 0 _ _ _ _ rfl e'.symm), g.get A hA], fun b2 w es2 hw hl => ?_⟩
    · have g1 : 0 + es.length * esz ≤ es.flatten.length := by omega
      have g2 : ¬ (es.length + 1 ≤ es.length) := by omega
      simp only [aAppend, aLen, hnews, Option.bind_some, h0, hb0, hone, decide_true, Bool.and_self, if_true, g2, if_false, hlen, hr, g1, h4', h5, Bool.false_eq_true]
      simp
    · unfold newVer
      rw [List.getElem?_append_right (by rw [killAt_length]; exact Nat.le_refl _), killAt_length]
      simp [List.take_of_length_le, hfl]
    · rcases hw with ⟨hw0, hw | ⟨R2, ver2, vs2, q1, q2, q3, q4, q5⟩⟩
      · exact ⟨hw0, .inl hw⟩
      · refine ⟨hw0, ?_⟩
        by_cases hR : R2 = R
        · subst hR
          rw [h4] at q4
          cases q4
          refine .inr ⟨R2, ver2, newVer vs (0 + 0 + es.length * esz) e.length (0 + 0) ((es.flatten.drop 0).take (es.length * esz) ++ e), q1, by simp; omega, q3, AHeap.get_set_same _ _ _, ?_⟩
          unfold newVer
          rw [List.getElem?_append_left (by rw [killAt_length]; exact (List.getElem?_eq_some_iff.1 q5).1)]
          refine killAt_at q5 ?_
          rw [flatten_len hw0]
          have : es2.length * esz ≤ es.length * esz := Nat.mul_le_mul_right _ hl
          omega
        · exact .inr ⟨R2, ver2, vs2, q1, by simp; omega, q3, by rw [AHeap.get_set_ne _ _ hR, g.get R2 q2]; exact q4, q5⟩

/-- A mark. -/
def mark (i : Nat) (c : Int) : List AVal := v8 (wrapF .u8 ((i : Int) + 1)) :: v8 c :: List.replicate 30 (v8 0)
theorem mark_is (i : Nat) (c : Int) : IsVal (mark i c) := by
  refine ⟨by simp [mark], fun x hx => ?_⟩
  simp only [mark, List.mem_cons, List.mem_replicate] at hx
  rcases hx with rfl | rfl | ⟨_, rfl⟩ <;> exact ⟨_, rfl⟩

/-- Lists in rows of their own; lists that are longer; who owns a row. -/
structure Marked (H : AHeap) (own : Nat → Nat) (vl vL : AVal) (avs : List AVal) (lc : Nat → List (List AVal)) (lav : List AVal) (cont : Nat → List (List AVal)) : Prop where
  rdl : RdE H 1 vl (avs.map fun a => [a])
  liesl : vl.lies fun R => R < H.next ∧ own R = 0
  at_ : ∀ (j : Nat) a, avs[j]? = some a → SliceE H 0 32 a (lc j) ∧ a.lies fun R => own R = j + 2
  rdL : SliceE H 0 1 vL (lav.map fun a => [a])
  liesL : vL.lies fun R => own R = 1
  atL : ∀ (q : Nat) w, lav[q]? = some w → SliceE H 0 32 w (cont q) ∧ w.lies fun R => own R = q / 17 + 2

theorem lies_and {v : AVal} {p q : Nat → Prop} (h1 : v.lies p) (h2 : v.lies q) : v.lies fun R => p R ∧ q R := fun R a b c d e f g => ⟨h1 R a b c d e f g, h2 R a b c d e f g⟩
theorem lies_imp {v : AVal} {p q : Nat → Prop} (h1 : v.lies p) (h2 : ∀ R, p R → q R) : v.lies q := fun R a b c d e f g => h2 R (h1 R a b c d e f g)

/-- One of the growing lists grows. -/
theorem Marked.grow {H : AHeap} {own : Nat → Nat} {vl vL : AVal} {avs : List AVal} {lc : Nat → List (List AVal)} {lav : List AVal} {cont : Nat → List (List AVal)} (h : Marked H own vl vL avs lc lav cont) {i : Nat} {x : AVal} {es : List (List AVal)} (hx : SliceE H 0 32 x es) (hxl : x.lies fun R => own R = i + 2)
    (hi : (lc i).length ≤ es.length) (hq : ∀ (q : Nat) w, lav[q]? = some w → q / 17 = i → (cont q).length ≤ es.length) {e : List AVal} (he : IsVal e) (hlen : (es.length + 1) * 32 ≤ 140737488355328) :
    ∃ x' H' own', aAppend (H.push (.row [some (0, e)])) 32 32 x (.slice H.next 0 0 1 1 true 32) = some (x', H') ∧ Marked H' own' vl vL avs lc lav cont ∧ SliceE H' 0 32 x' (es ++ [e]) ∧ (x'.lies fun R => own' R = i + 2) := by
  obtain ⟨x', H', e1, e2, e3, e4, e5, e6⟩ := hx.append2 (bytes := 32) (Nat.zero_le _) he.len (by omega) (by omega) he.one hlen
  -- rows of others stay
  have other : ∀ (w : AVal) (m : List (List AVal)) (c : Nat), SliceE H 0 32 w m → (w.lies fun R => own R = c) → (c = i + 2 → m.length ≤ es.length) → SliceE H' 0 32 w m := fun w m c hw hc hm => by
    by_cases hci : c = i + 2
    · exact e6 0 w m hw (hm hci)
    · rcases hw with ⟨h0, hw | ⟨R, ver, vs, q1, q2, q3, q4, q5⟩⟩
      · exact ⟨h0, .inl hw⟩
      · refine ⟨h0, .inr ⟨R, ver, vs, q1, by omega, q3, ?_, q5⟩⟩
        rw [e5 R q2 fun R1 a1 a2 a3 a4 a5 a6 q hRR => ?_]
        · exact q4
        · have o1 := hxl R1 a1 a2 a3 a4 a5 a6 q
          have o2 := hc R ver 0 _ _ _ _ q3
          rw [hRR] at o1
          exact hci (o2.symm.trans o1)
  have keep1 : ∀ A, A < H.next → own A ≠ i + 2 → H'.get A = H.get A := fun A hA ho => e5 A hA fun R1 a1 a2 a3 a4 a5 a6 q hRR => by
    have o1 := hxl R1 a1 a2 a3 a4 a5 a6 q
    rw [hRR] at o1
    exact ho o1
  have newo : ∀ R, R < H.next → (if R < H.next then own R else i + 2) = own R := fun R hR => if_pos hR
  have lsl : ∀ {w : AVal} {m : List (List AVal)} {b esz : Nat}, SliceE H b esz w m → w.lies (· < H.next) := fun {w m b esz} hw => lies_imp hw.lies fun R hR => hR.2
  refine ⟨x', H', fun R => if R < H.next then own R else i + 2, e1, ⟨?_, ?_, fun j a ha => ⟨?_, ?_⟩, ?_, ?_, fun q w hw => ⟨?_, ?_⟩⟩, e2, ?_⟩
  · refine h.rdl.move fun R ver off len kcap ex e => ?_
    obtain ⟨b1, b2⟩ := h.liesl R ver off len kcap ex 1 e
    unfold AHeap.rowAt
    rw [keep1 R b1 (by omega)]
  · exact lies_imp h.liesl fun R ⟨b1, b2⟩ => ⟨by omega, by simp only [if_pos b1]; exact b2⟩
  · obtain ⟨c1, c2⟩ := h.at_ j a ha
    exact other a (lc j) (j + 2) c1 c2 fun hj => by
      have : j = i := by omega
      rw [this]; exact hi
  · obtain ⟨c1, c2⟩ := h.at_ j a ha
    exact lies_imp (lies_and (lsl c1) c2) fun R ⟨b1, b2⟩ => by simp only [if_pos b1]; exact b2
  · rcases h.rdL with ⟨h0, hw | ⟨R, ver, vs, q1, q2, q3, q4, q5⟩⟩
    · exact ⟨h0, .inl hw⟩
    · refine ⟨h0, .inr ⟨R, ver, vs, q1, by omega, q3, ?_, q5⟩⟩
      rw [keep1 R q2 (by have := h.liesL R ver 0 _ _ _ _ q3; omega)]
      exact q4
  · exact lies_imp (lies_and (lsl h.rdL) h.liesL) fun R ⟨b1, b2⟩ => by simp only [if_pos b1]; exact b2
  · obtain ⟨c1, c2⟩ := h.atL q w hw
    exact other w _ _ c1 c2 fun hqi => hq q w hw (by omega)
  · obtain ⟨c1, c2⟩ := h.atL q w hw
    exact lies_imp (lies_and (lsl c1) c2) fun R ⟨b1, b2⟩ => by simp only [if_pos b1]; exact b2
  · refine e4 _ ?_ ?_
    · exact lies_imp (lies_and (lsl hx) hxl) fun R ⟨b1, b2⟩ => by simp only [if_pos b1]; exact b2
    · intro R hR
      simp only [if_neg (show ¬ R < H.next by omega)]

/-- One of the lists is kept among the longer ones. -/
theorem Marked.note {H : AHeap} {own : Nat → Nat} {vl vL : AVal} {avs : List AVal} {lc : Nat → List (List AVal)} {lav : List AVal} {cont : Nat → List (List AVal)} (h : Marked H own vl vL avs lc lav cont) {i : Nat} {x : AVal} {es : List (List AVal)} (hx : SliceE H 0 32 x es) (hxl : x.lies fun R => own R = i + 2)
    (hq : lav.length / 17 = i) (hlen : (lav.length + 1) * 24 ≤ 140737488355328) :
    ∃ vL' H' own', aAppend (H.push (.row [some (0, [x])])) 1 24 vL (.slice H.next 0 0 1 1 true 1) = some (vL', H') ∧ Marked H' own' vl vL' avs lc (lav ++ [x]) (fun q => if q = lav.length then es else cont q) ∧ SliceE H' 0 32 x es ∧ (x.lies fun R => own' R = i + 2) := by
  obtain ⟨vL', H', e1, e2, e3, e4, e5, _⟩ := h.rdL.append2 (bytes := 24) (Nat.zero_le _) (e := [x]) rfl (by omega) (by omega) (by simp [hx.rd.one]) (by simpa using hlen)
  have keep1 : ∀ A, A < H.next → own A ≠ 1 → H'.get A = H.get A := fun A hA ho => e5 A hA fun R1 a1 a2 a3 a4 a5 a6 q hRR => by
    have o1 := h.liesL R1 a1 a2 a3 a4 a5 a6 q
    rw [hRR] at o1
    exact ho o1
  have other : ∀ (w : AVal) (m : List (List AVal)) (c : Nat), SliceE H 0 32 w m → (w.lies fun R => own R = c) → c ≠ 1 → SliceE H' 0 32 w m := fun w m c hw hc hm => by
    rcases hw with ⟨h0, hw | ⟨R, ver, vs, q1, q2, q3, q4, q5⟩⟩
    · exact ⟨h0, .inl hw⟩
    · refine ⟨h0, .inr ⟨R, ver, vs, q1, by omega, q3, ?_, q5⟩⟩
      rw [keep1 R q2 (by have := hc R ver 0 _ _ _ _ q3; omega)]
      exact q4
  have lsl : ∀ {w : AVal} {m : List (List AVal)} {b esz : Nat}, SliceE H b esz w m → w.lies (· < H.next) := fun {w m b esz} hw => lies_imp hw.lies fun R hR => hR.2
  have mv : ∀ {w : AVal} {m : List (List AVal)} {b esz c : Nat}, SliceE H b esz w m → (w.lies fun R => own R = c) → w.lies fun R => (if R < H.next then own R else 1) = c := fun {w m b esz c} hw hc =>
    lies_imp (lies_and (lsl hw) hc) fun R ⟨b1, b2⟩ => by rw [if_pos b1]; exact b2
  have hx' := other x es (i + 2) hx hxl (by omega)
  refine ⟨vL', H', fun R => if R < H.next then own R else 1, e1, ⟨?_, ?_, fun j a ha => ?_, by simpa using e2, ?_, fun q w hw => ?_⟩, hx', mv hx hxl⟩
  · refine h.rdl.move fun R ver off len kcap ex e => ?_
    obtain ⟨b1, b2⟩ := h.liesl R ver off len kcap ex 1 e
    unfold AHeap.rowAt
    rw [keep1 R b1 (by omega)]
  · exact lies_imp h.liesl fun R ⟨b1, b2⟩ => ⟨by omega, by simp only [if_pos b1]; exact b2⟩
  · obtain ⟨c1, c2⟩ := h.at_ j a ha
    exact ⟨other a (lc j) _ c1 c2 (by omega), mv c1 c2⟩
  · refine e4 _ (mv h.rdL h.liesL) ?_
    intro R hR
    rw [if_neg (by omega)]
  · by_cases hql : q = lav.length
    · subst hql
      rw [List.getElem?_append_right (Nat.le_refl _)] at hw
      simp at hw
      subst hw
      rw [if_pos rfl, hq]
      exact ⟨hx', mv hx hxl⟩
    · rw [if_neg hql]
      have hlt : q < lav.length := by have := (List.getElem?_eq_some_iff.1 hw).1; simp at this; omega
      rw [List.getElem?_append_left hlt] at hw
      obtain ⟨c1, c2⟩ := h.atL q w hw
      exact ⟨other w _ _ c1 c2 (by omega), mv c1 c2⟩

/-- A store into one of the lists. -/
theorem Marked.put {H : AHeap} {own : Nat → Nat} {vl : AVal} {avs : List AVal} {lc : Nat → List (List AVal)} {cont : Nat → List (List AVal)} (h : Marked H own vl anil avs lc [] cont) {i k : Nat} {a : AVal} (ha : avs[i]? = some a) (hk : k < (lc i).length) {e : List AVal} (he : IsVal e) :
    ∃ R ver H', a = .slice R ver 0 (lc i).length (lc i).length false 32 ∧ H.write R ver (k * 32) e = some H' ∧ Marked H' own vl anil avs (fun j => if j = i then (lc i).set k e else lc j) [] cont := by
  obtain ⟨c1, c2⟩ := h.at_ i a ha
  obtain ⟨R, ver, H', e1, e2, e3, e4, e5, e6⟩ := c1.write hk he.len (by omega) he.one
  have o1 := c2 R ver 0 _ _ _ _ e1
  refine ⟨R, ver, H', e1, e2, ⟨?_, ?_, fun j b hb => ?_, ⟨h.rdL.1, .inl ⟨rfl, rfl⟩⟩, h.liesL, fun q w hw => by simp at hw⟩⟩
  · refine h.rdl.move fun R2 ver off len kcap ex e => ?_
    obtain ⟨b1, b2⟩ := h.liesl R2 ver off len kcap ex 1 e
    unfold AHeap.rowAt
    rw [e6 R2 (fun e' => by rw [e'] at b2; omega)]
  · exact lies_imp h.liesl fun R ⟨b1, b2⟩ => ⟨by omega, b2⟩
  · obtain ⟨d1, d2⟩ := h.at_ j b hb
    by_cases hj : j = i
    · subst hj
      rw [ha] at hb
      cases hb
      rw [if_pos rfl]
      exact ⟨e3, d2⟩
    · rw [if_neg hj]
      refine ⟨?_, d2⟩
      rcases d1 with ⟨h0, hw | ⟨R2, ver2, vs, q1, q2, q3, q4, q5⟩⟩
      · exact ⟨h0, .inl hw⟩
      · refine ⟨h0, .inr ⟨R2, ver2, vs, q1, by omega, q3, ?_, q5⟩⟩
        rw [e6 R2 (fun e' => by have := d2 R2 ver2 0 _ _ _ _ q3; rw [e'] at this; omega)]
        exact q4

/-- The lists, marked up to k in the one at i. -/
def upTo (lc : Nat → List (List AVal)) (i k : Nat) : Nat → List (List AVal) := fun j => if j < i then List.replicate (lc j).length (mark j 7) else if j = i then List.replicate k (mark i 7) ++ (lc i).drop k else lc j

theorem upTo_set (lc : Nat → List (List AVal)) (i k : Nat) (hk : k < (lc i).length) : (fun j => if j = i then (upTo lc i k i).set k (mark i 7) else upTo lc i k j) = upTo lc i (k + 1) := by
  funext j
  unfold upTo
  by_cases hj : j = i
  · subst hj
    simp only [if_true, Nat.lt_irrefl, if_false]
    rw [List.set_append_right _ _ (by simp), List.length_replicate, Nat.sub_self, List.drop_eq_getElem_cons hk, List.set_cons_zero, List.replicate_succ', List.append_assoc]
    rfl
  · simp only [hj, if_false]
theorem upTo_len (lc : Nat → List (List AVal)) (i k j : Nat) (hk : k ≤ (lc i).length) : (upTo lc i k j).length = (lc j).length := by
  unfold upTo
  split
  · simp
  · split
    · rename_i h; subst h; simp; omega
    · rfl
theorem upTo_next (lc : Nat → List (List AVal)) (i : Nat) : upTo lc i (lc i).length = upTo lc (i + 1) 0 := by
  funext j
  unfold upTo
  by_cases h1 : j < i
  · rw [if_pos h1, if_pos (by omega)]
  · rw [if_neg h1]
    by_cases h2 : j = i
    · subst h2; rw [if_pos rfl, if_pos (by omega)]; simp
    · rw [if_neg h2, if_neg (by omega)]
      by_cases h3 : j = i + 1
      · subst h3; simp
      · rw [if_neg h3]
theorem upTo_zero (lc : Nat → List (List AVal)) : upTo lc 0 0 = lc := by
  funext j
  unfold upTo
  rw [if_neg (by omega)]
  split
  · rename_i h; subst h; simp
  · rfl

/-- All lists, marked. -/
def seven (lc : Nat → List (List AVal)) (j : Nat) : List (List AVal) := List.replicate (lc j).length (mark j 7)
theorem upTo_all (lc : Nat → List (List AVal)) (n j : Nat) (hj : j < n) : upTo lc n 0 j = seven lc j := by unfold upTo seven; rw [if_pos hj]

/-- How many marks a longer list has. -/
def cnt (g : Nat) : Nat := if g < 16 then g + 1 else 70
def contF (lc : Nat → List (List AVal)) (q : Nat) : List (List AVal) := seven lc (q / 17) ++ List.replicate (cnt (q % 17)) (mark (q / 17) 8)

end Go.Proofs.Ythbjfkkjmecaaaa
