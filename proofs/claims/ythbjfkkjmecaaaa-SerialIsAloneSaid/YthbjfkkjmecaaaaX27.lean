/- The contract of (*book).live: whatever order its range takes. -/
import Derived.Test.YthbjfkkjmecaaaaX25
import Derived.Test.YthbjfkkjmecaaaaX26
namespace Go.Proofs.Ythbjfkkjmecaaaa
open Go Go.Vm
set_option linter.unusedVariables false
set_option linter.unusedSimpArgs false

variable {kn : Known} {env : Nat → Option AFunc}

/-! ### What is left of a map's entries -/

theorem born_in (seen : List Nat) (b : Nat) : bornIn seen b = true ↔ b ∈ seen := by
  unfold bornIn
  rw [List.any_eq_true]
  constructor
  · rintro ⟨x, h1, h2⟩; have := Nat.beq_eq.mp h2; subst this; exact h1
  · intro h; exact ⟨b, h, by simp [-getElem?_pos]⟩

theorem lastOf_append : ∀ (l : List Nat) (b : Nat), lastOf (l ++ [b]) = some b
  | [], b => rfl
  | [x], b => rfl
  | x :: y :: r, b => by
    show lastOf ((y :: r) ++ [b]) = some b
    exact lastOf_append (y :: r) b

theorem find_born : ∀ {es : AEntries} {e : AVal × AVal × Nat}, (es.map (·.2.2)).Nodup → e ∈ es → (es.find? fun x => Nat.beq x.2.2 e.2.2) = some e
  | [], e, _, h => by cases h
  | x :: r, e, hn, h => by
    simp only [List.map_cons, List.nodup_cons] at hn
    rw [List.find?_cons]
    rcases List.mem_cons.1 h with rfl | h
    · simp [-getElem?_pos]
    · have : Nat.beq x.2.2 e.2.2 = false := Bool.eq_false_iff.2 fun hb => hn.1 (by rw [Nat.beq_eq.mp hb]; exact List.mem_map_of_mem h)
      rw [this]; exact find_born hn.2 h

theorem left_step {es E : AEntries} {e : AVal × AVal × Nat} (hn : (es.map (·.2.2)).Nodup) (he : e ∈ leftIn es (E.map (·.2.2))) (hp : (E ++ leftIn es (E.map (·.2.2))).Perm es) : ((E ++ [e]) ++ leftIn es ((E ++ [e]).map (·.2.2))).Perm es := by
  refine .trans ?_ hp
  rw [List.append_assoc]
  refine List.Perm.append_left E ?_
  have e1 : leftIn es ((E ++ [e]).map (·.2.2)) = (leftIn es (E.map (·.2.2))).filter fun x => !(Nat.beq x.2.2 e.2.2) := by
    unfold leftIn
    rw [List.filter_filter]
    congr 1; funext x
    rw [Bool.eq_iff_iff]
    simp only [Bool.not_eq_true', Bool.and_eq_true, ← Bool.not_eq_true, born_in, List.map_append, List.mem_append, List.map_cons, List.map_nil, List.mem_singleton, Nat.beq_eq, not_or]
    constructor
    · rintro ⟨a, b⟩; exact ⟨b, a⟩
    · rintro ⟨a, b⟩; exact ⟨b, a⟩
  rw [e1]
  have hnl : ((leftIn es (E.map (·.2.2))).map (·.2.2)).Nodup := hn.sublist (List.Sublist.map _ List.filter_sublist)
  generalize leftIn es (E.map (·.2.2)) = L at he hnl ⊢
  have := List.filter_append_perm (fun x : AVal × AVal × Nat => Nat.beq x.2.2 e.2.2) L
  refine .trans (List.Perm.append_right _ (.of_eq ?_)) this
  clear this e1 hp
  induction L with
  | nil => cases he
  | cons x r ih =>
    simp only [List.map_cons, List.nodup_cons] at hnl
    rw [List.filter_cons]
    rcases List.mem_cons.1 he with rfl | h
    · have hr : r.filter (fun x => Nat.beq x.2.2 e.2.2) = [] := by
        rw [List.filter_eq_nil_iff]
        intro y hy hb
        exact hnl.1 (by rw [← Nat.beq_eq.mp hb]; exact List.mem_map_of_mem hy)
      simp [-getElem?_pos, hr]
    · have : Nat.beq x.2.2 e.2.2 = false := Bool.eq_false_iff.2 fun hb => hnl.1 (by rw [Nat.beq_eq.mp hb]; exact List.mem_map_of_mem h)
      rw [this]
      exact ih h hnl.2

/-! ### The walk -/

theorem appN {H : AHeap} {R k X : Nat} {vs : Vers} {l : List AVal} {x : AVal} (hg : H.get R = some (.row vs)) (hv : vs[k]? = some (some (0, l))) (hl : l.length = k + 1) (hX : H.rowAt X 0 = some [x]) (hone : x.one = true) (hk : k < 1000) :
    aAppend H 1 8 (.slice R k 0 (k + 1) (k + 1) false 1) (.slice X 0 0 1 1 true 1) = some (.slice R vs.length 0 (k + 2) (k + 2) false 1, H.set R (.row (newVer vs (k + 1) 1 0 (l ++ [x])))) := by
  have hr : H.rowAt R k = some l := by rw [rowAt_eq, hg]; simp [-getElem?_pos, hv]
  have e : (k + 1 + 1) * 8 ≤ 140737488355328 := by omega
  have e2 : l.take (k + 1) = l := List.take_of_length_le (by omega)
  simp [-getElem?_pos, aAppend, aLen, aCells, hX, hone, hr, hg, hv, hl, e, e2]

theorem app0 {H : AHeap} {X : Nat} {x : AVal} (hX : H.rowAt X 0 = some [x]) (hone : x.one = true) :
    aAppend H 1 8 anil (.slice X 0 0 1 1 true 1) = some (.slice H.next 0 0 1 1 false 1, H.push (.row [some (0, [x])])) := by
  simp [-getElem?_pos, aAppend, aLen, aCells, hX, hone]

/-- The list that is grown: n of its appends made. -/
def Grown (H : AHeap) (b : Nat) (v : AVal) (l : List AVal) : Prop :=
  (l = [] ∧ v = anil ∧ H.next = b + 1) ∨ ∃ k vs, l.length = k + 1 ∧ v = .slice (b + 2) k 0 (k + 1) (k + 1) false 1 ∧ H.next = b + k + 3 ∧ H.get (b + 2) = some (.row vs) ∧ vs.length = k + 1 ∧ vs[k]? = some (some (0, l))

theorem Grown.step {H : AHeap} {b : Nat} {v : AVal} {l : List AVal} (h : Grown H b v l) (x : AVal) (hone : x.one = true) (hl : l.length < 500) (it : AObj) :
    ∃ v' H', aAppend ((H.set b it).push (.row [some (0, [x])])) 1 8 v (.slice (H.set b it).next 0 0 1 1 true 1) = some (v', H') ∧ Grown H' b v' (l ++ [x]) ∧ H'.get b = some it ∧ ∀ A, A < b → H'.get A = H.get A := by
  have hX : ((H.set b it).push (.row [some (0, [x])])).rowAt (H.set b it).next 0 = some [x] := by simp [-getElem?_pos]
  rcases h with ⟨rfl, rfl, h3⟩ | ⟨k, vs, h1, rfl, h3, h4, h5, h6⟩
  · refine ⟨_, _, app0 hX hone, .inr ⟨0, [some (0, [x])], by simp [-getElem?_pos], by simp [-getElem?_pos, h3], by simp [-getElem?_pos, h3], ?_, by simp [-getElem?_pos], by simp [-getElem?_pos]⟩, ?_, fun A hA => ?_⟩
    · simp (disch := omega) [-getElem?_pos, h3]
    · simp (disch := omega) [-getElem?_pos, h3]
    · simp (disch := omega) [-getElem?_pos, h3]
  · have hg : ((H.set b it).push (.row [some (0, [x])])).get (b + 2) = some (.row vs) := by simp (disch := omega) [-getElem?_pos, h3, h4]
    refine ⟨_, _, appN hg h6 h1 hX hone (by omega), .inr ⟨k + 1, _, by simp [-getElem?_pos, h1], by rw [h5], by simp [-getElem?_pos, h3]; omega, AHeap.get_set_same _ _ _, ?_, ?_⟩, ?_, fun A hA => ?_⟩
    · simp [-getElem?_pos, newVer, killAt_len, h5]
    · rw [newVer, List.getElem?_append_right (by rw [killAt_len, h5]; exact Nat.le_refl _), killAt_len, h5]; simp [-getElem?_pos]
    · simp (disch := omega) [-getElem?_pos, h3]
    · simp (disch := omega) [-getElem?_pos, h3]

def intOf : AVal → Int
  | .raw (.int _ n) => n
  | _ => 0

theorem map_intOf {L : AEntries} (h : ∀ e ∈ L, e.2.1 = vi (intOf e.2.1)) : L.map (·.2.1) = (L.map fun e => intOf e.2.1).map vi := by
  rw [List.map_map]
  exact List.map_congr_left h

theorem walk68 (n : Nat) (hn : 20 < n) (hk : KnownOk Try.prog kn) (henv : EnvOk Try.prog env) (hm : Try.prog.follows .mixedOrders = true) (he : env 68 = some a68) (hs : SortE kn env) {H : AHeap} {B M clock : Nat} {es : AEntries} {cells : List AVal} {l : List Int}
    (hB : H.rowAt B 0 = some cells) (hB1 : cells[1]? = some (.map M)) (hBl : 2 ≤ cells.length) (hM : H.get M = some (.map es clock)) (hl : es.map (·.2.1) = l.map vi) (hl12 : l.length ≤ 12) (hold : ∀ e ∈ es, e.2.2 < clock) (hnd : (es.map (·.2.2)).Nodup) (hBn : B < H.next) (hMn : M < H.next) :
    ACalls Try.prog 68 [vp B] H fun v H' => (∀ A, A < H.next → H'.get A = H.get A) ∧ Grown H' H.next v ((srtI l).map vi) := by
  have hor := callM_ok hk henv hm (n + 5)
  have hgo := (callM_go hk henv (n + 5)).y
  have hv : ∀ e ∈ es, e.2.1 = vi (intOf e.2.1) := fun e he => by
    have : e.2.1 ∈ es.map (·.2.1) := List.mem_map_of_mem he
    rw [hl] at this
    obtain ⟨x, _, hx⟩ := List.mem_map.1 this
    rw [← hx]; rfl
  have hl2 : (es.map fun e => intOf e.2.1) = l := by
    have h1 := map_intOf hv
    rw [hl] at h1
    have h2 := congrArg (List.map intOf) h1
    simpa [-getElem?_pos, Function.comp_def, intOf] using h2.symm
  have hlen : es.length = l.length := by have := congrArg List.length hl; simpa [-getElem?_pos] using this
  have of : ∀ {c s Q}, Wp (callM kn env (n + 5)) (n + 5) 22 [0, 2, 3, 5, 10, 12] c s Q → WpR Try.prog 22 [0, 2, 3, 5, 10, 12] c s Q := WpR.of hor hm hgo
  refine WpR.calls henv 22 [0, 2, 3, 5, 10, 12] he rfl (by simp [-getElem?_pos]) ?_
  apply WpR.seq
  apply of
  (repeat (first | apply Wp.seq | apply Wp.blk)); (apply Wp.reg; (repeat (apply Ex.cons; (simp (disch := omega) [-getElem?_pos]; rfl))); exact Ex.nil; rfl; (simp [-getElem?_pos]; rfl))
  apply WpR.seq
  apply of
  (repeat (first | apply Wp.seq | apply Wp.blk)); (apply Wp.reg; (repeat (apply Ex.cons; (simp (disch := omega) [-getElem?_pos]; rfl))); exact Ex.nil; rfl; (simp [-getElem?_pos]; rfl))
  apply WpR.seq; apply WpR.seq
  apply of
  (repeat (first | apply Wp.seq | apply Wp.blk)); (apply Wp.reg; (repeat (apply Ex.cons; (simp (disch := omega) [-getElem?_pos, hB, hB1, hM, aIterNew]; rfl))); exact Ex.nil; rfl; (simp [-getElem?_pos]; rfl))
  apply WpR.blk
  apply WpR.loop (α := AEntries × AVal × AHeap) (fun x => [(10, vp H.next), (3, x.2.1)]) (·.2.2)
    (fun x => (x.1 ++ leftIn es (x.1.map (·.2.2))).Perm es ∧ x.2.2.get H.next = some (.iter (some M) clock (x.1.map (·.2.2)) clock) ∧ (∀ A, A < H.next → x.2.2.get A = H.get A) ∧ Grown x.2.2 H.next x.2.1 (x.1.map (·.2.1)))
    (fun x => es.length - x.1.length) ([], anil, H.push (.iter (some M) clock [] clock)) rfl
    ⟨by have : leftIn es [] = es := List.filter_eq_self.2 (fun _ _ => rfl)
        simp [-getElem?_pos, this], by simp [-getElem?_pos], fun A hA => by simp (disch := omega) [-getElem?_pos], .inl ⟨rfl, rfl, by simp [-getElem?_pos]⟩⟩ (by simp [-getElem?_pos])
  rintro ⟨E, v, H1⟩ ⟨hp, hi, hb, hg⟩
  dsimp only at hp hi hb hg ⊢
  have hM1 : H1.get M = some (.map es clock) := by rw [hb M hMn]; exact hM
  have hEl : E.length ≤ es.length := by have := hp.length_eq; rw [List.length_append] at this; omega
  apply WpR.seq
  apply WpR.next hor rfl rfl rfl hi hM1 hold (Nat.le_refl _)
  · intro hl0
    refine ⟨_, by (repeat (apply Ex.cons; (simp (disch := omega) [-getElem?_pos]; rfl))); exact Ex.nil, ?_⟩
    rw [hl0, List.append_nil] at hp
    have hm1 := map_intOf fun e he => hv e (hp.mem_iff.1 he)
    have hpl := hp.map fun e => intOf e.2.1
    rw [hl2] at hpl
    rw [hm1] at hg
    generalize (E.map fun e => intOf e.2.1) = l' at hg hpl
    have hl' := hpl.length_eq
    apply WpR.seq; apply WpR.cF rfl; apply of; apply Wp.exit
    apply WpR.seq
    rcases hg with ⟨g1, rfl, g3⟩ | ⟨k, vs, g1, rfl, g3, g4, g5, g6⟩
    · have h90 := c90z hs n H1
      apply of
      (repeat (first | apply Wp.seq | apply Wp.blk)); (apply Wp.reg; (repeat (apply Ex.cons; (simp (disch := omega) [-getElem?_pos, h90]; rfl))); exact Ex.nil; rfl; (simp [-getElem?_pos]; rfl))
      apply WpR.seq; apply of
      (repeat (first | apply Wp.seq | apply Wp.blk)); (apply Wp.reg; (repeat (apply Ex.cons; (simp (disch := omega) [-getElem?_pos]; rfl))); exact Ex.nil; rfl; (simp [-getElem?_pos]; rfl))
      apply WpR.ret
      have : l' = [] := by simpa [-getElem?_pos] using g1
      subst this
      have : l = [] := List.eq_nil_of_length_eq_zero hl'.symm
      subst this
      simp [-getElem?_pos, a68]
      exact ⟨hb, .inl ⟨by simp [-getElem?_pos, srtI], rfl, g3⟩⟩
    · have g1 : l'.length = k + 1 := by simpa [-getElem?_pos] using g1
      obtain ⟨_, H2, h90, rfl, m, hm1, hm2, hm3⟩ := c90 hs n l' (by omega) hn H1 (H.next + 2) k (k + 1) (k + 1) false ⟨⟨vs, g4, g5, g6⟩, rfl, fun _ _ => rfl⟩
      rw [g1] at h90
      have := srtI_eq (hm1.trans hpl) hm2
      subst this
      apply of
      (repeat (first | apply Wp.seq | apply Wp.blk)); (apply Wp.reg; (repeat (apply Ex.cons; (simp (disch := omega) [-getElem?_pos, h90]; rfl))); exact Ex.nil; rfl; (simp [-getElem?_pos]; rfl))
      apply WpR.seq; apply of
      (repeat (first | apply Wp.seq | apply Wp.blk)); (apply Wp.reg; (repeat (apply Ex.cons; (simp (disch := omega) [-getElem?_pos]; rfl))); exact Ex.nil; rfl; (simp [-getElem?_pos]; rfl))
      apply WpR.ret
      obtain ⟨vs2, q1, q2, q3⟩ := hm3.row
      simp [-getElem?_pos, a68]
      exact ⟨fun A hA => by rw [hm3.other A (by omega), hb A hA], .inr ⟨k, vs2, by simp [-getElem?_pos, srtI_len]; omega, rfl, by rw [hm3.next, g3], q1, q2, q3⟩⟩
  · intro e hel
    refine ⟨_, by (repeat (apply Ex.cons; (simp (disch := omega) [-getElem?_pos]; rfl))); exact Ex.nil, ?_⟩
    have hees : e ∈ es := (List.mem_filter.1 hel).1
    have hstep := left_step hnd hel hp
    have hEl2 := hstep.length_eq
    simp only [List.length_append, List.length_cons, List.length_nil] at hEl2
    have hfind : (es.find? fun x => Nat.beq x.2.2 e.2.2) = some e := find_born hnd hees
    obtain ⟨v', H2, ha, g1, g2, g3⟩ := hg.step e.2.1 (by rw [hv e hees]; rfl) (by simp [-getElem?_pos]; omega) (.iter (some M) clock ((E ++ [e]).map (·.2.2)) clock)
    have hbn : H1.next ≠ H.next := by rcases hg with ⟨_, _, h⟩ | ⟨k, _, _, _, h, _⟩ <;> omega
    apply WpR.seq; apply WpR.cT rfl; apply of; apply Wp.skip
    apply WpR.blk; apply WpR.seq; apply of
    (repeat (first | apply Wp.seq | apply Wp.blk)); (apply Wp.reg; (repeat (apply Ex.cons; (simp (disch := omega) [-getElem?_pos, aIterEntry, hM1, lastOf_append, hfind]; rfl))); exact Ex.nil; rfl; (simp [-getElem?_pos]; rfl))
    obtain ⟨i, hi⟩ : ∃ i, e.2.1 = vi i := ⟨_, hv e hees⟩
    simp only [List.map_append, List.map_cons, List.map_nil, AHeap.next_set, hi] at ha g1
    apply of
    (repeat (first | apply Wp.seq | apply Wp.blk)); (apply Wp.reg; (repeat (apply Ex.cons; (simp (disch := omega) [-getElem?_pos, ha, hi, aFill, repl]; rfl))); exact Ex.nil; rfl; (simp [-getElem?_pos]; rfl))
    refine ⟨(E ++ [e], v', H2), rfl, ⟨hstep, g2, fun A hA => by rw [g3 A hA, hb A hA], by simpa [-getElem?_pos, hi] using g1⟩, by simp [-getElem?_pos]; omega, by simp [-getElem?_pos]⟩

/-! ### As a known call -/

def liveRes (H : AHeap) (l : List Int) : AVal × AHeap :=
  if l.length = 0 then (anil, H.up 1)
  else (.slice (H.next + 2) (l.length - 1) 0 l.length l.length false 1, (H.up (l.length + 2)).set (H.next + 2) (.row (List.replicate (l.length - 1) none ++ [some (0, (srtI l).map vi)])))

theorem live_calls (n : Nat) (hn : 20 < n) (hk : KnownOk Try.prog kn) (henv : EnvOk Try.prog env) (hm : Try.prog.follows .mixedOrders = true) (he : env 68 = some a68) (hs : SortE kn env) {H : AHeap} {B M clock : Nat} {es : AEntries} {cells : List AVal} {l : List Int}
    (hB : H.rowAt B 0 = some cells) (hB1 : cells[1]? = some (.map M)) (hBl : 2 ≤ cells.length) (hM : H.get M = some (.map es clock)) (hl : es.map (·.2.1) = l.map vi) (hl12 : l.length ≤ 12) (hold : ∀ e ∈ es, e.2.2 < clock) (hnd : (es.map (·.2.2)).Nodup) (hBn : B < H.next) (hMn : M < H.next) :
    ACalls Try.prog 68 [vp B] H fun v H' => v = (liveRes H l).1 ∧ H' = (liveRes H l).2 := by
  have hw := walk68 n hn hk henv hm he hs hB hB1 hBl hM hl hl12 hold hnd hBn hMn
  by_cases h0 : l.length = 0
  · refine hw.only fun hwf v H' ⟨h1, h2⟩ => ?_
    rcases h2 with ⟨g1, rfl, g3⟩ | ⟨k, vs, g1, _⟩
    · refine ⟨fun A => decide (A < H.next), H.up 1, by omega, h1, fun A hA => by simp [-getElem?_pos, hA], fun A o hA hK => ?_, fun A hA => ?_, fun A hA => ?_, by simp [-getElem?_pos, g3], .raw _, by simp [-getElem?_pos, liveRes, h0], by simp [-getElem?_pos, liveRes, h0]⟩
      · simp [-getElem?_pos] at hK; omega
      · simp [-getElem?_pos] at hA; rw [get_up, h1 A hA]
      · simp [-getElem?_pos] at hA; rw [get_up, hwf A hA]
    · simp [-getElem?_pos, srtI_len] at g1; omega
  · refine ACalls.only (ACalls.forget (R' := fun v H' => (∀ A, A < H.next → H'.get A = H.get A) ∧ v = .slice (H.next + 2) (l.length - 1) 0 l.length l.length false 1 ∧ H'.next = H.next + l.length + 2 ∧ H'.get (H.next + 2) = some (.row (List.replicate (l.length - 1) none ++ [some (0, (srtI l).map vi)]))) hw fun v H' ⟨h1, h2⟩ => ?_) fun hwf v H' ⟨h1, h2, h3, h4⟩ => ?_
    · rcases h2 with ⟨g1, _⟩ | ⟨k, vs, g1, rfl, g3, g4, g5, g6⟩
      · have : (srtI l).length = 0 := by rw [← List.length_map (f := vi), g1]; rfl
        rw [srtI_len] at this; omega
      · have hk' : l.length = k + 1 := by simpa [-getElem?_pos, srtI_len] using g1
        rw [hk']
        refine ⟨H.next + 2, vs, List.replicate k none ++ [some (0, (srtI l).map vi)], g4, by simp [-getElem?_pos, g5], fun v x hx => ?_, fun A hA => by rw [AHeap.get_set_ne _ _ (by omega), h1 A hA], by simp [-getElem?_pos], by simp [-getElem?_pos, g3]; omega, by simp [-getElem?_pos]⟩
        rw [List.getElem?_append] at hx
        split at hx
        · rename_i hv
          rw [List.length_replicate] at hv
          rw [List.getElem?_replicate, if_pos hv] at hx; cases hx
        · rename_i hv
          rw [List.length_replicate] at hx hv
          have : v = k := by
            have := (List.getElem?_eq_some_iff.1 hx).1
            simp [-getElem?_pos] at this; omega
          subst this
          simp [-getElem?_pos] at hx
          rw [g6, hx]
    · subst h2
      refine ⟨fun A => decide (A < H.next ∨ A = H.next + 2), (liveRes H l).2, by omega, h1, fun A hA => by simp [-getElem?_pos, hA], fun A o hA hK hg => ?_, fun A hA => ?_, fun A hA => ?_, by simp [-getElem?_pos, liveRes, h0, h3]; omega, .slice (by simp [-getElem?_pos]), by simp [-getElem?_pos, liveRes, h0], rfl⟩
      · simp [-getElem?_pos] at hK
        have : A = H.next + 2 := by omega
        subst this
        rw [h4] at hg; cases hg
        refine ⟨_, rfl, fun v rel cells hv x hx => ?_⟩
        rw [List.getElem?_append] at hv
        split at hv
        · rename_i hv2
          rw [List.length_replicate] at hv2
          rw [List.getElem?_replicate, if_pos hv2] at hv; cases hv
        · have : cells = (srtI l).map vi := by
            have := List.mem_of_getElem? hv
            simp [-getElem?_pos] at this
            exact this.2
          subst this
          obtain ⟨y, _, rfl⟩ := List.mem_map.1 hx
          exact ⟨_, rfl⟩
      · simp [-getElem?_pos] at hA
        rcases hA with hA | rfl
        · simp only [liveRes, h0, if_false]
          rw [AHeap.get_set_ne _ _ (by omega), get_up, h1 A hA]
        · simp only [liveRes, h0, if_false]
          rw [AHeap.get_set_same, h4]
      · simp [-getElem?_pos] at hA
        simp only [liveRes, h0, if_false]
        rw [AHeap.get_set_ne _ _ (by omega), get_up, hwf A (by omega)]

def isVi : AVal → Bool
  | .raw (.int .i64 _) => true
  | _ => false

def liveOf (H : AHeap) (B : Nat) : Option (List Int) :=
  match ((H.rowAt B 0).bind (fun c : List AVal => c[1]?) : Option AVal) with
  | some (.map M) => match H.get M with
    | some (.map es clock) => if (∀ e ∈ es, isVi e.2.1 = true ∧ e.2.2 < clock) ∧ es.length ≤ 12 ∧ (es.map (·.2.2)).Nodup ∧ B < H.next ∧ M < H.next then some (es.map fun e => intOf e.2.1) else none
    | _ => none
  | _ => none

/-- The calls of 'live' that are known. -/
def liveKn : Known := fun f args H => if f = 68 then match args with
  | [.ptr B 0 0] => (liveOf H B).map (liveRes H)
  | _ => none else none

theorem liveKn_ok (hk : KnownOk Try.prog kn) (henv : EnvOk Try.prog env) (hm : Try.prog.follows .mixedOrders = true) (he : env 68 = some a68) (hs : SortE kn env) : KnownOk Try.prog liveKn := fun f args H v H' h => by
  unfold liveKn at h
  split at h
  · rename_i hf
    subst hf
    split at h
    · rename_i B
      obtain ⟨l, hl, hr⟩ := Option.map_eq_some_iff.1 h
      refine ⟨henv.go he, ?_⟩
      unfold liveOf at hl
      split at hl
      · rename_i M hM
        obtain ⟨cells, hc1, hc2⟩ := Option.bind_eq_some_iff.1 hM
        split at hl
        · rename_i es clock hes
          split at hl
          · rename_i hc
            obtain ⟨a1, a2, a3, a4, a5⟩ := hc
            cases hl
            have hmi : es.map (·.2.1) = (es.map fun e => intOf e.2.1).map vi := map_intOf fun e he => by
              have := (a1 e he).1
              unfold isVi at this
              split at this
              · rename_i x hx; rw [hx]; rfl
              · cases this
            have := live_calls 21 (by omega) hk henv hm he hs hc1 hc2 (by have := (List.getElem?_eq_some_iff.1 hc2).1; omega) hes hmi (by simpa [-getElem?_pos] using a2) (fun e he => (a1 e he).2) a3 a4 a5
            rw [hr] at this
            exact this
          · cases hl
        · cases hl
      · cases hl
    · cases h
  · cases h

end Go.Proofs.Ythbjfkkjmecaaaa
