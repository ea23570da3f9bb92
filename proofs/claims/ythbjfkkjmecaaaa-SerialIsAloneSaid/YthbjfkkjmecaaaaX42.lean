/- Walks: serial.Alone. -/
import Derived.Test.YthbjfkkjmecaaaaX41
import Derived.Test.YthbjfkkjmecaaaaX40
namespace Go.Proofs.Ythbjfkkjmecaaaa
open Go Go.Vm
set_option linter.unusedVariables false
set_option linter.unusedSimpArgs false

variable {kn : Known} {env : Nat → Option AFunc}

variable {H H' H1 : AHeap} {N A B M esz P : Nat} {v v0 v1 ov tv a0 : AVal} {avs rvs : List AVal} {ls told : List (List (List AVal))} {l : List (List AVal)} {m : Int} {mm : MapD} {txs : List (List OpD)}

/-- The heap while Alone does an operation: over Hi, but for the map. -/
structure AlIn (Hi : AHeap) (P : Nat) (mm : MapD) (H : AHeap) : Prop where
  next : Hi.next ≤ H.next
  get : ∀ A, A < Hi.next → A ≠ P → H.get A = Hi.get A
  cp : Cells H P mm.flatten
  pm : IsMap mm
  hP : P < Hi.next

theorem AlIn.move {Hi : AHeap} (h : AlIn Hi P mm H) (hn : H.next ≤ H'.next) (hg : ∀ A, A < Hi.next → H'.get A = H.get A) : AlIn Hi P mm H' := by
  have := h.hP
  exact ⟨Nat.le_trans h.next hn, fun A a b => by rw [hg A a, h.get A a b], by unfold Cells; rw [hg P this]; exact h.cp, h.pm, this⟩

theorem AlIn.setP {Hi : AHeap} (h : AlIn Hi P mm H) {k : Nat} (hk : k < 64) {u : List AVal} (hu : IsVal u) : ∃ H', H.write P 0 (k * 32) u = some H' ∧ AlIn Hi P (mm.set k u) H' ∧ H'.next = H.next ∧ ∀ A, A ≠ P → H'.get A = H.get A := by
  have hl := h.pm.len
  have hel : ∀ e ∈ mm, e.length = 32 := fun e he => (h.pm.val e he).len
  have hfl := flatten_len hel
  refine ⟨_, Cells.write h.cp (by have := hu.len; omega) (by have := hu.len; omega) hu.one, ⟨h.next, fun A a b => by rw [AHeap.get_set_ne _ _ b, h.get A a b], ?_, h.pm.set hu, h.hP⟩, rfl, fun A b => AHeap.get_set_ne _ _ b⟩
  unfold Cells; rw [AHeap.get_set_same, flatten_set hu.len k hel (by omega)]

theorem doOp_w {st : MapD × List (List AVal)} {o : OpD} (h : o.kind = 3) : doOp st o = (st.1.set o.blk.toNat o.val, st.2) := if_pos h
theorem doOp_r {st : MapD × List (List AVal)} {o : OpD} (h : ¬ o.kind = 3) : doOp st o = (st.1, st.2 ++ [atM st.1 o.blk]) := if_neg h

theorem doOp_read (t : List OpD) : ∀ (mp : MapD) (told : List (List AVal)), t.foldl doOp (mp, told) = ((t.foldl doOp (mp, [])).1, told ++ (t.foldl doOp (mp, [])).2) := by
  induction t with
  | nil => intro mp told; simp [-getElem?_pos]
  | cons o r ih =>
    intro mp told
    simp only [List.foldl_cons]
    by_cases h3 : o.kind = 3
    · rw [doOp_w h3, doOp_w h3, ih]
    · rw [doOp_r h3, doOp_r h3, ih, ih _ ([] ++ _)]
      simp [-getElem?_pos]

theorem doOp_map {t : List OpD} (ht : ∀ o ∈ t, OkOp m o) : ∀ {st : MapD × List (List AVal)}, IsMap st.1 → IsMap (t.foldl doOp st).1 := by
  induction t with
  | nil => intro st h; exact h
  | cons o r ih =>
    intro st h
    rw [List.foldl_cons]
    refine ih (fun x hx => ht x (List.mem_cons_of_mem _ hx)) ?_
    by_cases h3 : o.kind = 3
    · rw [doOp_w h3]; exact h.set (ht o (List.mem_cons_self ..)).val
    · rw [doOp_r h3]; exact h

theorem doOp_vals {t : List OpD} (hm : m ≤ 64) (ht : ∀ o ∈ t, OkOp m o) : ∀ {st : MapD × List (List AVal)}, IsMap st.1 → (∀ e ∈ st.2, IsVal e) → ∀ e ∈ (t.foldl doOp st).2, IsVal e := by
  induction t with
  | nil => intro st h h2; exact h2
  | cons o r ih =>
    intro st h h2
    rw [List.foldl_cons]
    have ho := ht o (List.mem_cons_self ..)
    have h1 := ho.lo
    have h3 := ho.hi
    refine ih (fun x hx => ht x (List.mem_cons_of_mem _ hx)) ?_ ?_
    · by_cases h3 : o.kind = 3
      · rw [doOp_w h3]; exact h.set ho.val
      · rw [doOp_r h3]; exact h
    · by_cases h3 : o.kind = 3
      · rw [doOp_w h3]; exact h2
      · rw [doOp_r h3]
        intro e he
        rcases List.mem_append.1 he with he | he
        · exact h2 e he
        · simp [-getElem?_pos] at he; subst he
          exact (h.at h1 (by omega)).2

abbrev alOps : ACode := (sndC (fstC (sndC (sndC (fstC (fstC (sndC (sndC (fstC (fstC (sndC (fstC (sndC (sndC (sndC (sndC (a39.code)))))))))))))))))

set_option maxHeartbeats 2000000 in
/-- One list of operations, done. -/
theorem alIn {or : Oracle} {n : Nat} {Q : Exit → KS → Prop} {Hi : AHeap} (hP : P < Hi.next) (hcp : Cells Hi P mm.flatten) (hpm : IsMap mm) {t : List OpD} {a p4 p0 p53 p54 p55 : AVal} (hra : RdE Hi 35 a (t.map OpD.cells)) (hla : a.lies fun R => R < Hi.next ∧ R ≠ P) (hok : ∀ o ∈ t, OkOp m o) (hm : m ≤ 64) (hn : t.length < n) (hl : t.length < 400000000000)
    (hQ : ∀ l' H' rv, SubK [(0, p0), (4, p4), (11, .ptr P 0 0), (14, rv), (53, p53), (54, p54), (55, p55)] l' → AlIn Hi P (t.foldl doOp (mm, [])).1 H' → SliceE H' Hi.next 32 rv (t.foldl doOp (mm, [])).2 → Q .normal (l', H')) :
    Wp or n 90 C39 alOps ([(0, p0), (4, p4), (11, .ptr P 0 0), (14, ns), (53, p53), (54, p54), (55, p55), (59, a), (60, vi t.length), (61, vi 0)], Hi) Q := by
  apply Wp.blk
  apply Wp.loop (α := Nat × AHeap × MapD × AVal × List (List AVal)) (fun y => [(0, p0), (4, p4), (11, .ptr P 0 0), (14, y.2.2.2.1), (53, p53), (54, p54), (55, p55), (59, a), (60, vi t.length), (61, vi y.1)]) (·.2.1)
    (fun y => y.1 ≤ t.length ∧ AlIn Hi P y.2.2.1 y.2.1 ∧ SliceE y.2.1 Hi.next 32 y.2.2.2.1 y.2.2.2.2 ∧ y.2.2.2.2.length ≤ y.1 ∧ (t.drop y.1).foldl doOp (y.2.2.1, y.2.2.2.2) = t.foldl doOp (mm, [])) (fun y => t.length - y.1)
    (0, Hi, mm, ns, []) rfl ⟨by omega, ⟨Nat.le_refl _, fun _ _ _ => rfl, hcp, hpm, hP⟩, SliceE.nil _ _ _, Nat.le_refl _, rfl⟩ (by simp [-getElem?_pos]; omega) (by simp [-getElem?_pos])
  rintro ⟨k, H2, m2, rv, told⟩ ⟨hk, hi2, hs2, htl, hfold⟩
  dsimp only at hk hi2 hs2 htl hfold ⊢
  (repeat (first | apply Wp.seq | apply Wp.blk)); (apply Wp.reg; (repeat (apply Ex.cons; (simp (disch := omega) [-getElem?_pos]; rfl))); exact Ex.nil; rfl; (simp [-getElem?_pos]; rfl))
  (repeat (first | apply Wp.seq | apply Wp.blk)); apply Wp.ite rfl
  · intro hkl
    obtain ⟨o, ho⟩ : ∃ o, t[k]? = some o := ⟨_, List.getElem?_eq_getElem (by omega)⟩
    have hoo := hok o (List.mem_of_getElem? ho)
    obtain ⟨z1, z2⟩ := OpD.len35 hoo.val
    obtain ⟨q, hq, hq64⟩ : ∃ q : Nat, o.blk = q ∧ q < 64 := ⟨o.blk.toNat, by have := hoo.lo; omega, by have := hoo.lo; have := hoo.hi; omega⟩
    obtain ⟨R1, ver1, off1, kc1, ex1, cells1, hv1, hrow1, hd1, hd2⟩ := hra.at (i := k) (e := o.cells) (by rw [List.getElem?_map, ho]; rfl)
    simp only [List.length_map] at hv1
    obtain ⟨hR1, hR1P⟩ := hla _ _ _ _ _ _ _ hv1
    have hrow12 : H2.rowAt R1 ver1 = some cells1 := by unfold AHeap.rowAt; rw [hi2.get R1 hR1 hR1P]; exact hrow1
    obtain ⟨H4, hw4, hg4, hc4, hn4⟩ := newCells H2 (z := zop) (e := o.cells) (by rw [z1]; rfl) (by omega) z2
    have hX := hc4.at
    have q0 : o.cells[0]? = some (vi o.kind) := rfl
    have q2 : o.cells[2]? = some (vi (q : Int)) := by rw [← hq]; rfl
    have q3 : (o.cells.drop 3).take 32 = o.val := by show o.val.take 32 = o.val; exact List.take_of_length_le (by rw [hoo.val.len]; exact Nat.le_refl _)
    have hv32 := hoo.val.len
    have hi4 := hi2.move hg4.next fun A hA => hg4.get A (by have := hi2.next; omega)
    have hP4 := hi4.cp.at
    have hil : ∀ e ∈ m2, e.length = 32 := fun e he => (hi2.pm.val e he).len
    have hifl := flatten_len hil
    rw [hi2.pm.len] at hifl
    obtain ⟨ha1, ha2⟩ := hi2.pm.at (b := (q : Int)) (by omega) (by omega)
    rw [Int.toNat_natCast] at ha1
    have hia := flatten_at q _ hil ha1
    have hbq : AVal.beqs (atM m2 q) (atM m2 q) = true := beqs_bytes ha2.bytes
    have hq32 := ha2.len
    rw [drop_at ho, List.foldl_cons] at hfold
    have hHi := hi2.next
    apply Wp.skip
    by_cases h3 : o.kind = 3
    · obtain ⟨H5, hw5, hi5, hn5, hk5⟩ := hi4.setP hq64 hoo.val
      have hst : doOp (m2, told) o = (m2.set q o.val, told) := by simp [-getElem?_pos, doOp, h3, hq]
      rw [hst] at hfold
      rw [h3] at q0
      have hs5 : SliceE H5 Hi.next 32 rv told := slice_keep hs2 (by omega) fun R a1 a2 a3 a4 a5 a6 e => by
        have hR := hs2.lies R a1 a2 a3 a4 a5 a6 e
        show H5.get R = H2.get R
        rw [hk5 R (by omega), hg4.get R (by omega)]
      repeat (first | apply Wp.seq | apply Wp.blk | apply Wp.ret | apply Wp.skip | apply Wp.exit | apply Wp.cT rfl | apply Wp.cF rfl | ((apply Wp.reg; (repeat (apply Ex.cons; (simp (disch := omega) [-getElem?_pos, hv1, hrow12, hd2, z1, hw4, hX, q0, q2, q3, hw5, hP4, hifl, hv32]; rfl))); exact Ex.nil; rfl; (simp [-getElem?_pos]; rfl))))
      exact ⟨(k + 1, H5, m2.set q o.val, rv, told), rfl, ⟨by show k + 1 ≤ _; omega, hi5, hs5, by show told.length ≤ k + 1; omega, hfold⟩, by show _ - (k + 1) < _ - k; omega, by simp [-getElem?_pos, hv1]⟩
    · have hst : doOp (m2, told) o = (m2, told ++ [atM m2 q]) := by simp [-getElem?_pos, doOp, h3, hq]
      rw [hst] at hfold
      have hk2 : o.kind = 2 := by rcases hoo.kind with h | h; exact h; exact absurd h h3
      rw [hk2] at q0
      have hs4 : SliceE (H4.push (.row [some (0, atM m2 q)])) Hi.next 32 rv told := hs2.move (Nat.le_refl _) (by simp [-getElem?_pos]; omega) fun A a b => by rw [AHeap.get_push_ne _ _ (by omega), hg4.get A (by omega)]
      obtain ⟨rv', H5, e1, e2, e3, e4, e5, e6⟩ := hs4.append (bytes := 32) (by simp [-getElem?_pos]; omega) (X := H4.next) (e := atM m2 q) (by simp [-getElem?_pos]) hq32 (by omega) (by omega) ha2.one (by omega) (ex := true) (kc := 1)
      have hi5 : AlIn Hi P m2 H5 := hi4.move (by simp [-getElem?_pos] at e3; omega) fun A hA => by rw [e4 A hA, AHeap.get_push_ne _ _ (by omega)]
      repeat (first | apply Wp.seq | apply Wp.blk | apply Wp.ret | apply Wp.skip | apply Wp.exit | apply Wp.cT rfl | apply Wp.cF rfl | ((apply Wp.reg; (repeat (apply Ex.cons; (simp (disch := omega) [-getElem?_pos, hv1, hrow12, hd2, z1, hw4, hX, q0, q2, hP4, hifl, hia, hq32, aFill, repl, e1]; rfl))); exact Ex.nil; rfl; (simp [-getElem?_pos]; rfl))))
      exact ⟨(k + 1, H5, m2, rv', told ++ [atM m2 q]), rfl, ⟨by show k + 1 ≤ _; omega, hi5, e2, by simp [-getElem?_pos]; omega, hfold⟩, by show _ - (k + 1) < _ - k; omega, by simp [-getElem?_pos, hv1]⟩
  · intro hkl
    apply Wp.exit
    rw [List.drop_of_length_le (by omega), List.foldl_nil] at hfold
    refine hQ _ H2 rv (by simp [-getElem?_pos]) ?_ ?_
    · rw [← hfold]; exact hi2
    · rw [← hfold]; exact hs2

/-- The heap while Alone does the lists. -/
structure Al (H0 : AHeap) (P : Nat) (mm : MapD) (tv : AVal) (rvs : List AVal) (told : List (List (List AVal))) (H : AHeap) : Prop where
  grow : Grow H0 H
  cp : Cells H P mm.flatten
  pm : IsMap mm
  hP : H0.next ≤ P ∧ P < H.next
  ll : LL H (P + 1) 32 tv rvs told

/-- A list has been done. -/
theorem Al.push {H0 Hi H2 : AHeap} {mm2 : MapD} (h : Al H0 P mm tv rvs told Hi) (hi : AlIn Hi P mm2 H2) (ha : SliceE H2 Hi.next 32 a0 l) (hlen : (rvs.length + 1) * 24 ≤ 140737488355328) :
    ∃ v' H3, aAppend (H2.push (.row [some (0, [a0])])) 1 24 tv (.slice H2.next 0 0 1 1 true 1) = some (v', H3) ∧ Al H0 P mm2 v' (rvs ++ [a0]) (told ++ [l]) H3 := by
  obtain ⟨v', H3, e1, e2, e3, e4⟩ := h.ll.push (by have := h.hP; omega) hi.next (fun A a b => hi.get A b (by omega)) ha hlen
  have hP := h.hP
  have hg := h.grow.next
  have hn := hi.next
  exact ⟨v', H3, e1, ⟨⟨by omega, fun A hA => by rw [e4 A (by omega), hi.get A (by omega) (by omega), h.grow.get A hA]⟩, by unfold Cells; rw [e4 P (by omega)]; exact hi.cp, hi.pm, ⟨hP.1, by omega⟩, e2⟩⟩

set_option maxHeartbeats 2000000 in
/-- All lists, done. -/
theorem alOut {or : Oracle} {n : Nat} {Q : Exit → KS → Prop} {H0 Hb : AHeap} (h : LR H0 H0.next 35 v1 avs (opsC txs)) (hb : Al H0 P mm ns [] [] Hb) (hok : ∀ t ∈ txs, ∀ o ∈ t, OkOp m o) (hm : m ≤ 64) (hn : txs.length < n) (hn2 : ∀ t ∈ txs, t.length < n) (hl : txs.length < 400000000000) (hl2 : ∀ t ∈ txs, t.length < 400000000000)
    (hQ : ∀ l' H' tv rvs, SubK [(0, vi m), (4, tv), (11, .ptr P 0 0)] l' → Al H0 P (txs.foldl aloneD (mm, [])).1 tv rvs (txs.foldl aloneD (mm, [])).2 H' → Q .normal (l', H')) :
    Wp or n 90 C39 (sndC (fstC (sndC (sndC (sndC (sndC (a39.code))))))) ([(0, vi m), (4, ns), (11, .ptr P 0 0), (53, v1), (54, vi txs.length), (55, vi 0)], Hb) Q := by
  apply Wp.blk
  apply Wp.loop (α := Nat × AHeap × MapD × AVal × List AVal × List (List (List AVal))) (fun y => [(0, vi m), (4, y.2.2.2.1), (11, .ptr P 0 0), (53, v1), (54, vi txs.length), (55, vi y.1)]) (·.2.1)
    (fun y => y.1 ≤ txs.length ∧ Al H0 P y.2.2.1 y.2.2.2.1 y.2.2.2.2.1 y.2.2.2.2.2 y.2.1 ∧ y.2.2.2.2.1.length = y.1 ∧ (txs.drop y.1).foldl aloneD (y.2.2.1, y.2.2.2.2.2) = txs.foldl aloneD (mm, [])) (fun y => txs.length - y.1)
    (0, Hb, mm, ns, [], []) rfl ⟨by omega, hb, rfl, rfl⟩ (by simp [-getElem?_pos]; omega) (by simp [-getElem?_pos])
  rintro ⟨i, H2, m2, tv, rvs, told⟩ ⟨hi, ha2, hrl, hfold⟩
  dsimp only at hi ha2 hrl hfold ⊢
  (repeat (first | apply Wp.seq | apply Wp.blk)); (apply Wp.reg; (repeat (apply Ex.cons; (simp (disch := omega) [-getElem?_pos]; rfl))); exact Ex.nil; rfl; (simp [-getElem?_pos]; rfl))
  (repeat (first | apply Wp.seq | apply Wp.blk)); apply Wp.ite rfl
  · intro hil
    obtain ⟨t, ht⟩ : ∃ t, txs[i]? = some t := ⟨_, List.getElem?_eq_getElem (by omega)⟩
    have hal : avs.length = txs.length := by rw [h.len, List.length_map]
    obtain ⟨a, ha⟩ : ∃ a, avs[i]? = some a := ⟨_, List.getElem?_eq_getElem (by omega)⟩
    obtain ⟨hra, hla⟩ := h.at_ i a _ ha (by rw [List.getElem?_map, ht]; rfl)
    have htn := hn2 t (List.mem_of_getElem? ht)
    have htl := hl2 t (List.mem_of_getElem? ht)
    have hlen : aLenS a = some (vi t.length) := by have := hra.lenS; rw [List.length_map] at this; exact this
    obtain ⟨R0, ver0, off, kc, ex, cells, hv, hrow, hc1, hc2⟩ := h.rd.at (i := i) (e := [a]) (by rw [List.getElem?_map, ha]; rfl)
    simp only [List.length_map] at hv
    rw [hal] at hv
    have hR0 := h.lies _ _ _ _ _ _ _ hv
    have hrow2 : H2.rowAt R0 ver0 = some cells := by rw [ha2.grow.rowAt hR0]; exact hrow
    rw [Nat.mul_one] at hc1 hc2
    have hc3 : cells[off + i]? = some a := by
      have : (List.take 1 (List.drop (off + i) cells))[0]? = some a := by rw [hc2]; rfl
      rw [List.getElem?_take, if_pos (by omega), List.getElem?_drop] at this
      exact this
    have hP := ha2.hP
    have hgn := ha2.grow.next
    rw [drop_at ht, List.foldl_cons] at hfold
    apply Wp.skip
    (repeat (first | apply Wp.seq | apply Wp.blk)); (apply Wp.reg; (repeat (apply Ex.cons; (simp (disch := omega) [-getElem?_pos, hv, hrow2, hc3]; rfl))); exact Ex.nil; rfl; (simp [-getElem?_pos]; rfl))
    (repeat (first | apply Wp.seq | apply Wp.blk)); (apply Wp.reg; (repeat (apply Ex.cons; (simp (disch := omega) [-getElem?_pos]; rfl))); exact Ex.nil; rfl; (simp [-getElem?_pos]; rfl))
    (repeat (first | apply Wp.seq | apply Wp.blk)); (apply Wp.reg; (repeat (apply Ex.cons; (simp (disch := omega) [-getElem?_pos, hlen]; rfl))); exact Ex.nil; rfl; (simp [-getElem?_pos]; rfl))
    refine Wp.sub [(0, vi m), (4, tv), (11, .ptr P 0 0), (14, ns), (53, v1), (54, vi txs.length), (55, vi i), (59, a), (60, vi t.length), (61, vi 0)] ?_ (by simp [-getElem?_pos, hv])
    refine alIn hP.2 ha2.cp ha2.pm (t := t) (a := a) (p4 := tv) (p0 := vi m) (p53 := v1) (p54 := vi txs.length) (p55 := vi i) (hra.grow ha2.grow hla) (lies_mono hla fun R hR => ⟨by omega, by omega⟩) (hok t (List.mem_of_getElem? ht)) hm htn (by omega) fun l' H3 rv hsub hi3 hs3 => ?_
    obtain ⟨tv', H4, e1, hal4⟩ := ha2.push hi3 hs3 (by omega)
    refine Wp.sub [(0, vi m), (4, tv), (11, .ptr P 0 0), (14, rv), (53, v1), (54, vi txs.length), (55, vi i)] ?_ hsub
    have hrv1 : rv.one = true := hs3.rd.one
    have hrvc : rv.cells = [rv] := cells_one hrv1
    have hst : aloneD (m2, told) t = ((t.foldl doOp (m2, [])).1, told ++ [(t.foldl doOp (m2, [])).2]) := rfl
    rw [hst] at hfold
    repeat (first | apply Wp.seq | apply Wp.blk | apply Wp.ret | apply Wp.skip | apply Wp.exit | apply Wp.cT rfl | apply Wp.cF rfl | ((apply Wp.reg; (repeat (apply Ex.cons; (simp (disch := omega) [-getElem?_pos, hrvc, aFill, repl, e1]; rfl))); exact Ex.nil; rfl; (simp [-getElem?_pos]; rfl))))
    exact ⟨(i + 1, H4, _, tv', rvs ++ [rv], _), rfl, ⟨by show i + 1 ≤ _; omega, hal4, by show (rvs ++ [rv]).length = i + 1; simp [-getElem?_pos]; omega, hfold⟩, by show _ - (i + 1) < _ - i; omega, by simp [-getElem?_pos, hv]⟩
  · intro hil
    apply Wp.exit
    rw [List.drop_of_length_le (by omega), List.foldl_nil] at hfold
    refine hQ _ H2 tv rvs (by simp [-getElem?_pos]) ?_
    rw [← hfold]; exact ha2

end Go.Proofs.Ythbjfkkjmecaaaa
namespace Go.Proofs.Ythbjfkkjmecaaaa
open Go Go.Vm
set_option linter.unusedVariables false
set_option linter.unusedSimpArgs false

variable {kn : Known} {env : Nat → Option AFunc}


variable {H H' H1 : AHeap} {N A B M esz P : Nat} {v v0 v1 ov tv a0 : AVal} {avs rvs : List AVal} {ls told : List (List (List AVal))} {l : List (List AVal)} {m : Int} {mm : MapD} {txs : List (List OpD)}

structure AlE (kn : Known) (env : Nat → Option AFunc) : Prop where
  f39 : Fn kn env 39 a39
  f61 : Fn kn env 61 a61
  f66 : Fn kn env 66 a66

theorem aloneD_ok (hm : m ≤ 64) : ∀ {txs : List (List OpD)} (hok : ∀ t ∈ txs, ∀ o ∈ t, OkOp m o) {st : MapD × List (List (List AVal))}, IsMap st.1 → (∀ l ∈ st.2, ∀ e ∈ l, IsVal e) → IsMap (txs.foldl aloneD st).1 ∧ (∀ l ∈ (txs.foldl aloneD st).2, ∀ e ∈ l, IsVal e) ∧ (txs.foldl aloneD st).2.length = st.2.length + txs.length
  | [], _, st, h1, h2 => ⟨h1, h2, rfl⟩
  | t :: r, hok, st, h1, h2 => by
    rw [List.foldl_cons]
    obtain ⟨a, b, c⟩ := aloneD_ok hm (txs := r) (fun x hx => hok x (List.mem_cons_of_mem _ hx)) (st := aloneD st t) (doOp_map (hok t (List.mem_cons_self ..)) (st := (st.1, [])) h1) (fun l hl => by
      rcases List.mem_append.1 hl with hl | hl
      · exact h2 l hl
      · simp [-getElem?_pos, -List.reduceReplicate] at hl; subst hl
        exact doOp_vals hm (hok t (List.mem_cons_self ..)) (st := (st.1, [])) h1 (fun e he => by simp [-getElem?_pos, -List.reduceReplicate] at he))
    refine ⟨a, b, ?_⟩
    rw [c]
    show (st.2 ++ [_]).length + r.length = _
    simp [-getElem?_pos, -List.reduceReplicate]; omega

theorem c39 (E : AlE kn env) (n : Nat) (h : LR H H.next 35 v1 avs (opsC txs)) (hok : ∀ t ∈ txs, ∀ o ∈ t, OkOp m o) (hm0 : 1 ≤ m) (hm : m ≤ 64) (hn : txs.length < n) (hn2 : ∀ t ∈ txs, t.length < n) (hl : txs.length < 400000000000) (hl2 : ∀ t ∈ txs, t.length < 400000000000) :
    ∃ tv rvs mv H', callM kn env (n + 2) (.func (.func 39) []) [vi m, v1] H = some (.tuple [tv, mv, vi 0], H') ∧ Grow H H' ∧ LL H' H.next 32 tv rvs (txs.foldl aloneD (zeroM, [])).2 ∧ SliceE H' H.next 32 mv ((txs.foldl aloneD (zeroM, [])).1.take m.toNat) := by
  have h61 := c61 (H := H) E.f61 n m
  have hcc : decide (1 ≤ m ∧ m ≤ 64) = true := decide_eq_true ⟨hm0, hm⟩
  rw [hcc] at h61
  have hlen : aLenS v1 = some (vi txs.length) := by have := h.rd.lenS; rw [List.length_map, h.len, List.length_map] at this; exact this
  obtain ⟨v, H', hc, hg, tv, rvs, mv, rfl, e1, e2⟩ := Wp.call (R := fun v H' => Grow H H' ∧ ∃ tv rvs mv, v = .tuple [tv, mv, vi 0] ∧ LL H' H.next 32 tv rvs (txs.foldl aloneD (zeroM, [])).2 ∧ SliceE H' H.next 32 mv ((txs.foldl aloneD (zeroM, [])).1.take m.toNat)) 90 C39 E.f39.e (E.f39.no [vi m, v1] H) (n := n + 1) rfl (by simp [-getElem?_pos, -List.reduceReplicate]) (by
    repeat (first | apply Wp.seq | apply Wp.blk | apply Wp.ret | apply Wp.skip | apply Wp.exit | apply Wp.cT rfl | apply Wp.cF rfl | ((apply Wp.reg; (repeat (apply Ex.cons; (simp (disch := omega) [-getElem?_pos, -List.reduceReplicate, h61, hlen]; rfl))); exact Ex.nil; rfl; (simp [-getElem?_pos, -List.reduceReplicate]; rfl))))
    refine Wp.sub [(0, vi m), (1, v1), (4, ns), (20, v1), (21, vi txs.length), (22, vi 0)] ?_ (by simp [-getElem?_pos, -List.reduceReplicate])
    refine alCheck h hok hm (by omega) (fun t ht => by have := hn2 t ht; omega) hl hl2 fun l' H2 hsub hg2 => ?_
    refine Wp.sub [(0, vi m), (1, v1), (4, ns)] ?_ hsub
    (repeat (first | apply Wp.seq | apply Wp.blk)); (apply Wp.reg; (repeat (apply Ex.cons; (simp (disch := omega) [-getElem?_pos, -List.reduceReplicate]; rfl))); exact Ex.nil; rfl; (simp [-getElem?_pos, -List.reduceReplicate]; rfl))
    (repeat (first | apply Wp.seq | apply Wp.blk)); (apply Wp.reg; (repeat (apply Ex.cons; (simp (disch := omega) [-getElem?_pos, -List.reduceReplicate, hlen]; rfl))); exact Ex.nil; rfl; (simp [-getElem?_pos, -List.reduceReplicate]; rfl))
    refine Wp.sub [(0, vi m), (4, ns), (11, .ptr H2.next 0 0), (53, v1), (54, vi txs.length), (55, vi 0)] ?_ (by simp [-getElem?_pos, -List.reduceReplicate])
    have hb : Al H H2.next zeroM ns [] [] (H2.push (.row [some (0, List.replicate 2048 zb)])) := ⟨hg2.trans (Grow.push _ _), by unfold Cells; rw [AHeap.get_push_same, zeroM_flat], zeroM_is, ⟨hg2.next, by simp [-getElem?_pos, -List.reduceReplicate]⟩, LL.nil _ _ _⟩
    refine alOut h hb hok hm (by omega) (fun t ht => by have := hn2 t ht; omega) hl hl2 fun l'' H3 tv rvs hsub2 ha3 => ?_
    obtain ⟨k, rfl⟩ : ∃ k : Nat, m = k := ⟨m.toNat, by omega⟩
    generalize hfin : txs.foldl aloneD (zeroM, []) = fin at ha3
    obtain ⟨mm, told⟩ := fin
    dsimp only at ha3
    have hP3 := ha3.cp.at
    obtain ⟨hpl, _⟩ := ha3.pm.flat
    have hml := ha3.pm.len
    have hel : ∀ e ∈ mm, e.length = 32 := fun e he => (ha3.pm.val e he).len
    have hrdm : RdE H3 32 (.slice H2.next 0 0 k 64 true 32) (mm.take k) := by
      refine ⟨fun e he => hel e (List.mem_of_mem_take he), .inr ⟨H2.next, 0, 0, 64, true, mm.flatten, by rw [List.length_take, Nat.min_eq_left (by omega)], hP3, by rw [List.length_take]; omega, by rw [List.length_take, hpl]; omega, ?_⟩⟩
      rw [List.drop_zero, List.length_take, Nat.min_eq_left (by omega), flatten_take k hel]
    obtain ⟨mv, H4, h66, hg4, hs4⟩ := c66 (H := H3) E.f66 n hrdm (fun R ver off len kc ex esz e => by cases e; exact ha3.hP.2) (fun e => by have := congrArg List.length e; rw [List.length_take, List.length_nil] at this; omega) (fun e he => (ha3.pm.val e (List.mem_of_mem_take he)).one) (by rw [List.length_take]; omega)
    refine Wp.sub [(0, vi k), (4, tv), (11, .ptr H2.next 0 0)] ?_ hsub2
    repeat (first | apply Wp.seq | apply Wp.blk | apply Wp.ret | apply Wp.skip | apply Wp.exit | apply Wp.cT rfl | apply Wp.cF rfl | ((apply Wp.reg; (repeat (apply Ex.cons; (simp (disch := omega) [-getElem?_pos, -List.reduceReplicate, hP3, hpl, aSliceA, aBoundO, aBound, h66]; rfl))); exact Ex.nil; rfl; (simp [-getElem?_pos, -List.reduceReplicate]; rfl))))
    simp [-getElem?_pos, -List.reduceReplicate, a39]
    have hn2' : H.next ≤ H2.next := hg2.next
    exact ⟨ha3.grow.trans hg4, tv, rvs, mv, ⟨rfl, rfl⟩, ha3.ll.move (by omega) hg4.next fun A _ b => hg4.get A b, hs4.move ha3.grow.next (Nat.le_refl _) fun _ _ _ => rfl⟩)
  exact ⟨tv, rvs, mv, H', hc, hg, e1, e2⟩

end Go.Proofs.Ythbjfkkjmecaaaa
namespace Go.Proofs.Ythbjfkkjmecaaaa
open Go Go.Vm
set_option linter.unusedVariables false
set_option linter.unusedSimpArgs false

variable {kn : Known} {env : Nat → Option AFunc}

variable {rows l a b : List RowD} {r : RowD} {m : Int} {txs : List TxD} {order : List Int} {mm ins ins' : MapD} {f f' : FindD} {p : Int} {k : Nat}

/-! ### What is touched -/

end Go.Proofs.Ythbjfkkjmecaaaa
