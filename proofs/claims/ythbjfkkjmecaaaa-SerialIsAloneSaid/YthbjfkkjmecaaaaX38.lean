/- Walks: what a transaction's own rows are; small functions of serial. -/
import Derived.Test.YthbjfkkjmecaaaaX36
import Derived.Test.YthbjfkkjmecaaaaX37
namespace Go.Proofs.Ythbjfkkjmecaaaa
open Go Go.Vm
set_option linter.unusedVariables false
set_option linter.unusedSimpArgs false

variable {kn : Known} {env : Nat → Option AFunc}

variable {H H' H1 : AHeap} {N A M : Nat} {v : AVal} {rows l : List RowD} {rcs ocs : List (List AVal)} {rc : List AVal} {r : RowD} {x : TxD} {sv rv wv : AVal}

/-! ### Plain -/

/-- The rows of a transaction of a client, behind its beginning. -/
def ownB (c : Int) : List RowD → List RowD
  | [] => []
  | r :: l => if r.actor ≠ c then ownB c l else if r.kind = 2 then [] else if r.kind = 5 ∨ r.kind = 6 then r :: ownB c l else ownB c l

def ownD (rows : List RowD) (x : TxD) : List RowD := ownB x.client (rows.drop (x.begun + 1).toNat)

def badB (m : Int) (r : RowD) : Bool := decide (r.blk < 0 ∨ m ≤ r.blk)

/-- Cells of rows. -/
def RowsC (rcs : List (List AVal)) (rows : List RowD) : Prop := rcs.length = rows.length ∧ ∀ (k : Nat) (c : List AVal) (r : RowD), rcs[k]? = some c → rows[k]? = some r → RowC c r

theorem RowsC.nil : RowsC [] [] := ⟨rfl, fun k c r h => by simp [-getElem?_pos] at h⟩
theorem RowsC.push (h : RowsC rcs rows) (hr : RowC rc r) : RowsC (rcs ++ [rc]) (rows ++ [r]) := by
  refine ⟨by simp [-getElem?_pos, h.1], fun k c q h1 h2 => ?_⟩
  have := h.1
  rcases Nat.lt_or_ge k rows.length with hk | hk
  · rw [List.getElem?_append_left (by omega)] at h1 h2
    exact h.2 k c q h1 h2
  · have hk1 := (List.getElem?_eq_some_iff.1 h2).1
    simp [-getElem?_pos] at hk1
    have : k = rows.length := by omega
    subst this
    rw [← h.1, List.getElem?_concat_length] at h1
    rw [List.getElem?_concat_length] at h2
    cases h1; cases h2; exact hr
theorem RowsC.drop (h : RowsC rcs rows) (k : Nat) : RowsC (rcs.drop k) (rows.drop k) := ⟨by simp [-getElem?_pos, h.1], fun i c r h1 h2 => by
  rw [List.getElem?_drop] at h1 h2; exact h.2 _ c r h1 h2⟩

theorem drop_at {α : Type} {l : List α} {j : Nat} {z : α} (h : l[j]? = some z) : l.drop j = z :: l.drop (j + 1) := by
  obtain ⟨h1, h2⟩ := List.getElem?_eq_some_iff.1 h
  rw [List.drop_eq_getElem_cons h1, h2]

/-- A part of a slice, to its end. -/
theorem _root_.Go.Vm.RdE.from {esz : Nat} {es : List (List AVal)} (h : RdE H esz v es) {k : Nat} (hk : k ≤ es.length) : ∃ v', aSliceS esz v (some (vi k)) none none = some v' ∧ RdE H esz v' (es.drop k) ∧ ∀ p : Nat → Prop, v.lies p → v'.lies p := by
  rcases h with ⟨h0, ⟨rfl, rfl⟩ | ⟨R, ver, off, kc, ex, cells, rfl, h2, h3, h4, h5⟩⟩
  · simp [-getElem?_pos] at hk; subst hk
    exact ⟨anil, rfl, ⟨by simp [-getElem?_pos], .inl ⟨rfl, by simp [-getElem?_pos]⟩⟩, fun p hp => hp⟩
  · have hm : k * esz + (es.length - k) * esz = es.length * esz := by rw [← Nat.add_mul]; congr 1; omega
    refine ⟨.slice R ver (off + k * esz) (es.length - k) (kc - k) ex esz, ?_, ⟨fun e he => h0 e (List.mem_of_mem_drop he), .inr ⟨R, ver, off + k * esz, kc - k, ex, cells, by rw [List.length_drop], h2, by rw [List.length_drop]; omega, by rw [List.length_drop]; omega, ?_⟩⟩, fun p hp R' ver' off' len kcap ex' esz' e => by cases e; exact hp _ _ _ _ _ _ _ rfl⟩
    · simp (disch := omega) [-getElem?_pos, aSliceS, aBoundO, aBound]
    · rw [List.length_drop, ← List.drop_drop, flatten_drop k h0, ← h5, List.drop_take]
      congr 1; omega

/-! ### Walks -/

theorem c61 (h : Fn kn env 61 a61) (n : Nat) (m : Int) : callM kn env (n + 1) (.func (.func 61) []) [vi m] H = some (abool (decide (1 ≤ m ∧ m ≤ 64)), H) := by
  refine Wp.call1 9 [0, 2] h.e (h.no [vi m] H) rfl (by simp [-getElem?_pos]) ?_
  by_cases h1 : 1 ≤ m
  · repeat (first | apply Wp.seq | apply Wp.blk | apply Wp.ret | apply Wp.skip | apply Wp.exit | apply Wp.cT rfl | apply Wp.cF rfl | ((apply Wp.reg; (repeat (apply Ex.cons; (simp (disch := omega) [-getElem?_pos]; rfl))); exact Ex.nil; rfl; (simp [-getElem?_pos]; rfl))) | ((apply Wp.draw; (repeat (first | ((first | apply Dr.q rfl rfl | apply Dr.r rfl rfl); (simp (disch := omega) [-getElem?_pos]; rfl); (simp [-getElem?_pos]; rfl)) | (apply Dr.imm rfl; (simp (disch := omega) [-getElem?_pos]; rfl); (focus first | (simp [-getElem?_pos]; done) | (simp [-getElem?_pos]; omega))))); exact Dr.nil; rfl; (simp (disch := omega) [-getElem?_pos]); (simp [-getElem?_pos]; rfl))))
    simp [-getElem?_pos, a61, h1]
  · repeat (first | apply Wp.seq | apply Wp.blk | apply Wp.ret | apply Wp.skip | apply Wp.exit | apply Wp.cT rfl | apply Wp.cF rfl | ((apply Wp.reg; (repeat (apply Ex.cons; (simp (disch := omega) [-getElem?_pos]; rfl))); exact Ex.nil; rfl; (simp [-getElem?_pos]; rfl))) | ((apply Wp.draw; (repeat (first | ((first | apply Dr.q rfl rfl | apply Dr.r rfl rfl); (simp (disch := omega) [-getElem?_pos]; rfl); (simp [-getElem?_pos]; rfl)) | (apply Dr.imm rfl; (simp (disch := omega) [-getElem?_pos]; rfl); (focus first | (simp [-getElem?_pos]; done) | (simp [-getElem?_pos]; omega))))); exact Dr.nil; rfl; (simp (disch := omega) [-getElem?_pos]); (simp [-getElem?_pos]; rfl))))
    simp [-getElem?_pos, a61, h1]

abbrev zfind : List AVal := [abool false, zi, zi, zb, zb, zb, zb, zb, zb, zb, zb, zb, zb, zb, zb, zb, zb, zb, zb, zb, zb, zb, zb, zb, zb, zb, zb, zb, zb, zb, zb, zb, zb, zb, zb]
abbrev gfind : List AVal := [abool true, vi (-1), vi (-1), zb, zb, zb, zb, zb, zb, zb, zb, zb, zb, zb, zb, zb, zb, zb, zb, zb, zb, zb, zb, zb, zb, zb, zb, zb, zb, zb, zb, zb, zb, zb, zb]

theorem c65 (h : Fn kn env 65 a65) (n : Nat) : ∃ H', callM kn env (n + 1) (.func (.func 65) []) [] H = some (.agg gfind, H') ∧ Grow H H' := by
  obtain ⟨H1, hw, g1, hcl, hn1⟩ := newCells H (z := zfind) (e := gfind) rfl (by simp [-getElem?_pos]) rfl
  have hX := hcl.at
  refine ⟨H1, Wp.call1 2 [0] h.e (h.no [] H) rfl (by simp [-getElem?_pos]) ?_, g1⟩
  repeat (first | apply Wp.seq | apply Wp.blk | apply Wp.ret | apply Wp.skip | apply Wp.exit | apply Wp.cT rfl | apply Wp.cF rfl | ((apply Wp.reg; (repeat (apply Ex.cons; (simp (disch := omega) [-getElem?_pos, aFill, repl, hw, hX]; rfl))); exact Ex.nil; rfl; (simp [-getElem?_pos]; rfl))) | ((apply Wp.draw; (repeat (first | ((first | apply Dr.q rfl rfl | apply Dr.r rfl rfl); (simp (disch := omega) [-getElem?_pos, aFill, repl, hw, hX]; rfl); (simp [-getElem?_pos]; rfl)) | (apply Dr.imm rfl; (simp (disch := omega) [-getElem?_pos, aFill, repl, hw, hX]; rfl); (focus first | (simp [-getElem?_pos]; done) | (simp [-getElem?_pos]; omega))))); exact Dr.nil; rfl; (simp (disch := omega) [-getElem?_pos, aFill, repl, hw, hX]); (simp [-getElem?_pos]; rfl))))
  simp [-getElem?_pos, a65, hX]

theorem c64 (h : Fn kn env 64 a64) (n : Nat) (hr : RowC rc r) {B : Nat} {m : Int} (hB : H.rowAt B 0 = some [vi m]) (hBn : B < H.next) : ∃ H', callM kn env (n + 1) (.func (.func 64) [.ptr B 0 0]) [.agg rc] H = some (abool (badB m r), H') ∧ Grow H H' := by
  have r4 := hr.a4
  have r5 := hr.len
  refine ⟨_, Wp.callC1 13 [0, 1, 2, 3] h.e (h.no [.agg rc, .ptr B 0 0] H) rfl (by simp [-getElem?_pos]) ?_, Grow.push _ (.row [some (0, rc)])⟩
  by_cases h1 : r.blk < 0
  · repeat (first | apply Wp.seq | apply Wp.blk | apply Wp.ret | apply Wp.skip | apply Wp.exit | apply Wp.cT rfl | apply Wp.cF rfl | ((apply Wp.reg; (repeat (apply Ex.cons; (simp (disch := omega) [-getElem?_pos, r4, hB, r5]; rfl))); exact Ex.nil; rfl; (simp [-getElem?_pos]; rfl))) | ((apply Wp.draw; (repeat (first | ((first | apply Dr.q rfl rfl | apply Dr.r rfl rfl); (simp (disch := omega) [-getElem?_pos, r4, hB, r5]; rfl); (simp [-getElem?_pos]; rfl)) | (apply Dr.imm rfl; (simp (disch := omega) [-getElem?_pos, r4, hB, r5]; rfl); (focus first | (simp [-getElem?_pos]; done) | (simp [-getElem?_pos]; omega))))); exact Dr.nil; rfl; (simp (disch := omega) [-getElem?_pos, r4, hB, r5]); (simp [-getElem?_pos]; rfl))))
    simp [-getElem?_pos, a64, h1, badB]
  · repeat (first | apply Wp.seq | apply Wp.blk | apply Wp.ret | apply Wp.skip | apply Wp.exit | apply Wp.cT rfl | apply Wp.cF rfl | ((apply Wp.reg; (repeat (apply Ex.cons; (simp (disch := omega) [-getElem?_pos, r4, hB, r5]; rfl))); exact Ex.nil; rfl; (simp [-getElem?_pos]; rfl))) | ((apply Wp.draw; (repeat (first | ((first | apply Dr.q rfl rfl | apply Dr.r rfl rfl); (simp (disch := omega) [-getElem?_pos, r4, hB, r5]; rfl); (simp [-getElem?_pos]; rfl)) | (apply Dr.imm rfl; (simp (disch := omega) [-getElem?_pos, r4, hB, r5]; rfl); (focus first | (simp [-getElem?_pos]; done) | (simp [-getElem?_pos]; omega))))); exact Dr.nil; rfl; (simp (disch := omega) [-getElem?_pos, r4, hB, r5]); (simp [-getElem?_pos]; rfl))))
    simp [-getElem?_pos, a64, h1, badB]

end Go.Proofs.Ythbjfkkjmecaaaa
namespace Go.Proofs.Ythbjfkkjmecaaaa
open Go Go.Vm
set_option linter.unusedVariables false
set_option linter.unusedSimpArgs false

variable {kn : Known} {env : Nat → Option AFunc}

variable {H H' H1 : AHeap} {N A M : Nat} {v v0 : AVal} {rows l : List RowD} {rcs ocs : List (List AVal)} {rc : List AVal} {r : RowD} {x : TxD} {sv rv wv : AVal}

abbrev zrow : List AVal := [zi, .raw (.int .u64 0), zi, .raw (.int .u64 0), zi, zb, zb, zb, zb, zb, zb, zb, zb, zb, zb, zb, zb, zb, zb, zb, zb, zb, zb, zb, zb, zb, zb, zb, zb, zb, zb, zb, zb, zb, zb, zb, zb, .raw (.int .u64 0), zi, zi, ns]

theorem ownB_le (c : Int) : ∀ l : List RowD, (ownB c l).length ≤ l.length
  | [] => by simp [-getElem?_pos, ownB]
  | r :: l => by
    have := ownB_le c l
    unfold ownB
    split
    · simp [-getElem?_pos]; omega
    · split
      · simp [-getElem?_pos]
      · split <;> simp [-getElem?_pos] <;> omega

set_option maxHeartbeats 1000000 in
theorem c62 (h : Fn kn env 62 a62) (n : Nat) (hrd : RdE H 41 v0 rcs) (hlies : v0.lies (· < H.next)) (hrc : RowsC rcs rows) {k : Nat} (hk : x.begun = (k : Nat)) (hkl : k < rows.length) (hm : rows.length < 400000000000) (hn : rows.length + 5 < n) (h1 : sv.one = true) (h2 : rv.one = true) (h3 : wv.one = true) :
    ∃ v' H' ocs, callM kn env (n + 1) (.func (.func 62) []) [v0, .agg (txc x sv rv wv)] H = some (v', H') ∧ Grow H H' ∧ SliceE H' H.next 41 v' ocs ∧ RowsC ocs (ownD rows x) := by
  obtain ⟨H1, hH1⟩ : ∃ H1, H1 = H.push (.row [some (0, txc x sv rv wv)]) := ⟨_, rfl⟩
  have hl1 := hrc.1
  obtain ⟨v12, hsl, hrd2, hl12⟩ := hrd.from (k := k + 1) (by omega)
  have hsl' : aSliceS 41 v0 (some (vi ((k : Int) + 1))) none none = some v12 := by have := hsl; simpa [-getElem?_pos] using this
  have hlen2 : aLenS v12 = some (vi (rows.length - (k + 1) : Nat)) := by have := hrd2.lenS; rw [List.length_drop, hl1] at this; exact this
  have hc0 : x.begun + 1 = ((k + 1 : Nat) : Int) := by omega
  have hod : ownD rows x = ownB x.client (rows.drop (k + 1)) := by unfold ownD; rw [hc0]; rfl
  have hrc2 := hrc.drop (k + 1)
  have hg1 : Grow H H1 := by rw [hH1]; exact Grow.push _ _
  have hX1 : H1.rowAt H.next 0 = some (txc x sv rv wv) := by rw [hH1]; simp [-getElem?_pos]
  have hn1 : H1.next = H.next + 1 := by rw [hH1]; simp [-getElem?_pos]
  obtain ⟨v', H', hc, hg, ocs, hs, hR⟩ := Wp.call (R := fun v' H' => Grow H H' ∧ ∃ ocs, SliceE H' H.next 41 v' ocs ∧ RowsC ocs (ownB x.client (rows.drop (k + 1)))) 40 [0, 1, 3, 4, 5, 7, 12, 13, 14, 15, 22, 25, 33] h.e (h.no [v0, .agg (txc x sv rv wv)] H) rfl (by simp [-getElem?_pos]) (n := n) (by
    repeat (first | apply Wp.seq | apply Wp.blk | apply Wp.ret | apply Wp.skip | apply Wp.exit | apply Wp.cT rfl | apply Wp.cF rfl | ((apply Wp.reg; (repeat (apply Ex.cons; (simp (disch := omega) [-getElem?_pos, hk, hsl', hlen2, txc]; rfl))); exact Ex.nil; rfl; (simp [-getElem?_pos]; rfl))))
    have hX0 : H.push (.row [some (0, [vi x.client, vu x.life, vu x.ticket, sv, rv, wv, vi k, vi x.asked, vi x.commit, vu x.pos, vi x.done, vi x.fate])]) = H1 := by rw [hH1]; simp only [txc, hk]
    rw [hX0]
    apply Wp.loop (α := Nat × AVal × AHeap) (fun y => [(3, .ptr H.next 0 0), (5, y.2.1), (12, v12), (13, vi (rows.length - (k + 1) : Nat)), (14, vi y.1)]) (·.2.2)
      (fun y => y.1 ≤ rows.length - (k + 1) ∧ Grow H1 y.2.2 ∧ ∃ ocs l, SliceE y.2.2 H1.next 41 y.2.1 ocs ∧ RowsC ocs l ∧ ocs.length ≤ y.1 ∧ l ++ ownB x.client (rows.drop (k + 1 + y.1)) = ownB x.client (rows.drop (k + 1))) (fun y => rows.length - (k + 1) - y.1)
      (0, ns, H1) rfl ⟨by omega, Grow.refl _, [], [], SliceE.nil _ _ _, RowsC.nil, by simp [-getElem?_pos], by simp [-getElem?_pos]⟩ (by simp [-getElem?_pos]; omega) (by simp [-getElem?_pos])
    rintro ⟨j, v5, H2⟩ ⟨hj, hg2, ocs, l, hs, hR, hol, hown⟩
    dsimp only at hj hg2 hs hR hol hown ⊢
    have hgH : Grow H H2 := hg1.trans hg2
    have hend : ∀ (v : AVal) (H2 : AHeap) ocs, Grow H1 H2 → SliceE H2 H1.next 41 v ocs → Grow H H2 ∧ SliceE H2 H.next 41 v ocs := fun v H2 ocs hg hs => ⟨hg1.trans hg, hs.move (by omega) (Nat.le_refl _) fun _ _ _ => rfl⟩
    (repeat (first | apply Wp.seq | apply Wp.blk)); (apply Wp.reg; (repeat (apply Ex.cons; (simp (disch := omega) [-getElem?_pos]; rfl))); exact Ex.nil; rfl; (simp [-getElem?_pos]; rfl))
    (repeat (first | apply Wp.seq | apply Wp.blk)); apply Wp.ite rfl
    · intro hjl
      obtain ⟨r, hr⟩ : ∃ r, rows[k + 1 + j]? = some r := ⟨_, List.getElem?_eq_getElem (by omega)⟩
      obtain ⟨rc, hrc'⟩ : ∃ rc, rcs[k + 1 + j]? = some rc := ⟨_, List.getElem?_eq_getElem (by omega)⟩
      have hRC := hrc.2 _ rc r hrc' hr
      obtain ⟨R0, ver0, off, kc, ex, cells, hv12, hrow, hc1, hc2⟩ := hrd2.at (i := j) (e := rc) (by rw [List.getElem?_drop]; exact hrc')
      rw [List.length_drop, hl1] at hv12
      have hR0 : R0 < H.next := hl12 _ hlies _ _ _ _ _ _ _ hv12
      have hrow2 : H2.rowAt R0 ver0 = some cells := by rw [hgH.rowAt hR0]; exact hrow
      have r5 := hRC.len
      have r0 := hRC.a0
      have r2 := hRC.a2
      have rt : rc.take 41 = rc := List.take_of_length_le (by omega)
      rw [drop_at hr] at hown
      obtain ⟨H3, hw1, g3, hcl, hn3⟩ := newCells H2 (z := zrow) (e := rc) r5 (by omega) hRC.one
      have hX := hcl.at
      have hX3 : H3.rowAt H.next 0 = some (txc x sv rv wv) := by rw [(hg2.trans g3).rowAt (by omega)]; exact hX1
      have hs3 : SliceE H3 H1.next 41 v5 ocs := hs.move (Nat.le_refl _) g3.next fun A _ hA => g3.get A hA
      have hg3 : Grow H1 H3 := hg2.trans g3
      apply Wp.skip
      by_cases q1 : r.actor = x.client
      · by_cases q2 : r.kind = 2
        · have hown' : l = ownB x.client (rows.drop (k + 1)) := by rw [← hown]; simp [-getElem?_pos, ownB, q1, q2]
          obtain ⟨e1, e2⟩ := hend v5 H3 ocs hg3 hs3
          repeat (first | apply Wp.seq | apply Wp.blk | apply Wp.ret | apply Wp.skip | apply Wp.exit | apply Wp.cT rfl | apply Wp.cF rfl | ((apply Wp.reg; (repeat (apply Ex.cons; (simp (disch := omega) [-getElem?_pos, hv12, hrow2, hc2, r5, rt, hw1, hX, hX3, r0, r2, txc, q1, q2]; rfl))); exact Ex.nil; rfl; (simp [-getElem?_pos]; rfl))))
          simp [-getElem?_pos, a62]
          exact ⟨e1, ocs, e2, by rw [← hown']; exact hR⟩
        · by_cases q3 : r.kind = 5 ∨ r.kind = 6
          · have hown' : (l ++ [r]) ++ ownB x.client (rows.drop (k + 1 + (j + 1))) = ownB x.client (rows.drop (k + 1)) := by rw [← hown]; simp [-getElem?_pos, ownB, q1, q2, q3]; rfl
            obtain ⟨v', H', ha, hs', hn', hk', _⟩ := (hs3.move (Nat.le_refl _) (Nat.le_succ _) (H' := H3.push (.row [some (0, rc)])) fun A _ hA => AHeap.get_push_ne _ _ (by omega)).append (bytes := 120) (by have := hg3.next; simp [-getElem?_pos]; omega) (X := H3.next) (e := rc) (by simp [-getElem?_pos]) r5 (by omega) (by omega) hRC.one (by omega) (ex := true) (kc := 1)
            have hfin : ∃ ocs l, SliceE H' H1.next 41 v' ocs ∧ RowsC ocs l ∧ ocs.length ≤ j + 1 ∧ l ++ ownB x.client (rows.drop (k + 1 + (j + 1))) = ownB x.client (rows.drop (k + 1)) := ⟨ocs ++ [rc], l ++ [r], hs', hR.push hRC, by simp [-getElem?_pos]; omega, hown'⟩
            have hgf : Grow H1 H' := ⟨by have := hg3.next; simp [-getElem?_pos] at hn'; omega, fun A hA => by have := hg3.next; rw [hk' A hA, AHeap.get_push_ne _ _ (by omega), hg3.get A hA]⟩
            rcases q3 with q3 | q3
            · repeat (first | apply Wp.seq | apply Wp.blk | apply Wp.ret | apply Wp.skip | apply Wp.exit | apply Wp.cT rfl | apply Wp.cF rfl | ((apply Wp.reg; (repeat (apply Ex.cons; (simp (disch := omega) [-getElem?_pos, hv12, hrow2, hc2, r5, rt, hw1, hX, hX3, r0, r2, txc, q1, q3, ha, aFill, repl]; rfl))); exact Ex.nil; rfl; (simp [-getElem?_pos]; rfl))))
              exact ⟨(j + 1, v', H'), rfl, ⟨by show j + 1 ≤ _; omega, hgf, hfin⟩, by show _ - (j + 1) < _ - j; omega, by simp [-getElem?_pos, hv12]⟩
            · repeat (first | apply Wp.seq | apply Wp.blk | apply Wp.ret | apply Wp.skip | apply Wp.exit | apply Wp.cT rfl | apply Wp.cF rfl | ((apply Wp.reg; (repeat (apply Ex.cons; (simp (disch := omega) [-getElem?_pos, hv12, hrow2, hc2, r5, rt, hw1, hX, hX3, r0, r2, txc, q1, q3, ha, aFill, repl]; rfl))); exact Ex.nil; rfl; (simp [-getElem?_pos]; rfl))))
              exact ⟨(j + 1, v', H'), rfl, ⟨by show j + 1 ≤ _; omega, hgf, hfin⟩, by show _ - (j + 1) < _ - j; omega, by simp [-getElem?_pos, hv12]⟩
          · have hown' : l ++ ownB x.client (rows.drop (k + 1 + (j + 1))) = ownB x.client (rows.drop (k + 1)) := by rw [← hown]; simp [-getElem?_pos, ownB, q1, q2, q3]; rfl
            have q4 : r.kind ≠ 5 := fun q => q3 (.inl q)
            have q5 : r.kind ≠ 6 := fun q => q3 (.inr q)
            repeat (first | apply Wp.seq | apply Wp.blk | apply Wp.ret | apply Wp.skip | apply Wp.exit | apply Wp.cT rfl | apply Wp.cF rfl | ((apply Wp.reg; (repeat (apply Ex.cons; (simp (disch := omega) [-getElem?_pos, hv12, hrow2, hc2, r5, rt, hw1, hX, hX3, r0, r2, txc, q1, q4, q5]; rfl))); exact Ex.nil; rfl; (simp [-getElem?_pos]; rfl))))
            exact ⟨(j + 1, v5, H3), rfl, ⟨by show j + 1 ≤ _; omega, hg3, ocs, l, hs3, hR, by show _ ≤ j + 1; omega, hown'⟩, by show _ - (j + 1) < _ - j; omega, by simp [-getElem?_pos, hv12]⟩
      · have hown' : l ++ ownB x.client (rows.drop (k + 1 + (j + 1))) = ownB x.client (rows.drop (k + 1)) := by rw [← hown]; simp [-getElem?_pos, ownB, q1]; rfl
        repeat (first | apply Wp.seq | apply Wp.blk | apply Wp.ret | apply Wp.skip | apply Wp.exit | apply Wp.cT rfl | apply Wp.cF rfl | ((apply Wp.reg; (repeat (apply Ex.cons; (simp (disch := omega) [-getElem?_pos, hv12, hrow2, hc2, r5, rt, hw1, hX, hX3, r0, r2, txc, q1]; rfl))); exact Ex.nil; rfl; (simp [-getElem?_pos]; rfl))))
        exact ⟨(j + 1, v5, H3), rfl, ⟨by show j + 1 ≤ _; omega, hg3, ocs, l, hs3, hR, by show _ ≤ j + 1; omega, hown'⟩, by show _ - (j + 1) < _ - j; omega, by simp [-getElem?_pos, hv12]⟩
    · intro hjl
      apply Wp.exit
      have hown' : l = ownB x.client (rows.drop (k + 1)) := by rw [← hown, List.drop_of_length_le (by omega)]; simp [-getElem?_pos, ownB]
      obtain ⟨e1, e2⟩ := hend v5 H2 ocs hg2 hs
      repeat (first | apply Wp.seq | apply Wp.blk | apply Wp.ret | apply Wp.skip | apply Wp.exit | apply Wp.cT rfl | apply Wp.cF rfl | ((apply Wp.reg; (repeat (apply Ex.cons; (simp (disch := omega) [-getElem?_pos]; rfl))); exact Ex.nil; rfl; (simp [-getElem?_pos]; rfl))))
      simp [-getElem?_pos, a62]
      exact ⟨e1, ocs, e2, by rw [← hown']; exact hR⟩)
  exact ⟨v', H', ocs, hc, hg, hs, by rw [hod]; exact hR⟩

end Go.Proofs.Ythbjfkkjmecaaaa
namespace Go.Proofs.Ythbjfkkjmecaaaa
open Go Go.Vm
set_option linter.unusedVariables false
set_option linter.unusedSimpArgs false

variable {kn : Known} {env : Nat → Option AFunc}

variable {H H' H1 : AHeap} {N A B M : Nat} {v v0 : AVal} {rows l : List RowD} {rcs ocs : List (List AVal)} {rc : List AVal} {r : RowD} {x : TxD} {sv rv wv : AVal} {m : Int}

theorem c84 (h : Fn kn env 84 a84) (h64 : Fn kn env 64 a64) (n : Nat) (hs : RdE H 41 v ocs) (hl : v.lies (· < H.next)) (hR : RowsC ocs l) (hB : H.rowAt B 0 = some [vi m]) (hBn : B < H.next) (hm : l.length < 400000000000) (hn : l.length + 5 < n) :
    ∃ (z : Int) (H' : AHeap), callM kn env (n + 2) (.func (.func 84) []) [v, .func (.func 64) [.ptr B 0 0]] H = some (vi z, H') ∧ Grow H H' ∧ decide (0 ≤ z) = l.any (badB m) := by
  have hl1 := hR.1
  have hlen : aLenS v = some (vi l.length) := by rw [← hl1]; exact hs.lenS
  obtain ⟨v', H', hc, z, rfl, hg, hz⟩ := Wp.call (R := fun v' H' => ∃ z : Int, v' = vi z ∧ Grow H H' ∧ decide (0 ≤ z) = l.any (badB m)) 19 [0, 1, 4, 5, 7, 8, 9, 16] h.e (h.no [v, .func (.func 64) [.ptr B 0 0]] H) rfl (by simp [-getElem?_pos]) (n := n + 1) (by
    repeat (first | apply Wp.seq | apply Wp.blk | apply Wp.ret | apply Wp.skip | apply Wp.exit | apply Wp.cT rfl | apply Wp.cF rfl | ((apply Wp.reg; (repeat (apply Ex.cons; (simp (disch := omega) [-getElem?_pos, hlen]; rfl))); exact Ex.nil; rfl; (simp [-getElem?_pos]; rfl))))
    apply Wp.loop (α := Nat × AHeap) (fun y => [(0, v), (1, .func (.func 64) [.ptr B 0 0]), (7, vi l.length), (8, vi y.1)]) (·.2) (fun y => y.1 ≤ l.length ∧ Grow H y.2 ∧ ∀ i r, i < y.1 → l[i]? = some r → badB m r = false) (fun y => l.length - y.1) (0, H) rfl ⟨by omega, Grow.refl _, fun i r hi => by omega⟩ (by simp [-getElem?_pos]; omega) (by simp [-getElem?_pos])
    rintro ⟨j, H2⟩ ⟨hj, hg, hno⟩
    dsimp only at hj hg hno ⊢
    (repeat (first | apply Wp.seq | apply Wp.blk)); (apply Wp.reg; (repeat (apply Ex.cons; (simp (disch := omega) [-getElem?_pos]; rfl))); exact Ex.nil; rfl; (simp [-getElem?_pos]; rfl))
    (repeat (first | apply Wp.seq | apply Wp.blk)); apply Wp.ite rfl
    · intro hjl
      obtain ⟨r, hr⟩ : ∃ r, l[j]? = some r := ⟨_, List.getElem?_eq_getElem (by omega)⟩
      obtain ⟨rc, hrc⟩ : ∃ rc, ocs[j]? = some rc := ⟨_, List.getElem?_eq_getElem (by omega)⟩
      have hRC := hR.2 _ rc r hrc hr
      obtain ⟨R0, ver0, off, kc, ex, cells, hv, hrow, hc1, hc2⟩ := hs.at hrc
      rw [hl1] at hv
      have hrow2 : H2.rowAt R0 ver0 = some cells := by rw [hg.rowAt (hl _ _ _ _ _ _ _ hv)]; exact hrow
      obtain ⟨H3, hb, hg3⟩ := c64 h64 n hRC (H := H2) (B := B) (m := m) (by rw [hg.rowAt hBn]; exact hB) (by have := hg.next; omega)
      apply Wp.skip
      cases hbad : badB m r with
      | true =>
        rw [hbad] at hb
        repeat (first | apply Wp.seq | apply Wp.blk | apply Wp.ret | apply Wp.skip | apply Wp.exit | apply Wp.cT rfl | apply Wp.cF rfl | ((apply Wp.reg; (repeat (apply Ex.cons; (simp (disch := omega) [-getElem?_pos, hv, hrow2, hc2, hb]; rfl))); exact Ex.nil; rfl; (simp [-getElem?_pos]; rfl))))
        simp [-getElem?_pos, a84]
        exact ⟨hg.trans hg3, r, List.mem_of_getElem? hr, hbad⟩
      | false =>
        rw [hbad] at hb
        repeat (first | apply Wp.seq | apply Wp.blk | apply Wp.ret | apply Wp.skip | apply Wp.exit | apply Wp.cT rfl | apply Wp.cF rfl | ((apply Wp.reg; (repeat (apply Ex.cons; (simp (disch := omega) [-getElem?_pos, hv, hrow2, hc2, hb]; rfl))); exact Ex.nil; rfl; (simp [-getElem?_pos]; rfl))))
        exact ⟨(j + 1, H3), rfl, ⟨by show j + 1 ≤ _; omega, hg.trans hg3, fun i q hi hq => by
          by_cases e : i = j
          · subst e; rw [hr] at hq; cases hq; exact hbad
          · exact hno i q (by show i < j; have : i < j + 1 := hi; omega) hq⟩, by show _ - (j + 1) < _ - j; omega, by simp [-getElem?_pos, hv]⟩
    · intro hjl
      apply Wp.exit
      repeat (first | apply Wp.seq | apply Wp.blk | apply Wp.ret | apply Wp.skip | apply Wp.exit | apply Wp.cT rfl | apply Wp.cF rfl | ((apply Wp.reg; (repeat (apply Ex.cons; (simp (disch := omega) [-getElem?_pos]; rfl))); exact Ex.nil; rfl; (simp [-getElem?_pos]; rfl))))
      simp [-getElem?_pos, a84]
      refine ⟨hg, fun r hr => ?_⟩
      obtain ⟨i, hi, he⟩ := List.getElem_of_mem hr
      exact hno i r (by omega) (by rw [List.getElem?_eq_getElem hi, he]))
  exact ⟨z, H', hc, hg, hz⟩

theorem c63 (h : Fn kn env 63 a63) (h84 : Fn kn env 84 a84) (h64 : Fn kn env 64 a64) (n : Nat) (hs : RdE H 41 v ocs) (hl : v.lies (· < H.next)) (hR : RowsC ocs l) (hB : H.rowAt B 0 = some [vi m]) (hBn : B < H.next) (hm : l.length < 400000000000) (hn : l.length + 5 < n) :
    ∃ H', callM kn env (n + 3) (.func (.func 63) []) [v, .func (.func 64) [.ptr B 0 0]] H = some (abool (l.any (badB m)), H') ∧ Grow H H' := by
  obtain ⟨z, H1, hc, hg, hz⟩ := c84 h84 h64 n hs hl hR hB hBn hm hn
  rw [← hz]
  refine ⟨H1, Wp.call1 9 [0, 1, 4] h.e (h.no [v, .func (.func 64) [.ptr B 0 0]] H) rfl (by simp [-getElem?_pos]) ?_, hg⟩
  repeat (first | apply Wp.seq | apply Wp.blk | apply Wp.ret | apply Wp.skip | apply Wp.exit | apply Wp.cT rfl | apply Wp.cF rfl | ((apply Wp.reg; (repeat (apply Ex.cons; (simp (disch := omega) [-getElem?_pos, hc]; rfl))); exact Ex.nil; rfl; (simp [-getElem?_pos]; rfl))))
  simp [-getElem?_pos, a63]

theorem c66 (h : Fn kn env 66 a66) (n : Nat) {es : List (List AVal)} (hv : RdE H 32 v es) (hvl : v.lies (· < H.next)) (h0 : es ≠ []) (hone : ∀ e ∈ es, e.all AVal.one = true) (hl : es.length * 32 ≤ 140737488355328) :
    ∃ v' H', callM kn env (n + 1) (.func (.func 66) []) [v] H = some (v', H') ∧ Grow H H' ∧ SliceE H' H.next 32 v' es := by
  rcases id hv with ⟨_, ⟨rfl, h1⟩ | ⟨R, ver, off, kcap, ex, cells, rfl, h2⟩⟩
  · exact absurd h1 h0
  · have hg := Grow.push H (.row [some (0, [])])
    have hv1 := hv.grow hg hvl
    obtain ⟨ha, hs⟩ := hv1.appendNew (bytes := 32) (X := H.next) h0 (by omega) (by omega) hone hl (by simp [-getElem?_pos])
    refine ⟨_, _, Wp.call1 8 [0, 2, 4] h.e (h.no _ _) rfl (by simp [-getElem?_pos]) ?_, hg.trans (Grow.push _ _), hs.move (by simp [-getElem?_pos]) (Nat.le_refl _) fun _ _ _ => rfl⟩
    repeat (first | apply Wp.seq | apply Wp.blk | apply Wp.ret | apply Wp.skip | apply Wp.exit | apply Wp.cT rfl | apply Wp.cF rfl | ((apply Wp.reg; (repeat (apply Ex.cons; (simp (disch := omega) [-getElem?_pos, aEqP, ha, aFill, repl]; rfl))); exact Ex.nil; rfl; (simp [-getElem?_pos]; rfl))))
    simp [-getElem?_pos, a66]

end Go.Proofs.Ythbjfkkjmecaaaa
namespace Go.Proofs.Ythbjfkkjmecaaaa
open Go Go.Vm
set_option linter.unusedVariables false
set_option linter.unusedSimpArgs false

variable {kn : Known} {env : Nat → Option AFunc}

variable {H H' H1 : AHeap} {N A B M : Nat} {v v0 : AVal} {rows l : List RowD} {rcs ocs : List (List AVal)} {rc : List AVal} {r : RowD} {x : TxD} {sv rv wv : AVal} {m : Int}

structure FindD where
  good : Bool
  tx : Int
  read : Int
  want : List AVal
def FindD.cells (f : FindD) : List AVal := abool f.good :: vi f.tx :: vi f.read :: f.want

def goodF : FindD := ⟨true, -1, -1, zeroV⟩
def zeroF : FindD := ⟨false, 0, 0, zeroV⟩

abbrev MapD := List (List AVal)
def atM (m : MapD) (b : Int) : List AVal := (m[b.toNat]?).getD zeroV

open Classical in
noncomputable def doRow (place : Int) (st : FindD × MapD × Nat) (r : RowD) : FindD × MapD × Nat :=
  if r.kind = 6 then (st.1, st.2.1.set r.blk.toNat r.val, st.2.2)
  else (if st.1.good = true ∧ atM st.2.1 r.blk ≠ r.val then ⟨false, place, st.2.2, atM st.2.1 r.blk⟩ else st.1, st.2.1, st.2.2 + 1)

def ownAt (rows : List RowD) (txs : List TxD) (p : Int) : List RowD := match txs[p.toNat]? with
  | some x => ownD rows x
  | none => []

noncomputable def doTx (rows : List RowD) (txs : List TxD) (st : FindD × MapD) (p : Int) : FindD × MapD :=
  let z := (ownAt rows txs p).foldl (doRow p) (st.1, st.2, 0)
  (z.1, z.2.1)

/-- May this place be done? -/
def okP (rows : List RowD) (m : Int) (txs : List TxD) (p : Int) : Prop := 0 ≤ p ∧ p < txs.length ∧ (ownAt rows txs p).any (badB m) = false
def okO (rows : List RowD) (m : Int) (txs : List TxD) (ps : List Int) : Prop := ps.Nodup ∧ ∀ p ∈ ps, okP rows m txs p

abbrev zeroM : MapD := List.replicate 64 zeroV

open Classical in
/-- What By tells. -/
noncomputable def byD (rows : List RowD) (m : Int) (order : List Int) : Except Int (FindD × MapD) :=
  if ¬ (1 ≤ m ∧ m ≤ 64) then .error 2 else match txsD rows with
  | none => .error 230
  | some txs => if okO rows m txs order then let z := order.foldl (doTx rows txs) (goodF, zeroM); .ok (z.1, z.2.take m.toNat) else .error 230

def ByRes (H' : AHeap) (N : Nat) (t : Except Int (FindD × MapD)) (v : AVal) : Prop := match t with
  | .ok (f, mm) => ∃ mv, v = .tuple [.agg f.cells, mv, vi 0] ∧ SliceE H' N 32 mv mm ∧ IsVal f.want ∧ ∀ e ∈ mm, IsVal e
  | .error c => v = .tuple [.agg zeroF.cells, anil, vi c]

/-! ### Maps of values -/

structure IsMap (m : MapD) : Prop where
  len : m.length = 64
  val : ∀ v ∈ m, IsVal v
theorem zeroM_is : IsMap zeroM := ⟨by simp [-getElem?_pos], fun v hv => by rw [(List.mem_replicate.1 hv).2]; exact zeroV_is⟩
theorem IsMap.set {mm : MapD} (h : IsMap mm) {k : Nat} {u : List AVal} (hu : IsVal u) : IsMap (mm.set k u) := ⟨by rw [List.length_set]; exact h.len, fun v hv => by
  rcases List.mem_or_eq_of_mem_set hv with hv | rfl
  · exact h.val v hv
  · exact hu⟩
theorem IsMap.at {mm : MapD} (h : IsMap mm) {b : Int} (h0 : 0 ≤ b) (h1 : b < 64) : mm[b.toNat]? = some (atM mm b) ∧ IsVal (atM mm b) := by
  have hl := h.len
  have : mm[b.toNat]? = some (mm[b.toNat]'(by omega)) := List.getElem?_eq_getElem (by omega)
  unfold atM
  rw [this]
  exact ⟨rfl, h.val _ (List.getElem_mem _)⟩

/-! ### The map of own rows -/

structure OwnOk (H : AHeap) (N : Nat) (rows : List RowD) (m : Int) (txs : List TxD) (es : AEntries) (ps : List Int) : Prop where
  len : es.length = ps.length
  key : es.map (·.1) = ps.map vi
  nodup : ps.Nodup
  ok : ∀ p ∈ ps, okP rows m txs p
  rows_ : ∀ (i : Nat) (e : AVal × AVal × Nat) (p : Int), es[i]? = some e → ps[i]? = some p → ∃ ocs, SliceE H N 41 e.2.1 ocs ∧ RowsC ocs (ownAt rows txs p)

theorem OwnOk.nil {txs : List TxD} : OwnOk H N rows m txs [] [] := ⟨rfl, rfl, List.nodup_nil, by simp [-getElem?_pos], fun i e p h => by simp [-getElem?_pos] at h⟩

variable {txs : List TxD} {es : AEntries} {ps : List Int}

theorem nodup_vi (h : ps.Nodup) : (ps.map vi).Nodup := by
  exact List.pairwise_map.2 (h.imp fun hne e => hne (by simpa [-getElem?_pos] using e))

theorem OwnOk.ints (h : OwnOk H N rows m txs es ps) : ∀ e ∈ es, ∃ n, e.1 = vi n := fun e he => by
  have : e.1 ∈ es.map (·.1) := List.mem_map_of_mem (f := fun e : AVal × AVal × Nat => e.1) he
  rw [h.key] at this
  obtain ⟨p, _, hp⟩ := List.mem_map.1 this
  exact ⟨p, hp.symm⟩

theorem OwnOk.find (h : OwnOk H N rows m txs es ps) {i : Nat} {p : Int} (hp : ps[i]? = some p) : ∃ w b ocs, es[i]? = some (vi p, w, b) ∧ aFind .i64 p es 0 = some (some (i, w, b)) ∧ SliceE H N 41 w ocs ∧ RowsC ocs (ownAt rows txs p) := by
  have hi := (List.getElem?_eq_some_iff.1 hp).1
  have hl := h.len
  obtain ⟨⟨k, w, b⟩, he⟩ : ∃ e, es[i]? = some e := ⟨_, List.getElem?_eq_getElem (by omega)⟩
  have hk : k = vi p := by
    have : (es.map (·.1))[i]? = some k := by rw [List.getElem?_map, he]; rfl
    rw [h.key, List.getElem?_map, hp] at this
    simpa [-getElem?_pos] using this.symm
  subst hk
  obtain ⟨ocs, h1, h2⟩ := h.rows_ i _ p he hp
  refine ⟨w, b, ocs, he, ?_, h1, h2⟩
  have := find_at (i := 0) h.ints (by rw [h.key]; exact nodup_vi h.nodup) he
  rw [Nat.zero_add] at this
  exact this

theorem OwnOk.findNo (h : OwnOk H N rows m txs es ps) {p : Int} (hp : p ∉ ps) : aFind .i64 p es 0 = some none := find_no fun e he => by
  have : e.1 ∈ es.map (·.1) := List.mem_map_of_mem (f := fun e : AVal × AVal × Nat => e.1) he
  rw [h.key] at this
  obtain ⟨q, hq, e1⟩ := List.mem_map.1 this
  exact ⟨q, e1.symm, fun e2 => hp (by rw [← e2]; exact hq)⟩

theorem OwnOk.push (h : OwnOk H N rows m txs es ps) {p : Int} {w : AVal} {clock : Nat} (hno : p ∉ ps) (hok : okP rows m txs p) (hs : SliceE H N 41 w ocs) (hR : RowsC ocs (ownAt rows txs p)) : OwnOk H N rows m txs (es ++ [(vi p, w, clock)]) (ps ++ [p]) := by
  have hl := h.len
  refine ⟨by simp [-getElem?_pos, hl], by simp [-getElem?_pos, h.key], List.nodup_append.2 ⟨h.nodup, by simp [-getElem?_pos], fun a ha b hb => by simp [-getElem?_pos] at hb; subst hb; exact fun e => hno (by rw [← e]; exact ha)⟩, fun q hq => ?_, fun i e q h1 h2 => ?_⟩
  · rcases List.mem_append.1 hq with hq | hq
    · exact h.ok q hq
    · simp [-getElem?_pos] at hq; subst hq; exact hok
  · rcases Nat.lt_or_ge i ps.length with hi | hi
    · rw [List.getElem?_append_left (by omega)] at h1 h2
      exact h.rows_ i e q h1 h2
    · have hi2 := (List.getElem?_eq_some_iff.1 h2).1
      simp [-getElem?_pos] at hi2
      have : i = ps.length := by omega
      subst this
      rw [List.getElem?_concat_length] at h2
      rw [← hl, List.getElem?_concat_length] at h1
      cases h1; cases h2
      exact ⟨ocs, hs, hR⟩

theorem OwnOk.move (h : OwnOk H N rows m txs es ps) (hn : H.next ≤ H'.next) (hg : ∀ A, N ≤ A → A < H.next → H'.get A = H.get A) : OwnOk H' N rows m txs es ps := ⟨h.len, h.key, h.nodup, h.ok, fun i e p h1 h2 => by
  obtain ⟨ocs, a, b⟩ := h.rows_ i e p h1 h2
  exact ⟨ocs, a.move (Nat.le_refl _) hn hg, b⟩⟩

end Go.Proofs.Ythbjfkkjmecaaaa
