/- BoundPremise answers true (the tied card): of any configuration and any programs the premise is the document's, and the programs stay. Conditions: none beyond the card's own (what the two listed package-level variables hold when the call begins). -/
import Derived.Test.YtipmhhogebnpkaaGreatDoorRows
import Derived.Test.YtipmhhogebnpkaaGreatDoorCards
import Derived.Test.YtipmhhogebnpkaaGreatDoorTie
import Derived.Test.YtipmhhogebnpkaaGreatDoorP16
import Derived.Test.YtipmhhogebnpkaaGreatDoorP48
import Derived.Test.YtipmhhogebnpkaaGreatDoorP49
import Derived.SevenTiedAt
import Derived.SizedLaws
import Derived.WideKeyArgs
namespace Go.Proofs.YtipmhhogebnpkaaGreatDoor.boundPremise
open Go.ChangeShapes Go.WideShapes Go.ChangeAt Go.RowKit Go.Vm
set_option linter.unusedVariables false

theorem own : ownKnob Tryz.prog.godebug = none := by kernel_rfl

theorem plain26 : Tryz.prog.wantsStandIn 26 = false := by kernel_rfl
theorem plain27 : Tryz.prog.wantsStandIn 27 = false := by kernel_rfl
theorem laidOut : laidOutB Tryz.prog = true := j5
theorem readable26 : Tryz.prog.readableRec 26 = true := by kernel_rfl
theorem readable27 : Tryz.prog.readableRec 27 = true := by kernel_rfl
theorem row26 : 26 < Tryz.prog.types.size := of_decide_eq_true (by kernel_rfl)
theorem row27 : 27 < Tryz.prog.types.size := of_decide_eq_true (by kernel_rfl)
theorem cells26 : Tryz.prog.cellsOf 26 = 5 := by kernel_rfl

theorem same_place {W W' : World} (h : ∀ c, c < W.heap.size → W'.heap[c]? = W.heap[c]?) (p : MemPlace) (hp : p.block < W.heap.size) : W.sameAt W' p := by
  cases p with
  | cell b off =>
    have := h b hp
    show W'.cell? ⟨b, off, none⟩ = W.cell? ⟨b, off, none⟩
    unfold World.cell?
    simp only [this]
  | map b => exact h b hp

theorem weights_two {X : Type} {P : Program} {t0 t1 : TypeId} {x0 x1 : DataW X} (h : (DataW.weightsEach P [t0, t1] [x0, x1]).all (· ≤ reachBytes) = true) : ∀ w ∈ x1.weights P t1, w ≤ reachBytes := fun w hw => by
  have := List.all_eq_true.1 h w (by
    simp only [DataW.weightsEach]
    exact List.mem_append_right _ (List.mem_append_left _ hw))
  exact of_decide_eq_true this

set_option maxRecDepth 100000 in
theorem lifted (os : Os) (started : os.Started) (H : Type) (enc : TypeId × Value → H) :
    ReturnsInHanded {} Tryz.checked os 4 .any (fun w args => (Rows.boundPremiseSpec.pre enc Tryz.prog Tryz.f4 [] false w args ∧ laidMetH Tryz.prog laidTwo w) ∧ sizedMet enc Tryz.prog Tryz.f4 (OpenSpec.ofChange Rows.boundPremiseSpec) false w args)
      (Rows.boundPremiseSpec.post enc Tryz.prog Tryz.f4 false true false false) := by
  refine returnsInHanded_of_change_and (C := Tryz.checked) (X := fun w _ => laidMetH Tryz.prog laidTwo w) (fun _ _ _ hh h => h.of_heap hh) own started (by kernel_rfl) Tryz.func4
    (ChangeSpec.witness_shaped (enc := enc) (C := Tryz.checked) (os := os) (X := fun w _ => laidMetH Tryz.prog laidTwo w) false (World.doorLaid Tryz.prog 400 os) #[.agg #[.int .i64 0, .int .i64 0, .int .i64 0, .int .i64 0, .int .i64 0], .slice none 0 0] 8 rfl (World.shaped_of_RefB (by kernel_rfl) (by kernel_rfl)) (by kernel_rfl) (by kernel_rfl) (by kernel_rfl) (door_met os _)) ?_
  intro W base args ds gs before hval0 hW _ hwt hL _
  have hval : ∀ (j : Nat) t v, Tryz.f4.params[j]? = some t → args[j]? = some v → Value.okWide Tryz.prog W .any base t v := hval0
  have hlt := hW.lt
  have hW' := hW
  obtain ⟨p, q, hA0, hV, rfl, hfz, hnd⟩ := hW
  have hA : DataW.TrodAll enc Tryz.prog W 0 (fun _ => true) true Tryz.f4.params.toList args.toList ds p := hA0
  have hwt' : (DataW.weightsEach Tryz.prog (Tryz.f4.params.toList ++ []) (ds ++ gs)).all (· ≤ reachBytes) = true := hwt
  rw [Tryz.params4] at hA hval hwt'
  obtain ⟨v0, vs0, d0, ds0, p0, q0, hargs, rfl, rfl, h0, r0⟩ := trodAll_cons hA
  obtain ⟨v1, vs1, d1, ds1, p1, q1, rfl, rfl, rfl, h1, r1⟩ := trodAll_cons r0
  obtain ⟨rfl, rfl, rfl⟩ := trodAll_nil r1
  obtain rfl : args = #[v0, v1] := by cases args; simp_all
  obtain ⟨rfl, rfl⟩ := trodVars_none hV
  obtain ⟨b, c, m, d, e, rfl⟩ := open_cfg Tryz.underlying26 cells26 rfl rfl rfl rfl rfl Tryz.underlying3 Tryz.underlying3 Tryz.underlying3 Tryz.underlying3 Tryz.underlying3 cells3 cells3 cells3 cells3 cells3 h0 (hval 0 26 v0 rfl rfl)
  have hop := open_arg Tryz.underlying27 tiles27 h1 (hval 1 27 v1 rfl rfl)
  have hw : ∀ w ∈ d1.weights Tryz.prog 27, w ≤ reachBytes := weights_two hwt'
  have hgl := held_of_laid hL
  clear hA0 hval0 hwt hwt'
  refine (premise_true b c m d e v1 d1 W hgl hop hw).mono fun e W' ⟨he, hg, hsame⟩ => ?_
  subst he
  exact ⟨_, rfl, post_same (pa := p0 ++ (p1 ++ [])) (pv := []) hW' (fun _ _ _ => (trodAll_cons_mk (shut_bool Tryz.underlying4 _) trodAll_mk0))
    (fun sp hsp => (trodAll_cons_mk (Go.WideElems.Trod_stays laidOut readable26 row26 h0 (fun p hp => same_place hsame p (hlt p (by simp [hp]))) (fun p hp => hsp p (by simp [hp]))) (trodAll_cons_mk (Go.WideElems.Trod_stays laidOut readable27 row27 h1 (fun p hp => same_place hsame p (hlt p (by simp [hp]))) (fun p hp => hsp p (by simp [hp]))) trodAll_mk0))) (fun _ _ => rfl) rfl
    (hg.frame _) hg.fz (ok_one (by kernel_rfl) rfl (okWide_bool_mk Tryz.underlying4 _))⟩

theorem over : Rows.BoundPremiseSaid :=
  OpenClaim.holds_of_wide 4 Tryz.f4 rfl rfl rfl rfl rfl rfl rfl ⟨rfl, rfl, rfl, rfl, rfl⟩ rfl rfl rfl rfl rfl named Tryz.func4 closed
    (of_decide_eq_true (by as_aux_lemma => kernel_rfl)) (by unfold Func.isWrapper; first | (rw [if_pos (by decide +kernel)]; kernel_rfl) | (rw [if_neg (by decide +kernel)]; exact ⟨rfl, rfl⟩))
    (fun os started H enc _ => lifted os started H enc)

/-- ████ THE TIED CARD ████ -/
theorem proved : Rows.BoundPremiseCardSaid :=
  Claim7.holds_tied_plain_at .later [] [.data, .data] true (true, "d554e1b09ab8a76eba9b579d4e0ed7be27fcfe8d1bef4a7eeeb1b60c364d374d") true
    over (fun _ h => by cases h) (by as_aux_lemma => kernel_rfl) (fun _ h => by cases h) boundPremise_row_tie rfl ⟨rfl, rfl⟩ (by as_aux_lemma => kernel_rfl) rfl
    (fun f fn hf hfn => by
      obtain rfl : f = 4 := Option.some.inj (named.symm.trans hf) |>.symm
      obtain rfl : fn = Tryz.f4 := (Option.some.inj (Tryz.func4.symm.trans hfn)).symm
      exact ⟨by as_aux_lemma => kernel_rfl, fun j t ht => by
        rw [Tryz.params4] at ht
        have hm := Array.mem_of_getElem? ht
        simp at hm
        rcases hm with rfl | rfl
        · exact plain26
        · exact plain27⟩)
    (by as_aux_lemma => kernel_rfl)
#print axioms proved
end Go.Proofs.YtipmhhogebnpkaaGreatDoor.boundPremise
