/- SerialBy answers true, whatever rows, number and order are handed in, and leaves them as they were. Conditions: none. (The shell follows the kit's print of a like row; the walk is ours.) -/
import Derived.WalkKit
import Derived.ProofKit
import Derived.OpenShut
import Derived.ShutString
import Derived.SizedLaws
import Derived.WideKeyArgs
import Derived.Test.YthbjfkkjmecaaaaY42
namespace Go.Proofs.Ythbjfkkjmecaaaa.serialBy
open Go.ChangeShapes Go.WideShapes Go.ChangeAt Go.RowKit
open Go.ChangeMaps (open_string shut_string)
set_option linter.unusedVariables false

theorem own : ownKnob Try.prog.godebug = none := by kernel_rfl
theorem za7 : laidOutB Try.prog = true := by kernel_rfl
theorem yxn : Try.prog.readableRec 22 = true := by kernel_rfl
theorem zdr : Try.prog.readableRec 25 = true := by kernel_rfl
theorem yu1 : 22 < Try.prog.types.size := of_decide_eq_true (by kernel_rfl)
theorem yjr : 25 < Try.prog.types.size := of_decide_eq_true (by kernel_rfl)
theorem yvx : Go.Vm.tiles Try.prog 20 22 = true := by kernel_rfl
theorem yvs : Go.Vm.tiles Try.prog 20 25 = true := by kernel_rfl

theorem zpm {W W' : World} (h : ∀ c, c < W.heap.size → W'.heap[c]? = W.heap[c]?) (p : MemPlace) (hp : p.block < W.heap.size) : W.sameAt W' p := by
 cases p with
 | cell b off =>
  have := h b hp
  show W'.cell? ⟨b, off, none⟩ = W.cell? ⟨b, off, none⟩
  unfold World.cell?
  simp only [this]
 | map b => exact h b hp

theorem zmu {X : Type} {P : Program} {t0 t1 t2 : TypeId} {x0 x1 x2 : DataW X} (h : (DataW.weightsEach P [t0, t1, t2] [x0, x1, x2]).all (· ≤ reachBytes) = true) : (∀ w ∈ x0.weights P t0, w ≤ reachBytes) ∧ ∀ w ∈ x2.weights P t2, w ≤ reachBytes := by
 have hall := List.all_eq_true.1 h
 simp only [DataW.weightsEach] at hall
 exact ⟨fun w hw => of_decide_eq_true (hall w (List.mem_append_left _ hw)), fun w hw => of_decide_eq_true (hall w (List.mem_append_right _ (List.mem_append_right _ (List.mem_append_left _ hw))))⟩

set_option maxRecDepth 100000 in
theorem lifted (os : Os) (started : os.Started) (H : Type) (enc : TypeId × Value → H) :
  ReturnsInHanded {} Try.checked os 4 .any (Rows.serialBySpec.pre6 enc Try.prog Try.f4 Rows.serialByRow.domain false) (Rows.serialBySpec.post enc Try.prog Try.f4 false true false false) := by
 refine returnsInHanded_of_change_sized (C := Try.checked) own started (by kernel_rfl) Try.func4
  (ChangeSpec.witness6 (enc := enc) (C := Try.checked) false ⟨#[], #[.slice none 0 0, .int .i64 0, .slice none 0 0], []⟩ 8 (by kernel_rfl) (by kernel_rfl) (by kernel_rfl) (by kernel_rfl)) ?_
 intro W base args ds gs before hval0 hW hcnd hwt _
 have hval : ∀ (j : Nat) t v, Try.f4.params[j]? = some t → args[j]? = some v → Value.okWide Try.prog W .any base t v := hval0
 have hlt := hW.lt
 have hW' := hW
 obtain ⟨p, q, hA0, hV, rfl, hfz, hnd⟩ := hW
 have hA : DataW.TrodAll enc Try.prog W 0 (fun _ => true) true Try.f4.params.toList args.toList ds p := hA0
 have hwt' : (DataW.weightsEach Try.prog (Try.f4.params.toList ++ []) (ds ++ gs)).all (· ≤ reachBytes) = true := hwt
 rw [Try.params4] at hA hval hwt'
 obtain ⟨v0, vs0, d0, ds0, p0, q0, hargs, rfl, rfl, h0, r0⟩ := trodAll_cons hA
 obtain ⟨v1, vs1, d1, ds1, p1, q1, rfl, rfl, rfl, h1, r1⟩ := trodAll_cons r0
 obtain ⟨v2, vs2, d2, ds2, p2, q2, rfl, rfl, rfl, h2, r2⟩ := trodAll_cons r1
 obtain ⟨rfl, rfl, rfl⟩ := trodAll_nil r2
 obtain rfl : args = #[v0, v1, v2] := by cases args; simp_all
 obtain ⟨rfl, rfl⟩ := trodVars_none hV
 obtain ⟨a1, rfl, rfl, rfl, w1⟩ := open_int Try.underlying3 (hval 1 3 v1 rfl rfl) h1
 have hop := open_two Try.underlying22 yvx h0 (hval 0 22 v0 rfl rfl) Try.underlying25 yvs h2 (hval 2 25 v2 rfl rfl)
 obtain ⟨hw0, hw2⟩ := zmu hwt'
 clear hA0 hval0 hwt hwt'
 refine (by_true a1 v0 v2 d0 d2 W hop hw0 hw2).mono fun e W' ⟨he, hg, hsame⟩ => ?_
 subst he
 exact ⟨_, rfl, post_of_same (pa := p0 ++ ([] ++ (p2 ++ []))) (pv := []) hW' (fun _ _ _ => (trodAll_cons_mk (shut_bool Try.underlying4 _) trodAll_mk0))
  (fun sp hsp => (trodAll_cons_mk (Go.WideElems.Trod_stays za7 yxn yu1 h0 (fun p hp => zpm hsame p (hlt p (by simp [hp]))) (fun p hp => hsp p (by simp [hp]))) (trodAll_cons_mk (shut_int Try.underlying3 w1) (trodAll_cons_mk (Go.WideElems.Trod_stays za7 zdr yjr h2 (fun p hp => zpm hsame p (hlt p (by simp [hp]))) (fun p hp => hsp p (by simp [hp]))) trodAll_mk0)))) (fun _ _ => rfl) rfl
  (hg.frame _) hg.2.1 (ok_one (by kernel_rfl) rfl (okWide_bool_mk Try.underlying4 _))⟩

theorem over : Rows.serialByRow.holds Try.pinned (OpenSpec.ofChange Rows.serialBySpec) :=
 OpenClaim.holds_of_wide 4 Try.f4 rfl rfl rfl rfl rfl rfl rfl ⟨rfl, rfl, rfl, rfl, rfl⟩ rfl rfl rfl rfl rfl (by kernel_rfl) Try.func4 (by kernel_rfl)
  (of_decide_eq_true (by kernel_rfl)) (by unfold Func.isWrapper; first | (rw [if_pos (by decide +kernel)]; kernel_rfl) | (rw [if_neg (by decide +kernel)]; exact ⟨rfl, rfl⟩))
  (fun os started H enc _ => lifted os started H enc)

/-- ████ THE STATEMENT ████ -/
theorem proved : Rows.SerialBySaid :=
 over
#print axioms proved
end Go.Proofs.Ythbjfkkjmecaaaa.serialBy
