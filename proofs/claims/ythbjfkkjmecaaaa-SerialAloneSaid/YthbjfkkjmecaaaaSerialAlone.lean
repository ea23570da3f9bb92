/- SerialAlone answers true, whatever lists of operations are handed in, and leaves them as they were. Conditions: none. (The shell follows the kit's print of a like row; the walk is ours.) -/
import Derived.Test.YthbjfkkjmecaaaaRows
import Derived.WalkKit
import Derived.ProofKit
import Derived.OpenShut
import Derived.ShutString
import Derived.SizedLaws
import Derived.WideKeyArgs
import Derived.Test.YthbjfkkjmecaaaaAloneR
namespace Go.Proofs.Ythbjfkkjmecaaaa.serialAlone
open Go.ChangeShapes Go.WideShapes Go.ChangeAt Go.RowKit
open Go.ChangeMaps (open_string shut_string)
set_option linter.unusedVariables false

theorem own : ownKnob Try.prog.godebug = none := by kernel_rfl
theorem laidOut : laidOutB Try.prog = true := by kernel_rfl
theorem readable : Try.prog.readableRec 84 = true := by kernel_rfl
theorem row84 : 84 < Try.prog.types.size := of_decide_eq_true (by kernel_rfl)

theorem same_place {W W' : World} (h : ∀ c, c < W.heap.size → W'.heap[c]? = W.heap[c]?) (p : MemPlace) (hp : p.block < W.heap.size) : W.sameAt W' p := by
  cases p with
  | cell b off =>
    have := h b hp
    show W'.cell? ⟨b, off, none⟩ = W.cell? ⟨b, off, none⟩
    unfold World.cell?
    simp only [this]
  | map b => exact h b hp

theorem weights_two {X : Type} {P : Program} {t0 t1 : TypeId} {x0 x1 : DataW X} (h : (DataW.weightsEach P [t0, t1] [x0, x1]).all (· ≤ reachBytes) = true) : ∀ w ∈ x1.weights P t1, w ≤ reachBytes := fun w hw => by
  have := List.all_eq_true.1 h w (by
    simp only [DataW.weightsEach]
    exact List.mem_append_right _ (List.mem_append_left _ hw))
  exact of_decide_eq_true this

set_option maxRecDepth 100000 in
theorem lifted (os : Os) (started : os.Started) (H : Type) (enc : TypeId × Value → H) :
    ReturnsInHanded {} Try.checked os 8 .any (Rows.serialAloneSpec.pre6 enc Try.prog Try.f8 Rows.serialAloneRow.domain false) (Rows.serialAloneSpec.post enc Try.prog Try.f8 false true false false) := by
  refine returnsInHanded_of_change_sized (C := Try.checked) own started (by kernel_rfl) Try.func8
    (ChangeSpec.witness6 (enc := enc) (C := Try.checked) false ⟨#[], #[.int .i64 0, .slice none 0 0], []⟩ 8 (by kernel_rfl) (by kernel_rfl) (by kernel_rfl) (by kernel_rfl)) ?_
  intro W base args ds gs before hval0 hW hcnd hwt _
  have hval : ∀ (j : Nat) t v, Try.f8.params[j]? = some t → args[j]? = some v → Value.okWide Try.prog W .any base t v := hval0
  have hlt := hW.lt
  have hW' := hW
  obtain ⟨p, q, hA0, hV, rfl, hfz, hnd⟩ := hW
  have hA : DataW.TrodAll enc Try.prog W 0 (fun _ => true) true Try.f8.params.toList args.toList ds p := hA0
  have hwt' : (DataW.weightsEach Try.prog (Try.f8.params.toList ++ []) (ds ++ gs)).all (· ≤ reachBytes) = true := hwt
  rw [Try.params8] at hA hval hwt'
  obtain ⟨v0, vs0, d0, ds0, p0, q0, hargs, rfl, rfl, h0, r0⟩ := trodAll_cons hA
  obtain ⟨v1, vs1, d1, ds1, p1, q1, rfl, rfl, rfl, h1, r1⟩ := trodAll_cons r0
  obtain ⟨rfl, rfl, rfl⟩ := trodAll_nil r1
  obtain rfl : args = #[v0, v1] := by cases args; simp_all
  obtain ⟨rfl, rfl⟩ := trodVars_none hV
  obtain ⟨a0, rfl, rfl, rfl, w0⟩ := open_int Try.underlying3 (hval 0 3 v0 rfl rfl) h0
  have hop := open_arg Try.underlying84 tiles84 h1 (hval 1 84 v1 rfl rfl)
  have hw : ∀ w ∈ d1.weights Try.prog 84, w ≤ reachBytes := weights_two hwt'
  clear hA0 hval0 hwt hwt'
  refine (alone_true a0 v1 d1 W hop hw).mono fun e W' ⟨he, hg, hsame⟩ => ?_
  subst he
  exact ⟨_, rfl, post_of_same (pa := [] ++ (p1 ++ [])) (pv := []) hW' (fun _ _ _ => (trodAll_cons_mk (shut_bool Try.underlying4 _) trodAll_mk0))
    (fun sp hsp => (trodAll_cons_mk (shut_int Try.underlying3 w0) (trodAll_cons_mk (Go.WideElems.Trod_stays laidOut readable row84 h1 (fun p hp => same_place hsame p (hlt p (by simpa using hp))) (fun p hp => hsp p (by simpa using hp))) trodAll_mk0))) (fun _ _ => rfl) rfl
    (hg.frame _) hg.2.1 (ok_one (by kernel_rfl) rfl (okWide_bool_mk Try.underlying4 _))⟩

theorem over : Rows.serialAloneRow.holds Try.pinned (OpenSpec.ofChange Rows.serialAloneSpec) :=
  OpenClaim.holds_of_wide 8 Try.f8 rfl rfl rfl rfl rfl rfl rfl ⟨rfl, rfl, rfl, rfl, rfl⟩ rfl rfl rfl rfl rfl (by kernel_rfl) Try.func8 (by kernel_rfl)
    (of_decide_eq_true (by kernel_rfl)) (by unfold Func.isWrapper; first | (rw [if_pos (by decide +kernel)]; kernel_rfl) | (rw [if_neg (by decide +kernel)]; exact ⟨rfl, rfl⟩))
    (fun os started H enc _ => lifted os started H enc)

/-- ████ THE STATEMENT ████ -/
theorem proved : Rows.SerialAloneSaid :=
  over
#print axioms proved
end Go.Proofs.Ythbjfkkjmecaaaa.serialAlone
