/- SerialTells answers true, whatever rows, numbers and byte are handed in, and leaves them as they were. Conditions: none. (The shell follows the kit's print of a like row; the walk is ours.) -/
import Derived.Test.YthbjfkkjmecaaaaRows
import Derived.WalkKit
import Derived.ProofKit
import Derived.OpenShut
import Derived.ShutString
import Derived.SizedLaws
import Derived.WideKeyArgs
import Derived.Test.YthbjfkkjmecaaaaT45
namespace Go.Proofs.Ythbjfkkjmecaaaa.serialTells
open Go.ChangeShapes Go.WideShapes Go.ChangeAt Go.RowKit
open Go.ChangeMaps (open_string shut_string)
set_option linter.unusedVariables false

theorem own : ownKnob Try.prog.godebug = none := by kernel_rfl
theorem laidOut : laidOutB Try.prog = true := by kernel_rfl
theorem readable : Try.prog.readableRec 22 = true := by kernel_rfl
theorem row22 : 22 < Try.prog.types.size := of_decide_eq_true (by kernel_rfl)
theorem tiles22 : Go.Vm.tiles Try.prog 20 22 = true := by kernel_rfl

theorem same_place {W W' : World} (h : ∀ c, c < W.heap.size → W'.heap[c]? = W.heap[c]?) (p : MemPlace) (hp : p.block < W.heap.size) : W.sameAt W' p := by
  cases p with
  | cell b off =>
    have := h b hp
    show W'.cell? ⟨b, off, none⟩ = W.cell? ⟨b, off, none⟩
    unfold World.cell?
    simp only [this]
  | map b => exact h b hp

theorem weights_first {X : Type} {P : Program} {t0 : TypeId} {ts : List TypeId} {x0 : DataW X} {xs : List (DataW X)} (h : (DataW.weightsEach P (t0 :: ts) (x0 :: xs)).all (· ≤ reachBytes) = true) : ∀ w ∈ x0.weights P t0, w ≤ reachBytes := by
  have hall := List.all_eq_true.1 h
  simp only [DataW.weightsEach] at hall
  exact fun w hw => of_decide_eq_true (hall w (List.mem_append_left _ hw))

theorem byte_in {n : Int} (h : (Lit.int .u8 n).wf = true) : 0 ≤ n ∧ n < 256 := by
  simp [Lit.wf] at h
  have h0 : IntKind.u8.min = 0 := by decide
  have h1 : IntKind.u8.max = 255 := by decide
  omega

set_option maxRecDepth 100000 in
theorem lifted (os : Os) (started : os.Started) (H : Type) (enc : TypeId × Value → H) :
    ReturnsInHanded {} Try.checked os 6 .any (Rows.serialTellsSpec.pre6 enc Try.prog Try.f6 Rows.serialTellsRow.domain false) (Rows.serialTellsSpec.post enc Try.prog Try.f6 false true false false) := by
  refine returnsInHanded_of_change_sized (C := Try.checked) own started (by kernel_rfl) Try.func6
    (ChangeSpec.witness6 (enc := enc) (C := Try.checked) false ⟨#[], #[.slice none 0 0, .int .i64 0, .int .i64 0, .int .u8 0], []⟩ 8 (by kernel_rfl) (by kernel_rfl) (by kernel_rfl) (by kernel_rfl)) ?_
  intro W base args ds gs before hval0 hW hcnd hwt _
  have hval : ∀ (j : Nat) t v, Try.f6.params[j]? = some t → args[j]? = some v → Value.okWide Try.prog W .any base t v := hval0
  have hlt := hW.lt
  have hW' := hW
  obtain ⟨p, q, hA0, hV, rfl, hfz, hnd⟩ := hW
  have hA : DataW.TrodAll enc Try.prog W 0 (fun _ => true) true Try.f6.params.toList args.toList ds p := hA0
  have hwt' : (DataW.weightsEach Try.prog (Try.f6.params.toList ++ []) (ds ++ gs)).all (· ≤ reachBytes) = true := hwt
  rw [Try.params6] at hA hval hwt'
  obtain ⟨v0, vs0, d0, ds0, p0, q0, hargs, rfl, rfl, h0, r0⟩ := trodAll_cons hA
  obtain ⟨v1, vs1, d1, ds1, p1, q1, rfl, rfl, rfl, h1, r1⟩ := trodAll_cons r0
  obtain ⟨v2, vs2, d2, ds2, p2, q2, rfl, rfl, rfl, h2, r2⟩ := trodAll_cons r1
  obtain ⟨v3, vs3, d3, ds3, p3, q3, rfl, rfl, rfl, h3, r3⟩ := trodAll_cons r2
  obtain ⟨rfl, rfl, rfl⟩ := trodAll_nil r3
  obtain rfl : args = #[v0, v1, v2, v3] := by cases args; simp_all
  obtain ⟨rfl, rfl⟩ := trodVars_none hV
  obtain ⟨a1, rfl, rfl, rfl, w1⟩ := open_int Try.underlying3 (hval 1 3 v1 rfl rfl) h1
  obtain ⟨a2, rfl, rfl, rfl, w2⟩ := open_int Try.underlying3 (hval 2 3 v2 rfl rfl) h2
  obtain ⟨a3, rfl, rfl, rfl, w3⟩ := open_int Try.underlying5 (hval 3 5 v3 rfl rfl) h3
  have hop := Go.Proofs.Ythbjfkkjmecaaaa.open_arg Try.underlying22 tiles22 h0 (hval 0 22 v0 rfl rfl)
  have hw0 := weights_first hwt'
  clear hA0 hval0 hwt hwt'
  refine (tells_true a1 a2 a3 (byte_in w3) v0 d0 W hop hw0).mono fun e W' ⟨he, hg, hsame⟩ => ?_
  subst he
  exact ⟨_, rfl, post_of_same (pa := p0 ++ ([] ++ ([] ++ ([] ++ [])))) (pv := []) hW' (fun _ _ _ => (trodAll_cons_mk (shut_bool Try.underlying4 _) trodAll_mk0))
    (fun sp hsp => (trodAll_cons_mk (Go.WideElems.Trod_stays laidOut readable row22 h0 (fun p hp => same_place hsame p (hlt p (by simp [hp]))) (fun p hp => hsp p (by simp [hp]))) (trodAll_cons_mk (shut_int Try.underlying3 w1) (trodAll_cons_mk (shut_int Try.underlying3 w2) (trodAll_cons_mk (shut_int Try.underlying5 w3) trodAll_mk0))))) (fun _ _ => rfl) rfl
    (hg.frame _) hg.2.1 (ok_one (by kernel_rfl) rfl (okWide_bool_mk Try.underlying4 _))⟩

theorem over : Rows.serialTellsRow.holds Try.pinned (OpenSpec.ofChange Rows.serialTellsSpec) :=
  OpenClaim.holds_of_wide 6 Try.f6 rfl rfl rfl rfl rfl rfl rfl ⟨rfl, rfl, rfl, rfl, rfl⟩ rfl rfl rfl rfl rfl (by kernel_rfl) Try.func6 (by kernel_rfl)
    (of_decide_eq_true (by kernel_rfl)) (by unfold Func.isWrapper; first | (rw [if_pos (by decide +kernel)]; kernel_rfl) | (rw [if_neg (by decide +kernel)]; exact ⟨rfl, rfl⟩))
    (fun os started H enc _ => lifted os started H enc)

/-- ████ THE STATEMENT ████ -/
theorem proved : Rows.SerialTellsSaid :=
  over
#print axioms proved
end Go.Proofs.Ythbjfkkjmecaaaa.serialTells
