/- awake answers true: run by the evaluator. -/
import Derived.Test.YthbjfkkjmecaaaaX46
import Derived.Test.YthbjfkkjmecaaaaX45
import Derived.Test.YthbjfkkjmecaaaaX40
import Derived.Test.YthbjfkkjmecaaaaX22
import Derived.Test.YthbjfkkjmecaaaaRows
namespace Go.Proofs.Ythbjfkkjmecaaaa
open Go Go.Vm

noncomputable def tab : List (List (Option AFunc)) := [[none, none, none, none, none, none, none, none, none, some a9, none, some a11, some a12, none, none, none], [none, some a17, some a18, some a19, some a20, none, some a22, none, some a24, none, none, none, none, none, some a30, none], [none, some a33, none, some a35, some a36, some a37, some a38, some a39, none, none, none, none, none, none, none, none], [none, none, none, none, none, none, some a54, some a55, some a56, some a57, none, none, none, some a61, some a62, some a63], [some a64, some a65, some a66, some a67, some a68, none, some a70, none, none, none, none, none, none, none, none, none], [none, none, some a82, none, some a84, some a85, some a86, some a87, some a88, some a89, some a90, none, none, none, none, none], [none, none, none, none, none, none, none, none, none, none, none, none, some a108, some a109, some a110, some a111], [some a112, some a113, some a114, some a115, none, none, some a118, some a119, some a120, some a121, some a122, some a123, some a124, some a125, some a126, some a127], [some a128, some a129, some a130, some a131, some a132, none, none, some a135, none, some a137, some a138, some a139, some a140, some a141, some a142, some a143], [none, some a145, some a146, none, some a148, none, none, none, none, none, none, none, none, none, none, none]]
theorem tabIs : TabIs Try.prog 0 tab := ⟨⟨e9, ⟨e11, ⟨e12, trivial⟩⟩⟩, ⟨⟨e17, ⟨e18, ⟨e19, ⟨e20, ⟨e22, ⟨e24, ⟨e30, trivial⟩⟩⟩⟩⟩⟩⟩, ⟨⟨e33, ⟨e35, ⟨e36, ⟨e37, ⟨e38, ⟨e39, trivial⟩⟩⟩⟩⟩⟩, ⟨⟨e54, ⟨e55, ⟨e56, ⟨e57, ⟨e61, ⟨e62, ⟨e63, trivial⟩⟩⟩⟩⟩⟩⟩, ⟨⟨e64, ⟨e65, ⟨e66, ⟨e67, ⟨e68, ⟨e70, trivial⟩⟩⟩⟩⟩⟩, ⟨⟨e82, ⟨e84, ⟨e85, ⟨e86, ⟨e87, ⟨e88, ⟨e89, ⟨e90, trivial⟩⟩⟩⟩⟩⟩⟩⟩, ⟨⟨e108, ⟨e109, ⟨e110, ⟨e111, trivial⟩⟩⟩⟩, ⟨⟨e112, ⟨e113, ⟨e114, ⟨e115, ⟨e118, ⟨e119, ⟨e120, ⟨e121, ⟨e122, ⟨e123, ⟨e124, ⟨e125, ⟨e126, ⟨e127, trivial⟩⟩⟩⟩⟩⟩⟩⟩⟩⟩⟩⟩⟩⟩, ⟨⟨e128, ⟨e129, ⟨e130, ⟨e131, ⟨e132, ⟨e135, ⟨e137, ⟨e138, ⟨e139, ⟨e140, ⟨e141, ⟨e142, ⟨e143, trivial⟩⟩⟩⟩⟩⟩⟩⟩⟩⟩⟩⟩⟩, ⟨⟨e145, ⟨e146, ⟨e148, trivial⟩⟩⟩, trivial⟩⟩⟩⟩⟩⟩⟩⟩⟩⟩
theorem Try.mixed : Try.prog.follows .mixedOrders = true := by kernel_rfl

set_option maxRecDepth 1000000 in
theorem awake_says : saysM noKnown tab 200 12 = true := by kernel_rfl
theorem awake_known : KnownOk Try.prog (yes 12) := saysM_yes noKnown_ok tabIs Try.mixed awake_says

end Go.Proofs.Ythbjfkkjmecaaaa
namespace Go.Proofs.Ythbjfkkjmecaaaa
open Go Go.Vm
set_option linter.unusedVariables false
set_option linter.unusedSimpArgs false

variable {kn : Known} {env : Nat → Option AFunc}

noncomputable def swKn : Known := fun f args H => if f = 12 then yes 12 f args H else if f = 68 then liveKn f args H else if f = 121 then insKn f args H else none

noncomputable abbrev swEnv : Nat → Option AFunc := envOf tab

theorem swEnv_ok : EnvOk Try.prog swEnv := envOf_ok tabIs

theorem noSortE : SortE noKnown swEnv := ⟨rfl, rfl, rfl, rfl, rfl, rfl, rfl, fun _ _ _ _ => rfl⟩

theorem swKn_ok : KnownOk Try.prog swKn := fun f args H v H' h => by
  unfold swKn at h
  split at h
  · exact awake_known f args H v H' h
  · split at h
    · exact liveKn_ok noKnown_ok swEnv_ok Try.mixed rfl noSortE f args H v H' h
    · split at h
      · exact insKn_ok swEnv_ok Try.mixed rfl f args H v H' h
      · cases h

theorem swFn {f : Nat} {af : AFunc} (h : swEnv f = some af) (h1 : f ≠ 12) (h2 : f ≠ 68) (h3 : f ≠ 121) : Fn swKn swEnv f af := ⟨h, fun args H => by unfold swKn; rw [if_neg h1, if_neg h2, if_neg h3]⟩

theorem swIns (n : Nat) : InsC (callM swKn swEnv (n + 1)) := insC_or (kn := swKn) (env := swEnv) rfl (fun args H => by unfold swKn; rw [if_neg (by omega), if_neg (by omega), if_pos rfl]) n


theorem isE : IsE swKn swEnv where
  f85 := swFn rfl (by omega) (by omega) (by omega)
  f110 := swFn rfl (by omega) (by omega) (by omega)
  f111 := swFn rfl (by omega) (by omega) (by omega)
  f112 := swFn rfl (by omega) (by omega) (by omega)
  f113 := swFn rfl (by omega) (by omega) (by omega)
  f119 := swFn rfl (by omega) (by omega) (by omega)
  f120 := swFn rfl (by omega) (by omega) (by omega)
  f89 := swFn rfl (by omega) (by omega) (by omega)
  f67 := swFn rfl (by omega) (by omega) (by omega)
  f86 := swFn rfl (by omega) (by omega) (by omega)
  f87 := swFn rfl (by omega) (by omega) (by omega)
  f88 := swFn rfl (by omega) (by omega) (by omega)
  live := fun B H => by unfold swKn; rw [if_neg (by omega), if_pos rfl]
  f33 := swFn rfl (by omega) (by omega) (by omega)
  f61 := swFn rfl (by omega) (by omega) (by omega)
  f65 := swFn rfl (by omega) (by omega) (by omega)
  f62 := swFn rfl (by omega) (by omega) (by omega)
  f63 := swFn rfl (by omega) (by omega) (by omega)
  f84 := swFn rfl (by omega) (by omega) (by omega)
  f64 := swFn rfl (by omega) (by omega) (by omega)
  f66 := swFn rfl (by omega) (by omega) (by omega)
  f30 := swFn rfl (by omega) (by omega) (by omega)
  f11 := swFn rfl (by omega) (by omega) (by omega)
  f9 := swFn rfl (by omega) (by omega) (by omega)
  f39 := swFn rfl (by omega) (by omega) (by omega)
  f22 := swFn rfl (by omega) (by omega) (by omega)
  f35 := swFn rfl (by omega) (by omega) (by omega)

theorem swAwake (n : Nat) (H : AHeap) : callM swKn swEnv (n + 1) (.func (.func 12) []) [] H = some (abool true, H) := knM n (by
  unfold swKn; rw [if_pos rfl]; rfl)

theorem is_says {H : AHeap} {v0 ov : AVal} {rows : List RowD} {m : Int} {order : List Int} (hrows : RowsAt H H.next v0 rows) (ho : RdE H 1 ov (ints order)) (hol : ov.lies (· < H.next)) (ho2 : order.length < 40000000000000) : ∃ n H', callM swKn swEnv n (.func (.func 9) []) [v0, vi m, ov] H = some (abool true, H') := by
  obtain ⟨v, H', h, rfl⟩ := c9 isE (2001 + order.length) (m := m) (fun n => swIns n) (fun H => swAwake _ H) hrows ho hol ho2 (by omega)
  exact ⟨_, H', h⟩

end Go.Proofs.Ythbjfkkjmecaaaa
namespace Go.Proofs.Ythbjfkkjmecaaaa
open Go Go.Vm
set_option linter.unusedVariables false
set_option linter.unusedSimpArgs false

variable {X : Type}

section
variable {P : Program} {H : AHeap} {n : Nat} {t e : TypeId} {cs : List AVal} {d : DataW X}

theorem shows_int {k : IntKind} (ht : P.underlying t = some (.int k)) (h : shows P H n t cs d) : ∃ m, cs = [.raw (.int k m)] := by
  cases n with
  | zero => exact h.elim
  | succ n =>
    unfold shows at h
    rw [ht] at h
    obtain ⟨m, h1, _⟩ := h
    exact ⟨m, h1⟩

theorem shows_slice (ht : P.underlying t = some (.slice e)) (h : shows P H n t cs d) : (cs = [anil] ∧ d = .nil) ∨ ∃ (m A : Nat) (acss : List (List AVal)) (es sp : List (DataW X)), n = m + 1 ∧ cs = [.slice A 0 0 es.length (es.length + sp.length) true (P.cellsOf e)] ∧ d = .slice es sp ∧ H.get A = some (.ro acss.flatten) ∧
    acss.length = es.length + sp.length ∧ ∀ (i : Nat) (x : DataW X) (acs : List AVal), (es ++ sp)[i]? = some x → acss[i]? = some acs → acs.length = P.cellsOf e ∧ shows P H m e acs x := by
  cases n with
  | zero => exact h.elim
  | succ n =>
    unfold shows at h
    rw [ht] at h
    rcases h with h | ⟨A, acss, es, sp, h1, h2, h3, _, h5, h6⟩
    · exact .inl h
    · exact .inr ⟨n, A, acss, es, sp, rfl, h1, h2, h3, h5, h6⟩

theorem shows_array {k : Nat} (ht : P.underlying t = some (.array k e)) (h : shows P H n t cs d) : ∃ (m : Nat) (acss : List (List AVal)) (ds : List (DataW X)), n = m + 1 ∧ cs = acss.flatten ∧ acss.length = k ∧ ds.length = k ∧
    ∀ (i : Nat) (x : DataW X) (acs : List AVal), ds[i]? = some x → acss[i]? = some acs → acs.length = P.cellsOf e ∧ shows P H m e acs x := by
  cases n with
  | zero => exact h.elim
  | succ n =>
    unfold shows at h
    rw [ht] at h
    obtain ⟨acss, ds, h1, _, h3, h4, h5⟩ := h
    exact ⟨n, acss, ds, rfl, h1, h3, h4, h5⟩

theorem shows_nil (ht : P.underlying t = some (.slice e)) : shows P H (n + 1) t [anil] (DataW.nil : DataW X) := by
  unfold shows
  rw [ht]
  exact .inl ⟨rfl, rfl⟩

theorem weights_slice (ht : P.underlying t = some (.slice e)) (es sp : List (DataW X)) : (DataW.slice es sp).weights P t = (es.length + sp.length) * P.bytesOf e :: (DataW.weightsAll P e es ++ DataW.weightsAll P e sp) := by
  simp only [DataW.weights, ht]

theorem ok_slice {W : World} {b : Nat} {v : Value} (ht : P.underlying t = some (.slice e)) (h : Value.okWide P W .any b t v) : v = .slice none 0 0 ∨ ∃ a len cap, v = .slice (some a) len cap ∧ HasBlock W := by
  simp only [Value.okWide, ht, Cell.okWide] at h
  cases v with
  | slice a l c =>
    cases a with
    | none =>
      simp only [Cell.ok, ht] at h
      split at h
      all_goals first | exact h.elim | (simp_all; done) | skip
      all_goals (first | (left; simp_all; done) | simp_all)
    | some a =>
      simp only [Cell.ok, ht] at h
      obtain ⟨_, _, _, _, row, cells, hs, _⟩ := h
      refine .inr ⟨a, l, c, rfl, ?_⟩
      unfold World.shape? at hs
      split at hs
      · rename_i c e fz hh
        exact ⟨a.block, c, e, fz, hh⟩
      · cases hs
  | _ => simp [Cell.ok, ht] at h
end

/-- The weights of a list's elements. -/
theorem weightsAll_mem {P : Program} {e : TypeId} : ∀ {l : List (DataW X)} {x : DataW X} {w : Nat}, x ∈ l → w ∈ x.weights P e → w ∈ DataW.weightsAll P e l
  | [], x, w, h, _ => by simp at h
  | y :: r, x, w, h, hw => by
    simp only [DataW.weightsAll]
    rcases List.mem_cons.1 h with rfl | h
    · exact List.mem_append_left _ hw
    · exact List.mem_append_right _ (weightsAll_mem h hw)

/-- A run over arguments that are only read leaves all that lay there. -/
theorem calls_left {P : Program} {kn : Known} {t : List (List (Option AFunc))} (hk : KnownOk P kn) (ht : TabIs P 0 t) (hm : P.follows .mixedOrders = true) {n f : Nat} {args : List AVal} {cargs : Array Value} {v : Value} {w : World} {ρ : Ren} {H H' : AHeap}
    (h : callM kn (envOf t) n (.func (.func f) []) args H = some (.raw v, H')) (ho : Opened w ρ H) (hargs : VRels ρ args cargs.toList) : Calls P f cargs w fun e w' => e = .returned v ∧ Go.RowKit.Grown w w' ∧ ∀ c, c < w.heap.size → w'.heap[c]? = w.heap[c]? := by
  have hgo := callM_go hk (envOf_ok ht) n _ _ _ _ _ h
  have hc := (callM_ok hk (envOf_ok ht) hm n _ _ _ _ _ h).calls hgo
  have := hc (reads w) _ w cargs.toList ho.hrel (by simpa using hargs)
  rw [callsIn_wide] at this
  refine this.mono fun e w' ⟨v', cv, H1, ρ', e1, ⟨e2, e3⟩, e4, e5, _⟩ => ?_
  subst e2
  cases e4
  exact ⟨e1, e5.grownR, fun c hc => e5.frame c hc fun x => x⟩

/-- An argument of a slice type, opened. -/
theorem open_arg {P : Program} {base : Nat} {t e : TypeId} {v1 : Value} {d1 : DataW X} {W : World} {enc : TypeId × Value → X} {ps : List MemPlace} (ht : P.underlying t = some (.slice e)) (htl : tiles P 20 t = true) (h1 : DataW.Trod enc P W 0 (fun _ => true) true t v1 d1 ps) (hv : Value.okWide P W .any base t v1) :
    ∃ ρ H v, Opened W ρ H ∧ VRel ρ v v1 ∧ ∃ n, shows P H n t [v] d1 := by
  obtain ⟨fuel, h1⟩ := h1
  rcases ok_slice ht hv with rfl | ⟨a, len, cap, rfl, hb⟩
  · rcases DataW.trod_slice ht h1 with ⟨hc, hx⟩ | ⟨a, len, cap, elems, rest, n, hn, hc, _⟩
    · exact ⟨_, _, anil, Opened.empty W, .raw _, 1, by rw [(Prod.mk.inj hx).1]; exact shows_nil ht⟩
    · simp [Value.cells] at hc
  · obtain ⟨ρ', H', acs, o1, _, _, vr, sh⟩ := open_cells hb fuel 20 t _ _ _ _ htl (Opened.empty W) h1
    have vr' : VRels ρ' acs [Value.slice (some a) len cap] := vr
    cases vr' with
    | cons hvr hrest =>
      cases hrest
      exact ⟨ρ', H', _, o1, hvr, fuel, sh⟩


end Go.Proofs.Ythbjfkkjmecaaaa
namespace Go.Proofs.Ythbjfkkjmecaaaa
open Go Go.Vm
set_option linter.unusedVariables false
set_option linter.unusedSimpArgs false

theorem bytes3 : Try.prog.bytesOf 3 = 8 := by kernel_rfl
theorem cells3 : Try.prog.cellsOf 3 = 1 := by kernel_rfl

variable {X : Type}

theorem ints_of : ∀ (l : List (List AVal)), (∀ e ∈ l, ∃ m : Int, e = [vi m]) → ∃ t : List Int, l = ints t
  | [], _ => ⟨[], rfl⟩
  | e :: r, h => by
    obtain ⟨m, h1⟩ := h e (List.mem_cons_self ..)
    obtain ⟨t, h3⟩ := ints_of r fun x hx => h x (List.mem_cons_of_mem _ hx)
    exact ⟨m :: t, by rw [h1, h3]; rfl⟩

/-- A list of integers, as it lies. -/
theorem shows_ints {H : AHeap} {n : Nat} {cs : List AVal} {d : DataW X} (h : shows Try.prog H n 25 cs d) (hw : ∀ w ∈ d.weights Try.prog 25, w ≤ reachBytes) (hd : ∀ A o, H.get A = some o → A < H.next) :
    ∃ (a : AVal) (t : List Int), cs = [a] ∧ RdE H 1 a (ints t) ∧ a.lies (· < H.next) ∧ t.length * 8 ≤ reachBytes := by
  rcases shows_slice Try.underlying25 h with ⟨rfl, _⟩ | ⟨m, A, acss, es, sp, rfl, rfl, rfl, hg, hl, hall⟩
  · exact ⟨anil, [], rfl, ⟨fun e he => by simp at he, .inl ⟨rfl, rfl⟩⟩, fun R a1 a2 a3 a4 a5 a6 q => by (cases q), by simp⟩
  · rw [cells3] at hall ⊢
    have hsome : ∀ (i : Nat) acs, acss[i]? = some acs → ∃ x, (es ++ sp)[i]? = some x := fun i acs hi => by
      have hlt := (List.getElem?_eq_some_iff.1 hi).1
      have hlt2 : i < (es ++ sp).length := by rw [List.length_append]; omega
      exact ⟨_, List.getElem?_eq_getElem hlt2⟩
    have h1 : ∀ e ∈ acss, e.length = 1 := fun e he => by
      obtain ⟨i, hi⟩ := List.mem_iff_getElem?.1 he
      obtain ⟨x, hx⟩ := hsome i e hi
      exact (hall i x e hx hi).1
    obtain ⟨t, ht⟩ := ints_of (acss.take es.length) fun e he => by
      obtain ⟨i, hi⟩ := List.mem_iff_getElem?.1 (List.mem_of_mem_take he)
      obtain ⟨x, hx⟩ := hsome i e hi
      exact shows_int Try.underlying3 (hall i x e hx hi).2
    have htl : t.length = es.length := by
      have := congrArg List.length ht
      rw [List.length_take, List.length_map] at this
      omega
    have hfl := flatten_len h1
    refine ⟨_, t, rfl, ⟨fun e he => by rw [← ht] at he; exact h1 e (List.mem_of_mem_take he), .inr ⟨A, 0, 0, es.length + sp.length, true, acss.flatten, by rw [List.length_map, htl], by unfold AHeap.rowAt; rw [hg]; rfl, by rw [List.length_map]; omega, ?_, ?_⟩⟩, fun R a1 a2 a3 a4 a5 a6 q => by cases q; exact hd A _ hg, ?_⟩
    · rw [List.length_map, htl, Nat.zero_add, hfl, hl]; exact Nat.mul_le_mul_right _ (Nat.le_add_right _ _)
    · rw [List.length_map, htl, List.drop_zero, ← ht, flatten_take es.length h1]
    · have := hw ((es.length + sp.length) * Try.prog.bytesOf 3) (by rw [weights_slice Try.underlying25]; exact List.mem_cons_self ..)
      rw [bytes3] at this
      rw [htl]
      exact Nat.le_trans (Nat.mul_le_mul_right 8 (Nat.le_add_right _ _)) this

end Go.Proofs.Ythbjfkkjmecaaaa
namespace Go.Proofs.Ythbjfkkjmecaaaa
open Go Go.Vm
set_option linter.unusedVariables false
set_option linter.unusedSimpArgs false

variable {X : Type}

theorem reach_le : reachBytes ≤ 140737488355328 := by decide
theorem cells75 : Try.prog.cellsOf 75 = 41 := by kernel_rfl
theorem shows_struct' {P : Program} {H : AHeap} {n : Nat} {t : TypeId} {cs : List AVal} {d : DataW X} {fs : Array Field} (ht : P.underlying t = some (.struct fs)) (h : shows P H n t cs d) : ∃ (m : Nat) (acss : List (List AVal)) (ds : List (DataW X)), n = m + 1 ∧ cs = acss.flatten ∧ d = .agg ds ∧ acss.length = fs.size ∧ ds.length = fs.size ∧
    ∀ (i : Nat) (f : Field) (x : DataW X) (acs : List AVal), fs[i]? = some f → ds[i]? = some x → acss[i]? = some acs → acs.length = P.cellsOf f.type ∧ shows P H m f.type acs x := by
  cases n with
  | zero => exact h.elim
  | succ n =>
    unfold shows at h
    rw [ht] at h
    obtain ⟨acss, ds, h1, h2, h3, h4, h5⟩ := h
    exact ⟨n, acss, ds, rfl, h1, h2, h3, h4, h5⟩

theorem mem_weightsEach {P : Program} {t : TypeId} {d : DataW X} {w : Nat} : ∀ {ts : List TypeId} {ds : List (DataW X)} (i : Nat), ts[i]? = some t → ds[i]? = some d → w ∈ d.weights P t → w ∈ DataW.weightsEach P ts ds
  | [], _, i, h, _, _ => by simp at h
  | _, [], i, _, h, _ => by simp at h
  | t0 :: ts, d0 :: ds, 0, h1, h2, h3 => by
    simp only [List.getElem?_cons_zero, Option.some.injEq] at h1 h2
    subst h1 h2
    simp only [DataW.weightsEach]
    exact List.mem_append_left _ h3
  | t0 :: ts, d0 :: ds, i + 1, h1, h2, h3 => by
    simp only [List.getElem?_cons_succ] at h1 h2
    simp only [DataW.weightsEach]
    exact List.mem_append_right _ (mem_weightsEach i h1 h2 h3)

theorem weights_agg {P : Program} {t : TypeId} {fs : Array Field} (ht : P.underlying t = some (.struct fs)) (ds : List (DataW X)) : (DataW.agg ds).weights P t = DataW.weightsEach P (fs.toList.map (·.type)) ds := by
  simp only [DataW.weights, ht]

theorem ten {α : Type} : ∀ (l : List α), l.length = 10 → ∃ a0 a1 a2 a3 a4 a5 a6 a7 a8 a9, l = [a0, a1, a2, a3, a4, a5, a6, a7, a8, a9]
  | [a0, a1, a2, a3, a4, a5, a6, a7, a8, a9], _ => ⟨a0, a1, a2, a3, a4, a5, a6, a7, a8, a9, rfl⟩

theorem shows_val {H : AHeap} {n : Nat} {cs : List AVal} {d : DataW X} (h : shows Try.prog H n 29 cs d) : IsVal cs := by
  obtain ⟨m, a3, e3, _, z1, z3, z4, z5⟩ := shows_array Try.underlying29 h
  have hb : ∀ e ∈ a3, ∃ k, e = [v8 k] := fun e he => by
    obtain ⟨i, hi⟩ := List.mem_iff_getElem?.1 he
    have hi2 : i < e3.length := by rw [z4, ← z3]; exact (List.getElem?_eq_some_iff.1 hi).1
    exact shows_int Try.underlying5 (z5 i _ e (List.getElem?_eq_getElem hi2) hi).2
  refine ⟨?_, fun c hc => ?_⟩
  · rw [z1, flatten_len (n := 1) fun e he => by obtain ⟨k, rfl⟩ := hb e he; rfl]; omega
  · rw [z1] at hc
    obtain ⟨e, he, hce⟩ := List.mem_flatten.1 hc
    obtain ⟨k, rfl⟩ := hb e he
    simp at hce
    exact ⟨k, hce⟩

theorem shows_row {H : AHeap} {n : Nat} {cs : List AVal} {d : DataW X} (h : shows Try.prog H n 75 cs d) (hw : ∀ w ∈ d.weights Try.prog 75, w ≤ reachBytes) (hd : ∀ A o, H.get A = some o → A < H.next) : ∃ r : RowD, RowC cs r ∧ ∃ sv, SetOk H H.next cs r sv := by
  obtain ⟨n, acss, ds, rfl, h1, hdd, h3, h4, h5⟩ := shows_struct' Try.underlying75 h
  subst hdd
  rw [weights_agg Try.underlying75] at hw
  obtain ⟨c0, c1, c2, c3, c4, c5, c6, c7, c8, c9, rfl⟩ := ten acss h3
  obtain ⟨d0, d1, d2, d3, d4, d5, d6, d7, d8, d9, rfl⟩ := ten ds h4
  · skip
    obtain ⟨_, s0⟩ := h5 0 _ d0 c0 rfl rfl rfl
    obtain ⟨_, s1⟩ := h5 1 _ d1 c1 rfl rfl rfl
    obtain ⟨_, s2⟩ := h5 2 _ d2 c2 rfl rfl rfl
    obtain ⟨_, s3⟩ := h5 3 _ d3 c3 rfl rfl rfl
    obtain ⟨_, s4⟩ := h5 4 _ d4 c4 rfl rfl rfl
    obtain ⟨_, s5⟩ := h5 5 _ d5 c5 rfl rfl rfl
    obtain ⟨_, s6⟩ := h5 6 _ d6 c6 rfl rfl rfl
    obtain ⟨_, s7⟩ := h5 7 _ d7 c7 rfl rfl rfl
    obtain ⟨_, s8⟩ := h5 8 _ d8 c8 rfl rfl rfl
    obtain ⟨_, s9⟩ := h5 9 _ d9 c9 rfl rfl rfl
    obtain ⟨m0, rfl⟩ := shows_int Try.underlying3 s0
    obtain ⟨m1, rfl⟩ := shows_int Try.underlying67 s1
    obtain ⟨m2, rfl⟩ := shows_int Try.underlying3 s2
    obtain ⟨m3, rfl⟩ := shows_int Try.underlying67 s3
    obtain ⟨m4, rfl⟩ := shows_int Try.underlying3 s4
    have hv := shows_val s5
    obtain ⟨m6, rfl⟩ := shows_int Try.underlying67 s6
    obtain ⟨m7, rfl⟩ := shows_int Try.underlying3 s7
    obtain ⟨m8, rfl⟩ := shows_int Try.underlying39 s8
    obtain ⟨sv, t, rfl, hrd, hl, hlen⟩ := shows_ints s9 (fun w hww => hw w (mem_weightsEach 9 rfl rfl hww)) hd
    have hcs : cs = [vi m0, vu m1, vi m2, vu m3, vi m4] ++ (c5 ++ [vu m6, vi m7, vi m8, sv]) := by rw [h1]; rfl
    have h32 := hv.len
    have hlen2 : t.length * 8 ≤ 140737488355328 := Nat.le_trans hlen reach_le
    refine ⟨⟨m0, m1, m2, m3, m4, c5, m6, m7, m8, t⟩, ⟨?_, ?_, ?_, ?_, ?_, ?_, ?_, ?_, ?_, ?_, hv, ?_⟩, sv, ?_, hrd, hl, hlen2⟩
    all_goals rw [hcs]
    · simp [h32]
    · rfl
    · rfl
    · rfl
    · rfl
    · rfl
    · simp [List.drop_append, h32, List.take_append]
    · simp [List.getElem?_append, h32]
    · simp [List.getElem?_append, h32]
    · simp [List.getElem?_append, h32]
    · have hone : sv.one = true := hrd.one
      simp only [List.all_append, hv.one, List.all_cons, List.all_nil, hone]
      rfl
    · simp [List.getElem?_append, h32]

/-- A list of rows, as it lies. -/
theorem shows_rows {H : AHeap} {n : Nat} {v : AVal} {d : DataW X} (h : shows Try.prog H n 22 [v] d) (hw : ∀ w ∈ d.weights Try.prog 22, w ≤ reachBytes) (hd : ∀ A o, H.get A = some o → A < H.next) : ∃ rows : List RowD, RowsAt H H.next v rows := by
  rcases shows_slice Try.underlying22 h with ⟨h1, _⟩ | ⟨m, A, acss, es, sp, rfl, h1, rfl, hg, hl, hall⟩
  · cases h1
    exact ⟨[], [], ⟨fun e he => by simp at he, .inl ⟨rfl, rfl⟩⟩, fun R a1 a2 a3 a4 a5 a6 q => by (cases q), rfl, fun i a t ha => by simp at ha⟩
  · cases h1
    rw [cells75] at hall ⊢
    have hsome : ∀ (i : Nat) acs, acss[i]? = some acs → ∃ x, (es ++ sp)[i]? = some x := fun i acs hi => by
      have hlt := (List.getElem?_eq_some_iff.1 hi).1
      have hlt2 : i < (es ++ sp).length := by rw [List.length_append]; omega
      exact ⟨_, List.getElem?_eq_getElem hlt2⟩
    have h1' : ∀ e ∈ acss, e.length = 41 := fun e he => by
      obtain ⟨i, hi⟩ := List.mem_iff_getElem?.1 he
      obtain ⟨x, hx⟩ := hsome i e hi
      exact (hall i x e hx hi).1
    have one : ∀ i, i < es.length → ∃ r : RowD, ∃ acs, acss[i]? = some acs ∧ RowC acs r ∧ ∃ sv, SetOk H H.next acs r sv := fun i hi => by
      have hx : es[i]? = some es[i] := List.getElem?_eq_getElem hi
      have hx' : (es ++ sp)[i]? = some es[i] := by rw [List.getElem?_append_left hi]; exact hx
      have hlt : i < acss.length := by omega
      have hc : acss[i]? = some acss[i] := List.getElem?_eq_getElem hlt
      obtain ⟨_, s⟩ := hall i _ _ hx' hc
      obtain ⟨r, q⟩ := shows_row s (fun w hww => hw w (by
        rw [weights_slice Try.underlying22]
        exact List.mem_cons_of_mem _ (List.mem_append_left _ (weightsAll_mem (List.getElem_mem hi) hww)))) hd
      exact ⟨r, _, hc, q⟩
    have hfl := flatten_len h1'
    have htl : (acss.take es.length).length = es.length := by rw [List.length_take]; omega
    refine ⟨(List.range es.length).map fun i => if hi : i < es.length then (one i hi).choose else ⟨0, 0, 0, 0, 0, [], 0, 0, 0, []⟩, acss.take es.length, ⟨fun e he => h1' e (List.mem_of_mem_take he), .inr ⟨A, 0, 0, es.length + sp.length, true, acss.flatten, by rw [htl], by unfold AHeap.rowAt; rw [hg]; rfl, by rw [htl]; omega, ?_, ?_⟩⟩, fun R a1 a2 a3 a4 a5 a6 q => by (cases q; exact hd A _ hg), by rw [List.length_take, List.length_map, List.length_range]; omega, fun k rc r hrc hr => ?_⟩
    · rw [htl, Nat.zero_add, hfl, hl]; exact Nat.mul_le_mul_right _ (Nat.le_add_right _ _)
    · rw [htl, List.drop_zero, flatten_take es.length h1']
    · rw [List.getElem?_map] at hr
      obtain ⟨j, hj, rfl⟩ := Option.map_eq_some_iff.1 hr
      have hlt : k < es.length := by
        have := (List.getElem?_eq_some_iff.1 hj).1
        simpa using this
      rw [List.getElem?_range hlt] at hj
      cases hj
      rw [List.getElem?_take, if_pos hlt] at hrc
      obtain ⟨acs, q1, q2⟩ := (one k hlt).choose_spec
      rw [dif_pos hlt]
      rw [q1] at hrc
      cases hrc
      exact q2

/-- One more argument of a slice type, opened. -/
theorem open_more {P : Program} {base : Nat} {t e : TypeId} {v1 : Value} {d1 : DataW X} {W : World} {enc : TypeId × Value → X} {ps : List MemPlace} {ρ : Ren} {H : AHeap} (ho : Opened W ρ H) (ht : P.underlying t = some (.slice e)) (htl : tiles P 20 t = true) (h1 : DataW.Trod enc P W 0 (fun _ => true) true t v1 d1 ps) (hv : Value.okWide P W .any base t v1) :
    ∃ ρ' H' v, Opened W ρ' H' ∧ ρ.le ρ' ∧ Keeps H H' ∧ VRel ρ' v v1 ∧ ∃ n, shows P H' n t [v] d1 := by
  obtain ⟨fuel, h1⟩ := h1
  rcases ok_slice ht hv with rfl | ⟨a, len, cap, rfl, hb⟩
  · rcases DataW.trod_slice ht h1 with ⟨hc, hx⟩ | ⟨a, len, cap, elems, rest, n, hn, hc, _⟩
    · exact ⟨_, _, anil, ho, fun _ _ _ h => h, Keeps.refl _, .raw _, 1, by rw [(Prod.mk.inj hx).1]; exact shows_nil ht⟩
    · simp [Value.cells] at hc
  · obtain ⟨ρ', H', acs, o1, q1, q2, vr, sh⟩ := open_cells hb fuel 20 t _ _ _ _ htl ho h1
    have vr' : VRels ρ' acs [Value.slice (some a) len cap] := vr
    cases vr' with
    | cons hvr hrest =>
      cases hrest
      exact ⟨ρ', H', _, o1, q1, q2, hvr, fuel, sh⟩

/-- Two arguments of slice types, opened. -/
theorem open_two {P : Program} {base : Nat} {t e t2 e2 : TypeId} {v1 v2 : Value} {d1 d2 : DataW X} {W : World} {enc : TypeId × Value → X} {ps ps2 : List MemPlace} (ht : P.underlying t = some (.slice e)) (htl : tiles P 20 t = true) (h1 : DataW.Trod enc P W 0 (fun _ => true) true t v1 d1 ps) (hv : Value.okWide P W .any base t v1)
    (ht2 : P.underlying t2 = some (.slice e2)) (htl2 : tiles P 20 t2 = true) (h2 : DataW.Trod enc P W 0 (fun _ => true) true t2 v2 d2 ps2) (hv2 : Value.okWide P W .any base t2 v2) :
    ∃ ρ H a1 a2, Opened W ρ H ∧ VRel ρ a1 v1 ∧ VRel ρ a2 v2 ∧ (∃ n, shows P H n t [a1] d1) ∧ ∃ n, shows P H n t2 [a2] d2 := by
  obtain ⟨ρ, H, a1, ho, r1, n1, s1⟩ := open_arg ht htl h1 hv
  obtain ⟨ρ', H', a2, ho', hle, hk, r2, n2, s2⟩ := open_more ho ht2 htl2 h2 hv2
  exact ⟨ρ', H', a1, a2, ho', r1.mono hle, r2, ⟨n1, shows_mono hk _ _ _ _ s1⟩, n2, s2⟩

end Go.Proofs.Ythbjfkkjmecaaaa
namespace Go.Proofs.Ythbjfkkjmecaaaa
open Go Go.Vm
set_option linter.unusedVariables false
set_option linter.unusedSimpArgs false

variable {X : Type}

/-- SerialIsAlone says true, of whatever is handed in. -/
theorem is_true (m : Int) (v0 v2 : Value) (d0 d2 : DataW X) (W : World) (hop : ∃ ρ H a0 a2, Opened W ρ H ∧ VRel ρ a0 v0 ∧ VRel ρ a2 v2 ∧ (∃ n, shows Try.prog H n 22 [a0] d0) ∧ ∃ n, shows Try.prog H n 25 [a2] d2) (hw0 : ∀ w ∈ d0.weights Try.prog 22, w ≤ reachBytes) (hw2 : ∀ w ∈ d2.weights Try.prog 25, w ≤ reachBytes) :
    Calls Try.prog 9 #[v0, .int .i64 m, v2] W fun e w' => e = .returned (.bool true) ∧ Go.RowKit.Grown W w' ∧ ∀ c, c < W.heap.size → w'.heap[c]? = W.heap[c]? := by
  obtain ⟨ρ, H, a0, a2, ho, hr0, hr2, ⟨n0, hs0⟩, ⟨n2, hs2⟩⟩ := hop
  have hd : ∀ A o, H.get A = some o → A < H.next := fun A o hA => by
    rcases Nat.lt_or_ge A H.next with h | h
    · exact h
    · rw [ho.wf A h] at hA; cases hA
  obtain ⟨rows, hrows⟩ := shows_rows hs0 hw0 hd
  obtain ⟨a, t, q1, hrd, hl, hlen⟩ := shows_ints hs2 hw2 hd
  cases q1
  have hb : (reachBytes : Nat) < 320000000000000 := by decide
  obtain ⟨k, H', hrun⟩ := is_says (m := m) hrows hrd hl (by omega)
  exact calls_left swKn_ok tabIs Try.mixed hrun ho (.cons hr0 (.cons (.raw _) (.cons hr2 .nil)))

end Go.Proofs.Ythbjfkkjmecaaaa
