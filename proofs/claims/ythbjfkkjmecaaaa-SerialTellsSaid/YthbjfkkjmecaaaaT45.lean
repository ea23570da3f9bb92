/- Arguments of the laws over rows, opened: lists of rows. -/
import Derived.Test.YthbjfkkjmecaaaaT44
set_option linter.unusedVariables false
set_option linter.unusedSimpArgs false
namespace Go.Proofs.Ythbjfkkjmecaaaa
open Go Go.Vm
variable {X : Type}
theorem reach_le : reachBytes ≤ 140737488355328 := by decide
theorem reach_le2 : reachBytes + 16 ≤ 140737488355328 := by decide
theorem cells75 : Try.prog.cellsOf 75 = 41 := by kernel_rfl
theorem shows_struct' {P : Program} {H : AHeap} {n : Nat} {t : TypeId} {cs : List AVal} {d : DataW X} {fs : Array Field} (ht : P.underlying t = some (.struct fs)) (h : shows P H n t cs d) : ∃ (m : Nat) (acss : List (List AVal)) (ds : List (DataW X)), n = m + 1 ∧ cs = acss.flatten ∧ d = .agg ds ∧ acss.length = fs.size ∧ ds.length = fs.size ∧
    ∀ (i : Nat) (f : Field) (x : DataW X) (acs : List AVal), fs[i]? = some f → ds[i]? = some x → acss[i]? = some acs → acs.length = P.cellsOf f.type ∧ shows P H m f.type acs x := by
  cases n with
  | zero => exact h.elim
  | succ n =>
    unfold shows at h
    rw [ht] at h
    obtain ⟨acss, ds, h1, h2, h3, h4, h5⟩ := h
    exact ⟨n, acss, ds, rfl, h1, h2, h3, h4, h5⟩
theorem mem_weightsEach {P : Program} {t : TypeId} {d : DataW X} {w : Nat} : ∀ {ts : List TypeId} {ds : List (DataW X)} (i : Nat), ts[i]? = some t → ds[i]? = some d → w ∈ d.weights P t → w ∈ DataW.weightsEach P ts ds
  | [], _, i, h, _, _ => by simp at h
  | _, [], i, _, h, _ => by simp at h
  | t0 :: ts, d0 :: ds, 0, h1, h2, h3 => by
    simp only [List.getElem?_cons_zero, Option.some.injEq] at h1 h2
    subst h1 h2
    simp only [DataW.weightsEach]
    exact List.mem_append_left _ h3
  | t0 :: ts, d0 :: ds, i + 1, h1, h2, h3 => by
    simp only [List.getElem?_cons_succ] at h1 h2
    simp only [DataW.weightsEach]
    exact List.mem_append_right _ (mem_weightsEach i h1 h2 h3)
theorem weights_agg {P : Program} {t : TypeId} {fs : Array Field} (ht : P.underlying t = some (.struct fs)) (ds : List (DataW X)) : (DataW.agg ds).weights P t = DataW.weightsEach P (fs.toList.map (·.type)) ds := by
  simp only [DataW.weights, ht]
theorem ten {α : Type} : ∀ (l : List α), l.length = 10 → ∃ a0 a1 a2 a3 a4 a5 a6 a7 a8 a9, l = [a0, a1, a2, a3, a4, a5, a6, a7, a8, a9]
  | [a0, a1, a2, a3, a4, a5, a6, a7, a8, a9], _ => ⟨a0, a1, a2, a3, a4, a5, a6, a7, a8, a9, rfl⟩
theorem shows_val {H : AHeap} {n : Nat} {cs : List AVal} {d : DataW X} (h : shows Try.prog H n 29 cs d) : IsVal cs := by
  obtain ⟨m, a3, e3, _, z1, z3, z4, z5⟩ := shows_array Try.underlying29 h
  have hb : ∀ e ∈ a3, ∃ k, e = [v8 k] := fun e he => by
    obtain ⟨i, hi⟩ := List.mem_iff_getElem?.1 he
    have hi2 : i < e3.length := by rw [z4, ← z3]; exact (List.getElem?_eq_some_iff.1 hi).1
    exact shows_int Try.underlying5 (z5 i _ e (List.getElem?_eq_getElem hi2) hi).2
  refine ⟨?_, fun c hc => ?_⟩
  · rw [z1, flatten_len (n := 1) fun e he => by obtain ⟨k, rfl⟩ := hb e he; rfl]; omega
  · rw [z1] at hc
    obtain ⟨e, he, hce⟩ := List.mem_flatten.1 hc
    obtain ⟨k, rfl⟩ := hb e he
    simp at hce
    exact ⟨k, hce⟩
theorem shows_row {H : AHeap} {n : Nat} {cs : List AVal} {d : DataW X} (h : shows Try.prog H n 75 cs d) (hw : ∀ w ∈ d.weights Try.prog 75, w ≤ reachBytes) (hd : ∀ A o, H.get A = some o → A < H.next) : ∃ r : RowD, RowC cs r ∧ (∃ sv, SetOk H H.next cs r sv) ∧ (r.set.length + 2) * 8 ≤ 140737488355328 := by
  obtain ⟨n, acss, ds, rfl, h1, hdd, h3, h4, h5⟩ := shows_struct' Try.underlying75 h
  subst hdd
  rw [weights_agg Try.underlying75] at hw
  obtain ⟨c0, c1, c2, c3, c4, c5, c6, c7, c8, c9, rfl⟩ := ten acss h3
  obtain ⟨d0, d1, d2, d3, d4, d5, d6, d7, d8, d9, rfl⟩ := ten ds h4
  · skip
    obtain ⟨_, s0⟩ := h5 0 _ d0 c0 rfl rfl rfl
    obtain ⟨_, s1⟩ := h5 1 _ d1 c1 rfl rfl rfl
    obtain ⟨_, s2⟩ := h5 2 _ d2 c2 rfl rfl rfl
    obtain ⟨_, s3⟩ := h5 3 _ d3 c3 rfl rfl rfl
    obtain ⟨_, s4⟩ := h5 4 _ d4 c4 rfl rfl rfl
    obtain ⟨_, s5⟩ := h5 5 _ d5 c5 rfl rfl rfl
    obtain ⟨_, s6⟩ := h5 6 _ d6 c6 rfl rfl rfl
    obtain ⟨_, s7⟩ := h5 7 _ d7 c7 rfl rfl rfl
    obtain ⟨_, s8⟩ := h5 8 _ d8 c8 rfl rfl rfl
    obtain ⟨_, s9⟩ := h5 9 _ d9 c9 rfl rfl rfl
    obtain ⟨m0, rfl⟩ := shows_int Try.underlying3 s0
    obtain ⟨m1, rfl⟩ := shows_int Try.underlying67 s1
    obtain ⟨m2, rfl⟩ := shows_int Try.underlying3 s2
    obtain ⟨m3, rfl⟩ := shows_int Try.underlying67 s3
    obtain ⟨m4, rfl⟩ := shows_int Try.underlying3 s4
    have hv := shows_val s5
    obtain ⟨m6, rfl⟩ := shows_int Try.underlying67 s6
    obtain ⟨m7, rfl⟩ := shows_int Try.underlying3 s7
    obtain ⟨m8, rfl⟩ := shows_int Try.underlying39 s8
    obtain ⟨sv, t, rfl, hrd, hl, hlen⟩ := shows_ints s9 (fun w hww => hw w (mem_weightsEach 9 rfl rfl hww)) hd
    have hcs : cs = [vi m0, vu m1, vi m2, vu m3, vi m4] ++ (c5 ++ [vu m6, vi m7, vi m8, sv]) := by rw [h1]; rfl
    have h32 := hv.len
    have hlen2 : t.length * 8 ≤ 140737488355328 := Nat.le_trans hlen reach_le
    have hlen3 : (t.length + 2) * 8 ≤ 140737488355328 := by have := reach_le2; omega
    refine ⟨⟨m0, m1, m2, m3, m4, c5, m6, m7, m8, t⟩, ⟨?_, ?_, ?_, ?_, ?_, ?_, ?_, ?_, ?_, ?_, hv, ?_⟩, ⟨sv, ?_, hrd, hl, hlen2⟩, hlen3⟩
    all_goals rw [hcs]
    · simp [h32]
    · rfl
    · rfl
    · rfl
    · rfl
    · rfl
    · simp [List.drop_append, h32, List.take_append]
    · simp [List.getElem?_append, h32]
    · simp [List.getElem?_append, h32]
    · simp [List.getElem?_append, h32]
    · have hone : sv.one = true := hrd.one
      simp only [List.all_append, hv.one, List.all_cons, List.all_nil, hone]
      rfl
    · simp [List.getElem?_append, h32]
theorem shows_rows {H : AHeap} {n : Nat} {v : AVal} {d : DataW X} (h : shows Try.prog H n 22 [v] d) (hw : ∀ w ∈ d.weights Try.prog 22, w ≤ reachBytes) (hd : ∀ A o, H.get A = some o → A < H.next) : ∃ rows : List RowD, RowsAt H H.next v rows ∧ ∀ r ∈ rows, (r.set.length + 2) * 8 ≤ 140737488355328 := by
  rcases shows_slice Try.underlying22 h with ⟨h1, _⟩ | ⟨m, A, acss, es, sp, rfl, h1, rfl, hg, hl, hall⟩
  · cases h1
    exact ⟨[], ⟨[], ⟨fun e he => by simp at he, .inl ⟨rfl, rfl⟩⟩, fun R a1 a2 a3 a4 a5 a6 q => by (cases q), rfl, fun i a t ha => by simp at ha⟩, fun r hr => by simp at hr⟩
  · cases h1
    rw [cells75] at hall ⊢
    have hsome : ∀ (i : Nat) acs, acss[i]? = some acs → ∃ x, (es ++ sp)[i]? = some x := fun i acs hi => by
      have hlt := (List.getElem?_eq_some_iff.1 hi).1
      have hlt2 : i < (es ++ sp).length := by rw [List.length_append]; omega
      exact ⟨_, List.getElem?_eq_getElem hlt2⟩
    have h1' : ∀ e ∈ acss, e.length = 41 := fun e he => by
      obtain ⟨i, hi⟩ := List.mem_iff_getElem?.1 he
      obtain ⟨x, hx⟩ := hsome i e hi
      exact (hall i x e hx hi).1
    have one : ∀ i, i < es.length → ∃ r : RowD, ∃ acs, acss[i]? = some acs ∧ (RowC acs r ∧ ∃ sv, SetOk H H.next acs r sv) ∧ (r.set.length + 2) * 8 ≤ 140737488355328 := fun i hi => by
      have hx : es[i]? = some es[i] := List.getElem?_eq_getElem hi
      have hx' : (es ++ sp)[i]? = some es[i] := by rw [List.getElem?_append_left hi]; exact hx
      have hlt : i < acss.length := by omega
      have hc : acss[i]? = some acss[i] := List.getElem?_eq_getElem hlt
      obtain ⟨_, s⟩ := hall i _ _ hx' hc
      obtain ⟨r, q, q', q''⟩ := shows_row s (fun w hww => hw w (by
        rw [weights_slice Try.underlying22]
        exact List.mem_cons_of_mem _ (List.mem_append_left _ (weightsAll_mem (List.getElem_mem hi) hww)))) hd
      exact ⟨r, _, hc, ⟨q, q'⟩, q''⟩
    have hfl := flatten_len h1'
    have htl : (acss.take es.length).length = es.length := by rw [List.length_take]; omega
    refine ⟨(List.range es.length).map fun i => if hi : i < es.length then (one i hi).choose else ⟨0, 0, 0, 0, 0, [], 0, 0, 0, []⟩, ⟨acss.take es.length, ⟨fun e he => h1' e (List.mem_of_mem_take he), .inr ⟨A, 0, 0, es.length + sp.length, true, acss.flatten, by rw [htl], by unfold AHeap.rowAt; rw [hg]; rfl, by rw [htl]; omega, ?_, ?_⟩⟩, fun R a1 a2 a3 a4 a5 a6 q => by (cases q; exact hd A _ hg), by rw [List.length_take, List.length_map, List.length_range]; omega, fun k rc r hrc hr => ?_⟩, fun r hr => ?_⟩
    · rw [htl, Nat.zero_add, hfl, hl]; exact Nat.mul_le_mul_right _ (Nat.le_add_right _ _)
    · rw [htl, List.drop_zero, flatten_take es.length h1']
    · rw [List.getElem?_map] at hr
      obtain ⟨j, hj, rfl⟩ := Option.map_eq_some_iff.1 hr
      have hlt : k < es.length := by
        have := (List.getElem?_eq_some_iff.1 hj).1
        simpa using this
      rw [List.getElem?_range hlt] at hj
      cases hj
      rw [List.getElem?_take, if_pos hlt] at hrc
      obtain ⟨acs, q1, q2⟩ := (one k hlt).choose_spec
      rw [dif_pos hlt]
      rw [q1] at hrc
      cases hrc
      exact q2.1
    · obtain ⟨i, hi, rfl⟩ := List.mem_map.1 hr
      have hlt : i < es.length := List.mem_range.1 hi
      rw [dif_pos hlt]
      obtain ⟨acs, q1, q2⟩ := (one i hlt).choose_spec
      exact q2.2
end Go.Proofs.Ythbjfkkjmecaaaa
namespace Go.Proofs.Ythbjfkkjmecaaaa
open Go Go.Vm
variable {X : Type}
theorem tells_true (m at_ y : Int) (hy : 0 ≤ y ∧ y < 256) (v0 : Value) (d0 : DataW X) (W : World) (hop : ∃ ρ H a0, Opened W ρ H ∧ VRel ρ a0 v0 ∧ ∃ n, shows Try.prog H n 22 [a0] d0) (hw0 : ∀ w ∈ d0.weights Try.prog 22, w ≤ reachBytes) :
    Calls Try.prog 6 #[v0, .int .i64 m, .int .i64 at_, .int .u8 y] W fun e w' => e = .returned (.bool true) ∧ Go.RowKit.Grown W w' ∧ ∀ c, c < W.heap.size → w'.heap[c]? = W.heap[c]? := by
  obtain ⟨ρ, H, a0, ho, hr0, ⟨n0, hs0⟩⟩ := hop
  have hd : ∀ A o, H.get A = some o → A < H.next := fun A o hA => by
    rcases Nat.lt_or_ge A H.next with h | h
    · exact h
    · rw [ho.wf A h] at hA; cases hA
  obtain ⟨rows, hrows, hset⟩ := shows_rows hs0 hw0 hd
  obtain ⟨k, H', hrun⟩ := tells_says (m := m) (at_ := at_) hrows hset hy
  exact calls_left swKn_ok tabIs Try.mixed hrun ho (.cons hr0 (.cons (.raw _) (.cons (.raw _) (.cons (.raw _) .nil))))
end Go.Proofs.Ythbjfkkjmecaaaa
