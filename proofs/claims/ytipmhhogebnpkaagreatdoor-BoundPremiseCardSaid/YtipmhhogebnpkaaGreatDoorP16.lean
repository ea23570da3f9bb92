/- What the rows of this seat say of the package-level variables is what the evaluator reads; the end of a call. -/
import Derived.Test.YtipmhhogebnpkaaGreatDoorRows
import Derived.Test.YtipmhhogebnpkaaGreatDoorP15
import Derived.ProofKit
import Derived.LaidMore
import Derived.OpenShut
import Derived.ChangeArms
import Derived.ChangeSame
import Derived.Stop.Joined
namespace Go.Proofs.YtipmhhogebnpkaaGreatDoor
open Go.ChangeShapes Go.WideShapes Go.ChangeAt Go.RowKit Go.Vm
set_option linter.unusedVariables false
section
variable {H : Type} {enc : TypeId × Value → H} {P : Program} {w W W' : World} {base fuel : Nat} {sp : Nat → Bool} {held : Bool}
theorem ints_at {t e : TypeId} {n : Nat} {k : IntKind} {cs : List Value} {ns : List Int} {ps : List MemPlace} (ht : P.underlying t = some (.array n e)) (he : P.underlying e = some (.int k)) (hc : P.cellsOf e = 1) (hct : P.cellsOf t = n) (hn : ns.length = n)
    (h : DataW.trod enc P w base sp held fuel t cs = some (.agg (ns.map fun m => .lit (.int k m)), ps)) : cs = ns.map (.int k) := by
  obtain ⟨xs, m, rfl, hx, hlen, hxl, hel⟩ := DataW.trod_array ht h
  have hx1 := (Prod.mk.inj hx).1
  have hx1' : ns.map (fun m => (DataW.lit (.int k m) : DataW H)) = xs.map (·.1) := by injection hx1
  rw [hc] at hel
  rw [hct] at hlen
  refine List.ext_getElem? fun i => ?_
  by_cases hi : i < n
  · have h1 := hel i hi
    obtain ⟨x, hxi⟩ : ∃ x, xs[i]? = some x := ⟨_, List.getElem?_eq_getElem (by omega)⟩
    rw [hxi] at h1
    obtain ⟨q, e1, e2, _⟩ := DataW.trod_int he h1
    have h2 : cs[i]? = some (.int k q) := by
      have : ((cs.drop (i * 1)).take 1)[0]? = some (.int k q) := by rw [e1]; rfl
      rw [List.getElem?_take, if_pos (by omega), List.getElem?_drop] at this
      simpa using this
    have h3 : (xs.map (·.1))[i]? = some (DataW.lit (.int k q)) := by rw [List.getElem?_map, hxi, e2]; rfl
    rw [← hx1', List.getElem?_map] at h3
    obtain ⟨m', h4, h5⟩ := Option.map_eq_some_iff.1 h3
    have : m' = q := by injection h5 with h5; injection h5
    rw [h2, List.getElem?_map, h4, this]; rfl
  · rw [List.getElem?_eq_none (by omega), List.getElem?_eq_none (by rw [List.length_map]; omega)]
theorem var_block {n : String} {g : Nat} {cs : Array Value} (hg : P.globalNamed n = some g) (h : w.var? P n = some cs) : ∃ e fz, w.heap[g]? = some (.cells cs e fz) := by
  simp only [World.var?, hg, Option.bind_some] at h
  split at h
  · rename_i cs' e fz hh
    cases h
    exact ⟨e, fz, hh⟩
  · cases h
theorem post_same {f : Func} {s : ChangeSpec} {apart fresh handsOn again : Bool} {args : Array Value} {v : Value} {ds gs : List (DataW H)} {before pa pv : List MemPlace}
    (hW : DataW.Whole enc P f.params.toList s.vars apart W args.toList ds gs before)
    (hres : ∀ (b : Nat) (sp : Nat → Bool) (hd : Bool), DataW.TrodAll enc P W' b sp hd f.resultTypes.toList (v.resultList f.resultTypes.size) (s.fn H (ds ++ gs)).results [])
    (hargs : ∀ sp : Nat → Bool, (∀ p ∈ before, sp p.block = true) → DataW.TrodAll enc P W' 0 sp true f.params.toList args.toList (s.fn H (ds ++ gs)).args pa)
    (hvars : ∀ sp : Nat → Bool, (∀ p ∈ before, sp p.block = true) → DataW.TrodVars enc P W' sp s.vars (s.fn H (ds ++ gs)).vars pv)
    (hps : before = pa ++ pv) (hk : W.keptBut W' (· ∈ before)) (hfz : ∀ a, a.block < W.heap.size → W'.frozen? a = W.frozen? a)
    (hok : ∀ (j : Nat) (t : TypeId) (r : Value), f.resultTypes[j]? = some t → (v.resultList f.resultTypes.size)[j]? = some r → Value.okWide P W' .any 0 t r) :
    s.post enc P f apart fresh handsOn again W args v W' := by
  have hlt := hW.lt
  have hold : ∀ p ∈ before, (fun b => decide (b < W.heap.size)) p.block = true := fun p hp => by simpa using hW.lt p hp
  refine ⟨ds, gs, before, [], pa, pv, hW, hres _ _ _, hargs _ hold, hvars _ hold, World.keptBut_mono (fun p hp => ⟨hp, ?_⟩) hk, fun _ => ?_⟩
  · rw [hps, List.mem_append] at hp
    exact Or.inr hp
  · obtain ⟨_, _, _, _, _, hz, hn⟩ := hW
    refine ⟨hok, _, _, ([] ++ pa) ++ pv, ⟨[] ++ pa, pv, trodAll_append (hargs _ (fun _ _ => rfl)) (hres _ _ _), hvars _ (fun _ _ => rfl), rfl, ?_, ?_⟩, ?_⟩
    · intro b off hp
      have hp' : MemPlace.cell b off ∈ before := by rw [hps]; simpa using hp
      rw [hfz _ (hlt _ hp')]
      exact hz b off hp'
    · intro ha
      have := hn ha
      rw [hps] at this
      simpa using this
    · intro p hp _
      rw [hps]
      simpa using hp
end
theorem gWidths : Tryz.prog.globalNamed "wicket/super.widths" = some 0 := by kernel_rfl
theorem gHalves : Tryz.prog.globalNamed "wicket/sum.halves" = some 1 := by kernel_rfl
theorem tWidths : (Tryz.prog.globals[0]?).map (·.type) = some 174 := by kernel_rfl
theorem tHalves : (Tryz.prog.globals[1]?).map (·.type) = some 253 := by kernel_rfl
abbrev laidTwo : List (String × DataW Unit) := [("wicket/sum.halves", Rows.laid_wicket_sum_halves), ("wicket/super.widths", Rows.laid_wicket_super_widths)]
theorem door_met (os : Os) (args : Array Value) : laidMetH Tryz.prog laidTwo ((World.doorLaid Tryz.prog 400 os).forCall (fun _ _ => 0) ⟨#[], args, []⟩).memory :=
  laidMetH_of_parts3 (fuel := 8) (laidMet_of_run' 8 (by kernel_rfl) (by kernel_rfl)) (by kernel_rfl) (by kernel_rfl)
theorem held_of_laid {W : World} (h : laidMetH Tryz.prog laidTwo W) : GlHeld W := by
  rw [MakeChecks.laidMetH_plain _ _ _ (by kernel_rfl)] at h
  obtain ⟨ps, ⟨g0, t0, cs0, f0, p0, q0, hg0, ht0, hv0, hd0, ⟨g1, t1, cs1, f1, p1, q1, hg1, ht1, hv1, hd1, _, _⟩, _⟩, _, _⟩ := h
  obtain rfl := Option.some.inj (gHalves.symm.trans hg0)
  obtain rfl := Option.some.inj (gWidths.symm.trans hg1)
  obtain rfl := Option.some.inj (tHalves.symm.trans ht0)
  obtain rfl := Option.some.inj (tWidths.symm.trans ht1)
  obtain ⟨e0, z0, b0⟩ := var_block hg0 hv0
  obtain ⟨e1, z1, b1⟩ := var_block hg1 hv1
  have c0 := ints_at (ns := [0, 498536548, 997073096, 651767980, 1994146192, 1802195444, 1303535960, 1342533948, 3988292384, 4027552580, 3604390888, 3412177804, 2607071920, 2262029012, 2685067896, 3183342108]) Tryz.underlying253 Tryz.underlying176 (by kernel_rfl) (by kernel_rfl) rfl hd0
  have c1 := ints_at (ns := [1, 1, 1, 1, 1, 1, 1, 3, 8, 8]) Tryz.underlying174 Tryz.underlying3 (by kernel_rfl) (by kernel_rfl) rfl hd1
  have a0 := congrArg List.toArray c0
  have a1 := congrArg List.toArray c1
  rw [Array.toArray_toList] at a0 a1
  intro x hx
  unfold glTab at hx
  rcases List.mem_cons.1 hx with rfl | hx
  · exact ⟨e1, z1, by rw [b1, a1]; rfl⟩
  · rcases List.mem_cons.1 hx with rfl | hx
    · exact ⟨e0, z0, by rw [b0, a0]; rfl⟩
    · cases hx
end Go.Proofs.YtipmhhogebnpkaaGreatDoor
