/- slices.Insert of one image, before the end: a known call. -/
import Derived.Test.YthbjfkkjmecaaaaT26
import Derived.Test.YthbjfkkjmecaaaaT25
set_option linter.unusedVariables false
set_option linter.unusedSimpArgs false
namespace Go.Proofs.Ythbjfkkjmecaaaa
open Go Go.Vm
variable {kn : Known} {env : Nat → Option AFunc}
variable {H : AHeap} {A X ver n p : Nat} {a b e : List AVal} {vs : Vers}
def raw1 : AVal → Bool
  | .raw v => v.oneCell'
  | _ => false
theorem raw1_one {l : List AVal} (h : l.all raw1 = true) : l.all AVal.one = true := by
  rw [List.all_eq_true] at h ⊢
  intro x hx
  have := h x hx
  cases x <;> simp_all [-getElem?_pos, raw1, AVal.one]
theorem raw1_raw {l : List AVal} (h : l.all raw1 = true) : ∀ x ∈ l, ∃ y, x = .raw y := fun x hx => by
  have := List.all_eq_true.1 h x hx
  cases x <;> simp_all [-getElem?_pos, raw1]
theorem EndK.mono {res : List ARes} {R R' : AVal → AHeap → Prop} (h : ∀ v H, R v H → R' v H) : ∀ e s, EndK res R e s → EndK res R' e s := fun e s hq => by
  cases e with
  | normal => obtain ⟨vs, g1, g2⟩ := hq; exact ⟨vs, g1, h _ _ g2⟩
  | ret => obtain ⟨vs, g1, g2⟩ := hq; exact ⟨vs, g1, h _ _ g2⟩
  | _ => exact hq
theorem insCalls (henv : EnvOk Try.prog env) (hm : Try.prog.follows .mixedOrders = true) (h : env 121 = some a121) (hg : H.get A = some (.row vs)) (hv : vs[ver]? = some (some (0, a ++ b))) (ha : a.length = p * 33) (hb : b.length = (n - p) * 33) (hp : p < n) (hgX : ∃ vs, H.get X = some (.row vs)) (hx : H.rowAt X 0 = some e) (hAX : X ≠ A)
    (he : e.length = 33) (ha1 : a.all raw1 = true) (hb1 : b.all raw1 = true) (he1 : e.all raw1 = true) (hn : n < 1000000000000) (hwf : ∀ Y, H.next ≤ Y → H.get Y = none) :
    ACalls Try.prog 121 [.slice A ver 0 n n false 33, vi p, .slice X 0 0 1 1 true 33] H fun v' H' => v' = .slice A vs.length 0 (n + 1) (n + 1) false 33 ∧ H' = (H.up 1).set A (.row (lastVer vs.length (a ++ (e ++ b)))) := by
  have hl : (a ++ b).length = n * 33 := by simp [-getElem?_pos]; omega
  have hverlt := (List.getElem?_eq_some_iff.1 hv).1
  have hor : OracleOk Try.prog (ovOr fun _ _ _ => none) := ovOr_ok fun fv args H v H' h => by cases h
  have hgo : OracleGoY Try.prog (ovOr fun _ _ _ => none) := ovOr_y fun g caps L H x h => by cases h
  have hlt : ∀ {Y o}, H.get Y = some o → Y < H.next := fun {Y o} q => by
    rcases Nat.lt_or_ge Y H.next with q2 | q2
    · exact q2
    · rw [hwf Y q2] at q; cases q
  obtain ⟨vsX, hgX⟩ := hgX
  refine ACalls.sized hg hv hl (by omega) (fun x hx => ?_) fun cap junk hcap hj => ?_
  · rcases List.mem_append.1 hx with q | q
    · exact raw1_raw ha1 x q
    · rcases List.mem_append.1 q with q | q
      · exact raw1_raw he1 x q
      · exact raw1_raw hb1 x q
  obtain ⟨Hc, hHc⟩ : ∃ Hc, Hc = H.set A (.row (vs.set ver (some (0, a ++ b ++ junk)))) := ⟨_, rfl⟩
  rw [← hHc]
  have hgA : Hc.get A = some (.row (vs.set ver (some (0, a ++ b ++ junk)))) := by rw [hHc]; exact AHeap.get_set_same _ _ _
  have hgXc : Hc.get X = some (.row vsX) := by rw [hHc, AHeap.get_set_ne _ _ hAX]; exact hgX
  have hxc : Hc.rowAt X 0 = some e := by rw [rowAt_eq, hgXc, ← hgX, ← rowAt_eq]; exact hx
  have hvc : (vs.set ver (some (0, a ++ b ++ junk)))[ver]? = some (some (0, a ++ (b ++ junk))) := by rw [List.getElem?_set_self hverlt, List.append_assoc]
  have hnx : Hc.next = H.next := by rw [hHc]; rfl
  by_cases hc : n < cap
  · refine WpR.calls henv 95 [0, 1, 2, 6, 7, 8, 9, 16, 22, 31, 68] h rfl (by simp [-getElem?_pos]) (WpR.of (n := 0) hor hm hgo ((ins_in (RowW.refl hgA hvc) hxc ⟨_, hgXc⟩ ⟨_, hgA⟩ hAX ha hb hp he (raw1_one he1) (raw1_one hb1) hj hc hn).mono (EndK.mono fun v H' ⟨hv', rest, hw⟩ => ?_)))
    obtain ⟨vs', q1, q2, q3⟩ := hw.row
    have hlo : (a ++ (e ++ b)).length = (n + 1) * 33 := by simp [-getElem?_pos]; omega
    refine .inl ⟨vs', _, hv', by omega, by omega, by rw [hw.next, hnx], fun Y hY => by rw [hw.other Y hY, hHc, AHeap.get_set_ne _ _ hY], q1, by simp [-getElem?_pos, q2], q3, ?_, by simp only [List.length_append]; omega⟩
    rw [show a ++ (e ++ (b ++ rest)) = (a ++ (e ++ b)) ++ rest from by simp [-getElem?_pos], List.take_left']
    rfl
  · have hcn : cap = n := by omega
    subst hcn
    have hj0 : junk = [] := by
      rw [Nat.sub_self, Nat.zero_mul] at hj; exact List.length_eq_zero_iff.1 hj
    refine WpR.calls henv 95 [0, 1, 2, 6, 7, 8, 9, 16, 22, 31, 68] h rfl (by simp [-getElem?_pos]) (WpR.of (n := 0) hor hm hgo ((ins_new (by rw [rowAt_eq, hgA]; simp only [rowOf, hvc]; rw [hj0, List.append_nil]) hxc (by rw [hnx]; exact hlt hgX) (by rw [hnx]; exact hlt hg) ha hb hp he (raw1_one he1) (raw1_one hb1) hn).mono (EndK.mono fun v H' ⟨hv', hw⟩ => ?_)))
    obtain ⟨vs', q1, q2, q3⟩ := hw.row
    have hvs' : vs' = [some (0, a ++ (e ++ b))] := by
      match vs', q2, q3 with
      | [x], _, q3 => simp [-getElem?_pos] at q3; rw [q3]
    subst hvs'
    rw [hnx] at hv' q1
    refine .inr ⟨hv', by omega, by rw [hw.next]; simp [-getElem?_pos, hnx], fun Y hY => ?_, q1⟩
    rw [hw.other Y (by omega), AHeap.get_push_ne _ _ (by omega)]
def insOf (H : AHeap) (A ver n n' : Nat) (p : Int) (X : Nat) : Res := match H.get A with
  | some (.row vs) => match vs[ver]? with
    | some (some (0, cells)) => match H.get X with
      | some (.row _) => match H.rowAt X 0 with
        | some e => if n' = n ∧ 0 ≤ p ∧ p < n ∧ cells.length = n * 33 ∧ e.length = 33 ∧ X ≠ A ∧ n < 1000000000000 ∧ cells.all raw1 = true ∧ e.all raw1 = true then
          some (.slice A vs.length 0 (n + 1) (n + 1) false 33, (H.up 1).set A (.row (lastVer vs.length (cells.take (p.toNat * 33) ++ (e ++ cells.drop (p.toNat * 33)))))) else none
        | none => none
      | _ => none
    | _ => none
  | _ => none
def insKn : Known := fun f args H => if f = 121 then match args with
  | [.slice A ver 0 n n' false 33, .raw (.int .i64 p), .slice X 0 0 1 1 true 33] => insOf H A ver n n' p X
  | _ => none else none
theorem insKn_ok (henv : EnvOk Try.prog env) (hm : Try.prog.follows .mixedOrders = true) (h : env 121 = some a121) : KnownOk Try.prog insKn := fun f args H v H' hk => by
  unfold insKn at hk
  split at hk
  · rename_i hf
    subst hf
    split at hk
    · rename_i A ver n n' p X
      refine ⟨henv.go h, ?_⟩
      unfold insOf at hk
      split at hk
      · rename_i vs hg
        split at hk
        · rename_i cells hv
          split at hk
          · rename_i vsX hgX
            split at hk
            · rename_i e hx
              split at hk
              · rename_i hc
                obtain ⟨rfl, c4, c5, c6, c7, c8, c9, c10, c11⟩ := hc
                cases hk
                intro B ρ w cargs hH hargs
                obtain ⟨q, rfl⟩ : ∃ q : Nat, p = (q : Int) := ⟨p.toNat, by omega⟩
                rw [List.all_eq_true] at c10
                have := insCalls (n := n') (p := q) henv hm h hg (a := cells.take (q * 33)) (b := cells.drop (q * 33)) (by rw [List.take_append_drop]; exact hv) (by rw [List.length_take]; omega) (by rw [List.length_drop]; omega) (by omega) ⟨_, hgX⟩ hx c8 c7
                  (by rw [List.all_eq_true]; exact fun x hx => c10 x (List.mem_of_mem_take hx)) (by rw [List.all_eq_true]; exact fun x hx => c10 x (List.mem_of_mem_drop hx)) c11 c9 hH.wf
                exact this B ρ w cargs hH hargs
              · cases hk
            · cases hk
          · cases hk
        · cases hk
      · cases hk
    · cases hk
  · cases hk
end Go.Proofs.Ythbjfkkjmecaaaa
namespace Go.Proofs.Ythbjfkkjmecaaaa
open Go Go.Vm
variable {kn : Known} {env : Nat → Option AFunc}
variable {H H' : AHeap} {N p X : Nat} {v : AVal} {es : List (List AVal)} {e : List AVal}
def InsC (or : Oracle) : Prop := ∀ (H : AHeap) (N : Nat) (v : AVal) (es : List (List AVal)) (p X : Nat) (e : List AVal), N ≤ H.next → SliceE H N 33 v es → (∀ e ∈ es, e.all raw1 = true) → p ≤ es.length → es.length < 1000000000000 → H.get X = some (.row [some (0, e)]) → X < H.next → (v.lies fun R => R ≠ X) → e.length = 33 → e.all raw1 = true →
  ∃ v' H', or (.func (.func 121) []) [v, vi p, .slice X 0 0 1 1 true 33] H = some (v', H') ∧ SliceE H' N 33 v' (es.take p ++ e :: es.drop p) ∧ H.next ≤ H'.next ∧ (∀ A, A < H.next → (v.lies fun R => R ≠ A) → H'.get A = H.get A) ∧ v'.one = true ∧ ∀ q : Nat → Prop, v.lies q → (∀ R, H.next ≤ R → q R) → v'.lies q
theorem all_flatten {q : AVal → Bool} {es : List (List AVal)} (h : ∀ e ∈ es, e.all q = true) : es.flatten.all q = true := by
  rw [List.all_eq_true]
  intro x hx
  obtain ⟨l, h1, h2⟩ := List.mem_flatten.1 hx
  exact List.all_eq_true.1 (h l h1) x h2
theorem flatten_drop {es : List (List AVal)} {m : Nat} (k : Nat) (h : ∀ e ∈ es, e.length = m) : (es.drop k).flatten = es.flatten.drop (k * m) := by
  have h1 : es.flatten = (es.take k).flatten ++ (es.drop k).flatten := by rw [← List.flatten_append, List.take_append_drop]
  have h2 := flatten_take k h
  rw [h2] at h1
  have h3 : es.flatten = es.flatten.take (k * m) ++ es.flatten.drop (k * m) := (List.take_append_drop _ _).symm
  exact (List.append_cancel_left (h1.symm.trans h3))
theorem insC_or (he : env 121 = some a121) (hk : ∀ args H, kn 121 args H = insKn 121 args H) (n : Nat) : InsC (callM kn env (n + 1)) := fun H N v es p X e hN hs hes hp hl hX hXn hv hel he1 => by
  have hx : H.rowAt X 0 = some e := by rw [rowAt_eq, hX]; rfl
  by_cases hpn : p < es.length
  · obtain ⟨h0, ⟨rfl, rfl⟩ | ⟨R, ver, vs, h1, h2, rfl, h4, h5⟩⟩ := hs
    · simp [-getElem?_pos] at hpn
    have hne : X ≠ R := fun q => hv R ver 0 es.length es.length false 33 rfl q.symm
    have hlen := flatten_len h0
    refine ⟨_, _, knM n (by rw [List.append_nil, hk]; simp only [insKn, if_true, insOf, h4, h5, hX, hx]; exact if_pos ⟨trivial, by omega, by omega, hlen, hel, hne, hl, all_flatten hes, he1⟩), ?_, ?_, ?_, rfl, fun q hq _ R' ver' off len kcap ex esz' e' => ?_⟩
    · have hkt : (es.take p ++ e :: es.drop p).length = es.length + 1 := by simp [-getElem?_pos]; omega
      refine ⟨fun x hx => ?_, .inr ⟨R, vs.length, _, h1, by simp [-getElem?_pos]; omega, by rw [hkt], AHeap.get_set_same _ _ _, ?_⟩⟩
      · rcases List.mem_append.1 hx with q | q
        · exact h0 x (List.mem_of_mem_take q)
        · rcases List.mem_cons.1 q with rfl | q
          · exact hel
          · exact h0 x (List.mem_of_mem_drop q)
      · rw [Int.toNat_natCast, List.flatten_append, List.flatten_cons, flatten_take p h0, flatten_drop p h0, List.getElem?_append_right (by simp [-getElem?_pos])]
        simp [-getElem?_pos]
    · simp [-getElem?_pos]
    · intro A hA hvA
      rw [AHeap.get_set_ne _ _ (fun q => hvA R ver 0 es.length es.length false 33 rfl q.symm)]; rfl
    · cases e'
      exact hq R ver 0 es.length es.length false 33 rfl
  · have hpe : p = es.length := by omega
    subst hpe
    obtain ⟨v', H', ha, hs', hn', _, hk', hl'⟩ := hs.append (bytes := 40) hN hx hel (by omega) (by omega) (raw1_one he1) (by omega) (ex := true) (kc := 1)
    have hno : kn 121 [v, vi es.length, .slice X 0 0 1 1 true 33] H = none := by
      rw [hk]
      obtain ⟨h0, ⟨rfl, rfl⟩ | ⟨R, ver, vs, h1, h2, rfl, h4, h5⟩⟩ := hs
      · rfl
      · simp only [insKn, if_true, insOf, h4, h5, hX, hx]
        exact if_neg fun q => by obtain ⟨_, _, q, _⟩ := q; omega
    have hsl : ∃ u, aSliceS 33 v (some (vi es.length)) none none = some u := by
      obtain ⟨h0, ⟨rfl, rfl⟩ | ⟨R, ver, vs, h1, h2, rfl, h4, h5⟩⟩ := hs
      · exact ⟨_, rfl⟩
      · exact ⟨_, by simp [-getElem?_pos, aSliceS, aBoundO, aBound]; rfl⟩
    obtain ⟨u, hu⟩ := hsl
    have hlv : aLenS v = some (aint es.length) := by
      obtain ⟨h0, ⟨rfl, rfl⟩ | ⟨R, ver, vs, h1, h2, rfl, h4, h5⟩⟩ := hs <;> rfl
    obtain ⟨_, _, h1, rfl, rfl⟩ := Wp.call (R := fun v1 H1 => v1 = v' ∧ H1 = H') 95 [0, 1, 2, 6, 7, 8, 9, 16, 22, 31, 68] he hno rfl (by simp [-getElem?_pos]) (n := n) (by
      have hlx : aLenS (.slice X 0 0 1 1 true 33) = some (aint 1) := rfl
      repeat (first | apply Wp.seq | apply Wp.blk | apply Wp.ret | apply Wp.skip | apply Wp.exit | apply Wp.cT rfl | apply Wp.cF rfl | ((apply Wp.reg; (repeat (apply Ex.cons; (simp (disch := omega) [-getElem?_pos, hu, hlv, ha, hlx]; rfl))); exact Ex.nil; rfl; (simp; rfl))) | ((apply Wp.draw; (repeat (first | ((first | apply Dr.q rfl rfl | apply Dr.r rfl rfl); (simp (disch := omega) [-getElem?_pos, hu, hlv, ha, hlx]; rfl); (simp; rfl)) | (apply Dr.imm rfl; (simp (disch := omega) [-getElem?_pos, hu, hlv, ha, hlx]; rfl); (focus first | (simp [-getElem?_pos]; done) | (simp [-getElem?_pos]; omega))))); exact Dr.nil; rfl; (simp (disch := omega) [-getElem?_pos, hu, hlv, ha, hlx]); (simp; rfl))))
      simp [-getElem?_pos, a121])
    refine ⟨_, _, h1, ?_, hn', fun A hA hvA => hk' A hA hvA, ?_, hl'⟩
    · rw [List.take_length, List.drop_length]; exact hs'
    · obtain ⟨h0, ⟨rfl, _⟩ | ⟨R, ver, vs, h1, h2, rfl, h4, h5⟩⟩ := hs' <;> rfl
end Go.Proofs.Ythbjfkkjmecaaaa
namespace Go.Proofs.Ythbjfkkjmecaaaa
open Go Go.Vm
variable {kn : Known} {env : Nat → Option AFunc}
variable {H H' H1 : AHeap} {N B M clock i : Nat} {b : List TxD} {tv sv rv wv sv' rv' wv' : AVal} {es : AEntries} {tvs : List (List AVal)} {o o' o1 : Nat → Nat} {e : List AVal} {x x' : TxD} {r : RowD} {rc : List AVal}
theorem Bk.putTx (hb : Bk H N B b tv M es clock tvs o) {k f : Nat} {y : AVal} (hx : b[k]? = some x) (he : tvs[k]? = some (txc x sv rv wv)) (hn : H.next ≤ H1.next) (hg : ∀ A, A < H.next → o A ≠ 3 * k + 3 → o A ≠ 3 * k + 4 → o A ≠ 3 * k + 5 → H1.get A = H.get A)
    (hgN : ∀ A, A < N → H1.get A = H.get A) (ho : ∀ A, A < H.next → o1 A = o A) (hT : TxAt H1 N o1 k (txc x' sv' rv' wv') x' sv' rv' wv') (hspl : spl (txc x sv rv wv) f [y] = txc x' sv' rv' wv') (hf : f < 12) (hy : y.one = true) (hon : x'.on = x.on) (hcl : x'.client = x.client) :
    ∃ R ver H2 tvs', tv = .slice R ver 0 b.length b.length false 12 ∧ H1.write R ver (k * 12 + f) [y] = some H2 ∧ Bk H2 N B (b.set k x') tv M es clock tvs' o1 ∧ H2.next = H1.next ∧ (∀ A, A < N → H2.get A = H.get A) ∧ tvs'[k]? = some (txc x' sv' rv' wv') ∧ ∀ A, A ≠ R → H2.get A = H1.get A := by
  have hk := (List.getElem?_eq_some_iff.1 hx).1
  have hl := hb.each.1
  have hs1 : SliceE H1 N 12 tv tvs := slice_move hb.txs hb.txsL hn fun A _ a c => hg A a (by omega) (by omega) (by omega)
  have hL1 : Lies N H1 o1 2 tv := hb.txsL.move hn ho
  obtain ⟨R, ver, H2, g1, g2, g3, g4, g5, g6, g7⟩ := hs1.store he (f := f) (vals := [y]) (by simp [-getElem?_pos]) (by simp [-getElem?_pos]; omega) (by simp [-getElem?_pos, hy])
  rw [hl] at g1
  have hR2 : o1 R = 2 := (hL1 _ _ _ _ _ _ _ g1).2.2
  have h27 : ∀ A, o1 A ≠ 2 → H2.get A = H1.get A := fun A hA => g7 A fun e => hA (by rw [e, hR2])
  have hB := hb.hB
  have hM := hb.hM
  refine ⟨R, ver, H2, _, g1, g4, ⟨?_, ?_, ?_, g5, by rw [hspl] at *; exact hL1.move (by omega) fun _ _ => rfl, ⟨by simp [-getElem?_pos, hl], fun i e z hi hz => ?_⟩, by rw [ho B hB.2, hb.oB], by rw [ho M hM.2, hb.oM], ⟨hB.1, by omega⟩, ⟨hM.1, by omega⟩⟩, g6, fun A hA => by rw [g7 A (by omega), hgN A hA], ?_, g7⟩
  · show H2.get B = _
    rw [h27 B (by rw [ho B hB.2, hb.oB]; omega), hg B hB.2 (by rw [hb.oB]; omega) (by rw [hb.oB]; omega) (by rw [hb.oB]; omega)]; exact hb.cells
  · rw [h27 M (by rw [ho M hM.2, hb.oM]; omega), hg M hM.2 (by rw [hb.oM]; omega) (by rw [hb.oM]; omega) (by rw [hb.oM]; omega)]; exact hb.map
  · refine hb.ok.same (live_same (by simp [-getElem?_pos]) fun j => ?_) fun j _ => clientAt_set hx hcl
    unfold onAt
    rw [List.getElem?_set]
    by_cases e : k = j
    · subst e; rw [if_pos rfl, if_pos hk, hx]; exact hon
    · rw [if_neg e]
  · rw [List.getElem?_set] at hi hz
    by_cases e1 : k = i
    · subst e1
      rw [if_pos rfl, if_pos (by omega)] at hi hz
      cases hi; cases hz
      rw [hspl]
      exact ⟨sv', rv', wv', hT.move (by omega) (fun A _ _ hA => h27 A (by omega)) fun _ _ => rfl⟩
    · rw [if_neg e1] at hi hz
      obtain ⟨sv, rv, wv, h⟩ := hb.each.2 i e z hi hz
      have h1 := h.move (H' := H1) (o' := o1) hn (fun A _ a hA => hg A a (by omega) (by omega) (by omega)) ho
      exact ⟨sv, rv, wv, h1.move (by omega) (fun A _ _ hA => h27 A (by omega)) fun _ _ => rfl⟩
  · rw [List.getElem?_set_self (by omega), hspl]
abbrev ints (l : List Int) : List (List AVal) := l.map fun n => [vi n]
theorem ints_one (l : List Int) : ∀ e ∈ ints l, e.all AVal.one = true := fun e he => by
  obtain ⟨n, _, rfl⟩ := List.mem_map.1 he
  rfl
theorem c111 (h : Fn kn env 111 a111) (n : Nat) {v : AVal} {l : List Int} (hv : RdE H 1 v (ints l)) (hvl : v.lies (· < H.next)) (hl : l.length * 8 ≤ 140737488355328) :
    ∃ v' H', callM kn env (n + 1) (.func (.func 111) []) [v] H = some (v', H') ∧ Grow H H' ∧ SetV H' H.next v' l ∧ v'.lies (fun R => H.next ≤ R ∧ R < H'.next) ∧ v'.one = true := by
  rcases id hv with ⟨h0, ⟨rfl, h1⟩ | ⟨R, ver, off, kcap, ex, cells, rfl, h2⟩⟩
  · have : l = [] := by simpa [-getElem?_pos] using h1
    subst this
    refine ⟨anil, H, Wp.call1 8 [0, 2, 4] h.e (h.no _ _) rfl (by simp [-getElem?_pos]) ?_, Grow.refl _, .inl (SliceE.nil _ _ _), (fun R ver off len kc ex esz e => by cases e), rfl⟩
    repeat (first | apply Wp.seq | apply Wp.blk | apply Wp.ret | apply Wp.skip | apply Wp.exit | apply Wp.cT rfl | apply Wp.cF rfl | ((apply Wp.reg; (repeat (apply Ex.cons; (simp (disch := omega) [-getElem?_pos, aEqP]; rfl))); exact Ex.nil; rfl; (simp; rfl))))
    simp [-getElem?_pos, a111]
  · have hg := Grow.push H (.row [some (0, [])])
    have hv1 := hv.grow hg hvl
    by_cases hz : l = []
    · subst hz
      refine ⟨.slice H.next 0 0 0 0 true 1, H.push (.row [some (0, [])]), Wp.call1 8 [0, 2, 4] h.e (h.no _ _) rfl (by simp [-getElem?_pos]) ?_, hg, .inr ⟨rfl, _, rfl, AHeap.get_push_same _ _⟩, (fun R ver off len kc ex esz e => by cases e; simp [-getElem?_pos]), rfl⟩
      have ha : aAppend (H.push (.row [some (0, [])])) 1 8 (.slice H.next 0 0 0 0 true 1) (.slice R ver off (ints []).length kcap ex 1) = some (.slice H.next 0 0 0 0 true 1, H.push (.row [some (0, [])])) := by
        have := hv1.aCells
        simp only [List.map_nil, List.length_nil] at this
        simp [-getElem?_pos, aAppend, aLen, this]
      simp only [List.map_nil, List.length_nil] at ha
      repeat (first | apply Wp.seq | apply Wp.blk | apply Wp.ret | apply Wp.skip | apply Wp.exit | apply Wp.cT rfl | apply Wp.cF rfl | ((apply Wp.reg; (repeat (apply Ex.cons; (simp (disch := omega) [-getElem?_pos, aEqP, ha, aFill, repl]; rfl))); exact Ex.nil; rfl; (simp; rfl))))
      simp [-getElem?_pos, a111]
    · obtain ⟨ha, hs⟩ := hv1.appendNew (bytes := 8) (X := H.next) (by simpa [-getElem?_pos] using hz) (by omega) (by omega) (ints_one l) (by simpa [-getElem?_pos] using hl) (by simp [-getElem?_pos])
      refine ⟨_, _, Wp.call1 8 [0, 2, 4] h.e (h.no _ _) rfl (by simp [-getElem?_pos]) ?_, hg.trans (Grow.push _ _), .inl (hs.move (by simp [-getElem?_pos]) (Nat.le_refl _) fun _ _ _ => rfl), (fun R ver off len kc ex esz e => by cases e; simp [-getElem?_pos]), rfl⟩
      simp only [List.length_map] at ha
      repeat (first | apply Wp.seq | apply Wp.blk | apply Wp.ret | apply Wp.skip | apply Wp.exit | apply Wp.cT rfl | apply Wp.cF rfl | ((apply Wp.reg; (repeat (apply Ex.cons; (simp (disch := omega) [-getElem?_pos, aEqP, ha, aFill, repl]; rfl))); exact Ex.nil; rfl; (simp; rfl))))
      simp [-getElem?_pos, a111]
def Rises (l : List ImgD) : Prop := l.Pairwise fun x y => x.blk < y.blk
theorem writeD_mem {l : List ImgD} {x y : ImgD} (h : y ∈ writeD l x) : y ∈ l ∨ y = x := by
  induction l with
  | nil => simp [-getElem?_pos, writeD] at h; exact .inr h
  | cons z l ih =>
    unfold writeD at h
    split at h
    · rcases List.mem_cons.1 h with rfl | h
      · exact .inl (List.mem_cons_self ..)
      · rcases ih h with h | h
        · exact .inl (List.mem_cons_of_mem _ h)
        · exact .inr h
    · split at h
      · rcases List.mem_cons.1 h with rfl | h
        · exact .inr rfl
        · exact .inl (List.mem_cons_of_mem _ h)
      · rcases List.mem_cons.1 h with rfl | h
        · exact .inr rfl
        · exact .inl h
theorem Rises.write {l : List ImgD} (h : Rises l) (x : ImgD) : Rises (writeD l x) := by
  induction l with
  | nil => simp [-getElem?_pos, writeD, Rises]
  | cons z l ih =>
    obtain ⟨h1, h2⟩ := List.pairwise_cons.1 h
    unfold writeD
    split
    · rename_i hlt
      refine List.pairwise_cons.2 ⟨fun y hy => ?_, ih h2⟩
      rcases writeD_mem hy with hy | rfl
      · exact h1 y hy
      · exact hlt
    · split
      · rename_i he
        exact List.pairwise_cons.2 ⟨fun y hy => by rw [← he]; exact h1 y hy, h2⟩
      · rename_i h3 h4
        refine List.pairwise_cons.2 ⟨fun y hy => ?_, h⟩
        rcases List.mem_cons.1 hy with rfl | hy
        · omega
        · have := h1 y hy; omega
theorem writeD_at : ∀ {l : List ImgD} {p : Nat} {x : ImgD}, p ≤ l.length → (∀ j y, j < p → l[j]? = some y → y.blk < x.blk) → (∀ y, l[p]? = some y → x.blk ≤ y.blk) →
    (∀ y, l[p]? = some y → y.blk = x.blk → writeD l x = l.set p x) ∧ ((∀ y, l[p]? = some y → y.blk ≠ x.blk) → writeD l x = l.take p ++ x :: l.drop p)
  | [], p, x, hp, h1, h2 => by
    have : p = 0 := by simpa [-getElem?_pos] using hp
    subst this
    simp [-getElem?_pos, writeD]
  | z :: l, 0, x, hp, h1, h2 => by
    have := h2 z rfl
    refine ⟨fun y hy e => ?_, fun hn => ?_⟩
    · simp [-getElem?_pos] at hy; subst hy
      unfold writeD
      rw [if_neg (by omega), if_pos e]; rfl
    · have := hn z rfl
      unfold writeD
      rw [if_neg (by omega), if_neg (by omega)]; rfl
  | z :: l, p + 1, x, hp, h1, h2 => by
    have hz := h1 0 z (by omega) rfl
    obtain ⟨g1, g2⟩ := writeD_at (l := l) (p := p) (x := x) (by simpa [-getElem?_pos] using hp) (fun j y hj hy => h1 (j + 1) y (by omega) hy) (fun y hy => h2 y hy)
    unfold writeD
    rw [if_pos hz]
    refine ⟨fun y hy e => ?_, fun hn => ?_⟩
    · rw [g1 y hy e]; rfl
    · rw [g2 fun y hy => hn y hy]; rfl
theorem c120 (h : Fn kn env 120 a120) (n : Nat) {e : List AVal} {z y : Int} (he : e[0]? = some (vi z)) (hl : e.length = 33) :
    callM kn env (n + 1) (.func (.func 120) []) [.agg e, vi y] H = some (vi (if z < y then -1 else if y < z then 1 else 0), H.push (.row [some (0, e)])) := by
  by_cases h1 : z < y
  · refine Wp.call1 15 [0, 1, 2, 4, 5, 10] h.e (h.no _ _) rfl (by simp [-getElem?_pos]) ?_
    repeat (first | apply Wp.seq | apply Wp.blk | apply Wp.ret | apply Wp.skip | apply Wp.exit | apply Wp.cT rfl | apply Wp.cF rfl | ((apply Wp.reg; (repeat (apply Ex.cons; (simp (disch := omega) [-getElem?_pos, he, hl]; rfl))); exact Ex.nil; rfl; (simp; rfl))))
    simp [-getElem?_pos, a120, h1]
  · by_cases h2 : y < z
    · refine Wp.call1 15 [0, 1, 2, 4, 5, 10] h.e (h.no _ _) rfl (by simp [-getElem?_pos]) ?_
      repeat (first | apply Wp.seq | apply Wp.blk | apply Wp.ret | apply Wp.skip | apply Wp.exit | apply Wp.cT rfl | apply Wp.cF rfl | ((apply Wp.reg; (repeat (apply Ex.cons; (simp (disch := omega) [-getElem?_pos, he, hl]; rfl))); exact Ex.nil; rfl; (simp; rfl))))
      simp [-getElem?_pos, a120, h1, h2]
    · refine Wp.call1 15 [0, 1, 2, 4, 5, 10] h.e (h.no _ _) rfl (by simp [-getElem?_pos]) ?_
      repeat (first | apply Wp.seq | apply Wp.blk | apply Wp.ret | apply Wp.skip | apply Wp.exit | apply Wp.cT rfl | apply Wp.cF rfl | ((apply Wp.reg; (repeat (apply Ex.cons; (simp (disch := omega) [-getElem?_pos, he, hl]; rfl))); exact Ex.nil; rfl; (simp; rfl))))
      simp [-getElem?_pos, a120, h1, h2]
abbrev imgs (l : List ImgD) : List (List AVal) := l.map ImgD.cells
structure Place (l : List ImgD) (y : Int) (p : Nat) : Prop where
  le : p ≤ l.length
  lt : ∀ j z, j < p → l[j]? = some z → z.blk < y
  ge : ∀ z, l[p]? = some z → y ≤ z.blk
theorem rises_lt {l : List ImgD} (h : Rises l) {i j : Nat} {x y : ImgD} (hx : l[i]? = some x) (hy : l[j]? = some y) (hij : i < j) : x.blk < y.blk := by
  obtain ⟨h1, rfl⟩ := List.getElem?_eq_some_iff.1 hx
  obtain ⟨h2, rfl⟩ := List.getElem?_eq_some_iff.1 hy
  exact List.pairwise_iff_getElem.1 h i j h1 h2 hij
theorem c119 (h : Fn kn env 119 a119) (h120 : Fn kn env 120 a120) (n : Nat) {l : List ImgD} (hs : SliceE H N 33 wv (imgs l)) (hr : Rises l) (hl : l.length < 1000000000000) (hn : l.length + 5 < n) (y : Int) :
    ∃ p fd H', callM kn env (n + 2) (.func (.func 119) []) [wv, vi y, .func (.func 120) []] H = some (.tuple [vi (p : Nat), abool fd], H') ∧ Grow H H' ∧ Place l y p ∧ (fd = true ↔ ∃ z, l[p]? = some z ∧ z.blk = y) := by
  have hlen : aLenS wv = some (vi l.length) := by have := hs.rd.lenS; simpa [-getElem?_pos] using this
  have c := fun (H' : AHeap) (z : ImgD) (hz : z ∈ l) => c120 h120 n (H := H') (e := z.cells) (z := z.blk) (y := y) rfl
  have key : ∀ Q : Exit → KS → Prop, (∀ (p : Nat) H', Grow H H' → Place l y p → Wp (callM kn env (n + 1)) (n + 1) 49 [0, 1, 2, 6, 7, 8, 9, 10, 11, 17, 31] (sndC (sndC (sndC (sndC a119.code)))) ([(0, wv), (1, vi y), (2, .func (.func 120) []), (8, vi l.length), (9, vi p)], H') Q) →
      Wp (callM kn env (n + 1)) (n + 1) 49 [0, 1, 2, 6, 7, 8, 9, 10, 11, 17, 31] a119.code ([(0, wv), (1, vi y), (2, .func (.func 120) [])], H) Q := by
    intro Q hQ
    (repeat (first | apply Wp.seq | apply Wp.blk)); (apply Wp.reg; (repeat (apply Ex.cons; (simp (disch := omega) [-getElem?_pos]; rfl))); exact Ex.nil; rfl; (simp; rfl))
    (repeat (first | apply Wp.seq | apply Wp.blk)); (apply Wp.reg; (repeat (apply Ex.cons; (simp (disch := omega) [-getElem?_pos, hlen]; rfl))); exact Ex.nil; rfl; (simp; rfl))
    (repeat (first | apply Wp.seq | apply Wp.blk)); (apply Wp.reg; (repeat (apply Ex.cons; (simp (disch := omega) [-getElem?_pos]; rfl))); exact Ex.nil; rfl; (simp; rfl))
    repeat (first | apply Wp.seq | apply Wp.blk)
    apply Wp.loop (α := Nat × Nat × AHeap) (fun x => [(0, wv), (1, vi y), (2, .func (.func 120) []), (8, vi l.length), (9, vi x.1), (10, vi x.2.1)]) (·.2.2) (fun x => x.1 ≤ x.2.1 ∧ x.2.1 ≤ l.length ∧ Grow H x.2.2 ∧ (∀ j z, j < x.1 → l[j]? = some z → z.blk < y) ∧ ∀ z, l[x.2.1]? = some z → y ≤ z.blk)
      (fun x => x.2.1 - x.1) (0, l.length, H) rfl ⟨by omega, Nat.le_refl _, Grow.refl _, fun j z hj => by omega, fun z hz => by simp [-getElem?_pos] at hz⟩ (by simp [-getElem?_pos]; omega) (by simp [-getElem?_pos])
    rintro ⟨i, j, H1⟩ ⟨hij, hjl, hg, hlt, hge⟩
    dsimp only at hij hjl hg hlt hge ⊢
    (repeat (first | apply Wp.seq | apply Wp.blk)); (apply Wp.reg; (repeat (apply Ex.cons; (simp (disch := omega) [-getElem?_pos]; rfl))); exact Ex.nil; rfl; (simp; rfl))
    (repeat (first | apply Wp.seq | apply Wp.blk)); apply Wp.ite rfl
    · intro hc
      apply Wp.skip
      obtain ⟨m, hme⟩ : ∃ m, m = (i + j) / 2 := ⟨_, rfl⟩
      have hfd : ((i : Int) + j).fdiv 2 = (m : Nat) := by
        rw [Int.fdiv_eq_ediv_of_nonneg _ (by omega)]; omega
      have hm : m < l.length := by omega
      obtain ⟨z, hz⟩ : ∃ z, l[m]? = some z := ⟨_, List.getElem?_eq_getElem hm⟩
      have hzc : z.cells.length = 33 := hs.1 _ (by simp [-getElem?_pos]; exact ⟨z, List.mem_of_getElem? hz, rfl⟩)
      obtain ⟨R, ver, cells, h1, h2, h3, h4, h5, _, h6⟩ := hs.load (i := m) (e := z.cells) (by simp [-getElem?_pos, hz])
      rw [← hg.rowAt h3] at h4
      simp only [List.length_map] at h1
      have w := c H1 z (List.mem_of_getElem? hz) hzc
      (repeat (first | apply Wp.seq | apply Wp.blk)); (apply Wp.reg; (repeat (apply Ex.cons; (simp (disch := omega) [-getElem?_pos, IntKind.bits, hfd]; rfl))); exact Ex.nil; rfl; (simp; rfl))
      by_cases hzy : z.blk < y
      · rw [if_pos hzy] at w
        (repeat (first | apply Wp.seq | apply Wp.blk)); (apply Wp.reg; (repeat (apply Ex.cons; (simp (disch := omega) [-getElem?_pos, h1, h4, h6, w]; rfl))); exact Ex.nil; rfl; (simp; rfl))
        apply Wp.cT rfl
        (repeat (first | apply Wp.seq | apply Wp.blk)); (apply Wp.reg; (repeat (apply Ex.cons; (simp (disch := omega) [-getElem?_pos]; rfl))); exact Ex.nil; rfl; (simp; rfl))
        refine ⟨(m + 1, j, _), rfl, ⟨by show m + 1 ≤ j; omega, hjl, hg.trans (Grow.push _ _), fun q u hq hu => ?_, hge⟩, by show j - (m + 1) < j - i; omega, by simp [-getElem?_pos, h1]⟩
        by_cases e : q = m
        · subst e; rw [hz] at hu; cases hu; exact hzy
        · have := rises_lt hr hu hz (by have : q < m + 1 := hq; omega); omega
      · rw [if_neg hzy] at w
        have hw0 : ¬ (if y < z.blk then (1 : Int) else 0) < 0 := by split <;> omega
        (repeat (first | apply Wp.seq | apply Wp.blk)); (apply Wp.reg; (repeat (apply Ex.cons; (simp (disch := omega) [-getElem?_pos, h1, h4, h6, w]; rfl))); exact Ex.nil; rfl; (simp; rfl))
        apply Wp.cF rfl
        (repeat (first | apply Wp.seq | apply Wp.blk)); (apply Wp.reg; (repeat (apply Ex.cons; (simp (disch := omega) [-getElem?_pos]; rfl))); exact Ex.nil; rfl; (simp; rfl))
        refine ⟨(i, m, _), rfl, ⟨by show i ≤ m; omega, by show m ≤ _; omega, hg.trans (Grow.push _ _), hlt, fun u hu => by rw [hz] at hu; cases hu; omega⟩, by show m - i < j - i; omega, by simp [-getElem?_pos, h1]⟩
    · intro hc
      apply Wp.exit
      have : i = j := by omega
      subst this
      exact Wp.sub [(0, wv), (1, vi y), (2, .func (.func 120) []), (8, vi l.length), (9, vi i)] (hQ i H1 hg ⟨by omega, hlt, hge⟩) (by simp [-getElem?_pos])
  obtain ⟨_, H', h1, p, fd, rfl, h2, h3, h4⟩ := Wp.call (R := fun v H' => ∃ p fd, v = .tuple [vi (p : Nat), abool fd] ∧ Grow H H' ∧ Place l y p ∧ (fd = true ↔ ∃ z, l[p]? = some z ∧ z.blk = y)) 49 [0, 1, 2, 6, 7, 8, 9, 10, 11, 17, 31] h.e (h.no [wv, vi y, .func (.func 120) []] H) rfl (by simp [-getElem?_pos]) (key _ fun p H1 hg hp => by
    by_cases hpl : p < l.length
    · obtain ⟨z, hz⟩ : ∃ z, l[p]? = some z := ⟨_, List.getElem?_eq_getElem hpl⟩
      have hzc : z.cells.length = 33 := hs.1 _ (by simp [-getElem?_pos]; exact ⟨z, List.mem_of_getElem? hz, rfl⟩)
      obtain ⟨R, ver, cells, h1, h2, h3, h4, h5, _, h6⟩ := hs.load (i := p) (e := z.cells) (by simp [-getElem?_pos, hz])
      rw [← hg.rowAt h3] at h4
      simp only [List.length_map] at h1
      have w := c H1 z (List.mem_of_getElem? hz) hzc
      have := hp.ge z hz
      rw [if_neg (by omega)] at w
      repeat (first | apply Wp.seq | apply Wp.blk | apply Wp.ret | apply Wp.skip | apply Wp.exit | apply Wp.cT rfl | apply Wp.cF rfl | ((apply Wp.reg; (repeat (apply Ex.cons; (simp (disch := omega) [-getElem?_pos, h1, h4, h6, w]; rfl))); exact Ex.nil; rfl; (simp; rfl))))
      simp [-getElem?_pos, a119]
      refine ⟨p, ?_⟩
      by_cases e : y < z.blk
      · exact .inl ⟨⟨rfl, e⟩, hg.trans (Grow.push _ _), hp, fun u hu hb => by rw [hz] at hu; cases hu; omega⟩
      · exact .inr ⟨⟨rfl, by omega⟩, hg.trans (Grow.push _ _), hp, z, hz, by omega⟩
    · repeat (first | apply Wp.seq | apply Wp.blk | apply Wp.ret | apply Wp.skip | apply Wp.exit | apply Wp.cT rfl | apply Wp.cF rfl | ((apply Wp.reg; (repeat (apply Ex.cons; (simp (disch := omega) [-getElem?_pos]; rfl))); exact Ex.nil; rfl; (simp; rfl))))
      simp [-getElem?_pos, a119]
      exact ⟨p, rfl, hg, hp, fun u hu => by have := (List.getElem?_eq_some_iff.1 hu).1; omega⟩)
  exact ⟨p, fd, H', h1, h2, h3, h4⟩
theorem Bk.sameTx (hb : Bk H N B b tv M es clock tvs o) {k : Nat} (hx : b[k]? = some x) (he : tvs[k]? = some (txc x sv rv wv)) (hn : H.next ≤ H1.next) (hg : ∀ A, A < H.next → o A ≠ 3 * k + 3 → o A ≠ 3 * k + 4 → o A ≠ 3 * k + 5 → H1.get A = H.get A)
    (ho : ∀ A, A < H.next → o1 A = o A) (hT : TxAt H1 N o1 k (txc x sv rv wv) x' sv rv wv) (hon : x'.on = x.on) (hcl : x'.client = x.client) : Bk H1 N B (b.set k x') tv M es clock tvs o1 := by
  have hk := (List.getElem?_eq_some_iff.1 hx).1
  have hl := hb.each.1
  have hB := hb.hB
  have hM := hb.hM
  refine ⟨?_, ?_, ?_, slice_move hb.txs hb.txsL hn fun A _ a c => hg A a (by omega) (by omega) (by omega), hb.txsL.move hn ho, ⟨by simp [-getElem?_pos, hl], fun i e z hi hz => ?_⟩, by rw [ho B hB.2, hb.oB], by rw [ho M hM.2, hb.oM], ⟨hB.1, by omega⟩, ⟨hM.1, by omega⟩⟩
  · show H1.get B = _
    rw [hg B hB.2 (by rw [hb.oB]; omega) (by rw [hb.oB]; omega) (by rw [hb.oB]; omega)]; exact hb.cells
  · rw [hg M hM.2 (by rw [hb.oM]; omega) (by rw [hb.oM]; omega) (by rw [hb.oM]; omega)]; exact hb.map
  · refine hb.ok.same (live_same (by simp [-getElem?_pos]) fun j => ?_) fun j _ => clientAt_set hx hcl
    unfold onAt
    rw [List.getElem?_set]
    by_cases e : k = j
    · subst e; rw [if_pos rfl, if_pos hk, hx]; exact hon
    · rw [if_neg e]
  · rw [List.getElem?_set] at hz
    by_cases e1 : k = i
    · subst e1
      rw [if_pos rfl, if_pos (by omega)] at hz
      cases hz
      rw [he] at hi; cases hi
      exact ⟨sv, rv, wv, hT⟩
    · rw [if_neg e1] at hz
      obtain ⟨sv, rv, wv, h⟩ := hb.each.2 i e z hi hz
      exact ⟨sv, rv, wv, h.move hn (fun A _ a hA => hg A a (by omega) (by omega) (by omega)) ho⟩
end Go.Proofs.Ythbjfkkjmecaaaa
