/- Walks: serial.Order. -/
import Derived.Test.YthbjfkkjmecaaaaT37
import Derived.Test.YthbjfkkjmecaaaaT38
import Derived.Test.YthbjfkkjmecaaaaT31
set_option linter.unusedVariables false
set_option linter.unusedSimpArgs false
namespace Go.Proofs.Ythbjfkkjmecaaaa
open Go Go.Vm
variable {kn : Known} {env : Nat → Option AFunc}
variable {H H' H0 H1 : AHeap} {N A M R ver nv L : Nat} {v v0 tv sv rv wv : AVal} {rows : List RowD} {txs : List TxD} {tvs : List (List AVal)} {o : Nat → Nat} {x : TxD} {l l' : List Int} {f g : Nat → Int}
theorem cells_ints (l : List Int) : (ints l).flatten = cellsF (fun k => l.getD k 0) l.length := by
  refine List.ext_getElem? fun k => ?_
  have h1 : (ints l).flatten = l.map vi := by
    induction l with
    | nil => rfl
    | cons z l ih => simp only [List.map_cons, List.flatten_cons, List.singleton_append]; rw [ih]
  rw [h1, List.getElem?_map]
  by_cases h : k < l.length
  · rw [cellsF_at h, List.getElem?_eq_getElem h]
    simp [-getElem?_pos, List.getD_eq_getElem?_getD, List.getElem?_eq_getElem h]
  · rw [List.getElem?_eq_none (by omega), List.getElem?_eq_none (by rw [cellsF_len]; omega)]; rfl
theorem ints_range (g : Nat → Int) (L : Nat) : (ints ((List.range L).map g)).flatten = cellsF g L := by
  unfold cellsF
  generalize List.range L = l
  induction l with
  | nil => rfl
  | cons z l ih => simp only [List.map_cons, List.flatten_cons, List.singleton_append]; rw [ih]
theorem range_getD (l : List Int) : (List.range l.length).map (fun k => l.getD k 0) = l := by
  refine List.ext_getElem? fun k => ?_
  rw [List.getElem?_map]
  by_cases h : k < l.length
  · rw [List.getElem?_range h, List.getElem?_eq_getElem h]
    simp [-getElem?_pos, List.getD_eq_getElem?_getD, List.getElem?_eq_getElem h]
  · rw [List.getElem?_eq_none (by rw [List.length_range]; omega), List.getElem?_eq_none (by omega)]; rfl
theorem PmS.perm (h : PmS f g 0 L) : ((List.range L).map g).Perm ((List.range L).map f) := by
  obtain ⟨s, t, h1, h2, _⟩ := h
  have e : (List.range L).map g = ((List.range L).map s).map f := by
    rw [List.map_map]
    exact List.map_congr_left fun k hk => (h1 k (Nat.zero_le _) (List.mem_range.1 hk)).2.2.2
  rw [e]
  refine List.Perm.map f ?_
  have nd : ((List.range L).map s).Nodup := List.pairwise_map.2 ((List.nodup_range (n := L)).imp_of_mem fun {a b} ha hb hab hs => hab (by
    have p := (h1 a (Nat.zero_le _) (List.mem_range.1 ha)).2.2.1
    have q := (h1 b (Nat.zero_le _) (List.mem_range.1 hb)).2.2.1
    rw [← p, ← q, hs]))
  refine (List.perm_ext_iff_of_nodup nd List.nodup_range).2 fun a => ⟨fun ha => ?_, fun ha => ?_⟩
  · obtain ⟨k, hk, rfl⟩ := List.mem_map.1 ha
    exact List.mem_range.2 (h1 k (Nat.zero_le _) (List.mem_range.1 hk)).2.1
  · obtain ⟨_, q1, q2⟩ := h2 a (Nat.zero_le _) (List.mem_range.1 ha)
    exact List.mem_map.2 ⟨t a, List.mem_range.2 q1, q2⟩
theorem cntL_nodup (txs : List TxD) (n : Nat) : (cntL txs n).Nodup := by
  unfold cntL
  exact List.pairwise_map.2 ((List.nodup_range.sublist List.filter_sublist).imp fun {a b} h e => h (by exact Int.ofNat.inj e))
theorem pair_or {α : Type} {Rl : α → α → Prop} : ∀ {l : List α} {a b : α}, l.Pairwise Rl → a ∈ l → b ∈ l → a ≠ b → Rl a b ∨ Rl b a
  | [], a, b, _, h, _, _ => by simp [-getElem?_pos] at h
  | c :: l, a, b, hp, ha, hb, hne => by
    rw [List.pairwise_cons] at hp
    rcases List.mem_cons.1 ha with h1 | h1
    · rcases List.mem_cons.1 hb with h2 | h2
      · exact absurd (h1.trans h2.symm) hne
      · rw [h1]; exact .inl (hp.1 b h2)
    · rcases List.mem_cons.1 hb with h2 | h2
      · rw [h2]; exact .inr (hp.1 a h1)
      · exact pair_or hp.2 h1 h2 hne
theorem ord_of (hp : ((List.range L).map g).Perm (cntL txs txs.length)) (hs : SrS (posA txs) g 0 L) (hne : ∀ k, k + 1 < L → posA txs (g k) ≠ posA txs (g (k + 1))) : OrdIs txs ((List.range L).map g) := by
  refine ⟨hp, List.pairwise_map.2 ?_⟩
  rw [List.pairwise_iff_getElem]
  intro i j hi hj hij
  rw [List.length_range] at hi hj
  rw [List.getElem_range, List.getElem_range]
  obtain ⟨k, rfl⟩ : ∃ k, j = k + 1 := ⟨j - 1, by omega⟩
  have h1 := hs.le (i := i) (j := k) (Nat.zero_le _) (by omega) (by omega)
  have h2 := hs k (k + 1) (Nat.zero_le _) (by omega) hj
  have h3 := hne k hj
  omega
theorem ord_not (hp : ((List.range L).map g).Perm (cntL txs txs.length)) {k : Nat} (hk : k + 1 < L) (he : posA txs (g k) = posA txs (g (k + 1))) (q : List Int) : ¬ OrdIs txs q := by
  rintro ⟨h1, h2⟩
  have nd : ((List.range L).map g).Nodup := hp.nodup_iff.2 (cntL_nodup _ _)
  have hne : g k ≠ g (k + 1) := fun e => by
    have h3 : ((List.range L).map g)[k]? = some (g k) := by rw [List.getElem?_map, List.getElem?_range (by omega)]; rfl
    have h4 : ((List.range L).map g)[k + 1]? = some (g (k + 1)) := by rw [List.getElem?_map, List.getElem?_range hk]; rfl
    have := (List.getElem?_inj (by simp [-getElem?_pos]; omega) nd).1 (h3.trans (by rw [e]; exact h4.symm))
    omega
  have hm : ∀ j, j < L → g j ∈ q := fun j hj => (hp.trans h1.symm).mem_iff.1 (List.mem_map.2 ⟨j, List.mem_range.2 hj, rfl⟩)
  rcases pair_or h2 (hm k (by omega)) (hm (k + 1) hk) hne with h | h <;> omega
theorem c54 (h : Fn kn env 54 a54) (n : Nat) (h1 : sv.one = true) (h2 : rv.one = true) (h3 : wv.one = true) :
    callM kn env (n + 1) (.func (.func 54) []) [.agg (txc x sv rv wv)] H = some (abool (counts x), H.push (.row [some (0, txc x sv rv wv)])) := by
  obtain ⟨v, H', hc, rfl, rfl⟩ := Wp.call (R := fun v H' => v = abool (counts x) ∧ H' = H.push (.row [some (0, txc x sv rv wv)])) 11 [0, 1, 2] h.e (h.no [.agg (txc x sv rv wv)] H) rfl (by simp [-getElem?_pos]) (n := n) (by
    unfold counts
    by_cases q : x.fate = 5
    · repeat (first | apply Wp.seq | apply Wp.blk | apply Wp.ret | apply Wp.skip | apply Wp.exit | apply Wp.cT rfl | apply Wp.cF rfl | ((apply Wp.reg; (repeat (apply Ex.cons; (simp (disch := omega) [-getElem?_pos, txc, q]; rfl))); exact Ex.nil; rfl; (simp; rfl))))
      simp [-getElem?_pos, a54, q, txc]
    · repeat (first | apply Wp.seq | apply Wp.blk | apply Wp.ret | apply Wp.skip | apply Wp.exit | apply Wp.cT rfl | apply Wp.cF rfl | ((apply Wp.reg; (repeat (apply Ex.cons; (simp (disch := omega) [-getElem?_pos, txc, q]; rfl))); exact Ex.nil; rfl; (simp; rfl))))
      simp [-getElem?_pos, a54, q, txc])
  exact hc
theorem c56 (h : Fn kn env 56 a56) (hT : Cells H0 A [tv]) (hAR : A ≠ R) (hts : SliceE H0 N 12 tv tvs) (hl : tv.lies (· ≠ R)) (hta : TxsAt H0 N o tvs txs) :
    CmpOk kn env (.func (.func 56) [vp A]) (posA txs) (fun z => 0 ≤ z ∧ z < txs.length) H0 R ver nv := fun n z w cells H ⟨hz0, hz1⟩ ⟨hw0, hw1⟩ hr => by
  obtain ⟨p, rfl⟩ : ∃ p : Nat, z = p := ⟨z.toNat, by omega⟩
  obtain ⟨q, rfl⟩ : ∃ q : Nat, w = q := ⟨w.toNat, by omega⟩
  have hp : p < txs.length := by omega
  have hq : q < txs.length := by omega
  have hlen := hta.1
  obtain ⟨e1, he1⟩ : ∃ e, tvs[p]? = some e := ⟨_, List.getElem?_eq_getElem (by omega)⟩
  obtain ⟨e2, he2⟩ : ∃ e, tvs[q]? = some e := ⟨_, List.getElem?_eq_getElem (by omega)⟩
  obtain ⟨x1, hx1⟩ : ∃ e, txs[p]? = some e := ⟨_, List.getElem?_eq_getElem hp⟩
  obtain ⟨x2, hx2⟩ : ∃ e, txs[q]? = some e := ⟨_, List.getElem?_eq_getElem hq⟩
  obtain ⟨s1, r1, w1, T1⟩ := hta.2 p e1 x1 he1 hx1
  obtain ⟨s2, r2, w2, T2⟩ := hta.2 q e2 x2 he2 hx2
  obtain ⟨R1, ver1, cells1, hv1, _, _, hrow1, hle1, hf1, _⟩ := hts.load he1
  obtain ⟨R1', ver1', cells1', hv1', _, _, hrow1', hle2, hf2, _⟩ := hts.load he2
  rw [hv1] at hv1'; cases hv1'
  rw [hrow1] at hrow1'; cases hrow1'
  have f1 := hf1 9 (by omega)
  have f2 := hf2 9 (by omega)
  rw [T1.eq] at f1
  rw [T2.eq] at f2
  simp only [txc, List.getElem?_cons_succ, List.getElem?_cons_zero] at f1 f2
  have hT1 : H.rowAt A 0 = some [tv] := by rw [rowAt_eq, hr.other A hAR, ← rowAt_eq]; exact hT.at
  have hrow : H.rowAt R1 ver1 = some cells1 := by rw [rowAt_eq, hr.other R1 (hl _ _ _ _ _ _ _ hv1), ← rowAt_eq]; exact hrow1
  have k1 : posA txs (p : Int) = x1.pos := by unfold posA; rw [show ((p : Int)).toNat = p from rfl, hx1]
  have k2 : posA txs (q : Int) = x2.pos := by unfold posA; rw [show ((q : Int)).toNat = q from rfl, hx2]
  rw [k1, k2]
  rw [hlen] at hv1
  rw [hv1] at hT1
  refine Wp.callC1 26 [0, 1, 2, 5, 6, 7, 18, 22] h.e (h.no _ _) rfl (by simp [-getElem?_pos]) ?_
  by_cases c1 : x1.pos < x2.pos
  · rw [cmpI_t c1]
    repeat (first | apply Wp.seq | apply Wp.blk | apply Wp.ret | apply Wp.skip | apply Wp.exit | apply Wp.cT rfl | apply Wp.cF rfl | ((apply Wp.reg; (repeat (apply Ex.cons; (simp (disch := omega) [-getElem?_pos, hT1, hrow, f1, f2, c1]; rfl))); exact Ex.nil; rfl; (simp; rfl))) | ((apply Wp.draw; (repeat (first | ((first | apply Dr.q rfl rfl | apply Dr.r rfl rfl); (simp (disch := omega) [-getElem?_pos, hT1, hrow, f1, f2, c1]; rfl); (simp; rfl)) | (apply Dr.imm rfl; (simp (disch := omega) [-getElem?_pos, hT1, hrow, f1, f2, c1]; rfl); (focus first | (simp [-getElem?_pos]; done) | (simp [-getElem?_pos]; omega))))); exact Dr.nil; rfl; (first | (focus (simp (disch := omega) [-getElem?_pos, hT1, hrow, f1, f2, c1]; done)) | rfl); (simp; rfl))))
    simp [-getElem?_pos, a56]
  · by_cases c2 : x2.pos < x1.pos
    · have : cmpI x1.pos x2.pos = 1 := by unfold cmpI; rw [if_neg c1, if_pos c2]
      rw [this]
      repeat (first | apply Wp.seq | apply Wp.blk | apply Wp.ret | apply Wp.skip | apply Wp.exit | apply Wp.cT rfl | apply Wp.cF rfl | ((apply Wp.reg; (repeat (apply Ex.cons; (simp (disch := omega) [-getElem?_pos, hT1, hrow, f1, f2, c1, c2]; rfl))); exact Ex.nil; rfl; (simp; rfl))) | ((apply Wp.draw; (repeat (first | ((first | apply Dr.q rfl rfl | apply Dr.r rfl rfl); (simp (disch := omega) [-getElem?_pos, hT1, hrow, f1, f2, c1, c2]; rfl); (simp; rfl)) | (apply Dr.imm rfl; (simp (disch := omega) [-getElem?_pos, hT1, hrow, f1, f2, c1, c2]; rfl); (focus first | (simp [-getElem?_pos]; done) | (simp [-getElem?_pos]; omega))))); exact Dr.nil; rfl; (first | (focus (simp (disch := omega) [-getElem?_pos, hT1, hrow, f1, f2, c1, c2]; done)) | rfl); (simp; rfl))))
      simp [-getElem?_pos, a56]
    · have : cmpI x1.pos x2.pos = 0 := by unfold cmpI; rw [if_neg c1, if_neg c2]
      rw [this]
      repeat (first | apply Wp.seq | apply Wp.blk | apply Wp.ret | apply Wp.skip | apply Wp.exit | apply Wp.cT rfl | apply Wp.cF rfl | ((apply Wp.reg; (repeat (apply Ex.cons; (simp (disch := omega) [-getElem?_pos, hT1, hrow, f1, f2, c1, c2]; rfl))); exact Ex.nil; rfl; (simp; rfl))) | ((apply Wp.draw; (repeat (first | ((first | apply Dr.q rfl rfl | apply Dr.r rfl rfl); (simp (disch := omega) [-getElem?_pos, hT1, hrow, f1, f2, c1, c2]; rfl); (simp; rfl)) | (apply Dr.imm rfl; (simp (disch := omega) [-getElem?_pos, hT1, hrow, f1, f2, c1, c2]; rfl); (focus first | (simp [-getElem?_pos]; done) | (simp [-getElem?_pos]; omega))))); exact Dr.nil; rfl; (first | (focus (simp (disch := omega) [-getElem?_pos, hT1, hrow, f1, f2, c1, c2]; done)) | rfl); (simp; rfl))))
      simp [-getElem?_pos, a56]
end Go.Proofs.Ythbjfkkjmecaaaa
namespace Go.Proofs.Ythbjfkkjmecaaaa
open Go Go.Vm
variable {kn : Known} {env : Nat → Option AFunc}
variable {H H' H0 H1 : AHeap} {N A M R ver nv L : Nat} {v v0 tv sv rv wv : AVal} {rows : List RowD} {txs : List TxD} {tvs : List (List AVal)} {o : Nat → Nat} {x : TxD} {l l' : List Int} {f g : Nat → Int}
theorem Small.all : ∀ (n : Nat) (b : List TxD), n ≤ rows.length → stepsD [] 0 (rows.take n) = some b → Small b n
  | 0, b, _, h => by cases h; exact ⟨by simp [-getElem?_pos], fun x hx => by simp [-getElem?_pos] at hx⟩
  | n + 1, b, hn, h => by
    obtain ⟨r, hr⟩ : ∃ r, rows[n]? = some r := ⟨_, List.getElem?_eq_getElem (by omega)⟩
    rw [steps_succ hr] at h
    obtain ⟨b1, h1, h2⟩ := Option.bind_eq_some_iff.1 h
    exact stepD_small (Small.all n b1 (by omega) h1) h2
theorem txs_len (h : txsD rows = some txs) : txs.length ≤ rows.length := by
  unfold txsD at h
  obtain ⟨b, hb, rfl⟩ := Option.map_eq_some_iff.1 h
  rw [List.length_map]
  exact (Small.all (rows := rows) rows.length b (Nat.le_refl _) (by rw [List.take_length]; exact hb)).1
theorem c55n (E : StabE kn env) (n : Nat) (cv : AVal) (hn : 0 < n) : callM kn env (n + 3) (.func (.func 55) []) [anil, cv] H = some (.tuple [], H) := by
  have h108 : ∀ n, 0 < n → callM kn env (n + 1) (.func (.func 108) []) [anil, vi 0, vi 0, cv] H = some (.tuple [], H) := fun n hn => by
    refine Wp.call1 53 C108 E.f108.e (E.f108.no _ H) rfl (by simp [-getElem?_pos]) ?_
    repeat (first | apply Wp.seq | apply Wp.blk | apply Wp.ret | apply Wp.skip | apply Wp.exit | apply Wp.cT rfl | apply Wp.cF rfl | ((apply Wp.reg; (repeat (apply Ex.cons; (simp (disch := omega) [-getElem?_pos]; rfl))); exact Ex.nil; rfl; (simp; rfl))))
    apply Wp.loop (α := Unit) (fun _ => [(2, vi 0), (8, vi 1)]) (fun _ => H) (fun _ => True) (fun _ => 0) () rfl trivial hn (by simp [-getElem?_pos])
    rintro ⟨⟩ _
    repeat (first | apply Wp.seq | apply Wp.blk | apply Wp.ret | apply Wp.skip | apply Wp.exit | apply Wp.cT rfl | apply Wp.cF rfl | ((apply Wp.reg; (repeat (apply Ex.cons; (simp (disch := omega) [-getElem?_pos]; rfl))); exact Ex.nil; rfl; (simp; rfl))))
    simp [-getElem?_pos, a108]
  have h82 : callM kn env (n + 2) (.func (.func 82) []) [anil, vi 0, cv] H = some (.tuple [], H) := by
    refine Wp.call1 63 C82 E.f82.e (E.f82.no _ H) (n := n + 1) rfl (by simp [-getElem?_pos]) ?_
    repeat (first | apply Wp.seq | apply Wp.blk | apply Wp.ret | apply Wp.skip | apply Wp.exit | apply Wp.cT rfl | apply Wp.cF rfl | ((apply Wp.reg; (repeat (apply Ex.cons; (simp (disch := omega) [-getElem?_pos]; rfl))); exact Ex.nil; rfl; (simp; rfl))))
    apply Wp.loop (α := Unit) (fun _ => [(0, anil), (1, vi 0), (2, cv), (6, vi 20), (7, vi 0), (8, vi 20)]) (fun _ => H) (fun _ => True) (fun _ => 0) () rfl trivial (by omega) (by simp [-getElem?_pos])
    rintro ⟨⟩ _
    have h108' := h108 n hn
    repeat (first | apply Wp.seq | apply Wp.blk | apply Wp.ret | apply Wp.skip | apply Wp.exit | apply Wp.cT rfl | apply Wp.cF rfl | ((apply Wp.reg; (repeat (apply Ex.cons; (simp (disch := omega) [-getElem?_pos, h108']; rfl))); exact Ex.nil; rfl; (simp; rfl))))
    apply Wp.loop (α := Unit) (fun _ => [(0, anil), (1, vi 0), (2, cv), (6, vi 20)]) (fun _ => H) (fun _ => True) (fun _ => 0) () rfl trivial (by omega) (by simp [-getElem?_pos])
    rintro ⟨⟩ _
    repeat (first | apply Wp.seq | apply Wp.blk | apply Wp.ret | apply Wp.skip | apply Wp.exit | apply Wp.cT rfl | apply Wp.cF rfl | ((apply Wp.reg; (repeat (apply Ex.cons; (simp (disch := omega) [-getElem?_pos]; rfl))); exact Ex.nil; rfl; (simp; rfl))))
    simp [-getElem?_pos, a82]
  refine Wp.call1 9 C55 E.f55.e (E.f55.no _ H) (n := n + 2) rfl (by simp [-getElem?_pos]) ?_
  repeat (first | apply Wp.seq | apply Wp.blk | apply Wp.ret | apply Wp.skip | apply Wp.exit | apply Wp.cT rfl | apply Wp.cF rfl | ((apply Wp.reg; (repeat (apply Ex.cons; (simp (disch := omega) [-getElem?_pos, h82]; rfl))); exact Ex.nil; rfl; (simp; rfl))))
  simp [-getElem?_pos, a55]
def OrdRes (H' : AHeap) (N : Nat) (t : Option (List Int)) (v : AVal) : Prop := match t with
  | some o => ∃ ov, v = .tuple [ov, vi 0] ∧ SliceE H' N 1 ov (ints o)
  | none => v = .tuple [anil, vi 230]
abbrev ztx : List AVal := [zi, .raw (.int .u64 0), .raw (.int .u64 0), ns, ns, ns, zi, zi, zi, .raw (.int .u64 0), zi, zi]
structure OrdE (kn : Known) (env : Nat → Option AFunc) : Prop extends StabE kn env where
  f17 : Fn kn env 17 a17
  f54 : Fn kn env 54 a54
  f56 : Fn kn env 56 a56
theorem TxAt.ones {i : Nat} {e : List AVal} (h : TxAt H N o i e x sv rv wv) : sv.one = true ∧ rv.one = true ∧ wv.one = true := by
  refine ⟨?_, h.reads.rd.one, h.writes.rd.one⟩
  rcases h.set with h | ⟨_, R, rfl, _⟩
  · exact h.rd.one
  · rfl
theorem txc_one (h1 : sv.one = true) (h2 : rv.one = true) (h3 : wv.one = true) : (txc x sv rv wv).all AVal.one = true := by
  simp only [txc, List.all_cons, h1, h2, h3, List.all_nil, Bool.and_true]; rfl
abbrev C17 : List Nat := [0, 2, 3, 4, 5, 6, 7, 8, 9, 16, 18, 19, 20, 21, 26, 38, 58]
set_option maxHeartbeats 4000000 in
theorem c17 (E : OrdE kn env) (ER : RowE kn env) (h33 : Fn kn env 33 a33) (n : Nat) (hins : InsC (callM kn env (n + 2))) (hrows : RowsAt H H.next v0 rows) (hm : rows.length < 400000000000) (hn : 2 * rows.length + 20 < n) :
    ∃ v H', callM kn env (n + 7) (.func (.func 17) []) [v0] H = some (v, H') ∧ (Grow H H' ∧ OrdRes H' H.next ((txsD rows).bind orderD) v) := by
  obtain ⟨t33, H1, h33', hg1, hres⟩ := c33 ER h33 n (H := H) hins hrows hm (by omega)
  refine Wp.call 60 C17 E.f17.e (E.f17.no [v0] H) (n := n + 6) rfl (by simp [-getElem?_pos]) ?_
  cases htx : txsD rows with
  | none =>
    rw [htx] at hres
    have hr3 : t33 = .tuple [anil, vi 230] := hres
    rw [hr3] at h33'
    obtain ⟨H2, hw2, hg2, hc2, hn2⟩ := newCells H1 (z := [anil]) (e := [anil]) rfl (by simp [-getElem?_pos]) rfl
    repeat (first | apply Wp.seq | apply Wp.blk | apply Wp.ret | apply Wp.skip | apply Wp.exit | apply Wp.cT rfl | apply Wp.cF rfl | ((apply Wp.reg; (repeat (apply Ex.cons; (simp (disch := omega) [-getElem?_pos, h33', hw2]; rfl))); exact Ex.nil; rfl; (simp; rfl))))
    simp [-getElem?_pos, a17]
    exact ⟨hg1.trans hg2, rfl⟩
  | some txs =>
    rw [htx] at hres
    obtain ⟨tv, tvs, o, hr3, hts, htl, hta⟩ := hres
    rw [hr3] at h33'
    have htone : tv.one = true := hts.rd.one
    obtain ⟨H2, hw2, hg2, hc2, hn2⟩ := newCells H1 (z := [anil]) (e := [tv]) rfl (by simp [-getElem?_pos]) (by simp [-getElem?_pos, htone])
    have htlen : tvs.length = txs.length := hta.1
    have hlen : aLenS tv = some (vi txs.length) := by rw [hts.rd.lenS, htlen]
    have hX2 := hc2.at
    have hsm := txs_len htx
    repeat (first | apply Wp.seq | apply Wp.blk | apply Wp.ret | apply Wp.skip | apply Wp.exit | apply Wp.cT rfl | apply Wp.cF rfl | ((apply Wp.reg; (repeat (apply Ex.cons; (simp (disch := omega) [-getElem?_pos, h33', hw2, hX2, hlen, cells_one htone]; rfl))); exact Ex.nil; rfl; (simp; rfl))))
    have hg02 : Grow H H2 := hg1.trans hg2
    apply Wp.loop (α := Nat × AVal × AHeap) (fun y => [(4, vp H1.next), (18, tv), (19, vi txs.length), (20, vi y.1), (6, y.2.1)]) (·.2.2)
      (fun y => y.1 ≤ txs.length ∧ Grow H2 y.2.2 ∧ SliceE y.2.2 H2.next 1 y.2.1 (ints (cntL txs y.1))) (fun y => txs.length - y.1) (0, anil, H2) rfl ⟨by dsimp only; omega, Grow.refl _, SliceE.nil _ _ _⟩ (by dsimp only; omega) (by simp [-getElem?_pos])
    rintro ⟨j, v6, H3⟩ ⟨hj, hg3, hs⟩
    dsimp only at hj hg3 hs ⊢
    (repeat (first | apply Wp.seq | apply Wp.blk)); (apply Wp.reg; (repeat (apply Ex.cons; (simp (disch := omega) [-getElem?_pos]; rfl))); exact Ex.nil; rfl; (simp; rfl))
    (repeat (first | apply Wp.seq | apply Wp.blk)); apply Wp.ite rfl
    · intro hjl
      apply Wp.skip
      obtain ⟨x, hx⟩ : ∃ x, txs[j]? = some x := ⟨_, List.getElem?_eq_getElem (by omega)⟩
      obtain ⟨e, he⟩ : ∃ e, tvs[j]? = some e := ⟨_, List.getElem?_eq_getElem (by omega)⟩
      obtain ⟨sv, rv, wv, hT⟩ := hta.2 j e x he hx
      obtain ⟨o1, o2, o3⟩ := hT.ones
      obtain ⟨R0, ver0, cells, hv, hR0, hR1, hrow, hc1, _, hc3⟩ := hts.load he
      have hrow3 : H3.rowAt R0 ver0 = some cells := by rw [hg3.rowAt (by have := hg2.next; omega), hg2.rowAt hR1]; exact hrow
      rw [hT.eq] at hc3
      obtain ⟨H4, hw4, hg4, hc4, hn4⟩ := newCells H3 (z := ztx) (e := txc x sv rv wv) rfl (by simp [-getElem?_pos, txc]) (txc_one o1 o2 o3)
      have hX4 := hc4.at
      have h54 := c54 E.f54 (n + 5) (x := x) (H := H4) o1 o2 o3
      obtain ⟨H5, hH5⟩ : ∃ H5, H5 = H4.push (.row [some (0, txc x sv rv wv)]) := ⟨_, rfl⟩
      rw [← hH5] at h54
      have hg5 : Grow H3 H5 := hg4.trans (by rw [hH5]; exact Grow.push _ _)
      have hs5 : SliceE H5 H2.next 1 v6 (ints (cntL txs j)) := hs.move (Nat.le_refl _) hg5.next fun A _ hA => hg5.get A hA
      have htl12 : (txc x sv rv wv).take 12 = txc x sv rv wv := rfl
      have hlt : (txc x sv rv wv).length = 12 := rfl
      repeat (first | apply Wp.seq | apply Wp.blk | apply Wp.ret | apply Wp.skip | apply Wp.exit | apply Wp.cT rfl | apply Wp.cF rfl | ((apply Wp.reg; (repeat (apply Ex.cons; (simp (disch := omega) [-getElem?_pos, hv, hrow3, hc1, hc3, hw4]; rfl))); exact Ex.nil; rfl; (simp; rfl))))
      have hcu := cntL_succ txs j
      have hcn : cntAt txs j = counts x := by unfold cntAt; rw [hx]
      rw [hcn] at hcu
      have hle := cntL_le txs j
      cases hcx : counts x with
      | false =>
        rw [hcx] at h54 hcu
        rw [if_neg (by simp [-getElem?_pos]), List.append_nil] at hcu
        repeat (first | apply Wp.seq | apply Wp.blk | apply Wp.ret | apply Wp.skip | apply Wp.exit | apply Wp.cT rfl | apply Wp.cF rfl | ((apply Wp.reg; (repeat (apply Ex.cons; (simp (disch := omega) [-getElem?_pos, hX4, htl12, hlt, h54]; rfl))); exact Ex.nil; rfl; (simp; rfl))))
        exact ⟨(j + 1, v6, H5), rfl, ⟨by dsimp only; omega, hg3.trans hg5, by dsimp only; rw [hcu]; exact hs5⟩, by dsimp only; omega, by simp [-getElem?_pos, hv]⟩
      | true =>
        rw [hcx] at h54 hcu
        rw [if_pos rfl] at hcu
        obtain ⟨v7, H7, ha, hs7, hn7, hk7, _⟩ := (hs5.move (Nat.le_refl _) (Nat.le_succ _) (H' := H5.push (.row [some (0, [vi j])])) fun A _ hA => AHeap.get_push_ne _ _ (by omega)).append (bytes := 8) (by have := hg3.next; have := hg5.next; simp [-getElem?_pos]; omega) (X := H5.next) (e := [vi j]) (by simp [-getElem?_pos]) rfl (by omega) (by omega) rfl (by rw [List.length_map]; omega) (ex := true) (kc := 1)
        repeat (first | apply Wp.seq | apply Wp.blk | apply Wp.ret | apply Wp.skip | apply Wp.exit | apply Wp.cT rfl | apply Wp.cF rfl | ((apply Wp.reg; (repeat (apply Ex.cons; (simp (disch := omega) [-getElem?_pos, hX4, htl12, hlt, h54, ha, aFill, repl]; rfl))); exact Ex.nil; rfl; (simp; rfl))))
        refine ⟨(j + 1, v7, H7), rfl, ⟨by dsimp only; omega, ⟨by have := hg3.next; have := hg5.next; simp [-getElem?_pos] at hn7; dsimp only; omega, fun A hA => ?_⟩, by dsimp only; rw [hcu]; simpa [-getElem?_pos] using hs7⟩, by dsimp only; omega, by simp [-getElem?_pos, hv]⟩
        have := hg3.next
        have := hg5.next
        rw [hk7 A hA, AHeap.get_push_ne _ _ (by omega), hg5.get A (by omega), hg3.get A hA]
    intro hjl
    have : j = txs.length := by omega
    subst this
    apply Wp.exit
    have hgH3 : Grow H H3 := hg02.trans hg3
    have hB3 : Cells H3 H1.next [tv] := by unfold Cells; rw [hg3.get _ (by omega)]; exact hc2
    have htl3 := hts.lies
    have hts3 : SliceE H3 H.next 12 tv tvs := hts.move (Nat.le_refl _) (by have := hg2.next; have := hg3.next; omega) fun A _ hA => by rw [hg3.get A (by omega), hg2.get A hA]
    rcases hs with ⟨_, ⟨rfl, hnil⟩ | ⟨R, ver, vs, hR0, hR1, hv6, hgR, hvr⟩⟩
    · have hnil' : cntL txs txs.length = [] := by simpa [-getElem?_pos] using hnil
      have hord : orderD txs = some [] := orderD_is ⟨by rw [hnil'], List.Pairwise.nil⟩
      have h55 := c55n E.toStabE (n + 3) (H := H3) (.func (.func 56) [vp H1.next]) (by omega)
      repeat (first | apply Wp.seq | apply Wp.blk | apply Wp.ret | apply Wp.skip | apply Wp.exit | apply Wp.cT rfl | apply Wp.cF rfl | ((apply Wp.reg; (repeat (apply Ex.cons; (simp (disch := omega) [-getElem?_pos, h55]; rfl))); exact Ex.nil; rfl; (simp; rfl))))
      apply Wp.loop (α := Unit) (fun _ => [(6, anil), (9, vi 1)]) (fun _ => H3) (fun _ => True) (fun _ => 0) () rfl trivial (by omega) (by simp [-getElem?_pos])
      rintro ⟨⟩ _
      repeat (first | apply Wp.seq | apply Wp.blk | apply Wp.ret | apply Wp.skip | apply Wp.exit | apply Wp.cT rfl | apply Wp.cF rfl | ((apply Wp.reg; (repeat (apply Ex.cons; (simp (disch := omega) [-getElem?_pos]; rfl))); exact Ex.nil; rfl; (simp; rfl))))
      simp [-getElem?_pos, a17]
      show Grow H H3 ∧ OrdRes H3 H.next (orderD txs) _
      rw [hord]
      exact ⟨hgH3, anil, rfl, SliceE.nil _ _ _⟩
    · have hcl := cntL_le txs txs.length
      obtain ⟨L, hL⟩ : ∃ L, L = (cntL txs txs.length).length := ⟨_, rfl⟩
      have hil : (ints (cntL txs txs.length)).length = L := by rw [List.length_map, hL]
      rw [hil] at hv6
      rw [cells_ints, ← hL] at hvr
      have hrow0 : RowW H3 R ver vs.length (cellsF (fun k => (cntL txs txs.length).getD k 0) L) H3 := ⟨⟨vs, hgR, rfl, hvr⟩, rfl, fun _ _ => rfl⟩
      have hAR : H1.next ≠ R := by omega
      have hlR : tv.lies (· ≠ R) := fun R' ver' off' len' kc' ex' esz' e => by have := (htl3 _ _ _ _ _ _ _ e).2; have := hg2.next; omega
      have hta3 : TxsAt H3 H.next o tvs txs := ⟨hta.1, fun i e x hi hx => by
        obtain ⟨a1, a2, a3, hT⟩ := hta.2 i e x hi hx
        exact ⟨a1, a2, a3, hT.move (by have := hg2.next; have := hg3.next; omega) (fun A _ hA _ => by rw [hg3.get A (by omega), hg2.get A hA]) fun _ _ => rfl⟩⟩
      have hcv := c56 E.f56 hB3 hAR hts3 hlR hta3 (ver := ver) (nv := vs.length)
      have hG : ∀ k, k < L → (fun z : Int => 0 ≤ z ∧ z < (txs.length : Int)) ((fun k => (cntL txs txs.length).getD k 0) k) := fun k hk => by
        have hm : (cntL txs txs.length).getD k 0 ∈ cntL txs txs.length := by
          rw [List.getD_eq_getElem?_getD, List.getElem?_eq_getElem (by omega)]; exact List.getElem_mem _
        obtain ⟨q, e1, e2, _⟩ := cntL_mem hm
        dsimp only
        rw [e1]; omega
      obtain ⟨v, H4, h55, rfl, g, hpm, hsr, hr4⟩ := c55 E.toStabE (n + 1) hcv hrow0 hG (by omega) (by omega) (kc := L) (ex := false)
      have hG4 := PmS.all (G := fun z : Int => 0 ≤ z ∧ z < (txs.length : Int)) hpm (Nat.le_refl _) hG
      have hperm : ((List.range L).map g).Perm (cntL txs txs.length) := by
        have := hpm.perm
        rw [hL, range_getD, ← hL] at this
        exact this
      have hn4 : H4.next = H3.next := hr4.next
      have hgH4 : Grow H H4 := ⟨by rw [hn4]; exact hgH3.next, fun A hA => by rw [hr4.other A (by have := hg02.next; omega), hgH3.get A hA]⟩
      have hT4 : H4.rowAt H1.next 0 = some [tv] := by rw [rowAt_eq, hr4.other _ hAR, ← rowAt_eq]; exact hB3.at
      have hrow4 := hr4.at
      obtain ⟨ov, hov⟩ : ∃ ov, ov = AVal.slice R ver 0 L L false 1 := ⟨_, rfl⟩
      have hs4 : SliceE H4 H.next 1 ov (ints ((List.range L).map g)) := by
        obtain ⟨vs', q1, q2, q3⟩ := hr4.row
        refine ⟨fun e he => by obtain ⟨z, _, rfl⟩ := List.mem_map.1 he; rfl, .inr ⟨R, ver, vs', by have := hg02.next; omega, by omega, by rw [hov]; simp [-getElem?_pos], q1, ?_⟩⟩
        rw [ints_range]; exact q3
      rw [hv6]
      repeat (first | apply Wp.seq | apply Wp.blk | apply Wp.ret | apply Wp.skip | apply Wp.exit | apply Wp.cT rfl | apply Wp.cF rfl | ((apply Wp.reg; (repeat (apply Ex.cons; (simp (disch := omega) [-getElem?_pos, h55]; rfl))); exact Ex.nil; rfl; (simp; rfl))))
      apply Wp.loop (α := Nat) (fun y => [(4, vp H1.next), (6, .slice R ver 0 L L false 1), (9, vi y)]) (fun _ => H4)
        (fun y => 1 ≤ y ∧ y ≤ L + 1 ∧ ∀ k, k + 1 < y → k + 1 < L → posA txs (g k) ≠ posA txs (g (k + 1))) (fun y => L + 1 - y) 1 rfl ⟨Nat.le_refl _, by omega, fun k hk _ => by omega⟩ (by omega) (by simp [-getElem?_pos])
      rintro i ⟨hi1, hi2, hne⟩
      (repeat (first | apply Wp.seq | apply Wp.blk)); (apply Wp.reg; (repeat (apply Ex.cons; (simp (disch := omega) [-getElem?_pos]; rfl))); exact Ex.nil; rfl; (simp; rfl))
      (repeat (first | apply Wp.seq | apply Wp.blk)); apply Wp.ite rfl
      · intro hil
        apply Wp.skip
        obtain ⟨k, rfl⟩ : ∃ k, i = k + 1 := ⟨i - 1, by omega⟩
        obtain ⟨⟨p0, p1⟩, q0, q1⟩ := And.intro (hG4 k (by omega)) (hG4 (k + 1) (by omega))
        have x1 := cellsF_at (f := g) (L := L) (k := k) (by omega)
        have x2 := cellsF_at (f := g) (L := L) (k := k + 1) (by omega)
        have hk1 : posA txs (g k) = posA txs (g k) := rfl
        obtain ⟨p, hp⟩ : ∃ p : Nat, g k = p := ⟨(g k).toNat, by omega⟩
        obtain ⟨q, hq⟩ : ∃ q : Nat, g (k + 1) = q := ⟨(g (k + 1)).toNat, by omega⟩
        rw [hp] at x1
        rw [hq] at x2
        have hpl : p < txs.length := by omega
        have hql : q < txs.length := by omega
        obtain ⟨e1, he1⟩ : ∃ e, tvs[p]? = some e := ⟨_, List.getElem?_eq_getElem (by omega)⟩
        obtain ⟨e2, he2⟩ : ∃ e, tvs[q]? = some e := ⟨_, List.getElem?_eq_getElem (by omega)⟩
        obtain ⟨z1, hx1⟩ : ∃ e, txs[p]? = some e := ⟨_, List.getElem?_eq_getElem hpl⟩
        obtain ⟨z2, hx2⟩ : ∃ e, txs[q]? = some e := ⟨_, List.getElem?_eq_getElem hql⟩
        obtain ⟨s1, r1, w1, T1⟩ := hta3.2 p e1 z1 he1 hx1
        obtain ⟨s2, r2, w2, T2⟩ := hta3.2 q e2 z2 he2 hx2
        obtain ⟨R1, ver1, cells1, hv1, _, _, hrow1, hle1, hf1, _⟩ := hts3.load he1
        obtain ⟨R1', ver1', cells1', hv1', _, _, hrow1', hle2, hf2, _⟩ := hts3.load he2
        rw [hv1] at hv1'; cases hv1'
        rw [hrow1] at hrow1'; cases hrow1'
        have f1 := hf1 9 (by omega)
        have f2 := hf2 9 (by omega)
        rw [T1.eq] at f1
        rw [T2.eq] at f2
        simp only [txc, List.getElem?_cons_succ, List.getElem?_cons_zero] at f1 f2
        have hrow14 : H4.rowAt R1 ver1 = some cells1 := by rw [rowAt_eq, hr4.other R1 (hlR _ _ _ _ _ _ _ hv1), ← rowAt_eq]; exact hrow1
        have k1 : posA txs (g k) = z1.pos := by unfold posA; rw [hp, show ((p : Int)).toNat = p from rfl, hx1]
        have k2 : posA txs (g (k + 1)) = z2.pos := by unfold posA; rw [hq, show ((q : Int)).toNat = q from rfl, hx2]
        rw [htlen] at hv1
        have hT4' := hT4
        rw [hv1] at hT4'
        by_cases heq : z2.pos = z1.pos
        · have hno := orderD_no (ord_not hperm hil (by rw [k1, k2, heq]))
          repeat (first | apply Wp.seq | apply Wp.blk | apply Wp.ret | apply Wp.skip | apply Wp.exit | apply Wp.cT rfl | apply Wp.cF rfl | ((apply Wp.reg; (repeat (apply Ex.cons; (simp (disch := omega) [-getElem?_pos, hT4', hrow4, x1, x2, hrow14, f1, f2, heq]; rfl))); exact Ex.nil; rfl; (simp; rfl))) | ((apply Wp.draw; (repeat (first | ((first | apply Dr.q rfl rfl | apply Dr.r rfl rfl); (simp (disch := omega) [-getElem?_pos, hT4', hrow4, x1, x2, hrow14, f1, f2, heq]; rfl); (simp; rfl)) | (apply Dr.imm rfl; (simp (disch := omega) [-getElem?_pos, hT4', hrow4, x1, x2, hrow14, f1, f2, heq]; rfl); (focus first | (simp [-getElem?_pos]; done) | (simp [-getElem?_pos]; omega))))); exact Dr.nil; rfl; (first | (focus (simp (disch := omega) [-getElem?_pos, hT4', hrow4, x1, x2, hrow14, f1, f2, heq]; done)) | rfl); (simp; rfl))))
          simp [-getElem?_pos, a17]
          show Grow H H4 ∧ OrdRes H4 H.next (orderD txs) _
          rw [hno]
          exact ⟨hgH4, rfl⟩
        · repeat (first | apply Wp.seq | apply Wp.blk | apply Wp.ret | apply Wp.skip | apply Wp.exit | apply Wp.cT rfl | apply Wp.cF rfl | ((apply Wp.reg; (repeat (apply Ex.cons; (simp (disch := omega) [-getElem?_pos, hT4', hrow4, x1, x2, hrow14, f1, f2, heq]; rfl))); exact Ex.nil; rfl; (simp; rfl))) | ((apply Wp.draw; (repeat (first | ((first | apply Dr.q rfl rfl | apply Dr.r rfl rfl); (simp (disch := omega) [-getElem?_pos, hT4', hrow4, x1, x2, hrow14, f1, f2, heq]; rfl); (simp; rfl)) | (apply Dr.imm rfl; (simp (disch := omega) [-getElem?_pos, hT4', hrow4, x1, x2, hrow14, f1, f2, heq]; rfl); (focus first | (simp [-getElem?_pos]; done) | (simp [-getElem?_pos]; omega))))); exact Dr.nil; rfl; (first | (focus (simp (disch := omega) [-getElem?_pos, hT4', hrow4, x1, x2, hrow14, f1, f2, heq]; done)) | rfl); (simp; rfl))))
          refine ⟨k + 1 + 1, rfl, ⟨by omega, by omega, fun j hj hjL => ?_⟩, by omega, by simp [-getElem?_pos]⟩
          by_cases hjk : j = k
          · subst hjk; rw [k1, k2]; exact fun e => heq e.symm
          · exact hne j (by omega) hjL
      · intro hil
        apply Wp.exit
        have hyes := orderD_is (ord_of hperm hsr fun k hk => hne k (by omega) hk)
        repeat (first | apply Wp.seq | apply Wp.blk | apply Wp.ret | apply Wp.skip | apply Wp.exit | apply Wp.cT rfl | apply Wp.cF rfl | ((apply Wp.reg; (repeat (apply Ex.cons; (simp (disch := omega) [-getElem?_pos]; rfl))); exact Ex.nil; rfl; (simp; rfl))))
        simp [-getElem?_pos, a17]
        show Grow H H4 ∧ OrdRes H4 H.next (orderD txs) _
        rw [hyes]
        exact ⟨hgH4, ov, by rw [hov], hs4⟩
end Go.Proofs.Ythbjfkkjmecaaaa
namespace Go.Proofs.Ythbjfkkjmecaaaa
open Go Go.Vm
variable {kn : Known} {env : Nat → Option AFunc}
variable {H H' H1 : AHeap} {N A B M : Nat} {v v0 : AVal} {rows l : List RowD} {rcs ocs : List (List AVal)} {rc : List AVal} {r : RowD} {x : TxD} {sv rv wv : AVal} {m : Int}
open Classical in
theorem eqLoop {xs ys : List AVal} (hx : ∀ c ∈ xs, ∃ n, c = v8 n) (hy : ∀ c ∈ ys, ∃ n, c = v8 n) : ∀ (n i : Nat), xs.length = i + n → ys.length = i + n → aEqLoop (aEqP .int) false 1 xs ys i n = some (decide (xs.drop i = ys.drop i))
  | 0, i, h1, h2 => by
    rw [List.drop_of_length_le (by omega), List.drop_of_length_le (by omega)]; simp [-getElem?_pos, aEqLoop]
  | n + 1, i, h1, h2 => by
    obtain ⟨a, ha⟩ := hx (xs[i]'(by omega)) (List.getElem_mem _)
    obtain ⟨b, hb⟩ := hy (ys[i]'(by omega)) (List.getElem_mem _)
    have ga : xs[i]? = some (v8 a) := by rw [← ha]; exact List.getElem?_eq_getElem _
    have gb : ys[i]? = some (v8 b) := by rw [← hb]; exact List.getElem?_eq_getElem _
    have ih := eqLoop hx hy n (i + 1) (by omega) (by omega)
    rw [drop_at ga, drop_at gb]
    have hone : aEqP .int (v8 a) (v8 b) = some (decide (a = b)) := by simp only [aEqP, if_true, ieq_eq]
    unfold aEqLoop
    simp only [aPart, Nat.mul_one, ga, gb, Bool.false_eq_true, if_false, Option.bind_some, hone, ih]
    by_cases e : a = b <;> simp [-getElem?_pos, e]
open Classical in
theorem eqVal {a b : List AVal} (ha : IsVal a) (hb : IsVal b) : aEqP (.arr 32 1 false .int) (.agg a) (.agg b) = some (decide (a = b)) := by
  have := eqLoop ha.bytes hb.bytes 32 0 (by rw [ha.len]) (by rw [hb.len])
  simpa [-getElem?_pos, aEqP] using this
theorem eqVal_t {a : List AVal} (ha : IsVal a) : aEqP (.arr 32 1 false .int) (.agg a) (.agg a) = some true := by
  rw [eqVal ha ha]; simp [-getElem?_pos]
theorem eqVal_f {a b : List AVal} (ha : IsVal a) (hb : IsVal b) (h : a ≠ b) : aEqP (.arr 32 1 false .int) (.agg a) (.agg b) = some false := by
  rw [eqVal ha hb]; simp [-getElem?_pos, h]
structure Doing (Hb : AHeap) (F P I : Nat) (f : FindD) (mm ins : MapD) (H : AHeap) : Prop where
  grow : Grow Hb H
  cf : Cells H F f.cells
  cp : Cells H P mm.flatten
  ci : Cells H I ins.flatten
  fw : IsVal f.want
  pm : IsMap mm
  im : IsMap ins
  hF : Hb.next ≤ F ∧ F < H.next
  hP : Hb.next ≤ P ∧ P < H.next
  hI : Hb.next ≤ I ∧ I < H.next
  ne : F ≠ P ∧ F ≠ I ∧ P ≠ I
theorem Doing.move {Hb H H' : AHeap} {F P I : Nat} {f : FindD} {mm ins : MapD} (h : Doing Hb F P I f mm ins H) (hg : Grow H H') : Doing Hb F P I f mm ins H' := by
  have hn := hg.next
  obtain ⟨a, b, c, d, e1, e2, e3, e4, e5, e6, e7⟩ := h
  exact ⟨a.trans hg, by unfold Cells; rw [hg.get F e4.2]; exact b, by unfold Cells; rw [hg.get P e5.2]; exact c, by unfold Cells; rw [hg.get I e6.2]; exact d, e1, e2, e3, ⟨e4.1, by omega⟩, ⟨e5.1, by omega⟩, ⟨e6.1, by omega⟩, e7⟩
theorem Doing.setI {Hb H : AHeap} {F P I : Nat} {f : FindD} {mm ins : MapD} (h : Doing Hb F P I f mm ins H) {k : Nat} (hk : k < 64) {u : List AVal} (hu : IsVal u) : ∃ H', H.write I 0 (k * 32) u = some H' ∧ Doing Hb F P I f mm (ins.set k u) H' ∧ H'.next = H.next := by
  have hl := h.im.len
  have hel : ∀ e ∈ ins, e.length = 32 := fun e he => (h.im.val e he).len
  have hfl := flatten_len hel
  obtain ⟨n1, n2, n3⟩ := h.ne
  refine ⟨_, Cells.write h.ci (by have := hu.len; omega) (by have := hu.len; omega) hu.one, ⟨h.grow.set h.hI.1 _, ?_, ?_, ?_, h.fw, h.pm, h.im.set hu, h.hF, h.hP, h.hI, h.ne⟩, rfl⟩
  · unfold Cells; rw [AHeap.get_set_ne _ _ n2]; exact h.cf
  · unfold Cells; rw [AHeap.get_set_ne _ _ n3]; exact h.cp
  · unfold Cells; rw [AHeap.get_set_same, flatten_set hu.len k hel (by omega)]
theorem Doing.setF {Hb H : AHeap} {F P I : Nat} {f g : FindD} {mm ins : MapD} (h : Doing Hb F P I f mm ins H) (hg : IsVal g.want) : ∃ H', H.write F 0 0 g.cells = some H' ∧ Doing Hb F P I g mm ins H' ∧ H'.next = H.next := by
  have h1 : f.cells.length = 35 := by simp [-getElem?_pos, FindD.cells, h.fw.len]
  have h2 : g.cells.length = 35 := by simp [-getElem?_pos, FindD.cells, hg.len]
  obtain ⟨n1, n2, n3⟩ := h.ne
  refine ⟨_, Cells.write h.cf (by omega) (by omega) (by simp only [FindD.cells, List.all_cons, hg.one, Bool.and_true]; rfl), ⟨h.grow.set h.hF.1 _, ?_, ?_, ?_, hg, h.pm, h.im, h.hF, h.hP, h.hI, h.ne⟩, rfl⟩
  · unfold Cells; rw [AHeap.get_set_same]; simp [-getElem?_pos, spl, h1, h2]
  · unfold Cells; rw [AHeap.get_set_ne _ _ (Ne.symm n1)]; exact h.cp
  · unfold Cells; rw [AHeap.get_set_ne _ _ (Ne.symm n2)]; exact h.ci
end Go.Proofs.Ythbjfkkjmecaaaa
