/- Both Alones, in one form; several values appended at once; who owns a row. -/
import Derived.Test.YthbjfkkjmecaaaaAloneL
namespace Go.Proofs.Ythbjfkkjmecaaaa
open Go Go.Vm

set_option linter.unusedVariables false
set_option linter.unusedSimpArgs false

theorem toldT_len_le : ∀ (l : List (List OpD)) (m : Map) (i : Nat) t x, l[i]? = some t → (toldT m l)[i]? = some x → x.length ≤ t.length
  | [], m, i, t, x, h, _ => by simp at h
  | y :: r, m, 0, t, x, h, hx => by
    simp at h; subst h
    have : x = toldM m y := by simpa [toldT] using hx.symm
    subst this
    exact toldM_le _ _
  | y :: r, m, i + 1, t, x, h, hx => toldT_len_le r (opsM m y) i t x (by simpa using h) (by simpa [toldT] using hx)

/-- What both Alones answer. -/
structure Answers (b : Int) (txs : List (List OpD)) (vs : List (List (List AVal))) (ms : List (List AVal)) (f : Int) : Prop where
  vals : ∀ l ∈ vs, ∀ v ∈ l, IsVal v
  mvals : ∀ v ∈ ms, IsVal v
  few : vs.length ≤ 40
  mfew : ms.length ≤ 64
  len : ∀ (i : Nat) t x, txs[i]? = some t → vs[i]? = some x → x.length ≤ t.length
  lens : vs.length ≤ txs.length
  prog : ∀ (n : Nat) (H : AHeap) (vt : AVal) (avt : List AVal), TxsAt H vt avt txs → (∀ t ∈ txs, t.length < n + 1) → txs.length < n + 1 → ∃ (v4 v5 : AVal) (avs : List AVal) (H' : AHeap), callM kn env (n + 2) (.func (.func 39) []) [vi b, vt] H = some (.tuple [v4, v5, vi f], H') ∧ Grow H H' ∧ ToldAt H' H.next v4 avs vs ∧ SliceE H' H.next 32 v5 ms ∧
    (v5.lies fun R => v4.lies (· ≠ R) ∧ ∀ (i : Nat) a, avs[i]? = some a → a.lies (· ≠ R))
  ref : ∀ (n : Nat) (H : AHeap) (vt : AVal) (avt : List AVal), TxsAt H vt avt txs → (∀ t ∈ txs, t.length < n) → txs.length < n → ∃ (v4 v5 : AVal) (avs : List AVal) (H' : AHeap), callM kn env (n + 1) (.func (.func 40) []) [vi b, vt] H = some (.tuple [v4, v5, vi f], H') ∧ Grow H H' ∧
    RdE H' 1 v4 (avs.map fun a => [a]) ∧ (v4.lies (· < H'.next)) ∧ avs.length = vs.length ∧ (∀ (i : Nat) a l, avs[i]? = some a → vs[i]? = some l → RdE H' 32 a l ∧ a.lies (· < H'.next)) ∧ RdE H' 32 v5 ms ∧ v5.lies (· < H'.next)

theorem answers (b : Int) (txs : List (List OpD)) (hfew : txs.length ≤ 40) (hok : ∀ t ∈ txs, ∀ o ∈ t, o.Ok) : ∃ vs ms f, Answers b txs vs ms f := by
  have none_ : ∀ (H : AHeap), RdE H 1 anil (([] : List AVal).map fun a => [a]) := fun H => ⟨fun e he => by simp at he, .inl ⟨rfl, rfl⟩⟩
  have noneV : ∀ (H : AHeap), RdE H 32 anil [] := fun H => ⟨fun e he => by simp at he, .inl ⟨rfl, rfl⟩⟩
  have nl : ∀ p, anil.lies p := fun p R a1 a2 a3 a4 a5 a6 q => by cases q
  have bad : (∀ (n : Nat) (H : AHeap) (vt : AVal) (avt : List AVal), TxsAt H vt avt txs → (∀ t ∈ txs, t.length < n + 1) → txs.length < n + 1 → ∃ H', callM kn env (n + 2) (.func (.func 39) []) [vi b, vt] H = some (.tuple [anil, anil, vi 2], H') ∧ Grow H H') →
      (∀ (n : Nat) (H : AHeap) (vt : AVal) (avt : List AVal), TxsAt H vt avt txs → (∀ t ∈ txs, t.length < n) → txs.length < n → ∃ H', callM kn env (n + 1) (.func (.func 40) []) [vi b, vt] H = some (.tuple [anil, anil, vi 2], H') ∧ Grow H H') → ∃ vs ms f, Answers b txs vs ms f := fun h1 h2 =>
    ⟨[], [], 2, {
      vals := fun l hl => by simp at hl
      mvals := fun v hv => by simp at hv
      few := by simp
      mfew := by simp
      len := fun i t x _ hx => by simp at hx
      lens := by simp
      prog := fun n H vt avt ht hn hn2 => by
        obtain ⟨H', e, g⟩ := h1 n H vt avt ht hn hn2
        exact ⟨anil, anil, [], H', e, g, ToldAt.nil _ _, SliceE.nil _ _ _, nl _⟩
      ref := fun n H vt avt ht hn hn2 => by
        obtain ⟨H', e, g⟩ := h2 n H vt avt ht hn hn2
        exact ⟨anil, anil, [], H', e, g, none_ _, nl _, rfl, fun i a l ha => by simp at ha, noneV _, nl _⟩ }⟩
  by_cases hb : 1 ≤ b ∧ b ≤ 64
  · obtain ⟨c, rfl⟩ : ∃ c : Nat, b = c := ⟨b.toNat, by omega⟩
    have hc : 1 ≤ c ∧ c ≤ 64 := by omega
    by_cases hg : ∃ t ∈ txs, ∃ o ∈ t, o.bad c
    · exact bad (fun n H vt avt ht hn hn2 => c39b n c hb vt avt txs H ht hn hn2 hg) (fun n H vt avt ht hn hn2 => c40b n c hc vt avt txs H ht hn hn2 hg)
    · have hg' : ∀ t ∈ txs, ∀ o ∈ t, ¬ o.bad c := fun t ht o ho hb => hg ⟨t, ht, o, ho, hb⟩
      have e1 : (txsM zeros64 txs).take c = txsM (zerosB c) txs := by rw [txsM_take txs _ hg', zerosB_take c hc.2]
      have e2 : toldT zeros64 txs = toldT (zerosB c) txs := by rw [← zerosB_take c hc.2, toldT_take txs _ hg']
      refine ⟨toldT (zerosB c) txs, txsM (zerosB c) txs, 0, {
        vals := toldT_vals txs (zerosB_vals c) hok
        mvals := txsM_vals txs (zerosB_vals c) hok
        few := by rw [toldT_len]; exact hfew
        mfew := by rw [txsM_len, zerosB_len]; exact hc.2
        len := toldT_len_le txs _
        lens := by rw [toldT_len]; exact Nat.le_refl _
        prog := fun n H vt avt ht hn hn2 => by
          have := c39g n c hc vt avt txs H ht hn hn2 hg'
          rw [e1, e2] at this
          exact this
        ref := fun n H vt avt ht hn hn2 => by
          obtain ⟨v4, avs, H', e, g, td, hnx, rd⟩ := c40g n c hc vt avt txs H ht hn hn2 hg'
          exact ⟨v4, _, avs, H', e, g, td.rd.rd, lies_imp td.rd.lies fun R h => h.2, td.len, fun i a l ha hl => ⟨(td.at_ i a l ha hl).rd, lies_imp (td.at_ i a l ha hl).lies fun R h => h.2⟩, rd, fun R a1 a2 a3 a4 a5 a6 q => by cases q; exact hnx⟩ }⟩
  · exact bad (fun n H vt avt ht hn hn2 => ⟨H, c39n n b hb vt H, Grow.refl H⟩) (fun n H vt avt ht hn hn2 => ⟨H, c40n n b hb vt H, Grow.refl H⟩)

/-- Several values, appended at once. -/
theorem _root_.Go.Vm.SliceE.appendAll {H : AHeap} {base esz bytes : Nat} {v y : AVal} {es fs : List (List AVal)} (h : SliceE H base esz v es) (hb : base ≤ H.next) (hy : RdE H esz y fs) (h0 : 0 < esz) (hb0 : 0 < bytes) (hone : ∀ e ∈ fs, e.all AVal.one = true) (hlen : (es.length + fs.length) * bytes ≤ 140737488355328) :
    ∃ v' H', aAppend H esz bytes v y = some (v', H') ∧ SliceE H' base esz v' (es ++ fs) ∧ H.next ≤ H'.next ∧ (∀ p : Nat → Prop, v.lies p → (∀ R, H.next ≤ R → p R) → v'.lies p) ∧ (∀ A, A < H.next → (v.lies fun R => R ≠ A) → H'.get A = H.get A) := by
  have hnews := hy.aCells
  have hl := hy.len
  have hfl1 := flatten_len hy.1
  have h00 : ∀ x ∈ es ++ fs, x.length = esz := fun x hx => by
    rcases List.mem_append.1 hx with h1 | h1
    · exact h.1 x h1
    · exact hy.1 x h1
  by_cases hm : fs.length = 0
  · have : fs = [] := List.eq_nil_of_length_eq_zero hm
    subst this
    refine ⟨v, H, ?_, by simpa using h, Nat.le_refl _, fun p hp _ => hp, fun _ _ _ => rfl⟩
    simp only [aAppend, hl, hnews, Option.bind_some, List.length_nil, if_true]
    rcases h with ⟨_, ⟨rfl, _⟩ | ⟨R, ver, vs, _, _, rfl, _⟩⟩ <;> rfl
  · rcases h with ⟨hes, ⟨rfl, rfl⟩ | ⟨R, ver, vs, h1, h2, rfl, h4, h5⟩⟩
    · refine ⟨.slice H.next 0 0 fs.length fs.length false esz, H.push (.row [some (0, fs.flatten)]), ?_, ⟨h00, .inr ⟨H.next, 0, [some (0, fs.flatten)], hb, by simp, by simp, AHeap.get_push_same _ _, by simp⟩⟩, by simp, fun p _ hp R ver off len kcap ex' esz' e' => by cases e'; exact hp _ (Nat.le_refl _), fun A hA _ => AHeap.get_push_ne _ _ (by omega)⟩
      simp only [List.length_nil, Nat.zero_add] at hlen
      simp only [aAppend, hl, hnews, Option.bind_some, hm, if_false, h0, hb0, flatten_all hone, decide_true, Bool.and_self, if_true, hlen]
    · have hr : H.rowAt R ver = some es.flatten := by unfold AHeap.rowAt; rw [h4]; simp only [h5]
      have hfl := flatten_len hes
      refine ⟨.slice R vs.length 0 (es.length + fs.length) (es.length + fs.length) false esz, H.set R (.row (newVer vs (0 + 0 + es.length * esz) fs.flatten.length (0 + 0) ((es.flatten.drop 0).take (es.length * esz) ++ fs.flatten))), ?_, ⟨h00, .inr ⟨R, vs.length, _, h1, h2, by simp, AHeap.get_set_same _ _ _, ?_⟩⟩, Nat.le_refl _,
        fun p hp _ R' ver' off' len' kcap' ex' esz' e' => by cases e'; exact hp R ver 0 _ _ _ _ rfl, fun A hA hne => AHeap.get_set_ne _ _ (fun e' => hne R ver 0 _ _ _ _ rfl e'.symm)⟩
      · have g1 : 0 + es.length * esz ≤ es.flatten.length := by omega
        have g2 : ¬ (es.length + fs.length ≤ es.length) := by omega
        simp only [aAppend, hl, hnews, Option.bind_some, hm, if_false, h0, hb0, flatten_all hone, decide_true, Bool.and_self, if_true, g2, hlen, hr, g1, h4, h5, Bool.false_eq_true]
      · unfold newVer
        rw [List.getElem?_append_right (by rw [killAt_length]; exact Nat.le_refl _), killAt_length]
        simp [List.take_of_length_le, hfl]

/-- Rows of their own have owners. -/
theorem owners (v : AVal) (avs : List AVal) (h1 : ∀ (i j : Nat) a a', i < j → avs[i]? = some a → avs[j]? = some a' → a.lies fun R => a'.lies fun R' => R ≠ R') (h2 : ∀ (i : Nat) a, avs[i]? = some a → v.lies fun R => a.lies fun R' => R ≠ R') :
    ∃ own : Nat → Nat, (v.lies fun R => own R = 0) ∧ ∀ (i : Nat) a, avs[i]? = some a → a.lies fun R => own R = i + 2 := by
  let has (R i : Nat) : Prop := ∃ a, avs[i]? = some a ∧ ∃ ver off len kcap ex esz, a = .slice R ver off len kcap ex esz
  have uniq : ∀ R i j, has R i → has R j → i = j := fun R i j ⟨a, ha, a1, a2, a3, a4, a5, a6, e⟩ ⟨a', ha', b1, b2, b3, b4, b5, b6, e'⟩ => by
    rcases Nat.lt_trichotomy i j with h | h | h
    · exact absurd rfl (h1 i j a a' h ha ha' R a1 a2 a3 a4 a5 a6 e R b1 b2 b3 b4 b5 b6 e')
    · exact h
    · exact absurd rfl (h1 j i a' a h ha' ha R b1 b2 b3 b4 b5 b6 e' R a1 a2 a3 a4 a5 a6 e)
  refine ⟨fun R => open Classical in if h : ∃ i, has R i then h.choose + 2 else 0, fun R a1 a2 a3 a4 a5 a6 e => ?_, fun i a ha R a1 a2 a3 a4 a5 a6 e => ?_⟩
  · have : ¬ ∃ i, has R i := fun ⟨i, a, ha, b1, b2, b3, b4, b5, b6, e'⟩ => absurd rfl (h2 i a ha R a1 a2 a3 a4 a5 a6 e R b1 b2 b3 b4 b5 b6 e')
    simp only [dif_neg this]
  · have hx : ∃ i, has R i := ⟨i, a, ha, a1, a2, a3, a4, a5, a6, e⟩
    simp only [dif_pos hx]
    rw [uniq R _ i hx.choose_spec ⟨a, ha, a1, a2, a3, a4, a5, a6, e⟩]

end Go.Proofs.Ythbjfkkjmecaaaa
