/- The compact code of functions that are walked (printed by a program of ours). -/
import Derived.Test.YthbjfkkjmecaaaaY41
import Derived.Test.YthbjfkkjmecaaaaRows
set_option linter.unusedVariables false
set_option linter.unusedSimpArgs false
namespace Go.Proofs.Ythbjfkkjmecaaaa
open Go Go.Vm
section
set_option maxRecDepth 20000
def a12 : zzq := ⟨(.seq (.region [qq 0 (.move zzh) []]) (.seq (.region [qq 11 (.build zz2 [(0, 1, (.c (.raw (.int .u8 1))))]) [], qq 12 (.build zz2 [(0, 1, (.c (.raw (.int .u8 2))))]) [], qr 1 (.alloc zz2) [] [] .makes, qr 2 (.alloc zz2) [] [] .makes, zx7 32 1 11 [2, 0, 0, 2, 3], zx7 32 2 12 [3, 1, 4, 0, 1, 2, 3, 4]]) (.seq (.region [qq 14 (.load true 32 (.t 1)) [1], zus 15 24 14 [0], qr 16 (.call (.c (.func (.func 18) [])) [(.t 15), (.c (ki 2))]) [1,1] [15] .any, zzx 13 16 [2], zq7 17 0 13 [3], zq7 18 1 13 [3], qr 3 (.alloc zz0) [] [] .makes, zx7 35 3 17 [6, 4, 2, 0, 1, 2, 3, 4, 6], zzx 4 18 [5,7,0,1,2,3,4,5,6,7]]) (.seq (.region [qq 20 (.build zz2 []) [], zus 21 24 20 [0], qr 22 (.call (.c (.func (.func 18) [])) [(.t 21), (.c (ki 2))]) [1,1] [21] .any, zzx 19 22 [2], zq7 23 0 19 [3], zq7 24 1 19 [3], qr 5 (.alloc zz0) [] [] .makes, zx7 35 5 23 [6, 4, 2, 0, 1, 2, 3, 4, 6], zzx 6 24 [5,7,0,1,2,3,4,5,6,7]]) (.seq (.region [qq 26 (.load true 32 (.t 1)) [1], zus 27 24 26 [0], qr 28 (.call (.c (.func (.func 19) [])) [(.t 27), (.c (ki 2))]) [1,1] [27] .any, zzx 25 28 [2], zq7 29 0 25 [3], zq7 30 1 25 [3], zzx 7 29 [4,2,0,1,2,3,4], zzx 8 30 [5,6,0,1,2,3,4,5,6]]) (.seq (.region [qq 32 (.load true 32 (.t 1)) [1], zus 33 24 32 [0], zus 34 17 33 [1,1], zzx 31 34 [2], zq7 35 0 31 [3], zq7 36 1 31 [3], zzx 9 35 [4,2,0,1,2,3,4], zzx 10 36 [5,6,0,1,2,3,4,5,6]]) (.seq (.seq (.region [qq 37 (.move zzh) [], zya 38 4 37 false [0], ⟨(some 39), (.bin .neq (.t 38) ci), (some (37, false)), [1, 0], [38], .quiet⟩, zkn 40 37 39 [0,2], zzx 41 40 [3,0], ⟨(some 42), (.load true 35 (.t 3)), (some (41, false)), [4], [3], .quiet⟩, ⟨(some 43), (.build zz0 [(0, 1, zwp), (1, 1, (.c (ki (-1)))), (2, 1, (.c (ki (-1))))]), (some (41, false)), [4], [], .quiet⟩, ⟨(some 44), (.eqP true (.fld 0 false 1 .bool (.fld 1 false 1 .int (.fld 2 false 1 .int (.fld 3 true 32 (.arr 32 1 false .int) .fin)))) (.t 42) (.t 43)), (some (41, false)), [5, 6, 4], [42, 43], .quiet⟩, zkn 45 41 44 [4,7], zzx 46 45 [8,4], zya 47 6 46 false [9], ⟨(some 48), (.bin .neq (.t 47) ci), (some (46, false)), [10, 9], [47], .quiet⟩, zkn 49 46 48 [9,11], zzx 50 49 [12,9], ⟨(some 51), (.load true 35 (.t 5)), (some (50, false)), [13], [5], .quiet⟩, ⟨(some 52), (.load true 32 (.t 1)), (some (50, false)), [13], [1], .quiet⟩, ⟨(some 53), (.build zz0 [(1, 1, (.c (ki 1))), (2, 1, ci), (3, 32, (.t 52))]), (some (50, false)), [15, 13], [52], .quiet⟩, ⟨(some 54), (.eqP true (.fld 0 false 1 .bool (.fld 1 false 1 .int (.fld 2 false 1 .int (.fld 3 true 32 (.arr 32 1 false .int) .fin)))) (.t 51) (.t 53)), (some (50, false)), [14, 16, 13], [51, 53], .quiet⟩, zkn 55 50 54 [13,17]]) (.cond (.t 55) (.seq (.region [qq 0 (.move zzh) []]) .ret) .skip)) (.seq (.region [zz8 56 8, qr 57 (.bin .eql (.t 56) ci) [0] [56] .quiet, zzx 58 57 [1], zya 59 7 58 true [2], ⟨(some 60), (.load true 32 (.t 1)), (some (58, true)), [2], [1], .quiet⟩, ⟨(some 61), (.load true 32 (.t 2)), (some (58, true)), [2], [2], .quiet⟩, ⟨(some 62), (.buildSlice 2 32 zz2 [(0, 32, (.t 60)), (32, 32, (.t 61))]), (some (58, true)), [4, 5, 2], [60, 61], .makes⟩, ⟨(some 63), (.call (.c (.func (.func 22) [])) [(.t 59), (.t 62)]), (some (58, true)), [3, 6, 2, 2], [59, 62], .any⟩, zk4 64 58 63 [2,7], zzx 65 64 [8,7], zya 66 10 65 true [9], ⟨(some 67), (.bin .eql (.t 66) ci), (some (65, true)), [10, 9], [66], .quiet⟩, zk4 68 65 67 [9,11], zzx 69 68 [12,9], zya 70 9 69 true [13], ⟨(some 71), (.buildSlice 2 1 [zi] [(0, 1, ci), (1, 1, (.c (ki 1)))]), (some (69, true)), [13], [], .makes⟩, ⟨(some 72), (.call (.c (.func (.func 20) [])) [(.t 70), (.t 71)]), (some (69, true)), [14, 15, 13, 13], [70, 71], .any⟩, zk4 73 69 72 [13,16], zzx 0 73 [17,16,0,1,2,3,4,5,6,7,8,9,10,11,12,13,14,15,16,17]]) .ret)))))))), 74, [.tmp 0]⟩
theorem e12 : zxf Try.prog 12 = some a12 := by kernel_rfl
end
section
noncomputable def tab : List (List (Option zzq)) := [[none, none, none, none, some a4, none, none, none, none, none, none, some a11, some a12, none, none, none], [some a16, some a17, some a18, some a19, some a20, some a21, some a22, some a23, some a24, none, none, some a27, some a28, some a29, some a30, some a31], [some a32, some a33, none, none, some a36, some a37, some a38, none, none, none, none, none, none, none, none, none], [none, none, none, none, some a52, none, some a54, some a55, some a56, some a57, some a58, some a59, some a60, some a61, some a62, some a63], [some a64, some a65, some a66, some a67, some a68, none, some a70, none, none, none, none, none, none, none, some a78, some a79], [some a80, some a81, some a82, some a83, some a84, some a85, some a86, some a87, some a88, some a89, some a90, none, none, none, none, none], [none, none, none, none, none, none, none, none, none, some a105, some a106, some a107, some a108, some a109, some a110, some a111], [some a112, some a113, some a114, some a115, none, none, some a118, some a119, some a120, some a121, some a122, none, none, none, none, none], [some a128, none, none, none, some a132, none, none, some a135, none, none, none, none, none, none, none, some a143]]
theorem yv4 : zng Try.prog 0 tab := ⟨⟨e4, ⟨e11, ⟨e12, trivial⟩⟩⟩, ⟨⟨e16, ⟨e17, ⟨e18, ⟨e19, ⟨e20, ⟨e21, ⟨e22, ⟨e23, ⟨e24, ⟨e27, ⟨e28, ⟨e29, ⟨e30, ⟨e31, trivial⟩⟩⟩⟩⟩⟩⟩⟩⟩⟩⟩⟩⟩⟩, ⟨⟨e32, ⟨e33, ⟨e36, ⟨e37, ⟨e38, trivial⟩⟩⟩⟩⟩, ⟨⟨e52, ⟨e54, ⟨e55, ⟨e56, ⟨e57, ⟨e58, ⟨e59, ⟨e60, ⟨e61, ⟨e62, ⟨e63, trivial⟩⟩⟩⟩⟩⟩⟩⟩⟩⟩⟩, ⟨⟨e64, ⟨e65, ⟨e66, ⟨e67, ⟨e68, ⟨e70, ⟨e78, ⟨e79, trivial⟩⟩⟩⟩⟩⟩⟩⟩, ⟨⟨e80, ⟨e81, ⟨e82, ⟨e83, ⟨e84, ⟨e85, ⟨e86, ⟨e87, ⟨e88, ⟨e89, ⟨e90, trivial⟩⟩⟩⟩⟩⟩⟩⟩⟩⟩⟩, ⟨⟨e105, ⟨e106, ⟨e107, ⟨e108, ⟨e109, ⟨e110, ⟨e111, trivial⟩⟩⟩⟩⟩⟩⟩, ⟨⟨e112, ⟨e113, ⟨e114, ⟨e115, ⟨e118, ⟨e119, ⟨e120, ⟨e121, ⟨e122, trivial⟩⟩⟩⟩⟩⟩⟩⟩⟩, ⟨⟨e128, ⟨e132, ⟨e135, ⟨e143, trivial⟩⟩⟩⟩, trivial⟩⟩⟩⟩⟩⟩⟩⟩⟩
theorem Try.mixed : Try.prog.follows .mixedOrders = true := by kernel_rfl
set_option maxRecDepth 1000000 in
theorem zdd : yxq zgq tab 200 12 = true := by kernel_rfl
theorem zgb : zw1 Try.prog (yes 12) := yzl zpd yv4 Try.mixed zdd
end
section
variable {kn : zy0} {env : Nat → Option zzq}
noncomputable def zcx : zy0 := fun f args H => if f = 12 then yes 12 f args H else if f = 68 then zp0 f args H else if f = 121 then zdl f args H else none
noncomputable abbrev znl : Nat → Option zzq := zcr tab
theorem zfj : zjt Try.prog znl := zby yv4
theorem yvy : zcy zgq znl := ⟨rfl, rfl, rfl, rfl, rfl, rfl, rfl, fun _ _ _ _ => rfl⟩
theorem yql : zw1 Try.prog zcx := fun f args H v H' h => by
 unfold zcx at h
 split at h
 ·exact zgb f args H v H' h
 ·split at h
  ·exact yzn zpd zfj Try.mixed rfl yvy f args H v H' h
  ·split at h
   ·exact ywq zfj Try.mixed rfl f args H v H' h
   ·cases h
theorem swF {f : Nat} {af : zzq} (h : znl f = some af := by rfl) (h1 : (f == 12 || f == 68 || f == 121) = false := by rfl) : Fn zcx znl f af := ⟨h, fun args H => by
 simp only [Bool.or_eq_false_iff, beq_eq_false_iff_ne] at h1
 unfold zcx; rw [if_neg h1.1.1, if_neg h1.1.2, if_neg h1.2]⟩
theorem yjh (n : Nat) : yyb (zzp zcx znl (n + 1)) := yva (kn := zcx) (env := znl) rfl (fun args H => by unfold zcx; rw [if_neg (by omega), if_neg (by omega), if_pos rfl]) n
theorem lwE : LwE zcx znl where
  by_ := { f85 := swF, f110 := swF, f111 := swF, f112 := swF, f113 := swF, f119 := swF, f120 := swF, f89 := swF, f67 := swF, f86 := swF, f87 := swF, f88 := swF, live := fun B H => by unfold zcx; rw [if_neg (by omega), if_pos rfl],
           f33 := swF, f61 := swF, f65 := swF, f62 := swF, f63 := swF, f84 := swF, f64 := swF, f66 := swF, f30 := swF }
  own := { f16 := swF, f29 := swF, f32 := swF }
  rb := { f105 := swF, f106 := swF, f107 := swF, f78 := swF, f79 := swF, f80 := swF, f81 := swF, f52 := swF, f59 := swF, f60 := swF, f28 := swF }
  hd := { f20 := swF, f31 := swF, f83 := swF, f58 := swF, f23 := swF }
  tw := { f70 := swF, f37 := swF, f38 := swF, f36 := swF, f24 := swF }
  f27 := swF
  f21 := swF
  f22 := swF
  f11 := swF
  f4 := swF
theorem yqw (n : Nat) (H : zz6) : zzp zcx znl (n + 1) (.func (.func 12) []) [] H = some (zzt true, H) := knM n (by
 unfold zcx; rw [if_pos rfl]; rfl)
theorem yvg {H : zz6} {v0 ov : AVal} {rows : List RowD} {m : Int} {order : List Int} (hrows : zwz H H.next v0 rows) (hset : ∀ r ∈ rows, (r.set.length + 2) * 8 ≤ 140737488355328) (ho : RdE H 1 ov (ints order)) (hol : ov.lies (· < H.next)) : ∃ n H', zzp zcx znl n (.func (.func 4) []) [v0, vi m, ov] H = some (zzt true, H') := by
 obtain ⟨n, hn⟩ : ∃ n : Nat, 20000000000000 < n := ⟨20000000000001, by omega⟩
 obtain ⟨v, H', h, rfl⟩ := c4 lwE n (m := m) (fun n => yjh n) (fun H => yqw _ H) hrows hset ho hol (by omega) (fun r hr => by
  have h2 : (r.set.length + 2) * 8 ≤ 17592186044416 * 8 := hset r hr
  have := Nat.le_of_mul_le_mul_right h2 (by decide)
  omega)
 exact ⟨_, H', h⟩
end
section
variable {X : Type}
section
variable {P : Program} {H : zz6} {n : Nat} {t e : TypeId} {cs : List AVal} {d : DataW X}
theorem zwk {k : IntKind} (ht : P.underlying t = some (.int k)) (h : zxq P H n t cs d) : ∃ m, cs = [.raw (.int k m)] := by
 cases n with
 | zero => exact h.elim
 | succ n =>
  unfold zxq at h
  rw [ht] at h
  obtain ⟨m, h1, _⟩ := h
  exact ⟨m, h1⟩
theorem zrr (ht : P.underlying t = some (.slice e)) (h : zxq P H n t cs d) : (cs = [zxa] ∧ d = .nil) ∨ ∃ (m A : Nat) (acss : List (List AVal)) (es sp : List (DataW X)), n = m + 1 ∧ cs = [.slice A 0 0 es.length (es.length + sp.length) true (P.cellsOf e)] ∧ d = .slice es sp ∧ H.get A = some (.ro acss.flatten) ∧
  acss.length = es.length + sp.length ∧ ∀ (i : Nat) (x : DataW X) (acs : List AVal), (es ++ sp)[i]? = some x → acss[i]? = some acs → acs.length = P.cellsOf e ∧ zxq P H m e acs x := by
 cases n with
 | zero => exact h.elim
 | succ n =>
  unfold zxq at h
  rw [ht] at h
  rcases h with h | ⟨A, acss, es, sp, h1, h2, h3, _, h5, h6⟩
  ·exact .inl h
  ·exact .inr ⟨n, A, acss, es, sp, rfl, h1, h2, h3, h5, h6⟩
theorem zf0 {k : Nat} (ht : P.underlying t = some (.array k e)) (h : zxq P H n t cs d) : ∃ (m : Nat) (acss : List (List AVal)) (ds : List (DataW X)), n = m + 1 ∧ cs = acss.flatten ∧ acss.length = k ∧ ds.length = k ∧
  ∀ (i : Nat) (x : DataW X) (acs : List AVal), ds[i]? = some x → acss[i]? = some acs → acs.length = P.cellsOf e ∧ zxq P H m e acs x := by
 cases n with
 | zero => exact h.elim
 | succ n =>
  unfold zxq at h
  rw [ht] at h
  obtain ⟨acss, ds, h1, _, h3, h4, h5⟩ := h
  exact ⟨n, acss, ds, rfl, h1, h3, h4, h5⟩
theorem zlm (ht : P.underlying t = some (.slice e)) : zxq P H (n + 1) t [zxa] (DataW.nil : DataW X) := by
 unfold zxq
 rw [ht]
 exact .inl ⟨rfl, rfl⟩
theorem zud (ht : P.underlying t = some (.slice e)) (es sp : List (DataW X)) : (DataW.slice es sp).weights P t = (es.length + sp.length) * P.bytesOf e :: (DataW.weightsAll P e es ++ DataW.weightsAll P e sp) := by
 simp only [DataW.weights, ht]
theorem zet {W : World} {b : Nat} {v : Value} (ht : P.underlying t = some (.slice e)) (h : Value.okWide P W .any b t v) : v = .slice none 0 0 ∨ ∃ a len cap, v = .slice (some a) len cap ∧ zm1 W := by
 simp only [Value.okWide, ht, Cell.okWide] at h
 cases v with
 | slice a l c =>
  cases a with
  | none =>
   simp only [Cell.ok, ht] at h
   split at h
   all_goals first | exact h.elim | (simp_all; done) | skip
   all_goals (first | (left; simp_all; done) | simp_all)
  | some a =>
   simp only [Cell.ok, ht] at h
   obtain ⟨_, _, _, _, row, cells, hs, _⟩ := h
   refine .inr ⟨a, l, c, rfl, ?_⟩
   unfold World.shape? at hs
   split at hs
   ·rename_i c e fz hh
    exact ⟨a.block, c, e, fz, hh⟩
   ·cases hs
 | _ => simp [Cell.ok, ht] at h
end
theorem zjn {P : Program} {e : TypeId} : ∀ {l : List (DataW X)} {x : DataW X} {w : Nat}, x ∈ l → w ∈ x.weights P e → w ∈ DataW.weightsAll P e l
 | [], x, w, h, _ => by simp at h
 | y :: r, x, w, h, hw => by
  simp only [DataW.weightsAll]
  rcases List.mem_cons.1 h with rfl | h
  ·exact List.mem_append_left _ hw
  ·exact List.mem_append_right _ (zjn h hw)
theorem zc0 {P : Program} {kn : zy0} {t : List (List (Option zzq))} (hk : zw1 P kn) (ht : zng P 0 t) (hm : P.follows .mixedOrders = true) {n f : Nat} {args : List AVal} {cargs : Array Value} {v : Value} {w : World} {ρ : Ren} {H H' : zz6}
  (h : zzp kn (zcr t) n (.func (.func f) []) args H = some (.raw v, H')) (ho : zw4 w ρ H) (hargs : VRels ρ args cargs.toList) : Calls P f cargs w fun e w' => e = .returned v ∧ Go.RowKit.Grown w w' ∧ ∀ c, c < w.heap.size → w'.heap[c]? = w.heap[c]? := by
 have hgo := zs6 hk (zby ht) n _ _ _ _ _ h
 have hc := (zsw hk (zby ht) hm n _ _ _ _ _ h).calls hgo
 have := hc (reads w) _ w cargs.toList ho.hrel (by simpa using hargs)
 rw [callsIn_wide] at this
 refine this.mono fun e w' ⟨v', cv, H1, ρ', e1, ⟨e2, e3⟩, e4, e5, _⟩ => ?_
 subst e2
 cases e4
 exact ⟨e1, e5.grownR, fun c hc => e5.frame c hc fun x => x⟩
theorem yxc {P : Program} {base : Nat} {t e : TypeId} {v1 : Value} {d1 : DataW X} {W : World} {enc : TypeId × Value → X} {ps : List MemPlace} (ht : P.underlying t = some (.slice e)) (htl : tiles P 20 t = true) (h1 : DataW.Trod enc P W 0 (fun _ => true) true t v1 d1 ps) (hv : Value.okWide P W .any base t v1) :
  ∃ ρ H v, zw4 W ρ H ∧ VRel ρ v v1 ∧ ∃ n, zxq P H n t [v] d1 := by
 obtain ⟨fuel, h1⟩ := h1
 rcases zet ht hv with rfl | ⟨a, len, cap, rfl, hb⟩
 ·rcases DataW.trod_slice ht h1 with ⟨hc, hx⟩ | ⟨a, len, cap, elems, rest, n, hn, hc, _⟩
  ·exact ⟨_, _, zxa, zw4.empty W, .raw _, 1, by rw [(Prod.mk.inj hx).1]; exact zlm ht⟩
  ·simp [Value.cells] at hc
 ·obtain ⟨ρ', H', acs, o1, _, _, vr, sh⟩ := ztx hb fuel 20 t _ _ _ _ htl (zw4.empty W) h1
  have vr' : VRels ρ' acs [Value.slice (some a) len cap] := vr
  cases vr' with
  | cons hvr hrest =>
   cases hrest
   exact ⟨ρ', H', _, o1, hvr, fuel, sh⟩
end
section
theorem yku : Try.prog.bytesOf 3 = 8 := by kernel_rfl
theorem cells3 : Try.prog.cellsOf 3 = 1 := by kernel_rfl
variable {X : Type}
theorem zce : ∀ (l : List (List AVal)), (∀ e ∈ l, ∃ m : Int, e = [vi m]) → ∃ t : List Int, l = ints t
 | [], _ => ⟨[], rfl⟩
 | e :: r, h => by
  obtain ⟨m, h1⟩ := h e (List.mem_cons_self ..)
  obtain ⟨t, h3⟩ := zce r fun x hx => h x (List.mem_cons_of_mem _ hx)
  exact ⟨m :: t, by rw [h1, h3]; rfl⟩
theorem zpp {H : zz6} {n : Nat} {cs : List AVal} {d : DataW X} (h : zxq Try.prog H n 25 cs d) (hw : ∀ w ∈ d.weights Try.prog 25, w ≤ reachBytes) (hd : ∀ A o, H.get A = some o → A < H.next) :
  ∃ (a : AVal) (t : List Int), cs = [a] ∧ RdE H 1 a (ints t) ∧ a.lies (· < H.next) ∧ t.length * 8 ≤ reachBytes := by
 rcases zrr Try.underlying25 h with ⟨rfl, _⟩ | ⟨m, A, acss, es, sp, rfl, rfl, rfl, hg, hl, hall⟩
 ·exact ⟨zxa, [], rfl, ⟨fun e he => by simp at he, .inl ⟨rfl, rfl⟩⟩, fun R a1 a2 a3 a4 a5 a6 q => by (cases q), by simp⟩
 ·rw [cells3] at hall ⊢
  have hsome : ∀ (i : Nat) acs, acss[i]? = some acs → ∃ x, (es ++ sp)[i]? = some x := fun i acs hi => by
   have hlt := (List.getElem?_eq_some_iff.1 hi).1
   have hlt2 : i < (es ++ sp).length := by rw [List.length_append]; omega
   exact ⟨_, List.getElem?_eq_getElem hlt2⟩
  have h1 : ∀ e ∈ acss, e.length = 1 := fun e he => by
   obtain ⟨i, hi⟩ := List.mem_iff_getElem?.1 he
   obtain ⟨x, hx⟩ := hsome i e hi
   exact (hall i x e hx hi).1
  obtain ⟨t, ht⟩ := zce (acss.take es.length) fun e he => by
   obtain ⟨i, hi⟩ := List.mem_iff_getElem?.1 (List.mem_of_mem_take he)
   obtain ⟨x, hx⟩ := hsome i e hi
   exact zwk Try.underlying3 (hall i x e hx hi).2
  have htl : t.length = es.length := by
   have := congrArg List.length ht
   rw [List.length_take, List.length_map] at this
   omega
  have hfl := zy1 h1
  refine ⟨_, t, rfl, ⟨fun e he => by rw [← ht] at he; exact h1 e (List.mem_of_mem_take he), .inr ⟨A, 0, 0, es.length + sp.length, true, acss.flatten, by rw [List.length_map, htl], by unfold zz6.rowAt; rw [hg]; rfl, by rw [List.length_map]; omega, ?_, ?_⟩⟩, fun R a1 a2 a3 a4 a5 a6 q => by cases q; exact hd A _ hg, ?_⟩
  ·rw [List.length_map, htl, Nat.zero_add, hfl, hl]; exact Nat.mul_le_mul_right _ (Nat.le_add_right _ _)
  ·rw [List.length_map, htl, List.drop_zero, ← ht, zxb es.length h1]
  ·have := hw ((es.length + sp.length) * Try.prog.bytesOf 3) (by rw [zud Try.underlying25]; exact List.mem_cons_self ..)
   rw [yku] at this
   rw [htl]
   exact Nat.le_trans (Nat.mul_le_mul_right 8 (Nat.le_add_right _ _)) this
end
section
variable {X : Type}
theorem yyn : reachBytes ≤ 140737488355328 := by decide
theorem zcc : reachBytes + 16 ≤ 140737488355328 := by decide
theorem yqc : Try.prog.cellsOf 75 = 41 := by kernel_rfl
theorem znh {P : Program} {H : zz6} {n : Nat} {t : TypeId} {cs : List AVal} {d : DataW X} {fs : Array Field} (ht : P.underlying t = some (.struct fs)) (h : zxq P H n t cs d) : ∃ (m : Nat) (acss : List (List AVal)) (ds : List (DataW X)), n = m + 1 ∧ cs = acss.flatten ∧ d = .agg ds ∧ acss.length = fs.size ∧ ds.length = fs.size ∧
  ∀ (i : Nat) (f : Field) (x : DataW X) (acs : List AVal), fs[i]? = some f → ds[i]? = some x → acss[i]? = some acs → acs.length = P.cellsOf f.type ∧ zxq P H m f.type acs x := by
 cases n with
 | zero => exact h.elim
 | succ n =>
  unfold zxq at h
  rw [ht] at h
  obtain ⟨acss, ds, h1, h2, h3, h4, h5⟩ := h
  exact ⟨n, acss, ds, rfl, h1, h2, h3, h4, h5⟩
theorem zka {P : Program} {t : TypeId} {d : DataW X} {w : Nat} : ∀ {ts : List TypeId} {ds : List (DataW X)} (i : Nat), ts[i]? = some t → ds[i]? = some d → w ∈ d.weights P t → w ∈ DataW.weightsEach P ts ds
 | [], _, i, h, _, _ => by simp at h
 | _, [], i, _, h, _ => by simp at h
 | t0 :: ts, d0 :: ds, 0, h1, h2, h3 => by
  simp only [List.getElem?_cons_zero, Option.some.injEq] at h1 h2
  subst h1 h2
  simp only [DataW.weightsEach]
  exact List.mem_append_left _ h3
 | t0 :: ts, d0 :: ds, i + 1, h1, h2, h3 => by
  simp only [List.getElem?_cons_succ] at h1 h2
  simp only [DataW.weightsEach]
  exact List.mem_append_right _ (zka i h1 h2 h3)
theorem zhc {P : Program} {t : TypeId} {fs : Array Field} (ht : P.underlying t = some (.struct fs)) (ds : List (DataW X)) : (DataW.agg ds).weights P t = DataW.weightsEach P (fs.toList.map (·.type)) ds := by
 simp only [DataW.weights, ht]
theorem ten {α : Type} : ∀ (l : List α), l.length = 10 → ∃ a0 a1 a2 a3 a4 a5 a6 a7 a8 a9, l = [a0, a1, a2, a3, a4, a5, a6, a7, a8, a9]
 | [a0, a1, a2, a3, a4, a5, a6, a7, a8, a9], _ => ⟨a0, a1, a2, a3, a4, a5, a6, a7, a8, a9, rfl⟩
theorem yzh {H : zz6} {n : Nat} {cs : List AVal} {d : DataW X} (h : zxq Try.prog H n 29 cs d) : zyr cs := by
 obtain ⟨m, a3, e3, _, z1, z3, z4, z5⟩ := zf0 Try.underlying29 h
 have hb : ∀ e ∈ a3, ∃ k, e = [v8 k] := fun e he => by
  obtain ⟨i, hi⟩ := List.mem_iff_getElem?.1 he
  have hi2 : i < e3.length := by rw [z4, ← z3]; exact (List.getElem?_eq_some_iff.1 hi).1
  exact zwk Try.underlying5 (z5 i _ e (List.getElem?_eq_getElem hi2) hi).2
 refine ⟨?_, fun c hc => ?_⟩
 ·rw [z1, zy1 (n := 1) fun e he => by obtain ⟨k, rfl⟩ := hb e he; rfl]; omega
 ·rw [z1] at hc
  obtain ⟨e, he, hce⟩ := List.mem_flatten.1 hc
  obtain ⟨k, rfl⟩ := hb e he
  simp at hce
  exact ⟨k, hce⟩
theorem za2 {H : zz6} {n : Nat} {cs : List AVal} {d : DataW X} (h : zxq Try.prog H n 75 cs d) (hw : ∀ w ∈ d.weights Try.prog 75, w ≤ reachBytes) (hd : ∀ A o, H.get A = some o → A < H.next) : ∃ r : RowD, RowC cs r ∧ (∃ sv, zuu H H.next cs r sv) ∧ (r.set.length + 2) * 8 ≤ 140737488355328 := by
 obtain ⟨n, acss, ds, rfl, h1, hdd, h3, h4, h5⟩ := znh Try.underlying75 h
 subst hdd
 rw [zhc Try.underlying75] at hw
 obtain ⟨c0, c1, c2, c3, c4, c5, c6, c7, c8, c9, rfl⟩ := ten acss h3
 obtain ⟨d0, d1, d2, d3, d4, d5, d6, d7, d8, d9, rfl⟩ := ten ds h4
 ·skip
  obtain ⟨_, s0⟩ := h5 0 _ d0 c0 rfl rfl rfl
  obtain ⟨_, s1⟩ := h5 1 _ d1 c1 rfl rfl rfl
  obtain ⟨_, s2⟩ := h5 2 _ d2 c2 rfl rfl rfl
  obtain ⟨_, s3⟩ := h5 3 _ d3 c3 rfl rfl rfl
  obtain ⟨_, s4⟩ := h5 4 _ d4 c4 rfl rfl rfl
  obtain ⟨_, s5⟩ := h5 5 _ d5 c5 rfl rfl rfl
  obtain ⟨_, s6⟩ := h5 6 _ d6 c6 rfl rfl rfl
  obtain ⟨_, s7⟩ := h5 7 _ d7 c7 rfl rfl rfl
  obtain ⟨_, s8⟩ := h5 8 _ d8 c8 rfl rfl rfl
  obtain ⟨_, s9⟩ := h5 9 _ d9 c9 rfl rfl rfl
  obtain ⟨m0, rfl⟩ := zwk Try.underlying3 s0
  obtain ⟨m1, rfl⟩ := zwk Try.underlying67 s1
  obtain ⟨m2, rfl⟩ := zwk Try.underlying3 s2
  obtain ⟨m3, rfl⟩ := zwk Try.underlying67 s3
  obtain ⟨m4, rfl⟩ := zwk Try.underlying3 s4
  have hv := yzh s5
  obtain ⟨m6, rfl⟩ := zwk Try.underlying67 s6
  obtain ⟨m7, rfl⟩ := zwk Try.underlying3 s7
  obtain ⟨m8, rfl⟩ := zwk Try.underlying39 s8
  obtain ⟨sv, t, rfl, hrd, hl, hlen⟩ := zpp s9 (fun w hww => hw w (zka 9 rfl rfl hww)) hd
  have hcs : cs = [vi m0, vu m1, vi m2, vu m3, vi m4] ++ (c5 ++ [vu m6, vi m7, vi m8, sv]) := by rw [h1]; rfl
  have h32 := hv.len
  have hlen2 : t.length * 8 ≤ 140737488355328 := Nat.le_trans hlen yyn
  have hlen3 : (t.length + 2) * 8 ≤ 140737488355328 := by have := zcc; omega
  refine ⟨⟨m0, m1, m2, m3, m4, c5, m6, m7, m8, t⟩, ⟨?_, ?_, ?_, ?_, ?_, ?_, ?_, ?_, ?_, ?_, hv, ?_⟩, ⟨sv, ?_, hrd, hl, hlen2⟩, hlen3⟩
  all_goals rw [hcs]
  ·simp [h32]
  ·rfl
  ·rfl
  ·rfl
  ·rfl
  ·rfl
  ·simp [List.drop_append, h32, List.take_append]
  ·simp [List.getElem?_append, h32]
  ·simp [List.getElem?_append, h32]
  ·simp [List.getElem?_append, h32]
  ·have hone : sv.one = true := hrd.one
   simp only [List.all_append, hv.one, List.all_cons, List.all_nil, hone]
   rfl
  ·simp [List.getElem?_append, h32]
theorem zc1 {H : zz6} {n : Nat} {v : AVal} {d : DataW X} (h : zxq Try.prog H n 22 [v] d) (hw : ∀ w ∈ d.weights Try.prog 22, w ≤ reachBytes) (hd : ∀ A o, H.get A = some o → A < H.next) : ∃ rows : List RowD, zwz H H.next v rows ∧ ∀ r ∈ rows, (r.set.length + 2) * 8 ≤ 140737488355328 := by
 rcases zrr Try.underlying22 h with ⟨h1, _⟩ | ⟨m, A, acss, es, sp, rfl, h1, rfl, hg, hl, hall⟩
 ·cases h1
  exact ⟨[], ⟨[], ⟨fun e he => by simp at he, .inl ⟨rfl, rfl⟩⟩, fun R a1 a2 a3 a4 a5 a6 q => by (cases q), rfl, fun i a t ha => by simp at ha⟩, fun r hr => by simp at hr⟩
 ·cases h1
  rw [yqc] at hall ⊢
  have hsome : ∀ (i : Nat) acs, acss[i]? = some acs → ∃ x, (es ++ sp)[i]? = some x := fun i acs hi => by
   have hlt := (List.getElem?_eq_some_iff.1 hi).1
   have hlt2 : i < (es ++ sp).length := by rw [List.length_append]; omega
   exact ⟨_, List.getElem?_eq_getElem hlt2⟩
  have h1' : ∀ e ∈ acss, e.length = 41 := fun e he => by
   obtain ⟨i, hi⟩ := List.mem_iff_getElem?.1 he
   obtain ⟨x, hx⟩ := hsome i e hi
   exact (hall i x e hx hi).1
  have one : ∀ i, i < es.length → ∃ r : RowD, ∃ acs, acss[i]? = some acs ∧ (RowC acs r ∧ ∃ sv, zuu H H.next acs r sv) ∧ (r.set.length + 2) * 8 ≤ 140737488355328 := fun i hi => by
   have hx : es[i]? = some es[i] := List.getElem?_eq_getElem hi
   have hx' : (es ++ sp)[i]? = some es[i] := by rw [List.getElem?_append_left hi]; exact hx
   have hlt : i < acss.length := by omega
   have hc : acss[i]? = some acss[i] := List.getElem?_eq_getElem hlt
   obtain ⟨_, s⟩ := hall i _ _ hx' hc
   obtain ⟨r, q, q', q''⟩ := za2 s (fun w hww => hw w (by
    rw [zud Try.underlying22]
    exact List.mem_cons_of_mem _ (List.mem_append_left _ (zjn (List.getElem_mem hi) hww)))) hd
   exact ⟨r, _, hc, ⟨q, q'⟩, q''⟩
  have hfl := zy1 h1'
  have htl : (acss.take es.length).length = es.length := by rw [List.length_take]; omega
  refine ⟨(List.range es.length).map fun i => if hi : i < es.length then (one i hi).choose else ⟨0, 0, 0, 0, 0, [], 0, 0, 0, []⟩, ⟨acss.take es.length, ⟨fun e he => h1' e (List.mem_of_mem_take he), .inr ⟨A, 0, 0, es.length + sp.length, true, acss.flatten, by rw [htl], by unfold zz6.rowAt; rw [hg]; rfl, by rw [htl]; omega, ?_, ?_⟩⟩, fun R a1 a2 a3 a4 a5 a6 q => by (cases q; exact hd A _ hg), by rw [List.length_take, List.length_map, List.length_range]; omega, fun k rc r hrc hr => ?_⟩, fun r hr => ?_⟩
  ·rw [htl, Nat.zero_add, hfl, hl]; exact Nat.mul_le_mul_right _ (Nat.le_add_right _ _)
  ·rw [htl, List.drop_zero, zxb es.length h1']
  ·rw [List.getElem?_map] at hr
   obtain ⟨j, hj, rfl⟩ := Option.map_eq_some_iff.1 hr
   have hlt : k < es.length := by
    have := (List.getElem?_eq_some_iff.1 hj).1
    simpa using this
   rw [List.getElem?_range hlt] at hj
   cases hj
   rw [List.getElem?_take, if_pos hlt] at hrc
   obtain ⟨acs, q1, q2⟩ := (one k hlt).choose_spec
   rw [dif_pos hlt]
   rw [q1] at hrc
   cases hrc
   exact q2.1
  ·obtain ⟨i, hi, rfl⟩ := List.mem_map.1 hr
   have hlt : i < es.length := List.mem_range.1 hi
   rw [dif_pos hlt]
   obtain ⟨acs, q1, q2⟩ := (one i hlt).choose_spec
   exact q2.2
end
section
variable {X : Type}
theorem yzq {P : Program} {base : Nat} {t e : TypeId} {v1 : Value} {d1 : DataW X} {W : World} {enc : TypeId × Value → X} {ps : List MemPlace} {ρ : Ren} {H : zz6} (ho : zw4 W ρ H) (ht : P.underlying t = some (.slice e)) (htl : tiles P 20 t = true) (h1 : DataW.Trod enc P W 0 (fun _ => true) true t v1 d1 ps) (hv : Value.okWide P W .any base t v1) :
  ∃ ρ' H' v, zw4 W ρ' H' ∧ ρ.le ρ' ∧ zkp H H' ∧ VRel ρ' v v1 ∧ ∃ n, zxq P H' n t [v] d1 := by
 obtain ⟨fuel, h1⟩ := h1
 rcases zet ht hv with rfl | ⟨a, len, cap, rfl, hb⟩
 ·rcases DataW.trod_slice ht h1 with ⟨hc, hx⟩ | ⟨a, len, cap, elems, rest, n, hn, hc, _⟩
  ·exact ⟨_, _, zxa, ho, fun _ _ _ h => h, zkp.refl _, .raw _, 1, by rw [(Prod.mk.inj hx).1]; exact zlm ht⟩
  ·simp [Value.cells] at hc
 ·obtain ⟨ρ', H', acs, o1, q1, q2, vr, sh⟩ := ztx hb fuel 20 t _ _ _ _ htl ho h1
  have vr' : VRels ρ' acs [Value.slice (some a) len cap] := vr
  cases vr' with
  | cons hvr hrest =>
   cases hrest
   exact ⟨ρ', H', _, o1, q1, q2, hvr, fuel, sh⟩
theorem open_two {P : Program} {base : Nat} {t e t2 e2 : TypeId} {v1 v2 : Value} {d1 d2 : DataW X} {W : World} {enc : TypeId × Value → X} {ps ps2 : List MemPlace} (ht : P.underlying t = some (.slice e)) (htl : tiles P 20 t = true) (h1 : DataW.Trod enc P W 0 (fun _ => true) true t v1 d1 ps) (hv : Value.okWide P W .any base t v1)
  (ht2 : P.underlying t2 = some (.slice e2)) (htl2 : tiles P 20 t2 = true) (h2 : DataW.Trod enc P W 0 (fun _ => true) true t2 v2 d2 ps2) (hv2 : Value.okWide P W .any base t2 v2) :
  ∃ ρ H a1 a2, zw4 W ρ H ∧ VRel ρ a1 v1 ∧ VRel ρ a2 v2 ∧ (∃ n, zxq P H n t [a1] d1) ∧ ∃ n, zxq P H n t2 [a2] d2 := by
 obtain ⟨ρ, H, a1, ho, r1, n1, s1⟩ := yxc ht htl h1 hv
 obtain ⟨ρ', H', a2, ho', hle, hk, r2, n2, s2⟩ := yzq ho ht2 htl2 h2 hv2
 exact ⟨ρ', H', a1, a2, ho', r1.mono hle, r2, ⟨n1, zqn hk _ _ _ _ s1⟩, n2, s2⟩
end
section
variable {X : Type}
theorem by_true (m : Int) (v0 v2 : Value) (d0 d2 : DataW X) (W : World) (hop : ∃ ρ H a0 a2, zw4 W ρ H ∧ VRel ρ a0 v0 ∧ VRel ρ a2 v2 ∧ (∃ n, zxq Try.prog H n 22 [a0] d0) ∧ ∃ n, zxq Try.prog H n 25 [a2] d2) (hw0 : ∀ w ∈ d0.weights Try.prog 22, w ≤ reachBytes) (hw2 : ∀ w ∈ d2.weights Try.prog 25, w ≤ reachBytes) :
  Calls Try.prog 4 #[v0, .int .i64 m, v2] W fun e w' => e = .returned (.bool true) ∧ Go.RowKit.Grown W w' ∧ ∀ c, c < W.heap.size → w'.heap[c]? = W.heap[c]? := by
 obtain ⟨ρ, H, a0, a2, ho, hr0, hr2, ⟨n0, hs0⟩, ⟨n2, hs2⟩⟩ := hop
 have hd : ∀ A o, H.get A = some o → A < H.next := fun A o hA => by
  rcases Nat.lt_or_ge A H.next with h | h
  ·exact h
  ·rw [ho.wf A h] at hA; cases hA
 obtain ⟨rows, hrows, hset⟩ := zc1 hs0 hw0 hd
 obtain ⟨a, t, q1, hrd, hl, hlen⟩ := zpp hs2 hw2 hd
 cases q1
 obtain ⟨k, H', hrun⟩ := yvg (m := m) hrows hset hrd hl
 exact zc0 yql yv4 Try.mixed hrun ho (.cons hr0 (.cons (.raw _) (.cons hr2 .nil)))
end
end Go.Proofs.Ythbjfkkjmecaaaa
