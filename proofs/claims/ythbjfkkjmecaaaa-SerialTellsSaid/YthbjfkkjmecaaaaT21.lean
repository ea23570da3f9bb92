/- The abstract machine, part 39: walks whose outcome is told by a relation. -/
import Derived.Test.YthbjfkkjmecaaaaT19
import Derived.Test.YthbjfkkjmecaaaaT20
import Derived.Test.YthbjfkkjmecaaaaProg
set_option linter.unusedVariables false
set_option linter.unusedSimpArgs false
namespace Go.Vm
open Go
variable {P : Program} {or : Oracle} {n N : Nat} {C : List Nat} {s s' s1 : KS} {l l' l1 : KL} {H H1 : AHeap} {Q Q' : Exit → KS → Prop} {a b : ACode}
def KQ (N : Nat) (Q : Exit → KS → Prop) (e : Exit) (st : ASt) : Prop := ∃ s', st.marks = [] ∧ st.H = s'.2 ∧ Kn N s'.1 st.tm ∧ Q e s'
structure WpR (P : Program) (N : Nat) (C : List Nat) (c : ACode) (s : KS) (Q : Exit → KS → Prop) : Prop where
  run : ∀ tm, Kn N s.1 tm → CodeW P none c (KQ N Q) ⟨tm, s.2, []⟩
def RSeq (P : Program) (N : Nat) (C : List Nat) (b : ACode) (Q : Exit → KS → Prop) : Exit → KS → Prop
  | .normal, s => WpR P N C b s Q
  | e, s => Q e s
theorem WpR.of (hor : OracleOk P or) (hm : P.follows .mixedOrders = true) (hgo : OracleGoY P or) {c : ACode} (h : Wp or n N C c s Q) : WpR P N C c s Q := ⟨fun tm hk => by
  obtain ⟨e, tm', s', h1, h2, h3⟩ := h.run tm hk
  exact CodeW.run hor hm hgo h1 ⟨s', rfl, rfl, h2, h3⟩⟩
theorem WpR.seq (h : WpR P N C a s (RSeq P N C b Q)) : WpR P N C (.seq a b) s Q := ⟨fun tm hk => CodeW.seq ((h.run tm hk).mono fun e st hq => by
  obtain ⟨s', h1, h2, h3, h4⟩ := hq
  obtain ⟨tm', H', m⟩ := st
  cases h1; cases h2
  cases e with
  | normal => exact h4.run tm' h3
  | _ => exact ⟨s', rfl, rfl, h3, h4⟩)⟩
theorem WpR.blk {id : Nat} (h : WpR P N C a s (QBlk id Q)) : WpR P N C (.block id a) s Q := ⟨fun tm hk => CodeW.block ((h.run tm hk).mono fun e st hq => by
  obtain ⟨s', h1, h2, h3, h4⟩ := hq
  cases e with
  | exit k =>
    simp only [QBlk] at h4
    simp only [ABlock]
    split
    · rename_i e; rw [if_pos e] at h4; exact ⟨s', h1, h2, h3, h4⟩
    · rename_i e; rw [if_neg e] at h4; exact ⟨s', h1, h2, h3, h4⟩
  | _ => exact ⟨s', h1, h2, h3, h4⟩)⟩
theorem WpR.cond {x : AOpd} {t : Bool} (he : evK s.1 x = some (abool t)) (h : WpR P N C (if t then a else b) s Q) : WpR P N C (.cond x a b) s Q := ⟨fun tm hk => CodeW.cond (by rw [evK_ok hk he]) (h.run tm hk)⟩
theorem WpR.cT {x : AOpd} (he : evK s.1 x = some (abool true)) (h : WpR P N C a s Q) : WpR P N C (.cond x a b) s Q := WpR.cond he h
theorem WpR.cF {x : AOpd} (he : evK s.1 x = some (abool false)) (h : WpR P N C b s Q) : WpR P N C (.cond x a b) s Q := WpR.cond he h
theorem WpR.loop {α : Type} (L : α → KL) (Hp : α → AHeap) (I : α → Prop) (μ : α → Nat) (x : α) (hH : Hp x = s.2) (hI : I x) (hl : SubK (L x) s.1)
    (h : ∀ x, I x → WpR P N C a (L x, Hp x) (fun e s' => match e with | .normal => ∃ y, Hp y = s'.2 ∧ I y ∧ μ y < μ x ∧ SubK (L y) s'.1 | e => Q e s')) : WpR P N C (.loop a) s Q := ⟨fun tm hk =>
  CodeW.loop (fun m st => ∃ y, μ y = m ∧ I y ∧ st.marks = [] ∧ st.H = Hp y ∧ Kn N (L y) st.tm) (fun m st ⟨y, e1, e2, e3, e4, e5⟩ => by
    obtain ⟨tm', H', mk⟩ := st
    cases e3; cases e4
    refine ((h y e2).run tm' e5).mono fun e st hq => ?_
    obtain ⟨s', h1, h2, h3, h4⟩ := hq
    cases e with
    | normal =>
      obtain ⟨z, g1, g2, g3, g4⟩ := h4
      exact ⟨μ z, by omega, z, rfl, g2, h1, h2.trans g1.symm, g4.kn h3⟩
    | _ => exact ⟨s', h1, h2, h3, h4⟩) (n := μ x) ⟨x, rfl, hI, rfl, hH.symm, hl.kn hk⟩⟩
theorem WpR.ret (h : Q .ret s) : WpR P N C .ret s Q := ⟨fun tm hk => CodeW.ret ⟨s, rfl, rfl, hk, h⟩⟩
theorem WpR.next (hor : OracleOk P or) {ao : AOper} {aos : List AOper} {ax : AOpd} {A M since last clock : Nat} {seen : List Nat} {es : AEntries} (hop : ao.op = .iterNext ax) (hg : ao.guard = none) (hx : evK s.1 ax = some (.ptr A 0 0))
    (hA : s.2.get A = some (.iter (some M) since seen last)) (hM : s.2.get M = some (.map es clock)) (hold : ∀ e ∈ es, e.2.2 < since) (hsl : since ≤ last)
    (h0 : leftIn es seen = [] → ∃ s', Ex or N aos (putK N s.1 ao.dst (.tuple [abool false]), s.2) s' ∧ Q .normal s')
    (h1 : ∀ e ∈ leftIn es seen, ∃ s', Ex or N aos (putK N s.1 ao.dst (.tuple [abool true, e.1, e.2.1]), s.2.set A (.iter (some M) since (seen ++ [e.2.2]) clock)) s' ∧ Q .normal s') : WpR P N C (.region (ao :: aos)) s Q := ⟨fun tm hk => by
  refine CodeW.next hor hop (by unfold awanted; rw [hg]) (evK_ok hk hx) hA hM hold hsl (fun hl => ?_) fun e he => ?_
  · obtain ⟨s', g1, g2⟩ := h0 hl
    obtain ⟨tm1, a1, a2⟩ := hk.put ao.dst (.tuple [abool false]) s.2 []
    obtain ⟨tm2, b1, b2⟩ := g1 tm1 [] a2
    exact ⟨⟨tm2, s'.2, []⟩, by rw [a1]; exact b1, s', rfl, rfl, b2, g2⟩
  · obtain ⟨s', g1, g2⟩ := h1 e he
    obtain ⟨tm1, a1, a2⟩ := hk.put ao.dst (.tuple [abool true, e.1, e.2.1]) (s.2.set A (.iter (some M) since (seen ++ [e.2.2]) clock)) []
    obtain ⟨tm2, b1, b2⟩ := g1 tm1 [] a2
    exact ⟨⟨tm2, s'.2, []⟩, by rw [a1]; exact b1, s', rfl, rfl, b2, g2⟩⟩
theorem WpR.calls {env : Nat → Option AFunc} (henv : EnvOk P env) {f : Nat} {af : AFunc} {args : List AVal} {R : AVal → AHeap → Prop} (N : Nat) (C : List Nat) (h : env f = some af) (hN : af.ntmps = N) (ha : args.length ≤ N)
    (hw : WpR P N C af.code (argK 0 args, H) (EndK af.res R)) : ACalls P f args H R := by
  subst hN
  refine ACalls.of_code henv h ((hw.run (initTm af args) ⟨initTm_len ha, fun k v hv => initTm_at (by have := look_argK args 0 k v hv; simpa using this.2)⟩).mono fun e st hq => ?_)
  obtain ⟨s', h1, h2, h3, h4⟩ := hq
  obtain ⟨tm', H', mk⟩ := st
  cases h1; cases h2
  cases e with
  | normal => obtain ⟨vs, g1, g2⟩ := h4; exact ⟨_, vs, rfl, ressK_ok h3 g1, g2⟩
  | ret => obtain ⟨vs, g1, g2⟩ := h4; exact ⟨_, vs, rfl, ressK_ok h3 g1, g2⟩
  | _ => exact h4
end Go.Vm
namespace Go.Proofs.Ythbjfkkjmecaaaa
open Go Go.Vm
set_option maxRecDepth 20000
def a90 : AFunc := ⟨(.seq (.region [qq 3 (mv 0) [0], qr 4 (.len 1 (.t 3)) [0] [3] .quiet, qr 2 (mv 4) [1,0,1] [4] .quiet]) (.region [qq 5 (mv 0) [0], qq 6 (mv 2) [2], qq 7 (mv 2) [2], qr 8 (.conv .u64 (.t 7)) [2] [7] .quiet, qr 9 (.call (.c (.func (.func 115) [])) [(.t 8)]) [3] [8] .any, qr 10 (.call (.c (.func (.func 114) [])) [(.t 5), ci, (.t 6), (.t 9)]) [0,1,4,4] [5,6,9] .any])), 11, []⟩
theorem e90 : envP Try.prog 90 = some a90 := by kernel_rfl
def a114 : AFunc := ⟨(.seq (.region [qq 8 (.move (.c (.raw (.bool true)))) []]) (.seq (.region [qq 9 (.move (.c (.raw (.bool true)))) []]) (.block 0 (.loop (.block 1 (.seq (.region [qq 19 (mv 2) [2], qq 20 (mv 1) [1], qr 21 (.bin .sub (.t 19) (.t 20)) [0,1] [19,20] .quiet, qr 10 (mv 21) [2,0,1,2] [21] .quiet]) (.seq (.seq (.region [qq 22 (mv 10) [10], qr 23 (.bin .leq (.t 22) (.c (ki 12))) [0] [22] .quiet]) (.cond (.t 23) (.seq (.region [qq 24 (mv 0) [0], qq 25 (mv 1) [1], qq 26 (mv 2) [2], qr 27 (.call (.c (.func (.func 122) [])) [(.t 24), (.t 25), (.t 26)]) [0,1,2] [24,25,26] .any]) .ret) .skip)) (.seq (.seq (.region [qq 28 (mv 3) [3], qr 29 (.bin .eql (.t 28) ci) [0] [28] .quiet]) (.cond (.t 29) (.seq (.region [qq 30 (mv 0) [0], qq 31 (mv 1) [1], qq 32 (mv 2) [2], qr 33 (.call (.c (.func (.func 123) [])) [(.t 30), (.t 31), (.t 32)]) [0,1,2] [30,31,32] .any]) .ret) .skip)) (.seq (.seq (.region [qq 34 (mv 8) [8], qr 35 (.un .not (.t 34)) [0] [34] .quiet]) (.cond (.t 35) (.seq (.region [qq 36 (mv 0) [0], qq 37 (mv 1) [1], qq 38 (mv 2) [2], qr 39 (.call (.c (.func (.func 124) [])) [(.t 36), (.t 37), (.t 38)]) [0,1,2] [36,37,38] .any]) (.region [qq 40 (mv 3) [3], qr 41 (.bin .sub (.t 40) (.c (ki 1))) [0] [40] .quiet, qr 3 (mv 41) [1,0,1] [41] .quiet])) .skip)) (.seq (.region [qq 43 (mv 0) [0], qq 44 (mv 1) [1], qq 45 (mv 2) [2], qr 46 (.call (.c (.func (.func 125) [])) [(.t 43), (.t 44), (.t 45)]) [0,1,2] [43,44,45] .any, qr 42 (mv 46) [3] [46] .quiet, qr 47 (.extract 0 (.t 42)) [4] [42] .quiet, qr 48 (.extract 1 (.t 42)) [4] [42] .quiet, qr 11 (mv 47) [5,3,0,1,2,3,4,5] [47] .quiet, qr 12 (mv 48) [6,7,0,1,2,3,4,5,6,7] [48] .quiet]) (.seq (.seq (.region [qq 49 (mv 12) [12], qr 50 (.bin .eql (.t 49) (.c (ki 2))) [0] [49] .quiet]) (.cond (.t 50) (.seq (.region [qq 51 (mv 0) [0], qq 52 (mv 1) [1], qq 53 (mv 2) [2], qr 54 (.call (.c (.func (.func 126) [])) [(.t 51), (.t 52), (.t 53)]) [0,1,2] [51,52,53] .any]) (.seq (.region [qq 55 (mv 2) [2], qr 56 (.bin .sub (.t 55) (.c (ki 1))) [0] [55] .quiet, qq 57 (mv 11) [11], qq 58 (mv 1) [1], qr 59 (.bin .sub (.t 57) (.t 58)) [2,3] [57,58] .quiet, qr 60 (.bin .sub (.t 56) (.t 59)) [1,4] [56,59] .quiet, qr 11 (mv 60) [5,0,1,2,3,4,5] [60] .quiet]) (.region [qq 12 (.move (.c (ki 1))) []]))) .skip)) (.seq (.seq (.region [qq 61 (mv 8) [8], qr 62 (mv 61) [0] [61] .quiet, gm 63 (mv 9) 62 true [1] [9], qr 64 (.pick (.t 62) (.t 63) (.c (.raw (.bool false)))) [1,2] [62,63] .quiet, qr 65 (mv 64) [3,1] [64] .quiet, gm 66 (mv 12) 65 true [4] [12], ⟨(some 67), (.bin .eql (.t 66) (.c (ki 1))), (some (65, true)), [5, 4], [66], .quiet⟩, qr 68 (.pick (.t 65) (.t 67) (.c (.raw (.bool false)))) [4,6] [65,67] .quiet]) (.cond (.t 68) (.seq (.region [qq 69 (mv 0) [0], qq 70 (mv 1) [1], qq 71 (mv 2) [2], qr 72 (.call (.c (.func (.func 127) [])) [(.t 69), (.t 70), (.t 71)]) [0,1,2] [69,70,71] .any]) (.cond (.t 72) .ret .skip)) .skip)) (.seq (.seq (.draw [qq 73 (mv 1) [1], qr 74 (.bin .gtr (.t 73) ci) [0] [73] .quiet, qr 75 (mv 74) [1] [74] .quiet, gm 76 (mv 0) 75 true [2] [0], gm 77 (mv 1) 75 true [2] [1], ⟨(some 78), (.bin .sub (.t 77) (.c (ki 1))), (some (75, true)), [4, 2], [77], .quiet⟩, ⟨(some 79), (.idxAddrS 1 (.t 76) (.t 78)), (some (75, true)), [3, 5, 2], [76, 78], .quiet⟩, ⟨(some 80), (.load false 1 (.t 79)), (some (75, true)), [6, 2], [79], .quiet⟩, gm 81 (mv 0) 75 true [2] [0], gm 82 (mv 11) 75 true [2] [11], ⟨(some 83), (.idxAddrS 1 (.t 81) (.t 82)), (some (75, true)), [8, 9, 2], [81, 82], .quiet⟩, ⟨(some 84), (.load false 1 (.t 83)), (some (75, true)), [10, 2], [83], .quiet⟩, ⟨(some 85), (.call (.c (.func (.func 128) [])) [(.t 80), (.t 84)]), (some (75, true)), [7, 11, 2, 2], [80, 84], .any⟩, ⟨(some 86), (.un .not (.t 85)), (some (75, true)), [12, 2], [85], .quiet⟩, qr 87 (.pick (.t 75) (.t 86) (.c (.raw (.bool false)))) [2,13] [75,86] .quiet] [.mob 0, .mob 1, .mob 2, .mob 3, .mob 4, .mob 5, .mob 6, .mob 7, .mob 8, .mob 9, .mob 10, .mob 11, .imm 12 [], .mob 13, .mob 14] [7, 11]) (.cond (.t 87) (.seq (.region [qq 88 (mv 0) [0], qq 89 (mv 1) [1], qq 90 (mv 2) [2], qq 91 (mv 11) [11], qr 92 (.call (.c (.func (.func 129) [])) [(.t 88), (.t 89), (.t 90), (.t 91)]) [0,1,2,3] [88,89,90,91] .any, qr 13 (mv 92) [4,4,0,1,2,3,4] [92] .quiet]) (.seq (.region [qq 93 (mv 13) [13], qr 1 (mv 93) [0,0] [93] .quiet]) (.exit 1))) .skip)) (.seq (.region [qq 95 (mv 0) [0], qq 96 (mv 1) [1], qq 97 (mv 2) [2], qq 98 (mv 11) [11], qr 99 (.call (.c (.func (.func 130) [])) [(.t 95), (.t 96), (.t 97), (.t 98)]) [0,1,2,3] [95,96,97,98] .any, qr 94 (mv 99) [4] [99] .quiet, qr 100 (.extract 0 (.t 94)) [5] [94] .quiet, qr 101 (.extract 1 (.t 94)) [5] [94] .quiet, qr 14 (mv 100) [6,4,0,1,2,3,4,5,6] [100] .quiet, qr 15 (mv 101) [7,8,0,1,2,3,4,5,6,7,8] [101] .quiet]) (.seq (.region [qq 102 (mv 15) [15], qr 9 (mv 102) [0,0] [102] .quiet]) (.seq (.region [qq 103 (mv 14) [14], qq 104 (mv 1) [1], qr 105 (.bin .sub (.t 103) (.t 104)) [0,1] [103,104] .quiet, qq 106 (mv 2) [2], qq 107 (mv 14) [14], qr 108 (.bin .sub (.t 106) (.t 107)) [3,4] [106,107] .quiet, qr 16 (mv 105) [2,0,1,2] [105] .quiet, qr 17 (mv 108) [5,6,0,1,2,3,4,5,6] [108] .quiet]) (.seq (.region [qq 109 (mv 10) [10], qr 110 (.bin .quo (.t 109) (.c (ki 8))) [0] [109] .quiet, qr 18 (mv 110) [1,0,1] [110] .quiet]) (.seq (.region [qq 111 (mv 16) [16], qq 112 (mv 17) [17], qr 113 (.bin .lss (.t 111) (.t 112)) [0,1] [111,112] .quiet]) (.cond (.t 113) (.seq (.region [qq 114 (mv 16) [16], qq 115 (mv 18) [18], qr 116 (.bin .geq (.t 114) (.t 115)) [0,1] [114,115] .quiet, qr 8 (mv 116) [2,0,1,2] [116] .quiet]) (.seq (.region [qq 117 (mv 0) [0], qq 118 (mv 1) [1], qq 119 (mv 14) [14], qq 120 (mv 3) [3], qr 121 (.call (.c (.func (.func 114) [])) [(.t 117), (.t 118), (.t 119), (.t 120)]) [0,1,2,3] [117,118,119,120] .any]) (.region [qq 122 (mv 14) [14], qr 123 (.bin .add (.t 122) (.c (ki 1))) [0] [122] .quiet, qr 1 (mv 123) [1,0,1] [123] .quiet]))) (.seq (.region [qq 124 (mv 17) [17], qq 125 (mv 18) [18], qr 126 (.bin .geq (.t 124) (.t 125)) [0,1] [124,125] .quiet, qr 8 (mv 126) [2,0,1,2] [126] .quiet]) (.seq (.region [qq 127 (mv 0) [0], qq 128 (mv 14) [14], qr 129 (.bin .add (.t 128) (.c (ki 1))) [1] [128] .quiet, qq 130 (mv 2) [2], qq 131 (mv 3) [3], qr 132 (.call (.c (.func (.func 114) [])) [(.t 127), (.t 129), (.t 130), (.t 131)]) [0,2,3,4] [127,129,130,131] .any]) (.region [qq 133 (mv 14) [14], qr 2 (mv 133) [0,0] [133] .quiet])))))))))))))))))))))), 134, []⟩
theorem e114 : envP Try.prog 114 = some a114 := by kernel_rfl
def a115 : AFunc := ⟨(.seq (.region [qq 2 (.move ci) []]) (.seq (.cond (.c (.raw (.bool false))) (.seq (.region [qq 3 (mv 0) [0], qr 4 (.conv .u32 (.t 3)) [0] [3] .quiet, qr 5 (.call (.c (.func (.func 131) [])) [(.t 4)]) [1] [4] .any, qr 2 (mv 5) [2,2,0,1,2] [5] .quiet]) .ret) .skip) (.seq (.region [qq 6 (mv 0) [0], qr 7 (.call (.c (.func (.func 132) [])) [(.t 6)]) [0] [6] .any, qr 2 (mv 7) [1,1,0,1] [7] .quiet]) .ret))), 8, [.tmp 2]⟩
theorem e115 : envP Try.prog 115 = some a115 := by kernel_rfl
def a122 : AFunc := ⟨(.seq (.region [qq 8 (mv 1) [1], qr 9 (.bin .add (.t 8) (.c (ki 1))) [0] [8] .quiet, qr 6 (mv 9) [1,0,1] [9] .quiet]) (.block 0 (.loop (.seq (.seq (.region [qq 10 (mv 6) [6], qq 11 (mv 2) [2], qr 12 (.bin .lss (.t 10) (.t 11)) [0,1] [10,11] .quiet]) (.cond (.t 12) .skip (.exit 0))) (.seq (.block 1 (.seq (.region [qq 15 (mv 6) [6], qr 7 (mv 15) [0,0] [15] .quiet]) (.block 2 (.loop (.seq (.seq (.draw [qq 16 (mv 7) [7], qq 17 (mv 1) [1], qr 18 (.bin .gtr (.t 16) (.t 17)) [0,1] [16,17] .quiet, qr 19 (mv 18) [2] [18] .quiet, gm 20 (mv 0) 19 true [3] [0], gm 21 (mv 7) 19 true [3] [7], ⟨(some 22), (.idxAddrS 1 (.t 20) (.t 21)), (some (19, true)), [4, 5, 3], [20, 21], .quiet⟩, ⟨(some 23), (.load false 1 (.t 22)), (some (19, true)), [6, 3], [22], .quiet⟩, gm 24 (mv 0) 19 true [3] [0], gm 25 (mv 7) 19 true [3] [7], ⟨(some 26), (.bin .sub (.t 25) (.c (ki 1))), (some (19, true)), [9, 3], [25], .quiet⟩, ⟨(some 27), (.idxAddrS 1 (.t 24) (.t 26)), (some (19, true)), [8, 10, 3], [24, 26], .quiet⟩, ⟨(some 28), (.load false 1 (.t 27)), (some (19, true)), [11, 3], [27], .quiet⟩, ⟨(some 29), (.call (.c (.func (.func 128) [])) [(.t 23), (.t 28)]), (some (19, true)), [7, 12, 3, 3], [23, 28], .any⟩, qr 30 (.pick (.t 19) (.t 29) (.c (.raw (.bool false)))) [3,13] [19,29] .quiet] [.mob 0, .mob 1, .mob 2, .mob 3, .mob 4, .mob 5, .mob 6, .mob 7, .mob 8, .mob 9, .mob 10, .mob 11, .mob 12, .imm 13 [], .mob 14] [7, 12]) (.cond (.t 30) .skip (.exit 2))) (.seq (.block 3 (.draw [qq 33 (mv 0) [0], qq 34 (mv 7) [7], qq 35 (mv 0) [0], qq 36 (mv 7) [7], qr 37 (.bin .sub (.t 36) (.c (ki 1))) [3] [36] .quiet, qq 38 (mv 0) [0], qq 39 (mv 7) [7], qr 40 (.bin .sub (.t 39) (.c (ki 1))) [6] [39] .quiet, qr 41 (.idxAddrS 1 (.t 38) (.t 40)) [5,7] [38,40] .quiet, qr 42 (.load false 1 (.t 41)) [8] [41] .quiet, qq 43 (mv 0) [0], qq 44 (mv 7) [7], qr 45 (.idxAddrS 1 (.t 43) (.t 44)) [10,11] [43,44] .quiet, qr 46 (.load false 1 (.t 45)) [12] [45] .quiet, qr 47 (.idxAddrS 1 (.t 33) (.t 34)) [0,1,0,1,5,6,7,8,9,13] [33,34] .quiet, ⟨none, (.store 1 (.t 47) (.t 42)), none, [14, 9, 0, 1, 5, 6, 7, 8, 9, 13], [47, 42], .any⟩, qr 48 (.idxAddrS 1 (.t 35) (.t 37)) [2,4,0,1,2,3,4,5,6,7,8,9,10,11,12,13,14,15] [35,37] .quiet, ⟨none, (.store 1 (.t 48) (.t 46)), none, [16, 13, 15, 0, 1, 2, 3, 4, 5, 6, 7, 8, 9, 10, 11, 12, 13, 14, 15], [48, 46], .any⟩] [.mob 0, .mob 1, .mob 5, .mob 6, .mob 7, .mob 8, .mob 9, .mob 10, .mob 11, .mob 12, .mob 13, .mob 14, .imm 15 [], .mob 2, .mob 3, .mob 4, .mob 16, .imm 17 []] [9, 13])) (.region [qq 31 (mv 7) [7], qr 32 (.bin .sub (.t 31) (.c (ki 1))) [0] [31] .quiet, qr 7 (mv 32) [1,0,1] [32] .quiet]))))))) (.region [qq 13 (mv 6) [6], qr 14 (.bin .add (.t 13) (.c (ki 1))) [0] [13] .quiet, qr 6 (mv 14) [1,0,1] [14] .quiet])))))), 49, []⟩
theorem e122 : envP Try.prog 122 = some a122 := by kernel_rfl
def a128 : AFunc := ⟨(.seq (.region [qq 4 (.move (.c (.raw (.bool false)))) []]) (.seq (.region [qq 5 (mv 0) [0], qr 6 (.call (.c (.func (.func 143) [])) [(.t 5)]) [0] [5] .any, qr 7 (mv 6) [1,1] [6] .quiet, gm 8 (mv 1) 7 true [2] [1], ⟨(some 9), (.call (.c (.func (.func 143) [])) [(.t 8)]), (some (7, true)), [3, 2, 2], [8], .any⟩, ⟨(some 10), (.un .not (.t 9)), (some (7, true)), [4, 2], [9], .quiet⟩, qr 11 (.pick (.t 7) (.t 10) (.c (.raw (.bool false)))) [2,5] [7,10] .quiet, qr 12 (mv 11) [6,4] [11] .quiet, gm 13 (mv 0) 12 false [7] [0], gm 14 (mv 1) 12 false [7] [1], ⟨(some 15), (.bin .lss (.t 13) (.t 14)), (some (12, false)), [8, 9, 7], [13, 14], .quiet⟩, qr 16 (.pick (.t 12) (.c (.raw (.bool true))) (.t 15)) [7,10] [12,15] .quiet, qr 4 (mv 16) [11,7,0,1,2,3,4,5,6,7,8,9,10,11] [16] .quiet]) .ret)), 17, [.tmp 4]⟩
theorem e128 : envP Try.prog 128 = some a128 := by kernel_rfl
def a132 : AFunc := ⟨(.seq (.region [qq 2 (.move ci) []]) (.seq (.seq (.region [qq 3 (mv 0) [0], qr 4 (.bin .geq (.t 3) (.c (.raw (.int .u64 4294967296)))) [0] [3] .quiet]) (.cond (.t 4) (.seq (.region [qq 5 (mv 0) [0], qr 6 (.bin .shr (.t 5) (.c (.raw (.int .u64 32)))) [0] [5] .quiet, qr 0 (mv 6) [1,0,1] [6] .quiet]) (.region [qq 2 (.move (.c (ki 32))) []])) .skip)) (.seq (.seq (.region [qq 7 (mv 0) [0], qr 8 (.bin .geq (.t 7) (.c (.raw (.int .u64 65536)))) [0] [7] .quiet]) (.cond (.t 8) (.seq (.region [qq 9 (mv 0) [0], qr 10 (.bin .shr (.t 9) (.c (.raw (.int .u64 16)))) [0] [9] .quiet, qr 0 (mv 10) [1,0,1] [10] .quiet]) (.region [qq 11 (mv 2) [2], qr 12 (.bin .add (.t 11) (.c (ki 16))) [0] [11] .quiet, qr 2 (mv 12) [1,0,1] [12] .quiet])) .skip)) (.seq (.seq (.region [qq 13 (mv 0) [0], qr 14 (.bin .geq (.t 13) (.c (.raw (.int .u64 256)))) [0] [13] .quiet]) (.cond (.t 14) (.seq (.region [qq 15 (mv 0) [0], qr 16 (.bin .shr (.t 15) (.c (.raw (.int .u64 8)))) [0] [15] .quiet, qr 0 (mv 16) [1,0,1] [16] .quiet]) (.region [qq 17 (mv 2) [2], qr 18 (.bin .add (.t 17) (.c (ki 8))) [0] [17] .quiet, qr 2 (mv 18) [1,0,1] [18] .quiet])) .skip)) (.seq (.region [qq 19 (mv 2) [2], qq 20 (mv 0) [0], qr 21 (.conv .u8 (.t 20)) [1] [20] .quiet, qr 22 (.idxStr (.c (.raw (.string ⟨#[0, 1, 2, 2, 3, 3, 3, 3, 4, 4, 4, 4, 4, 4, 4, 4, 5, 5, 5, 5, 5, 5, 5, 5, 5, 5, 5, 5, 5, 5, 5, 5, 6, 6, 6, 6, 6, 6, 6, 6, 6, 6, 6, 6, 6, 6, 6, 6, 6, 6, 6, 6, 6, 6, 6, 6, 6, 6, 6, 6, 6, 6, 6, 6, 7, 7, 7, 7, 7, 7, 7, 7, 7, 7, 7, 7, 7, 7, 7, 7, 7, 7, 7, 7, 7, 7, 7, 7, 7, 7, 7, 7, 7, 7, 7, 7, 7, 7, 7, 7, 7, 7, 7, 7, 7, 7, 7, 7, 7, 7, 7, 7, 7, 7, 7, 7, 7, 7, 7, 7, 7, 7, 7, 7, 7, 7, 7, 7, 8, 8, 8, 8, 8, 8, 8, 8, 8, 8, 8, 8, 8, 8, 8, 8, 8, 8, 8, 8, 8, 8, 8, 8, 8, 8, 8, 8, 8, 8, 8, 8, 8, 8, 8, 8, 8, 8, 8, 8, 8, 8, 8, 8, 8, 8, 8, 8, 8, 8, 8, 8, 8, 8, 8, 8, 8, 8, 8, 8, 8, 8, 8, 8, 8, 8, 8, 8, 8, 8, 8, 8, 8, 8, 8, 8, 8, 8, 8, 8, 8, 8, 8, 8, 8, 8, 8, 8, 8, 8, 8, 8, 8, 8, 8, 8, 8, 8, 8, 8, 8, 8, 8, 8, 8, 8, 8, 8, 8, 8, 8, 8, 8, 8, 8, 8, 8, 8, 8, 8, 8, 8, 8, 8, 8, 8, 8, 8]⟩))) (.t 21)) [2] [21] .quiet, qr 23 (.conv .i64 (.t 22)) [3] [22] .quiet, qr 24 (.bin .add (.t 19) (.t 23)) [0,4] [19,23] .quiet, qr 2 (mv 24) [5,0,1,2,3,4,5] [24] .quiet]) .ret))))), 25, [.tmp 2]⟩
theorem e132 : envP Try.prog 132 = some a132 := by kernel_rfl
def a143 : AFunc := ⟨(.seq (.region [qq 2 (.move (.c (.raw (.bool false)))) []]) (.seq (.region [qq 3 (mv 0) [0], qq 4 (mv 0) [0], qr 5 (.bin .neq (.t 3) (.t 4)) [0,1] [3,4] .quiet, qr 2 (mv 5) [2,0,1,2] [5] .quiet]) .ret)), 6, [.tmp 2]⟩
theorem e143 : envP Try.prog 143 = some a143 := by kernel_rfl
end Go.Proofs.Ythbjfkkjmecaaaa
namespace Go.Proofs.Ythbjfkkjmecaaaa
open Go Go.Vm
set_option maxRecDepth 20000
def a68 : AFunc := ⟨(.seq (.region [qq 2 (.move (.c ns)) []]) (.seq (.region [qq 3 (.move (.c ns)) []]) (.seq (.seq (.region [qq 6 (mv 0) [0], qr 7 (.nilCheck (.t 6)) [0] [6] .quiet, qr 8 (.ptrAdd 1 (.t 7)) [1] [7] .quiet, qr 9 (.load false 1 (.t 8)) [2] [8] .quiet, qr 10 (.iterNew (.t 9)) [3] [9] .any]) (.block 0 (.loop (.seq (.region [qr 11 (.iterNext (.t 10)) [] [10] .any, qr 12 (.extract 0 (.t 11)) [0] [11] .quiet]) (.seq (.cond (.t 12) .skip (.exit 0)) (.block 1 (.seq (.region [qr 13 (.iterEntry (.t 10)) [] [10] .any, qr 14 (.extract 1 (.t 13)) [0] [13] .quiet, qr 5 (mv 14) [1,0,1] [14] .quiet]) (.region [qq 15 (mv 3) [3], qq 16 (mv 5) [5], qr 17 (.buildSlice 1 1 [zi] [(0, 1, (.t 16))]) [1] [16] .makes, qr 18 (.append 1 8 (.t 15) (.t 17)) [0,2] [15,17] .any, qr 3 (mv 18) [3,3,0,1,2,3] [18] .quiet])))))))) (.seq (.region [qq 19 (mv 3) [3], qr 20 (.call (.c (.func (.func 90) [])) [(.t 19)]) [0] [19] .any]) (.seq (.region [qq 21 (mv 3) [3], qr 2 (mv 21) [0,0] [21] .quiet]) .ret))))), 22, [.tmp 2]⟩
theorem e68 : envP Try.prog 68 = some a68 := by kernel_rfl
end Go.Proofs.Ythbjfkkjmecaaaa
namespace Go.Proofs.Ythbjfkkjmecaaaa
open Go Go.Vm
variable {kn : Known} {env : Nat → Option AFunc}
theorem c143 (h : env 143 = some a143) (hk : ∀ args H, kn 143 args H = none) (n : Nat) (x : Int) (H : AHeap) :
    callM kn env (n + 1) (.func (.func 143) []) [vi x] H = some (abool false, H) := by
  refine Wp.call1 6 [0, 2] h (hk _ _) rfl (by simp [-getElem?_pos]) ?_
  repeat (first | apply Wp.seq | apply Wp.blk | apply Wp.ret | apply Wp.skip | apply Wp.exit | apply Wp.cT rfl | apply Wp.cF rfl | (apply Wp.reg; (repeat (apply Ex.cons; (simp (disch := omega) [-getElem?_pos]; rfl))); exact Ex.nil; rfl; (simp; rfl)))
  simp [-getElem?_pos, a143]
theorem c128 (h : env 128 = some a128) (hk : ∀ args H, kn 128 args H = none) (n : Nat) (x y : Int) (H : AHeap) (h143 : ∀ x H, callM kn env n (.func (.func 143) []) [vi x] H = some (abool false, H)) :
    callM kn env (n + 1) (.func (.func 128) []) [vi x, vi y] H = some (abool (decide (x < y)), H) := by
  refine Wp.call1 17 [0, 1, 4] h (hk _ _) rfl (by simp [-getElem?_pos]) ?_
  repeat (first | apply Wp.seq | apply Wp.blk | apply Wp.ret | apply Wp.skip | apply Wp.exit | apply Wp.cT rfl | apply Wp.cF rfl | (apply Wp.reg; (repeat (apply Ex.cons; (simp (disch := omega) [-getElem?_pos, h143]; rfl))); exact Ex.nil; rfl; (simp; rfl)))
  simp [-getElem?_pos, a128]
theorem getD_set {α : Type} (m : List α) (j : Nat) (x d : α) (p : Nat) (hj : j < m.length) : (m.set j x).getD p d = if p = j then x else m.getD p d := by
  simp only [List.getD_eq_getElem?_getD, List.getElem?_set]
  by_cases h : j = p
  · subst h; simp [-getElem?_pos, hj]
  · rw [if_neg h, if_neg (fun e => h e.symm)]
def Srt (m : List Int) (i : Nat) : Prop := ∀ p q, p < q → q < i → m.getD p 0 ≤ m.getD q 0
def Ins (m : List Int) (i j : Nat) : Prop := ∀ p q, p < q → q ≤ i → q ≠ j → m.getD p 0 ≤ m.getD q 0
theorem Ins.swap {m : List Int} {i j : Nat} (h : Ins m i (j + 1)) (hj : j + 1 ≤ i) (hi : i < m.length) (hlt : m.getD (j + 1) 0 < m.getD j 0) : Ins ((m.set (j + 1) (m.getD j 0)).set j (m.getD (j + 1) 0)) i j := by
  intro p q hpq hq hne
  have e : ∀ p, ((m.set (j + 1) (m.getD j 0)).set j (m.getD (j + 1) 0)).getD p 0 = if p = j then m.getD (j + 1) 0 else if p = j + 1 then m.getD j 0 else m.getD p 0 := fun p => by
    rw [getD_set _ _ _ _ _ (by simp [-getElem?_pos]; omega), getD_set _ _ _ _ _ (by omega)]
  rw [e, e, if_neg hne]
  by_cases hqj : q = j + 1
  · rw [if_pos hqj]
    by_cases hpj : p = j
    · rw [if_pos hpj]; omega
    · rw [if_neg hpj, if_neg (by omega)]; exact h p j (by omega) (by omega) (by omega)
  · rw [if_neg hqj]
    by_cases hpj : p = j
    · rw [if_pos hpj]; exact h (j + 1) q (by omega) hq hqj
    · rw [if_neg hpj]
      by_cases hpj1 : p = j + 1
      · rw [if_pos hpj1]; exact h j q (by omega) hq hqj
      · rw [if_neg hpj1]; exact h p q hpq hq hqj
theorem Ins.done {m : List Int} {i j : Nat} (h : Ins m i j) (hj : j ≤ i) (hlt : j = 0 ∨ ∃ k, j = k + 1 ∧ m.getD k 0 ≤ m.getD j 0) : Srt m (i + 1) := by
  intro p q hpq hq
  by_cases e : q = j
  · subst e
    rcases hlt with h0 | ⟨k, hk, hle⟩
    · omega
    · by_cases hp : p = k
      · rw [hp]; exact hle
      · exact Int.le_trans (h p k (by omega) (by omega) (by omega)) hle
  · exact h p q hpq (by omega) e
theorem c122 (h : env 122 = some a122) (hk : ∀ args H, kn 122 args H = none) (n : Nat) (h128 : ∀ x y H, callM kn env n (.func (.func 128) []) [vi x, vi y] H = some (abool (decide (x < y)), H))
    (l : List Int) (hl : l.length < 1000) (hn : l.length + 2 < n) (H : AHeap) (R ver nv kc : Nat) (ex : Bool) (hR : RowW H R ver nv (l.map vi) H) :
    ∃ v H', callM kn env (n + 1) (.func (.func 122) []) [.slice R ver 0 l.length kc ex 1, vi 0, vi l.length] H = some (v, H') ∧ (v = .tuple [] ∧ ∃ m : List Int, m.Perm l ∧ Srt m m.length ∧ RowW H R ver nv (m.map vi) H') := by
  refine Wp.call 49 [0, 1, 2, 6, 7, 12, 30] h (hk _ _) rfl (by simp [-getElem?_pos]) ?_
  apply Wp.seq
  (apply Wp.reg; (repeat (apply Ex.cons; (simp (disch := omega) [-getElem?_pos]; rfl))); exact Ex.nil; rfl; (simp; rfl))
  apply Wp.blk
  apply Wp.loop (α := Nat × List Int × AHeap) (fun x => [(0, .slice R ver 0 l.length kc ex 1), (1, vi 0), (2, vi l.length), (6, vi (x.1 + 1))]) (·.2.2) (fun x => x.1 ≤ l.length ∧ x.2.1.Perm l ∧ Srt x.2.1 (x.1 + 1) ∧ RowW H R ver nv (x.2.1.map vi) x.2.2)
    (fun x => l.length - x.1) (0, l, H) rfl ⟨by simp [-getElem?_pos], .refl _, fun p q _ _ => by omega, hR⟩ (by simp [-getElem?_pos]; omega) (by simp [-getElem?_pos])
  rintro ⟨i, m, H1⟩ ⟨hi, hp, hs, hr⟩
  dsimp only at hi hp hs hr ⊢
  have hlen := hp.length_eq
  apply Wp.seq; apply Wp.seq
  (apply Wp.reg; (repeat (apply Ex.cons; (simp (disch := omega) [-getElem?_pos]; rfl))); exact Ex.nil; rfl; (simp; rfl))
  apply Wp.ite rfl
  · intro hin
    apply Wp.skip
    apply Wp.seq; apply Wp.blk; apply Wp.seq
    (apply Wp.reg; (repeat (apply Ex.cons; (simp (disch := omega) [-getElem?_pos]; rfl))); exact Ex.nil; rfl; (simp; rfl))
    apply Wp.blk
    apply Wp.loop (α := Nat × List Int × AHeap) (fun x => [(0, .slice R ver 0 l.length kc ex 1), (1, vi 0), (2, vi l.length), (6, vi (i + 1)), (7, vi x.1)]) (·.2.2) (fun x => x.1 ≤ i + 1 ∧ x.2.1.Perm l ∧ Ins x.2.1 (i + 1) x.1 ∧ RowW H R ver nv (x.2.1.map vi) x.2.2)
      (fun x => x.1) (i + 1, m, H1) rfl ⟨by simp [-getElem?_pos], hp, fun p q a b c => hs p q a (by omega), hr⟩ (by simp [-getElem?_pos]; omega) (by simp [-getElem?_pos])
    rintro ⟨j, m, H1⟩ ⟨hj, hp, hs, hr⟩
    dsimp only at hj hp hs hr ⊢
    have hlen := hp.length_eq
    apply Wp.seq; apply Wp.seq
    have hrd := hr.at
    cases j with
    | zero =>
      (apply Wp.draw; (repeat (first | ((first | apply Dr.q rfl rfl | apply Dr.r rfl rfl); (simp (disch := omega) [-getElem?_pos]; rfl); (simp; rfl)) | (apply Dr.imm rfl; (simp (disch := omega) [-getElem?_pos]; rfl); simp [-getElem?_pos]))); exact Dr.nil; rfl; (simp (disch := omega) [-getElem?_pos]); (simp; rfl))
      apply Wp.cF rfl
      apply Wp.exit
      (apply Wp.reg; (repeat (apply Ex.cons; (simp (disch := omega) [-getElem?_pos]; rfl))); exact Ex.nil; rfl; (simp; rfl))
      exact ⟨(i + 1, m, H1), rfl, ⟨by omega, hp, hs.done (by omega) (.inl rfl), hr⟩, by simp [-getElem?_pos]; omega, by simp [-getElem?_pos]⟩
    | succ j =>
      obtain ⟨x, hx⟩ : ∃ x, m[j + 1]? = some x := ⟨_, List.getElem?_eq_getElem (by omega)⟩
      obtain ⟨y, hy⟩ : ∃ y, m[j]? = some y := ⟨_, List.getElem?_eq_getElem (by omega)⟩
      have hxd : m.getD (j + 1) 0 = x := by rw [List.getD_eq_getElem?_getD, hx]; rfl
      have hyd : m.getD j 0 = y := by rw [List.getD_eq_getElem?_getD, hy]; rfl
      (apply Wp.draw; (repeat (first | ((first | apply Dr.q rfl rfl | apply Dr.r rfl rfl); (simp (disch := omega) [-getElem?_pos, h128, hrd, hx, hy]; rfl); (simp; rfl)) | (apply Dr.imm rfl; (simp (disch := omega) [-getElem?_pos, h128, hrd, hx, hy]; rfl); simp [-getElem?_pos]))); exact Dr.nil; rfl; (simp (disch := omega) [-getElem?_pos, h128, hrd, hx, hy]); (simp; rfl))
      apply Wp.ite rfl
      · intro hxy
        apply Wp.skip
        apply Wp.seq
        apply Wp.blk
        obtain ⟨H2, hw1, hr2⟩ := hr.write (off := j + 1) (vals := [vi y]) (by simp [-getElem?_pos]) (by simp [-getElem?_pos]; omega) rfl
        rw [set_spl (by simp [-getElem?_pos]; omega), ← List.map_set] at hr2
        obtain ⟨H3, hw2, hr3⟩ := hr2.write (off := j) (vals := [vi x]) (by simp [-getElem?_pos]) (by simp [-getElem?_pos]; omega) rfl
        rw [set_spl (by simp [-getElem?_pos]; omega), ← List.map_set] at hr3
        (apply Wp.draw; (repeat (first | ((first | apply Dr.q rfl rfl | apply Dr.r rfl rfl); (simp (disch := omega) [-getElem?_pos, hrd, hx, hy, hw1, hw2]; rfl); (simp; rfl)) | (apply Dr.imm rfl; (simp (disch := omega) [-getElem?_pos, hrd, hx, hy, hw1, hw2]; rfl); exact Nat.le_of_eq (by simp [-getElem?_pos, hr.next, hr2.next, hr3.next])))); exact Dr.nil; rfl; (simp (disch := omega) [-getElem?_pos, hrd, hx, hy]); (simp; rfl))
        (apply Wp.reg; (repeat (apply Ex.cons; (simp (disch := omega) [-getElem?_pos]; rfl))); exact Ex.nil; rfl; (simp; rfl))
        refine ⟨(j, (m.set (j + 1) y).set j x, H3), rfl, ⟨by omega, ?_, ?_, hr3⟩, by simp [-getElem?_pos], by simp [-getElem?_pos]⟩
        · have := @List.set_set_perm _ m (j + 1) j (by omega) (by omega)
          rw [(List.getElem?_eq_some_iff.1 hx).2, (List.getElem?_eq_some_iff.1 hy).2] at this
          exact this.trans hp
        · have := hs.swap (by omega) (by omega) (by omega)
          rw [hxd, hyd] at this; exact this
      · intro hxy
        apply Wp.exit
        (apply Wp.reg; (repeat (apply Ex.cons; (simp (disch := omega) [-getElem?_pos]; rfl))); exact Ex.nil; rfl; (simp; rfl))
        exact ⟨(i + 1, m, H1), rfl, ⟨by omega, hp, hs.done (by omega) (.inr ⟨j, rfl, by omega⟩), hr⟩, by simp [-getElem?_pos]; omega, by simp [-getElem?_pos]⟩
  · intro hin
    apply Wp.exit
    simp [-getElem?_pos, a122]
    exact ⟨m, hp, fun p q a b => hs p q a (by omega), hr⟩
set_option maxRecDepth 10000 in
theorem c132 (h : env 132 = some a132) (hk : ∀ args H, kn 132 args H = none) (n : Nat) (x : Nat) (hx : x ≤ 12) (H : AHeap) :
    ∃ v H', callM kn env (n + 1) (.func (.func 132) []) [vu x] H = some (v, H') ∧ (∃ r, v = vi r) ∧ H' = H := by
  have : x = 0 ∨ x = 1 ∨ x = 2 ∨ x = 3 ∨ x = 4 ∨ x = 5 ∨ x = 6 ∨ x = 7 ∨ x = 8 ∨ x = 9 ∨ x = 10 ∨ x = 11 ∨ x = 12 := by omega
  rcases this with rfl | rfl | rfl | rfl | rfl | rfl | rfl | rfl | rfl | rfl | rfl | rfl | rfl
  all_goals
    refine Wp.call 25 [0, 2, 4, 8, 14] h (hk _ _) rfl (by simp [-getElem?_pos]) ?_
    repeat (first | apply Wp.seq | apply Wp.blk | apply Wp.ret | apply Wp.skip | apply Wp.exit | apply Wp.cT rfl | apply Wp.cF rfl | (apply Wp.reg; (repeat (apply Ex.cons; (simp (disch := omega) [-getElem?_pos, wrapF]; rfl))); exact Ex.nil; rfl; (simp; rfl)))
    simp [-getElem?_pos, a132]
theorem c115 (h : env 115 = some a115) (hk : ∀ args H, kn 115 args H = none) (n : Nat) (x : Nat) (hx : x ≤ 12) (H : AHeap) (r : Int) (h132 : callM kn env n (.func (.func 132) []) [vu x] H = some (vi r, H)) :
    callM kn env (n + 1) (.func (.func 115) []) [vu x] H = some (vi r, H) := by
  refine Wp.call1 8 [0, 2] h (hk _ _) rfl (by simp [-getElem?_pos]) ?_
  repeat (first | apply Wp.seq | apply Wp.blk | apply Wp.ret | apply Wp.skip | apply Wp.exit | apply Wp.cT rfl | apply Wp.cF rfl | (apply Wp.reg; (repeat (apply Ex.cons; (simp (disch := omega) [-getElem?_pos, h132]; rfl))); exact Ex.nil; rfl; (simp; rfl)))
  simp [-getElem?_pos, a115]
theorem c114 (h : env 114 = some a114) (hk : ∀ args H, kn 114 args H = none) (n : Nat) (v : AVal) (k : Nat) (hn : 0 < n) (hk12 : k ≤ 12) (H H' : AHeap) (r : Int) (h122 : callM kn env n (.func (.func 122) []) [v, vi 0, vi k] H = some (.tuple [], H')) :
    callM kn env (n + 1) (.func (.func 114) []) [v, vi 0, vi k, vi r] H = some (.tuple [], H') := by
  refine Wp.call1 134 [0, 1, 2, 3, 8, 9, 10, 23] h (hk _ _) rfl (by simp [-getElem?_pos]) ?_
  apply Wp.seq
  (apply Wp.reg; (repeat (apply Ex.cons; (simp (disch := omega) [-getElem?_pos]; rfl))); exact Ex.nil; rfl; (simp; rfl))
  apply Wp.seq
  (apply Wp.reg; (repeat (apply Ex.cons; (simp (disch := omega) [-getElem?_pos]; rfl))); exact Ex.nil; rfl; (simp; rfl))
  apply Wp.blk
  apply Wp.loop (α := Unit) (fun _ => [(0, v), (1, vi 0), (2, vi k), (3, vi r)]) (fun _ => H) (fun _ => True) (fun _ => 0) () rfl trivial hn (by simp [-getElem?_pos])
  intro _ _
  apply Wp.blk; apply Wp.seq
  (apply Wp.reg; (repeat (apply Ex.cons; (simp (disch := omega) [-getElem?_pos]; rfl))); exact Ex.nil; rfl; (simp; rfl))
  apply Wp.seq; apply Wp.seq
  (apply Wp.reg; (repeat (apply Ex.cons; (simp (disch := omega) [-getElem?_pos]; rfl))); exact Ex.nil; rfl; (simp; rfl))
  apply Wp.cT rfl; apply Wp.seq
  (apply Wp.reg; (repeat (apply Ex.cons; (simp (disch := omega) [-getElem?_pos, h122]; rfl))); exact Ex.nil; rfl; (simp; rfl))
  apply Wp.ret
  simp [-getElem?_pos, a114]
structure SortE (kn : Known) (env : Nat → Option AFunc) : Prop where
  e90 : env 90 = some a90
  e114 : env 114 = some a114
  e115 : env 115 = some a115
  e122 : env 122 = some a122
  e128 : env 128 = some a128
  e132 : env 132 = some a132
  e143 : env 143 = some a143
  no : ∀ f, f = 90 ∨ f = 114 ∨ f = 115 ∨ f = 122 ∨ f = 128 ∨ f = 132 ∨ f = 143 → ∀ args H, kn f args H = none
theorem c90 (h : SortE kn env) (n : Nat) (l : List Int) (hl : l.length ≤ 12) (hn : 20 < n) (H : AHeap) (R ver nv kc : Nat) (ex : Bool) (hR : RowW H R ver nv (l.map vi) H) :
    ∃ v H', callM kn env (n + 5) (.func (.func 90) []) [.slice R ver 0 l.length kc ex 1] H = some (v, H') ∧ (v = .tuple [] ∧ ∃ m : List Int, m.Perm l ∧ Srt m m.length ∧ RowW H R ver nv (m.map vi) H') := by
  have h143 := c143 h.e143 (h.no 143 (by simp [-getElem?_pos]))
  have h128 := fun x y H => c128 h.e128 (h.no 128 (by simp [-getElem?_pos])) (n + 1) x y H (h143 n)
  obtain ⟨v, H', hc, rfl, hm⟩ := c122 h.e122 (h.no 122 (by simp [-getElem?_pos])) (n + 2) h128 l (by omega) (by omega) H R ver nv kc ex hR
  obtain ⟨_, _, g1, ⟨r, rfl⟩, g2⟩ := c132 h.e132 (h.no 132 (by simp [-getElem?_pos])) (n + 2) l.length hl H
  rw [g2] at g1
  have h115 := c115 h.e115 (h.no 115 (by simp [-getElem?_pos])) (n + 3) l.length hl H r g1
  have h114 := c114 h.e114 (h.no 114 (by simp [-getElem?_pos])) (n + 3) (.slice R ver 0 l.length kc ex 1) l.length (by omega) hl H H' r hc
  refine Wp.call 11 [0, 2] h.e90 (h.no 90 (by simp [-getElem?_pos]) _ _) rfl (by simp [-getElem?_pos]) ?_
  repeat (first | apply Wp.seq | apply Wp.blk | apply Wp.ret | apply Wp.skip | apply Wp.exit | apply Wp.cT rfl | apply Wp.cF rfl | (apply Wp.reg; (repeat (apply Ex.cons; (simp (disch := omega) [-getElem?_pos, h115, h114]; rfl))); exact Ex.nil; rfl; (simp; rfl)))
  simpa [-getElem?_pos, a90] using hm
theorem c122z (h : env 122 = some a122) (hk : ∀ args H, kn 122 args H = none) (n : Nat) (hn : 0 < n) (v : AVal) (H : AHeap) : callM kn env (n + 1) (.func (.func 122) []) [v, vi 0, vi 0] H = some (.tuple [], H) := by
  refine Wp.call1 49 [0, 1, 2, 6, 7, 12, 30] h (hk _ _) rfl (by simp [-getElem?_pos]) ?_
  apply Wp.seq
  (apply Wp.reg; (repeat (apply Ex.cons; (simp (disch := omega) [-getElem?_pos]; rfl))); exact Ex.nil; rfl; (simp; rfl))
  apply Wp.blk
  apply Wp.loop (α := Unit) (fun _ => [(2, vi 0), (6, vi 1)]) (fun _ => H) (fun _ => True) (fun _ => 0) () rfl trivial hn (by simp [-getElem?_pos])
  intro _ _
  repeat (first | apply Wp.seq | apply Wp.blk | apply Wp.ret | apply Wp.skip | apply Wp.exit | apply Wp.cT rfl | apply Wp.cF rfl | (apply Wp.reg; (repeat (apply Ex.cons; (simp (disch := omega) [-getElem?_pos]; rfl))); exact Ex.nil; rfl; (simp; rfl)))
  simp [-getElem?_pos, a122]
theorem c90z (h : SortE kn env) (n : Nat) (H : AHeap) : callM kn env (n + 5) (.func (.func 90) []) [anil] H = some (.tuple [], H) := by
  have hc := c122z h.e122 (h.no 122 (by simp [-getElem?_pos])) (n + 2) (by omega) anil H
  obtain ⟨_, _, g1, ⟨r, rfl⟩, g2⟩ := c132 h.e132 (h.no 132 (by simp [-getElem?_pos])) (n + 2) 0 (by omega) H
  rw [g2] at g1
  have h115 := c115 h.e115 (h.no 115 (by simp [-getElem?_pos])) (n + 3) 0 (by omega) H r g1
  have h114 := c114 h.e114 (h.no 114 (by simp [-getElem?_pos])) (n + 3) anil 0 (by omega) (by omega) H H r hc
  simp only [Int.natCast_zero] at h115 h114
  refine Wp.call1 11 [0, 2] h.e90 (h.no 90 (by simp [-getElem?_pos]) _ _) rfl (by simp [-getElem?_pos]) ?_
  repeat (first | apply Wp.seq | apply Wp.blk | apply Wp.ret | apply Wp.skip | apply Wp.exit | apply Wp.cT rfl | apply Wp.cF rfl | (apply Wp.reg; (repeat (apply Ex.cons; (simp (disch := omega) [-getElem?_pos, aLenS, h115, h114]; rfl))); exact Ex.nil; rfl; (simp; rfl)))
  simp [-getElem?_pos, a90]
def srtI (l : List Int) : List Int := l.mergeSort (fun a b => decide (a ≤ b))
theorem srtI_perm (l : List Int) : (srtI l).Perm l := List.mergeSort_perm ..
theorem srtI_len (l : List Int) : (srtI l).length = l.length := (srtI_perm l).length_eq
theorem srtI_pair (l : List Int) : (srtI l).Pairwise (· ≤ ·) := by
  have := List.pairwise_mergeSort (le := fun a b : Int => decide (a ≤ b)) (fun a b c h1 h2 => by simp [-getElem?_pos] at *; omega) (fun a b => by simp [-getElem?_pos]; omega) l
  exact this.imp fun h => by simpa [-getElem?_pos] using h
theorem srtI_eq {m l : List Int} (hp : m.Perm l) (hs : Srt m m.length) : m = srtI l := by
  have h1 : m.Pairwise (· ≤ ·) := by
    rw [List.pairwise_iff_getElem]
    intro i j hi hj hij
    have := hs i j hij hj
    simpa [-getElem?_pos, List.getD_eq_getElem?_getD, List.getElem?_eq_getElem hi, List.getElem?_eq_getElem hj] using this
  exact List.Perm.eq_of_pairwise (fun a b _ _ h1 h2 => Int.le_antisymm h1 h2) h1 (srtI_pair l) (hp.trans (srtI_perm l).symm)
end Go.Proofs.Ythbjfkkjmecaaaa
