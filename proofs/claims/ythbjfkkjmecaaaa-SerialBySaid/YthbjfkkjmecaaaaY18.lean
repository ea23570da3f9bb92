/- The abstract machine, part 39: walks whose outcome is told by a relation. -/
import Derived.Test.YthbjfkkjmecaaaaY16
import Derived.Test.YthbjfkkjmecaaaaY17
import Derived.Test.YthbjfkkjmecaaaaProg
set_option linter.unusedVariables false
set_option linter.unusedSimpArgs false
namespace Go.Vm
open Go
variable {P : Program} {or : zzn} {n N : Nat} {C : List Nat} {s s' : KS} {l : KL} {H H1 : zz6} {Q : Exit → KS → Prop} {a b : zym}
def KQ (N : Nat) (Q : Exit → KS → Prop) (e : Exit) (st : ASt) : Prop := ∃ s', st.marks = [] ∧ st.H = s'.2 ∧ Kn N s'.1 st.tm ∧ Q e s'
structure WpR (P : Program) (N : Nat) (C : List Nat) (c : zym) (s : KS) (Q : Exit → KS → Prop) : Prop where
 run : ∀ tm, Kn N s.1 tm → zwt P none c (KQ N Q) ⟨tm, s.2, []⟩
def RSeq (P : Program) (N : Nat) (C : List Nat) (b : zym) (Q : Exit → KS → Prop) : Exit → KS → Prop
 | .normal, s => WpR P N C b s Q
 | e, s => Q e s
theorem WpR.of (hor : zx8 P or) (hm : P.follows .mixedOrders = true) (hgo : zk1 P or) {c : zym} (h : Wp or n N C c s Q) : WpR P N C c s Q := ⟨fun tm hk => by
 obtain ⟨e, tm', s', h1, h2, h3⟩ := h.run tm hk
 exact zwt.run hor hm hgo h1 ⟨s', rfl, rfl, h2, h3⟩⟩
theorem WpR.seq (h : WpR P N C a s (RSeq P N C b Q)) : WpR P N C (.seq a b) s Q := ⟨fun tm hk => zwt.seq ((h.run tm hk).mono fun e st hq => by
 obtain ⟨s', h1, h2, h3, h4⟩ := hq
 obtain ⟨tm', H', m⟩ := st
 cases h1; cases h2
 cases e with
 | normal => exact h4.run tm' h3
 | _ => exact ⟨s', rfl, rfl, h3, h4⟩)⟩
theorem WpR.blk {id : Nat} (h : WpR P N C a s (QBlk id Q)) : WpR P N C (.block id a) s Q := ⟨fun tm hk => zwt.block ((h.run tm hk).mono fun e st hq => by
 obtain ⟨s', h1, h2, h3, h4⟩ := hq
 cases e with
 | exit k =>
  simp only [QBlk] at h4
  simp only [zma]
  split
  ·rename_i e; rw [if_pos e] at h4; exact ⟨s', h1, h2, h3, h4⟩
  ·rename_i e; rw [if_neg e] at h4; exact ⟨s', h1, h2, h3, h4⟩
 | _ => exact ⟨s', h1, h2, h3, h4⟩)⟩
theorem WpR.cond {x : AOpd} {t : Bool} (he : evK s.1 x = some (zzt t)) (h : WpR P N C (if t then a else b) s Q) : WpR P N C (.cond x a b) s Q := ⟨fun tm hk => zwt.cond (by rw [zbp hk he]) (h.run tm hk)⟩
theorem WpR.cT {x : AOpd} (he : evK s.1 x = some (zzt true)) (h : WpR P N C a s Q) : WpR P N C (.cond x a b) s Q := WpR.cond he h
theorem WpR.cF {x : AOpd} (he : evK s.1 x = some (zzt false)) (h : WpR P N C b s Q) : WpR P N C (.cond x a b) s Q := WpR.cond he h
theorem WpR.loop {α : Type} (L : α → KL) (Hp : α → zz6) (I : α → Prop) (μ : α → Nat) (x : α) (hH : Hp x = s.2) (hI : I x) (hl : SubK (L x) s.1)
  (h : ∀ x, I x → WpR P N C a (L x, Hp x) (fun e s' => match e with | .normal => ∃ y, Hp y = s'.2 ∧ I y ∧ μ y < μ x ∧ SubK (L y) s'.1 | e => Q e s')) : WpR P N C (.loop a) s Q := ⟨fun tm hk =>
 zwt.loop (fun m st => ∃ y, μ y = m ∧ I y ∧ st.marks = [] ∧ st.H = Hp y ∧ Kn N (L y) st.tm) (fun m st ⟨y, e1, e2, e3, e4, e5⟩ => by
  obtain ⟨tm', H', mk⟩ := st
  cases e3; cases e4
  refine ((h y e2).run tm' e5).mono fun e st hq => ?_
  obtain ⟨s', h1, h2, h3, h4⟩ := hq
  cases e with
  | normal =>
   obtain ⟨z, g1, g2, g3, g4⟩ := h4
   exact ⟨μ z, by omega, z, rfl, g2, h1, h2.trans g1.symm, g4.kn h3⟩
  | _ => exact ⟨s', h1, h2, h3, h4⟩) (n := μ x) ⟨x, rfl, hI, rfl, hH.symm, hl.kn hk⟩⟩
theorem WpR.ret (h : Q .ret s) : WpR P N C .ret s Q := ⟨fun tm hk => zwt.ret ⟨s, rfl, rfl, hk, h⟩⟩
theorem WpR.next (hor : zx8 P or) {ao : zzu} {aos : List zzu} {ax : AOpd} {A M since last clock : Nat} {seen : List Nat} {es : zzb} (hop : ao.op = .iterNext ax) (hg : ao.guard = none) (hx : evK s.1 ax = some (.ptr A 0 0))
  (hA : s.2.get A = some (.iter (some M) since seen last)) (hM : s.2.get M = some (.map es clock)) (hold : ∀ e ∈ es, e.2.2 < since) (hsl : since ≤ last)
  (h0 : zwn es seen = [] → ∃ s', Ex or N aos (putK N s.1 ao.dst (.tuple [zzt false]), s.2) s' ∧ Q .normal s')
  (h1 : ∀ e ∈ zwn es seen, ∃ s', Ex or N aos (putK N s.1 ao.dst (.tuple [zzt true, e.1, e.2.1]), s.2.set A (.iter (some M) since (seen ++ [e.2.2]) clock)) s' ∧ Q .normal s') : WpR P N C (.region (ao :: aos)) s Q := ⟨fun tm hk => by
 refine zwt.next hor hop (by unfold zy6; rw [hg]) (zbp hk hx) hA hM hold hsl (fun hl => ?_) fun e he => ?_
 ·obtain ⟨s', g1, g2⟩ := h0 hl
  obtain ⟨tm1, a1, a2⟩ := hk.put ao.dst (.tuple [zzt false]) s.2 []
  obtain ⟨tm2, b1, b2⟩ := g1 tm1 [] a2
  exact ⟨⟨tm2, s'.2, []⟩, by rw [a1]; exact b1, s', rfl, rfl, b2, g2⟩
 ·obtain ⟨s', g1, g2⟩ := h1 e he
  obtain ⟨tm1, a1, a2⟩ := hk.put ao.dst (.tuple [zzt true, e.1, e.2.1]) (s.2.set A (.iter (some M) since (seen ++ [e.2.2]) clock)) []
  obtain ⟨tm2, b1, b2⟩ := g1 tm1 [] a2
  exact ⟨⟨tm2, s'.2, []⟩, by rw [a1]; exact b1, s', rfl, rfl, b2, g2⟩⟩
theorem WpR.calls {env : Nat → Option zzq} (henv : zjt P env) {f : Nat} {af : zzq} {args : List AVal} {R : AVal → zz6 → Prop} (N : Nat) (C : List Nat) (h : env f = some af) (hN : af.ntmps = N) (ha : args.length ≤ N)
  (hw : WpR P N C af.code (argK 0 args, H) (EndK af.res R)) : zyp P f args H R := by
 subst hN
 refine zyp.of_code henv h ((hw.run (ztm af args) ⟨zpr ha, fun k v hv => zhs (by have := zr3 args 0 k v hv; simpa using this.2)⟩).mono fun e st hq => ?_)
 obtain ⟨s', h1, h2, h3, h4⟩ := hq
 obtain ⟨tm', H', mk⟩ := st
 cases h1; cases h2
 cases e with
 | normal => obtain ⟨vs, g1, g2⟩ := h4; exact ⟨_, vs, rfl, zbu h3 g1, g2⟩
 | ret => obtain ⟨vs, g1, g2⟩ := h4; exact ⟨_, vs, rfl, zbu h3 g1, g2⟩
 | _ => exact h4
end Go.Vm
namespace Go.Proofs.Ythbjfkkjmecaaaa
open Go Go.Vm
section
set_option maxRecDepth 20000
def a90 : zzq := ⟨(.seq (.region [zz8 3 0, zwu 4 3 [0], zzx 2 4 [1,0,1]]) (.region [zz8 5 0, zz8 6 2, zz8 7 2, qr 8 (.conv .u64 (.t 7)) [2] [7] .quiet, zus 9 115 8 [3], qr 10 (.call (.c (.func (.func 114) [])) [(.t 5), ci, (.t 6), (.t 9)]) [0,1,4,4] [5,6,9] .any])), 11, []⟩
theorem e90 : zxf Try.prog 90 = some a90 := by kernel_rfl
def a114 : zzq := ⟨(.seq (.region [qq 8 (.move zwp) []]) (.seq (.region [qq 9 (.move zwp) []]) (.block 0 (.loop (.block 1 (.seq (.region [zz8 19 2, zz8 20 1, zyu 21 .sub 19 20 [0,1], zzx 10 21 [2,0,1,2]]) (.seq (.seq (.region [zz8 22 10, zx0 23 .leq 22 12 [0]]) (.cond (.t 23) (.seq (.region [zz8 24 0, zz8 25 1, zz8 26 2, znv 27 122 24 25 26 [0,1,2]]) .ret) .skip)) (.seq (.seq (.region [zz8 28 3, qr 29 (.bin .eql (.t 28) ci) [0] [28] .quiet]) (.cond (.t 29) (.seq (.region [zz8 30 0, zz8 31 1, zz8 32 2, znv 33 123 30 31 32 [0,1,2]]) .ret) .skip)) (.seq (.seq (.region [zz8 34 8, qr 35 (.un .not (.t 34)) [0] [34] .quiet]) (.cond (.t 35) (.seq (.region [zz8 36 0, zz8 37 1, zz8 38 2, znv 39 124 36 37 38 [0,1,2]]) (.region [zz8 40 3, zx0 41 .sub 40 1 [0], zzx 3 41 [1,0,1]])) .skip)) (.seq (.region [zz8 43 0, zz8 44 1, zz8 45 2, znv 46 125 43 44 45 [0,1,2], zzx 42 46 [3], zq7 47 0 42 [4], zq7 48 1 42 [4], zzx 11 47 [5,3,0,1,2,3,4,5], zzx 12 48 [6,7,0,1,2,3,4,5,6,7]]) (.seq (.seq (.region [zz8 49 12, zx0 50 .eql 49 2 [0]]) (.cond (.t 50) (.seq (.region [zz8 51 0, zz8 52 1, zz8 53 2, znv 54 126 51 52 53 [0,1,2]]) (.seq (.region [zz8 55 2, zx0 56 .sub 55 1 [0], zz8 57 11, zz8 58 1, zyu 59 .sub 57 58 [2,3], zyu 60 .sub 56 59 [1,4], zzx 11 60 [5,0,1,2,3,4,5]]) (.region [qq 12 (.move (.c (ki 1))) []]))) .skip)) (.seq (.seq (.region [zz8 61 8, zzx 62 61 [0], zya 63 9 62 true [1], zk4 64 62 63 [1,2], zzx 65 64 [3,1], zya 66 12 65 true [4], ⟨(some 67), (.bin .eql (.t 66) (.c (ki 1))), (some (65, true)), [5, 4], [66], .quiet⟩, zk4 68 65 67 [4,6]]) (.cond (.t 68) (.seq (.region [zz8 69 0, zz8 70 1, zz8 71 2, znv 72 127 69 70 71 [0,1,2]]) (.cond (.t 72) .ret .skip)) .skip)) (.seq (.seq (.draw [zz8 73 1, qr 74 (.bin .gtr (.t 73) ci) [0] [73] .quiet, zzx 75 74 [1], zya 76 0 75 true [2], zya 77 1 75 true [2], ⟨(some 78), (.bin .sub (.t 77) (.c (ki 1))), (some (75, true)), [4, 2], [77], .quiet⟩, zbf 79 1 76 78 75 true [3, 5, 2], zxn 80 79 75 true [6, 2], zya 81 0 75 true [2], zya 82 11 75 true [2], zbf 83 1 81 82 75 true [8, 9, 2], zxn 84 83 75 true [10, 2], ⟨(some 85), (.call (.c (.func (.func 128) [])) [(.t 80), (.t 84)]), (some (75, true)), [7, 11, 2, 2], [80, 84], .any⟩, ⟨(some 86), (.un .not (.t 85)), (some (75, true)), [12, 2], [85], .quiet⟩, zk4 87 75 86 [2,13]] [.mob 0, .mob 1, .mob 2, .mob 3, .mob 4, .mob 5, .mob 6, .mob 7, .mob 8, .mob 9, .mob 10, .mob 11, .imm 12 [], .mob 13, .mob 14] [7, 11]) (.cond (.t 87) (.seq (.region [zz8 88 0, zz8 89 1, zz8 90 2, zz8 91 11, qr 92 (.call (.c (.func (.func 129) [])) [(.t 88), (.t 89), (.t 90), (.t 91)]) [0,1,2,3] [88,89,90,91] .any, zzx 13 92 [4,4,0,1,2,3,4]]) (.seq (.region [zz8 93 13, zzx 1 93 [0,0]]) (.exit 1))) .skip)) (.seq (.region [zz8 95 0, zz8 96 1, zz8 97 2, zz8 98 11, qr 99 (.call (.c (.func (.func 130) [])) [(.t 95), (.t 96), (.t 97), (.t 98)]) [0,1,2,3] [95,96,97,98] .any, zzx 94 99 [4], zq7 100 0 94 [5], zq7 101 1 94 [5], zzx 14 100 [6,4,0,1,2,3,4,5,6], zzx 15 101 [7,8,0,1,2,3,4,5,6,7,8]]) (.seq (.region [zz8 102 15, zzx 9 102 [0,0]]) (.seq (.region [zz8 103 14, zz8 104 1, zyu 105 .sub 103 104 [0,1], zz8 106 2, zz8 107 14, zyu 108 .sub 106 107 [3,4], zzx 16 105 [2,0,1,2], zzx 17 108 [5,6,0,1,2,3,4,5,6]]) (.seq (.region [zz8 109 10, zx0 110 .quo 109 8 [0], zzx 18 110 [1,0,1]]) (.seq (.region [zz8 111 16, zz8 112 17, zyu 113 .lss 111 112 [0,1]]) (.cond (.t 113) (.seq (.region [zz8 114 16, zz8 115 18, zyu 116 .geq 114 115 [0,1], zzx 8 116 [2,0,1,2]]) (.seq (.region [zz8 117 0, zz8 118 1, zz8 119 14, zz8 120 3, qr 121 (.call (.c (.func (.func 114) [])) [(.t 117), (.t 118), (.t 119), (.t 120)]) [0,1,2,3] [117,118,119,120] .any]) (.region [zz8 122 14, zx0 123 .add 122 1 [0], zzx 1 123 [1,0,1]]))) (.seq (.region [zz8 124 17, zz8 125 18, zyu 126 .geq 124 125 [0,1], zzx 8 126 [2,0,1,2]]) (.seq (.region [zz8 127 0, zz8 128 14, zx0 129 .add 128 1 [1], zz8 130 2, zz8 131 3, qr 132 (.call (.c (.func (.func 114) [])) [(.t 127), (.t 129), (.t 130), (.t 131)]) [0,2,3,4] [127,129,130,131] .any]) (.region [zz8 133 14, zzx 2 133 [0,0]])))))))))))))))))))))), 134, []⟩
theorem e114 : zxf Try.prog 114 = some a114 := by kernel_rfl
def a115 : zzq := ⟨(.seq (.region [qq 2 (.move ci) []]) (.seq (.cond zzh (.seq (.region [zz8 3 0, qr 4 (.conv .u32 (.t 3)) [0] [3] .quiet, zus 5 131 4 [1], zzx 2 5 [2,2,0,1,2]]) .ret) .skip) (.seq (.region [zz8 6 0, zus 7 132 6 [0], zzx 2 7 [1,1,0,1]]) .ret))), 8, [.tmp 2]⟩
theorem e115 : zxf Try.prog 115 = some a115 := by kernel_rfl
def a122 : zzq := ⟨(.seq (.region [zz8 8 1, zx0 9 .add 8 1 [0], zzx 6 9 [1,0,1]]) (.block 0 (.loop (.seq (.seq (.region [zz8 10 6, zz8 11 2, zyu 12 .lss 10 11 [0,1]]) (.cond (.t 12) .skip (.exit 0))) (.seq (.block 1 (.seq (.region [zz8 15 6, zzx 7 15 [0,0]]) (.block 2 (.loop (.seq (.seq (.draw [zz8 16 7, zz8 17 1, zyu 18 .gtr 16 17 [0,1], zzx 19 18 [2], zya 20 0 19 true [3], zya 21 7 19 true [3], zbf 22 1 20 21 19 true [4, 5, 3], zxn 23 22 19 true [6, 3], zya 24 0 19 true [3], zya 25 7 19 true [3], ⟨(some 26), (.bin .sub (.t 25) (.c (ki 1))), (some (19, true)), [9, 3], [25], .quiet⟩, zbf 27 1 24 26 19 true [8, 10, 3], zxn 28 27 19 true [11, 3], ⟨(some 29), (.call (.c (.func (.func 128) [])) [(.t 23), (.t 28)]), (some (19, true)), [7, 12, 3, 3], [23, 28], .any⟩, zk4 30 19 29 [3,13]] [.mob 0, .mob 1, .mob 2, .mob 3, .mob 4, .mob 5, .mob 6, .mob 7, .mob 8, .mob 9, .mob 10, .mob 11, .mob 12, .imm 13 [], .mob 14] [7, 12]) (.cond (.t 30) .skip (.exit 2))) (.seq (.block 3 (.draw [zz8 33 0, zz8 34 7, zz8 35 0, zz8 36 7, zx0 37 .sub 36 1 [3], zz8 38 0, zz8 39 7, zx0 40 .sub 39 1 [6], zyb 41 1 38 40 [5,7], zzg 42 41 [8], zz8 43 0, zz8 44 7, zyb 45 1 43 44 [10,11], zzg 46 45 [12], zyb 47 1 33 34 [0,1,0,1,5,6,7,8,9,13], zx7 1 47 42 [14, 9, 0, 1, 5, 6, 7, 8, 9, 13], zyb 48 1 35 37 [2,4,0,1,2,3,4,5,6,7,8,9,10,11,12,13,14,15], zx7 1 48 46 [16, 13, 15, 0, 1, 2, 3, 4, 5, 6, 7, 8, 9, 10, 11, 12, 13, 14, 15]] [.mob 0, .mob 1, .mob 5, .mob 6, .mob 7, .mob 8, .mob 9, .mob 10, .mob 11, .mob 12, .mob 13, .mob 14, .imm 15 [], .mob 2, .mob 3, .mob 4, .mob 16, .imm 17 []] [9, 13])) (.region [zz8 31 7, zx0 32 .sub 31 1 [0], zzx 7 32 [1,0,1]]))))))) (.region [zz8 13 6, zx0 14 .add 13 1 [0], zzx 6 14 [1,0,1]])))))), 49, []⟩
theorem e122 : zxf Try.prog 122 = some a122 := by kernel_rfl
def a128 : zzq := ⟨(.seq (.region [qq 4 (.move zzh) []]) (.seq (.region [zz8 5 0, zus 6 143 5 [0], zzx 7 6 [1,1], zya 8 1 7 true [2], ⟨(some 9), (.call (.c (.func (.func 143) [])) [(.t 8)]), (some (7, true)), [3, 2, 2], [8], .any⟩, ⟨(some 10), (.un .not (.t 9)), (some (7, true)), [4, 2], [9], .quiet⟩, zk4 11 7 10 [2,5], zzx 12 11 [6,4], zya 13 0 12 false [7], zya 14 1 12 false [7], ⟨(some 15), (.bin .lss (.t 13) (.t 14)), (some (12, false)), [8, 9, 7], [13, 14], .quiet⟩, zkn 16 12 15 [7,10], zzx 4 16 [11,7,0,1,2,3,4,5,6,7,8,9,10,11]]) .ret)), 17, [.tmp 4]⟩
theorem e128 : zxf Try.prog 128 = some a128 := by kernel_rfl
def a132 : zzq := ⟨(.seq (.region [qq 2 (.move ci) []]) (.seq (.seq (.region [zz8 3 0, qr 4 (.bin .geq (.t 3) (.c (.raw (.int .u64 4294967296)))) [0] [3] .quiet]) (.cond (.t 4) (.seq (.region [zz8 5 0, qr 6 (.bin .shr (.t 5) (.c (.raw (.int .u64 32)))) [0] [5] .quiet, zzx 0 6 [1,0,1]]) (.region [qq 2 (.move (.c (ki 32))) []])) .skip)) (.seq (.seq (.region [zz8 7 0, qr 8 (.bin .geq (.t 7) (.c (.raw (.int .u64 65536)))) [0] [7] .quiet]) (.cond (.t 8) (.seq (.region [zz8 9 0, qr 10 (.bin .shr (.t 9) (.c (.raw (.int .u64 16)))) [0] [9] .quiet, zzx 0 10 [1,0,1]]) (.region [zz8 11 2, zx0 12 .add 11 16 [0], zzx 2 12 [1,0,1]])) .skip)) (.seq (.seq (.region [zz8 13 0, qr 14 (.bin .geq (.t 13) (.c (.raw (.int .u64 256)))) [0] [13] .quiet]) (.cond (.t 14) (.seq (.region [zz8 15 0, qr 16 (.bin .shr (.t 15) (.c (.raw (.int .u64 8)))) [0] [15] .quiet, zzx 0 16 [1,0,1]]) (.region [zz8 17 2, zx0 18 .add 17 8 [0], zzx 2 18 [1,0,1]])) .skip)) (.seq (.region [zz8 19 2, zz8 20 0, qr 21 (.conv .u8 (.t 20)) [1] [20] .quiet, qr 22 (.idxStr (.c (.raw (.string ⟨#[0, 1, 2, 2, 3, 3, 3, 3, 4, 4, 4, 4, 4, 4, 4, 4, 5, 5, 5, 5, 5, 5, 5, 5, 5, 5, 5, 5, 5, 5, 5, 5, 6, 6, 6, 6, 6, 6, 6, 6, 6, 6, 6, 6, 6, 6, 6, 6, 6, 6, 6, 6, 6, 6, 6, 6, 6, 6, 6, 6, 6, 6, 6, 6, 7, 7, 7, 7, 7, 7, 7, 7, 7, 7, 7, 7, 7, 7, 7, 7, 7, 7, 7, 7, 7, 7, 7, 7, 7, 7, 7, 7, 7, 7, 7, 7, 7, 7, 7, 7, 7, 7, 7, 7, 7, 7, 7, 7, 7, 7, 7, 7, 7, 7, 7, 7, 7, 7, 7, 7, 7, 7, 7, 7, 7, 7, 7, 7, 8, 8, 8, 8, 8, 8, 8, 8, 8, 8, 8, 8, 8, 8, 8, 8, 8, 8, 8, 8, 8, 8, 8, 8, 8, 8, 8, 8, 8, 8, 8, 8, 8, 8, 8, 8, 8, 8, 8, 8, 8, 8, 8, 8, 8, 8, 8, 8, 8, 8, 8, 8, 8, 8, 8, 8, 8, 8, 8, 8, 8, 8, 8, 8, 8, 8, 8, 8, 8, 8, 8, 8, 8, 8, 8, 8, 8, 8, 8, 8, 8, 8, 8, 8, 8, 8, 8, 8, 8, 8, 8, 8, 8, 8, 8, 8, 8, 8, 8, 8, 8, 8, 8, 8, 8, 8, 8, 8, 8, 8, 8, 8, 8, 8, 8, 8, 8, 8, 8, 8, 8, 8, 8, 8, 8, 8, 8, 8]⟩))) (.t 21)) [2] [21] .quiet, qr 23 (.conv .i64 (.t 22)) [3] [22] .quiet, zyu 24 .add 19 23 [0,4], zzx 2 24 [5,0,1,2,3,4,5]]) .ret))))), 25, [.tmp 2]⟩
theorem e132 : zxf Try.prog 132 = some a132 := by kernel_rfl
def a143 : zzq := ⟨(.seq (.region [qq 2 (.move zzh) []]) (.seq (.region [zz8 3 0, zz8 4 0, zyu 5 .neq 3 4 [0,1], zzx 2 5 [2,0,1,2]]) .ret)), 6, [.tmp 2]⟩
theorem e143 : zxf Try.prog 143 = some a143 := by kernel_rfl
end
section
set_option maxRecDepth 20000
def a68 : zzq := ⟨(.seq (.region [qq 2 (.move (.c ns)) []]) (.seq (.region [qq 3 (.move (.c ns)) []]) (.seq (.seq (.region [zz8 6 0, zxm 7 6 [0], zyk 8 1 7 [1], zzg 9 8 [2], qr 10 (.iterNew (.t 9)) [3] [9] .any]) (.block 0 (.loop (.seq (.region [qr 11 (.iterNext (.t 10)) [] [10] .any, zq7 12 0 11 [0]]) (.seq (.cond (.t 12) .skip (.exit 0)) (.block 1 (.seq (.region [qr 13 (.iterEntry (.t 10)) [] [10] .any, zq7 14 1 13 [0], zzx 5 14 [1,0,1]]) (.region [zz8 15 3, zz8 16 5, qr 17 (.buildSlice 1 1 [zi] [(0, 1, (.t 16))]) [1] [16] .makes, zjm 18 1 8 15 17 [0,2], zzx 3 18 [3,3,0,1,2,3]])))))))) (.seq (.region [zz8 19 3, zus 20 90 19 [0]]) (.seq (.region [zz8 21 3, zzx 2 21 [0,0]]) .ret))))), 22, [.tmp 2]⟩
theorem e68 : zxf Try.prog 68 = some a68 := by kernel_rfl
end
section
variable {kn : zy0} {env : Nat → Option zzq}
theorem c143 (h : env 143 = some a143) (hk : ∀ args H, kn 143 args H = none) (n : Nat) (x : Int) (H : zz6) :
  zzp kn env (n + 1) (.func (.func 143) []) [vi x] H = some (zzt false, H) := by
 refine Wp.call1 6 [0, 2] h (hk _ _) rfl (by simp) ?_
 repeat (first | apply Wp.za | apply Wp.zb | apply Wp.zc | apply Wp.zd | apply Wp.ze | apply Wp.zf rfl | apply Wp.zg rfl | (apply Wp.zh; (repeat (apply Ex.zc; (simp (disch := omega) [-getElem?_pos]; rfl))); exact Ex.zn; rfl; (simp; rfl)))
 simp [-getElem?_pos, a143]
theorem c128 (h : env 128 = some a128) (hk : ∀ args H, kn 128 args H = none) (n : Nat) (x y : Int) (H : zz6) (h143 : ∀ x H, zzp kn env n (.func (.func 143) []) [vi x] H = some (zzt false, H)) :
  zzp kn env (n + 1) (.func (.func 128) []) [vi x, vi y] H = some (zzt (decide (x < y)), H) := by
 refine Wp.call1 17 [0, 1, 4] h (hk _ _) rfl (by simp) ?_
 repeat (first | apply Wp.za | apply Wp.zb | apply Wp.zc | apply Wp.zd | apply Wp.ze | apply Wp.zf rfl | apply Wp.zg rfl | (apply Wp.zh; (repeat (apply Ex.zc; (simp (disch := omega) [-getElem?_pos, h143]; rfl))); exact Ex.zn; rfl; (simp; rfl)))
 simp [-getElem?_pos, a128]
theorem ze2 {α : Type} (m : List α) (j : Nat) (x d : α) (p : Nat) (hj : j < m.length) : (m.set j x).getD p d = if p = j then x else m.getD p d := by
 simp only [List.getD_eq_getElem?_getD, List.getElem?_set]
 by_cases h : j = p
 ·subst h; simp [-getElem?_pos, hj]
 ·rw [if_neg h, if_neg (fun e => h e.symm)]
def Srt (m : List Int) (i : Nat) : Prop := ∀ p q, p < q → q < i → m.getD p 0 ≤ m.getD q 0
def Ins (m : List Int) (i j : Nat) : Prop := ∀ p q, p < q → q ≤ i → q ≠ j → m.getD p 0 ≤ m.getD q 0
theorem Ins.swap {m : List Int} {i j : Nat} (h : Ins m i (j + 1)) (hj : j + 1 ≤ i) (hi : i < m.length) (hlt : m.getD (j + 1) 0 < m.getD j 0) : Ins ((m.set (j + 1) (m.getD j 0)).set j (m.getD (j + 1) 0)) i j := by
 intro p q hpq hq hne
 have e : ∀ p, ((m.set (j + 1) (m.getD j 0)).set j (m.getD (j + 1) 0)).getD p 0 = if p = j then m.getD (j + 1) 0 else if p = j + 1 then m.getD j 0 else m.getD p 0 := fun p => by
  rw [ze2 _ _ _ _ _ (by simp; omega), ze2 _ _ _ _ _ (by omega)]
 rw [e, e, if_neg hne]
 by_cases hqj : q = j + 1
 ·rw [if_pos hqj]
  by_cases hpj : p = j
  ·rw [if_pos hpj]; omega
  ·rw [if_neg hpj, if_neg (by omega)]; exact h p j (by omega) (by omega) (by omega)
 ·rw [if_neg hqj]
  by_cases hpj : p = j
  ·rw [if_pos hpj]; exact h (j + 1) q (by omega) hq hqj
  ·rw [if_neg hpj]
   by_cases hpj1 : p = j + 1
   ·rw [if_pos hpj1]; exact h j q (by omega) hq hqj
   ·rw [if_neg hpj1]; exact h p q hpq hq hqj
theorem Ins.done {m : List Int} {i j : Nat} (h : Ins m i j) (hj : j ≤ i) (hlt : j = 0 ∨ ∃ k, j = k + 1 ∧ m.getD k 0 ≤ m.getD j 0) : Srt m (i + 1) := by
 intro p q hpq hq
 by_cases e : q = j
 ·subst e
  rcases hlt with h0 | ⟨k, hk, hle⟩
  ·omega
  ·by_cases hp : p = k
   ·rw [hp]; exact hle
   ·exact Int.le_trans (h p k (by omega) (by omega) (by omega)) hle
 ·exact h p q hpq (by omega) e
theorem c122 (h : env 122 = some a122) (hk : ∀ args H, kn 122 args H = none) (n : Nat) (h128 : ∀ x y H, zzp kn env n (.func (.func 128) []) [vi x, vi y] H = some (zzt (decide (x < y)), H))
  (l : List Int) (hl : l.length < 1000) (hn : l.length + 2 < n) (H : zz6) (R ver nv kc : Nat) (ex : Bool) (hR : RowW H R ver nv (l.map vi) H) :
  ∃ v H', zzp kn env (n + 1) (.func (.func 122) []) [.slice R ver 0 l.length kc ex 1, vi 0, vi l.length] H = some (v, H') ∧ (v = .tuple [] ∧ ∃ m : List Int, m.Perm l ∧ Srt m m.length ∧ RowW H R ver nv (m.map vi) H') := by
 refine Wp.call 49 [0, 1, 2, 6, 7, 12, 30] h (hk _ _) rfl (by simp) ?_
 apply Wp.za
 (apply Wp.zh; (repeat (apply Ex.zc; (simp (disch := omega) [-getElem?_pos]; rfl))); exact Ex.zn; rfl; (simp; rfl))
 apply Wp.zb
 apply Wp.loop (α := Nat × List Int × zz6) (fun x => [(0, .slice R ver 0 l.length kc ex 1), (1, vi 0), (2, vi l.length), (6, vi (x.1 + 1))]) (·.2.2) (fun x => x.1 ≤ l.length ∧ x.2.1.Perm l ∧ Srt x.2.1 (x.1 + 1) ∧ RowW H R ver nv (x.2.1.map vi) x.2.2)
  (fun x => l.length - x.1) (0, l, H) rfl ⟨by simp [-getElem?_pos], .refl _, fun p q _ _ => by omega, hR⟩ (by simp; omega) (by simp)
 rintro ⟨i, m, H1⟩ ⟨hi, hp, hs, hr⟩
 dsimp only at hi hp hs hr ⊢
 have hlen := hp.length_eq
 apply Wp.za; apply Wp.za
 (apply Wp.zh; (repeat (apply Ex.zc; (simp (disch := omega) [-getElem?_pos]; rfl))); exact Ex.zn; rfl; (simp; rfl))
 apply Wp.ite rfl
 ·intro hin
  apply Wp.zd
  apply Wp.za; apply Wp.zb; apply Wp.za
  (apply Wp.zh; (repeat (apply Ex.zc; (simp (disch := omega) [-getElem?_pos]; rfl))); exact Ex.zn; rfl; (simp; rfl))
  apply Wp.zb
  apply Wp.loop (α := Nat × List Int × zz6) (fun x => [(0, .slice R ver 0 l.length kc ex 1), (1, vi 0), (2, vi l.length), (6, vi (i + 1)), (7, vi x.1)]) (·.2.2) (fun x => x.1 ≤ i + 1 ∧ x.2.1.Perm l ∧ Ins x.2.1 (i + 1) x.1 ∧ RowW H R ver nv (x.2.1.map vi) x.2.2)
   (fun x => x.1) (i + 1, m, H1) rfl ⟨by simp [-getElem?_pos], hp, fun p q a b c => hs p q a (by omega), hr⟩ (by simp; omega) (by simp)
  rintro ⟨j, m, H1⟩ ⟨hj, hp, hs, hr⟩
  dsimp only at hj hp hs hr ⊢
  have hlen := hp.length_eq
  apply Wp.za; apply Wp.za
  have hrd := hr.at
  cases j with
  | zero =>
   (apply Wp.zi; (repeat (first | ((first | apply Dr.q rfl rfl | apply Dr.r rfl rfl); (simp (disch := omega) [-getElem?_pos]; rfl); (simp; rfl)) | (apply Dr.imm rfl; (simp (disch := omega) [-getElem?_pos]; rfl); simp [-getElem?_pos]))); exact Dr.nil; rfl; (simp (disch := omega) [-getElem?_pos]); (simp; rfl))
   apply Wp.zg rfl
   apply Wp.ze
   (apply Wp.zh; (repeat (apply Ex.zc; (simp (disch := omega) [-getElem?_pos]; rfl))); exact Ex.zn; rfl; (simp; rfl))
   exact ⟨(i + 1, m, H1), rfl, ⟨by omega, hp, hs.done (by omega) (.inl rfl), hr⟩, by simp; omega, by simp [-getElem?_pos]⟩
  | succ j =>
   obtain ⟨x, hx⟩ : ∃ x, m[j + 1]? = some x := ⟨_, List.getElem?_eq_getElem (by omega)⟩
   obtain ⟨y, hy⟩ : ∃ y, m[j]? = some y := ⟨_, List.getElem?_eq_getElem (by omega)⟩
   have hxd : m.getD (j + 1) 0 = x := by rw [List.getD_eq_getElem?_getD, hx]; rfl
   have hyd : m.getD j 0 = y := by rw [List.getD_eq_getElem?_getD, hy]; rfl
   (apply Wp.zi; (repeat (first | ((first | apply Dr.q rfl rfl | apply Dr.r rfl rfl); (simp (disch := omega) [-getElem?_pos, h128, hrd, hx, hy]; rfl); (simp; rfl)) | (apply Dr.imm rfl; (simp (disch := omega) [-getElem?_pos, h128, hrd, hx, hy]; rfl); simp [-getElem?_pos]))); exact Dr.nil; rfl; (simp (disch := omega) [-getElem?_pos, h128, hrd, hx, hy]); (simp; rfl))
   apply Wp.ite rfl
   ·intro hxy
    apply Wp.zd
    apply Wp.za
    apply Wp.zb
    obtain ⟨H2, hw1, hr2⟩ := hr.write (off := j + 1) (vals := [vi y]) (by simp) (by simp; omega) rfl
    rw [zn9 (by simp; omega), ← List.map_set] at hr2
    obtain ⟨H3, hw2, hr3⟩ := hr2.write (off := j) (vals := [vi x]) (by simp) (by simp; omega) rfl
    rw [zn9 (by simp; omega), ← List.map_set] at hr3
    (apply Wp.zi; (repeat (first | ((first | apply Dr.q rfl rfl | apply Dr.r rfl rfl); (simp (disch := omega) [-getElem?_pos, hrd, hx, hy, hw1, hw2]; rfl); (simp; rfl)) | (apply Dr.imm rfl; (simp (disch := omega) [-getElem?_pos, hrd, hx, hy, hw1, hw2]; rfl); exact Nat.le_of_eq (by simp [-getElem?_pos, hr.next, hr2.next, hr3.next])))); exact Dr.nil; rfl; (simp (disch := omega) [-getElem?_pos, hrd, hx, hy]); (simp; rfl))
    (apply Wp.zh; (repeat (apply Ex.zc; (simp (disch := omega) [-getElem?_pos]; rfl))); exact Ex.zn; rfl; (simp; rfl))
    refine ⟨(j, (m.set (j + 1) y).set j x, H3), rfl, ⟨by omega, ?_, ?_, hr3⟩, by simp [-getElem?_pos], by simp [-getElem?_pos]⟩
    ·have := @List.set_set_perm _ m (j + 1) j (by omega) (by omega)
     rw [(List.getElem?_eq_some_iff.1 hx).2, (List.getElem?_eq_some_iff.1 hy).2] at this
     exact this.trans hp
    ·have := hs.swap (by omega) (by omega) (by omega)
     rw [hxd, hyd] at this; exact this
   ·intro hxy
    apply Wp.ze
    (apply Wp.zh; (repeat (apply Ex.zc; (simp (disch := omega) [-getElem?_pos]; rfl))); exact Ex.zn; rfl; (simp; rfl))
    exact ⟨(i + 1, m, H1), rfl, ⟨by omega, hp, hs.done (by omega) (.inr ⟨j, rfl, by omega⟩), hr⟩, by simp; omega, by simp [-getElem?_pos]⟩
 ·intro hin
  apply Wp.ze
  simp [-getElem?_pos, a122]
  exact ⟨m, hp, fun p q a b => hs p q a (by omega), hr⟩
set_option maxRecDepth 10000 in
theorem c132 (h : env 132 = some a132) (hk : ∀ args H, kn 132 args H = none) (n : Nat) (x : Nat) (hx : x ≤ 12) (H : zz6) :
  ∃ v H', zzp kn env (n + 1) (.func (.func 132) []) [vu x] H = some (v, H') ∧ (∃ r, v = vi r) ∧ H' = H := by
 have : x = 0 ∨ x = 1 ∨ x = 2 ∨ x = 3 ∨ x = 4 ∨ x = 5 ∨ x = 6 ∨ x = 7 ∨ x = 8 ∨ x = 9 ∨ x = 10 ∨ x = 11 ∨ x = 12 := by omega
 rcases this with rfl | rfl | rfl | rfl | rfl | rfl | rfl | rfl | rfl | rfl | rfl | rfl | rfl
 all_goals
  refine Wp.call 25 [0, 2, 4, 8, 14] h (hk _ _) rfl (by simp) ?_
  repeat (first | apply Wp.za | apply Wp.zb | apply Wp.zc | apply Wp.zd | apply Wp.ze | apply Wp.zf rfl | apply Wp.zg rfl | (apply Wp.zh; (repeat (apply Ex.zc; (simp (disch := omega) [-getElem?_pos, zq3]; rfl))); exact Ex.zn; rfl; (simp; rfl)))
  simp [-getElem?_pos, a132]
theorem c115 (h : env 115 = some a115) (hk : ∀ args H, kn 115 args H = none) (n : Nat) (x : Nat) (hx : x ≤ 12) (H : zz6) (r : Int) (h132 : zzp kn env n (.func (.func 132) []) [vu x] H = some (vi r, H)) :
  zzp kn env (n + 1) (.func (.func 115) []) [vu x] H = some (vi r, H) := by
 refine Wp.call1 8 [0, 2] h (hk _ _) rfl (by simp) ?_
 repeat (first | apply Wp.za | apply Wp.zb | apply Wp.zc | apply Wp.zd | apply Wp.ze | apply Wp.zf rfl | apply Wp.zg rfl | (apply Wp.zh; (repeat (apply Ex.zc; (simp (disch := omega) [-getElem?_pos, h132]; rfl))); exact Ex.zn; rfl; (simp; rfl)))
 simp [-getElem?_pos, a115]
theorem c114 (h : env 114 = some a114) (hk : ∀ args H, kn 114 args H = none) (n : Nat) (v : AVal) (k : Nat) (hn : 0 < n) (hk12 : k ≤ 12) (H H' : zz6) (r : Int) (h122 : zzp kn env n (.func (.func 122) []) [v, vi 0, vi k] H = some (.tuple [], H')) :
  zzp kn env (n + 1) (.func (.func 114) []) [v, vi 0, vi k, vi r] H = some (.tuple [], H') := by
 refine Wp.call1 134 [0, 1, 2, 3, 8, 9, 10, 23] h (hk _ _) rfl (by simp) ?_
 apply Wp.za
 (apply Wp.zh; (repeat (apply Ex.zc; (simp (disch := omega) [-getElem?_pos]; rfl))); exact Ex.zn; rfl; (simp; rfl))
 apply Wp.za
 (apply Wp.zh; (repeat (apply Ex.zc; (simp (disch := omega) [-getElem?_pos]; rfl))); exact Ex.zn; rfl; (simp; rfl))
 apply Wp.zb
 apply Wp.loop (α := Unit) (fun _ => [(0, v), (1, vi 0), (2, vi k), (3, vi r)]) (fun _ => H) (fun _ => True) (fun _ => 0) () rfl trivial hn (by simp)
 intro _ _
 apply Wp.zb; apply Wp.za
 (apply Wp.zh; (repeat (apply Ex.zc; (simp (disch := omega) [-getElem?_pos]; rfl))); exact Ex.zn; rfl; (simp; rfl))
 apply Wp.za; apply Wp.za
 (apply Wp.zh; (repeat (apply Ex.zc; (simp (disch := omega) [-getElem?_pos]; rfl))); exact Ex.zn; rfl; (simp; rfl))
 apply Wp.zf rfl; apply Wp.za
 (apply Wp.zh; (repeat (apply Ex.zc; (simp (disch := omega) [-getElem?_pos, h122]; rfl))); exact Ex.zn; rfl; (simp; rfl))
 apply Wp.zc
 simp [-getElem?_pos, a114]
structure zcy (kn : zy0) (env : Nat → Option zzq) : Prop where
 e90 : env 90 = some a90
 e114 : env 114 = some a114
 e115 : env 115 = some a115
 e122 : env 122 = some a122
 e128 : env 128 = some a128
 e132 : env 132 = some a132
 e143 : env 143 = some a143
 no : ∀ f, f = 90 ∨ f = 114 ∨ f = 115 ∨ f = 122 ∨ f = 128 ∨ f = 132 ∨ f = 143 → ∀ args H, kn f args H = none
theorem c90 (h : zcy kn env) (n : Nat) (l : List Int) (hl : l.length ≤ 12) (hn : 20 < n) (H : zz6) (R ver nv kc : Nat) (ex : Bool) (hR : RowW H R ver nv (l.map vi) H) :
  ∃ v H', zzp kn env (n + 5) (.func (.func 90) []) [.slice R ver 0 l.length kc ex 1] H = some (v, H') ∧ (v = .tuple [] ∧ ∃ m : List Int, m.Perm l ∧ Srt m m.length ∧ RowW H R ver nv (m.map vi) H') := by
 have h143 := c143 h.e143 (h.no 143 (by simp))
 have h128 := fun x y H => c128 h.e128 (h.no 128 (by simp)) (n + 1) x y H (h143 n)
 obtain ⟨v, H', hc, rfl, hm⟩ := c122 h.e122 (h.no 122 (by simp)) (n + 2) h128 l (by omega) (by omega) H R ver nv kc ex hR
 obtain ⟨_, _, g1, ⟨r, rfl⟩, g2⟩ := c132 h.e132 (h.no 132 (by simp)) (n + 2) l.length hl H
 rw [g2] at g1
 have h115 := c115 h.e115 (h.no 115 (by simp)) (n + 3) l.length hl H r g1
 have h114 := c114 h.e114 (h.no 114 (by simp)) (n + 3) (.slice R ver 0 l.length kc ex 1) l.length (by omega) hl H H' r hc
 refine Wp.call 11 [0, 2] h.e90 (h.no 90 (by simp) _ _) rfl (by simp) ?_
 repeat (first | apply Wp.za | apply Wp.zb | apply Wp.zc | apply Wp.zd | apply Wp.ze | apply Wp.zf rfl | apply Wp.zg rfl | (apply Wp.zh; (repeat (apply Ex.zc; (simp (disch := omega) [-getElem?_pos, h115, h114]; rfl))); exact Ex.zn; rfl; (simp; rfl)))
 simpa [-getElem?_pos, a90] using hm
theorem yuz (h : env 122 = some a122) (hk : ∀ args H, kn 122 args H = none) (n : Nat) (hn : 0 < n) (v : AVal) (H : zz6) : zzp kn env (n + 1) (.func (.func 122) []) [v, vi 0, vi 0] H = some (.tuple [], H) := by
 refine Wp.call1 49 [0, 1, 2, 6, 7, 12, 30] h (hk _ _) rfl (by simp) ?_
 apply Wp.za
 (apply Wp.zh; (repeat (apply Ex.zc; (simp (disch := omega) [-getElem?_pos]; rfl))); exact Ex.zn; rfl; (simp; rfl))
 apply Wp.zb
 apply Wp.loop (α := Unit) (fun _ => [(2, vi 0), (6, vi 1)]) (fun _ => H) (fun _ => True) (fun _ => 0) () rfl trivial hn (by simp)
 intro _ _
 repeat (first | apply Wp.za | apply Wp.zb | apply Wp.zc | apply Wp.zd | apply Wp.ze | apply Wp.zf rfl | apply Wp.zg rfl | (apply Wp.zh; (repeat (apply Ex.zc; (simp (disch := omega) [-getElem?_pos]; rfl))); exact Ex.zn; rfl; (simp; rfl)))
 simp [-getElem?_pos, a122]
theorem c90z (h : zcy kn env) (n : Nat) (H : zz6) : zzp kn env (n + 5) (.func (.func 90) []) [zxa] H = some (.tuple [], H) := by
 have hc := yuz h.e122 (h.no 122 (by simp)) (n + 2) (by omega) zxa H
 obtain ⟨_, _, g1, ⟨r, rfl⟩, g2⟩ := c132 h.e132 (h.no 132 (by simp)) (n + 2) 0 (by omega) H
 rw [g2] at g1
 have h115 := c115 h.e115 (h.no 115 (by simp)) (n + 3) 0 (by omega) H r g1
 have h114 := c114 h.e114 (h.no 114 (by simp)) (n + 3) zxa 0 (by omega) (by omega) H H r hc
 simp only [Int.natCast_zero] at h115 h114
 refine Wp.call1 11 [0, 2] h.e90 (h.no 90 (by simp) _ _) rfl (by simp) ?_
 repeat (first | apply Wp.za | apply Wp.zb | apply Wp.zc | apply Wp.zd | apply Wp.ze | apply Wp.zf rfl | apply Wp.zg rfl | (apply Wp.zh; (repeat (apply Ex.zc; (simp (disch := omega) [-getElem?_pos, zyy, h115, h114]; rfl))); exact Ex.zn; rfl; (simp; rfl)))
 simp [-getElem?_pos, a90]
def zer (l : List Int) : List Int := l.mergeSort (fun a b => decide (a ≤ b))
theorem zhn (l : List Int) : (zer l).Perm l := List.mergeSort_perm ..
theorem zvz (l : List Int) : (zer l).length = l.length := (zhn l).length_eq
theorem yyy (l : List Int) : (zer l).Pairwise (· ≤ ·) := by
 have := List.pairwise_mergeSort (le := fun a b : Int => decide (a ≤ b)) (fun a b c h1 h2 => by simp [-getElem?_pos] at *; omega) (fun a b => by simp; omega) l
 exact this.imp fun h => by simpa [-getElem?_pos] using h
theorem yzc {m l : List Int} (hp : m.Perm l) (hs : Srt m m.length) : m = zer l := by
 have h1 : m.Pairwise (· ≤ ·) := by
  rw [List.pairwise_iff_getElem]
  intro i j hi hj hij
  have := hs i j hij hj
  simpa [-getElem?_pos, List.getD_eq_getElem?_getD, List.getElem?_eq_getElem hi, List.getElem?_eq_getElem hj] using this
 exact List.Perm.eq_of_pairwise (fun a b _ _ h1 h2 => Int.le_antisymm h1 h2) h1 (yyy l) (hp.trans (zhn l).symm)
end
end Go.Proofs.Ythbjfkkjmecaaaa
