/- The compact code of functions that are walked (printed by a program of ours). -/
import Derived.Test.YthbjfkkjmecaaaaT32
import Derived.Test.YthbjfkkjmecaaaaT26
import Derived.Test.YthbjfkkjmecaaaaT21
import Derived.Test.YthbjfkkjmecaaaaT24
import Derived.Test.YthbjfkkjmecaaaaT35
import Derived.Test.YthbjfkkjmecaaaaT19
import Derived.Test.YthbjfkkjmecaaaaProg
import Derived.Test.YthbjfkkjmecaaaaT43
import Derived.Test.YthbjfkkjmecaaaaT41
import Derived.Test.YthbjfkkjmecaaaaT17
import Derived.Test.YthbjfkkjmecaaaaRows
set_option linter.unusedVariables false
set_option linter.unusedSimpArgs false
namespace Go.Proofs.Ythbjfkkjmecaaaa
open Go Go.Vm
set_option maxRecDepth 20000
def a12 : AFunc := ⟨(.seq (.region [qq 0 (.move (.c (.raw (.bool false)))) []]) (.seq (.region [qq 11 (.build [zb, zb, zb, zb, zb, zb, zb, zb, zb, zb, zb, zb, zb, zb, zb, zb, zb, zb, zb, zb, zb, zb, zb, zb, zb, zb, zb, zb, zb, zb, zb, zb] [(0, 1, (.c (.raw (.int .u8 1))))]) [], qq 12 (.build [zb, zb, zb, zb, zb, zb, zb, zb, zb, zb, zb, zb, zb, zb, zb, zb, zb, zb, zb, zb, zb, zb, zb, zb, zb, zb, zb, zb, zb, zb, zb, zb] [(0, 1, (.c (.raw (.int .u8 2))))]) [], qr 1 (.alloc [zb, zb, zb, zb, zb, zb, zb, zb, zb, zb, zb, zb, zb, zb, zb, zb, zb, zb, zb, zb, zb, zb, zb, zb, zb, zb, zb, zb, zb, zb, zb, zb]) [] [] .makes, qr 2 (.alloc [zb, zb, zb, zb, zb, zb, zb, zb, zb, zb, zb, zb, zb, zb, zb, zb, zb, zb, zb, zb, zb, zb, zb, zb, zb, zb, zb, zb, zb, zb, zb, zb]) [] [] .makes, ⟨none, (.store 32 (.t 1) (.t 11)), none, [2, 0, 0, 2, 3], [1, 11], .any⟩, ⟨none, (.store 32 (.t 2) (.t 12)), none, [3, 1, 4, 0, 1, 2, 3, 4], [2, 12], .any⟩]) (.seq (.region [qq 14 (.load true 32 (.t 1)) [1], qr 15 (.call (.c (.func (.func 24) [])) [(.t 14)]) [0] [14] .any, qr 16 (.call (.c (.func (.func 18) [])) [(.t 15), (.c (ki 2))]) [1,1] [15] .any, qr 13 (mv 16) [2] [16] .quiet, qr 17 (.extract 0 (.t 13)) [3] [13] .quiet, qr 18 (.extract 1 (.t 13)) [3] [13] .quiet, qr 3 (.alloc [(.raw (.bool false)), zi, zi, zb, zb, zb, zb, zb, zb, zb, zb, zb, zb, zb, zb, zb, zb, zb, zb, zb, zb, zb, zb, zb, zb, zb, zb, zb, zb, zb, zb, zb, zb, zb, zb]) [] [] .makes, ⟨none, (.store 35 (.t 3) (.t 17)), none, [6, 4, 2, 0, 1, 2, 3, 4, 6], [3, 17], .any⟩, qr 4 (mv 18) [5,7,0,1,2,3,4,5,6,7] [18] .quiet]) (.seq (.region [qq 20 (.build [zb, zb, zb, zb, zb, zb, zb, zb, zb, zb, zb, zb, zb, zb, zb, zb, zb, zb, zb, zb, zb, zb, zb, zb, zb, zb, zb, zb, zb, zb, zb, zb] []) [], qr 21 (.call (.c (.func (.func 24) [])) [(.t 20)]) [0] [20] .any, qr 22 (.call (.c (.func (.func 18) [])) [(.t 21), (.c (ki 2))]) [1,1] [21] .any, qr 19 (mv 22) [2] [22] .quiet, qr 23 (.extract 0 (.t 19)) [3] [19] .quiet, qr 24 (.extract 1 (.t 19)) [3] [19] .quiet, qr 5 (.alloc [(.raw (.bool false)), zi, zi, zb, zb, zb, zb, zb, zb, zb, zb, zb, zb, zb, zb, zb, zb, zb, zb, zb, zb, zb, zb, zb, zb, zb, zb, zb, zb, zb, zb, zb, zb, zb, zb]) [] [] .makes, ⟨none, (.store 35 (.t 5) (.t 23)), none, [6, 4, 2, 0, 1, 2, 3, 4, 6], [5, 23], .any⟩, qr 6 (mv 24) [5,7,0,1,2,3,4,5,6,7] [24] .quiet]) (.seq (.region [qq 26 (.load true 32 (.t 1)) [1], qr 27 (.call (.c (.func (.func 24) [])) [(.t 26)]) [0] [26] .any, qr 28 (.call (.c (.func (.func 19) [])) [(.t 27), (.c (ki 2))]) [1,1] [27] .any, qr 25 (mv 28) [2] [28] .quiet, qr 29 (.extract 0 (.t 25)) [3] [25] .quiet, qr 30 (.extract 1 (.t 25)) [3] [25] .quiet, qr 7 (mv 29) [4,2,0,1,2,3,4] [29] .quiet, qr 8 (mv 30) [5,6,0,1,2,3,4,5,6] [30] .quiet]) (.seq (.region [qq 32 (.load true 32 (.t 1)) [1], qr 33 (.call (.c (.func (.func 24) [])) [(.t 32)]) [0] [32] .any, qr 34 (.call (.c (.func (.func 17) [])) [(.t 33)]) [1,1] [33] .any, qr 31 (mv 34) [2] [34] .quiet, qr 35 (.extract 0 (.t 31)) [3] [31] .quiet, qr 36 (.extract 1 (.t 31)) [3] [31] .quiet, qr 9 (mv 35) [4,2,0,1,2,3,4] [35] .quiet, qr 10 (mv 36) [5,6,0,1,2,3,4,5,6] [36] .quiet]) (.seq (.seq (.region [qq 37 (.move (.c (.raw (.bool false)))) [], gm 38 (mv 4) 37 false [0] [4], ⟨(some 39), (.bin .neq (.t 38) ci), (some (37, false)), [1, 0], [38], .quiet⟩, qr 40 (.pick (.t 37) (.c (.raw (.bool true))) (.t 39)) [0,2] [37,39] .quiet, qr 41 (mv 40) [3,0] [40] .quiet, ⟨(some 42), (.load true 35 (.t 3)), (some (41, false)), [4], [3], .quiet⟩, ⟨(some 43), (.build [(.raw (.bool false)), zi, zi, zb, zb, zb, zb, zb, zb, zb, zb, zb, zb, zb, zb, zb, zb, zb, zb, zb, zb, zb, zb, zb, zb, zb, zb, zb, zb, zb, zb, zb, zb, zb, zb] [(0, 1, (.c (.raw (.bool true)))), (1, 1, (.c (ki (-1)))), (2, 1, (.c (ki (-1))))]), (some (41, false)), [4], [], .quiet⟩, ⟨(some 44), (.eqP true (.fld 0 false 1 .bool (.fld 1 false 1 .int (.fld 2 false 1 .int (.fld 3 true 32 (.arr 32 1 false .int) .fin)))) (.t 42) (.t 43)), (some (41, false)), [5, 6, 4], [42, 43], .quiet⟩, qr 45 (.pick (.t 41) (.c (.raw (.bool true))) (.t 44)) [4,7] [41,44] .quiet, qr 46 (mv 45) [8,4] [45] .quiet, gm 47 (mv 6) 46 false [9] [6], ⟨(some 48), (.bin .neq (.t 47) ci), (some (46, false)), [10, 9], [47], .quiet⟩, qr 49 (.pick (.t 46) (.c (.raw (.bool true))) (.t 48)) [9,11] [46,48] .quiet, qr 50 (mv 49) [12,9] [49] .quiet, ⟨(some 51), (.load true 35 (.t 5)), (some (50, false)), [13], [5], .quiet⟩, ⟨(some 52), (.load true 32 (.t 1)), (some (50, false)), [13], [1], .quiet⟩, ⟨(some 53), (.build [(.raw (.bool false)), zi, zi, zb, zb, zb, zb, zb, zb, zb, zb, zb, zb, zb, zb, zb, zb, zb, zb, zb, zb, zb, zb, zb, zb, zb, zb, zb, zb, zb, zb, zb, zb, zb, zb] [(1, 1, (.c (ki 1))), (2, 1, ci), (3, 32, (.t 52))]), (some (50, false)), [15, 13], [52], .quiet⟩, ⟨(some 54), (.eqP true (.fld 0 false 1 .bool (.fld 1 false 1 .int (.fld 2 false 1 .int (.fld 3 true 32 (.arr 32 1 false .int) .fin)))) (.t 51) (.t 53)), (some (50, false)), [14, 16, 13], [51, 53], .quiet⟩, qr 55 (.pick (.t 50) (.c (.raw (.bool true))) (.t 54)) [13,17] [50,54] .quiet]) (.cond (.t 55) (.seq (.region [qq 0 (.move (.c (.raw (.bool false)))) []]) .ret) .skip)) (.seq (.region [qq 56 (mv 8) [8], qr 57 (.bin .eql (.t 56) ci) [0] [56] .quiet, qr 58 (mv 57) [1] [57] .quiet, gm 59 (mv 7) 58 true [2] [7], ⟨(some 60), (.load true 32 (.t 1)), (some (58, true)), [2], [1], .quiet⟩, ⟨(some 61), (.load true 32 (.t 2)), (some (58, true)), [2], [2], .quiet⟩, ⟨(some 62), (.buildSlice 2 32 [zb, zb, zb, zb, zb, zb, zb, zb, zb, zb, zb, zb, zb, zb, zb, zb, zb, zb, zb, zb, zb, zb, zb, zb, zb, zb, zb, zb, zb, zb, zb, zb] [(0, 32, (.t 60)), (32, 32, (.t 61))]), (some (58, true)), [4, 5, 2], [60, 61], .makes⟩, ⟨(some 63), (.call (.c (.func (.func 22) [])) [(.t 59), (.t 62)]), (some (58, true)), [3, 6, 2, 2], [59, 62], .any⟩, qr 64 (.pick (.t 58) (.t 63) (.c (.raw (.bool false)))) [2,7] [58,63] .quiet, qr 65 (mv 64) [8,7] [64] .quiet, gm 66 (mv 10) 65 true [9] [10], ⟨(some 67), (.bin .eql (.t 66) ci), (some (65, true)), [10, 9], [66], .quiet⟩, qr 68 (.pick (.t 65) (.t 67) (.c (.raw (.bool false)))) [9,11] [65,67] .quiet, qr 69 (mv 68) [12,9] [68] .quiet, gm 70 (mv 9) 69 true [13] [9], ⟨(some 71), (.buildSlice 2 1 [zi] [(0, 1, ci), (1, 1, (.c (ki 1)))]), (some (69, true)), [13], [], .makes⟩, ⟨(some 72), (.call (.c (.func (.func 20) [])) [(.t 70), (.t 71)]), (some (69, true)), [14, 15, 13, 13], [70, 71], .any⟩, qr 73 (.pick (.t 69) (.t 72) (.c (.raw (.bool false)))) [13,16] [69,72] .quiet, qr 0 (mv 73) [17,16,0,1,2,3,4,5,6,7,8,9,10,11,12,13,14,15,16,17] [73] .quiet]) .ret)))))))), 74, [.tmp 0]⟩
theorem e12 : envP Try.prog 12 = some a12 := by kernel_rfl
def a20 : AFunc := ⟨(.seq (.region [qq 4 (.move (.c (.raw (.bool false)))) []]) (.seq (.seq (.region [qq 6 (mv 0) [0], qr 7 (.len 1 (.t 6)) [0] [6] .quiet, qq 8 (mv 1) [1], qr 9 (.len 1 (.t 8)) [2] [8] .quiet, qr 10 (.bin .neq (.t 7) (.t 9)) [1,3] [7,9] .quiet]) (.cond (.t 10) (.seq (.region [qq 4 (.move (.c (.raw (.bool false)))) []]) .ret) .skip)) (.seq (.seq (.region [qq 5 (.move ci) []]) (.block 0 (.loop (.seq (.seq (.region [qq 11 (mv 5) [5], qq 12 (mv 0) [0], qr 13 (.len 1 (.t 12)) [1] [12] .quiet, qr 14 (.bin .lss (.t 11) (.t 13)) [0,2] [11,13] .quiet]) (.cond (.t 14) .skip (.exit 0))) (.seq (.block 1 (.seq (.draw [qq 17 (mv 0) [0], qq 18 (mv 5) [5], qr 19 (.idxAddrS 1 (.t 17) (.t 18)) [0,1] [17,18] .quiet, qr 20 (.load false 1 (.t 19)) [2] [19] .quiet, qq 21 (mv 1) [1], qq 22 (mv 5) [5], qr 23 (.idxAddrS 1 (.t 21) (.t 22)) [4,5] [21,22] .quiet, qr 24 (.load false 1 (.t 23)) [6] [23] .quiet, qr 25 (.bin .neq (.t 20) (.t 24)) [3,7] [20,24] .quiet] [.mob 0, .mob 1, .mob 2, .mob 3, .mob 4, .mob 5, .mob 6, .mob 7, .mob 8] [3, 7]) (.cond (.t 25) (.seq (.region [qq 4 (.move (.c (.raw (.bool false)))) []]) .ret) .skip))) (.region [qq 15 (mv 5) [5], qr 16 (.bin .add (.t 15) (.c (ki 1))) [0] [15] .quiet, qr 5 (mv 16) [1,0,1] [16] .quiet])))))) (.seq (.region [qq 4 (.move (.c (.raw (.bool true)))) []]) .ret)))), 26, [.tmp 4]⟩
theorem e20 : envP Try.prog 20 = some a20 := by kernel_rfl
def a24 : AFunc := ⟨(.seq (.region [qr 1 (.box (.t 0)) [] [0] .makes, qq 2 (.move (.c ns)) []]) (.seq (.region [qq 6 (.build [zb, zb, zb, zb, zb, zb, zb, zb, zb, zb, zb, zb, zb, zb, zb, zb, zb, zb, zb, zb, zb, zb, zb, zb, zb, zb, zb, zb, zb, zb, zb, zb] [(0, 1, (.c (.raw (.int .u8 1))))]) [], qq 7 (.build [zb, zb, zb, zb, zb, zb, zb, zb, zb, zb, zb, zb, zb, zb, zb, zb, zb, zb, zb, zb, zb, zb, zb, zb, zb, zb, zb, zb, zb, zb, zb, zb] [(0, 1, (.c (.raw (.int .u8 2))))]) [], qr 3 (.alloc [zb, zb, zb, zb, zb, zb, zb, zb, zb, zb, zb, zb, zb, zb, zb, zb, zb, zb, zb, zb, zb, zb, zb, zb, zb, zb, zb, zb, zb, zb, zb, zb]) [] [] .makes, qr 4 (.alloc [zb, zb, zb, zb, zb, zb, zb, zb, zb, zb, zb, zb, zb, zb, zb, zb, zb, zb, zb, zb, zb, zb, zb, zb, zb, zb, zb, zb, zb, zb, zb, zb]) [] [] .makes, ⟨none, (.store 32 (.t 3) (.t 6)), none, [2, 0, 0, 2, 3], [3, 6], .any⟩, ⟨none, (.store 32 (.t 4) (.t 7)), none, [3, 1, 4, 0, 1, 2, 3, 4], [4, 7], .any⟩]) (.seq (.region [qr 8 (.buildSlice 1 1 [zi] [(0, 1, ci)]) [] [] .makes, qq 9 (.load true 32 (.t 3)) [3], qr 10 (.call (.c (.func (.func 37) [])) [ci, (.t 9)]) [1] [9] .any, qr 11 (.buildSlice 1 35 [zi, ns, zi, zb, zb, zb, zb, zb, zb, zb, zb, zb, zb, zb, zb, zb, zb, zb, zb, zb, zb, zb, zb, zb, zb, zb, zb, zb, zb, zb, zb, zb, zb, zb, zb] [(0, 35, (.t 10))]) [2] [10] .makes, qr 12 (.call (.c (.func (.func 36) [])) [ci, (.c (.raw (.int .u64 1))), (.c (.raw (.int .u64 1))), (.t 8), (.t 11)]) [0,3,2] [8,11] .any, qr 5 (mv 12) [4,4,0,1,2,3,4] [12] .quiet]) (.seq (.draw [qq 13 (mv 5) [5], qr 14 (.buildSlice 2 1 [zi] [(0, 1, ci), (1, 1, (.c (ki 1)))]) [] [] .makes, qq 15 (.load true 32 (.t 1)) [1], qr 16 (.call (.c (.func (.func 38) [])) [ci, (.t 15)]) [2] [15] .any, qq 17 (.load true 32 (.t 4)) [4], qr 18 (.call (.c (.func (.func 37) [])) [(.c (ki 1)), (.t 17)]) [4,3] [17] .any, qr 19 (.buildSlice 2 35 [zi, ns, zi, zb, zb, zb, zb, zb, zb, zb, zb, zb, zb, zb, zb, zb, zb, zb, zb, zb, zb, zb, zb, zb, zb, zb, zb, zb, zb, zb, zb, zb, zb, zb, zb] [(0, 35, (.t 16)), (35, 35, (.t 18))]) [3,5] [16,18] .makes, qr 20 (.call (.c (.func (.func 36) [])) [(.c (ki 1)), (.c (.raw (.int .u64 2))), (.c (.raw (.int .u64 3))), (.t 14), (.t 19)]) [1,6,5] [14,19] .any, qr 21 (.append 41 120 (.t 13) (.t 20)) [0,7,7] [13,20] .any, qr 2 (mv 21) [8,8,0,1,2,3,4,5,6,7,8] [21] .quiet] [.mob 2, .imm 3 [4], .mob 4, .imm 5 [], .mob 1, .mob 6, .imm 7 [], .mob 0, .imm 8 [], .mob 9] [2, 4]) .ret)))), 22, [.tmp 2]⟩
theorem e24 : envP Try.prog 24 = some a24 := by kernel_rfl
def a36 : AFunc := ⟨(.seq (.region [qr 5 (.box (.t 0)) [] [0] .makes, qr 6 (.box (.t 1)) [] [1] .makes, qq 10 (.move (.c ns)) []]) (.seq (.region [qq 19 (.makeFunc (.func 70) [(.t 5), (.t 6)]) [5,6], qr 11 (mv 19) [0,0] [19] .quiet]) (.seq (.region [qq 20 (mv 11) [11], qr 21 (.call (.t 20) [(.c (ki 2))]) [0] [20] .any, qr 12 (.alloc [zi, (.raw (.int .u64 0)), zi, (.raw (.int .u64 0)), zi, zb, zb, zb, zb, zb, zb, zb, zb, zb, zb, zb, zb, zb, zb, zb, zb, zb, zb, zb, zb, zb, zb, zb, zb, zb, zb, zb, zb, zb, zb, zb, zb, (.raw (.int .u64 0)), zi, zi, ns]) [] [] .makes, ⟨none, (.store 41 (.t 12) (.t 21)), none, [2, 1, 1, 0, 1, 2], [12, 21], .any⟩]) (.seq (.region [qq 22 (mv 3) [3], qr 23 (.ptrAdd 40 (.t 12)) [0] [12] .quiet, ⟨none, (.store 1 (.t 23) (.t 22)), none, [1, 0, 0], [23, 22], .any⟩]) (.seq (.region [qq 24 (.load true 41 (.t 12)) [12], qr 25 (.buildSlice 1 41 [zi, (.raw (.int .u64 0)), zi, (.raw (.int .u64 0)), zi, zb, zb, zb, zb, zb, zb, zb, zb, zb, zb, zb, zb, zb, zb, zb, zb, zb, zb, zb, zb, zb, zb, zb, zb, zb, zb, zb, zb, zb, zb, zb, zb, (.raw (.int .u64 0)), zi, zi, ns] [(0, 41, (.t 24))]) [0] [24] .makes, qr 13 (mv 25) [1,0,1] [25] .quiet]) (.seq (.seq (.region [qq 14 (.move ci) []]) (.block 0 (.loop (.seq (.seq (.region [qq 26 (mv 14) [14], qq 27 (mv 4) [4], qr 28 (.len 1 (.t 27)) [1] [27] .quiet, qr 29 (.bin .lss (.t 26) (.t 28)) [0,2] [26,28] .quiet]) (.cond (.t 29) .skip (.exit 0))) (.seq (.block 1 (.seq (.region [qq 32 (mv 11) [11], qr 33 (.call (.t 32) [(.c (ki 5))]) [0] [32] .any, qr 15 (.alloc [zi, (.raw (.int .u64 0)), zi, (.raw (.int .u64 0)), zi, zb, zb, zb, zb, zb, zb, zb, zb, zb, zb, zb, zb, zb, zb, zb, zb, zb, zb, zb, zb, zb, zb, zb, zb, zb, zb, zb, zb, zb, zb, zb, zb, (.raw (.int .u64 0)), zi, zi, ns]) [] [] .makes, ⟨none, (.store 41 (.t 15) (.t 33)), none, [2, 1, 1, 0, 1, 2], [15, 33], .any⟩]) (.seq (.seq (.region [qq 34 (mv 4) [4], qq 35 (mv 14) [14], qr 36 (.idxAddrS 35 (.t 34) (.t 35)) [0,1] [34,35] .quiet, qr 37 (.ptrAdd 0 (.t 36)) [2] [36] .quiet, qr 38 (.load false 1 (.t 37)) [3] [37] .quiet, qr 39 (.bin .eql (.t 38) (.c (ki 3))) [4] [38] .quiet]) (.cond (.t 39) (.region [qq 40 (mv 11) [11], qr 41 (.call (.t 40) [(.c (ki 6))]) [0] [40] .any, ⟨none, (.store 41 (.t 15) (.t 41)), none, [1, 1, 0, 1], [15, 41], .any⟩]) .skip)) (.seq (.draw [qq 42 (mv 4) [4], qq 43 (mv 14) [14], qr 44 (.idxAddrS 35 (.t 42) (.t 43)) [0,1] [42,43] .quiet, qr 45 (.ptrAdd 2 (.t 44)) [2] [44] .quiet, qr 46 (.load false 1 (.t 45)) [3] [45] .quiet, qq 47 (mv 4) [4], qq 48 (mv 14) [14], qr 49 (.idxAddrS 35 (.t 47) (.t 48)) [5,6] [47,48] .quiet, qr 50 (.ptrAdd 3 (.t 49)) [7] [49] .quiet, qr 51 (.load true 32 (.t 50)) [8] [50] .quiet, qr 52 (.ptrAdd 4 (.t 15)) [0,1,2,3,4] [15] .quiet, ⟨none, (.store 1 (.t 52) (.t 46)), none, [10, 4, 0, 1, 2, 3, 4], [52, 46], .any⟩, qr 53 (.ptrAdd 5 (.t 15)) [0,1,2,3,4,5,6,7,8,9,10,11] [15] .quiet, ⟨none, (.store 32 (.t 53) (.t 51)), none, [12, 9, 11, 0, 1, 2, 3, 4, 5, 6, 7, 8, 9, 10, 11], [53, 51], .any⟩] [.mob 0, .mob 1, .mob 2, .mob 3, .mob 4, .mob 10, .imm 11 [9], .mob 5, .mob 6, .mob 7, .mob 8, .mob 9, .mob 12, .imm 13 []] [4, 9]) (.region [qq 54 (mv 13) [13], qq 55 (.load true 41 (.t 15)) [15], qr 56 (.buildSlice 1 41 [zi, (.raw (.int .u64 0)), zi, (.raw (.int .u64 0)), zi, zb, zb, zb, zb, zb, zb, zb, zb, zb, zb, zb, zb, zb, zb, zb, zb, zb, zb, zb, zb, zb, zb, zb, zb, zb, zb, zb, zb, zb, zb, zb, zb, (.raw (.int .u64 0)), zi, zi, ns] [(0, 41, (.t 55))]) [1] [55] .makes, qr 57 (.append 41 120 (.t 54) (.t 56)) [0,2] [54,56] .any, qr 13 (mv 57) [3,3,0,1,2,3] [57] .quiet]))))) (.region [qq 30 (mv 14) [14], qr 31 (.bin .add (.t 30) (.c (ki 1))) [0] [30] .quiet, qr 14 (mv 31) [1,0,1] [31] .quiet])))))) (.seq (.region [qq 58 (mv 11) [11], qr 59 (.call (.t 58) [(.c (ki 8))]) [0] [58] .any, qq 60 (mv 11) [11], qr 61 (.call (.t 60) [(.c (ki 11))]) [2,1] [60] .any, qq 62 (mv 11) [11], qr 63 (.call (.t 62) [(.c (ki 13))]) [4,3] [62] .any, qr 16 (.alloc [zi, (.raw (.int .u64 0)), zi, (.raw (.int .u64 0)), zi, zb, zb, zb, zb, zb, zb, zb, zb, zb, zb, zb, zb, zb, zb, zb, zb, zb, zb, zb, zb, zb, zb, zb, zb, zb, zb, zb, zb, zb, zb, zb, zb, (.raw (.int .u64 0)), zi, zi, ns]) [] [] .makes, qr 17 (.alloc [zi, (.raw (.int .u64 0)), zi, (.raw (.int .u64 0)), zi, zb, zb, zb, zb, zb, zb, zb, zb, zb, zb, zb, zb, zb, zb, zb, zb, zb, zb, zb, zb, zb, zb, zb, zb, zb, zb, zb, zb, zb, zb, zb, zb, (.raw (.int .u64 0)), zi, zi, ns]) [] [] .makes, qr 18 (.alloc [zi, (.raw (.int .u64 0)), zi, (.raw (.int .u64 0)), zi, zb, zb, zb, zb, zb, zb, zb, zb, zb, zb, zb, zb, zb, zb, zb, zb, zb, zb, zb, zb, zb, zb, zb, zb, zb, zb, zb, zb, zb, zb, zb, zb, (.raw (.int .u64 0)), zi, zi, ns]) [] [] .makes, ⟨none, (.store 41 (.t 16) (.t 59)), none, [6, 1, 5, 0, 1, 6, 7, 8], [16, 59], .any⟩, ⟨none, (.store 41 (.t 17) (.t 61)), none, [7, 3, 9, 0, 1, 2, 3, 6, 7, 8, 9], [17, 61], .any⟩, ⟨none, (.store 41 (.t 18) (.t 63)), none, [8, 5, 10, 0, 1, 2, 3, 4, 5, 6, 7, 8, 9, 10], [18, 63], .any⟩]) (.seq (.region [qq 64 (mv 2) [2], qq 65 (mv 2) [2], qr 66 (.ptrAdd 37 (.t 17)) [0] [17] .quiet, ⟨none, (.store 1 (.t 66) (.t 64)), none, [2, 0, 0], [66, 64], .any⟩, qr 67 (.ptrAdd 37 (.t 18)) [0,1,2,3] [18] .quiet, ⟨none, (.store 1 (.t 67) (.t 65)), none, [4, 1, 3, 0, 1, 2, 3], [67, 65], .any⟩]) (.seq (.region [qq 68 (.ptrAdd 2 (.t 17)) [17], ⟨none, (.store 1 (.t 68) (.c (ki 8))), none, [0], [68], .any⟩, qr 69 (.ptrAdd 2 (.t 18)) [0,1] [18] .quiet, ⟨none, (.store 1 (.t 69) (.c (ki 8))), none, [2, 1, 0, 1], [69], .any⟩]) (.seq (.region [qq 70 (mv 13) [13], qq 71 (.load true 41 (.t 16)) [16], qq 72 (.load true 41 (.t 17)) [17], qq 73 (.load true 41 (.t 18)) [18], qr 74 (.buildSlice 3 41 [zi, (.raw (.int .u64 0)), zi, (.raw (.int .u64 0)), zi, zb, zb, zb, zb, zb, zb, zb, zb, zb, zb, zb, zb, zb, zb, zb, zb, zb, zb, zb, zb, zb, zb, zb, zb, zb, zb, zb, zb, zb, zb, zb, zb, (.raw (.int .u64 0)), zi, zi, ns] [(0, 41, (.t 71)), (41, 41, (.t 72)), (82, 41, (.t 73))]) [1,2,3] [71,72,73] .makes, qr 75 (.append 41 120 (.t 70) (.t 74)) [0,4] [70,74] .any, qr 10 (mv 75) [5,5,0,1,2,3,4,5] [75] .quiet]) .ret)))))))))), 76, [.tmp 10]⟩
theorem e36 : envP Try.prog 36 = some a36 := by kernel_rfl
def a37 : AFunc := ⟨(.seq (.region [qr 3 (.box (.t 1)) [] [1] .makes, qr 4 (.alloc [zi, ns, zi, zb, zb, zb, zb, zb, zb, zb, zb, zb, zb, zb, zb, zb, zb, zb, zb, zb, zb, zb, zb, zb, zb, zb, zb, zb, zb, zb, zb, zb, zb, zb, zb]) [] [] .makes]) (.seq (.region [qq 5 (mv 0) [0], qq 6 (.load true 32 (.t 3)) [3], qr 7 (.build [zi, ns, zi, zb, zb, zb, zb, zb, zb, zb, zb, zb, zb, zb, zb, zb, zb, zb, zb, zb, zb, zb, zb, zb, zb, zb, zb, zb, zb, zb, zb, zb, zb, zb, zb] [(0, 1, (.c (ki 3))), (2, 1, (.t 5)), (3, 32, (.t 6))]) [0,1] [5,6] .quiet, ⟨none, (.store 35 (.t 4) (.t 7)), none, [2, 0, 1, 2], [4, 7], .any⟩]) .ret)), 8, [.cell 4 true 35]⟩
theorem e37 : envP Try.prog 37 = some a37 := by kernel_rfl
def a38 : AFunc := ⟨(.seq (.region [qr 3 (.box (.t 1)) [] [1] .makes, qr 4 (.alloc [zi, ns, zi, zb, zb, zb, zb, zb, zb, zb, zb, zb, zb, zb, zb, zb, zb, zb, zb, zb, zb, zb, zb, zb, zb, zb, zb, zb, zb, zb, zb, zb, zb, zb, zb]) [] [] .makes]) (.seq (.region [qq 5 (mv 0) [0], qq 6 (.load true 32 (.t 3)) [3], qr 7 (.build [zi, ns, zi, zb, zb, zb, zb, zb, zb, zb, zb, zb, zb, zb, zb, zb, zb, zb, zb, zb, zb, zb, zb, zb, zb, zb, zb, zb, zb, zb, zb, zb, zb, zb, zb] [(0, 1, (.c (ki 2))), (2, 1, (.t 5)), (3, 32, (.t 6))]) [0,1] [5,6] .quiet, ⟨none, (.store 35 (.t 4) (.t 7)), none, [2, 0, 1, 2], [4, 7], .any⟩]) .ret)), 8, [.cell 4 true 35]⟩
theorem e38 : envP Try.prog 38 = some a38 := by kernel_rfl
def a70 : AFunc := ⟨(.seq (.region [qr 4 (.alloc [zi, (.raw (.int .u64 0)), zi, (.raw (.int .u64 0)), zi, zb, zb, zb, zb, zb, zb, zb, zb, zb, zb, zb, zb, zb, zb, zb, zb, zb, zb, zb, zb, zb, zb, zb, zb, zb, zb, zb, zb, zb, zb, zb, zb, (.raw (.int .u64 0)), zi, zi, ns]) [] [] .makes]) (.seq (.region [qq 5 (mv 0) [0], qq 6 (.load false 1 (.t 1)) [1], qq 7 (.load false 1 (.t 2)) [2], qr 8 (.build [zi, (.raw (.int .u64 0)), zi, (.raw (.int .u64 0)), zi, zb, zb, zb, zb, zb, zb, zb, zb, zb, zb, zb, zb, zb, zb, zb, zb, zb, zb, zb, zb, zb, zb, zb, zb, zb, zb, zb, zb, zb, zb, zb, zb, (.raw (.int .u64 0)), zi, zi, ns] [(0, 1, (.t 5)), (1, 1, (.c (.raw (.int .u64 1)))), (2, 1, (.t 6)), (3, 1, (.t 7)), (4, 1, (.c (ki (-1))))]) [0,1,2] [5,6,7] .quiet, ⟨none, (.store 41 (.t 4) (.t 8)), none, [3, 0, 1, 2, 3], [4, 8], .any⟩]) .ret)), 9, [.cell 4 true 41]⟩
theorem e70 : envP Try.prog 70 = some a70 := by kernel_rfl
end Go.Proofs.Ythbjfkkjmecaaaa
namespace Go.Proofs.Ythbjfkkjmecaaaa
open Go Go.Vm
noncomputable def tab : List (List (Option AFunc)) := [[none, none, none, none, none, none, some a6, none, none, none, none, some a11, some a12, none, none, none], [some a16, some a17, some a18, some a19, some a20, none, some a22, none, some a24, none, none, none, none, some a29, some a30, none], [some a32, some a33, none, none, some a36, some a37, some a38, none, none, none, none, none, none, none, none, none], [none, none, none, none, none, none, some a54, some a55, some a56, some a57, none, none, none, some a61, some a62, some a63], [some a64, some a65, some a66, some a67, some a68, none, some a70, none, none, none, none, none, none, none, none, none], [none, none, some a82, none, some a84, some a85, some a86, some a87, some a88, some a89, some a90, none, none, none, none, none], [none, none, none, none, none, none, none, none, none, none, none, none, some a108, some a109, some a110, some a111], [some a112, some a113, some a114, some a115, none, none, some a118, some a119, some a120, some a121, some a122, none, none, none, none, none], [some a128, none, none, none, some a132, none, none, some a135, none, none, none, none, none, none, none, some a143]]
theorem tabIs : TabIs Try.prog 0 tab := ⟨⟨e6, ⟨e11, ⟨e12, trivial⟩⟩⟩, ⟨⟨e16, ⟨e17, ⟨e18, ⟨e19, ⟨e20, ⟨e22, ⟨e24, ⟨e29, ⟨e30, trivial⟩⟩⟩⟩⟩⟩⟩⟩⟩, ⟨⟨e32, ⟨e33, ⟨e36, ⟨e37, ⟨e38, trivial⟩⟩⟩⟩⟩, ⟨⟨e54, ⟨e55, ⟨e56, ⟨e57, ⟨e61, ⟨e62, ⟨e63, trivial⟩⟩⟩⟩⟩⟩⟩, ⟨⟨e64, ⟨e65, ⟨e66, ⟨e67, ⟨e68, ⟨e70, trivial⟩⟩⟩⟩⟩⟩, ⟨⟨e82, ⟨e84, ⟨e85, ⟨e86, ⟨e87, ⟨e88, ⟨e89, ⟨e90, trivial⟩⟩⟩⟩⟩⟩⟩⟩, ⟨⟨e108, ⟨e109, ⟨e110, ⟨e111, trivial⟩⟩⟩⟩, ⟨⟨e112, ⟨e113, ⟨e114, ⟨e115, ⟨e118, ⟨e119, ⟨e120, ⟨e121, ⟨e122, trivial⟩⟩⟩⟩⟩⟩⟩⟩⟩, ⟨⟨e128, ⟨e132, ⟨e135, ⟨e143, trivial⟩⟩⟩⟩, trivial⟩⟩⟩⟩⟩⟩⟩⟩⟩
theorem Try.mixed : Try.prog.follows .mixedOrders = true := by kernel_rfl
set_option maxRecDepth 1000000 in
theorem awake_says : saysM noKnown tab 200 12 = true := by kernel_rfl
theorem awake_known : KnownOk Try.prog (yes 12) := saysM_yes noKnown_ok tabIs Try.mixed awake_says
end Go.Proofs.Ythbjfkkjmecaaaa
namespace Go.Proofs.Ythbjfkkjmecaaaa
open Go Go.Vm
variable {kn : Known} {env : Nat → Option AFunc}
noncomputable def swKn : Known := fun f args H => if f = 12 then yes 12 f args H else if f = 68 then liveKn f args H else if f = 121 then insKn f args H else none
noncomputable abbrev swEnv : Nat → Option AFunc := envOf tab
theorem swEnv_ok : EnvOk Try.prog swEnv := envOf_ok tabIs
theorem noSortE : SortE noKnown swEnv := ⟨rfl, rfl, rfl, rfl, rfl, rfl, rfl, fun _ _ _ _ => rfl⟩
theorem swKn_ok : KnownOk Try.prog swKn := fun f args H v H' h => by
  unfold swKn at h
  split at h
  · exact awake_known f args H v H' h
  · split at h
    · exact liveKn_ok noKnown_ok swEnv_ok Try.mixed rfl noSortE f args H v H' h
    · split at h
      · exact insKn_ok swEnv_ok Try.mixed rfl f args H v H' h
      · cases h
theorem swFn {f : Nat} {af : AFunc} (h : swEnv f = some af) (h1 : f ≠ 12) (h2 : f ≠ 68) (h3 : f ≠ 121) : Fn swKn swEnv f af := ⟨h, fun args H => by unfold swKn; rw [if_neg h1, if_neg h2, if_neg h3]⟩
theorem swIns (n : Nat) : InsC (callM swKn swEnv (n + 1)) := insC_or (kn := swKn) (env := swEnv) rfl (fun args H => by unfold swKn; rw [if_neg (by omega), if_neg (by omega), if_pos rfl]) n
theorem telE : TelE swKn swEnv where
  jud := { f55 := swFn rfl (by omega) (by omega) (by omega), f82 := swFn rfl (by omega) (by omega) (by omega), f108 := swFn rfl (by omega) (by omega) (by omega), f109 := swFn rfl (by omega) (by omega) (by omega), f118 := swFn rfl (by omega) (by omega) (by omega), f135 := swFn rfl (by omega) (by omega) (by omega), f17 := swFn rfl (by omega) (by omega) (by omega), f54 := swFn rfl (by omega) (by omega) (by omega), f56 := swFn rfl (by omega) (by omega) (by omega), f18 := swFn rfl (by omega) (by omega) (by omega), f19 := swFn rfl (by omega) (by omega) (by omega), f57 := swFn rfl (by omega) (by omega) (by omega) }
  by_ := { f85 := swFn rfl (by omega) (by omega) (by omega), f110 := swFn rfl (by omega) (by omega) (by omega), f111 := swFn rfl (by omega) (by omega) (by omega), f112 := swFn rfl (by omega) (by omega) (by omega), f113 := swFn rfl (by omega) (by omega) (by omega), f119 := swFn rfl (by omega) (by omega) (by omega), f120 := swFn rfl (by omega) (by omega) (by omega), f89 := swFn rfl (by omega) (by omega) (by omega), f67 := swFn rfl (by omega) (by omega) (by omega), f86 := swFn rfl (by omega) (by omega) (by omega), f87 := swFn rfl (by omega) (by omega) (by omega), f88 := swFn rfl (by omega) (by omega) (by omega), live := fun B H => by unfold swKn; rw [if_neg (by omega), if_pos rfl],
           f33 := swFn rfl (by omega) (by omega) (by omega), f61 := swFn rfl (by omega) (by omega) (by omega), f65 := swFn rfl (by omega) (by omega) (by omega), f62 := swFn rfl (by omega) (by omega) (by omega), f63 := swFn rfl (by omega) (by omega) (by omega), f84 := swFn rfl (by omega) (by omega) (by omega), f64 := swFn rfl (by omega) (by omega) (by omega), f66 := swFn rfl (by omega) (by omega) (by omega), f30 := swFn rfl (by omega) (by omega) (by omega) }
  own := { f16 := swFn rfl (by omega) (by omega) (by omega), f29 := swFn rfl (by omega) (by omega) (by omega), f32 := swFn rfl (by omega) (by omega) (by omega) }
  f6 := swFn rfl (by omega) (by omega) (by omega)
  f11 := swFn rfl (by omega) (by omega) (by omega)
theorem swAwake (n : Nat) (H : AHeap) : callM swKn swEnv (n + 1) (.func (.func 12) []) [] H = some (abool true, H) := knM n (by
  unfold swKn; rw [if_pos rfl]; rfl)
theorem tells_says {H : AHeap} {v0 : AVal} {rows : List RowD} {m at_ y : Int} (hrows : RowsAt H H.next v0 rows) (hset : ∀ r ∈ rows, (r.set.length + 2) * 8 ≤ 140737488355328) (hy : 0 ≤ y ∧ y < 256) : ∃ n H', callM swKn swEnv n (.func (.func 6) []) [v0, vi m, vi at_, v8 y] H = some (abool true, H') := by
  obtain ⟨v, H', h, rfl⟩ := c6 telE 200001 (m := m) (fun n => swIns n) (fun H => swAwake _ H) hrows hset hy (by omega) (at_ := at_)
  exact ⟨_, H', h⟩
end Go.Proofs.Ythbjfkkjmecaaaa
namespace Go.Proofs.Ythbjfkkjmecaaaa
open Go Go.Vm
variable {X : Type}
section
variable {P : Program} {H : AHeap} {n : Nat} {t e : TypeId} {cs : List AVal} {d : DataW X}
theorem shows_int {k : IntKind} (ht : P.underlying t = some (.int k)) (h : shows P H n t cs d) : ∃ m, cs = [.raw (.int k m)] := by
  cases n with
  | zero => exact h.elim
  | succ n =>
    unfold shows at h
    rw [ht] at h
    obtain ⟨m, h1, _⟩ := h
    exact ⟨m, h1⟩
theorem shows_slice (ht : P.underlying t = some (.slice e)) (h : shows P H n t cs d) : (cs = [anil] ∧ d = .nil) ∨ ∃ (m A : Nat) (acss : List (List AVal)) (es sp : List (DataW X)), n = m + 1 ∧ cs = [.slice A 0 0 es.length (es.length + sp.length) true (P.cellsOf e)] ∧ d = .slice es sp ∧ H.get A = some (.ro acss.flatten) ∧
    acss.length = es.length + sp.length ∧ ∀ (i : Nat) (x : DataW X) (acs : List AVal), (es ++ sp)[i]? = some x → acss[i]? = some acs → acs.length = P.cellsOf e ∧ shows P H m e acs x := by
  cases n with
  | zero => exact h.elim
  | succ n =>
    unfold shows at h
    rw [ht] at h
    rcases h with h | ⟨A, acss, es, sp, h1, h2, h3, _, h5, h6⟩
    · exact .inl h
    · exact .inr ⟨n, A, acss, es, sp, rfl, h1, h2, h3, h5, h6⟩
theorem shows_array {k : Nat} (ht : P.underlying t = some (.array k e)) (h : shows P H n t cs d) : ∃ (m : Nat) (acss : List (List AVal)) (ds : List (DataW X)), n = m + 1 ∧ cs = acss.flatten ∧ acss.length = k ∧ ds.length = k ∧
    ∀ (i : Nat) (x : DataW X) (acs : List AVal), ds[i]? = some x → acss[i]? = some acs → acs.length = P.cellsOf e ∧ shows P H m e acs x := by
  cases n with
  | zero => exact h.elim
  | succ n =>
    unfold shows at h
    rw [ht] at h
    obtain ⟨acss, ds, h1, _, h3, h4, h5⟩ := h
    exact ⟨n, acss, ds, rfl, h1, h3, h4, h5⟩
theorem shows_nil (ht : P.underlying t = some (.slice e)) : shows P H (n + 1) t [anil] (DataW.nil : DataW X) := by
  unfold shows
  rw [ht]
  exact .inl ⟨rfl, rfl⟩
theorem weights_slice (ht : P.underlying t = some (.slice e)) (es sp : List (DataW X)) : (DataW.slice es sp).weights P t = (es.length + sp.length) * P.bytesOf e :: (DataW.weightsAll P e es ++ DataW.weightsAll P e sp) := by
  simp only [DataW.weights, ht]
theorem ok_slice {W : World} {b : Nat} {v : Value} (ht : P.underlying t = some (.slice e)) (h : Value.okWide P W .any b t v) : v = .slice none 0 0 ∨ ∃ a len cap, v = .slice (some a) len cap ∧ HasBlock W := by
  simp only [Value.okWide, ht, Cell.okWide] at h
  cases v with
  | slice a l c =>
    cases a with
    | none =>
      simp only [Cell.ok, ht] at h
      split at h
      all_goals first | exact h.elim | (simp_all; done) | skip
      all_goals (first | (left; simp_all; done) | simp_all)
    | some a =>
      simp only [Cell.ok, ht] at h
      obtain ⟨_, _, _, _, row, cells, hs, _⟩ := h
      refine .inr ⟨a, l, c, rfl, ?_⟩
      unfold World.shape? at hs
      split at hs
      · rename_i c e fz hh
        exact ⟨a.block, c, e, fz, hh⟩
      · cases hs
  | _ => simp [Cell.ok, ht] at h
end
theorem weightsAll_mem {P : Program} {e : TypeId} : ∀ {l : List (DataW X)} {x : DataW X} {w : Nat}, x ∈ l → w ∈ x.weights P e → w ∈ DataW.weightsAll P e l
  | [], x, w, h, _ => by simp at h
  | y :: r, x, w, h, hw => by
    simp only [DataW.weightsAll]
    rcases List.mem_cons.1 h with rfl | h
    · exact List.mem_append_left _ hw
    · exact List.mem_append_right _ (weightsAll_mem h hw)
theorem calls_left {P : Program} {kn : Known} {t : List (List (Option AFunc))} (hk : KnownOk P kn) (ht : TabIs P 0 t) (hm : P.follows .mixedOrders = true) {n f : Nat} {args : List AVal} {cargs : Array Value} {v : Value} {w : World} {ρ : Ren} {H H' : AHeap}
    (h : callM kn (envOf t) n (.func (.func f) []) args H = some (.raw v, H')) (ho : Opened w ρ H) (hargs : VRels ρ args cargs.toList) : Calls P f cargs w fun e w' => e = .returned v ∧ Go.RowKit.Grown w w' ∧ ∀ c, c < w.heap.size → w'.heap[c]? = w.heap[c]? := by
  have hgo := callM_go hk (envOf_ok ht) n _ _ _ _ _ h
  have hc := (callM_ok hk (envOf_ok ht) hm n _ _ _ _ _ h).calls hgo
  have := hc (reads w) _ w cargs.toList ho.hrel (by simpa using hargs)
  rw [callsIn_wide] at this
  refine this.mono fun e w' ⟨v', cv, H1, ρ', e1, ⟨e2, e3⟩, e4, e5, _⟩ => ?_
  subst e2
  cases e4
  exact ⟨e1, e5.grownR, fun c hc => e5.frame c hc fun x => x⟩
theorem open_arg {P : Program} {base : Nat} {t e : TypeId} {v1 : Value} {d1 : DataW X} {W : World} {enc : TypeId × Value → X} {ps : List MemPlace} (ht : P.underlying t = some (.slice e)) (htl : tiles P 20 t = true) (h1 : DataW.Trod enc P W 0 (fun _ => true) true t v1 d1 ps) (hv : Value.okWide P W .any base t v1) :
    ∃ ρ H v, Opened W ρ H ∧ VRel ρ v v1 ∧ ∃ n, shows P H n t [v] d1 := by
  obtain ⟨fuel, h1⟩ := h1
  rcases ok_slice ht hv with rfl | ⟨a, len, cap, rfl, hb⟩
  · rcases DataW.trod_slice ht h1 with ⟨hc, hx⟩ | ⟨a, len, cap, elems, rest, n, hn, hc, _⟩
    · exact ⟨_, _, anil, Opened.empty W, .raw _, 1, by rw [(Prod.mk.inj hx).1]; exact shows_nil ht⟩
    · simp [Value.cells] at hc
  · obtain ⟨ρ', H', acs, o1, _, _, vr, sh⟩ := open_cells hb fuel 20 t _ _ _ _ htl (Opened.empty W) h1
    have vr' : VRels ρ' acs [Value.slice (some a) len cap] := vr
    cases vr' with
    | cons hvr hrest =>
      cases hrest
      exact ⟨ρ', H', _, o1, hvr, fuel, sh⟩
end Go.Proofs.Ythbjfkkjmecaaaa
namespace Go.Proofs.Ythbjfkkjmecaaaa
open Go Go.Vm
theorem bytes3 : Try.prog.bytesOf 3 = 8 := by kernel_rfl
theorem cells3 : Try.prog.cellsOf 3 = 1 := by kernel_rfl
variable {X : Type}
theorem ints_of : ∀ (l : List (List AVal)), (∀ e ∈ l, ∃ m : Int, e = [vi m]) → ∃ t : List Int, l = ints t
  | [], _ => ⟨[], rfl⟩
  | e :: r, h => by
    obtain ⟨m, h1⟩ := h e (List.mem_cons_self ..)
    obtain ⟨t, h3⟩ := ints_of r fun x hx => h x (List.mem_cons_of_mem _ hx)
    exact ⟨m :: t, by rw [h1, h3]; rfl⟩
theorem shows_ints {H : AHeap} {n : Nat} {cs : List AVal} {d : DataW X} (h : shows Try.prog H n 25 cs d) (hw : ∀ w ∈ d.weights Try.prog 25, w ≤ reachBytes) (hd : ∀ A o, H.get A = some o → A < H.next) :
    ∃ (a : AVal) (t : List Int), cs = [a] ∧ RdE H 1 a (ints t) ∧ a.lies (· < H.next) ∧ t.length * 8 ≤ reachBytes := by
  rcases shows_slice Try.underlying25 h with ⟨rfl, _⟩ | ⟨m, A, acss, es, sp, rfl, rfl, rfl, hg, hl, hall⟩
  · exact ⟨anil, [], rfl, ⟨fun e he => by simp at he, .inl ⟨rfl, rfl⟩⟩, fun R a1 a2 a3 a4 a5 a6 q => by (cases q), by simp⟩
  · rw [cells3] at hall ⊢
    have hsome : ∀ (i : Nat) acs, acss[i]? = some acs → ∃ x, (es ++ sp)[i]? = some x := fun i acs hi => by
      have hlt := (List.getElem?_eq_some_iff.1 hi).1
      have hlt2 : i < (es ++ sp).length := by rw [List.length_append]; omega
      exact ⟨_, List.getElem?_eq_getElem hlt2⟩
    have h1 : ∀ e ∈ acss, e.length = 1 := fun e he => by
      obtain ⟨i, hi⟩ := List.mem_iff_getElem?.1 he
      obtain ⟨x, hx⟩ := hsome i e hi
      exact (hall i x e hx hi).1
    obtain ⟨t, ht⟩ := ints_of (acss.take es.length) fun e he => by
      obtain ⟨i, hi⟩ := List.mem_iff_getElem?.1 (List.mem_of_mem_take he)
      obtain ⟨x, hx⟩ := hsome i e hi
      exact shows_int Try.underlying3 (hall i x e hx hi).2
    have htl : t.length = es.length := by
      have := congrArg List.length ht
      rw [List.length_take, List.length_map] at this
      omega
    have hfl := flatten_len h1
    refine ⟨_, t, rfl, ⟨fun e he => by rw [← ht] at he; exact h1 e (List.mem_of_mem_take he), .inr ⟨A, 0, 0, es.length + sp.length, true, acss.flatten, by rw [List.length_map, htl], by unfold AHeap.rowAt; rw [hg]; rfl, by rw [List.length_map]; omega, ?_, ?_⟩⟩, fun R a1 a2 a3 a4 a5 a6 q => by cases q; exact hd A _ hg, ?_⟩
    · rw [List.length_map, htl, Nat.zero_add, hfl, hl]; exact Nat.mul_le_mul_right _ (Nat.le_add_right _ _)
    · rw [List.length_map, htl, List.drop_zero, ← ht, flatten_take es.length h1]
    · have := hw ((es.length + sp.length) * Try.prog.bytesOf 3) (by rw [weights_slice Try.underlying25]; exact List.mem_cons_self ..)
      rw [bytes3] at this
      rw [htl]
      exact Nat.le_trans (Nat.mul_le_mul_right 8 (Nat.le_add_right _ _)) this
end Go.Proofs.Ythbjfkkjmecaaaa
