/- The compact code of functions that are walked (printed by a program of ours). -/
import Derived.Test.YthbjfkkjmecaaaaX41
import Derived.Test.YthbjfkkjmecaaaaProg
import Derived.Test.YthbjfkkjmecaaaaX42
namespace Go.Proofs.Ythbjfkkjmecaaaa
open Go Go.Vm
set_option maxRecDepth 20000

/-- wicket/wicketlaw24.SerialIsAlone -/
def a9 : AFunc := ⟨(.seq (.region [qq 6 (.move (.c (.raw (.bool false)))) []]) (.seq (.region [qq 26 (mv 0) [0], qr 27 (.call (.c (.func (.func 11) [])) [(.t 26)]) [0] [26] .any, qr 0 (mv 27) [1,1,0,1] [27] .quiet]) (.seq (.seq (.region [qr 28 (.call (.c (.func (.func 12) [])) []) [] [] .any, qr 29 (.un .not (.t 28)) [0] [28] .quiet]) (.cond (.t 29) (.seq (.region [qq 6 (.move (.c (.raw (.bool false)))) []]) .ret) .skip)) (.seq (.region [qq 31 (mv 0) [0], qq 32 (mv 1) [1], qq 33 (mv 2) [2], qr 34 (.call (.c (.func (.func 30) [])) [(.t 31), (.t 32), (.t 33)]) [0,1,2] [31,32,33] .any, qr 30 (mv 34) [3] [34] .quiet, qr 35 (.extract 0 (.t 30)) [4] [30] .quiet, qr 36 (.extract 1 (.t 30)) [4] [30] .quiet, qr 37 (.extract 2 (.t 30)) [4] [30] .quiet, qr 7 (.alloc [(.raw (.bool false)), zi, zi, zb, zb, zb, zb, zb, zb, zb, zb, zb, zb, zb, zb, zb, zb, zb, zb, zb, zb, zb, zb, zb, zb, zb, zb, zb, zb, zb, zb, zb, zb, zb, zb]) [] [] .makes, ⟨none, (.store 35 (.t 7) (.t 35)), none, [8, 5, 3, 0, 1, 2, 3, 4, 5, 8], [7, 35], .any⟩, qr 8 (mv 36) [6,9,0,1,2,3,4,5,6,8,9] [36] .quiet, qr 9 (mv 37) [7,10,0,1,2,3,4,5,6,7,8,9,10] [37] .quiet]) (.seq (.region [qq 39 (mv 0) [0], qr 40 (.call (.c (.func (.func 33) [])) [(.t 39)]) [0] [39] .any, qr 38 (mv 40) [1] [40] .quiet, qr 41 (.extract 0 (.t 38)) [2] [38] .quiet, qr 42 (.extract 1 (.t 38)) [2] [38] .quiet, qr 10 (mv 41) [3,1,0,1,2,3] [41] .quiet, qr 11 (mv 42) [4,5,0,1,2,3,4,5] [42] .quiet]) (.seq (.seq (.region [qq 43 (mv 9) [9], qr 44 (.bin .neq (.t 43) ci) [0] [43] .quiet, qr 45 (mv 44) [1] [44] .quiet, gm 46 (mv 11) 45 false [2] [11], ⟨(some 47), (.bin .neq (.t 46) ci), (some (45, false)), [3, 2], [46], .quiet⟩, qr 48 (.pick (.t 45) (.c (.raw (.bool true))) (.t 47)) [2,4] [45,47] .quiet]) (.cond (.t 48) (.seq (.region [qq 49 (mv 9) [9], qr 50 (.bin .neq (.t 49) ci) [0] [49] .quiet, qr 51 (mv 50) [1] [50] .quiet, ⟨(some 52), (.ptrAdd 0 (.t 7)), (some (51, true)), [2], [7], .quiet⟩, ⟨(some 53), (.load false 1 (.t 52)), (some (51, true)), [3, 2], [52], .quiet⟩, ⟨(some 54), (.un .not (.t 53)), (some (51, true)), [4, 2], [53], .quiet⟩, qr 55 (.pick (.t 51) (.t 54) (.c (.raw (.bool false)))) [2,5] [51,54] .quiet, qr 56 (mv 55) [6,2] [55] .quiet, gm 57 (mv 8) 56 true [7] [8], ⟨(some 58), (.len 1 (.t 57)), (some (56, true)), [8, 7], [57], .quiet⟩, ⟨(some 59), (.bin .eql (.t 58) ci), (some (56, true)), [9, 7], [58], .quiet⟩, qr 60 (.pick (.t 56) (.t 59) (.c (.raw (.bool false)))) [7,10] [56,59] .quiet, qr 6 (mv 60) [11,7,0,1,2,3,4,5,6,7,8,9,10,11] [60] .quiet]) .ret) .skip)) (.seq (.region [qq 12 (.move (.c ns)) []]) (.seq (.seq (.region [qq 13 (.move ci) []]) (.block 0 (.loop (.seq (.seq (.region [qq 61 (mv 13) [13], qq 62 (mv 2) [2], qr 63 (.len 1 (.t 62)) [1] [62] .quiet, qr 64 (.bin .lss (.t 61) (.t 63)) [0,2] [61,63] .quiet]) (.cond (.t 64) .skip (.exit 0))) (.seq (.block 1 (.seq (.seq (.region [qq 67 (mv 2) [2], qq 68 (mv 13) [13], qr 69 (.idxAddrS 1 (.t 67) (.t 68)) [0,1] [67,68] .quiet, qr 70 (.load false 1 (.t 69)) [2] [69] .quiet, qr 71 (.bin .lss (.t 70) ci) [3] [70] .quiet, qr 72 (mv 71) [4] [71] .quiet, gm 73 (mv 2) 72 false [5] [2], gm 74 (mv 13) 72 false [5] [13], ⟨(some 75), (.idxAddrS 1 (.t 73) (.t 74)), (some (72, false)), [6, 7, 5], [73, 74], .quiet⟩, ⟨(some 76), (.load false 1 (.t 75)), (some (72, false)), [8, 5], [75], .quiet⟩, gm 77 (mv 10) 72 false [5] [10], ⟨(some 78), (.len 1 (.t 77)), (some (72, false)), [10, 5], [77], .quiet⟩, ⟨(some 79), (.bin .geq (.t 76) (.t 78)), (some (72, false)), [9, 11, 5], [76, 78], .quiet⟩, qr 80 (.pick (.t 72) (.c (.raw (.bool true))) (.t 79)) [5,12] [72,79] .quiet]) (.cond (.t 80) (.seq (.region [qq 6 (.move (.c (.raw (.bool false)))) []]) .ret) .skip)) (.seq (.region [qq 81 (mv 0) [0], qq 82 (mv 10) [10], qq 83 (mv 2) [2], qq 84 (mv 13) [13], qr 85 (.idxAddrS 1 (.t 83) (.t 84)) [2,3] [83,84] .quiet, qr 86 (.load false 1 (.t 85)) [4] [85] .quiet, qr 87 (.idxAddrS 12 (.t 82) (.t 86)) [1,5] [82,86] .quiet, qr 88 (.load true 12 (.t 87)) [6] [87] .quiet, qr 89 (.call (.c (.func (.func 35) [])) [(.t 81), (.t 88)]) [0,7] [81,88] .any, qr 14 (mv 89) [8,8,0,1,2,3,4,5,6,7,8] [89] .quiet]) (.seq (.region [qq 15 (.move (.c ns)) []]) (.seq (.seq (.region [qq 16 (.move ci) []]) (.block 2 (.loop (.seq (.seq (.region [qq 90 (mv 16) [16], qq 91 (mv 14) [14], qr 92 (.len 1 (.t 91)) [1] [91] .quiet, qr 93 (.bin .lss (.t 90) (.t 92)) [0,2] [90,92] .quiet]) (.cond (.t 93) .skip (.exit 2))) (.seq (.block 3 (.seq (.draw [qq 96 (mv 14) [14], qq 97 (mv 16) [16], qr 98 (.idxAddrS 41 (.t 96) (.t 97)) [0,1] [96,97] .quiet, qr 99 (.ptrAdd 4 (.t 98)) [2] [98] .quiet, qr 100 (.load false 1 (.t 99)) [3] [99] .quiet, qq 101 (mv 14) [14], qq 102 (mv 16) [16], qr 103 (.idxAddrS 41 (.t 101) (.t 102)) [5,6] [101,102] .quiet, qr 104 (.ptrAdd 5 (.t 103)) [7] [103] .quiet, qr 105 (.load true 32 (.t 104)) [8] [104] .quiet, qr 106 (.build [zi, ns, zi, zb, zb, zb, zb, zb, zb, zb, zb, zb, zb, zb, zb, zb, zb, zb, zb, zb, zb, zb, zb, zb, zb, zb, zb, zb, zb, zb, zb, zb, zb, zb, zb] [(0, 1, (.c (ki 2))), (2, 1, (.t 100)), (3, 32, (.t 105))]) [4,9] [100,105] .quiet, qr 17 (.alloc [zi, ns, zi, zb, zb, zb, zb, zb, zb, zb, zb, zb, zb, zb, zb, zb, zb, zb, zb, zb, zb, zb, zb, zb, zb, zb, zb, zb, zb, zb, zb, zb, zb, zb, zb]) [] [] .makes, ⟨none, (.store 35 (.t 17) (.t 106)), none, [11, 10, 0, 1, 2, 3, 4, 5, 6, 7, 8, 9, 10, 11], [17, 106], .any⟩] [.mob 0, .mob 1, .mob 2, .mob 3, .mob 4, .mob 5, .mob 6, .mob 7, .mob 8, .mob 9, .mob 10, .mob 11, .imm 12 []] [4, 9]) (.seq (.seq (.region [qq 107 (mv 14) [14], qq 108 (mv 16) [16], qr 109 (.idxAddrS 41 (.t 107) (.t 108)) [0,1] [107,108] .quiet, qr 110 (.ptrAdd 0 (.t 109)) [2] [109] .quiet, qr 111 (.load false 1 (.t 110)) [3] [110] .quiet, qr 112 (.bin .eql (.t 111) (.c (ki 6))) [4] [111] .quiet]) (.cond (.t 112) (.region [qq 113 (.ptrAdd 0 (.t 17)) [17], ⟨none, (.store 1 (.t 113) (.c (ki 3))), none, [0], [113], .any⟩]) .skip)) (.region [qq 114 (mv 15) [15], qq 115 (.load true 35 (.t 17)) [17], qr 116 (.buildSlice 1 35 [zi, ns, zi, zb, zb, zb, zb, zb, zb, zb, zb, zb, zb, zb, zb, zb, zb, zb, zb, zb, zb, zb, zb, zb, zb, zb, zb, zb, zb, zb, zb, zb, zb, zb, zb] [(0, 35, (.t 115))]) [1] [115] .makes, qr 117 (.append 35 72 (.t 114) (.t 116)) [0,2] [114,116] .any, qr 15 (mv 117) [3,3,0,1,2,3] [117] .quiet])))) (.region [qq 94 (mv 16) [16], qr 95 (.bin .add (.t 94) (.c (ki 1))) [0] [94] .quiet, qr 16 (mv 95) [1,0,1] [95] .quiet])))))) (.region [qq 118 (mv 12) [12], qq 119 (mv 15) [15], qr 120 (.buildSlice 1 1 [ns] [(0, 1, (.t 119))]) [1] [119] .makes, qr 121 (.append 1 24 (.t 118) (.t 120)) [0,2] [118,120] .any, qr 12 (mv 121) [3,3,0,1,2,3] [121] .quiet])))))) (.region [qq 65 (mv 13) [13], qr 66 (.bin .add (.t 65) (.c (ki 1))) [0] [65] .quiet, qr 13 (mv 66) [1,0,1] [66] .quiet])))))) (.seq (.region [qq 123 (mv 1) [1], qq 124 (mv 12) [12], qr 125 (.call (.c (.func (.func 39) [])) [(.t 123), (.t 124)]) [0,1] [123,124] .any, qr 122 (mv 125) [2] [125] .quiet, qr 126 (.extract 0 (.t 122)) [3] [122] .quiet, qr 127 (.extract 1 (.t 122)) [3] [122] .quiet, qr 128 (.extract 2 (.t 122)) [3] [122] .quiet, qr 18 (mv 126) [4,2,0,1,2,3,4] [126] .quiet, qr 19 (mv 127) [5,7,0,1,2,3,4,5,7] [127] .quiet, qr 20 (mv 128) [6,8,0,1,2,3,4,5,6,7,8] [128] .quiet]) (.seq (.seq (.region [qq 129 (mv 20) [20], qr 130 (.bin .neq (.t 129) ci) [0] [129] .quiet, qr 131 (mv 130) [1] [130] .quiet, gm 132 (mv 18) 131 false [2] [18], ⟨(some 133), (.len 1 (.t 132)), (some (131, false)), [3, 2], [132], .quiet⟩, gm 134 (mv 2) 131 false [2] [2], ⟨(some 135), (.len 1 (.t 134)), (some (131, false)), [5, 2], [134], .quiet⟩, ⟨(some 136), (.bin .neq (.t 133) (.t 135)), (some (131, false)), [4, 6, 2], [133, 135], .quiet⟩, qr 137 (.pick (.t 131) (.c (.raw (.bool true))) (.t 136)) [2,7] [131,136] .quiet, qr 138 (mv 137) [8,2] [137] .quiet, gm 139 (mv 19) 138 false [9] [19], gm 140 (mv 8) 138 false [9] [8], ⟨(some 141), (.call (.c (.func (.func 22) [])) [(.t 139), (.t 140)]), (some (138, false)), [10, 11, 9, 9], [139, 140], .any⟩, ⟨(some 142), (.un .not (.t 141)), (some (138, false)), [12, 9], [141], .quiet⟩, qr 143 (.pick (.t 138) (.c (.raw (.bool true))) (.t 142)) [9,13] [138,142] .quiet]) (.cond (.t 143) (.seq (.region [qq 6 (.move (.c (.raw (.bool false)))) []]) .ret) .skip)) (.seq (.region [qq 21 (.move (.c (.raw (.bool true)))) []]) (.seq (.seq (.region [qq 22 (.move ci) []]) (.block 4 (.loop (.seq (.seq (.region [qq 144 (mv 22) [22], qq 145 (mv 12) [12], qr 146 (.len 1 (.t 145)) [1] [145] .quiet, qr 147 (.bin .lss (.t 144) (.t 146)) [0,2] [144,146] .quiet]) (.cond (.t 147) .skip (.exit 4))) (.seq (.block 5 (.seq (.region [qq 23 (.move ci) []]) (.seq (.seq (.region [qq 24 (.move ci) []]) (.block 6 (.loop (.seq (.seq (.region [qq 150 (mv 24) [24], qq 151 (mv 12) [12], qq 152 (mv 22) [22], qr 153 (.idxAddrS 1 (.t 151) (.t 152)) [1,2] [151,152] .quiet, qr 154 (.load false 1 (.t 153)) [3] [153] .quiet, qr 155 (.len 1 (.t 154)) [4] [154] .quiet, qr 156 (.bin .lss (.t 150) (.t 155)) [0,5] [150,155] .quiet]) (.cond (.t 156) .skip (.exit 6))) (.seq (.block 7 (.seq (.seq (.region [qq 159 (mv 12) [12], qq 160 (mv 22) [22], qr 161 (.idxAddrS 1 (.t 159) (.t 160)) [0,1] [159,160] .quiet, qr 162 (.load false 1 (.t 161)) [2] [161] .quiet, qq 163 (mv 24) [24], qr 164 (.idxAddrS 35 (.t 162) (.t 163)) [3,4] [162,163] .quiet, qr 165 (.ptrAdd 0 (.t 164)) [5] [164] .quiet, qr 166 (.load false 1 (.t 165)) [6] [165] .quiet, qr 167 (.bin .eql (.t 166) (.c (ki 3))) [7] [166] .quiet]) (.cond (.t 167) (.exit 7) .skip)) (.seq (.seq (.region [qq 168 (mv 23) [23], qq 169 (mv 18) [18], qq 170 (mv 22) [22], qr 171 (.idxAddrS 1 (.t 169) (.t 170)) [1,2] [169,170] .quiet, qr 172 (.load false 1 (.t 171)) [3] [171] .quiet, qr 173 (.len 1 (.t 172)) [4] [172] .quiet, qr 174 (.bin .geq (.t 168) (.t 173)) [0,5] [168,173] .quiet]) (.cond (.t 174) (.seq (.region [qq 6 (.move (.c (.raw (.bool false)))) []]) .ret) .skip)) (.seq (.region [qq 175 (mv 18) [18], qq 176 (mv 22) [22], qr 177 (.idxAddrS 1 (.t 175) (.t 176)) [0,1] [175,176] .quiet, qr 178 (.load false 1 (.t 177)) [2] [177] .quiet, qq 179 (mv 23) [23], qr 180 (.idxAddrS 32 (.t 178) (.t 179)) [3,4] [178,179] .quiet, qr 181 (.load true 32 (.t 180)) [5] [180] .quiet, qr 25 (.alloc [zb, zb, zb, zb, zb, zb, zb, zb, zb, zb, zb, zb, zb, zb, zb, zb, zb, zb, zb, zb, zb, zb, zb, zb, zb, zb, zb, zb, zb, zb, zb, zb]) [] [] .makes, ⟨none, (.store 32 (.t 25) (.t 181)), none, [7, 6, 0, 1, 2, 3, 4, 5, 6, 7], [25, 181], .any⟩]) (.seq (.seq (.draw [qq 182 (.load true 32 (.t 25)) [25], qq 183 (mv 12) [12], qq 184 (mv 22) [22], qr 185 (.idxAddrS 1 (.t 183) (.t 184)) [1,2] [183,184] .quiet, qr 186 (.load false 1 (.t 185)) [3] [185] .quiet, qq 187 (mv 24) [24], qr 188 (.idxAddrS 35 (.t 186) (.t 187)) [4,5] [186,187] .quiet, qr 189 (.ptrAdd 3 (.t 188)) [6] [188] .quiet, qr 190 (.load true 32 (.t 189)) [7] [189] .quiet, qr 191 (.eqP true (.arr 32 1 false .int) (.t 182) (.t 190)) [0,8] [182,190] .quiet] [.mob 0, .mob 1, .mob 2, .mob 3, .mob 4, .mob 5, .mob 6, .mob 7, .mob 8, .mob 9] [0, 4, 8]) (.cond (.t 191) (.seq (.seq (.draw [qq 192 (mv 21) [21], qr 193 (mv 192) [0] [192] .quiet, ⟨(some 194), (.ptrAdd 0 (.t 7)), (some (193, true)), [1], [7], .quiet⟩, ⟨(some 195), (.load false 1 (.t 194)), (some (193, true)), [2, 1], [194], .quiet⟩, gm 196 (mv 195) 193 true [3,1,1] [195], ⟨(some 197), (.ptrAdd 1 (.t 7)), (some (196, false)), [4], [7], .quiet⟩, ⟨(some 198), (.load false 1 (.t 197)), (some (196, false)), [5, 4], [197], .quiet⟩, gm 199 (mv 2) 196 false [4] [2], gm 200 (mv 22) 196 false [4] [22], ⟨(some 201), (.idxAddrS 1 (.t 199) (.t 200)), (some (196, false)), [7, 8, 4], [199, 200], .quiet⟩, ⟨(some 202), (.load false 1 (.t 201)), (some (196, false)), [9, 4], [201], .quiet⟩, ⟨(some 203), (.bin .neq (.t 198) (.t 202)), (some (196, false)), [6, 10, 4], [198, 202], .quiet⟩, ⟨(some 204), (.pick (.t 196) (.c (.raw (.bool true))) (.t 203)), (some (193, true)), [4, 11, 1], [196, 203], .quiet⟩, gm 205 (mv 204) 193 true [12,4,1] [204], ⟨(some 206), (.ptrAdd 2 (.t 7)), (some (205, false)), [13], [7], .quiet⟩, ⟨(some 207), (.load false 1 (.t 206)), (some (205, false)), [14, 13], [206], .quiet⟩, gm 208 (mv 23) 205 false [13] [23], ⟨(some 209), (.bin .neq (.t 207) (.t 208)), (some (205, false)), [15, 16, 13], [207, 208], .quiet⟩, ⟨(some 210), (.pick (.t 205) (.c (.raw (.bool true))) (.t 209)), (some (193, true)), [13, 17, 1], [205, 209], .quiet⟩, gm 211 (mv 210) 193 true [18,13,1] [210], ⟨(some 212), (.ptrAdd 3 (.t 7)), (some (211, false)), [19], [7], .quiet⟩, ⟨(some 213), (.load true 32 (.t 212)), (some (211, false)), [20, 19], [212], .quiet⟩, ⟨(some 214), (.load true 32 (.t 25)), (some (211, false)), [19], [25], .quiet⟩, ⟨(some 215), (.eqP true (.arr 32 1 false .int) (.t 213) (.t 214)), (some (211, false)), [21, 22, 19], [213, 214], .quiet⟩, ⟨(some 216), (.pick (.t 211) (.c (.raw (.bool true))) (.t 215)), (some (193, true)), [19, 23, 1], [211, 215], .quiet⟩, qr 217 (.pick (.t 193) (.t 216) (.c (.raw (.bool false)))) [1,24] [193,216] .quiet] [.mob 0, .mob 1, .mob 2, .mob 3, .mob 4, .mob 5, .mob 6, .mob 7, .mob 8, .mob 9, .mob 10, .mob 11, .mob 12, .mob 13, .mob 14, .mob 15, .mob 16, .mob 17, .mob 18, .mob 19, .mob 20, .mob 21, .mob 22, .mob 23, .mob 24, .mob 25] [3, 6, 10, 15, 21, 22]) (.cond (.t 217) (.seq (.region [qq 6 (.move (.c (.raw (.bool false)))) []]) .ret) .skip)) (.region [qq 21 (.move (.c (.raw (.bool false)))) []])) .skip)) (.region [qq 218 (mv 23) [23], qr 219 (.bin .add (.t 218) (.c (ki 1))) [0] [218] .quiet, qr 23 (mv 219) [1,0,1] [219] .quiet])))))) (.region [qq 157 (mv 24) [24], qr 158 (.bin .add (.t 157) (.c (ki 1))) [0] [157] .quiet, qr 24 (mv 158) [1,0,1] [158] .quiet])))))) (.seq (.region [qq 220 (mv 23) [23], qq 221 (mv 18) [18], qq 222 (mv 22) [22], qr 223 (.idxAddrS 1 (.t 221) (.t 222)) [1,2] [221,222] .quiet, qr 224 (.load false 1 (.t 223)) [3] [223] .quiet, qr 225 (.len 1 (.t 224)) [4] [224] .quiet, qr 226 (.bin .neq (.t 220) (.t 225)) [0,5] [220,225] .quiet]) (.cond (.t 226) (.seq (.region [qq 6 (.move (.c (.raw (.bool false)))) []]) .ret) .skip))))) (.region [qq 148 (mv 22) [22], qr 149 (.bin .add (.t 148) (.c (ki 1))) [0] [148] .quiet, qr 22 (mv 149) [1,0,1] [149] .quiet])))))) (.seq (.region [qq 227 (mv 21) [21], qq 228 (.ptrAdd 0 (.t 7)) [7], qr 229 (.load false 1 (.t 228)) [1] [228] .quiet, qr 230 (.eqP false .bool (.t 227) (.t 229)) [0,2] [227,229] .quiet, qr 6 (mv 230) [3,0,1,2,3] [230] .quiet]) .ret))))))))))))), 231, [.tmp 6]⟩
theorem e9 : envP Try.prog 9 = some a9 := by kernel_rfl

end Go.Proofs.Ythbjfkkjmecaaaa
namespace Go.Proofs.Ythbjfkkjmecaaaa
open Go Go.Vm
set_option linter.unusedVariables false
set_option linter.unusedSimpArgs false

variable {kn : Known} {env : Nat → Option AFunc}

variable {rows l : List RowD} {m : Int} {txs : List TxD} {order : List Int} {f g : FindD} {mm mp : MapD} {r : RowD} {p : Int} {k n : Nat}

def toOp (r : RowD) : OpD := ⟨if r.kind = 6 then 3 else 2, r.blk, r.val⟩

theorem toOp_w (h : r.kind = 6) : (toOp r).kind = 3 := if_pos h
theorem toOp_r (h : ¬ r.kind = 6) : (toOp r).kind = 2 := if_neg h

theorem doRow_w (h : r.kind = 6) : doRow p (f, mp, k) r = (f, mp.set r.blk.toNat r.val, k) := by simp [-getElem?_pos, doRow, h]
theorem doRow_same (h : ¬ r.kind = 6) (h2 : ¬ (f.good = true ∧ atM mp r.blk ≠ r.val)) : doRow p (f, mp, k) r = (f, mp, k + 1) := by unfold doRow; rw [if_neg h, if_neg h2]
theorem doRow_ne (h : ¬ r.kind = 6) (h2 : f.good = true) (h3 : atM mp r.blk ≠ r.val) : doRow p (f, mp, k) r = (⟨false, p, k, atM mp r.blk⟩, mp, k + 1) := by unfold doRow; rw [if_neg h, if_pos ⟨h2, h3⟩]

/-- The maps are the same. -/
theorem one_map : ∀ (l : List RowD) (f : FindD) (mp : MapD) (k : Nat) (told : List (List AVal)), (l.foldl (doRow p) (f, mp, k)).2.1 = ((l.map toOp).foldl doOp (mp, told)).1
  | [], _, _, _, _ => rfl
  | r :: l, f, mp, k, told => by
    rw [List.map_cons, List.foldl_cons, List.foldl_cons]
    by_cases h : r.kind = 6
    · rw [doRow_w h, doOp_w (toOp_w h)]; exact one_map l _ _ _ _
    · have h3 : ¬ (toOp r).kind = 3 := by rw [toOp_r h]; decide
      rw [doOp_r h3]
      by_cases h2 : f.good = true ∧ atM mp r.blk ≠ r.val
      · rw [doRow_ne h h2.1 h2.2]; exact one_map l _ _ _ _
      · rw [doRow_same h h2]; exact one_map l _ _ _ _

abbrev opsOf (rows : List RowD) (txs : List TxD) (p : Int) : List OpD := (ownAt rows txs p).map toOp

theorem all_map : ∀ (order : List Int) (f : FindD) (mp : MapD) (told : List (List (List AVal))), (order.foldl (doTx rows txs) (f, mp)).2 = ((order.map (opsOf rows txs)).foldl aloneD (mp, told)).1
  | [], _, _, _ => rfl
  | p :: ps, f, mp, told => by
    rw [List.map_cons, List.foldl_cons, List.foldl_cons]
    have h1 : doTx rows txs (f, mp) p = ((doTx rows txs (f, mp) p).1, ((opsOf rows txs p).foldl doOp (mp, [])).1) := by
      refine Prod.ext rfl ?_
      exact one_map _ _ _ _ _
    rw [h1]
    exact all_map ps _ _ _

/-- A bad finding stays. -/
theorem row_keeps : ∀ (l : List RowD) (f : FindD) (mp : MapD) (k : Nat), f.good = false → (l.foldl (doRow p) (f, mp, k)).1 = f
  | [], _, _, _, _ => rfl
  | r :: l, f, mp, k, h => by
    rw [List.foldl_cons]
    by_cases h6 : r.kind = 6
    · rw [doRow_w h6]; exact row_keeps l _ _ _ h
    · rw [doRow_same h6 (by simp [-getElem?_pos, h])]; exact row_keeps l _ _ _ h

theorem tx_keeps : ∀ (order : List Int) (f : FindD) (mp : MapD), f.good = false → (order.foldl (doTx rows txs) (f, mp)).1 = f
  | [], _, _, _ => rfl
  | p :: ps, f, mp, h => by
    rw [List.foldl_cons]
    have h1 : (doTx rows txs (f, mp) p).1 = f := row_keeps _ _ _ _ h
    have h2 : doTx rows txs (f, mp) p = (f, (doTx rows txs (f, mp) p).2) := Prod.ext h1 rfl
    rw [h2]
    exact tx_keeps ps _ _ h

/-- What has been told is told first. -/
theorem told_at {ops : List OpD} {t acc : List (List AVal)} {v : List AVal} {mp m' : MapD} (h : ops.foldl doOp (mp, acc ++ [v]) = (m', t)) : t[acc.length]? = some v ∧ t.take (acc.length + 1) = acc ++ [v] := by
  rw [doOp_read] at h
  have ht : acc ++ [v] ++ (ops.foldl doOp (mp, [])).2 = t := (Prod.mk.inj h).2
  subst ht
  constructor
  · rw [List.append_assoc, List.getElem?_append_right (Nat.le_refl _)]; simp [-getElem?_pos]
  · rw [List.take_left' (by simp [-getElem?_pos])]

/-- What a list has told. -/
theorem tolds_at {opss : List (List OpD)} {ops : List OpD} {acc told : List (List (List AVal))} {mp m' : MapD} (h : (ops :: opss).foldl aloneD (mp, acc) = (m', told)) : told[acc.length]? = some (ops.foldl doOp (mp, [])).2 ∧ told.take (acc.length + 1) = acc ++ [(ops.foldl doOp (mp, [])).2] ∧ opss.foldl aloneD ((ops.foldl doOp (mp, [])).1, acc ++ [(ops.foldl doOp (mp, [])).2]) = (m', told) := by
  rw [List.foldl_cons] at h
  have h' : opss.foldl aloneD ((ops.foldl doOp (mp, [])).1, acc ++ [(ops.foldl doOp (mp, [])).2]) = (m', told) := h
  have hpre : ∀ (opss : List (List OpD)) (st : MapD × List (List (List AVal))), ∃ more, (opss.foldl aloneD st).2 = st.2 ++ more := by
    intro opss
    induction opss with
    | nil => intro st; exact ⟨[], by simp [-getElem?_pos]⟩
    | cons o r ih =>
      intro st
      obtain ⟨more, hm⟩ := ih (aloneD st o)
      exact ⟨(o.foldl doOp (st.1, [])).2 :: more, by rw [List.foldl_cons, hm]; simp [-getElem?_pos, aloneD]⟩
  obtain ⟨more, hm⟩ := hpre opss ((ops.foldl doOp (mp, [])).1, acc ++ [(ops.foldl doOp (mp, [])).2])
  rw [h'] at hm
  dsimp only at hm
  subst hm
  refine ⟨?_, ?_, h'⟩
  · rw [List.append_assoc, List.getElem?_append_right (Nat.le_refl _)]; simp [-getElem?_pos]
  · rw [List.take_left' (by simp [-getElem?_pos])]

end Go.Proofs.Ythbjfkkjmecaaaa
namespace Go.Proofs.Ythbjfkkjmecaaaa
open Go Go.Vm
set_option linter.unusedVariables false
set_option linter.unusedSimpArgs false

variable {kn : Known} {env : Nat → Option AFunc}

variable {H H' H1 : AHeap} {N A B M : Nat} {v v0 v1 ov tv : AVal} {rows l : List RowD} {rcs ocs tvs : List (List AVal)} {rc : List AVal} {r : RowD} {x : TxD} {sv rv wv : AVal} {m : Int} {txs : List TxD} {o : Nat → Nat} {order : List Int} {avs : List AVal} {ls : List (List (List AVal))}

abbrev C9 : List Nat := [0, 1, 2, 6, 7, 8, 9, 10, 11, 12, 13, 14, 15, 16, 17, 18, 19, 20, 21, 22, 23, 24, 25, 29, 48, 64, 80, 93, 112, 143, 147, 156, 167, 174, 191, 217, 226]

theorem sub_take {α : Type} {cells rc u : List α} {a s f w : Nat} (h : (cells.drop a).take s = rc) (hu : (rc.drop f).take w = u) (hf : f + w ≤ s) : (cells.drop (a + f)).take w = u := by
  subst hu; subst h
  rw [List.drop_take, List.take_take, List.drop_drop, Nat.min_eq_left (by omega)]

abbrev opl (l : List RowD) : List (List AVal) := (l.map toOp).map OpD.cells

set_option maxHeartbeats 2000000 in
theorem isOp {or : Oracle} {n : Nat} {Q : Exit → KS → Prop} {Hi : AHeap} {v14 p0 p1 p2 p7 p8 p10 p12 p13 : AVal} (hw : RdE Hi 41 v14 ocs) (hwl : v14.lies (· < Hi.next)) (hR : RowsC ocs l) (hl : l.length ≤ 400) (hn : 500 < n)
    (hQ : ∀ l' H' v15, SubK [(0, p0), (1, p1), (2, p2), (7, p7), (8, p8), (10, p10), (12, p12), (13, p13), (15, v15)] l' → Grow Hi H' → SliceE H' Hi.next 35 v15 (opl l) → Q .normal (l', H')) :
    Wp or n 231 C9 (sndC (fstC (sndC (sndC (sndC (fstC (fstC (sndC (fstC (fstC (sndC (fstC (sndC (sndC (sndC (sndC (sndC (sndC (sndC (a9.code)))))))))))))))))))) ([(0, p0), (1, p1), (2, p2), (7, p7), (8, p8), (10, p10), (12, p12), (13, p13), (14, v14), (15, ns), (16, vi 0)], Hi) Q := by
  have hl1 := hR.1
  have hlen : aLenS v14 = some (vi l.length) := by rw [← hl1]; exact hw.lenS
  apply Wp.blk
  apply Wp.loop (α := Nat × AHeap × AVal) (fun y => [(0, p0), (1, p1), (2, p2), (7, p7), (8, p8), (10, p10), (12, p12), (13, p13), (14, v14), (15, y.2.2), (16, vi y.1)]) (·.2.1)
    (fun y => y.1 ≤ l.length ∧ Grow Hi y.2.1 ∧ SliceE y.2.1 Hi.next 35 y.2.2 (opl (l.take y.1))) (fun y => l.length - y.1) (0, Hi, ns) rfl ⟨by omega, Grow.refl _, SliceE.nil _ _ _⟩ (by simp [-getElem?_pos]; omega) (by simp [-getElem?_pos])
  rintro ⟨k, H2, v15⟩ ⟨hk, hg2, hs2⟩
  dsimp only at hk hg2 hs2 ⊢
  (repeat (first | apply Wp.seq | apply Wp.blk)); (apply Wp.reg; (repeat (apply Ex.cons; (simp (disch := omega) [-getElem?_pos, hlen]; rfl))); exact Ex.nil; rfl; (simp [-getElem?_pos]; rfl))
  (repeat (first | apply Wp.seq | apply Wp.blk)); apply Wp.ite rfl
  · intro hkl
    obtain ⟨r, hr⟩ : ∃ r, l[k]? = some r := ⟨_, List.getElem?_eq_getElem (by omega)⟩
    obtain ⟨rc, hrc⟩ : ∃ rc, ocs[k]? = some rc := ⟨_, List.getElem?_eq_getElem (by omega)⟩
    have hRC := hR.2 _ rc r hrc hr
    obtain ⟨R0, ver0, off, kc, ex, cells, hv, hrow, hc1, hc2⟩ := hw.at hrc
    rw [hl1] at hv
    have hR0 := hwl _ _ _ _ _ _ _ hv
    have hrow2 : H2.rowAt R0 ver0 = some cells := by rw [hg2.rowAt hR0]; exact hrow
    have g : ∀ j u, j < 41 → rc[j]? = some u → cells[off + k * 41 + j]? = some u := fun j u hj hu => by
      rw [← hc2, List.getElem?_take, if_pos hj, List.getElem?_drop] at hu; exact hu
    have g0 := g 0 _ (by omega) hRC.a0
    have g4 := g 4 _ (by omega) hRC.a4
    rw [Nat.add_zero] at g0
    have g5 := sub_take hc2 hRC.av (by omega)
    have hv32 := hRC.isv.len
    have hbq : AVal.beqs r.val r.val = true := beqs_bytes hRC.isv.bytes
    have htk : opl (l.take (k + 1)) = opl (l.take k) ++ [(toOp r).cells] := by
      rw [List.take_add_one, hr]; simp [-getElem?_pos, opl]
    have hlk : (opl (l.take k)).length = k := by simp [-getElem?_pos]; omega
    obtain ⟨H3, hw3, hg3, hc3, hn3⟩ := newCells H2 (z := zop) (e := vi 2 :: ns :: vi r.blk :: r.val) (by simp [-getElem?_pos, hv32]) (by simp [-getElem?_pos]) (by simp only [List.all_cons, hRC.isv.one]; rfl)
    have hX := hc3.at
    have hgn := hg2.next
    have hvt : r.val.take 32 = r.val := List.take_of_length_le (by omega)
    have hrow3 : H3.rowAt R0 ver0 = some cells := by rw [hg3.rowAt (by omega)]; exact hrow2
    apply Wp.skip
    by_cases h6 : r.kind = 6
    · have hcell : (toOp r).cells = vi 3 :: ns :: vi r.blk :: r.val := by simp [-getElem?_pos, toOp, OpD.cells, h6]
      have hw4 : H3.write H2.next 0 0 [vi 3] = some (H3.set H2.next (.row [some (0, vi 3 :: ns :: vi r.blk :: r.val)])) := by
        rw [Cells.write hc3 (by simp [-getElem?_pos]) (by simp [-getElem?_pos]) (by rfl)]; simp [-getElem?_pos, spl]
      obtain ⟨H4, hH4⟩ : ∃ H4, H4 = H3.set H2.next (.row [some (0, vi 3 :: ns :: vi r.blk :: r.val)]) := ⟨_, rfl⟩
      rw [← hH4] at hw4
      have hn4 : H4.next = H2.next + 1 := by rw [hH4]; exact hn3
      have hX4 : H4.rowAt H2.next 0 = some (vi 3 :: ns :: vi r.blk :: r.val) := by rw [hH4]; simp [-getElem?_pos]
      have hk4 : ∀ A, A < H2.next → H4.get A = H2.get A := fun A hA => by rw [hH4, AHeap.get_set_ne _ _ (by omega), hg3.get A hA]
      have hs4 : SliceE (H4.push (.row [some (0, (toOp r).cells)])) Hi.next 35 v15 (opl (l.take k)) := hs2.move (Nat.le_refl _) (by simp [-getElem?_pos]; omega) fun A a b => by rw [AHeap.get_push_ne _ _ (by omega), hk4 A b]
      obtain ⟨v15', H5, e1, e2, e3, e4, e5, e6⟩ := hs4.append (bytes := 72) (by simp [-getElem?_pos]; omega) (X := H4.next) (e := (toOp r).cells) (by simp [-getElem?_pos]) (by rw [hcell]; simp [-getElem?_pos, hv32]) (by omega) (by omega) (by rw [hcell]; simp only [List.all_cons, hRC.isv.one]; rfl) (by omega) (ex := true) (kc := 1)
      rw [hcell] at e1
      rw [← htk] at e2
      simp [-getElem?_pos] at e3
      repeat (first | apply Wp.seq | apply Wp.blk | apply Wp.ret | apply Wp.skip | apply Wp.exit | apply Wp.cT rfl | apply Wp.cF rfl | ((apply Wp.reg; (repeat (apply Ex.cons; (simp (disch := omega) [-getElem?_pos, hv, hrow2, hrow3, hc1, g0, g4, g5, hv32, hvt, hbq, aFill, repl, hw3, hX, h6, hw4, hX4, e1]; rfl))); exact Ex.nil; rfl; (simp [-getElem?_pos]; rfl))) | ((apply Wp.draw; (repeat (first | ((first | apply Dr.q rfl rfl | apply Dr.r rfl rfl); (simp (disch := omega) [-getElem?_pos, hv, hrow2, hrow3, hc1, g0, g4, g5, hv32, hvt, hbq, aFill, repl, hw3, hX, h6, hw4, hX4, e1]; rfl); (simp [-getElem?_pos]; rfl)) | (apply Dr.imm rfl; (simp (disch := omega) [-getElem?_pos, hv, hrow2, hrow3, hc1, g0, g4, g5, hv32, hvt, hbq, aFill, repl, hw3, hX, h6, hw4, hX4, e1]; rfl); (focus first | (simp [-getElem?_pos]; done) | (simp [-getElem?_pos]; omega))))); exact Dr.nil; rfl; (simp (disch := omega) [-getElem?_pos, hv, hrow2, hrow3, hc1, g0, g4, g5, hv32, hvt, hbq, aFill, repl, hw3, hX, h6, hw4, hX4, e1]); (simp [-getElem?_pos]; rfl))))
      exact ⟨(k + 1, H5, v15'), rfl, ⟨by show k + 1 ≤ _; omega, ⟨by show _ ≤ H5.next; omega, fun A hA => by rw [e4 A hA, AHeap.get_push_ne _ _ (by omega), hk4 A (by omega), hg2.get A hA]⟩, e2⟩, by show _ - (k + 1) < _ - k; omega, by simp [-getElem?_pos, hv]⟩
    · have hcell : (toOp r).cells = vi 2 :: ns :: vi r.blk :: r.val := by simp [-getElem?_pos, toOp, OpD.cells, h6]
      have hk4 : ∀ A, A < H2.next → H3.get A = H2.get A := fun A hA => hg3.get A hA
      have hs4 : SliceE (H3.push (.row [some (0, (toOp r).cells)])) Hi.next 35 v15 (opl (l.take k)) := hs2.move (Nat.le_refl _) (by simp [-getElem?_pos]; omega) fun A a b => by rw [AHeap.get_push_ne _ _ (by omega), hk4 A b]
      obtain ⟨v15', H5, e1, e2, e3, e4, e5, e6⟩ := hs4.append (bytes := 72) (by simp [-getElem?_pos]; omega) (X := H3.next) (e := (toOp r).cells) (by simp [-getElem?_pos]) (by rw [hcell]; simp [-getElem?_pos, hv32]) (by omega) (by omega) (by rw [hcell]; simp only [List.all_cons, hRC.isv.one]; rfl) (by omega) (ex := true) (kc := 1)
      rw [hcell] at e1
      rw [← htk] at e2
      simp [-getElem?_pos] at e3
      repeat (first | apply Wp.seq | apply Wp.blk | apply Wp.ret | apply Wp.skip | apply Wp.exit | apply Wp.cT rfl | apply Wp.cF rfl | ((apply Wp.reg; (repeat (apply Ex.cons; (simp (disch := omega) [-getElem?_pos, hv, hrow2, hrow3, hc1, g0, g4, g5, hv32, hvt, hbq, aFill, repl, hw3, hX, h6, e1]; rfl))); exact Ex.nil; rfl; (simp [-getElem?_pos]; rfl))) | ((apply Wp.draw; (repeat (first | ((first | apply Dr.q rfl rfl | apply Dr.r rfl rfl); (simp (disch := omega) [-getElem?_pos, hv, hrow2, hrow3, hc1, g0, g4, g5, hv32, hvt, hbq, aFill, repl, hw3, hX, h6, e1]; rfl); (simp [-getElem?_pos]; rfl)) | (apply Dr.imm rfl; (simp (disch := omega) [-getElem?_pos, hv, hrow2, hrow3, hc1, g0, g4, g5, hv32, hvt, hbq, aFill, repl, hw3, hX, h6, e1]; rfl); (focus first | (simp [-getElem?_pos]; done) | (simp [-getElem?_pos]; omega))))); exact Dr.nil; rfl; (simp (disch := omega) [-getElem?_pos, hv, hrow2, hrow3, hc1, g0, g4, g5, hv32, hvt, hbq, aFill, repl, hw3, hX, h6, e1]); (simp [-getElem?_pos]; rfl))))
      exact ⟨(k + 1, H5, v15'), rfl, ⟨by show k + 1 ≤ _; omega, ⟨by show _ ≤ H5.next; omega, fun A hA => by rw [e4 A hA, AHeap.get_push_ne _ _ (by omega), hk4 A (by omega), hg2.get A hA]⟩, e2⟩, by show _ - (k + 1) < _ - k; omega, by simp [-getElem?_pos, hv]⟩
  · intro hkl
    apply Wp.exit
    rw [List.take_of_length_le (by omega)] at hs2
    exact hQ _ H2 v15 (by simp [-getElem?_pos]) hg2 hs2

end Go.Proofs.Ythbjfkkjmecaaaa
