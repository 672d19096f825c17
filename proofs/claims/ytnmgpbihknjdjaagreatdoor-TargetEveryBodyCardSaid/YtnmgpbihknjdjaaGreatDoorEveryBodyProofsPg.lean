/- The row of TargetEveryBody. -/
import Derived.Test.YtnmgpbihknjdjaaGreatDoorProg
import Derived.Test.YtnmgpbihknjdjaaGreatDoorChecked
import Derived.Test.YtnmgpbihknjdjaaGreatDoorRows
import Derived.SevenTiedAt
import Derived.LaidMore
import Derived.LaidOnce
import Derived.Stop.Joined
import Derived.Test.YtnmgpbihknjdjaaGreatDoorEveryBodyProofsPf
set_option linter.unusedVariables false
set_option linter.unusedSimpArgs false
/- TargetEveryBody: the walk, first part. -/
namespace Go.Proofs.YtnmgpbihknjdjaaGreatDoor
open Go.RowKit
set_option linter.unusedVariables false
def bodyEB : MC := (⟨268, [(.tmp 4)], (.seq (.reg [gO 2 (.box 2 (.s 0)), gO 4 (.mv cF)]) (.seq (.seq (.reg [gO 28 (.call 15 []), gO 29 (.un .not (.s 28))]) (.cond (.s 29) (.seq (.reg [gO 4 (.mv cF)]) .ret) .skip)) (.seq (.seq (.reg [gO 30 (.ld (some 2) (.s 2)), gO 31 (.call 56 [.s 30]), gO 32 (.bin .neq (.s 31) (cI 0)), gO 33 (.mv (.s 32)), ⟨some (33, false), some 34, .mv (.s 1)⟩, ⟨some (33, false), some 35, .len (.s 34)⟩, ⟨some (33, false), some 36, .fa 0 (.s 2)⟩, ⟨some (33, false), some 37, .ld none (.s 36)⟩, ⟨some (33, false), some 38, .len (.s 37)⟩, ⟨some (33, false), some 39, .bin .neq (.s 35) (.s 38)⟩, gO 40 (.pick (.s 33) cT (.s 39))]) (.cond (.s 40) (.seq (.reg [gO 4 (.mv cT)]) .ret) .skip)) (.seq (.reg [gO 42 (.ld (some 2) (.s 2)), gO 43 (.call 59 [.s 42]), gO 44 (.call 62 [.s 43]), gO 41 (.mv (.s 44)), gO 45 (.ext (.s 41) 0), gO 46 (.ext (.s 41) 1), gO 5 (.mv (.s 45)), gO 6 (.mv (.s 46))]) (.seq (.reg [gO 48 (.ld (some 2) (.s 2)), gO 49 (.call 59 [.s 48]), gO 50 (.mv (.s 1)), gO 51 (.call 61 [.s 50]), gO 52 (.call 60 [.s 49, .s 51]), gO 47 (.mv (.s 52)), gO 53 (.ext (.s 47) 0), gO 54 (.ext (.s 47) 1), gO 7 (.mv (.s 53)), gO 8 (.mv (.s 54))]) (.seq (.seq (.reg [gO 55 (.mv (.s 6)), gO 56 (.bin .neq (.s 55) (cI 0))]) (.cond (.s 56) (.seq (.reg [gO 57 (.mv (.s 6)), gO 58 (.bin .eql (.s 57) (cI 12)), gO 59 (.mv (.s 58)), ⟨some (59, true), some 60, .mv (.s 8)⟩, ⟨some (59, true), some 61, .bin .neq (.s 60) (cI 0)⟩, gO 62 (.pick (.s 59) (.s 61) cF), gO 4 (.mv (.s 62))]) .ret) .skip)) (.seq (.seq (.reg [gO 64 (.ld (some 2) (.s 2)), gO 65 (.call 59 [.s 64]), gO 66 (.mv (.s 5)), gO 67 (.call 61 [.s 66]), gO 68 (.call 60 [.s 65, .s 67]), gO 63 (.mv (.s 68)), gO 69 (.ext (.s 63) 0), gO 70 (.ext (.s 63) 1), gO 9 (.mv (.s 69)), gO 10 (.mv (.s 70))]) (.seq (.reg [gO 71 (.mv (.s 10)), gO 72 (.bin .neq (.s 71) (cI 0)), gO 73 (.mv (.s 72)), ⟨some (73, false), some 74, .mv (.s 5)⟩, ⟨some (73, false), some 75, .len (.s 74)⟩, ⟨some (73, false), some 76, .mv (.s 1)⟩, ⟨some (73, false), some 77, .len (.s 76)⟩, ⟨some (73, false), some 78, .bin .neq (.s 75) (.s 77)⟩, gO 79 (.pick (.s 73) cT (.s 78))]) (.cond (.s 79) (.seq (.reg [gO 4 (.mv cF)]) .ret) .skip))) (.seq (.seq (.reg [gO 80 (.mv (.s 8)), gO 81 (.bin .eql (.s 80) (cI 0))]) (.cond (.s 81) (.seq (.reg [gO 83 (.ld (some 2) (.s 2)), gO 84 (.call 59 [.s 83]), gO 85 (.call 89 [.s 84]), gO 82 (.mv (.s 85)), gO 86 (.ext (.s 82) 0), gO 87 (.ext (.s 82) 1), gO 11 (.new (.agg [(.lit (.int .i64 0)), (.lit (.int .i64 0))])), ⟨none, none, .st 2 (.s 11) (.s 86)⟩, gO 12 (.mv (.s 87))]) (.seq (.reg [gO 89 (.ld (some 2) (.s 2)), gO 90 (.call 59 [.s 89]), gO 91 (.call 90 [.s 90]), gO 88 (.mv (.s 91)), gO 92 (.ext (.s 88) 0), gO 93 (.ext (.s 88) 1), gO 13 (.new (.agg [(.lit (.int .i64 0)), (.lit (.int .i64 0))])), ⟨none, none, .st 2 (.s 13) (.s 92)⟩, gO 14 (.mv (.s 93))]) (.seq (.reg [gO 95 (.ld (some 2) (.s 2)), gO 96 (.call 59 [.s 95]), gO 97 (.call 91 [.s 96]), gO 94 (.mv (.s 97)), gO 98 (.ext (.s 94) 0), gO 99 (.ext (.s 94) 1), gO 15 (.new (.agg [(.lit (.slice none 0 0)), (.lit (.slice none 0 0))])), ⟨none, none, .st 2 (.s 15) (.s 98)⟩, gO 16 (.mv (.s 99))]) (.seq (.seq (.reg [gO 100 (.mv (.s 12)), gO 101 (.bin .neq (.s 100) (cI 0)), gO 102 (.mv (.s 101)), ⟨some (102, false), some 103, .mv (.s 14)⟩, ⟨some (102, false), some 104, .bin .neq (.s 103) (cI 0)⟩, gO 105 (.pick (.s 102) cT (.s 104)), gO 106 (.mv (.s 105)), ⟨some (106, false), some 107, .mv (.s 16)⟩, ⟨some (106, false), some 108, .bin .neq (.s 107) (cI 0)⟩, gO 109 (.pick (.s 106) cT (.s 108)), gO 110 (.mv (.s 109)), ⟨some (110, false), some 111, .fa 0 (.s 15)⟩, ⟨some (110, false), some 112, .ld none (.s 111)⟩, ⟨some (110, false), some 113, .len (.s 112)⟩, ⟨some (110, false), some 114, .mv (.s 1)⟩, ⟨some (110, false), some 115, .len (.s 114)⟩, ⟨some (110, false), some 116, .bin .neq (.s 113) (.s 115)⟩, gO 117 (.pick (.s 110) cT (.s 116)), gO 118 (.mv (.s 117)), ⟨some (118, false), some 119, .fa 1 (.s 15)⟩, ⟨some (118, false), some 120, .ld none (.s 119)⟩, ⟨some (118, false), some 121, .len (.s 120)⟩, ⟨some (118, false), some 122, .mv (.s 1)⟩, ⟨some (118, false), some 123, .len (.s 122)⟩, ⟨some (118, false), some 124, .bin .neq (.s 121) (.s 123)⟩, gO 125 (.pick (.s 118) cT (.s 124)), gO 126 (.mv (.s 125)), ⟨some (126, false), some 127, .mv (.s 1)⟩, ⟨some (126, false), some 128, .mv (.s 5)⟩, ⟨some (126, false), some 129, .call 92 [.s 127, .s 128]⟩, gO 130 (.pick (.s 126) cT (.s 129)), gO 131 (.mv (.s 130)), ⟨some (131, false), some 132, .mv (.s 7)⟩, ⟨some (131, false), some 133, .fa 0 (.s 11)⟩, ⟨some (131, false), some 134, .ld none (.s 133)⟩, ⟨some (131, false), some 135, .fa 1 (.s 11)⟩, ⟨some (131, false), some 136, .ld none (.s 135)⟩, ⟨some (131, false), some 137, .call 53 [.s 132, .s 134, .s 136]⟩, ⟨some (131, false), some 138, .un .not (.s 137)⟩, gO 139 (.pick (.s 131) cT (.s 138))]) (.cond (.s 139) (.seq (.reg [gO 4 (.mv cF)]) .ret) .skip)) (.seq (.reg [gO 140 (.mv (.s 1)), gO 141 (.len (.s 140)), gO 17 (.mv (.s 141))]) (.seq (.seq (.reg [gO 142 (.mv (.s 1)), gO 143 (.len (.s 142)), gO 144 (.bin .sub (.s 143) (cI 1)), gO 18 (.mv (.s 144))]) (.block 0 (.loop [18, 1, 15, 13, 2, 17] (.seq (.seq (.reg [gO 145 (.mv (.s 18)), gO 146 (.bin .geq (.s 145) (cI 0))]) (.cond (.s 146) .skip (.exit 0))) (.seq (.block 1 (.seq (.seq (.reg [gO 149 (.mv (.s 1)), gO 150 (.mv (.s 18)), gO 151 (.ia 1 (.s 149) (.s 150)), gO 152 (.ld none (.s 151)), gO 153 (.bin .neq (.s 152) (cI 0))]) (.cond (.s 153) (.reg [gO 154 (.mv (.s 18)), gO 17 (.mv (.s 154))]) .skip)) (.seq (.reg [gO 155 (.fa 0 (.s 15)), gO 156 (.ld none (.s 155)), gO 157 (.mv (.s 18)), gO 158 (.ia 1 (.s 156) (.s 157)), gO 159 (.ld none (.s 158)), gO 160 (.mv (.s 1)), gO 161 (.mv (.s 18)), gO 162 (.ia 1 (.s 160) (.s 161)), gO 163 (.ld none (.s 162)), gO 164 (.bin .and (.s 159) (.s 163)), gO 165 (.fa 0 (.s 15)), gO 166 (.ld none (.s 165)), gO 167 (.mv (.s 18)), gO 168 (.ia 1 (.s 166) (.s 167)), gO 169 (.ld none (.s 168)), gO 170 (.bin .neq (.s 164) (.s 169)), gO 171 (.mv (.s 170)), ⟨some (171, false), some 172, .fa 1 (.s 15)⟩, ⟨some (171, false), some 173, .ld none (.s 172)⟩, ⟨some (171, false), some 174, .mv (.s 18)⟩, ⟨some (171, false), some 175, .ia 1 (.s 173) (.s 174)⟩, ⟨some (171, false), some 176, .ld none (.s 175)⟩, ⟨some (171, false), some 177, .mv (.s 1)⟩, ⟨some (171, false), some 178, .mv (.s 18)⟩, ⟨some (171, false), some 179, .ia 1 (.s 177) (.s 178)⟩, ⟨some (171, false), some 180, .ld none (.s 179)⟩, ⟨some (171, false), some 181, .bin .and (.s 176) (.s 180)⟩, ⟨some (171, false), some 182, .bin .neq (.s 181) (cI 0)⟩, gO 183 (.pick (.s 171) cT (.s 182))]) (.cond (.s 183) (.seq (.reg [gO 4 (.mv cF)]) .ret) .skip)))) (.reg [gO 147 (.mv (.s 18)), gO 148 (.bin .sub (.s 147) (cI 1)), gO 18 (.mv (.s 148))])))))) (.seq (.reg [gO 184 (.mv (.s 17)), gO 185 (.fa 0 (.s 13)), gO 186 (.ld none (.s 185)), gO 187 (.fa 1 (.s 13)), gO 188 (.ld none (.s 187)), gO 189 (.call 53 [.s 184, .s 186, .s 188]), gO 190 (.un .not (.s 189))]) (.cond (.s 190) (.seq (.reg [gO 4 (.mv cF)]) .ret) .skip)))))))) .skip)) (.seq (.reg [gO 191 (.fa 1 (.s 2)), gO 192 (.ld none (.s 191)), gO 193 (.len (.s 192)), gO 194 (.mks (.agg [(.lit (.int .i64 0)), (.lit (.int .i64 0))]) (.s 193)), gO 195 (.build [(.lit (.slice none 0 0)), (.lit (.slice none 0 0))] [(1, (1, (.s 194)))]), gO 19 (.new (.agg [(.lit (.slice none 0 0)), (.lit (.slice none 0 0))])), ⟨none, none, .st 2 (.s 19) (.s 195)⟩]) (.seq (.seq (.reg [gO 20 (.mv (cI 0))]) (.block 2 (.loop [20, 1, 2, 19] (.seq (.seq (.reg [gO 196 (.mv (.s 20)), gO 197 (.mv (.s 1)), gO 198 (.len (.s 197)), gO 199 (.bin .lss (.s 196) (.s 198))]) (.cond (.s 199) .skip (.exit 2))) (.seq (.block 3 (.seq (.reg [gO 202 (.mv (.s 1)), gO 203 (.mv (.s 20)), gO 204 (.ia 1 (.s 202) (.s 203)), gO 205 (.ld none (.s 204)), gO 206 (.fa 1 (.s 2)), gO 207 (.ld none (.s 206)), gO 208 (.len (.s 207)), gO 209 (.shf .shl (cI 1) (.s 208)), gO 210 (.call 93 [.s 205, .s 209]), gO 21 (.mv (.s 210))]) (.seq (.reg [gO 22 (.mv (cI 0))]) (.seq (.seq (.reg [gO 23 (.mv (cI 0))]) (.block 4 (.loop [23, 2, 21, 19, 22, 20, 1] (.seq (.seq (.reg [gO 211 (.mv (.s 23)), gO 212 (.fa 1 (.s 2)), gO 213 (.ld none (.s 212)), gO 214 (.len (.s 213)), gO 215 (.bin .lss (.s 211) (.s 214))]) (.cond (.s 215) .skip (.exit 4))) (.seq (.block 5 (.seq (.reg [gO 218 (.mv (.s 21)), gO 219 (.mv (.s 23)), gO 220 (.shf .shr (.s 218) (.s 219)), gO 221 (.bin .and (.s 220) (cI 1)), gO 222 (.bin .eql (.s 221) (cI 1))]) (.cond (.s 222) (.seq (.reg [gO 223 (.fa 1 (.s 19)), gO 224 (.ld none (.s 223)), gO 225 (.mv (.s 23)), gO 226 (.fa 1 (.s 19)), gO 227 (.ld none (.s 226)), gO 228 (.mv (.s 23)), gO 229 (.ia 2 (.s 227) (.s 228)), gO 230 (.fa 0 (.s 229)), gO 231 (.ld none (.s 230)), gO 232 (.bin .add (.s 231) (cI 1)), gO 233 (.fa 1 (.s 19)), gO 234 (.ld none (.s 233)), gO 235 (.mv (.s 23)), gO 236 (.ia 2 (.s 234) (.s 235)), gO 237 (.fa 1 (.s 236)), gO 238 (.ld none (.s 237)), gO 239 (.bin .add (.s 238) (cI 1)), gO 240 (.build [(.lit (.int .i64 0)), (.lit (.int .i64 0))] [(0, (1, (.s 232))), (1, (1, (.s 239)))]), gO 241 (.ia 2 (.s 224) (.s 225)), ⟨none, none, .st 2 (.s 241) (.s 240)⟩]) (.reg [gO 242 (.mv (.s 22)), gO 243 (.bin .add (.s 242) (cI 1)), gO 22 (.mv (.s 243))])) .skip))) (.reg [gO 216 (.mv (.s 23)), gO 217 (.bin .add (.s 216) (cI 1)), gO 23 (.mv (.s 217))])))))) (.reg [gO 244 (.fa 0 (.s 19)), gO 245 (.ld none (.s 244)), gO 246 (.mv (.s 22)), gO 247 (.mv (.s 22)), gO 248 (.build [(.lit (.int .i64 0)), (.lit (.int .i64 0))] [(0, (1, (.s 246))), (1, (1, (.s 247)))]), gO 249 (.bsl (.agg [(.lit (.int .i64 0)), (.lit (.int .i64 0))]) 2 1 [(0, (.s 248))]), gO 250 (.app 2 (.s 245) (.s 249)), gO 251 (.fa 0 (.s 19)), ⟨none, none, .st 1 (.s 251) (.s 250)⟩]))))) (.reg [gO 200 (.mv (.s 20)), gO 201 (.bin .add (.s 200) (cI 1)), gO 20 (.mv (.s 201))])))))) (.seq (.give 19 (.reg [gO 253 (.ld (some 2) (.s 19)), gO 254 (.call 59 [.s 253]), gO 255 (.call 62 [.s 254]), gO 252 (.mv (.s 255)), gO 256 (.ext (.s 252) 0), gO 257 (.ext (.s 252) 1), gO 24 (.mv (.s 256)), gO 25 (.mv (.s 257))])) (.seq (.seq (.reg [gO 258 (.mv (.s 25)), gO 259 (.bin .neq (.s 258) (cI 0))]) (.cond (.s 259) (.seq (.reg [gO 4 (.mv cF)]) .ret) .skip)) (.seq (.reg [gO 261 (.ld (some 2) (.s 19)), gO 262 (.mv (.s 24)), gO 263 (.call 60 [.s 261, .s 262]), gO 260 (.mv (.s 263)), gO 264 (.ext (.s 260) 0), gO 265 (.ext (.s 260) 1), gO 26 (.mv (.s 264)), gO 27 (.mv (.s 265))]) (.seq (.reg [gO 266 (.mv (.s 27)), gO 267 (.bin .eql (.s 266) (cI 0)), gO 4 (.mv (.s 267))]) .ret))))))))))))))⟩ : MF).body
theorem mf_lawEb : MT.mf 14 = some ⟨268, [(.tmp 4)], (.seq (.reg [gO 2 (.box 2 (.s 0)), gO 4 (.mv cF)]) (.seq (.seq (.reg [gO 28 (.call 15 []), gO 29 (.un .not (.s 28))]) (.cond (.s 29) (.seq (.reg [gO 4 (.mv cF)]) .ret) .skip)) (.seq (.seq (.reg [gO 30 (.ld (some 2) (.s 2)), gO 31 (.call 56 [.s 30]), gO 32 (.bin .neq (.s 31) (cI 0)), gO 33 (.mv (.s 32)), ⟨some (33, false), some 34, .mv (.s 1)⟩, ⟨some (33, false), some 35, .len (.s 34)⟩, ⟨some (33, false), some 36, .fa 0 (.s 2)⟩, ⟨some (33, false), some 37, .ld none (.s 36)⟩, ⟨some (33, false), some 38, .len (.s 37)⟩, ⟨some (33, false), some 39, .bin .neq (.s 35) (.s 38)⟩, gO 40 (.pick (.s 33) cT (.s 39))]) (.cond (.s 40) (.seq (.reg [gO 4 (.mv cT)]) .ret) .skip)) (.seq (.reg [gO 42 (.ld (some 2) (.s 2)), gO 43 (.call 59 [.s 42]), gO 44 (.call 62 [.s 43]), gO 41 (.mv (.s 44)), gO 45 (.ext (.s 41) 0), gO 46 (.ext (.s 41) 1), gO 5 (.mv (.s 45)), gO 6 (.mv (.s 46))]) (.seq (.reg [gO 48 (.ld (some 2) (.s 2)), gO 49 (.call 59 [.s 48]), gO 50 (.mv (.s 1)), gO 51 (.call 61 [.s 50]), gO 52 (.call 60 [.s 49, .s 51]), gO 47 (.mv (.s 52)), gO 53 (.ext (.s 47) 0), gO 54 (.ext (.s 47) 1), gO 7 (.mv (.s 53)), gO 8 (.mv (.s 54))]) (.seq (.seq (.reg [gO 55 (.mv (.s 6)), gO 56 (.bin .neq (.s 55) (cI 0))]) (.cond (.s 56) (.seq (.reg [gO 57 (.mv (.s 6)), gO 58 (.bin .eql (.s 57) (cI 12)), gO 59 (.mv (.s 58)), ⟨some (59, true), some 60, .mv (.s 8)⟩, ⟨some (59, true), some 61, .bin .neq (.s 60) (cI 0)⟩, gO 62 (.pick (.s 59) (.s 61) cF), gO 4 (.mv (.s 62))]) .ret) .skip)) (.seq (.seq (.reg [gO 64 (.ld (some 2) (.s 2)), gO 65 (.call 59 [.s 64]), gO 66 (.mv (.s 5)), gO 67 (.call 61 [.s 66]), gO 68 (.call 60 [.s 65, .s 67]), gO 63 (.mv (.s 68)), gO 69 (.ext (.s 63) 0), gO 70 (.ext (.s 63) 1), gO 9 (.mv (.s 69)), gO 10 (.mv (.s 70))]) (.seq (.reg [gO 71 (.mv (.s 10)), gO 72 (.bin .neq (.s 71) (cI 0)), gO 73 (.mv (.s 72)), ⟨some (73, false), some 74, .mv (.s 5)⟩, ⟨some (73, false), some 75, .len (.s 74)⟩, ⟨some (73, false), some 76, .mv (.s 1)⟩, ⟨some (73, false), some 77, .len (.s 76)⟩, ⟨some (73, false), some 78, .bin .neq (.s 75) (.s 77)⟩, gO 79 (.pick (.s 73) cT (.s 78))]) (.cond (.s 79) (.seq (.reg [gO 4 (.mv cF)]) .ret) .skip))) (.seq (.seq (.reg [gO 80 (.mv (.s 8)), gO 81 (.bin .eql (.s 80) (cI 0))]) (.cond (.s 81) (.seq (.reg [gO 83 (.ld (some 2) (.s 2)), gO 84 (.call 59 [.s 83]), gO 85 (.call 89 [.s 84]), gO 82 (.mv (.s 85)), gO 86 (.ext (.s 82) 0), gO 87 (.ext (.s 82) 1), gO 11 (.new (.agg [(.lit (.int .i64 0)), (.lit (.int .i64 0))])), ⟨none, none, .st 2 (.s 11) (.s 86)⟩, gO 12 (.mv (.s 87))]) (.seq (.reg [gO 89 (.ld (some 2) (.s 2)), gO 90 (.call 59 [.s 89]), gO 91 (.call 90 [.s 90]), gO 88 (.mv (.s 91)), gO 92 (.ext (.s 88) 0), gO 93 (.ext (.s 88) 1), gO 13 (.new (.agg [(.lit (.int .i64 0)), (.lit (.int .i64 0))])), ⟨none, none, .st 2 (.s 13) (.s 92)⟩, gO 14 (.mv (.s 93))]) (.seq (.reg [gO 95 (.ld (some 2) (.s 2)), gO 96 (.call 59 [.s 95]), gO 97 (.call 91 [.s 96]), gO 94 (.mv (.s 97)), gO 98 (.ext (.s 94) 0), gO 99 (.ext (.s 94) 1), gO 15 (.new (.agg [(.lit (.slice none 0 0)), (.lit (.slice none 0 0))])), ⟨none, none, .st 2 (.s 15) (.s 98)⟩, gO 16 (.mv (.s 99))]) (.seq (.seq (.reg [gO 100 (.mv (.s 12)), gO 101 (.bin .neq (.s 100) (cI 0)), gO 102 (.mv (.s 101)), ⟨some (102, false), some 103, .mv (.s 14)⟩, ⟨some (102, false), some 104, .bin .neq (.s 103) (cI 0)⟩, gO 105 (.pick (.s 102) cT (.s 104)), gO 106 (.mv (.s 105)), ⟨some (106, false), some 107, .mv (.s 16)⟩, ⟨some (106, false), some 108, .bin .neq (.s 107) (cI 0)⟩, gO 109 (.pick (.s 106) cT (.s 108)), gO 110 (.mv (.s 109)), ⟨some (110, false), some 111, .fa 0 (.s 15)⟩, ⟨some (110, false), some 112, .ld none (.s 111)⟩, ⟨some (110, false), some 113, .len (.s 112)⟩, ⟨some (110, false), some 114, .mv (.s 1)⟩, ⟨some (110, false), some 115, .len (.s 114)⟩, ⟨some (110, false), some 116, .bin .neq (.s 113) (.s 115)⟩, gO 117 (.pick (.s 110) cT (.s 116)), gO 118 (.mv (.s 117)), ⟨some (118, false), some 119, .fa 1 (.s 15)⟩, ⟨some (118, false), some 120, .ld none (.s 119)⟩, ⟨some (118, false), some 121, .len (.s 120)⟩, ⟨some (118, false), some 122, .mv (.s 1)⟩, ⟨some (118, false), some 123, .len (.s 122)⟩, ⟨some (118, false), some 124, .bin .neq (.s 121) (.s 123)⟩, gO 125 (.pick (.s 118) cT (.s 124)), gO 126 (.mv (.s 125)), ⟨some (126, false), some 127, .mv (.s 1)⟩, ⟨some (126, false), some 128, .mv (.s 5)⟩, ⟨some (126, false), some 129, .call 92 [.s 127, .s 128]⟩, gO 130 (.pick (.s 126) cT (.s 129)), gO 131 (.mv (.s 130)), ⟨some (131, false), some 132, .mv (.s 7)⟩, ⟨some (131, false), some 133, .fa 0 (.s 11)⟩, ⟨some (131, false), some 134, .ld none (.s 133)⟩, ⟨some (131, false), some 135, .fa 1 (.s 11)⟩, ⟨some (131, false), some 136, .ld none (.s 135)⟩, ⟨some (131, false), some 137, .call 53 [.s 132, .s 134, .s 136]⟩, ⟨some (131, false), some 138, .un .not (.s 137)⟩, gO 139 (.pick (.s 131) cT (.s 138))]) (.cond (.s 139) (.seq (.reg [gO 4 (.mv cF)]) .ret) .skip)) (.seq (.reg [gO 140 (.mv (.s 1)), gO 141 (.len (.s 140)), gO 17 (.mv (.s 141))]) (.seq (.seq (.reg [gO 142 (.mv (.s 1)), gO 143 (.len (.s 142)), gO 144 (.bin .sub (.s 143) (cI 1)), gO 18 (.mv (.s 144))]) (.block 0 (.loop [18, 1, 15, 13, 2, 17] (.seq (.seq (.reg [gO 145 (.mv (.s 18)), gO 146 (.bin .geq (.s 145) (cI 0))]) (.cond (.s 146) .skip (.exit 0))) (.seq (.block 1 (.seq (.seq (.reg [gO 149 (.mv (.s 1)), gO 150 (.mv (.s 18)), gO 151 (.ia 1 (.s 149) (.s 150)), gO 152 (.ld none (.s 151)), gO 153 (.bin .neq (.s 152) (cI 0))]) (.cond (.s 153) (.reg [gO 154 (.mv (.s 18)), gO 17 (.mv (.s 154))]) .skip)) (.seq (.reg [gO 155 (.fa 0 (.s 15)), gO 156 (.ld none (.s 155)), gO 157 (.mv (.s 18)), gO 158 (.ia 1 (.s 156) (.s 157)), gO 159 (.ld none (.s 158)), gO 160 (.mv (.s 1)), gO 161 (.mv (.s 18)), gO 162 (.ia 1 (.s 160) (.s 161)), gO 163 (.ld none (.s 162)), gO 164 (.bin .and (.s 159) (.s 163)), gO 165 (.fa 0 (.s 15)), gO 166 (.ld none (.s 165)), gO 167 (.mv (.s 18)), gO 168 (.ia 1 (.s 166) (.s 167)), gO 169 (.ld none (.s 168)), gO 170 (.bin .neq (.s 164) (.s 169)), gO 171 (.mv (.s 170)), ⟨some (171, false), some 172, .fa 1 (.s 15)⟩, ⟨some (171, false), some 173, .ld none (.s 172)⟩, ⟨some (171, false), some 174, .mv (.s 18)⟩, ⟨some (171, false), some 175, .ia 1 (.s 173) (.s 174)⟩, ⟨some (171, false), some 176, .ld none (.s 175)⟩, ⟨some (171, false), some 177, .mv (.s 1)⟩, ⟨some (171, false), some 178, .mv (.s 18)⟩, ⟨some (171, false), some 179, .ia 1 (.s 177) (.s 178)⟩, ⟨some (171, false), some 180, .ld none (.s 179)⟩, ⟨some (171, false), some 181, .bin .and (.s 176) (.s 180)⟩, ⟨some (171, false), some 182, .bin .neq (.s 181) (cI 0)⟩, gO 183 (.pick (.s 171) cT (.s 182))]) (.cond (.s 183) (.seq (.reg [gO 4 (.mv cF)]) .ret) .skip)))) (.reg [gO 147 (.mv (.s 18)), gO 148 (.bin .sub (.s 147) (cI 1)), gO 18 (.mv (.s 148))])))))) (.seq (.reg [gO 184 (.mv (.s 17)), gO 185 (.fa 0 (.s 13)), gO 186 (.ld none (.s 185)), gO 187 (.fa 1 (.s 13)), gO 188 (.ld none (.s 187)), gO 189 (.call 53 [.s 184, .s 186, .s 188]), gO 190 (.un .not (.s 189))]) (.cond (.s 190) (.seq (.reg [gO 4 (.mv cF)]) .ret) .skip)))))))) .skip)) (.seq (.reg [gO 191 (.fa 1 (.s 2)), gO 192 (.ld none (.s 191)), gO 193 (.len (.s 192)), gO 194 (.mks (.agg [(.lit (.int .i64 0)), (.lit (.int .i64 0))]) (.s 193)), gO 195 (.build [(.lit (.slice none 0 0)), (.lit (.slice none 0 0))] [(1, (1, (.s 194)))]), gO 19 (.new (.agg [(.lit (.slice none 0 0)), (.lit (.slice none 0 0))])), ⟨none, none, .st 2 (.s 19) (.s 195)⟩]) (.seq (.seq (.reg [gO 20 (.mv (cI 0))]) (.block 2 (.loop [20, 1, 2, 19] (.seq (.seq (.reg [gO 196 (.mv (.s 20)), gO 197 (.mv (.s 1)), gO 198 (.len (.s 197)), gO 199 (.bin .lss (.s 196) (.s 198))]) (.cond (.s 199) .skip (.exit 2))) (.seq (.block 3 (.seq (.reg [gO 202 (.mv (.s 1)), gO 203 (.mv (.s 20)), gO 204 (.ia 1 (.s 202) (.s 203)), gO 205 (.ld none (.s 204)), gO 206 (.fa 1 (.s 2)), gO 207 (.ld none (.s 206)), gO 208 (.len (.s 207)), gO 209 (.shf .shl (cI 1) (.s 208)), gO 210 (.call 93 [.s 205, .s 209]), gO 21 (.mv (.s 210))]) (.seq (.reg [gO 22 (.mv (cI 0))]) (.seq (.seq (.reg [gO 23 (.mv (cI 0))]) (.block 4 (.loop [23, 2, 21, 19, 22, 20, 1] (.seq (.seq (.reg [gO 211 (.mv (.s 23)), gO 212 (.fa 1 (.s 2)), gO 213 (.ld none (.s 212)), gO 214 (.len (.s 213)), gO 215 (.bin .lss (.s 211) (.s 214))]) (.cond (.s 215) .skip (.exit 4))) (.seq (.block 5 (.seq (.reg [gO 218 (.mv (.s 21)), gO 219 (.mv (.s 23)), gO 220 (.shf .shr (.s 218) (.s 219)), gO 221 (.bin .and (.s 220) (cI 1)), gO 222 (.bin .eql (.s 221) (cI 1))]) (.cond (.s 222) (.seq (.reg [gO 223 (.fa 1 (.s 19)), gO 224 (.ld none (.s 223)), gO 225 (.mv (.s 23)), gO 226 (.fa 1 (.s 19)), gO 227 (.ld none (.s 226)), gO 228 (.mv (.s 23)), gO 229 (.ia 2 (.s 227) (.s 228)), gO 230 (.fa 0 (.s 229)), gO 231 (.ld none (.s 230)), gO 232 (.bin .add (.s 231) (cI 1)), gO 233 (.fa 1 (.s 19)), gO 234 (.ld none (.s 233)), gO 235 (.mv (.s 23)), gO 236 (.ia 2 (.s 234) (.s 235)), gO 237 (.fa 1 (.s 236)), gO 238 (.ld none (.s 237)), gO 239 (.bin .add (.s 238) (cI 1)), gO 240 (.build [(.lit (.int .i64 0)), (.lit (.int .i64 0))] [(0, (1, (.s 232))), (1, (1, (.s 239)))]), gO 241 (.ia 2 (.s 224) (.s 225)), ⟨none, none, .st 2 (.s 241) (.s 240)⟩]) (.reg [gO 242 (.mv (.s 22)), gO 243 (.bin .add (.s 242) (cI 1)), gO 22 (.mv (.s 243))])) .skip))) (.reg [gO 216 (.mv (.s 23)), gO 217 (.bin .add (.s 216) (cI 1)), gO 23 (.mv (.s 217))])))))) (.reg [gO 244 (.fa 0 (.s 19)), gO 245 (.ld none (.s 244)), gO 246 (.mv (.s 22)), gO 247 (.mv (.s 22)), gO 248 (.build [(.lit (.int .i64 0)), (.lit (.int .i64 0))] [(0, (1, (.s 246))), (1, (1, (.s 247)))]), gO 249 (.bsl (.agg [(.lit (.int .i64 0)), (.lit (.int .i64 0))]) 2 1 [(0, (.s 248))]), gO 250 (.app 2 (.s 245) (.s 249)), gO 251 (.fa 0 (.s 19)), ⟨none, none, .st 1 (.s 251) (.s 250)⟩]))))) (.reg [gO 200 (.mv (.s 20)), gO 201 (.bin .add (.s 200) (cI 1)), gO 20 (.mv (.s 201))])))))) (.seq (.give 19 (.reg [gO 253 (.ld (some 2) (.s 19)), gO 254 (.call 59 [.s 253]), gO 255 (.call 62 [.s 254]), gO 252 (.mv (.s 255)), gO 256 (.ext (.s 252) 0), gO 257 (.ext (.s 252) 1), gO 24 (.mv (.s 256)), gO 25 (.mv (.s 257))])) (.seq (.seq (.reg [gO 258 (.mv (.s 25)), gO 259 (.bin .neq (.s 258) (cI 0))]) (.cond (.s 259) (.seq (.reg [gO 4 (.mv cF)]) .ret) .skip)) (.seq (.reg [gO 261 (.ld (some 2) (.s 19)), gO 262 (.mv (.s 24)), gO 263 (.call 60 [.s 261, .s 262]), gO 260 (.mv (.s 263)), gO 264 (.ext (.s 260) 0), gO 265 (.ext (.s 260) 1), gO 26 (.mv (.s 264)), gO 27 (.mv (.s 265))]) (.seq (.reg [gO 266 (.mv (.s 27)), gO 267 (.bin .eql (.s 266) (cI 0)), gO 4 (.mv (.s 267))]) .ret))))))))))))))⟩ := by kernel_rfl
abbrev EfEB (k : Nat) (A : Sl) (h : MHeap) : Prop := Ef (orA 14) (itA 14) 4000000 268 (fun _ => false) (MC.rest k bodyEB) A h (FinF [.tmp 4] (Bo true) [])
theorem natI_map (w : List Nat) : (w.map fun s : Nat => (s : Int)).map I64 = natL w := by rw [List.map_map]; rfl
theorem topW_drop {w : List Nat} {k : Nat} (h : k < w.length) : topW (w.drop k) = if w.getD k 0 = 0 then topW (w.drop (k + 1)) + 1 else 0 := by
 rw [List.drop_eq_getElem_cons h, topW, List.getD_eq_getElem?_getD, List.getElem?_eq_getElem h]; rfl
set_option maxHeartbeats 4000000 in
set_option maxRecDepth 4000 in
theorem EveryBody_p1 (R C : List (Int × Int)) (b : List Int)
  (hp : ∀ M, ValS R C → b.length = R.length → M[0]? = some ⟨0, false, 2, [encS R C]⟩ → hltL M.length M = true → EfEB 8 [(1, .sl (b.map I64)), (2, .ptr 0 0 0 0)] M) :
  runZ MT (orA 14) (itA 14) 4000000 14 [encS R C, .sl (b.map I64)] [] = some (Bo true, []) := by
 unfold EfEB at hp
 have hb : MC.cut 8 bodyEB (MC.rest 8 bodyEB) = bodyEB := cut_rest 8 bodyEB
 generalize MC.rest 8 bodyEB = R8 at hp hb
 have hmf : MT.mf 14 = some ⟨268, [.tmp 4], MC.cut 8 bodyEB R8⟩ := by rw [hb]; exact mf_lawEb
 refine runZ_of hmf (by simp) ?_
 clear hmf hb
 replace hp := Bx.mk hp
 simp only [argsL]
 have hs1 : (MV.sl (R.map encP)).slen = some R.length := by simp [MV.slen]
 have hs3 : (MV.sl (b.map I64)).slen = some b.length := by simp [MV.slen]
 have se := fun h => rSErr_c 10 R C h
 by_cases h0 : (chkS R C).2 = 0
 case neg =>
  generalize (chkS R C).2 = e at *
  repeat (first | apply ef_seq | (apply ef_mv; exact rfl; exact rfl) | (apply ef_bin; (iterate 3 exact rfl); (exact cmp_t rfl (by first | exact rfl | (simp only [cmpP]; omega)))) | (apply ef_gn; exact rfl; (exact (rfl : true = true)); exact rfl) | (apply ef_pick; (iterate 3 exact rfl)) | (apply ef_ldp; exact rfl; exact rfl; (exact rfl); exact rfl; (exact rfl); (exact rd_2 rfl rfl)) | (apply ef_notT; exact rfl; exact rfl) | (apply ef_box; (iterate 4 exact rfl)) | apply ef_nil | apply seqQ.normal | apply ef_ret | apply seqQ.ret | apply ef_skip | (apply ef_condt; exact rfl; (exact (rfl : true = true))) | (apply ef_condf; exact rfl; (exact (rfl : false = false))) | (apply ef_call; exact rfl; ((repeat (apply XVs.cons; exact rfl)); exact XVs.nil); (with_reducible first | exact awake_c _ | exact se _)))
  (refine fin1 rfl (by exact rfl) rfl ?_)
  rfl
 have hv := chkS_val h0
 have h5 := hv.r5
 have h6 := hv.c5
 have h7 := hv.r1
 have hchk : chkBE R C b = chkB R C b := if_neg (by simp [h0])
 have hopn : opnE R C = if possB R C anyP then 0 else 12 := if_pos h0
 rw [h0] at se
 by_cases h1 : b.length = R.length
 case neg =>
  have h1' : (b.length : Int) ≠ R.length := by omega
  repeat (first | apply ef_seq | (apply ef_mv; exact rfl; exact rfl) | (apply ef_bin; (iterate 3 exact rfl); (first | exact cmp_t rfl (by first | exact rfl | (simp only [cmpP]; omega)) | exact cmp_f rfl (by simp only [cmpP]; omega))) | (apply ef_gy; exact rfl; (exact (rfl : false = false))) | (apply ef_pick; (iterate 3 exact rfl)) | (apply ef_len; exact rfl; exact rfl; (assumption)) | (apply ef_ldp; exact rfl; exact rfl; (exact rfl); exact rfl; (exact rfl); (first | exact rd_2 rfl rfl | exact rfl)) | (apply ef_fap; exact rfl; exact rfl) | (apply ef_notT; exact rfl; exact rfl) | (apply ef_box; (iterate 4 exact rfl)) | apply ef_nil | apply seqQ.normal | apply ef_ret | apply seqQ.ret | apply ef_skip | (apply ef_condt; exact rfl; (exact (rfl : true = true))) | (apply ef_condf; exact rfl; (exact (rfl : false = false))) | (apply ef_call; exact rfl; ((repeat (apply XVs.cons; exact rfl)); exact XVs.nil); (with_reducible first | exact awake_c _ | exact se _)))
  (refine fin1 rfl (by exact rfl) rfl ?_)
  rfl
 have cs := fun h => CopyS_c 12 R C (by omega) (by omega) h
 have bo := fun h => Body_c 6 R C (by omega) (by omega) h (v := encS R C) (frz_lt (encS_lt 0 R C))
 have ci := fun h => bCopyInts_c 13 b h (v := .sl (b.map I64)) (by omega) (frz_sl (I64_lt 0 b))
 have ck := fun h w hw => ChkB_c 7 R C b (by omega) (by omega) (by omega) h (v := encS R C) (w := w) (frz_lt (encS_lt 0 R C)) hw
 rw [hchk] at ck
 cases h2 : possB R C anyP
 ·have e1 : opnE R C = 12 := by rw [hopn, h2]; rfl
  have e2 : bodyV R C = [] := if_neg (by omega)
  rw [e1, e2] at bo
  have hbad : (chkB R C b).2 ≠ 0 := fun h => by
   obtain ⟨w, _, hw, _⟩ := chkB_ok hv h
   have := possB_iff.2 ⟨w, hw, fun _ _ _ => rfl⟩
   rw [this] at h2; cases h2
  generalize chkB R C b = cb at *
  repeat (first | apply ef_seq | (apply ef_mv; exact rfl; exact rfl) | (apply ef_bin; (iterate 3 exact rfl); (exact cmp_f rfl (by simp only [cmpP]; omega))) | (apply ef_gy; exact rfl; (exact (rfl : false = false))) | (apply ef_pick; (iterate 3 exact rfl)) | (apply ef_len; exact rfl; exact rfl; (assumption)) | (apply ef_ldp; exact rfl; exact rfl; (exact rfl); exact rfl; (exact rfl); (first | exact rd_2 rfl rfl | exact rfl)) | (apply ef_fap; exact rfl; exact rfl) | (apply ef_notT; exact rfl; exact rfl) | (apply ef_ext; (iterate 3 exact rfl)) | (apply ef_box; (iterate 4 exact rfl)) | apply ef_nil | apply seqQ.normal | apply ef_skip | (apply ef_condf; exact rfl; (exact (rfl : false = false))) | (apply ef_call; exact rfl; ((repeat (apply XVs.cons; exact rfl)); exact XVs.nil); (with_reducible first | exact awake_c _ | exact se _ | exact cs _ | exact bo _)))
  repeat (first | (apply ef_call; exact rfl; ((repeat (apply XVs.cons; exact rfl)); exact XVs.nil); (with_reducible exact ci _)))
  (apply ef_call; (· exact rfl); (· ((repeat (apply XVs.cons; exact rfl)); exact XVs.nil)); · exact ck _ _ (frz_arrg rfl (by simp) (I64_lt 0 b)))
  repeat (first | apply ef_seq | (apply ef_mv; exact rfl; exact rfl) | (apply ef_bin; (iterate 3 exact rfl); (exact cmp_t rfl (by first | exact rfl | (simp only [cmpP]; omega)))) | (apply ef_gy; exact rfl; (exact (rfl : true = true))) | (apply ef_pick; (iterate 3 exact rfl)) | (apply ef_ext; (iterate 3 exact rfl)) | apply ef_nil | apply seqQ.normal | apply ef_ret | apply seqQ.ret | (apply ef_condt; exact rfl; (exact (rfl : true = true))))
  (refine fin1 rfl (by exact rfl) rfl ?_)
  rfl
 ·have e1 : opnE R C = 0 := by rw [hopn, h2]; rfl
  have e2 : bodyV R C = bodyB R C R.length := if_pos e1
  have hfb := first_body h2
  have hff : ∀ w, IsBody R C w → befL w (bodyB R C R.length) = false := fun w hw => first_first hw
  have hfc := body_chk hv hfb
  rw [e1, e2] at bo
  have hfl := hfb.len
  generalize bodyB R C R.length = fb at *
  have ci2 := fun h v hv => bCopyInts_c 13 (fb.map fun s : Nat => (s : Int)) h (v := v) (by rw [List.length_map]; omega) hv
  have ck2 := fun h w hw => ChkB_c 7 R C (fb.map fun s : Nat => (s : Int)) (by omega) (by omega) (by rw [List.length_map]; omega) h (v := encS R C) (w := w) (frz_lt (encS_lt 0 R C)) hw
  rw [show chkBE R C (fb.map fun s : Nat => (s : Int)) = (volS fb, 0) from (if_neg (by simp [h0])).trans hfc] at ck2
  simp only [natI_map, List.length_map] at ci2 ck2
  have nl := fun n => natL_lt n fb
  by_cases h3 : (chkB R C b).2 = 0
  case neg =>
   generalize chkB R C b = cb at *
   repeat (first | apply ef_seq | (apply ef_mv; exact rfl; exact rfl) | (apply ef_bin; (iterate 3 exact rfl); (exact cmp_f rfl (by simp only [cmpP]; omega))) | (apply ef_gy; exact rfl; (exact (rfl : false = false))) | (apply ef_pick; (iterate 3 exact rfl)) | (apply ef_len; exact rfl; exact rfl; (assumption)) | (apply ef_ldp; exact rfl; exact rfl; (exact rfl); exact rfl; (exact rfl); (first | exact rd_2 rfl rfl | exact rfl)) | (apply ef_fap; exact rfl; exact rfl) | (apply ef_notT; exact rfl; exact rfl) | (apply ef_ext; (iterate 3 exact rfl)) | (apply ef_box; (iterate 4 exact rfl)) | apply ef_nil | apply seqQ.normal | apply ef_skip | (apply ef_condf; exact rfl; (exact (rfl : false = false))) | (apply ef_call; exact rfl; ((repeat (apply XVs.cons; exact rfl)); exact XVs.nil); (with_reducible first | exact awake_c _ | exact se _ | exact cs _ | exact bo _)))
   repeat (first | (apply ef_call; exact rfl; ((repeat (apply XVs.cons; exact rfl)); exact XVs.nil); (with_reducible exact ci _)))
   (apply ef_call; (· exact rfl); (· ((repeat (apply XVs.cons; exact rfl)); exact XVs.nil)); · exact ck _ _ (frz_arrg rfl (by simp) (I64_lt 0 b)))
   repeat (first | apply ef_seq | (apply ef_mv; exact rfl; exact rfl) | (apply ef_bin; (iterate 3 exact rfl); (exact cmp_f rfl (by simp only [cmpP]; omega))) | (apply ef_ldp; exact rfl; exact rfl; (exact rfl); exact rfl; (exact rfl); (exact rd_2 rfl rfl)) | (apply ef_ext; (iterate 3 exact rfl)) | apply ef_nil | apply seqQ.normal | apply ef_skip | (apply ef_condf; exact rfl; (exact (rfl : false = false))) | (apply ef_call; exact rfl; ((repeat (apply XVs.cons; exact rfl)); exact XVs.nil); (with_reducible exact cs _)))
   (apply ef_call; (· exact rfl); (· ((repeat (apply XVs.cons; exact rfl)); exact XVs.nil)); · exact ci2 _ _ (frz_arrg rfl (by simp) (nl 0)))
   repeat (fail)
   (apply ef_call; (· exact rfl); (· ((repeat (apply XVs.cons; exact rfl)); exact XVs.nil)); · exact ck2 _ _ (frz_arrg rfl (by simp) (nl 0)))
   repeat (first | apply ef_seq | (apply ef_mv; exact rfl; exact rfl) | (apply ef_bin; (iterate 3 exact rfl); (exact cmp_f rfl (by simp only [cmpP]; omega))) | (apply ef_gy; exact rfl; (exact (rfl : false = false))) | (apply ef_pick; (iterate 3 exact rfl)) | (apply ef_len; exact rfl; exact rfl; (first | assumption | exact rfl)) | (apply ef_ext; (iterate 3 exact rfl)) | apply ef_nil | apply seqQ.normal | apply ef_skip | (apply ef_condf; exact rfl; (exact (rfl : false = false))))
   refine ef_weak (by ((repeat (refine Hold.cons (by exact rfl) ?_)); exact Hold.nil)) (hp.out _ hv h1 rfl ?_)
   simp [hltL, ltL, MV.lt, encP_lt, I64_lt, natL_lt]
  ·obtain ⟨w, rfl, hw, hcb⟩ := chkB_ok hv h3
   have hwl := hw.len
   have hlt := hw.lt h6
   have hpw := pow_le5 C.length h6
   have vo := fun h => Vol_c 6 R C (by omega) (by omega) h (v := encS R C) (frz_lt (encS_lt 0 R C))
   have tp0 := fun h => Tops_c 6 R C (by omega) (by omega) h (v := encS R C) (frz_lt (encS_lt 0 R C))
   have ce := fun h => Cert_c 6 R C (by omega) (by omega) h
   simp only [e1, if_true] at vo tp0 ce
   have hvm := mem_volL.2 ⟨w, hw, rfl⟩
   have hvne : volL R C ≠ [] := fun h => by rw [h] at hvm; cases hvm
   have hv1 := (mn_mem hvne).2 _ hvm
   have hv2 := (mx_mem hvne).2 _ hvm
   have htm : ((topW w : Nat) : Int) ∈ topsI R C (R.length + 1) := List.mem_map.2 ⟨_, mem_topL.2 ⟨w, hw, rfl⟩, rfl⟩
   have htne : topsI R C (R.length + 1) ≠ [] := fun h => by rw [h] at htm; cases htm
   have ht1 := (mn_mem htne).2 _ htm
   have ht2 := (mx_mem htne).2 _ htm
   have hbf := hff w hw
   have hal : ∀ i, i < R.length → (natL (alwR R C R.length))[i]? = some (I64 (alwB R C i)) := fun i hi => by simp [alwR, hi]
   have hne : ∀ i, i < R.length → (natL (nevR R C R.length))[i]? = some (I64 (nevB R C i)) := fun i hi => by simp [nevR, hi]
   have hal2 : ∀ i, i < R.length → alwB R C i &&& w.getD i 0 = alwB R C i := fun i hi => alw_and hw hi
   have hne2 : ∀ i, i < R.length → nevB R C i &&& w.getD i 0 = 0 := fun i hi => nev_and hw hi
   have hal3 : ∀ i, alwB R C i < 32 := fun i => sumBits_le _ h6
   have hne3 : ∀ i, nevB R C i < 32 := fun i => sumBits_le _ h6
   have la := alwR_len R C R.length
   have ln := nevR_len R C R.length
   have za := fun n => natL_lt n (alwR R C R.length)
   have zn := fun n => natL_lt n (nevR R C R.length)
   have sa : (MV.sl (natL (alwR R C R.length))).slen = some R.length := by simp [MV.slen, la]
   have sn : (MV.sl (natL (nevR R C R.length))).slen = some R.length := by simp [MV.slen, ln]
   generalize alwR R C R.length = AL at *
   generalize nevR R C R.length = NE at *
   generalize mnL (volL R C) = v1 at *
   generalize mxL (volL R C) = v2 at *
   generalize mnL (topsI R C (R.length + 1)) = t1 at *
   generalize mxL (topsI R C (R.length + 1)) = t2 at *
   have wi := fun h => Within_c 13 (volS w) v1 v2 h (t := true) (inB_iff.2 ⟨hv1, hv2⟩)
   have wi2 := fun h => Within_c 13 (topW w) t1 t2 h (t := true) (inB_iff.2 ⟨ht1, ht2⟩)
   have be := fun h v hv => Before_c 13 w fb h (v := .sl (natL w)) (w := v) (by omega) (by omega) (by rw [← natI_map]; exact frz_sl (I64_lt 0 _)) hv hbf
   rw [hcb] at ck
   simp only [natI_map, List.length_map] at ci ck hs3 h1 hp
   clear hcb hff hfc hfb hvm htm hvne htne
   generalize volS w = vw at *
   rw [natI_map]
   repeat (first | apply ef_seq | (apply ef_mv; exact rfl; exact rfl) | (apply ef_bin; (iterate 3 exact rfl); (exact cmp_f rfl (by simp only [cmpP]; omega))) | (apply ef_gy; exact rfl; (exact (rfl : false = false))) | (apply ef_pick; (iterate 3 exact rfl)) | (apply ef_len; exact rfl; exact rfl; (assumption)) | (apply ef_ldp; exact rfl; exact rfl; (exact rfl); exact rfl; (exact rfl); (first | exact rd_2 rfl rfl | exact rfl)) | (apply ef_fap; exact rfl; exact rfl) | (apply ef_notT; exact rfl; exact rfl) | (apply ef_ext; (iterate 3 exact rfl)) | (apply ef_box; (iterate 4 exact rfl)) | apply ef_nil | apply seqQ.normal | apply ef_skip | (apply ef_condf; exact rfl; (exact (rfl : false = false))) | (apply ef_call; exact rfl; ((repeat (apply XVs.cons; exact rfl)); exact XVs.nil); (with_reducible first | exact awake_c _ | exact se _ | exact cs _ | exact bo _)))
   repeat (first | (apply ef_call; exact rfl; ((repeat (apply XVs.cons; exact rfl)); exact XVs.nil); (with_reducible exact ci _)))
   (apply ef_call; (· exact rfl); (· ((repeat (apply XVs.cons; exact rfl)); exact XVs.nil)); · exact ck _ _ (frz_arrg rfl (by simp) (natL_lt 0 w)))
   repeat (first | apply ef_seq | (apply ef_mv; exact rfl; exact rfl) | (apply ef_bin; (iterate 3 exact rfl); (exact cmp_f rfl (by simp only [cmpP]; omega))) | (apply ef_ldp; exact rfl; exact rfl; (exact rfl); exact rfl; (exact rfl); (exact rd_2 rfl rfl)) | (apply ef_ext; (iterate 3 exact rfl)) | apply ef_nil | apply seqQ.normal | apply ef_skip | (apply ef_condf; exact rfl; (exact (rfl : false = false))) | (apply ef_call; exact rfl; ((repeat (apply XVs.cons; exact rfl)); exact XVs.nil); (with_reducible exact cs _)))
   (apply ef_call; (· exact rfl); (· ((repeat (apply XVs.cons; exact rfl)); exact XVs.nil)); · exact ci2 _ _ (frz_arrg rfl (by simp) (nl 0)))
   repeat (fail)
   (apply ef_call; (· exact rfl); (· ((repeat (apply XVs.cons; exact rfl)); exact XVs.nil)); · exact ck2 _ _ (frz_arrg rfl (by simp) (nl 0)))
   repeat (first | apply ef_seq | (apply ef_mv; exact rfl; exact rfl) | (apply ef_bin; (iterate 3 exact rfl); (first | exact cmp_t rfl (by first | exact rfl | (simp only [cmpP]; omega)) | exact cmp_f rfl (by simp only [cmpP]; omega))) | (apply ef_gy; exact rfl; (exact (rfl : false = false))) | (apply ef_pick; (iterate 3 exact rfl)) | (apply ef_len; exact rfl; exact rfl; (first | assumption | exact rfl)) | (apply ef_ldp; exact rfl; exact rfl; (exact rfl); exact rfl; (exact rfl); (first | exact rd_2 rfl rfl | exact rfl)) | (apply ef_fap; exact rfl; exact rfl) | (apply ef_ext; (iterate 3 exact rfl)) | (apply ef_newst; (iterate 3 exact rfl); (exact rfl); exact rfl) | apply ef_nil | apply seqQ.normal | apply ef_skip | (apply ef_condt; exact rfl; (exact (rfl : true = true))) | (apply ef_condf; exact rfl; (exact (rfl : false = false))) | (apply ef_call; exact rfl; ((repeat (apply XVs.cons; exact rfl)); exact XVs.nil); (with_reducible first | exact cs _ | exact vo _ | exact tp0 _ | exact ce _)))
   (apply ef_call; (· exact rfl); (· ((repeat (apply XVs.cons; exact rfl)); exact XVs.nil)); · exact be _ _ (by rw [← natI_map]; exact frz_arrg rfl (by simp) (I64_lt 0 _)))
   repeat (first | apply ef_seq | (apply ef_mv; exact rfl; exact rfl) | (apply ef_bin; (iterate 3 exact rfl); (((with_reducible refine bin_sub (wrap_of ?_ ?_)) <;> omega))) | (apply ef_gy; exact rfl; (exact (rfl : false = false))) | (apply ef_pick; (iterate 3 exact rfl)) | (apply ef_len; exact rfl; exact rfl; (assumption)) | (apply ef_ldp; exact rfl; exact rfl; (exact rfl); exact rfl; (exact rfl); (exact rfl)) | (apply ef_fap; exact rfl; exact rfl) | (apply ef_notT; exact rfl; exact rfl) | apply ef_nil | apply seqQ.normal | apply ef_block | apply ef_skip | (apply ef_condf; exact rfl; (exact (rfl : false = false))) | (apply ef_call; exact rfl; ((repeat (apply XVs.cons; exact rfl)); exact XVs.nil); (with_reducible exact wi _)))
   have se2 : hltL 7 [(⟨0, false, 2, [encS R C]⟩ : MObj), ⟨0, false, 1, natL fb⟩, ⟨0, false, 1, natL w⟩, ⟨0, false, 1, natL fb⟩, ⟨0, false, 2, [encP (v1, v2)]⟩, ⟨0, false, 2, [encP (t1, t2)]⟩, ⟨0, false, 2, [.agg [.sl (natL AL), .sl (natL NE)]]⟩] = true := by
    simp [hltL, ltL, MV.lt, encP_lt, natL_lt]
   refine ef_loopg (α := Nat × Nat) (fun a => a.1 ≤ R.length ∧ a.2 = a.1 + topW (w.drop a.1)) (fun a => [(18, I64 ((a.1 : Int) - 1)), (17, I64 (a.2 : Int))]) [(1, .sl (natL w)), (15, .ptr 6 0 0 0), (13, .ptr 5 0 0 0), (2, .ptr 0 0 0 0)] (fun _ => [⟨0, false, 2, [encS R C]⟩, ⟨0, false, 1, natL fb⟩, ⟨0, false, 1, natL w⟩, ⟨0, false, 1, natL fb⟩, ⟨0, false, 2, [encP (v1, v2)]⟩, ⟨0, false, 2, [encP (t1, t2)]⟩, ⟨0, false, 2, [.agg [.sl (natL AL), .sl (natL NE)]]⟩]) (fun a => a.1) (R.length, R.length) [18, 17] (fun _ => rfl) (by rw [← h1]; ((repeat (refine Hold.cons (by exact rfl) ?_)); exact Hold.nil)) (by ((repeat (refine Hold.cons (by exact rfl) ?_)); exact Hold.nil)) rfl rfl rfl ⟨Nat.le_refl _, by rw [List.drop_eq_nil_of_le (by omega)]; rfl⟩ (by simp; omega) ?_
   rintro ⟨r, tp⟩ ⟨hr, htp⟩
   simp only at hr htp
   by_cases hr0 : 0 < r
   ·obtain ⟨i, rfl⟩ : ∃ i, r = i + 1 := ⟨r - 1, by omega⟩
    have hil : i < w.length := by omega
    have g1 := hal i (by omega)
    have g2 := hne i (by omega)
    have g3 : (natL w)[i]? = some (I64 (w.getD i 0)) := by simp [List.getD_eq_getElem?_getD, hil]
    have g4 := hlt (w.getD i 0) (by rw [List.getD_eq_getElem?_getD, List.getElem?_eq_getElem hil]; simp)
    have a1 := and_i64 (alwB R C i) (w.getD i 0) (by have := hal3 i; omega) (by omega)
    have a2 := and_i64 (nevB R C i) (w.getD i 0) (by have := hne3 i; omega) (by omega)
    rw [hal2 i (by omega)] at a1
    rw [hne2 i (by omega)] at a2
    have htd := topW_drop hil
    have hii : (((i + 1 : Nat) : Int) - 1) = (i : Int) := by omega
    have hin : ((i : Nat) : Int).toNat = i := Int.toNat_natCast i
    generalize w.getD i 0 = x at *
    generalize alwB R C i = al at *
    generalize nevB R C i = nv at *
    simp only [hii]
    have g1' : (natL AL)[((i : Nat) : Int).toNat]? = some (I64 al) := by rw [hin]; exact g1
    have g2' : (natL NE)[((i : Nat) : Int).toNat]? = some (I64 nv) := by rw [hin]; exact g2
    have g3' : (natL w)[((i : Nat) : Int).toNat]? = some (I64 x) := by rw [hin]; exact g3
    have HT := Lib.hid htp
    have HD := Lib.hid htd
    clear htp htd g1 g2 g3 hal hne hal2 hne2 hal3 hne3
    by_cases hx : x = 0
    ·subst hx
     repeat (first | apply ef_seq | (apply ef_mv; exact rfl; exact rfl) | (apply ef_bin; (iterate 3 exact rfl); (first | assumption | exact cmp_t rfl (by first | exact rfl | (simp only [cmpP]; omega)) | exact cmp_f rfl (by simp only [cmpP]; omega) | ((with_reducible refine bin_sub (wrap_of ?_ ?_)) <;> omega))) | (apply ef_gy; exact rfl; (exact (rfl : false = false))) | (apply ef_pick; (iterate 3 exact rfl)) | (apply ef_ldr; exact rfl; exact rfl; (exact rfl)) | (apply ef_ldp; exact rfl; exact rfl; (exact rfl); exact rfl; (exact rfl); (exact rfl)) | (apply ef_ias; (iterate 3 exact rfl); (omega); assumption; exact rfl) | (apply ef_fap; exact rfl; exact rfl) | apply ef_nil | apply seqQ.normal | apply blockQ.normal | apply ef_block | apply ef_skip | (apply ef_condt; exact rfl; (exact (rfl : true = true))) | (apply ef_condf; exact rfl; (exact (rfl : false = false))))
     (refine loopQ.normal _ _ ⟨(i, tp), ⟨by omega, by rw [HT.out, HD.out, if_pos rfl]; omega⟩, (by first | (simp only; omega) | omega), ⟨by ((repeat (refine Hold.cons (by exact rfl) ?_)); exact Hold.nil), by ((repeat (refine Hold.cons (by exact rfl) ?_)); exact Hold.nil)⟩, .all (by first | exact Nat.le_refl _ | (simp; done) | (simp; omega))⟩)
    ·repeat (first | apply ef_seq | (apply ef_mv; exact rfl; exact rfl) | (apply ef_bin; (iterate 3 exact rfl); (first | assumption | exact cmp_t rfl (by first | exact rfl | (simp only [cmpP]; omega)) | exact cmp_f rfl (by simp only [cmpP]; omega) | ((with_reducible refine bin_sub (wrap_of ?_ ?_)) <;> omega))) | (apply ef_gy; exact rfl; (exact (rfl : false = false))) | (apply ef_pick; (iterate 3 exact rfl)) | (apply ef_ldr; exact rfl; exact rfl; (exact rfl)) | (apply ef_ldp; exact rfl; exact rfl; (exact rfl); exact rfl; (exact rfl); (exact rfl)) | (apply ef_ias; (iterate 3 exact rfl); (omega); assumption; exact rfl) | (apply ef_fap; exact rfl; exact rfl) | apply ef_nil | apply seqQ.normal | apply blockQ.normal | apply ef_block | apply ef_skip | (apply ef_condt; exact rfl; (exact (rfl : true = true))) | (apply ef_condf; exact rfl; (exact (rfl : false = false))))
     (refine loopQ.normal _ _ ⟨(i, i), ⟨by omega, by rw [HD.out, if_neg hx]; rfl⟩, (by first | (simp only; omega) | omega), ⟨by ((repeat (refine Hold.cons (by exact rfl) ?_)); exact Hold.nil), by ((repeat (refine Hold.cons (by exact rfl) ?_)); exact Hold.nil)⟩, .all (by first | exact Nat.le_refl _ | (simp; done) | (simp; omega))⟩)
   ·obtain rfl : r = 0 := by omega
    rw [List.drop_zero, Nat.zero_add] at htp
    subst htp
    repeat (first | apply ef_seq | (apply ef_mv; exact rfl; exact rfl) | (apply ef_bin; (iterate 3 exact rfl); (exact cmp_f rfl (by simp only [cmpP]; omega))) | (apply ef_ldp; exact rfl; exact rfl; (exact rfl); exact rfl; (exact rfl); (exact rfl)) | (apply ef_fap; exact rfl; exact rfl) | (apply ef_notT; exact rfl; exact rfl) | apply ef_nil | apply seqQ.normal | apply loopQ.exit | apply ef_exit | apply seqQ.exit | apply blockQ.here | apply ef_skip | (apply ef_condf; exact rfl; (exact (rfl : false = false))) | (apply ef_call; exact rfl; ((repeat (apply XVs.cons; exact rfl)); exact XVs.nil); (with_reducible exact wi2 _)))
    exact ef_weak (by ((repeat (refine Hold.cons (by exact rfl) ?_)); exact Hold.nil)) (hp.out _ hv h1 rfl se2)
end Go.Proofs.YtnmgpbihknjdjaaGreatDoor

/- TargetEveryBody: the walk, second part. -/
namespace Go.Proofs.YtnmgpbihknjdjaaGreatDoor
open Go.RowKit
set_option linter.unusedVariables false
def colsL (n : Nat) (p : List Nat) (s c : Nat) : List MV := (List.range n).map fun k => encP (colS p k + (if k < c then bitI s k else 0), colS p k + (if k < c then bitI s k else 0))
theorem colsL_len (n : Nat) (p : List Nat) (s c : Nat) : (colsL n p s c).length = n := by simp [colsL]
theorem colsL_set {n : Nat} {p : List Nat} {s c : Nat} (h : c < n) (hb : bitI s c = 1) : (colsL n p s c).set c (encP (colS p c + 1, colS p c + 1)) = colsL n p s (c + 1) := by
 refine List.ext_getElem? fun k => ?_
 rw [List.getElem?_set]
 by_cases e : c = k
 ·subst e
  rw [if_pos rfl, if_pos (by rw [colsL_len]; exact h)]
  simp [colsL, h, hb]
 ·rw [if_neg e]
  by_cases hk : k < n
  ·have : (k < c) ↔ (k < c + 1) := by omega
   simp [colsL, hk, this]
  ·rw [List.getElem?_eq_none (by rw [colsL_len]; omega), List.getElem?_eq_none (by rw [colsL_len]; omega)]
theorem colsL_skip {n : Nat} {p : List Nat} {s c : Nat} (hb : bitI s c = 0) : colsL n p s c = colsL n p s (c + 1) := by
 unfold colsL
 refine List.map_congr_left fun k _ => ?_
 by_cases e : k = c
 ·subst e; simp [hb]
 ·have : (k < c) ↔ (k < c + 1) := by omega
  simp [this]
theorem colsL_end {n : Nat} {p : List Nat} {s : Nat} : colsL n p s n = colsL n (p ++ [s]) 0 0 := by
 unfold colsL
 refine List.map_congr_left fun k hk => ?_
 rw [List.mem_range] at hk
 rw [if_pos hk, if_neg (by omega), colS_app]
 simp [colS]
theorem colsL_any {n : Nat} {p : List Nat} (s t : Nat) : colsL n p s 0 = colsL n p t 0 := by simp [colsL]
theorem colsL_ex {n : Nat} {p : List Nat} : colsL n p 0 0 = (exC n p).map encP := by
 unfold colsL exC
 rw [List.map_map]
 exact List.map_congr_left fun k _ => by simp
theorem colsL_nil (n : Nat) : colsL n [] 0 0 = List.replicate n (encP (0, 0)) := by
 refine List.ext_getElem? fun k => ?_
 by_cases hk : k < n <;> simp [colsL, colS, hk]
def cntB (s : Nat) : Nat → Int
 | 0 => 0
 | c + 1 => cntB s c + bitI s c
theorem cntB_le (s : Nat) : ∀ c, 0 ≤ cntB s c ∧ cntB s c ≤ c
 | 0 => by simp [cntB]
 | c + 1 => by
  have h1 := cntB_le s c
  have h2 := bitI_le s c
  simp only [cntB]
  omega
theorem cntB_pc {n : Nat} (hn : n ≤ 5) {s : Nat} (hs : s < 2 ^ n) : cntB s n = pc s := by
 have h : ∀ k, n ≤ k → k < 5 → bitI s k = 0 := fun k hk h5 => hi_bit n (by omega) s (lt_pow5 hn hs) hs k h5 hk
 rw [← bits_sum s (lt_pow5 hn hs)]
 match n, hn, h with
 | 0, _, h => simp [cntB, h 0 (by omega) (by omega), h 1 (by omega) (by omega), h 2 (by omega) (by omega), h 3 (by omega) (by omega), h 4 (by omega) (by omega)]
 | 1, _, h => simp [cntB, h 1 (by omega) (by omega), h 2 (by omega) (by omega), h 3 (by omega) (by omega), h 4 (by omega) (by omega)]
 | 2, _, h => simp [cntB, h 2 (by omega) (by omega), h 3 (by omega) (by omega), h 4 (by omega) (by omega)]
 | 3, _, h => simp [cntB, h 3 (by omega) (by omega), h 4 (by omega) (by omega)]
 | 4, _, h => simp [cntB, h 4 (by omega) (by omega)]
 | 5, _, h => simp [cntB]
 | n + 6, hn, _ => omega
def memX (M : MHeap) (n : Nat) (cols : List MV) (rv : MV) (G : MHeap) : MHeap := M ++ (⟨0, false, 2, cols⟩ :: ⟨0, false, 2, [.agg [rv, .arr M.length 0 n 0]]⟩ :: G)
theorem memX_0 (M : MHeap) (n : Nat) (cols : List MV) (rv : MV) (G : MHeap) : (memX M n cols rv G)[M.length]? = some ⟨0, false, 2, cols⟩ := by simp [memX]
theorem memX_1 (M : MHeap) (n : Nat) (cols : List MV) (rv : MV) (G : MHeap) : (memX M n cols rv G)[M.length + 1]? = some ⟨0, false, 2, [.agg [rv, .arr M.length 0 n 0]]⟩ := by
 unfold memX; rw [List.getElem?_append_right (by omega)]; simp
theorem memX_at {M : MHeap} {i : Nat} {o : MObj} (h : M[i]? = some o) (n : Nat) (cols : List MV) (rv : MV) (G : MHeap) : (memX M n cols rv G)[i]? = some o := by
 unfold memX; rw [List.getElem?_append_left (List.getElem?_eq_some_iff.1 h).1, h]
theorem memX_set (M : MHeap) (n : Nat) (cols : List MV) (rv : MV) (G : MHeap) (cols' : List MV) : (memX M n cols rv G).set M.length ⟨0, false, 2, cols'⟩ = memX M n cols' rv G := by
 unfold memX; rw [List.set_append_right _ _ (Nat.le_refl _)]; simp
theorem memX_push (M : MHeap) (n : Nat) (cols : List MV) (rv : MV) (G Y : MHeap) : memX M n cols rv G ++ Y = memX M n cols rv (G ++ Y) := by simp [memX]
theorem memX_len (M : MHeap) (n : Nat) (cols : List MV) (rv : MV) (G : MHeap) : (memX M n cols rv G).length = M.length + 2 + G.length := by simp [memX]; omega
theorem memX_cell (M : MHeap) (n : Nat) (cols : List MV) (rv rv' : MV) (G : MHeap) : (memX M n cols rv G).set (M.length + 1) ⟨0, false, 2, [.agg [rv', .arr M.length 0 n 0]]⟩ = memX M n cols rv' G := by
 unfold memX; rw [List.set_append_right _ _ (by omega)]; simp
theorem memX_G (M : MHeap) (n : Nat) (cols : List MV) (rv : MV) (G : MHeap) (j : Nat) : (memX M n cols rv G)[M.length + 2 + j]? = G[j]? := by
 unfold memX; rw [List.getElem?_append_right (by omega), show M.length + 2 + j - M.length = j + 1 + 1 by omega]; simp
theorem memX_setG (M : MHeap) (n : Nat) (cols : List MV) (rv : MV) (G : MHeap) (j : Nat) (o : MObj) : (memX M n cols rv G).set (M.length + 2 + j) o = memX M n cols rv (G.set j o) := by
 unfold memX; rw [List.set_append_right _ _ (by omega), show M.length + 2 + j - M.length = j + 1 + 1 by omega]; simp
theorem HeadIs.cellE {keep : List Nat} {m : Nat} {A : Sl} {h h1 : MHeap} (e : h = h1) (hc : hltL m (h1.take m) = false) : HeadIs keep m A h h1 := by
 subst e; exact .cell hc
theorem HeadIs.allE {keep : List Nat} {m : Nat} {A : Sl} {h h1 : MHeap} (e : h = h1) (hc : h1.length ≤ m) : HeadIs keep m A h h1 := by
 subst e; exact .all hc
theorem elems_one (H : MHeap) (e : MV) (sz : Nat) : (MV.arr H.length 0 1 0).elems (H ++ [⟨0, false, sz, [e]⟩]) = some [e] := by simp only [MV.elems, at_endC]; rfl
theorem seal_S {H : MHeap} {j a b na nb ga gb : Nat} {la lb : Bool} {ea eb : List MV} (hj : H[j]? = some ⟨0, false, 2, [.agg [.arr a 0 na ga, .arr b 0 nb gb]]⟩) (ha : H[a]? = some ⟨ga, la, 2, ea⟩) (hb : H[b]? = some ⟨gb, lb, 2, eb⟩) (hna : na = ea.length) (hnb : nb = eb.length) (hea : ltL 0 ea = true) (heb : ltL 0 eb = true) (haj : a ≠ j) (hbj : b ≠ j) :
  ∃ H', sealH (fun _ => false) H (.ptr j 0 0 0) = some H' ∧ H'[j]? = some ⟨0, false, 2, [.agg [.sl ea, .sl eb]]⟩ ∧ ∀ i, i ≠ j → i ≠ a → i ≠ b → H'[i]? = H[i]? := by
 have ids : [MV.agg [.arr a 0 na ga, .arr b 0 nb gb]].flatMap (MV.ids H 6) = [a, b] := by
  have h1 : ea.flatMap (MV.ids H 4) = [] := idsL_lt0 hea
  have h2 : eb.flatMap (MV.ids H 4) = [] := idsL_lt0 heb
  have e1 : [MV.agg [.arr a 0 na ga, .arr b 0 nb gb]].flatMap (MV.ids H 6) = ((a :: (match H[a]? with | some o => o.es.flatMap (MV.ids H 4) | none => [])) ++ ((b :: (match H[b]? with | some o => o.es.flatMap (MV.ids H 4) | none => [])) ++ [])) ++ [] := rfl
  rw [e1, ha, hb]
  dsimp only
  rw [h1, h2]; rfl
 have himp : ∀ i, i ∈ [a, b] → (j :: (List.range H.length).filter fun i => ![a, b].contains i).contains i = false := fun i hi => by
  rw [Bool.eq_false_iff]
  intro hc
  simp only [List.contains_iff_mem, List.mem_cons, List.mem_filter] at hc hi
  rcases hc with rfl | hc
  ·rcases hi with rfl | rfl | hi
   ·exact haj rfl
   ·exact hbj rfl
   ·cases hi
  ·have := hc.2
   rcases hi with rfl | rfl | hi
   ·simp at this
   ·simp at this
   ·cases hi
 have ka : ea.take na = ea := List.take_of_length_le (by omega)
 have kb : eb.take nb = eb := List.take_of_length_le (by omega)
 have hf : frz 0 (j :: (List.range H.length).filter fun i => ![a, b].contains i) H 8 (.agg [.arr a 0 na ga, .arr b 0 nb gb]) = some (.agg [.sl ea, .sl eb]) := by
  have i1 := himp a (by simp)
  have i2 := himp b (by simp)
  have fa : frz 0 (j :: (List.range H.length).filter fun i => ![a, b].contains i) H 7 (.arr a 0 na ga) = some (.sl ea) := by
   simp only [frz, MV.lt, Nat.not_lt_zero, decide_false, Bool.false_eq_true, if_false, i1, ha]
   simp only [hea, if_true, List.drop_zero, ka]
   simp; omega
  have fb : frz 0 (j :: (List.range H.length).filter fun i => ![a, b].contains i) H 7 (.arr b 0 nb gb) = some (.sl eb) := by
   simp only [frz, MV.lt, Nat.not_lt_zero, decide_false, Bool.false_eq_true, if_false, i2, hb]
   simp only [heb, if_true, List.drop_zero, kb]
   simp; omega
  have e8 : frz 0 (j :: (List.range H.length).filter fun i => ![a, b].contains i) H 8 (.agg [.arr a 0 na ga, .arr b 0 nb gb]) = ([MV.arr a 0 na ga, .arr b 0 nb gb].mapM (frz 0 (j :: (List.range H.length).filter fun i => ![a, b].contains i) H 7)).map .agg := by
   have : (MV.agg [.arr a 0 na ga, .arr b 0 nb gb]).lt 0 = false := by simp [MV.lt, ltL]
   conv => lhs; unfold frz
   rw [this]
   rfl
  rw [e8]
  simp only [List.mapM_cons, List.mapM_nil, fa, fb]; rfl
 refine ⟨(H.mapIdx fun i p => if [a, b].contains i then ⟨p.g + 1, p.nl, p.sz, []⟩ else p).set j ⟨0, false, 2, [.agg [.sl ea, .sl eb]]⟩, ?_, ?_, fun i h1 h2 h3 => ?_⟩
 ·unfold sealH
  simp only [hj, ids, List.mapM_cons, List.mapM_nil, hf]
  have hc : ([a, b].all (fun i => !false && i != j) && !false) = true := by simp [haj, hbj]
  simp only [Option.pure_def, Option.bind_eq_bind, Option.bind_some, hc, if_true]
 ·rw [List.getElem?_set_self (by simpa using (List.getElem?_eq_some_iff.1 hj).1)]
 ·rw [List.getElem?_set_ne (Ne.symm h1), List.getElem?_mapIdx]
  cases H[i]? with
  | none => rfl
  | some o => simp [h2, h3]
inductive RowsX (M : MHeap) (w : List Nat) : Nat → MV → MHeap → Prop
 | zero : RowsX M w 0 nilM []
 | succ (i : Nat) (g : MV) (G : MHeap) : RowsX M w (i + 1) (.arr (M.length + 3) 0 (i + 1) i) (⟨0, false, 2, [g]⟩ :: ⟨i, false, 2, (exR (w.take (i + 1))).map encP⟩ :: G)
set_option maxHeartbeats 4000000 in
set_option maxRecDepth 4000 in
theorem EveryBody_p2 (R C : List (Int × Int)) (b : List Int) (M : MHeap) (hv : ValS R C) (hb : b.length = R.length) (m0 : M[0]? = some ⟨0, false, 2, [encS R C]⟩) (hcl : hltL M.length M = true) : EfEB 8 [(1, .sl (b.map I64)), (2, .ptr 0 0 0 0)] M := by
 unfold EfEB
 dsimp only [bodyEB, MC.rest]
 have h5 := hv.r5
 have h6 := hv.c5
 have h7 := hv.r1
 have h8 := hv.c1
 have hs2 : (MV.sl (C.map encP)).slen = some C.length := by simp [MV.slen]
 have hs3 : (MV.sl (b.map I64)).slen = some b.length := by simp [MV.slen]
 obtain ⟨nC, hnC⟩ : ∃ nC, nC = C.length := ⟨_, rfl⟩
 rw [← hnC] at hs2 h6 h8
 obtain ⟨w, hw⟩ : ∃ w : List Nat, w = b.map fun x => (x % ((2 ^ nC : Nat) : Int)).toNat := ⟨_, rfl⟩
 have hwl : w.length = b.length := by rw [hw, List.length_map]
 have hpw := pow_le5 nC h6
 have hpp : 0 < 2 ^ nC := Nat.pow_pos (by decide)
 have hwlt : ∀ s ∈ w, s < 2 ^ nC := fun s hs => by
  rw [hw, List.mem_map] at hs
  obtain ⟨x, _, rfl⟩ := hs
  have h1 := Int.emod_nonneg x (show ((2 ^ nC : Nat) : Int) ≠ 0 by omega)
  have h2 := Int.emod_lt_of_pos x (show 0 < ((2 ^ nC : Nat) : Int) by omega)
  omega
 have hsh := shl_n nC h6
 have hMl : ∀ o : MObj, (M ++ [o]).length = M.length + 1 := fun o => by simp
 repeat (first | apply ef_seq | (apply ef_mv; exact rfl; exact rfl) | (apply ef_len; exact rfl; exact rfl; (assumption)) | (apply ef_ldp; exact rfl; exact rfl; (assumption); exact rfl; (exact rfl); (exact rfl)) | (apply ef_fap; exact rfl; exact rfl) | (apply ef_newst; (iterate 3 exact rfl); (exact rfl); exact rfl) | (apply ef_build; exact rfl; (repeat (apply XVs.cons; exact rfl)); exact XVs.nil; exact rfl; exact rfl) | (apply ef_mks; exact rfl; exact rfl; (omega); (omega)) | apply ef_nil | apply seqQ.normal | apply ef_block)
 rw [hMl]
 refine ef_loopg (α := Nat × MV × MHeap) (fun a => a.1 ≤ b.length ∧ RowsX M w a.1 a.2.1 a.2.2) (fun a => [(20, I64 (a.1 : Int))]) [(1, .sl (b.map I64)), (2, .ptr 0 0 0 0), (19, .ptr (M.length + 1) 0 0 0)] (fun a => memX M nC (colsL nC (w.take a.1) 0 0) a.2.1 a.2.2) (fun a => b.length - a.1) (0, nilM, []) [20] (fun _ => rfl) (by ((repeat (refine Hold.cons (by exact rfl) ?_)); exact Hold.nil)) (by ((repeat (refine Hold.cons (by exact rfl) ?_)); exact Hold.nil)) rfl rfl ?_ ⟨Nat.zero_le _, .zero⟩ (by simp; omega) ?_
 ·show memX M nC (colsL nC [] 0 0) nilM [] = _
  rw [colsL_nil]
  unfold memX
  rw [List.append_assoc]
  rfl
 rintro ⟨i, rv, G⟩ ⟨hi, hG⟩
 simp only at hi hG
 by_cases hlt : i < b.length
 ·obtain ⟨x, hx⟩ : ∃ x, b[i]? = some x := ⟨b[i], by simp [hlt]⟩
  have e1 : (b.map I64)[((i : Nat) : Int).toNat]? = some (I64 x) := by rw [Int.toNat_natCast, List.getElem?_map, hx]; rfl
  have hmod := fun h => bMod_c 13 x ((2 ^ nC : Nat) : Int) h (by omega) (by omega)
  have hws : w[i]? = some (x % ((2 ^ nC : Nat) : Int)).toNat := by rw [hw, List.getElem?_map, hx]; rfl
  have h1 := Int.emod_nonneg x (show ((2 ^ nC : Nat) : Int) ≠ 0 by omega)
  have h2 := Int.emod_lt_of_pos x (show 0 < ((2 ^ nC : Nat) : Int) by omega)
  obtain ⟨s, hs⟩ : ∃ s : Nat, x % ((2 ^ nC : Nat) : Int) = (s : Int) := ⟨(x % ((2 ^ nC : Nat) : Int)).toNat, by omega⟩
  rw [hs] at hmod hws h2
  rw [Int.toNat_natCast] at hws
  have hs2' : s < 2 ^ nC := by omega
  have htk : w.take (i + 1) = w.take i ++ [s] := by rw [List.take_add_one, hws]; rfl
  have hH0 := memX_at m0 nC (colsL nC (w.take i) 0 0) rv G
  have hH1 := memX_1 M nC (colsL nC (w.take i) 0 0) rv G
  have hH2 := memX_0 M nC (colsL nC (w.take i) 0 0) rv G
  clear hx hs h1 h2
  repeat (first | apply ef_seq | (apply ef_mv; exact rfl; exact rfl) | (apply ef_bin; (iterate 3 exact rfl); (exact cmp_t rfl (by first | exact rfl | (simp only [cmpP]; omega)))) | (apply ef_len; exact rfl; exact rfl; (assumption)) | (apply ef_ldr; exact rfl; exact rfl; (exact rfl)) | (apply ef_ldp; exact rfl; exact rfl; (assumption); exact rfl; (exact rfl); (exact rfl)) | (apply ef_ias; (iterate 3 exact rfl); (omega); assumption; exact rfl) | (apply ef_fap; exact rfl; exact rfl) | (apply ef_shf; (iterate 3 exact rfl); (assumption)) | apply ef_nil | apply seqQ.normal | apply ef_block | apply ef_skip | (apply ef_condt; exact rfl; (exact (rfl : true = true))) | (apply ef_call; exact rfl; ((repeat (apply XVs.cons; exact rfl)); exact XVs.nil); (with_reducible exact hmod _)))
  refine ef_loopg (α := Nat × Int × List MV) (fun a => a.1 ≤ nC ∧ a.2.1 = cntB s a.1 ∧ a.2.2 = colsL nC (w.take i) s a.1) (fun a => [(23, I64 (a.1 : Int)), (22, I64 a.2.1)]) [(2, .ptr 0 0 0 0), (21, I64 (s : Int)), (19, .ptr (M.length + 1) 0 0 0), (20, I64 (i : Int)), (1, .sl (b.map I64))] (fun a => memX M nC a.2.2 rv G) (fun a => nC - a.1) (0, 0, colsL nC (w.take i) 0 0) [23, 22] (fun _ => rfl) (by ((repeat (refine Hold.cons (by exact rfl) ?_)); exact Hold.nil)) (by ((repeat (refine Hold.cons (by exact rfl) ?_)); exact Hold.nil)) rfl rfl rfl ⟨Nat.zero_le _, rfl, colsL_any _ _⟩ (by simp; omega) ?_
  rintro ⟨c, cnt, cols⟩ ⟨hc, hcnt, hcols⟩
  simp only at hc hcnt hcols
  show Ef _ _ _ _ _ _ [(23, I64 (c : Int)), (22, I64 cnt), (2, .ptr 0 0 0 0), (21, I64 (s : Int)), (19, .ptr (M.length + 1) 0 0 0), (20, I64 (i : Int)), (1, .sl (b.map I64))] (memX M nC cols rv G) _
  have gH0 := memX_at m0 nC cols rv G
  have gH1 := memX_1 M nC cols rv G
  have gH2 := memX_0 M nC cols rv G
  have hcb := cntB_le s c
  rw [← hcnt] at hcb
  by_cases hc2 : c < nC
  ·have g1 := shr_i64 (k := c) s (by omega)
   have g2 := bits_and_i64_1 (s / 2 ^ c) (by have := Nat.div_le_self s (2 ^ c); omega)
   have g3 : bitI s c = ((s / 2 ^ c % 2 : Nat) : Int) := rfl
   have g4 : s / 2 ^ c % 2 = 0 ∨ s / 2 ^ c % 2 = 1 := by omega
   have g5 : cols[((c : Nat) : Int).toNat]? = some (encP (colS (w.take i) c, colS (w.take i) c)) := by rw [Int.toNat_natCast, hcols]; simp [colsL, hc2]
   have g5' : cols[0 + ((c : Nat) : Int).toNat]? = some (encP (colS (w.take i) c, colS (w.take i) c)) := by rw [Nat.zero_add]; exact g5
   have gok := ok_of gH2 rfl rfl
   have g6 := colS_le (w.take i) c
   have g7 : (w.take i).length ≤ 5 := by rw [List.length_take]; omega
   have hcl2 : cols.length = nC := by rw [hcols, colsL_len]
   have CN := Lib.hid (show cntB s (c + 1) = cnt + bitI s c by rw [hcnt]; rfl)
   have CS := Lib.hid (fun h => colsL_set (n := nC) (p := w.take i) (s := s) hc2 h)
   have CK := Lib.hid (fun h => colsL_skip (n := nC) (p := w.take i) (s := s) (c := c) h)
   rw [← hcols] at CS CK
   clear hcnt hcols
   generalize colS (w.take i) c = y at *
   rcases g4 with g4 | g4 <;> rw [g4] at g2 g3
   ·have g3 : bitI s c = 0 := g3
    repeat (first | apply ef_seq | (apply ef_mv; exact rfl; exact rfl) | (apply ef_bin; (iterate 3 exact rfl); (first | assumption | exact cmp_t rfl (by first | exact rfl | (simp only [cmpP]; omega)) | exact cmp_f rfl (by simp only [cmpP]; omega) | ((with_reducible refine bin_add (wrap_of ?_ ?_)) <;> omega))) | (apply ef_len; exact rfl; exact rfl; (assumption)) | (apply ef_ldp; exact rfl; exact rfl; (assumption); exact rfl; (exact rfl); (exact rfl)) | (apply ef_fap; exact rfl; exact rfl) | (apply ef_shf; (iterate 3 exact rfl); (assumption)) | apply ef_nil | apply seqQ.normal | apply blockQ.normal | apply ef_block | apply ef_skip | (apply ef_condt; exact rfl; (exact (rfl : true = true))) | (apply ef_condf; exact rfl; (exact (rfl : false = false))))
    exact loopQ.normal _ _ ⟨(c + 1, cnt, cols), ⟨hc2, by show cnt = _; rw [CN.out, g3]; omega, CK.out g3⟩, (by first | (simp only; omega) | omega), ⟨by ((repeat (refine Hold.cons (by exact rfl) ?_)); exact Hold.nil), by ((repeat (refine Hold.cons (by exact rfl) ?_)); exact Hold.nil)⟩, .allE rfl (by rw [memX_len, memX_len]; exact Nat.le_refl _)⟩
   ·have g3 : bitI s c = 1 := g3
    repeat (first | apply ef_seq | (apply ef_mv; exact rfl; exact rfl) | (apply ef_bin; (iterate 3 exact rfl); (first | assumption | exact cmp_t rfl (by first | exact rfl | (simp only [cmpP]; omega)) | ((with_reducible refine bin_add (wrap_of ?_ ?_)) <;> omega))) | (apply ef_len; exact rfl; exact rfl; (assumption)) | (apply ef_ldp; exact rfl; exact rfl; (assumption); exact rfl; (first | exact rfl | assumption); (exact rfl)) | (apply ef_iaa; (iterate 3 exact rfl); (omega); (omega); (assumption)) | (apply ef_fap; exact rfl; exact rfl) | (apply ef_build; exact rfl; (repeat (apply XVs.cons; exact rfl)); exact XVs.nil; exact rfl; exact rfl) | (apply ef_shf; (iterate 3 exact rfl); (assumption)) | apply ef_nil | apply seqQ.normal | apply ef_block | apply ef_skip | (apply ef_condt; exact rfl; (exact (rfl : true = true))))
    (apply ef_st; (· exact rfl); (· exact rfl); (· exact rfl); (· exact gH2); (· exact rfl); (· exact rfl); (· exact g5'); (· exact rfl))
    repeat (first | (apply ef_mv; exact rfl; exact rfl) | (apply ef_bin; (iterate 3 exact rfl); (((with_reducible refine bin_add (wrap_of ?_ ?_)) <;> omega))) | apply ef_nil | apply seqQ.normal | apply blockQ.normal)
    have hcs : cols.set (0 + ((c : Nat) : Int).toNat) (encP (y + 1, y + 1)) = colsL nC (w.take i) s (c + 1) := by rw [Nat.zero_add, Int.toNat_natCast]; exact CS.out g3
    exact loopQ.normal _ _ ⟨(c + 1, cnt + 1, cols.set (0 + ((c : Nat) : Int).toNat) (encP (y + 1, y + 1))), ⟨hc2, by show cnt + 1 = _; rw [CN.out, g3], hcs⟩, (by first | (simp only; omega) | omega), ⟨by ((repeat (refine Hold.cons (by exact rfl) ?_)); exact Hold.nil), by ((repeat (refine Hold.cons (by exact rfl) ?_)); exact Hold.nil)⟩, .allE (memX_set M nC cols rv G _) (by rw [memX_len, memX_len]; exact Nat.le_refl _)⟩
  ·obtain rfl : c = nC := by omega
   have hcols2 : cols = colsL c (w.take (i + 1)) 0 0 := by rw [hcols, htk]; exact colsL_end
   have hpc : cnt = pc s := by rw [hcnt]; exact cntB_pc h6 hs2'
   have hex : exR (w.take (i + 1)) = exR (w.take i) ++ [(cnt, cnt)] := by rw [htk, hpc]; simp [exR]
   clear hcols hcnt
   cases hG with
   | zero =>
    repeat (first | apply ef_seq | (apply ef_mv; exact rfl; exact rfl) | (apply ef_bin; (iterate 3 exact rfl); (exact cmp_f rfl (by simp only [cmpP]; omega))) | (apply ef_len; exact rfl; exact rfl; (assumption)) | (apply ef_ldp; exact rfl; exact rfl; (assumption); exact rfl; (exact rfl); (exact rfl)) | (apply ef_fap; exact rfl; exact rfl) | (apply ef_build; exact rfl; (repeat (apply XVs.cons; exact rfl)); exact XVs.nil; exact rfl; exact rfl) | (apply ef_bsl; exact rfl; (repeat (apply XVs.cons; exact rfl)); exact XVs.nil; exact rfl) | apply ef_nil | apply seqQ.normal | apply loopQ.exit | apply ef_exit | apply seqQ.exit | apply blockQ.here | (apply ef_condf; exact rfl; (exact (rfl : false = false))))
    (apply ef_appn; (· exact rfl); (· exact rfl); (· exact rfl); (· exact elems_one _ _ _); (· simp); (· rfl))
    show Ef _ _ _ _ _ _ _ (memX M c cols nilM [] ++ [⟨0, false, 2, [encP (cnt, cnt)]⟩] ++ [⟨0, false, 2, [encP (cnt, cnt)]⟩]) _
    have ql : ∀ o : MObj, (memX M c cols nilM [] ++ [o]).length = M.length + 3 := fun o => by rw [memX_push, memX_len]; rfl
    rw [ql, memX_push, memX_push]
    have q1 := memX_1 M c cols nilM ([] ++ [⟨0, false, 2, [encP (cnt, cnt)]⟩] ++ [⟨0, false, 2, [encP (cnt, cnt)]⟩])
    repeat (first | (apply ef_fap; exact rfl; exact rfl))
    (apply ef_st; (· exact rfl); (· exact rfl); (· exact rfl); (· exact q1); (· exact rfl); (· exact rfl); (· exact rfl); (· exact rfl))
    repeat (first | (apply ef_mv; exact rfl; exact rfl) | (apply ef_bin; (iterate 3 exact rfl); (((with_reducible refine bin_add (wrap_of ?_ ?_)) <;> omega))) | apply ef_nil | apply seqQ.normal | apply blockQ.normal)
    refine loopQ.normal _ _ ⟨(1, .arr (M.length + 3) 0 1 0, [⟨0, false, 2, [encP (cnt, cnt)]⟩, ⟨0, false, 2, [encP (cnt, cnt)]⟩]), ⟨hlt, ?_⟩, by simp only; omega, ⟨by ((repeat (refine Hold.cons (by exact rfl) ?_)); exact Hold.nil), by ((repeat (refine Hold.cons (by exact rfl) ?_)); exact Hold.nil)⟩, ?_⟩
    ·have := RowsX.succ (M := M) (w := w) 0 (encP (cnt, cnt)) []
     rw [hex] at this
     exact this
    ·show HeadIs _ _ _ _ (memX M c (colsL c (w.take 1) 0 0) _ _)
     rw [← hcols2]
     refine .cellE (memX_cell M c cols nilM _ _) ?_
     refine hltL_no (j := M.length + 1) ?_ (memX_1 _ _ _ _ _) ?_
     ·simp
     ·show (ltL (M ++ [_] ++ [_]).length [.agg [.arr (M.length + 3) 0 1 0, .arr M.length 0 c 0]]) = false
      simp [ltL, MV.lt]
   | succ i g G =>
    have gG := memX_G M c cols (.arr (M.length + 3) 0 (i + 1) i) (⟨0, false, 2, [g]⟩ :: ⟨i, false, 2, (exR (w.take (i + 1))).map encP⟩ :: G ++ [⟨0, false, 2, [encP (cnt, cnt)]⟩]) 1
    have gs := memX_setG M c cols (.arr (M.length + 3) 0 (i + 1) i) (⟨0, false, 2, [g]⟩ :: ⟨i, false, 2, (exR (w.take (i + 1))).map encP⟩ :: G ++ [⟨0, false, 2, [encP (cnt, cnt)]⟩]) 1
    have hel : (exR (w.take (i + 1))).length = i + 1 := by simp [exR]; omega
    repeat (first | apply ef_seq | (apply ef_mv; exact rfl; exact rfl) | (apply ef_bin; (iterate 3 exact rfl); (exact cmp_f rfl (by simp only [cmpP]; omega))) | (apply ef_len; exact rfl; exact rfl; (assumption)) | (apply ef_ldp; exact rfl; exact rfl; (assumption); exact rfl; (exact rfl); (exact rfl)) | (apply ef_fap; exact rfl; exact rfl) | (apply ef_build; exact rfl; (repeat (apply XVs.cons; exact rfl)); exact XVs.nil; exact rfl; exact rfl) | (apply ef_bsl; exact rfl; (repeat (apply XVs.cons; exact rfl)); exact XVs.nil; exact rfl) | apply ef_nil | apply seqQ.normal | apply loopQ.exit | apply ef_exit | apply seqQ.exit | apply blockQ.here | (apply ef_condf; exact rfl; (exact (rfl : false = false))))
    (apply ef_app; (· exact rfl); (· exact rfl); (· exact rfl); (· exact elems_one _ _ _); (· rw [memX_push]; exact gG); (· exact rfl); (· simp [hel]); (· exact rfl); (· simp [hel]; omega); (· rfl); (· exact rfl))
    show Ef _ _ _ _ _ _ _ ((memX M c cols (.arr (M.length + 3) 0 (i + 1) i) (⟨0, false, 2, [g]⟩ :: ⟨i, false, 2, (exR (w.take (i + 1))).map encP⟩ :: G) ++ ([(⟨0, false, 2, [encP (cnt, cnt)]⟩ : MObj)] : MHeap)).set (M.length + 2 + 1) (⟨i + 1, false, 2, (exR (w.take (i + 1))).map encP ++ [encP (cnt, cnt)]⟩ : MObj)) _
    rw [memX_push, gs]
    have q1 := memX_1 M c cols (.arr (M.length + 3) 0 (i + 1) i) (List.set (α := MObj) ((⟨0, false, 2, [g]⟩ : MObj) :: (⟨i, false, 2, (exR (w.take (i + 1))).map encP⟩ : MObj) :: G ++ [(⟨0, false, 2, [encP (cnt, cnt)]⟩ : MObj)]) 1 ⟨i + 1, false, 2, (exR (w.take (i + 1))).map encP ++ [encP (cnt, cnt)]⟩)
    repeat (first | (apply ef_fap; exact rfl; exact rfl))
    (apply ef_st; (· exact rfl); (· exact rfl); (· exact rfl); (· exact q1); (· exact rfl); (· exact rfl); (· exact rfl); (· exact rfl))
    repeat (first | (apply ef_mv; exact rfl; exact rfl) | (apply ef_bin; (iterate 3 exact rfl); (((with_reducible refine bin_add (wrap_of ?_ ?_)) <;> omega))) | apply ef_nil | apply seqQ.normal | apply blockQ.normal)
    refine loopQ.normal _ _ ⟨(i + 2, .arr (M.length + 3) 0 (i + 2) (i + 1), ⟨0, false, 2, [g]⟩ :: ⟨i + 1, false, 2, (exR (w.take (i + 2))).map encP⟩ :: (G ++ [⟨0, false, 2, [encP (cnt, cnt)]⟩])), ⟨hlt, .succ (i + 1) g _⟩, by simp only; omega, ⟨by ((repeat (refine Hold.cons (by exact rfl) ?_)); exact Hold.nil), by ((repeat (refine Hold.cons (by exact rfl) ?_)); exact Hold.nil)⟩, ?_⟩
    show HeadIs _ _ _ _ (memX M c (colsL c (w.take (i + 1 + 1)) 0 0) _ _)
    rw [← hcols2]
    refine .cellE ((memX_cell M c cols _ _ _).trans ?_) ?_
    ·simp [hex]
    ·refine hltL_no (j := M.length + 1) ?_ (memX_1 _ _ _ _ _) ?_
     ·simp
     ·show (ltL (M ++ [_] ++ [_]).length [.agg [.arr (M.length + 3) 0 (i + 2) (i + 1), .arr M.length 0 c 0]]) = false
      simp [ltL, MV.lt]
 ·obtain rfl : i = b.length := by omega
  have htw : w.take b.length = w := by rw [← hwl, List.take_length]
  rw [htw, colsL_ex]
  obtain ⟨m, hm⟩ : ∃ m, b.length = m + 1 := ⟨b.length - 1, by omega⟩
  have hG2 : ∃ g G', rv = .arr (M.length + 3) 0 b.length m ∧ G = ⟨0, false, 2, [g]⟩ :: ⟨m, false, 2, (exR w).map encP⟩ :: G' := by
   rw [hm] at hG htw
   cases hG with
   | succ i g G => rw [htw]; exact ⟨g, G, by rw [hm], rfl⟩
  obtain ⟨g, G', rfl, rfl⟩ := hG2
  have hRl : (exR w).length = R.length := by simp [exR]; omega
  have hCl : (exC nC w).length = nC := by simp [exC]
  have hbody := exact_body h6 hwlt
  have hval : ValS (exR w) (exC nC w) := by
   refine ⟨by omega, by omega, by omega, by omega, fun p hp => ?_, fun p hp => ?_⟩
   ·simp only [exR, List.mem_map] at hp
    obtain ⟨s, hs, rfl⟩ := hp
    have hs1 := hwlt s hs
    have := (pc_bits nC (by omega) s (lt_pow5 h6 hs1) hs1).1
    simp only [hCl]
    omega
   ·simp only [exC, List.mem_map] at hp
    obtain ⟨k, hk, rfl⟩ := hp
    have := colS_le w k
    simp only
    omega
  have hck0 := val_chkS hval
  have hpos : possB (exR w) (exC nC w) anyP = true := possB_iff.2 ⟨w, hbody, fun _ _ _ => rfl⟩
  have hopn : opnE (exR w) (exC nC w) = 0 := by
   unfold opnE
   rw [hck0, if_pos rfl, hpos]; rfl
  have hfb := first_body hpos
  have hfc := body_chk hval hfb
  have cs := fun h => CopyS_c 12 (exR w) (exC nC w) (by omega) (by omega) h
  have bo := fun h => Body_c 6 (exR w) (exC nC w) (by omega) (by omega) h (v := encS (exR w) (exC nC w)) (frz_lt (encS_lt 0 _ _))
  have ebv : bodyV (exR w) (exC nC w) = bodyB (exR w) (exC nC w) (exR w).length := if_pos hopn
  rw [hopn, ebv] at bo
  have hfl := hfb.len
  generalize bodyB (exR w) (exC nC w) (exR w).length = fb at *
  have ck2 := fun h u hu => ChkB_c 7 (exR w) (exC nC w) (fb.map fun s : Nat => (s : Int)) (by omega) (by omega) (by rw [List.length_map]; omega) h (v := encS (exR w) (exC nC w)) (w := u) (frz_lt (encS_lt 0 _ _)) hu
  rw [show chkBE (exR w) (exC nC w) (fb.map fun s : Nat => (s : Int)) = (volS fb, 0) from (if_neg (by rw [hck0]; simp)).trans hfc] at ck2
  simp only [natI_map] at ck2
  have gH0 := memX_at m0 nC ((exC nC w).map encP) (.arr (M.length + 3) 0 b.length m) (⟨0, false, 2, [g]⟩ :: ⟨m, false, 2, (exR w).map encP⟩ :: G')
  have gH1 := memX_1 M nC ((exC nC w).map encP) (.arr (M.length + 3) 0 b.length m) (⟨0, false, 2, [g]⟩ :: ⟨m, false, 2, (exR w).map encP⟩ :: G')
  have gH2 := memX_0 M nC ((exC nC w).map encP) (.arr (M.length + 3) 0 b.length m) (⟨0, false, 2, [g]⟩ :: ⟨m, false, 2, (exR w).map encP⟩ :: G')
  have gH3 := memX_G M nC ((exC nC w).map encP) (.arr (M.length + 3) 0 b.length m) (⟨0, false, 2, [g]⟩ :: ⟨m, false, 2, (exR w).map encP⟩ :: G') 1
  show Ef _ _ _ _ _ _ _ (memX M nC ((exC nC w).map encP) (.arr (M.length + 3) 0 b.length m) (⟨0, false, 2, [g]⟩ :: ⟨m, false, 2, (exR w).map encP⟩ :: G')) _
  generalize memX M nC ((exC nC w).map encP) (.arr (M.length + 3) 0 b.length m) (⟨0, false, 2, [g]⟩ :: ⟨m, false, 2, (exR w).map encP⟩ :: G') = H at *
  obtain ⟨H', hse, hH1, hHi⟩ := seal_S gH1 gH3 gH2 (by rw [List.length_map]; omega) (by rw [List.length_map]; omega) (encP_lt 0 _) (encP_lt 0 _) (by omega) (by omega)
  repeat (first | apply ef_seq | (apply ef_mv; exact rfl; exact rfl) | (apply ef_bin; (iterate 3 exact rfl); (exact cmp_f rfl (by simp only [cmpP]; omega))) | (apply ef_len; exact rfl; exact rfl; (assumption)) | apply ef_nil | apply seqQ.normal | apply loopQ.exit | apply ef_exit | apply seqQ.exit | apply blockQ.here | (apply ef_condf; exact rfl; (exact (rfl : false = false))))
  refine ef_give (by exact rfl) hse ?_
  repeat (first | apply ef_seq | (apply ef_mv; exact rfl; exact rfl) | (apply ef_bin; (iterate 3 exact rfl); (exact cmp_f rfl (by simp only [cmpP]; omega))) | (apply ef_ldp; exact rfl; exact rfl; (assumption); exact rfl; (exact rfl); (exact rd_2 rfl rfl)) | (apply ef_ext; (iterate 3 exact rfl)) | apply ef_nil | apply seqQ.normal | apply ef_skip | (apply ef_condf; exact rfl; (exact (rfl : false = false))) | (apply ef_call; exact rfl; ((repeat (apply XVs.cons; exact rfl)); exact XVs.nil); (with_reducible first | exact cs _ | exact bo _)))
  have hH2 : (H' ++ [(⟨0, decide ((0 : Int) ≠ 0), 1, natL fb⟩ : MObj)])[M.length + 1]? = some ⟨0, false, 2, [.agg [.sl ((exR w).map encP), .sl ((exC nC w).map encP)]]⟩ := by
   rw [List.getElem?_append_left (List.getElem?_eq_some_iff.1 hH1).1, hH1]
  repeat (first | (apply ef_mv; exact rfl; exact rfl) | (apply ef_ldp; exact rfl; exact rfl; (assumption); exact rfl; (exact rfl); (exact rd_2 rfl rfl)))
  (apply ef_call; (· exact rfl); (· ((repeat (apply XVs.cons; exact rfl)); exact XVs.nil)); · exact ck2 _ _ (frz_arrg (at_endC _ _) (by simp) (natL_lt 0 fb)))
  repeat (first | apply ef_seq | (apply ef_mv; exact rfl; exact rfl) | (apply ef_bin; (iterate 3 exact rfl); (exact cmp_t rfl (by first | exact rfl | (simp only [cmpP]; omega)))) | (apply ef_ext; (iterate 3 exact rfl)) | apply ef_nil | apply seqQ.normal | apply ef_ret)
  (refine fin1 rfl (by exact rfl) rfl ?_)
  rfl
theorem TargetEveryBody_z (R C : List (Int × Int)) (b : List Int) : runZ MT (orA 14) (itA 14) 4000000 14 [encS R C, .sl (b.map I64)] [] = some (Bo true, []) :=
 EveryBody_p1 R C b fun M hv hb m0 hcl => EveryBody_p2 R C b M hv hb m0 hcl
end Go.Proofs.YtnmgpbihknjdjaaGreatDoor

/- TargetEveryBody: from values of the small language to the program's. -/
namespace Go.Proofs.YtnmgpbihknjdjaaGreatDoor
open Go.ChangeShapes Go.WideShapes Go.ChangeAt Go.RowKit
theorem fits_rgp {m : MV} (h : Fits rgSh m) : ∃ p : Int × Int, m = encP p := by
 obtain ⟨a, b, rfl⟩ := fits_rg h
 exact ⟨(a, b), rfl⟩
theorem fits_shadow {m : MV} (h : Fits (.agg [.slice rgSh, .slice rgSh]) m) : ∃ R C : List (Int × Int), m = encS R C ∧ R.length ≤ 9223372036854775807 ∧ C.length ≤ 9223372036854775807 := by
 obtain ⟨ms, h', rfl⟩ := fits_agg h
 obtain ⟨m1, r1, rfl, h1, h⟩ := fitsL_cons h'
 obtain ⟨m2, r2, rfl, h2, h⟩ := fitsL_cons h
 obtain rfl := fitsL_nil h
 obtain ⟨R, rfl, q1⟩ := fits_list encP (fun m h => fits_rgp h) h1
 obtain ⟨C, rfl, q2⟩ := fits_list encP (fun m h => fits_rgp h) h2
 exact ⟨R, C, rfl, q1, q2⟩
def everyBodyShs : List Sh := [.agg [.slice rgSh, .slice rgSh], .slice i64Sh]
theorem everyBody_runs (ms : List MV) (h : FitsL everyBodyShs ms) : runZ MT (orA 14) (itA 14) 4000000 14 ms [] = some (.lit (.bool true), []) := by
 obtain ⟨m1, r1, rfl, h1, h⟩ := fitsL_cons h
 obtain ⟨m2, r2, rfl, h2, h⟩ := fitsL_cons h
 obtain rfl := fitsL_nil h
 obtain ⟨R, C, rfl, q1, q2⟩ := fits_shadow h1
 obtain ⟨b, rfl, q3⟩ := fits_list I64 (fun m h => by obtain ⟨n, rfl, -⟩ := fits_i64r h; exact ⟨n, rfl⟩) h2
 exact TargetEveryBody_z R C b
set_option maxRecDepth 100000 in
theorem everyBody_lifted (os : Os) (started : os.Started) (H : Type) (enc : TypeId × Value → H) :
  ReturnsInHanded {} Tryz.checked os 14 .any (fun w args => (Rows.targetEveryBodySpec.pre enc Tryz.prog Tryz.f14 [] false w args ∧ laidMetH Tryz.prog Rows.targetEveryBodyRow.laid w) ∧ sizedMet enc Tryz.prog Tryz.f14 (OpenSpec.ofChange Rows.targetEveryBodySpec) false w args)
   (Rows.targetEveryBodySpec.post enc Tryz.prog Tryz.f14 false true false false) := by
 refine returnsInHanded_of_change_and (C := Tryz.checked) (X := fun w _ => laidMetH Tryz.prog Rows.targetEveryBodyRow.laid w) (fun _ _ _ hh h => h.of_heap hh) Tryz.own started (by kernel_rfl) Tryz.func14
  (ChangeSpec.witness_shaped (enc := enc) (C := Tryz.checked) (os := os) (X := fun w _ => laidMetH Tryz.prog Rows.targetEveryBodyRow.laid w) false (World.doorLaid Tryz.prog 200 os) #[.agg #[.slice none 0 0, .slice none 0 0], .slice none 0 0] 8 rfl (World.shaped_of_RefB (by kernel_rfl) (by kernel_rfl)) (by kernel_rfl) (by kernel_rfl) (by kernel_rfl)
   (laidMetH_of_parts3 (fuel := 8) (laidMet_of_run' 8 (by kernel_rfl) (by kernel_rfl)) (by kernel_rfl) (by kernel_rfl))) ?_
 intro W base args ds gs before hval hW _ _ hL _
 exact law_contractT (orZ_ok (by kernel_rfl) (tabOf_ok Tryz.prog) tA_ok (tI_ok) 14) everyBodyShs (by kernel_rfl) (by kernel_rfl) rfl rfl (fun ds h => by match ds, h with | [_, _], _ => exact ⟨rfl, rfl, rfl⟩) everyBody_runs W base args ds gs before hval hW
  (tabs_laid hL (List.mem_cons_of_mem _ (List.mem_cons_self ..)))
end Go.Proofs.YtnmgpbihknjdjaaGreatDoor

/- Facts of the whole program that each row asks for. -/
namespace Go.Proofs.YtnmgpbihknjdjaaGreatDoor
open Go
theorem jfA : laidOutB Tryz.pinned.checked.prog = true := by kernel_rfl
theorem jfB : mapsRowed Tryz.pinned.checked.prog = true := by kernel_rfl
theorem jfC : (Tryz.pinned.checked.prog.stops == []) = true := by kernel_rfl
theorem jfD : (Tryz.pinned.checked.prog.stopKnobs == []) = true := by kernel_rfl
theorem jfE : Tryz.pinned.checked.prog.stopsHeard = true := by kernel_rfl
theorem jfF : Tryz.pinned.checked.prog.mayEnter = true := by kernel_rfl
theorem jfG : (false == Tryz.pinned.checked.prog.plainKeys) = true := by kernel_rfl
theorem and_t {a b : Bool} (h : a = true) (g : b = true) : (a && b) = true := by rw [h, g]; rfl
end Go.Proofs.YtnmgpbihknjdjaaGreatDoor

/- The row of TargetEveryBody. -/
namespace Go.Proofs.YtnmgpbihknjdjaaGreatDoor
open Go Go.ChangeShapes Go.WideShapes Go.ChangeAt Go.RowKit
set_option linter.unusedVariables false
theorem jfeveryBody_0 : Rows.targetEveryBodyRow.wf (OpenSpec.ofChange Rows.targetEveryBodySpec) = true := by kernel_rfl
theorem jfeveryBody_3 : Tryz.f14.params.all (Tryz.pinned.checked.prog.readableRec ·) = true := by kernel_rfl
theorem jfeveryBody_4 : namedTie Tryz.pinned.checked.prog Rows.targetEveryBodyRow.named Rows.targetEveryBodySpec.vars = true := by kernel_rfl
theorem jfeveryBody_5 : (Rows.targetEveryBodyRow.stops == []) = true := by kernel_rfl
theorem jfeveryBody_7 : (Rows.targetEveryBodyRow.knobs == []) = true := by kernel_rfl
theorem jfeveryBody_9 : (Rows.targetEveryBodyRow.inPlace == Tryz.pinned.checked.prog.inPlace 14) = true := by kernel_rfl
theorem jfeveryBody_10 : (Rows.targetEveryBodyRow.unfollowed == Tryz.pinned.checked.prog.unfollowed 14) = true := by kernel_rfl
theorem jfeveryBody_11 : (Rows.targetEveryBodyRow.recurses == Tryz.pinned.checked.prog.recurses 14) = true := by kernel_rfl
theorem jfeveryBody_12 : (Rows.targetEveryBodyRow.named == Tryz.pinned.checked.prog.varsNamed 14) = true := by kernel_rfl
theorem jfeveryBody_13 : (Rows.targetEveryBodyRow.maps == (Tryz.f14.params.toList ++ Rows.targetEveryBodySpec.plain.varTypes Tryz.pinned.checked.prog).any (Tryz.pinned.checked.prog.mapsRec ·)) = true := by kernel_rfl
theorem jfeveryBody_14 : (Rows.targetEveryBodyRow.ifaces == (Tryz.f14.params.toList ++ Rows.targetEveryBodySpec.plain.varTypes Tryz.pinned.checked.prog).any (Tryz.pinned.checked.prog.ifacesRec ·)) = true := by kernel_rfl
theorem jfeveryBody_15 : (Rows.targetEveryBodyRow.mapsOut == Tryz.pinned.checked.prog.mapsAmong Tryz.f14.resultTypes.toList) = true := by kernel_rfl
theorem jfeveryBody_16 : (Rows.targetEveryBodyRow.loops == (Tryz.f14.params.toList ++ Rows.targetEveryBodySpec.plain.varTypes Tryz.pinned.checked.prog).any (Tryz.pinned.checked.prog.loopsFrom ·)) = true := by kernel_rfl
theorem jfeveryBody_17 : (Rows.targetEveryBodyRow.wideKeys == (Tryz.f14.params.toList ++ Rows.targetEveryBodySpec.plain.varTypes Tryz.pinned.checked.prog ++ Tryz.f14.resultTypes.toList).any (Tryz.pinned.checked.prog.wideKeysFrom ·)) = true := by kernel_rfl
theorem jfeveryBody_18 : Rows.targetEveryBodySpec.vars.all (Tryz.pinned.checked.prog.varReadable ·) = true := by kernel_rfl
theorem jfeveryBody_19 : Tryz.f14.resultTypes.all (fun t => Tryz.pinned.checked.prog.readableRec t && decide (t < Tryz.pinned.checked.prog.types.size)) = true := by kernel_rfl
theorem jfeveryBody_20 : (Rows.targetEveryBodyRow.ifacesOut == Tryz.f14.resultTypes.toList.any (Tryz.pinned.checked.prog.ifacesRec ·)) = true := by kernel_rfl
theorem jfeveryBody_21 : (Rows.targetEveryBodyRow.loopsOut == Tryz.f14.resultTypes.toList.any (Tryz.pinned.checked.prog.loopsFrom ·)) = true := by kernel_rfl
theorem jfeveryBody_23 : Rows.targetEveryBodyRow.shortTexts.isNone = true := by kernel_rfl
theorem jfeveryBody_26 : (Rows.targetEveryBodyRow.lifted == Tryz.pinned.checked.prog.liftsFinal) = true := by kernel_rfl
theorem jfeveryBody_27 : (Tryz.pinned.checked.prog.make == some Rows.targetEveryBodyRow.make) = true := by kernel_rfl
theorem jfeveryBody_29 : (Rows.targetEveryBodyRow.pinned == Rows.targetEveryBodyRow.pinnedBy) = true := by kernel_rfl
theorem jfeveryBody_30 : (Rows.targetEveryBodyRow.veiled == (Tryz.f14.params.toList ++ Rows.targetEveryBodySpec.plain.varTypes Tryz.pinned.checked.prog ++ Tryz.f14.resultTypes.toList).any (Tryz.pinned.checked.prog.veiledRec ·)) = true := by kernel_rfl
theorem jfeveryBody_31 : Rows.targetEveryBodyRow.veiledFits Tryz.pinned.checked.prog Tryz.f14.params.toList (Tryz.f14.params.toList ++ Rows.targetEveryBodySpec.plain.varTypes Tryz.pinned.checked.prog ++ Tryz.f14.resultTypes.toList) = true := by kernel_rfl
theorem jfeveryBody : joinedFacts Tryz.pinned.checked.prog 14 Tryz.f14 Rows.targetEveryBodySpec Rows.targetEveryBodyRow = true := by
 unfold joinedFacts
 refine and_t (and_t (and_t (and_t (and_t (and_t (and_t (and_t (and_t (and_t (and_t (and_t (and_t (and_t (and_t (and_t (and_t (and_t (and_t (and_t (and_t (and_t (and_t (and_t (and_t (and_t (and_t (and_t (and_t (and_t (and_t jfeveryBody_0 jfA) jfB) jfeveryBody_3) jfeveryBody_4) jfeveryBody_5) jfC) jfeveryBody_7) jfD) jfeveryBody_9) jfeveryBody_10) jfeveryBody_11) jfeveryBody_12) jfeveryBody_13) jfeveryBody_14) jfeveryBody_15) jfeveryBody_16) jfeveryBody_17) jfeveryBody_18) jfeveryBody_19) jfeveryBody_20) jfeveryBody_21) jfG) jfeveryBody_23) jfE) jfF) jfeveryBody_26) jfeveryBody_27) (by kernel_rfl)) jfeveryBody_29) jfeveryBody_30) jfeveryBody_31
theorem targetEveryBody_row : Rows.targetEveryBodyRow.holds Tryz.pinned (OpenSpec.ofChange Rows.targetEveryBodySpec) :=
 OpenClaim.holds_of_wide 14 Tryz.f14 rfl rfl rfl rfl rfl rfl rfl ⟨rfl, rfl, rfl, rfl, rfl⟩ rfl rfl rfl rfl rfl (by kernel_rfl) Tryz.func14 jfeveryBody
  (of_decide_eq_true (by kernel_rfl)) (by unfold Func.isWrapper; rw [if_neg (of_decide_eq_false (by kernel_rfl))]; exact ⟨rfl, rfl⟩)
  (fun os started H enc _ => everyBody_lifted os started H enc)
end Go.Proofs.YtnmgpbihknjdjaaGreatDoor
