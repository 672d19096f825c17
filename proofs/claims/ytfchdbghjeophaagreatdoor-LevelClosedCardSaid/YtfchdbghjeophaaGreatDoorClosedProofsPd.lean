/- Contracts: the reference's check of a net. -/
import Derived.Test.YtfchdbghjeophaaGreatDoorRows
import Derived.ProofKit
import Derived.LaidSub
import Derived.LaidHandle
import Derived.FnData
import Derived.OpenShut
import Derived.Test.YtfchdbghjeophaaGreatDoorClosedProofsPc
/- The texts that the examples reach, as a table. -/
namespace Go.Proofs.YtfchdbghjeophaaGreatDoor
open Go.RowKit
noncomputable def mfW_l15 : MF := ⟨33, [(.tmp 2), (.tmp 3), (.tmp 4)], (.seq (.reg [gO 1 (.box 2 (.s 0)), gO 2 (.nil0 1), gO 3 (.mv (cI 0)), gO 4 (.mv (cI 0))]) (.seq (.reg [gO 12 (.ld (some 2) (.s 1)), gO 13 (.call 51 [.s 12]), gO 11 (.mv (.s 13)), gO 14 (.ext (.s 11) 0), gO 15 (.ext (.s 11) 1), gO 16 (.ext (.s 11) 2), gO 17 (.ext (.s 11) 3), gO 5 (.new (.agg [(.lit (.slice none 0 0)), (.lit (.slice none 0 0))])), ⟨none, none, .st 2 (.s 5) (.s 14)⟩, gO 6 (.mv (.s 15)), gO 7 (.mv (.s 16)), gO 8 (.mv (.s 17))]) (.seq (.seq (.reg [gO 18 (.mv (.s 8)), gO 19 (.bin .neq (.s 18) (cI 0))]) (.cond (.s 19) (.seq (.reg [gO 20 (.mv (.s 8)), gO 2 (.nil0 1), gO 3 (.mv (cI 0)), gO 4 (.mv (.s 20))]) .ret) .skip)) (.seq (.reg [gO 22 (.fa 0 (.s 5)), gO 23 (.fa 0 (.s 22)), gO 24 (.ld none (.s 23)), gO 25 (.len (.s 24)), gO 26 (.mv (.s 6)), gO 27 (.bsl (.lit (.int .i64 0)) 1 1 [(0, (cI 0))]), gO 28 (.call 52 [.s 25, .s 26, .s 27]), gO 21 (.mv (.s 28)), gO 29 (.ext (.s 21) 0), gO 30 (.ext (.s 21) 1), gO 9 (.mv (.s 29)), gO 10 (.mv (.s 30))]) (.seq (.reg [gO 31 (.mv (.s 9)), gO 32 (.mv (.s 7)), gO 2 (.mv (.s 31)), gO 3 (.mv (.s 32)), gO 4 (.mv (cI 0))]) .ret)))))⟩
theorem mfW_q15 : MT.mf 15 = some mfW_l15 := by kernel_rfl
noncomputable def mfW_l18 : MF := ⟨91, [(.tmp 4), (.tmp 5)], (.seq (.reg [gO 2 (.box 2 (.s 0)), gO 4 (.mv (cI 0)), gO 5 (.mv (cI 0))]) (.seq (.reg [gO 18 (.ld (some 2) (.s 2)), gO 19 (.call 53 [.s 18]), gO 17 (.mv (.s 19)), gO 20 (.ext (.s 17) 0), gO 21 (.ext (.s 17) 1), gO 6 (.new (.agg [(.lit (.slice none 0 0)), (.lit (.slice none 0 0))])), ⟨none, none, .st 2 (.s 6) (.s 20)⟩, gO 7 (.mv (.s 21))]) (.seq (.reg [gO 22 (.mv (.s 7)), gO 23 (.mv (.s 1)), gO 24 (.len (.s 23)), gO 25 (.bin .gtr (.s 24) (cI 0)), gO 26 (.mv (.s 25)), ⟨some (26, true), some 27, .mv (.s 1)⟩, ⟨some (26, true), some 28, .len (.s 27)⟩, ⟨some (26, true), some 29, .bin .rem (.s 28) (cI 2)⟩, ⟨some (26, true), some 30, .bin .eql (.s 29) (cI 0)⟩, gO 31 (.pick (.s 26) (.s 30) cF), gO 32 (.call 58 [.s 31, (cI 10)]), gO 33 (.mv (.s 1)), gO 34 (.len (.s 33)), gO 35 (.bin .leq (.s 34) (cI 32)), gO 36 (.call 58 [.s 35, (cI 8)]), gO 37 (.bsl (.lit (.int .i64 0)) 1 3 [(0, (.s 22)), (1, (.s 32)), (2, (.s 36))]), gO 38 (.call 57 [.s 37]), gO 7 (.mv (.s 38))]) (.seq (.seq (.reg [gO 39 (.mv (.s 7)), gO 40 (.bin .neq (.s 39) (cI 0))]) (.cond (.s 40) (.seq (.reg [gO 41 (.mv (.s 7)), gO 4 (.mv (cI 0)), gO 5 (.mv (.s 41))]) .ret) .skip)) (.seq (.reg [gO 8 (.mv (cI (-1))), gO 9 (.mv (cI (-1))), gO 10 (.mv (cI 0))]) (.seq (.seq (.reg [gO 42 (.mv (.s 1)), gO 43 (.len (.s 42)), gO 44 (.mv (cI 0))]) (.block 0 (.loop [44, 43, 42, 2, 10, 9, 8] (.seq (.reg [gO 45 (.bin .lss (.s 44) (.s 43))]) (.seq (.cond (.s 45) .skip (.exit 0)) (.seq (.block 1 (.seq (.reg [gO 46 (.mv (.s 44)), gO 47 (.ia 1 (.s 42) (.s 44)), gO 48 (.ld none (.s 47)), gO 11 (.mv (.s 46)), gO 12 (.mv (.s 48))]) (.seq (.seq (.reg [gO 49 (.mv (.s 12)), gO 50 (.fa 1 (.s 2)), gO 51 (.ld none (.s 50)), gO 52 (.len (.s 51)), gO 53 (.bin .sub (.s 52) (cI 1)), gO 54 (.call 59 [.s 49, (cI 0), .s 53]), gO 55 (.un .not (.s 54))]) (.cond (.s 55) (.seq (.reg [gO 4 (.mv (cI 0)), gO 5 (.mv (cI 6))]) .ret) .skip)) (.seq (.reg [gO 56 (.fa 1 (.s 2)), gO 57 (.ld none (.s 56)), gO 58 (.mv (.s 12)), gO 59 (.ia 6 (.s 57) (.s 58)), gO 60 (.ld (some 6) (.s 59)), gO 13 (.new (.agg [(.lit (.int .i64 0)), (.lit (.int .i64 0)), (.lit (.int .i64 0)), (.lit (.int .i64 0)), (.lit (.int .i64 0)), (.lit (.int .i64 0))])), ⟨none, none, .st 6 (.s 13) (.s 60)⟩]) (.seq (.reg [gO 61 (.fa 0 (.s 13)), gO 62 (.ld none (.s 61)), gO 63 (.fa 1 (.s 13)), gO 64 (.ld none (.s 63)), gO 14 (.mv (.s 62)), gO 15 (.mv (.s 64)), gO 16 (.mv (cI 1))]) (.seq (.seq (.reg [gO 65 (.mv (.s 11)), gO 66 (.bin .rem (.s 65) (cI 2)), gO 67 (.bin .eql (.s 66) (cI 1))]) (.cond (.s 67) (.reg [gO 68 (.fa 1 (.s 13)), gO 69 (.ld none (.s 68)), gO 70 (.fa 0 (.s 13)), gO 71 (.ld none (.s 70)), gO 14 (.mv (.s 69)), gO 15 (.mv (.s 71)), gO 16 (.mv (cI (-1)))]) .skip)) (.seq (.seq (.reg [gO 72 (.mv (.s 11)), gO 73 (.bin .eql (.s 72) (cI 0))]) (.cond (.s 73) (.reg [gO 74 (.mv (.s 14)), gO 75 (.mv (.s 14)), gO 8 (.mv (.s 74)), gO 9 (.mv (.s 75))]) .skip)) (.seq (.seq (.reg [gO 76 (.mv (.s 14)), gO 77 (.mv (.s 9)), gO 78 (.bin .neq (.s 76) (.s 77))]) (.cond (.s 78) (.seq (.reg [gO 4 (.mv (cI 0)), gO 5 (.mv (cI 14))]) .ret) .skip)) (.reg [gO 79 (.mv (.s 15)), gO 80 (.mv (.s 10)), gO 81 (.mv (.s 16)), gO 82 (.fa 4 (.s 13)), gO 83 (.ld none (.s 82)), gO 84 (.bin .mul (.s 81) (.s 83)), gO 85 (.bin .add (.s 80) (.s 84)), gO 9 (.mv (.s 79)), gO 10 (.mv (.s 85))]))))))))) (.reg [gO 86 (.bin .add (.s 44) (cI 1)), gO 44 (.mv (.s 86))]))))))) (.seq (.seq (.reg [gO 87 (.mv (.s 9)), gO 88 (.mv (.s 8)), gO 89 (.bin .neq (.s 87) (.s 88))]) (.cond (.s 89) (.seq (.reg [gO 4 (.mv (cI 0)), gO 5 (.mv (cI 21))]) .ret) .skip)) (.seq (.reg [gO 90 (.mv (.s 10)), gO 4 (.mv (.s 90)), gO 5 (.mv (cI 0))]) .ret))))))))⟩
theorem mfW_q18 : MT.mf 18 = some mfW_l18 := by kernel_rfl
noncomputable def mfW_l37 : MF := ⟨131, [(.tmp 6), (.tmp 7)], (.seq (.reg [gO 3 (.box 2 (.s 0)), gO 5 (.box 2 (.s 2)), gO 6 (.nil0 2), gO 7 (.mv (cI 0))]) (.seq (.reg [gO 21 (.ld (some 2) (.s 3)), gO 22 (.mv (.s 1)), gO 23 (.call 44 [.s 21, .s 22]), gO 20 (.mv (.s 23)), gO 24 (.ext (.s 20) 0), gO 25 (.ext (.s 20) 1), gO 8 (.new (.agg [(.lit (.slice none 0 0)), (.lit (.slice none 0 0))])), ⟨none, none, .st 2 (.s 8) (.s 24)⟩, gO 9 (.mv (.s 25))]) (.seq (.reg [gO 26 (.fa 1 (.s 5)), gO 27 (.ld none (.s 26)), gO 28 (.call 76 [.s 27, (.c (.fn 77 0 []))]), gO 10 (.mv (.s 28))]) (.seq (.reg [gO 29 (.mv (.s 9)), gO 30 (.fa 0 (.s 5)), gO 31 (.ld none (.s 30)), gO 32 (.fa 0 (.s 3)), gO 33 (.ld none (.s 32)), gO 34 (.len (.s 33)), gO 35 (.bin .sub (.s 34) (cI 1)), gO 36 (.call 59 [.s 31, (cI 0), .s 35]), gO 37 (.call 58 [.s 36, (cI 6)]), gO 38 (.fa 1 (.s 5)), gO 39 (.ld none (.s 38)), gO 40 (.len (.s 39)), gO 41 (.bin .leq (.s 40) (cI 40)), gO 42 (.call 58 [.s 41, (cI 8)]), gO 43 (.mv (.s 10)), gO 44 (.un .not (.s 43)), gO 45 (.call 58 [.s 44, (cI 2)]), gO 46 (.bsl (.lit (.int .i64 0)) 1 4 [(0, (.s 29)), (1, (.s 37)), (2, (.s 42)), (3, (.s 45))]), gO 47 (.call 57 [.s 46]), gO 9 (.mv (.s 47))]) (.seq (.seq (.reg [gO 48 (.mv (.s 9)), gO 49 (.bin .neq (.s 48) (cI 0))]) (.cond (.s 49) (.seq (.reg [gO 50 (.mv (.s 9)), gO 6 (.nil0 2), gO 7 (.mv (.s 50))]) .ret) .skip)) (.seq (.reg [gO 11 (.nil0 2)]) (.seq (.reg [gO 51 (.ld (some 2) (.s 8)), gO 52 (.mv (.s 1)), gO 53 (.call 45 [.s 51, .s 52]), gO 12 (.mv (.s 53))]) (.seq (.seq (.reg [gO 54 (.fa 1 (.s 3)), gO 55 (.ld none (.s 54)), gO 56 (.len (.s 55)), gO 57 (.mv (cI 0))]) (.block 0 (.loop [57, 56, 55, 5, 11, 12, 1] (.seq (.reg [gO 58 (.bin .lss (.s 57) (.s 56))]) (.seq (.cond (.s 58) .skip (.exit 0)) (.seq (.block 1 (.seq (.reg [gO 59 (.mv (.s 57)), gO 60 (.ia 6 (.s 55) (.s 57)), gO 61 (.ld (some 6) (.s 60)), gO 14 (.new (.agg [(.lit (.int .i64 0)), (.lit (.int .i64 0)), (.lit (.int .i64 0)), (.lit (.int .i64 0)), (.lit (.int .i64 0)), (.lit (.int .i64 0))])), gO 13 (.mv (.s 59)), ⟨none, none, .st 6 (.s 14) (.s 61)⟩]) (.seq (.reg [gO 62 (.fa 0 (.s 5)), gO 63 (.ld none (.s 62))]) (.block 2 (.seq (.reg [gO 65 (.fa 0 (.s 14)), gO 66 (.ld none (.s 65)), gO 67 (.bin .eql (.s 63) (.s 66)), gO 64 (.mv (.s 67))]) (.cond (.s 64) (.reg [gO 68 (.mv (.s 11)), gO 69 (.fa 2 (.s 14)), gO 70 (.ld none (.s 69)), gO 71 (.mv (.s 12)), gO 72 (.mv (.s 13)), gO 73 (.ia 1 (.s 71) (.s 72)), gO 74 (.ld none (.s 73)), gO 75 (.un .neg (.s 74)), gO 76 (.build [(.lit (.int .i64 0)), (.lit (.int .i64 0))] [(0, (1, (.s 70))), (1, (1, (.s 75)))]), gO 77 (.bsl (.agg [(.lit (.int .i64 0)), (.lit (.int .i64 0))]) 2 1 [(0, (.s 76))]), gO 78 (.app 2 (.s 68) (.s 77)), gO 11 (.mv (.s 78))]) (.seq (.reg [gO 80 (.fa 1 (.s 14)), gO 81 (.ld none (.s 80)), gO 82 (.bin .eql (.s 63) (.s 81)), gO 79 (.mv (.s 82))]) (.cond (.s 79) (.reg [gO 83 (.mv (.s 11)), gO 84 (.fa 3 (.s 14)), gO 85 (.ld none (.s 84)), gO 86 (.mv (.s 12)), gO 87 (.mv (.s 13)), gO 88 (.ia 1 (.s 86) (.s 87)), gO 89 (.ld none (.s 88)), gO 90 (.build [(.lit (.int .i64 0)), (.lit (.int .i64 0))] [(0, (1, (.s 85))), (1, (1, (.s 89)))]), gO 91 (.bsl (.agg [(.lit (.int .i64 0)), (.lit (.int .i64 0))]) 2 1 [(0, (.s 90))]), gO 92 (.app 2 (.s 83) (.s 91)), gO 11 (.mv (.s 92))]) .skip)))))))) (.reg [gO 93 (.bin .add (.s 57) (cI 1)), gO 57 (.mv (.s 93))]))))))) (.seq (.reg [gO 94 (.mv (.s 11)), gO 95 (.srt 79 80 (.s 94))]) (.seq (.reg [gO 15 (.nil0 2)]) (.seq (.seq (.reg [gO 96 (.fa 1 (.s 5)), gO 97 (.ld none (.s 96)), gO 98 (.len (.s 97)), gO 99 (.mv (cI 0))]) (.block 3 (.loop [99, 98, 97, 11, 15, 1, 5] (.seq (.reg [gO 100 (.bin .lss (.s 99) (.s 98))]) (.seq (.cond (.s 100) .skip (.exit 3)) (.seq (.block 4 (.seq (.reg [gO 101 (.ia 2 (.s 97) (.s 99)), gO 102 (.ld (some 2) (.s 101)), gO 17 (.new (.agg [(.lit (.int .i64 0)), (.lit (.int .i64 0))])), ⟨none, none, .st 2 (.s 17) (.s 102)⟩]) (.seq (.reg [gO 104 (.mv (.s 11)), gO 105 (.fa 0 (.s 17)), gO 106 (.ld none (.s 105)), gO 107 (.call 82 [.s 104, .s 106]), gO 103 (.mv (.s 107)), gO 108 (.ext (.s 103) 0), gO 109 (.ext (.s 103) 1), gO 18 (.mv (.s 108)), gO 19 (.mv (.s 109))]) (.reg [gO 110 (.mv (.s 15)), gO 111 (.mv (.s 19)), gO 112 (.bin .mul (cI 2) (.s 111)), gO 113 (.fa 1 (.s 17)), gO 114 (.ld none (.s 113)), gO 115 (.mv (.s 1)), gO 116 (.fa 0 (.s 5)), gO 117 (.ld none (.s 116)), gO 118 (.ia 1 (.s 115) (.s 117)), gO 119 (.ld none (.s 118)), gO 120 (.bin .sub (.s 114) (.s 119)), gO 121 (.bin .mul (.s 112) (.s 120)), gO 122 (.mv (.s 18)), gO 123 (.bin .add (.s 121) (.s 122)), gO 124 (.mv (.s 19)), gO 125 (.bin .mul (cI 2) (.s 124)), gO 126 (.call 83 [.s 123, .s 125]), gO 127 (.bsl (.agg [(.lit (.int .i64 0)), (.lit (.int .i64 0))]) 2 1 [(0, (.s 126))]), gO 128 (.app 2 (.s 110) (.s 127)), gO 15 (.mv (.s 128))])))) (.reg [gO 129 (.bin .add (.s 99) (cI 1)), gO 99 (.mv (.s 129))]))))))) (.seq (.reg [gO 130 (.mv (.s 15)), gO 6 (.mv (.s 130)), gO 7 (.mv (cI 0))]) .ret))))))))))))⟩
theorem mfW_q37 : MT.mf 37 = some mfW_l37 := by kernel_rfl
noncomputable def mfW_l40 : MF := ⟨64, [(.tmp 2), (.tmp 3)], (.seq (.reg [gO 1 (.box 2 (.s 0)), gO 2 (.nil0 2), gO 3 (.mv (cI 0))]) (.seq (.reg [gO 16 (.ld (some 2) (.s 1)), gO 17 (.call 51 [.s 16]), gO 15 (.mv (.s 17)), gO 18 (.ext (.s 15) 0), gO 19 (.ext (.s 15) 1), gO 20 (.ext (.s 15) 2), gO 21 (.ext (.s 15) 3), gO 4 (.new (.agg [(.lit (.slice none 0 0)), (.lit (.slice none 0 0))])), ⟨none, none, .st 2 (.s 4) (.s 18)⟩, gO 5 (.mv (.s 19)), gO 6 (.mv (.s 20)), gO 7 (.mv (.s 21))]) (.seq (.seq (.reg [gO 22 (.mv (.s 7)), gO 23 (.bin .neq (.s 22) (cI 0))]) (.cond (.s 23) (.seq (.reg [gO 24 (.mv (.s 7)), gO 2 (.nil0 2), gO 3 (.mv (.s 24))]) .ret) .skip)) (.seq (.reg [gO 26 (.fa 0 (.s 4)), gO 27 (.fa 0 (.s 26)), gO 28 (.ld none (.s 27)), gO 29 (.len (.s 28)), gO 30 (.mv (.s 5)), gO 31 (.bsl (.lit (.int .i64 0)) 1 1 [(0, (cI 0))]), gO 32 (.call 52 [.s 29, .s 30, .s 31]), gO 25 (.mv (.s 32)), gO 33 (.ext (.s 25) 0), gO 34 (.ext (.s 25) 1), gO 8 (.mv (.s 33)), gO 9 (.mv (.s 34))]) (.seq (.reg [gO 10 (.nil0 2)]) (.seq (.seq (.reg [gO 35 (.mv (.s 8)), gO 36 (.len (.s 35)), gO 37 (.mv (cI 0))]) (.block 0 (.loop [37, 36, 35, 4, 5, 10] (.seq (.reg [gO 38 (.bin .lss (.s 37) (.s 36))]) (.seq (.cond (.s 38) .skip (.exit 0)) (.seq (.block 1 (.seq (.reg [gO 39 (.mv (.s 37)), gO 40 (.ia 1 (.s 35) (.s 37)), gO 41 (.ld none (.s 40)), gO 11 (.mv (.s 39)), gO 12 (.mv (.s 41))]) (.seq (.reg [gO 43 (.fa 0 (.s 4)), gO 44 (.fa 0 (.s 43)), gO 45 (.ld none (.s 44)), gO 46 (.len (.s 45)), gO 47 (.mv (.s 5)), gO 48 (.mv (.s 11)), gO 49 (.bsl (.lit (.int .i64 0)) 1 1 [(0, (.s 48))]), gO 50 (.call 52 [.s 46, .s 47, .s 49]), gO 42 (.mv (.s 50)), gO 51 (.ext (.s 42) 0), gO 52 (.ext (.s 42) 1), gO 13 (.mv (.s 51)), gO 14 (.mv (.s 52))]) (.reg [gO 53 (.mv (.s 10)), gO 54 (.mv (.s 12)), gO 55 (.mv (.s 13)), gO 56 (.ia 1 (.s 55) (cI 0)), gO 57 (.ld none (.s 56)), gO 58 (.un .neg (.s 57)), gO 59 (.build [(.lit (.int .i64 0)), (.lit (.int .i64 0))] [(0, (1, (.s 54))), (1, (1, (.s 58)))]), gO 60 (.bsl (.agg [(.lit (.int .i64 0)), (.lit (.int .i64 0))]) 2 1 [(0, (.s 59))]), gO 61 (.app 2 (.s 53) (.s 60)), gO 10 (.mv (.s 61))])))) (.reg [gO 62 (.bin .add (.s 37) (cI 1)), gO 37 (.mv (.s 62))]))))))) (.seq (.reg [gO 63 (.mv (.s 10)), gO 2 (.mv (.s 63)), gO 3 (.mv (cI 0))]) .ret)))))))⟩
theorem mfW_q40 : MT.mf 40 = some mfW_l40 := by kernel_rfl
noncomputable def mfW_l41 : MF := ⟨48, [(.tmp 4), (.tmp 5), (.tmp 6)], (.seq (.reg [gO 2 (.box 2 (.s 0)), gO 4 (.mv (cI 0)), gO 5 (.mv (cI 0)), gO 6 (.mv (cI 0))]) (.seq (.reg [gO 13 (.ld (some 2) (.s 2)), gO 14 (.call 53 [.s 13]), gO 12 (.mv (.s 14)), gO 15 (.ext (.s 12) 0), gO 16 (.ext (.s 12) 1), gO 7 (.new (.agg [(.lit (.slice none 0 0)), (.lit (.slice none 0 0))])), ⟨none, none, .st 2 (.s 7) (.s 15)⟩, gO 8 (.mv (.s 16))]) (.seq (.reg [gO 17 (.mv (.s 1)), gO 18 (.call 46 [.s 17, (.c (.fn 84 0 []))]), gO 9 (.mv (.s 18))]) (.seq (.seq (.reg [gO 19 (.mv (.s 8)), gO 20 (.mv (.s 1)), gO 21 (.len (.s 20)), gO 22 (.fa 1 (.s 2)), gO 23 (.ld none (.s 22)), gO 24 (.len (.s 23)), gO 25 (.bin .eql (.s 21) (.s 24)), gO 26 (.call 58 [.s 25, (cI 10)]), gO 27 (.mv (.s 9)), gO 28 (.un .not (.s 27)), gO 29 (.call 58 [.s 28, (cI 2)]), gO 30 (.bsl (.lit (.int .i64 0)) 1 3 [(0, (.s 19)), (1, (.s 26)), (2, (.s 29))]), gO 31 (.call 57 [.s 30]), gO 8 (.mv (.s 31))]) (.seq (.reg [gO 32 (.mv (.s 8)), gO 33 (.bin .neq (.s 32) (cI 0))]) (.cond (.s 33) (.seq (.reg [gO 34 (.mv (.s 8)), gO 4 (.mv (cI 0)), gO 5 (.mv (cI 0)), gO 6 (.mv (.s 34))]) .ret) .skip))) (.seq (.reg [gO 35 (.ld (some 2) (.s 7)), gO 36 (.mv (.s 1)), gO 37 (.call 49 [.s 35, .s 36]), gO 10 (.new (.agg [(.lit (.slice none 0 0)), (.lit (.slice none 0 0))])), ⟨none, none, .st 2 (.s 10) (.s 37)⟩]) (.seq (.reg [gO 38 (.ld (some 2) (.s 10)), gO 39 (.ld (some 2) (.s 10)), gO 40 (.call 71 [.s 39]), gO 41 (.call 75 [.s 38, .s 40]), gO 11 (.mv (.s 41))]) (.seq (.reg [gO 42 (.mv (.s 11)), gO 43 (.ld (some 2) (.s 7)), gO 44 (.mv (.s 1)), gO 45 (.call 73 [.s 43, .s 44]), gO 46 (.mv (.s 11)), gO 47 (.bin .sub (.s 45) (.s 46)), gO 4 (.mv (.s 42)), gO 5 (.mv (.s 47)), gO 6 (.mv (cI 0))]) .ret)))))))⟩
theorem mfW_q41 : MT.mf 41 = some mfW_l41 := by kernel_rfl
noncomputable def mfW_l44 : MF := ⟨20, [(.cell 4 (some 2)), (.tmp 5)], (.seq (.reg [gO 2 (.box 2 (.s 0)), gO 4 (.new (.agg [(.lit (.slice none 0 0)), (.lit (.slice none 0 0))])), gO 5 (.mv (cI 0))]) (.seq (.reg [gO 9 (.ld (some 2) (.s 2)), gO 10 (.call 53 [.s 9]), gO 8 (.mv (.s 10)), gO 11 (.ext (.s 8) 0), gO 12 (.ext (.s 8) 1), gO 6 (.new (.agg [(.lit (.slice none 0 0)), (.lit (.slice none 0 0))])), ⟨none, none, .st 2 (.s 6) (.s 11)⟩, gO 7 (.mv (.s 12))]) (.seq (.seq (.reg [gO 13 (.mv (.s 7)), gO 14 (.bin .eql (.s 13) (cI 0))]) (.cond (.s 14) (.reg [gO 15 (.ld (some 2) (.s 6)), gO 16 (.mv (.s 1)), gO 17 (.call 86 [.s 15, .s 16]), gO 7 (.mv (.s 17))]) .skip)) (.seq (.reg [gO 18 (.ld (some 2) (.s 6)), gO 19 (.mv (.s 7)), ⟨none, none, .st 2 (.s 4) (.s 18)⟩, gO 5 (.mv (.s 19))]) .ret))))⟩
theorem mfW_q44 : MT.mf 44 = some mfW_l44 := by kernel_rfl
noncomputable def mfW_l45 : MF := ⟨35, [(.tmp 4)], (.seq (.reg [gO 2 (.box 2 (.s 0)), gO 4 (.nil0 1)]) (.seq (.reg [gO 5 (.nil0 1)]) (.seq (.seq (.reg [gO 8 (.fa 0 (.s 2)), gO 9 (.fa 1 (.s 8)), gO 10 (.ld none (.s 9)), gO 11 (.len (.s 10)), gO 12 (.mv (cI 0))]) (.block 0 (.loop [12, 11, 10, 5, 1] (.seq (.reg [gO 13 (.bin .lss (.s 12) (.s 11))]) (.seq (.cond (.s 13) .skip (.exit 0)) (.seq (.block 1 (.seq (.reg [gO 14 (.ia 6 (.s 10) (.s 12)), gO 15 (.ld (some 6) (.s 14)), gO 7 (.new (.agg [(.lit (.int .i64 0)), (.lit (.int .i64 0)), (.lit (.int .i64 0)), (.lit (.int .i64 0)), (.lit (.int .i64 0)), (.lit (.int .i64 0))])), ⟨none, none, .st 6 (.s 7) (.s 15)⟩]) (.reg [gO 16 (.mv (.s 5)), gO 17 (.fa 4 (.s 7)), gO 18 (.ld none (.s 17)), gO 19 (.mv (.s 1)), gO 20 (.fa 0 (.s 7)), gO 21 (.ld none (.s 20)), gO 22 (.ia 1 (.s 19) (.s 21)), gO 23 (.ld none (.s 22)), gO 24 (.bin .sub (.s 18) (.s 23)), gO 25 (.mv (.s 1)), gO 26 (.fa 1 (.s 7)), gO 27 (.ld none (.s 26)), gO 28 (.ia 1 (.s 25) (.s 27)), gO 29 (.ld none (.s 28)), gO 30 (.bin .add (.s 24) (.s 29)), gO 31 (.bsl (.lit (.int .i64 0)) 1 1 [(0, (.s 30))]), gO 32 (.app 1 (.s 16) (.s 31)), gO 5 (.mv (.s 32))]))) (.reg [gO 33 (.bin .add (.s 12) (cI 1)), gO 12 (.mv (.s 33))]))))))) (.seq (.reg [gO 34 (.mv (.s 5)), gO 4 (.mv (.s 34))]) .ret))))⟩
theorem mfW_q45 : MT.mf 45 = some mfW_l45 := by kernel_rfl
noncomputable def mfW_l46 : MF := ⟨9, [(.tmp 4)], (.seq (.reg [gO 4 (.mv cF)]) (.seq (.reg [gO 5 (.mv (.s 0)), gO 6 (.mv (.s 1)), gO 7 (.call 87 [.s 5, .s 6]), gO 8 (.bin .geq (.s 7) (cI 0)), gO 4 (.mv (.s 8))]) .ret))⟩
theorem mfW_q46 : MT.mf 46 = some mfW_l46 := by kernel_rfl
noncomputable def mfW_l48 : MF := ⟨10, [(.tmp 4)], (.seq (.reg [gO 4 (.mv cF)]) (.seq (.reg [gO 5 (.mv (.s 0)), gO 6 (.mv (.s 1)), gO 7 (.un .neg (.s 6)), gO 8 (.mv (.s 1)), gO 9 (.call 59 [.s 5, .s 7, .s 8]), gO 4 (.mv (.s 9))]) .ret))⟩
theorem mfW_q48 : MT.mf 48 = some mfW_l48 := by kernel_rfl
noncomputable def mfW_l49 : MF := ⟨34, [(.cell 4 (some 2))], (.seq (.reg [gO 2 (.box 2 (.s 0)), gO 4 (.new (.agg [(.lit (.slice none 0 0)), (.lit (.slice none 0 0))]))]) (.seq (.reg [gO 5 (.new (.agg [(.lit (.slice none 0 0)), (.lit (.slice none 0 0))])), gO 8 (.fa 0 (.s 2)), gO 9 (.fa 0 (.s 8)), gO 10 (.ld none (.s 9)), gO 11 (.call 88 [.s 10]), gO 12 (.fa 0 (.s 2)), gO 13 (.fa 1 (.s 12)), gO 14 (.ld none (.s 13)), gO 15 (.call 89 [.s 14]), gO 16 (.build [(.lit (.slice none 0 0)), (.lit (.slice none 0 0))] [(0, (1, (.s 11))), (1, (1, (.s 15)))]), gO 17 (.build [(.lit (.slice none 0 0)), (.lit (.slice none 0 0))] [(0, (2, (.s 16)))]), gO 5 (.nilck (.s 5)), ⟨none, none, .st 2 (.s 5) (.s 17)⟩]) (.seq (.seq (.reg [gO 18 (.mv (.s 1)), gO 19 (.len (.s 18)), gO 20 (.mv (cI 0))]) (.block 0 (.loop [20, 19, 18, 5, 4] (.seq (.reg [gO 21 (.bin .lss (.s 20) (.s 19))]) (.seq (.cond (.s 21) .skip (.exit 0)) (.seq (.block 1 (.seq (.reg [gO 22 (.mv (.s 20)), gO 23 (.ia 1 (.s 18) (.s 20)), gO 24 (.ld none (.s 23)), gO 6 (.mv (.s 22)), gO 7 (.mv (.s 24))]) (.reg [gO 25 (.fa 0 (.s 5)), gO 26 (.fa 1 (.s 25)), gO 27 (.ld none (.s 26)), gO 28 (.mv (.s 6)), gO 29 (.mv (.s 7)), gO 30 (.ia 6 (.s 27) (.s 28)), gO 31 (.fa 4 (.s 30)), ⟨none, none, .st 1 (.s 31) (.s 29)⟩]))) (.reg [gO 32 (.bin .add (.s 20) (cI 1)), gO 20 (.mv (.s 32))]))))))) (.seq (.reg [gO 33 (.ld (some 2) (.s 5)), ⟨none, none, .st 2 (.s 4) (.s 33)⟩]) .ret))))⟩
theorem mfW_q49 : MT.mf 49 = some mfW_l49 := by kernel_rfl
noncomputable def mfW_l51 : MF := ⟨66, [(.cell 2 (some 2)), (.tmp 3), (.tmp 4), (.tmp 5)], (.seq (.reg [gO 1 (.box 2 (.s 0)), gO 2 (.new (.agg [(.lit (.slice none 0 0)), (.lit (.slice none 0 0))])), gO 3 (.nil0 5), gO 4 (.mv (cI 0)), gO 5 (.mv (cI 0))]) (.seq (.reg [gO 15 (.ld (some 2) (.s 1)), gO 16 (.call 53 [.s 15]), gO 14 (.mv (.s 16)), gO 17 (.ext (.s 14) 0), gO 18 (.ext (.s 14) 1), gO 6 (.new (.agg [(.lit (.slice none 0 0)), (.lit (.slice none 0 0))])), ⟨none, none, .st 2 (.s 6) (.s 17)⟩, gO 7 (.mv (.s 18))]) (.seq (.seq (.reg [gO 19 (.mv (.s 7)), gO 20 (.bin .neq (.s 19) (cI 0))]) (.cond (.s 20) (.seq (.reg [gO 21 (.ld (some 2) (.s 6)), gO 22 (.mv (.s 7)), ⟨none, none, .st 2 (.s 2) (.s 21)⟩, gO 3 (.nil0 5), gO 4 (.mv (cI 0)), gO 5 (.mv (.s 22))]) .ret) .skip)) (.seq (.reg [gO 8 (.nil0 5)]) (.seq (.seq (.reg [gO 23 (.fa 1 (.s 1)), gO 24 (.ld none (.s 23)), gO 25 (.len (.s 24)), gO 26 (.mv (cI 0))]) (.block 0 (.loop [26, 25, 24, 8, 1, 6, 2] (.seq (.reg [gO 27 (.bin .lss (.s 26) (.s 25))]) (.seq (.cond (.s 27) .skip (.exit 0)) (.seq (.block 1 (.seq (.reg [gO 28 (.ia 6 (.s 24) (.s 26)), gO 29 (.ld (some 6) (.s 28)), gO 10 (.new (.agg [(.lit (.int .i64 0)), (.lit (.int .i64 0)), (.lit (.int .i64 0)), (.lit (.int .i64 0)), (.lit (.int .i64 0)), (.lit (.int .i64 0))])), ⟨none, none, .st 6 (.s 10) (.s 29)⟩]) (.reg [gO 30 (.mv (.s 8)), gO 31 (.fa 0 (.s 10)), gO 32 (.ld none (.s 31)), gO 33 (.fa 1 (.s 10)), gO 34 (.ld none (.s 33)), gO 35 (.build [(.lit (.int .i64 0)), (.lit (.int .i64 0)), (.lit (.int .i64 0)), (.lit (.int .i64 0)), (.lit (.int .i64 0))] [(0, (1, (.s 32))), (1, (1, (.s 34)))]), gO 36 (.fa 1 (.s 10)), gO 37 (.ld none (.s 36)), gO 38 (.fa 0 (.s 10)), gO 39 (.ld none (.s 38)), gO 40 (.build [(.lit (.int .i64 0)), (.lit (.int .i64 0)), (.lit (.int .i64 0)), (.lit (.int .i64 0)), (.lit (.int .i64 0))] [(0, (1, (.s 37))), (1, (1, (.s 39)))]), gO 41 (.bsl (.agg [(.lit (.int .i64 0)), (.lit (.int .i64 0)), (.lit (.int .i64 0)), (.lit (.int .i64 0)), (.lit (.int .i64 0))]) 5 2 [(0, (.s 35)), (1, (.s 40))]), gO 42 (.app 5 (.s 30) (.s 41)), gO 8 (.mv (.s 42))]))) (.reg [gO 43 (.bin .add (.s 26) (cI 1)), gO 26 (.mv (.s 43))]))))))) (.seq (.reg [gO 45 (.fa 0 (.s 1)), gO 46 (.ld none (.s 45)), gO 47 (.len (.s 46)), gO 48 (.mv (.s 8)), gO 49 (.bsl (.lit (.int .i64 0)) 1 1 [(0, (cI 0))]), gO 50 (.call 52 [.s 47, .s 48, .s 49]), gO 44 (.mv (.s 50)), gO 51 (.ext (.s 44) 0), gO 52 (.ext (.s 44) 1), gO 11 (.mv (.s 51)), gO 12 (.mv (.s 52))]) (.seq (.seq (.reg [gO 53 (.mv (.s 11)), gO 54 (.call 95 [.s 53]), gO 55 (.bin .eql (.s 54) (cI (-1099511627776)))]) (.cond (.s 55) (.seq (.reg [gO 56 (.ld (some 2) (.s 6)), ⟨none, none, .st 2 (.s 2) (.s 56)⟩, gO 3 (.nil0 5), gO 4 (.mv (cI 0)), gO 5 (.mv (cI 21))]) .ret) .skip)) (.seq (.reg [gO 57 (.ld (some 2) (.s 6)), gO 58 (.call 71 [.s 57]), gO 13 (.mv (.s 58))]) (.seq (.reg [gO 59 (.ld (some 2) (.s 6)), gO 60 (.ld (some 2) (.s 6)), gO 61 (.mv (.s 13)), gO 62 (.call 96 [.s 60, .s 61]), gO 63 (.ld (some 2) (.s 6)), gO 64 (.mv (.s 13)), gO 65 (.call 75 [.s 63, .s 64]), ⟨none, none, .st 2 (.s 2) (.s 59)⟩, gO 3 (.mv (.s 62)), gO 4 (.mv (.s 65)), gO 5 (.mv (cI 0))]) .ret)))))))))⟩
theorem mfW_q51 : MT.mf 51 = some mfW_l51 := by kernel_rfl
noncomputable def mfW_l52 : MF := ⟨125, [(.tmp 6), (.tmp 7)], (.seq (.reg [gO 6 (.nil0 1), gO 7 (.nil0 5)]) (.seq (.reg [gO 18 (.bsl (.lit (.int .i64 0)) 1 1 [(0, (cI (-1099511627776)))]), gO 19 (.mv (.s 0)), gO 20 (.call 97 [.s 18, .s 19]), gO 8 (.mv (.s 20))]) (.seq (.reg [gO 21 (.mv (.s 0)), gO 22 (.mks (.lit (.int .i64 0)) (.s 21)), gO 9 (.mv (.s 22))]) (.seq (.seq (.reg [gO 23 (.mv (.s 2)), gO 24 (.len (.s 23)), gO 25 (.mv (cI 0))]) (.block 0 (.loop [25, 24, 23, 8, 0, 1, 9] (.seq (.reg [gO 26 (.bin .lss (.s 25) (.s 24))]) (.seq (.cond (.s 26) .skip (.exit 0)) (.seq (.block 1 (.seq (.reg [gO 27 (.ia 1 (.s 23) (.s 25)), gO 28 (.ld none (.s 27)), gO 11 (.mv (.s 28))]) (.reg [gO 29 (.mv (.s 8)), gO 30 (.mv (.s 11)), gO 31 (.ia 1 (.s 29) (.s 30)), ⟨none, none, .st 1 (.s 31) (cI 0)⟩]))) (.reg [gO 32 (.bin .add (.s 25) (cI 1)), gO 25 (.mv (.s 32))]))))))) (.seq (.reg [gO 12 (.mv (cI (-1)))]) (.seq (.seq (.reg [gO 33 (.mv (.s 0)), gO 34 (.bin .add (.s 33) (cI 1)), gO 35 (.mv (cI 0))]) (.block 2 (.loop [35, 34, 1, 8, 9, 0, 12] (.seq (.reg [gO 36 (.bin .lss (.s 35) (.s 34))]) (.seq (.cond (.s 36) .skip (.exit 2)) (.seq (.block 3 (.seq (.reg [gO 12 (.mv (cI (-1)))]) (.seq (.seq (.reg [gO 37 (.mv (.s 1)), gO 38 (.len (.s 37)), gO 39 (.mv (cI 0))]) (.block 4 (.loop [39, 38, 37, 8, 9, 35, 34, 1, 0, 12] (.seq (.reg [gO 40 (.bin .lss (.s 39) (.s 38))]) (.seq (.cond (.s 40) .skip (.exit 4)) (.seq (.block 5 (.seq (.reg [gO 41 (.mv (.s 39)), gO 42 (.ia 5 (.s 37) (.s 39)), gO 43 (.ld (some 5) (.s 42)), gO 14 (.new (.agg [(.lit (.int .i64 0)), (.lit (.int .i64 0)), (.lit (.int .i64 0)), (.lit (.int .i64 0)), (.lit (.int .i64 0))])), gO 13 (.mv (.s 41)), ⟨none, none, .st 5 (.s 14) (.s 43)⟩]) (.seq (.reg [gO 44 (.mv (.s 8)), gO 45 (.fa 0 (.s 14)), gO 46 (.ld none (.s 45)), gO 47 (.ia 1 (.s 44) (.s 46)), gO 48 (.ld none (.s 47)), gO 49 (.fa 2 (.s 14)), gO 50 (.ld none (.s 49)), gO 51 (.bin .add (.s 48) (.s 50)), gO 15 (.mv (.s 51))]) (.seq (.reg [gO 52 (.mv (.s 8)), gO 53 (.fa 0 (.s 14)), gO 54 (.ld none (.s 53)), gO 55 (.ia 1 (.s 52) (.s 54)), gO 56 (.ld none (.s 55)), gO 57 (.bin .gtr (.s 56) (cI (-549755813888))), gO 58 (.mv (.s 57)), ⟨some (58, true), some 59, .mv (.s 15)⟩, ⟨some (58, true), some 60, .mv (.s 8)⟩, ⟨some (58, true), some 61, .fa 1 (.s 14)⟩, ⟨some (58, true), some 62, .ld none (.s 61)⟩, ⟨some (58, true), some 63, .ia 1 (.s 60) (.s 62)⟩, ⟨some (58, true), some 64, .ld none (.s 63)⟩, ⟨some (58, true), some 65, .bin .gtr (.s 59) (.s 64)⟩, gO 66 (.pick (.s 58) (.s 65) cF)]) (.cond (.s 66) (.reg [gO 67 (.mv (.s 8)), gO 68 (.fa 1 (.s 14)), gO 69 (.ld none (.s 68)), gO 70 (.mv (.s 9)), gO 71 (.fa 1 (.s 14)), gO 72 (.ld none (.s 71)), gO 73 (.mv (.s 15)), gO 74 (.mv (.s 13)), gO 75 (.fa 1 (.s 14)), gO 76 (.ld none (.s 75)), gO 77 (.ia 1 (.s 67) (.s 69)), ⟨none, none, .st 1 (.s 77) (.s 73)⟩, gO 78 (.ia 1 (.s 70) (.s 72)), ⟨none, none, .st 1 (.s 78) (.s 74)⟩, gO 12 (.mv (.s 76)), ⟨none, none, .ne (.s 71) (.s 77)⟩, ⟨none, none, .ne (.s 75) (.s 77)⟩, ⟨none, none, .ne (.s 75) (.s 78)⟩]) .skip))))) (.reg [gO 79 (.bin .add (.s 39) (cI 1)), gO 39 (.mv (.s 79))]))))))) (.seq (.reg [gO 80 (.mv (.s 12)), gO 81 (.bin .lss (.s 80) (cI 0))]) (.cond (.s 81) (.seq (.reg [gO 82 (.mv (.s 8)), gO 6 (.mv (.s 82)), gO 7 (.nil0 5)]) .ret) .skip))))) (.reg [gO 83 (.bin .add (.s 35) (cI 1)), gO 35 (.mv (.s 83))]))))))) (.seq (.seq (.reg [gO 84 (.mv (.s 0)), gO 85 (.mv (cI 0))]) (.block 6 (.loop [85, 84, 1, 9, 12, 8] (.seq (.reg [gO 86 (.bin .lss (.s 85) (.s 84))]) (.seq (.cond (.s 86) .skip (.exit 6)) (.seq (.block 7 (.reg [gO 87 (.mv (.s 1)), gO 88 (.mv (.s 9)), gO 89 (.mv (.s 12)), gO 90 (.ia 1 (.s 88) (.s 89)), gO 91 (.ld none (.s 90)), gO 92 (.ia 5 (.s 87) (.s 91)), gO 93 (.fa 0 (.s 92)), gO 94 (.ld none (.s 93)), gO 12 (.mv (.s 94))])) (.reg [gO 95 (.bin .add (.s 85) (cI 1)), gO 85 (.mv (.s 95))]))))))) (.seq (.reg [gO 16 (.nil0 5)]) (.seq (.seq (.reg [gO 96 (.mv (.s 12)), gO 17 (.mv (.s 96))]) (.block 8 (.loop [16, 17, 12, 1, 9, 8] (.seq (.seq (.reg [gO 97 (.mv (.s 16)), gO 98 (.len (.s 97)), gO 99 (.bin .eql (.s 98) (cI 0)), gO 100 (.mv (.s 99)), ⟨some (100, false), some 101, .mv (.s 17)⟩, ⟨some (100, false), some 102, .mv (.s 12)⟩, ⟨some (100, false), some 103, .bin .neq (.s 101) (.s 102)⟩, gO 104 (.pick (.s 100) cT (.s 103))]) (.cond (.s 104) .skip (.exit 8))) (.seq (.block 9 (.reg [gO 113 (.mv (.s 16)), gO 114 (.mv (.s 1)), gO 115 (.mv (.s 9)), gO 116 (.mv (.s 17)), gO 117 (.ia 1 (.s 115) (.s 116)), gO 118 (.ld none (.s 117)), gO 119 (.ia 5 (.s 114) (.s 118)), gO 120 (.ld (some 5) (.s 119)), gO 121 (.bsl (.agg [(.lit (.int .i64 0)), (.lit (.int .i64 0)), (.lit (.int .i64 0)), (.lit (.int .i64 0)), (.lit (.int .i64 0))]) 5 1 [(0, (.s 120))]), gO 122 (.app 5 (.s 113) (.s 121)), gO 16 (.mv (.s 122))])) (.reg [gO 105 (.mv (.s 1)), gO 106 (.mv (.s 9)), gO 107 (.mv (.s 17)), gO 108 (.ia 1 (.s 106) (.s 107)), gO 109 (.ld none (.s 108)), gO 110 (.ia 5 (.s 105) (.s 109)), gO 111 (.fa 0 (.s 110)), gO 112 (.ld none (.s 111)), gO 17 (.mv (.s 112))])))))) (.seq (.reg [gO 123 (.mv (.s 8)), gO 124 (.mv (.s 16)), gO 6 (.mv (.s 123)), gO 7 (.mv (.s 124))]) .ret))))))))))⟩
theorem mfW_q52 : MT.mf 52 = some mfW_l52 := by kernel_rfl
noncomputable def mfW_l53 : MF := ⟨14, [(.cell 2 (some 2)), (.tmp 3)], (.seq (.reg [gO 1 (.box 2 (.s 0)), gO 2 (.new (.agg [(.lit (.slice none 0 0)), (.lit (.slice none 0 0))])), gO 3 (.mv (cI 0))]) (.seq (.reg [gO 7 (.ld (some 2) (.s 1)), gO 8 (.call 68 [.s 7]), gO 6 (.mv (.s 8)), gO 9 (.ext (.s 6) 0), gO 10 (.ext (.s 6) 1), gO 4 (.mv (.s 9)), gO 5 (.mv (.s 10))]) (.seq (.reg [gO 11 (.ld (some 2) (.s 1)), gO 12 (.build [(.lit (.slice none 0 0)), (.lit (.slice none 0 0))] [(0, (2, (.s 11)))]), gO 13 (.mv (.s 5)), ⟨none, none, .st 2 (.s 2) (.s 12)⟩, gO 3 (.mv (.s 13))]) .ret)))⟩
theorem mfW_q53 : MT.mf 53 = some mfW_l53 := by kernel_rfl
noncomputable def mfW_l57 : MF := ⟨15, [(.tmp 2)], (.seq (.reg [gO 2 (.mv (cI 0))]) (.seq (.seq (.reg [gO 5 (.mv (.s 0)), gO 6 (.len (.s 5)), gO 7 (.mv (cI 0))]) (.block 0 (.loop [7, 6, 5] (.seq (.reg [gO 8 (.bin .lss (.s 7) (.s 6))]) (.seq (.cond (.s 8) .skip (.exit 0)) (.seq (.block 1 (.seq (.reg [gO 9 (.ia 1 (.s 5) (.s 7)), gO 10 (.ld none (.s 9)), gO 4 (.mv (.s 10))]) (.seq (.reg [gO 11 (.mv (.s 4)), gO 12 (.bin .neq (.s 11) (cI 0))]) (.cond (.s 12) (.seq (.reg [gO 13 (.mv (.s 4)), gO 2 (.mv (.s 13))]) .ret) .skip)))) (.reg [gO 14 (.bin .add (.s 7) (cI 1)), gO 7 (.mv (.s 14))]))))))) (.seq (.reg [gO 2 (.mv (cI 0))]) .ret)))⟩
theorem mfW_q57 : MT.mf 57 = some mfW_l57 := by kernel_rfl
noncomputable def mfW_l58 : MF := ⟨7, [(.tmp 4)], (.seq (.reg [gO 4 (.mv (cI 0))]) (.seq (.seq (.reg [gO 5 (.mv (.s 0))]) (.cond (.s 5) (.seq (.reg [gO 4 (.mv (cI 0))]) .ret) .skip)) (.seq (.reg [gO 6 (.mv (.s 1)), gO 4 (.mv (.s 6))]) .ret)))⟩
theorem mfW_q58 : MT.mf 58 = some mfW_l58 := by kernel_rfl
noncomputable def mfW_l59 : MF := ⟨15, [(.tmp 6)], (.seq (.reg [gO 6 (.mv cF)]) (.seq (.reg [gO 7 (.mv (.s 1)), gO 8 (.mv (.s 0)), gO 9 (.bin .leq (.s 7) (.s 8)), gO 10 (.mv (.s 9)), ⟨some (10, true), some 11, .mv (.s 0)⟩, ⟨some (10, true), some 12, .mv (.s 2)⟩, ⟨some (10, true), some 13, .bin .leq (.s 11) (.s 12)⟩, gO 14 (.pick (.s 10) (.s 13) cF), gO 6 (.mv (.s 14))]) .ret))⟩
theorem mfW_q59 : MT.mf 59 = some mfW_l59 := by kernel_rfl
noncomputable def mfW_l68 : MF := ⟨84, [(.tmp 2), (.tmp 3)], (.seq (.reg [gO 1 (.box 2 (.s 0)), gO 2 (.mv (cI 0)), gO 3 (.mv (cI 0))]) (.seq (.reg [gO 13 (.fa 0 (.s 1)), gO 14 (.ld none (.s 13)), gO 15 (.len (.s 14)), gO 16 (.bin .leq (.s 15) (cI 8)), gO 17 (.mv (.s 16)), ⟨some (17, true), some 18, .fa 1 (.s 1)⟩, ⟨some (17, true), some 19, .ld none (.s 18)⟩, ⟨some (17, true), some 20, .len (.s 19)⟩, ⟨some (17, true), some 21, .bin .leq (.s 20) (cI 16)⟩, gO 22 (.pick (.s 17) (.s 21) cF), gO 4 (.mv (.s 22))]) (.seq (.seq (.reg [gO 23 (.fa 0 (.s 1)), gO 24 (.ld none (.s 23)), gO 25 (.len (.s 24)), gO 26 (.bin .gtr (.s 25) (cI 0)), gO 27 (.call 58 [.s 26, (cI 10)]), gO 28 (.mv (.s 4)), gO 29 (.call 58 [.s 28, (cI 8)]), gO 30 (.bsl (.lit (.int .i64 0)) 1 2 [(0, (.s 27)), (1, (.s 29))]), gO 31 (.call 57 [.s 30]), gO 5 (.mv (.s 31))]) (.seq (.reg [gO 32 (.mv (.s 5)), gO 33 (.bin .neq (.s 32) (cI 0))]) (.cond (.s 33) (.seq (.reg [gO 34 (.mv (.s 5)), gO 2 (.mv (cI 0)), gO 3 (.mv (.s 34))]) .ret) .skip))) (.seq (.seq (.reg [gO 35 (.fa 0 (.s 1)), gO 36 (.ld none (.s 35)), gO 37 (.len (.s 36)), gO 38 (.mv (cI 0))]) (.block 0 (.loop [38, 37, 36, 1] (.seq (.reg [gO 39 (.bin .lss (.s 38) (.s 37))]) (.seq (.cond (.s 39) .skip (.exit 0)) (.seq (.block 1 (.seq (.reg [gO 40 (.mv (.s 38)), gO 41 (.ia 2 (.s 36) (.s 38)), gO 42 (.ld (some 2) (.s 41)), gO 7 (.new (.agg [(.lit (.string ⟨#[]⟩)), (.lit (.bool false))])), gO 6 (.mv (.s 40)), ⟨none, none, .st 2 (.s 7) (.s 42)⟩]) (.seq (.reg [gO 43 (.fa 0 (.s 1)), gO 44 (.ld none (.s 43)), gO 45 (.mv (.s 6)), gO 46 (.slc 2 (.s 44) none (some (.s 45))), gO 47 (.mf 106 0 [.s 7]), gO 48 (.call 105 [.s 46, .s 47]), gO 8 (.mv (.s 48))]) (.seq (.reg [gO 49 (.fa 0 (.s 7)), gO 50 (.ld none (.s 49)), gO 51 (.call 107 [.s 50]), gO 52 (.call 58 [.s 51, (cI 4)]), gO 53 (.mv (.s 8)), gO 54 (.un .not (.s 53)), gO 55 (.call 58 [.s 54, (cI 5)]), gO 56 (.bsl (.lit (.int .i64 0)) 1 2 [(0, (.s 52)), (1, (.s 55))]), gO 57 (.call 57 [.s 56]), gO 9 (.mv (.s 57))]) (.seq (.reg [gO 58 (.mv (.s 9)), gO 59 (.bin .neq (.s 58) (cI 0))]) (.cond (.s 59) (.seq (.reg [gO 60 (.mv (.s 6)), gO 61 (.mv (.s 9)), gO 2 (.mv (.s 60)), gO 3 (.mv (.s 61))]) .ret) .skip)))))) (.reg [gO 62 (.bin .add (.s 38) (cI 1)), gO 38 (.mv (.s 62))]))))))) (.seq (.seq (.reg [gO 63 (.fa 1 (.s 1)), gO 64 (.ld none (.s 63)), gO 65 (.len (.s 64)), gO 66 (.mv (cI 0))]) (.block 2 (.loop [66, 65, 64, 1] (.seq (.reg [gO 67 (.bin .lss (.s 66) (.s 65))]) (.seq (.cond (.s 67) .skip (.exit 2)) (.seq (.block 3 (.seq (.reg [gO 68 (.mv (.s 66)), gO 69 (.ia 6 (.s 64) (.s 66)), gO 70 (.ld (some 6) (.s 69)), gO 11 (.new (.agg [(.lit (.int .i64 0)), (.lit (.int .i64 0)), (.lit (.int .i64 0)), (.lit (.int .i64 0)), (.lit (.int .i64 0)), (.lit (.int .i64 0))])), gO 10 (.mv (.s 68)), ⟨none, none, .st 6 (.s 11) (.s 70)⟩]) (.seq (.reg [gO 71 (.fa 0 (.s 1)), gO 72 (.ld none (.s 71)), gO 73 (.fa 1 (.s 1)), gO 74 (.ld none (.s 73)), gO 75 (.mv (.s 10)), gO 76 (.slc 6 (.s 74) none (some (.s 75))), gO 77 (.ld (some 6) (.s 11)), gO 78 (.call 108 [.s 72, .s 76, .s 77]), gO 12 (.mv (.s 78))]) (.seq (.reg [gO 79 (.mv (.s 12)), gO 80 (.bin .neq (.s 79) (cI 0))]) (.cond (.s 80) (.seq (.reg [gO 81 (.mv (.s 10)), gO 82 (.mv (.s 12)), gO 2 (.mv (.s 81)), gO 3 (.mv (.s 82))]) .ret) .skip))))) (.reg [gO 83 (.bin .add (.s 66) (cI 1)), gO 66 (.mv (.s 83))]))))))) (.seq (.reg [gO 2 (.mv (cI 0)), gO 3 (.mv (cI 0))]) .ret))))))⟩
theorem mfW_q68 : MT.mf 68 = some mfW_l68 := by kernel_rfl
noncomputable def mfW_l71 : MF := ⟨76, [(.tmp 2)], (.seq (.reg [gO 1 (.box 2 (.s 0)), gO 2 (.nil0 1)]) (.seq (.reg [gO 11 (.fa 0 (.s 1)), gO 12 (.fa 1 (.s 11)), gO 13 (.ld none (.s 12)), gO 14 (.len (.s 13)), gO 15 (.mks (.lit (.int .i64 0)) (.s 14)), gO 3 (.mv (.s 15))]) (.block 0 (.loop [1, 3] (.block 1 (.seq (.reg [gO 17 (.fa 0 (.s 1)), gO 18 (.fa 0 (.s 17)), gO 19 (.ld none (.s 18)), gO 20 (.len (.s 19)), gO 21 (.ld (some 2) (.s 1)), gO 22 (.mv (.s 3)), gO 23 (.call 96 [.s 21, .s 22]), gO 24 (.ld (some 2) (.s 1)), gO 25 (.call 98 [.s 24]), gO 26 (.call 52 [.s 20, .s 23, .s 25]), gO 16 (.mv (.s 26)), gO 27 (.ext (.s 16) 0), gO 28 (.ext (.s 16) 1), gO 4 (.mv (.s 27)), gO 5 (.mv (.s 28))]) (.seq (.seq (.reg [gO 29 (.mv (.s 5)), gO 30 (.eqn false (.s 29))]) (.cond (.s 30) (.seq (.reg [gO 31 (.mv (.s 3)), gO 2 (.mv (.s 31))]) .ret) .skip)) (.seq (.reg [gO 6 (.mv (cI 20))]) (.seq (.seq (.reg [gO 32 (.mv (.s 5)), gO 33 (.len (.s 32)), gO 34 (.mv (cI 0))]) (.block 2 (.loop [34, 33, 32, 6, 1, 3, 5] (.seq (.reg [gO 35 (.bin .lss (.s 34) (.s 33))]) (.seq (.cond (.s 35) .skip (.exit 2)) (.seq (.block 3 (.seq (.reg [gO 36 (.ia 5 (.s 32) (.s 34)), gO 37 (.ld (some 5) (.s 36)), gO 8 (.new (.agg [(.lit (.int .i64 0)), (.lit (.int .i64 0)), (.lit (.int .i64 0)), (.lit (.int .i64 0)), (.lit (.int .i64 0))])), ⟨none, none, .st 5 (.s 8) (.s 37)⟩]) (.reg [gO 38 (.mv (.s 6)), gO 39 (.fa 0 (.s 1)), gO 40 (.fa 1 (.s 39)), gO 41 (.ld none (.s 40)), gO 42 (.fa 3 (.s 8)), gO 43 (.ld none (.s 42)), gO 44 (.ia 6 (.s 41) (.s 43)), gO 45 (.fa 5 (.s 44)), gO 46 (.ld none (.s 45)), gO 47 (.fa 4 (.s 8)), gO 48 (.ld none (.s 47)), gO 49 (.mv (.s 3)), gO 50 (.fa 3 (.s 8)), gO 51 (.ld none (.s 50)), gO 52 (.ia 1 (.s 49) (.s 51)), gO 53 (.ld none (.s 52)), gO 54 (.bin .mul (.s 48) (.s 53)), gO 55 (.bin .sub (.s 46) (.s 54)), gO 56 (.mn (.s 38) (.s 55)), gO 6 (.mv (.s 56))]))) (.reg [gO 57 (.bin .add (.s 34) (cI 1)), gO 34 (.mv (.s 57))]))))))) (.seq (.reg [gO 58 (.mv (.s 5)), gO 59 (.len (.s 58)), gO 60 (.mv (cI 0))]) (.block 4 (.loop [60, 59, 58, 3, 6, 1] (.seq (.reg [gO 61 (.bin .lss (.s 60) (.s 59))]) (.seq (.cond (.s 61) .skip (.exit 4)) (.seq (.block 5 (.seq (.reg [gO 62 (.ia 5 (.s 58) (.s 60)), gO 63 (.ld (some 5) (.s 62)), gO 10 (.new (.agg [(.lit (.int .i64 0)), (.lit (.int .i64 0)), (.lit (.int .i64 0)), (.lit (.int .i64 0)), (.lit (.int .i64 0))])), ⟨none, none, .st 5 (.s 10) (.s 63)⟩]) (.reg [gO 64 (.mv (.s 3)), gO 65 (.fa 3 (.s 10)), gO 66 (.ld none (.s 65)), gO 67 (.ia 1 (.s 64) (.s 66)), gO 68 (.ld none (.s 67)), gO 69 (.fa 4 (.s 10)), gO 70 (.ld none (.s 69)), gO 71 (.mv (.s 6)), gO 72 (.bin .mul (.s 70) (.s 71)), gO 73 (.bin .add (.s 68) (.s 72)), gO 74 (.ia 1 (.s 64) (.s 66)), ⟨none, none, .st 1 (.s 74) (.s 73)⟩]))) (.reg [gO 75 (.bin .add (.s 60) (cI 1)), gO 60 (.mv (.s 75))]))))))))))))))))⟩
theorem mfW_q71 : MT.mf 71 = some mfW_l71 := by kernel_rfl
noncomputable def mfW_l73 : MF := ⟨29, [(.tmp 4)], (.seq (.reg [gO 2 (.box 2 (.s 0)), gO 4 (.mv (cI 0))]) (.seq (.reg [gO 5 (.mv (cI 0))]) (.seq (.seq (.reg [gO 8 (.fa 0 (.s 2)), gO 9 (.fa 1 (.s 8)), gO 10 (.ld none (.s 9)), gO 11 (.len (.s 10)), gO 12 (.mv (cI 0))]) (.block 0 (.loop [12, 11, 10, 5, 1] (.seq (.reg [gO 13 (.bin .lss (.s 12) (.s 11))]) (.seq (.cond (.s 13) .skip (.exit 0)) (.seq (.block 1 (.seq (.reg [gO 14 (.mv (.s 12)), gO 15 (.ia 6 (.s 10) (.s 12)), gO 16 (.ld (some 6) (.s 15)), gO 7 (.new (.agg [(.lit (.int .i64 0)), (.lit (.int .i64 0)), (.lit (.int .i64 0)), (.lit (.int .i64 0)), (.lit (.int .i64 0)), (.lit (.int .i64 0))])), gO 6 (.mv (.s 14)), ⟨none, none, .st 6 (.s 7) (.s 16)⟩]) (.reg [gO 17 (.mv (.s 5)), gO 18 (.fa 5 (.s 7)), gO 19 (.ld none (.s 18)), gO 20 (.mv (.s 1)), gO 21 (.mv (.s 6)), gO 22 (.ia 1 (.s 20) (.s 21)), gO 23 (.ld none (.s 22)), gO 24 (.call 115 [.s 23]), gO 25 (.bin .mul (.s 19) (.s 24)), gO 26 (.bin .add (.s 17) (.s 25)), gO 5 (.mv (.s 26))]))) (.reg [gO 27 (.bin .add (.s 12) (cI 1)), gO 12 (.mv (.s 27))]))))))) (.seq (.reg [gO 28 (.mv (.s 5)), gO 4 (.mv (.s 28))]) .ret))))⟩
theorem mfW_q73 : MT.mf 73 = some mfW_l73 := by kernel_rfl
noncomputable def mfW_l75 : MF := ⟨28, [(.tmp 4)], (.seq (.reg [gO 2 (.box 2 (.s 0)), gO 4 (.mv (cI 0))]) (.seq (.reg [gO 5 (.mv (cI 0))]) (.seq (.seq (.reg [gO 8 (.fa 0 (.s 2)), gO 9 (.fa 1 (.s 8)), gO 10 (.ld none (.s 9)), gO 11 (.len (.s 10)), gO 12 (.mv (cI 0))]) (.block 0 (.loop [12, 11, 10, 5, 1] (.seq (.reg [gO 13 (.bin .lss (.s 12) (.s 11))]) (.seq (.cond (.s 13) .skip (.exit 0)) (.seq (.block 1 (.seq (.reg [gO 14 (.mv (.s 12)), gO 15 (.ia 6 (.s 10) (.s 12)), gO 16 (.ld (some 6) (.s 15)), gO 7 (.new (.agg [(.lit (.int .i64 0)), (.lit (.int .i64 0)), (.lit (.int .i64 0)), (.lit (.int .i64 0)), (.lit (.int .i64 0)), (.lit (.int .i64 0))])), gO 6 (.mv (.s 14)), ⟨none, none, .st 6 (.s 7) (.s 16)⟩]) (.reg [gO 17 (.mv (.s 5)), gO 18 (.mv (.s 1)), gO 19 (.mv (.s 6)), gO 20 (.ia 1 (.s 18) (.s 19)), gO 21 (.ld none (.s 20)), gO 22 (.fa 4 (.s 7)), gO 23 (.ld none (.s 22)), gO 24 (.bin .mul (.s 21) (.s 23)), gO 25 (.bin .add (.s 17) (.s 24)), gO 5 (.mv (.s 25))]))) (.reg [gO 26 (.bin .add (.s 12) (cI 1)), gO 12 (.mv (.s 26))]))))))) (.seq (.reg [gO 27 (.mv (.s 5)), gO 4 (.mv (.s 27))]) .ret))))⟩
theorem mfW_q75 : MT.mf 75 = some mfW_l75 := by kernel_rfl
noncomputable def mfW_l76 : MF := ⟨9, [(.tmp 4)], (.seq (.reg [gO 4 (.mv cF)]) (.seq (.reg [gO 5 (.mv (.s 0)), gO 6 (.mv (.s 1)), gO 7 (.call 116 [.s 5, .s 6]), gO 8 (.bin .geq (.s 7) (cI 0)), gO 4 (.mv (.s 8))]) .ret))⟩
theorem mfW_q76 : MT.mf 76 = some mfW_l76 := by kernel_rfl
noncomputable def mfW_l77 : MF := ⟨13, [(.tmp 2)], (.seq (.reg [gO 1 (.box 2 (.s 0)), gO 2 (.mv cF)]) (.seq (.reg [gO 3 (.fa 0 (.s 1)), gO 4 (.ld none (.s 3)), gO 5 (.call 78 [.s 4]), gO 6 (.un .not (.s 5)), gO 7 (.mv (.s 6)), ⟨some (7, false), some 8, .fa 1 (.s 1)⟩, ⟨some (7, false), some 9, .ld none (.s 8)⟩, ⟨some (7, false), some 10, .call 48 [.s 9, (cI 1000000)]⟩, ⟨some (7, false), some 11, .un .not (.s 10)⟩, gO 12 (.pick (.s 7) cT (.s 11)), gO 2 (.mv (.s 12))]) .ret))⟩
theorem mfW_q77 : MT.mf 77 = some mfW_l77 := by kernel_rfl
noncomputable def mfW_l78 : MF := ⟨5, [(.tmp 2)], (.seq (.reg [gO 2 (.mv cF)]) (.seq (.reg [gO 3 (.mv (.s 0)), gO 4 (.call 59 [.s 3, (cI 0), (cI 1000000)]), gO 2 (.mv (.s 4))]) .ret))⟩
theorem mfW_q78 : MT.mf 78 = some mfW_l78 := by kernel_rfl
noncomputable def mfW_l79 : MF := ⟨14, [], (.seq (.reg [gO 5 (.mv (.s 0)), gO 6 (.len (.s 5)), gO 4 (.mv (.s 6))]) (.reg [gO 7 (.mv (.s 0)), gO 8 (.mv (.s 4)), gO 9 (.mv (.s 4)), gO 10 (.cv .u64 (.s 9)), gO 11 (.call 118 [.s 10]), gO 12 (.mv (.s 1)), gO 13 (.call 117 [.s 7, (cI 0), .s 8, .s 11, .s 12])]))⟩
theorem mfW_q79 : MT.mf 79 = some mfW_l79 := by kernel_rfl
noncomputable def mfW_l81 : MF := ⟨20, [(.tmp 4)], (.seq (.reg [gO 4 (.mv (cI 0))]) (.seq (.reg [gO 7 (.mv (.s 0)), gO 8 (.call 119 [.s 7]), gO 5 (.mv (.s 8))]) (.seq (.reg [gO 9 (.mv (.s 1)), gO 10 (.call 119 [.s 9]), gO 6 (.mv (.s 10))]) (.seq (.seq (.reg [gO 11 (.mv (.s 5))]) (.cond (.s 11) (.seq (.seq (.reg [gO 12 (.mv (.s 6))]) (.cond (.s 12) (.seq (.reg [gO 4 (.mv (cI 0))]) .ret) .skip)) (.seq (.reg [gO 4 (.mv (cI (-1)))]) .ret)) .skip)) (.seq (.seq (.reg [gO 13 (.mv (.s 6))]) (.cond (.s 13) (.seq (.reg [gO 4 (.mv (cI 1))]) .ret) .skip)) (.seq (.seq (.reg [gO 14 (.mv (.s 0)), gO 15 (.mv (.s 1)), gO 16 (.bin .lss (.s 14) (.s 15))]) (.cond (.s 16) (.seq (.reg [gO 4 (.mv (cI (-1)))]) .ret) .skip)) (.seq (.seq (.reg [gO 17 (.mv (.s 0)), gO 18 (.mv (.s 1)), gO 19 (.bin .gtr (.s 17) (.s 18))]) (.cond (.s 19) (.seq (.reg [gO 4 (.mv (cI 1))]) .ret) .skip)) (.seq (.reg [gO 4 (.mv (cI 0))]) .ret))))))))⟩
theorem mfW_q81 : MT.mf 81 = some mfW_l81 := by kernel_rfl
noncomputable def mfW_l82 : MF := ⟨77, [(.tmp 4), (.tmp 5)], (.seq (.reg [gO 4 (.mv (cI 0)), gO 5 (.mv (cI 0))]) (.seq (.seq (.reg [gO 10 (.mv (.s 0)), gO 11 (.len (.s 10)), gO 12 (.bin .eql (.s 11) (cI 0))]) (.cond (.s 12) (.seq (.reg [gO 4 (.mv (cI 0)), gO 5 (.mv (cI 1))]) .ret) .skip)) (.seq (.reg [gO 14 (.mv (.s 0)), gO 15 (.mv (.s 1)), gO 16 (.call 120 [.s 14, .s 15, (.c (.fn 121 0 []))]), gO 13 (.mv (.s 16)), gO 17 (.ext (.s 13) 0), gO 18 (.ext (.s 13) 1), gO 6 (.mv (.s 17)), gO 7 (.mv (.s 18))]) (.seq (.block 0 (.seq (.reg [gO 20 (.mv (.s 7)), gO 19 (.mv (.s 20))]) (.cond (.s 19) (.seq (.reg [gO 21 (.mv (.s 0)), gO 22 (.mv (.s 6)), gO 23 (.ia 2 (.s 21) (.s 22)), gO 24 (.fa 1 (.s 23)), gO 25 (.ld none (.s 24)), gO 4 (.mv (.s 25)), gO 5 (.mv (cI 1))]) .ret) (.seq (.reg [gO 27 (.mv (.s 6)), gO 28 (.bin .eql (.s 27) (cI 0)), gO 26 (.mv (.s 28))]) (.cond (.s 26) (.seq (.reg [gO 29 (.mv (.s 0)), gO 30 (.ia 2 (.s 29) (cI 0)), gO 31 (.fa 1 (.s 30)), gO 32 (.ld none (.s 31)), gO 4 (.mv (.s 32)), gO 5 (.mv (cI 1))]) .ret) (.seq (.reg [gO 34 (.mv (.s 6)), gO 35 (.mv (.s 0)), gO 36 (.len (.s 35)), gO 37 (.bin .eql (.s 34) (.s 36)), gO 33 (.mv (.s 37))]) (.cond (.s 33) (.seq (.reg [gO 38 (.mv (.s 0)), gO 39 (.mv (.s 6)), gO 40 (.bin .sub (.s 39) (cI 1)), gO 41 (.ia 2 (.s 38) (.s 40)), gO 42 (.fa 1 (.s 41)), gO 43 (.ld none (.s 42)), gO 4 (.mv (.s 43)), gO 5 (.mv (cI 1))]) .ret) .skip))))))) (.seq (.reg [gO 8 (.new (.agg [(.lit (.int .i64 0)), (.lit (.int .i64 0))])), gO 9 (.new (.agg [(.lit (.int .i64 0)), (.lit (.int .i64 0))])), gO 44 (.mv (.s 0)), gO 45 (.mv (.s 6)), gO 46 (.bin .sub (.s 45) (cI 1)), gO 47 (.ia 2 (.s 44) (.s 46)), gO 48 (.ld (some 2) (.s 47)), gO 49 (.mv (.s 0)), gO 50 (.mv (.s 6)), gO 51 (.ia 2 (.s 49) (.s 50)), gO 52 (.ld (some 2) (.s 51)), gO 8 (.nilck (.s 8)), gO 9 (.nilck (.s 9)), ⟨none, none, .st 2 (.s 8) (.s 48)⟩, ⟨none, none, .st 2 (.s 9) (.s 52)⟩, ⟨none, none, .ne (.s 51) (.s 8)⟩]) (.seq (.reg [gO 53 (.fa 1 (.s 8)), gO 54 (.ld none (.s 53)), gO 55 (.fa 0 (.s 9)), gO 56 (.ld none (.s 55)), gO 57 (.fa 0 (.s 8)), gO 58 (.ld none (.s 57)), gO 59 (.bin .sub (.s 56) (.s 58)), gO 60 (.bin .mul (.s 54) (.s 59)), gO 61 (.fa 1 (.s 9)), gO 62 (.ld none (.s 61)), gO 63 (.fa 1 (.s 8)), gO 64 (.ld none (.s 63)), gO 65 (.bin .sub (.s 62) (.s 64)), gO 66 (.mv (.s 1)), gO 67 (.fa 0 (.s 8)), gO 68 (.ld none (.s 67)), gO 69 (.bin .sub (.s 66) (.s 68)), gO 70 (.bin .mul (.s 65) (.s 69)), gO 71 (.bin .add (.s 60) (.s 70)), gO 72 (.fa 0 (.s 9)), gO 73 (.ld none (.s 72)), gO 74 (.fa 0 (.s 8)), gO 75 (.ld none (.s 74)), gO 76 (.bin .sub (.s 73) (.s 75)), gO 4 (.mv (.s 71)), gO 5 (.mv (.s 76))]) .ret))))))⟩
theorem mfW_q82 : MT.mf 82 = some mfW_l82 := by kernel_rfl
noncomputable def mfW_l83 : MF := ⟨27, [(.cell 4 (some 2))], (.seq (.reg [gO 4 (.new (.agg [(.lit (.int .i64 0)), (.lit (.int .i64 0))]))]) (.seq (.reg [gO 7 (.mv (.s 0)), gO 8 (.mv (.s 1)), gO 9 (.bin .quo (.s 7) (.s 8)), gO 5 (.mv (.s 9))]) (.seq (.seq (.reg [gO 10 (.mv (.s 0)), gO 11 (.mv (.s 1)), gO 12 (.bin .rem (.s 10) (.s 11)), gO 13 (.bin .lss (.s 12) (cI 0))]) (.cond (.s 13) (.reg [gO 14 (.mv (.s 5)), gO 15 (.bin .sub (.s 14) (cI 1)), gO 5 (.mv (.s 15))]) .skip)) (.seq (.reg [gO 16 (.mv (.s 5)), gO 6 (.mv (.s 16))]) (.seq (.seq (.reg [gO 17 (.mv (.s 5)), gO 18 (.mv (.s 1)), gO 19 (.bin .mul (.s 17) (.s 18)), gO 20 (.mv (.s 0)), gO 21 (.bin .neq (.s 19) (.s 20))]) (.cond (.s 21) (.reg [gO 22 (.mv (.s 6)), gO 23 (.bin .add (.s 22) (cI 1)), gO 6 (.mv (.s 23))]) .skip)) (.seq (.reg [gO 24 (.mv (.s 5)), gO 25 (.mv (.s 6)), gO 26 (.build [(.lit (.int .i64 0)), (.lit (.int .i64 0))] [(0, (1, (.s 24))), (1, (1, (.s 25)))]), ⟨none, none, .st 2 (.s 4) (.s 26)⟩]) .ret))))))⟩
theorem mfW_q83 : MT.mf 83 = some mfW_l83 := by kernel_rfl
noncomputable def mfW_l84 : MF := ⟨6, [(.tmp 2)], (.seq (.reg [gO 2 (.mv cF)]) (.seq (.reg [gO 3 (.mv (.s 0)), gO 4 (.call 48 [.s 3, (cI 10000)]), gO 5 (.un .not (.s 4)), gO 2 (.mv (.s 5))]) .ret))⟩
theorem mfW_q84 : MT.mf 84 = some mfW_l84 := by kernel_rfl
noncomputable def mfW_l86 : MF := ⟨30, [(.tmp 4)], (.seq (.reg [gO 2 (.box 2 (.s 0)), gO 4 (.mv (cI 0))]) (.seq (.reg [gO 7 (.mv (.s 1)), gO 8 (.call 46 [.s 7, (.c (.fn 122 0 []))]), gO 5 (.mv (.s 8))]) (.seq (.reg [gO 9 (.mv (.s 1)), gO 10 (.len (.s 9)), gO 11 (.fa 0 (.s 2)), gO 12 (.fa 0 (.s 11)), gO 13 (.ld none (.s 12)), gO 14 (.len (.s 13)), gO 15 (.bin .eql (.s 10) (.s 14)), gO 16 (.call 58 [.s 15, (cI 10)]), gO 17 (.mv (.s 5)), gO 18 (.un .not (.s 17)), gO 19 (.call 58 [.s 18, (cI 2)]), gO 20 (.bsl (.lit (.int .i64 0)) 1 2 [(0, (.s 16)), (1, (.s 19))]), gO 21 (.call 57 [.s 20]), gO 6 (.mv (.s 21))]) (.seq (.seq (.reg [gO 22 (.mv (.s 6)), gO 23 (.bin .eql (.s 22) (cI 0))]) (.cond (.s 23) (.reg [gO 24 (.mv (.s 1)), gO 25 (.ia 1 (.s 24) (cI 0)), gO 26 (.ld none (.s 25)), gO 27 (.bin .eql (.s 26) (cI 0)), gO 28 (.call 58 [.s 27, (cI 3)]), gO 6 (.mv (.s 28))]) .skip)) (.seq (.reg [gO 29 (.mv (.s 6)), gO 4 (.mv (.s 29))]) .ret)))))⟩
theorem mfW_q86 : MT.mf 86 = some mfW_l86 := by kernel_rfl
noncomputable def mfW_l87 : MF := ⟨19, [(.tmp 4)], (.seq (.reg [gO 4 (.mv (cI 0))]) (.seq (.seq (.reg [gO 6 (.mv (.s 0)), gO 7 (.len (.s 6)), gO 8 (.mv (cI 0))]) (.block 0 (.loop [8, 7, 1, 0] (.seq (.reg [gO 9 (.bin .lss (.s 8) (.s 7))]) (.seq (.cond (.s 9) .skip (.exit 0)) (.seq (.block 1 (.seq (.reg [gO 10 (.mv (.s 8)), gO 5 (.mv (.s 10))]) (.seq (.reg [gO 11 (.mv (.s 1)), gO 12 (.mv (.s 0)), gO 13 (.mv (.s 5)), gO 14 (.ia 1 (.s 12) (.s 13)), gO 15 (.ld none (.s 14)), gO 16 (.callv (.s 11) [.s 15])]) (.cond (.s 16) (.seq (.reg [gO 17 (.mv (.s 5)), gO 4 (.mv (.s 17))]) .ret) .skip)))) (.reg [gO 18 (.bin .add (.s 8) (cI 1)), gO 8 (.mv (.s 18))]))))))) (.seq (.reg [gO 4 (.mv (cI (-1)))]) .ret)))⟩
theorem mfW_q87 : MT.mf 87 = some mfW_l87 := by kernel_rfl
noncomputable def mfW_l88 : MF := ⟨8, [(.tmp 2)], (.seq (.reg [gO 2 (.nil0 2)]) (.seq (.seq (.reg [gO 3 (.mv (.s 0)), gO 4 (.eqn false (.s 3))]) (.cond (.s 4) (.seq (.reg [gO 2 (.nil0 2)]) .ret) .skip)) (.seq (.reg [gO 5 (.bsl (.agg [(.lit (.string ⟨#[]⟩)), (.lit (.bool false))]) 2 0 []), gO 6 (.mv (.s 0)), gO 7 (.app 2 (.s 5) (.s 6)), gO 2 (.mv (.s 7))]) .ret)))⟩
theorem mfW_q88 : MT.mf 88 = some mfW_l88 := by kernel_rfl
noncomputable def mfW_l89 : MF := ⟨8, [(.tmp 2)], (.seq (.reg [gO 2 (.nil0 6)]) (.seq (.seq (.reg [gO 3 (.mv (.s 0)), gO 4 (.eqn false (.s 3))]) (.cond (.s 4) (.seq (.reg [gO 2 (.nil0 6)]) .ret) .skip)) (.seq (.reg [gO 5 (.bsl (.agg [(.lit (.int .i64 0)), (.lit (.int .i64 0)), (.lit (.int .i64 0)), (.lit (.int .i64 0)), (.lit (.int .i64 0)), (.lit (.int .i64 0))]) 6 0 []), gO 6 (.mv (.s 0)), gO 7 (.app 6 (.s 5) (.s 6)), gO 2 (.mv (.s 7))]) .ret)))⟩
theorem mfW_q89 : MT.mf 89 = some mfW_l89 := by kernel_rfl
noncomputable def mfW_l95 : MF := ⟨25, [(.tmp 2)], (.seq (.reg [gO 2 (.mv (cI 0))]) (.seq (.seq (.reg [gO 5 (.mv (.s 0)), gO 6 (.len (.s 5)), gO 7 (.bin .lss (.s 6) (cI 1))]) (.cond (.s 7) (.reg [gO 8 (.bad), ⟨none, none, .bad⟩]) .skip)) (.seq (.reg [gO 9 (.mv (.s 0)), gO 10 (.ia 1 (.s 9) (cI 0)), gO 11 (.ld none (.s 10)), gO 3 (.mv (.s 11))]) (.seq (.seq (.reg [gO 4 (.mv (cI 1))]) (.block 0 (.loop [4, 0, 3] (.seq (.seq (.reg [gO 12 (.mv (.s 4)), gO 13 (.mv (.s 0)), gO 14 (.len (.s 13)), gO 15 (.bin .lss (.s 12) (.s 14))]) (.cond (.s 15) .skip (.exit 0))) (.seq (.block 1 (.reg [gO 18 (.mv (.s 3)), gO 19 (.mv (.s 0)), gO 20 (.mv (.s 4)), gO 21 (.ia 1 (.s 19) (.s 20)), gO 22 (.ld none (.s 21)), gO 23 (.mn (.s 18) (.s 22)), gO 3 (.mv (.s 23))])) (.reg [gO 16 (.mv (.s 4)), gO 17 (.bin .add (.s 16) (cI 1)), gO 4 (.mv (.s 17))])))))) (.seq (.reg [gO 24 (.mv (.s 3)), gO 2 (.mv (.s 24))]) .ret)))))⟩
theorem mfW_q95 : MT.mf 95 = some mfW_l95 := by kernel_rfl
noncomputable def mfW_l96 : MF := ⟨57, [(.tmp 4)], (.seq (.reg [gO 2 (.box 2 (.s 0)), gO 4 (.nil0 5)]) (.seq (.reg [gO 5 (.nil0 5)]) (.seq (.seq (.reg [gO 8 (.fa 0 (.s 2)), gO 9 (.fa 1 (.s 8)), gO 10 (.ld none (.s 9)), gO 11 (.len (.s 10)), gO 12 (.mv (cI 0))]) (.block 0 (.loop [12, 11, 10, 1, 5] (.seq (.reg [gO 13 (.bin .lss (.s 12) (.s 11))]) (.seq (.cond (.s 13) .skip (.exit 0)) (.seq (.block 1 (.seq (.reg [gO 14 (.mv (.s 12)), gO 15 (.ia 6 (.s 10) (.s 12)), gO 16 (.ld (some 6) (.s 15)), gO 7 (.new (.agg [(.lit (.int .i64 0)), (.lit (.int .i64 0)), (.lit (.int .i64 0)), (.lit (.int .i64 0)), (.lit (.int .i64 0)), (.lit (.int .i64 0))])), gO 6 (.mv (.s 14)), ⟨none, none, .st 6 (.s 7) (.s 16)⟩]) (.seq (.seq (.reg [gO 17 (.mv (.s 1)), gO 18 (.mv (.s 6)), gO 19 (.ia 1 (.s 17) (.s 18)), gO 20 (.ld none (.s 19)), gO 21 (.fa 5 (.s 7)), gO 22 (.ld none (.s 21)), gO 23 (.bin .lss (.s 20) (.s 22))]) (.cond (.s 23) (.reg [gO 24 (.mv (.s 5)), gO 25 (.fa 1 (.s 7)), gO 26 (.ld none (.s 25)), gO 27 (.fa 0 (.s 7)), gO 28 (.ld none (.s 27)), gO 29 (.fa 4 (.s 7)), gO 30 (.ld none (.s 29)), gO 31 (.mv (.s 6)), gO 32 (.build [(.lit (.int .i64 0)), (.lit (.int .i64 0)), (.lit (.int .i64 0)), (.lit (.int .i64 0)), (.lit (.int .i64 0))] [(0, (1, (.s 26))), (1, (1, (.s 28))), (2, (1, (.s 30))), (3, (1, (.s 31))), (4, (1, (cI 1)))]), gO 33 (.bsl (.agg [(.lit (.int .i64 0)), (.lit (.int .i64 0)), (.lit (.int .i64 0)), (.lit (.int .i64 0)), (.lit (.int .i64 0))]) 5 1 [(0, (.s 32))]), gO 34 (.app 5 (.s 24) (.s 33)), gO 5 (.mv (.s 34))]) .skip)) (.seq (.reg [gO 35 (.mv (.s 1)), gO 36 (.mv (.s 6)), gO 37 (.ia 1 (.s 35) (.s 36)), gO 38 (.ld none (.s 37)), gO 39 (.fa 5 (.s 7)), gO 40 (.ld none (.s 39)), gO 41 (.un .neg (.s 40)), gO 42 (.bin .gtr (.s 38) (.s 41))]) (.cond (.s 42) (.reg [gO 43 (.mv (.s 5)), gO 44 (.fa 0 (.s 7)), gO 45 (.ld none (.s 44)), gO 46 (.fa 1 (.s 7)), gO 47 (.ld none (.s 46)), gO 48 (.fa 4 (.s 7)), gO 49 (.ld none (.s 48)), gO 50 (.un .neg (.s 49)), gO 51 (.mv (.s 6)), gO 52 (.build [(.lit (.int .i64 0)), (.lit (.int .i64 0)), (.lit (.int .i64 0)), (.lit (.int .i64 0)), (.lit (.int .i64 0))] [(0, (1, (.s 45))), (1, (1, (.s 47))), (2, (1, (.s 50))), (3, (1, (.s 51))), (4, (1, (cI (-1))))]), gO 53 (.bsl (.agg [(.lit (.int .i64 0)), (.lit (.int .i64 0)), (.lit (.int .i64 0)), (.lit (.int .i64 0)), (.lit (.int .i64 0))]) 5 1 [(0, (.s 52))]), gO 54 (.app 5 (.s 43) (.s 53)), gO 5 (.mv (.s 54))]) .skip))))) (.reg [gO 55 (.bin .add (.s 12) (cI 1)), gO 12 (.mv (.s 55))]))))))) (.seq (.reg [gO 56 (.mv (.s 5)), gO 4 (.mv (.s 56))]) .ret))))⟩
theorem mfW_q96 : MT.mf 96 = some mfW_l96 := by kernel_rfl
noncomputable def mfW_l97 : MF := ⟨48, [(.tmp 4)], (.seq (.reg [gO 4 (.nil0 1)]) (.seq (.seq (.reg [gO 9 (.mv (.s 1)), gO 10 (.bin .lss (.s 9) (cI 0))]) (.cond (.s 10) (.reg [gO 11 (.bad), ⟨none, none, .bad⟩]) .skip)) (.seq (.reg [gO 13 (.mv (.s 0)), gO 14 (.len (.s 13)), gO 15 (.cv .u64 (.s 14)), gO 16 (.mv (.s 1)), gO 17 (.cv .u64 (.s 16)), gO 18 (.call 123 [.s 15, .s 17]), gO 12 (.mv (.s 18)), gO 19 (.ext (.s 12) 0), gO 20 (.ext (.s 12) 1), gO 5 (.mv (.s 19)), gO 6 (.mv (.s 20))]) (.seq (.seq (.reg [gO 21 (.mv (.s 5)), gO 22 (.bin .gtr (.s 21) (.c (.lit (.int .u64 0)))), gO 23 (.mv (.s 22)), ⟨some (23, false), some 24, .mv (.s 6)⟩, ⟨some (23, false), some 25, .bin .gtr (.s 24) (.c (.lit (.int .u64 9223372036854775807)))⟩, gO 26 (.pick (.s 23) cT (.s 25))]) (.cond (.s 26) (.reg [gO 27 (.bad), ⟨none, none, .bad⟩]) .skip)) (.seq (.reg [gO 28 (.mv (.s 6)), gO 29 (.cv .i64 (.s 28)), gO 30 (.mks (.lit (.int .i64 0)) (.s 29)), gO 7 (.mv (.s 30))]) (.seq (.reg [gO 31 (.mv (.s 7)), gO 32 (.mv (.s 0)), gO 33 (.cpy (.s 31) (.s 32)), gO 8 (.mv (.s 33))]) (.seq (.block 0 (.loop [8, 7] (.seq (.seq (.reg [gO 34 (.mv (.s 8)), gO 35 (.mv (.s 7)), gO 36 (.len (.s 35)), gO 37 (.bin .lss (.s 34) (.s 36))]) (.cond (.s 37) .skip (.exit 0))) (.block 1 (.reg [gO 38 (.mv (.s 8)), gO 39 (.mv (.s 7)), gO 40 (.mv (.s 8)), gO 41 (.slc 1 (.s 39) (some (.s 40)) none), gO 42 (.mv (.s 7)), gO 43 (.mv (.s 8)), gO 44 (.slc 1 (.s 42) none (some (.s 43))), gO 45 (.cpy (.s 41) (.s 44)), gO 46 (.bin .add (.s 38) (.s 45)), gO 8 (.mv (.s 46))]))))) (.seq (.reg [gO 47 (.mv (.s 7)), gO 4 (.mv (.s 47))]) .ret))))))))⟩
theorem mfW_q97 : MT.mf 97 = some mfW_l97 := by kernel_rfl
noncomputable def mfW_l98 : MF := ⟨18, [(.tmp 2)], (.seq (.reg [gO 1 (.box 2 (.s 0)), gO 2 (.nil0 1)]) (.seq (.reg [gO 3 (.nil0 1)]) (.seq (.seq (.reg [gO 5 (.fa 0 (.s 1)), gO 6 (.fa 0 (.s 5)), gO 7 (.ld none (.s 6)), gO 8 (.len (.s 7)), gO 9 (.mv (cI 0))]) (.block 0 (.loop [9, 8, 3] (.seq (.reg [gO 10 (.bin .lss (.s 9) (.s 8))]) (.seq (.cond (.s 10) .skip (.exit 0)) (.seq (.block 1 (.seq (.reg [gO 11 (.mv (.s 9)), gO 4 (.mv (.s 11))]) (.reg [gO 12 (.mv (.s 3)), gO 13 (.mv (.s 4)), gO 14 (.bsl (.lit (.int .i64 0)) 1 1 [(0, (.s 13))]), gO 15 (.app 1 (.s 12) (.s 14)), gO 3 (.mv (.s 15))]))) (.reg [gO 16 (.bin .add (.s 9) (cI 1)), gO 9 (.mv (.s 16))]))))))) (.seq (.reg [gO 17 (.mv (.s 3)), gO 2 (.mv (.s 17))]) .ret))))⟩
theorem mfW_q98 : MT.mf 98 = some mfW_l98 := by kernel_rfl
noncomputable def mfW_l105 : MF := ⟨9, [(.tmp 4)], (.seq (.reg [gO 4 (.mv cF)]) (.seq (.reg [gO 5 (.mv (.s 0)), gO 6 (.mv (.s 1)), gO 7 (.call 132 [.s 5, .s 6]), gO 8 (.bin .geq (.s 7) (cI 0)), gO 4 (.mv (.s 8))]) .ret))⟩
theorem mfW_q105 : MT.mf 105 = some mfW_l105 := by kernel_rfl
noncomputable def mfW_l106 : MF := ⟨9, [(.tmp 3)], (.seq (.reg [gO 2 (.box 2 (.s 0)), gO 3 (.mv cF)]) (.seq (.reg [gO 4 (.fa 0 (.s 2)), gO 5 (.ld none (.s 4)), gO 6 (.fa 0 (.s 1)), gO 7 (.ld none (.s 6)), gO 8 (.seq false (.s 5) (.s 7)), gO 3 (.mv (.s 8))]) .ret))⟩
theorem mfW_q106 : MT.mf 106 = some mfW_l106 := by kernel_rfl
noncomputable def mfW_l107 : MF := ⟨38, [(.tmp 2)], (.seq (.reg [gO 2 (.mv cF)]) (.seq (.seq (.reg [gO 6 (.mv (.s 0)), gO 7 (.s2b (.s 6)), gO 8 (.len (.s 7)), gO 9 (.mv (cI 0))]) (.block 0 (.loop [9, 8, 7, 0] (.seq (.reg [gO 10 (.bin .lss (.s 9) (.s 8))]) (.seq (.cond (.s 10) .skip (.exit 0)) (.seq (.block 1 (.seq (.reg [gO 11 (.mv (.s 9)), gO 12 (.ia 1 (.s 7) (.s 9)), gO 13 (.ld none (.s 12)), gO 3 (.mv (.s 11)), gO 4 (.mv (.s 13))]) (.seq (.reg [gO 14 (.mv (.s 4)), gO 15 (.bin .or (.s 14) (.c (.lit (.int .u8 32)))), gO 16 (.cv .i64 (.s 15)), gO 17 (.call 59 [.s 16, (cI 97), (cI 122)]), gO 5 (.mv (.s 17))]) (.seq (.reg [gO 18 (.mv (.s 5)), gO 19 (.un .not (.s 18)), gO 20 (.mv (.s 19)), ⟨some (20, true), some 21, .mv (.s 3)⟩, ⟨some (20, true), some 22, .bin .eql (.s 21) (cI 0)⟩, ⟨some (20, true), some 23, .mv (.s 22)⟩, ⟨some (23, false), some 24, .mv (.s 4)⟩, ⟨some (23, false), some 25, .bin .neq (.s 24) (.c (.lit (.int .u8 45)))⟩, ⟨some (23, false), some 26, .mv (.s 25)⟩, ⟨some (26, true), some 27, .mv (.s 4)⟩, ⟨some (26, true), some 28, .cv .i64 (.s 27)⟩, ⟨some (26, true), some 29, .call 59 [.s 28, (cI 48), (cI 57)]⟩, ⟨some (26, true), some 30, .un .not (.s 29)⟩, ⟨some (23, false), some 31, .pick (.s 26) (.s 30) cF⟩, ⟨some (20, true), some 32, .pick (.s 23) cT (.s 31)⟩, gO 33 (.pick (.s 20) (.s 32) cF)]) (.cond (.s 33) (.seq (.reg [gO 2 (.mv cF)]) .ret) .skip))))) (.reg [gO 34 (.bin .add (.s 9) (cI 1)), gO 9 (.mv (.s 34))]))))))) (.seq (.reg [gO 35 (.mv (.s 0)), gO 36 (.sln (.s 35)), gO 37 (.call 59 [.s 36, (cI 1), (cI 12)]), gO 2 (.mv (.s 37))]) .ret)))⟩
theorem mfW_q107 : MT.mf 107 = some mfW_l107 := by kernel_rfl
noncomputable def mfW_l108 : MF := ⟨69, [(.tmp 6)], (.seq (.reg [gO 5 (.box 6 (.s 2)), gO 6 (.mv (cI 0))]) (.seq (.seq (.reg [gO 9 (.fa 0 (.s 5)), gO 10 (.ld none (.s 9)), gO 11 (.mv (.s 0)), gO 12 (.len (.s 11)), gO 13 (.bin .sub (.s 12) (cI 1)), gO 14 (.call 59 [.s 10, (cI 0), .s 13]), gO 15 (.un .not (.s 14)), gO 16 (.mv (.s 15)), ⟨some (16, false), some 17, .fa 1 (.s 5)⟩, ⟨some (16, false), some 18, .ld none (.s 17)⟩, ⟨some (16, false), some 19, .mv (.s 0)⟩, ⟨some (16, false), some 20, .len (.s 19)⟩, ⟨some (16, false), some 21, .bin .sub (.s 20) (cI 1)⟩, ⟨some (16, false), some 22, .call 59 [.s 18, (cI 0), .s 21]⟩, ⟨some (16, false), some 23, .un .not (.s 22)⟩, gO 24 (.pick (.s 16) cT (.s 23))]) (.cond (.s 24) (.seq (.reg [gO 6 (.mv (cI 6))]) .ret) .skip)) (.seq (.reg [gO 25 (.fa 2 (.s 5)), gO 26 (.ld none (.s 25)), gO 27 (.call 78 [.s 26]), gO 28 (.mv (.s 27)), ⟨some (28, true), some 29, .fa 3 (.s 5)⟩, ⟨some (28, true), some 30, .ld none (.s 29)⟩, ⟨some (28, true), some 31, .call 78 [.s 30]⟩, gO 32 (.pick (.s 28) (.s 31) cF), gO 33 (.mv (.s 32)), ⟨some (33, true), some 34, .fa 4 (.s 5)⟩, ⟨some (33, true), some 35, .ld none (.s 34)⟩, ⟨some (33, true), some 36, .call 48 [.s 35, (cI 10000)]⟩, gO 37 (.pick (.s 33) (.s 36) cF), gO 38 (.mv (.s 37)), ⟨some (38, true), some 39, .fa 5 (.s 5)⟩, ⟨some (38, true), some 40, .ld none (.s 39)⟩, ⟨some (38, true), some 41, .call 59 [.s 40, (cI 1), (cI 10)]⟩, gO 42 (.pick (.s 38) (.s 41) cF), gO 7 (.mv (.s 42))]) (.seq (.reg [gO 43 (.mv (.s 1)), gO 44 (.mf 134 0 [.s 5]), gO 45 (.call 133 [.s 43, .s 44]), gO 8 (.mv (.s 45))]) (.seq (.reg [gO 46 (.mv (.s 0)), gO 47 (.fa 0 (.s 5)), gO 48 (.ld none (.s 47)), gO 49 (.ia 2 (.s 46) (.s 48)), gO 50 (.fa 1 (.s 49)), gO 51 (.ld none (.s 50)), gO 52 (.un .not (.s 51)), gO 53 (.mv (.s 52)), ⟨some (53, true), some 54, .mv (.s 0)⟩, ⟨some (53, true), some 55, .fa 1 (.s 5)⟩, ⟨some (53, true), some 56, .ld none (.s 55)⟩, ⟨some (53, true), some 57, .ia 2 (.s 54) (.s 56)⟩, ⟨some (53, true), some 58, .fa 1 (.s 57)⟩, ⟨some (53, true), some 59, .ld none (.s 58)⟩, gO 60 (.pick (.s 53) (.s 59) cF), gO 61 (.call 58 [.s 60, (cI 15)]), gO 62 (.mv (.s 7)), gO 63 (.call 58 [.s 62, (cI 2)]), gO 64 (.mv (.s 8)), gO 65 (.un .not (.s 64)), gO 66 (.call 58 [.s 65, (cI 23)]), gO 67 (.bsl (.lit (.int .i64 0)) 1 3 [(0, (.s 61)), (1, (.s 63)), (2, (.s 66))]), gO 68 (.call 57 [.s 67]), gO 6 (.mv (.s 68))]) .ret)))))⟩
theorem mfW_q108 : MT.mf 108 = some mfW_l108 := by kernel_rfl
noncomputable def mfW_l115 : MF := ⟨7, [(.tmp 2)], (.seq (.reg [gO 2 (.mv (cI 0))]) (.seq (.reg [gO 3 (.mv (.s 0)), gO 4 (.mv (.s 0)), gO 5 (.un .neg (.s 4)), gO 6 (.mx (.s 3) (.s 5)), gO 2 (.mv (.s 6))]) .ret))⟩
theorem mfW_q115 : MT.mf 115 = some mfW_l115 := by kernel_rfl
noncomputable def mfW_l116 : MF := ⟨19, [(.tmp 4)], (.seq (.reg [gO 4 (.mv (cI 0))]) (.seq (.seq (.reg [gO 6 (.mv (.s 0)), gO 7 (.len (.s 6)), gO 8 (.mv (cI 0))]) (.block 0 (.loop [8, 7, 1, 0] (.seq (.reg [gO 9 (.bin .lss (.s 8) (.s 7))]) (.seq (.cond (.s 9) .skip (.exit 0)) (.seq (.block 1 (.seq (.reg [gO 10 (.mv (.s 8)), gO 5 (.mv (.s 10))]) (.seq (.reg [gO 11 (.mv (.s 1)), gO 12 (.mv (.s 0)), gO 13 (.mv (.s 5)), gO 14 (.ia 2 (.s 12) (.s 13)), gO 15 (.ld (some 2) (.s 14)), gO 16 (.callv (.s 11) [.s 15])]) (.cond (.s 16) (.seq (.reg [gO 17 (.mv (.s 5)), gO 4 (.mv (.s 17))]) .ret) .skip)))) (.reg [gO 18 (.bin .add (.s 8) (cI 1)), gO 8 (.mv (.s 18))]))))))) (.seq (.reg [gO 4 (.mv (cI (-1)))]) .ret)))⟩
theorem mfW_q116 : MT.mf 116 = some mfW_l116 := by kernel_rfl
noncomputable def mfW_l117 : MF := ⟨148, [], (.seq (.reg [gO 10 (.mv cT)]) (.seq (.reg [gO 11 (.mv cT)]) (.block 0 (.loop [2, 1, 0, 4, 3, 10, 11] (.block 1 (.seq (.reg [gO 21 (.mv (.s 2)), gO 22 (.mv (.s 1)), gO 23 (.bin .sub (.s 21) (.s 22)), gO 12 (.mv (.s 23))]) (.seq (.seq (.reg [gO 24 (.mv (.s 12)), gO 25 (.bin .leq (.s 24) (cI 12))]) (.cond (.s 25) (.seq (.reg [gO 26 (.mv (.s 0)), gO 27 (.mv (.s 1)), gO 28 (.mv (.s 2)), gO 29 (.mv (.s 4)), gO 30 (.call 141 [.s 26, .s 27, .s 28, .s 29])]) .ret) .skip)) (.seq (.seq (.reg [gO 31 (.mv (.s 3)), gO 32 (.bin .eql (.s 31) (cI 0))]) (.cond (.s 32) (.seq (.reg [gO 33 (.mv (.s 0)), gO 34 (.mv (.s 1)), gO 35 (.mv (.s 2)), gO 36 (.mv (.s 4)), gO 37 (.call 142 [.s 33, .s 34, .s 35, .s 36])]) .ret) .skip)) (.seq (.seq (.reg [gO 38 (.mv (.s 10)), gO 39 (.un .not (.s 38))]) (.cond (.s 39) (.seq (.reg [gO 40 (.mv (.s 0)), gO 41 (.mv (.s 1)), gO 42 (.mv (.s 2)), gO 43 (.mv (.s 4)), gO 44 (.call 143 [.s 40, .s 41, .s 42, .s 43])]) (.reg [gO 45 (.mv (.s 3)), gO 46 (.bin .sub (.s 45) (cI 1)), gO 3 (.mv (.s 46))])) .skip)) (.seq (.reg [gO 48 (.mv (.s 0)), gO 49 (.mv (.s 1)), gO 50 (.mv (.s 2)), gO 51 (.mv (.s 4)), gO 52 (.call 144 [.s 48, .s 49, .s 50, .s 51]), gO 47 (.mv (.s 52)), gO 53 (.ext (.s 47) 0), gO 54 (.ext (.s 47) 1), gO 13 (.mv (.s 53)), gO 14 (.mv (.s 54))]) (.seq (.seq (.reg [gO 55 (.mv (.s 14)), gO 56 (.bin .eql (.s 55) (cI 2))]) (.cond (.s 56) (.seq (.reg [gO 57 (.mv (.s 0)), gO 58 (.mv (.s 1)), gO 59 (.mv (.s 2)), gO 60 (.mv (.s 4)), gO 61 (.call 145 [.s 57, .s 58, .s 59, .s 60])]) (.seq (.reg [gO 62 (.mv (.s 2)), gO 63 (.bin .sub (.s 62) (cI 1)), gO 64 (.mv (.s 13)), gO 65 (.mv (.s 1)), gO 66 (.bin .sub (.s 64) (.s 65)), gO 67 (.bin .sub (.s 63) (.s 66)), gO 13 (.mv (.s 67))]) (.reg [gO 14 (.mv (cI 1))]))) .skip)) (.seq (.seq (.reg [gO 68 (.mv (.s 10)), gO 69 (.mv (.s 68)), ⟨some (69, true), some 70, .mv (.s 11)⟩, gO 71 (.pick (.s 69) (.s 70) cF), gO 72 (.mv (.s 71)), ⟨some (72, true), some 73, .mv (.s 14)⟩, ⟨some (72, true), some 74, .bin .eql (.s 73) (cI 1)⟩, gO 75 (.pick (.s 72) (.s 74) cF)]) (.cond (.s 75) (.seq (.reg [gO 76 (.mv (.s 0)), gO 77 (.mv (.s 1)), gO 78 (.mv (.s 2)), gO 79 (.mv (.s 4)), gO 80 (.call 146 [.s 76, .s 77, .s 78, .s 79])]) (.cond (.s 80) .ret .skip)) .skip)) (.seq (.seq (.reg [gO 81 (.mv (.s 1)), gO 82 (.bin .gtr (.s 81) (cI 0)), gO 83 (.mv (.s 82)), ⟨some (83, true), some 84, .mv (.s 4)⟩, ⟨some (83, true), some 85, .mv (.s 0)⟩, ⟨some (83, true), some 86, .mv (.s 1)⟩, ⟨some (83, true), some 87, .bin .sub (.s 86) (cI 1)⟩, ⟨some (83, true), some 88, .ia 2 (.s 85) (.s 87)⟩, ⟨some (83, true), some 89, .ld (some 2) (.s 88)⟩, ⟨some (83, true), some 90, .mv (.s 0)⟩, ⟨some (83, true), some 91, .mv (.s 13)⟩, ⟨some (83, true), some 92, .ia 2 (.s 90) (.s 91)⟩, ⟨some (83, true), some 93, .ld (some 2) (.s 92)⟩, ⟨some (83, true), some 94, .callv (.s 84) [.s 89, .s 93]⟩, ⟨some (83, true), some 95, .bin .lss (.s 94) (cI 0)⟩, ⟨some (83, true), some 96, .un .not (.s 95)⟩, gO 97 (.pick (.s 83) (.s 96) cF)]) (.cond (.s 97) (.seq (.reg [gO 98 (.mv (.s 0)), gO 99 (.mv (.s 1)), gO 100 (.mv (.s 2)), gO 101 (.mv (.s 13)), gO 102 (.mv (.s 4)), gO 103 (.call 147 [.s 98, .s 99, .s 100, .s 101, .s 102]), gO 15 (.mv (.s 103))]) (.seq (.reg [gO 104 (.mv (.s 15)), gO 1 (.mv (.s 104))]) (.exit 1))) .skip)) (.seq (.reg [gO 106 (.mv (.s 0)), gO 107 (.mv (.s 1)), gO 108 (.mv (.s 2)), gO 109 (.mv (.s 13)), gO 110 (.mv (.s 4)), gO 111 (.call 148 [.s 106, .s 107, .s 108, .s 109, .s 110]), gO 105 (.mv (.s 111)), gO 112 (.ext (.s 105) 0), gO 113 (.ext (.s 105) 1), gO 16 (.mv (.s 112)), gO 17 (.mv (.s 113))]) (.seq (.reg [gO 114 (.mv (.s 17)), gO 11 (.mv (.s 114))]) (.seq (.reg [gO 115 (.mv (.s 16)), gO 116 (.mv (.s 1)), gO 117 (.bin .sub (.s 115) (.s 116)), gO 118 (.mv (.s 2)), gO 119 (.mv (.s 16)), gO 120 (.bin .sub (.s 118) (.s 119)), gO 18 (.mv (.s 117)), gO 19 (.mv (.s 120))]) (.seq (.reg [gO 121 (.mv (.s 12)), gO 122 (.bin .quo (.s 121) (cI 8)), gO 20 (.mv (.s 122))]) (.seq (.reg [gO 123 (.mv (.s 18)), gO 124 (.mv (.s 19)), gO 125 (.bin .lss (.s 123) (.s 124))]) (.cond (.s 125) (.seq (.reg [gO 126 (.mv (.s 18)), gO 127 (.mv (.s 20)), gO 128 (.bin .geq (.s 126) (.s 127)), gO 10 (.mv (.s 128))]) (.seq (.reg [gO 129 (.mv (.s 0)), gO 130 (.mv (.s 1)), gO 131 (.mv (.s 16)), gO 132 (.mv (.s 3)), gO 133 (.mv (.s 4)), gO 134 (.call 117 [.s 129, .s 130, .s 131, .s 132, .s 133])]) (.reg [gO 135 (.mv (.s 16)), gO 136 (.bin .add (.s 135) (cI 1)), gO 1 (.mv (.s 136))]))) (.seq (.reg [gO 137 (.mv (.s 19)), gO 138 (.mv (.s 20)), gO 139 (.bin .geq (.s 137) (.s 138)), gO 10 (.mv (.s 139))]) (.seq (.reg [gO 140 (.mv (.s 0)), gO 141 (.mv (.s 16)), gO 142 (.bin .add (.s 141) (cI 1)), gO 143 (.mv (.s 2)), gO 144 (.mv (.s 3)), gO 145 (.mv (.s 4)), gO 146 (.call 117 [.s 140, .s 142, .s 143, .s 144, .s 145])]) (.reg [gO 147 (.mv (.s 16)), gO 2 (.mv (.s 147))]))))))))))))))))))))))⟩
theorem mfW_q117 : MT.mf 117 = some mfW_l117 := by kernel_rfl
noncomputable def mfW_l118 : MF := ⟨8, [(.tmp 2)], (.seq (.reg [gO 2 (.mv (cI 0))]) (.seq (.cond cF (.seq (.reg [gO 3 (.mv (.s 0)), gO 4 (.cv .u32 (.s 3)), gO 5 (.call 149 [.s 4]), gO 2 (.mv (.s 5))]) .ret) .skip) (.seq (.reg [gO 6 (.mv (.s 0)), gO 7 (.call 150 [.s 6]), gO 2 (.mv (.s 7))]) .ret)))⟩
theorem mfW_q118 : MT.mf 118 = some mfW_l118 := by kernel_rfl
noncomputable def mfW_l119 : MF := ⟨6, [(.tmp 2)], (.seq (.reg [gO 2 (.mv cF)]) (.seq (.reg [gO 3 (.mv (.s 0)), gO 4 (.mv (.s 0)), gO 5 (.bin .neq (.s 3) (.s 4)), gO 2 (.mv (.s 5))]) .ret))⟩
theorem mfW_q119 : MT.mf 119 = some mfW_l119 := by kernel_rfl
noncomputable def mfW_l120 : MF := ⟨49, [(.tmp 6), (.tmp 7)], (.seq (.reg [gO 6 (.mv (cI 0)), gO 7 (.mv cF)]) (.seq (.reg [gO 12 (.mv (.s 0)), gO 13 (.len (.s 12)), gO 8 (.mv (.s 13))]) (.seq (.reg [gO 14 (.mv (.s 8)), gO 9 (.mv (cI 0)), gO 10 (.mv (.s 14))]) (.seq (.block 0 (.loop [9, 10, 2, 0, 1, 8] (.seq (.seq (.reg [gO 15 (.mv (.s 9)), gO 16 (.mv (.s 10)), gO 17 (.bin .lss (.s 15) (.s 16))]) (.cond (.s 17) .skip (.exit 0))) (.block 1 (.seq (.reg [gO 18 (.mv (.s 9)), gO 19 (.mv (.s 10)), gO 20 (.bin .add (.s 18) (.s 19)), gO 21 (.cv .u64 (.s 20)), gO 22 (.shf .shr (.s 21) (.c (.lit (.int .u64 1)))), gO 23 (.cv .i64 (.s 22)), gO 11 (.mv (.s 23))]) (.seq (.reg [gO 24 (.mv (.s 2)), gO 25 (.mv (.s 0)), gO 26 (.mv (.s 11)), gO 27 (.ia 2 (.s 25) (.s 26)), gO 28 (.ld (some 2) (.s 27)), gO 29 (.mv (.s 1)), gO 30 (.callv (.s 24) [.s 28, .s 29]), gO 31 (.bin .lss (.s 30) (cI 0))]) (.cond (.s 31) (.reg [gO 32 (.mv (.s 11)), gO 33 (.bin .add (.s 32) (cI 1)), gO 9 (.mv (.s 33))]) (.reg [gO 34 (.mv (.s 11)), gO 10 (.mv (.s 34))])))))))) (.seq (.reg [gO 35 (.mv (.s 9)), gO 36 (.mv (.s 9)), gO 37 (.mv (.s 8)), gO 38 (.bin .lss (.s 36) (.s 37)), gO 39 (.mv (.s 38)), ⟨some (39, true), some 40, .mv (.s 2)⟩, ⟨some (39, true), some 41, .mv (.s 0)⟩, ⟨some (39, true), some 42, .mv (.s 9)⟩, ⟨some (39, true), some 43, .ia 2 (.s 41) (.s 42)⟩, ⟨some (39, true), some 44, .ld (some 2) (.s 43)⟩, ⟨some (39, true), some 45, .mv (.s 1)⟩, ⟨some (39, true), some 46, .callv (.s 40) [.s 44, .s 45]⟩, ⟨some (39, true), some 47, .bin .eql (.s 46) (cI 0)⟩, gO 48 (.pick (.s 39) (.s 47) cF), gO 6 (.mv (.s 35)), gO 7 (.mv (.s 48))]) .ret)))))⟩
theorem mfW_q120 : MT.mf 120 = some mfW_l120 := by kernel_rfl
noncomputable def mfW_l121 : MF := ⟨9, [(.tmp 4)], (.seq (.reg [gO 2 (.box 2 (.s 0)), gO 4 (.mv (cI 0))]) (.seq (.reg [gO 5 (.fa 0 (.s 2)), gO 6 (.ld none (.s 5)), gO 7 (.mv (.s 1)), gO 8 (.call 81 [.s 6, .s 7]), gO 4 (.mv (.s 8))]) .ret))⟩
theorem mfW_q121 : MT.mf 121 = some mfW_l121 := by kernel_rfl
noncomputable def mfW_l122 : MF := ⟨6, [(.tmp 2)], (.seq (.reg [gO 2 (.mv cF)]) (.seq (.reg [gO 3 (.mv (.s 0)), gO 4 (.call 48 [.s 3, (cI 1000000)]), gO 5 (.un .not (.s 4)), gO 2 (.mv (.s 5))]) .ret))⟩
theorem mfW_q122 : MT.mf 122 = some mfW_l122 := by kernel_rfl
noncomputable def mfW_l123 : MF := ⟨30, [(.tmp 4), (.tmp 5)], (.seq (.reg [gO 4 (.mv (.c (.lit (.int .u64 0)))), gO 5 (.mv (.c (.lit (.int .u64 0))))]) (.seq (.cond cF (.seq (.reg [gO 11 (.mv (.s 0)), gO 12 (.cv .u32 (.s 11)), gO 13 (.mv (.s 1)), gO 14 (.cv .u32 (.s 13)), gO 15 (.call 151 [.s 12, .s 14]), gO 10 (.mv (.s 15)), gO 16 (.ext (.s 10) 0), gO 17 (.ext (.s 10) 1), gO 6 (.mv (.s 16)), gO 7 (.mv (.s 17))]) (.seq (.reg [gO 18 (.mv (.s 6)), gO 19 (.cv .u64 (.s 18)), gO 20 (.mv (.s 7)), gO 21 (.cv .u64 (.s 20)), gO 4 (.mv (.s 19)), gO 5 (.mv (.s 21))]) .ret)) .skip) (.seq (.reg [gO 23 (.mv (.s 0)), gO 24 (.mv (.s 1)), gO 25 (.call 152 [.s 23, .s 24]), gO 22 (.mv (.s 25)), gO 26 (.ext (.s 22) 0), gO 27 (.ext (.s 22) 1), gO 8 (.mv (.s 26)), gO 9 (.mv (.s 27))]) (.seq (.reg [gO 28 (.mv (.s 8)), gO 29 (.mv (.s 9)), gO 4 (.mv (.s 28)), gO 5 (.mv (.s 29))]) .ret))))⟩
theorem mfW_q123 : MT.mf 123 = some mfW_l123 := by kernel_rfl
noncomputable def mfW_l132 : MF := ⟨19, [(.tmp 4)], (.seq (.reg [gO 4 (.mv (cI 0))]) (.seq (.seq (.reg [gO 6 (.mv (.s 0)), gO 7 (.len (.s 6)), gO 8 (.mv (cI 0))]) (.block 0 (.loop [8, 7, 1, 0] (.seq (.reg [gO 9 (.bin .lss (.s 8) (.s 7))]) (.seq (.cond (.s 9) .skip (.exit 0)) (.seq (.block 1 (.seq (.reg [gO 10 (.mv (.s 8)), gO 5 (.mv (.s 10))]) (.seq (.reg [gO 11 (.mv (.s 1)), gO 12 (.mv (.s 0)), gO 13 (.mv (.s 5)), gO 14 (.ia 2 (.s 12) (.s 13)), gO 15 (.ld (some 2) (.s 14)), gO 16 (.callv (.s 11) [.s 15])]) (.cond (.s 16) (.seq (.reg [gO 17 (.mv (.s 5)), gO 4 (.mv (.s 17))]) .ret) .skip)))) (.reg [gO 18 (.bin .add (.s 8) (cI 1)), gO 8 (.mv (.s 18))]))))))) (.seq (.reg [gO 4 (.mv (cI (-1)))]) .ret)))⟩
theorem mfW_q132 : MT.mf 132 = some mfW_l132 := by kernel_rfl
noncomputable def mfW_l133 : MF := ⟨9, [(.tmp 4)], (.seq (.reg [gO 4 (.mv cF)]) (.seq (.reg [gO 5 (.mv (.s 0)), gO 6 (.mv (.s 1)), gO 7 (.call 157 [.s 5, .s 6]), gO 8 (.bin .geq (.s 7) (cI 0)), gO 4 (.mv (.s 8))]) .ret))⟩
theorem mfW_q133 : MT.mf 133 = some mfW_l133 := by kernel_rfl
noncomputable def mfW_l134 : MF := ⟨30, [(.tmp 3)], (.seq (.reg [gO 2 (.box 6 (.s 0)), gO 3 (.mv cF)]) (.seq (.reg [gO 4 (.fa 0 (.s 2)), gO 5 (.ld none (.s 4)), gO 6 (.fa 0 (.s 1)), gO 7 (.ld none (.s 6)), gO 8 (.bin .eql (.s 5) (.s 7)), gO 9 (.mv (.s 8)), ⟨some (9, true), some 10, .fa 2 (.s 2)⟩, ⟨some (9, true), some 11, .ld none (.s 10)⟩, ⟨some (9, true), some 12, .fa 2 (.s 1)⟩, ⟨some (9, true), some 13, .ld none (.s 12)⟩, ⟨some (9, true), some 14, .bin .eql (.s 11) (.s 13)⟩, gO 15 (.pick (.s 9) (.s 14) cF), gO 16 (.mv (.s 15)), ⟨some (16, false), some 17, .fa 1 (.s 2)⟩, ⟨some (16, false), some 18, .ld none (.s 17)⟩, ⟨some (16, false), some 19, .fa 1 (.s 1)⟩, ⟨some (16, false), some 20, .ld none (.s 19)⟩, ⟨some (16, false), some 21, .bin .eql (.s 18) (.s 20)⟩, ⟨some (16, false), some 22, .mv (.s 21)⟩, ⟨some (22, true), some 23, .fa 3 (.s 2)⟩, ⟨some (22, true), some 24, .ld none (.s 23)⟩, ⟨some (22, true), some 25, .fa 3 (.s 1)⟩, ⟨some (22, true), some 26, .ld none (.s 25)⟩, ⟨some (22, true), some 27, .bin .eql (.s 24) (.s 26)⟩, ⟨some (16, false), some 28, .pick (.s 22) (.s 27) cF⟩, gO 29 (.pick (.s 16) cT (.s 28)), gO 3 (.mv (.s 29))]) .ret))⟩
theorem mfW_q134 : MT.mf 134 = some mfW_l134 := by kernel_rfl
noncomputable def mfW_l141 : MF := ⟨53, [], (.seq (.reg [gO 10 (.mv (.s 1)), gO 11 (.bin .add (.s 10) (cI 1)), gO 8 (.mv (.s 11))]) (.block 0 (.loop [8, 2, 1, 3, 0] (.seq (.seq (.reg [gO 12 (.mv (.s 8)), gO 13 (.mv (.s 2)), gO 14 (.bin .lss (.s 12) (.s 13))]) (.cond (.s 14) .skip (.exit 0))) (.seq (.block 1 (.seq (.reg [gO 17 (.mv (.s 8)), gO 9 (.mv (.s 17))]) (.block 2 (.loop [9, 1, 3, 0, 8, 2] (.seq (.seq (.reg [gO 18 (.mv (.s 9)), gO 19 (.mv (.s 1)), gO 20 (.bin .gtr (.s 18) (.s 19)), gO 21 (.mv (.s 20)), ⟨some (21, true), some 22, .mv (.s 3)⟩, ⟨some (21, true), some 23, .mv (.s 0)⟩, ⟨some (21, true), some 24, .mv (.s 9)⟩, ⟨some (21, true), some 25, .ia 2 (.s 23) (.s 24)⟩, ⟨some (21, true), some 26, .ld (some 2) (.s 25)⟩, ⟨some (21, true), some 27, .mv (.s 0)⟩, ⟨some (21, true), some 28, .mv (.s 9)⟩, ⟨some (21, true), some 29, .bin .sub (.s 28) (cI 1)⟩, ⟨some (21, true), some 30, .ia 2 (.s 27) (.s 29)⟩, ⟨some (21, true), some 31, .ld (some 2) (.s 30)⟩, ⟨some (21, true), some 32, .callv (.s 22) [.s 26, .s 31]⟩, ⟨some (21, true), some 33, .bin .lss (.s 32) (cI 0)⟩, gO 34 (.pick (.s 21) (.s 33) cF)]) (.cond (.s 34) .skip (.exit 2))) (.seq (.block 3 (.reg [gO 37 (.mv (.s 0)), gO 38 (.mv (.s 9)), gO 39 (.mv (.s 0)), gO 40 (.mv (.s 9)), gO 41 (.bin .sub (.s 40) (cI 1)), gO 42 (.mv (.s 0)), gO 43 (.mv (.s 9)), gO 44 (.bin .sub (.s 43) (cI 1)), gO 45 (.ia 2 (.s 42) (.s 44)), gO 46 (.ld (some 2) (.s 45)), gO 47 (.mv (.s 0)), gO 48 (.mv (.s 9)), gO 49 (.ia 2 (.s 47) (.s 48)), gO 50 (.ld (some 2) (.s 49)), gO 51 (.ia 2 (.s 37) (.s 38)), ⟨none, none, .st 2 (.s 51) (.s 46)⟩, gO 52 (.ia 2 (.s 39) (.s 41)), ⟨none, none, .st 2 (.s 52) (.s 50)⟩])) (.reg [gO 35 (.mv (.s 9)), gO 36 (.bin .sub (.s 35) (cI 1)), gO 9 (.mv (.s 36))]))))))) (.reg [gO 15 (.mv (.s 8)), gO 16 (.bin .add (.s 15) (cI 1)), gO 8 (.mv (.s 16))]))))))⟩
theorem mfW_q141 : MT.mf 141 = some mfW_l141 := by kernel_rfl
noncomputable def mfW_l142 : MF := ⟨60, [], (.seq (.reg [gO 13 (.mv (.s 1)), gO 8 (.mv (.s 13))]) (.seq (.reg [gO 9 (.mv (cI 0))]) (.seq (.reg [gO 14 (.mv (.s 2)), gO 15 (.mv (.s 1)), gO 16 (.bin .sub (.s 14) (.s 15)), gO 10 (.mv (.s 16))]) (.seq (.seq (.reg [gO 17 (.mv (.s 10)), gO 18 (.bin .sub (.s 17) (cI 1)), gO 19 (.bin .quo (.s 18) (cI 2)), gO 11 (.mv (.s 19))]) (.block 0 (.loop [11, 0, 10, 8, 3, 9] (.seq (.seq (.reg [gO 20 (.mv (.s 11)), gO 21 (.bin .geq (.s 20) (cI 0))]) (.cond (.s 21) .skip (.exit 0))) (.seq (.block 1 (.reg [gO 24 (.mv (.s 0)), gO 25 (.mv (.s 11)), gO 26 (.mv (.s 10)), gO 27 (.mv (.s 8)), gO 28 (.mv (.s 3)), gO 29 (.call 166 [.s 24, .s 25, .s 26, .s 27, .s 28])])) (.reg [gO 22 (.mv (.s 11)), gO 23 (.bin .sub (.s 22) (cI 1)), gO 11 (.mv (.s 23))])))))) (.seq (.reg [gO 30 (.mv (.s 10)), gO 31 (.bin .sub (.s 30) (cI 1)), gO 12 (.mv (.s 31))]) (.block 2 (.loop [12, 0, 8, 9, 3] (.seq (.seq (.reg [gO 32 (.mv (.s 12)), gO 33 (.bin .geq (.s 32) (cI 0))]) (.cond (.s 33) .skip (.exit 2))) (.seq (.block 3 (.seq (.reg [gO 36 (.mv (.s 0)), gO 37 (.mv (.s 8)), gO 38 (.mv (.s 0)), gO 39 (.mv (.s 8)), gO 40 (.mv (.s 12)), gO 41 (.bin .add (.s 39) (.s 40)), gO 42 (.mv (.s 0)), gO 43 (.mv (.s 8)), gO 44 (.mv (.s 12)), gO 45 (.bin .add (.s 43) (.s 44)), gO 46 (.ia 2 (.s 42) (.s 45)), gO 47 (.ld (some 2) (.s 46)), gO 48 (.mv (.s 0)), gO 49 (.mv (.s 8)), gO 50 (.ia 2 (.s 48) (.s 49)), gO 51 (.ld (some 2) (.s 50)), gO 52 (.ia 2 (.s 36) (.s 37)), ⟨none, none, .st 2 (.s 52) (.s 47)⟩, gO 53 (.ia 2 (.s 38) (.s 41)), ⟨none, none, .st 2 (.s 53) (.s 51)⟩]) (.reg [gO 54 (.mv (.s 0)), gO 55 (.mv (.s 9)), gO 56 (.mv (.s 12)), gO 57 (.mv (.s 8)), gO 58 (.mv (.s 3)), gO 59 (.call 166 [.s 54, .s 55, .s 56, .s 57, .s 58])]))) (.reg [gO 34 (.mv (.s 12)), gO 35 (.bin .sub (.s 34) (cI 1)), gO 12 (.mv (.s 35))]))))))))))⟩
theorem mfW_q142 : MT.mf 142 = some mfW_l142 := by kernel_rfl
noncomputable def mfW_l143 : MF := ⟨67, [], (.seq (.reg [gO 13 (.mv (.s 2)), gO 14 (.mv (.s 1)), gO 15 (.bin .sub (.s 13) (.s 14)), gO 8 (.mv (.s 15))]) (.seq (.reg [gO 16 (.mv (.s 8)), gO 17 (.bin .geq (.s 16) (cI 8))]) (.cond (.s 17) (.seq (.reg [gO 18 (.mv (.s 8)), gO 19 (.cv .u64 (.s 18)), gO 9 (.new (.lit (.int .u64 0))), ⟨none, none, .st 1 (.s 9) (.s 19)⟩]) (.seq (.reg [gO 20 (.mv (.s 8)), gO 21 (.call 167 [.s 20]), gO 10 (.mv (.s 21))]) (.seq (.reg [gO 22 (.mv (.s 1)), gO 23 (.mv (.s 8)), gO 24 (.bin .quo (.s 23) (cI 4)), gO 25 (.bin .mul (.s 24) (cI 2)), gO 26 (.bin .add (.s 22) (.s 25)), gO 27 (.bin .sub (.s 26) (cI 1)), gO 11 (.mv (.s 27))]) (.block 0 (.loop [11, 1, 8, 9, 10, 0] (.seq (.seq (.reg [gO 28 (.mv (.s 11)), gO 29 (.mv (.s 1)), gO 30 (.mv (.s 8)), gO 31 (.bin .quo (.s 30) (cI 4)), gO 32 (.bin .mul (.s 31) (cI 2)), gO 33 (.bin .add (.s 29) (.s 32)), gO 34 (.bin .add (.s 33) (cI 1)), gO 35 (.bin .leq (.s 28) (.s 34))]) (.cond (.s 35) .skip (.exit 0))) (.seq (.block 1 (.seq (.reg [gO 38 (.call 168 [.s 9]), gO 39 (.mv (.s 10)), gO 40 (.bin .sub (.s 39) (.c (.lit (.int .u64 1)))), gO 41 (.bin .and (.s 38) (.s 40)), gO 42 (.cv .i64 (.s 41)), gO 12 (.mv (.s 42))]) (.seq (.seq (.reg [gO 43 (.mv (.s 12)), gO 44 (.mv (.s 8)), gO 45 (.bin .geq (.s 43) (.s 44))]) (.cond (.s 45) (.reg [gO 46 (.mv (.s 12)), gO 47 (.mv (.s 8)), gO 48 (.bin .sub (.s 46) (.s 47)), gO 12 (.mv (.s 48))]) .skip)) (.reg [gO 49 (.mv (.s 0)), gO 50 (.mv (.s 11)), gO 51 (.mv (.s 0)), gO 52 (.mv (.s 1)), gO 53 (.mv (.s 12)), gO 54 (.bin .add (.s 52) (.s 53)), gO 55 (.mv (.s 0)), gO 56 (.mv (.s 1)), gO 57 (.mv (.s 12)), gO 58 (.bin .add (.s 56) (.s 57)), gO 59 (.ia 2 (.s 55) (.s 58)), gO 60 (.ld (some 2) (.s 59)), gO 61 (.mv (.s 0)), gO 62 (.mv (.s 11)), gO 63 (.ia 2 (.s 61) (.s 62)), gO 64 (.ld (some 2) (.s 63)), gO 65 (.ia 2 (.s 49) (.s 50)), ⟨none, none, .st 2 (.s 65) (.s 60)⟩, gO 66 (.ia 2 (.s 51) (.s 54)), ⟨none, none, .st 2 (.s 66) (.s 64)⟩])))) (.reg [gO 36 (.mv (.s 11)), gO 37 (.bin .add (.s 36) (cI 1)), gO 11 (.mv (.s 37))])))))))) .skip)))⟩
theorem mfW_q143 : MT.mf 143 = some mfW_l143 := by kernel_rfl
noncomputable def mfW_l144 : MF := ⟨63, [(.tmp 8), (.tmp 9)], (.seq (.reg [gO 8 (.mv (cI 0)), gO 9 (.mv (cI 0))]) (.seq (.reg [gO 15 (.mv (.s 2)), gO 16 (.mv (.s 1)), gO 17 (.bin .sub (.s 15) (.s 16)), gO 10 (.mv (.s 17))]) (.seq (.reg [gO 11 (.new (.lit (.int .i64 0)))]) (.seq (.reg [gO 18 (.mv (.s 1)), gO 19 (.mv (.s 10)), gO 20 (.bin .quo (.s 19) (cI 4)), gO 21 (.bin .mul (.s 20) (cI 1)), gO 22 (.bin .add (.s 18) (.s 21)), gO 12 (.mv (.s 22))]) (.seq (.reg [gO 23 (.mv (.s 1)), gO 24 (.mv (.s 10)), gO 25 (.bin .quo (.s 24) (cI 4)), gO 26 (.bin .mul (.s 25) (cI 2)), gO 27 (.bin .add (.s 23) (.s 26)), gO 13 (.mv (.s 27))]) (.seq (.reg [gO 28 (.mv (.s 1)), gO 29 (.mv (.s 10)), gO 30 (.bin .quo (.s 29) (cI 4)), gO 31 (.bin .mul (.s 30) (cI 3)), gO 32 (.bin .add (.s 28) (.s 31)), gO 14 (.mv (.s 32))]) (.seq (.seq (.reg [gO 33 (.mv (.s 10)), gO 34 (.bin .geq (.s 33) (cI 8))]) (.cond (.s 34) (.seq (.seq (.reg [gO 35 (.mv (.s 10)), gO 36 (.bin .geq (.s 35) (cI 50))]) (.cond (.s 36) (.seq (.reg [gO 37 (.mv (.s 0)), gO 38 (.mv (.s 12)), gO 39 (.mv (.s 3)), gO 40 (.call 169 [.s 37, .s 38, .s 11, .s 39]), gO 12 (.mv (.s 40))]) (.seq (.reg [gO 41 (.mv (.s 0)), gO 42 (.mv (.s 13)), gO 43 (.mv (.s 3)), gO 44 (.call 169 [.s 41, .s 42, .s 11, .s 43]), gO 13 (.mv (.s 44))]) (.reg [gO 45 (.mv (.s 0)), gO 46 (.mv (.s 14)), gO 47 (.mv (.s 3)), gO 48 (.call 169 [.s 45, .s 46, .s 11, .s 47]), gO 14 (.mv (.s 48))]))) .skip)) (.reg [gO 49 (.mv (.s 0)), gO 50 (.mv (.s 12)), gO 51 (.mv (.s 13)), gO 52 (.mv (.s 14)), gO 53 (.mv (.s 3)), gO 54 (.call 170 [.s 49, .s 50, .s 51, .s 52, .s 11, .s 53]), gO 13 (.mv (.s 54))])) .skip)) (.seq (.reg [gO 55 (.ld none (.s 11))]) (.block 0 (.seq (.reg [gO 58 (.bin .eql (.s 55) (cI 0)), gO 57 (.mv (.s 58))]) (.cond (.s 57) (.seq (.reg [gO 59 (.mv (.s 13)), gO 8 (.mv (.s 59)), gO 9 (.mv (cI 1))]) .ret) (.seq (.reg [gO 61 (.bin .eql (.s 55) (cI 12)), gO 60 (.mv (.s 61))]) (.cond (.s 60) (.seq (.reg [gO 62 (.mv (.s 13)), gO 8 (.mv (.s 62)), gO 9 (.mv (cI 2))]) .ret) (.seq (.reg [gO 56 (.mv (.s 13)), gO 8 (.mv (.s 56)), gO 9 (.mv (cI 0))]) .ret))))))))))))))⟩
theorem mfW_q144 : MT.mf 144 = some mfW_l144 := by kernel_rfl
noncomputable def mfW_l145 : MF := ⟨34, [], (.seq (.reg [gO 10 (.mv (.s 1)), gO 8 (.mv (.s 10))]) (.seq (.reg [gO 11 (.mv (.s 2)), gO 12 (.bin .sub (.s 11) (cI 1)), gO 9 (.mv (.s 12))]) (.block 0 (.loop [8, 9, 0] (.seq (.seq (.reg [gO 13 (.mv (.s 8)), gO 14 (.mv (.s 9)), gO 15 (.bin .lss (.s 13) (.s 14))]) (.cond (.s 15) .skip (.exit 0))) (.block 1 (.seq (.reg [gO 16 (.mv (.s 0)), gO 17 (.mv (.s 8)), gO 18 (.mv (.s 0)), gO 19 (.mv (.s 9)), gO 20 (.mv (.s 0)), gO 21 (.mv (.s 9)), gO 22 (.ia 2 (.s 20) (.s 21)), gO 23 (.ld (some 2) (.s 22)), gO 24 (.mv (.s 0)), gO 25 (.mv (.s 8)), gO 26 (.ia 2 (.s 24) (.s 25)), gO 27 (.ld (some 2) (.s 26)), gO 28 (.ia 2 (.s 16) (.s 17)), ⟨none, none, .st 2 (.s 28) (.s 23)⟩, gO 29 (.ia 2 (.s 18) (.s 19)), ⟨none, none, .st 2 (.s 29) (.s 27)⟩]) (.seq (.reg [gO 30 (.mv (.s 8)), gO 31 (.bin .add (.s 30) (cI 1)), gO 8 (.mv (.s 31))]) (.reg [gO 32 (.mv (.s 9)), gO 33 (.bin .sub (.s 32) (cI 1)), gO 9 (.mv (.s 33))])))))))))⟩
theorem mfW_q145 : MT.mf 145 = some mfW_l145 := by kernel_rfl
noncomputable def mfW_l146 : MF := ⟨141, [(.tmp 8)], (.seq (.reg [gO 8 (.mv cF)]) (.seq (.reg [gO 13 (.mv (.s 1)), gO 14 (.bin .add (.s 13) (cI 1)), gO 9 (.mv (.s 14))]) (.seq (.seq (.reg [gO 10 (.mv (cI 0))]) (.block 0 (.loop [10, 9, 2, 3, 0, 1] (.seq (.seq (.reg [gO 15 (.mv (.s 10)), gO 16 (.bin .lss (.s 15) (cI 5))]) (.cond (.s 16) .skip (.exit 0))) (.seq (.block 1 (.seq (.block 2 (.loop [9, 2, 3, 0, 1, 10] (.seq (.seq (.reg [gO 19 (.mv (.s 9)), gO 20 (.mv (.s 2)), gO 21 (.bin .lss (.s 19) (.s 20)), gO 22 (.mv (.s 21)), ⟨some (22, true), some 23, .mv (.s 3)⟩, ⟨some (22, true), some 24, .mv (.s 0)⟩, ⟨some (22, true), some 25, .mv (.s 9)⟩, ⟨some (22, true), some 26, .ia 2 (.s 24) (.s 25)⟩, ⟨some (22, true), some 27, .ld (some 2) (.s 26)⟩, ⟨some (22, true), some 28, .mv (.s 0)⟩, ⟨some (22, true), some 29, .mv (.s 9)⟩, ⟨some (22, true), some 30, .bin .sub (.s 29) (cI 1)⟩, ⟨some (22, true), some 31, .ia 2 (.s 28) (.s 30)⟩, ⟨some (22, true), some 32, .ld (some 2) (.s 31)⟩, ⟨some (22, true), some 33, .callv (.s 23) [.s 27, .s 32]⟩, ⟨some (22, true), some 34, .bin .lss (.s 33) (cI 0)⟩, ⟨some (22, true), some 35, .un .not (.s 34)⟩, gO 36 (.pick (.s 22) (.s 35) cF)]) (.cond (.s 36) .skip (.exit 2))) (.block 3 (.reg [gO 37 (.mv (.s 9)), gO 38 (.bin .add (.s 37) (cI 1)), gO 9 (.mv (.s 38))]))))) (.seq (.seq (.reg [gO 39 (.mv (.s 9)), gO 40 (.mv (.s 2)), gO 41 (.bin .eql (.s 39) (.s 40))]) (.cond (.s 41) (.seq (.reg [gO 8 (.mv cT)]) .ret) .skip)) (.seq (.seq (.reg [gO 42 (.mv (.s 2)), gO 43 (.mv (.s 1)), gO 44 (.bin .sub (.s 42) (.s 43)), gO 45 (.bin .lss (.s 44) (cI 50))]) (.cond (.s 45) (.seq (.reg [gO 8 (.mv cF)]) .ret) .skip)) (.seq (.reg [gO 46 (.mv (.s 0)), gO 47 (.mv (.s 9)), gO 48 (.mv (.s 0)), gO 49 (.mv (.s 9)), gO 50 (.bin .sub (.s 49) (cI 1)), gO 51 (.mv (.s 0)), gO 52 (.mv (.s 9)), gO 53 (.bin .sub (.s 52) (cI 1)), gO 54 (.ia 2 (.s 51) (.s 53)), gO 55 (.ld (some 2) (.s 54)), gO 56 (.mv (.s 0)), gO 57 (.mv (.s 9)), gO 58 (.ia 2 (.s 56) (.s 57)), gO 59 (.ld (some 2) (.s 58)), gO 60 (.ia 2 (.s 46) (.s 47)), ⟨none, none, .st 2 (.s 60) (.s 55)⟩, gO 61 (.ia 2 (.s 48) (.s 50)), ⟨none, none, .st 2 (.s 61) (.s 59)⟩]) (.seq (.seq (.reg [gO 62 (.mv (.s 9)), gO 63 (.mv (.s 1)), gO 64 (.bin .sub (.s 62) (.s 63)), gO 65 (.bin .geq (.s 64) (cI 2))]) (.cond (.s 65) (.seq (.reg [gO 66 (.mv (.s 9)), gO 67 (.bin .sub (.s 66) (cI 1)), gO 11 (.mv (.s 67))]) (.block 4 (.loop [11, 3, 0, 2, 9, 10, 1] (.seq (.seq (.reg [gO 68 (.mv (.s 11)), gO 69 (.bin .geq (.s 68) (cI 1))]) (.cond (.s 69) .skip (.exit 4))) (.seq (.block 5 (.seq (.seq (.reg [gO 72 (.mv (.s 3)), gO 73 (.mv (.s 0)), gO 74 (.mv (.s 11)), gO 75 (.ia 2 (.s 73) (.s 74)), gO 76 (.ld (some 2) (.s 75)), gO 77 (.mv (.s 0)), gO 78 (.mv (.s 11)), gO 79 (.bin .sub (.s 78) (cI 1)), gO 80 (.ia 2 (.s 77) (.s 79)), gO 81 (.ld (some 2) (.s 80)), gO 82 (.callv (.s 72) [.s 76, .s 81]), gO 83 (.bin .lss (.s 82) (cI 0)), gO 84 (.un .not (.s 83))]) (.cond (.s 84) (.exit 4) .skip)) (.reg [gO 85 (.mv (.s 0)), gO 86 (.mv (.s 11)), gO 87 (.mv (.s 0)), gO 88 (.mv (.s 11)), gO 89 (.bin .sub (.s 88) (cI 1)), gO 90 (.mv (.s 0)), gO 91 (.mv (.s 11)), gO 92 (.bin .sub (.s 91) (cI 1)), gO 93 (.ia 2 (.s 90) (.s 92)), gO 94 (.ld (some 2) (.s 93)), gO 95 (.mv (.s 0)), gO 96 (.mv (.s 11)), gO 97 (.ia 2 (.s 95) (.s 96)), gO 98 (.ld (some 2) (.s 97)), gO 99 (.ia 2 (.s 85) (.s 86)), ⟨none, none, .st 2 (.s 99) (.s 94)⟩, gO 100 (.ia 2 (.s 87) (.s 89)), ⟨none, none, .st 2 (.s 100) (.s 98)⟩]))) (.reg [gO 70 (.mv (.s 11)), gO 71 (.bin .sub (.s 70) (cI 1)), gO 11 (.mv (.s 71))])))))) .skip)) (.seq (.reg [gO 101 (.mv (.s 2)), gO 102 (.mv (.s 9)), gO 103 (.bin .sub (.s 101) (.s 102)), gO 104 (.bin .geq (.s 103) (cI 2))]) (.cond (.s 104) (.seq (.reg [gO 105 (.mv (.s 9)), gO 106 (.bin .add (.s 105) (cI 1)), gO 12 (.mv (.s 106))]) (.block 6 (.loop [12, 2, 3, 0, 10, 9, 1] (.seq (.seq (.reg [gO 107 (.mv (.s 12)), gO 108 (.mv (.s 2)), gO 109 (.bin .lss (.s 107) (.s 108))]) (.cond (.s 109) .skip (.exit 6))) (.seq (.block 7 (.seq (.seq (.reg [gO 112 (.mv (.s 3)), gO 113 (.mv (.s 0)), gO 114 (.mv (.s 12)), gO 115 (.ia 2 (.s 113) (.s 114)), gO 116 (.ld (some 2) (.s 115)), gO 117 (.mv (.s 0)), gO 118 (.mv (.s 12)), gO 119 (.bin .sub (.s 118) (cI 1)), gO 120 (.ia 2 (.s 117) (.s 119)), gO 121 (.ld (some 2) (.s 120)), gO 122 (.callv (.s 112) [.s 116, .s 121]), gO 123 (.bin .lss (.s 122) (cI 0)), gO 124 (.un .not (.s 123))]) (.cond (.s 124) (.exit 6) .skip)) (.reg [gO 125 (.mv (.s 0)), gO 126 (.mv (.s 12)), gO 127 (.mv (.s 0)), gO 128 (.mv (.s 12)), gO 129 (.bin .sub (.s 128) (cI 1)), gO 130 (.mv (.s 0)), gO 131 (.mv (.s 12)), gO 132 (.bin .sub (.s 131) (cI 1)), gO 133 (.ia 2 (.s 130) (.s 132)), gO 134 (.ld (some 2) (.s 133)), gO 135 (.mv (.s 0)), gO 136 (.mv (.s 12)), gO 137 (.ia 2 (.s 135) (.s 136)), gO 138 (.ld (some 2) (.s 137)), gO 139 (.ia 2 (.s 125) (.s 126)), ⟨none, none, .st 2 (.s 139) (.s 134)⟩, gO 140 (.ia 2 (.s 127) (.s 129)), ⟨none, none, .st 2 (.s 140) (.s 138)⟩]))) (.reg [gO 110 (.mv (.s 12)), gO 111 (.bin .add (.s 110) (cI 1)), gO 12 (.mv (.s 111))])))))) .skip)))))))) (.reg [gO 17 (.mv (.s 10)), gO 18 (.bin .add (.s 17) (cI 1)), gO 10 (.mv (.s 18))])))))) (.seq (.reg [gO 8 (.mv cF)]) .ret))))⟩
theorem mfW_q146 : MT.mf 146 = some mfW_l146 := by kernel_rfl
noncomputable def mfW_l147 : MF := ⟨90, [(.tmp 10)], (.seq (.reg [gO 10 (.mv (cI 0))]) (.seq (.reg [gO 13 (.mv (.s 0)), gO 14 (.mv (.s 1)), gO 15 (.mv (.s 0)), gO 16 (.mv (.s 3)), gO 17 (.mv (.s 0)), gO 18 (.mv (.s 3)), gO 19 (.ia 2 (.s 17) (.s 18)), gO 20 (.ld (some 2) (.s 19)), gO 21 (.mv (.s 0)), gO 22 (.mv (.s 1)), gO 23 (.ia 2 (.s 21) (.s 22)), gO 24 (.ld (some 2) (.s 23)), gO 25 (.ia 2 (.s 13) (.s 14)), ⟨none, none, .st 2 (.s 25) (.s 20)⟩, gO 26 (.ia 2 (.s 15) (.s 16)), ⟨none, none, .st 2 (.s 26) (.s 24)⟩]) (.seq (.reg [gO 27 (.mv (.s 1)), gO 28 (.bin .add (.s 27) (cI 1)), gO 29 (.mv (.s 2)), gO 30 (.bin .sub (.s 29) (cI 1)), gO 11 (.mv (.s 28)), gO 12 (.mv (.s 30))]) (.seq (.block 0 (.loop [11, 12, 4, 0, 1] (.block 1 (.seq (.block 2 (.loop [11, 12, 4, 0, 1] (.seq (.seq (.reg [gO 31 (.mv (.s 11)), gO 32 (.mv (.s 12)), gO 33 (.bin .leq (.s 31) (.s 32)), gO 34 (.mv (.s 33)), ⟨some (34, true), some 35, .mv (.s 4)⟩, ⟨some (34, true), some 36, .mv (.s 0)⟩, ⟨some (34, true), some 37, .mv (.s 1)⟩, ⟨some (34, true), some 38, .ia 2 (.s 36) (.s 37)⟩, ⟨some (34, true), some 39, .ld (some 2) (.s 38)⟩, ⟨some (34, true), some 40, .mv (.s 0)⟩, ⟨some (34, true), some 41, .mv (.s 11)⟩, ⟨some (34, true), some 42, .ia 2 (.s 40) (.s 41)⟩, ⟨some (34, true), some 43, .ld (some 2) (.s 42)⟩, ⟨some (34, true), some 44, .callv (.s 35) [.s 39, .s 43]⟩, ⟨some (34, true), some 45, .bin .lss (.s 44) (cI 0)⟩, ⟨some (34, true), some 46, .un .not (.s 45)⟩, gO 47 (.pick (.s 34) (.s 46) cF)]) (.cond (.s 47) .skip (.exit 2))) (.block 3 (.reg [gO 48 (.mv (.s 11)), gO 49 (.bin .add (.s 48) (cI 1)), gO 11 (.mv (.s 49))]))))) (.seq (.block 4 (.loop [11, 12, 4, 0, 1] (.seq (.seq (.reg [gO 50 (.mv (.s 11)), gO 51 (.mv (.s 12)), gO 52 (.bin .leq (.s 50) (.s 51)), gO 53 (.mv (.s 52)), ⟨some (53, true), some 54, .mv (.s 4)⟩, ⟨some (53, true), some 55, .mv (.s 0)⟩, ⟨some (53, true), some 56, .mv (.s 1)⟩, ⟨some (53, true), some 57, .ia 2 (.s 55) (.s 56)⟩, ⟨some (53, true), some 58, .ld (some 2) (.s 57)⟩, ⟨some (53, true), some 59, .mv (.s 0)⟩, ⟨some (53, true), some 60, .mv (.s 12)⟩, ⟨some (53, true), some 61, .ia 2 (.s 59) (.s 60)⟩, ⟨some (53, true), some 62, .ld (some 2) (.s 61)⟩, ⟨some (53, true), some 63, .callv (.s 54) [.s 58, .s 62]⟩, ⟨some (53, true), some 64, .bin .lss (.s 63) (cI 0)⟩, gO 65 (.pick (.s 53) (.s 64) cF)]) (.cond (.s 65) .skip (.exit 4))) (.block 5 (.reg [gO 66 (.mv (.s 12)), gO 67 (.bin .sub (.s 66) (cI 1)), gO 12 (.mv (.s 67))]))))) (.seq (.seq (.reg [gO 68 (.mv (.s 11)), gO 69 (.mv (.s 12)), gO 70 (.bin .gtr (.s 68) (.s 69))]) (.cond (.s 70) (.exit 0) .skip)) (.seq (.reg [gO 71 (.mv (.s 0)), gO 72 (.mv (.s 11)), gO 73 (.mv (.s 0)), gO 74 (.mv (.s 12)), gO 75 (.mv (.s 0)), gO 76 (.mv (.s 12)), gO 77 (.ia 2 (.s 75) (.s 76)), gO 78 (.ld (some 2) (.s 77)), gO 79 (.mv (.s 0)), gO 80 (.mv (.s 11)), gO 81 (.ia 2 (.s 79) (.s 80)), gO 82 (.ld (some 2) (.s 81)), gO 83 (.ia 2 (.s 71) (.s 72)), ⟨none, none, .st 2 (.s 83) (.s 78)⟩, gO 84 (.ia 2 (.s 73) (.s 74)), ⟨none, none, .st 2 (.s 84) (.s 82)⟩]) (.seq (.reg [gO 85 (.mv (.s 11)), gO 86 (.bin .add (.s 85) (cI 1)), gO 11 (.mv (.s 86))]) (.reg [gO 87 (.mv (.s 12)), gO 88 (.bin .sub (.s 87) (cI 1)), gO 12 (.mv (.s 88))]))))))))) (.seq (.reg [gO 89 (.mv (.s 11)), gO 10 (.mv (.s 89))]) .ret)))))⟩
theorem mfW_q147 : MT.mf 147 = some mfW_l147 := by kernel_rfl
noncomputable def mfW_l148 : MF := ⟨178, [(.tmp 10), (.tmp 11)], (.seq (.reg [gO 10 (.mv (cI 0)), gO 11 (.mv cF)]) (.seq (.reg [gO 14 (.mv (.s 0)), gO 15 (.mv (.s 1)), gO 16 (.mv (.s 0)), gO 17 (.mv (.s 3)), gO 18 (.mv (.s 0)), gO 19 (.mv (.s 3)), gO 20 (.ia 2 (.s 18) (.s 19)), gO 21 (.ld (some 2) (.s 20)), gO 22 (.mv (.s 0)), gO 23 (.mv (.s 1)), gO 24 (.ia 2 (.s 22) (.s 23)), gO 25 (.ld (some 2) (.s 24)), gO 26 (.ia 2 (.s 14) (.s 15)), ⟨none, none, .st 2 (.s 26) (.s 21)⟩, gO 27 (.ia 2 (.s 16) (.s 17)), ⟨none, none, .st 2 (.s 27) (.s 25)⟩]) (.seq (.reg [gO 28 (.mv (.s 1)), gO 29 (.bin .add (.s 28) (cI 1)), gO 30 (.mv (.s 2)), gO 31 (.bin .sub (.s 30) (cI 1)), gO 12 (.mv (.s 29)), gO 13 (.mv (.s 31))]) (.seq (.block 0 (.loop [12, 13, 4, 0, 1] (.seq (.seq (.reg [gO 32 (.mv (.s 12)), gO 33 (.mv (.s 13)), gO 34 (.bin .leq (.s 32) (.s 33)), gO 35 (.mv (.s 34)), ⟨some (35, true), some 36, .mv (.s 4)⟩, ⟨some (35, true), some 37, .mv (.s 0)⟩, ⟨some (35, true), some 38, .mv (.s 12)⟩, ⟨some (35, true), some 39, .ia 2 (.s 37) (.s 38)⟩, ⟨some (35, true), some 40, .ld (some 2) (.s 39)⟩, ⟨some (35, true), some 41, .mv (.s 0)⟩, ⟨some (35, true), some 42, .mv (.s 1)⟩, ⟨some (35, true), some 43, .ia 2 (.s 41) (.s 42)⟩, ⟨some (35, true), some 44, .ld (some 2) (.s 43)⟩, ⟨some (35, true), some 45, .callv (.s 36) [.s 40, .s 44]⟩, ⟨some (35, true), some 46, .bin .lss (.s 45) (cI 0)⟩, gO 47 (.pick (.s 35) (.s 46) cF)]) (.cond (.s 47) .skip (.exit 0))) (.block 1 (.reg [gO 48 (.mv (.s 12)), gO 49 (.bin .add (.s 48) (cI 1)), gO 12 (.mv (.s 49))]))))) (.seq (.block 2 (.loop [12, 13, 4, 0, 1] (.seq (.seq (.reg [gO 50 (.mv (.s 12)), gO 51 (.mv (.s 13)), gO 52 (.bin .leq (.s 50) (.s 51)), gO 53 (.mv (.s 52)), ⟨some (53, true), some 54, .mv (.s 4)⟩, ⟨some (53, true), some 55, .mv (.s 0)⟩, ⟨some (53, true), some 56, .mv (.s 13)⟩, ⟨some (53, true), some 57, .ia 2 (.s 55) (.s 56)⟩, ⟨some (53, true), some 58, .ld (some 2) (.s 57)⟩, ⟨some (53, true), some 59, .mv (.s 0)⟩, ⟨some (53, true), some 60, .mv (.s 1)⟩, ⟨some (53, true), some 61, .ia 2 (.s 59) (.s 60)⟩, ⟨some (53, true), some 62, .ld (some 2) (.s 61)⟩, ⟨some (53, true), some 63, .callv (.s 54) [.s 58, .s 62]⟩, ⟨some (53, true), some 64, .bin .lss (.s 63) (cI 0)⟩, ⟨some (53, true), some 65, .un .not (.s 64)⟩, gO 66 (.pick (.s 53) (.s 65) cF)]) (.cond (.s 66) .skip (.exit 2))) (.block 3 (.reg [gO 67 (.mv (.s 13)), gO 68 (.bin .sub (.s 67) (cI 1)), gO 13 (.mv (.s 68))]))))) (.seq (.seq (.reg [gO 69 (.mv (.s 12)), gO 70 (.mv (.s 13)), gO 71 (.bin .gtr (.s 69) (.s 70))]) (.cond (.s 71) (.seq (.reg [gO 72 (.mv (.s 0)), gO 73 (.mv (.s 13)), gO 74 (.mv (.s 0)), gO 75 (.mv (.s 1)), gO 76 (.mv (.s 0)), gO 77 (.mv (.s 1)), gO 78 (.ia 2 (.s 76) (.s 77)), gO 79 (.ld (some 2) (.s 78)), gO 80 (.mv (.s 0)), gO 81 (.mv (.s 13)), gO 82 (.ia 2 (.s 80) (.s 81)), gO 83 (.ld (some 2) (.s 82)), gO 84 (.ia 2 (.s 72) (.s 73)), ⟨none, none, .st 2 (.s 84) (.s 79)⟩, gO 85 (.ia 2 (.s 74) (.s 75)), ⟨none, none, .st 2 (.s 85) (.s 83)⟩]) (.seq (.reg [gO 86 (.mv (.s 13)), gO 10 (.mv (.s 86)), gO 11 (.mv cT)]) .ret)) .skip)) (.seq (.reg [gO 87 (.mv (.s 0)), gO 88 (.mv (.s 12)), gO 89 (.mv (.s 0)), gO 90 (.mv (.s 13)), gO 91 (.mv (.s 0)), gO 92 (.mv (.s 13)), gO 93 (.ia 2 (.s 91) (.s 92)), gO 94 (.ld (some 2) (.s 93)), gO 95 (.mv (.s 0)), gO 96 (.mv (.s 12)), gO 97 (.ia 2 (.s 95) (.s 96)), gO 98 (.ld (some 2) (.s 97)), gO 99 (.ia 2 (.s 87) (.s 88)), ⟨none, none, .st 2 (.s 99) (.s 94)⟩, gO 100 (.ia 2 (.s 89) (.s 90)), ⟨none, none, .st 2 (.s 100) (.s 98)⟩]) (.seq (.reg [gO 101 (.mv (.s 12)), gO 102 (.bin .add (.s 101) (cI 1)), gO 12 (.mv (.s 102))]) (.seq (.reg [gO 103 (.mv (.s 13)), gO 104 (.bin .sub (.s 103) (cI 1)), gO 13 (.mv (.s 104))]) (.seq (.block 4 (.loop [12, 13, 4, 0, 1] (.block 5 (.seq (.block 6 (.loop [12, 13, 4, 0, 1] (.seq (.seq (.reg [gO 105 (.mv (.s 12)), gO 106 (.mv (.s 13)), gO 107 (.bin .leq (.s 105) (.s 106)), gO 108 (.mv (.s 107)), ⟨some (108, true), some 109, .mv (.s 4)⟩, ⟨some (108, true), some 110, .mv (.s 0)⟩, ⟨some (108, true), some 111, .mv (.s 12)⟩, ⟨some (108, true), some 112, .ia 2 (.s 110) (.s 111)⟩, ⟨some (108, true), some 113, .ld (some 2) (.s 112)⟩, ⟨some (108, true), some 114, .mv (.s 0)⟩, ⟨some (108, true), some 115, .mv (.s 1)⟩, ⟨some (108, true), some 116, .ia 2 (.s 114) (.s 115)⟩, ⟨some (108, true), some 117, .ld (some 2) (.s 116)⟩, ⟨some (108, true), some 118, .callv (.s 109) [.s 113, .s 117]⟩, ⟨some (108, true), some 119, .bin .lss (.s 118) (cI 0)⟩, gO 120 (.pick (.s 108) (.s 119) cF)]) (.cond (.s 120) .skip (.exit 6))) (.block 7 (.reg [gO 121 (.mv (.s 12)), gO 122 (.bin .add (.s 121) (cI 1)), gO 12 (.mv (.s 122))]))))) (.seq (.block 8 (.loop [12, 13, 4, 0, 1] (.seq (.seq (.reg [gO 123 (.mv (.s 12)), gO 124 (.mv (.s 13)), gO 125 (.bin .leq (.s 123) (.s 124)), gO 126 (.mv (.s 125)), ⟨some (126, true), some 127, .mv (.s 4)⟩, ⟨some (126, true), some 128, .mv (.s 0)⟩, ⟨some (126, true), some 129, .mv (.s 13)⟩, ⟨some (126, true), some 130, .ia 2 (.s 128) (.s 129)⟩, ⟨some (126, true), some 131, .ld (some 2) (.s 130)⟩, ⟨some (126, true), some 132, .mv (.s 0)⟩, ⟨some (126, true), some 133, .mv (.s 1)⟩, ⟨some (126, true), some 134, .ia 2 (.s 132) (.s 133)⟩, ⟨some (126, true), some 135, .ld (some 2) (.s 134)⟩, ⟨some (126, true), some 136, .callv (.s 127) [.s 131, .s 135]⟩, ⟨some (126, true), some 137, .bin .lss (.s 136) (cI 0)⟩, ⟨some (126, true), some 138, .un .not (.s 137)⟩, gO 139 (.pick (.s 126) (.s 138) cF)]) (.cond (.s 139) .skip (.exit 8))) (.block 9 (.reg [gO 140 (.mv (.s 13)), gO 141 (.bin .sub (.s 140) (cI 1)), gO 13 (.mv (.s 141))]))))) (.seq (.seq (.reg [gO 142 (.mv (.s 12)), gO 143 (.mv (.s 13)), gO 144 (.bin .gtr (.s 142) (.s 143))]) (.cond (.s 144) (.exit 4) .skip)) (.seq (.reg [gO 145 (.mv (.s 0)), gO 146 (.mv (.s 12)), gO 147 (.mv (.s 0)), gO 148 (.mv (.s 13)), gO 149 (.mv (.s 0)), gO 150 (.mv (.s 13)), gO 151 (.ia 2 (.s 149) (.s 150)), gO 152 (.ld (some 2) (.s 151)), gO 153 (.mv (.s 0)), gO 154 (.mv (.s 12)), gO 155 (.ia 2 (.s 153) (.s 154)), gO 156 (.ld (some 2) (.s 155)), gO 157 (.ia 2 (.s 145) (.s 146)), ⟨none, none, .st 2 (.s 157) (.s 152)⟩, gO 158 (.ia 2 (.s 147) (.s 148)), ⟨none, none, .st 2 (.s 158) (.s 156)⟩]) (.seq (.reg [gO 159 (.mv (.s 12)), gO 160 (.bin .add (.s 159) (cI 1)), gO 12 (.mv (.s 160))]) (.reg [gO 161 (.mv (.s 13)), gO 162 (.bin .sub (.s 161) (cI 1)), gO 13 (.mv (.s 162))]))))))))) (.seq (.reg [gO 163 (.mv (.s 0)), gO 164 (.mv (.s 13)), gO 165 (.mv (.s 0)), gO 166 (.mv (.s 1)), gO 167 (.mv (.s 0)), gO 168 (.mv (.s 1)), gO 169 (.ia 2 (.s 167) (.s 168)), gO 170 (.ld (some 2) (.s 169)), gO 171 (.mv (.s 0)), gO 172 (.mv (.s 13)), gO 173 (.ia 2 (.s 171) (.s 172)), gO 174 (.ld (some 2) (.s 173)), gO 175 (.ia 2 (.s 163) (.s 164)), ⟨none, none, .st 2 (.s 175) (.s 170)⟩, gO 176 (.ia 2 (.s 165) (.s 166)), ⟨none, none, .st 2 (.s 176) (.s 174)⟩]) (.seq (.reg [gO 177 (.mv (.s 13)), gO 10 (.mv (.s 177)), gO 11 (.mv cF)]) .ret))))))))))))⟩
theorem mfW_q148 : MT.mf 148 = some mfW_l148 := by kernel_rfl
noncomputable def mfW_l149 : MF := ⟨19, [(.tmp 2)], (.seq (.reg [gO 2 (.mv (cI 0))]) (.seq (.seq (.reg [gO 3 (.mv (.s 0)), gO 4 (.bin .geq (.s 3) (.c (.lit (.int .u32 65536))))]) (.cond (.s 4) (.seq (.reg [gO 5 (.mv (.s 0)), gO 6 (.shf .shr (.s 5) (.c (.lit (.int .u64 16)))), gO 0 (.mv (.s 6))]) (.reg [gO 2 (.mv (cI 16))])) .skip)) (.seq (.seq (.reg [gO 7 (.mv (.s 0)), gO 8 (.bin .geq (.s 7) (.c (.lit (.int .u32 256))))]) (.cond (.s 8) (.seq (.reg [gO 9 (.mv (.s 0)), gO 10 (.shf .shr (.s 9) (.c (.lit (.int .u64 8)))), gO 0 (.mv (.s 10))]) (.reg [gO 11 (.mv (.s 2)), gO 12 (.bin .add (.s 11) (cI 8)), gO 2 (.mv (.s 12))])) .skip)) (.seq (.reg [gO 13 (.mv (.s 2)), gO 14 (.mv (.s 0)), gO 15 (.cv .u8 (.s 14)), gO 16 (.sx (.c (.lit (.string ⟨#[0, 1, 2, 2, 3, 3, 3, 3, 4, 4, 4, 4, 4, 4, 4, 4, 5, 5, 5, 5, 5, 5, 5, 5, 5, 5, 5, 5, 5, 5, 5, 5, 6, 6, 6, 6, 6, 6, 6, 6, 6, 6, 6, 6, 6, 6, 6, 6, 6, 6, 6, 6, 6, 6, 6, 6, 6, 6, 6, 6, 6, 6, 6, 6, 7, 7, 7, 7, 7, 7, 7, 7, 7, 7, 7, 7, 7, 7, 7, 7, 7, 7, 7, 7, 7, 7, 7, 7, 7, 7, 7, 7, 7, 7, 7, 7, 7, 7, 7, 7, 7, 7, 7, 7, 7, 7, 7, 7, 7, 7, 7, 7, 7, 7, 7, 7, 7, 7, 7, 7, 7, 7, 7, 7, 7, 7, 7, 7, 8, 8, 8, 8, 8, 8, 8, 8, 8, 8, 8, 8, 8, 8, 8, 8, 8, 8, 8, 8, 8, 8, 8, 8, 8, 8, 8, 8, 8, 8, 8, 8, 8, 8, 8, 8, 8, 8, 8, 8, 8, 8, 8, 8, 8, 8, 8, 8, 8, 8, 8, 8, 8, 8, 8, 8, 8, 8, 8, 8, 8, 8, 8, 8, 8, 8, 8, 8, 8, 8, 8, 8, 8, 8, 8, 8, 8, 8, 8, 8, 8, 8, 8, 8, 8, 8, 8, 8, 8, 8, 8, 8, 8, 8, 8, 8, 8, 8, 8, 8, 8, 8, 8, 8, 8, 8, 8, 8, 8, 8, 8, 8, 8, 8, 8, 8, 8, 8, 8, 8, 8, 8, 8, 8, 8, 8, 8, 8]⟩))) (.s 15)), gO 17 (.cv .i64 (.s 16)), gO 18 (.bin .add (.s 13) (.s 17)), gO 2 (.mv (.s 18))]) .ret))))⟩
theorem mfW_q149 : MT.mf 149 = some mfW_l149 := by kernel_rfl
noncomputable def mfW_l150 : MF := ⟨25, [(.tmp 2)], (.seq (.reg [gO 2 (.mv (cI 0))]) (.seq (.seq (.reg [gO 3 (.mv (.s 0)), gO 4 (.bin .geq (.s 3) (.c (.lit (.int .u64 4294967296))))]) (.cond (.s 4) (.seq (.reg [gO 5 (.mv (.s 0)), gO 6 (.shf .shr (.s 5) (.c (.lit (.int .u64 32)))), gO 0 (.mv (.s 6))]) (.reg [gO 2 (.mv (cI 32))])) .skip)) (.seq (.seq (.reg [gO 7 (.mv (.s 0)), gO 8 (.bin .geq (.s 7) (.c (.lit (.int .u64 65536))))]) (.cond (.s 8) (.seq (.reg [gO 9 (.mv (.s 0)), gO 10 (.shf .shr (.s 9) (.c (.lit (.int .u64 16)))), gO 0 (.mv (.s 10))]) (.reg [gO 11 (.mv (.s 2)), gO 12 (.bin .add (.s 11) (cI 16)), gO 2 (.mv (.s 12))])) .skip)) (.seq (.seq (.reg [gO 13 (.mv (.s 0)), gO 14 (.bin .geq (.s 13) (.c (.lit (.int .u64 256))))]) (.cond (.s 14) (.seq (.reg [gO 15 (.mv (.s 0)), gO 16 (.shf .shr (.s 15) (.c (.lit (.int .u64 8)))), gO 0 (.mv (.s 16))]) (.reg [gO 17 (.mv (.s 2)), gO 18 (.bin .add (.s 17) (cI 8)), gO 2 (.mv (.s 18))])) .skip)) (.seq (.reg [gO 19 (.mv (.s 2)), gO 20 (.mv (.s 0)), gO 21 (.cv .u8 (.s 20)), gO 22 (.sx (.c (.lit (.string ⟨#[0, 1, 2, 2, 3, 3, 3, 3, 4, 4, 4, 4, 4, 4, 4, 4, 5, 5, 5, 5, 5, 5, 5, 5, 5, 5, 5, 5, 5, 5, 5, 5, 6, 6, 6, 6, 6, 6, 6, 6, 6, 6, 6, 6, 6, 6, 6, 6, 6, 6, 6, 6, 6, 6, 6, 6, 6, 6, 6, 6, 6, 6, 6, 6, 7, 7, 7, 7, 7, 7, 7, 7, 7, 7, 7, 7, 7, 7, 7, 7, 7, 7, 7, 7, 7, 7, 7, 7, 7, 7, 7, 7, 7, 7, 7, 7, 7, 7, 7, 7, 7, 7, 7, 7, 7, 7, 7, 7, 7, 7, 7, 7, 7, 7, 7, 7, 7, 7, 7, 7, 7, 7, 7, 7, 7, 7, 7, 7, 8, 8, 8, 8, 8, 8, 8, 8, 8, 8, 8, 8, 8, 8, 8, 8, 8, 8, 8, 8, 8, 8, 8, 8, 8, 8, 8, 8, 8, 8, 8, 8, 8, 8, 8, 8, 8, 8, 8, 8, 8, 8, 8, 8, 8, 8, 8, 8, 8, 8, 8, 8, 8, 8, 8, 8, 8, 8, 8, 8, 8, 8, 8, 8, 8, 8, 8, 8, 8, 8, 8, 8, 8, 8, 8, 8, 8, 8, 8, 8, 8, 8, 8, 8, 8, 8, 8, 8, 8, 8, 8, 8, 8, 8, 8, 8, 8, 8, 8, 8, 8, 8, 8, 8, 8, 8, 8, 8, 8, 8, 8, 8, 8, 8, 8, 8, 8, 8, 8, 8, 8, 8, 8, 8, 8, 8, 8, 8]⟩))) (.s 21)), gO 23 (.cv .i64 (.s 22)), gO 24 (.bin .add (.s 19) (.s 23)), gO 2 (.mv (.s 24))]) .ret)))))⟩
theorem mfW_q150 : MT.mf 150 = some mfW_l150 := by kernel_rfl
noncomputable def mfW_l151 : MF := ⟨17, [(.tmp 4), (.tmp 5)], (.seq (.reg [gO 4 (.mv (.c (.lit (.int .u32 0)))), gO 5 (.mv (.c (.lit (.int .u32 0))))]) (.seq (.reg [gO 7 (.mv (.s 0)), gO 8 (.cv .u64 (.s 7)), gO 9 (.mv (.s 1)), gO 10 (.cv .u64 (.s 9)), gO 11 (.bin .mul (.s 8) (.s 10)), gO 6 (.mv (.s 11))]) (.seq (.reg [gO 12 (.mv (.s 6)), gO 13 (.shf .shr (.s 12) (.c (.lit (.int .u64 32)))), gO 14 (.cv .u32 (.s 13)), gO 15 (.mv (.s 6)), gO 16 (.cv .u32 (.s 15)), gO 4 (.mv (.s 14)), gO 5 (.mv (.s 16))]) .ret)))⟩
theorem mfW_q151 : MT.mf 151 = some mfW_l151 := by kernel_rfl
noncomputable def mfW_l152 : MF := ⟨51, [(.tmp 4), (.tmp 5)], (.seq (.reg [gO 4 (.mv (.c (.lit (.int .u64 0)))), gO 5 (.mv (.c (.lit (.int .u64 0))))]) (.seq (.reg [gO 14 (.mv (.s 0)), gO 15 (.bin .and (.s 14) (.c (.lit (.int .u64 4294967295)))), gO 6 (.mv (.s 15))]) (.seq (.reg [gO 16 (.mv (.s 0)), gO 17 (.shf .shr (.s 16) (.c (.lit (.int .u64 32)))), gO 7 (.mv (.s 17))]) (.seq (.reg [gO 18 (.mv (.s 1)), gO 19 (.bin .and (.s 18) (.c (.lit (.int .u64 4294967295)))), gO 8 (.mv (.s 19))]) (.seq (.reg [gO 20 (.mv (.s 1)), gO 21 (.shf .shr (.s 20) (.c (.lit (.int .u64 32)))), gO 9 (.mv (.s 21))]) (.seq (.reg [gO 22 (.mv (.s 6)), gO 23 (.mv (.s 8)), gO 24 (.bin .mul (.s 22) (.s 23)), gO 10 (.mv (.s 24))]) (.seq (.reg [gO 25 (.mv (.s 7)), gO 26 (.mv (.s 8)), gO 27 (.bin .mul (.s 25) (.s 26)), gO 28 (.mv (.s 10)), gO 29 (.shf .shr (.s 28) (.c (.lit (.int .u64 32)))), gO 30 (.bin .add (.s 27) (.s 29)), gO 11 (.mv (.s 30))]) (.seq (.reg [gO 31 (.mv (.s 11)), gO 32 (.bin .and (.s 31) (.c (.lit (.int .u64 4294967295)))), gO 12 (.mv (.s 32))]) (.seq (.reg [gO 33 (.mv (.s 11)), gO 34 (.shf .shr (.s 33) (.c (.lit (.int .u64 32)))), gO 13 (.mv (.s 34))]) (.seq (.reg [gO 35 (.mv (.s 12)), gO 36 (.mv (.s 6)), gO 37 (.mv (.s 9)), gO 38 (.bin .mul (.s 36) (.s 37)), gO 39 (.bin .add (.s 35) (.s 38)), gO 12 (.mv (.s 39))]) (.seq (.reg [gO 40 (.mv (.s 7)), gO 41 (.mv (.s 9)), gO 42 (.bin .mul (.s 40) (.s 41)), gO 43 (.mv (.s 13)), gO 44 (.bin .add (.s 42) (.s 43)), gO 45 (.mv (.s 12)), gO 46 (.shf .shr (.s 45) (.c (.lit (.int .u64 32)))), gO 47 (.bin .add (.s 44) (.s 46)), gO 4 (.mv (.s 47))]) (.seq (.reg [gO 48 (.mv (.s 0)), gO 49 (.mv (.s 1)), gO 50 (.bin .mul (.s 48) (.s 49)), gO 5 (.mv (.s 50))]) .ret))))))))))))⟩
theorem mfW_q152 : MT.mf 152 = some mfW_l152 := by kernel_rfl
noncomputable def mfW_l157 : MF := ⟨19, [(.tmp 4)], (.seq (.reg [gO 4 (.mv (cI 0))]) (.seq (.seq (.reg [gO 6 (.mv (.s 0)), gO 7 (.len (.s 6)), gO 8 (.mv (cI 0))]) (.block 0 (.loop [8, 7, 1, 0] (.seq (.reg [gO 9 (.bin .lss (.s 8) (.s 7))]) (.seq (.cond (.s 9) .skip (.exit 0)) (.seq (.block 1 (.seq (.reg [gO 10 (.mv (.s 8)), gO 5 (.mv (.s 10))]) (.seq (.reg [gO 11 (.mv (.s 1)), gO 12 (.mv (.s 0)), gO 13 (.mv (.s 5)), gO 14 (.ia 6 (.s 12) (.s 13)), gO 15 (.ld (some 6) (.s 14)), gO 16 (.callv (.s 11) [.s 15])]) (.cond (.s 16) (.seq (.reg [gO 17 (.mv (.s 5)), gO 4 (.mv (.s 17))]) .ret) .skip)))) (.reg [gO 18 (.bin .add (.s 8) (cI 1)), gO 8 (.mv (.s 18))]))))))) (.seq (.reg [gO 4 (.mv (cI (-1)))]) .ret)))⟩
theorem mfW_q157 : MT.mf 157 = some mfW_l157 := by kernel_rfl
noncomputable def mfW_l166 : MF := ⟨82, [], (.seq (.reg [gO 12 (.mv (.s 1)), gO 10 (.mv (.s 12))]) (.block 0 (.loop [10, 2, 4, 0, 3] (.block 1 (.seq (.reg [gO 13 (.mv (.s 10)), gO 14 (.bin .mul (cI 2) (.s 13)), gO 15 (.bin .add (.s 14) (cI 1)), gO 11 (.mv (.s 15))]) (.seq (.seq (.reg [gO 16 (.mv (.s 11)), gO 17 (.mv (.s 2)), gO 18 (.bin .geq (.s 16) (.s 17))]) (.cond (.s 18) (.exit 0) .skip)) (.seq (.seq (.reg [gO 19 (.mv (.s 11)), gO 20 (.bin .add (.s 19) (cI 1)), gO 21 (.mv (.s 2)), gO 22 (.bin .lss (.s 20) (.s 21)), gO 23 (.mv (.s 22)), ⟨some (23, true), some 24, .mv (.s 4)⟩, ⟨some (23, true), some 25, .mv (.s 0)⟩, ⟨some (23, true), some 26, .mv (.s 3)⟩, ⟨some (23, true), some 27, .mv (.s 11)⟩, ⟨some (23, true), some 28, .bin .add (.s 26) (.s 27)⟩, ⟨some (23, true), some 29, .ia 2 (.s 25) (.s 28)⟩, ⟨some (23, true), some 30, .ld (some 2) (.s 29)⟩, ⟨some (23, true), some 31, .mv (.s 0)⟩, ⟨some (23, true), some 32, .mv (.s 3)⟩, ⟨some (23, true), some 33, .mv (.s 11)⟩, ⟨some (23, true), some 34, .bin .add (.s 32) (.s 33)⟩, ⟨some (23, true), some 35, .bin .add (.s 34) (cI 1)⟩, ⟨some (23, true), some 36, .ia 2 (.s 31) (.s 35)⟩, ⟨some (23, true), some 37, .ld (some 2) (.s 36)⟩, ⟨some (23, true), some 38, .callv (.s 24) [.s 30, .s 37]⟩, ⟨some (23, true), some 39, .bin .lss (.s 38) (cI 0)⟩, gO 40 (.pick (.s 23) (.s 39) cF)]) (.cond (.s 40) (.reg [gO 41 (.mv (.s 11)), gO 42 (.bin .add (.s 41) (cI 1)), gO 11 (.mv (.s 42))]) .skip)) (.seq (.seq (.reg [gO 43 (.mv (.s 4)), gO 44 (.mv (.s 0)), gO 45 (.mv (.s 3)), gO 46 (.mv (.s 10)), gO 47 (.bin .add (.s 45) (.s 46)), gO 48 (.ia 2 (.s 44) (.s 47)), gO 49 (.ld (some 2) (.s 48)), gO 50 (.mv (.s 0)), gO 51 (.mv (.s 3)), gO 52 (.mv (.s 11)), gO 53 (.bin .add (.s 51) (.s 52)), gO 54 (.ia 2 (.s 50) (.s 53)), gO 55 (.ld (some 2) (.s 54)), gO 56 (.callv (.s 43) [.s 49, .s 55]), gO 57 (.bin .lss (.s 56) (cI 0)), gO 58 (.un .not (.s 57))]) (.cond (.s 58) .ret .skip)) (.seq (.reg [gO 59 (.mv (.s 0)), gO 60 (.mv (.s 3)), gO 61 (.mv (.s 10)), gO 62 (.bin .add (.s 60) (.s 61)), gO 63 (.mv (.s 0)), gO 64 (.mv (.s 3)), gO 65 (.mv (.s 11)), gO 66 (.bin .add (.s 64) (.s 65)), gO 67 (.mv (.s 0)), gO 68 (.mv (.s 3)), gO 69 (.mv (.s 11)), gO 70 (.bin .add (.s 68) (.s 69)), gO 71 (.ia 2 (.s 67) (.s 70)), gO 72 (.ld (some 2) (.s 71)), gO 73 (.mv (.s 0)), gO 74 (.mv (.s 3)), gO 75 (.mv (.s 10)), gO 76 (.bin .add (.s 74) (.s 75)), gO 77 (.ia 2 (.s 73) (.s 76)), gO 78 (.ld (some 2) (.s 77)), gO 79 (.ia 2 (.s 59) (.s 62)), ⟨none, none, .st 2 (.s 79) (.s 72)⟩, gO 80 (.ia 2 (.s 63) (.s 66)), ⟨none, none, .st 2 (.s 80) (.s 78)⟩]) (.reg [gO 81 (.mv (.s 11)), gO 10 (.mv (.s 81))]))))))))))⟩
theorem mfW_q166 : MT.mf 166 = some mfW_l166 := by kernel_rfl
noncomputable def mfW_l167 : MF := ⟨7, [(.tmp 2)], (.seq (.reg [gO 2 (.mv (.c (.lit (.int .u64 0))))]) (.seq (.reg [gO 3 (.mv (.s 0)), gO 4 (.cv .u64 (.s 3)), gO 5 (.call 118 [.s 4]), gO 6 (.shf .shl (.c (.lit (.int .u64 1))) (.s 5)), gO 2 (.mv (.s 6))]) .ret))⟩
theorem mfW_q167 : MT.mf 167 = some mfW_l167 := by kernel_rfl
noncomputable def mfW_l168 : MF := ⟨33, [(.tmp 2)], (.seq (.reg [gO 2 (.mv (.c (.lit (.int .u64 0))))]) (.seq (.reg [gO 3 (.mv (.s 0)), gO 4 (.nilck (.s 3)), gO 5 (.ld none (.s 4)), gO 6 (.mv (.s 0)), gO 7 (.nilck (.s 6)), gO 8 (.ld none (.s 7)), gO 9 (.shf .shl (.s 8) (.c (.lit (.int .u64 13)))), gO 10 (.bin .xor (.s 5) (.s 9)), gO 11 (.nilck (.s 3)), ⟨none, none, .st 1 (.s 11) (.s 10)⟩]) (.seq (.reg [gO 12 (.mv (.s 0)), gO 13 (.nilck (.s 12)), gO 14 (.ld none (.s 13)), gO 15 (.mv (.s 0)), gO 16 (.nilck (.s 15)), gO 17 (.ld none (.s 16)), gO 18 (.shf .shr (.s 17) (.c (.lit (.int .u64 7)))), gO 19 (.bin .xor (.s 14) (.s 18)), gO 20 (.nilck (.s 12)), ⟨none, none, .st 1 (.s 20) (.s 19)⟩]) (.seq (.reg [gO 21 (.mv (.s 0)), gO 22 (.nilck (.s 21)), gO 23 (.ld none (.s 22)), gO 24 (.mv (.s 0)), gO 25 (.nilck (.s 24)), gO 26 (.ld none (.s 25)), gO 27 (.shf .shl (.s 26) (.c (.lit (.int .u64 17)))), gO 28 (.bin .xor (.s 23) (.s 27)), gO 29 (.nilck (.s 21)), ⟨none, none, .st 1 (.s 29) (.s 28)⟩]) (.seq (.reg [gO 30 (.mv (.s 0)), gO 31 (.nilck (.s 30)), gO 32 (.ld none (.s 31)), gO 2 (.mv (.s 32))]) .ret)))))⟩
theorem mfW_q168 : MT.mf 168 = some mfW_l168 := by kernel_rfl
noncomputable def mfW_l169 : MF := ⟨18, [(.tmp 8)], (.seq (.reg [gO 8 (.mv (cI 0))]) (.seq (.reg [gO 9 (.mv (.s 0)), gO 10 (.mv (.s 1)), gO 11 (.bin .sub (.s 10) (cI 1)), gO 12 (.mv (.s 1)), gO 13 (.mv (.s 1)), gO 14 (.bin .add (.s 13) (cI 1)), gO 15 (.mv (.s 2)), gO 16 (.mv (.s 3)), gO 17 (.call 170 [.s 9, .s 11, .s 12, .s 14, .s 15, .s 16]), gO 8 (.mv (.s 17))]) .ret))⟩
theorem mfW_q169 : MT.mf 169 = some mfW_l169 := by kernel_rfl
noncomputable def mfW_l170 : MF := ⟨41, [(.tmp 12)], (.seq (.reg [gO 12 (.mv (cI 0))]) (.seq (.reg [gO 14 (.mv (.s 0)), gO 15 (.mv (.s 1)), gO 16 (.mv (.s 2)), gO 17 (.mv (.s 4)), gO 18 (.mv (.s 5)), gO 19 (.call 182 [.s 14, .s 15, .s 16, .s 17, .s 18]), gO 13 (.mv (.s 19)), gO 20 (.ext (.s 13) 0), gO 21 (.ext (.s 13) 1), gO 1 (.mv (.s 20)), gO 2 (.mv (.s 21))]) (.seq (.reg [gO 23 (.mv (.s 0)), gO 24 (.mv (.s 2)), gO 25 (.mv (.s 3)), gO 26 (.mv (.s 4)), gO 27 (.mv (.s 5)), gO 28 (.call 182 [.s 23, .s 24, .s 25, .s 26, .s 27]), gO 22 (.mv (.s 28)), gO 29 (.ext (.s 22) 0), gO 30 (.ext (.s 22) 1), gO 2 (.mv (.s 29)), gO 3 (.mv (.s 30))]) (.seq (.reg [gO 32 (.mv (.s 0)), gO 33 (.mv (.s 1)), gO 34 (.mv (.s 2)), gO 35 (.mv (.s 4)), gO 36 (.mv (.s 5)), gO 37 (.call 182 [.s 32, .s 33, .s 34, .s 35, .s 36]), gO 31 (.mv (.s 37)), gO 38 (.ext (.s 31) 0), gO 39 (.ext (.s 31) 1), gO 1 (.mv (.s 38)), gO 2 (.mv (.s 39))]) (.seq (.reg [gO 40 (.mv (.s 2)), gO 12 (.mv (.s 40))]) .ret)))))⟩
theorem mfW_q170 : MT.mf 170 = some mfW_l170 := by kernel_rfl
noncomputable def mfW_l182 : MF := ⟨32, [(.tmp 10), (.tmp 11)], (.seq (.reg [gO 10 (.mv (cI 0)), gO 11 (.mv (cI 0))]) (.seq (.seq (.reg [gO 12 (.mv (.s 4)), gO 13 (.mv (.s 0)), gO 14 (.mv (.s 2)), gO 15 (.ia 2 (.s 13) (.s 14)), gO 16 (.ld (some 2) (.s 15)), gO 17 (.mv (.s 0)), gO 18 (.mv (.s 1)), gO 19 (.ia 2 (.s 17) (.s 18)), gO 20 (.ld (some 2) (.s 19)), gO 21 (.callv (.s 12) [.s 16, .s 20]), gO 22 (.bin .lss (.s 21) (cI 0))]) (.cond (.s 22) (.seq (.reg [gO 23 (.mv (.s 3)), gO 24 (.nilck (.s 23)), gO 25 (.ld none (.s 24)), gO 26 (.bin .add (.s 25) (cI 1)), gO 27 (.nilck (.s 23)), ⟨none, none, .st 1 (.s 27) (.s 26)⟩]) (.seq (.reg [gO 28 (.mv (.s 2)), gO 29 (.mv (.s 1)), gO 10 (.mv (.s 28)), gO 11 (.mv (.s 29))]) .ret)) .skip)) (.seq (.reg [gO 30 (.mv (.s 1)), gO 31 (.mv (.s 2)), gO 10 (.mv (.s 30)), gO 11 (.mv (.s 31))]) .ret)))⟩
theorem mfW_q182 : MT.mf 182 = some mfW_l182 := by kernel_rfl
noncomputable def mfW_t : List (Nat × MF) := [(15, mfW_l15), (18, mfW_l18), (37, mfW_l37), (40, mfW_l40), (41, mfW_l41), (44, mfW_l44), (45, mfW_l45), (46, mfW_l46), (48, mfW_l48), (49, mfW_l49), (51, mfW_l51), (52, mfW_l52), (53, mfW_l53), (57, mfW_l57), (58, mfW_l58), (59, mfW_l59), (68, mfW_l68), (71, mfW_l71), (73, mfW_l73), (75, mfW_l75), (76, mfW_l76), (77, mfW_l77), (78, mfW_l78), (79, mfW_l79), (81, mfW_l81), (82, mfW_l82), (83, mfW_l83), (84, mfW_l84), (86, mfW_l86), (87, mfW_l87), (88, mfW_l88), (89, mfW_l89), (95, mfW_l95), (96, mfW_l96), (97, mfW_l97), (98, mfW_l98), (105, mfW_l105), (106, mfW_l106), (107, mfW_l107), (108, mfW_l108), (115, mfW_l115), (116, mfW_l116), (117, mfW_l117), (118, mfW_l118), (119, mfW_l119), (120, mfW_l120), (121, mfW_l121), (122, mfW_l122), (123, mfW_l123), (132, mfW_l132), (133, mfW_l133), (134, mfW_l134), (141, mfW_l141), (142, mfW_l142), (143, mfW_l143), (144, mfW_l144), (145, mfW_l145), (146, mfW_l146), (147, mfW_l147), (148, mfW_l148), (149, mfW_l149), (150, mfW_l150), (151, mfW_l151), (152, mfW_l152), (157, mfW_l157), (166, mfW_l166), (167, mfW_l167), (168, mfW_l168), (169, mfW_l169), (170, mfW_l170), (182, mfW_l182)]
theorem mfW_k : OkT MT mfW_t := OkT.cons mfW_q15 (OkT.cons mfW_q18 (OkT.cons mfW_q37 (OkT.cons mfW_q40 (OkT.cons mfW_q41 (OkT.cons mfW_q44 (OkT.cons mfW_q45 (OkT.cons mfW_q46 (OkT.cons mfW_q48 (OkT.cons mfW_q49 (OkT.cons mfW_q51 (OkT.cons mfW_q52 (OkT.cons mfW_q53 (OkT.cons mfW_q57 (OkT.cons mfW_q58 (OkT.cons mfW_q59 (OkT.cons mfW_q68 (OkT.cons mfW_q71 (OkT.cons mfW_q73 (OkT.cons mfW_q75 (OkT.cons mfW_q76 (OkT.cons mfW_q77 (OkT.cons mfW_q78 (OkT.cons mfW_q79 (OkT.cons mfW_q81 (OkT.cons mfW_q82 (OkT.cons mfW_q83 (OkT.cons mfW_q84 (OkT.cons mfW_q86 (OkT.cons mfW_q87 (OkT.cons mfW_q88 (OkT.cons mfW_q89 (OkT.cons mfW_q95 (OkT.cons mfW_q96 (OkT.cons mfW_q97 (OkT.cons mfW_q98 (OkT.cons mfW_q105 (OkT.cons mfW_q106 (OkT.cons mfW_q107 (OkT.cons mfW_q108 (OkT.cons mfW_q115 (OkT.cons mfW_q116 (OkT.cons mfW_q117 (OkT.cons mfW_q118 (OkT.cons mfW_q119 (OkT.cons mfW_q120 (OkT.cons mfW_q121 (OkT.cons mfW_q122 (OkT.cons mfW_q123 (OkT.cons mfW_q132 (OkT.cons mfW_q133 (OkT.cons mfW_q134 (OkT.cons mfW_q141 (OkT.cons mfW_q142 (OkT.cons mfW_q143 (OkT.cons mfW_q144 (OkT.cons mfW_q145 (OkT.cons mfW_q146 (OkT.cons mfW_q147 (OkT.cons mfW_q148 (OkT.cons mfW_q149 (OkT.cons mfW_q150 (OkT.cons mfW_q151 (OkT.cons mfW_q152 (OkT.cons mfW_q157 (OkT.cons mfW_q166 (OkT.cons mfW_q167 (OkT.cons mfW_q168 (OkT.cons mfW_q169 (OkT.cons mfW_q170 (OkT.cons mfW_q182 (OkT.nil)))))))))))))))))))))))))))))))))))))))))))))))))))))))))))))))))))))))
noncomputable def mfW : Nat → Option MF := lookT mfW_t
theorem mfW_ok (f : Nat) (m : MF) (h : mfW f = some m) : MT.mf f = some m := mfW_k.look h
abbrev stB (c : UInt8) : MV := .lit (.string ⟨#[c]⟩)
abbrev netX : MV := .agg [.sl [.agg [stB 97, Bo false], .agg [stB 98, Bo false], .agg [stB 116, Bo true], .agg [stB 117, Bo true]],
 .sl [.agg [I64 0, I64 2, I64 10, I64 10, I64 3, I64 1], .agg [I64 0, I64 3, I64 20, I64 5, I64 5, I64 1], .agg [I64 1, I64 2, I64 10, I64 20, I64 1, I64 1], .agg [I64 1, I64 3, I64 20, I64 15, I64 4, I64 1]]]
end Go.Proofs.YtfchdbghjeophaaGreatDoor

/- From arguments as they are read to open values; from an answer to a law's statement. -/
namespace Go.Proofs.YtfchdbghjeophaaGreatDoor
open Go.RowKit Go.ChangeShapes Go.WideShapes Go.ChangeAt
set_option linter.unusedVariables false
inductive Sh where
 | int (k : IntKind)
 | bool
 | str
 | agg (fs : List Sh)
 | slice (e : Sh)
mutual
def Sh.size : Sh → Nat
 | .int _ | .bool | .str | .slice _ => 1
 | .agg fs => sizeL fs
def sizeL : List Sh → Nat
 | [] => 0
 | s :: ss => s.size + sizeL ss
end
mutual
def Sh.has (P : Program) : Sh → TypeId → Bool
 | .int k, t => (match P.underlying t with | some (.int k') => k' == k | _ => false)
 | .bool, t => (match P.underlying t with | some .bool => true | _ => false)
 | .str, t => (match P.underlying t with | some .string => true | _ => false)
 | .agg ss, t => (match P.underlying t with | some (.struct fs) => P.cellsOf t == sizeL ss && hasL P ss 0 fs.toList | _ => false)
 | .slice s, t => (match P.underlying t with | some (.slice e) => P.cellsOf e == s.size && Nat.blt 0 s.size && s.has P e | _ => false)
def hasL (P : Program) : List Sh → Nat → List Field → Bool
 | [], _, [] => true
 | s :: ss, off, f :: fs => f.offset == off && P.cellsOf f.type == s.size && s.has P f.type && hasL P ss (off + s.size) fs
 | _, _, _ => false
end
mutual
def Fits : Sh → MV → Prop
 | .int k, m => ∃ n, m = .lit (.int k n) ∧ (Lit.int k n).wf = true
 | .bool, m => ∃ b, m = .lit (.bool b)
 | .str, m => ∃ s : ByteArray, m = .lit (.string s) ∧ s.size ≤ maxLen
 | .agg ss, m => ∃ ms, FitsL ss ms ∧ m = .agg (ms.flatMap MV.cells)
 | .slice s, m => ∃ es, m = .sl es ∧ es.length ≤ maxLen ∧ ∀ e ∈ es, Fits s e
def FitsL : List Sh → List MV → Prop
 | [], ms => ms = []
 | s :: ss, ms => ∃ m r, ms = m :: r ∧ Fits s m ∧ FitsL ss r
end
def baseE (w : World) : Env := { S := fun b => b < w.heap.size, K := fun _ => False, ρ := fun _ => 0, bo := fun _ => 0, cp := fun _ => 0, sz := fun _ => 0, gn := fun _ => 0, ln := fun _ => 0, nl := fun _ => false, top := 0, yl := 0 }
theorem baseE_rel (w : World) (hT : ∀ p ∈ TABS, V (baseE w) w p.1 p.2) : HRel (baseE w) [] w := ⟨fun _ h => h.elim, Nat.le_refl _, fun _ h => h.elim, fun _ _ h => h.elim, fun _ h => h.elim, fun _ h => h, hT⟩
section
variable {H : Type} {enc : TypeId × Value → H} {P : Program} {w : World} {spare : Nat → Bool} {held : Bool}
theorem vs_one {E : Env} {w : World} {m : MV} {v : Value} (h : V E w m v) : Vs E w [m] [v] := Vs.cons h ⟨rfl, fun i c v hc => by simp at hc⟩
mutual
theorem lift_ok : ∀ (s : Sh) (t : TypeId) (fuel : Nat) (cs : List Value) (x : DataW H × List MemPlace), s.has P t = true → DataW.trod enc P w 0 spare held fuel t cs = some x →
  ∃ m, Fits s m ∧ Vs (baseE w) w m.cells cs ∧ m.cells.length = s.size
 | .int k, t, fuel, cs, x, hs, h => by
  simp only [Sh.has] at hs
  split at hs
  case h_2 => cases hs
  rename_i k' ht
  have : k' = k := by simpa using hs
  subst this
  obtain ⟨n, rfl, -, hw⟩ := DataW.trod_int ht h
  exact ⟨.lit (.int k' n), ⟨n, rfl, hw⟩, vs_one (.lit _), rfl⟩
 | .bool, t, fuel, cs, x, hs, h => by
  simp only [Sh.has] at hs
  split at hs
  case h_2 => cases hs
  rename_i ht
  obtain ⟨b, rfl, -⟩ := DataW.trod_bool ht h
  exact ⟨.lit (.bool b), ⟨b, rfl⟩, vs_one (.lit _), rfl⟩
 | .str, t, fuel, cs, x, hs, h => by
  simp only [Sh.has] at hs
  split at hs
  case h_2 => cases hs
  rename_i ht
  obtain ⟨b, rfl, -, hb⟩ := DataW.trod_string ht h
  exact ⟨.lit (.string b), ⟨b, rfl, hb⟩, vs_one (.lit _), rfl⟩
 | .agg ss, t, fuel, cs, x, hs, h => by
  simp only [Sh.has] at hs
  split at hs
  case h_2 => cases hs
  rename_i fs ht
  simp only [Bool.and_eq_true, beq_iff_eq] at hs
  obtain ⟨xs, n, -, -, hl, hlen, hf⟩ := DataW.trod_struct ht h
  obtain ⟨ms, h1, h2, h3⟩ := liftL_ok ss 0 fs.toList n cs hs.2 (by rw [hl, hs.1]; omega) fun i f hi => by
   have := hf i f (by simpa using hi)
   have hix : i < xs.length := by rw [hlen]; have := (List.getElem?_eq_some_iff.1 hi).1; simpa using this
   exact ⟨xs[i], by rw [this]; simp [hix]⟩
  exact ⟨.agg (ms.flatMap MV.cells), ⟨ms, h1, rfl⟩, by simpa [MV.cells] using h2, by simp only [MV.cells]; exact h3⟩
 | .slice s, t, fuel, cs, x, hs, h => by
  simp only [Sh.has] at hs
  split at hs
  case h_2 => cases hs
  rename_i e ht
  simp only [Bool.and_eq_true, beq_iff_eq] at hs
  obtain ⟨⟨hc, hpos⟩, hse⟩ := hs
  have hpos' : 0 < s.size := by simpa [Nat.blt_eq] using hpos
  rcases DataW.trod_slice ht h with ⟨rfl, -⟩ | ⟨a, len, cap, elems, rest, n, -, rfl, -, -, hle, hmx, hel, hE, -, -⟩
  ·exact ⟨.sl [], ⟨[], rfl, by simp, fun e he => by cases he⟩, vs_one (.sl [] [] none 0 s.size (Nat.le_refl _) (fun e he => by cases he) rfl (fun i c v hc => by simp [flat] at hc) (fun h0 => absurd h0 (by simp))), rfl⟩
  ·have key : ∀ i, i < len → ∃ m cs', Fits s m ∧ Vs (baseE w) w m.cells cs' ∧ m.cells.length = s.size ∧ cs'.length = s.size ∧ ∀ j, j < s.size → w.cell? ((a.add (i * s.size)).add j) = cs'[j]? := fun i hi => by
    have h1 := hE i hi
    have h2 : elems[i]? = some (elems[i]'(by rw [hel]; exact hi)) := by simp [hel, hi]
    rw [h2, Option.bind_eq_some_iff, hc] at h1
    obtain ⟨cs', h3, h4⟩ := h1
    obtain ⟨-, h5, h6⟩ := World.cells?_some h3
    obtain ⟨m, k1, k2, k3⟩ := lift_ok s e n cs' _ hse h4
    exact ⟨m, cs', k1, k2, k3, h5, h6⟩
   obtain ⟨F, hF⟩ : ∃ F : Nat → MV × List Value, ∀ i, i < len → Fits s (F i).1 ∧ Vs (baseE w) w (F i).1.cells (F i).2 ∧ (F i).1.cells.length = s.size ∧ (F i).2.length = s.size ∧ ∀ j, j < s.size → w.cell? ((a.add (i * s.size)).add j) = (F i).2[j]? :=
    ⟨fun i => if hi : i < len then ((key i hi).choose, (key i hi).choose_spec.choose) else default, fun i hi => by simp only [dif_pos hi]; exact (key i hi).choose_spec.choose_spec⟩
   have hmem : ∀ e ∈ (List.range len).map fun i => (F i).1, Fits s e ∧ e.cells.length = s.size := fun e he => by
    obtain ⟨i, hi, rfl⟩ := List.mem_map.1 he
    have hi' := List.mem_range.1 hi
    exact ⟨(hF i hi').1, (hF i hi').2.2.1⟩
   refine ⟨.sl ((List.range len).map fun i => (F i).1), ⟨_, rfl, by simp; omega, fun e he => (hmem e he).1⟩, vs_one ?_, rfl⟩
   have hflen : (flat ((List.range len).map fun i => (F i).1)).length = len * s.size := by rw [flat_len fun e he => (hmem e he).2]; simp
   have hcell : ∀ k, k < len * s.size → ∃ i j, i < len ∧ j < s.size ∧ k = i * s.size + j := fun k hk => ⟨k / s.size, k % s.size, Nat.div_lt_of_lt_mul (by rw [Nat.mul_comm]; exact hk), Nat.mod_lt _ hpos', (Nat.div_add_mod' k s.size).symm⟩
   have hspot : 0 < len → ∃ b off, a = ⟨b, off, none⟩ := fun h0 => by
    obtain ⟨b, off, spot⟩ := a
    have h1 := (hF 0 h0).2.2.2.2 0 hpos'
    rw [List.getElem?_eq_getElem (by rw [(hF 0 h0).2.2.2.1]; exact hpos')] at h1
    have hsp : spot = none := by simpa [Addr.add] using World.cell?_spot h1
    exact ⟨b, off, by rw [hsp]⟩
   by_cases h0 : 0 < len
   ·obtain ⟨b, off, rfl⟩ := hspot h0
    have hb : b < w.heap.size := by
     have h1 := (hF 0 h0).2.2.2.2 0 hpos'
     rw [List.getElem?_eq_getElem (by rw [(hF 0 h0).2.2.2.1]; exact hpos')] at h1
     have := cell_lt h1
     simpa [Addr.add] using this
    have hval : ∀ i j, i < len → j < s.size → w.cell? ⟨b, off + (i * s.size + j), none⟩ = (F i).2[j]? := fun i j hi hj => by
     rw [← (hF i hi).2.2.2.2 j hj]
     simp [Go.WideShapes.add_plain, Nat.add_assoc]
    have hl2 : ((List.range len).map fun i => (F i).1).length = len := by simp
    have := V.sl (E := baseE w) (w := w) ((List.range len).map fun i => (F i).1) ((List.range (len * s.size)).map fun k => (w.cell? ⟨b, off + k, none⟩).getD undef) (some ⟨b, off, none⟩) cap s.size (by rw [hl2]; exact hle) (fun e he => (hmem e he).2) (by rw [hflen]; simp)
     (fun k c v hk hv => by
      obtain ⟨i, j, e, rfl, hj, he, hcj⟩ := (flat_iff fun e he => (hmem e he).2).1 hk
      have hi : i < len := by have := (List.getElem?_eq_some_iff.1 he).1; simpa using this
      have he' : (F i).1 = e := by simpa [hi] using he
      subst he'
      have hlt : i * s.size + j < len * s.size := by
       have := Nat.mul_le_mul_right s.size (show i + 1 ≤ len from hi)
       rw [Nat.add_mul, Nat.one_mul] at this
       omega
      rw [List.getElem?_map, List.getElem?_range hlt, Option.map_some, hval i j hi hj] at hv
      have hj2 : j < (F i).2.length := by rw [(hF i hi).2.2.2.1]; exact hj
      rw [List.getElem?_eq_getElem hj2, Option.getD_some, Option.some.injEq] at hv
      exact (hF i hi).2.1.2 j c v hcj (by rw [List.getElem?_eq_getElem hj2, hv]))
     (fun _ => ⟨b, off, rfl, hb, fun k v hk => by
      have hlt : k < len * s.size := by have := (List.getElem?_eq_some_iff.1 hk).1; simpa using this
      obtain ⟨i, j, hi, hj, rfl⟩ := hcell k hlt
      rw [List.getElem?_map, List.getElem?_range hlt, Option.map_some] at hk
      have hj2 : j < (F i).2.length := by rw [(hF i hi).2.2.2.1]; exact hj
      have h9 := hval i j hi hj
      rw [List.getElem?_eq_getElem hj2] at h9
      rw [h9, Option.getD_some, Option.some.injEq] at hk
      rw [h9, hk]⟩)
    rw [hl2] at this
    exact this
   ·have hl0 : len = 0 := by omega
    subst hl0
    exact .sl [] [] (some a) cap s.size (by simp) (fun e he => by cases he) rfl (fun i c v hc => by simp [flat] at hc) (fun h0 => absurd h0 (by simp))
theorem liftL_ok : ∀ (ss : List Sh) (off : Nat) (fs : List Field) (n : Nat) (cs : List Value), hasL P ss off fs = true → cs.length = off + sizeL ss → (∀ (i : Nat) (f : Field), fs[i]? = some f → ∃ x, DataW.trod enc P w 0 spare held n f.type ((cs.drop f.offset).take (P.cellsOf f.type)) = some x) →
  ∃ ms, FitsL ss ms ∧ Vs (baseE w) w (ms.flatMap MV.cells) (cs.drop off) ∧ (ms.flatMap MV.cells).length = sizeL ss
 | [], off, fs, n, cs, hs, hl, hf => ⟨[], rfl, by
   have : cs.drop off = [] := List.drop_eq_nil_of_le (by simp [sizeL] at hl; omega)
   rw [this]; exact ⟨rfl, fun i c v hc => by simp at hc⟩, rfl⟩
 | s :: ss, off, [], n, cs, hs, hl, hf => by simp [hasL] at hs
 | s :: ss, off, f :: fs, n, cs, hs, hl, hf => by
  simp only [hasL, Bool.and_eq_true, beq_iff_eq] at hs
  obtain ⟨⟨⟨h1, h2⟩, h3⟩, h4⟩ := hs
  obtain ⟨x, hx⟩ := hf 0 f rfl
  rw [h1, h2] at hx
  obtain ⟨m, k1, k2, k3⟩ := lift_ok s f.type n _ x h3 hx
  obtain ⟨ms, j1, j2, j3⟩ := liftL_ok ss (off + s.size) fs n cs h4 (by simp only [sizeL] at hl; omega) fun i f' hi => hf (i + 1) f' (by simpa using hi)
  refine ⟨m :: ms, ⟨m, ms, rfl, k1, j1⟩, ?_, by simp only [List.flatMap_cons, List.length_append, sizeL, k3, j3]⟩
  have e : cs.drop off = (cs.drop off).take s.size ++ cs.drop (off + s.size) := by
   rw [← List.drop_drop]; exact (List.take_append_drop _ _).symm
  rw [e, List.flatMap_cons]
  exact k2.append j2
end
end
end Go.Proofs.YtfchdbghjeophaaGreatDoor

/- From an answer to a law's statement. -/
namespace Go.Proofs.YtfchdbghjeophaaGreatDoor
open Go.RowKit Go.ChangeShapes Go.WideShapes Go.ChangeAt
set_option linter.unusedVariables false
theorem Tryz.own : ownKnob Tryz.prog.godebug = none := by kernel_rfl
theorem Tryz.laidOut : laidOutB Tryz.prog = true := by kernel_rfl
section
variable {H : Type} {enc : TypeId × Value → H} {P : Program} {w : World} {spare : Nat → Bool} {held : Bool}
theorem lift_val {s : Sh} {t : TypeId} {v : Value} {d : DataW H} {p : List MemPlace} {r : Reach} {b : Nat} (hs : s.has P t = true) (hv : Value.okWide P w r b t v) (h : DataW.Trod enc P w 0 spare held t v d p) : ∃ m, Fits s m ∧ V (baseE w) w m v := by
 obtain ⟨fuel, h⟩ := h
 obtain ⟨m, h1, h2, h3⟩ := lift_ok s t fuel _ _ hs h
 refine ⟨m, h1, ?_⟩
 have one : m.cells = [m] → v.cells = #[v] → V (baseE w) w m v := fun e1 e2 => by
  rw [e1, e2] at h2
  exact h2.2 0 m v rfl rfl
 cases s with
 | int k =>
  simp only [Fits] at h1
  obtain ⟨n, rfl, -⟩ := h1
  simp only [Sh.has] at hs
  split at hs
  case h_2 => cases hs
  rename_i k' ht
  obtain ⟨n', rfl⟩ := okWide_int ht hv
  exact one rfl rfl
 | bool =>
  simp only [Fits] at h1
  obtain ⟨n, rfl⟩ := h1
  simp only [Sh.has] at hs
  split at hs
  case h_2 => cases hs
  rename_i ht
  obtain ⟨n', rfl⟩ := okWide_bool ht hv
  exact one rfl rfl
 | str =>
  simp only [Fits] at h1
  obtain ⟨n, rfl, -⟩ := h1
  simp only [Sh.has] at hs
  split at hs
  case h_2 => cases hs
  rename_i ht
  obtain ⟨n', rfl⟩ := okWide_string ht hv
  exact one rfl rfl
 | slice s =>
  simp only [Fits] at h1
  obtain ⟨es, rfl, -⟩ := h1
  simp only [Sh.has] at hs
  split at hs
  case h_2 => cases hs
  rename_i e ht
  obtain ⟨a, len, cap, rfl⟩ := okWide_slice ht hv
  exact one rfl rfl
 | agg ss =>
  simp only [Fits] at h1
  obtain ⟨ms, -, rfl⟩ := h1
  simp only [Sh.has] at hs
  split at hs
  case h_2 => cases hs
  rename_i fs ht
  obtain ⟨cs, rfl, -⟩ := okWide_struct ht hv
  have h4 : Vs (baseE w) w (ms.flatMap MV.cells) cs.toList := by simpa [MV.cells, Value.cells] using h2
  have := V.agg (E := baseE w) (w := w) _ _ h4.1 h4.2
  simpa using this
def hasAll (P : Program) : List Sh → List TypeId → Bool
 | [], [] => true
 | s :: ss, t :: ts => s.has P t && hasAll P ss ts
 | _, _ => false
theorem lift_all {r : Reach} {b : Nat} : ∀ (ss : List Sh) (ts : List TypeId) (vs : List Value) (ds : List (DataW H)) (ps : List MemPlace), hasAll P ss ts = true → DataW.TrodAll enc P w 0 spare held ts vs ds ps →
  (∀ (j : Nat) t v, ts[j]? = some t → vs[j]? = some v → Value.okWide P w r b t v) → ∃ ms, FitsL ss ms ∧ Vs (baseE w) w ms vs ∧ ds.length = ss.length
 | [], [], [], [], ps, _, _, _ => ⟨[], rfl, ⟨rfl, fun i c v hc => by simp at hc⟩, rfl⟩
 | [], [], [], _ :: _, ps, _, h, _ => by simp [DataW.TrodAll] at h
 | [], [], _ :: _, _, ps, _, h, _ => by simp [DataW.TrodAll] at h
 | s :: ss, t :: ts, [], _, ps, _, h, _ => by simp [DataW.TrodAll] at h
 | s :: ss, t :: ts, _ :: _, [], ps, _, h, _ => by simp [DataW.TrodAll] at h
 | s :: ss, t :: ts, v :: vs, d :: ds, ps, hs, h, hv => by
  simp only [hasAll, Bool.and_eq_true] at hs
  obtain ⟨p, q, h1, h2, -⟩ := h
  obtain ⟨m, k1, k2⟩ := lift_val hs.1 (hv 0 t v rfl rfl) h1
  obtain ⟨ms, j1, j2, j3⟩ := lift_all ss ts vs ds q hs.2 h2 fun j t' v' ht hv' => hv (j + 1) t' v' (by simpa using ht) (by simpa using hv')
  exact ⟨m :: ms, ⟨m, ms, rfl, k1, j1⟩, Vs.cons k2 j2, by simp [j3]⟩
 | [], _ :: _, _, _, _, hs, _, _ => by simp [hasAll] at hs
 | _ :: _, [], _, _, _, hs, _, _ => by simp [hasAll] at hs
theorem stay_all (hl : laidOutB P = true) {W' : World} (hb : Below w.heap.size w W') : ∀ (ts : List TypeId) (vs : List Value) (ds : List (DataW H)) (ps : List MemPlace), DataW.TrodAll enc P w 0 (fun _ => true) true ts vs ds ps → (ts.all fun t => P.readableRec t && decide (t < P.types.size)) = true → (∀ x ∈ ps, x.block < w.heap.size) →
  DataW.TrodAll enc P W' 0 (fun b => decide (b < w.heap.size)) true ts vs ds ps
 | [], [], [], ps, h, _, _ => h
 | [], [], _ :: _, ps, h, _, _ => by simp [DataW.TrodAll] at h
 | [], _ :: _, _, ps, h, _, _ => by simp [DataW.TrodAll] at h
 | t :: ts, [], _, ps, h, _, _ => by simp [DataW.TrodAll] at h
 | t :: ts, _ :: _, [], ps, h, _, _ => by simp [DataW.TrodAll] at h
 | t :: ts, v :: vs, d :: ds, ps, h, hr, hlt => by
  obtain ⟨p, q, h1, h2, rfl⟩ := h
  simp only [List.all_cons, Bool.and_eq_true, decide_eq_true_eq] at hr
  exact ⟨p, q, Below.trod hl hr.1.1 hr.1.2 h1 hb (fun x hx => hlt x (List.mem_append_left _ hx)), stay_all hl hb ts vs ds q h2 (by simpa using hr.2) (fun x hx => hlt x (List.mem_append_right _ hx)), rfl⟩
end
theorem below_ext {w w' : World} {E E' : Env} (hK : ∀ id, ¬ E.K id) (hx : Ext (fun _ => true) E w E' w') : Below w.heap.size w w' :=
 ext_below (n := 0) (hx.mono fun id hk _ => rfl) (fun id hk => absurd hk (hK id))
theorem law_calls {O : Oracle} (hO : SoundO Tryz.prog O ∧ AppO O) {f : Nat} {args : List MV} {vs : List Value} {w : World} (hz : runZ MT O (itA 14) 4000000 f args [] = some (.lit (.bool true), [])) (hv : Vs (baseE w) w args vs) (hT : ∀ p ∈ TABS, V (baseE w) w p.1 p.2) :
  Calls Tryz.prog f vs.toArray w fun e w' => e = .returned (.bool true) ∧ Below w.heap.size w w' := by
 have hI : SoundI Tryz.prog (itA 14) := orI_ok (by kernel_rfl) (tabOf_ok Tryz.prog) tI_ok (orA_ok 14) (orZ_ok (by kernel_rfl) (tabOf_ok Tryz.prog) tA_ok tI_ok 14).2
 refine ((runZ_ok (by kernel_rfl) (tabOf_ok Tryz.prog) hO.1 hO.2 hI hz).2 (baseE w) w vs (baseE_rel w hT) hv).mono ?_
 rintro e w' ⟨v, E', rfl, h1, -, h3⟩
 exact ⟨by rw [h1.lit_eq], below_ext (fun id hk => hk) h3⟩
set_option maxRecDepth 100000 in
theorem law_contractT {H : Type} {enc : TypeId × Value → H} {f : Nat} {fn : Func} {s : ChangeSpec} {O : Oracle} (hO : SoundO Tryz.prog O ∧ AppO O) (shs : List Sh) (hp : hasAll Tryz.prog shs fn.params.toList = true) (hrd : (fn.params.toList.all fun t => Tryz.prog.readableRec t && decide (t < Tryz.prog.types.size)) = true) (hr : fn.resultTypes = #[4])
  (hsv : s.vars = []) (hspec : ∀ ds : List (DataW H), ds.length = shs.length → (s.fn H (ds ++ [])).results = [.lit (.bool true)] ∧ (s.fn H (ds ++ [])).args = ds ∧ (s.fn H (ds ++ [])).vars = [])
  (hz : ∀ ms, FitsL shs ms → runZ MT O (itA 14) 4000000 f ms [] = some (.lit (.bool true), []))
  (W : World) (base : Nat) (args : Array Value) (ds gs : List (DataW H)) (before : List MemPlace) (hval : ∀ (j : Nat) t v, fn.params[j]? = some t → args[j]? = some v → Value.okWide Tryz.prog W .any base t v)
  (hW : DataW.Whole enc Tryz.prog fn.params.toList s.vars false W args.toList ds gs before) (hT : ∀ p ∈ TABS, V (baseE W) W p.1 p.2) :
  Calls Tryz.prog f args W fun e W' => ∃ v, e = .returned v ∧ s.post enc Tryz.prog fn false true false false W args v W' := by
 have hW' := hW
 obtain ⟨p, q, hA, hV, rfl, hfz, hnd⟩ := hW
 rw [hsv] at hV
 obtain ⟨rfl, rfl⟩ := trodVars_none hV
 have hv2 : ∀ (j : Nat) (t : TypeId) (v : Value), fn.params.toList[j]? = some t → args.toList[j]? = some v → Value.okWide Tryz.prog W .any base t v := fun j t v ht hv => hval j t v (by rw [Array.getElem?_toList] at ht; exact ht) (by rw [Array.getElem?_toList] at hv; exact hv)
 obtain ⟨ms, h1, h2, h3⟩ := lift_all (P := Tryz.prog) (w := W) shs fn.params.toList args.toList ds p hp hA hv2
 have hc := law_calls hO (hz ms h1) h2 hT
 rw [Array.toArray_toList] at hc
 refine hc.mono ?_
 rintro e W' ⟨rfl, hb⟩
 obtain ⟨e1, e2, e3⟩ := hspec ds h3
 have hlt : ∀ x ∈ p ++ [], x.block < W.heap.size := fun x hx => by simpa using hW'.lt x hx
 refine ⟨_, rfl, ds, [], p ++ [], [], p, [], hW', ?_, ?_, ?_, hb.frame _, fun h => by cases h⟩
 ·rw [e1, hr]
  exact trodAll_mk1 (shut_bool Tryz.underlying4 true)
 ·rw [e2]
  exact stay_all Tryz.laidOut hb _ _ _ _ hA hrd fun x hx => hlt x (by simpa using hx)
 ·rw [e3, hsv]; rfl
theorem laidVars_mem {P : Program} {w : World} : ∀ {l : List (String × DataW Unit)} {ps : List MemPlace}, DataW.LaidVars P w l ps → ∀ n d, (n, d) ∈ l → ∃ g t cs fuel p, P.globalNamed n = some g ∧ (P.globals[g]?).map (·.type) = some t ∧ w.var? P n = some cs ∧ DataW.trod (fun _ => ()) P w 0 (fun _ => true) false fuel t cs.toList = some (d, p)
 | [], ps, _, n, d, hm => by cases hm
 | (n', d') :: r, ps, h, n, d, hm => by
  obtain ⟨g, t, cs, fuel, p, q, h1, h2, h3, h4, h5, -⟩ := h
  rcases List.mem_cons.1 hm with e | hm
  ·cases e; exact ⟨g, t, cs, fuel, p, h1, h2, h3, h4⟩
  ·exact laidVars_mem h5 n d hm
abbrev tabD : List Nat := [0, 1, 56, 2, 57, 49, 28, 3, 61, 58, 42, 50, 38, 29, 17, 4, 62, 47, 59, 36, 45, 43, 51, 22, 53, 39, 33, 30, 24, 18, 12, 5, 63, 55, 48, 27, 60, 41, 37, 16, 46, 35, 44, 21, 52, 32, 23, 11, 54, 26, 40, 15, 34, 20, 31, 10, 25, 14, 19, 9, 13, 8, 7, 6]
theorem tabs_laid {l : List (String × DataW Unit)} {W : World} (h : laidMetH Tryz.prog l W) (hm : ("math/bits.deBruijn64tab", DataW.agg (tabD.map fun k : Nat => DataW.lit (.int .u8 (k : Int)))) ∈ l) : ∀ p ∈ TABS, V (baseE W) W p.1 p.2 := by
 obtain ⟨⟨ps, hl, -, -⟩, -⟩ := laidMetH_iff.1 h
 obtain ⟨g, t, cs, fuel, p, hg, ht, hv, hd⟩ := laidVars_mem hl _ _ (List.mem_filter.2 ⟨hm, rfl⟩)
 obtain rfl := Option.some.inj ((show Tryz.prog.globalNamed "math/bits.deBruijn64tab" = some 1 by kernel_rfl).symm.trans hg)
 obtain rfl := Option.some.inj ((show (Tryz.prog.globals[1]?).map (·.type) = some 193 by kernel_rfl).symm.trans ht)
 obtain ⟨xs, m, rfl, hx, -, hxl, hxi⟩ := DataW.trod_array Tryz.underlying193 hd
 rw [show Tryz.prog.cellsOf 5 = 1 by kernel_rfl] at hxi
 have hx1 : (tabD.map fun k : Nat => (DataW.lit (.int .u8 (k : Int)) : DataW Unit)) = xs.map (·.1) := by
  have := congrArg Prod.fst hx
  simpa only [DataW.agg.injEq] using this
 have hcell : ∀ i (hi : i < 64), W.cell? ⟨1, i, none⟩ = some (.int .u8 (tabD.getD i 0 : Nat)) := fun i hi => by
  have h1 := hxi i hi
  rw [Nat.mul_one, List.getElem?_eq_getElem (by omega)] at h1
  obtain ⟨n, h2, h3, -⟩ := DataW.trod_int Tryz.underlying5 h1
  have h4 : (xs.map (·.1))[i]? = some (DataW.lit (.int .u8 n)) := by rw [List.getElem?_map, List.getElem?_eq_getElem (by omega), h3]; rfl
  rw [← hx1, List.getElem?_map, List.getElem?_eq_getElem hi] at h4
  simp only [Option.map_some, Option.some.injEq, DataW.lit.injEq, Lit.int.injEq, true_and] at h4
  have h5 : cs[i]? = some (.int .u8 n) := by
   have : ((cs.toList.drop i).take 1)[0]? = some (.int .u8 n) := by rw [h2]; rfl
   rw [List.getElem?_take_of_lt (by omega), List.getElem?_drop, Nat.add_zero, Array.getElem?_toList] at this
   exact this
  rw [World.var?_cell hg hv, h5, ← h4, List.getD_eq_getElem?_getD, List.getElem?_eq_getElem hi]; rfl
 intro p hp
 obtain rfl := List.mem_singleton.1 hp
 have hfl : flat (tabD.map fun k : Nat => MV.lit (.int .u8 (k : Int))) = tabD.map fun k : Nat => MV.lit (.int .u8 (k : Int)) := flat_u8 _
 refine V.sl _ (tabD.map fun k : Nat => Value.int .u8 (k : Int)) _ 64 1 (Nat.le_refl _) (fun e he => ?_) (by rw [hfl]; rfl) (fun i c v hc hv' => ?_) fun _ => ⟨_, 0, rfl, cell_lt (hcell 0 (by omega)), fun i v hi => ?_⟩
 ·obtain ⟨k, -, rfl⟩ := List.mem_map.1 he; rfl
 ·rw [hfl, List.getElem?_map] at hc
  rw [List.getElem?_map] at hv'
  cases hk : tabD[i]? with
  | none => rw [hk] at hc; cases hc
  | some k =>
   rw [hk] at hc hv'
   cases hc; cases hv'
   exact .lit _
 ·rw [List.getElem?_map] at hi
  cases hk : tabD[i]? with
  | none => rw [hk] at hi; cases hi
  | some k =>
   rw [hk] at hi
   cases hi
   have hlt : i < 64 := (List.getElem?_eq_some_iff.1 hk).1
   rw [Nat.zero_add, hcell i hlt, List.getD_eq_getElem?_getD, hk]; rfl
end Go.Proofs.YtfchdbghjeophaaGreatDoor

/- Open values of common shapes. -/
namespace Go.Proofs.YtfchdbghjeophaaGreatDoor
open Go.ChangeShapes Go.WideShapes Go.ChangeAt Go.RowKit
theorem fits_ints {m : MV} (h : Fits (.slice (.int .i64)) m) : ∃ xs : List Int, m = .sl (xs.map I64) ∧ xs.length ≤ maxLen ∧ ∀ n ∈ xs, (Lit.int .i64 n).wf = true := by
 simp only [Fits] at h
 obtain ⟨es, rfl, hl, he⟩ := h
 induction es with
 | nil => exact ⟨[], rfl, by simp, fun n hn => by cases hn⟩
 | cons e es ih =>
  obtain ⟨n, rfl, hw⟩ := he e List.mem_cons_self
  obtain ⟨xs, h1, h2, h3⟩ := ih (by simp at hl; omega) fun e h => he e (List.mem_cons_of_mem _ h)
  refine ⟨n :: xs, by simpa using h1, ?_, fun k hk => ?_⟩
  ·have : es = xs.map I64 := by simpa using h1
   subst this
   simpa using hl
  ·rcases List.mem_cons.1 hk with rfl | hk
   ·exact hw
   ·exact h3 k hk
theorem maxLen_le : maxLen ≤ 9223372036854775807 := by decide
theorem fits_int {k : IntKind} {m : MV} (h : Fits (.int k) m) : ∃ n, m = .lit (.int k n) ∧ (Lit.int k n).wf = true := by
 simp only [Fits] at h; exact h
theorem fits_agg {ss : List Sh} {m : MV} (h : Fits (.agg ss) m) : ∃ ms, FitsL ss ms ∧ m = .agg (ms.flatMap MV.cells) := by
 simp only [Fits] at h; exact h
theorem fitsL_cons {s : Sh} {ss : List Sh} {ms : List MV} (h : FitsL (s :: ss) ms) : ∃ m r, ms = m :: r ∧ Fits s m ∧ FitsL ss r := by
 simp only [FitsL] at h; exact h
theorem fitsL_nil {ms : List MV} (h : FitsL [] ms) : ms = [] := by
 simp only [FitsL] at h; exact h
end Go.Proofs.YtfchdbghjeophaaGreatDoor

/- Rows of integers. -/
namespace Go.Proofs.YtfchdbghjeophaaGreatDoor
open Go.RowKit
set_option linter.unusedVariables false
theorem ltL_lits {n : Nat} {α : Type} {f : α → MV} (hf : ∀ a, (f a).lt n = true) : ∀ xs : List α, ltL n (xs.map f) = true
 | [] => rfl
 | x :: xs => by simp [ltL, hf x, ltL_lits hf xs]
theorem pureL_lits {α : Type} {f : α → MV} (hf : ∀ a, (f a).pure = true) : ∀ xs : List α, pureL (xs.map f) = true
 | [] => rfl
 | x :: xs => by simp [pureL, hf x, pureL_lits hf xs]
theorem ltL_I (n : Nat) (xs : List Int) : ltL n (xs.map I64) = true := ltL_lits (fun _ => rfl) xs
theorem pureL_I (xs : List Int) : pureL (xs.map I64) = true := pureL_lits (fun _ => rfl) xs
theorem frz_arr {h : MHeap} {id i k g : Nat} {o : MObj} {es : List MV} (ho : h[id]? = some o) (hg : o.g = g) (hk : i + k ≤ o.es.length) (hl : ltL 0 o.es = true) (he : (o.es.drop i).take k = es) : frz 0 [] h 8 (.arr id i k g) = some (.sl es) := by
 simp [frz, MV.lt, ho, hg, hk, hl, he]
theorem frz_sl {h : MHeap} {es : List MV} (hl : ltL 0 es = true) : frz 0 [] h 8 (.sl es) = some (.sl es) := by
 simp [frz, MV.lt, hl]
def FzS (H : MHeap) (v : MV) (es : List MV) : Prop := v.slen = some es.length ∧ ∀ t, frz 0 [] (H ++ t) 8 v = some (.sl es)
theorem FzS.now {H : MHeap} {v : MV} {es : List MV} (h : FzS H v es) : frz 0 [] H 8 v = some (.sl es) := by have := h.2 []; rwa [List.append_nil] at this
theorem fz_arr {h : MHeap} {id k : Nat} {o : MObj} {es : List MV} (ho : h[id]? = some o) (hg : o.g = 0) (hk : k = es.length) (hl : ltL 0 es = true) (he : o.es = es) : FzS h (.arr id 0 k 0) es := by
 subst he hk
 refine ⟨rfl, fun t => frz_arr (o := o) ?_ hg (by simp) hl (by simp)⟩
 rw [List.getElem?_append_left (List.getElem?_eq_some_iff.1 ho).1]; exact ho
theorem mf_Ints : MT.mf 25 = some ⟨26, [(.tmp 4)], (.seq (.reg [gO 4 (.mv cF)]) (.seq (.seq (.reg [gO 6 (.mv (.s 0)), gO 7 (.len (.s 6)), gO 8 (.mv (.s 1)), gO 9 (.len (.s 8)), gO 10 (.bin .neq (.s 7) (.s 9))]) (.cond (.s 10) (.seq (.reg [gO 4 (.mv cF)]) .ret) .skip)) (.seq (.seq (.reg [gO 5 (.mv (cI 0))]) (.block 0 (.loop [5, 0, 1] (.seq (.seq (.reg [gO 11 (.mv (.s 5)), gO 12 (.mv (.s 0)), gO 13 (.len (.s 12)), gO 14 (.bin .lss (.s 11) (.s 13))]) (.cond (.s 14) .skip (.exit 0))) (.seq (.block 1 (.seq (.reg [gO 17 (.mv (.s 0)), gO 18 (.mv (.s 5)), gO 19 (.ia 1 (.s 17) (.s 18)), gO 20 (.ld none (.s 19)), gO 21 (.mv (.s 1)), gO 22 (.mv (.s 5)), gO 23 (.ia 1 (.s 21) (.s 22)), gO 24 (.ld none (.s 23)), gO 25 (.bin .neq (.s 20) (.s 24))]) (.cond (.s 25) (.seq (.reg [gO 4 (.mv cF)]) .ret) .skip))) (.reg [gO 15 (.mv (.s 5)), gO 16 (.bin .add (.s 15) (cI 1)), gO 5 (.mv (.s 16))])))))) (.seq (.reg [gO 4 (.mv cT)]) .ret))))⟩ := by kernel_rfl
theorem bInts_z (k : Nat) (xs ys : List Int) (hx : xs.length < 1000000) : runZ MT (orA k) (itA k) 4000000 25 [.sl (xs.map I64), .sl (ys.map I64)] [] = some (Bo (xs == ys), []) := by
 have hl1 : (xs.map I64).length = xs.length := by simp
 have hl2 : (ys.map I64).length = ys.length := by simp
 refine runZ_of mf_Ints (by simp) ?_
 simp only [argsL]
 by_cases hlen : xs.length = ys.length
 ·repeat (first | apply ef_seq | (apply ef_mv; exact rfl; exact rfl) | (apply ef_bin; (iterate 3 exact rfl); (exact cmp_f rfl (by simp only [cmpP]; omega))) | (apply ef_len; exact rfl; exact rfl; (exact rfl)) | apply ef_nil | apply seqQ.normal | apply ef_block | apply ef_skip | (apply ef_condf; exact rfl; (exact (rfl : false = false))))
  refine ef_loop (α := Nat) (fun i => i ≤ xs.length ∧ (xs == ys) = (xs.drop i == ys.drop i)) (fun i => [(5, I64 (i : Int)), (0, .sl (xs.map I64)), (1, .sl (ys.map I64))]) (fun _ => []) (fun i => xs.length - i) 0 [5, 0, 1] (fun _ => rfl) rfl ⟨by omega, by simp⟩ (by simp; omega) (by ((repeat (refine Hold.cons (by exact rfl) ?_)); exact Hold.nil)) rfl ?_
  rintro i ⟨hi, hz⟩
  by_cases hlt : i < xs.length
  ·have e1 := at_map I64 xs i hlt
   have e2 := at_map I64 ys i (by omega)
   have HD := Lib.hid (drop_at xs i hlt)
   have HD2 := Lib.hid (drop_at ys i (by omega))
   have HZ := Lib.hid hz
   clear hz
   generalize xs[i] = p at e1 HD
   generalize ys[i] = q at e2 HD2
   by_cases hpq : p = q
   ·subst hpq
    repeat (first | apply ef_seq | (apply ef_mv; exact rfl; exact rfl) | (apply ef_bin; (iterate 3 exact rfl); (first | exact cmp_t rfl (by first | exact rfl | (simp only [cmpP]; omega)) | exact cmp_f rfl (by simp only [cmpP]; omega) | ((with_reducible refine bin_add (wrap_of ?_ ?_)) <;> omega))) | (apply ef_len; exact rfl; exact rfl; (exact rfl)) | (apply ef_ldr; exact rfl; exact rfl; (exact rfl)) | (apply ef_ias; (iterate 3 exact rfl); (omega); assumption; exact rfl) | apply ef_nil | apply seqQ.normal | apply blockQ.normal | apply ef_block | apply ef_skip | (apply ef_condt; exact rfl; (exact (rfl : true = true))) | (apply ef_condf; exact rfl; (exact (rfl : false = false))))
    (refine loopQ.normal _ _ ⟨i + 1, ⟨hlt, by rw [HZ.out, HD.out, HD2.out]; simp⟩, (by first | (simp only; omega) | omega), by ((repeat (refine Hold.cons (by exact rfl) ?_)); exact Hold.nil), .inl (Nat.le_refl _), (by first | exact List.take_length | exact rfl)⟩)
   ·repeat (first | apply ef_seq | (apply ef_mv; exact rfl; exact rfl) | (apply ef_bin; (iterate 3 exact rfl); (exact cmp_t rfl (by first | exact rfl | (simp only [cmpP]; omega)))) | (apply ef_len; exact rfl; exact rfl; (exact rfl)) | (apply ef_ldr; exact rfl; exact rfl; (exact rfl)) | (apply ef_ias; (iterate 3 exact rfl); (omega); assumption; exact rfl) | apply ef_nil | apply seqQ.normal | apply loopQ.ret | apply ef_ret | apply seqQ.ret | apply blockQ.ret | apply ef_block | apply ef_skip | (apply ef_condt; exact rfl; (exact (rfl : true = true))))
    (refine fin1 rfl (by exact rfl) rfl ?_)
    rw [HZ.out, HD.out, HD2.out]
    simp [hpq]
  ·repeat (first | apply ef_seq | (apply ef_mv; exact rfl; exact rfl) | (apply ef_bin; (iterate 3 exact rfl); (exact cmp_f rfl (by simp only [cmpP]; omega))) | (apply ef_len; exact rfl; exact rfl; (exact rfl)) | apply ef_nil | apply seqQ.normal | apply loopQ.exit | apply ef_ret | apply ef_exit | apply seqQ.exit | apply blockQ.here | (apply ef_condf; exact rfl; (exact (rfl : false = false))))
   (refine fin1 rfl (by exact rfl) rfl ?_)
   rw [hz, List.drop_eq_nil_of_le (by omega), List.drop_eq_nil_of_le (by omega)]; rfl
 ·repeat (first | apply ef_seq | (apply ef_mv; exact rfl; exact rfl) | (apply ef_bin; (iterate 3 exact rfl); (exact cmp_t rfl (by first | exact rfl | (simp only [cmpP]; omega)))) | (apply ef_len; exact rfl; exact rfl; (exact rfl)) | apply ef_nil | apply seqQ.normal | apply ef_ret | apply seqQ.ret | (apply ef_condt; exact rfl; (exact (rfl : true = true))))
  (refine fin1 rfl (by exact rfl) rfl ?_)
  have : (xs == ys) = false := by
   rw [beq_eq_false_iff_ne]; exact fun e => hlen (by rw [e])
  rw [this]
theorem bInts_c (k : Nat) (xs ys : List Int) (h : MHeap) {v w : MV} (hx : xs.length < 1000000) (hv : frz 0 [] h 8 v = some (.sl (xs.map I64))) (hw : frz 0 [] h 8 w = some (.sl (ys.map I64))) {t : Bool} (ht : (xs == ys) = t) : orA (k + 1) 25 [v, w] h = some (Bo t, h) :=
 callL (args' := [.sl (xs.map I64), .sl (ys.map I64)]) (by simp [List.mapM_cons, hv, hw]) rfl (by rw [← ht]; exact bInts_z k xs ys hx)
theorem callTT {k f : Nat} {args args' : List MV} {h : MHeap} {a b : Value} (h1 : args.mapM (frz 0 [] h 8) = some args') (hT : tA f args' [] = none) (h2 : runZ MT (orA k) (itA k) 4000000 f args' [] = some (.tup [.lit a, .lit b], [])) : orA (k + 1) f args h = some (.tup [.lit a, .lit b], h) := by
 have := callA h1 hT h2 (by simp [okV, ok1, MV.lt, MV.pure]) rfl
 simpa [shV, sh1] using this
theorem frz_lt {h : MHeap} {m : MV} (hl : m.lt 0 = true) : frz 0 [] h 8 m = some m := by simp [frz, hl]
theorem frzL_lt {h : MHeap} : ∀ {ms : List MV}, ltL 0 ms = true → ms.mapM (frz 0 [] h 8) = some ms
 | [], _ => rfl
 | m :: ms, hl => by
  simp only [ltL, Bool.and_eq_true] at hl
  rw [List.mapM_cons, frz_lt hl.1, frzL_lt hl.2]; rfl
theorem impIds_lt0 : ∀ {v w : MV}, v.lt 0 = true → w.lt 0 = true → impIds 0 [v, w] = [] := fun {v w} h1 h2 => by
 cases v <;> first | (simp [MV.lt] at h1; done) | (cases w <;> first | (simp [MV.lt] at h2; done) | simp [impIds])
theorem fin_res2 {x : MX2} {A : Sl} {h : MHeap} {r1 r2 : MRes} {v w : MV} (hx : outX x = true) (h1 : ResV A h r1 v) (h2 : ResV A h r2 w) (l1 : v.lt 0 = true) (l2 : w.lt 0 = true) : FinF [r1, r2] (.tup [v, w]) [] x A h := by
 have hi := impIds_lt0 l1 l2
 refine ⟨hx, [v, w], [v, w], ⟨v, [w], rfl, h1, w, [], rfl, h2, rfl⟩, by rw [hi]; simp, ?_, rfl⟩
 rw [hi]
 cases v <;> first | (simp [MV.lt] at l1; done) | (cases w <;> first | (simp [MV.lt] at l2; done) | simp [expL, frz, l1, l2])
end Go.Proofs.YtfchdbghjeophaaGreatDoor

/- Nets: what the document says of them, without a program. -/
namespace Go.Proofs.YtfchdbghjeophaaGreatDoor
open Go.RowKit
set_option linter.unusedVariables false
def fIxG {α : Type} (P : α → Bool) : List α → Nat → Int
 | [], _ => -1
 | z :: zs, i => if P z then i else fIxG P zs (i + 1)
theorem fIxG_spec {α : Type} (P : α → Bool) : ∀ (zs : List α) (s : Nat), (fIxG P zs s = -1 ∧ ∀ z ∈ zs, P z = false) ∨ ∃ (i : Nat) (h : i < zs.length), fIxG P zs s = ((s + i : Nat) : Int) ∧ P zs[i] = true
 | [], s => .inl ⟨rfl, fun z h => by cases h⟩
 | z :: zs, s => by
  by_cases hz : P z = true
  ·exact .inr ⟨0, by simp, by simp [fIxG, hz], hz⟩
  ·rcases fIxG_spec P zs (s + 1) with ⟨h1, h2⟩ | ⟨i, hi, h1, h2⟩
   ·refine .inl ⟨by simp [fIxG, hz, h1], fun w hw => ?_⟩
    rcases List.mem_cons.1 hw with rfl | hw
    ·simpa using hz
    ·exact h2 w hw
   ·refine .inr ⟨i + 1, by simpa using hi, ?_, by simpa using h2⟩
    simp only [fIxG, hz]
    rw [if_neg (by simp), h1]
    congr 1; omega
theorem fIxG_any {α : Type} (P : α → Bool) (zs : List α) : MV.lit (.bool (decide (fIxG P zs 0 ≥ 0))) = Bo (zs.any P) := by
 rcases fIxG_spec P zs 0 with ⟨h1, h2⟩ | ⟨i, hi, h1, h2⟩
 ·rw [h1]
  have : zs.any P = false := by rw [List.any_eq_false]; intro z hz; simp [h2 z hz]
  rw [this]; rfl
 ·rw [h1]
  have : zs.any P = true := List.any_eq_true.2 ⟨zs[i], List.getElem_mem _, h2⟩
  rw [this]; simp
structure Cr where
 ln : Int
 ti : Int
 pa : Int
 pt : Int
 df : Int
 wt : Int
instance : Inhabited Cr := ⟨⟨0, 0, 0, 0, 0, 0⟩⟩
abbrev Ln := ByteArray × Bool
structure Nt where
 ls : List Ln
 cs : List Cr
abbrev encB (c : UInt8) : MV := .lit (.int .u8 c.toNat)
abbrev encLn (l : Ln) : MV := .agg [.lit (.string l.1), Bo l.2]
abbrev encCr (c : Cr) : MV := .agg [I64 c.ln, I64 c.ti, I64 c.pa, I64 c.pt, I64 c.df, I64 c.wt]
abbrev encN (n : Nt) : MV := .agg [.sl (n.ls.map encLn), .sl (n.cs.map encCr)]
def letB (c : UInt8) : Bool := (decide (97 ≤ c.toNat) && decide (c.toNat ≤ 122)) || (decide (65 ≤ c.toNat) && decide (c.toNat ≤ 90))
def nbB (i : Nat) (c : UInt8) : Bool := letB c || (decide (i ≠ 0) && (decide (c.toNat = 45) || (decide (48 ≤ c.toNat) && decide (c.toNat ≤ 57))))
def allNb : Nat → List UInt8 → Bool
 | _, [] => true
 | i, c :: cs => nbB i c && allNb (i + 1) cs
def nmB (s : ByteArray) : Bool := allNb 0 s.data.toList && inB s.size 1 12
def scanE {α : Type} (f : List α → α → Int) (pre : List α) : List α → Int × Int
 | [] => (0, 0)
 | x :: xs => if f pre x = 0 then scanE f (pre ++ [x]) xs else ((pre.length : Int), f pre x)
theorem scanE_nil {α : Type} (f : List α → α → Int) (pre : List α) : scanE f pre [] = (0, 0) := rfl
theorem scanE_step {α : Type} {f : List α → α → Int} {xs : List α} {i : Nat} (h : i < xs.length) (h0 : f (xs.take i) xs[i] = 0) : scanE f (xs.take i) (xs.drop i) = scanE f (xs.take (i + 1)) (xs.drop (i + 1)) := by
 rw [List.drop_eq_getElem_cons h, scanE, if_pos h0, List.take_add_one, List.getElem?_eq_getElem h]; rfl
theorem scanE_bad {α : Type} {f : List α → α → Int} {xs : List α} {i : Nat} (h : i < xs.length) (h0 : f (xs.take i) xs[i] ≠ 0) : scanE f (xs.take i) (xs.drop i) = ((i : Int), f (xs.take i) xs[i]) := by
 rw [List.drop_eq_getElem_cons h, scanE, if_neg h0, List.length_take, Nat.min_eq_left (Nat.le_of_lt h)]
theorem scanE_ok {α : Type} {f : List α → α → Int} {xs : List α} : ∀ {pre : List α}, (scanE f pre xs).2 = 0 → scanE f pre xs = (0, 0) ∧ ∀ (i : Nat) (h : i < xs.length), f (pre ++ xs.take i) xs[i] = 0 := by
 induction xs with
 | nil => exact fun _ => ⟨rfl, fun i h => absurd h (by simp)⟩
 | cons x xs ih =>
  intro pre h
  rw [scanE] at h ⊢
  by_cases h0 : f pre x = 0
  ·rw [if_pos h0] at h ⊢
   obtain ⟨h1, h2⟩ := ih h
   refine ⟨h1, fun i hi => ?_⟩
   cases i with
   | zero => simpa using h0
   | succ i =>
    have := h2 i (by simpa using hi)
    simpa using this
  ·rw [if_neg h0] at h
   exact absurd h h0
def lineE (pre : List Ln) (l : Ln) : Int := firstE [unl (nmB l.1) 4, unl (!(pre.any fun o => o.1 == l.1)) 5]
def tieOf (ls : List Ln) (i : Int) : Bool := (ls.getD i.toNat (⟨#[]⟩, false)).2
def dblB (c o : Cr) : Bool := (decide (o.ln = c.ln) && decide (o.pa = c.pa)) || (decide (o.ti = c.ti) && decide (o.pt = c.pt))
def rngB (c : Cr) : Bool := inB c.pa 0 1000000 && (inB c.pt 0 1000000 && (inB c.df (-10000) 10000 && inB c.wt 1 10))
def crossE (ls : List Ln) (pre : List Cr) (c : Cr) : Int :=
 if inB c.ln 0 ((ls.length : Int) - 1) && inB c.ti 0 ((ls.length : Int) - 1) then
  firstE [unl (!tieOf ls c.ln && tieOf ls c.ti) 15, unl (rngB c) 2, unl (!(pre.any (dblB c))) 23]
 else 6
def netF (n : Nt) : Int × Int :=
 if n.ls.length = 0 then (0, 10) else if 8 < n.ls.length ∨ 16 < n.cs.length then (0, 8)
 else if (scanE lineE [] n.ls).2 = 0 then scanE (crossE n.ls) [] n.cs else scanE lineE [] n.ls
end Go.Proofs.YtfchdbghjeophaaGreatDoor

/- Open values of nets. -/
namespace Go.Proofs.YtfchdbghjeophaaGreatDoor
open Go.ChangeShapes Go.WideShapes Go.ChangeAt Go.RowKit
abbrev i64Sh : Sh := .int .i64
def lineSh : Sh := .agg [.str, .bool]
def crossSh : Sh := .agg [i64Sh, i64Sh, i64Sh, i64Sh, i64Sh, i64Sh]
def netSh : Sh := .agg [.slice lineSh, .slice crossSh]
theorem fits_list {α : Type} {s : Sh} (enc : α → MV) (H : ∀ m, Fits s m → ∃ a, m = enc a) {m : MV} (h : Fits (.slice s) m) : ∃ xs : List α, m = .sl (xs.map enc) ∧ xs.length ≤ 9223372036854775807 := by
 rw [Fits] at h
 obtain ⟨es, rfl, hl, he⟩ := h
 replace hl := Nat.le_trans hl maxLen_le
 induction es with
 | nil => exact ⟨[], rfl, by simp⟩
 | cons e es ih =>
  obtain ⟨a, rfl⟩ := H e (he e List.mem_cons_self)
  obtain ⟨xs, h1, h2⟩ := ih (fun e h => he e (List.mem_cons_of_mem _ h)) (by simp at hl; omega)
  have e1 : es = xs.map enc := by simpa using h1
  subst e1
  exact ⟨a :: xs, rfl, by simpa using hl⟩
theorem fits_line {m : MV} (h : Fits lineSh m) : ∃ l : Ln, m = encLn l := by
 obtain ⟨ms, h', rfl⟩ := fits_agg h
 obtain ⟨m1, r1, rfl, h1, h⟩ := fitsL_cons h'
 obtain ⟨m2, r2, rfl, h2, h⟩ := fitsL_cons h
 obtain rfl := fitsL_nil h
 simp only [Fits] at h1 h2
 obtain ⟨s, rfl, -⟩ := h1
 obtain ⟨b, rfl⟩ := h2
 exact ⟨(s, b), rfl⟩
theorem fits_cross {m : MV} (h : Fits crossSh m) : ∃ x : Cr, m = encCr x := by
 obtain ⟨ms, h', rfl⟩ := fits_agg h
 obtain ⟨m1, r1, rfl, h1, h⟩ := fitsL_cons h'
 obtain ⟨m2, r2, rfl, h2, h⟩ := fitsL_cons h
 obtain ⟨m3, r3, rfl, h3, h⟩ := fitsL_cons h
 obtain ⟨m4, r4, rfl, h4, h⟩ := fitsL_cons h
 obtain ⟨m5, r5, rfl, h5, h⟩ := fitsL_cons h
 obtain ⟨m6, r6, rfl, h6, h⟩ := fitsL_cons h
 obtain rfl := fitsL_nil h
 obtain ⟨a1, rfl, -⟩ := fits_int h1
 obtain ⟨a2, rfl, -⟩ := fits_int h2
 obtain ⟨a3, rfl, -⟩ := fits_int h3
 obtain ⟨a4, rfl, -⟩ := fits_int h4
 obtain ⟨a5, rfl, -⟩ := fits_int h5
 obtain ⟨a6, rfl, -⟩ := fits_int h6
 exact ⟨⟨a1, a2, a3, a4, a5, a6⟩, rfl⟩
theorem fits_net {m : MV} (h : Fits netSh m) : ∃ n : Nt, m = encN n ∧ n.ls.length ≤ 9223372036854775807 ∧ n.cs.length ≤ 9223372036854775807 := by
 obtain ⟨ms, h', rfl⟩ := fits_agg h
 obtain ⟨m1, r1, rfl, h1, h⟩ := fitsL_cons h'
 obtain ⟨m2, r2, rfl, h2, h⟩ := fitsL_cons h
 obtain rfl := fitsL_nil h
 obtain ⟨ls, rfl, q1⟩ := fits_list encLn (fun _ => fits_line) h1
 obtain ⟨cs, rfl, q2⟩ := fits_list encCr (fun _ => fits_cross) h2
 exact ⟨⟨ls, cs⟩, rfl, q1, q2⟩
end Go.Proofs.YtfchdbghjeophaaGreatDoor

/- Contracts of the program: the words of the chapter. -/
namespace Go.Proofs.YtfchdbghjeophaaGreatDoor
open Go.RowKit
set_option linter.unusedVariables false
theorem mf_pwithin : MT.mf 59 = some mfW_l59 := mfW_q59
theorem within_c (k : Nat) (a b c : Int) (h : MHeap) {t : Bool} (ht : inB a b c = t) : orA (k + 1) 59 [I64 a, I64 b, I64 c] h = some (Bo t, h) := by
 refine callL (frz_lits [.int .i64 a, .int .i64 b, .int .i64 c]) rfl (runZ_of mf_pwithin (by simp) ?_)
 simp only [argsL, List.map_cons, List.map_nil]
 by_cases h1 : b ≤ a
 all_goals repeat (first | apply ef_seq | (apply ef_mv; exact rfl; exact rfl) | (apply ef_bin; (iterate 3 exact rfl); (first | exact cmp_t rfl (by first | exact rfl | (simp only [cmpP]; omega)) | exact cmp_f rfl (by simp only [cmpP]; omega) | exact rfl)) | (apply ef_gy; exact rfl; (exact (rfl : true = true))) | (apply ef_gn; exact rfl; (exact (rfl : false = false)); exact rfl) | (apply ef_pick; (iterate 3 exact rfl)) | apply ef_nil | apply seqQ.normal | apply ef_ret)
 ·(refine fin1 rfl (by exact rfl) rfl ?_)
  simp [inB, h1] at ht; simp [← ht]
 ·(refine fin1 rfl (by exact rfl) rfl ?_)
  simp [inB, h1] at ht; simp [← ht]
theorem mf_unless : MT.mf 58 = some mfW_l58 := mfW_q58
theorem unless_c (k : Nat) (b : Bool) (n : Int) (h : MHeap) {e : Int} (he : unl b n = e) : orA (k + 1) 58 [Bo b, I64 n] h = some (I64 e, h) := by
 subst he
 refine callL (frz_lits [.bool b, .int .i64 n]) rfl (runZ_of mf_unless (by simp) ?_)
 simp only [argsL, List.map_cons, List.map_nil]
 cases b
 all_goals repeat (first | apply ef_seq | (apply ef_mv; exact rfl; exact rfl) | apply ef_nil | apply seqQ.normal | apply ef_ret | apply seqQ.ret | apply ef_skip | (apply ef_condt; exact rfl; (exact (rfl : true = true))) | (apply ef_condf; exact rfl; (exact (rfl : false = false))))
 all_goals (refine fin1 rfl (by exact rfl) rfl ?_)
 all_goals rfl
theorem mf_first : MT.mf 57 = some mfW_l57 := mfW_q57
theorem first_z (k : Nat) (xs : List Int) (hx : xs.length ≤ 1000) : runZ MT (orA k) (itA k) 4000000 57 [.sl (xs.map I64)] [] = some (I64 (firstE xs), []) := by
 have hl : (MV.sl (xs.map I64)).slen = some xs.length := by simp [MV.slen]
 refine runZ_of mf_first (by simp) ?_
 simp only [argsL]
 repeat (first | apply ef_seq | (apply ef_mv; exact rfl; exact rfl) | (apply ef_len; exact rfl; exact rfl; (assumption)) | apply ef_nil | apply seqQ.normal | apply ef_block)
 refine ef_loop (α := Nat) (fun i => i ≤ xs.length ∧ firstE xs = firstE (xs.drop i)) (fun i => [(7, I64 (i : Int)), (6, I64 (xs.length : Int)), (5, .sl (xs.map I64))]) (fun _ => []) (fun i => xs.length - i) 0 [7, 6, 5] (fun _ => rfl) rfl ⟨by omega, rfl⟩ (by simp; omega) (by ((repeat (refine Hold.cons (by exact rfl) ?_)); exact Hold.nil)) rfl ?_
 rintro i ⟨hi, hz⟩
 by_cases hlt : i < xs.length
 ·have e1 := at_map I64 xs i hlt
  have HD := Lib.hid (drop_at xs i hlt)
  have HZ := Lib.hid hz
  clear hz
  generalize xs[i] = x at e1 HD
  by_cases h0 : x = 0
  ·subst h0
   repeat (first | apply ef_seq | (apply ef_mv; exact rfl; exact rfl) | (apply ef_bin; (iterate 3 exact rfl); (first | exact cmp_t rfl (by first | exact rfl | (simp only [cmpP]; omega)) | exact cmp_f rfl (by simp only [cmpP]; omega) | ((with_reducible refine bin_add (wrap_of ?_ ?_)) <;> omega))) | (apply ef_ldr; exact rfl; exact rfl; (exact rfl)) | (apply ef_ias; (iterate 3 exact rfl); (omega); assumption; exact rfl) | apply ef_nil | apply seqQ.normal | apply blockQ.normal | apply ef_block | apply ef_skip | (apply ef_condt; exact rfl; (exact (rfl : true = true))) | (apply ef_condf; exact rfl; (exact (rfl : false = false))))
   (refine loopQ.normal _ _ ⟨i + 1, ⟨hlt, by rw [HZ.out, HD.out]; simp [firstE]⟩, (by first | (simp only; omega) | omega), by ((repeat (refine Hold.cons (by exact rfl) ?_)); exact Hold.nil), .inl (Nat.le_refl _), (by first | exact List.take_length | exact rfl)⟩)
  ·repeat (first | apply ef_seq | (apply ef_mv; exact rfl; exact rfl) | (apply ef_bin; (iterate 3 exact rfl); (exact cmp_t rfl (by first | exact rfl | (simp only [cmpP]; omega)))) | (apply ef_ldr; exact rfl; exact rfl; (exact rfl)) | (apply ef_ias; (iterate 3 exact rfl); (omega); assumption; exact rfl) | apply ef_nil | apply seqQ.normal | apply loopQ.ret | apply ef_ret | apply seqQ.ret | apply blockQ.ret | apply ef_block | apply ef_skip | (apply ef_condt; exact rfl; (exact (rfl : true = true))))
   (refine fin1 rfl (by exact rfl) rfl ?_)
   rw [HZ.out, HD.out]; simp [firstE, h0]
 ·repeat (first | apply ef_seq | (apply ef_mv; exact rfl; exact rfl) | (apply ef_bin; (iterate 3 exact rfl); (exact cmp_f rfl (by simp only [cmpP]; omega))) | apply ef_nil | apply seqQ.normal | apply loopQ.exit | apply ef_ret | apply ef_exit | apply seqQ.exit | apply blockQ.here | (apply ef_condf; exact rfl; (exact (rfl : false = false))))
  (refine fin1 rfl (by exact rfl) rfl ?_)
  rw [hz, List.drop_eq_nil_of_le (by omega)]; rfl
theorem first_c (k : Nat) (xs : List Int) (h : MHeap) {v : MV} {e : Int} (hv : frz 0 [] h 8 v = some (.sl (xs.map I64))) (he : firstE xs = e) (hx : xs.length ≤ 1000 := by simp) : orA (k + 1) 57 [v] h = some (I64 e, h) :=
 callL (args' := [.sl (xs.map I64)]) (by simp [List.mapM_cons, hv]) rfl (by rw [← he]; exact first_z k xs hx)
theorem first2_c {k id : Nat} {a0 a1 e : Int} {h : MHeap} {o : MObj} (ho : h[id]? = some o) (hg : o.g = 0) (hes : o.es = [I64 a0, I64 a1]) (he : firstE [a0, a1] = e) : orA (k + 1) 57 [.arr id 0 2 0] h = some (I64 e, h) :=
 first_c k [a0, a1] h (fz_arr ho hg rfl rfl hes).now he
theorem first3_c {k id : Nat} {a0 a1 a2 e : Int} {h : MHeap} {o : MObj} (ho : h[id]? = some o) (hg : o.g = 0) (hes : o.es = [I64 a0, I64 a1, I64 a2]) (he : firstE [a0, a1, a2] = e) : orA (k + 1) 57 [.arr id 0 3 0] h = some (I64 e, h) :=
 first_c k [a0, a1, a2] h (fz_arr ho hg rfl rfl hes).now he
end Go.Proofs.YtfchdbghjeophaaGreatDoor

/- More rules of evaluation: cuts with a state, rows of integers. -/
namespace Go.Proofs.YtfchdbghjeophaaGreatDoor
open Go.RowKit
section
variable {O : Oracle} {I : Iter} {N n : Nat} {lk : Nat → Bool} {A : Sl} {h : MHeap} {Q : MX2 → Sl → MHeap → Prop}
end
end Go.Proofs.YtfchdbghjeophaaGreatDoor

/- Iterators with open values: rules; ranges over them. -/
namespace Go.Proofs.YtfchdbghjeophaaGreatDoor
open Go.RowKit
set_option linter.unusedVariables false
abbrev QI := MX2 → Sl → MHeap → Nat → List (List MV) → Bool → Prop
structure EfI (O : Oracle) (N n : Nat) (mc : MC) (A : Sl) (h : MHeap) (ln : Nat) (xs : List (List MV)) (stop : Bool) (Q : QI) : Prop where
 run : ∀ s, SRel n A s → ∃ outs, evI O N mc ⟨s, h, ln, xs, stop⟩ = some outs ∧ ∀ o ∈ outs, ∃ A', SRel n A' o.2.s ∧ Q o.1 A' o.2.h o.2.ln o.2.xs o.2.stop
structure EfY (O : Oracle) (N n : Nat) (gl : List GO) (A : Sl) (h : MHeap) (ln : Nat) (xs : List (List MV)) (stop : Bool) (Q : Sl → MHeap → Nat → List (List MV) → Bool → Prop) : Prop where
 run : ∀ s, SRel n A s → ∃ l, evRI O gl ⟨s, h, ln, xs, stop⟩ = some l ∧ ∀ o ∈ l, ∃ A', SRel n A' o.s ∧ Q A' o.h o.ln o.xs o.stop
section
variable {O : Oracle} {N n : Nat} {A : Sl} {h : MHeap} {ln : Nat} {xs : List (List MV)} {stop : Bool} {Q : QI}
inductive seqI (O : Oracle) (N n : Nat) (b : MC) (Q : QI) : QI
 | normal (A : Sl) (h : MHeap) (ln : Nat) (xs : List (List MV)) (stop : Bool) : EfI O N n b A h ln xs stop Q → seqI O N n b Q .normal A h ln xs stop
 | ret (A : Sl) (h : MHeap) (ln : Nat) (xs : List (List MV)) (stop : Bool) : Q .ret A h ln xs stop → seqI O N n b Q .ret A h ln xs stop
 | exit (id : Nat) (A : Sl) (h : MHeap) (ln : Nat) (xs : List (List MV)) (stop : Bool) : Q (.exit id) A h ln xs stop → seqI O N n b Q (.exit id) A h ln xs stop
inductive blockI (id : Nat) (Q : QI) : QI
 | normal (A : Sl) (h : MHeap) (ln : Nat) (xs : List (List MV)) (stop : Bool) : Q .normal A h ln xs stop → blockI id Q .normal A h ln xs stop
 | ret (A : Sl) (h : MHeap) (ln : Nat) (xs : List (List MV)) (stop : Bool) : Q .ret A h ln xs stop → blockI id Q .ret A h ln xs stop
 | here (A : Sl) (h : MHeap) (ln : Nat) (xs : List (List MV)) (stop : Bool) : Q .normal A h ln xs stop → blockI id Q (.exit id) A h ln xs stop
 | there (k : Nat) (A : Sl) (h : MHeap) (ln : Nat) (xs : List (List MV)) (stop : Bool) : k ≠ id → Q (.exit k) A h ln xs stop → blockI id Q (.exit k) A h ln xs stop
inductive loopI (R : Sl → MHeap → Nat → List (List MV) → Bool → Prop) (Q : QI) : QI
 | normal (A : Sl) (h : MHeap) (ln : Nat) (xs : List (List MV)) (stop : Bool) : R A h ln xs stop → loopI R Q .normal A h ln xs stop
 | ret (A : Sl) (h : MHeap) (ln : Nat) (xs : List (List MV)) (stop : Bool) : Q .ret A h ln xs stop → loopI R Q .ret A h ln xs stop
 | exit (id : Nat) (A : Sl) (h : MHeap) (ln : Nat) (xs : List (List MV)) (stop : Bool) : Q (.exit id) A h ln xs stop → loopI R Q (.exit id) A h ln xs stop
variable {QY : Sl → MHeap → Nat → List (List MV) → Bool → Prop}
end
section
variable {O : Oracle} {I : Iter} {N n : Nat} {lk : Nat → Bool} {A : Sl} {h : MHeap} {Q : MX2 → Sl → MHeap → Prop}
inductive preQ (O : Oracle) (I : Iter) (N n : Nat) (lk : Nat → Bool) (b : MC) (R : MX2 → Sl → MHeap → Prop) : MX2 → Sl → MHeap → Prop
 | normal (A : Sl) (h : MHeap) : Ef O I N n lk b A h R → preQ O I N n lk b R .normal A h
inductive rfQ (A0 : Sl) (R : MHeap → Prop) (Q : MX2 → Sl → MHeap → Prop) : MX2 → Sl → MHeap → Prop
 | normal (A : Sl) (h : MHeap) : R h → rfQ A0 R Q .normal A h
 | ret (A : Sl) (h : MHeap) : Q .ret A0 h → rfQ A0 R Q .ret A h
 | exit (id : Nat) (A : Sl) (h : MHeap) : Q (.exit id) A0 h → rfQ A0 R Q (.exit id) A h
inductive HeadIs (keep : List Nat) (m : Nat) (A : Sl) (h : MHeap) : MHeap → Prop
 | all : h.length ≤ m → HeadIs keep m A h h
 | cut : (∀ t ∈ keep, ∃ v, look A t = some v ∧ v.lt m = true) → hltL m (h.take m) = true → HeadIs keep m A h (h.take m)
 | slot (t : Nat) (v : MV) : t ∈ keep → look A t = some v → v.lt m = false → HeadIs keep m A h h
 | cell : hltL m (h.take m) = false → HeadIs keep m A h h
theorem ids_lt0 {h : MHeap} : ∀ (f : Nat) (v : MV), v.lt 0 = true → MV.ids h f v = []
 | 0, v, _ => rfl
 | f + 1, v, hv => by
  have key : ∀ cs : List MV, ltL 0 cs = true → cs.flatMap (MV.ids h f) = [] := fun cs hc => by
   rw [List.flatMap_eq_nil_iff]
   intro c hcm
   exact ids_lt0 f c (ltL_iff'.1 hc c hcm)
  cases v <;> simp only [MV.ids, MV.lt] at hv ⊢
  case agg cs => exact key cs hv
  case tup cs => exact key cs hv
  case sl cs => exact key cs hv
  case fn _ _ cs => exact key cs hv
  case rm cs => exact key cs hv
  case rp e _ => exact ids_lt0 f e hv
  all_goals simp at hv
theorem idsL_lt0 {h : MHeap} {f : Nat} {vs : List MV} (hv : ltL 0 vs = true) : vs.flatMap (MV.ids h f) = [] := by
 rw [List.flatMap_eq_nil_iff]
 intro c hcm
 exact ids_lt0 f c (ltL_iff'.1 hv c hcm)
end
end Go.Proofs.YtfchdbghjeophaaGreatDoor

/- Further rules of evaluation with open values: cases on what is undecided, loops with slots that stay. -/
namespace Go.Proofs.YtfchdbghjeophaaGreatDoor
open Go.RowKit
set_option linter.unusedVariables false
section
variable {O : Oracle} {I : Iter} {N n : Nat} {lk : Nat → Bool} {A : Sl} {h : MHeap} {Q : MX2 → Sl → MHeap → Prop} {t : Nat} {os : List GO}
theorem ef_loopf {α : Type} {keep : List Nat} {b : MC} (Inv : α → Prop) (hd : α → Sl) (fx : Sl) (hp : α → MHeap) (ms : α → Nat) (a0 : α) (ks : List Nat) (hks : ∀ a, (hd a).map (·.1) = ks) (hA : Hold A (hd a0)) (hF : Hold A fx) (hk : (ks ++ fx.map (·.1)).all (fun t => keep.contains t) = true) (hH : hp a0 = h) (h0 : Inv a0) (hN : ms a0 < N)
  (hb : ∀ a, Inv a → Ef O I N n lk b (hd a ++ fx) (hp a) (loopQ (fun A' h' => ∃ a', Inv a' ∧ ms a' < ms a ∧ (Hold A' (hd a') ∧ Hold A' fx) ∧ headH keep h.length A' h' ∧ h'.take h.length = hp a') Q)) : Ef O I N n lk (.loop keep b) A h Q := by
 have happ : ∀ (A : Sl) (X Y : Sl), Hold A X → Hold A Y → Hold A (X ++ Y) := fun A X Y h1 h2 p hp => by
  rcases List.mem_append.1 hp with hp | hp
  ·exact h1 p hp
  ·exact h2 p hp
 refine ef_loop Inv (fun a => hd a ++ fx) hp ms a0 (ks ++ fx.map (·.1)) (fun a => by rw [List.map_append, hks a]) hk h0 hN (happ _ _ _ hA hF) hH fun a ha => ?_
 refine (hb a ha).mono fun x A1 h1 hq => ?_
 cases hq with
 | normal _ _ hq =>
  obtain ⟨a', j1, j2, ⟨j3, j4⟩, j5, j6⟩ := hq
  exact .normal _ _ ⟨a', j1, j2, happ _ _ _ j3 j4, j5, j6⟩
 | ret _ _ hq => exact .ret _ _ hq
 | exit id _ _ hq => exact .exit id _ _ hq
end
section
variable {O : Oracle} {N n : Nat} {A : Sl} {h : MHeap} {ln : Nat} {xs : List (List MV)} {stop : Bool} {Q : QI}
end
theorem takeF {l r : MHeap} {n : Nat} (hl : n = l.length) (h : l = r) : l.take n = r := by subst hl h; exact List.take_length
end Go.Proofs.YtfchdbghjeophaaGreatDoor
namespace Go.Proofs.YtfchdbghjeophaaGreatDoor
open Go.RowKit
end Go.Proofs.YtfchdbghjeophaaGreatDoor

/- Rows that are read only. -/
namespace Go.Proofs.YtfchdbghjeophaaGreatDoor
open Go.RowKit
set_option linter.unusedVariables false
inductive SlI : MV → List Int → Prop
 | sl (l : List Int) : SlI (.sl (l.map I64)) l
 | nil : SlI (.lit (.slice none 0 0)) []
theorem SlI.lt {v : MV} {l : List Int} (h : SlI v l) : v.lt 0 = true := by
 cases h with
 | sl l => simp [MV.lt, ltL_I]
 | nil => rfl
theorem SlI.frz {v : MV} {l : List Int} (h : SlI v l) (H : MHeap) : Go.Proofs.YtfchdbghjeophaaGreatDoor.frz 0 [] H 8 v = some v := frz_lt h.lt
theorem SlI.slen {v : MV} {l : List Int} (h : SlI v l) : v.slen = some l.length := by
 cases h with
 | sl l => simp [MV.slen]
 | nil => rfl
theorem SlI.pos {v : MV} {l : List Int} (h : SlI v l) (hp : 0 < l.length) : v = .sl (l.map I64) := by
 cases h with
 | sl l => rfl
 | nil => simp at hp
theorem SlI.cell {v : MV} {l : List Int} (h : SlI v l) : rdCells v.cells 0 none = some v := by cases h <;> rfl
end Go.Proofs.YtfchdbghjeophaaGreatDoor

/- Contracts: names; the program's check of a net. -/
namespace Go.Proofs.YtfchdbghjeophaaGreatDoor
open Go.RowKit
set_option linter.unusedVariables false
theorem unl_eq {b : Bool} {n : Int} (hn : n ≠ 0) : unl b n = 0 ↔ b = true := by
 cases b <;> simp [unl, hn]
theorem firstE_zero {x : Int} {xs : List Int} : firstE (x :: xs) = 0 ↔ x = 0 ∧ firstE xs = 0 := by
 by_cases h : x = 0 <;> simp [firstE, h]
theorem or32_all : (List.range 256).all (fun c => match binI .or .u8 (c : Nat) 32 with | some (.int .u8 o) => decide (0 ≤ o) && (decide (o ≤ 255) && (inB o 97 122 == ((decide (97 ≤ c) && decide (c ≤ 122)) || (decide (65 ≤ c) && decide (c ≤ 90))))) | _ => false) = true := by kernel_rfl
theorem or32 (c : UInt8) : ∃ o : Int, binI .or .u8 c.toNat 32 = some (.int .u8 o) ∧ 0 ≤ o ∧ o ≤ 255 ∧ inB o 97 122 = letB c := by
 have h := List.all_eq_true.1 or32_all c.toNat (List.mem_range.2 c.toNat_lt)
 split at h
 ·rename_i o ho
  simp only [Bool.and_eq_true, decide_eq_true_eq, beq_iff_eq] at h
  exact ⟨o, ho, h.1, h.2.1, h.2.2⟩
 ·cases h
theorem mf_isName : MT.mf 107 = some mfW_l107 := mfW_q107
theorem allNb_step {bs : List UInt8} {i : Nat} (h : i < bs.length) : allNb i (bs.drop i) = (nbB i bs[i] && allNb (i + 1) (bs.drop (i + 1))) := by
 rw [List.drop_eq_getElem_cons h, allNb]
set_option maxHeartbeats 1000000 in
theorem isName_z (k : Nat) (s : ByteArray) (hs : s.size ≤ 1000) : runZ MT (orA (k + 1)) (itA (k + 1)) 4000000 107 [.lit (.string s)] [] = some (Bo (nmB s), []) := by
 obtain ⟨bs, hbs⟩ : ∃ bs, s.data.toList = bs := ⟨_, rfl⟩
 have hbl : bs.length = s.size := by rw [← hbs, Array.length_toList]; rfl
 have hl : (MV.sl (s.data.toList.map fun c => MV.lit (.int .u8 c.toNat))).slen = some bs.length := by simp [MV.slen, hbs]
 have HNM := Lib.hid (show nmB s = (allNb 0 bs && inB s.size 1 12) by rw [← hbs]; rfl)
 refine runZ_of mf_isName (by simp) ?_
 simp only [argsL]
 repeat (first | apply ef_seq | (apply ef_mv; exact rfl; exact rfl) | (apply ef_len; exact rfl; exact rfl; (assumption)) | (apply ef_s2b; exact rfl; exact rfl) | apply ef_nil | apply seqQ.normal | apply ef_block)
 rw [hbs]
 refine ef_loopf (α := Nat) (fun i => i ≤ bs.length ∧ allNb 0 bs = allNb i (bs.drop i)) (fun i => [(9, I64 (i : Int))]) [(8, I64 (bs.length : Int)), (7, .sl (bs.map encB)), (0, .lit (.string s))] (fun _ => []) (fun i => bs.length - i) 0 [9] (fun _ => rfl) (by ((repeat (refine Hold.cons (by exact rfl) ?_)); exact Hold.nil)) (by ((repeat (refine Hold.cons (by exact rfl) ?_)); exact Hold.nil)) rfl rfl ⟨by omega, rfl⟩ (by simp; omega) ?_
 rintro i ⟨hi, hz⟩
 try simp only at hi hz ⊢
 by_cases hlt : i < bs.length
 ·have e1 := at_map encB bs i hlt
  have HS := Lib.hid (allNb_step hlt)
  have HZ := Lib.hid hz
  clear hz
  generalize bs[i] = c at e1 HS
  have hc := c.toNat_lt
  obtain ⟨o, ho, o1, o2, o3⟩ := or32 c
  have hw := fun h => within_c k o 97 122 h o3
  have hd := fun h => within_c k (c.toNat : Int) 48 57 h rfl
  have HB := Lib.hid (show nbB i c = (letB c || (decide (i ≠ 0) && (decide (c.toNat = 45) || inB c.toNat 48 57))) by unfold nbB; congr 3; unfold inB; rw [Bool.eq_iff_iff]; simp; omega)
  generalize letB c = lt at hw HB
  generalize hdd : inB (c.toNat : Int) 48 57 = dg at hd HB
  clear o3 hdd
  cases lt
  ·by_cases h0 : i = 0
   ·subst h0
    repeat (first | apply ef_seq | (apply ef_mv; exact rfl; exact rfl) | (apply ef_bin; (iterate 3 exact rfl); (first | assumption | exact cmp_t rfl (by first | exact rfl | (simp only [cmpP]; omega)))) | (apply ef_gy; exact rfl; (exact (rfl : true = true))) | (apply ef_gn; exact rfl; (exact (rfl : true = true)); exact rfl) | (apply ef_gu; exact rfl; exact rfl) | (apply ef_pick; (iterate 3 exact rfl)) | (apply ef_ldr; exact rfl; exact rfl; (exact rfl)) | (apply ef_ias; (iterate 3 exact rfl); (omega); assumption; exact rfl) | (apply ef_notF; exact rfl; exact rfl) | (apply ef_cv; exact rfl; exact rfl; (exact wrap_of (by omega) (by omega))) | apply ef_nil | apply seqQ.normal | apply loopQ.ret | apply ef_ret | apply seqQ.ret | apply blockQ.ret | apply ef_block | apply ef_skip | (apply ef_condt; exact rfl; (exact (rfl : true = true))) | (apply ef_call; exact rfl; ((repeat (apply XVs.cons; exact rfl)); exact XVs.nil); (with_reducible exact hw _)))
    (refine fin1 rfl (by exact rfl) rfl ?_)
    rw [HNM.out, HZ.out, HS.out, HB.out]; simp
   ·by_cases h45 : c.toNat = 45
    ·repeat (first | apply ef_seq | (apply ef_mv; exact rfl; exact rfl) | (apply ef_bin; (iterate 3 exact rfl); (first | assumption | exact cmp_t rfl (by first | exact rfl | (simp only [cmpP]; omega)) | exact cmp_f rfl (by simp only [cmpP]; omega) | ((with_reducible refine bin_add (wrap_of ?_ ?_)) <;> omega))) | (apply ef_gy; exact rfl; (first | exact (rfl : true = true) | exact (rfl : false = false))) | (apply ef_gn; exact rfl; (exact (rfl : false = false)); exact rfl) | (apply ef_pick; (iterate 3 exact rfl)) | (apply ef_ldr; exact rfl; exact rfl; (exact rfl)) | (apply ef_ias; (iterate 3 exact rfl); (omega); assumption; exact rfl) | (apply ef_notF; exact rfl; exact rfl) | (apply ef_cv; exact rfl; exact rfl; (exact wrap_of (by omega) (by omega))) | apply ef_nil | apply seqQ.normal | apply blockQ.normal | apply ef_block | apply ef_skip | (apply ef_condt; exact rfl; (exact (rfl : true = true))) | (apply ef_condf; exact rfl; (exact (rfl : false = false))) | (apply ef_call; exact rfl; ((repeat (apply XVs.cons; exact rfl)); exact XVs.nil); (with_reducible exact hw _)))
     (refine loopQ.normal _ _ ⟨i + 1, ⟨hlt, by rw [HZ.out, HS.out, HB.out]; simp [h0, h45]⟩, (by first | (simp only; omega) | omega), ⟨by ((repeat (refine Hold.cons (by exact rfl) ?_)); exact Hold.nil), by ((repeat (refine Hold.cons (by exact rfl) ?_)); exact Hold.nil)⟩, .inl (Nat.le_refl _), (by first | exact List.take_length | exact rfl | exact takeF rfl rfl)⟩)
    ·cases dg
     ·repeat (first | apply ef_seq | (apply ef_mv; exact rfl; exact rfl) | (apply ef_bin; (iterate 3 exact rfl); (first | assumption | exact cmp_t rfl (by first | exact rfl | (simp only [cmpP]; omega)) | exact cmp_f rfl (by simp only [cmpP]; omega))) | (apply ef_gy; exact rfl; (first | exact (rfl : true = true) | exact (rfl : false = false))) | (apply ef_pick; (iterate 3 exact rfl)) | (apply ef_ldr; exact rfl; exact rfl; (exact rfl)) | (apply ef_ias; (iterate 3 exact rfl); (omega); assumption; exact rfl) | (apply ef_notF; exact rfl; exact rfl) | (apply ef_cv; exact rfl; exact rfl; (exact wrap_of (by omega) (by omega))) | apply ef_nil | apply seqQ.normal | apply loopQ.ret | apply ef_ret | apply seqQ.ret | apply blockQ.ret | apply ef_block | apply ef_skip | (apply ef_condt; exact rfl; (exact (rfl : true = true))) | (apply ef_call; exact rfl; ((repeat (apply XVs.cons; exact rfl)); exact XVs.nil); (with_reducible first | exact hw _ | exact hd _)))
      (refine fin1 rfl (by exact rfl) rfl ?_)
      rw [HNM.out, HZ.out, HS.out, HB.out]; simp [h0, h45]
     ·repeat (first | apply ef_seq | (apply ef_mv; exact rfl; exact rfl) | (apply ef_bin; (iterate 3 exact rfl); (first | assumption | exact cmp_t rfl (by first | exact rfl | (simp only [cmpP]; omega)) | exact cmp_f rfl (by simp only [cmpP]; omega) | ((with_reducible refine bin_add (wrap_of ?_ ?_)) <;> omega))) | (apply ef_gy; exact rfl; (first | exact (rfl : true = true) | exact (rfl : false = false))) | (apply ef_pick; (iterate 3 exact rfl)) | (apply ef_ldr; exact rfl; exact rfl; (exact rfl)) | (apply ef_ias; (iterate 3 exact rfl); (omega); assumption; exact rfl) | (apply ef_notT; exact rfl; exact rfl) | (apply ef_notF; exact rfl; exact rfl) | (apply ef_cv; exact rfl; exact rfl; (exact wrap_of (by omega) (by omega))) | apply ef_nil | apply seqQ.normal | apply blockQ.normal | apply ef_block | apply ef_skip | (apply ef_condt; exact rfl; (exact (rfl : true = true))) | (apply ef_condf; exact rfl; (exact (rfl : false = false))) | (apply ef_call; exact rfl; ((repeat (apply XVs.cons; exact rfl)); exact XVs.nil); (with_reducible first | exact hw _ | exact hd _)))
      (refine loopQ.normal _ _ ⟨i + 1, ⟨hlt, by rw [HZ.out, HS.out, HB.out]; simp [h0, h45]⟩, (by first | (simp only; omega) | omega), ⟨by ((repeat (refine Hold.cons (by exact rfl) ?_)); exact Hold.nil), by ((repeat (refine Hold.cons (by exact rfl) ?_)); exact Hold.nil)⟩, .inl (Nat.le_refl _), (by first | exact List.take_length | exact rfl | exact takeF rfl rfl)⟩)
  ·repeat (first | apply ef_seq | (apply ef_mv; exact rfl; exact rfl) | (apply ef_bin; (iterate 3 exact rfl); (first | assumption | exact cmp_t rfl (by first | exact rfl | (simp only [cmpP]; omega)) | ((with_reducible refine bin_add (wrap_of ?_ ?_)) <;> omega))) | (apply ef_gn; exact rfl; (exact (rfl : false = false)); exact rfl) | (apply ef_gu; exact rfl; exact rfl) | (apply ef_pick; (iterate 3 exact rfl)) | (apply ef_ldr; exact rfl; exact rfl; (exact rfl)) | (apply ef_ias; (iterate 3 exact rfl); (omega); assumption; exact rfl) | (apply ef_notT; exact rfl; exact rfl) | (apply ef_cv; exact rfl; exact rfl; (exact wrap_of (by omega) (by omega))) | apply ef_nil | apply seqQ.normal | apply blockQ.normal | apply ef_block | apply ef_skip | (apply ef_condt; exact rfl; (exact (rfl : true = true))) | (apply ef_condf; exact rfl; (exact (rfl : false = false))) | (apply ef_call; exact rfl; ((repeat (apply XVs.cons; exact rfl)); exact XVs.nil); (with_reducible exact hw _)))
   (refine loopQ.normal _ _ ⟨i + 1, ⟨hlt, by rw [HZ.out, HS.out, HB.out]; simp⟩, (by first | (simp only; omega) | omega), ⟨by ((repeat (refine Hold.cons (by exact rfl) ?_)); exact Hold.nil), by ((repeat (refine Hold.cons (by exact rfl) ?_)); exact Hold.nil)⟩, .inl (Nat.le_refl _), (by first | exact List.take_length | exact rfl | exact takeF rfl rfl)⟩)
 ·have hw := fun h => within_c k (s.size : Int) 1 12 h rfl
  repeat (first | apply ef_seq | (apply ef_mv; exact rfl; exact rfl) | (apply ef_bin; (iterate 3 exact rfl); (exact cmp_f rfl (by simp only [cmpP]; omega))) | (apply ef_sln; exact rfl; exact rfl) | apply ef_nil | apply seqQ.normal | apply loopQ.exit | apply ef_ret | apply ef_exit | apply seqQ.exit | apply blockQ.here | (apply ef_condf; exact rfl; (exact (rfl : false = false))) | (apply ef_call; exact rfl; ((repeat (apply XVs.cons; exact rfl)); exact XVs.nil); (with_reducible exact hw _)))
  (refine fin1 rfl (by exact rfl) rfl ?_)
  rw [HNM.out, hz, List.drop_eq_nil_of_le (by omega)]; simp [allNb]
theorem isName_c (k : Nat) (s : ByteArray) (hs : s.size ≤ 1000) (h : MHeap) : orA (k + 2) 107 [.lit (.string s)] h = some (Bo (nmB s), h) :=
 callL (args' := [.lit (.string s)]) (frzL_lt rfl) rfl (isName_z k s hs)
end Go.Proofs.YtfchdbghjeophaaGreatDoor

/- Contracts: the program's check of a net. -/
namespace Go.Proofs.YtfchdbghjeophaaGreatDoor
open Go.RowKit
set_option linter.unusedVariables false
theorem mf_IndexFuncL : MT.mf 132 = some mfW_l132 := mfW_q132
theorem IndexFuncL_z (k g : Nat) (caps : List MV) (P : Ln → Bool) (zs : List Ln) (hx : zs.length ≤ 1000) (hg : ∀ z ∈ zs, ∀ h, orA k g (encLn z :: caps) h = some (Bo (P z), h)) :
  runZ MT (orA k) (itA k) 4000000 132 [.sl (zs.map encLn), .fn g 0 caps] [] = some (I64 (fIxG P zs 0), []) := by
 have hl : (MV.sl (zs.map encLn)).slen = some zs.length := by simp [MV.slen]
 refine runZ_of mf_IndexFuncL (by simp) ?_
 simp only [argsL]
 repeat (first | apply ef_seq | (apply ef_mv; exact rfl; exact rfl) | (apply ef_len; exact rfl; exact rfl; (assumption)) | apply ef_nil | apply seqQ.normal | apply ef_block)
 refine ef_loop (α := Nat) (fun i => i ≤ zs.length ∧ fIxG P zs 0 = fIxG P (zs.drop i) i) (fun i => [(8, I64 (i : Int)), (7, I64 (zs.length : Int)), (1, .fn g 0 caps), (0, .sl (zs.map encLn))]) (fun _ => []) (fun i => zs.length - i) 0 [8, 7, 1, 0] (fun _ => rfl) rfl ⟨by omega, rfl⟩ (by simp; omega) (by ((repeat (refine Hold.cons (by exact rfl) ?_)); exact Hold.nil)) rfl ?_
 rintro i ⟨hi, hz⟩
 by_cases hlt : i < zs.length
 ·have e1 := at_map encLn zs i hlt
  have HD := Lib.hid (drop_at zs i hlt)
  have HZ := Lib.hid hz
  have hg1 := hg zs[i] (List.getElem_mem hlt)
  clear hz hg
  obtain ⟨t, ht⟩ : ∃ t, P zs[i] = t := ⟨_, rfl⟩
  have HT := Lib.hid ht
  rw [ht] at hg1
  clear ht
  generalize zs[i] = z at e1 HD hg1 HT
  cases t
  ·repeat (first | apply ef_seq | (apply ef_mv; exact rfl; exact rfl) | (apply ef_bin; (iterate 3 exact rfl); (exact cmp_t rfl (by first | exact rfl | (simp only [cmpP]; omega)))) | (apply ef_ldr; exact rfl; exact rfl; (exact rd_2 rfl rfl)) | (apply ef_ias; (iterate 3 exact rfl); (omega); assumption; exact rfl) | apply ef_nil | apply seqQ.normal | apply ef_block | apply ef_skip | (apply ef_condt; exact rfl; (exact (rfl : true = true))))
   (apply ef_callv; exact rfl; exact rfl; ((repeat (apply XVs.cons; exact rfl)); exact XVs.nil); exact rfl; exact hg1 _)
   repeat (first | (apply ef_mv; exact rfl; exact rfl) | (apply ef_bin; (iterate 3 exact rfl); (((with_reducible refine bin_add (wrap_of ?_ ?_)) <;> omega))) | apply ef_nil | apply seqQ.normal | apply blockQ.normal | apply ef_skip | (apply ef_condf; exact rfl; (exact (rfl : false = false))))
   (refine loopQ.normal _ _ ⟨i + 1, ⟨hlt, by rw [HZ.out, HD.out]; simp [fIxG, HT.out]⟩, (by first | (simp only; omega) | omega), by ((repeat (refine Hold.cons (by exact rfl) ?_)); exact Hold.nil), .inl (Nat.le_refl _), (by first | exact List.take_length | exact rfl)⟩)
  ·repeat (first | apply ef_seq | (apply ef_mv; exact rfl; exact rfl) | (apply ef_bin; (iterate 3 exact rfl); (exact cmp_t rfl (by first | exact rfl | (simp only [cmpP]; omega)))) | (apply ef_ldr; exact rfl; exact rfl; (exact rd_2 rfl rfl)) | (apply ef_ias; (iterate 3 exact rfl); (omega); assumption; exact rfl) | apply ef_nil | apply seqQ.normal | apply ef_block | apply ef_skip | (apply ef_condt; exact rfl; (exact (rfl : true = true))))
   (apply ef_callv; exact rfl; exact rfl; ((repeat (apply XVs.cons; exact rfl)); exact XVs.nil); exact rfl; exact hg1 _)
   repeat (first | apply ef_seq | (apply ef_mv; exact rfl; exact rfl) | apply ef_nil | apply seqQ.normal | apply loopQ.ret | apply ef_ret | apply seqQ.ret | apply blockQ.ret | (apply ef_condt; exact rfl; (exact (rfl : true = true))))
   (refine fin1 rfl (by exact rfl) rfl ?_)
   rw [HZ.out, HD.out]; simp [fIxG, HT.out]
 ·repeat (first | apply ef_seq | (apply ef_mv; exact rfl; exact rfl) | (apply ef_bin; (iterate 3 exact rfl); (exact cmp_f rfl (by simp only [cmpP]; omega))) | apply ef_nil | apply seqQ.normal | apply loopQ.exit | apply ef_ret | apply ef_exit | apply seqQ.exit | apply blockQ.here | (apply ef_condf; exact rfl; (exact (rfl : false = false))))
  (refine fin1 rfl (by exact rfl) rfl ?_)
  rw [hz, List.drop_eq_nil_of_le (by omega)]; rfl
theorem IndexFuncL_c (k g : Nat) (caps : List MV) (P : Ln → Bool) (zs : List Ln) (h : MHeap) {v fv : MV} (hx : zs.length ≤ 1000) (hg : ∀ z ∈ zs, ∀ h, orA k g (encLn z :: caps) h = some (Bo (P z), h)) (hv : frz 0 [] h 8 v = some (.sl (zs.map encLn))) (hf : frz 0 [] h 8 fv = some (.fn g 0 caps)) :
  orA (k + 1) 132 [v, fv] h = some (I64 (fIxG P zs 0), h) :=
 callL (args' := [.sl (zs.map encLn), .fn g 0 caps]) (by simp [List.mapM_cons, hv, hf]) rfl (IndexFuncL_z k g caps P zs hx hg)
theorem mf_ContainsFuncL : MT.mf 105 = some mfW_l105 := mfW_q105
theorem ContainsFuncL_c (k g : Nat) (caps : List MV) (P : Ln → Bool) (zs : List Ln) (h : MHeap) {v fv : MV} {t : Bool} (hx : zs.length ≤ 1000) (hg : ∀ z ∈ zs, ∀ h, orA k g (encLn z :: caps) h = some (Bo (P z), h)) (hl : ltL 0 caps = true) (hv : frz 0 [] h 8 v = some (.sl (zs.map encLn))) (hf : frz 0 [] h 8 fv = some (.fn g 0 caps))
  (ht : zs.any P = t) : orA (k + 2) 105 [v, fv] h = some (Bo t, h) := by
 refine callL (args' := [.sl (zs.map encLn), .fn g 0 caps]) (by simp [List.mapM_cons, hv, hf]) rfl (runZ_of mf_ContainsFuncL (by simp) ?_)
 simp only [argsL]
 have hi := fun h => IndexFuncL_c k g caps P zs h (v := .sl (zs.map encLn)) (fv := .fn g 0 caps) hx hg (frz_sl (ltL_lits (fun _ => by simp [MV.lt, ltL]) zs)) (by simp [frz, MV.lt, hl])
 repeat (first | apply ef_seq | (apply ef_mv; exact rfl; exact rfl) | (apply ef_bin; (iterate 3 exact rfl); (exact rfl)) | apply ef_nil | apply seqQ.normal | apply ef_ret | (apply ef_call; exact rfl; ((repeat (apply XVs.cons; exact rfl)); exact XVs.nil); (with_reducible exact hi _)))
 (refine fin1 rfl (by exact rfl) rfl ?_)
 rw [← ht]
 exact fIxG_any P zs
theorem mf_IndexFuncC : MT.mf 157 = some mfW_l157 := mfW_q157
theorem IndexFuncC_z (k g : Nat) (caps : List MV) (P : Cr → Bool) (zs : List Cr) (hx : zs.length ≤ 1000) (hg : ∀ z ∈ zs, ∀ h, orA k g (encCr z :: caps) h = some (Bo (P z), h)) :
  runZ MT (orA k) (itA k) 4000000 157 [.sl (zs.map encCr), .fn g 0 caps] [] = some (I64 (fIxG P zs 0), []) := by
 have hl : (MV.sl (zs.map encCr)).slen = some zs.length := by simp [MV.slen]
 refine runZ_of mf_IndexFuncC (by simp) ?_
 simp only [argsL]
 repeat (first | apply ef_seq | (apply ef_mv; exact rfl; exact rfl) | (apply ef_len; exact rfl; exact rfl; (assumption)) | apply ef_nil | apply seqQ.normal | apply ef_block)
 refine ef_loop (α := Nat) (fun i => i ≤ zs.length ∧ fIxG P zs 0 = fIxG P (zs.drop i) i) (fun i => [(8, I64 (i : Int)), (7, I64 (zs.length : Int)), (1, .fn g 0 caps), (0, .sl (zs.map encCr))]) (fun _ => []) (fun i => zs.length - i) 0 [8, 7, 1, 0] (fun _ => rfl) rfl ⟨by omega, rfl⟩ (by simp; omega) (by ((repeat (refine Hold.cons (by exact rfl) ?_)); exact Hold.nil)) rfl ?_
 rintro i ⟨hi, hz⟩
 by_cases hlt : i < zs.length
 ·have e1 := at_map encCr zs i hlt
  have HD := Lib.hid (drop_at zs i hlt)
  have HZ := Lib.hid hz
  have hg1 := hg zs[i] (List.getElem_mem hlt)
  clear hz hg
  obtain ⟨t, ht⟩ : ∃ t, P zs[i] = t := ⟨_, rfl⟩
  have HT := Lib.hid ht
  rw [ht] at hg1
  clear ht
  generalize zs[i] = z at e1 HD hg1 HT
  cases t
  ·repeat (first | apply ef_seq | (apply ef_mv; exact rfl; exact rfl) | (apply ef_bin; (iterate 3 exact rfl); (exact cmp_t rfl (by first | exact rfl | (simp only [cmpP]; omega)))) | (apply ef_ldr; exact rfl; exact rfl; (exact rd_6 rfl rfl rfl rfl rfl rfl)) | (apply ef_ias; (iterate 3 exact rfl); (omega); assumption; exact rfl) | apply ef_nil | apply seqQ.normal | apply ef_block | apply ef_skip | (apply ef_condt; exact rfl; (exact (rfl : true = true))))
   (apply ef_callv; exact rfl; exact rfl; ((repeat (apply XVs.cons; exact rfl)); exact XVs.nil); exact rfl; exact hg1 _)
   repeat (first | (apply ef_mv; exact rfl; exact rfl) | (apply ef_bin; (iterate 3 exact rfl); (((with_reducible refine bin_add (wrap_of ?_ ?_)) <;> omega))) | apply ef_nil | apply seqQ.normal | apply blockQ.normal | apply ef_skip | (apply ef_condf; exact rfl; (exact (rfl : false = false))))
   (refine loopQ.normal _ _ ⟨i + 1, ⟨hlt, by rw [HZ.out, HD.out]; simp [fIxG, HT.out]⟩, (by first | (simp only; omega) | omega), by ((repeat (refine Hold.cons (by exact rfl) ?_)); exact Hold.nil), .inl (Nat.le_refl _), (by first | exact List.take_length | exact rfl)⟩)
  ·repeat (first | apply ef_seq | (apply ef_mv; exact rfl; exact rfl) | (apply ef_bin; (iterate 3 exact rfl); (exact cmp_t rfl (by first | exact rfl | (simp only [cmpP]; omega)))) | (apply ef_ldr; exact rfl; exact rfl; (exact rd_6 rfl rfl rfl rfl rfl rfl)) | (apply ef_ias; (iterate 3 exact rfl); (omega); assumption; exact rfl) | apply ef_nil | apply seqQ.normal | apply ef_block | apply ef_skip | (apply ef_condt; exact rfl; (exact (rfl : true = true))))
   (apply ef_callv; exact rfl; exact rfl; ((repeat (apply XVs.cons; exact rfl)); exact XVs.nil); exact rfl; exact hg1 _)
   repeat (first | apply ef_seq | (apply ef_mv; exact rfl; exact rfl) | apply ef_nil | apply seqQ.normal | apply loopQ.ret | apply ef_ret | apply seqQ.ret | apply blockQ.ret | (apply ef_condt; exact rfl; (exact (rfl : true = true))))
   (refine fin1 rfl (by exact rfl) rfl ?_)
   rw [HZ.out, HD.out]; simp [fIxG, HT.out]
 ·repeat (first | apply ef_seq | (apply ef_mv; exact rfl; exact rfl) | (apply ef_bin; (iterate 3 exact rfl); (exact cmp_f rfl (by simp only [cmpP]; omega))) | apply ef_nil | apply seqQ.normal | apply loopQ.exit | apply ef_ret | apply ef_exit | apply seqQ.exit | apply blockQ.here | (apply ef_condf; exact rfl; (exact (rfl : false = false))))
  (refine fin1 rfl (by exact rfl) rfl ?_)
  rw [hz, List.drop_eq_nil_of_le (by omega)]; rfl
theorem IndexFuncC_c (k g : Nat) (caps : List MV) (P : Cr → Bool) (zs : List Cr) (h : MHeap) {v fv : MV} (hx : zs.length ≤ 1000) (hg : ∀ z ∈ zs, ∀ h, orA k g (encCr z :: caps) h = some (Bo (P z), h)) (hv : frz 0 [] h 8 v = some (.sl (zs.map encCr))) (hf : frz 0 [] h 8 fv = some (.fn g 0 caps)) :
  orA (k + 1) 157 [v, fv] h = some (I64 (fIxG P zs 0), h) :=
 callL (args' := [.sl (zs.map encCr), .fn g 0 caps]) (by simp [List.mapM_cons, hv, hf]) rfl (IndexFuncC_z k g caps P zs hx hg)
theorem mf_ContainsFuncC : MT.mf 133 = some mfW_l133 := mfW_q133
theorem ContainsFuncC_c (k g : Nat) (caps : List MV) (P : Cr → Bool) (zs : List Cr) (h : MHeap) {v fv : MV} {t : Bool} (hx : zs.length ≤ 1000) (hg : ∀ z ∈ zs, ∀ h, orA k g (encCr z :: caps) h = some (Bo (P z), h)) (hl : ltL 0 caps = true) (hv : frz 0 [] h 8 v = some (.sl (zs.map encCr))) (hf : frz 0 [] h 8 fv = some (.fn g 0 caps))
  (ht : zs.any P = t) : orA (k + 2) 133 [v, fv] h = some (Bo t, h) := by
 refine callL (args' := [.sl (zs.map encCr), .fn g 0 caps]) (by simp [List.mapM_cons, hv, hf]) rfl (runZ_of mf_ContainsFuncC (by simp) ?_)
 simp only [argsL]
 have hi := fun h => IndexFuncC_c k g caps P zs h (v := .sl (zs.map encCr)) (fv := .fn g 0 caps) hx hg (frz_sl (ltL_lits (fun _ => by simp [MV.lt, ltL]) zs)) (by simp [frz, MV.lt, hl])
 repeat (first | apply ef_seq | (apply ef_mv; exact rfl; exact rfl) | (apply ef_bin; (iterate 3 exact rfl); (exact rfl)) | apply ef_nil | apply seqQ.normal | apply ef_ret | (apply ef_call; exact rfl; ((repeat (apply XVs.cons; exact rfl)); exact XVs.nil); (with_reducible exact hi _)))
 (refine fin1 rfl (by exact rfl) rfl ?_)
 rw [← ht]
 exact fIxG_any P zs
theorem mf_CheckNet1 : MT.mf 106 = some mfW_l106 := mfW_q106
theorem CheckNet1_c (k : Nat) (o l : Ln) (h : MHeap) : orA (k + 1) 106 [encLn o, .rp (encLn l) 0] h = some (Bo (o.1 == l.1), h) := by
 refine callL (args' := [encLn o, .rp (encLn l) 0]) (frzL_lt rfl) rfl (runZ_of mf_CheckNet1 (by simp) ?_)
 simp only [argsL]
 repeat (first | apply ef_seq | (apply ef_mv; exact rfl; exact rfl) | (apply ef_ldr; exact rfl; exact rfl; (exact rfl)) | (apply ef_ldp; exact rfl; exact rfl; (exact rfl); exact rfl; (exact rfl); (exact rfl)) | (apply ef_fap; exact rfl; exact rfl) | (apply ef_far; exact rfl; exact rfl) | (apply ef_box; (iterate 4 exact rfl)) | (apply ef_sq; (iterate 3 exact rfl)) | apply ef_nil | apply seqQ.normal | apply ef_ret)
 repeat (fail)
 repeat (fail)
 (refine fin1 rfl (by exact rfl) rfl ?_)
 rfl
theorem mf_crossingErr1 : MT.mf 134 = some mfW_l134 := mfW_q134
theorem crossingErr1_c (k : Nat) (o c : Cr) (h : MHeap) : orA (k + 1) 134 [encCr o, .rp (encCr c) 0] h = some (Bo (dblB c o), h) := by
 refine callL (args' := [encCr o, .rp (encCr c) 0]) (frzL_lt rfl) rfl (runZ_of mf_crossingErr1 (by simp) ?_)
 simp only [argsL]
 have HD := Lib.hid (show dblB c o = ((decide (o.ln = c.ln) && decide (o.pa = c.pa)) || (decide (o.ti = c.ti) && decide (o.pt = c.pt))) from rfl)
 by_cases h1 : o.ln = c.ln <;> by_cases h2 : o.pa = c.pa <;> by_cases h3 : o.ti = c.ti <;> by_cases h4 : o.pt = c.pt
 all_goals repeat (first | apply ef_seq | (apply ef_mv; exact rfl; exact rfl) | (apply ef_bin; (iterate 3 exact rfl); (first | exact cmp_t rfl (by first | exact rfl | (simp only [cmpP]; omega)) | exact cmp_f rfl (by simp only [cmpP]; omega))) | (apply ef_gy; exact rfl; (first | exact (rfl : true = true) | exact (rfl : false = false))) | (apply ef_gn; exact rfl; (first | exact (rfl : true = true) | exact (rfl : false = false)); exact rfl) | (apply ef_gu; exact rfl; exact rfl) | (apply ef_pick; (iterate 3 exact rfl)) | (apply ef_ldr; exact rfl; exact rfl; (exact rfl)) | (apply ef_ldp; exact rfl; exact rfl; (exact rfl); exact rfl; (exact rfl); (exact rfl)) | (apply ef_fap; exact rfl; exact rfl) | (apply ef_far; exact rfl; exact rfl) | (apply ef_box; (iterate 4 exact rfl)) | apply ef_nil | apply seqQ.normal | apply ef_ret)
 all_goals (refine fin1 rfl (by exact rfl) rfl ?_)
 all_goals (rw [HD.out]; simp [h1, h2, h3, h4])
theorem mf_isPosition : MT.mf 78 = some mfW_l78 := mfW_q78
theorem isPosition_c (k : Nat) (n : Int) (h : MHeap) {b : Bool} (hb : inB n 0 1000000 = b) : orA (k + 2) 78 [I64 n] h = some (Bo b, h) := by
 refine callL (args' := [I64 n]) (frzL_lt rfl) rfl (runZ_of mf_isPosition (by simp) ?_)
 simp only [argsL]
 have hw := fun h => within_c k n 0 1000000 h hb
 repeat (first | apply ef_seq | (apply ef_mv; exact rfl; exact rfl) | apply ef_nil | apply seqQ.normal | apply ef_ret | (apply ef_call; exact rfl; ((repeat (apply XVs.cons; exact rfl)); exact XVs.nil); (with_reducible exact hw _)))
 (refine fin1 rfl (by exact rfl) rfl ?_)
 rfl
theorem mf_isSized : MT.mf 48 = some mfW_l48 := mfW_q48
theorem isSized_c (k : Nat) (n m : Int) (h : MHeap) {b : Bool} (h0 : 0 ≤ m) (h1 : m ≤ 1000000000) (hb : inB n (-m) m = b) : orA (k + 2) 48 [I64 n, I64 m] h = some (Bo b, h) := by
 refine callL (args' := [I64 n, I64 m]) (frzL_lt rfl) rfl (runZ_of mf_isSized (by simp) ?_)
 simp only [argsL]
 have hw := fun h => within_c k n (0 - m) m h (t := b) (by rw [Int.zero_sub]; exact hb)
 repeat (first | apply ef_seq | (apply ef_mv; exact rfl; exact rfl) | (apply ef_neg; exact rfl; exact rfl; exact wrap_of (by omega) (by omega)) | apply ef_nil | apply seqQ.normal | apply ef_ret | (apply ef_call; exact rfl; ((repeat (apply XVs.cons; exact rfl)); exact XVs.nil); (with_reducible exact hw _)))
 (refine fin1 rfl (by exact rfl) rfl ?_)
 rfl
theorem ln_at {ls : List Ln} {i : Int} (h : inB i 0 ((ls.length : Int) - 1) = true) : 0 ≤ i ∧ (ls.map encLn)[i.toNat]? = some (encLn (ls.getD i.toNat (⟨#[]⟩, false))) := by
 obtain ⟨h0, h1⟩ := inB_iff.1 h
 refine ⟨h0, ?_⟩
 have hlt : i.toNat < ls.length := by omega
 rw [List.getElem?_map, List.getElem?_eq_getElem hlt, List.getD_eq_getElem?_getD, List.getElem?_eq_getElem hlt]; rfl
theorem ltL_Ln (n : Nat) (ls : List Ln) : ltL n (ls.map encLn) = true := ltL_lits (fun _ => rfl) ls
theorem ltL_Cr (n : Nat) (ls : List Cr) : ltL n (ls.map encCr) = true := ltL_lits (fun _ => rfl) ls
theorem pureL_Ln (ls : List Ln) : pureL (ls.map encLn) = true := pureL_lits (fun _ => rfl) ls
theorem pureL_Cr (ls : List Cr) : pureL (ls.map encCr) = true := pureL_lits (fun _ => rfl) ls
theorem mf_crossingErr : MT.mf 108 = some mfW_l108 := mfW_q108
set_option maxHeartbeats 2000000 in
theorem crossingErr_c (k : Nat) (ls : List Ln) (pre : List Cr) (c : Cr) (h : MHeap) (hl : ls.length ≤ 1000) (hp : pre.length ≤ 1000) : orA (k + 4) 108 [.sl (ls.map encLn), .sl (pre.map encCr), encCr c] h = some (I64 (crossE ls pre c), h) := by
 refine callL (args' := [.sl (ls.map encLn), .sl (pre.map encCr), encCr c]) (frzL_lt (by simp [ltL, MV.lt, ltL_Ln, ltL_Cr])) rfl (runZ_of mf_crossingErr (by simp) ?_)
 simp only [argsL]
 have hsl : (MV.sl (ls.map encLn)).slen = some ls.length := by simp [MV.slen]
 have hun := fun b e h => unless_c (k + 2) b e h rfl
 cases h1 : inB c.ln 0 ((ls.length : Int) - 1)
 ·have hw1 := fun h => within_c (k + 2) c.ln 0 ((ls.length : Int) - 1) h h1
  repeat (first | apply ef_seq | (apply ef_mv; exact rfl; exact rfl) | (apply ef_bin; (iterate 3 exact rfl); (((with_reducible refine bin_sub (wrap_of ?_ ?_)) <;> omega))) | (apply ef_gn; exact rfl; (exact (rfl : true = true)); exact rfl) | (apply ef_pick; (iterate 3 exact rfl)) | (apply ef_len; exact rfl; exact rfl; (assumption)) | (apply ef_ldp; exact rfl; exact rfl; (exact rfl); exact rfl; (exact rfl); (exact rfl)) | (apply ef_fap; exact rfl; exact rfl) | (apply ef_notF; exact rfl; exact rfl) | (apply ef_box; (iterate 4 exact rfl)) | apply ef_nil | apply seqQ.normal | apply ef_ret | apply seqQ.ret | (apply ef_condt; exact rfl; (exact (rfl : true = true))) | (apply ef_call; exact rfl; ((repeat (apply XVs.cons; exact rfl)); exact XVs.nil); (with_reducible exact hw1 _)))
  (refine fin1 rfl (by exact rfl) rfl ?_)
  simp [crossE, h1]
 ·cases h2 : inB c.ti 0 ((ls.length : Int) - 1)
  ·have hw1 := fun h => within_c (k + 2) c.ln 0 ((ls.length : Int) - 1) h h1
   have hw2 := fun h => within_c (k + 2) c.ti 0 ((ls.length : Int) - 1) h h2
   repeat (first | apply ef_seq | (apply ef_mv; exact rfl; exact rfl) | (apply ef_bin; (iterate 3 exact rfl); (((with_reducible refine bin_sub (wrap_of ?_ ?_)) <;> omega))) | (apply ef_gy; exact rfl; (exact (rfl : false = false))) | (apply ef_pick; (iterate 3 exact rfl)) | (apply ef_len; exact rfl; exact rfl; (assumption)) | (apply ef_ldp; exact rfl; exact rfl; (exact rfl); exact rfl; (exact rfl); (exact rfl)) | (apply ef_fap; exact rfl; exact rfl) | (apply ef_notT; exact rfl; exact rfl) | (apply ef_notF; exact rfl; exact rfl) | (apply ef_box; (iterate 4 exact rfl)) | apply ef_nil | apply seqQ.normal | apply ef_ret | apply seqQ.ret | (apply ef_condt; exact rfl; (exact (rfl : true = true))) | (apply ef_call; exact rfl; ((repeat (apply XVs.cons; exact rfl)); exact XVs.nil); (with_reducible first | exact hw1 _ | exact hw2 _)))
   (refine fin1 rfl (by exact rfl) rfl ?_)
   simp [crossE, h1, h2]
  ·have hw1 := fun h => within_c (k + 2) c.ln 0 ((ls.length : Int) - 1) h h1
   have hw2 := fun h => within_c (k + 2) c.ti 0 ((ls.length : Int) - 1) h h2
   obtain ⟨p1, e1⟩ := ln_at h1
   obtain ⟨p2, e2⟩ := ln_at h2
   have HE := Lib.hid (show crossE ls pre c = firstE [unl (!tieOf ls c.ln && tieOf ls c.ti) 15, unl (rngB c) 2, unl (!(pre.any (dblB c))) 23] by simp [crossE, h1, h2])
   have HR := Lib.hid (show rngB c = (inB c.pa 0 1000000 && (inB c.pt 0 1000000 && (inB c.df (-10000) 10000 && inB c.wt 1 10))) from rfl)
   have ht1 : (ls.getD c.ln.toNat (⟨#[]⟩, false)).2 = tieOf ls c.ln := rfl
   have ht2 : (ls.getD c.ti.toNat (⟨#[]⟩, false)).2 = tieOf ls c.ti := rfl
   generalize ls.getD c.ln.toNat (⟨#[]⟩, false) = l1 at e1 ht1
   generalize ls.getD c.ti.toNat (⟨#[]⟩, false) = l2 at e2 ht2
   obtain ⟨n1, b1⟩ := l1
   obtain ⟨n2, b2⟩ := l2
   simp only at ht1 ht2
   rw [← ht1, ← ht2] at HE
   have hcf := fun h => ContainsFuncC_c (k + 1) 134 [.rp (encCr c) 0] (dblB c) pre h (v := .sl (pre.map encCr)) (fv := .fn 134 0 [.ptr 0 0 0 0]) (t := pre.any (dblB c)) hp (fun o _ h => crossingErr1_c k o c h) rfl (frz_sl (ltL_Cr 0 pre))
   have hc := hcf [⟨0, false, 6, [encCr c]⟩] (by simp [frz, MV.lt, ltL]) rfl
   generalize pre.any (dblB c) = db at hc HE
   generalize q1 : inB c.pa 0 1000000 = r1 at HR
   generalize q2 : inB c.pt 0 1000000 = r2 at HR
   generalize q3 : inB c.df (-10000) 10000 = r3 at HR
   generalize q4 : inB c.wt 1 10 = r4 at HR
   have hw3 := fun h => isPosition_c (k + 1) c.pa h q1
   have hw4 := fun h => isPosition_c (k + 1) c.pt h q2
   have hw5 := fun h => isSized_c (k + 1) c.df 10000 h (by omega) (by omega) q3
   have hw6 := fun h => within_c (k + 2) c.wt 1 10 h q4
   rw [HR.out] at HE
   clear hcf ht1 ht2 h1 h2 q1 q2 q3 q4 HR
   have key : ∀ rb, (r1 && (r2 && (r3 && r4))) = rb → RowKit.Hid (crossE ls pre c = firstE [unl (!b1 && b2) 15, unl rb 2, unl (!db) 23]) := fun rb hrb => Lib.hid (by rw [HE.out, hrb])
   clear HE
   cases r1
   ·have HE := key false rfl
    clear key
    cases b1
    all_goals repeat (first | apply ef_seq | (apply ef_mv; exact rfl; exact rfl) | (apply ef_bin; (iterate 3 exact rfl); (((with_reducible refine bin_sub (wrap_of ?_ ?_)) <;> omega))) | (apply ef_gy; exact rfl; (exact (rfl : false = false))) | (apply ef_gn; exact rfl; (exact (rfl : false = false)); exact rfl) | (apply ef_pick; (iterate 3 exact rfl)) | (apply ef_len; exact rfl; exact rfl; (assumption)) | (apply ef_ldp; exact rfl; exact rfl; (exact rfl); exact rfl; (exact rfl); (exact rfl)) | (apply ef_fap; exact rfl; exact rfl) | (apply ef_notT; exact rfl; exact rfl) | (apply ef_box; (iterate 4 exact rfl)) | (apply ef_mf; exact rfl; (repeat (apply XVs.cons; exact rfl)); exact XVs.nil) | apply ef_nil | apply seqQ.normal | apply ef_skip | (apply ef_condf; exact rfl; (exact (rfl : false = false))) | (apply ef_call; exact rfl; ((repeat (apply XVs.cons; exact rfl)); exact XVs.nil); (with_reducible first | exact hw1 _ | exact hw2 _ | exact hw3 _)))
    all_goals (apply ef_call; (· exact rfl); (· ((repeat (apply XVs.cons; exact rfl)); exact XVs.nil)); · exact hc)
    all_goals repeat (first | apply ef_seq | (apply ef_mv; exact rfl; exact rfl) | (apply ef_gy; exact rfl; (exact (rfl : true = true))) | (apply ef_gn; exact rfl; (exact (rfl : false = false)); exact rfl) | (apply ef_pick; (iterate 3 exact rfl)) | (apply ef_ldr; exact rfl; exact rfl; (exact rfl)) | (apply ef_ldp; exact rfl; exact rfl; (exact rfl); exact rfl; (exact rfl); (exact rfl)) | (apply ef_ias; (iterate 3 exact rfl); (omega); assumption; exact rfl) | (apply ef_fap; exact rfl; exact rfl) | (apply ef_far; exact rfl; exact rfl) | (apply ef_notT; exact rfl; exact rfl) | (apply ef_notF; exact rfl; exact rfl) | (apply ef_not; (iterate 3 exact rfl)) | (apply ef_bsl; exact rfl; (repeat (apply XVs.cons; exact rfl)); exact XVs.nil; exact rfl) | apply ef_nil | apply seqQ.normal | apply ef_ret | (apply ef_call; exact rfl; ((repeat (apply XVs.cons; exact rfl)); exact XVs.nil); (with_reducible exact hun _ _ _)) | (apply ef_call; exact rfl; ((repeat (apply XVs.cons; exact rfl)); exact XVs.nil); (with_reducible apply first3_c); (iterate 3 exact rfl); (exact rfl)))
    all_goals (refine fin1 rfl (by exact rfl) rfl ?_)
    all_goals (rw [HE.out]; rfl)
   ·cases r2
    ·have HE := key false rfl
     clear key
     cases b1
     all_goals repeat (first | apply ef_seq | (apply ef_mv; exact rfl; exact rfl) | (apply ef_bin; (iterate 3 exact rfl); (((with_reducible refine bin_sub (wrap_of ?_ ?_)) <;> omega))) | (apply ef_gy; exact rfl; (first | exact (rfl : true = true) | exact (rfl : false = false))) | (apply ef_gn; exact rfl; (exact (rfl : false = false)); exact rfl) | (apply ef_pick; (iterate 3 exact rfl)) | (apply ef_len; exact rfl; exact rfl; (assumption)) | (apply ef_ldp; exact rfl; exact rfl; (exact rfl); exact rfl; (exact rfl); (exact rfl)) | (apply ef_fap; exact rfl; exact rfl) | (apply ef_notT; exact rfl; exact rfl) | (apply ef_box; (iterate 4 exact rfl)) | (apply ef_mf; exact rfl; (repeat (apply XVs.cons; exact rfl)); exact XVs.nil) | apply ef_nil | apply seqQ.normal | apply ef_skip | (apply ef_condf; exact rfl; (exact (rfl : false = false))) | (apply ef_call; exact rfl; ((repeat (apply XVs.cons; exact rfl)); exact XVs.nil); (with_reducible first | exact hw1 _ | exact hw2 _ | exact hw3 _ | exact hw4 _)))
     all_goals (apply ef_call; (· exact rfl); (· ((repeat (apply XVs.cons; exact rfl)); exact XVs.nil)); · exact hc)
     all_goals repeat (first | apply ef_seq | (apply ef_mv; exact rfl; exact rfl) | (apply ef_gy; exact rfl; (exact (rfl : true = true))) | (apply ef_gn; exact rfl; (exact (rfl : false = false)); exact rfl) | (apply ef_pick; (iterate 3 exact rfl)) | (apply ef_ldr; exact rfl; exact rfl; (exact rfl)) | (apply ef_ldp; exact rfl; exact rfl; (exact rfl); exact rfl; (exact rfl); (exact rfl)) | (apply ef_ias; (iterate 3 exact rfl); (omega); assumption; exact rfl) | (apply ef_fap; exact rfl; exact rfl) | (apply ef_far; exact rfl; exact rfl) | (apply ef_notT; exact rfl; exact rfl) | (apply ef_notF; exact rfl; exact rfl) | (apply ef_not; (iterate 3 exact rfl)) | (apply ef_bsl; exact rfl; (repeat (apply XVs.cons; exact rfl)); exact XVs.nil; exact rfl) | apply ef_nil | apply seqQ.normal | apply ef_ret | (apply ef_call; exact rfl; ((repeat (apply XVs.cons; exact rfl)); exact XVs.nil); (with_reducible exact hun _ _ _)) | (apply ef_call; exact rfl; ((repeat (apply XVs.cons; exact rfl)); exact XVs.nil); (with_reducible apply first3_c); (iterate 3 exact rfl); (exact rfl)))
     all_goals (refine fin1 rfl (by exact rfl) rfl ?_)
     all_goals (rw [HE.out]; rfl)
    ·cases r3
     ·have HE := key false rfl
      clear key
      cases b1
      all_goals repeat (first | apply ef_seq | (apply ef_mv; exact rfl; exact rfl) | (apply ef_bin; (iterate 3 exact rfl); (((with_reducible refine bin_sub (wrap_of ?_ ?_)) <;> omega))) | (apply ef_gy; exact rfl; (first | exact (rfl : true = true) | exact (rfl : false = false))) | (apply ef_gn; exact rfl; (exact (rfl : false = false)); exact rfl) | (apply ef_pick; (iterate 3 exact rfl)) | (apply ef_len; exact rfl; exact rfl; (assumption)) | (apply ef_ldp; exact rfl; exact rfl; (exact rfl); exact rfl; (exact rfl); (exact rfl)) | (apply ef_fap; exact rfl; exact rfl) | (apply ef_notT; exact rfl; exact rfl) | (apply ef_box; (iterate 4 exact rfl)) | (apply ef_mf; exact rfl; (repeat (apply XVs.cons; exact rfl)); exact XVs.nil) | apply ef_nil | apply seqQ.normal | apply ef_skip | (apply ef_condf; exact rfl; (exact (rfl : false = false))) | (apply ef_call; exact rfl; ((repeat (apply XVs.cons; exact rfl)); exact XVs.nil); (with_reducible first | exact hw1 _ | exact hw2 _ | exact hw3 _ | exact hw4 _ | exact hw5 _)))
      all_goals (apply ef_call; (· exact rfl); (· ((repeat (apply XVs.cons; exact rfl)); exact XVs.nil)); · exact hc)
      all_goals repeat (first | apply ef_seq | (apply ef_mv; exact rfl; exact rfl) | (apply ef_gy; exact rfl; (exact (rfl : true = true))) | (apply ef_gn; exact rfl; (exact (rfl : false = false)); exact rfl) | (apply ef_pick; (iterate 3 exact rfl)) | (apply ef_ldr; exact rfl; exact rfl; (exact rfl)) | (apply ef_ldp; exact rfl; exact rfl; (exact rfl); exact rfl; (exact rfl); (exact rfl)) | (apply ef_ias; (iterate 3 exact rfl); (omega); assumption; exact rfl) | (apply ef_fap; exact rfl; exact rfl) | (apply ef_far; exact rfl; exact rfl) | (apply ef_notT; exact rfl; exact rfl) | (apply ef_notF; exact rfl; exact rfl) | (apply ef_not; (iterate 3 exact rfl)) | (apply ef_bsl; exact rfl; (repeat (apply XVs.cons; exact rfl)); exact XVs.nil; exact rfl) | apply ef_nil | apply seqQ.normal | apply ef_ret | (apply ef_call; exact rfl; ((repeat (apply XVs.cons; exact rfl)); exact XVs.nil); (with_reducible exact hun _ _ _)) | (apply ef_call; exact rfl; ((repeat (apply XVs.cons; exact rfl)); exact XVs.nil); (with_reducible apply first3_c); (iterate 3 exact rfl); (exact rfl)))
      all_goals (refine fin1 rfl (by exact rfl) rfl ?_)
      all_goals (rw [HE.out]; rfl)
     ·have HE := key r4 rfl
      clear key
      cases b1
      all_goals repeat (first | apply ef_seq | (apply ef_mv; exact rfl; exact rfl) | (apply ef_bin; (iterate 3 exact rfl); (((with_reducible refine bin_sub (wrap_of ?_ ?_)) <;> omega))) | (apply ef_gy; exact rfl; (first | exact (rfl : true = true) | exact (rfl : false = false))) | (apply ef_pick; (iterate 3 exact rfl)) | (apply ef_len; exact rfl; exact rfl; (assumption)) | (apply ef_ldp; exact rfl; exact rfl; (exact rfl); exact rfl; (exact rfl); (exact rfl)) | (apply ef_fap; exact rfl; exact rfl) | (apply ef_notT; exact rfl; exact rfl) | (apply ef_box; (iterate 4 exact rfl)) | (apply ef_mf; exact rfl; (repeat (apply XVs.cons; exact rfl)); exact XVs.nil) | apply ef_nil | apply seqQ.normal | apply ef_skip | (apply ef_condf; exact rfl; (exact (rfl : false = false))) | (apply ef_call; exact rfl; ((repeat (apply XVs.cons; exact rfl)); exact XVs.nil); (with_reducible first | exact hw1 _ | exact hw2 _ | exact hw3 _ | exact hw4 _ | exact hw5 _ | exact hw6 _)))
      all_goals (apply ef_call; (· exact rfl); (· ((repeat (apply XVs.cons; exact rfl)); exact XVs.nil)); · exact hc)
      all_goals repeat (first | apply ef_seq | (apply ef_mv; exact rfl; exact rfl) | (apply ef_gy; exact rfl; (exact (rfl : true = true))) | (apply ef_gn; exact rfl; (exact (rfl : false = false)); exact rfl) | (apply ef_pick; (iterate 3 exact rfl)) | (apply ef_ldr; exact rfl; exact rfl; (exact rfl)) | (apply ef_ldp; exact rfl; exact rfl; (exact rfl); exact rfl; (exact rfl); (exact rfl)) | (apply ef_ias; (iterate 3 exact rfl); (omega); assumption; exact rfl) | (apply ef_fap; exact rfl; exact rfl) | (apply ef_far; exact rfl; exact rfl) | (apply ef_notT; exact rfl; exact rfl) | (apply ef_notF; exact rfl; exact rfl) | (apply ef_not; (iterate 3 exact rfl)) | (apply ef_bsl; exact rfl; (repeat (apply XVs.cons; exact rfl)); exact XVs.nil; exact rfl) | apply ef_nil | apply seqQ.normal | apply ef_ret | (apply ef_call; exact rfl; ((repeat (apply XVs.cons; exact rfl)); exact XVs.nil); (with_reducible exact hun _ _ _)) | (apply ef_call; exact rfl; ((repeat (apply XVs.cons; exact rfl)); exact XVs.nil); (with_reducible apply first3_c); (iterate 3 exact rfl); (exact rfl)))
      all_goals (refine fin1 rfl (by exact rfl) rfl ?_)
      all_goals (rw [HE.out]; rfl)
end Go.Proofs.YtfchdbghjeophaaGreatDoor

/- The contract of the program's check of a net. -/
namespace Go.Proofs.YtfchdbghjeophaaGreatDoor
open Go.RowKit
set_option linter.unusedVariables false
set_option linter.unusedSimpArgs false
structure BdN (n : Nt) : Prop where
 b1 : n.ls.length ≤ 100
 b2 : n.cs.length ≤ 100
 b3 : ∀ l ∈ n.ls, l.1.size ≤ 1000
theorem take_sl {α : Type} (f : α → MV) (xs : List α) (i : Nat) : (((xs.map f).drop (0 : Int).toNat).take (((i : Nat) : Int) - 0).toNat) = (xs.take i).map f := by
 simp
theorem mf_CheckNet : MT.mf 68 = some mfW_l68 := mfW_q68
set_option maxHeartbeats 2000000 in
theorem CheckNet_z (k : Nat) (n : Nt) (hb : BdN n) : runZ MT (orA (k + 4)) (itA (k + 4)) 4000000 68 [encN n] [] = some (.tup [I64 (netF n).1, I64 (netF n).2], []) := by
 obtain ⟨b1, b2, b3⟩ := hb
 have hs1 : (MV.sl (n.ls.map encLn)).slen = some n.ls.length := by simp [MV.slen]
 have hs2 : (MV.sl (n.cs.map encCr)).slen = some n.cs.length := by simp [MV.slen]
 have hun := fun b e h => unless_c (k + 3) b e h rfl
 have hall1 : (n.ls.map encLn).all (fun e => e.cells.length == 2) = true := by
  rw [List.all_eq_true]; intro m hm; obtain ⟨l, _, rfl⟩ := List.mem_map.1 hm; rfl
 have hall2 : (n.cs.map encCr).all (fun e => e.cells.length == 6) = true := by
  rw [List.all_eq_true]; intro m hm; obtain ⟨l, _, rfl⟩ := List.mem_map.1 hm; rfl
 refine runZ_of mf_CheckNet (by simp) ?_
 simp only [argsL]
 by_cases h0 : n.ls.length = 0
 ·have HF := Lib.hid (show netF n = (0, 10) by unfold netF; rw [if_pos h0])
  repeat (first | apply ef_seq | (apply ef_mv; exact rfl; exact rfl) | (apply ef_bin; (iterate 3 exact rfl); (first | exact cmp_t rfl (by first | exact rfl | (simp only [cmpP]; omega)) | exact cmp_f rfl (by simp only [cmpP]; omega) | exact rfl)) | (apply ef_gy; exact rfl; (exact (rfl : true = true))) | (apply ef_pick; (iterate 3 exact rfl)) | (apply ef_len; exact rfl; exact rfl; (assumption)) | (apply ef_ldp; exact rfl; exact rfl; (exact rfl); exact rfl; (exact rfl); (exact rfl)) | (apply ef_fap; exact rfl; exact rfl) | (apply ef_box; (iterate 4 exact rfl)) | (apply ef_bsl; exact rfl; (repeat (apply XVs.cons; exact rfl)); exact XVs.nil; exact rfl) | apply ef_nil | apply seqQ.normal | apply ef_ret | apply seqQ.ret | (apply ef_condt; exact rfl; (exact (rfl : true = true))) | (apply ef_call; exact rfl; ((repeat (apply XVs.cons; exact rfl)); exact XVs.nil); (with_reducible exact hun _ _ _)) | (apply ef_call; exact rfl; ((repeat (apply XVs.cons; exact rfl)); exact XVs.nil); (with_reducible apply first2_c); (iterate 3 exact rfl); (exact rfl)))
  (apply fin2; (· exact rfl); (· exact rfl); (· exact rfl); (· rw [HF.out]; first | rfl | (simp [firstE, unl])))
 ·by_cases h1 : 8 < n.ls.length ∨ 16 < n.cs.length
  ·have HF := Lib.hid (show netF n = (0, 8) by unfold netF; rw [if_neg h0, if_pos h1])
   by_cases h2 : n.ls.length ≤ 8
   ·repeat (first | apply ef_seq | (apply ef_mv; exact rfl; exact rfl) | (apply ef_bin; (iterate 3 exact rfl); (first | exact cmp_t rfl (by first | exact rfl | (simp only [cmpP]; omega)) | exact cmp_f rfl (by simp only [cmpP]; omega) | exact rfl)) | (apply ef_gy; exact rfl; (exact (rfl : true = true))) | (apply ef_pick; (iterate 3 exact rfl)) | (apply ef_len; exact rfl; exact rfl; (assumption)) | (apply ef_ldp; exact rfl; exact rfl; (exact rfl); exact rfl; (exact rfl); (exact rfl)) | (apply ef_fap; exact rfl; exact rfl) | (apply ef_box; (iterate 4 exact rfl)) | (apply ef_bsl; exact rfl; (repeat (apply XVs.cons; exact rfl)); exact XVs.nil; exact rfl) | apply ef_nil | apply seqQ.normal | apply ef_ret | apply seqQ.ret | (apply ef_condt; exact rfl; (exact (rfl : true = true))) | (apply ef_call; exact rfl; ((repeat (apply XVs.cons; exact rfl)); exact XVs.nil); (with_reducible exact hun _ _ _)) | (apply ef_call; exact rfl; ((repeat (apply XVs.cons; exact rfl)); exact XVs.nil); (with_reducible apply first2_c); (iterate 3 exact rfl); (exact rfl)))
    (apply fin2; (· exact rfl); (· exact rfl); (· exact rfl); (· rw [HF.out]; first | rfl | (simp [firstE, unl])))
   ·repeat (first | apply ef_seq | (apply ef_mv; exact rfl; exact rfl) | (apply ef_bin; (iterate 3 exact rfl); (first | exact cmp_t rfl (by first | exact rfl | (simp only [cmpP]; omega)) | exact cmp_f rfl (by simp only [cmpP]; omega) | exact rfl)) | (apply ef_gn; exact rfl; (exact (rfl : false = false)); exact rfl) | (apply ef_pick; (iterate 3 exact rfl)) | (apply ef_len; exact rfl; exact rfl; (assumption)) | (apply ef_ldp; exact rfl; exact rfl; (exact rfl); exact rfl; (exact rfl); (exact rfl)) | (apply ef_fap; exact rfl; exact rfl) | (apply ef_box; (iterate 4 exact rfl)) | (apply ef_bsl; exact rfl; (repeat (apply XVs.cons; exact rfl)); exact XVs.nil; exact rfl) | apply ef_nil | apply seqQ.normal | apply ef_ret | apply seqQ.ret | (apply ef_condt; exact rfl; (exact (rfl : true = true))) | (apply ef_call; exact rfl; ((repeat (apply XVs.cons; exact rfl)); exact XVs.nil); (with_reducible exact hun _ _ _)) | (apply ef_call; exact rfl; ((repeat (apply XVs.cons; exact rfl)); exact XVs.nil); (with_reducible apply first2_c); (iterate 3 exact rfl); (exact rfl)))
    (apply fin2; (· exact rfl); (· exact rfl); (· exact rfl); (· rw [HF.out]; first | rfl | (simp [firstE, unl])))
  ·have HF := Lib.hid (show netF n = if (scanE lineE [] n.ls).2 = 0 then scanE (crossE n.ls) [] n.cs else scanE lineE [] n.ls by unfold netF; rw [if_neg h0, if_neg h1])
   repeat (first | apply ef_seq | (apply ef_mv; exact rfl; exact rfl) | (apply ef_bin; (iterate 3 exact rfl); (first | exact cmp_t rfl (by first | exact rfl | (simp only [cmpP]; omega)) | exact rfl)) | (apply ef_gy; exact rfl; (exact (rfl : true = true))) | (apply ef_pick; (iterate 3 exact rfl)) | (apply ef_len; exact rfl; exact rfl; (assumption)) | (apply ef_ldp; exact rfl; exact rfl; (exact rfl); exact rfl; (exact rfl); (exact rfl)) | (apply ef_fap; exact rfl; exact rfl) | (apply ef_box; (iterate 4 exact rfl)) | (apply ef_bsl; exact rfl; (repeat (apply XVs.cons; exact rfl)); exact XVs.nil; exact rfl) | apply ef_nil | apply seqQ.normal | apply ef_block | apply ef_skip | (apply ef_condf; exact rfl; (exact (rfl : false = false))) | (apply ef_call; exact rfl; ((repeat (apply XVs.cons; exact rfl)); exact XVs.nil); (with_reducible exact hun _ _ _)) | (apply ef_call; exact rfl; ((repeat (apply XVs.cons; exact rfl)); exact XVs.nil); (with_reducible apply first2_c); (iterate 3 exact rfl); (exact rfl)))
   refine ef_loopf (α := Nat) (fun i => i ≤ n.ls.length ∧ scanE lineE [] n.ls = scanE lineE (n.ls.take i) (n.ls.drop i)) (fun i => [(38, I64 (i : Int))]) [(37, I64 (n.ls.length : Int)), (36, .sl (n.ls.map encLn)), (1, .ptr 0 0 0 0)] (fun _ => [⟨0, false, 2, [encN n]⟩, ⟨0, false, 1, [I64 0, I64 0]⟩]) (fun i => n.ls.length - i) 0 [38] (fun _ => rfl) (by ((repeat (refine Hold.cons (by exact rfl) ?_)); exact Hold.nil)) (by ((repeat (refine Hold.cons (by exact rfl) ?_)); exact Hold.nil)) rfl rfl ⟨by omega, by simp⟩ (by simp; omega) ?_
   rintro i ⟨hi, hz⟩
   try simp only at hi hz ⊢
   by_cases hlt : i < n.ls.length
   ·have e1 := at_map encLn n.ls i hlt
    have hsz := b3 n.ls[i] (List.getElem_mem hlt)
    have HS0 := fun h0 => Lib.hid (scanE_step (f := lineE) hlt h0)
    have HS1 := fun h0 => Lib.hid (scanE_bad (f := lineE) hlt h0)
    have HZ := Lib.hid hz
    clear hz
    generalize n.ls[i] = l at e1 hsz HS0 HS1
    have hnm := fun h => isName_c (k + 2) l.1 hsz h
    obtain ⟨kn, hkn⟩ : ∃ b, (n.ls.take i).any (fun o => o.1 == l.1) = b := ⟨_, rfl⟩
    have hcf := ContainsFuncL_c (k + 2) 106 [.rp (encLn l) 0] (fun o => o.1 == l.1) (n.ls.take i) [⟨0, false, 2, [encN n]⟩, ⟨0, false, 1, [I64 0, I64 0]⟩, ⟨0, false, 2, [encLn l]⟩] (v := .sl ((n.ls.take i).map encLn)) (fv := .fn 106 0 [.ptr 2 0 0 0]) (by simp; omega) (fun o _ h => CheckNet1_c (k + 1) o l h) rfl (frz_sl (ltL_Ln 0 _)) (by simp [frz, MV.lt, ltL]) hkn
    obtain ⟨e, he⟩ : ∃ e, firstE [unl (nmB l.1) 4, unl (!kn) 5] = e := ⟨_, rfl⟩
    have hle : lineE (n.ls.take i) l = e := by unfold lineE; rw [hkn]; exact he
    rw [hle] at HS0 HS1
    clear hle hkn
    by_cases he0 : e = 0
    ·have HS := HS0 he0
     clear HS0 HS1
     repeat (first | apply ef_seq | (apply ef_mv; exact rfl; exact rfl) | (apply ef_bin; (iterate 3 exact rfl); (exact cmp_t rfl (by first | exact rfl | (simp only [cmpP]; omega)))) | (apply ef_ldr; exact rfl; exact rfl; (exact rd_2 rfl rfl)) | (apply ef_ldp; exact rfl; exact rfl; (exact rfl); exact rfl; (exact rfl); (exact rfl)) | (apply ef_ias; (iterate 3 exact rfl); (omega); assumption; exact rfl) | (apply ef_fap; exact rfl; exact rfl) | (apply ef_new; exact rfl) | (apply ef_st; (iterate 6 exact rfl); (exact rfl); exact rfl) | apply ef_nil | apply seqQ.normal | apply ef_block | apply ef_skip | (apply ef_condt; exact rfl; (exact (rfl : true = true))))
     (apply ef_slcs; (· exact rfl); (· exact rfl); (· exact rfl); (· exact rfl); (· (simp; omega)); (· exact hall1))
     rw [take_sl]
     repeat (first | (apply ef_mf; exact rfl; (repeat (apply XVs.cons; exact rfl)); exact XVs.nil))
     (apply ef_call; (· exact rfl); (· ((repeat (apply XVs.cons; exact rfl)); exact XVs.nil)); · exact hcf)
     repeat (first | apply ef_seq | (apply ef_mv; exact rfl; exact rfl) | (apply ef_bin; (iterate 3 exact rfl); (first | exact cmp_f rfl (by simp only [cmpP]; omega) | ((with_reducible refine bin_add (wrap_of ?_ ?_)) <;> omega))) | (apply ef_ldp; exact rfl; exact rfl; (exact rfl); exact rfl; (exact rfl); (exact rfl)) | (apply ef_fap; exact rfl; exact rfl) | (apply ef_not; (iterate 3 exact rfl)) | (apply ef_bsl; exact rfl; (repeat (apply XVs.cons; exact rfl)); exact XVs.nil; exact rfl) | apply ef_nil | apply seqQ.normal | apply blockQ.normal | apply ef_skip | (apply ef_condf; exact rfl; (exact (rfl : false = false))) | (apply ef_call; exact rfl; ((repeat (apply XVs.cons; exact rfl)); exact XVs.nil); (with_reducible first | exact hnm _ | exact hun _ _ _)) | (apply ef_call; exact rfl; ((repeat (apply XVs.cons; exact rfl)); exact XVs.nil); (with_reducible apply first2_c); (iterate 3 exact rfl); (assumption)))
     (refine loopQ.normal _ _ ⟨i + 1, ⟨hlt, by rw [HZ.out, HS.out]⟩, (by first | (simp only; omega) | omega), ⟨by ((repeat (refine Hold.cons (by exact rfl) ?_)); exact Hold.nil), by ((repeat (refine Hold.cons (by exact rfl) ?_)); exact Hold.nil)⟩, .inr ⟨by ((repeat (refine hdl_cons rfl (by first | rfl | (simp [MV.lt, ltL, ltL_Ln, ltL_Cr])) ?_)); exact hdl_nil), by first | rfl | (simp [hltL, ltL, MV.lt, ltL, ltL_Ln, ltL_Cr])⟩, by first | exact rfl | (simp only [List.map_append, List.map_set]; exact rfl)⟩)
    ·have HS := HS1 he0
     clear HS0 HS1
     repeat (first | apply ef_seq | (apply ef_mv; exact rfl; exact rfl) | (apply ef_bin; (iterate 3 exact rfl); (exact cmp_t rfl (by first | exact rfl | (simp only [cmpP]; omega)))) | (apply ef_ldr; exact rfl; exact rfl; (exact rd_2 rfl rfl)) | (apply ef_ldp; exact rfl; exact rfl; (exact rfl); exact rfl; (exact rfl); (exact rfl)) | (apply ef_ias; (iterate 3 exact rfl); (omega); assumption; exact rfl) | (apply ef_fap; exact rfl; exact rfl) | (apply ef_new; exact rfl) | (apply ef_st; (iterate 6 exact rfl); (exact rfl); exact rfl) | apply ef_nil | apply seqQ.normal | apply ef_block | apply ef_skip | (apply ef_condt; exact rfl; (exact (rfl : true = true))))
     (apply ef_slcs; (· exact rfl); (· exact rfl); (· exact rfl); (· exact rfl); (· (simp; omega)); (· exact hall1))
     rw [take_sl]
     repeat (first | (apply ef_mf; exact rfl; (repeat (apply XVs.cons; exact rfl)); exact XVs.nil))
     (apply ef_call; (· exact rfl); (· ((repeat (apply XVs.cons; exact rfl)); exact XVs.nil)); · exact hcf)
     repeat (first | apply ef_seq | (apply ef_mv; exact rfl; exact rfl) | (apply ef_bin; (iterate 3 exact rfl); (exact cmp_t rfl (by first | exact rfl | (simp only [cmpP]; omega)))) | (apply ef_ldp; exact rfl; exact rfl; (exact rfl); exact rfl; (exact rfl); (exact rfl)) | (apply ef_fap; exact rfl; exact rfl) | (apply ef_not; (iterate 3 exact rfl)) | (apply ef_bsl; exact rfl; (repeat (apply XVs.cons; exact rfl)); exact XVs.nil; exact rfl) | apply ef_nil | apply seqQ.normal | apply loopQ.ret | apply ef_ret | apply seqQ.ret | apply blockQ.ret | (apply ef_condt; exact rfl; (exact (rfl : true = true))) | (apply ef_call; exact rfl; ((repeat (apply XVs.cons; exact rfl)); exact XVs.nil); (with_reducible first | exact hnm _ | exact hun _ _ _)) | (apply ef_call; exact rfl; ((repeat (apply XVs.cons; exact rfl)); exact XVs.nil); (with_reducible apply first2_c); (iterate 3 exact rfl); (assumption)))
     (apply fin2; (· exact rfl); (· exact rfl); (· exact rfl); (· rw [HF.out, HZ.out, HS.out, if_neg he0]))
   ·have hsc : scanE lineE [] n.ls = (0, 0) := by rw [hz, List.drop_eq_nil_of_le (by omega), scanE_nil]
    have HF := Lib.hid (show netF n = scanE (crossE n.ls) [] n.cs by rw [HF.out, hsc, if_pos rfl])
    clear hz hsc
    repeat (first | apply ef_seq | (apply ef_mv; exact rfl; exact rfl) | (apply ef_bin; (iterate 3 exact rfl); (exact cmp_f rfl (by simp only [cmpP]; omega))) | (apply ef_len; exact rfl; exact rfl; (assumption)) | (apply ef_ldp; exact rfl; exact rfl; (exact rfl); exact rfl; (exact rfl); (exact rfl)) | (apply ef_fap; exact rfl; exact rfl) | apply ef_nil | apply seqQ.normal | apply loopQ.exit | apply ef_exit | apply seqQ.exit | apply blockQ.here | apply ef_block | (apply ef_condf; exact rfl; (exact (rfl : false = false))))
    refine ef_loopf (α := Nat) (fun i => i ≤ n.cs.length ∧ scanE (crossE n.ls) [] n.cs = scanE (crossE n.ls) (n.cs.take i) (n.cs.drop i)) (fun i => [(66, I64 (i : Int))]) [(65, I64 (n.cs.length : Int)), (64, .sl (n.cs.map encCr)), (1, .ptr 0 0 0 0)] (fun _ => [⟨0, false, 2, [encN n]⟩, ⟨0, false, 1, [I64 0, I64 0]⟩]) (fun i => n.cs.length - i) 0 [66] (fun _ => rfl) (by ((repeat (refine Hold.cons (by exact rfl) ?_)); exact Hold.nil)) (by ((repeat (refine Hold.cons (by exact rfl) ?_)); exact Hold.nil)) rfl rfl ⟨by omega, by simp⟩ (by simp; omega) ?_
    rintro i ⟨hi, hz⟩
    try simp only at hi hz ⊢
    by_cases hlt : i < n.cs.length
    ·have e1 := at_map encCr n.cs i hlt
     have HS0 := fun h0 => Lib.hid (scanE_step (f := crossE n.ls) hlt h0)
     have HS1 := fun h0 => Lib.hid (scanE_bad (f := crossE n.ls) hlt h0)
     have HZ := Lib.hid hz
     clear hz
     generalize n.cs[i] = c at e1 HS0 HS1
     have hce := fun h => crossingErr_c k n.ls (n.cs.take i) c h (by omega) (by simp; omega)
     generalize crossE n.ls (n.cs.take i) c = e at hce HS0 HS1
     by_cases he0 : e = 0
     ·have HS := HS0 he0
      clear HS0 HS1
      repeat (first | apply ef_seq | (apply ef_mv; exact rfl; exact rfl) | (apply ef_bin; (iterate 3 exact rfl); (exact cmp_t rfl (by first | exact rfl | (simp only [cmpP]; omega)))) | (apply ef_ldr; exact rfl; exact rfl; (exact rd_6 rfl rfl rfl rfl rfl rfl)) | (apply ef_ldp; exact rfl; exact rfl; (exact rfl); exact rfl; (exact rfl); (exact rfl)) | (apply ef_ias; (iterate 3 exact rfl); (omega); assumption; exact rfl) | (apply ef_fap; exact rfl; exact rfl) | (apply ef_new; exact rfl) | (apply ef_st; (iterate 6 exact rfl); (exact rfl); exact rfl) | apply ef_nil | apply seqQ.normal | apply ef_block | apply ef_skip | (apply ef_condt; exact rfl; (exact (rfl : true = true))))
      (apply ef_slcs; (· exact rfl); (· exact rfl); (· exact rfl); (· exact rfl); (· (simp; omega)); (· exact hall2))
      rw [take_sl]
      repeat (first | apply ef_seq | (apply ef_mv; exact rfl; exact rfl) | (apply ef_bin; (iterate 3 exact rfl); (first | exact cmp_f rfl (by simp only [cmpP]; omega) | ((with_reducible refine bin_add (wrap_of ?_ ?_)) <;> omega))) | (apply ef_ldp; exact rfl; exact rfl; (exact rfl); exact rfl; (exact rfl); (exact rd_6 rfl rfl rfl rfl rfl rfl)) | apply ef_nil | apply seqQ.normal | apply blockQ.normal | apply ef_skip | (apply ef_condf; exact rfl; (exact (rfl : false = false))) | (apply ef_call; exact rfl; ((repeat (apply XVs.cons; exact rfl)); exact XVs.nil); (with_reducible exact hce _)))
      (refine loopQ.normal _ _ ⟨i + 1, ⟨hlt, by rw [HZ.out, HS.out]⟩, (by first | (simp only; omega) | omega), ⟨by ((repeat (refine Hold.cons (by exact rfl) ?_)); exact Hold.nil), by ((repeat (refine Hold.cons (by exact rfl) ?_)); exact Hold.nil)⟩, .inr ⟨by ((repeat (refine hdl_cons rfl (by first | rfl | (simp [MV.lt, ltL, ltL_Ln, ltL_Cr])) ?_)); exact hdl_nil), by first | rfl | (simp [hltL, ltL, MV.lt, ltL, ltL_Ln, ltL_Cr])⟩, by first | exact rfl | (simp only [List.map_append, List.map_set]; exact rfl)⟩)
     ·have HS := HS1 he0
      clear HS0 HS1
      repeat (first | apply ef_seq | (apply ef_mv; exact rfl; exact rfl) | (apply ef_bin; (iterate 3 exact rfl); (exact cmp_t rfl (by first | exact rfl | (simp only [cmpP]; omega)))) | (apply ef_ldr; exact rfl; exact rfl; (exact rd_6 rfl rfl rfl rfl rfl rfl)) | (apply ef_ldp; exact rfl; exact rfl; (exact rfl); exact rfl; (exact rfl); (exact rfl)) | (apply ef_ias; (iterate 3 exact rfl); (omega); assumption; exact rfl) | (apply ef_fap; exact rfl; exact rfl) | (apply ef_new; exact rfl) | (apply ef_st; (iterate 6 exact rfl); (exact rfl); exact rfl) | apply ef_nil | apply seqQ.normal | apply ef_block | apply ef_skip | (apply ef_condt; exact rfl; (exact (rfl : true = true))))
      (apply ef_slcs; (· exact rfl); (· exact rfl); (· exact rfl); (· exact rfl); (· (simp; omega)); (· exact hall2))
      rw [take_sl]
      repeat (first | apply ef_seq | (apply ef_mv; exact rfl; exact rfl) | (apply ef_bin; (iterate 3 exact rfl); (exact cmp_t rfl (by first | exact rfl | (simp only [cmpP]; omega)))) | (apply ef_ldp; exact rfl; exact rfl; (exact rfl); exact rfl; (exact rfl); (exact rd_6 rfl rfl rfl rfl rfl rfl)) | apply ef_nil | apply seqQ.normal | apply loopQ.ret | apply ef_ret | apply seqQ.ret | apply blockQ.ret | (apply ef_condt; exact rfl; (exact (rfl : true = true))) | (apply ef_call; exact rfl; ((repeat (apply XVs.cons; exact rfl)); exact XVs.nil); (with_reducible exact hce _)))
      (apply fin2; (· exact rfl); (· exact rfl); (· exact rfl); (· rw [HF.out, HZ.out, HS.out]))
    ·have HF := Lib.hid (show netF n = (0, 0) by rw [HF.out, hz, List.drop_eq_nil_of_le (by omega), scanE_nil])
     repeat (first | apply ef_seq | (apply ef_mv; exact rfl; exact rfl) | (apply ef_bin; (iterate 3 exact rfl); (exact cmp_f rfl (by simp only [cmpP]; omega))) | apply ef_nil | apply seqQ.normal | apply loopQ.exit | apply ef_ret | apply ef_exit | apply seqQ.exit | apply blockQ.here | (apply ef_condf; exact rfl; (exact (rfl : false = false))))
     (apply fin2; (· exact rfl); (· exact rfl); (· exact rfl); (· rw [HF.out]))
theorem CheckNet_c (k : Nat) (n : Nt) (hb : BdN n) (h : MHeap) : orA (k + 5) 68 [encN n] h = some (.tup [I64 (netF n).1, I64 (netF n).2], h) :=
 callTT (args' := [encN n]) (frzL_lt (by simp [ltL, MV.lt, ltL_Ln, ltL_Cr])) rfl (CheckNet_z k n hb)
end Go.Proofs.YtfchdbghjeophaaGreatDoor

/- Contracts: the reference's check of a net. -/
namespace Go.Proofs.YtfchdbghjeophaaGreatDoor
open Go.RowKit
set_option linter.unusedVariables false
abbrev encS (s : ByteArray) : MV := .lit (.string s)
theorem ltL_S (n : Nat) (ls : List ByteArray) : ltL n (ls.map encS) = true := ltL_lits (fun _ => rfl) ls
theorem mf_bIsName : MT.mf 90 = some ⟨55, [(.tmp 2)], (.seq (.reg [gO 2 (.mv cF)]) (.seq (.seq (.reg [gO 6 (.mv (.s 0)), gO 7 (.sln (.s 6)), gO 8 (.bin .lss (.s 7) (cI 1)), gO 9 (.mv (.s 8)), ⟨some (9, false), some 10, .mv (.s 0)⟩, ⟨some (9, false), some 11, .sln (.s 10)⟩, ⟨some (9, false), some 12, .bin .gtr (.s 11) (cI 12)⟩, gO 13 (.pick (.s 9) cT (.s 12))]) (.cond (.s 13) (.seq (.reg [gO 2 (.mv cF)]) .ret) .skip)) (.seq (.seq (.reg [gO 3 (.mv (cI 0))]) (.block 0 (.loop [3, 0] (.seq (.seq (.reg [gO 14 (.mv (.s 3)), gO 15 (.mv (.s 0)), gO 16 (.sln (.s 15)), gO 17 (.bin .lss (.s 14) (.s 16))]) (.cond (.s 17) .skip (.exit 0))) (.seq (.block 1 (.seq (.reg [gO 20 (.mv (.s 0)), gO 21 (.mv (.s 3)), gO 22 (.sx (.s 20) (.s 21)), gO 4 (.mv (.s 22))]) (.seq (.reg [gO 23 (.mv (.s 4)), gO 24 (.bin .geq (.s 23) (.c (.lit (.int .u8 97)))), gO 25 (.mv (.s 24)), ⟨some (25, true), some 26, .mv (.s 4)⟩, ⟨some (25, true), some 27, .bin .leq (.s 26) (.c (.lit (.int .u8 122)))⟩, gO 28 (.pick (.s 25) (.s 27) cF), gO 29 (.mv (.s 28)), ⟨some (29, false), some 30, .mv (.s 4)⟩, ⟨some (29, false), some 31, .bin .geq (.s 30) (.c (.lit (.int .u8 65)))⟩, ⟨some (29, false), some 32, .mv (.s 31)⟩, ⟨some (32, true), some 33, .mv (.s 4)⟩, ⟨some (32, true), some 34, .bin .leq (.s 33) (.c (.lit (.int .u8 90)))⟩, ⟨some (29, false), some 35, .pick (.s 32) (.s 34) cF⟩, gO 36 (.pick (.s 29) cT (.s 35)), gO 5 (.mv (.s 36))]) (.seq (.reg [gO 37 (.mv (.s 5)), gO 38 (.un .not (.s 37)), gO 39 (.mv (.s 38)), ⟨some (39, true), some 40, .mv (.s 3)⟩, ⟨some (39, true), some 41, .bin .eql (.s 40) (cI 0)⟩, ⟨some (39, true), some 42, .mv (.s 41)⟩, ⟨some (42, false), some 43, .mv (.s 4)⟩, ⟨some (42, false), some 44, .bin .neq (.s 43) (.c (.lit (.int .u8 45)))⟩, ⟨some (42, false), some 45, .mv (.s 44)⟩, ⟨some (45, true), some 46, .mv (.s 4)⟩, ⟨some (45, true), some 47, .bin .lss (.s 46) (.c (.lit (.int .u8 48)))⟩, ⟨some (45, true), some 48, .mv (.s 47)⟩, ⟨some (48, false), some 49, .mv (.s 4)⟩, ⟨some (48, false), some 50, .bin .gtr (.s 49) (.c (.lit (.int .u8 57)))⟩, ⟨some (45, true), some 51, .pick (.s 48) cT (.s 50)⟩, ⟨some (42, false), some 52, .pick (.s 45) (.s 51) cF⟩, ⟨some (39, true), some 53, .pick (.s 42) cT (.s 52)⟩, gO 54 (.pick (.s 39) (.s 53) cF)]) (.cond (.s 54) (.seq (.reg [gO 2 (.mv cF)]) .ret) .skip))))) (.reg [gO 18 (.mv (.s 3)), gO 19 (.bin .add (.s 18) (cI 1)), gO 3 (.mv (.s 19))])))))) (.seq (.reg [gO 2 (.mv cT)]) .ret))))⟩ := by kernel_rfl
set_option maxHeartbeats 1000000 in
theorem bIsName_z (k : Nat) (s : ByteArray) (hs : s.size ≤ 1000) : runZ MT (orA k) (itA k) 4000000 90 [.lit (.string s)] [] = some (Bo (nmB s), []) := by
 obtain ⟨bs, hbs⟩ : ∃ bs, s.data.toList = bs := ⟨_, rfl⟩
 have hbl : bs.length = s.size := by rw [← hbs, Array.length_toList]; rfl
 have HNM := Lib.hid (show nmB s = (allNb 0 bs && inB s.size 1 12) by rw [← hbs]; rfl)
 refine runZ_of mf_bIsName (by simp) ?_
 simp only [argsL]
 by_cases h1 : s.size < 1
 ·repeat (first | apply ef_seq | (apply ef_mv; exact rfl; exact rfl) | (apply ef_bin; (iterate 3 exact rfl); (exact cmp_t rfl (by first | exact rfl | (simp only [cmpP]; omega)))) | (apply ef_gn; exact rfl; (exact (rfl : true = true)); exact rfl) | (apply ef_pick; (iterate 3 exact rfl)) | (apply ef_sln; exact rfl; exact rfl) | apply ef_nil | apply seqQ.normal | apply ef_ret | apply seqQ.ret | (apply ef_condt; exact rfl; (exact (rfl : true = true))))
  (refine fin1 rfl (by exact rfl) rfl ?_)
  rw [HNM.out, inB_not.2 (by omega)]; simp
 ·by_cases h2 : s.size > 12
  ·repeat (first | apply ef_seq | (apply ef_mv; exact rfl; exact rfl) | (apply ef_bin; (iterate 3 exact rfl); (first | exact cmp_t rfl (by first | exact rfl | (simp only [cmpP]; omega)) | exact cmp_f rfl (by simp only [cmpP]; omega))) | (apply ef_gy; exact rfl; (exact (rfl : false = false))) | (apply ef_pick; (iterate 3 exact rfl)) | (apply ef_sln; exact rfl; exact rfl) | apply ef_nil | apply seqQ.normal | apply ef_ret | apply seqQ.ret | (apply ef_condt; exact rfl; (exact (rfl : true = true))))
   (refine fin1 rfl (by exact rfl) rfl ?_)
   rw [HNM.out, inB_not.2 (by omega)]; simp
  ·repeat (first | apply ef_seq | (apply ef_mv; exact rfl; exact rfl) | (apply ef_bin; (iterate 3 exact rfl); (exact cmp_f rfl (by simp only [cmpP]; omega))) | (apply ef_gy; exact rfl; (exact (rfl : false = false))) | (apply ef_pick; (iterate 3 exact rfl)) | (apply ef_sln; exact rfl; exact rfl) | apply ef_nil | apply seqQ.normal | apply ef_block | apply ef_skip | (apply ef_condf; exact rfl; (exact (rfl : false = false))))
   refine ef_loopf (α := Nat) (fun i => i ≤ bs.length ∧ allNb 0 bs = allNb i (bs.drop i)) (fun i => [(3, I64 (i : Int))]) [(0, .lit (.string s))] (fun _ => []) (fun i => bs.length - i) 0 [3] (fun _ => rfl) (by ((repeat (refine Hold.cons (by exact rfl) ?_)); exact Hold.nil)) (by ((repeat (refine Hold.cons (by exact rfl) ?_)); exact Hold.nil)) rfl rfl ⟨by omega, rfl⟩ (by simp; omega) ?_
   rintro i ⟨hi, hz⟩
   try simp only at hi hz ⊢
   by_cases hlt : i < bs.length
   ·have e1 : s.data.toList[((i : Nat) : Int).toNat]? = some bs[i] := by rw [hbs, Int.toNat_natCast, List.getElem?_eq_getElem hlt]
    have HS := Lib.hid (allNb_step hlt)
    have HZ := Lib.hid hz
    clear hz
    generalize bs[i] = c at e1 HS
    have hc := c.toNat_lt
    have HB := Lib.hid (show nbB i c = (letB c || (decide (i ≠ 0) && (decide (c.toNat = 45) || (decide (48 ≤ c.toNat) && decide (c.toNat ≤ 57))))) from rfl)
    have hfin : nbB i c = false → RowKit.Hid (nmB s = false) := fun hn => Lib.hid (by rw [HNM.out, HZ.out, HS.out, hn]; simp)
    have hgo : nbB i c = true → RowKit.Hid (allNb 0 bs = allNb (i + 1) (bs.drop (i + 1))) := fun hn => Lib.hid (by rw [HZ.out, HS.out, hn]; simp)
    by_cases a1 : 97 ≤ c.toNat
    ·by_cases a2 : c.toNat ≤ 122
     ·have HG := hgo (by rw [HB.out]; simp [letB, a1, a2])
      clear hfin hgo
      repeat (first | apply ef_seq | (apply ef_mv; exact rfl; exact rfl) | (apply ef_bin; (iterate 3 exact rfl); (first | exact cmp_t rfl (by first | exact rfl | (simp only [cmpP]; omega)) | ((with_reducible refine bin_add (wrap_of ?_ ?_)) <;> omega))) | (apply ef_gy; exact rfl; (exact (rfl : true = true))) | (apply ef_gn; exact rfl; (first | exact (rfl : true = true) | exact (rfl : false = false)); exact rfl) | (apply ef_gu; exact rfl; exact rfl) | (apply ef_pick; (iterate 3 exact rfl)) | (apply ef_notT; exact rfl; exact rfl) | (apply ef_sx; (iterate 3 exact rfl); omega; (assumption)) | (apply ef_sln; exact rfl; exact rfl) | apply ef_nil | apply seqQ.normal | apply blockQ.normal | apply ef_block | apply ef_skip | (apply ef_condt; exact rfl; (exact (rfl : true = true))) | (apply ef_condf; exact rfl; (exact (rfl : false = false))))
      (refine loopQ.normal _ _ ⟨i + 1, ⟨hlt, HG.out⟩, (by first | (simp only; omega) | omega), ⟨by ((repeat (refine Hold.cons (by exact rfl) ?_)); exact Hold.nil), by ((repeat (refine Hold.cons (by exact rfl) ?_)); exact Hold.nil)⟩, .inl (Nat.le_refl _), (by first | exact List.take_length | exact rfl | exact takeF rfl rfl)⟩)
     ·have HG := hfin (by rw [HB.out]; simp [letB]; omega)
      clear hfin hgo
      by_cases h0 : i = 0
      ·repeat (first | apply ef_seq | (apply ef_mv; exact rfl; exact rfl) | (apply ef_bin; (iterate 3 exact rfl); (first | exact cmp_t rfl (by first | exact rfl | (simp only [cmpP]; omega)) | exact cmp_f rfl (by simp only [cmpP]; omega))) | (apply ef_gy; exact rfl; (first | exact (rfl : true = true) | exact (rfl : false = false))) | (apply ef_gn; exact rfl; (exact (rfl : true = true)); exact rfl) | (apply ef_gu; exact rfl; exact rfl) | (apply ef_pick; (iterate 3 exact rfl)) | (apply ef_notF; exact rfl; exact rfl) | (apply ef_sx; (iterate 3 exact rfl); omega; (assumption)) | (apply ef_sln; exact rfl; exact rfl) | apply ef_nil | apply seqQ.normal | apply loopQ.ret | apply ef_ret | apply seqQ.ret | apply blockQ.ret | apply ef_block | apply ef_skip | (apply ef_condt; exact rfl; (exact (rfl : true = true))))
       (refine fin1 rfl (by exact rfl) rfl ?_)
       rw [HG.out]
      ·repeat (first | apply ef_seq | (apply ef_mv; exact rfl; exact rfl) | (apply ef_bin; (iterate 3 exact rfl); (first | exact cmp_t rfl (by first | exact rfl | (simp only [cmpP]; omega)) | exact cmp_f rfl (by simp only [cmpP]; omega))) | (apply ef_gy; exact rfl; (first | exact (rfl : true = true) | exact (rfl : false = false))) | (apply ef_pick; (iterate 3 exact rfl)) | (apply ef_notF; exact rfl; exact rfl) | (apply ef_sx; (iterate 3 exact rfl); omega; (assumption)) | (apply ef_sln; exact rfl; exact rfl) | apply ef_nil | apply seqQ.normal | apply loopQ.ret | apply ef_ret | apply seqQ.ret | apply blockQ.ret | apply ef_block | apply ef_skip | (apply ef_condt; exact rfl; (exact (rfl : true = true))))
       (refine fin1 rfl (by exact rfl) rfl ?_)
       rw [HG.out]
    ·by_cases a3 : 65 ≤ c.toNat
     ·by_cases a4 : c.toNat ≤ 90
      ·have HG := hgo (by rw [HB.out]; simp [letB]; omega)
       clear hfin hgo
       repeat (first | apply ef_seq | (apply ef_mv; exact rfl; exact rfl) | (apply ef_bin; (iterate 3 exact rfl); (first | exact cmp_t rfl (by first | exact rfl | (simp only [cmpP]; omega)) | exact cmp_f rfl (by simp only [cmpP]; omega) | ((with_reducible refine bin_add (wrap_of ?_ ?_)) <;> omega))) | (apply ef_gy; exact rfl; (first | exact (rfl : true = true) | exact (rfl : false = false))) | (apply ef_gn; exact rfl; (exact (rfl : false = false)); exact rfl) | (apply ef_gu; exact rfl; exact rfl) | (apply ef_pick; (iterate 3 exact rfl)) | (apply ef_notT; exact rfl; exact rfl) | (apply ef_sx; (iterate 3 exact rfl); omega; (assumption)) | (apply ef_sln; exact rfl; exact rfl) | apply ef_nil | apply seqQ.normal | apply blockQ.normal | apply ef_block | apply ef_skip | (apply ef_condt; exact rfl; (exact (rfl : true = true))) | (apply ef_condf; exact rfl; (exact (rfl : false = false))))
       (refine loopQ.normal _ _ ⟨i + 1, ⟨hlt, HG.out⟩, (by first | (simp only; omega) | omega), ⟨by ((repeat (refine Hold.cons (by exact rfl) ?_)); exact Hold.nil), by ((repeat (refine Hold.cons (by exact rfl) ?_)); exact Hold.nil)⟩, .inl (Nat.le_refl _), (by first | exact List.take_length | exact rfl | exact takeF rfl rfl)⟩)
      ·have HG := hfin (by rw [HB.out]; simp [letB]; omega)
       clear hfin hgo
       by_cases h0 : i = 0
       ·repeat (first | apply ef_seq | (apply ef_mv; exact rfl; exact rfl) | (apply ef_bin; (iterate 3 exact rfl); (first | exact cmp_t rfl (by first | exact rfl | (simp only [cmpP]; omega)) | exact cmp_f rfl (by simp only [cmpP]; omega))) | (apply ef_gy; exact rfl; (first | exact (rfl : true = true) | exact (rfl : false = false))) | (apply ef_gn; exact rfl; (first | exact (rfl : true = true) | exact (rfl : false = false)); exact rfl) | (apply ef_gu; exact rfl; exact rfl) | (apply ef_pick; (iterate 3 exact rfl)) | (apply ef_notF; exact rfl; exact rfl) | (apply ef_sx; (iterate 3 exact rfl); omega; (assumption)) | (apply ef_sln; exact rfl; exact rfl) | apply ef_nil | apply seqQ.normal | apply loopQ.ret | apply ef_ret | apply seqQ.ret | apply blockQ.ret | apply ef_block | apply ef_skip | (apply ef_condt; exact rfl; (exact (rfl : true = true))))
        (refine fin1 rfl (by exact rfl) rfl ?_)
        rw [HG.out]
       ·repeat (first | apply ef_seq | (apply ef_mv; exact rfl; exact rfl) | (apply ef_bin; (iterate 3 exact rfl); (first | exact cmp_t rfl (by first | exact rfl | (simp only [cmpP]; omega)) | exact cmp_f rfl (by simp only [cmpP]; omega))) | (apply ef_gy; exact rfl; (first | exact (rfl : true = true) | exact (rfl : false = false))) | (apply ef_gn; exact rfl; (exact (rfl : false = false)); exact rfl) | (apply ef_pick; (iterate 3 exact rfl)) | (apply ef_notF; exact rfl; exact rfl) | (apply ef_sx; (iterate 3 exact rfl); omega; (assumption)) | (apply ef_sln; exact rfl; exact rfl) | apply ef_nil | apply seqQ.normal | apply loopQ.ret | apply ef_ret | apply seqQ.ret | apply blockQ.ret | apply ef_block | apply ef_skip | (apply ef_condt; exact rfl; (exact (rfl : true = true))))
        (refine fin1 rfl (by exact rfl) rfl ?_)
        rw [HG.out]
     ·by_cases h0 : i = 0
      ·have HG := hfin (by rw [HB.out]; simp [letB, h0]; omega)
       clear hfin hgo
       repeat (first | apply ef_seq | (apply ef_mv; exact rfl; exact rfl) | (apply ef_bin; (iterate 3 exact rfl); (first | exact cmp_t rfl (by first | exact rfl | (simp only [cmpP]; omega)) | exact cmp_f rfl (by simp only [cmpP]; omega))) | (apply ef_gy; exact rfl; (first | exact (rfl : true = true) | exact (rfl : false = false))) | (apply ef_gn; exact rfl; (first | exact (rfl : true = true) | exact (rfl : false = false)); exact rfl) | (apply ef_gu; exact rfl; exact rfl) | (apply ef_pick; (iterate 3 exact rfl)) | (apply ef_notF; exact rfl; exact rfl) | (apply ef_sx; (iterate 3 exact rfl); omega; (assumption)) | (apply ef_sln; exact rfl; exact rfl) | apply ef_nil | apply seqQ.normal | apply loopQ.ret | apply ef_ret | apply seqQ.ret | apply blockQ.ret | apply ef_block | apply ef_skip | (apply ef_condt; exact rfl; (exact (rfl : true = true))))
       (refine fin1 rfl (by exact rfl) rfl ?_)
       rw [HG.out]
      ·by_cases h45 : c.toNat = 45
       ·have HG := hgo (by rw [HB.out]; simp [h0, h45])
        clear hfin hgo
        repeat (first | apply ef_seq | (apply ef_mv; exact rfl; exact rfl) | (apply ef_bin; (iterate 3 exact rfl); (first | exact cmp_t rfl (by first | exact rfl | (simp only [cmpP]; omega)) | exact cmp_f rfl (by simp only [cmpP]; omega) | ((with_reducible refine bin_add (wrap_of ?_ ?_)) <;> omega))) | (apply ef_gy; exact rfl; (first | exact (rfl : true = true) | exact (rfl : false = false))) | (apply ef_gn; exact rfl; (exact (rfl : false = false)); exact rfl) | (apply ef_gu; exact rfl; exact rfl) | (apply ef_pick; (iterate 3 exact rfl)) | (apply ef_notF; exact rfl; exact rfl) | (apply ef_sx; (iterate 3 exact rfl); omega; (assumption)) | (apply ef_sln; exact rfl; exact rfl) | apply ef_nil | apply seqQ.normal | apply blockQ.normal | apply ef_block | apply ef_skip | (apply ef_condt; exact rfl; (exact (rfl : true = true))) | (apply ef_condf; exact rfl; (exact (rfl : false = false))))
        (refine loopQ.normal _ _ ⟨i + 1, ⟨hlt, HG.out⟩, (by first | (simp only; omega) | omega), ⟨by ((repeat (refine Hold.cons (by exact rfl) ?_)); exact Hold.nil), by ((repeat (refine Hold.cons (by exact rfl) ?_)); exact Hold.nil)⟩, .inl (Nat.le_refl _), (by first | exact List.take_length | exact rfl | exact takeF rfl rfl)⟩)
       ·by_cases d1 : c.toNat < 48
        ·have HG := hfin (by rw [HB.out]; simp [letB]; omega)
         clear hfin hgo
         repeat (first | apply ef_seq | (apply ef_mv; exact rfl; exact rfl) | (apply ef_bin; (iterate 3 exact rfl); (first | exact cmp_t rfl (by first | exact rfl | (simp only [cmpP]; omega)) | exact cmp_f rfl (by simp only [cmpP]; omega))) | (apply ef_gy; exact rfl; (first | exact (rfl : true = true) | exact (rfl : false = false))) | (apply ef_gn; exact rfl; (first | exact (rfl : true = true) | exact (rfl : false = false)); exact rfl) | (apply ef_pick; (iterate 3 exact rfl)) | (apply ef_notF; exact rfl; exact rfl) | (apply ef_sx; (iterate 3 exact rfl); omega; (assumption)) | (apply ef_sln; exact rfl; exact rfl) | apply ef_nil | apply seqQ.normal | apply loopQ.ret | apply ef_ret | apply seqQ.ret | apply blockQ.ret | apply ef_block | apply ef_skip | (apply ef_condt; exact rfl; (exact (rfl : true = true))))
         (refine fin1 rfl (by exact rfl) rfl ?_)
         rw [HG.out]
        ·by_cases d2 : 57 < c.toNat
         ·have HG := hfin (by rw [HB.out]; simp [letB]; omega)
          clear hfin hgo
          repeat (first | apply ef_seq | (apply ef_mv; exact rfl; exact rfl) | (apply ef_bin; (iterate 3 exact rfl); (first | exact cmp_t rfl (by first | exact rfl | (simp only [cmpP]; omega)) | exact cmp_f rfl (by simp only [cmpP]; omega))) | (apply ef_gy; exact rfl; (first | exact (rfl : true = true) | exact (rfl : false = false))) | (apply ef_gn; exact rfl; (exact (rfl : false = false)); exact rfl) | (apply ef_pick; (iterate 3 exact rfl)) | (apply ef_notF; exact rfl; exact rfl) | (apply ef_sx; (iterate 3 exact rfl); omega; (assumption)) | (apply ef_sln; exact rfl; exact rfl) | apply ef_nil | apply seqQ.normal | apply loopQ.ret | apply ef_ret | apply seqQ.ret | apply blockQ.ret | apply ef_block | apply ef_skip | (apply ef_condt; exact rfl; (exact (rfl : true = true))))
          (refine fin1 rfl (by exact rfl) rfl ?_)
          rw [HG.out]
         ·have HG := hgo (by rw [HB.out]; simp [letB]; omega)
          clear hfin hgo
          repeat (first | apply ef_seq | (apply ef_mv; exact rfl; exact rfl) | (apply ef_bin; (iterate 3 exact rfl); (first | exact cmp_t rfl (by first | exact rfl | (simp only [cmpP]; omega)) | exact cmp_f rfl (by simp only [cmpP]; omega) | ((with_reducible refine bin_add (wrap_of ?_ ?_)) <;> omega))) | (apply ef_gy; exact rfl; (first | exact (rfl : true = true) | exact (rfl : false = false))) | (apply ef_gn; exact rfl; (exact (rfl : false = false)); exact rfl) | (apply ef_pick; (iterate 3 exact rfl)) | (apply ef_notF; exact rfl; exact rfl) | (apply ef_sx; (iterate 3 exact rfl); omega; (assumption)) | (apply ef_sln; exact rfl; exact rfl) | apply ef_nil | apply seqQ.normal | apply blockQ.normal | apply ef_block | apply ef_skip | (apply ef_condt; exact rfl; (exact (rfl : true = true))) | (apply ef_condf; exact rfl; (exact (rfl : false = false))))
          (refine loopQ.normal _ _ ⟨i + 1, ⟨hlt, HG.out⟩, (by first | (simp only; omega) | omega), ⟨by ((repeat (refine Hold.cons (by exact rfl) ?_)); exact Hold.nil), by ((repeat (refine Hold.cons (by exact rfl) ?_)); exact Hold.nil)⟩, .inl (Nat.le_refl _), (by first | exact List.take_length | exact rfl | exact takeF rfl rfl)⟩)
   ·repeat (first | apply ef_seq | (apply ef_mv; exact rfl; exact rfl) | (apply ef_bin; (iterate 3 exact rfl); (exact cmp_f rfl (by simp only [cmpP]; omega))) | (apply ef_sln; exact rfl; exact rfl) | apply ef_nil | apply seqQ.normal | apply loopQ.exit | apply ef_ret | apply ef_exit | apply seqQ.exit | apply blockQ.here | (apply ef_condf; exact rfl; (exact (rfl : false = false))))
    (refine fin1 rfl (by exact rfl) rfl ?_)
    rw [HNM.out, hz, List.drop_eq_nil_of_le (by omega), inB_iff.2 (by omega)]; rfl
theorem bIsName_c (k : Nat) (s : ByteArray) (hs : s.size ≤ 1000) (h : MHeap) : orA (k + 1) 90 [.lit (.string s)] h = some (Bo (nmB s), h) :=
 callL (args' := [.lit (.string s)]) (frzL_lt rfl) rfl (bIsName_z k s hs)
theorem mf_HasText : MT.mf 91 = some ⟨18, [(.tmp 4)], (.seq (.reg [gO 4 (.mv cF)]) (.seq (.seq (.reg [gO 5 (.mv (cI 0))]) (.block 0 (.loop [5, 0, 1] (.seq (.seq (.reg [gO 6 (.mv (.s 5)), gO 7 (.mv (.s 0)), gO 8 (.len (.s 7)), gO 9 (.bin .lss (.s 6) (.s 8))]) (.cond (.s 9) .skip (.exit 0))) (.seq (.block 1 (.seq (.reg [gO 12 (.mv (.s 0)), gO 13 (.mv (.s 5)), gO 14 (.ia 1 (.s 12) (.s 13)), gO 15 (.ld none (.s 14)), gO 16 (.mv (.s 1)), gO 17 (.seq false (.s 15) (.s 16))]) (.cond (.s 17) (.seq (.reg [gO 4 (.mv cT)]) .ret) .skip))) (.reg [gO 10 (.mv (.s 5)), gO 11 (.bin .add (.s 10) (cI 1)), gO 5 (.mv (.s 11))])))))) (.seq (.reg [gO 4 (.mv cF)]) .ret)))⟩ := by kernel_rfl
theorem HasText_z (k : Nat) (xs : List ByteArray) (s : ByteArray) (hx : xs.length ≤ 1000) : runZ MT (orA k) (itA k) 4000000 91 [.sl (xs.map encS), encS s] [] = some (Bo (xs.any (· == s)), []) := by
 have hl : (MV.sl (xs.map encS)).slen = some xs.length := by simp [MV.slen]
 refine runZ_of mf_HasText (by simp) ?_
 simp only [argsL]
 repeat (first | apply ef_seq | (apply ef_mv; exact rfl; exact rfl) | apply ef_nil | apply seqQ.normal | apply ef_block)
 refine ef_loopf (α := Nat) (fun i => i ≤ xs.length ∧ xs.any (· == s) = (xs.drop i).any (· == s)) (fun i => [(5, I64 (i : Int))]) [(0, .sl (xs.map encS)), (1, encS s)] (fun _ => []) (fun i => xs.length - i) 0 [5] (fun _ => rfl) (by ((repeat (refine Hold.cons (by exact rfl) ?_)); exact Hold.nil)) (by ((repeat (refine Hold.cons (by exact rfl) ?_)); exact Hold.nil)) rfl rfl ⟨by omega, rfl⟩ (by simp; omega) ?_
 rintro i ⟨hi, hz⟩
 try simp only at hi hz ⊢
 by_cases hlt : i < xs.length
 ·have e1 := at_map encS xs i hlt
  have HS := Lib.hid (drop_at xs i hlt)
  have HZ := Lib.hid hz
  clear hz
  generalize xs[i] = x at e1 HS
  have hb : (negIf false (x == s)) = (x == s) := rfl
  generalize hq : (x == s) = q at hb
  have HQ := Lib.hid hq
  clear hq
  cases q
  ·repeat (first | apply ef_seq | (apply ef_mv; exact rfl; exact rfl) | (apply ef_bin; (iterate 3 exact rfl); (first | exact cmp_t rfl (by first | exact rfl | (simp only [cmpP]; omega)) | ((with_reducible refine bin_add (wrap_of ?_ ?_)) <;> omega))) | (apply ef_len; exact rfl; exact rfl; (assumption)) | (apply ef_ldr; exact rfl; exact rfl; (exact rfl)) | (apply ef_ias; (iterate 3 exact rfl); (omega); assumption; exact rfl) | (apply ef_sq; (iterate 3 exact rfl)) | apply ef_nil | apply seqQ.normal | apply blockQ.normal | apply ef_block | apply ef_skip | (apply ef_condt; exact rfl; (exact (rfl : true = true))) | (apply ef_condf; exact rfl; (assumption)))
   (refine loopQ.normal _ _ ⟨i + 1, ⟨hlt, by rw [HZ.out, HS.out, List.any_cons, HQ.out]; rfl⟩, (by first | (simp only; omega) | omega), ⟨by ((repeat (refine Hold.cons (by exact rfl) ?_)); exact Hold.nil), by ((repeat (refine Hold.cons (by exact rfl) ?_)); exact Hold.nil)⟩, .inl (Nat.le_refl _), (by first | exact List.take_length | exact rfl | exact takeF rfl rfl)⟩)
  ·repeat (first | apply ef_seq | (apply ef_mv; exact rfl; exact rfl) | (apply ef_bin; (iterate 3 exact rfl); (exact cmp_t rfl (by first | exact rfl | (simp only [cmpP]; omega)))) | (apply ef_len; exact rfl; exact rfl; (assumption)) | (apply ef_ldr; exact rfl; exact rfl; (exact rfl)) | (apply ef_ias; (iterate 3 exact rfl); (omega); assumption; exact rfl) | (apply ef_sq; (iterate 3 exact rfl)) | apply ef_nil | apply seqQ.normal | apply loopQ.ret | apply ef_ret | apply seqQ.ret | apply blockQ.ret | apply ef_block | apply ef_skip | (apply ef_condt; exact rfl; (first | exact (rfl : true = true) | assumption)))
   (refine fin1 rfl (by exact rfl) rfl ?_)
   rw [HZ.out, HS.out, List.any_cons, HQ.out]; rfl
 ·repeat (first | apply ef_seq | (apply ef_mv; exact rfl; exact rfl) | (apply ef_bin; (iterate 3 exact rfl); (exact cmp_f rfl (by simp only [cmpP]; omega))) | (apply ef_len; exact rfl; exact rfl; (assumption)) | apply ef_nil | apply seqQ.normal | apply loopQ.exit | apply ef_ret | apply ef_exit | apply seqQ.exit | apply blockQ.here | (apply ef_condf; exact rfl; (exact (rfl : false = false))))
  (refine fin1 rfl (by exact rfl) rfl ?_)
  rw [hz, List.drop_eq_nil_of_le (by omega)]; rfl
theorem HasText_c (k : Nat) (xs : List ByteArray) (s : ByteArray) (hx : xs.length ≤ 1000) (h : MHeap) {v : MV} (hv : frz 0 [] h 8 v = some (.sl (xs.map encS))) {t : Bool} (ht : xs.any (· == s) = t) : orA (k + 1) 91 [v, encS s] h = some (Bo t, h) :=
 callL (args' := [.sl (xs.map encS), encS s]) (by simp [List.mapM_cons, hv, frz_lt (m := encS s) rfl]) rfl (by rw [← ht]; exact HasText_z k xs s hx)
theorem mf_IsLine : MT.mf 92 = some ⟨11, [(.tmp 4)], (.seq (.reg [gO 2 (.box 2 (.s 0)), gO 4 (.mv cF)]) (.seq (.reg [gO 5 (.mv (.s 1)), gO 6 (.fa 0 (.s 2)), gO 7 (.ld none (.s 6)), gO 8 (.len (.s 7)), gO 9 (.bin .sub (.s 8) (cI 1)), gO 10 (.call 17 [.s 5, (cI 0), .s 9]), gO 4 (.mv (.s 10))]) .ret))⟩ := by kernel_rfl
theorem IsLine_c (k : Nat) (n : Nt) (i : Int) (hn : n.ls.length ≤ 1000) (h : MHeap) {b : Bool} (hb : inB i 0 ((n.ls.length : Int) - 1) = b) : orA (k + 2) 92 [encN n, I64 i] h = some (Bo b, h) := by
 have hs1 : (MV.sl (n.ls.map encLn)).slen = some n.ls.length := by simp [MV.slen]
 refine callL (args' := [encN n, I64 i]) (frzL_lt (by simp [ltL, MV.lt, ltL_Ln, ltL_Cr])) rfl (runZ_of mf_IsLine (by simp) ?_)
 simp only [argsL]
 have hw := fun h => Within_c k i 0 ((n.ls.length : Int) - 1) h hb
 repeat (first | apply ef_seq | (apply ef_mv; exact rfl; exact rfl) | (apply ef_bin; (iterate 3 exact rfl); (((with_reducible refine bin_sub (wrap_of ?_ ?_)) <;> omega))) | (apply ef_len; exact rfl; exact rfl; (assumption)) | (apply ef_ldp; exact rfl; exact rfl; (exact rfl); exact rfl; (exact rfl); (exact rfl)) | (apply ef_fap; exact rfl; exact rfl) | (apply ef_box; (iterate 4 exact rfl)) | apply ef_nil | apply seqQ.normal | apply ef_ret | (apply ef_call; exact rfl; ((repeat (apply XVs.cons; exact rfl)); exact XVs.nil); (with_reducible exact hw _)))
 (refine fin1 rfl (by exact rfl) rfl ?_)
 rfl
theorem mf_risPosition : MT.mf 93 = some ⟨5, [(.tmp 2)], (.seq (.reg [gO 2 (.mv cF)]) (.seq (.reg [gO 3 (.mv (.s 0)), gO 4 (.call 17 [.s 3, (cI 0), (cI 1000000)]), gO 2 (.mv (.s 4))]) .ret))⟩ := by kernel_rfl
theorem risPosition_c (k : Nat) (n : Int) (h : MHeap) {b : Bool} (hb : inB n 0 1000000 = b) : orA (k + 2) 93 [I64 n] h = some (Bo b, h) := by
 refine callL (args' := [I64 n]) (frzL_lt rfl) rfl (runZ_of mf_risPosition (by simp) ?_)
 simp only [argsL]
 have hw := fun h => Within_c k n 0 1000000 h hb
 repeat (first | apply ef_seq | (apply ef_mv; exact rfl; exact rfl) | apply ef_nil | apply seqQ.normal | apply ef_ret | (apply ef_call; exact rfl; ((repeat (apply XVs.cons; exact rfl)); exact XVs.nil); (with_reducible exact hw _)))
 (refine fin1 rfl (by exact rfl) rfl ?_)
 rfl
theorem mf_IsDifference : MT.mf 94 = some ⟨5, [(.tmp 2)], (.seq (.reg [gO 2 (.mv cF)]) (.seq (.reg [gO 3 (.mv (.s 0)), gO 4 (.call 17 [.s 3, (cI (-10000)), (cI 10000)]), gO 2 (.mv (.s 4))]) .ret))⟩ := by kernel_rfl
theorem IsDifference_c (k : Nat) (n : Int) (h : MHeap) {b : Bool} (hb : inB n (-10000) 10000 = b) : orA (k + 2) 94 [I64 n] h = some (Bo b, h) := by
 refine callL (args' := [I64 n]) (frzL_lt rfl) rfl (runZ_of mf_IsDifference (by simp) ?_)
 simp only [argsL]
 have hw := fun h => Within_c k n (-10000) 10000 h hb
 repeat (first | apply ef_seq | (apply ef_mv; exact rfl; exact rfl) | apply ef_nil | apply seqQ.normal | apply ef_ret | (apply ef_call; exact rfl; ((repeat (apply XVs.cons; exact rfl)); exact XVs.nil); (with_reducible exact hw _)))
 (refine fin1 rfl (by exact rfl) rfl ?_)
 rfl
theorem mf_isValue : MT.mf 43 = some ⟨5, [(.tmp 2)], (.seq (.reg [gO 2 (.mv cF)]) (.seq (.reg [gO 3 (.mv (.s 0)), gO 4 (.call 17 [.s 3, (cI (-1000000)), (cI 1000000)]), gO 2 (.mv (.s 4))]) .ret))⟩ := by kernel_rfl
theorem isValue_c (k : Nat) (n : Int) (h : MHeap) {b : Bool} (hb : inB n (-1000000) 1000000 = b) : orA (k + 2) 43 [I64 n] h = some (Bo b, h) := by
 refine callL (args' := [I64 n]) (frzL_lt rfl) rfl (runZ_of mf_isValue (by simp) ?_)
 simp only [argsL]
 have hw := fun h => Within_c k n (-1000000) 1000000 h hb
 repeat (first | apply ef_seq | (apply ef_mv; exact rfl; exact rfl) | apply ef_nil | apply seqQ.normal | apply ef_ret | (apply ef_call; exact rfl; ((repeat (apply XVs.cons; exact rfl)); exact XVs.nil); (with_reducible exact hw _)))
 (refine fin1 rfl (by exact rfl) rfl ?_)
 rfl
end Go.Proofs.YtfchdbghjeophaaGreatDoor
