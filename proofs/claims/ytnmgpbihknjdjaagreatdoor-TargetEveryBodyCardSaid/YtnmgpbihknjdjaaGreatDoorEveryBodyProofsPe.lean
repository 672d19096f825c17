/- Chapter 9: the first body. -/
import Derived.Test.YtnmgpbihknjdjaaGreatDoorRows
import Derived.ProofKit
import Derived.LaidSub
import Derived.LaidHandle
import Derived.FnData
import Derived.OpenShut
import Derived.Test.YtnmgpbihknjdjaaGreatDoorCards
import Derived.Test.YtnmgpbihknjdjaaGreatDoorTie
import Derived.LaidMore
import Derived.LaidOnce
import Derived.SevenTiedAt
import Derived.Stop.Joined
import Derived.Test.YtnmgpbihknjdjaaGreatDoorEveryBodyProofsPd
set_option linter.unusedVariables false
set_option linter.unusedSimpArgs false
/- The texts that the examples reach, as a table. -/
namespace Go.Proofs.YtnmgpbihknjdjaaGreatDoor
open Go.RowKit
noncomputable def mfW_l18 : MF := ⟨12, [(.tmp 2), (.tmp 3)], (.seq (.reg [gO 1 (.box 1 (.s 0)), gO 2 (.mv (cI 0)), gO 3 (.mv (cI 0))]) (.seq (.seq (.reg [gO 4 (.ld none (.s 1)), gO 5 (.len (.s 4)), gO 6 (.bin .gtr (.s 5) (cI 12))]) (.cond (.s 6) (.seq (.reg [gO 2 (.mv (cI 0)), gO 3 (.mv (cI 8))]) .ret) .skip)) (.seq (.reg [gO 7 (.ld none (.s 1)), gO 8 (.mf 100 0 [.s 1]), gO 9 (.call 99 [.s 7, .s 8]), gO 10 (.ext (.s 9) 0), gO 11 (.ext (.s 9) 1), gO 2 (.mv (.s 10)), gO 3 (.mv (.s 11))]) .ret)))⟩
theorem mfW_q18 : MT.mf 18 = some mfW_l18 := by kernel_rfl
noncomputable def mfW_l20 : MF := ⟨75, [(.tmp 4), (.tmp 5), (.tmp 6)], (.seq (.reg [gO 4 (.nil0 1), gO 5 (.mv (cI 0)), gO 6 (.mv (cI 0))]) (.seq (.seq (.reg [gO 16 (.mv (.s 0)), gO 17 (.mv (.s 1)), gO 18 (.call 107 [.s 16, .s 17]), gO 7 (.mv (.s 18))]) (.seq (.reg [gO 19 (.mv (.s 7)), gO 20 (.bin .neq (.s 19) (cI 0))]) (.cond (.s 20) (.seq (.reg [gO 21 (.mv (.s 7)), gO 4 (.nil0 1), gO 5 (.mv (cI 0)), gO 6 (.mv (.s 21))]) .ret) .skip))) (.seq (.reg [gO 8 (.nil0 1)]) (.seq (.reg [gO 9 (.mv (cI 0))]) (.seq (.seq (.reg [gO 22 (.mv (.s 0)), gO 23 (.len (.s 22)), gO 24 (.shf .shl (.c (.lit (.int .u64 1))) (.s 23)), gO 25 (.mv (.c (.lit (.int .u64 0))))]) (.block 0 (.loop [25, 24, 0, 1, 9, 8] (.seq (.reg [gO 26 (.bin .lss (.s 25) (.s 24))]) (.seq (.cond (.s 26) .skip (.exit 0)) (.seq (.block 1 (.seq (.reg [gO 27 (.mv (.s 25)), gO 10 (.mv (.s 27))]) (.seq (.reg [gO 28 (.mv (.s 10)), gO 29 (.call 108 [.s 28]), gO 11 (.mv (.s 29))]) (.seq (.reg [gO 12 (.mv (cI 0)), gO 13 (.mv (cI 0))]) (.seq (.seq (.reg [gO 30 (.mv (.s 11)), gO 31 (.len (.s 30)), gO 32 (.mv (cI 0))]) (.block 2 (.loop [32, 31, 30, 12, 0, 13, 1, 9, 11, 8, 25, 24] (.seq (.reg [gO 33 (.bin .lss (.s 32) (.s 31))]) (.seq (.cond (.s 33) .skip (.exit 2)) (.seq (.block 3 (.seq (.reg [gO 34 (.ia 1 (.s 30) (.s 32)), gO 35 (.ld none (.s 34)), gO 15 (.mv (.s 35))]) (.reg [gO 36 (.mv (.s 12)), gO 37 (.mv (.s 0)), gO 38 (.mv (.s 15)), gO 39 (.ia 3 (.s 37) (.s 38)), gO 40 (.fa 1 (.s 39)), gO 41 (.ld none (.s 40)), gO 42 (.bin .add (.s 36) (.s 41)), gO 43 (.mv (.s 13)), gO 44 (.mv (.s 0)), gO 45 (.mv (.s 15)), gO 46 (.ia 3 (.s 44) (.s 45)), gO 47 (.fa 2 (.s 46)), gO 48 (.ld none (.s 47)), gO 49 (.bin .add (.s 43) (.s 48)), gO 12 (.mv (.s 42)), gO 13 (.mv (.s 49))]))) (.reg [gO 50 (.bin .add (.s 32) (cI 1)), gO 32 (.mv (.s 50))]))))))) (.seq (.reg [gO 51 (.mv (.s 12)), gO 52 (.mv (.s 1)), gO 53 (.bin .leq (.s 51) (.s 52)), gO 54 (.mv (.s 53)), ⟨some (54, true), some 55, .mv (.s 13)⟩, ⟨some (54, true), some 56, .mv (.s 9)⟩, ⟨some (54, true), some 57, .bin .gtr (.s 55) (.s 56)⟩, ⟨some (54, true), some 58, .mv (.s 57)⟩, ⟨some (58, false), some 59, .mv (.s 13)⟩, ⟨some (58, false), some 60, .mv (.s 9)⟩, ⟨some (58, false), some 61, .bin .eql (.s 59) (.s 60)⟩, ⟨some (58, false), some 62, .mv (.s 61)⟩, ⟨some (62, true), some 63, .mv (.s 11)⟩, ⟨some (62, true), some 64, .mv (.s 8)⟩, ⟨some (62, true), some 65, .call 109 [.s 63, .s 64]⟩, ⟨some (62, true), some 66, .bin .lss (.s 65) (cI 0)⟩, ⟨some (58, false), some 67, .pick (.s 62) (.s 66) cF⟩, ⟨some (54, true), some 68, .pick (.s 58) cT (.s 67)⟩, gO 69 (.pick (.s 54) (.s 68) cF)]) (.cond (.s 69) (.reg [gO 70 (.mv (.s 11)), gO 71 (.mv (.s 13)), gO 8 (.mv (.s 70)), gO 9 (.mv (.s 71))]) .skip))))))) (.reg [gO 72 (.bin .add (.s 25) (.c (.lit (.int .u64 1)))), gO 25 (.mv (.s 72))]))))))) (.seq (.reg [gO 73 (.mv (.s 8)), gO 74 (.mv (.s 9)), gO 4 (.mv (.s 73)), gO 5 (.mv (.s 74)), gO 6 (.mv (cI 0))]) .ret))))))⟩
theorem mfW_q20 : MT.mf 20 = some mfW_l20 := by kernel_rfl
noncomputable def mfW_l26 : MF := ⟨67, [(.cell 4 (some 4)), (.tmp 5)], (.seq (.reg [gO 2 (.box 3 (.s 0)), gO 3 (.box 5 (.s 1)), gO 4 (.new (.agg [(.lit (.int .i64 0)), (.lit (.int .i64 0)), (.lit (.int .i64 0)), (.lit (.int .i64 0))])), gO 5 (.mv (cI 0))]) (.seq (.seq (.reg [gO 12 (.ld (some 3) (.s 2)), gO 13 (.call 28 [.s 12]), gO 14 (.ld (some 5) (.s 3)), gO 15 (.call 118 [.s 14]), gO 16 (.bsl (.lit (.int .i64 0)) 1 2 [(0, (.s 13)), (1, (.s 15))]), gO 17 (.call 104 [.s 16]), gO 6 (.mv (.s 17))]) (.seq (.reg [gO 18 (.mv (.s 6)), gO 19 (.bin .neq (.s 18) (cI 0))]) (.cond (.s 19) (.seq (.reg [gO 20 (.build [(.lit (.int .i64 0)), (.lit (.int .i64 0)), (.lit (.int .i64 0)), (.lit (.int .i64 0))] []), gO 21 (.mv (.s 6)), ⟨none, none, .st 4 (.s 4) (.s 20)⟩, gO 5 (.mv (.s 21))]) .ret) .skip))) (.seq (.reg [gO 22 (.ld (some 3) (.s 2)), gO 23 (.ld (some 5) (.s 3)), gO 24 (.call 119 [.s 22, .s 23]), gO 7 (.new (.agg [(.lit (.int .i64 0)), (.lit (.int .i64 0)), (.lit (.int .i64 0)), (.lit (.int .i64 0))])), ⟨none, none, .st 4 (.s 7) (.s 24)⟩]) (.seq (.seq (.reg [gO 25 (.iaa 2 2 (.s 7) (cI 0)), gO 26 (.ld (some 2) (.s 25)), gO 27 (.call 116 [.s 26]), gO 28 (.un .not (.s 27)), gO 29 (.mv (.s 28)), ⟨some (29, false), some 30, .iaa 2 2 (.s 7) (cI 1)⟩, ⟨some (29, false), some 31, .ld (some 2) (.s 30)⟩, ⟨some (29, false), some 32, .call 116 [.s 31]⟩, ⟨some (29, false), some 33, .un .not (.s 32)⟩, gO 34 (.pick (.s 29) cT (.s 33))]) (.cond (.s 34) (.seq (.reg [gO 35 (.build [(.lit (.int .i64 0)), (.lit (.int .i64 0)), (.lit (.int .i64 0)), (.lit (.int .i64 0))] []), ⟨none, none, .st 4 (.s 4) (.s 35)⟩, gO 5 (.mv (cI 21))]) .ret) .skip)) (.seq (.reg [gO 37 (.iaa 2 2 (.s 7) (cI 0)), gO 38 (.fa 0 (.s 37)), gO 39 (.ld none (.s 38)), gO 40 (.iaa 2 2 (.s 7) (cI 0)), gO 41 (.fa 1 (.s 40)), gO 42 (.ld none (.s 41)), gO 43 (.call 117 [.s 39, .s 42]), gO 36 (.mv (.s 43)), gO 44 (.ext (.s 36) 0), gO 45 (.ext (.s 36) 1), gO 8 (.new (.agg [(.lit (.int .i64 0)), (.lit (.int .i64 0))])), ⟨none, none, .st 2 (.s 8) (.s 44)⟩, gO 9 (.mv (.s 45))]) (.seq (.reg [gO 47 (.iaa 2 2 (.s 7) (cI 1)), gO 48 (.fa 0 (.s 47)), gO 49 (.ld none (.s 48)), gO 50 (.iaa 2 2 (.s 7) (cI 1)), gO 51 (.fa 1 (.s 50)), gO 52 (.ld none (.s 51)), gO 53 (.call 117 [.s 49, .s 52]), gO 46 (.mv (.s 53)), gO 54 (.ext (.s 46) 0), gO 55 (.ext (.s 46) 1), gO 10 (.new (.agg [(.lit (.int .i64 0)), (.lit (.int .i64 0))])), ⟨none, none, .st 2 (.s 10) (.s 54)⟩, gO 11 (.mv (.s 55))]) (.seq (.seq (.reg [gO 56 (.mv (.s 9)), gO 57 (.mv (.s 11)), gO 58 (.bsl (.lit (.int .i64 0)) 1 2 [(0, (.s 56)), (1, (.s 57))]), gO 59 (.call 104 [.s 58]), gO 9 (.mv (.s 59))]) (.seq (.reg [gO 60 (.mv (.s 9)), gO 61 (.bin .neq (.s 60) (cI 0))]) (.cond (.s 61) (.seq (.reg [gO 62 (.build [(.lit (.int .i64 0)), (.lit (.int .i64 0)), (.lit (.int .i64 0)), (.lit (.int .i64 0))] []), gO 63 (.mv (.s 9)), ⟨none, none, .st 4 (.s 4) (.s 62)⟩, gO 5 (.mv (.s 63))]) .ret) .skip))) (.seq (.reg [gO 64 (.ld (some 2) (.s 8)), gO 65 (.ld (some 2) (.s 10)), gO 66 (.build [(.lit (.int .i64 0)), (.lit (.int .i64 0)), (.lit (.int .i64 0)), (.lit (.int .i64 0))] [(0, (2, (.s 64))), (2, (2, (.s 65)))]), ⟨none, none, .st 4 (.s 4) (.s 66)⟩, gO 5 (.mv (cI 0))]) .ret))))))))⟩
theorem mfW_q26 : MT.mf 26 = some mfW_l26 := by kernel_rfl
noncomputable def mfW_l28 : MF := ⟨17, [(.tmp 2)], (.seq (.reg [gO 1 (.box 3 (.s 0)), gO 2 (.mv (cI 0))]) (.seq (.reg [gO 3 (.fa 0 (.s 1)), gO 4 (.ld none (.s 3)), gO 5 (.call 120 [.s 4, (cI 1000)]), gO 6 (.mv (.s 5)), ⟨some (6, true), some 7, .fa 1 (.s 1)⟩, ⟨some (6, true), some 8, .ld none (.s 7)⟩, ⟨some (6, true), some 9, .call 103 [.s 8, (cI 1), (cI 1000)]⟩, gO 10 (.pick (.s 6) (.s 9) cF), gO 11 (.mv (.s 10)), ⟨some (11, true), some 12, .fa 2 (.s 1)⟩, ⟨some (11, true), some 13, .ld none (.s 12)⟩, ⟨some (11, true), some 14, .call 121 [.s 13]⟩, gO 15 (.pick (.s 11) (.s 14) cF), gO 16 (.call 105 [.s 15, (cI 2)]), gO 2 (.mv (.s 16))]) .ret))⟩
theorem mfW_q28 : MT.mf 28 = some mfW_l28 := by kernel_rfl
noncomputable def mfW_l35 : MF := ⟨50, [(.cell 4 (some 2)), (.tmp 5)], (.seq (.reg [gO 2 (.box 1 (.s 0)), gO 3 (.box 1 (.s 1)), gO 4 (.new (.agg [(.lit (.int .i64 0)), (.lit (.int .i64 0))])), gO 5 (.mv (cI 0))]) (.seq (.seq (.reg [gO 13 (.ld none (.s 2)), gO 14 (.ld none (.s 3)), gO 15 (.call 107 [.s 13, .s 14]), gO 6 (.mv (.s 15))]) (.seq (.reg [gO 16 (.mv (.s 6)), gO 17 (.bin .neq (.s 16) (cI 0))]) (.cond (.s 17) (.seq (.reg [gO 18 (.build [(.lit (.int .i64 0)), (.lit (.int .i64 0))] []), gO 19 (.mv (.s 6)), ⟨none, none, .st 2 (.s 4) (.s 18)⟩, gO 5 (.mv (.s 19))]) .ret) .skip))) (.seq (.reg [gO 20 (.build [(.lit (.int .i64 0)), (.lit (.int .i64 0))] [(1, (1, (cI 1)))]), gO 21 (.bsl (.agg [(.lit (.int .i64 0)), (.lit (.int .i64 0))]) 2 1 [(0, (.s 20))]), gO 7 (.mv (.s 21))]) (.seq (.seq (.reg [gO 22 (.ld none (.s 2)), gO 23 (.len (.s 22)), gO 24 (.mv (cI 0))]) (.block 0 (.loop [24, 23, 22, 7, 2, 3, 4] (.seq (.reg [gO 25 (.bin .lss (.s 24) (.s 23))]) (.seq (.cond (.s 25) .skip (.exit 0)) (.seq (.block 1 (.seq (.reg [gO 26 (.ia 3 (.s 22) (.s 24)), gO 27 (.ld (some 3) (.s 26)), gO 9 (.new (.agg [(.lit (.string ⟨#[]⟩)), (.lit (.int .i64 0)), (.lit (.int .i64 0))])), ⟨none, none, .st 3 (.s 9) (.s 27)⟩]) (.seq (.reg [gO 29 (.fa 2 (.s 9)), gO 30 (.ld none (.s 29)), gO 31 (.fa 1 (.s 9)), gO 32 (.ld none (.s 31)), gO 33 (.call 117 [.s 30, .s 32]), gO 28 (.mv (.s 33)), gO 34 (.ext (.s 28) 0), gO 35 (.ext (.s 28) 1), gO 10 (.new (.agg [(.lit (.int .i64 0)), (.lit (.int .i64 0))])), ⟨none, none, .st 2 (.s 10) (.s 34)⟩, gO 11 (.mv (.s 35))]) (.reg [gO 36 (.mv (.s 7)), gO 37 (.ld (some 2) (.s 10)), gO 38 (.bsl (.agg [(.lit (.int .i64 0)), (.lit (.int .i64 0))]) 2 1 [(0, (.s 37))]), gO 39 (.app 2 (.s 36) (.s 38)), gO 7 (.mv (.s 39))])))) (.reg [gO 40 (.bin .add (.s 24) (cI 1)), gO 24 (.mv (.s 40))]))))))) (.seq (.reg [gO 41 (.mv (.s 7)), gO 42 (.srt 124 125 (.s 41))]) (.seq (.reg [gO 43 (.mv (.s 7)), gO 44 (.mf 127 0 [.s 2, .s 3]), gO 45 (.call 126 [.s 43, .s 44]), gO 12 (.mv (.s 45))]) (.seq (.reg [gO 46 (.mv (.s 7)), gO 47 (.mv (.s 12)), gO 48 (.ia 2 (.s 46) (.s 47)), gO 49 (.ld (some 2) (.s 48)), ⟨none, none, .st 2 (.s 4) (.s 49)⟩, gO 5 (.mv (cI 0))]) .ret)))))))⟩
theorem mfW_q35 : MT.mf 35 = some mfW_l35 := by kernel_rfl
noncomputable def mfW_l46 : MF := ⟨13, [(.tmp 2), (.tmp 3)], (.seq (.reg [gO 2 (.mv (cI 0)), gO 3 (.mv (cI 0))]) (.seq (.seq (.reg [gO 5 (.mv (.s 0)), gO 6 (.len (.s 5)), gO 7 (.bin .gtr (.s 6) (cI 12))]) (.cond (.s 7) (.seq (.reg [gO 2 (.mv (cI 0)), gO 3 (.mv (cI 8))]) .ret) .skip)) (.seq (.reg [gO 4 (.new (.lit .nilFunc)), ⟨none, none, .st 1 (.s 4) (.c (.fn 132 0 []))⟩]) (.seq (.reg [gO 8 (.mv (.s 0)), gO 9 (.mf 134 0 [.s 4]), gO 10 (.call 133 [.s 8, .s 9]), gO 11 (.ext (.s 10) 0), gO 12 (.ext (.s 10) 1), gO 2 (.mv (.s 11)), gO 3 (.mv (.s 12))]) .ret))))⟩
theorem mfW_q46 : MT.mf 46 = some mfW_l46 := by kernel_rfl
noncomputable def mfW_l49 : MF := ⟨44, [(.tmp 6), (.tmp 7)], (.seq (.reg [gO 6 (.mv (cI 0)), gO 7 (.mv (cI 0))]) (.seq (.seq (.reg [gO 11 (.mv (.s 0)), gO 12 (.mv (.s 1)), gO 13 (.call 135 [.s 11, .s 12]), gO 14 (.mv (.s 2)), gO 15 (.call 103 [.s 14, (cI 1), (cI 365)]), gO 16 (.call 105 [.s 15, (cI 2)]), gO 17 (.bsl (.lit (.int .i64 0)) 1 2 [(0, (.s 13)), (1, (.s 16))]), gO 18 (.call 104 [.s 17]), gO 8 (.mv (.s 18))]) (.seq (.reg [gO 19 (.mv (.s 8)), gO 20 (.bin .neq (.s 19) (cI 0))]) (.cond (.s 20) (.seq (.reg [gO 21 (.mv (.s 8)), gO 6 (.mv (cI 0)), gO 7 (.mv (.s 21))]) .ret) .skip))) (.seq (.reg [gO 9 (.mv (cI 0))]) (.seq (.seq (.reg [gO 22 (.mv (.s 1)), gO 10 (.new (.lit (.int .i64 0))), ⟨none, none, .st 1 (.s 10) (.s 22)⟩]) (.block 0 (.loop [10, 1, 2, 9, 0] (.seq (.seq (.reg [gO 23 (.ld none (.s 10)), gO 24 (.mv (.s 1)), gO 25 (.bin .add (.s 24) (cI 365)), gO 26 (.mv (.s 2)), gO 27 (.bin .add (.s 25) (.s 26)), gO 28 (.bin .lss (.s 23) (.s 27))]) (.cond (.s 28) .skip (.exit 0))) (.seq (.block 1 (.seq (.reg [gO 31 (.mv (.s 9)), gO 32 (.bin .add (.s 31) (cI 1)), gO 9 (.mv (.s 32))]) (.seq (.seq (.reg [gO 33 (.mv (.s 0)), gO 34 (.mf 138 0 [.s 10]), gO 35 (.call 137 [.s 33, .s 34])]) (.cond (.s 35) (.reg [gO 9 (.mv (cI 0))]) .skip)) (.seq (.reg [gO 36 (.mv (.s 9)), gO 37 (.mv (.s 2)), gO 38 (.bin .eql (.s 36) (.s 37))]) (.cond (.s 38) (.seq (.reg [gO 39 (.ld none (.s 10)), gO 40 (.mv (.s 2)), gO 41 (.bin .sub (.s 39) (.s 40)), gO 42 (.bin .add (.s 41) (cI 1)), gO 6 (.mv (.s 42)), gO 7 (.mv (cI 0))]) .ret) .skip))))) (.seq (.seq (.reg [gO 43 (.ld none (.s 10))]) (.reg [gO 10 (.new (.lit (.int .i64 0))), ⟨none, none, .st 1 (.s 10) (.s 43)⟩])) (.reg [gO 29 (.ld none (.s 10)), gO 30 (.bin .add (.s 29) (cI 1)), ⟨none, none, .st 1 (.s 10) (.s 30)⟩]))))))) (.seq (.reg [gO 6 (.mv (cI 0)), gO 7 (.mv (cI 12))]) .ret)))))⟩
theorem mfW_q49 : MT.mf 49 = some mfW_l49 := by kernel_rfl
noncomputable def mfW_l99 : MF := ⟨25, [(.tmp 4), (.tmp 5)], (.seq (.reg [gO 4 (.mv (cI 0)), gO 5 (.mv (cI 0))]) (.seq (.seq (.reg [gO 9 (.mv (.s 0)), gO 10 (.len (.s 9)), gO 11 (.mv (cI 0))]) (.block 0 (.loop [11, 10, 9, 1] (.seq (.reg [gO 12 (.bin .lss (.s 11) (.s 10))]) (.seq (.cond (.s 12) .skip (.exit 0)) (.seq (.block 1 (.seq (.reg [gO 13 (.mv (.s 11)), gO 14 (.ia 3 (.s 9) (.s 11)), gO 15 (.ld (some 3) (.s 14)), gO 7 (.new (.agg [(.lit (.string ⟨#[]⟩)), (.lit (.int .i64 0)), (.lit (.int .i64 0))])), gO 6 (.mv (.s 13)), ⟨none, none, .st 3 (.s 7) (.s 15)⟩]) (.seq (.reg [gO 16 (.mv (.s 1)), gO 17 (.mv (.s 6)), gO 18 (.ld (some 3) (.s 7)), gO 19 (.callv (.s 16) [.s 17, .s 18]), gO 8 (.mv (.s 19))]) (.seq (.reg [gO 20 (.mv (.s 8)), gO 21 (.bin .neq (.s 20) (cI 0))]) (.cond (.s 21) (.seq (.reg [gO 22 (.mv (.s 6)), gO 23 (.mv (.s 8)), gO 4 (.mv (.s 22)), gO 5 (.mv (.s 23))]) .ret) .skip))))) (.reg [gO 24 (.bin .add (.s 11) (cI 1)), gO 11 (.mv (.s 24))]))))))) (.seq (.reg [gO 4 (.mv (cI 0)), gO 5 (.mv (cI 0))]) .ret)))⟩
theorem mfW_q99 : MT.mf 99 = some mfW_l99 := by kernel_rfl
noncomputable def mfW_l100 : MF := ⟨32, [(.tmp 5)], (.seq (.reg [gO 4 (.box 3 (.s 1)), gO 5 (.mv (cI 0))]) (.seq (.reg [gO 8 (.ld none (.s 2)), gO 9 (.mv (.s 0)), gO 10 (.slc 3 (.s 8) none (some (.s 9))), gO 11 (.mf 102 0 [.s 4]), gO 12 (.call 101 [.s 10, .s 11]), gO 6 (.mv (.s 12))]) (.seq (.reg [gO 13 (.fa 1 (.s 4)), gO 14 (.ld none (.s 13)), gO 15 (.call 103 [.s 14, (cI 1), (cI 1000000)]), gO 16 (.mv (.s 15)), ⟨some (16, true), some 17, .fa 2 (.s 4)⟩, ⟨some (16, true), some 18, .ld none (.s 17)⟩, ⟨some (16, true), some 19, .call 103 [.s 18, (cI 0), (cI 1000000)]⟩, gO 20 (.pick (.s 16) (.s 19) cF), gO 7 (.mv (.s 20))]) (.seq (.reg [gO 21 (.fa 0 (.s 4)), gO 22 (.ld none (.s 21)), gO 23 (.call 106 [.s 22]), gO 24 (.call 105 [.s 23, (cI 4)]), gO 25 (.mv (.s 6)), gO 26 (.un .not (.s 25)), gO 27 (.call 105 [.s 26, (cI 5)]), gO 28 (.mv (.s 7)), gO 29 (.call 105 [.s 28, (cI 2)]), gO 30 (.bsl (.lit (.int .i64 0)) 1 3 [(0, (.s 24)), (1, (.s 27)), (2, (.s 29))]), gO 31 (.call 104 [.s 30]), gO 5 (.mv (.s 31))]) .ret))))⟩
theorem mfW_q100 : MT.mf 100 = some mfW_l100 := by kernel_rfl
noncomputable def mfW_l101 : MF := ⟨9, [(.tmp 4)], (.seq (.reg [gO 4 (.mv cF)]) (.seq (.reg [gO 5 (.mv (.s 0)), gO 6 (.mv (.s 1)), gO 7 (.call 177 [.s 5, .s 6]), gO 8 (.bin .geq (.s 7) (cI 0)), gO 4 (.mv (.s 8))]) .ret))⟩
theorem mfW_q101 : MT.mf 101 = some mfW_l101 := by kernel_rfl
noncomputable def mfW_l102 : MF := ⟨9, [(.tmp 3)], (.seq (.reg [gO 2 (.box 3 (.s 0)), gO 3 (.mv cF)]) (.seq (.reg [gO 4 (.fa 0 (.s 2)), gO 5 (.ld none (.s 4)), gO 6 (.fa 0 (.s 1)), gO 7 (.ld none (.s 6)), gO 8 (.seq false (.s 5) (.s 7)), gO 3 (.mv (.s 8))]) .ret))⟩
theorem mfW_q102 : MT.mf 102 = some mfW_l102 := by kernel_rfl
noncomputable def mfW_l103 : MF := ⟨15, [(.tmp 6)], (.seq (.reg [gO 6 (.mv cF)]) (.seq (.reg [gO 7 (.mv (.s 1)), gO 8 (.mv (.s 0)), gO 9 (.bin .leq (.s 7) (.s 8)), gO 10 (.mv (.s 9)), ⟨some (10, true), some 11, .mv (.s 0)⟩, ⟨some (10, true), some 12, .mv (.s 2)⟩, ⟨some (10, true), some 13, .bin .leq (.s 11) (.s 12)⟩, gO 14 (.pick (.s 10) (.s 13) cF), gO 6 (.mv (.s 14))]) .ret))⟩
theorem mfW_q103 : MT.mf 103 = some mfW_l103 := by kernel_rfl
noncomputable def mfW_l104 : MF := ⟨15, [(.tmp 2)], (.seq (.reg [gO 2 (.mv (cI 0))]) (.seq (.seq (.reg [gO 5 (.mv (.s 0)), gO 6 (.len (.s 5)), gO 7 (.mv (cI 0))]) (.block 0 (.loop [7, 6, 5] (.seq (.reg [gO 8 (.bin .lss (.s 7) (.s 6))]) (.seq (.cond (.s 8) .skip (.exit 0)) (.seq (.block 1 (.seq (.reg [gO 9 (.ia 1 (.s 5) (.s 7)), gO 10 (.ld none (.s 9)), gO 4 (.mv (.s 10))]) (.seq (.reg [gO 11 (.mv (.s 4)), gO 12 (.bin .neq (.s 11) (cI 0))]) (.cond (.s 12) (.seq (.reg [gO 13 (.mv (.s 4)), gO 2 (.mv (.s 13))]) .ret) .skip)))) (.reg [gO 14 (.bin .add (.s 7) (cI 1)), gO 7 (.mv (.s 14))]))))))) (.seq (.reg [gO 2 (.mv (cI 0))]) .ret)))⟩
theorem mfW_q104 : MT.mf 104 = some mfW_l104 := by kernel_rfl
noncomputable def mfW_l105 : MF := ⟨7, [(.tmp 4)], (.seq (.reg [gO 4 (.mv (cI 0))]) (.seq (.seq (.reg [gO 5 (.mv (.s 0))]) (.cond (.s 5) (.seq (.reg [gO 4 (.mv (cI 0))]) .ret) .skip)) (.seq (.reg [gO 6 (.mv (.s 1)), gO 4 (.mv (.s 6))]) .ret)))⟩
theorem mfW_q105 : MT.mf 105 = some mfW_l105 := by kernel_rfl
noncomputable def mfW_l106 : MF := ⟨38, [(.tmp 2)], (.seq (.reg [gO 2 (.mv cF)]) (.seq (.seq (.reg [gO 6 (.mv (.s 0)), gO 7 (.s2b (.s 6)), gO 8 (.len (.s 7)), gO 9 (.mv (cI 0))]) (.block 0 (.loop [9, 8, 7, 0] (.seq (.reg [gO 10 (.bin .lss (.s 9) (.s 8))]) (.seq (.cond (.s 10) .skip (.exit 0)) (.seq (.block 1 (.seq (.reg [gO 11 (.mv (.s 9)), gO 12 (.ia 1 (.s 7) (.s 9)), gO 13 (.ld none (.s 12)), gO 3 (.mv (.s 11)), gO 4 (.mv (.s 13))]) (.seq (.reg [gO 14 (.mv (.s 4)), gO 15 (.bin .or (.s 14) (.c (.lit (.int .u8 32)))), gO 16 (.cv .i64 (.s 15)), gO 17 (.call 103 [.s 16, (cI 97), (cI 122)]), gO 5 (.mv (.s 17))]) (.seq (.reg [gO 18 (.mv (.s 5)), gO 19 (.un .not (.s 18)), gO 20 (.mv (.s 19)), ⟨some (20, true), some 21, .mv (.s 3)⟩, ⟨some (20, true), some 22, .bin .eql (.s 21) (cI 0)⟩, ⟨some (20, true), some 23, .mv (.s 22)⟩, ⟨some (23, false), some 24, .mv (.s 4)⟩, ⟨some (23, false), some 25, .bin .neq (.s 24) (.c (.lit (.int .u8 45)))⟩, ⟨some (23, false), some 26, .mv (.s 25)⟩, ⟨some (26, true), some 27, .mv (.s 4)⟩, ⟨some (26, true), some 28, .cv .i64 (.s 27)⟩, ⟨some (26, true), some 29, .call 103 [.s 28, (cI 48), (cI 57)]⟩, ⟨some (26, true), some 30, .un .not (.s 29)⟩, ⟨some (23, false), some 31, .pick (.s 26) (.s 30) cF⟩, ⟨some (20, true), some 32, .pick (.s 23) cT (.s 31)⟩, gO 33 (.pick (.s 20) (.s 32) cF)]) (.cond (.s 33) (.seq (.reg [gO 2 (.mv cF)]) .ret) .skip))))) (.reg [gO 34 (.bin .add (.s 9) (cI 1)), gO 9 (.mv (.s 34))]))))))) (.seq (.reg [gO 35 (.mv (.s 0)), gO 36 (.sln (.s 35)), gO 37 (.call 103 [.s 36, (cI 1), (cI 12)]), gO 2 (.mv (.s 37))]) .ret)))⟩
theorem mfW_q106 : MT.mf 106 = some mfW_l106 := by kernel_rfl
noncomputable def mfW_l107 : MF := ⟨18, [(.tmp 4)], (.seq (.reg [gO 4 (.mv (cI 0))]) (.seq (.reg [gO 8 (.mv (.s 0)), gO 9 (.call 18 [.s 8]), gO 7 (.mv (.s 9)), gO 10 (.ext (.s 7) 0), gO 11 (.ext (.s 7) 1), gO 5 (.mv (.s 10)), gO 6 (.mv (.s 11))]) (.seq (.reg [gO 12 (.mv (.s 6)), gO 13 (.mv (.s 1)), gO 14 (.call 103 [.s 13, (cI 0), (cI 1000000)]), gO 15 (.call 105 [.s 14, (cI 2)]), gO 16 (.bsl (.lit (.int .i64 0)) 1 2 [(0, (.s 12)), (1, (.s 15))]), gO 17 (.call 104 [.s 16]), gO 4 (.mv (.s 17))]) .ret)))⟩
theorem mfW_q107 : MT.mf 107 = some mfW_l107 := by kernel_rfl
noncomputable def mfW_l108 : MF := ⟨16, [(.tmp 2)], (.seq (.reg [gO 2 (.nil0 1)]) (.seq (.reg [gO 3 (.nil0 1)]) (.seq (.block 0 (.loop [0, 3] (.seq (.seq (.reg [gO 4 (.mv (.s 0)), gO 5 (.bin .neq (.s 4) (.c (.lit (.int .u64 0))))]) (.cond (.s 5) .skip (.exit 0))) (.seq (.block 1 (.reg [gO 10 (.mv (.s 3)), gO 11 (.mv (.s 0)), gO 12 (.call 178 [.s 11]), gO 13 (.bsl (.lit (.int .i64 0)) 1 1 [(0, (.s 12))]), gO 14 (.app 1 (.s 10) (.s 13)), gO 3 (.mv (.s 14))])) (.reg [gO 6 (.mv (.s 0)), gO 7 (.mv (.s 0)), gO 8 (.bin .sub (.s 7) (.c (.lit (.int .u64 1)))), gO 9 (.bin .and (.s 6) (.s 8)), gO 0 (.mv (.s 9))]))))) (.seq (.reg [gO 15 (.mv (.s 3)), gO 2 (.mv (.s 15))]) .ret))))⟩
theorem mfW_q108 : MT.mf 108 = some mfW_l108 := by kernel_rfl
noncomputable def mfW_l109 : MF := ⟨36, [(.tmp 4)], (.seq (.reg [gO 4 (.mv (cI 0))]) (.seq (.seq (.reg [gO 9 (.mv (.s 0)), gO 10 (.len (.s 9)), gO 11 (.mv (cI 0))]) (.block 0 (.loop [11, 10, 9, 1, 0] (.seq (.reg [gO 12 (.bin .lss (.s 11) (.s 10))]) (.seq (.cond (.s 12) .skip (.exit 0)) (.seq (.block 1 (.seq (.reg [gO 13 (.mv (.s 11)), gO 14 (.ia 1 (.s 9) (.s 11)), gO 15 (.ld none (.s 14)), gO 5 (.mv (.s 13)), gO 6 (.mv (.s 15))]) (.seq (.seq (.reg [gO 16 (.mv (.s 5)), gO 17 (.mv (.s 1)), gO 18 (.len (.s 17)), gO 19 (.bin .geq (.s 16) (.s 18))]) (.cond (.s 19) (.seq (.reg [gO 4 (.mv (cI 1))]) .ret) .skip)) (.seq (.reg [gO 20 (.mv (.s 1)), gO 21 (.mv (.s 5)), gO 22 (.ia 1 (.s 20) (.s 21)), gO 23 (.ld none (.s 22)), gO 7 (.mv (.s 23))]) (.seq (.reg [gO 24 (.mv (.s 6)), gO 25 (.mv (.s 7)), gO 26 (.call 179 [.s 24, .s 25]), gO 8 (.mv (.s 26))]) (.seq (.reg [gO 27 (.mv (.s 8)), gO 28 (.bin .neq (.s 27) (cI 0))]) (.cond (.s 28) (.seq (.reg [gO 29 (.mv (.s 8)), gO 4 (.mv (.s 29))]) .ret) .skip))))))) (.reg [gO 30 (.bin .add (.s 11) (cI 1)), gO 11 (.mv (.s 30))]))))))) (.seq (.seq (.reg [gO 31 (.mv (.s 0)), gO 32 (.len (.s 31)), gO 33 (.mv (.s 1)), gO 34 (.len (.s 33)), gO 35 (.bin .lss (.s 32) (.s 34))]) (.cond (.s 35) (.seq (.reg [gO 4 (.mv (cI (-1)))]) .ret) .skip)) (.seq (.reg [gO 4 (.mv (cI 0))]) .ret))))⟩
theorem mfW_q109 : MT.mf 109 = some mfW_l109 := by kernel_rfl
noncomputable def mfW_l113 : MF := ⟨6, [(.tmp 2)], (.seq (.reg [gO 2 (.mv (cI 0))]) (.seq (.reg [gO 3 (.mv (.s 0)), gO 4 (.call 121 [.s 3]), gO 5 (.call 105 [.s 4, (cI 2)]), gO 2 (.mv (.s 5))]) .ret))⟩
theorem mfW_q113 : MT.mf 113 = some mfW_l113 := by kernel_rfl
noncomputable def mfW_l114 : MF := ⟨17, [(.tmp 2)], (.seq (.reg [gO 1 (.box 2 (.s 0)), gO 2 (.mv (cI 0))]) (.seq (.reg [gO 3 (.ld (some 2) (.s 1)), gO 4 (.call 123 [.s 3]), gO 5 (.call 105 [.s 4, (cI 3)]), gO 6 (.fa 0 (.s 1)), gO 7 (.ld none (.s 6)), gO 8 (.call 120 [.s 7, (cI 1000)]), gO 9 (.mv (.s 8)), ⟨some (9, true), some 10, .fa 1 (.s 1)⟩, ⟨some (9, true), some 11, .ld none (.s 10)⟩, ⟨some (9, true), some 12, .bin .leq (.s 11) (cI 1000)⟩, gO 13 (.pick (.s 9) (.s 12) cF), gO 14 (.call 105 [.s 13, (cI 2)]), gO 15 (.bsl (.lit (.int .i64 0)) 1 2 [(0, (.s 5)), (1, (.s 14))]), gO 16 (.call 104 [.s 15]), gO 2 (.mv (.s 16))]) .ret))⟩
theorem mfW_q114 : MT.mf 114 = some mfW_l114 := by kernel_rfl
noncomputable def mfW_l115 : MF := ⟨26, [(.cell 6 (some 2))], (.seq (.reg [gO 3 (.box 3 (.s 0)), gO 5 (.box 2 (.s 2)), gO 6 (.new (.agg [(.lit (.int .i64 0)), (.lit (.int .i64 0))]))]) (.seq (.reg [gO 7 (.mv (.s 1)), gO 8 (.fa 1 (.s 3)), gO 9 (.ld none (.s 8)), gO 10 (.bin .mul (.s 7) (.s 9)), gO 11 (.fa 1 (.s 5)), gO 12 (.ld none (.s 11)), gO 13 (.bin .mul (.s 10) (.s 12)), gO 14 (.fa 1 (.s 3)), gO 15 (.ld none (.s 14)), gO 16 (.fa 1 (.s 5)), gO 17 (.ld none (.s 16)), gO 18 (.bin .mul (.s 15) (.s 17)), gO 19 (.fa 0 (.s 5)), gO 20 (.ld none (.s 19)), gO 21 (.fa 0 (.s 3)), gO 22 (.ld none (.s 21)), gO 23 (.bin .mul (.s 20) (.s 22)), gO 24 (.bin .sub (.s 18) (.s 23)), gO 25 (.build [(.lit (.int .i64 0)), (.lit (.int .i64 0))] [(0, (1, (.s 13))), (1, (1, (.s 24)))]), ⟨none, none, .st 2 (.s 6) (.s 25)⟩]) .ret))⟩
theorem mfW_q115 : MT.mf 115 = some mfW_l115 := by kernel_rfl
noncomputable def mfW_l116 : MF := ⟨6, [(.tmp 2)], (.seq (.reg [gO 1 (.box 2 (.s 0)), gO 2 (.mv cF)]) (.seq (.reg [gO 3 (.fa 1 (.s 1)), gO 4 (.ld none (.s 3)), gO 5 (.bin .gtr (.s 4) (cI 0)), gO 2 (.mv (.s 5))]) .ret))⟩
theorem mfW_q116 : MT.mf 116 = some mfW_l116 := by kernel_rfl
noncomputable def mfW_l117 : MF := ⟨29, [(.cell 4 (some 2)), (.tmp 5)], (.seq (.reg [gO 4 (.new (.agg [(.lit (.int .i64 0)), (.lit (.int .i64 0))])), gO 5 (.mv (cI 0))]) (.seq (.reg [gO 8 (.mv (.s 0)), gO 9 (.mv (.s 1)), gO 10 (.call 180 [.s 8, .s 9]), gO 6 (.mv (.s 10))]) (.seq (.reg [gO 11 (.mv (.s 0)), gO 12 (.mv (.s 6)), gO 13 (.bin .quo (.s 11) (.s 12)), gO 14 (.mv (.s 1)), gO 15 (.mv (.s 6)), gO 16 (.bin .quo (.s 14) (.s 15)), gO 17 (.build [(.lit (.int .i64 0)), (.lit (.int .i64 0))] [(0, (1, (.s 13))), (1, (1, (.s 16)))]), gO 7 (.new (.agg [(.lit (.int .i64 0)), (.lit (.int .i64 0))])), ⟨none, none, .st 2 (.s 7) (.s 17)⟩]) (.seq (.seq (.reg [gO 18 (.fa 0 (.s 7)), gO 19 (.ld none (.s 18)), gO 20 (.call 120 [.s 19, (cI 1000000000)]), gO 21 (.un .not (.s 20)), gO 22 (.mv (.s 21)), ⟨some (22, false), some 23, .fa 1 (.s 7)⟩, ⟨some (22, false), some 24, .ld none (.s 23)⟩, ⟨some (22, false), some 25, .bin .gtr (.s 24) (cI 1000000000)⟩, gO 26 (.pick (.s 22) cT (.s 25))]) (.cond (.s 26) (.seq (.reg [gO 27 (.build [(.lit (.int .i64 0)), (.lit (.int .i64 0))] []), ⟨none, none, .st 2 (.s 4) (.s 27)⟩, gO 5 (.mv (cI 8))]) .ret) .skip)) (.seq (.reg [gO 28 (.ld (some 2) (.s 7)), ⟨none, none, .st 2 (.s 4) (.s 28)⟩, gO 5 (.mv (cI 0))]) .ret)))))⟩
theorem mfW_q117 : MT.mf 117 = some mfW_l117 := by kernel_rfl
noncomputable def mfW_l118 : MF := ⟨40, [(.tmp 2)], (.seq (.reg [gO 1 (.box 5 (.s 0)), gO 2 (.mv (cI 0))]) (.seq (.reg [gO 4 (.fa 0 (.s 1)), gO 5 (.ld none (.s 4)), gO 6 (.call 113 [.s 5]), gO 7 (.fa 1 (.s 1)), gO 8 (.fa 0 (.s 7)), gO 9 (.ld (some 2) (.s 8)), gO 10 (.call 114 [.s 9]), gO 11 (.fa 1 (.s 1)), gO 12 (.fa 2 (.s 11)), gO 13 (.ld (some 2) (.s 12)), gO 14 (.call 114 [.s 13]), gO 15 (.bsl (.lit (.int .i64 0)) 1 3 [(0, (.s 6)), (1, (.s 10)), (2, (.s 14))]), gO 16 (.call 104 [.s 15]), gO 3 (.mv (.s 16))]) (.seq (.seq (.reg [gO 17 (.mv (.s 3)), gO 18 (.bin .eql (.s 17) (cI 0))]) (.cond (.s 18) (.reg [gO 19 (.fa 1 (.s 1)), gO 20 (.fa 0 (.s 19)), gO 21 (.fa 0 (.s 20)), gO 22 (.ld none (.s 21)), gO 23 (.fa 1 (.s 1)), gO 24 (.fa 2 (.s 23)), gO 25 (.fa 1 (.s 24)), gO 26 (.ld none (.s 25)), gO 27 (.bin .mul (.s 22) (.s 26)), gO 28 (.fa 1 (.s 1)), gO 29 (.fa 2 (.s 28)), gO 30 (.fa 0 (.s 29)), gO 31 (.ld none (.s 30)), gO 32 (.fa 1 (.s 1)), gO 33 (.fa 0 (.s 32)), gO 34 (.fa 1 (.s 33)), gO 35 (.ld none (.s 34)), gO 36 (.bin .mul (.s 31) (.s 35)), gO 37 (.bin .leq (.s 27) (.s 36)), gO 38 (.call 105 [.s 37, (cI 9)]), gO 3 (.mv (.s 38))]) .skip)) (.seq (.reg [gO 39 (.mv (.s 3)), gO 2 (.mv (.s 39))]) .ret))))⟩
theorem mfW_q118 : MT.mf 118 = some mfW_l118 := by kernel_rfl
noncomputable def mfW_l119 : MF := ⟨31, [(.cell 4 (some 4))], (.seq (.reg [gO 2 (.box 3 (.s 0)), gO 3 (.box 5 (.s 1)), gO 4 (.new (.agg [(.lit (.int .i64 0)), (.lit (.int .i64 0)), (.lit (.int .i64 0)), (.lit (.int .i64 0))]))]) (.seq (.reg [gO 5 (.new (.agg [(.lit (.int .i64 0)), (.lit (.int .i64 0)), (.lit (.int .i64 0)), (.lit (.int .i64 0))])), gO 6 (.ld (some 3) (.s 2)), gO 7 (.fa 0 (.s 3)), gO 8 (.ld none (.s 7)), gO 9 (.fa 1 (.s 3)), gO 10 (.fa 0 (.s 9)), gO 11 (.ld (some 2) (.s 10)), gO 12 (.call 115 [.s 6, .s 8, .s 11]), gO 13 (.ld (some 3) (.s 2)), gO 14 (.fa 0 (.s 3)), gO 15 (.ld none (.s 14)), gO 16 (.fa 1 (.s 3)), gO 17 (.fa 2 (.s 16)), gO 18 (.ld (some 2) (.s 17)), gO 19 (.call 115 [.s 13, .s 15, .s 18]), gO 20 (.build [(.lit (.int .i64 0)), (.lit (.int .i64 0)), (.lit (.int .i64 0)), (.lit (.int .i64 0))] [(0, (2, (.s 12))), (2, (2, (.s 19)))]), gO 5 (.nilck (.s 5)), ⟨none, none, .st 4 (.s 5) (.s 20)⟩]) (.seq (.seq (.reg [gO 21 (.fa 0 (.s 2)), gO 22 (.ld none (.s 21)), gO 23 (.bin .lss (.s 22) (cI 0))]) (.cond (.s 23) (.reg [gO 24 (.iaa 2 2 (.s 5) (cI 1)), gO 25 (.ld (some 2) (.s 24)), gO 26 (.iaa 2 2 (.s 5) (cI 0)), gO 27 (.ld (some 2) (.s 26)), gO 28 (.iaa 2 2 (.s 5) (cI 0)), ⟨none, none, .st 2 (.s 28) (.s 25)⟩, gO 29 (.iaa 2 2 (.s 5) (cI 1)), ⟨none, none, .st 2 (.s 29) (.s 27)⟩]) .skip)) (.seq (.reg [gO 30 (.ld (some 4) (.s 5)), ⟨none, none, .st 4 (.s 4) (.s 30)⟩]) .ret))))⟩
theorem mfW_q119 : MT.mf 119 = some mfW_l119 := by kernel_rfl
noncomputable def mfW_l120 : MF := ⟨10, [(.tmp 4)], (.seq (.reg [gO 4 (.mv cF)]) (.seq (.reg [gO 5 (.mv (.s 0)), gO 6 (.mv (.s 1)), gO 7 (.un .neg (.s 6)), gO 8 (.mv (.s 1)), gO 9 (.call 103 [.s 5, .s 7, .s 8]), gO 4 (.mv (.s 9))]) .ret))⟩
theorem mfW_q120 : MT.mf 120 = some mfW_l120 := by kernel_rfl
noncomputable def mfW_l121 : MF := ⟨5, [(.tmp 2)], (.seq (.reg [gO 2 (.mv cF)]) (.seq (.reg [gO 3 (.mv (.s 0)), gO 4 (.call 103 [.s 3, (cI 1), (cI 10000)]), gO 2 (.mv (.s 4))]) .ret))⟩
theorem mfW_q121 : MT.mf 121 = some mfW_l121 := by kernel_rfl
noncomputable def mfW_l123 : MF := ⟨14, [(.tmp 2)], (.seq (.reg [gO 1 (.box 2 (.s 0)), gO 2 (.mv cF)]) (.seq (.reg [gO 3 (.fa 1 (.s 1)), gO 4 (.ld none (.s 3)), gO 5 (.bin .gtr (.s 4) (cI 0)), gO 6 (.mv (.s 5)), ⟨some (6, true), some 7, .fa 0 (.s 1)⟩, ⟨some (6, true), some 8, .ld none (.s 7)⟩, ⟨some (6, true), some 9, .fa 1 (.s 1)⟩, ⟨some (6, true), some 10, .ld none (.s 9)⟩, ⟨some (6, true), some 11, .call 180 [.s 8, .s 10]⟩, ⟨some (6, true), some 12, .bin .eql (.s 11) (cI 1)⟩, gO 13 (.pick (.s 6) (.s 12) cF), gO 2 (.mv (.s 13))]) .ret))⟩
theorem mfW_q123 : MT.mf 123 = some mfW_l123 := by kernel_rfl
noncomputable def mfW_l124 : MF := ⟨14, [], (.seq (.reg [gO 5 (.mv (.s 0)), gO 6 (.len (.s 5)), gO 4 (.mv (.s 6))]) (.reg [gO 7 (.mv (.s 0)), gO 8 (.mv (.s 4)), gO 9 (.mv (.s 4)), gO 10 (.cv .u64 (.s 9)), gO 11 (.call 182 [.s 10]), gO 12 (.mv (.s 1)), gO 13 (.call 181 [.s 7, (cI 0), .s 8, .s 11, .s 12])]))⟩
theorem mfW_q124 : MT.mf 124 = some mfW_l124 := by kernel_rfl
noncomputable def mfW_l126 : MF := ⟨19, [(.tmp 4)], (.seq (.reg [gO 4 (.mv (cI 0))]) (.seq (.seq (.reg [gO 6 (.mv (.s 0)), gO 7 (.len (.s 6)), gO 8 (.mv (cI 0))]) (.block 0 (.loop [8, 7, 1, 0] (.seq (.reg [gO 9 (.bin .lss (.s 8) (.s 7))]) (.seq (.cond (.s 9) .skip (.exit 0)) (.seq (.block 1 (.seq (.reg [gO 10 (.mv (.s 8)), gO 5 (.mv (.s 10))]) (.seq (.reg [gO 11 (.mv (.s 1)), gO 12 (.mv (.s 0)), gO 13 (.mv (.s 5)), gO 14 (.ia 2 (.s 12) (.s 13)), gO 15 (.ld (some 2) (.s 14)), gO 16 (.callv (.s 11) [.s 15])]) (.cond (.s 16) (.seq (.reg [gO 17 (.mv (.s 5)), gO 4 (.mv (.s 17))]) .ret) .skip)))) (.reg [gO 18 (.bin .add (.s 8) (cI 1)), gO 8 (.mv (.s 18))]))))))) (.seq (.reg [gO 4 (.mv (cI (-1)))]) .ret)))⟩
theorem mfW_q126 : MT.mf 126 = some mfW_l126 := by kernel_rfl
noncomputable def mfW_l127 : MF := ⟨33, [(.tmp 4)], (.seq (.reg [gO 3 (.box 2 (.s 0)), gO 4 (.mv cF)]) (.seq (.reg [gO 5 (.mv (cI 0))]) (.seq (.seq (.reg [gO 8 (.ld none (.s 1)), gO 9 (.len (.s 8)), gO 10 (.mv (cI 0))]) (.block 0 (.loop [10, 9, 8, 3, 5, 2] (.seq (.reg [gO 11 (.bin .lss (.s 10) (.s 9))]) (.seq (.cond (.s 11) .skip (.exit 0)) (.seq (.block 1 (.seq (.reg [gO 12 (.ia 3 (.s 8) (.s 10)), gO 13 (.ld (some 3) (.s 12)), gO 7 (.new (.agg [(.lit (.string ⟨#[]⟩)), (.lit (.int .i64 0)), (.lit (.int .i64 0))])), ⟨none, none, .st 3 (.s 7) (.s 13)⟩]) (.seq (.reg [gO 14 (.fa 2 (.s 7)), gO 15 (.ld none (.s 14)), gO 16 (.fa 1 (.s 3)), gO 17 (.ld none (.s 16)), gO 18 (.bin .mul (.s 15) (.s 17)), gO 19 (.fa 0 (.s 3)), gO 20 (.ld none (.s 19)), gO 21 (.fa 1 (.s 7)), gO 22 (.ld none (.s 21)), gO 23 (.bin .mul (.s 20) (.s 22)), gO 24 (.bin .gtr (.s 18) (.s 23))]) (.cond (.s 24) (.reg [gO 25 (.mv (.s 5)), gO 26 (.fa 1 (.s 7)), gO 27 (.ld none (.s 26)), gO 28 (.bin .add (.s 25) (.s 27)), gO 5 (.mv (.s 28))]) .skip)))) (.reg [gO 29 (.bin .add (.s 10) (cI 1)), gO 10 (.mv (.s 29))]))))))) (.seq (.reg [gO 30 (.mv (.s 5)), gO 31 (.ld none (.s 2)), gO 32 (.bin .leq (.s 30) (.s 31)), gO 4 (.mv (.s 32))]) .ret))))⟩
theorem mfW_q127 : MT.mf 127 = some mfW_l127 := by kernel_rfl
noncomputable def mfW_l132 : MF := ⟨5, [(.tmp 2)], (.seq (.reg [gO 2 (.mv cF)]) (.seq (.reg [gO 3 (.mv (.s 0)), gO 4 (.call 103 [.s 3, (cI 0), (cI 364)]), gO 2 (.mv (.s 4))]) .ret))⟩
theorem mfW_q132 : MT.mf 132 = some mfW_l132 := by kernel_rfl
noncomputable def mfW_l133 : MF := ⟨25, [(.tmp 4), (.tmp 5)], (.seq (.reg [gO 4 (.mv (cI 0)), gO 5 (.mv (cI 0))]) (.seq (.seq (.reg [gO 9 (.mv (.s 0)), gO 10 (.len (.s 9)), gO 11 (.mv (cI 0))]) (.block 0 (.loop [11, 10, 9, 1] (.seq (.reg [gO 12 (.bin .lss (.s 11) (.s 10))]) (.seq (.cond (.s 12) .skip (.exit 0)) (.seq (.block 1 (.seq (.reg [gO 13 (.mv (.s 11)), gO 14 (.ia 3 (.s 9) (.s 11)), gO 15 (.ld (some 3) (.s 14)), gO 7 (.new (.agg [(.lit (.string ⟨#[]⟩)), (.lit (.int .i64 0)), (.lit (.int .i64 0))])), gO 6 (.mv (.s 13)), ⟨none, none, .st 3 (.s 7) (.s 15)⟩]) (.seq (.reg [gO 16 (.mv (.s 1)), gO 17 (.mv (.s 6)), gO 18 (.ld (some 3) (.s 7)), gO 19 (.callv (.s 16) [.s 17, .s 18]), gO 8 (.mv (.s 19))]) (.seq (.reg [gO 20 (.mv (.s 8)), gO 21 (.bin .neq (.s 20) (cI 0))]) (.cond (.s 21) (.seq (.reg [gO 22 (.mv (.s 6)), gO 23 (.mv (.s 8)), gO 4 (.mv (.s 22)), gO 5 (.mv (.s 23))]) .ret) .skip))))) (.reg [gO 24 (.bin .add (.s 11) (cI 1)), gO 11 (.mv (.s 24))]))))))) (.seq (.reg [gO 4 (.mv (cI 0)), gO 5 (.mv (cI 0))]) .ret)))⟩
theorem mfW_q133 : MT.mf 133 = some mfW_l133 := by kernel_rfl
noncomputable def mfW_l134 : MF := ⟨23, [(.tmp 5)], (.seq (.reg [gO 4 (.box 3 (.s 1)), gO 5 (.mv (cI 0))]) (.seq (.reg [gO 6 (.fa 0 (.s 4)), gO 7 (.ld none (.s 6)), gO 8 (.call 106 [.s 7]), gO 9 (.call 105 [.s 8, (cI 4)]), gO 10 (.ld none (.s 2)), gO 11 (.fa 1 (.s 4)), gO 12 (.ld none (.s 11)), gO 13 (.callv (.s 10) [.s 12]), gO 14 (.mv (.s 13)), ⟨some (14, true), some 15, .ld none (.s 2)⟩, ⟨some (14, true), some 16, .fa 2 (.s 4)⟩, ⟨some (14, true), some 17, .ld none (.s 16)⟩, ⟨some (14, true), some 18, .callv (.s 15) [.s 17]⟩, gO 19 (.pick (.s 14) (.s 18) cF), gO 20 (.call 105 [.s 19, (cI 2)]), gO 21 (.bsl (.lit (.int .i64 0)) 1 2 [(0, (.s 9)), (1, (.s 20))]), gO 22 (.call 104 [.s 21]), gO 5 (.mv (.s 22))]) .ret))⟩
theorem mfW_q134 : MT.mf 134 = some mfW_l134 := by kernel_rfl
noncomputable def mfW_l135 : MF := ⟨18, [(.tmp 4)], (.seq (.reg [gO 4 (.mv (cI 0))]) (.seq (.reg [gO 8 (.mv (.s 0)), gO 9 (.call 46 [.s 8]), gO 7 (.mv (.s 9)), gO 10 (.ext (.s 7) 0), gO 11 (.ext (.s 7) 1), gO 5 (.mv (.s 10)), gO 6 (.mv (.s 11))]) (.seq (.reg [gO 12 (.mv (.s 6)), gO 13 (.mv (.s 1)), gO 14 (.call 103 [.s 13, (cI 0), (cI 100000)]), gO 15 (.call 105 [.s 14, (cI 2)]), gO 16 (.bsl (.lit (.int .i64 0)) 1 2 [(0, (.s 12)), (1, (.s 15))]), gO 17 (.call 104 [.s 16]), gO 4 (.mv (.s 17))]) .ret)))⟩
theorem mfW_q135 : MT.mf 135 = some mfW_l135 := by kernel_rfl
noncomputable def mfW_l136 : MF := ⟨29, [(.tmp 4)], (.seq (.reg [gO 2 (.box 3 (.s 0)), gO 4 (.mv cF)]) (.seq (.reg [gO 6 (.mv (.s 1)), gO 7 (.bin .rem (.s 6) (cI 365)), gO 5 (.mv (.s 7))]) (.seq (.seq (.reg [gO 8 (.fa 1 (.s 2)), gO 9 (.ld none (.s 8)), gO 10 (.fa 2 (.s 2)), gO 11 (.ld none (.s 10)), gO 12 (.bin .leq (.s 9) (.s 11))]) (.cond (.s 12) (.seq (.reg [gO 13 (.mv (.s 5)), gO 14 (.fa 1 (.s 2)), gO 15 (.ld none (.s 14)), gO 16 (.fa 2 (.s 2)), gO 17 (.ld none (.s 16)), gO 18 (.call 103 [.s 13, .s 15, .s 17]), gO 4 (.mv (.s 18))]) .ret) .skip)) (.seq (.reg [gO 19 (.mv (.s 5)), gO 20 (.fa 1 (.s 2)), gO 21 (.ld none (.s 20)), gO 22 (.bin .geq (.s 19) (.s 21)), gO 23 (.mv (.s 22)), ⟨some (23, false), some 24, .mv (.s 5)⟩, ⟨some (23, false), some 25, .fa 2 (.s 2)⟩, ⟨some (23, false), some 26, .ld none (.s 25)⟩, ⟨some (23, false), some 27, .bin .leq (.s 24) (.s 26)⟩, gO 28 (.pick (.s 23) cT (.s 27)), gO 4 (.mv (.s 28))]) .ret))))⟩
theorem mfW_q136 : MT.mf 136 = some mfW_l136 := by kernel_rfl
noncomputable def mfW_l137 : MF := ⟨9, [(.tmp 4)], (.seq (.reg [gO 4 (.mv cF)]) (.seq (.reg [gO 5 (.mv (.s 0)), gO 6 (.mv (.s 1)), gO 7 (.call 186 [.s 5, .s 6]), gO 8 (.bin .geq (.s 7) (cI 0)), gO 4 (.mv (.s 8))]) .ret))⟩
theorem mfW_q137 : MT.mf 137 = some mfW_l137 := by kernel_rfl
noncomputable def mfW_l138 : MF := ⟨7, [(.tmp 3)], (.seq (.reg [gO 2 (.box 3 (.s 0)), gO 3 (.mv cF)]) (.seq (.reg [gO 4 (.ld (some 3) (.s 2)), gO 5 (.ld none (.s 1)), gO 6 (.call 136 [.s 4, .s 5]), gO 3 (.mv (.s 6))]) .ret))⟩
theorem mfW_q138 : MT.mf 138 = some mfW_l138 := by kernel_rfl
noncomputable def mfW_l177 : MF := ⟨19, [(.tmp 4)], (.seq (.reg [gO 4 (.mv (cI 0))]) (.seq (.seq (.reg [gO 6 (.mv (.s 0)), gO 7 (.len (.s 6)), gO 8 (.mv (cI 0))]) (.block 0 (.loop [8, 7, 1, 0] (.seq (.reg [gO 9 (.bin .lss (.s 8) (.s 7))]) (.seq (.cond (.s 9) .skip (.exit 0)) (.seq (.block 1 (.seq (.reg [gO 10 (.mv (.s 8)), gO 5 (.mv (.s 10))]) (.seq (.reg [gO 11 (.mv (.s 1)), gO 12 (.mv (.s 0)), gO 13 (.mv (.s 5)), gO 14 (.ia 3 (.s 12) (.s 13)), gO 15 (.ld (some 3) (.s 14)), gO 16 (.callv (.s 11) [.s 15])]) (.cond (.s 16) (.seq (.reg [gO 17 (.mv (.s 5)), gO 4 (.mv (.s 17))]) .ret) .skip)))) (.reg [gO 18 (.bin .add (.s 8) (cI 1)), gO 8 (.mv (.s 18))]))))))) (.seq (.reg [gO 4 (.mv (cI (-1)))]) .ret)))⟩
theorem mfW_q177 : MT.mf 177 = some mfW_l177 := by kernel_rfl
noncomputable def mfW_l178 : MF := ⟨8, [(.tmp 2)], (.seq (.reg [gO 2 (.mv (cI 0))]) (.seq (.cond cF (.seq (.reg [gO 3 (.mv (.s 0)), gO 4 (.cv .u32 (.s 3)), gO 5 (.call 204 [.s 4]), gO 2 (.mv (.s 5))]) .ret) .skip) (.seq (.reg [gO 6 (.mv (.s 0)), gO 7 (.call 205 [.s 6]), gO 2 (.mv (.s 7))]) .ret)))⟩
theorem mfW_q178 : MT.mf 178 = some mfW_l178 := by kernel_rfl
noncomputable def mfW_l179 : MF := ⟨20, [(.tmp 4)], (.seq (.reg [gO 4 (.mv (cI 0))]) (.seq (.reg [gO 7 (.mv (.s 0)), gO 8 (.call 206 [.s 7]), gO 5 (.mv (.s 8))]) (.seq (.reg [gO 9 (.mv (.s 1)), gO 10 (.call 206 [.s 9]), gO 6 (.mv (.s 10))]) (.seq (.seq (.reg [gO 11 (.mv (.s 5))]) (.cond (.s 11) (.seq (.seq (.reg [gO 12 (.mv (.s 6))]) (.cond (.s 12) (.seq (.reg [gO 4 (.mv (cI 0))]) .ret) .skip)) (.seq (.reg [gO 4 (.mv (cI (-1)))]) .ret)) .skip)) (.seq (.seq (.reg [gO 13 (.mv (.s 6))]) (.cond (.s 13) (.seq (.reg [gO 4 (.mv (cI 1))]) .ret) .skip)) (.seq (.seq (.reg [gO 14 (.mv (.s 0)), gO 15 (.mv (.s 1)), gO 16 (.bin .lss (.s 14) (.s 15))]) (.cond (.s 16) (.seq (.reg [gO 4 (.mv (cI (-1)))]) .ret) .skip)) (.seq (.seq (.reg [gO 17 (.mv (.s 0)), gO 18 (.mv (.s 1)), gO 19 (.bin .gtr (.s 17) (.s 18))]) (.cond (.s 19) (.seq (.reg [gO 4 (.mv (cI 1))]) .ret) .skip)) (.seq (.reg [gO 4 (.mv (cI 0))]) .ret))))))))⟩
theorem mfW_q179 : MT.mf 179 = some mfW_l179 := by kernel_rfl
noncomputable def mfW_l180 : MF := ⟨15, [(.tmp 4)], (.seq (.reg [gO 4 (.mv (cI 0))]) (.seq (.block 0 (.loop [1, 0] (.seq (.seq (.reg [gO 5 (.mv (.s 1)), gO 6 (.bin .neq (.s 5) (cI 0))]) (.cond (.s 6) .skip (.exit 0))) (.block 1 (.reg [gO 7 (.mv (.s 1)), gO 8 (.mv (.s 0)), gO 9 (.mv (.s 1)), gO 10 (.bin .rem (.s 8) (.s 9)), gO 0 (.mv (.s 7)), gO 1 (.mv (.s 10))]))))) (.seq (.reg [gO 11 (.mv (.s 0)), gO 12 (.mv (.s 0)), gO 13 (.un .neg (.s 12)), gO 14 (.mx (.s 11) (.s 13)), gO 4 (.mv (.s 14))]) .ret)))⟩
theorem mfW_q180 : MT.mf 180 = some mfW_l180 := by kernel_rfl
noncomputable def mfW_l181 : MF := ⟨148, [], (.seq (.reg [gO 10 (.mv cT)]) (.seq (.reg [gO 11 (.mv cT)]) (.block 0 (.loop [2, 1, 0, 4, 3, 10, 11] (.block 1 (.seq (.reg [gO 21 (.mv (.s 2)), gO 22 (.mv (.s 1)), gO 23 (.bin .sub (.s 21) (.s 22)), gO 12 (.mv (.s 23))]) (.seq (.seq (.reg [gO 24 (.mv (.s 12)), gO 25 (.bin .leq (.s 24) (cI 12))]) (.cond (.s 25) (.seq (.reg [gO 26 (.mv (.s 0)), gO 27 (.mv (.s 1)), gO 28 (.mv (.s 2)), gO 29 (.mv (.s 4)), gO 30 (.call 207 [.s 26, .s 27, .s 28, .s 29])]) .ret) .skip)) (.seq (.seq (.reg [gO 31 (.mv (.s 3)), gO 32 (.bin .eql (.s 31) (cI 0))]) (.cond (.s 32) (.seq (.reg [gO 33 (.mv (.s 0)), gO 34 (.mv (.s 1)), gO 35 (.mv (.s 2)), gO 36 (.mv (.s 4)), gO 37 (.call 208 [.s 33, .s 34, .s 35, .s 36])]) .ret) .skip)) (.seq (.seq (.reg [gO 38 (.mv (.s 10)), gO 39 (.un .not (.s 38))]) (.cond (.s 39) (.seq (.reg [gO 40 (.mv (.s 0)), gO 41 (.mv (.s 1)), gO 42 (.mv (.s 2)), gO 43 (.mv (.s 4)), gO 44 (.call 209 [.s 40, .s 41, .s 42, .s 43])]) (.reg [gO 45 (.mv (.s 3)), gO 46 (.bin .sub (.s 45) (cI 1)), gO 3 (.mv (.s 46))])) .skip)) (.seq (.reg [gO 48 (.mv (.s 0)), gO 49 (.mv (.s 1)), gO 50 (.mv (.s 2)), gO 51 (.mv (.s 4)), gO 52 (.call 210 [.s 48, .s 49, .s 50, .s 51]), gO 47 (.mv (.s 52)), gO 53 (.ext (.s 47) 0), gO 54 (.ext (.s 47) 1), gO 13 (.mv (.s 53)), gO 14 (.mv (.s 54))]) (.seq (.seq (.reg [gO 55 (.mv (.s 14)), gO 56 (.bin .eql (.s 55) (cI 2))]) (.cond (.s 56) (.seq (.reg [gO 57 (.mv (.s 0)), gO 58 (.mv (.s 1)), gO 59 (.mv (.s 2)), gO 60 (.mv (.s 4)), gO 61 (.call 211 [.s 57, .s 58, .s 59, .s 60])]) (.seq (.reg [gO 62 (.mv (.s 2)), gO 63 (.bin .sub (.s 62) (cI 1)), gO 64 (.mv (.s 13)), gO 65 (.mv (.s 1)), gO 66 (.bin .sub (.s 64) (.s 65)), gO 67 (.bin .sub (.s 63) (.s 66)), gO 13 (.mv (.s 67))]) (.reg [gO 14 (.mv (cI 1))]))) .skip)) (.seq (.seq (.reg [gO 68 (.mv (.s 10)), gO 69 (.mv (.s 68)), ⟨some (69, true), some 70, .mv (.s 11)⟩, gO 71 (.pick (.s 69) (.s 70) cF), gO 72 (.mv (.s 71)), ⟨some (72, true), some 73, .mv (.s 14)⟩, ⟨some (72, true), some 74, .bin .eql (.s 73) (cI 1)⟩, gO 75 (.pick (.s 72) (.s 74) cF)]) (.cond (.s 75) (.seq (.reg [gO 76 (.mv (.s 0)), gO 77 (.mv (.s 1)), gO 78 (.mv (.s 2)), gO 79 (.mv (.s 4)), gO 80 (.call 212 [.s 76, .s 77, .s 78, .s 79])]) (.cond (.s 80) .ret .skip)) .skip)) (.seq (.seq (.reg [gO 81 (.mv (.s 1)), gO 82 (.bin .gtr (.s 81) (cI 0)), gO 83 (.mv (.s 82)), ⟨some (83, true), some 84, .mv (.s 4)⟩, ⟨some (83, true), some 85, .mv (.s 0)⟩, ⟨some (83, true), some 86, .mv (.s 1)⟩, ⟨some (83, true), some 87, .bin .sub (.s 86) (cI 1)⟩, ⟨some (83, true), some 88, .ia 2 (.s 85) (.s 87)⟩, ⟨some (83, true), some 89, .ld (some 2) (.s 88)⟩, ⟨some (83, true), some 90, .mv (.s 0)⟩, ⟨some (83, true), some 91, .mv (.s 13)⟩, ⟨some (83, true), some 92, .ia 2 (.s 90) (.s 91)⟩, ⟨some (83, true), some 93, .ld (some 2) (.s 92)⟩, ⟨some (83, true), some 94, .callv (.s 84) [.s 89, .s 93]⟩, ⟨some (83, true), some 95, .bin .lss (.s 94) (cI 0)⟩, ⟨some (83, true), some 96, .un .not (.s 95)⟩, gO 97 (.pick (.s 83) (.s 96) cF)]) (.cond (.s 97) (.seq (.reg [gO 98 (.mv (.s 0)), gO 99 (.mv (.s 1)), gO 100 (.mv (.s 2)), gO 101 (.mv (.s 13)), gO 102 (.mv (.s 4)), gO 103 (.call 213 [.s 98, .s 99, .s 100, .s 101, .s 102]), gO 15 (.mv (.s 103))]) (.seq (.reg [gO 104 (.mv (.s 15)), gO 1 (.mv (.s 104))]) (.exit 1))) .skip)) (.seq (.reg [gO 106 (.mv (.s 0)), gO 107 (.mv (.s 1)), gO 108 (.mv (.s 2)), gO 109 (.mv (.s 13)), gO 110 (.mv (.s 4)), gO 111 (.call 214 [.s 106, .s 107, .s 108, .s 109, .s 110]), gO 105 (.mv (.s 111)), gO 112 (.ext (.s 105) 0), gO 113 (.ext (.s 105) 1), gO 16 (.mv (.s 112)), gO 17 (.mv (.s 113))]) (.seq (.reg [gO 114 (.mv (.s 17)), gO 11 (.mv (.s 114))]) (.seq (.reg [gO 115 (.mv (.s 16)), gO 116 (.mv (.s 1)), gO 117 (.bin .sub (.s 115) (.s 116)), gO 118 (.mv (.s 2)), gO 119 (.mv (.s 16)), gO 120 (.bin .sub (.s 118) (.s 119)), gO 18 (.mv (.s 117)), gO 19 (.mv (.s 120))]) (.seq (.reg [gO 121 (.mv (.s 12)), gO 122 (.bin .quo (.s 121) (cI 8)), gO 20 (.mv (.s 122))]) (.seq (.reg [gO 123 (.mv (.s 18)), gO 124 (.mv (.s 19)), gO 125 (.bin .lss (.s 123) (.s 124))]) (.cond (.s 125) (.seq (.reg [gO 126 (.mv (.s 18)), gO 127 (.mv (.s 20)), gO 128 (.bin .geq (.s 126) (.s 127)), gO 10 (.mv (.s 128))]) (.seq (.reg [gO 129 (.mv (.s 0)), gO 130 (.mv (.s 1)), gO 131 (.mv (.s 16)), gO 132 (.mv (.s 3)), gO 133 (.mv (.s 4)), gO 134 (.call 181 [.s 129, .s 130, .s 131, .s 132, .s 133])]) (.reg [gO 135 (.mv (.s 16)), gO 136 (.bin .add (.s 135) (cI 1)), gO 1 (.mv (.s 136))]))) (.seq (.reg [gO 137 (.mv (.s 19)), gO 138 (.mv (.s 20)), gO 139 (.bin .geq (.s 137) (.s 138)), gO 10 (.mv (.s 139))]) (.seq (.reg [gO 140 (.mv (.s 0)), gO 141 (.mv (.s 16)), gO 142 (.bin .add (.s 141) (cI 1)), gO 143 (.mv (.s 2)), gO 144 (.mv (.s 3)), gO 145 (.mv (.s 4)), gO 146 (.call 181 [.s 140, .s 142, .s 143, .s 144, .s 145])]) (.reg [gO 147 (.mv (.s 16)), gO 2 (.mv (.s 147))]))))))))))))))))))))))⟩
theorem mfW_q181 : MT.mf 181 = some mfW_l181 := by kernel_rfl
noncomputable def mfW_l182 : MF := ⟨8, [(.tmp 2)], (.seq (.reg [gO 2 (.mv (cI 0))]) (.seq (.cond cF (.seq (.reg [gO 3 (.mv (.s 0)), gO 4 (.cv .u32 (.s 3)), gO 5 (.call 215 [.s 4]), gO 2 (.mv (.s 5))]) .ret) .skip) (.seq (.reg [gO 6 (.mv (.s 0)), gO 7 (.call 216 [.s 6]), gO 2 (.mv (.s 7))]) .ret)))⟩
theorem mfW_q182 : MT.mf 182 = some mfW_l182 := by kernel_rfl
noncomputable def mfW_l186 : MF := ⟨19, [(.tmp 4)], (.seq (.reg [gO 4 (.mv (cI 0))]) (.seq (.seq (.reg [gO 6 (.mv (.s 0)), gO 7 (.len (.s 6)), gO 8 (.mv (cI 0))]) (.block 0 (.loop [8, 7, 1, 0] (.seq (.reg [gO 9 (.bin .lss (.s 8) (.s 7))]) (.seq (.cond (.s 9) .skip (.exit 0)) (.seq (.block 1 (.seq (.reg [gO 10 (.mv (.s 8)), gO 5 (.mv (.s 10))]) (.seq (.reg [gO 11 (.mv (.s 1)), gO 12 (.mv (.s 0)), gO 13 (.mv (.s 5)), gO 14 (.ia 3 (.s 12) (.s 13)), gO 15 (.ld (some 3) (.s 14)), gO 16 (.callv (.s 11) [.s 15])]) (.cond (.s 16) (.seq (.reg [gO 17 (.mv (.s 5)), gO 4 (.mv (.s 17))]) .ret) .skip)))) (.reg [gO 18 (.bin .add (.s 8) (cI 1)), gO 8 (.mv (.s 18))]))))))) (.seq (.reg [gO 4 (.mv (cI (-1)))]) .ret)))⟩
theorem mfW_q186 : MT.mf 186 = some mfW_l186 := by kernel_rfl
noncomputable def mfW_l204 : MF := ⟨14, [(.tmp 2)], (.seq (.reg [gO 2 (.mv (cI 0))]) (.seq (.seq (.reg [gO 3 (.mv (.s 0)), gO 4 (.bin .eql (.s 3) (.c (.lit (.int .u32 0))))]) (.cond (.s 4) (.seq (.reg [gO 2 (.mv (cI 32))]) .ret) .skip)) (.seq (.reg [gO 5 (.mv (.s 0)), gO 6 (.mv (.s 0)), gO 7 (.un .neg (.s 6)), gO 8 (.bin .and (.s 5) (.s 7)), gO 9 (.bin .mul (.s 8) (.c (.lit (.int .u32 125613361)))), gO 10 (.shf .shr (.s 9) (.c (.lit (.int .u64 27)))), gO 11 (.bad), gO 12 (.ld none (.s 11)), gO 13 (.cv .i64 (.s 12)), gO 2 (.mv (.s 13))]) .ret)))⟩
theorem mfW_q204 : MT.mf 204 = some mfW_l204 := by kernel_rfl
noncomputable def mfW_l205 : MF := ⟨14, [(.tmp 2)], (.seq (.reg [gO 2 (.mv (cI 0))]) (.seq (.seq (.reg [gO 3 (.mv (.s 0)), gO 4 (.bin .eql (.s 3) (.c (.lit (.int .u64 0))))]) (.cond (.s 4) (.seq (.reg [gO 2 (.mv (cI 64))]) .ret) .skip)) (.seq (.reg [gO 5 (.mv (.s 0)), gO 6 (.mv (.s 0)), gO 7 (.un .neg (.s 6)), gO 8 (.bin .and (.s 5) (.s 7)), gO 9 (.bin .mul (.s 8) (.c (.lit (.int .u64 285870213051353865)))), gO 10 (.shf .shr (.s 9) (.c (.lit (.int .u64 58)))), gO 11 (.bad), gO 12 (.ld none (.s 11)), gO 13 (.cv .i64 (.s 12)), gO 2 (.mv (.s 13))]) .ret)))⟩
theorem mfW_q205 : MT.mf 205 = some mfW_l205 := by kernel_rfl
noncomputable def mfW_l206 : MF := ⟨6, [(.tmp 2)], (.seq (.reg [gO 2 (.mv cF)]) (.seq (.reg [gO 3 (.mv (.s 0)), gO 4 (.mv (.s 0)), gO 5 (.bin .neq (.s 3) (.s 4)), gO 2 (.mv (.s 5))]) .ret))⟩
theorem mfW_q206 : MT.mf 206 = some mfW_l206 := by kernel_rfl
noncomputable def mfW_l207 : MF := ⟨53, [], (.seq (.reg [gO 10 (.mv (.s 1)), gO 11 (.bin .add (.s 10) (cI 1)), gO 8 (.mv (.s 11))]) (.block 0 (.loop [8, 2, 1, 3, 0] (.seq (.seq (.reg [gO 12 (.mv (.s 8)), gO 13 (.mv (.s 2)), gO 14 (.bin .lss (.s 12) (.s 13))]) (.cond (.s 14) .skip (.exit 0))) (.seq (.block 1 (.seq (.reg [gO 17 (.mv (.s 8)), gO 9 (.mv (.s 17))]) (.block 2 (.loop [9, 1, 3, 0, 8, 2] (.seq (.seq (.reg [gO 18 (.mv (.s 9)), gO 19 (.mv (.s 1)), gO 20 (.bin .gtr (.s 18) (.s 19)), gO 21 (.mv (.s 20)), ⟨some (21, true), some 22, .mv (.s 3)⟩, ⟨some (21, true), some 23, .mv (.s 0)⟩, ⟨some (21, true), some 24, .mv (.s 9)⟩, ⟨some (21, true), some 25, .ia 2 (.s 23) (.s 24)⟩, ⟨some (21, true), some 26, .ld (some 2) (.s 25)⟩, ⟨some (21, true), some 27, .mv (.s 0)⟩, ⟨some (21, true), some 28, .mv (.s 9)⟩, ⟨some (21, true), some 29, .bin .sub (.s 28) (cI 1)⟩, ⟨some (21, true), some 30, .ia 2 (.s 27) (.s 29)⟩, ⟨some (21, true), some 31, .ld (some 2) (.s 30)⟩, ⟨some (21, true), some 32, .callv (.s 22) [.s 26, .s 31]⟩, ⟨some (21, true), some 33, .bin .lss (.s 32) (cI 0)⟩, gO 34 (.pick (.s 21) (.s 33) cF)]) (.cond (.s 34) .skip (.exit 2))) (.seq (.block 3 (.reg [gO 37 (.mv (.s 0)), gO 38 (.mv (.s 9)), gO 39 (.mv (.s 0)), gO 40 (.mv (.s 9)), gO 41 (.bin .sub (.s 40) (cI 1)), gO 42 (.mv (.s 0)), gO 43 (.mv (.s 9)), gO 44 (.bin .sub (.s 43) (cI 1)), gO 45 (.ia 2 (.s 42) (.s 44)), gO 46 (.ld (some 2) (.s 45)), gO 47 (.mv (.s 0)), gO 48 (.mv (.s 9)), gO 49 (.ia 2 (.s 47) (.s 48)), gO 50 (.ld (some 2) (.s 49)), gO 51 (.ia 2 (.s 37) (.s 38)), ⟨none, none, .st 2 (.s 51) (.s 46)⟩, gO 52 (.ia 2 (.s 39) (.s 41)), ⟨none, none, .st 2 (.s 52) (.s 50)⟩])) (.reg [gO 35 (.mv (.s 9)), gO 36 (.bin .sub (.s 35) (cI 1)), gO 9 (.mv (.s 36))]))))))) (.reg [gO 15 (.mv (.s 8)), gO 16 (.bin .add (.s 15) (cI 1)), gO 8 (.mv (.s 16))]))))))⟩
theorem mfW_q207 : MT.mf 207 = some mfW_l207 := by kernel_rfl
noncomputable def mfW_l208 : MF := ⟨60, [], (.seq (.reg [gO 13 (.mv (.s 1)), gO 8 (.mv (.s 13))]) (.seq (.reg [gO 9 (.mv (cI 0))]) (.seq (.reg [gO 14 (.mv (.s 2)), gO 15 (.mv (.s 1)), gO 16 (.bin .sub (.s 14) (.s 15)), gO 10 (.mv (.s 16))]) (.seq (.seq (.reg [gO 17 (.mv (.s 10)), gO 18 (.bin .sub (.s 17) (cI 1)), gO 19 (.bin .quo (.s 18) (cI 2)), gO 11 (.mv (.s 19))]) (.block 0 (.loop [11, 0, 10, 8, 3, 9] (.seq (.seq (.reg [gO 20 (.mv (.s 11)), gO 21 (.bin .geq (.s 20) (cI 0))]) (.cond (.s 21) .skip (.exit 0))) (.seq (.block 1 (.reg [gO 24 (.mv (.s 0)), gO 25 (.mv (.s 11)), gO 26 (.mv (.s 10)), gO 27 (.mv (.s 8)), gO 28 (.mv (.s 3)), gO 29 (.call 222 [.s 24, .s 25, .s 26, .s 27, .s 28])])) (.reg [gO 22 (.mv (.s 11)), gO 23 (.bin .sub (.s 22) (cI 1)), gO 11 (.mv (.s 23))])))))) (.seq (.reg [gO 30 (.mv (.s 10)), gO 31 (.bin .sub (.s 30) (cI 1)), gO 12 (.mv (.s 31))]) (.block 2 (.loop [12, 0, 8, 9, 3] (.seq (.seq (.reg [gO 32 (.mv (.s 12)), gO 33 (.bin .geq (.s 32) (cI 0))]) (.cond (.s 33) .skip (.exit 2))) (.seq (.block 3 (.seq (.reg [gO 36 (.mv (.s 0)), gO 37 (.mv (.s 8)), gO 38 (.mv (.s 0)), gO 39 (.mv (.s 8)), gO 40 (.mv (.s 12)), gO 41 (.bin .add (.s 39) (.s 40)), gO 42 (.mv (.s 0)), gO 43 (.mv (.s 8)), gO 44 (.mv (.s 12)), gO 45 (.bin .add (.s 43) (.s 44)), gO 46 (.ia 2 (.s 42) (.s 45)), gO 47 (.ld (some 2) (.s 46)), gO 48 (.mv (.s 0)), gO 49 (.mv (.s 8)), gO 50 (.ia 2 (.s 48) (.s 49)), gO 51 (.ld (some 2) (.s 50)), gO 52 (.ia 2 (.s 36) (.s 37)), ⟨none, none, .st 2 (.s 52) (.s 47)⟩, gO 53 (.ia 2 (.s 38) (.s 41)), ⟨none, none, .st 2 (.s 53) (.s 51)⟩]) (.reg [gO 54 (.mv (.s 0)), gO 55 (.mv (.s 9)), gO 56 (.mv (.s 12)), gO 57 (.mv (.s 8)), gO 58 (.mv (.s 3)), gO 59 (.call 222 [.s 54, .s 55, .s 56, .s 57, .s 58])]))) (.reg [gO 34 (.mv (.s 12)), gO 35 (.bin .sub (.s 34) (cI 1)), gO 12 (.mv (.s 35))]))))))))))⟩
theorem mfW_q208 : MT.mf 208 = some mfW_l208 := by kernel_rfl
noncomputable def mfW_l209 : MF := ⟨67, [], (.seq (.reg [gO 13 (.mv (.s 2)), gO 14 (.mv (.s 1)), gO 15 (.bin .sub (.s 13) (.s 14)), gO 8 (.mv (.s 15))]) (.seq (.reg [gO 16 (.mv (.s 8)), gO 17 (.bin .geq (.s 16) (cI 8))]) (.cond (.s 17) (.seq (.reg [gO 18 (.mv (.s 8)), gO 19 (.cv .u64 (.s 18)), gO 9 (.new (.lit (.int .u64 0))), ⟨none, none, .st 1 (.s 9) (.s 19)⟩]) (.seq (.reg [gO 20 (.mv (.s 8)), gO 21 (.call 223 [.s 20]), gO 10 (.mv (.s 21))]) (.seq (.reg [gO 22 (.mv (.s 1)), gO 23 (.mv (.s 8)), gO 24 (.bin .quo (.s 23) (cI 4)), gO 25 (.bin .mul (.s 24) (cI 2)), gO 26 (.bin .add (.s 22) (.s 25)), gO 27 (.bin .sub (.s 26) (cI 1)), gO 11 (.mv (.s 27))]) (.block 0 (.loop [11, 1, 8, 9, 10, 0] (.seq (.seq (.reg [gO 28 (.mv (.s 11)), gO 29 (.mv (.s 1)), gO 30 (.mv (.s 8)), gO 31 (.bin .quo (.s 30) (cI 4)), gO 32 (.bin .mul (.s 31) (cI 2)), gO 33 (.bin .add (.s 29) (.s 32)), gO 34 (.bin .add (.s 33) (cI 1)), gO 35 (.bin .leq (.s 28) (.s 34))]) (.cond (.s 35) .skip (.exit 0))) (.seq (.block 1 (.seq (.reg [gO 38 (.call 224 [.s 9]), gO 39 (.mv (.s 10)), gO 40 (.bin .sub (.s 39) (.c (.lit (.int .u64 1)))), gO 41 (.bin .and (.s 38) (.s 40)), gO 42 (.cv .i64 (.s 41)), gO 12 (.mv (.s 42))]) (.seq (.seq (.reg [gO 43 (.mv (.s 12)), gO 44 (.mv (.s 8)), gO 45 (.bin .geq (.s 43) (.s 44))]) (.cond (.s 45) (.reg [gO 46 (.mv (.s 12)), gO 47 (.mv (.s 8)), gO 48 (.bin .sub (.s 46) (.s 47)), gO 12 (.mv (.s 48))]) .skip)) (.reg [gO 49 (.mv (.s 0)), gO 50 (.mv (.s 11)), gO 51 (.mv (.s 0)), gO 52 (.mv (.s 1)), gO 53 (.mv (.s 12)), gO 54 (.bin .add (.s 52) (.s 53)), gO 55 (.mv (.s 0)), gO 56 (.mv (.s 1)), gO 57 (.mv (.s 12)), gO 58 (.bin .add (.s 56) (.s 57)), gO 59 (.ia 2 (.s 55) (.s 58)), gO 60 (.ld (some 2) (.s 59)), gO 61 (.mv (.s 0)), gO 62 (.mv (.s 11)), gO 63 (.ia 2 (.s 61) (.s 62)), gO 64 (.ld (some 2) (.s 63)), gO 65 (.ia 2 (.s 49) (.s 50)), ⟨none, none, .st 2 (.s 65) (.s 60)⟩, gO 66 (.ia 2 (.s 51) (.s 54)), ⟨none, none, .st 2 (.s 66) (.s 64)⟩])))) (.reg [gO 36 (.mv (.s 11)), gO 37 (.bin .add (.s 36) (cI 1)), gO 11 (.mv (.s 37))])))))))) .skip)))⟩
theorem mfW_q209 : MT.mf 209 = some mfW_l209 := by kernel_rfl
noncomputable def mfW_l210 : MF := ⟨63, [(.tmp 8), (.tmp 9)], (.seq (.reg [gO 8 (.mv (cI 0)), gO 9 (.mv (cI 0))]) (.seq (.reg [gO 15 (.mv (.s 2)), gO 16 (.mv (.s 1)), gO 17 (.bin .sub (.s 15) (.s 16)), gO 10 (.mv (.s 17))]) (.seq (.reg [gO 11 (.new (.lit (.int .i64 0)))]) (.seq (.reg [gO 18 (.mv (.s 1)), gO 19 (.mv (.s 10)), gO 20 (.bin .quo (.s 19) (cI 4)), gO 21 (.bin .mul (.s 20) (cI 1)), gO 22 (.bin .add (.s 18) (.s 21)), gO 12 (.mv (.s 22))]) (.seq (.reg [gO 23 (.mv (.s 1)), gO 24 (.mv (.s 10)), gO 25 (.bin .quo (.s 24) (cI 4)), gO 26 (.bin .mul (.s 25) (cI 2)), gO 27 (.bin .add (.s 23) (.s 26)), gO 13 (.mv (.s 27))]) (.seq (.reg [gO 28 (.mv (.s 1)), gO 29 (.mv (.s 10)), gO 30 (.bin .quo (.s 29) (cI 4)), gO 31 (.bin .mul (.s 30) (cI 3)), gO 32 (.bin .add (.s 28) (.s 31)), gO 14 (.mv (.s 32))]) (.seq (.seq (.reg [gO 33 (.mv (.s 10)), gO 34 (.bin .geq (.s 33) (cI 8))]) (.cond (.s 34) (.seq (.seq (.reg [gO 35 (.mv (.s 10)), gO 36 (.bin .geq (.s 35) (cI 50))]) (.cond (.s 36) (.seq (.reg [gO 37 (.mv (.s 0)), gO 38 (.mv (.s 12)), gO 39 (.mv (.s 3)), gO 40 (.call 225 [.s 37, .s 38, .s 11, .s 39]), gO 12 (.mv (.s 40))]) (.seq (.reg [gO 41 (.mv (.s 0)), gO 42 (.mv (.s 13)), gO 43 (.mv (.s 3)), gO 44 (.call 225 [.s 41, .s 42, .s 11, .s 43]), gO 13 (.mv (.s 44))]) (.reg [gO 45 (.mv (.s 0)), gO 46 (.mv (.s 14)), gO 47 (.mv (.s 3)), gO 48 (.call 225 [.s 45, .s 46, .s 11, .s 47]), gO 14 (.mv (.s 48))]))) .skip)) (.reg [gO 49 (.mv (.s 0)), gO 50 (.mv (.s 12)), gO 51 (.mv (.s 13)), gO 52 (.mv (.s 14)), gO 53 (.mv (.s 3)), gO 54 (.call 226 [.s 49, .s 50, .s 51, .s 52, .s 11, .s 53]), gO 13 (.mv (.s 54))])) .skip)) (.seq (.reg [gO 55 (.ld none (.s 11))]) (.block 0 (.seq (.reg [gO 58 (.bin .eql (.s 55) (cI 0)), gO 57 (.mv (.s 58))]) (.cond (.s 57) (.seq (.reg [gO 59 (.mv (.s 13)), gO 8 (.mv (.s 59)), gO 9 (.mv (cI 1))]) .ret) (.seq (.reg [gO 61 (.bin .eql (.s 55) (cI 12)), gO 60 (.mv (.s 61))]) (.cond (.s 60) (.seq (.reg [gO 62 (.mv (.s 13)), gO 8 (.mv (.s 62)), gO 9 (.mv (cI 2))]) .ret) (.seq (.reg [gO 56 (.mv (.s 13)), gO 8 (.mv (.s 56)), gO 9 (.mv (cI 0))]) .ret))))))))))))))⟩
theorem mfW_q210 : MT.mf 210 = some mfW_l210 := by kernel_rfl
noncomputable def mfW_l211 : MF := ⟨34, [], (.seq (.reg [gO 10 (.mv (.s 1)), gO 8 (.mv (.s 10))]) (.seq (.reg [gO 11 (.mv (.s 2)), gO 12 (.bin .sub (.s 11) (cI 1)), gO 9 (.mv (.s 12))]) (.block 0 (.loop [8, 9, 0] (.seq (.seq (.reg [gO 13 (.mv (.s 8)), gO 14 (.mv (.s 9)), gO 15 (.bin .lss (.s 13) (.s 14))]) (.cond (.s 15) .skip (.exit 0))) (.block 1 (.seq (.reg [gO 16 (.mv (.s 0)), gO 17 (.mv (.s 8)), gO 18 (.mv (.s 0)), gO 19 (.mv (.s 9)), gO 20 (.mv (.s 0)), gO 21 (.mv (.s 9)), gO 22 (.ia 2 (.s 20) (.s 21)), gO 23 (.ld (some 2) (.s 22)), gO 24 (.mv (.s 0)), gO 25 (.mv (.s 8)), gO 26 (.ia 2 (.s 24) (.s 25)), gO 27 (.ld (some 2) (.s 26)), gO 28 (.ia 2 (.s 16) (.s 17)), ⟨none, none, .st 2 (.s 28) (.s 23)⟩, gO 29 (.ia 2 (.s 18) (.s 19)), ⟨none, none, .st 2 (.s 29) (.s 27)⟩]) (.seq (.reg [gO 30 (.mv (.s 8)), gO 31 (.bin .add (.s 30) (cI 1)), gO 8 (.mv (.s 31))]) (.reg [gO 32 (.mv (.s 9)), gO 33 (.bin .sub (.s 32) (cI 1)), gO 9 (.mv (.s 33))])))))))))⟩
theorem mfW_q211 : MT.mf 211 = some mfW_l211 := by kernel_rfl
noncomputable def mfW_l212 : MF := ⟨141, [(.tmp 8)], (.seq (.reg [gO 8 (.mv cF)]) (.seq (.reg [gO 13 (.mv (.s 1)), gO 14 (.bin .add (.s 13) (cI 1)), gO 9 (.mv (.s 14))]) (.seq (.seq (.reg [gO 10 (.mv (cI 0))]) (.block 0 (.loop [10, 9, 2, 3, 0, 1] (.seq (.seq (.reg [gO 15 (.mv (.s 10)), gO 16 (.bin .lss (.s 15) (cI 5))]) (.cond (.s 16) .skip (.exit 0))) (.seq (.block 1 (.seq (.block 2 (.loop [9, 2, 3, 0, 1, 10] (.seq (.seq (.reg [gO 19 (.mv (.s 9)), gO 20 (.mv (.s 2)), gO 21 (.bin .lss (.s 19) (.s 20)), gO 22 (.mv (.s 21)), ⟨some (22, true), some 23, .mv (.s 3)⟩, ⟨some (22, true), some 24, .mv (.s 0)⟩, ⟨some (22, true), some 25, .mv (.s 9)⟩, ⟨some (22, true), some 26, .ia 2 (.s 24) (.s 25)⟩, ⟨some (22, true), some 27, .ld (some 2) (.s 26)⟩, ⟨some (22, true), some 28, .mv (.s 0)⟩, ⟨some (22, true), some 29, .mv (.s 9)⟩, ⟨some (22, true), some 30, .bin .sub (.s 29) (cI 1)⟩, ⟨some (22, true), some 31, .ia 2 (.s 28) (.s 30)⟩, ⟨some (22, true), some 32, .ld (some 2) (.s 31)⟩, ⟨some (22, true), some 33, .callv (.s 23) [.s 27, .s 32]⟩, ⟨some (22, true), some 34, .bin .lss (.s 33) (cI 0)⟩, ⟨some (22, true), some 35, .un .not (.s 34)⟩, gO 36 (.pick (.s 22) (.s 35) cF)]) (.cond (.s 36) .skip (.exit 2))) (.block 3 (.reg [gO 37 (.mv (.s 9)), gO 38 (.bin .add (.s 37) (cI 1)), gO 9 (.mv (.s 38))]))))) (.seq (.seq (.reg [gO 39 (.mv (.s 9)), gO 40 (.mv (.s 2)), gO 41 (.bin .eql (.s 39) (.s 40))]) (.cond (.s 41) (.seq (.reg [gO 8 (.mv cT)]) .ret) .skip)) (.seq (.seq (.reg [gO 42 (.mv (.s 2)), gO 43 (.mv (.s 1)), gO 44 (.bin .sub (.s 42) (.s 43)), gO 45 (.bin .lss (.s 44) (cI 50))]) (.cond (.s 45) (.seq (.reg [gO 8 (.mv cF)]) .ret) .skip)) (.seq (.reg [gO 46 (.mv (.s 0)), gO 47 (.mv (.s 9)), gO 48 (.mv (.s 0)), gO 49 (.mv (.s 9)), gO 50 (.bin .sub (.s 49) (cI 1)), gO 51 (.mv (.s 0)), gO 52 (.mv (.s 9)), gO 53 (.bin .sub (.s 52) (cI 1)), gO 54 (.ia 2 (.s 51) (.s 53)), gO 55 (.ld (some 2) (.s 54)), gO 56 (.mv (.s 0)), gO 57 (.mv (.s 9)), gO 58 (.ia 2 (.s 56) (.s 57)), gO 59 (.ld (some 2) (.s 58)), gO 60 (.ia 2 (.s 46) (.s 47)), ⟨none, none, .st 2 (.s 60) (.s 55)⟩, gO 61 (.ia 2 (.s 48) (.s 50)), ⟨none, none, .st 2 (.s 61) (.s 59)⟩]) (.seq (.seq (.reg [gO 62 (.mv (.s 9)), gO 63 (.mv (.s 1)), gO 64 (.bin .sub (.s 62) (.s 63)), gO 65 (.bin .geq (.s 64) (cI 2))]) (.cond (.s 65) (.seq (.reg [gO 66 (.mv (.s 9)), gO 67 (.bin .sub (.s 66) (cI 1)), gO 11 (.mv (.s 67))]) (.block 4 (.loop [11, 3, 0, 2, 9, 10, 1] (.seq (.seq (.reg [gO 68 (.mv (.s 11)), gO 69 (.bin .geq (.s 68) (cI 1))]) (.cond (.s 69) .skip (.exit 4))) (.seq (.block 5 (.seq (.seq (.reg [gO 72 (.mv (.s 3)), gO 73 (.mv (.s 0)), gO 74 (.mv (.s 11)), gO 75 (.ia 2 (.s 73) (.s 74)), gO 76 (.ld (some 2) (.s 75)), gO 77 (.mv (.s 0)), gO 78 (.mv (.s 11)), gO 79 (.bin .sub (.s 78) (cI 1)), gO 80 (.ia 2 (.s 77) (.s 79)), gO 81 (.ld (some 2) (.s 80)), gO 82 (.callv (.s 72) [.s 76, .s 81]), gO 83 (.bin .lss (.s 82) (cI 0)), gO 84 (.un .not (.s 83))]) (.cond (.s 84) (.exit 4) .skip)) (.reg [gO 85 (.mv (.s 0)), gO 86 (.mv (.s 11)), gO 87 (.mv (.s 0)), gO 88 (.mv (.s 11)), gO 89 (.bin .sub (.s 88) (cI 1)), gO 90 (.mv (.s 0)), gO 91 (.mv (.s 11)), gO 92 (.bin .sub (.s 91) (cI 1)), gO 93 (.ia 2 (.s 90) (.s 92)), gO 94 (.ld (some 2) (.s 93)), gO 95 (.mv (.s 0)), gO 96 (.mv (.s 11)), gO 97 (.ia 2 (.s 95) (.s 96)), gO 98 (.ld (some 2) (.s 97)), gO 99 (.ia 2 (.s 85) (.s 86)), ⟨none, none, .st 2 (.s 99) (.s 94)⟩, gO 100 (.ia 2 (.s 87) (.s 89)), ⟨none, none, .st 2 (.s 100) (.s 98)⟩]))) (.reg [gO 70 (.mv (.s 11)), gO 71 (.bin .sub (.s 70) (cI 1)), gO 11 (.mv (.s 71))])))))) .skip)) (.seq (.reg [gO 101 (.mv (.s 2)), gO 102 (.mv (.s 9)), gO 103 (.bin .sub (.s 101) (.s 102)), gO 104 (.bin .geq (.s 103) (cI 2))]) (.cond (.s 104) (.seq (.reg [gO 105 (.mv (.s 9)), gO 106 (.bin .add (.s 105) (cI 1)), gO 12 (.mv (.s 106))]) (.block 6 (.loop [12, 2, 3, 0, 10, 9, 1] (.seq (.seq (.reg [gO 107 (.mv (.s 12)), gO 108 (.mv (.s 2)), gO 109 (.bin .lss (.s 107) (.s 108))]) (.cond (.s 109) .skip (.exit 6))) (.seq (.block 7 (.seq (.seq (.reg [gO 112 (.mv (.s 3)), gO 113 (.mv (.s 0)), gO 114 (.mv (.s 12)), gO 115 (.ia 2 (.s 113) (.s 114)), gO 116 (.ld (some 2) (.s 115)), gO 117 (.mv (.s 0)), gO 118 (.mv (.s 12)), gO 119 (.bin .sub (.s 118) (cI 1)), gO 120 (.ia 2 (.s 117) (.s 119)), gO 121 (.ld (some 2) (.s 120)), gO 122 (.callv (.s 112) [.s 116, .s 121]), gO 123 (.bin .lss (.s 122) (cI 0)), gO 124 (.un .not (.s 123))]) (.cond (.s 124) (.exit 6) .skip)) (.reg [gO 125 (.mv (.s 0)), gO 126 (.mv (.s 12)), gO 127 (.mv (.s 0)), gO 128 (.mv (.s 12)), gO 129 (.bin .sub (.s 128) (cI 1)), gO 130 (.mv (.s 0)), gO 131 (.mv (.s 12)), gO 132 (.bin .sub (.s 131) (cI 1)), gO 133 (.ia 2 (.s 130) (.s 132)), gO 134 (.ld (some 2) (.s 133)), gO 135 (.mv (.s 0)), gO 136 (.mv (.s 12)), gO 137 (.ia 2 (.s 135) (.s 136)), gO 138 (.ld (some 2) (.s 137)), gO 139 (.ia 2 (.s 125) (.s 126)), ⟨none, none, .st 2 (.s 139) (.s 134)⟩, gO 140 (.ia 2 (.s 127) (.s 129)), ⟨none, none, .st 2 (.s 140) (.s 138)⟩]))) (.reg [gO 110 (.mv (.s 12)), gO 111 (.bin .add (.s 110) (cI 1)), gO 12 (.mv (.s 111))])))))) .skip)))))))) (.reg [gO 17 (.mv (.s 10)), gO 18 (.bin .add (.s 17) (cI 1)), gO 10 (.mv (.s 18))])))))) (.seq (.reg [gO 8 (.mv cF)]) .ret))))⟩
theorem mfW_q212 : MT.mf 212 = some mfW_l212 := by kernel_rfl
noncomputable def mfW_l213 : MF := ⟨90, [(.tmp 10)], (.seq (.reg [gO 10 (.mv (cI 0))]) (.seq (.reg [gO 13 (.mv (.s 0)), gO 14 (.mv (.s 1)), gO 15 (.mv (.s 0)), gO 16 (.mv (.s 3)), gO 17 (.mv (.s 0)), gO 18 (.mv (.s 3)), gO 19 (.ia 2 (.s 17) (.s 18)), gO 20 (.ld (some 2) (.s 19)), gO 21 (.mv (.s 0)), gO 22 (.mv (.s 1)), gO 23 (.ia 2 (.s 21) (.s 22)), gO 24 (.ld (some 2) (.s 23)), gO 25 (.ia 2 (.s 13) (.s 14)), ⟨none, none, .st 2 (.s 25) (.s 20)⟩, gO 26 (.ia 2 (.s 15) (.s 16)), ⟨none, none, .st 2 (.s 26) (.s 24)⟩]) (.seq (.reg [gO 27 (.mv (.s 1)), gO 28 (.bin .add (.s 27) (cI 1)), gO 29 (.mv (.s 2)), gO 30 (.bin .sub (.s 29) (cI 1)), gO 11 (.mv (.s 28)), gO 12 (.mv (.s 30))]) (.seq (.block 0 (.loop [11, 12, 4, 0, 1] (.block 1 (.seq (.block 2 (.loop [11, 12, 4, 0, 1] (.seq (.seq (.reg [gO 31 (.mv (.s 11)), gO 32 (.mv (.s 12)), gO 33 (.bin .leq (.s 31) (.s 32)), gO 34 (.mv (.s 33)), ⟨some (34, true), some 35, .mv (.s 4)⟩, ⟨some (34, true), some 36, .mv (.s 0)⟩, ⟨some (34, true), some 37, .mv (.s 1)⟩, ⟨some (34, true), some 38, .ia 2 (.s 36) (.s 37)⟩, ⟨some (34, true), some 39, .ld (some 2) (.s 38)⟩, ⟨some (34, true), some 40, .mv (.s 0)⟩, ⟨some (34, true), some 41, .mv (.s 11)⟩, ⟨some (34, true), some 42, .ia 2 (.s 40) (.s 41)⟩, ⟨some (34, true), some 43, .ld (some 2) (.s 42)⟩, ⟨some (34, true), some 44, .callv (.s 35) [.s 39, .s 43]⟩, ⟨some (34, true), some 45, .bin .lss (.s 44) (cI 0)⟩, ⟨some (34, true), some 46, .un .not (.s 45)⟩, gO 47 (.pick (.s 34) (.s 46) cF)]) (.cond (.s 47) .skip (.exit 2))) (.block 3 (.reg [gO 48 (.mv (.s 11)), gO 49 (.bin .add (.s 48) (cI 1)), gO 11 (.mv (.s 49))]))))) (.seq (.block 4 (.loop [11, 12, 4, 0, 1] (.seq (.seq (.reg [gO 50 (.mv (.s 11)), gO 51 (.mv (.s 12)), gO 52 (.bin .leq (.s 50) (.s 51)), gO 53 (.mv (.s 52)), ⟨some (53, true), some 54, .mv (.s 4)⟩, ⟨some (53, true), some 55, .mv (.s 0)⟩, ⟨some (53, true), some 56, .mv (.s 1)⟩, ⟨some (53, true), some 57, .ia 2 (.s 55) (.s 56)⟩, ⟨some (53, true), some 58, .ld (some 2) (.s 57)⟩, ⟨some (53, true), some 59, .mv (.s 0)⟩, ⟨some (53, true), some 60, .mv (.s 12)⟩, ⟨some (53, true), some 61, .ia 2 (.s 59) (.s 60)⟩, ⟨some (53, true), some 62, .ld (some 2) (.s 61)⟩, ⟨some (53, true), some 63, .callv (.s 54) [.s 58, .s 62]⟩, ⟨some (53, true), some 64, .bin .lss (.s 63) (cI 0)⟩, gO 65 (.pick (.s 53) (.s 64) cF)]) (.cond (.s 65) .skip (.exit 4))) (.block 5 (.reg [gO 66 (.mv (.s 12)), gO 67 (.bin .sub (.s 66) (cI 1)), gO 12 (.mv (.s 67))]))))) (.seq (.seq (.reg [gO 68 (.mv (.s 11)), gO 69 (.mv (.s 12)), gO 70 (.bin .gtr (.s 68) (.s 69))]) (.cond (.s 70) (.exit 0) .skip)) (.seq (.reg [gO 71 (.mv (.s 0)), gO 72 (.mv (.s 11)), gO 73 (.mv (.s 0)), gO 74 (.mv (.s 12)), gO 75 (.mv (.s 0)), gO 76 (.mv (.s 12)), gO 77 (.ia 2 (.s 75) (.s 76)), gO 78 (.ld (some 2) (.s 77)), gO 79 (.mv (.s 0)), gO 80 (.mv (.s 11)), gO 81 (.ia 2 (.s 79) (.s 80)), gO 82 (.ld (some 2) (.s 81)), gO 83 (.ia 2 (.s 71) (.s 72)), ⟨none, none, .st 2 (.s 83) (.s 78)⟩, gO 84 (.ia 2 (.s 73) (.s 74)), ⟨none, none, .st 2 (.s 84) (.s 82)⟩]) (.seq (.reg [gO 85 (.mv (.s 11)), gO 86 (.bin .add (.s 85) (cI 1)), gO 11 (.mv (.s 86))]) (.reg [gO 87 (.mv (.s 12)), gO 88 (.bin .sub (.s 87) (cI 1)), gO 12 (.mv (.s 88))]))))))))) (.seq (.reg [gO 89 (.mv (.s 11)), gO 10 (.mv (.s 89))]) .ret)))))⟩
theorem mfW_q213 : MT.mf 213 = some mfW_l213 := by kernel_rfl
noncomputable def mfW_l214 : MF := ⟨178, [(.tmp 10), (.tmp 11)], (.seq (.reg [gO 10 (.mv (cI 0)), gO 11 (.mv cF)]) (.seq (.reg [gO 14 (.mv (.s 0)), gO 15 (.mv (.s 1)), gO 16 (.mv (.s 0)), gO 17 (.mv (.s 3)), gO 18 (.mv (.s 0)), gO 19 (.mv (.s 3)), gO 20 (.ia 2 (.s 18) (.s 19)), gO 21 (.ld (some 2) (.s 20)), gO 22 (.mv (.s 0)), gO 23 (.mv (.s 1)), gO 24 (.ia 2 (.s 22) (.s 23)), gO 25 (.ld (some 2) (.s 24)), gO 26 (.ia 2 (.s 14) (.s 15)), ⟨none, none, .st 2 (.s 26) (.s 21)⟩, gO 27 (.ia 2 (.s 16) (.s 17)), ⟨none, none, .st 2 (.s 27) (.s 25)⟩]) (.seq (.reg [gO 28 (.mv (.s 1)), gO 29 (.bin .add (.s 28) (cI 1)), gO 30 (.mv (.s 2)), gO 31 (.bin .sub (.s 30) (cI 1)), gO 12 (.mv (.s 29)), gO 13 (.mv (.s 31))]) (.seq (.block 0 (.loop [12, 13, 4, 0, 1] (.seq (.seq (.reg [gO 32 (.mv (.s 12)), gO 33 (.mv (.s 13)), gO 34 (.bin .leq (.s 32) (.s 33)), gO 35 (.mv (.s 34)), ⟨some (35, true), some 36, .mv (.s 4)⟩, ⟨some (35, true), some 37, .mv (.s 0)⟩, ⟨some (35, true), some 38, .mv (.s 12)⟩, ⟨some (35, true), some 39, .ia 2 (.s 37) (.s 38)⟩, ⟨some (35, true), some 40, .ld (some 2) (.s 39)⟩, ⟨some (35, true), some 41, .mv (.s 0)⟩, ⟨some (35, true), some 42, .mv (.s 1)⟩, ⟨some (35, true), some 43, .ia 2 (.s 41) (.s 42)⟩, ⟨some (35, true), some 44, .ld (some 2) (.s 43)⟩, ⟨some (35, true), some 45, .callv (.s 36) [.s 40, .s 44]⟩, ⟨some (35, true), some 46, .bin .lss (.s 45) (cI 0)⟩, gO 47 (.pick (.s 35) (.s 46) cF)]) (.cond (.s 47) .skip (.exit 0))) (.block 1 (.reg [gO 48 (.mv (.s 12)), gO 49 (.bin .add (.s 48) (cI 1)), gO 12 (.mv (.s 49))]))))) (.seq (.block 2 (.loop [12, 13, 4, 0, 1] (.seq (.seq (.reg [gO 50 (.mv (.s 12)), gO 51 (.mv (.s 13)), gO 52 (.bin .leq (.s 50) (.s 51)), gO 53 (.mv (.s 52)), ⟨some (53, true), some 54, .mv (.s 4)⟩, ⟨some (53, true), some 55, .mv (.s 0)⟩, ⟨some (53, true), some 56, .mv (.s 13)⟩, ⟨some (53, true), some 57, .ia 2 (.s 55) (.s 56)⟩, ⟨some (53, true), some 58, .ld (some 2) (.s 57)⟩, ⟨some (53, true), some 59, .mv (.s 0)⟩, ⟨some (53, true), some 60, .mv (.s 1)⟩, ⟨some (53, true), some 61, .ia 2 (.s 59) (.s 60)⟩, ⟨some (53, true), some 62, .ld (some 2) (.s 61)⟩, ⟨some (53, true), some 63, .callv (.s 54) [.s 58, .s 62]⟩, ⟨some (53, true), some 64, .bin .lss (.s 63) (cI 0)⟩, ⟨some (53, true), some 65, .un .not (.s 64)⟩, gO 66 (.pick (.s 53) (.s 65) cF)]) (.cond (.s 66) .skip (.exit 2))) (.block 3 (.reg [gO 67 (.mv (.s 13)), gO 68 (.bin .sub (.s 67) (cI 1)), gO 13 (.mv (.s 68))]))))) (.seq (.seq (.reg [gO 69 (.mv (.s 12)), gO 70 (.mv (.s 13)), gO 71 (.bin .gtr (.s 69) (.s 70))]) (.cond (.s 71) (.seq (.reg [gO 72 (.mv (.s 0)), gO 73 (.mv (.s 13)), gO 74 (.mv (.s 0)), gO 75 (.mv (.s 1)), gO 76 (.mv (.s 0)), gO 77 (.mv (.s 1)), gO 78 (.ia 2 (.s 76) (.s 77)), gO 79 (.ld (some 2) (.s 78)), gO 80 (.mv (.s 0)), gO 81 (.mv (.s 13)), gO 82 (.ia 2 (.s 80) (.s 81)), gO 83 (.ld (some 2) (.s 82)), gO 84 (.ia 2 (.s 72) (.s 73)), ⟨none, none, .st 2 (.s 84) (.s 79)⟩, gO 85 (.ia 2 (.s 74) (.s 75)), ⟨none, none, .st 2 (.s 85) (.s 83)⟩]) (.seq (.reg [gO 86 (.mv (.s 13)), gO 10 (.mv (.s 86)), gO 11 (.mv cT)]) .ret)) .skip)) (.seq (.reg [gO 87 (.mv (.s 0)), gO 88 (.mv (.s 12)), gO 89 (.mv (.s 0)), gO 90 (.mv (.s 13)), gO 91 (.mv (.s 0)), gO 92 (.mv (.s 13)), gO 93 (.ia 2 (.s 91) (.s 92)), gO 94 (.ld (some 2) (.s 93)), gO 95 (.mv (.s 0)), gO 96 (.mv (.s 12)), gO 97 (.ia 2 (.s 95) (.s 96)), gO 98 (.ld (some 2) (.s 97)), gO 99 (.ia 2 (.s 87) (.s 88)), ⟨none, none, .st 2 (.s 99) (.s 94)⟩, gO 100 (.ia 2 (.s 89) (.s 90)), ⟨none, none, .st 2 (.s 100) (.s 98)⟩]) (.seq (.reg [gO 101 (.mv (.s 12)), gO 102 (.bin .add (.s 101) (cI 1)), gO 12 (.mv (.s 102))]) (.seq (.reg [gO 103 (.mv (.s 13)), gO 104 (.bin .sub (.s 103) (cI 1)), gO 13 (.mv (.s 104))]) (.seq (.block 4 (.loop [12, 13, 4, 0, 1] (.block 5 (.seq (.block 6 (.loop [12, 13, 4, 0, 1] (.seq (.seq (.reg [gO 105 (.mv (.s 12)), gO 106 (.mv (.s 13)), gO 107 (.bin .leq (.s 105) (.s 106)), gO 108 (.mv (.s 107)), ⟨some (108, true), some 109, .mv (.s 4)⟩, ⟨some (108, true), some 110, .mv (.s 0)⟩, ⟨some (108, true), some 111, .mv (.s 12)⟩, ⟨some (108, true), some 112, .ia 2 (.s 110) (.s 111)⟩, ⟨some (108, true), some 113, .ld (some 2) (.s 112)⟩, ⟨some (108, true), some 114, .mv (.s 0)⟩, ⟨some (108, true), some 115, .mv (.s 1)⟩, ⟨some (108, true), some 116, .ia 2 (.s 114) (.s 115)⟩, ⟨some (108, true), some 117, .ld (some 2) (.s 116)⟩, ⟨some (108, true), some 118, .callv (.s 109) [.s 113, .s 117]⟩, ⟨some (108, true), some 119, .bin .lss (.s 118) (cI 0)⟩, gO 120 (.pick (.s 108) (.s 119) cF)]) (.cond (.s 120) .skip (.exit 6))) (.block 7 (.reg [gO 121 (.mv (.s 12)), gO 122 (.bin .add (.s 121) (cI 1)), gO 12 (.mv (.s 122))]))))) (.seq (.block 8 (.loop [12, 13, 4, 0, 1] (.seq (.seq (.reg [gO 123 (.mv (.s 12)), gO 124 (.mv (.s 13)), gO 125 (.bin .leq (.s 123) (.s 124)), gO 126 (.mv (.s 125)), ⟨some (126, true), some 127, .mv (.s 4)⟩, ⟨some (126, true), some 128, .mv (.s 0)⟩, ⟨some (126, true), some 129, .mv (.s 13)⟩, ⟨some (126, true), some 130, .ia 2 (.s 128) (.s 129)⟩, ⟨some (126, true), some 131, .ld (some 2) (.s 130)⟩, ⟨some (126, true), some 132, .mv (.s 0)⟩, ⟨some (126, true), some 133, .mv (.s 1)⟩, ⟨some (126, true), some 134, .ia 2 (.s 132) (.s 133)⟩, ⟨some (126, true), some 135, .ld (some 2) (.s 134)⟩, ⟨some (126, true), some 136, .callv (.s 127) [.s 131, .s 135]⟩, ⟨some (126, true), some 137, .bin .lss (.s 136) (cI 0)⟩, ⟨some (126, true), some 138, .un .not (.s 137)⟩, gO 139 (.pick (.s 126) (.s 138) cF)]) (.cond (.s 139) .skip (.exit 8))) (.block 9 (.reg [gO 140 (.mv (.s 13)), gO 141 (.bin .sub (.s 140) (cI 1)), gO 13 (.mv (.s 141))]))))) (.seq (.seq (.reg [gO 142 (.mv (.s 12)), gO 143 (.mv (.s 13)), gO 144 (.bin .gtr (.s 142) (.s 143))]) (.cond (.s 144) (.exit 4) .skip)) (.seq (.reg [gO 145 (.mv (.s 0)), gO 146 (.mv (.s 12)), gO 147 (.mv (.s 0)), gO 148 (.mv (.s 13)), gO 149 (.mv (.s 0)), gO 150 (.mv (.s 13)), gO 151 (.ia 2 (.s 149) (.s 150)), gO 152 (.ld (some 2) (.s 151)), gO 153 (.mv (.s 0)), gO 154 (.mv (.s 12)), gO 155 (.ia 2 (.s 153) (.s 154)), gO 156 (.ld (some 2) (.s 155)), gO 157 (.ia 2 (.s 145) (.s 146)), ⟨none, none, .st 2 (.s 157) (.s 152)⟩, gO 158 (.ia 2 (.s 147) (.s 148)), ⟨none, none, .st 2 (.s 158) (.s 156)⟩]) (.seq (.reg [gO 159 (.mv (.s 12)), gO 160 (.bin .add (.s 159) (cI 1)), gO 12 (.mv (.s 160))]) (.reg [gO 161 (.mv (.s 13)), gO 162 (.bin .sub (.s 161) (cI 1)), gO 13 (.mv (.s 162))]))))))))) (.seq (.reg [gO 163 (.mv (.s 0)), gO 164 (.mv (.s 13)), gO 165 (.mv (.s 0)), gO 166 (.mv (.s 1)), gO 167 (.mv (.s 0)), gO 168 (.mv (.s 1)), gO 169 (.ia 2 (.s 167) (.s 168)), gO 170 (.ld (some 2) (.s 169)), gO 171 (.mv (.s 0)), gO 172 (.mv (.s 13)), gO 173 (.ia 2 (.s 171) (.s 172)), gO 174 (.ld (some 2) (.s 173)), gO 175 (.ia 2 (.s 163) (.s 164)), ⟨none, none, .st 2 (.s 175) (.s 170)⟩, gO 176 (.ia 2 (.s 165) (.s 166)), ⟨none, none, .st 2 (.s 176) (.s 174)⟩]) (.seq (.reg [gO 177 (.mv (.s 13)), gO 10 (.mv (.s 177)), gO 11 (.mv cF)]) .ret))))))))))))⟩
theorem mfW_q214 : MT.mf 214 = some mfW_l214 := by kernel_rfl
noncomputable def mfW_l215 : MF := ⟨19, [(.tmp 2)], (.seq (.reg [gO 2 (.mv (cI 0))]) (.seq (.seq (.reg [gO 3 (.mv (.s 0)), gO 4 (.bin .geq (.s 3) (.c (.lit (.int .u32 65536))))]) (.cond (.s 4) (.seq (.reg [gO 5 (.mv (.s 0)), gO 6 (.shf .shr (.s 5) (.c (.lit (.int .u64 16)))), gO 0 (.mv (.s 6))]) (.reg [gO 2 (.mv (cI 16))])) .skip)) (.seq (.seq (.reg [gO 7 (.mv (.s 0)), gO 8 (.bin .geq (.s 7) (.c (.lit (.int .u32 256))))]) (.cond (.s 8) (.seq (.reg [gO 9 (.mv (.s 0)), gO 10 (.shf .shr (.s 9) (.c (.lit (.int .u64 8)))), gO 0 (.mv (.s 10))]) (.reg [gO 11 (.mv (.s 2)), gO 12 (.bin .add (.s 11) (cI 8)), gO 2 (.mv (.s 12))])) .skip)) (.seq (.reg [gO 13 (.mv (.s 2)), gO 14 (.mv (.s 0)), gO 15 (.cv .u8 (.s 14)), gO 16 (.sx (.c (.lit (.string ⟨#[0, 1, 2, 2, 3, 3, 3, 3, 4, 4, 4, 4, 4, 4, 4, 4, 5, 5, 5, 5, 5, 5, 5, 5, 5, 5, 5, 5, 5, 5, 5, 5, 6, 6, 6, 6, 6, 6, 6, 6, 6, 6, 6, 6, 6, 6, 6, 6, 6, 6, 6, 6, 6, 6, 6, 6, 6, 6, 6, 6, 6, 6, 6, 6, 7, 7, 7, 7, 7, 7, 7, 7, 7, 7, 7, 7, 7, 7, 7, 7, 7, 7, 7, 7, 7, 7, 7, 7, 7, 7, 7, 7, 7, 7, 7, 7, 7, 7, 7, 7, 7, 7, 7, 7, 7, 7, 7, 7, 7, 7, 7, 7, 7, 7, 7, 7, 7, 7, 7, 7, 7, 7, 7, 7, 7, 7, 7, 7, 8, 8, 8, 8, 8, 8, 8, 8, 8, 8, 8, 8, 8, 8, 8, 8, 8, 8, 8, 8, 8, 8, 8, 8, 8, 8, 8, 8, 8, 8, 8, 8, 8, 8, 8, 8, 8, 8, 8, 8, 8, 8, 8, 8, 8, 8, 8, 8, 8, 8, 8, 8, 8, 8, 8, 8, 8, 8, 8, 8, 8, 8, 8, 8, 8, 8, 8, 8, 8, 8, 8, 8, 8, 8, 8, 8, 8, 8, 8, 8, 8, 8, 8, 8, 8, 8, 8, 8, 8, 8, 8, 8, 8, 8, 8, 8, 8, 8, 8, 8, 8, 8, 8, 8, 8, 8, 8, 8, 8, 8, 8, 8, 8, 8, 8, 8, 8, 8, 8, 8, 8, 8, 8, 8, 8, 8, 8, 8]⟩))) (.s 15)), gO 17 (.cv .i64 (.s 16)), gO 18 (.bin .add (.s 13) (.s 17)), gO 2 (.mv (.s 18))]) .ret))))⟩
theorem mfW_q215 : MT.mf 215 = some mfW_l215 := by kernel_rfl
noncomputable def mfW_l216 : MF := ⟨25, [(.tmp 2)], (.seq (.reg [gO 2 (.mv (cI 0))]) (.seq (.seq (.reg [gO 3 (.mv (.s 0)), gO 4 (.bin .geq (.s 3) (.c (.lit (.int .u64 4294967296))))]) (.cond (.s 4) (.seq (.reg [gO 5 (.mv (.s 0)), gO 6 (.shf .shr (.s 5) (.c (.lit (.int .u64 32)))), gO 0 (.mv (.s 6))]) (.reg [gO 2 (.mv (cI 32))])) .skip)) (.seq (.seq (.reg [gO 7 (.mv (.s 0)), gO 8 (.bin .geq (.s 7) (.c (.lit (.int .u64 65536))))]) (.cond (.s 8) (.seq (.reg [gO 9 (.mv (.s 0)), gO 10 (.shf .shr (.s 9) (.c (.lit (.int .u64 16)))), gO 0 (.mv (.s 10))]) (.reg [gO 11 (.mv (.s 2)), gO 12 (.bin .add (.s 11) (cI 16)), gO 2 (.mv (.s 12))])) .skip)) (.seq (.seq (.reg [gO 13 (.mv (.s 0)), gO 14 (.bin .geq (.s 13) (.c (.lit (.int .u64 256))))]) (.cond (.s 14) (.seq (.reg [gO 15 (.mv (.s 0)), gO 16 (.shf .shr (.s 15) (.c (.lit (.int .u64 8)))), gO 0 (.mv (.s 16))]) (.reg [gO 17 (.mv (.s 2)), gO 18 (.bin .add (.s 17) (cI 8)), gO 2 (.mv (.s 18))])) .skip)) (.seq (.reg [gO 19 (.mv (.s 2)), gO 20 (.mv (.s 0)), gO 21 (.cv .u8 (.s 20)), gO 22 (.sx (.c (.lit (.string ⟨#[0, 1, 2, 2, 3, 3, 3, 3, 4, 4, 4, 4, 4, 4, 4, 4, 5, 5, 5, 5, 5, 5, 5, 5, 5, 5, 5, 5, 5, 5, 5, 5, 6, 6, 6, 6, 6, 6, 6, 6, 6, 6, 6, 6, 6, 6, 6, 6, 6, 6, 6, 6, 6, 6, 6, 6, 6, 6, 6, 6, 6, 6, 6, 6, 7, 7, 7, 7, 7, 7, 7, 7, 7, 7, 7, 7, 7, 7, 7, 7, 7, 7, 7, 7, 7, 7, 7, 7, 7, 7, 7, 7, 7, 7, 7, 7, 7, 7, 7, 7, 7, 7, 7, 7, 7, 7, 7, 7, 7, 7, 7, 7, 7, 7, 7, 7, 7, 7, 7, 7, 7, 7, 7, 7, 7, 7, 7, 7, 8, 8, 8, 8, 8, 8, 8, 8, 8, 8, 8, 8, 8, 8, 8, 8, 8, 8, 8, 8, 8, 8, 8, 8, 8, 8, 8, 8, 8, 8, 8, 8, 8, 8, 8, 8, 8, 8, 8, 8, 8, 8, 8, 8, 8, 8, 8, 8, 8, 8, 8, 8, 8, 8, 8, 8, 8, 8, 8, 8, 8, 8, 8, 8, 8, 8, 8, 8, 8, 8, 8, 8, 8, 8, 8, 8, 8, 8, 8, 8, 8, 8, 8, 8, 8, 8, 8, 8, 8, 8, 8, 8, 8, 8, 8, 8, 8, 8, 8, 8, 8, 8, 8, 8, 8, 8, 8, 8, 8, 8, 8, 8, 8, 8, 8, 8, 8, 8, 8, 8, 8, 8, 8, 8, 8, 8, 8, 8]⟩))) (.s 21)), gO 23 (.cv .i64 (.s 22)), gO 24 (.bin .add (.s 19) (.s 23)), gO 2 (.mv (.s 24))]) .ret)))))⟩
theorem mfW_q216 : MT.mf 216 = some mfW_l216 := by kernel_rfl
noncomputable def mfW_l222 : MF := ⟨82, [], (.seq (.reg [gO 12 (.mv (.s 1)), gO 10 (.mv (.s 12))]) (.block 0 (.loop [10, 2, 4, 0, 3] (.block 1 (.seq (.reg [gO 13 (.mv (.s 10)), gO 14 (.bin .mul (cI 2) (.s 13)), gO 15 (.bin .add (.s 14) (cI 1)), gO 11 (.mv (.s 15))]) (.seq (.seq (.reg [gO 16 (.mv (.s 11)), gO 17 (.mv (.s 2)), gO 18 (.bin .geq (.s 16) (.s 17))]) (.cond (.s 18) (.exit 0) .skip)) (.seq (.seq (.reg [gO 19 (.mv (.s 11)), gO 20 (.bin .add (.s 19) (cI 1)), gO 21 (.mv (.s 2)), gO 22 (.bin .lss (.s 20) (.s 21)), gO 23 (.mv (.s 22)), ⟨some (23, true), some 24, .mv (.s 4)⟩, ⟨some (23, true), some 25, .mv (.s 0)⟩, ⟨some (23, true), some 26, .mv (.s 3)⟩, ⟨some (23, true), some 27, .mv (.s 11)⟩, ⟨some (23, true), some 28, .bin .add (.s 26) (.s 27)⟩, ⟨some (23, true), some 29, .ia 2 (.s 25) (.s 28)⟩, ⟨some (23, true), some 30, .ld (some 2) (.s 29)⟩, ⟨some (23, true), some 31, .mv (.s 0)⟩, ⟨some (23, true), some 32, .mv (.s 3)⟩, ⟨some (23, true), some 33, .mv (.s 11)⟩, ⟨some (23, true), some 34, .bin .add (.s 32) (.s 33)⟩, ⟨some (23, true), some 35, .bin .add (.s 34) (cI 1)⟩, ⟨some (23, true), some 36, .ia 2 (.s 31) (.s 35)⟩, ⟨some (23, true), some 37, .ld (some 2) (.s 36)⟩, ⟨some (23, true), some 38, .callv (.s 24) [.s 30, .s 37]⟩, ⟨some (23, true), some 39, .bin .lss (.s 38) (cI 0)⟩, gO 40 (.pick (.s 23) (.s 39) cF)]) (.cond (.s 40) (.reg [gO 41 (.mv (.s 11)), gO 42 (.bin .add (.s 41) (cI 1)), gO 11 (.mv (.s 42))]) .skip)) (.seq (.seq (.reg [gO 43 (.mv (.s 4)), gO 44 (.mv (.s 0)), gO 45 (.mv (.s 3)), gO 46 (.mv (.s 10)), gO 47 (.bin .add (.s 45) (.s 46)), gO 48 (.ia 2 (.s 44) (.s 47)), gO 49 (.ld (some 2) (.s 48)), gO 50 (.mv (.s 0)), gO 51 (.mv (.s 3)), gO 52 (.mv (.s 11)), gO 53 (.bin .add (.s 51) (.s 52)), gO 54 (.ia 2 (.s 50) (.s 53)), gO 55 (.ld (some 2) (.s 54)), gO 56 (.callv (.s 43) [.s 49, .s 55]), gO 57 (.bin .lss (.s 56) (cI 0)), gO 58 (.un .not (.s 57))]) (.cond (.s 58) .ret .skip)) (.seq (.reg [gO 59 (.mv (.s 0)), gO 60 (.mv (.s 3)), gO 61 (.mv (.s 10)), gO 62 (.bin .add (.s 60) (.s 61)), gO 63 (.mv (.s 0)), gO 64 (.mv (.s 3)), gO 65 (.mv (.s 11)), gO 66 (.bin .add (.s 64) (.s 65)), gO 67 (.mv (.s 0)), gO 68 (.mv (.s 3)), gO 69 (.mv (.s 11)), gO 70 (.bin .add (.s 68) (.s 69)), gO 71 (.ia 2 (.s 67) (.s 70)), gO 72 (.ld (some 2) (.s 71)), gO 73 (.mv (.s 0)), gO 74 (.mv (.s 3)), gO 75 (.mv (.s 10)), gO 76 (.bin .add (.s 74) (.s 75)), gO 77 (.ia 2 (.s 73) (.s 76)), gO 78 (.ld (some 2) (.s 77)), gO 79 (.ia 2 (.s 59) (.s 62)), ⟨none, none, .st 2 (.s 79) (.s 72)⟩, gO 80 (.ia 2 (.s 63) (.s 66)), ⟨none, none, .st 2 (.s 80) (.s 78)⟩]) (.reg [gO 81 (.mv (.s 11)), gO 10 (.mv (.s 81))]))))))))))⟩
theorem mfW_q222 : MT.mf 222 = some mfW_l222 := by kernel_rfl
noncomputable def mfW_l223 : MF := ⟨7, [(.tmp 2)], (.seq (.reg [gO 2 (.mv (.c (.lit (.int .u64 0))))]) (.seq (.reg [gO 3 (.mv (.s 0)), gO 4 (.cv .u64 (.s 3)), gO 5 (.call 182 [.s 4]), gO 6 (.shf .shl (.c (.lit (.int .u64 1))) (.s 5)), gO 2 (.mv (.s 6))]) .ret))⟩
theorem mfW_q223 : MT.mf 223 = some mfW_l223 := by kernel_rfl
noncomputable def mfW_l224 : MF := ⟨33, [(.tmp 2)], (.seq (.reg [gO 2 (.mv (.c (.lit (.int .u64 0))))]) (.seq (.reg [gO 3 (.mv (.s 0)), gO 4 (.nilck (.s 3)), gO 5 (.ld none (.s 4)), gO 6 (.mv (.s 0)), gO 7 (.nilck (.s 6)), gO 8 (.ld none (.s 7)), gO 9 (.shf .shl (.s 8) (.c (.lit (.int .u64 13)))), gO 10 (.bin .xor (.s 5) (.s 9)), gO 11 (.nilck (.s 3)), ⟨none, none, .st 1 (.s 11) (.s 10)⟩]) (.seq (.reg [gO 12 (.mv (.s 0)), gO 13 (.nilck (.s 12)), gO 14 (.ld none (.s 13)), gO 15 (.mv (.s 0)), gO 16 (.nilck (.s 15)), gO 17 (.ld none (.s 16)), gO 18 (.shf .shr (.s 17) (.c (.lit (.int .u64 7)))), gO 19 (.bin .xor (.s 14) (.s 18)), gO 20 (.nilck (.s 12)), ⟨none, none, .st 1 (.s 20) (.s 19)⟩]) (.seq (.reg [gO 21 (.mv (.s 0)), gO 22 (.nilck (.s 21)), gO 23 (.ld none (.s 22)), gO 24 (.mv (.s 0)), gO 25 (.nilck (.s 24)), gO 26 (.ld none (.s 25)), gO 27 (.shf .shl (.s 26) (.c (.lit (.int .u64 17)))), gO 28 (.bin .xor (.s 23) (.s 27)), gO 29 (.nilck (.s 21)), ⟨none, none, .st 1 (.s 29) (.s 28)⟩]) (.seq (.reg [gO 30 (.mv (.s 0)), gO 31 (.nilck (.s 30)), gO 32 (.ld none (.s 31)), gO 2 (.mv (.s 32))]) .ret)))))⟩
theorem mfW_q224 : MT.mf 224 = some mfW_l224 := by kernel_rfl
noncomputable def mfW_l225 : MF := ⟨18, [(.tmp 8)], (.seq (.reg [gO 8 (.mv (cI 0))]) (.seq (.reg [gO 9 (.mv (.s 0)), gO 10 (.mv (.s 1)), gO 11 (.bin .sub (.s 10) (cI 1)), gO 12 (.mv (.s 1)), gO 13 (.mv (.s 1)), gO 14 (.bin .add (.s 13) (cI 1)), gO 15 (.mv (.s 2)), gO 16 (.mv (.s 3)), gO 17 (.call 226 [.s 9, .s 11, .s 12, .s 14, .s 15, .s 16]), gO 8 (.mv (.s 17))]) .ret))⟩
theorem mfW_q225 : MT.mf 225 = some mfW_l225 := by kernel_rfl
noncomputable def mfW_l226 : MF := ⟨41, [(.tmp 12)], (.seq (.reg [gO 12 (.mv (cI 0))]) (.seq (.reg [gO 14 (.mv (.s 0)), gO 15 (.mv (.s 1)), gO 16 (.mv (.s 2)), gO 17 (.mv (.s 4)), gO 18 (.mv (.s 5)), gO 19 (.call 228 [.s 14, .s 15, .s 16, .s 17, .s 18]), gO 13 (.mv (.s 19)), gO 20 (.ext (.s 13) 0), gO 21 (.ext (.s 13) 1), gO 1 (.mv (.s 20)), gO 2 (.mv (.s 21))]) (.seq (.reg [gO 23 (.mv (.s 0)), gO 24 (.mv (.s 2)), gO 25 (.mv (.s 3)), gO 26 (.mv (.s 4)), gO 27 (.mv (.s 5)), gO 28 (.call 228 [.s 23, .s 24, .s 25, .s 26, .s 27]), gO 22 (.mv (.s 28)), gO 29 (.ext (.s 22) 0), gO 30 (.ext (.s 22) 1), gO 2 (.mv (.s 29)), gO 3 (.mv (.s 30))]) (.seq (.reg [gO 32 (.mv (.s 0)), gO 33 (.mv (.s 1)), gO 34 (.mv (.s 2)), gO 35 (.mv (.s 4)), gO 36 (.mv (.s 5)), gO 37 (.call 228 [.s 32, .s 33, .s 34, .s 35, .s 36]), gO 31 (.mv (.s 37)), gO 38 (.ext (.s 31) 0), gO 39 (.ext (.s 31) 1), gO 1 (.mv (.s 38)), gO 2 (.mv (.s 39))]) (.seq (.reg [gO 40 (.mv (.s 2)), gO 12 (.mv (.s 40))]) .ret)))))⟩
theorem mfW_q226 : MT.mf 226 = some mfW_l226 := by kernel_rfl
noncomputable def mfW_l228 : MF := ⟨32, [(.tmp 10), (.tmp 11)], (.seq (.reg [gO 10 (.mv (cI 0)), gO 11 (.mv (cI 0))]) (.seq (.seq (.reg [gO 12 (.mv (.s 4)), gO 13 (.mv (.s 0)), gO 14 (.mv (.s 2)), gO 15 (.ia 2 (.s 13) (.s 14)), gO 16 (.ld (some 2) (.s 15)), gO 17 (.mv (.s 0)), gO 18 (.mv (.s 1)), gO 19 (.ia 2 (.s 17) (.s 18)), gO 20 (.ld (some 2) (.s 19)), gO 21 (.callv (.s 12) [.s 16, .s 20]), gO 22 (.bin .lss (.s 21) (cI 0))]) (.cond (.s 22) (.seq (.reg [gO 23 (.mv (.s 3)), gO 24 (.nilck (.s 23)), gO 25 (.ld none (.s 24)), gO 26 (.bin .add (.s 25) (cI 1)), gO 27 (.nilck (.s 23)), ⟨none, none, .st 1 (.s 27) (.s 26)⟩]) (.seq (.reg [gO 28 (.mv (.s 2)), gO 29 (.mv (.s 1)), gO 10 (.mv (.s 28)), gO 11 (.mv (.s 29))]) .ret)) .skip)) (.seq (.reg [gO 30 (.mv (.s 1)), gO 31 (.mv (.s 2)), gO 10 (.mv (.s 30)), gO 11 (.mv (.s 31))]) .ret)))⟩
theorem mfW_q228 : MT.mf 228 = some mfW_l228 := by kernel_rfl
noncomputable def mfW_t : List (Nat × MF) := [(18, mfW_l18), (20, mfW_l20), (26, mfW_l26), (28, mfW_l28), (35, mfW_l35), (46, mfW_l46), (49, mfW_l49), (99, mfW_l99), (100, mfW_l100), (101, mfW_l101), (102, mfW_l102), (103, mfW_l103), (104, mfW_l104), (105, mfW_l105), (106, mfW_l106), (107, mfW_l107), (108, mfW_l108), (109, mfW_l109), (113, mfW_l113), (114, mfW_l114), (115, mfW_l115), (116, mfW_l116), (117, mfW_l117), (118, mfW_l118), (119, mfW_l119), (120, mfW_l120), (121, mfW_l121), (123, mfW_l123), (124, mfW_l124), (126, mfW_l126), (127, mfW_l127), (132, mfW_l132), (133, mfW_l133), (134, mfW_l134), (135, mfW_l135), (136, mfW_l136), (137, mfW_l137), (138, mfW_l138), (177, mfW_l177), (178, mfW_l178), (179, mfW_l179), (180, mfW_l180), (181, mfW_l181), (182, mfW_l182), (186, mfW_l186), (204, mfW_l204), (205, mfW_l205), (206, mfW_l206), (207, mfW_l207), (208, mfW_l208), (209, mfW_l209), (210, mfW_l210), (211, mfW_l211), (212, mfW_l212), (213, mfW_l213), (214, mfW_l214), (215, mfW_l215), (216, mfW_l216), (222, mfW_l222), (223, mfW_l223), (224, mfW_l224), (225, mfW_l225), (226, mfW_l226), (228, mfW_l228)]
theorem mfW_k : OkT MT mfW_t := OkT.cons mfW_q18 (OkT.cons mfW_q20 (OkT.cons mfW_q26 (OkT.cons mfW_q28 (OkT.cons mfW_q35 (OkT.cons mfW_q46 (OkT.cons mfW_q49 (OkT.cons mfW_q99 (OkT.cons mfW_q100 (OkT.cons mfW_q101 (OkT.cons mfW_q102 (OkT.cons mfW_q103 (OkT.cons mfW_q104 (OkT.cons mfW_q105 (OkT.cons mfW_q106 (OkT.cons mfW_q107 (OkT.cons mfW_q108 (OkT.cons mfW_q109 (OkT.cons mfW_q113 (OkT.cons mfW_q114 (OkT.cons mfW_q115 (OkT.cons mfW_q116 (OkT.cons mfW_q117 (OkT.cons mfW_q118 (OkT.cons mfW_q119 (OkT.cons mfW_q120 (OkT.cons mfW_q121 (OkT.cons mfW_q123 (OkT.cons mfW_q124 (OkT.cons mfW_q126 (OkT.cons mfW_q127 (OkT.cons mfW_q132 (OkT.cons mfW_q133 (OkT.cons mfW_q134 (OkT.cons mfW_q135 (OkT.cons mfW_q136 (OkT.cons mfW_q137 (OkT.cons mfW_q138 (OkT.cons mfW_q177 (OkT.cons mfW_q178 (OkT.cons mfW_q179 (OkT.cons mfW_q180 (OkT.cons mfW_q181 (OkT.cons mfW_q182 (OkT.cons mfW_q186 (OkT.cons mfW_q204 (OkT.cons mfW_q205 (OkT.cons mfW_q206 (OkT.cons mfW_q207 (OkT.cons mfW_q208 (OkT.cons mfW_q209 (OkT.cons mfW_q210 (OkT.cons mfW_q211 (OkT.cons mfW_q212 (OkT.cons mfW_q213 (OkT.cons mfW_q214 (OkT.cons mfW_q215 (OkT.cons mfW_q216 (OkT.cons mfW_q222 (OkT.cons mfW_q223 (OkT.cons mfW_q224 (OkT.cons mfW_q225 (OkT.cons mfW_q226 (OkT.cons mfW_q228 (OkT.nil))))))))))))))))))))))))))))))))))))))))))))))))))))))))))))))))
noncomputable def mfW : Nat → Option MF := lookT mfW_t
theorem mfW_ok (f : Nat) (m : MF) (h : mfW f = some m) : MT.mf f = some m := mfW_k.look h
abbrev stB (c : UInt8) : MV := .lit (.string ⟨#[c]⟩)
abbrev stC (l : List UInt8) : MV := .lit (.string ⟨l.toArray⟩)
abbrev itemE : List MV := [.agg [stB 97, I64 5, I64 10], .agg [stB 98, I64 4, I64 7], .agg [stB 99, I64 3, I64 6]]
abbrev itemX : MV := .sl itemE
abbrev holeX : MV := .agg [I64 1, I64 2, I64 200]
abbrev layX : MV := .agg [I64 100, I64 (-1), I64 2, I64 1, I64 2]
abbrev calE : List MV := [.agg [stC [97, 110, 110], I64 100, I64 150], .agg [stC [98, 111, 98], I64 140, I64 200], .agg [stC [101, 108, 107], I64 360, I64 10]]
abbrev calX : MV := .sl calE
end Go.Proofs.YtnmgpbihknjdjaaGreatDoor

/- From arguments as they are read to open values; from an answer to a law's statement. -/
namespace Go.Proofs.YtnmgpbihknjdjaaGreatDoor
open Go.RowKit Go.ChangeShapes Go.WideShapes Go.ChangeAt
set_option linter.unusedVariables false
inductive Sh where
 | int (k : IntKind)
 | bool
 | str
 | agg (fs : List Sh)
 | slice (e : Sh)
mutual
def Sh.size : Sh → Nat
 | .int _ | .bool | .str | .slice _ => 1
 | .agg fs => sizeL fs
def sizeL : List Sh → Nat
 | [] => 0
 | s :: ss => s.size + sizeL ss
end
mutual
def Sh.has (P : Program) : Sh → TypeId → Bool
 | .int k, t => (match P.underlying t with | some (.int k') => k' == k | _ => false)
 | .bool, t => (match P.underlying t with | some .bool => true | _ => false)
 | .str, t => (match P.underlying t with | some .string => true | _ => false)
 | .agg ss, t => (match P.underlying t with | some (.struct fs) => P.cellsOf t == sizeL ss && hasL P ss 0 fs.toList | _ => false)
 | .slice s, t => (match P.underlying t with | some (.slice e) => P.cellsOf e == s.size && Nat.blt 0 s.size && s.has P e | _ => false)
def hasL (P : Program) : List Sh → Nat → List Field → Bool
 | [], _, [] => true
 | s :: ss, off, f :: fs => f.offset == off && P.cellsOf f.type == s.size && s.has P f.type && hasL P ss (off + s.size) fs
 | _, _, _ => false
end
mutual
def Fits : Sh → MV → Prop
 | .int k, m => ∃ n, m = .lit (.int k n) ∧ (Lit.int k n).wf = true
 | .bool, m => ∃ b, m = .lit (.bool b)
 | .str, m => ∃ s : ByteArray, m = .lit (.string s) ∧ s.size ≤ maxLen
 | .agg ss, m => ∃ ms, FitsL ss ms ∧ m = .agg (ms.flatMap MV.cells)
 | .slice s, m => ∃ es, m = .sl es ∧ es.length ≤ maxLen ∧ ∀ e ∈ es, Fits s e
def FitsL : List Sh → List MV → Prop
 | [], ms => ms = []
 | s :: ss, ms => ∃ m r, ms = m :: r ∧ Fits s m ∧ FitsL ss r
end
def baseE (w : World) : Env := { S := fun b => b < w.heap.size, K := fun _ => False, ρ := fun _ => 0, bo := fun _ => 0, cp := fun _ => 0, sz := fun _ => 0, gn := fun _ => 0, ln := fun _ => 0, nl := fun _ => false, top := 0, yl := 0 }
theorem baseE_rel (w : World) (hT : ∀ p ∈ TABS, V (baseE w) w p.1 p.2) : HRel (baseE w) [] w := ⟨fun _ h => h.elim, Nat.le_refl _, fun _ h => h.elim, fun _ _ h => h.elim, fun _ h => h.elim, fun _ h => h, hT⟩
section
variable {H : Type} {enc : TypeId × Value → H} {P : Program} {w : World} {spare : Nat → Bool} {held : Bool}
theorem vs_one {E : Env} {w : World} {m : MV} {v : Value} (h : V E w m v) : Vs E w [m] [v] := Vs.cons h ⟨rfl, fun i c v hc => by simp at hc⟩
mutual
theorem lift_ok : ∀ (s : Sh) (t : TypeId) (fuel : Nat) (cs : List Value) (x : DataW H × List MemPlace), s.has P t = true → DataW.trod enc P w 0 spare held fuel t cs = some x →
  ∃ m, Fits s m ∧ Vs (baseE w) w m.cells cs ∧ m.cells.length = s.size
 | .int k, t, fuel, cs, x, hs, h => by
  simp only [Sh.has] at hs
  split at hs
  case h_2 => cases hs
  rename_i k' ht
  have : k' = k := by simpa using hs
  subst this
  obtain ⟨n, rfl, -, hw⟩ := DataW.trod_int ht h
  exact ⟨.lit (.int k' n), ⟨n, rfl, hw⟩, vs_one (.lit _), rfl⟩
 | .bool, t, fuel, cs, x, hs, h => by
  simp only [Sh.has] at hs
  split at hs
  case h_2 => cases hs
  rename_i ht
  obtain ⟨b, rfl, -⟩ := DataW.trod_bool ht h
  exact ⟨.lit (.bool b), ⟨b, rfl⟩, vs_one (.lit _), rfl⟩
 | .str, t, fuel, cs, x, hs, h => by
  simp only [Sh.has] at hs
  split at hs
  case h_2 => cases hs
  rename_i ht
  obtain ⟨b, rfl, -, hb⟩ := DataW.trod_string ht h
  exact ⟨.lit (.string b), ⟨b, rfl, hb⟩, vs_one (.lit _), rfl⟩
 | .agg ss, t, fuel, cs, x, hs, h => by
  simp only [Sh.has] at hs
  split at hs
  case h_2 => cases hs
  rename_i fs ht
  simp only [Bool.and_eq_true, beq_iff_eq] at hs
  obtain ⟨xs, n, -, -, hl, hlen, hf⟩ := DataW.trod_struct ht h
  obtain ⟨ms, h1, h2, h3⟩ := liftL_ok ss 0 fs.toList n cs hs.2 (by rw [hl, hs.1]; omega) fun i f hi => by
   have := hf i f (by simpa using hi)
   have hix : i < xs.length := by rw [hlen]; have := (List.getElem?_eq_some_iff.1 hi).1; simpa using this
   exact ⟨xs[i], by rw [this]; simp [hix]⟩
  exact ⟨.agg (ms.flatMap MV.cells), ⟨ms, h1, rfl⟩, by simpa [MV.cells] using h2, by simp only [MV.cells]; exact h3⟩
 | .slice s, t, fuel, cs, x, hs, h => by
  simp only [Sh.has] at hs
  split at hs
  case h_2 => cases hs
  rename_i e ht
  simp only [Bool.and_eq_true, beq_iff_eq] at hs
  obtain ⟨⟨hc, hpos⟩, hse⟩ := hs
  have hpos' : 0 < s.size := by simpa [Nat.blt_eq] using hpos
  rcases DataW.trod_slice ht h with ⟨rfl, -⟩ | ⟨a, len, cap, elems, rest, n, -, rfl, -, -, hle, hmx, hel, hE, -, -⟩
  ·exact ⟨.sl [], ⟨[], rfl, by simp, fun e he => by cases he⟩, vs_one (.sl [] [] none 0 s.size (Nat.le_refl _) (fun e he => by cases he) rfl (fun i c v hc => by simp [flat] at hc) (fun h0 => absurd h0 (by simp))), rfl⟩
  ·have key : ∀ i, i < len → ∃ m cs', Fits s m ∧ Vs (baseE w) w m.cells cs' ∧ m.cells.length = s.size ∧ cs'.length = s.size ∧ ∀ j, j < s.size → w.cell? ((a.add (i * s.size)).add j) = cs'[j]? := fun i hi => by
    have h1 := hE i hi
    have h2 : elems[i]? = some (elems[i]'(by rw [hel]; exact hi)) := by simp [hel, hi]
    rw [h2, Option.bind_eq_some_iff, hc] at h1
    obtain ⟨cs', h3, h4⟩ := h1
    obtain ⟨-, h5, h6⟩ := World.cells?_some h3
    obtain ⟨m, k1, k2, k3⟩ := lift_ok s e n cs' _ hse h4
    exact ⟨m, cs', k1, k2, k3, h5, h6⟩
   obtain ⟨F, hF⟩ : ∃ F : Nat → MV × List Value, ∀ i, i < len → Fits s (F i).1 ∧ Vs (baseE w) w (F i).1.cells (F i).2 ∧ (F i).1.cells.length = s.size ∧ (F i).2.length = s.size ∧ ∀ j, j < s.size → w.cell? ((a.add (i * s.size)).add j) = (F i).2[j]? :=
    ⟨fun i => if hi : i < len then ((key i hi).choose, (key i hi).choose_spec.choose) else default, fun i hi => by simp only [dif_pos hi]; exact (key i hi).choose_spec.choose_spec⟩
   have hmem : ∀ e ∈ (List.range len).map fun i => (F i).1, Fits s e ∧ e.cells.length = s.size := fun e he => by
    obtain ⟨i, hi, rfl⟩ := List.mem_map.1 he
    have hi' := List.mem_range.1 hi
    exact ⟨(hF i hi').1, (hF i hi').2.2.1⟩
   refine ⟨.sl ((List.range len).map fun i => (F i).1), ⟨_, rfl, by simp; omega, fun e he => (hmem e he).1⟩, vs_one ?_, rfl⟩
   have hflen : (flat ((List.range len).map fun i => (F i).1)).length = len * s.size := by rw [flat_len fun e he => (hmem e he).2]; simp
   have hcell : ∀ k, k < len * s.size → ∃ i j, i < len ∧ j < s.size ∧ k = i * s.size + j := fun k hk => ⟨k / s.size, k % s.size, Nat.div_lt_of_lt_mul (by rw [Nat.mul_comm]; exact hk), Nat.mod_lt _ hpos', (Nat.div_add_mod' k s.size).symm⟩
   have hspot : 0 < len → ∃ b off, a = ⟨b, off, none⟩ := fun h0 => by
    obtain ⟨b, off, spot⟩ := a
    have h1 := (hF 0 h0).2.2.2.2 0 hpos'
    rw [List.getElem?_eq_getElem (by rw [(hF 0 h0).2.2.2.1]; exact hpos')] at h1
    have hsp : spot = none := by simpa [Addr.add] using World.cell?_spot h1
    exact ⟨b, off, by rw [hsp]⟩
   by_cases h0 : 0 < len
   ·obtain ⟨b, off, rfl⟩ := hspot h0
    have hb : b < w.heap.size := by
     have h1 := (hF 0 h0).2.2.2.2 0 hpos'
     rw [List.getElem?_eq_getElem (by rw [(hF 0 h0).2.2.2.1]; exact hpos')] at h1
     have := cell_lt h1
     simpa [Addr.add] using this
    have hval : ∀ i j, i < len → j < s.size → w.cell? ⟨b, off + (i * s.size + j), none⟩ = (F i).2[j]? := fun i j hi hj => by
     rw [← (hF i hi).2.2.2.2 j hj]
     simp [Go.WideShapes.add_plain, Nat.add_assoc]
    have hl2 : ((List.range len).map fun i => (F i).1).length = len := by simp
    have := V.sl (E := baseE w) (w := w) ((List.range len).map fun i => (F i).1) ((List.range (len * s.size)).map fun k => (w.cell? ⟨b, off + k, none⟩).getD undef) (some ⟨b, off, none⟩) cap s.size (by rw [hl2]; exact hle) (fun e he => (hmem e he).2) (by rw [hflen]; simp)
     (fun k c v hk hv => by
      obtain ⟨i, j, e, rfl, hj, he, hcj⟩ := (flat_iff fun e he => (hmem e he).2).1 hk
      have hi : i < len := by have := (List.getElem?_eq_some_iff.1 he).1; simpa using this
      have he' : (F i).1 = e := by simpa [hi] using he
      subst he'
      have hlt : i * s.size + j < len * s.size := by
       have := Nat.mul_le_mul_right s.size (show i + 1 ≤ len from hi)
       rw [Nat.add_mul, Nat.one_mul] at this
       omega
      rw [List.getElem?_map, List.getElem?_range hlt, Option.map_some, hval i j hi hj] at hv
      have hj2 : j < (F i).2.length := by rw [(hF i hi).2.2.2.1]; exact hj
      rw [List.getElem?_eq_getElem hj2, Option.getD_some, Option.some.injEq] at hv
      exact (hF i hi).2.1.2 j c v hcj (by rw [List.getElem?_eq_getElem hj2, hv]))
     (fun _ => ⟨b, off, rfl, hb, fun k v hk => by
      have hlt : k < len * s.size := by have := (List.getElem?_eq_some_iff.1 hk).1; simpa using this
      obtain ⟨i, j, hi, hj, rfl⟩ := hcell k hlt
      rw [List.getElem?_map, List.getElem?_range hlt, Option.map_some] at hk
      have hj2 : j < (F i).2.length := by rw [(hF i hi).2.2.2.1]; exact hj
      have h9 := hval i j hi hj
      rw [List.getElem?_eq_getElem hj2] at h9
      rw [h9, Option.getD_some, Option.some.injEq] at hk
      rw [h9, hk]⟩)
    rw [hl2] at this
    exact this
   ·have hl0 : len = 0 := by omega
    subst hl0
    exact .sl [] [] (some a) cap s.size (by simp) (fun e he => by cases he) rfl (fun i c v hc => by simp [flat] at hc) (fun h0 => absurd h0 (by simp))
theorem liftL_ok : ∀ (ss : List Sh) (off : Nat) (fs : List Field) (n : Nat) (cs : List Value), hasL P ss off fs = true → cs.length = off + sizeL ss → (∀ (i : Nat) (f : Field), fs[i]? = some f → ∃ x, DataW.trod enc P w 0 spare held n f.type ((cs.drop f.offset).take (P.cellsOf f.type)) = some x) →
  ∃ ms, FitsL ss ms ∧ Vs (baseE w) w (ms.flatMap MV.cells) (cs.drop off) ∧ (ms.flatMap MV.cells).length = sizeL ss
 | [], off, fs, n, cs, hs, hl, hf => ⟨[], rfl, by
   have : cs.drop off = [] := List.drop_eq_nil_of_le (by simp [sizeL] at hl; omega)
   rw [this]; exact ⟨rfl, fun i c v hc => by simp at hc⟩, rfl⟩
 | s :: ss, off, [], n, cs, hs, hl, hf => by simp [hasL] at hs
 | s :: ss, off, f :: fs, n, cs, hs, hl, hf => by
  simp only [hasL, Bool.and_eq_true, beq_iff_eq] at hs
  obtain ⟨⟨⟨h1, h2⟩, h3⟩, h4⟩ := hs
  obtain ⟨x, hx⟩ := hf 0 f rfl
  rw [h1, h2] at hx
  obtain ⟨m, k1, k2, k3⟩ := lift_ok s f.type n _ x h3 hx
  obtain ⟨ms, j1, j2, j3⟩ := liftL_ok ss (off + s.size) fs n cs h4 (by simp only [sizeL] at hl; omega) fun i f' hi => hf (i + 1) f' (by simpa using hi)
  refine ⟨m :: ms, ⟨m, ms, rfl, k1, j1⟩, ?_, by simp only [List.flatMap_cons, List.length_append, sizeL, k3, j3]⟩
  have e : cs.drop off = (cs.drop off).take s.size ++ cs.drop (off + s.size) := by
   rw [← List.drop_drop]; exact (List.take_append_drop _ _).symm
  rw [e, List.flatMap_cons]
  exact k2.append j2
end
end
end Go.Proofs.YtnmgpbihknjdjaaGreatDoor

/- From an answer to a law's statement. -/
namespace Go.Proofs.YtnmgpbihknjdjaaGreatDoor
open Go.RowKit Go.ChangeShapes Go.WideShapes Go.ChangeAt
set_option linter.unusedVariables false
theorem Tryz.own : ownKnob Tryz.prog.godebug = none := by kernel_rfl
theorem Tryz.laidOut : laidOutB Tryz.prog = true := by kernel_rfl
section
variable {H : Type} {enc : TypeId × Value → H} {P : Program} {w : World} {spare : Nat → Bool} {held : Bool}
theorem lift_val {s : Sh} {t : TypeId} {v : Value} {d : DataW H} {p : List MemPlace} {r : Reach} {b : Nat} (hs : s.has P t = true) (hv : Value.okWide P w r b t v) (h : DataW.Trod enc P w 0 spare held t v d p) : ∃ m, Fits s m ∧ V (baseE w) w m v := by
 obtain ⟨fuel, h⟩ := h
 obtain ⟨m, h1, h2, h3⟩ := lift_ok s t fuel _ _ hs h
 refine ⟨m, h1, ?_⟩
 have one : m.cells = [m] → v.cells = #[v] → V (baseE w) w m v := fun e1 e2 => by
  rw [e1, e2] at h2
  exact h2.2 0 m v rfl rfl
 cases s with
 | int k =>
  simp only [Fits] at h1
  obtain ⟨n, rfl, -⟩ := h1
  simp only [Sh.has] at hs
  split at hs
  case h_2 => cases hs
  rename_i k' ht
  obtain ⟨n', rfl⟩ := okWide_int ht hv
  exact one rfl rfl
 | bool =>
  simp only [Fits] at h1
  obtain ⟨n, rfl⟩ := h1
  simp only [Sh.has] at hs
  split at hs
  case h_2 => cases hs
  rename_i ht
  obtain ⟨n', rfl⟩ := okWide_bool ht hv
  exact one rfl rfl
 | str =>
  simp only [Fits] at h1
  obtain ⟨n, rfl, -⟩ := h1
  simp only [Sh.has] at hs
  split at hs
  case h_2 => cases hs
  rename_i ht
  obtain ⟨n', rfl⟩ := okWide_string ht hv
  exact one rfl rfl
 | slice s =>
  simp only [Fits] at h1
  obtain ⟨es, rfl, -⟩ := h1
  simp only [Sh.has] at hs
  split at hs
  case h_2 => cases hs
  rename_i e ht
  obtain ⟨a, len, cap, rfl⟩ := okWide_slice ht hv
  exact one rfl rfl
 | agg ss =>
  simp only [Fits] at h1
  obtain ⟨ms, -, rfl⟩ := h1
  simp only [Sh.has] at hs
  split at hs
  case h_2 => cases hs
  rename_i fs ht
  obtain ⟨cs, rfl, -⟩ := okWide_struct ht hv
  have h4 : Vs (baseE w) w (ms.flatMap MV.cells) cs.toList := by simpa [MV.cells, Value.cells] using h2
  have := V.agg (E := baseE w) (w := w) _ _ h4.1 h4.2
  simpa using this
def hasAll (P : Program) : List Sh → List TypeId → Bool
 | [], [] => true
 | s :: ss, t :: ts => s.has P t && hasAll P ss ts
 | _, _ => false
theorem lift_all {r : Reach} {b : Nat} : ∀ (ss : List Sh) (ts : List TypeId) (vs : List Value) (ds : List (DataW H)) (ps : List MemPlace), hasAll P ss ts = true → DataW.TrodAll enc P w 0 spare held ts vs ds ps →
  (∀ (j : Nat) t v, ts[j]? = some t → vs[j]? = some v → Value.okWide P w r b t v) → ∃ ms, FitsL ss ms ∧ Vs (baseE w) w ms vs ∧ ds.length = ss.length
 | [], [], [], [], ps, _, _, _ => ⟨[], rfl, ⟨rfl, fun i c v hc => by simp at hc⟩, rfl⟩
 | [], [], [], _ :: _, ps, _, h, _ => by simp [DataW.TrodAll] at h
 | [], [], _ :: _, _, ps, _, h, _ => by simp [DataW.TrodAll] at h
 | s :: ss, t :: ts, [], _, ps, _, h, _ => by simp [DataW.TrodAll] at h
 | s :: ss, t :: ts, _ :: _, [], ps, _, h, _ => by simp [DataW.TrodAll] at h
 | s :: ss, t :: ts, v :: vs, d :: ds, ps, hs, h, hv => by
  simp only [hasAll, Bool.and_eq_true] at hs
  obtain ⟨p, q, h1, h2, -⟩ := h
  obtain ⟨m, k1, k2⟩ := lift_val hs.1 (hv 0 t v rfl rfl) h1
  obtain ⟨ms, j1, j2, j3⟩ := lift_all ss ts vs ds q hs.2 h2 fun j t' v' ht hv' => hv (j + 1) t' v' (by simpa using ht) (by simpa using hv')
  exact ⟨m :: ms, ⟨m, ms, rfl, k1, j1⟩, Vs.cons k2 j2, by simp [j3]⟩
 | [], _ :: _, _, _, _, hs, _, _ => by simp [hasAll] at hs
 | _ :: _, [], _, _, _, hs, _, _ => by simp [hasAll] at hs
theorem stay_all (hl : laidOutB P = true) {W' : World} (hb : Below w.heap.size w W') : ∀ (ts : List TypeId) (vs : List Value) (ds : List (DataW H)) (ps : List MemPlace), DataW.TrodAll enc P w 0 (fun _ => true) true ts vs ds ps → (ts.all fun t => P.readableRec t && decide (t < P.types.size)) = true → (∀ x ∈ ps, x.block < w.heap.size) →
  DataW.TrodAll enc P W' 0 (fun b => decide (b < w.heap.size)) true ts vs ds ps
 | [], [], [], ps, h, _, _ => h
 | [], [], _ :: _, ps, h, _, _ => by simp [DataW.TrodAll] at h
 | [], _ :: _, _, ps, h, _, _ => by simp [DataW.TrodAll] at h
 | t :: ts, [], _, ps, h, _, _ => by simp [DataW.TrodAll] at h
 | t :: ts, _ :: _, [], ps, h, _, _ => by simp [DataW.TrodAll] at h
 | t :: ts, v :: vs, d :: ds, ps, h, hr, hlt => by
  obtain ⟨p, q, h1, h2, rfl⟩ := h
  simp only [List.all_cons, Bool.and_eq_true, decide_eq_true_eq] at hr
  exact ⟨p, q, Below.trod hl hr.1.1 hr.1.2 h1 hb (fun x hx => hlt x (List.mem_append_left _ hx)), stay_all hl hb ts vs ds q h2 (by simpa using hr.2) (fun x hx => hlt x (List.mem_append_right _ hx)), rfl⟩
end
theorem below_ext {w w' : World} {E E' : Env} (hK : ∀ id, ¬ E.K id) (hx : Ext (fun _ => true) E w E' w') : Below w.heap.size w w' :=
 ext_below (n := 0) (hx.mono fun id hk _ => rfl) (fun id hk => absurd hk (hK id))
theorem law_calls {O : Oracle} (hO : SoundO Tryz.prog O ∧ AppO O) {f : Nat} {args : List MV} {vs : List Value} {w : World} (hz : runZ MT O (itA 14) 4000000 f args [] = some (.lit (.bool true), [])) (hv : Vs (baseE w) w args vs) (hT : ∀ p ∈ TABS, V (baseE w) w p.1 p.2) :
  Calls Tryz.prog f vs.toArray w fun e w' => e = .returned (.bool true) ∧ Below w.heap.size w w' := by
 have hI : SoundI Tryz.prog (itA 14) := orI_ok (by kernel_rfl) (tabOf_ok Tryz.prog) tI_ok (orA_ok 14) (orZ_ok (by kernel_rfl) (tabOf_ok Tryz.prog) tA_ok tI_ok 14).2
 refine ((runZ_ok (by kernel_rfl) (tabOf_ok Tryz.prog) hO.1 hO.2 hI hz).2 (baseE w) w vs (baseE_rel w hT) hv).mono ?_
 rintro e w' ⟨v, E', rfl, h1, -, h3⟩
 exact ⟨by rw [h1.lit_eq], below_ext (fun id hk => hk) h3⟩
set_option maxRecDepth 100000 in
theorem law_contractT {H : Type} {enc : TypeId × Value → H} {f : Nat} {fn : Func} {s : ChangeSpec} {O : Oracle} (hO : SoundO Tryz.prog O ∧ AppO O) (shs : List Sh) (hp : hasAll Tryz.prog shs fn.params.toList = true) (hrd : (fn.params.toList.all fun t => Tryz.prog.readableRec t && decide (t < Tryz.prog.types.size)) = true) (hr : fn.resultTypes = #[4])
  (hsv : s.vars = []) (hspec : ∀ ds : List (DataW H), ds.length = shs.length → (s.fn H (ds ++ [])).results = [.lit (.bool true)] ∧ (s.fn H (ds ++ [])).args = ds ∧ (s.fn H (ds ++ [])).vars = [])
  (hz : ∀ ms, FitsL shs ms → runZ MT O (itA 14) 4000000 f ms [] = some (.lit (.bool true), []))
  (W : World) (base : Nat) (args : Array Value) (ds gs : List (DataW H)) (before : List MemPlace) (hval : ∀ (j : Nat) t v, fn.params[j]? = some t → args[j]? = some v → Value.okWide Tryz.prog W .any base t v)
  (hW : DataW.Whole enc Tryz.prog fn.params.toList s.vars false W args.toList ds gs before) (hT : ∀ p ∈ TABS, V (baseE W) W p.1 p.2) :
  Calls Tryz.prog f args W fun e W' => ∃ v, e = .returned v ∧ s.post enc Tryz.prog fn false true false false W args v W' := by
 have hW' := hW
 obtain ⟨p, q, hA, hV, rfl, hfz, hnd⟩ := hW
 rw [hsv] at hV
 obtain ⟨rfl, rfl⟩ := trodVars_none hV
 have hv2 : ∀ (j : Nat) (t : TypeId) (v : Value), fn.params.toList[j]? = some t → args.toList[j]? = some v → Value.okWide Tryz.prog W .any base t v := fun j t v ht hv => hval j t v (by rw [Array.getElem?_toList] at ht; exact ht) (by rw [Array.getElem?_toList] at hv; exact hv)
 obtain ⟨ms, h1, h2, h3⟩ := lift_all (P := Tryz.prog) (w := W) shs fn.params.toList args.toList ds p hp hA hv2
 have hc := law_calls hO (hz ms h1) h2 hT
 rw [Array.toArray_toList] at hc
 refine hc.mono ?_
 rintro e W' ⟨rfl, hb⟩
 obtain ⟨e1, e2, e3⟩ := hspec ds h3
 have hlt : ∀ x ∈ p ++ [], x.block < W.heap.size := fun x hx => by simpa using hW'.lt x hx
 refine ⟨_, rfl, ds, [], p ++ [], [], p, [], hW', ?_, ?_, ?_, hb.frame _, fun h => by cases h⟩
 ·rw [e1, hr]
  exact trodAll_mk1 (shut_bool Tryz.underlying4 true)
 ·rw [e2]
  exact stay_all Tryz.laidOut hb _ _ _ _ hA hrd fun x hx => hlt x (by simpa using hx)
 ·rw [e3, hsv]; rfl
theorem laidVars_mem {P : Program} {w : World} : ∀ {l : List (String × DataW Unit)} {ps : List MemPlace}, DataW.LaidVars P w l ps → ∀ n d, (n, d) ∈ l → ∃ g t cs fuel p, P.globalNamed n = some g ∧ (P.globals[g]?).map (·.type) = some t ∧ w.var? P n = some cs ∧ DataW.trod (fun _ => ()) P w 0 (fun _ => true) false fuel t cs.toList = some (d, p)
 | [], ps, _, n, d, hm => by cases hm
 | (n', d') :: r, ps, h, n, d, hm => by
  obtain ⟨g, t, cs, fuel, p, q, h1, h2, h3, h4, h5, -⟩ := h
  rcases List.mem_cons.1 hm with e | hm
  ·cases e; exact ⟨g, t, cs, fuel, p, h1, h2, h3, h4⟩
  ·exact laidVars_mem h5 n d hm
abbrev tabD : List Nat := [0, 1, 56, 2, 57, 49, 28, 3, 61, 58, 42, 50, 38, 29, 17, 4, 62, 47, 59, 36, 45, 43, 51, 22, 53, 39, 33, 30, 24, 18, 12, 5, 63, 55, 48, 27, 60, 41, 37, 16, 46, 35, 44, 21, 52, 32, 23, 11, 54, 26, 40, 15, 34, 20, 31, 10, 25, 14, 19, 9, 13, 8, 7, 6]
theorem tabs_laid {l : List (String × DataW Unit)} {W : World} (h : laidMetH Tryz.prog l W) (hm : ("math/bits.deBruijn64tab", DataW.agg (tabD.map fun k : Nat => DataW.lit (.int .u8 (k : Int)))) ∈ l) : ∀ p ∈ TABS, V (baseE W) W p.1 p.2 := by
 obtain ⟨⟨ps, hl, -, -⟩, -⟩ := laidMetH_iff.1 h
 obtain ⟨g, t, cs, fuel, p, hg, ht, hv, hd⟩ := laidVars_mem hl _ _ (List.mem_filter.2 ⟨hm, rfl⟩)
 obtain rfl := Option.some.inj ((show Tryz.prog.globalNamed "math/bits.deBruijn64tab" = some 1 by kernel_rfl).symm.trans hg)
 obtain rfl := Option.some.inj ((show (Tryz.prog.globals[1]?).map (·.type) = some 262 by kernel_rfl).symm.trans ht)
 obtain ⟨xs, m, rfl, hx, -, hxl, hxi⟩ := DataW.trod_array Tryz.underlying262 hd
 rw [show Tryz.prog.cellsOf 5 = 1 by kernel_rfl] at hxi
 have hx1 : (tabD.map fun k : Nat => (DataW.lit (.int .u8 (k : Int)) : DataW Unit)) = xs.map (·.1) := by
  have := congrArg Prod.fst hx
  simpa only [DataW.agg.injEq] using this
 have hcell : ∀ i (hi : i < 64), W.cell? ⟨1, i, none⟩ = some (.int .u8 (tabD.getD i 0 : Nat)) := fun i hi => by
  have h1 := hxi i hi
  rw [Nat.mul_one, List.getElem?_eq_getElem (by omega)] at h1
  obtain ⟨n, h2, h3, -⟩ := DataW.trod_int Tryz.underlying5 h1
  have h4 : (xs.map (·.1))[i]? = some (DataW.lit (.int .u8 n)) := by rw [List.getElem?_map, List.getElem?_eq_getElem (by omega), h3]; rfl
  rw [← hx1, List.getElem?_map, List.getElem?_eq_getElem hi] at h4
  simp only [Option.map_some, Option.some.injEq, DataW.lit.injEq, Lit.int.injEq, true_and] at h4
  have h5 : cs[i]? = some (.int .u8 n) := by
   have : ((cs.toList.drop i).take 1)[0]? = some (.int .u8 n) := by rw [h2]; rfl
   rw [List.getElem?_take_of_lt (by omega), List.getElem?_drop, Nat.add_zero, Array.getElem?_toList] at this
   exact this
  rw [World.var?_cell hg hv, h5, ← h4, List.getD_eq_getElem?_getD, List.getElem?_eq_getElem hi]; rfl
 intro p hp
 obtain rfl := List.mem_singleton.1 hp
 have hfl : flat (tabD.map fun k : Nat => MV.lit (.int .u8 (k : Int))) = tabD.map fun k : Nat => MV.lit (.int .u8 (k : Int)) := flat_u8 _
 refine V.sl _ (tabD.map fun k : Nat => Value.int .u8 (k : Int)) _ 64 1 (Nat.le_refl _) (fun e he => ?_) (by rw [hfl]; rfl) (fun i c v hc hv' => ?_) fun _ => ⟨_, 0, rfl, cell_lt (hcell 0 (by omega)), fun i v hi => ?_⟩
 ·obtain ⟨k, -, rfl⟩ := List.mem_map.1 he; rfl
 ·rw [hfl, List.getElem?_map] at hc
  rw [List.getElem?_map] at hv'
  cases hk : tabD[i]? with
  | none => rw [hk] at hc; cases hc
  | some k =>
   rw [hk] at hc hv'
   cases hc; cases hv'
   exact .lit _
 ·rw [List.getElem?_map] at hi
  cases hk : tabD[i]? with
  | none => rw [hk] at hi; cases hi
  | some k =>
   rw [hk] at hi
   cases hi
   have hlt : i < 64 := (List.getElem?_eq_some_iff.1 hk).1
   rw [Nat.zero_add, hcell i hlt, List.getD_eq_getElem?_getD, hk]; rfl
end Go.Proofs.YtnmgpbihknjdjaaGreatDoor

/- Open values of common shapes. -/
namespace Go.Proofs.YtnmgpbihknjdjaaGreatDoor
open Go.ChangeShapes Go.WideShapes Go.ChangeAt Go.RowKit
theorem maxLen_le : maxLen ≤ 9223372036854775807 := by decide
theorem fits_int {k : IntKind} {m : MV} (h : Fits (.int k) m) : ∃ n, m = .lit (.int k n) ∧ (Lit.int k n).wf = true := by
 simp only [Fits] at h; exact h
theorem fits_agg {ss : List Sh} {m : MV} (h : Fits (.agg ss) m) : ∃ ms, FitsL ss ms ∧ m = .agg (ms.flatMap MV.cells) := by
 simp only [Fits] at h; exact h
theorem fitsL_cons {s : Sh} {ss : List Sh} {ms : List MV} (h : FitsL (s :: ss) ms) : ∃ m r, ms = m :: r ∧ Fits s m ∧ FitsL ss r := by
 simp only [FitsL] at h; exact h
theorem fitsL_nil {ms : List MV} (h : FitsL [] ms) : ms = [] := by
 simp only [FitsL] at h; exact h
end Go.Proofs.YtnmgpbihknjdjaaGreatDoor

/- Rows of integers. -/
namespace Go.Proofs.YtnmgpbihknjdjaaGreatDoor
open Go.RowKit
set_option linter.unusedVariables false
theorem ltL_lits {n : Nat} {α : Type} {f : α → MV} (hf : ∀ a, (f a).lt n = true) : ∀ xs : List α, ltL n (xs.map f) = true
 | [] => rfl
 | x :: xs => by simp [ltL, hf x, ltL_lits hf xs]
theorem ltL_I (n : Nat) (xs : List Int) : ltL n (xs.map I64) = true := ltL_lits (fun _ => rfl) xs
theorem frz_arr {h : MHeap} {id i k g : Nat} {o : MObj} {es : List MV} (ho : h[id]? = some o) (hg : o.g = g) (hk : i + k ≤ o.es.length) (hl : ltL 0 o.es = true) (he : (o.es.drop i).take k = es) : frz 0 [] h 8 (.arr id i k g) = some (.sl es) := by
 simp [frz, MV.lt, ho, hg, hk, hl, he]
theorem frz_sl {h : MHeap} {es : List MV} (hl : ltL 0 es = true) : frz 0 [] h 8 (.sl es) = some (.sl es) := by
 simp [frz, MV.lt, hl]
def FzS (H : MHeap) (v : MV) (es : List MV) : Prop := v.slen = some es.length ∧ ∀ t, frz 0 [] (H ++ t) 8 v = some (.sl es)
theorem FzS.now {H : MHeap} {v : MV} {es : List MV} (h : FzS H v es) : frz 0 [] H 8 v = some (.sl es) := by have := h.2 []; rwa [List.append_nil] at this
theorem fz_arr {h : MHeap} {id k : Nat} {o : MObj} {es : List MV} (ho : h[id]? = some o) (hg : o.g = 0) (hk : k = es.length) (hl : ltL 0 es = true) (he : o.es = es) : FzS h (.arr id 0 k 0) es := by
 subst he hk
 refine ⟨rfl, fun t => frz_arr (o := o) ?_ hg (by simp) hl (by simp)⟩
 rw [List.getElem?_append_left (List.getElem?_eq_some_iff.1 ho).1]; exact ho
theorem mf_Ints : MT.mf 24 = some ⟨26, [(.tmp 4)], (.seq (.reg [gO 4 (.mv cF)]) (.seq (.seq (.reg [gO 6 (.mv (.s 0)), gO 7 (.len (.s 6)), gO 8 (.mv (.s 1)), gO 9 (.len (.s 8)), gO 10 (.bin .neq (.s 7) (.s 9))]) (.cond (.s 10) (.seq (.reg [gO 4 (.mv cF)]) .ret) .skip)) (.seq (.seq (.reg [gO 5 (.mv (cI 0))]) (.block 0 (.loop [5, 0, 1] (.seq (.seq (.reg [gO 11 (.mv (.s 5)), gO 12 (.mv (.s 0)), gO 13 (.len (.s 12)), gO 14 (.bin .lss (.s 11) (.s 13))]) (.cond (.s 14) .skip (.exit 0))) (.seq (.block 1 (.seq (.reg [gO 17 (.mv (.s 0)), gO 18 (.mv (.s 5)), gO 19 (.ia 1 (.s 17) (.s 18)), gO 20 (.ld none (.s 19)), gO 21 (.mv (.s 1)), gO 22 (.mv (.s 5)), gO 23 (.ia 1 (.s 21) (.s 22)), gO 24 (.ld none (.s 23)), gO 25 (.bin .neq (.s 20) (.s 24))]) (.cond (.s 25) (.seq (.reg [gO 4 (.mv cF)]) .ret) .skip))) (.reg [gO 15 (.mv (.s 5)), gO 16 (.bin .add (.s 15) (cI 1)), gO 5 (.mv (.s 16))])))))) (.seq (.reg [gO 4 (.mv cT)]) .ret))))⟩ := by kernel_rfl
theorem bInts_z (k : Nat) (xs ys : List Int) (hx : xs.length < 1000000) : runZ MT (orA k) (itA k) 4000000 24 [.sl (xs.map I64), .sl (ys.map I64)] [] = some (Bo (xs == ys), []) := by
 have hl1 : (xs.map I64).length = xs.length := by simp
 have hl2 : (ys.map I64).length = ys.length := by simp
 refine runZ_of mf_Ints (by simp) ?_
 simp only [argsL]
 by_cases hlen : xs.length = ys.length
 ·repeat (first | apply ef_seq | (apply ef_mv; exact rfl; exact rfl) | (apply ef_bin; (iterate 3 exact rfl); (exact cmp_f rfl (by simp only [cmpP]; omega))) | (apply ef_len; exact rfl; exact rfl; (exact rfl)) | apply ef_nil | apply seqQ.normal | apply ef_block | apply ef_skip | (apply ef_condf; exact rfl; (exact (rfl : false = false))))
  refine ef_loop (α := Nat) (fun i => i ≤ xs.length ∧ (xs == ys) = (xs.drop i == ys.drop i)) (fun i => [(5, I64 (i : Int)), (0, .sl (xs.map I64)), (1, .sl (ys.map I64))]) (fun _ => []) (fun i => xs.length - i) 0 [5, 0, 1] (fun _ => rfl) rfl ⟨by omega, by simp⟩ (by simp; omega) (by ((repeat (refine Hold.cons (by exact rfl) ?_)); exact Hold.nil)) rfl ?_
  rintro i ⟨hi, hz⟩
  by_cases hlt : i < xs.length
  ·have e1 := at_map I64 xs i hlt
   have e2 := at_map I64 ys i (by omega)
   have HD := Lib.hid (drop_at xs i hlt)
   have HD2 := Lib.hid (drop_at ys i (by omega))
   have HZ := Lib.hid hz
   clear hz
   generalize xs[i] = p at e1 HD
   generalize ys[i] = q at e2 HD2
   by_cases hpq : p = q
   ·subst hpq
    repeat (first | apply ef_seq | (apply ef_mv; exact rfl; exact rfl) | (apply ef_bin; (iterate 3 exact rfl); (first | exact cmp_t rfl (by first | exact rfl | (simp only [cmpP]; omega)) | exact cmp_f rfl (by simp only [cmpP]; omega) | ((with_reducible refine bin_add (wrap_of ?_ ?_)) <;> omega))) | (apply ef_len; exact rfl; exact rfl; (exact rfl)) | (apply ef_ldr; exact rfl; exact rfl; (exact rfl)) | (apply ef_ias; (iterate 3 exact rfl); (omega); assumption; exact rfl) | apply ef_nil | apply seqQ.normal | apply blockQ.normal | apply ef_block | apply ef_skip | (apply ef_condt; exact rfl; (exact (rfl : true = true))) | (apply ef_condf; exact rfl; (exact (rfl : false = false))))
    (refine loopQ.normal _ _ ⟨i + 1, ⟨hlt, by rw [HZ.out, HD.out, HD2.out]; simp⟩, (by first | (simp only; omega) | omega), by ((repeat (refine Hold.cons (by exact rfl) ?_)); exact Hold.nil), .inl (Nat.le_refl _), (by first | exact List.take_length | exact rfl)⟩)
   ·repeat (first | apply ef_seq | (apply ef_mv; exact rfl; exact rfl) | (apply ef_bin; (iterate 3 exact rfl); (exact cmp_t rfl (by first | exact rfl | (simp only [cmpP]; omega)))) | (apply ef_len; exact rfl; exact rfl; (exact rfl)) | (apply ef_ldr; exact rfl; exact rfl; (exact rfl)) | (apply ef_ias; (iterate 3 exact rfl); (omega); assumption; exact rfl) | apply ef_nil | apply seqQ.normal | apply loopQ.ret | apply ef_ret | apply seqQ.ret | apply blockQ.ret | apply ef_block | apply ef_skip | (apply ef_condt; exact rfl; (exact (rfl : true = true))))
    (refine fin1 rfl (by exact rfl) rfl ?_)
    rw [HZ.out, HD.out, HD2.out]
    simp [hpq]
  ·repeat (first | apply ef_seq | (apply ef_mv; exact rfl; exact rfl) | (apply ef_bin; (iterate 3 exact rfl); (exact cmp_f rfl (by simp only [cmpP]; omega))) | (apply ef_len; exact rfl; exact rfl; (exact rfl)) | apply ef_nil | apply seqQ.normal | apply loopQ.exit | apply ef_ret | apply ef_exit | apply seqQ.exit | apply blockQ.here | (apply ef_condf; exact rfl; (exact (rfl : false = false))))
   (refine fin1 rfl (by exact rfl) rfl ?_)
   rw [hz, List.drop_eq_nil_of_le (by omega), List.drop_eq_nil_of_le (by omega)]; rfl
 ·repeat (first | apply ef_seq | (apply ef_mv; exact rfl; exact rfl) | (apply ef_bin; (iterate 3 exact rfl); (exact cmp_t rfl (by first | exact rfl | (simp only [cmpP]; omega)))) | (apply ef_len; exact rfl; exact rfl; (exact rfl)) | apply ef_nil | apply seqQ.normal | apply ef_ret | apply seqQ.ret | (apply ef_condt; exact rfl; (exact (rfl : true = true))))
  (refine fin1 rfl (by exact rfl) rfl ?_)
  have : (xs == ys) = false := by
   rw [beq_eq_false_iff_ne]; exact fun e => hlen (by rw [e])
  rw [this]
theorem bInts_c (k : Nat) (xs ys : List Int) (h : MHeap) {v w : MV} (hx : xs.length < 1000000) (hv : frz 0 [] h 8 v = some (.sl (xs.map I64))) (hw : frz 0 [] h 8 w = some (.sl (ys.map I64))) {t : Bool} (ht : (xs == ys) = t) : orA (k + 1) 24 [v, w] h = some (Bo t, h) :=
 callL (args' := [.sl (xs.map I64), .sl (ys.map I64)]) (by simp [List.mapM_cons, hv, hw]) rfl (by rw [← ht]; exact bInts_z k xs ys hx)
theorem callTT {k f : Nat} {args args' : List MV} {h : MHeap} {a b : Value} (h1 : args.mapM (frz 0 [] h 8) = some args') (hT : tA f args' [] = none) (h2 : runZ MT (orA k) (itA k) 4000000 f args' [] = some (.tup [.lit a, .lit b], [])) : orA (k + 1) f args h = some (.tup [.lit a, .lit b], h) := by
 have := callA h1 hT h2 (by simp [okV, ok1, MV.lt, MV.pure]) rfl
 simpa [shV, sh1] using this
theorem frz_lt {h : MHeap} {m : MV} (hl : m.lt 0 = true) : frz 0 [] h 8 m = some m := by simp [frz, hl]
theorem frzL_lt {h : MHeap} : ∀ {ms : List MV}, ltL 0 ms = true → ms.mapM (frz 0 [] h 8) = some ms
 | [], _ => rfl
 | m :: ms, hl => by
  simp only [ltL, Bool.and_eq_true] at hl
  rw [List.mapM_cons, frz_lt hl.1, frzL_lt hl.2]; rfl
theorem fin_frz {x : MX2} {A : Sl} {h : MHeap} {t : Nat} {v v' : MV} (hx : outX x = true) (hv : look A t = some v) (hi : impIds 0 [v] = []) (hn : ∀ id i k g, v ≠ .arr id i k g) (hf : frz 0 [] h 8 v = some v') : FinF [.tmp t] v' [] x A h := by
 refine ⟨hx, [v], [v'], ⟨v, [], rfl, hv, rfl⟩, by rw [hi]; simp, ?_, rfl⟩
 rw [hi]
 cases v with
 | arr id i k g => exact absurd rfl (hn id i k g)
 | _ => simp [expL, hf]
theorem itA_of {k g q : Nat} {caps : List MV} {h : MHeap} {mf : MF} {xs : List (List MV)} (hmf : MT.mf g = some mf) (hsq : MT.sq g = true) (hi : itM (orA k) 4000000 mf q caps h = some xs) (hg : tI g q caps h = none := by rfl) : itA k g q caps h = some xs := by
 unfold itA orI
 simp only [hg, hsq, hmf, hi, if_true]
end Go.Proofs.YtnmgpbihknjdjaaGreatDoor

/- Nets: what the document says of them, without a program. -/
namespace Go.Proofs.YtnmgpbihknjdjaaGreatDoor
open Go.RowKit
set_option linter.unusedVariables false
structure Cr where
 ln : Int
 ti : Int
 pa : Int
 pt : Int
 df : Int
 wt : Int
instance : Inhabited Cr := ⟨⟨0, 0, 0, 0, 0, 0⟩⟩
abbrev Ln := ByteArray × Bool
structure Nt where
 ls : List Ln
 cs : List Cr
end Go.Proofs.YtnmgpbihknjdjaaGreatDoor

/- Open values of nets. -/
namespace Go.Proofs.YtnmgpbihknjdjaaGreatDoor
open Go.ChangeShapes Go.WideShapes Go.ChangeAt Go.RowKit
abbrev i64Sh : Sh := .int .i64
theorem fits_list {α : Type} {s : Sh} (enc : α → MV) (H : ∀ m, Fits s m → ∃ a, m = enc a) {m : MV} (h : Fits (.slice s) m) : ∃ xs : List α, m = .sl (xs.map enc) ∧ xs.length ≤ 9223372036854775807 := by
 rw [Fits] at h
 obtain ⟨es, rfl, hl, he⟩ := h
 replace hl := Nat.le_trans hl maxLen_le
 induction es with
 | nil => exact ⟨[], rfl, by simp⟩
 | cons e es ih =>
  obtain ⟨a, rfl⟩ := H e (he e List.mem_cons_self)
  obtain ⟨xs, h1, h2⟩ := ih (fun e h => he e (List.mem_cons_of_mem _ h)) (by simp at hl; omega)
  have e1 : es = xs.map enc := by simpa using h1
  subst e1
  exact ⟨a :: xs, rfl, by simpa using hl⟩
end Go.Proofs.YtnmgpbihknjdjaaGreatDoor

/- Contracts of the program: the words of the chapter. -/
namespace Go.Proofs.YtnmgpbihknjdjaaGreatDoor
open Go.RowKit
set_option linter.unusedVariables false
theorem mf_pwithin : MT.mf 103 = some mfW_l103 := mfW_q103
theorem within_c (k : Nat) (a b c : Int) (h : MHeap) {t : Bool} (ht : inB a b c = t) : orA (k + 1) 103 [I64 a, I64 b, I64 c] h = some (Bo t, h) := by
 refine callL (frz_lits [.int .i64 a, .int .i64 b, .int .i64 c]) rfl (runZ_of mf_pwithin (by simp) ?_)
 simp only [argsL, List.map_cons, List.map_nil]
 by_cases h1 : b ≤ a
 all_goals repeat (first | apply ef_seq | (apply ef_mv; exact rfl; exact rfl) | (apply ef_bin; (iterate 3 exact rfl); (first | exact cmp_t rfl (by first | exact rfl | (simp only [cmpP]; omega)) | exact cmp_f rfl (by simp only [cmpP]; omega) | exact rfl)) | (apply ef_gy; exact rfl; (exact (rfl : true = true))) | (apply ef_gn; exact rfl; (exact (rfl : false = false)); exact rfl) | (apply ef_pick; (iterate 3 exact rfl)) | apply ef_nil | apply seqQ.normal | apply ef_ret)
 ·(refine fin1 rfl (by exact rfl) rfl ?_)
  simp [inB, h1] at ht; simp [← ht]
 ·(refine fin1 rfl (by exact rfl) rfl ?_)
  simp [inB, h1] at ht; simp [← ht]
theorem mf_unless : MT.mf 105 = some mfW_l105 := mfW_q105
theorem unless_c (k : Nat) (b : Bool) (n : Int) (h : MHeap) {e : Int} (he : unl b n = e) : orA (k + 1) 105 [Bo b, I64 n] h = some (I64 e, h) := by
 subst he
 refine callL (frz_lits [.bool b, .int .i64 n]) rfl (runZ_of mf_unless (by simp) ?_)
 simp only [argsL, List.map_cons, List.map_nil]
 cases b
 all_goals repeat (first | apply ef_seq | (apply ef_mv; exact rfl; exact rfl) | apply ef_nil | apply seqQ.normal | apply ef_ret | apply seqQ.ret | apply ef_skip | (apply ef_condt; exact rfl; (exact (rfl : true = true))) | (apply ef_condf; exact rfl; (exact (rfl : false = false))))
 all_goals (refine fin1 rfl (by exact rfl) rfl ?_)
 all_goals rfl
theorem mf_first : MT.mf 104 = some mfW_l104 := mfW_q104
theorem first_z (k : Nat) (xs : List Int) (hx : xs.length ≤ 1000) : runZ MT (orA k) (itA k) 4000000 104 [.sl (xs.map I64)] [] = some (I64 (firstE xs), []) := by
 have hl : (MV.sl (xs.map I64)).slen = some xs.length := by simp [MV.slen]
 refine runZ_of mf_first (by simp) ?_
 simp only [argsL]
 repeat (first | apply ef_seq | (apply ef_mv; exact rfl; exact rfl) | (apply ef_len; exact rfl; exact rfl; (assumption)) | apply ef_nil | apply seqQ.normal | apply ef_block)
 refine ef_loop (α := Nat) (fun i => i ≤ xs.length ∧ firstE xs = firstE (xs.drop i)) (fun i => [(7, I64 (i : Int)), (6, I64 (xs.length : Int)), (5, .sl (xs.map I64))]) (fun _ => []) (fun i => xs.length - i) 0 [7, 6, 5] (fun _ => rfl) rfl ⟨by omega, rfl⟩ (by simp; omega) (by ((repeat (refine Hold.cons (by exact rfl) ?_)); exact Hold.nil)) rfl ?_
 rintro i ⟨hi, hz⟩
 by_cases hlt : i < xs.length
 ·have e1 := at_map I64 xs i hlt
  have HD := Lib.hid (drop_at xs i hlt)
  have HZ := Lib.hid hz
  clear hz
  generalize xs[i] = x at e1 HD
  by_cases h0 : x = 0
  ·subst h0
   repeat (first | apply ef_seq | (apply ef_mv; exact rfl; exact rfl) | (apply ef_bin; (iterate 3 exact rfl); (first | exact cmp_t rfl (by first | exact rfl | (simp only [cmpP]; omega)) | exact cmp_f rfl (by simp only [cmpP]; omega) | ((with_reducible refine bin_add (wrap_of ?_ ?_)) <;> omega))) | (apply ef_ldr; exact rfl; exact rfl; (exact rfl)) | (apply ef_ias; (iterate 3 exact rfl); (omega); assumption; exact rfl) | apply ef_nil | apply seqQ.normal | apply blockQ.normal | apply ef_block | apply ef_skip | (apply ef_condt; exact rfl; (exact (rfl : true = true))) | (apply ef_condf; exact rfl; (exact (rfl : false = false))))
   (refine loopQ.normal _ _ ⟨i + 1, ⟨hlt, by rw [HZ.out, HD.out]; simp [firstE]⟩, (by first | (simp only; omega) | omega), by ((repeat (refine Hold.cons (by exact rfl) ?_)); exact Hold.nil), .inl (Nat.le_refl _), (by first | exact List.take_length | exact rfl)⟩)
  ·repeat (first | apply ef_seq | (apply ef_mv; exact rfl; exact rfl) | (apply ef_bin; (iterate 3 exact rfl); (exact cmp_t rfl (by first | exact rfl | (simp only [cmpP]; omega)))) | (apply ef_ldr; exact rfl; exact rfl; (exact rfl)) | (apply ef_ias; (iterate 3 exact rfl); (omega); assumption; exact rfl) | apply ef_nil | apply seqQ.normal | apply loopQ.ret | apply ef_ret | apply seqQ.ret | apply blockQ.ret | apply ef_block | apply ef_skip | (apply ef_condt; exact rfl; (exact (rfl : true = true))))
   (refine fin1 rfl (by exact rfl) rfl ?_)
   rw [HZ.out, HD.out]; simp [firstE, h0]
 ·repeat (first | apply ef_seq | (apply ef_mv; exact rfl; exact rfl) | (apply ef_bin; (iterate 3 exact rfl); (exact cmp_f rfl (by simp only [cmpP]; omega))) | apply ef_nil | apply seqQ.normal | apply loopQ.exit | apply ef_ret | apply ef_exit | apply seqQ.exit | apply blockQ.here | (apply ef_condf; exact rfl; (exact (rfl : false = false))))
  (refine fin1 rfl (by exact rfl) rfl ?_)
  rw [hz, List.drop_eq_nil_of_le (by omega)]; rfl
theorem first_c (k : Nat) (xs : List Int) (h : MHeap) {v : MV} {e : Int} (hv : frz 0 [] h 8 v = some (.sl (xs.map I64))) (he : firstE xs = e) (hx : xs.length ≤ 1000 := by simp) : orA (k + 1) 104 [v] h = some (I64 e, h) :=
 callL (args' := [.sl (xs.map I64)]) (by simp [List.mapM_cons, hv]) rfl (by rw [← he]; exact first_z k xs hx)
theorem first2_c {k id : Nat} {a0 a1 e : Int} {h : MHeap} {o : MObj} (ho : h[id]? = some o) (hg : o.g = 0) (hes : o.es = [I64 a0, I64 a1]) (he : firstE [a0, a1] = e) : orA (k + 1) 104 [.arr id 0 2 0] h = some (I64 e, h) :=
 first_c k [a0, a1] h (fz_arr ho hg rfl rfl hes).now he
end Go.Proofs.YtnmgpbihknjdjaaGreatDoor

/- More rules of evaluation: cuts with a state, rows of integers. -/
namespace Go.Proofs.YtnmgpbihknjdjaaGreatDoor
open Go.RowKit
section
variable {O : Oracle} {I : Iter} {N n : Nat} {lk : Nat → Bool} {A : Sl} {h : MHeap} {Q : MX2 → Sl → MHeap → Prop}
end
theorem ok_of {h : MHeap} {id g sz : Nat} {o : MObj} (ho : h[id]? = some o) (hg : o.g = g) (hz : o.sz = sz) : MHeap.ok h id g sz = true := by
 subst hg hz; simp [MHeap.ok, ho]
theorem fin_al {x : MX2} {A : Sl} {h : MHeap} {t u id k g : Nat} {o : MObj} {es : List MV} {sz : Nat} {nl : Bool} {v : Value} (hx : outX x = true) (hv : look A t = some (.arr id 0 k g)) (hw : look A u = some (.lit v)) (ho : h[id]? = some o) (hg : o.g = g) (hk : k = es.length) (hl : ltL 0 es = true) (he : o.es = es) (hz : o.sz = sz) (hn : o.nl = nl) :
  FinF [.tmp t, .tmp u] (.tup [.arr 0 0 k 0, .lit v]) [⟨0, nl, sz, es⟩] x A h := by
 subst hz hn he hk
 refine ⟨hx, [.arr id 0 o.es.length g, .lit v], [.arr 0 0 o.es.length 0, .lit v], ⟨_, _, rfl, hv, _, [], rfl, hw, rfl⟩, ?_, ?_, rfl⟩
 ·simp [impIds]
 ·simp [expL, ho, hg, hl, frz, MV.lt]
end Go.Proofs.YtnmgpbihknjdjaaGreatDoor

/- Iterators with open values: rules; ranges over them. -/
namespace Go.Proofs.YtnmgpbihknjdjaaGreatDoor
open Go.RowKit
set_option linter.unusedVariables false
theorem bindL_all {α β : Type} {f : α → Option (List β)} {P : β → Prop} : ∀ {l : List α}, (∀ a ∈ l, ∃ r, f a = some r ∧ ∀ x ∈ r, P x) → ∃ m, bindL f l = some m ∧ ∀ x ∈ m, P x
 | [], _ => ⟨[], rfl, fun x hx => by cases hx⟩
 | a :: l, h => by
  obtain ⟨r, h1, h2⟩ := h a List.mem_cons_self
  obtain ⟨m, h3, h4⟩ := bindL_all (l := l) fun b hb => h b (List.mem_cons_of_mem _ hb)
  refine ⟨r ++ m, by simp only [bindL, h1, h3], fun x hx => ?_⟩
  rcases List.mem_append.1 hx with hx | hx
  ·exact h2 x hx
  ·exact h4 x hx
theorem bindL_cnt {α β : Type} {f : α → Option (List β)} {sa : α → Bool} {sb : β → Bool} (hf : ∀ a r, f a = some r → (r.filter fun x => !sb x).length = if sa a then 0 else 1) :
  ∀ (l : List α) (m : List β), bindL f l = some m → (m.filter fun x => !sb x).length = (l.filter fun x => !sa x).length
 | [], m, h => by simp only [bindL, Option.some.injEq] at h; subst h; rfl
 | a :: l, m, h => by
  simp only [bindL] at h
  split at h
  case h_2 => cases h
  rename_i r hr
  split at h
  case h_2 => cases h
  rename_i m' hm
  cases h
  have h1 := hf a r hr
  have h2 := bindL_cnt hf l m' hm
  rw [List.filter_append, List.length_append, h1, h2, List.filter_cons]
  cases sa a <;> simp <;> omega
abbrev liveI (l : List (MX2 × ISt)) : Nat := (l.filter fun o => !o.2.stop).length
theorem contI_one {f : ISt → Option (List (MX2 × ISt))} (hf : ∀ st outs, f st = some outs → liveI outs = if st.stop then 0 else 1) (p : MX2 × ISt) (outs : List (MX2 × ISt)) (h : contI f p = some outs) : liveI outs = if p.2.stop then 0 else 1 := by
 obtain ⟨x, st⟩ := p
 cases x with
 | normal => exact hf _ _ h
 | exit id =>
  simp only [contI, Option.some.injEq] at h
  subst h
  simp only [liveI, List.filter_cons, List.filter_nil]
  cases st.stop <;> rfl
 | ret =>
  simp only [contI, Option.some.injEq] at h
  subst h
  simp only [liveI, List.filter_cons, List.filter_nil]
  cases st.stop <;> rfl
theorem roundsI_one {f : ISt → Option (List (MX2 × ISt))} (hf : ∀ st outs, f st = some outs → liveI outs = if st.stop then 0 else 1) : ∀ n st outs, roundsI f n st = some outs → liveI outs = if st.stop then 0 else 1 := by
 intro n
 induction n with
 | zero => intro st outs h; simp [roundsI] at h
 | succ n ih =>
  intro st outs h
  simp only [roundsI] at h
  split at h
  case h_2 => cases h
  rename_i l hl
  have := bindL_cnt (sa := fun p : MX2 × ISt => p.2.stop) (sb := fun p : MX2 × ISt => p.2.stop) (contI_one ih) l outs h
  exact this.trans (hf _ _ hl)
theorem evGI_one {O : Oracle} {o : GO} {st : ISt} {l : List ISt} (h : evGI O o st = some l) : (l.filter fun s => !s.stop).length = if st.stop then 0 else 1 := by
 unfold evGI at h
 split at h
 ·split at h
  case isFalse => cases h
  rename_i hs
  cases h
  rw [hs.1]
  rfl
 ·rw [Option.map_eq_some_iff] at h
  obtain ⟨st', _, rfl⟩ := h
  simp only [List.filter_cons, List.filter_nil]
  cases st.stop <;> rfl
theorem evRI_one {O : Oracle} : ∀ (gl : List GO) (st : ISt) (l : List ISt), evRI O gl st = some l → (l.filter fun s => !s.stop).length = if st.stop then 0 else 1
 | [], st, l, h => by
  simp only [evRI, Option.some.injEq] at h
  subst h
  simp only [List.filter_cons, List.filter_nil]
  cases st.stop <;> rfl
 | o :: gl, st, l, h => by
  simp only [evRI] at h
  split at h
  case h_2 => cases h
  rename_i l1 h1
  exact (bindL_cnt (sa := ISt.stop) (sb := ISt.stop) (evRI_one gl) l1 l h).trans (evGI_one h1)
theorem evI_one {O : Oracle} {N : Nat} : ∀ (mc : MC) (st : ISt) (outs : List (MX2 × ISt)), evI O N mc st = some outs → liveI outs = if st.stop then 0 else 1 := by
 have one : ∀ (x : MX2) (st : ISt), liveI [(x, st)] = if st.stop then 0 else 1 := fun x st => by
  simp only [liveI, List.filter_cons, List.filter_nil]
  cases st.stop <;> rfl
 intro mc
 induction mc with
 | skip => intro st outs h; simp only [evI, Option.some.injEq] at h; subst h; exact one _ _
 | ret => intro st outs h; simp only [evI, Option.some.injEq] at h; subst h; exact one _ _
 | exit id => intro st outs h; simp only [evI, Option.some.injEq] at h; subst h; exact one _ _
 | bad => intro st outs h; simp [evI] at h
 | rf => intro st outs h; simp [evI] at h
 | give => intro st outs h; simp [evI] at h
 | mr => intro st outs h; simp [evI] at h
 | mrk => intro st outs h; simp [evI] at h
 | reg gl =>
  intro st outs h
  simp only [evI] at h
  split at h
  ·rw [Option.map_eq_some_iff] at h
   obtain ⟨l, h1, rfl⟩ := h
   have := evRI_one gl st l h1
   rw [← this, liveI, List.filter_map, List.length_map]
   rfl
  ·rw [Option.map_eq_some_iff] at h
   obtain ⟨st', h1, rfl⟩ := h
   exact one _ _
 | seq a b iha ihb =>
  intro st outs h
  simp only [evI] at h
  split at h
  case h_2 => cases h
  rename_i l hl
  exact (bindL_cnt (sa := fun p : MX2 × ISt => p.2.stop) (sb := fun p : MX2 × ISt => p.2.stop) (contI_one ihb) l outs h).trans (iha _ _ hl)
 | cond c a b iha ihb =>
  intro st outs h
  simp only [evI] at h
  split at h
  case h_2 => cases h
  split at h
  ·exact iha _ _ h
  ·exact ihb _ _ h
 | block id b ih =>
  intro st outs h
  simp only [evI, Option.map_eq_some_iff] at h
  obtain ⟨l, h1, rfl⟩ := h
  rw [← ih _ _ h1, liveI, List.filter_map, List.length_map]
  congr 2
  funext o
  have : (leaveB id o).2 = o.2 := by unfold leaveB; split; split <;> rfl; rfl
  simp only [Function.comp_apply, this]
 | loop keep b ih =>
  intro st outs h
  simp only [evI] at h
  exact roundsI_one ih _ _ _ h
abbrev QI := MX2 → Sl → MHeap → Nat → List (List MV) → Bool → Prop
structure EfI (O : Oracle) (N n : Nat) (mc : MC) (A : Sl) (h : MHeap) (ln : Nat) (xs : List (List MV)) (stop : Bool) (Q : QI) : Prop where
 run : ∀ s, SRel n A s → ∃ outs, evI O N mc ⟨s, h, ln, xs, stop⟩ = some outs ∧ ∀ o ∈ outs, ∃ A', SRel n A' o.2.s ∧ Q o.1 A' o.2.h o.2.ln o.2.xs o.2.stop
structure EfY (O : Oracle) (N n : Nat) (gl : List GO) (A : Sl) (h : MHeap) (ln : Nat) (xs : List (List MV)) (stop : Bool) (Q : Sl → MHeap → Nat → List (List MV) → Bool → Prop) : Prop where
 run : ∀ s, SRel n A s → ∃ l, evRI O gl ⟨s, h, ln, xs, stop⟩ = some l ∧ ∀ o ∈ l, ∃ A', SRel n A' o.s ∧ Q A' o.h o.ln o.xs o.stop
section
variable {O : Oracle} {N n : Nat} {A : Sl} {h : MHeap} {ln : Nat} {xs : List (List MV)} {stop : Bool} {Q : QI}
inductive seqI (O : Oracle) (N n : Nat) (b : MC) (Q : QI) : QI
 | normal (A : Sl) (h : MHeap) (ln : Nat) (xs : List (List MV)) (stop : Bool) : EfI O N n b A h ln xs stop Q → seqI O N n b Q .normal A h ln xs stop
 | ret (A : Sl) (h : MHeap) (ln : Nat) (xs : List (List MV)) (stop : Bool) : Q .ret A h ln xs stop → seqI O N n b Q .ret A h ln xs stop
 | exit (id : Nat) (A : Sl) (h : MHeap) (ln : Nat) (xs : List (List MV)) (stop : Bool) : Q (.exit id) A h ln xs stop → seqI O N n b Q (.exit id) A h ln xs stop
inductive blockI (id : Nat) (Q : QI) : QI
 | normal (A : Sl) (h : MHeap) (ln : Nat) (xs : List (List MV)) (stop : Bool) : Q .normal A h ln xs stop → blockI id Q .normal A h ln xs stop
 | ret (A : Sl) (h : MHeap) (ln : Nat) (xs : List (List MV)) (stop : Bool) : Q .ret A h ln xs stop → blockI id Q .ret A h ln xs stop
 | here (A : Sl) (h : MHeap) (ln : Nat) (xs : List (List MV)) (stop : Bool) : Q .normal A h ln xs stop → blockI id Q (.exit id) A h ln xs stop
 | there (k : Nat) (A : Sl) (h : MHeap) (ln : Nat) (xs : List (List MV)) (stop : Bool) : k ≠ id → Q (.exit k) A h ln xs stop → blockI id Q (.exit k) A h ln xs stop
inductive loopI (R : Sl → MHeap → Nat → List (List MV) → Bool → Prop) (Q : QI) : QI
 | normal (A : Sl) (h : MHeap) (ln : Nat) (xs : List (List MV)) (stop : Bool) : R A h ln xs stop → loopI R Q .normal A h ln xs stop
 | ret (A : Sl) (h : MHeap) (ln : Nat) (xs : List (List MV)) (stop : Bool) : Q .ret A h ln xs stop → loopI R Q .ret A h ln xs stop
 | exit (id : Nat) (A : Sl) (h : MHeap) (ln : Nat) (xs : List (List MV)) (stop : Bool) : Q (.exit id) A h ln xs stop → loopI R Q (.exit id) A h ln xs stop
theorem efi_one {mc : MC} {x : MX2} (he : ∀ s, evI O N mc ⟨s, h, ln, xs, stop⟩ = some [(x, ⟨s, h, ln, xs, stop⟩)]) (hQ : Q x A h ln xs stop) : EfI O N n mc A h ln xs stop Q := .mk fun s hs =>
 ⟨_, he s, fun o ho => by rcases List.mem_cons.1 ho with rfl | ho; exact ⟨A, hs, hQ⟩; cases ho⟩
theorem efi_skip (hQ : Q .normal A h ln xs stop) : EfI O N n .skip A h ln xs stop Q := efi_one (fun s => rfl) hQ
theorem efi_ret (hQ : Q .ret A h ln xs stop) : EfI O N n .ret A h ln xs stop Q := efi_one (fun s => rfl) hQ
theorem efi_exit {id : Nat} (hQ : Q (.exit id) A h ln xs stop) : EfI O N n (.exit id) A h ln xs stop Q := efi_one (fun s => rfl) hQ
theorem efi_seq {a b : MC} (hE : EfI O N n a A h ln xs stop (seqI O N n b Q)) : EfI O N n (.seq a b) A h ln xs stop Q := .mk fun s hs => by
 obtain ⟨l, h1, h2⟩ := hE.run s hs
 simp only [evI, h1]
 refine bindL_all fun o ho => ?_
 obtain ⟨A', h3, h4⟩ := h2 o ho
 obtain ⟨x, s', h', ln', xs', stop'⟩ := o
 dsimp only at h3 h4
 cases h4 with
 | normal _ _ _ _ _ h4 => exact h4.run s' h3
 | ret _ _ _ _ _ h4 => exact ⟨_, rfl, fun o ho => by rcases List.mem_cons.1 ho with rfl | ho; exact ⟨A', h3, h4⟩; cases ho⟩
 | exit id _ _ _ _ _ h4 => exact ⟨_, rfl, fun o ho => by rcases List.mem_cons.1 ho with rfl | ho; exact ⟨A', h3, h4⟩; cases ho⟩
theorem efi_block {id : Nat} {b : MC} (hE : EfI O N n b A h ln xs stop (blockI id Q)) : EfI O N n (.block id b) A h ln xs stop Q := .mk fun s hs => by
 obtain ⟨l, h1, h2⟩ := hE.run s hs
 refine ⟨l.map (leaveB id), by simp only [evI, h1, Option.map_some], fun o ho => ?_⟩
 obtain ⟨p, hp, rfl⟩ := List.mem_map.1 ho
 obtain ⟨A', h3, h4⟩ := h2 p hp
 obtain ⟨x, s', h', ln', xs', stop'⟩ := p
 dsimp only at h3 h4
 cases h4 with
 | normal _ _ _ _ _ h4 => exact ⟨A', h3, h4⟩
 | ret _ _ _ _ _ h4 => exact ⟨A', h3, h4⟩
 | here _ _ _ _ _ h4 => exact ⟨A', by simpa [leaveB] using h3, by simpa [leaveB] using h4⟩
 | there k _ _ _ _ _ hk h4 => exact ⟨A', by simpa [leaveB, hk] using h3, by simpa [leaveB, hk] using h4⟩
theorem efi_condt {c : MX} {a b : MC} {t : Bool} (hc : XV A c (.lit (.bool t))) (ht : t = true) (hE : EfI O N n a A h ln xs stop Q) : EfI O N n (.cond c a b) A h ln xs stop Q := .mk fun s hs => by
 subst ht
 obtain ⟨l, h1, h2⟩ := hE.run s hs
 exact ⟨l, by simp only [evI, hs.x hc, if_true, h1], h2⟩
theorem efi_condf {c : MX} {a b : MC} {t : Bool} (hc : XV A c (.lit (.bool t))) (ht : t = false) (hE : EfI O N n b A h ln xs stop Q) : EfI O N n (.cond c a b) A h ln xs stop Q := .mk fun s hs => by
 subst ht
 obtain ⟨l, h1, h2⟩ := hE.run s hs
 exact ⟨l, by simp only [evI, hs.x hc, Bool.false_eq_true, if_false, h1], h2⟩
theorem efi_reg {gl : List GO} (hy : hasY gl = false) (hE : Ef O noI N n (lkn ln) (.reg gl) A h fun x A' h' => Q .normal A' h' ln xs stop) : EfI O N n (.reg gl) A h ln xs stop Q := .mk fun s hs => by
 obtain ⟨x, s', h', h1, A', h2, h3⟩ := hE.run s hs
 simp only [evC, Option.map_eq_some_iff] at h1
 obtain ⟨st, h4, h5⟩ := h1
 cases h5
 exact ⟨[(.normal, ⟨s', h', ln, xs, stop⟩)], by simp only [evI, hy, Bool.false_eq_true, if_false, h4, Option.map_some], fun o ho => by rcases List.mem_cons.1 ho with rfl | ho; exact ⟨A', h2, h3⟩; cases ho⟩
theorem efi_regy {gl : List GO} (hy : hasY gl = true) (hE : EfY O N n gl A h ln xs stop (Q .normal)) : EfI O N n (.reg gl) A h ln xs stop Q := .mk fun s hs => by
 obtain ⟨l, h1, h2⟩ := hE.run s hs
 refine ⟨l.map fun st => (.normal, st), by simp only [evI, hy, if_true, h1, Option.map_some], fun o ho => ?_⟩
 obtain ⟨p, hp, rfl⟩ := List.mem_map.1 ho
 exact h2 p hp
variable {QY : Sl → MHeap → Nat → List (List MV) → Bool → Prop}
theorem efy_nil (hQ : QY A h ln xs stop) : EfY O N n [] A h ln xs stop QY := .mk fun s hs => ⟨_, rfl, fun o ho => by rcases List.mem_cons.1 ho with rfl | ho; exact ⟨A, hs, hQ⟩; cases ho⟩
theorem isY_none {s : List MV} {op : MO} (h : isCv op = false) : isY s op = none := by
 cases op <;> first | rfl | (simp [isCv] at h)
theorem efy_op {g : GO} {gl : List GO} (hc : isCv g.op = false) (hE : Ef O noI N n (lkn ln) (.reg [g]) A h fun x A' h' => EfY O N n gl A' h' ln xs stop QY) : EfY O N n (g :: gl) A h ln xs stop QY := .mk fun s hs => by
 obtain ⟨x, s', h', h1, A', h2, h3⟩ := hE.run s hs
 simp only [evC, Option.map_eq_some_iff, evR] at h1
 obtain ⟨st, h4, h5⟩ := h1
 cases h5
 have h6 : evG (lkn ln) O g ⟨s, h⟩ = some ⟨s', h'⟩ := by
  cases hg : evG (lkn ln) O g ⟨s, h⟩ with
  | none => rw [hg] at h4; cases h4
  | some st => rw [hg] at h4; exact h4
 obtain ⟨l, h7, h8⟩ := h3.run s' h2
 have h9 : evGI O g ⟨s, h, ln, xs, stop⟩ = some [⟨s', h', ln, xs, stop⟩] := by
  unfold evGI
  rw [isY_none hc]
  simp only [h6, Option.map_some]
  split
  ·rename_i hh; cases hh
  ·rfl
 refine ⟨l, ?_, h8⟩
 simp only [evRI, h9, bindL, h7, List.append_nil]
theorem efy_yield {t : Nat} {gd : Option (Nat × Bool)} {x : MX} {as_ : List MX} {ms : List MV} {gl : List GO} (hg : match gd with | none => True | some (u, b) => look A u = some (.lit (.bool b))) (ht : Nat.blt t n = true) (hx : XV A x .yld) (ha : XVs A as_ ms) (hcl : ms.all MV.cl = true)
  (hT : EfY O N n gl ((t, .lit (.bool true)) :: A) h h.length (xs ++ [ms]) false QY) (hF : EfY O N n gl ((t, .lit (.bool false)) :: A) h h.length xs true QY) : EfY O N n (⟨gd, some t, .callv x as_⟩ :: gl) A h ln xs false QY := .mk fun s hs => by
 have hw : wantM s gd = some true := by
  cases gd with
  | none => rfl
  | some p => obtain ⟨u, b⟩ := p; dsimp only at hg; rw [wantM_x hs hg]; simp
 have hY : isY s (.callv x as_) = some ms := by simp only [isY, hs.x hx, hs.xs ha]
 have ht' : t < n := by simpa [Nat.blt_eq] using ht
 obtain ⟨l1, a1, a2⟩ := hT.run _ (hs.put ht' _)
 obtain ⟨l2, b1, b2⟩ := hF.run _ (hs.put ht' _)
 refine ⟨l1 ++ l2, ?_, fun o ho => ?_⟩
 ·simp only [evRI, evGI, hw, hY, hcl, and_self, if_true, bindL, putM, a1, b1, List.append_nil]
 ·rcases List.mem_append.1 ho with ho | ho
  ·exact a2 o ho
  ·exact b2 o ho
theorem efy_skip {t u : Nat} {b x : Bool} {op : MO} {gl : List GO} (hg : look A u = some (.lit (.bool x))) (hx : x = !b) (ht : Nat.blt t n = true) (hE : EfY O N n gl ((t, .lit undef) :: A) h ln xs stop QY) : EfY O N n (⟨some (u, b), some t, op⟩ :: gl) A h ln xs stop QY := .mk fun s hs => by
 have hw : wantM s (some (u, b)) = some false := by rw [wantM_x hs hg, hx]; cases b <;> rfl
 obtain ⟨l, a1, a2⟩ := hE.run _ (hs.put (show t < n by simpa [Nat.blt_eq] using ht) _)
 refine ⟨l, ?_, a2⟩
 have h9 : evGI O ⟨some (u, b), some t, op⟩ ⟨s, h, ln, xs, stop⟩ = some [⟨s.set t (.lit undef), h, ln, xs, stop⟩] := by
  simp only [evGI, hw, evG, Bool.false_eq_true, if_false, putM, Option.map_some]
 simp only [evRI, h9, bindL, a1, List.append_nil]
theorem efi_loop {α : Type} {keep : List Nat} {b : MC} (Inv : α → Prop) (hd : α → Sl) (hp : α → MHeap) (lf : α → Nat) (xf : α → List (List MV)) (ms : α → Nat) (a0 : α) (h0 : Inv a0) (hN : ms a0 < N) (hA : Hold A (hd a0)) (hH : hp a0 = h) (hL : lf a0 = ln) (hX : xf a0 = xs)
  (hb : ∀ a, Inv a → EfI O N n b (hd a) (hp a) (lf a) (xf a) false (loopI (fun A' h' ln' xs' stop' => stop' = false ∧ ∃ a', Inv a' ∧ ms a' < ms a ∧ Hold A' (hd a') ∧ h' = hp a' ∧ ln' = lf a' ∧ xs' = xf a') Q)) : EfI O N n (.loop keep b) A h ln xs false Q := .mk fun s hs => by
 have key : ∀ (M : Nat) (a : α) (A1 : Sl) (s1 : List MV), Inv a → ms a < M → SRel n A1 s1 → Hold A1 (hd a) →
   ∃ outs, roundsI (evI O N b) M ⟨s1, hp a, lf a, xf a, false⟩ = some outs ∧ ∀ o ∈ outs, ∃ A', SRel n A' o.2.s ∧ Q o.1 A' o.2.h o.2.ln o.2.xs o.2.stop := by
  intro M
  induction M with
  | zero => intro a A1 s1 _ hM; omega
  | succ M ih =>
   intro a A1 s1 hI hM hs1 hA1
   obtain ⟨l, h1, h2⟩ := (hb a hI).run s1 ⟨hs1.len, fun t v ht => hs1.get t v (hA1.sub t v ht)⟩
   simp only [roundsI, h1]
   refine bindL_all fun o ho => ?_
   obtain ⟨A', h3, h4⟩ := h2 o ho
   obtain ⟨x, s', h', ln', xs', stop'⟩ := o
   dsimp only at h3 h4
   cases h4 with
   | normal _ _ _ _ _ h4 =>
    obtain ⟨rfl, a', j1, j2, j3, rfl, rfl, rfl⟩ := h4
    exact ih a' A' s' j1 (by omega) h3 j3
   | ret _ _ _ _ _ h4 => exact ⟨_, rfl, fun o ho => by rcases List.mem_cons.1 ho with rfl | ho; exact ⟨A', h3, h4⟩; cases ho⟩
   | exit id _ _ _ _ _ h4 => exact ⟨_, rfl, fun o ho => by rcases List.mem_cons.1 ho with rfl | ho; exact ⟨A', h3, h4⟩; cases ho⟩
 subst hH hL hX
 exact key N a0 A s h0 hN hs hA
def finI (full : List (List MV)) : QI := fun x A h ln xs stop => outX x = true ∧ (stop = false → xs = full)
theorem finI_go {full : List (List MV)} {x : MX2} (hx : outX x = true) (he : xs = full) : finI full x A h ln xs false := ⟨hx, fun _ => he⟩
theorem finI_stop {full : List (List MV)} {x : MX2} (hx : outX x = true) : finI full x A h ln xs true := ⟨hx, fun h => by cases h⟩
theorem itM_of {q : Nat} {caps cs : List MV} {full : List (List MV)} {b : MC} (hc : caps.mapM (frz 0 ((List.range h.length).filter fun i => !(caps.flatMap (MV.ids h 6)).contains i) h 8) = some cs) (hn : cs.length + 1 ≤ n)
  (hE : EfI O N n b (argsL 0 (cs.take q ++ [.yld] ++ cs.drop q)) [] 0 [] false (finI full)) (hcl : (full.all fun x => x.all MV.cl) = true) : itM O N ⟨n, [], b⟩ q caps h = some full := by
 have hlen : (cs.take q ++ [MV.yld] ++ cs.drop q).length = cs.length + 1 := by simp; omega
 obtain ⟨outs, h1, h2⟩ := hE.run (cs.take q ++ [.yld] ++ cs.drop q ++ List.replicate (n - (cs.length + 1)) (.lit undef)) ⟨by rw [List.length_append, hlen, List.length_replicate]; omega, fun t v ht => by
  obtain ⟨_, h1⟩ := look_args _ _ _ _ ht
  rw [Nat.sub_zero] at h1
  have hl := (List.getElem?_eq_some_iff.1 h1).1
  rw [List.getD_eq_getElem?_getD, List.getElem?_append_left hl, h1]
  rfl⟩
 have h3 := evI_one _ _ _ h1
 simp only [liveI, Bool.false_eq_true, if_false] at h3
 have h4 : (outs.all fun o => outX o.1) = true := List.all_eq_true.2 fun o ho => by obtain ⟨A', _, h5⟩ := h2 o ho; exact h5.1
 obtain ⟨o, h5⟩ := List.length_eq_one_iff.1 h3
 have h6 : o ∈ outs.filter fun o => !o.2.stop := by rw [h5]; simp
 obtain ⟨h7, h8⟩ := List.mem_filter.1 h6
 obtain ⟨A', _, h9⟩ := h2 o h7
 have h10 : o.2.xs = full := h9.2 (by simpa using h8)
 unfold itM
 simp only [hc, h1, h4, if_true, h5, h10, hcl]
def putA : Sl → List Nat → List MV → Sl
 | A, p :: ps, v :: vs => putA ((p, v) :: A) ps vs
 | A, _, _ => A
theorem SRel.putsA : ∀ {ps : List Nat} {vs : List MV} {A : Sl} {s : List MV}, SRel n A s → (ps.all fun p => Nat.blt p n) = true → SRel n (putA A ps vs) (putAll s ps vs)
 | [], vs, A, s, hs, _ => by cases vs <;> exact hs
 | p :: ps, [], A, s, hs, _ => hs
 | p :: ps, v :: vs, A, s, hs, hp => by
  simp only [List.all_cons, Bool.and_eq_true] at hp
  show SRel n (putA ((p, v) :: A) ps vs) (Go.Proofs.YtnmgpbihknjdjaaGreatDoor.putAll (s.set p v) ps vs)
  exact SRel.putsA (hs.put (by simpa [Nat.blt_eq] using hp.1) v) hp.2
end
section
variable {O : Oracle} {I : Iter} {N n : Nat} {lk : Nat → Bool} {A : Sl} {h : MHeap} {Q : MX2 → Sl → MHeap → Prop}
inductive preQ (O : Oracle) (I : Iter) (N n : Nat) (lk : Nat → Bool) (b : MC) (R : MX2 → Sl → MHeap → Prop) : MX2 → Sl → MHeap → Prop
 | normal (A : Sl) (h : MHeap) : Ef O I N n lk b A h R → preQ O I N n lk b R .normal A h
inductive rfQ (A0 : Sl) (R : MHeap → Prop) (Q : MX2 → Sl → MHeap → Prop) : MX2 → Sl → MHeap → Prop
 | normal (A : Sl) (h : MHeap) : R h → rfQ A0 R Q .normal A h
 | ret (A : Sl) (h : MHeap) : Q .ret A0 h → rfQ A0 R Q .ret A h
 | exit (id : Nat) (A : Sl) (h : MHeap) : Q (.exit id) A0 h → rfQ A0 R Q (.exit id) A h
inductive HeadIs (keep : List Nat) (m : Nat) (A : Sl) (h : MHeap) : MHeap → Prop
 | all : h.length ≤ m → HeadIs keep m A h h
 | cut : (∀ t ∈ keep, ∃ v, look A t = some v ∧ v.lt m = true) → hltL m (h.take m) = true → HeadIs keep m A h (h.take m)
 | slot (t : Nat) (v : MV) : t ∈ keep → look A t = some v → v.lt m = false → HeadIs keep m A h h
 | cell : hltL m (h.take m) = false → HeadIs keep m A h h
theorem headM_is {keep : List Nat} {m : Nat} {s : List MV} {h1 : MHeap} (hs : SRel n A s) (hn : keep.all (fun t => Nat.blt t n) = true) (hh : HeadIs keep m A h h1) : headM keep m ⟨s, h⟩ = ⟨keepS keep 0 s, h1⟩ := by
 cases hh with
 | all hl => unfold headM; dsimp only; rw [if_pos hl]
 | cut h1 h2 => exact headM_take hs (.inr ⟨h1, h2⟩)
 | slot t v ht hv hl =>
  unfold headM
  dsimp only
  split
  ·rfl
  ·rw [if_neg]
   intro hc
   rw [Bool.and_eq_true] at hc
   have htn : t < n := by have := List.all_eq_true.1 hn t ht; simpa [Nat.blt_eq] using this
   have hl1 : t < s.length := by rw [hs.len]; exact htn
   have e1 := hs.get t v hv
   have h3 : (keepS keep 0 s)[t]? = some v := by
    rw [keepS_get', List.getElem?_eq_getElem hl1]
    rw [List.getD_eq_getElem?_getD, List.getElem?_eq_getElem hl1] at e1
    simp only [Option.getD_some] at e1
    simp [ht, e1]
   have := ltL_iff'.1 hc.1 v (List.mem_of_getElem? h3)
   rw [hl] at this
   cases this
 | cell h2 =>
  unfold headM
  dsimp only
  split
  ·rfl
  ·rw [if_neg]
   rw [h2]
   simp
theorem ef_rf {α : Type} {keep : List Nat} {f : MX} {ps : List Nat} {pa b : MC} {g k : Nat} {caps : List MV} {xs : List (List MV)} {ids : List Nat} (Inv : Nat → α → Prop) (B : Sl) (hp hq : α → MHeap) (a0 : α)
  (hf : XV A f (.fn g k caps)) (hI : I g k caps h = some xs) (hl : (xs.all fun x => x.length == ps.length) = true) (hids : caps.flatMap (MV.ids h 6) = ids) (hB : Hold A B) (hk : (B.map (·.1)).all (fun t => keep.contains t) = true) (hps : (ps.all fun p => Nat.blt p n) = true)
  (hkn : keep.all (fun t => Nat.blt t n) = true) (h0 : Inv 0 a0) (hH : hp a0 = h) (hh : ∀ i a, Inv i a → HeadIs keep h.length A (hp a) (hq a))
  (hb : ∀ i a x, xs[i]? = some x → Inv i a → Ef O I N n (fun id => lk id || ids.contains id) pa (putA B ps x) (hq a) (preQ O I N n (fun id => lk id || ids.contains id) b (rfQ A (fun h' => ∃ a', Inv (i + 1) a' ∧ h' = hp a') Q)))
  (hQ : ∀ a, Inv xs.length a → Q .normal A (hp a)) : Ef O I N n lk (.rf keep f ps pa b) A h Q := .mk fun s hs => by
 subst hids
 obtain ⟨F, hF⟩ : ∃ F : List MV → MHeap → Option (MX2 × MHeap), F = (fun x h' => match evC O I N pa (fun id => lk id || (caps.flatMap (MV.ids h 6)).contains id) ⟨putAll (headM keep h.length ⟨s, h'⟩).s ps x, (headM keep h.length ⟨s, h'⟩).h⟩ with
         | some (.normal, st2) => match evC O I N b (fun id => lk id || (caps.flatMap (MV.ids h 6)).contains id) st2 with
           | some (y, st3) => some (y, st3.h)
           | none => none
         | _ => none) := ⟨_, rfl⟩
 have key : ∀ (ys : List (List MV)) (i : Nat) (a : α), xs.drop i = ys → i ≤ xs.length → Inv i a → ∃ x h', overH F ys (hp a) = some (x, h') ∧ Q x A h' := by
  intro ys
  induction ys with
  | nil =>
   intro i a hd hi hI
   have : i = xs.length := by
    have := congrArg List.length hd
    simp at this
    omega
   subst this
   exact ⟨_, _, rfl, hQ a hI⟩
  | cons y ys ih =>
   intro i a hd hi hIa
   have hy : xs[i]? = some y := by
    have : (xs.drop i)[0]? = some y := by rw [hd]; rfl
    rw [List.getElem?_drop] at this
    simpa using this
   have hd' : xs.drop (i + 1) = ys := by
    rw [← List.tail_drop, hd]; rfl
   have hlt := (List.getElem?_eq_some_iff.1 hy).1
   have e1 := headM_is hs hkn (hh i a hIa)
   have hsB : SRel n B (keepS keep 0 s) := ⟨by rw [keepS_len', hs.len], fun t v ht => by
    have hmem : t ∈ keep := by
     have := look_mem ht
     simpa using List.all_eq_true.1 hk t this
    rw [keepS_getD hmem]
    exact hs.get t v (hB.sub t v ht)⟩
   obtain ⟨x1, s1, h1, j1, A1, j2, j3⟩ := (hb i a y hy hIa).run _ (hsB.putsA (vs := y) hps)
   cases j3 with
   | normal _ _ j3 =>
    obtain ⟨x2, s2, h2, m1, A2, m2, m3⟩ := j3.run s1 j2
    have e2 : F y (hp a) = some (x2, h2) := by
     rw [hF]
     dsimp only
     rw [e1]
     simp only [j1, m1]
    cases m3 with
    | normal _ _ m3 =>
     obtain ⟨a', n1, rfl⟩ := m3
     obtain ⟨x, h', o1, o2⟩ := ih (i + 1) a' hd' (by omega) n1
     exact ⟨x, h', by simp only [overH, e2]; exact o1, o2⟩
    | ret _ _ m3 => exact ⟨_, _, by simp only [overH, e2], m3⟩
    | exit id _ _ m3 => exact ⟨_, _, by simp only [overH, e2], m3⟩
 obtain ⟨x, h', k1, k2⟩ := key xs 0 a0 rfl (by omega) h0
 rw [hH] at k1
 refine ⟨x, s, h', ?_, A, hs, k2⟩
 simp only [evC, hs.x hf, hI, hl, if_true]
 rw [hF] at k1
 exact congrArg (Option.map fun r => (r.1, (⟨s, r.2⟩ : MSt))) k1
theorem ids_lt0 {h : MHeap} : ∀ (f : Nat) (v : MV), v.lt 0 = true → MV.ids h f v = []
 | 0, v, _ => rfl
 | f + 1, v, hv => by
  have key : ∀ cs : List MV, ltL 0 cs = true → cs.flatMap (MV.ids h f) = [] := fun cs hc => by
   rw [List.flatMap_eq_nil_iff]
   intro c hcm
   exact ids_lt0 f c (ltL_iff'.1 hc c hcm)
  cases v <;> simp only [MV.ids, MV.lt] at hv ⊢
  case agg cs => exact key cs hv
  case tup cs => exact key cs hv
  case sl cs => exact key cs hv
  case fn _ _ cs => exact key cs hv
  case rm cs => exact key cs hv
  case rp e _ => exact ids_lt0 f e hv
  all_goals simp at hv
theorem idsL_lt0 {h : MHeap} {f : Nat} {vs : List MV} (hv : ltL 0 vs = true) : vs.flatMap (MV.ids h f) = [] := by
 rw [List.flatMap_eq_nil_iff]
 intro c hcm
 exact ids_lt0 f c (ltL_iff'.1 hv c hcm)
end
end Go.Proofs.YtnmgpbihknjdjaaGreatDoor

/- Further rules of evaluation with open values: cases on what is undecided, loops with slots that stay. -/
namespace Go.Proofs.YtnmgpbihknjdjaaGreatDoor
open Go.RowKit
set_option linter.unusedVariables false
section
variable {O : Oracle} {I : Iter} {N n : Nat} {lk : Nat → Bool} {A : Sl} {h : MHeap} {Q : MX2 → Sl → MHeap → Prop} {t : Nat} {os : List GO}
theorem ef_loopf {α : Type} {keep : List Nat} {b : MC} (Inv : α → Prop) (hd : α → Sl) (fx : Sl) (hp : α → MHeap) (ms : α → Nat) (a0 : α) (ks : List Nat) (hks : ∀ a, (hd a).map (·.1) = ks) (hA : Hold A (hd a0)) (hF : Hold A fx) (hk : (ks ++ fx.map (·.1)).all (fun t => keep.contains t) = true) (hH : hp a0 = h) (h0 : Inv a0) (hN : ms a0 < N)
  (hb : ∀ a, Inv a → Ef O I N n lk b (hd a ++ fx) (hp a) (loopQ (fun A' h' => ∃ a', Inv a' ∧ ms a' < ms a ∧ (Hold A' (hd a') ∧ Hold A' fx) ∧ headH keep h.length A' h' ∧ h'.take h.length = hp a') Q)) : Ef O I N n lk (.loop keep b) A h Q := by
 have happ : ∀ (A : Sl) (X Y : Sl), Hold A X → Hold A Y → Hold A (X ++ Y) := fun A X Y h1 h2 p hp => by
  rcases List.mem_append.1 hp with hp | hp
  ·exact h1 p hp
  ·exact h2 p hp
 refine ef_loop Inv (fun a => hd a ++ fx) hp ms a0 (ks ++ fx.map (·.1)) (fun a => by rw [List.map_append, hks a]) hk h0 hN (happ _ _ _ hA hF) hH fun a ha => ?_
 refine (hb a ha).mono fun x A1 h1 hq => ?_
 cases hq with
 | normal _ _ hq =>
  obtain ⟨a', j1, j2, ⟨j3, j4⟩, j5, j6⟩ := hq
  exact .normal _ _ ⟨a', j1, j2, happ _ _ _ j3 j4, j5, j6⟩
 | ret _ _ hq => exact .ret _ _ hq
 | exit id _ _ hq => exact .exit id _ _ hq
theorem ef_loopg {α : Type} {keep : List Nat} {b : MC} (Inv : α → Prop) (hd : α → Sl) (fx : Sl) (hp : α → MHeap) (ms : α → Nat) (a0 : α) (ks : List Nat) (hks : ∀ a, (hd a).map (·.1) = ks) (hA : Hold A (hd a0)) (hF : Hold A fx) (hk : (ks ++ fx.map (·.1)).all (fun t => keep.contains t) = true) (hkn : keep.all (fun t => Nat.blt t n) = true) (hH : hp a0 = h) (h0 : Inv a0) (hN : ms a0 < N)
  (hb : ∀ a, Inv a → Ef O I N n lk b (hd a ++ fx) (hp a) (loopQ (fun A' h' => ∃ a', Inv a' ∧ ms a' < ms a ∧ (Hold A' (hd a') ∧ Hold A' fx) ∧ HeadIs keep h.length A' h' (hp a')) Q)) : Ef O I N n lk (.loop keep b) A h Q := .mk fun s hs => by
 have happ : ∀ (A : Sl) (X Y : Sl), Hold A X → Hold A Y → Hold A (X ++ Y) := fun A X Y h1 h2 p hp => by
  rcases List.mem_append.1 hp with hp | hp
  ·exact h1 p hp
  ·exact h2 p hp
 have key : ∀ (M : Nat) (a : α) (A1 : Sl) (s1 : List MV) (h1 : MHeap), Inv a → ms a < M → SRel n A1 s1 → Hold A1 (hd a ++ fx) → HeadIs keep h.length A1 h1 (hp a) →
   ∃ x s' h', rounds (fun st' => evC O I N b lk (headM keep h.length st')) M ⟨s1, h1⟩ = some (x, ⟨s', h'⟩) ∧ ∃ A', SRel n A' s' ∧ Q x A' h' := by
  intro M
  induction M with
  | zero => intro a A1 s1 h1 _ hM; omega
  | succ M ih =>
   intro a A1 s1 h1 hI hM hs1 hA1 hh1
   have e1 := headM_is hs1 hkn hh1
   have hS : SRel n (hd a ++ fx) (keepS keep 0 s1) := ⟨by rw [keepS_len', hs1.len], fun t v ht => by
    have hmem : t ∈ keep := by
     have := look_mem ht
     rw [List.map_append, hks] at this
     simpa using List.all_eq_true.1 hk t this
    rw [keepS_getD hmem]
    exact hs1.get t v (hA1.sub t v ht)⟩
   obtain ⟨x, s', h', k1, A', k2, k3⟩ := (hb a hI).run (keepS keep 0 s1) hS
   cases k3 with
   | normal _ _ k3 =>
    obtain ⟨a', j1, j2, ⟨j3, j4⟩, j5⟩ := k3
    obtain ⟨x, s2, h2, i1, i2⟩ := ih a' A' s' h' j1 (by omega) k2 (happ _ _ _ j3 j4) j5
    exact ⟨x, s2, h2, by simp only [rounds, e1, k1]; exact i1, i2⟩
   | exit id _ _ k3 => exact ⟨_, s', h', by simp only [rounds, e1, k1], A', k2, k3⟩
   | ret _ _ k3 => exact ⟨_, s', h', by simp only [rounds, e1, k1], A', k2, k3⟩
 obtain ⟨x, s', h', k1, k2⟩ := key N a0 A s h h0 hN hs (happ _ _ _ hA hF) (by rw [hH]; exact .all (Nat.le_refl _))
 exact ⟨x, s', h', by simp only [evC]; exact k1, k2⟩
end
section
variable {O : Oracle} {N n : Nat} {A : Sl} {h : MHeap} {ln : Nat} {xs : List (List MV)} {stop : Bool} {Q : QI}
end
theorem takeF {l r : MHeap} {n : Nat} (hl : n = l.length) (h : l = r) : l.take n = r := by subst hl h; exact List.take_length
end Go.Proofs.YtnmgpbihknjdjaaGreatDoor
namespace Go.Proofs.YtnmgpbihknjdjaaGreatDoor
open Go.RowKit
end Go.Proofs.YtnmgpbihknjdjaaGreatDoor

/- Rows that are read only. -/
namespace Go.Proofs.YtnmgpbihknjdjaaGreatDoor
open Go.RowKit
set_option linter.unusedVariables false
inductive SlI : MV → List Int → Prop
 | sl (l : List Int) : SlI (.sl (l.map I64)) l
 | nil : SlI (.lit (.slice none 0 0)) []
theorem SlI.lt {v : MV} {l : List Int} (h : SlI v l) : v.lt 0 = true := by
 cases h with
 | sl l => simp [MV.lt, ltL_I]
 | nil => rfl
theorem SlI.frz {v : MV} {l : List Int} (h : SlI v l) (H : MHeap) : Go.Proofs.YtnmgpbihknjdjaaGreatDoor.frz 0 [] H 8 v = some v := frz_lt h.lt
theorem SlI.slen {v : MV} {l : List Int} (h : SlI v l) : v.slen = some l.length := by
 cases h with
 | sl l => simp [MV.slen]
 | nil => rfl
theorem SlI.pos {v : MV} {l : List Int} (h : SlI v l) (hp : 0 < l.length) : v = .sl (l.map I64) := by
 cases h with
 | sl l => rfl
 | nil => simp at hp
theorem SlI.cell {v : MV} {l : List Int} (h : SlI v l) : rdCells v.cells 0 none = some v := by cases h <;> rfl
end Go.Proofs.YtnmgpbihknjdjaaGreatDoor

/- Fractions in lowest terms, comparisons (no program). -/
namespace Go.Proofs.YtnmgpbihknjdjaaGreatDoor
open Go.RowKit
set_option linter.unusedVariables false
def eu (a b : Nat) : Nat := if h : b = 0 then 0 else 1 + eu b (a % b)
termination_by b
decreasing_by exact Nat.mod_lt _ (by omega)
end Go.Proofs.YtnmgpbihknjdjaaGreatDoor

/- Chapter 9: bits counted, sums of columns. -/
namespace Go.Proofs.YtnmgpbihknjdjaaGreatDoor
open Go.RowKit
set_option linter.unusedVariables false
def pcF : Nat → Nat → Nat
 | 0, _ => 0
 | f + 1, n => n % 2 + pcF f (n / 2)
abbrev pc (n : Nat) : Nat := pcF 6 n
theorem ones_z (k : Nat) : ∀ n : Nat, n < 32 → runZ MT (orA (k + 1)) (itA (k + 1)) 4000000 143 [.lit (.int .u64 n)] [] = some (I64 (pc n), [])
 | 0, _ => by kernel_rfl
 | 1, _ => by kernel_rfl
 | 2, _ => by kernel_rfl
 | 3, _ => by kernel_rfl
 | 4, _ => by kernel_rfl
 | 5, _ => by kernel_rfl
 | 6, _ => by kernel_rfl
 | 7, _ => by kernel_rfl
 | 8, _ => by kernel_rfl
 | 9, _ => by kernel_rfl
 | 10, _ => by kernel_rfl
 | 11, _ => by kernel_rfl
 | 12, _ => by kernel_rfl
 | 13, _ => by kernel_rfl
 | 14, _ => by kernel_rfl
 | 15, _ => by kernel_rfl
 | 16, _ => by kernel_rfl
 | 17, _ => by kernel_rfl
 | 18, _ => by kernel_rfl
 | 19, _ => by kernel_rfl
 | 20, _ => by kernel_rfl
 | 21, _ => by kernel_rfl
 | 22, _ => by kernel_rfl
 | 23, _ => by kernel_rfl
 | 24, _ => by kernel_rfl
 | 25, _ => by kernel_rfl
 | 26, _ => by kernel_rfl
 | 27, _ => by kernel_rfl
 | 28, _ => by kernel_rfl
 | 29, _ => by kernel_rfl
 | 30, _ => by kernel_rfl
 | 31, _ => by kernel_rfl
 | n + 32, h => absurd h (by omega)
theorem ones_c (k n : Nat) (hn : n < 32) (h : MHeap) : orA (k + 2) 143 [.lit (.int .u64 n)] h = some (I64 (pc n), h) := callL (args' := [.lit (.int .u64 n)]) rfl rfl (ones_z k n hn)
abbrev W64 (n : Int) : MV := .lit (.int .i64 (IntKind.i64.wrap n))
def bitI (n i : Nat) : Int := (n / 2 ^ i % 2 : Nat)
theorem plus_z (k : Nat) (a b c d e : Int) : ∀ n : Nat, n < 32 → runZ MT (orA k) (itA k) 4000000 144 [.agg [I64 a, I64 b, I64 c, I64 d, I64 e], I64 n] [] = some (.agg [W64 (a + bitI n 0), W64 (b + bitI n 1), W64 (c + bitI n 2), W64 (d + bitI n 3), W64 (e + bitI n 4)], [])
 | 0, _ => by kernel_rfl
 | 1, _ => by kernel_rfl
 | 2, _ => by kernel_rfl
 | 3, _ => by kernel_rfl
 | 4, _ => by kernel_rfl
 | 5, _ => by kernel_rfl
 | 6, _ => by kernel_rfl
 | 7, _ => by kernel_rfl
 | 8, _ => by kernel_rfl
 | 9, _ => by kernel_rfl
 | 10, _ => by kernel_rfl
 | 11, _ => by kernel_rfl
 | 12, _ => by kernel_rfl
 | 13, _ => by kernel_rfl
 | 14, _ => by kernel_rfl
 | 15, _ => by kernel_rfl
 | 16, _ => by kernel_rfl
 | 17, _ => by kernel_rfl
 | 18, _ => by kernel_rfl
 | 19, _ => by kernel_rfl
 | 20, _ => by kernel_rfl
 | 21, _ => by kernel_rfl
 | 22, _ => by kernel_rfl
 | 23, _ => by kernel_rfl
 | 24, _ => by kernel_rfl
 | 25, _ => by kernel_rfl
 | 26, _ => by kernel_rfl
 | 27, _ => by kernel_rfl
 | 28, _ => by kernel_rfl
 | 29, _ => by kernel_rfl
 | 30, _ => by kernel_rfl
 | 31, _ => by kernel_rfl
 | n + 32, h => absurd h (by omega)
theorem plus_c (k : Nat) (a b c d e : Int) (n : Nat) (hn : n < 32) (h : MHeap) : orA (k + 1) 144 [.agg [I64 a, I64 b, I64 c, I64 d, I64 e], I64 n] h = some (.agg [W64 (a + bitI n 0), W64 (b + bitI n 1), W64 (c + bitI n 2), W64 (d + bitI n 3), W64 (e + bitI n 4)], h) := by
 have := callA (k := k) (h := h) (args := [.agg [I64 a, I64 b, I64 c, I64 d, I64 e], I64 n]) (args' := [.agg [I64 a, I64 b, I64 c, I64 d, I64 e], I64 n]) rfl rfl (plus_z k a b c d e n hn) rfl rfl
 simpa [shV, sh1] using this
end Go.Proofs.YtnmgpbihknjdjaaGreatDoor

/- Chapter 9: the sets of a row, as an iterator. -/
namespace Go.Proofs.YtnmgpbihknjdjaaGreatDoor
open Go.RowKit
set_option linter.unusedVariables false
theorem at_endC (h : MHeap) (o : MObj) : (h ++ [o])[h.length]? = some o := by simp
theorem set_endC (h : MHeap) (o o' : MObj) : (h ++ [o]).set h.length o' = h ++ [o'] := by simp
section
variable {O : Oracle} {I : Iter} {N n : Nat} {lk : Nat → Bool} {A : Sl} {h : MHeap} {Q : MX2 → Sl → MHeap → Prop}
theorem ef_newst {t sz : Nat} {z v : MV} {x : MX} {os : List GO} (ht : Nat.blt t n = true) (hx : XV ((t, .ptr h.length 0 0 0) :: A) x v) (hk : v.sOk sz = true) (hlk : lk h.length = false) (hw : wrElem z 0 v = some v) (hE : Ef O I N n lk (.reg os) ((t, .ptr h.length 0 0 0) :: A) (h ++ [⟨0, false, z.cells.length, [v]⟩]) Q) :
  Ef O I N n lk (.reg (⟨none, some t, .new z⟩ :: ⟨none, none, .st sz (.s t) x⟩ :: os)) A h Q := by
 refine ef_new (ht := ht) ?_
 refine ef_st (o := ⟨0, false, z.cells.length, [z]⟩) hx hk (show look ((t, .ptr h.length 0 0 0) :: A) t = _ from look_here) (at_endC _ _) rfl hlk rfl hw ?_
 rw [set_endC]
 exact hE
end
abbrev encP (p : Int × Int) : MV := .agg [I64 p.1, I64 p.2]
abbrev encS (R C : List (Int × Int)) : MV := .agg [.sl (R.map encP), .sl (C.map encP)]
def rowOk (lo hi : Int) (s : Nat) : Bool := inB (pc s) lo hi
def rowSets (n : Nat) (lo hi : Int) : List Nat := (List.range (2 ^ n)).filter (rowOk lo hi)
theorem rowSets_succ (j : Nat) (lo hi : Int) : (List.range (j + 1)).filter (rowOk lo hi) = (List.range j).filter (rowOk lo hi) ++ if rowOk lo hi j then [j] else [] := by
 rw [List.range_succ, List.filter_append]
 congr 1
 simp only [List.filter_cons, List.filter_nil]
theorem shl_n : ∀ n : Nat, n ≤ 5 → shfI .shl .i64 1 (n : Int) = some (.int .i64 ((2 ^ n : Nat) : Int))
 | 0, _ => rfl
 | 1, _ => rfl
 | 2, _ => rfl
 | 3, _ => rfl
 | 4, _ => rfl
 | 5, _ => rfl
 | n + 6, h => absurd h (by omega)
theorem pow_le5 : ∀ n : Nat, n ≤ 5 → 2 ^ n ≤ 32
 | 0, _ => by decide
 | 1, _ => by decide
 | 2, _ => by decide
 | 3, _ => by decide
 | 4, _ => by decide
 | 5, _ => by decide
 | n + 6, h => absurd h (by omega)
abbrev setY (l : List Nat) : List (List MV) := l.map fun s : Nat => [I64 (s : Int)]
theorem mf_rows1 : MT.mf 189 = some ⟨35, [], (.seq (.reg [gO 6 (.fa 0 (.s 1)), gO 7 (.fa 1 (.s 6)), gO 8 (.ld none (.s 7)), gO 9 (.len (.s 8)), gO 10 (.shf .shl (cI 1) (.s 9)), gO 11 (.mv (cI 0))]) (.block 0 (.loop [11, 10, 1, 2, 0] (.seq (.reg [gO 12 (.bin .lss (.s 11) (.s 10))]) (.seq (.cond (.s 12) .skip (.exit 0)) (.seq (.block 1 (.seq (.reg [gO 13 (.mv (.s 11)), gO 4 (.mv (.s 13))]) (.seq (.reg [gO 14 (.fa 0 (.s 1)), gO 15 (.fa 0 (.s 14)), gO 16 (.ld none (.s 15)), gO 17 (.ld none (.s 2)), gO 18 (.ia 2 (.s 16) (.s 17)), gO 19 (.ld (some 2) (.s 18)), gO 5 (.new (.agg [(.lit (.int .i64 0)), (.lit (.int .i64 0))])), ⟨none, none, .st 2 (.s 5) (.s 19)⟩]) (.seq (.reg [gO 20 (.mv (.s 4)), gO 21 (.cv .u64 (.s 20)), gO 22 (.call 143 [.s 21]), gO 23 (.fa 0 (.s 5)), gO 24 (.ld none (.s 23)), gO 25 (.fa 1 (.s 5)), gO 26 (.ld none (.s 25)), gO 27 (.call 103 [.s 22, .s 24, .s 26]), gO 28 (.mv (.s 27)), ⟨some (28, true), some 29, .mv (.s 0)⟩, ⟨some (28, true), some 30, .mv (.s 4)⟩, ⟨some (28, true), some 31, .callv (.s 29) [.s 30]⟩, ⟨some (28, true), some 32, .un .not (.s 31)⟩, gO 33 (.pick (.s 28) (.s 32) cF)]) (.cond (.s 33) .ret .skip))))) (.reg [gO 34 (.bin .add (.s 11) (cI 1)), gO 11 (.mv (.s 34))])))))))⟩ := by kernel_rfl
theorem rows1_it (k : Nat) (R C : List (Int × Int)) (c : Nat) (r : Int × Int) (hC : C.length ≤ 5) (hc : R[c]? = some r) (h : MHeap) : itA (k + 2) 189 0 [.rp (encS R C) 0, .rp (I64 c) 0] h = some (setY (rowSets C.length r.1 r.2)) := by
 have hlt : (encS R C).lt 0 = true := by
  have hl : ∀ L : List (Int × Int), ltL 0 (L.map encP) = true := fun L => ltL_iff'.2 fun m hm => by obtain ⟨e, _, rfl⟩ := List.mem_map.1 hm; rfl
  simp only [MV.lt, ltL, hl, Bool.and_self]
 have hl1 : (MV.rp (encS R C) 0).lt 0 = true := hlt
 have hl2 : (MV.rp (I64 c) 0).lt 0 = true := rfl
 have hsh := shl_n C.length hC
 have hpw := pow_le5 C.length hC
 have hcl : (MV.sl (C.map encP)).slen = some C.length := by simp [MV.slen]
 have hrow : (R.map encP)[(c : Int).toNat]? = some (encP r) := by simp [hc]
 refine itA_of mf_rows1 (by kernel_rfl) (itM_of (cs := [.rp (encS R C) 0, .rp (I64 c) 0]) (by simp only [List.mapM_cons, List.mapM_nil, frz, hl1, hl2, if_true]; rfl) (by simp) ?_ ?_)
 ·show EfI _ _ _ _ (argsL 0 [.yld, .rp (encS R C) 0, .rp (I64 c) 0]) _ _ _ _ _
  simp only [argsL]
  repeat (first | apply efi_seq | apply efi_block | apply seqI.normal | (apply efi_reg; exact rfl) | (apply ef_mv; exact rfl; exact rfl) | (apply ef_len; exact rfl; exact rfl; (assumption)) | (apply ef_ldr; exact rfl; exact rfl; (exact rfl)) | (apply ef_far; exact rfl; exact rfl) | (apply ef_shf; (iterate 3 exact rfl); (assumption)) | apply ef_nil)
  refine efi_loop (α := Nat × MHeap × Nat) (fun a => a.1 ≤ 2 ^ C.length ∧ a.2.2 ≤ a.2.1.length) (fun a => [(11, I64 (a.1 : Int)), (10, I64 ((2 ^ C.length : Nat) : Int)), (1, .rp (encS R C) 0), (2, .rp (I64 c) 0), (0, .yld)]) (fun a => a.2.1) (fun a => a.2.2) (fun a => setY ((List.range a.1).filter (rowOk r.1 r.2))) (fun a => 2 ^ C.length - a.1) (0, [], 0) (by simp) (by simp; omega) (by ((repeat (refine Hold.cons (by exact rfl) ?_)); exact Hold.nil)) rfl rfl (by simp) ?_
  rintro ⟨j, Y, ln⟩ ⟨hj, hY⟩
  simp only at hj hY ⊢
  have hlk : lkn ln Y.length = false := by simp [lkn]; omega
  have hat : (Y ++ [(⟨0, false, 2, [encP r]⟩ : MObj)])[Y.length]? = some ⟨0, false, 2, [encP r]⟩ := at_endC _ _
  by_cases hlt2 : j < 2 ^ C.length
  ·have hw : IntKind.u64.wrap (j : Int) = (j : Int) := by rw [IntKind.wrap_u64]; omega
   generalize hP : C.length = nC at *
   cases hr : rowOk r.1 r.2 j
   ·have hr' : inB (pc j) r.1 r.2 = _ := hr
    repeat (first | apply efi_seq | apply efi_block | apply efi_skip | apply seqI.normal | apply blockI.normal | (apply efi_reg; exact rfl) | (apply efi_regy; exact rfl) | apply efy_nil | (apply efy_op; exact rfl) | (apply efy_skip; (iterate 3 exact rfl)) | (apply efi_condt; exact rfl; (exact rfl)) | (apply efi_condf; exact rfl; (exact rfl)) | (apply ef_mv; exact rfl; exact rfl) | (apply ef_bin; (iterate 3 exact rfl); (first | exact cmp_t rfl (by first | exact rfl | (simp only [cmpP]; omega)) | ((with_reducible refine bin_add (wrap_of ?_ ?_)) <;> omega))) | (apply ef_gn; exact rfl; (exact (rfl : false = false)); exact rfl) | (apply ef_pick; (iterate 3 exact rfl)) | (apply ef_ldr; exact rfl; exact rfl; (first | exact rd_2 rfl rfl | exact rfl)) | (apply ef_ldp; exact rfl; exact rfl; (assumption); exact rfl; (exact rfl); (exact rfl)) | (apply ef_ias; (iterate 3 exact rfl); (omega); assumption; exact rfl) | (apply ef_fap; exact rfl; exact rfl) | (apply ef_far; exact rfl; exact rfl) | (apply ef_cv; exact rfl; exact rfl; (assumption)) | (apply ef_newst; (iterate 3 exact rfl); (assumption); exact rfl) | apply ef_nil | (apply ef_call; exact rfl; ((repeat (apply XVs.cons; exact rfl)); exact XVs.nil); (with_reducible first | exact ones_c k _ (by omega) _ | exact within_c (k + 1) _ _ _ _ hr')))
    (refine loopI.normal _ _ _ _ _ ⟨rfl, (j + 1, _, ln), ⟨hlt2, by simp; omega⟩, (by first | (simp only; omega) | omega), by ((repeat (refine Hold.cons (by exact rfl) ?_)); exact Hold.nil), rfl, rfl, (by rw [rowSets_succ, hr]; simp)⟩)
   ·have hr' : inB (pc j) r.1 r.2 = _ := hr
    repeat (first | apply efi_seq | apply efi_block | apply efi_skip | apply seqI.normal | (apply efi_reg; exact rfl) | (apply efi_regy; exact rfl) | (apply efy_op; exact rfl) | (apply efi_condt; exact rfl; (exact rfl)) | (apply ef_mv; exact rfl; exact rfl) | (apply ef_bin; (iterate 3 exact rfl); (exact cmp_t rfl (by first | exact rfl | (simp only [cmpP]; omega)))) | (apply ef_gy; exact rfl; (exact (rfl : true = true))) | (apply ef_ldr; exact rfl; exact rfl; (first | exact rd_2 rfl rfl | exact rfl)) | (apply ef_ldp; exact rfl; exact rfl; (assumption); exact rfl; (exact rfl); (exact rfl)) | (apply ef_ias; (iterate 3 exact rfl); (omega); assumption; exact rfl) | (apply ef_fap; exact rfl; exact rfl) | (apply ef_far; exact rfl; exact rfl) | (apply ef_cv; exact rfl; exact rfl; (assumption)) | (apply ef_newst; (iterate 3 exact rfl); (assumption); exact rfl) | apply ef_nil | (apply ef_call; exact rfl; ((repeat (apply XVs.cons; exact rfl)); exact XVs.nil); (with_reducible first | exact ones_c k _ (by omega) _ | exact within_c (k + 1) _ _ _ _ hr')))
    (apply efy_yield; (· exact rfl); (· exact rfl); (· exact rfl); (· ((repeat (apply XVs.cons; exact rfl)); exact XVs.nil)); (· exact rfl))
    ·repeat (first | apply efi_skip | apply seqI.normal | apply blockI.normal | (apply efi_reg; exact rfl) | apply efy_nil | (apply efy_op; exact rfl) | (apply efi_condf; exact rfl; (exact rfl)) | (apply ef_mv; exact rfl; exact rfl) | (apply ef_bin; (iterate 3 exact rfl); (((with_reducible refine bin_add (wrap_of ?_ ?_)) <;> omega))) | (apply ef_gy; exact rfl; (exact (rfl : true = true))) | (apply ef_pick; (iterate 3 exact rfl)) | (apply ef_notT; exact rfl; exact rfl) | apply ef_nil)
     (refine loopI.normal _ _ _ _ _ ⟨rfl, (j + 1, _, _), ⟨hlt2, by simp⟩, (by first | (simp only; omega) | omega), by ((repeat (refine Hold.cons (by exact rfl) ?_)); exact Hold.nil), rfl, rfl, (by rw [rowSets_succ, hr]; simp)⟩)
    ·repeat (first | apply efi_ret | apply seqI.normal | apply seqI.ret | apply blockI.ret | apply efy_nil | (apply efy_op; exact rfl) | (apply efi_condt; exact rfl; (exact rfl)) | apply loopI.ret | (apply ef_gy; exact rfl; (exact (rfl : true = true))) | (apply ef_pick; (iterate 3 exact rfl)) | (apply ef_notF; exact rfl; exact rfl) | apply ef_nil)
     exact finI_stop rfl
  ·obtain rfl : j = 2 ^ C.length := by omega
   repeat (first | apply efi_seq | apply efi_exit | apply seqI.normal | apply seqI.exit | apply blockI.here | (apply efi_reg; exact rfl) | (apply efi_condf; exact rfl; (exact rfl)) | apply loopI.exit | (apply ef_bin; (iterate 3 exact rfl); (exact cmp_f rfl (by simp only [cmpP]; omega))) | apply ef_nil)
   exact finI_go rfl rfl
 ·rw [List.all_eq_true]
  intro x hx
  obtain ⟨p, _, rfl⟩ := List.mem_map.1 hx
  rfl
end Go.Proofs.YtnmgpbihknjdjaaGreatDoor

/- Chapter 9: sums within their ranges; the iterator's value. -/
namespace Go.Proofs.YtnmgpbihknjdjaaGreatDoor
open Go.RowKit
set_option linter.unusedVariables false
theorem encP_lt (n : Nat) (L : List (Int × Int)) : ltL n (L.map encP) = true := ltL_iff'.2 fun m hm => by obtain ⟨e, _, rfl⟩ := List.mem_map.1 hm; rfl
theorem encS_lt (n : Nat) (R C : List (Int × Int)) : (encS R C).lt n = true := by
 simp only [MV.lt, ltL, encP_lt, Bool.and_self]
abbrev keyA (v : List Int) : MV := .agg (v.map I64)
theorem keyA_lt (n : Nat) (v : List Int) : (keyA v).lt n = true := by
 simp only [MV.lt]
 exact ltL_iff'.2 fun m hm => by obtain ⟨e, _, rfl⟩ := List.mem_map.1 hm; rfl
def hasB (C : List (Int × Int)) (v : List Int) : Bool := (C.zip v).all fun p => inB p.2 p.1.1 p.1.2
theorem mf_has : MT.mf 171 = some ⟨26, [(.tmp 4)], (.seq (.reg [gO 2 (.box 2 (.s 0)), gO 3 (.box 5 (.s 1)), gO 4 (.mv cF)]) (.seq (.seq (.reg [gO 7 (.fa 0 (.s 2)), gO 8 (.fa 1 (.s 7)), gO 9 (.ld none (.s 8)), gO 10 (.len (.s 9)), gO 11 (.mv (cI 0))]) (.block 0 (.loop [11, 10, 9, 3] (.seq (.reg [gO 12 (.bin .lss (.s 11) (.s 10))]) (.seq (.cond (.s 12) .skip (.exit 0)) (.seq (.block 1 (.seq (.reg [gO 13 (.mv (.s 11)), gO 14 (.ia 2 (.s 9) (.s 11)), gO 15 (.ld (some 2) (.s 14)), gO 6 (.new (.agg [(.lit (.int .i64 0)), (.lit (.int .i64 0))])), gO 5 (.mv (.s 13)), ⟨none, none, .st 2 (.s 6) (.s 15)⟩]) (.seq (.reg [gO 16 (.mv (.s 5)), gO 17 (.iaa 1 5 (.s 3) (.s 16)), gO 18 (.ld none (.s 17)), gO 19 (.fa 0 (.s 6)), gO 20 (.ld none (.s 19)), gO 21 (.fa 1 (.s 6)), gO 22 (.ld none (.s 21)), gO 23 (.call 103 [.s 18, .s 20, .s 22]), gO 24 (.un .not (.s 23))]) (.cond (.s 24) (.seq (.reg [gO 4 (.mv cF)]) .ret) .skip)))) (.reg [gO 25 (.bin .add (.s 11) (cI 1)), gO 11 (.mv (.s 25))]))))))) (.seq (.reg [gO 4 (.mv cT)]) .ret)))⟩ := by kernel_rfl
set_option maxHeartbeats 1000000 in
theorem has_z (k : Nat) (R C : List (Int × Int)) (v : List Int) (hv : v.length = 5) (hC : C.length ≤ 5) : runZ MT (orA (k + 1)) (itA (k + 1)) 4000000 171 [encS R C, keyA v] [] = some (Bo (hasB C v), []) := by
 refine runZ_of mf_has (by simp) ?_
 simp only [argsL]
 have hcl : (MV.sl (C.map encP)).slen = some C.length := by simp [MV.slen]
 obtain ⟨a, b, c, d, e, rfl⟩ : ∃ a b c d e, v = [a, b, c, d, e] := by
  match v, hv with
  | [a, b, c, d, e], _ => exact ⟨a, b, c, d, e, rfl⟩
 have hlt := encS_lt 2 R C
 have hat : ∀ j : Nat, j < 5 → rdCells (keyA [a, b, c, d, e]).cells (0 + (j : Int).toNat * 1) none = some (I64 ([a, b, c, d, e].getD j 0))
  | 0, _ => rfl
  | 1, _ => rfl
  | 2, _ => rfl
  | 3, _ => rfl
  | 4, _ => rfl
  | j + 5, h => absurd h (by omega)
 repeat (first | apply ef_seq | (apply ef_mv; exact rfl; exact rfl) | (apply ef_len; exact rfl; exact rfl; (assumption)) | (apply ef_ldp; exact rfl; exact rfl; (exact rfl); exact rfl; (exact rfl); (exact rfl)) | (apply ef_fap; exact rfl; exact rfl) | (apply ef_box; (iterate 4 exact rfl)) | apply ef_nil | apply seqQ.normal | apply ef_block)
 refine ef_loop (α := Nat) (fun j => j ≤ C.length ∧ ((C.zip [a, b, c, d, e]).take j).all (fun p => inB p.2 p.1.1 p.1.2) = true) (fun j => [(11, I64 (j : Int)), (10, I64 (C.length : Int)), (9, .sl (C.map encP)), (3, .ptr 1 0 0 0)]) (fun _ => [⟨0, false, 2, [encS R C]⟩, ⟨0, false, 5, [keyA [a, b, c, d, e]]⟩]) (fun j => C.length - j) 0 [11, 10, 9, 3] (fun _ => rfl) rfl ⟨Nat.zero_le _, by simp⟩ (by simp; omega) (by ((repeat (refine Hold.cons (by exact rfl) ?_)); exact Hold.nil)) rfl ?_
 rintro j ⟨hj, hI⟩
 by_cases hj2 : j < C.length
 ·obtain ⟨p, hp⟩ : ∃ p, C[j]? = some p := ⟨C[j], by simp [hj2]⟩
  have hrow : (C.map encP)[(j : Int).toNat]? = some (encP p) := by simp [hp]
  have hat' := hat j (by omega)
  have hz : (C.zip [a, b, c, d, e])[j]? = some (p, [a, b, c, d, e].getD j 0) := by
   rw [List.getElem?_zip_eq_some]
   refine ⟨hp, ?_⟩
   rw [List.getD_eq_getElem?_getD, List.getElem?_eq_getElem (by simp; omega)]; rfl
  generalize [a, b, c, d, e].getD j 0 = x at hat' hz
  cases hr : inB x p.1 p.2
  ·repeat (first | apply ef_seq | (apply ef_mv; exact rfl; exact rfl) | (apply ef_bin; (iterate 3 exact rfl); (exact cmp_t rfl (by first | exact rfl | (simp only [cmpP]; omega)))) | (apply ef_ldr; exact rfl; exact rfl; (exact rd_2 rfl rfl)) | (apply ef_ias; (iterate 3 exact rfl); (omega); assumption; exact rfl) | (apply ef_iaap; (iterate 3 exact rfl); (omega); (omega)) | (apply ef_new; exact rfl) | (apply ef_st; (iterate 6 exact rfl); (exact rfl); exact rfl) | apply ef_nil | apply seqQ.normal | apply ef_block | apply ef_skip | (apply ef_condt; exact rfl; (exact (rfl : true = true))))
   (apply ef_ldp; (· exact rfl); (· exact rfl); (· exact rfl); (· exact rfl); (· exact rfl); (· exact hat'))
   repeat (first | apply ef_seq | (apply ef_mv; exact rfl; exact rfl) | (apply ef_ldp; exact rfl; exact rfl; (exact rfl); exact rfl; (exact rfl); (exact rfl)) | (apply ef_fap; exact rfl; exact rfl) | (apply ef_notF; exact rfl; exact rfl) | apply ef_nil | apply seqQ.normal | apply loopQ.ret | apply ef_ret | apply seqQ.ret | apply blockQ.ret | (apply ef_condt; exact rfl; (exact (rfl : true = true))) | (apply ef_call; exact rfl; ((repeat (apply XVs.cons; exact rfl)); exact XVs.nil); (with_reducible exact within_c k _ _ _ _ hr)))
   (refine fin1 rfl (by exact rfl) rfl ?_)
   have hn : hasB C [a, b, c, d, e] = false := by
    unfold hasB
    rw [List.all_eq_false]
    exact ⟨_, List.mem_of_getElem? hz, by simp [hr]⟩
   rw [hn]
  ·repeat (first | apply ef_seq | (apply ef_mv; exact rfl; exact rfl) | (apply ef_bin; (iterate 3 exact rfl); (exact cmp_t rfl (by first | exact rfl | (simp only [cmpP]; omega)))) | (apply ef_ldr; exact rfl; exact rfl; (exact rd_2 rfl rfl)) | (apply ef_ias; (iterate 3 exact rfl); (omega); assumption; exact rfl) | (apply ef_iaap; (iterate 3 exact rfl); (omega); (omega)) | (apply ef_new; exact rfl) | (apply ef_st; (iterate 6 exact rfl); (exact rfl); exact rfl) | apply ef_nil | apply seqQ.normal | apply ef_block | apply ef_skip | (apply ef_condt; exact rfl; (exact (rfl : true = true))))
   (apply ef_ldp; (· exact rfl); (· exact rfl); (· exact rfl); (· exact rfl); (· exact rfl); (· exact hat'))
   repeat (first | (apply ef_mv; exact rfl; exact rfl) | (apply ef_bin; (iterate 3 exact rfl); (((with_reducible refine bin_add (wrap_of ?_ ?_)) <;> omega))) | (apply ef_ldp; exact rfl; exact rfl; (exact rfl); exact rfl; (exact rfl); (exact rfl)) | (apply ef_fap; exact rfl; exact rfl) | (apply ef_notT; exact rfl; exact rfl) | apply ef_nil | apply seqQ.normal | apply blockQ.normal | apply ef_skip | (apply ef_condf; exact rfl; (exact (rfl : false = false))) | (apply ef_call; exact rfl; ((repeat (apply XVs.cons; exact rfl)); exact XVs.nil); (with_reducible exact within_c k _ _ _ _ hr)))
   (refine loopQ.normal _ _ ⟨j + 1, ⟨hj2, by rw [List.take_add_one, hz, List.all_append, hI]; simp [hr]⟩, (by omega), by ((repeat (refine Hold.cons (by exact rfl) ?_)); exact Hold.nil), .inr ⟨by ((repeat (refine hdl_cons rfl (by first | rfl | (simp [MV.lt, encP_lt])) ?_)); exact hdl_nil), by first | rfl | (simp [hltL, ltL, MV.lt, encP_lt])⟩, by first | exact rfl | (simp only [List.map_append, List.map_set]; exact rfl)⟩)
 ·obtain rfl : j = C.length := by omega
  have hall : hasB C [a, b, c, d, e] = true := by
   unfold hasB
   rw [List.take_of_length_le (by rw [List.length_zip]; exact Nat.min_le_left _ _)] at hI
   exact hI
  repeat (first | apply ef_seq | (apply ef_mv; exact rfl; exact rfl) | (apply ef_bin; (iterate 3 exact rfl); (exact cmp_f rfl (by simp only [cmpP]; omega))) | apply ef_nil | apply seqQ.normal | apply loopQ.exit | apply ef_ret | apply ef_exit | apply seqQ.exit | apply blockQ.here | (apply ef_condf; exact rfl; (exact (rfl : false = false))))
  (refine fin1 rfl (by exact rfl) rfl ?_)
  rw [hall]
theorem has_c (k : Nat) (R C : List (Int × Int)) (v : List Int) (hv : v.length = 5) (hC : C.length ≤ 5) (h : MHeap) : orA (k + 2) 171 [encS R C, keyA v] h = some (Bo (hasB C v), h) := callL (args' := [encS R C, keyA v]) (frzL_lt (by simp only [ltL, encS_lt, keyA_lt, Bool.and_self])) rfl (has_z k R C v hv hC)
theorem mf_rows : MT.mf 147 = some ⟨6, [(.tmp 4)], (.seq (.reg [gO 2 (.box 2 (.s 0)), gO 3 (.box 1 (.s 1)), gO 4 (.mv (.c (.lit .nilFunc)))]) (.seq (.reg [gO 5 (.mf 189 0 [.s 2, .s 3]), gO 4 (.mv (.s 5))]) .ret))⟩ := by kernel_rfl
abbrev rowsF (R C : List (Int × Int)) (c : Nat) : MV := .fn 189 0 [.rp (encS R C) 0, .rp (I64 c) 0]
theorem rows_z (k : Nat) (R C : List (Int × Int)) (c : Nat) : runZ MT (orA k) (itA k) 4000000 147 [encS R C, I64 c] [] = some (rowsF R C c, []) := by
 refine runZ_of mf_rows (by simp) ?_
 simp only [argsL]
 have hlt := encS_lt 0 R C
 repeat (first | apply ef_seq | (apply ef_mv; exact rfl; exact rfl) | (apply ef_box; (iterate 4 exact rfl)) | (apply ef_mf; exact rfl; (repeat (apply XVs.cons; exact rfl)); exact XVs.nil) | apply ef_nil | apply seqQ.normal | apply ef_ret)
 exact fin_frz rfl (by exact rfl) rfl (fun _ _ _ _ h => by cases h) (by simp [frz, MV.lt, ltL, encP_lt])
theorem ltS1 (R C : List (Int × Int)) (c : Int) : ltL 0 [encS R C, I64 c] = true := by
 have h1 := encS_lt 0 R C
 show ((encS R C).lt 0 && ((I64 c).lt 0 && true)) = true
 rw [h1]; rfl
theorem rowsF_lt (R C : List (Int × Int)) (c : Nat) : (rowsF R C c).lt 0 = true := by
 have h1 := encS_lt 0 R C
 show ((encS R C).lt 0 && ((I64 c).lt 0 && true)) = true
 rw [h1]; rfl
theorem rows_c (k : Nat) (R C : List (Int × Int)) (c : Nat) (h : MHeap) : orA (k + 1) 147 [encS R C, I64 c] h = some (rowsF R C c, h) := by
 have := callA (k := k) (h := h) (args := [encS R C, I64 c]) (args' := [encS R C, I64 c]) (frzL_lt (ltS1 R C c)) rfl (rows_z k R C c) (by rw [ltS1]; show ((rowsF R C c).lt 0 && true) = true; rw [rowsF_lt]; rfl) rfl
 simpa [shV, sh1] using this
end Go.Proofs.YtnmgpbihknjdjaaGreatDoor

/- Chapter 9: maps of sums as sorted lists: plain law. -/
namespace Go.Proofs.YtnmgpbihknjdjaaGreatDoor
open Go.RowKit
set_option linter.unusedVariables false
def ltK : List Int → List Int → Bool
 | a :: as_, b :: bs => decide (a < b) || (decide (a = b) && ltK as_ bs)
 | [], _ :: _ => true
 | _, [] => false
theorem ltK_irrefl : ∀ a : List Int, ltK a a = false
 | [] => rfl
 | a :: as_ => by simp [ltK, ltK_irrefl as_]
theorem ltK_trans : ∀ a b c : List Int, ltK a b = true → ltK b c = true → ltK a c = true
 | [], [], c, h, _ => by simp [ltK] at h
 | [], b :: bs, [], _, h => by simp [ltK] at h
 | [], b :: bs, c :: cs, _, _ => rfl
 | a :: as_, [], c, h, _ => by simp [ltK] at h
 | a :: as_, b :: bs, [], _, h => by simp [ltK] at h
 | a :: as_, b :: bs, c :: cs, h1, h2 => by
  simp only [ltK, Bool.or_eq_true, Bool.and_eq_true, decide_eq_true_eq] at *
  rcases h1 with h1 | ⟨h1, h3⟩ <;> rcases h2 with h2 | ⟨h2, h4⟩
  ·left; omega
  ·left; omega
  ·left; omega
  ·right; exact ⟨by omega, ltK_trans _ _ _ h3 h4⟩
theorem ltK_tri : ∀ a b : List Int, ltK a b = true ∨ a = b ∨ ltK b a = true
 | [], [] => .inr (.inl rfl)
 | [], b :: bs => .inl rfl
 | a :: as_, [] => .inr (.inr rfl)
 | a :: as_, b :: bs => by
  simp only [ltK, Bool.or_eq_true, Bool.and_eq_true, decide_eq_true_eq, List.cons.injEq]
  rcases Int.lt_trichotomy a b with h | h | h
  ·exact .inl (.inl h)
  ·rcases ltK_tri as_ bs with h2 | h2 | h2
   ·exact .inl (.inr ⟨h, h2⟩)
   ·exact .inr (.inl ⟨h, h2⟩)
   ·exact .inr (.inr (.inr ⟨h.symm, h2⟩))
  ·exact .inr (.inr (.inl h))
def insO (v : List Int) : List (List Int) → List (List Int)
 | [] => [v]
 | w :: l => if ltK v w then v :: w :: l else w :: insO v l
def insK (v : List Int) (l : List (List Int)) : List (List Int) := if v ∈ l then l else insO v l
def addAll (xs : List (List Int)) (l : List (List Int)) : List (List Int) := xs.foldl (fun l x => insK x l) l
abbrev Srt (l : List (List Int)) : Prop := l.Pairwise fun a b => ltK a b = true
theorem mem_insO {v w : List Int} : ∀ {l : List (List Int)}, w ∈ insO v l ↔ w = v ∨ w ∈ l
 | [] => by simp [insO]
 | x :: l => by
  simp only [insO]
  split
  ·simp
  ·simp only [List.mem_cons, mem_insO (l := l)]
   constructor
   ·rintro (h | h | h)
    ·exact .inr (.inl h)
    ·exact .inl h
    ·exact .inr (.inr h)
   ·rintro (h | h | h)
    ·exact .inr (.inl h)
    ·exact .inl h
    ·exact .inr (.inr h)
theorem mem_insK {v w : List Int} {l : List (List Int)} : w ∈ insK v l ↔ w = v ∨ w ∈ l := by
 unfold insK
 split
 ·rename_i h
  constructor
  ·exact .inr
  ·rintro (rfl | h2)
   ·exact h
   ·exact h2
 ·exact mem_insO
theorem insO_srt {v : List Int} : ∀ {l : List (List Int)}, v ∉ l → Srt l → Srt (insO v l)
 | [], _, _ => by simp [insO, Srt]
 | w :: l, hn, hs => by
  simp only [Srt, List.pairwise_cons] at hs
  simp only [insO]
  split
  ·rename_i h
   simp only [Srt, List.pairwise_cons]
   refine ⟨fun x hx => ?_, hs.1, hs.2⟩
   rcases List.mem_cons.1 hx with rfl | hx
   ·exact h
   ·exact ltK_trans _ _ _ h (hs.1 x hx)
  ·rename_i h
   simp only [Srt, List.pairwise_cons]
   refine ⟨fun x hx => ?_, insO_srt (fun h2 => hn (List.mem_cons_of_mem _ h2)) hs.2⟩
   rcases mem_insO.1 hx with rfl | hx
   ·rcases ltK_tri w x with h2 | h2 | h2
    ·exact h2
    ·exact absurd (by rw [h2]; simp) hn
    ·exact absurd h2 h
   ·exact hs.1 x hx
theorem insK_srt {v : List Int} {l : List (List Int)} (hs : Srt l) : Srt (insK v l) := by
 unfold insK
 split
 ·exact hs
 ·rename_i h; exact insO_srt h hs
theorem addAll_srt : ∀ (xs : List (List Int)) {l : List (List Int)}, Srt l → Srt (addAll xs l)
 | [], l, h => h
 | x :: xs, l, h => addAll_srt xs (insK_srt h)
theorem mem_addAll {w : List Int} : ∀ (xs : List (List Int)) {l : List (List Int)}, w ∈ addAll xs l ↔ w ∈ xs ∨ w ∈ l
 | [], l => by simp [addAll]
 | x :: xs, l => by
  have h := mem_addAll (w := w) xs (l := insK x l)
  have e : addAll (x :: xs) l = addAll xs (insK x l) := rfl
  rw [e, h, mem_insK, List.mem_cons]
  constructor
  ·rintro (h | h | h)
   ·exact .inl (.inr h)
   ·exact .inl (.inl h)
   ·exact .inr h
  ·rintro ((h | h) | h)
   ·exact .inr (.inl h)
   ·exact .inl h
   ·exact .inr (.inr h)
theorem srt_ext : ∀ {l1 l2 : List (List Int)}, Srt l1 → Srt l2 → (∀ w, w ∈ l1 ↔ w ∈ l2) → l1 = l2
 | [], [], _, _, _ => rfl
 | [], b :: l2, _, _, h => absurd ((h b).2 (by simp)) (by simp)
 | a :: l1, [], _, _, h => absurd ((h a).1 (by simp)) (by simp)
 | a :: l1, b :: l2, h1, h2, h => by
  simp only [Srt, List.pairwise_cons] at h1 h2
  have hab : a = b := by
   rcases List.mem_cons.1 ((h a).1 (by simp)) with e | e
   ·exact e
   ·rcases List.mem_cons.1 ((h b).2 (by simp)) with e2 | e2
    ·exact e2.symm
    ·have := ltK_trans _ _ _ (h1.1 b e2) (h2.1 a e)
     rw [ltK_irrefl] at this; cases this
  subst hab
  congr 1
  refine srt_ext h1.2 h2.2 fun w => ?_
  constructor
  ·intro hw
   rcases List.mem_cons.1 ((h w).1 (List.mem_cons_of_mem _ hw)) with e | e
   ·subst e
    have := h1.1 w hw
    rw [ltK_irrefl] at this; cases this
   ·exact e
  ·intro hw
   rcases List.mem_cons.1 ((h w).2 (List.mem_cons_of_mem _ hw)) with e | e
   ·subst e
    have := h2.1 w hw
    rw [ltK_irrefl] at this; cases this
   ·exact e
theorem addAll_perm {xs ys : List (List Int)} {l : List (List Int)} (hs : Srt l) (hp : xs.Perm ys) : addAll xs l = addAll ys l :=
 srt_ext (addAll_srt xs hs) (addAll_srt ys hs) fun w => by rw [mem_addAll, mem_addAll, hp.mem_iff]
abbrev entK (v : List Int) : MV := .tup [keyA v, .agg []]
theorem ltKs_eq : ∀ a b : List Int, ltKs (a.map I64) (b.map I64) = ltK a b
 | [], [] => rfl
 | [], b :: bs => rfl
 | a :: as_, [] => rfl
 | a :: as_, b :: bs => by
  simp only [List.map_cons, ltKs, ltK, ltKs_eq as_ bs]
theorem insE_eq (v : List Int) : ∀ l : List (List Int), insE (entK v) (l.map entK) = (insO v l).map entK
 | [] => rfl
 | w :: l => by
  simp only [List.map_cons, insE, insO]
  have e : ltE (entK v) (entK w) = ltK v w := ltKs_eq v w
  rw [e]
  split
  ·rfl
  ·rw [insE_eq v l]; rfl
theorem litEq_eq : ∀ a b : List Int, a.length = b.length → litEq (a.map I64) (b.map I64) = some (decide (a = b))
 | [], [], _ => rfl
 | [], b :: bs, h => by simp at h
 | a :: as_, [], h => by simp at h
 | a :: as_, b :: bs, h => by
  simp only [List.map_cons, litEq, if_true, litEq_eq as_ bs (by simpa using h), Option.map_some]
  congr 1
  rw [Bool.eq_iff_iff]
  simp
theorem keysOk_eq (v : List Int) (l : List (List Int)) (hl : ∀ w ∈ l, v.length = w.length) : keysOk (v.map I64) (l.map entK) = true := by
 unfold keysOk
 rw [List.all_eq_true]
 intro m hm
 obtain ⟨w, hw, rfl⟩ := List.mem_map.1 hm
 show (litEq (v.map I64) (w.map I64)).isSome = true
 rw [litEq_eq v w (hl w hw)]; rfl
theorem mfind_eq (v : List Int) : ∀ (l : List (List Int)) (i : Nat), (∀ w ∈ l, v.length = w.length) → ∃ r, mfind (v.map I64) (l.map entK) i = some r ∧ (v ∉ l → r = none) ∧ (v ∈ l → ∃ j, r = some (i + j, .agg []) ∧ l[j]? = some v)
 | [], i, _ => ⟨none, rfl, fun _ => rfl, fun h => by cases h⟩
 | w :: l, i, hl => by
  have e : mfind (v.map I64) ((w :: l).map entK) i = match litEq (v.map I64) (w.map I64) with
    | some true => some (some (i, .agg []))
    | some false => mfind (v.map I64) (l.map entK) (i + 1)
    | none => none := rfl
  rw [e, litEq_eq v w (hl w (by simp))]
  by_cases h : v = w
  ·subst h
   simp only [decide_true]
   exact ⟨_, rfl, fun hn => absurd (by simp) hn, fun _ => ⟨0, rfl, rfl⟩⟩
  ·simp only [h, decide_false]
   obtain ⟨r, h1, h2, h3⟩ := mfind_eq v l (i + 1) fun w hw => hl w (List.mem_cons_of_mem _ hw)
   refine ⟨r, h1, fun hn => h2 fun h4 => hn (List.mem_cons_of_mem _ h4), fun hm => ?_⟩
   rcases List.mem_cons.1 hm with h4 | h4
   ·exact absurd h4 h
   ·obtain ⟨j, e1, e2⟩ := h3 h4
    exact ⟨j + 1, by rw [e1, show i + (j + 1) = i + 1 + j by omega], by simpa using e2⟩
theorem mset_eq (v : List Int) (l : List (List Int)) (hl : ∀ w ∈ l, v.length = w.length) : ∃ r, mfind (v.map I64) (l.map entK) 0 = some r ∧ mset (l.map entK) (entK v) r = (insK v l).map entK := by
 obtain ⟨r, h1, h2, h3⟩ := mfind_eq v l 0 hl
 refine ⟨r, h1, ?_⟩
 by_cases h : v ∈ l
 ·obtain ⟨j, rfl, e⟩ := h3 h
  have hk : insK v l = l := if_pos h
  rw [hk]
  simp only [mset, Nat.zero_add]
  refine List.ext_getElem? fun i => ?_
  rw [List.getElem?_set]
  split
  ·rename_i e2
   subst e2
   rw [if_pos (by have := (List.getElem?_eq_some_iff.1 e).1; simpa using this), List.getElem?_map, e]; rfl
  ·rfl
 ·rw [h2 h]
  have hk : insK v l = insO v l := if_neg h
  rw [hk]
  exact insE_eq v l
end Go.Proofs.YtnmgpbihknjdjaaGreatDoor

/- Chapter 9: the sums that rows reach. -/
namespace Go.Proofs.YtnmgpbihknjdjaaGreatDoor
open Go.RowKit
set_option linter.unusedVariables false
def plusV (s : Nat) : Nat → List Int → List Int
 | _, [] => []
 | i, x :: xs => (x + bitI s i) :: plusV s (i + 1) xs
theorem bitI_le (s i : Nat) : 0 ≤ bitI s i ∧ bitI s i ≤ 1 := by unfold bitI; omega
theorem plusV_len (s : Nat) : ∀ (l : List Int) (i : Nat), (plusV s i l).length = l.length
 | [], _ => rfl
 | x :: l, i => by simp [plusV, plusV_len s l]
theorem plusV_le {s t : Nat} : ∀ {l : List Int} {i : Nat}, (∀ x ∈ l, 0 ≤ x ∧ x ≤ t) → ∀ x ∈ plusV s i l, 0 ≤ x ∧ x ≤ (t + 1 : Nat)
 | [], _, _, x, hx => by cases hx
 | y :: l, i, h, x, hx => by
  rcases List.mem_cons.1 hx with rfl | hx
  ·have h1 := h y (by simp); have h2 := bitI_le s i; omega
  ·exact plusV_le (fun x hx => h x (List.mem_cons_of_mem _ hx)) x hx
theorem plus_k (k : Nat) (v : List Int) (s : Nat) (hl : v.length = 5) (hv : ∀ x ∈ v, 0 ≤ x ∧ x ≤ (100 : Nat)) (hs : s < 32) (h : MHeap) : orA (k + 1) 144 [keyA v, I64 s] h = some (keyA (plusV s 0 v), h) := by
 obtain ⟨a, b, c, d, e, rfl⟩ : ∃ a b c d e, v = [a, b, c, d, e] := by
  match v, hl with
  | [a, b, c, d, e], _ => exact ⟨a, b, c, d, e, rfl⟩
 have h1 := plus_c k a b c d e s hs h
 have w : ∀ x i, x ∈ [a, b, c, d, e] → IntKind.i64.wrap (x + bitI s i) = x + bitI s i := fun x i hx => by
  have h2 := hv x hx
  have h3 := bitI_le s i
  exact wrap_of (by omega) (by omega)
 simp only [W64, w a 0 (by simp), w b 1 (by simp), w c 2 (by simp), w d 3 (by simp), w e 4 (by simp)] at h1
 exact h1
def nextL (P : Nat → Bool) (now : List (List Int)) (sets : List Nat) (l : List (List Int)) : List (List Int) := sets.foldl (fun l s => if P s then addAll (now.map (plusV s 0)) l else l) l
def reachL (R : List (Int × Int)) (m : Nat) (P : Nat → Nat → Bool) : Nat → List (List Int)
 | 0 => [[0, 0, 0, 0, 0]]
 | t + 1 => nextL (P (R.length - 1 - t)) (reachL R m P t) (rowSets m (R.getD (R.length - 1 - t) (0, 0)).1 (R.getD (R.length - 1 - t) (0, 0)).2) []
def OkL (t : Nat) (l : List (List Int)) : Prop := ∀ v ∈ l, v.length = 5 ∧ ∀ x ∈ v, 0 ≤ x ∧ x ≤ (t : Int)
theorem nextL_ok {t : Nat} {P : Nat → Bool} {now : List (List Int)} (h : OkL t now) : ∀ (sets : List Nat) {l : List (List Int)}, OkL (t + 1) l → OkL (t + 1) (nextL P now sets l)
 | [], l, hl => hl
 | s :: sets, l, hl => by
  refine nextL_ok h sets (l := if P s then addAll (now.map (plusV s 0)) l else l) ?_
  split
  ·intro v hv
   rcases (mem_addAll _).1 hv with hv | hv
   ·obtain ⟨u, hu, rfl⟩ := List.mem_map.1 hv
    obtain ⟨h1, h2⟩ := h u hu
    refine ⟨by rw [plusV_len]; exact h1, fun x hx => ?_⟩
    have := plusV_le h2 x hx
    omega
   ·exact hl v hv
  ·exact hl
theorem nextL_srt {P : Nat → Bool} {now : List (List Int)} : ∀ (sets : List Nat) {l : List (List Int)}, Srt l → Srt (nextL P now sets l)
 | [], l, hl => hl
 | s :: sets, l, hl => by
  refine nextL_srt sets (l := if P s then addAll (now.map (plusV s 0)) l else l) ?_
  split
  ·exact addAll_srt _ hl
  ·exact hl
theorem reachL_ok (R : List (Int × Int)) (m : Nat) (P : Nat → Nat → Bool) : ∀ t, OkL t (reachL R m P t) ∧ Srt (reachL R m P t)
 | 0 => ⟨fun v hv => by
   simp only [reachL, List.mem_singleton] at hv
   subst hv
   exact ⟨rfl, fun x hx => by simp at hx; omega⟩, by simp [reachL, Srt]⟩
 | t + 1 => ⟨nextL_ok (reachL_ok R m P t).1 _ (fun v hv => by cases hv), nextL_srt _ (by simp [Srt])⟩
def MayB (k : Nat) (f : MV) (P : Nat → Nat → Bool) (n : Nat) : Prop := ∃ g q caps, f = .fn g q caps ∧ f.lt 0 = true ∧ ∀ (row set : Nat), row < n → set < 32 → ∀ h, orA k g (caps.take q ++ [I64 row, I64 set] ++ caps.drop q) h = some (Bo (P row set), h)
theorem entK_lt (n : Nat) (l : List (List Int)) : ltL n (l.map entK) = true := ltL_iff'.2 fun m hm => by
 obtain ⟨v, _, rfl⟩ := List.mem_map.1 hm
 have h1 := keyA_lt n v
 show ((keyA v).lt n && ((MV.agg []).lt n && true)) = true
 rw [h1]; rfl
mutual
theorem MV.lt_le {n m : Nat} (h : n ≤ m) : ∀ v : MV, v.lt n = true → v.lt m = true
 | .lit _, _ => rfl
 | .junk, _ => rfl
 | .yld, h1 => by simp [MV.lt] at h1
 | .emp, h1 => by simp [MV.lt] at h1
 | .itr _ _, h1 => by simp [MV.lt] at h1
 | .agg cs, h1 => by simp only [MV.lt] at h1 ⊢; exact ltL_le h cs h1
 | .tup cs, h1 => by simp only [MV.lt] at h1 ⊢; exact ltL_le h cs h1
 | .sl cs, h1 => by simp only [MV.lt] at h1 ⊢; exact ltL_le h cs h1
 | .rp e _, h1 => by simp only [MV.lt] at h1 ⊢; exact MV.lt_le h e h1
 | .ptr id _ _ _, h1 => by simp only [MV.lt, decide_eq_true_eq] at h1 ⊢; omega
 | .arr id _ _ _, h1 => by simp only [MV.lt, decide_eq_true_eq] at h1 ⊢; omega
 | .fn _ _ cs, h1 => by simp only [MV.lt] at h1 ⊢; exact ltL_le h cs h1
 | .mp id _, h1 => by simp only [MV.lt, decide_eq_true_eq] at h1 ⊢; omega
 | .rm cs, h1 => by simp only [MV.lt] at h1 ⊢; exact ltL_le h cs h1
theorem ltL_le {n m : Nat} (h : n ≤ m) : ∀ vs : List MV, ltL n vs = true → ltL m vs = true
 | [], _ => rfl
 | v :: vs, h1 => by
  simp only [ltL, Bool.and_eq_true] at h1 ⊢
  exact ⟨MV.lt_le h v h1.1, ltL_le h vs h1.2⟩
end
theorem hltL_le {n m : Nat} (h : n ≤ m) {M : MHeap} (hc : hltL n M = true) : hltL m M = true := by
 unfold hltL at *
 rw [List.all_eq_true] at *
 exact fun o ho => ltL_le h _ (hc o ho)
def rfM (M : MHeap) (l : List (List Int)) : MHeap := M ++ [⟨0, true, 1, [.tup (l.map entK)]⟩] ++ [⟨0, false, 1, [.mp M.length 0]⟩]
theorem rfM_len (M : MHeap) (l : List (List Int)) : (rfM M l).length = M.length + 2 := by simp [rfM]
theorem rfM_at {M : MHeap} {l : List (List Int)} {i : Nat} {o : MObj} (h : M[i]? = some o) : (rfM M l)[i]? = some o := by
 have hi := (List.getElem?_eq_some_iff.1 h).1
 unfold rfM
 rw [List.append_assoc, List.getElem?_append_left hi, h]
theorem rfM_m (M : MHeap) (l : List (List Int)) : (rfM M l)[M.length]? = some ⟨0, true, 1, [.tup (l.map entK)]⟩ := by
 unfold rfM
 rw [List.append_assoc, List.getElem?_append_right (Nat.le_refl _)]; simp
theorem rfM_q (M : MHeap) (l : List (List Int)) : (rfM M l)[M.length + 1]? = some ⟨0, false, 1, [.mp M.length 0]⟩ := by
 unfold rfM
 rw [List.append_assoc, List.getElem?_append_right (by omega)]; simp
theorem rfM_cl {M : MHeap} (l : List (List Int)) (hc : hltL M.length M = true) : hltL (M.length + 2) (rfM M l) = true := by
 have h1 := hltL_le (show M.length ≤ M.length + 2 by omega) hc
 unfold rfM
 unfold hltL at *
 rw [List.all_append, List.all_append, h1]
 simp only [List.all_cons, List.all_nil, ltL, MV.lt, entK_lt, Bool.and_true, Bool.true_and, decide_eq_true_eq]
 omega
def unK : MV → List Int
 | .tup [.agg cs, _] => cs.map fun | .lit (.int _ z) => z | _ => 0
 | _ => []
theorem unK_ent (v : List Int) : unK (entK v) = v := by
 show (v.map I64).map (fun m => match m with | .lit (.int _ z) => z | _ => 0) = v
 rw [List.map_map]
 conv => rhs; rw [← List.map_id v]
 rfl
theorem unK_map (l : List (List Int)) : (l.map entK).map unK = l := by
 rw [List.map_map]
 conv => rhs; rw [← List.map_id l]
 exact List.map_congr_left fun v _ => unK_ent v
theorem addAll_app (xs : List (List Int)) (v : List Int) (l : List (List Int)) : addAll (xs ++ [v]) l = insK v (addAll xs l) := by
 unfold addAll
 rw [List.foldl_append]; rfl
theorem nextL_app (P : Nat → Bool) (now : List (List Int)) (xs : List Nat) (s : Nat) (l : List (List Int)) : nextL P now (xs ++ [s]) l = if P s then addAll (now.map (plusV s 0)) (nextL P now xs l) else nextL P now xs l := by
 unfold nextL
 rw [List.foldl_append]; rfl
theorem entK_all (l : List (List Int)) : (l.map entK).all entP = true := by
 rw [List.all_eq_true]
 intro m hm
 obtain ⟨v, _, rfl⟩ := List.mem_map.1 hm
 show ((keyA v).plain && (MV.agg []).plain) = true
 have : (keyA v).plain = true := by
  show (v.map I64).all _ = true
  rw [List.all_eq_true]
  intro x hx
  obtain ⟨z, _, rfl⟩ := List.mem_map.1 hx
  rfl
 rw [this]; rfl
theorem mr_set {M : MHeap} {l l' : List (List Int)} {o : MObj} : ((rfM M l ++ [o]).set M.length ⟨0, true, 1, [.tup (l'.map entK)]⟩).take (M.length + 2) = rfM M l' := by
 unfold rfM
 rw [List.append_assoc, List.append_assoc, List.set_append_right _ _ (Nat.le_refl _), List.take_append]
 simp [List.take_of_length_le]
theorem hltL_set {n i : Nat} {M : MHeap} {o : MObj} (h : hltL n M = true) (ho : ltL n o.es = true) : hltL n (M.set i o) = true := by
 unfold hltL at *
 rw [List.all_eq_true] at *
 intro p hp
 rcases List.mem_or_eq_of_mem_set hp with hp | rfl
 ·exact h p hp
 ·exact ho
def sM (H : MHeap) (m j : Nat) (es : List MV) : MHeap := (H.mapIdx fun i p => if [m].contains i then ⟨p.g + 1, p.nl, p.sz, []⟩ else p).set j ⟨0, false, 1, [.rm es]⟩
theorem sM_len {H : MHeap} {m j : Nat} {es : List MV} : (sM H m j es).length = H.length := by simp [sM]
theorem sM_j {H : MHeap} {m j : Nat} {es : List MV} (h : j < H.length) : (sM H m j es)[j]? = some ⟨0, false, 1, [.rm es]⟩ := by
 unfold sM
 rw [List.getElem?_set_self (by simpa using h)]
theorem sM_at {H : MHeap} {m j i : Nat} {es : List MV} (h1 : i ≠ m) (h2 : i ≠ j) : (sM H m j es)[i]? = H[i]? := by
 unfold sM
 rw [List.getElem?_set_ne (Ne.symm h2), List.getElem?_mapIdx]
 cases H[i]? with
 | none => rfl
 | some o => simp [h1]
theorem sM_cl {H : MHeap} {n m j : Nat} {es : List MV} (h : hltL n H = true) (he : ltL n es = true) : hltL n (sM H m j es) = true := by
 unfold sM
 refine hltL_set ?_ (by simp only [ltL, MV.lt, he, Bool.and_true])
 unfold hltL at *
 rw [List.all_eq_true] at *
 intro p hp
 obtain ⟨i, hi⟩ := List.getElem?_of_mem hp
 rw [List.getElem?_mapIdx, Option.map_eq_some_iff] at hi
 obtain ⟨o, ho, rfl⟩ := hi
 split
 ·rfl
 ·exact h o (List.mem_of_getElem? ho)
theorem seal_mp {H : MHeap} {m j : Nat} {es : List MV} (h3 : H[j]? = some ⟨0, false, 1, [.mp m 0]⟩) (hm : H[m]? = some ⟨0, true, 1, [.tup es]⟩) (hne : m ≠ j) (hes : ltL 0 es = true) : sealH (fun _ => false) H (.ptr j 0 0 0) = some (sM H m j es) := by
 have ids : [MV.mp m 0].flatMap (MV.ids H 6) = [m] := by
  have h1 : es.flatMap (MV.ids H 4) = [] := idsL_lt0 hes
  have e1 : [MV.mp m 0].flatMap (MV.ids H 6) = (m :: (match H[m]? with | some o => o.es.flatMap (MV.ids H 5) | none => [])) ++ [] := rfl
  have e2 : [MV.tup es].flatMap (MV.ids H 5) = es.flatMap (MV.ids H 4) ++ [] := rfl
  rw [e1, hm]
  show (m :: [MV.tup es].flatMap (MV.ids H 5)) ++ [] = [m]
  rw [e2, h1]; rfl
 have himp : (j :: (List.range H.length).filter fun i => ![m].contains i).contains m = false := by
  simp [hne]
 have hf : frz 0 (j :: (List.range H.length).filter fun i => ![m].contains i) H 8 (.mp m 0) = some (.rm es) := by
  simp only [frz, MV.lt, Nat.not_lt_zero, decide_false, Bool.false_eq_true, if_false, himp, hm, and_self, if_true, hes]
 unfold sealH
 simp only [h3, ids, List.mapM_cons, List.mapM_nil, hf]
 have hc : ([m].all (fun i => !false && i != j) && !false) = true := by simp [hne]
 simp only [Option.pure_def, Option.bind_eq_bind, Option.bind_some, hc, if_true]
 rfl
structure StR (R C : List (Int × Int)) (f : MV) (l : List (List Int)) (t : Nat) (M : MHeap) (i8 : Nat) : Prop where
 m0 : M[0]? = some ⟨0, false, 2, [encS R C]⟩
 m1 : M[1]? = some ⟨0, false, 1, [f]⟩
 m3 : M[3]? = some ⟨0, false, 1, [.rm (l.map entK)]⟩
 m8 : M[i8]? = some ⟨0, false, 1, [I64 ((R.length : Int) - 1 - t)]⟩
 n3 : i8 ≠ 3
 cl : hltL M.length M = true
 len : 5 ≤ M.length
 fst : t = 0 → M.length = 5
 nxt : t ≠ 0 → 5 ≤ i8
theorem mf_reached : MT.mf 169 = some ⟨50, [(.tmp 6)], (.seq (.reg [gO 3 (.box 2 (.s 0)), gO 5 (.box 1 (.s 2)), gO 6 (.mv (.c (.lit (.map none))))]) (.seq (.reg [gO 12 (.mkm), gO 13 (.build [(.lit (.int .i64 0)), (.lit (.int .i64 0)), (.lit (.int .i64 0)), (.lit (.int .i64 0)), (.lit (.int .i64 0))] []), gO 14 (.build [] []), ⟨none, none, .mup 5 (.s 12) (.s 13) (.s 14)⟩, gO 15 (.mv (.s 12)), gO 7 (.new (.lit (.map none))), ⟨none, none, .st 1 (.s 7) (.s 15)⟩]) (.seq (.seq (.give 7 (.reg [gO 16 (.fa 0 (.s 3)), gO 17 (.fa 0 (.s 16)), gO 18 (.ld none (.s 17)), gO 19 (.len (.s 18)), gO 20 (.bin .sub (.s 19) (cI 1)), gO 8 (.new (.lit (.int .i64 0))), ⟨none, none, .st 1 (.s 8) (.s 20)⟩])) (.block 0 (.loop [8, 1, 3, 5, 7] (.seq (.seq (.reg [gO 21 (.ld none (.s 8)), gO 22 (.mv (.s 1)), gO 23 (.bin .geq (.s 21) (.s 22))]) (.cond (.s 23) .skip (.exit 0))) (.seq (.block 1 (.seq (.reg [gO 26 (.mkm), gO 9 (.new (.lit (.map none))), ⟨none, none, .st 1 (.s 9) (.s 26)⟩]) (.seq (.seq (.reg [gO 27 (.ld (some 2) (.s 3)), gO 28 (.ld none (.s 8)), gO 29 (.call 147 [.s 27, .s 28])]) (.block 2 (.rf [5, 8, 7, 9] (.s 29) [30] (.reg [gO 10 (.mv (.s 30))]) (.block 3 (.seq (.seq (.reg [gO 31 (.ld none (.s 5)), gO 32 (.ld none (.s 8)), gO 33 (.mv (.s 10)), gO 34 (.callv (.s 31) [.s 32, .s 33]), gO 35 (.un .not (.s 34))]) (.cond (.s 35) (.exit 3) .skip)) (.seq (.reg [gO 36 (.ld none (.s 7))]) (.mr [9, 10] [] 4 (.s 36) 37 38 39 (.block 5 (.seq (.reg [gO 40 (.ent (.s 37)), gO 41 (.ext (.s 40) 0), gO 11 (.new (.agg [(.lit (.int .i64 0)), (.lit (.int .i64 0)), (.lit (.int .i64 0)), (.lit (.int .i64 0)), (.lit (.int .i64 0))])), ⟨none, none, .st 5 (.s 11) (.s 41)⟩]) (.reg [gO 42 (.ld none (.s 9)), gO 43 (.ld (some 5) (.s 11)), gO 44 (.mv (.s 10)), gO 45 (.call 144 [.s 43, .s 44]), gO 46 (.build [] []), ⟨none, none, .mup 5 (.s 42) (.s 45) (.s 46)⟩])))))))))) (.reg [gO 47 (.ld none (.s 9)), ⟨none, none, .st 1 (.s 7) (.s 47)⟩])))) (.seq (.seq (.give 7 (.reg [gO 48 (.ld none (.s 8))])) (.reg [gO 8 (.new (.lit (.int .i64 0))), ⟨none, none, .st 1 (.s 8) (.s 48)⟩])) (.reg [gO 24 (.ld none (.s 8)), gO 25 (.bin .sub (.s 24) (cI 1)), ⟨none, none, .st 1 (.s 8) (.s 25)⟩]))))))) (.seq (.reg [gO 49 (.ld none (.s 7)), gO 6 (.mv (.s 49))]) .ret))))⟩ := by kernel_rfl
set_option maxHeartbeats 4000000 in
theorem reached_z (k : Nat) (R C : List (Int × Int)) (c : Nat) (f : MV) (P : Nat → Nat → Bool) (hR : R.length ≤ 5) (hc : c ≤ R.length) (hC : C.length ≤ 5) (hf : MayB (k + 4) f P R.length) :
  runZ MT (orA (k + 4)) (itA (k + 4)) 4000000 169 [encS R C, I64 c, f] [] = some (.rm ((reachL R C.length P (R.length - c)).map entK), []) := by
 obtain ⟨g, q, caps, rfl, hfl, hcall⟩ := hf
 refine runZ_of mf_reached (by simp) ?_
 simp only [argsL]
 have hrl : (MV.sl (R.map encP)).slen = some R.length := by simp [MV.slen]
 repeat (first | apply ef_seq | (apply ef_mv; exact rfl; exact rfl) | (apply ef_box; (iterate 4 exact rfl)) | (apply ef_newst; (iterate 3 exact rfl); (exact rfl); exact rfl) | (apply ef_build; exact rfl; (repeat (apply XVs.cons; exact rfl)); exact XVs.nil; exact rfl; exact rfl) | (apply ef_mkm; exact rfl) | (apply ef_mup; (iterate 3 exact rfl); (exact rfl); exact rfl; exact rfl; (exact rfl); exact rfl; (exact rfl)) | apply ef_nil | apply seqQ.normal)
 refine ef_give (by exact rfl) (by rfl) ?_
 repeat (first | (apply ef_bin; (iterate 3 exact rfl); (((with_reducible refine bin_sub (wrap_of ?_ ?_)) <;> omega))) | (apply ef_len; exact rfl; exact rfl; (assumption)) | (apply ef_ldp; exact rfl; exact rfl; (exact rfl); exact rfl; (exact rfl); (exact rfl)) | (apply ef_fap; exact rfl; exact rfl) | (apply ef_newst; (iterate 3 exact rfl); (exact rfl); exact rfl) | apply ef_nil | apply seqQ.normal | apply ef_block)
 refine ef_loopg (α := Nat × MHeap × Nat) (fun a => a.1 ≤ R.length - c ∧ StR R C (.fn g q caps) (reachL R C.length P a.1) a.1 a.2.1 a.2.2) (fun a => [(8, .ptr a.2.2 0 0 0)]) [(1, I64 c), (3, .ptr 0 0 0 0), (5, .ptr 1 0 0 0), (7, .ptr 3 0 0 0)] (fun a => a.2.1) (fun a => R.length - c - a.1)
  (0, [⟨0, false, 2, [encS R C]⟩, ⟨0, false, 1, [.fn g q caps]⟩, ⟨1, true, 1, []⟩, ⟨0, false, 1, [.rm [entK [0, 0, 0, 0, 0]]]⟩, ⟨0, false, 1, [I64 ((R.length : Int) - 1)]⟩], 4) [8] (fun _ => rfl) (by ((repeat (refine Hold.cons (by exact rfl) ?_)); exact Hold.nil)) (by ((repeat (refine Hold.cons (by exact rfl) ?_)); exact Hold.nil)) rfl rfl rfl ?_ (by simp; omega) ?_
 ·refine ⟨Nat.zero_le _, rfl, rfl, rfl, ?_, (show (4 : Nat) ≠ 3 by decide), ?_, by simp, fun _ => rfl, fun h => absurd rfl h⟩
  ·show _ = some (⟨0, false, 1, [I64 ((R.length : Int) - 1 - (0 : Nat))]⟩ : MObj)
   rw [show (R.length : Int) - 1 - (0 : Nat) = (R.length : Int) - 1 by omega]; rfl
  ·have h1 := encS_lt 5 R C
   have h2 := entK_lt 5 [[0, 0, 0, 0, 0]]
   have h3 : (MV.fn g q caps).lt 5 = true := MV.lt_le (Nat.zero_le _) _ hfl
   simp only [hltL, List.all_cons, List.all_nil, ltL, h1, h3, Bool.and_true, Bool.true_and, List.length_cons, List.length_nil]
   show (MV.rm [entK [0, 0, 0, 0, 0]]).lt 5 = true
   exact h2
 rintro ⟨t, M, i8⟩ ⟨ht, hI⟩
 obtain ⟨m0, m1, m3, m8, n3, hcl, hlen, hfst, hnxt⟩ := hI
 by_cases ht2 : t < R.length - c
 ·obtain ⟨row, hrw⟩ : ∃ row, row = R.length - 1 - t := ⟨_, rfl⟩
  have hrl2 : row < R.length := by omega
  simp only at m0 m1 m3 m8 n3 hcl hlen hfst hnxt ht ht2
  rw [show (R.length : Int) - 1 - (t : Nat) = (row : Int) by omega] at m8
  obtain ⟨r, hr⟩ : ∃ r, R[row]? = some r := ⟨R[row], by simp [hrl2]⟩
  have hrd : R.getD row (0, 0) = r := by rw [List.getD_eq_getElem?_getD, hr]; rfl
  obtain ⟨nok, nsr⟩ := reachL_ok R C.length P t
  have hnext : reachL R C.length P (t + 1) = nextL (P row) (reachL R C.length P t) (rowSets C.length r.1 r.2) [] := by simp only [reachL, ← hrw, hrd]
  generalize reachL R C.length P t = now at *
  repeat (first | apply ef_seq | (apply ef_mv; exact rfl; exact rfl) | (apply ef_bin; (iterate 3 exact rfl); (exact cmp_t rfl (by first | exact rfl | (simp only [cmpP]; omega)))) | (apply ef_ldp; exact rfl; exact rfl; (assumption); exact rfl; (exact rfl); (exact rfl)) | (apply ef_newst; (iterate 3 exact rfl); (exact rfl); exact rfl) | (apply ef_mkm; exact rfl) | apply ef_nil | apply seqQ.normal | apply ef_block | apply ef_skip | (apply ef_condt; exact rfl; (exact (rfl : true = true))))
  dsimp only
  rw [show (M ++ [(⟨0, true, 1, [.tup []]⟩ : MObj)]).length = M.length + 1 by simp]
  show Ef _ _ _ _ _ _ _ (rfM M []) _
  have f0 : ∀ l, (rfM M l)[0]? = _ := fun l => rfM_at m0
  have f1 : ∀ l, (rfM M l)[1]? = _ := fun l => rfM_at m1
  have f3 : ∀ l, (rfM M l)[3]? = _ := fun l => rfM_at m3
  have f8 : ∀ l, (rfM M l)[i8]? = _ := fun l => rfM_at m8
  have fm := rfM_m M
  have fq := rfM_q M
  have g0 := f0 []
  have g8 := f8 []
  repeat (first | (apply ef_ldp; exact rfl; exact rfl; (assumption); exact rfl; (exact rfl); (first | exact rd_2 rfl rfl | exact rfl)) | apply ef_nil | apply seqQ.normal | apply ef_block | (apply ef_call; exact rfl; ((repeat (apply XVs.cons; exact rfl)); exact XVs.nil); (with_reducible exact rows_c (k + 3) R C row _)))
  refine ef_rf (α := List (List Int)) (ids := []) (fun i l => l = nextL (P row) now ((rowSets C.length r.1 r.2).take i) []) [(5, .ptr 1 0 0 0), (8, .ptr i8 0 0 0), (7, .ptr 3 0 0 0), (9, .ptr (M.length + 1) 0 0 0)] (rfM M) (rfM M)
   [] (by exact rfl) (rows1_it (k + 2) R C row r hC hr _) (by simp) (idsL_lt0 (by have h1 := encS_lt 0 R C; show ((encS R C).lt 0 && ((I64 row).lt 0 && true)) = true; rw [h1]; rfl)) (by ((repeat (refine Hold.cons (by exact rfl) ?_)); exact Hold.nil)) rfl rfl rfl rfl rfl (fun i l _ => .all (by rw [rfM_len, rfM_len]; exact Nat.le_refl _)) ?_ ?_
  ·intro i l x hx hl
   simp only [List.getElem?_map, Option.map_eq_some_iff] at hx
   obtain ⟨s, hs, rfl⟩ := hx
   have hs32 : s < 32 := by
    have h1 := List.mem_of_getElem? hs
    have h2 := List.mem_range.1 (List.mem_filter.1 h1).1
    have h3 := pow_le5 C.length hC
    omega
   have hstep : nextL (P row) now ((rowSets C.length r.1 r.2).take (i + 1)) [] = if P row s then addAll (now.map (plusV s 0)) l else l := by
    rw [List.take_add_one, hs, hl]; exact nextL_app _ _ _ _ _
   have hsl : Srt l := by rw [hl]; exact nextL_srt _ (by simp [Srt])
   have hol : OkL (t + 1) l := by rw [hl]; exact nextL_ok nok _ (fun v hv => by cases hv)
   clear hl
   have g1 := f1 l
   have g3 := f3 l
   have g8 := f8 l
   generalize hMr : rfM M l = Mr at *
   show Ef _ _ _ _ _ _ ((30, I64 s) :: [(5, .ptr 1 0 0 0), (8, .ptr i8 0 0 0), (7, .ptr 3 0 0 0), (9, .ptr (M.length + 1) 0 0 0)]) _ _
   repeat (first | (apply ef_mv; exact rfl; exact rfl) | apply ef_nil)
   apply preQ.normal
   repeat (first | apply ef_seq | (apply ef_mv; exact rfl; exact rfl) | (apply ef_ldp; exact rfl; exact rfl; (assumption); exact rfl; (exact rfl); (exact rfl)) | apply ef_block)
   (apply ef_callv; (· exact rfl); (· exact rfl); (· ((repeat (apply XVs.cons; exact rfl)); exact XVs.nil)); (· exact rfl); (· exact hcall row s hrl2 hs32 _))
   cases hP : P row s
   ·repeat (first | (apply ef_notF; exact rfl; exact rfl) | apply ef_nil | apply seqQ.normal | apply ef_exit | apply seqQ.exit | apply blockQ.here | (apply ef_condt; exact rfl; (exact (rfl : true = true))))
    exact rfQ.normal _ _ ⟨l, by rw [hstep]; simp [hP], hMr.symm⟩
   ·repeat (first | apply ef_seq | (apply ef_ldp; exact rfl; exact rfl; (assumption); exact rfl; (exact rfl); (exact rfl)) | (apply ef_notT; exact rfl; exact rfl) | apply ef_nil | apply seqQ.normal | apply ef_skip | (apply ef_condf; exact rfl; (exact (rfl : false = false))))
    subst hMr
    refine ef_mr (fun _ => false) (fun _ => [(9, .ptr (M.length + 1) 0 0 0), (10, I64 s)]) (fun p => rfM M (addAll ((p.map unK).map (plusV s 0)) l)) .normal [] (rfM M (addAll (now.map (plusV s 0)) l)) (by exact rfl) (entK_all now) rfl rfl rfl rfl (fun _ => rfl)
     (fun p l' _ _ => ⟨fun t ht => ?_, by rw [rfM_len]; exact rfM_cl _ hcl, by rw [rfM_len, rfM_len]⟩) (by ((repeat (refine Hold.cons (by exact rfl) ?_)); exact Hold.nil)) rfl (fun t ht => by cases ht) rfl (by rw [rfM_len]; exact rfM_cl _ hcl) (by rw [rfM_len, rfM_len]) (fun _ => ⟨rfl, fun p hp => ⟨Hold.nil, ?_⟩⟩) ?_ ?_
    ·simp only [List.mem_cons, List.not_mem_nil, or_false] at ht
     rcases ht with rfl | rfl
     ·exact ⟨_, rfl, by simp only [MV.lt, rfM_len, decide_eq_true_eq]; omega⟩
     ·exact ⟨_, rfl, rfl⟩
    ·rw [addAll_perm hsl]
     have h1 := (hp.map unK).map (plusV s 0)
     rwa [unK_map] at h1
    ·intro p kk vv l' hpm _
     have hmem : MV.tup [kk, vv] ∈ now.map entK := hpm.mem_iff.1 (by simp)
     obtain ⟨u, hu, e⟩ := List.mem_map.1 hmem
     obtain ⟨hu5, hub⟩ := nok u hu
     obtain ⟨a, b, c', d, e', rfl⟩ : ∃ a b c d e, u = [a, b, c, d, e] := by
      match u, hu5 with
      | [a, b, c, d, e], _ => exact ⟨a, b, c, d, e, rfl⟩
     simp only [MV.tup.injEq, List.cons.injEq, and_true] at e
     obtain ⟨rfl, rfl⟩ := e
     obtain ⟨l1, hl1⟩ : ∃ l1, l1 = addAll ((p.map unK).map (plusV s 0)) l := ⟨_, rfl⟩
     have hol1 : ∀ w ∈ l1, w.length = 5 := fun w hw => by
      rw [hl1] at hw
      rcases (mem_addAll _).1 hw with hw | hw
      ·obtain ⟨z, hz, rfl⟩ := List.mem_map.1 hw
       obtain ⟨y, hy, rfl⟩ := List.mem_map.1 hz
       have hy2 : y ∈ now.map entK := hpm.mem_iff.1 (by simp [hy])
       obtain ⟨x, hx, rfl⟩ := List.mem_map.1 hy2
       rw [unK_ent, plusV_len]; exact (nok x hx).1
      ·exact (hol w hw).1
     have hpl : (plusV s 0 [a, b, c', d, e']).length = 5 := by rw [plusV_len]; rfl
     obtain ⟨rr, hf1, hf2⟩ := mset_eq (plusV s 0 [a, b, c', d, e']) l1 (fun w hw => by rw [hpl, hol1 w hw])
     have hko := keysOk_eq (plusV s 0 [a, b, c', d, e']) l1 (fun w hw => by rw [hpl, hol1 w hw])
     have hfin : addAll (((p ++ [entK [a, b, c', d, e']]).map unK).map (plusV s 0)) l = insK (plusV s 0 [a, b, c', d, e']) l1 := by
      rw [List.map_append, List.map_append, hl1]
      have e3 : List.map (plusV s 0) (List.map unK [entK [a, b, c', d, e']]) = [plusV s 0 [a, b, c', d, e']] := by
       simp only [List.map_cons, List.map_nil, unK_ent]
      rw [e3]; exact addAll_app _ _ _
     rw [← hl1]
     have q1 : ∀ o : MObj, (rfM M l1 ++ [o])[M.length + 1]? = some ⟨0, false, 1, [.mp M.length 0]⟩ := fun o => by
      rw [List.getElem?_append_left (by rw [rfM_len]; omega)]; exact fq l1
     have q2 : ∀ o : MObj, (MV.mp M.length 0).ents (rfM M l1 ++ [o]) = some (l1.map entK) := fun o => by
      have : (rfM M l1 ++ [o])[M.length]? = some ⟨0, true, 1, [.tup (l1.map entK)]⟩ := by
       rw [List.getElem?_append_left (by rw [rfM_len]; omega)]; exact fm l1
      simp only [MV.ents, this, and_self, if_true]
     have q3 : ∀ o : MObj, (rfM M l1 ++ [o])[(rfM M l1).length]? = some o := fun o => at_endC _ _
     have q1' := q1 ⟨0, false, 5, [keyA [a, b, c', d, e']]⟩
     have q3' := q3 ⟨0, false, 5, [keyA [a, b, c', d, e']]⟩
     repeat (first | apply ef_seq | (apply ef_mv; exact rfl; exact rfl) | (apply ef_ldp; exact rfl; exact rfl; (assumption); exact rfl; (exact rfl); (first | exact rd_5 rfl rfl rfl rfl rfl | exact rfl)) | (apply ef_ext; (iterate 3 exact rfl)) | (apply ef_newst; (iterate 3 exact rfl); (exact rfl); exact rfl) | (apply ef_ent; exact rfl; exact rfl) | apply ef_nil | apply seqQ.normal | apply ef_block)
     (apply ef_call; (· exact rfl); (· ((repeat (apply XVs.cons; exact rfl)); exact XVs.nil)); · exact plus_k (k + 3) [a, b, c', d, e'] s rfl (fun x hx => by have := hub x hx; omega) hs32 _)
     repeat (first | (apply ef_build; exact rfl; (repeat (apply XVs.cons; exact rfl)); exact XVs.nil; exact rfl; exact rfl))
     refine ef_mup (by exact rfl) (by exact rfl) (by exact rfl) (q2 _) (by rw [List.length_map, hpl]) rfl hko rfl hf1 ?_
     rw [show mset (l1.map entK) (.tup [keyA (plusV s 0 [a, b, c', d, e']), .agg []]) rr = (insK (plusV s 0 [a, b, c', d, e']) l1).map entK from hf2]
     repeat (first | apply ef_nil | apply blockQ.normal)
     refine mrQ.normal _ _ ⟨rfl, ⟨_, _, by exact rfl⟩, by ((repeat (refine Hold.cons (by exact rfl) ?_)); exact Hold.nil), ?_⟩
     rw [hfin, rfM_len]
     exact mr_set
    ·repeat (first | apply blockQ.normal)
     exact rfQ.normal _ _ ⟨_, by rw [hstep, if_pos hP], rfl⟩
  ·intro l hl
   rw [List.take_of_length_le (by simp)] at hl
   rw [← hnext] at hl
   have g3 := f3 l
   have gq := fq l
   repeat (first | (apply ef_ldp; exact rfl; exact rfl; (assumption); exact rfl; (exact rfl); (exact rfl)) | apply seqQ.normal | apply blockQ.normal)
   (apply ef_st; (· exact rfl); (· exact rfl); (· exact rfl); (· exact g3); (· exact rfl); (· exact rfl); (· exact rfl); (· exact rfl))
   obtain ⟨H, hH⟩ : ∃ H, H = (rfM M l).set 3 ⟨0, false, 1, [.mp M.length 0]⟩ := ⟨_, rfl⟩
   show Ef _ _ _ _ _ _ _ ((rfM M l).set 3 ⟨0, false, 1, [.mp M.length 0]⟩) _
   rw [← hH]
   have hHl : H.length = M.length + 2 := by rw [hH, List.length_set, rfM_len]
   have hH3 : H[3]? = some ⟨0, false, 1, [.mp M.length 0]⟩ := by rw [hH, List.getElem?_set_self (by rw [rfM_len]; omega)]
   have hHi : ∀ i, i ≠ 3 → H[i]? = (rfM M l)[i]? := fun i hi => by rw [hH, List.getElem?_set_ne (Ne.symm hi)]
   have hHm : H[M.length]? = some ⟨0, true, 1, [.tup (l.map entK)]⟩ := by rw [hHi _ (by omega)]; exact fm l
   have hHc : hltL (M.length + 2) H = true := by
    rw [hH]
    refine hltL_set (rfM_cl l hcl) ?_
    simp only [ltL, MV.lt, Bool.and_true, decide_eq_true_eq]; omega
   repeat (first | apply ef_seq | apply ef_nil | apply seqQ.normal | apply blockQ.normal)
   refine ef_give (by exact rfl) (seal_mp hH3 hHm (by omega) (entK_lt 0 l)) ?_
   obtain ⟨H2, hH2⟩ : ∃ H2, H2 = sM H M.length 3 (l.map entK) := ⟨_, rfl⟩
   rw [← hH2]
   have h2l : H2.length = M.length + 2 := by rw [hH2, sM_len, hHl]
   have h23 : H2[3]? = some ⟨0, false, 1, [.rm (l.map entK)]⟩ := by rw [hH2]; exact sM_j (by omega)
   have h2i : ∀ i, i ≠ M.length → i ≠ 3 → H2[i]? = (rfM M l)[i]? := fun i h1 h2 => by rw [hH2, sM_at h1 h2, hHi i h2]
   have h2c : hltL (M.length + 2) H2 = true := by rw [hH2]; exact sM_cl hHc (entK_lt _ l)
   have i8l : i8 < M.length := (List.getElem?_eq_some_iff.1 m8).1
   have g8 : H2[i8]? = some ⟨0, false, 1, [I64 row]⟩ := by rw [h2i i8 (by omega) n3]; exact f8 l
   have g9 := at_endC H2 ⟨0, false, 1, [I64 row]⟩
   repeat (first | (apply ef_bin; (iterate 3 exact rfl); (((with_reducible refine bin_sub (wrap_of ?_ ?_)) <;> omega))) | (apply ef_ldp; exact rfl; exact rfl; (assumption); exact rfl; (exact rfl); (exact rfl)) | (apply ef_newst; (iterate 3 exact rfl); (exact rfl); exact rfl) | apply ef_nil | apply seqQ.normal)
   (apply ef_st; (· exact rfl); (· exact rfl); (· exact rfl); (· exact g9); (· exact rfl); (· exact rfl); (· exact rfl); (· exact rfl))
   show Ef _ _ _ _ _ _ _ ((H2 ++ [(⟨0, false, 1, [I64 row]⟩ : MObj)]).set H2.length ⟨0, false, 1, [I64 ((row : Int) - 1)]⟩) _
   rw [set_endC]
   repeat (first | apply ef_nil)
   refine loopQ.normal _ _ ⟨(t + 1, H2 ++ [⟨0, false, 1, [I64 ((row : Int) - 1)]⟩], H2.length), ⟨?_, ?_⟩, ?_, ⟨by ((repeat (refine Hold.cons (by exact rfl) ?_)); exact Hold.nil), by ((repeat (refine Hold.cons (by exact rfl) ?_)); exact Hold.nil)⟩, .slot 8 (.ptr H2.length 0 0 0) (by simp) (by exact rfl) ?_⟩
   ·show t + 1 ≤ R.length - c
    omega
   ·show StR R C (.fn g q caps) (reachL R C.length P (t + 1)) (t + 1) (H2 ++ [⟨0, false, 1, [I64 ((row : Int) - 1)]⟩]) H2.length
    rw [← hl]
    have up : ∀ {i : Nat} {o : MObj}, H2[i]? = some o → (H2 ++ [(⟨0, false, 1, [I64 ((row : Int) - 1)]⟩ : MObj)])[i]? = some o := fun {i o} h => by
     rw [List.getElem?_append_left (List.getElem?_eq_some_iff.1 h).1]; exact h
    refine ⟨up (by rw [h2i 0 (by omega) (by omega)]; exact f0 l), up (by rw [h2i 1 (by omega) (by omega)]; exact f1 l), up h23, ?_, by omega, ?_, by simp; omega, fun h => absurd h (by omega), fun _ => by omega⟩
    ·rw [at_endC]
     rw [show (R.length : Int) - 1 - ((t + 1 : Nat) : Int) = (row : Int) - 1 by omega]
    ·have h5 := hltL_le (show M.length + 2 ≤ (H2 ++ [(⟨0, false, 1, [I64 ((row : Int) - 1)]⟩ : MObj)]).length by simp; omega) h2c
     unfold hltL at *
     rw [List.all_append, h5]
     rfl
   ·show R.length - c - (t + 1) < R.length - c - t
    omega
   ·show decide (H2.length < 5) = false
    rw [decide_eq_false_iff_not]; omega
 ·obtain rfl : t = R.length - c := by omega
  repeat (first | apply ef_seq | (apply ef_mv; exact rfl; exact rfl) | (apply ef_bin; (iterate 3 exact rfl); (exact cmp_f rfl (by simp only [cmpP]; omega))) | (apply ef_ldp; exact rfl; exact rfl; (assumption); exact rfl; (exact rfl); (exact rfl)) | apply ef_nil | apply seqQ.normal | apply loopQ.exit | apply ef_ret | apply ef_exit | apply seqQ.exit | apply blockQ.here | (apply ef_condf; exact rfl; (exact (rfl : false = false))))
  refine fin1 rfl (by exact rfl) ?_ rfl
  exact entK_lt 0 _
end Go.Proofs.YtnmgpbihknjdjaaGreatDoor

/- Chapter 9: is there a body? -/
namespace Go.Proofs.YtnmgpbihknjdjaaGreatDoor
open Go.RowKit
set_option linter.unusedVariables false
theorem ltS2 (R C : List (Int × Int)) (f : MV) (hf : f.lt 0 = true) : ltL 0 [encS R C, f] = true := by
 have h1 := encS_lt 0 R C
 show ((encS R C).lt 0 && (f.lt 0 && true)) = true
 rw [h1, hf]; rfl
theorem ltS3 (R C : List (Int × Int)) (c : Int) (f : MV) (hf : f.lt 0 = true) : ltL 0 [encS R C, I64 c, f] = true := by
 have h1 := encS_lt 0 R C
 show ((encS R C).lt 0 && ((I64 c).lt 0 && (f.lt 0 && true))) = true
 rw [h1, hf]; rfl
theorem MayB.lt {k : Nat} {f : MV} {P : Nat → Nat → Bool} {n : Nat} (h : MayB k f P n) : f.lt 0 = true := by
 obtain ⟨_, _, _, _, h, _⟩ := h; exact h
theorem reached_c (k : Nat) (R C : List (Int × Int)) (c : Nat) (f : MV) (P : Nat → Nat → Bool) (hR : R.length ≤ 5) (hc : c ≤ R.length) (hC : C.length ≤ 5) (hf : MayB (k + 4) f P R.length) (h : MHeap) :
  orA (k + 5) 169 [encS R C, I64 c, f] h = some (.rm ((reachL R C.length P (R.length - c)).map entK), h) := by
 have hl : (MV.rm ((reachL R C.length P (R.length - c)).map entK)).lt 0 = true := entK_lt 0 _
 have := callA (k := k + 4) (h := h) (args := [encS R C, I64 c, f]) (args' := [encS R C, I64 c, f]) (frzL_lt (ltS3 R C c f hf.lt)) rfl (reached_z k R C c f P hR hc hC hf) (by rw [ltS3 R C c f hf.lt]; show (MV.lt 0 _ && true) = true; rw [hl]; rfl) rfl
 simpa [shV, sh1] using this
def possB (R C : List (Int × Int)) (P : Nat → Nat → Bool) : Bool := (reachL R C.length P R.length).any (hasB C)
theorem mf_possible : MT.mf 149 = some ⟨17, [(.tmp 4)], (.seq (.reg [gO 2 (.box 2 (.s 0)), gO 4 (.mv cF)]) (.seq (.seq (.reg [gO 6 (.ld (some 2) (.s 2)), gO 7 (.mv (.s 1)), gO 8 (.call 169 [.s 6, (cI 0), .s 7])]) (.mr [4, 2] [4] 0 (.s 8) 9 10 11 (.block 1 (.seq (.reg [gO 12 (.ent (.s 9)), gO 13 (.ext (.s 12) 0), gO 5 (.new (.agg [(.lit (.int .i64 0)), (.lit (.int .i64 0)), (.lit (.int .i64 0)), (.lit (.int .i64 0)), (.lit (.int .i64 0))])), ⟨none, none, .st 5 (.s 5) (.s 13)⟩]) (.seq (.reg [gO 14 (.ld (some 2) (.s 2)), gO 15 (.ld (some 5) (.s 5)), gO 16 (.call 171 [.s 14, .s 15])]) (.cond (.s 16) (.seq (.reg [gO 4 (.mv cT)]) .ret) .skip)))))) (.seq (.reg [gO 4 (.mv cF)]) .ret)))⟩ := by kernel_rfl
set_option maxHeartbeats 4000000 in
theorem possible_z (k : Nat) (R C : List (Int × Int)) (f : MV) (P : Nat → Nat → Bool) (hR : R.length ≤ 5) (hC : C.length ≤ 5) (hf : MayB (k + 4) f P R.length) :
  runZ MT (orA (k + 5)) (itA (k + 5)) 4000000 149 [encS R C, f] [] = some (Bo (possB R C P), []) := by
 refine runZ_of mf_possible (by simp) ?_
 simp only [argsL]
 have hre : ∀ h, orA (k + 5) 169 [encS R C, I64 0, f] h = some (.rm ((reachL R C.length P R.length).map entK), h) := fun h => reached_c k R C 0 f P hR (Nat.zero_le _) hC hf h
 have hpo : possB R C P = (reachL R C.length P R.length).any (hasB C) := rfl
 obtain ⟨nok, _⟩ := reachL_ok R C.length P R.length
 generalize reachL R C.length P R.length = now at *
 repeat (first | apply ef_seq | (apply ef_mv; exact rfl; exact rfl) | (apply ef_ldp; exact rfl; exact rfl; (exact rfl); exact rfl; (exact rfl); (exact rd_2 rfl rfl)) | (apply ef_box; (iterate 4 exact rfl)) | apply ef_nil | apply seqQ.normal | (apply ef_call; exact rfl; ((repeat (apply XVs.cons; exact rfl)); exact XVs.nil); (with_reducible exact hre _)))
 refine ef_mr (fun m => hasB C (unK m)) (fun _ => [(4, Bo false), (2, .ptr 0 0 0 0)]) (fun _ => [⟨0, false, 2, [encS R C]⟩]) (if possB R C P then .ret else .normal) [(4, Bo (possB R C P))] [⟨0, false, 2, [encS R C]⟩] (by exact rfl) (entK_all now) rfl rfl rfl rfl (fun _ => rfl)
  (fun p l' _ _ => ⟨fun t ht => ?_, ?_, rfl⟩) (by ((repeat (refine Hold.cons (by exact rfl) ?_)); exact Hold.nil)) rfl (fun t ht => ?_) rfl ?_ rfl (fun hno => ?_) ?_ ?_
 ·simp only [List.mem_cons, List.not_mem_nil, or_false] at ht
  rcases ht with rfl | rfl
  ·exact ⟨_, rfl, rfl⟩
  ·exact ⟨_, rfl, rfl⟩
 ·show (((encS R C).lt 1 && true) && true) = true
  rw [encS_lt]; rfl
 ·simp only [List.mem_cons, List.not_mem_nil, or_false] at ht
  subst ht
  exact ⟨_, rfl, rfl⟩
 ·show (((encS R C).lt 1 && true) && true) = true
  rw [encS_lt]; rfl
 ·have hn : possB R C P = false := by
   rw [hpo, List.any_eq_false]
   intro u hu
   have := hno (entK u) (List.mem_map.2 ⟨u, hu, rfl⟩)
   rw [unK_ent] at this
   simp [this]
  rw [hn]
  exact ⟨rfl, fun p _ => ⟨by ((repeat (refine Hold.cons (by exact rfl) ?_)); exact Hold.nil), rfl⟩⟩
 ·intro p kk vv l' hpm hnh
  have hmem : MV.tup [kk, vv] ∈ now.map entK := hpm.mem_iff.1 (by simp)
  obtain ⟨u, hu, e⟩ := List.mem_map.1 hmem
  obtain ⟨hu5, _⟩ := nok u hu
  simp only [MV.tup.injEq, List.cons.injEq, and_true] at e
  obtain ⟨rfl, rfl⟩ := e
  have hun : unK (.tup [keyA u, .agg []]) = u := unK_ent u
  obtain ⟨a, b, c', d, e', rfl⟩ : ∃ a b c d e, u = [a, b, c, d, e] := by
   match u, hu5 with
   | [a, b, c, d, e], _ => exact ⟨a, b, c, d, e, rfl⟩
  have hcon := has_c (k + 3) R C [a, b, c', d, e'] rfl hC
  cases hh : hasB C [a, b, c', d, e'] <;> rw [hh] at hcon
  ·repeat (first | apply ef_seq | (apply ef_ldp; exact rfl; exact rfl; (exact rfl); exact rfl; (exact rfl); (first | exact rd_2 rfl rfl | exact rd_5 rfl rfl rfl rfl rfl)) | (apply ef_ext; (iterate 3 exact rfl)) | (apply ef_newst; (iterate 3 exact rfl); (exact rfl); exact rfl) | (apply ef_ent; exact rfl; exact rfl) | apply ef_nil | apply seqQ.normal | apply ef_block)
   (apply ef_call; (· exact rfl); (· ((repeat (apply XVs.cons; exact rfl)); exact XVs.nil)); · exact hcon _)
   repeat (first | apply ef_nil | apply seqQ.normal | apply blockQ.normal | apply ef_skip | (apply ef_condf; exact rfl; (exact (rfl : false = false))))
   refine mrQ.normal _ _ ⟨by rw [hun]; exact hh, ⟨_, _, by exact rfl⟩, by ((repeat (refine Hold.cons (by exact rfl) ?_)); exact Hold.nil), rfl⟩
  ·have hp1 : possB R C P = true := by
    rw [hpo, List.any_eq_true]
    exact ⟨_, hu, hh⟩
   rw [hp1]
   repeat (first | apply ef_seq | (apply ef_ldp; exact rfl; exact rfl; (exact rfl); exact rfl; (exact rfl); (first | exact rd_2 rfl rfl | exact rd_5 rfl rfl rfl rfl rfl)) | (apply ef_ext; (iterate 3 exact rfl)) | (apply ef_newst; (iterate 3 exact rfl); (exact rfl); exact rfl) | (apply ef_ent; exact rfl; exact rfl) | apply ef_nil | apply seqQ.normal | apply ef_block)
   (apply ef_call; (· exact rfl); (· ((repeat (apply XVs.cons; exact rfl)); exact XVs.nil)); · exact hcon _)
   repeat (first | apply ef_seq | (apply ef_mv; exact rfl; exact rfl) | apply ef_nil | apply seqQ.normal | apply ef_ret | apply blockQ.ret | (apply ef_condt; exact rfl; (exact (rfl : true = true))))
   exact mrQ.ret _ _ ⟨by rw [hun]; exact hh, rfl, by ((repeat (refine Hold.cons (by exact rfl) ?_)); exact Hold.nil), rfl⟩
 ·cases possB R C P
  ·repeat (first | apply ef_seq | (apply ef_mv; exact rfl; exact rfl) | apply ef_nil | apply seqQ.normal | apply ef_ret)
   (refine fin1 rfl (by exact rfl) rfl ?_)
   rfl
  ·repeat (first | apply seqQ.ret)
   (refine fin1 rfl (by exact rfl) rfl ?_)
   rfl
theorem possible_c (k : Nat) (R C : List (Int × Int)) (f : MV) (P : Nat → Nat → Bool) (hR : R.length ≤ 5) (hC : C.length ≤ 5) (hf : MayB (k + 4) f P R.length) (h : MHeap) :
  orA (k + 6) 149 [encS R C, f] h = some (Bo (possB R C P), h) := callL (args' := [encS R C, f]) (frzL_lt (ltS2 R C f hf.lt)) rfl (possible_z k R C f P hR hC hf)
end Go.Proofs.YtnmgpbihknjdjaaGreatDoor

/- Chapter 9: which sets may be; the shadow of the examples. -/
namespace Go.Proofs.YtnmgpbihknjdjaaGreatDoor
open Go.RowKit
set_option linter.unusedVariables false
theorem any_c (k : Nat) (row set : Nat) (h : MHeap) : orA (k + 1) 170 [I64 row, I64 set] h = some (Bo true, h) := callL (args' := [I64 row, I64 set]) rfl rfl (by kernel_rfl)
theorem may_any (k n : Nat) : MayB (k + 1) (.fn 170 0 []) (fun _ _ => true) n := ⟨_, _, _, rfl, rfl, fun row set _ _ h => any_c k row set h⟩
def prefP (w : List Nat) (row set : Nat) : Bool := match w[row]? with
 | none => true
 | some s => s == set
abbrev natL (w : List Nat) : List MV := w.map fun s : Nat => I64 (s : Int)
theorem natL_lt (n : Nat) (w : List Nat) : ltL n (natL w) = true := ltL_iff'.2 fun m hm => by obtain ⟨e, _, rfl⟩ := List.mem_map.1 hm; rfl
theorem mf_pre : MT.mf 150 = some ⟨18, [(.tmp 5)], (.seq (.reg [gO 5 (.mv cF)]) (.seq (.reg [gO 6 (.mv (.s 0)), gO 7 (.ld none (.s 2)), gO 8 (.len (.s 7)), gO 9 (.bin .geq (.s 6) (.s 8)), gO 10 (.mv (.s 9)), ⟨some (10, false), some 11, .ld none (.s 2)⟩, ⟨some (10, false), some 12, .mv (.s 0)⟩, ⟨some (10, false), some 13, .ia 1 (.s 11) (.s 12)⟩, ⟨some (10, false), some 14, .ld none (.s 13)⟩, ⟨some (10, false), some 15, .mv (.s 1)⟩, ⟨some (10, false), some 16, .bin .eql (.s 14) (.s 15)⟩, gO 17 (.pick (.s 10) cT (.s 16)), gO 5 (.mv (.s 17))]) .ret))⟩ := by kernel_rfl
theorem pre_z (k : Nat) (w : List Nat) (row set : Nat) (hr : row < 5) : runZ MT (orA k) (itA k) 4000000 150 [I64 row, I64 set, .rp (.sl (natL w)) 0] [] = some (Bo (prefP w row set), []) := by
 refine runZ_of mf_pre (by simp) ?_
 simp only [argsL]
 have hcl : (MV.sl (natL w)).slen = some w.length := by simp [MV.slen]
 unfold prefP
 cases hw : w[row]? with
 | none =>
  have hle : w.length ≤ row := List.getElem?_eq_none_iff.1 hw
  repeat (first | apply ef_seq | (apply ef_mv; exact rfl; exact rfl) | (apply ef_bin; (iterate 3 exact rfl); (exact cmp_t rfl (by first | exact rfl | (simp only [cmpP]; omega)))) | (apply ef_gn; exact rfl; (exact (rfl : true = true)); exact rfl) | (apply ef_pick; (iterate 3 exact rfl)) | (apply ef_len; exact rfl; exact rfl; (assumption)) | (apply ef_ldr; exact rfl; exact rfl; (exact rfl)) | apply ef_nil | apply seqQ.normal | apply ef_ret)
  (refine fin1 rfl (by exact rfl) rfl ?_)
  rfl
 | some s =>
  have hlt := (List.getElem?_eq_some_iff.1 hw).1
  have hat : (natL w)[(row : Int).toNat]? = some (I64 s) := by simp [hw]
  by_cases e : s = set
  ·subst e
   repeat (first | apply ef_seq | (apply ef_mv; exact rfl; exact rfl) | (apply ef_bin; (iterate 3 exact rfl); (first | exact cmp_t rfl (by first | exact rfl | (simp only [cmpP]; omega)) | exact cmp_f rfl (by simp only [cmpP]; omega))) | (apply ef_gy; exact rfl; (exact (rfl : false = false))) | (apply ef_pick; (iterate 3 exact rfl)) | (apply ef_len; exact rfl; exact rfl; (assumption)) | (apply ef_ldr; exact rfl; exact rfl; (exact rfl)) | (apply ef_ias; (iterate 3 exact rfl); (omega); assumption; exact rfl) | apply ef_nil | apply seqQ.normal | apply ef_ret)
   (refine fin1 rfl (by exact rfl) rfl ?_)
   simp
  ·have : (s : Int) ≠ set := by omega
   repeat (first | apply ef_seq | (apply ef_mv; exact rfl; exact rfl) | (apply ef_bin; (iterate 3 exact rfl); (exact cmp_f rfl (by simp only [cmpP]; omega))) | (apply ef_gy; exact rfl; (exact (rfl : false = false))) | (apply ef_pick; (iterate 3 exact rfl)) | (apply ef_len; exact rfl; exact rfl; (assumption)) | (apply ef_ldr; exact rfl; exact rfl; (exact rfl)) | (apply ef_ias; (iterate 3 exact rfl); (omega); assumption; exact rfl) | apply ef_nil | apply seqQ.normal | apply ef_ret)
   (refine fin1 rfl (by exact rfl) rfl ?_)
   simp [e]
theorem may_pre (k : Nat) (w : List Nat) (n : Nat) (hn : n ≤ 5) : MayB (k + 1) (.fn 150 0 [.rp (.sl (natL w)) 0]) (prefP w) n :=
 ⟨_, _, _, rfl, by show (ltL 0 (natL w) && true) = true; rw [natL_lt]; rfl, fun row set hr _ h => callL (args' := [I64 row, I64 set, .rp (.sl (natL w)) 0]) (frzL_lt (by show (true && (true && (ltL 0 (natL w) && true))) = true; rw [natL_lt]; rfl)) rfl (pre_z k w row set (by omega))⟩
theorem possible_f (k : Nat) (R C : List (Int × Int)) (f : MV) (P : Nat → Nat → Bool) (hR : R.length ≤ 5) (hC : C.length ≤ 5) (hf : MayB (k + 4) f P R.length) {args : List MV} {h : MHeap} (ha : args.mapM (frz 0 [] h 8) = some [encS R C, f]) :
  orA (k + 6) 149 args h = some (Bo (possB R C P), h) := callL ha rfl (possible_z k R C f P hR hC hf)
abbrev shR : List (Int × Int) := [(1, 1), (2, 2)]
abbrev shC : List (Int × Int) := [(1, 2), (1, 1), (0, 1)]
theorem shadow_x (k : Nat) : runZ MT (orA k) (itA k) 4000000 97 [] [] = some (encS shR shC, []) := by kernel_rfl
theorem check_x (k : Nat) : runZ MT (orA (k + 5)) (itA (k + 5)) 4000000 58 [encS shR shC] [] = some (.tup [I64 0, I64 0], []) := by kernel_rfl
theorem poss_x : possB shR shC (fun _ _ => true) = true := by kernel_rfl
theorem layer_x (k : Nat) : runZ MT (orA (k + 5)) (itA (k + 5)) 4000000 96 [] [] = some (.agg [I64 100, I64 (-1), I64 2, I64 1, I64 2], []) := by kernel_rfl
end Go.Proofs.YtnmgpbihknjdjaaGreatDoor

/- Chapter 9: the first body. -/
namespace Go.Proofs.YtnmgpbihknjdjaaGreatDoor
open Go.RowKit
set_option linter.unusedVariables false
section
variable {n : Nat}
theorem impR_lt0 : ∀ {v w : MV}, v.lt 0 = true → w.lt 0 = true → impIds 0 [v, w] = [] := fun {v w} h1 h2 => by
 cases v <;> first | (simp [MV.lt] at h1; done) | (cases w <;> first | (simp [MV.lt] at h2; done) | simp [impIds])
theorem resC {A : Sl} {h : MHeap} {t id i off g : Nat} {ag : Option Nat} {o : MObj} {e v : MV} (h1 : look A t = some (.ptr id i off g)) (h2 : h[id]? = some o) (h3 : o.g = g) (h4 : o.es[i]? = some e) (h5 : rdCells e.cells off ag = some v) : ResV A h (.cell t ag) v := ⟨id, i, off, g, o, e, h1, h2, h3, h4, h5⟩
theorem finR2 {x : MX2} {A : Sl} {h : MHeap} {r1 r2 : MRes} {v w m : MV} (hx : outX x = true) (h1 : ResV A h r1 v) (h2 : ResV A h r2 w) (l1 : v.lt 0 = true) (l2 : w.lt 0 = true) (hm : MV.tup [v, w] = m) : FinF [r1, r2] m [] x A h := by
 subst hm
 have hi := impR_lt0 l1 l2
 refine ⟨hx, [v, w], [v, w], ⟨v, [w], rfl, h1, w, [], rfl, h2, rfl⟩, by rw [hi]; simp, ?_, rfl⟩
 rw [hi]
 cases v <;> first | (simp [MV.lt] at l1; done) | (cases w <;> first | (simp [MV.lt] at l2; done) | simp [expL, frz, l1, l2])
end
theorem check_xc (k : Nat) (h : MHeap) : orA (k + 6) 58 [encS shR shC] h = some (.tup [I64 0, I64 0], h) := by
 have := callA (k := k + 5) (h := h) (args := [encS shR shC]) (args' := [encS shR shC]) rfl rfl (check_x k) rfl rfl
 simpa [shV, sh1] using this
theorem mf_open : MT.mf 146 = some ⟨21, [(.cell 2 (some 2)), (.tmp 3)], (.seq (.reg [gO 1 (.box 2 (.s 0)), gO 2 (.new (.agg [(.lit (.slice none 0 0)), (.lit (.slice none 0 0))])), gO 3 (.mv (cI 0))]) (.seq (.reg [gO 8 (.ld (some 2) (.s 1)), gO 9 (.call 58 [.s 8]), gO 7 (.mv (.s 9)), gO 10 (.ext (.s 7) 0), gO 11 (.ext (.s 7) 1), gO 4 (.mv (.s 10)), gO 5 (.mv (.s 11))]) (.seq (.reg [gO 12 (.ld (some 2) (.s 1)), gO 13 (.build [(.lit (.slice none 0 0)), (.lit (.slice none 0 0))] [(0, (2, (.s 12)))]), gO 6 (.new (.agg [(.lit (.slice none 0 0)), (.lit (.slice none 0 0))])), ⟨none, none, .st 2 (.s 6) (.s 13)⟩]) (.seq (.seq (.reg [gO 14 (.mv (.s 5)), gO 15 (.bin .eql (.s 14) (cI 0))]) (.cond (.s 15) (.reg [gO 16 (.ld (some 2) (.s 6)), gO 17 (.call 149 [.s 16, (.c (.fn 170 0 []))]), gO 18 (.call 105 [.s 17, (cI 12)]), gO 5 (.mv (.s 18))]) .skip)) (.seq (.reg [gO 19 (.ld (some 2) (.s 6)), gO 20 (.mv (.s 5)), ⟨none, none, .st 2 (.s 2) (.s 19)⟩, gO 3 (.mv (.s 20))]) .ret)))))⟩ := by kernel_rfl
theorem open_z (k : Nat) : runZ MT (orA (k + 6)) (itA (k + 6)) 4000000 146 [encS shR shC] [] = some (.tup [encS shR shC, I64 0], []) := by
 refine runZ_of mf_open (by simp) ?_
 simp only [argsL]
 have hp : ∀ h, orA (k + 6) 149 [encS shR shC, .fn 170 0 []] h = some (Bo true, h) := fun h => by
  have h1 := possible_c k shR shC (.fn 170 0 []) (fun _ _ => true) (by decide) (by decide) (may_any (k + 3) _) h
  rw [poss_x] at h1
  exact h1
 repeat (first | apply ef_seq | (apply ef_mv; exact rfl; exact rfl) | (apply ef_ldp; exact rfl; exact rfl; (exact rfl); exact rfl; (exact rfl); (exact rd_2 rfl rfl)) | (apply ef_box; (iterate 4 exact rfl)) | (apply ef_new; exact rfl) | apply ef_nil | apply seqQ.normal)
 (apply ef_call; (· exact rfl); (· ((repeat (apply XVs.cons; exact rfl)); exact XVs.nil)); · exact check_xc k _)
 repeat (first | apply ef_seq | (apply ef_mv; exact rfl; exact rfl) | (apply ef_bin; (iterate 3 exact rfl); (exact cmp_t rfl (by first | exact rfl | (simp only [cmpP]; omega)))) | (apply ef_ldp; exact rfl; exact rfl; (exact rfl); exact rfl; (exact rfl); (exact rd_2 rfl rfl)) | (apply ef_ext; (iterate 3 exact rfl)) | (apply ef_newst; (iterate 3 exact rfl); (exact rfl); exact rfl) | (apply ef_build; exact rfl; (repeat (apply XVs.cons; exact rfl)); exact XVs.nil; exact rfl; exact rfl) | apply ef_nil | apply seqQ.normal | (apply ef_condt; exact rfl; (exact (rfl : true = true))))
 (apply ef_call; (· exact rfl); (· ((repeat (apply XVs.cons; exact rfl)); exact XVs.nil)); · exact hp _)
 repeat (fail)
 (apply ef_call; (· exact rfl); (· ((repeat (apply XVs.cons; exact rfl)); exact XVs.nil)); · exact unless_c (k + 5) true 12 _ (e := 0) rfl)
 repeat (first | apply ef_seq | (apply ef_mv; exact rfl; exact rfl) | (apply ef_ldp; exact rfl; exact rfl; (exact rfl); exact rfl; (exact rfl); (exact rd_2 rfl rfl)) | (apply ef_st; (iterate 6 exact rfl); (exact rfl); exact rfl) | apply ef_nil | apply seqQ.normal | apply ef_ret)
 refine finR2 (v := encS shR shC) (w := I64 0) rfl ?_ (by exact rfl) rfl rfl rfl
 apply resC <;> exact rfl
theorem open_xc (k : Nat) (h : MHeap) : orA (k + 7) 146 [encS shR shC] h = some (.tup [encS shR shC, I64 0], h) := by
 have := callA (k := k + 6) (h := h) (args := [encS shR shC]) (args' := [encS shR shC]) rfl rfl (open_z k) rfl rfl
 simpa [shV, sh1] using this
theorem ef_eqns {O : Oracle} {I : Iter} {N n : Nat} {lk : Nat → Bool} {A : Sl} {h : MHeap} {Q : MX2 → Sl → MHeap → Prop} {os : List GO} {t : Nat} {neg : Bool} {x : MX} {e : MV} {es : List MV} (ht : Nat.blt t n = true) (hx : XV A x (.sl (e :: es))) (hE : Ef O I N n lk (.reg os) ((t, .lit (.bool neg)) :: A) h Q) : Ef O I N n lk (.reg (⟨none, some t, .eqn neg x⟩ :: os)) A h Q :=
 ef_op (fun S HS => by simp only [evO, HS.x hx]) ht hE
theorem natL_sOk (w : List Nat) : (natL w).all (MV.sOk 1) = true := by
 rw [List.all_eq_true]
 intro m hm
 obtain ⟨e, _, rfl⟩ := List.mem_map.1 hm
 rfl
theorem mf_clone : MT.mf 148 = some ⟨8, [(.tmp 2)], (.seq (.reg [gO 2 (.nil0 1)]) (.seq (.seq (.reg [gO 3 (.mv (.s 0)), gO 4 (.eqn false (.s 3))]) (.cond (.s 4) (.seq (.reg [gO 2 (.nil0 1)]) .ret) .skip)) (.seq (.reg [gO 5 (.bsl (.lit (.int .i64 0)) 1 0 []), gO 6 (.mv (.s 0)), gO 7 (.app 1 (.s 5) (.s 6)), gO 2 (.mv (.s 7))]) .ret)))⟩ := by kernel_rfl
theorem clone_z (k : Nat) (s : Nat) (w : List Nat) (hl : (s :: w).length ≤ 1000) : runZ MT (orA k) (itA k) 4000000 148 [.sl (natL (s :: w))] [] = some (.arr 0 0 (s :: w).length 0, [⟨0, false, 1, natL (s :: w)⟩]) := by
 have q1 := natL_sOk (s :: w)
 refine runZ_of mf_clone (by simp) ?_
 simp only [argsL]
 repeat (first | apply ef_seq | (apply ef_mv; exact rfl; exact rfl) | (apply ef_nil0; exact rfl) | apply ef_nil | apply seqQ.normal)
 refine ef_eqns (by exact rfl) (by exact rfl) ?_
 repeat (first | apply ef_seq | (apply ef_mv; exact rfl; exact rfl) | (apply ef_bsl; exact rfl; (repeat (apply XVs.cons; exact rfl)); exact XVs.nil; exact rfl) | apply ef_nil | apply seqQ.normal | apply ef_skip | (apply ef_condf; exact rfl; (exact (rfl : false = false))))
 (apply ef_app; (· exact rfl); (· exact rfl); (· exact rfl); (· exact rfl); (· exact rfl); (· exact rfl); (· exact rfl); (· exact rfl); (· (simp at hl ⊢; omega)); (· exact q1); (· exact rfl))
 repeat (first | (apply ef_mv; exact rfl; exact rfl) | apply ef_nil | apply seqQ.normal | apply ef_ret)
 (apply fin_arr; (· exact rfl); (· exact rfl); (· exact rfl); (· exact rfl); (· simp); (· (exact natL_lt 0 (s :: w))); (· (simp; rw [List.take_of_length_le (by simp)])); (· exact rfl); (· exact rfl); (· (simp)))
end Go.Proofs.YtnmgpbihknjdjaaGreatDoor

/- Holes, layers, cuts: plain laws. -/
namespace Go.Proofs.YtnmgpbihknjdjaaGreatDoor
open Go.RowKit
set_option linter.unusedVariables false
structure Ho where
 e : Int
 d : Int
 b : Int
structure Ly where
 dp : Int
 a : Int
 b : Int
 c : Int
 d : Int
end Go.Proofs.YtnmgpbihknjdjaaGreatDoor

/- Contracts: fractions. -/
namespace Go.Proofs.YtnmgpbihknjdjaaGreatDoor
open Go.RowKit
set_option linter.unusedVariables false
end Go.Proofs.YtnmgpbihknjdjaaGreatDoor

/- Contracts: holes, layers, cuts. -/
namespace Go.Proofs.YtnmgpbihknjdjaaGreatDoor
open Go.RowKit
set_option linter.unusedVariables false
end Go.Proofs.YtnmgpbihknjdjaaGreatDoor

/- Shapes of holes, layers, fractions, ranges. -/
namespace Go.Proofs.YtnmgpbihknjdjaaGreatDoor
open Go.ChangeShapes Go.WideShapes Go.ChangeAt Go.RowKit
theorem fits_i64r {m : MV} (h : Fits i64Sh m) : ∃ n : Int, m = I64 n ∧ n ≤ 9223372036854775807 := by
 obtain ⟨n, rfl, hw⟩ := fits_int h
 refine ⟨n, rfl, ?_⟩
 simp [Lit.wf] at hw
 omega
def rgSh : Sh := .agg [i64Sh, i64Sh]
theorem fits_rg {m : MV} (h : Fits rgSh m) : ∃ a b : Int, m = .agg [I64 a, I64 b] := by
 obtain ⟨ms, h', rfl⟩ := fits_agg h
 obtain ⟨m1, r1, rfl, h1, h⟩ := fitsL_cons h'
 obtain ⟨m2, r2, rfl, h2, h⟩ := fitsL_cons h
 obtain rfl := fitsL_nil h
 obtain ⟨a, rfl, -⟩ := fits_i64r h1
 obtain ⟨b, rfl, -⟩ := fits_i64r h2
 exact ⟨a, b, rfl⟩
end Go.Proofs.YtnmgpbihknjdjaaGreatDoor

/- Chapter 9: the first body. -/
namespace Go.Proofs.YtnmgpbihknjdjaaGreatDoor
open Go.RowKit
set_option linter.unusedVariables false
def pickB (R C : List (Int × Int)) (w : List Nat) (i : Nat) : Option Nat := (rowSets C.length (R.getD i (0, 0)).1 (R.getD i (0, 0)).2).find? fun s => possB R C (prefP (w ++ [s]))
def bodyB (R C : List (Int × Int)) : Nat → List Nat
 | 0 => []
 | i + 1 => bodyB R C i ++ [(pickB R C (bodyB R C i) i).getD 0]
theorem bodyB_len (R C : List (Int × Int)) : ∀ i, (bodyB R C i).length = i
 | 0 => rfl
 | i + 1 => by simp [bodyB, bodyB_len R C i]
theorem natL_pure : ∀ w : List Nat, pureL (natL w) = true
 | [] => rfl
 | s :: w => by
  show (true && pureL (natL w)) = true
  rw [natL_pure w]; rfl
inductive RowAt (M : MHeap) : MV → List Nat → Prop
 | none : RowAt M (.lit (.slice none 0 0)) []
 | some (id g : Nat) (w : List Nat) : w ≠ [] → M[id]? = some ⟨g, false, 1, natL w⟩ → RowAt M (.arr id 0 w.length g) w
theorem clone_c (k : Nat) {M : MHeap} {v : MV} {w : List Nat} (hv : RowAt M v w) (hl : w.length ≤ 1000) : orA (k + 1) 148 [v] M = some (.arr M.length 0 w.length 0, M ++ [⟨0, w.isEmpty, 1, natL w⟩]) := by
 cases hv with
 | none =>
  have hz : runZ MT (orA k) (itA k) 4000000 148 [.lit (.slice none 0 0)] [] = some (.arr 0 0 0 0, [⟨0, true, 1, []⟩]) := by kernel_rfl
  have := callA (k := k) (h := M) (args := [.lit (.slice none 0 0)]) (args' := [.lit (.slice none 0 0)]) rfl rfl hz rfl rfl
  simpa [shV, sh1] using this
 | some id g w hne hM =>
  obtain ⟨s, w', rfl⟩ : ∃ s w', w = s :: w' := by
   cases w with
   | nil => exact absurd rfl hne
   | cons s w' => exact ⟨s, w', rfl⟩
  have hf : [MV.arr id 0 (s :: w').length g].mapM (frz 0 [] M 8) = some [.sl (natL (s :: w'))] := by
   have h1 : frz 0 [] M 8 (.arr id 0 (s :: w').length g) = some (.sl (natL (s :: w'))) := by
    have h2 := natL_lt 0 (s :: w')
    have h3 : ((natL (s :: w')).drop 0).take (s :: w').length = natL (s :: w') := by rw [List.drop_zero, List.take_of_length_le (by simp)]
    simp only [frz, MV.lt, Nat.not_lt_zero, decide_false, Bool.false_eq_true, if_false, List.contains_nil, hM, List.length_map, Nat.zero_add, Nat.le_refl, and_self, if_true, h2, h3]
   simp only [List.mapM_cons, List.mapM_nil, h1]; rfl
  have := callA (k := k) (h := M) hf rfl (clone_z k s w' hl) rfl (by have h2 := natL_lt 0 (s :: w'); simp only [okH, List.all_cons, List.all_nil, Bool.and_true, h2, Bool.true_and]; rw [Bool.or_eq_true]; exact .inr (natL_pure _))
  simpa [shV, sh1] using this
def tryM (M : MHeap) (w : List Nat) (s : Nat) : MHeap := M ++ [⟨1, false, 1, natL (w ++ [s])⟩, ⟨0, false, 1, [I64 s]⟩, ⟨0, false, 1, [.arr M.length 0 (w.length + 1) 1]⟩]
theorem tryM_0 (M : MHeap) (w : List Nat) (s : Nat) : (tryM M w s)[M.length]? = some ⟨1, false, 1, natL (w ++ [s])⟩ := by
 unfold tryM; rw [List.getElem?_append_right (Nat.le_refl _)]; simp
theorem tryM_2 (M : MHeap) (w : List Nat) (s : Nat) : (tryM M w s)[M.length + 2]? = some ⟨0, false, 1, [.arr M.length 0 (w.length + 1) 1]⟩ := by
 unfold tryM; rw [List.getElem?_append_right (by omega)]; simp
theorem tryM_at {M : MHeap} {w : List Nat} {s i : Nat} {o : MObj} (h : M[i]? = some o) : (tryM M w s)[i]? = some o := by
 unfold tryM; rw [List.getElem?_append_left (List.getElem?_eq_some_iff.1 h).1, h]
theorem tryM_cl {M : MHeap} (w : List Nat) (s : Nat) (hc : hltL M.length M = true) : hltL (M.length + 3) (tryM M w s) = true := by
 have h1 := hltL_le (show M.length ≤ M.length + 3 by omega) hc
 unfold tryM hltL at *
 rw [List.all_append, h1]
 simp only [List.all_cons, List.all_nil, ltL, MV.lt, natL_lt, Bool.and_true, Bool.true_and, decide_eq_true_eq]
 omega
theorem frz_try (M : MHeap) (w : List Nat) (s g : Nat) (R C : List (Int × Int)) : [encS R C, .fn g 0 [.ptr (M.length + 2) 0 0 0]].mapM (frz 0 [] (tryM M w s) 8) = some [encS R C, .fn g 0 [.rp (.sl (natL (w ++ [s]))) 0]] := by
 have h0 := encS_lt 0 R C
 have h2 := natL_lt 0 (w ++ [s])
 have h3 : ((natL (w ++ [s])).drop 0).take (w.length + 1) = natL (w ++ [s]) := by rw [List.drop_zero, List.take_of_length_le (by simp)]
 have hl : 0 + (w.length + 1) ≤ (natL (w ++ [s])).length := by simp
 have e0 : frz 0 [] (tryM M w s) 8 (encS R C) = some (encS R C) := frz_lt h0
 have e1 : frz 0 [] (tryM M w s) 6 (.arr M.length 0 (w.length + 1) 1) = some (.sl (natL (w ++ [s]))) := by
  simp only [frz, MV.lt, Nat.not_lt_zero, decide_false, Bool.false_eq_true, if_false, List.contains_nil, tryM_0, hl, and_self, if_true, h2, h3]
 have e2 : frz 0 [] (tryM M w s) 7 (.ptr (M.length + 2) 0 0 0) = some (.rp (.sl (natL (w ++ [s]))) 0) := by
  have e3 : frz 0 [] (tryM M w s) 7 (.ptr (M.length + 2) 0 0 0) = (match (tryM M w s)[M.length + 2]? with
   | some o => if o.g = 0 then match o.es[0]? with
     | some e => if e.lt 0 then some (.rp e 0) else (frz 0 [] (tryM M w s) 6 e).map fun e' => .rp e' 0
     | none => none
    else none
   | none => none) := rfl
  rw [e3, tryM_2]
  simp only [if_true, List.getElem?_cons_zero]
  have e4 : (MV.arr M.length 0 (w.length + 1) 1).lt 0 = false := by simp [MV.lt]
  rw [e4, e1]; rfl
 have e5 : frz 0 [] (tryM M w s) 8 (.fn g 0 [.ptr (M.length + 2) 0 0 0]) = some (.fn g 0 [.rp (.sl (natL (w ++ [s]))) 0]) := by
  have e6 : frz 0 [] (tryM M w s) 8 (.fn g 0 [.ptr (M.length + 2) 0 0 0]) = ([MV.ptr (M.length + 2) 0 0 0].mapM (frz 0 [] (tryM M w s) 7)).map (.fn g 0) := rfl
  rw [e6]
  simp only [List.mapM_cons, List.mapM_nil, e2]; rfl
 simp only [List.mapM_cons, List.mapM_nil, e0, e5]; rfl
structure StB (R C : List (Int × Int)) (w : List Nat) (M : MHeap) : Prop where
 m0 : M[0]? = some ⟨0, false, 2, [encS R C]⟩
 m1 : M[2]? = some ⟨0, false, 2, [encS R C]⟩
 m2 : ∃ v, M[3]? = some ⟨0, false, 1, [v]⟩ ∧ RowAt M v w
 cl : hltL M.length M = true
theorem mf_body : MT.mf 62 = some ⟨39, [(.tmp 2), (.tmp 3)], (.seq (.reg [gO 1 (.box 2 (.s 0)), gO 2 (.nil0 1), gO 3 (.mv (cI 0))]) (.seq (.reg [gO 11 (.ld (some 2) (.s 1)), gO 12 (.call 146 [.s 11]), gO 10 (.mv (.s 12)), gO 13 (.ext (.s 10) 0), gO 14 (.ext (.s 10) 1), gO 4 (.new (.agg [(.lit (.slice none 0 0)), (.lit (.slice none 0 0))])), ⟨none, none, .st 2 (.s 4) (.s 13)⟩, gO 5 (.mv (.s 14))]) (.seq (.seq (.reg [gO 15 (.mv (.s 5)), gO 16 (.bin .neq (.s 15) (cI 0))]) (.cond (.s 16) (.seq (.reg [gO 17 (.mv (.s 5)), gO 2 (.nil0 1), gO 3 (.mv (.s 17))]) .ret) .skip)) (.seq (.reg [gO 6 (.new (.lit (.slice none 0 0)))]) (.seq (.seq (.reg [gO 18 (.fa 0 (.s 1)), gO 19 (.ld none (.s 18)), gO 20 (.len (.s 19)), gO 21 (.mv (cI 0))]) (.block 0 (.loop [21, 20, 4, 6] (.seq (.reg [gO 22 (.bin .lss (.s 21) (.s 20))]) (.seq (.cond (.s 22) .skip (.exit 0)) (.seq (.block 1 (.seq (.reg [gO 23 (.mv (.s 21)), gO 7 (.mv (.s 23))]) (.seq (.reg [gO 24 (.ld (some 2) (.s 4)), gO 25 (.mv (.s 7)), gO 26 (.call 147 [.s 24, .s 25])]) (.block 2 (.rf [6, 4] (.s 26) [27] (.reg [gO 8 (.mv (.s 27))]) (.block 3 (.seq (.reg [gO 28 (.ld none (.s 6)), gO 29 (.call 148 [.s 28]), gO 30 (.mv (.s 8)), gO 31 (.bsl (.lit (.int .i64 0)) 1 1 [(0, (.s 30))]), gO 32 (.app 1 (.s 29) (.s 31)), gO 9 (.new (.lit (.slice none 0 0))), ⟨none, none, .st 1 (.s 9) (.s 32)⟩]) (.seq (.reg [gO 33 (.ld (some 2) (.s 4)), gO 34 (.mf 150 0 [.s 9]), gO 35 (.call 149 [.s 33, .s 34])]) (.cond (.s 35) (.seq (.reg [gO 36 (.ld none (.s 9)), ⟨none, none, .st 1 (.s 6) (.s 36)⟩]) (.exit 2)) .skip))))))))) (.reg [gO 37 (.bin .add (.s 21) (cI 1)), gO 21 (.mv (.s 37))]))))))) (.seq (.reg [gO 38 (.ld none (.s 6)), gO 2 (.mv (.s 38)), gO 3 (.mv (cI 0))]) .ret))))))⟩ := by kernel_rfl
set_option maxHeartbeats 4000000 in
theorem body_z (k : Nat) (R C : List (Int × Int)) (hR : R.length ≤ 5) (hC : C.length ≤ 5) (hop : ∀ h, orA (k + 7) 146 [encS R C] h = some (.tup [encS R C, I64 0], h)) (hpk : ∀ i, i < R.length → (pickB R C (bodyB R C i) i).isSome = true) (hne : 0 < R.length) :
  runZ MT (orA (k + 7)) (itA (k + 7)) 4000000 62 [encS R C] [] = some (.tup [.arr 0 0 R.length 0, I64 0], [⟨0, false, 1, natL (bodyB R C R.length)⟩]) := by
 refine runZ_of mf_body (by simp) ?_
 simp only [argsL]
 have hrl : (MV.sl (R.map encP)).slen = some R.length := by simp [MV.slen]
 repeat (first | apply ef_seq | (apply ef_mv; exact rfl; exact rfl) | (apply ef_bin; (iterate 3 exact rfl); (exact cmp_f rfl (by simp only [cmpP]; omega))) | (apply ef_len; exact rfl; exact rfl; (assumption)) | (apply ef_ldp; exact rfl; exact rfl; (exact rfl); exact rfl; (exact rfl); (first | exact rd_2 rfl rfl | exact rfl)) | (apply ef_fap; exact rfl; exact rfl) | (apply ef_ext; (iterate 3 exact rfl)) | (apply ef_box; (iterate 4 exact rfl)) | (apply ef_newst; (iterate 3 exact rfl); (exact rfl); exact rfl) | (apply ef_new; exact rfl) | (apply ef_nil0; exact rfl) | apply ef_nil | apply seqQ.normal | apply ef_block | apply ef_skip | (apply ef_condf; exact rfl; (exact (rfl : false = false))) | (apply ef_call; exact rfl; ((repeat (apply XVs.cons; exact rfl)); exact XVs.nil); (with_reducible exact hop _)))
 refine ef_loopg (α := Nat × MHeap) (fun a => a.1 ≤ R.length ∧ StB R C (bodyB R C a.1) a.2 ∧ 4 ≤ a.2.length ∧ (a.1 ≠ 0 → ∃ id n g, a.2[3]? = some ⟨0, false, 1, [.arr id 0 n g]⟩ ∧ 4 ≤ id)) (fun a => [(21, I64 (a.1 : Int))]) [(20, I64 (R.length : Int)), (4, .ptr 2 0 0 0), (6, .ptr 3 0 0 0)] (fun a => a.2) (fun a => R.length - a.1)
  (0, [⟨0, false, 2, [encS R C]⟩, ⟨0, true, 1, []⟩, ⟨0, false, 2, [encS R C]⟩, ⟨0, false, 1, [.lit (.slice none 0 0)]⟩]) [21] (fun _ => rfl) (by ((repeat (refine Hold.cons (by exact rfl) ?_)); exact Hold.nil)) (by ((repeat (refine Hold.cons (by exact rfl) ?_)); exact Hold.nil)) rfl rfl rfl ?_ (by simp; omega) ?_
 ·refine ⟨Nat.zero_le _, ⟨rfl, rfl, ⟨_, rfl, .none⟩, ?_⟩, by simp, fun h => absurd rfl h⟩
  have h1 := encS_lt 4 R C
  simp only [hltL, List.all_cons, List.all_nil, ltL, h1, Bool.and_true, Bool.true_and, List.length_cons, List.length_nil]
  rfl
 rintro ⟨i, M⟩ ⟨hi, hI, hlen, hbig⟩
 obtain ⟨m0, m1, ⟨v, m2, hv⟩, hcl⟩ := hI
 by_cases hi2 : i < R.length
 ·have hp := hpk i hi2
  obtain ⟨r, hr⟩ : ∃ r, R[i]? = some r := ⟨R[i], by simp [hi2]⟩
  have hrd : R.getD i (0, 0) = r := by rw [List.getD_eq_getElem?_getD, hr]; rfl
  have hwl := bodyB_len R C i
  have hnext : bodyB R C (i + 1) = bodyB R C i ++ [(pickB R C (bodyB R C i) i).getD 0] := rfl
  generalize bodyB R C i = w at *
  obtain ⟨pk, hpk2⟩ := Option.isSome_iff_exists.1 hp
  rw [hpk2, Option.getD_some] at hnext
  unfold pickB at hpk2
  rw [hrd] at hpk2
  repeat (first | apply ef_seq | (apply ef_mv; exact rfl; exact rfl) | (apply ef_bin; (iterate 3 exact rfl); (exact cmp_t rfl (by first | exact rfl | (simp only [cmpP]; omega)))) | (apply ef_ldp; exact rfl; exact rfl; (assumption); exact rfl; (exact rfl); (exact rd_2 rfl rfl)) | apply ef_nil | apply seqQ.normal | apply ef_block | apply ef_skip | (apply ef_condt; exact rfl; (exact (rfl : true = true))) | (apply ef_call; exact rfl; ((repeat (apply XVs.cons; exact rfl)); exact XVs.nil); (with_reducible exact rows_c (k + 6) R C i _)))
  refine ef_rf (α := MHeap) (ids := []) (fun j Y => ∀ s ∈ (rowSets C.length r.1 r.2).take j, possB R C (prefP (w ++ [s])) = false) [(6, .ptr 3 0 0 0), (4, .ptr 2 0 0 0)] (fun Y => M ++ Y) (fun _ => M) [] (by exact rfl) (rows1_it (k + 5) R C i r hC hr _) (by simp)
   (idsL_lt0 (by have h1 := encS_lt 0 R C; show ((encS R C).lt 0 && ((I64 i).lt 0 && true)) = true; rw [h1]; rfl)) (by ((repeat (refine Hold.cons (by exact rfl) ?_)); exact Hold.nil)) rfl rfl rfl (fun s hs => by simp at hs) (by simp) (fun j Y _ => ?_) ?_ ?_
  ·have h1 : HeadIs [6, 4] M.length ((26, rowsF R C i) :: (25, I64 i) :: (24, encS R C) :: (7, I64 i) :: (23, I64 i) :: (22, .lit (.bool true)) :: ([(21, I64 i)] ++ [(20, I64 R.length), (4, .ptr 2 0 0 0), (6, .ptr 3 0 0 0)])) (M ++ Y) ((M ++ Y).take M.length) := .cut (fun t ht => by
    simp only [List.mem_cons, List.not_mem_nil, or_false] at ht
    rcases ht with rfl | rfl
    ·exact ⟨_, rfl, by simp only [MV.lt, decide_eq_true_eq]; simp only at hlen; omega⟩
    ·exact ⟨_, rfl, by simp only [MV.lt, decide_eq_true_eq]; simp only at hlen; omega⟩) (by rw [List.take_left]; exact hcl)
   rw [List.take_left] at h1
   exact h1
  ·intro j Y x hx hno
   simp only [List.getElem?_map, Option.map_eq_some_iff] at hx
   obtain ⟨s, hs, rfl⟩ := hx
   obtain ⟨o1, ho1⟩ : ∃ o1 : MObj, o1 = ⟨0, w.isEmpty, 1, natL w⟩ := ⟨_, rfl⟩
   have hcl2 := clone_c (k + 6) hv (by simp only at hi; omega)
   rw [← ho1] at hcl2
   show Ef _ _ _ _ _ _ ((27, I64 s) :: [(6, .ptr 3 0 0 0), (4, .ptr 2 0 0 0)]) _ _
   simp only at m0 m1 m2 ⊢
   have hrv : rdCells v.cells 0 none = some v := by cases hv <;> rfl
   repeat (first | (apply ef_mv; exact rfl; exact rfl) | apply ef_nil)
   apply preQ.normal
   repeat (first | apply ef_seq | apply ef_block)
   (apply ef_ldp; (· exact rfl); (· exact rfl); (· exact m2); (· exact rfl); (· exact rfl); (· exact hrv))
   (apply ef_call; (· exact rfl); (· ((repeat (apply XVs.cons; exact rfl)); exact XVs.nil)); · exact hcl2)
   repeat (first | (apply ef_mv; exact rfl; exact rfl) | (apply ef_bsl; exact rfl; (repeat (apply XVs.cons; exact rfl)); exact XVs.nil; exact rfl))
   subst ho1
   have q1 : (M ++ [(⟨0, w.isEmpty, 1, natL w⟩ : MObj)] ++ [(⟨0, false, 1, [I64 s]⟩ : MObj)])[M.length]? = some ⟨0, w.isEmpty, 1, natL w⟩ := by
    rw [List.append_assoc, List.getElem?_append_right (Nat.le_refl _)]; simp
   have q2 : (MV.arr (M ++ [(⟨0, w.isEmpty, 1, natL w⟩ : MObj)]).length 0 1 0).elems (M ++ [(⟨0, w.isEmpty, 1, natL w⟩ : MObj)] ++ [(⟨0, false, 1, [I64 s]⟩ : MObj)]) = some [I64 s] := by
    simp only [MV.elems, at_endC]; rfl
   have q3 : (M ++ [(⟨0, w.isEmpty, 1, natL w⟩ : MObj)] ++ [(⟨0, false, 1, [I64 s]⟩ : MObj)]).set M.length ⟨1, false, 1, (natL w).drop 0 ++ [I64 s]⟩ = M ++ [⟨1, false, 1, natL (w ++ [s])⟩, ⟨0, false, 1, [I64 s]⟩] := by
    rw [List.append_assoc, List.set_append_right _ _ (Nat.le_refl _)]
    simp
   refine ef_app (ht := by exact rfl) (by exact rfl) (by exact rfl) q2 q1 rfl (by simp) rfl (by simp; simp only at hi; omega) rfl rfl ?_
   show Ef _ _ _ _ _ _ _ ((M ++ [(⟨0, w.isEmpty, 1, natL w⟩ : MObj)] ++ [(⟨0, false, 1, [I64 s]⟩ : MObj)]).set M.length ⟨1, false, 1, (natL w).drop 0 ++ [I64 s]⟩) _
   rw [q3]
   repeat (first | apply ef_seq | (apply ef_newst; (iterate 3 exact rfl); (exact rfl); exact rfl) | apply ef_nil | apply seqQ.normal)
   have q4 : M ++ [(⟨1, false, 1, natL (w ++ [s])⟩ : MObj), ⟨0, false, 1, [I64 s]⟩] ++ [(⟨0, false, 1, [.arr M.length 0 (w.length + 1) 1]⟩ : MObj)] = tryM M w s := by unfold tryM; simp
   have q5 : (M ++ [(⟨1, false, 1, natL (w ++ [s])⟩ : MObj), ⟨0, false, 1, [I64 s]⟩]).length = M.length + 2 := by simp
   rw [q5]
   show Ef _ _ _ _ _ _ _ (M ++ [(⟨1, false, 1, natL (w ++ [s])⟩ : MObj), ⟨0, false, 1, [I64 s]⟩] ++ [(⟨0, false, 1, [.arr M.length 0 (w.length + 1) 1]⟩ : MObj)]) _
   rw [q4]
   have t1 : (tryM M w s)[2]? = some ⟨0, false, 2, [encS R C]⟩ := tryM_at m1
   have t2 := tryM_2 M w s
   have t3 : (tryM M w s)[3]? = some ⟨0, false, 1, [v]⟩ := tryM_at m2
   have hpos := possible_f (k + 1) R C _ (prefP (w ++ [s])) hR hC (may_pre (k + 4) (w ++ [s]) _ hR) (frz_try M w s 150 R C)
   repeat (first | (apply ef_ldp; exact rfl; exact rfl; (assumption); exact rfl; (exact rfl); (exact rd_2 rfl rfl)) | (apply ef_mf; exact rfl; (repeat (apply XVs.cons; exact rfl)); exact XVs.nil))
   (apply ef_call; (· exact rfl); (· ((repeat (apply XVs.cons; exact rfl)); exact XVs.nil)); · exact hpos)
   cases hP : possB R C (prefP (w ++ [s]))
   ·repeat (first | apply ef_nil | apply seqQ.normal | apply blockQ.normal | apply ef_skip | (apply ef_condf; exact rfl; (exact (rfl : false = false))))
    refine rfQ.normal _ _ ⟨[⟨1, false, 1, natL (w ++ [s])⟩, ⟨0, false, 1, [I64 s]⟩, ⟨0, false, 1, [.arr M.length 0 (w.length + 1) 1]⟩], fun s' hs' => ?_, rfl⟩
    rw [List.take_add_one, hs] at hs'
    rcases List.mem_append.1 hs' with h1 | h1
    ·exact hno s' h1
    ·simp at h1; rw [h1]; exact hP
   ·have hsp : pk = s := by
     have h1 : rowSets C.length r.1 r.2 = (rowSets C.length r.1 r.2).take j ++ s :: (rowSets C.length r.1 r.2).drop (j + 1) := by
      have h2 := List.getElem?_eq_some_iff.1 hs
      obtain ⟨h3, h4⟩ := h2
      rw [← h4, ← List.drop_eq_getElem_cons h3, List.take_append_drop]
     rw [h1, List.find?_append] at hpk2
     have h5 : ((rowSets C.length r.1 r.2).take j).find? (fun s => possB R C (prefP (w ++ [s]))) = none := by
      rw [List.find?_eq_none]
      intro x hx
      rw [hno x hx]; simp
     rw [h5, Option.none_or, List.find?_cons_of_pos (by exact hP)] at hpk2
     exact (Option.some.inj hpk2).symm
    subst hsp
    repeat (first | apply ef_seq | (apply ef_ldp; exact rfl; exact rfl; (assumption); exact rfl; (exact rfl); (exact rfl)) | apply ef_nil | apply seqQ.normal | (apply ef_condt; exact rfl; (exact (rfl : true = true))))
    have hwr : wrElem v 0 (.arr M.length 0 (w.length + 1) 1) = some (.arr M.length 0 (w.length + 1) 1) := by cases hv <;> rfl
    (apply ef_st; (· exact rfl); (· exact rfl); (· exact rfl); (· exact t3); (· exact rfl); (· exact rfl); (· exact rfl); (· exact hwr))
    repeat (first | apply ef_nil | apply seqQ.normal | apply ef_exit | (apply blockQ_there; exact rfl))
    apply rfQ.exit
    repeat (first | (apply ef_mv; exact rfl; exact rfl) | (apply ef_bin; (iterate 3 exact rfl); (((with_reducible refine bin_add (wrap_of ?_ ?_)) <;> omega))) | apply ef_nil | apply seqQ.normal | apply blockQ.normal | apply blockQ.here)
    simp only at hlen hi
    obtain ⟨H, hH⟩ : ∃ H, H = (tryM M w pk).set 3 ⟨0, false, 1, [.arr M.length 0 (w.length + 1) 1]⟩ := ⟨_, rfl⟩
    have hTl : (tryM M w pk).length = M.length + 3 := by simp [tryM]
    have hHl : H.length = M.length + 3 := by rw [hH, List.length_set, hTl]
    have hH3 : H[3]? = some ⟨0, false, 1, [.arr M.length 0 (w.length + 1) 1]⟩ := by rw [hH, List.getElem?_set_self (by rw [hTl]; omega)]
    have hHi : ∀ i, i ≠ 3 → H[i]? = (tryM M w pk)[i]? := fun i hi => by rw [hH, List.getElem?_set_ne (Ne.symm hi)]
    have hHc : hltL (M.length + 3) H = true := by
     rw [hH]
     refine hltL_set (tryM_cl w pk hcl) ?_
     simp only [ltL, MV.lt, Bool.and_true, decide_eq_true_eq]; omega
    refine loopQ.normal _ _ ⟨(i + 1, H), ⟨?_, ⟨?_, ?_, ⟨.arr M.length 0 (w.length + 1) 1, ?_, ?_⟩, ?_⟩, ?_, ?_⟩, ?_, ⟨by ((repeat (refine Hold.cons (by exact rfl) ?_)); exact Hold.nil), by ((repeat (refine Hold.cons (by exact rfl) ?_)); exact Hold.nil)⟩, ?_⟩
    ·exact hi2
    ·show H[0]? = _
     rw [hHi 0 (by decide)]; exact tryM_at m0
    ·show H[2]? = _
     rw [hHi 2 (by decide)]; exact t1
    ·exact hH3
    ·show RowAt H _ (bodyB R C (i + 1))
     rw [hnext, show w.length + 1 = (w ++ [pk]).length by simp]
     refine .some M.length 1 (w ++ [pk]) (by simp) ?_
     rw [hHi _ (by omega)]; exact tryM_0 M w pk
    ·show hltL H.length H = true
     rw [hHl]; exact hHc
    ·show 4 ≤ H.length
     omega
    ·exact fun _ => ⟨M.length, w.length + 1, 1, hH3, hlen⟩
    ·show R.length - (i + 1) < R.length - i
     omega
    ·show HeadIs _ _ _ ((tryM M w pk).set 3 ⟨0, false, 1, [.arr M.length 0 (w.length + 1) 1]⟩) H
     rw [← hH]
     refine .cell ?_
     show hltL 4 (H.take 4) = false
     rw [Bool.eq_false_iff]
     intro hc
     have h1 := List.all_eq_true.1 hc ⟨0, false, 1, [.arr M.length 0 (w.length + 1) 1]⟩ (List.mem_of_getElem? (i := 3) (by rw [List.getElem?_take, if_pos (by decide)]; exact hH3))
     simp only [ltL, MV.lt, Bool.and_true, decide_eq_true_eq] at h1
     omega
  ·intro Y hno
   exfalso
   rw [List.take_of_length_le (by simp)] at hno
   have h1 := List.find?_some hpk2
   rw [hno pk (List.mem_of_find?_eq_some hpk2)] at h1
   cases h1
 ·obtain rfl : i = R.length := by omega
  have hwl := bodyB_len R C R.length
  generalize bodyB R C R.length = w at *
  cases hv with
  | none => simp at hwl; omega
  | some id g w' hne2 hM =>
   simp only at m2 hM
   repeat (first | apply ef_seq | (apply ef_mv; exact rfl; exact rfl) | (apply ef_bin; (iterate 3 exact rfl); (exact cmp_f rfl (by simp only [cmpP]; omega))) | (apply ef_ldp; exact rfl; exact rfl; (assumption); exact rfl; (exact rfl); (exact rfl)) | apply ef_nil | apply seqQ.normal | apply loopQ.exit | apply ef_ret | apply ef_exit | apply seqQ.exit | apply blockQ.here | (apply ef_condf; exact rfl; (exact (rfl : false = false))))
   rw [← hwl]
   exact fin_al rfl (by exact rfl) (by exact rfl) hM rfl (by simp) (natL_lt 0 w) rfl rfl rfl
end Go.Proofs.YtnmgpbihknjdjaaGreatDoor
