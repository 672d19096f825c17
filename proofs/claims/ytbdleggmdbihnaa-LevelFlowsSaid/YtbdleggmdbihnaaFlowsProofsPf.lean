/- Contracts of the document: the error and the value of a flow. -/
import Derived.Test.YtbdleggmdbihnaaFlowsProofsPe
/- Repeat, for the numbers of lines that a net may have. -/
namespace Go.Proofs.Ytbdleggmdbihnaa
open Go.RowKit
set_option linter.unusedVariables false
theorem orL_up {M : Tab} {T : Oracle} {I0 : Iter} {N : Nat} {mf : Nat → Option MF} (hmf : ∀ f m, mf f = some m → M.mf f = some m ∧ ∀ as_, T f as_ [] = none) (e : Nat) : ∀ k, LeO (orL mf N k) (orZ M T I0 N (k + e))
  | 0 => fun f as_ h r he => by simp [orL] at he
  | k + 1 => fun f as_ h r he => by
    simp only [orL] at he
    rw [show k + 1 + e = (k + e) + 1 by omega]
    simp only [orZ]
    rw [frzCall_le (run' := tabZ M T (orZ M T I0 N (k + e)) (orI M I0 (orZ M T I0 N (k + e)) N) N f) (fun a r hr => ?_) he]
    split at hr
    · rename_i m hm
      obtain ⟨h1, h2⟩ := hmf f m hm
      unfold tabZ runZ
      rw [h2, h1]
      exact runF_le (orL_up hmf e k) (fun g k cs h r he => by cases he) (runFf_ok hr)
    · cases hr
theorem runL_up {M : Tab} {T : Oracle} {I0 : Iter} {N : Nat} {mf : Nat → Option MF} (hmf : ∀ f m, mf f = some m → M.mf f = some m ∧ ∀ as_, T f as_ [] = none) {k f : Nat} {m : MF} {as_ : List MV} {r : MV × MHeap} (e : Nat) (hm : mf f = some m) (he : runFf (orL mf N k) noI N m as_ [] = some r) (I : Iter) : runZ M (orZ M T I0 N (k + e)) I N f as_ [] = some r := by
  unfold runZ
  rw [(hmf f m hm).1]
  exact runF_le (orL_up hmf e k) (fun g k cs h r he => by cases he) (runFf_ok he)
abbrev farM : MV := I64 (-1099511627776)
theorem rep_1 : runFf (orL mfW 4000000 3) noI 4000000 ⟨48, [(.tmp 4)], (.seq (.reg [⟨none, some 4, .nil0 1⟩]) (.seq (.seq (.reg [⟨none, some 9, .mv (.s 1)⟩, ⟨none, some 10, .bin .lss (.s 9) (.c (.lit (.int .i64 0)))⟩]) (.cond (.s 10) (.reg [⟨none, some 11, .bad⟩, ⟨none, none, .bad⟩]) .skip)) (.seq (.reg [⟨none, some 13, .mv (.s 0)⟩, ⟨none, some 14, .len (.s 13)⟩, ⟨none, some 15, .cv .u64 (.s 14)⟩, ⟨none, some 16, .mv (.s 1)⟩, ⟨none, some 17, .cv .u64 (.s 16)⟩, ⟨none, some 18, .call 103 [.s 15, .s 17]⟩, ⟨none, some 12, .mv (.s 18)⟩, ⟨none, some 19, .ext (.s 12) 0⟩, ⟨none, some 20, .ext (.s 12) 1⟩, ⟨none, some 5, .mv (.s 19)⟩, ⟨none, some 6, .mv (.s 20)⟩]) (.seq (.seq (.reg [⟨none, some 21, .mv (.s 5)⟩, ⟨none, some 22, .bin .gtr (.s 21) (.c (.lit (.int .u64 0)))⟩, ⟨none, some 23, .mv (.s 22)⟩, ⟨some (23, false), some 24, .mv (.s 6)⟩, ⟨some (23, false), some 25, .bin .gtr (.s 24) (.c (.lit (.int .u64 9223372036854775807)))⟩, ⟨none, some 26, .pick (.s 23) (.c (.lit (.bool true))) (.s 25)⟩]) (.cond (.s 26) (.reg [⟨none, some 27, .bad⟩, ⟨none, none, .bad⟩]) .skip)) (.seq (.reg [⟨none, some 28, .mv (.s 6)⟩, ⟨none, some 29, .cv .i64 (.s 28)⟩, ⟨none, some 30, .mks (.lit (.int .i64 0)) (.s 29)⟩, ⟨none, some 7, .mv (.s 30)⟩]) (.seq (.reg [⟨none, some 31, .mv (.s 7)⟩, ⟨none, some 32, .mv (.s 0)⟩, ⟨none, some 33, .cpy (.s 31) (.s 32)⟩, ⟨none, some 8, .mv (.s 33)⟩]) (.seq (.block 0 (.loop [8, 7] (.seq (.seq (.reg [⟨none, some 34, .mv (.s 8)⟩, ⟨none, some 35, .mv (.s 7)⟩, ⟨none, some 36, .len (.s 35)⟩, ⟨none, some 37, .bin .lss (.s 34) (.s 36)⟩]) (.cond (.s 37) .skip (.exit 0))) (.block 1 (.reg [⟨none, some 38, .mv (.s 8)⟩, ⟨none, some 39, .mv (.s 7)⟩, ⟨none, some 40, .mv (.s 8)⟩, ⟨none, some 41, .slc 1 (.s 39) (some (.s 40)) none⟩, ⟨none, some 42, .mv (.s 7)⟩, ⟨none, some 43, .mv (.s 8)⟩, ⟨none, some 44, .slc 1 (.s 42) none (some (.s 43))⟩, ⟨none, some 45, .cpy (.s 41) (.s 44)⟩, ⟨none, some 46, .bin .add (.s 38) (.s 45)⟩, ⟨none, some 8, .mv (.s 46)⟩]))))) (.seq (.reg [⟨none, some 47, .mv (.s 7)⟩, ⟨none, some 4, .mv (.s 47)⟩]) .ret))))))))⟩ [.sl [farM], I64 1] [] = some (.arr 0 0 1 0, [⟨0, false, 1, [farM]⟩]) := by kernel_rfl
theorem rep_2 : runFf (orL mfW 4000000 3) noI 4000000 ⟨48, [(.tmp 4)], (.seq (.reg [⟨none, some 4, .nil0 1⟩]) (.seq (.seq (.reg [⟨none, some 9, .mv (.s 1)⟩, ⟨none, some 10, .bin .lss (.s 9) (.c (.lit (.int .i64 0)))⟩]) (.cond (.s 10) (.reg [⟨none, some 11, .bad⟩, ⟨none, none, .bad⟩]) .skip)) (.seq (.reg [⟨none, some 13, .mv (.s 0)⟩, ⟨none, some 14, .len (.s 13)⟩, ⟨none, some 15, .cv .u64 (.s 14)⟩, ⟨none, some 16, .mv (.s 1)⟩, ⟨none, some 17, .cv .u64 (.s 16)⟩, ⟨none, some 18, .call 103 [.s 15, .s 17]⟩, ⟨none, some 12, .mv (.s 18)⟩, ⟨none, some 19, .ext (.s 12) 0⟩, ⟨none, some 20, .ext (.s 12) 1⟩, ⟨none, some 5, .mv (.s 19)⟩, ⟨none, some 6, .mv (.s 20)⟩]) (.seq (.seq (.reg [⟨none, some 21, .mv (.s 5)⟩, ⟨none, some 22, .bin .gtr (.s 21) (.c (.lit (.int .u64 0)))⟩, ⟨none, some 23, .mv (.s 22)⟩, ⟨some (23, false), some 24, .mv (.s 6)⟩, ⟨some (23, false), some 25, .bin .gtr (.s 24) (.c (.lit (.int .u64 9223372036854775807)))⟩, ⟨none, some 26, .pick (.s 23) (.c (.lit (.bool true))) (.s 25)⟩]) (.cond (.s 26) (.reg [⟨none, some 27, .bad⟩, ⟨none, none, .bad⟩]) .skip)) (.seq (.reg [⟨none, some 28, .mv (.s 6)⟩, ⟨none, some 29, .cv .i64 (.s 28)⟩, ⟨none, some 30, .mks (.lit (.int .i64 0)) (.s 29)⟩, ⟨none, some 7, .mv (.s 30)⟩]) (.seq (.reg [⟨none, some 31, .mv (.s 7)⟩, ⟨none, some 32, .mv (.s 0)⟩, ⟨none, some 33, .cpy (.s 31) (.s 32)⟩, ⟨none, some 8, .mv (.s 33)⟩]) (.seq (.block 0 (.loop [8, 7] (.seq (.seq (.reg [⟨none, some 34, .mv (.s 8)⟩, ⟨none, some 35, .mv (.s 7)⟩, ⟨none, some 36, .len (.s 35)⟩, ⟨none, some 37, .bin .lss (.s 34) (.s 36)⟩]) (.cond (.s 37) .skip (.exit 0))) (.block 1 (.reg [⟨none, some 38, .mv (.s 8)⟩, ⟨none, some 39, .mv (.s 7)⟩, ⟨none, some 40, .mv (.s 8)⟩, ⟨none, some 41, .slc 1 (.s 39) (some (.s 40)) none⟩, ⟨none, some 42, .mv (.s 7)⟩, ⟨none, some 43, .mv (.s 8)⟩, ⟨none, some 44, .slc 1 (.s 42) none (some (.s 43))⟩, ⟨none, some 45, .cpy (.s 41) (.s 44)⟩, ⟨none, some 46, .bin .add (.s 38) (.s 45)⟩, ⟨none, some 8, .mv (.s 46)⟩]))))) (.seq (.reg [⟨none, some 47, .mv (.s 7)⟩, ⟨none, some 4, .mv (.s 47)⟩]) .ret))))))))⟩ [.sl [farM], I64 2] [] = some (.arr 0 0 2 0, [⟨0, false, 1, [farM, farM]⟩]) := by kernel_rfl
theorem rep_3 : runFf (orL mfW 4000000 3) noI 4000000 ⟨48, [(.tmp 4)], (.seq (.reg [⟨none, some 4, .nil0 1⟩]) (.seq (.seq (.reg [⟨none, some 9, .mv (.s 1)⟩, ⟨none, some 10, .bin .lss (.s 9) (.c (.lit (.int .i64 0)))⟩]) (.cond (.s 10) (.reg [⟨none, some 11, .bad⟩, ⟨none, none, .bad⟩]) .skip)) (.seq (.reg [⟨none, some 13, .mv (.s 0)⟩, ⟨none, some 14, .len (.s 13)⟩, ⟨none, some 15, .cv .u64 (.s 14)⟩, ⟨none, some 16, .mv (.s 1)⟩, ⟨none, some 17, .cv .u64 (.s 16)⟩, ⟨none, some 18, .call 103 [.s 15, .s 17]⟩, ⟨none, some 12, .mv (.s 18)⟩, ⟨none, some 19, .ext (.s 12) 0⟩, ⟨none, some 20, .ext (.s 12) 1⟩, ⟨none, some 5, .mv (.s 19)⟩, ⟨none, some 6, .mv (.s 20)⟩]) (.seq (.seq (.reg [⟨none, some 21, .mv (.s 5)⟩, ⟨none, some 22, .bin .gtr (.s 21) (.c (.lit (.int .u64 0)))⟩, ⟨none, some 23, .mv (.s 22)⟩, ⟨some (23, false), some 24, .mv (.s 6)⟩, ⟨some (23, false), some 25, .bin .gtr (.s 24) (.c (.lit (.int .u64 9223372036854775807)))⟩, ⟨none, some 26, .pick (.s 23) (.c (.lit (.bool true))) (.s 25)⟩]) (.cond (.s 26) (.reg [⟨none, some 27, .bad⟩, ⟨none, none, .bad⟩]) .skip)) (.seq (.reg [⟨none, some 28, .mv (.s 6)⟩, ⟨none, some 29, .cv .i64 (.s 28)⟩, ⟨none, some 30, .mks (.lit (.int .i64 0)) (.s 29)⟩, ⟨none, some 7, .mv (.s 30)⟩]) (.seq (.reg [⟨none, some 31, .mv (.s 7)⟩, ⟨none, some 32, .mv (.s 0)⟩, ⟨none, some 33, .cpy (.s 31) (.s 32)⟩, ⟨none, some 8, .mv (.s 33)⟩]) (.seq (.block 0 (.loop [8, 7] (.seq (.seq (.reg [⟨none, some 34, .mv (.s 8)⟩, ⟨none, some 35, .mv (.s 7)⟩, ⟨none, some 36, .len (.s 35)⟩, ⟨none, some 37, .bin .lss (.s 34) (.s 36)⟩]) (.cond (.s 37) .skip (.exit 0))) (.block 1 (.reg [⟨none, some 38, .mv (.s 8)⟩, ⟨none, some 39, .mv (.s 7)⟩, ⟨none, some 40, .mv (.s 8)⟩, ⟨none, some 41, .slc 1 (.s 39) (some (.s 40)) none⟩, ⟨none, some 42, .mv (.s 7)⟩, ⟨none, some 43, .mv (.s 8)⟩, ⟨none, some 44, .slc 1 (.s 42) none (some (.s 43))⟩, ⟨none, some 45, .cpy (.s 41) (.s 44)⟩, ⟨none, some 46, .bin .add (.s 38) (.s 45)⟩, ⟨none, some 8, .mv (.s 46)⟩]))))) (.seq (.reg [⟨none, some 47, .mv (.s 7)⟩, ⟨none, some 4, .mv (.s 47)⟩]) .ret))))))))⟩ [.sl [farM], I64 3] [] = some (.arr 0 0 3 0, [⟨0, false, 1, [farM, farM, farM]⟩]) := by kernel_rfl
theorem rep_4 : runFf (orL mfW 4000000 3) noI 4000000 ⟨48, [(.tmp 4)], (.seq (.reg [⟨none, some 4, .nil0 1⟩]) (.seq (.seq (.reg [⟨none, some 9, .mv (.s 1)⟩, ⟨none, some 10, .bin .lss (.s 9) (.c (.lit (.int .i64 0)))⟩]) (.cond (.s 10) (.reg [⟨none, some 11, .bad⟩, ⟨none, none, .bad⟩]) .skip)) (.seq (.reg [⟨none, some 13, .mv (.s 0)⟩, ⟨none, some 14, .len (.s 13)⟩, ⟨none, some 15, .cv .u64 (.s 14)⟩, ⟨none, some 16, .mv (.s 1)⟩, ⟨none, some 17, .cv .u64 (.s 16)⟩, ⟨none, some 18, .call 103 [.s 15, .s 17]⟩, ⟨none, some 12, .mv (.s 18)⟩, ⟨none, some 19, .ext (.s 12) 0⟩, ⟨none, some 20, .ext (.s 12) 1⟩, ⟨none, some 5, .mv (.s 19)⟩, ⟨none, some 6, .mv (.s 20)⟩]) (.seq (.seq (.reg [⟨none, some 21, .mv (.s 5)⟩, ⟨none, some 22, .bin .gtr (.s 21) (.c (.lit (.int .u64 0)))⟩, ⟨none, some 23, .mv (.s 22)⟩, ⟨some (23, false), some 24, .mv (.s 6)⟩, ⟨some (23, false), some 25, .bin .gtr (.s 24) (.c (.lit (.int .u64 9223372036854775807)))⟩, ⟨none, some 26, .pick (.s 23) (.c (.lit (.bool true))) (.s 25)⟩]) (.cond (.s 26) (.reg [⟨none, some 27, .bad⟩, ⟨none, none, .bad⟩]) .skip)) (.seq (.reg [⟨none, some 28, .mv (.s 6)⟩, ⟨none, some 29, .cv .i64 (.s 28)⟩, ⟨none, some 30, .mks (.lit (.int .i64 0)) (.s 29)⟩, ⟨none, some 7, .mv (.s 30)⟩]) (.seq (.reg [⟨none, some 31, .mv (.s 7)⟩, ⟨none, some 32, .mv (.s 0)⟩, ⟨none, some 33, .cpy (.s 31) (.s 32)⟩, ⟨none, some 8, .mv (.s 33)⟩]) (.seq (.block 0 (.loop [8, 7] (.seq (.seq (.reg [⟨none, some 34, .mv (.s 8)⟩, ⟨none, some 35, .mv (.s 7)⟩, ⟨none, some 36, .len (.s 35)⟩, ⟨none, some 37, .bin .lss (.s 34) (.s 36)⟩]) (.cond (.s 37) .skip (.exit 0))) (.block 1 (.reg [⟨none, some 38, .mv (.s 8)⟩, ⟨none, some 39, .mv (.s 7)⟩, ⟨none, some 40, .mv (.s 8)⟩, ⟨none, some 41, .slc 1 (.s 39) (some (.s 40)) none⟩, ⟨none, some 42, .mv (.s 7)⟩, ⟨none, some 43, .mv (.s 8)⟩, ⟨none, some 44, .slc 1 (.s 42) none (some (.s 43))⟩, ⟨none, some 45, .cpy (.s 41) (.s 44)⟩, ⟨none, some 46, .bin .add (.s 38) (.s 45)⟩, ⟨none, some 8, .mv (.s 46)⟩]))))) (.seq (.reg [⟨none, some 47, .mv (.s 7)⟩, ⟨none, some 4, .mv (.s 47)⟩]) .ret))))))))⟩ [.sl [farM], I64 4] [] = some (.arr 0 0 4 0, [⟨0, false, 1, [farM, farM, farM, farM]⟩]) := by kernel_rfl
theorem rep_5 : runFf (orL mfW 4000000 3) noI 4000000 ⟨48, [(.tmp 4)], (.seq (.reg [⟨none, some 4, .nil0 1⟩]) (.seq (.seq (.reg [⟨none, some 9, .mv (.s 1)⟩, ⟨none, some 10, .bin .lss (.s 9) (.c (.lit (.int .i64 0)))⟩]) (.cond (.s 10) (.reg [⟨none, some 11, .bad⟩, ⟨none, none, .bad⟩]) .skip)) (.seq (.reg [⟨none, some 13, .mv (.s 0)⟩, ⟨none, some 14, .len (.s 13)⟩, ⟨none, some 15, .cv .u64 (.s 14)⟩, ⟨none, some 16, .mv (.s 1)⟩, ⟨none, some 17, .cv .u64 (.s 16)⟩, ⟨none, some 18, .call 103 [.s 15, .s 17]⟩, ⟨none, some 12, .mv (.s 18)⟩, ⟨none, some 19, .ext (.s 12) 0⟩, ⟨none, some 20, .ext (.s 12) 1⟩, ⟨none, some 5, .mv (.s 19)⟩, ⟨none, some 6, .mv (.s 20)⟩]) (.seq (.seq (.reg [⟨none, some 21, .mv (.s 5)⟩, ⟨none, some 22, .bin .gtr (.s 21) (.c (.lit (.int .u64 0)))⟩, ⟨none, some 23, .mv (.s 22)⟩, ⟨some (23, false), some 24, .mv (.s 6)⟩, ⟨some (23, false), some 25, .bin .gtr (.s 24) (.c (.lit (.int .u64 9223372036854775807)))⟩, ⟨none, some 26, .pick (.s 23) (.c (.lit (.bool true))) (.s 25)⟩]) (.cond (.s 26) (.reg [⟨none, some 27, .bad⟩, ⟨none, none, .bad⟩]) .skip)) (.seq (.reg [⟨none, some 28, .mv (.s 6)⟩, ⟨none, some 29, .cv .i64 (.s 28)⟩, ⟨none, some 30, .mks (.lit (.int .i64 0)) (.s 29)⟩, ⟨none, some 7, .mv (.s 30)⟩]) (.seq (.reg [⟨none, some 31, .mv (.s 7)⟩, ⟨none, some 32, .mv (.s 0)⟩, ⟨none, some 33, .cpy (.s 31) (.s 32)⟩, ⟨none, some 8, .mv (.s 33)⟩]) (.seq (.block 0 (.loop [8, 7] (.seq (.seq (.reg [⟨none, some 34, .mv (.s 8)⟩, ⟨none, some 35, .mv (.s 7)⟩, ⟨none, some 36, .len (.s 35)⟩, ⟨none, some 37, .bin .lss (.s 34) (.s 36)⟩]) (.cond (.s 37) .skip (.exit 0))) (.block 1 (.reg [⟨none, some 38, .mv (.s 8)⟩, ⟨none, some 39, .mv (.s 7)⟩, ⟨none, some 40, .mv (.s 8)⟩, ⟨none, some 41, .slc 1 (.s 39) (some (.s 40)) none⟩, ⟨none, some 42, .mv (.s 7)⟩, ⟨none, some 43, .mv (.s 8)⟩, ⟨none, some 44, .slc 1 (.s 42) none (some (.s 43))⟩, ⟨none, some 45, .cpy (.s 41) (.s 44)⟩, ⟨none, some 46, .bin .add (.s 38) (.s 45)⟩, ⟨none, some 8, .mv (.s 46)⟩]))))) (.seq (.reg [⟨none, some 47, .mv (.s 7)⟩, ⟨none, some 4, .mv (.s 47)⟩]) .ret))))))))⟩ [.sl [farM], I64 5] [] = some (.arr 0 0 5 0, [⟨0, false, 1, [farM, farM, farM, farM, farM]⟩]) := by kernel_rfl
theorem rep_6 : runFf (orL mfW 4000000 3) noI 4000000 ⟨48, [(.tmp 4)], (.seq (.reg [⟨none, some 4, .nil0 1⟩]) (.seq (.seq (.reg [⟨none, some 9, .mv (.s 1)⟩, ⟨none, some 10, .bin .lss (.s 9) (.c (.lit (.int .i64 0)))⟩]) (.cond (.s 10) (.reg [⟨none, some 11, .bad⟩, ⟨none, none, .bad⟩]) .skip)) (.seq (.reg [⟨none, some 13, .mv (.s 0)⟩, ⟨none, some 14, .len (.s 13)⟩, ⟨none, some 15, .cv .u64 (.s 14)⟩, ⟨none, some 16, .mv (.s 1)⟩, ⟨none, some 17, .cv .u64 (.s 16)⟩, ⟨none, some 18, .call 103 [.s 15, .s 17]⟩, ⟨none, some 12, .mv (.s 18)⟩, ⟨none, some 19, .ext (.s 12) 0⟩, ⟨none, some 20, .ext (.s 12) 1⟩, ⟨none, some 5, .mv (.s 19)⟩, ⟨none, some 6, .mv (.s 20)⟩]) (.seq (.seq (.reg [⟨none, some 21, .mv (.s 5)⟩, ⟨none, some 22, .bin .gtr (.s 21) (.c (.lit (.int .u64 0)))⟩, ⟨none, some 23, .mv (.s 22)⟩, ⟨some (23, false), some 24, .mv (.s 6)⟩, ⟨some (23, false), some 25, .bin .gtr (.s 24) (.c (.lit (.int .u64 9223372036854775807)))⟩, ⟨none, some 26, .pick (.s 23) (.c (.lit (.bool true))) (.s 25)⟩]) (.cond (.s 26) (.reg [⟨none, some 27, .bad⟩, ⟨none, none, .bad⟩]) .skip)) (.seq (.reg [⟨none, some 28, .mv (.s 6)⟩, ⟨none, some 29, .cv .i64 (.s 28)⟩, ⟨none, some 30, .mks (.lit (.int .i64 0)) (.s 29)⟩, ⟨none, some 7, .mv (.s 30)⟩]) (.seq (.reg [⟨none, some 31, .mv (.s 7)⟩, ⟨none, some 32, .mv (.s 0)⟩, ⟨none, some 33, .cpy (.s 31) (.s 32)⟩, ⟨none, some 8, .mv (.s 33)⟩]) (.seq (.block 0 (.loop [8, 7] (.seq (.seq (.reg [⟨none, some 34, .mv (.s 8)⟩, ⟨none, some 35, .mv (.s 7)⟩, ⟨none, some 36, .len (.s 35)⟩, ⟨none, some 37, .bin .lss (.s 34) (.s 36)⟩]) (.cond (.s 37) .skip (.exit 0))) (.block 1 (.reg [⟨none, some 38, .mv (.s 8)⟩, ⟨none, some 39, .mv (.s 7)⟩, ⟨none, some 40, .mv (.s 8)⟩, ⟨none, some 41, .slc 1 (.s 39) (some (.s 40)) none⟩, ⟨none, some 42, .mv (.s 7)⟩, ⟨none, some 43, .mv (.s 8)⟩, ⟨none, some 44, .slc 1 (.s 42) none (some (.s 43))⟩, ⟨none, some 45, .cpy (.s 41) (.s 44)⟩, ⟨none, some 46, .bin .add (.s 38) (.s 45)⟩, ⟨none, some 8, .mv (.s 46)⟩]))))) (.seq (.reg [⟨none, some 47, .mv (.s 7)⟩, ⟨none, some 4, .mv (.s 47)⟩]) .ret))))))))⟩ [.sl [farM], I64 6] [] = some (.arr 0 0 6 0, [⟨0, false, 1, [farM, farM, farM, farM, farM, farM]⟩]) := by kernel_rfl
theorem rep_7 : runFf (orL mfW 4000000 3) noI 4000000 ⟨48, [(.tmp 4)], (.seq (.reg [⟨none, some 4, .nil0 1⟩]) (.seq (.seq (.reg [⟨none, some 9, .mv (.s 1)⟩, ⟨none, some 10, .bin .lss (.s 9) (.c (.lit (.int .i64 0)))⟩]) (.cond (.s 10) (.reg [⟨none, some 11, .bad⟩, ⟨none, none, .bad⟩]) .skip)) (.seq (.reg [⟨none, some 13, .mv (.s 0)⟩, ⟨none, some 14, .len (.s 13)⟩, ⟨none, some 15, .cv .u64 (.s 14)⟩, ⟨none, some 16, .mv (.s 1)⟩, ⟨none, some 17, .cv .u64 (.s 16)⟩, ⟨none, some 18, .call 103 [.s 15, .s 17]⟩, ⟨none, some 12, .mv (.s 18)⟩, ⟨none, some 19, .ext (.s 12) 0⟩, ⟨none, some 20, .ext (.s 12) 1⟩, ⟨none, some 5, .mv (.s 19)⟩, ⟨none, some 6, .mv (.s 20)⟩]) (.seq (.seq (.reg [⟨none, some 21, .mv (.s 5)⟩, ⟨none, some 22, .bin .gtr (.s 21) (.c (.lit (.int .u64 0)))⟩, ⟨none, some 23, .mv (.s 22)⟩, ⟨some (23, false), some 24, .mv (.s 6)⟩, ⟨some (23, false), some 25, .bin .gtr (.s 24) (.c (.lit (.int .u64 9223372036854775807)))⟩, ⟨none, some 26, .pick (.s 23) (.c (.lit (.bool true))) (.s 25)⟩]) (.cond (.s 26) (.reg [⟨none, some 27, .bad⟩, ⟨none, none, .bad⟩]) .skip)) (.seq (.reg [⟨none, some 28, .mv (.s 6)⟩, ⟨none, some 29, .cv .i64 (.s 28)⟩, ⟨none, some 30, .mks (.lit (.int .i64 0)) (.s 29)⟩, ⟨none, some 7, .mv (.s 30)⟩]) (.seq (.reg [⟨none, some 31, .mv (.s 7)⟩, ⟨none, some 32, .mv (.s 0)⟩, ⟨none, some 33, .cpy (.s 31) (.s 32)⟩, ⟨none, some 8, .mv (.s 33)⟩]) (.seq (.block 0 (.loop [8, 7] (.seq (.seq (.reg [⟨none, some 34, .mv (.s 8)⟩, ⟨none, some 35, .mv (.s 7)⟩, ⟨none, some 36, .len (.s 35)⟩, ⟨none, some 37, .bin .lss (.s 34) (.s 36)⟩]) (.cond (.s 37) .skip (.exit 0))) (.block 1 (.reg [⟨none, some 38, .mv (.s 8)⟩, ⟨none, some 39, .mv (.s 7)⟩, ⟨none, some 40, .mv (.s 8)⟩, ⟨none, some 41, .slc 1 (.s 39) (some (.s 40)) none⟩, ⟨none, some 42, .mv (.s 7)⟩, ⟨none, some 43, .mv (.s 8)⟩, ⟨none, some 44, .slc 1 (.s 42) none (some (.s 43))⟩, ⟨none, some 45, .cpy (.s 41) (.s 44)⟩, ⟨none, some 46, .bin .add (.s 38) (.s 45)⟩, ⟨none, some 8, .mv (.s 46)⟩]))))) (.seq (.reg [⟨none, some 47, .mv (.s 7)⟩, ⟨none, some 4, .mv (.s 47)⟩]) .ret))))))))⟩ [.sl [farM], I64 7] [] = some (.arr 0 0 7 0, [⟨0, false, 1, [farM, farM, farM, farM, farM, farM, farM]⟩]) := by kernel_rfl
theorem rep_8 : runFf (orL mfW 4000000 3) noI 4000000 ⟨48, [(.tmp 4)], (.seq (.reg [⟨none, some 4, .nil0 1⟩]) (.seq (.seq (.reg [⟨none, some 9, .mv (.s 1)⟩, ⟨none, some 10, .bin .lss (.s 9) (.c (.lit (.int .i64 0)))⟩]) (.cond (.s 10) (.reg [⟨none, some 11, .bad⟩, ⟨none, none, .bad⟩]) .skip)) (.seq (.reg [⟨none, some 13, .mv (.s 0)⟩, ⟨none, some 14, .len (.s 13)⟩, ⟨none, some 15, .cv .u64 (.s 14)⟩, ⟨none, some 16, .mv (.s 1)⟩, ⟨none, some 17, .cv .u64 (.s 16)⟩, ⟨none, some 18, .call 103 [.s 15, .s 17]⟩, ⟨none, some 12, .mv (.s 18)⟩, ⟨none, some 19, .ext (.s 12) 0⟩, ⟨none, some 20, .ext (.s 12) 1⟩, ⟨none, some 5, .mv (.s 19)⟩, ⟨none, some 6, .mv (.s 20)⟩]) (.seq (.seq (.reg [⟨none, some 21, .mv (.s 5)⟩, ⟨none, some 22, .bin .gtr (.s 21) (.c (.lit (.int .u64 0)))⟩, ⟨none, some 23, .mv (.s 22)⟩, ⟨some (23, false), some 24, .mv (.s 6)⟩, ⟨some (23, false), some 25, .bin .gtr (.s 24) (.c (.lit (.int .u64 9223372036854775807)))⟩, ⟨none, some 26, .pick (.s 23) (.c (.lit (.bool true))) (.s 25)⟩]) (.cond (.s 26) (.reg [⟨none, some 27, .bad⟩, ⟨none, none, .bad⟩]) .skip)) (.seq (.reg [⟨none, some 28, .mv (.s 6)⟩, ⟨none, some 29, .cv .i64 (.s 28)⟩, ⟨none, some 30, .mks (.lit (.int .i64 0)) (.s 29)⟩, ⟨none, some 7, .mv (.s 30)⟩]) (.seq (.reg [⟨none, some 31, .mv (.s 7)⟩, ⟨none, some 32, .mv (.s 0)⟩, ⟨none, some 33, .cpy (.s 31) (.s 32)⟩, ⟨none, some 8, .mv (.s 33)⟩]) (.seq (.block 0 (.loop [8, 7] (.seq (.seq (.reg [⟨none, some 34, .mv (.s 8)⟩, ⟨none, some 35, .mv (.s 7)⟩, ⟨none, some 36, .len (.s 35)⟩, ⟨none, some 37, .bin .lss (.s 34) (.s 36)⟩]) (.cond (.s 37) .skip (.exit 0))) (.block 1 (.reg [⟨none, some 38, .mv (.s 8)⟩, ⟨none, some 39, .mv (.s 7)⟩, ⟨none, some 40, .mv (.s 8)⟩, ⟨none, some 41, .slc 1 (.s 39) (some (.s 40)) none⟩, ⟨none, some 42, .mv (.s 7)⟩, ⟨none, some 43, .mv (.s 8)⟩, ⟨none, some 44, .slc 1 (.s 42) none (some (.s 43))⟩, ⟨none, some 45, .cpy (.s 41) (.s 44)⟩, ⟨none, some 46, .bin .add (.s 38) (.s 45)⟩, ⟨none, some 8, .mv (.s 46)⟩]))))) (.seq (.reg [⟨none, some 47, .mv (.s 7)⟩, ⟨none, some 4, .mv (.s 47)⟩]) .ret))))))))⟩ [.sl [farM], I64 8] [] = some (.arr 0 0 8 0, [⟨0, false, 1, [farM, farM, farM, farM, farM, farM, farM, farM]⟩]) := by kernel_rfl
theorem ltL_rep (n : Nat) : ∀ m : Nat, ltL n (List.replicate m farM) = true
  | 0 => rfl
  | m + 1 => by rw [List.replicate_succ]; simp [ltL, MV.lt, ltL_rep n m]
theorem pureL_rep : ∀ m : Nat, pureL (List.replicate m farM) = true
  | 0 => rfl
  | m + 1 => by rw [List.replicate_succ]; simp [pureL, MV.pure, pureL_rep m]
theorem Repeat_c (k m : Nat) (h1 : 0 < m) (h8 : m ≤ 8) (h : MHeap) {v : MV} (hv : frz 0 [] h 8 v = some (.sl [farM])) : orA (k + 4) 85 [v, I64 (m : Int)] h = some (.arr h.length 0 m 0, h ++ [⟨0, false, 1, List.replicate m farM⟩]) := by
  have hz : runZ MT (orA (3 + k)) (itA (3 + k)) 4000000 85 [.sl [farM], I64 (m : Int)] [] = some (.arr 0 0 m 0, [⟨0, false, 1, List.replicate m farM⟩]) := by
    obtain rfl | rfl | rfl | rfl | rfl | rfl | rfl | rfl : m = 1 ∨ m = 2 ∨ m = 3 ∨ m = 4 ∨ m = 5 ∨ m = 6 ∨ m = 7 ∨ m = 8 := by omega
    · exact runL_up mfW_ok k (m := ⟨48, [(.tmp 4)], (.seq (.reg [⟨none, some 4, .nil0 1⟩]) (.seq (.seq (.reg [⟨none, some 9, .mv (.s 1)⟩, ⟨none, some 10, .bin .lss (.s 9) (.c (.lit (.int .i64 0)))⟩]) (.cond (.s 10) (.reg [⟨none, some 11, .bad⟩, ⟨none, none, .bad⟩]) .skip)) (.seq (.reg [⟨none, some 13, .mv (.s 0)⟩, ⟨none, some 14, .len (.s 13)⟩, ⟨none, some 15, .cv .u64 (.s 14)⟩, ⟨none, some 16, .mv (.s 1)⟩, ⟨none, some 17, .cv .u64 (.s 16)⟩, ⟨none, some 18, .call 103 [.s 15, .s 17]⟩, ⟨none, some 12, .mv (.s 18)⟩, ⟨none, some 19, .ext (.s 12) 0⟩, ⟨none, some 20, .ext (.s 12) 1⟩, ⟨none, some 5, .mv (.s 19)⟩, ⟨none, some 6, .mv (.s 20)⟩]) (.seq (.seq (.reg [⟨none, some 21, .mv (.s 5)⟩, ⟨none, some 22, .bin .gtr (.s 21) (.c (.lit (.int .u64 0)))⟩, ⟨none, some 23, .mv (.s 22)⟩, ⟨some (23, false), some 24, .mv (.s 6)⟩, ⟨some (23, false), some 25, .bin .gtr (.s 24) (.c (.lit (.int .u64 9223372036854775807)))⟩, ⟨none, some 26, .pick (.s 23) (.c (.lit (.bool true))) (.s 25)⟩]) (.cond (.s 26) (.reg [⟨none, some 27, .bad⟩, ⟨none, none, .bad⟩]) .skip)) (.seq (.reg [⟨none, some 28, .mv (.s 6)⟩, ⟨none, some 29, .cv .i64 (.s 28)⟩, ⟨none, some 30, .mks (.lit (.int .i64 0)) (.s 29)⟩, ⟨none, some 7, .mv (.s 30)⟩]) (.seq (.reg [⟨none, some 31, .mv (.s 7)⟩, ⟨none, some 32, .mv (.s 0)⟩, ⟨none, some 33, .cpy (.s 31) (.s 32)⟩, ⟨none, some 8, .mv (.s 33)⟩]) (.seq (.block 0 (.loop [8, 7] (.seq (.seq (.reg [⟨none, some 34, .mv (.s 8)⟩, ⟨none, some 35, .mv (.s 7)⟩, ⟨none, some 36, .len (.s 35)⟩, ⟨none, some 37, .bin .lss (.s 34) (.s 36)⟩]) (.cond (.s 37) .skip (.exit 0))) (.block 1 (.reg [⟨none, some 38, .mv (.s 8)⟩, ⟨none, some 39, .mv (.s 7)⟩, ⟨none, some 40, .mv (.s 8)⟩, ⟨none, some 41, .slc 1 (.s 39) (some (.s 40)) none⟩, ⟨none, some 42, .mv (.s 7)⟩, ⟨none, some 43, .mv (.s 8)⟩, ⟨none, some 44, .slc 1 (.s 42) none (some (.s 43))⟩, ⟨none, some 45, .cpy (.s 41) (.s 44)⟩, ⟨none, some 46, .bin .add (.s 38) (.s 45)⟩, ⟨none, some 8, .mv (.s 46)⟩]))))) (.seq (.reg [⟨none, some 47, .mv (.s 7)⟩, ⟨none, some 4, .mv (.s 47)⟩]) .ret))))))))⟩) (by kernel_rfl) rep_1 _
    · exact runL_up mfW_ok k (m := ⟨48, [(.tmp 4)], (.seq (.reg [⟨none, some 4, .nil0 1⟩]) (.seq (.seq (.reg [⟨none, some 9, .mv (.s 1)⟩, ⟨none, some 10, .bin .lss (.s 9) (.c (.lit (.int .i64 0)))⟩]) (.cond (.s 10) (.reg [⟨none, some 11, .bad⟩, ⟨none, none, .bad⟩]) .skip)) (.seq (.reg [⟨none, some 13, .mv (.s 0)⟩, ⟨none, some 14, .len (.s 13)⟩, ⟨none, some 15, .cv .u64 (.s 14)⟩, ⟨none, some 16, .mv (.s 1)⟩, ⟨none, some 17, .cv .u64 (.s 16)⟩, ⟨none, some 18, .call 103 [.s 15, .s 17]⟩, ⟨none, some 12, .mv (.s 18)⟩, ⟨none, some 19, .ext (.s 12) 0⟩, ⟨none, some 20, .ext (.s 12) 1⟩, ⟨none, some 5, .mv (.s 19)⟩, ⟨none, some 6, .mv (.s 20)⟩]) (.seq (.seq (.reg [⟨none, some 21, .mv (.s 5)⟩, ⟨none, some 22, .bin .gtr (.s 21) (.c (.lit (.int .u64 0)))⟩, ⟨none, some 23, .mv (.s 22)⟩, ⟨some (23, false), some 24, .mv (.s 6)⟩, ⟨some (23, false), some 25, .bin .gtr (.s 24) (.c (.lit (.int .u64 9223372036854775807)))⟩, ⟨none, some 26, .pick (.s 23) (.c (.lit (.bool true))) (.s 25)⟩]) (.cond (.s 26) (.reg [⟨none, some 27, .bad⟩, ⟨none, none, .bad⟩]) .skip)) (.seq (.reg [⟨none, some 28, .mv (.s 6)⟩, ⟨none, some 29, .cv .i64 (.s 28)⟩, ⟨none, some 30, .mks (.lit (.int .i64 0)) (.s 29)⟩, ⟨none, some 7, .mv (.s 30)⟩]) (.seq (.reg [⟨none, some 31, .mv (.s 7)⟩, ⟨none, some 32, .mv (.s 0)⟩, ⟨none, some 33, .cpy (.s 31) (.s 32)⟩, ⟨none, some 8, .mv (.s 33)⟩]) (.seq (.block 0 (.loop [8, 7] (.seq (.seq (.reg [⟨none, some 34, .mv (.s 8)⟩, ⟨none, some 35, .mv (.s 7)⟩, ⟨none, some 36, .len (.s 35)⟩, ⟨none, some 37, .bin .lss (.s 34) (.s 36)⟩]) (.cond (.s 37) .skip (.exit 0))) (.block 1 (.reg [⟨none, some 38, .mv (.s 8)⟩, ⟨none, some 39, .mv (.s 7)⟩, ⟨none, some 40, .mv (.s 8)⟩, ⟨none, some 41, .slc 1 (.s 39) (some (.s 40)) none⟩, ⟨none, some 42, .mv (.s 7)⟩, ⟨none, some 43, .mv (.s 8)⟩, ⟨none, some 44, .slc 1 (.s 42) none (some (.s 43))⟩, ⟨none, some 45, .cpy (.s 41) (.s 44)⟩, ⟨none, some 46, .bin .add (.s 38) (.s 45)⟩, ⟨none, some 8, .mv (.s 46)⟩]))))) (.seq (.reg [⟨none, some 47, .mv (.s 7)⟩, ⟨none, some 4, .mv (.s 47)⟩]) .ret))))))))⟩) (by kernel_rfl) rep_2 _
    · exact runL_up mfW_ok k (m := ⟨48, [(.tmp 4)], (.seq (.reg [⟨none, some 4, .nil0 1⟩]) (.seq (.seq (.reg [⟨none, some 9, .mv (.s 1)⟩, ⟨none, some 10, .bin .lss (.s 9) (.c (.lit (.int .i64 0)))⟩]) (.cond (.s 10) (.reg [⟨none, some 11, .bad⟩, ⟨none, none, .bad⟩]) .skip)) (.seq (.reg [⟨none, some 13, .mv (.s 0)⟩, ⟨none, some 14, .len (.s 13)⟩, ⟨none, some 15, .cv .u64 (.s 14)⟩, ⟨none, some 16, .mv (.s 1)⟩, ⟨none, some 17, .cv .u64 (.s 16)⟩, ⟨none, some 18, .call 103 [.s 15, .s 17]⟩, ⟨none, some 12, .mv (.s 18)⟩, ⟨none, some 19, .ext (.s 12) 0⟩, ⟨none, some 20, .ext (.s 12) 1⟩, ⟨none, some 5, .mv (.s 19)⟩, ⟨none, some 6, .mv (.s 20)⟩]) (.seq (.seq (.reg [⟨none, some 21, .mv (.s 5)⟩, ⟨none, some 22, .bin .gtr (.s 21) (.c (.lit (.int .u64 0)))⟩, ⟨none, some 23, .mv (.s 22)⟩, ⟨some (23, false), some 24, .mv (.s 6)⟩, ⟨some (23, false), some 25, .bin .gtr (.s 24) (.c (.lit (.int .u64 9223372036854775807)))⟩, ⟨none, some 26, .pick (.s 23) (.c (.lit (.bool true))) (.s 25)⟩]) (.cond (.s 26) (.reg [⟨none, some 27, .bad⟩, ⟨none, none, .bad⟩]) .skip)) (.seq (.reg [⟨none, some 28, .mv (.s 6)⟩, ⟨none, some 29, .cv .i64 (.s 28)⟩, ⟨none, some 30, .mks (.lit (.int .i64 0)) (.s 29)⟩, ⟨none, some 7, .mv (.s 30)⟩]) (.seq (.reg [⟨none, some 31, .mv (.s 7)⟩, ⟨none, some 32, .mv (.s 0)⟩, ⟨none, some 33, .cpy (.s 31) (.s 32)⟩, ⟨none, some 8, .mv (.s 33)⟩]) (.seq (.block 0 (.loop [8, 7] (.seq (.seq (.reg [⟨none, some 34, .mv (.s 8)⟩, ⟨none, some 35, .mv (.s 7)⟩, ⟨none, some 36, .len (.s 35)⟩, ⟨none, some 37, .bin .lss (.s 34) (.s 36)⟩]) (.cond (.s 37) .skip (.exit 0))) (.block 1 (.reg [⟨none, some 38, .mv (.s 8)⟩, ⟨none, some 39, .mv (.s 7)⟩, ⟨none, some 40, .mv (.s 8)⟩, ⟨none, some 41, .slc 1 (.s 39) (some (.s 40)) none⟩, ⟨none, some 42, .mv (.s 7)⟩, ⟨none, some 43, .mv (.s 8)⟩, ⟨none, some 44, .slc 1 (.s 42) none (some (.s 43))⟩, ⟨none, some 45, .cpy (.s 41) (.s 44)⟩, ⟨none, some 46, .bin .add (.s 38) (.s 45)⟩, ⟨none, some 8, .mv (.s 46)⟩]))))) (.seq (.reg [⟨none, some 47, .mv (.s 7)⟩, ⟨none, some 4, .mv (.s 47)⟩]) .ret))))))))⟩) (by kernel_rfl) rep_3 _
    · exact runL_up mfW_ok k (m := ⟨48, [(.tmp 4)], (.seq (.reg [⟨none, some 4, .nil0 1⟩]) (.seq (.seq (.reg [⟨none, some 9, .mv (.s 1)⟩, ⟨none, some 10, .bin .lss (.s 9) (.c (.lit (.int .i64 0)))⟩]) (.cond (.s 10) (.reg [⟨none, some 11, .bad⟩, ⟨none, none, .bad⟩]) .skip)) (.seq (.reg [⟨none, some 13, .mv (.s 0)⟩, ⟨none, some 14, .len (.s 13)⟩, ⟨none, some 15, .cv .u64 (.s 14)⟩, ⟨none, some 16, .mv (.s 1)⟩, ⟨none, some 17, .cv .u64 (.s 16)⟩, ⟨none, some 18, .call 103 [.s 15, .s 17]⟩, ⟨none, some 12, .mv (.s 18)⟩, ⟨none, some 19, .ext (.s 12) 0⟩, ⟨none, some 20, .ext (.s 12) 1⟩, ⟨none, some 5, .mv (.s 19)⟩, ⟨none, some 6, .mv (.s 20)⟩]) (.seq (.seq (.reg [⟨none, some 21, .mv (.s 5)⟩, ⟨none, some 22, .bin .gtr (.s 21) (.c (.lit (.int .u64 0)))⟩, ⟨none, some 23, .mv (.s 22)⟩, ⟨some (23, false), some 24, .mv (.s 6)⟩, ⟨some (23, false), some 25, .bin .gtr (.s 24) (.c (.lit (.int .u64 9223372036854775807)))⟩, ⟨none, some 26, .pick (.s 23) (.c (.lit (.bool true))) (.s 25)⟩]) (.cond (.s 26) (.reg [⟨none, some 27, .bad⟩, ⟨none, none, .bad⟩]) .skip)) (.seq (.reg [⟨none, some 28, .mv (.s 6)⟩, ⟨none, some 29, .cv .i64 (.s 28)⟩, ⟨none, some 30, .mks (.lit (.int .i64 0)) (.s 29)⟩, ⟨none, some 7, .mv (.s 30)⟩]) (.seq (.reg [⟨none, some 31, .mv (.s 7)⟩, ⟨none, some 32, .mv (.s 0)⟩, ⟨none, some 33, .cpy (.s 31) (.s 32)⟩, ⟨none, some 8, .mv (.s 33)⟩]) (.seq (.block 0 (.loop [8, 7] (.seq (.seq (.reg [⟨none, some 34, .mv (.s 8)⟩, ⟨none, some 35, .mv (.s 7)⟩, ⟨none, some 36, .len (.s 35)⟩, ⟨none, some 37, .bin .lss (.s 34) (.s 36)⟩]) (.cond (.s 37) .skip (.exit 0))) (.block 1 (.reg [⟨none, some 38, .mv (.s 8)⟩, ⟨none, some 39, .mv (.s 7)⟩, ⟨none, some 40, .mv (.s 8)⟩, ⟨none, some 41, .slc 1 (.s 39) (some (.s 40)) none⟩, ⟨none, some 42, .mv (.s 7)⟩, ⟨none, some 43, .mv (.s 8)⟩, ⟨none, some 44, .slc 1 (.s 42) none (some (.s 43))⟩, ⟨none, some 45, .cpy (.s 41) (.s 44)⟩, ⟨none, some 46, .bin .add (.s 38) (.s 45)⟩, ⟨none, some 8, .mv (.s 46)⟩]))))) (.seq (.reg [⟨none, some 47, .mv (.s 7)⟩, ⟨none, some 4, .mv (.s 47)⟩]) .ret))))))))⟩) (by kernel_rfl) rep_4 _
    · exact runL_up mfW_ok k (m := ⟨48, [(.tmp 4)], (.seq (.reg [⟨none, some 4, .nil0 1⟩]) (.seq (.seq (.reg [⟨none, some 9, .mv (.s 1)⟩, ⟨none, some 10, .bin .lss (.s 9) (.c (.lit (.int .i64 0)))⟩]) (.cond (.s 10) (.reg [⟨none, some 11, .bad⟩, ⟨none, none, .bad⟩]) .skip)) (.seq (.reg [⟨none, some 13, .mv (.s 0)⟩, ⟨none, some 14, .len (.s 13)⟩, ⟨none, some 15, .cv .u64 (.s 14)⟩, ⟨none, some 16, .mv (.s 1)⟩, ⟨none, some 17, .cv .u64 (.s 16)⟩, ⟨none, some 18, .call 103 [.s 15, .s 17]⟩, ⟨none, some 12, .mv (.s 18)⟩, ⟨none, some 19, .ext (.s 12) 0⟩, ⟨none, some 20, .ext (.s 12) 1⟩, ⟨none, some 5, .mv (.s 19)⟩, ⟨none, some 6, .mv (.s 20)⟩]) (.seq (.seq (.reg [⟨none, some 21, .mv (.s 5)⟩, ⟨none, some 22, .bin .gtr (.s 21) (.c (.lit (.int .u64 0)))⟩, ⟨none, some 23, .mv (.s 22)⟩, ⟨some (23, false), some 24, .mv (.s 6)⟩, ⟨some (23, false), some 25, .bin .gtr (.s 24) (.c (.lit (.int .u64 9223372036854775807)))⟩, ⟨none, some 26, .pick (.s 23) (.c (.lit (.bool true))) (.s 25)⟩]) (.cond (.s 26) (.reg [⟨none, some 27, .bad⟩, ⟨none, none, .bad⟩]) .skip)) (.seq (.reg [⟨none, some 28, .mv (.s 6)⟩, ⟨none, some 29, .cv .i64 (.s 28)⟩, ⟨none, some 30, .mks (.lit (.int .i64 0)) (.s 29)⟩, ⟨none, some 7, .mv (.s 30)⟩]) (.seq (.reg [⟨none, some 31, .mv (.s 7)⟩, ⟨none, some 32, .mv (.s 0)⟩, ⟨none, some 33, .cpy (.s 31) (.s 32)⟩, ⟨none, some 8, .mv (.s 33)⟩]) (.seq (.block 0 (.loop [8, 7] (.seq (.seq (.reg [⟨none, some 34, .mv (.s 8)⟩, ⟨none, some 35, .mv (.s 7)⟩, ⟨none, some 36, .len (.s 35)⟩, ⟨none, some 37, .bin .lss (.s 34) (.s 36)⟩]) (.cond (.s 37) .skip (.exit 0))) (.block 1 (.reg [⟨none, some 38, .mv (.s 8)⟩, ⟨none, some 39, .mv (.s 7)⟩, ⟨none, some 40, .mv (.s 8)⟩, ⟨none, some 41, .slc 1 (.s 39) (some (.s 40)) none⟩, ⟨none, some 42, .mv (.s 7)⟩, ⟨none, some 43, .mv (.s 8)⟩, ⟨none, some 44, .slc 1 (.s 42) none (some (.s 43))⟩, ⟨none, some 45, .cpy (.s 41) (.s 44)⟩, ⟨none, some 46, .bin .add (.s 38) (.s 45)⟩, ⟨none, some 8, .mv (.s 46)⟩]))))) (.seq (.reg [⟨none, some 47, .mv (.s 7)⟩, ⟨none, some 4, .mv (.s 47)⟩]) .ret))))))))⟩) (by kernel_rfl) rep_5 _
    · exact runL_up mfW_ok k (m := ⟨48, [(.tmp 4)], (.seq (.reg [⟨none, some 4, .nil0 1⟩]) (.seq (.seq (.reg [⟨none, some 9, .mv (.s 1)⟩, ⟨none, some 10, .bin .lss (.s 9) (.c (.lit (.int .i64 0)))⟩]) (.cond (.s 10) (.reg [⟨none, some 11, .bad⟩, ⟨none, none, .bad⟩]) .skip)) (.seq (.reg [⟨none, some 13, .mv (.s 0)⟩, ⟨none, some 14, .len (.s 13)⟩, ⟨none, some 15, .cv .u64 (.s 14)⟩, ⟨none, some 16, .mv (.s 1)⟩, ⟨none, some 17, .cv .u64 (.s 16)⟩, ⟨none, some 18, .call 103 [.s 15, .s 17]⟩, ⟨none, some 12, .mv (.s 18)⟩, ⟨none, some 19, .ext (.s 12) 0⟩, ⟨none, some 20, .ext (.s 12) 1⟩, ⟨none, some 5, .mv (.s 19)⟩, ⟨none, some 6, .mv (.s 20)⟩]) (.seq (.seq (.reg [⟨none, some 21, .mv (.s 5)⟩, ⟨none, some 22, .bin .gtr (.s 21) (.c (.lit (.int .u64 0)))⟩, ⟨none, some 23, .mv (.s 22)⟩, ⟨some (23, false), some 24, .mv (.s 6)⟩, ⟨some (23, false), some 25, .bin .gtr (.s 24) (.c (.lit (.int .u64 9223372036854775807)))⟩, ⟨none, some 26, .pick (.s 23) (.c (.lit (.bool true))) (.s 25)⟩]) (.cond (.s 26) (.reg [⟨none, some 27, .bad⟩, ⟨none, none, .bad⟩]) .skip)) (.seq (.reg [⟨none, some 28, .mv (.s 6)⟩, ⟨none, some 29, .cv .i64 (.s 28)⟩, ⟨none, some 30, .mks (.lit (.int .i64 0)) (.s 29)⟩, ⟨none, some 7, .mv (.s 30)⟩]) (.seq (.reg [⟨none, some 31, .mv (.s 7)⟩, ⟨none, some 32, .mv (.s 0)⟩, ⟨none, some 33, .cpy (.s 31) (.s 32)⟩, ⟨none, some 8, .mv (.s 33)⟩]) (.seq (.block 0 (.loop [8, 7] (.seq (.seq (.reg [⟨none, some 34, .mv (.s 8)⟩, ⟨none, some 35, .mv (.s 7)⟩, ⟨none, some 36, .len (.s 35)⟩, ⟨none, some 37, .bin .lss (.s 34) (.s 36)⟩]) (.cond (.s 37) .skip (.exit 0))) (.block 1 (.reg [⟨none, some 38, .mv (.s 8)⟩, ⟨none, some 39, .mv (.s 7)⟩, ⟨none, some 40, .mv (.s 8)⟩, ⟨none, some 41, .slc 1 (.s 39) (some (.s 40)) none⟩, ⟨none, some 42, .mv (.s 7)⟩, ⟨none, some 43, .mv (.s 8)⟩, ⟨none, some 44, .slc 1 (.s 42) none (some (.s 43))⟩, ⟨none, some 45, .cpy (.s 41) (.s 44)⟩, ⟨none, some 46, .bin .add (.s 38) (.s 45)⟩, ⟨none, some 8, .mv (.s 46)⟩]))))) (.seq (.reg [⟨none, some 47, .mv (.s 7)⟩, ⟨none, some 4, .mv (.s 47)⟩]) .ret))))))))⟩) (by kernel_rfl) rep_6 _
    · exact runL_up mfW_ok k (m := ⟨48, [(.tmp 4)], (.seq (.reg [⟨none, some 4, .nil0 1⟩]) (.seq (.seq (.reg [⟨none, some 9, .mv (.s 1)⟩, ⟨none, some 10, .bin .lss (.s 9) (.c (.lit (.int .i64 0)))⟩]) (.cond (.s 10) (.reg [⟨none, some 11, .bad⟩, ⟨none, none, .bad⟩]) .skip)) (.seq (.reg [⟨none, some 13, .mv (.s 0)⟩, ⟨none, some 14, .len (.s 13)⟩, ⟨none, some 15, .cv .u64 (.s 14)⟩, ⟨none, some 16, .mv (.s 1)⟩, ⟨none, some 17, .cv .u64 (.s 16)⟩, ⟨none, some 18, .call 103 [.s 15, .s 17]⟩, ⟨none, some 12, .mv (.s 18)⟩, ⟨none, some 19, .ext (.s 12) 0⟩, ⟨none, some 20, .ext (.s 12) 1⟩, ⟨none, some 5, .mv (.s 19)⟩, ⟨none, some 6, .mv (.s 20)⟩]) (.seq (.seq (.reg [⟨none, some 21, .mv (.s 5)⟩, ⟨none, some 22, .bin .gtr (.s 21) (.c (.lit (.int .u64 0)))⟩, ⟨none, some 23, .mv (.s 22)⟩, ⟨some (23, false), some 24, .mv (.s 6)⟩, ⟨some (23, false), some 25, .bin .gtr (.s 24) (.c (.lit (.int .u64 9223372036854775807)))⟩, ⟨none, some 26, .pick (.s 23) (.c (.lit (.bool true))) (.s 25)⟩]) (.cond (.s 26) (.reg [⟨none, some 27, .bad⟩, ⟨none, none, .bad⟩]) .skip)) (.seq (.reg [⟨none, some 28, .mv (.s 6)⟩, ⟨none, some 29, .cv .i64 (.s 28)⟩, ⟨none, some 30, .mks (.lit (.int .i64 0)) (.s 29)⟩, ⟨none, some 7, .mv (.s 30)⟩]) (.seq (.reg [⟨none, some 31, .mv (.s 7)⟩, ⟨none, some 32, .mv (.s 0)⟩, ⟨none, some 33, .cpy (.s 31) (.s 32)⟩, ⟨none, some 8, .mv (.s 33)⟩]) (.seq (.block 0 (.loop [8, 7] (.seq (.seq (.reg [⟨none, some 34, .mv (.s 8)⟩, ⟨none, some 35, .mv (.s 7)⟩, ⟨none, some 36, .len (.s 35)⟩, ⟨none, some 37, .bin .lss (.s 34) (.s 36)⟩]) (.cond (.s 37) .skip (.exit 0))) (.block 1 (.reg [⟨none, some 38, .mv (.s 8)⟩, ⟨none, some 39, .mv (.s 7)⟩, ⟨none, some 40, .mv (.s 8)⟩, ⟨none, some 41, .slc 1 (.s 39) (some (.s 40)) none⟩, ⟨none, some 42, .mv (.s 7)⟩, ⟨none, some 43, .mv (.s 8)⟩, ⟨none, some 44, .slc 1 (.s 42) none (some (.s 43))⟩, ⟨none, some 45, .cpy (.s 41) (.s 44)⟩, ⟨none, some 46, .bin .add (.s 38) (.s 45)⟩, ⟨none, some 8, .mv (.s 46)⟩]))))) (.seq (.reg [⟨none, some 47, .mv (.s 7)⟩, ⟨none, some 4, .mv (.s 47)⟩]) .ret))))))))⟩) (by kernel_rfl) rep_7 _
    · exact runL_up mfW_ok k (m := ⟨48, [(.tmp 4)], (.seq (.reg [⟨none, some 4, .nil0 1⟩]) (.seq (.seq (.reg [⟨none, some 9, .mv (.s 1)⟩, ⟨none, some 10, .bin .lss (.s 9) (.c (.lit (.int .i64 0)))⟩]) (.cond (.s 10) (.reg [⟨none, some 11, .bad⟩, ⟨none, none, .bad⟩]) .skip)) (.seq (.reg [⟨none, some 13, .mv (.s 0)⟩, ⟨none, some 14, .len (.s 13)⟩, ⟨none, some 15, .cv .u64 (.s 14)⟩, ⟨none, some 16, .mv (.s 1)⟩, ⟨none, some 17, .cv .u64 (.s 16)⟩, ⟨none, some 18, .call 103 [.s 15, .s 17]⟩, ⟨none, some 12, .mv (.s 18)⟩, ⟨none, some 19, .ext (.s 12) 0⟩, ⟨none, some 20, .ext (.s 12) 1⟩, ⟨none, some 5, .mv (.s 19)⟩, ⟨none, some 6, .mv (.s 20)⟩]) (.seq (.seq (.reg [⟨none, some 21, .mv (.s 5)⟩, ⟨none, some 22, .bin .gtr (.s 21) (.c (.lit (.int .u64 0)))⟩, ⟨none, some 23, .mv (.s 22)⟩, ⟨some (23, false), some 24, .mv (.s 6)⟩, ⟨some (23, false), some 25, .bin .gtr (.s 24) (.c (.lit (.int .u64 9223372036854775807)))⟩, ⟨none, some 26, .pick (.s 23) (.c (.lit (.bool true))) (.s 25)⟩]) (.cond (.s 26) (.reg [⟨none, some 27, .bad⟩, ⟨none, none, .bad⟩]) .skip)) (.seq (.reg [⟨none, some 28, .mv (.s 6)⟩, ⟨none, some 29, .cv .i64 (.s 28)⟩, ⟨none, some 30, .mks (.lit (.int .i64 0)) (.s 29)⟩, ⟨none, some 7, .mv (.s 30)⟩]) (.seq (.reg [⟨none, some 31, .mv (.s 7)⟩, ⟨none, some 32, .mv (.s 0)⟩, ⟨none, some 33, .cpy (.s 31) (.s 32)⟩, ⟨none, some 8, .mv (.s 33)⟩]) (.seq (.block 0 (.loop [8, 7] (.seq (.seq (.reg [⟨none, some 34, .mv (.s 8)⟩, ⟨none, some 35, .mv (.s 7)⟩, ⟨none, some 36, .len (.s 35)⟩, ⟨none, some 37, .bin .lss (.s 34) (.s 36)⟩]) (.cond (.s 37) .skip (.exit 0))) (.block 1 (.reg [⟨none, some 38, .mv (.s 8)⟩, ⟨none, some 39, .mv (.s 7)⟩, ⟨none, some 40, .mv (.s 8)⟩, ⟨none, some 41, .slc 1 (.s 39) (some (.s 40)) none⟩, ⟨none, some 42, .mv (.s 7)⟩, ⟨none, some 43, .mv (.s 8)⟩, ⟨none, some 44, .slc 1 (.s 42) none (some (.s 43))⟩, ⟨none, some 45, .cpy (.s 41) (.s 44)⟩, ⟨none, some 46, .bin .add (.s 38) (.s 45)⟩, ⟨none, some 8, .mv (.s 46)⟩]))))) (.seq (.reg [⟨none, some 47, .mv (.s 7)⟩, ⟨none, some 4, .mv (.s 47)⟩]) .ret))))))))⟩) (by kernel_rfl) rep_8 _
  rw [Nat.add_comm 3 k] at hz
  have := callA (k := k + 3) (h := h) (args := [v, I64 (m : Int)]) (args' := [.sl [farM], I64 (m : Int)]) (by simp [List.mapM_cons, hv, frz_lt (m := I64 (m : Int)) rfl]) rfl hz rfl (by simp [okH, ltL_rep, pureL_rep])
  simpa [shV, sh1] using this
end Go.Proofs.Ytbdleggmdbihnaa

/- Contracts: the piece of a line at a position; quotients rounded down and up. -/
namespace Go.Proofs.Ytbdleggmdbihnaa
open Go.RowKit
set_option linter.unusedVariables false
end Go.Proofs.Ytbdleggmdbihnaa

/- Contracts: the piece of a line; rounding. -/
namespace Go.Proofs.Ytbdleggmdbihnaa
open Go.RowKit
set_option linter.unusedVariables false
set_option linter.unusedSimpArgs false
theorem mul_bd {a b A B : Int} (h1 : -A ≤ a) (h2 : a ≤ A) (h3 : -B ≤ b) (h4 : b ≤ B) : -(A * B) ≤ a * b ∧ a * b ≤ A * B := by
  have p1 := Int.mul_nonneg (a := A - a) (b := B + b) (by omega) (by omega)
  have p2 := Int.mul_nonneg (a := A + a) (b := B - b) (by omega) (by omega)
  have p3 := Int.mul_nonneg (a := A - a) (b := B - b) (by omega) (by omega)
  have p4 := Int.mul_nonneg (a := A + a) (b := B + b) (by omega) (by omega)
  simp only [Int.sub_mul, Int.mul_sub, Int.add_mul, Int.mul_add] at p1 p2 p3 p4
  omega
theorem mul_w {a b : Int} (A B : Int) (h1 : -A ≤ a) (h2 : a ≤ A) (h3 : -B ≤ b) (h4 : b ≤ B) (h5 : A * B ≤ 1000000000000000000) : IntKind.i64.wrap (a * b) = a * b := by
  have := mul_bd h1 h2 h3 h4
  exact wrap_of (by omega) (by omega)
end Go.Proofs.Ytbdleggmdbihnaa

/- Contracts: the arcs of a flow, all lines, the value of a flow. -/
namespace Go.Proofs.Ytbdleggmdbihnaa
open Go.RowKit
set_option linter.unusedVariables false
set_option linter.unusedSimpArgs false
abbrev encA (a : Ac) : MV := .agg [I64 a.fr, I64 a.tv, I64 a.ln, I64 a.cr, I64 a.sg]
theorem ltL_A (n : Nat) (xs : List Ac) : ltL n (xs.map encA) = true := ltL_lits (fun _ => rfl) xs
theorem pureL_A (xs : List Ac) : pureL (xs.map encA) = true := pureL_lits (fun _ => rfl) xs
def arcF (i : Nat) (x : Cr) (f : Int) : List Ac := if f < x.wt then [⟨x.ti, x.ln, x.df, (i : Int), 1⟩] else []
def arcB (i : Nat) (x : Cr) (f : Int) : List Ac := if 0 - x.wt < f then [⟨x.ln, x.ti, 0 - x.df, (i : Int), -1⟩] else []
def arcsU (cs : List Cr) (fl : List Int) : Nat → List Ac
  | 0 => []
  | i + 1 => arcsU cs fl i ++ (arcF i (cs.getD i default) (cAt fl i) ++ arcB i (cs.getD i default) (cAt fl i))
theorem arcsU_next {cs : List Cr} {fl : List Int} {i : Nat} {x : Cr} (h : cs[i]? = some x) {f : Int} (hf : cAt fl i = f) : arcsU cs fl (i + 1) = arcsU cs fl i ++ (arcF i x f ++ arcB i x f) := by
  rw [arcsU, hf, List.getD_eq_getElem?_getD, h]; rfl
theorem arcF_y {i : Nat} {x : Cr} {f : Int} (h : f < x.wt) : arcF i x f = [⟨x.ti, x.ln, x.df, (i : Int), 1⟩] := by unfold arcF; rw [if_pos h]
theorem arcF_n {i : Nat} {x : Cr} {f : Int} (h : ¬ f < x.wt) : arcF i x f = [] := by unfold arcF; rw [if_neg h]
theorem arcB_y {i : Nat} {x : Cr} {f : Int} (h : 0 - x.wt < f) : arcB i x f = [⟨x.ln, x.ti, 0 - x.df, (i : Int), -1⟩] := by unfold arcB; rw [if_pos h]
theorem arcB_n {i : Nat} {x : Cr} {f : Int} (h : ¬ 0 - x.wt < f) : arcB i x f = [] := by unfold arcB; rw [if_neg h]
theorem arcsU_len (cs : List Cr) (fl : List Int) : ∀ i, (arcsU cs fl i).length ≤ 2 * i
  | 0 => by simp [arcsU]
  | i + 1 => by
    have := arcsU_len cs fl i
    rw [arcsU]
    simp only [List.length_append]
    unfold arcF arcB
    split <;> split <;> simp <;> omega
abbrev arcH (n : Nt) (q : Nat) (rs : List MV) : MHeap := [⟨0, false, 2, [encN n]⟩, ⟨0, true, 5, []⟩, ⟨q, decide (q = 0), 5, rs⟩]
theorem mf_arcs : MT.mf 68 = some ⟨57, [(.tmp 4)], (.seq (.reg [⟨none, some 2, .box 2 (.s 0)⟩, ⟨none, some 4, .nil0 5⟩]) (.seq (.reg [⟨none, some 5, .nil0 5⟩]) (.seq (.seq (.reg [⟨none, some 8, .fa 0 (.s 2)⟩, ⟨none, some 9, .fa 1 (.s 8)⟩, ⟨none, some 10, .ld none (.s 9)⟩, ⟨none, some 11, .len (.s 10)⟩, ⟨none, some 12, .mv (.c (.lit (.int .i64 0)))⟩]) (.block 0 (.loop [12, 11, 10, 1, 5] (.seq (.reg [⟨none, some 13, .bin .lss (.s 12) (.s 11)⟩]) (.seq (.cond (.s 13) .skip (.exit 0)) (.seq (.block 1 (.seq (.reg [⟨none, some 14, .mv (.s 12)⟩, ⟨none, some 15, .ia 6 (.s 10) (.s 12)⟩, ⟨none, some 16, .ld (some 6) (.s 15)⟩, ⟨none, some 7, .new (.agg [(.lit (.int .i64 0)), (.lit (.int .i64 0)), (.lit (.int .i64 0)), (.lit (.int .i64 0)), (.lit (.int .i64 0)), (.lit (.int .i64 0))])⟩, ⟨none, some 6, .mv (.s 14)⟩, ⟨none, none, .st 6 (.s 7) (.s 16)⟩]) (.seq (.seq (.reg [⟨none, some 17, .mv (.s 1)⟩, ⟨none, some 18, .mv (.s 6)⟩, ⟨none, some 19, .ia 1 (.s 17) (.s 18)⟩, ⟨none, some 20, .ld none (.s 19)⟩, ⟨none, some 21, .fa 5 (.s 7)⟩, ⟨none, some 22, .ld none (.s 21)⟩, ⟨none, some 23, .bin .lss (.s 20) (.s 22)⟩]) (.cond (.s 23) (.reg [⟨none, some 24, .mv (.s 5)⟩, ⟨none, some 25, .fa 1 (.s 7)⟩, ⟨none, some 26, .ld none (.s 25)⟩, ⟨none, some 27, .fa 0 (.s 7)⟩, ⟨none, some 28, .ld none (.s 27)⟩, ⟨none, some 29, .fa 4 (.s 7)⟩, ⟨none, some 30, .ld none (.s 29)⟩, ⟨none, some 31, .mv (.s 6)⟩, ⟨none, some 32, .build [(.lit (.int .i64 0)), (.lit (.int .i64 0)), (.lit (.int .i64 0)), (.lit (.int .i64 0)), (.lit (.int .i64 0))] [(0, (1, (.s 26))), (1, (1, (.s 28))), (2, (1, (.s 30))), (3, (1, (.s 31))), (4, (1, (.c (.lit (.int .i64 1)))))]⟩, ⟨none, some 33, .bsl (.agg [(.lit (.int .i64 0)), (.lit (.int .i64 0)), (.lit (.int .i64 0)), (.lit (.int .i64 0)), (.lit (.int .i64 0))]) 5 1 [(0, (.s 32))]⟩, ⟨none, some 34, .app 5 (.s 24) (.s 33)⟩, ⟨none, some 5, .mv (.s 34)⟩]) .skip)) (.seq (.reg [⟨none, some 35, .mv (.s 1)⟩, ⟨none, some 36, .mv (.s 6)⟩, ⟨none, some 37, .ia 1 (.s 35) (.s 36)⟩, ⟨none, some 38, .ld none (.s 37)⟩, ⟨none, some 39, .fa 5 (.s 7)⟩, ⟨none, some 40, .ld none (.s 39)⟩, ⟨none, some 41, .un .neg (.s 40)⟩, ⟨none, some 42, .bin .gtr (.s 38) (.s 41)⟩]) (.cond (.s 42) (.reg [⟨none, some 43, .mv (.s 5)⟩, ⟨none, some 44, .fa 0 (.s 7)⟩, ⟨none, some 45, .ld none (.s 44)⟩, ⟨none, some 46, .fa 1 (.s 7)⟩, ⟨none, some 47, .ld none (.s 46)⟩, ⟨none, some 48, .fa 4 (.s 7)⟩, ⟨none, some 49, .ld none (.s 48)⟩, ⟨none, some 50, .un .neg (.s 49)⟩, ⟨none, some 51, .mv (.s 6)⟩, ⟨none, some 52, .build [(.lit (.int .i64 0)), (.lit (.int .i64 0)), (.lit (.int .i64 0)), (.lit (.int .i64 0)), (.lit (.int .i64 0))] [(0, (1, (.s 45))), (1, (1, (.s 47))), (2, (1, (.s 50))), (3, (1, (.s 51))), (4, (1, (.c (.lit (.int .i64 (-1))))))]⟩, ⟨none, some 53, .bsl (.agg [(.lit (.int .i64 0)), (.lit (.int .i64 0)), (.lit (.int .i64 0)), (.lit (.int .i64 0)), (.lit (.int .i64 0))]) 5 1 [(0, (.s 52))]⟩, ⟨none, some 54, .app 5 (.s 43) (.s 53)⟩, ⟨none, some 5, .mv (.s 54)⟩]) .skip))))) (.reg [⟨none, some 55, .bin .add (.s 12) (.c (.lit (.int .i64 1)))⟩, ⟨none, some 12, .mv (.s 55)⟩]))))))) (.seq (.reg [⟨none, some 56, .mv (.s 5)⟩, ⟨none, some 4, .mv (.s 56)⟩]) .ret))))⟩ := by kernel_rfl
set_option maxHeartbeats 2000000 in
theorem arcs_z (k : Nat) (n : Nt) (ok : OkN n) (fl : List Int) (hf : fl.length = n.cs.length) :
    runZ MT (orA k) (itA k) 4000000 68 [encN n, .sl (fl.map I64)] [] = some (.arr 0 0 (arcsU n.cs fl n.cs.length).length 0, [⟨0, decide ((arcsU n.cs fl n.cs.length).length = 0), 5, (arcsU n.cs fl n.cs.length).map encA⟩]) := by
  have hs2 : (MV.sl (n.cs.map encCr)).slen = some n.cs.length := by simp [MV.slen]
  have c16 := ok.c16
  refine runZ_of mf_arcs (by simp) ?_
  simp only [argsL]
  repeat (first | apply ef_seq | (apply ef_mv; exact rfl; exact rfl) | (apply ef_len; exact rfl; exact rfl; (assumption)) | (apply ef_ldp; exact rfl; exact rfl; (exact rfl); exact rfl; (exact rfl); (exact rfl)) | (apply ef_fap; exact rfl; exact rfl) | (apply ef_box; exact rfl; exact rfl; exact rfl; exact rfl) | (apply ef_nil0; exact rfl) | apply ef_nil | apply seqQ.normal | apply ef_block)
  refine ef_loopf (α := Nat × Nat × List MV) (fun p => p.1 ≤ n.cs.length ∧ p.2.1 = (arcsU n.cs fl p.1).length ∧ p.2.2 = (arcsU n.cs fl p.1).map encA) (fun p => [(12, I64 (p.1 : Int)), (5, .arr 2 0 p.2.1 p.2.1)]) [(11, I64 (n.cs.length : Int)), (10, .sl (n.cs.map encCr)), (1, .sl (fl.map I64))] (fun p => arcH n p.2.1 p.2.2) (fun p => n.cs.length - p.1) (0, 0, []) [12, 5] (fun _ => rfl) (by ((repeat (refine Hold.cons (by exact rfl) ?_)); exact Hold.nil)) (by ((repeat (refine Hold.cons (by exact rfl) ?_)); exact Hold.nil)) rfl rfl ⟨by omega, rfl, rfl⟩ (by simp; omega) ?_
  rintro ⟨i, q, rs⟩ ⟨hi, hq, hrs⟩
  try simp only at hi hq hrs ⊢
  have kl := arcsU_len n.cs fl i
  have hrl : rs.length = q := by rw [hrs, hq]; simp
  have hlr : ∀ j, ltL j rs = true := fun j => by rw [hrs]; exact ltL_A j _
  by_cases hlt : i < n.cs.length
  · have e1 := at_map encCr n.cs i hlt
    have hat : n.cs[i]? = some n.cs[i] := List.getElem?_eq_getElem hlt
    have hx := ok.rg n.cs[i] (List.getElem_mem hlt)
    have e2 := cAt_at hf (i := (i : Int)) (by omega) (by omega)
    generalize n.cs[i] = x at e1 hat hx
    have HN := Lib.hid (arcsU_next (fl := fl) hat rfl)
    have w1 := hx.wt
    have w2 := hx.df
    generalize cAt fl i = f at e2 HN
    by_cases q1 : f < x.wt
    · by_cases q2 : 0 - x.wt < f
      · repeat (first | apply ef_seq | (apply ef_mv; exact rfl; exact rfl) | (apply ef_bin; exact rfl; exact rfl; exact rfl; (exact cmp_t rfl (by first | exact rfl | (simp only [cmpP]; omega)))) | (apply ef_ldr; exact rfl; exact rfl; (first | exact rd_6 rfl rfl rfl rfl rfl rfl | exact rfl)) | (apply ef_ldp; exact rfl; exact rfl; (exact rfl); exact rfl; (exact rfl); (exact rfl)) | (apply ef_ias; exact rfl; exact rfl; exact rfl; (omega); assumption; exact rfl) | (apply ef_fap; exact rfl; exact rfl) | (apply ef_new; exact rfl) | (apply ef_build; exact rfl; (repeat (apply XVs.cons; exact rfl)); exact XVs.nil; exact rfl; exact rfl) | (apply ef_bsl; exact rfl; (repeat (apply XVs.cons; exact rfl)); exact XVs.nil; exact rfl) | (apply ef_st; exact rfl; exact rfl; exact rfl; exact rfl; exact rfl; exact rfl; (exact rfl); exact rfl) | apply ef_nil | apply seqQ.normal | apply ef_block | apply ef_skip | (apply ef_condt; exact rfl; (exact (rfl : true = true))))
        (apply ef_app; (· exact rfl); (· exact rfl); (· exact rfl); (· exact rfl); (· exact rfl); (· exact rfl); (· (simp [hrl])); (· exact rfl); (· (simp [hrl]; omega)); (· (exact rfl)); (· exact rfl))
        repeat (first | apply ef_seq | (apply ef_mv; exact rfl; exact rfl) | (apply ef_bin; exact rfl; exact rfl; exact rfl; (exact cmp_t rfl (by first | exact rfl | (simp only [cmpP]; omega)))) | (apply ef_ldr; exact rfl; exact rfl; (exact rfl)) | (apply ef_ldp; exact rfl; exact rfl; (exact rfl); exact rfl; (exact rfl); (exact rfl)) | (apply ef_ias; exact rfl; exact rfl; exact rfl; (omega); assumption; exact rfl) | (apply ef_fap; exact rfl; exact rfl) | (apply ef_neg; exact rfl; exact rfl; exact wrap_of (by omega) (by omega)) | (apply ef_build; exact rfl; (repeat (apply XVs.cons; exact rfl)); exact XVs.nil; exact rfl; exact rfl) | (apply ef_bsl; exact rfl; (repeat (apply XVs.cons; exact rfl)); exact XVs.nil; exact rfl) | apply ef_nil | apply seqQ.normal | (apply ef_condt; exact rfl; (exact (rfl : true = true))))
        (apply ef_app; (· exact rfl); (· exact rfl); (· exact rfl); (· exact rfl); (· exact rfl); (· exact rfl); (· (simp [hrl])); (· exact rfl); (· (simp [hrl]; omega)); (· (exact rfl)); (· exact rfl))
        repeat (first | (apply ef_mv; exact rfl; exact rfl) | (apply ef_bin; exact rfl; exact rfl; exact rfl; (((with_reducible refine bin_add (wrap_of ?_ ?_)) <;> omega))) | apply ef_nil | apply seqQ.normal | apply blockQ.normal)
        (refine loopQ.normal _ _ ⟨(i + 1, q + 2, rs ++ [encA ⟨x.ti, x.ln, x.df, (i : Int), 1⟩] ++ [encA ⟨x.ln, x.ti, 0 - x.df, (i : Int), -1⟩]), ⟨hlt, by rw [HN.out, arcF_y q1, arcB_y q2, hq]; simp, by rw [HN.out, arcF_y q1, arcB_y q2, hrs]; simp⟩, (by first | (simp only; omega) | omega), ⟨by ((repeat (refine Hold.cons (by exact rfl) ?_)); exact Hold.nil), by ((repeat (refine Hold.cons (by exact rfl) ?_)); exact Hold.nil)⟩, .inr ⟨by ((repeat (refine hdl_cons rfl (by first | rfl | (simp [MV.lt, ltL, ltL_Ln, ltL_Cr, ltL_I, hlr, ltL_app2, splice, MV.cells])) ?_)); exact hdl_nil), by (simp [hltL, ltL, MV.lt, ltL, ltL_Ln, ltL_Cr, ltL_I, hlr, ltL_app2, splice, MV.cells])⟩, by exact rfl⟩)
      · repeat (first | apply ef_seq | (apply ef_mv; exact rfl; exact rfl) | (apply ef_bin; exact rfl; exact rfl; exact rfl; (exact cmp_t rfl (by first | exact rfl | (simp only [cmpP]; omega)))) | (apply ef_ldr; exact rfl; exact rfl; (first | exact rd_6 rfl rfl rfl rfl rfl rfl | exact rfl)) | (apply ef_ldp; exact rfl; exact rfl; (exact rfl); exact rfl; (exact rfl); (exact rfl)) | (apply ef_ias; exact rfl; exact rfl; exact rfl; (omega); assumption; exact rfl) | (apply ef_fap; exact rfl; exact rfl) | (apply ef_new; exact rfl) | (apply ef_build; exact rfl; (repeat (apply XVs.cons; exact rfl)); exact XVs.nil; exact rfl; exact rfl) | (apply ef_bsl; exact rfl; (repeat (apply XVs.cons; exact rfl)); exact XVs.nil; exact rfl) | (apply ef_st; exact rfl; exact rfl; exact rfl; exact rfl; exact rfl; exact rfl; (exact rfl); exact rfl) | apply ef_nil | apply seqQ.normal | apply ef_block | apply ef_skip | (apply ef_condt; exact rfl; (exact (rfl : true = true))))
        (apply ef_app; (· exact rfl); (· exact rfl); (· exact rfl); (· exact rfl); (· exact rfl); (· exact rfl); (· (simp [hrl])); (· exact rfl); (· (simp [hrl]; omega)); (· (exact rfl)); (· exact rfl))
        repeat (first | apply ef_seq | (apply ef_mv; exact rfl; exact rfl) | (apply ef_bin; exact rfl; exact rfl; exact rfl; (first | exact cmp_f rfl (by simp only [cmpP]; omega) | ((with_reducible refine bin_add (wrap_of ?_ ?_)) <;> omega))) | (apply ef_ldr; exact rfl; exact rfl; (exact rfl)) | (apply ef_ldp; exact rfl; exact rfl; (exact rfl); exact rfl; (exact rfl); (exact rfl)) | (apply ef_ias; exact rfl; exact rfl; exact rfl; (omega); assumption; exact rfl) | (apply ef_fap; exact rfl; exact rfl) | (apply ef_neg; exact rfl; exact rfl; exact wrap_of (by omega) (by omega)) | apply ef_nil | apply seqQ.normal | apply blockQ.normal | apply ef_skip | (apply ef_condf; exact rfl; (exact (rfl : false = false))))
        (refine loopQ.normal _ _ ⟨(i + 1, q + 1, rs ++ [encA ⟨x.ti, x.ln, x.df, (i : Int), 1⟩]), ⟨hlt, by rw [HN.out, arcF_y q1, arcB_n q2, hq]; simp, by rw [HN.out, arcF_y q1, arcB_n q2, hrs]; simp⟩, (by first | (simp only; omega) | omega), ⟨by ((repeat (refine Hold.cons (by exact rfl) ?_)); exact Hold.nil), by ((repeat (refine Hold.cons (by exact rfl) ?_)); exact Hold.nil)⟩, .inr ⟨by ((repeat (refine hdl_cons rfl (by first | rfl | (simp [MV.lt, ltL, ltL_Ln, ltL_Cr, ltL_I, hlr, ltL_app2, splice, MV.cells])) ?_)); exact hdl_nil), by (simp [hltL, ltL, MV.lt, ltL, ltL_Ln, ltL_Cr, ltL_I, hlr, ltL_app2, splice, MV.cells])⟩, by exact rfl⟩)
    · by_cases q2 : 0 - x.wt < f
      · repeat (first | apply ef_seq | (apply ef_mv; exact rfl; exact rfl) | (apply ef_bin; exact rfl; exact rfl; exact rfl; (first | exact cmp_t rfl (by first | exact rfl | (simp only [cmpP]; omega)) | exact cmp_f rfl (by simp only [cmpP]; omega))) | (apply ef_ldr; exact rfl; exact rfl; (first | exact rd_6 rfl rfl rfl rfl rfl rfl | exact rfl)) | (apply ef_ldp; exact rfl; exact rfl; (exact rfl); exact rfl; (exact rfl); (exact rfl)) | (apply ef_ias; exact rfl; exact rfl; exact rfl; (omega); assumption; exact rfl) | (apply ef_fap; exact rfl; exact rfl) | (apply ef_neg; exact rfl; exact rfl; exact wrap_of (by omega) (by omega)) | (apply ef_new; exact rfl) | (apply ef_build; exact rfl; (repeat (apply XVs.cons; exact rfl)); exact XVs.nil; exact rfl; exact rfl) | (apply ef_bsl; exact rfl; (repeat (apply XVs.cons; exact rfl)); exact XVs.nil; exact rfl) | (apply ef_st; exact rfl; exact rfl; exact rfl; exact rfl; exact rfl; exact rfl; (exact rfl); exact rfl) | apply ef_nil | apply seqQ.normal | apply ef_block | apply ef_skip | (apply ef_condt; exact rfl; (exact (rfl : true = true))) | (apply ef_condf; exact rfl; (exact (rfl : false = false))))
        (apply ef_app; (· exact rfl); (· exact rfl); (· exact rfl); (· exact rfl); (· exact rfl); (· exact rfl); (· (simp [hrl])); (· exact rfl); (· (simp [hrl]; omega)); (· (exact rfl)); (· exact rfl))
        repeat (first | (apply ef_mv; exact rfl; exact rfl) | (apply ef_bin; exact rfl; exact rfl; exact rfl; (((with_reducible refine bin_add (wrap_of ?_ ?_)) <;> omega))) | apply ef_nil | apply seqQ.normal | apply blockQ.normal)
        (refine loopQ.normal _ _ ⟨(i + 1, q + 1, rs ++ [encA ⟨x.ln, x.ti, 0 - x.df, (i : Int), -1⟩]), ⟨hlt, by rw [HN.out, arcF_n q1, arcB_y q2, hq]; simp, by rw [HN.out, arcF_n q1, arcB_y q2, hrs]; simp⟩, (by first | (simp only; omega) | omega), ⟨by ((repeat (refine Hold.cons (by exact rfl) ?_)); exact Hold.nil), by ((repeat (refine Hold.cons (by exact rfl) ?_)); exact Hold.nil)⟩, .inr ⟨by ((repeat (refine hdl_cons rfl (by first | rfl | (simp [MV.lt, ltL, ltL_Ln, ltL_Cr, ltL_I, hlr, ltL_app2, splice, MV.cells])) ?_)); exact hdl_nil), by (simp [hltL, ltL, MV.lt, ltL, ltL_Ln, ltL_Cr, ltL_I, hlr, ltL_app2, splice, MV.cells])⟩, by exact rfl⟩)
      · omega
  · obtain rfl : i = n.cs.length := by omega
    subst hq
    repeat (first | apply ef_seq | (apply ef_mv; exact rfl; exact rfl) | (apply ef_bin; exact rfl; exact rfl; exact rfl; (exact cmp_f rfl (by simp only [cmpP]; omega))) | apply ef_nil | apply seqQ.normal | apply loopQ.exit | apply ef_ret | apply ef_exit | apply seqQ.exit | apply blockQ.here | (apply ef_condf; exact rfl; (exact (rfl : false = false))))
    (apply fin_arr; (· exact rfl); (· exact rfl); (· exact rfl); (· exact rfl); (· (show 0 + _ ≤ rs.length; omega)); (· (exact hlr 0)); (· (show (rs.drop 0).take _ = _; rw [List.drop_zero, List.take_of_length_le (by omega), hrs])); (· exact rfl); (· exact rfl); (· rfl))
theorem arcs_c (k : Nat) (n : Nt) (ok : OkN n) (fl : List Int) (hf : fl.length = n.cs.length) (h : MHeap) {v : MV} (hv : frz 0 [] h 8 v = some (.sl (fl.map I64))) :
    orA (k + 1) 68 [encN n, v] h = some (.arr h.length 0 (arcsU n.cs fl n.cs.length).length 0, h ++ [⟨0, decide ((arcsU n.cs fl n.cs.length).length = 0), 5, (arcsU n.cs fl n.cs.length).map encA⟩]) := by
  have := callA (k := k) (h := h) (args := [encN n, v]) (args' := [encN n, .sl (fl.map I64)]) (by simp [List.mapM_cons, hv, frz_lt (ltL_N n 0)]) rfl (arcs_z k n ok fl hf) rfl (by simp [okH, ltL_A, pureL_A])
  simpa [shV, sh1] using this
def upL : Nat → List Int
  | 0 => []
  | i + 1 => upL i ++ [(i : Int)]
theorem upL_len : ∀ i, (upL i).length = i
  | 0 => rfl
  | i + 1 => by rw [upL]; simp [upL_len i]
theorem mf_all : MT.mf 69 = some ⟨18, [(.tmp 2)], (.seq (.reg [⟨none, some 1, .box 2 (.s 0)⟩, ⟨none, some 2, .nil0 1⟩]) (.seq (.reg [⟨none, some 3, .nil0 1⟩]) (.seq (.seq (.reg [⟨none, some 5, .fa 0 (.s 1)⟩, ⟨none, some 6, .fa 0 (.s 5)⟩, ⟨none, some 7, .ld none (.s 6)⟩, ⟨none, some 8, .len (.s 7)⟩, ⟨none, some 9, .mv (.c (.lit (.int .i64 0)))⟩]) (.block 0 (.loop [9, 8, 3] (.seq (.reg [⟨none, some 10, .bin .lss (.s 9) (.s 8)⟩]) (.seq (.cond (.s 10) .skip (.exit 0)) (.seq (.block 1 (.seq (.reg [⟨none, some 11, .mv (.s 9)⟩, ⟨none, some 4, .mv (.s 11)⟩]) (.reg [⟨none, some 12, .mv (.s 3)⟩, ⟨none, some 13, .mv (.s 4)⟩, ⟨none, some 14, .bsl (.lit (.int .i64 0)) 1 1 [(0, (.s 13))]⟩, ⟨none, some 15, .app 1 (.s 12) (.s 14)⟩, ⟨none, some 3, .mv (.s 15)⟩]))) (.reg [⟨none, some 16, .bin .add (.s 9) (.c (.lit (.int .i64 1)))⟩, ⟨none, some 9, .mv (.s 16)⟩]))))))) (.seq (.reg [⟨none, some 17, .mv (.s 3)⟩, ⟨none, some 2, .mv (.s 17)⟩]) .ret))))⟩ := by kernel_rfl
theorem all_z (k : Nat) (n : Nt) (hn : n.ls.length ≤ 1000) :
    runZ MT (orA k) (itA k) 4000000 69 [encN n] [] = some (.arr 0 0 n.ls.length 0, [⟨0, decide (n.ls.length = 0), 1, (upL n.ls.length).map I64⟩]) := by
  have hs2 : (MV.sl (n.ls.map encLn)).slen = some n.ls.length := by simp [MV.slen]
  refine runZ_of mf_all (by simp) ?_
  simp only [argsL]
  repeat (first | apply ef_seq | (apply ef_mv; exact rfl; exact rfl) | (apply ef_len; exact rfl; exact rfl; (assumption)) | (apply ef_ldp; exact rfl; exact rfl; (exact rfl); exact rfl; (exact rfl); (exact rfl)) | (apply ef_fap; exact rfl; exact rfl) | (apply ef_box; exact rfl; exact rfl; exact rfl; exact rfl) | (apply ef_nil0; exact rfl) | apply ef_nil | apply seqQ.normal | apply ef_block)
  refine ef_loopf (α := Nat × List MV) (fun p => p.1 ≤ n.ls.length ∧ p.2 = (upL p.1).map I64) (fun p => [(9, I64 (p.1 : Int)), (3, .arr 2 0 p.1 p.1)]) [(8, I64 (n.ls.length : Int))] (fun p => [⟨0, false, 2, [encN n]⟩, ⟨0, true, 1, []⟩, ⟨p.1, decide (p.1 = 0), 1, p.2⟩]) (fun p => n.ls.length - p.1) (0, []) [9, 3] (fun _ => rfl) (by ((repeat (refine Hold.cons (by exact rfl) ?_)); exact Hold.nil)) (by ((repeat (refine Hold.cons (by exact rfl) ?_)); exact Hold.nil)) rfl rfl ⟨by omega, rfl⟩ (by simp; omega) ?_
  rintro ⟨i, rs⟩ ⟨hi, hrs⟩
  try simp only at hi hrs ⊢
  have hrl : rs.length = i := by rw [hrs]; simp [upL_len]
  have hlr : ∀ j, ltL j rs = true := fun j => by rw [hrs]; exact ltL_I j _
  by_cases hlt : i < n.ls.length
  · repeat (first | apply ef_seq | (apply ef_mv; exact rfl; exact rfl) | (apply ef_bin; exact rfl; exact rfl; exact rfl; (exact cmp_t rfl (by first | exact rfl | (simp only [cmpP]; omega)))) | (apply ef_bsl; exact rfl; (repeat (apply XVs.cons; exact rfl)); exact XVs.nil; exact rfl) | apply ef_nil | apply seqQ.normal | apply ef_block | apply ef_skip | (apply ef_condt; exact rfl; (exact (rfl : true = true))))
    (apply ef_app; (· exact rfl); (· exact rfl); (· exact rfl); (· exact rfl); (· exact rfl); (· exact rfl); (· (simp [hrl])); (· exact rfl); (· (simp [hrl]; omega)); (· (exact rfl)); (· exact rfl))
    repeat (first | (apply ef_mv; exact rfl; exact rfl) | (apply ef_bin; exact rfl; exact rfl; exact rfl; (((with_reducible refine bin_add (wrap_of ?_ ?_)) <;> omega))) | apply ef_nil | apply seqQ.normal | apply blockQ.normal)
    (refine loopQ.normal _ _ ⟨(i + 1, rs ++ [I64 (i : Int)]), ⟨hlt, by rw [hrs, upL]; simp⟩, (by first | (simp only; omega) | omega), ⟨by ((repeat (refine Hold.cons (by exact rfl) ?_)); exact Hold.nil), by ((repeat (refine Hold.cons (by exact rfl) ?_)); exact Hold.nil)⟩, .inr ⟨by ((repeat (refine hdl_cons rfl (by first | rfl | (simp [MV.lt, ltL, ltL_Ln, ltL_Cr, ltL_I, hlr, ltL_app2, splice, MV.cells])) ?_)); exact hdl_nil), by (simp [hltL, ltL, MV.lt, ltL, ltL_Ln, ltL_Cr, ltL_I, hlr, ltL_app2, splice, MV.cells])⟩, by exact rfl⟩)
  · obtain rfl : i = n.ls.length := by omega
    repeat (first | apply ef_seq | (apply ef_mv; exact rfl; exact rfl) | (apply ef_bin; exact rfl; exact rfl; exact rfl; (exact cmp_f rfl (by simp only [cmpP]; omega))) | apply ef_nil | apply seqQ.normal | apply loopQ.exit | apply ef_ret | apply ef_exit | apply seqQ.exit | apply blockQ.here | (apply ef_condf; exact rfl; (exact (rfl : false = false))))
    (apply fin_arr; (· exact rfl); (· exact rfl); (· exact rfl); (· exact rfl); (· (show 0 + _ ≤ rs.length; omega)); (· (exact hlr 0)); (· (show (rs.drop 0).take _ = _; rw [List.drop_zero, List.take_of_length_le (by omega), hrs])); (· exact rfl); (· exact rfl); (· rfl))
theorem all_c (k : Nat) (n : Nt) (hn : n.ls.length ≤ 1000) (h : MHeap) :
    orA (k + 1) 69 [encN n] h = some (.arr h.length 0 n.ls.length 0, h ++ [⟨0, decide (n.ls.length = 0), 1, (upL n.ls.length).map I64⟩]) := by
  have := callA (k := k) (h := h) (args := [encN n]) (args' := [encN n]) (frzL_lt (by simp [ltL, MV.lt, ltL_Ln, ltL_Cr])) rfl (all_z k n hn) rfl (by simp [okH, ltL_I, pureL_I])
  simpa [shV, sh1] using this
def valU (cs : List Cr) (fl : List Int) : Nat → Int
  | 0 => 0
  | i + 1 => valU cs fl i + cAt fl i * (cs.getD i default).df
theorem valU_next {cs : List Cr} {fl : List Int} {i : Nat} {x : Cr} (h : cs[i]? = some x) : valU cs fl (i + 1) = valU cs fl i + cAt fl i * x.df := by
  rw [valU, List.getD_eq_getElem?_getD, h]; rfl
theorem valU_bd {n : Nt} (ok : OkN n) {fl : List Int} (hb : ∀ z ∈ fl, -10 ≤ z ∧ z ≤ 10) : ∀ i, i ≤ n.cs.length → -(100000 * (i : Int)) ≤ valU n.cs fl i ∧ valU n.cs fl i ≤ 100000 * (i : Int)
  | 0, _ => by simp [valU]
  | i + 1, hi => by
    have ih := valU_bd ok hb i (by omega)
    have hx := (ok.rg n.cs[i] (List.getElem_mem (by omega))).df
    rw [valU_next (List.getElem?_eq_getElem (by omega))]
    have hf : -10 ≤ cAt fl i ∧ cAt fl i ≤ 10 := by
      unfold cAt
      rw [List.getD_eq_getElem?_getD]
      cases hh : fl[(i : Int).toNat]? with
      | none => simp
      | some z => exact hb z (List.mem_of_getElem? hh)
    have := mul_bd (a := cAt fl i) (b := n.cs[i].df) (A := 10) (B := 10000) (by omega) (by omega) (by omega) (by omega)
    omega
theorem mf_value : MT.mf 43 = some ⟨28, [(.tmp 4)], (.seq (.reg [⟨none, some 2, .box 2 (.s 0)⟩, ⟨none, some 4, .mv (.c (.lit (.int .i64 0)))⟩]) (.seq (.reg [⟨none, some 5, .mv (.c (.lit (.int .i64 0)))⟩]) (.seq (.seq (.reg [⟨none, some 8, .fa 0 (.s 2)⟩, ⟨none, some 9, .fa 1 (.s 8)⟩, ⟨none, some 10, .ld none (.s 9)⟩, ⟨none, some 11, .len (.s 10)⟩, ⟨none, some 12, .mv (.c (.lit (.int .i64 0)))⟩]) (.block 0 (.loop [12, 11, 10, 5, 1] (.seq (.reg [⟨none, some 13, .bin .lss (.s 12) (.s 11)⟩]) (.seq (.cond (.s 13) .skip (.exit 0)) (.seq (.block 1 (.seq (.reg [⟨none, some 14, .mv (.s 12)⟩, ⟨none, some 15, .ia 6 (.s 10) (.s 12)⟩, ⟨none, some 16, .ld (some 6) (.s 15)⟩, ⟨none, some 7, .new (.agg [(.lit (.int .i64 0)), (.lit (.int .i64 0)), (.lit (.int .i64 0)), (.lit (.int .i64 0)), (.lit (.int .i64 0)), (.lit (.int .i64 0))])⟩, ⟨none, some 6, .mv (.s 14)⟩, ⟨none, none, .st 6 (.s 7) (.s 16)⟩]) (.reg [⟨none, some 17, .mv (.s 5)⟩, ⟨none, some 18, .mv (.s 1)⟩, ⟨none, some 19, .mv (.s 6)⟩, ⟨none, some 20, .ia 1 (.s 18) (.s 19)⟩, ⟨none, some 21, .ld none (.s 20)⟩, ⟨none, some 22, .fa 4 (.s 7)⟩, ⟨none, some 23, .ld none (.s 22)⟩, ⟨none, some 24, .bin .mul (.s 21) (.s 23)⟩, ⟨none, some 25, .bin .add (.s 17) (.s 24)⟩, ⟨none, some 5, .mv (.s 25)⟩]))) (.reg [⟨none, some 26, .bin .add (.s 12) (.c (.lit (.int .i64 1)))⟩, ⟨none, some 12, .mv (.s 26)⟩]))))))) (.seq (.reg [⟨none, some 27, .mv (.s 5)⟩, ⟨none, some 4, .mv (.s 27)⟩]) .ret))))⟩ := by kernel_rfl
set_option maxHeartbeats 1000000 in
theorem value_z (k : Nat) (n : Nt) (ok : OkN n) (fl : List Int) (hf : fl.length = n.cs.length) (hb : ∀ z ∈ fl, -10 ≤ z ∧ z ≤ 10) :
    runZ MT (orA k) (itA k) 4000000 43 [encN n, .sl (fl.map I64)] [] = some (I64 (valU n.cs fl n.cs.length), []) := by
  have hs2 : (MV.sl (n.cs.map encCr)).slen = some n.cs.length := by simp [MV.slen]
  have c16 := ok.c16
  refine runZ_of mf_value (by simp) ?_
  simp only [argsL]
  repeat (first | apply ef_seq | (apply ef_mv; exact rfl; exact rfl) | (apply ef_len; exact rfl; exact rfl; (assumption)) | (apply ef_ldp; exact rfl; exact rfl; (exact rfl); exact rfl; (exact rfl); (exact rfl)) | (apply ef_fap; exact rfl; exact rfl) | (apply ef_box; exact rfl; exact rfl; exact rfl; exact rfl) | apply ef_nil | apply seqQ.normal | apply ef_block)
  refine ef_loopf (α := Nat × Int) (fun p => p.1 ≤ n.cs.length ∧ p.2 = valU n.cs fl p.1) (fun p => [(12, I64 (p.1 : Int)), (5, I64 p.2)]) [(11, I64 (n.cs.length : Int)), (10, .sl (n.cs.map encCr)), (1, .sl (fl.map I64))] (fun _ => [⟨0, false, 2, [encN n]⟩]) (fun p => n.cs.length - p.1) (0, 0) [12, 5] (fun _ => rfl) (by ((repeat (refine Hold.cons (by exact rfl) ?_)); exact Hold.nil)) (by ((repeat (refine Hold.cons (by exact rfl) ?_)); exact Hold.nil)) rfl rfl ⟨by omega, rfl⟩ (by simp; omega) ?_
  rintro ⟨i, q⟩ ⟨hi, hq⟩
  try simp only at hi hq ⊢
  by_cases hlt : i < n.cs.length
  · have e1 := at_map encCr n.cs i hlt
    have hat : n.cs[i]? = some n.cs[i] := List.getElem?_eq_getElem hlt
    have hx := ok.rg n.cs[i] (List.getElem_mem hlt)
    have e2 := cAt_at hf (i := (i : Int)) (by omega) (by omega)
    have hv := valU_bd ok hb i hi
    have hvn := valU_bd ok hb (i + 1) hlt
    generalize n.cs[i] = x at e1 hat hx
    have HN := Lib.hid (valU_next (fl := fl) hat)
    rw [HN.out] at hvn
    have hff : -10 ≤ cAt fl i ∧ cAt fl i ≤ 10 := by
      unfold cAt
      rw [List.getD_eq_getElem?_getD]
      cases hh : fl[(i : Int).toNat]? with
      | none => simp
      | some z => exact hb z (List.mem_of_getElem? hh)
    have w2 := hx.df
    rw [← hq] at hv hvn
    generalize cAt fl i = f at e2 HN hvn hff
    have m1 := mul_w (a := f) (b := x.df) 10 10000 (by omega) (by omega) (by omega) (by omega) (by omega)
    repeat (first | apply ef_seq | (apply ef_mv; exact rfl; exact rfl) | (apply ef_bin; exact rfl; exact rfl; exact rfl; (first | exact cmp_t rfl (by first | exact rfl | (simp only [cmpP]; omega)) | ((with_reducible refine bin_add (wrap_of ?_ ?_)) <;> omega) | ((with_reducible refine bin_mul (wrap_of ?_ ?_)) <;> omega))) | (apply ef_ldr; exact rfl; exact rfl; (first | exact rd_6 rfl rfl rfl rfl rfl rfl | exact rfl)) | (apply ef_ldp; exact rfl; exact rfl; (exact rfl); exact rfl; (exact rfl); (exact rfl)) | (apply ef_ias; exact rfl; exact rfl; exact rfl; (omega); assumption; exact rfl) | (apply ef_fap; exact rfl; exact rfl) | (apply ef_new; exact rfl) | (apply ef_st; exact rfl; exact rfl; exact rfl; exact rfl; exact rfl; exact rfl; (exact rfl); exact rfl) | apply ef_nil | apply seqQ.normal | apply blockQ.normal | apply ef_block | apply ef_skip | (apply ef_condt; exact rfl; (exact (rfl : true = true))))
    (refine loopQ.normal _ _ ⟨(i + 1, q + f * x.df), ⟨hlt, by rw [HN.out, hq]⟩, (by first | (simp only; omega) | omega), ⟨by ((repeat (refine Hold.cons (by exact rfl) ?_)); exact Hold.nil), by ((repeat (refine Hold.cons (by exact rfl) ?_)); exact Hold.nil)⟩, .inr ⟨by ((repeat (refine hdl_cons rfl (by first | rfl | (simp [MV.lt, ltL, ltL_Ln, ltL_Cr, ltL_I, splice, MV.cells])) ?_)); exact hdl_nil), by (simp [hltL, ltL, MV.lt, ltL, ltL_Ln, ltL_Cr, ltL_I, splice, MV.cells])⟩, by exact rfl⟩)
  · obtain rfl : i = n.cs.length := by omega
    repeat (first | apply ef_seq | (apply ef_mv; exact rfl; exact rfl) | (apply ef_bin; exact rfl; exact rfl; exact rfl; (exact cmp_f rfl (by simp only [cmpP]; omega))) | apply ef_nil | apply seqQ.normal | apply loopQ.exit | apply ef_ret | apply ef_exit | apply seqQ.exit | apply blockQ.here | (apply ef_condf; exact rfl; (exact (rfl : false = false))))
    (refine fin1 rfl (by exact rfl) rfl ?_)
    rw [hq]
theorem value_c (k : Nat) (n : Nt) (ok : OkN n) (fl : List Int) (hf : fl.length = n.cs.length) (hb : ∀ z ∈ fl, -10 ≤ z ∧ z ≤ 10) (h : MHeap) {v : MV} (hv : frz 0 [] h 8 v = some (.sl (fl.map I64))) :
    orA (k + 1) 43 [encN n, v] h = some (I64 (valU n.cs fl n.cs.length), h) :=
  callL (args' := [encN n, .sl (fl.map I64)]) (by simp [List.mapM_cons, hv, frz_lt (ltL_N n 0)]) rfl (value_z k n ok fl hf hb)
end Go.Proofs.Ytbdleggmdbihnaa

/- longest: the walk. -/
namespace Go.Proofs.Ytbdleggmdbihnaa
open Go.RowKit
set_option linter.unusedVariables false
set_option linter.unusedSimpArgs false
def srcU (m : Nat) (fs : List Int) : Nat → List Int
  | 0 => List.replicate m (-1099511627776)
  | i + 1 => (srcU m fs i).set (fs.getD i 0).toNat 0
theorem srcU_len (m : Nat) (fs : List Int) : ∀ i, (srcU m fs i).length = m
  | 0 => by simp [srcU]
  | i + 1 => by rw [srcU, List.length_set]; exact srcU_len m fs i
theorem srcU_next {m : Nat} {fs : List Int} {i : Nat} {v : Int} (h : fs[i]? = some v) : srcU m fs (i + 1) = (srcU m fs i).set v.toNat 0 := by
  rw [srcU, List.getD_eq_getElem?_getD, h]; rfl
theorem srcU_bd (m : Nat) (fs : List Int) : ∀ i v, -1099511627776 ≤ cAt (srcU m fs i) v ∧ cAt (srcU m fs i) v ≤ 0
  | 0, v => by
    unfold cAt srcU
    rw [List.getD_eq_getElem?_getD, List.getElem?_replicate]
    split <;> simp
  | i + 1, v => by
    have h := srcU_bd m fs i v
    rw [srcU, cAt_put]
    split
    · simp
    · exact h
abbrev srcL (m : Nat) (fs : List Int) : List Int := srcU m fs fs.length
abbrev lgS (ar : List Ac) (m : Nat) (fs : List Int) : LgS × Bool := lgR ar (m + 1) ⟨srcL m fs, List.replicate m 0, -1⟩
def lgC (ar : List Ac) (m : Nat) (fs : List Int) : List Ac :=
  if (lgS ar m fs).2 = true then [] else cycL ar (lgS ar m fs).1.P (bkN ar (lgS ar m fs).1.P m (lgS ar m fs).1.ch) (frs ar (lgS ar m fs).1.P (bkN ar (lgS ar m fs).1.P m (lgS ar m fs).1.ch) m 1)
theorem rlx_y {k : Nat} {a : Ac} {s : LgS} (h1 : cAt s.L a.fr > -549755813888) (h2 : cAt s.L a.fr + a.ln > cAt s.L a.tv) : rlx k a s = ⟨s.L.set a.tv.toNat (cAt s.L a.fr + a.ln), s.P.set a.tv.toNat k, a.tv⟩ := by unfold rlx; rw [if_pos ⟨h1, h2⟩]
theorem rlx_n {k : Nat} {a : Ac} {s : LgS} (h : ¬ (cAt s.L a.fr > -549755813888 ∧ cAt s.L a.fr + a.ln > cAt s.L a.tv)) : rlx k a s = s := by unfold rlx; rw [if_neg h]
theorem lit_at {L : List Int} {m : Nat} {rs : List MV} (hr : rs = L.map I64) (hl : L.length = m) {v : Int} (h0 : 0 ≤ v) (h1 : v < (m : Int)) : rs[0 + v.toNat]? = some (I64 (cAt L v)) := by
  rw [hr, Nat.zero_add]; exact cAt_at hl h0 h1
theorem fin_ar2 {x : MX2} {A : Sl} {h : MHeap} {t u id id' k k' g g' : Nat} {o o' : MObj} {es es' : List MV} {sz sz' : Nat} {nl nl' : Bool} (hx : outX x = true) (hv : look A t = some (.arr id 0 k g)) (hw : look A u = some (.arr id' 0 k' g')) (hne : id ≠ id') (ho : h[id]? = some o) (ho' : h[id']? = some o') (hg : o.g = g) (hg' : o'.g = g') (hk : k = es.length) (hk' : k' = es'.length) (hl : ltL 0 es = true) (hl' : ltL 0 es' = true) (he : o.es = es) (he' : o'.es = es') (hz : o.sz = sz) (hz' : o'.sz = sz') (hn : o.nl = nl) (hn' : o'.nl = nl') :
    FinF [.tmp t, .tmp u] (.tup [.arr 0 0 k 0, .arr 1 0 k' 0]) [⟨0, nl, sz, es⟩, ⟨0, nl', sz', es'⟩] x A h := by
  subst hz hz' hn hn' he he' hk hk'
  refine ⟨hx, [.arr id 0 o.es.length g, .arr id' 0 o'.es.length g'], [.arr 0 0 o.es.length 0, .arr 1 0 o'.es.length 0], ⟨_, _, rfl, hv, _, [], rfl, hw, rfl⟩, ?_, ?_, rfl⟩
  · simp [impIds, hne]
  · simp [expL, ho, ho', hg, hg', hl, hl', frz, MV.lt]
theorem ltL_set {n : Nat} {v : MV} : ∀ {rs : List MV} {i : Nat}, ltL n rs = true → v.lt n = true → ltL n (rs.set i v) = true
  | [], i, h, _ => h
  | r :: rs, 0, h, hv => by
    simp only [ltL, Bool.and_eq_true] at h
    simp [List.set, ltL, h.2, hv]
  | r :: rs, i + 1, h, hv => by
    simp only [ltL, Bool.and_eq_true] at h
    simp [List.set, ltL, h.1, ltL_set h.2 hv]
theorem ltL_zer (n m : Nat) : ltL n (List.replicate m (I64 0)) = true := by
  have : List.replicate m (I64 0) = (List.replicate m (0 : Int)).map I64 := by simp
  rw [this]; exact ltL_I n _
abbrev lgH (rL rP : List MV) : MHeap := [⟨0, true, 1, []⟩, ⟨0, true, 5, []⟩, ⟨0, false, 1, [farM]⟩, ⟨0, false, 1, rL⟩, ⟨0, false, 1, rP⟩]
theorem cycL_len (ar : List Ac) (P : List Int) (c : Int) (p : Nat) : (cycL ar P c p).length = p := by simp [cycL]
theorem mf_longest : MT.mf 63 = some ⟨125, [(.tmp 6), (.tmp 7)], (.seq (.reg [⟨none, some 6, .nil0 1⟩, ⟨none, some 7, .nil0 5⟩]) (.seq (.reg [⟨none, some 18, .bsl (.lit (.int .i64 0)) 1 1 [(0, (.c (.lit (.int .i64 (-1099511627776)))))]⟩, ⟨none, some 19, .mv (.s 0)⟩, ⟨none, some 20, .call 85 [.s 18, .s 19]⟩, ⟨none, some 8, .mv (.s 20)⟩]) (.seq (.reg [⟨none, some 21, .mv (.s 0)⟩, ⟨none, some 22, .mks (.lit (.int .i64 0)) (.s 21)⟩, ⟨none, some 9, .mv (.s 22)⟩]) (.seq (.seq (.reg [⟨none, some 23, .mv (.s 2)⟩, ⟨none, some 24, .len (.s 23)⟩, ⟨none, some 25, .mv (.c (.lit (.int .i64 0)))⟩]) (.block 0 (.loop [25, 24, 23, 8, 0, 1, 9] (.seq (.reg [⟨none, some 26, .bin .lss (.s 25) (.s 24)⟩]) (.seq (.cond (.s 26) .skip (.exit 0)) (.seq (.block 1 (.seq (.reg [⟨none, some 27, .ia 1 (.s 23) (.s 25)⟩, ⟨none, some 28, .ld none (.s 27)⟩, ⟨none, some 11, .mv (.s 28)⟩]) (.reg [⟨none, some 29, .mv (.s 8)⟩, ⟨none, some 30, .mv (.s 11)⟩, ⟨none, some 31, .ia 1 (.s 29) (.s 30)⟩, ⟨none, none, .st 1 (.s 31) (.c (.lit (.int .i64 0)))⟩]))) (.reg [⟨none, some 32, .bin .add (.s 25) (.c (.lit (.int .i64 1)))⟩, ⟨none, some 25, .mv (.s 32)⟩]))))))) (.seq (.reg [⟨none, some 12, .mv (.c (.lit (.int .i64 (-1))))⟩]) (.seq (.seq (.reg [⟨none, some 33, .mv (.s 0)⟩, ⟨none, some 34, .bin .add (.s 33) (.c (.lit (.int .i64 1)))⟩, ⟨none, some 35, .mv (.c (.lit (.int .i64 0)))⟩]) (.block 2 (.loop [35, 34, 1, 8, 9, 0, 12] (.seq (.reg [⟨none, some 36, .bin .lss (.s 35) (.s 34)⟩]) (.seq (.cond (.s 36) .skip (.exit 2)) (.seq (.block 3 (.seq (.reg [⟨none, some 12, .mv (.c (.lit (.int .i64 (-1))))⟩]) (.seq (.seq (.reg [⟨none, some 37, .mv (.s 1)⟩, ⟨none, some 38, .len (.s 37)⟩, ⟨none, some 39, .mv (.c (.lit (.int .i64 0)))⟩]) (.block 4 (.loop [39, 38, 37, 8, 9, 35, 34, 1, 0, 12] (.seq (.reg [⟨none, some 40, .bin .lss (.s 39) (.s 38)⟩]) (.seq (.cond (.s 40) .skip (.exit 4)) (.seq (.block 5 (.seq (.reg [⟨none, some 41, .mv (.s 39)⟩, ⟨none, some 42, .ia 5 (.s 37) (.s 39)⟩, ⟨none, some 43, .ld (some 5) (.s 42)⟩, ⟨none, some 14, .new (.agg [(.lit (.int .i64 0)), (.lit (.int .i64 0)), (.lit (.int .i64 0)), (.lit (.int .i64 0)), (.lit (.int .i64 0))])⟩, ⟨none, some 13, .mv (.s 41)⟩, ⟨none, none, .st 5 (.s 14) (.s 43)⟩]) (.seq (.reg [⟨none, some 44, .mv (.s 8)⟩, ⟨none, some 45, .fa 0 (.s 14)⟩, ⟨none, some 46, .ld none (.s 45)⟩, ⟨none, some 47, .ia 1 (.s 44) (.s 46)⟩, ⟨none, some 48, .ld none (.s 47)⟩, ⟨none, some 49, .fa 2 (.s 14)⟩, ⟨none, some 50, .ld none (.s 49)⟩, ⟨none, some 51, .bin .add (.s 48) (.s 50)⟩, ⟨none, some 15, .mv (.s 51)⟩]) (.seq (.reg [⟨none, some 52, .mv (.s 8)⟩, ⟨none, some 53, .fa 0 (.s 14)⟩, ⟨none, some 54, .ld none (.s 53)⟩, ⟨none, some 55, .ia 1 (.s 52) (.s 54)⟩, ⟨none, some 56, .ld none (.s 55)⟩, ⟨none, some 57, .bin .gtr (.s 56) (.c (.lit (.int .i64 (-549755813888))))⟩, ⟨none, some 58, .mv (.s 57)⟩, ⟨some (58, true), some 59, .mv (.s 15)⟩, ⟨some (58, true), some 60, .mv (.s 8)⟩, ⟨some (58, true), some 61, .fa 1 (.s 14)⟩, ⟨some (58, true), some 62, .ld none (.s 61)⟩, ⟨some (58, true), some 63, .ia 1 (.s 60) (.s 62)⟩, ⟨some (58, true), some 64, .ld none (.s 63)⟩, ⟨some (58, true), some 65, .bin .gtr (.s 59) (.s 64)⟩, ⟨none, some 66, .pick (.s 58) (.s 65) (.c (.lit (.bool false)))⟩]) (.cond (.s 66) (.reg [⟨none, some 67, .mv (.s 8)⟩, ⟨none, some 68, .fa 1 (.s 14)⟩, ⟨none, some 69, .ld none (.s 68)⟩, ⟨none, some 70, .mv (.s 9)⟩, ⟨none, some 71, .fa 1 (.s 14)⟩, ⟨none, some 72, .ld none (.s 71)⟩, ⟨none, some 73, .mv (.s 15)⟩, ⟨none, some 74, .mv (.s 13)⟩, ⟨none, some 75, .fa 1 (.s 14)⟩, ⟨none, some 76, .ld none (.s 75)⟩, ⟨none, some 77, .ia 1 (.s 67) (.s 69)⟩, ⟨none, none, .st 1 (.s 77) (.s 73)⟩, ⟨none, some 78, .ia 1 (.s 70) (.s 72)⟩, ⟨none, none, .st 1 (.s 78) (.s 74)⟩, ⟨none, some 12, .mv (.s 76)⟩, ⟨none, none, .ne (.s 71) (.s 77)⟩, ⟨none, none, .ne (.s 75) (.s 77)⟩, ⟨none, none, .ne (.s 75) (.s 78)⟩]) .skip))))) (.reg [⟨none, some 79, .bin .add (.s 39) (.c (.lit (.int .i64 1)))⟩, ⟨none, some 39, .mv (.s 79)⟩]))))))) (.seq (.reg [⟨none, some 80, .mv (.s 12)⟩, ⟨none, some 81, .bin .lss (.s 80) (.c (.lit (.int .i64 0)))⟩]) (.cond (.s 81) (.seq (.reg [⟨none, some 82, .mv (.s 8)⟩, ⟨none, some 6, .mv (.s 82)⟩, ⟨none, some 7, .nil0 5⟩]) .ret) .skip))))) (.reg [⟨none, some 83, .bin .add (.s 35) (.c (.lit (.int .i64 1)))⟩, ⟨none, some 35, .mv (.s 83)⟩]))))))) (.seq (.seq (.reg [⟨none, some 84, .mv (.s 0)⟩, ⟨none, some 85, .mv (.c (.lit (.int .i64 0)))⟩]) (.block 6 (.loop [85, 84, 1, 9, 12, 8] (.seq (.reg [⟨none, some 86, .bin .lss (.s 85) (.s 84)⟩]) (.seq (.cond (.s 86) .skip (.exit 6)) (.seq (.block 7 (.reg [⟨none, some 87, .mv (.s 1)⟩, ⟨none, some 88, .mv (.s 9)⟩, ⟨none, some 89, .mv (.s 12)⟩, ⟨none, some 90, .ia 1 (.s 88) (.s 89)⟩, ⟨none, some 91, .ld none (.s 90)⟩, ⟨none, some 92, .ia 5 (.s 87) (.s 91)⟩, ⟨none, some 93, .fa 0 (.s 92)⟩, ⟨none, some 94, .ld none (.s 93)⟩, ⟨none, some 12, .mv (.s 94)⟩])) (.reg [⟨none, some 95, .bin .add (.s 85) (.c (.lit (.int .i64 1)))⟩, ⟨none, some 85, .mv (.s 95)⟩]))))))) (.seq (.reg [⟨none, some 16, .nil0 5⟩]) (.seq (.seq (.reg [⟨none, some 96, .mv (.s 12)⟩, ⟨none, some 17, .mv (.s 96)⟩]) (.block 8 (.loop [16, 17, 12, 1, 9, 8] (.seq (.seq (.reg [⟨none, some 97, .mv (.s 16)⟩, ⟨none, some 98, .len (.s 97)⟩, ⟨none, some 99, .bin .eql (.s 98) (.c (.lit (.int .i64 0)))⟩, ⟨none, some 100, .mv (.s 99)⟩, ⟨some (100, false), some 101, .mv (.s 17)⟩, ⟨some (100, false), some 102, .mv (.s 12)⟩, ⟨some (100, false), some 103, .bin .neq (.s 101) (.s 102)⟩, ⟨none, some 104, .pick (.s 100) (.c (.lit (.bool true))) (.s 103)⟩]) (.cond (.s 104) .skip (.exit 8))) (.seq (.block 9 (.reg [⟨none, some 113, .mv (.s 16)⟩, ⟨none, some 114, .mv (.s 1)⟩, ⟨none, some 115, .mv (.s 9)⟩, ⟨none, some 116, .mv (.s 17)⟩, ⟨none, some 117, .ia 1 (.s 115) (.s 116)⟩, ⟨none, some 118, .ld none (.s 117)⟩, ⟨none, some 119, .ia 5 (.s 114) (.s 118)⟩, ⟨none, some 120, .ld (some 5) (.s 119)⟩, ⟨none, some 121, .bsl (.agg [(.lit (.int .i64 0)), (.lit (.int .i64 0)), (.lit (.int .i64 0)), (.lit (.int .i64 0)), (.lit (.int .i64 0))]) 5 1 [(0, (.s 120))]⟩, ⟨none, some 122, .app 5 (.s 113) (.s 121)⟩, ⟨none, some 16, .mv (.s 122)⟩])) (.reg [⟨none, some 105, .mv (.s 1)⟩, ⟨none, some 106, .mv (.s 9)⟩, ⟨none, some 107, .mv (.s 17)⟩, ⟨none, some 108, .ia 1 (.s 106) (.s 107)⟩, ⟨none, some 109, .ld none (.s 108)⟩, ⟨none, some 110, .ia 5 (.s 105) (.s 109)⟩, ⟨none, some 111, .fa 0 (.s 110)⟩, ⟨none, some 112, .ld none (.s 111)⟩, ⟨none, some 17, .mv (.s 112)⟩])))))) (.seq (.reg [⟨none, some 123, .mv (.s 8)⟩, ⟨none, some 124, .mv (.s 16)⟩, ⟨none, some 6, .mv (.s 123)⟩, ⟨none, some 7, .mv (.s 124)⟩]) .ret))))))))))⟩ := by kernel_rfl
set_option maxHeartbeats 4000000 in
theorem longest_z (k m : Nat) (h1 : 0 < m) (h8 : m ≤ 8) (ar : List Ac) (B : Int) (hB : 0 ≤ B) (hB2 : B ≤ 100000) (hO : ∀ a ∈ ar, OkA m B a) (hl : ar.length ≤ 64) (fs : List Int) (hf : ∀ v ∈ fs, 0 ≤ v ∧ v < (m : Int)) (hfl : fs.length ≤ 1000) :
    runZ MT (orA (k + 4)) (itA (k + 4)) 4000000 63 [I64 (m : Int), .sl (ar.map encA), .sl (fs.map I64)] [] = some (.tup [.arr 0 0 m 0, .arr 1 0 (lgC ar m fs).length 0], [⟨0, false, 1, (lgS ar m fs).1.L.map I64⟩, ⟨0, decide ((lgC ar m fs).length = 0), 5, (lgC ar m fs).map encA⟩]) := by
  have hs1 : (MV.sl (ar.map encA)).slen = some ar.length := by simp [MV.slen]
  have hs2 : (MV.sl (fs.map I64)).slen = some fs.length := by simp [MV.slen]
  have hrp := fun h v hv => Repeat_c k m h1 h8 h (v := v) hv
  refine runZ_of mf_longest (by simp) ?_
  simp only [argsL]
  repeat (first | apply ef_seq | (apply ef_mv; exact rfl; exact rfl) | (apply ef_nil0; exact rfl) | (apply ef_bsl; exact rfl; (repeat (apply XVs.cons; exact rfl)); exact XVs.nil; exact rfl) | apply ef_nil | apply seqQ.normal)
  (apply ef_call; (· exact rfl); (· ((repeat (apply XVs.cons; exact rfl)); exact XVs.nil)); · exact hrp _ _ rfl)
  repeat (first | apply ef_seq | (apply ef_mv; exact rfl; exact rfl) | (apply ef_len; exact rfl; exact rfl; (assumption)) | (apply ef_mks; exact rfl; exact rfl; (omega); (omega)) | apply ef_nil | apply seqQ.normal | apply ef_block)
  refine ef_loopf (α := Nat × List MV) (fun p => p.1 ≤ fs.length ∧ p.2 = (srcU m fs p.1).map I64) (fun p => [(25, I64 (p.1 : Int))]) [(24, I64 (fs.length : Int)), (23, .sl (fs.map I64)), (8, .arr 3 0 m 0), (0, I64 (m : Int)), (1, .sl (ar.map encA)), (9, .arr 4 0 m 0)] (fun p => lgH p.2 (List.replicate m (I64 0))) (fun p => fs.length - p.1) (0, List.replicate m farM) [25] (fun _ => rfl) (by ((repeat (refine Hold.cons (by exact rfl) ?_)); exact Hold.nil)) (by ((repeat (refine Hold.cons (by exact rfl) ?_)); exact Hold.nil)) rfl rfl ⟨by omega, by simp [srcU]⟩ (by simp; omega) ?_
  rintro ⟨i, rs⟩ ⟨hi, hrs⟩
  try simp only at hi hrs ⊢
  have hsl := srcU_len m fs i
  have hlr : ∀ j, ltL j rs = true := fun j => by rw [hrs]; exact ltL_I j _
  have hls : ∀ (j i : Nat) (x : Int), ltL j (rs.set i (I64 x)) = true := fun j i x => ltL_set (hlr j) rfl
  by_cases hlt : i < fs.length
  · have e1 := at_map I64 fs i hlt
    have hat : fs[i]? = some fs[i] := List.getElem?_eq_getElem hlt
    have hr := hf fs[i] (List.getElem_mem hlt)
    generalize fs[i] = v at e1 hat hr
    have HN := Lib.hid (srcU_next (m := m) hat)
    have e2 := lit_at hrs hsl hr.1 hr.2
    repeat (first | apply ef_seq | (apply ef_mv; exact rfl; exact rfl) | (apply ef_bin; exact rfl; exact rfl; exact rfl; (first | exact cmp_t rfl (by first | exact rfl | (simp only [cmpP]; omega)) | ((with_reducible refine bin_add (wrap_of ?_ ?_)) <;> omega))) | (apply ef_ldr; exact rfl; exact rfl; (exact rfl)) | (apply ef_ias; exact rfl; exact rfl; exact rfl; (omega); assumption; exact rfl) | (apply ef_iaa; exact rfl; exact rfl; exact rfl; (omega); (omega); (exact rfl)) | (apply ef_st; exact rfl; exact rfl; exact rfl; exact rfl; exact rfl; exact rfl; (assumption); exact rfl) | apply ef_nil | apply seqQ.normal | apply blockQ.normal | apply ef_block | apply ef_skip | (apply ef_condt; exact rfl; (exact (rfl : true = true))))
    (refine loopQ.normal _ _ ⟨(i + 1, rs.set (0 + v.toNat) (I64 0)), ⟨hlt, by rw [HN.out, hrs, List.map_set, Nat.zero_add]⟩, (by first | (simp only; omega) | omega), ⟨by ((repeat (refine Hold.cons (by exact rfl) ?_)); exact Hold.nil), by ((repeat (refine Hold.cons (by exact rfl) ?_)); exact Hold.nil)⟩, .inr ⟨by ((repeat (refine hdl_cons rfl (by first | rfl | (simp [MV.lt, ltL, ltL_A, ltL_I, hls, ltL_zer, hlr, splice, MV.cells])) ?_)); exact hdl_nil), by (simp [hltL, ltL, MV.lt, ltL, ltL_A, ltL_I, hls, ltL_zer, hlr, splice, MV.cells])⟩, by exact rfl⟩)
  · obtain rfl : i = fs.length := by omega
    have hinit : LgI ar m B (srcL m fs) 0 0 (fun _ => 0) ⟨srcL m fs, List.replicate m 0, -1⟩ := LgI.init hsl (srcU_bd m fs fs.length)
    have HG := lgR_ok hB hO (m + 1) 0 _ ⟨srcL m fs, List.replicate m 0, -1⟩ hinit
    repeat (first | apply ef_seq | (apply ef_mv; exact rfl; exact rfl) | (apply ef_bin; exact rfl; exact rfl; exact rfl; (first | exact cmp_f rfl (by simp only [cmpP]; omega) | ((with_reducible refine bin_add (wrap_of ?_ ?_)) <;> omega))) | apply ef_nil | apply seqQ.normal | apply loopQ.exit | apply ef_exit | apply seqQ.exit | apply blockQ.here | apply ef_block | (apply ef_condf; exact rfl; (exact (rfl : false = false))))
    refine ef_loopf (α := Nat × LgS × List MV × List MV) (fun p => p.1 ≤ m + 1 ∧ p.2.2.1 = p.2.1.L.map I64 ∧ p.2.2.2 = p.2.1.P.map I64 ∧ lgS ar m fs = lgR ar (m + 1 - p.1) p.2.1 ∧ ∃ t, LgI ar m B (srcL m fs) p.1 0 t ⟨p.2.1.L, p.2.1.P, -1⟩) (fun p => [(35, I64 (p.1 : Int)), (12, I64 p.2.1.ch)]) [(34, I64 ((m : Int) + 1)), (1, .sl (ar.map encA)), (8, .arr 3 0 m 0), (9, .arr 4 0 m 0), (0, I64 (m : Int))] (fun p => lgH p.2.2.1 p.2.2.2) (fun p => m + 1 - p.1) (0, ⟨srcL m fs, List.replicate m 0, -1⟩, rs, List.replicate m (I64 0)) [35, 12] (fun _ => rfl) (by ((repeat (refine Hold.cons (by exact rfl) ?_)); exact Hold.nil)) (by ((repeat (refine Hold.cons (by exact rfl) ?_)); exact Hold.nil)) rfl rfl ⟨by omega, hrs, by simp, rfl, _, hinit⟩ (by simp; omega) ?_
    rintro ⟨r, s, rL, rP⟩ ⟨hr, hL, hP, hS, t, HI⟩
    try simp only at hr hL hP hS HI ⊢
    by_cases hrr : r < m + 1
    · repeat (first | apply ef_seq | (apply ef_mv; exact rfl; exact rfl) | (apply ef_bin; exact rfl; exact rfl; exact rfl; (exact cmp_t rfl (by first | exact rfl | (simp only [cmpP]; omega)))) | (apply ef_len; exact rfl; exact rfl; (assumption)) | apply ef_nil | apply seqQ.normal | apply ef_block | apply ef_skip | (apply ef_condt; exact rfl; (exact (rfl : true = true))))
      refine ef_loopf (α := Nat × LgS × List MV × List MV) (fun p => p.1 ≤ ar.length ∧ p.2.2.1 = p.2.1.L.map I64 ∧ p.2.2.2 = p.2.1.P.map I64 ∧ rndA ar 0 ⟨s.L, s.P, -1⟩ = rndA (ar.drop p.1) p.1 p.2.1 ∧ ∃ t, LgI ar m B (srcL m fs) r p.1 t p.2.1) (fun p => [(39, I64 (p.1 : Int)), (12, I64 p.2.1.ch)]) [(38, I64 (ar.length : Int)), (37, .sl (ar.map encA)), (35, I64 (r : Int)), (34, I64 ((m : Int) + 1)), (1, .sl (ar.map encA)), (8, .arr 3 0 m 0), (9, .arr 4 0 m 0), (0, I64 (m : Int))] (fun p => lgH p.2.2.1 p.2.2.2) (fun p => ar.length - p.1) (0, ⟨s.L, s.P, -1⟩, rL, rP) [39, 12] (fun _ => rfl) (by ((repeat (refine Hold.cons (by exact rfl) ?_)); exact Hold.nil)) (by ((repeat (refine Hold.cons (by exact rfl) ?_)); exact Hold.nil)) rfl rfl ⟨by omega, hL, hP, rfl, t, HI⟩ (by simp; omega) ?_
      rintro ⟨j, u, uL, uP⟩ ⟨hj, hL2, hP2, hS2, t2, HI2⟩
      try simp only at hj hL2 hP2 hS2 HI2 ⊢
      by_cases hlj : j < ar.length
      · have e1 := at_map encA ar j hlj
        have oa := hO ar[j] (List.getElem_mem hlj)
        obtain ⟨t3, HI3⟩ := HI2.one hB hlj hO
        have HR := Lib.hid (rndA_at hlj u)
        have b1 := HI2.bd ar[j].fr
        have lL := HI2.lenL
        have lP := HI2.lenP
        have e2 := lit_at hL2 lL oa.f0 oa.f1
        have e3 := lit_at hL2 lL oa.t0 oa.t1
        have e4 := lit_at hP2 lP oa.t0 oa.t1
        have a1 := oa.f0
        have a2 := oa.f1
        have a3 := oa.t0
        have a4 := oa.t1
        have a5 := oa.l0
        have a6 := oa.l1
        have hbig : B * ((r * ar.length + j : Nat) : Int) ≤ 100000 * 1000 := by
          have q1 : r * ar.length ≤ 8 * 64 := Nat.mul_le_mul (by omega) hl
          exact Int.mul_le_mul hB2 (by omega) (by omega) (by omega)
        by_cases c1 : cAt u.L ar[j].fr > -549755813888
        · by_cases c2 : cAt u.L ar[j].fr + ar[j].ln > cAt u.L ar[j].tv
          · rw [rlx_y c1 c2] at HI3
            have HR2 := HR.out
            rw [rlx_y c1 c2] at HR2
            have HR3 := Lib.hid HR2
            clear HR HR2
            generalize ar[j] = a at e1 e2 e3 e4 a1 a2 a3 a4 a5 a6 b1 c1 c2 HI3 HR3
            have hls1 : ∀ (j i : Nat) (x : Int), ltL j (uL.set i (I64 x)) = true := fun j i x => ltL_set (by rw [hL2]; exact ltL_I j _) rfl
            have hls2 : ∀ (j i : Nat) (x : Int), ltL j (uP.set i (I64 x)) = true := fun j i x => ltL_set (by rw [hP2]; exact ltL_I j _) rfl
            repeat (first | apply ef_seq | (apply ef_mv; exact rfl; exact rfl) | (apply ef_bin; exact rfl; exact rfl; exact rfl; (first | exact cmp_t rfl (by first | exact rfl | (simp only [cmpP]; omega)) | ((with_reducible refine bin_add (wrap_of ?_ ?_)) <;> omega))) | (apply ef_gy; exact rfl; (exact (rfl : true = true))) | (apply ef_pick; exact rfl; exact rfl; exact rfl) | (apply ef_ldr; exact rfl; exact rfl; (exact rd_5 rfl rfl rfl rfl rfl)) | (apply ef_ldp; exact rfl; exact rfl; (exact rfl); exact rfl; (first | exact rfl | assumption); (exact rfl)) | (apply ef_ias; exact rfl; exact rfl; exact rfl; (omega); assumption; exact rfl) | (apply ef_iaa; exact rfl; exact rfl; exact rfl; (omega); (omega); (exact rfl)) | (apply ef_fap; exact rfl; exact rfl) | (apply ef_new; exact rfl) | (apply ef_ne; exact rfl; exact rfl; (exact rfl)) | (apply ef_st; exact rfl; exact rfl; exact rfl; exact rfl; exact rfl; exact rfl; (first | exact rfl | assumption); exact rfl) | apply ef_nil | apply seqQ.normal | apply blockQ.normal | apply ef_block | apply ef_skip | (apply ef_condt; exact rfl; (exact (rfl : true = true))))
            (refine loopQ.normal _ _ ⟨(j + 1, ⟨u.L.set a.tv.toNat (cAt u.L a.fr + a.ln), u.P.set a.tv.toNat j, a.tv⟩, uL.set (0 + a.tv.toNat) (I64 (cAt u.L a.fr + a.ln)), uP.set (0 + a.tv.toNat) (I64 (j : Int))), ⟨hlj, by rw [hL2, Nat.zero_add, List.map_set], by rw [hP2, Nat.zero_add, List.map_set], by rw [hS2, HR3.out], t3, HI3⟩, (by first | (simp only; omega) | omega), ⟨by ((repeat (refine Hold.cons (by exact rfl) ?_)); exact Hold.nil), by ((repeat (refine Hold.cons (by exact rfl) ?_)); exact Hold.nil)⟩, .inr ⟨by ((repeat (refine hdl_cons rfl (by first | rfl | (simp [MV.lt, ltL, ltL_A, ltL_I, hls1, hls2, splice, MV.cells])) ?_)); exact hdl_nil), by (simp [hltL, ltL, MV.lt, ltL, ltL_A, ltL_I, hls1, hls2, splice, MV.cells])⟩, by exact rfl⟩)
          · rw [rlx_n (fun q => c2 q.2)] at HI3
            have HR2 := HR.out
            rw [rlx_n (fun q => c2 q.2)] at HR2
            have HR3 := Lib.hid HR2
            clear HR HR2
            generalize ar[j] = a at e1 e2 e3 e4 a1 a2 a3 a4 a5 a6 b1 c1 c2 HI3 HR3
            have hls1 : ∀ (j : Nat), ltL j uL = true := fun j => by rw [hL2]; exact ltL_I j _
            have hls2 : ∀ (j : Nat), ltL j uP = true := fun j => by rw [hP2]; exact ltL_I j _
            repeat (first | apply ef_seq | (apply ef_mv; exact rfl; exact rfl) | (apply ef_bin; exact rfl; exact rfl; exact rfl; (first | exact cmp_t rfl (by first | exact rfl | (simp only [cmpP]; omega)) | exact cmp_f rfl (by simp only [cmpP]; omega) | ((with_reducible refine bin_add (wrap_of ?_ ?_)) <;> omega))) | (apply ef_gy; exact rfl; (exact (rfl : true = true))) | (apply ef_pick; exact rfl; exact rfl; exact rfl) | (apply ef_ldr; exact rfl; exact rfl; (exact rd_5 rfl rfl rfl rfl rfl)) | (apply ef_ldp; exact rfl; exact rfl; (exact rfl); exact rfl; (first | exact rfl | assumption); (exact rfl)) | (apply ef_ias; exact rfl; exact rfl; exact rfl; (omega); assumption; exact rfl) | (apply ef_iaa; exact rfl; exact rfl; exact rfl; (omega); (omega); (exact rfl)) | (apply ef_fap; exact rfl; exact rfl) | (apply ef_new; exact rfl) | (apply ef_st; exact rfl; exact rfl; exact rfl; exact rfl; exact rfl; exact rfl; (exact rfl); exact rfl) | apply ef_nil | apply seqQ.normal | apply blockQ.normal | apply ef_block | apply ef_skip | (apply ef_condt; exact rfl; (exact (rfl : true = true))) | (apply ef_condf; exact rfl; (exact (rfl : false = false))))
            (refine loopQ.normal _ _ ⟨(j + 1, u, uL, uP), ⟨hlj, hL2, hP2, by rw [hS2, HR3.out], t3, HI3⟩, (by first | (simp only; omega) | omega), ⟨by ((repeat (refine Hold.cons (by exact rfl) ?_)); exact Hold.nil), by ((repeat (refine Hold.cons (by exact rfl) ?_)); exact Hold.nil)⟩, .inr ⟨by ((repeat (refine hdl_cons rfl (by first | rfl | (simp [MV.lt, ltL, ltL_A, ltL_I, hls1, hls2, splice, MV.cells])) ?_)); exact hdl_nil), by (simp [hltL, ltL, MV.lt, ltL, ltL_A, ltL_I, hls1, hls2, splice, MV.cells])⟩, by exact rfl⟩)
        · rw [rlx_n (fun q => c1 q.1)] at HI3
          have HR2 := HR.out
          rw [rlx_n (fun q => c1 q.1)] at HR2
          have HR3 := Lib.hid HR2
          clear HR HR2
          generalize ar[j] = a at e1 e2 e3 e4 a1 a2 a3 a4 a5 a6 b1 c1 HI3 HR3
          have hls1 : ∀ (j : Nat), ltL j uL = true := fun j => by rw [hL2]; exact ltL_I j _
          have hls2 : ∀ (j : Nat), ltL j uP = true := fun j => by rw [hP2]; exact ltL_I j _
          repeat (first | apply ef_seq | (apply ef_mv; exact rfl; exact rfl) | (apply ef_bin; exact rfl; exact rfl; exact rfl; (first | exact cmp_t rfl (by first | exact rfl | (simp only [cmpP]; omega)) | exact cmp_f rfl (by simp only [cmpP]; omega) | ((with_reducible refine bin_add (wrap_of ?_ ?_)) <;> omega))) | (apply ef_gn; exact rfl; (exact (rfl : false = false)); exact rfl) | (apply ef_pick; exact rfl; exact rfl; exact rfl) | (apply ef_ldr; exact rfl; exact rfl; (exact rd_5 rfl rfl rfl rfl rfl)) | (apply ef_ldp; exact rfl; exact rfl; (exact rfl); exact rfl; (first | exact rfl | assumption); (exact rfl)) | (apply ef_ias; exact rfl; exact rfl; exact rfl; (omega); assumption; exact rfl) | (apply ef_iaa; exact rfl; exact rfl; exact rfl; (omega); (omega); (exact rfl)) | (apply ef_fap; exact rfl; exact rfl) | (apply ef_new; exact rfl) | (apply ef_st; exact rfl; exact rfl; exact rfl; exact rfl; exact rfl; exact rfl; (exact rfl); exact rfl) | apply ef_nil | apply seqQ.normal | apply blockQ.normal | apply ef_block | apply ef_skip | (apply ef_condt; exact rfl; (exact (rfl : true = true))) | (apply ef_condf; exact rfl; (exact (rfl : false = false))))
          (refine loopQ.normal _ _ ⟨(j + 1, u, uL, uP), ⟨hlj, hL2, hP2, by rw [hS2, HR3.out], t3, HI3⟩, (by first | (simp only; omega) | omega), ⟨by ((repeat (refine Hold.cons (by exact rfl) ?_)); exact Hold.nil), by ((repeat (refine Hold.cons (by exact rfl) ?_)); exact Hold.nil)⟩, .inr ⟨by ((repeat (refine hdl_cons rfl (by first | rfl | (simp [MV.lt, ltL, ltL_A, ltL_I, hls1, hls2, splice, MV.cells])) ?_)); exact hdl_nil), by (simp [hltL, ltL, MV.lt, ltL, ltL_A, ltL_I, hls1, hls2, splice, MV.cells])⟩, by exact rfl⟩)
      · obtain rfl : j = ar.length := by omega
        rw [List.drop_length, rndA] at hS2
        have hstep : lgR ar (m + 1 - r) s = if u.ch < 0 then (u, true) else lgR ar (m - r) u := by
          obtain ⟨d, hd⟩ : ∃ d, m + 1 - r = d + 1 := ⟨m - r, by omega⟩
          rw [hd, lgR, hS2, show m - r = d by omega]
        have hlL : ∀ (j : Nat), ltL j uL = true := fun j => by rw [hL2]; exact ltL_I j _
        have hlP : ∀ (j : Nat), ltL j uP = true := fun j => by rw [hP2]; exact ltL_I j _
        by_cases hch : u.ch < 0
        · rw [if_pos hch] at hstep
          have hC : lgC ar m fs = [] := by unfold lgC; rw [hS, hstep]; rfl
          have hLL : (lgS ar m fs).1.L = u.L := by rw [hS, hstep]
          have lL := HI2.lenL
          rw [hC]
          repeat (first | apply ef_seq | (apply ef_mv; exact rfl; exact rfl) | (apply ef_bin; exact rfl; exact rfl; exact rfl; (first | exact cmp_t rfl (by first | exact rfl | (simp only [cmpP]; omega)) | exact cmp_f rfl (by simp only [cmpP]; omega))) | (apply ef_nil0; exact rfl) | apply ef_nil | apply seqQ.normal | apply loopQ.ret | apply loopQ.exit | apply ef_ret | apply seqQ.ret | apply ef_exit | apply seqQ.exit | apply blockQ.ret | apply blockQ.here | (apply ef_condt; exact rfl; (exact (rfl : true = true))) | (apply ef_condf; exact rfl; (exact (rfl : false = false))))
          (apply fin_ar2; (· exact rfl); (· exact rfl); (· exact rfl); (· show 3 ≠ 5; decide); (· exact rfl); (· exact rfl); (· exact rfl); (· exact rfl); (· simp [hLL, lL]); (· exact rfl); (· exact ltL_I 0 _); (· exact rfl); (· rw [hLL]; exact hL2); (· exact rfl); (· exact rfl); (· exact rfl); (· exact rfl); (· exact rfl))
        · rw [if_neg hch] at hstep
          repeat (first | apply ef_seq | (apply ef_mv; exact rfl; exact rfl) | (apply ef_bin; exact rfl; exact rfl; exact rfl; (first | exact cmp_f rfl (by simp only [cmpP]; omega) | ((with_reducible refine bin_add (wrap_of ?_ ?_)) <;> omega))) | apply ef_nil | apply seqQ.normal | apply loopQ.exit | apply ef_exit | apply seqQ.exit | apply blockQ.normal | apply blockQ.here | apply ef_skip | (apply ef_condf; exact rfl; (exact (rfl : false = false))))
          (refine loopQ.normal _ _ ⟨(r + 1, u, uL, uP), ⟨by omega, hL2, hP2, by rw [hS, hstep, show m + 1 - (r + 1) = m - r by omega], t2, HI2.turn⟩, (by first | (simp only; omega) | omega), ⟨by ((repeat (refine Hold.cons (by exact rfl) ?_)); exact Hold.nil), by ((repeat (refine Hold.cons (by exact rfl) ?_)); exact Hold.nil)⟩, .inr ⟨by ((repeat (refine hdl_cons rfl (by first | rfl | (simp [MV.lt, ltL, ltL_A, ltL_I, hlL, hlP, splice, MV.cells])) ?_)); exact hdl_nil), by (simp [hltL, ltL, MV.lt, ltL, ltL_A, ltL_I, hlL, hlP, splice, MV.cells])⟩, by exact rfl⟩)
    · obtain rfl : r = m + 1 := by omega
      rw [Nat.sub_self, lgR] at hS
      obtain ⟨t4, HF, hch⟩ := HG.2 (by rw [show lgR ar (m + 1) ⟨srcL m fs, List.replicate m 0, -1⟩ = (s, false) from hS]) (by omega)
      rw [show lgR ar (m + 1) ⟨srcL m fs, List.replicate m 0, -1⟩ = (s, false) from hS, show 0 + (m + 1) - 1 = m by omega] at HF
      rw [show lgR ar (m + 1) ⟨srcL m fs, List.replicate m 0, -1⟩ = (s, false) from hS] at hch
      simp only at HF hch
      have HC := cyc_ok HF hO hch
      have hC : lgC ar m fs = cycL ar s.P (bkN ar s.P m s.ch) (frs ar s.P (bkN ar s.P m s.ch) m 1) := by unfold lgC; rw [hS]; rfl
      have hLL : (lgS ar m fs).1.L = s.L := by rw [hS]
      rw [hC, cycL_len]
      have lL := HF.lenL
      have lP := HF.lenP
      have hch2 : (0 ≤ s.ch ∧ s.ch < (m : Int)) ∧ m * ar.length < t4 s.ch := by
        rcases HF.chg with ⟨q, _⟩ | q
        · omega
        · exact q
      have hn0 : 0 < ar.length := by have := HF.tm s.ch; omega
      have up := bk_up HF hO hch2.1 m hch2.2
      have hpg := HF.pg
      have hnx : ∀ v, (ar.map encA)[(cAt s.P v).toNat]? = some (encA (arcP ar s.P v)) := fun v => by
        obtain ⟨h, he⟩ := arcP_mem (hpg v).1 ((hpg v).2 hn0)
        rw [he, List.getElem?_map, List.getElem?_eq_getElem h]; rfl
      have hlL : ∀ (j : Nat), ltL j rL = true := fun j => by rw [hL]; exact ltL_I j _
      have hlP : ∀ (j : Nat), ltL j rP = true := fun j => by rw [hP]; exact ltL_I j _
      repeat (first | apply ef_seq | (apply ef_mv; exact rfl; exact rfl) | (apply ef_bin; exact rfl; exact rfl; exact rfl; (exact cmp_f rfl (by simp only [cmpP]; omega))) | apply ef_nil | apply seqQ.normal | apply loopQ.exit | apply ef_exit | apply seqQ.exit | apply blockQ.here | apply ef_block | (apply ef_condf; exact rfl; (exact (rfl : false = false))))
      refine ef_loopf (α := Nat) (fun j => j ≤ m) (fun j => [(85, I64 (j : Int)), (12, I64 (bkN ar s.P j s.ch))]) [(84, I64 (m : Int)), (1, .sl (ar.map encA)), (8, .arr 3 0 m 0), (9, .arr 4 0 m 0)] (fun _ => lgH rL rP) (fun j => m - j) 0 [85, 12] (fun _ => rfl) (by ((repeat (refine Hold.cons (by exact rfl) ?_)); exact Hold.nil)) (by ((repeat (refine Hold.cons (by exact rfl) ?_)); exact Hold.nil)) rfl rfl (by omega) (by simp; omega) ?_
      intro j hj
      try simp only at hj ⊢
      by_cases hlj : j < m
      · have hv := (up j hj).1
        have e1 := lit_at hP lP hv.1 hv.2
        have e2 := hnx (bkN ar s.P j s.ch)
        have e3 := hpg (bkN ar s.P j s.ch)
        have e4 := e3.2 hn0
        have e5 := e3.1
        repeat (first | apply ef_seq | (apply ef_mv; exact rfl; exact rfl) | (apply ef_bin; exact rfl; exact rfl; exact rfl; (first | exact cmp_t rfl (by first | exact rfl | (simp only [cmpP]; omega)) | ((with_reducible refine bin_add (wrap_of ?_ ?_)) <;> omega))) | (apply ef_ldr; exact rfl; exact rfl; (exact rfl)) | (apply ef_ldp; exact rfl; exact rfl; (exact rfl); exact rfl; (assumption); (exact rfl)) | (apply ef_ias; exact rfl; exact rfl; exact rfl; (omega); assumption; exact rfl) | (apply ef_iaa; exact rfl; exact rfl; exact rfl; (omega); (omega); (exact rfl)) | (apply ef_far; exact rfl; exact rfl) | apply ef_nil | apply seqQ.normal | apply blockQ.normal | apply ef_block | apply ef_skip | (apply ef_condt; exact rfl; (exact (rfl : true = true))))
        (refine loopQ.normal _ _ ⟨j + 1, hlj, (by first | (simp only; omega) | omega), ⟨by ((repeat (refine Hold.cons (by exact rfl) ?_)); exact Hold.nil), by ((repeat (refine Hold.cons (by exact rfl) ?_)); exact Hold.nil)⟩, .inr ⟨by ((repeat (refine hdl_cons rfl (by first | rfl | (simp [MV.lt, ltL, ltL_A, ltL_I, hlL, hlP, splice, MV.cells])) ?_)); exact hdl_nil), by (simp [hltL, ltL, MV.lt, ltL, ltL_A, ltL_I, hlL, hlP, splice, MV.cells])⟩, by exact rfl⟩)
      · obtain rfl : j = m := by omega
        generalize bkN ar s.P j s.ch = c at *
        generalize frs ar s.P c j 1 = p at *
        have hp0 := HC.p0
        have hpm := HC.pm
        repeat (first | apply ef_seq | (apply ef_mv; exact rfl; exact rfl) | (apply ef_bin; exact rfl; exact rfl; exact rfl; (exact cmp_f rfl (by simp only [cmpP]; omega))) | (apply ef_nil0; exact rfl) | apply ef_nil | apply seqQ.normal | apply loopQ.exit | apply ef_exit | apply seqQ.exit | apply blockQ.here | apply ef_block | (apply ef_condf; exact rfl; (exact (rfl : false = false))))
        refine ef_loopf (α := Nat × List MV) (fun q => q.1 ≤ p ∧ q.2 = (cycL ar s.P c q.1).map encA) (fun q => [(16, .arr 5 0 q.1 q.1), (17, I64 (bkN ar s.P q.1 c))]) [(12, I64 c), (1, .sl (ar.map encA)), (8, .arr 3 0 j 0), (9, .arr 4 0 j 0)] (fun q => lgH rL rP ++ [⟨q.1, decide (q.1 = 0), 5, q.2⟩]) (fun q => p - q.1) (0, []) [16, 17] (fun _ => rfl) (by ((repeat (refine Hold.cons (by exact rfl) ?_)); exact Hold.nil)) (by ((repeat (refine Hold.cons (by exact rfl) ?_)); exact Hold.nil)) rfl rfl ⟨by omega, rfl⟩ (by simp; omega) ?_
        rintro ⟨i, qs⟩ ⟨hi, hqs⟩
        try simp only at hi hqs ⊢
        have hql : qs.length = i := by rw [hqs]; simp [cycL]
        have hqt : ∀ (j : Nat), ltL j qs = true := fun j => by rw [hqs]; exact ltL_A j _
        by_cases hlp : i < p
        · obtain ⟨hv, hm, htv⟩ := HC.inn i hlp
          have e1 := lit_at hP lP hv.1 hv.2
          have e2 := hnx (bkN ar s.P i c)
          have e3 := hpg (bkN ar s.P i c)
          have e4 := e3.2 hn0
          have e5 := e3.1
          have hcn : cycL ar s.P c (i + 1) = cycL ar s.P c i ++ [arcP ar s.P (bkN ar s.P i c)] := by unfold cycL; rw [List.range_succ]; simp
          by_cases hi0 : i = 0
          · skip
            repeat (first | apply ef_seq | (apply ef_mv; exact rfl; exact rfl) | (apply ef_bin; exact rfl; exact rfl; exact rfl; (exact cmp_t rfl (by first | exact rfl | (simp only [cmpP]; omega)))) | (apply ef_gn; exact rfl; (exact (rfl : true = true)); exact rfl) | (apply ef_pick; exact rfl; exact rfl; exact rfl) | (apply ef_len; exact rfl; exact rfl; (exact rfl)) | (apply ef_ldr; exact rfl; exact rfl; (exact rd_5 rfl rfl rfl rfl rfl)) | (apply ef_ldp; exact rfl; exact rfl; (exact rfl); exact rfl; (assumption); (exact rfl)) | (apply ef_ias; exact rfl; exact rfl; exact rfl; (omega); assumption; exact rfl) | (apply ef_iaa; exact rfl; exact rfl; exact rfl; (omega); (omega); (exact rfl)) | (apply ef_bsl; exact rfl; (repeat (apply XVs.cons; exact rfl)); exact XVs.nil; exact rfl) | apply ef_nil | apply seqQ.normal | apply ef_block | apply ef_skip | (apply ef_condt; exact rfl; (exact (rfl : true = true))))
            (apply ef_app; (· exact rfl); (· exact rfl); (· exact rfl); (· exact rfl); (· exact rfl); (· exact rfl); (· (simp [hql])); (· exact rfl); (· (simp [hql]; omega)); (· (exact rfl)); (· exact rfl))
            repeat (first | (apply ef_mv; exact rfl; exact rfl) | (apply ef_ldr; exact rfl; exact rfl; (exact rfl)) | (apply ef_ldp; exact rfl; exact rfl; (exact rfl); exact rfl; (assumption); (exact rfl)) | (apply ef_ias; exact rfl; exact rfl; exact rfl; (omega); assumption; exact rfl) | (apply ef_iaa; exact rfl; exact rfl; exact rfl; (omega); (omega); (exact rfl)) | (apply ef_far; exact rfl; exact rfl) | apply ef_nil | apply seqQ.normal | apply blockQ.normal)
            (refine loopQ.normal _ _ ⟨(i + 1, qs ++ [encA (arcP ar s.P (bkN ar s.P i c))]), ⟨hlp, by rw [hcn, hqs]; simp⟩, (by first | (simp only; omega) | omega), ⟨by ((repeat (refine Hold.cons (by exact rfl) ?_)); exact Hold.nil), by ((repeat (refine Hold.cons (by exact rfl) ?_)); exact Hold.nil)⟩, .inr ⟨by ((repeat (refine hdl_cons rfl (by first | rfl | (simp [MV.lt, ltL, ltL_A, ltL_I, hlL, hlP, hqt, ltL_app2, splice, MV.cells])) ?_)); exact hdl_nil), by (simp [hltL, ltL, MV.lt, ltL, ltL_A, ltL_I, hlL, hlP, hqt, ltL_app2, splice, MV.cells])⟩, by exact rfl⟩)
          · have hne := HC.fst i (by omega) hlp
            repeat (first | apply ef_seq | (apply ef_mv; exact rfl; exact rfl) | (apply ef_bin; exact rfl; exact rfl; exact rfl; (first | exact cmp_t rfl (by first | exact rfl | (simp only [cmpP]; omega)) | exact cmp_f rfl (by simp only [cmpP]; omega))) | (apply ef_gy; exact rfl; (exact (rfl : false = false))) | (apply ef_pick; exact rfl; exact rfl; exact rfl) | (apply ef_len; exact rfl; exact rfl; (exact rfl)) | (apply ef_ldr; exact rfl; exact rfl; (exact rd_5 rfl rfl rfl rfl rfl)) | (apply ef_ldp; exact rfl; exact rfl; (exact rfl); exact rfl; (assumption); (exact rfl)) | (apply ef_ias; exact rfl; exact rfl; exact rfl; (omega); assumption; exact rfl) | (apply ef_iaa; exact rfl; exact rfl; exact rfl; (omega); (omega); (exact rfl)) | (apply ef_bsl; exact rfl; (repeat (apply XVs.cons; exact rfl)); exact XVs.nil; exact rfl) | apply ef_nil | apply seqQ.normal | apply ef_block | apply ef_skip | (apply ef_condt; exact rfl; (exact (rfl : true = true))))
            (apply ef_app; (· exact rfl); (· exact rfl); (· exact rfl); (· exact rfl); (· exact rfl); (· exact rfl); (· (simp [hql])); (· exact rfl); (· (simp [hql]; omega)); (· (exact rfl)); (· exact rfl))
            repeat (first | (apply ef_mv; exact rfl; exact rfl) | (apply ef_ldr; exact rfl; exact rfl; (exact rfl)) | (apply ef_ldp; exact rfl; exact rfl; (exact rfl); exact rfl; (assumption); (exact rfl)) | (apply ef_ias; exact rfl; exact rfl; exact rfl; (omega); assumption; exact rfl) | (apply ef_iaa; exact rfl; exact rfl; exact rfl; (omega); (omega); (exact rfl)) | (apply ef_far; exact rfl; exact rfl) | apply ef_nil | apply seqQ.normal | apply blockQ.normal)
            (refine loopQ.normal _ _ ⟨(i + 1, qs ++ [encA (arcP ar s.P (bkN ar s.P i c))]), ⟨hlp, by rw [hcn, hqs]; simp⟩, (by first | (simp only; omega) | omega), ⟨by ((repeat (refine Hold.cons (by exact rfl) ?_)); exact Hold.nil), by ((repeat (refine Hold.cons (by exact rfl) ?_)); exact Hold.nil)⟩, .inr ⟨by ((repeat (refine hdl_cons rfl (by first | rfl | (simp [MV.lt, ltL, ltL_A, ltL_I, hlL, hlP, hqt, ltL_app2, splice, MV.cells])) ?_)); exact hdl_nil), by (simp [hltL, ltL, MV.lt, ltL, ltL_A, ltL_I, hlL, hlP, hqt, ltL_app2, splice, MV.cells])⟩, by exact rfl⟩)
        · obtain rfl : i = p := by omega
          have hret := HC.ret
          repeat (first | apply ef_seq | (apply ef_mv; exact rfl; exact rfl) | (apply ef_bin; exact rfl; exact rfl; exact rfl; (exact cmp_f rfl (by simp only [cmpP]; omega))) | (apply ef_gy; exact rfl; (exact (rfl : false = false))) | (apply ef_pick; exact rfl; exact rfl; exact rfl) | (apply ef_len; exact rfl; exact rfl; (exact rfl)) | apply ef_nil | apply seqQ.normal | apply loopQ.exit | apply ef_ret | apply ef_exit | apply seqQ.exit | apply blockQ.here | (apply ef_condf; exact rfl; (exact (rfl : false = false))))
          (apply fin_ar2; (· exact rfl); (· exact rfl); (· exact rfl); (· show 3 ≠ 5; decide); (· exact rfl); (· exact rfl); (· exact rfl); (· exact rfl); (· simp [hLL, lL]); (· simp [cycL_len]); (· exact ltL_I 0 _); (· exact ltL_A 0 _); (· rw [hLL]; exact hL); (· exact hqs); (· exact rfl); (· exact rfl); (· exact rfl); (· exact rfl))
theorem longest_c (k m : Nat) (h1 : 0 < m) (h8 : m ≤ 8) (ar : List Ac) (B : Int) (hB : 0 ≤ B) (hB2 : B ≤ 100000) (hO : ∀ a ∈ ar, OkA m B a) (hl : ar.length ≤ 64) (fs : List Int) (hf : ∀ v ∈ fs, 0 ≤ v ∧ v < (m : Int)) (hfl : fs.length ≤ 1000) (h : MHeap) {v w : MV} (hv : frz 0 [] h 8 v = some (.sl (ar.map encA))) (hw : frz 0 [] h 8 w = some (.sl (fs.map I64))) :
    orA (k + 5) 63 [I64 (m : Int), v, w] h = some (.tup [.arr h.length 0 m 0, .arr (h.length + 1) 0 (lgC ar m fs).length 0], h ++ [⟨0, false, 1, (lgS ar m fs).1.L.map I64⟩, ⟨0, decide ((lgC ar m fs).length = 0), 5, (lgC ar m fs).map encA⟩]) := by
  have := callA (k := k + 4) (h := h) (args := [I64 (m : Int), v, w]) (args' := [I64 (m : Int), .sl (ar.map encA), .sl (fs.map I64)]) (by simp [List.mapM_cons, hv, hw, frz_lt (m := I64 (m : Int)) rfl]) rfl (longest_z k m h1 h8 ar B hB hB2 hO hl fs hf hfl) rfl (by simp [okH, ltL_I, ltL_A, pureL_I, pureL_A])
  simp only [shV, sh1, List.map_cons, List.map_nil, Nat.add_comm _ h.length, Nat.add_zero] at this
  exact this
end Go.Proofs.Ytbdleggmdbihnaa

/- Flows: a change along a cycle; without a program. -/
namespace Go.Proofs.Ytbdleggmdbihnaa
set_option linter.unusedVariables false
set_option linter.unusedSimpArgs false
def att (x : Cr) (v f : Int) : Int := (if x.ln = v then f else 0) + (if x.ti = v then f else 0)
theorem att_add (x : Cr) (v f d : Int) : att x v (f + d) = att x v f + att x v d := by
  unfold att
  by_cases h1 : x.ln = v <;> by_cases h2 : x.ti = v <;> simp [h1, h2] <;> omega
def sumV (cs : List Cr) (fl : List Int) (v : Int) : Nat → Int
  | 0 => 0
  | i + 1 => sumV cs fl v i + att (cs.getD i default) v (cAt fl i)
structure FlOk (n : Nt) (fl : List Int) : Prop where
  len : fl.length = n.cs.length
  bd : ∀ (i : Nat) (h : i < n.cs.length), -n.cs[i].wt ≤ cAt fl i ∧ cAt fl i ≤ n.cs[i].wt
  sum : ∀ v, sumV n.cs fl v n.cs.length = 0
theorem cAt_setN {fl : List Int} {x i : Nat} {d : Int} (hx : x < fl.length) : cAt (fl.set x d) (i : Int) = if i = x then d else cAt fl i := by
  have := cAt_set (L := fl) (i := (x : Int)) (j := (i : Int)) (x := d) (by omega) (by omega) (by omega)
  rw [Int.toNat_natCast] at this
  rw [this]
  by_cases h : i = x
  · subst h; simp
  · rw [if_neg h, if_neg (by omega)]
theorem valU_set {cs : List Cr} {fl : List Int} {x : Nat} {d : Int} (hx : x < fl.length) : ∀ i, valU cs (fl.set x (cAt fl x + d)) i = valU cs fl i + if x < i then d * (cs.getD x default).df else 0
  | 0 => by simp [valU]
  | i + 1 => by
    rw [valU, valU, valU_set hx i, cAt_setN hx]
    by_cases h : i = x
    · subst h
      rw [if_pos rfl, if_neg (by omega), if_pos (by omega), Int.add_mul]; omega
    · rw [if_neg h]
      by_cases h2 : x < i
      · rw [if_pos h2, if_pos (by omega)]; omega
      · rw [if_neg h2, if_neg (by omega)]; omega
theorem sumV_set {cs : List Cr} {fl : List Int} {x : Nat} {d v : Int} (hx : x < fl.length) : ∀ i, sumV cs (fl.set x (cAt fl x + d)) v i = sumV cs fl v i + if x < i then att (cs.getD x default) v d else 0
  | 0 => by simp [sumV]
  | i + 1 => by
    rw [sumV, sumV, sumV_set hx i, cAt_setN hx]
    by_cases h : i = x
    · subst h
      rw [if_pos rfl, if_neg (by omega), if_pos (by omega), att_add]; omega
    · rw [if_neg h]
      by_cases h2 : x < i
      · rw [if_pos h2, if_pos (by omega)]; omega
      · rw [if_neg h2, if_neg (by omega)]; omega
structure ArcOk (n : Nt) (fl : List Int) (a : Ac) : Prop where
  c0 : 0 ≤ a.cr
  c1 : a.cr < (n.cs.length : Int)
  dir : (a.sg = 1 ∧ a.fr = (n.cs.getD a.cr.toNat default).ti ∧ a.tv = (n.cs.getD a.cr.toNat default).ln ∧ a.ln = (n.cs.getD a.cr.toNat default).df ∧ cAt fl a.cr < (n.cs.getD a.cr.toNat default).wt) ∨
    (a.sg = -1 ∧ a.fr = (n.cs.getD a.cr.toNat default).ln ∧ a.tv = (n.cs.getD a.cr.toNat default).ti ∧ a.ln = 0 - (n.cs.getD a.cr.toNat default).df ∧ 0 - (n.cs.getD a.cr.toNat default).wt < cAt fl a.cr)
theorem arcsU_ok {n : Nt} {fl : List Int} : ∀ i, i ≤ n.cs.length → ∀ a ∈ arcsU n.cs fl i, ArcOk n fl a
  | 0, _, a, h => by simp [arcsU] at h
  | i + 1, hi, a, h => by
    rw [arcsU, List.mem_append, List.mem_append] at h
    rcases h with h | h | h
    · exact arcsU_ok i (by omega) a h
    · unfold arcF at h
      split at h
      · rename_i hw
        rw [List.mem_singleton] at h
        subst h
        exact ⟨by simp only; omega, by simp only; omega, .inl ⟨rfl, by simp, by simp, by simp, by simpa using hw⟩⟩
      · cases h
    · unfold arcB at h
      split at h
      · rename_i hw
        rw [List.mem_singleton] at h
        subst h
        exact ⟨by simp only; omega, by simp only; omega, .inr ⟨rfl, by simp, by simp, by simp, by simpa using hw⟩⟩
      · cases h
theorem getD_mem {n : Nt} {i : Int} (h0 : 0 ≤ i) (h1 : i < (n.cs.length : Int)) : n.cs.getD i.toNat default ∈ n.cs := by
  rw [List.getD_eq_getElem?_getD, List.getElem?_eq_getElem (show i.toNat < n.cs.length by omega)]
  exact List.getElem_mem _
theorem ArcOk.okA {n : Nt} (ok : OkN n) {fl : List Int} {a : Ac} (h : ArcOk n fl a) : OkA n.ls.length 10000 a := by
  have hm := getD_mem h.c0 h.c1
  have hx := ok.rg _ hm
  have hk := ok.kd _ hm
  have hne : (n.cs.getD a.cr.toNat default).ln ≠ (n.cs.getD a.cr.toNat default).ti := fun e => by
    rw [e, hk.2] at hk
    exact absurd hk.1 (by simp)
  have d1 := hx.df
  rcases h.dir with ⟨-, e1, e2, e3, -⟩ | ⟨-, e1, e2, e3, -⟩
  · exact ⟨by rw [e1]; exact hx.t0, by rw [e1]; exact hx.t1, by rw [e2]; exact hx.l0, by rw [e2]; exact hx.l1, by omega, by omega, by rw [e1, e2]; exact fun e => hne e.symm⟩
  · exact ⟨by rw [e1]; exact hx.l0, by rw [e1]; exact hx.l1, by rw [e2]; exact hx.t0, by rw [e2]; exact hx.t1, by omega, by omega, by rw [e1, e2]; exact hne⟩
def chgA (by_ : Int) (fl : List Int) (a : Ac) : List Int := fl.set a.cr.toNat (cAt fl a.cr + a.sg * by_)
def chgL (by_ : Int) (fl : List Int) (C : List Ac) : List Int := C.foldl (chgA by_) fl
def minA (n : Nt) (fl : List Int) (b : Int) (a : Ac) : Int := min b ((n.cs.getD a.cr.toNat default).wt - a.sg * cAt fl a.cr)
def minB (n : Nt) (fl : List Int) (C : List Ac) : Int := C.foldl (minA n fl) 20
theorem chgL_len (b : Int) : ∀ (C : List Ac) (fl : List Int), (chgL b fl C).length = fl.length
  | [], fl => rfl
  | a :: C, fl => by
    have : chgL b fl (a :: C) = chgL b (chgA b fl a) C := rfl
    rw [this, chgL_len b C, chgA, List.length_set]
theorem min_ok (n : Nt) (fl : List Int) : ∀ (C : List Ac) (b : Int), (∀ a ∈ C, ArcOk n fl a) → 1 ≤ b → b ≤ 20 → 1 ≤ C.foldl (minA n fl) b ∧ C.foldl (minA n fl) b ≤ b ∧ ∀ a ∈ C, C.foldl (minA n fl) b ≤ (n.cs.getD a.cr.toNat default).wt - a.sg * cAt fl a.cr
  | [], b, _, h1, h2 => ⟨h1, Int.le_refl _, fun a h => by cases h⟩
  | a :: C, b, hA, h1, h2 => by
    have ha := hA a List.mem_cons_self
    have hp : 1 ≤ (n.cs.getD a.cr.toNat default).wt - a.sg * cAt fl a.cr := by
      rcases ha.dir with ⟨e, -, -, -, h⟩ | ⟨e, -, -, -, h⟩ <;> rw [e] <;> omega
    have hb : minA n fl b a ≤ b ∧ minA n fl b a ≤ (n.cs.getD a.cr.toNat default).wt - a.sg * cAt fl a.cr ∧ 1 ≤ minA n fl b a := by unfold minA; omega
    obtain ⟨a1, a2, a3⟩ := min_ok n fl C (minA n fl b a) (fun a h => hA a (List.mem_cons_of_mem _ h)) hb.2.2 (by omega)
    rw [List.foldl_cons]
    refine ⟨a1, by omega, fun x hx => ?_⟩
    rcases List.mem_cons.1 hx with rfl | hx
    · omega
    · exact a3 x hx
section
variable {n : Nt} {fl : List Int} {P : List Int} {c : Int} {p : Nat}
theorem cyc_ne (H : CycOk (arcsU n.cs fl n.cs.length) n.ls.length P c p) {i j : Nat} (hij : i < j) (hj : j < p) : bkN (arcsU n.cs fl n.cs.length) P i c ≠ bkN (arcsU n.cs fl n.cs.length) P j c := fun e => by
  refine H.fst (i + (p - j)) (by omega) (by omega) ?_
  rw [bkN_add, e, ← bkN_add, show j + (p - j) = p by omega, H.ret]
def sgV (n : Nt) (v : Int) : Int := if tieOf n.ls v then -1 else 1
def dlP (ar : List Ac) (P : List Int) (c : Int) (x : Int) : Nat → Int
  | 0 => 0
  | i + 1 => dlP ar P c x i + if (arcP ar P (bkN ar P i c)).cr = x then (arcP ar P (bkN ar P i c)).sg else 0
theorem dlP_ok (H : CycOk (arcsU n.cs fl n.cs.length) n.ls.length P c p) (x : Int) : ∀ i, i ≤ p → (-1 ≤ dlP (arcsU n.cs fl n.cs.length) P c x i ∧ dlP (arcsU n.cs fl n.cs.length) P c x i ≤ 1) ∧
    (dlP (arcsU n.cs fl n.cs.length) P c x i = 1 → ∃ j, j < i ∧ (arcP (arcsU n.cs fl n.cs.length) P (bkN (arcsU n.cs fl n.cs.length) P j c)).cr = x ∧ (arcP (arcsU n.cs fl n.cs.length) P (bkN (arcsU n.cs fl n.cs.length) P j c)).sg = 1) ∧
    (dlP (arcsU n.cs fl n.cs.length) P c x i = -1 → ∃ j, j < i ∧ (arcP (arcsU n.cs fl n.cs.length) P (bkN (arcsU n.cs fl n.cs.length) P j c)).cr = x ∧ (arcP (arcsU n.cs fl n.cs.length) P (bkN (arcsU n.cs fl n.cs.length) P j c)).sg = -1)
  | 0, _ => by simp [dlP]
  | i + 1, hi => by
    obtain ⟨h1, h2, h3⟩ := dlP_ok H x i (by omega)
    rw [dlP]
    obtain ⟨-, hm, ht⟩ := H.inn i (by omega)
    have ha := arcsU_ok n.cs.length (Nat.le_refl _) _ hm
    by_cases e : (arcP (arcsU n.cs fl n.cs.length) P (bkN (arcsU n.cs fl n.cs.length) P i c)).cr = x
    · rw [if_pos e]
      have key : ∀ j, j < i → (arcP (arcsU n.cs fl n.cs.length) P (bkN (arcsU n.cs fl n.cs.length) P j c)).cr = x → (arcP (arcsU n.cs fl n.cs.length) P (bkN (arcsU n.cs fl n.cs.length) P j c)).sg = (arcP (arcsU n.cs fl n.cs.length) P (bkN (arcsU n.cs fl n.cs.length) P i c)).sg → False := fun j hj e1 e2 => by
        obtain ⟨-, hm', ht'⟩ := H.inn j (by omega)
        have ha' := arcsU_ok n.cs.length (Nat.le_refl _) _ hm'
        have hne := cyc_ne H hj (by omega)
        rw [← ht, ← ht'] at hne
        have b1 := ha.dir
        have b2 := ha'.dir
        rw [e] at b1
        rw [e1] at b2
        rcases b1 with ⟨c1, -, c2, -, -⟩ | ⟨c1, -, c2, -, -⟩
        · rcases b2 with ⟨d1, -, d2, -, -⟩ | ⟨d1, -, d2, -, -⟩
          · exact hne (by rw [c2, d2])
          · omega
        · rcases b2 with ⟨d1, -, d2, -, -⟩ | ⟨d1, -, d2, -, -⟩
          · omega
          · exact hne (by rw [c2, d2])
      rcases ha.dir with ⟨s1, -⟩ | ⟨s1, -⟩
      · have hlt : dlP (arcsU n.cs fl n.cs.length) P c x i ≠ 1 := fun q => by
          obtain ⟨j, hj, e1, e2⟩ := h2 q
          exact key j hj e1 (by rw [e2, s1])
        rw [s1]
        exact ⟨by omega, fun q => ⟨i, by omega, e, s1⟩, fun q => by omega⟩
      · have hlt : dlP (arcsU n.cs fl n.cs.length) P c x i ≠ -1 := fun q => by
          obtain ⟨j, hj, e1, e2⟩ := h3 q
          exact key j hj e1 (by rw [e2, s1])
        rw [s1]
        exact ⟨by omega, fun q => by omega, fun q => ⟨i, by omega, e, s1⟩⟩
    · rw [if_neg e, Int.add_zero]
      refine ⟨h1, fun q => ?_, fun q => ?_⟩
      · obtain ⟨j, hj, e1⟩ := h2 q
        exact ⟨j, by omega, e1⟩
      · obtain ⟨j, hj, e1⟩ := h3 q
        exact ⟨j, by omega, e1⟩
theorem cyc_snoc (ar : List Ac) (P : List Int) (c : Int) (i : Nat) : cycL ar P c (i + 1) = cycL ar P c i ++ [arcP ar P (bkN ar P i c)] := by unfold cycL; rw [List.range_succ]; simp
theorem chg_snoc (b : Int) (fl : List Int) (C : List Ac) (a : Ac) : chgL b fl (C ++ [a]) = chgA b (chgL b fl C) a := by unfold chgL; rw [List.foldl_append]; rfl
theorem chg_ok (ok : OkN n) (hl : fl.length = n.cs.length) (H : CycOk (arcsU n.cs fl n.cs.length) n.ls.length P c p) (b : Int) : ∀ i, i ≤ p →
    (∀ x : Nat, x < n.cs.length → cAt (chgL b fl (cycL (arcsU n.cs fl n.cs.length) P c i)) x = cAt fl x + dlP (arcsU n.cs fl n.cs.length) P c x i * b) ∧
    valU n.cs (chgL b fl (cycL (arcsU n.cs fl n.cs.length) P c i)) n.cs.length = valU n.cs fl n.cs.length + b * sumW (arcsU n.cs fl n.cs.length) P (fun i => bkN (arcsU n.cs fl n.cs.length) P i c) i ∧
    ∀ v, sumV n.cs (chgL b fl (cycL (arcsU n.cs fl n.cs.length) P c i)) v n.cs.length = sumV n.cs fl v n.cs.length + b * (sgV n v * ((if c = v then 1 else 0) - (if bkN (arcsU n.cs fl n.cs.length) P i c = v then 1 else 0)))
  | 0, _ => by
    refine ⟨fun x _ => ?_, ?_, fun v => ?_⟩
    · simp [cycL, chgL, dlP]
    · simp [cycL, chgL, sumW]
    · show _ = _ + b * (sgV n v * ((if c = v then 1 else 0) - (if c = v then 1 else 0)))
      rw [Int.sub_self, Int.mul_zero, Int.mul_zero, Int.add_zero]; rfl
  | i + 1, hi => by
    obtain ⟨h1, h2, h3⟩ := chg_ok ok hl H b i (by omega)
    obtain ⟨-, hm, ht⟩ := H.inn i (by omega)
    have ha := arcsU_ok n.cs.length (Nat.le_refl _) _ hm
    have hk := ok.kd _ (getD_mem ha.c0 ha.c1)
    have hcl : (chgL b fl (cycL (arcsU n.cs fl n.cs.length) P c i)).length = n.cs.length := by rw [chgL_len, hl]
    rw [cyc_snoc, chg_snoc]
    have hfr : (arcP (arcsU n.cs fl n.cs.length) P (bkN (arcsU n.cs fl n.cs.length) P i c)).fr = bkN (arcsU n.cs fl n.cs.length) P (i + 1) c := rfl
    have hdl : ∀ x, dlP (arcsU n.cs fl n.cs.length) P c x (i + 1) = dlP (arcsU n.cs fl n.cs.length) P c x i + if (arcP (arcsU n.cs fl n.cs.length) P (bkN (arcsU n.cs fl n.cs.length) P i c)).cr = x then (arcP (arcsU n.cs fl n.cs.length) P (bkN (arcsU n.cs fl n.cs.length) P i c)).sg else 0 := fun x => rfl
    have hsw : sumW (arcsU n.cs fl n.cs.length) P (fun i => bkN (arcsU n.cs fl n.cs.length) P i c) (i + 1) = sumW (arcsU n.cs fl n.cs.length) P (fun i => bkN (arcsU n.cs fl n.cs.length) P i c) i + (arcP (arcsU n.cs fl n.cs.length) P (bkN (arcsU n.cs fl n.cs.length) P i c)).ln := rfl
    rw [hsw, ← hfr]
    generalize chgL b fl (cycL (arcsU n.cs fl n.cs.length) P c i) = F at *
    rw [← ht] at h3
    generalize arcP (arcsU n.cs fl n.cs.length) P (bkN (arcsU n.cs fl n.cs.length) P i c) = a at *
    have c0 := ha.c0
    have c1 := ha.c1
    have hcr : (a.cr.toNat : Int) = a.cr := by omega
    have hx : a.cr.toNat < F.length := by omega
    unfold chgA
    have hset : ∀ d, F.set a.cr.toNat (cAt F a.cr + d) = F.set a.cr.toNat (cAt F (a.cr.toNat : Int) + d) := fun d => by rw [hcr]
    rw [hset]
    refine ⟨fun x hxl => ?_, ?_, fun v => ?_⟩
    · rw [cAt_setN hx, hdl, h1 x hxl]
      by_cases e : x = a.cr.toNat
      · subst e
        rw [if_pos rfl, if_pos hcr.symm, h1 _ hxl, hcr, Int.add_mul]; omega
      · rw [if_neg e, if_neg (by omega)]; simp
    · rw [valU_set hx, if_pos (by omega), h2]
      rcases ha.dir with ⟨s, -, -, e, -⟩ | ⟨s, -, -, e, -⟩
      · rw [s, e, Int.mul_add, Int.one_mul]; omega
      · rw [s, e, Int.mul_add, Int.mul_sub, Int.mul_zero, Int.neg_mul, Int.neg_mul, Int.one_mul]; omega
    · rw [sumV_set hx, if_pos (by omega), h3]
      have hat : att (n.cs.getD a.cr.toNat default) v (a.sg * b) = b * (sgV n v * ((if a.tv = v then 1 else 0) - (if a.fr = v then 1 else 0))) := by
        have hne := (ha.okA ok).ne
        unfold att
        rcases ha.dir with ⟨s, e1, e2, -⟩ | ⟨s, e1, e2, -⟩
        · rw [← e1, ← e2] at hk
          rw [s, ← e1, ← e2]
          by_cases h1 : a.tv = v
          · have g : sgV n v = 1 := by unfold sgV; rw [← h1, hk.1]; rfl
            rw [if_pos h1, if_neg (fun q => hne (q.trans h1.symm)), if_pos h1, if_neg (fun q => hne (q.trans h1.symm)), g]; simp
          · rw [if_neg h1, if_neg h1]
            by_cases h2 : a.fr = v
            · have g : sgV n v = -1 := by unfold sgV; rw [← h2, hk.2]; rfl
              rw [if_pos h2, if_pos h2, g]; simp
            · rw [if_neg h2, if_neg h2]; simp
        · rw [← e1, ← e2] at hk
          rw [s, ← e1, ← e2]
          by_cases h1 : a.tv = v
          · have g : sgV n v = -1 := by unfold sgV; rw [← h1, hk.2]; rfl
            rw [if_pos h1, if_neg (fun q => hne (q.trans h1.symm)), if_pos h1, if_neg (fun q => hne (q.trans h1.symm)), g]; simp
          · rw [if_neg h1, if_neg h1]
            by_cases h2 : a.fr = v
            · have g : sgV n v = 1 := by unfold sgV; rw [← h2, hk.1]; rfl
              rw [if_pos h2, if_pos h2, g]; simp
            · rw [if_neg h2, if_neg h2]; simp
      rw [hat, Int.add_assoc, ← Int.mul_add, ← Int.mul_add]
      congr 3
      generalize (if c = v then (1 : Int) else 0) = y1
      generalize (if a.tv = v then (1 : Int) else 0) = y2
      generalize (if a.fr = v then (1 : Int) else 0) = y3
      omega
theorem chg_fl (ok : OkN n) (hf : FlOk n fl) (H : CycOk (arcsU n.cs fl n.cs.length) n.ls.length P c p) :
    FlOk n (chgL (minB n fl (cycL (arcsU n.cs fl n.cs.length) P c p)) fl (cycL (arcsU n.cs fl n.cs.length) P c p)) ∧ valU n.cs fl n.cs.length < valU n.cs (chgL (minB n fl (cycL (arcsU n.cs fl n.cs.length) P c p)) fl (cycL (arcsU n.cs fl n.cs.length) P c p)) n.cs.length := by
  have hA : ∀ a ∈ cycL (arcsU n.cs fl n.cs.length) P c p, ArcOk n fl a := fun a ha => by
    obtain ⟨i, hi, rfl⟩ := List.mem_map.1 ha
    exact arcsU_ok _ (Nat.le_refl _) _ (H.inn i (by simpa using hi)).2.1
  obtain ⟨b1, b2, b3⟩ := min_ok n fl _ 20 hA (by omega) (by omega)
  rw [show (cycL (arcsU n.cs fl n.cs.length) P c p).foldl (minA n fl) 20 = minB n fl (cycL (arcsU n.cs fl n.cs.length) P c p) from rfl] at b1 b2 b3
  generalize minB n fl (cycL (arcsU n.cs fl n.cs.length) P c p) = b at *
  obtain ⟨h1, h2, h3⟩ := chg_ok ok hf.len H b p (Nat.le_refl _)
  refine ⟨⟨by rw [chgL_len, hf.len], fun i hi => ?_, fun v => ?_⟩, ?_⟩
  · rw [h1 i hi]
    obtain ⟨⟨d1, d2⟩, d3, d4⟩ := dlP_ok H (i : Int) p (Nat.le_refl _)
    have hb := hf.bd i hi
    have hget : n.cs.getD ((i : Int)).toNat default = n.cs[i] := by rw [Int.toNat_natCast, List.getD_eq_getElem?_getD, List.getElem?_eq_getElem hi]; rfl
    have hw := (ok.rg n.cs[i] (List.getElem_mem hi)).wt
    have fin : ∀ j, j < p → (arcP (arcsU n.cs fl n.cs.length) P (bkN (arcsU n.cs fl n.cs.length) P j c)).cr = (i : Int) → b ≤ n.cs[i].wt - (arcP (arcsU n.cs fl n.cs.length) P (bkN (arcsU n.cs fl n.cs.length) P j c)).sg * cAt fl (i : Int) := fun j hj e => by
      have := b3 _ (List.mem_map.2 ⟨j, by simpa using hj, rfl⟩)
      rw [e, hget] at this
      exact this
    by_cases q1 : dlP (arcsU n.cs fl n.cs.length) P c (i : Int) p = 1
    · obtain ⟨j, hj, e1, e2⟩ := d3 q1
      have := fin j hj e1
      rw [e2] at this
      rw [q1]; omega
    · by_cases q2 : dlP (arcsU n.cs fl n.cs.length) P c (i : Int) p = -1
      · obtain ⟨j, hj, e1, e2⟩ := d4 q2
        have := fin j hj e1
        rw [e2] at this
        rw [q2]; omega
      · rw [show dlP (arcsU n.cs fl n.cs.length) P c (i : Int) p = 0 by omega]; omega
  · rw [h3 v, hf.sum v, H.ret, Int.sub_self, Int.mul_zero, Int.mul_zero]; rfl
  · rw [h2]
    have := Int.mul_pos (show (0 : Int) < b by omega) H.pos
    omega
end
end Go.Proofs.Ytbdleggmdbihnaa

/- The flow of a net: the walk. -/
namespace Go.Proofs.Ytbdleggmdbihnaa
open Go.RowKit
set_option linter.unusedVariables false
set_option linter.unusedSimpArgs false
theorem upL_mem : ∀ (m : Nat), ∀ v ∈ upL m, 0 ≤ v ∧ v < (m : Int)
  | 0, v, h => by simp [upL] at h
  | m + 1, v, h => by
    rw [upL, List.mem_append, List.mem_singleton] at h
    rcases h with h | rfl
    · have := upL_mem m v h; omega
    · omega
theorem lg_out {m : Nat} {ar : List Ac} {B : Int} {fs : List Int} (hB : 0 ≤ B) (hO : ∀ a ∈ ar, OkA m B a) :
    (lgC ar m fs = [] ∧ (∃ q t, q < m + 1 ∧ LgI ar m B (srcL m fs) q ar.length t (lgS ar m fs).1) ∧ ∀ a ∈ ar, cAt (lgS ar m fs).1.L a.fr > -549755813888 → cAt (lgS ar m fs).1.L a.fr + a.ln ≤ cAt (lgS ar m fs).1.L a.tv) ∨
    (∃ P c p, lgC ar m fs = cycL ar P c p ∧ CycOk ar m P c p) := by
  have hinit : LgI ar m B (srcL m fs) 0 0 (fun _ => 0) ⟨srcL m fs, List.replicate m 0, -1⟩ := LgI.init (srcU_len m fs fs.length) (srcU_bd m fs fs.length)
  obtain ⟨g1, g2⟩ := lgR_ok hB hO (m + 1) 0 _ ⟨srcL m fs, List.replicate m 0, -1⟩ hinit
  cases h : (lgS ar m fs).2
  · obtain ⟨t, a1, a2⟩ := g2 h (by omega)
    rw [show 0 + (m + 1) - 1 = m by omega] at a1
    refine .inr ⟨_, _, _, ?_, cyc_ok a1 hO a2⟩
    unfold lgC; rw [h]; rfl
  · obtain ⟨q, t, hq, a1, a2⟩ := g1 h
    refine .inl ⟨?_, ⟨q, t, by omega, a1⟩, a2⟩
    unfold lgC; rw [h]; rfl
abbrev flC (n : Nt) (fl : List Int) : List Ac := lgC (arcsU n.cs fl n.cs.length) n.ls.length (upL n.ls.length)
def flF (n : Nt) : Nat → List Int → List Int
  | 0, fl => fl
  | f + 1, fl => if flC n fl = [] then fl else flF n f (chgL (minB n fl (flC n fl)) fl (flC n fl))
theorem FlOk.bd10 {n : Nt} (ok : OkN n) {fl : List Int} (h : FlOk n fl) : ∀ z ∈ fl, -10 ≤ z ∧ z ≤ 10 := fun z hz => by
  obtain ⟨i, hi, rfl⟩ := List.getElem_of_mem hz
  have hl := h.len
  have h1 := h.bd i (by omega)
  have h2 := (ok.rg n.cs[i] (List.getElem_mem (by omega))).wt
  have e : cAt fl (i : Int) = fl[i] := by unfold cAt; rw [Int.toNat_natCast, List.getD_eq_getElem?_getD, List.getElem?_eq_getElem hi]; rfl
  omega
theorem cAt_zer (m : Nat) (v : Int) : cAt (List.replicate m (0 : Int)) v = 0 := by
  unfold cAt
  rw [List.getD_eq_getElem?_getD, List.getElem?_replicate]
  split <;> rfl
theorem att_zero (x : Cr) (v : Int) : att x v 0 = 0 := by unfold att; simp
theorem fl_zero {n : Nt} (ok : OkN n) : FlOk n (List.replicate n.cs.length 0) := by
  refine ⟨by simp, fun i h => ?_, fun v => ?_⟩
  · rw [cAt_zer]
    have := (ok.rg n.cs[i] (List.getElem_mem h)).wt
    omega
  · have : ∀ i, sumV n.cs (List.replicate n.cs.length 0) v i = 0 := fun i => by
      induction i with
      | zero => rfl
      | succ i ih => rw [sumV, ih, cAt_zer, att_zero]; rfl
    exact this _
theorem val_zero (n : Nt) : ∀ i, valU n.cs (List.replicate n.cs.length 0) i = 0
  | 0 => rfl
  | i + 1 => by rw [valU, val_zero n i, cAt_zer]; simp
theorem arcsU_len16 {n : Nt} (ok : OkN n) (fl : List Int) : (arcsU n.cs fl n.cs.length).length ≤ 64 := by
  have := arcsU_len n.cs fl n.cs.length
  have := ok.c16
  omega
theorem fl_step {n : Nt} (ok : OkN n) {fl : List Int} (hf : FlOk n fl) (hC : flC n fl ≠ []) : FlOk n (chgL (minB n fl (flC n fl)) fl (flC n fl)) ∧ valU n.cs fl n.cs.length < valU n.cs (chgL (minB n fl (flC n fl)) fl (flC n fl)) n.cs.length := by
  rcases lg_out (m := n.ls.length) (fs := upL n.ls.length) (show (0 : Int) ≤ 10000 by omega) (fun a ha => (arcsU_ok (fl := fl) n.cs.length (Nat.le_refl _) a ha).okA ok) with ⟨h, -⟩ | ⟨P, c, p, h, H⟩
  · exact absurd h hC
  · rw [show flC n fl = _ from h]
    exact chg_fl ok hf H
theorem fl_val {n : Nt} (ok : OkN n) {fl : List Int} (hf : FlOk n fl) : valU n.cs fl n.cs.length ≤ 1600000 := by
  have h1 := (valU_bd ok (hf.bd10 ok) n.cs.length (Nat.le_refl _)).2
  have := ok.c16
  omega
theorem flF_ok {n : Nt} (ok : OkN n) : ∀ (f : Nat) (fl : List Int), FlOk n fl → (2000000 - valU n.cs fl n.cs.length).toNat < f → FlOk n (flF n f fl) ∧ flC n (flF n f fl) = []
  | 0, fl, hf, h => by omega
  | f + 1, fl, hf, h => by
    unfold flF
    split
    · rename_i hC; exact ⟨hf, hC⟩
    · rename_i hC
      obtain ⟨h1, h2⟩ := fl_step ok hf hC
      have := fl_val ok h1
      exact flF_ok ok f _ h1 (by omega)
abbrev flZ (n : Nt) : List Int := flF n 4000000 (List.replicate n.cs.length 0)
theorem flZ_ok {n : Nt} (ok : OkN n) : FlOk n (flZ n) ∧ flC n (flZ n) = [] := flF_ok ok _ _ (fl_zero ok) (by rw [val_zero]; simp)
theorem cyc_at {C : List Ac} {ar : List Ac} {P : List Int} {c : Int} {p j : Nat} (hC : C = cycL ar P c p) (hj : j < p) : (C.map encA)[0 + ((j : Nat) : Int).toNat]? = some (encA (arcP ar P (bkN ar P j c))) := by
  rw [hC, Nat.zero_add, Int.toNat_natCast, List.getElem?_map]
  unfold cycL
  rw [List.getElem?_map, List.getElem?_range hj]; rfl
abbrev flH (n : Nt) (rs : List MV) : MHeap := [⟨0, false, 2, [encN n]⟩, ⟨0, true, 1, []⟩, ⟨0, false, 1, rs⟩]
abbrev flH2 (n : Nt) (fl : List Int) (rs : List MV) (C : List Ac) (p : Nat) : MHeap := flH n rs ++ [⟨0, decide ((arcsU n.cs fl n.cs.length).length = 0), 5, (arcsU n.cs fl n.cs.length).map encA⟩, ⟨0, decide (n.ls.length = 0), 1, (upL n.ls.length).map I64⟩, ⟨0, false, 1, (lgS (arcsU n.cs fl n.cs.length) n.ls.length (upL n.ls.length)).1.L.map I64⟩, ⟨0, decide (p + 1 = 0), 5, C.map encA⟩]
theorem cr_at {n : Nt} {a : Ac} (h0 : 0 ≤ a.cr) (h1 : a.cr < (n.cs.length : Int)) : (n.cs.map encCr)[a.cr.toNat]? = some (encCr (n.cs.getD a.cr.toNat default)) := by
  have h : a.cr.toNat < n.cs.length := by omega
  rw [List.getElem?_map, List.getD_eq_getElem?_getD, List.getElem?_eq_getElem h]; rfl
theorem min_snoc (n : Nt) (fl : List Int) (b : Int) (C : List Ac) (a : Ac) : (C ++ [a]).foldl (minA n fl) b = min (C.foldl (minA n fl) b) ((n.cs.getD a.cr.toNat default).wt - a.sg * cAt fl a.cr) := by rw [List.foldl_append]; rfl
theorem mn_min (a b : Int) : mn a b = min a b := by unfold mn; omega
theorem mf_flow : MT.mf 44 = some ⟨76, [(.tmp 2)], (.seq (.reg [⟨none, some 1, .box 2 (.s 0)⟩, ⟨none, some 2, .nil0 1⟩]) (.seq (.reg [⟨none, some 11, .fa 0 (.s 1)⟩, ⟨none, some 12, .fa 1 (.s 11)⟩, ⟨none, some 13, .ld none (.s 12)⟩, ⟨none, some 14, .len (.s 13)⟩, ⟨none, some 15, .mks (.lit (.int .i64 0)) (.s 14)⟩, ⟨none, some 3, .mv (.s 15)⟩]) (.block 0 (.loop [1, 3] (.block 1 (.seq (.reg [⟨none, some 17, .fa 0 (.s 1)⟩, ⟨none, some 18, .fa 0 (.s 17)⟩, ⟨none, some 19, .ld none (.s 18)⟩, ⟨none, some 20, .len (.s 19)⟩, ⟨none, some 21, .ld (some 2) (.s 1)⟩, ⟨none, some 22, .mv (.s 3)⟩, ⟨none, some 23, .call 68 [.s 21, .s 22]⟩, ⟨none, some 24, .ld (some 2) (.s 1)⟩, ⟨none, some 25, .call 69 [.s 24]⟩, ⟨none, some 26, .call 63 [.s 20, .s 23, .s 25]⟩, ⟨none, some 16, .mv (.s 26)⟩, ⟨none, some 27, .ext (.s 16) 0⟩, ⟨none, some 28, .ext (.s 16) 1⟩, ⟨none, some 4, .mv (.s 27)⟩, ⟨none, some 5, .mv (.s 28)⟩]) (.seq (.seq (.reg [⟨none, some 29, .mv (.s 5)⟩, ⟨none, some 30, .eqn false (.s 29)⟩]) (.cond (.s 30) (.seq (.reg [⟨none, some 31, .mv (.s 3)⟩, ⟨none, some 2, .mv (.s 31)⟩]) .ret) .skip)) (.seq (.reg [⟨none, some 6, .mv (.c (.lit (.int .i64 20)))⟩]) (.seq (.seq (.reg [⟨none, some 32, .mv (.s 5)⟩, ⟨none, some 33, .len (.s 32)⟩, ⟨none, some 34, .mv (.c (.lit (.int .i64 0)))⟩]) (.block 2 (.loop [34, 33, 32, 6, 1, 3, 5] (.seq (.reg [⟨none, some 35, .bin .lss (.s 34) (.s 33)⟩]) (.seq (.cond (.s 35) .skip (.exit 2)) (.seq (.block 3 (.seq (.reg [⟨none, some 36, .ia 5 (.s 32) (.s 34)⟩, ⟨none, some 37, .ld (some 5) (.s 36)⟩, ⟨none, some 8, .new (.agg [(.lit (.int .i64 0)), (.lit (.int .i64 0)), (.lit (.int .i64 0)), (.lit (.int .i64 0)), (.lit (.int .i64 0))])⟩, ⟨none, none, .st 5 (.s 8) (.s 37)⟩]) (.reg [⟨none, some 38, .mv (.s 6)⟩, ⟨none, some 39, .fa 0 (.s 1)⟩, ⟨none, some 40, .fa 1 (.s 39)⟩, ⟨none, some 41, .ld none (.s 40)⟩, ⟨none, some 42, .fa 3 (.s 8)⟩, ⟨none, some 43, .ld none (.s 42)⟩, ⟨none, some 44, .ia 6 (.s 41) (.s 43)⟩, ⟨none, some 45, .fa 5 (.s 44)⟩, ⟨none, some 46, .ld none (.s 45)⟩, ⟨none, some 47, .fa 4 (.s 8)⟩, ⟨none, some 48, .ld none (.s 47)⟩, ⟨none, some 49, .mv (.s 3)⟩, ⟨none, some 50, .fa 3 (.s 8)⟩, ⟨none, some 51, .ld none (.s 50)⟩, ⟨none, some 52, .ia 1 (.s 49) (.s 51)⟩, ⟨none, some 53, .ld none (.s 52)⟩, ⟨none, some 54, .bin .mul (.s 48) (.s 53)⟩, ⟨none, some 55, .bin .sub (.s 46) (.s 54)⟩, ⟨none, some 56, .mn (.s 38) (.s 55)⟩, ⟨none, some 6, .mv (.s 56)⟩]))) (.reg [⟨none, some 57, .bin .add (.s 34) (.c (.lit (.int .i64 1)))⟩, ⟨none, some 34, .mv (.s 57)⟩]))))))) (.seq (.reg [⟨none, some 58, .mv (.s 5)⟩, ⟨none, some 59, .len (.s 58)⟩, ⟨none, some 60, .mv (.c (.lit (.int .i64 0)))⟩]) (.block 4 (.loop [60, 59, 58, 3, 6, 1] (.seq (.reg [⟨none, some 61, .bin .lss (.s 60) (.s 59)⟩]) (.seq (.cond (.s 61) .skip (.exit 4)) (.seq (.block 5 (.seq (.reg [⟨none, some 62, .ia 5 (.s 58) (.s 60)⟩, ⟨none, some 63, .ld (some 5) (.s 62)⟩, ⟨none, some 10, .new (.agg [(.lit (.int .i64 0)), (.lit (.int .i64 0)), (.lit (.int .i64 0)), (.lit (.int .i64 0)), (.lit (.int .i64 0))])⟩, ⟨none, none, .st 5 (.s 10) (.s 63)⟩]) (.reg [⟨none, some 64, .mv (.s 3)⟩, ⟨none, some 65, .fa 3 (.s 10)⟩, ⟨none, some 66, .ld none (.s 65)⟩, ⟨none, some 67, .ia 1 (.s 64) (.s 66)⟩, ⟨none, some 68, .ld none (.s 67)⟩, ⟨none, some 69, .fa 4 (.s 10)⟩, ⟨none, some 70, .ld none (.s 69)⟩, ⟨none, some 71, .mv (.s 6)⟩, ⟨none, some 72, .bin .mul (.s 70) (.s 71)⟩, ⟨none, some 73, .bin .add (.s 68) (.s 72)⟩, ⟨none, some 74, .ia 1 (.s 64) (.s 66)⟩, ⟨none, none, .st 1 (.s 74) (.s 73)⟩]))) (.reg [⟨none, some 75, .bin .add (.s 60) (.c (.lit (.int .i64 1)))⟩, ⟨none, some 60, .mv (.s 75)⟩]))))))))))))))))⟩ := by kernel_rfl
set_option maxHeartbeats 4000000 in
theorem flow_z (k : Nat) (n : Nt) (ok : OkN n) :
    runZ MT (orA (k + 5)) (itA (k + 5)) 4000000 44 [encN n] [] = some (.arr 0 0 n.cs.length 0, [⟨0, false, 1, (flZ n).map I64⟩]) := by
  have hs1 : (MV.sl (n.ls.map encLn)).slen = some n.ls.length := by simp [MV.slen]
  have hs2 : (MV.sl (n.cs.map encCr)).slen = some n.cs.length := by simp [MV.slen]
  have l1 := ok.l1
  have l8 := ok.l8
  have c16 := ok.c16
  have w1 := fun h => all_c (k + 4) n (by omega) h
  refine runZ_of mf_flow (by simp) ?_
  simp only [argsL]
  repeat (first | apply ef_seq | (apply ef_mv; exact rfl; exact rfl) | (apply ef_len; exact rfl; exact rfl; (assumption)) | (apply ef_ldp; exact rfl; exact rfl; (exact rfl); exact rfl; (exact rfl); (exact rfl)) | (apply ef_fap; exact rfl; exact rfl) | (apply ef_box; exact rfl; exact rfl; exact rfl; exact rfl) | (apply ef_nil0; exact rfl) | (apply ef_mks; exact rfl; exact rfl; (omega); (omega)) | apply ef_nil | apply seqQ.normal | apply ef_block)
  refine ef_loopf (α := Nat × List Int × List MV) (fun p => p.2.2 = p.2.1.map I64 ∧ FlOk n p.2.1 ∧ flZ n = flF n p.1 p.2.1 ∧ (2000000 - valU n.cs p.2.1 n.cs.length).toNat < p.1) (fun _ => []) [(1, .ptr 0 0 0 0), (3, .arr 2 0 n.cs.length 0)] (fun p => flH n p.2.2) (fun p => (2000000 - valU n.cs p.2.1 n.cs.length).toNat) (4000000, List.replicate n.cs.length 0, List.replicate n.cs.length (I64 0)) [] (fun _ => rfl) (by ((repeat (refine Hold.cons (by exact rfl) ?_)); exact Hold.nil)) (by ((repeat (refine Hold.cons (by exact rfl) ?_)); exact Hold.nil)) rfl rfl ⟨by simp, fl_zero ok, rfl, by rw [val_zero]; simp⟩ (by rw [val_zero]; simp) ?_
  rintro ⟨f, fl, rs⟩ ⟨hrs, hf, hZ, hm⟩
  try simp only at hrs hf hZ hm ⊢
  have hlr : ∀ j, ltL j rs = true := fun j => by rw [hrs]; exact ltL_I j _
  have hlen := hf.len
  obtain ⟨f, rfl⟩ : ∃ g, f = g + 1 := ⟨f - 1, by omega⟩
  rw [flF] at hZ
  have hout := lg_out (m := n.ls.length) (fs := upL n.ls.length) (show (0 : Int) ≤ 10000 by omega) (fun a ha => (arcsU_ok (fl := fl) n.cs.length (Nat.le_refl _) a ha).okA ok)
  have w2 := fun h v w hv hw => longest_c k n.ls.length l1 l8 (arcsU n.cs fl n.cs.length) 10000 (by omega) (by omega) (fun a ha => (arcsU_ok (fl := fl) n.cs.length (Nat.le_refl _) a ha).okA ok) (arcsU_len16 ok fl) (upL n.ls.length) (upL_mem _) (by rw [upL_len]; omega) h (v := v) (w := w) hv hw
  rcases hout with ⟨hC, -⟩ | ⟨P, c, p, hC, H⟩
  · have hZ2 : flZ n = fl := by rw [hZ, show flC n fl = [] from hC, if_pos rfl]
    rw [hC] at w2
    repeat (first | apply ef_seq | (apply ef_mv; exact rfl; exact rfl) | (apply ef_len; exact rfl; exact rfl; (assumption)) | (apply ef_ldp; exact rfl; exact rfl; (exact rfl); exact rfl; (exact rfl); (first | exact rd_2 rfl rfl | exact rfl)) | (apply ef_fap; exact rfl; exact rfl) | apply ef_block)
    (apply ef_call; (· exact rfl); (· ((repeat (apply XVs.cons; exact rfl)); exact XVs.nil)); · exact arcs_c (k + 4) n ok fl hlen _ (frz_row (o := ⟨0, false, 1, rs⟩) rfl rfl (by simp [hlen]) (by rw [← hrs]; exact hlr 0) hrs))
    repeat (first | (apply ef_ldp; exact rfl; exact rfl; (exact rfl); exact rfl; (exact rfl); (exact rd_2 rfl rfl)) | (apply ef_call; exact rfl; ((repeat (apply XVs.cons; exact rfl)); exact XVs.nil); (with_reducible exact w1 _)))
    (apply ef_call; (· exact rfl); (· ((repeat (apply XVs.cons; exact rfl)); exact XVs.nil)); · exact w2 _ _ _ (frz_row (o := ⟨0, decide ((arcsU n.cs fl n.cs.length).length = 0), 5, (arcsU n.cs fl n.cs.length).map encA⟩) rfl rfl (by simp) (ltL_A 0 _) rfl) (frz_row (o := ⟨0, decide (n.ls.length = 0), 1, (upL n.ls.length).map I64⟩) rfl rfl (by simp [upL_len]) (ltL_I 0 _) rfl))
    repeat (first | apply ef_seq | (apply ef_mv; exact rfl; exact rfl) | (apply ef_ext; exact rfl; exact rfl; exact rfl) | apply ef_nil | apply seqQ.normal)
    refine ef_eqna (ht := by exact rfl) (by exact rfl) (by exact rfl) (by exact rfl) (by exact Nat.le_refl _) ?_
    repeat (first | apply ef_seq | (apply ef_mv; exact rfl; exact rfl) | apply ef_nil | apply seqQ.normal | apply loopQ.ret | apply ef_ret | apply seqQ.ret | apply blockQ.ret | (apply ef_condt; exact rfl; (exact (rfl : true = true))))
    (apply fin_arr; (· exact rfl); (· exact rfl); (· exact rfl); (· exact rfl); (· (show 0 + _ ≤ rs.length; rw [hrs]; simp [hlen])); (· (exact hlr 0)); (· (show (rs.drop 0).take _ = _; rw [hZ2, List.drop_zero, List.take_of_length_le (by rw [hrs]; simp [hlen]), hrs])); (· exact rfl); (· exact rfl); (· rfl))
  · have hp0 := H.p0
    have hpm := H.pm
    have hCl : (lgC (arcsU n.cs fl n.cs.length) n.ls.length (upL n.ls.length)).length = p := by rw [hC, cycL_len]
    obtain ⟨p, rfl⟩ : ∃ q, p = q + 1 := ⟨p - 1, by omega⟩
    have hCn : flC n fl ≠ [] := fun e => by
      rw [show flC n fl = lgC (arcsU n.cs fl n.cs.length) n.ls.length (upL n.ls.length) from rfl] at e
      rw [e] at hCl; cases hCl
    rw [if_neg hCn] at hZ
    obtain ⟨hf2, hv2⟩ := fl_step ok hf hCn
    have hv3 := fl_val ok hf2
    rw [hCl] at w2
    obtain ⟨C, hCd⟩ : ∃ C, lgC (arcsU n.cs fl n.cs.length) n.ls.length (upL n.ls.length) = C := ⟨_, rfl⟩
    rw [hCd] at w2 hC hCl
    rw [show flC n fl = C from hCd] at hZ hf2 hv2 hv3
    have hlt2 : ∀ j, ltL j ((lgS (arcsU n.cs fl n.cs.length) n.ls.length (upL n.ls.length)).1.L.map I64) = true := fun j => ltL_I j _
    have hAr : ∀ i, i < p + 1 → ArcOk n fl (arcP (arcsU n.cs fl n.cs.length) P (bkN (arcsU n.cs fl n.cs.length) P i c)) := fun i hi => arcsU_ok _ (Nat.le_refl _) _ (H.inn i hi).2.1
    repeat (first | apply ef_seq | (apply ef_mv; exact rfl; exact rfl) | (apply ef_len; exact rfl; exact rfl; (assumption)) | (apply ef_ldp; exact rfl; exact rfl; (exact rfl); exact rfl; (exact rfl); (first | exact rd_2 rfl rfl | exact rfl)) | (apply ef_fap; exact rfl; exact rfl) | apply ef_block)
    (apply ef_call; (· exact rfl); (· ((repeat (apply XVs.cons; exact rfl)); exact XVs.nil)); · exact arcs_c (k + 4) n ok fl hlen _ (frz_row (o := ⟨0, false, 1, rs⟩) rfl rfl (by simp [hlen]) (by rw [← hrs]; exact hlr 0) hrs))
    repeat (first | (apply ef_ldp; exact rfl; exact rfl; (exact rfl); exact rfl; (exact rfl); (exact rd_2 rfl rfl)) | (apply ef_call; exact rfl; ((repeat (apply XVs.cons; exact rfl)); exact XVs.nil); (with_reducible exact w1 _)))
    (apply ef_call; (· exact rfl); (· ((repeat (apply XVs.cons; exact rfl)); exact XVs.nil)); · exact w2 _ _ _ (frz_row (o := ⟨0, decide ((arcsU n.cs fl n.cs.length).length = 0), 5, (arcsU n.cs fl n.cs.length).map encA⟩) rfl rfl (by simp) (ltL_A 0 _) rfl) (frz_row (o := ⟨0, decide (n.ls.length = 0), 1, (upL n.ls.length).map I64⟩) rfl rfl (by simp [upL_len]) (ltL_I 0 _) rfl))
    repeat (first | apply ef_seq | (apply ef_mv; exact rfl; exact rfl) | (apply ef_ext; exact rfl; exact rfl; exact rfl) | apply ef_nil | apply seqQ.normal)
    refine ef_eqna (ht := by exact rfl) (by exact rfl) (by exact rfl) (by exact rfl) (by show 0 + (p + 1) ≤ (List.map encA C).length; simp [hCl]) ?_
    repeat (first | apply ef_seq | (apply ef_mv; exact rfl; exact rfl) | (apply ef_len; exact rfl; exact rfl; (exact rfl)) | apply ef_nil | apply seqQ.normal | apply ef_block | apply ef_skip | (apply ef_condf; exact rfl; (exact (rfl : false = false))))
    refine ef_loopf (α := Nat × Int) (fun q => q.1 ≤ p + 1 ∧ q.2 = (cycL (arcsU n.cs fl n.cs.length) P c q.1).foldl (minA n fl) 20) (fun q => [(34, I64 (q.1 : Int)), (6, I64 q.2)]) [(33, I64 ((p + 1 : Nat) : Int)), (32, .arr 6 0 (p + 1) 0), (1, .ptr 0 0 0 0), (3, .arr 2 0 n.cs.length 0), (5, .arr 6 0 (p + 1) 0)] (fun _ => flH2 n fl rs C p) (fun q => p + 1 - q.1) (0, 20) [34, 6] (fun _ => rfl) (by ((repeat (refine Hold.cons (by exact rfl) ?_)); exact Hold.nil)) (by ((repeat (refine Hold.cons (by exact rfl) ?_)); exact Hold.nil)) rfl rfl ⟨by omega, rfl⟩ (by simp; omega) ?_
    rintro ⟨j, b⟩ ⟨hj, hb⟩
    try simp only at hj hb ⊢
    by_cases hlj : j < p + 1
    · have e1 := cyc_at hC hlj
      have ha := hAr j hlj
      have hmb := min_ok n fl (cycL (arcsU n.cs fl n.cs.length) P c j) 20 (fun a ha => by
        obtain ⟨i, hi, rfl⟩ := List.mem_map.1 ha
        exact hAr i (by have : i < j := by simpa using hi
                        omega)) (by omega) (by omega)
      obtain ⟨mb1, mb2, -⟩ := hmb
      rw [← hb] at mb1 mb2
      have HN := Lib.hid (show (cycL (arcsU n.cs fl n.cs.length) P c (j + 1)).foldl (minA n fl) 20 = min ((cycL (arcsU n.cs fl n.cs.length) P c j).foldl (minA n fl) 20) ((n.cs.getD (arcP (arcsU n.cs fl n.cs.length) P (bkN (arcsU n.cs fl n.cs.length) P j c)).cr.toNat default).wt - (arcP (arcsU n.cs fl n.cs.length) P (bkN (arcsU n.cs fl n.cs.length) P j c)).sg * cAt fl (arcP (arcsU n.cs fl n.cs.length) P (bkN (arcsU n.cs fl n.cs.length) P j c)).cr) by rw [cyc_snoc, min_snoc])
      generalize arcP (arcsU n.cs fl n.cs.length) P (bkN (arcsU n.cs fl n.cs.length) P j c) = a at e1 ha HN
      have a0 := ha.c0
      have a1 := ha.c1
      have e2 := cr_at a0 a1
      have e3 := lit_at hrs hlen a0 a1
      have hx := ok.rg _ (getD_mem a0 a1)
      have hfb := hf.bd a.cr.toNat (by omega)
      rw [show ((a.cr.toNat : Nat) : Int) = a.cr by omega] at hfb
      have hget : n.cs[a.cr.toNat] = n.cs.getD a.cr.toNat default := by rw [List.getD_eq_getElem?_getD, List.getElem?_eq_getElem (show a.cr.toNat < n.cs.length by omega)]; rfl
      rw [hget] at hfb
      have hsg : a.sg = 1 ∨ a.sg = -1 := by rcases ha.dir with ⟨s, -⟩ | ⟨s, -⟩ <;> omega
      generalize n.cs.getD a.cr.toNat default = x at e2 hx HN hfb
      have hw := hx.wt
      generalize cAt fl a.cr = g at e3 HN hfb
      have m1 := mul_w (a := a.sg) (b := g) 1 10 (by omega) (by omega) (by omega) (by omega) (by omega)
      have m2 := mul_bd (a := a.sg) (b := g) (A := 1) (B := 10) (by omega) (by omega) (by omega) (by omega)
      repeat (first | apply ef_seq | (apply ef_mv; exact rfl; exact rfl) | (apply ef_bin; exact rfl; exact rfl; exact rfl; (first | exact cmp_t rfl (by first | exact rfl | (simp only [cmpP]; omega)) | ((with_reducible refine bin_add (wrap_of ?_ ?_)) <;> omega) | ((with_reducible refine bin_sub (wrap_of ?_ ?_)) <;> omega) | ((with_reducible refine bin_mul (wrap_of ?_ ?_)) <;> omega))) | (apply ef_ldr; exact rfl; exact rfl; (exact rfl)) | (apply ef_ldp; exact rfl; exact rfl; (exact rfl); exact rfl; (first | exact rfl | assumption); (first | exact rd_5 rfl rfl rfl rfl rfl | exact rfl)) | (apply ef_ias; exact rfl; exact rfl; exact rfl; (omega); assumption; exact rfl) | (apply ef_iaa; exact rfl; exact rfl; exact rfl; (omega); (omega); (exact rfl)) | (apply ef_fap; exact rfl; exact rfl) | (apply ef_far; exact rfl; exact rfl) | (apply ef_mn; exact rfl; exact rfl; exact rfl) | (apply ef_new; exact rfl) | (apply ef_st; exact rfl; exact rfl; exact rfl; exact rfl; exact rfl; exact rfl; (exact rfl); exact rfl) | apply ef_nil | apply seqQ.normal | apply blockQ.normal | apply ef_block | apply ef_skip | (apply ef_condt; exact rfl; (exact (rfl : true = true))))
      (refine loopQ.normal _ _ ⟨(j + 1, mn b (x.wt - a.sg * g)), ⟨hlj, by rw [HN.out, hb]; exact mn_min _ _⟩, (by first | (simp only; omega) | omega), ⟨by ((repeat (refine Hold.cons (by exact rfl) ?_)); exact Hold.nil), by ((repeat (refine Hold.cons (by exact rfl) ?_)); exact Hold.nil)⟩, .inr ⟨by ((repeat (refine hdl_cons rfl (by first | rfl | (simp [MV.lt, ltL, ltL_A, ltL_I, ltL_Ln, ltL_Cr, hlr, hlt2, splice, MV.cells])) ?_)); exact hdl_nil), by (simp [hltL, ltL, MV.lt, ltL, ltL_A, ltL_I, ltL_Ln, ltL_Cr, hlr, hlt2, splice, MV.cells])⟩, by exact rfl⟩)
    · obtain rfl : j = p + 1 := by omega
      have hmb := min_ok n fl C 20 (fun a ha => by
        rw [hC] at ha
        obtain ⟨i, hi, rfl⟩ := List.mem_map.1 ha
        exact hAr i (by simpa using hi)) (by omega) (by omega)
      obtain ⟨mb1, mb2, -⟩ := hmb
      rw [← hC] at hb
      rw [← hb] at mb1 mb2
      rw [show minB n fl C = b from hb.symm] at hZ hf2 hv2 hv3
      repeat (first | apply ef_seq | (apply ef_mv; exact rfl; exact rfl) | (apply ef_bin; exact rfl; exact rfl; exact rfl; (exact cmp_f rfl (by simp only [cmpP]; omega))) | (apply ef_len; exact rfl; exact rfl; (exact rfl)) | apply ef_nil | apply seqQ.normal | apply loopQ.exit | apply ef_exit | apply seqQ.exit | apply blockQ.here | apply ef_block | (apply ef_condf; exact rfl; (exact (rfl : false = false))))
      refine ef_loopf (α := Nat × List Int × List MV) (fun q => q.1 ≤ p + 1 ∧ q.2.1 = chgL b fl (cycL (arcsU n.cs fl n.cs.length) P c q.1) ∧ q.2.2 = q.2.1.map I64) (fun q => [(60, I64 (q.1 : Int))]) [(59, I64 ((p + 1 : Nat) : Int)), (58, .arr 6 0 (p + 1) 0), (3, .arr 2 0 n.cs.length 0), (6, I64 b), (1, .ptr 0 0 0 0)] (fun q => flH2 n fl q.2.2 C p) (fun q => p + 1 - q.1) (0, fl, rs) [60] (fun _ => rfl) (by ((repeat (refine Hold.cons (by exact rfl) ?_)); exact Hold.nil)) (by ((repeat (refine Hold.cons (by exact rfl) ?_)); exact Hold.nil)) rfl rfl ⟨by omega, rfl, hrs⟩ (by simp; omega) ?_
      rintro ⟨i, F, us⟩ ⟨hi, hF, hus⟩
      try simp only at hi hF hus ⊢
      have hFl : F.length = n.cs.length := by rw [hF, chgL_len, hlen]
      have hlu : ∀ j, ltL j us = true := fun j => by rw [hus]; exact ltL_I j _
      by_cases hli : i < p + 1
      · have e1 := cyc_at hC hli
        have ha := hAr i hli
        obtain ⟨g1, -, -⟩ := chg_ok ok hlen H b i hi
        obtain ⟨d1, -, -⟩ := dlP_ok H (arcP (arcsU n.cs fl n.cs.length) P (bkN (arcsU n.cs fl n.cs.length) P i c)).cr i hi
        have HN := Lib.hid (show chgL b fl (cycL (arcsU n.cs fl n.cs.length) P c (i + 1)) = chgA b (chgL b fl (cycL (arcsU n.cs fl n.cs.length) P c i)) (arcP (arcsU n.cs fl n.cs.length) P (bkN (arcsU n.cs fl n.cs.length) P i c)) by rw [cyc_snoc, chg_snoc])
        rw [← hF] at g1 HN
        generalize arcP (arcsU n.cs fl n.cs.length) P (bkN (arcsU n.cs fl n.cs.length) P i c) = a at e1 ha HN d1
        have a0 := ha.c0
        have a1 := ha.c1
        have e3 := lit_at hus hFl a0 a1
        have g2 := g1 a.cr.toNat (by omega)
        have hx := ok.rg _ (getD_mem a0 a1)
        have hw := hx.wt
        have hfb := hf.bd a.cr.toNat (by omega)
        have hw2 := (ok.rg n.cs[a.cr.toNat] (List.getElem_mem (by omega))).wt
        rw [show ((a.cr.toNat : Nat) : Int) = a.cr by omega] at hfb g2
        have hsg : a.sg = 1 ∨ a.sg = -1 := by rcases ha.dir with ⟨s, -⟩ | ⟨s, -⟩ <;> omega
        have m0 := mul_bd (a := dlP (arcsU n.cs fl n.cs.length) P c a.cr i) (b := b) (A := 1) (B := 20) (by omega) (by omega) (by omega) (by omega)
        have m1 := mul_w (a := a.sg) (b := b) 1 20 (by omega) (by omega) (by omega) (by omega) (by omega)
        have m2 := mul_bd (a := a.sg) (b := b) (A := 1) (B := 20) (by omega) (by omega) (by omega) (by omega)
        have g3 : -40 ≤ cAt F a.cr ∧ cAt F a.cr ≤ 40 := by omega
        clear g1 g2 m0 d1
        have hls : ∀ (j i : Nat) (x : Int), ltL j (us.set i (I64 x)) = true := fun j i x => ltL_set (hlu j) rfl
        repeat (first | apply ef_seq | (apply ef_mv; exact rfl; exact rfl) | (apply ef_bin; exact rfl; exact rfl; exact rfl; (first | exact cmp_t rfl (by first | exact rfl | (simp only [cmpP]; omega)) | ((with_reducible refine bin_add (wrap_of ?_ ?_)) <;> omega) | ((with_reducible refine bin_mul (wrap_of ?_ ?_)) <;> omega))) | (apply ef_ldp; exact rfl; exact rfl; (exact rfl); exact rfl; (first | exact rfl | assumption); (first | exact rd_5 rfl rfl rfl rfl rfl | exact rfl)) | (apply ef_iaa; exact rfl; exact rfl; exact rfl; (omega); (omega); (exact rfl)) | (apply ef_fap; exact rfl; exact rfl) | (apply ef_new; exact rfl) | (apply ef_st; exact rfl; exact rfl; exact rfl; exact rfl; exact rfl; exact rfl; (first | exact rfl | assumption); exact rfl) | apply ef_nil | apply seqQ.normal | apply blockQ.normal | apply ef_block | apply ef_skip | (apply ef_condt; exact rfl; (exact (rfl : true = true))))
        (refine loopQ.normal _ _ ⟨(i + 1, chgA b F a, us.set (0 + a.cr.toNat) (I64 (cAt F a.cr + a.sg * b))), ⟨hli, HN.out.symm, by rw [hus, Nat.zero_add]; unfold chgA; rw [List.map_set]⟩, (by first | (simp only; omega) | omega), ⟨by ((repeat (refine Hold.cons (by exact rfl) ?_)); exact Hold.nil), by ((repeat (refine Hold.cons (by exact rfl) ?_)); exact Hold.nil)⟩, .inr ⟨by ((repeat (refine hdl_cons rfl (by first | rfl | (simp [MV.lt, ltL, ltL_A, ltL_I, ltL_Ln, ltL_Cr, hls, hlt2, splice, MV.cells])) ?_)); exact hdl_nil), by (simp [hltL, ltL, MV.lt, ltL, ltL_A, ltL_I, ltL_Ln, ltL_Cr, hls, hlt2, splice, MV.cells])⟩, by exact rfl⟩)
      · obtain rfl : i = p + 1 := by omega
        rw [← hC] at hF
        repeat (first | apply ef_seq | (apply ef_bin; exact rfl; exact rfl; exact rfl; (exact cmp_f rfl (by simp only [cmpP]; omega))) | apply ef_nil | apply seqQ.normal | apply loopQ.exit | apply ef_exit | apply seqQ.exit | apply blockQ.normal | apply blockQ.here | (apply ef_condf; exact rfl; (exact (rfl : false = false))))
        (refine loopQ.normal _ _ ⟨(f, F, us), ⟨hus, by rw [hF]; exact hf2, by rw [hF]; exact hZ, by show (2000000 - valU n.cs F n.cs.length).toNat < f; rw [hF]; omega⟩, (by show (2000000 - valU n.cs F n.cs.length).toNat < (2000000 - valU n.cs fl n.cs.length).toNat; rw [hF]; omega), ⟨by ((repeat (refine Hold.cons (by exact rfl) ?_)); exact Hold.nil), by ((repeat (refine Hold.cons (by exact rfl) ?_)); exact Hold.nil)⟩, .inr ⟨by ((repeat (refine hdl_cons rfl (by first | rfl | (simp [MV.lt, ltL, ltL_A, ltL_I, ltL_Ln, ltL_Cr, hlu, hlt2, splice, MV.cells])) ?_)); exact hdl_nil), by (simp [hltL, ltL, MV.lt, ltL, ltL_A, ltL_I, ltL_Ln, ltL_Cr, hlu, hlt2, splice, MV.cells])⟩, by exact rfl⟩)
theorem flow_c (k : Nat) (n : Nt) (ok : OkN n) (h : MHeap) : orA (k + 6) 44 [encN n] h = some (.arr h.length 0 n.cs.length 0, h ++ [⟨0, false, 1, (flZ n).map I64⟩]) := by
  have := callA (k := k + 5) (h := h) (args := [encN n]) (args' := [encN n]) (frzL_lt (by simp [ltL, MV.lt, ltL_Ln, ltL_Cr])) rfl (flow_z k n ok) rfl (by simp [okH, ltL_I, pureL_I])
  simpa [shV, sh1] using this
end Go.Proofs.Ytbdleggmdbihnaa

/- Contracts: which flows are accepted, and their values; the program, and the document. -/
namespace Go.Proofs.Ytbdleggmdbihnaa
open Go.RowKit
set_option linter.unusedVariables false
set_option linter.unusedSimpArgs false
def okU (cs : List Cr) (fl : List Int) : Nat → Bool
  | 0 => true
  | i + 1 => okU cs fl i && inB (cAt fl i) (-(cs.getD i default).wt) (cs.getD i default).wt
def sumsU (m : Nat) (cs : List Cr) (fl : List Int) : Nat → List Int
  | 0 => List.replicate m 0
  | i + 1 => ((sumsU m cs fl i).set (cs.getD i default).ln.toNat (cAt (sumsU m cs fl i) (cs.getD i default).ln + cAt fl i)).set (cs.getD i default).ti.toNat (cAt ((sumsU m cs fl i).set (cs.getD i default).ln.toNat (cAt (sumsU m cs fl i) (cs.getD i default).ln + cAt fl i)) (cs.getD i default).ti + cAt fl i)
def nzB (z : Int) : Bool := z != 0
def flE (n : Nt) (fl : List Int) : Int := if fl.length = n.cs.length then (if okU n.cs fl n.cs.length = true then (if (sumsU n.ls.length n.cs fl n.cs.length).any nzB then 19 else 0) else 2) else 10
theorem sumsU_len (m : Nat) (cs : List Cr) (fl : List Int) : ∀ i, (sumsU m cs fl i).length = m
  | 0 => by simp [sumsU]
  | i + 1 => by rw [sumsU, List.length_set, List.length_set]; exact sumsU_len m cs fl i
theorem okU_at {cs : List Cr} {fl : List Int} : ∀ {i : Nat}, okU cs fl i = true → ∀ j, j < i → inB (cAt fl j) (-(cs.getD j default).wt) (cs.getD j default).wt = true
  | 0, _, j, hj => by omega
  | i + 1, h, j, hj => by
    rw [okU, Bool.and_eq_true] at h
    by_cases e : j = i
    · subst e; exact h.2
    · exact okU_at h.1 j (by omega)
theorem okU_no {cs : List Cr} {fl : List Int} {i : Nat} (h : inB (cAt fl i) (-(cs.getD i default).wt) (cs.getD i default).wt = false) {N : Nat} (hi : i < N) : okU cs fl N = false := by
  cases hN : okU cs fl N
  · rfl
  · rw [okU_at hN i hi] at h; cases h
theorem okU_next {cs : List Cr} {fl : List Int} {i : Nat} (h : okU cs fl i = true) (h2 : inB (cAt fl i) (-(cs.getD i default).wt) (cs.getD i default).wt = true) : okU cs fl (i + 1) = true := by rw [okU, h, h2]; rfl
theorem sumsU_bd {n : Nt} (ok : OkN n) {fl : List Int} : ∀ i, i ≤ n.cs.length → okU n.cs fl i = true → ∀ v, -(20 * (i : Int)) ≤ cAt (sumsU n.ls.length n.cs fl i) v ∧ cAt (sumsU n.ls.length n.cs fl i) v ≤ 20 * (i : Int)
  | 0, _, _, v => by rw [sumsU, cAt_zer]; simp
  | i + 1, hi, h, v => by
    rw [okU, Bool.and_eq_true] at h
    have ih := sumsU_bd ok i (by omega) h.1
    have hb := inB_iff.1 h.2
    have hx := (ok.rg _ (getD_mem (n := n) (i := (i : Int)) (by omega) (by omega))).wt
    rw [Int.toNat_natCast] at hx
    rw [sumsU]
    have i1 := ih (n.cs.getD i default).ln
    rw [cAt_put]
    split
    · rw [cAt_put]
      have i2 := ih (n.cs.getD i default).ti
      split <;> omega
    · rw [cAt_put]
      have i2 := ih v
      split <;> omega
theorem sumsU_sum {n : Nt} (ok : OkN n) {fl : List Int} : ∀ i, i ≤ n.cs.length → ∀ v, 0 ≤ v → v < (n.ls.length : Int) → cAt (sumsU n.ls.length n.cs fl i) v = sumV n.cs fl v i
  | 0, _, v, _, _ => by rw [sumsU, cAt_zer]; rfl
  | i + 1, hi, v, v0, v1 => by
    have ih := sumsU_sum ok (fl := fl) i (by omega)
    have hm := getD_mem (n := n) (i := (i : Int)) (by omega) (by omega)
    rw [Int.toNat_natCast] at hm
    have hx := ok.rg _ hm
    have hk := ok.kd _ hm
    have hne : (n.cs.getD i default).ln ≠ (n.cs.getD i default).ti := fun e => by
      rw [e, hk.2] at hk
      exact absurd hk.1 (by simp)
    have x1 := hx.l0
    have x2 := hx.l1
    have x3 := hx.t0
    have x4 := hx.t1
    have hl := sumsU_len n.ls.length n.cs fl i
    rw [sumsU, sumV, cAt_set x3 (by rw [List.length_set]; omega) v0, cAt_set x1 (by omega) x3, cAt_set x1 (by omega) v0, ← ih v v0 v1]
    unfold att
    have hne2 : ¬ (n.cs.getD i default).ti = (n.cs.getD i default).ln := fun e => hne e.symm
    by_cases e1 : v = (n.cs.getD i default).ti
    · subst e1
      rw [if_pos rfl, if_neg hne2, if_neg hne, if_pos rfl]; omega
    · by_cases e2 : v = (n.cs.getD i default).ln
      · subst e2
        rw [if_neg hne, if_pos rfl, if_pos rfl, if_neg hne2]; omega
      · rw [if_neg e1, if_neg e2, if_neg (fun e => e2 e.symm), if_neg (fun e => e1 e.symm)]; omega
theorem sumV_off {n : Nt} (ok : OkN n) {fl : List Int} {v : Int} (hv : ¬ (0 ≤ v ∧ v < (n.ls.length : Int))) : ∀ i, i ≤ n.cs.length → sumV n.cs fl v i = 0
  | 0, _ => rfl
  | i + 1, hi => by
    have hm := getD_mem (n := n) (i := (i : Int)) (by omega) (by omega)
    rw [Int.toNat_natCast] at hm
    have hx := ok.rg _ hm
    have x1 := hx.l0
    have x2 := hx.l1
    have x3 := hx.t0
    have x4 := hx.t1
    rw [sumV, sumV_off ok hv i (by omega)]
    unfold att
    rw [if_neg (by omega), if_neg (by omega)]; rfl
theorem flE_ok {n : Nt} (ok : OkN n) {fl : List Int} : flE n fl = 0 ↔ FlOk n fl := by
  have hgd : ∀ (i : Nat) (h : i < n.cs.length), n.cs.getD i default = n.cs[i] := fun i h => by rw [List.getD_eq_getElem?_getD, List.getElem?_eq_getElem h]; rfl
  unfold flE
  constructor
  · intro h
    split at h
    case isFalse => cases h
    rename_i hl
    split at h
    case isFalse => cases h
    rename_i ho
    split at h
    case isTrue => cases h
    rename_i hs
    refine ⟨hl, fun i hi => ?_, fun v => ?_⟩
    · have := inB_iff.1 (okU_at ho i hi)
      rw [hgd i hi] at this
      exact this
    · by_cases hv : 0 ≤ v ∧ v < (n.ls.length : Int)
      · rw [← sumsU_sum ok _ (Nat.le_refl _) v hv.1 hv.2]
        have hs2 : (sumsU n.ls.length n.cs fl n.cs.length).any nzB = false := by simpa using hs
        rw [List.any_eq_false] at hs2
        have hlen := sumsU_len n.ls.length n.cs fl n.cs.length
        have hlt : v.toNat < (sumsU n.ls.length n.cs fl n.cs.length).length := by omega
        have := hs2 _ (List.getElem_mem hlt)
        unfold cAt
        rw [List.getD_eq_getElem?_getD, List.getElem?_eq_getElem hlt]
        simpa [nzB] using this
      · exact sumV_off ok hv _ (Nat.le_refl _)
  · intro h
    rw [if_pos h.len]
    have ho : ∀ i, i ≤ n.cs.length → okU n.cs fl i = true := fun i => by
      induction i with
      | zero => intro _; rfl
      | succ i ih =>
        intro hi
        refine okU_next (ih (by omega)) (inB_iff.2 ?_)
        rw [hgd i (by omega)]
        exact h.bd i (by omega)
    rw [if_pos (ho _ (Nat.le_refl _)), if_neg]
    rw [Bool.not_eq_true, List.any_eq_false]
    intro z hz
    obtain ⟨i, hi, rfl⟩ := List.getElem_of_mem hz
    have hlen := sumsU_len n.ls.length n.cs fl n.cs.length
    have e : cAt (sumsU n.ls.length n.cs fl n.cs.length) (i : Int) = (sumsU n.ls.length n.cs fl n.cs.length)[i] := by unfold cAt; rw [Int.toNat_natCast, List.getD_eq_getElem?_getD, List.getElem?_eq_getElem hi]; rfl
    rw [← e, sumsU_sum ok _ (Nat.le_refl _) _ (by omega) (by omega), h.sum]
    simp [nzB]
theorem mf_cf1 : MT.mf 61 = some ⟨5, [(.tmp 2)], (.seq (.reg [⟨none, some 2, .mv (.c (.lit (.bool false)))⟩]) (.seq (.reg [⟨none, some 3, .mv (.s 0)⟩, ⟨none, some 4, .bin .neq (.s 3) (.c (.lit (.int .i64 0)))⟩, ⟨none, some 2, .mv (.s 4)⟩]) .ret))⟩ := by kernel_rfl
theorem cf1_c (k : Nat) (z : Int) (h : MHeap) : orA (k + 1) 61 [I64 z] h = some (Bo (nzB z), h) := by
  refine callL (args' := [I64 z]) (frzL_lt rfl) rfl (runZ_of mf_cf1 (by simp) ?_)
  simp only [argsL]
  by_cases hz : z = 0
  · subst hz
    repeat (first | apply ef_seq | (apply ef_mv; exact rfl; exact rfl) | (apply ef_bin; exact rfl; exact rfl; exact rfl; (exact cmp_f rfl (by simp only [cmpP]; omega))) | apply ef_nil | apply seqQ.normal | apply ef_ret)
    (refine fin1 rfl (by exact rfl) rfl ?_)
    rfl
  · repeat (first | apply ef_seq | (apply ef_mv; exact rfl; exact rfl) | (apply ef_bin; exact rfl; exact rfl; exact rfl; (exact cmp_t rfl (by first | exact rfl | (simp only [cmpP]; omega)))) | apply ef_nil | apply seqQ.normal | apply ef_ret)
    (refine fin1 rfl (by exact rfl) rfl ?_)
    simp [nzB, hz]
abbrev cfH (n : Nt) (rs : List MV) (e1 : MV) : MHeap := [⟨0, false, 2, [encN n]⟩, ⟨0, false, 2, [encN n]⟩, ⟨0, false, 1, [I64 0, e1]⟩, ⟨0, false, 1, rs⟩]
theorem mf_CheckFlow : MT.mf 27 = some ⟨77, [(.tmp 4), (.tmp 5)], (.seq (.reg [⟨none, some 2, .box 2 (.s 0)⟩, ⟨none, some 4, .mv (.c (.lit (.int .i64 0)))⟩, ⟨none, some 5, .mv (.c (.lit (.int .i64 0)))⟩]) (.seq (.reg [⟨none, some 12, .ld (some 2) (.s 2)⟩, ⟨none, some 13, .call 36 [.s 12]⟩, ⟨none, some 11, .mv (.s 13)⟩, ⟨none, some 14, .ext (.s 11) 0⟩, ⟨none, some 15, .ext (.s 11) 1⟩, ⟨none, some 6, .new (.agg [(.lit (.slice none 0 0)), (.lit (.slice none 0 0))])⟩, ⟨none, none, .st 2 (.s 6) (.s 14)⟩, ⟨none, some 7, .mv (.s 15)⟩]) (.seq (.seq (.reg [⟨none, some 16, .mv (.s 7)⟩, ⟨none, some 17, .mv (.s 1)⟩, ⟨none, some 18, .len (.s 17)⟩, ⟨none, some 19, .fa 1 (.s 2)⟩, ⟨none, some 20, .ld none (.s 19)⟩, ⟨none, some 21, .len (.s 20)⟩, ⟨none, some 22, .bin .eql (.s 18) (.s 21)⟩, ⟨none, some 23, .call 41 [.s 22, (.c (.lit (.int .i64 10)))]⟩, ⟨none, some 24, .bsl (.lit (.int .i64 0)) 1 2 [(0, (.s 16)), (1, (.s 23))]⟩, ⟨none, some 25, .call 40 [.s 24]⟩, ⟨none, some 7, .mv (.s 25)⟩]) (.seq (.reg [⟨none, some 26, .mv (.s 7)⟩, ⟨none, some 27, .bin .neq (.s 26) (.c (.lit (.int .i64 0)))⟩]) (.cond (.s 27) (.seq (.reg [⟨none, some 28, .mv (.s 7)⟩, ⟨none, some 4, .mv (.c (.lit (.int .i64 0)))⟩, ⟨none, some 5, .mv (.s 28)⟩]) .ret) .skip))) (.seq (.reg [⟨none, some 29, .fa 0 (.s 2)⟩, ⟨none, some 30, .ld none (.s 29)⟩, ⟨none, some 31, .len (.s 30)⟩, ⟨none, some 32, .mks (.lit (.int .i64 0)) (.s 31)⟩, ⟨none, some 8, .mv (.s 32)⟩]) (.seq (.seq (.reg [⟨none, some 33, .fa 1 (.s 2)⟩, ⟨none, some 34, .ld none (.s 33)⟩, ⟨none, some 35, .len (.s 34)⟩, ⟨none, some 36, .mv (.c (.lit (.int .i64 0)))⟩]) (.block 0 (.loop [36, 35, 34, 1, 8, 6] (.seq (.reg [⟨none, some 37, .bin .lss (.s 36) (.s 35)⟩]) (.seq (.cond (.s 37) .skip (.exit 0)) (.seq (.block 1 (.seq (.reg [⟨none, some 38, .mv (.s 36)⟩, ⟨none, some 39, .ia 6 (.s 34) (.s 36)⟩, ⟨none, some 40, .ld (some 6) (.s 39)⟩, ⟨none, some 10, .new (.agg [(.lit (.int .i64 0)), (.lit (.int .i64 0)), (.lit (.int .i64 0)), (.lit (.int .i64 0)), (.lit (.int .i64 0)), (.lit (.int .i64 0))])⟩, ⟨none, some 9, .mv (.s 38)⟩, ⟨none, none, .st 6 (.s 10) (.s 40)⟩]) (.seq (.seq (.reg [⟨none, some 41, .mv (.s 1)⟩, ⟨none, some 42, .mv (.s 9)⟩, ⟨none, some 43, .ia 1 (.s 41) (.s 42)⟩, ⟨none, some 44, .ld none (.s 43)⟩, ⟨none, some 45, .fa 5 (.s 10)⟩, ⟨none, some 46, .ld none (.s 45)⟩, ⟨none, some 47, .call 39 [.s 44, .s 46]⟩, ⟨none, some 48, .un .not (.s 47)⟩]) (.cond (.s 48) (.seq (.reg [⟨none, some 4, .mv (.c (.lit (.int .i64 0)))⟩, ⟨none, some 5, .mv (.c (.lit (.int .i64 2)))⟩]) .ret) .skip)) (.seq (.reg [⟨none, some 49, .mv (.s 8)⟩, ⟨none, some 50, .fa 0 (.s 10)⟩, ⟨none, some 51, .ld none (.s 50)⟩, ⟨none, some 52, .ia 1 (.s 49) (.s 51)⟩, ⟨none, some 53, .ld none (.s 52)⟩, ⟨none, some 54, .mv (.s 1)⟩, ⟨none, some 55, .mv (.s 9)⟩, ⟨none, some 56, .ia 1 (.s 54) (.s 55)⟩, ⟨none, some 57, .ld none (.s 56)⟩, ⟨none, some 58, .bin .add (.s 53) (.s 57)⟩, ⟨none, some 59, .ia 1 (.s 49) (.s 51)⟩, ⟨none, none, .st 1 (.s 59) (.s 58)⟩]) (.reg [⟨none, some 60, .mv (.s 8)⟩, ⟨none, some 61, .fa 1 (.s 10)⟩, ⟨none, some 62, .ld none (.s 61)⟩, ⟨none, some 63, .ia 1 (.s 60) (.s 62)⟩, ⟨none, some 64, .ld none (.s 63)⟩, ⟨none, some 65, .mv (.s 1)⟩, ⟨none, some 66, .mv (.s 9)⟩, ⟨none, some 67, .ia 1 (.s 65) (.s 66)⟩, ⟨none, some 68, .ld none (.s 67)⟩, ⟨none, some 69, .bin .add (.s 64) (.s 68)⟩, ⟨none, some 70, .ia 1 (.s 60) (.s 62)⟩, ⟨none, none, .st 1 (.s 70) (.s 69)⟩]))))) (.reg [⟨none, some 71, .bin .add (.s 36) (.c (.lit (.int .i64 1)))⟩, ⟨none, some 36, .mv (.s 71)⟩]))))))) (.seq (.seq (.reg [⟨none, some 72, .mv (.s 8)⟩, ⟨none, some 73, .call 37 [.s 72, (.c (.fn 61 0 []))]⟩]) (.cond (.s 73) (.seq (.reg [⟨none, some 4, .mv (.c (.lit (.int .i64 0)))⟩, ⟨none, some 5, .mv (.c (.lit (.int .i64 19)))⟩]) .ret) .skip)) (.seq (.reg [⟨none, some 74, .ld (some 2) (.s 6)⟩, ⟨none, some 75, .mv (.s 1)⟩, ⟨none, some 76, .call 43 [.s 74, .s 75]⟩, ⟨none, some 4, .mv (.s 76)⟩, ⟨none, some 5, .mv (.c (.lit (.int .i64 0)))⟩]) .ret)))))))⟩ := by kernel_rfl
def cfE (n : Nt) (fl : List Int) : Int := if (netF n).2 = 0 then flE n fl else (netF n).2
def cfV (n : Nt) (fl : List Int) : Int := if cfE n fl = 0 then valU n.cs fl n.cs.length else 0
set_option maxHeartbeats 4000000 in
theorem CheckFlow_z (k : Nat) (n : Nt) (hb : BdN n) (fl : List Int) (hfl : fl.length ≤ 1000) :
    runZ MT (orA (k + 6)) (itA (k + 6)) 4000000 27 [encN n, .sl (fl.map I64)] [] = some (.tup [I64 (cfV n fl), I64 (cfE n fl)], []) := by
  have hs1 : (MV.sl (n.ls.map encLn)).slen = some n.ls.length := by simp [MV.slen]
  have hs2 : (MV.sl (n.cs.map encCr)).slen = some n.cs.length := by simp [MV.slen]
  have hs3 : (MV.sl (fl.map I64)).slen = some fl.length := by simp [MV.slen]
  have HE := Lib.hid (show cfE n fl = if (netF n).2 = 0 then (if fl.length = n.cs.length then (if okU n.cs fl n.cs.length = true then (if (sumsU n.ls.length n.cs fl n.cs.length).any nzB then 19 else 0) else 2) else 10) else (netF n).2 from rfl)
  have HV := Lib.hid (show cfV n fl = if cfE n fl = 0 then valU n.cs fl n.cs.length else 0 from rfl)
  have w1 := fun h => open_c k n hb h
  have w2 := fun b e h => unless_c (k + 5) b e h rfl
  refine runZ_of mf_CheckFlow (by simp) ?_
  simp only [argsL]
  by_cases h0 : (netF n).2 = 0
  rotate_left
  · have HE2 : cfE n fl = (netF n).2 := by rw [HE.out, if_neg h0]
    have HV2 : cfV n fl = 0 := by rw [HV.out, if_neg (by omega)]
    rw [HE2, HV2]
    generalize (netF n).2 = e at *
    have hfe : ∀ z, firstE [e, z] = e := fun z => by unfold firstE; rw [if_pos h0]
    by_cases hl : fl.length = n.cs.length
    · repeat (first | apply ef_seq | (apply ef_mv; exact rfl; exact rfl) | (apply ef_bin; exact rfl; exact rfl; exact rfl; (exact cmp_t rfl (by first | exact rfl | (simp only [cmpP]; omega)))) | (apply ef_len; exact rfl; exact rfl; (assumption)) | (apply ef_ldp; exact rfl; exact rfl; (exact rfl); exact rfl; (exact rfl); (first | exact rd_2 rfl rfl | exact rfl)) | (apply ef_fap; exact rfl; exact rfl) | (apply ef_ext; exact rfl; exact rfl; exact rfl) | (apply ef_box; exact rfl; exact rfl; exact rfl; exact rfl) | (apply ef_new; exact rfl) | (apply ef_bsl; exact rfl; (repeat (apply XVs.cons; exact rfl)); exact XVs.nil; exact rfl) | (apply ef_st; exact rfl; exact rfl; exact rfl; exact rfl; exact rfl; exact rfl; (exact rfl); exact rfl) | apply ef_nil | apply seqQ.normal | apply ef_ret | apply seqQ.ret | (apply ef_condt; exact rfl; (exact (rfl : true = true))) | (apply ef_call; exact rfl; ((repeat (apply XVs.cons; exact rfl)); exact XVs.nil); (with_reducible first | exact w1 _ | exact w2 _ _ _)) | (apply ef_call; exact rfl; ((repeat (apply XVs.cons; exact rfl)); exact XVs.nil); (with_reducible apply first2_c); exact rfl; exact rfl; exact rfl; exact hfe _))
      (apply fin2; (· exact rfl); (· exact rfl); (· exact rfl); (· rfl))
    · repeat (first | apply ef_seq | (apply ef_mv; exact rfl; exact rfl) | (apply ef_bin; exact rfl; exact rfl; exact rfl; (first | exact cmp_t rfl (by first | exact rfl | (simp only [cmpP]; omega)) | exact cmp_f rfl (by simp only [cmpP]; omega))) | (apply ef_len; exact rfl; exact rfl; (assumption)) | (apply ef_ldp; exact rfl; exact rfl; (exact rfl); exact rfl; (exact rfl); (first | exact rd_2 rfl rfl | exact rfl)) | (apply ef_fap; exact rfl; exact rfl) | (apply ef_ext; exact rfl; exact rfl; exact rfl) | (apply ef_box; exact rfl; exact rfl; exact rfl; exact rfl) | (apply ef_new; exact rfl) | (apply ef_bsl; exact rfl; (repeat (apply XVs.cons; exact rfl)); exact XVs.nil; exact rfl) | (apply ef_st; exact rfl; exact rfl; exact rfl; exact rfl; exact rfl; exact rfl; (exact rfl); exact rfl) | apply ef_nil | apply seqQ.normal | apply ef_ret | apply seqQ.ret | (apply ef_condt; exact rfl; (exact (rfl : true = true))) | (apply ef_call; exact rfl; ((repeat (apply XVs.cons; exact rfl)); exact XVs.nil); (with_reducible first | exact w1 _ | exact w2 _ _ _)) | (apply ef_call; exact rfl; ((repeat (apply XVs.cons; exact rfl)); exact XVs.nil); (with_reducible apply first2_c); exact rfl; exact rfl; exact rfl; exact hfe _))
      (apply fin2; (· exact rfl); (· exact rfl); (· exact rfl); (· rfl))
  have ok := net_ok h0
  have l1 := ok.l1
  have l8 := ok.l8
  have c16 := ok.c16
  rw [h0] at w1
  by_cases hl : fl.length = n.cs.length
  rotate_left
  · have HE2 : cfE n fl = 10 := by rw [HE.out, if_pos h0, if_neg hl]
    have HV2 : cfV n fl = 0 := by rw [HV.out, if_neg (by omega)]
    rw [HE2, HV2]
    repeat (first | apply ef_seq | (apply ef_mv; exact rfl; exact rfl) | (apply ef_bin; exact rfl; exact rfl; exact rfl; (first | exact cmp_f rfl (by simp only [cmpP]; omega) | exact rfl)) | (apply ef_len; exact rfl; exact rfl; (assumption)) | (apply ef_ldp; exact rfl; exact rfl; (exact rfl); exact rfl; (exact rfl); (first | exact rd_2 rfl rfl | exact rfl)) | (apply ef_fap; exact rfl; exact rfl) | (apply ef_ext; exact rfl; exact rfl; exact rfl) | (apply ef_box; exact rfl; exact rfl; exact rfl; exact rfl) | (apply ef_new; exact rfl) | (apply ef_bsl; exact rfl; (repeat (apply XVs.cons; exact rfl)); exact XVs.nil; exact rfl) | (apply ef_st; exact rfl; exact rfl; exact rfl; exact rfl; exact rfl; exact rfl; (exact rfl); exact rfl) | apply ef_nil | apply seqQ.normal | apply ef_ret | apply seqQ.ret | (apply ef_condt; exact rfl; (exact (rfl : true = true))) | (apply ef_call; exact rfl; ((repeat (apply XVs.cons; exact rfl)); exact XVs.nil); (with_reducible first | exact w1 _ | exact w2 _ _ _)) | (apply ef_call; exact rfl; ((repeat (apply XVs.cons; exact rfl)); exact XVs.nil); (with_reducible apply first2_c); exact rfl; exact rfl; exact rfl; (exact rfl)))
    (apply fin2; (· exact rfl); (· exact rfl); (· exact rfl); (· rfl))
  have HE1 : cfE n fl = if okU n.cs fl n.cs.length = true then (if (sumsU n.ls.length n.cs fl n.cs.length).any nzB then 19 else 0) else 2 := by rw [HE.out, if_pos h0, if_pos hl]
  repeat (first | apply ef_seq | (apply ef_mv; exact rfl; exact rfl) | (apply ef_bin; exact rfl; exact rfl; exact rfl; (first | exact cmp_t rfl (by first | exact rfl | (simp only [cmpP]; omega)) | exact rfl)) | (apply ef_len; exact rfl; exact rfl; (assumption)) | (apply ef_ldp; exact rfl; exact rfl; (exact rfl); exact rfl; (exact rfl); (first | exact rd_2 rfl rfl | exact rfl)) | (apply ef_fap; exact rfl; exact rfl) | (apply ef_ext; exact rfl; exact rfl; exact rfl) | (apply ef_box; exact rfl; exact rfl; exact rfl; exact rfl) | (apply ef_new; exact rfl) | (apply ef_bsl; exact rfl; (repeat (apply XVs.cons; exact rfl)); exact XVs.nil; exact rfl) | (apply ef_mks; exact rfl; exact rfl; (omega); (omega)) | (apply ef_st; exact rfl; exact rfl; exact rfl; exact rfl; exact rfl; exact rfl; (exact rfl); exact rfl) | apply ef_nil | apply seqQ.normal | apply ef_block | apply ef_skip | (apply ef_condf; exact rfl; (exact (rfl : false = false))) | (apply ef_call; exact rfl; ((repeat (apply XVs.cons; exact rfl)); exact XVs.nil); (with_reducible first | exact w1 _ | exact w2 _ _ _)) | (apply ef_call; exact rfl; ((repeat (apply XVs.cons; exact rfl)); exact XVs.nil); (with_reducible apply first2_c); exact rfl; exact rfl; exact rfl; (exact rfl)))
  refine ef_loopf (α := Nat × List Int × List MV) (fun q => q.1 ≤ n.cs.length ∧ q.2.1 = sumsU n.ls.length n.cs fl q.1 ∧ q.2.2 = q.2.1.map I64 ∧ okU n.cs fl q.1 = true) (fun q => [(36, I64 (q.1 : Int))]) [(35, I64 (n.cs.length : Int)), (34, .sl (n.cs.map encCr)), (1, .sl (fl.map I64)), (8, .arr 3 0 n.ls.length 0), (6, .ptr 1 0 0 0)] (fun q => cfH n q.2.2 (I64 0)) (fun q => n.cs.length - q.1) (0, List.replicate n.ls.length 0, List.replicate n.ls.length (I64 0)) [36] (fun _ => rfl) (by ((repeat (refine Hold.cons (by exact rfl) ?_)); exact Hold.nil)) (by ((repeat (refine Hold.cons (by exact rfl) ?_)); exact Hold.nil)) rfl rfl ⟨by omega, rfl, by simp, rfl⟩ (by simp; omega) ?_
  rintro ⟨i, S, rs⟩ ⟨hi, hS, hrs, ho⟩
  try simp only at hi hS hrs ho ⊢
  have hSl : S.length = n.ls.length := by rw [hS, sumsU_len]
  have hlr : ∀ j, ltL j rs = true := fun j => by rw [hrs]; exact ltL_I j _
  have hbd := sumsU_bd ok i hi ho
  rw [← hS] at hbd
  by_cases hlt : i < n.cs.length
  · have e1 := at_map encCr n.cs i hlt
    have hgd : n.cs.getD i default = n.cs[i] := by rw [List.getD_eq_getElem?_getD, List.getElem?_eq_getElem hlt]; rfl
    have hx := ok.rg n.cs[i] (List.getElem_mem hlt)
    have e2 := cAt_at hl (i := (i : Int)) (by omega) (by omega)
    have HN := Lib.hid (show sumsU n.ls.length n.cs fl (i + 1) = ((S.set n.cs[i].ln.toNat (cAt S n.cs[i].ln + cAt fl i)).set n.cs[i].ti.toNat (cAt (S.set n.cs[i].ln.toNat (cAt S n.cs[i].ln + cAt fl i)) n.cs[i].ti + cAt fl i)) by rw [sumsU, hgd, hS])
    have hno := okU_no (cs := n.cs) (fl := fl) (i := i) (N := n.cs.length)
    have hyes := okU_next (cs := n.cs) (fl := fl) (i := i) ho
    rw [hgd] at hno hyes
    have hkd := ok.kd _ (List.getElem_mem hlt)
    have hne : n.cs[i].ti ≠ n.cs[i].ln := fun e => by
      rw [e, hkd.1] at hkd
      exact absurd hkd.2 (by simp)
    generalize n.cs[i] = x at e1 hx HN hno hyes hne
    generalize cAt fl (i : Int) = f at e2 HN hno hyes
    have x1 := hx.l0
    have x2 := hx.l1
    have x3 := hx.t0
    have x4 := hx.t1
    have xw := hx.wt
    cases hin : inB f (-x.wt) x.wt
    · have hN := hno hin hlt
      have HE2 : cfE n fl = 2 := by rw [HE1, hN]; rfl
      have HV2 : cfV n fl = 0 := by rw [HV.out, if_neg (by omega)]
      rw [HE2, HV2]
      have w3 := fun h => isSized_c (k + 4) f x.wt h (by omega) (by omega) hin
      repeat (first | apply ef_seq | (apply ef_mv; exact rfl; exact rfl) | (apply ef_bin; exact rfl; exact rfl; exact rfl; (exact cmp_t rfl (by first | exact rfl | (simp only [cmpP]; omega)))) | (apply ef_ldr; exact rfl; exact rfl; (first | exact rd_6 rfl rfl rfl rfl rfl rfl | exact rfl)) | (apply ef_ldp; exact rfl; exact rfl; (exact rfl); exact rfl; (exact rfl); (exact rfl)) | (apply ef_ias; exact rfl; exact rfl; exact rfl; (omega); assumption; exact rfl) | (apply ef_fap; exact rfl; exact rfl) | (apply ef_notF; exact rfl; exact rfl) | (apply ef_new; exact rfl) | (apply ef_st; exact rfl; exact rfl; exact rfl; exact rfl; exact rfl; exact rfl; (exact rfl); exact rfl) | apply ef_nil | apply seqQ.normal | apply loopQ.ret | apply ef_ret | apply seqQ.ret | apply blockQ.ret | apply ef_block | apply ef_skip | (apply ef_condt; exact rfl; (exact (rfl : true = true))) | (apply ef_call; exact rfl; ((repeat (apply XVs.cons; exact rfl)); exact XVs.nil); (with_reducible exact w3 _)))
      (apply fin2; (· exact rfl); (· exact rfl); (· exact rfl); (· rfl))
    · have w3 := fun h => isSized_c (k + 4) f x.wt h (by omega) (by omega) hin
      have hfb := inB_iff.1 hin
      have hb1 := hbd x.ln
      have hb2 := hbd x.ti
      have e3 := lit_at hrs hSl x1 x2
      have hS2 : rs.set (0 + x.ln.toNat) (I64 (cAt S x.ln + f)) = (S.set x.ln.toNat (cAt S x.ln + f)).map I64 := by rw [hrs, Nat.zero_add, List.map_set]
      have e4 := lit_at hS2 (by rw [List.length_set]; exact hSl) x3 x4
      have hse : cAt (S.set x.ln.toNat (cAt S x.ln + f)) x.ti = cAt S x.ti := by rw [cAt_set x1 (by omega) x3, if_neg hne]
      rw [hse] at e4 HN
      have hls : ∀ (j i i' : Nat) (x y : Int), ltL j ((rs.set i (I64 x)).set i' (I64 y)) = true := fun j i i' x y => ltL_set (ltL_set (hlr j) rfl) rfl
      repeat (first | apply ef_seq | (apply ef_mv; exact rfl; exact rfl) | (apply ef_bin; exact rfl; exact rfl; exact rfl; (first | exact cmp_t rfl (by first | exact rfl | (simp only [cmpP]; omega)) | ((with_reducible refine bin_add (wrap_of ?_ ?_)) <;> omega))) | (apply ef_ldr; exact rfl; exact rfl; (first | exact rd_6 rfl rfl rfl rfl rfl rfl | exact rfl)) | (apply ef_ldp; exact rfl; exact rfl; (exact rfl); exact rfl; (first | exact rfl | assumption); (exact rfl)) | (apply ef_ias; exact rfl; exact rfl; exact rfl; (omega); assumption; exact rfl) | (apply ef_iaa; exact rfl; exact rfl; exact rfl; (omega); (omega); (exact rfl)) | (apply ef_fap; exact rfl; exact rfl) | (apply ef_notT; exact rfl; exact rfl) | (apply ef_new; exact rfl) | (apply ef_st; exact rfl; exact rfl; exact rfl; exact rfl; exact rfl; exact rfl; (first | exact rfl | assumption); exact rfl) | apply ef_nil | apply seqQ.normal | apply blockQ.normal | apply ef_block | apply ef_skip | (apply ef_condt; exact rfl; (exact (rfl : true = true))) | (apply ef_condf; exact rfl; (exact (rfl : false = false))) | (apply ef_call; exact rfl; ((repeat (apply XVs.cons; exact rfl)); exact XVs.nil); (with_reducible exact w3 _)))
      (refine loopQ.normal _ _ ⟨(i + 1, ((S.set x.ln.toNat (cAt S x.ln + f)).set x.ti.toNat (cAt S x.ti + f)), (rs.set (0 + x.ln.toNat) (I64 (cAt S x.ln + f))).set (0 + x.ti.toNat) (I64 (cAt S x.ti + f))), ⟨hlt, HN.out.symm, by simp [hrs, List.map_set], hyes hin⟩, (by first | (simp only; omega) | omega), ⟨by ((repeat (refine Hold.cons (by exact rfl) ?_)); exact Hold.nil), by ((repeat (refine Hold.cons (by exact rfl) ?_)); exact Hold.nil)⟩, .inr ⟨by ((repeat (refine hdl_cons rfl (by first | rfl | (simp [MV.lt, ltL, ltL_I, ltL_Ln, ltL_Cr, hls, splice, MV.cells])) ?_)); exact hdl_nil), by (simp [hltL, ltL, MV.lt, ltL, ltL_I, ltL_Ln, ltL_Cr, hls, splice, MV.cells])⟩, by exact rfl⟩)
  · obtain rfl : i = n.cs.length := by omega
    have HE2 : cfE n fl = if S.any nzB = true then 19 else 0 := by rw [HE1, if_pos ho, hS]
    have w5 := fun b h v hv hb => ContainsFuncI_c (k + 4) 61 [] nzB S h (v := v) (fv := .fn 61 0 []) (t := b) (by omega) (fun z _ h => cf1_c (k + 3) z h) rfl hv rfl hb
    have hff := (flE_ok ok (fl := fl)).1
    cases hz : S.any nzB
    · rw [hz, if_neg (by simp)] at HE2
      have HV2 : cfV n fl = valU n.cs fl n.cs.length := by rw [HV.out, if_pos HE2]
      rw [HE2, HV2]
      have hfo := hff (by rw [← HE2]; unfold cfE; rw [if_pos h0])
      repeat (first | apply ef_seq | (apply ef_mv; exact rfl; exact rfl) | (apply ef_bin; exact rfl; exact rfl; exact rfl; (exact cmp_f rfl (by simp only [cmpP]; omega))) | apply ef_nil | apply seqQ.normal | apply loopQ.exit | apply ef_exit | apply seqQ.exit | apply blockQ.here | (apply ef_condf; exact rfl; (exact (rfl : false = false))))
      (apply ef_call; (· exact rfl); (· ((repeat (apply XVs.cons; exact rfl)); exact XVs.nil)); · exact w5 false _ _ (frz_row (o := ⟨0, false, 1, rs⟩) rfl rfl (by simp [hSl]) (by rw [← hrs]; exact hlr 0) hrs) hz)
      repeat (first | apply ef_seq | (apply ef_mv; exact rfl; exact rfl) | (apply ef_ldp; exact rfl; exact rfl; (exact rfl); exact rfl; (exact rfl); (exact rd_2 rfl rfl)) | apply ef_nil | apply seqQ.normal | apply ef_ret | apply ef_skip | (apply ef_condf; exact rfl; (exact (rfl : false = false))) | (apply ef_call; exact rfl; ((repeat (apply XVs.cons; exact rfl)); exact XVs.nil); (with_reducible exact value_c (k + 5) n ok fl hl (hfo.bd10 ok) _ (frz_sl (ltL_I 0 fl)))))
      (apply fin2; (· exact rfl); (· exact rfl); (· exact rfl); (· rfl))
    · rw [hz, if_pos rfl] at HE2
      have HV2 : cfV n fl = 0 := by rw [HV.out, if_neg (by omega)]
      rw [HE2, HV2]
      repeat (first | apply ef_seq | (apply ef_mv; exact rfl; exact rfl) | (apply ef_bin; exact rfl; exact rfl; exact rfl; (exact cmp_f rfl (by simp only [cmpP]; omega))) | apply ef_nil | apply seqQ.normal | apply loopQ.exit | apply ef_exit | apply seqQ.exit | apply blockQ.here | (apply ef_condf; exact rfl; (exact (rfl : false = false))))
      (apply ef_call; (· exact rfl); (· ((repeat (apply XVs.cons; exact rfl)); exact XVs.nil)); · exact w5 true _ _ (frz_row (o := ⟨0, false, 1, rs⟩) rfl rfl (by simp [hSl]) (by rw [← hrs]; exact hlr 0) hrs) hz)
      repeat (first | apply ef_seq | (apply ef_mv; exact rfl; exact rfl) | apply ef_nil | apply seqQ.normal | apply ef_ret | apply seqQ.ret | (apply ef_condt; exact rfl; (exact (rfl : true = true))))
      (apply fin2; (· exact rfl); (· exact rfl); (· exact rfl); (· rfl))
theorem CheckFlow_c (k : Nat) (n : Nt) (hb : BdN n) (fl : List Int) (hfl : fl.length ≤ 1000) (h : MHeap) {v : MV} (hv : frz 0 [] h 8 v = some (.sl (fl.map I64))) : orA (k + 7) 27 [encN n, v] h = some (.tup [I64 (cfV n fl), I64 (cfE n fl)], h) :=
  callTT (args' := [encN n, .sl (fl.map I64)]) (by simp [List.mapM_cons, hv, frz_lt (ltL_N n 0)]) rfl (CheckFlow_z k n hb fl hfl)
theorem mf_FlowOf : MT.mf 28 = some ⟨16, [(.tmp 2), (.tmp 3)], (.seq (.reg [⟨none, some 1, .box 2 (.s 0)⟩, ⟨none, some 2, .nil0 1⟩, ⟨none, some 3, .mv (.c (.lit (.int .i64 0)))⟩]) (.seq (.reg [⟨none, some 7, .ld (some 2) (.s 1)⟩, ⟨none, some 8, .call 36 [.s 7]⟩, ⟨none, some 6, .mv (.s 8)⟩, ⟨none, some 9, .ext (.s 6) 0⟩, ⟨none, some 10, .ext (.s 6) 1⟩, ⟨none, some 4, .new (.agg [(.lit (.slice none 0 0)), (.lit (.slice none 0 0))])⟩, ⟨none, none, .st 2 (.s 4) (.s 9)⟩, ⟨none, some 5, .mv (.s 10)⟩]) (.seq (.seq (.reg [⟨none, some 11, .mv (.s 5)⟩, ⟨none, some 12, .bin .neq (.s 11) (.c (.lit (.int .i64 0)))⟩]) (.cond (.s 12) (.seq (.reg [⟨none, some 13, .mv (.s 5)⟩, ⟨none, some 2, .nil0 1⟩, ⟨none, some 3, .mv (.s 13)⟩]) .ret) .skip)) (.seq (.reg [⟨none, some 14, .ld (some 2) (.s 4)⟩, ⟨none, some 15, .call 44 [.s 14]⟩, ⟨none, some 2, .mv (.s 15)⟩, ⟨none, some 3, .mv (.c (.lit (.int .i64 0)))⟩]) .ret))))⟩ := by kernel_rfl
theorem FlowOf_z (k : Nat) (n : Nt) (hb : BdN n) (ok : OkN n) (h0 : (netF n).2 = 0) :
    runZ MT (orA (k + 6)) (itA (k + 6)) 4000000 28 [encN n] [] = some (.tup [.arr 0 0 n.cs.length 0, I64 0], [⟨0, false, 1, (flZ n).map I64⟩]) := by
  have w1 := fun h => open_c k n hb h
  have w2 := fun h => flow_c k n ok h
  have hl := (flZ_ok ok).1.len
  rw [h0] at w1
  refine runZ_of mf_FlowOf (by simp) ?_
  simp only [argsL]
  repeat (first | apply ef_seq | (apply ef_mv; exact rfl; exact rfl) | (apply ef_bin; exact rfl; exact rfl; exact rfl; (exact cmp_f rfl (by simp only [cmpP]; omega))) | (apply ef_ldp; exact rfl; exact rfl; (exact rfl); exact rfl; (exact rfl); (exact rd_2 rfl rfl)) | (apply ef_ext; exact rfl; exact rfl; exact rfl) | (apply ef_box; exact rfl; exact rfl; exact rfl; exact rfl) | (apply ef_new; exact rfl) | (apply ef_nil0; exact rfl) | (apply ef_st; exact rfl; exact rfl; exact rfl; exact rfl; exact rfl; exact rfl; (exact rfl); exact rfl) | apply ef_nil | apply seqQ.normal | apply ef_ret | apply ef_skip | (apply ef_condf; exact rfl; (exact (rfl : false = false))) | (apply ef_call; exact rfl; ((repeat (apply XVs.cons; exact rfl)); exact XVs.nil); (with_reducible first | exact w1 _ | exact w2 _)))
  (apply fin_al; (· exact rfl); (· exact rfl); (· exact rfl); (· exact rfl); (· exact rfl); (· simp [hl]); (· exact ltL_I 0 _); (· exact rfl); (· exact rfl); (· exact rfl))
theorem FlowOf_c (k : Nat) (n : Nt) (hb : BdN n) (ok : OkN n) (h0 : (netF n).2 = 0) (h : MHeap) : orA (k + 7) 28 [encN n] h = some (.tup [.arr h.length 0 n.cs.length 0, I64 0], h ++ [⟨0, false, 1, (flZ n).map I64⟩]) := by
  have := callA (k := k + 6) (h := h) (args := [encN n]) (args' := [encN n]) (frzL_lt (by simp [ltL, MV.lt, ltL_Ln, ltL_Cr])) rfl (FlowOf_z k n hb ok h0) (by simp [okV, ok1, MV.lt, MV.pure]) (by simp [okH, ltL_I, pureL_I])
  simpa [shV, sh1] using this
theorem FlowOf_e (k : Nat) (n : Nt) (hb : BdN n) (h0 : (netF n).2 ≠ 0) (h : MHeap) : orA (k + 7) 28 [encN n] h = some (.tup [.arr h.length 0 0 0, I64 (netF n).2], h ++ [⟨0, true, 1, []⟩]) := by
  have hz : runZ MT (orA (k + 6)) (itA (k + 6)) 4000000 28 [encN n] [] = some (.tup [.arr 0 0 0 0, I64 (netF n).2], [⟨0, true, 1, []⟩]) := by
    have w1 := fun h => open_c k n hb h
    refine runZ_of mf_FlowOf (by simp) ?_
    simp only [argsL]
    generalize (netF n).2 = e at *
    repeat (first | apply ef_seq | (apply ef_mv; exact rfl; exact rfl) | (apply ef_bin; exact rfl; exact rfl; exact rfl; (exact cmp_t rfl (by first | exact rfl | (simp only [cmpP]; omega)))) | (apply ef_ldp; exact rfl; exact rfl; (exact rfl); exact rfl; (exact rfl); (exact rd_2 rfl rfl)) | (apply ef_ext; exact rfl; exact rfl; exact rfl) | (apply ef_box; exact rfl; exact rfl; exact rfl; exact rfl) | (apply ef_new; exact rfl) | (apply ef_nil0; exact rfl) | (apply ef_st; exact rfl; exact rfl; exact rfl; exact rfl; exact rfl; exact rfl; (exact rfl); exact rfl) | apply ef_nil | apply seqQ.normal | apply ef_ret | apply seqQ.ret | (apply ef_condt; exact rfl; (exact (rfl : true = true))) | (apply ef_call; exact rfl; ((repeat (apply XVs.cons; exact rfl)); exact XVs.nil); (with_reducible exact w1 _)))
    (apply fin_al; (· exact rfl); (· exact rfl); (· exact rfl); (· exact rfl); (· exact rfl); (· exact rfl); (· exact rfl); (· exact rfl); (· exact rfl); (· exact rfl))
  have := callA (k := k + 6) (h := h) (args := [encN n]) (args' := [encN n]) (frzL_lt (by simp [ltL, MV.lt, ltL_Ln, ltL_Cr])) rfl hz (by simp [okV, ok1, MV.lt, MV.pure]) (by simp [okH, ltL, pureL])
  simpa [shV, sh1] using this
end Go.Proofs.Ytbdleggmdbihnaa

/- Contracts of the document: the error and the value of a flow. -/
namespace Go.Proofs.Ytbdleggmdbihnaa
open Go.RowKit
set_option linter.unusedVariables false
set_option linter.unusedSimpArgs false
theorem mf_FlowErr : MT.mf 29 = some ⟨80, [(.tmp 4)], (.seq (.reg [⟨none, some 2, .box 2 (.s 0)⟩, ⟨none, some 4, .mv (.c (.lit (.int .i64 0)))⟩]) (.seq (.seq (.reg [⟨none, some 9, .mv (.s 1)⟩, ⟨none, some 10, .len (.s 9)⟩, ⟨none, some 11, .fa 1 (.s 2)⟩, ⟨none, some 12, .ld none (.s 11)⟩, ⟨none, some 13, .len (.s 12)⟩, ⟨none, some 14, .bin .neq (.s 10) (.s 13)⟩]) (.cond (.s 14) (.seq (.reg [⟨none, some 4, .mv (.c (.lit (.int .i64 10)))⟩]) .ret) .skip)) (.seq (.reg [⟨none, some 15, .fa 0 (.s 2)⟩, ⟨none, some 16, .ld none (.s 15)⟩, ⟨none, some 17, .len (.s 16)⟩, ⟨none, some 18, .mks (.lit (.int .i64 0)) (.s 17)⟩, ⟨none, some 5, .mv (.s 18)⟩]) (.seq (.seq (.reg [⟨none, some 6, .mv (.c (.lit (.int .i64 0)))⟩]) (.block 0 (.loop [6, 1, 2, 5] (.seq (.seq (.reg [⟨none, some 19, .mv (.s 6)⟩, ⟨none, some 20, .mv (.s 1)⟩, ⟨none, some 21, .len (.s 20)⟩, ⟨none, some 22, .bin .lss (.s 19) (.s 21)⟩]) (.cond (.s 22) .skip (.exit 0))) (.seq (.block 1 (.seq (.reg [⟨none, some 25, .fa 1 (.s 2)⟩, ⟨none, some 26, .ld none (.s 25)⟩, ⟨none, some 27, .mv (.s 6)⟩, ⟨none, some 28, .ia 6 (.s 26) (.s 27)⟩, ⟨none, some 29, .ld (some 6) (.s 28)⟩, ⟨none, some 7, .new (.agg [(.lit (.int .i64 0)), (.lit (.int .i64 0)), (.lit (.int .i64 0)), (.lit (.int .i64 0)), (.lit (.int .i64 0)), (.lit (.int .i64 0))])⟩, ⟨none, none, .st 6 (.s 7) (.s 29)⟩]) (.seq (.seq (.reg [⟨none, some 30, .mv (.s 1)⟩, ⟨none, some 31, .mv (.s 6)⟩, ⟨none, some 32, .ia 1 (.s 30) (.s 31)⟩, ⟨none, some 33, .ld none (.s 32)⟩, ⟨none, some 34, .fa 5 (.s 7)⟩, ⟨none, some 35, .ld none (.s 34)⟩, ⟨none, some 36, .un .neg (.s 35)⟩, ⟨none, some 37, .fa 5 (.s 7)⟩, ⟨none, some 38, .ld none (.s 37)⟩, ⟨none, some 39, .call 22 [.s 33, .s 36, .s 38]⟩, ⟨none, some 40, .un .not (.s 39)⟩]) (.cond (.s 40) (.seq (.reg [⟨none, some 4, .mv (.c (.lit (.int .i64 2)))⟩]) .ret) .skip)) (.seq (.reg [⟨none, some 41, .mv (.s 5)⟩, ⟨none, some 42, .fa 0 (.s 7)⟩, ⟨none, some 43, .ld none (.s 42)⟩, ⟨none, some 44, .mv (.s 5)⟩, ⟨none, some 45, .fa 0 (.s 7)⟩, ⟨none, some 46, .ld none (.s 45)⟩, ⟨none, some 47, .ia 1 (.s 44) (.s 46)⟩, ⟨none, some 48, .ld none (.s 47)⟩, ⟨none, some 49, .mv (.s 1)⟩, ⟨none, some 50, .mv (.s 6)⟩, ⟨none, some 51, .ia 1 (.s 49) (.s 50)⟩, ⟨none, some 52, .ld none (.s 51)⟩, ⟨none, some 53, .bin .add (.s 48) (.s 52)⟩, ⟨none, some 54, .ia 1 (.s 41) (.s 43)⟩, ⟨none, none, .st 1 (.s 54) (.s 53)⟩]) (.reg [⟨none, some 55, .mv (.s 5)⟩, ⟨none, some 56, .fa 1 (.s 7)⟩, ⟨none, some 57, .ld none (.s 56)⟩, ⟨none, some 58, .mv (.s 5)⟩, ⟨none, some 59, .fa 1 (.s 7)⟩, ⟨none, some 60, .ld none (.s 59)⟩, ⟨none, some 61, .ia 1 (.s 58) (.s 60)⟩, ⟨none, some 62, .ld none (.s 61)⟩, ⟨none, some 63, .mv (.s 1)⟩, ⟨none, some 64, .mv (.s 6)⟩, ⟨none, some 65, .ia 1 (.s 63) (.s 64)⟩, ⟨none, some 66, .ld none (.s 65)⟩, ⟨none, some 67, .bin .add (.s 62) (.s 66)⟩, ⟨none, some 68, .ia 1 (.s 55) (.s 57)⟩, ⟨none, none, .st 1 (.s 68) (.s 67)⟩]))))) (.reg [⟨none, some 23, .mv (.s 6)⟩, ⟨none, some 24, .bin .add (.s 23) (.c (.lit (.int .i64 1)))⟩, ⟨none, some 6, .mv (.s 24)⟩])))))) (.seq (.seq (.reg [⟨none, some 8, .mv (.c (.lit (.int .i64 0)))⟩]) (.block 2 (.loop [8, 5] (.seq (.seq (.reg [⟨none, some 69, .mv (.s 8)⟩, ⟨none, some 70, .mv (.s 5)⟩, ⟨none, some 71, .len (.s 70)⟩, ⟨none, some 72, .bin .lss (.s 69) (.s 71)⟩]) (.cond (.s 72) .skip (.exit 2))) (.seq (.block 3 (.seq (.reg [⟨none, some 75, .mv (.s 5)⟩, ⟨none, some 76, .mv (.s 8)⟩, ⟨none, some 77, .ia 1 (.s 75) (.s 76)⟩, ⟨none, some 78, .ld none (.s 77)⟩, ⟨none, some 79, .bin .neq (.s 78) (.c (.lit (.int .i64 0)))⟩]) (.cond (.s 79) (.seq (.reg [⟨none, some 4, .mv (.c (.lit (.int .i64 19)))⟩]) .ret) .skip))) (.reg [⟨none, some 73, .mv (.s 8)⟩, ⟨none, some 74, .bin .add (.s 73) (.c (.lit (.int .i64 1)))⟩, ⟨none, some 8, .mv (.s 74)⟩])))))) (.seq (.reg [⟨none, some 4, .mv (.c (.lit (.int .i64 0)))⟩]) .ret))))))⟩ := by kernel_rfl
set_option maxHeartbeats 4000000 in
theorem FlowErr_z (k : Nat) (n : Nt) (ok : OkN n) (fl : List Int) (hfl : fl.length ≤ 1000) :
    runZ MT (orA (k + 1)) (itA (k + 1)) 4000000 29 [encN n, .sl (fl.map I64)] [] = some (I64 (flE n fl), []) := by
  have hs1 : (MV.sl (n.ls.map encLn)).slen = some n.ls.length := by simp [MV.slen]
  have hs2 : (MV.sl (n.cs.map encCr)).slen = some n.cs.length := by simp [MV.slen]
  have hs3 : (MV.sl (fl.map I64)).slen = some fl.length := by simp [MV.slen]
  have l1 := ok.l1
  have l8 := ok.l8
  have c16 := ok.c16
  refine runZ_of mf_FlowErr (by simp) ?_
  simp only [argsL]
  by_cases hl : fl.length = n.cs.length
  rotate_left
  · rw [show flE n fl = 10 by unfold flE; rw [if_neg hl]]
    repeat (first | apply ef_seq | (apply ef_mv; exact rfl; exact rfl) | (apply ef_bin; exact rfl; exact rfl; exact rfl; (exact cmp_t rfl (by first | exact rfl | (simp only [cmpP]; omega)))) | (apply ef_len; exact rfl; exact rfl; (assumption)) | (apply ef_ldp; exact rfl; exact rfl; (exact rfl); exact rfl; (exact rfl); (exact rfl)) | (apply ef_fap; exact rfl; exact rfl) | (apply ef_box; exact rfl; exact rfl; exact rfl; exact rfl) | apply ef_nil | apply seqQ.normal | apply ef_ret | apply seqQ.ret | (apply ef_condt; exact rfl; (exact (rfl : true = true))))
    (refine fin1 rfl (by exact rfl) rfl ?_)
    rfl
  have HE1 : flE n fl = if okU n.cs fl n.cs.length = true then (if (sumsU n.ls.length n.cs fl n.cs.length).any nzB then 19 else 0) else 2 := by unfold flE; rw [if_pos hl]
  repeat (first | apply ef_seq | (apply ef_mv; exact rfl; exact rfl) | (apply ef_bin; exact rfl; exact rfl; exact rfl; (exact cmp_f rfl (by simp only [cmpP]; omega))) | (apply ef_len; exact rfl; exact rfl; (assumption)) | (apply ef_ldp; exact rfl; exact rfl; (exact rfl); exact rfl; (exact rfl); (exact rfl)) | (apply ef_fap; exact rfl; exact rfl) | (apply ef_box; exact rfl; exact rfl; exact rfl; exact rfl) | (apply ef_mks; exact rfl; exact rfl; (omega); (omega)) | apply ef_nil | apply seqQ.normal | apply ef_block | apply ef_skip | (apply ef_condf; exact rfl; (exact (rfl : false = false))))
  refine ef_loopf (α := Nat × List Int × List MV) (fun q => q.1 ≤ n.cs.length ∧ q.2.1 = sumsU n.ls.length n.cs fl q.1 ∧ q.2.2 = q.2.1.map I64 ∧ okU n.cs fl q.1 = true) (fun q => [(6, I64 (q.1 : Int))]) [(1, .sl (fl.map I64)), (2, .ptr 0 0 0 0), (5, .arr 1 0 n.ls.length 0)] (fun q => [⟨0, false, 2, [encN n]⟩, ⟨0, false, 1, q.2.2⟩]) (fun q => n.cs.length - q.1) (0, List.replicate n.ls.length 0, List.replicate n.ls.length (I64 0)) [6] (fun _ => rfl) (by ((repeat (refine Hold.cons (by exact rfl) ?_)); exact Hold.nil)) (by ((repeat (refine Hold.cons (by exact rfl) ?_)); exact Hold.nil)) rfl rfl ⟨by omega, rfl, by simp, rfl⟩ (by simp; omega) ?_
  rintro ⟨i, S, rs⟩ ⟨hi, hS, hrs, ho⟩
  try simp only at hi hS hrs ho ⊢
  have hSl : S.length = n.ls.length := by rw [hS, sumsU_len]
  have hlr : ∀ j, ltL j rs = true := fun j => by rw [hrs]; exact ltL_I j _
  have hbd := sumsU_bd ok i hi ho
  rw [← hS] at hbd
  by_cases hlt : i < n.cs.length
  · have e1 := at_map encCr n.cs i hlt
    have hgd : n.cs.getD i default = n.cs[i] := by rw [List.getD_eq_getElem?_getD, List.getElem?_eq_getElem hlt]; rfl
    have hx := ok.rg n.cs[i] (List.getElem_mem hlt)
    have e2 := cAt_at hl (i := (i : Int)) (by omega) (by omega)
    have HN := Lib.hid (show sumsU n.ls.length n.cs fl (i + 1) = ((S.set n.cs[i].ln.toNat (cAt S n.cs[i].ln + cAt fl i)).set n.cs[i].ti.toNat (cAt (S.set n.cs[i].ln.toNat (cAt S n.cs[i].ln + cAt fl i)) n.cs[i].ti + cAt fl i)) by rw [sumsU, hgd, hS])
    have hno := okU_no (cs := n.cs) (fl := fl) (i := i) (N := n.cs.length)
    have hyes := okU_next (cs := n.cs) (fl := fl) (i := i) ho
    rw [hgd] at hno hyes
    have hkd := ok.kd _ (List.getElem_mem hlt)
    have hne : n.cs[i].ti ≠ n.cs[i].ln := fun e => by
      rw [e, hkd.1] at hkd
      exact absurd hkd.2 (by simp)
    generalize n.cs[i] = x at e1 hx HN hno hyes hne
    generalize cAt fl (i : Int) = f at e2 HN hno hyes
    have x1 := hx.l0
    have x2 := hx.l1
    have x3 := hx.t0
    have x4 := hx.t1
    have xw := hx.wt
    cases hin : inB f (-x.wt) x.wt
    · have hN := hno hin hlt
      rw [show flE n fl = 2 by rw [HE1, hN]; rfl]
      have w3 := fun h => Within_c k f (0 - x.wt) x.wt h (t := false) (by rw [Int.zero_sub]; exact hin)
      repeat (first | apply ef_seq | (apply ef_mv; exact rfl; exact rfl) | (apply ef_bin; exact rfl; exact rfl; exact rfl; (exact cmp_t rfl (by first | exact rfl | (simp only [cmpP]; omega)))) | (apply ef_len; exact rfl; exact rfl; (assumption)) | (apply ef_ldr; exact rfl; exact rfl; (first | exact rd_6 rfl rfl rfl rfl rfl rfl | exact rfl)) | (apply ef_ldp; exact rfl; exact rfl; (exact rfl); exact rfl; (exact rfl); (exact rfl)) | (apply ef_ias; exact rfl; exact rfl; exact rfl; (omega); assumption; exact rfl) | (apply ef_fap; exact rfl; exact rfl) | (apply ef_notF; exact rfl; exact rfl) | (apply ef_neg; exact rfl; exact rfl; exact wrap_of (by omega) (by omega)) | (apply ef_new; exact rfl) | (apply ef_st; exact rfl; exact rfl; exact rfl; exact rfl; exact rfl; exact rfl; (exact rfl); exact rfl) | apply ef_nil | apply seqQ.normal | apply loopQ.ret | apply ef_ret | apply seqQ.ret | apply blockQ.ret | apply ef_block | apply ef_skip | (apply ef_condt; exact rfl; (exact (rfl : true = true))) | (apply ef_call; exact rfl; ((repeat (apply XVs.cons; exact rfl)); exact XVs.nil); (with_reducible exact w3 _)))
      (refine fin1 rfl (by exact rfl) rfl ?_)
      rfl
    · have w3 := fun h => Within_c k f (0 - x.wt) x.wt h (t := true) (by rw [Int.zero_sub]; exact hin)
      have hfb := inB_iff.1 hin
      have hb1 := hbd x.ln
      have hb2 := hbd x.ti
      have e3 := lit_at hrs hSl x1 x2
      have hS2 : rs.set (0 + x.ln.toNat) (I64 (cAt S x.ln + f)) = (S.set x.ln.toNat (cAt S x.ln + f)).map I64 := by rw [hrs, Nat.zero_add, List.map_set]
      have e4 := lit_at hS2 (by rw [List.length_set]; exact hSl) x3 x4
      have hse : cAt (S.set x.ln.toNat (cAt S x.ln + f)) x.ti = cAt S x.ti := by rw [cAt_set x1 (by omega) x3, if_neg hne]
      rw [hse] at e4 HN
      have hls : ∀ (j i i' : Nat) (x y : Int), ltL j ((rs.set i (I64 x)).set i' (I64 y)) = true := fun j i i' x y => ltL_set (ltL_set (hlr j) rfl) rfl
      repeat (first | apply ef_seq | (apply ef_mv; exact rfl; exact rfl) | (apply ef_bin; exact rfl; exact rfl; exact rfl; (first | exact cmp_t rfl (by first | exact rfl | (simp only [cmpP]; omega)) | ((with_reducible refine bin_add (wrap_of ?_ ?_)) <;> omega))) | (apply ef_len; exact rfl; exact rfl; (assumption)) | (apply ef_ldr; exact rfl; exact rfl; (first | exact rd_6 rfl rfl rfl rfl rfl rfl | exact rfl)) | (apply ef_ldp; exact rfl; exact rfl; (exact rfl); exact rfl; (first | exact rfl | assumption); (exact rfl)) | (apply ef_ias; exact rfl; exact rfl; exact rfl; (omega); assumption; exact rfl) | (apply ef_iaa; exact rfl; exact rfl; exact rfl; (omega); (omega); (exact rfl)) | (apply ef_fap; exact rfl; exact rfl) | (apply ef_notT; exact rfl; exact rfl) | (apply ef_neg; exact rfl; exact rfl; exact wrap_of (by omega) (by omega)) | (apply ef_new; exact rfl) | (apply ef_st; exact rfl; exact rfl; exact rfl; exact rfl; exact rfl; exact rfl; (first | exact rfl | assumption); exact rfl) | apply ef_nil | apply seqQ.normal | apply blockQ.normal | apply ef_block | apply ef_skip | (apply ef_condt; exact rfl; (exact (rfl : true = true))) | (apply ef_condf; exact rfl; (exact (rfl : false = false))) | (apply ef_call; exact rfl; ((repeat (apply XVs.cons; exact rfl)); exact XVs.nil); (with_reducible exact w3 _)))
      (refine loopQ.normal _ _ ⟨(i + 1, ((S.set x.ln.toNat (cAt S x.ln + f)).set x.ti.toNat (cAt S x.ti + f)), (rs.set (0 + x.ln.toNat) (I64 (cAt S x.ln + f))).set (0 + x.ti.toNat) (I64 (cAt S x.ti + f))), ⟨hlt, HN.out.symm, by simp [hrs, List.map_set], hyes hin⟩, (by first | (simp only; omega) | omega), ⟨by ((repeat (refine Hold.cons (by exact rfl) ?_)); exact Hold.nil), by ((repeat (refine Hold.cons (by exact rfl) ?_)); exact Hold.nil)⟩, .inr ⟨by ((repeat (refine hdl_cons rfl (by first | rfl | (simp [MV.lt, ltL, ltL_I, ltL_Ln, ltL_Cr, hls, splice, MV.cells])) ?_)); exact hdl_nil), by (simp [hltL, ltL, MV.lt, ltL, ltL_I, ltL_Ln, ltL_Cr, hls, splice, MV.cells])⟩, by exact rfl⟩)
  · obtain rfl : i = n.cs.length := by omega
    have HE2 : flE n fl = if S.any nzB = true then 19 else 0 := by rw [HE1, if_pos ho, hS]
    repeat (first | apply ef_seq | (apply ef_mv; exact rfl; exact rfl) | (apply ef_bin; exact rfl; exact rfl; exact rfl; (exact cmp_f rfl (by simp only [cmpP]; omega))) | (apply ef_len; exact rfl; exact rfl; (assumption)) | apply ef_nil | apply seqQ.normal | apply loopQ.exit | apply ef_exit | apply seqQ.exit | apply blockQ.here | apply ef_block | (apply ef_condf; exact rfl; (exact (rfl : false = false))))
    refine ef_loopf (α := Nat) (fun j => j ≤ n.ls.length ∧ S.any nzB = (S.drop j).any nzB) (fun j => [(8, I64 (j : Int))]) [(5, .arr 1 0 n.ls.length 0)] (fun _ => [⟨0, false, 2, [encN n]⟩, ⟨0, false, 1, rs⟩]) (fun j => n.ls.length - j) 0 [8] (fun _ => rfl) (by ((repeat (refine Hold.cons (by exact rfl) ?_)); exact Hold.nil)) (by ((repeat (refine Hold.cons (by exact rfl) ?_)); exact Hold.nil)) rfl rfl ⟨by omega, rfl⟩ (by simp; omega) ?_
    rintro j ⟨hj, hz⟩
    try simp only at hj hz ⊢
    by_cases hlj : j < n.ls.length
    · have e5 := lit_at hrs hSl (v := (j : Int)) (by omega) (by omega)
      have HS := Lib.hid (drop_at S j (by omega))
      have hcj : cAt S (j : Int) = S[j] := by unfold cAt; rw [Int.toNat_natCast, List.getD_eq_getElem?_getD, List.getElem?_eq_getElem (by omega)]; rfl
      have HZ := Lib.hid hz
      clear hz
      rw [← hcj] at HS
      generalize cAt S (j : Int) = g at e5 HS
      by_cases hg : g = 0
      · subst hg
        repeat (first | apply ef_seq | (apply ef_mv; exact rfl; exact rfl) | (apply ef_bin; exact rfl; exact rfl; exact rfl; (first | exact cmp_t rfl (by first | exact rfl | (simp only [cmpP]; omega)) | exact cmp_f rfl (by simp only [cmpP]; omega) | ((with_reducible refine bin_add (wrap_of ?_ ?_)) <;> omega))) | (apply ef_len; exact rfl; exact rfl; (exact rfl)) | (apply ef_ldp; exact rfl; exact rfl; (exact rfl); exact rfl; (assumption); (exact rfl)) | (apply ef_iaa; exact rfl; exact rfl; exact rfl; (omega); (omega); (exact rfl)) | apply ef_nil | apply seqQ.normal | apply blockQ.normal | apply ef_block | apply ef_skip | (apply ef_condt; exact rfl; (exact (rfl : true = true))) | (apply ef_condf; exact rfl; (exact (rfl : false = false))))
        (refine loopQ.normal _ _ ⟨j + 1, ⟨hlj, by rw [HZ.out, HS.out, List.any_cons]; rfl⟩, (by first | (simp only; omega) | omega), ⟨by ((repeat (refine Hold.cons (by exact rfl) ?_)); exact Hold.nil), by ((repeat (refine Hold.cons (by exact rfl) ?_)); exact Hold.nil)⟩, .inr ⟨by ((repeat (refine hdl_cons rfl (by first | rfl | (simp [MV.lt, ltL, ltL_I, ltL_Ln, ltL_Cr, hlr, splice, MV.cells])) ?_)); exact hdl_nil), by (simp [hltL, ltL, MV.lt, ltL, ltL_I, ltL_Ln, ltL_Cr, hlr, splice, MV.cells])⟩, by exact rfl⟩)
      · have hany : S.any nzB = true := by rw [HZ.out, HS.out, List.any_cons]; simp [nzB, hg]
        rw [HE2, hany]
        repeat (first | apply ef_seq | (apply ef_mv; exact rfl; exact rfl) | (apply ef_bin; exact rfl; exact rfl; exact rfl; (exact cmp_t rfl (by first | exact rfl | (simp only [cmpP]; omega)))) | (apply ef_len; exact rfl; exact rfl; (exact rfl)) | (apply ef_ldp; exact rfl; exact rfl; (exact rfl); exact rfl; (assumption); (exact rfl)) | (apply ef_iaa; exact rfl; exact rfl; exact rfl; (omega); (omega); (exact rfl)) | apply ef_nil | apply seqQ.normal | apply loopQ.ret | apply ef_ret | apply seqQ.ret | apply blockQ.ret | apply ef_block | apply ef_skip | (apply ef_condt; exact rfl; (exact (rfl : true = true))))
        (refine fin1 rfl (by exact rfl) rfl ?_)
        rfl
    · have hany : S.any nzB = false := by rw [hz, List.drop_eq_nil_of_le (by omega)]; rfl
      rw [HE2, hany]
      repeat (first | apply ef_seq | (apply ef_mv; exact rfl; exact rfl) | (apply ef_bin; exact rfl; exact rfl; exact rfl; (exact cmp_f rfl (by simp only [cmpP]; omega))) | (apply ef_len; exact rfl; exact rfl; (exact rfl)) | apply ef_nil | apply seqQ.normal | apply loopQ.exit | apply ef_ret | apply ef_exit | apply seqQ.exit | apply blockQ.here | (apply ef_condf; exact rfl; (exact (rfl : false = false))))
      (refine fin1 rfl (by exact rfl) rfl ?_)
      rfl
theorem FlowErr_c (k : Nat) (n : Nt) (ok : OkN n) (fl : List Int) (hfl : fl.length ≤ 1000) (h : MHeap) {v : MV} (hv : frz 0 [] h 8 v = some (.sl (fl.map I64))) : orA (k + 2) 29 [encN n, v] h = some (I64 (flE n fl), h) :=
  callL (args' := [encN n, .sl (fl.map I64)]) (by simp [List.mapM_cons, hv, frz_lt (ltL_N n 0)]) rfl (FlowErr_z k n ok fl hfl)
theorem mf_rValue : MT.mf 30 = some ⟨27, [(.tmp 4)], (.seq (.reg [⟨none, some 2, .box 2 (.s 0)⟩, ⟨none, some 4, .mv (.c (.lit (.int .i64 0)))⟩]) (.seq (.reg [⟨none, some 5, .mv (.c (.lit (.int .i64 0)))⟩]) (.seq (.seq (.reg [⟨none, some 6, .mv (.c (.lit (.int .i64 0)))⟩]) (.block 0 (.loop [6, 1, 5, 2] (.seq (.seq (.reg [⟨none, some 7, .mv (.s 6)⟩, ⟨none, some 8, .mv (.s 1)⟩, ⟨none, some 9, .len (.s 8)⟩, ⟨none, some 10, .bin .lss (.s 7) (.s 9)⟩]) (.cond (.s 10) .skip (.exit 0))) (.seq (.block 1 (.reg [⟨none, some 13, .mv (.s 5)⟩, ⟨none, some 14, .mv (.s 1)⟩, ⟨none, some 15, .mv (.s 6)⟩, ⟨none, some 16, .ia 1 (.s 14) (.s 15)⟩, ⟨none, some 17, .ld none (.s 16)⟩, ⟨none, some 18, .fa 1 (.s 2)⟩, ⟨none, some 19, .ld none (.s 18)⟩, ⟨none, some 20, .mv (.s 6)⟩, ⟨none, some 21, .ia 6 (.s 19) (.s 20)⟩, ⟨none, some 22, .fa 4 (.s 21)⟩, ⟨none, some 23, .ld none (.s 22)⟩, ⟨none, some 24, .bin .mul (.s 17) (.s 23)⟩, ⟨none, some 25, .bin .add (.s 13) (.s 24)⟩, ⟨none, some 5, .mv (.s 25)⟩])) (.reg [⟨none, some 11, .mv (.s 6)⟩, ⟨none, some 12, .bin .add (.s 11) (.c (.lit (.int .i64 1)))⟩, ⟨none, some 6, .mv (.s 12)⟩])))))) (.seq (.reg [⟨none, some 26, .mv (.s 5)⟩, ⟨none, some 4, .mv (.s 26)⟩]) .ret))))⟩ := by kernel_rfl
set_option maxHeartbeats 1000000 in
theorem rValue_z (k : Nat) (n : Nt) (ok : OkN n) (fl : List Int) (hf : fl.length = n.cs.length) (hb : ∀ z ∈ fl, -10 ≤ z ∧ z ≤ 10) :
    runZ MT (orA k) (itA k) 4000000 30 [encN n, .sl (fl.map I64)] [] = some (I64 (valU n.cs fl n.cs.length), []) := by
  have hs3 : (MV.sl (fl.map I64)).slen = some fl.length := by simp [MV.slen]
  have c16 := ok.c16
  refine runZ_of mf_rValue (by simp) ?_
  simp only [argsL]
  repeat (first | apply ef_seq | (apply ef_mv; exact rfl; exact rfl) | (apply ef_box; exact rfl; exact rfl; exact rfl; exact rfl) | apply ef_nil | apply seqQ.normal | apply ef_block)
  refine ef_loopf (α := Nat × Int) (fun p => p.1 ≤ n.cs.length ∧ p.2 = valU n.cs fl p.1) (fun p => [(6, I64 (p.1 : Int)), (5, I64 p.2)]) [(1, .sl (fl.map I64)), (2, .ptr 0 0 0 0)] (fun _ => [⟨0, false, 2, [encN n]⟩]) (fun p => n.cs.length - p.1) (0, 0) [6, 5] (fun _ => rfl) (by ((repeat (refine Hold.cons (by exact rfl) ?_)); exact Hold.nil)) (by ((repeat (refine Hold.cons (by exact rfl) ?_)); exact Hold.nil)) rfl rfl ⟨by omega, rfl⟩ (by simp; omega) ?_
  rintro ⟨i, q⟩ ⟨hi, hq⟩
  try simp only at hi hq ⊢
  by_cases hlt : i < n.cs.length
  · have e1 := at_map encCr n.cs i hlt
    have hat : n.cs[i]? = some n.cs[i] := List.getElem?_eq_getElem hlt
    have hx := ok.rg n.cs[i] (List.getElem_mem hlt)
    have e2 := cAt_at hf (i := (i : Int)) (by omega) (by omega)
    have hv := valU_bd ok hb i hi
    have hvn := valU_bd ok hb (i + 1) hlt
    generalize n.cs[i] = x at e1 hat hx
    have HN := Lib.hid (valU_next (fl := fl) hat)
    rw [HN.out] at hvn
    have hff : -10 ≤ cAt fl i ∧ cAt fl i ≤ 10 := by
      unfold cAt
      rw [List.getD_eq_getElem?_getD]
      cases hh : fl[(i : Int).toNat]? with
      | none => simp
      | some z => exact hb z (List.mem_of_getElem? hh)
    have w2 := hx.df
    rw [← hq] at hv hvn
    generalize cAt fl i = f at e2 HN hvn hff
    have m1 := mul_w (a := f) (b := x.df) 10 10000 (by omega) (by omega) (by omega) (by omega) (by omega)
    repeat (first | apply ef_seq | (apply ef_mv; exact rfl; exact rfl) | (apply ef_bin; exact rfl; exact rfl; exact rfl; (first | exact cmp_t rfl (by first | exact rfl | (simp only [cmpP]; omega)) | ((with_reducible refine bin_add (wrap_of ?_ ?_)) <;> omega) | ((with_reducible refine bin_mul (wrap_of ?_ ?_)) <;> omega))) | (apply ef_len; exact rfl; exact rfl; (assumption)) | (apply ef_ldr; exact rfl; exact rfl; (exact rfl)) | (apply ef_ldp; exact rfl; exact rfl; (exact rfl); exact rfl; (exact rfl); (exact rfl)) | (apply ef_ias; exact rfl; exact rfl; exact rfl; (omega); assumption; exact rfl) | (apply ef_fap; exact rfl; exact rfl) | (apply ef_far; exact rfl; exact rfl) | apply ef_nil | apply seqQ.normal | apply blockQ.normal | apply ef_block | apply ef_skip | (apply ef_condt; exact rfl; (exact (rfl : true = true))))
    (refine loopQ.normal _ _ ⟨(i + 1, q + f * x.df), ⟨hlt, by rw [HN.out, hq]⟩, (by first | (simp only; omega) | omega), ⟨by ((repeat (refine Hold.cons (by exact rfl) ?_)); exact Hold.nil), by ((repeat (refine Hold.cons (by exact rfl) ?_)); exact Hold.nil)⟩, .inr ⟨by ((repeat (refine hdl_cons rfl (by first | rfl | (simp [MV.lt, ltL, ltL_Ln, ltL_Cr, ltL_I, splice, MV.cells])) ?_)); exact hdl_nil), by (simp [hltL, ltL, MV.lt, ltL, ltL_Ln, ltL_Cr, ltL_I, splice, MV.cells])⟩, by exact rfl⟩)
  · obtain rfl : i = n.cs.length := by omega
    repeat (first | apply ef_seq | (apply ef_mv; exact rfl; exact rfl) | (apply ef_bin; exact rfl; exact rfl; exact rfl; (exact cmp_f rfl (by simp only [cmpP]; omega))) | (apply ef_len; exact rfl; exact rfl; (assumption)) | apply ef_nil | apply seqQ.normal | apply loopQ.exit | apply ef_ret | apply ef_exit | apply seqQ.exit | apply blockQ.here | (apply ef_condf; exact rfl; (exact (rfl : false = false))))
    (refine fin1 rfl (by exact rfl) rfl ?_)
    rw [hq]
theorem rValue_c (k : Nat) (n : Nt) (ok : OkN n) (fl : List Int) (hf : fl.length = n.cs.length) (hb : ∀ z ∈ fl, -10 ≤ z ∧ z ≤ 10) (h : MHeap) {v : MV} (hv : frz 0 [] h 8 v = some (.sl (fl.map I64))) :
    orA (k + 1) 30 [encN n, v] h = some (I64 (valU n.cs fl n.cs.length), h) :=
  callL (args' := [encN n, .sl (fl.map I64)]) (by simp [List.mapM_cons, hv, frz_lt (ltL_N n 0)]) rfl (rValue_z k n ok fl hf hb)
end Go.Proofs.Ytbdleggmdbihnaa
