/- The functions' code as commands; printed by wip/Gen.lean off the translation. -/
import Derived.Test.YtgpoldjpmcoppaaDoorProg
import Derived.Test.YtgpoldjpmcoppaaDoorVCode
import Derived.KernelRfl
set_option maxRecDepth 100000
set_option linter.unusedSimpArgs false
namespace Go.Proofs.YtgpoldjpmcoppaaDoor
open Go Go.V
-- 3 pith/pithlaw9.FilesBack
@[go_sem] def c3_0 : Cmd := .ops [⟨some 4, .assign (.const (.bool false)), 4, none⟩]
@[go_sem] def c3_1 : Cmd := .ops [⟨some 22, .call { callee := (.value (.func 9)), args := #[], argTypes := #[] }, 4, none⟩,
    ⟨some 5, .assign (.tmp 22), 4, none⟩]
@[go_sem] def c3_2 : Cmd := .ops [⟨some 23, .call { callee := (.value (.func 10)), args := #[(.const (.int .i64 1048576))], argTypes := #[3] }, 25, none⟩,
    ⟨some 6, .assign (.tmp 23), 25, none⟩]
@[go_sem] def c3_3 : Cmd := .ops [⟨some 24, .move (.tmp 5), 4, none⟩,
    ⟨some 25, .unOp .not 4 (.tmp 24), 4, none⟩,
    ⟨some 26, .move (.tmp 25), 4, none⟩,
    ⟨some 27, .move (.tmp 6), 25, some (26, false)⟩,
    ⟨some 28, .binOp .eql 25 (.tmp 27) (.const (.pointer none)) 25, 4, some (26, false)⟩,
    ⟨some 29, .pick (.tmp 26) (.const (.bool true)) (.tmp 28), 4, none⟩]
@[go_sem] def c3_4 : Cmd := .ops [⟨some 4, .assign (.const (.bool false)), 4, none⟩]
@[go_sem] def c3_5 : Cmd := .cond (.tmp 29) (.seq c3_4 .ret) .skip
@[go_sem] def c3_6 : Cmd := .ops [⟨some 30, .move (.tmp 0), 22, none⟩,
    ⟨some 31, .move (.tmp 0), 22, none⟩,
    ⟨some 32, .call { callee := (.builtin .len), args := #[(.tmp 31)], argTypes := #[22] }, 3, none⟩,
    ⟨some 33, .call { callee := (.builtin .min), args := #[(.tmp 32), (.const (.int .i64 1024))], argTypes := #[3, 3] }, 3, none⟩,
    ⟨some 34, .slice 22 (.tmp 30) none (some (.tmp 33)) none, 22, none⟩,
    ⟨some 0, .assign (.tmp 34), 22, none⟩]
@[go_sem] def c3_7 : Cmd := .ops [⟨some 35, .move (.tmp 1), 23, none⟩,
    ⟨some 36, .call { callee := (.value (.func 11)), args := #[(.tmp 35)], argTypes := #[23] }, 23, none⟩,
    ⟨some 1, .assign (.tmp 36), 23, none⟩]
@[go_sem] def c3_8 : Cmd := .ops [⟨some 37, .move (.tmp 6), 25, none⟩,
    ⟨some 38, .move (.tmp 0), 22, none⟩,
    ⟨some 39, .move (.tmp 1), 23, none⟩,
    ⟨some 40, .call { callee := (.value (.func 12)), args := #[(.tmp 37), (.const (.string ⟨#[102]⟩)), (.tmp 38), (.tmp 39)], argTypes := #[25, 9, 22, 23] }, 4, none⟩,
    ⟨some 41, .unOp .not 4 (.tmp 40), 4, none⟩]
@[go_sem] def c3_9 : Cmd := .ops [⟨some 4, .assign (.const (.bool false)), 4, none⟩]
@[go_sem] def c3_10 : Cmd := .cond (.tmp 41) (.seq c3_9 .ret) .skip
@[go_sem] def c3_11 : Cmd := .ops [⟨some 43, .move (.tmp 6), 25, none⟩,
    ⟨some 44, .call { callee := (.value (.func 13)), args := #[(.tmp 43), (.const (.string ⟨#[102]⟩))], argTypes := #[25, 9] }, 30, none⟩,
    ⟨some 42, .move (.tmp 44), 30, none⟩,
    ⟨some 45, .extract (.tmp 42) 0, 22, none⟩,
    ⟨some 46, .extract (.tmp 42) 1, 23, none⟩,
    ⟨some 47, .extract (.tmp 42) 2, 29, none⟩,
    ⟨some 7, .assign (.tmp 45), 22, none⟩,
    ⟨some 8, .assign (.tmp 46), 23, none⟩,
    ⟨some 9, .assign (.tmp 47), 29, none⟩]
@[go_sem] def c3_12 : Cmd := .ops [⟨some 48, .move (.tmp 7), 22, none⟩,
    ⟨some 49, .move (.tmp 0), 22, none⟩,
    ⟨some 50, .call { callee := (.value (.func 14)), args := #[(.tmp 48), (.tmp 49)], argTypes := #[22, 22] }, 4, none⟩,
    ⟨some 10, .assign (.tmp 50), 4, none⟩]
@[go_sem] def c3_13 : Cmd := .ops [⟨some 51, .move (.tmp 8), 23, none⟩,
    ⟨some 52, .move (.tmp 1), 23, none⟩,
    ⟨some 53, .call { callee := (.value (.func 15)), args := #[(.tmp 51), (.tmp 52)], argTypes := #[23, 23] }, 4, none⟩,
    ⟨some 11, .assign (.tmp 53), 4, none⟩]
@[go_sem] def c3_14 : Cmd := .ops [⟨some 55, .move (.tmp 6), 25, none⟩,
    ⟨some 56, .call { callee := (.value (.func 16)), args := #[(.tmp 55), (.const (.string ⟨#[102]⟩))], argTypes := #[25, 9] }, 34, none⟩,
    ⟨some 54, .move (.tmp 56), 34, none⟩,
    ⟨some 57, .extract (.tmp 54) 0, 3, none⟩,
    ⟨some 58, .extract (.tmp 54) 1, 29, none⟩,
    ⟨some 12, .assign (.tmp 57), 3, none⟩,
    ⟨some 13, .assign (.tmp 58), 29, none⟩]
@[go_sem] def c3_15 : Cmd := .ops [⟨some 60, .move (.tmp 6), 25, none⟩,
    ⟨some 61, .move (.tmp 12), 3, none⟩,
    ⟨some 62, .call { callee := (.value (.func 17)), args := #[(.tmp 60), (.const (.string ⟨#[102]⟩)), (.const (.int .i64 0)), (.tmp 61)], argTypes := #[25, 9, 3, 3] }, 36, none⟩,
    ⟨some 59, .move (.tmp 62), 36, none⟩,
    ⟨some 63, .extract (.tmp 59) 0, 22, none⟩,
    ⟨some 64, .extract (.tmp 59) 1, 29, none⟩,
    ⟨some 14, .assign (.tmp 63), 22, none⟩,
    ⟨some 15, .assign (.tmp 64), 29, none⟩]
@[go_sem] def c3_16 : Cmd := .ops [⟨some 66, .move (.tmp 14), 22, none⟩,
    ⟨some 67, .call { callee := (.value (.func 18)), args := #[(.tmp 66)], argTypes := #[22] }, 39, none⟩,
    ⟨some 65, .move (.tmp 67), 39, none⟩,
    ⟨some 68, .extract (.tmp 65) 0, 38, none⟩,
    ⟨some 69, .extract (.tmp 65) 1, 3, none⟩,
    ⟨some 70, .extract (.tmp 65) 2, 3, none⟩,
    ⟨some 16, .assign (.tmp 68), 38, none⟩,
    ⟨some 17, .assign (.tmp 69), 3, none⟩,
    ⟨some 18, .assign (.tmp 70), 3, none⟩]
@[go_sem] def c3_17 : Cmd := .ops [⟨some 71, .move (.tmp 9), 29, none⟩,
    ⟨some 72, .call { callee := (.value (.func 19)), args := #[(.tmp 71)], argTypes := #[29] }, 3, none⟩,
    ⟨some 73, .binOp .neq 3 (.tmp 72) (.const (.int .i64 0)) 3, 4, none⟩,
    ⟨some 74, .move (.tmp 73), 4, none⟩,
    ⟨some 75, .move (.tmp 10), 4, some (74, false)⟩,
    ⟨some 76, .unOp .not 4 (.tmp 75), 4, some (74, false)⟩,
    ⟨some 77, .pick (.tmp 74) (.const (.bool true)) (.tmp 76), 4, none⟩,
    ⟨some 78, .move (.tmp 77), 4, none⟩,
    ⟨some 79, .move (.tmp 11), 4, some (78, false)⟩,
    ⟨some 80, .unOp .not 4 (.tmp 79), 4, some (78, false)⟩,
    ⟨some 81, .pick (.tmp 78) (.const (.bool true)) (.tmp 80), 4, none⟩,
    ⟨some 82, .move (.tmp 81), 4, none⟩,
    ⟨some 83, .move (.tmp 18), 3, some (82, false)⟩,
    ⟨some 84, .binOp .neq 3 (.tmp 83) (.const (.int .i64 0)) 3, 4, some (82, false)⟩,
    ⟨some 85, .pick (.tmp 82) (.const (.bool true)) (.tmp 84), 4, none⟩,
    ⟨some 86, .move (.tmp 85), 4, none⟩,
    ⟨some 87, .move (.tmp 17), 3, some (86, false)⟩,
    ⟨some 88, .move (.tmp 12), 3, some (86, false)⟩,
    ⟨some 89, .binOp .neq 3 (.tmp 87) (.tmp 88) 3, 4, some (86, false)⟩,
    ⟨some 90, .pick (.tmp 86) (.const (.bool true)) (.tmp 89), 4, none⟩,
    ⟨some 91, .move (.tmp 90), 4, none⟩,
    ⟨some 92, .move (.tmp 16), 38, some (91, false)⟩,
    ⟨some 93, .call { callee := (.builtin .len), args := #[(.tmp 92)], argTypes := #[38] }, 3, some (91, false)⟩,
    ⟨some 94, .move (.tmp 1), 23, some (91, false)⟩,
    ⟨some 95, .call { callee := (.builtin .len), args := #[(.tmp 94)], argTypes := #[23] }, 3, some (91, false)⟩,
    ⟨some 96, .binOp .add 3 (.tmp 95) (.const (.int .i64 2)) 3, 3, some (91, false)⟩,
    ⟨some 97, .binOp .neq 3 (.tmp 93) (.tmp 96) 3, 4, some (91, false)⟩,
    ⟨some 98, .pick (.tmp 91) (.const (.bool true)) (.tmp 97), 4, none⟩]
@[go_sem] def c3_18 : Cmd := .ops [⟨some 4, .assign (.const (.bool false)), 4, none⟩]
@[go_sem] def c3_19 : Cmd := .cond (.tmp 98) (.seq c3_18 .ret) .skip
@[go_sem] def c3_20 : Cmd := .ops [⟨some 19, .assign (.const (.int .i64 0)), 3, none⟩]
@[go_sem] def c3_21 : Cmd := .ops [⟨some 99, .move (.tmp 19), 3, none⟩,
    ⟨some 100, .move (.tmp 1), 23, none⟩,
    ⟨some 101, .call { callee := (.builtin .len), args := #[(.tmp 100)], argTypes := #[23] }, 3, none⟩,
    ⟨some 102, .binOp .lss 3 (.tmp 99) (.tmp 101) 3, 4, none⟩]
@[go_sem] def c3_22 : Cmd := .cond (.tmp 102) .skip (.exit 0)
@[go_sem] def c3_23 : Cmd := .still 10 [⟨some 105, .move (.tmp 16), 38, none⟩,
    ⟨some 106, .move (.tmp 19), 3, none⟩,
    ⟨some 107, .binOp .add 3 (.tmp 106) (.const (.int .i64 1)) 3, 3, none⟩,
    ⟨some 108, .indexAddr 38 (.tmp 105) (.tmp 107), 0, none⟩,
    ⟨some 109, .load 44 (.tmp 108), 44, none⟩,
    ⟨some 110, .move (.tmp 1), 23, none⟩,
    ⟨some 111, .move (.tmp 19), 3, none⟩,
    ⟨some 112, .indexAddr 23 (.tmp 110) (.tmp 111), 0, none⟩,
    ⟨some 113, .load 22 (.tmp 112), 22, none⟩,
    ⟨some 114, .build 44 #[(0, (.const (.int .i64 2))), (1, (.tmp 113))], 44, none⟩,
    ⟨some 115, .call { callee := (.value (.func 20)), args := #[(.tmp 109), (.tmp 114)], argTypes := #[44, 44] }, 4, none⟩,
    ⟨some 20, .assign (.tmp 115), 4, none⟩]
@[go_sem] def c3_24 : Cmd := .ops [⟨some 116, .move (.tmp 20), 4, none⟩,
    ⟨some 117, .unOp .not 4 (.tmp 116), 4, none⟩]
@[go_sem] def c3_25 : Cmd := .ops [⟨some 4, .assign (.const (.bool false)), 4, none⟩]
@[go_sem] def c3_26 : Cmd := .cond (.tmp 117) (.seq c3_25 .ret) .skip
@[go_sem] def c3_27 : Cmd := .block 1 (.seq c3_23 (.seq c3_24 c3_26))
@[go_sem] def c3_28 : Cmd := .ops [⟨some 103, .move (.tmp 19), 3, none⟩,
    ⟨some 104, .binOp .add 3 (.tmp 103) (.const (.int .i64 1)) 3, 3, none⟩,
    ⟨some 19, .assign (.tmp 104), 3, none⟩]
def c3_L0 : Cmd := (.seq (.seq c3_21 c3_22) (.seq c3_27 c3_28))
@[go_sem] def c3_29 : Cmd := .loop c3_L0
@[go_sem] def c3_30 : Cmd := .block 0 c3_29
@[go_sem] def c3_31 : Cmd := .ops [⟨some 118, .move (.tmp 16), 38, none⟩,
    ⟨some 119, .move (.tmp 16), 38, none⟩,
    ⟨some 120, .call { callee := (.builtin .len), args := #[(.tmp 119)], argTypes := #[38] }, 3, none⟩,
    ⟨some 121, .binOp .sub 3 (.tmp 120) (.const (.int .i64 1)) 3, 3, none⟩,
    ⟨some 122, .indexAddr 38 (.tmp 118) (.tmp 121), 0, none⟩,
    ⟨some 123, .fieldAddr 44 (.tmp 122) 1, 0, none⟩,
    ⟨some 124, .load 22 (.tmp 123), 22, none⟩,
    ⟨some 125, .move (.tmp 1), 23, none⟩,
    ⟨some 126, .call { callee := (.builtin .len), args := #[(.tmp 125)], argTypes := #[23] }, 3, none⟩,
    ⟨some 127, .convert 3 5 (.tmp 126), 5, none⟩,
    ⟨some 128, .buildSlice 22 4 #[(0, (.const (.int .u8 0))), (1, (.const (.int .u8 0))), (2, (.const (.int .u8 0))), (3, (.tmp 127))], 22, none⟩,
    ⟨some 129, .call { callee := (.value (.func 14)), args := #[(.tmp 124), (.tmp 128)], argTypes := #[22, 22] }, 4, none⟩,
    ⟨some 21, .assign (.tmp 129), 4, none⟩]
@[go_sem] def c3_32 : Cmd := .ops [⟨some 130, .move (.tmp 21), 4, none⟩,
    ⟨some 131, .move (.tmp 130), 4, none⟩,
    ⟨some 132, .move (.tmp 16), 38, some (131, true)⟩,
    ⟨some 133, .indexAddr 38 (.tmp 132) (.const (.int .i64 0)), 0, some (131, true)⟩,
    ⟨some 134, .fieldAddr 44 (.tmp 133) 0, 0, some (131, true)⟩,
    ⟨some 135, .load 3 (.tmp 134), 3, some (131, true)⟩,
    ⟨some 136, .binOp .eql 3 (.tmp 135) (.const (.int .i64 1)) 3, 4, some (131, true)⟩,
    ⟨some 137, .pick (.tmp 131) (.tmp 136) (.const (.bool false)), 4, none⟩,
    ⟨some 138, .move (.tmp 137), 4, none⟩,
    ⟨some 139, .move (.tmp 16), 38, some (138, true)⟩,
    ⟨some 140, .move (.tmp 16), 38, some (138, true)⟩,
    ⟨some 141, .call { callee := (.builtin .len), args := #[(.tmp 140)], argTypes := #[38] }, 3, some (138, true)⟩,
    ⟨some 142, .binOp .sub 3 (.tmp 141) (.const (.int .i64 1)) 3, 3, some (138, true)⟩,
    ⟨some 143, .indexAddr 38 (.tmp 139) (.tmp 142), 0, some (138, true)⟩,
    ⟨some 144, .fieldAddr 44 (.tmp 143) 0, 0, some (138, true)⟩,
    ⟨some 145, .load 3 (.tmp 144), 3, some (138, true)⟩,
    ⟨some 146, .binOp .eql 3 (.tmp 145) (.const (.int .i64 3)) 3, 4, some (138, true)⟩,
    ⟨some 147, .pick (.tmp 138) (.tmp 146) (.const (.bool false)), 4, none⟩,
    ⟨some 4, .assign (.tmp 147), 4, none⟩]
@[go_sem] def c3 : Cmd := (.seq c3_0 (.seq c3_1 (.seq c3_2 (.seq (.seq c3_3 c3_5) (.seq c3_6 (.seq c3_7 (.seq (.seq c3_8 c3_10) (.seq c3_11 (.seq c3_12 (.seq c3_13 (.seq c3_14 (.seq c3_15 (.seq c3_16 (.seq (.seq c3_17 c3_19) (.seq (.seq c3_20 c3_30) (.seq c3_31 (.seq c3_32 .ret)))))))))))))))))
theorem b3 : Tryd.f3.body.map (comp 148) = some c3 := by kernel_rfl
theorem r3 : Tryd.f3.results.toList = [.tmp 4] := by kernel_rfl
-- 4 pith/pithlaw9.FilesSpoilt
@[go_sem] def c4_0 : Cmd := .ops [⟨some 8, .assign (.const (.bool false)), 4, none⟩]
@[go_sem] def c4_1 : Cmd := .ops [⟨some 25, .call { callee := (.value (.func 9)), args := #[], argTypes := #[] }, 4, none⟩,
    ⟨some 9, .assign (.tmp 25), 4, none⟩]
@[go_sem] def c4_2 : Cmd := .ops [⟨some 26, .call { callee := (.value (.func 10)), args := #[(.const (.int .i64 1048576))], argTypes := #[3] }, 25, none⟩,
    ⟨some 10, .assign (.tmp 26), 25, none⟩]
@[go_sem] def c4_3 : Cmd := .ops [⟨some 27, .move (.tmp 9), 4, none⟩,
    ⟨some 28, .unOp .not 4 (.tmp 27), 4, none⟩,
    ⟨some 29, .move (.tmp 28), 4, none⟩,
    ⟨some 30, .move (.tmp 10), 25, some (29, false)⟩,
    ⟨some 31, .binOp .eql 25 (.tmp 30) (.const (.pointer none)) 25, 4, some (29, false)⟩,
    ⟨some 32, .pick (.tmp 29) (.const (.bool true)) (.tmp 31), 4, none⟩]
@[go_sem] def c4_4 : Cmd := .ops [⟨some 8, .assign (.const (.bool false)), 4, none⟩]
@[go_sem] def c4_5 : Cmd := .cond (.tmp 32) (.seq c4_4 .ret) .skip
@[go_sem] def c4_6 : Cmd := .draw (.step 3 ⟨some 33, .move (.tmp 10), 25, none⟩
    (.step 3 ⟨some 34, .move (.tmp 0), 22, none⟩
    (.step 3 ⟨some 35, .move (.tmp 0), 22, none⟩
    (.step 3 ⟨some 36, .call { callee := (.builtin .len), args := #[(.tmp 35)], argTypes := #[22] }, 3, none⟩
    (.step 3 ⟨some 37, .call { callee := (.builtin .min), args := #[(.tmp 36), (.const (.int .i64 1024))], argTypes := #[3, 3] }, 3, none⟩
    (.step 3 ⟨some 38, .slice 22 (.tmp 34) none (some (.tmp 37)) none, 22, none⟩
    (.step 3 ⟨some 39, .move (.tmp 1), 23, none⟩
    (.step 1 ⟨some 40, .call { callee := (.value (.func 11)), args := #[(.tmp 39)], argTypes := #[23] }, 23, none⟩
    (.step 2 ⟨some 41, .call { callee := (.value (.func 12)), args := #[(.tmp 33), (.const (.string ⟨#[102]⟩)), (.tmp 38), (.tmp 40)], argTypes := #[25, 9, 22, 23] }, 4, none⟩
    (.step 3 ⟨some 42, .unOp .not 4 (.tmp 41), 4, none⟩
    .done))))))))))
@[go_sem] def c4_7 : Cmd := .ops [⟨some 8, .assign (.const (.bool false)), 4, none⟩]
@[go_sem] def c4_8 : Cmd := .cond (.tmp 42) (.seq c4_7 .ret) .skip
@[go_sem] def c4_9 : Cmd := .ops [⟨some 44, .move (.tmp 10), 25, none⟩,
    ⟨some 45, .call { callee := (.value (.func 16)), args := #[(.tmp 44), (.const (.string ⟨#[102]⟩))], argTypes := #[25, 9] }, 34, none⟩,
    ⟨some 43, .move (.tmp 45), 34, none⟩,
    ⟨some 46, .extract (.tmp 43) 0, 3, none⟩,
    ⟨some 47, .extract (.tmp 43) 1, 29, none⟩,
    ⟨some 11, .assign (.tmp 46), 3, none⟩,
    ⟨some 12, .assign (.tmp 47), 29, none⟩]
@[go_sem] def c4_10 : Cmd := .ops [⟨some 49, .move (.tmp 10), 25, none⟩,
    ⟨some 50, .move (.tmp 11), 3, none⟩,
    ⟨some 51, .call { callee := (.value (.func 17)), args := #[(.tmp 49), (.const (.string ⟨#[102]⟩)), (.const (.int .i64 0)), (.tmp 50)], argTypes := #[25, 9, 3, 3] }, 36, none⟩,
    ⟨some 48, .move (.tmp 51), 36, none⟩,
    ⟨some 52, .extract (.tmp 48) 0, 22, none⟩,
    ⟨some 53, .extract (.tmp 48) 1, 29, none⟩,
    ⟨some 13, .assign (.tmp 52), 22, none⟩,
    ⟨some 14, .assign (.tmp 53), 29, none⟩]
@[go_sem] def c4_11 : Cmd := .ops [⟨some 54, .move (.tmp 13), 22, none⟩,
    ⟨some 55, .call { callee := (.builtin .len), args := #[(.tmp 54)], argTypes := #[22] }, 3, none⟩,
    ⟨some 56, .binOp .lss 3 (.tmp 55) (.const (.int .i64 28)) 3, 4, none⟩]
@[go_sem] def c4_12 : Cmd := .ops [⟨some 8, .assign (.const (.bool false)), 4, none⟩]
@[go_sem] def c4_13 : Cmd := .cond (.tmp 56) (.seq c4_12 .ret) .skip
@[go_sem] def c4_14 : Cmd := .ops [⟨some 57, .move (.tmp 2), 3, none⟩,
    ⟨some 58, .move (.tmp 13), 22, none⟩,
    ⟨some 59, .call { callee := (.builtin .len), args := #[(.tmp 58)], argTypes := #[22] }, 3, none⟩,
    ⟨some 60, .call { callee := (.value (.func 21)), args := #[(.tmp 57), (.tmp 59)], argTypes := #[3, 3] }, 3, none⟩,
    ⟨some 15, .assign (.tmp 60), 3, none⟩]
@[go_sem] def c4_15 : Cmd := .ops [⟨some 61, .move (.tmp 10), 25, none⟩,
    ⟨some 62, .call { callee := (.value (.func 22)), args := #[(.tmp 61), (.const (.string ⟨#[99]⟩))], argTypes := #[25, 9] }, 29, none⟩]
@[go_sem] def c4_16 : Cmd := .ops [⟨some 63, .move (.tmp 10), 25, none⟩,
    ⟨some 64, .move (.tmp 13), 22, none⟩,
    ⟨some 65, .move (.tmp 15), 3, none⟩,
    ⟨some 66, .slice 22 (.tmp 64) none (some (.tmp 65)) none, 22, none⟩,
    ⟨some 67, .call { callee := (.value (.func 23)), args := #[(.tmp 63), (.const (.string ⟨#[99]⟩)), (.tmp 66)], argTypes := #[25, 9, 22] }, 29, none⟩]
@[go_sem] def c4_17 : Cmd := .ops [⟨some 69, .move (.tmp 10), 25, none⟩,
    ⟨some 70, .call { callee := (.value (.func 13)), args := #[(.tmp 69), (.const (.string ⟨#[99]⟩))], argTypes := #[25, 9] }, 30, none⟩,
    ⟨some 68, .move (.tmp 70), 30, none⟩,
    ⟨some 71, .extract (.tmp 68) 0, 22, none⟩,
    ⟨some 72, .extract (.tmp 68) 1, 23, none⟩,
    ⟨some 73, .extract (.tmp 68) 2, 29, none⟩,
    ⟨some 16, .assign (.tmp 71), 22, none⟩,
    ⟨some 17, .assign (.tmp 72), 23, none⟩,
    ⟨some 18, .assign (.tmp 73), 29, none⟩]
@[go_sem] def c4_18 : Cmd := .ops [⟨some 74, .move (.tmp 2), 3, none⟩,
    ⟨some 75, .move (.tmp 13), 22, none⟩,
    ⟨some 76, .call { callee := (.builtin .len), args := #[(.tmp 75)], argTypes := #[22] }, 3, none⟩,
    ⟨some 77, .binOp .mul 3 (.const (.int .i64 8)) (.tmp 76) 3, 3, none⟩,
    ⟨some 78, .call { callee := (.value (.func 21)), args := #[(.tmp 74), (.tmp 77)], argTypes := #[3, 3] }, 3, none⟩,
    ⟨some 19, .assign (.tmp 78), 3, none⟩]
@[go_sem] def c4_19 : Cmd := .ops [⟨some 79, .move (.tmp 3), 46, none⟩,
    ⟨some 80, .binOp .or 46 (.tmp 79) (.const (.int .u32 2147483648)) 46, 46, none⟩,
    ⟨some 3, .assign (.tmp 80), 46, none⟩]
@[go_sem] def c4_20 : Cmd := .ops [⟨some 20, .assign (.const (.int .i64 0)), 3, none⟩]
@[go_sem] def c4_21 : Cmd := .ops [⟨some 81, .move (.tmp 20), 3, none⟩,
    ⟨some 82, .binOp .lss 3 (.tmp 81) (.const (.int .i64 32)) 3, 4, none⟩]
@[go_sem] def c4_22 : Cmd := .cond (.tmp 82) .skip (.exit 0)
@[go_sem] def c4_23 : Cmd := .ops [⟨some 85, .move (.tmp 19), 3, none⟩,
    ⟨some 86, .move (.tmp 20), 3, none⟩,
    ⟨some 87, .binOp .add 3 (.tmp 85) (.tmp 86) 3, 3, none⟩,
    ⟨some 21, .assign (.tmp 87), 3, none⟩]
@[go_sem] def c4_24 : Cmd := .ops [⟨some 88, .move (.tmp 21), 3, none⟩,
    ⟨some 89, .binOp .quo 3 (.tmp 88) (.const (.int .i64 8)) 3, 3, none⟩,
    ⟨some 90, .move (.tmp 13), 22, none⟩,
    ⟨some 91, .call { callee := (.builtin .len), args := #[(.tmp 90)], argTypes := #[22] }, 3, none⟩,
    ⟨some 92, .binOp .lss 3 (.tmp 89) (.tmp 91) 3, 4, none⟩,
    ⟨some 93, .move (.tmp 92), 4, none⟩,
    ⟨some 94, .move (.tmp 3), 46, some (93, true)⟩,
    ⟨some 95, .move (.tmp 20), 3, some (93, true)⟩,
    ⟨some 96, .binOp .sub 3 (.const (.int .i64 31)) (.tmp 95) 3, 3, some (93, true)⟩,
    ⟨some 97, .convert 3 50 (.tmp 96), 50, some (93, true)⟩,
    ⟨some 98, .binOp .shr 46 (.tmp 94) (.tmp 97) 50, 46, some (93, true)⟩,
    ⟨some 99, .binOp .and 46 (.tmp 98) (.const (.int .u32 1)) 46, 46, some (93, true)⟩,
    ⟨some 100, .binOp .eql 46 (.tmp 99) (.const (.int .u32 1)) 46, 4, some (93, true)⟩,
    ⟨some 101, .pick (.tmp 93) (.tmp 100) (.const (.bool false)), 4, none⟩]
@[go_sem] def c4_25 : Cmd := .ops [⟨some 102, .move (.tmp 13), 22, none⟩,
    ⟨some 103, .move (.tmp 21), 3, none⟩,
    ⟨some 104, .binOp .quo 3 (.tmp 103) (.const (.int .i64 8)) 3, 3, none⟩,
    ⟨some 105, .move (.tmp 13), 22, none⟩,
    ⟨some 106, .move (.tmp 21), 3, none⟩,
    ⟨some 107, .binOp .quo 3 (.tmp 106) (.const (.int .i64 8)) 3, 3, none⟩,
    ⟨some 108, .indexAddr 22 (.tmp 105) (.tmp 107), 0, none⟩,
    ⟨some 109, .load 5 (.tmp 108), 5, none⟩,
    ⟨some 110, .move (.tmp 21), 3, none⟩,
    ⟨some 111, .binOp .rem 3 (.tmp 110) (.const (.int .i64 8)) 3, 3, none⟩,
    ⟨some 112, .binOp .sub 3 (.const (.int .i64 7)) (.tmp 111) 3, 3, none⟩,
    ⟨some 113, .convert 3 50 (.tmp 112), 50, none⟩,
    ⟨some 114, .binOp .shl 5 (.const (.int .u8 1)) (.tmp 113) 50, 5, none⟩,
    ⟨some 115, .binOp .xor 5 (.tmp 109) (.tmp 114) 5, 5, none⟩,
    ⟨some 116, .indexAddr 22 (.tmp 102) (.tmp 104), 0, none⟩,
    ⟨none, .store 5 (.tmp 116) (.tmp 115), 0, none⟩]
@[go_sem] def c4_26 : Cmd := .cond (.tmp 101) c4_25 .skip
@[go_sem] def c4_27 : Cmd := .block 1 (.seq c4_23 (.seq c4_24 c4_26))
@[go_sem] def c4_28 : Cmd := .ops [⟨some 83, .move (.tmp 20), 3, none⟩,
    ⟨some 84, .binOp .add 3 (.tmp 83) (.const (.int .i64 1)) 3, 3, none⟩,
    ⟨some 20, .assign (.tmp 84), 3, none⟩]
def c4_L0 : Cmd := (.seq (.seq c4_21 c4_22) (.seq c4_27 c4_28))
@[go_sem] def c4_29 : Cmd := .loop c4_L0
@[go_sem] def c4_30 : Cmd := .block 0 c4_29
@[go_sem] def c4_31 : Cmd := .ops [⟨some 117, .move (.tmp 10), 25, none⟩,
    ⟨some 118, .call { callee := (.value (.func 22)), args := #[(.tmp 117), (.const (.string ⟨#[116]⟩))], argTypes := #[25, 9] }, 29, none⟩]
@[go_sem] def c4_32 : Cmd := .ops [⟨some 119, .move (.tmp 10), 25, none⟩,
    ⟨some 120, .move (.tmp 13), 22, none⟩,
    ⟨some 121, .call { callee := (.value (.func 23)), args := #[(.tmp 119), (.const (.string ⟨#[116]⟩)), (.tmp 120)], argTypes := #[25, 9, 22] }, 29, none⟩]
@[go_sem] def c4_33 : Cmd := .ops [⟨some 123, .move (.tmp 10), 25, none⟩,
    ⟨some 124, .call { callee := (.value (.func 13)), args := #[(.tmp 123), (.const (.string ⟨#[116]⟩))], argTypes := #[25, 9] }, 30, none⟩,
    ⟨some 122, .move (.tmp 124), 30, none⟩,
    ⟨some 125, .extract (.tmp 122) 0, 22, none⟩,
    ⟨some 126, .extract (.tmp 122) 1, 23, none⟩,
    ⟨some 127, .extract (.tmp 122) 2, 29, none⟩,
    ⟨some 22, .assign (.tmp 125), 22, none⟩,
    ⟨some 23, .assign (.tmp 126), 23, none⟩,
    ⟨some 24, .assign (.tmp 127), 29, none⟩]
@[go_sem] def c4_34 : Cmd := .ops [⟨some 128, .move (.tmp 18), 29, none⟩,
    ⟨some 129, .call { callee := (.value (.func 19)), args := #[(.tmp 128)], argTypes := #[29] }, 3, none⟩,
    ⟨some 130, .binOp .eql 3 (.tmp 129) (.const (.int .i64 90)) 3, 4, none⟩,
    ⟨some 131, .move (.tmp 130), 4, none⟩,
    ⟨some 132, .move (.tmp 24), 29, some (131, true)⟩,
    ⟨some 133, .call { callee := (.value (.func 19)), args := #[(.tmp 132)], argTypes := #[29] }, 3, some (131, true)⟩,
    ⟨some 134, .binOp .eql 3 (.tmp 133) (.const (.int .i64 90)) 3, 4, some (131, true)⟩,
    ⟨some 135, .pick (.tmp 131) (.tmp 134) (.const (.bool false)), 4, none⟩,
    ⟨some 8, .assign (.tmp 135), 4, none⟩]
@[go_sem] def c4 : Cmd := (.seq c4_0 (.seq c4_1 (.seq c4_2 (.seq (.seq c4_3 c4_5) (.seq (.seq c4_6 c4_8) (.seq c4_9 (.seq c4_10 (.seq (.seq c4_11 c4_13) (.seq c4_14 (.seq c4_15 (.seq c4_16 (.seq c4_17 (.seq c4_18 (.seq c4_19 (.seq (.seq c4_20 c4_30) (.seq c4_31 (.seq c4_32 (.seq c4_33 (.seq c4_34 .ret)))))))))))))))))))
theorem b4 : Tryd.f4.body.map (comp 136) = some c4 := by kernel_rfl
theorem r4 : Tryd.f4.results.toList = [.tmp 8] := by kernel_rfl
-- 5 pith/pithlaw9.FilesBeside
@[go_sem] def c5_0 : Cmd := .ops [⟨some 4, .assign (.const (.bool false)), 4, none⟩]
@[go_sem] def c5_1 : Cmd := .ops [⟨some 29, .call { callee := (.value (.func 9)), args := #[], argTypes := #[] }, 4, none⟩,
    ⟨some 5, .assign (.tmp 29), 4, none⟩]
@[go_sem] def c5_2 : Cmd := .ops [⟨some 30, .call { callee := (.value (.func 10)), args := #[(.const (.int .i64 1048576))], argTypes := #[3] }, 25, none⟩,
    ⟨some 6, .assign (.tmp 30), 25, none⟩]
@[go_sem] def c5_3 : Cmd := .ops [⟨some 31, .call { callee := (.value (.func 10)), args := #[(.const (.int .i64 1048576))], argTypes := #[3] }, 25, none⟩,
    ⟨some 7, .assign (.tmp 31), 25, none⟩]
@[go_sem] def c5_4 : Cmd := .ops [⟨some 32, .move (.tmp 5), 4, none⟩,
    ⟨some 33, .unOp .not 4 (.tmp 32), 4, none⟩,
    ⟨some 34, .move (.tmp 33), 4, none⟩,
    ⟨some 35, .move (.tmp 6), 25, some (34, false)⟩,
    ⟨some 36, .binOp .eql 25 (.tmp 35) (.const (.pointer none)) 25, 4, some (34, false)⟩,
    ⟨some 37, .pick (.tmp 34) (.const (.bool true)) (.tmp 36), 4, none⟩,
    ⟨some 38, .move (.tmp 37), 4, none⟩,
    ⟨some 39, .move (.tmp 7), 25, some (38, false)⟩,
    ⟨some 40, .binOp .eql 25 (.tmp 39) (.const (.pointer none)) 25, 4, some (38, false)⟩,
    ⟨some 41, .pick (.tmp 38) (.const (.bool true)) (.tmp 40), 4, none⟩]
@[go_sem] def c5_5 : Cmd := .ops [⟨some 4, .assign (.const (.bool false)), 4, none⟩]
@[go_sem] def c5_6 : Cmd := .cond (.tmp 41) (.seq c5_5 .ret) .skip
@[go_sem] def c5_7 : Cmd := .ops [⟨some 42, .move (.tmp 0), 23, none⟩,
    ⟨some 43, .call { callee := (.value (.func 11)), args := #[(.tmp 42)], argTypes := #[23] }, 23, none⟩,
    ⟨some 0, .assign (.tmp 43), 23, none⟩]
@[go_sem] def c5_8 : Cmd := .ops [⟨some 44, .move (.tmp 1), 23, none⟩,
    ⟨some 45, .call { callee := (.value (.func 11)), args := #[(.tmp 44)], argTypes := #[23] }, 23, none⟩,
    ⟨some 1, .assign (.tmp 45), 23, none⟩]
@[go_sem] def c5_9 : Cmd := .ops [⟨some 47, .move (.tmp 6), 25, none⟩,
    ⟨some 48, .call { callee := (.value (.func 24)), args := #[(.tmp 47), (.const (.string ⟨#[97]⟩)), (.const (.slice none 0 0))], argTypes := #[25, 9, 22] }, 53, none⟩,
    ⟨some 46, .move (.tmp 48), 53, none⟩,
    ⟨some 49, .extract (.tmp 46) 0, 52, none⟩,
    ⟨some 50, .extract (.tmp 46) 1, 29, none⟩,
    ⟨some 8, .assign (.tmp 49), 52, none⟩,
    ⟨some 9, .assign (.tmp 50), 29, none⟩]
@[go_sem] def c5_10 : Cmd := .ops [⟨some 52, .move (.tmp 6), 25, none⟩,
    ⟨some 53, .call { callee := (.value (.func 24)), args := #[(.tmp 52), (.const (.string ⟨#[98]⟩)), (.const (.slice none 0 0))], argTypes := #[25, 9, 22] }, 53, none⟩,
    ⟨some 51, .move (.tmp 53), 53, none⟩,
    ⟨some 54, .extract (.tmp 51) 0, 52, none⟩,
    ⟨some 55, .extract (.tmp 51) 1, 29, none⟩,
    ⟨some 10, .assign (.tmp 54), 52, none⟩,
    ⟨some 11, .assign (.tmp 55), 29, none⟩]
@[go_sem] def c5_11 : Cmd := .ops [⟨some 56, .move (.tmp 9), 29, none⟩,
    ⟨some 57, .call { callee := (.value (.func 19)), args := #[(.tmp 56)], argTypes := #[29] }, 3, none⟩,
    ⟨some 58, .binOp .neq 3 (.tmp 57) (.const (.int .i64 0)) 3, 4, none⟩,
    ⟨some 59, .move (.tmp 58), 4, none⟩,
    ⟨some 60, .move (.tmp 11), 29, some (59, false)⟩,
    ⟨some 61, .call { callee := (.value (.func 19)), args := #[(.tmp 60)], argTypes := #[29] }, 3, some (59, false)⟩,
    ⟨some 62, .binOp .neq 3 (.tmp 61) (.const (.int .i64 0)) 3, 4, some (59, false)⟩,
    ⟨some 63, .pick (.tmp 59) (.const (.bool true)) (.tmp 62), 4, none⟩,
    ⟨some 64, .move (.tmp 63), 4, none⟩,
    ⟨some 65, .move (.tmp 8), 52, some (64, false)⟩,
    ⟨some 66, .binOp .eql 52 (.tmp 65) (.const (.pointer none)) 52, 4, some (64, false)⟩,
    ⟨some 67, .pick (.tmp 64) (.const (.bool true)) (.tmp 66), 4, none⟩,
    ⟨some 68, .move (.tmp 67), 4, none⟩,
    ⟨some 69, .move (.tmp 10), 52, some (68, false)⟩,
    ⟨some 70, .binOp .eql 52 (.tmp 69) (.const (.pointer none)) 52, 4, some (68, false)⟩,
    ⟨some 71, .pick (.tmp 68) (.const (.bool true)) (.tmp 70), 4, none⟩]
@[go_sem] def c5_12 : Cmd := .ops [⟨some 4, .assign (.const (.bool false)), 4, none⟩]
@[go_sem] def c5_13 : Cmd := .cond (.tmp 71) (.seq c5_12 .ret) .skip
@[go_sem] def c5_14 : Cmd := .ops [⟨some 12, .assign (.const (.int .i64 0)), 3, none⟩]
@[go_sem] def c5_15 : Cmd := .ops [⟨some 72, .move (.tmp 12), 3, none⟩,
    ⟨some 73, .move (.tmp 0), 23, none⟩,
    ⟨some 74, .call { callee := (.builtin .len), args := #[(.tmp 73)], argTypes := #[23] }, 3, none⟩,
    ⟨some 75, .binOp .lss 3 (.tmp 72) (.tmp 74) 3, 4, none⟩,
    ⟨some 76, .move (.tmp 75), 4, none⟩,
    ⟨some 77, .move (.tmp 12), 3, some (76, false)⟩,
    ⟨some 78, .move (.tmp 1), 23, some (76, false)⟩,
    ⟨some 79, .call { callee := (.builtin .len), args := #[(.tmp 78)], argTypes := #[23] }, 3, some (76, false)⟩,
    ⟨some 80, .binOp .lss 3 (.tmp 77) (.tmp 79) 3, 4, some (76, false)⟩,
    ⟨some 81, .pick (.tmp 76) (.const (.bool true)) (.tmp 80), 4, none⟩]
@[go_sem] def c5_16 : Cmd := .cond (.tmp 81) .skip (.exit 0)
@[go_sem] def c5_17 : Cmd := .ops [⟨some 84, .move (.tmp 12), 3, none⟩,
    ⟨some 85, .move (.tmp 0), 23, none⟩,
    ⟨some 86, .call { callee := (.builtin .len), args := #[(.tmp 85)], argTypes := #[23] }, 3, none⟩,
    ⟨some 87, .binOp .lss 3 (.tmp 84) (.tmp 86) 3, 4, none⟩]
@[go_sem] def c5_18 : Cmd := .ops [⟨some 88, .move (.tmp 8), 52, none⟩,
    ⟨some 89, .move (.tmp 0), 23, none⟩,
    ⟨some 90, .move (.tmp 12), 3, none⟩,
    ⟨some 91, .indexAddr 23 (.tmp 89) (.tmp 90), 0, none⟩,
    ⟨some 92, .load 22 (.tmp 91), 22, none⟩,
    ⟨some 93, .call { callee := (.value (.func 25)), args := #[(.tmp 88), (.tmp 92)], argTypes := #[52, 22] }, 29, none⟩]
@[go_sem] def c5_19 : Cmd := .cond (.tmp 87) c5_18 .skip
@[go_sem] def c5_20 : Cmd := .ops [⟨some 94, .move (.tmp 12), 3, none⟩,
    ⟨some 95, .move (.tmp 1), 23, none⟩,
    ⟨some 96, .call { callee := (.builtin .len), args := #[(.tmp 95)], argTypes := #[23] }, 3, none⟩,
    ⟨some 97, .binOp .lss 3 (.tmp 94) (.tmp 96) 3, 4, none⟩]
@[go_sem] def c5_21 : Cmd := .ops [⟨some 98, .move (.tmp 10), 52, none⟩,
    ⟨some 99, .move (.tmp 1), 23, none⟩,
    ⟨some 100, .move (.tmp 12), 3, none⟩,
    ⟨some 101, .indexAddr 23 (.tmp 99) (.tmp 100), 0, none⟩,
    ⟨some 102, .load 22 (.tmp 101), 22, none⟩,
    ⟨some 103, .call { callee := (.value (.func 25)), args := #[(.tmp 98), (.tmp 102)], argTypes := #[52, 22] }, 29, none⟩]
@[go_sem] def c5_22 : Cmd := .cond (.tmp 97) c5_21 .skip
@[go_sem] def c5_23 : Cmd := .block 1 (.seq (.seq c5_17 c5_19) (.seq c5_20 c5_22))
@[go_sem] def c5_24 : Cmd := .ops [⟨some 82, .move (.tmp 12), 3, none⟩,
    ⟨some 83, .binOp .add 3 (.tmp 82) (.const (.int .i64 1)) 3, 3, none⟩,
    ⟨some 12, .assign (.tmp 83), 3, none⟩]
def c5_L0 : Cmd := (.seq (.seq c5_15 c5_16) (.seq c5_23 c5_24))
@[go_sem] def c5_25 : Cmd := .loop c5_L0
@[go_sem] def c5_26 : Cmd := .block 0 c5_25
@[go_sem] def c5_27 : Cmd := .ops [⟨some 105, .move (.tmp 8), 52, none⟩,
    ⟨some 106, .call { callee := (.value (.func 26)), args := #[(.tmp 105), (.const (.bool false))], argTypes := #[52, 4] }, 56, none⟩,
    ⟨some 104, .move (.tmp 106), 56, none⟩,
    ⟨some 107, .extract (.tmp 104) 0, 3, none⟩,
    ⟨some 108, .extract (.tmp 104) 1, 46, none⟩,
    ⟨some 109, .extract (.tmp 104) 2, 29, none⟩,
    ⟨some 13, .assign (.tmp 107), 3, none⟩,
    ⟨some 14, .assign (.tmp 108), 46, none⟩,
    ⟨some 15, .assign (.tmp 109), 29, none⟩]
@[go_sem] def c5_28 : Cmd := .ops [⟨some 111, .move (.tmp 10), 52, none⟩,
    ⟨some 112, .call { callee := (.value (.func 26)), args := #[(.tmp 111), (.const (.bool false))], argTypes := #[52, 4] }, 56, none⟩,
    ⟨some 110, .move (.tmp 112), 56, none⟩,
    ⟨some 113, .extract (.tmp 110) 0, 3, none⟩,
    ⟨some 114, .extract (.tmp 110) 1, 46, none⟩,
    ⟨some 115, .extract (.tmp 110) 2, 29, none⟩,
    ⟨some 16, .assign (.tmp 113), 3, none⟩,
    ⟨some 17, .assign (.tmp 114), 46, none⟩,
    ⟨some 18, .assign (.tmp 115), 29, none⟩]
@[go_sem] def c5_29 : Cmd := .ops [⟨some 116, .move (.tmp 7), 25, none⟩,
    ⟨some 117, .move (.tmp 0), 23, none⟩,
    ⟨some 118, .call { callee := (.value (.func 12)), args := #[(.tmp 116), (.const (.string ⟨#[97]⟩)), (.const (.slice none 0 0)), (.tmp 117)], argTypes := #[25, 9, 22, 23] }, 4, none⟩,
    ⟨some 119, .unOp .not 4 (.tmp 118), 4, none⟩,
    ⟨some 120, .move (.tmp 119), 4, none⟩,
    ⟨some 121, .move (.tmp 7), 25, some (120, false)⟩,
    ⟨some 122, .move (.tmp 1), 23, some (120, false)⟩,
    ⟨some 123, .call { callee := (.value (.func 12)), args := #[(.tmp 121), (.const (.string ⟨#[98]⟩)), (.const (.slice none 0 0)), (.tmp 122)], argTypes := #[25, 9, 22, 23] }, 4, some (120, false)⟩,
    ⟨some 124, .unOp .not 4 (.tmp 123), 4, some (120, false)⟩,
    ⟨some 125, .pick (.tmp 120) (.const (.bool true)) (.tmp 124), 4, none⟩]
@[go_sem] def c5_30 : Cmd := .ops [⟨some 4, .assign (.const (.bool false)), 4, none⟩]
@[go_sem] def c5_31 : Cmd := .cond (.tmp 125) (.seq c5_30 .ret) .skip
@[go_sem] def c5_32 : Cmd := .ops [⟨some 127, .move (.tmp 7), 25, none⟩,
    ⟨some 128, .move (.tmp 13), 3, none⟩,
    ⟨some 129, .binOp .add 3 (.tmp 128) (.const (.int .i64 1)) 3, 3, none⟩,
    ⟨some 130, .call { callee := (.value (.func 17)), args := #[(.tmp 127), (.const (.string ⟨#[97]⟩)), (.const (.int .i64 0)), (.tmp 129)], argTypes := #[25, 9, 3, 3] }, 36, none⟩,
    ⟨some 126, .move (.tmp 130), 36, none⟩,
    ⟨some 131, .extract (.tmp 126) 0, 22, none⟩,
    ⟨some 132, .extract (.tmp 126) 1, 29, none⟩,
    ⟨some 19, .assign (.tmp 131), 22, none⟩,
    ⟨some 20, .assign (.tmp 132), 29, none⟩]
@[go_sem] def c5_33 : Cmd := .ops [⟨some 134, .move (.tmp 7), 25, none⟩,
    ⟨some 135, .move (.tmp 16), 3, none⟩,
    ⟨some 136, .binOp .add 3 (.tmp 135) (.const (.int .i64 1)) 3, 3, none⟩,
    ⟨some 137, .call { callee := (.value (.func 17)), args := #[(.tmp 134), (.const (.string ⟨#[98]⟩)), (.const (.int .i64 0)), (.tmp 136)], argTypes := #[25, 9, 3, 3] }, 36, none⟩,
    ⟨some 133, .move (.tmp 137), 36, none⟩,
    ⟨some 138, .extract (.tmp 133) 0, 22, none⟩,
    ⟨some 139, .extract (.tmp 133) 1, 29, none⟩,
    ⟨some 21, .assign (.tmp 138), 22, none⟩,
    ⟨some 22, .assign (.tmp 139), 29, none⟩]
@[go_sem] def c5_34 : Cmd := .ops [⟨some 141, .move (.tmp 6), 25, none⟩,
    ⟨some 142, .move (.tmp 13), 3, none⟩,
    ⟨some 143, .binOp .add 3 (.tmp 142) (.const (.int .i64 1)) 3, 3, none⟩,
    ⟨some 144, .call { callee := (.value (.func 17)), args := #[(.tmp 141), (.const (.string ⟨#[97]⟩)), (.const (.int .i64 0)), (.tmp 143)], argTypes := #[25, 9, 3, 3] }, 36, none⟩,
    ⟨some 140, .move (.tmp 144), 36, none⟩,
    ⟨some 145, .extract (.tmp 140) 0, 22, none⟩,
    ⟨some 146, .extract (.tmp 140) 1, 29, none⟩,
    ⟨some 23, .assign (.tmp 145), 22, none⟩,
    ⟨some 24, .assign (.tmp 146), 29, none⟩]
@[go_sem] def c5_35 : Cmd := .ops [⟨some 148, .move (.tmp 6), 25, none⟩,
    ⟨some 149, .move (.tmp 16), 3, none⟩,
    ⟨some 150, .binOp .add 3 (.tmp 149) (.const (.int .i64 1)) 3, 3, none⟩,
    ⟨some 151, .call { callee := (.value (.func 17)), args := #[(.tmp 148), (.const (.string ⟨#[98]⟩)), (.const (.int .i64 0)), (.tmp 150)], argTypes := #[25, 9, 3, 3] }, 36, none⟩,
    ⟨some 147, .move (.tmp 151), 36, none⟩,
    ⟨some 152, .extract (.tmp 147) 0, 22, none⟩,
    ⟨some 153, .extract (.tmp 147) 1, 29, none⟩,
    ⟨some 25, .assign (.tmp 152), 22, none⟩,
    ⟨some 26, .assign (.tmp 153), 29, none⟩]
@[go_sem] def c5_36 : Cmd := .ops [⟨some 154, .move (.tmp 19), 22, none⟩,
    ⟨some 155, .move (.tmp 23), 22, none⟩,
    ⟨some 156, .call { callee := (.value (.func 14)), args := #[(.tmp 154), (.tmp 155)], argTypes := #[22, 22] }, 4, none⟩,
    ⟨some 27, .assign (.tmp 156), 4, none⟩]
@[go_sem] def c5_37 : Cmd := .ops [⟨some 157, .move (.tmp 21), 22, none⟩,
    ⟨some 158, .move (.tmp 25), 22, none⟩,
    ⟨some 159, .call { callee := (.value (.func 14)), args := #[(.tmp 157), (.tmp 158)], argTypes := #[22, 22] }, 4, none⟩,
    ⟨some 28, .assign (.tmp 159), 4, none⟩]
@[go_sem] def c5_38 : Cmd := .ops [⟨some 160, .move (.tmp 27), 4, none⟩,
    ⟨some 161, .move (.tmp 160), 4, none⟩,
    ⟨some 162, .move (.tmp 28), 4, some (161, true)⟩,
    ⟨some 163, .pick (.tmp 161) (.tmp 162) (.const (.bool false)), 4, none⟩,
    ⟨some 164, .move (.tmp 163), 4, none⟩,
    ⟨some 165, .move (.tmp 19), 22, some (164, true)⟩,
    ⟨some 166, .call { callee := (.builtin .len), args := #[(.tmp 165)], argTypes := #[22] }, 3, some (164, true)⟩,
    ⟨some 167, .move (.tmp 13), 3, some (164, true)⟩,
    ⟨some 168, .binOp .eql 3 (.tmp 166) (.tmp 167) 3, 4, some (164, true)⟩,
    ⟨some 169, .pick (.tmp 164) (.tmp 168) (.const (.bool false)), 4, none⟩,
    ⟨some 170, .move (.tmp 169), 4, none⟩,
    ⟨some 171, .move (.tmp 21), 22, some (170, true)⟩,
    ⟨some 172, .call { callee := (.builtin .len), args := #[(.tmp 171)], argTypes := #[22] }, 3, some (170, true)⟩,
    ⟨some 173, .move (.tmp 16), 3, some (170, true)⟩,
    ⟨some 174, .binOp .eql 3 (.tmp 172) (.tmp 173) 3, 4, some (170, true)⟩,
    ⟨some 175, .pick (.tmp 170) (.tmp 174) (.const (.bool false)), 4, none⟩,
    ⟨some 176, .move (.tmp 175), 4, none⟩,
    ⟨some 177, .move (.tmp 14), 46, some (176, true)⟩,
    ⟨some 178, .move (.tmp 0), 23, some (176, true)⟩,
    ⟨some 179, .call { callee := (.value (.func 27)), args := #[(.const (.slice none 0 0)), (.tmp 178)], argTypes := #[22, 23] }, 46, some (176, true)⟩,
    ⟨some 180, .binOp .eql 46 (.tmp 177) (.tmp 179) 46, 4, some (176, true)⟩,
    ⟨some 181, .pick (.tmp 176) (.tmp 180) (.const (.bool false)), 4, none⟩,
    ⟨some 182, .move (.tmp 181), 4, none⟩,
    ⟨some 183, .move (.tmp 17), 46, some (182, true)⟩,
    ⟨some 184, .move (.tmp 1), 23, some (182, true)⟩,
    ⟨some 185, .call { callee := (.value (.func 27)), args := #[(.const (.slice none 0 0)), (.tmp 184)], argTypes := #[22, 23] }, 46, some (182, true)⟩,
    ⟨some 186, .binOp .eql 46 (.tmp 183) (.tmp 185) 46, 4, some (182, true)⟩,
    ⟨some 187, .pick (.tmp 182) (.tmp 186) (.const (.bool false)), 4, none⟩,
    ⟨some 188, .move (.tmp 187), 4, none⟩,
    ⟨some 189, .move (.tmp 15), 29, some (188, true)⟩,
    ⟨some 190, .call { callee := (.value (.func 19)), args := #[(.tmp 189)], argTypes := #[29] }, 3, some (188, true)⟩,
    ⟨some 191, .binOp .eql 3 (.tmp 190) (.const (.int .i64 0)) 3, 4, some (188, true)⟩,
    ⟨some 192, .pick (.tmp 188) (.tmp 191) (.const (.bool false)), 4, none⟩,
    ⟨some 193, .move (.tmp 192), 4, none⟩,
    ⟨some 194, .move (.tmp 18), 29, some (193, true)⟩,
    ⟨some 195, .call { callee := (.value (.func 19)), args := #[(.tmp 194)], argTypes := #[29] }, 3, some (193, true)⟩,
    ⟨some 196, .binOp .eql 3 (.tmp 195) (.const (.int .i64 0)) 3, 4, some (193, true)⟩,
    ⟨some 197, .pick (.tmp 193) (.tmp 196) (.const (.bool false)), 4, none⟩,
    ⟨some 4, .assign (.tmp 197), 4, none⟩]
@[go_sem] def c5 : Cmd := (.seq c5_0 (.seq c5_1 (.seq c5_2 (.seq c5_3 (.seq (.seq c5_4 c5_6) (.seq c5_7 (.seq c5_8 (.seq c5_9 (.seq c5_10 (.seq (.seq c5_11 c5_13) (.seq (.seq c5_14 c5_26) (.seq c5_27 (.seq c5_28 (.seq (.seq c5_29 c5_31) (.seq c5_32 (.seq c5_33 (.seq c5_34 (.seq c5_35 (.seq c5_36 (.seq c5_37 (.seq c5_38 .ret)))))))))))))))))))))
theorem b5 : Tryd.f5.body.map (comp 198) = some c5 := by kernel_rfl
theorem r5 : Tryd.f5.results.toList = [.tmp 4] := by kernel_rfl
-- 6 pith/pithlaw9.FilesLazy
@[go_sem] def c6_0 : Cmd := .ops [⟨some 6, .box 3 (.tmp 2), 0, none⟩,
    ⟨some 7, .box 3 (.tmp 3), 0, none⟩,
    ⟨some 8, .alloc 4, 0, none⟩]
@[go_sem] def c6_1 : Cmd := .ops [⟨some 21, .call { callee := (.value (.func 9)), args := #[], argTypes := #[] }, 4, none⟩,
    ⟨some 9, .assign (.tmp 21), 4, none⟩]
@[go_sem] def c6_2 : Cmd := .ops [⟨some 22, .call { callee := (.value (.func 10)), args := #[(.const (.int .i64 1048576))], argTypes := #[3] }, 25, none⟩,
    ⟨some 10, .alloc 25, 0, none⟩,
    ⟨none, .store 25 (.tmp 10) (.tmp 22), 0, none⟩]
@[go_sem] def c6_3 : Cmd := .ops [⟨some 23, .move (.tmp 1), 23, none⟩,
    ⟨some 24, .call { callee := (.value (.func 11)), args := #[(.tmp 23)], argTypes := #[23] }, 23, none⟩,
    ⟨some 1, .assign (.tmp 24), 23, none⟩]
@[go_sem] def c6_4 : Cmd := .still 14 [⟨some 25, .move (.tmp 9), 4, none⟩,
    ⟨some 26, .unOp .not 4 (.tmp 25), 4, none⟩,
    ⟨some 27, .move (.tmp 26), 4, none⟩,
    ⟨some 28, .load 25 (.tmp 10), 25, some (27, false)⟩,
    ⟨some 29, .binOp .eql 25 (.tmp 28) (.const (.pointer none)) 25, 4, some (27, false)⟩,
    ⟨some 30, .pick (.tmp 27) (.const (.bool true)) (.tmp 29), 4, none⟩,
    ⟨some 31, .move (.tmp 30), 4, none⟩,
    ⟨some 32, .load 25 (.tmp 10), 25, some (31, false)⟩,
    ⟨some 33, .move (.tmp 0), 22, some (31, false)⟩,
    ⟨some 34, .move (.tmp 0), 22, some (31, false)⟩,
    ⟨some 35, .call { callee := (.builtin .len), args := #[(.tmp 34)], argTypes := #[22] }, 3, some (31, false)⟩,
    ⟨some 36, .call { callee := (.builtin .min), args := #[(.tmp 35), (.const (.int .i64 1024))], argTypes := #[3, 3] }, 3, some (31, false)⟩,
    ⟨some 37, .slice 22 (.tmp 33) none (some (.tmp 36)) none, 22, some (31, false)⟩,
    ⟨some 38, .move (.tmp 1), 23, some (31, false)⟩,
    ⟨some 39, .call { callee := (.value (.func 12)), args := #[(.tmp 32), (.const (.string ⟨#[102]⟩)), (.tmp 37), (.tmp 38)], argTypes := #[25, 9, 22, 23] }, 4, some (31, false)⟩,
    ⟨some 40, .unOp .not 4 (.tmp 39), 4, some (31, false)⟩,
    ⟨some 41, .pick (.tmp 31) (.const (.bool true)) (.tmp 40), 4, none⟩]
@[go_sem] def c6_5 : Cmd := .ops [⟨none, .store 4 (.tmp 8) (.const (.bool false)), 0, none⟩]
@[go_sem] def c6_6 : Cmd := .cond (.tmp 41) (.seq c6_5 .ret) .skip
@[go_sem] def c6_7 : Cmd := .ops [⟨some 42, .load 25 (.tmp 10), 25, none⟩,
    ⟨some 43, .call { callee := (.value (.func 28)), args := #[(.tmp 42), (.const (.string ⟨#[102]⟩))], argTypes := #[25, 9] }, 60, none⟩,
    ⟨some 11, .assign (.tmp 43), 60, none⟩]
@[go_sem] def c6_8 : Cmd := .ops [⟨some 44, .move (.tmp 11), 60, none⟩,
    ⟨some 45, .binOp .eql 60 (.tmp 44) (.const .nilFunc) 60, 4, none⟩]
@[go_sem] def c6_9 : Cmd := .ops [⟨none, .store 4 (.tmp 8) (.const (.bool false)), 0, none⟩]
@[go_sem] def c6_10 : Cmd := .cond (.tmp 45) (.seq c6_9 .ret) .skip
@[go_sem] def c6_11 : Cmd := .ops [⟨some 46, .move (.tmp 1), 23, none⟩,
    ⟨some 47, .call { callee := (.builtin .len), args := #[(.tmp 46)], argTypes := #[23] }, 3, none⟩,
    ⟨some 48, .binOp .eql 3 (.tmp 47) (.const (.int .i64 0)) 3, 4, none⟩]
@[go_sem] def c6_12 : Cmd := .ops [⟨some 49, .move (.tmp 11), 60, none⟩]
def c6_L0 : Cmd := .skip
@[go_sem] def c6_13 : Cmd := .ops [⟨none, .store 4 (.tmp 8) (.const (.bool false)), 0, none⟩]
@[go_sem] def c6_14 : Cmd := .block 1 (.seq c6_13 .ret)
def c6_L1 : Cmd := c6_14
@[go_sem] def c6_15 : Cmd := .rangeF (.tmp 49) #[50] c6_L0 c6_L1
@[go_sem] def c6_16 : Cmd := .block 0 c6_15
@[go_sem] def c6_17 : Cmd := .ops [⟨none, .store 4 (.tmp 8) (.const (.bool true)), 0, none⟩]
@[go_sem] def c6_18 : Cmd := .cond (.tmp 48) (.seq (.seq c6_12 c6_16) (.seq c6_17 .ret)) .skip
@[go_sem] def c6_19 : Cmd := .ops [⟨some 51, .load 3 (.tmp 6), 3, none⟩,
    ⟨some 52, .move (.tmp 1), 23, none⟩,
    ⟨some 53, .call { callee := (.builtin .len), args := #[(.tmp 52)], argTypes := #[23] }, 3, none⟩,
    ⟨some 54, .call { callee := (.value (.func 21)), args := #[(.tmp 51), (.tmp 53)], argTypes := #[3, 3] }, 3, none⟩,
    ⟨none, .store 3 (.tmp 6) (.tmp 54), 0, none⟩]
@[go_sem] def c6_20 : Cmd := .ops [⟨some 55, .move (.tmp 0), 22, none⟩,
    ⟨some 56, .call { callee := (.builtin .len), args := #[(.tmp 55)], argTypes := #[22] }, 3, none⟩,
    ⟨some 57, .call { callee := (.builtin .min), args := #[(.tmp 56), (.const (.int .i64 1024))], argTypes := #[3, 3] }, 3, none⟩,
    ⟨some 58, .binOp .add 3 (.const (.int .i64 24)) (.tmp 57) 3, 3, none⟩,
    ⟨some 59, .binOp .sub 3 (.tmp 58) (.const (.int .i64 12)) 3, 3, none⟩,
    ⟨some 12, .alloc 3, 0, none⟩,
    ⟨none, .store 3 (.tmp 12) (.tmp 59), 0, none⟩]
@[go_sem] def c6_21 : Cmd := .ops [⟨some 13, .assign (.const (.int .i64 0)), 3, none⟩]
@[go_sem] def c6_22 : Cmd := .ops [⟨some 60, .move (.tmp 13), 3, none⟩,
    ⟨some 61, .load 3 (.tmp 6), 3, none⟩,
    ⟨some 62, .binOp .leq 3 (.tmp 60) (.tmp 61) 3, 4, none⟩]
@[go_sem] def c6_23 : Cmd := .cond (.tmp 62) .skip (.exit 2)
@[go_sem] def c6_24 : Cmd := .still 7 [⟨some 65, .load 3 (.tmp 12), 3, none⟩,
    ⟨some 66, .binOp .add 3 (.tmp 65) (.const (.int .i64 12)) 3, 3, none⟩,
    ⟨some 67, .move (.tmp 1), 23, none⟩,
    ⟨some 68, .move (.tmp 13), 3, none⟩,
    ⟨some 69, .indexAddr 23 (.tmp 67) (.tmp 68), 0, none⟩,
    ⟨some 70, .load 22 (.tmp 69), 22, none⟩,
    ⟨some 71, .call { callee := (.builtin .len), args := #[(.tmp 70)], argTypes := #[22] }, 3, none⟩,
    ⟨some 72, .binOp .add 3 (.tmp 66) (.tmp 71) 3, 3, none⟩,
    ⟨none, .store 3 (.tmp 12) (.tmp 72), 0, none⟩]
@[go_sem] def c6_25 : Cmd := .block 3 c6_24
@[go_sem] def c6_26 : Cmd := .ops [⟨some 63, .move (.tmp 13), 3, none⟩,
    ⟨some 64, .binOp .add 3 (.tmp 63) (.const (.int .i64 1)) 3, 3, none⟩,
    ⟨some 13, .assign (.tmp 64), 3, none⟩]
def c6_L2 : Cmd := (.seq (.seq c6_22 c6_23) (.seq c6_25 c6_26))
@[go_sem] def c6_27 : Cmd := .loop c6_L2
@[go_sem] def c6_28 : Cmd := .block 2 c6_27
@[go_sem] def c6_29 : Cmd := .ops [⟨some 73, .load 3 (.tmp 7), 3, none⟩,
    ⟨some 74, .call { callee := (.value (.func 21)), args := #[(.tmp 73), (.const (.int .i64 255))], argTypes := #[3, 3] }, 3, none⟩,
    ⟨some 75, .binOp .add 3 (.const (.int .i64 1)) (.tmp 74) 3, 3, none⟩,
    ⟨none, .store 3 (.tmp 7) (.tmp 75), 0, none⟩]
@[go_sem] def c6_30 : Cmd := .ops [⟨some 14, .alloc 23, 0, none⟩]
@[go_sem] def c6_31 : Cmd := .ops [⟨some 76, .move (.tmp 11), 60, none⟩]
@[go_sem] def c6_32 : Cmd := .ops [⟨some 15, .assign (.tmp 77), 22, none⟩]
def c6_L3 : Cmd := c6_32
@[go_sem] def c6_33 : Cmd := .ops [⟨some 78, .load 23 (.tmp 14), 23, none⟩,
    ⟨some 79, .call { callee := (.builtin .len), args := #[(.tmp 78)], argTypes := #[23] }, 3, none⟩,
    ⟨some 80, .load 3 (.tmp 6), 3, none⟩,
    ⟨some 81, .binOp .eql 3 (.tmp 79) (.tmp 80) 3, 4, none⟩]
@[go_sem] def c6_34 : Cmd := .ops [⟨some 82, .load 25 (.tmp 10), 25, none⟩,
    ⟨some 83, .load 3 (.tmp 12), 3, none⟩,
    ⟨some 84, .binOp .add 3 (.tmp 83) (.const (.int .i64 2)) 3, 3, none⟩,
    ⟨some 85, .load 3 (.tmp 7), 3, none⟩,
    ⟨some 86, .call { callee := (.value (.func 29)), args := #[(.tmp 82), (.const (.string ⟨#[102]⟩)), (.tmp 84), (.tmp 85)], argTypes := #[25, 9, 3, 3] }, 29, none⟩,
    ⟨some 16, .assign (.tmp 86), 29, none⟩]
@[go_sem] def c6_35 : Cmd := .ops [⟨some 87, .move (.tmp 16), 29, none⟩,
    ⟨some 88, .call { callee := (.value (.func 19)), args := #[(.tmp 87)], argTypes := #[29] }, 3, none⟩,
    ⟨some 89, .binOp .neq 3 (.tmp 88) (.const (.int .i64 0)) 3, 4, none⟩]
@[go_sem] def c6_36 : Cmd := .ops [⟨none, .store 4 (.tmp 8) (.const (.bool false)), 0, none⟩]
@[go_sem] def c6_37 : Cmd := .cond (.tmp 89) (.seq c6_36 .ret) .skip
@[go_sem] def c6_38 : Cmd := .cond (.tmp 81) (.seq c6_34 (.seq c6_35 c6_37)) .skip
@[go_sem] def c6_39 : Cmd := .ops [⟨some 90, .load 23 (.tmp 14), 23, none⟩,
    ⟨some 91, .move (.tmp 15), 22, none⟩,
    ⟨some 92, .buildSlice 23 1 #[(0, (.tmp 91))], 23, none⟩,
    ⟨some 93, .call { callee := (.builtin .append), args := #[(.tmp 90), (.tmp 92)], argTypes := #[23, 23] }, 23, none⟩,
    ⟨none, .store 23 (.tmp 14) (.tmp 93), 0, none⟩]
@[go_sem] def c6_40 : Cmd := .block 5 (.seq (.seq c6_33 c6_38) c6_39)
def c6_L4 : Cmd := c6_40
@[go_sem] def c6_41 : Cmd := .rangeF (.tmp 76) #[77] c6_L3 c6_L4
@[go_sem] def c6_42 : Cmd := .block 4 c6_41
@[go_sem] def c6_43 : Cmd := .still 5 [⟨some 94, .load 23 (.tmp 14), 23, none⟩,
    ⟨some 95, .move (.tmp 1), 23, none⟩,
    ⟨some 96, .load 3 (.tmp 6), 3, none⟩,
    ⟨some 97, .binOp .add 3 (.tmp 96) (.const (.int .i64 1)) 3, 3, none⟩,
    ⟨some 98, .slice 23 (.tmp 95) none (some (.tmp 97)) none, 23, none⟩,
    ⟨some 99, .call { callee := (.value (.func 15)), args := #[(.tmp 94), (.tmp 98)], argTypes := #[23, 23] }, 4, none⟩,
    ⟨some 17, .assign (.tmp 99), 4, none⟩]
@[go_sem] def c6_44 : Cmd := .ops [⟨some 100, .load 25 (.tmp 10), 25, none⟩,
    ⟨some 101, .load 3 (.tmp 12), 3, none⟩,
    ⟨some 102, .binOp .add 3 (.tmp 101) (.const (.int .i64 2)) 3, 3, none⟩,
    ⟨some 103, .load 3 (.tmp 7), 3, none⟩,
    ⟨some 104, .call { callee := (.value (.func 29)), args := #[(.tmp 100), (.const (.string ⟨#[102]⟩)), (.tmp 102), (.tmp 103)], argTypes := #[25, 9, 3, 3] }, 29, none⟩]
@[go_sem] def c6_45 : Cmd := .ops [⟨some 18, .alloc 23, 0, none⟩]
@[go_sem] def c6_46 : Cmd := .ops [⟨some 105, .move (.tmp 11), 60, none⟩]
@[go_sem] def c6_47 : Cmd := .ops [⟨some 19, .assign (.tmp 106), 22, none⟩]
def c6_L5 : Cmd := c6_47
@[go_sem] def c6_48 : Cmd := .ops [⟨some 107, .load 23 (.tmp 18), 23, none⟩,
    ⟨some 108, .move (.tmp 19), 22, none⟩,
    ⟨some 109, .buildSlice 23 1 #[(0, (.tmp 108))], 23, none⟩,
    ⟨some 110, .call { callee := (.builtin .append), args := #[(.tmp 107), (.tmp 109)], argTypes := #[23, 23] }, 23, none⟩,
    ⟨none, .store 23 (.tmp 18) (.tmp 110), 0, none⟩]
@[go_sem] def c6_49 : Cmd := .block 7 c6_48
def c6_L6 : Cmd := c6_49
@[go_sem] def c6_50 : Cmd := .rangeF (.tmp 105) #[106] c6_L5 c6_L6
@[go_sem] def c6_51 : Cmd := .block 6 c6_50
@[go_sem] def c6_52 : Cmd := .ops [⟨some 111, .load 23 (.tmp 18), 23, none⟩,
    ⟨some 112, .move (.tmp 1), 23, none⟩,
    ⟨some 113, .call { callee := (.value (.func 15)), args := #[(.tmp 111), (.tmp 112)], argTypes := #[23, 23] }, 4, none⟩,
    ⟨some 20, .assign (.tmp 113), 4, none⟩]
@[go_sem] def c6_53 : Cmd := .ops [⟨some 114, .move (.tmp 17), 4, none⟩,
    ⟨some 115, .move (.tmp 114), 4, none⟩,
    ⟨some 116, .move (.tmp 20), 4, some (115, true)⟩,
    ⟨some 117, .pick (.tmp 115) (.tmp 116) (.const (.bool false)), 4, none⟩,
    ⟨none, .store 4 (.tmp 8) (.tmp 117), 0, none⟩]
@[go_sem] def c6 : Cmd := (.seq c6_0 (.seq c6_1 (.seq c6_2 (.seq c6_3 (.seq (.seq c6_4 c6_6) (.seq c6_7 (.seq (.seq c6_8 c6_10) (.seq (.seq c6_11 c6_18) (.seq c6_19 (.seq c6_20 (.seq (.seq c6_21 c6_28) (.seq c6_29 (.seq c6_30 (.seq (.seq c6_31 c6_42) (.seq c6_43 (.seq c6_44 (.seq c6_45 (.seq (.seq c6_46 c6_51) (.seq c6_52 (.seq c6_53 .ret))))))))))))))))))))
theorem b6 : Tryd.f6.body.map (comp 118) = some c6 := by kernel_rfl
theorem r6 : Tryd.f6.results.toList = [.cell 8 4] := by kernel_rfl
-- 7 pith/pithlaw9.FilesRoom
@[go_sem] def c7_0 : Cmd := .ops [⟨some 6, .assign (.const (.bool false)), 4, none⟩]
@[go_sem] def c7_1 : Cmd := .ops [⟨some 23, .call { callee := (.value (.func 9)), args := #[], argTypes := #[] }, 4, none⟩,
    ⟨some 7, .assign (.tmp 23), 4, none⟩]
@[go_sem] def c7_2 : Cmd := .ops [⟨some 24, .move (.tmp 0), 3, none⟩,
    ⟨some 25, .call { callee := (.value (.func 21)), args := #[(.tmp 24), (.const (.int .i64 3000))], argTypes := #[3, 3] }, 3, none⟩,
    ⟨some 26, .call { callee := (.value (.func 10)), args := #[(.tmp 25)], argTypes := #[3] }, 25, none⟩,
    ⟨some 8, .assign (.tmp 26), 25, none⟩]
@[go_sem] def c7_3 : Cmd := .ops [⟨some 27, .move (.tmp 7), 4, none⟩,
    ⟨some 28, .unOp .not 4 (.tmp 27), 4, none⟩,
    ⟨some 29, .move (.tmp 28), 4, none⟩,
    ⟨some 30, .move (.tmp 8), 25, some (29, false)⟩,
    ⟨some 31, .binOp .eql 25 (.tmp 30) (.const (.pointer none)) 25, 4, some (29, false)⟩,
    ⟨some 32, .pick (.tmp 29) (.const (.bool true)) (.tmp 31), 4, none⟩]
@[go_sem] def c7_4 : Cmd := .ops [⟨some 6, .assign (.const (.bool false)), 4, none⟩]
@[go_sem] def c7_5 : Cmd := .cond (.tmp 32) (.seq c7_4 .ret) .skip
@[go_sem] def c7_6 : Cmd := .ops [⟨some 33, .move (.tmp 1), 23, none⟩,
    ⟨some 34, .call { callee := (.value (.func 11)), args := #[(.tmp 33)], argTypes := #[23] }, 23, none⟩,
    ⟨some 1, .assign (.tmp 34), 23, none⟩]
@[go_sem] def c7_7 : Cmd := .ops [⟨some 35, .move (.tmp 2), 23, none⟩,
    ⟨some 36, .call { callee := (.value (.func 11)), args := #[(.tmp 35)], argTypes := #[23] }, 23, none⟩,
    ⟨some 2, .assign (.tmp 36), 23, none⟩]
@[go_sem] def c7_8 : Cmd := .ops [⟨some 37, .move (.tmp 8), 25, none⟩,
    ⟨some 38, .buildSlice 22 3 #[(0, (.const (.int .u8 111))), (1, (.const (.int .u8 108))), (2, (.const (.int .u8 100)))], 22, none⟩,
    ⟨some 39, .convert 22 22 (.tmp 38), 22, none⟩,
    ⟨some 40, .move (.tmp 1), 23, none⟩,
    ⟨some 41, .call { callee := (.value (.func 30)), args := #[(.tmp 37), (.const (.string ⟨#[102]⟩)), (.tmp 39), (.tmp 40)], argTypes := #[25, 9, 22, 23] }, 29, none⟩]
@[go_sem] def c7_9 : Cmd := .ops [⟨some 43, .move (.tmp 8), 25, none⟩,
    ⟨some 44, .call { callee := (.value (.func 13)), args := #[(.tmp 43), (.const (.string ⟨#[102]⟩))], argTypes := #[25, 9] }, 30, none⟩,
    ⟨some 42, .move (.tmp 44), 30, none⟩,
    ⟨some 45, .extract (.tmp 42) 0, 22, none⟩,
    ⟨some 46, .extract (.tmp 42) 1, 23, none⟩,
    ⟨some 47, .extract (.tmp 42) 2, 29, none⟩,
    ⟨some 9, .assign (.tmp 45), 22, none⟩,
    ⟨some 10, .assign (.tmp 46), 23, none⟩,
    ⟨some 11, .assign (.tmp 47), 29, none⟩]
@[go_sem] def c7_10 : Cmd := .ops [⟨some 48, .move (.tmp 8), 25, none⟩,
    ⟨some 49, .call { callee := (.value (.func 31)), args := #[(.tmp 48)], argTypes := #[25] }, 65, none⟩,
    ⟨some 12, .assign (.tmp 49), 65, none⟩]
@[go_sem] def c7_11 : Cmd := .ops [⟨some 50, .move (.tmp 8), 25, none⟩,
    ⟨some 51, .call { callee := (.value (.func 33)), args := #[(.tmp 50)], argTypes := #[25] }, 67, none⟩,
    ⟨some 52, .call { callee := (.value (.func 32)), args := #[(.tmp 51)], argTypes := #[67] }, 67, none⟩,
    ⟨some 13, .assign (.tmp 52), 67, none⟩]
@[go_sem] def c7_12 : Cmd := .ops [⟨some 53, .move (.tmp 8), 25, none⟩,
    ⟨some 54, .buildSlice 22 3 #[(0, (.const (.int .u8 110))), (1, (.const (.int .u8 101))), (2, (.const (.int .u8 119)))], 22, none⟩,
    ⟨some 55, .convert 22 22 (.tmp 54), 22, none⟩,
    ⟨some 56, .move (.tmp 2), 23, none⟩,
    ⟨some 57, .call { callee := (.value (.func 30)), args := #[(.tmp 53), (.const (.string ⟨#[102]⟩)), (.tmp 55), (.tmp 56)], argTypes := #[25, 9, 22, 23] }, 29, none⟩,
    ⟨some 14, .assign (.tmp 57), 29, none⟩]
@[go_sem] def c7_13 : Cmd := .ops [⟨some 59, .move (.tmp 8), 25, none⟩,
    ⟨some 60, .call { callee := (.value (.func 13)), args := #[(.tmp 59), (.const (.string ⟨#[102]⟩))], argTypes := #[25, 9] }, 30, none⟩,
    ⟨some 58, .move (.tmp 60), 30, none⟩,
    ⟨some 61, .extract (.tmp 58) 0, 22, none⟩,
    ⟨some 62, .extract (.tmp 58) 1, 23, none⟩,
    ⟨some 63, .extract (.tmp 58) 2, 29, none⟩,
    ⟨some 15, .assign (.tmp 61), 22, none⟩,
    ⟨some 16, .assign (.tmp 62), 23, none⟩,
    ⟨some 17, .assign (.tmp 63), 29, none⟩]
@[go_sem] def c7_14 : Cmd := .ops [⟨some 64, .move (.tmp 14), 29, none⟩,
    ⟨some 65, .call { callee := (.value (.func 19)), args := #[(.tmp 64)], argTypes := #[29] }, 3, none⟩,
    ⟨some 66, .binOp .eql 3 (.tmp 65) (.const (.int .i64 0)) 3, 4, none⟩]
@[go_sem] def c7_15 : Cmd := .ops [⟨some 67, .move (.tmp 15), 22, none⟩,
    ⟨some 68, .buildSlice 22 3 #[(0, (.const (.int .u8 110))), (1, (.const (.int .u8 101))), (2, (.const (.int .u8 119)))], 22, none⟩,
    ⟨some 69, .convert 22 22 (.tmp 68), 22, none⟩,
    ⟨some 70, .call { callee := (.value (.func 14)), args := #[(.tmp 67), (.tmp 69)], argTypes := #[22, 22] }, 4, none⟩,
    ⟨some 18, .assign (.tmp 70), 4, none⟩]
@[go_sem] def c7_16 : Cmd := .ops [⟨some 71, .move (.tmp 16), 23, none⟩,
    ⟨some 72, .move (.tmp 2), 23, none⟩,
    ⟨some 73, .call { callee := (.value (.func 15)), args := #[(.tmp 71), (.tmp 72)], argTypes := #[23, 23] }, 4, none⟩,
    ⟨some 19, .assign (.tmp 73), 4, none⟩]
@[go_sem] def c7_17 : Cmd := .ops [⟨some 74, .move (.tmp 18), 4, none⟩,
    ⟨some 75, .move (.tmp 74), 4, none⟩,
    ⟨some 76, .move (.tmp 19), 4, some (75, true)⟩,
    ⟨some 77, .pick (.tmp 75) (.tmp 76) (.const (.bool false)), 4, none⟩,
    ⟨some 78, .move (.tmp 77), 4, none⟩,
    ⟨some 79, .move (.tmp 17), 29, some (78, true)⟩,
    ⟨some 80, .call { callee := (.value (.func 19)), args := #[(.tmp 79)], argTypes := #[29] }, 3, some (78, true)⟩,
    ⟨some 81, .binOp .eql 3 (.tmp 80) (.const (.int .i64 0)) 3, 4, some (78, true)⟩,
    ⟨some 82, .pick (.tmp 78) (.tmp 81) (.const (.bool false)), 4, none⟩,
    ⟨some 6, .assign (.tmp 82), 4, none⟩]
@[go_sem] def c7_18 : Cmd := .cond (.tmp 66) (.seq c7_15 (.seq c7_16 (.seq c7_17 .ret))) .skip
@[go_sem] def c7_19 : Cmd := .ops [⟨some 83, .move (.tmp 9), 22, none⟩,
    ⟨some 84, .move (.tmp 15), 22, none⟩,
    ⟨some 85, .call { callee := (.value (.func 14)), args := #[(.tmp 83), (.tmp 84)], argTypes := #[22, 22] }, 4, none⟩,
    ⟨some 86, .move (.tmp 85), 4, none⟩,
    ⟨some 87, .move (.tmp 10), 23, some (86, true)⟩,
    ⟨some 88, .move (.tmp 16), 23, some (86, true)⟩,
    ⟨some 89, .call { callee := (.value (.func 15)), args := #[(.tmp 87), (.tmp 88)], argTypes := #[23, 23] }, 4, some (86, true)⟩,
    ⟨some 90, .pick (.tmp 86) (.tmp 89) (.const (.bool false)), 4, none⟩,
    ⟨some 91, .move (.tmp 90), 4, none⟩,
    ⟨some 92, .move (.tmp 11), 29, some (91, true)⟩,
    ⟨some 93, .call { callee := (.value (.func 19)), args := #[(.tmp 92)], argTypes := #[29] }, 3, some (91, true)⟩,
    ⟨some 94, .move (.tmp 17), 29, some (91, true)⟩,
    ⟨some 95, .call { callee := (.value (.func 19)), args := #[(.tmp 94)], argTypes := #[29] }, 3, some (91, true)⟩,
    ⟨some 96, .binOp .eql 3 (.tmp 93) (.tmp 95) 3, 4, some (91, true)⟩,
    ⟨some 97, .pick (.tmp 91) (.tmp 96) (.const (.bool false)), 4, none⟩,
    ⟨some 20, .assign (.tmp 97), 4, none⟩]
@[go_sem] def c7_20 : Cmd := .ops [⟨some 98, .move (.tmp 8), 25, none⟩,
    ⟨some 99, .call { callee := (.value (.func 31)), args := #[(.tmp 98)], argTypes := #[25] }, 65, none⟩,
    ⟨some 100, .move (.tmp 12), 65, none⟩,
    ⟨some 101, .call { callee := (.value (.func 34)), args := #[(.tmp 99), (.tmp 100)], argTypes := #[65, 65] }, 4, none⟩,
    ⟨some 21, .assign (.tmp 101), 4, none⟩]
@[go_sem] def c7_21 : Cmd := .ops [⟨some 102, .move (.tmp 8), 25, none⟩,
    ⟨some 103, .call { callee := (.value (.func 33)), args := #[(.tmp 102)], argTypes := #[25] }, 67, none⟩,
    ⟨some 104, .move (.tmp 13), 67, none⟩,
    ⟨some 105, .call { callee := (.value (.func 35)), args := #[(.tmp 103), (.tmp 104)], argTypes := #[67, 67] }, 4, none⟩,
    ⟨some 22, .assign (.tmp 105), 4, none⟩]
@[go_sem] def c7_22 : Cmd := .ops [⟨some 106, .move (.tmp 14), 29, none⟩,
    ⟨some 107, .call { callee := (.value (.func 19)), args := #[(.tmp 106)], argTypes := #[29] }, 3, none⟩,
    ⟨some 108, .binOp .eql 3 (.tmp 107) (.const (.int .i64 80)) 3, 4, none⟩,
    ⟨some 109, .move (.tmp 108), 4, none⟩,
    ⟨some 110, .move (.tmp 20), 4, some (109, true)⟩,
    ⟨some 111, .pick (.tmp 109) (.tmp 110) (.const (.bool false)), 4, none⟩,
    ⟨some 112, .move (.tmp 111), 4, none⟩,
    ⟨some 113, .move (.tmp 21), 4, some (112, true)⟩,
    ⟨some 114, .pick (.tmp 112) (.tmp 113) (.const (.bool false)), 4, none⟩,
    ⟨some 115, .move (.tmp 114), 4, none⟩,
    ⟨some 116, .move (.tmp 22), 4, some (115, true)⟩,
    ⟨some 117, .pick (.tmp 115) (.tmp 116) (.const (.bool false)), 4, none⟩,
    ⟨some 6, .assign (.tmp 117), 4, none⟩]
@[go_sem] def c7 : Cmd := (.seq c7_0 (.seq c7_1 (.seq c7_2 (.seq (.seq c7_3 c7_5) (.seq c7_6 (.seq c7_7 (.seq c7_8 (.seq c7_9 (.seq c7_10 (.seq c7_11 (.seq c7_12 (.seq c7_13 (.seq (.seq c7_14 c7_18) (.seq c7_19 (.seq c7_20 (.seq c7_21 (.seq c7_22 .ret)))))))))))))))))
theorem b7 : Tryd.f7.body.map (comp 118) = some c7 := by kernel_rfl
theorem r7 : Tryd.f7.results.toList = [.tmp 6] := by kernel_rfl
-- 8 pith/pithlaw9.FilesWhole
@[go_sem] def c8_0 : Cmd := .ops [⟨some 12, .assign (.const (.bool false)), 4, none⟩]
@[go_sem] def c8_1 : Cmd := .ops [⟨some 23, .call { callee := (.value (.func 9)), args := #[], argTypes := #[] }, 4, none⟩,
    ⟨some 13, .assign (.tmp 23), 4, none⟩]
@[go_sem] def c8_2 : Cmd := .ops [⟨some 24, .call { callee := (.value (.func 10)), args := #[(.const (.int .i64 1048576))], argTypes := #[3] }, 25, none⟩,
    ⟨some 14, .assign (.tmp 24), 25, none⟩]
@[go_sem] def c8_3 : Cmd := .ops [⟨some 25, .move (.tmp 13), 4, none⟩,
    ⟨some 26, .unOp .not 4 (.tmp 25), 4, none⟩,
    ⟨some 27, .move (.tmp 26), 4, none⟩,
    ⟨some 28, .move (.tmp 14), 25, some (27, false)⟩,
    ⟨some 29, .binOp .eql 25 (.tmp 28) (.const (.pointer none)) 25, 4, some (27, false)⟩,
    ⟨some 30, .pick (.tmp 27) (.const (.bool true)) (.tmp 29), 4, none⟩]
@[go_sem] def c8_4 : Cmd := .ops [⟨some 12, .assign (.const (.bool false)), 4, none⟩]
@[go_sem] def c8_5 : Cmd := .cond (.tmp 30) (.seq c8_4 .ret) .skip
@[go_sem] def c8_6 : Cmd := .ops [⟨some 31, .move (.tmp 0), 23, none⟩,
    ⟨some 32, .call { callee := (.value (.func 11)), args := #[(.tmp 31)], argTypes := #[23] }, 23, none⟩,
    ⟨some 0, .assign (.tmp 32), 23, none⟩]
@[go_sem] def c8_7 : Cmd := .ops [⟨some 33, .move (.tmp 1), 23, none⟩,
    ⟨some 34, .call { callee := (.value (.func 11)), args := #[(.tmp 33)], argTypes := #[23] }, 23, none⟩,
    ⟨some 1, .assign (.tmp 34), 23, none⟩]
@[go_sem] def c8_8 : Cmd := .ops [⟨some 35, .move (.tmp 2), 4, none⟩]
@[go_sem] def c8_9 : Cmd := .ops [⟨some 36, .move (.tmp 14), 25, none⟩,
    ⟨some 37, .buildSlice 22 3 #[(0, (.const (.int .u8 111))), (1, (.const (.int .u8 108))), (2, (.const (.int .u8 100)))], 22, none⟩,
    ⟨some 38, .convert 22 22 (.tmp 37), 22, none⟩,
    ⟨some 39, .move (.tmp 0), 23, none⟩,
    ⟨some 40, .call { callee := (.value (.func 30)), args := #[(.tmp 36), (.const (.string ⟨#[102]⟩)), (.tmp 38), (.tmp 39)], argTypes := #[25, 9, 22, 23] }, 29, none⟩,
    ⟨some 15, .assign (.tmp 40), 29, none⟩]
@[go_sem] def c8_10 : Cmd := .ops [⟨some 41, .move (.tmp 15), 29, none⟩,
    ⟨some 42, .call { callee := (.value (.func 19)), args := #[(.tmp 41)], argTypes := #[29] }, 3, none⟩,
    ⟨some 43, .binOp .neq 3 (.tmp 42) (.const (.int .i64 0)) 3, 4, none⟩]
@[go_sem] def c8_11 : Cmd := .ops [⟨some 12, .assign (.const (.bool false)), 4, none⟩]
@[go_sem] def c8_12 : Cmd := .cond (.tmp 43) (.seq c8_11 .ret) .skip
@[go_sem] def c8_13 : Cmd := .cond (.tmp 35) (.seq c8_9 (.seq c8_10 c8_12)) .skip
@[go_sem] def c8_14 : Cmd := .ops [⟨some 44, .move (.tmp 3), 3, none⟩,
    ⟨some 45, .binOp .gtr 3 (.tmp 44) (.const (.int .i64 0)) 3, 4, none⟩,
    ⟨some 46, .move (.tmp 45), 4, none⟩,
    ⟨some 47, .move (.tmp 3), 3, some (46, true)⟩,
    ⟨some 48, .binOp .lss 3 (.tmp 47) (.const (.int .i64 200)) 3, 4, some (46, true)⟩,
    ⟨some 49, .pick (.tmp 46) (.tmp 48) (.const (.bool false)), 4, none⟩]
@[go_sem] def c8_15 : Cmd := .ops [⟨some 50, .move (.tmp 14), 25, none⟩,
    ⟨some 51, .move (.tmp 3), 3, none⟩,
    ⟨some 52, .call { callee := (.value (.func 36)), args := #[(.tmp 50), (.tmp 51)], argTypes := #[25, 3] }, 29, none⟩]
@[go_sem] def c8_16 : Cmd := .cond (.tmp 49) c8_15 .skip
@[go_sem] def c8_17 : Cmd := .ops [⟨some 53, .move (.tmp 14), 25, none⟩,
    ⟨some 54, .buildSlice 22 3 #[(0, (.const (.int .u8 110))), (1, (.const (.int .u8 101))), (2, (.const (.int .u8 119)))], 22, none⟩,
    ⟨some 55, .convert 22 22 (.tmp 54), 22, none⟩,
    ⟨some 56, .move (.tmp 1), 23, none⟩,
    ⟨some 57, .call { callee := (.value (.func 30)), args := #[(.tmp 53), (.const (.string ⟨#[102]⟩)), (.tmp 55), (.tmp 56)], argTypes := #[25, 9, 22, 23] }, 29, none⟩,
    ⟨some 16, .assign (.tmp 57), 29, none⟩]
@[go_sem] def c8_18 : Cmd := .ops [⟨some 58, .move (.tmp 16), 29, none⟩,
    ⟨some 59, .call { callee := (.value (.func 19)), args := #[(.tmp 58)], argTypes := #[29] }, 3, none⟩,
    ⟨some 60, .binOp .neq 3 (.tmp 59) (.const (.int .i64 0)) 3, 4, none⟩,
    ⟨some 61, .move (.tmp 60), 4, none⟩,
    ⟨some 62, .move (.tmp 16), 29, some (61, true)⟩,
    ⟨some 63, .call { callee := (.value (.func 19)), args := #[(.tmp 62)], argTypes := #[29] }, 3, some (61, true)⟩,
    ⟨some 64, .binOp .neq 3 (.tmp 63) (.const (.int .i64 81)) 3, 4, some (61, true)⟩,
    ⟨some 65, .pick (.tmp 61) (.tmp 64) (.const (.bool false)), 4, none⟩]
@[go_sem] def c8_19 : Cmd := .ops [⟨some 12, .assign (.const (.bool false)), 4, none⟩]
@[go_sem] def c8_20 : Cmd := .cond (.tmp 65) (.seq c8_19 .ret) .skip
@[go_sem] def c8_21 : Cmd := .ops [⟨some 66, .move (.tmp 14), 25, none⟩,
    ⟨some 67, .move (.tmp 4), 3, none⟩,
    ⟨some 68, .move (.tmp 5), 73, none⟩,
    ⟨some 69, .call { callee := (.value (.func 38)), args := #[(.tmp 68)], argTypes := #[73] }, 73, none⟩,
    ⟨some 70, .call { callee := (.value (.func 37)), args := #[(.tmp 66), (.tmp 67), (.tmp 69)], argTypes := #[25, 3, 73] }, 0, none⟩]
@[go_sem] def c8_22 : Cmd := .ops [⟨some 72, .move (.tmp 14), 25, none⟩,
    ⟨some 73, .call { callee := (.value (.func 13)), args := #[(.tmp 72), (.const (.string ⟨#[102]⟩))], argTypes := #[25, 9] }, 30, none⟩,
    ⟨some 71, .move (.tmp 73), 30, none⟩,
    ⟨some 74, .extract (.tmp 71) 0, 22, none⟩,
    ⟨some 75, .extract (.tmp 71) 1, 23, none⟩,
    ⟨some 76, .extract (.tmp 71) 2, 29, none⟩,
    ⟨some 17, .assign (.tmp 74), 22, none⟩,
    ⟨some 18, .assign (.tmp 75), 23, none⟩,
    ⟨some 19, .assign (.tmp 76), 29, none⟩]
@[go_sem] def c8_23 : Cmd := .ops [⟨some 77, .move (.tmp 17), 22, none⟩,
    ⟨some 78, .buildSlice 22 3 #[(0, (.const (.int .u8 111))), (1, (.const (.int .u8 108))), (2, (.const (.int .u8 100)))], 22, none⟩,
    ⟨some 79, .convert 22 22 (.tmp 78), 22, none⟩,
    ⟨some 80, .call { callee := (.value (.func 14)), args := #[(.tmp 77), (.tmp 79)], argTypes := #[22, 22] }, 4, none⟩,
    ⟨some 81, .move (.tmp 80), 4, none⟩,
    ⟨some 82, .move (.tmp 18), 23, some (81, true)⟩,
    ⟨some 83, .move (.tmp 0), 23, some (81, true)⟩,
    ⟨some 84, .call { callee := (.value (.func 15)), args := #[(.tmp 82), (.tmp 83)], argTypes := #[23, 23] }, 4, some (81, true)⟩,
    ⟨some 85, .pick (.tmp 81) (.tmp 84) (.const (.bool false)), 4, none⟩,
    ⟨some 86, .move (.tmp 85), 4, none⟩,
    ⟨some 87, .move (.tmp 19), 29, some (86, true)⟩,
    ⟨some 88, .call { callee := (.value (.func 19)), args := #[(.tmp 87)], argTypes := #[29] }, 3, some (86, true)⟩,
    ⟨some 89, .binOp .eql 3 (.tmp 88) (.const (.int .i64 0)) 3, 4, some (86, true)⟩,
    ⟨some 90, .pick (.tmp 86) (.tmp 89) (.const (.bool false)), 4, none⟩,
    ⟨some 91, .move (.tmp 90), 4, none⟩,
    ⟨some 92, .move (.tmp 2), 4, some (91, true)⟩,
    ⟨some 93, .pick (.tmp 91) (.tmp 92) (.const (.bool false)), 4, none⟩,
    ⟨some 20, .assign (.tmp 93), 4, none⟩]
@[go_sem] def c8_24 : Cmd := .ops [⟨some 94, .move (.tmp 17), 22, none⟩,
    ⟨some 95, .buildSlice 22 3 #[(0, (.const (.int .u8 110))), (1, (.const (.int .u8 101))), (2, (.const (.int .u8 119)))], 22, none⟩,
    ⟨some 96, .convert 22 22 (.tmp 95), 22, none⟩,
    ⟨some 97, .call { callee := (.value (.func 14)), args := #[(.tmp 94), (.tmp 96)], argTypes := #[22, 22] }, 4, none⟩,
    ⟨some 98, .move (.tmp 97), 4, none⟩,
    ⟨some 99, .move (.tmp 18), 23, some (98, true)⟩,
    ⟨some 100, .move (.tmp 1), 23, some (98, true)⟩,
    ⟨some 101, .call { callee := (.value (.func 15)), args := #[(.tmp 99), (.tmp 100)], argTypes := #[23, 23] }, 4, some (98, true)⟩,
    ⟨some 102, .pick (.tmp 98) (.tmp 101) (.const (.bool false)), 4, none⟩,
    ⟨some 103, .move (.tmp 102), 4, none⟩,
    ⟨some 104, .move (.tmp 19), 29, some (103, true)⟩,
    ⟨some 105, .call { callee := (.value (.func 19)), args := #[(.tmp 104)], argTypes := #[29] }, 3, some (103, true)⟩,
    ⟨some 106, .binOp .eql 3 (.tmp 105) (.const (.int .i64 0)) 3, 4, some (103, true)⟩,
    ⟨some 107, .pick (.tmp 103) (.tmp 106) (.const (.bool false)), 4, none⟩,
    ⟨some 21, .assign (.tmp 107), 4, none⟩]
@[go_sem] def c8_25 : Cmd := .ops [⟨some 108, .move (.tmp 19), 29, none⟩,
    ⟨some 109, .call { callee := (.value (.func 19)), args := #[(.tmp 108)], argTypes := #[29] }, 3, none⟩,
    ⟨some 110, .binOp .eql 3 (.tmp 109) (.const (.int .i64 82)) 3, 4, none⟩,
    ⟨some 111, .move (.tmp 110), 4, none⟩,
    ⟨some 112, .move (.tmp 2), 4, some (111, true)⟩,
    ⟨some 113, .unOp .not 4 (.tmp 112), 4, some (111, true)⟩,
    ⟨some 114, .pick (.tmp 111) (.tmp 113) (.const (.bool false)), 4, none⟩,
    ⟨some 22, .assign (.tmp 114), 4, none⟩]
@[go_sem] def c8_26 : Cmd := .ops [⟨some 115, .move (.tmp 16), 29, none⟩,
    ⟨some 116, .call { callee := (.value (.func 19)), args := #[(.tmp 115)], argTypes := #[29] }, 3, none⟩,
    ⟨some 117, .binOp .eql 3 (.tmp 116) (.const (.int .i64 0)) 3, 4, none⟩]
@[go_sem] def c8_27 : Cmd := .ops [⟨some 118, .move (.tmp 21), 4, none⟩,
    ⟨some 12, .assign (.tmp 118), 4, none⟩]
@[go_sem] def c8_28 : Cmd := .cond (.tmp 117) (.seq c8_27 .ret) .skip
@[go_sem] def c8_29 : Cmd := .ops [⟨some 119, .move (.tmp 21), 4, none⟩,
    ⟨some 120, .move (.tmp 119), 4, none⟩,
    ⟨some 121, .move (.tmp 20), 4, some (120, false)⟩,
    ⟨some 122, .pick (.tmp 120) (.const (.bool true)) (.tmp 121), 4, none⟩,
    ⟨some 123, .move (.tmp 122), 4, none⟩,
    ⟨some 124, .move (.tmp 22), 4, some (123, false)⟩,
    ⟨some 125, .pick (.tmp 123) (.const (.bool true)) (.tmp 124), 4, none⟩,
    ⟨some 12, .assign (.tmp 125), 4, none⟩]
@[go_sem] def c8 : Cmd := (.seq c8_0 (.seq c8_1 (.seq c8_2 (.seq (.seq c8_3 c8_5) (.seq c8_6 (.seq c8_7 (.seq (.seq c8_8 c8_13) (.seq (.seq c8_14 c8_16) (.seq c8_17 (.seq (.seq c8_18 c8_20) (.seq c8_21 (.seq c8_22 (.seq c8_23 (.seq c8_24 (.seq c8_25 (.seq (.seq c8_26 c8_28) (.seq c8_29 .ret)))))))))))))))))
theorem b8 : Tryd.f8.body.map (comp 126) = some c8 := by kernel_rfl
theorem r8 : Tryd.f8.results.toList = [.tmp 12] := by kernel_rfl
end Go.Proofs.YtgpoldjpmcoppaaDoor
