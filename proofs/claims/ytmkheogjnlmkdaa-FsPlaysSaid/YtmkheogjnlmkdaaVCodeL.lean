/- The functions' code as commands; printed by wip/Gen.lean off the translation. -/
import Derived.Test.YtmkheogjnlmkdaaProg
import Derived.Test.YtmkheogjnlmkdaaVCode
import Derived.KernelRfl
set_option maxRecDepth 100000
set_option linter.unusedSimpArgs false
namespace Go.Proofs.Ytmkheogjnlmkdaa
open Go Go.V
-- 3 pith/pithlaw8.FsTrue
@[go_sem] def c3_0 : Cmd := .ops [⟨some 4, .assign (.const (.bool false)), 4, none⟩]
@[go_sem] def c3_1 : Cmd := .ops [⟨some 12, .call { callee := (.value (.func 11)), args := #[], argTypes := #[] }, 4, none⟩,
    ⟨some 5, .assign (.tmp 12), 4, none⟩]
@[go_sem] def c3_2 : Cmd := .ops [⟨some 13, .move (.tmp 0), 3, none⟩,
    ⟨some 14, .call { callee := (.value (.func 12)), args := #[(.tmp 13)], argTypes := #[3] }, 24, none⟩,
    ⟨some 6, .assign (.tmp 14), 24, none⟩]
@[go_sem] def c3_3 : Cmd := .ops [⟨some 15, .move (.tmp 5), 4, none⟩,
    ⟨some 16, .unOp .not 4 (.tmp 15), 4, none⟩,
    ⟨some 17, .move (.tmp 16), 4, none⟩,
    ⟨some 18, .move (.tmp 6), 24, some (17, false)⟩,
    ⟨some 19, .binOp .eql 24 (.tmp 18) (.const (.pointer none)) 24, 4, some (17, false)⟩,
    ⟨some 20, .pick (.tmp 17) (.const (.bool true)) (.tmp 19), 4, none⟩]
@[go_sem] def c3_4 : Cmd := .ops [⟨some 21, .move (.tmp 5), 4, none⟩,
    ⟨some 22, .move (.tmp 21), 4, none⟩,
    ⟨some 23, .move (.tmp 0), 3, some (22, true)⟩,
    ⟨some 24, .binOp .lss 3 (.tmp 23) (.const (.int .i64 0)) 3, 4, some (22, true)⟩,
    ⟨some 25, .move (.tmp 24), 4, some (22, true)⟩,
    ⟨some 26, .move (.tmp 0), 3, some (25, false)⟩,
    ⟨some 27, .binOp .gtr 3 (.tmp 26) (.const (.int .i64 2147483647)) 3, 4, some (25, false)⟩,
    ⟨some 28, .pick (.tmp 25) (.const (.bool true)) (.tmp 27), 4, some (22, true)⟩,
    ⟨some 29, .pick (.tmp 22) (.tmp 28) (.const (.bool false)), 4, none⟩,
    ⟨some 4, .assign (.tmp 29), 4, none⟩]
@[go_sem] def c3_5 : Cmd := .cond (.tmp 20) (.seq c3_4 .ret) .skip
@[go_sem] def c3_6 : Cmd := .ops [⟨some 7, .assign (.const (.slice none 0 0)), 26, none⟩]
@[go_sem] def c3_7 : Cmd := .ops [⟨some 8, .assign (.const (.int .i64 0)), 3, none⟩]
@[go_sem] def c3_8 : Cmd := .ops [⟨some 30, .move (.tmp 8), 3, none⟩,
    ⟨some 31, .move (.tmp 1), 22, none⟩,
    ⟨some 32, .call { callee := (.builtin .len), args := #[(.tmp 31)], argTypes := #[22] }, 3, none⟩,
    ⟨some 33, .binOp .lss 3 (.tmp 30) (.tmp 32) 3, 4, none⟩,
    ⟨some 34, .move (.tmp 33), 4, none⟩,
    ⟨some 35, .move (.tmp 8), 3, some (34, true)⟩,
    ⟨some 36, .binOp .lss 3 (.tmp 35) (.const (.int .i64 300)) 3, 4, some (34, true)⟩,
    ⟨some 37, .pick (.tmp 34) (.tmp 36) (.const (.bool false)), 4, none⟩]
@[go_sem] def c3_9 : Cmd := .cond (.tmp 37) .skip (.exit 0)
@[go_sem] def c3_10 : Cmd := .ops [⟨some 40, .move (.tmp 6), 24, none⟩,
    ⟨some 41, .call { callee := (.value (.func 13)), args := #[(.tmp 40)], argTypes := #[24] }, 3, none⟩,
    ⟨some 9, .assign (.tmp 41), 3, none⟩]
@[go_sem] def c3_11 : Cmd := .ops [⟨some 42, .move (.tmp 6), 24, none⟩,
    ⟨some 43, .move (.tmp 1), 22, none⟩,
    ⟨some 44, .move (.tmp 8), 3, none⟩,
    ⟨some 45, .indexAddr 22 (.tmp 43) (.tmp 44), 0, none⟩,
    ⟨some 46, .load 30 (.tmp 45), 30, none⟩,
    ⟨some 47, .call { callee := (.value (.func 14)), args := #[(.tmp 42), (.tmp 46)], argTypes := #[24, 30] }, 3, none⟩,
    ⟨some 10, .assign (.tmp 47), 3, none⟩]
@[go_sem] def c3_12 : Cmd := .ops [⟨some 48, .move (.tmp 7), 26, none⟩,
    ⟨some 49, .move (.tmp 1), 22, none⟩,
    ⟨some 50, .move (.tmp 8), 3, none⟩,
    ⟨some 51, .indexAddr 22 (.tmp 49) (.tmp 50), 0, none⟩,
    ⟨some 52, .fieldAddr 30 (.tmp 51) 1, 0, none⟩,
    ⟨some 53, .load 3 (.tmp 52), 3, none⟩,
    ⟨some 54, .call { callee := (.value (.func 16)), args := #[(.tmp 53)], argTypes := #[3] }, 9, none⟩,
    ⟨some 55, .call { callee := (.value (.func 15)), args := #[(.tmp 48), (.tmp 54)], argTypes := #[26, 9] }, 3, none⟩,
    ⟨some 56, .binOp .geq 3 (.tmp 55) (.const (.int .i64 0)) 3, 4, none⟩,
    ⟨some 11, .assign (.tmp 56), 4, none⟩]
@[go_sem] def c3_13 : Cmd := .ops [⟨some 58, .move (.tmp 10), 3, none⟩,
    ⟨some 59, .binOp .eql 3 (.tmp 58) (.const (.int .i64 0)) 3, 4, none⟩,
    ⟨some 57, .assign (.tmp 59), 4, none⟩]
@[go_sem] def c3_14 : Cmd := .ops [⟨some 60, .move (.tmp 7), 26, none⟩,
    ⟨some 61, .move (.tmp 1), 22, none⟩,
    ⟨some 62, .move (.tmp 8), 3, none⟩,
    ⟨some 63, .indexAddr 22 (.tmp 61) (.tmp 62), 0, none⟩,
    ⟨some 64, .load 30 (.tmp 63), 30, none⟩,
    ⟨some 65, .call { callee := (.value (.func 17)), args := #[(.tmp 60), (.tmp 64)], argTypes := #[26, 30] }, 26, none⟩,
    ⟨some 7, .assign (.tmp 65), 26, none⟩]
@[go_sem] def c3_15 : Cmd := .ops [⟨some 67, .move (.tmp 10), 3, none⟩,
    ⟨some 68, .binOp .eql 3 (.tmp 67) (.const (.int .i64 80)) 3, 4, none⟩,
    ⟨some 66, .assign (.tmp 68), 4, none⟩]
@[go_sem] def c3_16 : Cmd := .ops [⟨some 69, .move (.tmp 1), 22, none⟩,
    ⟨some 70, .move (.tmp 8), 3, none⟩,
    ⟨some 71, .indexAddr 22 (.tmp 69) (.tmp 70), 0, none⟩,
    ⟨some 72, .fieldAddr 30 (.tmp 71) 0, 0, none⟩,
    ⟨some 73, .load 3 (.tmp 72), 3, none⟩,
    ⟨some 74, .binOp .neq 3 (.tmp 73) (.const (.int .i64 2)) 3, 4, none⟩,
    ⟨some 75, .move (.tmp 74), 4, none⟩,
    ⟨some 76, .move (.tmp 11), 4, some (75, false)⟩,
    ⟨some 77, .unOp .not 4 (.tmp 76), 4, some (75, false)⟩,
    ⟨some 78, .pick (.tmp 75) (.const (.bool true)) (.tmp 77), 4, none⟩,
    ⟨some 79, .move (.tmp 78), 4, none⟩,
    ⟨some 80, .move (.tmp 9), 3, some (79, false)⟩,
    ⟨some 81, .move (.tmp 1), 22, some (79, false)⟩,
    ⟨some 82, .move (.tmp 8), 3, some (79, false)⟩,
    ⟨some 83, .indexAddr 22 (.tmp 81) (.tmp 82), 0, some (79, false)⟩,
    ⟨some 84, .load 30 (.tmp 83), 30, some (79, false)⟩,
    ⟨some 85, .call { callee := (.value (.func 18)), args := #[(.tmp 84)], argTypes := #[30] }, 34, some (79, false)⟩,
    ⟨some 86, .call { callee := (.builtin .len), args := #[(.tmp 85)], argTypes := #[34] }, 3, some (79, false)⟩,
    ⟨some 87, .binOp .add 3 (.tmp 80) (.tmp 86) 3, 3, some (79, false)⟩,
    ⟨some 88, .move (.tmp 0), 3, some (79, false)⟩,
    ⟨some 89, .binOp .leq 3 (.tmp 87) (.tmp 88) 3, 4, some (79, false)⟩,
    ⟨some 90, .pick (.tmp 79) (.const (.bool true)) (.tmp 89), 4, none⟩]
@[go_sem] def c3_17 : Cmd := .ops [⟨some 4, .assign (.const (.bool false)), 4, none⟩]
@[go_sem] def c3_18 : Cmd := .cond (.tmp 90) (.seq c3_17 .ret) .skip
@[go_sem] def c3_19 : Cmd := .ops [⟨some 92, .move (.tmp 10), 3, none⟩,
    ⟨some 93, .binOp .eql 3 (.tmp 92) (.const (.int .i64 82)) 3, 4, none⟩,
    ⟨some 94, .move (.tmp 93), 4, none⟩,
    ⟨some 95, .move (.tmp 11), 4, some (94, true)⟩,
    ⟨some 96, .pick (.tmp 94) (.tmp 95) (.const (.bool false)), 4, none⟩,
    ⟨some 97, .move (.tmp 96), 4, none⟩,
    ⟨some 98, .move (.tmp 10), 3, some (97, false)⟩,
    ⟨some 99, .binOp .eql 3 (.tmp 98) (.const (.int .i64 83)) 3, 4, some (97, false)⟩,
    ⟨some 100, .move (.tmp 99), 4, some (97, false)⟩,
    ⟨some 101, .move (.tmp 11), 4, some (100, true)⟩,
    ⟨some 102, .unOp .not 4 (.tmp 101), 4, some (100, true)⟩,
    ⟨some 103, .move (.tmp 102), 4, some (100, true)⟩,
    ⟨some 104, .move (.tmp 1), 22, some (103, false)⟩,
    ⟨some 105, .move (.tmp 8), 3, some (103, false)⟩,
    ⟨some 106, .indexAddr 22 (.tmp 104) (.tmp 105), 0, some (103, false)⟩,
    ⟨some 107, .fieldAddr 30 (.tmp 106) 0, 0, some (103, false)⟩,
    ⟨some 108, .load 3 (.tmp 107), 3, some (103, false)⟩,
    ⟨some 109, .binOp .neq 3 (.tmp 108) (.const (.int .i64 1)) 3, 4, some (103, false)⟩,
    ⟨some 110, .pick (.tmp 103) (.const (.bool true)) (.tmp 109), 4, some (100, true)⟩,
    ⟨some 111, .pick (.tmp 100) (.tmp 110) (.const (.bool false)), 4, some (97, false)⟩,
    ⟨some 112, .pick (.tmp 97) (.const (.bool true)) (.tmp 111), 4, none⟩,
    ⟨some 113, .move (.tmp 112), 4, none⟩,
    ⟨some 114, .move (.tmp 10), 3, some (113, false)⟩,
    ⟨some 115, .binOp .neq 3 (.tmp 114) (.const (.int .i64 82)) 3, 4, some (113, false)⟩,
    ⟨some 116, .move (.tmp 115), 4, some (113, false)⟩,
    ⟨some 117, .move (.tmp 10), 3, some (116, true)⟩,
    ⟨some 118, .binOp .neq 3 (.tmp 117) (.const (.int .i64 83)) 3, 4, some (116, true)⟩,
    ⟨some 119, .pick (.tmp 116) (.tmp 118) (.const (.bool false)), 4, some (113, false)⟩,
    ⟨some 120, .pick (.tmp 113) (.const (.bool true)) (.tmp 119), 4, none⟩,
    ⟨some 91, .assign (.tmp 120), 4, none⟩]
@[go_sem] def c3_20 : Cmd := .ops [⟨some 4, .assign (.const (.bool false)), 4, none⟩]
@[go_sem] def c3_21 : Cmd := .cond (.tmp 91) (.seq c3_20 .ret) .skip
@[go_sem] def c3_22 : Cmd := .cond (.tmp 66) (.seq c3_16 c3_18) (.seq c3_19 c3_21)
@[go_sem] def c3_23 : Cmd := .cond (.tmp 57) c3_14 (.seq c3_15 c3_22)
@[go_sem] def c3_24 : Cmd := .block 2 (.seq c3_13 c3_23)
@[go_sem] def c3_25 : Cmd := .ops [⟨some 121, .move (.tmp 6), 24, none⟩,
    ⟨some 122, .move (.tmp 7), 26, none⟩,
    ⟨some 123, .call { callee := (.value (.func 19)), args := #[(.tmp 121), (.tmp 122)], argTypes := #[24, 26] }, 4, none⟩,
    ⟨some 5, .assign (.tmp 123), 4, none⟩]
@[go_sem] def c3_26 : Cmd := .ops [⟨some 124, .move (.tmp 5), 4, none⟩,
    ⟨some 125, .unOp .not 4 (.tmp 124), 4, none⟩,
    ⟨some 126, .move (.tmp 125), 4, none⟩,
    ⟨some 127, .move (.tmp 6), 24, some (126, false)⟩,
    ⟨some 128, .call { callee := (.value (.func 13)), args := #[(.tmp 127)], argTypes := #[24] }, 3, some (126, false)⟩,
    ⟨some 129, .move (.tmp 0), 3, some (126, false)⟩,
    ⟨some 130, .binOp .gtr 3 (.tmp 128) (.tmp 129) 3, 4, some (126, false)⟩,
    ⟨some 131, .pick (.tmp 126) (.const (.bool true)) (.tmp 130), 4, none⟩,
    ⟨some 132, .move (.tmp 131), 4, none⟩,
    ⟨some 133, .move (.tmp 6), 24, some (132, false)⟩,
    ⟨some 134, .call { callee := (.value (.func 13)), args := #[(.tmp 133)], argTypes := #[24] }, 3, some (132, false)⟩,
    ⟨some 135, .move (.tmp 9), 3, some (132, false)⟩,
    ⟨some 136, .binOp .lss 3 (.tmp 134) (.tmp 135) 3, 4, some (132, false)⟩,
    ⟨some 137, .move (.tmp 136), 4, some (132, false)⟩,
    ⟨some 138, .move (.tmp 1), 22, some (137, true)⟩,
    ⟨some 139, .move (.tmp 8), 3, some (137, true)⟩,
    ⟨some 140, .indexAddr 22 (.tmp 138) (.tmp 139), 0, some (137, true)⟩,
    ⟨some 141, .fieldAddr 30 (.tmp 140) 0, 0, some (137, true)⟩,
    ⟨some 142, .load 3 (.tmp 141), 3, some (137, true)⟩,
    ⟨some 143, .binOp .neq 3 (.tmp 142) (.const (.int .i64 6)) 3, 4, some (137, true)⟩,
    ⟨some 144, .pick (.tmp 137) (.tmp 143) (.const (.bool false)), 4, some (132, false)⟩,
    ⟨some 145, .pick (.tmp 132) (.const (.bool true)) (.tmp 144), 4, none⟩]
@[go_sem] def c3_27 : Cmd := .ops [⟨some 4, .assign (.const (.bool false)), 4, none⟩]
@[go_sem] def c3_28 : Cmd := .cond (.tmp 145) (.seq c3_27 .ret) .skip
@[go_sem] def c3_29 : Cmd := .block 1 (.seq c3_10 (.seq c3_11 (.seq c3_12 (.seq c3_24 (.seq c3_25 (.seq c3_26 c3_28))))))
@[go_sem] def c3_30 : Cmd := .ops [⟨some 38, .move (.tmp 8), 3, none⟩,
    ⟨some 39, .binOp .add 3 (.tmp 38) (.const (.int .i64 1)) 3, 3, none⟩,
    ⟨some 8, .assign (.tmp 39), 3, none⟩]
def c3_L0 : Cmd := (.seq (.seq c3_8 c3_9) (.seq c3_29 c3_30))
@[go_sem] def c3_31 : Cmd := .loop c3_L0
@[go_sem] def c3_32 : Cmd := .block 0 c3_31
@[go_sem] def c3_33 : Cmd := .ops [⟨some 4, .assign (.const (.bool true)), 4, none⟩]
@[go_sem] def c3 : Cmd := (.seq c3_0 (.seq c3_1 (.seq c3_2 (.seq (.seq c3_3 c3_5) (.seq c3_6 (.seq (.seq c3_7 c3_32) (.seq c3_33 .ret)))))))
theorem b3 : Try.f3.body.map (comp 146) = some c3 := by kernel_rfl
theorem r3 : Try.f3.results.toList = [.tmp 4] := by kernel_rfl
-- 4 pith/pithlaw8.FsOrder
@[go_sem] def c4_0 : Cmd := .ops [⟨some 4, .assign (.const (.bool false)), 4, none⟩]
@[go_sem] def c4_1 : Cmd := .ops [⟨some 22, .call { callee := (.value (.func 11)), args := #[], argTypes := #[] }, 4, none⟩,
    ⟨some 5, .assign (.tmp 22), 4, none⟩]
@[go_sem] def c4_2 : Cmd := .ops [⟨some 23, .call { callee := (.value (.func 12)), args := #[(.const (.int .i64 2147483647))], argTypes := #[3] }, 24, none⟩,
    ⟨some 6, .assign (.tmp 23), 24, none⟩]
@[go_sem] def c4_3 : Cmd := .ops [⟨some 24, .move (.tmp 5), 4, none⟩,
    ⟨some 25, .unOp .not 4 (.tmp 24), 4, none⟩,
    ⟨some 26, .move (.tmp 25), 4, none⟩,
    ⟨some 27, .move (.tmp 6), 24, some (26, false)⟩,
    ⟨some 28, .binOp .eql 24 (.tmp 27) (.const (.pointer none)) 24, 4, some (26, false)⟩,
    ⟨some 29, .pick (.tmp 26) (.const (.bool true)) (.tmp 28), 4, none⟩]
@[go_sem] def c4_4 : Cmd := .ops [⟨some 4, .assign (.const (.bool false)), 4, none⟩]
@[go_sem] def c4_5 : Cmd := .cond (.tmp 29) (.seq c4_4 .ret) .skip
@[go_sem] def c4_6 : Cmd := .ops [⟨some 7, .assign (.const (.slice none 0 0)), 26, none⟩]
@[go_sem] def c4_7 : Cmd := .ops [⟨some 8, .assign (.const (.slice none 0 0)), 26, none⟩]
@[go_sem] def c4_8 : Cmd := .ops [⟨some 9, .assign (.const (.slice none 0 0)), 26, none⟩]
@[go_sem] def c4_9 : Cmd := .ops [⟨some 10, .assign (.const (.int .i64 0)), 3, none⟩]
@[go_sem] def c4_10 : Cmd := .ops [⟨some 30, .move (.tmp 10), 3, none⟩,
    ⟨some 31, .move (.tmp 0), 22, none⟩,
    ⟨some 32, .call { callee := (.builtin .len), args := #[(.tmp 31)], argTypes := #[22] }, 3, none⟩,
    ⟨some 33, .binOp .lss 3 (.tmp 30) (.tmp 32) 3, 4, none⟩,
    ⟨some 34, .move (.tmp 33), 4, none⟩,
    ⟨some 35, .move (.tmp 10), 3, some (34, true)⟩,
    ⟨some 36, .binOp .lss 3 (.tmp 35) (.const (.int .i64 200)) 3, 4, some (34, true)⟩,
    ⟨some 37, .pick (.tmp 34) (.tmp 36) (.const (.bool false)), 4, none⟩]
@[go_sem] def c4_11 : Cmd := .cond (.tmp 37) .skip (.exit 0)
@[go_sem] def c4_12 : Cmd := .ops [⟨some 40, .move (.tmp 0), 22, none⟩,
    ⟨some 41, .move (.tmp 10), 3, none⟩,
    ⟨some 42, .indexAddr 22 (.tmp 40) (.tmp 41), 0, none⟩,
    ⟨some 43, .load 30 (.tmp 42), 30, none⟩,
    ⟨some 11, .alloc 30, 0, none⟩,
    ⟨none, .store 30 (.tmp 11) (.tmp 43), 0, none⟩]
@[go_sem] def c4_13 : Cmd := .ops [⟨some 44, .fieldAddr 30 (.tmp 11) 0, 0, none⟩,
    ⟨some 45, .load 3 (.tmp 44), 3, none⟩,
    ⟨some 46, .binOp .eql 3 (.tmp 45) (.const (.int .i64 2)) 3, 4, none⟩,
    ⟨some 47, .move (.tmp 46), 4, none⟩,
    ⟨some 48, .fieldAddr 30 (.tmp 11) 0, 0, some (47, false)⟩,
    ⟨some 49, .load 3 (.tmp 48), 3, some (47, false)⟩,
    ⟨some 50, .binOp .eql 3 (.tmp 49) (.const (.int .i64 3)) 3, 4, some (47, false)⟩,
    ⟨some 51, .pick (.tmp 47) (.const (.bool true)) (.tmp 50), 4, none⟩]
@[go_sem] def c4_14 : Cmd := .ops [⟨some 52, .fieldAddr 30 (.tmp 11) 0, 0, none⟩,
    ⟨none, .store 3 (.tmp 52) (.const (.int .i64 1)), 0, none⟩]
@[go_sem] def c4_15 : Cmd := .cond (.tmp 51) c4_14 .skip
@[go_sem] def c4_16 : Cmd := .ops [⟨some 53, .move (.tmp 7), 26, none⟩,
    ⟨some 54, .fieldAddr 30 (.tmp 11) 1, 0, none⟩,
    ⟨some 55, .load 3 (.tmp 54), 3, none⟩,
    ⟨some 56, .call { callee := (.value (.func 16)), args := #[(.tmp 55)], argTypes := #[3] }, 9, none⟩,
    ⟨some 57, .call { callee := (.value (.func 15)), args := #[(.tmp 53), (.tmp 56)], argTypes := #[26, 9] }, 3, none⟩,
    ⟨some 12, .assign (.tmp 57), 3, none⟩]
@[go_sem] def c4_17 : Cmd := .ops [⟨some 58, .move (.tmp 6), 24, none⟩,
    ⟨some 59, .load 30 (.tmp 11), 30, none⟩,
    ⟨some 60, .call { callee := (.value (.func 14)), args := #[(.tmp 58), (.tmp 59)], argTypes := #[24, 30] }, 3, none⟩,
    ⟨some 13, .assign (.tmp 60), 3, none⟩]
@[go_sem] def c4_18 : Cmd := .ops [⟨some 61, .move (.tmp 13), 3, none⟩,
    ⟨some 62, .binOp .neq 3 (.tmp 61) (.const (.int .i64 0)) 3, 4, none⟩,
    ⟨some 63, .move (.tmp 62), 4, none⟩,
    ⟨some 64, .fieldAddr 30 (.tmp 11) 0, 0, some (63, false)⟩,
    ⟨some 65, .load 3 (.tmp 64), 3, some (63, false)⟩,
    ⟨some 66, .binOp .lss 3 (.tmp 65) (.const (.int .i64 1)) 3, 4, some (63, false)⟩,
    ⟨some 67, .pick (.tmp 63) (.const (.bool true)) (.tmp 66), 4, none⟩,
    ⟨some 68, .move (.tmp 67), 4, none⟩,
    ⟨some 69, .fieldAddr 30 (.tmp 11) 0, 0, some (68, false)⟩,
    ⟨some 70, .load 3 (.tmp 69), 3, some (68, false)⟩,
    ⟨some 71, .binOp .gtr 3 (.tmp 70) (.const (.int .i64 6)) 3, 4, some (68, false)⟩,
    ⟨some 72, .pick (.tmp 68) (.const (.bool true)) (.tmp 71), 4, none⟩]
@[go_sem] def c4_19 : Cmd := .cond (.tmp 72) (.exit 1) .skip
@[go_sem] def c4_20 : Cmd := .ops [⟨some 73, .move (.tmp 10), 3, none⟩,
    ⟨some 74, .convert 3 5 (.tmp 73), 5, none⟩,
    ⟨some 75, .move (.tmp 10), 3, none⟩,
    ⟨some 76, .binOp .shr 3 (.tmp 75) (.const (.int .u64 8)) 38, 3, none⟩,
    ⟨some 77, .convert 3 5 (.tmp 76), 5, none⟩,
    ⟨some 78, .buildSlice 34 3 #[(0, (.tmp 74)), (1, (.tmp 77)), (2, (.const (.int .u8 7)))], 34, none⟩,
    ⟨some 14, .assign (.tmp 78), 34, none⟩]
@[go_sem] def c4_21 : Cmd := .ops [⟨some 79, .fieldAddr 30 (.tmp 11) 0, 0, none⟩,
    ⟨some 80, .load 3 (.tmp 79), 3, none⟩]
@[go_sem] def c4_22 : Cmd := .ops [⟨some 100, .binOp .eql 3 (.tmp 80) (.const (.int .i64 1)) 3, 4, none⟩,
    ⟨some 99, .assign (.tmp 100), 4, none⟩]
@[go_sem] def c4_23 : Cmd := .ops [⟨some 101, .move (.tmp 6), 24, none⟩,
    ⟨some 102, .fieldAddr 30 (.tmp 11) 1, 0, none⟩,
    ⟨some 103, .load 3 (.tmp 102), 3, none⟩,
    ⟨some 104, .call { callee := (.value (.func 16)), args := #[(.tmp 103)], argTypes := #[3] }, 9, none⟩,
    ⟨some 105, .move (.tmp 14), 34, none⟩,
    ⟨some 106, .call { callee := (.value (.func 20)), args := #[(.tmp 101), (.tmp 104), (.tmp 105)], argTypes := #[24, 9, 34] }, 39, none⟩,
    ⟨some 15, .assign (.tmp 106), 39, none⟩]
@[go_sem] def c4_24 : Cmd := .ops [⟨some 107, .move (.tmp 6), 24, none⟩,
    ⟨some 108, .fieldAddr 30 (.tmp 11) 1, 0, none⟩,
    ⟨some 109, .load 3 (.tmp 108), 3, none⟩,
    ⟨some 110, .call { callee := (.value (.func 16)), args := #[(.tmp 109)], argTypes := #[3] }, 9, none⟩,
    ⟨some 111, .call { callee := (.value (.func 21)), args := #[(.tmp 107), (.tmp 110)], argTypes := #[24, 9] }, 39, none⟩,
    ⟨some 16, .assign (.tmp 111), 39, none⟩]
@[go_sem] def c4_25 : Cmd := .ops [⟨some 112, .move (.tmp 15), 39, none⟩,
    ⟨some 113, .call { callee := (.value (.func 22)), args := #[(.tmp 112)], argTypes := #[39] }, 3, none⟩,
    ⟨some 114, .move (.tmp 16), 39, none⟩,
    ⟨some 115, .call { callee := (.value (.func 22)), args := #[(.tmp 114)], argTypes := #[39] }, 3, none⟩,
    ⟨some 116, .binOp .add 3 (.tmp 113) (.tmp 115) 3, 3, none⟩,
    ⟨some 117, .binOp .neq 3 (.tmp 116) (.const (.int .i64 0)) 3, 4, none⟩,
    ⟨some 118, .move (.tmp 117), 4, none⟩,
    ⟨some 119, .move (.tmp 12), 3, some (118, false)⟩,
    ⟨some 120, .binOp .geq 3 (.tmp 119) (.const (.int .i64 0)) 3, 4, some (118, false)⟩,
    ⟨some 121, .pick (.tmp 118) (.const (.bool true)) (.tmp 120), 4, none⟩]
@[go_sem] def c4_26 : Cmd := .ops [⟨some 4, .assign (.const (.bool false)), 4, none⟩]
@[go_sem] def c4_27 : Cmd := .cond (.tmp 121) (.seq c4_26 .ret) .skip
@[go_sem] def c4_28 : Cmd := .ops [⟨some 122, .move (.tmp 9), 26, none⟩,
    ⟨some 123, .fieldAddr 30 (.tmp 11) 1, 0, none⟩,
    ⟨some 124, .load 3 (.tmp 123), 3, none⟩,
    ⟨some 125, .call { callee := (.value (.func 16)), args := #[(.tmp 124)], argTypes := #[3] }, 9, none⟩,
    ⟨some 126, .move (.tmp 14), 34, none⟩,
    ⟨some 127, .build 44 #[(0, (.tmp 125)), (1, (.tmp 126))], 44, none⟩,
    ⟨some 128, .buildSlice 26 1 #[(0, (.tmp 127))], 26, none⟩,
    ⟨some 129, .call { callee := (.builtin .append), args := #[(.tmp 122), (.tmp 128)], argTypes := #[26, 26] }, 26, none⟩,
    ⟨some 9, .assign (.tmp 129), 26, none⟩]
@[go_sem] def c4_29 : Cmd := .ops [⟨some 131, .binOp .eql 3 (.tmp 80) (.const (.int .i64 6)) 3, 4, none⟩,
    ⟨some 130, .assign (.tmp 131), 4, none⟩]
@[go_sem] def c4_30 : Cmd := .ops [⟨some 9, .assign (.const (.slice none 0 0)), 26, none⟩]
@[go_sem] def c4_31 : Cmd := .ops [⟨some 132, .move (.tmp 7), 26, none⟩,
    ⟨some 8, .assign (.tmp 132), 26, none⟩]
@[go_sem] def c4_32 : Cmd := .ops [⟨some 81, .move (.tmp 12), 3, none⟩,
    ⟨some 82, .binOp .lss 3 (.tmp 81) (.const (.int .i64 0)) 3, 4, none⟩]
@[go_sem] def c4_33 : Cmd := .ops [⟨some 4, .assign (.const (.bool false)), 4, none⟩]
@[go_sem] def c4_34 : Cmd := .cond (.tmp 82) (.seq c4_33 .ret) .skip
@[go_sem] def c4_35 : Cmd := .ops [⟨some 17, .assign (.const (.string ⟨#[]⟩)), 9, none⟩]
@[go_sem] def c4_36 : Cmd := .ops [⟨some 83, .fieldAddr 30 (.tmp 11) 0, 0, none⟩,
    ⟨some 84, .load 3 (.tmp 83), 3, none⟩,
    ⟨some 85, .binOp .eql 3 (.tmp 84) (.const (.int .i64 4)) 3, 4, none⟩]
@[go_sem] def c4_37 : Cmd := .ops [⟨some 86, .fieldAddr 30 (.tmp 11) 2, 0, none⟩,
    ⟨some 87, .load 3 (.tmp 86), 3, none⟩,
    ⟨some 88, .call { callee := (.value (.func 16)), args := #[(.tmp 87)], argTypes := #[3] }, 9, none⟩,
    ⟨some 17, .assign (.tmp 88), 9, none⟩]
@[go_sem] def c4_38 : Cmd := .cond (.tmp 85) c4_37 .skip
@[go_sem] def c4_39 : Cmd := .ops [⟨some 89, .move (.tmp 9), 26, none⟩,
    ⟨some 90, .move (.tmp 17), 9, none⟩,
    ⟨some 91, .move (.tmp 7), 26, none⟩,
    ⟨some 92, .move (.tmp 12), 3, none⟩,
    ⟨some 93, .indexAddr 26 (.tmp 91) (.tmp 92), 0, none⟩,
    ⟨some 94, .fieldAddr 44 (.tmp 93) 1, 0, none⟩,
    ⟨some 95, .load 34 (.tmp 94), 34, none⟩,
    ⟨some 96, .build 44 #[(0, (.tmp 90)), (1, (.tmp 95))], 44, none⟩,
    ⟨some 97, .buildSlice 26 1 #[(0, (.tmp 96))], 26, none⟩,
    ⟨some 98, .call { callee := (.builtin .append), args := #[(.tmp 89), (.tmp 97)], argTypes := #[26, 26] }, 26, none⟩,
    ⟨some 9, .assign (.tmp 98), 26, none⟩]
@[go_sem] def c4_40 : Cmd := .cond (.tmp 130) (.seq c4_30 (.seq c4_31 (.exit 1))) (.seq (.seq c4_32 c4_34) (.seq c4_35 (.seq (.seq c4_36 c4_38) c4_39)))
@[go_sem] def c4_41 : Cmd := .cond (.tmp 99) (.seq c4_23 (.seq c4_24 (.seq (.seq c4_25 c4_27) c4_28))) (.seq c4_29 c4_40)
@[go_sem] def c4_42 : Cmd := .block 2 (.seq c4_22 c4_41)
@[go_sem] def c4_43 : Cmd := .ops [⟨some 133, .move (.tmp 9), 26, none⟩,
    ⟨some 134, .move (.tmp 9), 26, none⟩,
    ⟨some 135, .call { callee := (.builtin .len), args := #[(.tmp 134)], argTypes := #[26] }, 3, none⟩,
    ⟨some 136, .binOp .sub 3 (.tmp 135) (.const (.int .i64 1)) 3, 3, none⟩,
    ⟨some 137, .indexAddr 26 (.tmp 133) (.tmp 136), 0, none⟩,
    ⟨some 138, .load 44 (.tmp 137), 44, none⟩,
    ⟨some 18, .alloc 44, 0, none⟩,
    ⟨none, .store 44 (.tmp 18) (.tmp 138), 0, none⟩]
@[go_sem] def c4_44 : Cmd := .ops [⟨some 139, .move (.tmp 7), 26, none⟩,
    ⟨some 140, .fieldAddr 44 (.tmp 18) 1, 0, none⟩,
    ⟨some 141, .load 34 (.tmp 140), 34, none⟩,
    ⟨some 142, .fieldAddr 44 (.tmp 18) 0, 0, none⟩,
    ⟨some 143, .load 9 (.tmp 142), 9, none⟩,
    ⟨some 144, .call { callee := (.value (.func 23)), args := #[(.tmp 139), (.tmp 141), (.tmp 143)], argTypes := #[26, 34, 9] }, 26, none⟩,
    ⟨some 7, .assign (.tmp 144), 26, none⟩]
@[go_sem] def c4_45 : Cmd := .block 1 (.seq c4_12 (.seq (.seq c4_13 c4_15) (.seq c4_16 (.seq c4_17 (.seq (.seq c4_18 c4_19) (.seq c4_20 (.seq (.seq c4_21 c4_42) (.seq c4_43 c4_44))))))))
@[go_sem] def c4_46 : Cmd := .ops [⟨some 38, .move (.tmp 10), 3, none⟩,
    ⟨some 39, .binOp .add 3 (.tmp 38) (.const (.int .i64 1)) 3, 3, none⟩,
    ⟨some 10, .assign (.tmp 39), 3, none⟩]
def c4_L0 : Cmd := (.seq (.seq c4_10 c4_11) (.seq c4_45 c4_46))
@[go_sem] def c4_47 : Cmd := .loop c4_L0
@[go_sem] def c4_48 : Cmd := .block 0 c4_47
@[go_sem] def c4_49 : Cmd := .ops [⟨some 145, .move (.tmp 6), 24, none⟩,
    ⟨some 146, .move (.tmp 7), 26, none⟩,
    ⟨some 147, .call { callee := (.value (.func 19)), args := #[(.tmp 145), (.tmp 146)], argTypes := #[24, 26] }, 4, none⟩,
    ⟨some 19, .assign (.tmp 147), 4, none⟩]
@[go_sem] def c4_50 : Cmd := .ops [⟨some 148, .move (.tmp 6), 24, none⟩,
    ⟨some 149, .call { callee := (.value (.func 24)), args := #[(.tmp 148)], argTypes := #[24] }, 3, none⟩,
    ⟨some 20, .assign (.tmp 149), 3, none⟩]
@[go_sem] def c4_51 : Cmd := .ops [⟨some 150, .move (.tmp 6), 24, none⟩,
    ⟨some 151, .move (.tmp 1), 3, none⟩,
    ⟨some 152, .call { callee := (.value (.func 25)), args := #[(.tmp 150), (.tmp 151), (.const (.slice none 0 0))], argTypes := #[24, 3, 62] }, 0, none⟩]
@[go_sem] def c4_52 : Cmd := .ops [⟨some 21, .assign (.const (.int .i64 0)), 3, none⟩]
@[go_sem] def c4_53 : Cmd := .ops [⟨some 153, .move (.tmp 21), 3, none⟩,
    ⟨some 154, .move (.tmp 9), 26, none⟩,
    ⟨some 155, .call { callee := (.builtin .len), args := #[(.tmp 154)], argTypes := #[26] }, 3, none⟩,
    ⟨some 156, .binOp .lss 3 (.tmp 153) (.tmp 155) 3, 4, none⟩]
@[go_sem] def c4_54 : Cmd := .cond (.tmp 156) .skip (.exit 3)
@[go_sem] def c4_55 : Cmd := .ops [⟨some 159, .move (.tmp 1), 3, none⟩,
    ⟨some 160, .move (.tmp 21), 3, none⟩,
    ⟨some 161, .call { callee := (.builtin .min), args := #[(.tmp 160), (.const (.int .i64 63))], argTypes := #[3, 3] }, 3, none⟩,
    ⟨some 162, .convert 3 38 (.tmp 161), 38, none⟩,
    ⟨some 163, .binOp .shr 3 (.tmp 159) (.tmp 162) 38, 3, none⟩,
    ⟨some 164, .binOp .and 3 (.tmp 163) (.const (.int .i64 1)) 3, 3, none⟩,
    ⟨some 165, .binOp .eql 3 (.tmp 164) (.const (.int .i64 1)) 3, 4, none⟩]
@[go_sem] def c4_56 : Cmd := .still 11 [⟨some 166, .move (.tmp 8), 26, none⟩,
    ⟨some 167, .move (.tmp 9), 26, none⟩,
    ⟨some 168, .move (.tmp 21), 3, none⟩,
    ⟨some 169, .indexAddr 26 (.tmp 167) (.tmp 168), 0, none⟩,
    ⟨some 170, .fieldAddr 44 (.tmp 169) 1, 0, none⟩,
    ⟨some 171, .load 34 (.tmp 170), 34, none⟩,
    ⟨some 172, .move (.tmp 9), 26, none⟩,
    ⟨some 173, .move (.tmp 21), 3, none⟩,
    ⟨some 174, .indexAddr 26 (.tmp 172) (.tmp 173), 0, none⟩,
    ⟨some 175, .fieldAddr 44 (.tmp 174) 0, 0, none⟩,
    ⟨some 176, .load 9 (.tmp 175), 9, none⟩,
    ⟨some 177, .call { callee := (.value (.func 23)), args := #[(.tmp 166), (.tmp 171), (.tmp 176)], argTypes := #[26, 34, 9] }, 26, none⟩,
    ⟨some 8, .assign (.tmp 177), 26, none⟩]
@[go_sem] def c4_57 : Cmd := .cond (.tmp 165) c4_56 .skip
@[go_sem] def c4_58 : Cmd := .block 4 (.seq c4_55 c4_57)
@[go_sem] def c4_59 : Cmd := .ops [⟨some 157, .move (.tmp 21), 3, none⟩,
    ⟨some 158, .binOp .add 3 (.tmp 157) (.const (.int .i64 1)) 3, 3, none⟩,
    ⟨some 21, .assign (.tmp 158), 3, none⟩]
def c4_L1 : Cmd := (.seq (.seq c4_53 c4_54) (.seq c4_58 c4_59))
@[go_sem] def c4_60 : Cmd := .loop c4_L1
@[go_sem] def c4_61 : Cmd := .block 3 c4_60
@[go_sem] def c4_62 : Cmd := .ops [⟨some 178, .move (.tmp 19), 4, none⟩,
    ⟨some 179, .move (.tmp 178), 4, none⟩,
    ⟨some 180, .move (.tmp 20), 3, some (179, true)⟩,
    ⟨some 181, .move (.tmp 9), 26, some (179, true)⟩,
    ⟨some 182, .call { callee := (.builtin .len), args := #[(.tmp 181)], argTypes := #[26] }, 3, some (179, true)⟩,
    ⟨some 183, .binOp .eql 3 (.tmp 180) (.tmp 182) 3, 4, some (179, true)⟩,
    ⟨some 184, .pick (.tmp 179) (.tmp 183) (.const (.bool false)), 4, none⟩,
    ⟨some 185, .move (.tmp 184), 4, none⟩,
    ⟨some 186, .move (.tmp 6), 24, some (185, true)⟩,
    ⟨some 187, .move (.tmp 8), 26, some (185, true)⟩,
    ⟨some 188, .call { callee := (.value (.func 19)), args := #[(.tmp 186), (.tmp 187)], argTypes := #[24, 26] }, 4, some (185, true)⟩,
    ⟨some 189, .pick (.tmp 185) (.tmp 188) (.const (.bool false)), 4, none⟩,
    ⟨some 4, .assign (.tmp 189), 4, none⟩]
@[go_sem] def c4 : Cmd := (.seq c4_0 (.seq c4_1 (.seq c4_2 (.seq (.seq c4_3 c4_5) (.seq c4_6 (.seq c4_7 (.seq c4_8 (.seq (.seq c4_9 c4_48) (.seq c4_49 (.seq c4_50 (.seq c4_51 (.seq (.seq c4_52 c4_61) (.seq c4_62 .ret)))))))))))))
theorem b4 : Try.f4.body.map (comp 190) = some c4 := by kernel_rfl
theorem r4 : Try.f4.results.toList = [.tmp 4] := by kernel_rfl
-- 5 pith/pithlaw8.FsNew
@[go_sem] def c5_0 : Cmd := .ops [⟨some 2, .assign (.const (.bool false)), 4, none⟩]
@[go_sem] def c5_1 : Cmd := .ops [⟨some 6, .call { callee := (.value (.func 11)), args := #[], argTypes := #[] }, 4, none⟩,
    ⟨some 3, .assign (.tmp 6), 4, none⟩]
@[go_sem] def c5_2 : Cmd := .ops [⟨some 7, .move (.tmp 0), 3, none⟩,
    ⟨some 8, .call { callee := (.value (.func 12)), args := #[(.tmp 7)], argTypes := #[3] }, 24, none⟩,
    ⟨some 9, .move (.tmp 0), 3, none⟩,
    ⟨some 10, .call { callee := (.value (.func 26)), args := #[(.tmp 9)], argTypes := #[3] }, 48, none⟩,
    ⟨some 11, .build 51 #[(0, (.tmp 8)), (1, (.tmp 10))], 51, none⟩,
    ⟨some 4, .alloc 51, 0, none⟩,
    ⟨none, .store 51 (.tmp 4) (.tmp 11), 0, none⟩]
@[go_sem] def c5_3 : Cmd := .ops [⟨some 12, .fieldAddr 51 (.tmp 4) 0, 0, none⟩,
    ⟨some 13, .load 24 (.tmp 12), 24, none⟩,
    ⟨some 14, .binOp .eql 24 (.tmp 13) (.const (.pointer none)) 24, 4, none⟩,
    ⟨some 15, .move (.tmp 14), 4, none⟩,
    ⟨some 16, .fieldAddr 51 (.tmp 4) 1, 0, some (15, false)⟩,
    ⟨some 17, .load 48 (.tmp 16), 48, some (15, false)⟩,
    ⟨some 18, .binOp .eql 48 (.tmp 17) (.const (.pointer none)) 48, 4, some (15, false)⟩,
    ⟨some 19, .pick (.tmp 15) (.const (.bool true)) (.tmp 18), 4, none⟩]
@[go_sem] def c5_4 : Cmd := .ops [⟨some 20, .move (.tmp 3), 4, none⟩,
    ⟨some 21, .move (.tmp 20), 4, none⟩,
    ⟨some 22, .fieldAddr 51 (.tmp 4) 0, 0, some (21, true)⟩,
    ⟨some 23, .load 24 (.tmp 22), 24, some (21, true)⟩,
    ⟨some 24, .binOp .eql 24 (.tmp 23) (.const (.pointer none)) 24, 4, some (21, true)⟩,
    ⟨some 25, .pick (.tmp 21) (.tmp 24) (.const (.bool false)), 4, none⟩,
    ⟨some 26, .move (.tmp 25), 4, none⟩,
    ⟨some 27, .fieldAddr 51 (.tmp 4) 1, 0, some (26, true)⟩,
    ⟨some 28, .load 48 (.tmp 27), 48, some (26, true)⟩,
    ⟨some 29, .binOp .eql 48 (.tmp 28) (.const (.pointer none)) 48, 4, some (26, true)⟩,
    ⟨some 30, .pick (.tmp 26) (.tmp 29) (.const (.bool false)), 4, none⟩,
    ⟨some 2, .assign (.tmp 30), 4, none⟩]
@[go_sem] def c5_5 : Cmd := .cond (.tmp 19) (.seq c5_4 .ret) .skip
@[go_sem] def c5_6 : Cmd := .ops [⟨some 31, .load 51 (.tmp 4), 51, none⟩,
    ⟨some 32, .call { callee := (.value (.func 27)), args := #[(.tmp 31)], argTypes := #[51] }, 4, none⟩,
    ⟨some 5, .assign (.tmp 32), 4, none⟩]
@[go_sem] def c5_7 : Cmd := .ops [⟨some 33, .move (.tmp 3), 4, none⟩,
    ⟨some 34, .move (.tmp 33), 4, none⟩,
    ⟨some 35, .move (.tmp 5), 4, some (34, true)⟩,
    ⟨some 36, .pick (.tmp 34) (.tmp 35) (.const (.bool false)), 4, none⟩,
    ⟨some 2, .assign (.tmp 36), 4, none⟩]
@[go_sem] def c5 : Cmd := (.seq c5_0 (.seq c5_1 (.seq c5_2 (.seq (.seq c5_3 c5_5) (.seq c5_6 (.seq c5_7 .ret))))))
theorem b5 : Try.f5.body.map (comp 37) = some c5 := by kernel_rfl
theorem r5 : Try.f5.results.toList = [.tmp 2] := by kernel_rfl
-- 6 pith/pithlaw8.FsArms
@[go_sem] def c6_0 : Cmd := .ops [⟨some 6, .assign (.const (.bool false)), 4, none⟩]
@[go_sem] def c6_1 : Cmd := .ops [⟨some 21, .call { callee := (.value (.func 11)), args := #[], argTypes := #[] }, 4, none⟩,
    ⟨some 7, .assign (.tmp 21), 4, none⟩]
@[go_sem] def c6_2 : Cmd := .ops [⟨some 22, .call { callee := (.value (.func 12)), args := #[(.const (.int .i64 2147483647))], argTypes := #[3] }, 24, none⟩,
    ⟨some 8, .assign (.tmp 22), 24, none⟩]
@[go_sem] def c6_3 : Cmd := .ops [⟨some 23, .move (.tmp 7), 4, none⟩,
    ⟨some 24, .unOp .not 4 (.tmp 23), 4, none⟩,
    ⟨some 25, .move (.tmp 24), 4, none⟩,
    ⟨some 26, .move (.tmp 8), 24, some (25, false)⟩,
    ⟨some 27, .binOp .eql 24 (.tmp 26) (.const (.pointer none)) 24, 4, some (25, false)⟩,
    ⟨some 28, .pick (.tmp 25) (.const (.bool true)) (.tmp 27), 4, none⟩,
    ⟨some 29, .move (.tmp 28), 4, none⟩,
    ⟨some 30, .move (.tmp 1), 3, some (29, false)⟩,
    ⟨some 31, .binOp .lss 3 (.tmp 30) (.const (.int .i64 1)) 3, 4, some (29, false)⟩,
    ⟨some 32, .pick (.tmp 29) (.const (.bool true)) (.tmp 31), 4, none⟩]
@[go_sem] def c6_4 : Cmd := .ops [⟨some 33, .move (.tmp 7), 4, none⟩,
    ⟨some 34, .move (.tmp 33), 4, none⟩,
    ⟨some 35, .move (.tmp 8), 24, some (34, true)⟩,
    ⟨some 36, .binOp .neq 24 (.tmp 35) (.const (.pointer none)) 24, 4, some (34, true)⟩,
    ⟨some 37, .pick (.tmp 34) (.tmp 36) (.const (.bool false)), 4, none⟩,
    ⟨some 6, .assign (.tmp 37), 4, none⟩]
@[go_sem] def c6_5 : Cmd := .cond (.tmp 32) (.seq c6_4 .ret) .skip
@[go_sem] def c6_6 : Cmd := .ops [⟨some 38, .move (.tmp 8), 24, none⟩,
    ⟨some 39, .move (.tmp 2), 3, none⟩,
    ⟨some 40, .binOp .and 3 (.tmp 39) (.const (.int .i64 255)) 3, 3, none⟩,
    ⟨some 41, .call { callee := (.value (.func 28)), args := #[(.tmp 38), (.tmp 40)], argTypes := #[24, 3] }, 39, none⟩,
    ⟨some 9, .assign (.tmp 41), 39, none⟩]
@[go_sem] def c6_7 : Cmd := .ops [⟨some 42, .move (.tmp 8), 24, none⟩,
    ⟨some 43, .move (.tmp 1), 3, none⟩,
    ⟨some 44, .call { callee := (.value (.func 28)), args := #[(.tmp 42), (.tmp 43)], argTypes := #[24, 3] }, 39, none⟩,
    ⟨some 10, .assign (.tmp 44), 39, none⟩]
@[go_sem] def c6_8 : Cmd := .ops [⟨some 11, .assign (.const (.int .i64 0)), 3, none⟩]
@[go_sem] def c6_9 : Cmd := .ops [⟨some 12, .assign (.const (.int .i64 0)), 3, none⟩]
@[go_sem] def c6_10 : Cmd := .ops [⟨some 45, .move (.tmp 12), 3, none⟩,
    ⟨some 46, .move (.tmp 0), 22, none⟩,
    ⟨some 47, .call { callee := (.builtin .len), args := #[(.tmp 46)], argTypes := #[22] }, 3, none⟩,
    ⟨some 48, .binOp .lss 3 (.tmp 45) (.tmp 47) 3, 4, none⟩,
    ⟨some 49, .move (.tmp 48), 4, none⟩,
    ⟨some 50, .move (.tmp 12), 3, some (49, true)⟩,
    ⟨some 51, .binOp .lss 3 (.tmp 50) (.const (.int .i64 300)) 3, 4, some (49, true)⟩,
    ⟨some 52, .pick (.tmp 49) (.tmp 51) (.const (.bool false)), 4, none⟩]
@[go_sem] def c6_11 : Cmd := .cond (.tmp 52) .skip (.exit 0)
@[go_sem] def c6_12 : Cmd := .ops [⟨some 55, .move (.tmp 0), 22, none⟩,
    ⟨some 56, .move (.tmp 12), 3, none⟩,
    ⟨some 57, .indexAddr 22 (.tmp 55) (.tmp 56), 0, none⟩,
    ⟨some 58, .fieldAddr 30 (.tmp 57) 0, 0, none⟩,
    ⟨some 59, .load 3 (.tmp 58), 3, none⟩,
    ⟨some 60, .binOp .lss 3 (.tmp 59) (.const (.int .i64 1)) 3, 4, none⟩,
    ⟨some 61, .move (.tmp 60), 4, none⟩,
    ⟨some 62, .move (.tmp 0), 22, some (61, false)⟩,
    ⟨some 63, .move (.tmp 12), 3, some (61, false)⟩,
    ⟨some 64, .indexAddr 22 (.tmp 62) (.tmp 63), 0, some (61, false)⟩,
    ⟨some 65, .fieldAddr 30 (.tmp 64) 0, 0, some (61, false)⟩,
    ⟨some 66, .load 3 (.tmp 65), 3, some (61, false)⟩,
    ⟨some 67, .binOp .gtr 3 (.tmp 66) (.const (.int .i64 6)) 3, 4, some (61, false)⟩,
    ⟨some 68, .pick (.tmp 61) (.const (.bool true)) (.tmp 67), 4, none⟩]
@[go_sem] def c6_13 : Cmd := .cond (.tmp 68) (.exit 1) .skip
@[go_sem] def c6_14 : Cmd := .ops [⟨some 69, .move (.tmp 8), 24, none⟩,
    ⟨some 70, .move (.tmp 0), 22, none⟩,
    ⟨some 71, .move (.tmp 12), 3, none⟩,
    ⟨some 72, .indexAddr 22 (.tmp 70) (.tmp 71), 0, none⟩,
    ⟨some 73, .load 30 (.tmp 72), 30, none⟩,
    ⟨some 74, .call { callee := (.value (.func 14)), args := #[(.tmp 69), (.tmp 73)], argTypes := #[24, 30] }, 3, none⟩,
    ⟨some 13, .assign (.tmp 74), 3, none⟩]
@[go_sem] def c6_15 : Cmd := .ops [⟨some 76, .move (.tmp 11), 3, none⟩,
    ⟨some 77, .move (.tmp 1), 3, none⟩,
    ⟨some 78, .binOp .geq 3 (.tmp 76) (.tmp 77) 3, 4, none⟩,
    ⟨some 75, .assign (.tmp 78), 4, none⟩]
@[go_sem] def c6_16 : Cmd := .ops [⟨some 79, .move (.tmp 13), 3, none⟩,
    ⟨some 80, .binOp .neq 3 (.tmp 79) (.const (.int .i64 81)) 3, 4, none⟩,
    ⟨some 81, .move (.tmp 80), 4, none⟩,
    ⟨some 82, .move (.tmp 8), 24, some (81, false)⟩,
    ⟨some 83, .call { callee := (.value (.func 29)), args := #[(.tmp 82)], argTypes := #[24] }, 4, some (81, false)⟩,
    ⟨some 84, .pick (.tmp 81) (.const (.bool true)) (.tmp 83), 4, none⟩]
@[go_sem] def c6_17 : Cmd := .ops [⟨some 6, .assign (.const (.bool false)), 4, none⟩]
@[go_sem] def c6_18 : Cmd := .cond (.tmp 84) (.seq c6_17 .ret) .skip
@[go_sem] def c6_19 : Cmd := .ops [⟨some 86, .move (.tmp 13), 3, none⟩,
    ⟨some 87, .binOp .eql 3 (.tmp 86) (.const (.int .i64 0)) 3, 4, none⟩,
    ⟨some 88, .move (.tmp 87), 4, none⟩,
    ⟨some 89, .move (.tmp 13), 3, some (88, false)⟩,
    ⟨some 90, .binOp .eql 3 (.tmp 89) (.const (.int .i64 81)) 3, 4, some (88, false)⟩,
    ⟨some 91, .pick (.tmp 88) (.const (.bool true)) (.tmp 90), 4, none⟩,
    ⟨some 85, .assign (.tmp 91), 4, none⟩]
@[go_sem] def c6_20 : Cmd := .ops [⟨some 92, .move (.tmp 11), 3, none⟩,
    ⟨some 93, .binOp .add 3 (.tmp 92) (.const (.int .i64 1)) 3, 3, none⟩,
    ⟨some 11, .assign (.tmp 93), 3, none⟩]
@[go_sem] def c6_21 : Cmd := .ops [⟨some 94, .move (.tmp 13), 3, none⟩,
    ⟨some 95, .binOp .eql 3 (.tmp 94) (.const (.int .i64 81)) 3, 4, none⟩,
    ⟨some 96, .move (.tmp 11), 3, none⟩,
    ⟨some 97, .move (.tmp 1), 3, none⟩,
    ⟨some 98, .binOp .eql 3 (.tmp 96) (.tmp 97) 3, 4, none⟩,
    ⟨some 99, .binOp .neq 4 (.tmp 95) (.tmp 98) 4, 4, none⟩,
    ⟨some 100, .move (.tmp 99), 4, none⟩,
    ⟨some 101, .move (.tmp 8), 24, some (100, false)⟩,
    ⟨some 102, .call { callee := (.value (.func 29)), args := #[(.tmp 101)], argTypes := #[24] }, 4, some (100, false)⟩,
    ⟨some 103, .move (.tmp 13), 3, some (100, false)⟩,
    ⟨some 104, .binOp .eql 3 (.tmp 103) (.const (.int .i64 81)) 3, 4, some (100, false)⟩,
    ⟨some 105, .binOp .eql 4 (.tmp 102) (.tmp 104) 4, 4, some (100, false)⟩,
    ⟨some 106, .pick (.tmp 100) (.const (.bool true)) (.tmp 105), 4, none⟩]
@[go_sem] def c6_22 : Cmd := .ops [⟨some 6, .assign (.const (.bool false)), 4, none⟩]
@[go_sem] def c6_23 : Cmd := .cond (.tmp 106) (.seq c6_22 .ret) .skip
@[go_sem] def c6_24 : Cmd := .cond (.tmp 85) (.seq c6_20 (.seq c6_21 c6_23)) .skip
@[go_sem] def c6_25 : Cmd := .cond (.tmp 75) (.seq c6_16 c6_18) (.seq c6_19 c6_24)
@[go_sem] def c6_26 : Cmd := .block 2 (.seq c6_15 c6_25)
@[go_sem] def c6_27 : Cmd := .ops [⟨some 107, .move (.tmp 8), 24, none⟩,
    ⟨some 108, .call { callee := (.value (.func 30)), args := #[(.tmp 107)], argTypes := #[24] }, 3, none⟩,
    ⟨some 109, .move (.tmp 11), 3, none⟩,
    ⟨some 110, .binOp .neq 3 (.tmp 108) (.tmp 109) 3, 4, none⟩]
@[go_sem] def c6_28 : Cmd := .ops [⟨some 6, .assign (.const (.bool false)), 4, none⟩]
@[go_sem] def c6_29 : Cmd := .cond (.tmp 110) (.seq c6_28 .ret) .skip
@[go_sem] def c6_30 : Cmd := .block 1 (.seq (.seq c6_12 c6_13) (.seq c6_14 (.seq c6_26 (.seq c6_27 c6_29))))
@[go_sem] def c6_31 : Cmd := .ops [⟨some 53, .move (.tmp 12), 3, none⟩,
    ⟨some 54, .binOp .add 3 (.tmp 53) (.const (.int .i64 1)) 3, 3, none⟩,
    ⟨some 12, .assign (.tmp 54), 3, none⟩]
def c6_L0 : Cmd := (.seq (.seq c6_10 c6_11) (.seq c6_30 c6_31))
@[go_sem] def c6_32 : Cmd := .loop c6_L0
@[go_sem] def c6_33 : Cmd := .block 0 c6_32
@[go_sem] def c6_34 : Cmd := .ops [⟨some 111, .move (.tmp 11), 3, none⟩,
    ⟨some 112, .move (.tmp 1), 3, none⟩,
    ⟨some 113, .binOp .lss 3 (.tmp 111) (.tmp 112) 3, 4, none⟩]
@[go_sem] def c6_35 : Cmd := .ops [⟨some 114, .move (.tmp 8), 24, none⟩,
    ⟨some 115, .call { callee := (.value (.func 29)), args := #[(.tmp 114)], argTypes := #[24] }, 4, none⟩,
    ⟨some 116, .move (.tmp 115), 4, none⟩,
    ⟨some 117, .move (.tmp 9), 39, some (116, true)⟩,
    ⟨some 118, .call { callee := (.value (.func 22)), args := #[(.tmp 117)], argTypes := #[39] }, 3, some (116, true)⟩,
    ⟨some 119, .move (.tmp 10), 39, some (116, true)⟩,
    ⟨some 120, .call { callee := (.value (.func 22)), args := #[(.tmp 119)], argTypes := #[39] }, 3, some (116, true)⟩,
    ⟨some 121, .binOp .add 3 (.tmp 118) (.tmp 120) 3, 3, some (116, true)⟩,
    ⟨some 122, .binOp .eql 3 (.tmp 121) (.const (.int .i64 0)) 3, 4, some (116, true)⟩,
    ⟨some 123, .pick (.tmp 116) (.tmp 122) (.const (.bool false)), 4, none⟩,
    ⟨some 6, .assign (.tmp 123), 4, none⟩]
@[go_sem] def c6_36 : Cmd := .cond (.tmp 113) (.seq c6_35 .ret) .skip
@[go_sem] def c6_37 : Cmd := .ops [⟨some 125, .move (.tmp 8), 24, none⟩,
    ⟨some 126, .call { callee := (.value (.func 31)), args := #[(.tmp 125), (.const (.string ⟨#[97]⟩)), (.const (.int .i64 0)), (.const (.int .i64 1))], argTypes := #[24, 9, 3, 3] }, 54, none⟩,
    ⟨some 124, .move (.tmp 126), 54, none⟩,
    ⟨some 127, .extract (.tmp 124) 0, 34, none⟩,
    ⟨some 128, .extract (.tmp 124) 1, 39, none⟩,
    ⟨some 14, .assign (.tmp 127), 34, none⟩,
    ⟨some 15, .assign (.tmp 128), 39, none⟩]
@[go_sem] def c6_38 : Cmd := .ops [⟨some 130, .move (.tmp 8), 24, none⟩,
    ⟨some 131, .call { callee := (.value (.func 32)), args := #[(.tmp 130), (.const (.string ⟨#[97]⟩))], argTypes := #[24, 9] }, 56, none⟩,
    ⟨some 129, .move (.tmp 131), 56, none⟩,
    ⟨some 132, .extract (.tmp 129) 0, 3, none⟩,
    ⟨some 133, .extract (.tmp 129) 1, 39, none⟩,
    ⟨some 16, .assign (.tmp 132), 3, none⟩,
    ⟨some 17, .assign (.tmp 133), 39, none⟩]
@[go_sem] def c6_39 : Cmd := .ops [⟨some 134, .move (.tmp 8), 24, none⟩,
    ⟨some 135, .call { callee := (.value (.func 28)), args := #[(.tmp 134), (.const (.int .i64 1))], argTypes := #[24, 3] }, 39, none⟩,
    ⟨some 18, .assign (.tmp 135), 39, none⟩]
@[go_sem] def c6_40 : Cmd := .ops [⟨some 136, .move (.tmp 8), 24, none⟩,
    ⟨some 137, .call { callee := (.value (.func 33)), args := #[(.tmp 136)], argTypes := #[24] }, 58, none⟩,
    ⟨some 138, .call { callee := (.builtin .len), args := #[(.tmp 137)], argTypes := #[58] }, 3, none⟩,
    ⟨some 139, .binOp .eql 3 (.tmp 138) (.const (.int .i64 0)) 3, 4, none⟩,
    ⟨some 19, .assign (.tmp 139), 4, none⟩]
@[go_sem] def c6_41 : Cmd := .ops [⟨some 140, .move (.tmp 8), 24, none⟩,
    ⟨some 141, .call { callee := (.value (.func 25)), args := #[(.tmp 140), (.const (.int .i64 0)), (.const (.slice none 0 0))], argTypes := #[24, 3, 62] }, 0, none⟩]
@[go_sem] def c6_42 : Cmd := .ops [⟨some 142, .move (.tmp 8), 24, none⟩,
    ⟨some 143, .call { callee := (.value (.func 34)), args := #[(.tmp 142)], argTypes := #[24] }, 39, none⟩,
    ⟨some 20, .assign (.tmp 143), 39, none⟩]
@[go_sem] def c6_43 : Cmd := .ops [⟨some 144, .move (.tmp 9), 39, none⟩,
    ⟨some 145, .call { callee := (.value (.func 22)), args := #[(.tmp 144)], argTypes := #[39] }, 3, none⟩,
    ⟨some 146, .move (.tmp 10), 39, none⟩,
    ⟨some 147, .call { callee := (.value (.func 22)), args := #[(.tmp 146)], argTypes := #[39] }, 3, none⟩,
    ⟨some 148, .binOp .add 3 (.tmp 145) (.tmp 147) 3, 3, none⟩,
    ⟨some 149, .binOp .eql 3 (.tmp 148) (.const (.int .i64 0)) 3, 4, none⟩,
    ⟨some 150, .move (.tmp 149), 4, none⟩,
    ⟨some 151, .move (.tmp 15), 39, some (150, true)⟩,
    ⟨some 152, .call { callee := (.value (.func 22)), args := #[(.tmp 151)], argTypes := #[39] }, 3, some (150, true)⟩,
    ⟨some 153, .binOp .eql 3 (.tmp 152) (.const (.int .i64 81)) 3, 4, some (150, true)⟩,
    ⟨some 154, .pick (.tmp 150) (.tmp 153) (.const (.bool false)), 4, none⟩,
    ⟨some 155, .move (.tmp 154), 4, none⟩,
    ⟨some 156, .move (.tmp 17), 39, some (155, true)⟩,
    ⟨some 157, .call { callee := (.value (.func 22)), args := #[(.tmp 156)], argTypes := #[39] }, 3, some (155, true)⟩,
    ⟨some 158, .binOp .eql 3 (.tmp 157) (.const (.int .i64 81)) 3, 4, some (155, true)⟩,
    ⟨some 159, .pick (.tmp 155) (.tmp 158) (.const (.bool false)), 4, none⟩,
    ⟨some 160, .move (.tmp 159), 4, none⟩,
    ⟨some 161, .move (.tmp 18), 39, some (160, true)⟩,
    ⟨some 162, .call { callee := (.value (.func 22)), args := #[(.tmp 161)], argTypes := #[39] }, 3, some (160, true)⟩,
    ⟨some 163, .binOp .eql 3 (.tmp 162) (.const (.int .i64 81)) 3, 4, some (160, true)⟩,
    ⟨some 164, .pick (.tmp 160) (.tmp 163) (.const (.bool false)), 4, none⟩,
    ⟨some 165, .move (.tmp 164), 4, none⟩,
    ⟨some 166, .move (.tmp 19), 4, some (165, true)⟩,
    ⟨some 167, .pick (.tmp 165) (.tmp 166) (.const (.bool false)), 4, none⟩,
    ⟨some 168, .move (.tmp 167), 4, none⟩,
    ⟨some 169, .move (.tmp 20), 39, some (168, true)⟩,
    ⟨some 170, .call { callee := (.value (.func 22)), args := #[(.tmp 169)], argTypes := #[39] }, 3, some (168, true)⟩,
    ⟨some 171, .binOp .eql 3 (.tmp 170) (.const (.int .i64 0)) 3, 4, some (168, true)⟩,
    ⟨some 172, .pick (.tmp 168) (.tmp 171) (.const (.bool false)), 4, none⟩,
    ⟨some 173, .move (.tmp 172), 4, none⟩,
    ⟨some 174, .move (.tmp 8), 24, some (173, true)⟩,
    ⟨some 175, .call { callee := (.value (.func 30)), args := #[(.tmp 174)], argTypes := #[24] }, 3, some (173, true)⟩,
    ⟨some 176, .move (.tmp 11), 3, some (173, true)⟩,
    ⟨some 177, .binOp .add 3 (.tmp 176) (.const (.int .i64 1)) 3, 3, some (173, true)⟩,
    ⟨some 178, .binOp .eql 3 (.tmp 175) (.tmp 177) 3, 4, some (173, true)⟩,
    ⟨some 179, .pick (.tmp 173) (.tmp 178) (.const (.bool false)), 4, none⟩,
    ⟨some 6, .assign (.tmp 179), 4, none⟩]
@[go_sem] def c6 : Cmd := (.seq c6_0 (.seq c6_1 (.seq c6_2 (.seq (.seq c6_3 c6_5) (.seq c6_6 (.seq c6_7 (.seq c6_8 (.seq (.seq c6_9 c6_33) (.seq (.seq c6_34 c6_36) (.seq c6_37 (.seq c6_38 (.seq c6_39 (.seq c6_40 (.seq c6_41 (.seq c6_42 (.seq c6_43 .ret))))))))))))))))
theorem b6 : Try.f6.body.map (comp 180) = some c6 := by kernel_rfl
theorem r6 : Try.f6.results.toList = [.tmp 6] := by kernel_rfl
-- 7 pith/pithlaw8.FsSafe
@[go_sem] def c7_0 : Cmd := .ops [⟨some 10, .assign (.const (.bool false)), 4, none⟩]
@[go_sem] def c7_1 : Cmd := .ops [⟨some 25, .call { callee := (.value (.func 11)), args := #[], argTypes := #[] }, 4, none⟩,
    ⟨some 11, .assign (.tmp 25), 4, none⟩]
@[go_sem] def c7_2 : Cmd := .ops [⟨some 27, .move (.tmp 0), 22, none⟩,
    ⟨some 28, .call { callee := (.value (.func 35)), args := #[(.const (.int .i64 2147483647)), (.tmp 27)], argTypes := #[3, 22] }, 63, none⟩,
    ⟨some 26, .move (.tmp 28), 63, none⟩,
    ⟨some 29, .extract (.tmp 26) 0, 24, none⟩,
    ⟨some 30, .extract (.tmp 26) 1, 26, none⟩,
    ⟨some 12, .assign (.tmp 29), 24, none⟩,
    ⟨some 13, .assign (.tmp 30), 26, none⟩]
@[go_sem] def c7_3 : Cmd := .ops [⟨some 31, .move (.tmp 11), 4, none⟩,
    ⟨some 32, .unOp .not 4 (.tmp 31), 4, none⟩,
    ⟨some 33, .move (.tmp 32), 4, none⟩,
    ⟨some 34, .move (.tmp 12), 24, some (33, false)⟩,
    ⟨some 35, .binOp .eql 24 (.tmp 34) (.const (.pointer none)) 24, 4, some (33, false)⟩,
    ⟨some 36, .pick (.tmp 33) (.const (.bool true)) (.tmp 35), 4, none⟩]
@[go_sem] def c7_4 : Cmd := .ops [⟨some 10, .assign (.const (.bool false)), 4, none⟩]
@[go_sem] def c7_5 : Cmd := .cond (.tmp 36) (.seq c7_4 .ret) .skip
@[go_sem] def c7_6 : Cmd := .ops [⟨some 37, .move (.tmp 2), 3, none⟩,
    ⟨some 38, .binOp .gtr 3 (.tmp 37) (.const (.int .i64 0)) 3, 4, none⟩]
@[go_sem] def c7_7 : Cmd := .ops [⟨some 39, .move (.tmp 12), 24, none⟩,
    ⟨some 40, .move (.tmp 2), 3, none⟩,
    ⟨some 41, .call { callee := (.value (.func 28)), args := #[(.tmp 39), (.tmp 40)], argTypes := #[24, 3] }, 39, none⟩]
@[go_sem] def c7_8 : Cmd := .cond (.tmp 38) c7_7 .skip
@[go_sem] def c7_9 : Cmd := .ops [⟨some 42, .move (.tmp 13), 26, none⟩,
    ⟨some 43, .call { callee := (.value (.func 36)), args := #[(.tmp 42)], argTypes := #[26] }, 26, none⟩,
    ⟨some 14, .assign (.tmp 43), 26, none⟩]
@[go_sem] def c7_10 : Cmd := .ops [⟨some 15, .assign (.const (.int .i64 0)), 3, none⟩]
@[go_sem] def c7_11 : Cmd := .ops [⟨some 44, .move (.tmp 15), 3, none⟩,
    ⟨some 45, .move (.tmp 1), 22, none⟩,
    ⟨some 46, .call { callee := (.builtin .len), args := #[(.tmp 45)], argTypes := #[22] }, 3, none⟩,
    ⟨some 47, .binOp .lss 3 (.tmp 44) (.tmp 46) 3, 4, none⟩,
    ⟨some 48, .move (.tmp 47), 4, none⟩,
    ⟨some 49, .move (.tmp 15), 3, some (48, true)⟩,
    ⟨some 50, .binOp .lss 3 (.tmp 49) (.const (.int .i64 200)) 3, 4, some (48, true)⟩,
    ⟨some 51, .pick (.tmp 48) (.tmp 50) (.const (.bool false)), 4, none⟩]
@[go_sem] def c7_12 : Cmd := .cond (.tmp 51) .skip (.exit 0)
@[go_sem] def c7_13 : Cmd := .ops [⟨some 54, .move (.tmp 1), 22, none⟩,
    ⟨some 55, .move (.tmp 15), 3, none⟩,
    ⟨some 56, .indexAddr 22 (.tmp 54) (.tmp 55), 0, none⟩,
    ⟨some 57, .fieldAddr 30 (.tmp 56) 0, 0, none⟩,
    ⟨some 58, .load 3 (.tmp 57), 3, none⟩,
    ⟨some 59, .binOp .eql 3 (.tmp 58) (.const (.int .i64 4)) 3, 4, none⟩,
    ⟨some 60, .move (.tmp 59), 4, none⟩,
    ⟨some 61, .move (.tmp 1), 22, some (60, false)⟩,
    ⟨some 62, .move (.tmp 15), 3, some (60, false)⟩,
    ⟨some 63, .indexAddr 22 (.tmp 61) (.tmp 62), 0, some (60, false)⟩,
    ⟨some 64, .fieldAddr 30 (.tmp 63) 0, 0, some (60, false)⟩,
    ⟨some 65, .load 3 (.tmp 64), 3, some (60, false)⟩,
    ⟨some 66, .binOp .eql 3 (.tmp 65) (.const (.int .i64 5)) 3, 4, some (60, false)⟩,
    ⟨some 67, .pick (.tmp 60) (.const (.bool true)) (.tmp 66), 4, none⟩]
@[go_sem] def c7_14 : Cmd := .cond (.tmp 67) (.exit 1) .skip
@[go_sem] def c7_15 : Cmd := .ops [⟨some 68, .move (.tmp 12), 24, none⟩,
    ⟨some 69, .move (.tmp 1), 22, none⟩,
    ⟨some 70, .move (.tmp 15), 3, none⟩,
    ⟨some 71, .indexAddr 22 (.tmp 69) (.tmp 70), 0, none⟩,
    ⟨some 72, .load 30 (.tmp 71), 30, none⟩,
    ⟨some 73, .call { callee := (.value (.func 14)), args := #[(.tmp 68), (.tmp 72)], argTypes := #[24, 30] }, 3, none⟩,
    ⟨some 16, .assign (.tmp 73), 3, none⟩]
@[go_sem] def c7_16 : Cmd := .ops [⟨some 74, .move (.tmp 16), 3, none⟩,
    ⟨some 75, .binOp .eql 3 (.tmp 74) (.const (.int .i64 0)) 3, 4, none⟩,
    ⟨some 76, .move (.tmp 75), 4, none⟩,
    ⟨some 77, .move (.tmp 16), 3, some (76, false)⟩,
    ⟨some 78, .binOp .eql 3 (.tmp 77) (.const (.int .i64 81)) 3, 4, some (76, false)⟩,
    ⟨some 79, .move (.tmp 78), 4, some (76, false)⟩,
    ⟨some 80, .move (.tmp 1), 22, some (79, true)⟩,
    ⟨some 81, .move (.tmp 15), 3, some (79, true)⟩,
    ⟨some 82, .indexAddr 22 (.tmp 80) (.tmp 81), 0, some (79, true)⟩,
    ⟨some 83, .fieldAddr 30 (.tmp 82) 0, 0, some (79, true)⟩,
    ⟨some 84, .load 3 (.tmp 83), 3, some (79, true)⟩,
    ⟨some 85, .binOp .lss 3 (.tmp 84) (.const (.int .i64 3)) 3, 4, some (79, true)⟩,
    ⟨some 86, .pick (.tmp 79) (.tmp 85) (.const (.bool false)), 4, some (76, false)⟩,
    ⟨some 87, .pick (.tmp 76) (.const (.bool true)) (.tmp 86), 4, none⟩]
@[go_sem] def c7_17 : Cmd := .ops [⟨some 88, .move (.tmp 14), 26, none⟩,
    ⟨some 89, .move (.tmp 1), 22, none⟩,
    ⟨some 90, .move (.tmp 15), 3, none⟩,
    ⟨some 91, .indexAddr 22 (.tmp 89) (.tmp 90), 0, none⟩,
    ⟨some 92, .load 30 (.tmp 91), 30, none⟩,
    ⟨some 93, .call { callee := (.value (.func 17)), args := #[(.tmp 88), (.tmp 92)], argTypes := #[26, 30] }, 26, none⟩,
    ⟨some 14, .assign (.tmp 93), 26, none⟩]
@[go_sem] def c7_18 : Cmd := .cond (.tmp 87) c7_17 .skip
@[go_sem] def c7_19 : Cmd := .ops [⟨some 94, .move (.tmp 16), 3, none⟩,
    ⟨some 95, .binOp .eql 3 (.tmp 94) (.const (.int .i64 81)) 3, 4, none⟩]
@[go_sem] def c7_20 : Cmd := .cond (.tmp 95) (.exit 0) .skip
@[go_sem] def c7_21 : Cmd := .block 1 (.seq (.seq c7_13 c7_14) (.seq c7_15 (.seq (.seq c7_16 c7_18) (.seq c7_19 c7_20))))
@[go_sem] def c7_22 : Cmd := .ops [⟨some 52, .move (.tmp 15), 3, none⟩,
    ⟨some 53, .binOp .add 3 (.tmp 52) (.const (.int .i64 1)) 3, 3, none⟩,
    ⟨some 15, .assign (.tmp 53), 3, none⟩]
def c7_L0 : Cmd := (.seq (.seq c7_11 c7_12) (.seq c7_21 c7_22))
@[go_sem] def c7_23 : Cmd := .loop c7_L0
@[go_sem] def c7_24 : Cmd := .block 0 c7_23
@[go_sem] def c7_25 : Cmd := .ops [⟨some 96, .move (.tmp 12), 24, none⟩,
    ⟨some 97, .move (.tmp 3), 3, none⟩,
    ⟨some 98, .move (.tmp 4), 62, none⟩,
    ⟨some 99, .call { callee := (.value (.func 25)), args := #[(.tmp 96), (.tmp 97), (.tmp 98)], argTypes := #[24, 3, 62] }, 0, none⟩]
@[go_sem] def c7_26 : Cmd := .ops [⟨some 100, .move (.tmp 12), 24, none⟩,
    ⟨some 101, .call { callee := (.value (.func 33)), args := #[(.tmp 100)], argTypes := #[24] }, 58, none⟩,
    ⟨some 17, .assign (.tmp 101), 58, none⟩]
@[go_sem] def c7_27 : Cmd := .ops [⟨some 18, .assign (.const (.int .i64 0)), 3, none⟩]
@[go_sem] def c7_28 : Cmd := .ops [⟨some 102, .move (.tmp 18), 3, none⟩,
    ⟨some 103, .move (.tmp 13), 26, none⟩,
    ⟨some 104, .call { callee := (.builtin .len), args := #[(.tmp 103)], argTypes := #[26] }, 3, none⟩,
    ⟨some 105, .binOp .lss 3 (.tmp 102) (.tmp 104) 3, 4, none⟩]
@[go_sem] def c7_29 : Cmd := .cond (.tmp 105) .skip (.exit 2)
@[go_sem] def c7_30 : Cmd := .ops [⟨some 109, .move (.tmp 12), 24, none⟩,
    ⟨some 110, .move (.tmp 13), 26, none⟩,
    ⟨some 111, .move (.tmp 18), 3, none⟩,
    ⟨some 112, .indexAddr 26 (.tmp 110) (.tmp 111), 0, none⟩,
    ⟨some 113, .fieldAddr 44 (.tmp 112) 0, 0, none⟩,
    ⟨some 114, .load 9 (.tmp 113), 9, none⟩,
    ⟨some 115, .call { callee := (.value (.func 31)), args := #[(.tmp 109), (.tmp 114), (.const (.int .i64 0)), (.const (.int .i64 1073741824))], argTypes := #[24, 9, 3, 3] }, 54, none⟩,
    ⟨some 108, .move (.tmp 115), 54, none⟩,
    ⟨some 116, .extract (.tmp 108) 0, 34, none⟩,
    ⟨some 117, .extract (.tmp 108) 1, 39, none⟩,
    ⟨some 19, .assign (.tmp 116), 34, none⟩,
    ⟨some 20, .assign (.tmp 117), 39, none⟩]
@[go_sem] def c7_31 : Cmd := .ops [⟨some 118, .move (.tmp 14), 26, none⟩,
    ⟨some 119, .move (.tmp 13), 26, none⟩,
    ⟨some 120, .move (.tmp 18), 3, none⟩,
    ⟨some 121, .indexAddr 26 (.tmp 119) (.tmp 120), 0, none⟩,
    ⟨some 122, .fieldAddr 44 (.tmp 121) 0, 0, none⟩,
    ⟨some 123, .load 9 (.tmp 122), 9, none⟩,
    ⟨some 124, .call { callee := (.value (.func 15)), args := #[(.tmp 118), (.tmp 123)], argTypes := #[26, 9] }, 3, none⟩,
    ⟨some 21, .assign (.tmp 124), 3, none⟩]
@[go_sem] def c7_32 : Cmd := .ops [⟨some 125, .move (.tmp 20), 39, none⟩,
    ⟨some 126, .call { callee := (.value (.func 22)), args := #[(.tmp 125)], argTypes := #[39] }, 3, none⟩,
    ⟨some 127, .binOp .neq 3 (.tmp 126) (.const (.int .i64 0)) 3, 4, none⟩,
    ⟨some 128, .move (.tmp 127), 4, none⟩,
    ⟨some 129, .move (.tmp 21), 3, some (128, false)⟩,
    ⟨some 130, .binOp .lss 3 (.tmp 129) (.const (.int .i64 0)) 3, 4, some (128, false)⟩,
    ⟨some 131, .pick (.tmp 128) (.const (.bool true)) (.tmp 130), 4, none⟩]
@[go_sem] def c7_33 : Cmd := .ops [⟨some 10, .assign (.const (.bool false)), 4, none⟩]
@[go_sem] def c7_34 : Cmd := .cond (.tmp 131) (.seq c7_33 .ret) .skip
@[go_sem] def c7_35 : Cmd := .ops [⟨some 132, .move (.tmp 13), 26, none⟩,
    ⟨some 133, .move (.tmp 18), 3, none⟩,
    ⟨some 134, .indexAddr 26 (.tmp 132) (.tmp 133), 0, none⟩,
    ⟨some 135, .fieldAddr 44 (.tmp 134) 1, 0, none⟩,
    ⟨some 136, .load 34 (.tmp 135), 34, none⟩,
    ⟨some 137, .move (.tmp 19), 34, none⟩,
    ⟨some 138, .call { callee := (.value (.func 37)), args := #[(.tmp 136), (.tmp 137)], argTypes := #[34, 34] }, 4, none⟩,
    ⟨some 22, .assign (.tmp 138), 4, none⟩]
@[go_sem] def c7_36 : Cmd := .ops [⟨some 139, .move (.tmp 19), 34, none⟩,
    ⟨some 140, .move (.tmp 14), 26, none⟩,
    ⟨some 141, .move (.tmp 21), 3, none⟩,
    ⟨some 142, .indexAddr 26 (.tmp 140) (.tmp 141), 0, none⟩,
    ⟨some 143, .fieldAddr 44 (.tmp 142) 1, 0, none⟩,
    ⟨some 144, .load 34 (.tmp 143), 34, none⟩,
    ⟨some 145, .call { callee := (.value (.func 37)), args := #[(.tmp 139), (.tmp 144)], argTypes := #[34, 34] }, 4, none⟩,
    ⟨some 23, .assign (.tmp 145), 4, none⟩]
@[go_sem] def c7_37 : Cmd := .ops [⟨some 146, .move (.tmp 22), 4, none⟩,
    ⟨some 147, .unOp .not 4 (.tmp 146), 4, none⟩,
    ⟨some 148, .move (.tmp 147), 4, none⟩,
    ⟨some 149, .move (.tmp 23), 4, some (148, false)⟩,
    ⟨some 150, .unOp .not 4 (.tmp 149), 4, some (148, false)⟩,
    ⟨some 151, .pick (.tmp 148) (.const (.bool true)) (.tmp 150), 4, none⟩]
@[go_sem] def c7_38 : Cmd := .ops [⟨some 10, .assign (.const (.bool false)), 4, none⟩]
@[go_sem] def c7_39 : Cmd := .cond (.tmp 151) (.seq c7_38 .ret) .skip
@[go_sem] def c7_40 : Cmd := .block 3 (.seq c7_30 (.seq c7_31 (.seq (.seq c7_32 c7_34) (.seq c7_35 (.seq c7_36 (.seq c7_37 c7_39))))))
@[go_sem] def c7_41 : Cmd := .ops [⟨some 106, .move (.tmp 18), 3, none⟩,
    ⟨some 107, .binOp .add 3 (.tmp 106) (.const (.int .i64 1)) 3, 3, none⟩,
    ⟨some 18, .assign (.tmp 107), 3, none⟩]
def c7_L1 : Cmd := (.seq (.seq c7_28 c7_29) (.seq c7_40 c7_41))
@[go_sem] def c7_42 : Cmd := .loop c7_L1
@[go_sem] def c7_43 : Cmd := .block 2 c7_42
@[go_sem] def c7_44 : Cmd := .ops [⟨some 24, .assign (.const (.int .i64 0)), 3, none⟩]
@[go_sem] def c7_45 : Cmd := .ops [⟨some 152, .move (.tmp 24), 3, none⟩,
    ⟨some 153, .move (.tmp 17), 58, none⟩,
    ⟨some 154, .call { callee := (.builtin .len), args := #[(.tmp 153)], argTypes := #[58] }, 3, none⟩,
    ⟨some 155, .binOp .lss 3 (.tmp 152) (.tmp 154) 3, 4, none⟩]
@[go_sem] def c7_46 : Cmd := .cond (.tmp 155) .skip (.exit 4)
@[go_sem] def c7_47 : Cmd := .ops [⟨some 158, .move (.tmp 14), 26, none⟩,
    ⟨some 159, .move (.tmp 17), 58, none⟩,
    ⟨some 160, .move (.tmp 24), 3, none⟩,
    ⟨some 161, .indexAddr 58 (.tmp 159) (.tmp 160), 0, none⟩,
    ⟨some 162, .load 9 (.tmp 161), 9, none⟩,
    ⟨some 163, .call { callee := (.value (.func 15)), args := #[(.tmp 158), (.tmp 162)], argTypes := #[26, 9] }, 3, none⟩,
    ⟨some 164, .binOp .lss 3 (.tmp 163) (.const (.int .i64 0)) 3, 4, none⟩]
@[go_sem] def c7_48 : Cmd := .ops [⟨some 10, .assign (.const (.bool false)), 4, none⟩]
@[go_sem] def c7_49 : Cmd := .cond (.tmp 164) (.seq c7_48 .ret) .skip
@[go_sem] def c7_50 : Cmd := .block 5 (.seq c7_47 c7_49)
@[go_sem] def c7_51 : Cmd := .ops [⟨some 156, .move (.tmp 24), 3, none⟩,
    ⟨some 157, .binOp .add 3 (.tmp 156) (.const (.int .i64 1)) 3, 3, none⟩,
    ⟨some 24, .assign (.tmp 157), 3, none⟩]
def c7_L2 : Cmd := (.seq (.seq c7_45 c7_46) (.seq c7_50 c7_51))
@[go_sem] def c7_52 : Cmd := .loop c7_L2
@[go_sem] def c7_53 : Cmd := .block 4 c7_52
@[go_sem] def c7_54 : Cmd := .ops [⟨some 165, .move (.tmp 12), 24, none⟩,
    ⟨some 166, .call { callee := (.value (.func 29)), args := #[(.tmp 165)], argTypes := #[24] }, 4, none⟩,
    ⟨some 167, .move (.tmp 166), 4, none⟩,
    ⟨some 168, .move (.tmp 12), 24, some (167, true)⟩,
    ⟨some 169, .call { callee := (.value (.func 24)), args := #[(.tmp 168)], argTypes := #[24] }, 3, some (167, true)⟩,
    ⟨some 170, .binOp .eql 3 (.tmp 169) (.const (.int .i64 0)) 3, 4, some (167, true)⟩,
    ⟨some 171, .pick (.tmp 167) (.tmp 170) (.const (.bool false)), 4, none⟩,
    ⟨some 10, .assign (.tmp 171), 4, none⟩]
@[go_sem] def c7 : Cmd := (.seq c7_0 (.seq c7_1 (.seq c7_2 (.seq (.seq c7_3 c7_5) (.seq (.seq c7_6 c7_8) (.seq c7_9 (.seq (.seq c7_10 c7_24) (.seq c7_25 (.seq c7_26 (.seq (.seq c7_27 c7_43) (.seq (.seq c7_44 c7_53) (.seq c7_54 .ret))))))))))))
theorem b7 : Try.f7.body.map (comp 172) = some c7 := by kernel_rfl
theorem r7 : Try.f7.results.toList = [.tmp 10] := by kernel_rfl
-- 8 pith/pithlaw8.FsKept
@[go_sem] def c8_0 : Cmd := .ops [⟨some 4, .assign (.const (.bool false)), 4, none⟩]
@[go_sem] def c8_1 : Cmd := .ops [⟨some 12, .call { callee := (.value (.func 11)), args := #[], argTypes := #[] }, 4, none⟩,
    ⟨some 5, .assign (.tmp 12), 4, none⟩]
@[go_sem] def c8_2 : Cmd := .ops [⟨some 13, .call { callee := (.value (.func 12)), args := #[(.const (.int .i64 2147483647))], argTypes := #[3] }, 24, none⟩,
    ⟨some 6, .assign (.tmp 13), 24, none⟩]
@[go_sem] def c8_3 : Cmd := .ops [⟨some 14, .move (.tmp 5), 4, none⟩,
    ⟨some 15, .unOp .not 4 (.tmp 14), 4, none⟩,
    ⟨some 16, .move (.tmp 15), 4, none⟩,
    ⟨some 17, .move (.tmp 6), 24, some (16, false)⟩,
    ⟨some 18, .binOp .eql 24 (.tmp 17) (.const (.pointer none)) 24, 4, some (16, false)⟩,
    ⟨some 19, .pick (.tmp 16) (.const (.bool true)) (.tmp 18), 4, none⟩,
    ⟨some 20, .move (.tmp 19), 4, none⟩,
    ⟨some 21, .move (.tmp 1), 3, some (20, false)⟩,
    ⟨some 22, .binOp .lss 3 (.tmp 21) (.const (.int .i64 1)) 3, 4, some (20, false)⟩,
    ⟨some 23, .pick (.tmp 20) (.const (.bool true)) (.tmp 22), 4, none⟩]
@[go_sem] def c8_4 : Cmd := .ops [⟨some 24, .move (.tmp 5), 4, none⟩,
    ⟨some 25, .move (.tmp 24), 4, none⟩,
    ⟨some 26, .move (.tmp 6), 24, some (25, true)⟩,
    ⟨some 27, .binOp .neq 24 (.tmp 26) (.const (.pointer none)) 24, 4, some (25, true)⟩,
    ⟨some 28, .pick (.tmp 25) (.tmp 27) (.const (.bool false)), 4, none⟩,
    ⟨some 4, .assign (.tmp 28), 4, none⟩]
@[go_sem] def c8_5 : Cmd := .cond (.tmp 23) (.seq c8_4 .ret) .skip
@[go_sem] def c8_6 : Cmd := .ops [⟨some 29, .move (.tmp 6), 24, none⟩,
    ⟨some 30, .move (.tmp 1), 3, none⟩,
    ⟨some 31, .call { callee := (.value (.func 28)), args := #[(.tmp 29), (.tmp 30)], argTypes := #[24, 3] }, 39, none⟩]
@[go_sem] def c8_7 : Cmd := .ops [⟨some 7, .assign (.const (.slice none 0 0)), 26, none⟩]
@[go_sem] def c8_8 : Cmd := .ops [⟨some 8, .assign (.const (.int .i64 0)), 3, none⟩]
@[go_sem] def c8_9 : Cmd := .ops [⟨some 32, .move (.tmp 8), 3, none⟩,
    ⟨some 33, .move (.tmp 0), 22, none⟩,
    ⟨some 34, .call { callee := (.builtin .len), args := #[(.tmp 33)], argTypes := #[22] }, 3, none⟩,
    ⟨some 35, .binOp .lss 3 (.tmp 32) (.tmp 34) 3, 4, none⟩,
    ⟨some 36, .move (.tmp 35), 4, none⟩,
    ⟨some 37, .move (.tmp 8), 3, some (36, true)⟩,
    ⟨some 38, .binOp .lss 3 (.tmp 37) (.const (.int .i64 300)) 3, 4, some (36, true)⟩,
    ⟨some 39, .pick (.tmp 36) (.tmp 38) (.const (.bool false)), 4, none⟩]
@[go_sem] def c8_10 : Cmd := .cond (.tmp 39) .skip (.exit 0)
@[go_sem] def c8_11 : Cmd := .ops [⟨some 42, .move (.tmp 6), 24, none⟩,
    ⟨some 43, .move (.tmp 0), 22, none⟩,
    ⟨some 44, .move (.tmp 8), 3, none⟩,
    ⟨some 45, .indexAddr 22 (.tmp 43) (.tmp 44), 0, none⟩,
    ⟨some 46, .load 30 (.tmp 45), 30, none⟩,
    ⟨some 47, .call { callee := (.value (.func 14)), args := #[(.tmp 42), (.tmp 46)], argTypes := #[24, 30] }, 3, none⟩,
    ⟨some 9, .assign (.tmp 47), 3, none⟩]
@[go_sem] def c8_12 : Cmd := .ops [⟨some 48, .move (.tmp 9), 3, none⟩,
    ⟨some 49, .binOp .eql 3 (.tmp 48) (.const (.int .i64 0)) 3, 4, none⟩,
    ⟨some 50, .move (.tmp 49), 4, none⟩,
    ⟨some 51, .move (.tmp 9), 3, some (50, false)⟩,
    ⟨some 52, .binOp .eql 3 (.tmp 51) (.const (.int .i64 81)) 3, 4, some (50, false)⟩,
    ⟨some 53, .pick (.tmp 50) (.const (.bool true)) (.tmp 52), 4, none⟩]
@[go_sem] def c8_13 : Cmd := .ops [⟨some 54, .move (.tmp 7), 26, none⟩,
    ⟨some 55, .move (.tmp 0), 22, none⟩,
    ⟨some 56, .move (.tmp 8), 3, none⟩,
    ⟨some 57, .indexAddr 22 (.tmp 55) (.tmp 56), 0, none⟩,
    ⟨some 58, .load 30 (.tmp 57), 30, none⟩,
    ⟨some 59, .call { callee := (.value (.func 17)), args := #[(.tmp 54), (.tmp 58)], argTypes := #[26, 30] }, 26, none⟩,
    ⟨some 7, .assign (.tmp 59), 26, none⟩]
@[go_sem] def c8_14 : Cmd := .cond (.tmp 53) c8_13 .skip
@[go_sem] def c8_15 : Cmd := .ops [⟨some 60, .move (.tmp 9), 3, none⟩,
    ⟨some 61, .binOp .eql 3 (.tmp 60) (.const (.int .i64 81)) 3, 4, none⟩]
@[go_sem] def c8_16 : Cmd := .cond (.tmp 61) (.exit 0) .skip
@[go_sem] def c8_17 : Cmd := .block 1 (.seq c8_11 (.seq (.seq c8_12 c8_14) (.seq c8_15 c8_16)))
@[go_sem] def c8_18 : Cmd := .ops [⟨some 40, .move (.tmp 8), 3, none⟩,
    ⟨some 41, .binOp .add 3 (.tmp 40) (.const (.int .i64 1)) 3, 3, none⟩,
    ⟨some 8, .assign (.tmp 41), 3, none⟩]
def c8_L0 : Cmd := (.seq (.seq c8_9 c8_10) (.seq c8_17 c8_18))
@[go_sem] def c8_19 : Cmd := .loop c8_L0
@[go_sem] def c8_20 : Cmd := .block 0 c8_19
@[go_sem] def c8_21 : Cmd := .ops [⟨some 10, .assign (.const (.slice none 0 0)), 62, none⟩]
@[go_sem] def c8_22 : Cmd := .ops [⟨some 11, .assign (.const (.int .i64 0)), 3, none⟩]
@[go_sem] def c8_23 : Cmd := .ops [⟨some 62, .move (.tmp 11), 3, none⟩,
    ⟨some 63, .binOp .lss 3 (.tmp 62) (.const (.int .i64 10)) 3, 4, none⟩]
@[go_sem] def c8_24 : Cmd := .cond (.tmp 63) .skip (.exit 2)
@[go_sem] def c8_25 : Cmd := .ops [⟨some 66, .move (.tmp 10), 62, none⟩,
    ⟨some 67, .buildSlice 62 1 #[(0, (.const (.int .i64 1099511627776)))], 62, none⟩,
    ⟨some 68, .call { callee := (.builtin .append), args := #[(.tmp 66), (.tmp 67)], argTypes := #[62, 62] }, 62, none⟩,
    ⟨some 10, .assign (.tmp 68), 62, none⟩]
@[go_sem] def c8_26 : Cmd := .block 3 c8_25
@[go_sem] def c8_27 : Cmd := .ops [⟨some 64, .move (.tmp 11), 3, none⟩,
    ⟨some 65, .binOp .add 3 (.tmp 64) (.const (.int .i64 1)) 3, 3, none⟩,
    ⟨some 11, .assign (.tmp 65), 3, none⟩]
def c8_L1 : Cmd := (.seq (.seq c8_23 c8_24) (.seq c8_26 c8_27))
@[go_sem] def c8_28 : Cmd := .loop c8_L1
@[go_sem] def c8_29 : Cmd := .block 2 c8_28
@[go_sem] def c8_30 : Cmd := .ops [⟨some 69, .move (.tmp 6), 24, none⟩,
    ⟨some 70, .move (.tmp 10), 62, none⟩,
    ⟨some 71, .call { callee := (.value (.func 25)), args := #[(.tmp 69), (.const (.int .i64 (-1))), (.tmp 70)], argTypes := #[24, 3, 62] }, 0, none⟩]
@[go_sem] def c8_31 : Cmd := .ops [⟨some 72, .move (.tmp 6), 24, none⟩,
    ⟨some 73, .call { callee := (.value (.func 29)), args := #[(.tmp 72)], argTypes := #[24] }, 4, none⟩,
    ⟨some 74, .move (.tmp 73), 4, none⟩,
    ⟨some 75, .move (.tmp 6), 24, some (74, true)⟩,
    ⟨some 76, .call { callee := (.value (.func 24)), args := #[(.tmp 75)], argTypes := #[24] }, 3, some (74, true)⟩,
    ⟨some 77, .binOp .eql 3 (.tmp 76) (.const (.int .i64 0)) 3, 4, some (74, true)⟩,
    ⟨some 78, .pick (.tmp 74) (.tmp 77) (.const (.bool false)), 4, none⟩,
    ⟨some 79, .move (.tmp 78), 4, none⟩,
    ⟨some 80, .move (.tmp 6), 24, some (79, true)⟩,
    ⟨some 81, .move (.tmp 7), 26, some (79, true)⟩,
    ⟨some 82, .call { callee := (.value (.func 19)), args := #[(.tmp 80), (.tmp 81)], argTypes := #[24, 26] }, 4, some (79, true)⟩,
    ⟨some 83, .pick (.tmp 79) (.tmp 82) (.const (.bool false)), 4, none⟩,
    ⟨some 4, .assign (.tmp 83), 4, none⟩]
@[go_sem] def c8 : Cmd := (.seq c8_0 (.seq c8_1 (.seq c8_2 (.seq (.seq c8_3 c8_5) (.seq c8_6 (.seq c8_7 (.seq (.seq c8_8 c8_20) (.seq c8_21 (.seq (.seq c8_22 c8_29) (.seq c8_30 (.seq c8_31 .ret)))))))))))
theorem b8 : Try.f8.body.map (comp 84) = some c8 := by kernel_rfl
theorem r8 : Try.f8.results.toList = [.tmp 4] := by kernel_rfl
-- 9 pith/pithlaw8.FsAgain
@[go_sem] def c9_0 : Cmd := .ops [⟨some 12, .assign (.const (.bool false)), 4, none⟩]
@[go_sem] def c9_1 : Cmd := .ops [⟨some 27, .call { callee := (.value (.func 11)), args := #[], argTypes := #[] }, 4, none⟩,
    ⟨some 13, .assign (.tmp 27), 4, none⟩]
@[go_sem] def c9_2 : Cmd := .ops [⟨some 28, .move (.tmp 0), 3, none⟩,
    ⟨some 29, .call { callee := (.value (.func 12)), args := #[(.tmp 28)], argTypes := #[3] }, 24, none⟩,
    ⟨some 14, .assign (.tmp 29), 24, none⟩]
@[go_sem] def c9_3 : Cmd := .ops [⟨some 30, .move (.tmp 0), 3, none⟩,
    ⟨some 31, .call { callee := (.value (.func 12)), args := #[(.tmp 30)], argTypes := #[3] }, 24, none⟩,
    ⟨some 15, .assign (.tmp 31), 24, none⟩]
@[go_sem] def c9_4 : Cmd := .ops [⟨some 32, .move (.tmp 13), 4, none⟩,
    ⟨some 33, .unOp .not 4 (.tmp 32), 4, none⟩,
    ⟨some 34, .move (.tmp 33), 4, none⟩,
    ⟨some 35, .move (.tmp 14), 24, some (34, false)⟩,
    ⟨some 36, .binOp .eql 24 (.tmp 35) (.const (.pointer none)) 24, 4, some (34, false)⟩,
    ⟨some 37, .pick (.tmp 34) (.const (.bool true)) (.tmp 36), 4, none⟩,
    ⟨some 38, .move (.tmp 37), 4, none⟩,
    ⟨some 39, .move (.tmp 15), 24, some (38, false)⟩,
    ⟨some 40, .binOp .eql 24 (.tmp 39) (.const (.pointer none)) 24, 4, some (38, false)⟩,
    ⟨some 41, .pick (.tmp 38) (.const (.bool true)) (.tmp 40), 4, none⟩]
@[go_sem] def c9_5 : Cmd := .ops [⟨some 42, .move (.tmp 13), 4, none⟩,
    ⟨some 43, .move (.tmp 42), 4, none⟩,
    ⟨some 44, .move (.tmp 0), 3, some (43, true)⟩,
    ⟨some 45, .binOp .lss 3 (.tmp 44) (.const (.int .i64 0)) 3, 4, some (43, true)⟩,
    ⟨some 46, .move (.tmp 45), 4, some (43, true)⟩,
    ⟨some 47, .move (.tmp 0), 3, some (46, false)⟩,
    ⟨some 48, .binOp .gtr 3 (.tmp 47) (.const (.int .i64 2147483647)) 3, 4, some (46, false)⟩,
    ⟨some 49, .pick (.tmp 46) (.const (.bool true)) (.tmp 48), 4, some (43, true)⟩,
    ⟨some 50, .pick (.tmp 43) (.tmp 49) (.const (.bool false)), 4, none⟩,
    ⟨some 12, .assign (.tmp 50), 4, none⟩]
@[go_sem] def c9_6 : Cmd := .cond (.tmp 41) (.seq c9_5 .ret) .skip
@[go_sem] def c9_7 : Cmd := .ops [⟨some 51, .move (.tmp 3), 3, none⟩,
    ⟨some 52, .binOp .gtr 3 (.tmp 51) (.const (.int .i64 0)) 3, 4, none⟩]
@[go_sem] def c9_8 : Cmd := .ops [⟨some 53, .move (.tmp 14), 24, none⟩,
    ⟨some 54, .move (.tmp 3), 3, none⟩,
    ⟨some 55, .call { callee := (.value (.func 28)), args := #[(.tmp 53), (.tmp 54)], argTypes := #[24, 3] }, 39, none⟩]
@[go_sem] def c9_9 : Cmd := .cond (.tmp 52) c9_8 .skip
@[go_sem] def c9_10 : Cmd := .ops [⟨some 16, .assign (.const (.int .i64 0)), 3, none⟩]
@[go_sem] def c9_11 : Cmd := .ops [⟨some 56, .move (.tmp 16), 3, none⟩,
    ⟨some 57, .move (.tmp 1), 22, none⟩,
    ⟨some 58, .call { callee := (.builtin .len), args := #[(.tmp 57)], argTypes := #[22] }, 3, none⟩,
    ⟨some 59, .binOp .lss 3 (.tmp 56) (.tmp 58) 3, 4, none⟩,
    ⟨some 60, .move (.tmp 59), 4, none⟩,
    ⟨some 61, .move (.tmp 16), 3, some (60, true)⟩,
    ⟨some 62, .binOp .lss 3 (.tmp 61) (.const (.int .i64 200)) 3, 4, some (60, true)⟩,
    ⟨some 63, .pick (.tmp 60) (.tmp 62) (.const (.bool false)), 4, none⟩]
@[go_sem] def c9_12 : Cmd := .cond (.tmp 63) .skip (.exit 0)
@[go_sem] def c9_13 : Cmd := .ops [⟨some 66, .move (.tmp 14), 24, none⟩,
    ⟨some 67, .move (.tmp 1), 22, none⟩,
    ⟨some 68, .move (.tmp 16), 3, none⟩,
    ⟨some 69, .indexAddr 22 (.tmp 67) (.tmp 68), 0, none⟩,
    ⟨some 70, .load 30 (.tmp 69), 30, none⟩,
    ⟨some 71, .call { callee := (.value (.func 14)), args := #[(.tmp 66), (.tmp 70)], argTypes := #[24, 30] }, 3, none⟩]
@[go_sem] def c9_14 : Cmd := .block 1 c9_13
@[go_sem] def c9_15 : Cmd := .ops [⟨some 64, .move (.tmp 16), 3, none⟩,
    ⟨some 65, .binOp .add 3 (.tmp 64) (.const (.int .i64 1)) 3, 3, none⟩,
    ⟨some 16, .assign (.tmp 65), 3, none⟩]
def c9_L0 : Cmd := (.seq (.seq c9_11 c9_12) (.seq c9_14 c9_15))
@[go_sem] def c9_16 : Cmd := .loop c9_L0
@[go_sem] def c9_17 : Cmd := .block 0 c9_16
@[go_sem] def c9_18 : Cmd := .ops [⟨some 72, .move (.tmp 14), 24, none⟩,
    ⟨some 73, .move (.tmp 4), 3, none⟩,
    ⟨some 74, .move (.tmp 5), 62, none⟩,
    ⟨some 75, .call { callee := (.value (.func 25)), args := #[(.tmp 72), (.tmp 73), (.tmp 74)], argTypes := #[24, 3, 62] }, 0, none⟩]
@[go_sem] def c9_19 : Cmd := .ops [⟨some 76, .move (.tmp 14), 24, none⟩,
    ⟨some 77, .call { callee := (.value (.func 38)), args := #[(.tmp 76)], argTypes := #[24] }, 26, none⟩,
    ⟨some 17, .assign (.tmp 77), 26, none⟩]
@[go_sem] def c9_20 : Cmd := .ops [⟨some 78, .move (.tmp 14), 24, none⟩,
    ⟨some 79, .call { callee := (.value (.func 13)), args := #[(.tmp 78)], argTypes := #[24] }, 3, none⟩,
    ⟨some 80, .move (.tmp 0), 3, none⟩,
    ⟨some 81, .binOp .gtr 3 (.tmp 79) (.tmp 80) 3, 4, none⟩]
@[go_sem] def c9_21 : Cmd := .ops [⟨some 12, .assign (.const (.bool false)), 4, none⟩]
@[go_sem] def c9_22 : Cmd := .cond (.tmp 81) (.seq c9_21 .ret) .skip
@[go_sem] def c9_23 : Cmd := .ops [⟨some 18, .assign (.const (.int .i64 0)), 3, none⟩]
@[go_sem] def c9_24 : Cmd := .ops [⟨some 82, .move (.tmp 18), 3, none⟩,
    ⟨some 83, .move (.tmp 17), 26, none⟩,
    ⟨some 84, .call { callee := (.builtin .len), args := #[(.tmp 83)], argTypes := #[26] }, 3, none⟩,
    ⟨some 85, .binOp .lss 3 (.tmp 82) (.tmp 84) 3, 4, none⟩]
@[go_sem] def c9_25 : Cmd := .cond (.tmp 85) .skip (.exit 2)
@[go_sem] def c9_26 : Cmd := .ops [⟨some 88, .move (.tmp 15), 24, none⟩,
    ⟨some 89, .move (.tmp 17), 26, none⟩,
    ⟨some 90, .move (.tmp 18), 3, none⟩,
    ⟨some 91, .indexAddr 26 (.tmp 89) (.tmp 90), 0, none⟩,
    ⟨some 92, .fieldAddr 44 (.tmp 91) 0, 0, none⟩,
    ⟨some 93, .load 9 (.tmp 92), 9, none⟩,
    ⟨some 94, .call { callee := (.value (.func 39)), args := #[(.tmp 88), (.tmp 93)], argTypes := #[24, 9] }, 39, none⟩,
    ⟨some 19, .assign (.tmp 94), 39, none⟩]
@[go_sem] def c9_27 : Cmd := .still 11 [⟨some 95, .move (.tmp 15), 24, none⟩,
    ⟨some 96, .move (.tmp 17), 26, none⟩,
    ⟨some 97, .move (.tmp 18), 3, none⟩,
    ⟨some 98, .indexAddr 26 (.tmp 96) (.tmp 97), 0, none⟩,
    ⟨some 99, .fieldAddr 44 (.tmp 98) 0, 0, none⟩,
    ⟨some 100, .load 9 (.tmp 99), 9, none⟩,
    ⟨some 101, .move (.tmp 17), 26, none⟩,
    ⟨some 102, .move (.tmp 18), 3, none⟩,
    ⟨some 103, .indexAddr 26 (.tmp 101) (.tmp 102), 0, none⟩,
    ⟨some 104, .fieldAddr 44 (.tmp 103) 1, 0, none⟩,
    ⟨some 105, .load 34 (.tmp 104), 34, none⟩,
    ⟨some 106, .call { callee := (.value (.func 20)), args := #[(.tmp 95), (.tmp 100), (.tmp 105)], argTypes := #[24, 9, 34] }, 39, none⟩,
    ⟨some 20, .assign (.tmp 106), 39, none⟩]
@[go_sem] def c9_28 : Cmd := .ops [⟨some 107, .move (.tmp 15), 24, none⟩,
    ⟨some 108, .move (.tmp 17), 26, none⟩,
    ⟨some 109, .move (.tmp 18), 3, none⟩,
    ⟨some 110, .indexAddr 26 (.tmp 108) (.tmp 109), 0, none⟩,
    ⟨some 111, .fieldAddr 44 (.tmp 110) 0, 0, none⟩,
    ⟨some 112, .load 9 (.tmp 111), 9, none⟩,
    ⟨some 113, .call { callee := (.value (.func 21)), args := #[(.tmp 107), (.tmp 112)], argTypes := #[24, 9] }, 39, none⟩,
    ⟨some 21, .assign (.tmp 113), 39, none⟩]
@[go_sem] def c9_29 : Cmd := .ops [⟨some 114, .move (.tmp 19), 39, none⟩,
    ⟨some 115, .call { callee := (.value (.func 22)), args := #[(.tmp 114)], argTypes := #[39] }, 3, none⟩,
    ⟨some 116, .move (.tmp 20), 39, none⟩,
    ⟨some 117, .call { callee := (.value (.func 22)), args := #[(.tmp 116)], argTypes := #[39] }, 3, none⟩,
    ⟨some 118, .binOp .add 3 (.tmp 115) (.tmp 117) 3, 3, none⟩,
    ⟨some 119, .move (.tmp 21), 39, none⟩,
    ⟨some 120, .call { callee := (.value (.func 22)), args := #[(.tmp 119)], argTypes := #[39] }, 3, none⟩,
    ⟨some 121, .binOp .add 3 (.tmp 118) (.tmp 120) 3, 3, none⟩,
    ⟨some 122, .binOp .neq 3 (.tmp 121) (.const (.int .i64 0)) 3, 4, none⟩]
@[go_sem] def c9_30 : Cmd := .ops [⟨some 12, .assign (.const (.bool false)), 4, none⟩]
@[go_sem] def c9_31 : Cmd := .cond (.tmp 122) (.seq c9_30 .ret) .skip
@[go_sem] def c9_32 : Cmd := .block 3 (.seq c9_26 (.seq c9_27 (.seq c9_28 (.seq c9_29 c9_31))))
@[go_sem] def c9_33 : Cmd := .ops [⟨some 86, .move (.tmp 18), 3, none⟩,
    ⟨some 87, .binOp .add 3 (.tmp 86) (.const (.int .i64 1)) 3, 3, none⟩,
    ⟨some 18, .assign (.tmp 87), 3, none⟩]
def c9_L1 : Cmd := (.seq (.seq c9_24 c9_25) (.seq c9_32 c9_33))
@[go_sem] def c9_34 : Cmd := .loop c9_L1
@[go_sem] def c9_35 : Cmd := .block 2 c9_34
@[go_sem] def c9_36 : Cmd := .ops [⟨some 123, .move (.tmp 15), 24, none⟩,
    ⟨some 124, .call { callee := (.value (.func 34)), args := #[(.tmp 123)], argTypes := #[24] }, 39, none⟩]
@[go_sem] def c9_37 : Cmd := .ops [⟨some 22, .assign (.const (.int .i64 0)), 3, none⟩]
@[go_sem] def c9_38 : Cmd := .ops [⟨some 125, .move (.tmp 22), 3, none⟩,
    ⟨some 126, .move (.tmp 2), 22, none⟩,
    ⟨some 127, .call { callee := (.builtin .len), args := #[(.tmp 126)], argTypes := #[22] }, 3, none⟩,
    ⟨some 128, .binOp .lss 3 (.tmp 125) (.tmp 127) 3, 4, none⟩,
    ⟨some 129, .move (.tmp 128), 4, none⟩,
    ⟨some 130, .move (.tmp 22), 3, some (129, true)⟩,
    ⟨some 131, .binOp .lss 3 (.tmp 130) (.const (.int .i64 200)) 3, 4, some (129, true)⟩,
    ⟨some 132, .pick (.tmp 129) (.tmp 131) (.const (.bool false)), 4, none⟩]
@[go_sem] def c9_39 : Cmd := .cond (.tmp 132) .skip (.exit 4)
@[go_sem] def c9_40 : Cmd := .ops [⟨some 135, .move (.tmp 14), 24, none⟩,
    ⟨some 136, .move (.tmp 2), 22, none⟩,
    ⟨some 137, .move (.tmp 22), 3, none⟩,
    ⟨some 138, .indexAddr 22 (.tmp 136) (.tmp 137), 0, none⟩,
    ⟨some 139, .load 30 (.tmp 138), 30, none⟩,
    ⟨some 140, .call { callee := (.value (.func 14)), args := #[(.tmp 135), (.tmp 139)], argTypes := #[24, 30] }, 3, none⟩,
    ⟨some 23, .assign (.tmp 140), 3, none⟩]
@[go_sem] def c9_41 : Cmd := .ops [⟨some 141, .move (.tmp 15), 24, none⟩,
    ⟨some 142, .move (.tmp 2), 22, none⟩,
    ⟨some 143, .move (.tmp 22), 3, none⟩,
    ⟨some 144, .indexAddr 22 (.tmp 142) (.tmp 143), 0, none⟩,
    ⟨some 145, .load 30 (.tmp 144), 30, none⟩,
    ⟨some 146, .call { callee := (.value (.func 14)), args := #[(.tmp 141), (.tmp 145)], argTypes := #[24, 30] }, 3, none⟩,
    ⟨some 24, .assign (.tmp 146), 3, none⟩]
@[go_sem] def c9_42 : Cmd := .ops [⟨some 147, .move (.tmp 14), 24, none⟩,
    ⟨some 148, .call { callee := (.value (.func 33)), args := #[(.tmp 147)], argTypes := #[24] }, 58, none⟩,
    ⟨some 149, .move (.tmp 15), 24, none⟩,
    ⟨some 150, .call { callee := (.value (.func 33)), args := #[(.tmp 149)], argTypes := #[24] }, 58, none⟩,
    ⟨some 151, .call { callee := (.value (.func 40)), args := #[(.tmp 148), (.tmp 150)], argTypes := #[58, 58] }, 4, none⟩,
    ⟨some 25, .assign (.tmp 151), 4, none⟩]
@[go_sem] def c9_43 : Cmd := .ops [⟨some 152, .move (.tmp 14), 24, none⟩,
    ⟨some 153, .call { callee := (.value (.func 38)), args := #[(.tmp 152)], argTypes := #[24] }, 26, none⟩,
    ⟨some 154, .move (.tmp 15), 24, none⟩,
    ⟨some 155, .call { callee := (.value (.func 38)), args := #[(.tmp 154)], argTypes := #[24] }, 26, none⟩,
    ⟨some 156, .call { callee := (.value (.func 41)), args := #[(.tmp 153), (.tmp 155)], argTypes := #[26, 26] }, 4, none⟩,
    ⟨some 26, .assign (.tmp 156), 4, none⟩]
@[go_sem] def c9_44 : Cmd := .ops [⟨some 157, .move (.tmp 23), 3, none⟩,
    ⟨some 158, .move (.tmp 24), 3, none⟩,
    ⟨some 159, .binOp .neq 3 (.tmp 157) (.tmp 158) 3, 4, none⟩,
    ⟨some 160, .move (.tmp 159), 4, none⟩,
    ⟨some 161, .move (.tmp 25), 4, some (160, false)⟩,
    ⟨some 162, .unOp .not 4 (.tmp 161), 4, some (160, false)⟩,
    ⟨some 163, .pick (.tmp 160) (.const (.bool true)) (.tmp 162), 4, none⟩,
    ⟨some 164, .move (.tmp 163), 4, none⟩,
    ⟨some 165, .move (.tmp 26), 4, some (164, false)⟩,
    ⟨some 166, .unOp .not 4 (.tmp 165), 4, some (164, false)⟩,
    ⟨some 167, .pick (.tmp 164) (.const (.bool true)) (.tmp 166), 4, none⟩,
    ⟨some 168, .move (.tmp 167), 4, none⟩,
    ⟨some 169, .move (.tmp 14), 24, some (168, false)⟩,
    ⟨some 170, .call { callee := (.value (.func 13)), args := #[(.tmp 169)], argTypes := #[24] }, 3, some (168, false)⟩,
    ⟨some 171, .move (.tmp 15), 24, some (168, false)⟩,
    ⟨some 172, .call { callee := (.value (.func 13)), args := #[(.tmp 171)], argTypes := #[24] }, 3, some (168, false)⟩,
    ⟨some 173, .binOp .neq 3 (.tmp 170) (.tmp 172) 3, 4, some (168, false)⟩,
    ⟨some 174, .pick (.tmp 168) (.const (.bool true)) (.tmp 173), 4, none⟩,
    ⟨some 175, .move (.tmp 174), 4, none⟩,
    ⟨some 176, .move (.tmp 14), 24, some (175, false)⟩,
    ⟨some 177, .call { callee := (.value (.func 24)), args := #[(.tmp 176)], argTypes := #[24] }, 3, some (175, false)⟩,
    ⟨some 178, .move (.tmp 15), 24, some (175, false)⟩,
    ⟨some 179, .call { callee := (.value (.func 24)), args := #[(.tmp 178)], argTypes := #[24] }, 3, some (175, false)⟩,
    ⟨some 180, .binOp .neq 3 (.tmp 177) (.tmp 179) 3, 4, some (175, false)⟩,
    ⟨some 181, .pick (.tmp 175) (.const (.bool true)) (.tmp 180), 4, none⟩]
@[go_sem] def c9_45 : Cmd := .ops [⟨some 12, .assign (.const (.bool false)), 4, none⟩]
@[go_sem] def c9_46 : Cmd := .cond (.tmp 181) (.seq c9_45 .ret) .skip
@[go_sem] def c9_47 : Cmd := .block 5 (.seq c9_40 (.seq c9_41 (.seq c9_42 (.seq c9_43 (.seq c9_44 c9_46)))))
@[go_sem] def c9_48 : Cmd := .ops [⟨some 133, .move (.tmp 22), 3, none⟩,
    ⟨some 134, .binOp .add 3 (.tmp 133) (.const (.int .i64 1)) 3, 3, none⟩,
    ⟨some 22, .assign (.tmp 134), 3, none⟩]
def c9_L2 : Cmd := (.seq (.seq c9_38 c9_39) (.seq c9_47 c9_48))
@[go_sem] def c9_49 : Cmd := .loop c9_L2
@[go_sem] def c9_50 : Cmd := .block 4 c9_49
@[go_sem] def c9_51 : Cmd := .ops [⟨some 182, .move (.tmp 14), 24, none⟩,
    ⟨some 183, .move (.tmp 15), 24, none⟩,
    ⟨some 184, .call { callee := (.value (.func 42)), args := #[(.tmp 183)], argTypes := #[24] }, 26, none⟩,
    ⟨some 185, .call { callee := (.value (.func 19)), args := #[(.tmp 182), (.tmp 184)], argTypes := #[24, 26] }, 4, none⟩,
    ⟨some 12, .assign (.tmp 185), 4, none⟩]
@[go_sem] def c9 : Cmd := (.seq c9_0 (.seq c9_1 (.seq c9_2 (.seq c9_3 (.seq (.seq c9_4 c9_6) (.seq (.seq c9_7 c9_9) (.seq (.seq c9_10 c9_17) (.seq c9_18 (.seq c9_19 (.seq (.seq c9_20 c9_22) (.seq (.seq c9_23 c9_35) (.seq c9_36 (.seq (.seq c9_37 c9_50) (.seq c9_51 .ret))))))))))))))
theorem b9 : Try.f9.body.map (comp 186) = some c9 := by kernel_rfl
theorem r9 : Try.f9.results.toList = [.tmp 12] := by kernel_rfl
-- 10 pith/pithlaw8.FsPlays
@[go_sem] def c10_0 : Cmd := .ops [⟨some 6, .assign (.const (.bool false)), 4, none⟩]
@[go_sem] def c10_1 : Cmd := .ops [⟨some 15, .call { callee := (.value (.func 11)), args := #[], argTypes := #[] }, 4, none⟩,
    ⟨some 7, .assign (.tmp 15), 4, none⟩]
@[go_sem] def c10_2 : Cmd := .ops [⟨some 16, .move (.tmp 0), 3, none⟩,
    ⟨some 17, .call { callee := (.value (.func 12)), args := #[(.tmp 16)], argTypes := #[3] }, 24, none⟩,
    ⟨some 18, .move (.tmp 0), 3, none⟩,
    ⟨some 19, .call { callee := (.value (.func 26)), args := #[(.tmp 18)], argTypes := #[3] }, 48, none⟩,
    ⟨some 20, .build 51 #[(0, (.tmp 17)), (1, (.tmp 19))], 51, none⟩,
    ⟨some 8, .alloc 51, 0, none⟩,
    ⟨none, .store 51 (.tmp 8) (.tmp 20), 0, none⟩]
@[go_sem] def c10_3 : Cmd := .ops [⟨some 21, .move (.tmp 1), 3, none⟩,
    ⟨some 22, .call { callee := (.value (.func 12)), args := #[(.tmp 21)], argTypes := #[3] }, 24, none⟩,
    ⟨some 23, .move (.tmp 1), 3, none⟩,
    ⟨some 24, .call { callee := (.value (.func 26)), args := #[(.tmp 23)], argTypes := #[3] }, 48, none⟩,
    ⟨some 25, .build 51 #[(0, (.tmp 22)), (1, (.tmp 24))], 51, none⟩,
    ⟨some 9, .alloc 51, 0, none⟩,
    ⟨none, .store 51 (.tmp 9) (.tmp 25), 0, none⟩]
@[go_sem] def c10_4 : Cmd := .ops [⟨some 26, .move (.tmp 7), 4, none⟩,
    ⟨some 27, .unOp .not 4 (.tmp 26), 4, none⟩,
    ⟨some 28, .move (.tmp 27), 4, none⟩,
    ⟨some 29, .fieldAddr 51 (.tmp 8) 0, 0, some (28, false)⟩,
    ⟨some 30, .load 24 (.tmp 29), 24, some (28, false)⟩,
    ⟨some 31, .binOp .eql 24 (.tmp 30) (.const (.pointer none)) 24, 4, some (28, false)⟩,
    ⟨some 32, .fieldAddr 51 (.tmp 8) 1, 0, some (28, false)⟩,
    ⟨some 33, .load 48 (.tmp 32), 48, some (28, false)⟩,
    ⟨some 34, .binOp .eql 48 (.tmp 33) (.const (.pointer none)) 48, 4, some (28, false)⟩,
    ⟨some 35, .binOp .neq 4 (.tmp 31) (.tmp 34) 4, 4, some (28, false)⟩,
    ⟨some 36, .pick (.tmp 28) (.const (.bool true)) (.tmp 35), 4, none⟩,
    ⟨some 37, .move (.tmp 36), 4, none⟩,
    ⟨some 38, .fieldAddr 51 (.tmp 9) 0, 0, some (37, false)⟩,
    ⟨some 39, .load 24 (.tmp 38), 24, some (37, false)⟩,
    ⟨some 40, .binOp .eql 24 (.tmp 39) (.const (.pointer none)) 24, 4, some (37, false)⟩,
    ⟨some 41, .fieldAddr 51 (.tmp 9) 1, 0, some (37, false)⟩,
    ⟨some 42, .load 48 (.tmp 41), 48, some (37, false)⟩,
    ⟨some 43, .binOp .eql 48 (.tmp 42) (.const (.pointer none)) 48, 4, some (37, false)⟩,
    ⟨some 44, .binOp .neq 4 (.tmp 40) (.tmp 43) 4, 4, some (37, false)⟩,
    ⟨some 45, .pick (.tmp 37) (.const (.bool true)) (.tmp 44), 4, none⟩]
@[go_sem] def c10_5 : Cmd := .ops [⟨some 6, .assign (.const (.bool false)), 4, none⟩]
@[go_sem] def c10_6 : Cmd := .cond (.tmp 45) (.seq c10_5 .ret) .skip
@[go_sem] def c10_7 : Cmd := .ops [⟨some 10, .assign (.const (.int .i64 0)), 3, none⟩]
@[go_sem] def c10_8 : Cmd := .ops [⟨some 46, .move (.tmp 10), 3, none⟩,
    ⟨some 47, .move (.tmp 2), 73, none⟩,
    ⟨some 48, .call { callee := (.builtin .len), args := #[(.tmp 47)], argTypes := #[73] }, 3, none⟩,
    ⟨some 49, .binOp .lss 3 (.tmp 46) (.tmp 48) 3, 4, none⟩,
    ⟨some 50, .move (.tmp 49), 4, none⟩,
    ⟨some 51, .move (.tmp 10), 3, some (50, true)⟩,
    ⟨some 52, .binOp .lss 3 (.tmp 51) (.const (.int .i64 400)) 3, 4, some (50, true)⟩,
    ⟨some 53, .pick (.tmp 50) (.tmp 52) (.const (.bool false)), 4, none⟩]
@[go_sem] def c10_9 : Cmd := .cond (.tmp 53) .skip (.exit 0)
@[go_sem] def c10_10 : Cmd := .ops [⟨some 56, .load 51 (.tmp 8), 51, none⟩,
    ⟨some 11, .alloc 51, 0, none⟩,
    ⟨none, .store 51 (.tmp 11) (.tmp 56), 0, none⟩]
@[go_sem] def c10_11 : Cmd := .ops [⟨some 57, .move (.tmp 2), 73, none⟩,
    ⟨some 58, .move (.tmp 10), 3, none⟩,
    ⟨some 59, .indexAddr 73 (.tmp 57) (.tmp 58), 0, none⟩,
    ⟨some 60, .fieldAddr 75 (.tmp 59) 7, 0, none⟩,
    ⟨some 61, .load 4 (.tmp 60), 4, none⟩]
@[go_sem] def c10_12 : Cmd := .ops [⟨some 62, .load 51 (.tmp 9), 51, none⟩,
    ⟨none, .store 51 (.tmp 11) (.tmp 62), 0, none⟩]
@[go_sem] def c10_13 : Cmd := .cond (.tmp 61) c10_12 .skip
@[go_sem] def c10_14 : Cmd := .ops [⟨some 63, .move (.tmp 2), 73, none⟩,
    ⟨some 64, .move (.tmp 10), 3, none⟩,
    ⟨some 65, .indexAddr 73 (.tmp 63) (.tmp 64), 0, none⟩,
    ⟨some 66, .load 75 (.tmp 65), 75, none⟩,
    ⟨some 67, .call { callee := (.value (.func 43)), args := #[(.tmp 66)], argTypes := #[75] }, 4, none⟩,
    ⟨some 12, .assign (.tmp 67), 4, none⟩]
@[go_sem] def c10_15 : Cmd := .ops [⟨some 68, .fieldAddr 51 (.tmp 11) 0, 0, none⟩,
    ⟨some 69, .load 24 (.tmp 68), 24, none⟩,
    ⟨some 70, .binOp .eql 24 (.tmp 69) (.const (.pointer none)) 24, 4, none⟩,
    ⟨some 71, .move (.tmp 70), 4, none⟩,
    ⟨some 72, .move (.tmp 12), 4, some (71, false)⟩,
    ⟨some 73, .unOp .not 4 (.tmp 72), 4, some (71, false)⟩,
    ⟨some 74, .pick (.tmp 71) (.const (.bool true)) (.tmp 73), 4, none⟩]
@[go_sem] def c10_16 : Cmd := .cond (.tmp 74) (.exit 1) .skip
@[go_sem] def c10_17 : Cmd := .still 5 [⟨some 75, .load 51 (.tmp 11), 51, none⟩,
    ⟨some 76, .move (.tmp 2), 73, none⟩,
    ⟨some 77, .move (.tmp 10), 3, none⟩,
    ⟨some 78, .indexAddr 73 (.tmp 76) (.tmp 77), 0, none⟩,
    ⟨some 79, .load 75 (.tmp 78), 75, none⟩,
    ⟨some 80, .call { callee := (.value (.func 44)), args := #[(.tmp 75), (.tmp 79)], argTypes := #[51, 75] }, 4, none⟩,
    ⟨some 7, .assign (.tmp 80), 4, none⟩]
@[go_sem] def c10_18 : Cmd := .ops [⟨some 81, .move (.tmp 7), 4, none⟩,
    ⟨some 82, .unOp .not 4 (.tmp 81), 4, none⟩]
@[go_sem] def c10_19 : Cmd := .ops [⟨some 6, .assign (.const (.bool false)), 4, none⟩]
@[go_sem] def c10_20 : Cmd := .cond (.tmp 82) (.seq c10_19 .ret) .skip
@[go_sem] def c10_21 : Cmd := .block 1 (.seq c10_10 (.seq (.seq c10_11 c10_13) (.seq c10_14 (.seq (.seq c10_15 c10_16) (.seq c10_17 (.seq c10_18 c10_20))))))
@[go_sem] def c10_22 : Cmd := .ops [⟨some 54, .move (.tmp 10), 3, none⟩,
    ⟨some 55, .binOp .add 3 (.tmp 54) (.const (.int .i64 1)) 3, 3, none⟩,
    ⟨some 10, .assign (.tmp 55), 3, none⟩]
def c10_L0 : Cmd := (.seq (.seq c10_8 c10_9) (.seq c10_21 c10_22))
@[go_sem] def c10_23 : Cmd := .loop c10_L0
@[go_sem] def c10_24 : Cmd := .block 0 c10_23
@[go_sem] def c10_25 : Cmd := .ops [⟨some 83, .fieldAddr 51 (.tmp 8) 0, 0, none⟩,
    ⟨some 84, .load 24 (.tmp 83), 24, none⟩,
    ⟨some 85, .binOp .eql 24 (.tmp 84) (.const (.pointer none)) 24, 4, none⟩,
    ⟨some 86, .move (.tmp 85), 4, none⟩,
    ⟨some 87, .load 51 (.tmp 8), 51, some (86, false)⟩,
    ⟨some 88, .call { callee := (.value (.func 27)), args := #[(.tmp 87)], argTypes := #[51] }, 4, some (86, false)⟩,
    ⟨some 89, .pick (.tmp 86) (.const (.bool true)) (.tmp 88), 4, none⟩,
    ⟨some 13, .assign (.tmp 89), 4, none⟩]
@[go_sem] def c10_26 : Cmd := .ops [⟨some 90, .fieldAddr 51 (.tmp 9) 0, 0, none⟩,
    ⟨some 91, .load 24 (.tmp 90), 24, none⟩,
    ⟨some 92, .binOp .eql 24 (.tmp 91) (.const (.pointer none)) 24, 4, none⟩,
    ⟨some 93, .move (.tmp 92), 4, none⟩,
    ⟨some 94, .load 51 (.tmp 9), 51, some (93, false)⟩,
    ⟨some 95, .call { callee := (.value (.func 27)), args := #[(.tmp 94)], argTypes := #[51] }, 4, some (93, false)⟩,
    ⟨some 96, .pick (.tmp 93) (.const (.bool true)) (.tmp 95), 4, none⟩,
    ⟨some 14, .assign (.tmp 96), 4, none⟩]
@[go_sem] def c10_27 : Cmd := .ops [⟨some 97, .move (.tmp 13), 4, none⟩,
    ⟨some 98, .move (.tmp 97), 4, none⟩,
    ⟨some 99, .move (.tmp 14), 4, some (98, true)⟩,
    ⟨some 100, .pick (.tmp 98) (.tmp 99) (.const (.bool false)), 4, none⟩,
    ⟨some 6, .assign (.tmp 100), 4, none⟩]
@[go_sem] def c10 : Cmd := (.seq c10_0 (.seq c10_1 (.seq c10_2 (.seq c10_3 (.seq (.seq c10_4 c10_6) (.seq (.seq c10_7 c10_24) (.seq c10_25 (.seq c10_26 (.seq c10_27 .ret)))))))))
theorem b10 : Try.f10.body.map (comp 101) = some c10 := by kernel_rfl
theorem r10 : Try.f10.results.toList = [.tmp 6] := by kernel_rfl
end Go.Proofs.Ytmkheogjnlmkdaa
