/- The functions' code as commands; printed by wip/Gen.lean off the translation. -/
import Derived.Test.YtcgejfmbhpmjfaaProg
import Derived.Test.YtcgejfmbhpmjfaaVBase
import Derived.KernelRfl
set_option maxRecDepth 100000
set_option linter.unusedSimpArgs false
namespace Go.Proofs.Ytcgejfmbhpmjfaa
open Go Go.V
theorem mixed : Try.prog.follows .mixedOrders = true := by kernel_rfl
-- 11 pith/pithlaw11.first
@[go_sem] def c11_0 : Cmd := .ops [⟨some 0, .assign (.const (.bool false)), 4, none⟩]
@[go_sem] def c11_1 : Cmd := .ops [⟨some 23, .call { callee := (.value (.func 39)), args := #[(.const (.int .i64 3)), (.const (.int .i64 1))], argTypes := #[3, 3] }, 24, none⟩,
    ⟨some 24, .call { callee := (.value (.func 39)), args := #[(.const (.int .i64 1)), (.const (.int .i64 2))], argTypes := #[3, 3] }, 24, none⟩,
    ⟨some 25, .call { callee := (.value (.func 39)), args := #[(.const (.int .i64 3)), (.const (.int .i64 1))], argTypes := #[3, 3] }, 24, none⟩,
    ⟨some 26, .call { callee := (.value (.func 39)), args := #[(.const (.int .i64 1)), (.const (.int .i64 0))], argTypes := #[3, 3] }, 24, none⟩,
    ⟨some 27, .buildSlice 22 4 #[(0, (.tmp 23)), (1, (.tmp 24)), (2, (.tmp 25)), (3, (.tmp 26))], 22, none⟩,
    ⟨some 28, .call { callee := (.value (.func 16)), args := #[(.tmp 27)], argTypes := #[22] }, 22, none⟩,
    ⟨some 1, .assign (.tmp 28), 22, none⟩]
@[go_sem] def c11_2 : Cmd := .ops [⟨some 29, .move (.tmp 1), 22, none⟩,
    ⟨some 30, .call { callee := (.value (.func 39)), args := #[(.const (.int .i64 1)), (.const (.int .i64 0))], argTypes := #[3, 3] }, 24, none⟩,
    ⟨some 31, .call { callee := (.value (.func 39)), args := #[(.const (.int .i64 1)), (.const (.int .i64 2))], argTypes := #[3, 3] }, 24, none⟩,
    ⟨some 32, .call { callee := (.value (.func 39)), args := #[(.const (.int .i64 3)), (.const (.int .i64 1))], argTypes := #[3, 3] }, 24, none⟩,
    ⟨some 33, .buildSlice 22 3 #[(0, (.tmp 30)), (1, (.tmp 31)), (2, (.tmp 32))], 22, none⟩,
    ⟨some 34, .call { callee := (.value (.func 15)), args := #[(.tmp 29), (.tmp 33)], argTypes := #[22, 22] }, 4, none⟩,
    ⟨some 2, .assign (.tmp 34), 4, none⟩]
@[go_sem] def c11_3 : Cmd := .ops [⟨some 36, .call { callee := (.value (.func 39)), args := #[(.const (.int .i64 1)), (.const (.int .i64 0))], argTypes := #[3, 3] }, 24, none⟩,
    ⟨some 37, .call { callee := (.value (.func 39)), args := #[(.const (.int .i64 1)), (.const (.int .i64 2))], argTypes := #[3, 3] }, 24, none⟩,
    ⟨some 38, .call { callee := (.value (.func 39)), args := #[(.const (.int .i64 3)), (.const (.int .i64 1))], argTypes := #[3, 3] }, 24, none⟩,
    ⟨some 39, .buildSlice 22 3 #[(0, (.tmp 36)), (1, (.tmp 37)), (2, (.tmp 38))], 22, none⟩,
    ⟨some 40, .call { callee := (.value (.func 20)), args := #[(.tmp 39)], argTypes := #[22] }, 32, none⟩,
    ⟨some 35, .move (.tmp 40), 32, none⟩,
    ⟨some 41, .extract (.tmp 35) 0, 30, none⟩,
    ⟨some 42, .extract (.tmp 35) 1, 31, none⟩,
    ⟨some 3, .assign (.tmp 41), 30, none⟩,
    ⟨some 4, .assign (.tmp 42), 31, none⟩]
@[go_sem] def c11_4 : Cmd := .ops [⟨some 43, .move (.tmp 3), 30, none⟩,
    ⟨some 44, .buildSlice 30 7 #[(0, (.const (.int .u8 3))), (1, (.const (.int .u8 1))), (2, (.const (.int .u8 0))), (3, (.const (.int .u8 0))), (4, (.const (.int .u8 1))), (5, (.const (.int .u8 2))), (6, (.const (.int .u8 1)))], 30, none⟩,
    ⟨some 45, .call { callee := (.value (.func 22)), args := #[(.tmp 43), (.tmp 44)], argTypes := #[30, 30] }, 4, none⟩,
    ⟨some 5, .assign (.tmp 45), 4, none⟩]
@[go_sem] def c11_5 : Cmd := .ops [⟨some 47, .buildSlice 30 5 #[(0, (.const (.int .u8 1))), (1, (.const (.int .u8 130))), (2, (.const (.int .u8 44))), (3, (.const (.int .u8 129))), (4, (.const (.int .u8 72)))], 30, none⟩,
    ⟨some 48, .call { callee := (.value (.func 33)), args := #[(.tmp 47)], argTypes := #[30] }, 57, none⟩,
    ⟨some 46, .move (.tmp 48), 57, none⟩,
    ⟨some 49, .extract (.tmp 46) 0, 22, none⟩,
    ⟨some 50, .extract (.tmp 46) 1, 31, none⟩,
    ⟨some 6, .assign (.tmp 49), 22, none⟩,
    ⟨some 7, .assign (.tmp 50), 31, none⟩]
@[go_sem] def c11_6 : Cmd := .ops [⟨some 51, .move (.tmp 6), 22, none⟩,
    ⟨some 52, .call { callee := (.value (.func 39)), args := #[(.const (.int .i64 300)), (.const (.int .i64 200))], argTypes := #[3, 3] }, 24, none⟩,
    ⟨some 53, .buildSlice 22 1 #[(0, (.tmp 52))], 22, none⟩,
    ⟨some 54, .call { callee := (.value (.func 15)), args := #[(.tmp 51), (.tmp 53)], argTypes := #[22, 22] }, 4, none⟩,
    ⟨some 8, .assign (.tmp 54), 4, none⟩]
@[go_sem] def c11_7 : Cmd := .ops [⟨some 56, .buildSlice 30 1 #[(0, (.const (.int .u8 0)))], 30, none⟩,
    ⟨some 57, .call { callee := (.value (.func 33)), args := #[(.tmp 56)], argTypes := #[30] }, 57, none⟩,
    ⟨some 55, .move (.tmp 57), 57, none⟩,
    ⟨some 58, .extract (.tmp 55) 0, 22, none⟩,
    ⟨some 59, .extract (.tmp 55) 1, 31, none⟩,
    ⟨some 9, .assign (.tmp 58), 22, none⟩,
    ⟨some 10, .assign (.tmp 59), 31, none⟩]
@[go_sem] def c11_8 : Cmd := .ops [⟨some 60, .call { callee := (.value (.func 26)), args := #[(.const (.int .i64 2))], argTypes := #[3] }, 46, none⟩,
    ⟨some 11, .assign (.tmp 60), 46, none⟩]
@[go_sem] def c11_9 : Cmd := .ops [⟨some 61, .move (.tmp 11), 46, none⟩,
    ⟨some 62, .binOp .eql 46 (.tmp 61) (.const (.pointer none)) 46, 4, none⟩,
    ⟨some 63, .move (.tmp 62), 4, none⟩,
    ⟨some 64, .move (.tmp 4), 31, some (63, false)⟩,
    ⟨some 65, .call { callee := (.value (.func 23)), args := #[(.tmp 64)], argTypes := #[31] }, 3, some (63, false)⟩,
    ⟨some 66, .binOp .neq 3 (.tmp 65) (.const (.int .i64 0)) 3, 4, some (63, false)⟩,
    ⟨some 67, .pick (.tmp 63) (.const (.bool true)) (.tmp 66), 4, none⟩,
    ⟨some 68, .move (.tmp 67), 4, none⟩,
    ⟨some 69, .move (.tmp 7), 31, some (68, false)⟩,
    ⟨some 70, .call { callee := (.value (.func 23)), args := #[(.tmp 69)], argTypes := #[31] }, 3, some (68, false)⟩,
    ⟨some 71, .binOp .neq 3 (.tmp 70) (.const (.int .i64 0)) 3, 4, some (68, false)⟩,
    ⟨some 72, .pick (.tmp 68) (.const (.bool true)) (.tmp 71), 4, none⟩,
    ⟨some 73, .move (.tmp 72), 4, none⟩,
    ⟨some 74, .move (.tmp 10), 31, some (73, false)⟩,
    ⟨some 75, .call { callee := (.value (.func 23)), args := #[(.tmp 74)], argTypes := #[31] }, 3, some (73, false)⟩,
    ⟨some 76, .binOp .neq 3 (.tmp 75) (.const (.int .i64 90)) 3, 4, some (73, false)⟩,
    ⟨some 77, .pick (.tmp 73) (.const (.bool true)) (.tmp 76), 4, none⟩,
    ⟨some 78, .move (.tmp 77), 4, none⟩,
    ⟨some 79, .move (.tmp 2), 4, some (78, false)⟩,
    ⟨some 80, .unOp .not 4 (.tmp 79), 4, some (78, false)⟩,
    ⟨some 81, .pick (.tmp 78) (.const (.bool true)) (.tmp 80), 4, none⟩,
    ⟨some 82, .move (.tmp 81), 4, none⟩,
    ⟨some 83, .move (.tmp 5), 4, some (82, false)⟩,
    ⟨some 84, .unOp .not 4 (.tmp 83), 4, some (82, false)⟩,
    ⟨some 85, .pick (.tmp 82) (.const (.bool true)) (.tmp 84), 4, none⟩,
    ⟨some 86, .move (.tmp 85), 4, none⟩,
    ⟨some 87, .move (.tmp 8), 4, some (86, false)⟩,
    ⟨some 88, .unOp .not 4 (.tmp 87), 4, some (86, false)⟩,
    ⟨some 89, .pick (.tmp 86) (.const (.bool true)) (.tmp 88), 4, none⟩]
@[go_sem] def c11_10 : Cmd := .ops [⟨some 0, .assign (.const (.bool false)), 4, none⟩]
@[go_sem] def c11_11 : Cmd := .cond (.tmp 89) (.seq c11_10 .ret) .skip
@[go_sem] def c11_12 : Cmd := .ops [⟨some 90, .move (.tmp 11), 46, none⟩,
    ⟨some 91, .call { callee := (.value (.func 39)), args := #[(.const (.int .i64 1)), (.const (.int .i64 2))], argTypes := #[3, 3] }, 24, none⟩,
    ⟨some 92, .call { callee := (.value (.func 39)), args := #[(.const (.int .i64 4)), (.const (.int .i64 4))], argTypes := #[3, 3] }, 24, none⟩,
    ⟨some 93, .buildSlice 22 2 #[(0, (.tmp 91)), (1, (.tmp 92))], 22, none⟩,
    ⟨some 94, .call { callee := (.value (.func 35)), args := #[(.tmp 90), (.const (.int .i64 0)), (.tmp 93), (.const (.bool false))], argTypes := #[46, 3, 22, 4] }, 31, none⟩,
    ⟨some 12, .assign (.tmp 94), 31, none⟩]
@[go_sem] def c11_13 : Cmd := .ops [⟨some 96, .move (.tmp 11), 46, none⟩,
    ⟨some 97, .call { callee := (.value (.func 40)), args := #[(.tmp 96)], argTypes := #[46] }, 72, none⟩,
    ⟨some 95, .move (.tmp 97), 72, none⟩,
    ⟨some 98, .extract (.tmp 95) 0, 24, none⟩,
    ⟨some 99, .extract (.tmp 95) 1, 4, none⟩,
    ⟨some 13, .alloc 24, 0, none⟩,
    ⟨none, .store 24 (.tmp 13) (.tmp 98), 0, none⟩,
    ⟨some 14, .assign (.tmp 99), 4, none⟩]
@[go_sem] def c11_14 : Cmd := .ops [⟨some 100, .move (.tmp 11), 46, none⟩,
    ⟨some 101, .call { callee := (.value (.func 37)), args := #[(.tmp 100)], argTypes := #[46] }, 3, none⟩,
    ⟨some 15, .assign (.tmp 101), 3, none⟩]
@[go_sem] def c11_15 : Cmd := .ops [⟨some 102, .move (.tmp 11), 46, none⟩,
    ⟨some 103, .call { callee := (.value (.func 39)), args := #[(.const (.int .i64 1)), (.const (.int .i64 2))], argTypes := #[3, 3] }, 24, none⟩,
    ⟨some 104, .buildSlice 22 1 #[(0, (.tmp 103))], 22, none⟩,
    ⟨some 105, .call { callee := (.value (.func 35)), args := #[(.tmp 102), (.const (.int .i64 1)), (.tmp 104), (.const (.bool true))], argTypes := #[46, 3, 22, 4] }, 31, none⟩,
    ⟨some 16, .assign (.tmp 105), 31, none⟩]
@[go_sem] def c11_16 : Cmd := .ops [⟨some 107, .move (.tmp 11), 46, none⟩,
    ⟨some 108, .call { callee := (.value (.func 40)), args := #[(.tmp 107)], argTypes := #[46] }, 72, none⟩,
    ⟨some 106, .move (.tmp 108), 72, none⟩,
    ⟨some 109, .extract (.tmp 106) 0, 24, none⟩,
    ⟨some 110, .extract (.tmp 106) 1, 4, none⟩,
    ⟨some 17, .alloc 24, 0, none⟩,
    ⟨none, .store 24 (.tmp 17) (.tmp 109), 0, none⟩,
    ⟨some 18, .assign (.tmp 110), 4, none⟩]
@[go_sem] def c11_17 : Cmd := .ops [⟨some 112, .move (.tmp 11), 46, none⟩,
    ⟨some 113, .call { callee := (.value (.func 40)), args := #[(.tmp 112)], argTypes := #[46] }, 72, none⟩,
    ⟨some 111, .move (.tmp 113), 72, none⟩,
    ⟨some 114, .extract (.tmp 111) 0, 24, none⟩,
    ⟨some 115, .extract (.tmp 111) 1, 4, none⟩,
    ⟨some 19, .alloc 24, 0, none⟩,
    ⟨none, .store 24 (.tmp 19) (.tmp 114), 0, none⟩,
    ⟨some 20, .assign (.tmp 115), 4, none⟩]
@[go_sem] def c11_18 : Cmd := .ops [⟨some 117, .move (.tmp 11), 46, none⟩,
    ⟨some 118, .call { callee := (.value (.func 40)), args := #[(.tmp 117)], argTypes := #[46] }, 72, none⟩,
    ⟨some 116, .move (.tmp 118), 72, none⟩,
    ⟨some 119, .extract (.tmp 116) 0, 24, none⟩,
    ⟨some 120, .extract (.tmp 116) 1, 4, none⟩,
    ⟨some 21, .alloc 24, 0, none⟩,
    ⟨none, .store 24 (.tmp 21) (.tmp 119), 0, none⟩,
    ⟨some 22, .assign (.tmp 120), 4, none⟩]
@[go_sem] def c11_19 : Cmd := .draw (.step 3 ⟨some 121, .move (.tmp 12), 31, none⟩
    (.step 3 ⟨some 123, .move (.tmp 16), 31, none⟩
    (.step 1 ⟨some 122, .call { callee := (.value (.func 23)), args := #[(.tmp 121)], argTypes := #[31] }, 3, none⟩
    (.step 1 ⟨some 124, .call { callee := (.value (.func 23)), args := #[(.tmp 123)], argTypes := #[31] }, 3, none⟩
    (.step 3 ⟨some 125, .binOp .add 3 (.tmp 122) (.tmp 124) 3, 3, none⟩
    (.step 3 ⟨some 126, .binOp .eql 3 (.tmp 125) (.const (.int .i64 0)) 3, 4, none⟩
    (.step 3 ⟨some 127, .move (.tmp 126), 4, none⟩
    (.step 3 ⟨some 128, .move (.tmp 14), 4, some (127, true)⟩
    (.step 3 ⟨some 129, .unOp .not 4 (.tmp 128), 4, some (127, true)⟩
    (.step 3 ⟨some 130, .pick (.tmp 127) (.tmp 129) (.const (.bool false)), 4, none⟩
    (.step 3 ⟨some 131, .move (.tmp 130), 4, none⟩
    (.step 3 ⟨some 132, .move (.tmp 15), 3, some (131, true)⟩
    (.step 3 ⟨some 133, .binOp .eql 3 (.tmp 132) (.const (.int .i64 1)) 3, 4, some (131, true)⟩
    (.step 3 ⟨some 134, .pick (.tmp 131) (.tmp 133) (.const (.bool false)), 4, none⟩
    (.step 3 ⟨some 135, .move (.tmp 134), 4, none⟩
    (.step 3 ⟨some 136, .move (.tmp 18), 4, some (135, true)⟩
    (.step 3 ⟨some 137, .pick (.tmp 135) (.tmp 136) (.const (.bool false)), 4, none⟩
    (.step 3 ⟨some 138, .move (.tmp 137), 4, none⟩
    (.step 3 ⟨some 139, .move (.tmp 20), 4, some (138, true)⟩
    (.step 3 ⟨some 140, .pick (.tmp 138) (.tmp 139) (.const (.bool false)), 4, none⟩
    (.step 3 ⟨some 141, .move (.tmp 140), 4, none⟩
    (.step 3 ⟨some 142, .move (.tmp 22), 4, some (141, true)⟩
    (.step 3 ⟨some 143, .unOp .not 4 (.tmp 142), 4, some (141, true)⟩
    (.step 3 ⟨some 144, .pick (.tmp 141) (.tmp 143) (.const (.bool false)), 4, none⟩
    (.step 3 ⟨some 145, .move (.tmp 144), 4, none⟩
    (.step 0 ⟨some 146, .load 24 (.tmp 17), 24, some (145, true)⟩
    (.step 1 ⟨some 147, .call { callee := (.value (.func 39)), args := #[(.const (.int .i64 1)), (.const (.int .i64 2))], argTypes := #[3, 3] }, 24, some (145, true)⟩
    (.step 1 ⟨some 148, .binOp .eql 24 (.tmp 146) (.tmp 147) 24, 4, some (145, true)⟩
    (.step 3 ⟨some 149, .pick (.tmp 145) (.tmp 148) (.const (.bool false)), 4, none⟩
    (.step 3 ⟨some 150, .move (.tmp 149), 4, none⟩
    (.step 0 ⟨some 151, .load 24 (.tmp 19), 24, some (150, true)⟩
    (.step 1 ⟨some 152, .call { callee := (.value (.func 39)), args := #[(.const (.int .i64 4)), (.const (.int .i64 4))], argTypes := #[3, 3] }, 24, some (150, true)⟩
    (.step 1 ⟨some 153, .binOp .eql 24 (.tmp 151) (.tmp 152) 24, 4, some (150, true)⟩
    (.step 3 ⟨some 154, .pick (.tmp 150) (.tmp 153) (.const (.bool false)), 4, none⟩
    (.step 3 ⟨some 155, .move (.tmp 154), 4, none⟩
    (.step 3 ⟨some 156, .move (.tmp 11), 46, some (155, true)⟩
    (.step 1 ⟨some 157, .call { callee := (.value (.func 38)), args := #[(.tmp 156)], argTypes := #[46] }, 3, some (155, true)⟩
    (.step 3 ⟨some 158, .binOp .eql 3 (.tmp 157) (.const (.int .i64 0)) 3, 4, some (155, true)⟩
    (.step 3 ⟨some 159, .pick (.tmp 155) (.tmp 158) (.const (.bool false)), 4, none⟩
    (.step 3 ⟨some 160, .move (.tmp 159), 4, none⟩
    (.step 0 ⟨some 161, .load 24 (.tmp 17), 24, some (160, true)⟩
    (.step 0 ⟨some 162, .load 24 (.tmp 19), 24, some (160, true)⟩
    (.step 1 ⟨some 163, .call { callee := (.value (.func 12)), args := #[(.tmp 161), (.tmp 162)], argTypes := #[24, 24] }, 4, some (160, true)⟩
    (.step 3 ⟨some 164, .pick (.tmp 160) (.tmp 163) (.const (.bool false)), 4, none⟩
    (.step 3 ⟨some 0, .assign (.tmp 164), 4, none⟩
    .done)))))))))))))))))))))))))))))))))))))))))))))
@[go_sem] def c11 : Cmd := (.seq c11_0 (.seq c11_1 (.seq c11_2 (.seq c11_3 (.seq c11_4 (.seq c11_5 (.seq c11_6 (.seq c11_7 (.seq c11_8 (.seq (.seq c11_9 c11_11) (.seq c11_12 (.seq c11_13 (.seq c11_14 (.seq c11_15 (.seq c11_16 (.seq c11_17 (.seq c11_18 (.seq c11_19 .ret))))))))))))))))))
theorem b11 : Try.f11.body.map (comp 165) = some c11 := by kernel_rfl
theorem r11 : Try.f11.results.toList = [.tmp 0] := by kernel_rfl
-- 12 pith/runs.Less
@[go_sem] def c12_0 : Cmd := .ops [⟨some 2, .box 24 (.tmp 0), 0, none⟩,
    ⟨some 3, .box 24 (.tmp 1), 0, none⟩,
    ⟨some 4, .assign (.const (.bool false)), 4, none⟩]
@[go_sem] def c12_1 : Cmd := .ops [⟨some 5, .load 24 (.tmp 2), 24, none⟩,
    ⟨some 6, .load 24 (.tmp 3), 24, none⟩,
    ⟨some 7, .call { callee := (.value (.func 41)), args := #[(.tmp 5), (.tmp 6)], argTypes := #[24, 24] }, 3, none⟩,
    ⟨some 8, .binOp .lss 3 (.tmp 7) (.const (.int .i64 0)) 3, 4, none⟩,
    ⟨some 4, .assign (.tmp 8), 4, none⟩]
@[go_sem] def c12 : Cmd := (.seq c12_0 (.seq c12_1 .ret))
theorem b12 : Try.f12.body.map (comp 9) = some c12 := by kernel_rfl
theorem r12 : Try.f12.results.toList = [.tmp 4] := by kernel_rfl
-- 13 pith/pithref11.Less
@[go_sem] def c13_0 : Cmd := .ops [⟨some 2, .box 24 (.tmp 0), 0, none⟩,
    ⟨some 3, .box 24 (.tmp 1), 0, none⟩,
    ⟨some 4, .assign (.const (.bool false)), 4, none⟩]
@[go_sem] def c13_1 : Cmd := .ops [⟨some 5, .fieldAddr 24 (.tmp 2) 0, 0, none⟩,
    ⟨some 6, .load 3 (.tmp 5), 3, none⟩,
    ⟨some 7, .fieldAddr 24 (.tmp 3) 0, 0, none⟩,
    ⟨some 8, .load 3 (.tmp 7), 3, none⟩,
    ⟨some 9, .binOp .lss 3 (.tmp 6) (.tmp 8) 3, 4, none⟩,
    ⟨some 10, .move (.tmp 9), 4, none⟩,
    ⟨some 11, .fieldAddr 24 (.tmp 2) 0, 0, some (10, false)⟩,
    ⟨some 12, .load 3 (.tmp 11), 3, some (10, false)⟩,
    ⟨some 13, .fieldAddr 24 (.tmp 3) 0, 0, some (10, false)⟩,
    ⟨some 14, .load 3 (.tmp 13), 3, some (10, false)⟩,
    ⟨some 15, .binOp .eql 3 (.tmp 12) (.tmp 14) 3, 4, some (10, false)⟩,
    ⟨some 16, .move (.tmp 15), 4, some (10, false)⟩,
    ⟨some 17, .fieldAddr 24 (.tmp 2) 1, 0, some (16, true)⟩,
    ⟨some 18, .load 3 (.tmp 17), 3, some (16, true)⟩,
    ⟨some 19, .fieldAddr 24 (.tmp 3) 1, 0, some (16, true)⟩,
    ⟨some 20, .load 3 (.tmp 19), 3, some (16, true)⟩,
    ⟨some 21, .binOp .lss 3 (.tmp 18) (.tmp 20) 3, 4, some (16, true)⟩,
    ⟨some 22, .pick (.tmp 16) (.tmp 21) (.const (.bool false)), 4, some (10, false)⟩,
    ⟨some 23, .pick (.tmp 10) (.const (.bool true)) (.tmp 22), 4, none⟩,
    ⟨some 4, .assign (.tmp 23), 4, none⟩]
@[go_sem] def c13 : Cmd := (.seq c13_0 (.seq c13_1 .ret))
theorem b13 : Try.f13.body.map (comp 24) = some c13 := by kernel_rfl
theorem r13 : Try.f13.results.toList = [.tmp 4] := by kernel_rfl
-- 14 pith/pithlaw11.room
@[go_sem] def c14_0 : Cmd := .ops [⟨some 2, .assign (.const (.slice none 0 0)), 22, none⟩]
@[go_sem] def c14_1 : Cmd := .ops [⟨some 4, .move (.tmp 0), 22, none⟩,
    ⟨some 5, .call { callee := (.value (.func 18)), args := #[(.tmp 4)], argTypes := #[22] }, 22, none⟩,
    ⟨some 6, .call { callee := (.value (.func 39)), args := #[(.const (.int .i64 201)), (.const (.int .i64 202))], argTypes := #[3, 3] }, 24, none⟩,
    ⟨some 7, .call { callee := (.value (.func 39)), args := #[(.const (.int .i64 203)), (.const (.int .i64 204))], argTypes := #[3, 3] }, 24, none⟩,
    ⟨some 8, .buildSlice 22 2 #[(0, (.tmp 6)), (1, (.tmp 7))], 22, none⟩,
    ⟨some 9, .call { callee := (.builtin .append), args := #[(.tmp 5), (.tmp 8)], argTypes := #[22, 22] }, 22, none⟩,
    ⟨some 3, .assign (.tmp 9), 22, none⟩]
@[go_sem] def c14_2 : Cmd := .ops [⟨some 10, .move (.tmp 3), 22, none⟩,
    ⟨some 11, .move (.tmp 0), 22, none⟩,
    ⟨some 12, .call { callee := (.builtin .len), args := #[(.tmp 11)], argTypes := #[22] }, 3, none⟩,
    ⟨some 13, .slice 22 (.tmp 10) none (some (.tmp 12)) none, 22, none⟩,
    ⟨some 2, .assign (.tmp 13), 22, none⟩]
@[go_sem] def c14 : Cmd := (.seq c14_0 (.seq c14_1 (.seq c14_2 .ret)))
theorem b14 : Try.f14.body.map (comp 14) = some c14 := by kernel_rfl
theorem r14 : Try.f14.results.toList = [.tmp 2] := by kernel_rfl
-- 15 pith/pithref.SamePairs
@[go_sem] def c15_0 : Cmd := .ops [⟨some 4, .assign (.const (.bool false)), 4, none⟩]
@[go_sem] def c15_1 : Cmd := .ops [⟨some 6, .move (.tmp 0), 22, none⟩,
    ⟨some 7, .call { callee := (.builtin .len), args := #[(.tmp 6)], argTypes := #[22] }, 3, none⟩,
    ⟨some 8, .move (.tmp 1), 22, none⟩,
    ⟨some 9, .call { callee := (.builtin .len), args := #[(.tmp 8)], argTypes := #[22] }, 3, none⟩,
    ⟨some 10, .binOp .neq 3 (.tmp 7) (.tmp 9) 3, 4, none⟩]
@[go_sem] def c15_2 : Cmd := .ops [⟨some 4, .assign (.const (.bool false)), 4, none⟩]
@[go_sem] def c15_3 : Cmd := .cond (.tmp 10) (.seq c15_2 .ret) .skip
@[go_sem] def c15_4 : Cmd := .ops [⟨some 5, .assign (.const (.int .i64 0)), 3, none⟩]
@[go_sem] def c15_5 : Cmd := .ops [⟨some 11, .move (.tmp 5), 3, none⟩,
    ⟨some 12, .move (.tmp 0), 22, none⟩,
    ⟨some 13, .call { callee := (.builtin .len), args := #[(.tmp 12)], argTypes := #[22] }, 3, none⟩,
    ⟨some 14, .binOp .lss 3 (.tmp 11) (.tmp 13) 3, 4, none⟩]
@[go_sem] def c15_6 : Cmd := .cond (.tmp 14) .skip (.exit 0)
@[go_sem] def c15_7 : Cmd := .quiet [⟨some 17, .move (.tmp 0), 22, none⟩,
    ⟨some 18, .move (.tmp 5), 3, none⟩,
    ⟨some 19, .indexAddr 22 (.tmp 17) (.tmp 18), 0, none⟩,
    ⟨some 20, .fieldAddr 24 (.tmp 19) 0, 0, none⟩,
    ⟨some 21, .load 3 (.tmp 20), 3, none⟩,
    ⟨some 22, .move (.tmp 1), 22, none⟩,
    ⟨some 23, .move (.tmp 5), 3, none⟩,
    ⟨some 24, .indexAddr 22 (.tmp 22) (.tmp 23), 0, none⟩,
    ⟨some 25, .fieldAddr 24 (.tmp 24) 0, 0, none⟩,
    ⟨some 26, .load 3 (.tmp 25), 3, none⟩,
    ⟨some 27, .binOp .eql 3 (.tmp 21) (.tmp 26) 3, 4, none⟩,
    ⟨some 28, .move (.tmp 27), 4, none⟩,
    ⟨some 29, .move (.tmp 0), 22, some (28, true)⟩,
    ⟨some 30, .move (.tmp 5), 3, some (28, true)⟩,
    ⟨some 31, .indexAddr 22 (.tmp 29) (.tmp 30), 0, some (28, true)⟩,
    ⟨some 32, .fieldAddr 24 (.tmp 31) 1, 0, some (28, true)⟩,
    ⟨some 33, .load 3 (.tmp 32), 3, some (28, true)⟩,
    ⟨some 34, .move (.tmp 1), 22, some (28, true)⟩,
    ⟨some 35, .move (.tmp 5), 3, some (28, true)⟩,
    ⟨some 36, .indexAddr 22 (.tmp 34) (.tmp 35), 0, some (28, true)⟩,
    ⟨some 37, .fieldAddr 24 (.tmp 36) 1, 0, some (28, true)⟩,
    ⟨some 38, .load 3 (.tmp 37), 3, some (28, true)⟩,
    ⟨some 39, .binOp .eql 3 (.tmp 33) (.tmp 38) 3, 4, some (28, true)⟩,
    ⟨some 40, .pick (.tmp 28) (.tmp 39) (.const (.bool false)), 4, none⟩,
    ⟨some 41, .unOp .not 4 (.tmp 40), 4, none⟩]
@[go_sem] def c15_8 : Cmd := .ops [⟨some 4, .assign (.const (.bool false)), 4, none⟩]
@[go_sem] def c15_9 : Cmd := .cond (.tmp 41) (.seq c15_8 .ret) .skip
@[go_sem] def c15_10 : Cmd := .block 1 (.seq c15_7 c15_9)
@[go_sem] def c15_11 : Cmd := .ops [⟨some 15, .move (.tmp 5), 3, none⟩,
    ⟨some 16, .binOp .add 3 (.tmp 15) (.const (.int .i64 1)) 3, 3, none⟩,
    ⟨some 5, .assign (.tmp 16), 3, none⟩]
def c15_L0 : Cmd := (.seq (.seq c15_5 c15_6) (.seq c15_10 c15_11))
@[go_sem] def c15_12 : Cmd := .loop c15_L0
@[go_sem] def c15_13 : Cmd := .block 0 c15_12
@[go_sem] def c15_14 : Cmd := .ops [⟨some 4, .assign (.const (.bool true)), 4, none⟩]
@[go_sem] def c15 : Cmd := (.seq c15_0 (.seq (.seq c15_1 c15_3) (.seq (.seq c15_4 c15_13) (.seq c15_14 .ret))))
theorem b15 : Try.f15.body.map (comp 42) = some c15 := by kernel_rfl
theorem r15 : Try.f15.results.toList = [.tmp 4] := by kernel_rfl
-- 16 pith/runs.Sort
@[go_sem] def c16_0 : Cmd := .ops [⟨some 2, .assign (.const (.slice none 0 0)), 22, none⟩]
@[go_sem] def c16_1 : Cmd := .ops [⟨some 4, .move (.tmp 0), 22, none⟩,
    ⟨some 5, .call { callee := (.value (.func 42)), args := #[(.tmp 4)], argTypes := #[22] }, 22, none⟩,
    ⟨some 3, .assign (.tmp 5), 22, none⟩]
@[go_sem] def c16_2 : Cmd := .ops [⟨some 6, .move (.tmp 3), 22, none⟩,
    ⟨some 7, .call { callee := (.value (.func 43)), args := #[(.tmp 6), (.func 41)], argTypes := #[22, 74] }, 0, none⟩]
@[go_sem] def c16_3 : Cmd := .ops [⟨some 8, .move (.tmp 3), 22, none⟩,
    ⟨some 9, .call { callee := (.value (.func 45)), args := #[(.tmp 8)], argTypes := #[22] }, 22, none⟩,
    ⟨some 10, .call { callee := (.value (.func 44)), args := #[(.tmp 9)], argTypes := #[22] }, 22, none⟩,
    ⟨some 2, .assign (.tmp 10), 22, none⟩]
@[go_sem] def c16 : Cmd := (.seq c16_0 (.seq c16_1 (.seq c16_2 (.seq c16_3 .ret))))
theorem b16 : Try.f16.body.map (comp 11) = some c16 := by kernel_rfl
theorem r16 : Try.f16.results.toList = [.tmp 2] := by kernel_rfl
-- 17 pith/pithref11.Sort
@[go_sem] def c17_0 : Cmd := .ops [⟨some 2, .assign (.const (.slice none 0 0)), 22, none⟩]
@[go_sem] def c17_1 : Cmd := .ops [⟨some 3, .assign (.const (.slice none 0 0)), 60, none⟩]
@[go_sem] def c17_2 : Cmd := .ops [⟨some 4, .assign (.const (.int .i64 0)), 3, none⟩]
@[go_sem] def c17_3 : Cmd := .ops [⟨some 7, .move (.tmp 4), 3, none⟩,
    ⟨some 8, .move (.tmp 0), 22, none⟩,
    ⟨some 9, .call { callee := (.builtin .len), args := #[(.tmp 8)], argTypes := #[22] }, 3, none⟩,
    ⟨some 10, .binOp .lss 3 (.tmp 7) (.tmp 9) 3, 4, none⟩]
@[go_sem] def c17_4 : Cmd := .cond (.tmp 10) .skip (.exit 0)
@[go_sem] def c17_5 : Cmd := .ops [⟨some 13, .move (.tmp 3), 60, none⟩,
    ⟨some 14, .move (.tmp 0), 22, none⟩,
    ⟨some 15, .move (.tmp 4), 3, none⟩,
    ⟨some 16, .indexAddr 22 (.tmp 14) (.tmp 15), 0, none⟩,
    ⟨some 17, .load 24 (.tmp 16), 24, none⟩,
    ⟨some 18, .buildSlice 22 1 #[(0, (.tmp 17))], 22, none⟩,
    ⟨some 19, .buildSlice 60 1 #[(0, (.tmp 18))], 60, none⟩,
    ⟨some 20, .call { callee := (.builtin .append), args := #[(.tmp 13), (.tmp 19)], argTypes := #[60, 60] }, 60, none⟩,
    ⟨some 3, .assign (.tmp 20), 60, none⟩]
@[go_sem] def c17_6 : Cmd := .block 1 c17_5
@[go_sem] def c17_7 : Cmd := .ops [⟨some 11, .move (.tmp 4), 3, none⟩,
    ⟨some 12, .binOp .add 3 (.tmp 11) (.const (.int .i64 1)) 3, 3, none⟩,
    ⟨some 4, .assign (.tmp 12), 3, none⟩]
def c17_L0 : Cmd := (.seq (.seq c17_3 c17_4) (.seq c17_6 c17_7))
@[go_sem] def c17_8 : Cmd := .loop c17_L0
@[go_sem] def c17_9 : Cmd := .block 0 c17_8
@[go_sem] def c17_10 : Cmd := .ops [⟨some 21, .move (.tmp 3), 60, none⟩,
    ⟨some 22, .call { callee := (.builtin .len), args := #[(.tmp 21)], argTypes := #[60] }, 3, none⟩,
    ⟨some 23, .binOp .gtr 3 (.tmp 22) (.const (.int .i64 1)) 3, 4, none⟩]
@[go_sem] def c17_11 : Cmd := .cond (.tmp 23) .skip (.exit 2)
@[go_sem] def c17_12 : Cmd := .ops [⟨some 5, .assign (.const (.slice none 0 0)), 60, none⟩]
@[go_sem] def c17_13 : Cmd := .ops [⟨some 6, .assign (.const (.int .i64 0)), 3, none⟩]
@[go_sem] def c17_14 : Cmd := .ops [⟨some 24, .move (.tmp 6), 3, none⟩,
    ⟨some 25, .move (.tmp 3), 60, none⟩,
    ⟨some 26, .call { callee := (.builtin .len), args := #[(.tmp 25)], argTypes := #[60] }, 3, none⟩,
    ⟨some 27, .binOp .lss 3 (.tmp 24) (.tmp 26) 3, 4, none⟩]
@[go_sem] def c17_15 : Cmd := .cond (.tmp 27) .skip (.exit 4)
@[go_sem] def c17_16 : Cmd := .ops [⟨some 30, .move (.tmp 6), 3, none⟩,
    ⟨some 31, .binOp .add 3 (.tmp 30) (.const (.int .i64 1)) 3, 3, none⟩,
    ⟨some 32, .move (.tmp 3), 60, none⟩,
    ⟨some 33, .call { callee := (.builtin .len), args := #[(.tmp 32)], argTypes := #[60] }, 3, none⟩,
    ⟨some 34, .binOp .lss 3 (.tmp 31) (.tmp 33) 3, 4, none⟩]
@[go_sem] def c17_17 : Cmd := .draw (.step 3 ⟨some 35, .move (.tmp 5), 60, none⟩
    (.step 3 ⟨some 36, .move (.tmp 3), 60, none⟩
    (.step 3 ⟨some 37, .move (.tmp 6), 3, none⟩
    (.step 3 ⟨some 38, .indexAddr 60 (.tmp 36) (.tmp 37), 0, none⟩
    (.step 0 ⟨some 39, .load 22 (.tmp 38), 22, none⟩
    (.step 3 ⟨some 40, .move (.tmp 3), 60, none⟩
    (.step 3 ⟨some 41, .move (.tmp 6), 3, none⟩
    (.step 3 ⟨some 42, .binOp .add 3 (.tmp 41) (.const (.int .i64 1)) 3, 3, none⟩
    (.step 3 ⟨some 43, .indexAddr 60 (.tmp 40) (.tmp 42), 0, none⟩
    (.step 0 ⟨some 44, .load 22 (.tmp 43), 22, none⟩
    (.step 1 ⟨some 45, .call { callee := (.value (.func 46)), args := #[(.tmp 39), (.tmp 44)], argTypes := #[22, 22] }, 22, none⟩
    (.step 1 ⟨some 46, .buildSlice 60 1 #[(0, (.tmp 45))], 60, none⟩
    (.step 2 ⟨some 47, .call { callee := (.builtin .append), args := #[(.tmp 35), (.tmp 46)], argTypes := #[60, 60] }, 60, none⟩
    (.step 3 ⟨some 5, .assign (.tmp 47), 60, none⟩
    .done))))))))))))))
@[go_sem] def c17_18 : Cmd := .ops [⟨some 48, .move (.tmp 5), 60, none⟩,
    ⟨some 49, .move (.tmp 3), 60, none⟩,
    ⟨some 50, .move (.tmp 6), 3, none⟩,
    ⟨some 51, .indexAddr 60 (.tmp 49) (.tmp 50), 0, none⟩,
    ⟨some 52, .load 22 (.tmp 51), 22, none⟩,
    ⟨some 53, .buildSlice 60 1 #[(0, (.tmp 52))], 60, none⟩,
    ⟨some 54, .call { callee := (.builtin .append), args := #[(.tmp 48), (.tmp 53)], argTypes := #[60, 60] }, 60, none⟩,
    ⟨some 5, .assign (.tmp 54), 60, none⟩]
@[go_sem] def c17_19 : Cmd := .cond (.tmp 34) c17_17 c17_18
@[go_sem] def c17_20 : Cmd := .block 5 (.seq c17_16 c17_19)
@[go_sem] def c17_21 : Cmd := .ops [⟨some 28, .move (.tmp 6), 3, none⟩,
    ⟨some 29, .binOp .add 3 (.tmp 28) (.const (.int .i64 2)) 3, 3, none⟩,
    ⟨some 6, .assign (.tmp 29), 3, none⟩]
def c17_L1 : Cmd := (.seq (.seq c17_14 c17_15) (.seq c17_20 c17_21))
@[go_sem] def c17_22 : Cmd := .loop c17_L1
@[go_sem] def c17_23 : Cmd := .block 4 c17_22
@[go_sem] def c17_24 : Cmd := .ops [⟨some 55, .move (.tmp 5), 60, none⟩,
    ⟨some 3, .assign (.tmp 55), 60, none⟩]
@[go_sem] def c17_25 : Cmd := .block 3 (.seq c17_12 (.seq (.seq c17_13 c17_23) c17_24))
def c17_L2 : Cmd := (.seq (.seq c17_10 c17_11) c17_25)
@[go_sem] def c17_26 : Cmd := .loop c17_L2
@[go_sem] def c17_27 : Cmd := .block 2 c17_26
@[go_sem] def c17_28 : Cmd := .ops [⟨some 56, .move (.tmp 3), 60, none⟩,
    ⟨some 57, .call { callee := (.builtin .len), args := #[(.tmp 56)], argTypes := #[60] }, 3, none⟩,
    ⟨some 58, .binOp .eql 3 (.tmp 57) (.const (.int .i64 0)) 3, 4, none⟩]
@[go_sem] def c17_29 : Cmd := .ops [⟨some 2, .assign (.const (.slice none 0 0)), 22, none⟩]
@[go_sem] def c17_30 : Cmd := .cond (.tmp 58) (.seq c17_29 .ret) .skip
@[go_sem] def c17_31 : Cmd := .ops [⟨some 59, .move (.tmp 3), 60, none⟩,
    ⟨some 60, .indexAddr 60 (.tmp 59) (.const (.int .i64 0)), 0, none⟩,
    ⟨some 61, .load 22 (.tmp 60), 22, none⟩,
    ⟨some 2, .assign (.tmp 61), 22, none⟩]
@[go_sem] def c17 : Cmd := (.seq c17_0 (.seq c17_1 (.seq (.seq c17_2 c17_9) (.seq c17_27 (.seq (.seq c17_28 c17_30) (.seq c17_31 .ret))))))
theorem b17 : Try.f17.body.map (comp 62) = some c17 := by kernel_rfl
theorem r17 : Try.f17.results.toList = [.tmp 2] := by kernel_rfl
-- 18 pith/pithref.Pairs
@[go_sem] def c18_0 : Cmd := .ops [⟨some 2, .assign (.const (.slice none 0 0)), 22, none⟩]
@[go_sem] def c18_1 : Cmd := .ops [⟨some 5, .move (.tmp 0), 22, none⟩,
    ⟨some 6, .call { callee := (.builtin .len), args := #[(.tmp 5)], argTypes := #[22] }, 3, none⟩,
    ⟨some 7, .makeSlice 22 (.const (.int .i64 0)) (.tmp 6), 22, none⟩,
    ⟨some 3, .assign (.tmp 7), 22, none⟩]
@[go_sem] def c18_2 : Cmd := .ops [⟨some 4, .assign (.const (.int .i64 0)), 3, none⟩]
@[go_sem] def c18_3 : Cmd := .ops [⟨some 8, .move (.tmp 4), 3, none⟩,
    ⟨some 9, .move (.tmp 0), 22, none⟩,
    ⟨some 10, .call { callee := (.builtin .len), args := #[(.tmp 9)], argTypes := #[22] }, 3, none⟩,
    ⟨some 11, .binOp .lss 3 (.tmp 8) (.tmp 10) 3, 4, none⟩]
@[go_sem] def c18_4 : Cmd := .cond (.tmp 11) .skip (.exit 0)
@[go_sem] def c18_5 : Cmd := .ops [⟨some 14, .move (.tmp 3), 22, none⟩,
    ⟨some 15, .move (.tmp 0), 22, none⟩,
    ⟨some 16, .move (.tmp 4), 3, none⟩,
    ⟨some 17, .indexAddr 22 (.tmp 15) (.tmp 16), 0, none⟩,
    ⟨some 18, .load 24 (.tmp 17), 24, none⟩,
    ⟨some 19, .buildSlice 22 1 #[(0, (.tmp 18))], 22, none⟩,
    ⟨some 20, .call { callee := (.builtin .append), args := #[(.tmp 14), (.tmp 19)], argTypes := #[22, 22] }, 22, none⟩,
    ⟨some 3, .assign (.tmp 20), 22, none⟩]
@[go_sem] def c18_6 : Cmd := .block 1 c18_5
@[go_sem] def c18_7 : Cmd := .ops [⟨some 12, .move (.tmp 4), 3, none⟩,
    ⟨some 13, .binOp .add 3 (.tmp 12) (.const (.int .i64 1)) 3, 3, none⟩,
    ⟨some 4, .assign (.tmp 13), 3, none⟩]
def c18_L0 : Cmd := (.seq (.seq c18_3 c18_4) (.seq c18_6 c18_7))
@[go_sem] def c18_8 : Cmd := .loop c18_L0
@[go_sem] def c18_9 : Cmd := .block 0 c18_8
@[go_sem] def c18_10 : Cmd := .ops [⟨some 21, .move (.tmp 3), 22, none⟩,
    ⟨some 2, .assign (.tmp 21), 22, none⟩]
@[go_sem] def c18 : Cmd := (.seq c18_0 (.seq c18_1 (.seq (.seq c18_2 c18_9) (.seq c18_10 .ret))))
theorem b18 : Try.f18.body.map (comp 22) = some c18 := by kernel_rfl
theorem r18 : Try.f18.results.toList = [.tmp 2] := by kernel_rfl
-- 19 pith/pithlaw11.still
@[go_sem] def c19_0 : Cmd := .ops [⟨some 4, .assign (.const (.bool false)), 4, none⟩]
@[go_sem] def c19_1 : Cmd := .ops [⟨some 9, .move (.tmp 0), 22, none⟩,
    ⟨some 10, .move (.tmp 1), 22, none⟩,
    ⟨some 11, .call { callee := (.value (.func 15)), args := #[(.tmp 9), (.tmp 10)], argTypes := #[22, 22] }, 4, none⟩,
    ⟨some 5, .assign (.tmp 11), 4, none⟩]
@[go_sem] def c19_2 : Cmd := .ops [⟨some 12, .move (.tmp 0), 22, none⟩,
    ⟨some 13, .move (.tmp 1), 22, none⟩,
    ⟨some 14, .call { callee := (.builtin .len), args := #[(.tmp 13)], argTypes := #[22] }, 3, none⟩,
    ⟨some 15, .binOp .add 3 (.tmp 14) (.const (.int .i64 2)) 3, 3, none⟩,
    ⟨some 16, .slice 22 (.tmp 12) none (some (.tmp 15)) none, 22, none⟩,
    ⟨some 6, .assign (.tmp 16), 22, none⟩]
@[go_sem] def c19_3 : Cmd := .draw (.step 3 ⟨some 17, .move (.tmp 6), 22, none⟩
    (.step 3 ⟨some 18, .move (.tmp 1), 22, none⟩
    (.step 3 ⟨some 19, .call { callee := (.builtin .len), args := #[(.tmp 18)], argTypes := #[22] }, 3, none⟩
    (.step 3 ⟨some 20, .indexAddr 22 (.tmp 17) (.tmp 19), 0, none⟩
    (.step 0 ⟨some 21, .load 24 (.tmp 20), 24, none⟩
    (.step 1 ⟨some 22, .call { callee := (.value (.func 39)), args := #[(.const (.int .i64 201)), (.const (.int .i64 202))], argTypes := #[3, 3] }, 24, none⟩
    (.step 1 ⟨some 23, .binOp .eql 24 (.tmp 21) (.tmp 22) 24, 4, none⟩
    (.step 3 ⟨some 24, .move (.tmp 23), 4, none⟩
    (.step 3 ⟨some 25, .move (.tmp 6), 22, some (24, true)⟩
    (.step 3 ⟨some 26, .move (.tmp 1), 22, some (24, true)⟩
    (.step 3 ⟨some 27, .call { callee := (.builtin .len), args := #[(.tmp 26)], argTypes := #[22] }, 3, some (24, true)⟩
    (.step 3 ⟨some 28, .binOp .add 3 (.tmp 27) (.const (.int .i64 1)) 3, 3, some (24, true)⟩
    (.step 3 ⟨some 29, .indexAddr 22 (.tmp 25) (.tmp 28), 0, some (24, true)⟩
    (.step 0 ⟨some 30, .load 24 (.tmp 29), 24, some (24, true)⟩
    (.step 1 ⟨some 31, .call { callee := (.value (.func 39)), args := #[(.const (.int .i64 203)), (.const (.int .i64 204))], argTypes := #[3, 3] }, 24, some (24, true)⟩
    (.step 1 ⟨some 32, .binOp .eql 24 (.tmp 30) (.tmp 31) 24, 4, some (24, true)⟩
    (.step 3 ⟨some 33, .pick (.tmp 24) (.tmp 32) (.const (.bool false)), 4, none⟩
    (.step 3 ⟨some 7, .assign (.tmp 33), 4, none⟩
    .done))))))))))))))))))
@[go_sem] def c19_4 : Cmd := .ops [⟨some 8, .assign (.const (.int .i64 0)), 3, none⟩]
@[go_sem] def c19_5 : Cmd := .ops [⟨some 34, .move (.tmp 8), 3, none⟩,
    ⟨some 35, .move (.tmp 6), 22, none⟩,
    ⟨some 36, .call { callee := (.builtin .len), args := #[(.tmp 35)], argTypes := #[22] }, 3, none⟩,
    ⟨some 37, .binOp .lss 3 (.tmp 34) (.tmp 36) 3, 4, none⟩]
@[go_sem] def c19_6 : Cmd := .cond (.tmp 37) .skip (.exit 0)
@[go_sem] def c19_7 : Cmd := .ops [⟨some 40, .move (.tmp 6), 22, none⟩,
    ⟨some 41, .move (.tmp 8), 3, none⟩,
    ⟨some 42, .call { callee := (.value (.func 39)), args := #[(.const (.int .i64 (-7))), (.const (.int .i64 (-8)))], argTypes := #[3, 3] }, 24, none⟩,
    ⟨some 43, .indexAddr 22 (.tmp 40) (.tmp 41), 0, none⟩,
    ⟨none, .store 24 (.tmp 43) (.tmp 42), 0, none⟩]
@[go_sem] def c19_8 : Cmd := .block 1 c19_7
@[go_sem] def c19_9 : Cmd := .ops [⟨some 38, .move (.tmp 8), 3, none⟩,
    ⟨some 39, .binOp .add 3 (.tmp 38) (.const (.int .i64 1)) 3, 3, none⟩,
    ⟨some 8, .assign (.tmp 39), 3, none⟩]
def c19_L0 : Cmd := (.seq (.seq c19_5 c19_6) (.seq c19_8 c19_9))
@[go_sem] def c19_10 : Cmd := .loop c19_L0
@[go_sem] def c19_11 : Cmd := .block 0 c19_10
@[go_sem] def c19_12 : Cmd := .ops [⟨some 44, .move (.tmp 5), 4, none⟩,
    ⟨some 45, .move (.tmp 44), 4, none⟩,
    ⟨some 46, .move (.tmp 7), 4, some (45, true)⟩,
    ⟨some 47, .pick (.tmp 45) (.tmp 46) (.const (.bool false)), 4, none⟩,
    ⟨some 4, .assign (.tmp 47), 4, none⟩]
@[go_sem] def c19 : Cmd := (.seq c19_0 (.seq c19_1 (.seq c19_2 (.seq c19_3 (.seq (.seq c19_4 c19_11) (.seq c19_12 .ret))))))
theorem b19 : Try.f19.body.map (comp 48) = some c19 := by kernel_rfl
theorem r19 : Try.f19.results.toList = [.tmp 4] := by kernel_rfl
-- 20 pith/runs.Encode
@[go_sem] def c20_0 : Cmd := .ops [⟨some 2, .assign (.const (.slice none 0 0)), 30, none⟩,
    ⟨some 3, .assign (.const (.int .i64 0)), 31, none⟩]
@[go_sem] def c20_1 : Cmd := .ops [⟨some 10, .move (.tmp 0), 22, none⟩,
    ⟨some 11, .call { callee := (.builtin .len), args := #[(.tmp 10)], argTypes := #[22] }, 3, none⟩,
    ⟨some 12, .binOp .eql 3 (.tmp 11) (.const (.int .i64 0)) 3, 4, none⟩,
    ⟨some 13, .move (.tmp 12), 4, none⟩,
    ⟨some 14, .move (.tmp 0), 22, some (13, false)⟩,
    ⟨some 15, .call { callee := (.builtin .len), args := #[(.tmp 14)], argTypes := #[22] }, 3, some (13, false)⟩,
    ⟨some 16, .binOp .gtr 3 (.tmp 15) (.const (.int .i64 100)) 3, 4, some (13, false)⟩,
    ⟨some 17, .pick (.tmp 13) (.const (.bool true)) (.tmp 16), 4, none⟩]
@[go_sem] def c20_2 : Cmd := .ops [⟨some 2, .assign (.const (.slice none 0 0)), 30, none⟩,
    ⟨some 3, .assign (.const (.int .i64 110)), 31, none⟩]
@[go_sem] def c20_3 : Cmd := .cond (.tmp 17) (.seq c20_2 .ret) .skip
@[go_sem] def c20_4 : Cmd := .ops [⟨some 18, .move (.tmp 0), 22, none⟩,
    ⟨some 19, .call { callee := (.builtin .len), args := #[(.tmp 18)], argTypes := #[22] }, 3, none⟩,
    ⟨some 20, .move (.const (.int .i64 0)), 3, none⟩]
@[go_sem] def c20_5 : Cmd := .ops [⟨some 21, .binOp .lss 3 (.tmp 20) (.tmp 19) 3, 0, none⟩]
@[go_sem] def c20_6 : Cmd := .cond (.tmp 21) .skip (.exit 0)
@[go_sem] def c20_7 : Cmd := .ops [⟨some 22, .indexAddr 22 (.tmp 18) (.tmp 20), 0, none⟩,
    ⟨some 23, .load 24 (.tmp 22), 24, none⟩,
    ⟨some 5, .alloc 24, 0, none⟩,
    ⟨none, .store 24 (.tmp 5) (.tmp 23), 0, none⟩]
@[go_sem] def c20_8 : Cmd := .ops [⟨some 24, .fieldAddr 24 (.tmp 5) 0, 0, none⟩,
    ⟨some 25, .load 3 (.tmp 24), 3, none⟩,
    ⟨some 26, .call { callee := (.value (.func 47)), args := #[(.tmp 25)], argTypes := #[3] }, 4, none⟩,
    ⟨some 27, .unOp .not 4 (.tmp 26), 4, none⟩,
    ⟨some 28, .move (.tmp 27), 4, none⟩,
    ⟨some 29, .fieldAddr 24 (.tmp 5) 1, 0, some (28, false)⟩,
    ⟨some 30, .load 3 (.tmp 29), 3, some (28, false)⟩,
    ⟨some 31, .call { callee := (.value (.func 47)), args := #[(.tmp 30)], argTypes := #[3] }, 4, some (28, false)⟩,
    ⟨some 32, .unOp .not 4 (.tmp 31), 4, some (28, false)⟩,
    ⟨some 33, .pick (.tmp 28) (.const (.bool true)) (.tmp 32), 4, none⟩]
@[go_sem] def c20_9 : Cmd := .ops [⟨some 2, .assign (.const (.slice none 0 0)), 30, none⟩,
    ⟨some 3, .assign (.const (.int .i64 42)), 31, none⟩]
@[go_sem] def c20_10 : Cmd := .cond (.tmp 33) (.seq c20_9 .ret) .skip
@[go_sem] def c20_11 : Cmd := .block 1 (.seq c20_7 (.seq c20_8 c20_10))
@[go_sem] def c20_12 : Cmd := .ops [⟨some 34, .binOp .add 3 (.tmp 20) (.const (.int .i64 1)) 3, 3, none⟩,
    ⟨some 20, .move (.tmp 34), 3, none⟩]
def c20_L0 : Cmd := (.seq c20_5 (.seq c20_6 (.seq c20_11 c20_12)))
@[go_sem] def c20_13 : Cmd := .loop c20_L0
@[go_sem] def c20_14 : Cmd := .block 0 c20_13
@[go_sem] def c20_15 : Cmd := .ops [⟨some 35, .move (.tmp 0), 22, none⟩,
    ⟨some 36, .call { callee := (.value (.func 48)), args := #[(.tmp 35)], argTypes := #[22] }, 4, none⟩,
    ⟨some 37, .unOp .not 4 (.tmp 36), 4, none⟩]
@[go_sem] def c20_16 : Cmd := .ops [⟨some 2, .assign (.const (.slice none 0 0)), 30, none⟩,
    ⟨some 3, .assign (.const (.int .i64 111)), 31, none⟩]
@[go_sem] def c20_17 : Cmd := .cond (.tmp 37) (.seq c20_16 .ret) .skip
@[go_sem] def c20_18 : Cmd := .ops [⟨some 38, .move (.tmp 0), 22, none⟩,
    ⟨some 39, .call { callee := (.builtin .len), args := #[(.tmp 38)], argTypes := #[22] }, 3, none⟩,
    ⟨some 40, .call { callee := (.value (.func 49)), args := #[(.const (.slice none 0 0)), (.tmp 39)], argTypes := #[30, 3] }, 30, none⟩,
    ⟨some 6, .assign (.tmp 40), 30, none⟩]
@[go_sem] def c20_19 : Cmd := .ops [⟨some 41, .move (.tmp 0), 22, none⟩,
    ⟨some 42, .call { callee := (.builtin .len), args := #[(.tmp 41)], argTypes := #[22] }, 3, none⟩,
    ⟨some 43, .move (.const (.int .i64 0)), 3, none⟩]
@[go_sem] def c20_20 : Cmd := .ops [⟨some 44, .binOp .lss 3 (.tmp 43) (.tmp 42) 3, 0, none⟩]
@[go_sem] def c20_21 : Cmd := .cond (.tmp 44) .skip (.exit 2)
@[go_sem] def c20_22 : Cmd := .ops [⟨some 45, .move (.tmp 43), 3, none⟩,
    ⟨some 46, .indexAddr 22 (.tmp 41) (.tmp 43), 0, none⟩,
    ⟨some 47, .load 24 (.tmp 46), 24, none⟩,
    ⟨some 8, .alloc 24, 0, none⟩,
    ⟨some 7, .assign (.tmp 45), 3, none⟩,
    ⟨none, .store 24 (.tmp 8) (.tmp 47), 0, none⟩]
@[go_sem] def c20_23 : Cmd := .ops [⟨some 48, .build 24 #[], 24, none⟩,
    ⟨some 9, .alloc 24, 0, none⟩,
    ⟨none, .store 24 (.tmp 9) (.tmp 48), 0, none⟩]
@[go_sem] def c20_24 : Cmd := .ops [⟨some 49, .move (.tmp 7), 3, none⟩,
    ⟨some 50, .binOp .gtr 3 (.tmp 49) (.const (.int .i64 0)) 3, 4, none⟩]
@[go_sem] def c20_25 : Cmd := .ops [⟨some 51, .move (.tmp 0), 22, none⟩,
    ⟨some 52, .move (.tmp 7), 3, none⟩,
    ⟨some 53, .binOp .sub 3 (.tmp 52) (.const (.int .i64 1)) 3, 3, none⟩,
    ⟨some 54, .indexAddr 22 (.tmp 51) (.tmp 53), 0, none⟩,
    ⟨some 55, .load 24 (.tmp 54), 24, none⟩,
    ⟨none, .store 24 (.tmp 9) (.tmp 55), 0, none⟩]
@[go_sem] def c20_26 : Cmd := .cond (.tmp 50) c20_25 .skip
@[go_sem] def c20_27 : Cmd := .ops [⟨some 56, .move (.tmp 6), 30, none⟩,
    ⟨some 57, .fieldAddr 24 (.tmp 8) 0, 0, none⟩,
    ⟨some 58, .load 3 (.tmp 57), 3, none⟩,
    ⟨some 59, .fieldAddr 24 (.tmp 9) 0, 0, none⟩,
    ⟨some 60, .load 3 (.tmp 59), 3, none⟩,
    ⟨some 61, .binOp .sub 3 (.tmp 58) (.tmp 60) 3, 3, none⟩,
    ⟨some 62, .call { callee := (.value (.func 49)), args := #[(.tmp 56), (.tmp 61)], argTypes := #[30, 3] }, 30, none⟩,
    ⟨some 6, .assign (.tmp 62), 30, none⟩]
@[go_sem] def c20_28 : Cmd := .ops [⟨some 63, .move (.tmp 7), 3, none⟩,
    ⟨some 64, .binOp .eql 3 (.tmp 63) (.const (.int .i64 0)) 3, 4, none⟩,
    ⟨some 65, .move (.tmp 64), 4, none⟩,
    ⟨some 66, .fieldAddr 24 (.tmp 8) 0, 0, some (65, false)⟩,
    ⟨some 67, .load 3 (.tmp 66), 3, some (65, false)⟩,
    ⟨some 68, .fieldAddr 24 (.tmp 9) 0, 0, some (65, false)⟩,
    ⟨some 69, .load 3 (.tmp 68), 3, some (65, false)⟩,
    ⟨some 70, .binOp .gtr 3 (.tmp 67) (.tmp 69) 3, 4, some (65, false)⟩,
    ⟨some 71, .pick (.tmp 65) (.const (.bool true)) (.tmp 70), 4, none⟩]
@[go_sem] def c20_29 : Cmd := .ops [⟨some 72, .move (.tmp 6), 30, none⟩,
    ⟨some 73, .fieldAddr 24 (.tmp 8) 1, 0, none⟩,
    ⟨some 74, .load 3 (.tmp 73), 3, none⟩,
    ⟨some 75, .call { callee := (.value (.func 49)), args := #[(.tmp 72), (.tmp 74)], argTypes := #[30, 3] }, 30, none⟩,
    ⟨some 6, .assign (.tmp 75), 30, none⟩]
@[go_sem] def c20_30 : Cmd := .ops [⟨some 76, .move (.tmp 6), 30, none⟩,
    ⟨some 77, .fieldAddr 24 (.tmp 8) 1, 0, none⟩,
    ⟨some 78, .load 3 (.tmp 77), 3, none⟩,
    ⟨some 79, .fieldAddr 24 (.tmp 9) 1, 0, none⟩,
    ⟨some 80, .load 3 (.tmp 79), 3, none⟩,
    ⟨some 81, .binOp .sub 3 (.tmp 78) (.tmp 80) 3, 3, none⟩,
    ⟨some 82, .binOp .sub 3 (.tmp 81) (.const (.int .i64 1)) 3, 3, none⟩,
    ⟨some 83, .call { callee := (.value (.func 49)), args := #[(.tmp 76), (.tmp 82)], argTypes := #[30, 3] }, 30, none⟩,
    ⟨some 6, .assign (.tmp 83), 30, none⟩]
@[go_sem] def c20_31 : Cmd := .cond (.tmp 71) c20_29 c20_30
@[go_sem] def c20_32 : Cmd := .block 3 (.seq c20_22 (.seq c20_23 (.seq (.seq c20_24 c20_26) (.seq c20_27 (.seq c20_28 c20_31)))))
@[go_sem] def c20_33 : Cmd := .ops [⟨some 84, .binOp .add 3 (.tmp 43) (.const (.int .i64 1)) 3, 3, none⟩,
    ⟨some 43, .move (.tmp 84), 3, none⟩]
def c20_L1 : Cmd := (.seq c20_20 (.seq c20_21 (.seq c20_32 c20_33)))
@[go_sem] def c20_34 : Cmd := .loop c20_L1
@[go_sem] def c20_35 : Cmd := .block 2 c20_34
@[go_sem] def c20_36 : Cmd := .ops [⟨some 85, .move (.tmp 6), 30, none⟩,
    ⟨some 2, .assign (.tmp 85), 30, none⟩,
    ⟨some 3, .assign (.const (.int .i64 0)), 31, none⟩]
@[go_sem] def c20 : Cmd := (.seq c20_0 (.seq (.seq c20_1 c20_3) (.seq (.seq c20_4 c20_14) (.seq (.seq c20_15 c20_17) (.seq c20_18 (.seq (.seq c20_19 c20_35) (.seq c20_36 .ret)))))))
theorem b20 : Try.f20.body.map (comp 86) = some c20 := by kernel_rfl
theorem r20 : Try.f20.results.toList = [.tmp 2, .tmp 3] := by kernel_rfl
-- 21 pith/pithref11.Encode
@[go_sem] def c21_0 : Cmd := .ops [⟨some 2, .assign (.const (.slice none 0 0)), 30, none⟩,
    ⟨some 3, .assign (.const (.int .i64 0)), 3, none⟩]
@[go_sem] def c21_1 : Cmd := .ops [⟨some 11, .move (.tmp 0), 22, none⟩,
    ⟨some 12, .call { callee := (.builtin .len), args := #[(.tmp 11)], argTypes := #[22] }, 3, none⟩,
    ⟨some 13, .binOp .lss 3 (.tmp 12) (.const (.int .i64 1)) 3, 4, none⟩,
    ⟨some 14, .move (.tmp 13), 4, none⟩,
    ⟨some 15, .move (.tmp 0), 22, some (14, false)⟩,
    ⟨some 16, .call { callee := (.builtin .len), args := #[(.tmp 15)], argTypes := #[22] }, 3, some (14, false)⟩,
    ⟨some 17, .binOp .gtr 3 (.tmp 16) (.const (.int .i64 100)) 3, 4, some (14, false)⟩,
    ⟨some 18, .pick (.tmp 14) (.const (.bool true)) (.tmp 17), 4, none⟩]
@[go_sem] def c21_2 : Cmd := .ops [⟨some 2, .assign (.const (.slice none 0 0)), 30, none⟩,
    ⟨some 3, .assign (.const (.int .i64 110)), 3, none⟩]
@[go_sem] def c21_3 : Cmd := .cond (.tmp 18) (.seq c21_2 .ret) .skip
@[go_sem] def c21_4 : Cmd := .ops [⟨some 4, .assign (.const (.int .i64 0)), 3, none⟩]
@[go_sem] def c21_5 : Cmd := .ops [⟨some 19, .move (.tmp 4), 3, none⟩,
    ⟨some 20, .move (.tmp 0), 22, none⟩,
    ⟨some 21, .call { callee := (.builtin .len), args := #[(.tmp 20)], argTypes := #[22] }, 3, none⟩,
    ⟨some 22, .binOp .lss 3 (.tmp 19) (.tmp 21) 3, 4, none⟩]
@[go_sem] def c21_6 : Cmd := .cond (.tmp 22) .skip (.exit 0)
@[go_sem] def c21_7 : Cmd := .ops [⟨some 25, .move (.tmp 0), 22, none⟩,
    ⟨some 26, .move (.tmp 4), 3, none⟩,
    ⟨some 27, .indexAddr 22 (.tmp 25) (.tmp 26), 0, none⟩,
    ⟨some 28, .fieldAddr 24 (.tmp 27) 0, 0, none⟩,
    ⟨some 29, .load 3 (.tmp 28), 3, none⟩,
    ⟨some 30, .call { callee := (.value (.func 50)), args := #[(.tmp 29)], argTypes := #[3] }, 4, none⟩,
    ⟨some 5, .assign (.tmp 30), 4, none⟩]
@[go_sem] def c21_8 : Cmd := .ops [⟨some 31, .move (.tmp 0), 22, none⟩,
    ⟨some 32, .move (.tmp 4), 3, none⟩,
    ⟨some 33, .indexAddr 22 (.tmp 31) (.tmp 32), 0, none⟩,
    ⟨some 34, .fieldAddr 24 (.tmp 33) 1, 0, none⟩,
    ⟨some 35, .load 3 (.tmp 34), 3, none⟩,
    ⟨some 36, .call { callee := (.value (.func 50)), args := #[(.tmp 35)], argTypes := #[3] }, 4, none⟩,
    ⟨some 6, .assign (.tmp 36), 4, none⟩]
@[go_sem] def c21_9 : Cmd := .ops [⟨some 37, .move (.tmp 5), 4, none⟩,
    ⟨some 38, .unOp .not 4 (.tmp 37), 4, none⟩,
    ⟨some 39, .move (.tmp 38), 4, none⟩,
    ⟨some 40, .move (.tmp 6), 4, some (39, false)⟩,
    ⟨some 41, .unOp .not 4 (.tmp 40), 4, some (39, false)⟩,
    ⟨some 42, .pick (.tmp 39) (.const (.bool true)) (.tmp 41), 4, none⟩]
@[go_sem] def c21_10 : Cmd := .ops [⟨some 2, .assign (.const (.slice none 0 0)), 30, none⟩,
    ⟨some 3, .assign (.const (.int .i64 42)), 3, none⟩]
@[go_sem] def c21_11 : Cmd := .cond (.tmp 42) (.seq c21_10 .ret) .skip
@[go_sem] def c21_12 : Cmd := .block 1 (.seq c21_7 (.seq c21_8 (.seq c21_9 c21_11)))
@[go_sem] def c21_13 : Cmd := .ops [⟨some 23, .move (.tmp 4), 3, none⟩,
    ⟨some 24, .binOp .add 3 (.tmp 23) (.const (.int .i64 1)) 3, 3, none⟩,
    ⟨some 4, .assign (.tmp 24), 3, none⟩]
def c21_L0 : Cmd := (.seq (.seq c21_5 c21_6) (.seq c21_12 c21_13))
@[go_sem] def c21_14 : Cmd := .loop c21_L0
@[go_sem] def c21_15 : Cmd := .block 0 c21_14
@[go_sem] def c21_16 : Cmd := .ops [⟨some 43, .move (.tmp 0), 22, none⟩,
    ⟨some 44, .call { callee := (.value (.func 51)), args := #[(.tmp 43)], argTypes := #[22] }, 4, none⟩,
    ⟨some 7, .assign (.tmp 44), 4, none⟩]
@[go_sem] def c21_17 : Cmd := .ops [⟨some 45, .move (.tmp 7), 4, none⟩,
    ⟨some 46, .unOp .not 4 (.tmp 45), 4, none⟩]
@[go_sem] def c21_18 : Cmd := .ops [⟨some 2, .assign (.const (.slice none 0 0)), 30, none⟩,
    ⟨some 3, .assign (.const (.int .i64 111)), 3, none⟩]
@[go_sem] def c21_19 : Cmd := .cond (.tmp 46) (.seq c21_18 .ret) .skip
@[go_sem] def c21_20 : Cmd := .ops [⟨some 47, .move (.tmp 0), 22, none⟩,
    ⟨some 48, .call { callee := (.builtin .len), args := #[(.tmp 47)], argTypes := #[22] }, 3, none⟩,
    ⟨some 49, .call { callee := (.value (.func 52)), args := #[(.const (.slice none 0 0)), (.tmp 48)], argTypes := #[30, 3] }, 30, none⟩,
    ⟨some 8, .assign (.tmp 49), 30, none⟩]
@[go_sem] def c21_21 : Cmd := .ops [⟨some 50, .build 24 #[], 24, none⟩,
    ⟨some 9, .alloc 24, 0, none⟩,
    ⟨none, .store 24 (.tmp 9) (.tmp 50), 0, none⟩]
@[go_sem] def c21_22 : Cmd := .ops [⟨some 10, .assign (.const (.int .i64 0)), 3, none⟩]
@[go_sem] def c21_23 : Cmd := .ops [⟨some 51, .move (.tmp 10), 3, none⟩,
    ⟨some 52, .move (.tmp 0), 22, none⟩,
    ⟨some 53, .call { callee := (.builtin .len), args := #[(.tmp 52)], argTypes := #[22] }, 3, none⟩,
    ⟨some 54, .binOp .lss 3 (.tmp 51) (.tmp 53) 3, 4, none⟩]
@[go_sem] def c21_24 : Cmd := .cond (.tmp 54) .skip (.exit 2)
@[go_sem] def c21_25 : Cmd := .still 9 [⟨some 57, .move (.tmp 8), 30, none⟩,
    ⟨some 58, .move (.tmp 0), 22, none⟩,
    ⟨some 59, .move (.tmp 10), 3, none⟩,
    ⟨some 60, .indexAddr 22 (.tmp 58) (.tmp 59), 0, none⟩,
    ⟨some 61, .fieldAddr 24 (.tmp 60) 0, 0, none⟩,
    ⟨some 62, .load 3 (.tmp 61), 3, none⟩,
    ⟨some 63, .fieldAddr 24 (.tmp 9) 0, 0, none⟩,
    ⟨some 64, .load 3 (.tmp 63), 3, none⟩,
    ⟨some 65, .binOp .sub 3 (.tmp 62) (.tmp 64) 3, 3, none⟩,
    ⟨some 66, .call { callee := (.value (.func 52)), args := #[(.tmp 57), (.tmp 65)], argTypes := #[30, 3] }, 30, none⟩,
    ⟨some 8, .assign (.tmp 66), 30, none⟩]
@[go_sem] def c21_26 : Cmd := .quiet [⟨some 67, .move (.tmp 10), 3, none⟩,
    ⟨some 68, .binOp .eql 3 (.tmp 67) (.const (.int .i64 0)) 3, 4, none⟩,
    ⟨some 69, .move (.tmp 68), 4, none⟩,
    ⟨some 70, .move (.tmp 0), 22, some (69, false)⟩,
    ⟨some 71, .move (.tmp 10), 3, some (69, false)⟩,
    ⟨some 72, .indexAddr 22 (.tmp 70) (.tmp 71), 0, some (69, false)⟩,
    ⟨some 73, .fieldAddr 24 (.tmp 72) 0, 0, some (69, false)⟩,
    ⟨some 74, .load 3 (.tmp 73), 3, some (69, false)⟩,
    ⟨some 75, .fieldAddr 24 (.tmp 9) 0, 0, some (69, false)⟩,
    ⟨some 76, .load 3 (.tmp 75), 3, some (69, false)⟩,
    ⟨some 77, .binOp .gtr 3 (.tmp 74) (.tmp 76) 3, 4, some (69, false)⟩,
    ⟨some 78, .pick (.tmp 69) (.const (.bool true)) (.tmp 77), 4, none⟩]
@[go_sem] def c21_27 : Cmd := .ops [⟨some 79, .move (.tmp 8), 30, none⟩,
    ⟨some 80, .move (.tmp 0), 22, none⟩,
    ⟨some 81, .move (.tmp 10), 3, none⟩,
    ⟨some 82, .indexAddr 22 (.tmp 80) (.tmp 81), 0, none⟩,
    ⟨some 83, .fieldAddr 24 (.tmp 82) 1, 0, none⟩,
    ⟨some 84, .load 3 (.tmp 83), 3, none⟩,
    ⟨some 85, .call { callee := (.value (.func 52)), args := #[(.tmp 79), (.tmp 84)], argTypes := #[30, 3] }, 30, none⟩,
    ⟨some 8, .assign (.tmp 85), 30, none⟩]
@[go_sem] def c21_28 : Cmd := .still 10 [⟨some 86, .move (.tmp 8), 30, none⟩,
    ⟨some 87, .move (.tmp 0), 22, none⟩,
    ⟨some 88, .move (.tmp 10), 3, none⟩,
    ⟨some 89, .indexAddr 22 (.tmp 87) (.tmp 88), 0, none⟩,
    ⟨some 90, .fieldAddr 24 (.tmp 89) 1, 0, none⟩,
    ⟨some 91, .load 3 (.tmp 90), 3, none⟩,
    ⟨some 92, .fieldAddr 24 (.tmp 9) 1, 0, none⟩,
    ⟨some 93, .load 3 (.tmp 92), 3, none⟩,
    ⟨some 94, .binOp .sub 3 (.tmp 91) (.tmp 93) 3, 3, none⟩,
    ⟨some 95, .binOp .sub 3 (.tmp 94) (.const (.int .i64 1)) 3, 3, none⟩,
    ⟨some 96, .call { callee := (.value (.func 52)), args := #[(.tmp 86), (.tmp 95)], argTypes := #[30, 3] }, 30, none⟩,
    ⟨some 8, .assign (.tmp 96), 30, none⟩]
@[go_sem] def c21_29 : Cmd := .cond (.tmp 78) c21_27 c21_28
@[go_sem] def c21_30 : Cmd := .ops [⟨some 97, .move (.tmp 0), 22, none⟩,
    ⟨some 98, .move (.tmp 10), 3, none⟩,
    ⟨some 99, .indexAddr 22 (.tmp 97) (.tmp 98), 0, none⟩,
    ⟨some 100, .load 24 (.tmp 99), 24, none⟩,
    ⟨none, .store 24 (.tmp 9) (.tmp 100), 0, none⟩]
@[go_sem] def c21_31 : Cmd := .block 3 (.seq c21_25 (.seq (.seq c21_26 c21_29) c21_30))
@[go_sem] def c21_32 : Cmd := .ops [⟨some 55, .move (.tmp 10), 3, none⟩,
    ⟨some 56, .binOp .add 3 (.tmp 55) (.const (.int .i64 1)) 3, 3, none⟩,
    ⟨some 10, .assign (.tmp 56), 3, none⟩]
def c21_L1 : Cmd := (.seq (.seq c21_23 c21_24) (.seq c21_31 c21_32))
@[go_sem] def c21_33 : Cmd := .loop c21_L1
@[go_sem] def c21_34 : Cmd := .block 2 c21_33
@[go_sem] def c21_35 : Cmd := .ops [⟨some 101, .move (.tmp 8), 30, none⟩,
    ⟨some 2, .assign (.tmp 101), 30, none⟩,
    ⟨some 3, .assign (.const (.int .i64 0)), 3, none⟩]
@[go_sem] def c21 : Cmd := (.seq c21_0 (.seq (.seq c21_1 c21_3) (.seq (.seq c21_4 c21_15) (.seq c21_16 (.seq (.seq c21_17 c21_19) (.seq c21_20 (.seq c21_21 (.seq (.seq c21_22 c21_34) (.seq c21_35 .ret)))))))))
theorem b21 : Try.f21.body.map (comp 102) = some c21 := by kernel_rfl
theorem r21 : Try.f21.results.toList = [.tmp 2, .tmp 3] := by kernel_rfl
-- 22 pith/pithref.SameBytes
@[go_sem] def c22_0 : Cmd := .ops [⟨some 4, .assign (.const (.bool false)), 4, none⟩]
@[go_sem] def c22_1 : Cmd := .ops [⟨some 5, .move (.tmp 0), 30, none⟩,
    ⟨some 6, .convert 30 9 (.tmp 5), 9, none⟩,
    ⟨some 7, .move (.tmp 1), 30, none⟩,
    ⟨some 8, .convert 30 9 (.tmp 7), 9, none⟩,
    ⟨some 9, .binOp .eql 9 (.tmp 6) (.tmp 8) 9, 4, none⟩,
    ⟨some 4, .assign (.tmp 9), 4, none⟩]
@[go_sem] def c22 : Cmd := (.seq c22_0 (.seq c22_1 .ret))
theorem b22 : Try.f22.body.map (comp 10) = some c22 := by kernel_rfl
theorem r22 : Try.f22.results.toList = [.tmp 4] := by kernel_rfl
-- 23 pith/pithlaw11.num
@[go_sem] def c23_0 : Cmd := .ops [⟨some 2, .assign (.const (.int .i64 0)), 3, none⟩]
@[go_sem] def c23_1 : Cmd := .ops [⟨some 3, .move (.tmp 0), 31, none⟩,
    ⟨some 2, .assign (.tmp 3), 3, none⟩]
@[go_sem] def c23 : Cmd := (.seq c23_0 (.seq c23_1 .ret))
theorem b23 : Try.f23.body.map (comp 4) = some c23 := by kernel_rfl
theorem r23 : Try.f23.results.toList = [.tmp 2] := by kernel_rfl
-- 24 pith/pithlaw11.decodes
@[go_sem] def c24_0 : Cmd := .ops [⟨some 2, .assign (.const (.bool false)), 4, none⟩]
@[go_sem] def c24_1 : Cmd := .ops [⟨some 10, .move (.tmp 0), 30, none⟩,
    ⟨some 11, .call { callee := (.value (.func 25)), args := #[(.tmp 10)], argTypes := #[30] }, 30, none⟩,
    ⟨some 12, .buildSlice 30 2 #[(0, (.const (.int .u8 201))), (1, (.const (.int .u8 202)))], 30, none⟩,
    ⟨some 13, .call { callee := (.builtin .append), args := #[(.tmp 11), (.tmp 12)], argTypes := #[30, 30] }, 30, none⟩,
    ⟨some 3, .assign (.tmp 13), 30, none⟩]
@[go_sem] def c24_2 : Cmd := .ops [⟨some 14, .move (.tmp 0), 30, none⟩,
    ⟨some 15, .call { callee := (.builtin .len), args := #[(.tmp 14)], argTypes := #[30] }, 3, none⟩,
    ⟨some 4, .assign (.tmp 15), 3, none⟩]
@[go_sem] def c24_3 : Cmd := .ops [⟨some 17, .move (.tmp 3), 30, none⟩,
    ⟨some 18, .move (.tmp 4), 3, none⟩,
    ⟨some 19, .slice 30 (.tmp 17) none (some (.tmp 18)) none, 30, none⟩,
    ⟨some 20, .call { callee := (.value (.func 33)), args := #[(.tmp 19)], argTypes := #[30] }, 57, none⟩,
    ⟨some 16, .move (.tmp 20), 57, none⟩,
    ⟨some 21, .extract (.tmp 16) 0, 22, none⟩,
    ⟨some 22, .extract (.tmp 16) 1, 31, none⟩,
    ⟨some 5, .assign (.tmp 21), 22, none⟩,
    ⟨some 6, .assign (.tmp 22), 31, none⟩]
@[go_sem] def c24_4 : Cmd := .ops [⟨some 24, .move (.tmp 0), 30, none⟩,
    ⟨some 25, .call { callee := (.value (.func 53)), args := #[(.tmp 24)], argTypes := #[30] }, 79, none⟩,
    ⟨some 23, .move (.tmp 25), 79, none⟩,
    ⟨some 26, .extract (.tmp 23) 0, 22, none⟩,
    ⟨some 27, .extract (.tmp 23) 1, 3, none⟩,
    ⟨some 7, .assign (.tmp 26), 22, none⟩,
    ⟨some 8, .assign (.tmp 27), 3, none⟩]
@[go_sem] def c24_5 : Cmd := .ops [⟨some 28, .move (.tmp 5), 22, none⟩,
    ⟨some 29, .move (.tmp 7), 22, none⟩,
    ⟨some 30, .call { callee := (.value (.func 15)), args := #[(.tmp 28), (.tmp 29)], argTypes := #[22, 22] }, 4, none⟩,
    ⟨some 31, .move (.tmp 30), 4, none⟩,
    ⟨some 32, .move (.tmp 6), 31, some (31, true)⟩,
    ⟨some 33, .call { callee := (.value (.func 23)), args := #[(.tmp 32)], argTypes := #[31] }, 3, some (31, true)⟩,
    ⟨some 34, .move (.tmp 8), 3, some (31, true)⟩,
    ⟨some 35, .binOp .eql 3 (.tmp 33) (.tmp 34) 3, 4, some (31, true)⟩,
    ⟨some 36, .pick (.tmp 31) (.tmp 35) (.const (.bool false)), 4, none⟩,
    ⟨some 9, .assign (.tmp 36), 4, none⟩]
@[go_sem] def c24_6 : Cmd := .ops [⟨some 37, .move (.tmp 9), 4, none⟩,
    ⟨some 38, .move (.tmp 37), 4, none⟩,
    ⟨some 39, .move (.tmp 3), 30, some (38, true)⟩,
    ⟨some 40, .move (.tmp 4), 3, some (38, true)⟩,
    ⟨some 41, .slice 30 (.tmp 39) none (some (.tmp 40)) none, 30, some (38, true)⟩,
    ⟨some 42, .move (.tmp 0), 30, some (38, true)⟩,
    ⟨some 43, .call { callee := (.value (.func 22)), args := #[(.tmp 41), (.tmp 42)], argTypes := #[30, 30] }, 4, some (38, true)⟩,
    ⟨some 44, .pick (.tmp 38) (.tmp 43) (.const (.bool false)), 4, none⟩,
    ⟨some 45, .move (.tmp 44), 4, none⟩,
    ⟨some 46, .move (.tmp 3), 30, some (45, true)⟩,
    ⟨some 47, .move (.tmp 4), 3, some (45, true)⟩,
    ⟨some 48, .indexAddr 30 (.tmp 46) (.tmp 47), 0, some (45, true)⟩,
    ⟨some 49, .load 5 (.tmp 48), 5, some (45, true)⟩,
    ⟨some 50, .binOp .eql 5 (.tmp 49) (.const (.int .u8 201)) 5, 4, some (45, true)⟩,
    ⟨some 51, .pick (.tmp 45) (.tmp 50) (.const (.bool false)), 4, none⟩,
    ⟨some 52, .move (.tmp 51), 4, none⟩,
    ⟨some 53, .move (.tmp 3), 30, some (52, true)⟩,
    ⟨some 54, .move (.tmp 4), 3, some (52, true)⟩,
    ⟨some 55, .binOp .add 3 (.tmp 54) (.const (.int .i64 1)) 3, 3, some (52, true)⟩,
    ⟨some 56, .indexAddr 30 (.tmp 53) (.tmp 55), 0, some (52, true)⟩,
    ⟨some 57, .load 5 (.tmp 56), 5, some (52, true)⟩,
    ⟨some 58, .binOp .eql 5 (.tmp 57) (.const (.int .u8 202)) 5, 4, some (52, true)⟩,
    ⟨some 59, .pick (.tmp 52) (.tmp 58) (.const (.bool false)), 4, none⟩,
    ⟨some 2, .assign (.tmp 59), 4, none⟩]
@[go_sem] def c24 : Cmd := (.seq c24_0 (.seq c24_1 (.seq c24_2 (.seq c24_3 (.seq c24_4 (.seq c24_5 (.seq c24_6 .ret)))))))
theorem b24 : Try.f24.body.map (comp 60) = some c24 := by kernel_rfl
theorem r24 : Try.f24.results.toList = [.tmp 2] := by kernel_rfl
-- 25 pith/pithref.Bytes
@[go_sem] def c25_0 : Cmd := .ops [⟨some 2, .assign (.const (.slice none 0 0)), 30, none⟩]
@[go_sem] def c25_1 : Cmd := .ops [⟨some 3, .move (.tmp 0), 30, none⟩,
    ⟨some 4, .call { callee := (.builtin .len), args := #[(.tmp 3)], argTypes := #[30] }, 3, none⟩,
    ⟨some 5, .makeSlice 30 (.const (.int .i64 0)) (.tmp 4), 30, none⟩,
    ⟨some 6, .move (.tmp 0), 30, none⟩,
    ⟨some 7, .call { callee := (.builtin .append), args := #[(.tmp 5), (.tmp 6)], argTypes := #[30, 30] }, 30, none⟩,
    ⟨some 2, .assign (.tmp 7), 30, none⟩]
@[go_sem] def c25 : Cmd := (.seq c25_0 (.seq c25_1 .ret))
theorem b25 : Try.f25.body.map (comp 8) = some c25 := by kernel_rfl
theorem r25 : Try.f25.results.toList = [.tmp 2] := by kernel_rfl
-- 26 pith/runs.New
@[go_sem] def c26_0 : Cmd := .ops [⟨some 2, .assign (.const (.pointer none)), 46, none⟩]
@[go_sem] def c26_1 : Cmd := .ops [⟨some 4, .move (.tmp 0), 3, none⟩,
    ⟨some 5, .binOp .lss 3 (.tmp 4) (.const (.int .i64 0)) 3, 4, none⟩,
    ⟨some 6, .move (.tmp 5), 4, none⟩,
    ⟨some 7, .move (.tmp 0), 3, some (6, false)⟩,
    ⟨some 8, .binOp .gtr 3 (.tmp 7) (.const (.int .i64 64)) 3, 4, some (6, false)⟩,
    ⟨some 9, .pick (.tmp 6) (.const (.bool true)) (.tmp 8), 4, none⟩]
@[go_sem] def c26_2 : Cmd := .ops [⟨some 2, .assign (.const (.pointer none)), 46, none⟩]
@[go_sem] def c26_3 : Cmd := .cond (.tmp 9) (.seq c26_2 .ret) .skip
@[go_sem] def c26_4 : Cmd := .ops [⟨some 10, .move (.tmp 0), 3, none⟩,
    ⟨some 11, .makeSlice 81 (.tmp 10) (.tmp 10), 81, none⟩,
    ⟨some 12, .build 86 #[(0, (.tmp 11))], 86, none⟩,
    ⟨some 13, .box 86 (.tmp 12), 46, none⟩,
    ⟨some 3, .alloc 46, 0, none⟩,
    ⟨none, .store 46 (.tmp 3) (.tmp 13), 0, none⟩]
@[go_sem] def c26_5 : Cmd := .ops [⟨some 14, .load 46 (.tmp 3), 46, none⟩,
    ⟨some 15, .makeFunc (.func 54) #[] #[(.tmp 3)], 82, none⟩,
    ⟨some 16, .nilCheck (.tmp 14), 0, none⟩,
    ⟨some 17, .fieldAddr 86 (.tmp 16) 1, 0, none⟩,
    ⟨some 18, .fieldAddr 84 (.tmp 17) 1, 0, none⟩,
    ⟨none, .store 82 (.tmp 18) (.tmp 15), 0, none⟩]
@[go_sem] def c26_6 : Cmd := .ops [⟨some 19, .load 46 (.tmp 3), 46, none⟩,
    ⟨some 2, .assign (.tmp 19), 46, none⟩]
@[go_sem] def c26 : Cmd := (.seq c26_0 (.seq (.seq c26_1 c26_3) (.seq c26_4 (.seq c26_5 (.seq c26_6 .ret)))))
theorem b26 : Try.f26.body.map (comp 20) = some c26 := by kernel_rfl
theorem r26 : Try.f26.results.toList = [.tmp 2] := by kernel_rfl
-- 27 pith/pithref11.New
@[go_sem] def c27_0 : Cmd := .ops [⟨some 2, .assign (.const (.pointer none)), 48, none⟩]
@[go_sem] def c27_1 : Cmd := .ops [⟨some 3, .move (.tmp 0), 3, none⟩,
    ⟨some 4, .binOp .lss 3 (.tmp 3) (.const (.int .i64 0)) 3, 4, none⟩,
    ⟨some 5, .move (.tmp 4), 4, none⟩,
    ⟨some 6, .move (.tmp 0), 3, some (5, false)⟩,
    ⟨some 7, .binOp .gtr 3 (.tmp 6) (.const (.int .i64 64)) 3, 4, some (5, false)⟩,
    ⟨some 8, .pick (.tmp 5) (.const (.bool true)) (.tmp 7), 4, none⟩]
@[go_sem] def c27_2 : Cmd := .ops [⟨some 2, .assign (.const (.pointer none)), 48, none⟩]
@[go_sem] def c27_3 : Cmd := .cond (.tmp 8) (.seq c27_2 .ret) .skip
@[go_sem] def c27_4 : Cmd := .ops [⟨some 9, .move (.tmp 0), 3, none⟩,
    ⟨some 10, .makeSlice 89 (.tmp 9) (.tmp 9), 89, none⟩,
    ⟨some 11, .build 91 #[(0, (.tmp 10))], 91, none⟩,
    ⟨some 12, .box 91 (.tmp 11), 48, none⟩,
    ⟨some 2, .assign (.tmp 12), 48, none⟩]
@[go_sem] def c27 : Cmd := (.seq c27_0 (.seq (.seq c27_1 c27_3) (.seq c27_4 .ret)))
theorem b27 : Try.f27.body.map (comp 13) = some c27 := by kernel_rfl
theorem r27 : Try.f27.results.toList = [.tmp 2] := by kernel_rfl
-- 28 pith/pithlaw11.plays
@[go_sem] def c28_0 : Cmd := .ops [⟨some 5, .box 51 (.tmp 2), 0, none⟩,
    ⟨some 6, .assign (.const (.bool false)), 4, none⟩]
@[go_sem] def c28_1 : Cmd := .ops [⟨some 15, .fieldAddr 51 (.tmp 5) 0, 0, none⟩,
    ⟨some 16, .load 3 (.tmp 15), 3, none⟩]
@[go_sem] def c28_2 : Cmd := .ops [⟨some 18, .binOp .eql 3 (.tmp 16) (.const (.int .i64 1)) 3, 4, none⟩,
    ⟨some 17, .assign (.tmp 18), 4, none⟩]
@[go_sem] def c28_3 : Cmd := .ops [⟨some 19, .fieldAddr 51 (.tmp 5) 2, 0, none⟩,
    ⟨some 20, .load 22 (.tmp 19), 22, none⟩,
    ⟨some 21, .call { callee := (.value (.func 14)), args := #[(.tmp 20)], argTypes := #[22] }, 22, none⟩,
    ⟨some 7, .assign (.tmp 21), 22, none⟩]
@[go_sem] def c28_4 : Cmd := .ops [⟨some 22, .move (.tmp 0), 46, none⟩,
    ⟨some 23, .fieldAddr 51 (.tmp 5) 1, 0, none⟩,
    ⟨some 24, .load 3 (.tmp 23), 3, none⟩,
    ⟨some 25, .move (.tmp 7), 22, none⟩,
    ⟨some 26, .fieldAddr 51 (.tmp 5) 3, 0, none⟩,
    ⟨some 27, .load 4 (.tmp 26), 4, none⟩,
    ⟨some 28, .call { callee := (.value (.func 35)), args := #[(.tmp 22), (.tmp 24), (.tmp 25), (.tmp 27)], argTypes := #[46, 3, 22, 4] }, 31, none⟩,
    ⟨some 8, .assign (.tmp 28), 31, none⟩]
@[go_sem] def c28_5 : Cmd := .ops [⟨some 29, .move (.tmp 1), 48, none⟩,
    ⟨some 30, .fieldAddr 51 (.tmp 5) 1, 0, none⟩,
    ⟨some 31, .load 3 (.tmp 30), 3, none⟩,
    ⟨some 32, .fieldAddr 51 (.tmp 5) 2, 0, none⟩,
    ⟨some 33, .load 22 (.tmp 32), 22, none⟩,
    ⟨some 34, .fieldAddr 51 (.tmp 5) 3, 0, none⟩,
    ⟨some 35, .load 4 (.tmp 34), 4, none⟩,
    ⟨some 36, .call { callee := (.value (.func 55)), args := #[(.tmp 29), (.tmp 31), (.tmp 33), (.tmp 35)], argTypes := #[48, 3, 22, 4] }, 3, none⟩,
    ⟨some 9, .assign (.tmp 36), 3, none⟩]
@[go_sem] def c28_6 : Cmd := .ops [⟨some 37, .move (.tmp 7), 22, none⟩,
    ⟨some 38, .fieldAddr 51 (.tmp 5) 2, 0, none⟩,
    ⟨some 39, .load 22 (.tmp 38), 22, none⟩,
    ⟨some 40, .call { callee := (.value (.func 19)), args := #[(.tmp 37), (.tmp 39)], argTypes := #[22, 22] }, 4, none⟩,
    ⟨some 10, .assign (.tmp 40), 4, none⟩]
@[go_sem] def c28_7 : Cmd := .ops [⟨some 41, .move (.tmp 8), 31, none⟩,
    ⟨some 42, .call { callee := (.value (.func 23)), args := #[(.tmp 41)], argTypes := #[31] }, 3, none⟩,
    ⟨some 43, .move (.tmp 9), 3, none⟩,
    ⟨some 44, .binOp .eql 3 (.tmp 42) (.tmp 43) 3, 4, none⟩,
    ⟨some 45, .move (.tmp 44), 4, none⟩,
    ⟨some 46, .move (.tmp 10), 4, some (45, true)⟩,
    ⟨some 47, .pick (.tmp 45) (.tmp 46) (.const (.bool false)), 4, none⟩,
    ⟨some 6, .assign (.tmp 47), 4, none⟩]
@[go_sem] def c28_8 : Cmd := .ops [⟨some 49, .binOp .eql 3 (.tmp 16) (.const (.int .i64 2)) 3, 4, none⟩,
    ⟨some 48, .assign (.tmp 49), 4, none⟩]
@[go_sem] def c28_9 : Cmd := .ops [⟨some 51, .move (.tmp 0), 46, none⟩,
    ⟨some 52, .call { callee := (.value (.func 40)), args := #[(.tmp 51)], argTypes := #[46] }, 72, none⟩,
    ⟨some 50, .move (.tmp 52), 72, none⟩,
    ⟨some 53, .extract (.tmp 50) 0, 24, none⟩,
    ⟨some 54, .extract (.tmp 50) 1, 4, none⟩,
    ⟨some 11, .alloc 24, 0, none⟩,
    ⟨none, .store 24 (.tmp 11) (.tmp 53), 0, none⟩,
    ⟨some 12, .assign (.tmp 54), 4, none⟩]
@[go_sem] def c28_10 : Cmd := .ops [⟨some 56, .move (.tmp 1), 48, none⟩,
    ⟨some 57, .call { callee := (.value (.func 56)), args := #[(.tmp 56)], argTypes := #[48] }, 72, none⟩,
    ⟨some 55, .move (.tmp 57), 72, none⟩,
    ⟨some 58, .extract (.tmp 55) 0, 24, none⟩,
    ⟨some 59, .extract (.tmp 55) 1, 4, none⟩,
    ⟨some 13, .alloc 24, 0, none⟩,
    ⟨none, .store 24 (.tmp 13) (.tmp 58), 0, none⟩,
    ⟨some 14, .assign (.tmp 59), 4, none⟩]
@[go_sem] def c28_11 : Cmd := .ops [⟨some 60, .load 24 (.tmp 11), 24, none⟩,
    ⟨some 61, .load 24 (.tmp 13), 24, none⟩,
    ⟨some 62, .binOp .eql 24 (.tmp 60) (.tmp 61) 24, 4, none⟩,
    ⟨some 63, .move (.tmp 62), 4, none⟩,
    ⟨some 64, .move (.tmp 12), 4, some (63, true)⟩,
    ⟨some 65, .move (.tmp 14), 4, some (63, true)⟩,
    ⟨some 66, .binOp .eql 4 (.tmp 64) (.tmp 65) 4, 4, some (63, true)⟩,
    ⟨some 67, .pick (.tmp 63) (.tmp 66) (.const (.bool false)), 4, none⟩,
    ⟨some 6, .assign (.tmp 67), 4, none⟩]
@[go_sem] def c28_12 : Cmd := .cond (.tmp 48) (.seq c28_9 (.seq c28_10 (.seq c28_11 .ret))) .skip
@[go_sem] def c28_13 : Cmd := .cond (.tmp 17) (.seq c28_3 (.seq c28_4 (.seq c28_5 (.seq c28_6 (.seq c28_7 .ret))))) (.seq c28_8 c28_12)
@[go_sem] def c28_14 : Cmd := .block 0 (.seq c28_2 c28_13)
@[go_sem] def c28_15 : Cmd := .ops [⟨some 68, .move (.tmp 0), 46, none⟩,
    ⟨some 69, .call { callee := (.value (.func 37)), args := #[(.tmp 68)], argTypes := #[46] }, 3, none⟩,
    ⟨some 70, .move (.tmp 1), 48, none⟩,
    ⟨some 71, .call { callee := (.value (.func 57)), args := #[(.tmp 70)], argTypes := #[48] }, 3, none⟩,
    ⟨some 72, .binOp .eql 3 (.tmp 69) (.tmp 71) 3, 4, none⟩,
    ⟨some 73, .move (.tmp 72), 4, none⟩,
    ⟨some 74, .move (.tmp 0), 46, some (73, true)⟩,
    ⟨some 75, .call { callee := (.value (.func 38)), args := #[(.tmp 74)], argTypes := #[46] }, 3, some (73, true)⟩,
    ⟨some 76, .move (.tmp 1), 48, some (73, true)⟩,
    ⟨some 77, .call { callee := (.value (.func 58)), args := #[(.tmp 76)], argTypes := #[48] }, 3, some (73, true)⟩,
    ⟨some 78, .binOp .eql 3 (.tmp 75) (.tmp 77) 3, 4, some (73, true)⟩,
    ⟨some 79, .pick (.tmp 73) (.tmp 78) (.const (.bool false)), 4, none⟩,
    ⟨some 6, .assign (.tmp 79), 4, none⟩]
@[go_sem] def c28 : Cmd := (.seq c28_0 (.seq (.seq c28_1 c28_14) (.seq c28_15 .ret)))
theorem b28 : Try.f28.body.map (comp 80) = some c28 := by kernel_rfl
theorem r28 : Try.f28.results.toList = [.tmp 6] := by kernel_rfl
-- 29 pith/pithlaw11.rises
@[go_sem] def c29_0 : Cmd := .ops [⟨some 2, .assign (.const (.bool false)), 4, none⟩]
@[go_sem] def c29_1 : Cmd := .ops [⟨some 3, .assign (.const (.int .i64 1)), 3, none⟩]
@[go_sem] def c29_2 : Cmd := .ops [⟨some 5, .move (.tmp 3), 3, none⟩,
    ⟨some 6, .move (.tmp 0), 22, none⟩,
    ⟨some 7, .call { callee := (.builtin .len), args := #[(.tmp 6)], argTypes := #[22] }, 3, none⟩,
    ⟨some 8, .binOp .lss 3 (.tmp 5) (.tmp 7) 3, 4, none⟩]
@[go_sem] def c29_3 : Cmd := .cond (.tmp 8) .skip (.exit 0)
@[go_sem] def c29_4 : Cmd := .still 9 [⟨some 11, .move (.tmp 0), 22, none⟩,
    ⟨some 12, .move (.tmp 3), 3, none⟩,
    ⟨some 13, .binOp .sub 3 (.tmp 12) (.const (.int .i64 1)) 3, 3, none⟩,
    ⟨some 14, .indexAddr 22 (.tmp 11) (.tmp 13), 0, none⟩,
    ⟨some 15, .load 24 (.tmp 14), 24, none⟩,
    ⟨some 16, .move (.tmp 0), 22, none⟩,
    ⟨some 17, .move (.tmp 3), 3, none⟩,
    ⟨some 18, .indexAddr 22 (.tmp 16) (.tmp 17), 0, none⟩,
    ⟨some 19, .load 24 (.tmp 18), 24, none⟩,
    ⟨some 20, .call { callee := (.value (.func 31)), args := #[(.tmp 15), (.tmp 19)], argTypes := #[24, 24] }, 4, none⟩,
    ⟨some 4, .assign (.tmp 20), 4, none⟩]
@[go_sem] def c29_5 : Cmd := .ops [⟨some 21, .move (.tmp 4), 4, none⟩,
    ⟨some 22, .unOp .not 4 (.tmp 21), 4, none⟩]
@[go_sem] def c29_6 : Cmd := .ops [⟨some 2, .assign (.const (.bool false)), 4, none⟩]
@[go_sem] def c29_7 : Cmd := .cond (.tmp 22) (.seq c29_6 .ret) .skip
@[go_sem] def c29_8 : Cmd := .block 1 (.seq c29_4 (.seq c29_5 c29_7))
@[go_sem] def c29_9 : Cmd := .ops [⟨some 9, .move (.tmp 3), 3, none⟩,
    ⟨some 10, .binOp .add 3 (.tmp 9) (.const (.int .i64 1)) 3, 3, none⟩,
    ⟨some 3, .assign (.tmp 10), 3, none⟩]
def c29_L0 : Cmd := (.seq (.seq c29_2 c29_3) (.seq c29_8 c29_9))
@[go_sem] def c29_10 : Cmd := .loop c29_L0
@[go_sem] def c29_11 : Cmd := .block 0 c29_10
@[go_sem] def c29_12 : Cmd := .ops [⟨some 2, .assign (.const (.bool true)), 4, none⟩]
@[go_sem] def c29 : Cmd := (.seq c29_0 (.seq (.seq c29_1 c29_11) (.seq c29_12 .ret)))
theorem b29 : Try.f29.body.map (comp 23) = some c29 := by kernel_rfl
theorem r29 : Try.f29.results.toList = [.tmp 2] := by kernel_rfl
-- 30 pith/pithlaw11.has
@[go_sem] def c30_0 : Cmd := .ops [⟨some 3, .box 24 (.tmp 1), 0, none⟩,
    ⟨some 4, .assign (.const (.bool false)), 4, none⟩]
@[go_sem] def c30_1 : Cmd := .ops [⟨some 5, .assign (.const (.int .i64 0)), 3, none⟩]
@[go_sem] def c30_2 : Cmd := .ops [⟨some 8, .move (.tmp 0), 22, none⟩,
    ⟨some 9, .call { callee := (.builtin .len), args := #[(.tmp 8)], argTypes := #[22] }, 3, none⟩,
    ⟨some 6, .assign (.tmp 9), 3, none⟩]
@[go_sem] def c30_3 : Cmd := .ops [⟨some 10, .move (.tmp 5), 3, none⟩,
    ⟨some 11, .move (.tmp 6), 3, none⟩,
    ⟨some 12, .binOp .lss 3 (.tmp 10) (.tmp 11) 3, 4, none⟩]
@[go_sem] def c30_4 : Cmd := .cond (.tmp 12) .skip (.exit 0)
@[go_sem] def c30_5 : Cmd := .ops [⟨some 13, .move (.tmp 5), 3, none⟩,
    ⟨some 14, .move (.tmp 6), 3, none⟩,
    ⟨some 15, .binOp .add 3 (.tmp 13) (.tmp 14) 3, 3, none⟩,
    ⟨some 16, .binOp .quo 3 (.tmp 15) (.const (.int .i64 2)) 3, 3, none⟩,
    ⟨some 7, .assign (.tmp 16), 3, none⟩]
@[go_sem] def c30_6 : Cmd := .still 5 [⟨some 17, .move (.tmp 0), 22, none⟩,
    ⟨some 18, .move (.tmp 7), 3, none⟩,
    ⟨some 19, .indexAddr 22 (.tmp 17) (.tmp 18), 0, none⟩,
    ⟨some 20, .load 24 (.tmp 19), 24, none⟩,
    ⟨some 21, .load 24 (.tmp 3), 24, none⟩,
    ⟨some 22, .call { callee := (.value (.func 31)), args := #[(.tmp 20), (.tmp 21)], argTypes := #[24, 24] }, 4, none⟩]
@[go_sem] def c30_7 : Cmd := .ops [⟨some 23, .move (.tmp 7), 3, none⟩,
    ⟨some 24, .binOp .add 3 (.tmp 23) (.const (.int .i64 1)) 3, 3, none⟩,
    ⟨some 5, .assign (.tmp 24), 3, none⟩]
@[go_sem] def c30_8 : Cmd := .ops [⟨some 25, .move (.tmp 7), 3, none⟩,
    ⟨some 6, .assign (.tmp 25), 3, none⟩]
@[go_sem] def c30_9 : Cmd := .cond (.tmp 22) c30_7 c30_8
@[go_sem] def c30_10 : Cmd := .block 1 (.seq c30_5 (.seq c30_6 c30_9))
def c30_L0 : Cmd := (.seq (.seq c30_3 c30_4) c30_10)
@[go_sem] def c30_11 : Cmd := .loop c30_L0
@[go_sem] def c30_12 : Cmd := .block 0 c30_11
@[go_sem] def c30_13 : Cmd := .still 10 [⟨some 26, .move (.tmp 5), 3, none⟩,
    ⟨some 27, .move (.tmp 0), 22, none⟩,
    ⟨some 28, .call { callee := (.builtin .len), args := #[(.tmp 27)], argTypes := #[22] }, 3, none⟩,
    ⟨some 29, .binOp .lss 3 (.tmp 26) (.tmp 28) 3, 4, none⟩,
    ⟨some 30, .move (.tmp 29), 4, none⟩,
    ⟨some 31, .move (.tmp 0), 22, some (30, true)⟩,
    ⟨some 32, .move (.tmp 5), 3, some (30, true)⟩,
    ⟨some 33, .indexAddr 22 (.tmp 31) (.tmp 32), 0, some (30, true)⟩,
    ⟨some 34, .load 24 (.tmp 33), 24, some (30, true)⟩,
    ⟨some 35, .load 24 (.tmp 3), 24, some (30, true)⟩,
    ⟨some 36, .binOp .eql 24 (.tmp 34) (.tmp 35) 24, 4, some (30, true)⟩,
    ⟨some 37, .pick (.tmp 30) (.tmp 36) (.const (.bool false)), 4, none⟩,
    ⟨some 4, .assign (.tmp 37), 4, none⟩]
@[go_sem] def c30 : Cmd := (.seq c30_0 (.seq c30_1 (.seq c30_2 (.seq c30_12 (.seq c30_13 .ret)))))
theorem b30 : Try.f30.body.map (comp 38) = some c30 := by kernel_rfl
theorem r30 : Try.f30.results.toList = [.tmp 4] := by kernel_rfl
-- 31 pith/pithlaw11.ahead
@[go_sem] def c31_0 : Cmd := .ops [⟨some 2, .box 24 (.tmp 0), 0, none⟩,
    ⟨some 3, .box 24 (.tmp 1), 0, none⟩,
    ⟨some 4, .assign (.const (.bool false)), 4, none⟩]
@[go_sem] def c31_1 : Cmd := .ops [⟨some 5, .fieldAddr 24 (.tmp 2) 0, 0, none⟩,
    ⟨some 6, .load 3 (.tmp 5), 3, none⟩,
    ⟨some 7, .fieldAddr 24 (.tmp 3) 0, 0, none⟩,
    ⟨some 8, .load 3 (.tmp 7), 3, none⟩,
    ⟨some 9, .binOp .lss 3 (.tmp 6) (.tmp 8) 3, 4, none⟩,
    ⟨some 10, .move (.tmp 9), 4, none⟩,
    ⟨some 11, .fieldAddr 24 (.tmp 2) 0, 0, some (10, false)⟩,
    ⟨some 12, .load 3 (.tmp 11), 3, some (10, false)⟩,
    ⟨some 13, .fieldAddr 24 (.tmp 3) 0, 0, some (10, false)⟩,
    ⟨some 14, .load 3 (.tmp 13), 3, some (10, false)⟩,
    ⟨some 15, .binOp .eql 3 (.tmp 12) (.tmp 14) 3, 4, some (10, false)⟩,
    ⟨some 16, .move (.tmp 15), 4, some (10, false)⟩,
    ⟨some 17, .fieldAddr 24 (.tmp 2) 1, 0, some (16, true)⟩,
    ⟨some 18, .load 3 (.tmp 17), 3, some (16, true)⟩,
    ⟨some 19, .fieldAddr 24 (.tmp 3) 1, 0, some (16, true)⟩,
    ⟨some 20, .load 3 (.tmp 19), 3, some (16, true)⟩,
    ⟨some 21, .binOp .lss 3 (.tmp 18) (.tmp 20) 3, 4, some (16, true)⟩,
    ⟨some 22, .pick (.tmp 16) (.tmp 21) (.const (.bool false)), 4, some (10, false)⟩,
    ⟨some 23, .pick (.tmp 10) (.const (.bool true)) (.tmp 22), 4, none⟩,
    ⟨some 4, .assign (.tmp 23), 4, none⟩]
@[go_sem] def c31 : Cmd := (.seq c31_0 (.seq c31_1 .ret))
theorem b31 : Try.f31.body.map (comp 24) = some c31 := by kernel_rfl
theorem r31 : Try.f31.results.toList = [.tmp 4] := by kernel_rfl
-- 32 pith/pithlaw11.may
@[go_sem] def c32_0 : Cmd := .ops [⟨some 2, .assign (.const (.bool false)), 4, none⟩]
@[go_sem] def c32_1 : Cmd := .ops [⟨some 4, .move (.tmp 0), 22, none⟩,
    ⟨some 5, .call { callee := (.builtin .len), args := #[(.tmp 4)], argTypes := #[22] }, 3, none⟩,
    ⟨some 6, .binOp .lss 3 (.tmp 5) (.const (.int .i64 1)) 3, 4, none⟩,
    ⟨some 7, .move (.tmp 6), 4, none⟩,
    ⟨some 8, .move (.tmp 0), 22, some (7, false)⟩,
    ⟨some 9, .call { callee := (.builtin .len), args := #[(.tmp 8)], argTypes := #[22] }, 3, some (7, false)⟩,
    ⟨some 10, .binOp .gtr 3 (.tmp 9) (.const (.int .i64 100)) 3, 4, some (7, false)⟩,
    ⟨some 11, .pick (.tmp 7) (.const (.bool true)) (.tmp 10), 4, none⟩,
    ⟨some 12, .move (.tmp 11), 4, none⟩,
    ⟨some 13, .move (.tmp 0), 22, some (12, false)⟩,
    ⟨some 14, .call { callee := (.value (.func 29)), args := #[(.tmp 13)], argTypes := #[22] }, 4, some (12, false)⟩,
    ⟨some 15, .unOp .not 4 (.tmp 14), 4, some (12, false)⟩,
    ⟨some 16, .pick (.tmp 12) (.const (.bool true)) (.tmp 15), 4, none⟩]
@[go_sem] def c32_2 : Cmd := .ops [⟨some 2, .assign (.const (.bool false)), 4, none⟩]
@[go_sem] def c32_3 : Cmd := .cond (.tmp 16) (.seq c32_2 .ret) .skip
@[go_sem] def c32_4 : Cmd := .ops [⟨some 3, .assign (.const (.int .i64 0)), 3, none⟩]
@[go_sem] def c32_5 : Cmd := .ops [⟨some 17, .move (.tmp 3), 3, none⟩,
    ⟨some 18, .move (.tmp 0), 22, none⟩,
    ⟨some 19, .call { callee := (.builtin .len), args := #[(.tmp 18)], argTypes := #[22] }, 3, none⟩,
    ⟨some 20, .binOp .lss 3 (.tmp 17) (.tmp 19) 3, 4, none⟩]
@[go_sem] def c32_6 : Cmd := .cond (.tmp 20) .skip (.exit 0)
@[go_sem] def c32_7 : Cmd := .ops [⟨some 23, .move (.tmp 0), 22, none⟩,
    ⟨some 24, .move (.tmp 3), 3, none⟩,
    ⟨some 25, .indexAddr 22 (.tmp 23) (.tmp 24), 0, none⟩,
    ⟨some 26, .fieldAddr 24 (.tmp 25) 0, 0, none⟩,
    ⟨some 27, .load 3 (.tmp 26), 3, none⟩,
    ⟨some 28, .binOp .lss 3 (.tmp 27) (.const (.int .i64 0)) 3, 4, none⟩,
    ⟨some 29, .move (.tmp 28), 4, none⟩,
    ⟨some 30, .move (.tmp 0), 22, some (29, false)⟩,
    ⟨some 31, .move (.tmp 3), 3, some (29, false)⟩,
    ⟨some 32, .indexAddr 22 (.tmp 30) (.tmp 31), 0, some (29, false)⟩,
    ⟨some 33, .fieldAddr 24 (.tmp 32) 0, 0, some (29, false)⟩,
    ⟨some 34, .load 3 (.tmp 33), 3, some (29, false)⟩,
    ⟨some 35, .binOp .geq 3 (.tmp 34) (.const (.int .i64 16777216)) 3, 4, some (29, false)⟩,
    ⟨some 36, .pick (.tmp 29) (.const (.bool true)) (.tmp 35), 4, none⟩,
    ⟨some 37, .move (.tmp 36), 4, none⟩,
    ⟨some 38, .move (.tmp 0), 22, some (37, false)⟩,
    ⟨some 39, .move (.tmp 3), 3, some (37, false)⟩,
    ⟨some 40, .indexAddr 22 (.tmp 38) (.tmp 39), 0, some (37, false)⟩,
    ⟨some 41, .fieldAddr 24 (.tmp 40) 1, 0, some (37, false)⟩,
    ⟨some 42, .load 3 (.tmp 41), 3, some (37, false)⟩,
    ⟨some 43, .binOp .lss 3 (.tmp 42) (.const (.int .i64 0)) 3, 4, some (37, false)⟩,
    ⟨some 44, .pick (.tmp 37) (.const (.bool true)) (.tmp 43), 4, none⟩,
    ⟨some 45, .move (.tmp 44), 4, none⟩,
    ⟨some 46, .move (.tmp 0), 22, some (45, false)⟩,
    ⟨some 47, .move (.tmp 3), 3, some (45, false)⟩,
    ⟨some 48, .indexAddr 22 (.tmp 46) (.tmp 47), 0, some (45, false)⟩,
    ⟨some 49, .fieldAddr 24 (.tmp 48) 1, 0, some (45, false)⟩,
    ⟨some 50, .load 3 (.tmp 49), 3, some (45, false)⟩,
    ⟨some 51, .binOp .geq 3 (.tmp 50) (.const (.int .i64 16777216)) 3, 4, some (45, false)⟩,
    ⟨some 52, .pick (.tmp 45) (.const (.bool true)) (.tmp 51), 4, none⟩]
@[go_sem] def c32_8 : Cmd := .ops [⟨some 2, .assign (.const (.bool false)), 4, none⟩]
@[go_sem] def c32_9 : Cmd := .cond (.tmp 52) (.seq c32_8 .ret) .skip
@[go_sem] def c32_10 : Cmd := .block 1 (.seq c32_7 c32_9)
@[go_sem] def c32_11 : Cmd := .ops [⟨some 21, .move (.tmp 3), 3, none⟩,
    ⟨some 22, .binOp .add 3 (.tmp 21) (.const (.int .i64 1)) 3, 3, none⟩,
    ⟨some 3, .assign (.tmp 22), 3, none⟩]
def c32_L0 : Cmd := (.seq (.seq c32_5 c32_6) (.seq c32_10 c32_11))
@[go_sem] def c32_12 : Cmd := .loop c32_L0
@[go_sem] def c32_13 : Cmd := .block 0 c32_12
@[go_sem] def c32_14 : Cmd := .ops [⟨some 2, .assign (.const (.bool true)), 4, none⟩]
@[go_sem] def c32 : Cmd := (.seq c32_0 (.seq (.seq c32_1 c32_3) (.seq (.seq c32_4 c32_13) (.seq c32_14 .ret))))
theorem b32 : Try.f32.body.map (comp 53) = some c32 := by kernel_rfl
theorem r32 : Try.f32.results.toList = [.tmp 2] := by kernel_rfl
-- 33 pith/runs.Decode
@[go_sem] def c33_0 : Cmd := .ops [⟨some 2, .assign (.const (.slice none 0 0)), 22, none⟩,
    ⟨some 3, .assign (.const (.int .i64 0)), 31, none⟩]
@[go_sem] def c33_1 : Cmd := .ops [⟨some 14, .move (.tmp 0), 30, none⟩,
    ⟨some 15, .call { callee := (.value (.func 59)), args := #[(.tmp 14)], argTypes := #[30] }, 93, none⟩,
    ⟨some 4, .assign (.tmp 15), 93, none⟩]
@[go_sem] def c33_2 : Cmd := .ops [⟨some 16, .move (.tmp 4), 93, none⟩,
    ⟨some 17, .call { callee := (.value (.func 60)), args := #[(.tmp 16)], argTypes := #[93] }, 3, none⟩,
    ⟨some 5, .assign (.tmp 17), 3, none⟩]
@[go_sem] def c33_3 : Cmd := .ops [⟨some 18, .move (.tmp 5), 3, none⟩,
    ⟨some 19, .binOp .gtr 3 (.tmp 18) (.const (.int .i64 100)) 3, 4, none⟩]
@[go_sem] def c33_4 : Cmd := .ops [⟨some 2, .assign (.const (.slice none 0 0)), 22, none⟩,
    ⟨some 3, .assign (.const (.int .i64 90)), 31, none⟩]
@[go_sem] def c33_5 : Cmd := .cond (.tmp 19) (.seq c33_4 .ret) .skip
@[go_sem] def c33_6 : Cmd := .ops [⟨some 20, .move (.tmp 5), 3, none⟩,
    ⟨some 21, .makeSlice 22 (.const (.int .i64 0)) (.tmp 20), 22, none⟩,
    ⟨some 6, .assign (.tmp 21), 22, none⟩]
@[go_sem] def c33_7 : Cmd := .ops [⟨some 22, .move (.tmp 5), 3, none⟩,
    ⟨some 23, .move (.const (.int .i64 0)), 3, none⟩]
@[go_sem] def c33_8 : Cmd := .ops [⟨some 24, .binOp .lss 3 (.tmp 23) (.tmp 22) 3, 4, none⟩]
@[go_sem] def c33_9 : Cmd := .cond (.tmp 24) .skip (.exit 0)
@[go_sem] def c33_10 : Cmd := .ops [⟨some 25, .move (.tmp 23), 3, none⟩,
    ⟨some 7, .assign (.tmp 25), 3, none⟩]
@[go_sem] def c33_11 : Cmd := .ops [⟨some 26, .move (.tmp 4), 93, none⟩,
    ⟨some 27, .call { callee := (.value (.func 60)), args := #[(.tmp 26)], argTypes := #[93] }, 3, none⟩,
    ⟨some 28, .build 24 #[(0, (.tmp 27))], 24, none⟩,
    ⟨some 8, .alloc 24, 0, none⟩,
    ⟨none, .store 24 (.tmp 8) (.tmp 28), 0, none⟩]
@[go_sem] def c33_12 : Cmd := .ops [⟨some 29, .move (.tmp 4), 93, none⟩,
    ⟨some 30, .call { callee := (.value (.func 60)), args := #[(.tmp 29)], argTypes := #[93] }, 3, none⟩,
    ⟨some 31, .fieldAddr 24 (.tmp 8) 1, 0, none⟩,
    ⟨none, .store 3 (.tmp 31) (.tmp 30), 0, none⟩]
@[go_sem] def c33_13 : Cmd := .ops [⟨some 32, .fieldAddr 24 (.tmp 8) 0, 0, none⟩,
    ⟨some 33, .load 3 (.tmp 32), 3, none⟩,
    ⟨some 34, .binOp .gtr 3 (.tmp 33) (.const (.int .i64 16777216)) 3, 4, none⟩,
    ⟨some 35, .move (.tmp 34), 4, none⟩,
    ⟨some 36, .fieldAddr 24 (.tmp 8) 1, 0, some (35, false)⟩,
    ⟨some 37, .load 3 (.tmp 36), 3, some (35, false)⟩,
    ⟨some 38, .binOp .gtr 3 (.tmp 37) (.const (.int .i64 16777216)) 3, 4, some (35, false)⟩,
    ⟨some 39, .pick (.tmp 35) (.const (.bool true)) (.tmp 38), 4, none⟩]
@[go_sem] def c33_14 : Cmd := .ops [⟨some 2, .assign (.const (.slice none 0 0)), 22, none⟩,
    ⟨some 3, .assign (.const (.int .i64 90)), 31, none⟩]
@[go_sem] def c33_15 : Cmd := .cond (.tmp 39) (.seq c33_14 .ret) .skip
@[go_sem] def c33_16 : Cmd := .ops [⟨some 40, .move (.tmp 7), 3, none⟩,
    ⟨some 41, .binOp .gtr 3 (.tmp 40) (.const (.int .i64 0)) 3, 4, none⟩]
@[go_sem] def c33_17 : Cmd := .ops [⟨some 42, .move (.tmp 6), 22, none⟩,
    ⟨some 43, .move (.tmp 7), 3, none⟩,
    ⟨some 44, .binOp .sub 3 (.tmp 43) (.const (.int .i64 1)) 3, 3, none⟩,
    ⟨some 45, .indexAddr 22 (.tmp 42) (.tmp 44), 0, none⟩,
    ⟨some 46, .load 24 (.tmp 45), 24, none⟩,
    ⟨some 9, .alloc 24, 0, none⟩,
    ⟨none, .store 24 (.tmp 9) (.tmp 46), 0, none⟩]
@[go_sem] def c33_18 : Cmd := .ops [⟨some 47, .fieldAddr 24 (.tmp 8) 0, 0, none⟩,
    ⟨some 48, .load 3 (.tmp 47), 3, none⟩,
    ⟨some 49, .binOp .eql 3 (.tmp 48) (.const (.int .i64 0)) 3, 4, none⟩]
@[go_sem] def c33_19 : Cmd := .ops [⟨some 50, .fieldAddr 24 (.tmp 8) 1, 0, none⟩,
    ⟨some 51, .load 3 (.tmp 50), 3, none⟩,
    ⟨some 52, .fieldAddr 24 (.tmp 9) 1, 0, none⟩,
    ⟨some 53, .load 3 (.tmp 52), 3, none⟩,
    ⟨some 54, .binOp .add 3 (.tmp 53) (.const (.int .i64 1)) 3, 3, none⟩,
    ⟨some 55, .binOp .add 3 (.tmp 51) (.tmp 54) 3, 3, none⟩,
    ⟨some 56, .fieldAddr 24 (.tmp 8) 1, 0, none⟩,
    ⟨none, .store 3 (.tmp 56) (.tmp 55), 0, none⟩]
@[go_sem] def c33_20 : Cmd := .cond (.tmp 49) c33_19 .skip
@[go_sem] def c33_21 : Cmd := .ops [⟨some 57, .fieldAddr 24 (.tmp 8) 0, 0, none⟩,
    ⟨some 58, .load 3 (.tmp 57), 3, none⟩,
    ⟨some 59, .fieldAddr 24 (.tmp 9) 0, 0, none⟩,
    ⟨some 60, .load 3 (.tmp 59), 3, none⟩,
    ⟨some 61, .binOp .add 3 (.tmp 58) (.tmp 60) 3, 3, none⟩,
    ⟨some 62, .fieldAddr 24 (.tmp 8) 0, 0, none⟩,
    ⟨none, .store 3 (.tmp 62) (.tmp 61), 0, none⟩]
@[go_sem] def c33_22 : Cmd := .cond (.tmp 41) (.seq c33_17 (.seq (.seq c33_18 c33_20) c33_21)) .skip
@[go_sem] def c33_23 : Cmd := .ops [⟨some 63, .move (.tmp 6), 22, none⟩,
    ⟨some 64, .load 24 (.tmp 8), 24, none⟩,
    ⟨some 65, .buildSlice 22 1 #[(0, (.tmp 64))], 22, none⟩,
    ⟨some 66, .call { callee := (.builtin .append), args := #[(.tmp 63), (.tmp 65)], argTypes := #[22, 22] }, 22, none⟩,
    ⟨some 6, .assign (.tmp 66), 22, none⟩]
@[go_sem] def c33_24 : Cmd := .block 1 (.seq c33_10 (.seq c33_11 (.seq c33_12 (.seq (.seq c33_13 c33_15) (.seq (.seq c33_16 c33_22) c33_23)))))
@[go_sem] def c33_25 : Cmd := .ops [⟨some 67, .binOp .add 3 (.tmp 23) (.const (.int .i64 1)) 3, 3, none⟩,
    ⟨some 23, .move (.tmp 67), 3, none⟩]
def c33_L0 : Cmd := (.seq c33_8 (.seq c33_9 (.seq c33_24 c33_25)))
@[go_sem] def c33_26 : Cmd := .loop c33_L0
@[go_sem] def c33_27 : Cmd := .block 0 c33_26
@[go_sem] def c33_28 : Cmd := .ops [⟨some 69, .move (.tmp 4), 93, none⟩,
    ⟨some 70, .call { callee := (.value (.func 61)), args := #[(.tmp 69)], argTypes := #[93] }, 95, none⟩,
    ⟨some 68, .move (.tmp 70), 95, none⟩,
    ⟨some 71, .extract (.tmp 68) 0, 31, none⟩,
    ⟨some 72, .extract (.tmp 68) 1, 3, none⟩,
    ⟨some 10, .assign (.tmp 71), 31, none⟩,
    ⟨some 11, .assign (.tmp 72), 3, none⟩]
@[go_sem] def c33_29 : Cmd := .ops [⟨some 73, .move (.tmp 10), 31, none⟩,
    ⟨some 74, .binOp .neq 31 (.tmp 73) (.const (.int .i64 0)) 31, 4, none⟩]
@[go_sem] def c33_30 : Cmd := .ops [⟨some 2, .assign (.const (.slice none 0 0)), 22, none⟩,
    ⟨some 3, .assign (.const (.int .i64 90)), 31, none⟩]
@[go_sem] def c33_31 : Cmd := .cond (.tmp 74) (.seq c33_30 .ret) .skip
@[go_sem] def c33_32 : Cmd := .ops [⟨some 76, .move (.tmp 6), 22, none⟩,
    ⟨some 77, .call { callee := (.value (.func 20)), args := #[(.tmp 76)], argTypes := #[22] }, 32, none⟩,
    ⟨some 75, .move (.tmp 77), 32, none⟩,
    ⟨some 78, .extract (.tmp 75) 0, 30, none⟩,
    ⟨some 79, .extract (.tmp 75) 1, 31, none⟩,
    ⟨some 12, .assign (.tmp 78), 30, none⟩,
    ⟨some 13, .assign (.tmp 79), 31, none⟩]
@[go_sem] def c33_33 : Cmd := .ops [⟨some 80, .move (.tmp 13), 31, none⟩,
    ⟨some 81, .binOp .neq 31 (.tmp 80) (.const (.int .i64 0)) 31, 4, none⟩,
    ⟨some 82, .move (.tmp 81), 4, none⟩,
    ⟨some 83, .move (.tmp 0), 30, some (82, false)⟩,
    ⟨some 84, .move (.tmp 12), 30, some (82, false)⟩,
    ⟨some 85, .call { callee := (.value (.func 62)), args := #[(.tmp 83), (.tmp 84)], argTypes := #[30, 30] }, 4, some (82, false)⟩,
    ⟨some 86, .unOp .not 4 (.tmp 85), 4, some (82, false)⟩,
    ⟨some 87, .pick (.tmp 82) (.const (.bool true)) (.tmp 86), 4, none⟩]
@[go_sem] def c33_34 : Cmd := .ops [⟨some 2, .assign (.const (.slice none 0 0)), 22, none⟩,
    ⟨some 3, .assign (.const (.int .i64 90)), 31, none⟩]
@[go_sem] def c33_35 : Cmd := .cond (.tmp 87) (.seq c33_34 .ret) .skip
@[go_sem] def c33_36 : Cmd := .ops [⟨some 88, .move (.tmp 6), 22, none⟩,
    ⟨some 2, .assign (.tmp 88), 22, none⟩,
    ⟨some 3, .assign (.const (.int .i64 0)), 31, none⟩]
@[go_sem] def c33 : Cmd := (.seq c33_0 (.seq c33_1 (.seq c33_2 (.seq (.seq c33_3 c33_5) (.seq c33_6 (.seq (.seq c33_7 c33_27) (.seq (.seq c33_28 (.seq c33_29 c33_31)) (.seq (.seq c33_32 (.seq c33_33 c33_35)) (.seq c33_36 .ret)))))))))
theorem b33 : Try.f33.body.map (comp 89) = some c33 := by kernel_rfl
theorem r33 : Try.f33.results.toList = [.tmp 2, .tmp 3] := by kernel_rfl
-- 34 pith/pithlaw11.sources
@[go_sem] def c34_0 : Cmd := .ops [⟨some 2, .assign (.const (.slice none 0 0)), 60, none⟩]
@[go_sem] def c34_1 : Cmd := .ops [⟨some 3, .assign (.const (.slice none 0 0)), 60, none⟩]
@[go_sem] def c34_2 : Cmd := .ops [⟨some 4, .assign (.const (.int .i64 0)), 3, none⟩]
@[go_sem] def c34_3 : Cmd := .ops [⟨some 5, .move (.tmp 4), 3, none⟩,
    ⟨some 6, .move (.tmp 0), 60, none⟩,
    ⟨some 7, .call { callee := (.builtin .len), args := #[(.tmp 6)], argTypes := #[60] }, 3, none⟩,
    ⟨some 8, .binOp .lss 3 (.tmp 5) (.tmp 7) 3, 4, none⟩,
    ⟨some 9, .move (.tmp 8), 4, none⟩,
    ⟨some 10, .move (.tmp 4), 3, some (9, true)⟩,
    ⟨some 11, .binOp .lss 3 (.tmp 10) (.const (.int .i64 64)) 3, 4, some (9, true)⟩,
    ⟨some 12, .pick (.tmp 9) (.tmp 11) (.const (.bool false)), 4, none⟩]
@[go_sem] def c34_4 : Cmd := .cond (.tmp 12) .skip (.exit 0)
@[go_sem] def c34_5 : Cmd := .ops [⟨some 15, .move (.tmp 0), 60, none⟩,
    ⟨some 16, .move (.tmp 4), 3, none⟩,
    ⟨some 17, .indexAddr 60 (.tmp 15) (.tmp 16), 0, none⟩,
    ⟨some 18, .load 22 (.tmp 17), 22, none⟩,
    ⟨some 19, .call { callee := (.builtin .len), args := #[(.tmp 18)], argTypes := #[22] }, 3, none⟩,
    ⟨some 20, .binOp .leq 3 (.tmp 19) (.const (.int .i64 3000)) 3, 4, none⟩]
@[go_sem] def c34_6 : Cmd := .ops [⟨some 21, .move (.tmp 3), 60, none⟩,
    ⟨some 22, .move (.tmp 0), 60, none⟩,
    ⟨some 23, .move (.tmp 4), 3, none⟩,
    ⟨some 24, .indexAddr 60 (.tmp 22) (.tmp 23), 0, none⟩,
    ⟨some 25, .load 22 (.tmp 24), 22, none⟩,
    ⟨some 26, .call { callee := (.value (.func 16)), args := #[(.tmp 25)], argTypes := #[22] }, 22, none⟩,
    ⟨some 27, .buildSlice 60 1 #[(0, (.tmp 26))], 60, none⟩,
    ⟨some 28, .call { callee := (.builtin .append), args := #[(.tmp 21), (.tmp 27)], argTypes := #[60, 60] }, 60, none⟩,
    ⟨some 3, .assign (.tmp 28), 60, none⟩]
@[go_sem] def c34_7 : Cmd := .cond (.tmp 20) c34_6 .skip
@[go_sem] def c34_8 : Cmd := .block 1 (.seq c34_5 c34_7)
@[go_sem] def c34_9 : Cmd := .ops [⟨some 13, .move (.tmp 4), 3, none⟩,
    ⟨some 14, .binOp .add 3 (.tmp 13) (.const (.int .i64 1)) 3, 3, none⟩,
    ⟨some 4, .assign (.tmp 14), 3, none⟩]
def c34_L0 : Cmd := (.seq (.seq c34_3 c34_4) (.seq c34_8 c34_9))
@[go_sem] def c34_10 : Cmd := .loop c34_L0
@[go_sem] def c34_11 : Cmd := .block 0 c34_10
@[go_sem] def c34_12 : Cmd := .ops [⟨some 29, .move (.tmp 3), 60, none⟩,
    ⟨some 2, .assign (.tmp 29), 60, none⟩]
@[go_sem] def c34 : Cmd := (.seq c34_0 (.seq c34_1 (.seq (.seq c34_2 c34_11) (.seq c34_12 .ret))))
theorem b34 : Try.f34.body.map (comp 30) = some c34 := by kernel_rfl
theorem r34 : Try.f34.results.toList = [.tmp 2] := by kernel_rfl
-- 35 (*pith/runs.Merger).Give
@[go_sem] def c35_0 : Cmd := .ops [⟨some 8, .assign (.const (.int .i64 0)), 31, none⟩]
@[go_sem] def c35_1 : Cmd := .ops [⟨some 11, .move (.tmp 1), 3, none⟩,
    ⟨some 12, .binOp .lss 3 (.tmp 11) (.const (.int .i64 0)) 3, 4, none⟩,
    ⟨some 13, .move (.tmp 12), 4, none⟩,
    ⟨some 14, .move (.tmp 1), 3, some (13, false)⟩,
    ⟨some 15, .move (.tmp 0), 46, some (13, false)⟩,
    ⟨some 16, .nilCheck (.tmp 15), 0, some (13, false)⟩,
    ⟨some 17, .fieldAddr 86 (.tmp 16) 0, 0, some (13, false)⟩,
    ⟨some 18, .load 81 (.tmp 17), 81, some (13, false)⟩,
    ⟨some 19, .call { callee := (.builtin .len), args := #[(.tmp 18)], argTypes := #[81] }, 3, some (13, false)⟩,
    ⟨some 20, .binOp .geq 3 (.tmp 14) (.tmp 19) 3, 4, some (13, false)⟩,
    ⟨some 21, .pick (.tmp 13) (.const (.bool true)) (.tmp 20), 4, none⟩,
    ⟨some 22, .move (.tmp 21), 4, none⟩,
    ⟨some 23, .move (.tmp 0), 46, some (22, false)⟩,
    ⟨some 24, .nilCheck (.tmp 23), 0, some (22, false)⟩,
    ⟨some 25, .fieldAddr 86 (.tmp 24) 0, 0, some (22, false)⟩,
    ⟨some 26, .load 81 (.tmp 25), 81, some (22, false)⟩,
    ⟨some 27, .move (.tmp 1), 3, some (22, false)⟩,
    ⟨some 28, .indexAddr 81 (.tmp 26) (.tmp 27), 0, some (22, false)⟩,
    ⟨some 29, .fieldAddr 88 (.tmp 28) 3, 0, some (22, false)⟩,
    ⟨some 30, .load 4 (.tmp 29), 4, some (22, false)⟩,
    ⟨some 31, .pick (.tmp 22) (.const (.bool true)) (.tmp 30), 4, none⟩]
@[go_sem] def c35_2 : Cmd := .ops [⟨some 8, .assign (.const (.int .i64 112)), 31, none⟩]
@[go_sem] def c35_3 : Cmd := .cond (.tmp 31) (.seq c35_2 .ret) .skip
@[go_sem] def c35_4 : Cmd := .ops [⟨some 32, .move (.tmp 0), 46, none⟩,
    ⟨some 33, .nilCheck (.tmp 32), 0, none⟩,
    ⟨some 34, .fieldAddr 86 (.tmp 33) 0, 0, none⟩,
    ⟨some 35, .load 81 (.tmp 34), 81, none⟩,
    ⟨some 36, .move (.tmp 1), 3, none⟩,
    ⟨some 37, .indexAddr 81 (.tmp 35) (.tmp 36), 0, none⟩,
    ⟨some 9, .assign (.tmp 37), 97, none⟩]
@[go_sem] def c35_5 : Cmd := .draw (.step 3 ⟨some 38, .move (.tmp 2), 22, none⟩
    (.step 1 ⟨some 39, .call { callee := (.value (.func 48)), args := #[(.tmp 38)], argTypes := #[22] }, 4, none⟩
    (.step 3 ⟨some 40, .unOp .not 4 (.tmp 39), 4, none⟩
    (.step 3 ⟨some 41, .move (.tmp 40), 4, none⟩
    (.step 3 ⟨some 42, .move (.tmp 2), 22, some (41, false)⟩
    (.step 3 ⟨some 43, .call { callee := (.builtin .len), args := #[(.tmp 42)], argTypes := #[22] }, 3, some (41, false)⟩
    (.step 3 ⟨some 44, .binOp .gtr 3 (.tmp 43) (.const (.int .i64 0)) 3, 4, some (41, false)⟩
    (.step 3 ⟨some 45, .move (.tmp 44), 4, some (41, false)⟩
    (.step 3 ⟨some 46, .move (.tmp 9), 97, some (45, true)⟩
    (.step 3 ⟨some 47, .nilCheck (.tmp 46), 0, some (45, true)⟩
    (.step 3 ⟨some 48, .fieldAddr 88 (.tmp 47) 2, 0, some (45, true)⟩
    (.step 0 ⟨some 49, .load 4 (.tmp 48), 4, some (45, true)⟩
    (.step 3 ⟨some 50, .pick (.tmp 45) (.tmp 49) (.const (.bool false)), 4, some (41, false)⟩
    (.step 3 ⟨some 51, .move (.tmp 50), 4, some (41, false)⟩
    (.step 3 ⟨some 52, .move (.tmp 9), 97, some (51, true)⟩
    (.step 3 ⟨some 53, .nilCheck (.tmp 52), 0, some (51, true)⟩
    (.step 3 ⟨some 54, .fieldAddr 88 (.tmp 53) 1, 0, some (51, true)⟩
    (.step 0 ⟨some 55, .load 24 (.tmp 54), 24, some (51, true)⟩
    (.step 3 ⟨some 56, .move (.tmp 2), 22, some (51, true)⟩
    (.step 3 ⟨some 57, .indexAddr 22 (.tmp 56) (.const (.int .i64 0)), 0, some (51, true)⟩
    (.step 0 ⟨some 58, .load 24 (.tmp 57), 24, some (51, true)⟩
    (.step 1 ⟨some 59, .call { callee := (.value (.func 12)), args := #[(.tmp 55), (.tmp 58)], argTypes := #[24, 24] }, 4, some (51, true)⟩
    (.step 3 ⟨some 60, .unOp .not 4 (.tmp 59), 4, some (51, true)⟩
    (.step 3 ⟨some 61, .pick (.tmp 51) (.tmp 60) (.const (.bool false)), 4, some (41, false)⟩
    (.step 3 ⟨some 62, .pick (.tmp 41) (.const (.bool true)) (.tmp 61), 4, none⟩
    .done)))))))))))))))))))))))))
@[go_sem] def c35_6 : Cmd := .ops [⟨some 8, .assign (.const (.int .i64 111)), 31, none⟩]
@[go_sem] def c35_7 : Cmd := .cond (.tmp 62) (.seq c35_6 .ret) .skip
@[go_sem] def c35_8 : Cmd := .ops [⟨some 63, .move (.tmp 9), 97, none⟩,
    ⟨some 64, .move (.tmp 3), 4, none⟩,
    ⟨some 65, .nilCheck (.tmp 63), 0, none⟩,
    ⟨some 66, .fieldAddr 88 (.tmp 65) 3, 0, none⟩,
    ⟨none, .store 4 (.tmp 66) (.tmp 64), 0, none⟩]
@[go_sem] def c35_9 : Cmd := .ops [⟨some 67, .move (.tmp 2), 22, none⟩,
    ⟨some 68, .call { callee := (.builtin .len), args := #[(.tmp 67)], argTypes := #[22] }, 3, none⟩,
    ⟨some 69, .binOp .eql 3 (.tmp 68) (.const (.int .i64 0)) 3, 4, none⟩]
@[go_sem] def c35_10 : Cmd := .ops [⟨some 8, .assign (.const (.int .i64 0)), 31, none⟩]
@[go_sem] def c35_11 : Cmd := .cond (.tmp 69) (.seq c35_10 .ret) .skip
@[go_sem] def c35_12 : Cmd := .ops [⟨some 70, .move (.tmp 9), 97, none⟩,
    ⟨some 71, .nilCheck (.tmp 70), 0, none⟩,
    ⟨some 72, .fieldAddr 88 (.tmp 71) 0, 0, none⟩,
    ⟨some 73, .load 22 (.tmp 72), 22, none⟩,
    ⟨some 74, .call { callee := (.builtin .len), args := #[(.tmp 73)], argTypes := #[22] }, 3, none⟩,
    ⟨some 75, .binOp .eql 3 (.tmp 74) (.const (.int .i64 0)) 3, 4, none⟩,
    ⟨some 10, .assign (.tmp 75), 4, none⟩]
@[go_sem] def c35_13 : Cmd := .ops [⟨some 76, .move (.tmp 9), 97, none⟩,
    ⟨some 77, .move (.tmp 9), 97, none⟩,
    ⟨some 78, .nilCheck (.tmp 77), 0, none⟩,
    ⟨some 79, .fieldAddr 88 (.tmp 78) 0, 0, none⟩,
    ⟨some 80, .load 22 (.tmp 79), 22, none⟩,
    ⟨some 81, .move (.tmp 2), 22, none⟩,
    ⟨some 82, .call { callee := (.builtin .append), args := #[(.tmp 80), (.tmp 81)], argTypes := #[22, 22] }, 22, none⟩,
    ⟨some 83, .nilCheck (.tmp 76), 0, none⟩,
    ⟨some 84, .fieldAddr 88 (.tmp 83) 0, 0, none⟩,
    ⟨none, .store 22 (.tmp 84) (.tmp 82), 0, none⟩]
@[go_sem] def c35_14 : Cmd := .ops [⟨some 85, .move (.tmp 9), 97, none⟩,
    ⟨some 86, .move (.tmp 9), 97, none⟩,
    ⟨some 87, .move (.tmp 2), 22, none⟩,
    ⟨some 88, .move (.tmp 2), 22, none⟩,
    ⟨some 89, .call { callee := (.builtin .len), args := #[(.tmp 88)], argTypes := #[22] }, 3, none⟩,
    ⟨some 90, .binOp .sub 3 (.tmp 89) (.const (.int .i64 1)) 3, 3, none⟩,
    ⟨some 91, .indexAddr 22 (.tmp 87) (.tmp 90), 0, none⟩,
    ⟨some 92, .load 24 (.tmp 91), 24, none⟩,
    ⟨some 93, .nilCheck (.tmp 85), 0, none⟩,
    ⟨some 94, .fieldAddr 88 (.tmp 93) 1, 0, none⟩,
    ⟨none, .store 24 (.tmp 94) (.tmp 92), 0, none⟩,
    ⟨some 95, .nilCheck (.tmp 86), 0, none⟩,
    ⟨some 96, .fieldAddr 88 (.tmp 95) 2, 0, none⟩,
    ⟨none, .store 4 (.tmp 96) (.const (.bool true)), 0, none⟩]
@[go_sem] def c35_15 : Cmd := .ops [⟨some 97, .move (.tmp 10), 4, none⟩]
@[go_sem] def c35_16 : Cmd := .ops [⟨some 98, .move (.tmp 0), 46, none⟩,
    ⟨some 99, .nilCheck (.tmp 98), 0, none⟩,
    ⟨some 100, .fieldAddr 86 (.tmp 99) 1, 0, none⟩,
    ⟨some 101, .move (.tmp 1), 3, none⟩,
    ⟨some 102, .call { callee := (.value (.func 63)), args := #[(.tmp 100), (.tmp 101)], argTypes := #[84, 3] }, 0, none⟩]
@[go_sem] def c35_17 : Cmd := .cond (.tmp 97) c35_16 .skip
@[go_sem] def c35_18 : Cmd := .ops [⟨some 8, .assign (.const (.int .i64 0)), 31, none⟩]
@[go_sem] def c35 : Cmd := (.seq c35_0 (.seq (.seq c35_1 c35_3) (.seq c35_4 (.seq (.seq c35_5 c35_7) (.seq c35_8 (.seq (.seq c35_9 c35_11) (.seq c35_12 (.seq c35_13 (.seq c35_14 (.seq (.seq c35_15 c35_17) (.seq c35_18 .ret)))))))))))
theorem b35 : Try.f35.body.map (comp 103) = some c35 := by kernel_rfl
theorem r35 : Try.f35.results.toList = [.tmp 8] := by kernel_rfl
-- 36 pith/pithlaw11.told
@[go_sem] def c36_0 : Cmd := .ops [⟨some 6, .assign (.const (.slice none 0 0)), 22, none⟩]
@[go_sem] def c36_1 : Cmd := .ops [⟨some 10, .move (.tmp 0), 46, none⟩,
    ⟨some 11, .call { callee := (.value (.func 40)), args := #[(.tmp 10)], argTypes := #[46] }, 72, none⟩,
    ⟨some 9, .move (.tmp 11), 72, none⟩,
    ⟨some 12, .extract (.tmp 9) 0, 24, none⟩,
    ⟨some 13, .extract (.tmp 9) 1, 4, none⟩,
    ⟨some 7, .alloc 24, 0, none⟩,
    ⟨none, .store 24 (.tmp 7) (.tmp 12), 0, none⟩,
    ⟨some 8, .assign (.tmp 13), 4, none⟩]
@[go_sem] def c36_2 : Cmd := .ops [⟨some 14, .move (.tmp 8), 4, none⟩,
    ⟨some 15, .move (.tmp 14), 4, none⟩,
    ⟨some 16, .move (.tmp 1), 22, some (15, true)⟩,
    ⟨some 17, .call { callee := (.builtin .len), args := #[(.tmp 16)], argTypes := #[22] }, 3, some (15, true)⟩,
    ⟨some 18, .move (.tmp 2), 3, some (15, true)⟩,
    ⟨some 19, .binOp .leq 3 (.tmp 17) (.tmp 18) 3, 4, some (15, true)⟩,
    ⟨some 20, .pick (.tmp 15) (.tmp 19) (.const (.bool false)), 4, none⟩]
@[go_sem] def c36_3 : Cmd := .cond (.tmp 20) .skip (.exit 0)
@[go_sem] def c36_4 : Cmd := .ops [⟨some 21, .move (.tmp 1), 22, none⟩,
    ⟨some 22, .load 24 (.tmp 7), 24, none⟩,
    ⟨some 23, .buildSlice 22 1 #[(0, (.tmp 22))], 22, none⟩,
    ⟨some 24, .call { callee := (.builtin .append), args := #[(.tmp 21), (.tmp 23)], argTypes := #[22, 22] }, 22, none⟩,
    ⟨some 1, .assign (.tmp 24), 22, none⟩]
@[go_sem] def c36_5 : Cmd := .ops [⟨some 26, .move (.tmp 0), 46, none⟩,
    ⟨some 27, .call { callee := (.value (.func 40)), args := #[(.tmp 26)], argTypes := #[46] }, 72, none⟩,
    ⟨some 25, .move (.tmp 27), 72, none⟩,
    ⟨some 28, .extract (.tmp 25) 0, 24, none⟩,
    ⟨some 29, .extract (.tmp 25) 1, 4, none⟩,
    ⟨none, .store 24 (.tmp 7) (.tmp 28), 0, none⟩,
    ⟨some 8, .assign (.tmp 29), 4, none⟩]
@[go_sem] def c36_6 : Cmd := .block 1 (.seq c36_4 c36_5)
def c36_L0 : Cmd := (.seq (.seq c36_2 c36_3) c36_6)
@[go_sem] def c36_7 : Cmd := .loop c36_L0
@[go_sem] def c36_8 : Cmd := .block 0 c36_7
@[go_sem] def c36_9 : Cmd := .ops [⟨some 30, .move (.tmp 1), 22, none⟩,
    ⟨some 6, .assign (.tmp 30), 22, none⟩]
@[go_sem] def c36 : Cmd := (.seq c36_0 (.seq c36_1 (.seq c36_8 (.seq c36_9 .ret))))
theorem b36 : Try.f36.body.map (comp 31) = some c36 := by kernel_rfl
theorem r36 : Try.f36.results.toList = [.tmp 6] := by kernel_rfl
-- 37 (*pith/runs.Merger).Wants
@[go_sem] def c37_0 : Cmd := .ops [⟨some 2, .assign (.const (.int .i64 0)), 3, none⟩]
@[go_sem] def c37_1 : Cmd := .ops [⟨some 3, .move (.tmp 0), 46, none⟩,
    ⟨some 4, .nilCheck (.tmp 3), 0, none⟩,
    ⟨some 5, .fieldAddr 86 (.tmp 4) 0, 0, none⟩,
    ⟨some 6, .load 81 (.tmp 5), 81, none⟩,
    ⟨some 7, .call { callee := (.value (.func 64)), args := #[(.tmp 6), (.func 65)], argTypes := #[81, 100] }, 3, none⟩,
    ⟨some 2, .assign (.tmp 7), 3, none⟩]
@[go_sem] def c37 : Cmd := (.seq c37_0 (.seq c37_1 .ret))
theorem b37 : Try.f37.body.map (comp 8) = some c37 := by kernel_rfl
theorem r37 : Try.f37.results.toList = [.tmp 2] := by kernel_rfl
-- 38 (*pith/runs.Merger).Left
@[go_sem] def c38_0 : Cmd := .ops [⟨some 2, .assign (.const (.int .i64 0)), 3, none⟩]
@[go_sem] def c38_1 : Cmd := .ops [⟨some 3, .assign (.const (.int .i64 0)), 3, none⟩]
@[go_sem] def c38_2 : Cmd := .ops [⟨some 6, .move (.tmp 0), 46, none⟩,
    ⟨some 7, .nilCheck (.tmp 6), 0, none⟩,
    ⟨some 8, .fieldAddr 86 (.tmp 7) 0, 0, none⟩,
    ⟨some 9, .load 81 (.tmp 8), 81, none⟩,
    ⟨some 10, .call { callee := (.builtin .len), args := #[(.tmp 9)], argTypes := #[81] }, 3, none⟩,
    ⟨some 11, .move (.const (.int .i64 0)), 3, none⟩]
@[go_sem] def c38_3 : Cmd := .ops [⟨some 12, .binOp .lss 3 (.tmp 11) (.tmp 10) 3, 0, none⟩]
@[go_sem] def c38_4 : Cmd := .cond (.tmp 12) .skip (.exit 0)
@[go_sem] def c38_5 : Cmd := .ops [⟨some 13, .indexAddr 81 (.tmp 9) (.tmp 11), 0, none⟩,
    ⟨some 14, .load 88 (.tmp 13), 88, none⟩,
    ⟨some 5, .alloc 88, 0, none⟩,
    ⟨none, .store 88 (.tmp 5) (.tmp 14), 0, none⟩]
@[go_sem] def c38_6 : Cmd := .ops [⟨some 15, .move (.tmp 3), 3, none⟩,
    ⟨some 16, .fieldAddr 88 (.tmp 5) 0, 0, none⟩,
    ⟨some 17, .load 22 (.tmp 16), 22, none⟩,
    ⟨some 18, .call { callee := (.builtin .len), args := #[(.tmp 17)], argTypes := #[22] }, 3, none⟩,
    ⟨some 19, .binOp .add 3 (.tmp 15) (.tmp 18) 3, 3, none⟩,
    ⟨some 3, .assign (.tmp 19), 3, none⟩]
@[go_sem] def c38_7 : Cmd := .block 1 (.seq c38_5 c38_6)
@[go_sem] def c38_8 : Cmd := .ops [⟨some 20, .binOp .add 3 (.tmp 11) (.const (.int .i64 1)) 3, 3, none⟩,
    ⟨some 11, .move (.tmp 20), 3, none⟩]
def c38_L0 : Cmd := (.seq c38_3 (.seq c38_4 (.seq c38_7 c38_8)))
@[go_sem] def c38_9 : Cmd := .loop c38_L0
@[go_sem] def c38_10 : Cmd := .block 0 c38_9
@[go_sem] def c38_11 : Cmd := .ops [⟨some 21, .move (.tmp 3), 3, none⟩,
    ⟨some 2, .assign (.tmp 21), 3, none⟩]
@[go_sem] def c38 : Cmd := (.seq c38_0 (.seq c38_1 (.seq (.seq c38_2 c38_10) (.seq c38_11 .ret))))
theorem b38 : Try.f38.body.map (comp 22) = some c38 := by kernel_rfl
theorem r38 : Try.f38.results.toList = [.tmp 2] := by kernel_rfl
-- 39 pith/pithlaw11.arc
@[go_sem] def c39_0 : Cmd := .ops [⟨some 4, .alloc 24, 0, none⟩]
@[go_sem] def c39_1 : Cmd := .ops [⟨some 5, .move (.tmp 0), 3, none⟩,
    ⟨some 6, .move (.tmp 1), 3, none⟩,
    ⟨some 7, .build 24 #[(0, (.tmp 5)), (1, (.tmp 6))], 24, none⟩,
    ⟨none, .store 24 (.tmp 4) (.tmp 7), 0, none⟩]
@[go_sem] def c39 : Cmd := (.seq c39_0 (.seq c39_1 .ret))
theorem b39 : Try.f39.body.map (comp 8) = some c39 := by kernel_rfl
theorem r39 : Try.f39.results.toList = [.cell 4 24] := by kernel_rfl
-- 40 (*pith/runs.Merger).Next
@[go_sem] def c40_0 : Cmd := .ops [⟨some 2, .alloc 24, 0, none⟩,
    ⟨some 3, .assign (.const (.bool false)), 4, none⟩]
@[go_sem] def c40_1 : Cmd := .ops [⟨some 6, .move (.tmp 0), 46, none⟩,
    ⟨some 7, .call { callee := (.value (.func 37)), args := #[(.tmp 6)], argTypes := #[46] }, 3, none⟩,
    ⟨some 8, .binOp .geq 3 (.tmp 7) (.const (.int .i64 0)) 3, 4, none⟩,
    ⟨some 9, .move (.tmp 8), 4, none⟩,
    ⟨some 10, .move (.tmp 0), 46, some (9, false)⟩,
    ⟨some 11, .nilCheck (.tmp 10), 0, some (9, false)⟩,
    ⟨some 12, .fieldAddr 86 (.tmp 11) 1, 0, some (9, false)⟩,
    ⟨some 13, .fieldAddr 84 (.tmp 12) 0, 0, some (9, false)⟩,
    ⟨some 14, .load 63 (.tmp 13), 63, some (9, false)⟩,
    ⟨some 15, .call { callee := (.builtin .len), args := #[(.tmp 14)], argTypes := #[63] }, 3, some (9, false)⟩,
    ⟨some 16, .binOp .eql 3 (.tmp 15) (.const (.int .i64 0)) 3, 4, some (9, false)⟩,
    ⟨some 17, .pick (.tmp 9) (.const (.bool true)) (.tmp 16), 4, none⟩]
@[go_sem] def c40_2 : Cmd := .ops [⟨some 18, .build 24 #[], 24, none⟩,
    ⟨none, .store 24 (.tmp 2) (.tmp 18), 0, none⟩,
    ⟨some 3, .assign (.const (.bool false)), 4, none⟩]
@[go_sem] def c40_3 : Cmd := .cond (.tmp 17) (.seq c40_2 .ret) .skip
@[go_sem] def c40_4 : Cmd := .draw (.step 3 ⟨some 19, .move (.tmp 0), 46, none⟩
    (.step 3 ⟨some 20, .nilCheck (.tmp 19), 0, none⟩
    (.step 3 ⟨some 21, .fieldAddr 86 (.tmp 20) 0, 0, none⟩
    (.step 0 ⟨some 22, .load 81 (.tmp 21), 81, none⟩
    (.step 3 ⟨some 23, .move (.tmp 0), 46, none⟩
    (.step 3 ⟨some 24, .nilCheck (.tmp 23), 0, none⟩
    (.step 3 ⟨some 25, .fieldAddr 86 (.tmp 24) 1, 0, none⟩
    (.step 3 ⟨some 26, .fieldAddr 84 (.tmp 25) 0, 0, none⟩
    (.step 0 ⟨some 27, .load 63 (.tmp 26), 63, none⟩
    (.step 3 ⟨some 28, .indexAddr 63 (.tmp 27) (.const (.int .i64 0)), 0, none⟩
    (.step 0 ⟨some 29, .load 3 (.tmp 28), 3, none⟩
    (.step 3 ⟨some 30, .indexAddr 81 (.tmp 22) (.tmp 29), 0, none⟩
    (.step 3 ⟨some 31, .fieldAddr 88 (.tmp 30) 0, 0, none⟩
    (.step 0 ⟨some 32, .load 22 (.tmp 31), 22, none⟩
    (.step 3 ⟨some 33, .indexAddr 22 (.tmp 32) (.const (.int .i64 0)), 0, none⟩
    (.step 0 ⟨some 34, .load 24 (.tmp 33), 24, none⟩
    (.step 1 ⟨some 4, .alloc 24, 0, none⟩
    (.step 2 ⟨none, .store 24 (.tmp 4) (.tmp 34), 0, none⟩
    .done))))))))))))))))))
@[go_sem] def c40_5 : Cmd := .still 25 [⟨some 35, .move (.tmp 0), 46, none⟩,
    ⟨some 36, .nilCheck (.tmp 35), 0, none⟩,
    ⟨some 37, .fieldAddr 86 (.tmp 36) 1, 0, none⟩,
    ⟨some 38, .fieldAddr 84 (.tmp 37) 0, 0, none⟩,
    ⟨some 39, .load 63 (.tmp 38), 63, none⟩,
    ⟨some 40, .call { callee := (.builtin .len), args := #[(.tmp 39)], argTypes := #[63] }, 3, none⟩,
    ⟨some 41, .binOp .gtr 3 (.tmp 40) (.const (.int .i64 0)) 3, 4, none⟩,
    ⟨some 42, .move (.tmp 41), 4, none⟩,
    ⟨some 43, .move (.tmp 0), 46, some (42, true)⟩,
    ⟨some 44, .nilCheck (.tmp 43), 0, some (42, true)⟩,
    ⟨some 45, .fieldAddr 86 (.tmp 44) 0, 0, some (42, true)⟩,
    ⟨some 46, .load 81 (.tmp 45), 81, some (42, true)⟩,
    ⟨some 47, .move (.tmp 0), 46, some (42, true)⟩,
    ⟨some 48, .nilCheck (.tmp 47), 0, some (42, true)⟩,
    ⟨some 49, .fieldAddr 86 (.tmp 48) 1, 0, some (42, true)⟩,
    ⟨some 50, .fieldAddr 84 (.tmp 49) 0, 0, some (42, true)⟩,
    ⟨some 51, .load 63 (.tmp 50), 63, some (42, true)⟩,
    ⟨some 52, .indexAddr 63 (.tmp 51) (.const (.int .i64 0)), 0, some (42, true)⟩,
    ⟨some 53, .load 3 (.tmp 52), 3, some (42, true)⟩,
    ⟨some 54, .indexAddr 81 (.tmp 46) (.tmp 53), 0, some (42, true)⟩,
    ⟨some 55, .fieldAddr 88 (.tmp 54) 0, 0, some (42, true)⟩,
    ⟨some 56, .load 22 (.tmp 55), 22, some (42, true)⟩,
    ⟨some 57, .indexAddr 22 (.tmp 56) (.const (.int .i64 0)), 0, some (42, true)⟩,
    ⟨some 58, .load 24 (.tmp 57), 24, some (42, true)⟩,
    ⟨some 59, .load 24 (.tmp 4), 24, some (42, true)⟩,
    ⟨some 60, .binOp .eql 24 (.tmp 58) (.tmp 59) 24, 4, some (42, true)⟩,
    ⟨some 61, .pick (.tmp 42) (.tmp 60) (.const (.bool false)), 4, none⟩]
@[go_sem] def c40_6 : Cmd := .cond (.tmp 61) .skip (.exit 0)
@[go_sem] def c40_7 : Cmd := .ops [⟨some 62, .move (.tmp 0), 46, none⟩,
    ⟨some 63, .nilCheck (.tmp 62), 0, none⟩,
    ⟨some 64, .fieldAddr 86 (.tmp 63) 1, 0, none⟩,
    ⟨some 65, .call { callee := (.value (.func 66)), args := #[(.tmp 64)], argTypes := #[84] }, 3, none⟩,
    ⟨some 5, .assign (.tmp 65), 3, none⟩]
@[go_sem] def c40_8 : Cmd := .still 14 [⟨some 66, .move (.tmp 0), 46, none⟩,
    ⟨some 67, .nilCheck (.tmp 66), 0, none⟩,
    ⟨some 68, .fieldAddr 86 (.tmp 67) 0, 0, none⟩,
    ⟨some 69, .load 81 (.tmp 68), 81, none⟩,
    ⟨some 70, .move (.tmp 5), 3, none⟩,
    ⟨some 71, .move (.tmp 0), 46, none⟩,
    ⟨some 72, .nilCheck (.tmp 71), 0, none⟩,
    ⟨some 73, .fieldAddr 86 (.tmp 72) 0, 0, none⟩,
    ⟨some 74, .load 81 (.tmp 73), 81, none⟩,
    ⟨some 75, .move (.tmp 5), 3, none⟩,
    ⟨some 76, .indexAddr 81 (.tmp 74) (.tmp 75), 0, none⟩,
    ⟨some 77, .fieldAddr 88 (.tmp 76) 0, 0, none⟩,
    ⟨some 78, .load 22 (.tmp 77), 22, none⟩,
    ⟨some 79, .slice 22 (.tmp 78) (some (.const (.int .i64 1))) none none, 22, none⟩,
    ⟨some 80, .indexAddr 81 (.tmp 69) (.tmp 70), 0, none⟩,
    ⟨some 81, .fieldAddr 88 (.tmp 80) 0, 0, none⟩,
    ⟨none, .store 22 (.tmp 81) (.tmp 79), 0, none⟩]
@[go_sem] def c40_9 : Cmd := .ops [⟨some 82, .move (.tmp 0), 46, none⟩,
    ⟨some 83, .nilCheck (.tmp 82), 0, none⟩,
    ⟨some 84, .fieldAddr 86 (.tmp 83) 0, 0, none⟩,
    ⟨some 85, .load 81 (.tmp 84), 81, none⟩,
    ⟨some 86, .move (.tmp 5), 3, none⟩,
    ⟨some 87, .indexAddr 81 (.tmp 85) (.tmp 86), 0, none⟩,
    ⟨some 88, .fieldAddr 88 (.tmp 87) 0, 0, none⟩,
    ⟨some 89, .load 22 (.tmp 88), 22, none⟩,
    ⟨some 90, .call { callee := (.builtin .len), args := #[(.tmp 89)], argTypes := #[22] }, 3, none⟩,
    ⟨some 91, .binOp .gtr 3 (.tmp 90) (.const (.int .i64 0)) 3, 4, none⟩]
@[go_sem] def c40_10 : Cmd := .ops [⟨some 92, .move (.tmp 0), 46, none⟩,
    ⟨some 93, .nilCheck (.tmp 92), 0, none⟩,
    ⟨some 94, .fieldAddr 86 (.tmp 93) 1, 0, none⟩,
    ⟨some 95, .move (.tmp 5), 3, none⟩,
    ⟨some 96, .call { callee := (.value (.func 63)), args := #[(.tmp 94), (.tmp 95)], argTypes := #[84, 3] }, 0, none⟩]
@[go_sem] def c40_11 : Cmd := .cond (.tmp 91) c40_10 .skip
@[go_sem] def c40_12 : Cmd := .block 1 (.seq c40_7 (.seq c40_8 (.seq c40_9 c40_11)))
def c40_L0 : Cmd := (.seq (.seq c40_5 c40_6) c40_12)
@[go_sem] def c40_13 : Cmd := .loop c40_L0
@[go_sem] def c40_14 : Cmd := .block 0 c40_13
@[go_sem] def c40_15 : Cmd := .ops [⟨some 97, .load 24 (.tmp 4), 24, none⟩,
    ⟨none, .store 24 (.tmp 2) (.tmp 97), 0, none⟩,
    ⟨some 3, .assign (.const (.bool true)), 4, none⟩]
@[go_sem] def c40 : Cmd := (.seq c40_0 (.seq (.seq c40_1 c40_3) (.seq c40_4 (.seq c40_14 (.seq c40_15 .ret)))))
theorem b40 : Try.f40.body.map (comp 98) = some c40 := by kernel_rfl
theorem r40 : Try.f40.results.toList = [.cell 2 24, .tmp 3] := by kernel_rfl
-- 41 pith/runs.order
@[go_sem] def c41_0 : Cmd := .ops [⟨some 2, .box 24 (.tmp 0), 0, none⟩,
    ⟨some 3, .box 24 (.tmp 1), 0, none⟩,
    ⟨some 4, .assign (.const (.int .i64 0)), 3, none⟩]
@[go_sem] def c41_1 : Cmd := .draw (.step 3 ⟨some 5, .fieldAddr 24 (.tmp 2) 0, 0, none⟩
    (.step 0 ⟨some 6, .load 3 (.tmp 5), 3, none⟩
    (.step 3 ⟨some 7, .fieldAddr 24 (.tmp 3) 0, 0, none⟩
    (.step 0 ⟨some 8, .load 3 (.tmp 7), 3, none⟩
    (.step 3 ⟨some 10, .fieldAddr 24 (.tmp 2) 1, 0, none⟩
    (.step 0 ⟨some 11, .load 3 (.tmp 10), 3, none⟩
    (.step 3 ⟨some 12, .fieldAddr 24 (.tmp 3) 1, 0, none⟩
    (.step 0 ⟨some 13, .load 3 (.tmp 12), 3, none⟩
    (.step 1 ⟨some 9, .call { callee := (.value (.func 68)), args := #[(.tmp 6), (.tmp 8)], argTypes := #[3, 3] }, 3, none⟩
    (.step 1 ⟨some 14, .call { callee := (.value (.func 68)), args := #[(.tmp 11), (.tmp 13)], argTypes := #[3, 3] }, 3, none⟩
    (.step 1 ⟨some 15, .buildSlice 63 2 #[(0, (.tmp 9)), (1, (.tmp 14))], 63, none⟩
    (.step 1 ⟨some 16, .call { callee := (.value (.func 67)), args := #[(.tmp 15)], argTypes := #[63] }, 3, none⟩
    (.step 3 ⟨some 4, .assign (.tmp 16), 3, none⟩
    .done)))))))))))))
@[go_sem] def c41 : Cmd := (.seq c41_0 (.seq c41_1 .ret))
theorem b41 : Try.f41.body.map (comp 17) = some c41 := by kernel_rfl
theorem r41 : Try.f41.results.toList = [.tmp 4] := by kernel_rfl
-- 42 slices.Clone[[]pith/api.Pair,pith/api.Pair]
@[go_sem] def c42_0 : Cmd := .ops [⟨some 2, .assign (.const (.slice none 0 0)), 22, none⟩]
@[go_sem] def c42_1 : Cmd := .ops [⟨some 3, .move (.tmp 0), 22, none⟩,
    ⟨some 4, .binOp .eql 22 (.tmp 3) (.const (.slice none 0 0)) 22, 4, none⟩]
@[go_sem] def c42_2 : Cmd := .ops [⟨some 2, .assign (.const (.slice none 0 0)), 22, none⟩]
@[go_sem] def c42_3 : Cmd := .cond (.tmp 4) (.seq c42_2 .ret) .skip
@[go_sem] def c42_4 : Cmd := .ops [⟨some 5, .buildSlice 22 0 #[], 22, none⟩,
    ⟨some 6, .move (.tmp 0), 22, none⟩,
    ⟨some 7, .call { callee := (.builtin .append), args := #[(.tmp 5), (.tmp 6)], argTypes := #[22, 22] }, 22, none⟩,
    ⟨some 2, .assign (.tmp 7), 22, none⟩]
@[go_sem] def c42 : Cmd := (.seq c42_0 (.seq (.seq c42_1 c42_3) (.seq c42_4 .ret)))
theorem b42 : Try.f42.body.map (comp 8) = some c42 := by kernel_rfl
theorem r42 : Try.f42.results.toList = [.tmp 2] := by kernel_rfl
-- 43 slices.SortFunc[[]pith/api.Pair,pith/api.Pair]
@[go_sem] def c43_0 : Cmd := .ops [⟨some 5, .move (.tmp 0), 22, none⟩,
    ⟨some 6, .call { callee := (.builtin .len), args := #[(.tmp 5)], argTypes := #[22] }, 3, none⟩,
    ⟨some 4, .assign (.tmp 6), 3, none⟩]
@[go_sem] def c43_1 : Cmd := .ops [⟨some 7, .move (.tmp 0), 22, none⟩,
    ⟨some 8, .move (.tmp 4), 3, none⟩,
    ⟨some 9, .move (.tmp 4), 3, none⟩,
    ⟨some 10, .convert 3 105 (.tmp 9), 105, none⟩,
    ⟨some 11, .call { callee := (.value (.func 70)), args := #[(.tmp 10)], argTypes := #[105] }, 3, none⟩,
    ⟨some 12, .move (.tmp 1), 74, none⟩,
    ⟨some 13, .call { callee := (.value (.func 69)), args := #[(.tmp 7), (.const (.int .i64 0)), (.tmp 8), (.tmp 11), (.tmp 12)], argTypes := #[22, 3, 3, 3, 74] }, 0, none⟩]
@[go_sem] def c43 : Cmd := (.seq c43_0 c43_1)
theorem b43 : Try.f43.body.map (comp 14) = some c43 := by kernel_rfl
theorem r43 : Try.f43.results.toList = [] := by kernel_rfl
-- 44 slices.Clip[[]pith/api.Pair,pith/api.Pair]
@[go_sem] def c44_0 : Cmd := .ops [⟨some 2, .assign (.const (.slice none 0 0)), 22, none⟩]
@[go_sem] def c44_1 : Cmd := .ops [⟨some 3, .move (.tmp 0), 22, none⟩,
    ⟨some 4, .move (.tmp 0), 22, none⟩,
    ⟨some 5, .call { callee := (.builtin .len), args := #[(.tmp 4)], argTypes := #[22] }, 3, none⟩,
    ⟨some 6, .move (.tmp 0), 22, none⟩,
    ⟨some 7, .call { callee := (.builtin .len), args := #[(.tmp 6)], argTypes := #[22] }, 3, none⟩,
    ⟨some 8, .slice 22 (.tmp 3) none (some (.tmp 5)) (some (.tmp 7)), 22, none⟩,
    ⟨some 2, .assign (.tmp 8), 22, none⟩]
@[go_sem] def c44 : Cmd := (.seq c44_0 (.seq c44_1 .ret))
theorem b44 : Try.f44.body.map (comp 9) = some c44 := by kernel_rfl
theorem r44 : Try.f44.results.toList = [.tmp 2] := by kernel_rfl
-- 45 slices.Compact[[]pith/api.Pair,pith/api.Pair]
@[go_sem] def c45_0 : Cmd := .ops [⟨some 2, .assign (.const (.slice none 0 0)), 22, none⟩]
@[go_sem] def c45_1 : Cmd := .ops [⟨some 6, .move (.tmp 0), 22, none⟩,
    ⟨some 7, .call { callee := (.builtin .len), args := #[(.tmp 6)], argTypes := #[22] }, 3, none⟩,
    ⟨some 8, .binOp .lss 3 (.tmp 7) (.const (.int .i64 2)) 3, 4, none⟩]
@[go_sem] def c45_2 : Cmd := .ops [⟨some 9, .move (.tmp 0), 22, none⟩,
    ⟨some 2, .assign (.tmp 9), 22, none⟩]
@[go_sem] def c45_3 : Cmd := .cond (.tmp 8) (.seq c45_2 .ret) .skip
@[go_sem] def c45_4 : Cmd := .ops [⟨some 3, .assign (.const (.int .i64 1)), 3, none⟩]
@[go_sem] def c45_5 : Cmd := .ops [⟨some 10, .move (.tmp 3), 3, none⟩,
    ⟨some 11, .move (.tmp 0), 22, none⟩,
    ⟨some 12, .call { callee := (.builtin .len), args := #[(.tmp 11)], argTypes := #[22] }, 3, none⟩,
    ⟨some 13, .binOp .lss 3 (.tmp 10) (.tmp 12) 3, 4, none⟩]
@[go_sem] def c45_6 : Cmd := .cond (.tmp 13) .skip (.exit 0)
@[go_sem] def c45_7 : Cmd := .still 9 [⟨some 16, .move (.tmp 0), 22, none⟩,
    ⟨some 17, .move (.tmp 3), 3, none⟩,
    ⟨some 18, .indexAddr 22 (.tmp 16) (.tmp 17), 0, none⟩,
    ⟨some 19, .load 24 (.tmp 18), 24, none⟩,
    ⟨some 20, .move (.tmp 0), 22, none⟩,
    ⟨some 21, .move (.tmp 3), 3, none⟩,
    ⟨some 22, .binOp .sub 3 (.tmp 21) (.const (.int .i64 1)) 3, 3, none⟩,
    ⟨some 23, .indexAddr 22 (.tmp 20) (.tmp 22), 0, none⟩,
    ⟨some 24, .load 24 (.tmp 23), 24, none⟩,
    ⟨some 25, .binOp .eql 24 (.tmp 19) (.tmp 24) 24, 4, none⟩]
@[go_sem] def c45_8 : Cmd := .ops [⟨some 26, .move (.tmp 0), 22, none⟩,
    ⟨some 27, .move (.tmp 3), 3, none⟩,
    ⟨some 28, .slice 22 (.tmp 26) (some (.tmp 27)) none none, 22, none⟩,
    ⟨some 4, .assign (.tmp 28), 22, none⟩]
@[go_sem] def c45_9 : Cmd := .ops [⟨some 5, .assign (.const (.int .i64 1)), 3, none⟩]
@[go_sem] def c45_10 : Cmd := .ops [⟨some 29, .move (.tmp 5), 3, none⟩,
    ⟨some 30, .move (.tmp 4), 22, none⟩,
    ⟨some 31, .call { callee := (.builtin .len), args := #[(.tmp 30)], argTypes := #[22] }, 3, none⟩,
    ⟨some 32, .binOp .lss 3 (.tmp 29) (.tmp 31) 3, 4, none⟩]
@[go_sem] def c45_11 : Cmd := .cond (.tmp 32) .skip (.exit 2)
@[go_sem] def c45_12 : Cmd := .still 9 [⟨some 35, .move (.tmp 4), 22, none⟩,
    ⟨some 36, .move (.tmp 5), 3, none⟩,
    ⟨some 37, .indexAddr 22 (.tmp 35) (.tmp 36), 0, none⟩,
    ⟨some 38, .load 24 (.tmp 37), 24, none⟩,
    ⟨some 39, .move (.tmp 4), 22, none⟩,
    ⟨some 40, .move (.tmp 5), 3, none⟩,
    ⟨some 41, .binOp .sub 3 (.tmp 40) (.const (.int .i64 1)) 3, 3, none⟩,
    ⟨some 42, .indexAddr 22 (.tmp 39) (.tmp 41), 0, none⟩,
    ⟨some 43, .load 24 (.tmp 42), 24, none⟩,
    ⟨some 44, .binOp .neq 24 (.tmp 38) (.tmp 43) 24, 4, none⟩]
@[go_sem] def c45_13 : Cmd := .ops [⟨some 45, .move (.tmp 0), 22, none⟩,
    ⟨some 46, .move (.tmp 3), 3, none⟩,
    ⟨some 47, .move (.tmp 4), 22, none⟩,
    ⟨some 48, .move (.tmp 5), 3, none⟩,
    ⟨some 49, .indexAddr 22 (.tmp 47) (.tmp 48), 0, none⟩,
    ⟨some 50, .load 24 (.tmp 49), 24, none⟩,
    ⟨some 51, .indexAddr 22 (.tmp 45) (.tmp 46), 0, none⟩,
    ⟨none, .store 24 (.tmp 51) (.tmp 50), 0, none⟩]
@[go_sem] def c45_14 : Cmd := .ops [⟨some 52, .move (.tmp 3), 3, none⟩,
    ⟨some 53, .binOp .add 3 (.tmp 52) (.const (.int .i64 1)) 3, 3, none⟩,
    ⟨some 3, .assign (.tmp 53), 3, none⟩]
@[go_sem] def c45_15 : Cmd := .cond (.tmp 44) (.seq c45_13 c45_14) .skip
@[go_sem] def c45_16 : Cmd := .block 3 (.seq c45_12 c45_15)
@[go_sem] def c45_17 : Cmd := .ops [⟨some 33, .move (.tmp 5), 3, none⟩,
    ⟨some 34, .binOp .add 3 (.tmp 33) (.const (.int .i64 1)) 3, 3, none⟩,
    ⟨some 5, .assign (.tmp 34), 3, none⟩]
def c45_L0 : Cmd := (.seq (.seq c45_10 c45_11) (.seq c45_16 c45_17))
@[go_sem] def c45_18 : Cmd := .loop c45_L0
@[go_sem] def c45_19 : Cmd := .block 2 c45_18
@[go_sem] def c45_20 : Cmd := .ops [⟨some 54, .move (.tmp 0), 22, none⟩,
    ⟨some 55, .move (.tmp 3), 3, none⟩,
    ⟨some 56, .slice 22 (.tmp 54) (some (.tmp 55)) none none, 22, none⟩,
    ⟨none, .call { callee := (.builtin .clear), args := #[(.tmp 56)], argTypes := #[22] }, 0, none⟩]
@[go_sem] def c45_21 : Cmd := .ops [⟨some 57, .move (.tmp 0), 22, none⟩,
    ⟨some 58, .move (.tmp 3), 3, none⟩,
    ⟨some 59, .slice 22 (.tmp 57) none (some (.tmp 58)) none, 22, none⟩,
    ⟨some 2, .assign (.tmp 59), 22, none⟩]
@[go_sem] def c45_22 : Cmd := .cond (.tmp 25) (.seq c45_8 (.seq (.seq c45_9 c45_19) (.seq c45_20 (.seq c45_21 .ret)))) .skip
@[go_sem] def c45_23 : Cmd := .block 1 (.seq c45_7 c45_22)
@[go_sem] def c45_24 : Cmd := .ops [⟨some 14, .move (.tmp 3), 3, none⟩,
    ⟨some 15, .binOp .add 3 (.tmp 14) (.const (.int .i64 1)) 3, 3, none⟩,
    ⟨some 3, .assign (.tmp 15), 3, none⟩]
def c45_L1 : Cmd := (.seq (.seq c45_5 c45_6) (.seq c45_23 c45_24))
@[go_sem] def c45_25 : Cmd := .loop c45_L1
@[go_sem] def c45_26 : Cmd := .block 0 c45_25
@[go_sem] def c45_27 : Cmd := .ops [⟨some 60, .move (.tmp 0), 22, none⟩,
    ⟨some 2, .assign (.tmp 60), 22, none⟩]
@[go_sem] def c45 : Cmd := (.seq c45_0 (.seq (.seq c45_1 c45_3) (.seq (.seq c45_4 c45_26) (.seq c45_27 .ret))))
theorem b45 : Try.f45.body.map (comp 61) = some c45 := by kernel_rfl
theorem r45 : Try.f45.results.toList = [.tmp 2] := by kernel_rfl
-- 46 pith/pithref11.both
@[go_sem] def c46_0 : Cmd := .ops [⟨some 4, .assign (.const (.slice none 0 0)), 22, none⟩]
@[go_sem] def c46_1 : Cmd := .ops [⟨some 8, .move (.tmp 0), 22, none⟩,
    ⟨some 9, .call { callee := (.builtin .len), args := #[(.tmp 8)], argTypes := #[22] }, 3, none⟩,
    ⟨some 10, .move (.tmp 1), 22, none⟩,
    ⟨some 11, .call { callee := (.builtin .len), args := #[(.tmp 10)], argTypes := #[22] }, 3, none⟩,
    ⟨some 12, .binOp .add 3 (.tmp 9) (.tmp 11) 3, 3, none⟩,
    ⟨some 13, .makeSlice 22 (.const (.int .i64 0)) (.tmp 12), 22, none⟩,
    ⟨some 5, .assign (.tmp 13), 22, none⟩]
@[go_sem] def c46_2 : Cmd := .ops [⟨some 6, .assign (.const (.int .i64 0)), 3, none⟩]
@[go_sem] def c46_3 : Cmd := .ops [⟨some 7, .assign (.const (.int .i64 0)), 3, none⟩]
@[go_sem] def c46_4 : Cmd := .ops [⟨some 14, .move (.tmp 6), 3, none⟩,
    ⟨some 15, .move (.tmp 0), 22, none⟩,
    ⟨some 16, .call { callee := (.builtin .len), args := #[(.tmp 15)], argTypes := #[22] }, 3, none⟩,
    ⟨some 17, .binOp .lss 3 (.tmp 14) (.tmp 16) 3, 4, none⟩,
    ⟨some 18, .move (.tmp 17), 4, none⟩,
    ⟨some 19, .move (.tmp 7), 3, some (18, false)⟩,
    ⟨some 20, .move (.tmp 1), 22, some (18, false)⟩,
    ⟨some 21, .call { callee := (.builtin .len), args := #[(.tmp 20)], argTypes := #[22] }, 3, some (18, false)⟩,
    ⟨some 22, .binOp .lss 3 (.tmp 19) (.tmp 21) 3, 4, some (18, false)⟩,
    ⟨some 23, .pick (.tmp 18) (.const (.bool true)) (.tmp 22), 4, none⟩]
@[go_sem] def c46_5 : Cmd := .cond (.tmp 23) .skip (.exit 0)
@[go_sem] def c46_6 : Cmd := .still 18 [⟨some 24, .move (.tmp 7), 3, none⟩,
    ⟨some 25, .move (.tmp 1), 22, none⟩,
    ⟨some 26, .call { callee := (.builtin .len), args := #[(.tmp 25)], argTypes := #[22] }, 3, none⟩,
    ⟨some 27, .binOp .eql 3 (.tmp 24) (.tmp 26) 3, 4, none⟩,
    ⟨some 28, .move (.tmp 27), 4, none⟩,
    ⟨some 29, .move (.tmp 6), 3, some (28, false)⟩,
    ⟨some 30, .move (.tmp 0), 22, some (28, false)⟩,
    ⟨some 31, .call { callee := (.builtin .len), args := #[(.tmp 30)], argTypes := #[22] }, 3, some (28, false)⟩,
    ⟨some 32, .binOp .lss 3 (.tmp 29) (.tmp 31) 3, 4, some (28, false)⟩,
    ⟨some 33, .move (.tmp 32), 4, some (28, false)⟩,
    ⟨some 34, .move (.tmp 0), 22, some (33, true)⟩,
    ⟨some 35, .move (.tmp 6), 3, some (33, true)⟩,
    ⟨some 36, .indexAddr 22 (.tmp 34) (.tmp 35), 0, some (33, true)⟩,
    ⟨some 37, .load 24 (.tmp 36), 24, some (33, true)⟩,
    ⟨some 38, .move (.tmp 1), 22, some (33, true)⟩,
    ⟨some 39, .move (.tmp 7), 3, some (33, true)⟩,
    ⟨some 40, .indexAddr 22 (.tmp 38) (.tmp 39), 0, some (33, true)⟩,
    ⟨some 41, .load 24 (.tmp 40), 24, some (33, true)⟩,
    ⟨some 42, .call { callee := (.value (.func 13)), args := #[(.tmp 37), (.tmp 41)], argTypes := #[24, 24] }, 4, some (33, true)⟩,
    ⟨some 43, .pick (.tmp 33) (.tmp 42) (.const (.bool false)), 4, some (28, false)⟩,
    ⟨some 44, .pick (.tmp 28) (.const (.bool true)) (.tmp 43), 4, none⟩]
@[go_sem] def c46_7 : Cmd := .ops [⟨some 45, .move (.tmp 5), 22, none⟩,
    ⟨some 46, .move (.tmp 0), 22, none⟩,
    ⟨some 47, .move (.tmp 6), 3, none⟩,
    ⟨some 48, .indexAddr 22 (.tmp 46) (.tmp 47), 0, none⟩,
    ⟨some 49, .load 24 (.tmp 48), 24, none⟩,
    ⟨some 50, .buildSlice 22 1 #[(0, (.tmp 49))], 22, none⟩,
    ⟨some 51, .call { callee := (.builtin .append), args := #[(.tmp 45), (.tmp 50)], argTypes := #[22, 22] }, 22, none⟩,
    ⟨some 5, .assign (.tmp 51), 22, none⟩]
@[go_sem] def c46_8 : Cmd := .ops [⟨some 52, .move (.tmp 6), 3, none⟩,
    ⟨some 53, .binOp .add 3 (.tmp 52) (.const (.int .i64 1)) 3, 3, none⟩,
    ⟨some 6, .assign (.tmp 53), 3, none⟩]
@[go_sem] def c46_9 : Cmd := .cond (.tmp 44) (.seq c46_7 (.seq c46_8 (.exit 1))) .skip
@[go_sem] def c46_10 : Cmd := .still 13 [⟨some 54, .move (.tmp 6), 3, none⟩,
    ⟨some 55, .move (.tmp 0), 22, none⟩,
    ⟨some 56, .call { callee := (.builtin .len), args := #[(.tmp 55)], argTypes := #[22] }, 3, none⟩,
    ⟨some 57, .binOp .lss 3 (.tmp 54) (.tmp 56) 3, 4, none⟩,
    ⟨some 58, .move (.tmp 57), 4, none⟩,
    ⟨some 59, .move (.tmp 0), 22, some (58, true)⟩,
    ⟨some 60, .move (.tmp 6), 3, some (58, true)⟩,
    ⟨some 61, .indexAddr 22 (.tmp 59) (.tmp 60), 0, some (58, true)⟩,
    ⟨some 62, .load 24 (.tmp 61), 24, some (58, true)⟩,
    ⟨some 63, .move (.tmp 1), 22, some (58, true)⟩,
    ⟨some 64, .move (.tmp 7), 3, some (58, true)⟩,
    ⟨some 65, .indexAddr 22 (.tmp 63) (.tmp 64), 0, some (58, true)⟩,
    ⟨some 66, .load 24 (.tmp 65), 24, some (58, true)⟩,
    ⟨some 67, .call { callee := (.value (.func 71)), args := #[(.tmp 62), (.tmp 66)], argTypes := #[24, 24] }, 4, some (58, true)⟩,
    ⟨some 68, .pick (.tmp 58) (.tmp 67) (.const (.bool false)), 4, none⟩]
@[go_sem] def c46_11 : Cmd := .ops [⟨some 69, .move (.tmp 6), 3, none⟩,
    ⟨some 70, .binOp .add 3 (.tmp 69) (.const (.int .i64 1)) 3, 3, none⟩,
    ⟨some 6, .assign (.tmp 70), 3, none⟩]
@[go_sem] def c46_12 : Cmd := .cond (.tmp 68) c46_11 .skip
@[go_sem] def c46_13 : Cmd := .ops [⟨some 71, .move (.tmp 5), 22, none⟩,
    ⟨some 72, .move (.tmp 1), 22, none⟩,
    ⟨some 73, .move (.tmp 7), 3, none⟩,
    ⟨some 74, .indexAddr 22 (.tmp 72) (.tmp 73), 0, none⟩,
    ⟨some 75, .load 24 (.tmp 74), 24, none⟩,
    ⟨some 76, .buildSlice 22 1 #[(0, (.tmp 75))], 22, none⟩,
    ⟨some 77, .call { callee := (.builtin .append), args := #[(.tmp 71), (.tmp 76)], argTypes := #[22, 22] }, 22, none⟩,
    ⟨some 5, .assign (.tmp 77), 22, none⟩]
@[go_sem] def c46_14 : Cmd := .ops [⟨some 78, .move (.tmp 7), 3, none⟩,
    ⟨some 79, .binOp .add 3 (.tmp 78) (.const (.int .i64 1)) 3, 3, none⟩,
    ⟨some 7, .assign (.tmp 79), 3, none⟩]
@[go_sem] def c46_15 : Cmd := .block 1 (.seq (.seq c46_6 c46_9) (.seq (.seq c46_10 c46_12) (.seq c46_13 c46_14)))
def c46_L0 : Cmd := (.seq (.seq c46_4 c46_5) c46_15)
@[go_sem] def c46_16 : Cmd := .loop c46_L0
@[go_sem] def c46_17 : Cmd := .block 0 c46_16
@[go_sem] def c46_18 : Cmd := .ops [⟨some 80, .move (.tmp 5), 22, none⟩,
    ⟨some 4, .assign (.tmp 80), 22, none⟩]
@[go_sem] def c46 : Cmd := (.seq c46_0 (.seq c46_1 (.seq c46_2 (.seq c46_3 (.seq c46_17 (.seq c46_18 .ret))))))
theorem b46 : Try.f46.body.map (comp 81) = some c46 := by kernel_rfl
theorem r46 : Try.f46.results.toList = [.tmp 4] := by kernel_rfl
-- 47 pith/runs.isVertex
@[go_sem] def c47_0 : Cmd := .ops [⟨some 2, .assign (.const (.bool false)), 4, none⟩]
@[go_sem] def c47_1 : Cmd := .ops [⟨some 3, .move (.tmp 0), 3, none⟩,
    ⟨some 4, .binOp .geq 3 (.tmp 3) (.const (.int .i64 0)) 3, 4, none⟩,
    ⟨some 5, .move (.tmp 4), 4, none⟩,
    ⟨some 6, .move (.tmp 0), 3, some (5, true)⟩,
    ⟨some 7, .binOp .lss 3 (.tmp 6) (.const (.int .i64 16777216)) 3, 4, some (5, true)⟩,
    ⟨some 8, .pick (.tmp 5) (.tmp 7) (.const (.bool false)), 4, none⟩,
    ⟨some 2, .assign (.tmp 8), 4, none⟩]
@[go_sem] def c47 : Cmd := (.seq c47_0 (.seq c47_1 .ret))
theorem b47 : Try.f47.body.map (comp 9) = some c47 := by kernel_rfl
theorem r47 : Try.f47.results.toList = [.tmp 2] := by kernel_rfl
-- 48 pith/runs.rise
@[go_sem] def c48_0 : Cmd := .ops [⟨some 2, .assign (.const (.bool false)), 4, none⟩]
@[go_sem] def c48_1 : Cmd := .ops [⟨some 3, .assign (.const (.int .i64 1)), 3, none⟩]
@[go_sem] def c48_2 : Cmd := .ops [⟨some 4, .move (.tmp 3), 3, none⟩,
    ⟨some 5, .move (.tmp 0), 22, none⟩,
    ⟨some 6, .call { callee := (.builtin .len), args := #[(.tmp 5)], argTypes := #[22] }, 3, none⟩,
    ⟨some 7, .binOp .lss 3 (.tmp 4) (.tmp 6) 3, 4, none⟩]
@[go_sem] def c48_3 : Cmd := .cond (.tmp 7) .skip (.exit 0)
@[go_sem] def c48_4 : Cmd := .still 9 [⟨some 10, .move (.tmp 0), 22, none⟩,
    ⟨some 11, .move (.tmp 3), 3, none⟩,
    ⟨some 12, .binOp .sub 3 (.tmp 11) (.const (.int .i64 1)) 3, 3, none⟩,
    ⟨some 13, .indexAddr 22 (.tmp 10) (.tmp 12), 0, none⟩,
    ⟨some 14, .load 24 (.tmp 13), 24, none⟩,
    ⟨some 15, .move (.tmp 0), 22, none⟩,
    ⟨some 16, .move (.tmp 3), 3, none⟩,
    ⟨some 17, .indexAddr 22 (.tmp 15) (.tmp 16), 0, none⟩,
    ⟨some 18, .load 24 (.tmp 17), 24, none⟩,
    ⟨some 19, .call { callee := (.value (.func 12)), args := #[(.tmp 14), (.tmp 18)], argTypes := #[24, 24] }, 4, none⟩,
    ⟨some 20, .unOp .not 4 (.tmp 19), 4, none⟩]
@[go_sem] def c48_5 : Cmd := .ops [⟨some 2, .assign (.const (.bool false)), 4, none⟩]
@[go_sem] def c48_6 : Cmd := .cond (.tmp 20) (.seq c48_5 .ret) .skip
@[go_sem] def c48_7 : Cmd := .block 1 (.seq c48_4 c48_6)
@[go_sem] def c48_8 : Cmd := .ops [⟨some 8, .move (.tmp 3), 3, none⟩,
    ⟨some 9, .binOp .add 3 (.tmp 8) (.const (.int .i64 1)) 3, 3, none⟩,
    ⟨some 3, .assign (.tmp 9), 3, none⟩]
def c48_L0 : Cmd := (.seq (.seq c48_2 c48_3) (.seq c48_7 c48_8))
@[go_sem] def c48_9 : Cmd := .loop c48_L0
@[go_sem] def c48_10 : Cmd := .block 0 c48_9
@[go_sem] def c48_11 : Cmd := .ops [⟨some 2, .assign (.const (.bool true)), 4, none⟩]
@[go_sem] def c48 : Cmd := (.seq c48_0 (.seq (.seq c48_1 c48_10) (.seq c48_11 .ret)))
theorem b48 : Try.f48.body.map (comp 21) = some c48 := by kernel_rfl
theorem r48 : Try.f48.results.toList = [.tmp 2] := by kernel_rfl
-- 49 pith/varint.Put
@[go_sem] def c49_0 : Cmd := .ops [⟨some 4, .assign (.const (.slice none 0 0)), 30, none⟩]
@[go_sem] def c49_1 : Cmd := .ops [⟨some 5, .move (.tmp 0), 30, none⟩,
    ⟨some 6, .call { callee := (.value (.func 73)), args := #[(.tmp 5), (.const (.int .i64 9))], argTypes := #[30, 3] }, 30, none⟩,
    ⟨some 7, .move (.tmp 1), 3, none⟩,
    ⟨some 8, .call { callee := (.value (.func 72)), args := #[(.tmp 6), (.tmp 7)], argTypes := #[30, 3] }, 30, none⟩,
    ⟨some 4, .assign (.tmp 8), 30, none⟩]
@[go_sem] def c49 : Cmd := (.seq c49_0 (.seq c49_1 .ret))
theorem b49 : Try.f49.body.map (comp 9) = some c49 := by kernel_rfl
theorem r49 : Try.f49.results.toList = [.tmp 4] := by kernel_rfl
-- 50 pith/pithref11.in
@[go_sem] def c50_0 : Cmd := .ops [⟨some 2, .assign (.const (.bool false)), 4, none⟩]
@[go_sem] def c50_1 : Cmd := .ops [⟨some 3, .move (.tmp 0), 3, none⟩,
    ⟨some 4, .binOp .geq 3 (.tmp 3) (.const (.int .i64 0)) 3, 4, none⟩,
    ⟨some 5, .move (.tmp 4), 4, none⟩,
    ⟨some 6, .move (.tmp 0), 3, some (5, true)⟩,
    ⟨some 7, .binOp .lss 3 (.tmp 6) (.const (.int .i64 16777216)) 3, 4, some (5, true)⟩,
    ⟨some 8, .pick (.tmp 5) (.tmp 7) (.const (.bool false)), 4, none⟩,
    ⟨some 2, .assign (.tmp 8), 4, none⟩]
@[go_sem] def c50 : Cmd := (.seq c50_0 (.seq c50_1 .ret))
theorem b50 : Try.f50.body.map (comp 9) = some c50 := by kernel_rfl
theorem r50 : Try.f50.results.toList = [.tmp 2] := by kernel_rfl
-- 51 pith/pithref11.Rises
@[go_sem] def c51_0 : Cmd := .ops [⟨some 2, .assign (.const (.bool false)), 4, none⟩]
@[go_sem] def c51_1 : Cmd := .ops [⟨some 3, .assign (.const (.int .i64 1)), 3, none⟩]
@[go_sem] def c51_2 : Cmd := .ops [⟨some 5, .move (.tmp 3), 3, none⟩,
    ⟨some 6, .move (.tmp 0), 22, none⟩,
    ⟨some 7, .call { callee := (.builtin .len), args := #[(.tmp 6)], argTypes := #[22] }, 3, none⟩,
    ⟨some 8, .binOp .lss 3 (.tmp 5) (.tmp 7) 3, 4, none⟩]
@[go_sem] def c51_3 : Cmd := .cond (.tmp 8) .skip (.exit 0)
@[go_sem] def c51_4 : Cmd := .still 9 [⟨some 11, .move (.tmp 0), 22, none⟩,
    ⟨some 12, .move (.tmp 3), 3, none⟩,
    ⟨some 13, .binOp .sub 3 (.tmp 12) (.const (.int .i64 1)) 3, 3, none⟩,
    ⟨some 14, .indexAddr 22 (.tmp 11) (.tmp 13), 0, none⟩,
    ⟨some 15, .load 24 (.tmp 14), 24, none⟩,
    ⟨some 16, .move (.tmp 0), 22, none⟩,
    ⟨some 17, .move (.tmp 3), 3, none⟩,
    ⟨some 18, .indexAddr 22 (.tmp 16) (.tmp 17), 0, none⟩,
    ⟨some 19, .load 24 (.tmp 18), 24, none⟩,
    ⟨some 20, .call { callee := (.value (.func 13)), args := #[(.tmp 15), (.tmp 19)], argTypes := #[24, 24] }, 4, none⟩,
    ⟨some 4, .assign (.tmp 20), 4, none⟩]
@[go_sem] def c51_5 : Cmd := .ops [⟨some 21, .move (.tmp 4), 4, none⟩,
    ⟨some 22, .unOp .not 4 (.tmp 21), 4, none⟩]
@[go_sem] def c51_6 : Cmd := .ops [⟨some 2, .assign (.const (.bool false)), 4, none⟩]
@[go_sem] def c51_7 : Cmd := .cond (.tmp 22) (.seq c51_6 .ret) .skip
@[go_sem] def c51_8 : Cmd := .block 1 (.seq c51_4 (.seq c51_5 c51_7))
@[go_sem] def c51_9 : Cmd := .ops [⟨some 9, .move (.tmp 3), 3, none⟩,
    ⟨some 10, .binOp .add 3 (.tmp 9) (.const (.int .i64 1)) 3, 3, none⟩,
    ⟨some 3, .assign (.tmp 10), 3, none⟩]
def c51_L0 : Cmd := (.seq (.seq c51_2 c51_3) (.seq c51_8 c51_9))
@[go_sem] def c51_10 : Cmd := .loop c51_L0
@[go_sem] def c51_11 : Cmd := .block 0 c51_10
@[go_sem] def c51_12 : Cmd := .ops [⟨some 2, .assign (.const (.bool true)), 4, none⟩]
@[go_sem] def c51 : Cmd := (.seq c51_0 (.seq (.seq c51_1 c51_11) (.seq c51_12 .ret)))
theorem b51 : Try.f51.body.map (comp 23) = some c51 := by kernel_rfl
theorem r51 : Try.f51.results.toList = [.tmp 2] := by kernel_rfl
-- 52 pith/pithref1.Put
@[go_sem] def c52_0 : Cmd := .ops [⟨some 4, .assign (.const (.slice none 0 0)), 30, none⟩]
@[go_sem] def c52_1 : Cmd := .ops [⟨some 9, .move (.tmp 1), 3, none⟩,
    ⟨some 10, .binOp .lss 3 (.tmp 9) (.const (.int .i64 0)) 3, 4, none⟩]
@[go_sem] def c52_2 : Cmd := .ops [⟨some 1, .assign (.const (.int .i64 0)), 3, none⟩]
@[go_sem] def c52_3 : Cmd := .cond (.tmp 10) c52_2 .skip
@[go_sem] def c52_4 : Cmd := .ops [⟨some 11, .move (.tmp 1), 3, none⟩,
    ⟨some 12, .call { callee := (.value (.func 74)), args := #[(.tmp 11)], argTypes := #[3] }, 3, none⟩,
    ⟨some 5, .assign (.tmp 12), 3, none⟩]
@[go_sem] def c52_5 : Cmd := .ops [⟨some 13, .move (.tmp 0), 30, none⟩,
    ⟨some 14, .call { callee := (.value (.func 25)), args := #[(.tmp 13)], argTypes := #[30] }, 30, none⟩,
    ⟨some 6, .assign (.tmp 14), 30, none⟩]
@[go_sem] def c52_6 : Cmd := .ops [⟨some 15, .move (.tmp 5), 3, none⟩,
    ⟨some 16, .binOp .sub 3 (.tmp 15) (.const (.int .i64 1)) 3, 3, none⟩,
    ⟨some 7, .assign (.tmp 16), 3, none⟩]
@[go_sem] def c52_7 : Cmd := .ops [⟨some 17, .move (.tmp 7), 3, none⟩,
    ⟨some 18, .binOp .geq 3 (.tmp 17) (.const (.int .i64 0)) 3, 4, none⟩]
@[go_sem] def c52_8 : Cmd := .cond (.tmp 18) .skip (.exit 0)
@[go_sem] def c52_9 : Cmd := .ops [⟨some 21, .move (.tmp 1), 3, none⟩,
    ⟨some 22, .move (.tmp 7), 3, none⟩,
    ⟨some 23, .convert 3 105 (.tmp 22), 105, none⟩,
    ⟨some 24, .binOp .mul 105 (.const (.int .u64 7)) (.tmp 23) 105, 105, none⟩,
    ⟨some 25, .binOp .shr 3 (.tmp 21) (.tmp 24) 105, 3, none⟩,
    ⟨some 26, .binOp .and 3 (.tmp 25) (.const (.int .i64 127)) 3, 3, none⟩,
    ⟨some 27, .convert 3 5 (.tmp 26), 5, none⟩,
    ⟨some 8, .assign (.tmp 27), 5, none⟩]
@[go_sem] def c52_10 : Cmd := .ops [⟨some 28, .move (.tmp 7), 3, none⟩,
    ⟨some 29, .binOp .gtr 3 (.tmp 28) (.const (.int .i64 0)) 3, 4, none⟩]
@[go_sem] def c52_11 : Cmd := .ops [⟨some 30, .move (.tmp 8), 5, none⟩,
    ⟨some 31, .binOp .add 5 (.tmp 30) (.const (.int .u8 128)) 5, 5, none⟩,
    ⟨some 8, .assign (.tmp 31), 5, none⟩]
@[go_sem] def c52_12 : Cmd := .cond (.tmp 29) c52_11 .skip
@[go_sem] def c52_13 : Cmd := .ops [⟨some 32, .move (.tmp 6), 30, none⟩,
    ⟨some 33, .move (.tmp 8), 5, none⟩,
    ⟨some 34, .buildSlice 30 1 #[(0, (.tmp 33))], 30, none⟩,
    ⟨some 35, .call { callee := (.builtin .append), args := #[(.tmp 32), (.tmp 34)], argTypes := #[30, 30] }, 30, none⟩,
    ⟨some 6, .assign (.tmp 35), 30, none⟩]
@[go_sem] def c52_14 : Cmd := .block 1 (.seq c52_9 (.seq (.seq c52_10 c52_12) c52_13))
@[go_sem] def c52_15 : Cmd := .ops [⟨some 19, .move (.tmp 7), 3, none⟩,
    ⟨some 20, .binOp .sub 3 (.tmp 19) (.const (.int .i64 1)) 3, 3, none⟩,
    ⟨some 7, .assign (.tmp 20), 3, none⟩]
def c52_L0 : Cmd := (.seq (.seq c52_7 c52_8) (.seq c52_14 c52_15))
@[go_sem] def c52_16 : Cmd := .loop c52_L0
@[go_sem] def c52_17 : Cmd := .block 0 c52_16
@[go_sem] def c52_18 : Cmd := .ops [⟨some 36, .move (.tmp 6), 30, none⟩,
    ⟨some 4, .assign (.tmp 36), 30, none⟩]
@[go_sem] def c52 : Cmd := (.seq c52_0 (.seq (.seq c52_1 c52_3) (.seq c52_4 (.seq c52_5 (.seq (.seq c52_6 c52_17) (.seq c52_18 .ret))))))
theorem b52 : Try.f52.body.map (comp 37) = some c52 := by kernel_rfl
theorem r52 : Try.f52.results.toList = [.tmp 4] := by kernel_rfl
-- 53 pith/pithref11.Decode
@[go_sem] def c53_0 : Cmd := .ops [⟨some 2, .assign (.const (.slice none 0 0)), 22, none⟩,
    ⟨some 3, .assign (.const (.int .i64 0)), 3, none⟩]
@[go_sem] def c53_1 : Cmd := .ops [⟨some 13, .move (.tmp 0), 30, none⟩,
    ⟨some 14, .call { callee := (.value (.func 75)), args := #[(.tmp 13)], argTypes := #[30] }, 107, none⟩,
    ⟨some 4, .assign (.tmp 14), 107, none⟩]
@[go_sem] def c53_2 : Cmd := .ops [⟨some 15, .move (.tmp 4), 107, none⟩,
    ⟨some 16, .call { callee := (.value (.func 76)), args := #[(.tmp 15)], argTypes := #[107] }, 3, none⟩,
    ⟨some 5, .assign (.tmp 16), 3, none⟩]
@[go_sem] def c53_3 : Cmd := .ops [⟨some 17, .move (.tmp 5), 3, none⟩,
    ⟨some 18, .binOp .lss 3 (.tmp 17) (.const (.int .i64 1)) 3, 4, none⟩,
    ⟨some 19, .move (.tmp 18), 4, none⟩,
    ⟨some 20, .move (.tmp 5), 3, some (19, false)⟩,
    ⟨some 21, .binOp .gtr 3 (.tmp 20) (.const (.int .i64 100)) 3, 4, some (19, false)⟩,
    ⟨some 22, .pick (.tmp 19) (.const (.bool true)) (.tmp 21), 4, none⟩]
@[go_sem] def c53_4 : Cmd := .ops [⟨some 2, .assign (.const (.slice none 0 0)), 22, none⟩,
    ⟨some 3, .assign (.const (.int .i64 90)), 3, none⟩]
@[go_sem] def c53_5 : Cmd := .cond (.tmp 22) (.seq c53_4 .ret) .skip
@[go_sem] def c53_6 : Cmd := .ops [⟨some 6, .assign (.const (.slice none 0 0)), 22, none⟩]
@[go_sem] def c53_7 : Cmd := .ops [⟨some 23, .build 24 #[], 24, none⟩,
    ⟨some 7, .alloc 24, 0, none⟩,
    ⟨none, .store 24 (.tmp 7) (.tmp 23), 0, none⟩]
@[go_sem] def c53_8 : Cmd := .ops [⟨some 8, .assign (.const (.int .i64 0)), 3, none⟩]
@[go_sem] def c53_9 : Cmd := .ops [⟨some 24, .move (.tmp 8), 3, none⟩,
    ⟨some 25, .move (.tmp 5), 3, none⟩,
    ⟨some 26, .binOp .lss 3 (.tmp 24) (.tmp 25) 3, 4, none⟩]
@[go_sem] def c53_10 : Cmd := .cond (.tmp 26) .skip (.exit 0)
@[go_sem] def c53_11 : Cmd := .ops [⟨some 29, .move (.tmp 4), 107, none⟩,
    ⟨some 30, .call { callee := (.value (.func 76)), args := #[(.tmp 29)], argTypes := #[107] }, 3, none⟩,
    ⟨some 31, .build 24 #[(0, (.tmp 30)), (1, (.const (.int .i64 0)))], 24, none⟩,
    ⟨some 9, .alloc 24, 0, none⟩,
    ⟨none, .store 24 (.tmp 9) (.tmp 31), 0, none⟩]
@[go_sem] def c53_12 : Cmd := .ops [⟨some 32, .move (.tmp 4), 107, none⟩,
    ⟨some 33, .call { callee := (.value (.func 76)), args := #[(.tmp 32)], argTypes := #[107] }, 3, none⟩,
    ⟨some 10, .assign (.tmp 33), 3, none⟩]
@[go_sem] def c53_13 : Cmd := .ops [⟨some 34, .fieldAddr 24 (.tmp 9) 0, 0, none⟩,
    ⟨some 35, .load 3 (.tmp 34), 3, none⟩,
    ⟨some 36, .call { callee := (.value (.func 50)), args := #[(.tmp 35)], argTypes := #[3] }, 4, none⟩,
    ⟨some 37, .unOp .not 4 (.tmp 36), 4, none⟩,
    ⟨some 38, .move (.tmp 37), 4, none⟩,
    ⟨some 39, .move (.tmp 10), 3, some (38, false)⟩,
    ⟨some 40, .call { callee := (.value (.func 50)), args := #[(.tmp 39)], argTypes := #[3] }, 4, some (38, false)⟩,
    ⟨some 41, .unOp .not 4 (.tmp 40), 4, some (38, false)⟩,
    ⟨some 42, .pick (.tmp 38) (.const (.bool true)) (.tmp 41), 4, none⟩]
@[go_sem] def c53_14 : Cmd := .ops [⟨some 2, .assign (.const (.slice none 0 0)), 22, none⟩,
    ⟨some 3, .assign (.const (.int .i64 90)), 3, none⟩]
@[go_sem] def c53_15 : Cmd := .cond (.tmp 42) (.seq c53_14 .ret) .skip
@[go_sem] def c53_16 : Cmd := .ops [⟨some 43, .move (.tmp 10), 3, none⟩,
    ⟨some 44, .fieldAddr 24 (.tmp 9) 1, 0, none⟩,
    ⟨none, .store 3 (.tmp 44) (.tmp 43), 0, none⟩]
@[go_sem] def c53_17 : Cmd := .ops [⟨some 45, .move (.tmp 8), 3, none⟩,
    ⟨some 46, .binOp .gtr 3 (.tmp 45) (.const (.int .i64 0)) 3, 4, none⟩,
    ⟨some 47, .move (.tmp 46), 4, none⟩,
    ⟨some 48, .fieldAddr 24 (.tmp 9) 0, 0, some (47, true)⟩,
    ⟨some 49, .load 3 (.tmp 48), 3, some (47, true)⟩,
    ⟨some 50, .binOp .eql 3 (.tmp 49) (.const (.int .i64 0)) 3, 4, some (47, true)⟩,
    ⟨some 51, .pick (.tmp 47) (.tmp 50) (.const (.bool false)), 4, none⟩]
@[go_sem] def c53_18 : Cmd := .ops [⟨some 52, .fieldAddr 24 (.tmp 7) 1, 0, none⟩,
    ⟨some 53, .load 3 (.tmp 52), 3, none⟩,
    ⟨some 54, .binOp .add 3 (.tmp 53) (.const (.int .i64 1)) 3, 3, none⟩,
    ⟨some 55, .move (.tmp 10), 3, none⟩,
    ⟨some 56, .binOp .add 3 (.tmp 54) (.tmp 55) 3, 3, none⟩,
    ⟨some 57, .fieldAddr 24 (.tmp 9) 1, 0, none⟩,
    ⟨none, .store 3 (.tmp 57) (.tmp 56), 0, none⟩]
@[go_sem] def c53_19 : Cmd := .cond (.tmp 51) c53_18 .skip
@[go_sem] def c53_20 : Cmd := .ops [⟨some 58, .fieldAddr 24 (.tmp 7) 0, 0, none⟩,
    ⟨some 59, .load 3 (.tmp 58), 3, none⟩,
    ⟨some 60, .fieldAddr 24 (.tmp 9) 0, 0, none⟩,
    ⟨some 61, .load 3 (.tmp 60), 3, none⟩,
    ⟨some 62, .binOp .add 3 (.tmp 59) (.tmp 61) 3, 3, none⟩,
    ⟨some 63, .fieldAddr 24 (.tmp 9) 0, 0, none⟩,
    ⟨none, .store 3 (.tmp 63) (.tmp 62), 0, none⟩]
@[go_sem] def c53_21 : Cmd := .ops [⟨some 64, .move (.tmp 6), 22, none⟩,
    ⟨some 65, .load 24 (.tmp 9), 24, none⟩,
    ⟨some 66, .buildSlice 22 1 #[(0, (.tmp 65))], 22, none⟩,
    ⟨some 67, .call { callee := (.builtin .append), args := #[(.tmp 64), (.tmp 66)], argTypes := #[22, 22] }, 22, none⟩,
    ⟨some 6, .assign (.tmp 67), 22, none⟩]
@[go_sem] def c53_22 : Cmd := .ops [⟨some 68, .load 24 (.tmp 9), 24, none⟩,
    ⟨none, .store 24 (.tmp 7) (.tmp 68), 0, none⟩]
@[go_sem] def c53_23 : Cmd := .block 1 (.seq c53_11 (.seq c53_12 (.seq (.seq c53_13 c53_15) (.seq c53_16 (.seq (.seq c53_17 c53_19) (.seq c53_20 (.seq c53_21 c53_22)))))))
@[go_sem] def c53_24 : Cmd := .ops [⟨some 27, .move (.tmp 8), 3, none⟩,
    ⟨some 28, .binOp .add 3 (.tmp 27) (.const (.int .i64 1)) 3, 3, none⟩,
    ⟨some 8, .assign (.tmp 28), 3, none⟩]
def c53_L0 : Cmd := (.seq (.seq c53_9 c53_10) (.seq c53_23 c53_24))
@[go_sem] def c53_25 : Cmd := .loop c53_L0
@[go_sem] def c53_26 : Cmd := .block 0 c53_25
@[go_sem] def c53_27 : Cmd := .ops [⟨some 70, .move (.tmp 6), 22, none⟩,
    ⟨some 71, .call { callee := (.value (.func 21)), args := #[(.tmp 70)], argTypes := #[22] }, 34, none⟩,
    ⟨some 69, .move (.tmp 71), 34, none⟩,
    ⟨some 72, .extract (.tmp 69) 0, 30, none⟩,
    ⟨some 73, .extract (.tmp 69) 1, 3, none⟩,
    ⟨some 11, .assign (.tmp 72), 30, none⟩,
    ⟨some 12, .assign (.tmp 73), 3, none⟩]
@[go_sem] def c53_28 : Cmd := .ops [⟨some 74, .move (.tmp 12), 3, none⟩,
    ⟨some 75, .binOp .neq 3 (.tmp 74) (.const (.int .i64 0)) 3, 4, none⟩,
    ⟨some 76, .move (.tmp 75), 4, none⟩,
    ⟨some 77, .move (.tmp 11), 30, some (76, false)⟩,
    ⟨some 78, .move (.tmp 0), 30, some (76, false)⟩,
    ⟨some 79, .call { callee := (.value (.func 22)), args := #[(.tmp 77), (.tmp 78)], argTypes := #[30, 30] }, 4, some (76, false)⟩,
    ⟨some 80, .unOp .not 4 (.tmp 79), 4, some (76, false)⟩,
    ⟨some 81, .pick (.tmp 76) (.const (.bool true)) (.tmp 80), 4, none⟩]
@[go_sem] def c53_29 : Cmd := .ops [⟨some 2, .assign (.const (.slice none 0 0)), 22, none⟩,
    ⟨some 3, .assign (.const (.int .i64 90)), 3, none⟩]
@[go_sem] def c53_30 : Cmd := .cond (.tmp 81) (.seq c53_29 .ret) .skip
@[go_sem] def c53_31 : Cmd := .ops [⟨some 82, .move (.tmp 6), 22, none⟩,
    ⟨some 2, .assign (.tmp 82), 22, none⟩,
    ⟨some 3, .assign (.const (.int .i64 0)), 3, none⟩]
@[go_sem] def c53 : Cmd := (.seq c53_0 (.seq c53_1 (.seq c53_2 (.seq (.seq c53_3 c53_5) (.seq c53_6 (.seq c53_7 (.seq (.seq c53_8 c53_26) (.seq c53_27 (.seq (.seq c53_28 c53_30) (.seq c53_31 .ret))))))))))
theorem b53 : Try.f53.body.map (comp 83) = some c53 := by kernel_rfl
theorem r53 : Try.f53.results.toList = [.tmp 2, .tmp 3] := by kernel_rfl
-- 54 pith/runs.New$1
@[go_sem] def c54_0 : Cmd := .ops [⟨some 5, .assign (.const (.bool false)), 4, none⟩]
@[go_sem] def c54_1 : Cmd := .still 20 [⟨some 6, .load 46 (.tmp 2), 46, none⟩,
    ⟨some 7, .nilCheck (.tmp 6), 0, none⟩,
    ⟨some 8, .fieldAddr 86 (.tmp 7) 0, 0, none⟩,
    ⟨some 9, .load 81 (.tmp 8), 81, none⟩,
    ⟨some 10, .move (.tmp 0), 3, none⟩,
    ⟨some 11, .indexAddr 81 (.tmp 9) (.tmp 10), 0, none⟩,
    ⟨some 12, .fieldAddr 88 (.tmp 11) 0, 0, none⟩,
    ⟨some 13, .load 22 (.tmp 12), 22, none⟩,
    ⟨some 14, .indexAddr 22 (.tmp 13) (.const (.int .i64 0)), 0, none⟩,
    ⟨some 15, .load 24 (.tmp 14), 24, none⟩,
    ⟨some 16, .load 46 (.tmp 2), 46, none⟩,
    ⟨some 17, .nilCheck (.tmp 16), 0, none⟩,
    ⟨some 18, .fieldAddr 86 (.tmp 17) 0, 0, none⟩,
    ⟨some 19, .load 81 (.tmp 18), 81, none⟩,
    ⟨some 20, .move (.tmp 1), 3, none⟩,
    ⟨some 21, .indexAddr 81 (.tmp 19) (.tmp 20), 0, none⟩,
    ⟨some 22, .fieldAddr 88 (.tmp 21) 0, 0, none⟩,
    ⟨some 23, .load 22 (.tmp 22), 22, none⟩,
    ⟨some 24, .indexAddr 22 (.tmp 23) (.const (.int .i64 0)), 0, none⟩,
    ⟨some 25, .load 24 (.tmp 24), 24, none⟩,
    ⟨some 26, .call { callee := (.value (.func 12)), args := #[(.tmp 15), (.tmp 25)], argTypes := #[24, 24] }, 4, none⟩,
    ⟨some 5, .assign (.tmp 26), 4, none⟩]
@[go_sem] def c54 : Cmd := (.seq c54_0 (.seq c54_1 .ret))
theorem b54 : Try.f54.body.map (comp 27) = some c54 := by kernel_rfl
theorem r54 : Try.f54.results.toList = [.tmp 5] := by kernel_rfl
-- 55 (*pith/pithref11.Merger).Give
@[go_sem] def c55_0 : Cmd := .ops [⟨some 8, .assign (.const (.int .i64 0)), 3, none⟩]
@[go_sem] def c55_1 : Cmd := .ops [⟨some 11, .move (.tmp 1), 3, none⟩,
    ⟨some 12, .binOp .lss 3 (.tmp 11) (.const (.int .i64 0)) 3, 4, none⟩,
    ⟨some 13, .move (.tmp 12), 4, none⟩,
    ⟨some 14, .move (.tmp 1), 3, some (13, false)⟩,
    ⟨some 15, .move (.tmp 0), 48, some (13, false)⟩,
    ⟨some 16, .nilCheck (.tmp 15), 0, some (13, false)⟩,
    ⟨some 17, .fieldAddr 91 (.tmp 16) 0, 0, some (13, false)⟩,
    ⟨some 18, .load 89 (.tmp 17), 89, some (13, false)⟩,
    ⟨some 19, .call { callee := (.builtin .len), args := #[(.tmp 18)], argTypes := #[89] }, 3, some (13, false)⟩,
    ⟨some 20, .binOp .geq 3 (.tmp 14) (.tmp 19) 3, 4, some (13, false)⟩,
    ⟨some 21, .pick (.tmp 13) (.const (.bool true)) (.tmp 20), 4, none⟩,
    ⟨some 22, .move (.tmp 21), 4, none⟩,
    ⟨some 23, .move (.tmp 0), 48, some (22, false)⟩,
    ⟨some 24, .nilCheck (.tmp 23), 0, some (22, false)⟩,
    ⟨some 25, .fieldAddr 91 (.tmp 24) 0, 0, some (22, false)⟩,
    ⟨some 26, .load 89 (.tmp 25), 89, some (22, false)⟩,
    ⟨some 27, .move (.tmp 1), 3, some (22, false)⟩,
    ⟨some 28, .indexAddr 89 (.tmp 26) (.tmp 27), 0, some (22, false)⟩,
    ⟨some 29, .fieldAddr 110 (.tmp 28) 3, 0, some (22, false)⟩,
    ⟨some 30, .load 4 (.tmp 29), 4, some (22, false)⟩,
    ⟨some 31, .pick (.tmp 22) (.const (.bool true)) (.tmp 30), 4, none⟩]
@[go_sem] def c55_2 : Cmd := .ops [⟨some 8, .assign (.const (.int .i64 112)), 3, none⟩]
@[go_sem] def c55_3 : Cmd := .cond (.tmp 31) (.seq c55_2 .ret) .skip
@[go_sem] def c55_4 : Cmd := .ops [⟨some 32, .move (.tmp 0), 48, none⟩,
    ⟨some 33, .nilCheck (.tmp 32), 0, none⟩,
    ⟨some 34, .fieldAddr 91 (.tmp 33) 0, 0, none⟩,
    ⟨some 35, .load 89 (.tmp 34), 89, none⟩,
    ⟨some 36, .move (.tmp 1), 3, none⟩,
    ⟨some 37, .indexAddr 89 (.tmp 35) (.tmp 36), 0, none⟩,
    ⟨some 9, .assign (.tmp 37), 111, none⟩]
@[go_sem] def c55_5 : Cmd := .ops [⟨some 38, .move (.tmp 2), 22, none⟩,
    ⟨some 39, .call { callee := (.value (.func 51)), args := #[(.tmp 38)], argTypes := #[22] }, 4, none⟩,
    ⟨some 10, .assign (.tmp 39), 4, none⟩]
@[go_sem] def c55_6 : Cmd := .still 20 [⟨some 40, .move (.tmp 10), 4, none⟩,
    ⟨some 41, .unOp .not 4 (.tmp 40), 4, none⟩,
    ⟨some 42, .move (.tmp 41), 4, none⟩,
    ⟨some 43, .move (.tmp 2), 22, some (42, false)⟩,
    ⟨some 44, .call { callee := (.builtin .len), args := #[(.tmp 43)], argTypes := #[22] }, 3, some (42, false)⟩,
    ⟨some 45, .binOp .gtr 3 (.tmp 44) (.const (.int .i64 0)) 3, 4, some (42, false)⟩,
    ⟨some 46, .move (.tmp 45), 4, some (42, false)⟩,
    ⟨some 47, .move (.tmp 9), 111, some (46, true)⟩,
    ⟨some 48, .nilCheck (.tmp 47), 0, some (46, true)⟩,
    ⟨some 49, .fieldAddr 110 (.tmp 48) 2, 0, some (46, true)⟩,
    ⟨some 50, .load 4 (.tmp 49), 4, some (46, true)⟩,
    ⟨some 51, .pick (.tmp 46) (.tmp 50) (.const (.bool false)), 4, some (42, false)⟩,
    ⟨some 52, .move (.tmp 51), 4, some (42, false)⟩,
    ⟨some 53, .move (.tmp 9), 111, some (52, true)⟩,
    ⟨some 54, .nilCheck (.tmp 53), 0, some (52, true)⟩,
    ⟨some 55, .fieldAddr 110 (.tmp 54) 1, 0, some (52, true)⟩,
    ⟨some 56, .load 24 (.tmp 55), 24, some (52, true)⟩,
    ⟨some 57, .move (.tmp 2), 22, some (52, true)⟩,
    ⟨some 58, .indexAddr 22 (.tmp 57) (.const (.int .i64 0)), 0, some (52, true)⟩,
    ⟨some 59, .load 24 (.tmp 58), 24, some (52, true)⟩,
    ⟨some 60, .call { callee := (.value (.func 13)), args := #[(.tmp 56), (.tmp 59)], argTypes := #[24, 24] }, 4, some (52, true)⟩,
    ⟨some 61, .unOp .not 4 (.tmp 60), 4, some (52, true)⟩,
    ⟨some 62, .pick (.tmp 52) (.tmp 61) (.const (.bool false)), 4, some (42, false)⟩,
    ⟨some 63, .pick (.tmp 42) (.const (.bool true)) (.tmp 62), 4, none⟩]
@[go_sem] def c55_7 : Cmd := .ops [⟨some 8, .assign (.const (.int .i64 111)), 3, none⟩]
@[go_sem] def c55_8 : Cmd := .cond (.tmp 63) (.seq c55_7 .ret) .skip
@[go_sem] def c55_9 : Cmd := .ops [⟨some 64, .move (.tmp 9), 111, none⟩,
    ⟨some 65, .move (.tmp 9), 111, none⟩,
    ⟨some 66, .nilCheck (.tmp 65), 0, none⟩,
    ⟨some 67, .fieldAddr 110 (.tmp 66) 0, 0, none⟩,
    ⟨some 68, .load 22 (.tmp 67), 22, none⟩,
    ⟨some 69, .call { callee := (.value (.func 18)), args := #[(.tmp 68)], argTypes := #[22] }, 22, none⟩,
    ⟨some 70, .move (.tmp 2), 22, none⟩,
    ⟨some 71, .call { callee := (.builtin .append), args := #[(.tmp 69), (.tmp 70)], argTypes := #[22, 22] }, 22, none⟩,
    ⟨some 72, .nilCheck (.tmp 64), 0, none⟩,
    ⟨some 73, .fieldAddr 110 (.tmp 72) 0, 0, none⟩,
    ⟨none, .store 22 (.tmp 73) (.tmp 71), 0, none⟩]
@[go_sem] def c55_10 : Cmd := .ops [⟨some 74, .move (.tmp 2), 22, none⟩,
    ⟨some 75, .call { callee := (.builtin .len), args := #[(.tmp 74)], argTypes := #[22] }, 3, none⟩,
    ⟨some 76, .binOp .gtr 3 (.tmp 75) (.const (.int .i64 0)) 3, 4, none⟩]
@[go_sem] def c55_11 : Cmd := .ops [⟨some 77, .move (.tmp 9), 111, none⟩,
    ⟨some 78, .move (.tmp 2), 22, none⟩,
    ⟨some 79, .move (.tmp 2), 22, none⟩,
    ⟨some 80, .call { callee := (.builtin .len), args := #[(.tmp 79)], argTypes := #[22] }, 3, none⟩,
    ⟨some 81, .binOp .sub 3 (.tmp 80) (.const (.int .i64 1)) 3, 3, none⟩,
    ⟨some 82, .indexAddr 22 (.tmp 78) (.tmp 81), 0, none⟩,
    ⟨some 83, .load 24 (.tmp 82), 24, none⟩,
    ⟨some 84, .nilCheck (.tmp 77), 0, none⟩,
    ⟨some 85, .fieldAddr 110 (.tmp 84) 1, 0, none⟩,
    ⟨none, .store 24 (.tmp 85) (.tmp 83), 0, none⟩]
@[go_sem] def c55_12 : Cmd := .ops [⟨some 86, .move (.tmp 9), 111, none⟩,
    ⟨some 87, .nilCheck (.tmp 86), 0, none⟩,
    ⟨some 88, .fieldAddr 110 (.tmp 87) 2, 0, none⟩,
    ⟨none, .store 4 (.tmp 88) (.const (.bool true)), 0, none⟩]
@[go_sem] def c55_13 : Cmd := .cond (.tmp 76) (.seq c55_11 c55_12) .skip
@[go_sem] def c55_14 : Cmd := .ops [⟨some 89, .move (.tmp 9), 111, none⟩,
    ⟨some 90, .move (.tmp 3), 4, none⟩,
    ⟨some 91, .nilCheck (.tmp 89), 0, none⟩,
    ⟨some 92, .fieldAddr 110 (.tmp 91) 3, 0, none⟩,
    ⟨none, .store 4 (.tmp 92) (.tmp 90), 0, none⟩]
@[go_sem] def c55_15 : Cmd := .ops [⟨some 8, .assign (.const (.int .i64 0)), 3, none⟩]
@[go_sem] def c55 : Cmd := (.seq c55_0 (.seq (.seq c55_1 c55_3) (.seq c55_4 (.seq c55_5 (.seq (.seq c55_6 c55_8) (.seq c55_9 (.seq (.seq c55_10 c55_13) (.seq c55_14 (.seq c55_15 .ret)))))))))
theorem b55 : Try.f55.body.map (comp 93) = some c55 := by kernel_rfl
theorem r55 : Try.f55.results.toList = [.tmp 8] := by kernel_rfl
-- 56 (*pith/pithref11.Merger).Next
@[go_sem] def c56_0 : Cmd := .ops [⟨some 2, .alloc 24, 0, none⟩,
    ⟨some 3, .assign (.const (.bool false)), 4, none⟩]
@[go_sem] def c56_1 : Cmd := .ops [⟨some 8, .move (.tmp 0), 48, none⟩,
    ⟨some 9, .call { callee := (.value (.func 57)), args := #[(.tmp 8)], argTypes := #[48] }, 3, none⟩,
    ⟨some 10, .binOp .geq 3 (.tmp 9) (.const (.int .i64 0)) 3, 4, none⟩]
@[go_sem] def c56_2 : Cmd := .ops [⟨some 11, .build 24 #[], 24, none⟩,
    ⟨none, .store 24 (.tmp 2) (.tmp 11), 0, none⟩,
    ⟨some 3, .assign (.const (.bool false)), 4, none⟩]
@[go_sem] def c56_3 : Cmd := .cond (.tmp 10) (.seq c56_2 .ret) .skip
@[go_sem] def c56_4 : Cmd := .ops [⟨some 4, .assign (.const (.int .i64 (-1))), 3, none⟩]
@[go_sem] def c56_5 : Cmd := .ops [⟨some 5, .assign (.const (.int .i64 0)), 3, none⟩]
@[go_sem] def c56_6 : Cmd := .ops [⟨some 12, .move (.tmp 5), 3, none⟩,
    ⟨some 13, .move (.tmp 0), 48, none⟩,
    ⟨some 14, .nilCheck (.tmp 13), 0, none⟩,
    ⟨some 15, .fieldAddr 91 (.tmp 14) 0, 0, none⟩,
    ⟨some 16, .load 89 (.tmp 15), 89, none⟩,
    ⟨some 17, .call { callee := (.builtin .len), args := #[(.tmp 16)], argTypes := #[89] }, 3, none⟩,
    ⟨some 18, .binOp .lss 3 (.tmp 12) (.tmp 17) 3, 4, none⟩]
@[go_sem] def c56_7 : Cmd := .cond (.tmp 18) .skip (.exit 0)
@[go_sem] def c56_8 : Cmd := .still 34 [⟨some 21, .move (.tmp 0), 48, none⟩,
    ⟨some 22, .nilCheck (.tmp 21), 0, none⟩,
    ⟨some 23, .fieldAddr 91 (.tmp 22) 0, 0, none⟩,
    ⟨some 24, .load 89 (.tmp 23), 89, none⟩,
    ⟨some 25, .move (.tmp 5), 3, none⟩,
    ⟨some 26, .indexAddr 89 (.tmp 24) (.tmp 25), 0, none⟩,
    ⟨some 27, .fieldAddr 110 (.tmp 26) 0, 0, none⟩,
    ⟨some 28, .load 22 (.tmp 27), 22, none⟩,
    ⟨some 29, .call { callee := (.builtin .len), args := #[(.tmp 28)], argTypes := #[22] }, 3, none⟩,
    ⟨some 30, .binOp .gtr 3 (.tmp 29) (.const (.int .i64 0)) 3, 4, none⟩,
    ⟨some 31, .move (.tmp 30), 4, none⟩,
    ⟨some 32, .move (.tmp 4), 3, some (31, true)⟩,
    ⟨some 33, .binOp .lss 3 (.tmp 32) (.const (.int .i64 0)) 3, 4, some (31, true)⟩,
    ⟨some 34, .move (.tmp 33), 4, some (31, true)⟩,
    ⟨some 35, .move (.tmp 0), 48, some (34, false)⟩,
    ⟨some 36, .nilCheck (.tmp 35), 0, some (34, false)⟩,
    ⟨some 37, .fieldAddr 91 (.tmp 36) 0, 0, some (34, false)⟩,
    ⟨some 38, .load 89 (.tmp 37), 89, some (34, false)⟩,
    ⟨some 39, .move (.tmp 5), 3, some (34, false)⟩,
    ⟨some 40, .indexAddr 89 (.tmp 38) (.tmp 39), 0, some (34, false)⟩,
    ⟨some 41, .fieldAddr 110 (.tmp 40) 0, 0, some (34, false)⟩,
    ⟨some 42, .load 22 (.tmp 41), 22, some (34, false)⟩,
    ⟨some 43, .indexAddr 22 (.tmp 42) (.const (.int .i64 0)), 0, some (34, false)⟩,
    ⟨some 44, .load 24 (.tmp 43), 24, some (34, false)⟩,
    ⟨some 45, .move (.tmp 0), 48, some (34, false)⟩,
    ⟨some 46, .nilCheck (.tmp 45), 0, some (34, false)⟩,
    ⟨some 47, .fieldAddr 91 (.tmp 46) 0, 0, some (34, false)⟩,
    ⟨some 48, .load 89 (.tmp 47), 89, some (34, false)⟩,
    ⟨some 49, .move (.tmp 4), 3, some (34, false)⟩,
    ⟨some 50, .indexAddr 89 (.tmp 48) (.tmp 49), 0, some (34, false)⟩,
    ⟨some 51, .fieldAddr 110 (.tmp 50) 0, 0, some (34, false)⟩,
    ⟨some 52, .load 22 (.tmp 51), 22, some (34, false)⟩,
    ⟨some 53, .indexAddr 22 (.tmp 52) (.const (.int .i64 0)), 0, some (34, false)⟩,
    ⟨some 54, .load 24 (.tmp 53), 24, some (34, false)⟩,
    ⟨some 55, .call { callee := (.value (.func 13)), args := #[(.tmp 44), (.tmp 54)], argTypes := #[24, 24] }, 4, some (34, false)⟩,
    ⟨some 56, .pick (.tmp 34) (.const (.bool true)) (.tmp 55), 4, some (31, true)⟩,
    ⟨some 57, .pick (.tmp 31) (.tmp 56) (.const (.bool false)), 4, none⟩]
@[go_sem] def c56_9 : Cmd := .ops [⟨some 58, .move (.tmp 5), 3, none⟩,
    ⟨some 4, .assign (.tmp 58), 3, none⟩]
@[go_sem] def c56_10 : Cmd := .cond (.tmp 57) c56_9 .skip
@[go_sem] def c56_11 : Cmd := .block 1 (.seq c56_8 c56_10)
@[go_sem] def c56_12 : Cmd := .ops [⟨some 19, .move (.tmp 5), 3, none⟩,
    ⟨some 20, .binOp .add 3 (.tmp 19) (.const (.int .i64 1)) 3, 3, none⟩,
    ⟨some 5, .assign (.tmp 20), 3, none⟩]
def c56_L0 : Cmd := (.seq (.seq c56_6 c56_7) (.seq c56_11 c56_12))
@[go_sem] def c56_13 : Cmd := .loop c56_L0
@[go_sem] def c56_14 : Cmd := .block 0 c56_13
@[go_sem] def c56_15 : Cmd := .ops [⟨some 59, .move (.tmp 4), 3, none⟩,
    ⟨some 60, .binOp .lss 3 (.tmp 59) (.const (.int .i64 0)) 3, 4, none⟩]
@[go_sem] def c56_16 : Cmd := .ops [⟨some 61, .build 24 #[], 24, none⟩,
    ⟨none, .store 24 (.tmp 2) (.tmp 61), 0, none⟩,
    ⟨some 3, .assign (.const (.bool false)), 4, none⟩]
@[go_sem] def c56_17 : Cmd := .cond (.tmp 60) (.seq c56_16 .ret) .skip
@[go_sem] def c56_18 : Cmd := .ops [⟨some 62, .move (.tmp 0), 48, none⟩,
    ⟨some 63, .nilCheck (.tmp 62), 0, none⟩,
    ⟨some 64, .fieldAddr 91 (.tmp 63) 0, 0, none⟩,
    ⟨some 65, .load 89 (.tmp 64), 89, none⟩,
    ⟨some 66, .move (.tmp 4), 3, none⟩,
    ⟨some 67, .indexAddr 89 (.tmp 65) (.tmp 66), 0, none⟩,
    ⟨some 68, .fieldAddr 110 (.tmp 67) 0, 0, none⟩,
    ⟨some 69, .load 22 (.tmp 68), 22, none⟩,
    ⟨some 70, .indexAddr 22 (.tmp 69) (.const (.int .i64 0)), 0, none⟩,
    ⟨some 71, .load 24 (.tmp 70), 24, none⟩,
    ⟨some 6, .alloc 24, 0, none⟩,
    ⟨none, .store 24 (.tmp 6) (.tmp 71), 0, none⟩]
@[go_sem] def c56_19 : Cmd := .ops [⟨some 7, .assign (.const (.int .i64 0)), 3, none⟩]
@[go_sem] def c56_20 : Cmd := .ops [⟨some 72, .move (.tmp 7), 3, none⟩,
    ⟨some 73, .move (.tmp 0), 48, none⟩,
    ⟨some 74, .nilCheck (.tmp 73), 0, none⟩,
    ⟨some 75, .fieldAddr 91 (.tmp 74) 0, 0, none⟩,
    ⟨some 76, .load 89 (.tmp 75), 89, none⟩,
    ⟨some 77, .call { callee := (.builtin .len), args := #[(.tmp 76)], argTypes := #[89] }, 3, none⟩,
    ⟨some 78, .binOp .lss 3 (.tmp 72) (.tmp 77) 3, 4, none⟩]
@[go_sem] def c56_21 : Cmd := .cond (.tmp 78) .skip (.exit 2)
@[go_sem] def c56_22 : Cmd := .still 22 [⟨some 81, .move (.tmp 0), 48, none⟩,
    ⟨some 82, .nilCheck (.tmp 81), 0, none⟩,
    ⟨some 83, .fieldAddr 91 (.tmp 82) 0, 0, none⟩,
    ⟨some 84, .load 89 (.tmp 83), 89, none⟩,
    ⟨some 85, .move (.tmp 7), 3, none⟩,
    ⟨some 86, .indexAddr 89 (.tmp 84) (.tmp 85), 0, none⟩,
    ⟨some 87, .fieldAddr 110 (.tmp 86) 0, 0, none⟩,
    ⟨some 88, .load 22 (.tmp 87), 22, none⟩,
    ⟨some 89, .call { callee := (.builtin .len), args := #[(.tmp 88)], argTypes := #[22] }, 3, none⟩,
    ⟨some 90, .binOp .gtr 3 (.tmp 89) (.const (.int .i64 0)) 3, 4, none⟩,
    ⟨some 91, .move (.tmp 90), 4, none⟩,
    ⟨some 92, .move (.tmp 0), 48, some (91, true)⟩,
    ⟨some 93, .nilCheck (.tmp 92), 0, some (91, true)⟩,
    ⟨some 94, .fieldAddr 91 (.tmp 93) 0, 0, some (91, true)⟩,
    ⟨some 95, .load 89 (.tmp 94), 89, some (91, true)⟩,
    ⟨some 96, .move (.tmp 7), 3, some (91, true)⟩,
    ⟨some 97, .indexAddr 89 (.tmp 95) (.tmp 96), 0, some (91, true)⟩,
    ⟨some 98, .fieldAddr 110 (.tmp 97) 0, 0, some (91, true)⟩,
    ⟨some 99, .load 22 (.tmp 98), 22, some (91, true)⟩,
    ⟨some 100, .indexAddr 22 (.tmp 99) (.const (.int .i64 0)), 0, some (91, true)⟩,
    ⟨some 101, .load 24 (.tmp 100), 24, some (91, true)⟩,
    ⟨some 102, .load 24 (.tmp 6), 24, some (91, true)⟩,
    ⟨some 103, .call { callee := (.value (.func 71)), args := #[(.tmp 101), (.tmp 102)], argTypes := #[24, 24] }, 4, some (91, true)⟩,
    ⟨some 104, .pick (.tmp 91) (.tmp 103) (.const (.bool false)), 4, none⟩]
@[go_sem] def c56_23 : Cmd := .still 14 [⟨some 105, .move (.tmp 0), 48, none⟩,
    ⟨some 106, .nilCheck (.tmp 105), 0, none⟩,
    ⟨some 107, .fieldAddr 91 (.tmp 106) 0, 0, none⟩,
    ⟨some 108, .load 89 (.tmp 107), 89, none⟩,
    ⟨some 109, .move (.tmp 7), 3, none⟩,
    ⟨some 110, .move (.tmp 0), 48, none⟩,
    ⟨some 111, .nilCheck (.tmp 110), 0, none⟩,
    ⟨some 112, .fieldAddr 91 (.tmp 111) 0, 0, none⟩,
    ⟨some 113, .load 89 (.tmp 112), 89, none⟩,
    ⟨some 114, .move (.tmp 7), 3, none⟩,
    ⟨some 115, .indexAddr 89 (.tmp 113) (.tmp 114), 0, none⟩,
    ⟨some 116, .fieldAddr 110 (.tmp 115) 0, 0, none⟩,
    ⟨some 117, .load 22 (.tmp 116), 22, none⟩,
    ⟨some 118, .slice 22 (.tmp 117) (some (.const (.int .i64 1))) none none, 22, none⟩,
    ⟨some 119, .indexAddr 89 (.tmp 108) (.tmp 109), 0, none⟩,
    ⟨some 120, .fieldAddr 110 (.tmp 119) 0, 0, none⟩,
    ⟨none, .store 22 (.tmp 120) (.tmp 118), 0, none⟩]
@[go_sem] def c56_24 : Cmd := .cond (.tmp 104) c56_23 .skip
@[go_sem] def c56_25 : Cmd := .block 3 (.seq c56_22 c56_24)
@[go_sem] def c56_26 : Cmd := .ops [⟨some 79, .move (.tmp 7), 3, none⟩,
    ⟨some 80, .binOp .add 3 (.tmp 79) (.const (.int .i64 1)) 3, 3, none⟩,
    ⟨some 7, .assign (.tmp 80), 3, none⟩]
def c56_L1 : Cmd := (.seq (.seq c56_20 c56_21) (.seq c56_25 c56_26))
@[go_sem] def c56_27 : Cmd := .loop c56_L1
@[go_sem] def c56_28 : Cmd := .block 2 c56_27
@[go_sem] def c56_29 : Cmd := .ops [⟨some 121, .load 24 (.tmp 6), 24, none⟩,
    ⟨none, .store 24 (.tmp 2) (.tmp 121), 0, none⟩,
    ⟨some 3, .assign (.const (.bool true)), 4, none⟩]
@[go_sem] def c56 : Cmd := (.seq c56_0 (.seq (.seq c56_1 c56_3) (.seq c56_4 (.seq (.seq c56_5 c56_14) (.seq (.seq c56_15 c56_17) (.seq c56_18 (.seq (.seq c56_19 c56_28) (.seq c56_29 .ret))))))))
theorem b56 : Try.f56.body.map (comp 122) = some c56 := by kernel_rfl
theorem r56 : Try.f56.results.toList = [.cell 2 24, .tmp 3] := by kernel_rfl
-- 57 (*pith/pithref11.Merger).Wants
@[go_sem] def c57_0 : Cmd := .ops [⟨some 2, .assign (.const (.int .i64 0)), 3, none⟩]
@[go_sem] def c57_1 : Cmd := .ops [⟨some 3, .assign (.const (.int .i64 0)), 3, none⟩]
@[go_sem] def c57_2 : Cmd := .ops [⟨some 4, .move (.tmp 3), 3, none⟩,
    ⟨some 5, .move (.tmp 0), 48, none⟩,
    ⟨some 6, .nilCheck (.tmp 5), 0, none⟩,
    ⟨some 7, .fieldAddr 91 (.tmp 6) 0, 0, none⟩,
    ⟨some 8, .load 89 (.tmp 7), 89, none⟩,
    ⟨some 9, .call { callee := (.builtin .len), args := #[(.tmp 8)], argTypes := #[89] }, 3, none⟩,
    ⟨some 10, .binOp .lss 3 (.tmp 4) (.tmp 9) 3, 4, none⟩]
@[go_sem] def c57_3 : Cmd := .cond (.tmp 10) .skip (.exit 0)
@[go_sem] def c57_4 : Cmd := .ops [⟨some 13, .move (.tmp 0), 48, none⟩,
    ⟨some 14, .nilCheck (.tmp 13), 0, none⟩,
    ⟨some 15, .fieldAddr 91 (.tmp 14) 0, 0, none⟩,
    ⟨some 16, .load 89 (.tmp 15), 89, none⟩,
    ⟨some 17, .move (.tmp 3), 3, none⟩,
    ⟨some 18, .indexAddr 89 (.tmp 16) (.tmp 17), 0, none⟩,
    ⟨some 19, .fieldAddr 110 (.tmp 18) 0, 0, none⟩,
    ⟨some 20, .load 22 (.tmp 19), 22, none⟩,
    ⟨some 21, .call { callee := (.builtin .len), args := #[(.tmp 20)], argTypes := #[22] }, 3, none⟩,
    ⟨some 22, .binOp .eql 3 (.tmp 21) (.const (.int .i64 0)) 3, 4, none⟩,
    ⟨some 23, .move (.tmp 22), 4, none⟩,
    ⟨some 24, .move (.tmp 0), 48, some (23, true)⟩,
    ⟨some 25, .nilCheck (.tmp 24), 0, some (23, true)⟩,
    ⟨some 26, .fieldAddr 91 (.tmp 25) 0, 0, some (23, true)⟩,
    ⟨some 27, .load 89 (.tmp 26), 89, some (23, true)⟩,
    ⟨some 28, .move (.tmp 3), 3, some (23, true)⟩,
    ⟨some 29, .indexAddr 89 (.tmp 27) (.tmp 28), 0, some (23, true)⟩,
    ⟨some 30, .fieldAddr 110 (.tmp 29) 3, 0, some (23, true)⟩,
    ⟨some 31, .load 4 (.tmp 30), 4, some (23, true)⟩,
    ⟨some 32, .unOp .not 4 (.tmp 31), 4, some (23, true)⟩,
    ⟨some 33, .pick (.tmp 23) (.tmp 32) (.const (.bool false)), 4, none⟩]
@[go_sem] def c57_5 : Cmd := .ops [⟨some 34, .move (.tmp 3), 3, none⟩,
    ⟨some 2, .assign (.tmp 34), 3, none⟩]
@[go_sem] def c57_6 : Cmd := .cond (.tmp 33) (.seq c57_5 .ret) .skip
@[go_sem] def c57_7 : Cmd := .block 1 (.seq c57_4 c57_6)
@[go_sem] def c57_8 : Cmd := .ops [⟨some 11, .move (.tmp 3), 3, none⟩,
    ⟨some 12, .binOp .add 3 (.tmp 11) (.const (.int .i64 1)) 3, 3, none⟩,
    ⟨some 3, .assign (.tmp 12), 3, none⟩]
def c57_L0 : Cmd := (.seq (.seq c57_2 c57_3) (.seq c57_7 c57_8))
@[go_sem] def c57_9 : Cmd := .loop c57_L0
@[go_sem] def c57_10 : Cmd := .block 0 c57_9
@[go_sem] def c57_11 : Cmd := .ops [⟨some 2, .assign (.const (.int .i64 (-1))), 3, none⟩]
@[go_sem] def c57 : Cmd := (.seq c57_0 (.seq (.seq c57_1 c57_10) (.seq c57_11 .ret)))
theorem b57 : Try.f57.body.map (comp 35) = some c57 := by kernel_rfl
theorem r57 : Try.f57.results.toList = [.tmp 2] := by kernel_rfl
-- 58 (*pith/pithref11.Merger).Left
@[go_sem] def c58_0 : Cmd := .ops [⟨some 2, .assign (.const (.int .i64 0)), 3, none⟩]
@[go_sem] def c58_1 : Cmd := .ops [⟨some 3, .assign (.const (.int .i64 0)), 3, none⟩]
@[go_sem] def c58_2 : Cmd := .ops [⟨some 4, .assign (.const (.int .i64 0)), 3, none⟩]
@[go_sem] def c58_3 : Cmd := .ops [⟨some 5, .move (.tmp 4), 3, none⟩,
    ⟨some 6, .move (.tmp 0), 48, none⟩,
    ⟨some 7, .nilCheck (.tmp 6), 0, none⟩,
    ⟨some 8, .fieldAddr 91 (.tmp 7) 0, 0, none⟩,
    ⟨some 9, .load 89 (.tmp 8), 89, none⟩,
    ⟨some 10, .call { callee := (.builtin .len), args := #[(.tmp 9)], argTypes := #[89] }, 3, none⟩,
    ⟨some 11, .binOp .lss 3 (.tmp 5) (.tmp 10) 3, 4, none⟩]
@[go_sem] def c58_4 : Cmd := .cond (.tmp 11) .skip (.exit 0)
@[go_sem] def c58_5 : Cmd := .ops [⟨some 14, .move (.tmp 3), 3, none⟩,
    ⟨some 15, .move (.tmp 0), 48, none⟩,
    ⟨some 16, .nilCheck (.tmp 15), 0, none⟩,
    ⟨some 17, .fieldAddr 91 (.tmp 16) 0, 0, none⟩,
    ⟨some 18, .load 89 (.tmp 17), 89, none⟩,
    ⟨some 19, .move (.tmp 4), 3, none⟩,
    ⟨some 20, .indexAddr 89 (.tmp 18) (.tmp 19), 0, none⟩,
    ⟨some 21, .fieldAddr 110 (.tmp 20) 0, 0, none⟩,
    ⟨some 22, .load 22 (.tmp 21), 22, none⟩,
    ⟨some 23, .call { callee := (.builtin .len), args := #[(.tmp 22)], argTypes := #[22] }, 3, none⟩,
    ⟨some 24, .binOp .add 3 (.tmp 14) (.tmp 23) 3, 3, none⟩,
    ⟨some 3, .assign (.tmp 24), 3, none⟩]
@[go_sem] def c58_6 : Cmd := .block 1 c58_5
@[go_sem] def c58_7 : Cmd := .ops [⟨some 12, .move (.tmp 4), 3, none⟩,
    ⟨some 13, .binOp .add 3 (.tmp 12) (.const (.int .i64 1)) 3, 3, none⟩,
    ⟨some 4, .assign (.tmp 13), 3, none⟩]
def c58_L0 : Cmd := (.seq (.seq c58_3 c58_4) (.seq c58_6 c58_7))
@[go_sem] def c58_8 : Cmd := .loop c58_L0
@[go_sem] def c58_9 : Cmd := .block 0 c58_8
@[go_sem] def c58_10 : Cmd := .ops [⟨some 25, .move (.tmp 3), 3, none⟩,
    ⟨some 2, .assign (.tmp 25), 3, none⟩]
@[go_sem] def c58 : Cmd := (.seq c58_0 (.seq c58_1 (.seq (.seq c58_2 c58_9) (.seq c58_10 .ret))))
theorem b58 : Try.f58.body.map (comp 26) = some c58 := by kernel_rfl
theorem r58 : Try.f58.results.toList = [.tmp 2] := by kernel_rfl
-- 59 pith/varint.NewReader
@[go_sem] def c59_0 : Cmd := .ops [⟨some 2, .assign (.const (.pointer none)), 93, none⟩]
@[go_sem] def c59_1 : Cmd := .ops [⟨some 3, .move (.tmp 0), 30, none⟩,
    ⟨some 4, .call { callee := (.value (.func 73)), args := #[(.tmp 3), (.const (.int .i64 0))], argTypes := #[30, 3] }, 30, none⟩,
    ⟨some 5, .build 113 #[(0, (.tmp 4))], 113, none⟩,
    ⟨some 6, .box 113 (.tmp 5), 93, none⟩,
    ⟨some 2, .assign (.tmp 6), 93, none⟩]
@[go_sem] def c59 : Cmd := (.seq c59_0 (.seq c59_1 .ret))
theorem b59 : Try.f59.body.map (comp 7) = some c59 := by kernel_rfl
theorem r59 : Try.f59.results.toList = [.tmp 2] := by kernel_rfl
-- 60 (*pith/varint.Reader).Int
@[go_sem] def c60_0 : Cmd := .ops [⟨some 2, .assign (.const (.int .i64 0)), 3, none⟩]
@[go_sem] def c60_1 : Cmd := .ops [⟨some 6, .move (.tmp 0), 93, none⟩,
    ⟨some 7, .nilCheck (.tmp 6), 0, none⟩,
    ⟨some 8, .fieldAddr 113 (.tmp 7) 2, 0, none⟩,
    ⟨some 9, .load 31 (.tmp 8), 31, none⟩,
    ⟨some 10, .binOp .neq 31 (.tmp 9) (.const (.int .i64 0)) 31, 4, none⟩]
@[go_sem] def c60_2 : Cmd := .ops [⟨some 2, .assign (.const (.int .i64 0)), 3, none⟩]
@[go_sem] def c60_3 : Cmd := .cond (.tmp 10) (.seq c60_2 .ret) .skip
@[go_sem] def c60_4 : Cmd := .quiet [⟨some 12, .move (.tmp 0), 93, none⟩,
    ⟨some 13, .nilCheck (.tmp 12), 0, none⟩,
    ⟨some 14, .fieldAddr 113 (.tmp 13) 0, 0, none⟩,
    ⟨some 15, .load 30 (.tmp 14), 30, none⟩,
    ⟨some 16, .move (.tmp 0), 93, none⟩,
    ⟨some 17, .nilCheck (.tmp 16), 0, none⟩,
    ⟨some 18, .fieldAddr 113 (.tmp 17) 1, 0, none⟩,
    ⟨some 19, .load 3 (.tmp 18), 3, none⟩,
    ⟨some 20, .slice 30 (.tmp 15) (some (.tmp 19)) none none, 30, none⟩,
    ⟨some 21, .call { callee := (.value (.func 77)), args := #[(.tmp 20)], argTypes := #[30] }, 114, none⟩,
    ⟨some 11, .move (.tmp 21), 114, none⟩,
    ⟨some 22, .extract (.tmp 11) 0, 3, none⟩,
    ⟨some 23, .extract (.tmp 11) 1, 3, none⟩,
    ⟨some 24, .extract (.tmp 11) 2, 31, none⟩,
    ⟨some 3, .assign (.tmp 22), 3, none⟩,
    ⟨some 4, .assign (.tmp 23), 3, none⟩,
    ⟨some 5, .assign (.tmp 24), 31, none⟩]
@[go_sem] def c60_5 : Cmd := .ops [⟨some 25, .move (.tmp 0), 93, none⟩,
    ⟨some 26, .move (.tmp 0), 93, none⟩,
    ⟨some 27, .move (.tmp 0), 93, none⟩,
    ⟨some 28, .nilCheck (.tmp 27), 0, none⟩,
    ⟨some 29, .fieldAddr 113 (.tmp 28) 1, 0, none⟩,
    ⟨some 30, .load 3 (.tmp 29), 3, none⟩,
    ⟨some 31, .move (.tmp 4), 3, none⟩,
    ⟨some 32, .binOp .add 3 (.tmp 30) (.tmp 31) 3, 3, none⟩,
    ⟨some 33, .move (.tmp 5), 31, none⟩,
    ⟨some 34, .nilCheck (.tmp 25), 0, none⟩,
    ⟨some 35, .fieldAddr 113 (.tmp 34) 1, 0, none⟩,
    ⟨none, .store 3 (.tmp 35) (.tmp 32), 0, none⟩,
    ⟨some 36, .nilCheck (.tmp 26), 0, none⟩,
    ⟨some 37, .fieldAddr 113 (.tmp 36) 2, 0, none⟩,
    ⟨none, .store 31 (.tmp 37) (.tmp 33), 0, none⟩]
@[go_sem] def c60_6 : Cmd := .ops [⟨some 38, .move (.tmp 3), 3, none⟩,
    ⟨some 2, .assign (.tmp 38), 3, none⟩]
@[go_sem] def c60 : Cmd := (.seq c60_0 (.seq (.seq c60_1 c60_3) (.seq c60_4 (.seq c60_5 (.seq c60_6 .ret)))))
theorem b60 : Try.f60.body.map (comp 39) = some c60 := by kernel_rfl
theorem r60 : Try.f60.results.toList = [.tmp 2] := by kernel_rfl
-- 61 (*pith/varint.Reader).Err
@[go_sem] def c61_0 : Cmd := .ops [⟨some 2, .assign (.const (.int .i64 0)), 31, none⟩,
    ⟨some 3, .assign (.const (.int .i64 0)), 3, none⟩]
@[go_sem] def c61_1 : Cmd := .quiet [⟨some 4, .move (.tmp 0), 93, none⟩,
    ⟨some 5, .nilCheck (.tmp 4), 0, none⟩,
    ⟨some 6, .fieldAddr 113 (.tmp 5) 2, 0, none⟩,
    ⟨some 7, .load 31 (.tmp 6), 31, none⟩,
    ⟨some 8, .move (.tmp 0), 93, none⟩,
    ⟨some 9, .nilCheck (.tmp 8), 0, none⟩,
    ⟨some 10, .fieldAddr 113 (.tmp 9) 1, 0, none⟩,
    ⟨some 11, .load 3 (.tmp 10), 3, none⟩,
    ⟨some 2, .assign (.tmp 7), 31, none⟩,
    ⟨some 3, .assign (.tmp 11), 3, none⟩]
@[go_sem] def c61 : Cmd := (.seq c61_0 (.seq c61_1 .ret))
theorem b61 : Try.f61.body.map (comp 12) = some c61 := by kernel_rfl
theorem r61 : Try.f61.results.toList = [.tmp 2, .tmp 3] := by kernel_rfl
-- 62 bytes.Equal
@[go_sem] def c62_0 : Cmd := .ops [⟨some 4, .assign (.const (.bool false)), 4, none⟩]
@[go_sem] def c62_1 : Cmd := .ops [⟨some 5, .move (.tmp 0), 30, none⟩,
    ⟨some 6, .convert 30 9 (.tmp 5), 9, none⟩,
    ⟨some 7, .move (.tmp 1), 30, none⟩,
    ⟨some 8, .convert 30 9 (.tmp 7), 9, none⟩,
    ⟨some 9, .binOp .eql 9 (.tmp 6) (.tmp 8) 9, 4, none⟩,
    ⟨some 4, .assign (.tmp 9), 4, none⟩]
@[go_sem] def c62 : Cmd := (.seq c62_0 (.seq c62_1 .ret))
theorem b62 : Try.f62.body.map (comp 10) = some c62 := by kernel_rfl
theorem r62 : Try.f62.results.toList = [.tmp 4] := by kernel_rfl
-- 63 (*pith/runs.heap[int]).push
@[go_sem] def c63_0 : Cmd := .ops [⟨some 6, .move (.tmp 0), 116, none⟩,
    ⟨some 7, .move (.tmp 0), 116, none⟩,
    ⟨some 8, .nilCheck (.tmp 7), 0, none⟩,
    ⟨some 9, .fieldAddr 84 (.tmp 8) 0, 0, none⟩,
    ⟨some 10, .load 63 (.tmp 9), 63, none⟩,
    ⟨some 11, .move (.tmp 1), 3, none⟩,
    ⟨some 12, .buildSlice 63 1 #[(0, (.tmp 11))], 63, none⟩,
    ⟨some 13, .call { callee := (.builtin .append), args := #[(.tmp 10), (.tmp 12)], argTypes := #[63, 63] }, 63, none⟩,
    ⟨some 14, .nilCheck (.tmp 6), 0, none⟩,
    ⟨some 15, .fieldAddr 84 (.tmp 14) 0, 0, none⟩,
    ⟨none, .store 63 (.tmp 15) (.tmp 13), 0, none⟩]
@[go_sem] def c63_1 : Cmd := .ops [⟨some 16, .move (.tmp 0), 116, none⟩,
    ⟨some 17, .nilCheck (.tmp 16), 0, none⟩,
    ⟨some 18, .fieldAddr 84 (.tmp 17) 0, 0, none⟩,
    ⟨some 19, .load 63 (.tmp 18), 63, none⟩,
    ⟨some 20, .call { callee := (.builtin .len), args := #[(.tmp 19)], argTypes := #[63] }, 3, none⟩,
    ⟨some 21, .binOp .sub 3 (.tmp 20) (.const (.int .i64 1)) 3, 3, none⟩,
    ⟨some 4, .assign (.tmp 21), 3, none⟩]
@[go_sem] def c63_2 : Cmd := .ops [⟨some 22, .move (.tmp 4), 3, none⟩,
    ⟨some 23, .binOp .gtr 3 (.tmp 22) (.const (.int .i64 0)) 3, 4, none⟩]
@[go_sem] def c63_3 : Cmd := .cond (.tmp 23) .skip (.exit 0)
@[go_sem] def c63_4 : Cmd := .ops [⟨some 24, .move (.tmp 4), 3, none⟩,
    ⟨some 25, .binOp .sub 3 (.tmp 24) (.const (.int .i64 1)) 3, 3, none⟩,
    ⟨some 26, .binOp .quo 3 (.tmp 25) (.const (.int .i64 2)) 3, 3, none⟩,
    ⟨some 5, .assign (.tmp 26), 3, none⟩]
@[go_sem] def c63_5 : Cmd := .still 18 [⟨some 27, .move (.tmp 0), 116, none⟩,
    ⟨some 28, .nilCheck (.tmp 27), 0, none⟩,
    ⟨some 29, .fieldAddr 84 (.tmp 28) 1, 0, none⟩,
    ⟨some 30, .load 82 (.tmp 29), 82, none⟩,
    ⟨some 31, .move (.tmp 0), 116, none⟩,
    ⟨some 32, .nilCheck (.tmp 31), 0, none⟩,
    ⟨some 33, .fieldAddr 84 (.tmp 32) 0, 0, none⟩,
    ⟨some 34, .load 63 (.tmp 33), 63, none⟩,
    ⟨some 35, .move (.tmp 4), 3, none⟩,
    ⟨some 36, .indexAddr 63 (.tmp 34) (.tmp 35), 0, none⟩,
    ⟨some 37, .load 3 (.tmp 36), 3, none⟩,
    ⟨some 38, .move (.tmp 0), 116, none⟩,
    ⟨some 39, .nilCheck (.tmp 38), 0, none⟩,
    ⟨some 40, .fieldAddr 84 (.tmp 39) 0, 0, none⟩,
    ⟨some 41, .load 63 (.tmp 40), 63, none⟩,
    ⟨some 42, .move (.tmp 5), 3, none⟩,
    ⟨some 43, .indexAddr 63 (.tmp 41) (.tmp 42), 0, none⟩,
    ⟨some 44, .load 3 (.tmp 43), 3, none⟩,
    ⟨some 45, .call { callee := (.value (.tmp 30)), args := #[(.tmp 37), (.tmp 44)], argTypes := #[3, 3] }, 4, none⟩,
    ⟨some 46, .unOp .not 4 (.tmp 45), 4, none⟩]
@[go_sem] def c63_6 : Cmd := .cond (.tmp 46) .ret .skip
@[go_sem] def c63_7 : Cmd := .draw (.step 3 ⟨some 47, .move (.tmp 0), 116, none⟩
    (.step 3 ⟨some 48, .nilCheck (.tmp 47), 0, none⟩
    (.step 3 ⟨some 49, .fieldAddr 84 (.tmp 48) 0, 0, none⟩
    (.step 0 ⟨some 50, .load 63 (.tmp 49), 63, none⟩
    (.step 3 ⟨some 51, .move (.tmp 4), 3, none⟩
    (.step 3 ⟨some 52, .move (.tmp 0), 116, none⟩
    (.step 3 ⟨some 53, .nilCheck (.tmp 52), 0, none⟩
    (.step 3 ⟨some 54, .fieldAddr 84 (.tmp 53) 0, 0, none⟩
    (.step 0 ⟨some 55, .load 63 (.tmp 54), 63, none⟩
    (.step 3 ⟨some 56, .move (.tmp 5), 3, none⟩
    (.step 3 ⟨some 57, .move (.tmp 0), 116, none⟩
    (.step 3 ⟨some 58, .nilCheck (.tmp 57), 0, none⟩
    (.step 3 ⟨some 59, .fieldAddr 84 (.tmp 58) 0, 0, none⟩
    (.step 0 ⟨some 60, .load 63 (.tmp 59), 63, none⟩
    (.step 3 ⟨some 61, .move (.tmp 5), 3, none⟩
    (.step 3 ⟨some 62, .indexAddr 63 (.tmp 60) (.tmp 61), 0, none⟩
    (.step 0 ⟨some 63, .load 3 (.tmp 62), 3, none⟩
    (.step 3 ⟨some 64, .move (.tmp 0), 116, none⟩
    (.step 3 ⟨some 65, .nilCheck (.tmp 64), 0, none⟩
    (.step 3 ⟨some 66, .fieldAddr 84 (.tmp 65) 0, 0, none⟩
    (.step 0 ⟨some 67, .load 63 (.tmp 66), 63, none⟩
    (.step 3 ⟨some 68, .move (.tmp 4), 3, none⟩
    (.step 3 ⟨some 69, .indexAddr 63 (.tmp 67) (.tmp 68), 0, none⟩
    (.step 0 ⟨some 70, .load 3 (.tmp 69), 3, none⟩
    (.step 3 ⟨some 71, .indexAddr 63 (.tmp 50) (.tmp 51), 0, none⟩
    (.step 2 ⟨none, .store 3 (.tmp 71) (.tmp 63), 0, none⟩
    (.step 3 ⟨some 72, .indexAddr 63 (.tmp 55) (.tmp 56), 0, none⟩
    (.step 2 ⟨none, .store 3 (.tmp 72) (.tmp 70), 0, none⟩
    .done))))))))))))))))))))))))))))
@[go_sem] def c63_8 : Cmd := .ops [⟨some 73, .move (.tmp 5), 3, none⟩,
    ⟨some 4, .assign (.tmp 73), 3, none⟩]
@[go_sem] def c63_9 : Cmd := .block 1 (.seq c63_4 (.seq (.seq c63_5 c63_6) (.seq c63_7 c63_8)))
def c63_L0 : Cmd := (.seq (.seq c63_2 c63_3) c63_9)
@[go_sem] def c63_10 : Cmd := .loop c63_L0
@[go_sem] def c63_11 : Cmd := .block 0 c63_10
@[go_sem] def c63 : Cmd := (.seq c63_0 (.seq c63_1 c63_11))
theorem b63 : Try.f63.body.map (comp 74) = some c63 := by kernel_rfl
theorem r63 : Try.f63.results.toList = [] := by kernel_rfl
-- 64 slices.IndexFunc[[]pith/runs.source,pith/runs.source]
@[go_sem] def c64_0 : Cmd := .ops [⟨some 4, .assign (.const (.int .i64 0)), 3, none⟩]
@[go_sem] def c64_1 : Cmd := .ops [⟨some 6, .move (.tmp 0), 81, none⟩,
    ⟨some 7, .call { callee := (.builtin .len), args := #[(.tmp 6)], argTypes := #[81] }, 3, none⟩,
    ⟨some 8, .move (.const (.int .i64 0)), 3, none⟩]
@[go_sem] def c64_2 : Cmd := .ops [⟨some 9, .binOp .lss 3 (.tmp 8) (.tmp 7) 3, 0, none⟩]
@[go_sem] def c64_3 : Cmd := .cond (.tmp 9) .skip (.exit 0)
@[go_sem] def c64_4 : Cmd := .ops [⟨some 10, .move (.tmp 8), 3, none⟩,
    ⟨some 5, .assign (.tmp 10), 3, none⟩]
@[go_sem] def c64_5 : Cmd := .ops [⟨some 11, .move (.tmp 1), 100, none⟩,
    ⟨some 12, .move (.tmp 0), 81, none⟩,
    ⟨some 13, .move (.tmp 5), 3, none⟩,
    ⟨some 14, .indexAddr 81 (.tmp 12) (.tmp 13), 0, none⟩,
    ⟨some 15, .load 88 (.tmp 14), 88, none⟩,
    ⟨some 16, .call { callee := (.value (.tmp 11)), args := #[(.tmp 15)], argTypes := #[88] }, 4, none⟩]
@[go_sem] def c64_6 : Cmd := .ops [⟨some 17, .move (.tmp 5), 3, none⟩,
    ⟨some 4, .assign (.tmp 17), 3, none⟩]
@[go_sem] def c64_7 : Cmd := .cond (.tmp 16) (.seq c64_6 .ret) .skip
@[go_sem] def c64_8 : Cmd := .block 1 (.seq c64_4 (.seq c64_5 c64_7))
@[go_sem] def c64_9 : Cmd := .ops [⟨some 18, .binOp .add 3 (.tmp 8) (.const (.int .i64 1)) 3, 3, none⟩,
    ⟨some 8, .move (.tmp 18), 3, none⟩]
def c64_L0 : Cmd := (.seq c64_2 (.seq c64_3 (.seq c64_8 c64_9)))
@[go_sem] def c64_10 : Cmd := .loop c64_L0
@[go_sem] def c64_11 : Cmd := .block 0 c64_10
@[go_sem] def c64_12 : Cmd := .ops [⟨some 4, .assign (.const (.int .i64 (-1))), 3, none⟩]
@[go_sem] def c64 : Cmd := (.seq c64_0 (.seq (.seq c64_1 c64_11) (.seq c64_12 .ret)))
theorem b64 : Try.f64.body.map (comp 19) = some c64 := by kernel_rfl
theorem r64 : Try.f64.results.toList = [.tmp 4] := by kernel_rfl
-- 65 (*pith/runs.Merger).Wants$1
@[go_sem] def c65_0 : Cmd := .ops [⟨some 1, .box 88 (.tmp 0), 0, none⟩,
    ⟨some 2, .assign (.const (.bool false)), 4, none⟩]
@[go_sem] def c65_1 : Cmd := .ops [⟨some 3, .fieldAddr 88 (.tmp 1) 0, 0, none⟩,
    ⟨some 4, .load 22 (.tmp 3), 22, none⟩,
    ⟨some 5, .call { callee := (.builtin .len), args := #[(.tmp 4)], argTypes := #[22] }, 3, none⟩,
    ⟨some 6, .binOp .eql 3 (.tmp 5) (.const (.int .i64 0)) 3, 4, none⟩,
    ⟨some 7, .move (.tmp 6), 4, none⟩,
    ⟨some 8, .fieldAddr 88 (.tmp 1) 3, 0, some (7, true)⟩,
    ⟨some 9, .load 4 (.tmp 8), 4, some (7, true)⟩,
    ⟨some 10, .unOp .not 4 (.tmp 9), 4, some (7, true)⟩,
    ⟨some 11, .pick (.tmp 7) (.tmp 10) (.const (.bool false)), 4, none⟩,
    ⟨some 2, .assign (.tmp 11), 4, none⟩]
@[go_sem] def c65 : Cmd := (.seq c65_0 (.seq c65_1 .ret))
theorem b65 : Try.f65.body.map (comp 12) = some c65 := by kernel_rfl
theorem r65 : Try.f65.results.toList = [.tmp 2] := by kernel_rfl
-- 66 (*pith/runs.heap[int]).pop
@[go_sem] def c66_0 : Cmd := .ops [⟨some 2, .assign (.const (.int .i64 0)), 3, none⟩]
@[go_sem] def c66_1 : Cmd := .quiet [⟨some 8, .move (.tmp 0), 116, none⟩,
    ⟨some 9, .nilCheck (.tmp 8), 0, none⟩,
    ⟨some 10, .fieldAddr 84 (.tmp 9) 0, 0, none⟩,
    ⟨some 11, .load 63 (.tmp 10), 63, none⟩,
    ⟨some 12, .indexAddr 63 (.tmp 11) (.const (.int .i64 0)), 0, none⟩,
    ⟨some 13, .load 3 (.tmp 12), 3, none⟩,
    ⟨some 14, .move (.tmp 0), 116, none⟩,
    ⟨some 15, .nilCheck (.tmp 14), 0, none⟩,
    ⟨some 16, .fieldAddr 84 (.tmp 15) 0, 0, none⟩,
    ⟨some 17, .load 63 (.tmp 16), 63, none⟩,
    ⟨some 18, .call { callee := (.builtin .len), args := #[(.tmp 17)], argTypes := #[63] }, 3, none⟩,
    ⟨some 19, .binOp .sub 3 (.tmp 18) (.const (.int .i64 1)) 3, 3, none⟩,
    ⟨some 3, .assign (.tmp 13), 3, none⟩,
    ⟨some 4, .assign (.tmp 19), 3, none⟩]
@[go_sem] def c66_2 : Cmd := .still 11 [⟨some 20, .move (.tmp 0), 116, none⟩,
    ⟨some 21, .nilCheck (.tmp 20), 0, none⟩,
    ⟨some 22, .fieldAddr 84 (.tmp 21) 0, 0, none⟩,
    ⟨some 23, .load 63 (.tmp 22), 63, none⟩,
    ⟨some 24, .move (.tmp 0), 116, none⟩,
    ⟨some 25, .nilCheck (.tmp 24), 0, none⟩,
    ⟨some 26, .fieldAddr 84 (.tmp 25) 0, 0, none⟩,
    ⟨some 27, .load 63 (.tmp 26), 63, none⟩,
    ⟨some 28, .move (.tmp 4), 3, none⟩,
    ⟨some 29, .indexAddr 63 (.tmp 27) (.tmp 28), 0, none⟩,
    ⟨some 30, .load 3 (.tmp 29), 3, none⟩,
    ⟨some 31, .indexAddr 63 (.tmp 23) (.const (.int .i64 0)), 0, none⟩,
    ⟨none, .store 3 (.tmp 31) (.tmp 30), 0, none⟩]
@[go_sem] def c66_3 : Cmd := .ops [⟨some 32, .move (.tmp 0), 116, none⟩,
    ⟨some 33, .move (.tmp 0), 116, none⟩,
    ⟨some 34, .nilCheck (.tmp 33), 0, none⟩,
    ⟨some 35, .fieldAddr 84 (.tmp 34) 0, 0, none⟩,
    ⟨some 36, .load 63 (.tmp 35), 63, none⟩,
    ⟨some 37, .move (.tmp 4), 3, none⟩,
    ⟨some 38, .slice 63 (.tmp 36) none (some (.tmp 37)) none, 63, none⟩,
    ⟨some 39, .nilCheck (.tmp 32), 0, none⟩,
    ⟨some 40, .fieldAddr 84 (.tmp 39) 0, 0, none⟩,
    ⟨none, .store 63 (.tmp 40) (.tmp 38), 0, none⟩]
@[go_sem] def c66_4 : Cmd := .ops [⟨some 5, .assign (.const (.int .i64 0)), 3, none⟩]
@[go_sem] def c66_5 : Cmd := .ops [⟨some 41, .move (.tmp 5), 3, none⟩,
    ⟨some 6, .assign (.tmp 41), 3, none⟩]
@[go_sem] def c66_6 : Cmd := .ops [⟨some 42, .move (.tmp 5), 3, none⟩,
    ⟨some 43, .binOp .mul 3 (.const (.int .i64 2)) (.tmp 42) 3, 3, none⟩,
    ⟨some 44, .binOp .add 3 (.tmp 43) (.const (.int .i64 1)) 3, 3, none⟩,
    ⟨some 7, .assign (.tmp 44), 3, none⟩]
@[go_sem] def c66_7 : Cmd := .ops [⟨some 45, .move (.tmp 7), 3, none⟩,
    ⟨some 46, .move (.tmp 5), 3, none⟩,
    ⟨some 47, .binOp .mul 3 (.const (.int .i64 2)) (.tmp 46) 3, 3, none⟩,
    ⟨some 48, .binOp .add 3 (.tmp 47) (.const (.int .i64 2)) 3, 3, none⟩,
    ⟨some 49, .binOp .leq 3 (.tmp 45) (.tmp 48) 3, 4, none⟩,
    ⟨some 50, .move (.tmp 49), 4, none⟩,
    ⟨some 51, .move (.tmp 7), 3, some (50, true)⟩,
    ⟨some 52, .move (.tmp 4), 3, some (50, true)⟩,
    ⟨some 53, .binOp .lss 3 (.tmp 51) (.tmp 52) 3, 4, some (50, true)⟩,
    ⟨some 54, .pick (.tmp 50) (.tmp 53) (.const (.bool false)), 4, none⟩]
@[go_sem] def c66_8 : Cmd := .cond (.tmp 54) .skip (.exit 0)
@[go_sem] def c66_9 : Cmd := .still 18 [⟨some 57, .move (.tmp 0), 116, none⟩,
    ⟨some 58, .nilCheck (.tmp 57), 0, none⟩,
    ⟨some 59, .fieldAddr 84 (.tmp 58) 1, 0, none⟩,
    ⟨some 60, .load 82 (.tmp 59), 82, none⟩,
    ⟨some 61, .move (.tmp 0), 116, none⟩,
    ⟨some 62, .nilCheck (.tmp 61), 0, none⟩,
    ⟨some 63, .fieldAddr 84 (.tmp 62) 0, 0, none⟩,
    ⟨some 64, .load 63 (.tmp 63), 63, none⟩,
    ⟨some 65, .move (.tmp 7), 3, none⟩,
    ⟨some 66, .indexAddr 63 (.tmp 64) (.tmp 65), 0, none⟩,
    ⟨some 67, .load 3 (.tmp 66), 3, none⟩,
    ⟨some 68, .move (.tmp 0), 116, none⟩,
    ⟨some 69, .nilCheck (.tmp 68), 0, none⟩,
    ⟨some 70, .fieldAddr 84 (.tmp 69) 0, 0, none⟩,
    ⟨some 71, .load 63 (.tmp 70), 63, none⟩,
    ⟨some 72, .move (.tmp 6), 3, none⟩,
    ⟨some 73, .indexAddr 63 (.tmp 71) (.tmp 72), 0, none⟩,
    ⟨some 74, .load 3 (.tmp 73), 3, none⟩,
    ⟨some 75, .call { callee := (.value (.tmp 60)), args := #[(.tmp 67), (.tmp 74)], argTypes := #[3, 3] }, 4, none⟩]
@[go_sem] def c66_10 : Cmd := .ops [⟨some 76, .move (.tmp 7), 3, none⟩,
    ⟨some 6, .assign (.tmp 76), 3, none⟩]
@[go_sem] def c66_11 : Cmd := .cond (.tmp 75) c66_10 .skip
@[go_sem] def c66_12 : Cmd := .block 1 (.seq c66_9 c66_11)
@[go_sem] def c66_13 : Cmd := .ops [⟨some 55, .move (.tmp 7), 3, none⟩,
    ⟨some 56, .binOp .add 3 (.tmp 55) (.const (.int .i64 1)) 3, 3, none⟩,
    ⟨some 7, .assign (.tmp 56), 3, none⟩]
def c66_L0 : Cmd := (.seq (.seq c66_7 c66_8) (.seq c66_12 c66_13))
@[go_sem] def c66_14 : Cmd := .loop c66_L0
@[go_sem] def c66_15 : Cmd := .block 0 c66_14
@[go_sem] def c66_16 : Cmd := .ops [⟨some 77, .move (.tmp 6), 3, none⟩,
    ⟨some 78, .move (.tmp 5), 3, none⟩,
    ⟨some 79, .binOp .neq 3 (.tmp 77) (.tmp 78) 3, 4, none⟩]
@[go_sem] def c66_17 : Cmd := .draw (.step 3 ⟨some 80, .move (.tmp 0), 116, none⟩
    (.step 3 ⟨some 81, .nilCheck (.tmp 80), 0, none⟩
    (.step 3 ⟨some 82, .fieldAddr 84 (.tmp 81) 0, 0, none⟩
    (.step 0 ⟨some 83, .load 63 (.tmp 82), 63, none⟩
    (.step 3 ⟨some 84, .move (.tmp 5), 3, none⟩
    (.step 3 ⟨some 85, .move (.tmp 0), 116, none⟩
    (.step 3 ⟨some 86, .nilCheck (.tmp 85), 0, none⟩
    (.step 3 ⟨some 87, .fieldAddr 84 (.tmp 86) 0, 0, none⟩
    (.step 0 ⟨some 88, .load 63 (.tmp 87), 63, none⟩
    (.step 3 ⟨some 89, .move (.tmp 6), 3, none⟩
    (.step 3 ⟨some 90, .move (.tmp 0), 116, none⟩
    (.step 3 ⟨some 91, .nilCheck (.tmp 90), 0, none⟩
    (.step 3 ⟨some 92, .fieldAddr 84 (.tmp 91) 0, 0, none⟩
    (.step 0 ⟨some 93, .load 63 (.tmp 92), 63, none⟩
    (.step 3 ⟨some 94, .move (.tmp 6), 3, none⟩
    (.step 3 ⟨some 95, .indexAddr 63 (.tmp 93) (.tmp 94), 0, none⟩
    (.step 0 ⟨some 96, .load 3 (.tmp 95), 3, none⟩
    (.step 3 ⟨some 97, .move (.tmp 0), 116, none⟩
    (.step 3 ⟨some 98, .nilCheck (.tmp 97), 0, none⟩
    (.step 3 ⟨some 99, .fieldAddr 84 (.tmp 98) 0, 0, none⟩
    (.step 0 ⟨some 100, .load 63 (.tmp 99), 63, none⟩
    (.step 3 ⟨some 101, .move (.tmp 5), 3, none⟩
    (.step 3 ⟨some 102, .indexAddr 63 (.tmp 100) (.tmp 101), 0, none⟩
    (.step 0 ⟨some 103, .load 3 (.tmp 102), 3, none⟩
    (.step 3 ⟨some 104, .indexAddr 63 (.tmp 83) (.tmp 84), 0, none⟩
    (.step 2 ⟨none, .store 3 (.tmp 104) (.tmp 96), 0, none⟩
    (.step 3 ⟨some 105, .indexAddr 63 (.tmp 88) (.tmp 89), 0, none⟩
    (.step 2 ⟨none, .store 3 (.tmp 105) (.tmp 103), 0, none⟩
    .done))))))))))))))))))))))))))))
@[go_sem] def c66_18 : Cmd := .ops [⟨some 106, .move (.tmp 6), 3, none⟩,
    ⟨some 5, .assign (.tmp 106), 3, none⟩]
@[go_sem] def c66_19 : Cmd := .cond (.tmp 79) (.seq c66_17 (.seq c66_18 (.goto 0))) .skip
@[go_sem] def c66_20 : Cmd := .ops [⟨some 107, .move (.tmp 3), 3, none⟩,
    ⟨some 2, .assign (.tmp 107), 3, none⟩]
def c66_L1 : Cmd := (.seq c66_1 (.seq c66_2 (.seq c66_3 (.seq c66_4 (.seq (.label 0) (.seq c66_5 (.seq (.seq c66_6 c66_15) (.seq (.seq c66_16 c66_19) (.seq c66_20 .ret)))))))))
@[go_sem] def c66_21 : Cmd := .scope c66_L1
@[go_sem] def c66 : Cmd := (.seq c66_0 c66_21)
theorem b66 : Try.f66.body.map (comp 108) = some c66 := by kernel_rfl
theorem r66 : Try.f66.results.toList = [.tmp 2] := by kernel_rfl
-- 67 cmp.Or[int]
@[go_sem] def c67_0 : Cmd := .ops [⟨some 2, .assign (.const (.int .i64 0)), 3, none⟩]
@[go_sem] def c67_1 : Cmd := .ops [⟨some 3, .assign (.const (.int .i64 0)), 3, none⟩]
@[go_sem] def c67_2 : Cmd := .ops [⟨some 6, .move (.tmp 0), 63, none⟩,
    ⟨some 7, .call { callee := (.builtin .len), args := #[(.tmp 6)], argTypes := #[63] }, 3, none⟩,
    ⟨some 8, .move (.const (.int .i64 0)), 3, none⟩]
@[go_sem] def c67_3 : Cmd := .ops [⟨some 9, .binOp .lss 3 (.tmp 8) (.tmp 7) 3, 0, none⟩]
@[go_sem] def c67_4 : Cmd := .cond (.tmp 9) .skip (.exit 0)
@[go_sem] def c67_5 : Cmd := .ops [⟨some 10, .indexAddr 63 (.tmp 6) (.tmp 8), 0, none⟩,
    ⟨some 11, .load 3 (.tmp 10), 3, none⟩,
    ⟨some 5, .assign (.tmp 11), 3, none⟩]
@[go_sem] def c67_6 : Cmd := .ops [⟨some 12, .move (.tmp 5), 3, none⟩,
    ⟨some 13, .move (.tmp 3), 3, none⟩,
    ⟨some 14, .binOp .neq 3 (.tmp 12) (.tmp 13) 3, 4, none⟩]
@[go_sem] def c67_7 : Cmd := .ops [⟨some 15, .move (.tmp 5), 3, none⟩,
    ⟨some 2, .assign (.tmp 15), 3, none⟩]
@[go_sem] def c67_8 : Cmd := .cond (.tmp 14) (.seq c67_7 .ret) .skip
@[go_sem] def c67_9 : Cmd := .block 1 (.seq c67_5 (.seq c67_6 c67_8))
@[go_sem] def c67_10 : Cmd := .ops [⟨some 16, .binOp .add 3 (.tmp 8) (.const (.int .i64 1)) 3, 3, none⟩,
    ⟨some 8, .move (.tmp 16), 3, none⟩]
def c67_L0 : Cmd := (.seq c67_3 (.seq c67_4 (.seq c67_9 c67_10)))
@[go_sem] def c67_11 : Cmd := .loop c67_L0
@[go_sem] def c67_12 : Cmd := .block 0 c67_11
@[go_sem] def c67_13 : Cmd := .ops [⟨some 17, .move (.tmp 3), 3, none⟩,
    ⟨some 2, .assign (.tmp 17), 3, none⟩]
@[go_sem] def c67 : Cmd := (.seq c67_0 (.seq c67_1 (.seq (.seq c67_2 c67_12) (.seq c67_13 .ret))))
theorem b67 : Try.f67.body.map (comp 18) = some c67 := by kernel_rfl
theorem r67 : Try.f67.results.toList = [.tmp 2] := by kernel_rfl
-- 68 cmp.Compare[int]
@[go_sem] def c68_0 : Cmd := .ops [⟨some 4, .assign (.const (.int .i64 0)), 3, none⟩]
@[go_sem] def c68_1 : Cmd := .ops [⟨some 7, .move (.tmp 0), 3, none⟩,
    ⟨some 8, .call { callee := (.value (.func 78)), args := #[(.tmp 7)], argTypes := #[3] }, 4, none⟩,
    ⟨some 5, .assign (.tmp 8), 4, none⟩]
@[go_sem] def c68_2 : Cmd := .ops [⟨some 9, .move (.tmp 1), 3, none⟩,
    ⟨some 10, .call { callee := (.value (.func 78)), args := #[(.tmp 9)], argTypes := #[3] }, 4, none⟩,
    ⟨some 6, .assign (.tmp 10), 4, none⟩]
@[go_sem] def c68_3 : Cmd := .ops [⟨some 11, .move (.tmp 5), 4, none⟩]
@[go_sem] def c68_4 : Cmd := .ops [⟨some 12, .move (.tmp 6), 4, none⟩]
@[go_sem] def c68_5 : Cmd := .ops [⟨some 4, .assign (.const (.int .i64 0)), 3, none⟩]
@[go_sem] def c68_6 : Cmd := .cond (.tmp 12) (.seq c68_5 .ret) .skip
@[go_sem] def c68_7 : Cmd := .ops [⟨some 4, .assign (.const (.int .i64 (-1))), 3, none⟩]
@[go_sem] def c68_8 : Cmd := .cond (.tmp 11) (.seq (.seq c68_4 c68_6) (.seq c68_7 .ret)) .skip
@[go_sem] def c68_9 : Cmd := .ops [⟨some 13, .move (.tmp 6), 4, none⟩]
@[go_sem] def c68_10 : Cmd := .ops [⟨some 4, .assign (.const (.int .i64 1)), 3, none⟩]
@[go_sem] def c68_11 : Cmd := .cond (.tmp 13) (.seq c68_10 .ret) .skip
@[go_sem] def c68_12 : Cmd := .ops [⟨some 14, .move (.tmp 0), 3, none⟩,
    ⟨some 15, .move (.tmp 1), 3, none⟩,
    ⟨some 16, .binOp .lss 3 (.tmp 14) (.tmp 15) 3, 4, none⟩]
@[go_sem] def c68_13 : Cmd := .ops [⟨some 4, .assign (.const (.int .i64 (-1))), 3, none⟩]
@[go_sem] def c68_14 : Cmd := .cond (.tmp 16) (.seq c68_13 .ret) .skip
@[go_sem] def c68_15 : Cmd := .ops [⟨some 17, .move (.tmp 0), 3, none⟩,
    ⟨some 18, .move (.tmp 1), 3, none⟩,
    ⟨some 19, .binOp .gtr 3 (.tmp 17) (.tmp 18) 3, 4, none⟩]
@[go_sem] def c68_16 : Cmd := .ops [⟨some 4, .assign (.const (.int .i64 1)), 3, none⟩]
@[go_sem] def c68_17 : Cmd := .cond (.tmp 19) (.seq c68_16 .ret) .skip
@[go_sem] def c68_18 : Cmd := .ops [⟨some 4, .assign (.const (.int .i64 0)), 3, none⟩]
@[go_sem] def c68 : Cmd := (.seq c68_0 (.seq c68_1 (.seq c68_2 (.seq (.seq c68_3 c68_8) (.seq (.seq c68_9 c68_11) (.seq (.seq c68_12 c68_14) (.seq (.seq c68_15 c68_17) (.seq c68_18 .ret))))))))
theorem b68 : Try.f68.body.map (comp 20) = some c68 := by kernel_rfl
theorem r68 : Try.f68.results.toList = [.tmp 4] := by kernel_rfl
-- 71 pith/pithref11.same
@[go_sem] def c71_0 : Cmd := .ops [⟨some 2, .box 24 (.tmp 0), 0, none⟩,
    ⟨some 3, .box 24 (.tmp 1), 0, none⟩,
    ⟨some 4, .assign (.const (.bool false)), 4, none⟩]
@[go_sem] def c71_1 : Cmd := .ops [⟨some 5, .fieldAddr 24 (.tmp 2) 0, 0, none⟩,
    ⟨some 6, .load 3 (.tmp 5), 3, none⟩,
    ⟨some 7, .fieldAddr 24 (.tmp 3) 0, 0, none⟩,
    ⟨some 8, .load 3 (.tmp 7), 3, none⟩,
    ⟨some 9, .binOp .eql 3 (.tmp 6) (.tmp 8) 3, 4, none⟩,
    ⟨some 10, .move (.tmp 9), 4, none⟩,
    ⟨some 11, .fieldAddr 24 (.tmp 2) 1, 0, some (10, true)⟩,
    ⟨some 12, .load 3 (.tmp 11), 3, some (10, true)⟩,
    ⟨some 13, .fieldAddr 24 (.tmp 3) 1, 0, some (10, true)⟩,
    ⟨some 14, .load 3 (.tmp 13), 3, some (10, true)⟩,
    ⟨some 15, .binOp .eql 3 (.tmp 12) (.tmp 14) 3, 4, some (10, true)⟩,
    ⟨some 16, .pick (.tmp 10) (.tmp 15) (.const (.bool false)), 4, none⟩,
    ⟨some 4, .assign (.tmp 16), 4, none⟩]
@[go_sem] def c71 : Cmd := (.seq c71_0 (.seq c71_1 .ret))
theorem b71 : Try.f71.body.map (comp 17) = some c71 := by kernel_rfl
theorem r71 : Try.f71.results.toList = [.tmp 4] := by kernel_rfl
-- 72 pith/varint.put
@[go_sem] def c72_0 : Cmd := .ops [⟨some 4, .assign (.const (.slice none 0 0)), 30, none⟩]
@[go_sem] def c72_1 : Cmd := .ops [⟨some 7, .move (.tmp 1), 3, none⟩,
    ⟨some 8, .call { callee := (.builtin .max), args := #[(.tmp 7), (.const (.int .i64 0))], argTypes := #[3, 3] }, 3, none⟩,
    ⟨some 1, .assign (.tmp 8), 3, none⟩]
@[go_sem] def c72_2 : Cmd := .ops [⟨some 9, .move (.tmp 1), 3, none⟩,
    ⟨some 10, .call { callee := (.value (.func 89)), args := #[(.tmp 9)], argTypes := #[3] }, 3, none⟩,
    ⟨some 11, .binOp .sub 3 (.tmp 10) (.const (.int .i64 1)) 3, 3, none⟩,
    ⟨some 5, .assign (.tmp 11), 3, none⟩]
@[go_sem] def c72_3 : Cmd := .ops [⟨some 12, .move (.tmp 5), 3, none⟩,
    ⟨some 13, .binOp .geq 3 (.tmp 12) (.const (.int .i64 0)) 3, 4, none⟩]
@[go_sem] def c72_4 : Cmd := .cond (.tmp 13) .skip (.exit 0)
@[go_sem] def c72_5 : Cmd := .ops [⟨some 16, .move (.tmp 1), 3, none⟩,
    ⟨some 17, .move (.tmp 5), 3, none⟩,
    ⟨some 18, .binOp .mul 3 (.const (.int .i64 7)) (.tmp 17) 3, 3, none⟩,
    ⟨some 19, .binOp .shr 3 (.tmp 16) (.tmp 18) 3, 3, none⟩,
    ⟨some 20, .convert 3 5 (.tmp 19), 5, none⟩,
    ⟨some 21, .binOp .and 5 (.tmp 20) (.const (.int .u8 127)) 5, 5, none⟩,
    ⟨some 6, .assign (.tmp 21), 5, none⟩]
@[go_sem] def c72_6 : Cmd := .ops [⟨some 22, .move (.tmp 5), 3, none⟩,
    ⟨some 23, .binOp .gtr 3 (.tmp 22) (.const (.int .i64 0)) 3, 4, none⟩]
@[go_sem] def c72_7 : Cmd := .ops [⟨some 24, .move (.tmp 6), 5, none⟩,
    ⟨some 25, .binOp .or 5 (.tmp 24) (.const (.int .u8 128)) 5, 5, none⟩,
    ⟨some 6, .assign (.tmp 25), 5, none⟩]
@[go_sem] def c72_8 : Cmd := .cond (.tmp 23) c72_7 .skip
@[go_sem] def c72_9 : Cmd := .ops [⟨some 26, .move (.tmp 0), 30, none⟩,
    ⟨some 27, .move (.tmp 6), 5, none⟩,
    ⟨some 28, .buildSlice 30 1 #[(0, (.tmp 27))], 30, none⟩,
    ⟨some 29, .call { callee := (.builtin .append), args := #[(.tmp 26), (.tmp 28)], argTypes := #[30, 30] }, 30, none⟩,
    ⟨some 0, .assign (.tmp 29), 30, none⟩]
@[go_sem] def c72_10 : Cmd := .block 1 (.seq c72_5 (.seq (.seq c72_6 c72_8) c72_9))
@[go_sem] def c72_11 : Cmd := .ops [⟨some 14, .move (.tmp 5), 3, none⟩,
    ⟨some 15, .binOp .sub 3 (.tmp 14) (.const (.int .i64 1)) 3, 3, none⟩,
    ⟨some 5, .assign (.tmp 15), 3, none⟩]
def c72_L0 : Cmd := (.seq (.seq c72_3 c72_4) (.seq c72_10 c72_11))
@[go_sem] def c72_12 : Cmd := .loop c72_L0
@[go_sem] def c72_13 : Cmd := .block 0 c72_12
@[go_sem] def c72_14 : Cmd := .ops [⟨some 30, .move (.tmp 0), 30, none⟩,
    ⟨some 4, .assign (.tmp 30), 30, none⟩]
@[go_sem] def c72 : Cmd := (.seq c72_0 (.seq c72_1 (.seq (.seq c72_2 c72_13) (.seq c72_14 .ret))))
theorem b72 : Try.f72.body.map (comp 31) = some c72 := by kernel_rfl
theorem r72 : Try.f72.results.toList = [.tmp 4] := by kernel_rfl
-- 73 pith/varint.grown
@[go_sem] def c73_0 : Cmd := .ops [⟨some 4, .assign (.const (.slice none 0 0)), 30, none⟩]
@[go_sem] def c73_1 : Cmd := .ops [⟨some 6, .move (.tmp 0), 30, none⟩,
    ⟨some 7, .call { callee := (.builtin .len), args := #[(.tmp 6)], argTypes := #[30] }, 3, none⟩,
    ⟨some 8, .move (.tmp 0), 30, none⟩,
    ⟨some 9, .call { callee := (.builtin .len), args := #[(.tmp 8)], argTypes := #[30] }, 3, none⟩,
    ⟨some 10, .move (.tmp 1), 3, none⟩,
    ⟨some 11, .binOp .add 3 (.tmp 9) (.tmp 10) 3, 3, none⟩,
    ⟨some 12, .makeSlice 30 (.tmp 7) (.tmp 11), 30, none⟩,
    ⟨some 5, .assign (.tmp 12), 30, none⟩]
@[go_sem] def c73_2 : Cmd := .ops [⟨some 13, .move (.tmp 5), 30, none⟩,
    ⟨some 14, .move (.tmp 0), 30, none⟩,
    ⟨some 15, .call { callee := (.builtin .copy), args := #[(.tmp 13), (.tmp 14)], argTypes := #[30, 30] }, 3, none⟩]
@[go_sem] def c73_3 : Cmd := .ops [⟨some 16, .move (.tmp 5), 30, none⟩,
    ⟨some 4, .assign (.tmp 16), 30, none⟩]
@[go_sem] def c73 : Cmd := (.seq c73_0 (.seq c73_1 (.seq c73_2 (.seq c73_3 .ret))))
theorem b73 : Try.f73.body.map (comp 17) = some c73 := by kernel_rfl
theorem r73 : Try.f73.results.toList = [.tmp 4] := by kernel_rfl
-- 74 pith/pithref1.Len
@[go_sem] def c74_0 : Cmd := .ops [⟨some 2, .assign (.const (.int .i64 0)), 3, none⟩]
@[go_sem] def c74_1 : Cmd := .ops [⟨some 3, .assign (.const (.int .i64 1)), 3, none⟩]
@[go_sem] def c74_2 : Cmd := .ops [⟨some 4, .move (.tmp 0), 3, none⟩,
    ⟨some 5, .binOp .geq 3 (.tmp 4) (.const (.int .i64 128)) 3, 4, none⟩]
@[go_sem] def c74_3 : Cmd := .cond (.tmp 5) .skip (.exit 0)
@[go_sem] def c74_4 : Cmd := .ops [⟨some 6, .move (.tmp 0), 3, none⟩,
    ⟨some 7, .binOp .quo 3 (.tmp 6) (.const (.int .i64 128)) 3, 3, none⟩,
    ⟨some 0, .assign (.tmp 7), 3, none⟩]
@[go_sem] def c74_5 : Cmd := .ops [⟨some 8, .move (.tmp 3), 3, none⟩,
    ⟨some 9, .binOp .add 3 (.tmp 8) (.const (.int .i64 1)) 3, 3, none⟩,
    ⟨some 3, .assign (.tmp 9), 3, none⟩]
@[go_sem] def c74_6 : Cmd := .block 1 (.seq c74_4 c74_5)
def c74_L0 : Cmd := (.seq (.seq c74_2 c74_3) c74_6)
@[go_sem] def c74_7 : Cmd := .loop c74_L0
@[go_sem] def c74_8 : Cmd := .block 0 c74_7
@[go_sem] def c74_9 : Cmd := .ops [⟨some 10, .move (.tmp 3), 3, none⟩,
    ⟨some 2, .assign (.tmp 10), 3, none⟩]
@[go_sem] def c74 : Cmd := (.seq c74_0 (.seq c74_1 (.seq c74_8 (.seq c74_9 .ret))))
theorem b74 : Try.f74.body.map (comp 11) = some c74 := by kernel_rfl
theorem r74 : Try.f74.results.toList = [.tmp 2] := by kernel_rfl
-- 75 pith/pithref1.New
@[go_sem] def c75_0 : Cmd := .ops [⟨some 2, .assign (.const (.pointer none)), 107, none⟩]
@[go_sem] def c75_1 : Cmd := .ops [⟨some 3, .move (.tmp 0), 30, none⟩,
    ⟨some 4, .call { callee := (.value (.func 25)), args := #[(.tmp 3)], argTypes := #[30] }, 30, none⟩,
    ⟨some 5, .build 130 #[(0, (.tmp 4))], 130, none⟩,
    ⟨some 6, .box 130 (.tmp 5), 107, none⟩,
    ⟨some 2, .assign (.tmp 6), 107, none⟩]
@[go_sem] def c75 : Cmd := (.seq c75_0 (.seq c75_1 .ret))
theorem b75 : Try.f75.body.map (comp 7) = some c75 := by kernel_rfl
theorem r75 : Try.f75.results.toList = [.tmp 2] := by kernel_rfl
-- 76 (*pith/pithref1.Reader).Int
@[go_sem] def c76_0 : Cmd := .ops [⟨some 2, .assign (.const (.int .i64 0)), 3, none⟩]
@[go_sem] def c76_1 : Cmd := .ops [⟨some 6, .move (.tmp 0), 107, none⟩,
    ⟨some 7, .nilCheck (.tmp 6), 0, none⟩,
    ⟨some 8, .fieldAddr 130 (.tmp 7) 2, 0, none⟩,
    ⟨some 9, .load 3 (.tmp 8), 3, none⟩,
    ⟨some 10, .binOp .neq 3 (.tmp 9) (.const (.int .i64 0)) 3, 4, none⟩]
@[go_sem] def c76_2 : Cmd := .ops [⟨some 2, .assign (.const (.int .i64 0)), 3, none⟩]
@[go_sem] def c76_3 : Cmd := .cond (.tmp 10) (.seq c76_2 .ret) .skip
@[go_sem] def c76_4 : Cmd := .ops [⟨some 12, .move (.tmp 0), 107, none⟩,
    ⟨some 13, .move (.tmp 0), 107, none⟩,
    ⟨some 14, .nilCheck (.tmp 13), 0, none⟩,
    ⟨some 15, .fieldAddr 130 (.tmp 14) 1, 0, none⟩,
    ⟨some 16, .load 3 (.tmp 15), 3, none⟩,
    ⟨some 17, .call { callee := (.value (.func 90)), args := #[(.tmp 12), (.tmp 16)], argTypes := #[107, 3] }, 131, none⟩,
    ⟨some 11, .move (.tmp 17), 131, none⟩,
    ⟨some 18, .extract (.tmp 11) 0, 3, none⟩,
    ⟨some 19, .extract (.tmp 11) 1, 3, none⟩,
    ⟨some 20, .extract (.tmp 11) 2, 3, none⟩,
    ⟨some 3, .assign (.tmp 18), 3, none⟩,
    ⟨some 4, .assign (.tmp 19), 3, none⟩,
    ⟨some 5, .assign (.tmp 20), 3, none⟩]
@[go_sem] def c76_5 : Cmd := .ops [⟨some 21, .move (.tmp 0), 107, none⟩,
    ⟨some 22, .move (.tmp 5), 3, none⟩,
    ⟨some 23, .nilCheck (.tmp 21), 0, none⟩,
    ⟨some 24, .fieldAddr 130 (.tmp 23) 2, 0, none⟩,
    ⟨none, .store 3 (.tmp 24) (.tmp 22), 0, none⟩]
@[go_sem] def c76_6 : Cmd := .ops [⟨some 25, .move (.tmp 0), 107, none⟩,
    ⟨some 26, .move (.tmp 4), 3, none⟩,
    ⟨some 27, .nilCheck (.tmp 25), 0, none⟩,
    ⟨some 28, .fieldAddr 130 (.tmp 27) 1, 0, none⟩,
    ⟨none, .store 3 (.tmp 28) (.tmp 26), 0, none⟩]
@[go_sem] def c76_7 : Cmd := .ops [⟨some 29, .move (.tmp 3), 3, none⟩,
    ⟨some 2, .assign (.tmp 29), 3, none⟩]
@[go_sem] def c76 : Cmd := (.seq c76_0 (.seq (.seq c76_1 c76_3) (.seq c76_4 (.seq c76_5 (.seq c76_6 (.seq c76_7 .ret))))))
theorem b76 : Try.f76.body.map (comp 30) = some c76 := by kernel_rfl
theorem r76 : Try.f76.results.toList = [.tmp 2] := by kernel_rfl
-- 77 pith/varint.form
@[go_sem] def c77_0 : Cmd := .ops [⟨some 2, .assign (.const (.int .i64 0)), 3, none⟩,
    ⟨some 3, .assign (.const (.int .i64 0)), 3, none⟩,
    ⟨some 4, .assign (.const (.int .i64 0)), 31, none⟩]
@[go_sem] def c77_1 : Cmd := .ops [⟨some 8, .move (.tmp 0), 30, none⟩,
    ⟨some 9, .call { callee := (.builtin .len), args := #[(.tmp 8)], argTypes := #[30] }, 3, none⟩,
    ⟨some 10, .binOp .gtr 3 (.tmp 9) (.const (.int .i64 0)) 3, 4, none⟩,
    ⟨some 11, .move (.tmp 10), 4, none⟩,
    ⟨some 12, .move (.tmp 0), 30, some (11, true)⟩,
    ⟨some 13, .indexAddr 30 (.tmp 12) (.const (.int .i64 0)), 0, some (11, true)⟩,
    ⟨some 14, .load 5 (.tmp 13), 5, some (11, true)⟩,
    ⟨some 15, .binOp .eql 5 (.tmp 14) (.const (.int .u8 128)) 5, 4, some (11, true)⟩,
    ⟨some 16, .pick (.tmp 11) (.tmp 15) (.const (.bool false)), 4, none⟩]
@[go_sem] def c77_2 : Cmd := .ops [⟨some 2, .assign (.const (.int .i64 0)), 3, none⟩,
    ⟨some 3, .assign (.const (.int .i64 0)), 3, none⟩,
    ⟨some 4, .assign (.const (.int .i64 11)), 31, none⟩]
@[go_sem] def c77_3 : Cmd := .cond (.tmp 16) (.seq c77_2 .ret) .skip
@[go_sem] def c77_4 : Cmd := .ops [⟨some 5, .assign (.const (.int .i64 0)), 3, none⟩]
@[go_sem] def c77_5 : Cmd := .ops [⟨some 17, .move (.tmp 0), 30, none⟩,
    ⟨some 18, .move (.tmp 0), 30, none⟩,
    ⟨some 19, .call { callee := (.builtin .len), args := #[(.tmp 18)], argTypes := #[30] }, 3, none⟩,
    ⟨some 20, .call { callee := (.builtin .min), args := #[(.tmp 19), (.const (.int .i64 9))], argTypes := #[3, 3] }, 3, none⟩,
    ⟨some 21, .move (.tmp 0), 30, none⟩,
    ⟨some 22, .call { callee := (.builtin .len), args := #[(.tmp 21)], argTypes := #[30] }, 3, none⟩,
    ⟨some 23, .call { callee := (.builtin .min), args := #[(.tmp 22), (.const (.int .i64 9))], argTypes := #[3, 3] }, 3, none⟩,
    ⟨some 24, .slice 30 (.tmp 17) none (some (.tmp 20)) (some (.tmp 23)), 30, none⟩,
    ⟨some 25, .call { callee := (.builtin .len), args := #[(.tmp 24)], argTypes := #[30] }, 3, none⟩,
    ⟨some 26, .move (.const (.int .i64 0)), 3, none⟩]
@[go_sem] def c77_6 : Cmd := .ops [⟨some 27, .binOp .lss 3 (.tmp 26) (.tmp 25) 3, 0, none⟩]
@[go_sem] def c77_7 : Cmd := .cond (.tmp 27) .skip (.exit 0)
@[go_sem] def c77_8 : Cmd := .ops [⟨some 28, .move (.tmp 26), 3, none⟩,
    ⟨some 29, .indexAddr 30 (.tmp 24) (.tmp 26), 0, none⟩,
    ⟨some 30, .load 5 (.tmp 29), 5, none⟩,
    ⟨some 6, .assign (.tmp 28), 3, none⟩,
    ⟨some 7, .assign (.tmp 30), 5, none⟩]
@[go_sem] def c77_9 : Cmd := .ops [⟨some 31, .move (.tmp 5), 3, none⟩,
    ⟨some 32, .binOp .shl 3 (.tmp 31) (.const (.int .u64 7)) 105, 3, none⟩,
    ⟨some 33, .move (.tmp 7), 5, none⟩,
    ⟨some 34, .binOp .and 5 (.tmp 33) (.const (.int .u8 127)) 5, 5, none⟩,
    ⟨some 35, .convert 5 3 (.tmp 34), 3, none⟩,
    ⟨some 36, .binOp .or 3 (.tmp 32) (.tmp 35) 3, 3, none⟩,
    ⟨some 5, .assign (.tmp 36), 3, none⟩]
@[go_sem] def c77_10 : Cmd := .ops [⟨some 37, .move (.tmp 7), 5, none⟩,
    ⟨some 38, .binOp .lss 5 (.tmp 37) (.const (.int .u8 128)) 5, 4, none⟩]
@[go_sem] def c77_11 : Cmd := .ops [⟨some 39, .move (.tmp 5), 3, none⟩,
    ⟨some 40, .move (.tmp 6), 3, none⟩,
    ⟨some 41, .binOp .add 3 (.tmp 40) (.const (.int .i64 1)) 3, 3, none⟩,
    ⟨some 2, .assign (.tmp 39), 3, none⟩,
    ⟨some 3, .assign (.tmp 41), 3, none⟩,
    ⟨some 4, .assign (.const (.int .i64 0)), 31, none⟩]
@[go_sem] def c77_12 : Cmd := .cond (.tmp 38) (.seq c77_11 .ret) .skip
@[go_sem] def c77_13 : Cmd := .block 1 (.seq c77_8 (.seq c77_9 (.seq c77_10 c77_12)))
@[go_sem] def c77_14 : Cmd := .ops [⟨some 42, .binOp .add 3 (.tmp 26) (.const (.int .i64 1)) 3, 3, none⟩,
    ⟨some 26, .move (.tmp 42), 3, none⟩]
def c77_L0 : Cmd := (.seq c77_6 (.seq c77_7 (.seq c77_13 c77_14)))
@[go_sem] def c77_15 : Cmd := .loop c77_L0
@[go_sem] def c77_16 : Cmd := .block 0 c77_15
@[go_sem] def c77_17 : Cmd := .ops [⟨some 43, .move (.tmp 0), 30, none⟩,
    ⟨some 44, .call { callee := (.builtin .len), args := #[(.tmp 43)], argTypes := #[30] }, 3, none⟩,
    ⟨some 45, .binOp .geq 3 (.tmp 44) (.const (.int .i64 9)) 3, 4, none⟩]
@[go_sem] def c77_18 : Cmd := .ops [⟨some 2, .assign (.const (.int .i64 0)), 3, none⟩,
    ⟨some 3, .assign (.const (.int .i64 0)), 3, none⟩,
    ⟨some 4, .assign (.const (.int .i64 12)), 31, none⟩]
@[go_sem] def c77_19 : Cmd := .cond (.tmp 45) (.seq c77_18 .ret) .skip
@[go_sem] def c77_20 : Cmd := .ops [⟨some 2, .assign (.const (.int .i64 0)), 3, none⟩,
    ⟨some 3, .assign (.const (.int .i64 0)), 3, none⟩,
    ⟨some 4, .assign (.const (.int .i64 10)), 31, none⟩]
@[go_sem] def c77 : Cmd := (.seq c77_0 (.seq (.seq c77_1 c77_3) (.seq c77_4 (.seq (.seq c77_5 c77_16) (.seq (.seq c77_17 c77_19) (.seq c77_20 .ret))))))
theorem b77 : Try.f77.body.map (comp 46) = some c77 := by kernel_rfl
theorem r77 : Try.f77.results.toList = [.tmp 2, .tmp 3, .tmp 4] := by kernel_rfl
-- 78 cmp.isNaN[int]
@[go_sem] def c78_0 : Cmd := .ops [⟨some 2, .assign (.const (.bool false)), 4, none⟩]
@[go_sem] def c78_1 : Cmd := .ops [⟨some 3, .move (.tmp 0), 3, none⟩,
    ⟨some 4, .move (.tmp 0), 3, none⟩,
    ⟨some 5, .binOp .neq 3 (.tmp 3) (.tmp 4) 3, 4, none⟩,
    ⟨some 2, .assign (.tmp 5), 4, none⟩]
@[go_sem] def c78 : Cmd := (.seq c78_0 (.seq c78_1 .ret))
theorem b78 : Try.f78.body.map (comp 6) = some c78 := by kernel_rfl
theorem r78 : Try.f78.results.toList = [.tmp 2] := by kernel_rfl
-- 89 pith/varint.Len
@[go_sem] def c89_0 : Cmd := .ops [⟨some 2, .assign (.const (.int .i64 0)), 3, none⟩]
@[go_sem] def c89_1 : Cmd := .ops [⟨some 3, .assign (.const (.int .i64 1)), 3, none⟩]
@[go_sem] def c89_2 : Cmd := .ops [⟨some 4, .move (.tmp 0), 3, none⟩,
    ⟨some 5, .binOp .geq 3 (.tmp 4) (.const (.int .i64 128)) 3, 4, none⟩]
@[go_sem] def c89_3 : Cmd := .cond (.tmp 5) .skip (.exit 0)
@[go_sem] def c89_4 : Cmd := .ops [⟨some 6, .move (.tmp 0), 3, none⟩,
    ⟨some 7, .binOp .shr 3 (.tmp 6) (.const (.int .u64 7)) 105, 3, none⟩,
    ⟨some 0, .assign (.tmp 7), 3, none⟩]
@[go_sem] def c89_5 : Cmd := .ops [⟨some 8, .move (.tmp 3), 3, none⟩,
    ⟨some 9, .binOp .add 3 (.tmp 8) (.const (.int .i64 1)) 3, 3, none⟩,
    ⟨some 3, .assign (.tmp 9), 3, none⟩]
@[go_sem] def c89_6 : Cmd := .block 1 (.seq c89_4 c89_5)
def c89_L0 : Cmd := (.seq (.seq c89_2 c89_3) c89_6)
@[go_sem] def c89_7 : Cmd := .loop c89_L0
@[go_sem] def c89_8 : Cmd := .block 0 c89_7
@[go_sem] def c89_9 : Cmd := .ops [⟨some 10, .move (.tmp 3), 3, none⟩,
    ⟨some 2, .assign (.tmp 10), 3, none⟩]
@[go_sem] def c89 : Cmd := (.seq c89_0 (.seq c89_1 (.seq c89_8 (.seq c89_9 .ret))))
theorem b89 : Try.f89.body.map (comp 11) = some c89 := by kernel_rfl
theorem r89 : Try.f89.results.toList = [.tmp 2] := by kernel_rfl
-- 90 (*pith/pithref1.Reader).number
@[go_sem] def c90_0 : Cmd := .ops [⟨some 4, .assign (.const (.int .i64 0)), 3, none⟩,
    ⟨some 5, .assign (.const (.int .i64 0)), 3, none⟩,
    ⟨some 6, .assign (.const (.int .i64 0)), 3, none⟩]
@[go_sem] def c90_1 : Cmd := .ops [⟨some 10, .move (.tmp 1), 3, none⟩,
    ⟨some 11, .move (.tmp 0), 107, none⟩,
    ⟨some 12, .nilCheck (.tmp 11), 0, none⟩,
    ⟨some 13, .fieldAddr 130 (.tmp 12) 0, 0, none⟩,
    ⟨some 14, .load 30 (.tmp 13), 30, none⟩,
    ⟨some 15, .call { callee := (.builtin .len), args := #[(.tmp 14)], argTypes := #[30] }, 3, none⟩,
    ⟨some 16, .binOp .lss 3 (.tmp 10) (.tmp 15) 3, 4, none⟩,
    ⟨some 17, .move (.tmp 16), 4, none⟩,
    ⟨some 18, .move (.tmp 0), 107, some (17, true)⟩,
    ⟨some 19, .nilCheck (.tmp 18), 0, some (17, true)⟩,
    ⟨some 20, .fieldAddr 130 (.tmp 19) 0, 0, some (17, true)⟩,
    ⟨some 21, .load 30 (.tmp 20), 30, some (17, true)⟩,
    ⟨some 22, .move (.tmp 1), 3, some (17, true)⟩,
    ⟨some 23, .indexAddr 30 (.tmp 21) (.tmp 22), 0, some (17, true)⟩,
    ⟨some 24, .load 5 (.tmp 23), 5, some (17, true)⟩,
    ⟨some 25, .binOp .eql 5 (.tmp 24) (.const (.int .u8 128)) 5, 4, some (17, true)⟩,
    ⟨some 26, .pick (.tmp 17) (.tmp 25) (.const (.bool false)), 4, none⟩]
@[go_sem] def c90_2 : Cmd := .ops [⟨some 27, .move (.tmp 1), 3, none⟩,
    ⟨some 4, .assign (.const (.int .i64 0)), 3, none⟩,
    ⟨some 5, .assign (.tmp 27), 3, none⟩,
    ⟨some 6, .assign (.const (.int .i64 11)), 3, none⟩]
@[go_sem] def c90_3 : Cmd := .cond (.tmp 26) (.seq c90_2 .ret) .skip
@[go_sem] def c90_4 : Cmd := .ops [⟨some 7, .assign (.const (.int .i64 0)), 3, none⟩]
@[go_sem] def c90_5 : Cmd := .ops [⟨some 28, .move (.tmp 7), 3, none⟩,
    ⟨some 29, .binOp .lss 3 (.tmp 28) (.const (.int .i64 9)) 3, 4, none⟩,
    ⟨some 30, .move (.tmp 29), 4, none⟩,
    ⟨some 31, .move (.tmp 1), 3, some (30, true)⟩,
    ⟨some 32, .move (.tmp 7), 3, some (30, true)⟩,
    ⟨some 33, .binOp .add 3 (.tmp 31) (.tmp 32) 3, 3, some (30, true)⟩,
    ⟨some 34, .move (.tmp 0), 107, some (30, true)⟩,
    ⟨some 35, .nilCheck (.tmp 34), 0, some (30, true)⟩,
    ⟨some 36, .fieldAddr 130 (.tmp 35) 0, 0, some (30, true)⟩,
    ⟨some 37, .load 30 (.tmp 36), 30, some (30, true)⟩,
    ⟨some 38, .call { callee := (.builtin .len), args := #[(.tmp 37)], argTypes := #[30] }, 3, some (30, true)⟩,
    ⟨some 39, .binOp .lss 3 (.tmp 33) (.tmp 38) 3, 4, some (30, true)⟩,
    ⟨some 40, .pick (.tmp 30) (.tmp 39) (.const (.bool false)), 4, none⟩,
    ⟨some 41, .move (.tmp 40), 4, none⟩,
    ⟨some 42, .move (.tmp 0), 107, some (41, true)⟩,
    ⟨some 43, .nilCheck (.tmp 42), 0, some (41, true)⟩,
    ⟨some 44, .fieldAddr 130 (.tmp 43) 0, 0, some (41, true)⟩,
    ⟨some 45, .load 30 (.tmp 44), 30, some (41, true)⟩,
    ⟨some 46, .move (.tmp 1), 3, some (41, true)⟩,
    ⟨some 47, .move (.tmp 7), 3, some (41, true)⟩,
    ⟨some 48, .binOp .add 3 (.tmp 46) (.tmp 47) 3, 3, some (41, true)⟩,
    ⟨some 49, .indexAddr 30 (.tmp 45) (.tmp 48), 0, some (41, true)⟩,
    ⟨some 50, .load 5 (.tmp 49), 5, some (41, true)⟩,
    ⟨some 51, .binOp .geq 5 (.tmp 50) (.const (.int .u8 128)) 5, 4, some (41, true)⟩,
    ⟨some 52, .pick (.tmp 41) (.tmp 51) (.const (.bool false)), 4, none⟩]
@[go_sem] def c90_6 : Cmd := .cond (.tmp 52) .skip (.exit 0)
@[go_sem] def c90_7 : Cmd := .ops [⟨some 53, .move (.tmp 7), 3, none⟩,
    ⟨some 54, .binOp .add 3 (.tmp 53) (.const (.int .i64 1)) 3, 3, none⟩,
    ⟨some 7, .assign (.tmp 54), 3, none⟩]
@[go_sem] def c90_8 : Cmd := .block 1 c90_7
def c90_L0 : Cmd := (.seq (.seq c90_5 c90_6) c90_8)
@[go_sem] def c90_9 : Cmd := .loop c90_L0
@[go_sem] def c90_10 : Cmd := .block 0 c90_9
@[go_sem] def c90_11 : Cmd := .ops [⟨some 55, .move (.tmp 7), 3, none⟩,
    ⟨some 56, .binOp .eql 3 (.tmp 55) (.const (.int .i64 9)) 3, 4, none⟩]
@[go_sem] def c90_12 : Cmd := .ops [⟨some 57, .move (.tmp 1), 3, none⟩,
    ⟨some 4, .assign (.const (.int .i64 0)), 3, none⟩,
    ⟨some 5, .assign (.tmp 57), 3, none⟩,
    ⟨some 6, .assign (.const (.int .i64 12)), 3, none⟩]
@[go_sem] def c90_13 : Cmd := .cond (.tmp 56) (.seq c90_12 .ret) .skip
@[go_sem] def c90_14 : Cmd := .ops [⟨some 58, .move (.tmp 1), 3, none⟩,
    ⟨some 59, .move (.tmp 7), 3, none⟩,
    ⟨some 60, .binOp .add 3 (.tmp 58) (.tmp 59) 3, 3, none⟩,
    ⟨some 61, .move (.tmp 0), 107, none⟩,
    ⟨some 62, .nilCheck (.tmp 61), 0, none⟩,
    ⟨some 63, .fieldAddr 130 (.tmp 62) 0, 0, none⟩,
    ⟨some 64, .load 30 (.tmp 63), 30, none⟩,
    ⟨some 65, .call { callee := (.builtin .len), args := #[(.tmp 64)], argTypes := #[30] }, 3, none⟩,
    ⟨some 66, .binOp .eql 3 (.tmp 60) (.tmp 65) 3, 4, none⟩]
@[go_sem] def c90_15 : Cmd := .ops [⟨some 67, .move (.tmp 1), 3, none⟩,
    ⟨some 4, .assign (.const (.int .i64 0)), 3, none⟩,
    ⟨some 5, .assign (.tmp 67), 3, none⟩,
    ⟨some 6, .assign (.const (.int .i64 10)), 3, none⟩]
@[go_sem] def c90_16 : Cmd := .cond (.tmp 66) (.seq c90_15 .ret) .skip
@[go_sem] def c90_17 : Cmd := .ops [⟨some 8, .assign (.const (.int .i64 0)), 3, none⟩]
@[go_sem] def c90_18 : Cmd := .ops [⟨some 9, .assign (.const (.int .i64 0)), 3, none⟩]
@[go_sem] def c90_19 : Cmd := .ops [⟨some 68, .move (.tmp 9), 3, none⟩,
    ⟨some 69, .move (.tmp 7), 3, none⟩,
    ⟨some 70, .binOp .leq 3 (.tmp 68) (.tmp 69) 3, 4, none⟩]
@[go_sem] def c90_20 : Cmd := .cond (.tmp 70) .skip (.exit 2)
@[go_sem] def c90_21 : Cmd := .ops [⟨some 73, .move (.tmp 8), 3, none⟩,
    ⟨some 74, .binOp .mul 3 (.tmp 73) (.const (.int .i64 128)) 3, 3, none⟩,
    ⟨some 75, .move (.tmp 0), 107, none⟩,
    ⟨some 76, .nilCheck (.tmp 75), 0, none⟩,
    ⟨some 77, .fieldAddr 130 (.tmp 76) 0, 0, none⟩,
    ⟨some 78, .load 30 (.tmp 77), 30, none⟩,
    ⟨some 79, .move (.tmp 1), 3, none⟩,
    ⟨some 80, .move (.tmp 9), 3, none⟩,
    ⟨some 81, .binOp .add 3 (.tmp 79) (.tmp 80) 3, 3, none⟩,
    ⟨some 82, .indexAddr 30 (.tmp 78) (.tmp 81), 0, none⟩,
    ⟨some 83, .load 5 (.tmp 82), 5, none⟩,
    ⟨some 84, .binOp .rem 5 (.tmp 83) (.const (.int .u8 128)) 5, 5, none⟩,
    ⟨some 85, .convert 5 3 (.tmp 84), 3, none⟩,
    ⟨some 86, .binOp .add 3 (.tmp 74) (.tmp 85) 3, 3, none⟩,
    ⟨some 8, .assign (.tmp 86), 3, none⟩]
@[go_sem] def c90_22 : Cmd := .block 3 c90_21
@[go_sem] def c90_23 : Cmd := .ops [⟨some 71, .move (.tmp 9), 3, none⟩,
    ⟨some 72, .binOp .add 3 (.tmp 71) (.const (.int .i64 1)) 3, 3, none⟩,
    ⟨some 9, .assign (.tmp 72), 3, none⟩]
def c90_L1 : Cmd := (.seq (.seq c90_19 c90_20) (.seq c90_22 c90_23))
@[go_sem] def c90_24 : Cmd := .loop c90_L1
@[go_sem] def c90_25 : Cmd := .block 2 c90_24
@[go_sem] def c90_26 : Cmd := .ops [⟨some 87, .move (.tmp 8), 3, none⟩,
    ⟨some 88, .move (.tmp 1), 3, none⟩,
    ⟨some 89, .move (.tmp 7), 3, none⟩,
    ⟨some 90, .binOp .add 3 (.tmp 88) (.tmp 89) 3, 3, none⟩,
    ⟨some 91, .binOp .add 3 (.tmp 90) (.const (.int .i64 1)) 3, 3, none⟩,
    ⟨some 4, .assign (.tmp 87), 3, none⟩,
    ⟨some 5, .assign (.tmp 91), 3, none⟩,
    ⟨some 6, .assign (.const (.int .i64 0)), 3, none⟩]
@[go_sem] def c90 : Cmd := (.seq c90_0 (.seq (.seq c90_1 c90_3) (.seq c90_4 (.seq c90_10 (.seq (.seq c90_11 c90_13) (.seq (.seq c90_14 c90_16) (.seq c90_17 (.seq (.seq c90_18 c90_25) (.seq c90_26 .ret)))))))))
theorem b90 : Try.f90.body.map (comp 92) = some c90 := by kernel_rfl
theorem r90 : Try.f90.results.toList = [.tmp 4, .tmp 5, .tmp 6] := by kernel_rfl
@[go_sem] theorem ty3 : tyOf Try.prog 3 = some ⟨(.int .i64), 1, 8, (.int .i64 0)⟩ := by kernel_rfl
@[go_sem] theorem ty4 : tyOf Try.prog 4 = some ⟨.bool, 1, 1, (.bool false)⟩ := by kernel_rfl
@[go_sem] theorem ty5 : tyOf Try.prog 5 = some ⟨(.int .u8), 1, 1, (.int .u8 0)⟩ := by kernel_rfl
@[go_sem] theorem ty9 : tyOf Try.prog 9 = some ⟨.str, 1, 16, (.string ⟨#[]⟩)⟩ := by kernel_rfl
@[go_sem] theorem ty22 : tyOf Try.prog 22 = some ⟨(.sl 24), 1, 24, (.slice none 0 0)⟩ := by kernel_rfl
@[go_sem] theorem ty24 : tyOf Try.prog 24 = some ⟨(.st [(0, 3), (1, 3)]), 2, 16, (.agg #[(.int .i64 0), (.int .i64 0)])⟩ := by kernel_rfl
@[go_sem] theorem ty30 : tyOf Try.prog 30 = some ⟨(.sl 5), 1, 24, (.slice none 0 0)⟩ := by kernel_rfl
@[go_sem] theorem ty31 : tyOf Try.prog 31 = some ⟨(.int .i64), 1, 8, (.int .i64 0)⟩ := by kernel_rfl
@[go_sem] theorem ty39 : tyOf Try.prog 39 = some ⟨(.sl 43), 1, 24, (.slice none 0 0)⟩ := by kernel_rfl
@[go_sem] theorem ty43 : tyOf Try.prog 43 = some ⟨(.st [(0, 3), (1, 5)]), 2, 16, (.agg #[(.int .i64 0), (.int .u8 0)])⟩ := by kernel_rfl
@[go_sem] theorem ty45 : tyOf Try.prog 45 = some ⟨(.sl 51), 1, 24, (.slice none 0 0)⟩ := by kernel_rfl
@[go_sem] theorem ty46 : tyOf Try.prog 46 = some ⟨(.ptr 86), 1, 8, (.pointer none)⟩ := by kernel_rfl
@[go_sem] theorem ty48 : tyOf Try.prog 48 = some ⟨(.ptr 91), 1, 8, (.pointer none)⟩ := by kernel_rfl
@[go_sem] theorem ty51 : tyOf Try.prog 51 = some ⟨(.st [(0, 3), (1, 3), (2, 22), (3, 4), (4, 4)]), 5, 48, (.agg #[(.int .i64 0), (.int .i64 0), (.slice none 0 0), (.bool false), (.bool false)])⟩ := by kernel_rfl
@[go_sem] theorem ty55 : tyOf Try.prog 55 = some ⟨(.sl 4), 1, 24, (.slice none 0 0)⟩ := by kernel_rfl
@[go_sem] theorem ty60 : tyOf Try.prog 60 = some ⟨(.sl 22), 1, 24, (.slice none 0 0)⟩ := by kernel_rfl
@[go_sem] theorem ty61 : tyOf Try.prog 61 = some ⟨(.sl 65), 1, 24, (.slice none 0 0)⟩ := by kernel_rfl
@[go_sem] theorem ty63 : tyOf Try.prog 63 = some ⟨(.sl 3), 1, 24, (.slice none 0 0)⟩ := by kernel_rfl
@[go_sem] theorem ty65 : tyOf Try.prog 65 = some ⟨(.st [(0, 3), (1, 3)]), 2, 16, (.agg #[(.int .i64 0), (.int .i64 0)])⟩ := by kernel_rfl
@[go_sem] theorem ty74 : tyOf Try.prog 74 = some ⟨.fn, 1, 8, .nilFunc⟩ := by kernel_rfl
@[go_sem] theorem ty81 : tyOf Try.prog 81 = some ⟨(.sl 88), 1, 24, (.slice none 0 0)⟩ := by kernel_rfl
@[go_sem] theorem ty82 : tyOf Try.prog 82 = some ⟨.fn, 1, 8, .nilFunc⟩ := by kernel_rfl
@[go_sem] theorem ty84 : tyOf Try.prog 84 = some ⟨(.st [(0, 63), (1, 82)]), 2, 32, (.agg #[(.slice none 0 0), .nilFunc])⟩ := by kernel_rfl
@[go_sem] theorem ty86 : tyOf Try.prog 86 = some ⟨(.st [(0, 81), (1, 84)]), 3, 56, (.agg #[(.slice none 0 0), (.slice none 0 0), .nilFunc])⟩ := by kernel_rfl
@[go_sem] theorem ty88 : tyOf Try.prog 88 = some ⟨(.st [(0, 22), (1, 24), (3, 4), (4, 4)]), 5, 48, (.agg #[(.slice none 0 0), (.int .i64 0), (.int .i64 0), (.bool false), (.bool false)])⟩ := by kernel_rfl
@[go_sem] theorem ty89 : tyOf Try.prog 89 = some ⟨(.sl 110), 1, 24, (.slice none 0 0)⟩ := by kernel_rfl
@[go_sem] theorem ty91 : tyOf Try.prog 91 = some ⟨(.st [(0, 89)]), 1, 24, (.agg #[(.slice none 0 0)])⟩ := by kernel_rfl
@[go_sem] theorem ty93 : tyOf Try.prog 93 = some ⟨(.ptr 113), 1, 8, (.pointer none)⟩ := by kernel_rfl
@[go_sem] theorem ty100 : tyOf Try.prog 100 = some ⟨.fn, 1, 8, .nilFunc⟩ := by kernel_rfl
@[go_sem] theorem ty105 : tyOf Try.prog 105 = some ⟨(.int .u64), 1, 8, (.int .u64 0)⟩ := by kernel_rfl
@[go_sem] theorem ty107 : tyOf Try.prog 107 = some ⟨(.ptr 130), 1, 8, (.pointer none)⟩ := by kernel_rfl
@[go_sem] theorem ty110 : tyOf Try.prog 110 = some ⟨(.st [(0, 22), (1, 24), (3, 4), (4, 4)]), 5, 48, (.agg #[(.slice none 0 0), (.int .i64 0), (.int .i64 0), (.bool false), (.bool false)])⟩ := by kernel_rfl
@[go_sem] theorem ty113 : tyOf Try.prog 113 = some ⟨(.st [(0, 30), (1, 3), (2, 31)]), 3, 40, (.agg #[(.slice none 0 0), (.int .i64 0), (.int .i64 0)])⟩ := by kernel_rfl
@[go_sem] theorem ty118 : tyOf Try.prog 118 = some ⟨(.int .i64), 1, 8, (.int .i64 0)⟩ := by kernel_rfl
@[go_sem] theorem ty126 : tyOf Try.prog 126 = some ⟨(.int .u32), 1, 4, (.int .u32 0)⟩ := by kernel_rfl
@[go_sem] theorem ty128 : tyOf Try.prog 128 = some ⟨(.int .u64), 1, 8, (.int .u64 0)⟩ := by kernel_rfl
@[go_sem] theorem ty130 : tyOf Try.prog 130 = some ⟨(.st [(0, 30), (1, 3), (2, 3)]), 3, 40, (.agg #[(.slice none 0 0), (.int .i64 0), (.int .i64 0)])⟩ := by kernel_rfl
@[go_sem] theorem ty133 : tyOf Try.prog 133 = some ⟨(.int .u64), 1, 8, (.int .u64 0)⟩ := by kernel_rfl
@[go_sem] theorem ty137 : tyOf Try.prog 137 = some ⟨(.ptr 3), 1, 8, (.pointer none)⟩ := by kernel_rfl
@[go_sem] theorem okc11 : (okCall Try.prog 11 = true) = True := eq_true (by kernel_rfl)
@[go_sem] theorem okc12 : (okCall Try.prog 12 = true) = True := eq_true (by kernel_rfl)
@[go_sem] theorem okc13 : (okCall Try.prog 13 = true) = True := eq_true (by kernel_rfl)
@[go_sem] theorem okc14 : (okCall Try.prog 14 = true) = True := eq_true (by kernel_rfl)
@[go_sem] theorem okc15 : (okCall Try.prog 15 = true) = True := eq_true (by kernel_rfl)
@[go_sem] theorem okc16 : (okCall Try.prog 16 = true) = True := eq_true (by kernel_rfl)
@[go_sem] theorem okc17 : (okCall Try.prog 17 = true) = True := eq_true (by kernel_rfl)
@[go_sem] theorem okc18 : (okCall Try.prog 18 = true) = True := eq_true (by kernel_rfl)
@[go_sem] theorem okc19 : (okCall Try.prog 19 = true) = True := eq_true (by kernel_rfl)
@[go_sem] theorem okc20 : (okCall Try.prog 20 = true) = True := eq_true (by kernel_rfl)
@[go_sem] theorem okc21 : (okCall Try.prog 21 = true) = True := eq_true (by kernel_rfl)
@[go_sem] theorem okc22 : (okCall Try.prog 22 = true) = True := eq_true (by kernel_rfl)
@[go_sem] theorem okc23 : (okCall Try.prog 23 = true) = True := eq_true (by kernel_rfl)
@[go_sem] theorem okc24 : (okCall Try.prog 24 = true) = True := eq_true (by kernel_rfl)
@[go_sem] theorem okc25 : (okCall Try.prog 25 = true) = True := eq_true (by kernel_rfl)
@[go_sem] theorem okc26 : (okCall Try.prog 26 = true) = True := eq_true (by kernel_rfl)
@[go_sem] theorem okc27 : (okCall Try.prog 27 = true) = True := eq_true (by kernel_rfl)
@[go_sem] theorem okc28 : (okCall Try.prog 28 = true) = True := eq_true (by kernel_rfl)
@[go_sem] theorem okc29 : (okCall Try.prog 29 = true) = True := eq_true (by kernel_rfl)
@[go_sem] theorem okc30 : (okCall Try.prog 30 = true) = True := eq_true (by kernel_rfl)
@[go_sem] theorem okc31 : (okCall Try.prog 31 = true) = True := eq_true (by kernel_rfl)
@[go_sem] theorem okc32 : (okCall Try.prog 32 = true) = True := eq_true (by kernel_rfl)
@[go_sem] theorem okc33 : (okCall Try.prog 33 = true) = True := eq_true (by kernel_rfl)
@[go_sem] theorem okc34 : (okCall Try.prog 34 = true) = True := eq_true (by kernel_rfl)
@[go_sem] theorem okc35 : (okCall Try.prog 35 = true) = True := eq_true (by kernel_rfl)
@[go_sem] theorem okc36 : (okCall Try.prog 36 = true) = True := eq_true (by kernel_rfl)
@[go_sem] theorem okc37 : (okCall Try.prog 37 = true) = True := eq_true (by kernel_rfl)
@[go_sem] theorem okc38 : (okCall Try.prog 38 = true) = True := eq_true (by kernel_rfl)
@[go_sem] theorem okc39 : (okCall Try.prog 39 = true) = True := eq_true (by kernel_rfl)
@[go_sem] theorem okc40 : (okCall Try.prog 40 = true) = True := eq_true (by kernel_rfl)
@[go_sem] theorem okc41 : (okCall Try.prog 41 = true) = True := eq_true (by kernel_rfl)
@[go_sem] theorem okc42 : (okCall Try.prog 42 = true) = True := eq_true (by kernel_rfl)
@[go_sem] theorem okc43 : (okCall Try.prog 43 = true) = True := eq_true (by kernel_rfl)
@[go_sem] theorem okc44 : (okCall Try.prog 44 = true) = True := eq_true (by kernel_rfl)
@[go_sem] theorem okc45 : (okCall Try.prog 45 = true) = True := eq_true (by kernel_rfl)
@[go_sem] theorem okc46 : (okCall Try.prog 46 = true) = True := eq_true (by kernel_rfl)
@[go_sem] theorem okc47 : (okCall Try.prog 47 = true) = True := eq_true (by kernel_rfl)
@[go_sem] theorem okc48 : (okCall Try.prog 48 = true) = True := eq_true (by kernel_rfl)
@[go_sem] theorem okc49 : (okCall Try.prog 49 = true) = True := eq_true (by kernel_rfl)
@[go_sem] theorem okc50 : (okCall Try.prog 50 = true) = True := eq_true (by kernel_rfl)
@[go_sem] theorem okc51 : (okCall Try.prog 51 = true) = True := eq_true (by kernel_rfl)
@[go_sem] theorem okc52 : (okCall Try.prog 52 = true) = True := eq_true (by kernel_rfl)
@[go_sem] theorem okc53 : (okCall Try.prog 53 = true) = True := eq_true (by kernel_rfl)
@[go_sem] theorem okc54 : (okCall Try.prog 54 = true) = True := eq_true (by kernel_rfl)
@[go_sem] theorem okc55 : (okCall Try.prog 55 = true) = True := eq_true (by kernel_rfl)
@[go_sem] theorem okc56 : (okCall Try.prog 56 = true) = True := eq_true (by kernel_rfl)
@[go_sem] theorem okc57 : (okCall Try.prog 57 = true) = True := eq_true (by kernel_rfl)
@[go_sem] theorem okc58 : (okCall Try.prog 58 = true) = True := eq_true (by kernel_rfl)
@[go_sem] theorem okc59 : (okCall Try.prog 59 = true) = True := eq_true (by kernel_rfl)
@[go_sem] theorem okc60 : (okCall Try.prog 60 = true) = True := eq_true (by kernel_rfl)
@[go_sem] theorem okc61 : (okCall Try.prog 61 = true) = True := eq_true (by kernel_rfl)
@[go_sem] theorem okc62 : (okCall Try.prog 62 = true) = True := eq_true (by kernel_rfl)
@[go_sem] theorem okc63 : (okCall Try.prog 63 = true) = True := eq_true (by kernel_rfl)
@[go_sem] theorem okc64 : (okCall Try.prog 64 = true) = True := eq_true (by kernel_rfl)
@[go_sem] theorem okc66 : (okCall Try.prog 66 = true) = True := eq_true (by kernel_rfl)
@[go_sem] theorem okc67 : (okCall Try.prog 67 = true) = True := eq_true (by kernel_rfl)
@[go_sem] theorem okc68 : (okCall Try.prog 68 = true) = True := eq_true (by kernel_rfl)
@[go_sem] theorem okc69 : (okCall Try.prog 69 = true) = True := eq_true (by kernel_rfl)
@[go_sem] theorem okc70 : (okCall Try.prog 70 = true) = True := eq_true (by kernel_rfl)
@[go_sem] theorem okc71 : (okCall Try.prog 71 = true) = True := eq_true (by kernel_rfl)
@[go_sem] theorem okc72 : (okCall Try.prog 72 = true) = True := eq_true (by kernel_rfl)
@[go_sem] theorem okc73 : (okCall Try.prog 73 = true) = True := eq_true (by kernel_rfl)
@[go_sem] theorem okc74 : (okCall Try.prog 74 = true) = True := eq_true (by kernel_rfl)
@[go_sem] theorem okc75 : (okCall Try.prog 75 = true) = True := eq_true (by kernel_rfl)
@[go_sem] theorem okc76 : (okCall Try.prog 76 = true) = True := eq_true (by kernel_rfl)
@[go_sem] theorem okc77 : (okCall Try.prog 77 = true) = True := eq_true (by kernel_rfl)
@[go_sem] theorem okc78 : (okCall Try.prog 78 = true) = True := eq_true (by kernel_rfl)
@[go_sem] theorem okc79 : (okCall Try.prog 79 = true) = True := eq_true (by kernel_rfl)
@[go_sem] theorem okc80 : (okCall Try.prog 80 = true) = True := eq_true (by kernel_rfl)
@[go_sem] theorem okc81 : (okCall Try.prog 81 = true) = True := eq_true (by kernel_rfl)
@[go_sem] theorem okc82 : (okCall Try.prog 82 = true) = True := eq_true (by kernel_rfl)
@[go_sem] theorem okc83 : (okCall Try.prog 83 = true) = True := eq_true (by kernel_rfl)
@[go_sem] theorem okc84 : (okCall Try.prog 84 = true) = True := eq_true (by kernel_rfl)
@[go_sem] theorem okc85 : (okCall Try.prog 85 = true) = True := eq_true (by kernel_rfl)
@[go_sem] theorem okc86 : (okCall Try.prog 86 = true) = True := eq_true (by kernel_rfl)
@[go_sem] theorem okc87 : (okCall Try.prog 87 = true) = True := eq_true (by kernel_rfl)
@[go_sem] theorem okc88 : (okCall Try.prog 88 = true) = True := eq_true (by kernel_rfl)
@[go_sem] theorem okc89 : (okCall Try.prog 89 = true) = True := eq_true (by kernel_rfl)
@[go_sem] theorem okc90 : (okCall Try.prog 90 = true) = True := eq_true (by kernel_rfl)
@[go_sem] theorem okc91 : (okCall Try.prog 91 = true) = True := eq_true (by kernel_rfl)
@[go_sem] theorem okc92 : (okCall Try.prog 92 = true) = True := eq_true (by kernel_rfl)
@[go_sem] theorem okc93 : (okCall Try.prog 93 = true) = True := eq_true (by kernel_rfl)
@[go_sem] theorem okc94 : (okCall Try.prog 94 = true) = True := eq_true (by kernel_rfl)
@[go_sem] theorem okc95 : (okCall Try.prog 95 = true) = True := eq_true (by kernel_rfl)
@[go_sem] theorem okc96 : (okCall Try.prog 96 = true) = True := eq_true (by kernel_rfl)
end Go.Proofs.Ytcgejfmbhpmjfaa
