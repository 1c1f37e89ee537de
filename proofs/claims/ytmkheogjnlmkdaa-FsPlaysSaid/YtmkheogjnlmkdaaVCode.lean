/- The functions' code as commands; printed by wip/Gen.lean off the translation. -/
import Derived.Test.YtmkheogjnlmkdaaProg
import Derived.Test.YtmkheogjnlmkdaaVBase
import Derived.KernelRfl
set_option maxRecDepth 100000
set_option linter.unusedSimpArgs false
namespace Go.Proofs.Ytmkheogjnlmkdaa
open Go Go.V
theorem mixed : Try.prog.follows .mixedOrders = true := by kernel_rfl
-- 11 pith/pithlaw8.first
@[go_sem] def c11_0 : Cmd := .ops [⟨some 0, .assign (.const (.bool false)), 4, none⟩]
@[go_sem] def c11_1 : Cmd := .ops [⟨some 14, .call { callee := (.value (.func 12)), args := #[(.const (.int .i64 10))], argTypes := #[3] }, 24, none⟩,
    ⟨some 1, .assign (.tmp 14), 24, none⟩]
@[go_sem] def c11_2 : Cmd := .ops [⟨some 15, .move (.tmp 1), 24, none⟩,
    ⟨some 16, .binOp .eql 24 (.tmp 15) (.const (.pointer none)) 24, 4, none⟩]
@[go_sem] def c11_3 : Cmd := .ops [⟨some 0, .assign (.const (.bool false)), 4, none⟩]
@[go_sem] def c11_4 : Cmd := .cond (.tmp 16) (.seq c11_3 .ret) .skip
@[go_sem] def c11_5 : Cmd := .ops [⟨some 17, .move (.tmp 1), 24, none⟩,
    ⟨some 18, .call { callee := (.value (.func 39)), args := #[(.tmp 17), (.const (.string ⟨#[97]⟩))], argTypes := #[24, 9] }, 39, none⟩,
    ⟨some 2, .assign (.tmp 18), 39, none⟩]
@[go_sem] def c11_6 : Cmd := .ops [⟨some 19, .move (.tmp 1), 24, none⟩,
    ⟨some 20, .buildSlice 34 5 #[(0, (.const (.int .u8 104))), (1, (.const (.int .u8 101))), (2, (.const (.int .u8 108))), (3, (.const (.int .u8 108))), (4, (.const (.int .u8 111)))], 34, none⟩,
    ⟨some 21, .convert 34 34 (.tmp 20), 34, none⟩,
    ⟨some 22, .call { callee := (.value (.func 20)), args := #[(.tmp 19), (.const (.string ⟨#[97]⟩)), (.tmp 21)], argTypes := #[24, 9, 34] }, 39, none⟩,
    ⟨some 3, .assign (.tmp 22), 39, none⟩]
@[go_sem] def c11_7 : Cmd := .ops [⟨some 23, .move (.tmp 1), 24, none⟩,
    ⟨some 24, .call { callee := (.value (.func 21)), args := #[(.tmp 23), (.const (.string ⟨#[97]⟩))], argTypes := #[24, 9] }, 39, none⟩,
    ⟨some 4, .assign (.tmp 24), 39, none⟩]
@[go_sem] def c11_8 : Cmd := .ops [⟨some 25, .move (.tmp 1), 24, none⟩,
    ⟨some 26, .buildSlice 34 4 #[(0, (.const (.int .u8 32))), (1, (.const (.int .u8 121))), (2, (.const (.int .u8 111))), (3, (.const (.int .u8 117)))], 34, none⟩,
    ⟨some 27, .convert 34 34 (.tmp 26), 34, none⟩,
    ⟨some 28, .call { callee := (.value (.func 20)), args := #[(.tmp 25), (.const (.string ⟨#[97]⟩)), (.tmp 27)], argTypes := #[24, 9, 34] }, 39, none⟩,
    ⟨some 5, .assign (.tmp 28), 39, none⟩]
@[go_sem] def c11_9 : Cmd := .ops [⟨some 29, .move (.tmp 1), 24, none⟩,
    ⟨some 30, .buildSlice 34 2 #[(0, (.const (.int .u8 46))), (1, (.const (.int .u8 46)))], 34, none⟩,
    ⟨some 31, .convert 34 34 (.tmp 30), 34, none⟩,
    ⟨some 32, .call { callee := (.value (.func 20)), args := #[(.tmp 29), (.const (.string ⟨#[97]⟩)), (.tmp 31)], argTypes := #[24, 9, 34] }, 39, none⟩,
    ⟨some 6, .assign (.tmp 32), 39, none⟩]
@[go_sem] def c11_10 : Cmd := .ops [⟨some 33, .move (.tmp 1), 24, none⟩,
    ⟨some 34, .call { callee := (.value (.func 34)), args := #[(.tmp 33)], argTypes := #[24] }, 39, none⟩,
    ⟨some 7, .assign (.tmp 34), 39, none⟩]
@[go_sem] def c11_11 : Cmd := .ops [⟨some 35, .move (.tmp 1), 24, none⟩,
    ⟨some 36, .call { callee := (.value (.func 45)), args := #[(.tmp 35), (.const (.string ⟨#[97]⟩)), (.const (.string ⟨#[98]⟩))], argTypes := #[24, 9, 9] }, 39, none⟩,
    ⟨some 8, .assign (.tmp 36), 39, none⟩]
@[go_sem] def c11_12 : Cmd := .ops [⟨some 37, .move (.tmp 1), 24, none⟩,
    ⟨some 38, .call { callee := (.value (.func 13)), args := #[(.tmp 37)], argTypes := #[24] }, 3, none⟩,
    ⟨some 9, .assign (.tmp 38), 3, none⟩]
@[go_sem] def c11_13 : Cmd := .ops [⟨some 39, .move (.tmp 1), 24, none⟩,
    ⟨some 40, .buildSlice 62 1 #[(0, (.const (.int .i64 2)))], 62, none⟩,
    ⟨some 41, .call { callee := (.value (.func 25)), args := #[(.tmp 39), (.const (.int .i64 1)), (.tmp 40)], argTypes := #[24, 3, 62] }, 0, none⟩]
@[go_sem] def c11_14 : Cmd := .ops [⟨some 43, .move (.tmp 1), 24, none⟩,
    ⟨some 44, .call { callee := (.value (.func 31)), args := #[(.tmp 43), (.const (.string ⟨#[98]⟩)), (.const (.int .i64 0)), (.const (.int .i64 99))], argTypes := #[24, 9, 3, 3] }, 54, none⟩,
    ⟨some 42, .move (.tmp 44), 54, none⟩,
    ⟨some 45, .extract (.tmp 42) 0, 34, none⟩,
    ⟨some 46, .extract (.tmp 42) 1, 39, none⟩,
    ⟨some 10, .assign (.tmp 45), 34, none⟩,
    ⟨some 11, .assign (.tmp 46), 39, none⟩]
@[go_sem] def c11_15 : Cmd := .ops [⟨some 48, .move (.tmp 1), 24, none⟩,
    ⟨some 49, .call { callee := (.value (.func 32)), args := #[(.tmp 48), (.const (.string ⟨#[97]⟩))], argTypes := #[24, 9] }, 56, none⟩,
    ⟨some 47, .move (.tmp 49), 56, none⟩,
    ⟨some 50, .extract (.tmp 47) 0, 3, none⟩,
    ⟨some 51, .extract (.tmp 47) 1, 39, none⟩,
    ⟨some 12, .assign (.tmp 50), 3, none⟩,
    ⟨some 13, .assign (.tmp 51), 39, none⟩]
@[go_sem] def c11_16 : Cmd := .ops [⟨some 52, .move (.tmp 2), 39, none⟩,
    ⟨some 53, .call { callee := (.value (.func 22)), args := #[(.tmp 52)], argTypes := #[39] }, 3, none⟩,
    ⟨some 54, .move (.tmp 3), 39, none⟩,
    ⟨some 55, .call { callee := (.value (.func 22)), args := #[(.tmp 54)], argTypes := #[39] }, 3, none⟩,
    ⟨some 56, .binOp .add 3 (.tmp 53) (.tmp 55) 3, 3, none⟩,
    ⟨some 57, .move (.tmp 4), 39, none⟩,
    ⟨some 58, .call { callee := (.value (.func 22)), args := #[(.tmp 57)], argTypes := #[39] }, 3, none⟩,
    ⟨some 59, .binOp .add 3 (.tmp 56) (.tmp 58) 3, 3, none⟩,
    ⟨some 60, .move (.tmp 5), 39, none⟩,
    ⟨some 61, .call { callee := (.value (.func 22)), args := #[(.tmp 60)], argTypes := #[39] }, 3, none⟩,
    ⟨some 62, .binOp .add 3 (.tmp 59) (.tmp 61) 3, 3, none⟩,
    ⟨some 63, .move (.tmp 7), 39, none⟩,
    ⟨some 64, .call { callee := (.value (.func 22)), args := #[(.tmp 63)], argTypes := #[39] }, 3, none⟩,
    ⟨some 65, .binOp .add 3 (.tmp 62) (.tmp 64) 3, 3, none⟩,
    ⟨some 66, .move (.tmp 8), 39, none⟩,
    ⟨some 67, .call { callee := (.value (.func 22)), args := #[(.tmp 66)], argTypes := #[39] }, 3, none⟩,
    ⟨some 68, .binOp .add 3 (.tmp 65) (.tmp 67) 3, 3, none⟩,
    ⟨some 69, .move (.tmp 11), 39, none⟩,
    ⟨some 70, .call { callee := (.value (.func 22)), args := #[(.tmp 69)], argTypes := #[39] }, 3, none⟩,
    ⟨some 71, .binOp .add 3 (.tmp 68) (.tmp 70) 3, 3, none⟩,
    ⟨some 72, .binOp .neq 3 (.tmp 71) (.const (.int .i64 0)) 3, 4, none⟩,
    ⟨some 73, .move (.tmp 72), 4, none⟩,
    ⟨some 74, .move (.tmp 6), 39, some (73, false)⟩,
    ⟨some 75, .call { callee := (.value (.func 22)), args := #[(.tmp 74)], argTypes := #[39] }, 3, some (73, false)⟩,
    ⟨some 76, .binOp .neq 3 (.tmp 75) (.const (.int .i64 80)) 3, 4, some (73, false)⟩,
    ⟨some 77, .pick (.tmp 73) (.const (.bool true)) (.tmp 76), 4, none⟩]
@[go_sem] def c11_17 : Cmd := .ops [⟨some 0, .assign (.const (.bool false)), 4, none⟩]
@[go_sem] def c11_18 : Cmd := .cond (.tmp 77) (.seq c11_17 .ret) .skip
@[go_sem] def c11_19 : Cmd := .ops [⟨some 78, .move (.tmp 10), 34, none⟩,
    ⟨some 79, .convert 34 9 (.tmp 78), 9, none⟩,
    ⟨some 80, .binOp .eql 9 (.tmp 79) (.const (.string ⟨#[104, 101, 108, 108, 111, 32, 121]⟩)) 9, 4, none⟩,
    ⟨some 81, .move (.tmp 80), 4, none⟩,
    ⟨some 82, .move (.tmp 12), 3, some (81, true)⟩,
    ⟨some 83, .binOp .eql 3 (.tmp 82) (.const (.int .i64 0)) 3, 4, some (81, true)⟩,
    ⟨some 84, .pick (.tmp 81) (.tmp 83) (.const (.bool false)), 4, none⟩,
    ⟨some 85, .move (.tmp 84), 4, none⟩,
    ⟨some 86, .move (.tmp 13), 39, some (85, true)⟩,
    ⟨some 87, .call { callee := (.value (.func 22)), args := #[(.tmp 86)], argTypes := #[39] }, 3, some (85, true)⟩,
    ⟨some 88, .binOp .eql 3 (.tmp 87) (.const (.int .i64 82)) 3, 4, some (85, true)⟩,
    ⟨some 89, .pick (.tmp 85) (.tmp 88) (.const (.bool false)), 4, none⟩,
    ⟨some 90, .move (.tmp 89), 4, none⟩,
    ⟨some 91, .move (.tmp 9), 3, some (90, true)⟩,
    ⟨some 92, .binOp .eql 3 (.tmp 91) (.const (.int .i64 9)) 3, 4, some (90, true)⟩,
    ⟨some 93, .pick (.tmp 90) (.tmp 92) (.const (.bool false)), 4, none⟩,
    ⟨some 94, .move (.tmp 93), 4, none⟩,
    ⟨some 95, .move (.tmp 1), 24, some (94, true)⟩,
    ⟨some 96, .call { callee := (.value (.func 13)), args := #[(.tmp 95)], argTypes := #[24] }, 3, some (94, true)⟩,
    ⟨some 97, .binOp .eql 3 (.tmp 96) (.const (.int .i64 7)) 3, 4, some (94, true)⟩,
    ⟨some 98, .pick (.tmp 94) (.tmp 97) (.const (.bool false)), 4, none⟩,
    ⟨some 99, .move (.tmp 98), 4, none⟩,
    ⟨some 100, .move (.tmp 1), 24, some (99, true)⟩,
    ⟨some 101, .call { callee := (.value (.func 30)), args := #[(.tmp 100)], argTypes := #[24] }, 3, some (99, true)⟩,
    ⟨some 102, .binOp .eql 3 (.tmp 101) (.const (.int .i64 6)) 3, 4, some (99, true)⟩,
    ⟨some 103, .pick (.tmp 99) (.tmp 102) (.const (.bool false)), 4, none⟩,
    ⟨some 104, .move (.tmp 103), 4, none⟩,
    ⟨some 105, .move (.tmp 1), 24, some (104, true)⟩,
    ⟨some 106, .call { callee := (.value (.func 29)), args := #[(.tmp 105)], argTypes := #[24] }, 4, some (104, true)⟩,
    ⟨some 107, .pick (.tmp 104) (.tmp 106) (.const (.bool false)), 4, none⟩,
    ⟨some 0, .assign (.tmp 107), 4, none⟩]
@[go_sem] def c11 : Cmd := (.seq c11_0 (.seq c11_1 (.seq (.seq c11_2 c11_4) (.seq c11_5 (.seq c11_6 (.seq c11_7 (.seq c11_8 (.seq c11_9 (.seq c11_10 (.seq c11_11 (.seq c11_12 (.seq c11_13 (.seq c11_14 (.seq c11_15 (.seq (.seq c11_16 c11_18) (.seq c11_19 .ret))))))))))))))))
theorem b11 : Try.f11.body.map (comp 108) = some c11 := by kernel_rfl
theorem r11 : Try.f11.results.toList = [.tmp 0] := by kernel_rfl
-- 12 pith/fs.New
@[go_sem] def c12_0 : Cmd := .ops [⟨some 2, .assign (.const (.pointer none)), 24, none⟩]
@[go_sem] def c12_1 : Cmd := .ops [⟨some 3, .move (.tmp 0), 3, none⟩,
    ⟨some 4, .binOp .lss 3 (.tmp 3) (.const (.int .i64 0)) 3, 4, none⟩,
    ⟨some 5, .move (.tmp 4), 4, none⟩,
    ⟨some 6, .move (.tmp 0), 3, some (5, false)⟩,
    ⟨some 7, .binOp .gtr 3 (.tmp 6) (.const (.int .i64 2147483647)) 3, 4, some (5, false)⟩,
    ⟨some 8, .pick (.tmp 5) (.const (.bool true)) (.tmp 7), 4, none⟩]
@[go_sem] def c12_2 : Cmd := .ops [⟨some 2, .assign (.const (.pointer none)), 24, none⟩]
@[go_sem] def c12_3 : Cmd := .cond (.tmp 8) (.seq c12_2 .ret) .skip
@[go_sem] def c12_4 : Cmd := .ops [⟨some 9, .move (.tmp 0), 3, none⟩,
    ⟨some 10, .makeMap 80 none, 80, none⟩,
    ⟨some 11, .makeMap 80 none, 80, none⟩,
    ⟨some 12, .makeMap 81 none, 81, none⟩,
    ⟨some 13, .build 84 #[(0, (.tmp 9)), (1, (.tmp 10)), (2, (.tmp 11)), (4, (.tmp 12))], 84, none⟩,
    ⟨some 14, .box 84 (.tmp 13), 24, none⟩,
    ⟨some 2, .assign (.tmp 14), 24, none⟩]
@[go_sem] def c12 : Cmd := (.seq c12_0 (.seq (.seq c12_1 c12_3) (.seq c12_4 .ret)))
theorem b12 : Try.f12.body.map (comp 15) = some c12 := by kernel_rfl
theorem r12 : Try.f12.results.toList = [.tmp 2] := by kernel_rfl
-- 13 (*pith/fs.FS).Held
@[go_sem] def c13_0 : Cmd := .ops [⟨some 2, .assign (.const (.int .i64 0)), 3, none⟩]
@[go_sem] def c13_1 : Cmd := .ops [⟨some 3, .assign (.const (.int .i64 0)), 3, none⟩]
@[go_sem] def c13_2 : Cmd := .ops [⟨some 5, .move (.tmp 0), 24, none⟩,
    ⟨some 6, .nilCheck (.tmp 5), 0, none⟩,
    ⟨some 7, .fieldAddr 84 (.tmp 6) 4, 0, none⟩,
    ⟨some 8, .load 81 (.tmp 7), 81, none⟩,
    ⟨some 9, .range 81 (.tmp 8), 0, none⟩]
@[go_sem] def c13_3 : Cmd := .ops [⟨some 10, .next (.tmp 9) false, 0, none⟩,
    ⟨some 11, .extract (.tmp 10) 0, 4, none⟩]
@[go_sem] def c13_4 : Cmd := .cond (.tmp 11) .skip (.exit 0)
@[go_sem] def c13_5 : Cmd := .ops [⟨some 12, .entry (.tmp 9), 0, none⟩,
    ⟨some 13, .extract (.tmp 12) 0, 85, none⟩,
    ⟨some 4, .assign (.tmp 13), 85, none⟩]
@[go_sem] def c13_6 : Cmd := .ops [⟨some 14, .move (.tmp 3), 3, none⟩,
    ⟨some 15, .move (.tmp 4), 85, none⟩,
    ⟨some 16, .nilCheck (.tmp 15), 0, none⟩,
    ⟨some 17, .fieldAddr 87 (.tmp 16) 0, 0, none⟩,
    ⟨some 18, .load 34 (.tmp 17), 34, none⟩,
    ⟨some 19, .call { callee := (.builtin .len), args := #[(.tmp 18)], argTypes := #[34] }, 3, none⟩,
    ⟨some 20, .binOp .add 3 (.tmp 14) (.tmp 19) 3, 3, none⟩,
    ⟨some 3, .assign (.tmp 20), 3, none⟩]
@[go_sem] def c13_7 : Cmd := .block 1 (.seq c13_5 c13_6)
def c13_L0 : Cmd := (.seq c13_3 (.seq c13_4 c13_7))
@[go_sem] def c13_8 : Cmd := .loop c13_L0
@[go_sem] def c13_9 : Cmd := .block 0 c13_8
@[go_sem] def c13_10 : Cmd := .ops [⟨some 21, .move (.tmp 3), 3, none⟩,
    ⟨some 2, .assign (.tmp 21), 3, none⟩]
@[go_sem] def c13 : Cmd := (.seq c13_0 (.seq c13_1 (.seq (.seq c13_2 c13_9) (.seq c13_10 .ret))))
theorem b13 : Try.f13.body.map (comp 22) = some c13 := by kernel_rfl
theorem r13 : Try.f13.results.toList = [.tmp 2] := by kernel_rfl
-- 14 pith/pithlaw8.does
@[go_sem] def c14_0 : Cmd := .ops [⟨some 3, .box 30 (.tmp 1), 0, none⟩,
    ⟨some 4, .assign (.const (.int .i64 0)), 3, none⟩]
@[go_sem] def c14_1 : Cmd := .ops [⟨some 7, .fieldAddr 30 (.tmp 3) 1, 0, none⟩,
    ⟨some 8, .load 3 (.tmp 7), 3, none⟩,
    ⟨some 9, .call { callee := (.value (.func 16)), args := #[(.tmp 8)], argTypes := #[3] }, 9, none⟩,
    ⟨some 5, .assign (.tmp 9), 9, none⟩]
@[go_sem] def c14_2 : Cmd := .ops [⟨some 10, .fieldAddr 30 (.tmp 3) 2, 0, none⟩,
    ⟨some 11, .load 3 (.tmp 10), 3, none⟩,
    ⟨some 12, .call { callee := (.value (.func 16)), args := #[(.tmp 11)], argTypes := #[3] }, 9, none⟩,
    ⟨some 6, .assign (.tmp 12), 9, none⟩]
@[go_sem] def c14_3 : Cmd := .ops [⟨some 13, .fieldAddr 30 (.tmp 3) 0, 0, none⟩,
    ⟨some 14, .load 3 (.tmp 13), 3, none⟩]
@[go_sem] def c14_4 : Cmd := .ops [⟨some 16, .binOp .eql 3 (.tmp 14) (.const (.int .i64 1)) 3, 4, none⟩,
    ⟨some 15, .assign (.tmp 16), 4, none⟩]
@[go_sem] def c14_5 : Cmd := .ops [⟨some 17, .move (.tmp 0), 24, none⟩,
    ⟨some 18, .move (.tmp 5), 9, none⟩,
    ⟨some 19, .call { callee := (.value (.func 39)), args := #[(.tmp 17), (.tmp 18)], argTypes := #[24, 9] }, 39, none⟩,
    ⟨some 20, .call { callee := (.value (.func 22)), args := #[(.tmp 19)], argTypes := #[39] }, 3, none⟩,
    ⟨some 4, .assign (.tmp 20), 3, none⟩]
@[go_sem] def c14_6 : Cmd := .ops [⟨some 22, .binOp .eql 3 (.tmp 14) (.const (.int .i64 2)) 3, 4, none⟩,
    ⟨some 21, .assign (.tmp 22), 4, none⟩]
@[go_sem] def c14_7 : Cmd := .ops [⟨some 23, .move (.tmp 0), 24, none⟩,
    ⟨some 24, .move (.tmp 5), 9, none⟩,
    ⟨some 25, .load 30 (.tmp 3), 30, none⟩,
    ⟨some 26, .call { callee := (.value (.func 18)), args := #[(.tmp 25)], argTypes := #[30] }, 34, none⟩,
    ⟨some 27, .call { callee := (.value (.func 20)), args := #[(.tmp 23), (.tmp 24), (.tmp 26)], argTypes := #[24, 9, 34] }, 39, none⟩,
    ⟨some 28, .call { callee := (.value (.func 22)), args := #[(.tmp 27)], argTypes := #[39] }, 3, none⟩,
    ⟨some 4, .assign (.tmp 28), 3, none⟩]
@[go_sem] def c14_8 : Cmd := .ops [⟨some 30, .binOp .eql 3 (.tmp 14) (.const (.int .i64 3)) 3, 4, none⟩,
    ⟨some 29, .assign (.tmp 30), 4, none⟩]
@[go_sem] def c14_9 : Cmd := .ops [⟨some 31, .move (.tmp 0), 24, none⟩,
    ⟨some 32, .move (.tmp 5), 9, none⟩,
    ⟨some 33, .call { callee := (.value (.func 21)), args := #[(.tmp 31), (.tmp 32)], argTypes := #[24, 9] }, 39, none⟩,
    ⟨some 34, .call { callee := (.value (.func 22)), args := #[(.tmp 33)], argTypes := #[39] }, 3, none⟩,
    ⟨some 4, .assign (.tmp 34), 3, none⟩]
@[go_sem] def c14_10 : Cmd := .ops [⟨some 36, .binOp .eql 3 (.tmp 14) (.const (.int .i64 4)) 3, 4, none⟩,
    ⟨some 35, .assign (.tmp 36), 4, none⟩]
@[go_sem] def c14_11 : Cmd := .ops [⟨some 37, .move (.tmp 0), 24, none⟩,
    ⟨some 38, .move (.tmp 5), 9, none⟩,
    ⟨some 39, .move (.tmp 6), 9, none⟩,
    ⟨some 40, .call { callee := (.value (.func 45)), args := #[(.tmp 37), (.tmp 38), (.tmp 39)], argTypes := #[24, 9, 9] }, 39, none⟩,
    ⟨some 41, .call { callee := (.value (.func 22)), args := #[(.tmp 40)], argTypes := #[39] }, 3, none⟩,
    ⟨some 4, .assign (.tmp 41), 3, none⟩]
@[go_sem] def c14_12 : Cmd := .ops [⟨some 43, .binOp .eql 3 (.tmp 14) (.const (.int .i64 5)) 3, 4, none⟩,
    ⟨some 42, .assign (.tmp 43), 4, none⟩]
@[go_sem] def c14_13 : Cmd := .ops [⟨some 44, .move (.tmp 0), 24, none⟩,
    ⟨some 45, .move (.tmp 5), 9, none⟩,
    ⟨some 46, .call { callee := (.value (.func 46)), args := #[(.tmp 44), (.tmp 45)], argTypes := #[24, 9] }, 39, none⟩,
    ⟨some 47, .call { callee := (.value (.func 22)), args := #[(.tmp 46)], argTypes := #[39] }, 3, none⟩,
    ⟨some 4, .assign (.tmp 47), 3, none⟩]
@[go_sem] def c14_14 : Cmd := .ops [⟨some 49, .binOp .eql 3 (.tmp 14) (.const (.int .i64 6)) 3, 4, none⟩,
    ⟨some 48, .assign (.tmp 49), 4, none⟩]
@[go_sem] def c14_15 : Cmd := .ops [⟨some 50, .move (.tmp 0), 24, none⟩,
    ⟨some 51, .call { callee := (.value (.func 34)), args := #[(.tmp 50)], argTypes := #[24] }, 39, none⟩,
    ⟨some 52, .call { callee := (.value (.func 22)), args := #[(.tmp 51)], argTypes := #[39] }, 3, none⟩,
    ⟨some 4, .assign (.tmp 52), 3, none⟩]
@[go_sem] def c14_16 : Cmd := .cond (.tmp 48) (.seq c14_15 .ret) .skip
@[go_sem] def c14_17 : Cmd := .cond (.tmp 42) (.seq c14_13 .ret) (.seq c14_14 c14_16)
@[go_sem] def c14_18 : Cmd := .cond (.tmp 35) (.seq c14_11 .ret) (.seq c14_12 c14_17)
@[go_sem] def c14_19 : Cmd := .cond (.tmp 29) (.seq c14_9 .ret) (.seq c14_10 c14_18)
@[go_sem] def c14_20 : Cmd := .cond (.tmp 21) (.seq c14_7 .ret) (.seq c14_8 c14_19)
@[go_sem] def c14_21 : Cmd := .cond (.tmp 15) (.seq c14_5 .ret) (.seq c14_6 c14_20)
@[go_sem] def c14_22 : Cmd := .block 0 (.seq c14_4 c14_21)
@[go_sem] def c14_23 : Cmd := .ops [⟨some 4, .assign (.const (.int .i64 0)), 3, none⟩]
@[go_sem] def c14 : Cmd := (.seq c14_0 (.seq c14_1 (.seq c14_2 (.seq (.seq c14_3 c14_22) (.seq c14_23 .ret)))))
theorem b14 : Try.f14.body.map (comp 53) = some c14 := by kernel_rfl
theorem r14 : Try.f14.results.toList = [.tmp 4] := by kernel_rfl
-- 15 pith/pithlaw8.has
@[go_sem] def c15_0 : Cmd := .ops [⟨some 4, .assign (.const (.int .i64 0)), 3, none⟩]
@[go_sem] def c15_1 : Cmd := .ops [⟨some 5, .assign (.const (.int .i64 0)), 3, none⟩]
@[go_sem] def c15_2 : Cmd := .ops [⟨some 6, .move (.tmp 5), 3, none⟩,
    ⟨some 7, .move (.tmp 0), 26, none⟩,
    ⟨some 8, .call { callee := (.builtin .len), args := #[(.tmp 7)], argTypes := #[26] }, 3, none⟩,
    ⟨some 9, .binOp .lss 3 (.tmp 6) (.tmp 8) 3, 4, none⟩]
@[go_sem] def c15_3 : Cmd := .cond (.tmp 9) .skip (.exit 0)
@[go_sem] def c15_4 : Cmd := .ops [⟨some 12, .move (.tmp 0), 26, none⟩,
    ⟨some 13, .move (.tmp 5), 3, none⟩,
    ⟨some 14, .indexAddr 26 (.tmp 12) (.tmp 13), 0, none⟩,
    ⟨some 15, .fieldAddr 44 (.tmp 14) 0, 0, none⟩,
    ⟨some 16, .load 9 (.tmp 15), 9, none⟩,
    ⟨some 17, .move (.tmp 1), 9, none⟩,
    ⟨some 18, .binOp .eql 9 (.tmp 16) (.tmp 17) 9, 4, none⟩]
@[go_sem] def c15_5 : Cmd := .ops [⟨some 19, .move (.tmp 5), 3, none⟩,
    ⟨some 4, .assign (.tmp 19), 3, none⟩]
@[go_sem] def c15_6 : Cmd := .cond (.tmp 18) (.seq c15_5 .ret) .skip
@[go_sem] def c15_7 : Cmd := .block 1 (.seq c15_4 c15_6)
@[go_sem] def c15_8 : Cmd := .ops [⟨some 10, .move (.tmp 5), 3, none⟩,
    ⟨some 11, .binOp .add 3 (.tmp 10) (.const (.int .i64 1)) 3, 3, none⟩,
    ⟨some 5, .assign (.tmp 11), 3, none⟩]
def c15_L0 : Cmd := (.seq (.seq c15_2 c15_3) (.seq c15_7 c15_8))
@[go_sem] def c15_9 : Cmd := .loop c15_L0
@[go_sem] def c15_10 : Cmd := .block 0 c15_9
@[go_sem] def c15_11 : Cmd := .ops [⟨some 4, .assign (.const (.int .i64 (-1))), 3, none⟩]
@[go_sem] def c15 : Cmd := (.seq c15_0 (.seq (.seq c15_1 c15_10) (.seq c15_11 .ret)))
theorem b15 : Try.f15.body.map (comp 20) = some c15 := by kernel_rfl
theorem r15 : Try.f15.results.toList = [.tmp 4] := by kernel_rfl
-- 16 pith/pithlaw8.name
@[go_sem] def c16_0 : Cmd := .ops [⟨some 2, .assign (.const (.string ⟨#[]⟩)), 9, none⟩]
@[go_sem] def c16_1 : Cmd := .ops [⟨some 4, .buildSlice 58 8 #[(0, (.const (.string ⟨#[97]⟩))), (1, (.const (.string ⟨#[98]⟩))), (2, (.const (.string ⟨#[99]⟩))), (3, (.const (.string ⟨#[97, 46, 49]⟩))), (4, (.const (.string ⟨#[97, 98]⟩))), (5, (.const (.string ⟨#[48]⟩))), (6, (.const (.string ⟨#[116, 46, 120]⟩))), (7, (.const (.string ⟨#[122, 46, 57, 46, 57]⟩)))], 58, none⟩,
    ⟨some 3, .assign (.tmp 4), 58, none⟩]
@[go_sem] def c16_2 : Cmd := .ops [⟨some 5, .move (.tmp 3), 58, none⟩,
    ⟨some 6, .move (.tmp 0), 3, none⟩,
    ⟨some 7, .binOp .rem 3 (.tmp 6) (.const (.int .i64 8)) 3, 3, none⟩,
    ⟨some 8, .binOp .add 3 (.tmp 7) (.const (.int .i64 8)) 3, 3, none⟩,
    ⟨some 9, .binOp .rem 3 (.tmp 8) (.const (.int .i64 8)) 3, 3, none⟩,
    ⟨some 10, .indexAddr 58 (.tmp 5) (.tmp 9), 0, none⟩,
    ⟨some 11, .load 9 (.tmp 10), 9, none⟩,
    ⟨some 2, .assign (.tmp 11), 9, none⟩]
@[go_sem] def c16 : Cmd := (.seq c16_0 (.seq c16_1 (.seq c16_2 .ret)))
theorem b16 : Try.f16.body.map (comp 12) = some c16 := by kernel_rfl
theorem r16 : Try.f16.results.toList = [.tmp 2] := by kernel_rfl
-- 17 pith/pithlaw8.plain
@[go_sem] def c17_0 : Cmd := .ops [⟨some 3, .box 30 (.tmp 1), 0, none⟩,
    ⟨some 4, .assign (.const (.slice none 0 0)), 26, none⟩]
@[go_sem] def c17_1 : Cmd := .ops [⟨some 7, .move (.tmp 0), 26, none⟩,
    ⟨some 8, .fieldAddr 30 (.tmp 3) 1, 0, none⟩,
    ⟨some 9, .load 3 (.tmp 8), 3, none⟩,
    ⟨some 10, .call { callee := (.value (.func 16)), args := #[(.tmp 9)], argTypes := #[3] }, 9, none⟩,
    ⟨some 11, .call { callee := (.value (.func 15)), args := #[(.tmp 7), (.tmp 10)], argTypes := #[26, 9] }, 3, none⟩,
    ⟨some 5, .assign (.tmp 11), 3, none⟩]
@[go_sem] def c17_2 : Cmd := .ops [⟨some 12, .fieldAddr 30 (.tmp 3) 0, 0, none⟩,
    ⟨some 13, .load 3 (.tmp 12), 3, none⟩]
@[go_sem] def c17_3 : Cmd := .ops [⟨some 15, .binOp .eql 3 (.tmp 13) (.const (.int .i64 1)) 3, 4, none⟩,
    ⟨some 14, .assign (.tmp 15), 4, none⟩]
@[go_sem] def c17_4 : Cmd := .ops [⟨some 16, .move (.tmp 5), 3, none⟩,
    ⟨some 17, .binOp .lss 3 (.tmp 16) (.const (.int .i64 0)) 3, 4, none⟩]
@[go_sem] def c17_5 : Cmd := .draw (.step 3 ⟨some 18, .move (.tmp 0), 26, none⟩
    (.step 3 ⟨some 20, .fieldAddr 30 (.tmp 3) 1, 0, none⟩
    (.step 0 ⟨some 21, .load 3 (.tmp 20), 3, none⟩
    (.step 1 ⟨some 19, .call { callee := (.value (.func 47)), args := #[(.tmp 18), (.const (.int .i64 (-1)))], argTypes := #[26, 3] }, 26, none⟩
    (.step 1 ⟨some 22, .call { callee := (.value (.func 16)), args := #[(.tmp 21)], argTypes := #[3] }, 9, none⟩
    (.step 3 ⟨some 23, .build 44 #[(0, (.tmp 22))], 44, none⟩
    (.step 1 ⟨some 24, .buildSlice 26 1 #[(0, (.tmp 23))], 26, none⟩
    (.step 2 ⟨some 25, .call { callee := (.builtin .append), args := #[(.tmp 19), (.tmp 24)], argTypes := #[26, 26] }, 26, none⟩
    (.step 3 ⟨some 0, .assign (.tmp 25), 26, none⟩
    .done)))))))))
@[go_sem] def c17_6 : Cmd := .cond (.tmp 17) c17_5 .skip
@[go_sem] def c17_7 : Cmd := .ops [⟨some 27, .binOp .eql 3 (.tmp 13) (.const (.int .i64 2)) 3, 4, none⟩,
    ⟨some 26, .assign (.tmp 27), 4, none⟩]
@[go_sem] def c17_8 : Cmd := .ops [⟨some 28, .move (.tmp 5), 3, none⟩,
    ⟨some 29, .binOp .geq 3 (.tmp 28) (.const (.int .i64 0)) 3, 4, none⟩]
@[go_sem] def c17_9 : Cmd := .ops [⟨some 30, .move (.tmp 0), 26, none⟩,
    ⟨some 31, .call { callee := (.value (.func 36)), args := #[(.tmp 30)], argTypes := #[26] }, 26, none⟩,
    ⟨some 0, .assign (.tmp 31), 26, none⟩]
@[go_sem] def c17_10 : Cmd := .draw (.step 3 ⟨some 32, .move (.tmp 0), 26, none⟩
    (.step 3 ⟨some 33, .move (.tmp 5), 3, none⟩
    (.step 3 ⟨some 34, .move (.tmp 0), 26, none⟩
    (.step 3 ⟨some 35, .move (.tmp 5), 3, none⟩
    (.step 3 ⟨some 36, .indexAddr 26 (.tmp 34) (.tmp 35), 0, none⟩
    (.step 3 ⟨some 37, .fieldAddr 44 (.tmp 36) 1, 0, none⟩
    (.step 0 ⟨some 38, .load 34 (.tmp 37), 34, none⟩
    (.step 0 ⟨some 39, .load 30 (.tmp 3), 30, none⟩
    (.step 1 ⟨some 40, .call { callee := (.value (.func 18)), args := #[(.tmp 39)], argTypes := #[30] }, 34, none⟩
    (.step 2 ⟨some 41, .call { callee := (.builtin .append), args := #[(.tmp 38), (.tmp 40)], argTypes := #[34, 34] }, 34, none⟩
    (.step 3 ⟨some 42, .indexAddr 26 (.tmp 32) (.tmp 33), 0, none⟩
    (.step 3 ⟨some 43, .fieldAddr 44 (.tmp 42) 1, 0, none⟩
    (.step 2 ⟨none, .store 34 (.tmp 43) (.tmp 41), 0, none⟩
    .done)))))))))))))
@[go_sem] def c17_11 : Cmd := .cond (.tmp 29) (.seq c17_9 c17_10) .skip
@[go_sem] def c17_12 : Cmd := .ops [⟨some 45, .binOp .eql 3 (.tmp 13) (.const (.int .i64 4)) 3, 4, none⟩,
    ⟨some 44, .assign (.tmp 45), 4, none⟩]
@[go_sem] def c17_13 : Cmd := .draw (.step 3 ⟨some 46, .move (.tmp 5), 3, none⟩
    (.step 3 ⟨some 47, .binOp .geq 3 (.tmp 46) (.const (.int .i64 0)) 3, 4, none⟩
    (.step 3 ⟨some 48, .move (.tmp 47), 4, none⟩
    (.step 3 ⟨some 49, .fieldAddr 30 (.tmp 3) 1, 0, some (48, true)⟩
    (.step 0 ⟨some 50, .load 3 (.tmp 49), 3, some (48, true)⟩
    (.step 3 ⟨some 52, .fieldAddr 30 (.tmp 3) 2, 0, some (48, true)⟩
    (.step 0 ⟨some 53, .load 3 (.tmp 52), 3, some (48, true)⟩
    (.step 1 ⟨some 51, .call { callee := (.value (.func 16)), args := #[(.tmp 50)], argTypes := #[3] }, 9, some (48, true)⟩
    (.step 1 ⟨some 54, .call { callee := (.value (.func 16)), args := #[(.tmp 53)], argTypes := #[3] }, 9, some (48, true)⟩
    (.step 3 ⟨some 55, .binOp .neq 9 (.tmp 51) (.tmp 54) 9, 4, some (48, true)⟩
    (.step 3 ⟨some 56, .pick (.tmp 48) (.tmp 55) (.const (.bool false)), 4, none⟩
    .done)))))))))))
@[go_sem] def c17_14 : Cmd := .ops [⟨some 57, .move (.tmp 0), 26, none⟩,
    ⟨some 58, .move (.tmp 5), 3, none⟩,
    ⟨some 59, .indexAddr 26 (.tmp 57) (.tmp 58), 0, none⟩,
    ⟨some 60, .load 44 (.tmp 59), 44, none⟩,
    ⟨some 6, .alloc 44, 0, none⟩,
    ⟨none, .store 44 (.tmp 6) (.tmp 60), 0, none⟩]
@[go_sem] def c17_15 : Cmd := .ops [⟨some 61, .move (.tmp 0), 26, none⟩,
    ⟨some 62, .move (.tmp 5), 3, none⟩,
    ⟨some 63, .call { callee := (.value (.func 47)), args := #[(.tmp 61), (.tmp 62)], argTypes := #[26, 3] }, 26, none⟩,
    ⟨some 0, .assign (.tmp 63), 26, none⟩]
@[go_sem] def c17_16 : Cmd := .ops [⟨some 64, .move (.tmp 0), 26, none⟩,
    ⟨some 65, .move (.tmp 0), 26, none⟩,
    ⟨some 66, .fieldAddr 30 (.tmp 3) 2, 0, none⟩,
    ⟨some 67, .load 3 (.tmp 66), 3, none⟩,
    ⟨some 68, .call { callee := (.value (.func 16)), args := #[(.tmp 67)], argTypes := #[3] }, 9, none⟩,
    ⟨some 69, .call { callee := (.value (.func 15)), args := #[(.tmp 65), (.tmp 68)], argTypes := #[26, 9] }, 3, none⟩,
    ⟨some 70, .call { callee := (.value (.func 47)), args := #[(.tmp 64), (.tmp 69)], argTypes := #[26, 3] }, 26, none⟩,
    ⟨some 0, .assign (.tmp 70), 26, none⟩]
@[go_sem] def c17_17 : Cmd := .draw (.step 3 ⟨some 71, .move (.tmp 0), 26, none⟩
    (.step 3 ⟨some 72, .fieldAddr 30 (.tmp 3) 2, 0, none⟩
    (.step 0 ⟨some 73, .load 3 (.tmp 72), 3, none⟩
    (.step 3 ⟨some 75, .fieldAddr 44 (.tmp 6) 1, 0, none⟩
    (.step 0 ⟨some 76, .load 34 (.tmp 75), 34, none⟩
    (.step 1 ⟨some 74, .call { callee := (.value (.func 16)), args := #[(.tmp 73)], argTypes := #[3] }, 9, none⟩
    (.step 3 ⟨some 77, .build 44 #[(0, (.tmp 74)), (1, (.tmp 76))], 44, none⟩
    (.step 1 ⟨some 78, .buildSlice 26 1 #[(0, (.tmp 77))], 26, none⟩
    (.step 2 ⟨some 79, .call { callee := (.builtin .append), args := #[(.tmp 71), (.tmp 78)], argTypes := #[26, 26] }, 26, none⟩
    (.step 3 ⟨some 0, .assign (.tmp 79), 26, none⟩
    .done))))))))))
@[go_sem] def c17_18 : Cmd := .cond (.tmp 56) (.seq c17_14 (.seq c17_15 (.seq c17_16 c17_17))) .skip
@[go_sem] def c17_19 : Cmd := .ops [⟨some 81, .binOp .eql 3 (.tmp 13) (.const (.int .i64 5)) 3, 4, none⟩,
    ⟨some 80, .assign (.tmp 81), 4, none⟩]
@[go_sem] def c17_20 : Cmd := .ops [⟨some 82, .move (.tmp 0), 26, none⟩,
    ⟨some 83, .move (.tmp 5), 3, none⟩,
    ⟨some 84, .call { callee := (.value (.func 47)), args := #[(.tmp 82), (.tmp 83)], argTypes := #[26, 3] }, 26, none⟩,
    ⟨some 0, .assign (.tmp 84), 26, none⟩]
@[go_sem] def c17_21 : Cmd := .cond (.tmp 80) c17_20 .skip
@[go_sem] def c17_22 : Cmd := .cond (.tmp 44) (.seq c17_13 c17_18) (.seq c17_19 c17_21)
@[go_sem] def c17_23 : Cmd := .cond (.tmp 26) (.seq c17_8 c17_11) (.seq c17_12 c17_22)
@[go_sem] def c17_24 : Cmd := .cond (.tmp 14) (.seq c17_4 c17_6) (.seq c17_7 c17_23)
@[go_sem] def c17_25 : Cmd := .block 0 (.seq c17_3 c17_24)
@[go_sem] def c17_26 : Cmd := .ops [⟨some 85, .move (.tmp 0), 26, none⟩,
    ⟨some 4, .assign (.tmp 85), 26, none⟩]
@[go_sem] def c17 : Cmd := (.seq c17_0 (.seq c17_1 (.seq (.seq c17_2 c17_25) (.seq c17_26 .ret))))
theorem b17 : Try.f17.body.map (comp 86) = some c17 := by kernel_rfl
theorem r17 : Try.f17.results.toList = [.tmp 4] := by kernel_rfl
-- 18 pith/pithlaw8.bytes
@[go_sem] def c18_0 : Cmd := .ops [⟨some 1, .box 30 (.tmp 0), 0, none⟩,
    ⟨some 2, .assign (.const (.slice none 0 0)), 34, none⟩]
@[go_sem] def c18_1 : Cmd := .ops [⟨some 5, .fieldAddr 30 (.tmp 1) 3, 0, none⟩,
    ⟨some 6, .load 3 (.tmp 5), 3, none⟩,
    ⟨some 7, .binOp .rem 3 (.tmp 6) (.const (.int .i64 51)) 3, 3, none⟩,
    ⟨some 8, .binOp .add 3 (.tmp 7) (.const (.int .i64 51)) 3, 3, none⟩,
    ⟨some 9, .binOp .rem 3 (.tmp 8) (.const (.int .i64 51)) 3, 3, none⟩,
    ⟨some 10, .makeSlice 34 (.tmp 9) (.tmp 9), 34, none⟩,
    ⟨some 3, .assign (.tmp 10), 34, none⟩]
@[go_sem] def c18_2 : Cmd := .ops [⟨some 4, .assign (.const (.int .i64 0)), 3, none⟩]
@[go_sem] def c18_3 : Cmd := .ops [⟨some 11, .move (.tmp 4), 3, none⟩,
    ⟨some 12, .move (.tmp 3), 34, none⟩,
    ⟨some 13, .call { callee := (.builtin .len), args := #[(.tmp 12)], argTypes := #[34] }, 3, none⟩,
    ⟨some 14, .binOp .lss 3 (.tmp 11) (.tmp 13) 3, 4, none⟩]
@[go_sem] def c18_4 : Cmd := .cond (.tmp 14) .skip (.exit 0)
@[go_sem] def c18_5 : Cmd := .ops [⟨some 17, .move (.tmp 3), 34, none⟩,
    ⟨some 18, .move (.tmp 4), 3, none⟩,
    ⟨some 19, .fieldAddr 30 (.tmp 1) 4, 0, none⟩,
    ⟨some 20, .load 5 (.tmp 19), 5, none⟩,
    ⟨some 21, .move (.tmp 4), 3, none⟩,
    ⟨some 22, .convert 3 5 (.tmp 21), 5, none⟩,
    ⟨some 23, .binOp .add 5 (.tmp 20) (.tmp 22) 5, 5, none⟩,
    ⟨some 24, .indexAddr 34 (.tmp 17) (.tmp 18), 0, none⟩,
    ⟨none, .store 5 (.tmp 24) (.tmp 23), 0, none⟩]
@[go_sem] def c18_6 : Cmd := .block 1 c18_5
@[go_sem] def c18_7 : Cmd := .ops [⟨some 15, .move (.tmp 4), 3, none⟩,
    ⟨some 16, .binOp .add 3 (.tmp 15) (.const (.int .i64 1)) 3, 3, none⟩,
    ⟨some 4, .assign (.tmp 16), 3, none⟩]
def c18_L0 : Cmd := (.seq (.seq c18_3 c18_4) (.seq c18_6 c18_7))
@[go_sem] def c18_8 : Cmd := .loop c18_L0
@[go_sem] def c18_9 : Cmd := .block 0 c18_8
@[go_sem] def c18_10 : Cmd := .ops [⟨some 25, .move (.tmp 3), 34, none⟩,
    ⟨some 2, .assign (.tmp 25), 34, none⟩]
@[go_sem] def c18 : Cmd := (.seq c18_0 (.seq c18_1 (.seq (.seq c18_2 c18_9) (.seq c18_10 .ret))))
theorem b18 : Try.f18.body.map (comp 26) = some c18 := by kernel_rfl
theorem r18 : Try.f18.results.toList = [.tmp 2] := by kernel_rfl
-- 19 pith/pithlaw8.says
@[go_sem] def c19_0 : Cmd := .ops [⟨some 4, .assign (.const (.bool false)), 4, none⟩]
@[go_sem] def c19_1 : Cmd := .ops [⟨some 13, .move (.tmp 0), 24, none⟩,
    ⟨some 14, .call { callee := (.value (.func 33)), args := #[(.tmp 13)], argTypes := #[24] }, 58, none⟩,
    ⟨some 5, .assign (.tmp 14), 58, none⟩]
@[go_sem] def c19_2 : Cmd := .ops [⟨some 15, .move (.tmp 5), 58, none⟩,
    ⟨some 16, .call { callee := (.builtin .len), args := #[(.tmp 15)], argTypes := #[58] }, 3, none⟩,
    ⟨some 17, .move (.tmp 1), 26, none⟩,
    ⟨some 18, .call { callee := (.builtin .len), args := #[(.tmp 17)], argTypes := #[26] }, 3, none⟩,
    ⟨some 19, .binOp .neq 3 (.tmp 16) (.tmp 18) 3, 4, none⟩]
@[go_sem] def c19_3 : Cmd := .ops [⟨some 4, .assign (.const (.bool false)), 4, none⟩]
@[go_sem] def c19_4 : Cmd := .cond (.tmp 19) (.seq c19_3 .ret) .skip
@[go_sem] def c19_5 : Cmd := .ops [⟨some 6, .assign (.const (.int .i64 0)), 3, none⟩]
@[go_sem] def c19_6 : Cmd := .ops [⟨some 20, .move (.tmp 6), 3, none⟩,
    ⟨some 21, .move (.tmp 5), 58, none⟩,
    ⟨some 22, .call { callee := (.builtin .len), args := #[(.tmp 21)], argTypes := #[58] }, 3, none⟩,
    ⟨some 23, .binOp .lss 3 (.tmp 20) (.tmp 22) 3, 4, none⟩]
@[go_sem] def c19_7 : Cmd := .cond (.tmp 23) .skip (.exit 0)
@[go_sem] def c19_8 : Cmd := .ops [⟨some 26, .move (.tmp 1), 26, none⟩,
    ⟨some 27, .move (.tmp 5), 58, none⟩,
    ⟨some 28, .move (.tmp 6), 3, none⟩,
    ⟨some 29, .indexAddr 58 (.tmp 27) (.tmp 28), 0, none⟩,
    ⟨some 30, .load 9 (.tmp 29), 9, none⟩,
    ⟨some 31, .call { callee := (.value (.func 15)), args := #[(.tmp 26), (.tmp 30)], argTypes := #[26, 9] }, 3, none⟩,
    ⟨some 7, .assign (.tmp 31), 3, none⟩]
@[go_sem] def c19_9 : Cmd := .quiet [⟨some 32, .move (.tmp 7), 3, none⟩,
    ⟨some 33, .binOp .lss 3 (.tmp 32) (.const (.int .i64 0)) 3, 4, none⟩,
    ⟨some 34, .move (.tmp 33), 4, none⟩,
    ⟨some 35, .move (.tmp 6), 3, some (34, false)⟩,
    ⟨some 36, .binOp .gtr 3 (.tmp 35) (.const (.int .i64 0)) 3, 4, some (34, false)⟩,
    ⟨some 37, .move (.tmp 36), 4, some (34, false)⟩,
    ⟨some 38, .move (.tmp 5), 58, some (37, true)⟩,
    ⟨some 39, .move (.tmp 6), 3, some (37, true)⟩,
    ⟨some 40, .indexAddr 58 (.tmp 38) (.tmp 39), 0, some (37, true)⟩,
    ⟨some 41, .load 9 (.tmp 40), 9, some (37, true)⟩,
    ⟨some 42, .move (.tmp 5), 58, some (37, true)⟩,
    ⟨some 43, .move (.tmp 6), 3, some (37, true)⟩,
    ⟨some 44, .binOp .sub 3 (.tmp 43) (.const (.int .i64 1)) 3, 3, some (37, true)⟩,
    ⟨some 45, .indexAddr 58 (.tmp 42) (.tmp 44), 0, some (37, true)⟩,
    ⟨some 46, .load 9 (.tmp 45), 9, some (37, true)⟩,
    ⟨some 47, .binOp .leq 9 (.tmp 41) (.tmp 46) 9, 4, some (37, true)⟩,
    ⟨some 48, .pick (.tmp 37) (.tmp 47) (.const (.bool false)), 4, some (34, false)⟩,
    ⟨some 49, .pick (.tmp 34) (.const (.bool true)) (.tmp 48), 4, none⟩]
@[go_sem] def c19_10 : Cmd := .ops [⟨some 4, .assign (.const (.bool false)), 4, none⟩]
@[go_sem] def c19_11 : Cmd := .cond (.tmp 49) (.seq c19_10 .ret) .skip
@[go_sem] def c19_12 : Cmd := .ops [⟨some 51, .move (.tmp 0), 24, none⟩,
    ⟨some 52, .move (.tmp 5), 58, none⟩,
    ⟨some 53, .move (.tmp 6), 3, none⟩,
    ⟨some 54, .indexAddr 58 (.tmp 52) (.tmp 53), 0, none⟩,
    ⟨some 55, .load 9 (.tmp 54), 9, none⟩,
    ⟨some 56, .call { callee := (.value (.func 32)), args := #[(.tmp 51), (.tmp 55)], argTypes := #[24, 9] }, 56, none⟩,
    ⟨some 50, .move (.tmp 56), 56, none⟩,
    ⟨some 57, .extract (.tmp 50) 0, 3, none⟩,
    ⟨some 58, .extract (.tmp 50) 1, 39, none⟩,
    ⟨some 8, .assign (.tmp 57), 3, none⟩,
    ⟨some 9, .assign (.tmp 58), 39, none⟩]
@[go_sem] def c19_13 : Cmd := .ops [⟨some 60, .move (.tmp 0), 24, none⟩,
    ⟨some 61, .move (.tmp 5), 58, none⟩,
    ⟨some 62, .move (.tmp 6), 3, none⟩,
    ⟨some 63, .indexAddr 58 (.tmp 61) (.tmp 62), 0, none⟩,
    ⟨some 64, .load 9 (.tmp 63), 9, none⟩,
    ⟨some 65, .call { callee := (.value (.func 31)), args := #[(.tmp 60), (.tmp 64), (.const (.int .i64 0)), (.const (.int .i64 1073741824))], argTypes := #[24, 9, 3, 3] }, 54, none⟩,
    ⟨some 59, .move (.tmp 65), 54, none⟩,
    ⟨some 66, .extract (.tmp 59) 0, 34, none⟩,
    ⟨some 67, .extract (.tmp 59) 1, 39, none⟩,
    ⟨some 10, .assign (.tmp 66), 34, none⟩,
    ⟨some 11, .assign (.tmp 67), 39, none⟩]
@[go_sem] def c19_14 : Cmd := .ops [⟨some 68, .move (.tmp 10), 34, none⟩,
    ⟨some 69, .move (.tmp 1), 26, none⟩,
    ⟨some 70, .move (.tmp 7), 3, none⟩,
    ⟨some 71, .indexAddr 26 (.tmp 69) (.tmp 70), 0, none⟩,
    ⟨some 72, .fieldAddr 44 (.tmp 71) 1, 0, none⟩,
    ⟨some 73, .load 34 (.tmp 72), 34, none⟩,
    ⟨some 74, .call { callee := (.value (.func 48)), args := #[(.tmp 68), (.tmp 73)], argTypes := #[34, 34] }, 4, none⟩,
    ⟨some 12, .assign (.tmp 74), 4, none⟩]
@[go_sem] def c19_15 : Cmd := .ops [⟨some 75, .move (.tmp 9), 39, none⟩,
    ⟨some 76, .call { callee := (.value (.func 22)), args := #[(.tmp 75)], argTypes := #[39] }, 3, none⟩,
    ⟨some 77, .binOp .neq 3 (.tmp 76) (.const (.int .i64 0)) 3, 4, none⟩,
    ⟨some 78, .move (.tmp 77), 4, none⟩,
    ⟨some 79, .move (.tmp 11), 39, some (78, false)⟩,
    ⟨some 80, .call { callee := (.value (.func 22)), args := #[(.tmp 79)], argTypes := #[39] }, 3, some (78, false)⟩,
    ⟨some 81, .binOp .neq 3 (.tmp 80) (.const (.int .i64 0)) 3, 4, some (78, false)⟩,
    ⟨some 82, .pick (.tmp 78) (.const (.bool true)) (.tmp 81), 4, none⟩,
    ⟨some 83, .move (.tmp 82), 4, none⟩,
    ⟨some 84, .move (.tmp 8), 3, some (83, false)⟩,
    ⟨some 85, .move (.tmp 1), 26, some (83, false)⟩,
    ⟨some 86, .move (.tmp 7), 3, some (83, false)⟩,
    ⟨some 87, .indexAddr 26 (.tmp 85) (.tmp 86), 0, some (83, false)⟩,
    ⟨some 88, .fieldAddr 44 (.tmp 87) 1, 0, some (83, false)⟩,
    ⟨some 89, .load 34 (.tmp 88), 34, some (83, false)⟩,
    ⟨some 90, .call { callee := (.builtin .len), args := #[(.tmp 89)], argTypes := #[34] }, 3, some (83, false)⟩,
    ⟨some 91, .binOp .neq 3 (.tmp 84) (.tmp 90) 3, 4, some (83, false)⟩,
    ⟨some 92, .pick (.tmp 83) (.const (.bool true)) (.tmp 91), 4, none⟩,
    ⟨some 93, .move (.tmp 92), 4, none⟩,
    ⟨some 94, .move (.tmp 12), 4, some (93, false)⟩,
    ⟨some 95, .unOp .not 4 (.tmp 94), 4, some (93, false)⟩,
    ⟨some 96, .pick (.tmp 93) (.const (.bool true)) (.tmp 95), 4, none⟩]
@[go_sem] def c19_16 : Cmd := .ops [⟨some 4, .assign (.const (.bool false)), 4, none⟩]
@[go_sem] def c19_17 : Cmd := .cond (.tmp 96) (.seq c19_16 .ret) .skip
@[go_sem] def c19_18 : Cmd := .block 1 (.seq c19_8 (.seq (.seq c19_9 c19_11) (.seq c19_12 (.seq c19_13 (.seq c19_14 (.seq c19_15 c19_17))))))
@[go_sem] def c19_19 : Cmd := .ops [⟨some 24, .move (.tmp 6), 3, none⟩,
    ⟨some 25, .binOp .add 3 (.tmp 24) (.const (.int .i64 1)) 3, 3, none⟩,
    ⟨some 6, .assign (.tmp 25), 3, none⟩]
def c19_L0 : Cmd := (.seq (.seq c19_6 c19_7) (.seq c19_18 c19_19))
@[go_sem] def c19_20 : Cmd := .loop c19_L0
@[go_sem] def c19_21 : Cmd := .block 0 c19_20
@[go_sem] def c19_22 : Cmd := .ops [⟨some 4, .assign (.const (.bool true)), 4, none⟩]
@[go_sem] def c19 : Cmd := (.seq c19_0 (.seq c19_1 (.seq (.seq c19_2 c19_4) (.seq (.seq c19_5 c19_21) (.seq c19_22 .ret)))))
theorem b19 : Try.f19.body.map (comp 97) = some c19 := by kernel_rfl
theorem r19 : Try.f19.results.toList = [.tmp 4] := by kernel_rfl
-- 20 (*pith/fs.FS).Append
@[go_sem] def c20_0 : Cmd := .ops [⟨some 6, .assign (.const (.int .i64 0)), 39, none⟩]
@[go_sem] def c20_1 : Cmd := .ops [⟨some 10, .move (.tmp 0), 24, none⟩,
    ⟨some 11, .move (.tmp 1), 9, none⟩,
    ⟨some 12, .call { callee := (.value (.func 49)), args := #[(.tmp 10), (.tmp 11)], argTypes := #[24, 9] }, 89, none⟩,
    ⟨some 9, .move (.tmp 12), 89, none⟩,
    ⟨some 13, .extract (.tmp 9) 0, 85, none⟩,
    ⟨some 14, .extract (.tmp 9) 1, 39, none⟩,
    ⟨some 7, .assign (.tmp 13), 85, none⟩,
    ⟨some 8, .assign (.tmp 14), 39, none⟩]
@[go_sem] def c20_2 : Cmd := .ops [⟨some 15, .move (.tmp 8), 39, none⟩,
    ⟨some 16, .binOp .neq 39 (.tmp 15) (.const (.int .i64 0)) 39, 4, none⟩]
@[go_sem] def c20_3 : Cmd := .ops [⟨some 17, .move (.tmp 8), 39, none⟩,
    ⟨some 6, .assign (.tmp 17), 39, none⟩]
@[go_sem] def c20_4 : Cmd := .cond (.tmp 16) (.seq c20_3 .ret) .skip
@[go_sem] def c20_5 : Cmd := .draw (.step 3 ⟨some 18, .move (.tmp 2), 34, none⟩
    (.step 3 ⟨some 19, .call { callee := (.builtin .len), args := #[(.tmp 18)], argTypes := #[34] }, 3, none⟩
    (.step 3 ⟨some 20, .move (.tmp 0), 24, none⟩
    (.step 3 ⟨some 21, .nilCheck (.tmp 20), 0, none⟩
    (.step 3 ⟨some 22, .fieldAddr 84 (.tmp 21) 0, 0, none⟩
    (.step 0 ⟨some 23, .load 3 (.tmp 22), 3, none⟩
    (.step 3 ⟨some 24, .move (.tmp 0), 24, none⟩
    (.step 1 ⟨some 25, .call { callee := (.value (.func 13)), args := #[(.tmp 24)], argTypes := #[24] }, 3, none⟩
    (.step 3 ⟨some 26, .binOp .sub 3 (.tmp 23) (.tmp 25) 3, 3, none⟩
    (.step 3 ⟨some 27, .binOp .gtr 3 (.tmp 19) (.tmp 26) 3, 4, none⟩
    .done))))))))))
@[go_sem] def c20_6 : Cmd := .ops [⟨some 6, .assign (.const (.int .i64 80)), 39, none⟩]
@[go_sem] def c20_7 : Cmd := .cond (.tmp 27) (.seq c20_6 .ret) .skip
@[go_sem] def c20_8 : Cmd := .ops [⟨some 28, .move (.tmp 7), 85, none⟩,
    ⟨some 29, .move (.tmp 7), 85, none⟩,
    ⟨some 30, .nilCheck (.tmp 29), 0, none⟩,
    ⟨some 31, .fieldAddr 87 (.tmp 30) 0, 0, none⟩,
    ⟨some 32, .load 34 (.tmp 31), 34, none⟩,
    ⟨some 33, .move (.tmp 2), 34, none⟩,
    ⟨some 34, .call { callee := (.builtin .append), args := #[(.tmp 32), (.tmp 33)], argTypes := #[34, 34] }, 34, none⟩,
    ⟨some 35, .nilCheck (.tmp 28), 0, none⟩,
    ⟨some 36, .fieldAddr 87 (.tmp 35) 0, 0, none⟩,
    ⟨none, .store 34 (.tmp 36) (.tmp 34), 0, none⟩]
@[go_sem] def c20_9 : Cmd := .ops [⟨some 37, .move (.tmp 0), 24, none⟩,
    ⟨some 38, .call { callee := (.value (.func 50)), args := #[(.tmp 37)], argTypes := #[24] }, 39, none⟩,
    ⟨some 6, .assign (.tmp 38), 39, none⟩]
@[go_sem] def c20 : Cmd := (.seq c20_0 (.seq c20_1 (.seq (.seq c20_2 c20_4) (.seq (.seq c20_5 c20_7) (.seq c20_8 (.seq c20_9 .ret))))))
theorem b20 : Try.f20.body.map (comp 39) = some c20 := by kernel_rfl
theorem r20 : Try.f20.results.toList = [.tmp 6] := by kernel_rfl
-- 21 (*pith/fs.FS).Sync
@[go_sem] def c21_0 : Cmd := .ops [⟨some 4, .assign (.const (.int .i64 0)), 39, none⟩]
@[go_sem] def c21_1 : Cmd := .ops [⟨some 8, .move (.tmp 0), 24, none⟩,
    ⟨some 9, .move (.tmp 1), 9, none⟩,
    ⟨some 10, .call { callee := (.value (.func 49)), args := #[(.tmp 8), (.tmp 9)], argTypes := #[24, 9] }, 89, none⟩,
    ⟨some 7, .move (.tmp 10), 89, none⟩,
    ⟨some 11, .extract (.tmp 7) 0, 85, none⟩,
    ⟨some 12, .extract (.tmp 7) 1, 39, none⟩,
    ⟨some 5, .assign (.tmp 11), 85, none⟩,
    ⟨some 6, .assign (.tmp 12), 39, none⟩]
@[go_sem] def c21_2 : Cmd := .ops [⟨some 13, .move (.tmp 6), 39, none⟩,
    ⟨some 14, .binOp .neq 39 (.tmp 13) (.const (.int .i64 0)) 39, 4, none⟩]
@[go_sem] def c21_3 : Cmd := .ops [⟨some 15, .move (.tmp 6), 39, none⟩,
    ⟨some 4, .assign (.tmp 15), 39, none⟩]
@[go_sem] def c21_4 : Cmd := .cond (.tmp 14) (.seq c21_3 .ret) .skip
@[go_sem] def c21_5 : Cmd := .ops [⟨some 16, .move (.tmp 0), 24, none⟩,
    ⟨some 17, .call { callee := (.value (.func 50)), args := #[(.tmp 16)], argTypes := #[24] }, 39, none⟩,
    ⟨some 6, .assign (.tmp 17), 39, none⟩]
@[go_sem] def c21_6 : Cmd := .ops [⟨some 18, .move (.tmp 6), 39, none⟩,
    ⟨some 19, .binOp .eql 39 (.tmp 18) (.const (.int .i64 0)) 39, 4, none⟩]
@[go_sem] def c21_7 : Cmd := .ops [⟨some 20, .move (.tmp 5), 85, none⟩,
    ⟨some 21, .move (.tmp 5), 85, none⟩,
    ⟨some 22, .nilCheck (.tmp 21), 0, none⟩,
    ⟨some 23, .fieldAddr 87 (.tmp 22) 0, 0, none⟩,
    ⟨some 24, .load 34 (.tmp 23), 34, none⟩,
    ⟨some 25, .call { callee := (.builtin .len), args := #[(.tmp 24)], argTypes := #[34] }, 3, none⟩,
    ⟨some 26, .nilCheck (.tmp 20), 0, none⟩,
    ⟨some 27, .fieldAddr 87 (.tmp 26) 1, 0, none⟩,
    ⟨none, .store 3 (.tmp 27) (.tmp 25), 0, none⟩]
@[go_sem] def c21_8 : Cmd := .cond (.tmp 19) c21_7 .skip
@[go_sem] def c21_9 : Cmd := .ops [⟨some 28, .move (.tmp 6), 39, none⟩,
    ⟨some 4, .assign (.tmp 28), 39, none⟩]
@[go_sem] def c21 : Cmd := (.seq c21_0 (.seq c21_1 (.seq (.seq c21_2 c21_4) (.seq (.seq c21_5 (.seq c21_6 c21_8)) (.seq c21_9 .ret)))))
theorem b21 : Try.f21.body.map (comp 29) = some c21 := by kernel_rfl
theorem r21 : Try.f21.results.toList = [.tmp 4] := by kernel_rfl
-- 22 pith/pithlaw8.num
@[go_sem] def c22_0 : Cmd := .ops [⟨some 2, .assign (.const (.int .i64 0)), 3, none⟩]
@[go_sem] def c22_1 : Cmd := .ops [⟨some 3, .move (.tmp 0), 39, none⟩,
    ⟨some 2, .assign (.tmp 3), 3, none⟩]
@[go_sem] def c22 : Cmd := (.seq c22_0 (.seq c22_1 .ret))
theorem b22 : Try.f22.body.map (comp 4) = some c22 := by kernel_rfl
theorem r22 : Try.f22.results.toList = [.tmp 2] := by kernel_rfl
-- 23 pith/pithlaw8.named
@[go_sem] def c23_0 : Cmd := .ops [⟨some 6, .assign (.const (.slice none 0 0)), 26, none⟩]
@[go_sem] def c23_1 : Cmd := .ops [⟨some 7, .assign (.const (.slice none 0 0)), 26, none⟩]
@[go_sem] def c23_2 : Cmd := .ops [⟨some 8, .assign (.const (.int .i64 0)), 3, none⟩]
@[go_sem] def c23_3 : Cmd := .ops [⟨some 10, .move (.tmp 8), 3, none⟩,
    ⟨some 11, .move (.tmp 0), 26, none⟩,
    ⟨some 12, .call { callee := (.builtin .len), args := #[(.tmp 11)], argTypes := #[26] }, 3, none⟩,
    ⟨some 13, .binOp .lss 3 (.tmp 10) (.tmp 12) 3, 4, none⟩]
@[go_sem] def c23_4 : Cmd := .cond (.tmp 13) .skip (.exit 0)
@[go_sem] def c23_5 : Cmd := .ops [⟨some 16, .move (.tmp 0), 26, none⟩,
    ⟨some 17, .move (.tmp 8), 3, none⟩,
    ⟨some 18, .indexAddr 26 (.tmp 16) (.tmp 17), 0, none⟩,
    ⟨some 19, .fieldAddr 44 (.tmp 18) 1, 0, none⟩,
    ⟨some 20, .load 34 (.tmp 19), 34, none⟩,
    ⟨some 21, .move (.tmp 1), 34, none⟩,
    ⟨some 22, .call { callee := (.value (.func 48)), args := #[(.tmp 20), (.tmp 21)], argTypes := #[34, 34] }, 4, none⟩,
    ⟨some 9, .assign (.tmp 22), 4, none⟩]
@[go_sem] def c23_6 : Cmd := .ops [⟨some 23, .move (.tmp 9), 4, none⟩,
    ⟨some 24, .unOp .not 4 (.tmp 23), 4, none⟩,
    ⟨some 25, .move (.tmp 24), 4, none⟩,
    ⟨some 26, .move (.tmp 0), 26, some (25, true)⟩,
    ⟨some 27, .move (.tmp 8), 3, some (25, true)⟩,
    ⟨some 28, .indexAddr 26 (.tmp 26) (.tmp 27), 0, some (25, true)⟩,
    ⟨some 29, .fieldAddr 44 (.tmp 28) 0, 0, some (25, true)⟩,
    ⟨some 30, .load 9 (.tmp 29), 9, some (25, true)⟩,
    ⟨some 31, .move (.tmp 2), 9, some (25, true)⟩,
    ⟨some 32, .binOp .neq 9 (.tmp 30) (.tmp 31) 9, 4, some (25, true)⟩,
    ⟨some 33, .pick (.tmp 25) (.tmp 32) (.const (.bool false)), 4, none⟩]
@[go_sem] def c23_7 : Cmd := .ops [⟨some 34, .move (.tmp 7), 26, none⟩,
    ⟨some 35, .move (.tmp 0), 26, none⟩,
    ⟨some 36, .move (.tmp 8), 3, none⟩,
    ⟨some 37, .indexAddr 26 (.tmp 35) (.tmp 36), 0, none⟩,
    ⟨some 38, .load 44 (.tmp 37), 44, none⟩,
    ⟨some 39, .buildSlice 26 1 #[(0, (.tmp 38))], 26, none⟩,
    ⟨some 40, .call { callee := (.builtin .append), args := #[(.tmp 34), (.tmp 39)], argTypes := #[26, 26] }, 26, none⟩,
    ⟨some 7, .assign (.tmp 40), 26, none⟩]
@[go_sem] def c23_8 : Cmd := .cond (.tmp 33) c23_7 .skip
@[go_sem] def c23_9 : Cmd := .block 1 (.seq c23_5 (.seq c23_6 c23_8))
@[go_sem] def c23_10 : Cmd := .ops [⟨some 14, .move (.tmp 8), 3, none⟩,
    ⟨some 15, .binOp .add 3 (.tmp 14) (.const (.int .i64 1)) 3, 3, none⟩,
    ⟨some 8, .assign (.tmp 15), 3, none⟩]
def c23_L0 : Cmd := (.seq (.seq c23_3 c23_4) (.seq c23_9 c23_10))
@[go_sem] def c23_11 : Cmd := .loop c23_L0
@[go_sem] def c23_12 : Cmd := .block 0 c23_11
@[go_sem] def c23_13 : Cmd := .ops [⟨some 41, .move (.tmp 2), 9, none⟩,
    ⟨some 42, .binOp .eql 9 (.tmp 41) (.const (.string ⟨#[]⟩)) 9, 4, none⟩]
@[go_sem] def c23_14 : Cmd := .ops [⟨some 43, .move (.tmp 7), 26, none⟩,
    ⟨some 6, .assign (.tmp 43), 26, none⟩]
@[go_sem] def c23_15 : Cmd := .cond (.tmp 42) (.seq c23_14 .ret) .skip
@[go_sem] def c23_16 : Cmd := .ops [⟨some 44, .move (.tmp 7), 26, none⟩,
    ⟨some 45, .move (.tmp 2), 9, none⟩,
    ⟨some 46, .move (.tmp 1), 34, none⟩,
    ⟨some 47, .build 44 #[(0, (.tmp 45)), (1, (.tmp 46))], 44, none⟩,
    ⟨some 48, .buildSlice 26 1 #[(0, (.tmp 47))], 26, none⟩,
    ⟨some 49, .call { callee := (.builtin .append), args := #[(.tmp 44), (.tmp 48)], argTypes := #[26, 26] }, 26, none⟩,
    ⟨some 6, .assign (.tmp 49), 26, none⟩]
@[go_sem] def c23 : Cmd := (.seq c23_0 (.seq c23_1 (.seq (.seq c23_2 c23_12) (.seq (.seq c23_13 c23_15) (.seq c23_16 .ret)))))
theorem b23 : Try.f23.body.map (comp 50) = some c23 := by kernel_rfl
theorem r23 : Try.f23.results.toList = [.tmp 6] := by kernel_rfl
-- 24 (*pith/fs.FS).Pending
@[go_sem] def c24_0 : Cmd := .ops [⟨some 2, .assign (.const (.int .i64 0)), 3, none⟩]
@[go_sem] def c24_1 : Cmd := .ops [⟨some 3, .move (.tmp 0), 24, none⟩,
    ⟨some 4, .nilCheck (.tmp 3), 0, none⟩,
    ⟨some 5, .fieldAddr 84 (.tmp 4) 3, 0, none⟩,
    ⟨some 6, .load 82 (.tmp 5), 82, none⟩,
    ⟨some 7, .call { callee := (.builtin .len), args := #[(.tmp 6)], argTypes := #[82] }, 3, none⟩,
    ⟨some 2, .assign (.tmp 7), 3, none⟩]
@[go_sem] def c24 : Cmd := (.seq c24_0 (.seq c24_1 .ret))
theorem b24 : Try.f24.body.map (comp 8) = some c24 := by kernel_rfl
theorem r24 : Try.f24.results.toList = [.tmp 2] := by kernel_rfl
-- 25 (*pith/fs.FS).Crash
@[go_sem] def c25_0 : Cmd := .ops [⟨some 10, .move (.tmp 0), 24, none⟩,
    ⟨some 11, .move (.tmp 0), 24, none⟩,
    ⟨some 12, .move (.tmp 1), 3, none⟩,
    ⟨some 13, .call { callee := (.value (.func 51)), args := #[(.tmp 11), (.tmp 12)], argTypes := #[24, 3] }, 80, none⟩,
    ⟨some 14, .nilCheck (.tmp 10), 0, none⟩,
    ⟨some 15, .fieldAddr 84 (.tmp 14) 1, 0, none⟩,
    ⟨none, .store 80 (.tmp 15) (.tmp 13), 0, none⟩]
@[go_sem] def c25_1 : Cmd := .ops [⟨some 16, .move (.tmp 0), 24, none⟩,
    ⟨some 17, .nilCheck (.tmp 16), 0, none⟩,
    ⟨some 18, .fieldAddr 84 (.tmp 17) 1, 0, none⟩,
    ⟨some 19, .load 80 (.tmp 18), 80, none⟩,
    ⟨some 20, .call { callee := (.value (.func 53)), args := #[(.tmp 19)], argTypes := #[80] }, 94, none⟩,
    ⟨some 21, .call { callee := (.value (.func 52)), args := #[(.tmp 20)], argTypes := #[94] }, 58, none⟩,
    ⟨some 22, .call { callee := (.builtin .len), args := #[(.tmp 21)], argTypes := #[58] }, 3, none⟩,
    ⟨some 23, .move (.const (.int .i64 0)), 3, none⟩]
@[go_sem] def c25_2 : Cmd := .ops [⟨some 24, .binOp .lss 3 (.tmp 23) (.tmp 22) 3, 0, none⟩]
@[go_sem] def c25_3 : Cmd := .cond (.tmp 24) .skip (.exit 0)
@[go_sem] def c25_4 : Cmd := .ops [⟨some 25, .move (.tmp 23), 3, none⟩,
    ⟨some 26, .indexAddr 58 (.tmp 21) (.tmp 23), 0, none⟩,
    ⟨some 27, .load 9 (.tmp 26), 9, none⟩,
    ⟨some 6, .assign (.tmp 25), 3, none⟩,
    ⟨some 7, .assign (.tmp 27), 9, none⟩]
@[go_sem] def c25_5 : Cmd := .ops [⟨some 28, .move (.tmp 0), 24, none⟩,
    ⟨some 29, .nilCheck (.tmp 28), 0, none⟩,
    ⟨some 30, .fieldAddr 84 (.tmp 29) 1, 0, none⟩,
    ⟨some 31, .load 80 (.tmp 30), 80, none⟩,
    ⟨some 32, .move (.tmp 7), 9, none⟩,
    ⟨some 33, .lookup 80 (.tmp 31) (.tmp 32) false, 85, none⟩,
    ⟨some 8, .assign (.tmp 33), 85, none⟩,
    ⟨some 9, .assign (.const (.int .i64 0)), 3, none⟩]
@[go_sem] def c25_6 : Cmd := .ops [⟨some 34, .move (.tmp 6), 3, none⟩,
    ⟨some 35, .move (.tmp 2), 62, none⟩,
    ⟨some 36, .call { callee := (.builtin .len), args := #[(.tmp 35)], argTypes := #[62] }, 3, none⟩,
    ⟨some 37, .binOp .lss 3 (.tmp 34) (.tmp 36) 3, 4, none⟩]
@[go_sem] def c25_7 : Cmd := .ops [⟨some 38, .move (.tmp 2), 62, none⟩,
    ⟨some 39, .move (.tmp 6), 3, none⟩,
    ⟨some 40, .indexAddr 62 (.tmp 38) (.tmp 39), 0, none⟩,
    ⟨some 41, .load 3 (.tmp 40), 3, none⟩,
    ⟨some 42, .call { callee := (.builtin .max), args := #[(.tmp 41), (.const (.int .i64 0))], argTypes := #[3, 3] }, 3, none⟩,
    ⟨some 9, .assign (.tmp 42), 3, none⟩]
@[go_sem] def c25_8 : Cmd := .cond (.tmp 37) c25_7 .skip
@[go_sem] def c25_9 : Cmd := .still 23 [⟨some 43, .move (.tmp 8), 85, none⟩,
    ⟨some 44, .move (.tmp 8), 85, none⟩,
    ⟨some 45, .nilCheck (.tmp 44), 0, none⟩,
    ⟨some 46, .fieldAddr 87 (.tmp 45) 0, 0, none⟩,
    ⟨some 47, .load 34 (.tmp 46), 34, none⟩,
    ⟨some 48, .move (.tmp 8), 85, none⟩,
    ⟨some 49, .nilCheck (.tmp 48), 0, none⟩,
    ⟨some 50, .fieldAddr 87 (.tmp 49) 1, 0, none⟩,
    ⟨some 51, .load 3 (.tmp 50), 3, none⟩,
    ⟨some 52, .move (.tmp 9), 3, none⟩,
    ⟨some 53, .move (.tmp 8), 85, none⟩,
    ⟨some 54, .nilCheck (.tmp 53), 0, none⟩,
    ⟨some 55, .fieldAddr 87 (.tmp 54) 0, 0, none⟩,
    ⟨some 56, .load 34 (.tmp 55), 34, none⟩,
    ⟨some 57, .call { callee := (.builtin .len), args := #[(.tmp 56)], argTypes := #[34] }, 3, none⟩,
    ⟨some 58, .move (.tmp 8), 85, none⟩,
    ⟨some 59, .nilCheck (.tmp 58), 0, none⟩,
    ⟨some 60, .fieldAddr 87 (.tmp 59) 1, 0, none⟩,
    ⟨some 61, .load 3 (.tmp 60), 3, none⟩,
    ⟨some 62, .binOp .sub 3 (.tmp 57) (.tmp 61) 3, 3, none⟩,
    ⟨some 63, .call { callee := (.builtin .min), args := #[(.tmp 52), (.tmp 62)], argTypes := #[3, 3] }, 3, none⟩,
    ⟨some 64, .binOp .add 3 (.tmp 51) (.tmp 63) 3, 3, none⟩,
    ⟨some 65, .slice 34 (.tmp 47) none (some (.tmp 64)) none, 34, none⟩,
    ⟨some 66, .nilCheck (.tmp 43), 0, none⟩,
    ⟨some 67, .fieldAddr 87 (.tmp 66) 0, 0, none⟩,
    ⟨none, .store 34 (.tmp 67) (.tmp 65), 0, none⟩]
@[go_sem] def c25_10 : Cmd := .ops [⟨some 68, .move (.tmp 8), 85, none⟩,
    ⟨some 69, .move (.tmp 8), 85, none⟩,
    ⟨some 70, .nilCheck (.tmp 69), 0, none⟩,
    ⟨some 71, .fieldAddr 87 (.tmp 70) 0, 0, none⟩,
    ⟨some 72, .load 34 (.tmp 71), 34, none⟩,
    ⟨some 73, .call { callee := (.builtin .len), args := #[(.tmp 72)], argTypes := #[34] }, 3, none⟩,
    ⟨some 74, .nilCheck (.tmp 68), 0, none⟩,
    ⟨some 75, .fieldAddr 87 (.tmp 74) 1, 0, none⟩,
    ⟨none, .store 3 (.tmp 75) (.tmp 73), 0, none⟩]
@[go_sem] def c25_11 : Cmd := .block 1 (.seq c25_4 (.seq c25_5 (.seq (.seq c25_6 c25_8) (.seq c25_9 c25_10))))
@[go_sem] def c25_12 : Cmd := .ops [⟨some 76, .binOp .add 3 (.tmp 23) (.const (.int .i64 1)) 3, 3, none⟩,
    ⟨some 23, .move (.tmp 76), 3, none⟩]
def c25_L0 : Cmd := (.seq c25_2 (.seq c25_3 (.seq c25_11 c25_12)))
@[go_sem] def c25_13 : Cmd := .loop c25_L0
@[go_sem] def c25_14 : Cmd := .block 0 c25_13
@[go_sem] def c25_15 : Cmd := .ops [⟨some 77, .move (.tmp 0), 24, none⟩,
    ⟨some 78, .call { callee := (.value (.func 54)), args := #[(.tmp 77)], argTypes := #[24] }, 0, none⟩]
@[go_sem] def c25_16 : Cmd := .ops [⟨some 79, .move (.tmp 0), 24, none⟩,
    ⟨some 80, .move (.tmp 0), 24, none⟩,
    ⟨some 81, .nilCheck (.tmp 79), 0, none⟩,
    ⟨some 82, .fieldAddr 84 (.tmp 81) 5, 0, none⟩,
    ⟨none, .store 4 (.tmp 82) (.const (.bool false)), 0, none⟩,
    ⟨some 83, .nilCheck (.tmp 80), 0, none⟩,
    ⟨some 84, .fieldAddr 84 (.tmp 83) 6, 0, none⟩,
    ⟨none, .store 3 (.tmp 84) (.const (.int .i64 0)), 0, none⟩]
@[go_sem] def c25 : Cmd := (.seq c25_0 (.seq (.seq c25_1 c25_14) (.seq c25_15 c25_16)))
theorem b25 : Try.f25.body.map (comp 85) = some c25 := by kernel_rfl
theorem r25 : Try.f25.results.toList = [] := by kernel_rfl
-- 26 pith/pithref8.New
@[go_sem] def c26_0 : Cmd := .ops [⟨some 2, .assign (.const (.pointer none)), 48, none⟩]
@[go_sem] def c26_1 : Cmd := .ops [⟨some 3, .move (.tmp 0), 3, none⟩,
    ⟨some 4, .binOp .lss 3 (.tmp 3) (.const (.int .i64 0)) 3, 4, none⟩,
    ⟨some 5, .move (.tmp 4), 4, none⟩,
    ⟨some 6, .move (.tmp 0), 3, some (5, false)⟩,
    ⟨some 7, .binOp .gtr 3 (.tmp 6) (.const (.int .i64 2147483647)) 3, 4, some (5, false)⟩,
    ⟨some 8, .pick (.tmp 5) (.const (.bool true)) (.tmp 7), 4, none⟩]
@[go_sem] def c26_2 : Cmd := .ops [⟨some 2, .assign (.const (.pointer none)), 48, none⟩]
@[go_sem] def c26_3 : Cmd := .cond (.tmp 8) (.seq c26_2 .ret) .skip
@[go_sem] def c26_4 : Cmd := .ops [⟨some 9, .move (.tmp 0), 3, none⟩,
    ⟨some 10, .buildSlice 96 1 #[(0, (.const (.slice none 0 0)))], 96, none⟩,
    ⟨some 11, .build 100 #[(0, (.tmp 9)), (2, (.tmp 10))], 100, none⟩,
    ⟨some 12, .box 100 (.tmp 11), 48, none⟩,
    ⟨some 2, .assign (.tmp 12), 48, none⟩]
@[go_sem] def c26 : Cmd := (.seq c26_0 (.seq (.seq c26_1 c26_3) (.seq c26_4 .ret)))
theorem b26 : Try.f26.body.map (comp 13) = some c26 := by kernel_rfl
theorem r26 : Try.f26.results.toList = [.tmp 2] := by kernel_rfl
-- 27 (pith/pithlaw8.both).tells
@[go_sem] def c27_0 : Cmd := .ops [⟨some 1, .box 51 (.tmp 0), 0, none⟩,
    ⟨some 2, .assign (.const (.bool false)), 4, none⟩]
@[go_sem] def c27_1 : Cmd := .draw (.step 3 ⟨some 5, .fieldAddr 51 (.tmp 1) 0, 0, none⟩
    (.step 0 ⟨some 6, .load 24 (.tmp 5), 24, none⟩
    (.step 3 ⟨some 8, .fieldAddr 51 (.tmp 1) 1, 0, none⟩
    (.step 0 ⟨some 9, .load 48 (.tmp 8), 48, none⟩
    (.step 1 ⟨some 7, .call { callee := (.value (.func 33)), args := #[(.tmp 6)], argTypes := #[24] }, 58, none⟩
    (.step 1 ⟨some 10, .call { callee := (.value (.func 55)), args := #[(.tmp 9)], argTypes := #[48] }, 58, none⟩
    (.step 1 ⟨some 11, .call { callee := (.value (.func 40)), args := #[(.tmp 7), (.tmp 10)], argTypes := #[58, 58] }, 4, none⟩
    (.step 3 ⟨some 3, .assign (.tmp 11), 4, none⟩
    .done))))))))
@[go_sem] def c27_2 : Cmd := .draw (.step 3 ⟨some 12, .fieldAddr 51 (.tmp 1) 0, 0, none⟩
    (.step 0 ⟨some 13, .load 24 (.tmp 12), 24, none⟩
    (.step 3 ⟨some 15, .fieldAddr 51 (.tmp 1) 1, 0, none⟩
    (.step 0 ⟨some 16, .load 48 (.tmp 15), 48, none⟩
    (.step 1 ⟨some 14, .call { callee := (.value (.func 38)), args := #[(.tmp 13)], argTypes := #[24] }, 26, none⟩
    (.step 1 ⟨some 17, .call { callee := (.value (.func 56)), args := #[(.tmp 16)], argTypes := #[48] }, 26, none⟩
    (.step 1 ⟨some 18, .call { callee := (.value (.func 41)), args := #[(.tmp 14), (.tmp 17)], argTypes := #[26, 26] }, 4, none⟩
    (.step 3 ⟨some 4, .assign (.tmp 18), 4, none⟩
    .done))))))))
@[go_sem] def c27_3 : Cmd := .draw (.step 3 ⟨some 19, .move (.tmp 3), 4, none⟩
    (.step 3 ⟨some 20, .move (.tmp 19), 4, none⟩
    (.step 3 ⟨some 21, .move (.tmp 4), 4, some (20, true)⟩
    (.step 3 ⟨some 22, .pick (.tmp 20) (.tmp 21) (.const (.bool false)), 4, none⟩
    (.step 3 ⟨some 23, .move (.tmp 22), 4, none⟩
    (.step 3 ⟨some 24, .fieldAddr 51 (.tmp 1) 0, 0, some (23, true)⟩
    (.step 0 ⟨some 25, .load 24 (.tmp 24), 24, some (23, true)⟩
    (.step 3 ⟨some 27, .fieldAddr 51 (.tmp 1) 1, 0, some (23, true)⟩
    (.step 0 ⟨some 28, .load 48 (.tmp 27), 48, some (23, true)⟩
    (.step 1 ⟨some 26, .call { callee := (.value (.func 13)), args := #[(.tmp 25)], argTypes := #[24] }, 3, some (23, true)⟩
    (.step 1 ⟨some 29, .call { callee := (.value (.func 57)), args := #[(.tmp 28)], argTypes := #[48] }, 3, some (23, true)⟩
    (.step 3 ⟨some 30, .binOp .eql 3 (.tmp 26) (.tmp 29) 3, 4, some (23, true)⟩
    (.step 3 ⟨some 31, .pick (.tmp 23) (.tmp 30) (.const (.bool false)), 4, none⟩
    (.step 3 ⟨some 32, .move (.tmp 31), 4, none⟩
    (.step 3 ⟨some 33, .fieldAddr 51 (.tmp 1) 0, 0, some (32, true)⟩
    (.step 0 ⟨some 34, .load 24 (.tmp 33), 24, some (32, true)⟩
    (.step 3 ⟨some 36, .fieldAddr 51 (.tmp 1) 1, 0, some (32, true)⟩
    (.step 0 ⟨some 37, .load 48 (.tmp 36), 48, some (32, true)⟩
    (.step 1 ⟨some 35, .call { callee := (.value (.func 58)), args := #[(.tmp 34)], argTypes := #[24] }, 3, some (32, true)⟩
    (.step 1 ⟨some 38, .call { callee := (.value (.func 59)), args := #[(.tmp 37)], argTypes := #[48] }, 3, some (32, true)⟩
    (.step 3 ⟨some 39, .binOp .eql 3 (.tmp 35) (.tmp 38) 3, 4, some (32, true)⟩
    (.step 3 ⟨some 40, .pick (.tmp 32) (.tmp 39) (.const (.bool false)), 4, none⟩
    (.step 3 ⟨some 41, .move (.tmp 40), 4, none⟩
    (.step 3 ⟨some 42, .fieldAddr 51 (.tmp 1) 0, 0, some (41, true)⟩
    (.step 0 ⟨some 43, .load 24 (.tmp 42), 24, some (41, true)⟩
    (.step 3 ⟨some 45, .fieldAddr 51 (.tmp 1) 1, 0, some (41, true)⟩
    (.step 0 ⟨some 46, .load 48 (.tmp 45), 48, some (41, true)⟩
    (.step 1 ⟨some 44, .call { callee := (.value (.func 24)), args := #[(.tmp 43)], argTypes := #[24] }, 3, some (41, true)⟩
    (.step 1 ⟨some 47, .call { callee := (.value (.func 60)), args := #[(.tmp 46)], argTypes := #[48] }, 3, some (41, true)⟩
    (.step 3 ⟨some 48, .binOp .eql 3 (.tmp 44) (.tmp 47) 3, 4, some (41, true)⟩
    (.step 3 ⟨some 49, .pick (.tmp 41) (.tmp 48) (.const (.bool false)), 4, none⟩
    (.step 3 ⟨some 50, .move (.tmp 49), 4, none⟩
    (.step 3 ⟨some 51, .fieldAddr 51 (.tmp 1) 0, 0, some (50, true)⟩
    (.step 0 ⟨some 52, .load 24 (.tmp 51), 24, some (50, true)⟩
    (.step 3 ⟨some 54, .fieldAddr 51 (.tmp 1) 1, 0, some (50, true)⟩
    (.step 0 ⟨some 55, .load 48 (.tmp 54), 48, some (50, true)⟩
    (.step 1 ⟨some 53, .call { callee := (.value (.func 30)), args := #[(.tmp 52)], argTypes := #[24] }, 3, some (50, true)⟩
    (.step 1 ⟨some 56, .call { callee := (.value (.func 61)), args := #[(.tmp 55)], argTypes := #[48] }, 3, some (50, true)⟩
    (.step 3 ⟨some 57, .binOp .eql 3 (.tmp 53) (.tmp 56) 3, 4, some (50, true)⟩
    (.step 3 ⟨some 58, .pick (.tmp 50) (.tmp 57) (.const (.bool false)), 4, none⟩
    (.step 3 ⟨some 59, .move (.tmp 58), 4, none⟩
    (.step 3 ⟨some 60, .fieldAddr 51 (.tmp 1) 0, 0, some (59, true)⟩
    (.step 0 ⟨some 61, .load 24 (.tmp 60), 24, some (59, true)⟩
    (.step 3 ⟨some 63, .fieldAddr 51 (.tmp 1) 1, 0, some (59, true)⟩
    (.step 0 ⟨some 64, .load 48 (.tmp 63), 48, some (59, true)⟩
    (.step 1 ⟨some 62, .call { callee := (.value (.func 29)), args := #[(.tmp 61)], argTypes := #[24] }, 4, some (59, true)⟩
    (.step 1 ⟨some 65, .call { callee := (.value (.func 62)), args := #[(.tmp 64)], argTypes := #[48] }, 4, some (59, true)⟩
    (.step 3 ⟨some 66, .binOp .eql 4 (.tmp 62) (.tmp 65) 4, 4, some (59, true)⟩
    (.step 3 ⟨some 67, .pick (.tmp 59) (.tmp 66) (.const (.bool false)), 4, none⟩
    (.step 3 ⟨some 2, .assign (.tmp 67), 4, none⟩
    .done))))))))))))))))))))))))))))))))))))))))))))))))))
@[go_sem] def c27 : Cmd := (.seq c27_0 (.seq c27_1 (.seq c27_2 (.seq c27_3 .ret))))
theorem b27 : Try.f27.body.map (comp 68) = some c27 := by kernel_rfl
theorem r27 : Try.f27.results.toList = [.tmp 2] := by kernel_rfl
-- 28 (*pith/fs.FS).Arm
@[go_sem] def c28_0 : Cmd := .ops [⟨some 4, .assign (.const (.int .i64 0)), 39, none⟩]
@[go_sem] def c28_1 : Cmd := .ops [⟨some 6, .move (.tmp 1), 3, none⟩,
    ⟨some 7, .binOp .lss 3 (.tmp 6) (.const (.int .i64 0)) 3, 4, none⟩,
    ⟨some 5, .assign (.tmp 7), 4, none⟩]
@[go_sem] def c28_2 : Cmd := .ops [⟨some 4, .assign (.const (.int .i64 85)), 39, none⟩]
@[go_sem] def c28_3 : Cmd := .ops [⟨some 9, .move (.tmp 0), 24, none⟩,
    ⟨some 10, .nilCheck (.tmp 9), 0, none⟩,
    ⟨some 11, .fieldAddr 84 (.tmp 10) 5, 0, none⟩,
    ⟨some 12, .load 4 (.tmp 11), 4, none⟩,
    ⟨some 8, .assign (.tmp 12), 4, none⟩]
@[go_sem] def c28_4 : Cmd := .ops [⟨some 4, .assign (.const (.int .i64 81)), 39, none⟩]
@[go_sem] def c28_5 : Cmd := .cond (.tmp 8) (.seq c28_4 .ret) .skip
@[go_sem] def c28_6 : Cmd := .cond (.tmp 5) (.seq c28_2 .ret) (.seq c28_3 c28_5)
@[go_sem] def c28_7 : Cmd := .block 0 (.seq c28_1 c28_6)
@[go_sem] def c28_8 : Cmd := .ops [⟨some 13, .move (.tmp 0), 24, none⟩,
    ⟨some 14, .move (.tmp 1), 3, none⟩,
    ⟨some 15, .nilCheck (.tmp 13), 0, none⟩,
    ⟨some 16, .fieldAddr 84 (.tmp 15) 6, 0, none⟩,
    ⟨none, .store 3 (.tmp 16) (.tmp 14), 0, none⟩]
@[go_sem] def c28_9 : Cmd := .ops [⟨some 4, .assign (.const (.int .i64 0)), 39, none⟩]
@[go_sem] def c28 : Cmd := (.seq c28_0 (.seq c28_7 (.seq c28_8 (.seq c28_9 .ret))))
theorem b28 : Try.f28.body.map (comp 17) = some c28 := by kernel_rfl
theorem r28 : Try.f28.results.toList = [.tmp 4] := by kernel_rfl
-- 29 (*pith/fs.FS).Power
@[go_sem] def c29_0 : Cmd := .ops [⟨some 2, .assign (.const (.bool false)), 4, none⟩]
@[go_sem] def c29_1 : Cmd := .ops [⟨some 3, .move (.tmp 0), 24, none⟩,
    ⟨some 4, .nilCheck (.tmp 3), 0, none⟩,
    ⟨some 5, .fieldAddr 84 (.tmp 4) 5, 0, none⟩,
    ⟨some 6, .load 4 (.tmp 5), 4, none⟩,
    ⟨some 7, .unOp .not 4 (.tmp 6), 4, none⟩,
    ⟨some 2, .assign (.tmp 7), 4, none⟩]
@[go_sem] def c29 : Cmd := (.seq c29_0 (.seq c29_1 .ret))
theorem b29 : Try.f29.body.map (comp 8) = some c29 := by kernel_rfl
theorem r29 : Try.f29.results.toList = [.tmp 2] := by kernel_rfl
-- 30 (*pith/fs.FS).Ops
@[go_sem] def c30_0 : Cmd := .ops [⟨some 2, .assign (.const (.int .i64 0)), 3, none⟩]
@[go_sem] def c30_1 : Cmd := .ops [⟨some 3, .move (.tmp 0), 24, none⟩,
    ⟨some 4, .nilCheck (.tmp 3), 0, none⟩,
    ⟨some 5, .fieldAddr 84 (.tmp 4) 7, 0, none⟩,
    ⟨some 6, .load 3 (.tmp 5), 3, none⟩,
    ⟨some 2, .assign (.tmp 6), 3, none⟩]
@[go_sem] def c30 : Cmd := (.seq c30_0 (.seq c30_1 .ret))
theorem b30 : Try.f30.body.map (comp 7) = some c30 := by kernel_rfl
theorem r30 : Try.f30.results.toList = [.tmp 2] := by kernel_rfl
-- 31 (*pith/fs.FS).Read
@[go_sem] def c31_0 : Cmd := .ops [⟨some 8, .assign (.const (.slice none 0 0)), 34, none⟩,
    ⟨some 9, .assign (.const (.int .i64 0)), 39, none⟩]
@[go_sem] def c31_1 : Cmd := .ops [⟨some 13, .move (.tmp 0), 24, none⟩,
    ⟨some 14, .move (.tmp 1), 9, none⟩,
    ⟨some 15, .call { callee := (.value (.func 49)), args := #[(.tmp 13), (.tmp 14)], argTypes := #[24, 9] }, 89, none⟩,
    ⟨some 12, .move (.tmp 15), 89, none⟩,
    ⟨some 16, .extract (.tmp 12) 0, 85, none⟩,
    ⟨some 17, .extract (.tmp 12) 1, 39, none⟩,
    ⟨some 10, .assign (.tmp 16), 85, none⟩,
    ⟨some 11, .assign (.tmp 17), 39, none⟩]
@[go_sem] def c31_2 : Cmd := .ops [⟨some 18, .move (.tmp 11), 39, none⟩,
    ⟨some 19, .binOp .neq 39 (.tmp 18) (.const (.int .i64 0)) 39, 4, none⟩]
@[go_sem] def c31_3 : Cmd := .ops [⟨some 20, .move (.tmp 11), 39, none⟩,
    ⟨some 8, .assign (.const (.slice none 0 0)), 34, none⟩,
    ⟨some 9, .assign (.tmp 20), 39, none⟩]
@[go_sem] def c31_4 : Cmd := .cond (.tmp 19) (.seq c31_3 .ret) .skip
@[go_sem] def c31_5 : Cmd := .ops [⟨some 21, .move (.tmp 2), 3, none⟩,
    ⟨some 22, .binOp .lss 3 (.tmp 21) (.const (.int .i64 0)) 3, 4, none⟩,
    ⟨some 23, .move (.tmp 22), 4, none⟩,
    ⟨some 24, .move (.tmp 3), 3, some (23, false)⟩,
    ⟨some 25, .binOp .lss 3 (.tmp 24) (.const (.int .i64 0)) 3, 4, some (23, false)⟩,
    ⟨some 26, .pick (.tmp 23) (.const (.bool true)) (.tmp 25), 4, none⟩]
@[go_sem] def c31_6 : Cmd := .ops [⟨some 8, .assign (.const (.slice none 0 0)), 34, none⟩,
    ⟨some 9, .assign (.const (.int .i64 85)), 39, none⟩]
@[go_sem] def c31_7 : Cmd := .cond (.tmp 26) (.seq c31_6 .ret) .skip
@[go_sem] def c31_8 : Cmd := .ops [⟨some 27, .move (.tmp 2), 3, none⟩,
    ⟨some 28, .move (.tmp 10), 85, none⟩,
    ⟨some 29, .nilCheck (.tmp 28), 0, none⟩,
    ⟨some 30, .fieldAddr 87 (.tmp 29) 0, 0, none⟩,
    ⟨some 31, .load 34 (.tmp 30), 34, none⟩,
    ⟨some 32, .call { callee := (.builtin .len), args := #[(.tmp 31)], argTypes := #[34] }, 3, none⟩,
    ⟨some 33, .call { callee := (.builtin .min), args := #[(.tmp 27), (.tmp 32)], argTypes := #[3, 3] }, 3, none⟩,
    ⟨some 2, .assign (.tmp 33), 3, none⟩]
@[go_sem] def c31_9 : Cmd := .still 16 [⟨some 34, .move (.tmp 10), 85, none⟩,
    ⟨some 35, .nilCheck (.tmp 34), 0, none⟩,
    ⟨some 36, .fieldAddr 87 (.tmp 35) 0, 0, none⟩,
    ⟨some 37, .load 34 (.tmp 36), 34, none⟩,
    ⟨some 38, .move (.tmp 2), 3, none⟩,
    ⟨some 39, .move (.tmp 2), 3, none⟩,
    ⟨some 40, .move (.tmp 3), 3, none⟩,
    ⟨some 41, .move (.tmp 10), 85, none⟩,
    ⟨some 42, .nilCheck (.tmp 41), 0, none⟩,
    ⟨some 43, .fieldAddr 87 (.tmp 42) 0, 0, none⟩,
    ⟨some 44, .load 34 (.tmp 43), 34, none⟩,
    ⟨some 45, .call { callee := (.builtin .len), args := #[(.tmp 44)], argTypes := #[34] }, 3, none⟩,
    ⟨some 46, .move (.tmp 2), 3, none⟩,
    ⟨some 47, .binOp .sub 3 (.tmp 45) (.tmp 46) 3, 3, none⟩,
    ⟨some 48, .call { callee := (.builtin .min), args := #[(.tmp 40), (.tmp 47)], argTypes := #[3, 3] }, 3, none⟩,
    ⟨some 49, .binOp .add 3 (.tmp 39) (.tmp 48) 3, 3, none⟩,
    ⟨some 50, .slice 34 (.tmp 37) (some (.tmp 38)) (some (.tmp 49)) none, 34, none⟩,
    ⟨some 51, .call { callee := (.value (.func 63)), args := #[(.tmp 50)], argTypes := #[34] }, 34, none⟩,
    ⟨some 8, .assign (.tmp 51), 34, none⟩,
    ⟨some 9, .assign (.const (.int .i64 0)), 39, none⟩]
@[go_sem] def c31 : Cmd := (.seq c31_0 (.seq c31_1 (.seq (.seq c31_2 c31_4) (.seq (.seq c31_5 c31_7) (.seq c31_8 (.seq c31_9 .ret))))))
theorem b31 : Try.f31.body.map (comp 52) = some c31 := by kernel_rfl
theorem r31 : Try.f31.results.toList = [.tmp 8, .tmp 9] := by kernel_rfl
-- 32 (*pith/fs.FS).Size
@[go_sem] def c32_0 : Cmd := .ops [⟨some 4, .assign (.const (.int .i64 0)), 3, none⟩,
    ⟨some 5, .assign (.const (.int .i64 0)), 39, none⟩]
@[go_sem] def c32_1 : Cmd := .ops [⟨some 9, .move (.tmp 0), 24, none⟩,
    ⟨some 10, .move (.tmp 1), 9, none⟩,
    ⟨some 11, .call { callee := (.value (.func 49)), args := #[(.tmp 9), (.tmp 10)], argTypes := #[24, 9] }, 89, none⟩,
    ⟨some 8, .move (.tmp 11), 89, none⟩,
    ⟨some 12, .extract (.tmp 8) 0, 85, none⟩,
    ⟨some 13, .extract (.tmp 8) 1, 39, none⟩,
    ⟨some 6, .assign (.tmp 12), 85, none⟩,
    ⟨some 7, .assign (.tmp 13), 39, none⟩]
@[go_sem] def c32_2 : Cmd := .ops [⟨some 14, .move (.tmp 7), 39, none⟩,
    ⟨some 15, .binOp .neq 39 (.tmp 14) (.const (.int .i64 0)) 39, 4, none⟩]
@[go_sem] def c32_3 : Cmd := .ops [⟨some 16, .move (.tmp 7), 39, none⟩,
    ⟨some 4, .assign (.const (.int .i64 0)), 3, none⟩,
    ⟨some 5, .assign (.tmp 16), 39, none⟩]
@[go_sem] def c32_4 : Cmd := .cond (.tmp 15) (.seq c32_3 .ret) .skip
@[go_sem] def c32_5 : Cmd := .ops [⟨some 17, .move (.tmp 6), 85, none⟩,
    ⟨some 18, .nilCheck (.tmp 17), 0, none⟩,
    ⟨some 19, .fieldAddr 87 (.tmp 18) 0, 0, none⟩,
    ⟨some 20, .load 34 (.tmp 19), 34, none⟩,
    ⟨some 21, .call { callee := (.builtin .len), args := #[(.tmp 20)], argTypes := #[34] }, 3, none⟩,
    ⟨some 4, .assign (.tmp 21), 3, none⟩,
    ⟨some 5, .assign (.const (.int .i64 0)), 39, none⟩]
@[go_sem] def c32 : Cmd := (.seq c32_0 (.seq c32_1 (.seq (.seq c32_2 c32_4) (.seq c32_5 .ret))))
theorem b32 : Try.f32.body.map (comp 22) = some c32 := by kernel_rfl
theorem r32 : Try.f32.results.toList = [.tmp 4, .tmp 5] := by kernel_rfl
-- 33 (*pith/fs.FS).Names
@[go_sem] def c33_0 : Cmd := .ops [⟨some 2, .assign (.const (.slice none 0 0)), 58, none⟩]
@[go_sem] def c33_1 : Cmd := .ops [⟨some 3, .move (.tmp 0), 24, none⟩,
    ⟨some 4, .nilCheck (.tmp 3), 0, none⟩,
    ⟨some 5, .fieldAddr 84 (.tmp 4) 5, 0, none⟩,
    ⟨some 6, .load 4 (.tmp 5), 4, none⟩]
@[go_sem] def c33_2 : Cmd := .ops [⟨some 2, .assign (.const (.slice none 0 0)), 58, none⟩]
@[go_sem] def c33_3 : Cmd := .cond (.tmp 6) (.seq c33_2 .ret) .skip
@[go_sem] def c33_4 : Cmd := .ops [⟨some 7, .move (.tmp 0), 24, none⟩,
    ⟨some 8, .nilCheck (.tmp 7), 0, none⟩,
    ⟨some 9, .fieldAddr 84 (.tmp 8) 1, 0, none⟩,
    ⟨some 10, .load 80 (.tmp 9), 80, none⟩,
    ⟨some 11, .call { callee := (.value (.func 53)), args := #[(.tmp 10)], argTypes := #[80] }, 94, none⟩,
    ⟨some 12, .call { callee := (.value (.func 52)), args := #[(.tmp 11)], argTypes := #[94] }, 58, none⟩,
    ⟨some 2, .assign (.tmp 12), 58, none⟩]
@[go_sem] def c33 : Cmd := (.seq c33_0 (.seq (.seq c33_1 c33_3) (.seq c33_4 .ret)))
theorem b33 : Try.f33.body.map (comp 13) = some c33 := by kernel_rfl
theorem r33 : Try.f33.results.toList = [.tmp 2] := by kernel_rfl
-- 34 (*pith/fs.FS).SyncDir
@[go_sem] def c34_0 : Cmd := .ops [⟨some 2, .assign (.const (.int .i64 0)), 39, none⟩]
@[go_sem] def c34_1 : Cmd := .ops [⟨some 4, .move (.tmp 0), 24, none⟩,
    ⟨some 5, .nilCheck (.tmp 4), 0, none⟩,
    ⟨some 6, .fieldAddr 84 (.tmp 5) 5, 0, none⟩,
    ⟨some 7, .load 4 (.tmp 6), 4, none⟩]
@[go_sem] def c34_2 : Cmd := .ops [⟨some 2, .assign (.const (.int .i64 81)), 39, none⟩]
@[go_sem] def c34_3 : Cmd := .cond (.tmp 7) (.seq c34_2 .ret) .skip
@[go_sem] def c34_4 : Cmd := .ops [⟨some 8, .move (.tmp 0), 24, none⟩,
    ⟨some 9, .call { callee := (.value (.func 50)), args := #[(.tmp 8)], argTypes := #[24] }, 39, none⟩,
    ⟨some 3, .assign (.tmp 9), 39, none⟩]
@[go_sem] def c34_5 : Cmd := .ops [⟨some 10, .move (.tmp 3), 39, none⟩,
    ⟨some 11, .binOp .eql 39 (.tmp 10) (.const (.int .i64 0)) 39, 4, none⟩]
@[go_sem] def c34_6 : Cmd := .ops [⟨some 12, .move (.tmp 0), 24, none⟩,
    ⟨some 13, .call { callee := (.value (.func 54)), args := #[(.tmp 12)], argTypes := #[24] }, 0, none⟩]
@[go_sem] def c34_7 : Cmd := .cond (.tmp 11) c34_6 .skip
@[go_sem] def c34_8 : Cmd := .ops [⟨some 14, .move (.tmp 3), 39, none⟩,
    ⟨some 2, .assign (.tmp 14), 39, none⟩]
@[go_sem] def c34 : Cmd := (.seq c34_0 (.seq (.seq c34_1 c34_3) (.seq c34_4 (.seq (.seq c34_5 c34_7) (.seq c34_8 .ret)))))
theorem b34 : Try.f34.body.map (comp 15) = some c34 := by kernel_rfl
theorem r34 : Try.f34.results.toList = [.tmp 2] := by kernel_rfl
-- 35 pith/pithlaw8.settled
@[go_sem] def c35_0 : Cmd := .ops [⟨some 4, .assign (.const (.pointer none)), 24, none⟩,
    ⟨some 5, .assign (.const (.slice none 0 0)), 26, none⟩]
@[go_sem] def c35_1 : Cmd := .ops [⟨some 13, .move (.tmp 0), 3, none⟩,
    ⟨some 14, .call { callee := (.value (.func 12)), args := #[(.tmp 13)], argTypes := #[3] }, 24, none⟩,
    ⟨some 6, .assign (.tmp 14), 24, none⟩]
@[go_sem] def c35_2 : Cmd := .ops [⟨some 15, .move (.tmp 6), 24, none⟩,
    ⟨some 16, .binOp .eql 24 (.tmp 15) (.const (.pointer none)) 24, 4, none⟩]
@[go_sem] def c35_3 : Cmd := .ops [⟨some 4, .assign (.const (.pointer none)), 24, none⟩,
    ⟨some 5, .assign (.const (.slice none 0 0)), 26, none⟩]
@[go_sem] def c35_4 : Cmd := .cond (.tmp 16) (.seq c35_3 .ret) .skip
@[go_sem] def c35_5 : Cmd := .ops [⟨some 7, .assign (.const (.slice none 0 0)), 26, none⟩]
@[go_sem] def c35_6 : Cmd := .ops [⟨some 8, .assign (.const (.int .i64 0)), 3, none⟩]
@[go_sem] def c35_7 : Cmd := .ops [⟨some 17, .move (.tmp 8), 3, none⟩,
    ⟨some 18, .move (.tmp 1), 22, none⟩,
    ⟨some 19, .call { callee := (.builtin .len), args := #[(.tmp 18)], argTypes := #[22] }, 3, none⟩,
    ⟨some 20, .binOp .lss 3 (.tmp 17) (.tmp 19) 3, 4, none⟩,
    ⟨some 21, .move (.tmp 20), 4, none⟩,
    ⟨some 22, .move (.tmp 8), 3, some (21, true)⟩,
    ⟨some 23, .binOp .lss 3 (.tmp 22) (.const (.int .i64 200)) 3, 4, some (21, true)⟩,
    ⟨some 24, .pick (.tmp 21) (.tmp 23) (.const (.bool false)), 4, none⟩]
@[go_sem] def c35_8 : Cmd := .cond (.tmp 24) .skip (.exit 0)
@[go_sem] def c35_9 : Cmd := .ops [⟨some 27, .move (.tmp 6), 24, none⟩,
    ⟨some 28, .move (.tmp 1), 22, none⟩,
    ⟨some 29, .move (.tmp 8), 3, none⟩,
    ⟨some 30, .indexAddr 22 (.tmp 28) (.tmp 29), 0, none⟩,
    ⟨some 31, .load 30 (.tmp 30), 30, none⟩,
    ⟨some 32, .call { callee := (.value (.func 14)), args := #[(.tmp 27), (.tmp 31)], argTypes := #[24, 30] }, 3, none⟩,
    ⟨some 9, .assign (.tmp 32), 3, none⟩]
@[go_sem] def c35_10 : Cmd := .ops [⟨some 33, .move (.tmp 9), 3, none⟩,
    ⟨some 34, .binOp .eql 3 (.tmp 33) (.const (.int .i64 0)) 3, 4, none⟩]
@[go_sem] def c35_11 : Cmd := .ops [⟨some 35, .move (.tmp 7), 26, none⟩,
    ⟨some 36, .move (.tmp 1), 22, none⟩,
    ⟨some 37, .move (.tmp 8), 3, none⟩,
    ⟨some 38, .indexAddr 22 (.tmp 36) (.tmp 37), 0, none⟩,
    ⟨some 39, .load 30 (.tmp 38), 30, none⟩,
    ⟨some 40, .call { callee := (.value (.func 17)), args := #[(.tmp 35), (.tmp 39)], argTypes := #[26, 30] }, 26, none⟩,
    ⟨some 7, .assign (.tmp 40), 26, none⟩]
@[go_sem] def c35_12 : Cmd := .cond (.tmp 34) c35_11 .skip
@[go_sem] def c35_13 : Cmd := .block 1 (.seq c35_9 (.seq c35_10 c35_12))
@[go_sem] def c35_14 : Cmd := .ops [⟨some 25, .move (.tmp 8), 3, none⟩,
    ⟨some 26, .binOp .add 3 (.tmp 25) (.const (.int .i64 1)) 3, 3, none⟩,
    ⟨some 8, .assign (.tmp 26), 3, none⟩]
def c35_L0 : Cmd := (.seq (.seq c35_7 c35_8) (.seq c35_13 c35_14))
@[go_sem] def c35_15 : Cmd := .loop c35_L0
@[go_sem] def c35_16 : Cmd := .block 0 c35_15
@[go_sem] def c35_17 : Cmd := .ops [⟨some 10, .assign (.const (.int .i64 0)), 3, none⟩]
@[go_sem] def c35_18 : Cmd := .ops [⟨some 41, .move (.tmp 10), 3, none⟩,
    ⟨some 42, .move (.tmp 7), 26, none⟩,
    ⟨some 43, .call { callee := (.builtin .len), args := #[(.tmp 42)], argTypes := #[26] }, 3, none⟩,
    ⟨some 44, .binOp .lss 3 (.tmp 41) (.tmp 43) 3, 4, none⟩]
@[go_sem] def c35_19 : Cmd := .cond (.tmp 44) .skip (.exit 2)
@[go_sem] def c35_20 : Cmd := .ops [⟨some 47, .move (.tmp 6), 24, none⟩,
    ⟨some 48, .move (.tmp 7), 26, none⟩,
    ⟨some 49, .move (.tmp 10), 3, none⟩,
    ⟨some 50, .indexAddr 26 (.tmp 48) (.tmp 49), 0, none⟩,
    ⟨some 51, .fieldAddr 44 (.tmp 50) 0, 0, none⟩,
    ⟨some 52, .load 9 (.tmp 51), 9, none⟩,
    ⟨some 53, .call { callee := (.value (.func 21)), args := #[(.tmp 47), (.tmp 52)], argTypes := #[24, 9] }, 39, none⟩,
    ⟨some 11, .assign (.tmp 53), 39, none⟩]
@[go_sem] def c35_21 : Cmd := .ops [⟨some 54, .move (.tmp 11), 39, none⟩,
    ⟨some 55, .call { callee := (.value (.func 22)), args := #[(.tmp 54)], argTypes := #[39] }, 3, none⟩,
    ⟨some 56, .binOp .neq 3 (.tmp 55) (.const (.int .i64 0)) 3, 4, none⟩]
@[go_sem] def c35_22 : Cmd := .ops [⟨some 4, .assign (.const (.pointer none)), 24, none⟩,
    ⟨some 5, .assign (.const (.slice none 0 0)), 26, none⟩]
@[go_sem] def c35_23 : Cmd := .cond (.tmp 56) (.seq c35_22 .ret) .skip
@[go_sem] def c35_24 : Cmd := .block 3 (.seq c35_20 (.seq c35_21 c35_23))
@[go_sem] def c35_25 : Cmd := .ops [⟨some 45, .move (.tmp 10), 3, none⟩,
    ⟨some 46, .binOp .add 3 (.tmp 45) (.const (.int .i64 1)) 3, 3, none⟩,
    ⟨some 10, .assign (.tmp 46), 3, none⟩]
def c35_L1 : Cmd := (.seq (.seq c35_18 c35_19) (.seq c35_24 c35_25))
@[go_sem] def c35_26 : Cmd := .loop c35_L1
@[go_sem] def c35_27 : Cmd := .block 2 c35_26
@[go_sem] def c35_28 : Cmd := .ops [⟨some 57, .move (.tmp 6), 24, none⟩,
    ⟨some 58, .call { callee := (.value (.func 34)), args := #[(.tmp 57)], argTypes := #[24] }, 39, none⟩,
    ⟨some 12, .assign (.tmp 58), 39, none⟩]
@[go_sem] def c35_29 : Cmd := .ops [⟨some 59, .move (.tmp 12), 39, none⟩,
    ⟨some 60, .call { callee := (.value (.func 22)), args := #[(.tmp 59)], argTypes := #[39] }, 3, none⟩,
    ⟨some 61, .binOp .neq 3 (.tmp 60) (.const (.int .i64 0)) 3, 4, none⟩]
@[go_sem] def c35_30 : Cmd := .ops [⟨some 4, .assign (.const (.pointer none)), 24, none⟩,
    ⟨some 5, .assign (.const (.slice none 0 0)), 26, none⟩]
@[go_sem] def c35_31 : Cmd := .cond (.tmp 61) (.seq c35_30 .ret) .skip
@[go_sem] def c35_32 : Cmd := .ops [⟨some 62, .move (.tmp 6), 24, none⟩,
    ⟨some 63, .move (.tmp 7), 26, none⟩,
    ⟨some 4, .assign (.tmp 62), 24, none⟩,
    ⟨some 5, .assign (.tmp 63), 26, none⟩]
@[go_sem] def c35 : Cmd := (.seq c35_0 (.seq c35_1 (.seq (.seq c35_2 c35_4) (.seq c35_5 (.seq (.seq c35_6 c35_16) (.seq (.seq c35_17 c35_27) (.seq c35_28 (.seq (.seq c35_29 c35_31) (.seq c35_32 .ret)))))))))
theorem b35 : Try.f35.body.map (comp 64) = some c35 := by kernel_rfl
theorem r35 : Try.f35.results.toList = [.tmp 4, .tmp 5] := by kernel_rfl
-- 36 pith/pithref.Files
@[go_sem] def c36_0 : Cmd := .ops [⟨some 2, .assign (.const (.slice none 0 0)), 26, none⟩]
@[go_sem] def c36_1 : Cmd := .ops [⟨some 6, .move (.tmp 0), 26, none⟩,
    ⟨some 7, .call { callee := (.builtin .len), args := #[(.tmp 6)], argTypes := #[26] }, 3, none⟩,
    ⟨some 8, .makeSlice 26 (.const (.int .i64 0)) (.tmp 7), 26, none⟩,
    ⟨some 3, .assign (.tmp 8), 26, none⟩]
@[go_sem] def c36_2 : Cmd := .ops [⟨some 4, .assign (.const (.int .i64 0)), 3, none⟩]
@[go_sem] def c36_3 : Cmd := .ops [⟨some 9, .move (.tmp 4), 3, none⟩,
    ⟨some 10, .move (.tmp 0), 26, none⟩,
    ⟨some 11, .call { callee := (.builtin .len), args := #[(.tmp 10)], argTypes := #[26] }, 3, none⟩,
    ⟨some 12, .binOp .lss 3 (.tmp 9) (.tmp 11) 3, 4, none⟩]
@[go_sem] def c36_4 : Cmd := .cond (.tmp 12) .skip (.exit 0)
@[go_sem] def c36_5 : Cmd := .ops [⟨some 15, .move (.tmp 0), 26, none⟩,
    ⟨some 16, .move (.tmp 4), 3, none⟩,
    ⟨some 17, .indexAddr 26 (.tmp 15) (.tmp 16), 0, none⟩,
    ⟨some 18, .load 44 (.tmp 17), 44, none⟩,
    ⟨some 19, .call { callee := (.value (.func 64)), args := #[(.tmp 18)], argTypes := #[44] }, 44, none⟩,
    ⟨some 5, .alloc 44, 0, none⟩,
    ⟨none, .store 44 (.tmp 5) (.tmp 19), 0, none⟩]
@[go_sem] def c36_6 : Cmd := .ops [⟨some 20, .move (.tmp 3), 26, none⟩,
    ⟨some 21, .load 44 (.tmp 5), 44, none⟩,
    ⟨some 22, .buildSlice 26 1 #[(0, (.tmp 21))], 26, none⟩,
    ⟨some 23, .call { callee := (.builtin .append), args := #[(.tmp 20), (.tmp 22)], argTypes := #[26, 26] }, 26, none⟩,
    ⟨some 3, .assign (.tmp 23), 26, none⟩]
@[go_sem] def c36_7 : Cmd := .block 1 (.seq c36_5 c36_6)
@[go_sem] def c36_8 : Cmd := .ops [⟨some 13, .move (.tmp 4), 3, none⟩,
    ⟨some 14, .binOp .add 3 (.tmp 13) (.const (.int .i64 1)) 3, 3, none⟩,
    ⟨some 4, .assign (.tmp 14), 3, none⟩]
def c36_L0 : Cmd := (.seq (.seq c36_3 c36_4) (.seq c36_7 c36_8))
@[go_sem] def c36_9 : Cmd := .loop c36_L0
@[go_sem] def c36_10 : Cmd := .block 0 c36_9
@[go_sem] def c36_11 : Cmd := .ops [⟨some 24, .move (.tmp 3), 26, none⟩,
    ⟨some 2, .assign (.tmp 24), 26, none⟩]
@[go_sem] def c36 : Cmd := (.seq c36_0 (.seq c36_1 (.seq (.seq c36_2 c36_10) (.seq c36_11 .ret))))
theorem b36 : Try.f36.body.map (comp 25) = some c36 := by kernel_rfl
theorem r36 : Try.f36.results.toList = [.tmp 2] := by kernel_rfl
-- 37 pith/pithlaw8.prefix
@[go_sem] def c37_0 : Cmd := .ops [⟨some 4, .assign (.const (.bool false)), 4, none⟩]
@[go_sem] def c37_1 : Cmd := .ops [⟨some 5, .move (.tmp 0), 34, none⟩,
    ⟨some 6, .call { callee := (.builtin .len), args := #[(.tmp 5)], argTypes := #[34] }, 3, none⟩,
    ⟨some 7, .move (.tmp 1), 34, none⟩,
    ⟨some 8, .call { callee := (.builtin .len), args := #[(.tmp 7)], argTypes := #[34] }, 3, none⟩,
    ⟨some 9, .binOp .leq 3 (.tmp 6) (.tmp 8) 3, 4, none⟩,
    ⟨some 10, .move (.tmp 9), 4, none⟩,
    ⟨some 11, .move (.tmp 0), 34, some (10, true)⟩,
    ⟨some 12, .move (.tmp 1), 34, some (10, true)⟩,
    ⟨some 13, .move (.tmp 0), 34, some (10, true)⟩,
    ⟨some 14, .call { callee := (.builtin .len), args := #[(.tmp 13)], argTypes := #[34] }, 3, some (10, true)⟩,
    ⟨some 15, .slice 34 (.tmp 12) none (some (.tmp 14)) none, 34, some (10, true)⟩,
    ⟨some 16, .call { callee := (.value (.func 48)), args := #[(.tmp 11), (.tmp 15)], argTypes := #[34, 34] }, 4, some (10, true)⟩,
    ⟨some 17, .pick (.tmp 10) (.tmp 16) (.const (.bool false)), 4, none⟩,
    ⟨some 4, .assign (.tmp 17), 4, none⟩]
@[go_sem] def c37 : Cmd := (.seq c37_0 (.seq c37_1 .ret))
theorem b37 : Try.f37.body.map (comp 18) = some c37 := by kernel_rfl
theorem r37 : Try.f37.results.toList = [.tmp 4] := by kernel_rfl
-- 38 (*pith/fs.FS).Lasting
@[go_sem] def c38_0 : Cmd := .ops [⟨some 2, .assign (.const (.slice none 0 0)), 26, none⟩]
@[go_sem] def c38_1 : Cmd := .ops [⟨some 3, .assign (.const (.slice none 0 0)), 26, none⟩]
@[go_sem] def c38_2 : Cmd := .ops [⟨some 7, .move (.tmp 0), 24, none⟩,
    ⟨some 8, .nilCheck (.tmp 7), 0, none⟩,
    ⟨some 9, .fieldAddr 84 (.tmp 8) 2, 0, none⟩,
    ⟨some 10, .load 80 (.tmp 9), 80, none⟩,
    ⟨some 11, .call { callee := (.value (.func 53)), args := #[(.tmp 10)], argTypes := #[80] }, 94, none⟩,
    ⟨some 12, .call { callee := (.value (.func 52)), args := #[(.tmp 11)], argTypes := #[94] }, 58, none⟩,
    ⟨some 13, .call { callee := (.builtin .len), args := #[(.tmp 12)], argTypes := #[58] }, 3, none⟩,
    ⟨some 14, .move (.const (.int .i64 0)), 3, none⟩]
@[go_sem] def c38_3 : Cmd := .ops [⟨some 15, .binOp .lss 3 (.tmp 14) (.tmp 13) 3, 0, none⟩]
@[go_sem] def c38_4 : Cmd := .cond (.tmp 15) .skip (.exit 0)
@[go_sem] def c38_5 : Cmd := .ops [⟨some 16, .indexAddr 58 (.tmp 12) (.tmp 14), 0, none⟩,
    ⟨some 17, .load 9 (.tmp 16), 9, none⟩,
    ⟨some 5, .assign (.tmp 17), 9, none⟩]
@[go_sem] def c38_6 : Cmd := .ops [⟨some 18, .move (.tmp 0), 24, none⟩,
    ⟨some 19, .nilCheck (.tmp 18), 0, none⟩,
    ⟨some 20, .fieldAddr 84 (.tmp 19) 2, 0, none⟩,
    ⟨some 21, .load 80 (.tmp 20), 80, none⟩,
    ⟨some 22, .move (.tmp 5), 9, none⟩,
    ⟨some 23, .lookup 80 (.tmp 21) (.tmp 22) false, 85, none⟩,
    ⟨some 6, .assign (.tmp 23), 85, none⟩]
@[go_sem] def c38_7 : Cmd := .draw (.step 3 ⟨some 24, .move (.tmp 3), 26, none⟩
    (.step 3 ⟨some 25, .move (.tmp 5), 9, none⟩
    (.step 3 ⟨some 26, .move (.tmp 6), 85, none⟩
    (.step 3 ⟨some 27, .nilCheck (.tmp 26), 0, none⟩
    (.step 3 ⟨some 28, .fieldAddr 87 (.tmp 27) 0, 0, none⟩
    (.step 0 ⟨some 29, .load 34 (.tmp 28), 34, none⟩
    (.step 3 ⟨some 30, .move (.tmp 6), 85, none⟩
    (.step 3 ⟨some 31, .nilCheck (.tmp 30), 0, none⟩
    (.step 3 ⟨some 32, .fieldAddr 87 (.tmp 31) 1, 0, none⟩
    (.step 0 ⟨some 33, .load 3 (.tmp 32), 3, none⟩
    (.step 3 ⟨some 34, .slice 34 (.tmp 29) none (some (.tmp 33)) none, 34, none⟩
    (.step 1 ⟨some 35, .call { callee := (.value (.func 63)), args := #[(.tmp 34)], argTypes := #[34] }, 34, none⟩
    (.step 3 ⟨some 36, .build 44 #[(0, (.tmp 25)), (1, (.tmp 35))], 44, none⟩
    (.step 1 ⟨some 37, .buildSlice 26 1 #[(0, (.tmp 36))], 26, none⟩
    (.step 2 ⟨some 38, .call { callee := (.builtin .append), args := #[(.tmp 24), (.tmp 37)], argTypes := #[26, 26] }, 26, none⟩
    (.step 3 ⟨some 3, .assign (.tmp 38), 26, none⟩
    .done))))))))))))))))
@[go_sem] def c38_8 : Cmd := .block 1 (.seq c38_5 (.seq c38_6 c38_7))
@[go_sem] def c38_9 : Cmd := .ops [⟨some 39, .binOp .add 3 (.tmp 14) (.const (.int .i64 1)) 3, 3, none⟩,
    ⟨some 14, .move (.tmp 39), 3, none⟩]
def c38_L0 : Cmd := (.seq c38_3 (.seq c38_4 (.seq c38_8 c38_9)))
@[go_sem] def c38_10 : Cmd := .loop c38_L0
@[go_sem] def c38_11 : Cmd := .block 0 c38_10
@[go_sem] def c38_12 : Cmd := .ops [⟨some 40, .move (.tmp 3), 26, none⟩,
    ⟨some 2, .assign (.tmp 40), 26, none⟩]
@[go_sem] def c38 : Cmd := (.seq c38_0 (.seq c38_1 (.seq (.seq c38_2 c38_11) (.seq c38_12 .ret))))
theorem b38 : Try.f38.body.map (comp 41) = some c38 := by kernel_rfl
theorem r38 : Try.f38.results.toList = [.tmp 2] := by kernel_rfl
-- 39 (*pith/fs.FS).Create
@[go_sem] def c39_0 : Cmd := .ops [⟨some 4, .assign (.const (.int .i64 0)), 39, none⟩]
@[go_sem] def c39_1 : Cmd := .ops [⟨some 7, .move (.tmp 0), 24, none⟩,
    ⟨some 8, .move (.tmp 1), 9, none⟩,
    ⟨some 9, .buildSlice 58 1 #[(0, (.tmp 8))], 58, none⟩,
    ⟨some 10, .call { callee := (.value (.func 65)), args := #[(.tmp 7), (.tmp 9)], argTypes := #[24, 58] }, 39, none⟩,
    ⟨some 5, .assign (.tmp 10), 39, none⟩]
@[go_sem] def c39_2 : Cmd := .ops [⟨some 11, .move (.tmp 5), 39, none⟩,
    ⟨some 12, .binOp .neq 39 (.tmp 11) (.const (.int .i64 0)) 39, 4, none⟩]
@[go_sem] def c39_3 : Cmd := .ops [⟨some 13, .move (.tmp 5), 39, none⟩,
    ⟨some 4, .assign (.tmp 13), 39, none⟩]
@[go_sem] def c39_4 : Cmd := .cond (.tmp 12) (.seq c39_3 .ret) .skip
@[go_sem] def c39_5 : Cmd := .ops [⟨some 14, .move (.tmp 0), 24, none⟩,
    ⟨some 15, .nilCheck (.tmp 14), 0, none⟩,
    ⟨some 16, .fieldAddr 84 (.tmp 15) 1, 0, none⟩,
    ⟨some 17, .load 80 (.tmp 16), 80, none⟩,
    ⟨some 18, .move (.tmp 1), 9, none⟩,
    ⟨some 19, .lookup 80 (.tmp 17) (.tmp 18) false, 85, none⟩,
    ⟨some 20, .binOp .neq 85 (.tmp 19) (.const (.pointer none)) 85, 4, none⟩]
@[go_sem] def c39_6 : Cmd := .ops [⟨some 4, .assign (.const (.int .i64 83)), 39, none⟩]
@[go_sem] def c39_7 : Cmd := .cond (.tmp 20) (.seq c39_6 .ret) .skip
@[go_sem] def c39_8 : Cmd := .ops [⟨some 21, .build 87 #[], 87, none⟩,
    ⟨some 22, .box 87 (.tmp 21), 85, none⟩,
    ⟨some 6, .assign (.tmp 22), 85, none⟩]
@[go_sem] def c39_9 : Cmd := .ops [⟨some 23, .move (.tmp 0), 24, none⟩,
    ⟨some 24, .nilCheck (.tmp 23), 0, none⟩,
    ⟨some 25, .fieldAddr 84 (.tmp 24) 4, 0, none⟩,
    ⟨some 26, .load 81 (.tmp 25), 81, none⟩,
    ⟨some 27, .move (.tmp 6), 85, none⟩,
    ⟨none, .mapUpdate 81 (.tmp 26) (.tmp 27) (.const (.bool true)), 0, none⟩]
@[go_sem] def c39_10 : Cmd := .ops [⟨some 28, .move (.tmp 0), 24, none⟩,
    ⟨some 29, .move (.tmp 6), 85, none⟩,
    ⟨some 30, .move (.tmp 1), 9, none⟩,
    ⟨some 31, .call { callee := (.value (.func 66)), args := #[(.tmp 28), (.tmp 29), (.tmp 30)], argTypes := #[24, 85, 9] }, 39, none⟩,
    ⟨some 4, .assign (.tmp 31), 39, none⟩]
@[go_sem] def c39 : Cmd := (.seq c39_0 (.seq (.seq c39_1 (.seq c39_2 c39_4)) (.seq (.seq c39_5 c39_7) (.seq c39_8 (.seq c39_9 (.seq c39_10 .ret))))))
theorem b39 : Try.f39.body.map (comp 32) = some c39 := by kernel_rfl
theorem r39 : Try.f39.results.toList = [.tmp 4] := by kernel_rfl
-- 40 pith/pithref.SameTexts
@[go_sem] def c40_0 : Cmd := .ops [⟨some 4, .assign (.const (.bool false)), 4, none⟩]
@[go_sem] def c40_1 : Cmd := .ops [⟨some 6, .move (.tmp 0), 58, none⟩,
    ⟨some 7, .call { callee := (.builtin .len), args := #[(.tmp 6)], argTypes := #[58] }, 3, none⟩,
    ⟨some 8, .move (.tmp 1), 58, none⟩,
    ⟨some 9, .call { callee := (.builtin .len), args := #[(.tmp 8)], argTypes := #[58] }, 3, none⟩,
    ⟨some 10, .binOp .neq 3 (.tmp 7) (.tmp 9) 3, 4, none⟩]
@[go_sem] def c40_2 : Cmd := .ops [⟨some 4, .assign (.const (.bool false)), 4, none⟩]
@[go_sem] def c40_3 : Cmd := .cond (.tmp 10) (.seq c40_2 .ret) .skip
@[go_sem] def c40_4 : Cmd := .ops [⟨some 5, .assign (.const (.int .i64 0)), 3, none⟩]
@[go_sem] def c40_5 : Cmd := .ops [⟨some 11, .move (.tmp 5), 3, none⟩,
    ⟨some 12, .move (.tmp 0), 58, none⟩,
    ⟨some 13, .call { callee := (.builtin .len), args := #[(.tmp 12)], argTypes := #[58] }, 3, none⟩,
    ⟨some 14, .binOp .lss 3 (.tmp 11) (.tmp 13) 3, 4, none⟩]
@[go_sem] def c40_6 : Cmd := .cond (.tmp 14) .skip (.exit 0)
@[go_sem] def c40_7 : Cmd := .quiet [⟨some 17, .move (.tmp 0), 58, none⟩,
    ⟨some 18, .move (.tmp 5), 3, none⟩,
    ⟨some 19, .indexAddr 58 (.tmp 17) (.tmp 18), 0, none⟩,
    ⟨some 20, .load 9 (.tmp 19), 9, none⟩,
    ⟨some 21, .move (.tmp 1), 58, none⟩,
    ⟨some 22, .move (.tmp 5), 3, none⟩,
    ⟨some 23, .indexAddr 58 (.tmp 21) (.tmp 22), 0, none⟩,
    ⟨some 24, .load 9 (.tmp 23), 9, none⟩,
    ⟨some 25, .binOp .eql 9 (.tmp 20) (.tmp 24) 9, 4, none⟩,
    ⟨some 26, .unOp .not 4 (.tmp 25), 4, none⟩]
@[go_sem] def c40_8 : Cmd := .ops [⟨some 4, .assign (.const (.bool false)), 4, none⟩]
@[go_sem] def c40_9 : Cmd := .cond (.tmp 26) (.seq c40_8 .ret) .skip
@[go_sem] def c40_10 : Cmd := .block 1 (.seq c40_7 c40_9)
@[go_sem] def c40_11 : Cmd := .ops [⟨some 15, .move (.tmp 5), 3, none⟩,
    ⟨some 16, .binOp .add 3 (.tmp 15) (.const (.int .i64 1)) 3, 3, none⟩,
    ⟨some 5, .assign (.tmp 16), 3, none⟩]
def c40_L0 : Cmd := (.seq (.seq c40_5 c40_6) (.seq c40_10 c40_11))
@[go_sem] def c40_12 : Cmd := .loop c40_L0
@[go_sem] def c40_13 : Cmd := .block 0 c40_12
@[go_sem] def c40_14 : Cmd := .ops [⟨some 4, .assign (.const (.bool true)), 4, none⟩]
@[go_sem] def c40 : Cmd := (.seq c40_0 (.seq (.seq c40_1 c40_3) (.seq (.seq c40_4 c40_13) (.seq c40_14 .ret))))
theorem b40 : Try.f40.body.map (comp 27) = some c40 := by kernel_rfl
theorem r40 : Try.f40.results.toList = [.tmp 4] := by kernel_rfl
-- 41 pith/pithref.SameFiles
@[go_sem] def c41_0 : Cmd := .ops [⟨some 4, .assign (.const (.bool false)), 4, none⟩]
@[go_sem] def c41_1 : Cmd := .ops [⟨some 7, .move (.tmp 0), 26, none⟩,
    ⟨some 8, .call { callee := (.builtin .len), args := #[(.tmp 7)], argTypes := #[26] }, 3, none⟩,
    ⟨some 9, .move (.tmp 1), 26, none⟩,
    ⟨some 10, .call { callee := (.builtin .len), args := #[(.tmp 9)], argTypes := #[26] }, 3, none⟩,
    ⟨some 11, .binOp .neq 3 (.tmp 8) (.tmp 10) 3, 4, none⟩]
@[go_sem] def c41_2 : Cmd := .ops [⟨some 4, .assign (.const (.bool false)), 4, none⟩]
@[go_sem] def c41_3 : Cmd := .cond (.tmp 11) (.seq c41_2 .ret) .skip
@[go_sem] def c41_4 : Cmd := .ops [⟨some 5, .assign (.const (.int .i64 0)), 3, none⟩]
@[go_sem] def c41_5 : Cmd := .ops [⟨some 12, .move (.tmp 5), 3, none⟩,
    ⟨some 13, .move (.tmp 0), 26, none⟩,
    ⟨some 14, .call { callee := (.builtin .len), args := #[(.tmp 13)], argTypes := #[26] }, 3, none⟩,
    ⟨some 15, .binOp .lss 3 (.tmp 12) (.tmp 14) 3, 4, none⟩]
@[go_sem] def c41_6 : Cmd := .cond (.tmp 15) .skip (.exit 0)
@[go_sem] def c41_7 : Cmd := .still 8 [⟨some 18, .move (.tmp 0), 26, none⟩,
    ⟨some 19, .move (.tmp 5), 3, none⟩,
    ⟨some 20, .indexAddr 26 (.tmp 18) (.tmp 19), 0, none⟩,
    ⟨some 21, .load 44 (.tmp 20), 44, none⟩,
    ⟨some 22, .move (.tmp 1), 26, none⟩,
    ⟨some 23, .move (.tmp 5), 3, none⟩,
    ⟨some 24, .indexAddr 26 (.tmp 22) (.tmp 23), 0, none⟩,
    ⟨some 25, .load 44 (.tmp 24), 44, none⟩,
    ⟨some 26, .call { callee := (.value (.func 67)), args := #[(.tmp 21), (.tmp 25)], argTypes := #[44, 44] }, 4, none⟩,
    ⟨some 6, .assign (.tmp 26), 4, none⟩]
@[go_sem] def c41_8 : Cmd := .ops [⟨some 27, .move (.tmp 6), 4, none⟩,
    ⟨some 28, .unOp .not 4 (.tmp 27), 4, none⟩]
@[go_sem] def c41_9 : Cmd := .ops [⟨some 4, .assign (.const (.bool false)), 4, none⟩]
@[go_sem] def c41_10 : Cmd := .cond (.tmp 28) (.seq c41_9 .ret) .skip
@[go_sem] def c41_11 : Cmd := .block 1 (.seq c41_7 (.seq c41_8 c41_10))
@[go_sem] def c41_12 : Cmd := .ops [⟨some 16, .move (.tmp 5), 3, none⟩,
    ⟨some 17, .binOp .add 3 (.tmp 16) (.const (.int .i64 1)) 3, 3, none⟩,
    ⟨some 5, .assign (.tmp 17), 3, none⟩]
def c41_L0 : Cmd := (.seq (.seq c41_5 c41_6) (.seq c41_11 c41_12))
@[go_sem] def c41_13 : Cmd := .loop c41_L0
@[go_sem] def c41_14 : Cmd := .block 0 c41_13
@[go_sem] def c41_15 : Cmd := .ops [⟨some 4, .assign (.const (.bool true)), 4, none⟩]
@[go_sem] def c41 : Cmd := (.seq c41_0 (.seq (.seq c41_1 c41_3) (.seq (.seq c41_4 c41_14) (.seq c41_15 .ret))))
theorem b41 : Try.f41.body.map (comp 29) = some c41 := by kernel_rfl
theorem r41 : Try.f41.results.toList = [.tmp 4] := by kernel_rfl
-- 42 pith/pithlaw8.filesOf
@[go_sem] def c42_0 : Cmd := .ops [⟨some 2, .assign (.const (.slice none 0 0)), 26, none⟩]
@[go_sem] def c42_1 : Cmd := .ops [⟨some 3, .assign (.const (.slice none 0 0)), 26, none⟩]
@[go_sem] def c42_2 : Cmd := .ops [⟨some 8, .move (.tmp 0), 24, none⟩,
    ⟨some 9, .call { callee := (.value (.func 33)), args := #[(.tmp 8)], argTypes := #[24] }, 58, none⟩,
    ⟨some 4, .assign (.tmp 9), 58, none⟩]
@[go_sem] def c42_3 : Cmd := .ops [⟨some 5, .assign (.const (.int .i64 0)), 3, none⟩]
@[go_sem] def c42_4 : Cmd := .ops [⟨some 10, .move (.tmp 5), 3, none⟩,
    ⟨some 11, .move (.tmp 4), 58, none⟩,
    ⟨some 12, .call { callee := (.builtin .len), args := #[(.tmp 11)], argTypes := #[58] }, 3, none⟩,
    ⟨some 13, .binOp .lss 3 (.tmp 10) (.tmp 12) 3, 4, none⟩]
@[go_sem] def c42_5 : Cmd := .cond (.tmp 13) .skip (.exit 0)
@[go_sem] def c42_6 : Cmd := .ops [⟨some 17, .move (.tmp 0), 24, none⟩,
    ⟨some 18, .move (.tmp 4), 58, none⟩,
    ⟨some 19, .move (.tmp 5), 3, none⟩,
    ⟨some 20, .indexAddr 58 (.tmp 18) (.tmp 19), 0, none⟩,
    ⟨some 21, .load 9 (.tmp 20), 9, none⟩,
    ⟨some 22, .call { callee := (.value (.func 31)), args := #[(.tmp 17), (.tmp 21), (.const (.int .i64 0)), (.const (.int .i64 1073741824))], argTypes := #[24, 9, 3, 3] }, 54, none⟩,
    ⟨some 16, .move (.tmp 22), 54, none⟩,
    ⟨some 23, .extract (.tmp 16) 0, 34, none⟩,
    ⟨some 24, .extract (.tmp 16) 1, 39, none⟩,
    ⟨some 6, .assign (.tmp 23), 34, none⟩,
    ⟨some 7, .assign (.tmp 24), 39, none⟩]
@[go_sem] def c42_7 : Cmd := .ops [⟨some 25, .move (.tmp 3), 26, none⟩,
    ⟨some 26, .move (.tmp 4), 58, none⟩,
    ⟨some 27, .move (.tmp 5), 3, none⟩,
    ⟨some 28, .indexAddr 58 (.tmp 26) (.tmp 27), 0, none⟩,
    ⟨some 29, .load 9 (.tmp 28), 9, none⟩,
    ⟨some 30, .move (.tmp 6), 34, none⟩,
    ⟨some 31, .build 44 #[(0, (.tmp 29)), (1, (.tmp 30))], 44, none⟩,
    ⟨some 32, .buildSlice 26 1 #[(0, (.tmp 31))], 26, none⟩,
    ⟨some 33, .call { callee := (.builtin .append), args := #[(.tmp 25), (.tmp 32)], argTypes := #[26, 26] }, 26, none⟩,
    ⟨some 3, .assign (.tmp 33), 26, none⟩]
@[go_sem] def c42_8 : Cmd := .block 1 (.seq c42_6 c42_7)
@[go_sem] def c42_9 : Cmd := .ops [⟨some 14, .move (.tmp 5), 3, none⟩,
    ⟨some 15, .binOp .add 3 (.tmp 14) (.const (.int .i64 1)) 3, 3, none⟩,
    ⟨some 5, .assign (.tmp 15), 3, none⟩]
def c42_L0 : Cmd := (.seq (.seq c42_4 c42_5) (.seq c42_8 c42_9))
@[go_sem] def c42_10 : Cmd := .loop c42_L0
@[go_sem] def c42_11 : Cmd := .block 0 c42_10
@[go_sem] def c42_12 : Cmd := .ops [⟨some 34, .move (.tmp 3), 26, none⟩,
    ⟨some 2, .assign (.tmp 34), 26, none⟩]
@[go_sem] def c42 : Cmd := (.seq c42_0 (.seq c42_1 (.seq c42_2 (.seq (.seq c42_3 c42_11) (.seq c42_12 .ret)))))
theorem b42 : Try.f42.body.map (comp 35) = some c42 := by kernel_rfl
theorem r42 : Try.f42.results.toList = [.tmp 2] := by kernel_rfl
-- 43 pith/pithlaw8.fits
@[go_sem] def c43_0 : Cmd := .ops [⟨some 1, .box 75 (.tmp 0), 0, none⟩,
    ⟨some 2, .assign (.const (.bool false)), 4, none⟩]
@[go_sem] def c43_1 : Cmd := .ops [⟨some 3, .fieldAddr 75 (.tmp 1) 5, 0, none⟩,
    ⟨some 4, .load 34 (.tmp 3), 34, none⟩,
    ⟨some 5, .call { callee := (.builtin .len), args := #[(.tmp 4)], argTypes := #[34] }, 3, none⟩,
    ⟨some 6, .binOp .leq 3 (.tmp 5) (.const (.int .i64 16384)) 3, 4, none⟩,
    ⟨some 7, .move (.tmp 6), 4, none⟩,
    ⟨some 8, .fieldAddr 75 (.tmp 1) 3, 0, some (7, true)⟩,
    ⟨some 9, .load 9 (.tmp 8), 9, some (7, true)⟩,
    ⟨some 10, .call { callee := (.builtin .len), args := #[(.tmp 9)], argTypes := #[9] }, 3, some (7, true)⟩,
    ⟨some 11, .binOp .leq 3 (.tmp 10) (.const (.int .i64 16384)) 3, 4, some (7, true)⟩,
    ⟨some 12, .pick (.tmp 7) (.tmp 11) (.const (.bool false)), 4, none⟩,
    ⟨some 13, .move (.tmp 12), 4, none⟩,
    ⟨some 14, .fieldAddr 75 (.tmp 1) 4, 0, some (13, true)⟩,
    ⟨some 15, .load 9 (.tmp 14), 9, some (13, true)⟩,
    ⟨some 16, .call { callee := (.builtin .len), args := #[(.tmp 15)], argTypes := #[9] }, 3, some (13, true)⟩,
    ⟨some 17, .binOp .leq 3 (.tmp 16) (.const (.int .i64 16384)) 3, 4, some (13, true)⟩,
    ⟨some 18, .pick (.tmp 13) (.tmp 17) (.const (.bool false)), 4, none⟩,
    ⟨some 2, .assign (.tmp 18), 4, none⟩]
@[go_sem] def c43 : Cmd := (.seq c43_0 (.seq c43_1 .ret))
theorem b43 : Try.f43.body.map (comp 19) = some c43 := by kernel_rfl
theorem r43 : Try.f43.results.toList = [.tmp 2] := by kernel_rfl
-- 44 (pith/pithlaw8.both).plays
@[go_sem] def c44_0 : Cmd := .ops [⟨some 2, .box 51 (.tmp 0), 0, none⟩,
    ⟨some 3, .box 75 (.tmp 1), 0, none⟩,
    ⟨some 4, .assign (.const (.bool false)), 4, none⟩]
@[go_sem] def c44_1 : Cmd := .ops [⟨some 21, .fieldAddr 75 (.tmp 3) 0, 0, none⟩,
    ⟨some 22, .load 3 (.tmp 21), 3, none⟩]
@[go_sem] def c44_2 : Cmd := .ops [⟨some 24, .binOp .eql 3 (.tmp 22) (.const (.int .i64 1)) 3, 4, none⟩,
    ⟨some 23, .assign (.tmp 24), 4, none⟩]
@[go_sem] def c44_3 : Cmd := .drawn (.step 3 ⟨some 25, .fieldAddr 51 (.tmp 2) 0, 0, none⟩
    (.step 0 ⟨some 26, .load 24 (.tmp 25), 24, none⟩
    (.step 3 ⟨some 27, .fieldAddr 75 (.tmp 3) 3, 0, none⟩
    (.step 0 ⟨some 28, .load 9 (.tmp 27), 9, none⟩
    (.step 3 ⟨some 31, .fieldAddr 51 (.tmp 2) 1, 0, none⟩
    (.step 0 ⟨some 32, .load 48 (.tmp 31), 48, none⟩
    (.step 3 ⟨some 33, .fieldAddr 75 (.tmp 3) 3, 0, none⟩
    (.step 0 ⟨some 34, .load 9 (.tmp 33), 9, none⟩
    (.step 1 ⟨some 29, .call { callee := (.value (.func 39)), args := #[(.tmp 26), (.tmp 28)], argTypes := #[24, 9] }, 39, none⟩
    (.step 1 ⟨some 30, .call { callee := (.value (.func 22)), args := #[(.tmp 29)], argTypes := #[39] }, 3, none⟩
    (.step 1 ⟨some 35, .call { callee := (.value (.func 68)), args := #[(.tmp 32), (.tmp 34)], argTypes := #[48, 9] }, 3, none⟩
    (.step 3 ⟨some 36, .binOp .eql 3 (.tmp 30) (.tmp 35) 3, 4, none⟩
    (.step 3 ⟨some 4, .assign (.tmp 36), 4, none⟩
    .done)))))))))))))
@[go_sem] def c44_4 : Cmd := .ops [⟨some 38, .binOp .eql 3 (.tmp 22) (.const (.int .i64 2)) 3, 4, none⟩,
    ⟨some 37, .assign (.tmp 38), 4, none⟩]
@[go_sem] def c44_5 : Cmd := .ops [⟨some 39, .fieldAddr 75 (.tmp 3) 5, 0, none⟩,
    ⟨some 40, .load 34 (.tmp 39), 34, none⟩,
    ⟨some 41, .call { callee := (.value (.func 69)), args := #[(.tmp 40)], argTypes := #[34] }, 34, none⟩,
    ⟨some 42, .buildSlice 34 2 #[(0, (.const (.int .u8 201))), (1, (.const (.int .u8 202)))], 34, none⟩,
    ⟨some 43, .call { callee := (.builtin .append), args := #[(.tmp 41), (.tmp 42)], argTypes := #[34, 34] }, 34, none⟩,
    ⟨some 5, .assign (.tmp 43), 34, none⟩]
@[go_sem] def c44_6 : Cmd := .ops [⟨some 44, .fieldAddr 75 (.tmp 3) 5, 0, none⟩,
    ⟨some 45, .load 34 (.tmp 44), 34, none⟩,
    ⟨some 46, .call { callee := (.builtin .len), args := #[(.tmp 45)], argTypes := #[34] }, 3, none⟩,
    ⟨some 6, .assign (.tmp 46), 3, none⟩]
@[go_sem] def c44_7 : Cmd := .drawn (.step 3 ⟨some 47, .fieldAddr 51 (.tmp 2) 0, 0, none⟩
    (.step 0 ⟨some 48, .load 24 (.tmp 47), 24, none⟩
    (.step 3 ⟨some 49, .fieldAddr 75 (.tmp 3) 3, 0, none⟩
    (.step 0 ⟨some 50, .load 9 (.tmp 49), 9, none⟩
    (.step 3 ⟨some 51, .move (.tmp 5), 34, none⟩
    (.step 3 ⟨some 52, .move (.tmp 6), 3, none⟩
    (.step 3 ⟨some 53, .slice 34 (.tmp 51) none (some (.tmp 52)) none, 34, none⟩
    (.step 3 ⟨some 56, .fieldAddr 51 (.tmp 2) 1, 0, none⟩
    (.step 0 ⟨some 57, .load 48 (.tmp 56), 48, none⟩
    (.step 3 ⟨some 58, .fieldAddr 75 (.tmp 3) 3, 0, none⟩
    (.step 0 ⟨some 59, .load 9 (.tmp 58), 9, none⟩
    (.step 3 ⟨some 60, .fieldAddr 75 (.tmp 3) 5, 0, none⟩
    (.step 0 ⟨some 61, .load 34 (.tmp 60), 34, none⟩
    (.step 1 ⟨some 54, .call { callee := (.value (.func 20)), args := #[(.tmp 48), (.tmp 50), (.tmp 53)], argTypes := #[24, 9, 34] }, 39, none⟩
    (.step 1 ⟨some 55, .call { callee := (.value (.func 22)), args := #[(.tmp 54)], argTypes := #[39] }, 3, none⟩
    (.step 1 ⟨some 62, .call { callee := (.value (.func 70)), args := #[(.tmp 57), (.tmp 59), (.tmp 61)], argTypes := #[48, 9, 34] }, 3, none⟩
    (.step 3 ⟨some 63, .binOp .eql 3 (.tmp 55) (.tmp 62) 3, 4, none⟩
    (.step 3 ⟨some 7, .assign (.tmp 63), 4, none⟩
    .done))))))))))))))))))
@[go_sem] def c44_8 : Cmd := .quiet [⟨some 64, .move (.tmp 5), 34, none⟩,
    ⟨some 65, .move (.tmp 6), 3, none⟩,
    ⟨some 66, .slice 34 (.tmp 64) none (some (.tmp 65)) none, 34, none⟩,
    ⟨some 67, .fieldAddr 75 (.tmp 3) 5, 0, none⟩,
    ⟨some 68, .load 34 (.tmp 67), 34, none⟩,
    ⟨some 69, .call { callee := (.value (.func 48)), args := #[(.tmp 66), (.tmp 68)], argTypes := #[34, 34] }, 4, none⟩,
    ⟨some 70, .move (.tmp 69), 4, none⟩,
    ⟨some 71, .move (.tmp 5), 34, some (70, true)⟩,
    ⟨some 72, .move (.tmp 6), 3, some (70, true)⟩,
    ⟨some 73, .indexAddr 34 (.tmp 71) (.tmp 72), 0, some (70, true)⟩,
    ⟨some 74, .load 5 (.tmp 73), 5, some (70, true)⟩,
    ⟨some 75, .binOp .eql 5 (.tmp 74) (.const (.int .u8 201)) 5, 4, some (70, true)⟩,
    ⟨some 76, .pick (.tmp 70) (.tmp 75) (.const (.bool false)), 4, none⟩,
    ⟨some 77, .move (.tmp 76), 4, none⟩,
    ⟨some 78, .move (.tmp 5), 34, some (77, true)⟩,
    ⟨some 79, .move (.tmp 6), 3, some (77, true)⟩,
    ⟨some 80, .binOp .add 3 (.tmp 79) (.const (.int .i64 1)) 3, 3, some (77, true)⟩,
    ⟨some 81, .indexAddr 34 (.tmp 78) (.tmp 80), 0, some (77, true)⟩,
    ⟨some 82, .load 5 (.tmp 81), 5, some (77, true)⟩,
    ⟨some 83, .binOp .eql 5 (.tmp 82) (.const (.int .u8 202)) 5, 4, some (77, true)⟩,
    ⟨some 84, .pick (.tmp 77) (.tmp 83) (.const (.bool false)), 4, none⟩,
    ⟨some 8, .assign (.tmp 84), 4, none⟩]
@[go_sem] def c44_9 : Cmd := .ops [⟨some 9, .assign (.const (.int .i64 0)), 3, none⟩]
@[go_sem] def c44_10 : Cmd := .ops [⟨some 85, .move (.tmp 9), 3, none⟩,
    ⟨some 86, .move (.tmp 5), 34, none⟩,
    ⟨some 87, .call { callee := (.builtin .len), args := #[(.tmp 86)], argTypes := #[34] }, 3, none⟩,
    ⟨some 88, .binOp .lss 3 (.tmp 85) (.tmp 87) 3, 4, none⟩]
@[go_sem] def c44_11 : Cmd := .cond (.tmp 88) .skip (.exit 1)
@[go_sem] def c44_12 : Cmd := .ops [⟨some 91, .move (.tmp 5), 34, none⟩,
    ⟨some 92, .move (.tmp 9), 3, none⟩,
    ⟨some 93, .indexAddr 34 (.tmp 91) (.tmp 92), 0, none⟩,
    ⟨none, .store 5 (.tmp 93) (.const (.int .u8 7)), 0, none⟩]
@[go_sem] def c44_13 : Cmd := .block 2 c44_12
@[go_sem] def c44_14 : Cmd := .ops [⟨some 89, .move (.tmp 9), 3, none⟩,
    ⟨some 90, .binOp .add 3 (.tmp 89) (.const (.int .i64 1)) 3, 3, none⟩,
    ⟨some 9, .assign (.tmp 90), 3, none⟩]
def c44_L0 : Cmd := (.seq (.seq c44_10 c44_11) (.seq c44_13 c44_14))
@[go_sem] def c44_15 : Cmd := .loop c44_L0
@[go_sem] def c44_16 : Cmd := .block 1 c44_15
@[go_sem] def c44_17 : Cmd := .ops [⟨some 94, .move (.tmp 7), 4, none⟩,
    ⟨some 95, .move (.tmp 94), 4, none⟩,
    ⟨some 96, .move (.tmp 8), 4, some (95, true)⟩,
    ⟨some 97, .pick (.tmp 95) (.tmp 96) (.const (.bool false)), 4, none⟩,
    ⟨some 4, .assign (.tmp 97), 4, none⟩]
@[go_sem] def c44_18 : Cmd := .ops [⟨some 99, .binOp .eql 3 (.tmp 22) (.const (.int .i64 3)) 3, 4, none⟩,
    ⟨some 98, .assign (.tmp 99), 4, none⟩]
@[go_sem] def c44_19 : Cmd := .drawn (.step 3 ⟨some 100, .fieldAddr 51 (.tmp 2) 0, 0, none⟩
    (.step 0 ⟨some 101, .load 24 (.tmp 100), 24, none⟩
    (.step 3 ⟨some 102, .fieldAddr 75 (.tmp 3) 3, 0, none⟩
    (.step 0 ⟨some 103, .load 9 (.tmp 102), 9, none⟩
    (.step 3 ⟨some 106, .fieldAddr 51 (.tmp 2) 1, 0, none⟩
    (.step 0 ⟨some 107, .load 48 (.tmp 106), 48, none⟩
    (.step 3 ⟨some 108, .fieldAddr 75 (.tmp 3) 3, 0, none⟩
    (.step 0 ⟨some 109, .load 9 (.tmp 108), 9, none⟩
    (.step 1 ⟨some 104, .call { callee := (.value (.func 21)), args := #[(.tmp 101), (.tmp 103)], argTypes := #[24, 9] }, 39, none⟩
    (.step 1 ⟨some 105, .call { callee := (.value (.func 22)), args := #[(.tmp 104)], argTypes := #[39] }, 3, none⟩
    (.step 1 ⟨some 110, .call { callee := (.value (.func 71)), args := #[(.tmp 107), (.tmp 109)], argTypes := #[48, 9] }, 3, none⟩
    (.step 3 ⟨some 111, .binOp .eql 3 (.tmp 105) (.tmp 110) 3, 4, none⟩
    (.step 3 ⟨some 4, .assign (.tmp 111), 4, none⟩
    .done)))))))))))))
@[go_sem] def c44_20 : Cmd := .ops [⟨some 113, .binOp .eql 3 (.tmp 22) (.const (.int .i64 4)) 3, 4, none⟩,
    ⟨some 112, .assign (.tmp 113), 4, none⟩]
@[go_sem] def c44_21 : Cmd := .drawn (.step 3 ⟨some 114, .fieldAddr 51 (.tmp 2) 0, 0, none⟩
    (.step 0 ⟨some 115, .load 24 (.tmp 114), 24, none⟩
    (.step 3 ⟨some 116, .fieldAddr 75 (.tmp 3) 3, 0, none⟩
    (.step 0 ⟨some 117, .load 9 (.tmp 116), 9, none⟩
    (.step 3 ⟨some 118, .fieldAddr 75 (.tmp 3) 4, 0, none⟩
    (.step 0 ⟨some 119, .load 9 (.tmp 118), 9, none⟩
    (.step 3 ⟨some 122, .fieldAddr 51 (.tmp 2) 1, 0, none⟩
    (.step 0 ⟨some 123, .load 48 (.tmp 122), 48, none⟩
    (.step 3 ⟨some 124, .fieldAddr 75 (.tmp 3) 3, 0, none⟩
    (.step 0 ⟨some 125, .load 9 (.tmp 124), 9, none⟩
    (.step 3 ⟨some 126, .fieldAddr 75 (.tmp 3) 4, 0, none⟩
    (.step 0 ⟨some 127, .load 9 (.tmp 126), 9, none⟩
    (.step 1 ⟨some 120, .call { callee := (.value (.func 45)), args := #[(.tmp 115), (.tmp 117), (.tmp 119)], argTypes := #[24, 9, 9] }, 39, none⟩
    (.step 1 ⟨some 121, .call { callee := (.value (.func 22)), args := #[(.tmp 120)], argTypes := #[39] }, 3, none⟩
    (.step 1 ⟨some 128, .call { callee := (.value (.func 72)), args := #[(.tmp 123), (.tmp 125), (.tmp 127)], argTypes := #[48, 9, 9] }, 3, none⟩
    (.step 3 ⟨some 129, .binOp .eql 3 (.tmp 121) (.tmp 128) 3, 4, none⟩
    (.step 3 ⟨some 4, .assign (.tmp 129), 4, none⟩
    .done)))))))))))))))))
@[go_sem] def c44_22 : Cmd := .ops [⟨some 131, .binOp .eql 3 (.tmp 22) (.const (.int .i64 5)) 3, 4, none⟩,
    ⟨some 130, .assign (.tmp 131), 4, none⟩]
@[go_sem] def c44_23 : Cmd := .drawn (.step 3 ⟨some 132, .fieldAddr 51 (.tmp 2) 0, 0, none⟩
    (.step 0 ⟨some 133, .load 24 (.tmp 132), 24, none⟩
    (.step 3 ⟨some 134, .fieldAddr 75 (.tmp 3) 3, 0, none⟩
    (.step 0 ⟨some 135, .load 9 (.tmp 134), 9, none⟩
    (.step 3 ⟨some 138, .fieldAddr 51 (.tmp 2) 1, 0, none⟩
    (.step 0 ⟨some 139, .load 48 (.tmp 138), 48, none⟩
    (.step 3 ⟨some 140, .fieldAddr 75 (.tmp 3) 3, 0, none⟩
    (.step 0 ⟨some 141, .load 9 (.tmp 140), 9, none⟩
    (.step 1 ⟨some 136, .call { callee := (.value (.func 46)), args := #[(.tmp 133), (.tmp 135)], argTypes := #[24, 9] }, 39, none⟩
    (.step 1 ⟨some 137, .call { callee := (.value (.func 22)), args := #[(.tmp 136)], argTypes := #[39] }, 3, none⟩
    (.step 1 ⟨some 142, .call { callee := (.value (.func 73)), args := #[(.tmp 139), (.tmp 141)], argTypes := #[48, 9] }, 3, none⟩
    (.step 3 ⟨some 143, .binOp .eql 3 (.tmp 137) (.tmp 142) 3, 4, none⟩
    (.step 3 ⟨some 4, .assign (.tmp 143), 4, none⟩
    .done)))))))))))))
@[go_sem] def c44_24 : Cmd := .ops [⟨some 145, .binOp .eql 3 (.tmp 22) (.const (.int .i64 6)) 3, 4, none⟩,
    ⟨some 144, .assign (.tmp 145), 4, none⟩]
@[go_sem] def c44_25 : Cmd := .drawn (.step 3 ⟨some 146, .fieldAddr 51 (.tmp 2) 0, 0, none⟩
    (.step 0 ⟨some 147, .load 24 (.tmp 146), 24, none⟩
    (.step 3 ⟨some 150, .fieldAddr 51 (.tmp 2) 1, 0, none⟩
    (.step 0 ⟨some 151, .load 48 (.tmp 150), 48, none⟩
    (.step 1 ⟨some 148, .call { callee := (.value (.func 34)), args := #[(.tmp 147)], argTypes := #[24] }, 39, none⟩
    (.step 1 ⟨some 149, .call { callee := (.value (.func 22)), args := #[(.tmp 148)], argTypes := #[39] }, 3, none⟩
    (.step 1 ⟨some 152, .call { callee := (.value (.func 74)), args := #[(.tmp 151)], argTypes := #[48] }, 3, none⟩
    (.step 3 ⟨some 153, .binOp .eql 3 (.tmp 149) (.tmp 152) 3, 4, none⟩
    (.step 3 ⟨some 4, .assign (.tmp 153), 4, none⟩
    .done)))))))))
@[go_sem] def c44_26 : Cmd := .ops [⟨some 155, .binOp .eql 3 (.tmp 22) (.const (.int .i64 7)) 3, 4, none⟩,
    ⟨some 154, .assign (.tmp 155), 4, none⟩]
@[go_sem] def c44_27 : Cmd := .ops [⟨some 157, .fieldAddr 51 (.tmp 2) 0, 0, none⟩,
    ⟨some 158, .load 24 (.tmp 157), 24, none⟩,
    ⟨some 159, .fieldAddr 75 (.tmp 3) 3, 0, none⟩,
    ⟨some 160, .load 9 (.tmp 159), 9, none⟩,
    ⟨some 161, .fieldAddr 75 (.tmp 3) 1, 0, none⟩,
    ⟨some 162, .load 3 (.tmp 161), 3, none⟩,
    ⟨some 163, .fieldAddr 75 (.tmp 3) 2, 0, none⟩,
    ⟨some 164, .load 3 (.tmp 163), 3, none⟩,
    ⟨some 165, .call { callee := (.value (.func 31)), args := #[(.tmp 158), (.tmp 160), (.tmp 162), (.tmp 164)], argTypes := #[24, 9, 3, 3] }, 54, none⟩,
    ⟨some 156, .move (.tmp 165), 54, none⟩,
    ⟨some 166, .extract (.tmp 156) 0, 34, none⟩,
    ⟨some 167, .extract (.tmp 156) 1, 39, none⟩,
    ⟨some 10, .assign (.tmp 166), 34, none⟩,
    ⟨some 11, .assign (.tmp 167), 39, none⟩]
@[go_sem] def c44_28 : Cmd := .ops [⟨some 169, .fieldAddr 51 (.tmp 2) 1, 0, none⟩,
    ⟨some 170, .load 48 (.tmp 169), 48, none⟩,
    ⟨some 171, .fieldAddr 75 (.tmp 3) 3, 0, none⟩,
    ⟨some 172, .load 9 (.tmp 171), 9, none⟩,
    ⟨some 173, .fieldAddr 75 (.tmp 3) 1, 0, none⟩,
    ⟨some 174, .load 3 (.tmp 173), 3, none⟩,
    ⟨some 175, .fieldAddr 75 (.tmp 3) 2, 0, none⟩,
    ⟨some 176, .load 3 (.tmp 175), 3, none⟩,
    ⟨some 177, .call { callee := (.value (.func 75)), args := #[(.tmp 170), (.tmp 172), (.tmp 174), (.tmp 176)], argTypes := #[48, 9, 3, 3] }, 109, none⟩,
    ⟨some 168, .move (.tmp 177), 109, none⟩,
    ⟨some 178, .extract (.tmp 168) 0, 34, none⟩,
    ⟨some 179, .extract (.tmp 168) 1, 3, none⟩,
    ⟨some 12, .assign (.tmp 178), 34, none⟩,
    ⟨some 13, .assign (.tmp 179), 3, none⟩]
@[go_sem] def c44_29 : Cmd := .ops [⟨some 180, .move (.tmp 10), 34, none⟩,
    ⟨some 181, .move (.tmp 12), 34, none⟩,
    ⟨some 182, .call { callee := (.value (.func 48)), args := #[(.tmp 180), (.tmp 181)], argTypes := #[34, 34] }, 4, none⟩,
    ⟨some 183, .move (.tmp 182), 4, none⟩,
    ⟨some 184, .move (.tmp 11), 39, some (183, true)⟩,
    ⟨some 185, .call { callee := (.value (.func 22)), args := #[(.tmp 184)], argTypes := #[39] }, 3, some (183, true)⟩,
    ⟨some 186, .move (.tmp 13), 3, some (183, true)⟩,
    ⟨some 187, .binOp .eql 3 (.tmp 185) (.tmp 186) 3, 4, some (183, true)⟩,
    ⟨some 188, .pick (.tmp 183) (.tmp 187) (.const (.bool false)), 4, none⟩,
    ⟨some 4, .assign (.tmp 188), 4, none⟩]
@[go_sem] def c44_30 : Cmd := .ops [⟨some 190, .binOp .eql 3 (.tmp 22) (.const (.int .i64 8)) 3, 4, none⟩,
    ⟨some 189, .assign (.tmp 190), 4, none⟩]
@[go_sem] def c44_31 : Cmd := .ops [⟨some 192, .fieldAddr 51 (.tmp 2) 0, 0, none⟩,
    ⟨some 193, .load 24 (.tmp 192), 24, none⟩,
    ⟨some 194, .fieldAddr 75 (.tmp 3) 3, 0, none⟩,
    ⟨some 195, .load 9 (.tmp 194), 9, none⟩,
    ⟨some 196, .call { callee := (.value (.func 32)), args := #[(.tmp 193), (.tmp 195)], argTypes := #[24, 9] }, 56, none⟩,
    ⟨some 191, .move (.tmp 196), 56, none⟩,
    ⟨some 197, .extract (.tmp 191) 0, 3, none⟩,
    ⟨some 198, .extract (.tmp 191) 1, 39, none⟩,
    ⟨some 14, .assign (.tmp 197), 3, none⟩,
    ⟨some 15, .assign (.tmp 198), 39, none⟩]
@[go_sem] def c44_32 : Cmd := .ops [⟨some 200, .fieldAddr 51 (.tmp 2) 1, 0, none⟩,
    ⟨some 201, .load 48 (.tmp 200), 48, none⟩,
    ⟨some 202, .fieldAddr 75 (.tmp 3) 3, 0, none⟩,
    ⟨some 203, .load 9 (.tmp 202), 9, none⟩,
    ⟨some 204, .call { callee := (.value (.func 76)), args := #[(.tmp 201), (.tmp 203)], argTypes := #[48, 9] }, 111, none⟩,
    ⟨some 199, .move (.tmp 204), 111, none⟩,
    ⟨some 205, .extract (.tmp 199) 0, 3, none⟩,
    ⟨some 206, .extract (.tmp 199) 1, 3, none⟩,
    ⟨some 16, .assign (.tmp 205), 3, none⟩,
    ⟨some 17, .assign (.tmp 206), 3, none⟩]
@[go_sem] def c44_33 : Cmd := .ops [⟨some 207, .move (.tmp 14), 3, none⟩,
    ⟨some 208, .move (.tmp 16), 3, none⟩,
    ⟨some 209, .binOp .eql 3 (.tmp 207) (.tmp 208) 3, 4, none⟩,
    ⟨some 210, .move (.tmp 209), 4, none⟩,
    ⟨some 211, .move (.tmp 15), 39, some (210, true)⟩,
    ⟨some 212, .call { callee := (.value (.func 22)), args := #[(.tmp 211)], argTypes := #[39] }, 3, some (210, true)⟩,
    ⟨some 213, .move (.tmp 17), 3, some (210, true)⟩,
    ⟨some 214, .binOp .eql 3 (.tmp 212) (.tmp 213) 3, 4, some (210, true)⟩,
    ⟨some 215, .pick (.tmp 210) (.tmp 214) (.const (.bool false)), 4, none⟩,
    ⟨some 4, .assign (.tmp 215), 4, none⟩]
@[go_sem] def c44_34 : Cmd := .ops [⟨some 217, .binOp .eql 3 (.tmp 22) (.const (.int .i64 9)) 3, 4, none⟩,
    ⟨some 216, .assign (.tmp 217), 4, none⟩]
@[go_sem] def c44_35 : Cmd := .drawn (.step 3 ⟨some 218, .fieldAddr 51 (.tmp 2) 0, 0, none⟩
    (.step 0 ⟨some 219, .load 24 (.tmp 218), 24, none⟩
    (.step 3 ⟨some 220, .fieldAddr 75 (.tmp 3) 1, 0, none⟩
    (.step 0 ⟨some 221, .load 3 (.tmp 220), 3, none⟩
    (.step 3 ⟨some 224, .fieldAddr 51 (.tmp 2) 1, 0, none⟩
    (.step 0 ⟨some 225, .load 48 (.tmp 224), 48, none⟩
    (.step 3 ⟨some 226, .fieldAddr 75 (.tmp 3) 1, 0, none⟩
    (.step 0 ⟨some 227, .load 3 (.tmp 226), 3, none⟩
    (.step 1 ⟨some 222, .call { callee := (.value (.func 28)), args := #[(.tmp 219), (.tmp 221)], argTypes := #[24, 3] }, 39, none⟩
    (.step 1 ⟨some 223, .call { callee := (.value (.func 22)), args := #[(.tmp 222)], argTypes := #[39] }, 3, none⟩
    (.step 1 ⟨some 228, .call { callee := (.value (.func 77)), args := #[(.tmp 225), (.tmp 227)], argTypes := #[48, 3] }, 3, none⟩
    (.step 3 ⟨some 229, .binOp .eql 3 (.tmp 223) (.tmp 228) 3, 4, none⟩
    (.step 3 ⟨some 4, .assign (.tmp 229), 4, none⟩
    .done)))))))))))))
@[go_sem] def c44_36 : Cmd := .ops [⟨some 231, .binOp .eql 3 (.tmp 22) (.const (.int .i64 10)) 3, 4, none⟩,
    ⟨some 230, .assign (.tmp 231), 4, none⟩]
@[go_sem] def c44_37 : Cmd := .ops [⟨some 232, .fieldAddr 75 (.tmp 3) 6, 0, none⟩,
    ⟨some 233, .load 62 (.tmp 232), 62, none⟩,
    ⟨some 234, .call { callee := (.value (.func 78)), args := #[(.tmp 233)], argTypes := #[62] }, 62, none⟩,
    ⟨some 235, .buildSlice 62 2 #[(0, (.const (.int .i64 1099511627776))), (1, (.const (.int .i64 1099511627776)))], 62, none⟩,
    ⟨some 236, .call { callee := (.builtin .append), args := #[(.tmp 234), (.tmp 235)], argTypes := #[62, 62] }, 62, none⟩,
    ⟨some 18, .assign (.tmp 236), 62, none⟩]
@[go_sem] def c44_38 : Cmd := .ops [⟨some 237, .fieldAddr 75 (.tmp 3) 6, 0, none⟩,
    ⟨some 238, .load 62 (.tmp 237), 62, none⟩,
    ⟨some 239, .call { callee := (.builtin .len), args := #[(.tmp 238)], argTypes := #[62] }, 3, none⟩,
    ⟨some 19, .assign (.tmp 239), 3, none⟩]
@[go_sem] def c44_39 : Cmd := .still 7 [⟨some 240, .fieldAddr 51 (.tmp 2) 0, 0, none⟩,
    ⟨some 241, .load 24 (.tmp 240), 24, none⟩,
    ⟨some 242, .fieldAddr 75 (.tmp 3) 1, 0, none⟩,
    ⟨some 243, .load 3 (.tmp 242), 3, none⟩,
    ⟨some 244, .move (.tmp 18), 62, none⟩,
    ⟨some 245, .move (.tmp 19), 3, none⟩,
    ⟨some 246, .slice 62 (.tmp 244) none (some (.tmp 245)) none, 62, none⟩,
    ⟨some 247, .call { callee := (.value (.func 25)), args := #[(.tmp 241), (.tmp 243), (.tmp 246)], argTypes := #[24, 3, 62] }, 0, none⟩]
@[go_sem] def c44_40 : Cmd := .ops [⟨some 248, .fieldAddr 51 (.tmp 2) 1, 0, none⟩,
    ⟨some 249, .load 48 (.tmp 248), 48, none⟩,
    ⟨some 250, .fieldAddr 75 (.tmp 3) 1, 0, none⟩,
    ⟨some 251, .load 3 (.tmp 250), 3, none⟩,
    ⟨some 252, .fieldAddr 75 (.tmp 3) 6, 0, none⟩,
    ⟨some 253, .load 62 (.tmp 252), 62, none⟩,
    ⟨some 254, .call { callee := (.value (.func 79)), args := #[(.tmp 249), (.tmp 251), (.tmp 253)], argTypes := #[48, 3, 62] }, 0, none⟩]
@[go_sem] def c44_41 : Cmd := .draw (.step 3 ⟨some 255, .move (.tmp 18), 62, none⟩
    (.step 3 ⟨some 256, .move (.tmp 19), 3, none⟩
    (.step 3 ⟨some 257, .slice 62 (.tmp 255) none (some (.tmp 256)) none, 62, none⟩
    (.step 3 ⟨some 258, .fieldAddr 75 (.tmp 3) 6, 0, none⟩
    (.step 0 ⟨some 259, .load 62 (.tmp 258), 62, none⟩
    (.step 1 ⟨some 260, .call { callee := (.value (.func 80)), args := #[(.tmp 257), (.tmp 259)], argTypes := #[62, 62] }, 4, none⟩
    (.step 3 ⟨some 261, .move (.tmp 260), 4, none⟩
    (.step 3 ⟨some 262, .move (.tmp 18), 62, some (261, true)⟩
    (.step 3 ⟨some 263, .move (.tmp 19), 3, some (261, true)⟩
    (.step 3 ⟨some 264, .indexAddr 62 (.tmp 262) (.tmp 263), 0, some (261, true)⟩
    (.step 0 ⟨some 265, .load 3 (.tmp 264), 3, some (261, true)⟩
    (.step 3 ⟨some 266, .binOp .eql 3 (.tmp 265) (.const (.int .i64 1099511627776)) 3, 4, some (261, true)⟩
    (.step 3 ⟨some 267, .pick (.tmp 261) (.tmp 266) (.const (.bool false)), 4, none⟩
    (.step 3 ⟨some 268, .move (.tmp 267), 4, none⟩
    (.step 3 ⟨some 269, .move (.tmp 18), 62, some (268, true)⟩
    (.step 3 ⟨some 270, .move (.tmp 19), 3, some (268, true)⟩
    (.step 3 ⟨some 271, .binOp .add 3 (.tmp 270) (.const (.int .i64 1)) 3, 3, some (268, true)⟩
    (.step 3 ⟨some 272, .indexAddr 62 (.tmp 269) (.tmp 271), 0, some (268, true)⟩
    (.step 0 ⟨some 273, .load 3 (.tmp 272), 3, some (268, true)⟩
    (.step 3 ⟨some 274, .binOp .eql 3 (.tmp 273) (.const (.int .i64 1099511627776)) 3, 4, some (268, true)⟩
    (.step 3 ⟨some 275, .pick (.tmp 268) (.tmp 274) (.const (.bool false)), 4, none⟩
    (.step 3 ⟨some 20, .assign (.tmp 275), 4, none⟩
    .done))))))))))))))))))))))
@[go_sem] def c44_42 : Cmd := .ops [⟨some 276, .move (.tmp 20), 4, none⟩,
    ⟨some 277, .move (.tmp 276), 4, none⟩,
    ⟨some 278, .load 51 (.tmp 2), 51, some (277, true)⟩,
    ⟨some 279, .call { callee := (.value (.func 27)), args := #[(.tmp 278)], argTypes := #[51] }, 4, some (277, true)⟩,
    ⟨some 280, .pick (.tmp 277) (.tmp 279) (.const (.bool false)), 4, none⟩,
    ⟨some 4, .assign (.tmp 280), 4, none⟩]
@[go_sem] def c44_43 : Cmd := .ops [⟨some 282, .binOp .eql 3 (.tmp 22) (.const (.int .i64 11)) 3, 4, none⟩,
    ⟨some 281, .assign (.tmp 282), 4, none⟩]
@[go_sem] def c44_44 : Cmd := .drawn (.step 3 ⟨some 283, .fieldAddr 51 (.tmp 2) 0, 0, none⟩
    (.step 0 ⟨some 284, .load 24 (.tmp 283), 24, none⟩
    (.step 3 ⟨some 285, .fieldAddr 75 (.tmp 3) 3, 0, none⟩
    (.step 0 ⟨some 286, .load 9 (.tmp 285), 9, none⟩
    (.step 3 ⟨some 287, .fieldAddr 75 (.tmp 3) 1, 0, none⟩
    (.step 0 ⟨some 288, .load 3 (.tmp 287), 3, none⟩
    (.step 3 ⟨some 289, .fieldAddr 75 (.tmp 3) 2, 0, none⟩
    (.step 0 ⟨some 290, .load 3 (.tmp 289), 3, none⟩
    (.step 3 ⟨some 293, .fieldAddr 51 (.tmp 2) 1, 0, none⟩
    (.step 0 ⟨some 294, .load 48 (.tmp 293), 48, none⟩
    (.step 3 ⟨some 295, .fieldAddr 75 (.tmp 3) 3, 0, none⟩
    (.step 0 ⟨some 296, .load 9 (.tmp 295), 9, none⟩
    (.step 3 ⟨some 297, .fieldAddr 75 (.tmp 3) 1, 0, none⟩
    (.step 0 ⟨some 298, .load 3 (.tmp 297), 3, none⟩
    (.step 3 ⟨some 299, .fieldAddr 75 (.tmp 3) 2, 0, none⟩
    (.step 0 ⟨some 300, .load 3 (.tmp 299), 3, none⟩
    (.step 1 ⟨some 291, .call { callee := (.value (.func 81)), args := #[(.tmp 284), (.tmp 286), (.tmp 288), (.tmp 290)], argTypes := #[24, 9, 3, 3] }, 39, none⟩
    (.step 1 ⟨some 292, .call { callee := (.value (.func 22)), args := #[(.tmp 291)], argTypes := #[39] }, 3, none⟩
    (.step 1 ⟨some 301, .call { callee := (.value (.func 82)), args := #[(.tmp 294), (.tmp 296), (.tmp 298), (.tmp 300)], argTypes := #[48, 9, 3, 3] }, 3, none⟩
    (.step 3 ⟨some 302, .binOp .eql 3 (.tmp 292) (.tmp 301) 3, 4, none⟩
    (.step 3 ⟨some 4, .assign (.tmp 302), 4, none⟩
    .done)))))))))))))))))))))
@[go_sem] def c44_45 : Cmd := .ops [⟨some 304, .binOp .eql 3 (.tmp 22) (.const (.int .i64 12)) 3, 4, none⟩,
    ⟨some 303, .assign (.tmp 304), 4, none⟩]
@[go_sem] def c44_46 : Cmd := .ops [⟨some 305, .load 51 (.tmp 2), 51, none⟩,
    ⟨some 306, .call { callee := (.value (.func 27)), args := #[(.tmp 305)], argTypes := #[51] }, 4, none⟩,
    ⟨some 4, .assign (.tmp 306), 4, none⟩]
@[go_sem] def c44_47 : Cmd := .cond (.tmp 303) (.seq c44_46 .ret) .skip
@[go_sem] def c44_48 : Cmd := .cond (.tmp 281) (.seq c44_44 .ret) (.seq c44_45 c44_47)
@[go_sem] def c44_49 : Cmd := .cond (.tmp 230) (.seq c44_37 (.seq c44_38 (.seq c44_39 (.seq c44_40 (.seq c44_41 (.seq c44_42 .ret)))))) (.seq c44_43 c44_48)
@[go_sem] def c44_50 : Cmd := .cond (.tmp 216) (.seq c44_35 .ret) (.seq c44_36 c44_49)
@[go_sem] def c44_51 : Cmd := .cond (.tmp 189) (.seq c44_31 (.seq c44_32 (.seq c44_33 .ret))) (.seq c44_34 c44_50)
@[go_sem] def c44_52 : Cmd := .cond (.tmp 154) (.seq c44_27 (.seq c44_28 (.seq c44_29 .ret))) (.seq c44_30 c44_51)
@[go_sem] def c44_53 : Cmd := .cond (.tmp 144) (.seq c44_25 .ret) (.seq c44_26 c44_52)
@[go_sem] def c44_54 : Cmd := .cond (.tmp 130) (.seq c44_23 .ret) (.seq c44_24 c44_53)
@[go_sem] def c44_55 : Cmd := .cond (.tmp 112) (.seq c44_21 .ret) (.seq c44_22 c44_54)
@[go_sem] def c44_56 : Cmd := .cond (.tmp 98) (.seq c44_19 .ret) (.seq c44_20 c44_55)
@[go_sem] def c44_57 : Cmd := .cond (.tmp 37) (.seq c44_5 (.seq c44_6 (.seq c44_7 (.seq c44_8 (.seq (.seq c44_9 c44_16) (.seq c44_17 .ret)))))) (.seq c44_18 c44_56)
@[go_sem] def c44_58 : Cmd := .cond (.tmp 23) (.seq c44_3 .ret) (.seq c44_4 c44_57)
@[go_sem] def c44_59 : Cmd := .block 0 (.seq c44_2 c44_58)
@[go_sem] def c44_60 : Cmd := .ops [⟨some 4, .assign (.const (.bool true)), 4, none⟩]
@[go_sem] def c44 : Cmd := (.seq c44_0 (.seq (.seq c44_1 c44_59) (.seq c44_60 .ret)))
theorem b44 : Try.f44.body.map (comp 307) = some c44 := by kernel_rfl
theorem r44 : Try.f44.results.toList = [.tmp 4] := by kernel_rfl
-- 45 (*pith/fs.FS).Rename
@[go_sem] def c45_0 : Cmd := .ops [⟨some 6, .assign (.const (.int .i64 0)), 39, none⟩]
@[go_sem] def c45_1 : Cmd := .ops [⟨some 9, .move (.tmp 0), 24, none⟩,
    ⟨some 10, .move (.tmp 1), 9, none⟩,
    ⟨some 11, .move (.tmp 2), 9, none⟩,
    ⟨some 12, .buildSlice 58 2 #[(0, (.tmp 10)), (1, (.tmp 11))], 58, none⟩,
    ⟨some 13, .call { callee := (.value (.func 65)), args := #[(.tmp 9), (.tmp 12)], argTypes := #[24, 58] }, 39, none⟩,
    ⟨some 7, .assign (.tmp 13), 39, none⟩]
@[go_sem] def c45_2 : Cmd := .ops [⟨some 14, .move (.tmp 7), 39, none⟩,
    ⟨some 15, .binOp .neq 39 (.tmp 14) (.const (.int .i64 0)) 39, 4, none⟩]
@[go_sem] def c45_3 : Cmd := .ops [⟨some 16, .move (.tmp 7), 39, none⟩,
    ⟨some 6, .assign (.tmp 16), 39, none⟩]
@[go_sem] def c45_4 : Cmd := .cond (.tmp 15) (.seq c45_3 .ret) .skip
@[go_sem] def c45_5 : Cmd := .ops [⟨some 17, .move (.tmp 0), 24, none⟩,
    ⟨some 18, .nilCheck (.tmp 17), 0, none⟩,
    ⟨some 19, .fieldAddr 84 (.tmp 18) 1, 0, none⟩,
    ⟨some 20, .load 80 (.tmp 19), 80, none⟩,
    ⟨some 21, .move (.tmp 1), 9, none⟩,
    ⟨some 22, .lookup 80 (.tmp 20) (.tmp 21) false, 85, none⟩,
    ⟨some 8, .assign (.tmp 22), 85, none⟩]
@[go_sem] def c45_6 : Cmd := .ops [⟨some 23, .move (.tmp 8), 85, none⟩,
    ⟨some 24, .binOp .eql 85 (.tmp 23) (.const (.pointer none)) 85, 4, none⟩]
@[go_sem] def c45_7 : Cmd := .ops [⟨some 6, .assign (.const (.int .i64 82)), 39, none⟩]
@[go_sem] def c45_8 : Cmd := .cond (.tmp 24) (.seq c45_7 .ret) .skip
@[go_sem] def c45_9 : Cmd := .ops [⟨some 25, .move (.tmp 0), 24, none⟩,
    ⟨some 26, .move (.tmp 8), 85, none⟩,
    ⟨some 27, .move (.tmp 2), 9, none⟩,
    ⟨some 28, .call { callee := (.value (.func 66)), args := #[(.tmp 25), (.tmp 26), (.tmp 27)], argTypes := #[24, 85, 9] }, 39, none⟩,
    ⟨some 6, .assign (.tmp 28), 39, none⟩]
@[go_sem] def c45 : Cmd := (.seq c45_0 (.seq (.seq c45_1 (.seq c45_2 c45_4)) (.seq c45_5 (.seq (.seq c45_6 c45_8) (.seq c45_9 .ret)))))
theorem b45 : Try.f45.body.map (comp 29) = some c45 := by kernel_rfl
theorem r45 : Try.f45.results.toList = [.tmp 6] := by kernel_rfl
-- 46 (*pith/fs.FS).Remove
@[go_sem] def c46_0 : Cmd := .ops [⟨some 4, .assign (.const (.int .i64 0)), 39, none⟩]
@[go_sem] def c46_1 : Cmd := .ops [⟨some 8, .move (.tmp 0), 24, none⟩,
    ⟨some 9, .move (.tmp 1), 9, none⟩,
    ⟨some 10, .call { callee := (.value (.func 49)), args := #[(.tmp 8), (.tmp 9)], argTypes := #[24, 9] }, 89, none⟩,
    ⟨some 7, .move (.tmp 10), 89, none⟩,
    ⟨some 11, .extract (.tmp 7) 0, 85, none⟩,
    ⟨some 12, .extract (.tmp 7) 1, 39, none⟩,
    ⟨some 5, .assign (.tmp 11), 85, none⟩,
    ⟨some 6, .assign (.tmp 12), 39, none⟩]
@[go_sem] def c46_2 : Cmd := .ops [⟨some 13, .move (.tmp 6), 39, none⟩,
    ⟨some 14, .binOp .neq 39 (.tmp 13) (.const (.int .i64 0)) 39, 4, none⟩]
@[go_sem] def c46_3 : Cmd := .ops [⟨some 15, .move (.tmp 6), 39, none⟩,
    ⟨some 4, .assign (.tmp 15), 39, none⟩]
@[go_sem] def c46_4 : Cmd := .cond (.tmp 14) (.seq c46_3 .ret) .skip
@[go_sem] def c46_5 : Cmd := .ops [⟨some 16, .move (.tmp 0), 24, none⟩,
    ⟨some 17, .move (.tmp 5), 85, none⟩,
    ⟨some 18, .call { callee := (.value (.func 66)), args := #[(.tmp 16), (.tmp 17), (.const (.string ⟨#[]⟩))], argTypes := #[24, 85, 9] }, 39, none⟩,
    ⟨some 4, .assign (.tmp 18), 39, none⟩]
@[go_sem] def c46 : Cmd := (.seq c46_0 (.seq c46_1 (.seq (.seq c46_2 c46_4) (.seq c46_5 .ret))))
theorem b46 : Try.f46.body.map (comp 19) = some c46 := by kernel_rfl
theorem r46 : Try.f46.results.toList = [.tmp 4] := by kernel_rfl
-- 47 pith/pithlaw8.drop
@[go_sem] def c47_0 : Cmd := .ops [⟨some 4, .assign (.const (.slice none 0 0)), 26, none⟩]
@[go_sem] def c47_1 : Cmd := .ops [⟨some 5, .assign (.const (.slice none 0 0)), 26, none⟩]
@[go_sem] def c47_2 : Cmd := .ops [⟨some 6, .assign (.const (.int .i64 0)), 3, none⟩]
@[go_sem] def c47_3 : Cmd := .ops [⟨some 7, .move (.tmp 6), 3, none⟩,
    ⟨some 8, .move (.tmp 0), 26, none⟩,
    ⟨some 9, .call { callee := (.builtin .len), args := #[(.tmp 8)], argTypes := #[26] }, 3, none⟩,
    ⟨some 10, .binOp .lss 3 (.tmp 7) (.tmp 9) 3, 4, none⟩]
@[go_sem] def c47_4 : Cmd := .cond (.tmp 10) .skip (.exit 0)
@[go_sem] def c47_5 : Cmd := .ops [⟨some 13, .move (.tmp 6), 3, none⟩,
    ⟨some 14, .move (.tmp 1), 3, none⟩,
    ⟨some 15, .binOp .neq 3 (.tmp 13) (.tmp 14) 3, 4, none⟩]
@[go_sem] def c47_6 : Cmd := .ops [⟨some 16, .move (.tmp 5), 26, none⟩,
    ⟨some 17, .move (.tmp 0), 26, none⟩,
    ⟨some 18, .move (.tmp 6), 3, none⟩,
    ⟨some 19, .indexAddr 26 (.tmp 17) (.tmp 18), 0, none⟩,
    ⟨some 20, .load 44 (.tmp 19), 44, none⟩,
    ⟨some 21, .buildSlice 26 1 #[(0, (.tmp 20))], 26, none⟩,
    ⟨some 22, .call { callee := (.builtin .append), args := #[(.tmp 16), (.tmp 21)], argTypes := #[26, 26] }, 26, none⟩,
    ⟨some 5, .assign (.tmp 22), 26, none⟩]
@[go_sem] def c47_7 : Cmd := .cond (.tmp 15) c47_6 .skip
@[go_sem] def c47_8 : Cmd := .block 1 (.seq c47_5 c47_7)
@[go_sem] def c47_9 : Cmd := .ops [⟨some 11, .move (.tmp 6), 3, none⟩,
    ⟨some 12, .binOp .add 3 (.tmp 11) (.const (.int .i64 1)) 3, 3, none⟩,
    ⟨some 6, .assign (.tmp 12), 3, none⟩]
def c47_L0 : Cmd := (.seq (.seq c47_3 c47_4) (.seq c47_8 c47_9))
@[go_sem] def c47_10 : Cmd := .loop c47_L0
@[go_sem] def c47_11 : Cmd := .block 0 c47_10
@[go_sem] def c47_12 : Cmd := .ops [⟨some 23, .move (.tmp 5), 26, none⟩,
    ⟨some 4, .assign (.tmp 23), 26, none⟩]
@[go_sem] def c47 : Cmd := (.seq c47_0 (.seq c47_1 (.seq (.seq c47_2 c47_11) (.seq c47_12 .ret))))
theorem b47 : Try.f47.body.map (comp 24) = some c47 := by kernel_rfl
theorem r47 : Try.f47.results.toList = [.tmp 4] := by kernel_rfl
-- 48 pith/pithref.SameBytes
@[go_sem] def c48_0 : Cmd := .ops [⟨some 4, .assign (.const (.bool false)), 4, none⟩]
@[go_sem] def c48_1 : Cmd := .ops [⟨some 5, .move (.tmp 0), 34, none⟩,
    ⟨some 6, .convert 34 9 (.tmp 5), 9, none⟩,
    ⟨some 7, .move (.tmp 1), 34, none⟩,
    ⟨some 8, .convert 34 9 (.tmp 7), 9, none⟩,
    ⟨some 9, .binOp .eql 9 (.tmp 6) (.tmp 8) 9, 4, none⟩,
    ⟨some 4, .assign (.tmp 9), 4, none⟩]
@[go_sem] def c48 : Cmd := (.seq c48_0 (.seq c48_1 .ret))
theorem b48 : Try.f48.body.map (comp 10) = some c48 := by kernel_rfl
theorem r48 : Try.f48.results.toList = [.tmp 4] := by kernel_rfl
-- 49 (*pith/fs.FS).find
@[go_sem] def c49_0 : Cmd := .ops [⟨some 4, .assign (.const (.pointer none)), 85, none⟩,
    ⟨some 5, .assign (.const (.int .i64 0)), 39, none⟩]
@[go_sem] def c49_1 : Cmd := .ops [⟨some 8, .move (.tmp 0), 24, none⟩,
    ⟨some 9, .move (.tmp 1), 9, none⟩,
    ⟨some 10, .buildSlice 58 1 #[(0, (.tmp 9))], 58, none⟩,
    ⟨some 11, .call { callee := (.value (.func 65)), args := #[(.tmp 8), (.tmp 10)], argTypes := #[24, 58] }, 39, none⟩,
    ⟨some 6, .assign (.tmp 11), 39, none⟩]
@[go_sem] def c49_2 : Cmd := .ops [⟨some 12, .move (.tmp 6), 39, none⟩,
    ⟨some 13, .binOp .neq 39 (.tmp 12) (.const (.int .i64 0)) 39, 4, none⟩]
@[go_sem] def c49_3 : Cmd := .ops [⟨some 14, .move (.tmp 6), 39, none⟩,
    ⟨some 4, .assign (.const (.pointer none)), 85, none⟩,
    ⟨some 5, .assign (.tmp 14), 39, none⟩]
@[go_sem] def c49_4 : Cmd := .cond (.tmp 13) (.seq c49_3 .ret) .skip
@[go_sem] def c49_5 : Cmd := .ops [⟨some 15, .move (.tmp 0), 24, none⟩,
    ⟨some 16, .nilCheck (.tmp 15), 0, none⟩,
    ⟨some 17, .fieldAddr 84 (.tmp 16) 1, 0, none⟩,
    ⟨some 18, .load 80 (.tmp 17), 80, none⟩,
    ⟨some 19, .move (.tmp 1), 9, none⟩,
    ⟨some 20, .lookup 80 (.tmp 18) (.tmp 19) false, 85, none⟩,
    ⟨some 7, .assign (.tmp 20), 85, none⟩]
@[go_sem] def c49_6 : Cmd := .ops [⟨some 21, .move (.tmp 7), 85, none⟩,
    ⟨some 22, .binOp .eql 85 (.tmp 21) (.const (.pointer none)) 85, 4, none⟩]
@[go_sem] def c49_7 : Cmd := .ops [⟨some 4, .assign (.const (.pointer none)), 85, none⟩,
    ⟨some 5, .assign (.const (.int .i64 82)), 39, none⟩]
@[go_sem] def c49_8 : Cmd := .cond (.tmp 22) (.seq c49_7 .ret) .skip
@[go_sem] def c49_9 : Cmd := .ops [⟨some 23, .move (.tmp 7), 85, none⟩,
    ⟨some 4, .assign (.tmp 23), 85, none⟩,
    ⟨some 5, .assign (.const (.int .i64 0)), 39, none⟩]
@[go_sem] def c49 : Cmd := (.seq c49_0 (.seq (.seq c49_1 (.seq c49_2 c49_4)) (.seq c49_5 (.seq (.seq c49_6 c49_8) (.seq c49_9 .ret)))))
theorem b49 : Try.f49.body.map (comp 24) = some c49 := by kernel_rfl
theorem r49 : Try.f49.results.toList = [.tmp 4, .tmp 5] := by kernel_rfl
-- 50 (*pith/fs.FS).count
@[go_sem] def c50_0 : Cmd := .ops [⟨some 2, .assign (.const (.int .i64 0)), 39, none⟩]
@[go_sem] def c50_1 : Cmd := .ops [⟨some 3, .move (.tmp 0), 24, none⟩,
    ⟨some 4, .nilCheck (.tmp 3), 0, none⟩,
    ⟨some 5, .fieldAddr 84 (.tmp 4) 7, 0, none⟩,
    ⟨some 6, .load 3 (.tmp 5), 3, none⟩,
    ⟨some 7, .binOp .add 3 (.tmp 6) (.const (.int .i64 1)) 3, 3, none⟩,
    ⟨some 8, .nilCheck (.tmp 3), 0, none⟩,
    ⟨some 9, .fieldAddr 84 (.tmp 8) 7, 0, none⟩,
    ⟨none, .store 3 (.tmp 9) (.tmp 7), 0, none⟩]
@[go_sem] def c50_2 : Cmd := .ops [⟨some 10, .move (.tmp 0), 24, none⟩,
    ⟨some 11, .nilCheck (.tmp 10), 0, none⟩,
    ⟨some 12, .fieldAddr 84 (.tmp 11) 6, 0, none⟩,
    ⟨some 13, .load 3 (.tmp 12), 3, none⟩,
    ⟨some 14, .binOp .gtr 3 (.tmp 13) (.const (.int .i64 0)) 3, 4, none⟩]
@[go_sem] def c50_3 : Cmd := .ops [⟨some 15, .move (.tmp 0), 24, none⟩,
    ⟨some 16, .nilCheck (.tmp 15), 0, none⟩,
    ⟨some 17, .fieldAddr 84 (.tmp 16) 6, 0, none⟩,
    ⟨some 18, .load 3 (.tmp 17), 3, none⟩,
    ⟨some 19, .binOp .sub 3 (.tmp 18) (.const (.int .i64 1)) 3, 3, none⟩,
    ⟨some 20, .nilCheck (.tmp 15), 0, none⟩,
    ⟨some 21, .fieldAddr 84 (.tmp 20) 6, 0, none⟩,
    ⟨none, .store 3 (.tmp 21) (.tmp 19), 0, none⟩]
@[go_sem] def c50_4 : Cmd := .ops [⟨some 22, .move (.tmp 0), 24, none⟩,
    ⟨some 23, .nilCheck (.tmp 22), 0, none⟩,
    ⟨some 24, .fieldAddr 84 (.tmp 23) 6, 0, none⟩,
    ⟨some 25, .load 3 (.tmp 24), 3, none⟩,
    ⟨some 26, .binOp .eql 3 (.tmp 25) (.const (.int .i64 0)) 3, 4, none⟩]
@[go_sem] def c50_5 : Cmd := .ops [⟨some 27, .move (.tmp 0), 24, none⟩,
    ⟨some 28, .nilCheck (.tmp 27), 0, none⟩,
    ⟨some 29, .fieldAddr 84 (.tmp 28) 5, 0, none⟩,
    ⟨none, .store 4 (.tmp 29) (.const (.bool true)), 0, none⟩]
@[go_sem] def c50_6 : Cmd := .ops [⟨some 2, .assign (.const (.int .i64 81)), 39, none⟩]
@[go_sem] def c50_7 : Cmd := .cond (.tmp 26) (.seq c50_5 (.seq c50_6 .ret)) .skip
@[go_sem] def c50_8 : Cmd := .cond (.tmp 14) (.seq c50_3 (.seq c50_4 c50_7)) .skip
@[go_sem] def c50_9 : Cmd := .ops [⟨some 2, .assign (.const (.int .i64 0)), 39, none⟩]
@[go_sem] def c50 : Cmd := (.seq c50_0 (.seq c50_1 (.seq (.seq c50_2 c50_8) (.seq c50_9 .ret))))
theorem b50 : Try.f50.body.map (comp 30) = some c50 := by kernel_rfl
theorem r50 : Try.f50.results.toList = [.tmp 2] := by kernel_rfl
-- 51 (*pith/fs.FS).after
@[go_sem] def c51_0 : Cmd := .ops [⟨some 4, .assign (.const (.map none)), 80, none⟩]
@[go_sem] def c51_1 : Cmd := .ops [⟨some 8, .move (.tmp 0), 24, none⟩,
    ⟨some 9, .nilCheck (.tmp 8), 0, none⟩,
    ⟨some 10, .fieldAddr 84 (.tmp 9) 2, 0, none⟩,
    ⟨some 11, .load 80 (.tmp 10), 80, none⟩,
    ⟨some 12, .call { callee := (.value (.func 83)), args := #[(.tmp 11)], argTypes := #[80] }, 80, none⟩,
    ⟨some 5, .assign (.tmp 12), 80, none⟩]
@[go_sem] def c51_2 : Cmd := .ops [⟨some 13, .move (.tmp 0), 24, none⟩,
    ⟨some 14, .nilCheck (.tmp 13), 0, none⟩,
    ⟨some 15, .fieldAddr 84 (.tmp 14) 3, 0, none⟩,
    ⟨some 16, .load 82 (.tmp 15), 82, none⟩,
    ⟨some 17, .call { callee := (.builtin .len), args := #[(.tmp 16)], argTypes := #[82] }, 3, none⟩,
    ⟨some 18, .move (.const (.int .i64 0)), 3, none⟩]
@[go_sem] def c51_3 : Cmd := .ops [⟨some 19, .binOp .lss 3 (.tmp 18) (.tmp 17) 3, 0, none⟩]
@[go_sem] def c51_4 : Cmd := .cond (.tmp 19) .skip (.exit 0)
@[go_sem] def c51_5 : Cmd := .ops [⟨some 20, .move (.tmp 18), 3, none⟩,
    ⟨some 21, .indexAddr 82 (.tmp 16) (.tmp 18), 0, none⟩,
    ⟨some 22, .load 119 (.tmp 21), 119, none⟩,
    ⟨some 6, .assign (.tmp 20), 3, none⟩,
    ⟨some 7, .assign (.tmp 22), 119, none⟩]
@[go_sem] def c51_6 : Cmd := .ops [⟨some 23, .move (.tmp 1), 3, none⟩,
    ⟨some 24, .move (.tmp 6), 3, none⟩,
    ⟨some 25, .call { callee := (.builtin .min), args := #[(.tmp 24), (.const (.int .i64 63))], argTypes := #[3, 3] }, 3, none⟩,
    ⟨some 26, .binOp .shr 3 (.tmp 23) (.tmp 25) 3, 3, none⟩,
    ⟨some 27, .binOp .and 3 (.tmp 26) (.const (.int .i64 1)) 3, 3, none⟩,
    ⟨some 28, .binOp .neq 3 (.tmp 27) (.const (.int .i64 0)) 3, 4, none⟩]
@[go_sem] def c51_7 : Cmd := .ops [⟨some 29, .move (.tmp 7), 119, none⟩,
    ⟨some 30, .move (.tmp 5), 80, none⟩,
    ⟨some 31, .call { callee := (.value (.tmp 29)), args := #[(.tmp 30)], argTypes := #[80] }, 0, none⟩]
@[go_sem] def c51_8 : Cmd := .cond (.tmp 28) c51_7 .skip
@[go_sem] def c51_9 : Cmd := .block 1 (.seq c51_5 (.seq c51_6 c51_8))
@[go_sem] def c51_10 : Cmd := .ops [⟨some 32, .binOp .add 3 (.tmp 18) (.const (.int .i64 1)) 3, 3, none⟩,
    ⟨some 18, .move (.tmp 32), 3, none⟩]
def c51_L0 : Cmd := (.seq c51_3 (.seq c51_4 (.seq c51_9 c51_10)))
@[go_sem] def c51_11 : Cmd := .loop c51_L0
@[go_sem] def c51_12 : Cmd := .block 0 c51_11
@[go_sem] def c51_13 : Cmd := .ops [⟨some 33, .move (.tmp 5), 80, none⟩,
    ⟨some 4, .assign (.tmp 33), 80, none⟩]
@[go_sem] def c51 : Cmd := (.seq c51_0 (.seq c51_1 (.seq (.seq c51_2 c51_12) (.seq c51_13 .ret))))
theorem b51 : Try.f51.body.map (comp 34) = some c51 := by kernel_rfl
theorem r51 : Try.f51.results.toList = [.tmp 4] := by kernel_rfl
-- 54 (*pith/fs.FS).settle
@[go_sem] def c54_0 : Cmd := .ops [⟨some 4, .move (.tmp 0), 24, none⟩,
    ⟨some 5, .move (.tmp 0), 24, none⟩,
    ⟨some 6, .nilCheck (.tmp 5), 0, none⟩,
    ⟨some 7, .fieldAddr 84 (.tmp 6) 1, 0, none⟩,
    ⟨some 8, .load 80 (.tmp 7), 80, none⟩,
    ⟨some 9, .call { callee := (.value (.func 83)), args := #[(.tmp 8)], argTypes := #[80] }, 80, none⟩,
    ⟨some 10, .nilCheck (.tmp 4), 0, none⟩,
    ⟨some 11, .fieldAddr 84 (.tmp 10) 2, 0, none⟩,
    ⟨none, .store 80 (.tmp 11) (.tmp 9), 0, none⟩]
@[go_sem] def c54_1 : Cmd := .ops [⟨some 12, .move (.tmp 0), 24, none⟩,
    ⟨some 13, .nilCheck (.tmp 12), 0, none⟩,
    ⟨some 14, .fieldAddr 84 (.tmp 13) 3, 0, none⟩,
    ⟨none, .store 82 (.tmp 14) (.const (.slice none 0 0)), 0, none⟩]
@[go_sem] def c54_2 : Cmd := .ops [⟨some 15, .move (.tmp 0), 24, none⟩,
    ⟨some 16, .makeMap 81 none, 81, none⟩,
    ⟨some 17, .nilCheck (.tmp 15), 0, none⟩,
    ⟨some 18, .fieldAddr 84 (.tmp 17) 4, 0, none⟩,
    ⟨none, .store 81 (.tmp 18) (.tmp 16), 0, none⟩]
@[go_sem] def c54_3 : Cmd := .ops [⟨some 19, .move (.tmp 0), 24, none⟩,
    ⟨some 20, .nilCheck (.tmp 19), 0, none⟩,
    ⟨some 21, .fieldAddr 84 (.tmp 20) 1, 0, none⟩,
    ⟨some 22, .load 80 (.tmp 21), 80, none⟩,
    ⟨some 23, .range 80 (.tmp 22), 0, none⟩]
@[go_sem] def c54_4 : Cmd := .ops [⟨some 24, .next (.tmp 23) false, 0, none⟩,
    ⟨some 25, .extract (.tmp 24) 0, 4, none⟩]
@[go_sem] def c54_5 : Cmd := .cond (.tmp 25) .skip (.exit 0)
@[go_sem] def c54_6 : Cmd := .ops [⟨some 26, .entry (.tmp 23), 0, none⟩,
    ⟨some 27, .extract (.tmp 26) 1, 85, none⟩,
    ⟨some 3, .assign (.tmp 27), 85, none⟩]
@[go_sem] def c54_7 : Cmd := .ops [⟨some 28, .move (.tmp 0), 24, none⟩,
    ⟨some 29, .nilCheck (.tmp 28), 0, none⟩,
    ⟨some 30, .fieldAddr 84 (.tmp 29) 4, 0, none⟩,
    ⟨some 31, .load 81 (.tmp 30), 81, none⟩,
    ⟨some 32, .move (.tmp 3), 85, none⟩,
    ⟨none, .mapUpdate 81 (.tmp 31) (.tmp 32) (.const (.bool true)), 0, none⟩]
@[go_sem] def c54_8 : Cmd := .block 1 (.seq c54_6 c54_7)
def c54_L0 : Cmd := (.seq c54_4 (.seq c54_5 c54_8))
@[go_sem] def c54_9 : Cmd := .loop c54_L0
@[go_sem] def c54_10 : Cmd := .block 0 c54_9
@[go_sem] def c54 : Cmd := (.seq c54_0 (.seq c54_1 (.seq c54_2 (.seq c54_3 c54_10))))
theorem b54 : Try.f54.body.map (comp 33) = some c54 := by kernel_rfl
theorem r54 : Try.f54.results.toList = [] := by kernel_rfl
-- 55 (*pith/pithref8.FS).Names
@[go_sem] def c55_0 : Cmd := .ops [⟨some 2, .assign (.const (.slice none 0 0)), 58, none⟩]
@[go_sem] def c55_1 : Cmd := .ops [⟨some 5, .move (.tmp 0), 48, none⟩,
    ⟨some 6, .nilCheck (.tmp 5), 0, none⟩,
    ⟨some 7, .fieldAddr 100 (.tmp 6) 4, 0, none⟩,
    ⟨some 8, .load 4 (.tmp 7), 4, none⟩]
@[go_sem] def c55_2 : Cmd := .ops [⟨some 2, .assign (.const (.slice none 0 0)), 58, none⟩]
@[go_sem] def c55_3 : Cmd := .cond (.tmp 8) (.seq c55_2 .ret) .skip
@[go_sem] def c55_4 : Cmd := .ops [⟨some 3, .assign (.const (.slice none 0 0)), 58, none⟩]
@[go_sem] def c55_5 : Cmd := .ops [⟨some 4, .assign (.const (.int .i64 0)), 3, none⟩]
@[go_sem] def c55_6 : Cmd := .ops [⟨some 9, .move (.tmp 4), 3, none⟩,
    ⟨some 10, .move (.tmp 0), 48, none⟩,
    ⟨some 11, .call { callee := (.value (.func 87)), args := #[(.tmp 10)], argTypes := #[48] }, 122, none⟩,
    ⟨some 12, .call { callee := (.builtin .len), args := #[(.tmp 11)], argTypes := #[122] }, 3, none⟩,
    ⟨some 13, .binOp .lss 3 (.tmp 9) (.tmp 12) 3, 4, none⟩]
@[go_sem] def c55_7 : Cmd := .cond (.tmp 13) .skip (.exit 0)
@[go_sem] def c55_8 : Cmd := .ops [⟨some 16, .move (.tmp 3), 58, none⟩,
    ⟨some 17, .move (.tmp 0), 48, none⟩,
    ⟨some 18, .call { callee := (.value (.func 87)), args := #[(.tmp 17)], argTypes := #[48] }, 122, none⟩,
    ⟨some 19, .move (.tmp 4), 3, none⟩,
    ⟨some 20, .indexAddr 122 (.tmp 18) (.tmp 19), 0, none⟩,
    ⟨some 21, .fieldAddr 125 (.tmp 20) 0, 0, none⟩,
    ⟨some 22, .load 9 (.tmp 21), 9, none⟩,
    ⟨some 23, .buildSlice 58 1 #[(0, (.tmp 22))], 58, none⟩,
    ⟨some 24, .call { callee := (.builtin .append), args := #[(.tmp 16), (.tmp 23)], argTypes := #[58, 58] }, 58, none⟩,
    ⟨some 3, .assign (.tmp 24), 58, none⟩]
@[go_sem] def c55_9 : Cmd := .block 1 c55_8
@[go_sem] def c55_10 : Cmd := .ops [⟨some 14, .move (.tmp 4), 3, none⟩,
    ⟨some 15, .binOp .add 3 (.tmp 14) (.const (.int .i64 1)) 3, 3, none⟩,
    ⟨some 4, .assign (.tmp 15), 3, none⟩]
def c55_L0 : Cmd := (.seq (.seq c55_6 c55_7) (.seq c55_9 c55_10))
@[go_sem] def c55_11 : Cmd := .loop c55_L0
@[go_sem] def c55_12 : Cmd := .block 0 c55_11
@[go_sem] def c55_13 : Cmd := .ops [⟨some 25, .move (.tmp 3), 58, none⟩,
    ⟨some 2, .assign (.tmp 25), 58, none⟩]
@[go_sem] def c55 : Cmd := (.seq c55_0 (.seq (.seq c55_1 c55_3) (.seq c55_4 (.seq (.seq c55_5 c55_12) (.seq c55_13 .ret)))))
theorem b55 : Try.f55.body.map (comp 26) = some c55 := by kernel_rfl
theorem r55 : Try.f55.results.toList = [.tmp 2] := by kernel_rfl
-- 56 (*pith/pithref8.FS).Lasting
@[go_sem] def c56_0 : Cmd := .ops [⟨some 2, .assign (.const (.slice none 0 0)), 26, none⟩]
@[go_sem] def c56_1 : Cmd := .ops [⟨some 3, .move (.tmp 0), 48, none⟩,
    ⟨some 4, .call { callee := (.value (.func 88)), args := #[(.tmp 3), (.const (.int .i64 0)), (.const (.slice none 0 0))], argTypes := #[48, 3, 62] }, 26, none⟩,
    ⟨some 2, .assign (.tmp 4), 26, none⟩]
@[go_sem] def c56 : Cmd := (.seq c56_0 (.seq c56_1 .ret))
theorem b56 : Try.f56.body.map (comp 5) = some c56 := by kernel_rfl
theorem r56 : Try.f56.results.toList = [.tmp 2] := by kernel_rfl
-- 57 (*pith/pithref8.FS).Held
@[go_sem] def c57_0 : Cmd := .ops [⟨some 2, .assign (.const (.int .i64 0)), 3, none⟩]
@[go_sem] def c57_1 : Cmd := .ops [⟨some 8, .move (.tmp 0), 48, none⟩,
    ⟨some 9, .nilCheck (.tmp 8), 0, none⟩,
    ⟨some 10, .fieldAddr 100 (.tmp 9) 1, 0, none⟩,
    ⟨some 11, .load 97 (.tmp 10), 97, none⟩,
    ⟨some 12, .call { callee := (.builtin .len), args := #[(.tmp 11)], argTypes := #[97] }, 3, none⟩,
    ⟨some 13, .makeSlice 127 (.tmp 12) (.tmp 12), 127, none⟩,
    ⟨some 3, .assign (.tmp 13), 127, none⟩]
@[go_sem] def c57_2 : Cmd := .ops [⟨some 4, .assign (.const (.int .i64 0)), 3, none⟩]
@[go_sem] def c57_3 : Cmd := .ops [⟨some 5, .assign (.const (.int .i64 0)), 3, none⟩]
@[go_sem] def c57_4 : Cmd := .ops [⟨some 14, .move (.tmp 5), 3, none⟩,
    ⟨some 15, .move (.tmp 0), 48, none⟩,
    ⟨some 16, .nilCheck (.tmp 15), 0, none⟩,
    ⟨some 17, .fieldAddr 100 (.tmp 16) 2, 0, none⟩,
    ⟨some 18, .load 96 (.tmp 17), 96, none⟩,
    ⟨some 19, .call { callee := (.builtin .len), args := #[(.tmp 18)], argTypes := #[96] }, 3, none⟩,
    ⟨some 20, .binOp .lss 3 (.tmp 14) (.tmp 19) 3, 4, none⟩]
@[go_sem] def c57_5 : Cmd := .cond (.tmp 20) .skip (.exit 0)
@[go_sem] def c57_6 : Cmd := .ops [⟨some 6, .assign (.const (.int .i64 0)), 3, none⟩]
@[go_sem] def c57_7 : Cmd := .ops [⟨some 23, .move (.tmp 6), 3, none⟩,
    ⟨some 24, .move (.tmp 0), 48, none⟩,
    ⟨some 25, .nilCheck (.tmp 24), 0, none⟩,
    ⟨some 26, .fieldAddr 100 (.tmp 25) 2, 0, none⟩,
    ⟨some 27, .load 96 (.tmp 26), 96, none⟩,
    ⟨some 28, .move (.tmp 5), 3, none⟩,
    ⟨some 29, .indexAddr 96 (.tmp 27) (.tmp 28), 0, none⟩,
    ⟨some 30, .load 122 (.tmp 29), 122, none⟩,
    ⟨some 31, .call { callee := (.builtin .len), args := #[(.tmp 30)], argTypes := #[122] }, 3, none⟩,
    ⟨some 32, .binOp .lss 3 (.tmp 23) (.tmp 31) 3, 4, none⟩]
@[go_sem] def c57_8 : Cmd := .cond (.tmp 32) .skip (.exit 2)
@[go_sem] def c57_9 : Cmd := .ops [⟨some 35, .move (.tmp 0), 48, none⟩,
    ⟨some 36, .nilCheck (.tmp 35), 0, none⟩,
    ⟨some 37, .fieldAddr 100 (.tmp 36) 2, 0, none⟩,
    ⟨some 38, .load 96 (.tmp 37), 96, none⟩,
    ⟨some 39, .move (.tmp 5), 3, none⟩,
    ⟨some 40, .indexAddr 96 (.tmp 38) (.tmp 39), 0, none⟩,
    ⟨some 41, .load 122 (.tmp 40), 122, none⟩,
    ⟨some 42, .move (.tmp 6), 3, none⟩,
    ⟨some 43, .indexAddr 122 (.tmp 41) (.tmp 42), 0, none⟩,
    ⟨some 44, .fieldAddr 125 (.tmp 43) 1, 0, none⟩,
    ⟨some 45, .load 3 (.tmp 44), 3, none⟩,
    ⟨some 7, .assign (.tmp 45), 3, none⟩]
@[go_sem] def c57_10 : Cmd := .ops [⟨some 46, .move (.tmp 3), 127, none⟩,
    ⟨some 47, .move (.tmp 7), 3, none⟩,
    ⟨some 48, .indexAddr 127 (.tmp 46) (.tmp 47), 0, none⟩,
    ⟨some 49, .load 4 (.tmp 48), 4, none⟩,
    ⟨some 50, .unOp .not 4 (.tmp 49), 4, none⟩]
@[go_sem] def c57_11 : Cmd := .ops [⟨some 51, .move (.tmp 3), 127, none⟩,
    ⟨some 52, .move (.tmp 7), 3, none⟩,
    ⟨some 53, .indexAddr 127 (.tmp 51) (.tmp 52), 0, none⟩,
    ⟨none, .store 4 (.tmp 53) (.const (.bool true)), 0, none⟩]
@[go_sem] def c57_12 : Cmd := .ops [⟨some 54, .move (.tmp 4), 3, none⟩,
    ⟨some 55, .move (.tmp 0), 48, none⟩,
    ⟨some 56, .nilCheck (.tmp 55), 0, none⟩,
    ⟨some 57, .fieldAddr 100 (.tmp 56) 1, 0, none⟩,
    ⟨some 58, .load 97 (.tmp 57), 97, none⟩,
    ⟨some 59, .move (.tmp 7), 3, none⟩,
    ⟨some 60, .indexAddr 97 (.tmp 58) (.tmp 59), 0, none⟩,
    ⟨some 61, .fieldAddr 129 (.tmp 60) 0, 0, none⟩,
    ⟨some 62, .load 34 (.tmp 61), 34, none⟩,
    ⟨some 63, .call { callee := (.builtin .len), args := #[(.tmp 62)], argTypes := #[34] }, 3, none⟩,
    ⟨some 64, .binOp .add 3 (.tmp 54) (.tmp 63) 3, 3, none⟩,
    ⟨some 4, .assign (.tmp 64), 3, none⟩]
@[go_sem] def c57_13 : Cmd := .cond (.tmp 50) (.seq c57_11 c57_12) .skip
@[go_sem] def c57_14 : Cmd := .block 3 (.seq c57_9 (.seq c57_10 c57_13))
@[go_sem] def c57_15 : Cmd := .ops [⟨some 33, .move (.tmp 6), 3, none⟩,
    ⟨some 34, .binOp .add 3 (.tmp 33) (.const (.int .i64 1)) 3, 3, none⟩,
    ⟨some 6, .assign (.tmp 34), 3, none⟩]
def c57_L0 : Cmd := (.seq (.seq c57_7 c57_8) (.seq c57_14 c57_15))
@[go_sem] def c57_16 : Cmd := .loop c57_L0
@[go_sem] def c57_17 : Cmd := .block 2 c57_16
@[go_sem] def c57_18 : Cmd := .block 1 (.seq c57_6 c57_17)
@[go_sem] def c57_19 : Cmd := .ops [⟨some 21, .move (.tmp 5), 3, none⟩,
    ⟨some 22, .binOp .add 3 (.tmp 21) (.const (.int .i64 1)) 3, 3, none⟩,
    ⟨some 5, .assign (.tmp 22), 3, none⟩]
def c57_L1 : Cmd := (.seq (.seq c57_4 c57_5) (.seq c57_18 c57_19))
@[go_sem] def c57_20 : Cmd := .loop c57_L1
@[go_sem] def c57_21 : Cmd := .block 0 c57_20
@[go_sem] def c57_22 : Cmd := .ops [⟨some 65, .move (.tmp 4), 3, none⟩,
    ⟨some 2, .assign (.tmp 65), 3, none⟩]
@[go_sem] def c57 : Cmd := (.seq c57_0 (.seq c57_1 (.seq c57_2 (.seq (.seq c57_3 c57_21) (.seq c57_22 .ret)))))
theorem b57 : Try.f57.body.map (comp 66) = some c57 := by kernel_rfl
theorem r57 : Try.f57.results.toList = [.tmp 2] := by kernel_rfl
-- 58 (*pith/fs.FS).Room
@[go_sem] def c58_0 : Cmd := .ops [⟨some 2, .assign (.const (.int .i64 0)), 3, none⟩]
@[go_sem] def c58_1 : Cmd := .ops [⟨some 3, .move (.tmp 0), 24, none⟩,
    ⟨some 4, .nilCheck (.tmp 3), 0, none⟩,
    ⟨some 5, .fieldAddr 84 (.tmp 4) 0, 0, none⟩,
    ⟨some 6, .load 3 (.tmp 5), 3, none⟩,
    ⟨some 2, .assign (.tmp 6), 3, none⟩]
@[go_sem] def c58 : Cmd := (.seq c58_0 (.seq c58_1 .ret))
theorem b58 : Try.f58.body.map (comp 7) = some c58 := by kernel_rfl
theorem r58 : Try.f58.results.toList = [.tmp 2] := by kernel_rfl
-- 59 (*pith/pithref8.FS).Room
@[go_sem] def c59_0 : Cmd := .ops [⟨some 2, .assign (.const (.int .i64 0)), 3, none⟩]
@[go_sem] def c59_1 : Cmd := .ops [⟨some 3, .move (.tmp 0), 48, none⟩,
    ⟨some 4, .nilCheck (.tmp 3), 0, none⟩,
    ⟨some 5, .fieldAddr 100 (.tmp 4) 0, 0, none⟩,
    ⟨some 6, .load 3 (.tmp 5), 3, none⟩,
    ⟨some 2, .assign (.tmp 6), 3, none⟩]
@[go_sem] def c59 : Cmd := (.seq c59_0 (.seq c59_1 .ret))
theorem b59 : Try.f59.body.map (comp 7) = some c59 := by kernel_rfl
theorem r59 : Try.f59.results.toList = [.tmp 2] := by kernel_rfl
-- 60 (*pith/pithref8.FS).Pending
@[go_sem] def c60_0 : Cmd := .ops [⟨some 2, .assign (.const (.int .i64 0)), 3, none⟩]
@[go_sem] def c60_1 : Cmd := .ops [⟨some 3, .move (.tmp 0), 48, none⟩,
    ⟨some 4, .nilCheck (.tmp 3), 0, none⟩,
    ⟨some 5, .fieldAddr 100 (.tmp 4) 2, 0, none⟩,
    ⟨some 6, .load 96 (.tmp 5), 96, none⟩,
    ⟨some 7, .call { callee := (.builtin .len), args := #[(.tmp 6)], argTypes := #[96] }, 3, none⟩,
    ⟨some 8, .binOp .sub 3 (.tmp 7) (.const (.int .i64 1)) 3, 3, none⟩,
    ⟨some 2, .assign (.tmp 8), 3, none⟩]
@[go_sem] def c60 : Cmd := (.seq c60_0 (.seq c60_1 .ret))
theorem b60 : Try.f60.body.map (comp 9) = some c60 := by kernel_rfl
theorem r60 : Try.f60.results.toList = [.tmp 2] := by kernel_rfl
-- 61 (*pith/pithref8.FS).Ops
@[go_sem] def c61_0 : Cmd := .ops [⟨some 2, .assign (.const (.int .i64 0)), 3, none⟩]
@[go_sem] def c61_1 : Cmd := .ops [⟨some 3, .move (.tmp 0), 48, none⟩,
    ⟨some 4, .nilCheck (.tmp 3), 0, none⟩,
    ⟨some 5, .fieldAddr 100 (.tmp 4) 6, 0, none⟩,
    ⟨some 6, .load 3 (.tmp 5), 3, none⟩,
    ⟨some 2, .assign (.tmp 6), 3, none⟩]
@[go_sem] def c61 : Cmd := (.seq c61_0 (.seq c61_1 .ret))
theorem b61 : Try.f61.body.map (comp 7) = some c61 := by kernel_rfl
theorem r61 : Try.f61.results.toList = [.tmp 2] := by kernel_rfl
-- 62 (*pith/pithref8.FS).Power
@[go_sem] def c62_0 : Cmd := .ops [⟨some 2, .assign (.const (.bool false)), 4, none⟩]
@[go_sem] def c62_1 : Cmd := .ops [⟨some 3, .move (.tmp 0), 48, none⟩,
    ⟨some 4, .nilCheck (.tmp 3), 0, none⟩,
    ⟨some 5, .fieldAddr 100 (.tmp 4) 4, 0, none⟩,
    ⟨some 6, .load 4 (.tmp 5), 4, none⟩,
    ⟨some 7, .unOp .not 4 (.tmp 6), 4, none⟩,
    ⟨some 2, .assign (.tmp 7), 4, none⟩]
@[go_sem] def c62 : Cmd := (.seq c62_0 (.seq c62_1 .ret))
theorem b62 : Try.f62.body.map (comp 8) = some c62 := by kernel_rfl
theorem r62 : Try.f62.results.toList = [.tmp 2] := by kernel_rfl
-- 63 bytes.Clone
@[go_sem] def c63_0 : Cmd := .ops [⟨some 2, .assign (.const (.slice none 0 0)), 34, none⟩]
@[go_sem] def c63_1 : Cmd := .ops [⟨some 3, .move (.tmp 0), 34, none⟩,
    ⟨some 4, .binOp .eql 34 (.tmp 3) (.const (.slice none 0 0)) 34, 4, none⟩]
@[go_sem] def c63_2 : Cmd := .ops [⟨some 2, .assign (.const (.slice none 0 0)), 34, none⟩]
@[go_sem] def c63_3 : Cmd := .cond (.tmp 4) (.seq c63_2 .ret) .skip
@[go_sem] def c63_4 : Cmd := .ops [⟨some 5, .buildSlice 34 0 #[], 34, none⟩,
    ⟨some 6, .move (.tmp 0), 34, none⟩,
    ⟨some 7, .call { callee := (.builtin .append), args := #[(.tmp 5), (.tmp 6)], argTypes := #[34, 34] }, 34, none⟩,
    ⟨some 2, .assign (.tmp 7), 34, none⟩]
@[go_sem] def c63 : Cmd := (.seq c63_0 (.seq (.seq c63_1 c63_3) (.seq c63_4 .ret)))
theorem b63 : Try.f63.body.map (comp 8) = some c63 := by kernel_rfl
theorem r63 : Try.f63.results.toList = [.tmp 2] := by kernel_rfl
-- 64 pith/pithref.File
@[go_sem] def c64_0 : Cmd := .ops [⟨some 1, .box 44 (.tmp 0), 0, none⟩,
    ⟨some 2, .alloc 44, 0, none⟩]
@[go_sem] def c64_1 : Cmd := .draw (.step 3 ⟨some 3, .fieldAddr 44 (.tmp 1) 0, 0, none⟩
    (.step 0 ⟨some 4, .load 9 (.tmp 3), 9, none⟩
    (.step 3 ⟨some 5, .fieldAddr 44 (.tmp 1) 1, 0, none⟩
    (.step 0 ⟨some 6, .load 34 (.tmp 5), 34, none⟩
    (.step 1 ⟨some 7, .call { callee := (.value (.func 69)), args := #[(.tmp 6)], argTypes := #[34] }, 34, none⟩
    (.step 3 ⟨some 8, .build 44 #[(0, (.tmp 4)), (1, (.tmp 7))], 44, none⟩
    (.step 2 ⟨none, .store 44 (.tmp 2) (.tmp 8), 0, none⟩
    .done)))))))
@[go_sem] def c64 : Cmd := (.seq c64_0 (.seq c64_1 .ret))
theorem b64 : Try.f64.body.map (comp 9) = some c64 := by kernel_rfl
theorem r64 : Try.f64.results.toList = [.cell 2 44] := by kernel_rfl
-- 65 (*pith/fs.FS).begin
@[go_sem] def c65_0 : Cmd := .ops [⟨some 4, .assign (.const (.int .i64 0)), 39, none⟩]
@[go_sem] def c65_1 : Cmd := .ops [⟨some 7, .move (.tmp 1), 58, none⟩,
    ⟨some 8, .call { callee := (.builtin .len), args := #[(.tmp 7)], argTypes := #[58] }, 3, none⟩,
    ⟨some 9, .move (.const (.int .i64 0)), 3, none⟩]
@[go_sem] def c65_2 : Cmd := .ops [⟨some 10, .binOp .lss 3 (.tmp 9) (.tmp 8) 3, 0, none⟩]
@[go_sem] def c65_3 : Cmd := .cond (.tmp 10) .skip (.exit 0)
@[go_sem] def c65_4 : Cmd := .ops [⟨some 11, .indexAddr 58 (.tmp 7) (.tmp 9), 0, none⟩,
    ⟨some 12, .load 9 (.tmp 11), 9, none⟩,
    ⟨some 6, .assign (.tmp 12), 9, none⟩]
@[go_sem] def c65_5 : Cmd := .ops [⟨some 13, .move (.tmp 6), 9, none⟩,
    ⟨some 14, .call { callee := (.value (.func 89)), args := #[(.tmp 13)], argTypes := #[9] }, 4, none⟩,
    ⟨some 15, .unOp .not 4 (.tmp 14), 4, none⟩]
@[go_sem] def c65_6 : Cmd := .ops [⟨some 4, .assign (.const (.int .i64 84)), 39, none⟩]
@[go_sem] def c65_7 : Cmd := .cond (.tmp 15) (.seq c65_6 .ret) .skip
@[go_sem] def c65_8 : Cmd := .block 1 (.seq c65_4 (.seq c65_5 c65_7))
@[go_sem] def c65_9 : Cmd := .ops [⟨some 16, .binOp .add 3 (.tmp 9) (.const (.int .i64 1)) 3, 3, none⟩,
    ⟨some 9, .move (.tmp 16), 3, none⟩]
def c65_L0 : Cmd := (.seq c65_2 (.seq c65_3 (.seq c65_8 c65_9)))
@[go_sem] def c65_10 : Cmd := .loop c65_L0
@[go_sem] def c65_11 : Cmd := .block 0 c65_10
@[go_sem] def c65_12 : Cmd := .ops [⟨some 17, .move (.tmp 0), 24, none⟩,
    ⟨some 18, .nilCheck (.tmp 17), 0, none⟩,
    ⟨some 19, .fieldAddr 84 (.tmp 18) 5, 0, none⟩,
    ⟨some 20, .load 4 (.tmp 19), 4, none⟩]
@[go_sem] def c65_13 : Cmd := .ops [⟨some 4, .assign (.const (.int .i64 81)), 39, none⟩]
@[go_sem] def c65_14 : Cmd := .cond (.tmp 20) (.seq c65_13 .ret) .skip
@[go_sem] def c65_15 : Cmd := .ops [⟨some 4, .assign (.const (.int .i64 0)), 39, none⟩]
@[go_sem] def c65 : Cmd := (.seq c65_0 (.seq (.seq c65_1 c65_11) (.seq (.seq c65_12 c65_14) (.seq c65_15 .ret))))
theorem b65 : Try.f65.body.map (comp 21) = some c65 := by kernel_rfl
theorem r65 : Try.f65.results.toList = [.tmp 4] := by kernel_rfl
-- 66 (*pith/fs.FS).pend
@[go_sem] def c66_0 : Cmd := .ops [⟨some 4, .box 85 (.tmp 1), 0, none⟩,
    ⟨some 5, .box 9 (.tmp 2), 0, none⟩,
    ⟨some 6, .assign (.const (.int .i64 0)), 39, none⟩]
@[go_sem] def c66_1 : Cmd := .ops [⟨some 8, .makeFunc (.func 90) #[] #[(.tmp 4), (.tmp 5)], 119, none⟩,
    ⟨some 7, .assign (.tmp 8), 119, none⟩]
@[go_sem] def c66_2 : Cmd := .ops [⟨some 9, .move (.tmp 7), 119, none⟩,
    ⟨some 10, .move (.tmp 0), 24, none⟩,
    ⟨some 11, .nilCheck (.tmp 10), 0, none⟩,
    ⟨some 12, .fieldAddr 84 (.tmp 11) 1, 0, none⟩,
    ⟨some 13, .load 80 (.tmp 12), 80, none⟩,
    ⟨some 14, .call { callee := (.value (.tmp 9)), args := #[(.tmp 13)], argTypes := #[80] }, 0, none⟩]
@[go_sem] def c66_3 : Cmd := .ops [⟨some 15, .move (.tmp 0), 24, none⟩,
    ⟨some 16, .move (.tmp 0), 24, none⟩,
    ⟨some 17, .nilCheck (.tmp 16), 0, none⟩,
    ⟨some 18, .fieldAddr 84 (.tmp 17) 3, 0, none⟩,
    ⟨some 19, .load 82 (.tmp 18), 82, none⟩,
    ⟨some 20, .move (.tmp 7), 119, none⟩,
    ⟨some 21, .buildSlice 82 1 #[(0, (.tmp 20))], 82, none⟩,
    ⟨some 22, .call { callee := (.builtin .append), args := #[(.tmp 19), (.tmp 21)], argTypes := #[82, 82] }, 82, none⟩,
    ⟨some 23, .nilCheck (.tmp 15), 0, none⟩,
    ⟨some 24, .fieldAddr 84 (.tmp 23) 3, 0, none⟩,
    ⟨none, .store 82 (.tmp 24) (.tmp 22), 0, none⟩]
@[go_sem] def c66_4 : Cmd := .ops [⟨some 25, .move (.tmp 0), 24, none⟩,
    ⟨some 26, .call { callee := (.value (.func 50)), args := #[(.tmp 25)], argTypes := #[24] }, 39, none⟩,
    ⟨some 6, .assign (.tmp 26), 39, none⟩]
@[go_sem] def c66 : Cmd := (.seq c66_0 (.seq c66_1 (.seq c66_2 (.seq c66_3 (.seq c66_4 .ret)))))
theorem b66 : Try.f66.body.map (comp 27) = some c66 := by kernel_rfl
theorem r66 : Try.f66.results.toList = [.tmp 6] := by kernel_rfl
-- 67 pith/pithref.SameFile
@[go_sem] def c67_0 : Cmd := .ops [⟨some 2, .box 44 (.tmp 0), 0, none⟩,
    ⟨some 3, .box 44 (.tmp 1), 0, none⟩,
    ⟨some 4, .assign (.const (.bool false)), 4, none⟩]
@[go_sem] def c67_1 : Cmd := .ops [⟨some 6, .fieldAddr 44 (.tmp 2) 1, 0, none⟩,
    ⟨some 7, .load 34 (.tmp 6), 34, none⟩,
    ⟨some 8, .fieldAddr 44 (.tmp 3) 1, 0, none⟩,
    ⟨some 9, .load 34 (.tmp 8), 34, none⟩,
    ⟨some 10, .call { callee := (.value (.func 48)), args := #[(.tmp 7), (.tmp 9)], argTypes := #[34, 34] }, 4, none⟩,
    ⟨some 5, .assign (.tmp 10), 4, none⟩]
@[go_sem] def c67_2 : Cmd := .ops [⟨some 11, .move (.tmp 5), 4, none⟩,
    ⟨some 12, .move (.tmp 11), 4, none⟩,
    ⟨some 13, .fieldAddr 44 (.tmp 2) 0, 0, some (12, true)⟩,
    ⟨some 14, .load 9 (.tmp 13), 9, some (12, true)⟩,
    ⟨some 15, .fieldAddr 44 (.tmp 3) 0, 0, some (12, true)⟩,
    ⟨some 16, .load 9 (.tmp 15), 9, some (12, true)⟩,
    ⟨some 17, .binOp .eql 9 (.tmp 14) (.tmp 16) 9, 4, some (12, true)⟩,
    ⟨some 18, .pick (.tmp 12) (.tmp 17) (.const (.bool false)), 4, none⟩,
    ⟨some 4, .assign (.tmp 18), 4, none⟩]
@[go_sem] def c67 : Cmd := (.seq c67_0 (.seq c67_1 (.seq c67_2 .ret)))
theorem b67 : Try.f67.body.map (comp 19) = some c67 := by kernel_rfl
theorem r67 : Try.f67.results.toList = [.tmp 4] := by kernel_rfl
-- 68 (*pith/pithref8.FS).Create
@[go_sem] def c68_0 : Cmd := .ops [⟨some 4, .assign (.const (.int .i64 0)), 3, none⟩]
@[go_sem] def c68_1 : Cmd := .ops [⟨some 6, .move (.tmp 0), 48, none⟩,
    ⟨some 7, .move (.tmp 1), 9, none⟩,
    ⟨some 8, .call { callee := (.value (.func 91)), args := #[(.tmp 6), (.tmp 7)], argTypes := #[48, 9] }, 3, none⟩,
    ⟨some 5, .assign (.tmp 8), 3, none⟩]
@[go_sem] def c68_2 : Cmd := .ops [⟨some 9, .move (.tmp 5), 3, none⟩,
    ⟨some 10, .binOp .neq 3 (.tmp 9) (.const (.int .i64 0)) 3, 4, none⟩]
@[go_sem] def c68_3 : Cmd := .ops [⟨some 11, .move (.tmp 5), 3, none⟩,
    ⟨some 4, .assign (.tmp 11), 3, none⟩]
@[go_sem] def c68_4 : Cmd := .cond (.tmp 10) (.seq c68_3 .ret) .skip
@[go_sem] def c68_5 : Cmd := .ops [⟨some 12, .move (.tmp 0), 48, none⟩,
    ⟨some 13, .call { callee := (.value (.func 87)), args := #[(.tmp 12)], argTypes := #[48] }, 122, none⟩,
    ⟨some 14, .move (.tmp 1), 9, none⟩,
    ⟨some 15, .call { callee := (.value (.func 92)), args := #[(.tmp 13), (.tmp 14)], argTypes := #[122, 9] }, 3, none⟩,
    ⟨some 16, .binOp .geq 3 (.tmp 15) (.const (.int .i64 0)) 3, 4, none⟩]
@[go_sem] def c68_6 : Cmd := .ops [⟨some 4, .assign (.const (.int .i64 83)), 3, none⟩]
@[go_sem] def c68_7 : Cmd := .cond (.tmp 16) (.seq c68_6 .ret) .skip
@[go_sem] def c68_8 : Cmd := .ops [⟨some 17, .move (.tmp 0), 48, none⟩,
    ⟨some 18, .move (.tmp 0), 48, none⟩,
    ⟨some 19, .nilCheck (.tmp 18), 0, none⟩,
    ⟨some 20, .fieldAddr 100 (.tmp 19) 1, 0, none⟩,
    ⟨some 21, .load 97 (.tmp 20), 97, none⟩,
    ⟨some 22, .build 129 #[], 129, none⟩,
    ⟨some 23, .buildSlice 97 1 #[(0, (.tmp 22))], 97, none⟩,
    ⟨some 24, .call { callee := (.builtin .append), args := #[(.tmp 21), (.tmp 23)], argTypes := #[97, 97] }, 97, none⟩,
    ⟨some 25, .nilCheck (.tmp 17), 0, none⟩,
    ⟨some 26, .fieldAddr 100 (.tmp 25) 1, 0, none⟩,
    ⟨none, .store 97 (.tmp 26) (.tmp 24), 0, none⟩]
@[go_sem] def c68_9 : Cmd := .ops [⟨some 27, .move (.tmp 0), 48, none⟩,
    ⟨some 28, .move (.tmp 0), 48, none⟩,
    ⟨some 29, .nilCheck (.tmp 28), 0, none⟩,
    ⟨some 30, .fieldAddr 100 (.tmp 29) 1, 0, none⟩,
    ⟨some 31, .load 97 (.tmp 30), 97, none⟩,
    ⟨some 32, .call { callee := (.builtin .len), args := #[(.tmp 31)], argTypes := #[97] }, 3, none⟩,
    ⟨some 33, .binOp .sub 3 (.tmp 32) (.const (.int .i64 1)) 3, 3, none⟩,
    ⟨some 34, .move (.tmp 1), 9, none⟩,
    ⟨some 35, .call { callee := (.value (.func 93)), args := #[(.tmp 27), (.tmp 33), (.tmp 34)], argTypes := #[48, 3, 9] }, 3, none⟩,
    ⟨some 4, .assign (.tmp 35), 3, none⟩]
@[go_sem] def c68 : Cmd := (.seq c68_0 (.seq c68_1 (.seq (.seq c68_2 c68_4) (.seq (.seq c68_5 c68_7) (.seq c68_8 (.seq c68_9 .ret))))))
theorem b68 : Try.f68.body.map (comp 36) = some c68 := by kernel_rfl
theorem r68 : Try.f68.results.toList = [.tmp 4] := by kernel_rfl
-- 69 pith/pithref.Bytes
@[go_sem] def c69_0 : Cmd := .ops [⟨some 2, .assign (.const (.slice none 0 0)), 34, none⟩]
@[go_sem] def c69_1 : Cmd := .ops [⟨some 3, .move (.tmp 0), 34, none⟩,
    ⟨some 4, .call { callee := (.builtin .len), args := #[(.tmp 3)], argTypes := #[34] }, 3, none⟩,
    ⟨some 5, .makeSlice 34 (.const (.int .i64 0)) (.tmp 4), 34, none⟩,
    ⟨some 6, .move (.tmp 0), 34, none⟩,
    ⟨some 7, .call { callee := (.builtin .append), args := #[(.tmp 5), (.tmp 6)], argTypes := #[34, 34] }, 34, none⟩,
    ⟨some 2, .assign (.tmp 7), 34, none⟩]
@[go_sem] def c69 : Cmd := (.seq c69_0 (.seq c69_1 .ret))
theorem b69 : Try.f69.body.map (comp 8) = some c69 := by kernel_rfl
theorem r69 : Try.f69.results.toList = [.tmp 2] := by kernel_rfl
-- 70 (*pith/pithref8.FS).Append
@[go_sem] def c70_0 : Cmd := .ops [⟨some 6, .assign (.const (.int .i64 0)), 3, none⟩]
@[go_sem] def c70_1 : Cmd := .ops [⟨some 10, .move (.tmp 0), 48, none⟩,
    ⟨some 11, .move (.tmp 1), 9, none⟩,
    ⟨some 12, .call { callee := (.value (.func 91)), args := #[(.tmp 10), (.tmp 11)], argTypes := #[48, 9] }, 3, none⟩,
    ⟨some 7, .assign (.tmp 12), 3, none⟩]
@[go_sem] def c70_2 : Cmd := .ops [⟨some 13, .move (.tmp 7), 3, none⟩,
    ⟨some 14, .binOp .neq 3 (.tmp 13) (.const (.int .i64 0)) 3, 4, none⟩]
@[go_sem] def c70_3 : Cmd := .ops [⟨some 15, .move (.tmp 7), 3, none⟩,
    ⟨some 6, .assign (.tmp 15), 3, none⟩]
@[go_sem] def c70_4 : Cmd := .cond (.tmp 14) (.seq c70_3 .ret) .skip
@[go_sem] def c70_5 : Cmd := .ops [⟨some 16, .move (.tmp 0), 48, none⟩,
    ⟨some 17, .call { callee := (.value (.func 87)), args := #[(.tmp 16)], argTypes := #[48] }, 122, none⟩,
    ⟨some 18, .move (.tmp 1), 9, none⟩,
    ⟨some 19, .call { callee := (.value (.func 92)), args := #[(.tmp 17), (.tmp 18)], argTypes := #[122, 9] }, 3, none⟩,
    ⟨some 8, .assign (.tmp 19), 3, none⟩]
@[go_sem] def c70_6 : Cmd := .ops [⟨some 20, .move (.tmp 8), 3, none⟩,
    ⟨some 21, .binOp .lss 3 (.tmp 20) (.const (.int .i64 0)) 3, 4, none⟩]
@[go_sem] def c70_7 : Cmd := .ops [⟨some 6, .assign (.const (.int .i64 82)), 3, none⟩]
@[go_sem] def c70_8 : Cmd := .cond (.tmp 21) (.seq c70_7 .ret) .skip
@[go_sem] def c70_9 : Cmd := .draw (.step 3 ⟨some 22, .move (.tmp 0), 48, none⟩
    (.step 3 ⟨some 24, .move (.tmp 2), 34, none⟩
    (.step 3 ⟨some 25, .call { callee := (.builtin .len), args := #[(.tmp 24)], argTypes := #[34] }, 3, none⟩
    (.step 3 ⟨some 27, .move (.tmp 0), 48, none⟩
    (.step 3 ⟨some 28, .nilCheck (.tmp 27), 0, none⟩
    (.step 3 ⟨some 29, .fieldAddr 100 (.tmp 28) 0, 0, none⟩
    (.step 0 ⟨some 30, .load 3 (.tmp 29), 3, none⟩
    (.step 1 ⟨some 23, .call { callee := (.value (.func 57)), args := #[(.tmp 22)], argTypes := #[48] }, 3, none⟩
    (.step 3 ⟨some 26, .binOp .add 3 (.tmp 23) (.tmp 25) 3, 3, none⟩
    (.step 3 ⟨some 31, .binOp .gtr 3 (.tmp 26) (.tmp 30) 3, 4, none⟩
    .done))))))))))
@[go_sem] def c70_10 : Cmd := .ops [⟨some 6, .assign (.const (.int .i64 80)), 3, none⟩]
@[go_sem] def c70_11 : Cmd := .cond (.tmp 31) (.seq c70_10 .ret) .skip
@[go_sem] def c70_12 : Cmd := .draw (.step 3 ⟨some 32, .move (.tmp 0), 48, none⟩
    (.step 3 ⟨some 33, .nilCheck (.tmp 32), 0, none⟩
    (.step 3 ⟨some 34, .fieldAddr 100 (.tmp 33) 1, 0, none⟩
    (.step 0 ⟨some 35, .load 97 (.tmp 34), 97, none⟩
    (.step 3 ⟨some 36, .move (.tmp 0), 48, none⟩
    (.step 3 ⟨some 38, .move (.tmp 8), 3, none⟩
    (.step 1 ⟨some 37, .call { callee := (.value (.func 87)), args := #[(.tmp 36)], argTypes := #[48] }, 122, none⟩
    (.step 3 ⟨some 39, .indexAddr 122 (.tmp 37) (.tmp 38), 0, none⟩
    (.step 3 ⟨some 40, .fieldAddr 125 (.tmp 39) 1, 0, none⟩
    (.step 0 ⟨some 41, .load 3 (.tmp 40), 3, none⟩
    (.step 3 ⟨some 42, .indexAddr 97 (.tmp 35) (.tmp 41), 0, none⟩
    (.step 3 ⟨some 9, .assign (.tmp 42), 132, none⟩
    .done))))))))))))
@[go_sem] def c70_13 : Cmd := .ops [⟨some 43, .move (.tmp 9), 132, none⟩,
    ⟨some 44, .move (.tmp 9), 132, none⟩,
    ⟨some 45, .nilCheck (.tmp 44), 0, none⟩,
    ⟨some 46, .fieldAddr 129 (.tmp 45) 0, 0, none⟩,
    ⟨some 47, .load 34 (.tmp 46), 34, none⟩,
    ⟨some 48, .call { callee := (.value (.func 69)), args := #[(.tmp 47)], argTypes := #[34] }, 34, none⟩,
    ⟨some 49, .move (.tmp 2), 34, none⟩,
    ⟨some 50, .call { callee := (.builtin .append), args := #[(.tmp 48), (.tmp 49)], argTypes := #[34, 34] }, 34, none⟩,
    ⟨some 51, .nilCheck (.tmp 43), 0, none⟩,
    ⟨some 52, .fieldAddr 129 (.tmp 51) 0, 0, none⟩,
    ⟨none, .store 34 (.tmp 52) (.tmp 50), 0, none⟩]
@[go_sem] def c70_14 : Cmd := .ops [⟨some 53, .move (.tmp 0), 48, none⟩,
    ⟨some 54, .call { callee := (.value (.func 94)), args := #[(.tmp 53)], argTypes := #[48] }, 3, none⟩,
    ⟨some 6, .assign (.tmp 54), 3, none⟩]
@[go_sem] def c70 : Cmd := (.seq c70_0 (.seq c70_1 (.seq (.seq c70_2 c70_4) (.seq c70_5 (.seq (.seq c70_6 c70_8) (.seq (.seq c70_9 c70_11) (.seq c70_12 (.seq c70_13 (.seq c70_14 .ret)))))))))
theorem b70 : Try.f70.body.map (comp 55) = some c70 := by kernel_rfl
theorem r70 : Try.f70.results.toList = [.tmp 6] := by kernel_rfl
-- 71 (*pith/pithref8.FS).Sync
@[go_sem] def c71_0 : Cmd := .ops [⟨some 4, .assign (.const (.int .i64 0)), 3, none⟩]
@[go_sem] def c71_1 : Cmd := .ops [⟨some 9, .move (.tmp 0), 48, none⟩,
    ⟨some 10, .move (.tmp 1), 9, none⟩,
    ⟨some 11, .call { callee := (.value (.func 91)), args := #[(.tmp 9), (.tmp 10)], argTypes := #[48, 9] }, 3, none⟩,
    ⟨some 5, .assign (.tmp 11), 3, none⟩]
@[go_sem] def c71_2 : Cmd := .ops [⟨some 12, .move (.tmp 5), 3, none⟩,
    ⟨some 13, .binOp .neq 3 (.tmp 12) (.const (.int .i64 0)) 3, 4, none⟩]
@[go_sem] def c71_3 : Cmd := .ops [⟨some 14, .move (.tmp 5), 3, none⟩,
    ⟨some 4, .assign (.tmp 14), 3, none⟩]
@[go_sem] def c71_4 : Cmd := .cond (.tmp 13) (.seq c71_3 .ret) .skip
@[go_sem] def c71_5 : Cmd := .ops [⟨some 15, .move (.tmp 0), 48, none⟩,
    ⟨some 16, .call { callee := (.value (.func 87)), args := #[(.tmp 15)], argTypes := #[48] }, 122, none⟩,
    ⟨some 17, .move (.tmp 1), 9, none⟩,
    ⟨some 18, .call { callee := (.value (.func 92)), args := #[(.tmp 16), (.tmp 17)], argTypes := #[122, 9] }, 3, none⟩,
    ⟨some 6, .assign (.tmp 18), 3, none⟩]
@[go_sem] def c71_6 : Cmd := .ops [⟨some 19, .move (.tmp 6), 3, none⟩,
    ⟨some 20, .binOp .lss 3 (.tmp 19) (.const (.int .i64 0)) 3, 4, none⟩]
@[go_sem] def c71_7 : Cmd := .ops [⟨some 4, .assign (.const (.int .i64 82)), 3, none⟩]
@[go_sem] def c71_8 : Cmd := .cond (.tmp 20) (.seq c71_7 .ret) .skip
@[go_sem] def c71_9 : Cmd := .ops [⟨some 21, .move (.tmp 0), 48, none⟩,
    ⟨some 22, .call { callee := (.value (.func 95)), args := #[(.tmp 21)], argTypes := #[48] }, 4, none⟩,
    ⟨some 7, .assign (.tmp 22), 4, none⟩]
@[go_sem] def c71_10 : Cmd := .ops [⟨some 23, .move (.tmp 7), 4, none⟩]
@[go_sem] def c71_11 : Cmd := .ops [⟨some 4, .assign (.const (.int .i64 81)), 3, none⟩]
@[go_sem] def c71_12 : Cmd := .cond (.tmp 23) (.seq c71_11 .ret) .skip
@[go_sem] def c71_13 : Cmd := .draw (.step 3 ⟨some 24, .move (.tmp 0), 48, none⟩
    (.step 3 ⟨some 25, .nilCheck (.tmp 24), 0, none⟩
    (.step 3 ⟨some 26, .fieldAddr 100 (.tmp 25) 1, 0, none⟩
    (.step 0 ⟨some 27, .load 97 (.tmp 26), 97, none⟩
    (.step 3 ⟨some 28, .move (.tmp 0), 48, none⟩
    (.step 3 ⟨some 30, .move (.tmp 6), 3, none⟩
    (.step 1 ⟨some 29, .call { callee := (.value (.func 87)), args := #[(.tmp 28)], argTypes := #[48] }, 122, none⟩
    (.step 3 ⟨some 31, .indexAddr 122 (.tmp 29) (.tmp 30), 0, none⟩
    (.step 3 ⟨some 32, .fieldAddr 125 (.tmp 31) 1, 0, none⟩
    (.step 0 ⟨some 33, .load 3 (.tmp 32), 3, none⟩
    (.step 3 ⟨some 34, .indexAddr 97 (.tmp 27) (.tmp 33), 0, none⟩
    (.step 3 ⟨some 8, .assign (.tmp 34), 132, none⟩
    .done))))))))))))
@[go_sem] def c71_14 : Cmd := .ops [⟨some 35, .move (.tmp 8), 132, none⟩,
    ⟨some 36, .move (.tmp 8), 132, none⟩,
    ⟨some 37, .nilCheck (.tmp 36), 0, none⟩,
    ⟨some 38, .fieldAddr 129 (.tmp 37) 0, 0, none⟩,
    ⟨some 39, .load 34 (.tmp 38), 34, none⟩,
    ⟨some 40, .call { callee := (.builtin .len), args := #[(.tmp 39)], argTypes := #[34] }, 3, none⟩,
    ⟨some 41, .nilCheck (.tmp 35), 0, none⟩,
    ⟨some 42, .fieldAddr 129 (.tmp 41) 1, 0, none⟩,
    ⟨none, .store 3 (.tmp 42) (.tmp 40), 0, none⟩]
@[go_sem] def c71_15 : Cmd := .ops [⟨some 4, .assign (.const (.int .i64 0)), 3, none⟩]
@[go_sem] def c71 : Cmd := (.seq c71_0 (.seq c71_1 (.seq (.seq c71_2 c71_4) (.seq c71_5 (.seq (.seq c71_6 c71_8) (.seq c71_9 (.seq (.seq c71_10 c71_12) (.seq c71_13 (.seq c71_14 (.seq c71_15 .ret))))))))))
theorem b71 : Try.f71.body.map (comp 43) = some c71 := by kernel_rfl
theorem r71 : Try.f71.results.toList = [.tmp 4] := by kernel_rfl
-- 72 (*pith/pithref8.FS).Rename
@[go_sem] def c72_0 : Cmd := .ops [⟨some 6, .assign (.const (.int .i64 0)), 3, none⟩]
@[go_sem] def c72_1 : Cmd := .ops [⟨some 11, .move (.tmp 2), 9, none⟩,
    ⟨some 12, .call { callee := (.value (.func 96)), args := #[(.tmp 11)], argTypes := #[9] }, 4, none⟩,
    ⟨some 7, .assign (.tmp 12), 4, none⟩]
@[go_sem] def c72_2 : Cmd := .ops [⟨some 13, .move (.tmp 0), 48, none⟩,
    ⟨some 14, .move (.tmp 1), 9, none⟩,
    ⟨some 15, .call { callee := (.value (.func 91)), args := #[(.tmp 13), (.tmp 14)], argTypes := #[48, 9] }, 3, none⟩,
    ⟨some 8, .assign (.tmp 15), 3, none⟩]
@[go_sem] def c72_3 : Cmd := .ops [⟨some 16, .move (.tmp 7), 4, none⟩,
    ⟨some 17, .unOp .not 4 (.tmp 16), 4, none⟩]
@[go_sem] def c72_4 : Cmd := .ops [⟨some 6, .assign (.const (.int .i64 84)), 3, none⟩]
@[go_sem] def c72_5 : Cmd := .cond (.tmp 17) (.seq c72_4 .ret) .skip
@[go_sem] def c72_6 : Cmd := .ops [⟨some 18, .move (.tmp 8), 3, none⟩,
    ⟨some 19, .binOp .neq 3 (.tmp 18) (.const (.int .i64 0)) 3, 4, none⟩]
@[go_sem] def c72_7 : Cmd := .ops [⟨some 20, .move (.tmp 8), 3, none⟩,
    ⟨some 6, .assign (.tmp 20), 3, none⟩]
@[go_sem] def c72_8 : Cmd := .cond (.tmp 19) (.seq c72_7 .ret) .skip
@[go_sem] def c72_9 : Cmd := .ops [⟨some 21, .move (.tmp 0), 48, none⟩,
    ⟨some 22, .call { callee := (.value (.func 87)), args := #[(.tmp 21)], argTypes := #[48] }, 122, none⟩,
    ⟨some 9, .assign (.tmp 22), 122, none⟩]
@[go_sem] def c72_10 : Cmd := .ops [⟨some 23, .move (.tmp 9), 122, none⟩,
    ⟨some 24, .move (.tmp 1), 9, none⟩,
    ⟨some 25, .call { callee := (.value (.func 92)), args := #[(.tmp 23), (.tmp 24)], argTypes := #[122, 9] }, 3, none⟩,
    ⟨some 10, .assign (.tmp 25), 3, none⟩]
@[go_sem] def c72_11 : Cmd := .ops [⟨some 26, .move (.tmp 10), 3, none⟩,
    ⟨some 27, .binOp .lss 3 (.tmp 26) (.const (.int .i64 0)) 3, 4, none⟩]
@[go_sem] def c72_12 : Cmd := .ops [⟨some 6, .assign (.const (.int .i64 82)), 3, none⟩]
@[go_sem] def c72_13 : Cmd := .cond (.tmp 27) (.seq c72_12 .ret) .skip
@[go_sem] def c72_14 : Cmd := .ops [⟨some 28, .move (.tmp 0), 48, none⟩,
    ⟨some 29, .move (.tmp 9), 122, none⟩,
    ⟨some 30, .move (.tmp 10), 3, none⟩,
    ⟨some 31, .indexAddr 122 (.tmp 29) (.tmp 30), 0, none⟩,
    ⟨some 32, .fieldAddr 125 (.tmp 31) 1, 0, none⟩,
    ⟨some 33, .load 3 (.tmp 32), 3, none⟩,
    ⟨some 34, .move (.tmp 2), 9, none⟩,
    ⟨some 35, .call { callee := (.value (.func 93)), args := #[(.tmp 28), (.tmp 33), (.tmp 34)], argTypes := #[48, 3, 9] }, 3, none⟩,
    ⟨some 6, .assign (.tmp 35), 3, none⟩]
@[go_sem] def c72 : Cmd := (.seq c72_0 (.seq c72_1 (.seq c72_2 (.seq (.seq c72_3 c72_5) (.seq (.seq c72_6 c72_8) (.seq c72_9 (.seq c72_10 (.seq (.seq c72_11 c72_13) (.seq c72_14 .ret)))))))))
theorem b72 : Try.f72.body.map (comp 36) = some c72 := by kernel_rfl
theorem r72 : Try.f72.results.toList = [.tmp 6] := by kernel_rfl
-- 73 (*pith/pithref8.FS).Remove
@[go_sem] def c73_0 : Cmd := .ops [⟨some 4, .assign (.const (.int .i64 0)), 3, none⟩]
@[go_sem] def c73_1 : Cmd := .ops [⟨some 7, .move (.tmp 0), 48, none⟩,
    ⟨some 8, .move (.tmp 1), 9, none⟩,
    ⟨some 9, .call { callee := (.value (.func 91)), args := #[(.tmp 7), (.tmp 8)], argTypes := #[48, 9] }, 3, none⟩,
    ⟨some 5, .assign (.tmp 9), 3, none⟩]
@[go_sem] def c73_2 : Cmd := .ops [⟨some 10, .move (.tmp 5), 3, none⟩,
    ⟨some 11, .binOp .neq 3 (.tmp 10) (.const (.int .i64 0)) 3, 4, none⟩]
@[go_sem] def c73_3 : Cmd := .ops [⟨some 12, .move (.tmp 5), 3, none⟩,
    ⟨some 4, .assign (.tmp 12), 3, none⟩]
@[go_sem] def c73_4 : Cmd := .cond (.tmp 11) (.seq c73_3 .ret) .skip
@[go_sem] def c73_5 : Cmd := .ops [⟨some 13, .move (.tmp 0), 48, none⟩,
    ⟨some 14, .call { callee := (.value (.func 87)), args := #[(.tmp 13)], argTypes := #[48] }, 122, none⟩,
    ⟨some 15, .move (.tmp 1), 9, none⟩,
    ⟨some 16, .call { callee := (.value (.func 92)), args := #[(.tmp 14), (.tmp 15)], argTypes := #[122, 9] }, 3, none⟩,
    ⟨some 6, .assign (.tmp 16), 3, none⟩]
@[go_sem] def c73_6 : Cmd := .ops [⟨some 17, .move (.tmp 6), 3, none⟩,
    ⟨some 18, .binOp .lss 3 (.tmp 17) (.const (.int .i64 0)) 3, 4, none⟩]
@[go_sem] def c73_7 : Cmd := .ops [⟨some 4, .assign (.const (.int .i64 82)), 3, none⟩]
@[go_sem] def c73_8 : Cmd := .cond (.tmp 18) (.seq c73_7 .ret) .skip
@[go_sem] def c73_9 : Cmd := .ops [⟨some 19, .move (.tmp 0), 48, none⟩,
    ⟨some 20, .move (.tmp 0), 48, none⟩,
    ⟨some 21, .call { callee := (.value (.func 87)), args := #[(.tmp 20)], argTypes := #[48] }, 122, none⟩,
    ⟨some 22, .move (.tmp 6), 3, none⟩,
    ⟨some 23, .indexAddr 122 (.tmp 21) (.tmp 22), 0, none⟩,
    ⟨some 24, .fieldAddr 125 (.tmp 23) 1, 0, none⟩,
    ⟨some 25, .load 3 (.tmp 24), 3, none⟩,
    ⟨some 26, .call { callee := (.value (.func 93)), args := #[(.tmp 19), (.tmp 25), (.const (.string ⟨#[]⟩))], argTypes := #[48, 3, 9] }, 3, none⟩,
    ⟨some 4, .assign (.tmp 26), 3, none⟩]
@[go_sem] def c73 : Cmd := (.seq c73_0 (.seq c73_1 (.seq (.seq c73_2 c73_4) (.seq c73_5 (.seq (.seq c73_6 c73_8) (.seq c73_9 .ret))))))
theorem b73 : Try.f73.body.map (comp 27) = some c73 := by kernel_rfl
theorem r73 : Try.f73.results.toList = [.tmp 4] := by kernel_rfl
-- 74 (*pith/pithref8.FS).SyncDir
@[go_sem] def c74_0 : Cmd := .ops [⟨some 2, .assign (.const (.int .i64 0)), 3, none⟩]
@[go_sem] def c74_1 : Cmd := .ops [⟨some 4, .move (.tmp 0), 48, none⟩,
    ⟨some 5, .nilCheck (.tmp 4), 0, none⟩,
    ⟨some 6, .fieldAddr 100 (.tmp 5) 4, 0, none⟩,
    ⟨some 7, .load 4 (.tmp 6), 4, none⟩]
@[go_sem] def c74_2 : Cmd := .ops [⟨some 2, .assign (.const (.int .i64 81)), 3, none⟩]
@[go_sem] def c74_3 : Cmd := .cond (.tmp 7) (.seq c74_2 .ret) .skip
@[go_sem] def c74_4 : Cmd := .ops [⟨some 8, .move (.tmp 0), 48, none⟩,
    ⟨some 9, .call { callee := (.value (.func 95)), args := #[(.tmp 8)], argTypes := #[48] }, 4, none⟩,
    ⟨some 3, .assign (.tmp 9), 4, none⟩]
@[go_sem] def c74_5 : Cmd := .ops [⟨some 10, .move (.tmp 3), 4, none⟩]
@[go_sem] def c74_6 : Cmd := .ops [⟨some 2, .assign (.const (.int .i64 81)), 3, none⟩]
@[go_sem] def c74_7 : Cmd := .cond (.tmp 10) (.seq c74_6 .ret) .skip
@[go_sem] def c74_8 : Cmd := .ops [⟨some 11, .move (.tmp 0), 48, none⟩,
    ⟨some 12, .move (.tmp 0), 48, none⟩,
    ⟨some 13, .call { callee := (.value (.func 87)), args := #[(.tmp 12)], argTypes := #[48] }, 122, none⟩,
    ⟨some 14, .buildSlice 96 1 #[(0, (.tmp 13))], 96, none⟩,
    ⟨some 15, .nilCheck (.tmp 11), 0, none⟩,
    ⟨some 16, .fieldAddr 100 (.tmp 15) 2, 0, none⟩,
    ⟨none, .store 96 (.tmp 16) (.tmp 14), 0, none⟩]
@[go_sem] def c74_9 : Cmd := .ops [⟨some 17, .move (.tmp 0), 48, none⟩,
    ⟨some 18, .nilCheck (.tmp 17), 0, none⟩,
    ⟨some 19, .fieldAddr 100 (.tmp 18) 3, 0, none⟩,
    ⟨none, .store 98 (.tmp 19) (.const (.slice none 0 0)), 0, none⟩]
@[go_sem] def c74_10 : Cmd := .ops [⟨some 2, .assign (.const (.int .i64 0)), 3, none⟩]
@[go_sem] def c74 : Cmd := (.seq c74_0 (.seq (.seq c74_1 c74_3) (.seq c74_4 (.seq (.seq c74_5 c74_7) (.seq c74_8 (.seq c74_9 (.seq c74_10 .ret)))))))
theorem b74 : Try.f74.body.map (comp 20) = some c74 := by kernel_rfl
theorem r74 : Try.f74.results.toList = [.tmp 2] := by kernel_rfl
-- 75 (*pith/pithref8.FS).Read
@[go_sem] def c75_0 : Cmd := .ops [⟨some 8, .assign (.const (.slice none 0 0)), 34, none⟩,
    ⟨some 9, .assign (.const (.int .i64 0)), 3, none⟩]
@[go_sem] def c75_1 : Cmd := .ops [⟨some 13, .move (.tmp 0), 48, none⟩,
    ⟨some 14, .move (.tmp 1), 9, none⟩,
    ⟨some 15, .call { callee := (.value (.func 91)), args := #[(.tmp 13), (.tmp 14)], argTypes := #[48, 9] }, 3, none⟩,
    ⟨some 10, .assign (.tmp 15), 3, none⟩]
@[go_sem] def c75_2 : Cmd := .ops [⟨some 16, .move (.tmp 10), 3, none⟩,
    ⟨some 17, .binOp .neq 3 (.tmp 16) (.const (.int .i64 0)) 3, 4, none⟩]
@[go_sem] def c75_3 : Cmd := .ops [⟨some 18, .move (.tmp 10), 3, none⟩,
    ⟨some 8, .assign (.const (.slice none 0 0)), 34, none⟩,
    ⟨some 9, .assign (.tmp 18), 3, none⟩]
@[go_sem] def c75_4 : Cmd := .cond (.tmp 17) (.seq c75_3 .ret) .skip
@[go_sem] def c75_5 : Cmd := .ops [⟨some 19, .move (.tmp 0), 48, none⟩,
    ⟨some 20, .call { callee := (.value (.func 87)), args := #[(.tmp 19)], argTypes := #[48] }, 122, none⟩,
    ⟨some 21, .move (.tmp 1), 9, none⟩,
    ⟨some 22, .call { callee := (.value (.func 92)), args := #[(.tmp 20), (.tmp 21)], argTypes := #[122, 9] }, 3, none⟩,
    ⟨some 11, .assign (.tmp 22), 3, none⟩]
@[go_sem] def c75_6 : Cmd := .ops [⟨some 23, .move (.tmp 11), 3, none⟩,
    ⟨some 24, .binOp .lss 3 (.tmp 23) (.const (.int .i64 0)) 3, 4, none⟩]
@[go_sem] def c75_7 : Cmd := .ops [⟨some 8, .assign (.const (.slice none 0 0)), 34, none⟩,
    ⟨some 9, .assign (.const (.int .i64 82)), 3, none⟩]
@[go_sem] def c75_8 : Cmd := .cond (.tmp 24) (.seq c75_7 .ret) .skip
@[go_sem] def c75_9 : Cmd := .ops [⟨some 25, .move (.tmp 2), 3, none⟩,
    ⟨some 26, .binOp .lss 3 (.tmp 25) (.const (.int .i64 0)) 3, 4, none⟩,
    ⟨some 27, .move (.tmp 26), 4, none⟩,
    ⟨some 28, .move (.tmp 3), 3, some (27, false)⟩,
    ⟨some 29, .binOp .lss 3 (.tmp 28) (.const (.int .i64 0)) 3, 4, some (27, false)⟩,
    ⟨some 30, .pick (.tmp 27) (.const (.bool true)) (.tmp 29), 4, none⟩]
@[go_sem] def c75_10 : Cmd := .ops [⟨some 8, .assign (.const (.slice none 0 0)), 34, none⟩,
    ⟨some 9, .assign (.const (.int .i64 85)), 3, none⟩]
@[go_sem] def c75_11 : Cmd := .cond (.tmp 30) (.seq c75_10 .ret) .skip
@[go_sem] def c75_12 : Cmd := .draw (.step 3 ⟨some 31, .move (.tmp 0), 48, none⟩
    (.step 3 ⟨some 32, .nilCheck (.tmp 31), 0, none⟩
    (.step 3 ⟨some 33, .fieldAddr 100 (.tmp 32) 1, 0, none⟩
    (.step 0 ⟨some 34, .load 97 (.tmp 33), 97, none⟩
    (.step 3 ⟨some 35, .move (.tmp 0), 48, none⟩
    (.step 3 ⟨some 37, .move (.tmp 11), 3, none⟩
    (.step 1 ⟨some 36, .call { callee := (.value (.func 87)), args := #[(.tmp 35)], argTypes := #[48] }, 122, none⟩
    (.step 3 ⟨some 38, .indexAddr 122 (.tmp 36) (.tmp 37), 0, none⟩
    (.step 3 ⟨some 39, .fieldAddr 125 (.tmp 38) 1, 0, none⟩
    (.step 0 ⟨some 40, .load 3 (.tmp 39), 3, none⟩
    (.step 3 ⟨some 41, .indexAddr 97 (.tmp 34) (.tmp 40), 0, none⟩
    (.step 3 ⟨some 42, .fieldAddr 129 (.tmp 41) 0, 0, none⟩
    (.step 0 ⟨some 43, .load 34 (.tmp 42), 34, none⟩
    (.step 3 ⟨some 12, .assign (.tmp 43), 34, none⟩
    .done))))))))))))))
@[go_sem] def c75_13 : Cmd := .ops [⟨some 44, .move (.tmp 2), 3, none⟩,
    ⟨some 45, .move (.tmp 12), 34, none⟩,
    ⟨some 46, .call { callee := (.builtin .len), args := #[(.tmp 45)], argTypes := #[34] }, 3, none⟩,
    ⟨some 47, .binOp .geq 3 (.tmp 44) (.tmp 46) 3, 4, none⟩]
@[go_sem] def c75_14 : Cmd := .ops [⟨some 8, .assign (.const (.slice none 0 0)), 34, none⟩,
    ⟨some 9, .assign (.const (.int .i64 0)), 3, none⟩]
@[go_sem] def c75_15 : Cmd := .cond (.tmp 47) (.seq c75_14 .ret) .skip
@[go_sem] def c75_16 : Cmd := .ops [⟨some 48, .move (.tmp 12), 34, none⟩,
    ⟨some 49, .move (.tmp 2), 3, none⟩,
    ⟨some 50, .move (.tmp 2), 3, none⟩,
    ⟨some 51, .move (.tmp 3), 3, none⟩,
    ⟨some 52, .move (.tmp 12), 34, none⟩,
    ⟨some 53, .call { callee := (.builtin .len), args := #[(.tmp 52)], argTypes := #[34] }, 3, none⟩,
    ⟨some 54, .move (.tmp 2), 3, none⟩,
    ⟨some 55, .binOp .sub 3 (.tmp 53) (.tmp 54) 3, 3, none⟩,
    ⟨some 56, .call { callee := (.builtin .min), args := #[(.tmp 51), (.tmp 55)], argTypes := #[3, 3] }, 3, none⟩,
    ⟨some 57, .binOp .add 3 (.tmp 50) (.tmp 56) 3, 3, none⟩,
    ⟨some 58, .slice 34 (.tmp 48) (some (.tmp 49)) (some (.tmp 57)) none, 34, none⟩,
    ⟨some 59, .call { callee := (.value (.func 69)), args := #[(.tmp 58)], argTypes := #[34] }, 34, none⟩,
    ⟨some 8, .assign (.tmp 59), 34, none⟩,
    ⟨some 9, .assign (.const (.int .i64 0)), 3, none⟩]
@[go_sem] def c75 : Cmd := (.seq c75_0 (.seq c75_1 (.seq (.seq c75_2 c75_4) (.seq c75_5 (.seq (.seq c75_6 c75_8) (.seq (.seq c75_9 c75_11) (.seq c75_12 (.seq (.seq c75_13 c75_15) (.seq c75_16 .ret)))))))))
theorem b75 : Try.f75.body.map (comp 60) = some c75 := by kernel_rfl
theorem r75 : Try.f75.results.toList = [.tmp 8, .tmp 9] := by kernel_rfl
-- 76 (*pith/pithref8.FS).Size
@[go_sem] def c76_0 : Cmd := .ops [⟨some 4, .assign (.const (.int .i64 0)), 3, none⟩,
    ⟨some 5, .assign (.const (.int .i64 0)), 3, none⟩]
@[go_sem] def c76_1 : Cmd := .ops [⟨some 8, .move (.tmp 0), 48, none⟩,
    ⟨some 9, .move (.tmp 1), 9, none⟩,
    ⟨some 10, .call { callee := (.value (.func 91)), args := #[(.tmp 8), (.tmp 9)], argTypes := #[48, 9] }, 3, none⟩,
    ⟨some 6, .assign (.tmp 10), 3, none⟩]
@[go_sem] def c76_2 : Cmd := .ops [⟨some 11, .move (.tmp 6), 3, none⟩,
    ⟨some 12, .binOp .neq 3 (.tmp 11) (.const (.int .i64 0)) 3, 4, none⟩]
@[go_sem] def c76_3 : Cmd := .ops [⟨some 13, .move (.tmp 6), 3, none⟩,
    ⟨some 4, .assign (.const (.int .i64 0)), 3, none⟩,
    ⟨some 5, .assign (.tmp 13), 3, none⟩]
@[go_sem] def c76_4 : Cmd := .cond (.tmp 12) (.seq c76_3 .ret) .skip
@[go_sem] def c76_5 : Cmd := .ops [⟨some 14, .move (.tmp 0), 48, none⟩,
    ⟨some 15, .call { callee := (.value (.func 87)), args := #[(.tmp 14)], argTypes := #[48] }, 122, none⟩,
    ⟨some 16, .move (.tmp 1), 9, none⟩,
    ⟨some 17, .call { callee := (.value (.func 92)), args := #[(.tmp 15), (.tmp 16)], argTypes := #[122, 9] }, 3, none⟩,
    ⟨some 7, .assign (.tmp 17), 3, none⟩]
@[go_sem] def c76_6 : Cmd := .ops [⟨some 18, .move (.tmp 7), 3, none⟩,
    ⟨some 19, .binOp .lss 3 (.tmp 18) (.const (.int .i64 0)) 3, 4, none⟩]
@[go_sem] def c76_7 : Cmd := .ops [⟨some 4, .assign (.const (.int .i64 0)), 3, none⟩,
    ⟨some 5, .assign (.const (.int .i64 82)), 3, none⟩]
@[go_sem] def c76_8 : Cmd := .cond (.tmp 19) (.seq c76_7 .ret) .skip
@[go_sem] def c76_9 : Cmd := .draw (.step 3 ⟨some 20, .move (.tmp 0), 48, none⟩
    (.step 3 ⟨some 21, .nilCheck (.tmp 20), 0, none⟩
    (.step 3 ⟨some 22, .fieldAddr 100 (.tmp 21) 1, 0, none⟩
    (.step 0 ⟨some 23, .load 97 (.tmp 22), 97, none⟩
    (.step 3 ⟨some 24, .move (.tmp 0), 48, none⟩
    (.step 3 ⟨some 26, .move (.tmp 7), 3, none⟩
    (.step 1 ⟨some 25, .call { callee := (.value (.func 87)), args := #[(.tmp 24)], argTypes := #[48] }, 122, none⟩
    (.step 3 ⟨some 27, .indexAddr 122 (.tmp 25) (.tmp 26), 0, none⟩
    (.step 3 ⟨some 28, .fieldAddr 125 (.tmp 27) 1, 0, none⟩
    (.step 0 ⟨some 29, .load 3 (.tmp 28), 3, none⟩
    (.step 3 ⟨some 30, .indexAddr 97 (.tmp 23) (.tmp 29), 0, none⟩
    (.step 3 ⟨some 31, .fieldAddr 129 (.tmp 30) 0, 0, none⟩
    (.step 0 ⟨some 32, .load 34 (.tmp 31), 34, none⟩
    (.step 3 ⟨some 33, .call { callee := (.builtin .len), args := #[(.tmp 32)], argTypes := #[34] }, 3, none⟩
    (.step 3 ⟨some 4, .assign (.tmp 33), 3, none⟩
    (.step 3 ⟨some 5, .assign (.const (.int .i64 0)), 3, none⟩
    .done))))))))))))))))
@[go_sem] def c76 : Cmd := (.seq c76_0 (.seq c76_1 (.seq (.seq c76_2 c76_4) (.seq c76_5 (.seq (.seq c76_6 c76_8) (.seq c76_9 .ret))))))
theorem b76 : Try.f76.body.map (comp 34) = some c76 := by kernel_rfl
theorem r76 : Try.f76.results.toList = [.tmp 4, .tmp 5] := by kernel_rfl
-- 77 (*pith/pithref8.FS).Arm
@[go_sem] def c77_0 : Cmd := .ops [⟨some 4, .assign (.const (.int .i64 0)), 3, none⟩]
@[go_sem] def c77_1 : Cmd := .ops [⟨some 5, .move (.tmp 1), 3, none⟩,
    ⟨some 6, .binOp .lss 3 (.tmp 5) (.const (.int .i64 0)) 3, 4, none⟩]
@[go_sem] def c77_2 : Cmd := .ops [⟨some 4, .assign (.const (.int .i64 85)), 3, none⟩]
@[go_sem] def c77_3 : Cmd := .cond (.tmp 6) (.seq c77_2 .ret) .skip
@[go_sem] def c77_4 : Cmd := .ops [⟨some 7, .move (.tmp 0), 48, none⟩,
    ⟨some 8, .nilCheck (.tmp 7), 0, none⟩,
    ⟨some 9, .fieldAddr 100 (.tmp 8) 4, 0, none⟩,
    ⟨some 10, .load 4 (.tmp 9), 4, none⟩]
@[go_sem] def c77_5 : Cmd := .ops [⟨some 4, .assign (.const (.int .i64 81)), 3, none⟩]
@[go_sem] def c77_6 : Cmd := .cond (.tmp 10) (.seq c77_5 .ret) .skip
@[go_sem] def c77_7 : Cmd := .ops [⟨some 11, .move (.tmp 0), 48, none⟩,
    ⟨some 12, .move (.tmp 1), 3, none⟩,
    ⟨some 13, .nilCheck (.tmp 11), 0, none⟩,
    ⟨some 14, .fieldAddr 100 (.tmp 13) 5, 0, none⟩,
    ⟨none, .store 3 (.tmp 14) (.tmp 12), 0, none⟩]
@[go_sem] def c77_8 : Cmd := .ops [⟨some 4, .assign (.const (.int .i64 0)), 3, none⟩]
@[go_sem] def c77 : Cmd := (.seq c77_0 (.seq (.seq c77_1 c77_3) (.seq (.seq c77_4 c77_6) (.seq c77_7 (.seq c77_8 .ret)))))
theorem b77 : Try.f77.body.map (comp 15) = some c77 := by kernel_rfl
theorem r77 : Try.f77.results.toList = [.tmp 4] := by kernel_rfl
-- 78 pith/pithref.Ints
@[go_sem] def c78_0 : Cmd := .ops [⟨some 2, .assign (.const (.slice none 0 0)), 62, none⟩]
@[go_sem] def c78_1 : Cmd := .ops [⟨some 5, .move (.tmp 0), 62, none⟩,
    ⟨some 6, .call { callee := (.builtin .len), args := #[(.tmp 5)], argTypes := #[62] }, 3, none⟩,
    ⟨some 7, .makeSlice 62 (.const (.int .i64 0)) (.tmp 6), 62, none⟩,
    ⟨some 3, .assign (.tmp 7), 62, none⟩]
@[go_sem] def c78_2 : Cmd := .ops [⟨some 4, .assign (.const (.int .i64 0)), 3, none⟩]
@[go_sem] def c78_3 : Cmd := .ops [⟨some 8, .move (.tmp 4), 3, none⟩,
    ⟨some 9, .move (.tmp 0), 62, none⟩,
    ⟨some 10, .call { callee := (.builtin .len), args := #[(.tmp 9)], argTypes := #[62] }, 3, none⟩,
    ⟨some 11, .binOp .lss 3 (.tmp 8) (.tmp 10) 3, 4, none⟩]
@[go_sem] def c78_4 : Cmd := .cond (.tmp 11) .skip (.exit 0)
@[go_sem] def c78_5 : Cmd := .ops [⟨some 14, .move (.tmp 3), 62, none⟩,
    ⟨some 15, .move (.tmp 0), 62, none⟩,
    ⟨some 16, .move (.tmp 4), 3, none⟩,
    ⟨some 17, .indexAddr 62 (.tmp 15) (.tmp 16), 0, none⟩,
    ⟨some 18, .load 3 (.tmp 17), 3, none⟩,
    ⟨some 19, .buildSlice 62 1 #[(0, (.tmp 18))], 62, none⟩,
    ⟨some 20, .call { callee := (.builtin .append), args := #[(.tmp 14), (.tmp 19)], argTypes := #[62, 62] }, 62, none⟩,
    ⟨some 3, .assign (.tmp 20), 62, none⟩]
@[go_sem] def c78_6 : Cmd := .block 1 c78_5
@[go_sem] def c78_7 : Cmd := .ops [⟨some 12, .move (.tmp 4), 3, none⟩,
    ⟨some 13, .binOp .add 3 (.tmp 12) (.const (.int .i64 1)) 3, 3, none⟩,
    ⟨some 4, .assign (.tmp 13), 3, none⟩]
def c78_L0 : Cmd := (.seq (.seq c78_3 c78_4) (.seq c78_6 c78_7))
@[go_sem] def c78_8 : Cmd := .loop c78_L0
@[go_sem] def c78_9 : Cmd := .block 0 c78_8
@[go_sem] def c78_10 : Cmd := .ops [⟨some 21, .move (.tmp 3), 62, none⟩,
    ⟨some 2, .assign (.tmp 21), 62, none⟩]
@[go_sem] def c78 : Cmd := (.seq c78_0 (.seq c78_1 (.seq (.seq c78_2 c78_9) (.seq c78_10 .ret))))
theorem b78 : Try.f78.body.map (comp 22) = some c78 := by kernel_rfl
theorem r78 : Try.f78.results.toList = [.tmp 2] := by kernel_rfl
-- 79 (*pith/pithref8.FS).Crash
@[go_sem] def c79_0 : Cmd := .ops [⟨some 9, .move (.tmp 0), 48, none⟩,
    ⟨some 10, .move (.tmp 1), 3, none⟩,
    ⟨some 11, .move (.tmp 2), 62, none⟩,
    ⟨some 12, .call { callee := (.value (.func 88)), args := #[(.tmp 9), (.tmp 10), (.tmp 11)], argTypes := #[48, 3, 62] }, 26, none⟩,
    ⟨some 6, .assign (.tmp 12), 26, none⟩]
@[go_sem] def c79_1 : Cmd := .ops [⟨some 13, .move (.tmp 0), 48, none⟩,
    ⟨some 14, .nilCheck (.tmp 13), 0, none⟩,
    ⟨some 15, .fieldAddr 100 (.tmp 14) 1, 0, none⟩,
    ⟨none, .store 97 (.tmp 15) (.const (.slice none 0 0)), 0, none⟩]
@[go_sem] def c79_2 : Cmd := .ops [⟨some 7, .assign (.const (.slice none 0 0)), 122, none⟩]
@[go_sem] def c79_3 : Cmd := .ops [⟨some 8, .assign (.const (.int .i64 0)), 3, none⟩]
@[go_sem] def c79_4 : Cmd := .ops [⟨some 16, .move (.tmp 8), 3, none⟩,
    ⟨some 17, .move (.tmp 6), 26, none⟩,
    ⟨some 18, .call { callee := (.builtin .len), args := #[(.tmp 17)], argTypes := #[26] }, 3, none⟩,
    ⟨some 19, .binOp .lss 3 (.tmp 16) (.tmp 18) 3, 4, none⟩]
@[go_sem] def c79_5 : Cmd := .cond (.tmp 19) .skip (.exit 0)
@[go_sem] def c79_6 : Cmd := .ops [⟨some 22, .move (.tmp 7), 122, none⟩,
    ⟨some 23, .move (.tmp 6), 26, none⟩,
    ⟨some 24, .move (.tmp 8), 3, none⟩,
    ⟨some 25, .indexAddr 26 (.tmp 23) (.tmp 24), 0, none⟩,
    ⟨some 26, .fieldAddr 44 (.tmp 25) 0, 0, none⟩,
    ⟨some 27, .load 9 (.tmp 26), 9, none⟩,
    ⟨some 28, .move (.tmp 8), 3, none⟩,
    ⟨some 29, .build 125 #[(0, (.tmp 27)), (1, (.tmp 28))], 125, none⟩,
    ⟨some 30, .buildSlice 122 1 #[(0, (.tmp 29))], 122, none⟩,
    ⟨some 31, .call { callee := (.builtin .append), args := #[(.tmp 22), (.tmp 30)], argTypes := #[122, 122] }, 122, none⟩,
    ⟨some 7, .assign (.tmp 31), 122, none⟩]
@[go_sem] def c79_7 : Cmd := .draw (.step 3 ⟨some 32, .move (.tmp 0), 48, none⟩
    (.step 3 ⟨some 33, .move (.tmp 0), 48, none⟩
    (.step 3 ⟨some 34, .nilCheck (.tmp 33), 0, none⟩
    (.step 3 ⟨some 35, .fieldAddr 100 (.tmp 34) 1, 0, none⟩
    (.step 0 ⟨some 36, .load 97 (.tmp 35), 97, none⟩
    (.step 3 ⟨some 37, .move (.tmp 6), 26, none⟩
    (.step 3 ⟨some 38, .move (.tmp 8), 3, none⟩
    (.step 3 ⟨some 39, .indexAddr 26 (.tmp 37) (.tmp 38), 0, none⟩
    (.step 3 ⟨some 40, .fieldAddr 44 (.tmp 39) 1, 0, none⟩
    (.step 0 ⟨some 41, .load 34 (.tmp 40), 34, none⟩
    (.step 3 ⟨some 42, .move (.tmp 6), 26, none⟩
    (.step 3 ⟨some 43, .move (.tmp 8), 3, none⟩
    (.step 3 ⟨some 44, .indexAddr 26 (.tmp 42) (.tmp 43), 0, none⟩
    (.step 3 ⟨some 45, .fieldAddr 44 (.tmp 44) 1, 0, none⟩
    (.step 0 ⟨some 46, .load 34 (.tmp 45), 34, none⟩
    (.step 3 ⟨some 47, .call { callee := (.builtin .len), args := #[(.tmp 46)], argTypes := #[34] }, 3, none⟩
    (.step 3 ⟨some 48, .build 129 #[(0, (.tmp 41)), (1, (.tmp 47))], 129, none⟩
    (.step 1 ⟨some 49, .buildSlice 97 1 #[(0, (.tmp 48))], 97, none⟩
    (.step 2 ⟨some 50, .call { callee := (.builtin .append), args := #[(.tmp 36), (.tmp 49)], argTypes := #[97, 97] }, 97, none⟩
    (.step 3 ⟨some 51, .nilCheck (.tmp 32), 0, none⟩
    (.step 3 ⟨some 52, .fieldAddr 100 (.tmp 51) 1, 0, none⟩
    (.step 2 ⟨none, .store 97 (.tmp 52) (.tmp 50), 0, none⟩
    .done))))))))))))))))))))))
@[go_sem] def c79_8 : Cmd := .block 1 (.seq c79_6 c79_7)
@[go_sem] def c79_9 : Cmd := .ops [⟨some 20, .move (.tmp 8), 3, none⟩,
    ⟨some 21, .binOp .add 3 (.tmp 20) (.const (.int .i64 1)) 3, 3, none⟩,
    ⟨some 8, .assign (.tmp 21), 3, none⟩]
def c79_L0 : Cmd := (.seq (.seq c79_4 c79_5) (.seq c79_8 c79_9))
@[go_sem] def c79_10 : Cmd := .loop c79_L0
@[go_sem] def c79_11 : Cmd := .block 0 c79_10
@[go_sem] def c79_12 : Cmd := .ops [⟨some 53, .move (.tmp 0), 48, none⟩,
    ⟨some 54, .move (.tmp 7), 122, none⟩,
    ⟨some 55, .buildSlice 96 1 #[(0, (.tmp 54))], 96, none⟩,
    ⟨some 56, .nilCheck (.tmp 53), 0, none⟩,
    ⟨some 57, .fieldAddr 100 (.tmp 56) 2, 0, none⟩,
    ⟨none, .store 96 (.tmp 57) (.tmp 55), 0, none⟩]
@[go_sem] def c79_13 : Cmd := .ops [⟨some 58, .move (.tmp 0), 48, none⟩,
    ⟨some 59, .nilCheck (.tmp 58), 0, none⟩,
    ⟨some 60, .fieldAddr 100 (.tmp 59) 3, 0, none⟩,
    ⟨none, .store 98 (.tmp 60) (.const (.slice none 0 0)), 0, none⟩]
@[go_sem] def c79_14 : Cmd := .ops [⟨some 61, .move (.tmp 0), 48, none⟩,
    ⟨some 62, .nilCheck (.tmp 61), 0, none⟩,
    ⟨some 63, .fieldAddr 100 (.tmp 62) 4, 0, none⟩,
    ⟨none, .store 4 (.tmp 63) (.const (.bool false)), 0, none⟩]
@[go_sem] def c79_15 : Cmd := .ops [⟨some 64, .move (.tmp 0), 48, none⟩,
    ⟨some 65, .nilCheck (.tmp 64), 0, none⟩,
    ⟨some 66, .fieldAddr 100 (.tmp 65) 5, 0, none⟩,
    ⟨none, .store 3 (.tmp 66) (.const (.int .i64 0)), 0, none⟩]
@[go_sem] def c79 : Cmd := (.seq c79_0 (.seq c79_1 (.seq c79_2 (.seq (.seq c79_3 c79_11) (.seq c79_12 (.seq c79_13 (.seq c79_14 c79_15)))))))
theorem b79 : Try.f79.body.map (comp 67) = some c79 := by kernel_rfl
theorem r79 : Try.f79.results.toList = [] := by kernel_rfl
-- 80 pith/pithref.SameInts
@[go_sem] def c80_0 : Cmd := .ops [⟨some 4, .assign (.const (.bool false)), 4, none⟩]
@[go_sem] def c80_1 : Cmd := .ops [⟨some 6, .move (.tmp 0), 62, none⟩,
    ⟨some 7, .call { callee := (.builtin .len), args := #[(.tmp 6)], argTypes := #[62] }, 3, none⟩,
    ⟨some 8, .move (.tmp 1), 62, none⟩,
    ⟨some 9, .call { callee := (.builtin .len), args := #[(.tmp 8)], argTypes := #[62] }, 3, none⟩,
    ⟨some 10, .binOp .neq 3 (.tmp 7) (.tmp 9) 3, 4, none⟩]
@[go_sem] def c80_2 : Cmd := .ops [⟨some 4, .assign (.const (.bool false)), 4, none⟩]
@[go_sem] def c80_3 : Cmd := .cond (.tmp 10) (.seq c80_2 .ret) .skip
@[go_sem] def c80_4 : Cmd := .ops [⟨some 5, .assign (.const (.int .i64 0)), 3, none⟩]
@[go_sem] def c80_5 : Cmd := .ops [⟨some 11, .move (.tmp 5), 3, none⟩,
    ⟨some 12, .move (.tmp 0), 62, none⟩,
    ⟨some 13, .call { callee := (.builtin .len), args := #[(.tmp 12)], argTypes := #[62] }, 3, none⟩,
    ⟨some 14, .binOp .lss 3 (.tmp 11) (.tmp 13) 3, 4, none⟩]
@[go_sem] def c80_6 : Cmd := .cond (.tmp 14) .skip (.exit 0)
@[go_sem] def c80_7 : Cmd := .quiet [⟨some 17, .move (.tmp 0), 62, none⟩,
    ⟨some 18, .move (.tmp 5), 3, none⟩,
    ⟨some 19, .indexAddr 62 (.tmp 17) (.tmp 18), 0, none⟩,
    ⟨some 20, .load 3 (.tmp 19), 3, none⟩,
    ⟨some 21, .move (.tmp 1), 62, none⟩,
    ⟨some 22, .move (.tmp 5), 3, none⟩,
    ⟨some 23, .indexAddr 62 (.tmp 21) (.tmp 22), 0, none⟩,
    ⟨some 24, .load 3 (.tmp 23), 3, none⟩,
    ⟨some 25, .binOp .eql 3 (.tmp 20) (.tmp 24) 3, 4, none⟩,
    ⟨some 26, .unOp .not 4 (.tmp 25), 4, none⟩]
@[go_sem] def c80_8 : Cmd := .ops [⟨some 4, .assign (.const (.bool false)), 4, none⟩]
@[go_sem] def c80_9 : Cmd := .cond (.tmp 26) (.seq c80_8 .ret) .skip
@[go_sem] def c80_10 : Cmd := .block 1 (.seq c80_7 c80_9)
@[go_sem] def c80_11 : Cmd := .ops [⟨some 15, .move (.tmp 5), 3, none⟩,
    ⟨some 16, .binOp .add 3 (.tmp 15) (.const (.int .i64 1)) 3, 3, none⟩,
    ⟨some 5, .assign (.tmp 16), 3, none⟩]
def c80_L0 : Cmd := (.seq (.seq c80_5 c80_6) (.seq c80_10 c80_11))
@[go_sem] def c80_12 : Cmd := .loop c80_L0
@[go_sem] def c80_13 : Cmd := .block 0 c80_12
@[go_sem] def c80_14 : Cmd := .ops [⟨some 4, .assign (.const (.bool true)), 4, none⟩]
@[go_sem] def c80 : Cmd := (.seq c80_0 (.seq (.seq c80_1 c80_3) (.seq (.seq c80_4 c80_13) (.seq c80_14 .ret))))
theorem b80 : Try.f80.body.map (comp 27) = some c80 := by kernel_rfl
theorem r80 : Try.f80.results.toList = [.tmp 4] := by kernel_rfl
-- 81 (*pith/fs.FS).Rot
@[go_sem] def c81_0 : Cmd := .ops [⟨some 8, .assign (.const (.int .i64 0)), 39, none⟩]
@[go_sem] def c81_1 : Cmd := .ops [⟨some 10, .move (.tmp 1), 9, none⟩,
    ⟨some 11, .call { callee := (.value (.func 89)), args := #[(.tmp 10)], argTypes := #[9] }, 4, none⟩,
    ⟨some 12, .unOp .not 4 (.tmp 11), 4, none⟩]
@[go_sem] def c81_2 : Cmd := .ops [⟨some 8, .assign (.const (.int .i64 84)), 39, none⟩]
@[go_sem] def c81_3 : Cmd := .cond (.tmp 12) (.seq c81_2 .ret) .skip
@[go_sem] def c81_4 : Cmd := .ops [⟨some 13, .move (.tmp 0), 24, none⟩,
    ⟨some 14, .nilCheck (.tmp 13), 0, none⟩,
    ⟨some 15, .fieldAddr 84 (.tmp 14) 1, 0, none⟩,
    ⟨some 16, .load 80 (.tmp 15), 80, none⟩,
    ⟨some 17, .move (.tmp 1), 9, none⟩,
    ⟨some 18, .lookup 80 (.tmp 16) (.tmp 17) false, 85, none⟩,
    ⟨some 9, .assign (.tmp 18), 85, none⟩]
@[go_sem] def c81_5 : Cmd := .ops [⟨some 20, .move (.tmp 9), 85, none⟩,
    ⟨some 21, .binOp .eql 85 (.tmp 20) (.const (.pointer none)) 85, 4, none⟩,
    ⟨some 19, .assign (.tmp 21), 4, none⟩]
@[go_sem] def c81_6 : Cmd := .ops [⟨some 8, .assign (.const (.int .i64 82)), 39, none⟩]
@[go_sem] def c81_7 : Cmd := .ops [⟨some 23, .move (.tmp 2), 3, none⟩,
    ⟨some 24, .binOp .lss 3 (.tmp 23) (.const (.int .i64 0)) 3, 4, none⟩,
    ⟨some 25, .move (.tmp 24), 4, none⟩,
    ⟨some 26, .move (.tmp 2), 3, some (25, false)⟩,
    ⟨some 27, .move (.tmp 9), 85, some (25, false)⟩,
    ⟨some 28, .nilCheck (.tmp 27), 0, some (25, false)⟩,
    ⟨some 29, .fieldAddr 87 (.tmp 28) 0, 0, some (25, false)⟩,
    ⟨some 30, .load 34 (.tmp 29), 34, some (25, false)⟩,
    ⟨some 31, .call { callee := (.builtin .len), args := #[(.tmp 30)], argTypes := #[34] }, 3, some (25, false)⟩,
    ⟨some 32, .binOp .geq 3 (.tmp 26) (.tmp 31) 3, 4, some (25, false)⟩,
    ⟨some 33, .pick (.tmp 25) (.const (.bool true)) (.tmp 32), 4, none⟩,
    ⟨some 34, .move (.tmp 33), 4, none⟩,
    ⟨some 35, .move (.tmp 3), 3, some (34, false)⟩,
    ⟨some 36, .binOp .lss 3 (.tmp 35) (.const (.int .i64 1)) 3, 4, some (34, false)⟩,
    ⟨some 37, .pick (.tmp 34) (.const (.bool true)) (.tmp 36), 4, none⟩,
    ⟨some 38, .move (.tmp 37), 4, none⟩,
    ⟨some 39, .move (.tmp 3), 3, some (38, false)⟩,
    ⟨some 40, .binOp .gtr 3 (.tmp 39) (.const (.int .i64 255)) 3, 4, some (38, false)⟩,
    ⟨some 41, .pick (.tmp 38) (.const (.bool true)) (.tmp 40), 4, none⟩,
    ⟨some 22, .assign (.tmp 41), 4, none⟩]
@[go_sem] def c81_8 : Cmd := .ops [⟨some 8, .assign (.const (.int .i64 85)), 39, none⟩]
@[go_sem] def c81_9 : Cmd := .cond (.tmp 22) (.seq c81_8 .ret) .skip
@[go_sem] def c81_10 : Cmd := .cond (.tmp 19) (.seq c81_6 .ret) (.seq c81_7 c81_9)
@[go_sem] def c81_11 : Cmd := .block 0 (.seq c81_5 c81_10)
@[go_sem] def c81_12 : Cmd := .ops [⟨some 42, .move (.tmp 9), 85, none⟩,
    ⟨some 43, .nilCheck (.tmp 42), 0, none⟩,
    ⟨some 44, .fieldAddr 87 (.tmp 43) 0, 0, none⟩,
    ⟨some 45, .load 34 (.tmp 44), 34, none⟩,
    ⟨some 46, .move (.tmp 2), 3, none⟩,
    ⟨some 47, .indexAddr 34 (.tmp 45) (.tmp 46), 0, none⟩,
    ⟨some 48, .load 5 (.tmp 47), 5, none⟩,
    ⟨some 49, .move (.tmp 3), 3, none⟩,
    ⟨some 50, .convert 3 5 (.tmp 49), 5, none⟩,
    ⟨some 51, .binOp .xor 5 (.tmp 48) (.tmp 50) 5, 5, none⟩,
    ⟨some 52, .indexAddr 34 (.tmp 45) (.tmp 46), 0, none⟩,
    ⟨none, .store 5 (.tmp 52) (.tmp 51), 0, none⟩]
@[go_sem] def c81_13 : Cmd := .ops [⟨some 8, .assign (.const (.int .i64 0)), 39, none⟩]
@[go_sem] def c81 : Cmd := (.seq c81_0 (.seq (.seq c81_1 c81_3) (.seq c81_4 (.seq c81_11 (.seq c81_12 (.seq c81_13 .ret))))))
theorem b81 : Try.f81.body.map (comp 53) = some c81 := by kernel_rfl
theorem r81 : Try.f81.results.toList = [.tmp 8] := by kernel_rfl
-- 82 (*pith/pithref8.FS).Rot
@[go_sem] def c82_0 : Cmd := .ops [⟨some 8, .assign (.const (.int .i64 0)), 3, none⟩]
@[go_sem] def c82_1 : Cmd := .ops [⟨some 12, .move (.tmp 1), 9, none⟩,
    ⟨some 13, .call { callee := (.value (.func 96)), args := #[(.tmp 12)], argTypes := #[9] }, 4, none⟩,
    ⟨some 9, .assign (.tmp 13), 4, none⟩]
@[go_sem] def c82_2 : Cmd := .ops [⟨some 14, .move (.tmp 9), 4, none⟩,
    ⟨some 15, .unOp .not 4 (.tmp 14), 4, none⟩]
@[go_sem] def c82_3 : Cmd := .ops [⟨some 8, .assign (.const (.int .i64 84)), 3, none⟩]
@[go_sem] def c82_4 : Cmd := .cond (.tmp 15) (.seq c82_3 .ret) .skip
@[go_sem] def c82_5 : Cmd := .ops [⟨some 16, .move (.tmp 0), 48, none⟩,
    ⟨some 17, .call { callee := (.value (.func 87)), args := #[(.tmp 16)], argTypes := #[48] }, 122, none⟩,
    ⟨some 18, .move (.tmp 1), 9, none⟩,
    ⟨some 19, .call { callee := (.value (.func 92)), args := #[(.tmp 17), (.tmp 18)], argTypes := #[122, 9] }, 3, none⟩,
    ⟨some 10, .assign (.tmp 19), 3, none⟩]
@[go_sem] def c82_6 : Cmd := .ops [⟨some 20, .move (.tmp 10), 3, none⟩,
    ⟨some 21, .binOp .lss 3 (.tmp 20) (.const (.int .i64 0)) 3, 4, none⟩]
@[go_sem] def c82_7 : Cmd := .ops [⟨some 8, .assign (.const (.int .i64 82)), 3, none⟩]
@[go_sem] def c82_8 : Cmd := .cond (.tmp 21) (.seq c82_7 .ret) .skip
@[go_sem] def c82_9 : Cmd := .draw (.step 3 ⟨some 22, .move (.tmp 0), 48, none⟩
    (.step 3 ⟨some 23, .nilCheck (.tmp 22), 0, none⟩
    (.step 3 ⟨some 24, .fieldAddr 100 (.tmp 23) 1, 0, none⟩
    (.step 0 ⟨some 25, .load 97 (.tmp 24), 97, none⟩
    (.step 3 ⟨some 26, .move (.tmp 0), 48, none⟩
    (.step 3 ⟨some 28, .move (.tmp 10), 3, none⟩
    (.step 1 ⟨some 27, .call { callee := (.value (.func 87)), args := #[(.tmp 26)], argTypes := #[48] }, 122, none⟩
    (.step 3 ⟨some 29, .indexAddr 122 (.tmp 27) (.tmp 28), 0, none⟩
    (.step 3 ⟨some 30, .fieldAddr 125 (.tmp 29) 1, 0, none⟩
    (.step 0 ⟨some 31, .load 3 (.tmp 30), 3, none⟩
    (.step 3 ⟨some 32, .indexAddr 97 (.tmp 25) (.tmp 31), 0, none⟩
    (.step 3 ⟨some 33, .fieldAddr 129 (.tmp 32) 0, 0, none⟩
    (.step 0 ⟨some 34, .load 34 (.tmp 33), 34, none⟩
    (.step 3 ⟨some 11, .assign (.tmp 34), 34, none⟩
    .done))))))))))))))
@[go_sem] def c82_10 : Cmd := .ops [⟨some 35, .move (.tmp 2), 3, none⟩,
    ⟨some 36, .binOp .lss 3 (.tmp 35) (.const (.int .i64 0)) 3, 4, none⟩,
    ⟨some 37, .move (.tmp 36), 4, none⟩,
    ⟨some 38, .move (.tmp 2), 3, some (37, false)⟩,
    ⟨some 39, .move (.tmp 11), 34, some (37, false)⟩,
    ⟨some 40, .call { callee := (.builtin .len), args := #[(.tmp 39)], argTypes := #[34] }, 3, some (37, false)⟩,
    ⟨some 41, .binOp .geq 3 (.tmp 38) (.tmp 40) 3, 4, some (37, false)⟩,
    ⟨some 42, .pick (.tmp 37) (.const (.bool true)) (.tmp 41), 4, none⟩,
    ⟨some 43, .move (.tmp 42), 4, none⟩,
    ⟨some 44, .move (.tmp 3), 3, some (43, false)⟩,
    ⟨some 45, .binOp .lss 3 (.tmp 44) (.const (.int .i64 1)) 3, 4, some (43, false)⟩,
    ⟨some 46, .pick (.tmp 43) (.const (.bool true)) (.tmp 45), 4, none⟩,
    ⟨some 47, .move (.tmp 46), 4, none⟩,
    ⟨some 48, .move (.tmp 3), 3, some (47, false)⟩,
    ⟨some 49, .binOp .gtr 3 (.tmp 48) (.const (.int .i64 255)) 3, 4, some (47, false)⟩,
    ⟨some 50, .pick (.tmp 47) (.const (.bool true)) (.tmp 49), 4, none⟩]
@[go_sem] def c82_11 : Cmd := .ops [⟨some 8, .assign (.const (.int .i64 85)), 3, none⟩]
@[go_sem] def c82_12 : Cmd := .cond (.tmp 50) (.seq c82_11 .ret) .skip
@[go_sem] def c82_13 : Cmd := .ops [⟨some 51, .move (.tmp 11), 34, none⟩,
    ⟨some 52, .move (.tmp 2), 3, none⟩,
    ⟨some 53, .move (.tmp 11), 34, none⟩,
    ⟨some 54, .move (.tmp 2), 3, none⟩,
    ⟨some 55, .indexAddr 34 (.tmp 53) (.tmp 54), 0, none⟩,
    ⟨some 56, .load 5 (.tmp 55), 5, none⟩,
    ⟨some 57, .move (.tmp 3), 3, none⟩,
    ⟨some 58, .convert 3 5 (.tmp 57), 5, none⟩,
    ⟨some 59, .binOp .xor 5 (.tmp 56) (.tmp 58) 5, 5, none⟩,
    ⟨some 60, .indexAddr 34 (.tmp 51) (.tmp 52), 0, none⟩,
    ⟨none, .store 5 (.tmp 60) (.tmp 59), 0, none⟩]
@[go_sem] def c82_14 : Cmd := .ops [⟨some 8, .assign (.const (.int .i64 0)), 3, none⟩]
@[go_sem] def c82 : Cmd := (.seq c82_0 (.seq c82_1 (.seq (.seq c82_2 c82_4) (.seq c82_5 (.seq (.seq c82_6 c82_8) (.seq c82_9 (.seq (.seq c82_10 c82_12) (.seq c82_13 (.seq c82_14 .ret)))))))))
theorem b82 : Try.f82.body.map (comp 61) = some c82 := by kernel_rfl
theorem r82 : Try.f82.results.toList = [.tmp 8] := by kernel_rfl
-- 87 (*pith/pithref8.FS).now
@[go_sem] def c87_0 : Cmd := .ops [⟨some 2, .assign (.const (.slice none 0 0)), 122, none⟩]
@[go_sem] def c87_1 : Cmd := .quiet [⟨some 3, .move (.tmp 0), 48, none⟩,
    ⟨some 4, .nilCheck (.tmp 3), 0, none⟩,
    ⟨some 5, .fieldAddr 100 (.tmp 4) 2, 0, none⟩,
    ⟨some 6, .load 96 (.tmp 5), 96, none⟩,
    ⟨some 7, .move (.tmp 0), 48, none⟩,
    ⟨some 8, .nilCheck (.tmp 7), 0, none⟩,
    ⟨some 9, .fieldAddr 100 (.tmp 8) 2, 0, none⟩,
    ⟨some 10, .load 96 (.tmp 9), 96, none⟩,
    ⟨some 11, .call { callee := (.builtin .len), args := #[(.tmp 10)], argTypes := #[96] }, 3, none⟩,
    ⟨some 12, .binOp .sub 3 (.tmp 11) (.const (.int .i64 1)) 3, 3, none⟩,
    ⟨some 13, .indexAddr 96 (.tmp 6) (.tmp 12), 0, none⟩,
    ⟨some 14, .load 122 (.tmp 13), 122, none⟩,
    ⟨some 2, .assign (.tmp 14), 122, none⟩]
@[go_sem] def c87 : Cmd := (.seq c87_0 (.seq c87_1 .ret))
theorem b87 : Try.f87.body.map (comp 15) = some c87 := by kernel_rfl
theorem r87 : Try.f87.results.toList = [.tmp 2] := by kernel_rfl
-- 88 (*pith/pithref8.FS).left
@[go_sem] def c88_0 : Cmd := .ops [⟨some 6, .assign (.const (.slice none 0 0)), 26, none⟩]
@[go_sem] def c88_1 : Cmd := .ops [⟨some 14, .move (.tmp 0), 48, none⟩,
    ⟨some 15, .nilCheck (.tmp 14), 0, none⟩,
    ⟨some 16, .fieldAddr 100 (.tmp 15) 2, 0, none⟩,
    ⟨some 17, .load 96 (.tmp 16), 96, none⟩,
    ⟨some 18, .indexAddr 96 (.tmp 17) (.const (.int .i64 0)), 0, none⟩,
    ⟨some 19, .load 122 (.tmp 18), 122, none⟩,
    ⟨some 7, .assign (.tmp 19), 122, none⟩]
@[go_sem] def c88_2 : Cmd := .ops [⟨some 8, .assign (.const (.int .i64 0)), 3, none⟩]
@[go_sem] def c88_3 : Cmd := .ops [⟨some 20, .move (.tmp 8), 3, none⟩,
    ⟨some 21, .move (.tmp 0), 48, none⟩,
    ⟨some 22, .nilCheck (.tmp 21), 0, none⟩,
    ⟨some 23, .fieldAddr 100 (.tmp 22) 3, 0, none⟩,
    ⟨some 24, .load 98 (.tmp 23), 98, none⟩,
    ⟨some 25, .call { callee := (.builtin .len), args := #[(.tmp 24)], argTypes := #[98] }, 3, none⟩,
    ⟨some 26, .binOp .lss 3 (.tmp 20) (.tmp 25) 3, 4, none⟩]
@[go_sem] def c88_4 : Cmd := .cond (.tmp 26) .skip (.exit 0)
@[go_sem] def c88_5 : Cmd := .ops [⟨some 29, .move (.tmp 1), 3, none⟩,
    ⟨some 30, .move (.tmp 8), 3, none⟩,
    ⟨some 31, .call { callee := (.builtin .min), args := #[(.tmp 30), (.const (.int .i64 63))], argTypes := #[3, 3] }, 3, none⟩,
    ⟨some 32, .convert 3 38 (.tmp 31), 38, none⟩,
    ⟨some 33, .binOp .shr 3 (.tmp 29) (.tmp 32) 38, 3, none⟩,
    ⟨some 34, .binOp .and 3 (.tmp 33) (.const (.int .i64 1)) 3, 3, none⟩,
    ⟨some 35, .binOp .neq 3 (.tmp 34) (.const (.int .i64 0)) 3, 4, none⟩]
@[go_sem] def c88_6 : Cmd := .ops [⟨some 36, .move (.tmp 7), 122, none⟩,
    ⟨some 37, .move (.tmp 0), 48, none⟩,
    ⟨some 38, .nilCheck (.tmp 37), 0, none⟩,
    ⟨some 39, .fieldAddr 100 (.tmp 38) 3, 0, none⟩,
    ⟨some 40, .load 98 (.tmp 39), 98, none⟩,
    ⟨some 41, .move (.tmp 8), 3, none⟩,
    ⟨some 42, .indexAddr 98 (.tmp 40) (.tmp 41), 0, none⟩,
    ⟨some 43, .load 139 (.tmp 42), 139, none⟩,
    ⟨some 44, .call { callee := (.value (.func 101)), args := #[(.tmp 36), (.tmp 43)], argTypes := #[122, 139] }, 122, none⟩,
    ⟨some 7, .assign (.tmp 44), 122, none⟩]
@[go_sem] def c88_7 : Cmd := .cond (.tmp 35) c88_6 .skip
@[go_sem] def c88_8 : Cmd := .block 1 (.seq c88_5 c88_7)
@[go_sem] def c88_9 : Cmd := .ops [⟨some 27, .move (.tmp 8), 3, none⟩,
    ⟨some 28, .binOp .add 3 (.tmp 27) (.const (.int .i64 1)) 3, 3, none⟩,
    ⟨some 8, .assign (.tmp 28), 3, none⟩]
def c88_L0 : Cmd := (.seq (.seq c88_3 c88_4) (.seq c88_8 c88_9))
@[go_sem] def c88_10 : Cmd := .loop c88_L0
@[go_sem] def c88_11 : Cmd := .block 0 c88_10
@[go_sem] def c88_12 : Cmd := .ops [⟨some 9, .assign (.const (.slice none 0 0)), 26, none⟩]
@[go_sem] def c88_13 : Cmd := .ops [⟨some 10, .assign (.const (.int .i64 0)), 3, none⟩]
@[go_sem] def c88_14 : Cmd := .ops [⟨some 45, .move (.tmp 10), 3, none⟩,
    ⟨some 46, .move (.tmp 7), 122, none⟩,
    ⟨some 47, .call { callee := (.builtin .len), args := #[(.tmp 46)], argTypes := #[122] }, 3, none⟩,
    ⟨some 48, .binOp .lss 3 (.tmp 45) (.tmp 47) 3, 4, none⟩]
@[go_sem] def c88_15 : Cmd := .cond (.tmp 48) .skip (.exit 2)
@[go_sem] def c88_16 : Cmd := .draw (.step 3 ⟨some 51, .move (.tmp 0), 48, none⟩
    (.step 3 ⟨some 52, .nilCheck (.tmp 51), 0, none⟩
    (.step 3 ⟨some 53, .fieldAddr 100 (.tmp 52) 1, 0, none⟩
    (.step 0 ⟨some 54, .load 97 (.tmp 53), 97, none⟩
    (.step 3 ⟨some 55, .move (.tmp 7), 122, none⟩
    (.step 3 ⟨some 56, .move (.tmp 10), 3, none⟩
    (.step 3 ⟨some 57, .indexAddr 122 (.tmp 55) (.tmp 56), 0, none⟩
    (.step 3 ⟨some 58, .fieldAddr 125 (.tmp 57) 1, 0, none⟩
    (.step 0 ⟨some 59, .load 3 (.tmp 58), 3, none⟩
    (.step 3 ⟨some 60, .indexAddr 97 (.tmp 54) (.tmp 59), 0, none⟩
    (.step 0 ⟨some 61, .load 129 (.tmp 60), 129, none⟩
    (.step 1 ⟨some 11, .alloc 129, 0, none⟩
    (.step 2 ⟨none, .store 129 (.tmp 11) (.tmp 61), 0, none⟩
    .done)))))))))))))
@[go_sem] def c88_17 : Cmd := .ops [⟨some 12, .assign (.const (.int .i64 0)), 3, none⟩]
@[go_sem] def c88_18 : Cmd := .ops [⟨some 62, .move (.tmp 10), 3, none⟩,
    ⟨some 63, .move (.tmp 2), 62, none⟩,
    ⟨some 64, .call { callee := (.builtin .len), args := #[(.tmp 63)], argTypes := #[62] }, 3, none⟩,
    ⟨some 65, .binOp .lss 3 (.tmp 62) (.tmp 64) 3, 4, none⟩]
@[go_sem] def c88_19 : Cmd := .quiet [⟨some 66, .move (.tmp 2), 62, none⟩,
    ⟨some 67, .move (.tmp 10), 3, none⟩,
    ⟨some 68, .indexAddr 62 (.tmp 66) (.tmp 67), 0, none⟩,
    ⟨some 69, .load 3 (.tmp 68), 3, none⟩,
    ⟨some 70, .fieldAddr 129 (.tmp 11) 0, 0, none⟩,
    ⟨some 71, .load 34 (.tmp 70), 34, none⟩,
    ⟨some 72, .call { callee := (.builtin .len), args := #[(.tmp 71)], argTypes := #[34] }, 3, none⟩,
    ⟨some 73, .fieldAddr 129 (.tmp 11) 1, 0, none⟩,
    ⟨some 74, .load 3 (.tmp 73), 3, none⟩,
    ⟨some 75, .binOp .sub 3 (.tmp 72) (.tmp 74) 3, 3, none⟩,
    ⟨some 76, .call { callee := (.builtin .min), args := #[(.tmp 69), (.tmp 75)], argTypes := #[3, 3] }, 3, none⟩,
    ⟨some 77, .call { callee := (.builtin .max), args := #[(.const (.int .i64 0)), (.tmp 76)], argTypes := #[3, 3] }, 3, none⟩,
    ⟨some 12, .assign (.tmp 77), 3, none⟩]
@[go_sem] def c88_20 : Cmd := .cond (.tmp 65) c88_19 .skip
@[go_sem] def c88_21 : Cmd := .ops [⟨some 78, .fieldAddr 129 (.tmp 11) 0, 0, none⟩,
    ⟨some 79, .load 34 (.tmp 78), 34, none⟩,
    ⟨some 80, .fieldAddr 129 (.tmp 11) 1, 0, none⟩,
    ⟨some 81, .load 3 (.tmp 80), 3, none⟩,
    ⟨some 82, .move (.tmp 12), 3, none⟩,
    ⟨some 83, .binOp .add 3 (.tmp 81) (.tmp 82) 3, 3, none⟩,
    ⟨some 84, .slice 34 (.tmp 79) none (some (.tmp 83)) none, 34, none⟩,
    ⟨some 85, .call { callee := (.value (.func 69)), args := #[(.tmp 84)], argTypes := #[34] }, 34, none⟩,
    ⟨some 13, .assign (.tmp 85), 34, none⟩]
@[go_sem] def c88_22 : Cmd := .ops [⟨some 86, .move (.tmp 9), 26, none⟩,
    ⟨some 87, .move (.tmp 7), 122, none⟩,
    ⟨some 88, .move (.tmp 10), 3, none⟩,
    ⟨some 89, .indexAddr 122 (.tmp 87) (.tmp 88), 0, none⟩,
    ⟨some 90, .fieldAddr 125 (.tmp 89) 0, 0, none⟩,
    ⟨some 91, .load 9 (.tmp 90), 9, none⟩,
    ⟨some 92, .move (.tmp 13), 34, none⟩,
    ⟨some 93, .build 44 #[(0, (.tmp 91)), (1, (.tmp 92))], 44, none⟩,
    ⟨some 94, .buildSlice 26 1 #[(0, (.tmp 93))], 26, none⟩,
    ⟨some 95, .call { callee := (.builtin .append), args := #[(.tmp 86), (.tmp 94)], argTypes := #[26, 26] }, 26, none⟩,
    ⟨some 9, .assign (.tmp 95), 26, none⟩]
@[go_sem] def c88_23 : Cmd := .block 3 (.seq c88_16 (.seq c88_17 (.seq (.seq c88_18 c88_20) (.seq c88_21 c88_22))))
@[go_sem] def c88_24 : Cmd := .ops [⟨some 49, .move (.tmp 10), 3, none⟩,
    ⟨some 50, .binOp .add 3 (.tmp 49) (.const (.int .i64 1)) 3, 3, none⟩,
    ⟨some 10, .assign (.tmp 50), 3, none⟩]
def c88_L1 : Cmd := (.seq (.seq c88_14 c88_15) (.seq c88_23 c88_24))
@[go_sem] def c88_25 : Cmd := .loop c88_L1
@[go_sem] def c88_26 : Cmd := .block 2 c88_25
@[go_sem] def c88_27 : Cmd := .ops [⟨some 96, .move (.tmp 9), 26, none⟩,
    ⟨some 6, .assign (.tmp 96), 26, none⟩]
@[go_sem] def c88 : Cmd := (.seq c88_0 (.seq c88_1 (.seq (.seq c88_2 c88_11) (.seq c88_12 (.seq (.seq c88_13 c88_26) (.seq c88_27 .ret))))))
theorem b88 : Try.f88.body.map (comp 97) = some c88 := by kernel_rfl
theorem r88 : Try.f88.results.toList = [.tmp 6] := by kernel_rfl
-- 89 pith/fs.isName
@[go_sem] def c89_0 : Cmd := .ops [⟨some 2, .assign (.const (.bool false)), 4, none⟩]
@[go_sem] def c89_1 : Cmd := .ops [⟨some 5, .move (.tmp 0), 9, none⟩,
    ⟨some 6, .call { callee := (.builtin .len), args := #[(.tmp 5)], argTypes := #[9] }, 3, none⟩,
    ⟨some 7, .binOp .lss 3 (.tmp 6) (.const (.int .i64 1)) 3, 4, none⟩,
    ⟨some 8, .move (.tmp 7), 4, none⟩,
    ⟨some 9, .move (.tmp 0), 9, some (8, false)⟩,
    ⟨some 10, .call { callee := (.builtin .len), args := #[(.tmp 9)], argTypes := #[9] }, 3, some (8, false)⟩,
    ⟨some 11, .binOp .gtr 3 (.tmp 10) (.const (.int .i64 64)) 3, 4, some (8, false)⟩,
    ⟨some 12, .pick (.tmp 8) (.const (.bool true)) (.tmp 11), 4, none⟩]
@[go_sem] def c89_2 : Cmd := .ops [⟨some 2, .assign (.const (.bool false)), 4, none⟩]
@[go_sem] def c89_3 : Cmd := .cond (.tmp 12) (.seq c89_2 .ret) .skip
@[go_sem] def c89_4 : Cmd := .ops [⟨some 13, .move (.tmp 0), 9, none⟩,
    ⟨some 14, .call { callee := (.builtin .len), args := #[(.tmp 13)], argTypes := #[9] }, 3, none⟩,
    ⟨some 15, .move (.const (.int .i64 0)), 3, none⟩]
@[go_sem] def c89_5 : Cmd := .ops [⟨some 16, .binOp .lss 3 (.tmp 15) (.tmp 14) 3, 4, none⟩]
@[go_sem] def c89_6 : Cmd := .cond (.tmp 16) .skip (.exit 0)
@[go_sem] def c89_7 : Cmd := .ops [⟨some 17, .move (.tmp 15), 3, none⟩,
    ⟨some 3, .assign (.tmp 17), 3, none⟩]
@[go_sem] def c89_8 : Cmd := .ops [⟨some 18, .move (.tmp 0), 9, none⟩,
    ⟨some 19, .move (.tmp 3), 3, none⟩,
    ⟨some 20, .index 9 (.tmp 18) (.tmp 19), 5, none⟩,
    ⟨some 4, .assign (.tmp 20), 5, none⟩]
@[go_sem] def c89_9 : Cmd := .ops [⟨some 21, .move (.tmp 4), 5, none⟩,
    ⟨some 22, .binOp .neq 5 (.tmp 21) (.const (.int .u8 46)) 5, 4, none⟩,
    ⟨some 23, .move (.tmp 22), 4, none⟩,
    ⟨some 24, .move (.tmp 4), 5, some (23, true)⟩,
    ⟨some 25, .binOp .lss 5 (.tmp 24) (.const (.int .u8 97)) 5, 4, some (23, true)⟩,
    ⟨some 26, .move (.tmp 25), 4, some (23, true)⟩,
    ⟨some 27, .move (.tmp 4), 5, some (26, false)⟩,
    ⟨some 28, .binOp .gtr 5 (.tmp 27) (.const (.int .u8 122)) 5, 4, some (26, false)⟩,
    ⟨some 29, .pick (.tmp 26) (.const (.bool true)) (.tmp 28), 4, some (23, true)⟩,
    ⟨some 30, .pick (.tmp 23) (.tmp 29) (.const (.bool false)), 4, none⟩,
    ⟨some 31, .move (.tmp 30), 4, none⟩,
    ⟨some 32, .move (.tmp 4), 5, some (31, true)⟩,
    ⟨some 33, .binOp .lss 5 (.tmp 32) (.const (.int .u8 48)) 5, 4, some (31, true)⟩,
    ⟨some 34, .move (.tmp 33), 4, some (31, true)⟩,
    ⟨some 35, .move (.tmp 4), 5, some (34, false)⟩,
    ⟨some 36, .binOp .gtr 5 (.tmp 35) (.const (.int .u8 57)) 5, 4, some (34, false)⟩,
    ⟨some 37, .pick (.tmp 34) (.const (.bool true)) (.tmp 36), 4, some (31, true)⟩,
    ⟨some 38, .pick (.tmp 31) (.tmp 37) (.const (.bool false)), 4, none⟩]
@[go_sem] def c89_10 : Cmd := .ops [⟨some 2, .assign (.const (.bool false)), 4, none⟩]
@[go_sem] def c89_11 : Cmd := .cond (.tmp 38) (.seq c89_10 .ret) .skip
@[go_sem] def c89_12 : Cmd := .block 1 (.seq c89_7 (.seq c89_8 (.seq c89_9 c89_11)))
@[go_sem] def c89_13 : Cmd := .ops [⟨some 39, .binOp .add 3 (.tmp 15) (.const (.int .i64 1)) 3, 3, none⟩,
    ⟨some 15, .move (.tmp 39), 3, none⟩]
def c89_L0 : Cmd := (.seq c89_5 (.seq c89_6 (.seq c89_12 c89_13)))
@[go_sem] def c89_14 : Cmd := .loop c89_L0
@[go_sem] def c89_15 : Cmd := .block 0 c89_14
@[go_sem] def c89_16 : Cmd := .ops [⟨some 2, .assign (.const (.bool true)), 4, none⟩]
@[go_sem] def c89 : Cmd := (.seq c89_0 (.seq (.seq c89_1 c89_3) (.seq (.seq c89_4 c89_15) (.seq c89_16 .ret))))
theorem b89 : Try.f89.body.map (comp 40) = some c89 := by kernel_rfl
theorem r89 : Try.f89.results.toList = [.tmp 2] := by kernel_rfl
-- 90 (*pith/fs.FS).pend$1
@[go_sem] def c90_0 : Cmd := .ops [⟨some 6, .move (.tmp 0), 80, none⟩,
    ⟨some 7, .range 80 (.tmp 6), 0, none⟩]
@[go_sem] def c90_1 : Cmd := .ops [⟨some 8, .next (.tmp 7) false, 0, none⟩,
    ⟨some 9, .extract (.tmp 8) 0, 4, none⟩]
@[go_sem] def c90_2 : Cmd := .cond (.tmp 9) .skip (.exit 0)
@[go_sem] def c90_3 : Cmd := .ops [⟨some 10, .entry (.tmp 7), 0, none⟩,
    ⟨some 11, .extract (.tmp 10) 0, 9, none⟩,
    ⟨some 12, .extract (.tmp 10) 1, 85, none⟩,
    ⟨some 4, .assign (.tmp 11), 9, none⟩,
    ⟨some 5, .assign (.tmp 12), 85, none⟩]
@[go_sem] def c90_4 : Cmd := .ops [⟨some 13, .move (.tmp 5), 85, none⟩,
    ⟨some 14, .load 85 (.tmp 1), 85, none⟩,
    ⟨some 15, .binOp .eql 85 (.tmp 13) (.tmp 14) 85, 4, none⟩]
@[go_sem] def c90_5 : Cmd := .ops [⟨some 16, .move (.tmp 0), 80, none⟩,
    ⟨some 17, .move (.tmp 4), 9, none⟩,
    ⟨none, .call { callee := (.builtin .delete), args := #[(.tmp 16), (.tmp 17)], argTypes := #[80, 9] }, 0, none⟩]
@[go_sem] def c90_6 : Cmd := .cond (.tmp 15) c90_5 .skip
@[go_sem] def c90_7 : Cmd := .block 1 (.seq c90_3 (.seq c90_4 c90_6))
def c90_L0 : Cmd := (.seq c90_1 (.seq c90_2 c90_7))
@[go_sem] def c90_8 : Cmd := .loop c90_L0
@[go_sem] def c90_9 : Cmd := .block 0 c90_8
@[go_sem] def c90_10 : Cmd := .ops [⟨some 18, .load 9 (.tmp 2), 9, none⟩,
    ⟨some 19, .binOp .neq 9 (.tmp 18) (.const (.string ⟨#[]⟩)) 9, 4, none⟩]
@[go_sem] def c90_11 : Cmd := .ops [⟨some 20, .move (.tmp 0), 80, none⟩,
    ⟨some 21, .load 9 (.tmp 2), 9, none⟩,
    ⟨some 22, .load 85 (.tmp 1), 85, none⟩,
    ⟨none, .mapUpdate 80 (.tmp 20) (.tmp 21) (.tmp 22), 0, none⟩]
@[go_sem] def c90_12 : Cmd := .cond (.tmp 19) c90_11 .skip
@[go_sem] def c90 : Cmd := (.seq (.seq c90_0 c90_9) (.seq c90_10 c90_12))
theorem b90 : Try.f90.body.map (comp 23) = some c90 := by kernel_rfl
theorem r90 : Try.f90.results.toList = [] := by kernel_rfl
-- 91 (*pith/pithref8.FS).begins
@[go_sem] def c91_0 : Cmd := .ops [⟨some 4, .assign (.const (.int .i64 0)), 3, none⟩]
@[go_sem] def c91_1 : Cmd := .ops [⟨some 6, .move (.tmp 1), 9, none⟩,
    ⟨some 7, .call { callee := (.value (.func 96)), args := #[(.tmp 6)], argTypes := #[9] }, 4, none⟩,
    ⟨some 5, .assign (.tmp 7), 4, none⟩]
@[go_sem] def c91_2 : Cmd := .ops [⟨some 8, .move (.tmp 5), 4, none⟩,
    ⟨some 9, .unOp .not 4 (.tmp 8), 4, none⟩]
@[go_sem] def c91_3 : Cmd := .ops [⟨some 4, .assign (.const (.int .i64 84)), 3, none⟩]
@[go_sem] def c91_4 : Cmd := .cond (.tmp 9) (.seq c91_3 .ret) .skip
@[go_sem] def c91_5 : Cmd := .ops [⟨some 10, .move (.tmp 0), 48, none⟩,
    ⟨some 11, .nilCheck (.tmp 10), 0, none⟩,
    ⟨some 12, .fieldAddr 100 (.tmp 11) 4, 0, none⟩,
    ⟨some 13, .load 4 (.tmp 12), 4, none⟩]
@[go_sem] def c91_6 : Cmd := .ops [⟨some 4, .assign (.const (.int .i64 81)), 3, none⟩]
@[go_sem] def c91_7 : Cmd := .cond (.tmp 13) (.seq c91_6 .ret) .skip
@[go_sem] def c91_8 : Cmd := .ops [⟨some 4, .assign (.const (.int .i64 0)), 3, none⟩]
@[go_sem] def c91 : Cmd := (.seq c91_0 (.seq c91_1 (.seq (.seq c91_2 c91_4) (.seq (.seq c91_5 c91_7) (.seq c91_8 .ret)))))
theorem b91 : Try.f91.body.map (comp 14) = some c91 := by kernel_rfl
theorem r91 : Try.f91.results.toList = [.tmp 4] := by kernel_rfl
-- 92 pith/pithref8.at
@[go_sem] def c92_0 : Cmd := .ops [⟨some 4, .assign (.const (.int .i64 0)), 3, none⟩]
@[go_sem] def c92_1 : Cmd := .ops [⟨some 5, .assign (.const (.int .i64 0)), 3, none⟩]
@[go_sem] def c92_2 : Cmd := .ops [⟨some 6, .move (.tmp 5), 3, none⟩,
    ⟨some 7, .move (.tmp 0), 122, none⟩,
    ⟨some 8, .call { callee := (.builtin .len), args := #[(.tmp 7)], argTypes := #[122] }, 3, none⟩,
    ⟨some 9, .binOp .lss 3 (.tmp 6) (.tmp 8) 3, 4, none⟩]
@[go_sem] def c92_3 : Cmd := .cond (.tmp 9) .skip (.exit 0)
@[go_sem] def c92_4 : Cmd := .ops [⟨some 12, .move (.tmp 0), 122, none⟩,
    ⟨some 13, .move (.tmp 5), 3, none⟩,
    ⟨some 14, .indexAddr 122 (.tmp 12) (.tmp 13), 0, none⟩,
    ⟨some 15, .fieldAddr 125 (.tmp 14) 0, 0, none⟩,
    ⟨some 16, .load 9 (.tmp 15), 9, none⟩,
    ⟨some 17, .move (.tmp 1), 9, none⟩,
    ⟨some 18, .binOp .eql 9 (.tmp 16) (.tmp 17) 9, 4, none⟩]
@[go_sem] def c92_5 : Cmd := .ops [⟨some 19, .move (.tmp 5), 3, none⟩,
    ⟨some 4, .assign (.tmp 19), 3, none⟩]
@[go_sem] def c92_6 : Cmd := .cond (.tmp 18) (.seq c92_5 .ret) .skip
@[go_sem] def c92_7 : Cmd := .block 1 (.seq c92_4 c92_6)
@[go_sem] def c92_8 : Cmd := .ops [⟨some 10, .move (.tmp 5), 3, none⟩,
    ⟨some 11, .binOp .add 3 (.tmp 10) (.const (.int .i64 1)) 3, 3, none⟩,
    ⟨some 5, .assign (.tmp 11), 3, none⟩]
def c92_L0 : Cmd := (.seq (.seq c92_2 c92_3) (.seq c92_7 c92_8))
@[go_sem] def c92_9 : Cmd := .loop c92_L0
@[go_sem] def c92_10 : Cmd := .block 0 c92_9
@[go_sem] def c92_11 : Cmd := .ops [⟨some 4, .assign (.const (.int .i64 (-1))), 3, none⟩]
@[go_sem] def c92 : Cmd := (.seq c92_0 (.seq (.seq c92_1 c92_10) (.seq c92_11 .ret)))
theorem b92 : Try.f92.body.map (comp 20) = some c92 := by kernel_rfl
theorem r92 : Try.f92.results.toList = [.tmp 4] := by kernel_rfl
-- 93 (*pith/pithref8.FS).does
@[go_sem] def c93_0 : Cmd := .ops [⟨some 6, .assign (.const (.int .i64 0)), 3, none⟩]
@[go_sem] def c93_1 : Cmd := .ops [⟨some 8, .move (.tmp 1), 3, none⟩,
    ⟨some 9, .move (.tmp 2), 9, none⟩,
    ⟨some 10, .build 139 #[(0, (.tmp 8)), (1, (.tmp 9))], 139, none⟩,
    ⟨some 7, .alloc 139, 0, none⟩,
    ⟨none, .store 139 (.tmp 7) (.tmp 10), 0, none⟩]
@[go_sem] def c93_2 : Cmd := .draw (.step 3 ⟨some 11, .move (.tmp 0), 48, none⟩
    (.step 3 ⟨some 12, .move (.tmp 0), 48, none⟩
    (.step 3 ⟨some 13, .nilCheck (.tmp 12), 0, none⟩
    (.step 3 ⟨some 14, .fieldAddr 100 (.tmp 13) 3, 0, none⟩
    (.step 0 ⟨some 15, .load 98 (.tmp 14), 98, none⟩
    (.step 0 ⟨some 16, .load 139 (.tmp 7), 139, none⟩
    (.step 1 ⟨some 17, .buildSlice 98 1 #[(0, (.tmp 16))], 98, none⟩
    (.step 2 ⟨some 18, .call { callee := (.builtin .append), args := #[(.tmp 15), (.tmp 17)], argTypes := #[98, 98] }, 98, none⟩
    (.step 3 ⟨some 19, .nilCheck (.tmp 11), 0, none⟩
    (.step 3 ⟨some 20, .fieldAddr 100 (.tmp 19) 3, 0, none⟩
    (.step 2 ⟨none, .store 98 (.tmp 20) (.tmp 18), 0, none⟩
    .done)))))))))))
@[go_sem] def c93_3 : Cmd := .draw (.step 3 ⟨some 21, .move (.tmp 0), 48, none⟩
    (.step 3 ⟨some 22, .move (.tmp 0), 48, none⟩
    (.step 3 ⟨some 23, .nilCheck (.tmp 22), 0, none⟩
    (.step 3 ⟨some 24, .fieldAddr 100 (.tmp 23) 2, 0, none⟩
    (.step 0 ⟨some 25, .load 96 (.tmp 24), 96, none⟩
    (.step 3 ⟨some 26, .move (.tmp 0), 48, none⟩
    (.step 0 ⟨some 28, .load 139 (.tmp 7), 139, none⟩
    (.step 1 ⟨some 27, .call { callee := (.value (.func 87)), args := #[(.tmp 26)], argTypes := #[48] }, 122, none⟩
    (.step 1 ⟨some 29, .call { callee := (.value (.func 101)), args := #[(.tmp 27), (.tmp 28)], argTypes := #[122, 139] }, 122, none⟩
    (.step 1 ⟨some 30, .buildSlice 96 1 #[(0, (.tmp 29))], 96, none⟩
    (.step 2 ⟨some 31, .call { callee := (.builtin .append), args := #[(.tmp 25), (.tmp 30)], argTypes := #[96, 96] }, 96, none⟩
    (.step 3 ⟨some 32, .nilCheck (.tmp 21), 0, none⟩
    (.step 3 ⟨some 33, .fieldAddr 100 (.tmp 32) 2, 0, none⟩
    (.step 2 ⟨none, .store 96 (.tmp 33) (.tmp 31), 0, none⟩
    .done))))))))))))))
@[go_sem] def c93_4 : Cmd := .ops [⟨some 34, .move (.tmp 0), 48, none⟩,
    ⟨some 35, .call { callee := (.value (.func 94)), args := #[(.tmp 34)], argTypes := #[48] }, 3, none⟩,
    ⟨some 6, .assign (.tmp 35), 3, none⟩]
@[go_sem] def c93 : Cmd := (.seq c93_0 (.seq c93_1 (.seq c93_2 (.seq c93_3 (.seq c93_4 .ret)))))
theorem b93 : Try.f93.body.map (comp 36) = some c93 := by kernel_rfl
theorem r93 : Try.f93.results.toList = [.tmp 6] := by kernel_rfl
-- 94 (*pith/pithref8.FS).power
@[go_sem] def c94_0 : Cmd := .ops [⟨some 2, .assign (.const (.int .i64 0)), 3, none⟩]
@[go_sem] def c94_1 : Cmd := .ops [⟨some 4, .move (.tmp 0), 48, none⟩,
    ⟨some 5, .call { callee := (.value (.func 95)), args := #[(.tmp 4)], argTypes := #[48] }, 4, none⟩,
    ⟨some 3, .assign (.tmp 5), 4, none⟩]
@[go_sem] def c94_2 : Cmd := .ops [⟨some 6, .move (.tmp 3), 4, none⟩]
@[go_sem] def c94_3 : Cmd := .ops [⟨some 2, .assign (.const (.int .i64 81)), 3, none⟩]
@[go_sem] def c94_4 : Cmd := .cond (.tmp 6) (.seq c94_3 .ret) .skip
@[go_sem] def c94_5 : Cmd := .ops [⟨some 2, .assign (.const (.int .i64 0)), 3, none⟩]
@[go_sem] def c94 : Cmd := (.seq c94_0 (.seq c94_1 (.seq (.seq c94_2 c94_4) (.seq c94_5 .ret))))
theorem b94 : Try.f94.body.map (comp 7) = some c94 := by kernel_rfl
theorem r94 : Try.f94.results.toList = [.tmp 2] := by kernel_rfl
-- 95 (*pith/pithref8.FS).fails
@[go_sem] def c95_0 : Cmd := .ops [⟨some 2, .assign (.const (.bool false)), 4, none⟩]
@[go_sem] def c95_1 : Cmd := .ops [⟨some 3, .move (.tmp 0), 48, none⟩,
    ⟨some 4, .nilCheck (.tmp 3), 0, none⟩,
    ⟨some 5, .fieldAddr 100 (.tmp 4) 6, 0, none⟩,
    ⟨some 6, .load 3 (.tmp 5), 3, none⟩,
    ⟨some 7, .binOp .add 3 (.tmp 6) (.const (.int .i64 1)) 3, 3, none⟩,
    ⟨some 8, .nilCheck (.tmp 3), 0, none⟩,
    ⟨some 9, .fieldAddr 100 (.tmp 8) 6, 0, none⟩,
    ⟨none, .store 3 (.tmp 9) (.tmp 7), 0, none⟩]
@[go_sem] def c95_2 : Cmd := .ops [⟨some 10, .move (.tmp 0), 48, none⟩,
    ⟨some 11, .nilCheck (.tmp 10), 0, none⟩,
    ⟨some 12, .fieldAddr 100 (.tmp 11) 5, 0, none⟩,
    ⟨some 13, .load 3 (.tmp 12), 3, none⟩,
    ⟨some 14, .binOp .eql 3 (.tmp 13) (.const (.int .i64 0)) 3, 4, none⟩]
@[go_sem] def c95_3 : Cmd := .ops [⟨some 2, .assign (.const (.bool false)), 4, none⟩]
@[go_sem] def c95_4 : Cmd := .cond (.tmp 14) (.seq c95_3 .ret) .skip
@[go_sem] def c95_5 : Cmd := .ops [⟨some 15, .move (.tmp 0), 48, none⟩,
    ⟨some 16, .nilCheck (.tmp 15), 0, none⟩,
    ⟨some 17, .fieldAddr 100 (.tmp 16) 5, 0, none⟩,
    ⟨some 18, .load 3 (.tmp 17), 3, none⟩,
    ⟨some 19, .binOp .sub 3 (.tmp 18) (.const (.int .i64 1)) 3, 3, none⟩,
    ⟨some 20, .nilCheck (.tmp 15), 0, none⟩,
    ⟨some 21, .fieldAddr 100 (.tmp 20) 5, 0, none⟩,
    ⟨none, .store 3 (.tmp 21) (.tmp 19), 0, none⟩]
@[go_sem] def c95_6 : Cmd := .ops [⟨some 22, .move (.tmp 0), 48, none⟩,
    ⟨some 23, .nilCheck (.tmp 22), 0, none⟩,
    ⟨some 24, .fieldAddr 100 (.tmp 23) 5, 0, none⟩,
    ⟨some 25, .load 3 (.tmp 24), 3, none⟩,
    ⟨some 26, .binOp .eql 3 (.tmp 25) (.const (.int .i64 0)) 3, 4, none⟩]
@[go_sem] def c95_7 : Cmd := .ops [⟨some 27, .move (.tmp 0), 48, none⟩,
    ⟨some 28, .nilCheck (.tmp 27), 0, none⟩,
    ⟨some 29, .fieldAddr 100 (.tmp 28) 4, 0, none⟩,
    ⟨none, .store 4 (.tmp 29) (.const (.bool true)), 0, none⟩]
@[go_sem] def c95_8 : Cmd := .cond (.tmp 26) c95_7 .skip
@[go_sem] def c95_9 : Cmd := .ops [⟨some 30, .move (.tmp 0), 48, none⟩,
    ⟨some 31, .nilCheck (.tmp 30), 0, none⟩,
    ⟨some 32, .fieldAddr 100 (.tmp 31) 4, 0, none⟩,
    ⟨some 33, .load 4 (.tmp 32), 4, none⟩,
    ⟨some 2, .assign (.tmp 33), 4, none⟩]
@[go_sem] def c95 : Cmd := (.seq c95_0 (.seq c95_1 (.seq (.seq c95_2 c95_4) (.seq c95_5 (.seq (.seq c95_6 c95_8) (.seq c95_9 .ret))))))
theorem b95 : Try.f95.body.map (comp 34) = some c95 := by kernel_rfl
theorem r95 : Try.f95.results.toList = [.tmp 2] := by kernel_rfl
-- 96 pith/pithref8.named
@[go_sem] def c96_0 : Cmd := .ops [⟨some 2, .assign (.const (.bool false)), 4, none⟩]
@[go_sem] def c96_1 : Cmd := .ops [⟨some 5, .move (.tmp 0), 9, none⟩,
    ⟨some 6, .call { callee := (.builtin .len), args := #[(.tmp 5)], argTypes := #[9] }, 3, none⟩,
    ⟨some 7, .binOp .lss 3 (.tmp 6) (.const (.int .i64 1)) 3, 4, none⟩,
    ⟨some 8, .move (.tmp 7), 4, none⟩,
    ⟨some 9, .move (.tmp 0), 9, some (8, false)⟩,
    ⟨some 10, .call { callee := (.builtin .len), args := #[(.tmp 9)], argTypes := #[9] }, 3, some (8, false)⟩,
    ⟨some 11, .binOp .gtr 3 (.tmp 10) (.const (.int .i64 64)) 3, 4, some (8, false)⟩,
    ⟨some 12, .pick (.tmp 8) (.const (.bool true)) (.tmp 11), 4, none⟩]
@[go_sem] def c96_2 : Cmd := .ops [⟨some 2, .assign (.const (.bool false)), 4, none⟩]
@[go_sem] def c96_3 : Cmd := .cond (.tmp 12) (.seq c96_2 .ret) .skip
@[go_sem] def c96_4 : Cmd := .ops [⟨some 3, .assign (.const (.int .i64 0)), 3, none⟩]
@[go_sem] def c96_5 : Cmd := .ops [⟨some 13, .move (.tmp 3), 3, none⟩,
    ⟨some 14, .move (.tmp 0), 9, none⟩,
    ⟨some 15, .call { callee := (.builtin .len), args := #[(.tmp 14)], argTypes := #[9] }, 3, none⟩,
    ⟨some 16, .binOp .lss 3 (.tmp 13) (.tmp 15) 3, 4, none⟩]
@[go_sem] def c96_6 : Cmd := .cond (.tmp 16) .skip (.exit 0)
@[go_sem] def c96_7 : Cmd := .ops [⟨some 19, .move (.tmp 0), 9, none⟩,
    ⟨some 20, .move (.tmp 3), 3, none⟩,
    ⟨some 21, .index 9 (.tmp 19) (.tmp 20), 5, none⟩,
    ⟨some 4, .assign (.tmp 21), 5, none⟩]
@[go_sem] def c96_8 : Cmd := .ops [⟨some 22, .move (.tmp 4), 5, none⟩,
    ⟨some 23, .binOp .lss 5 (.tmp 22) (.const (.int .u8 97)) 5, 4, none⟩,
    ⟨some 24, .move (.tmp 23), 4, none⟩,
    ⟨some 25, .move (.tmp 4), 5, some (24, false)⟩,
    ⟨some 26, .binOp .gtr 5 (.tmp 25) (.const (.int .u8 122)) 5, 4, some (24, false)⟩,
    ⟨some 27, .pick (.tmp 24) (.const (.bool true)) (.tmp 26), 4, none⟩,
    ⟨some 28, .move (.tmp 27), 4, none⟩,
    ⟨some 29, .move (.tmp 4), 5, some (28, true)⟩,
    ⟨some 30, .binOp .lss 5 (.tmp 29) (.const (.int .u8 48)) 5, 4, some (28, true)⟩,
    ⟨some 31, .move (.tmp 30), 4, some (28, true)⟩,
    ⟨some 32, .move (.tmp 4), 5, some (31, false)⟩,
    ⟨some 33, .binOp .gtr 5 (.tmp 32) (.const (.int .u8 57)) 5, 4, some (31, false)⟩,
    ⟨some 34, .pick (.tmp 31) (.const (.bool true)) (.tmp 33), 4, some (28, true)⟩,
    ⟨some 35, .pick (.tmp 28) (.tmp 34) (.const (.bool false)), 4, none⟩,
    ⟨some 36, .move (.tmp 35), 4, none⟩,
    ⟨some 37, .move (.tmp 4), 5, some (36, true)⟩,
    ⟨some 38, .binOp .neq 5 (.tmp 37) (.const (.int .u8 46)) 5, 4, some (36, true)⟩,
    ⟨some 39, .pick (.tmp 36) (.tmp 38) (.const (.bool false)), 4, none⟩]
@[go_sem] def c96_9 : Cmd := .ops [⟨some 2, .assign (.const (.bool false)), 4, none⟩]
@[go_sem] def c96_10 : Cmd := .cond (.tmp 39) (.seq c96_9 .ret) .skip
@[go_sem] def c96_11 : Cmd := .block 1 (.seq c96_7 (.seq c96_8 c96_10))
@[go_sem] def c96_12 : Cmd := .ops [⟨some 17, .move (.tmp 3), 3, none⟩,
    ⟨some 18, .binOp .add 3 (.tmp 17) (.const (.int .i64 1)) 3, 3, none⟩,
    ⟨some 3, .assign (.tmp 18), 3, none⟩]
def c96_L0 : Cmd := (.seq (.seq c96_5 c96_6) (.seq c96_11 c96_12))
@[go_sem] def c96_13 : Cmd := .loop c96_L0
@[go_sem] def c96_14 : Cmd := .block 0 c96_13
@[go_sem] def c96_15 : Cmd := .ops [⟨some 2, .assign (.const (.bool true)), 4, none⟩]
@[go_sem] def c96 : Cmd := (.seq c96_0 (.seq (.seq c96_1 c96_3) (.seq (.seq c96_4 c96_14) (.seq c96_15 .ret))))
theorem b96 : Try.f96.body.map (comp 40) = some c96 := by kernel_rfl
theorem r96 : Try.f96.results.toList = [.tmp 2] := by kernel_rfl
-- 101 pith/pithref8.told
@[go_sem] def c101_0 : Cmd := .ops [⟨some 3, .box 139 (.tmp 1), 0, none⟩,
    ⟨some 4, .assign (.const (.slice none 0 0)), 122, none⟩]
@[go_sem] def c101_1 : Cmd := .ops [⟨some 5, .assign (.const (.slice none 0 0)), 122, none⟩]
@[go_sem] def c101_2 : Cmd := .ops [⟨some 6, .assign (.const (.int .i64 0)), 3, none⟩]
@[go_sem] def c101_3 : Cmd := .ops [⟨some 7, .move (.tmp 6), 3, none⟩,
    ⟨some 8, .move (.tmp 0), 122, none⟩,
    ⟨some 9, .call { callee := (.builtin .len), args := #[(.tmp 8)], argTypes := #[122] }, 3, none⟩,
    ⟨some 10, .binOp .lss 3 (.tmp 7) (.tmp 9) 3, 4, none⟩]
@[go_sem] def c101_4 : Cmd := .cond (.tmp 10) .skip (.exit 0)
@[go_sem] def c101_5 : Cmd := .quiet [⟨some 13, .move (.tmp 0), 122, none⟩,
    ⟨some 14, .move (.tmp 6), 3, none⟩,
    ⟨some 15, .indexAddr 122 (.tmp 13) (.tmp 14), 0, none⟩,
    ⟨some 16, .fieldAddr 125 (.tmp 15) 1, 0, none⟩,
    ⟨some 17, .load 3 (.tmp 16), 3, none⟩,
    ⟨some 18, .fieldAddr 139 (.tmp 3) 0, 0, none⟩,
    ⟨some 19, .load 3 (.tmp 18), 3, none⟩,
    ⟨some 20, .binOp .neq 3 (.tmp 17) (.tmp 19) 3, 4, none⟩]
@[go_sem] def c101_6 : Cmd := .ops [⟨some 21, .move (.tmp 5), 122, none⟩,
    ⟨some 22, .move (.tmp 0), 122, none⟩,
    ⟨some 23, .move (.tmp 6), 3, none⟩,
    ⟨some 24, .indexAddr 122 (.tmp 22) (.tmp 23), 0, none⟩,
    ⟨some 25, .load 125 (.tmp 24), 125, none⟩,
    ⟨some 26, .buildSlice 122 1 #[(0, (.tmp 25))], 122, none⟩,
    ⟨some 27, .call { callee := (.builtin .append), args := #[(.tmp 21), (.tmp 26)], argTypes := #[122, 122] }, 122, none⟩,
    ⟨some 5, .assign (.tmp 27), 122, none⟩]
@[go_sem] def c101_7 : Cmd := .cond (.tmp 20) c101_6 .skip
@[go_sem] def c101_8 : Cmd := .block 1 (.seq c101_5 c101_7)
@[go_sem] def c101_9 : Cmd := .ops [⟨some 11, .move (.tmp 6), 3, none⟩,
    ⟨some 12, .binOp .add 3 (.tmp 11) (.const (.int .i64 1)) 3, 3, none⟩,
    ⟨some 6, .assign (.tmp 12), 3, none⟩]
def c101_L0 : Cmd := (.seq (.seq c101_3 c101_4) (.seq c101_8 c101_9))
@[go_sem] def c101_10 : Cmd := .loop c101_L0
@[go_sem] def c101_11 : Cmd := .block 0 c101_10
@[go_sem] def c101_12 : Cmd := .ops [⟨some 28, .fieldAddr 139 (.tmp 3) 1, 0, none⟩,
    ⟨some 29, .load 9 (.tmp 28), 9, none⟩,
    ⟨some 30, .binOp .eql 9 (.tmp 29) (.const (.string ⟨#[]⟩)) 9, 4, none⟩]
@[go_sem] def c101_13 : Cmd := .ops [⟨some 31, .move (.tmp 5), 122, none⟩,
    ⟨some 4, .assign (.tmp 31), 122, none⟩]
@[go_sem] def c101_14 : Cmd := .cond (.tmp 30) (.seq c101_13 .ret) .skip
@[go_sem] def c101_15 : Cmd := .ops [⟨some 32, .move (.tmp 5), 122, none⟩,
    ⟨some 33, .fieldAddr 139 (.tmp 3) 1, 0, none⟩,
    ⟨some 34, .load 9 (.tmp 33), 9, none⟩,
    ⟨some 35, .fieldAddr 139 (.tmp 3) 0, 0, none⟩,
    ⟨some 36, .load 3 (.tmp 35), 3, none⟩,
    ⟨some 37, .call { callee := (.value (.func 113)), args := #[(.tmp 32), (.tmp 34), (.tmp 36)], argTypes := #[122, 9, 3] }, 122, none⟩,
    ⟨some 4, .assign (.tmp 37), 122, none⟩]
@[go_sem] def c101 : Cmd := (.seq c101_0 (.seq c101_1 (.seq (.seq c101_2 c101_11) (.seq (.seq c101_12 c101_14) (.seq c101_15 .ret)))))
theorem b101 : Try.f101.body.map (comp 38) = some c101 := by kernel_rfl
theorem r101 : Try.f101.results.toList = [.tmp 4] := by kernel_rfl
-- 108 cmp.Less[string]
@[go_sem] def c108_0 : Cmd := .ops [⟨some 4, .assign (.const (.bool false)), 4, none⟩]
@[go_sem] def c108_1 : Cmd := .ops [⟨some 5, .move (.tmp 0), 9, none⟩,
    ⟨some 6, .call { callee := (.value (.func 119)), args := #[(.tmp 5)], argTypes := #[9] }, 4, none⟩,
    ⟨some 7, .move (.tmp 6), 4, none⟩,
    ⟨some 8, .move (.tmp 1), 9, some (7, true)⟩,
    ⟨some 9, .call { callee := (.value (.func 119)), args := #[(.tmp 8)], argTypes := #[9] }, 4, some (7, true)⟩,
    ⟨some 10, .unOp .not 4 (.tmp 9), 4, some (7, true)⟩,
    ⟨some 11, .pick (.tmp 7) (.tmp 10) (.const (.bool false)), 4, none⟩,
    ⟨some 12, .move (.tmp 11), 4, none⟩,
    ⟨some 13, .move (.tmp 0), 9, some (12, false)⟩,
    ⟨some 14, .move (.tmp 1), 9, some (12, false)⟩,
    ⟨some 15, .binOp .lss 9 (.tmp 13) (.tmp 14) 9, 4, some (12, false)⟩,
    ⟨some 16, .pick (.tmp 12) (.const (.bool true)) (.tmp 15), 4, none⟩,
    ⟨some 4, .assign (.tmp 16), 4, none⟩]
@[go_sem] def c108 : Cmd := (.seq c108_0 (.seq c108_1 .ret))
theorem b108 : Try.f108.body.map (comp 17) = some c108 := by kernel_rfl
theorem r108 : Try.f108.results.toList = [.tmp 4] := by kernel_rfl
-- 113 pith/pithref8.with
@[go_sem] def c113_0 : Cmd := .ops [⟨some 6, .assign (.const (.slice none 0 0)), 122, none⟩]
@[go_sem] def c113_1 : Cmd := .ops [⟨some 7, .assign (.const (.slice none 0 0)), 122, none⟩]
@[go_sem] def c113_2 : Cmd := .ops [⟨some 8, .assign (.const (.bool false)), 4, none⟩]
@[go_sem] def c113_3 : Cmd := .ops [⟨some 9, .assign (.const (.int .i64 0)), 3, none⟩]
@[go_sem] def c113_4 : Cmd := .ops [⟨some 10, .move (.tmp 9), 3, none⟩,
    ⟨some 11, .move (.tmp 0), 122, none⟩,
    ⟨some 12, .call { callee := (.builtin .len), args := #[(.tmp 11)], argTypes := #[122] }, 3, none⟩,
    ⟨some 13, .binOp .lss 3 (.tmp 10) (.tmp 12) 3, 4, none⟩]
@[go_sem] def c113_5 : Cmd := .cond (.tmp 13) .skip (.exit 0)
@[go_sem] def c113_6 : Cmd := .ops [⟨some 16, .move (.tmp 8), 4, none⟩,
    ⟨some 17, .unOp .not 4 (.tmp 16), 4, none⟩,
    ⟨some 18, .move (.tmp 17), 4, none⟩,
    ⟨some 19, .move (.tmp 1), 9, some (18, true)⟩,
    ⟨some 20, .move (.tmp 0), 122, some (18, true)⟩,
    ⟨some 21, .move (.tmp 9), 3, some (18, true)⟩,
    ⟨some 22, .indexAddr 122 (.tmp 20) (.tmp 21), 0, some (18, true)⟩,
    ⟨some 23, .fieldAddr 125 (.tmp 22) 0, 0, some (18, true)⟩,
    ⟨some 24, .load 9 (.tmp 23), 9, some (18, true)⟩,
    ⟨some 25, .binOp .leq 9 (.tmp 19) (.tmp 24) 9, 4, some (18, true)⟩,
    ⟨some 26, .pick (.tmp 18) (.tmp 25) (.const (.bool false)), 4, none⟩]
@[go_sem] def c113_7 : Cmd := .ops [⟨some 27, .move (.tmp 7), 122, none⟩,
    ⟨some 28, .move (.tmp 1), 9, none⟩,
    ⟨some 29, .move (.tmp 2), 3, none⟩,
    ⟨some 30, .build 125 #[(0, (.tmp 28)), (1, (.tmp 29))], 125, none⟩,
    ⟨some 31, .buildSlice 122 1 #[(0, (.tmp 30))], 122, none⟩,
    ⟨some 32, .call { callee := (.builtin .append), args := #[(.tmp 27), (.tmp 31)], argTypes := #[122, 122] }, 122, none⟩,
    ⟨some 7, .assign (.tmp 32), 122, none⟩]
@[go_sem] def c113_8 : Cmd := .ops [⟨some 8, .assign (.const (.bool true)), 4, none⟩]
@[go_sem] def c113_9 : Cmd := .cond (.tmp 26) (.seq c113_7 c113_8) .skip
@[go_sem] def c113_10 : Cmd := .ops [⟨some 33, .move (.tmp 0), 122, none⟩,
    ⟨some 34, .move (.tmp 9), 3, none⟩,
    ⟨some 35, .indexAddr 122 (.tmp 33) (.tmp 34), 0, none⟩,
    ⟨some 36, .fieldAddr 125 (.tmp 35) 0, 0, none⟩,
    ⟨some 37, .load 9 (.tmp 36), 9, none⟩,
    ⟨some 38, .move (.tmp 1), 9, none⟩,
    ⟨some 39, .binOp .neq 9 (.tmp 37) (.tmp 38) 9, 4, none⟩]
@[go_sem] def c113_11 : Cmd := .ops [⟨some 40, .move (.tmp 7), 122, none⟩,
    ⟨some 41, .move (.tmp 0), 122, none⟩,
    ⟨some 42, .move (.tmp 9), 3, none⟩,
    ⟨some 43, .indexAddr 122 (.tmp 41) (.tmp 42), 0, none⟩,
    ⟨some 44, .load 125 (.tmp 43), 125, none⟩,
    ⟨some 45, .buildSlice 122 1 #[(0, (.tmp 44))], 122, none⟩,
    ⟨some 46, .call { callee := (.builtin .append), args := #[(.tmp 40), (.tmp 45)], argTypes := #[122, 122] }, 122, none⟩,
    ⟨some 7, .assign (.tmp 46), 122, none⟩]
@[go_sem] def c113_12 : Cmd := .cond (.tmp 39) c113_11 .skip
@[go_sem] def c113_13 : Cmd := .block 1 (.seq (.seq c113_6 c113_9) (.seq c113_10 c113_12))
@[go_sem] def c113_14 : Cmd := .ops [⟨some 14, .move (.tmp 9), 3, none⟩,
    ⟨some 15, .binOp .add 3 (.tmp 14) (.const (.int .i64 1)) 3, 3, none⟩,
    ⟨some 9, .assign (.tmp 15), 3, none⟩]
def c113_L0 : Cmd := (.seq (.seq c113_4 c113_5) (.seq c113_13 c113_14))
@[go_sem] def c113_15 : Cmd := .loop c113_L0
@[go_sem] def c113_16 : Cmd := .block 0 c113_15
@[go_sem] def c113_17 : Cmd := .ops [⟨some 47, .move (.tmp 8), 4, none⟩,
    ⟨some 48, .unOp .not 4 (.tmp 47), 4, none⟩]
@[go_sem] def c113_18 : Cmd := .ops [⟨some 49, .move (.tmp 7), 122, none⟩,
    ⟨some 50, .move (.tmp 1), 9, none⟩,
    ⟨some 51, .move (.tmp 2), 3, none⟩,
    ⟨some 52, .build 125 #[(0, (.tmp 50)), (1, (.tmp 51))], 125, none⟩,
    ⟨some 53, .buildSlice 122 1 #[(0, (.tmp 52))], 122, none⟩,
    ⟨some 54, .call { callee := (.builtin .append), args := #[(.tmp 49), (.tmp 53)], argTypes := #[122, 122] }, 122, none⟩,
    ⟨some 7, .assign (.tmp 54), 122, none⟩]
@[go_sem] def c113_19 : Cmd := .cond (.tmp 48) c113_18 .skip
@[go_sem] def c113_20 : Cmd := .ops [⟨some 55, .move (.tmp 7), 122, none⟩,
    ⟨some 6, .assign (.tmp 55), 122, none⟩]
@[go_sem] def c113 : Cmd := (.seq c113_0 (.seq c113_1 (.seq c113_2 (.seq (.seq c113_3 c113_16) (.seq (.seq c113_17 c113_19) (.seq c113_20 .ret))))))
theorem b113 : Try.f113.body.map (comp 56) = some c113 := by kernel_rfl
theorem r113 : Try.f113.results.toList = [.tmp 6] := by kernel_rfl
-- 119 cmp.isNaN[string]
@[go_sem] def c119_0 : Cmd := .ops [⟨some 2, .assign (.const (.bool false)), 4, none⟩]
@[go_sem] def c119_1 : Cmd := .ops [⟨some 3, .move (.tmp 0), 9, none⟩,
    ⟨some 4, .move (.tmp 0), 9, none⟩,
    ⟨some 5, .binOp .neq 9 (.tmp 3) (.tmp 4) 9, 4, none⟩,
    ⟨some 2, .assign (.tmp 5), 4, none⟩]
@[go_sem] def c119 : Cmd := (.seq c119_0 (.seq c119_1 .ret))
theorem b119 : Try.f119.body.map (comp 6) = some c119 := by kernel_rfl
theorem r119 : Try.f119.results.toList = [.tmp 2] := by kernel_rfl
@[go_sem] theorem ty3 : tyOf Try.prog 3 = some ⟨(.int .i64), 1, 8, (.int .i64 0)⟩ := by kernel_rfl
@[go_sem] theorem ty4 : tyOf Try.prog 4 = some ⟨.bool, 1, 1, (.bool false)⟩ := by kernel_rfl
@[go_sem] theorem ty5 : tyOf Try.prog 5 = some ⟨(.int .u8), 1, 1, (.int .u8 0)⟩ := by kernel_rfl
@[go_sem] theorem ty9 : tyOf Try.prog 9 = some ⟨.str, 1, 16, (.string ⟨#[]⟩)⟩ := by kernel_rfl
@[go_sem] theorem ty20 : tyOf Try.prog 20 = some ⟨.iface, 1, 16, .nilIface⟩ := by kernel_rfl
@[go_sem] theorem ty22 : tyOf Try.prog 22 = some ⟨(.sl 30), 1, 24, (.slice none 0 0)⟩ := by kernel_rfl
@[go_sem] theorem ty24 : tyOf Try.prog 24 = some ⟨(.ptr 84), 1, 8, (.pointer none)⟩ := by kernel_rfl
@[go_sem] theorem ty26 : tyOf Try.prog 26 = some ⟨(.sl 44), 1, 24, (.slice none 0 0)⟩ := by kernel_rfl
@[go_sem] theorem ty30 : tyOf Try.prog 30 = some ⟨(.st [(0, 3), (1, 3), (2, 3), (3, 3), (4, 5)]), 5, 40, (.agg #[(.int .i64 0), (.int .i64 0), (.int .i64 0), (.int .i64 0), (.int .u8 0)])⟩ := by kernel_rfl
@[go_sem] theorem ty34 : tyOf Try.prog 34 = some ⟨(.sl 5), 1, 24, (.slice none 0 0)⟩ := by kernel_rfl
@[go_sem] theorem ty38 : tyOf Try.prog 38 = some ⟨(.int .u64), 1, 8, (.int .u64 0)⟩ := by kernel_rfl
@[go_sem] theorem ty39 : tyOf Try.prog 39 = some ⟨(.int .i64), 1, 8, (.int .i64 0)⟩ := by kernel_rfl
@[go_sem] theorem ty44 : tyOf Try.prog 44 = some ⟨(.st [(0, 9), (1, 34)]), 2, 40, (.agg #[(.string ⟨#[]⟩), (.slice none 0 0)])⟩ := by kernel_rfl
@[go_sem] theorem ty48 : tyOf Try.prog 48 = some ⟨(.ptr 100), 1, 8, (.pointer none)⟩ := by kernel_rfl
@[go_sem] theorem ty51 : tyOf Try.prog 51 = some ⟨(.st [(0, 24), (1, 48)]), 2, 16, (.agg #[(.pointer none), (.pointer none)])⟩ := by kernel_rfl
@[go_sem] theorem ty58 : tyOf Try.prog 58 = some ⟨(.sl 9), 1, 24, (.slice none 0 0)⟩ := by kernel_rfl
@[go_sem] theorem ty62 : tyOf Try.prog 62 = some ⟨(.sl 3), 1, 24, (.slice none 0 0)⟩ := by kernel_rfl
@[go_sem] theorem ty73 : tyOf Try.prog 73 = some ⟨(.sl 75), 1, 24, (.slice none 0 0)⟩ := by kernel_rfl
@[go_sem] theorem ty75 : tyOf Try.prog 75 = some ⟨(.st [(0, 3), (1, 3), (2, 3), (3, 9), (4, 9), (5, 34), (6, 62), (7, 4)]), 8, 112, (.agg #[(.int .i64 0), (.int .i64 0), (.int .i64 0), (.string ⟨#[]⟩), (.string ⟨#[]⟩), (.slice none 0 0), (.slice none 0 0), (.bool false)])⟩ := by kernel_rfl
@[go_sem] theorem ty80 : tyOf Try.prog 80 = some ⟨(.map 9 85), 1, 8, (.map none)⟩ := by kernel_rfl
@[go_sem] theorem ty81 : tyOf Try.prog 81 = some ⟨(.map 85 4), 1, 8, (.map none)⟩ := by kernel_rfl
@[go_sem] theorem ty82 : tyOf Try.prog 82 = some ⟨(.sl 119), 1, 24, (.slice none 0 0)⟩ := by kernel_rfl
@[go_sem] theorem ty84 : tyOf Try.prog 84 = some ⟨(.st [(0, 3), (1, 80), (2, 80), (3, 82), (4, 81), (5, 4), (6, 3), (7, 3)]), 8, 80, (.agg #[(.int .i64 0), (.map none), (.map none), (.slice none 0 0), (.map none), (.bool false), (.int .i64 0), (.int .i64 0)])⟩ := by kernel_rfl
@[go_sem] theorem ty85 : tyOf Try.prog 85 = some ⟨(.ptr 87), 1, 8, (.pointer none)⟩ := by kernel_rfl
@[go_sem] theorem ty87 : tyOf Try.prog 87 = some ⟨(.st [(0, 34), (1, 3)]), 2, 32, (.agg #[(.slice none 0 0), (.int .i64 0)])⟩ := by kernel_rfl
@[go_sem] theorem ty94 : tyOf Try.prog 94 = some ⟨.fn, 1, 8, .nilFunc⟩ := by kernel_rfl
@[go_sem] theorem ty96 : tyOf Try.prog 96 = some ⟨(.sl 122), 1, 24, (.slice none 0 0)⟩ := by kernel_rfl
@[go_sem] theorem ty97 : tyOf Try.prog 97 = some ⟨(.sl 129), 1, 24, (.slice none 0 0)⟩ := by kernel_rfl
@[go_sem] theorem ty98 : tyOf Try.prog 98 = some ⟨(.sl 139), 1, 24, (.slice none 0 0)⟩ := by kernel_rfl
@[go_sem] theorem ty100 : tyOf Try.prog 100 = some ⟨(.st [(0, 3), (1, 97), (2, 96), (3, 98), (4, 4), (5, 3), (6, 3)]), 7, 104, (.agg #[(.int .i64 0), (.slice none 0 0), (.slice none 0 0), (.slice none 0 0), (.bool false), (.int .i64 0), (.int .i64 0)])⟩ := by kernel_rfl
@[go_sem] theorem ty119 : tyOf Try.prog 119 = some ⟨.fn, 1, 8, .nilFunc⟩ := by kernel_rfl
@[go_sem] theorem ty122 : tyOf Try.prog 122 = some ⟨(.sl 125), 1, 24, (.slice none 0 0)⟩ := by kernel_rfl
@[go_sem] theorem ty125 : tyOf Try.prog 125 = some ⟨(.st [(0, 9), (1, 3)]), 2, 24, (.agg #[(.string ⟨#[]⟩), (.int .i64 0)])⟩ := by kernel_rfl
@[go_sem] theorem ty127 : tyOf Try.prog 127 = some ⟨(.sl 4), 1, 24, (.slice none 0 0)⟩ := by kernel_rfl
@[go_sem] theorem ty129 : tyOf Try.prog 129 = some ⟨(.st [(0, 34), (1, 3)]), 2, 32, (.agg #[(.slice none 0 0), (.int .i64 0)])⟩ := by kernel_rfl
@[go_sem] theorem ty139 : tyOf Try.prog 139 = some ⟨(.st [(0, 3), (1, 9)]), 2, 24, (.agg #[(.int .i64 0), (.string ⟨#[]⟩)])⟩ := by kernel_rfl
@[go_sem] theorem ty141 : tyOf Try.prog 141 = some ⟨(.int .i64), 1, 8, (.int .i64 0)⟩ := by kernel_rfl
@[go_sem] theorem ty150 : tyOf Try.prog 150 = some ⟨(.int .u32), 1, 4, (.int .u32 0)⟩ := by kernel_rfl
@[go_sem] theorem ty152 : tyOf Try.prog 152 = some ⟨(.int .u64), 1, 8, (.int .u64 0)⟩ := by kernel_rfl
@[go_sem] theorem ty154 : tyOf Try.prog 154 = some ⟨(.int .u64), 1, 8, (.int .u64 0)⟩ := by kernel_rfl
@[go_sem] theorem ty158 : tyOf Try.prog 158 = some ⟨(.ptr 3), 1, 8, (.pointer none)⟩ := by kernel_rfl
@[go_sem] theorem okc11 : (okCall Try.prog 11 = true) = True := eq_true (by kernel_rfl)
@[go_sem] theorem okc12 : (okCall Try.prog 12 = true) = True := eq_true (by kernel_rfl)
@[go_sem] theorem okc13 : (okCall Try.prog 13 = true) = True := eq_true (by kernel_rfl)
@[go_sem] theorem okc14 : (okCall Try.prog 14 = true) = True := eq_true (by kernel_rfl)
@[go_sem] theorem okc15 : (okCall Try.prog 15 = true) = True := eq_true (by kernel_rfl)
@[go_sem] theorem okc16 : (okCall Try.prog 16 = true) = True := eq_true (by kernel_rfl)
@[go_sem] theorem okc17 : (okCall Try.prog 17 = true) = True := eq_true (by kernel_rfl)
@[go_sem] theorem okc18 : (okCall Try.prog 18 = true) = True := eq_true (by kernel_rfl)
@[go_sem] theorem okc19 : (okCall Try.prog 19 = true) = True := eq_true (by kernel_rfl)
@[go_sem] theorem okc20 : (okCall Try.prog 20 = true) = True := eq_true (by kernel_rfl)
@[go_sem] theorem okc21 : (okCall Try.prog 21 = true) = True := eq_true (by kernel_rfl)
@[go_sem] theorem okc22 : (okCall Try.prog 22 = true) = True := eq_true (by kernel_rfl)
@[go_sem] theorem okc23 : (okCall Try.prog 23 = true) = True := eq_true (by kernel_rfl)
@[go_sem] theorem okc24 : (okCall Try.prog 24 = true) = True := eq_true (by kernel_rfl)
@[go_sem] theorem okc25 : (okCall Try.prog 25 = true) = True := eq_true (by kernel_rfl)
@[go_sem] theorem okc26 : (okCall Try.prog 26 = true) = True := eq_true (by kernel_rfl)
@[go_sem] theorem okc27 : (okCall Try.prog 27 = true) = True := eq_true (by kernel_rfl)
@[go_sem] theorem okc28 : (okCall Try.prog 28 = true) = True := eq_true (by kernel_rfl)
@[go_sem] theorem okc29 : (okCall Try.prog 29 = true) = True := eq_true (by kernel_rfl)
@[go_sem] theorem okc30 : (okCall Try.prog 30 = true) = True := eq_true (by kernel_rfl)
@[go_sem] theorem okc31 : (okCall Try.prog 31 = true) = True := eq_true (by kernel_rfl)
@[go_sem] theorem okc32 : (okCall Try.prog 32 = true) = True := eq_true (by kernel_rfl)
@[go_sem] theorem okc33 : (okCall Try.prog 33 = true) = True := eq_true (by kernel_rfl)
@[go_sem] theorem okc34 : (okCall Try.prog 34 = true) = True := eq_true (by kernel_rfl)
@[go_sem] theorem okc35 : (okCall Try.prog 35 = true) = True := eq_true (by kernel_rfl)
@[go_sem] theorem okc36 : (okCall Try.prog 36 = true) = True := eq_true (by kernel_rfl)
@[go_sem] theorem okc37 : (okCall Try.prog 37 = true) = True := eq_true (by kernel_rfl)
@[go_sem] theorem okc38 : (okCall Try.prog 38 = true) = True := eq_true (by kernel_rfl)
@[go_sem] theorem okc39 : (okCall Try.prog 39 = true) = True := eq_true (by kernel_rfl)
@[go_sem] theorem okc40 : (okCall Try.prog 40 = true) = True := eq_true (by kernel_rfl)
@[go_sem] theorem okc41 : (okCall Try.prog 41 = true) = True := eq_true (by kernel_rfl)
@[go_sem] theorem okc42 : (okCall Try.prog 42 = true) = True := eq_true (by kernel_rfl)
@[go_sem] theorem okc43 : (okCall Try.prog 43 = true) = True := eq_true (by kernel_rfl)
@[go_sem] theorem okc44 : (okCall Try.prog 44 = true) = True := eq_true (by kernel_rfl)
@[go_sem] theorem okc45 : (okCall Try.prog 45 = true) = True := eq_true (by kernel_rfl)
@[go_sem] theorem okc46 : (okCall Try.prog 46 = true) = True := eq_true (by kernel_rfl)
@[go_sem] theorem okc47 : (okCall Try.prog 47 = true) = True := eq_true (by kernel_rfl)
@[go_sem] theorem okc48 : (okCall Try.prog 48 = true) = True := eq_true (by kernel_rfl)
@[go_sem] theorem okc49 : (okCall Try.prog 49 = true) = True := eq_true (by kernel_rfl)
@[go_sem] theorem okc50 : (okCall Try.prog 50 = true) = True := eq_true (by kernel_rfl)
@[go_sem] theorem okc51 : (okCall Try.prog 51 = true) = True := eq_true (by kernel_rfl)
@[go_sem] theorem okc52 : (okCall Try.prog 52 = true) = True := eq_true (by kernel_rfl)
@[go_sem] theorem okc53 : (okCall Try.prog 53 = true) = True := eq_true (by kernel_rfl)
@[go_sem] theorem okc54 : (okCall Try.prog 54 = true) = True := eq_true (by kernel_rfl)
@[go_sem] theorem okc55 : (okCall Try.prog 55 = true) = True := eq_true (by kernel_rfl)
@[go_sem] theorem okc56 : (okCall Try.prog 56 = true) = True := eq_true (by kernel_rfl)
@[go_sem] theorem okc57 : (okCall Try.prog 57 = true) = True := eq_true (by kernel_rfl)
@[go_sem] theorem okc58 : (okCall Try.prog 58 = true) = True := eq_true (by kernel_rfl)
@[go_sem] theorem okc59 : (okCall Try.prog 59 = true) = True := eq_true (by kernel_rfl)
@[go_sem] theorem okc60 : (okCall Try.prog 60 = true) = True := eq_true (by kernel_rfl)
@[go_sem] theorem okc61 : (okCall Try.prog 61 = true) = True := eq_true (by kernel_rfl)
@[go_sem] theorem okc62 : (okCall Try.prog 62 = true) = True := eq_true (by kernel_rfl)
@[go_sem] theorem okc63 : (okCall Try.prog 63 = true) = True := eq_true (by kernel_rfl)
@[go_sem] theorem okc64 : (okCall Try.prog 64 = true) = True := eq_true (by kernel_rfl)
@[go_sem] theorem okc65 : (okCall Try.prog 65 = true) = True := eq_true (by kernel_rfl)
@[go_sem] theorem okc66 : (okCall Try.prog 66 = true) = True := eq_true (by kernel_rfl)
@[go_sem] theorem okc67 : (okCall Try.prog 67 = true) = True := eq_true (by kernel_rfl)
@[go_sem] theorem okc68 : (okCall Try.prog 68 = true) = True := eq_true (by kernel_rfl)
@[go_sem] theorem okc69 : (okCall Try.prog 69 = true) = True := eq_true (by kernel_rfl)
@[go_sem] theorem okc70 : (okCall Try.prog 70 = true) = True := eq_true (by kernel_rfl)
@[go_sem] theorem okc71 : (okCall Try.prog 71 = true) = True := eq_true (by kernel_rfl)
@[go_sem] theorem okc72 : (okCall Try.prog 72 = true) = True := eq_true (by kernel_rfl)
@[go_sem] theorem okc73 : (okCall Try.prog 73 = true) = True := eq_true (by kernel_rfl)
@[go_sem] theorem okc74 : (okCall Try.prog 74 = true) = True := eq_true (by kernel_rfl)
@[go_sem] theorem okc75 : (okCall Try.prog 75 = true) = True := eq_true (by kernel_rfl)
@[go_sem] theorem okc76 : (okCall Try.prog 76 = true) = True := eq_true (by kernel_rfl)
@[go_sem] theorem okc77 : (okCall Try.prog 77 = true) = True := eq_true (by kernel_rfl)
@[go_sem] theorem okc78 : (okCall Try.prog 78 = true) = True := eq_true (by kernel_rfl)
@[go_sem] theorem okc79 : (okCall Try.prog 79 = true) = True := eq_true (by kernel_rfl)
@[go_sem] theorem okc80 : (okCall Try.prog 80 = true) = True := eq_true (by kernel_rfl)
@[go_sem] theorem okc81 : (okCall Try.prog 81 = true) = True := eq_true (by kernel_rfl)
@[go_sem] theorem okc82 : (okCall Try.prog 82 = true) = True := eq_true (by kernel_rfl)
@[go_sem] theorem okc83 : (okCall Try.prog 83 = true) = True := eq_true (by kernel_rfl)
@[go_sem] theorem okc84 : (okCall Try.prog 84 = true) = True := eq_true (by kernel_rfl)
@[go_sem] theorem okc85 : (okCall Try.prog 85 = true) = True := eq_true (by kernel_rfl)
@[go_sem] theorem okc86 : (okCall Try.prog 86 = true) = True := eq_true (by kernel_rfl)
@[go_sem] theorem okc87 : (okCall Try.prog 87 = true) = True := eq_true (by kernel_rfl)
@[go_sem] theorem okc88 : (okCall Try.prog 88 = true) = True := eq_true (by kernel_rfl)
@[go_sem] theorem okc89 : (okCall Try.prog 89 = true) = True := eq_true (by kernel_rfl)
@[go_sem] theorem okc90 : (okCall Try.prog 90 = true) = True := eq_true (by kernel_rfl)
@[go_sem] theorem okc91 : (okCall Try.prog 91 = true) = True := eq_true (by kernel_rfl)
@[go_sem] theorem okc92 : (okCall Try.prog 92 = true) = True := eq_true (by kernel_rfl)
@[go_sem] theorem okc93 : (okCall Try.prog 93 = true) = True := eq_true (by kernel_rfl)
@[go_sem] theorem okc94 : (okCall Try.prog 94 = true) = True := eq_true (by kernel_rfl)
@[go_sem] theorem okc95 : (okCall Try.prog 95 = true) = True := eq_true (by kernel_rfl)
@[go_sem] theorem okc96 : (okCall Try.prog 96 = true) = True := eq_true (by kernel_rfl)
@[go_sem] theorem okc98 : (okCall Try.prog 98 = true) = True := eq_true (by kernel_rfl)
@[go_sem] theorem okc99 : (okCall Try.prog 99 = true) = True := eq_true (by kernel_rfl)
@[go_sem] theorem okc100 : (okCall Try.prog 100 = true) = True := eq_true (by kernel_rfl)
@[go_sem] theorem okc101 : (okCall Try.prog 101 = true) = True := eq_true (by kernel_rfl)
@[go_sem] theorem okc102 : (okCall Try.prog 102 = true) = True := eq_true (by kernel_rfl)
@[go_sem] theorem okc103 : (okCall Try.prog 103 = true) = True := eq_true (by kernel_rfl)
@[go_sem] theorem okc104 : (okCall Try.prog 104 = true) = True := eq_true (by kernel_rfl)
@[go_sem] theorem okc105 : (okCall Try.prog 105 = true) = True := eq_true (by kernel_rfl)
@[go_sem] theorem okc106 : (okCall Try.prog 106 = true) = True := eq_true (by kernel_rfl)
@[go_sem] theorem okc107 : (okCall Try.prog 107 = true) = True := eq_true (by kernel_rfl)
@[go_sem] theorem okc108 : (okCall Try.prog 108 = true) = True := eq_true (by kernel_rfl)
@[go_sem] theorem okc109 : (okCall Try.prog 109 = true) = True := eq_true (by kernel_rfl)
@[go_sem] theorem okc110 : (okCall Try.prog 110 = true) = True := eq_true (by kernel_rfl)
@[go_sem] theorem okc111 : (okCall Try.prog 111 = true) = True := eq_true (by kernel_rfl)
@[go_sem] theorem okc112 : (okCall Try.prog 112 = true) = True := eq_true (by kernel_rfl)
@[go_sem] theorem okc113 : (okCall Try.prog 113 = true) = True := eq_true (by kernel_rfl)
@[go_sem] theorem okc114 : (okCall Try.prog 114 = true) = True := eq_true (by kernel_rfl)
@[go_sem] theorem okc115 : (okCall Try.prog 115 = true) = True := eq_true (by kernel_rfl)
@[go_sem] theorem okc116 : (okCall Try.prog 116 = true) = True := eq_true (by kernel_rfl)
@[go_sem] theorem okc117 : (okCall Try.prog 117 = true) = True := eq_true (by kernel_rfl)
@[go_sem] theorem okc118 : (okCall Try.prog 118 = true) = True := eq_true (by kernel_rfl)
@[go_sem] theorem okc119 : (okCall Try.prog 119 = true) = True := eq_true (by kernel_rfl)
@[go_sem] theorem okc120 : (okCall Try.prog 120 = true) = True := eq_true (by kernel_rfl)
end Go.Proofs.Ytmkheogjnlmkdaa
