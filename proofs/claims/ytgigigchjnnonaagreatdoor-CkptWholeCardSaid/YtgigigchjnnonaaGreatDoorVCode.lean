/- The functions' code as commands; printed by wip/Gen.lean off the translation. -/
import Derived.Test.YtgigigchjnnonaaGreatDoorProg
import Derived.Test.YtgigigchjnnonaaGreatDoorVBase
import Derived.KernelRfl
set_option maxRecDepth 100000
set_option linter.unusedSimpArgs false
namespace Go.Proofs.YtgigigchjnnonaaGreatDoor
open Go Go.V
theorem mixed : Tryz.prog.follows .mixedOrders = true := by kernel_rfl
@[go_sem] def c6_0 : Cmd := .ops [⟨some 0, .assign (.const (.bool false)), 4, none⟩]
@[go_sem] def c6_1 : Cmd := .ops [⟨some 9, .buildSlice 22 3 #[(0, (.const (.int .i64 3))), (1, (.const (.int .i64 0))), (2, (.const (.int .i64 300)))], 22, none⟩,
    ⟨some 10, .buildSlice 23 2 #[(0, (.const (.bool true))), (1, (.const (.bool false)))], 23, none⟩,
    ⟨some 11, .build 28 #[(0, (.const (.int .i64 2))), (1, (.tmp 9)), (2, (.tmp 10))], 28, none⟩,
    ⟨some 12, .call { callee := (.value (.func 11)), args := #[(.const (.int .i64 7)), (.tmp 11)], argTypes := #[3, 28] }, 55, none⟩,
    ⟨some 8, .move (.tmp 12), 55, none⟩,
    ⟨some 13, .extract (.tmp 8) 0, 53, none⟩,
    ⟨some 14, .extract (.tmp 8) 1, 32, none⟩,
    ⟨some 15, .extract (.tmp 8) 2, 54, none⟩,
    ⟨some 1, .assign (.tmp 13), 53, none⟩,
    ⟨some 2, .assign (.tmp 14), 32, none⟩,
    ⟨some 3, .assign (.tmp 15), 54, none⟩]
@[go_sem] def c6_2 : Cmd := .ops [⟨some 16, .move (.tmp 1), 53, none⟩,
    ⟨some 17, .buildSlice 53 16 #[(0, (.const (.int .u8 0))), (1, (.const (.int .u8 0))), (2, (.const (.int .u8 0))), (3, (.const (.int .u8 7))), (4, (.const (.int .u8 0))), (5, (.const (.int .u8 0))), (6, (.const (.int .u8 0))), (7, (.const (.int .u8 2))), (8, (.const (.int .u8 0))), (9, (.const (.int .u8 0))), (10, (.const (.int .u8 0))), (11, (.const (.int .u8 3))), (12, (.const (.int .u8 0))), (13, (.const (.int .u8 0))), (14, (.const (.int .u8 0))), (15, (.const (.int .u8 2)))], 53, none⟩,
    ⟨some 18, .call { callee := (.value (.func 14)), args := #[(.tmp 16), (.tmp 17)], argTypes := #[53, 53] }, 4, none⟩,
    ⟨some 4, .assign (.tmp 18), 4, none⟩]
@[go_sem] def c6_3 : Cmd := .ops [⟨some 19, .move (.tmp 2), 32, none⟩,
    ⟨some 20, .buildSlice 53 4 #[(0, (.const (.int .u8 3))), (1, (.const (.int .u8 0))), (2, (.const (.int .u8 130))), (3, (.const (.int .u8 44)))], 53, none⟩,
    ⟨some 21, .buildSlice 53 2 #[(0, (.const (.int .u8 1))), (1, (.const (.int .u8 0)))], 53, none⟩,
    ⟨some 22, .buildSlice 32 2 #[(0, (.tmp 20)), (1, (.tmp 21))], 32, none⟩,
    ⟨some 23, .call { callee := (.value (.func 15)), args := #[(.tmp 19), (.tmp 22)], argTypes := #[32, 32] }, 4, none⟩,
    ⟨some 5, .assign (.tmp 23), 4, none⟩]
@[go_sem] def c6_4 : Cmd := .ops [⟨some 25, .move (.tmp 1), 53, none⟩,
    ⟨some 26, .move (.tmp 2), 32, none⟩,
    ⟨some 27, .call { callee := (.value (.func 17)), args := #[(.const (.int .i64 8)), (.tmp 25), (.tmp 26)], argTypes := #[3, 53, 32] }, 63, none⟩,
    ⟨some 24, .move (.tmp 27), 63, none⟩,
    ⟨some 28, .extract (.tmp 24) 0, 28, none⟩,
    ⟨some 29, .extract (.tmp 24) 1, 54, none⟩,
    ⟨some 6, .alloc 28, 0, none⟩,
    ⟨none, .store 28 (.tmp 6) (.tmp 28), 0, none⟩,
    ⟨some 7, .assign (.tmp 29), 54, none⟩]
@[go_sem] def c6_5 : Cmd := .ops [⟨some 30, .move (.tmp 3), 54, none⟩,
    ⟨some 31, .call { callee := (.value (.func 16)), args := #[(.tmp 30)], argTypes := #[54] }, 3, none⟩,
    ⟨some 32, .binOp .eql 3 (.tmp 31) (.const (.int .i64 0)) 3, 4, none⟩,
    ⟨some 33, .move (.tmp 32), 4, none⟩,
    ⟨some 34, .move (.tmp 4), 4, some (33, true)⟩,
    ⟨some 35, .pick (.tmp 33) (.tmp 34) (.const (.bool false)), 4, none⟩,
    ⟨some 36, .move (.tmp 35), 4, none⟩,
    ⟨some 37, .move (.tmp 5), 4, some (36, true)⟩,
    ⟨some 38, .pick (.tmp 36) (.tmp 37) (.const (.bool false)), 4, none⟩,
    ⟨some 39, .move (.tmp 38), 4, none⟩,
    ⟨some 40, .move (.tmp 7), 54, some (39, true)⟩,
    ⟨some 41, .call { callee := (.value (.func 16)), args := #[(.tmp 40)], argTypes := #[54] }, 3, some (39, true)⟩,
    ⟨some 42, .binOp .eql 3 (.tmp 41) (.const (.int .i64 90)) 3, 4, some (39, true)⟩,
    ⟨some 43, .pick (.tmp 39) (.tmp 42) (.const (.bool false)), 4, none⟩,
    ⟨some 44, .move (.tmp 43), 4, none⟩,
    ⟨some 45, .call { callee := (.value (.func 30)), args := #[(.const (.int .i64 7))], argTypes := #[3] }, 9, some (44, true)⟩,
    ⟨some 46, .binOp .eql 9 (.tmp 45) (.const (.string ⟨#[99, 107, 112, 116, 46, 55]⟩)) 9, 4, some (44, true)⟩,
    ⟨some 47, .pick (.tmp 44) (.tmp 46) (.const (.bool false)), 4, none⟩,
    ⟨some 0, .assign (.tmp 47), 4, none⟩]
@[go_sem] def c6 : Cmd := (.seq c6_0 (.seq c6_1 (.seq c6_2 (.seq c6_3 (.seq c6_4 (.seq c6_5 .ret))))))
theorem b6 : Tryz.f6.body.map (comp 48) = some c6 := by kernel_rfl
theorem r6 : Tryz.f6.results.toList = [.tmp 0] := by kernel_rfl
@[go_sem] def c7_0 : Cmd := .ops [⟨some 2, .assign (.const (.pointer none)), 25, none⟩]
@[go_sem] def c7_1 : Cmd := .ops [⟨some 3, .move (.tmp 0), 3, none⟩,
    ⟨some 4, .binOp .lss 3 (.tmp 3) (.const (.int .i64 0)) 3, 4, none⟩,
    ⟨some 5, .move (.tmp 4), 4, none⟩,
    ⟨some 6, .move (.tmp 0), 3, some (5, false)⟩,
    ⟨some 7, .binOp .gtr 3 (.tmp 6) (.const (.int .i64 2147483647)) 3, 4, some (5, false)⟩,
    ⟨some 8, .pick (.tmp 5) (.const (.bool true)) (.tmp 7), 4, none⟩]
@[go_sem] def c7_2 : Cmd := .ops [⟨some 2, .assign (.const (.pointer none)), 25, none⟩]
@[go_sem] def c7_3 : Cmd := .cond (.tmp 8) (.seq c7_2 .ret) .skip
@[go_sem] def c7_4 : Cmd := .ops [⟨some 9, .move (.tmp 0), 3, none⟩,
    ⟨some 10, .makeMap 85 none, 85, none⟩,
    ⟨some 11, .makeMap 85 none, 85, none⟩,
    ⟨some 12, .makeMap 86 none, 86, none⟩,
    ⟨some 13, .build 89 #[(0, (.tmp 9)), (1, (.tmp 10)), (2, (.tmp 11)), (4, (.tmp 12))], 89, none⟩,
    ⟨some 14, .box 89 (.tmp 13), 25, none⟩,
    ⟨some 2, .assign (.tmp 14), 25, none⟩]
@[go_sem] def c7 : Cmd := (.seq c7_0 (.seq (.seq c7_1 c7_3) (.seq c7_4 .ret)))
theorem b7 : Tryz.f7.body.map (comp 15) = some c7 := by kernel_rfl
theorem r7 : Tryz.f7.results.toList = [.tmp 2] := by kernel_rfl
@[go_sem] def c8_0 : Cmd := .ops [⟨some 6, .alloc 28, 0, none⟩,
    ⟨some 7, .assign (.const (.slice none 0 0)), 22, none⟩]
@[go_sem] def c8_1 : Cmd := .ops [⟨some 8, .alloc 28, 0, none⟩]
@[go_sem] def c8_2 : Cmd := .ops [⟨some 9, .assign (.const (.slice none 0 0)), 22, none⟩]
@[go_sem] def c8_3 : Cmd := .ops [⟨some 10, .assign (.const (.int .i64 0)), 3, none⟩]
@[go_sem] def c8_4 : Cmd := .ops [⟨some 13, .move (.tmp 10), 3, none⟩,
    ⟨some 14, .move (.tmp 0), 22, none⟩,
    ⟨some 15, .call { callee := (.builtin .len), args := #[(.tmp 14)], argTypes := #[22] }, 3, none⟩,
    ⟨some 16, .binOp .lss 3 (.tmp 13) (.tmp 15) 3, 4, none⟩,
    ⟨some 17, .move (.tmp 16), 4, none⟩,
    ⟨some 18, .move (.tmp 10), 3, some (17, true)⟩,
    ⟨some 19, .binOp .lss 3 (.tmp 18) (.const (.int .i64 5000)) 3, 4, some (17, true)⟩,
    ⟨some 20, .pick (.tmp 17) (.tmp 19) (.const (.bool false)), 4, none⟩]
@[go_sem] def c8_5 : Cmd := .cond (.tmp 20) .skip (.exit 0)
@[go_sem] def c8_6 : Cmd := .ops [⟨some 23, .move (.tmp 0), 22, none⟩,
    ⟨some 24, .move (.tmp 10), 3, none⟩,
    ⟨some 25, .indexAddr 22 (.tmp 23) (.tmp 24), 0, none⟩,
    ⟨some 26, .load 3 (.tmp 25), 3, none⟩,
    ⟨some 27, .binOp .and 3 (.tmp 26) (.const (.int .i64 16777215)) 3, 3, none⟩,
    ⟨some 11, .assign (.tmp 27), 3, none⟩]
@[go_sem] def c8_7 : Cmd := .ops [⟨some 28, .fieldAddr 28 (.tmp 8) 1, 0, none⟩,
    ⟨some 29, .load 22 (.tmp 28), 22, none⟩,
    ⟨some 30, .move (.tmp 11), 3, none⟩,
    ⟨some 31, .buildSlice 22 1 #[(0, (.tmp 30))], 22, none⟩,
    ⟨some 32, .call { callee := (.builtin .append), args := #[(.tmp 29), (.tmp 31)], argTypes := #[22, 22] }, 22, none⟩,
    ⟨some 33, .fieldAddr 28 (.tmp 8) 1, 0, none⟩,
    ⟨none, .store 22 (.tmp 33) (.tmp 32), 0, none⟩]
@[go_sem] def c8_8 : Cmd := .ops [⟨some 34, .move (.tmp 10), 3, none⟩,
    ⟨some 35, .move (.tmp 2), 22, none⟩,
    ⟨some 36, .call { callee := (.builtin .len), args := #[(.tmp 35)], argTypes := #[22] }, 3, none⟩,
    ⟨some 37, .binOp .lss 3 (.tmp 34) (.tmp 36) 3, 4, none⟩]
@[go_sem] def c8_9 : Cmd := .ops [⟨some 38, .move (.tmp 11), 3, none⟩,
    ⟨some 39, .move (.tmp 2), 22, none⟩,
    ⟨some 40, .move (.tmp 10), 3, none⟩,
    ⟨some 41, .indexAddr 22 (.tmp 39) (.tmp 40), 0, none⟩,
    ⟨some 42, .load 3 (.tmp 41), 3, none⟩,
    ⟨some 43, .binOp .and 3 (.tmp 42) (.const (.int .i64 7)) 3, 3, none⟩,
    ⟨some 44, .binOp .add 3 (.tmp 38) (.tmp 43) 3, 3, none⟩,
    ⟨some 45, .call { callee := (.builtin .min), args := #[(.tmp 44), (.const (.int .i64 16777215))], argTypes := #[3, 3] }, 3, none⟩,
    ⟨some 11, .assign (.tmp 45), 3, none⟩]
@[go_sem] def c8_10 : Cmd := .cond (.tmp 37) c8_9 .skip
@[go_sem] def c8_11 : Cmd := .ops [⟨some 46, .move (.tmp 9), 22, none⟩,
    ⟨some 47, .move (.tmp 11), 3, none⟩,
    ⟨some 48, .buildSlice 22 1 #[(0, (.tmp 47))], 22, none⟩,
    ⟨some 49, .call { callee := (.builtin .append), args := #[(.tmp 46), (.tmp 48)], argTypes := #[22, 22] }, 22, none⟩,
    ⟨some 9, .assign (.tmp 49), 22, none⟩]
@[go_sem] def c8_12 : Cmd := .block 1 (.seq c8_6 (.seq c8_7 (.seq (.seq c8_8 c8_10) c8_11)))
@[go_sem] def c8_13 : Cmd := .ops [⟨some 21, .move (.tmp 10), 3, none⟩,
    ⟨some 22, .binOp .add 3 (.tmp 21) (.const (.int .i64 1)) 3, 3, none⟩,
    ⟨some 10, .assign (.tmp 22), 3, none⟩]
def c8_L0 : Cmd := (.seq (.seq c8_4 c8_5) (.seq c8_12 c8_13))
@[go_sem] def c8_14 : Cmd := .loop c8_L0
@[go_sem] def c8_15 : Cmd := .block 0 c8_14
@[go_sem] def c8_16 : Cmd := .ops [⟨some 12, .assign (.const (.int .i64 0)), 3, none⟩]
@[go_sem] def c8_17 : Cmd := .ops [⟨some 50, .move (.tmp 12), 3, none⟩,
    ⟨some 51, .move (.tmp 1), 23, none⟩,
    ⟨some 52, .call { callee := (.builtin .len), args := #[(.tmp 51)], argTypes := #[23] }, 3, none⟩,
    ⟨some 53, .binOp .lss 3 (.tmp 50) (.tmp 52) 3, 4, none⟩,
    ⟨some 54, .move (.tmp 53), 4, none⟩,
    ⟨some 55, .move (.tmp 12), 3, some (54, true)⟩,
    ⟨some 56, .binOp .lss 3 (.tmp 55) (.const (.int .i64 1000)) 3, 4, some (54, true)⟩,
    ⟨some 57, .pick (.tmp 54) (.tmp 56) (.const (.bool false)), 4, none⟩]
@[go_sem] def c8_18 : Cmd := .cond (.tmp 57) .skip (.exit 2)
@[go_sem] def c8_19 : Cmd := .draw (.step 3 ⟨some 60, .fieldAddr 28 (.tmp 8) 2, 0, none⟩
    (.step 0 ⟨some 61, .load 23 (.tmp 60), 23, none⟩
    (.step 3 ⟨some 62, .move (.tmp 1), 23, none⟩
    (.step 3 ⟨some 63, .move (.tmp 12), 3, none⟩
    (.step 3 ⟨some 64, .indexAddr 23 (.tmp 62) (.tmp 63), 0, none⟩
    (.step 0 ⟨some 65, .load 4 (.tmp 64), 4, none⟩
    (.step 1 ⟨some 66, .buildSlice 23 1 #[(0, (.tmp 65))], 23, none⟩
    (.step 2 ⟨some 67, .call { callee := (.builtin .append), args := #[(.tmp 61), (.tmp 66)], argTypes := #[23, 23] }, 23, none⟩
    (.step 3 ⟨some 68, .fieldAddr 28 (.tmp 8) 2, 0, none⟩
    (.step 2 ⟨none, .store 23 (.tmp 68) (.tmp 67), 0, none⟩
    .done))))))))))
@[go_sem] def c8_20 : Cmd := .block 3 c8_19
@[go_sem] def c8_21 : Cmd := .ops [⟨some 58, .move (.tmp 12), 3, none⟩,
    ⟨some 59, .binOp .add 3 (.tmp 58) (.const (.int .i64 1)) 3, 3, none⟩,
    ⟨some 12, .assign (.tmp 59), 3, none⟩]
def c8_L1 : Cmd := (.seq (.seq c8_17 c8_18) (.seq c8_20 c8_21))
@[go_sem] def c8_22 : Cmd := .loop c8_L1
@[go_sem] def c8_23 : Cmd := .block 2 c8_22
@[go_sem] def c8_24 : Cmd := .ops [⟨some 69, .move (.tmp 2), 22, none⟩,
    ⟨some 70, .call { callee := (.builtin .len), args := #[(.tmp 69)], argTypes := #[22] }, 3, none⟩,
    ⟨some 71, .fieldAddr 28 (.tmp 8) 0, 0, none⟩,
    ⟨none, .store 3 (.tmp 71) (.tmp 70), 0, none⟩]
@[go_sem] def c8_25 : Cmd := .ops [⟨some 72, .load 28 (.tmp 8), 28, none⟩,
    ⟨some 73, .move (.tmp 9), 22, none⟩,
    ⟨none, .store 28 (.tmp 6) (.tmp 72), 0, none⟩,
    ⟨some 7, .assign (.tmp 73), 22, none⟩]
@[go_sem] def c8 : Cmd := (.seq c8_0 (.seq c8_1 (.seq c8_2 (.seq (.seq c8_3 c8_15) (.seq (.seq c8_16 c8_23) (.seq c8_24 (.seq c8_25 .ret)))))))
theorem b8 : Tryz.f8.body.map (comp 74) = some c8 := by kernel_rfl
theorem r8 : Tryz.f8.results.toList = [.cell 6 28, .tmp 7] := by kernel_rfl
@[go_sem] def c9_0 : Cmd := .ops [⟨some 2, .assign (.const (.slice none 0 0)), 22, none⟩]
@[go_sem] def c9_1 : Cmd := .ops [⟨some 5, .move (.tmp 0), 22, none⟩,
    ⟨some 6, .call { callee := (.builtin .len), args := #[(.tmp 5)], argTypes := #[22] }, 3, none⟩,
    ⟨some 7, .makeSlice 22 (.const (.int .i64 0)) (.tmp 6), 22, none⟩,
    ⟨some 3, .assign (.tmp 7), 22, none⟩]
@[go_sem] def c9_2 : Cmd := .ops [⟨some 4, .assign (.const (.int .i64 0)), 3, none⟩]
@[go_sem] def c9_3 : Cmd := .ops [⟨some 8, .move (.tmp 4), 3, none⟩,
    ⟨some 9, .move (.tmp 0), 22, none⟩,
    ⟨some 10, .call { callee := (.builtin .len), args := #[(.tmp 9)], argTypes := #[22] }, 3, none⟩,
    ⟨some 11, .binOp .lss 3 (.tmp 8) (.tmp 10) 3, 4, none⟩]
@[go_sem] def c9_4 : Cmd := .cond (.tmp 11) .skip (.exit 0)
@[go_sem] def c9_5 : Cmd := .ops [⟨some 14, .move (.tmp 3), 22, none⟩,
    ⟨some 15, .move (.tmp 0), 22, none⟩,
    ⟨some 16, .move (.tmp 4), 3, none⟩,
    ⟨some 17, .indexAddr 22 (.tmp 15) (.tmp 16), 0, none⟩,
    ⟨some 18, .load 3 (.tmp 17), 3, none⟩,
    ⟨some 19, .buildSlice 22 1 #[(0, (.tmp 18))], 22, none⟩,
    ⟨some 20, .call { callee := (.builtin .append), args := #[(.tmp 14), (.tmp 19)], argTypes := #[22, 22] }, 22, none⟩,
    ⟨some 3, .assign (.tmp 20), 22, none⟩]
@[go_sem] def c9_6 : Cmd := .block 1 c9_5
@[go_sem] def c9_7 : Cmd := .ops [⟨some 12, .move (.tmp 4), 3, none⟩,
    ⟨some 13, .binOp .add 3 (.tmp 12) (.const (.int .i64 1)) 3, 3, none⟩,
    ⟨some 4, .assign (.tmp 13), 3, none⟩]
def c9_L0 : Cmd := (.seq (.seq c9_3 c9_4) (.seq c9_6 c9_7))
@[go_sem] def c9_8 : Cmd := .loop c9_L0
@[go_sem] def c9_9 : Cmd := .block 0 c9_8
@[go_sem] def c9_10 : Cmd := .ops [⟨some 21, .move (.tmp 3), 22, none⟩,
    ⟨some 2, .assign (.tmp 21), 22, none⟩]
@[go_sem] def c9 : Cmd := (.seq c9_0 (.seq c9_1 (.seq (.seq c9_2 c9_9) (.seq c9_10 .ret))))
theorem b9 : Tryz.f9.body.map (comp 22) = some c9 := by kernel_rfl
theorem r9 : Tryz.f9.results.toList = [.tmp 2] := by kernel_rfl
@[go_sem] def c11_0 : Cmd := .ops [⟨some 3, .box 28 (.tmp 1), 0, none⟩,
    ⟨some 4, .assign (.const (.slice none 0 0)), 53, none⟩,
    ⟨some 5, .assign (.const (.slice none 0 0)), 32, none⟩,
    ⟨some 6, .assign (.const (.int .i64 0)), 54, none⟩]
@[go_sem] def c11_1 : Cmd := .ops [⟨some 17, .move (.tmp 0), 3, none⟩,
    ⟨some 18, .load 28 (.tmp 3), 28, none⟩,
    ⟨some 19, .call { callee := (.value (.func 31)), args := #[(.tmp 17), (.tmp 18)], argTypes := #[3, 28] }, 4, none⟩,
    ⟨some 20, .unOp .not 4 (.tmp 19), 4, none⟩]
@[go_sem] def c11_2 : Cmd := .ops [⟨some 4, .assign (.const (.slice none 0 0)), 53, none⟩,
    ⟨some 5, .assign (.const (.slice none 0 0)), 32, none⟩,
    ⟨some 6, .assign (.const (.int .i64 180)), 54, none⟩]
@[go_sem] def c11_3 : Cmd := .cond (.tmp 20) (.seq c11_2 .ret) .skip
@[go_sem] def c11_4 : Cmd := .ops [⟨some 7, .assign (.const (.slice none 0 0)), 32, none⟩]
@[go_sem] def c11_5 : Cmd := .ops [⟨some 21, .fieldAddr 28 (.tmp 3) 1, 0, none⟩,
    ⟨some 22, .load 22 (.tmp 21), 22, none⟩,
    ⟨some 8, .assign (.tmp 22), 22, none⟩]
@[go_sem] def c11_6 : Cmd := .ops [⟨some 23, .move (.tmp 8), 22, none⟩,
    ⟨some 24, .call { callee := (.builtin .len), args := #[(.tmp 23)], argTypes := #[22] }, 3, none⟩,
    ⟨some 25, .binOp .gtr 3 (.tmp 24) (.const (.int .i64 0)) 3, 4, none⟩]
@[go_sem] def c11_7 : Cmd := .cond (.tmp 25) .skip (.exit 0)
@[go_sem] def c11_8 : Cmd := .ops [⟨some 26, .move (.tmp 8), 22, none⟩,
    ⟨some 27, .call { callee := (.builtin .len), args := #[(.tmp 26)], argTypes := #[22] }, 3, none⟩,
    ⟨some 28, .call { callee := (.builtin .min), args := #[(.tmp 27), (.const (.int .i64 200))], argTypes := #[3, 3] }, 3, none⟩,
    ⟨some 9, .assign (.tmp 28), 3, none⟩]
@[go_sem] def c11_9 : Cmd := .ops [⟨some 29, .move (.tmp 8), 22, none⟩,
    ⟨some 30, .move (.tmp 9), 3, none⟩,
    ⟨some 31, .move (.tmp 9), 3, none⟩,
    ⟨some 32, .slice 22 (.tmp 29) none (some (.tmp 30)) (some (.tmp 31)), 22, none⟩,
    ⟨some 10, .assign (.tmp 32), 22, none⟩]
@[go_sem] def c11_10 : Cmd := .ops [⟨some 33, .move (.tmp 8), 22, none⟩,
    ⟨some 34, .move (.tmp 9), 3, none⟩,
    ⟨some 35, .slice 22 (.tmp 33) (some (.tmp 34)) none none, 22, none⟩,
    ⟨some 8, .assign (.tmp 35), 22, none⟩]
@[go_sem] def c11_11 : Cmd := .ops [⟨some 11, .assign (.const (.slice none 0 0)), 53, none⟩]
@[go_sem] def c11_12 : Cmd := .ops [⟨some 36, .move (.tmp 10), 22, none⟩,
    ⟨some 37, .call { callee := (.builtin .len), args := #[(.tmp 36)], argTypes := #[22] }, 3, none⟩,
    ⟨some 38, .move (.const (.int .i64 0)), 3, none⟩]
@[go_sem] def c11_13 : Cmd := .ops [⟨some 39, .binOp .lss 3 (.tmp 38) (.tmp 37) 3, 0, none⟩]
@[go_sem] def c11_14 : Cmd := .cond (.tmp 39) .skip (.exit 2)
@[go_sem] def c11_15 : Cmd := .ops [⟨some 40, .indexAddr 22 (.tmp 36) (.tmp 38), 0, none⟩,
    ⟨some 41, .load 3 (.tmp 40), 3, none⟩,
    ⟨some 13, .assign (.tmp 41), 3, none⟩]
@[go_sem] def c11_16 : Cmd := .ops [⟨some 42, .move (.tmp 11), 53, none⟩,
    ⟨some 43, .move (.tmp 13), 3, none⟩,
    ⟨some 44, .call { callee := (.value (.func 32)), args := #[(.const (.slice none 0 0)), (.tmp 43)], argTypes := #[53, 3] }, 53, none⟩,
    ⟨some 45, .call { callee := (.builtin .append), args := #[(.tmp 42), (.tmp 44)], argTypes := #[53, 53] }, 53, none⟩,
    ⟨some 11, .assign (.tmp 45), 53, none⟩]
@[go_sem] def c11_17 : Cmd := .block 3 (.seq c11_15 c11_16)
@[go_sem] def c11_18 : Cmd := .ops [⟨some 46, .binOp .add 3 (.tmp 38) (.const (.int .i64 1)) 3, 3, none⟩,
    ⟨some 38, .move (.tmp 46), 3, none⟩]
def c11_L0 : Cmd := (.seq c11_13 (.seq c11_14 (.seq c11_17 c11_18)))
@[go_sem] def c11_19 : Cmd := .loop c11_L0
@[go_sem] def c11_20 : Cmd := .block 2 c11_19
@[go_sem] def c11_21 : Cmd := .ops [⟨some 47, .move (.tmp 7), 32, none⟩,
    ⟨some 48, .move (.tmp 11), 53, none⟩,
    ⟨some 49, .buildSlice 32 1 #[(0, (.tmp 48))], 32, none⟩,
    ⟨some 50, .call { callee := (.builtin .append), args := #[(.tmp 47), (.tmp 49)], argTypes := #[32, 32] }, 32, none⟩,
    ⟨some 7, .assign (.tmp 50), 32, none⟩]
@[go_sem] def c11_22 : Cmd := .block 1 (.seq c11_8 (.seq c11_9 (.seq c11_10 (.seq c11_11 (.seq (.seq c11_12 c11_20) c11_21)))))
def c11_L1 : Cmd := (.seq (.seq c11_6 c11_7) c11_22)
@[go_sem] def c11_23 : Cmd := .loop c11_L1
@[go_sem] def c11_24 : Cmd := .block 0 c11_23
@[go_sem] def c11_25 : Cmd := .ops [⟨some 51, .fieldAddr 28 (.tmp 3) 2, 0, none⟩,
    ⟨some 52, .load 23 (.tmp 51), 23, none⟩,
    ⟨some 53, .call { callee := (.builtin .len), args := #[(.tmp 52)], argTypes := #[23] }, 3, none⟩,
    ⟨some 54, .binOp .gtr 3 (.tmp 53) (.const (.int .i64 0)) 3, 4, none⟩]
@[go_sem] def c11_26 : Cmd := .ops [⟨some 55, .fieldAddr 28 (.tmp 3) 2, 0, none⟩,
    ⟨some 56, .load 23 (.tmp 55), 23, none⟩,
    ⟨some 57, .call { callee := (.builtin .len), args := #[(.tmp 56)], argTypes := #[23] }, 3, none⟩,
    ⟨some 58, .makeSlice 53 (.tmp 57) (.tmp 57), 53, none⟩,
    ⟨some 14, .assign (.tmp 58), 53, none⟩]
@[go_sem] def c11_27 : Cmd := .ops [⟨some 59, .fieldAddr 28 (.tmp 3) 2, 0, none⟩,
    ⟨some 60, .load 23 (.tmp 59), 23, none⟩,
    ⟨some 61, .call { callee := (.builtin .len), args := #[(.tmp 60)], argTypes := #[23] }, 3, none⟩,
    ⟨some 62, .move (.const (.int .i64 0)), 3, none⟩]
@[go_sem] def c11_28 : Cmd := .ops [⟨some 63, .binOp .lss 3 (.tmp 62) (.tmp 61) 3, 0, none⟩]
@[go_sem] def c11_29 : Cmd := .cond (.tmp 63) .skip (.exit 4)
@[go_sem] def c11_30 : Cmd := .ops [⟨some 64, .move (.tmp 62), 3, none⟩,
    ⟨some 65, .indexAddr 23 (.tmp 60) (.tmp 62), 0, none⟩,
    ⟨some 66, .load 4 (.tmp 65), 4, none⟩,
    ⟨some 15, .assign (.tmp 64), 3, none⟩,
    ⟨some 16, .assign (.tmp 66), 4, none⟩]
@[go_sem] def c11_31 : Cmd := .ops [⟨some 67, .move (.tmp 16), 4, none⟩]
@[go_sem] def c11_32 : Cmd := .ops [⟨some 68, .move (.tmp 14), 53, none⟩,
    ⟨some 69, .move (.tmp 15), 3, none⟩,
    ⟨some 70, .indexAddr 53 (.tmp 68) (.tmp 69), 0, none⟩,
    ⟨none, .store 5 (.tmp 70) (.const (.int .u8 1)), 0, none⟩]
@[go_sem] def c11_33 : Cmd := .cond (.tmp 67) c11_32 .skip
@[go_sem] def c11_34 : Cmd := .block 5 (.seq c11_30 (.seq c11_31 c11_33))
@[go_sem] def c11_35 : Cmd := .ops [⟨some 71, .binOp .add 3 (.tmp 62) (.const (.int .i64 1)) 3, 3, none⟩,
    ⟨some 62, .move (.tmp 71), 3, none⟩]
def c11_L2 : Cmd := (.seq c11_28 (.seq c11_29 (.seq c11_34 c11_35)))
@[go_sem] def c11_36 : Cmd := .loop c11_L2
@[go_sem] def c11_37 : Cmd := .block 4 c11_36
@[go_sem] def c11_38 : Cmd := .ops [⟨some 72, .move (.tmp 7), 32, none⟩,
    ⟨some 73, .move (.tmp 14), 53, none⟩,
    ⟨some 74, .buildSlice 32 1 #[(0, (.tmp 73))], 32, none⟩,
    ⟨some 75, .call { callee := (.builtin .append), args := #[(.tmp 72), (.tmp 74)], argTypes := #[32, 32] }, 32, none⟩,
    ⟨some 7, .assign (.tmp 75), 32, none⟩]
@[go_sem] def c11_39 : Cmd := .cond (.tmp 54) (.seq c11_26 (.seq (.seq c11_27 c11_37) c11_38)) .skip
@[go_sem] def c11_40 : Cmd := .ops [⟨some 76, .move (.tmp 0), 3, none⟩,
    ⟨some 77, .fieldAddr 28 (.tmp 3) 0, 0, none⟩,
    ⟨some 78, .load 3 (.tmp 77), 3, none⟩,
    ⟨some 79, .fieldAddr 28 (.tmp 3) 1, 0, none⟩,
    ⟨some 80, .load 22 (.tmp 79), 22, none⟩,
    ⟨some 81, .call { callee := (.builtin .len), args := #[(.tmp 80)], argTypes := #[22] }, 3, none⟩,
    ⟨some 82, .fieldAddr 28 (.tmp 3) 2, 0, none⟩,
    ⟨some 83, .load 23 (.tmp 82), 23, none⟩,
    ⟨some 84, .call { callee := (.builtin .len), args := #[(.tmp 83)], argTypes := #[23] }, 3, none⟩,
    ⟨some 85, .build 93 #[(0, (.tmp 76)), (1, (.tmp 78)), (2, (.tmp 81)), (3, (.tmp 84))], 93, none⟩,
    ⟨some 86, .call { callee := (.value (.func 33)), args := #[(.tmp 85)], argTypes := #[93] }, 53, none⟩,
    ⟨some 87, .move (.tmp 7), 32, none⟩,
    ⟨some 4, .assign (.tmp 86), 53, none⟩,
    ⟨some 5, .assign (.tmp 87), 32, none⟩,
    ⟨some 6, .assign (.const (.int .i64 0)), 54, none⟩]
@[go_sem] def c11 : Cmd := (.seq c11_0 (.seq (.seq c11_1 c11_3) (.seq c11_4 (.seq (.seq c11_5 c11_24) (.seq (.seq c11_25 c11_39) (.seq c11_40 .ret))))))
theorem b11 : Tryz.f11.body.map (comp 88) = some c11 := by kernel_rfl
theorem r11 : Tryz.f11.results.toList = [.tmp 4, .tmp 5, .tmp 6] := by kernel_rfl
@[go_sem] def c12_0 : Cmd := .ops [⟨some 5, .box 28 (.tmp 2), 0, none⟩,
    ⟨some 6, .assign (.const (.int .i64 0)), 54, none⟩]
@[go_sem] def c12_1 : Cmd := .ops [⟨some 11, .move (.tmp 1), 3, none⟩,
    ⟨some 12, .load 28 (.tmp 5), 28, none⟩,
    ⟨some 13, .call { callee := (.value (.func 11)), args := #[(.tmp 11), (.tmp 12)], argTypes := #[3, 28] }, 55, none⟩,
    ⟨some 10, .move (.tmp 13), 55, none⟩,
    ⟨some 14, .extract (.tmp 10) 0, 53, none⟩,
    ⟨some 15, .extract (.tmp 10) 1, 32, none⟩,
    ⟨some 16, .extract (.tmp 10) 2, 54, none⟩,
    ⟨some 7, .assign (.tmp 14), 53, none⟩,
    ⟨some 8, .assign (.tmp 15), 32, none⟩,
    ⟨some 9, .assign (.tmp 16), 54, none⟩]
@[go_sem] def c12_2 : Cmd := .ops [⟨some 17, .move (.tmp 9), 54, none⟩,
    ⟨some 18, .binOp .neq 54 (.tmp 17) (.const (.int .i64 0)) 54, 4, none⟩]
@[go_sem] def c12_3 : Cmd := .ops [⟨some 19, .move (.tmp 9), 54, none⟩,
    ⟨some 6, .assign (.tmp 19), 54, none⟩]
@[go_sem] def c12_4 : Cmd := .cond (.tmp 18) (.seq c12_3 .ret) .skip
@[go_sem] def c12_5 : Cmd := .ops [⟨some 20, .move (.tmp 0), 25, none⟩,
    ⟨some 21, .move (.tmp 1), 3, none⟩,
    ⟨some 22, .call { callee := (.value (.func 30)), args := #[(.tmp 21)], argTypes := #[3] }, 9, none⟩,
    ⟨some 23, .move (.tmp 7), 53, none⟩,
    ⟨some 24, .move (.tmp 8), 32, none⟩,
    ⟨some 25, .call { callee := (.value (.func 34)), args := #[(.tmp 20), (.tmp 22), (.tmp 23), (.tmp 24)], argTypes := #[25, 9, 53, 32] }, 54, none⟩,
    ⟨some 6, .assign (.tmp 25), 54, none⟩]
@[go_sem] def c12 : Cmd := (.seq c12_0 (.seq c12_1 (.seq (.seq c12_2 c12_4) (.seq c12_5 .ret))))
theorem b12 : Tryz.f12.body.map (comp 26) = some c12 := by kernel_rfl
theorem r12 : Tryz.f12.results.toList = [.tmp 6] := by kernel_rfl
@[go_sem] def c14_0 : Cmd := .ops [⟨some 4, .assign (.const (.bool false)), 4, none⟩]
@[go_sem] def c14_1 : Cmd := .ops [⟨some 5, .move (.tmp 0), 53, none⟩,
    ⟨some 6, .convert 53 9 (.tmp 5), 9, none⟩,
    ⟨some 7, .move (.tmp 1), 53, none⟩,
    ⟨some 8, .convert 53 9 (.tmp 7), 9, none⟩,
    ⟨some 9, .binOp .eql 9 (.tmp 6) (.tmp 8) 9, 4, none⟩,
    ⟨some 4, .assign (.tmp 9), 4, none⟩]
@[go_sem] def c14 : Cmd := (.seq c14_0 (.seq c14_1 .ret))
theorem b14 : Tryz.f14.body.map (comp 10) = some c14 := by kernel_rfl
theorem r14 : Tryz.f14.results.toList = [.tmp 4] := by kernel_rfl
@[go_sem] def c15_0 : Cmd := .ops [⟨some 4, .assign (.const (.bool false)), 4, none⟩]
@[go_sem] def c15_1 : Cmd := .ops [⟨some 7, .move (.tmp 0), 32, none⟩,
    ⟨some 8, .call { callee := (.builtin .len), args := #[(.tmp 7)], argTypes := #[32] }, 3, none⟩,
    ⟨some 9, .move (.tmp 1), 32, none⟩,
    ⟨some 10, .call { callee := (.builtin .len), args := #[(.tmp 9)], argTypes := #[32] }, 3, none⟩,
    ⟨some 11, .binOp .neq 3 (.tmp 8) (.tmp 10) 3, 4, none⟩]
@[go_sem] def c15_2 : Cmd := .ops [⟨some 4, .assign (.const (.bool false)), 4, none⟩]
@[go_sem] def c15_3 : Cmd := .cond (.tmp 11) (.seq c15_2 .ret) .skip
@[go_sem] def c15_4 : Cmd := .ops [⟨some 5, .assign (.const (.int .i64 0)), 3, none⟩]
@[go_sem] def c15_5 : Cmd := .ops [⟨some 12, .move (.tmp 5), 3, none⟩,
    ⟨some 13, .move (.tmp 0), 32, none⟩,
    ⟨some 14, .call { callee := (.builtin .len), args := #[(.tmp 13)], argTypes := #[32] }, 3, none⟩,
    ⟨some 15, .binOp .lss 3 (.tmp 12) (.tmp 14) 3, 4, none⟩]
@[go_sem] def c15_6 : Cmd := .cond (.tmp 15) .skip (.exit 0)
@[go_sem] def c15_7 : Cmd := .quiet [⟨some 18, .move (.tmp 0), 32, none⟩,
    ⟨some 19, .move (.tmp 5), 3, none⟩,
    ⟨some 20, .indexAddr 32 (.tmp 18) (.tmp 19), 0, none⟩,
    ⟨some 21, .load 53 (.tmp 20), 53, none⟩,
    ⟨some 22, .move (.tmp 1), 32, none⟩,
    ⟨some 23, .move (.tmp 5), 3, none⟩,
    ⟨some 24, .indexAddr 32 (.tmp 22) (.tmp 23), 0, none⟩,
    ⟨some 25, .load 53 (.tmp 24), 53, none⟩,
    ⟨some 26, .call { callee := (.value (.func 14)), args := #[(.tmp 21), (.tmp 25)], argTypes := #[53, 53] }, 4, none⟩,
    ⟨some 6, .assign (.tmp 26), 4, none⟩]
@[go_sem] def c15_8 : Cmd := .ops [⟨some 27, .move (.tmp 6), 4, none⟩,
    ⟨some 28, .unOp .not 4 (.tmp 27), 4, none⟩]
@[go_sem] def c15_9 : Cmd := .ops [⟨some 4, .assign (.const (.bool false)), 4, none⟩]
@[go_sem] def c15_10 : Cmd := .cond (.tmp 28) (.seq c15_9 .ret) .skip
@[go_sem] def c15_11 : Cmd := .block 1 (.seq c15_7 (.seq c15_8 c15_10))
@[go_sem] def c15_12 : Cmd := .ops [⟨some 16, .move (.tmp 5), 3, none⟩,
    ⟨some 17, .binOp .add 3 (.tmp 16) (.const (.int .i64 1)) 3, 3, none⟩,
    ⟨some 5, .assign (.tmp 17), 3, none⟩]
def c15_L0 : Cmd := (.seq (.seq c15_5 c15_6) (.seq c15_11 c15_12))
@[go_sem] def c15_13 : Cmd := .loop c15_L0
@[go_sem] def c15_14 : Cmd := .block 0 c15_13
@[go_sem] def c15_15 : Cmd := .ops [⟨some 4, .assign (.const (.bool true)), 4, none⟩]
@[go_sem] def c15 : Cmd := (.seq c15_0 (.seq (.seq c15_1 c15_3) (.seq (.seq c15_4 c15_14) (.seq c15_15 .ret))))
theorem b15 : Tryz.f15.body.map (comp 29) = some c15 := by kernel_rfl
theorem r15 : Tryz.f15.results.toList = [.tmp 4] := by kernel_rfl
@[go_sem] def c16_0 : Cmd := .ops [⟨some 2, .assign (.const (.int .i64 0)), 3, none⟩]
@[go_sem] def c16_1 : Cmd := .ops [⟨some 3, .move (.tmp 0), 54, none⟩,
    ⟨some 2, .assign (.tmp 3), 3, none⟩]
@[go_sem] def c16 : Cmd := (.seq c16_0 (.seq c16_1 .ret))
theorem b16 : Tryz.f16.body.map (comp 4) = some c16 := by kernel_rfl
theorem r16 : Tryz.f16.results.toList = [.tmp 2] := by kernel_rfl
@[go_sem] def c17_0 : Cmd := .ops [⟨some 6, .alloc 28, 0, none⟩,
    ⟨some 7, .assign (.const (.int .i64 0)), 54, none⟩]
@[go_sem] def c17_1 : Cmd := .ops [⟨some 13, .move (.tmp 1), 53, none⟩,
    ⟨some 14, .call { callee := (.value (.func 38)), args := #[(.tmp 13)], argTypes := #[53] }, 97, none⟩,
    ⟨some 12, .move (.tmp 14), 97, none⟩,
    ⟨some 15, .extract (.tmp 12) 0, 93, none⟩,
    ⟨some 16, .extract (.tmp 12) 1, 4, none⟩,
    ⟨some 8, .alloc 93, 0, none⟩,
    ⟨none, .store 93 (.tmp 8) (.tmp 15), 0, none⟩,
    ⟨some 9, .assign (.tmp 16), 4, none⟩]
@[go_sem] def c17_2 : Cmd := .ops [⟨some 17, .move (.tmp 9), 4, none⟩,
    ⟨some 18, .unOp .not 4 (.tmp 17), 4, none⟩,
    ⟨some 19, .move (.tmp 18), 4, none⟩,
    ⟨some 20, .indexAddr 93 (.tmp 8) (.const (.int .i64 2)), 0, some (19, false)⟩,
    ⟨some 21, .load 3 (.tmp 20), 3, some (19, false)⟩,
    ⟨some 22, .binOp .gtr 3 (.tmp 21) (.const (.int .i64 16777216)) 3, 4, some (19, false)⟩,
    ⟨some 23, .pick (.tmp 19) (.const (.bool true)) (.tmp 22), 4, none⟩,
    ⟨some 24, .move (.tmp 23), 4, none⟩,
    ⟨some 25, .indexAddr 93 (.tmp 8) (.const (.int .i64 2)), 0, some (24, false)⟩,
    ⟨some 26, .load 3 (.tmp 25), 3, some (24, false)⟩,
    ⟨some 27, .move (.tmp 2), 32, some (24, false)⟩,
    ⟨some 28, .call { callee := (.builtin .len), args := #[(.tmp 27)], argTypes := #[32] }, 3, some (24, false)⟩,
    ⟨some 29, .binOp .mul 3 (.tmp 28) (.const (.int .i64 200)) 3, 3, some (24, false)⟩,
    ⟨some 30, .binOp .gtr 3 (.tmp 26) (.tmp 29) 3, 4, some (24, false)⟩,
    ⟨some 31, .pick (.tmp 24) (.const (.bool true)) (.tmp 30), 4, none⟩,
    ⟨some 32, .move (.tmp 31), 4, none⟩,
    ⟨some 33, .indexAddr 93 (.tmp 8) (.const (.int .i64 3)), 0, some (32, false)⟩,
    ⟨some 34, .load 3 (.tmp 33), 3, some (32, false)⟩,
    ⟨some 35, .binOp .gtr 3 (.tmp 34) (.const (.int .i64 1000)) 3, 4, some (32, false)⟩,
    ⟨some 36, .pick (.tmp 32) (.const (.bool true)) (.tmp 35), 4, none⟩]
@[go_sem] def c17_3 : Cmd := .ops [⟨some 37, .build 28 #[], 28, none⟩,
    ⟨none, .store 28 (.tmp 6) (.tmp 37), 0, none⟩,
    ⟨some 7, .assign (.const (.int .i64 90)), 54, none⟩]
@[go_sem] def c17_4 : Cmd := .cond (.tmp 36) (.seq c17_3 .ret) .skip
@[go_sem] def c17_5 : Cmd := .ops [⟨some 38, .indexAddr 93 (.tmp 8) (.const (.int .i64 1)), 0, none⟩,
    ⟨some 39, .load 3 (.tmp 38), 3, none⟩,
    ⟨some 40, .build 28 #[(0, (.tmp 39))], 28, none⟩,
    ⟨some 10, .alloc 28, 0, none⟩,
    ⟨none, .store 28 (.tmp 10) (.tmp 40), 0, none⟩]
@[go_sem] def c17_6 : Cmd := .ops [⟨some 41, .move (.tmp 2), 32, none⟩,
    ⟨some 11, .assign (.tmp 41), 32, none⟩]
@[go_sem] def c17_7 : Cmd := .ops [⟨some 43, .indexAddr 93 (.tmp 8) (.const (.int .i64 2)), 0, none⟩,
    ⟨some 44, .load 3 (.tmp 43), 3, none⟩,
    ⟨some 45, .move (.tmp 11), 32, none⟩,
    ⟨some 46, .call { callee := (.value (.func 39)), args := #[(.tmp 44), (.tmp 45)], argTypes := #[3, 32] }, 99, none⟩,
    ⟨some 42, .move (.tmp 46), 99, none⟩,
    ⟨some 47, .extract (.tmp 42) 0, 22, none⟩,
    ⟨some 48, .extract (.tmp 42) 1, 32, none⟩,
    ⟨some 49, .extract (.tmp 42) 2, 4, none⟩,
    ⟨some 50, .fieldAddr 28 (.tmp 10) 1, 0, none⟩,
    ⟨none, .store 22 (.tmp 50) (.tmp 47), 0, none⟩,
    ⟨some 11, .assign (.tmp 48), 32, none⟩,
    ⟨some 9, .assign (.tmp 49), 4, none⟩]
@[go_sem] def c17_8 : Cmd := .ops [⟨some 51, .move (.tmp 9), 4, none⟩,
    ⟨some 52, .unOp .not 4 (.tmp 51), 4, none⟩]
@[go_sem] def c17_9 : Cmd := .ops [⟨some 53, .build 28 #[], 28, none⟩,
    ⟨none, .store 28 (.tmp 6) (.tmp 53), 0, none⟩,
    ⟨some 7, .assign (.const (.int .i64 90)), 54, none⟩]
@[go_sem] def c17_10 : Cmd := .cond (.tmp 52) (.seq c17_9 .ret) .skip
@[go_sem] def c17_11 : Cmd := .ops [⟨some 55, .indexAddr 93 (.tmp 8) (.const (.int .i64 3)), 0, none⟩,
    ⟨some 56, .load 3 (.tmp 55), 3, none⟩,
    ⟨some 57, .move (.tmp 11), 32, none⟩,
    ⟨some 58, .call { callee := (.value (.func 40)), args := #[(.tmp 56), (.tmp 57)], argTypes := #[3, 32] }, 101, none⟩,
    ⟨some 54, .move (.tmp 58), 101, none⟩,
    ⟨some 59, .extract (.tmp 54) 0, 23, none⟩,
    ⟨some 60, .extract (.tmp 54) 1, 4, none⟩,
    ⟨some 61, .fieldAddr 28 (.tmp 10) 2, 0, none⟩,
    ⟨none, .store 23 (.tmp 61) (.tmp 59), 0, none⟩,
    ⟨some 9, .assign (.tmp 60), 4, none⟩]
@[go_sem] def c17_12 : Cmd := .ops [⟨some 62, .move (.tmp 9), 4, none⟩,
    ⟨some 63, .unOp .not 4 (.tmp 62), 4, none⟩,
    ⟨some 64, .move (.tmp 63), 4, none⟩,
    ⟨some 65, .move (.tmp 0), 3, some (64, false)⟩,
    ⟨some 66, .load 28 (.tmp 10), 28, some (64, false)⟩,
    ⟨some 67, .call { callee := (.value (.func 31)), args := #[(.tmp 65), (.tmp 66)], argTypes := #[3, 28] }, 4, some (64, false)⟩,
    ⟨some 68, .unOp .not 4 (.tmp 67), 4, some (64, false)⟩,
    ⟨some 69, .pick (.tmp 64) (.const (.bool true)) (.tmp 68), 4, none⟩,
    ⟨some 70, .move (.tmp 69), 4, none⟩,
    ⟨some 71, .load 93 (.tmp 8), 93, some (70, false)⟩,
    ⟨some 72, .move (.tmp 0), 3, some (70, false)⟩,
    ⟨some 73, .fieldAddr 28 (.tmp 10) 0, 0, some (70, false)⟩,
    ⟨some 74, .load 3 (.tmp 73), 3, some (70, false)⟩,
    ⟨some 75, .fieldAddr 28 (.tmp 10) 1, 0, some (70, false)⟩,
    ⟨some 76, .load 22 (.tmp 75), 22, some (70, false)⟩,
    ⟨some 77, .call { callee := (.builtin .len), args := #[(.tmp 76)], argTypes := #[22] }, 3, some (70, false)⟩,
    ⟨some 78, .fieldAddr 28 (.tmp 10) 2, 0, some (70, false)⟩,
    ⟨some 79, .load 23 (.tmp 78), 23, some (70, false)⟩,
    ⟨some 80, .call { callee := (.builtin .len), args := #[(.tmp 79)], argTypes := #[23] }, 3, some (70, false)⟩,
    ⟨some 81, .build 93 #[(0, (.tmp 72)), (1, (.tmp 74)), (2, (.tmp 77)), (3, (.tmp 80))], 93, some (70, false)⟩,
    ⟨some 82, .binOp .neq 93 (.tmp 71) (.tmp 81) 93, 4, some (70, false)⟩,
    ⟨some 83, .pick (.tmp 70) (.const (.bool true)) (.tmp 82), 4, none⟩]
@[go_sem] def c17_13 : Cmd := .ops [⟨some 84, .build 28 #[], 28, none⟩,
    ⟨none, .store 28 (.tmp 6) (.tmp 84), 0, none⟩,
    ⟨some 7, .assign (.const (.int .i64 90)), 54, none⟩]
@[go_sem] def c17_14 : Cmd := .cond (.tmp 83) (.seq c17_13 .ret) .skip
@[go_sem] def c17_15 : Cmd := .ops [⟨some 85, .load 28 (.tmp 10), 28, none⟩,
    ⟨none, .store 28 (.tmp 6) (.tmp 85), 0, none⟩,
    ⟨some 7, .assign (.const (.int .i64 0)), 54, none⟩]
@[go_sem] def c17 : Cmd := (.seq c17_0 (.seq c17_1 (.seq (.seq c17_2 c17_4) (.seq c17_5 (.seq c17_6 (.seq (.seq c17_7 (.seq c17_8 c17_10)) (.seq (.seq c17_11 (.seq c17_12 c17_14)) (.seq c17_15 .ret))))))))
theorem b17 : Tryz.f17.body.map (comp 86) = some c17 := by kernel_rfl
theorem r17 : Tryz.f17.results.toList = [.cell 6 28, .tmp 7] := by kernel_rfl
@[go_sem] def c18_0 : Cmd := .ops [⟨some 8, .alloc 28, 0, none⟩,
    ⟨some 9, .assign (.const (.bool false)), 4, none⟩,
    ⟨some 10, .assign (.const (.int .i64 0)), 54, none⟩]
@[go_sem] def c18_1 : Cmd := .ops [⟨some 15, .move (.tmp 0), 25, none⟩,
    ⟨some 16, .call { callee := (.value (.func 41)), args := #[(.tmp 15)], argTypes := #[25] }, 4, none⟩,
    ⟨some 17, .unOp .not 4 (.tmp 16), 4, none⟩]
@[go_sem] def c18_2 : Cmd := .ops [⟨some 18, .build 28 #[], 28, none⟩,
    ⟨none, .store 28 (.tmp 8) (.tmp 18), 0, none⟩,
    ⟨some 9, .assign (.const (.bool false)), 4, none⟩,
    ⟨some 10, .assign (.const (.int .i64 81)), 54, none⟩]
@[go_sem] def c18_3 : Cmd := .cond (.tmp 17) (.seq c18_2 .ret) .skip
@[go_sem] def c18_4 : Cmd := .ops [⟨some 20, .move (.tmp 0), 25, none⟩,
    ⟨some 21, .move (.tmp 1), 3, none⟩,
    ⟨some 22, .call { callee := (.value (.func 30)), args := #[(.tmp 21)], argTypes := #[3] }, 9, none⟩,
    ⟨some 23, .call { callee := (.value (.func 42)), args := #[(.tmp 20), (.tmp 22)], argTypes := #[25, 9] }, 55, none⟩,
    ⟨some 19, .move (.tmp 23), 55, none⟩,
    ⟨some 24, .extract (.tmp 19) 0, 53, none⟩,
    ⟨some 25, .extract (.tmp 19) 1, 32, none⟩,
    ⟨some 26, .extract (.tmp 19) 2, 54, none⟩,
    ⟨some 11, .assign (.tmp 24), 53, none⟩,
    ⟨some 12, .assign (.tmp 25), 32, none⟩,
    ⟨some 13, .assign (.tmp 26), 54, none⟩]
@[go_sem] def c18_5 : Cmd := .ops [⟨some 27, .move (.tmp 13), 54, none⟩,
    ⟨some 28, .binOp .neq 54 (.tmp 27) (.const (.int .i64 0)) 54, 4, none⟩]
@[go_sem] def c18_6 : Cmd := .ops [⟨some 29, .build 28 #[], 28, none⟩,
    ⟨none, .store 28 (.tmp 8) (.tmp 29), 0, none⟩,
    ⟨some 9, .assign (.const (.bool false)), 4, none⟩,
    ⟨some 10, .assign (.const (.int .i64 0)), 54, none⟩]
@[go_sem] def c18_7 : Cmd := .cond (.tmp 28) (.seq c18_6 .ret) .skip
@[go_sem] def c18_8 : Cmd := .ops [⟨some 31, .move (.tmp 1), 3, none⟩,
    ⟨some 32, .move (.tmp 11), 53, none⟩,
    ⟨some 33, .move (.tmp 12), 32, none⟩,
    ⟨some 34, .call { callee := (.value (.func 17)), args := #[(.tmp 31), (.tmp 32), (.tmp 33)], argTypes := #[3, 53, 32] }, 63, none⟩,
    ⟨some 30, .move (.tmp 34), 63, none⟩,
    ⟨some 35, .extract (.tmp 30) 0, 28, none⟩,
    ⟨some 36, .extract (.tmp 30) 1, 54, none⟩,
    ⟨some 14, .alloc 28, 0, none⟩,
    ⟨none, .store 28 (.tmp 14) (.tmp 35), 0, none⟩,
    ⟨some 13, .assign (.tmp 36), 54, none⟩]
@[go_sem] def c18_9 : Cmd := .ops [⟨some 37, .move (.tmp 13), 54, none⟩,
    ⟨some 38, .binOp .neq 54 (.tmp 37) (.const (.int .i64 0)) 54, 4, none⟩,
    ⟨some 39, .move (.tmp 38), 4, none⟩,
    ⟨some 40, .load 28 (.tmp 14), 28, some (39, false)⟩,
    ⟨some 41, .move (.tmp 2), 22, some (39, false)⟩,
    ⟨some 42, .move (.tmp 3), 3, some (39, false)⟩,
    ⟨some 43, .call { callee := (.value (.func 43)), args := #[(.tmp 40), (.tmp 41), (.tmp 42)], argTypes := #[28, 22, 3] }, 4, some (39, false)⟩,
    ⟨some 44, .unOp .not 4 (.tmp 43), 4, some (39, false)⟩,
    ⟨some 45, .pick (.tmp 39) (.const (.bool true)) (.tmp 44), 4, none⟩]
@[go_sem] def c18_10 : Cmd := .ops [⟨some 46, .build 28 #[], 28, none⟩,
    ⟨none, .store 28 (.tmp 8) (.tmp 46), 0, none⟩,
    ⟨some 9, .assign (.const (.bool false)), 4, none⟩,
    ⟨some 10, .assign (.const (.int .i64 0)), 54, none⟩]
@[go_sem] def c18_11 : Cmd := .cond (.tmp 45) (.seq c18_10 .ret) .skip
@[go_sem] def c18_12 : Cmd := .ops [⟨some 47, .load 28 (.tmp 14), 28, none⟩,
    ⟨none, .store 28 (.tmp 8) (.tmp 47), 0, none⟩,
    ⟨some 9, .assign (.const (.bool true)), 4, none⟩,
    ⟨some 10, .assign (.const (.int .i64 0)), 54, none⟩]
@[go_sem] def c18 : Cmd := (.seq c18_0 (.seq (.seq c18_1 c18_3) (.seq c18_4 (.seq (.seq c18_5 c18_7) (.seq c18_8 (.seq (.seq c18_9 c18_11) (.seq c18_12 .ret)))))))
theorem b18 : Tryz.f18.body.map (comp 48) = some c18 := by kernel_rfl
theorem r18 : Tryz.f18.results.toList = [.cell 8 28, .tmp 9, .tmp 10] := by kernel_rfl
@[go_sem] def c23_0 : Cmd := .ops [⟨some 4, .assign (.const (.int .i64 0)), 54, none⟩]
@[go_sem] def c23_1 : Cmd := .ops [⟨some 6, .move (.tmp 1), 3, none⟩,
    ⟨some 7, .binOp .lss 3 (.tmp 6) (.const (.int .i64 0)) 3, 4, none⟩,
    ⟨some 5, .assign (.tmp 7), 4, none⟩]
@[go_sem] def c23_2 : Cmd := .ops [⟨some 4, .assign (.const (.int .i64 85)), 54, none⟩]
@[go_sem] def c23_3 : Cmd := .ops [⟨some 9, .move (.tmp 0), 25, none⟩,
    ⟨some 10, .nilCheck (.tmp 9), 0, none⟩,
    ⟨some 11, .fieldAddr 89 (.tmp 10) 5, 0, none⟩,
    ⟨some 12, .load 4 (.tmp 11), 4, none⟩,
    ⟨some 8, .assign (.tmp 12), 4, none⟩]
@[go_sem] def c23_4 : Cmd := .ops [⟨some 4, .assign (.const (.int .i64 81)), 54, none⟩]
@[go_sem] def c23_5 : Cmd := .cond (.tmp 8) (.seq c23_4 .ret) .skip
@[go_sem] def c23_6 : Cmd := .cond (.tmp 5) (.seq c23_2 .ret) (.seq c23_3 c23_5)
@[go_sem] def c23_7 : Cmd := .block 0 (.seq c23_1 c23_6)
@[go_sem] def c23_8 : Cmd := .ops [⟨some 13, .move (.tmp 0), 25, none⟩,
    ⟨some 14, .move (.tmp 1), 3, none⟩,
    ⟨some 15, .nilCheck (.tmp 13), 0, none⟩,
    ⟨some 16, .fieldAddr 89 (.tmp 15) 6, 0, none⟩,
    ⟨none, .store 3 (.tmp 16) (.tmp 14), 0, none⟩]
@[go_sem] def c23_9 : Cmd := .ops [⟨some 4, .assign (.const (.int .i64 0)), 54, none⟩]
@[go_sem] def c23 : Cmd := (.seq c23_0 (.seq c23_7 (.seq c23_8 (.seq c23_9 .ret))))
theorem b23 : Tryz.f23.body.map (comp 17) = some c23 := by kernel_rfl
theorem r23 : Tryz.f23.results.toList = [.tmp 4] := by kernel_rfl
@[go_sem] def c24_0 : Cmd := .ops [⟨some 10, .move (.tmp 0), 25, none⟩,
    ⟨some 11, .move (.tmp 0), 25, none⟩,
    ⟨some 12, .move (.tmp 1), 3, none⟩,
    ⟨some 13, .call { callee := (.value (.func 52)), args := #[(.tmp 11), (.tmp 12)], argTypes := #[25, 3] }, 85, none⟩,
    ⟨some 14, .nilCheck (.tmp 10), 0, none⟩,
    ⟨some 15, .fieldAddr 89 (.tmp 14) 1, 0, none⟩,
    ⟨none, .store 85 (.tmp 15) (.tmp 13), 0, none⟩]
@[go_sem] def c24_1 : Cmd := .ops [⟨some 16, .move (.tmp 0), 25, none⟩,
    ⟨some 17, .nilCheck (.tmp 16), 0, none⟩,
    ⟨some 18, .fieldAddr 89 (.tmp 17) 1, 0, none⟩,
    ⟨some 19, .load 85 (.tmp 18), 85, none⟩,
    ⟨some 20, .call { callee := (.value (.func 54)), args := #[(.tmp 19)], argTypes := #[85] }, 113, none⟩,
    ⟨some 21, .call { callee := (.value (.func 53)), args := #[(.tmp 20)], argTypes := #[113] }, 110, none⟩,
    ⟨some 22, .call { callee := (.builtin .len), args := #[(.tmp 21)], argTypes := #[110] }, 3, none⟩,
    ⟨some 23, .move (.const (.int .i64 0)), 3, none⟩]
@[go_sem] def c24_2 : Cmd := .ops [⟨some 24, .binOp .lss 3 (.tmp 23) (.tmp 22) 3, 0, none⟩]
@[go_sem] def c24_3 : Cmd := .cond (.tmp 24) .skip (.exit 0)
@[go_sem] def c24_4 : Cmd := .ops [⟨some 25, .move (.tmp 23), 3, none⟩,
    ⟨some 26, .indexAddr 110 (.tmp 21) (.tmp 23), 0, none⟩,
    ⟨some 27, .load 9 (.tmp 26), 9, none⟩,
    ⟨some 6, .assign (.tmp 25), 3, none⟩,
    ⟨some 7, .assign (.tmp 27), 9, none⟩]
@[go_sem] def c24_5 : Cmd := .ops [⟨some 28, .move (.tmp 0), 25, none⟩,
    ⟨some 29, .nilCheck (.tmp 28), 0, none⟩,
    ⟨some 30, .fieldAddr 89 (.tmp 29) 1, 0, none⟩,
    ⟨some 31, .load 85 (.tmp 30), 85, none⟩,
    ⟨some 32, .move (.tmp 7), 9, none⟩,
    ⟨some 33, .lookup 85 (.tmp 31) (.tmp 32) false, 115, none⟩,
    ⟨some 8, .assign (.tmp 33), 115, none⟩,
    ⟨some 9, .assign (.const (.int .i64 0)), 3, none⟩]
@[go_sem] def c24_6 : Cmd := .ops [⟨some 34, .move (.tmp 6), 3, none⟩,
    ⟨some 35, .move (.tmp 2), 22, none⟩,
    ⟨some 36, .call { callee := (.builtin .len), args := #[(.tmp 35)], argTypes := #[22] }, 3, none⟩,
    ⟨some 37, .binOp .lss 3 (.tmp 34) (.tmp 36) 3, 4, none⟩]
@[go_sem] def c24_7 : Cmd := .ops [⟨some 38, .move (.tmp 2), 22, none⟩,
    ⟨some 39, .move (.tmp 6), 3, none⟩,
    ⟨some 40, .indexAddr 22 (.tmp 38) (.tmp 39), 0, none⟩,
    ⟨some 41, .load 3 (.tmp 40), 3, none⟩,
    ⟨some 42, .call { callee := (.builtin .max), args := #[(.tmp 41), (.const (.int .i64 0))], argTypes := #[3, 3] }, 3, none⟩,
    ⟨some 9, .assign (.tmp 42), 3, none⟩]
@[go_sem] def c24_8 : Cmd := .cond (.tmp 37) c24_7 .skip
@[go_sem] def c24_9 : Cmd := .still 23 [⟨some 43, .move (.tmp 8), 115, none⟩,
    ⟨some 44, .move (.tmp 8), 115, none⟩,
    ⟨some 45, .nilCheck (.tmp 44), 0, none⟩,
    ⟨some 46, .fieldAddr 117 (.tmp 45) 0, 0, none⟩,
    ⟨some 47, .load 53 (.tmp 46), 53, none⟩,
    ⟨some 48, .move (.tmp 8), 115, none⟩,
    ⟨some 49, .nilCheck (.tmp 48), 0, none⟩,
    ⟨some 50, .fieldAddr 117 (.tmp 49) 1, 0, none⟩,
    ⟨some 51, .load 3 (.tmp 50), 3, none⟩,
    ⟨some 52, .move (.tmp 9), 3, none⟩,
    ⟨some 53, .move (.tmp 8), 115, none⟩,
    ⟨some 54, .nilCheck (.tmp 53), 0, none⟩,
    ⟨some 55, .fieldAddr 117 (.tmp 54) 0, 0, none⟩,
    ⟨some 56, .load 53 (.tmp 55), 53, none⟩,
    ⟨some 57, .call { callee := (.builtin .len), args := #[(.tmp 56)], argTypes := #[53] }, 3, none⟩,
    ⟨some 58, .move (.tmp 8), 115, none⟩,
    ⟨some 59, .nilCheck (.tmp 58), 0, none⟩,
    ⟨some 60, .fieldAddr 117 (.tmp 59) 1, 0, none⟩,
    ⟨some 61, .load 3 (.tmp 60), 3, none⟩,
    ⟨some 62, .binOp .sub 3 (.tmp 57) (.tmp 61) 3, 3, none⟩,
    ⟨some 63, .call { callee := (.builtin .min), args := #[(.tmp 52), (.tmp 62)], argTypes := #[3, 3] }, 3, none⟩,
    ⟨some 64, .binOp .add 3 (.tmp 51) (.tmp 63) 3, 3, none⟩,
    ⟨some 65, .slice 53 (.tmp 47) none (some (.tmp 64)) none, 53, none⟩,
    ⟨some 66, .nilCheck (.tmp 43), 0, none⟩,
    ⟨some 67, .fieldAddr 117 (.tmp 66) 0, 0, none⟩,
    ⟨none, .store 53 (.tmp 67) (.tmp 65), 0, none⟩]
@[go_sem] def c24_10 : Cmd := .ops [⟨some 68, .move (.tmp 8), 115, none⟩,
    ⟨some 69, .move (.tmp 8), 115, none⟩,
    ⟨some 70, .nilCheck (.tmp 69), 0, none⟩,
    ⟨some 71, .fieldAddr 117 (.tmp 70) 0, 0, none⟩,
    ⟨some 72, .load 53 (.tmp 71), 53, none⟩,
    ⟨some 73, .call { callee := (.builtin .len), args := #[(.tmp 72)], argTypes := #[53] }, 3, none⟩,
    ⟨some 74, .nilCheck (.tmp 68), 0, none⟩,
    ⟨some 75, .fieldAddr 117 (.tmp 74) 1, 0, none⟩,
    ⟨none, .store 3 (.tmp 75) (.tmp 73), 0, none⟩]
@[go_sem] def c24_11 : Cmd := .block 1 (.seq c24_4 (.seq c24_5 (.seq (.seq c24_6 c24_8) (.seq c24_9 c24_10))))
@[go_sem] def c24_12 : Cmd := .ops [⟨some 76, .binOp .add 3 (.tmp 23) (.const (.int .i64 1)) 3, 3, none⟩,
    ⟨some 23, .move (.tmp 76), 3, none⟩]
def c24_L0 : Cmd := (.seq c24_2 (.seq c24_3 (.seq c24_11 c24_12)))
@[go_sem] def c24_13 : Cmd := .loop c24_L0
@[go_sem] def c24_14 : Cmd := .block 0 c24_13
@[go_sem] def c24_15 : Cmd := .ops [⟨some 77, .move (.tmp 0), 25, none⟩,
    ⟨some 78, .call { callee := (.value (.func 55)), args := #[(.tmp 77)], argTypes := #[25] }, 0, none⟩]
@[go_sem] def c24_16 : Cmd := .ops [⟨some 79, .move (.tmp 0), 25, none⟩,
    ⟨some 80, .move (.tmp 0), 25, none⟩,
    ⟨some 81, .nilCheck (.tmp 79), 0, none⟩,
    ⟨some 82, .fieldAddr 89 (.tmp 81) 5, 0, none⟩,
    ⟨none, .store 4 (.tmp 82) (.const (.bool false)), 0, none⟩,
    ⟨some 83, .nilCheck (.tmp 80), 0, none⟩,
    ⟨some 84, .fieldAddr 89 (.tmp 83) 6, 0, none⟩,
    ⟨none, .store 3 (.tmp 84) (.const (.int .i64 0)), 0, none⟩]
@[go_sem] def c24 : Cmd := (.seq c24_0 (.seq (.seq c24_1 c24_14) (.seq c24_15 c24_16)))
theorem b24 : Tryz.f24.body.map (comp 85) = some c24 := by kernel_rfl
theorem r24 : Tryz.f24.results.toList = [] := by kernel_rfl
@[go_sem] def c25_0 : Cmd := .ops [⟨some 2, .box 28 (.tmp 0), 0, none⟩,
    ⟨some 3, .box 28 (.tmp 1), 0, none⟩,
    ⟨some 4, .assign (.const (.bool false)), 4, none⟩]
@[go_sem] def c25_1 : Cmd := .ops [⟨some 7, .fieldAddr 28 (.tmp 2) 1, 0, none⟩,
    ⟨some 8, .load 22 (.tmp 7), 22, none⟩,
    ⟨some 9, .fieldAddr 28 (.tmp 3) 1, 0, none⟩,
    ⟨some 10, .load 22 (.tmp 9), 22, none⟩,
    ⟨some 11, .call { callee := (.value (.func 56)), args := #[(.tmp 8), (.tmp 10)], argTypes := #[22, 22] }, 4, none⟩,
    ⟨some 5, .assign (.tmp 11), 4, none⟩]
@[go_sem] def c25_2 : Cmd := .ops [⟨some 12, .fieldAddr 28 (.tmp 2) 2, 0, none⟩,
    ⟨some 13, .load 23 (.tmp 12), 23, none⟩,
    ⟨some 14, .fieldAddr 28 (.tmp 3) 2, 0, none⟩,
    ⟨some 15, .load 23 (.tmp 14), 23, none⟩,
    ⟨some 16, .call { callee := (.value (.func 57)), args := #[(.tmp 13), (.tmp 15)], argTypes := #[23, 23] }, 4, none⟩,
    ⟨some 6, .assign (.tmp 16), 4, none⟩]
@[go_sem] def c25_3 : Cmd := .ops [⟨some 17, .move (.tmp 5), 4, none⟩,
    ⟨some 18, .move (.tmp 17), 4, none⟩,
    ⟨some 19, .move (.tmp 6), 4, some (18, true)⟩,
    ⟨some 20, .pick (.tmp 18) (.tmp 19) (.const (.bool false)), 4, none⟩,
    ⟨some 21, .move (.tmp 20), 4, none⟩,
    ⟨some 22, .fieldAddr 28 (.tmp 2) 0, 0, some (21, true)⟩,
    ⟨some 23, .load 3 (.tmp 22), 3, some (21, true)⟩,
    ⟨some 24, .fieldAddr 28 (.tmp 3) 0, 0, some (21, true)⟩,
    ⟨some 25, .load 3 (.tmp 24), 3, some (21, true)⟩,
    ⟨some 26, .binOp .eql 3 (.tmp 23) (.tmp 25) 3, 4, some (21, true)⟩,
    ⟨some 27, .pick (.tmp 21) (.tmp 26) (.const (.bool false)), 4, none⟩,
    ⟨some 4, .assign (.tmp 27), 4, none⟩]
@[go_sem] def c25 : Cmd := (.seq c25_0 (.seq c25_1 (.seq c25_2 (.seq c25_3 .ret))))
theorem b25 : Tryz.f25.body.map (comp 28) = some c25 := by kernel_rfl
theorem r25 : Tryz.f25.results.toList = [.tmp 4] := by kernel_rfl
@[go_sem] def c30_0 : Cmd := .ops [⟨some 2, .assign (.const (.string ⟨#[]⟩)), 9, none⟩]
@[go_sem] def c30_1 : Cmd := .ops [⟨some 3, .move (.tmp 0), 3, none⟩,
    ⟨some 4, .call { callee := (.value (.func 84)), args := #[(.tmp 3)], argTypes := #[3] }, 9, none⟩,
    ⟨some 5, .binOp .add 9 (.const (.string ⟨#[99, 107, 112, 116, 46]⟩)) (.tmp 4) 9, 9, none⟩,
    ⟨some 2, .assign (.tmp 5), 9, none⟩]
@[go_sem] def c30 : Cmd := (.seq c30_0 (.seq c30_1 .ret))
theorem b30 : Tryz.f30.body.map (comp 6) = some c30 := by kernel_rfl
theorem r30 : Tryz.f30.results.toList = [.tmp 2] := by kernel_rfl
@[go_sem] def c31_0 : Cmd := .ops [⟨some 3, .box 28 (.tmp 1), 0, none⟩,
    ⟨some 4, .assign (.const (.bool false)), 4, none⟩]
@[go_sem] def c31_1 : Cmd := .ops [⟨some 7, .move (.tmp 0), 3, none⟩,
    ⟨some 8, .binOp .lss 3 (.tmp 7) (.const (.int .i64 1)) 3, 4, none⟩,
    ⟨some 9, .move (.tmp 8), 4, none⟩,
    ⟨some 10, .move (.tmp 0), 3, some (9, false)⟩,
    ⟨some 11, .binOp .gtr 3 (.tmp 10) (.const (.int .i64 2147483647)) 3, 4, some (9, false)⟩,
    ⟨some 12, .pick (.tmp 9) (.const (.bool true)) (.tmp 11), 4, none⟩,
    ⟨some 13, .move (.tmp 12), 4, none⟩,
    ⟨some 14, .fieldAddr 28 (.tmp 3) 0, 0, some (13, false)⟩,
    ⟨some 15, .load 3 (.tmp 14), 3, some (13, false)⟩,
    ⟨some 16, .binOp .lss 3 (.tmp 15) (.const (.int .i64 0)) 3, 4, some (13, false)⟩,
    ⟨some 17, .pick (.tmp 13) (.const (.bool true)) (.tmp 16), 4, none⟩,
    ⟨some 18, .move (.tmp 17), 4, none⟩,
    ⟨some 19, .fieldAddr 28 (.tmp 3) 0, 0, some (18, false)⟩,
    ⟨some 20, .load 3 (.tmp 19), 3, some (18, false)⟩,
    ⟨some 21, .binOp .gtr 3 (.tmp 20) (.const (.int .i64 2147483647)) 3, 4, some (18, false)⟩,
    ⟨some 22, .pick (.tmp 18) (.const (.bool true)) (.tmp 21), 4, none⟩,
    ⟨some 23, .move (.tmp 22), 4, none⟩,
    ⟨some 24, .fieldAddr 28 (.tmp 3) 1, 0, some (23, false)⟩,
    ⟨some 25, .load 22 (.tmp 24), 22, some (23, false)⟩,
    ⟨some 26, .call { callee := (.builtin .len), args := #[(.tmp 25)], argTypes := #[22] }, 3, some (23, false)⟩,
    ⟨some 27, .binOp .gtr 3 (.tmp 26) (.const (.int .i64 16777216)) 3, 4, some (23, false)⟩,
    ⟨some 28, .pick (.tmp 23) (.const (.bool true)) (.tmp 27), 4, none⟩,
    ⟨some 29, .move (.tmp 28), 4, none⟩,
    ⟨some 30, .fieldAddr 28 (.tmp 3) 2, 0, some (29, false)⟩,
    ⟨some 31, .load 23 (.tmp 30), 23, some (29, false)⟩,
    ⟨some 32, .call { callee := (.builtin .len), args := #[(.tmp 31)], argTypes := #[23] }, 3, some (29, false)⟩,
    ⟨some 33, .binOp .gtr 3 (.tmp 32) (.const (.int .i64 1000)) 3, 4, some (29, false)⟩,
    ⟨some 34, .pick (.tmp 29) (.const (.bool true)) (.tmp 33), 4, none⟩]
@[go_sem] def c31_2 : Cmd := .ops [⟨some 4, .assign (.const (.bool false)), 4, none⟩]
@[go_sem] def c31_3 : Cmd := .cond (.tmp 34) (.seq c31_2 .ret) .skip
@[go_sem] def c31_4 : Cmd := .ops [⟨some 35, .fieldAddr 28 (.tmp 3) 1, 0, none⟩,
    ⟨some 36, .load 22 (.tmp 35), 22, none⟩,
    ⟨some 37, .call { callee := (.builtin .len), args := #[(.tmp 36)], argTypes := #[22] }, 3, none⟩,
    ⟨some 38, .move (.const (.int .i64 0)), 3, none⟩]
@[go_sem] def c31_5 : Cmd := .ops [⟨some 39, .binOp .lss 3 (.tmp 38) (.tmp 37) 3, 0, none⟩]
@[go_sem] def c31_6 : Cmd := .cond (.tmp 39) .skip (.exit 0)
@[go_sem] def c31_7 : Cmd := .ops [⟨some 40, .indexAddr 22 (.tmp 36) (.tmp 38), 0, none⟩,
    ⟨some 41, .load 3 (.tmp 40), 3, none⟩,
    ⟨some 6, .assign (.tmp 41), 3, none⟩]
@[go_sem] def c31_8 : Cmd := .ops [⟨some 42, .move (.tmp 6), 3, none⟩,
    ⟨some 43, .binOp .lss 3 (.tmp 42) (.const (.int .i64 0)) 3, 4, none⟩,
    ⟨some 44, .move (.tmp 43), 4, none⟩,
    ⟨some 45, .move (.tmp 6), 3, some (44, false)⟩,
    ⟨some 46, .binOp .geq 3 (.tmp 45) (.const (.int .i64 16777216)) 3, 4, some (44, false)⟩,
    ⟨some 47, .pick (.tmp 44) (.const (.bool true)) (.tmp 46), 4, none⟩]
@[go_sem] def c31_9 : Cmd := .ops [⟨some 4, .assign (.const (.bool false)), 4, none⟩]
@[go_sem] def c31_10 : Cmd := .cond (.tmp 47) (.seq c31_9 .ret) .skip
@[go_sem] def c31_11 : Cmd := .block 1 (.seq c31_7 (.seq c31_8 c31_10))
@[go_sem] def c31_12 : Cmd := .ops [⟨some 48, .binOp .add 3 (.tmp 38) (.const (.int .i64 1)) 3, 3, none⟩,
    ⟨some 38, .move (.tmp 48), 3, none⟩]
def c31_L0 : Cmd := (.seq c31_5 (.seq c31_6 (.seq c31_11 c31_12)))
@[go_sem] def c31_13 : Cmd := .loop c31_L0
@[go_sem] def c31_14 : Cmd := .block 0 c31_13
@[go_sem] def c31_15 : Cmd := .ops [⟨some 4, .assign (.const (.bool true)), 4, none⟩]
@[go_sem] def c31 : Cmd := (.seq c31_0 (.seq (.seq c31_1 c31_3) (.seq (.seq c31_4 c31_14) (.seq c31_15 .ret))))
theorem b31 : Tryz.f31.body.map (comp 49) = some c31 := by kernel_rfl
theorem r31 : Tryz.f31.results.toList = [.tmp 4] := by kernel_rfl
@[go_sem] def c32_0 : Cmd := .ops [⟨some 4, .assign (.const (.slice none 0 0)), 53, none⟩]
@[go_sem] def c32_1 : Cmd := .ops [⟨some 5, .move (.tmp 0), 53, none⟩,
    ⟨some 6, .call { callee := (.value (.func 86)), args := #[(.tmp 5), (.const (.int .i64 9))], argTypes := #[53, 3] }, 53, none⟩,
    ⟨some 7, .move (.tmp 1), 3, none⟩,
    ⟨some 8, .call { callee := (.value (.func 85)), args := #[(.tmp 6), (.tmp 7)], argTypes := #[53, 3] }, 53, none⟩,
    ⟨some 4, .assign (.tmp 8), 53, none⟩]
@[go_sem] def c32 : Cmd := (.seq c32_0 (.seq c32_1 .ret))
theorem b32 : Tryz.f32.body.map (comp 9) = some c32 := by kernel_rfl
theorem r32 : Tryz.f32.results.toList = [.tmp 4] := by kernel_rfl
@[go_sem] def c33_0 : Cmd := .ops [⟨some 1, .box 93 (.tmp 0), 0, none⟩,
    ⟨some 2, .assign (.const (.slice none 0 0)), 53, none⟩]
@[go_sem] def c33_1 : Cmd := .ops [⟨some 3, .assign (.const (.slice none 0 0)), 53, none⟩]
@[go_sem] def c33_2 : Cmd := .ops [⟨some 6, .load 93 (.tmp 1), 93, none⟩,
    ⟨some 7, .move (.const (.int .i64 0)), 3, none⟩]
@[go_sem] def c33_3 : Cmd := .ops [⟨some 8, .binOp .lss 3 (.tmp 7) (.const (.int .i64 4)) 3, 0, none⟩]
@[go_sem] def c33_4 : Cmd := .cond (.tmp 8) .skip (.exit 0)
@[go_sem] def c33_5 : Cmd := .ops [⟨some 9, .index 93 (.tmp 6) (.tmp 7), 3, none⟩,
    ⟨some 5, .assign (.tmp 9), 3, none⟩]
@[go_sem] def c33_6 : Cmd := .ops [⟨some 10, .move (.tmp 3), 53, none⟩,
    ⟨some 11, .move (.tmp 5), 3, none⟩,
    ⟨some 12, .binOp .shr 3 (.tmp 11) (.const (.int .u64 24)) 139, 3, none⟩,
    ⟨some 13, .convert 3 5 (.tmp 12), 5, none⟩,
    ⟨some 14, .move (.tmp 5), 3, none⟩,
    ⟨some 15, .binOp .shr 3 (.tmp 14) (.const (.int .u64 16)) 139, 3, none⟩,
    ⟨some 16, .convert 3 5 (.tmp 15), 5, none⟩,
    ⟨some 17, .move (.tmp 5), 3, none⟩,
    ⟨some 18, .binOp .shr 3 (.tmp 17) (.const (.int .u64 8)) 139, 3, none⟩,
    ⟨some 19, .convert 3 5 (.tmp 18), 5, none⟩,
    ⟨some 20, .move (.tmp 5), 3, none⟩,
    ⟨some 21, .convert 3 5 (.tmp 20), 5, none⟩,
    ⟨some 22, .buildSlice 53 4 #[(0, (.tmp 13)), (1, (.tmp 16)), (2, (.tmp 19)), (3, (.tmp 21))], 53, none⟩,
    ⟨some 23, .call { callee := (.builtin .append), args := #[(.tmp 10), (.tmp 22)], argTypes := #[53, 53] }, 53, none⟩,
    ⟨some 3, .assign (.tmp 23), 53, none⟩]
@[go_sem] def c33_7 : Cmd := .block 1 (.seq c33_5 c33_6)
@[go_sem] def c33_8 : Cmd := .ops [⟨some 24, .binOp .add 3 (.tmp 7) (.const (.int .i64 1)) 3, 3, none⟩,
    ⟨some 7, .move (.tmp 24), 3, none⟩]
def c33_L0 : Cmd := (.seq c33_3 (.seq c33_4 (.seq c33_7 c33_8)))
@[go_sem] def c33_9 : Cmd := .loop c33_L0
@[go_sem] def c33_10 : Cmd := .block 0 c33_9
@[go_sem] def c33_11 : Cmd := .ops [⟨some 25, .move (.tmp 3), 53, none⟩,
    ⟨some 2, .assign (.tmp 25), 53, none⟩]
@[go_sem] def c33 : Cmd := (.seq c33_0 (.seq c33_1 (.seq (.seq c33_2 c33_10) (.seq c33_11 .ret))))
theorem b33 : Tryz.f33.body.map (comp 26) = some c33 := by kernel_rfl
theorem r33 : Tryz.f33.results.toList = [.tmp 2] := by kernel_rfl
@[go_sem] def c34_0 : Cmd := .ops [⟨some 4, .box 25 (.tmp 0), 0, none⟩,
    ⟨some 5, .box 9 (.tmp 1), 0, none⟩,
    ⟨some 6, .box 53 (.tmp 2), 0, none⟩,
    ⟨some 8, .assign (.const (.int .i64 0)), 54, none⟩]
@[go_sem] def c34_1 : Cmd := .ops [⟨some 18, .load 9 (.tmp 5), 9, none⟩,
    ⟨some 19, .binOp .add 9 (.const (.string ⟨#[116, 46]⟩)) (.tmp 18) 9, 9, none⟩,
    ⟨some 9, .alloc 9, 0, none⟩,
    ⟨none, .store 9 (.tmp 9) (.tmp 19), 0, none⟩]
@[go_sem] def c34_2 : Cmd := .ops [⟨some 20, .load 25 (.tmp 4), 25, none⟩,
    ⟨some 21, .load 9 (.tmp 9), 9, none⟩,
    ⟨some 22, .call { callee := (.value (.func 87)), args := #[(.tmp 20), (.tmp 21)], argTypes := #[25, 9] }, 4, none⟩,
    ⟨some 10, .assign (.tmp 22), 4, none⟩]
@[go_sem] def c34_3 : Cmd := .ops [⟨some 11, .alloc 141, 0, none⟩]
@[go_sem] def c34_4 : Cmd := .ops [⟨some 23, .makeFunc (.func 88) #[] #[(.tmp 4), (.tmp 9), (.tmp 6), (.tmp 11)], 134, none⟩,
    ⟨some 24, .buildSlice 144 1 #[(0, (.tmp 23))], 144, none⟩,
    ⟨some 12, .assign (.tmp 24), 144, none⟩]
@[go_sem] def c34_5 : Cmd := .ops [⟨some 25, .move (.tmp 3), 32, none⟩,
    ⟨some 26, .call { callee := (.builtin .len), args := #[(.tmp 25)], argTypes := #[32] }, 3, none⟩,
    ⟨some 27, .move (.const (.int .i64 0)), 3, none⟩]
@[go_sem] def c34_6 : Cmd := .ops [⟨some 28, .binOp .lss 3 (.tmp 27) (.tmp 26) 3, 0, none⟩]
@[go_sem] def c34_7 : Cmd := .cond (.tmp 28) .skip (.exit 0)
@[go_sem] def c34_8 : Cmd := .ops [⟨some 29, .indexAddr 32 (.tmp 25) (.tmp 27), 0, none⟩,
    ⟨some 30, .load 53 (.tmp 29), 53, none⟩,
    ⟨some 14, .alloc 53, 0, none⟩,
    ⟨none, .store 53 (.tmp 14) (.tmp 30), 0, none⟩]
@[go_sem] def c34_9 : Cmd := .ops [⟨some 31, .move (.tmp 12), 144, none⟩,
    ⟨some 32, .makeFunc (.func 90) #[] #[(.tmp 11), (.tmp 14)], 134, none⟩,
    ⟨some 33, .buildSlice 144 1 #[(0, (.tmp 32))], 144, none⟩,
    ⟨some 34, .call { callee := (.builtin .append), args := #[(.tmp 31), (.tmp 33)], argTypes := #[144, 144] }, 144, none⟩,
    ⟨some 12, .assign (.tmp 34), 144, none⟩]
@[go_sem] def c34_10 : Cmd := .block 1 (.seq c34_8 c34_9)
@[go_sem] def c34_11 : Cmd := .ops [⟨some 35, .binOp .add 3 (.tmp 27) (.const (.int .i64 1)) 3, 3, none⟩,
    ⟨some 27, .move (.tmp 35), 3, none⟩]
def c34_L0 : Cmd := (.seq c34_6 (.seq c34_7 (.seq c34_10 c34_11)))
@[go_sem] def c34_12 : Cmd := .loop c34_L0
@[go_sem] def c34_13 : Cmd := .block 0 c34_12
@[go_sem] def c34_14 : Cmd := .ops [⟨some 36, .move (.tmp 12), 144, none⟩,
    ⟨some 37, .makeFunc (.func 92) #[] #[(.tmp 11)], 134, none⟩,
    ⟨some 38, .makeFunc (.func 94) #[] #[(.tmp 4), (.tmp 9), (.tmp 5)], 134, none⟩,
    ⟨some 39, .load 25 (.tmp 4), 25, none⟩,
    ⟨some 40, .makeFunc (.func 70) #[(.tmp 39)] #[], 134, none⟩,
    ⟨some 41, .buildSlice 144 3 #[(0, (.tmp 37)), (1, (.tmp 38)), (2, (.tmp 40))], 144, none⟩,
    ⟨some 42, .call { callee := (.builtin .append), args := #[(.tmp 36), (.tmp 41)], argTypes := #[144, 144] }, 144, none⟩,
    ⟨some 12, .assign (.tmp 42), 144, none⟩]
@[go_sem] def c34_15 : Cmd := .ops [⟨some 43, .move (.tmp 12), 144, none⟩,
    ⟨some 44, .call { callee := (.builtin .len), args := #[(.tmp 43)], argTypes := #[144] }, 3, none⟩,
    ⟨some 45, .move (.const (.int .i64 0)), 3, none⟩]
@[go_sem] def c34_16 : Cmd := .ops [⟨some 46, .binOp .lss 3 (.tmp 45) (.tmp 44) 3, 0, none⟩]
@[go_sem] def c34_17 : Cmd := .cond (.tmp 46) .skip (.exit 2)
@[go_sem] def c34_18 : Cmd := .ops [⟨some 47, .indexAddr 144 (.tmp 43) (.tmp 45), 0, none⟩,
    ⟨some 48, .load 134 (.tmp 47), 134, none⟩,
    ⟨some 16, .assign (.tmp 48), 134, none⟩]
@[go_sem] def c34_19 : Cmd := .ops [⟨some 49, .move (.tmp 16), 134, none⟩,
    ⟨some 50, .call { callee := (.value (.tmp 49)), args := #[], argTypes := #[] }, 54, none⟩,
    ⟨some 17, .assign (.tmp 50), 54, none⟩]
@[go_sem] def c34_20 : Cmd := .ops [⟨some 51, .move (.tmp 17), 54, none⟩,
    ⟨some 52, .binOp .neq 54 (.tmp 51) (.const (.int .i64 0)) 54, 4, none⟩]
@[go_sem] def c34_21 : Cmd := .ops [⟨some 53, .move (.tmp 17), 54, none⟩,
    ⟨some 54, .binOp .neq 54 (.tmp 53) (.const (.int .i64 81)) 54, 4, none⟩,
    ⟨some 55, .move (.tmp 54), 4, none⟩,
    ⟨some 56, .move (.tmp 10), 4, some (55, true)⟩,
    ⟨some 57, .unOp .not 4 (.tmp 56), 4, some (55, true)⟩,
    ⟨some 58, .pick (.tmp 55) (.tmp 57) (.const (.bool false)), 4, none⟩,
    ⟨some 59, .move (.tmp 58), 4, none⟩,
    ⟨some 60, .load 25 (.tmp 4), 25, some (59, true)⟩,
    ⟨some 61, .load 9 (.tmp 9), 9, some (59, true)⟩,
    ⟨some 62, .call { callee := (.value (.func 87)), args := #[(.tmp 60), (.tmp 61)], argTypes := #[25, 9] }, 4, some (59, true)⟩,
    ⟨some 63, .pick (.tmp 59) (.tmp 62) (.const (.bool false)), 4, none⟩,
    ⟨some 64, .move (.tmp 63), 4, none⟩,
    ⟨some 65, .load 25 (.tmp 4), 25, some (64, true)⟩,
    ⟨some 66, .load 9 (.tmp 9), 9, some (64, true)⟩,
    ⟨some 67, .call { callee := (.value (.func 68)), args := #[(.tmp 65), (.tmp 66)], argTypes := #[25, 9] }, 54, some (64, true)⟩,
    ⟨some 68, .binOp .eql 54 (.tmp 67) (.const (.int .i64 81)) 54, 4, some (64, true)⟩,
    ⟨some 69, .pick (.tmp 64) (.tmp 68) (.const (.bool false)), 4, none⟩]
@[go_sem] def c34_22 : Cmd := .ops [⟨some 8, .assign (.const (.int .i64 81)), 54, none⟩]
@[go_sem] def c34_23 : Cmd := .cond (.tmp 69) (.seq c34_22 .ret) .skip
@[go_sem] def c34_24 : Cmd := .ops [⟨some 70, .move (.tmp 17), 54, none⟩,
    ⟨some 8, .assign (.tmp 70), 54, none⟩]
@[go_sem] def c34_25 : Cmd := .cond (.tmp 52) (.seq (.seq c34_21 c34_23) (.seq c34_24 .ret)) .skip
@[go_sem] def c34_26 : Cmd := .block 3 (.seq c34_18 (.seq c34_19 (.seq c34_20 c34_25)))
@[go_sem] def c34_27 : Cmd := .ops [⟨some 71, .binOp .add 3 (.tmp 45) (.const (.int .i64 1)) 3, 3, none⟩,
    ⟨some 45, .move (.tmp 71), 3, none⟩]
def c34_L1 : Cmd := (.seq c34_16 (.seq c34_17 (.seq c34_26 c34_27)))
@[go_sem] def c34_28 : Cmd := .loop c34_L1
@[go_sem] def c34_29 : Cmd := .block 2 c34_28
@[go_sem] def c34_30 : Cmd := .ops [⟨some 8, .assign (.const (.int .i64 0)), 54, none⟩]
@[go_sem] def c34 : Cmd := (.seq c34_0 (.seq c34_1 (.seq c34_2 (.seq c34_3 (.seq c34_4 (.seq (.seq c34_5 c34_13) (.seq c34_14 (.seq (.seq c34_15 c34_29) (.seq c34_30 .ret)))))))))
theorem b34 : Tryz.f34.body.map (comp 72) = some c34 := by kernel_rfl
theorem r34 : Tryz.f34.results.toList = [.tmp 8] := by kernel_rfl
@[go_sem] def c38_0 : Cmd := .ops [⟨some 2, .alloc 93, 0, none⟩,
    ⟨some 3, .assign (.const (.bool false)), 4, none⟩]
@[go_sem] def c38_1 : Cmd := .ops [⟨some 4, .alloc 93, 0, none⟩]
@[go_sem] def c38_2 : Cmd := .ops [⟨some 7, .move (.tmp 0), 53, none⟩,
    ⟨some 8, .call { callee := (.builtin .len), args := #[(.tmp 7)], argTypes := #[53] }, 3, none⟩,
    ⟨some 9, .binOp .neq 3 (.tmp 8) (.const (.int .i64 16)) 3, 4, none⟩]
@[go_sem] def c38_3 : Cmd := .ops [⟨some 10, .load 93 (.tmp 4), 93, none⟩,
    ⟨none, .store 93 (.tmp 2) (.tmp 10), 0, none⟩,
    ⟨some 3, .assign (.const (.bool false)), 4, none⟩]
@[go_sem] def c38_4 : Cmd := .cond (.tmp 9) (.seq c38_3 .ret) .skip
@[go_sem] def c38_5 : Cmd := .ops [⟨some 11, .move (.const (.int .i64 0)), 3, none⟩]
@[go_sem] def c38_6 : Cmd := .ops [⟨some 12, .binOp .lss 3 (.tmp 11) (.const (.int .i64 4)) 3, 0, none⟩]
@[go_sem] def c38_7 : Cmd := .cond (.tmp 12) .skip (.exit 0)
@[go_sem] def c38_8 : Cmd := .ops [⟨some 13, .move (.tmp 11), 3, none⟩,
    ⟨some 5, .assign (.tmp 13), 3, none⟩]
@[go_sem] def c38_9 : Cmd := .ops [⟨some 14, .move (.tmp 0), 53, none⟩,
    ⟨some 15, .move (.tmp 5), 3, none⟩,
    ⟨some 16, .binOp .mul 3 (.const (.int .i64 4)) (.tmp 15) 3, 3, none⟩,
    ⟨some 17, .move (.tmp 5), 3, none⟩,
    ⟨some 18, .binOp .mul 3 (.const (.int .i64 4)) (.tmp 17) 3, 3, none⟩,
    ⟨some 19, .binOp .add 3 (.tmp 18) (.const (.int .i64 4)) 3, 3, none⟩,
    ⟨some 20, .move (.tmp 5), 3, none⟩,
    ⟨some 21, .binOp .mul 3 (.const (.int .i64 4)) (.tmp 20) 3, 3, none⟩,
    ⟨some 22, .binOp .add 3 (.tmp 21) (.const (.int .i64 4)) 3, 3, none⟩,
    ⟨some 23, .slice 53 (.tmp 14) (some (.tmp 16)) (some (.tmp 19)) (some (.tmp 22)), 53, none⟩,
    ⟨some 6, .assign (.tmp 23), 53, none⟩]
@[go_sem] def c38_10 : Cmd := .still 23 [⟨some 24, .move (.tmp 5), 3, none⟩,
    ⟨some 25, .move (.tmp 6), 53, none⟩,
    ⟨some 26, .indexAddr 53 (.tmp 25) (.const (.int .i64 0)), 0, none⟩,
    ⟨some 27, .load 5 (.tmp 26), 5, none⟩,
    ⟨some 28, .convert 5 3 (.tmp 27), 3, none⟩,
    ⟨some 29, .binOp .shl 3 (.tmp 28) (.const (.int .u64 24)) 139, 3, none⟩,
    ⟨some 30, .move (.tmp 6), 53, none⟩,
    ⟨some 31, .indexAddr 53 (.tmp 30) (.const (.int .i64 1)), 0, none⟩,
    ⟨some 32, .load 5 (.tmp 31), 5, none⟩,
    ⟨some 33, .convert 5 3 (.tmp 32), 3, none⟩,
    ⟨some 34, .binOp .shl 3 (.tmp 33) (.const (.int .u64 16)) 139, 3, none⟩,
    ⟨some 35, .binOp .add 3 (.tmp 29) (.tmp 34) 3, 3, none⟩,
    ⟨some 36, .move (.tmp 6), 53, none⟩,
    ⟨some 37, .indexAddr 53 (.tmp 36) (.const (.int .i64 2)), 0, none⟩,
    ⟨some 38, .load 5 (.tmp 37), 5, none⟩,
    ⟨some 39, .convert 5 3 (.tmp 38), 3, none⟩,
    ⟨some 40, .binOp .shl 3 (.tmp 39) (.const (.int .u64 8)) 139, 3, none⟩,
    ⟨some 41, .binOp .add 3 (.tmp 35) (.tmp 40) 3, 3, none⟩,
    ⟨some 42, .move (.tmp 6), 53, none⟩,
    ⟨some 43, .indexAddr 53 (.tmp 42) (.const (.int .i64 3)), 0, none⟩,
    ⟨some 44, .load 5 (.tmp 43), 5, none⟩,
    ⟨some 45, .convert 5 3 (.tmp 44), 3, none⟩,
    ⟨some 46, .binOp .add 3 (.tmp 41) (.tmp 45) 3, 3, none⟩,
    ⟨some 47, .indexAddr 93 (.tmp 4) (.tmp 24), 0, none⟩,
    ⟨none, .store 3 (.tmp 47) (.tmp 46), 0, none⟩]
@[go_sem] def c38_11 : Cmd := .block 1 (.seq c38_8 (.seq c38_9 c38_10))
@[go_sem] def c38_12 : Cmd := .ops [⟨some 48, .binOp .add 3 (.tmp 11) (.const (.int .i64 1)) 3, 3, none⟩,
    ⟨some 11, .move (.tmp 48), 3, none⟩]
def c38_L0 : Cmd := (.seq c38_6 (.seq c38_7 (.seq c38_11 c38_12)))
@[go_sem] def c38_13 : Cmd := .loop c38_L0
@[go_sem] def c38_14 : Cmd := .block 0 c38_13
@[go_sem] def c38_15 : Cmd := .ops [⟨some 49, .load 93 (.tmp 4), 93, none⟩,
    ⟨none, .store 93 (.tmp 2) (.tmp 49), 0, none⟩,
    ⟨some 3, .assign (.const (.bool true)), 4, none⟩]
@[go_sem] def c38 : Cmd := (.seq c38_0 (.seq c38_1 (.seq (.seq c38_2 c38_4) (.seq (.seq c38_5 c38_14) (.seq c38_15 .ret)))))
theorem b38 : Tryz.f38.body.map (comp 50) = some c38 := by kernel_rfl
theorem r38 : Tryz.f38.results.toList = [.cell 2 93, .tmp 3] := by kernel_rfl
@[go_sem] def c39_0 : Cmd := .ops [⟨some 4, .assign (.const (.slice none 0 0)), 22, none⟩,
    ⟨some 5, .assign (.const (.slice none 0 0)), 32, none⟩,
    ⟨some 6, .assign (.const (.bool false)), 4, none⟩]
@[go_sem] def c39_1 : Cmd := .ops [⟨some 7, .assign (.const (.slice none 0 0)), 22, none⟩]
@[go_sem] def c39_2 : Cmd := .ops [⟨some 12, .move (.tmp 7), 22, none⟩,
    ⟨some 13, .call { callee := (.builtin .len), args := #[(.tmp 12)], argTypes := #[22] }, 3, none⟩,
    ⟨some 14, .move (.tmp 0), 3, none⟩,
    ⟨some 15, .binOp .lss 3 (.tmp 13) (.tmp 14) 3, 4, none⟩]
@[go_sem] def c39_3 : Cmd := .cond (.tmp 15) .skip (.exit 0)
@[go_sem] def c39_4 : Cmd := .ops [⟨some 16, .move (.tmp 1), 32, none⟩,
    ⟨some 17, .call { callee := (.builtin .len), args := #[(.tmp 16)], argTypes := #[32] }, 3, none⟩,
    ⟨some 18, .binOp .eql 3 (.tmp 17) (.const (.int .i64 0)) 3, 4, none⟩]
@[go_sem] def c39_5 : Cmd := .ops [⟨some 4, .assign (.const (.slice none 0 0)), 22, none⟩,
    ⟨some 5, .assign (.const (.slice none 0 0)), 32, none⟩,
    ⟨some 6, .assign (.const (.bool false)), 4, none⟩]
@[go_sem] def c39_6 : Cmd := .cond (.tmp 18) (.seq c39_5 .ret) .skip
@[go_sem] def c39_7 : Cmd := .ops [⟨some 19, .move (.tmp 1), 32, none⟩,
    ⟨some 20, .indexAddr 32 (.tmp 19) (.const (.int .i64 0)), 0, none⟩,
    ⟨some 21, .load 53 (.tmp 20), 53, none⟩,
    ⟨some 22, .call { callee := (.value (.func 97)), args := #[(.tmp 21)], argTypes := #[53] }, 151, none⟩,
    ⟨some 8, .assign (.tmp 22), 151, none⟩]
@[go_sem] def c39_8 : Cmd := .ops [⟨some 23, .move (.tmp 1), 32, none⟩,
    ⟨some 24, .slice 32 (.tmp 23) (some (.const (.int .i64 1))) none none, 32, none⟩,
    ⟨some 1, .assign (.tmp 24), 32, none⟩]
@[go_sem] def c39_9 : Cmd := .ops [⟨some 25, .move (.tmp 0), 3, none⟩,
    ⟨some 26, .move (.tmp 7), 22, none⟩,
    ⟨some 27, .call { callee := (.builtin .len), args := #[(.tmp 26)], argTypes := #[22] }, 3, none⟩,
    ⟨some 28, .binOp .sub 3 (.tmp 25) (.tmp 27) 3, 3, none⟩,
    ⟨some 29, .call { callee := (.builtin .min), args := #[(.const (.int .i64 200)), (.tmp 28)], argTypes := #[3, 3] }, 3, none⟩,
    ⟨some 9, .assign (.tmp 29), 3, none⟩]
@[go_sem] def c39_10 : Cmd := .ops [⟨some 30, .move (.tmp 9), 3, none⟩,
    ⟨some 31, .binOp .gtr 3 (.tmp 30) (.const (.int .i64 0)) 3, 4, none⟩]
@[go_sem] def c39_11 : Cmd := .cond (.tmp 31) .skip (.exit 2)
@[go_sem] def c39_12 : Cmd := .ops [⟨some 34, .move (.tmp 7), 22, none⟩,
    ⟨some 35, .move (.tmp 8), 151, none⟩,
    ⟨some 36, .call { callee := (.value (.func 98)), args := #[(.tmp 35)], argTypes := #[151] }, 3, none⟩,
    ⟨some 37, .buildSlice 22 1 #[(0, (.tmp 36))], 22, none⟩,
    ⟨some 38, .call { callee := (.builtin .append), args := #[(.tmp 34), (.tmp 37)], argTypes := #[22, 22] }, 22, none⟩,
    ⟨some 7, .assign (.tmp 38), 22, none⟩]
@[go_sem] def c39_13 : Cmd := .block 3 c39_12
@[go_sem] def c39_14 : Cmd := .ops [⟨some 32, .move (.tmp 9), 3, none⟩,
    ⟨some 33, .binOp .sub 3 (.tmp 32) (.const (.int .i64 1)) 3, 3, none⟩,
    ⟨some 9, .assign (.tmp 33), 3, none⟩]
def c39_L0 : Cmd := (.seq (.seq c39_10 c39_11) (.seq c39_13 c39_14))
@[go_sem] def c39_15 : Cmd := .loop c39_L0
@[go_sem] def c39_16 : Cmd := .block 2 c39_15
@[go_sem] def c39_17 : Cmd := .ops [⟨some 40, .move (.tmp 8), 151, none⟩,
    ⟨some 41, .call { callee := (.value (.func 99)), args := #[(.tmp 40)], argTypes := #[151] }, 153, none⟩,
    ⟨some 39, .move (.tmp 41), 153, none⟩,
    ⟨some 42, .extract (.tmp 39) 0, 54, none⟩,
    ⟨some 43, .extract (.tmp 39) 1, 3, none⟩,
    ⟨some 10, .assign (.tmp 42), 54, none⟩,
    ⟨some 11, .assign (.tmp 43), 3, none⟩]
@[go_sem] def c39_18 : Cmd := .ops [⟨some 44, .move (.tmp 10), 54, none⟩,
    ⟨some 45, .binOp .neq 54 (.tmp 44) (.const (.int .i64 0)) 54, 4, none⟩,
    ⟨some 46, .move (.tmp 45), 4, none⟩,
    ⟨some 47, .move (.tmp 8), 151, some (46, false)⟩,
    ⟨some 48, .call { callee := (.value (.func 100)), args := #[(.tmp 47)], argTypes := #[151] }, 3, some (46, false)⟩,
    ⟨some 49, .binOp .gtr 3 (.tmp 48) (.const (.int .i64 0)) 3, 4, some (46, false)⟩,
    ⟨some 50, .pick (.tmp 46) (.const (.bool true)) (.tmp 49), 4, none⟩]
@[go_sem] def c39_19 : Cmd := .ops [⟨some 4, .assign (.const (.slice none 0 0)), 22, none⟩,
    ⟨some 5, .assign (.const (.slice none 0 0)), 32, none⟩,
    ⟨some 6, .assign (.const (.bool false)), 4, none⟩]
@[go_sem] def c39_20 : Cmd := .cond (.tmp 50) (.seq c39_19 .ret) .skip
@[go_sem] def c39_21 : Cmd := .block 1 (.seq (.seq c39_4 c39_6) (.seq c39_7 (.seq c39_8 (.seq (.seq c39_9 c39_16) (.seq c39_17 (.seq c39_18 c39_20))))))
def c39_L1 : Cmd := (.seq (.seq c39_2 c39_3) c39_21)
@[go_sem] def c39_22 : Cmd := .loop c39_L1
@[go_sem] def c39_23 : Cmd := .block 0 c39_22
@[go_sem] def c39_24 : Cmd := .ops [⟨some 51, .move (.tmp 7), 22, none⟩,
    ⟨some 52, .move (.tmp 1), 32, none⟩,
    ⟨some 4, .assign (.tmp 51), 22, none⟩,
    ⟨some 5, .assign (.tmp 52), 32, none⟩,
    ⟨some 6, .assign (.const (.bool true)), 4, none⟩]
@[go_sem] def c39 : Cmd := (.seq c39_0 (.seq c39_1 (.seq c39_23 (.seq c39_24 .ret))))
theorem b39 : Tryz.f39.body.map (comp 53) = some c39 := by kernel_rfl
theorem r39 : Tryz.f39.results.toList = [.tmp 4, .tmp 5, .tmp 6] := by kernel_rfl
@[go_sem] def c40_0 : Cmd := .ops [⟨some 4, .assign (.const (.slice none 0 0)), 23, none⟩,
    ⟨some 5, .assign (.const (.bool false)), 4, none⟩]
@[go_sem] def c40_1 : Cmd := .ops [⟨some 9, .move (.tmp 0), 3, none⟩,
    ⟨some 10, .binOp .eql 3 (.tmp 9) (.const (.int .i64 0)) 3, 4, none⟩]
@[go_sem] def c40_2 : Cmd := .ops [⟨some 11, .move (.tmp 1), 32, none⟩,
    ⟨some 12, .call { callee := (.builtin .len), args := #[(.tmp 11)], argTypes := #[32] }, 3, none⟩,
    ⟨some 13, .binOp .eql 3 (.tmp 12) (.const (.int .i64 0)) 3, 4, none⟩,
    ⟨some 4, .assign (.const (.slice none 0 0)), 23, none⟩,
    ⟨some 5, .assign (.tmp 13), 4, none⟩]
@[go_sem] def c40_3 : Cmd := .cond (.tmp 10) (.seq c40_2 .ret) .skip
@[go_sem] def c40_4 : Cmd := .ops [⟨some 14, .move (.tmp 1), 32, none⟩,
    ⟨some 15, .call { callee := (.builtin .len), args := #[(.tmp 14)], argTypes := #[32] }, 3, none⟩,
    ⟨some 16, .binOp .neq 3 (.tmp 15) (.const (.int .i64 1)) 3, 4, none⟩,
    ⟨some 17, .move (.tmp 16), 4, none⟩,
    ⟨some 18, .move (.tmp 1), 32, some (17, false)⟩,
    ⟨some 19, .indexAddr 32 (.tmp 18) (.const (.int .i64 0)), 0, some (17, false)⟩,
    ⟨some 20, .load 53 (.tmp 19), 53, some (17, false)⟩,
    ⟨some 21, .call { callee := (.builtin .len), args := #[(.tmp 20)], argTypes := #[53] }, 3, some (17, false)⟩,
    ⟨some 22, .move (.tmp 0), 3, some (17, false)⟩,
    ⟨some 23, .binOp .neq 3 (.tmp 21) (.tmp 22) 3, 4, some (17, false)⟩,
    ⟨some 24, .pick (.tmp 17) (.const (.bool true)) (.tmp 23), 4, none⟩]
@[go_sem] def c40_5 : Cmd := .ops [⟨some 4, .assign (.const (.slice none 0 0)), 23, none⟩,
    ⟨some 5, .assign (.const (.bool false)), 4, none⟩]
@[go_sem] def c40_6 : Cmd := .cond (.tmp 24) (.seq c40_5 .ret) .skip
@[go_sem] def c40_7 : Cmd := .ops [⟨some 25, .move (.tmp 0), 3, none⟩,
    ⟨some 26, .makeSlice 23 (.tmp 25) (.tmp 25), 23, none⟩,
    ⟨some 6, .assign (.tmp 26), 23, none⟩]
@[go_sem] def c40_8 : Cmd := .ops [⟨some 27, .move (.tmp 1), 32, none⟩,
    ⟨some 28, .indexAddr 32 (.tmp 27) (.const (.int .i64 0)), 0, none⟩,
    ⟨some 29, .load 53 (.tmp 28), 53, none⟩,
    ⟨some 30, .call { callee := (.builtin .len), args := #[(.tmp 29)], argTypes := #[53] }, 3, none⟩,
    ⟨some 31, .move (.const (.int .i64 0)), 3, none⟩]
@[go_sem] def c40_9 : Cmd := .ops [⟨some 32, .binOp .lss 3 (.tmp 31) (.tmp 30) 3, 0, none⟩]
@[go_sem] def c40_10 : Cmd := .cond (.tmp 32) .skip (.exit 0)
@[go_sem] def c40_11 : Cmd := .ops [⟨some 33, .move (.tmp 31), 3, none⟩,
    ⟨some 34, .indexAddr 53 (.tmp 29) (.tmp 31), 0, none⟩,
    ⟨some 35, .load 5 (.tmp 34), 5, none⟩,
    ⟨some 7, .assign (.tmp 33), 3, none⟩,
    ⟨some 8, .assign (.tmp 35), 5, none⟩]
@[go_sem] def c40_12 : Cmd := .ops [⟨some 36, .move (.tmp 8), 5, none⟩,
    ⟨some 37, .binOp .gtr 5 (.tmp 36) (.const (.int .u8 1)) 5, 4, none⟩]
@[go_sem] def c40_13 : Cmd := .ops [⟨some 4, .assign (.const (.slice none 0 0)), 23, none⟩,
    ⟨some 5, .assign (.const (.bool false)), 4, none⟩]
@[go_sem] def c40_14 : Cmd := .cond (.tmp 37) (.seq c40_13 .ret) .skip
@[go_sem] def c40_15 : Cmd := .ops [⟨some 38, .move (.tmp 6), 23, none⟩,
    ⟨some 39, .move (.tmp 7), 3, none⟩,
    ⟨some 40, .move (.tmp 8), 5, none⟩,
    ⟨some 41, .binOp .eql 5 (.tmp 40) (.const (.int .u8 1)) 5, 4, none⟩,
    ⟨some 42, .indexAddr 23 (.tmp 38) (.tmp 39), 0, none⟩,
    ⟨none, .store 4 (.tmp 42) (.tmp 41), 0, none⟩]
@[go_sem] def c40_16 : Cmd := .block 1 (.seq c40_11 (.seq (.seq c40_12 c40_14) c40_15))
@[go_sem] def c40_17 : Cmd := .ops [⟨some 43, .binOp .add 3 (.tmp 31) (.const (.int .i64 1)) 3, 3, none⟩,
    ⟨some 31, .move (.tmp 43), 3, none⟩]
def c40_L0 : Cmd := (.seq c40_9 (.seq c40_10 (.seq c40_16 c40_17)))
@[go_sem] def c40_18 : Cmd := .loop c40_L0
@[go_sem] def c40_19 : Cmd := .block 0 c40_18
@[go_sem] def c40_20 : Cmd := .ops [⟨some 44, .move (.tmp 6), 23, none⟩,
    ⟨some 4, .assign (.tmp 44), 23, none⟩,
    ⟨some 5, .assign (.const (.bool true)), 4, none⟩]
@[go_sem] def c40 : Cmd := (.seq c40_0 (.seq (.seq c40_1 c40_3) (.seq (.seq c40_4 c40_6) (.seq c40_7 (.seq (.seq c40_8 c40_19) (.seq c40_20 .ret))))))
theorem b40 : Tryz.f40.body.map (comp 45) = some c40 := by kernel_rfl
theorem r40 : Tryz.f40.results.toList = [.tmp 4, .tmp 5] := by kernel_rfl
@[go_sem] def c41_0 : Cmd := .ops [⟨some 2, .assign (.const (.bool false)), 4, none⟩]
@[go_sem] def c41_1 : Cmd := .ops [⟨some 3, .move (.tmp 0), 25, none⟩,
    ⟨some 4, .nilCheck (.tmp 3), 0, none⟩,
    ⟨some 5, .fieldAddr 89 (.tmp 4) 5, 0, none⟩,
    ⟨some 6, .load 4 (.tmp 5), 4, none⟩,
    ⟨some 7, .unOp .not 4 (.tmp 6), 4, none⟩,
    ⟨some 2, .assign (.tmp 7), 4, none⟩]
@[go_sem] def c41 : Cmd := (.seq c41_0 (.seq c41_1 .ret))
theorem b41 : Tryz.f41.body.map (comp 8) = some c41 := by kernel_rfl
theorem r41 : Tryz.f41.results.toList = [.tmp 2] := by kernel_rfl
@[go_sem] def c42_0 : Cmd := .ops [⟨some 4, .alloc 53, 0, none⟩,
    ⟨some 5, .alloc 32, 0, none⟩,
    ⟨some 6, .alloc 54, 0, none⟩]
@[go_sem] def c42_1 : Cmd := .ops [⟨some 14, .move (.tmp 0), 25, none⟩,
    ⟨some 15, .move (.tmp 1), 9, none⟩,
    ⟨some 16, .call { callee := (.value (.func 101)), args := #[(.tmp 14), (.tmp 15)], argTypes := #[25, 9] }, 156, none⟩,
    ⟨some 13, .move (.tmp 16), 156, none⟩,
    ⟨some 17, .extract (.tmp 13) 0, 155, none⟩,
    ⟨some 18, .extract (.tmp 13) 1, 53, none⟩,
    ⟨some 19, .extract (.tmp 13) 2, 54, none⟩,
    ⟨some 7, .assign (.tmp 17), 155, none⟩,
    ⟨some 8, .assign (.tmp 18), 53, none⟩,
    ⟨some 9, .assign (.tmp 19), 54, none⟩]
@[go_sem] def c42_2 : Cmd := .ops [⟨some 20, .move (.tmp 9), 54, none⟩,
    ⟨some 21, .binOp .neq 54 (.tmp 20) (.const (.int .i64 0)) 54, 4, none⟩]
@[go_sem] def c42_3 : Cmd := .ops [⟨some 22, .move (.tmp 9), 54, none⟩,
    ⟨none, .store 53 (.tmp 4) (.const (.slice none 0 0)), 0, none⟩,
    ⟨none, .store 32 (.tmp 5) (.const (.slice none 0 0)), 0, none⟩,
    ⟨none, .store 54 (.tmp 6) (.tmp 22), 0, none⟩]
@[go_sem] def c42_4 : Cmd := .cond (.tmp 21) (.seq c42_3 .ret) .skip
@[go_sem] def c42_5 : Cmd := .ops [⟨some 10, .alloc 32, 0, none⟩]
@[go_sem] def c42_6 : Cmd := .ops [⟨some 23, .move (.tmp 7), 155, none⟩,
    ⟨some 24, .call { callee := (.value (.func 102)), args := #[(.tmp 23)], argTypes := #[155] }, 159, none⟩]
@[go_sem] def c42_7 : Cmd := .ops [⟨some 11, .assign (.tmp 25), 53, none⟩]
@[go_sem] def c42_8 : Cmd := .ops [⟨some 12, .assign (.tmp 26), 54, none⟩]
def c42_L0 : Cmd := (.seq c42_7 c42_8)
@[go_sem] def c42_9 : Cmd := .ops [⟨some 27, .move (.tmp 12), 54, none⟩,
    ⟨some 28, .binOp .neq 54 (.tmp 27) (.const (.int .i64 0)) 54, 4, none⟩]
@[go_sem] def c42_10 : Cmd := .ops [⟨some 29, .move (.tmp 12), 54, none⟩,
    ⟨none, .store 53 (.tmp 4) (.const (.slice none 0 0)), 0, none⟩,
    ⟨none, .store 32 (.tmp 5) (.const (.slice none 0 0)), 0, none⟩,
    ⟨none, .store 54 (.tmp 6) (.tmp 29), 0, none⟩]
@[go_sem] def c42_11 : Cmd := .cond (.tmp 28) (.seq c42_10 .ret) .skip
@[go_sem] def c42_12 : Cmd := .ops [⟨some 30, .load 32 (.tmp 10), 32, none⟩,
    ⟨some 31, .move (.tmp 11), 53, none⟩,
    ⟨some 32, .buildSlice 32 1 #[(0, (.tmp 31))], 32, none⟩,
    ⟨some 33, .call { callee := (.builtin .append), args := #[(.tmp 30), (.tmp 32)], argTypes := #[32, 32] }, 32, none⟩,
    ⟨none, .store 32 (.tmp 10) (.tmp 33), 0, none⟩]
@[go_sem] def c42_13 : Cmd := .block 1 (.seq (.seq c42_9 c42_11) c42_12)
def c42_L1 : Cmd := c42_13
@[go_sem] def c42_14 : Cmd := .rangeF (.tmp 24) #[25, 26] c42_L0 c42_L1
@[go_sem] def c42_15 : Cmd := .block 0 c42_14
@[go_sem] def c42_16 : Cmd := .drawn (.step 3 ⟨some 34, .move (.tmp 8), 53, none⟩
    (.step 0 ⟨some 35, .load 32 (.tmp 10), 32, none⟩
    (.step 1 ⟨none, .store 53 (.tmp 4) (.tmp 34), 0, none⟩
    (.step 1 ⟨none, .store 32 (.tmp 5) (.tmp 35), 0, none⟩
    (.step 1 ⟨none, .store 54 (.tmp 6) (.const (.int .i64 0)), 0, none⟩
    .done)))))
@[go_sem] def c42 : Cmd := (.seq c42_0 (.seq c42_1 (.seq (.seq c42_2 c42_4) (.seq c42_5 (.seq (.seq c42_6 c42_15) (.seq c42_16 .ret))))))
theorem b42 : Tryz.f42.body.map (comp 36) = some c42 := by kernel_rfl
theorem r42 : Tryz.f42.results.toList = [.cell 4 53, .cell 5 32, .cell 6 54] := by kernel_rfl
@[go_sem] def c43_0 : Cmd := .ops [⟨some 3, .box 28 (.tmp 0), 0, none⟩,
    ⟨some 6, .assign (.const (.bool false)), 4, none⟩]
@[go_sem] def c43_1 : Cmd := .ops [⟨some 9, .fieldAddr 28 (.tmp 3) 1, 0, none⟩,
    ⟨some 10, .load 22 (.tmp 9), 22, none⟩,
    ⟨some 11, .call { callee := (.builtin .len), args := #[(.tmp 10)], argTypes := #[22] }, 3, none⟩,
    ⟨some 12, .move (.tmp 1), 22, none⟩,
    ⟨some 13, .call { callee := (.builtin .len), args := #[(.tmp 12)], argTypes := #[22] }, 3, none⟩,
    ⟨some 14, .binOp .neq 3 (.tmp 11) (.tmp 13) 3, 4, none⟩,
    ⟨some 15, .move (.tmp 14), 4, none⟩,
    ⟨some 16, .fieldAddr 28 (.tmp 3) 2, 0, some (15, false)⟩,
    ⟨some 17, .load 23 (.tmp 16), 23, some (15, false)⟩,
    ⟨some 18, .call { callee := (.builtin .len), args := #[(.tmp 17)], argTypes := #[23] }, 3, some (15, false)⟩,
    ⟨some 19, .move (.tmp 2), 3, some (15, false)⟩,
    ⟨some 20, .binOp .neq 3 (.tmp 18) (.tmp 19) 3, 4, some (15, false)⟩,
    ⟨some 21, .pick (.tmp 15) (.const (.bool true)) (.tmp 20), 4, none⟩]
@[go_sem] def c43_2 : Cmd := .ops [⟨some 6, .assign (.const (.bool false)), 4, none⟩]
@[go_sem] def c43_3 : Cmd := .cond (.tmp 21) (.seq c43_2 .ret) .skip
@[go_sem] def c43_4 : Cmd := .ops [⟨some 22, .fieldAddr 28 (.tmp 3) 1, 0, none⟩,
    ⟨some 23, .load 22 (.tmp 22), 22, none⟩,
    ⟨some 24, .call { callee := (.builtin .len), args := #[(.tmp 23)], argTypes := #[22] }, 3, none⟩,
    ⟨some 25, .move (.const (.int .i64 0)), 3, none⟩]
@[go_sem] def c43_5 : Cmd := .ops [⟨some 26, .binOp .lss 3 (.tmp 25) (.tmp 24) 3, 0, none⟩]
@[go_sem] def c43_6 : Cmd := .cond (.tmp 26) .skip (.exit 0)
@[go_sem] def c43_7 : Cmd := .ops [⟨some 27, .move (.tmp 25), 3, none⟩,
    ⟨some 28, .indexAddr 22 (.tmp 23) (.tmp 25), 0, none⟩,
    ⟨some 29, .load 3 (.tmp 28), 3, none⟩,
    ⟨some 7, .assign (.tmp 27), 3, none⟩,
    ⟨some 8, .assign (.tmp 29), 3, none⟩]
@[go_sem] def c43_8 : Cmd := .ops [⟨some 30, .move (.tmp 8), 3, none⟩,
    ⟨some 31, .move (.tmp 1), 22, none⟩,
    ⟨some 32, .move (.tmp 7), 3, none⟩,
    ⟨some 33, .indexAddr 22 (.tmp 31) (.tmp 32), 0, none⟩,
    ⟨some 34, .load 3 (.tmp 33), 3, none⟩,
    ⟨some 35, .binOp .gtr 3 (.tmp 30) (.tmp 34) 3, 4, none⟩]
@[go_sem] def c43_9 : Cmd := .ops [⟨some 6, .assign (.const (.bool false)), 4, none⟩]
@[go_sem] def c43_10 : Cmd := .cond (.tmp 35) (.seq c43_9 .ret) .skip
@[go_sem] def c43_11 : Cmd := .block 1 (.seq c43_7 (.seq c43_8 c43_10))
@[go_sem] def c43_12 : Cmd := .ops [⟨some 36, .binOp .add 3 (.tmp 25) (.const (.int .i64 1)) 3, 3, none⟩,
    ⟨some 25, .move (.tmp 36), 3, none⟩]
def c43_L0 : Cmd := (.seq c43_5 (.seq c43_6 (.seq c43_11 c43_12)))
@[go_sem] def c43_13 : Cmd := .loop c43_L0
@[go_sem] def c43_14 : Cmd := .block 0 c43_13
@[go_sem] def c43_15 : Cmd := .ops [⟨some 6, .assign (.const (.bool true)), 4, none⟩]
@[go_sem] def c43 : Cmd := (.seq c43_0 (.seq (.seq c43_1 c43_3) (.seq (.seq c43_4 c43_14) (.seq c43_15 .ret))))
theorem b43 : Tryz.f43.body.map (comp 37) = some c43 := by kernel_rfl
theorem r43 : Tryz.f43.results.toList = [.tmp 6] := by kernel_rfl
@[go_sem] def c52_0 : Cmd := .ops [⟨some 4, .assign (.const (.map none)), 85, none⟩]
@[go_sem] def c52_1 : Cmd := .ops [⟨some 8, .move (.tmp 0), 25, none⟩,
    ⟨some 9, .nilCheck (.tmp 8), 0, none⟩,
    ⟨some 10, .fieldAddr 89 (.tmp 9) 2, 0, none⟩,
    ⟨some 11, .load 85 (.tmp 10), 85, none⟩,
    ⟨some 12, .call { callee := (.value (.func 171)), args := #[(.tmp 11)], argTypes := #[85] }, 85, none⟩,
    ⟨some 5, .assign (.tmp 12), 85, none⟩]
@[go_sem] def c52_2 : Cmd := .ops [⟨some 13, .move (.tmp 0), 25, none⟩,
    ⟨some 14, .nilCheck (.tmp 13), 0, none⟩,
    ⟨some 15, .fieldAddr 89 (.tmp 14) 3, 0, none⟩,
    ⟨some 16, .load 87 (.tmp 15), 87, none⟩,
    ⟨some 17, .call { callee := (.builtin .len), args := #[(.tmp 16)], argTypes := #[87] }, 3, none⟩,
    ⟨some 18, .move (.const (.int .i64 0)), 3, none⟩]
@[go_sem] def c52_3 : Cmd := .ops [⟨some 19, .binOp .lss 3 (.tmp 18) (.tmp 17) 3, 0, none⟩]
@[go_sem] def c52_4 : Cmd := .cond (.tmp 19) .skip (.exit 0)
@[go_sem] def c52_5 : Cmd := .ops [⟨some 20, .move (.tmp 18), 3, none⟩,
    ⟨some 21, .indexAddr 87 (.tmp 16) (.tmp 18), 0, none⟩,
    ⟨some 22, .load 165 (.tmp 21), 165, none⟩,
    ⟨some 6, .assign (.tmp 20), 3, none⟩,
    ⟨some 7, .assign (.tmp 22), 165, none⟩]
@[go_sem] def c52_6 : Cmd := .ops [⟨some 23, .move (.tmp 1), 3, none⟩,
    ⟨some 24, .move (.tmp 6), 3, none⟩,
    ⟨some 25, .call { callee := (.builtin .min), args := #[(.tmp 24), (.const (.int .i64 63))], argTypes := #[3, 3] }, 3, none⟩,
    ⟨some 26, .binOp .shr 3 (.tmp 23) (.tmp 25) 3, 3, none⟩,
    ⟨some 27, .binOp .and 3 (.tmp 26) (.const (.int .i64 1)) 3, 3, none⟩,
    ⟨some 28, .binOp .neq 3 (.tmp 27) (.const (.int .i64 0)) 3, 4, none⟩]
@[go_sem] def c52_7 : Cmd := .ops [⟨some 29, .move (.tmp 7), 165, none⟩,
    ⟨some 30, .move (.tmp 5), 85, none⟩,
    ⟨some 31, .call { callee := (.value (.tmp 29)), args := #[(.tmp 30)], argTypes := #[85] }, 0, none⟩]
@[go_sem] def c52_8 : Cmd := .cond (.tmp 28) c52_7 .skip
@[go_sem] def c52_9 : Cmd := .block 1 (.seq c52_5 (.seq c52_6 c52_8))
@[go_sem] def c52_10 : Cmd := .ops [⟨some 32, .binOp .add 3 (.tmp 18) (.const (.int .i64 1)) 3, 3, none⟩,
    ⟨some 18, .move (.tmp 32), 3, none⟩]
def c52_L0 : Cmd := (.seq c52_3 (.seq c52_4 (.seq c52_9 c52_10)))
@[go_sem] def c52_11 : Cmd := .loop c52_L0
@[go_sem] def c52_12 : Cmd := .block 0 c52_11
@[go_sem] def c52_13 : Cmd := .ops [⟨some 33, .move (.tmp 5), 85, none⟩,
    ⟨some 4, .assign (.tmp 33), 85, none⟩]
@[go_sem] def c52 : Cmd := (.seq c52_0 (.seq c52_1 (.seq (.seq c52_2 c52_12) (.seq c52_13 .ret))))
theorem b52 : Tryz.f52.body.map (comp 34) = some c52 := by kernel_rfl
theorem r52 : Tryz.f52.results.toList = [.tmp 4] := by kernel_rfl
@[go_sem] def c55_0 : Cmd := .ops [⟨some 4, .move (.tmp 0), 25, none⟩,
    ⟨some 5, .move (.tmp 0), 25, none⟩,
    ⟨some 6, .nilCheck (.tmp 5), 0, none⟩,
    ⟨some 7, .fieldAddr 89 (.tmp 6) 1, 0, none⟩,
    ⟨some 8, .load 85 (.tmp 7), 85, none⟩,
    ⟨some 9, .call { callee := (.value (.func 171)), args := #[(.tmp 8)], argTypes := #[85] }, 85, none⟩,
    ⟨some 10, .nilCheck (.tmp 4), 0, none⟩,
    ⟨some 11, .fieldAddr 89 (.tmp 10) 2, 0, none⟩,
    ⟨none, .store 85 (.tmp 11) (.tmp 9), 0, none⟩]
@[go_sem] def c55_1 : Cmd := .ops [⟨some 12, .move (.tmp 0), 25, none⟩,
    ⟨some 13, .nilCheck (.tmp 12), 0, none⟩,
    ⟨some 14, .fieldAddr 89 (.tmp 13) 3, 0, none⟩,
    ⟨none, .store 87 (.tmp 14) (.const (.slice none 0 0)), 0, none⟩]
@[go_sem] def c55_2 : Cmd := .ops [⟨some 15, .move (.tmp 0), 25, none⟩,
    ⟨some 16, .makeMap 86 none, 86, none⟩,
    ⟨some 17, .nilCheck (.tmp 15), 0, none⟩,
    ⟨some 18, .fieldAddr 89 (.tmp 17) 4, 0, none⟩,
    ⟨none, .store 86 (.tmp 18) (.tmp 16), 0, none⟩]
@[go_sem] def c55_3 : Cmd := .ops [⟨some 19, .move (.tmp 0), 25, none⟩,
    ⟨some 20, .nilCheck (.tmp 19), 0, none⟩,
    ⟨some 21, .fieldAddr 89 (.tmp 20) 1, 0, none⟩,
    ⟨some 22, .load 85 (.tmp 21), 85, none⟩,
    ⟨some 23, .range 85 (.tmp 22), 0, none⟩]
@[go_sem] def c55_4 : Cmd := .ops [⟨some 24, .next (.tmp 23) false, 0, none⟩,
    ⟨some 25, .extract (.tmp 24) 0, 4, none⟩]
@[go_sem] def c55_5 : Cmd := .cond (.tmp 25) .skip (.exit 0)
@[go_sem] def c55_6 : Cmd := .ops [⟨some 26, .entry (.tmp 23), 0, none⟩,
    ⟨some 27, .extract (.tmp 26) 1, 115, none⟩,
    ⟨some 3, .assign (.tmp 27), 115, none⟩]
@[go_sem] def c55_7 : Cmd := .ops [⟨some 28, .move (.tmp 0), 25, none⟩,
    ⟨some 29, .nilCheck (.tmp 28), 0, none⟩,
    ⟨some 30, .fieldAddr 89 (.tmp 29) 4, 0, none⟩,
    ⟨some 31, .load 86 (.tmp 30), 86, none⟩,
    ⟨some 32, .move (.tmp 3), 115, none⟩,
    ⟨none, .mapUpdate 86 (.tmp 31) (.tmp 32) (.const (.bool true)), 0, none⟩]
@[go_sem] def c55_8 : Cmd := .block 1 (.seq c55_6 c55_7)
def c55_L0 : Cmd := (.seq c55_4 (.seq c55_5 c55_8))
@[go_sem] def c55_9 : Cmd := .loop c55_L0
@[go_sem] def c55_10 : Cmd := .block 0 c55_9
@[go_sem] def c55 : Cmd := (.seq c55_0 (.seq c55_1 (.seq c55_2 (.seq c55_3 c55_10))))
theorem b55 : Tryz.f55.body.map (comp 33) = some c55 := by kernel_rfl
theorem r55 : Tryz.f55.results.toList = [] := by kernel_rfl
@[go_sem] def c56_0 : Cmd := .ops [⟨some 4, .assign (.const (.bool false)), 4, none⟩]
@[go_sem] def c56_1 : Cmd := .ops [⟨some 6, .move (.tmp 0), 22, none⟩,
    ⟨some 7, .call { callee := (.builtin .len), args := #[(.tmp 6)], argTypes := #[22] }, 3, none⟩,
    ⟨some 8, .move (.tmp 1), 22, none⟩,
    ⟨some 9, .call { callee := (.builtin .len), args := #[(.tmp 8)], argTypes := #[22] }, 3, none⟩,
    ⟨some 10, .binOp .neq 3 (.tmp 7) (.tmp 9) 3, 4, none⟩]
@[go_sem] def c56_2 : Cmd := .ops [⟨some 4, .assign (.const (.bool false)), 4, none⟩]
@[go_sem] def c56_3 : Cmd := .cond (.tmp 10) (.seq c56_2 .ret) .skip
@[go_sem] def c56_4 : Cmd := .ops [⟨some 5, .assign (.const (.int .i64 0)), 3, none⟩]
@[go_sem] def c56_5 : Cmd := .ops [⟨some 11, .move (.tmp 5), 3, none⟩,
    ⟨some 12, .move (.tmp 0), 22, none⟩,
    ⟨some 13, .call { callee := (.builtin .len), args := #[(.tmp 12)], argTypes := #[22] }, 3, none⟩,
    ⟨some 14, .binOp .lss 3 (.tmp 11) (.tmp 13) 3, 4, none⟩]
@[go_sem] def c56_6 : Cmd := .cond (.tmp 14) .skip (.exit 0)
@[go_sem] def c56_7 : Cmd := .quiet [⟨some 17, .move (.tmp 0), 22, none⟩,
    ⟨some 18, .move (.tmp 5), 3, none⟩,
    ⟨some 19, .indexAddr 22 (.tmp 17) (.tmp 18), 0, none⟩,
    ⟨some 20, .load 3 (.tmp 19), 3, none⟩,
    ⟨some 21, .move (.tmp 1), 22, none⟩,
    ⟨some 22, .move (.tmp 5), 3, none⟩,
    ⟨some 23, .indexAddr 22 (.tmp 21) (.tmp 22), 0, none⟩,
    ⟨some 24, .load 3 (.tmp 23), 3, none⟩,
    ⟨some 25, .binOp .eql 3 (.tmp 20) (.tmp 24) 3, 4, none⟩,
    ⟨some 26, .unOp .not 4 (.tmp 25), 4, none⟩]
@[go_sem] def c56_8 : Cmd := .ops [⟨some 4, .assign (.const (.bool false)), 4, none⟩]
@[go_sem] def c56_9 : Cmd := .cond (.tmp 26) (.seq c56_8 .ret) .skip
@[go_sem] def c56_10 : Cmd := .block 1 (.seq c56_7 c56_9)
@[go_sem] def c56_11 : Cmd := .ops [⟨some 15, .move (.tmp 5), 3, none⟩,
    ⟨some 16, .binOp .add 3 (.tmp 15) (.const (.int .i64 1)) 3, 3, none⟩,
    ⟨some 5, .assign (.tmp 16), 3, none⟩]
def c56_L0 : Cmd := (.seq (.seq c56_5 c56_6) (.seq c56_10 c56_11))
@[go_sem] def c56_12 : Cmd := .loop c56_L0
@[go_sem] def c56_13 : Cmd := .block 0 c56_12
@[go_sem] def c56_14 : Cmd := .ops [⟨some 4, .assign (.const (.bool true)), 4, none⟩]
@[go_sem] def c56 : Cmd := (.seq c56_0 (.seq (.seq c56_1 c56_3) (.seq (.seq c56_4 c56_13) (.seq c56_14 .ret))))
theorem b56 : Tryz.f56.body.map (comp 27) = some c56 := by kernel_rfl
theorem r56 : Tryz.f56.results.toList = [.tmp 4] := by kernel_rfl
@[go_sem] def c57_0 : Cmd := .ops [⟨some 4, .assign (.const (.bool false)), 4, none⟩]
@[go_sem] def c57_1 : Cmd := .ops [⟨some 6, .move (.tmp 0), 23, none⟩,
    ⟨some 7, .call { callee := (.builtin .len), args := #[(.tmp 6)], argTypes := #[23] }, 3, none⟩,
    ⟨some 8, .move (.tmp 1), 23, none⟩,
    ⟨some 9, .call { callee := (.builtin .len), args := #[(.tmp 8)], argTypes := #[23] }, 3, none⟩,
    ⟨some 10, .binOp .neq 3 (.tmp 7) (.tmp 9) 3, 4, none⟩]
@[go_sem] def c57_2 : Cmd := .ops [⟨some 4, .assign (.const (.bool false)), 4, none⟩]
@[go_sem] def c57_3 : Cmd := .cond (.tmp 10) (.seq c57_2 .ret) .skip
@[go_sem] def c57_4 : Cmd := .ops [⟨some 5, .assign (.const (.int .i64 0)), 3, none⟩]
@[go_sem] def c57_5 : Cmd := .ops [⟨some 11, .move (.tmp 5), 3, none⟩,
    ⟨some 12, .move (.tmp 0), 23, none⟩,
    ⟨some 13, .call { callee := (.builtin .len), args := #[(.tmp 12)], argTypes := #[23] }, 3, none⟩,
    ⟨some 14, .binOp .lss 3 (.tmp 11) (.tmp 13) 3, 4, none⟩]
@[go_sem] def c57_6 : Cmd := .cond (.tmp 14) .skip (.exit 0)
@[go_sem] def c57_7 : Cmd := .quiet [⟨some 17, .move (.tmp 0), 23, none⟩,
    ⟨some 18, .move (.tmp 5), 3, none⟩,
    ⟨some 19, .indexAddr 23 (.tmp 17) (.tmp 18), 0, none⟩,
    ⟨some 20, .load 4 (.tmp 19), 4, none⟩,
    ⟨some 21, .move (.tmp 1), 23, none⟩,
    ⟨some 22, .move (.tmp 5), 3, none⟩,
    ⟨some 23, .indexAddr 23 (.tmp 21) (.tmp 22), 0, none⟩,
    ⟨some 24, .load 4 (.tmp 23), 4, none⟩,
    ⟨some 25, .binOp .eql 4 (.tmp 20) (.tmp 24) 4, 4, none⟩,
    ⟨some 26, .unOp .not 4 (.tmp 25), 4, none⟩]
@[go_sem] def c57_8 : Cmd := .ops [⟨some 4, .assign (.const (.bool false)), 4, none⟩]
@[go_sem] def c57_9 : Cmd := .cond (.tmp 26) (.seq c57_8 .ret) .skip
@[go_sem] def c57_10 : Cmd := .block 1 (.seq c57_7 c57_9)
@[go_sem] def c57_11 : Cmd := .ops [⟨some 15, .move (.tmp 5), 3, none⟩,
    ⟨some 16, .binOp .add 3 (.tmp 15) (.const (.int .i64 1)) 3, 3, none⟩,
    ⟨some 5, .assign (.tmp 16), 3, none⟩]
def c57_L0 : Cmd := (.seq (.seq c57_5 c57_6) (.seq c57_10 c57_11))
@[go_sem] def c57_12 : Cmd := .loop c57_L0
@[go_sem] def c57_13 : Cmd := .block 0 c57_12
@[go_sem] def c57_14 : Cmd := .ops [⟨some 4, .assign (.const (.bool true)), 4, none⟩]
@[go_sem] def c57 : Cmd := (.seq c57_0 (.seq (.seq c57_1 c57_3) (.seq (.seq c57_4 c57_13) (.seq c57_14 .ret))))
theorem b57 : Tryz.f57.body.map (comp 27) = some c57 := by kernel_rfl
theorem r57 : Tryz.f57.results.toList = [.tmp 4] := by kernel_rfl
@[go_sem] def c63_0 : Cmd := .ops [⟨some 6, .assign (.const (.int .i64 0)), 54, none⟩]
@[go_sem] def c63_1 : Cmd := .ops [⟨some 10, .move (.tmp 0), 25, none⟩,
    ⟨some 11, .move (.tmp 1), 9, none⟩,
    ⟨some 12, .call { callee := (.value (.func 178)), args := #[(.tmp 10), (.tmp 11)], argTypes := #[25, 9] }, 177, none⟩,
    ⟨some 9, .move (.tmp 12), 177, none⟩,
    ⟨some 13, .extract (.tmp 9) 0, 115, none⟩,
    ⟨some 14, .extract (.tmp 9) 1, 54, none⟩,
    ⟨some 7, .assign (.tmp 13), 115, none⟩,
    ⟨some 8, .assign (.tmp 14), 54, none⟩]
@[go_sem] def c63_2 : Cmd := .ops [⟨some 15, .move (.tmp 8), 54, none⟩,
    ⟨some 16, .binOp .neq 54 (.tmp 15) (.const (.int .i64 0)) 54, 4, none⟩]
@[go_sem] def c63_3 : Cmd := .ops [⟨some 17, .move (.tmp 8), 54, none⟩,
    ⟨some 6, .assign (.tmp 17), 54, none⟩]
@[go_sem] def c63_4 : Cmd := .cond (.tmp 16) (.seq c63_3 .ret) .skip
@[go_sem] def c63_5 : Cmd := .draw (.step 3 ⟨some 18, .move (.tmp 2), 53, none⟩
    (.step 3 ⟨some 19, .call { callee := (.builtin .len), args := #[(.tmp 18)], argTypes := #[53] }, 3, none⟩
    (.step 3 ⟨some 20, .move (.tmp 0), 25, none⟩
    (.step 3 ⟨some 21, .nilCheck (.tmp 20), 0, none⟩
    (.step 3 ⟨some 22, .fieldAddr 89 (.tmp 21) 0, 0, none⟩
    (.step 0 ⟨some 23, .load 3 (.tmp 22), 3, none⟩
    (.step 3 ⟨some 24, .move (.tmp 0), 25, none⟩
    (.step 1 ⟨some 25, .call { callee := (.value (.func 79)), args := #[(.tmp 24)], argTypes := #[25] }, 3, none⟩
    (.step 3 ⟨some 26, .binOp .sub 3 (.tmp 23) (.tmp 25) 3, 3, none⟩
    (.step 3 ⟨some 27, .binOp .gtr 3 (.tmp 19) (.tmp 26) 3, 4, none⟩
    .done))))))))))
@[go_sem] def c63_6 : Cmd := .ops [⟨some 6, .assign (.const (.int .i64 80)), 54, none⟩]
@[go_sem] def c63_7 : Cmd := .cond (.tmp 27) (.seq c63_6 .ret) .skip
@[go_sem] def c63_8 : Cmd := .ops [⟨some 28, .move (.tmp 7), 115, none⟩,
    ⟨some 29, .move (.tmp 7), 115, none⟩,
    ⟨some 30, .nilCheck (.tmp 29), 0, none⟩,
    ⟨some 31, .fieldAddr 117 (.tmp 30) 0, 0, none⟩,
    ⟨some 32, .load 53 (.tmp 31), 53, none⟩,
    ⟨some 33, .move (.tmp 2), 53, none⟩,
    ⟨some 34, .call { callee := (.builtin .append), args := #[(.tmp 32), (.tmp 33)], argTypes := #[53, 53] }, 53, none⟩,
    ⟨some 35, .nilCheck (.tmp 28), 0, none⟩,
    ⟨some 36, .fieldAddr 117 (.tmp 35) 0, 0, none⟩,
    ⟨none, .store 53 (.tmp 36) (.tmp 34), 0, none⟩]
@[go_sem] def c63_9 : Cmd := .ops [⟨some 37, .move (.tmp 0), 25, none⟩,
    ⟨some 38, .call { callee := (.value (.func 179)), args := #[(.tmp 37)], argTypes := #[25] }, 54, none⟩,
    ⟨some 6, .assign (.tmp 38), 54, none⟩]
@[go_sem] def c63 : Cmd := (.seq c63_0 (.seq c63_1 (.seq (.seq c63_2 c63_4) (.seq (.seq c63_5 c63_7) (.seq c63_8 (.seq c63_9 .ret))))))
theorem b63 : Tryz.f63.body.map (comp 39) = some c63 := by kernel_rfl
theorem r63 : Tryz.f63.results.toList = [.tmp 6] := by kernel_rfl
@[go_sem] def c68_0 : Cmd := .ops [⟨some 4, .assign (.const (.int .i64 0)), 54, none⟩]
@[go_sem] def c68_1 : Cmd := .ops [⟨some 8, .move (.tmp 0), 25, none⟩,
    ⟨some 9, .move (.tmp 1), 9, none⟩,
    ⟨some 10, .call { callee := (.value (.func 178)), args := #[(.tmp 8), (.tmp 9)], argTypes := #[25, 9] }, 177, none⟩,
    ⟨some 7, .move (.tmp 10), 177, none⟩,
    ⟨some 11, .extract (.tmp 7) 0, 115, none⟩,
    ⟨some 12, .extract (.tmp 7) 1, 54, none⟩,
    ⟨some 5, .assign (.tmp 11), 115, none⟩,
    ⟨some 6, .assign (.tmp 12), 54, none⟩]
@[go_sem] def c68_2 : Cmd := .ops [⟨some 13, .move (.tmp 6), 54, none⟩,
    ⟨some 14, .binOp .neq 54 (.tmp 13) (.const (.int .i64 0)) 54, 4, none⟩]
@[go_sem] def c68_3 : Cmd := .ops [⟨some 15, .move (.tmp 6), 54, none⟩,
    ⟨some 4, .assign (.tmp 15), 54, none⟩]
@[go_sem] def c68_4 : Cmd := .cond (.tmp 14) (.seq c68_3 .ret) .skip
@[go_sem] def c68_5 : Cmd := .ops [⟨some 16, .move (.tmp 0), 25, none⟩,
    ⟨some 17, .move (.tmp 5), 115, none⟩,
    ⟨some 18, .call { callee := (.value (.func 188)), args := #[(.tmp 16), (.tmp 17), (.const (.string ⟨#[]⟩))], argTypes := #[25, 115, 9] }, 54, none⟩,
    ⟨some 4, .assign (.tmp 18), 54, none⟩]
@[go_sem] def c68 : Cmd := (.seq c68_0 (.seq c68_1 (.seq (.seq c68_2 c68_4) (.seq c68_5 .ret))))
theorem b68 : Tryz.f68.body.map (comp 19) = some c68 := by kernel_rfl
theorem r68 : Tryz.f68.results.toList = [.tmp 4] := by kernel_rfl
@[go_sem] def c70_0 : Cmd := .ops [⟨some 2, .assign (.const (.int .i64 0)), 54, none⟩]
@[go_sem] def c70_1 : Cmd := .ops [⟨some 4, .move (.tmp 0), 25, none⟩,
    ⟨some 5, .nilCheck (.tmp 4), 0, none⟩,
    ⟨some 6, .fieldAddr 89 (.tmp 5) 5, 0, none⟩,
    ⟨some 7, .load 4 (.tmp 6), 4, none⟩]
@[go_sem] def c70_2 : Cmd := .ops [⟨some 2, .assign (.const (.int .i64 81)), 54, none⟩]
@[go_sem] def c70_3 : Cmd := .cond (.tmp 7) (.seq c70_2 .ret) .skip
@[go_sem] def c70_4 : Cmd := .ops [⟨some 8, .move (.tmp 0), 25, none⟩,
    ⟨some 9, .call { callee := (.value (.func 179)), args := #[(.tmp 8)], argTypes := #[25] }, 54, none⟩,
    ⟨some 3, .assign (.tmp 9), 54, none⟩]
@[go_sem] def c70_5 : Cmd := .ops [⟨some 10, .move (.tmp 3), 54, none⟩,
    ⟨some 11, .binOp .eql 54 (.tmp 10) (.const (.int .i64 0)) 54, 4, none⟩]
@[go_sem] def c70_6 : Cmd := .ops [⟨some 12, .move (.tmp 0), 25, none⟩,
    ⟨some 13, .call { callee := (.value (.func 55)), args := #[(.tmp 12)], argTypes := #[25] }, 0, none⟩]
@[go_sem] def c70_7 : Cmd := .cond (.tmp 11) c70_6 .skip
@[go_sem] def c70_8 : Cmd := .ops [⟨some 14, .move (.tmp 3), 54, none⟩,
    ⟨some 2, .assign (.tmp 14), 54, none⟩]
@[go_sem] def c70 : Cmd := (.seq c70_0 (.seq (.seq c70_1 c70_3) (.seq c70_4 (.seq (.seq c70_5 c70_7) (.seq c70_8 .ret)))))
theorem b70 : Tryz.f70.body.map (comp 15) = some c70 := by kernel_rfl
theorem r70 : Tryz.f70.results.toList = [.tmp 2] := by kernel_rfl
@[go_sem] def c79_0 : Cmd := .ops [⟨some 2, .assign (.const (.int .i64 0)), 3, none⟩]
@[go_sem] def c79_1 : Cmd := .ops [⟨some 3, .assign (.const (.int .i64 0)), 3, none⟩]
@[go_sem] def c79_2 : Cmd := .ops [⟨some 5, .move (.tmp 0), 25, none⟩,
    ⟨some 6, .nilCheck (.tmp 5), 0, none⟩,
    ⟨some 7, .fieldAddr 89 (.tmp 6) 4, 0, none⟩,
    ⟨some 8, .load 86 (.tmp 7), 86, none⟩,
    ⟨some 9, .range 86 (.tmp 8), 0, none⟩]
@[go_sem] def c79_3 : Cmd := .ops [⟨some 10, .next (.tmp 9) false, 0, none⟩,
    ⟨some 11, .extract (.tmp 10) 0, 4, none⟩]
@[go_sem] def c79_4 : Cmd := .cond (.tmp 11) .skip (.exit 0)
@[go_sem] def c79_5 : Cmd := .ops [⟨some 12, .entry (.tmp 9), 0, none⟩,
    ⟨some 13, .extract (.tmp 12) 0, 115, none⟩,
    ⟨some 4, .assign (.tmp 13), 115, none⟩]
@[go_sem] def c79_6 : Cmd := .ops [⟨some 14, .move (.tmp 3), 3, none⟩,
    ⟨some 15, .move (.tmp 4), 115, none⟩,
    ⟨some 16, .nilCheck (.tmp 15), 0, none⟩,
    ⟨some 17, .fieldAddr 117 (.tmp 16) 0, 0, none⟩,
    ⟨some 18, .load 53 (.tmp 17), 53, none⟩,
    ⟨some 19, .call { callee := (.builtin .len), args := #[(.tmp 18)], argTypes := #[53] }, 3, none⟩,
    ⟨some 20, .binOp .add 3 (.tmp 14) (.tmp 19) 3, 3, none⟩,
    ⟨some 3, .assign (.tmp 20), 3, none⟩]
@[go_sem] def c79_7 : Cmd := .block 1 (.seq c79_5 c79_6)
def c79_L0 : Cmd := (.seq c79_3 (.seq c79_4 c79_7))
@[go_sem] def c79_8 : Cmd := .loop c79_L0
@[go_sem] def c79_9 : Cmd := .block 0 c79_8
@[go_sem] def c79_10 : Cmd := .ops [⟨some 21, .move (.tmp 3), 3, none⟩,
    ⟨some 2, .assign (.tmp 21), 3, none⟩]
@[go_sem] def c79 : Cmd := (.seq c79_0 (.seq c79_1 (.seq (.seq c79_2 c79_9) (.seq c79_10 .ret))))
theorem b79 : Tryz.f79.body.map (comp 22) = some c79 := by kernel_rfl
theorem r79 : Tryz.f79.results.toList = [.tmp 2] := by kernel_rfl
-- 84 strconv.Itoa
@[go_sem] def c85_0 : Cmd := .ops [⟨some 4, .assign (.const (.slice none 0 0)), 53, none⟩]
@[go_sem] def c85_1 : Cmd := .ops [⟨some 7, .move (.tmp 1), 3, none⟩,
    ⟨some 8, .call { callee := (.builtin .max), args := #[(.tmp 7), (.const (.int .i64 0))], argTypes := #[3, 3] }, 3, none⟩,
    ⟨some 1, .assign (.tmp 8), 3, none⟩]
@[go_sem] def c85_2 : Cmd := .ops [⟨some 9, .move (.tmp 1), 3, none⟩,
    ⟨some 10, .call { callee := (.value (.func 201)), args := #[(.tmp 9)], argTypes := #[3] }, 3, none⟩,
    ⟨some 11, .binOp .sub 3 (.tmp 10) (.const (.int .i64 1)) 3, 3, none⟩,
    ⟨some 5, .assign (.tmp 11), 3, none⟩]
@[go_sem] def c85_3 : Cmd := .ops [⟨some 12, .move (.tmp 5), 3, none⟩,
    ⟨some 13, .binOp .geq 3 (.tmp 12) (.const (.int .i64 0)) 3, 4, none⟩]
@[go_sem] def c85_4 : Cmd := .cond (.tmp 13) .skip (.exit 0)
@[go_sem] def c85_5 : Cmd := .ops [⟨some 16, .move (.tmp 1), 3, none⟩,
    ⟨some 17, .move (.tmp 5), 3, none⟩,
    ⟨some 18, .binOp .mul 3 (.const (.int .i64 7)) (.tmp 17) 3, 3, none⟩,
    ⟨some 19, .binOp .shr 3 (.tmp 16) (.tmp 18) 3, 3, none⟩,
    ⟨some 20, .convert 3 5 (.tmp 19), 5, none⟩,
    ⟨some 21, .binOp .and 5 (.tmp 20) (.const (.int .u8 127)) 5, 5, none⟩,
    ⟨some 6, .assign (.tmp 21), 5, none⟩]
@[go_sem] def c85_6 : Cmd := .ops [⟨some 22, .move (.tmp 5), 3, none⟩,
    ⟨some 23, .binOp .gtr 3 (.tmp 22) (.const (.int .i64 0)) 3, 4, none⟩]
@[go_sem] def c85_7 : Cmd := .ops [⟨some 24, .move (.tmp 6), 5, none⟩,
    ⟨some 25, .binOp .or 5 (.tmp 24) (.const (.int .u8 128)) 5, 5, none⟩,
    ⟨some 6, .assign (.tmp 25), 5, none⟩]
@[go_sem] def c85_8 : Cmd := .cond (.tmp 23) c85_7 .skip
@[go_sem] def c85_9 : Cmd := .ops [⟨some 26, .move (.tmp 0), 53, none⟩,
    ⟨some 27, .move (.tmp 6), 5, none⟩,
    ⟨some 28, .buildSlice 53 1 #[(0, (.tmp 27))], 53, none⟩,
    ⟨some 29, .call { callee := (.builtin .append), args := #[(.tmp 26), (.tmp 28)], argTypes := #[53, 53] }, 53, none⟩,
    ⟨some 0, .assign (.tmp 29), 53, none⟩]
@[go_sem] def c85_10 : Cmd := .block 1 (.seq c85_5 (.seq (.seq c85_6 c85_8) c85_9))
@[go_sem] def c85_11 : Cmd := .ops [⟨some 14, .move (.tmp 5), 3, none⟩,
    ⟨some 15, .binOp .sub 3 (.tmp 14) (.const (.int .i64 1)) 3, 3, none⟩,
    ⟨some 5, .assign (.tmp 15), 3, none⟩]
def c85_L0 : Cmd := (.seq (.seq c85_3 c85_4) (.seq c85_10 c85_11))
@[go_sem] def c85_12 : Cmd := .loop c85_L0
@[go_sem] def c85_13 : Cmd := .block 0 c85_12
@[go_sem] def c85_14 : Cmd := .ops [⟨some 30, .move (.tmp 0), 53, none⟩,
    ⟨some 4, .assign (.tmp 30), 53, none⟩]
@[go_sem] def c85 : Cmd := (.seq c85_0 (.seq c85_1 (.seq (.seq c85_2 c85_13) (.seq c85_14 .ret))))
theorem b85 : Tryz.f85.body.map (comp 31) = some c85 := by kernel_rfl
theorem r85 : Tryz.f85.results.toList = [.tmp 4] := by kernel_rfl
@[go_sem] def c86_0 : Cmd := .ops [⟨some 4, .assign (.const (.slice none 0 0)), 53, none⟩]
@[go_sem] def c86_1 : Cmd := .ops [⟨some 6, .move (.tmp 0), 53, none⟩,
    ⟨some 7, .call { callee := (.builtin .len), args := #[(.tmp 6)], argTypes := #[53] }, 3, none⟩,
    ⟨some 8, .move (.tmp 0), 53, none⟩,
    ⟨some 9, .call { callee := (.builtin .len), args := #[(.tmp 8)], argTypes := #[53] }, 3, none⟩,
    ⟨some 10, .move (.tmp 1), 3, none⟩,
    ⟨some 11, .binOp .add 3 (.tmp 9) (.tmp 10) 3, 3, none⟩,
    ⟨some 12, .makeSlice 53 (.tmp 7) (.tmp 11), 53, none⟩,
    ⟨some 5, .assign (.tmp 12), 53, none⟩]
@[go_sem] def c86_2 : Cmd := .ops [⟨some 13, .move (.tmp 5), 53, none⟩,
    ⟨some 14, .move (.tmp 0), 53, none⟩,
    ⟨some 15, .call { callee := (.builtin .copy), args := #[(.tmp 13), (.tmp 14)], argTypes := #[53, 53] }, 3, none⟩]
@[go_sem] def c86_3 : Cmd := .ops [⟨some 16, .move (.tmp 5), 53, none⟩,
    ⟨some 4, .assign (.tmp 16), 53, none⟩]
@[go_sem] def c86 : Cmd := (.seq c86_0 (.seq c86_1 (.seq c86_2 (.seq c86_3 .ret))))
theorem b86 : Tryz.f86.body.map (comp 17) = some c86 := by kernel_rfl
theorem r86 : Tryz.f86.results.toList = [.tmp 4] := by kernel_rfl
@[go_sem] def c87_0 : Cmd := .ops [⟨some 4, .assign (.const (.bool false)), 4, none⟩]
@[go_sem] def c87_1 : Cmd := .ops [⟨some 8, .move (.tmp 0), 25, none⟩,
    ⟨some 9, .move (.tmp 1), 9, none⟩,
    ⟨some 10, .call { callee := (.value (.func 193)), args := #[(.tmp 8), (.tmp 9)], argTypes := #[25, 9] }, 195, none⟩,
    ⟨some 7, .move (.tmp 10), 195, none⟩,
    ⟨some 11, .extract (.tmp 7) 0, 3, none⟩,
    ⟨some 12, .extract (.tmp 7) 1, 54, none⟩,
    ⟨some 5, .assign (.tmp 11), 3, none⟩,
    ⟨some 6, .assign (.tmp 12), 54, none⟩]
@[go_sem] def c87_2 : Cmd := .ops [⟨some 13, .move (.tmp 6), 54, none⟩,
    ⟨some 14, .binOp .eql 54 (.tmp 13) (.const (.int .i64 0)) 54, 4, none⟩,
    ⟨some 4, .assign (.tmp 14), 4, none⟩]
@[go_sem] def c87 : Cmd := (.seq c87_0 (.seq c87_1 (.seq c87_2 .ret)))
theorem b87 : Tryz.f87.body.map (comp 15) = some c87 := by kernel_rfl
theorem r87 : Tryz.f87.results.toList = [.tmp 4] := by kernel_rfl
@[go_sem] def c88_0 : Cmd := .ops [⟨some 4, .assign (.const (.int .i64 0)), 54, none⟩]
@[go_sem] def c88_1 : Cmd := .ops [⟨some 6, .load 25 (.tmp 0), 25, none⟩,
    ⟨some 7, .load 9 (.tmp 1), 9, none⟩,
    ⟨some 8, .load 53 (.tmp 2), 53, none⟩,
    ⟨some 9, .call { callee := (.value (.func 89)), args := #[(.tmp 6), (.tmp 7), (.tmp 8)], argTypes := #[25, 9, 53] }, 142, none⟩,
    ⟨some 5, .move (.tmp 9), 142, none⟩,
    ⟨some 10, .extract (.tmp 5) 0, 141, none⟩,
    ⟨some 11, .extract (.tmp 5) 1, 54, none⟩,
    ⟨none, .store 141 (.tmp 3) (.tmp 10), 0, none⟩,
    ⟨some 4, .assign (.tmp 11), 54, none⟩]
@[go_sem] def c88_2 : Cmd := .ops [⟨some 12, .move (.tmp 4), 54, none⟩,
    ⟨some 4, .assign (.tmp 12), 54, none⟩]
@[go_sem] def c88 : Cmd := (.seq c88_0 (.seq c88_1 (.seq c88_2 .ret)))
theorem b88 : Tryz.f88.body.map (comp 13) = some c88 := by kernel_rfl
theorem r88 : Tryz.f88.results.toList = [.tmp 4] := by kernel_rfl
@[go_sem] def c89_0 : Cmd := .ops [⟨some 6, .assign (.const (.pointer none)), 141, none⟩,
    ⟨some 7, .assign (.const (.int .i64 0)), 54, none⟩]
@[go_sem] def c89_1 : Cmd := .ops [⟨some 11, .move (.tmp 2), 53, none⟩,
    ⟨some 12, .call { callee := (.builtin .len), args := #[(.tmp 11)], argTypes := #[53] }, 3, none⟩,
    ⟨some 13, .binOp .gtr 3 (.tmp 12) (.const (.int .i64 1024)) 3, 4, none⟩]
@[go_sem] def c89_2 : Cmd := .ops [⟨some 6, .assign (.const (.pointer none)), 141, none⟩,
    ⟨some 7, .assign (.const (.int .i64 31)), 54, none⟩]
@[go_sem] def c89_3 : Cmd := .cond (.tmp 13) (.seq c89_2 .ret) .skip
@[go_sem] def c89_4 : Cmd := .ops [⟨some 14, .move (.tmp 0), 25, none⟩,
    ⟨some 15, .move (.tmp 1), 9, none⟩,
    ⟨some 16, .call { callee := (.value (.func 202)), args := #[(.tmp 14), (.tmp 15)], argTypes := #[25, 9] }, 54, none⟩,
    ⟨some 8, .assign (.tmp 16), 54, none⟩]
@[go_sem] def c89_5 : Cmd := .ops [⟨some 17, .move (.tmp 8), 54, none⟩,
    ⟨some 18, .binOp .neq 54 (.tmp 17) (.const (.int .i64 0)) 54, 4, none⟩]
@[go_sem] def c89_6 : Cmd := .ops [⟨some 19, .move (.tmp 8), 54, none⟩,
    ⟨some 6, .assign (.const (.pointer none)), 141, none⟩,
    ⟨some 7, .assign (.tmp 19), 54, none⟩]
@[go_sem] def c89_7 : Cmd := .cond (.tmp 18) (.seq c89_6 .ret) .skip
@[go_sem] def c89_8 : Cmd := .ops [⟨some 20, .move (.tmp 0), 25, none⟩,
    ⟨some 21, .move (.tmp 1), 9, none⟩,
    ⟨some 22, .build 205 #[(0, (.tmp 20)), (1, (.tmp 21))], 205, none⟩,
    ⟨some 23, .box 205 (.tmp 22), 141, none⟩,
    ⟨some 9, .assign (.tmp 23), 141, none⟩]
@[go_sem] def c89_9 : Cmd := .ops [⟨some 24, .move (.tmp 9), 141, none⟩,
    ⟨some 25, .move (.tmp 2), 53, none⟩,
    ⟨some 26, .call { callee := (.value (.func 203)), args := #[(.tmp 24), (.const (.int .i64 1)), (.tmp 25)], argTypes := #[141, 3, 53] }, 54, none⟩,
    ⟨some 10, .assign (.tmp 26), 54, none⟩]
@[go_sem] def c89_10 : Cmd := .ops [⟨some 27, .move (.tmp 10), 54, none⟩,
    ⟨some 28, .binOp .neq 54 (.tmp 27) (.const (.int .i64 0)) 54, 4, none⟩]
@[go_sem] def c89_11 : Cmd := .ops [⟨some 29, .move (.tmp 10), 54, none⟩,
    ⟨some 6, .assign (.const (.pointer none)), 141, none⟩,
    ⟨some 7, .assign (.tmp 29), 54, none⟩]
@[go_sem] def c89_12 : Cmd := .cond (.tmp 28) (.seq c89_11 .ret) .skip
@[go_sem] def c89_13 : Cmd := .ops [⟨some 30, .move (.tmp 9), 141, none⟩,
    ⟨some 6, .assign (.tmp 30), 141, none⟩,
    ⟨some 7, .assign (.const (.int .i64 0)), 54, none⟩]
@[go_sem] def c89 : Cmd := (.seq c89_0 (.seq (.seq c89_1 c89_3) (.seq (.seq c89_4 (.seq c89_5 c89_7)) (.seq c89_8 (.seq (.seq c89_9 (.seq c89_10 c89_12)) (.seq c89_13 .ret))))))
theorem b89 : Tryz.f89.body.map (comp 31) = some c89 := by kernel_rfl
theorem r89 : Tryz.f89.results.toList = [.tmp 6, .tmp 7] := by kernel_rfl
@[go_sem] def c90_0 : Cmd := .ops [⟨some 2, .assign (.const (.int .i64 0)), 54, none⟩]
@[go_sem] def c90_1 : Cmd := .ops [⟨some 3, .load 141 (.tmp 0), 141, none⟩,
    ⟨some 4, .load 53 (.tmp 1), 53, none⟩,
    ⟨some 5, .call { callee := (.value (.func 91)), args := #[(.tmp 3), (.tmp 4)], argTypes := #[141, 53] }, 54, none⟩,
    ⟨some 2, .assign (.tmp 5), 54, none⟩]
@[go_sem] def c90 : Cmd := (.seq c90_0 (.seq c90_1 .ret))
theorem b90 : Tryz.f90.body.map (comp 6) = some c90 := by kernel_rfl
theorem r90 : Tryz.f90.results.toList = [.tmp 2] := by kernel_rfl
@[go_sem] def c91_0 : Cmd := .ops [⟨some 4, .assign (.const (.int .i64 0)), 54, none⟩]
@[go_sem] def c91_1 : Cmd := .ops [⟨some 6, .move (.tmp 0), 141, none⟩,
    ⟨some 7, .nilCheck (.tmp 6), 0, none⟩,
    ⟨some 8, .fieldAddr 205 (.tmp 7) 5, 0, none⟩,
    ⟨some 9, .load 4 (.tmp 8), 4, none⟩]
@[go_sem] def c91_2 : Cmd := .ops [⟨some 4, .assign (.const (.int .i64 91)), 54, none⟩]
@[go_sem] def c91_3 : Cmd := .cond (.tmp 9) (.seq c91_2 .ret) .skip
@[go_sem] def c91_4 : Cmd := .ops [⟨some 10, .move (.tmp 0), 141, none⟩,
    ⟨some 11, .move (.tmp 1), 53, none⟩,
    ⟨some 12, .call { callee := (.value (.func 203)), args := #[(.tmp 10), (.const (.int .i64 2)), (.tmp 11)], argTypes := #[141, 3, 53] }, 54, none⟩,
    ⟨some 5, .assign (.tmp 12), 54, none⟩]
@[go_sem] def c91_5 : Cmd := .ops [⟨some 13, .move (.tmp 5), 54, none⟩,
    ⟨some 14, .binOp .eql 54 (.tmp 13) (.const (.int .i64 0)) 54, 4, none⟩]
@[go_sem] def c91_6 : Cmd := .ops [⟨some 15, .move (.tmp 0), 141, none⟩,
    ⟨some 16, .nilCheck (.tmp 15), 0, none⟩,
    ⟨some 17, .fieldAddr 205 (.tmp 16) 4, 0, none⟩,
    ⟨some 18, .load 3 (.tmp 17), 3, none⟩,
    ⟨some 19, .binOp .add 3 (.tmp 18) (.const (.int .i64 1)) 3, 3, none⟩,
    ⟨some 20, .nilCheck (.tmp 15), 0, none⟩,
    ⟨some 21, .fieldAddr 205 (.tmp 20) 4, 0, none⟩,
    ⟨none, .store 3 (.tmp 21) (.tmp 19), 0, none⟩]
@[go_sem] def c91_7 : Cmd := .cond (.tmp 14) c91_6 .skip
@[go_sem] def c91_8 : Cmd := .ops [⟨some 22, .move (.tmp 5), 54, none⟩,
    ⟨some 4, .assign (.tmp 22), 54, none⟩]
@[go_sem] def c91 : Cmd := (.seq c91_0 (.seq (.seq c91_1 c91_3) (.seq c91_4 (.seq (.seq c91_5 c91_7) (.seq c91_8 .ret)))))
theorem b91 : Tryz.f91.body.map (comp 23) = some c91 := by kernel_rfl
theorem r91 : Tryz.f91.results.toList = [.tmp 4] := by kernel_rfl
@[go_sem] def c92_0 : Cmd := .ops [⟨some 1, .assign (.const (.int .i64 0)), 54, none⟩]
@[go_sem] def c92_1 : Cmd := .ops [⟨some 3, .load 141 (.tmp 0), 141, none⟩,
    ⟨some 4, .call { callee := (.value (.func 93)), args := #[(.tmp 3), (.const (.bool true))], argTypes := #[141, 4] }, 147, none⟩,
    ⟨some 2, .move (.tmp 4), 147, none⟩,
    ⟨some 5, .extract (.tmp 2) 0, 3, none⟩,
    ⟨some 6, .extract (.tmp 2) 1, 146, none⟩,
    ⟨some 7, .extract (.tmp 2) 2, 54, none⟩,
    ⟨some 1, .assign (.tmp 7), 54, none⟩]
@[go_sem] def c92_2 : Cmd := .ops [⟨some 8, .move (.tmp 1), 54, none⟩,
    ⟨some 1, .assign (.tmp 8), 54, none⟩]
@[go_sem] def c92 : Cmd := (.seq c92_0 (.seq c92_1 (.seq c92_2 .ret)))
theorem b92 : Tryz.f92.body.map (comp 9) = some c92 := by kernel_rfl
theorem r92 : Tryz.f92.results.toList = [.tmp 1] := by kernel_rfl
@[go_sem] def c93_0 : Cmd := .ops [⟨some 4, .assign (.const (.int .i64 0)), 3, none⟩,
    ⟨some 5, .assign (.const (.int .u32 0)), 146, none⟩,
    ⟨some 6, .assign (.const (.int .i64 0)), 54, none⟩]
@[go_sem] def c93_1 : Cmd := .ops [⟨some 8, .move (.tmp 0), 141, none⟩,
    ⟨some 9, .nilCheck (.tmp 8), 0, none⟩,
    ⟨some 10, .fieldAddr 205 (.tmp 9) 5, 0, none⟩,
    ⟨some 11, .load 4 (.tmp 10), 4, none⟩]
@[go_sem] def c93_2 : Cmd := .ops [⟨some 4, .assign (.const (.int .i64 0)), 3, none⟩,
    ⟨some 5, .assign (.const (.int .u32 0)), 146, none⟩,
    ⟨some 6, .assign (.const (.int .i64 91)), 54, none⟩]
@[go_sem] def c93_3 : Cmd := .cond (.tmp 11) (.seq c93_2 .ret) .skip
@[go_sem] def c93_4 : Cmd := .ops [⟨some 12, .move (.tmp 0), 141, none⟩,
    ⟨some 13, .move (.tmp 0), 141, none⟩,
    ⟨some 14, .nilCheck (.tmp 13), 0, none⟩,
    ⟨some 15, .fieldAddr 205 (.tmp 14) 4, 0, none⟩,
    ⟨some 16, .load 3 (.tmp 15), 3, none⟩,
    ⟨some 17, .call { callee := (.value (.func 204)), args := #[(.tmp 16)], argTypes := #[3] }, 53, none⟩,
    ⟨some 18, .call { callee := (.value (.func 203)), args := #[(.tmp 12), (.const (.int .i64 3)), (.tmp 17)], argTypes := #[141, 3, 53] }, 54, none⟩,
    ⟨some 7, .assign (.tmp 18), 54, none⟩]
@[go_sem] def c93_5 : Cmd := .ops [⟨some 19, .move (.tmp 0), 141, none⟩,
    ⟨some 20, .nilCheck (.tmp 19), 0, none⟩,
    ⟨some 21, .fieldAddr 205 (.tmp 20) 5, 0, none⟩,
    ⟨none, .store 4 (.tmp 21) (.const (.bool true)), 0, none⟩]
@[go_sem] def c93_6 : Cmd := .ops [⟨some 22, .move (.tmp 7), 54, none⟩,
    ⟨some 23, .binOp .eql 54 (.tmp 22) (.const (.int .i64 0)) 54, 4, none⟩,
    ⟨some 24, .move (.tmp 23), 4, none⟩,
    ⟨some 25, .move (.tmp 1), 4, some (24, true)⟩,
    ⟨some 26, .pick (.tmp 24) (.tmp 25) (.const (.bool false)), 4, none⟩]
@[go_sem] def c93_7 : Cmd := .still 8 [⟨some 27, .move (.tmp 0), 141, none⟩,
    ⟨some 28, .nilCheck (.tmp 27), 0, none⟩,
    ⟨some 29, .fieldAddr 205 (.tmp 28) 0, 0, none⟩,
    ⟨some 30, .load 25 (.tmp 29), 25, none⟩,
    ⟨some 31, .move (.tmp 0), 141, none⟩,
    ⟨some 32, .nilCheck (.tmp 31), 0, none⟩,
    ⟨some 33, .fieldAddr 205 (.tmp 32) 1, 0, none⟩,
    ⟨some 34, .load 9 (.tmp 33), 9, none⟩,
    ⟨some 35, .call { callee := (.value (.func 205)), args := #[(.tmp 30), (.tmp 34)], argTypes := #[25, 9] }, 54, none⟩,
    ⟨some 7, .assign (.tmp 35), 54, none⟩]
@[go_sem] def c93_8 : Cmd := .cond (.tmp 26) c93_7 .skip
@[go_sem] def c93_9 : Cmd := .ops [⟨some 36, .move (.tmp 7), 54, none⟩,
    ⟨some 37, .binOp .neq 54 (.tmp 36) (.const (.int .i64 0)) 54, 4, none⟩]
@[go_sem] def c93_10 : Cmd := .ops [⟨some 38, .move (.tmp 7), 54, none⟩,
    ⟨some 4, .assign (.const (.int .i64 0)), 3, none⟩,
    ⟨some 5, .assign (.const (.int .u32 0)), 146, none⟩,
    ⟨some 6, .assign (.tmp 38), 54, none⟩]
@[go_sem] def c93_11 : Cmd := .cond (.tmp 37) (.seq c93_10 .ret) .skip
@[go_sem] def c93_12 : Cmd := .quiet [⟨some 39, .move (.tmp 0), 141, none⟩,
    ⟨some 40, .nilCheck (.tmp 39), 0, none⟩,
    ⟨some 41, .fieldAddr 205 (.tmp 40) 2, 0, none⟩,
    ⟨some 42, .load 3 (.tmp 41), 3, none⟩,
    ⟨some 43, .move (.tmp 0), 141, none⟩,
    ⟨some 44, .nilCheck (.tmp 43), 0, none⟩,
    ⟨some 45, .fieldAddr 205 (.tmp 44) 3, 0, none⟩,
    ⟨some 46, .load 146 (.tmp 45), 146, none⟩,
    ⟨some 4, .assign (.tmp 42), 3, none⟩,
    ⟨some 5, .assign (.tmp 46), 146, none⟩,
    ⟨some 6, .assign (.const (.int .i64 0)), 54, none⟩]
@[go_sem] def c93 : Cmd := (.seq c93_0 (.seq (.seq c93_1 c93_3) (.seq c93_4 (.seq c93_5 (.seq (.seq c93_6 c93_8) (.seq (.seq c93_9 c93_11) (.seq c93_12 .ret)))))))
theorem b93 : Tryz.f93.body.map (comp 47) = some c93 := by kernel_rfl
theorem r93 : Tryz.f93.results.toList = [.tmp 4, .tmp 5, .tmp 6] := by kernel_rfl
@[go_sem] def c94_0 : Cmd := .ops [⟨some 3, .assign (.const (.int .i64 0)), 54, none⟩]
@[go_sem] def c94_1 : Cmd := .ops [⟨some 4, .load 25 (.tmp 0), 25, none⟩,
    ⟨some 5, .load 9 (.tmp 1), 9, none⟩,
    ⟨some 6, .load 9 (.tmp 2), 9, none⟩,
    ⟨some 7, .call { callee := (.value (.func 95)), args := #[(.tmp 4), (.tmp 5), (.tmp 6)], argTypes := #[25, 9, 9] }, 54, none⟩,
    ⟨some 3, .assign (.tmp 7), 54, none⟩]
@[go_sem] def c94 : Cmd := (.seq c94_0 (.seq c94_1 .ret))
theorem b94 : Tryz.f94.body.map (comp 8) = some c94 := by kernel_rfl
theorem r94 : Tryz.f94.results.toList = [.tmp 3] := by kernel_rfl
@[go_sem] def c95_0 : Cmd := .ops [⟨some 6, .assign (.const (.int .i64 0)), 54, none⟩]
@[go_sem] def c95_1 : Cmd := .ops [⟨some 9, .move (.tmp 0), 25, none⟩,
    ⟨some 10, .move (.tmp 1), 9, none⟩,
    ⟨some 11, .move (.tmp 2), 9, none⟩,
    ⟨some 12, .buildSlice 110 2 #[(0, (.tmp 10)), (1, (.tmp 11))], 110, none⟩,
    ⟨some 13, .call { callee := (.value (.func 206)), args := #[(.tmp 9), (.tmp 12)], argTypes := #[25, 110] }, 54, none⟩,
    ⟨some 7, .assign (.tmp 13), 54, none⟩]
@[go_sem] def c95_2 : Cmd := .ops [⟨some 14, .move (.tmp 7), 54, none⟩,
    ⟨some 15, .binOp .neq 54 (.tmp 14) (.const (.int .i64 0)) 54, 4, none⟩]
@[go_sem] def c95_3 : Cmd := .ops [⟨some 16, .move (.tmp 7), 54, none⟩,
    ⟨some 6, .assign (.tmp 16), 54, none⟩]
@[go_sem] def c95_4 : Cmd := .cond (.tmp 15) (.seq c95_3 .ret) .skip
@[go_sem] def c95_5 : Cmd := .ops [⟨some 17, .move (.tmp 0), 25, none⟩,
    ⟨some 18, .nilCheck (.tmp 17), 0, none⟩,
    ⟨some 19, .fieldAddr 89 (.tmp 18) 1, 0, none⟩,
    ⟨some 20, .load 85 (.tmp 19), 85, none⟩,
    ⟨some 21, .move (.tmp 1), 9, none⟩,
    ⟨some 22, .lookup 85 (.tmp 20) (.tmp 21) false, 115, none⟩,
    ⟨some 8, .assign (.tmp 22), 115, none⟩]
@[go_sem] def c95_6 : Cmd := .ops [⟨some 23, .move (.tmp 8), 115, none⟩,
    ⟨some 24, .binOp .eql 115 (.tmp 23) (.const (.pointer none)) 115, 4, none⟩]
@[go_sem] def c95_7 : Cmd := .ops [⟨some 6, .assign (.const (.int .i64 82)), 54, none⟩]
@[go_sem] def c95_8 : Cmd := .cond (.tmp 24) (.seq c95_7 .ret) .skip
@[go_sem] def c95_9 : Cmd := .ops [⟨some 25, .move (.tmp 0), 25, none⟩,
    ⟨some 26, .move (.tmp 8), 115, none⟩,
    ⟨some 27, .move (.tmp 2), 9, none⟩,
    ⟨some 28, .call { callee := (.value (.func 188)), args := #[(.tmp 25), (.tmp 26), (.tmp 27)], argTypes := #[25, 115, 9] }, 54, none⟩,
    ⟨some 6, .assign (.tmp 28), 54, none⟩]
@[go_sem] def c95 : Cmd := (.seq c95_0 (.seq (.seq c95_1 (.seq c95_2 c95_4)) (.seq c95_5 (.seq (.seq c95_6 c95_8) (.seq c95_9 .ret)))))
theorem b95 : Tryz.f95.body.map (comp 29) = some c95 := by kernel_rfl
theorem r95 : Tryz.f95.results.toList = [.tmp 6] := by kernel_rfl
@[go_sem] def c97_0 : Cmd := .ops [⟨some 2, .assign (.const (.pointer none)), 151, none⟩]
@[go_sem] def c97_1 : Cmd := .ops [⟨some 3, .move (.tmp 0), 53, none⟩,
    ⟨some 4, .call { callee := (.value (.func 86)), args := #[(.tmp 3), (.const (.int .i64 0))], argTypes := #[53, 3] }, 53, none⟩,
    ⟨some 5, .build 209 #[(0, (.tmp 4))], 209, none⟩,
    ⟨some 6, .box 209 (.tmp 5), 151, none⟩,
    ⟨some 2, .assign (.tmp 6), 151, none⟩]
@[go_sem] def c97 : Cmd := (.seq c97_0 (.seq c97_1 .ret))
theorem b97 : Tryz.f97.body.map (comp 7) = some c97 := by kernel_rfl
theorem r97 : Tryz.f97.results.toList = [.tmp 2] := by kernel_rfl
@[go_sem] def c98_0 : Cmd := .ops [⟨some 2, .assign (.const (.int .i64 0)), 3, none⟩]
@[go_sem] def c98_1 : Cmd := .ops [⟨some 6, .move (.tmp 0), 151, none⟩,
    ⟨some 7, .nilCheck (.tmp 6), 0, none⟩,
    ⟨some 8, .fieldAddr 209 (.tmp 7) 2, 0, none⟩,
    ⟨some 9, .load 54 (.tmp 8), 54, none⟩,
    ⟨some 10, .binOp .neq 54 (.tmp 9) (.const (.int .i64 0)) 54, 4, none⟩]
@[go_sem] def c98_2 : Cmd := .ops [⟨some 2, .assign (.const (.int .i64 0)), 3, none⟩]
@[go_sem] def c98_3 : Cmd := .cond (.tmp 10) (.seq c98_2 .ret) .skip
@[go_sem] def c98_4 : Cmd := .quiet [⟨some 12, .move (.tmp 0), 151, none⟩,
    ⟨some 13, .nilCheck (.tmp 12), 0, none⟩,
    ⟨some 14, .fieldAddr 209 (.tmp 13) 0, 0, none⟩,
    ⟨some 15, .load 53 (.tmp 14), 53, none⟩,
    ⟨some 16, .move (.tmp 0), 151, none⟩,
    ⟨some 17, .nilCheck (.tmp 16), 0, none⟩,
    ⟨some 18, .fieldAddr 209 (.tmp 17) 1, 0, none⟩,
    ⟨some 19, .load 3 (.tmp 18), 3, none⟩,
    ⟨some 20, .slice 53 (.tmp 15) (some (.tmp 19)) none none, 53, none⟩,
    ⟨some 21, .call { callee := (.value (.func 207)), args := #[(.tmp 20)], argTypes := #[53] }, 210, none⟩,
    ⟨some 11, .move (.tmp 21), 210, none⟩,
    ⟨some 22, .extract (.tmp 11) 0, 3, none⟩,
    ⟨some 23, .extract (.tmp 11) 1, 3, none⟩,
    ⟨some 24, .extract (.tmp 11) 2, 54, none⟩,
    ⟨some 3, .assign (.tmp 22), 3, none⟩,
    ⟨some 4, .assign (.tmp 23), 3, none⟩,
    ⟨some 5, .assign (.tmp 24), 54, none⟩]
@[go_sem] def c98_5 : Cmd := .ops [⟨some 25, .move (.tmp 0), 151, none⟩,
    ⟨some 26, .move (.tmp 0), 151, none⟩,
    ⟨some 27, .move (.tmp 0), 151, none⟩,
    ⟨some 28, .nilCheck (.tmp 27), 0, none⟩,
    ⟨some 29, .fieldAddr 209 (.tmp 28) 1, 0, none⟩,
    ⟨some 30, .load 3 (.tmp 29), 3, none⟩,
    ⟨some 31, .move (.tmp 4), 3, none⟩,
    ⟨some 32, .binOp .add 3 (.tmp 30) (.tmp 31) 3, 3, none⟩,
    ⟨some 33, .move (.tmp 5), 54, none⟩,
    ⟨some 34, .nilCheck (.tmp 25), 0, none⟩,
    ⟨some 35, .fieldAddr 209 (.tmp 34) 1, 0, none⟩,
    ⟨none, .store 3 (.tmp 35) (.tmp 32), 0, none⟩,
    ⟨some 36, .nilCheck (.tmp 26), 0, none⟩,
    ⟨some 37, .fieldAddr 209 (.tmp 36) 2, 0, none⟩,
    ⟨none, .store 54 (.tmp 37) (.tmp 33), 0, none⟩]
@[go_sem] def c98_6 : Cmd := .ops [⟨some 38, .move (.tmp 3), 3, none⟩,
    ⟨some 2, .assign (.tmp 38), 3, none⟩]
@[go_sem] def c98 : Cmd := (.seq c98_0 (.seq (.seq c98_1 c98_3) (.seq c98_4 (.seq c98_5 (.seq c98_6 .ret)))))
theorem b98 : Tryz.f98.body.map (comp 39) = some c98 := by kernel_rfl
theorem r98 : Tryz.f98.results.toList = [.tmp 2] := by kernel_rfl
@[go_sem] def c99_0 : Cmd := .ops [⟨some 2, .assign (.const (.int .i64 0)), 54, none⟩,
    ⟨some 3, .assign (.const (.int .i64 0)), 3, none⟩]
@[go_sem] def c99_1 : Cmd := .quiet [⟨some 4, .move (.tmp 0), 151, none⟩,
    ⟨some 5, .nilCheck (.tmp 4), 0, none⟩,
    ⟨some 6, .fieldAddr 209 (.tmp 5) 2, 0, none⟩,
    ⟨some 7, .load 54 (.tmp 6), 54, none⟩,
    ⟨some 8, .move (.tmp 0), 151, none⟩,
    ⟨some 9, .nilCheck (.tmp 8), 0, none⟩,
    ⟨some 10, .fieldAddr 209 (.tmp 9) 1, 0, none⟩,
    ⟨some 11, .load 3 (.tmp 10), 3, none⟩,
    ⟨some 2, .assign (.tmp 7), 54, none⟩,
    ⟨some 3, .assign (.tmp 11), 3, none⟩]
@[go_sem] def c99 : Cmd := (.seq c99_0 (.seq c99_1 .ret))
theorem b99 : Tryz.f99.body.map (comp 12) = some c99 := by kernel_rfl
theorem r99 : Tryz.f99.results.toList = [.tmp 2, .tmp 3] := by kernel_rfl
@[go_sem] def c100_0 : Cmd := .ops [⟨some 2, .assign (.const (.int .i64 0)), 3, none⟩]
@[go_sem] def c100_1 : Cmd := .ops [⟨some 3, .move (.tmp 0), 151, none⟩,
    ⟨some 4, .nilCheck (.tmp 3), 0, none⟩,
    ⟨some 5, .fieldAddr 209 (.tmp 4) 2, 0, none⟩,
    ⟨some 6, .load 54 (.tmp 5), 54, none⟩,
    ⟨some 7, .binOp .neq 54 (.tmp 6) (.const (.int .i64 0)) 54, 4, none⟩]
@[go_sem] def c100_2 : Cmd := .ops [⟨some 2, .assign (.const (.int .i64 0)), 3, none⟩]
@[go_sem] def c100_3 : Cmd := .cond (.tmp 7) (.seq c100_2 .ret) .skip
@[go_sem] def c100_4 : Cmd := .quiet [⟨some 8, .move (.tmp 0), 151, none⟩,
    ⟨some 9, .nilCheck (.tmp 8), 0, none⟩,
    ⟨some 10, .fieldAddr 209 (.tmp 9) 0, 0, none⟩,
    ⟨some 11, .load 53 (.tmp 10), 53, none⟩,
    ⟨some 12, .call { callee := (.builtin .len), args := #[(.tmp 11)], argTypes := #[53] }, 3, none⟩,
    ⟨some 13, .move (.tmp 0), 151, none⟩,
    ⟨some 14, .nilCheck (.tmp 13), 0, none⟩,
    ⟨some 15, .fieldAddr 209 (.tmp 14) 1, 0, none⟩,
    ⟨some 16, .load 3 (.tmp 15), 3, none⟩,
    ⟨some 17, .binOp .sub 3 (.tmp 12) (.tmp 16) 3, 3, none⟩,
    ⟨some 2, .assign (.tmp 17), 3, none⟩]
@[go_sem] def c100 : Cmd := (.seq c100_0 (.seq (.seq c100_1 c100_3) (.seq c100_4 .ret)))
theorem b100 : Tryz.f100.body.map (comp 18) = some c100 := by kernel_rfl
theorem r100 : Tryz.f100.results.toList = [.tmp 2] := by kernel_rfl
@[go_sem] def c101_0 : Cmd := .ops [⟨some 4, .assign (.const (.pointer none)), 155, none⟩,
    ⟨some 5, .assign (.const (.slice none 0 0)), 53, none⟩,
    ⟨some 6, .assign (.const (.int .i64 0)), 54, none⟩]
@[go_sem] def c101_1 : Cmd := .ops [⟨some 10, .move (.tmp 0), 25, none⟩,
    ⟨some 11, .move (.tmp 1), 9, none⟩,
    ⟨some 12, .build 213 #[(0, (.tmp 10)), (1, (.tmp 11))], 213, none⟩,
    ⟨some 13, .box 213 (.tmp 12), 155, none⟩,
    ⟨some 7, .assign (.tmp 13), 155, none⟩]
@[go_sem] def c101_2 : Cmd := .ops [⟨some 15, .move (.tmp 7), 155, none⟩,
    ⟨some 16, .call { callee := (.value (.func 208)), args := #[(.tmp 15)], argTypes := #[155] }, 216, none⟩,
    ⟨some 14, .move (.tmp 16), 216, none⟩,
    ⟨some 17, .extract (.tmp 14) 0, 215, none⟩,
    ⟨some 18, .extract (.tmp 14) 1, 54, none⟩,
    ⟨some 8, .alloc 215, 0, none⟩,
    ⟨none, .store 215 (.tmp 8) (.tmp 17), 0, none⟩,
    ⟨some 9, .assign (.tmp 18), 54, none⟩]
@[go_sem] def c101_3 : Cmd := .ops [⟨some 19, .move (.tmp 9), 54, none⟩,
    ⟨some 20, .binOp .eql 54 (.tmp 19) (.const (.int .i64 0)) 54, 4, none⟩,
    ⟨some 21, .move (.tmp 20), 4, none⟩,
    ⟨some 22, .fieldAddr 215 (.tmp 8) 0, 0, some (21, true)⟩,
    ⟨some 23, .load 3 (.tmp 22), 3, some (21, true)⟩,
    ⟨some 24, .binOp .neq 3 (.tmp 23) (.const (.int .i64 1)) 3, 4, some (21, true)⟩,
    ⟨some 25, .pick (.tmp 21) (.tmp 24) (.const (.bool false)), 4, none⟩]
@[go_sem] def c101_4 : Cmd := .ops [⟨some 9, .assign (.const (.int .i64 90)), 54, none⟩]
@[go_sem] def c101_5 : Cmd := .cond (.tmp 25) c101_4 .skip
@[go_sem] def c101_6 : Cmd := .ops [⟨some 26, .move (.tmp 9), 54, none⟩,
    ⟨some 27, .binOp .neq 54 (.tmp 26) (.const (.int .i64 0)) 54, 4, none⟩]
@[go_sem] def c101_7 : Cmd := .ops [⟨some 28, .move (.tmp 9), 54, none⟩,
    ⟨some 4, .assign (.const (.pointer none)), 155, none⟩,
    ⟨some 5, .assign (.const (.slice none 0 0)), 53, none⟩,
    ⟨some 6, .assign (.tmp 28), 54, none⟩]
@[go_sem] def c101_8 : Cmd := .cond (.tmp 27) (.seq c101_7 .ret) .skip
@[go_sem] def c101_9 : Cmd := .quiet [⟨some 29, .move (.tmp 7), 155, none⟩,
    ⟨some 30, .fieldAddr 215 (.tmp 8) 1, 0, none⟩,
    ⟨some 31, .load 53 (.tmp 30), 53, none⟩,
    ⟨some 4, .assign (.tmp 29), 155, none⟩,
    ⟨some 5, .assign (.tmp 31), 53, none⟩,
    ⟨some 6, .assign (.const (.int .i64 0)), 54, none⟩]
@[go_sem] def c101 : Cmd := (.seq c101_0 (.seq c101_1 (.seq c101_2 (.seq (.seq c101_3 c101_5) (.seq (.seq c101_6 c101_8) (.seq c101_9 .ret))))))
theorem b101 : Tryz.f101.body.map (comp 32) = some c101 := by kernel_rfl
theorem r101 : Tryz.f101.results.toList = [.tmp 4, .tmp 5, .tmp 6] := by kernel_rfl
@[go_sem] def c102_0 : Cmd := .ops [⟨some 1, .box 155 (.tmp 0), 0, none⟩,
    ⟨some 2, .assign (.const .nilFunc), 159, none⟩]
@[go_sem] def c102_1 : Cmd := .ops [⟨some 3, .makeFunc (.func 209) #[] #[(.tmp 1)], 158, none⟩,
    ⟨some 2, .assign (.tmp 3), 159, none⟩]
@[go_sem] def c102 : Cmd := (.seq c102_0 (.seq c102_1 .ret))
theorem b102 : Tryz.f102.body.map (comp 4) = some c102 := by kernel_rfl
theorem r102 : Tryz.f102.results.toList = [.tmp 2] := by kernel_rfl
@[go_sem] def c178_0 : Cmd := .ops [⟨some 4, .assign (.const (.pointer none)), 115, none⟩,
    ⟨some 5, .assign (.const (.int .i64 0)), 54, none⟩]
@[go_sem] def c178_1 : Cmd := .ops [⟨some 8, .move (.tmp 0), 25, none⟩,
    ⟨some 9, .move (.tmp 1), 9, none⟩,
    ⟨some 10, .buildSlice 110 1 #[(0, (.tmp 9))], 110, none⟩,
    ⟨some 11, .call { callee := (.value (.func 206)), args := #[(.tmp 8), (.tmp 10)], argTypes := #[25, 110] }, 54, none⟩,
    ⟨some 6, .assign (.tmp 11), 54, none⟩]
@[go_sem] def c178_2 : Cmd := .ops [⟨some 12, .move (.tmp 6), 54, none⟩,
    ⟨some 13, .binOp .neq 54 (.tmp 12) (.const (.int .i64 0)) 54, 4, none⟩]
@[go_sem] def c178_3 : Cmd := .ops [⟨some 14, .move (.tmp 6), 54, none⟩,
    ⟨some 4, .assign (.const (.pointer none)), 115, none⟩,
    ⟨some 5, .assign (.tmp 14), 54, none⟩]
@[go_sem] def c178_4 : Cmd := .cond (.tmp 13) (.seq c178_3 .ret) .skip
@[go_sem] def c178_5 : Cmd := .ops [⟨some 15, .move (.tmp 0), 25, none⟩,
    ⟨some 16, .nilCheck (.tmp 15), 0, none⟩,
    ⟨some 17, .fieldAddr 89 (.tmp 16) 1, 0, none⟩,
    ⟨some 18, .load 85 (.tmp 17), 85, none⟩,
    ⟨some 19, .move (.tmp 1), 9, none⟩,
    ⟨some 20, .lookup 85 (.tmp 18) (.tmp 19) false, 115, none⟩,
    ⟨some 7, .assign (.tmp 20), 115, none⟩]
@[go_sem] def c178_6 : Cmd := .ops [⟨some 21, .move (.tmp 7), 115, none⟩,
    ⟨some 22, .binOp .eql 115 (.tmp 21) (.const (.pointer none)) 115, 4, none⟩]
@[go_sem] def c178_7 : Cmd := .ops [⟨some 4, .assign (.const (.pointer none)), 115, none⟩,
    ⟨some 5, .assign (.const (.int .i64 82)), 54, none⟩]
@[go_sem] def c178_8 : Cmd := .cond (.tmp 22) (.seq c178_7 .ret) .skip
@[go_sem] def c178_9 : Cmd := .ops [⟨some 23, .move (.tmp 7), 115, none⟩,
    ⟨some 4, .assign (.tmp 23), 115, none⟩,
    ⟨some 5, .assign (.const (.int .i64 0)), 54, none⟩]
@[go_sem] def c178 : Cmd := (.seq c178_0 (.seq (.seq c178_1 (.seq c178_2 c178_4)) (.seq c178_5 (.seq (.seq c178_6 c178_8) (.seq c178_9 .ret)))))
theorem b178 : Tryz.f178.body.map (comp 24) = some c178 := by kernel_rfl
theorem r178 : Tryz.f178.results.toList = [.tmp 4, .tmp 5] := by kernel_rfl
@[go_sem] def c179_0 : Cmd := .ops [⟨some 2, .assign (.const (.int .i64 0)), 54, none⟩]
@[go_sem] def c179_1 : Cmd := .ops [⟨some 3, .move (.tmp 0), 25, none⟩,
    ⟨some 4, .nilCheck (.tmp 3), 0, none⟩,
    ⟨some 5, .fieldAddr 89 (.tmp 4) 7, 0, none⟩,
    ⟨some 6, .load 3 (.tmp 5), 3, none⟩,
    ⟨some 7, .binOp .add 3 (.tmp 6) (.const (.int .i64 1)) 3, 3, none⟩,
    ⟨some 8, .nilCheck (.tmp 3), 0, none⟩,
    ⟨some 9, .fieldAddr 89 (.tmp 8) 7, 0, none⟩,
    ⟨none, .store 3 (.tmp 9) (.tmp 7), 0, none⟩]
@[go_sem] def c179_2 : Cmd := .ops [⟨some 10, .move (.tmp 0), 25, none⟩,
    ⟨some 11, .nilCheck (.tmp 10), 0, none⟩,
    ⟨some 12, .fieldAddr 89 (.tmp 11) 6, 0, none⟩,
    ⟨some 13, .load 3 (.tmp 12), 3, none⟩,
    ⟨some 14, .binOp .gtr 3 (.tmp 13) (.const (.int .i64 0)) 3, 4, none⟩]
@[go_sem] def c179_3 : Cmd := .ops [⟨some 15, .move (.tmp 0), 25, none⟩,
    ⟨some 16, .nilCheck (.tmp 15), 0, none⟩,
    ⟨some 17, .fieldAddr 89 (.tmp 16) 6, 0, none⟩,
    ⟨some 18, .load 3 (.tmp 17), 3, none⟩,
    ⟨some 19, .binOp .sub 3 (.tmp 18) (.const (.int .i64 1)) 3, 3, none⟩,
    ⟨some 20, .nilCheck (.tmp 15), 0, none⟩,
    ⟨some 21, .fieldAddr 89 (.tmp 20) 6, 0, none⟩,
    ⟨none, .store 3 (.tmp 21) (.tmp 19), 0, none⟩]
@[go_sem] def c179_4 : Cmd := .ops [⟨some 22, .move (.tmp 0), 25, none⟩,
    ⟨some 23, .nilCheck (.tmp 22), 0, none⟩,
    ⟨some 24, .fieldAddr 89 (.tmp 23) 6, 0, none⟩,
    ⟨some 25, .load 3 (.tmp 24), 3, none⟩,
    ⟨some 26, .binOp .eql 3 (.tmp 25) (.const (.int .i64 0)) 3, 4, none⟩]
@[go_sem] def c179_5 : Cmd := .ops [⟨some 27, .move (.tmp 0), 25, none⟩,
    ⟨some 28, .nilCheck (.tmp 27), 0, none⟩,
    ⟨some 29, .fieldAddr 89 (.tmp 28) 5, 0, none⟩,
    ⟨none, .store 4 (.tmp 29) (.const (.bool true)), 0, none⟩]
@[go_sem] def c179_6 : Cmd := .ops [⟨some 2, .assign (.const (.int .i64 81)), 54, none⟩]
@[go_sem] def c179_7 : Cmd := .cond (.tmp 26) (.seq c179_5 (.seq c179_6 .ret)) .skip
@[go_sem] def c179_8 : Cmd := .cond (.tmp 14) (.seq c179_3 (.seq c179_4 c179_7)) .skip
@[go_sem] def c179_9 : Cmd := .ops [⟨some 2, .assign (.const (.int .i64 0)), 54, none⟩]
@[go_sem] def c179 : Cmd := (.seq c179_0 (.seq c179_1 (.seq (.seq c179_2 c179_8) (.seq c179_9 .ret))))
theorem b179 : Tryz.f179.body.map (comp 30) = some c179 := by kernel_rfl
theorem r179 : Tryz.f179.results.toList = [.tmp 2] := by kernel_rfl
@[go_sem] def c188_0 : Cmd := .ops [⟨some 4, .box 115 (.tmp 1), 0, none⟩,
    ⟨some 5, .box 9 (.tmp 2), 0, none⟩,
    ⟨some 6, .assign (.const (.int .i64 0)), 54, none⟩]
@[go_sem] def c188_1 : Cmd := .ops [⟨some 8, .makeFunc (.func 269) #[] #[(.tmp 4), (.tmp 5)], 165, none⟩,
    ⟨some 7, .assign (.tmp 8), 165, none⟩]
@[go_sem] def c188_2 : Cmd := .ops [⟨some 9, .move (.tmp 7), 165, none⟩,
    ⟨some 10, .move (.tmp 0), 25, none⟩,
    ⟨some 11, .nilCheck (.tmp 10), 0, none⟩,
    ⟨some 12, .fieldAddr 89 (.tmp 11) 1, 0, none⟩,
    ⟨some 13, .load 85 (.tmp 12), 85, none⟩,
    ⟨some 14, .call { callee := (.value (.tmp 9)), args := #[(.tmp 13)], argTypes := #[85] }, 0, none⟩]
@[go_sem] def c188_3 : Cmd := .ops [⟨some 15, .move (.tmp 0), 25, none⟩,
    ⟨some 16, .move (.tmp 0), 25, none⟩,
    ⟨some 17, .nilCheck (.tmp 16), 0, none⟩,
    ⟨some 18, .fieldAddr 89 (.tmp 17) 3, 0, none⟩,
    ⟨some 19, .load 87 (.tmp 18), 87, none⟩,
    ⟨some 20, .move (.tmp 7), 165, none⟩,
    ⟨some 21, .buildSlice 87 1 #[(0, (.tmp 20))], 87, none⟩,
    ⟨some 22, .call { callee := (.builtin .append), args := #[(.tmp 19), (.tmp 21)], argTypes := #[87, 87] }, 87, none⟩,
    ⟨some 23, .nilCheck (.tmp 15), 0, none⟩,
    ⟨some 24, .fieldAddr 89 (.tmp 23) 3, 0, none⟩,
    ⟨none, .store 87 (.tmp 24) (.tmp 22), 0, none⟩]
@[go_sem] def c188_4 : Cmd := .ops [⟨some 25, .move (.tmp 0), 25, none⟩,
    ⟨some 26, .call { callee := (.value (.func 179)), args := #[(.tmp 25)], argTypes := #[25] }, 54, none⟩,
    ⟨some 6, .assign (.tmp 26), 54, none⟩]
@[go_sem] def c188 : Cmd := (.seq c188_0 (.seq c188_1 (.seq c188_2 (.seq c188_3 (.seq c188_4 .ret)))))
theorem b188 : Tryz.f188.body.map (comp 27) = some c188 := by kernel_rfl
theorem r188 : Tryz.f188.results.toList = [.tmp 6] := by kernel_rfl
@[go_sem] def c193_0 : Cmd := .ops [⟨some 4, .assign (.const (.int .i64 0)), 3, none⟩,
    ⟨some 5, .assign (.const (.int .i64 0)), 54, none⟩]
@[go_sem] def c193_1 : Cmd := .ops [⟨some 9, .move (.tmp 0), 25, none⟩,
    ⟨some 10, .move (.tmp 1), 9, none⟩,
    ⟨some 11, .call { callee := (.value (.func 178)), args := #[(.tmp 9), (.tmp 10)], argTypes := #[25, 9] }, 177, none⟩,
    ⟨some 8, .move (.tmp 11), 177, none⟩,
    ⟨some 12, .extract (.tmp 8) 0, 115, none⟩,
    ⟨some 13, .extract (.tmp 8) 1, 54, none⟩,
    ⟨some 6, .assign (.tmp 12), 115, none⟩,
    ⟨some 7, .assign (.tmp 13), 54, none⟩]
@[go_sem] def c193_2 : Cmd := .ops [⟨some 14, .move (.tmp 7), 54, none⟩,
    ⟨some 15, .binOp .neq 54 (.tmp 14) (.const (.int .i64 0)) 54, 4, none⟩]
@[go_sem] def c193_3 : Cmd := .ops [⟨some 16, .move (.tmp 7), 54, none⟩,
    ⟨some 4, .assign (.const (.int .i64 0)), 3, none⟩,
    ⟨some 5, .assign (.tmp 16), 54, none⟩]
@[go_sem] def c193_4 : Cmd := .cond (.tmp 15) (.seq c193_3 .ret) .skip
@[go_sem] def c193_5 : Cmd := .ops [⟨some 17, .move (.tmp 6), 115, none⟩,
    ⟨some 18, .nilCheck (.tmp 17), 0, none⟩,
    ⟨some 19, .fieldAddr 117 (.tmp 18) 0, 0, none⟩,
    ⟨some 20, .load 53 (.tmp 19), 53, none⟩,
    ⟨some 21, .call { callee := (.builtin .len), args := #[(.tmp 20)], argTypes := #[53] }, 3, none⟩,
    ⟨some 4, .assign (.tmp 21), 3, none⟩,
    ⟨some 5, .assign (.const (.int .i64 0)), 54, none⟩]
@[go_sem] def c193 : Cmd := (.seq c193_0 (.seq c193_1 (.seq (.seq c193_2 c193_4) (.seq c193_5 .ret))))
theorem b193 : Tryz.f193.body.map (comp 22) = some c193 := by kernel_rfl
theorem r193 : Tryz.f193.results.toList = [.tmp 4, .tmp 5] := by kernel_rfl
@[go_sem] def c194_0 : Cmd := .ops [⟨some 8, .assign (.const (.slice none 0 0)), 53, none⟩,
    ⟨some 9, .assign (.const (.int .i64 0)), 54, none⟩]
@[go_sem] def c194_1 : Cmd := .ops [⟨some 13, .move (.tmp 0), 25, none⟩,
    ⟨some 14, .move (.tmp 1), 9, none⟩,
    ⟨some 15, .call { callee := (.value (.func 178)), args := #[(.tmp 13), (.tmp 14)], argTypes := #[25, 9] }, 177, none⟩,
    ⟨some 12, .move (.tmp 15), 177, none⟩,
    ⟨some 16, .extract (.tmp 12) 0, 115, none⟩,
    ⟨some 17, .extract (.tmp 12) 1, 54, none⟩,
    ⟨some 10, .assign (.tmp 16), 115, none⟩,
    ⟨some 11, .assign (.tmp 17), 54, none⟩]
@[go_sem] def c194_2 : Cmd := .ops [⟨some 18, .move (.tmp 11), 54, none⟩,
    ⟨some 19, .binOp .neq 54 (.tmp 18) (.const (.int .i64 0)) 54, 4, none⟩]
@[go_sem] def c194_3 : Cmd := .ops [⟨some 20, .move (.tmp 11), 54, none⟩,
    ⟨some 8, .assign (.const (.slice none 0 0)), 53, none⟩,
    ⟨some 9, .assign (.tmp 20), 54, none⟩]
@[go_sem] def c194_4 : Cmd := .cond (.tmp 19) (.seq c194_3 .ret) .skip
@[go_sem] def c194_5 : Cmd := .ops [⟨some 21, .move (.tmp 2), 3, none⟩,
    ⟨some 22, .binOp .lss 3 (.tmp 21) (.const (.int .i64 0)) 3, 4, none⟩,
    ⟨some 23, .move (.tmp 22), 4, none⟩,
    ⟨some 24, .move (.tmp 3), 3, some (23, false)⟩,
    ⟨some 25, .binOp .lss 3 (.tmp 24) (.const (.int .i64 0)) 3, 4, some (23, false)⟩,
    ⟨some 26, .pick (.tmp 23) (.const (.bool true)) (.tmp 25), 4, none⟩]
@[go_sem] def c194_6 : Cmd := .ops [⟨some 8, .assign (.const (.slice none 0 0)), 53, none⟩,
    ⟨some 9, .assign (.const (.int .i64 85)), 54, none⟩]
@[go_sem] def c194_7 : Cmd := .cond (.tmp 26) (.seq c194_6 .ret) .skip
@[go_sem] def c194_8 : Cmd := .ops [⟨some 27, .move (.tmp 2), 3, none⟩,
    ⟨some 28, .move (.tmp 10), 115, none⟩,
    ⟨some 29, .nilCheck (.tmp 28), 0, none⟩,
    ⟨some 30, .fieldAddr 117 (.tmp 29) 0, 0, none⟩,
    ⟨some 31, .load 53 (.tmp 30), 53, none⟩,
    ⟨some 32, .call { callee := (.builtin .len), args := #[(.tmp 31)], argTypes := #[53] }, 3, none⟩,
    ⟨some 33, .call { callee := (.builtin .min), args := #[(.tmp 27), (.tmp 32)], argTypes := #[3, 3] }, 3, none⟩,
    ⟨some 2, .assign (.tmp 33), 3, none⟩]
@[go_sem] def c194_9 : Cmd := .still 16 [⟨some 34, .move (.tmp 10), 115, none⟩,
    ⟨some 35, .nilCheck (.tmp 34), 0, none⟩,
    ⟨some 36, .fieldAddr 117 (.tmp 35) 0, 0, none⟩,
    ⟨some 37, .load 53 (.tmp 36), 53, none⟩,
    ⟨some 38, .move (.tmp 2), 3, none⟩,
    ⟨some 39, .move (.tmp 2), 3, none⟩,
    ⟨some 40, .move (.tmp 3), 3, none⟩,
    ⟨some 41, .move (.tmp 10), 115, none⟩,
    ⟨some 42, .nilCheck (.tmp 41), 0, none⟩,
    ⟨some 43, .fieldAddr 117 (.tmp 42) 0, 0, none⟩,
    ⟨some 44, .load 53 (.tmp 43), 53, none⟩,
    ⟨some 45, .call { callee := (.builtin .len), args := #[(.tmp 44)], argTypes := #[53] }, 3, none⟩,
    ⟨some 46, .move (.tmp 2), 3, none⟩,
    ⟨some 47, .binOp .sub 3 (.tmp 45) (.tmp 46) 3, 3, none⟩,
    ⟨some 48, .call { callee := (.builtin .min), args := #[(.tmp 40), (.tmp 47)], argTypes := #[3, 3] }, 3, none⟩,
    ⟨some 49, .binOp .add 3 (.tmp 39) (.tmp 48) 3, 3, none⟩,
    ⟨some 50, .slice 53 (.tmp 37) (some (.tmp 38)) (some (.tmp 49)) none, 53, none⟩,
    ⟨some 51, .call { callee := (.value (.func 198)), args := #[(.tmp 50)], argTypes := #[53] }, 53, none⟩,
    ⟨some 8, .assign (.tmp 51), 53, none⟩,
    ⟨some 9, .assign (.const (.int .i64 0)), 54, none⟩]
@[go_sem] def c194 : Cmd := (.seq c194_0 (.seq c194_1 (.seq (.seq c194_2 c194_4) (.seq (.seq c194_5 c194_7) (.seq c194_8 (.seq c194_9 .ret))))))
theorem b194 : Tryz.f194.body.map (comp 52) = some c194 := by kernel_rfl
theorem r194 : Tryz.f194.results.toList = [.tmp 8, .tmp 9] := by kernel_rfl
-- 198 bytes.Clone
@[go_sem] def c198_0 : Cmd := .ops [⟨some 2, .assign (.const (.slice none 0 0)), 53, none⟩]
@[go_sem] def c198_1 : Cmd := .ops [⟨some 3, .move (.tmp 0), 53, none⟩,
    ⟨some 4, .binOp .eql 53 (.tmp 3) (.const (.slice none 0 0)) 53, 4, none⟩]
@[go_sem] def c198_2 : Cmd := .ops [⟨some 2, .assign (.const (.slice none 0 0)), 53, none⟩]
@[go_sem] def c198_3 : Cmd := .cond (.tmp 4) (.seq c198_2 .ret) .skip
@[go_sem] def c198_4 : Cmd := .ops [⟨some 5, .buildSlice 53 0 #[], 53, none⟩,
    ⟨some 6, .move (.tmp 0), 53, none⟩,
    ⟨some 7, .call { callee := (.builtin .append), args := #[(.tmp 5), (.tmp 6)], argTypes := #[53, 53] }, 53, none⟩,
    ⟨some 2, .assign (.tmp 7), 53, none⟩]
@[go_sem] def c198 : Cmd := (.seq c198_0 (.seq (.seq c198_1 c198_3) (.seq c198_4 .ret)))
theorem b198 : Tryz.f198.body.map (comp 8) = some c198 := by kernel_rfl
theorem r198 : Tryz.f198.results.toList = [.tmp 2] := by kernel_rfl
@[go_sem] def c201_0 : Cmd := .ops [⟨some 2, .assign (.const (.int .i64 0)), 3, none⟩]
@[go_sem] def c201_1 : Cmd := .ops [⟨some 3, .assign (.const (.int .i64 1)), 3, none⟩]
@[go_sem] def c201_2 : Cmd := .ops [⟨some 4, .move (.tmp 0), 3, none⟩,
    ⟨some 5, .binOp .geq 3 (.tmp 4) (.const (.int .i64 128)) 3, 4, none⟩]
@[go_sem] def c201_3 : Cmd := .cond (.tmp 5) .skip (.exit 0)
@[go_sem] def c201_4 : Cmd := .ops [⟨some 6, .move (.tmp 0), 3, none⟩,
    ⟨some 7, .binOp .shr 3 (.tmp 6) (.const (.int .u64 7)) 139, 3, none⟩,
    ⟨some 0, .assign (.tmp 7), 3, none⟩]
@[go_sem] def c201_5 : Cmd := .ops [⟨some 8, .move (.tmp 3), 3, none⟩,
    ⟨some 9, .binOp .add 3 (.tmp 8) (.const (.int .i64 1)) 3, 3, none⟩,
    ⟨some 3, .assign (.tmp 9), 3, none⟩]
@[go_sem] def c201_6 : Cmd := .block 1 (.seq c201_4 c201_5)
def c201_L0 : Cmd := (.seq (.seq c201_2 c201_3) c201_6)
@[go_sem] def c201_7 : Cmd := .loop c201_L0
@[go_sem] def c201_8 : Cmd := .block 0 c201_7
@[go_sem] def c201_9 : Cmd := .ops [⟨some 10, .move (.tmp 3), 3, none⟩,
    ⟨some 2, .assign (.tmp 10), 3, none⟩]
@[go_sem] def c201 : Cmd := (.seq c201_0 (.seq c201_1 (.seq c201_8 (.seq c201_9 .ret))))
theorem b201 : Tryz.f201.body.map (comp 11) = some c201 := by kernel_rfl
theorem r201 : Tryz.f201.results.toList = [.tmp 2] := by kernel_rfl
@[go_sem] def c202_0 : Cmd := .ops [⟨some 4, .assign (.const (.int .i64 0)), 54, none⟩]
@[go_sem] def c202_1 : Cmd := .ops [⟨some 7, .move (.tmp 0), 25, none⟩,
    ⟨some 8, .move (.tmp 1), 9, none⟩,
    ⟨some 9, .buildSlice 110 1 #[(0, (.tmp 8))], 110, none⟩,
    ⟨some 10, .call { callee := (.value (.func 206)), args := #[(.tmp 7), (.tmp 9)], argTypes := #[25, 110] }, 54, none⟩,
    ⟨some 5, .assign (.tmp 10), 54, none⟩]
@[go_sem] def c202_2 : Cmd := .ops [⟨some 11, .move (.tmp 5), 54, none⟩,
    ⟨some 12, .binOp .neq 54 (.tmp 11) (.const (.int .i64 0)) 54, 4, none⟩]
@[go_sem] def c202_3 : Cmd := .ops [⟨some 13, .move (.tmp 5), 54, none⟩,
    ⟨some 4, .assign (.tmp 13), 54, none⟩]
@[go_sem] def c202_4 : Cmd := .cond (.tmp 12) (.seq c202_3 .ret) .skip
@[go_sem] def c202_5 : Cmd := .ops [⟨some 14, .move (.tmp 0), 25, none⟩,
    ⟨some 15, .nilCheck (.tmp 14), 0, none⟩,
    ⟨some 16, .fieldAddr 89 (.tmp 15) 1, 0, none⟩,
    ⟨some 17, .load 85 (.tmp 16), 85, none⟩,
    ⟨some 18, .move (.tmp 1), 9, none⟩,
    ⟨some 19, .lookup 85 (.tmp 17) (.tmp 18) false, 115, none⟩,
    ⟨some 20, .binOp .neq 115 (.tmp 19) (.const (.pointer none)) 115, 4, none⟩]
@[go_sem] def c202_6 : Cmd := .ops [⟨some 4, .assign (.const (.int .i64 83)), 54, none⟩]
@[go_sem] def c202_7 : Cmd := .cond (.tmp 20) (.seq c202_6 .ret) .skip
@[go_sem] def c202_8 : Cmd := .ops [⟨some 21, .build 117 #[], 117, none⟩,
    ⟨some 22, .box 117 (.tmp 21), 115, none⟩,
    ⟨some 6, .assign (.tmp 22), 115, none⟩]
@[go_sem] def c202_9 : Cmd := .ops [⟨some 23, .move (.tmp 0), 25, none⟩,
    ⟨some 24, .nilCheck (.tmp 23), 0, none⟩,
    ⟨some 25, .fieldAddr 89 (.tmp 24) 4, 0, none⟩,
    ⟨some 26, .load 86 (.tmp 25), 86, none⟩,
    ⟨some 27, .move (.tmp 6), 115, none⟩,
    ⟨none, .mapUpdate 86 (.tmp 26) (.tmp 27) (.const (.bool true)), 0, none⟩]
@[go_sem] def c202_10 : Cmd := .ops [⟨some 28, .move (.tmp 0), 25, none⟩,
    ⟨some 29, .move (.tmp 6), 115, none⟩,
    ⟨some 30, .move (.tmp 1), 9, none⟩,
    ⟨some 31, .call { callee := (.value (.func 188)), args := #[(.tmp 28), (.tmp 29), (.tmp 30)], argTypes := #[25, 115, 9] }, 54, none⟩,
    ⟨some 4, .assign (.tmp 31), 54, none⟩]
@[go_sem] def c202 : Cmd := (.seq c202_0 (.seq (.seq c202_1 (.seq c202_2 c202_4)) (.seq (.seq c202_5 c202_7) (.seq c202_8 (.seq c202_9 (.seq c202_10 .ret))))))
theorem b202 : Tryz.f202.body.map (comp 32) = some c202 := by kernel_rfl
theorem r202 : Tryz.f202.results.toList = [.tmp 4] := by kernel_rfl
@[go_sem] def c203_0 : Cmd := .ops [⟨some 6, .assign (.const (.int .i64 0)), 54, none⟩]
@[go_sem] def c203_1 : Cmd := .ops [⟨some 10, .move (.tmp 1), 3, none⟩,
    ⟨some 11, .move (.tmp 2), 53, none⟩,
    ⟨some 12, .build 215 #[(0, (.tmp 10)), (1, (.tmp 11))], 215, none⟩,
    ⟨some 13, .call { callee := (.value (.func 272)), args := #[(.tmp 12)], argTypes := #[215] }, 197, none⟩,
    ⟨some 9, .move (.tmp 13), 197, none⟩,
    ⟨some 14, .extract (.tmp 9) 0, 53, none⟩,
    ⟨some 15, .extract (.tmp 9) 1, 54, none⟩,
    ⟨some 7, .assign (.tmp 14), 53, none⟩,
    ⟨some 8, .assign (.tmp 15), 54, none⟩]
@[go_sem] def c203_2 : Cmd := .ops [⟨some 16, .move (.tmp 8), 54, none⟩,
    ⟨some 17, .binOp .neq 54 (.tmp 16) (.const (.int .i64 0)) 54, 4, none⟩]
@[go_sem] def c203_3 : Cmd := .ops [⟨some 18, .move (.tmp 8), 54, none⟩,
    ⟨some 6, .assign (.tmp 18), 54, none⟩]
@[go_sem] def c203_4 : Cmd := .cond (.tmp 17) (.seq c203_3 .ret) .skip
@[go_sem] def c203_5 : Cmd := .still 9 [⟨some 19, .move (.tmp 0), 141, none⟩,
    ⟨some 20, .nilCheck (.tmp 19), 0, none⟩,
    ⟨some 21, .fieldAddr 205 (.tmp 20) 0, 0, none⟩,
    ⟨some 22, .load 25 (.tmp 21), 25, none⟩,
    ⟨some 23, .move (.tmp 0), 141, none⟩,
    ⟨some 24, .nilCheck (.tmp 23), 0, none⟩,
    ⟨some 25, .fieldAddr 205 (.tmp 24) 1, 0, none⟩,
    ⟨some 26, .load 9 (.tmp 25), 9, none⟩,
    ⟨some 27, .move (.tmp 7), 53, none⟩,
    ⟨some 28, .call { callee := (.value (.func 63)), args := #[(.tmp 22), (.tmp 26), (.tmp 27)], argTypes := #[25, 9, 53] }, 54, none⟩,
    ⟨some 8, .assign (.tmp 28), 54, none⟩]
@[go_sem] def c203_6 : Cmd := .ops [⟨some 29, .move (.tmp 8), 54, none⟩,
    ⟨some 30, .binOp .neq 54 (.tmp 29) (.const (.int .i64 0)) 54, 4, none⟩]
@[go_sem] def c203_7 : Cmd := .ops [⟨some 31, .move (.tmp 0), 141, none⟩,
    ⟨some 32, .nilCheck (.tmp 31), 0, none⟩,
    ⟨some 33, .fieldAddr 205 (.tmp 32) 5, 0, none⟩,
    ⟨none, .store 4 (.tmp 33) (.const (.bool true)), 0, none⟩]
@[go_sem] def c203_8 : Cmd := .ops [⟨some 34, .move (.tmp 8), 54, none⟩,
    ⟨some 6, .assign (.tmp 34), 54, none⟩]
@[go_sem] def c203_9 : Cmd := .cond (.tmp 30) (.seq c203_7 (.seq c203_8 .ret)) .skip
@[go_sem] def c203_10 : Cmd := .ops [⟨some 35, .move (.tmp 0), 141, none⟩,
    ⟨some 36, .nilCheck (.tmp 35), 0, none⟩,
    ⟨some 37, .fieldAddr 205 (.tmp 36) 2, 0, none⟩,
    ⟨some 38, .load 3 (.tmp 37), 3, none⟩,
    ⟨some 39, .move (.tmp 7), 53, none⟩,
    ⟨some 40, .call { callee := (.builtin .len), args := #[(.tmp 39)], argTypes := #[53] }, 3, none⟩,
    ⟨some 41, .binOp .add 3 (.tmp 38) (.tmp 40) 3, 3, none⟩,
    ⟨some 42, .nilCheck (.tmp 35), 0, none⟩,
    ⟨some 43, .fieldAddr 205 (.tmp 42) 2, 0, none⟩,
    ⟨none, .store 3 (.tmp 43) (.tmp 41), 0, none⟩]
@[go_sem] def c203_11 : Cmd := .ops [⟨some 44, .move (.tmp 1), 3, none⟩,
    ⟨some 45, .binOp .neq 3 (.tmp 44) (.const (.int .i64 3)) 3, 4, none⟩]
@[go_sem] def c203_12 : Cmd := .ops [⟨some 46, .move (.tmp 0), 141, none⟩,
    ⟨some 47, .move (.tmp 0), 141, none⟩,
    ⟨some 48, .nilCheck (.tmp 47), 0, none⟩,
    ⟨some 49, .fieldAddr 205 (.tmp 48) 3, 0, none⟩,
    ⟨some 50, .load 146 (.tmp 49), 146, none⟩,
    ⟨some 51, .move (.tmp 2), 53, none⟩,
    ⟨some 52, .call { callee := (.value (.func 273)), args := #[(.tmp 50), (.tmp 51)], argTypes := #[146, 53] }, 146, none⟩,
    ⟨some 53, .nilCheck (.tmp 46), 0, none⟩,
    ⟨some 54, .fieldAddr 205 (.tmp 53) 3, 0, none⟩,
    ⟨none, .store 146 (.tmp 54) (.tmp 52), 0, none⟩]
@[go_sem] def c203_13 : Cmd := .cond (.tmp 45) c203_12 .skip
@[go_sem] def c203_14 : Cmd := .ops [⟨some 6, .assign (.const (.int .i64 0)), 54, none⟩]
@[go_sem] def c203 : Cmd := (.seq c203_0 (.seq c203_1 (.seq (.seq c203_2 c203_4) (.seq (.seq c203_5 (.seq c203_6 c203_9)) (.seq c203_10 (.seq (.seq c203_11 c203_13) (.seq c203_14 .ret)))))))
theorem b203 : Tryz.f203.body.map (comp 55) = some c203 := by kernel_rfl
theorem r203 : Tryz.f203.results.toList = [.tmp 6] := by kernel_rfl
@[go_sem] def c204_0 : Cmd := .ops [⟨some 2, .assign (.const (.slice none 0 0)), 53, none⟩]
@[go_sem] def c204_1 : Cmd := .ops [⟨some 3, .move (.tmp 0), 3, none⟩,
    ⟨some 4, .binOp .shr 3 (.tmp 3) (.const (.int .u64 24)) 139, 3, none⟩,
    ⟨some 5, .convert 3 5 (.tmp 4), 5, none⟩,
    ⟨some 6, .move (.tmp 0), 3, none⟩,
    ⟨some 7, .binOp .shr 3 (.tmp 6) (.const (.int .u64 16)) 139, 3, none⟩,
    ⟨some 8, .convert 3 5 (.tmp 7), 5, none⟩,
    ⟨some 9, .move (.tmp 0), 3, none⟩,
    ⟨some 10, .binOp .shr 3 (.tmp 9) (.const (.int .u64 8)) 139, 3, none⟩,
    ⟨some 11, .convert 3 5 (.tmp 10), 5, none⟩,
    ⟨some 12, .move (.tmp 0), 3, none⟩,
    ⟨some 13, .convert 3 5 (.tmp 12), 5, none⟩,
    ⟨some 14, .buildSlice 53 4 #[(0, (.tmp 5)), (1, (.tmp 8)), (2, (.tmp 11)), (3, (.tmp 13))], 53, none⟩,
    ⟨some 2, .assign (.tmp 14), 53, none⟩]
@[go_sem] def c204 : Cmd := (.seq c204_0 (.seq c204_1 .ret))
theorem b204 : Tryz.f204.body.map (comp 15) = some c204 := by kernel_rfl
theorem r204 : Tryz.f204.results.toList = [.tmp 2] := by kernel_rfl
@[go_sem] def c205_0 : Cmd := .ops [⟨some 4, .assign (.const (.int .i64 0)), 54, none⟩]
@[go_sem] def c205_1 : Cmd := .ops [⟨some 8, .move (.tmp 0), 25, none⟩,
    ⟨some 9, .move (.tmp 1), 9, none⟩,
    ⟨some 10, .call { callee := (.value (.func 178)), args := #[(.tmp 8), (.tmp 9)], argTypes := #[25, 9] }, 177, none⟩,
    ⟨some 7, .move (.tmp 10), 177, none⟩,
    ⟨some 11, .extract (.tmp 7) 0, 115, none⟩,
    ⟨some 12, .extract (.tmp 7) 1, 54, none⟩,
    ⟨some 5, .assign (.tmp 11), 115, none⟩,
    ⟨some 6, .assign (.tmp 12), 54, none⟩]
@[go_sem] def c205_2 : Cmd := .ops [⟨some 13, .move (.tmp 6), 54, none⟩,
    ⟨some 14, .binOp .neq 54 (.tmp 13) (.const (.int .i64 0)) 54, 4, none⟩]
@[go_sem] def c205_3 : Cmd := .ops [⟨some 15, .move (.tmp 6), 54, none⟩,
    ⟨some 4, .assign (.tmp 15), 54, none⟩]
@[go_sem] def c205_4 : Cmd := .cond (.tmp 14) (.seq c205_3 .ret) .skip
@[go_sem] def c205_5 : Cmd := .ops [⟨some 16, .move (.tmp 0), 25, none⟩,
    ⟨some 17, .call { callee := (.value (.func 179)), args := #[(.tmp 16)], argTypes := #[25] }, 54, none⟩,
    ⟨some 6, .assign (.tmp 17), 54, none⟩]
@[go_sem] def c205_6 : Cmd := .ops [⟨some 18, .move (.tmp 6), 54, none⟩,
    ⟨some 19, .binOp .eql 54 (.tmp 18) (.const (.int .i64 0)) 54, 4, none⟩]
@[go_sem] def c205_7 : Cmd := .ops [⟨some 20, .move (.tmp 5), 115, none⟩,
    ⟨some 21, .move (.tmp 5), 115, none⟩,
    ⟨some 22, .nilCheck (.tmp 21), 0, none⟩,
    ⟨some 23, .fieldAddr 117 (.tmp 22) 0, 0, none⟩,
    ⟨some 24, .load 53 (.tmp 23), 53, none⟩,
    ⟨some 25, .call { callee := (.builtin .len), args := #[(.tmp 24)], argTypes := #[53] }, 3, none⟩,
    ⟨some 26, .nilCheck (.tmp 20), 0, none⟩,
    ⟨some 27, .fieldAddr 117 (.tmp 26) 1, 0, none⟩,
    ⟨none, .store 3 (.tmp 27) (.tmp 25), 0, none⟩]
@[go_sem] def c205_8 : Cmd := .cond (.tmp 19) c205_7 .skip
@[go_sem] def c205_9 : Cmd := .ops [⟨some 28, .move (.tmp 6), 54, none⟩,
    ⟨some 4, .assign (.tmp 28), 54, none⟩]
@[go_sem] def c205 : Cmd := (.seq c205_0 (.seq c205_1 (.seq (.seq c205_2 c205_4) (.seq (.seq c205_5 (.seq c205_6 c205_8)) (.seq c205_9 .ret)))))
theorem b205 : Tryz.f205.body.map (comp 29) = some c205 := by kernel_rfl
theorem r205 : Tryz.f205.results.toList = [.tmp 4] := by kernel_rfl
@[go_sem] def c206_0 : Cmd := .ops [⟨some 4, .assign (.const (.int .i64 0)), 54, none⟩]
@[go_sem] def c206_1 : Cmd := .ops [⟨some 7, .move (.tmp 1), 110, none⟩,
    ⟨some 8, .call { callee := (.builtin .len), args := #[(.tmp 7)], argTypes := #[110] }, 3, none⟩,
    ⟨some 9, .move (.const (.int .i64 0)), 3, none⟩]
@[go_sem] def c206_2 : Cmd := .ops [⟨some 10, .binOp .lss 3 (.tmp 9) (.tmp 8) 3, 0, none⟩]
@[go_sem] def c206_3 : Cmd := .cond (.tmp 10) .skip (.exit 0)
@[go_sem] def c206_4 : Cmd := .ops [⟨some 11, .indexAddr 110 (.tmp 7) (.tmp 9), 0, none⟩,
    ⟨some 12, .load 9 (.tmp 11), 9, none⟩,
    ⟨some 6, .assign (.tmp 12), 9, none⟩]
@[go_sem] def c206_5 : Cmd := .ops [⟨some 13, .move (.tmp 6), 9, none⟩,
    ⟨some 14, .call { callee := (.value (.func 268)), args := #[(.tmp 13)], argTypes := #[9] }, 4, none⟩,
    ⟨some 15, .unOp .not 4 (.tmp 14), 4, none⟩]
@[go_sem] def c206_6 : Cmd := .ops [⟨some 4, .assign (.const (.int .i64 84)), 54, none⟩]
@[go_sem] def c206_7 : Cmd := .cond (.tmp 15) (.seq c206_6 .ret) .skip
@[go_sem] def c206_8 : Cmd := .block 1 (.seq c206_4 (.seq c206_5 c206_7))
@[go_sem] def c206_9 : Cmd := .ops [⟨some 16, .binOp .add 3 (.tmp 9) (.const (.int .i64 1)) 3, 3, none⟩,
    ⟨some 9, .move (.tmp 16), 3, none⟩]
def c206_L0 : Cmd := (.seq c206_2 (.seq c206_3 (.seq c206_8 c206_9)))
@[go_sem] def c206_10 : Cmd := .loop c206_L0
@[go_sem] def c206_11 : Cmd := .block 0 c206_10
@[go_sem] def c206_12 : Cmd := .ops [⟨some 17, .move (.tmp 0), 25, none⟩,
    ⟨some 18, .nilCheck (.tmp 17), 0, none⟩,
    ⟨some 19, .fieldAddr 89 (.tmp 18) 5, 0, none⟩,
    ⟨some 20, .load 4 (.tmp 19), 4, none⟩]
@[go_sem] def c206_13 : Cmd := .ops [⟨some 4, .assign (.const (.int .i64 81)), 54, none⟩]
@[go_sem] def c206_14 : Cmd := .cond (.tmp 20) (.seq c206_13 .ret) .skip
@[go_sem] def c206_15 : Cmd := .ops [⟨some 4, .assign (.const (.int .i64 0)), 54, none⟩]
@[go_sem] def c206 : Cmd := (.seq c206_0 (.seq (.seq c206_1 c206_11) (.seq (.seq c206_12 c206_14) (.seq c206_15 .ret))))
theorem b206 : Tryz.f206.body.map (comp 21) = some c206 := by kernel_rfl
theorem r206 : Tryz.f206.results.toList = [.tmp 4] := by kernel_rfl
@[go_sem] def c207_0 : Cmd := .ops [⟨some 2, .assign (.const (.int .i64 0)), 3, none⟩,
    ⟨some 3, .assign (.const (.int .i64 0)), 3, none⟩,
    ⟨some 4, .assign (.const (.int .i64 0)), 54, none⟩]
@[go_sem] def c207_1 : Cmd := .ops [⟨some 8, .move (.tmp 0), 53, none⟩,
    ⟨some 9, .call { callee := (.builtin .len), args := #[(.tmp 8)], argTypes := #[53] }, 3, none⟩,
    ⟨some 10, .binOp .gtr 3 (.tmp 9) (.const (.int .i64 0)) 3, 4, none⟩,
    ⟨some 11, .move (.tmp 10), 4, none⟩,
    ⟨some 12, .move (.tmp 0), 53, some (11, true)⟩,
    ⟨some 13, .indexAddr 53 (.tmp 12) (.const (.int .i64 0)), 0, some (11, true)⟩,
    ⟨some 14, .load 5 (.tmp 13), 5, some (11, true)⟩,
    ⟨some 15, .binOp .eql 5 (.tmp 14) (.const (.int .u8 128)) 5, 4, some (11, true)⟩,
    ⟨some 16, .pick (.tmp 11) (.tmp 15) (.const (.bool false)), 4, none⟩]
@[go_sem] def c207_2 : Cmd := .ops [⟨some 2, .assign (.const (.int .i64 0)), 3, none⟩,
    ⟨some 3, .assign (.const (.int .i64 0)), 3, none⟩,
    ⟨some 4, .assign (.const (.int .i64 11)), 54, none⟩]
@[go_sem] def c207_3 : Cmd := .cond (.tmp 16) (.seq c207_2 .ret) .skip
@[go_sem] def c207_4 : Cmd := .ops [⟨some 5, .assign (.const (.int .i64 0)), 3, none⟩]
@[go_sem] def c207_5 : Cmd := .ops [⟨some 17, .move (.tmp 0), 53, none⟩,
    ⟨some 18, .move (.tmp 0), 53, none⟩,
    ⟨some 19, .call { callee := (.builtin .len), args := #[(.tmp 18)], argTypes := #[53] }, 3, none⟩,
    ⟨some 20, .call { callee := (.builtin .min), args := #[(.tmp 19), (.const (.int .i64 9))], argTypes := #[3, 3] }, 3, none⟩,
    ⟨some 21, .move (.tmp 0), 53, none⟩,
    ⟨some 22, .call { callee := (.builtin .len), args := #[(.tmp 21)], argTypes := #[53] }, 3, none⟩,
    ⟨some 23, .call { callee := (.builtin .min), args := #[(.tmp 22), (.const (.int .i64 9))], argTypes := #[3, 3] }, 3, none⟩,
    ⟨some 24, .slice 53 (.tmp 17) none (some (.tmp 20)) (some (.tmp 23)), 53, none⟩,
    ⟨some 25, .call { callee := (.builtin .len), args := #[(.tmp 24)], argTypes := #[53] }, 3, none⟩,
    ⟨some 26, .move (.const (.int .i64 0)), 3, none⟩]
@[go_sem] def c207_6 : Cmd := .ops [⟨some 27, .binOp .lss 3 (.tmp 26) (.tmp 25) 3, 0, none⟩]
@[go_sem] def c207_7 : Cmd := .cond (.tmp 27) .skip (.exit 0)
@[go_sem] def c207_8 : Cmd := .ops [⟨some 28, .move (.tmp 26), 3, none⟩,
    ⟨some 29, .indexAddr 53 (.tmp 24) (.tmp 26), 0, none⟩,
    ⟨some 30, .load 5 (.tmp 29), 5, none⟩,
    ⟨some 6, .assign (.tmp 28), 3, none⟩,
    ⟨some 7, .assign (.tmp 30), 5, none⟩]
@[go_sem] def c207_9 : Cmd := .ops [⟨some 31, .move (.tmp 5), 3, none⟩,
    ⟨some 32, .binOp .shl 3 (.tmp 31) (.const (.int .u64 7)) 139, 3, none⟩,
    ⟨some 33, .move (.tmp 7), 5, none⟩,
    ⟨some 34, .binOp .and 5 (.tmp 33) (.const (.int .u8 127)) 5, 5, none⟩,
    ⟨some 35, .convert 5 3 (.tmp 34), 3, none⟩,
    ⟨some 36, .binOp .or 3 (.tmp 32) (.tmp 35) 3, 3, none⟩,
    ⟨some 5, .assign (.tmp 36), 3, none⟩]
@[go_sem] def c207_10 : Cmd := .ops [⟨some 37, .move (.tmp 7), 5, none⟩,
    ⟨some 38, .binOp .lss 5 (.tmp 37) (.const (.int .u8 128)) 5, 4, none⟩]
@[go_sem] def c207_11 : Cmd := .ops [⟨some 39, .move (.tmp 5), 3, none⟩,
    ⟨some 40, .move (.tmp 6), 3, none⟩,
    ⟨some 41, .binOp .add 3 (.tmp 40) (.const (.int .i64 1)) 3, 3, none⟩,
    ⟨some 2, .assign (.tmp 39), 3, none⟩,
    ⟨some 3, .assign (.tmp 41), 3, none⟩,
    ⟨some 4, .assign (.const (.int .i64 0)), 54, none⟩]
@[go_sem] def c207_12 : Cmd := .cond (.tmp 38) (.seq c207_11 .ret) .skip
@[go_sem] def c207_13 : Cmd := .block 1 (.seq c207_8 (.seq c207_9 (.seq c207_10 c207_12)))
@[go_sem] def c207_14 : Cmd := .ops [⟨some 42, .binOp .add 3 (.tmp 26) (.const (.int .i64 1)) 3, 3, none⟩,
    ⟨some 26, .move (.tmp 42), 3, none⟩]
def c207_L0 : Cmd := (.seq c207_6 (.seq c207_7 (.seq c207_13 c207_14)))
@[go_sem] def c207_15 : Cmd := .loop c207_L0
@[go_sem] def c207_16 : Cmd := .block 0 c207_15
@[go_sem] def c207_17 : Cmd := .ops [⟨some 43, .move (.tmp 0), 53, none⟩,
    ⟨some 44, .call { callee := (.builtin .len), args := #[(.tmp 43)], argTypes := #[53] }, 3, none⟩,
    ⟨some 45, .binOp .geq 3 (.tmp 44) (.const (.int .i64 9)) 3, 4, none⟩]
@[go_sem] def c207_18 : Cmd := .ops [⟨some 2, .assign (.const (.int .i64 0)), 3, none⟩,
    ⟨some 3, .assign (.const (.int .i64 0)), 3, none⟩,
    ⟨some 4, .assign (.const (.int .i64 12)), 54, none⟩]
@[go_sem] def c207_19 : Cmd := .cond (.tmp 45) (.seq c207_18 .ret) .skip
@[go_sem] def c207_20 : Cmd := .ops [⟨some 2, .assign (.const (.int .i64 0)), 3, none⟩,
    ⟨some 3, .assign (.const (.int .i64 0)), 3, none⟩,
    ⟨some 4, .assign (.const (.int .i64 10)), 54, none⟩]
@[go_sem] def c207 : Cmd := (.seq c207_0 (.seq (.seq c207_1 c207_3) (.seq c207_4 (.seq (.seq c207_5 c207_16) (.seq (.seq c207_17 c207_19) (.seq c207_20 .ret))))))
theorem b207 : Tryz.f207.body.map (comp 46) = some c207 := by kernel_rfl
theorem r207 : Tryz.f207.results.toList = [.tmp 2, .tmp 3, .tmp 4] := by kernel_rfl
@[go_sem] def c208_0 : Cmd := .ops [⟨some 2, .alloc 215, 0, none⟩,
    ⟨some 3, .assign (.const (.int .i64 0)), 54, none⟩]
@[go_sem] def c208_1 : Cmd := .draw (.step 3 ⟨some 9, .move (.tmp 0), 155, none⟩
    (.step 3 ⟨some 10, .nilCheck (.tmp 9), 0, none⟩
    (.step 3 ⟨some 11, .fieldAddr 213 (.tmp 10) 0, 0, none⟩
    (.step 0 ⟨some 12, .load 25 (.tmp 11), 25, none⟩
    (.step 3 ⟨some 13, .move (.tmp 0), 155, none⟩
    (.step 3 ⟨some 14, .nilCheck (.tmp 13), 0, none⟩
    (.step 3 ⟨some 15, .fieldAddr 213 (.tmp 14) 1, 0, none⟩
    (.step 0 ⟨some 16, .load 9 (.tmp 15), 9, none⟩
    (.step 3 ⟨some 17, .move (.tmp 0), 155, none⟩
    (.step 3 ⟨some 18, .nilCheck (.tmp 17), 0, none⟩
    (.step 3 ⟨some 19, .fieldAddr 213 (.tmp 18) 2, 0, none⟩
    (.step 0 ⟨some 20, .load 3 (.tmp 19), 3, none⟩
    (.step 1 ⟨some 21, .call { callee := (.value (.func 194)), args := #[(.tmp 12), (.tmp 16), (.tmp 20), (.const (.int .i64 1036))], argTypes := #[25, 9, 3, 3] }, 197, none⟩
    (.step 3 ⟨some 8, .move (.tmp 21), 197, none⟩
    (.step 3 ⟨some 22, .extract (.tmp 8) 0, 53, none⟩
    (.step 3 ⟨some 23, .extract (.tmp 8) 1, 54, none⟩
    (.step 3 ⟨some 4, .assign (.tmp 22), 53, none⟩
    (.step 3 ⟨some 5, .assign (.tmp 23), 54, none⟩
    .done))))))))))))))))))
@[go_sem] def c208_2 : Cmd := .ops [⟨some 24, .move (.tmp 5), 54, none⟩,
    ⟨some 25, .binOp .neq 54 (.tmp 24) (.const (.int .i64 0)) 54, 4, none⟩]
@[go_sem] def c208_3 : Cmd := .ops [⟨some 26, .build 215 #[], 215, none⟩,
    ⟨some 27, .move (.tmp 5), 54, none⟩,
    ⟨none, .store 215 (.tmp 2) (.tmp 26), 0, none⟩,
    ⟨some 3, .assign (.tmp 27), 54, none⟩]
@[go_sem] def c208_4 : Cmd := .cond (.tmp 25) (.seq c208_3 .ret) .skip
@[go_sem] def c208_5 : Cmd := .ops [⟨some 29, .move (.tmp 4), 53, none⟩,
    ⟨some 30, .call { callee := (.value (.func 274)), args := #[(.tmp 29)], argTypes := #[53] }, 312, none⟩,
    ⟨some 28, .move (.tmp 30), 312, none⟩,
    ⟨some 31, .extract (.tmp 28) 0, 215, none⟩,
    ⟨some 32, .extract (.tmp 28) 1, 3, none⟩,
    ⟨some 33, .extract (.tmp 28) 2, 54, none⟩,
    ⟨some 6, .alloc 215, 0, none⟩,
    ⟨none, .store 215 (.tmp 6) (.tmp 31), 0, none⟩,
    ⟨some 7, .assign (.tmp 32), 3, none⟩,
    ⟨some 5, .assign (.tmp 33), 54, none⟩]
@[go_sem] def c208_6 : Cmd := .ops [⟨some 34, .move (.tmp 5), 54, none⟩,
    ⟨some 35, .binOp .neq 54 (.tmp 34) (.const (.int .i64 0)) 54, 4, none⟩]
@[go_sem] def c208_7 : Cmd := .ops [⟨some 36, .build 215 #[], 215, none⟩,
    ⟨none, .store 215 (.tmp 2) (.tmp 36), 0, none⟩,
    ⟨some 3, .assign (.const (.int .i64 90)), 54, none⟩]
@[go_sem] def c208_8 : Cmd := .cond (.tmp 35) (.seq c208_7 .ret) .skip
@[go_sem] def c208_9 : Cmd := .ops [⟨some 37, .move (.tmp 0), 155, none⟩,
    ⟨some 38, .nilCheck (.tmp 37), 0, none⟩,
    ⟨some 39, .fieldAddr 213 (.tmp 38) 2, 0, none⟩,
    ⟨some 40, .load 3 (.tmp 39), 3, none⟩,
    ⟨some 41, .move (.tmp 7), 3, none⟩,
    ⟨some 42, .binOp .add 3 (.tmp 40) (.tmp 41) 3, 3, none⟩,
    ⟨some 43, .nilCheck (.tmp 37), 0, none⟩,
    ⟨some 44, .fieldAddr 213 (.tmp 43) 2, 0, none⟩,
    ⟨none, .store 3 (.tmp 44) (.tmp 42), 0, none⟩]
@[go_sem] def c208_10 : Cmd := .ops [⟨some 45, .load 215 (.tmp 6), 215, none⟩,
    ⟨none, .store 215 (.tmp 2) (.tmp 45), 0, none⟩,
    ⟨some 3, .assign (.const (.int .i64 0)), 54, none⟩]
@[go_sem] def c208 : Cmd := (.seq c208_0 (.seq c208_1 (.seq (.seq c208_2 c208_4) (.seq c208_5 (.seq (.seq c208_6 c208_8) (.seq c208_9 (.seq c208_10 .ret)))))))
theorem b208 : Tryz.f208.body.map (comp 46) = some c208 := by kernel_rfl
theorem r208 : Tryz.f208.results.toList = [.cell 2 215, .tmp 3] := by kernel_rfl
@[go_sem] def c209_0 : Cmd := .ops [⟨some 7, .load 155 (.tmp 1), 155, none⟩,
    ⟨some 8, .call { callee := (.value (.func 210)), args := #[(.tmp 7)], argTypes := #[155] }, 219, none⟩,
    ⟨some 6, .move (.tmp 8), 219, none⟩,
    ⟨some 9, .extract (.tmp 6) 0, 53, none⟩,
    ⟨some 10, .extract (.tmp 6) 1, 4, none⟩,
    ⟨some 11, .extract (.tmp 6) 2, 54, none⟩,
    ⟨some 3, .assign (.tmp 9), 53, none⟩,
    ⟨some 4, .assign (.tmp 10), 4, none⟩,
    ⟨some 5, .assign (.tmp 11), 54, none⟩]
@[go_sem] def c209_1 : Cmd := .ops [⟨some 12, .move (.tmp 5), 54, none⟩,
    ⟨some 13, .binOp .neq 54 (.tmp 12) (.const (.int .i64 0)) 54, 4, none⟩]
@[go_sem] def c209_2 : Cmd := .ops [⟨some 14, .move (.tmp 0), 218, none⟩,
    ⟨some 15, .move (.tmp 5), 54, none⟩,
    ⟨some 16, .call { callee := (.value (.tmp 14)), args := #[(.const (.slice none 0 0)), (.tmp 15)], argTypes := #[53, 54] }, 4, none⟩]
@[go_sem] def c209_3 : Cmd := .cond (.tmp 13) (.seq c209_2 .ret) .skip
@[go_sem] def c209_4 : Cmd := .ops [⟨some 17, .move (.tmp 4), 4, none⟩,
    ⟨some 18, .unOp .not 4 (.tmp 17), 4, none⟩,
    ⟨some 19, .move (.tmp 18), 4, none⟩,
    ⟨some 20, .move (.tmp 0), 218, some (19, false)⟩,
    ⟨some 21, .move (.tmp 3), 53, some (19, false)⟩,
    ⟨some 22, .call { callee := (.value (.tmp 20)), args := #[(.tmp 21), (.const (.int .i64 0))], argTypes := #[53, 54] }, 4, some (19, false)⟩,
    ⟨some 23, .unOp .not 4 (.tmp 22), 4, some (19, false)⟩,
    ⟨some 24, .pick (.tmp 19) (.const (.bool true)) (.tmp 23), 4, none⟩]
@[go_sem] def c209_5 : Cmd := .cond (.tmp 24) .ret .skip
@[go_sem] def c209_6 : Cmd := .block 1 (.seq c209_0 (.seq (.seq c209_1 c209_3) (.seq c209_4 c209_5)))
def c209_L0 : Cmd := c209_6
@[go_sem] def c209_7 : Cmd := .loop c209_L0
@[go_sem] def c209_8 : Cmd := .block 0 c209_7
@[go_sem] def c209 : Cmd := c209_8
theorem b209 : Tryz.f209.body.map (comp 25) = some c209 := by kernel_rfl
theorem r209 : Tryz.f209.results.toList = [] := by kernel_rfl
@[go_sem] def c210_0 : Cmd := .ops [⟨some 2, .assign (.const (.slice none 0 0)), 53, none⟩,
    ⟨some 3, .assign (.const (.bool false)), 4, none⟩,
    ⟨some 4, .assign (.const (.int .i64 0)), 54, none⟩]
@[go_sem] def c210_1 : Cmd := .ops [⟨some 7, .move (.tmp 0), 155, none⟩,
    ⟨some 8, .nilCheck (.tmp 7), 0, none⟩,
    ⟨some 9, .fieldAddr 213 (.tmp 8) 4, 0, none⟩,
    ⟨some 10, .load 4 (.tmp 9), 4, none⟩]
@[go_sem] def c210_2 : Cmd := .ops [⟨some 2, .assign (.const (.slice none 0 0)), 53, none⟩,
    ⟨some 3, .assign (.const (.bool false)), 4, none⟩,
    ⟨some 4, .assign (.const (.int .i64 91)), 54, none⟩]
@[go_sem] def c210_3 : Cmd := .cond (.tmp 10) (.seq c210_2 .ret) .skip
@[go_sem] def c210_4 : Cmd := .ops [⟨some 12, .move (.tmp 0), 155, none⟩,
    ⟨some 13, .call { callee := (.value (.func 208)), args := #[(.tmp 12)], argTypes := #[155] }, 216, none⟩,
    ⟨some 11, .move (.tmp 13), 216, none⟩,
    ⟨some 14, .extract (.tmp 11) 0, 215, none⟩,
    ⟨some 15, .extract (.tmp 11) 1, 54, none⟩,
    ⟨some 5, .alloc 215, 0, none⟩,
    ⟨none, .store 215 (.tmp 5) (.tmp 14), 0, none⟩,
    ⟨some 6, .assign (.tmp 15), 54, none⟩]
@[go_sem] def c210_5 : Cmd := .ops [⟨some 16, .move (.tmp 6), 54, none⟩,
    ⟨some 17, .binOp .eql 54 (.tmp 16) (.const (.int .i64 0)) 54, 4, none⟩,
    ⟨some 18, .move (.tmp 17), 4, none⟩,
    ⟨some 19, .fieldAddr 215 (.tmp 5) 0, 0, some (18, true)⟩,
    ⟨some 20, .load 3 (.tmp 19), 3, some (18, true)⟩,
    ⟨some 21, .binOp .eql 3 (.tmp 20) (.const (.int .i64 2)) 3, 4, some (18, true)⟩,
    ⟨some 22, .pick (.tmp 18) (.tmp 21) (.const (.bool false)), 4, none⟩]
@[go_sem] def c210_6 : Cmd := .ops [⟨some 23, .move (.tmp 0), 155, none⟩,
    ⟨some 24, .nilCheck (.tmp 23), 0, none⟩,
    ⟨some 25, .fieldAddr 213 (.tmp 24) 3, 0, none⟩,
    ⟨some 26, .load 3 (.tmp 25), 3, none⟩,
    ⟨some 27, .binOp .add 3 (.tmp 26) (.const (.int .i64 1)) 3, 3, none⟩,
    ⟨some 28, .nilCheck (.tmp 23), 0, none⟩,
    ⟨some 29, .fieldAddr 213 (.tmp 28) 3, 0, none⟩,
    ⟨none, .store 3 (.tmp 29) (.tmp 27), 0, none⟩]
@[go_sem] def c210_7 : Cmd := .ops [⟨some 30, .fieldAddr 215 (.tmp 5) 1, 0, none⟩,
    ⟨some 31, .load 53 (.tmp 30), 53, none⟩,
    ⟨some 2, .assign (.tmp 31), 53, none⟩,
    ⟨some 3, .assign (.const (.bool true)), 4, none⟩,
    ⟨some 4, .assign (.const (.int .i64 0)), 54, none⟩]
@[go_sem] def c210_8 : Cmd := .cond (.tmp 22) (.seq c210_6 (.seq c210_7 .ret)) .skip
@[go_sem] def c210_9 : Cmd := .ops [⟨some 32, .move (.tmp 0), 155, none⟩,
    ⟨some 33, .nilCheck (.tmp 32), 0, none⟩,
    ⟨some 34, .fieldAddr 213 (.tmp 33) 4, 0, none⟩,
    ⟨none, .store 4 (.tmp 34) (.const (.bool true)), 0, none⟩]
@[go_sem] def c210_10 : Cmd := .ops [⟨some 35, .move (.tmp 6), 54, none⟩,
    ⟨some 36, .binOp .eql 54 (.tmp 35) (.const (.int .i64 0)) 54, 4, none⟩]
@[go_sem] def c210_11 : Cmd := .ops [⟨some 37, .move (.tmp 0), 155, none⟩,
    ⟨some 38, .load 215 (.tmp 5), 215, none⟩,
    ⟨some 39, .call { callee := (.value (.func 275)), args := #[(.tmp 37), (.tmp 38)], argTypes := #[155, 215] }, 54, none⟩,
    ⟨some 6, .assign (.tmp 39), 54, none⟩]
@[go_sem] def c210_12 : Cmd := .cond (.tmp 36) c210_11 .skip
@[go_sem] def c210_13 : Cmd := .ops [⟨some 40, .move (.tmp 6), 54, none⟩,
    ⟨some 2, .assign (.const (.slice none 0 0)), 53, none⟩,
    ⟨some 3, .assign (.const (.bool false)), 4, none⟩,
    ⟨some 4, .assign (.tmp 40), 54, none⟩]
@[go_sem] def c210 : Cmd := (.seq c210_0 (.seq (.seq c210_1 c210_3) (.seq c210_4 (.seq (.seq c210_5 c210_8) (.seq c210_9 (.seq (.seq c210_10 c210_12) (.seq c210_13 .ret)))))))
theorem b210 : Tryz.f210.body.map (comp 41) = some c210 := by kernel_rfl
theorem r210 : Tryz.f210.results.toList = [.tmp 2, .tmp 3, .tmp 4] := by kernel_rfl
@[go_sem] def c268_0 : Cmd := .ops [⟨some 2, .assign (.const (.bool false)), 4, none⟩]
@[go_sem] def c268_1 : Cmd := .ops [⟨some 5, .move (.tmp 0), 9, none⟩,
    ⟨some 6, .call { callee := (.builtin .len), args := #[(.tmp 5)], argTypes := #[9] }, 3, none⟩,
    ⟨some 7, .binOp .lss 3 (.tmp 6) (.const (.int .i64 1)) 3, 4, none⟩,
    ⟨some 8, .move (.tmp 7), 4, none⟩,
    ⟨some 9, .move (.tmp 0), 9, some (8, false)⟩,
    ⟨some 10, .call { callee := (.builtin .len), args := #[(.tmp 9)], argTypes := #[9] }, 3, some (8, false)⟩,
    ⟨some 11, .binOp .gtr 3 (.tmp 10) (.const (.int .i64 64)) 3, 4, some (8, false)⟩,
    ⟨some 12, .pick (.tmp 8) (.const (.bool true)) (.tmp 11), 4, none⟩]
@[go_sem] def c268_2 : Cmd := .ops [⟨some 2, .assign (.const (.bool false)), 4, none⟩]
@[go_sem] def c268_3 : Cmd := .cond (.tmp 12) (.seq c268_2 .ret) .skip
@[go_sem] def c268_4 : Cmd := .ops [⟨some 13, .move (.tmp 0), 9, none⟩,
    ⟨some 14, .call { callee := (.builtin .len), args := #[(.tmp 13)], argTypes := #[9] }, 3, none⟩,
    ⟨some 15, .move (.const (.int .i64 0)), 3, none⟩]
@[go_sem] def c268_5 : Cmd := .ops [⟨some 16, .binOp .lss 3 (.tmp 15) (.tmp 14) 3, 4, none⟩]
@[go_sem] def c268_6 : Cmd := .cond (.tmp 16) .skip (.exit 0)
@[go_sem] def c268_7 : Cmd := .ops [⟨some 17, .move (.tmp 15), 3, none⟩,
    ⟨some 3, .assign (.tmp 17), 3, none⟩]
@[go_sem] def c268_8 : Cmd := .ops [⟨some 18, .move (.tmp 0), 9, none⟩,
    ⟨some 19, .move (.tmp 3), 3, none⟩,
    ⟨some 20, .index 9 (.tmp 18) (.tmp 19), 5, none⟩,
    ⟨some 4, .assign (.tmp 20), 5, none⟩]
@[go_sem] def c268_9 : Cmd := .ops [⟨some 21, .move (.tmp 4), 5, none⟩,
    ⟨some 22, .binOp .neq 5 (.tmp 21) (.const (.int .u8 46)) 5, 4, none⟩,
    ⟨some 23, .move (.tmp 22), 4, none⟩,
    ⟨some 24, .move (.tmp 4), 5, some (23, true)⟩,
    ⟨some 25, .binOp .lss 5 (.tmp 24) (.const (.int .u8 97)) 5, 4, some (23, true)⟩,
    ⟨some 26, .move (.tmp 25), 4, some (23, true)⟩,
    ⟨some 27, .move (.tmp 4), 5, some (26, false)⟩,
    ⟨some 28, .binOp .gtr 5 (.tmp 27) (.const (.int .u8 122)) 5, 4, some (26, false)⟩,
    ⟨some 29, .pick (.tmp 26) (.const (.bool true)) (.tmp 28), 4, some (23, true)⟩,
    ⟨some 30, .pick (.tmp 23) (.tmp 29) (.const (.bool false)), 4, none⟩,
    ⟨some 31, .move (.tmp 30), 4, none⟩,
    ⟨some 32, .move (.tmp 4), 5, some (31, true)⟩,
    ⟨some 33, .binOp .lss 5 (.tmp 32) (.const (.int .u8 48)) 5, 4, some (31, true)⟩,
    ⟨some 34, .move (.tmp 33), 4, some (31, true)⟩,
    ⟨some 35, .move (.tmp 4), 5, some (34, false)⟩,
    ⟨some 36, .binOp .gtr 5 (.tmp 35) (.const (.int .u8 57)) 5, 4, some (34, false)⟩,
    ⟨some 37, .pick (.tmp 34) (.const (.bool true)) (.tmp 36), 4, some (31, true)⟩,
    ⟨some 38, .pick (.tmp 31) (.tmp 37) (.const (.bool false)), 4, none⟩]
@[go_sem] def c268_10 : Cmd := .ops [⟨some 2, .assign (.const (.bool false)), 4, none⟩]
@[go_sem] def c268_11 : Cmd := .cond (.tmp 38) (.seq c268_10 .ret) .skip
@[go_sem] def c268_12 : Cmd := .block 1 (.seq c268_7 (.seq c268_8 (.seq c268_9 c268_11)))
@[go_sem] def c268_13 : Cmd := .ops [⟨some 39, .binOp .add 3 (.tmp 15) (.const (.int .i64 1)) 3, 3, none⟩,
    ⟨some 15, .move (.tmp 39), 3, none⟩]
def c268_L0 : Cmd := (.seq c268_5 (.seq c268_6 (.seq c268_12 c268_13)))
@[go_sem] def c268_14 : Cmd := .loop c268_L0
@[go_sem] def c268_15 : Cmd := .block 0 c268_14
@[go_sem] def c268_16 : Cmd := .ops [⟨some 2, .assign (.const (.bool true)), 4, none⟩]
@[go_sem] def c268 : Cmd := (.seq c268_0 (.seq (.seq c268_1 c268_3) (.seq (.seq c268_4 c268_15) (.seq c268_16 .ret))))
theorem b268 : Tryz.f268.body.map (comp 40) = some c268 := by kernel_rfl
theorem r268 : Tryz.f268.results.toList = [.tmp 2] := by kernel_rfl
@[go_sem] def c269_0 : Cmd := .ops [⟨some 6, .move (.tmp 0), 85, none⟩,
    ⟨some 7, .range 85 (.tmp 6), 0, none⟩]
@[go_sem] def c269_1 : Cmd := .ops [⟨some 8, .next (.tmp 7) false, 0, none⟩,
    ⟨some 9, .extract (.tmp 8) 0, 4, none⟩]
@[go_sem] def c269_2 : Cmd := .cond (.tmp 9) .skip (.exit 0)
@[go_sem] def c269_3 : Cmd := .ops [⟨some 10, .entry (.tmp 7), 0, none⟩,
    ⟨some 11, .extract (.tmp 10) 0, 9, none⟩,
    ⟨some 12, .extract (.tmp 10) 1, 115, none⟩,
    ⟨some 4, .assign (.tmp 11), 9, none⟩,
    ⟨some 5, .assign (.tmp 12), 115, none⟩]
@[go_sem] def c269_4 : Cmd := .ops [⟨some 13, .move (.tmp 5), 115, none⟩,
    ⟨some 14, .load 115 (.tmp 1), 115, none⟩,
    ⟨some 15, .binOp .eql 115 (.tmp 13) (.tmp 14) 115, 4, none⟩]
@[go_sem] def c269_5 : Cmd := .ops [⟨some 16, .move (.tmp 0), 85, none⟩,
    ⟨some 17, .move (.tmp 4), 9, none⟩,
    ⟨none, .call { callee := (.builtin .delete), args := #[(.tmp 16), (.tmp 17)], argTypes := #[85, 9] }, 0, none⟩]
@[go_sem] def c269_6 : Cmd := .cond (.tmp 15) c269_5 .skip
@[go_sem] def c269_7 : Cmd := .block 1 (.seq c269_3 (.seq c269_4 c269_6))
def c269_L0 : Cmd := (.seq c269_1 (.seq c269_2 c269_7))
@[go_sem] def c269_8 : Cmd := .loop c269_L0
@[go_sem] def c269_9 : Cmd := .block 0 c269_8
@[go_sem] def c269_10 : Cmd := .ops [⟨some 18, .load 9 (.tmp 2), 9, none⟩,
    ⟨some 19, .binOp .neq 9 (.tmp 18) (.const (.string ⟨#[]⟩)) 9, 4, none⟩]
@[go_sem] def c269_11 : Cmd := .ops [⟨some 20, .move (.tmp 0), 85, none⟩,
    ⟨some 21, .load 9 (.tmp 2), 9, none⟩,
    ⟨some 22, .load 115 (.tmp 1), 115, none⟩,
    ⟨none, .mapUpdate 85 (.tmp 20) (.tmp 21) (.tmp 22), 0, none⟩]
@[go_sem] def c269_12 : Cmd := .cond (.tmp 19) c269_11 .skip
@[go_sem] def c269 : Cmd := (.seq (.seq c269_0 c269_9) (.seq c269_10 c269_12))
theorem b269 : Tryz.f269.body.map (comp 23) = some c269 := by kernel_rfl
theorem r269 : Tryz.f269.results.toList = [] := by kernel_rfl
@[go_sem] def c272_0 : Cmd := .ops [⟨some 1, .box 215 (.tmp 0), 0, none⟩,
    ⟨some 2, .assign (.const (.slice none 0 0)), 53, none⟩,
    ⟨some 3, .assign (.const (.int .i64 0)), 54, none⟩]
@[go_sem] def c272_1 : Cmd := .ops [⟨some 8, .fieldAddr 215 (.tmp 1) 0, 0, none⟩,
    ⟨some 9, .load 3 (.tmp 8), 3, none⟩,
    ⟨some 10, .call { callee := (.value (.func 304)), args := #[(.tmp 9)], argTypes := #[3] }, 4, none⟩,
    ⟨some 11, .unOp .not 4 (.tmp 10), 4, none⟩]
@[go_sem] def c272_2 : Cmd := .ops [⟨some 2, .assign (.const (.slice none 0 0)), 53, none⟩,
    ⟨some 3, .assign (.const (.int .i64 30)), 54, none⟩]
@[go_sem] def c272_3 : Cmd := .cond (.tmp 11) (.seq c272_2 .ret) .skip
@[go_sem] def c272_4 : Cmd := .ops [⟨some 12, .fieldAddr 215 (.tmp 1) 1, 0, none⟩,
    ⟨some 13, .load 53 (.tmp 12), 53, none⟩,
    ⟨some 14, .call { callee := (.builtin .len), args := #[(.tmp 13)], argTypes := #[53] }, 3, none⟩,
    ⟨some 4, .assign (.tmp 14), 3, none⟩]
@[go_sem] def c272_5 : Cmd := .ops [⟨some 15, .move (.tmp 4), 3, none⟩,
    ⟨some 16, .binOp .gtr 3 (.tmp 15) (.const (.int .i64 1024)) 3, 4, none⟩]
@[go_sem] def c272_6 : Cmd := .ops [⟨some 2, .assign (.const (.slice none 0 0)), 53, none⟩,
    ⟨some 3, .assign (.const (.int .i64 31)), 54, none⟩]
@[go_sem] def c272_7 : Cmd := .cond (.tmp 16) (.seq c272_6 .ret) .skip
@[go_sem] def c272_8 : Cmd := .ops [⟨some 17, .move (.tmp 4), 3, none⟩,
    ⟨some 18, .binOp .add 3 (.const (.int .i64 8)) (.tmp 17) 3, 3, none⟩,
    ⟨some 19, .binOp .add 3 (.tmp 18) (.const (.int .i64 4)) 3, 3, none⟩,
    ⟨some 20, .makeSlice 53 (.tmp 19) (.tmp 19), 53, none⟩,
    ⟨some 5, .assign (.tmp 20), 53, none⟩]
@[go_sem] def c272_9 : Cmd := .draw (.step 3 ⟨some 21, .fieldAddr 215 (.tmp 1) 0, 0, none⟩
    (.step 0 ⟨some 22, .load 3 (.tmp 21), 3, none⟩
    (.step 3 ⟨some 23, .move (.tmp 4), 3, none⟩
    (.step 3 ⟨some 25, .fieldAddr 215 (.tmp 1) 1, 0, none⟩
    (.step 0 ⟨some 26, .load 53 (.tmp 25), 53, none⟩
    (.three ⟨some 24, .call { callee := (.value (.func 305)), args := #[(.tmp 22), (.tmp 23)], argTypes := #[3, 3] }, 350, none⟩
    (.three ⟨some 27, .call { callee := (.value (.func 306)), args := #[(.tmp 26)], argTypes := #[53] }, 352, none⟩
    (.both ⟨some 6, .alloc 350, 0, none⟩
    (.step 1 ⟨some 7, .alloc 352, 0, none⟩
    (.step 2 ⟨none, .store 350 (.tmp 6) (.tmp 24), 0, none⟩
    (.step 2 ⟨none, .store 352 (.tmp 7) (.tmp 27), 0, none⟩
    .done)))
    ⟨some 7, .alloc 352, 0, none⟩
    (.step 1 ⟨some 6, .alloc 350, 0, none⟩
    (.step 2 ⟨none, .store 350 (.tmp 6) (.tmp 24), 0, none⟩
    (.step 2 ⟨none, .store 352 (.tmp 7) (.tmp 27), 0, none⟩
    .done))))
    ⟨some 6, .alloc 350, 0, none⟩
    (.both ⟨some 27, .call { callee := (.value (.func 306)), args := #[(.tmp 26)], argTypes := #[53] }, 352, none⟩
    (.step 1 ⟨some 7, .alloc 352, 0, none⟩
    (.step 2 ⟨none, .store 350 (.tmp 6) (.tmp 24), 0, none⟩
    (.step 2 ⟨none, .store 352 (.tmp 7) (.tmp 27), 0, none⟩
    .done)))
    ⟨some 7, .alloc 352, 0, none⟩
    (.step 1 ⟨some 27, .call { callee := (.value (.func 306)), args := #[(.tmp 26)], argTypes := #[53] }, 352, none⟩
    (.step 2 ⟨none, .store 350 (.tmp 6) (.tmp 24), 0, none⟩
    (.step 2 ⟨none, .store 352 (.tmp 7) (.tmp 27), 0, none⟩
    .done))))
    ⟨some 7, .alloc 352, 0, none⟩
    (.both ⟨some 27, .call { callee := (.value (.func 306)), args := #[(.tmp 26)], argTypes := #[53] }, 352, none⟩
    (.step 1 ⟨some 6, .alloc 350, 0, none⟩
    (.step 2 ⟨none, .store 350 (.tmp 6) (.tmp 24), 0, none⟩
    (.step 2 ⟨none, .store 352 (.tmp 7) (.tmp 27), 0, none⟩
    .done)))
    ⟨some 6, .alloc 350, 0, none⟩
    (.step 1 ⟨some 27, .call { callee := (.value (.func 306)), args := #[(.tmp 26)], argTypes := #[53] }, 352, none⟩
    (.step 2 ⟨none, .store 350 (.tmp 6) (.tmp 24), 0, none⟩
    (.step 2 ⟨none, .store 352 (.tmp 7) (.tmp 27), 0, none⟩
    .done)))))
    ⟨some 6, .alloc 350, 0, none⟩
    (.both ⟨some 24, .call { callee := (.value (.func 305)), args := #[(.tmp 22), (.tmp 23)], argTypes := #[3, 3] }, 350, none⟩
    (.both ⟨some 27, .call { callee := (.value (.func 306)), args := #[(.tmp 26)], argTypes := #[53] }, 352, none⟩
    (.step 1 ⟨some 7, .alloc 352, 0, none⟩
    (.step 2 ⟨none, .store 350 (.tmp 6) (.tmp 24), 0, none⟩
    (.step 2 ⟨none, .store 352 (.tmp 7) (.tmp 27), 0, none⟩
    .done)))
    ⟨some 7, .alloc 352, 0, none⟩
    (.step 1 ⟨some 27, .call { callee := (.value (.func 306)), args := #[(.tmp 26)], argTypes := #[53] }, 352, none⟩
    (.step 2 ⟨none, .store 350 (.tmp 6) (.tmp 24), 0, none⟩
    (.step 2 ⟨none, .store 352 (.tmp 7) (.tmp 27), 0, none⟩
    .done))))
    ⟨some 7, .alloc 352, 0, none⟩
    (.step 1 ⟨some 24, .call { callee := (.value (.func 305)), args := #[(.tmp 22), (.tmp 23)], argTypes := #[3, 3] }, 350, none⟩
    (.step 1 ⟨some 27, .call { callee := (.value (.func 306)), args := #[(.tmp 26)], argTypes := #[53] }, 352, none⟩
    (.step 2 ⟨none, .store 350 (.tmp 6) (.tmp 24), 0, none⟩
    (.step 2 ⟨none, .store 352 (.tmp 7) (.tmp 27), 0, none⟩
    .done)))))
    ⟨some 7, .alloc 352, 0, none⟩
    (.both ⟨some 24, .call { callee := (.value (.func 305)), args := #[(.tmp 22), (.tmp 23)], argTypes := #[3, 3] }, 350, none⟩
    (.both ⟨some 27, .call { callee := (.value (.func 306)), args := #[(.tmp 26)], argTypes := #[53] }, 352, none⟩
    (.step 1 ⟨some 6, .alloc 350, 0, none⟩
    (.step 2 ⟨none, .store 350 (.tmp 6) (.tmp 24), 0, none⟩
    (.step 2 ⟨none, .store 352 (.tmp 7) (.tmp 27), 0, none⟩
    .done)))
    ⟨some 6, .alloc 350, 0, none⟩
    (.step 1 ⟨some 27, .call { callee := (.value (.func 306)), args := #[(.tmp 26)], argTypes := #[53] }, 352, none⟩
    (.step 2 ⟨none, .store 350 (.tmp 6) (.tmp 24), 0, none⟩
    (.step 2 ⟨none, .store 352 (.tmp 7) (.tmp 27), 0, none⟩
    .done))))
    ⟨some 6, .alloc 350, 0, none⟩
    (.step 1 ⟨some 24, .call { callee := (.value (.func 305)), args := #[(.tmp 22), (.tmp 23)], argTypes := #[3, 3] }, 350, none⟩
    (.step 1 ⟨some 27, .call { callee := (.value (.func 306)), args := #[(.tmp 26)], argTypes := #[53] }, 352, none⟩
    (.step 2 ⟨none, .store 350 (.tmp 6) (.tmp 24), 0, none⟩
    (.step 2 ⟨none, .store 352 (.tmp 7) (.tmp 27), 0, none⟩
    .done)))))))))))
@[go_sem] def c272_10 : Cmd := .ops [⟨some 28, .move (.tmp 5), 53, none⟩,
    ⟨some 29, .slice 350 (.tmp 6) none none none, 53, none⟩,
    ⟨some 30, .call { callee := (.builtin .copy), args := #[(.tmp 28), (.tmp 29)], argTypes := #[53, 53] }, 3, none⟩]
@[go_sem] def c272_11 : Cmd := .still 4 [⟨some 31, .move (.tmp 5), 53, none⟩,
    ⟨some 32, .slice 53 (.tmp 31) (some (.const (.int .i64 8))) none none, 53, none⟩,
    ⟨some 33, .fieldAddr 215 (.tmp 1) 1, 0, none⟩,
    ⟨some 34, .load 53 (.tmp 33), 53, none⟩,
    ⟨some 35, .call { callee := (.builtin .copy), args := #[(.tmp 32), (.tmp 34)], argTypes := #[53, 53] }, 3, none⟩]
@[go_sem] def c272_12 : Cmd := .still 5 [⟨some 36, .move (.tmp 5), 53, none⟩,
    ⟨some 37, .move (.tmp 4), 3, none⟩,
    ⟨some 38, .binOp .add 3 (.const (.int .i64 8)) (.tmp 37) 3, 3, none⟩,
    ⟨some 39, .slice 53 (.tmp 36) (some (.tmp 38)) none none, 53, none⟩,
    ⟨some 40, .slice 352 (.tmp 7) none none none, 53, none⟩,
    ⟨some 41, .call { callee := (.builtin .copy), args := #[(.tmp 39), (.tmp 40)], argTypes := #[53, 53] }, 3, none⟩]
@[go_sem] def c272_13 : Cmd := .ops [⟨some 42, .move (.tmp 5), 53, none⟩,
    ⟨some 2, .assign (.tmp 42), 53, none⟩,
    ⟨some 3, .assign (.const (.int .i64 0)), 54, none⟩]
@[go_sem] def c272 : Cmd := (.seq c272_0 (.seq (.seq c272_1 c272_3) (.seq c272_4 (.seq (.seq c272_5 c272_7) (.seq c272_8 (.seq c272_9 (.seq c272_10 (.seq c272_11 (.seq c272_12 (.seq c272_13 .ret))))))))))
theorem b272 : Tryz.f272.body.map (comp 43) = some c272 := by kernel_rfl
theorem r272 : Tryz.f272.results.toList = [.tmp 2, .tmp 3] := by kernel_rfl
@[go_sem] def c273_0 : Cmd := .ops [⟨some 4, .assign (.const (.int .u32 0)), 146, none⟩]
@[go_sem] def c273_1 : Cmd := .ops [⟨some 8, .move (.tmp 0), 146, none⟩,
    ⟨some 9, .unOp .xor 146 (.tmp 8), 146, none⟩,
    ⟨some 5, .assign (.tmp 9), 146, none⟩]
@[go_sem] def c273_2 : Cmd := .ops [⟨some 10, .move (.tmp 1), 53, none⟩,
    ⟨some 11, .call { callee := (.builtin .len), args := #[(.tmp 10)], argTypes := #[53] }, 3, none⟩,
    ⟨some 12, .move (.const (.int .i64 0)), 3, none⟩]
@[go_sem] def c273_3 : Cmd := .ops [⟨some 13, .binOp .lss 3 (.tmp 12) (.tmp 11) 3, 0, none⟩]
@[go_sem] def c273_4 : Cmd := .cond (.tmp 13) .skip (.exit 0)
@[go_sem] def c273_5 : Cmd := .ops [⟨some 14, .indexAddr 53 (.tmp 10) (.tmp 12), 0, none⟩,
    ⟨some 15, .load 5 (.tmp 14), 5, none⟩,
    ⟨some 7, .assign (.tmp 15), 5, none⟩]
@[go_sem] def c273_6 : Cmd := .ops [⟨some 16, .move (.tmp 5), 146, none⟩,
    ⟨some 17, .binOp .shl 146 (.tmp 16) (.const (.int .u64 4)) 139, 146, none⟩,
    ⟨some 18, .move (.tmp 5), 146, none⟩,
    ⟨some 19, .binOp .shr 146 (.tmp 18) (.const (.int .u64 28)) 139, 146, none⟩,
    ⟨some 20, .convert 146 5 (.tmp 19), 5, none⟩,
    ⟨some 21, .move (.tmp 7), 5, none⟩,
    ⟨some 22, .binOp .shr 5 (.tmp 21) (.const (.int .u64 4)) 139, 5, none⟩,
    ⟨some 23, .binOp .xor 5 (.tmp 20) (.tmp 22) 5, 5, none⟩,
    ⟨some 24, .indexAddr 354 (.global 0) (.tmp 23), 0, none⟩,
    ⟨some 25, .load 146 (.tmp 24), 146, none⟩,
    ⟨some 26, .binOp .xor 146 (.tmp 17) (.tmp 25) 146, 146, none⟩,
    ⟨some 5, .assign (.tmp 26), 146, none⟩]
@[go_sem] def c273_7 : Cmd := .ops [⟨some 27, .move (.tmp 5), 146, none⟩,
    ⟨some 28, .binOp .shl 146 (.tmp 27) (.const (.int .u64 4)) 139, 146, none⟩,
    ⟨some 29, .move (.tmp 5), 146, none⟩,
    ⟨some 30, .binOp .shr 146 (.tmp 29) (.const (.int .u64 28)) 139, 146, none⟩,
    ⟨some 31, .convert 146 5 (.tmp 30), 5, none⟩,
    ⟨some 32, .move (.tmp 7), 5, none⟩,
    ⟨some 33, .binOp .and 5 (.tmp 32) (.const (.int .u8 15)) 5, 5, none⟩,
    ⟨some 34, .binOp .xor 5 (.tmp 31) (.tmp 33) 5, 5, none⟩,
    ⟨some 35, .indexAddr 354 (.global 0) (.tmp 34), 0, none⟩,
    ⟨some 36, .load 146 (.tmp 35), 146, none⟩,
    ⟨some 37, .binOp .xor 146 (.tmp 28) (.tmp 36) 146, 146, none⟩,
    ⟨some 5, .assign (.tmp 37), 146, none⟩]
@[go_sem] def c273_8 : Cmd := .block 1 (.seq c273_5 (.seq c273_6 c273_7))
@[go_sem] def c273_9 : Cmd := .ops [⟨some 38, .binOp .add 3 (.tmp 12) (.const (.int .i64 1)) 3, 3, none⟩,
    ⟨some 12, .move (.tmp 38), 3, none⟩]
def c273_L0 : Cmd := (.seq c273_3 (.seq c273_4 (.seq c273_8 c273_9)))
@[go_sem] def c273_10 : Cmd := .loop c273_L0
@[go_sem] def c273_11 : Cmd := .block 0 c273_10
@[go_sem] def c273_12 : Cmd := .ops [⟨some 39, .move (.tmp 5), 146, none⟩,
    ⟨some 40, .unOp .xor 146 (.tmp 39), 146, none⟩,
    ⟨some 4, .assign (.tmp 40), 146, none⟩]
@[go_sem] def c273 : Cmd := (.seq c273_0 (.seq c273_1 (.seq (.seq c273_2 c273_11) (.seq c273_12 .ret))))
theorem b273 : Tryz.f273.body.map (comp 41) = some c273 := by kernel_rfl
theorem r273 : Tryz.f273.results.toList = [.tmp 4] := by kernel_rfl
@[go_sem] def c274_0 : Cmd := .ops [⟨some 2, .alloc 215, 0, none⟩,
    ⟨some 3, .assign (.const (.int .i64 0)), 3, none⟩,
    ⟨some 4, .assign (.const (.int .i64 0)), 54, none⟩]
@[go_sem] def c274_1 : Cmd := .ops [⟨some 9, .move (.tmp 0), 53, none⟩,
    ⟨some 10, .call { callee := (.builtin .len), args := #[(.tmp 9)], argTypes := #[53] }, 3, none⟩,
    ⟨some 11, .binOp .lss 3 (.tmp 10) (.const (.int .i64 12)) 3, 4, none⟩]
@[go_sem] def c274_2 : Cmd := .ops [⟨some 12, .build 215 #[], 215, none⟩,
    ⟨none, .store 215 (.tmp 2) (.tmp 12), 0, none⟩,
    ⟨some 3, .assign (.const (.int .i64 0)), 3, none⟩,
    ⟨some 4, .assign (.const (.int .i64 32)), 54, none⟩]
@[go_sem] def c274_3 : Cmd := .cond (.tmp 11) (.seq c274_2 .ret) .skip
@[go_sem] def c274_4 : Cmd := .quiet [⟨some 13, .move (.tmp 0), 53, none⟩,
    ⟨some 14, .indexAddr 53 (.tmp 13) (.const (.int .i64 1)), 0, none⟩,
    ⟨some 15, .load 5 (.tmp 14), 5, none⟩,
    ⟨some 16, .convert 5 3 (.tmp 15), 3, none⟩,
    ⟨some 17, .move (.tmp 0), 53, none⟩,
    ⟨some 18, .indexAddr 53 (.tmp 17) (.const (.int .i64 2)), 0, none⟩,
    ⟨some 19, .load 5 (.tmp 18), 5, none⟩,
    ⟨some 20, .convert 5 3 (.tmp 19), 3, none⟩,
    ⟨some 21, .binOp .shl 3 (.tmp 20) (.const (.int .u64 8)) 139, 3, none⟩,
    ⟨some 22, .move (.tmp 0), 53, none⟩,
    ⟨some 23, .indexAddr 53 (.tmp 22) (.const (.int .i64 3)), 0, none⟩,
    ⟨some 24, .load 5 (.tmp 23), 5, none⟩,
    ⟨some 25, .convert 5 3 (.tmp 24), 3, none⟩,
    ⟨some 26, .binOp .add 3 (.tmp 21) (.tmp 25) 3, 3, none⟩,
    ⟨some 5, .assign (.tmp 16), 3, none⟩,
    ⟨some 6, .assign (.tmp 26), 3, none⟩]
@[go_sem] def c274_5 : Cmd := .draw (.step 3 ⟨some 27, .move (.tmp 5), 3, none⟩
    (.step 1 ⟨some 28, .call { callee := (.value (.func 304)), args := #[(.tmp 27)], argTypes := #[3] }, 4, none⟩
    (.step 3 ⟨some 29, .unOp .not 4 (.tmp 28), 4, none⟩
    (.step 3 ⟨some 30, .move (.tmp 29), 4, none⟩
    (.step 3 ⟨some 31, .move (.tmp 6), 3, some (30, false)⟩
    (.step 3 ⟨some 32, .binOp .gtr 3 (.tmp 31) (.const (.int .i64 1024)) 3, 4, some (30, false)⟩
    (.step 3 ⟨some 33, .pick (.tmp 30) (.const (.bool true)) (.tmp 32), 4, none⟩
    (.step 3 ⟨some 34, .move (.tmp 33), 4, none⟩
    (.step 3 ⟨some 35, .move (.tmp 0), 53, some (34, false)⟩
    (.step 3 ⟨some 36, .call { callee := (.builtin .len), args := #[(.tmp 35)], argTypes := #[53] }, 3, some (34, false)⟩
    (.step 3 ⟨some 37, .move (.tmp 6), 3, some (34, false)⟩
    (.step 3 ⟨some 38, .binOp .add 3 (.const (.int .i64 8)) (.tmp 37) 3, 3, some (34, false)⟩
    (.step 3 ⟨some 39, .binOp .add 3 (.tmp 38) (.const (.int .i64 4)) 3, 3, some (34, false)⟩
    (.step 3 ⟨some 40, .binOp .lss 3 (.tmp 36) (.tmp 39) 3, 4, some (34, false)⟩
    (.step 3 ⟨some 41, .pick (.tmp 34) (.const (.bool true)) (.tmp 40), 4, none⟩
    (.step 3 ⟨some 42, .move (.tmp 41), 4, none⟩
    (.step 3 ⟨some 43, .move (.tmp 0), 53, some (42, false)⟩
    (.step 3 ⟨some 44, .slice 53 (.tmp 43) none (some (.const (.int .i64 8))) none, 53, some (42, false)⟩
    (.step 3 ⟨some 45, .sliceToArrayPointer 350 (.tmp 44), 0, some (42, false)⟩
    (.step 0 ⟨some 46, .load 350 (.tmp 45), 350, some (42, false)⟩
    (.step 3 ⟨some 47, .move (.tmp 5), 3, some (42, false)⟩
    (.step 3 ⟨some 48, .move (.tmp 6), 3, some (42, false)⟩
    (.step 1 ⟨some 49, .call { callee := (.value (.func 305)), args := #[(.tmp 47), (.tmp 48)], argTypes := #[3, 3] }, 350, some (42, false)⟩
    (.step 1 ⟨some 50, .binOp .neq 350 (.tmp 46) (.tmp 49) 350, 4, some (42, false)⟩
    (.step 3 ⟨some 51, .pick (.tmp 42) (.const (.bool true)) (.tmp 50), 4, none⟩
    .done)))))))))))))))))))))))))
@[go_sem] def c274_6 : Cmd := .ops [⟨some 52, .build 215 #[], 215, none⟩,
    ⟨none, .store 215 (.tmp 2) (.tmp 52), 0, none⟩,
    ⟨some 3, .assign (.const (.int .i64 0)), 3, none⟩,
    ⟨some 4, .assign (.const (.int .i64 32)), 54, none⟩]
@[go_sem] def c274_7 : Cmd := .cond (.tmp 51) (.seq c274_6 .ret) .skip
@[go_sem] def c274_8 : Cmd := .ops [⟨some 53, .move (.tmp 0), 53, none⟩,
    ⟨some 54, .move (.tmp 6), 3, none⟩,
    ⟨some 55, .binOp .add 3 (.const (.int .i64 8)) (.tmp 54) 3, 3, none⟩,
    ⟨some 56, .slice 53 (.tmp 53) (some (.const (.int .i64 8))) (some (.tmp 55)) none, 53, none⟩,
    ⟨some 7, .assign (.tmp 56), 53, none⟩]
@[go_sem] def c274_9 : Cmd := .draw (.step 3 ⟨some 57, .move (.tmp 0), 53, none⟩
    (.step 3 ⟨some 58, .move (.tmp 6), 3, none⟩
    (.step 3 ⟨some 59, .binOp .add 3 (.const (.int .i64 8)) (.tmp 58) 3, 3, none⟩
    (.step 3 ⟨some 60, .move (.tmp 6), 3, none⟩
    (.step 3 ⟨some 61, .binOp .add 3 (.const (.int .i64 8)) (.tmp 60) 3, 3, none⟩
    (.step 3 ⟨some 62, .binOp .add 3 (.tmp 61) (.const (.int .i64 4)) 3, 3, none⟩
    (.step 3 ⟨some 63, .slice 53 (.tmp 57) (some (.tmp 59)) (some (.tmp 62)) none, 53, none⟩
    (.step 3 ⟨some 64, .sliceToArrayPointer 352 (.tmp 63), 0, none⟩
    (.step 0 ⟨some 65, .load 352 (.tmp 64), 352, none⟩
    (.step 3 ⟨some 66, .move (.tmp 7), 53, none⟩
    (.step 1 ⟨some 67, .call { callee := (.value (.func 306)), args := #[(.tmp 66)], argTypes := #[53] }, 352, none⟩
    (.step 1 ⟨some 68, .binOp .neq 352 (.tmp 65) (.tmp 67) 352, 4, none⟩
    .done))))))))))))
@[go_sem] def c274_10 : Cmd := .ops [⟨some 69, .build 215 #[], 215, none⟩,
    ⟨none, .store 215 (.tmp 2) (.tmp 69), 0, none⟩,
    ⟨some 3, .assign (.const (.int .i64 0)), 3, none⟩,
    ⟨some 4, .assign (.const (.int .i64 32)), 54, none⟩]
@[go_sem] def c274_11 : Cmd := .cond (.tmp 68) (.seq c274_10 .ret) .skip
@[go_sem] def c274_12 : Cmd := .ops [⟨some 70, .move (.tmp 6), 3, none⟩,
    ⟨some 71, .makeSlice 53 (.tmp 70) (.tmp 70), 53, none⟩,
    ⟨some 8, .assign (.tmp 71), 53, none⟩]
@[go_sem] def c274_13 : Cmd := .ops [⟨some 72, .move (.tmp 8), 53, none⟩,
    ⟨some 73, .move (.tmp 7), 53, none⟩,
    ⟨some 74, .call { callee := (.builtin .copy), args := #[(.tmp 72), (.tmp 73)], argTypes := #[53, 53] }, 3, none⟩]
@[go_sem] def c274_14 : Cmd := .ops [⟨some 75, .move (.tmp 5), 3, none⟩,
    ⟨some 76, .move (.tmp 8), 53, none⟩,
    ⟨some 77, .build 215 #[(0, (.tmp 75)), (1, (.tmp 76))], 215, none⟩,
    ⟨some 78, .move (.tmp 6), 3, none⟩,
    ⟨some 79, .binOp .add 3 (.const (.int .i64 8)) (.tmp 78) 3, 3, none⟩,
    ⟨some 80, .binOp .add 3 (.tmp 79) (.const (.int .i64 4)) 3, 3, none⟩,
    ⟨none, .store 215 (.tmp 2) (.tmp 77), 0, none⟩,
    ⟨some 3, .assign (.tmp 80), 3, none⟩,
    ⟨some 4, .assign (.const (.int .i64 0)), 54, none⟩]
@[go_sem] def c274 : Cmd := (.seq c274_0 (.seq (.seq c274_1 c274_3) (.seq c274_4 (.seq (.seq c274_5 c274_7) (.seq c274_8 (.seq (.seq c274_9 c274_11) (.seq c274_12 (.seq c274_13 (.seq c274_14 .ret)))))))))
theorem b274 : Tryz.f274.body.map (comp 81) = some c274 := by kernel_rfl
theorem r274 : Tryz.f274.results.toList = [.cell 2 215, .tmp 3, .tmp 4] := by kernel_rfl
@[go_sem] def c275_0 : Cmd := .ops [⟨some 3, .box 215 (.tmp 1), 0, none⟩,
    ⟨some 4, .assign (.const (.int .i64 0)), 54, none⟩]
@[go_sem] def c275_1 : Cmd := .draw (.step 3 ⟨some 7, .fieldAddr 215 (.tmp 3) 0, 0, none⟩
    (.step 0 ⟨some 8, .load 3 (.tmp 7), 3, none⟩
    (.step 3 ⟨some 9, .binOp .neq 3 (.tmp 8) (.const (.int .i64 3)) 3, 4, none⟩
    (.step 3 ⟨some 10, .move (.tmp 9), 4, none⟩
    (.step 3 ⟨some 11, .fieldAddr 215 (.tmp 3) 1, 0, some (10, false)⟩
    (.step 0 ⟨some 12, .load 53 (.tmp 11), 53, some (10, false)⟩
    (.step 3 ⟨some 14, .move (.tmp 0), 155, some (10, false)⟩
    (.step 3 ⟨some 15, .nilCheck (.tmp 14), 0, some (10, false)⟩
    (.step 3 ⟨some 16, .fieldAddr 213 (.tmp 15) 3, 0, some (10, false)⟩
    (.step 0 ⟨some 17, .load 3 (.tmp 16), 3, some (10, false)⟩
    (.both ⟨some 13, .convert 53 9 (.tmp 12), 9, some (10, false)⟩
    (.step 1 ⟨some 18, .call { callee := (.value (.func 204)), args := #[(.tmp 17)], argTypes := #[3] }, 53, some (10, false)⟩
    (.step 1 ⟨some 19, .convert 53 9 (.tmp 18), 9, some (10, false)⟩
    (.step 3 ⟨some 20, .binOp .neq 9 (.tmp 13) (.tmp 19) 9, 4, some (10, false)⟩
    (.step 3 ⟨some 21, .pick (.tmp 10) (.const (.bool true)) (.tmp 20), 4, none⟩
    .done))))
    ⟨some 18, .call { callee := (.value (.func 204)), args := #[(.tmp 17)], argTypes := #[3] }, 53, some (10, false)⟩
    (.both ⟨some 13, .convert 53 9 (.tmp 12), 9, some (10, false)⟩
    (.step 1 ⟨some 19, .convert 53 9 (.tmp 18), 9, some (10, false)⟩
    (.step 3 ⟨some 20, .binOp .neq 9 (.tmp 13) (.tmp 19) 9, 4, some (10, false)⟩
    (.step 3 ⟨some 21, .pick (.tmp 10) (.const (.bool true)) (.tmp 20), 4, none⟩
    .done)))
    ⟨some 19, .convert 53 9 (.tmp 18), 9, some (10, false)⟩
    (.step 1 ⟨some 13, .convert 53 9 (.tmp 12), 9, some (10, false)⟩
    (.step 3 ⟨some 20, .binOp .neq 9 (.tmp 13) (.tmp 19) 9, 4, some (10, false)⟩
    (.step 3 ⟨some 21, .pick (.tmp 10) (.const (.bool true)) (.tmp 20), 4, none⟩
    .done)))))))))))))))
@[go_sem] def c275_2 : Cmd := .ops [⟨some 4, .assign (.const (.int .i64 90)), 54, none⟩]
@[go_sem] def c275_3 : Cmd := .cond (.tmp 21) (.seq c275_2 .ret) .skip
@[go_sem] def c275_4 : Cmd := .draw (.step 3 ⟨some 23, .move (.tmp 0), 155, none⟩
    (.step 3 ⟨some 24, .nilCheck (.tmp 23), 0, none⟩
    (.step 3 ⟨some 25, .fieldAddr 213 (.tmp 24) 0, 0, none⟩
    (.step 0 ⟨some 26, .load 25 (.tmp 25), 25, none⟩
    (.step 3 ⟨some 27, .move (.tmp 0), 155, none⟩
    (.step 3 ⟨some 28, .nilCheck (.tmp 27), 0, none⟩
    (.step 3 ⟨some 29, .fieldAddr 213 (.tmp 28) 1, 0, none⟩
    (.step 0 ⟨some 30, .load 9 (.tmp 29), 9, none⟩
    (.step 3 ⟨some 31, .move (.tmp 0), 155, none⟩
    (.step 3 ⟨some 32, .nilCheck (.tmp 31), 0, none⟩
    (.step 3 ⟨some 33, .fieldAddr 213 (.tmp 32) 2, 0, none⟩
    (.step 0 ⟨some 34, .load 3 (.tmp 33), 3, none⟩
    (.step 1 ⟨some 35, .call { callee := (.value (.func 194)), args := #[(.tmp 26), (.tmp 30), (.tmp 34), (.const (.int .i64 1))], argTypes := #[25, 9, 3, 3] }, 197, none⟩
    (.step 3 ⟨some 22, .move (.tmp 35), 197, none⟩
    (.step 3 ⟨some 36, .extract (.tmp 22) 0, 53, none⟩
    (.step 3 ⟨some 37, .extract (.tmp 22) 1, 54, none⟩
    (.step 3 ⟨some 5, .assign (.tmp 36), 53, none⟩
    (.step 3 ⟨some 6, .assign (.tmp 37), 54, none⟩
    .done))))))))))))))))))
@[go_sem] def c275_5 : Cmd := .ops [⟨some 38, .move (.tmp 6), 54, none⟩,
    ⟨some 39, .binOp .eql 54 (.tmp 38) (.const (.int .i64 0)) 54, 4, none⟩,
    ⟨some 40, .move (.tmp 39), 4, none⟩,
    ⟨some 41, .move (.tmp 5), 53, some (40, true)⟩,
    ⟨some 42, .call { callee := (.builtin .len), args := #[(.tmp 41)], argTypes := #[53] }, 3, some (40, true)⟩,
    ⟨some 43, .binOp .gtr 3 (.tmp 42) (.const (.int .i64 0)) 3, 4, some (40, true)⟩,
    ⟨some 44, .pick (.tmp 40) (.tmp 43) (.const (.bool false)), 4, none⟩]
@[go_sem] def c275_6 : Cmd := .ops [⟨some 6, .assign (.const (.int .i64 90)), 54, none⟩]
@[go_sem] def c275_7 : Cmd := .cond (.tmp 44) c275_6 .skip
@[go_sem] def c275_8 : Cmd := .ops [⟨some 45, .move (.tmp 6), 54, none⟩,
    ⟨some 4, .assign (.tmp 45), 54, none⟩]
@[go_sem] def c275 : Cmd := (.seq c275_0 (.seq (.seq c275_1 c275_3) (.seq c275_4 (.seq (.seq c275_5 c275_7) (.seq c275_8 .ret)))))
theorem b275 : Tryz.f275.body.map (comp 46) = some c275 := by kernel_rfl
theorem r275 : Tryz.f275.results.toList = [.tmp 4] := by kernel_rfl
@[go_sem] def c304_0 : Cmd := .ops [⟨some 2, .assign (.const (.bool false)), 4, none⟩]
@[go_sem] def c304_1 : Cmd := .ops [⟨some 3, .move (.tmp 0), 3, none⟩,
    ⟨some 4, .binOp .eql 3 (.tmp 3) (.const (.int .i64 1)) 3, 4, none⟩,
    ⟨some 5, .move (.tmp 4), 4, none⟩,
    ⟨some 6, .move (.tmp 0), 3, some (5, false)⟩,
    ⟨some 7, .binOp .eql 3 (.tmp 6) (.const (.int .i64 2)) 3, 4, some (5, false)⟩,
    ⟨some 8, .pick (.tmp 5) (.const (.bool true)) (.tmp 7), 4, none⟩,
    ⟨some 9, .move (.tmp 8), 4, none⟩,
    ⟨some 10, .move (.tmp 0), 3, some (9, false)⟩,
    ⟨some 11, .binOp .eql 3 (.tmp 10) (.const (.int .i64 3)) 3, 4, some (9, false)⟩,
    ⟨some 12, .pick (.tmp 9) (.const (.bool true)) (.tmp 11), 4, none⟩,
    ⟨some 2, .assign (.tmp 12), 4, none⟩]
@[go_sem] def c304 : Cmd := (.seq c304_0 (.seq c304_1 .ret))
theorem b304 : Tryz.f304.body.map (comp 13) = some c304 := by kernel_rfl
theorem r304 : Tryz.f304.results.toList = [.tmp 2] := by kernel_rfl
@[go_sem] def c305_0 : Cmd := .ops [⟨some 4, .alloc 350, 0, none⟩]
@[go_sem] def c305_1 : Cmd := .ops [⟨some 7, .move (.tmp 0), 3, none⟩,
    ⟨some 8, .convert 3 5 (.tmp 7), 5, none⟩,
    ⟨some 9, .move (.tmp 1), 3, none⟩,
    ⟨some 10, .binOp .shr 3 (.tmp 9) (.const (.int .u64 8)) 139, 3, none⟩,
    ⟨some 11, .convert 3 5 (.tmp 10), 5, none⟩,
    ⟨some 12, .move (.tmp 1), 3, none⟩,
    ⟨some 13, .convert 3 5 (.tmp 12), 5, none⟩,
    ⟨some 14, .build 350 #[(0, (.const (.int .u8 112))), (1, (.tmp 8)), (2, (.tmp 11)), (3, (.tmp 13))], 350, none⟩,
    ⟨some 5, .alloc 350, 0, none⟩,
    ⟨none, .store 350 (.tmp 5) (.tmp 14), 0, none⟩]
@[go_sem] def c305_2 : Cmd := .ops [⟨some 15, .slice 350 (.tmp 5) none (some (.const (.int .i64 4))) none, 53, none⟩,
    ⟨some 16, .call { callee := (.value (.func 306)), args := #[(.tmp 15)], argTypes := #[53] }, 352, none⟩,
    ⟨some 6, .alloc 352, 0, none⟩,
    ⟨none, .store 352 (.tmp 6) (.tmp 16), 0, none⟩]
@[go_sem] def c305_3 : Cmd := .still 2 [⟨some 17, .slice 350 (.tmp 5) (some (.const (.int .i64 4))) none none, 53, none⟩,
    ⟨some 18, .slice 352 (.tmp 6) none none none, 53, none⟩,
    ⟨some 19, .call { callee := (.builtin .copy), args := #[(.tmp 17), (.tmp 18)], argTypes := #[53, 53] }, 3, none⟩]
@[go_sem] def c305_4 : Cmd := .ops [⟨some 20, .load 350 (.tmp 5), 350, none⟩,
    ⟨none, .store 350 (.tmp 4) (.tmp 20), 0, none⟩]
@[go_sem] def c305 : Cmd := (.seq c305_0 (.seq c305_1 (.seq c305_2 (.seq c305_3 (.seq c305_4 .ret)))))
theorem b305 : Tryz.f305.body.map (comp 21) = some c305 := by kernel_rfl
theorem r305 : Tryz.f305.results.toList = [.cell 4 350] := by kernel_rfl
@[go_sem] def c306_0 : Cmd := .ops [⟨some 2, .alloc 352, 0, none⟩]
@[go_sem] def c306_1 : Cmd := .ops [⟨some 4, .move (.tmp 0), 53, none⟩,
    ⟨some 5, .call { callee := (.value (.func 323)), args := #[(.tmp 4)], argTypes := #[53] }, 146, none⟩,
    ⟨some 3, .assign (.tmp 5), 146, none⟩]
@[go_sem] def c306_2 : Cmd := .ops [⟨some 6, .move (.tmp 3), 146, none⟩,
    ⟨some 7, .binOp .shr 146 (.tmp 6) (.const (.int .u64 24)) 139, 146, none⟩,
    ⟨some 8, .convert 146 5 (.tmp 7), 5, none⟩,
    ⟨some 9, .move (.tmp 3), 146, none⟩,
    ⟨some 10, .binOp .shr 146 (.tmp 9) (.const (.int .u64 16)) 139, 146, none⟩,
    ⟨some 11, .convert 146 5 (.tmp 10), 5, none⟩,
    ⟨some 12, .move (.tmp 3), 146, none⟩,
    ⟨some 13, .binOp .shr 146 (.tmp 12) (.const (.int .u64 8)) 139, 146, none⟩,
    ⟨some 14, .convert 146 5 (.tmp 13), 5, none⟩,
    ⟨some 15, .move (.tmp 3), 146, none⟩,
    ⟨some 16, .convert 146 5 (.tmp 15), 5, none⟩,
    ⟨some 17, .build 352 #[(0, (.tmp 8)), (1, (.tmp 11)), (2, (.tmp 14)), (3, (.tmp 16))], 352, none⟩,
    ⟨none, .store 352 (.tmp 2) (.tmp 17), 0, none⟩]
@[go_sem] def c306 : Cmd := (.seq c306_0 (.seq c306_1 (.seq c306_2 .ret)))
theorem b306 : Tryz.f306.body.map (comp 18) = some c306 := by kernel_rfl
theorem r306 : Tryz.f306.results.toList = [.cell 2 352] := by kernel_rfl
@[go_sem] def c323_0 : Cmd := .ops [⟨some 2, .assign (.const (.int .u32 0)), 146, none⟩]
@[go_sem] def c323_1 : Cmd := .ops [⟨some 3, .move (.tmp 0), 53, none⟩,
    ⟨some 4, .call { callee := (.value (.func 273)), args := #[(.const (.int .u32 0)), (.tmp 3)], argTypes := #[146, 53] }, 146, none⟩,
    ⟨some 2, .assign (.tmp 4), 146, none⟩]
@[go_sem] def c323 : Cmd := (.seq c323_0 (.seq c323_1 .ret))
theorem b323 : Tryz.f323.body.map (comp 5) = some c323 := by kernel_rfl
theorem r323 : Tryz.f323.results.toList = [.tmp 2] := by kernel_rfl
@[go_sem] theorem ty2 : tyOf Tryz.prog 2 = some ⟨(.int .i64), 1, 8, (.int .i64 0)⟩ := by kernel_rfl
@[go_sem] theorem ty3 : tyOf Tryz.prog 3 = some ⟨(.int .i64), 1, 8, (.int .i64 0)⟩ := by kernel_rfl
@[go_sem] theorem ty4 : tyOf Tryz.prog 4 = some ⟨.bool, 1, 1, (.bool false)⟩ := by kernel_rfl
@[go_sem] theorem ty5 : tyOf Tryz.prog 5 = some ⟨(.int .u8), 1, 1, (.int .u8 0)⟩ := by kernel_rfl
@[go_sem] theorem ty9 : tyOf Tryz.prog 9 = some ⟨.str, 1, 16, (.string ⟨#[]⟩)⟩ := by kernel_rfl
@[go_sem] theorem ty20 : tyOf Tryz.prog 20 = some ⟨.iface, 1, 16, .nilIface⟩ := by kernel_rfl
@[go_sem] theorem ty22 : tyOf Tryz.prog 22 = some ⟨(.sl 3), 1, 24, (.slice none 0 0)⟩ := by kernel_rfl
@[go_sem] theorem ty23 : tyOf Tryz.prog 23 = some ⟨(.sl 4), 1, 24, (.slice none 0 0)⟩ := by kernel_rfl
@[go_sem] theorem ty25 : tyOf Tryz.prog 25 = some ⟨(.ptr 89), 1, 8, (.pointer none)⟩ := by kernel_rfl
@[go_sem] theorem ty28 : tyOf Tryz.prog 28 = some ⟨(.st [(0, 3), (1, 22), (2, 23)]), 3, 56, (.agg #[(.int .i64 0), (.slice none 0 0), (.slice none 0 0)])⟩ := by kernel_rfl
@[go_sem] theorem ty31 : tyOf Tryz.prog 31 = some ⟨(.ptr 50), 1, 8, (.pointer none)⟩ := by kernel_rfl
@[go_sem] theorem ty32 : tyOf Tryz.prog 32 = some ⟨(.sl 53), 1, 24, (.slice none 0 0)⟩ := by kernel_rfl
@[go_sem] theorem ty33 : tyOf Tryz.prog 33 = some ⟨(.sl 22), 1, 24, (.slice none 0 0)⟩ := by kernel_rfl
@[go_sem] theorem ty34 : tyOf Tryz.prog 34 = some ⟨(.sl 23), 1, 24, (.slice none 0 0)⟩ := by kernel_rfl
@[go_sem] theorem ty35 : tyOf Tryz.prog 35 = some ⟨(.sl 110), 1, 24, (.slice none 0 0)⟩ := by kernel_rfl
@[go_sem] theorem ty36 : tyOf Tryz.prog 36 = some ⟨(.sl 223), 1, 24, (.slice none 0 0)⟩ := by kernel_rfl
@[go_sem] theorem ty37 : tyOf Tryz.prog 37 = some ⟨(.sl 32), 1, 24, (.slice none 0 0)⟩ := by kernel_rfl
@[go_sem] theorem ty38 : tyOf Tryz.prog 38 = some ⟨(.sl 33), 1, 24, (.slice none 0 0)⟩ := by kernel_rfl
@[go_sem] theorem ty39 : tyOf Tryz.prog 39 = some ⟨(.sl 226), 1, 24, (.slice none 0 0)⟩ := by kernel_rfl
@[go_sem] theorem ty40 : tyOf Tryz.prog 40 = some ⟨(.sl 228), 1, 24, (.slice none 0 0)⟩ := by kernel_rfl
@[go_sem] theorem ty41 : tyOf Tryz.prog 41 = some ⟨(.sl 230), 1, 24, (.slice none 0 0)⟩ := by kernel_rfl
@[go_sem] theorem ty42 : tyOf Tryz.prog 42 = some ⟨(.sl 232), 1, 24, (.slice none 0 0)⟩ := by kernel_rfl
@[go_sem] theorem ty43 : tyOf Tryz.prog 43 = some ⟨(.sl 234), 1, 24, (.slice none 0 0)⟩ := by kernel_rfl
@[go_sem] theorem ty44 : tyOf Tryz.prog 44 = some ⟨(.sl 236), 1, 24, (.slice none 0 0)⟩ := by kernel_rfl
@[go_sem] theorem ty45 : tyOf Tryz.prog 45 = some ⟨(.sl 238), 1, 24, (.slice none 0 0)⟩ := by kernel_rfl
@[go_sem] theorem ty46 : tyOf Tryz.prog 46 = some ⟨(.sl 137), 1, 24, (.slice none 0 0)⟩ := by kernel_rfl
@[go_sem] theorem ty47 : tyOf Tryz.prog 47 = some ⟨(.sl 240), 1, 24, (.slice none 0 0)⟩ := by kernel_rfl
@[go_sem] theorem ty48 : tyOf Tryz.prog 48 = some ⟨(.sl 242), 1, 24, (.slice none 0 0)⟩ := by kernel_rfl
@[go_sem] theorem ty50 : tyOf Tryz.prog 50 = some ⟨(.st [(0, 3), (1, 3), (2, 32), (3, 32), (4, 32), (5, 33), (6, 33), (7, 33), (8, 34), (9, 34), (10, 34), (11, 35), (12, 35), (13, 35), (14, 36), (15, 36), (16, 36), (17, 37), (18, 37), (19, 37), (20, 38), (21, 38), (22, 38), (23, 39), (24, 39), (25, 39), (26, 40), (27, 40), (28, 40), (29, 41), (30, 41), (31, 41), (32, 42), (33, 42), (34, 42), (35, 43), (36, 43), (37, 43), (38, 44), (39, 44), (40, 44), (41, 45), (42, 45), (43, 45), (44, 46), (45, 46), (46, 46), (47, 47), (48, 47), (49, 47), (50, 48), (51, 48), (52, 48)]), 53, 1240, (.agg #[(.int .i64 0), (.int .i64 0), (.slice none 0 0), (.slice none 0 0), (.slice none 0 0), (.slice none 0 0), (.slice none 0 0), (.slice none 0 0), (.slice none 0 0), (.slice none 0 0), (.slice none 0 0), (.slice none 0 0), (.slice none 0 0), (.slice none 0 0), (.slice none 0 0), (.slice none 0 0), (.slice none 0 0), (.slice none 0 0), (.slice none 0 0), (.slice none 0 0), (.slice none 0 0), (.slice none 0 0), (.slice none 0 0), (.slice none 0 0), (.slice none 0 0), (.slice none 0 0), (.slice none 0 0), (.slice none 0 0), (.slice none 0 0), (.slice none 0 0), (.slice none 0 0), (.slice none 0 0), (.slice none 0 0), (.slice none 0 0), (.slice none 0 0), (.slice none 0 0), (.slice none 0 0), (.slice none 0 0), (.slice none 0 0), (.slice none 0 0), (.slice none 0 0), (.slice none 0 0), (.slice none 0 0), (.slice none 0 0), (.slice none 0 0), (.slice none 0 0), (.slice none 0 0), (.slice none 0 0), (.slice none 0 0), (.slice none 0 0), (.slice none 0 0), (.slice none 0 0), (.slice none 0 0)])⟩ := by kernel_rfl
@[go_sem] theorem ty53 : tyOf Tryz.prog 53 = some ⟨(.sl 5), 1, 24, (.slice none 0 0)⟩ := by kernel_rfl
@[go_sem] theorem ty54 : tyOf Tryz.prog 54 = some ⟨(.int .i64), 1, 8, (.int .i64 0)⟩ := by kernel_rfl
@[go_sem] theorem ty75 : tyOf Tryz.prog 75 = some ⟨(.sl 80), 1, 24, (.slice none 0 0)⟩ := by kernel_rfl
@[go_sem] theorem ty76 : tyOf Tryz.prog 76 = some ⟨(.ptr 123), 1, 8, (.pointer none)⟩ := by kernel_rfl
@[go_sem] theorem ty80 : tyOf Tryz.prog 80 = some ⟨(.st [(0, 3), (1, 3), (2, 3), (3, 3), (4, 28), (7, 53), (8, 22)]), 9, 136, (.agg #[(.int .i64 0), (.int .i64 0), (.int .i64 0), (.int .i64 0), (.int .i64 0), (.slice none 0 0), (.slice none 0 0), (.slice none 0 0), (.slice none 0 0)])⟩ := by kernel_rfl
@[go_sem] theorem ty85 : tyOf Tryz.prog 85 = some ⟨(.map 9 115), 1, 8, (.map none)⟩ := by kernel_rfl
@[go_sem] theorem ty86 : tyOf Tryz.prog 86 = some ⟨(.map 115 4), 1, 8, (.map none)⟩ := by kernel_rfl
@[go_sem] theorem ty87 : tyOf Tryz.prog 87 = some ⟨(.sl 165), 1, 24, (.slice none 0 0)⟩ := by kernel_rfl
@[go_sem] theorem ty89 : tyOf Tryz.prog 89 = some ⟨(.st [(0, 3), (1, 85), (2, 85), (3, 87), (4, 86), (5, 4), (6, 3), (7, 3)]), 8, 80, (.agg #[(.int .i64 0), (.map none), (.map none), (.slice none 0 0), (.map none), (.bool false), (.int .i64 0), (.int .i64 0)])⟩ := by kernel_rfl
@[go_sem] theorem ty93 : tyOf Tryz.prog 93 = some ⟨(.arr 4 3), 4, 32, (.agg #[(.int .i64 0), (.int .i64 0), (.int .i64 0), (.int .i64 0)])⟩ := by kernel_rfl
@[go_sem] theorem ty110 : tyOf Tryz.prog 110 = some ⟨(.sl 9), 1, 24, (.slice none 0 0)⟩ := by kernel_rfl
@[go_sem] theorem ty113 : tyOf Tryz.prog 113 = some ⟨.fn, 1, 8, .nilFunc⟩ := by kernel_rfl
@[go_sem] theorem ty115 : tyOf Tryz.prog 115 = some ⟨(.ptr 117), 1, 8, (.pointer none)⟩ := by kernel_rfl
@[go_sem] theorem ty117 : tyOf Tryz.prog 117 = some ⟨(.st [(0, 53), (1, 3)]), 2, 32, (.agg #[(.slice none 0 0), (.int .i64 0)])⟩ := by kernel_rfl
@[go_sem] theorem ty120 : tyOf Tryz.prog 120 = some ⟨(.ptr 172), 1, 8, (.pointer none)⟩ := by kernel_rfl
@[go_sem] theorem ty123 : tyOf Tryz.prog 123 = some ⟨(.st [(0, 25), (1, 120)]), 2, 16, (.agg #[(.pointer none), (.pointer none)])⟩ := by kernel_rfl
@[go_sem] theorem ty134 : tyOf Tryz.prog 134 = some ⟨.fn, 1, 8, .nilFunc⟩ := by kernel_rfl
@[go_sem] theorem ty137 : tyOf Tryz.prog 137 = some ⟨(.sl 193), 1, 24, (.slice none 0 0)⟩ := by kernel_rfl
@[go_sem] theorem ty139 : tyOf Tryz.prog 139 = some ⟨(.int .u64), 1, 8, (.int .u64 0)⟩ := by kernel_rfl
@[go_sem] theorem ty141 : tyOf Tryz.prog 141 = some ⟨(.ptr 205), 1, 8, (.pointer none)⟩ := by kernel_rfl
@[go_sem] theorem ty144 : tyOf Tryz.prog 144 = some ⟨(.sl 134), 1, 24, (.slice none 0 0)⟩ := by kernel_rfl
@[go_sem] theorem ty146 : tyOf Tryz.prog 146 = some ⟨(.int .u32), 1, 4, (.int .u32 0)⟩ := by kernel_rfl
@[go_sem] theorem ty151 : tyOf Tryz.prog 151 = some ⟨(.ptr 209), 1, 8, (.pointer none)⟩ := by kernel_rfl
@[go_sem] theorem ty155 : tyOf Tryz.prog 155 = some ⟨(.ptr 213), 1, 8, (.pointer none)⟩ := by kernel_rfl
@[go_sem] theorem ty165 : tyOf Tryz.prog 165 = some ⟨.fn, 1, 8, .nilFunc⟩ := by kernel_rfl
@[go_sem] theorem ty168 : tyOf Tryz.prog 168 = some ⟨(.sl 180), 1, 24, (.slice none 0 0)⟩ := by kernel_rfl
@[go_sem] theorem ty169 : tyOf Tryz.prog 169 = some ⟨(.sl 184), 1, 24, (.slice none 0 0)⟩ := by kernel_rfl
@[go_sem] theorem ty170 : tyOf Tryz.prog 170 = some ⟨(.sl 307), 1, 24, (.slice none 0 0)⟩ := by kernel_rfl
@[go_sem] theorem ty172 : tyOf Tryz.prog 172 = some ⟨(.st [(0, 3), (1, 169), (2, 168), (3, 170), (4, 4), (5, 3), (6, 3)]), 7, 104, (.agg #[(.int .i64 0), (.slice none 0 0), (.slice none 0 0), (.slice none 0 0), (.bool false), (.int .i64 0), (.int .i64 0)])⟩ := by kernel_rfl
@[go_sem] theorem ty180 : tyOf Tryz.prog 180 = some ⟨(.sl 186), 1, 24, (.slice none 0 0)⟩ := by kernel_rfl
@[go_sem] theorem ty184 : tyOf Tryz.prog 184 = some ⟨(.st [(0, 53), (1, 3)]), 2, 32, (.agg #[(.slice none 0 0), (.int .i64 0)])⟩ := by kernel_rfl
@[go_sem] theorem ty186 : tyOf Tryz.prog 186 = some ⟨(.st [(0, 9), (1, 3)]), 2, 24, (.agg #[(.string ⟨#[]⟩), (.int .i64 0)])⟩ := by kernel_rfl
@[go_sem] theorem ty193 : tyOf Tryz.prog 193 = some ⟨(.st [(0, 9), (1, 53)]), 2, 40, (.agg #[(.string ⟨#[]⟩), (.slice none 0 0)])⟩ := by kernel_rfl
@[go_sem] theorem ty205 : tyOf Tryz.prog 205 = some ⟨(.st [(0, 25), (1, 9), (2, 3), (3, 146), (4, 3), (5, 4)]), 6, 56, (.agg #[(.pointer none), (.string ⟨#[]⟩), (.int .i64 0), (.int .u32 0), (.int .i64 0), (.bool false)])⟩ := by kernel_rfl
@[go_sem] theorem ty209 : tyOf Tryz.prog 209 = some ⟨(.st [(0, 53), (1, 3), (2, 54)]), 3, 40, (.agg #[(.slice none 0 0), (.int .i64 0), (.int .i64 0)])⟩ := by kernel_rfl
@[go_sem] theorem ty213 : tyOf Tryz.prog 213 = some ⟨(.st [(0, 25), (1, 9), (2, 3), (3, 3), (4, 4)]), 5, 48, (.agg #[(.pointer none), (.string ⟨#[]⟩), (.int .i64 0), (.int .i64 0), (.bool false)])⟩ := by kernel_rfl
@[go_sem] theorem ty215 : tyOf Tryz.prog 215 = some ⟨(.st [(0, 3), (1, 53)]), 2, 32, (.agg #[(.int .i64 0), (.slice none 0 0)])⟩ := by kernel_rfl
@[go_sem] theorem ty223 : tyOf Tryz.prog 223 = some ⟨(.sl 246), 1, 24, (.slice none 0 0)⟩ := by kernel_rfl
@[go_sem] theorem ty226 : tyOf Tryz.prog 226 = some ⟨(.sl 251), 1, 24, (.slice none 0 0)⟩ := by kernel_rfl
@[go_sem] theorem ty228 : tyOf Tryz.prog 228 = some ⟨(.sl 254), 1, 24, (.slice none 0 0)⟩ := by kernel_rfl
@[go_sem] theorem ty230 : tyOf Tryz.prog 230 = some ⟨(.sl 257), 1, 24, (.slice none 0 0)⟩ := by kernel_rfl
@[go_sem] theorem ty232 : tyOf Tryz.prog 232 = some ⟨(.sl 260), 1, 24, (.slice none 0 0)⟩ := by kernel_rfl
@[go_sem] theorem ty234 : tyOf Tryz.prog 234 = some ⟨(.sl 263), 1, 24, (.slice none 0 0)⟩ := by kernel_rfl
@[go_sem] theorem ty236 : tyOf Tryz.prog 236 = some ⟨(.sl 266), 1, 24, (.slice none 0 0)⟩ := by kernel_rfl
@[go_sem] theorem ty238 : tyOf Tryz.prog 238 = some ⟨(.sl 215), 1, 24, (.slice none 0 0)⟩ := by kernel_rfl
@[go_sem] theorem ty240 : tyOf Tryz.prog 240 = some ⟨(.sl 271), 1, 24, (.slice none 0 0)⟩ := by kernel_rfl
@[go_sem] theorem ty242 : tyOf Tryz.prog 242 = some ⟨(.sl 274), 1, 24, (.slice none 0 0)⟩ := by kernel_rfl
@[go_sem] theorem ty251 : tyOf Tryz.prog 251 = some ⟨(.st [(0, 3), (1, 3)]), 2, 16, (.agg #[(.int .i64 0), (.int .i64 0)])⟩ := by kernel_rfl
@[go_sem] theorem ty254 : tyOf Tryz.prog 254 = some ⟨(.st [(0, 3), (1, 3), (2, 4)]), 3, 24, (.agg #[(.int .i64 0), (.int .i64 0), (.bool false)])⟩ := by kernel_rfl
@[go_sem] theorem ty257 : tyOf Tryz.prog 257 = some ⟨(.st [(0, 3), (1, 146), (2, 3)]), 3, 24, (.agg #[(.int .i64 0), (.int .u32 0), (.int .i64 0)])⟩ := by kernel_rfl
@[go_sem] theorem ty260 : tyOf Tryz.prog 260 = some ⟨(.st [(0, 3), (1, 3), (2, 3), (3, 3)]), 4, 32, (.agg #[(.int .i64 0), (.int .i64 0), (.int .i64 0), (.int .i64 0)])⟩ := by kernel_rfl
@[go_sem] theorem ty263 : tyOf Tryz.prog 263 = some ⟨(.st [(0, 3), (1, 3), (2, 3)]), 3, 24, (.agg #[(.int .i64 0), (.int .i64 0), (.int .i64 0)])⟩ := by kernel_rfl
@[go_sem] theorem ty266 : tyOf Tryz.prog 266 = some ⟨(.st [(0, 3), (1, 22)]), 2, 32, (.agg #[(.int .i64 0), (.slice none 0 0)])⟩ := by kernel_rfl
@[go_sem] theorem ty271 : tyOf Tryz.prog 271 = some ⟨(.st [(0, 22), (1, 3)]), 2, 32, (.agg #[(.slice none 0 0), (.int .i64 0)])⟩ := by kernel_rfl
@[go_sem] theorem ty274 : tyOf Tryz.prog 274 = some ⟨(.st [(0, 3), (1, 3), (2, 3), (3, 9), (4, 9), (5, 22)]), 6, 80, (.agg #[(.int .i64 0), (.int .i64 0), (.int .i64 0), (.string ⟨#[]⟩), (.string ⟨#[]⟩), (.slice none 0 0)])⟩ := by kernel_rfl
@[go_sem] theorem ty300 : tyOf Tryz.prog 300 = some ⟨(.ptr 339), 1, 8, (.pointer none)⟩ := by kernel_rfl
@[go_sem] theorem ty307 : tyOf Tryz.prog 307 = some ⟨(.st [(0, 3), (1, 9)]), 2, 24, (.agg #[(.int .i64 0), (.string ⟨#[]⟩)])⟩ := by kernel_rfl
@[go_sem] theorem ty321 : tyOf Tryz.prog 321 = some ⟨(.int .i64), 1, 8, (.int .i64 0)⟩ := by kernel_rfl
@[go_sem] theorem ty330 : tyOf Tryz.prog 330 = some ⟨(.int .u64), 1, 8, (.int .u64 0)⟩ := by kernel_rfl
@[go_sem] theorem ty331 : tyOf Tryz.prog 331 = some ⟨(.ptr 362), 1, 8, (.pointer none)⟩ := by kernel_rfl
@[go_sem] theorem ty339 : tyOf Tryz.prog 339 = some ⟨(.st [(0, 120), (1, 9), (2, 3), (3, 3), (4, 4)]), 5, 48, (.agg #[(.pointer none), (.string ⟨#[]⟩), (.int .i64 0), (.int .i64 0), (.bool false)])⟩ := by kernel_rfl
@[go_sem] theorem ty340 : tyOf Tryz.prog 340 = some ⟨(.ptr 367), 1, 8, (.pointer none)⟩ := by kernel_rfl
@[go_sem] theorem ty344 : tyOf Tryz.prog 344 = some ⟨(.arr 24 5), 24, 24, (.agg #[(.int .u8 0), (.int .u8 0), (.int .u8 0), (.int .u8 0), (.int .u8 0), (.int .u8 0), (.int .u8 0), (.int .u8 0), (.int .u8 0), (.int .u8 0), (.int .u8 0), (.int .u8 0), (.int .u8 0), (.int .u8 0), (.int .u8 0), (.int .u8 0), (.int .u8 0), (.int .u8 0), (.int .u8 0), (.int .u8 0), (.int .u8 0), (.int .u8 0), (.int .u8 0), (.int .u8 0)])⟩ := by kernel_rfl
@[go_sem] theorem ty350 : tyOf Tryz.prog 350 = some ⟨(.arr 8 5), 8, 8, (.agg #[(.int .u8 0), (.int .u8 0), (.int .u8 0), (.int .u8 0), (.int .u8 0), (.int .u8 0), (.int .u8 0), (.int .u8 0)])⟩ := by kernel_rfl
@[go_sem] theorem ty352 : tyOf Tryz.prog 352 = some ⟨(.arr 4 5), 4, 4, (.agg #[(.int .u8 0), (.int .u8 0), (.int .u8 0), (.int .u8 0)])⟩ := by kernel_rfl
@[go_sem] theorem ty354 : tyOf Tryz.prog 354 = some ⟨(.arr 16 146), 16, 64, (.agg #[(.int .u32 0), (.int .u32 0), (.int .u32 0), (.int .u32 0), (.int .u32 0), (.int .u32 0), (.int .u32 0), (.int .u32 0), (.int .u32 0), (.int .u32 0), (.int .u32 0), (.int .u32 0), (.int .u32 0), (.int .u32 0), (.int .u32 0), (.int .u32 0)])⟩ := by kernel_rfl
@[go_sem] theorem ty355 : tyOf Tryz.prog 355 = some ⟨(.int .u64), 1, 8, (.int .u64 0)⟩ := by kernel_rfl
@[go_sem] theorem ty359 : tyOf Tryz.prog 359 = some ⟨(.ptr 3), 1, 8, (.pointer none)⟩ := by kernel_rfl
@[go_sem] theorem ty362 : tyOf Tryz.prog 362 = some ⟨(.st [(0, 120), (1, 9), (2, 3), (3, 146), (4, 3), (5, 4)]), 6, 56, (.agg #[(.pointer none), (.string ⟨#[]⟩), (.int .i64 0), (.int .u32 0), (.int .i64 0), (.bool false)])⟩ := by kernel_rfl
@[go_sem] theorem ty367 : tyOf Tryz.prog 367 = some ⟨(.st [(0, 53), (1, 3), (2, 3)]), 3, 40, (.agg #[(.slice none 0 0), (.int .i64 0), (.int .i64 0)])⟩ := by kernel_rfl
@[go_sem] theorem ty371 : tyOf Tryz.prog 371 = some ⟨(.arr 20 330), 20, 160, (.agg #[(.int .u64 0), (.int .u64 0), (.int .u64 0), (.int .u64 0), (.int .u64 0), (.int .u64 0), (.int .u64 0), (.int .u64 0), (.int .u64 0), (.int .u64 0), (.int .u64 0), (.int .u64 0), (.int .u64 0), (.int .u64 0), (.int .u64 0), (.int .u64 0), (.int .u64 0), (.int .u64 0), (.int .u64 0), (.int .u64 0)])⟩ := by kernel_rfl
@[go_sem] theorem ty372 : tyOf Tryz.prog 372 = some ⟨(.arr 65 5), 65, 65, (.agg #[(.int .u8 0), (.int .u8 0), (.int .u8 0), (.int .u8 0), (.int .u8 0), (.int .u8 0), (.int .u8 0), (.int .u8 0), (.int .u8 0), (.int .u8 0), (.int .u8 0), (.int .u8 0), (.int .u8 0), (.int .u8 0), (.int .u8 0), (.int .u8 0), (.int .u8 0), (.int .u8 0), (.int .u8 0), (.int .u8 0), (.int .u8 0), (.int .u8 0), (.int .u8 0), (.int .u8 0), (.int .u8 0), (.int .u8 0), (.int .u8 0), (.int .u8 0), (.int .u8 0), (.int .u8 0), (.int .u8 0), (.int .u8 0), (.int .u8 0), (.int .u8 0), (.int .u8 0), (.int .u8 0), (.int .u8 0), (.int .u8 0), (.int .u8 0), (.int .u8 0), (.int .u8 0), (.int .u8 0), (.int .u8 0), (.int .u8 0), (.int .u8 0), (.int .u8 0), (.int .u8 0), (.int .u8 0), (.int .u8 0), (.int .u8 0), (.int .u8 0), (.int .u8 0), (.int .u8 0), (.int .u8 0), (.int .u8 0), (.int .u8 0), (.int .u8 0), (.int .u8 0), (.int .u8 0), (.int .u8 0), (.int .u8 0), (.int .u8 0), (.int .u8 0), (.int .u8 0), (.int .u8 0)])⟩ := by kernel_rfl
@[go_sem] theorem ty379 : tyOf Tryz.prog 379 = some ⟨(.arr 32 5), 32, 32, (.agg #[(.int .u8 0), (.int .u8 0), (.int .u8 0), (.int .u8 0), (.int .u8 0), (.int .u8 0), (.int .u8 0), (.int .u8 0), (.int .u8 0), (.int .u8 0), (.int .u8 0), (.int .u8 0), (.int .u8 0), (.int .u8 0), (.int .u8 0), (.int .u8 0), (.int .u8 0), (.int .u8 0), (.int .u8 0), (.int .u8 0), (.int .u8 0), (.int .u8 0), (.int .u8 0), (.int .u8 0), (.int .u8 0), (.int .u8 0), (.int .u8 0), (.int .u8 0), (.int .u8 0), (.int .u8 0), (.int .u8 0), (.int .u8 0)])⟩ := by kernel_rfl
@[go_sem] theorem ty380 : tyOf Tryz.prog 380 = some ⟨(.arr 64 5), 64, 64, (.agg #[(.int .u8 0), (.int .u8 0), (.int .u8 0), (.int .u8 0), (.int .u8 0), (.int .u8 0), (.int .u8 0), (.int .u8 0), (.int .u8 0), (.int .u8 0), (.int .u8 0), (.int .u8 0), (.int .u8 0), (.int .u8 0), (.int .u8 0), (.int .u8 0), (.int .u8 0), (.int .u8 0), (.int .u8 0), (.int .u8 0), (.int .u8 0), (.int .u8 0), (.int .u8 0), (.int .u8 0), (.int .u8 0), (.int .u8 0), (.int .u8 0), (.int .u8 0), (.int .u8 0), (.int .u8 0), (.int .u8 0), (.int .u8 0), (.int .u8 0), (.int .u8 0), (.int .u8 0), (.int .u8 0), (.int .u8 0), (.int .u8 0), (.int .u8 0), (.int .u8 0), (.int .u8 0), (.int .u8 0), (.int .u8 0), (.int .u8 0), (.int .u8 0), (.int .u8 0), (.int .u8 0), (.int .u8 0), (.int .u8 0), (.int .u8 0), (.int .u8 0), (.int .u8 0), (.int .u8 0), (.int .u8 0), (.int .u8 0), (.int .u8 0), (.int .u8 0), (.int .u8 0), (.int .u8 0), (.int .u8 0), (.int .u8 0), (.int .u8 0), (.int .u8 0), (.int .u8 0)])⟩ := by kernel_rfl
@[go_sem] theorem okc6 : (okCall Tryz.prog 6 = true) = True := eq_true (by kernel_rfl)
@[go_sem] theorem okc7 : (okCall Tryz.prog 7 = true) = True := eq_true (by kernel_rfl)
@[go_sem] theorem okc8 : (okCall Tryz.prog 8 = true) = True := eq_true (by kernel_rfl)
@[go_sem] theorem okc9 : (okCall Tryz.prog 9 = true) = True := eq_true (by kernel_rfl)
@[go_sem] theorem okc11 : (okCall Tryz.prog 11 = true) = True := eq_true (by kernel_rfl)
@[go_sem] theorem okc12 : (okCall Tryz.prog 12 = true) = True := eq_true (by kernel_rfl)
@[go_sem] theorem okc14 : (okCall Tryz.prog 14 = true) = True := eq_true (by kernel_rfl)
@[go_sem] theorem okc15 : (okCall Tryz.prog 15 = true) = True := eq_true (by kernel_rfl)
@[go_sem] theorem okc16 : (okCall Tryz.prog 16 = true) = True := eq_true (by kernel_rfl)
@[go_sem] theorem okc17 : (okCall Tryz.prog 17 = true) = True := eq_true (by kernel_rfl)
@[go_sem] theorem okc18 : (okCall Tryz.prog 18 = true) = True := eq_true (by kernel_rfl)
@[go_sem] theorem okc23 : (okCall Tryz.prog 23 = true) = True := eq_true (by kernel_rfl)
@[go_sem] theorem okc24 : (okCall Tryz.prog 24 = true) = True := eq_true (by kernel_rfl)
@[go_sem] theorem okc25 : (okCall Tryz.prog 25 = true) = True := eq_true (by kernel_rfl)
@[go_sem] theorem okc30 : (okCall Tryz.prog 30 = true) = True := eq_true (by kernel_rfl)
@[go_sem] theorem okc31 : (okCall Tryz.prog 31 = true) = True := eq_true (by kernel_rfl)
@[go_sem] theorem okc32 : (okCall Tryz.prog 32 = true) = True := eq_true (by kernel_rfl)
@[go_sem] theorem okc33 : (okCall Tryz.prog 33 = true) = True := eq_true (by kernel_rfl)
@[go_sem] theorem okc34 : (okCall Tryz.prog 34 = true) = True := eq_true (by kernel_rfl)
@[go_sem] theorem okc38 : (okCall Tryz.prog 38 = true) = True := eq_true (by kernel_rfl)
@[go_sem] theorem okc39 : (okCall Tryz.prog 39 = true) = True := eq_true (by kernel_rfl)
@[go_sem] theorem okc40 : (okCall Tryz.prog 40 = true) = True := eq_true (by kernel_rfl)
@[go_sem] theorem okc41 : (okCall Tryz.prog 41 = true) = True := eq_true (by kernel_rfl)
@[go_sem] theorem okc42 : (okCall Tryz.prog 42 = true) = True := eq_true (by kernel_rfl)
@[go_sem] theorem okc43 : (okCall Tryz.prog 43 = true) = True := eq_true (by kernel_rfl)
@[go_sem] theorem okc52 : (okCall Tryz.prog 52 = true) = True := eq_true (by kernel_rfl)
@[go_sem] theorem okc53 : (okCall Tryz.prog 53 = true) = True := eq_true (by kernel_rfl)
@[go_sem] theorem okc54 : (okCall Tryz.prog 54 = true) = True := eq_true (by kernel_rfl)
@[go_sem] theorem okc55 : (okCall Tryz.prog 55 = true) = True := eq_true (by kernel_rfl)
@[go_sem] theorem okc56 : (okCall Tryz.prog 56 = true) = True := eq_true (by kernel_rfl)
@[go_sem] theorem okc57 : (okCall Tryz.prog 57 = true) = True := eq_true (by kernel_rfl)
@[go_sem] theorem okc63 : (okCall Tryz.prog 63 = true) = True := eq_true (by kernel_rfl)
@[go_sem] theorem okc68 : (okCall Tryz.prog 68 = true) = True := eq_true (by kernel_rfl)
@[go_sem] theorem okc70 : (okCall Tryz.prog 70 = true) = True := eq_true (by kernel_rfl)
@[go_sem] theorem okc79 : (okCall Tryz.prog 79 = true) = True := eq_true (by kernel_rfl)
@[go_sem] theorem okc84 : (okCall Tryz.prog 84 = true) = True := eq_true (by kernel_rfl)
@[go_sem] theorem okc85 : (okCall Tryz.prog 85 = true) = True := eq_true (by kernel_rfl)
@[go_sem] theorem okc86 : (okCall Tryz.prog 86 = true) = True := eq_true (by kernel_rfl)
@[go_sem] theorem okc87 : (okCall Tryz.prog 87 = true) = True := eq_true (by kernel_rfl)
@[go_sem] theorem okc88 : (okCall Tryz.prog 88 = true) = True := eq_true (by kernel_rfl)
@[go_sem] theorem okc89 : (okCall Tryz.prog 89 = true) = True := eq_true (by kernel_rfl)
@[go_sem] theorem okc90 : (okCall Tryz.prog 90 = true) = True := eq_true (by kernel_rfl)
@[go_sem] theorem okc91 : (okCall Tryz.prog 91 = true) = True := eq_true (by kernel_rfl)
@[go_sem] theorem okc92 : (okCall Tryz.prog 92 = true) = True := eq_true (by kernel_rfl)
@[go_sem] theorem okc93 : (okCall Tryz.prog 93 = true) = True := eq_true (by kernel_rfl)
@[go_sem] theorem okc94 : (okCall Tryz.prog 94 = true) = True := eq_true (by kernel_rfl)
@[go_sem] theorem okc95 : (okCall Tryz.prog 95 = true) = True := eq_true (by kernel_rfl)
@[go_sem] theorem okc97 : (okCall Tryz.prog 97 = true) = True := eq_true (by kernel_rfl)
@[go_sem] theorem okc98 : (okCall Tryz.prog 98 = true) = True := eq_true (by kernel_rfl)
@[go_sem] theorem okc99 : (okCall Tryz.prog 99 = true) = True := eq_true (by kernel_rfl)
@[go_sem] theorem okc100 : (okCall Tryz.prog 100 = true) = True := eq_true (by kernel_rfl)
@[go_sem] theorem okc101 : (okCall Tryz.prog 101 = true) = True := eq_true (by kernel_rfl)
@[go_sem] theorem okc102 : (okCall Tryz.prog 102 = true) = True := eq_true (by kernel_rfl)
@[go_sem] theorem okc171 : (okCall Tryz.prog 171 = true) = True := eq_true (by kernel_rfl)
@[go_sem] theorem okc178 : (okCall Tryz.prog 178 = true) = True := eq_true (by kernel_rfl)
@[go_sem] theorem okc179 : (okCall Tryz.prog 179 = true) = True := eq_true (by kernel_rfl)
@[go_sem] theorem okc188 : (okCall Tryz.prog 188 = true) = True := eq_true (by kernel_rfl)
@[go_sem] theorem okc193 : (okCall Tryz.prog 193 = true) = True := eq_true (by kernel_rfl)
@[go_sem] theorem okc194 : (okCall Tryz.prog 194 = true) = True := eq_true (by kernel_rfl)
@[go_sem] theorem okc198 : (okCall Tryz.prog 198 = true) = True := eq_true (by kernel_rfl)
@[go_sem] theorem okc201 : (okCall Tryz.prog 201 = true) = True := eq_true (by kernel_rfl)
@[go_sem] theorem okc202 : (okCall Tryz.prog 202 = true) = True := eq_true (by kernel_rfl)
@[go_sem] theorem okc203 : (okCall Tryz.prog 203 = true) = True := eq_true (by kernel_rfl)
@[go_sem] theorem okc204 : (okCall Tryz.prog 204 = true) = True := eq_true (by kernel_rfl)
@[go_sem] theorem okc205 : (okCall Tryz.prog 205 = true) = True := eq_true (by kernel_rfl)
@[go_sem] theorem okc206 : (okCall Tryz.prog 206 = true) = True := eq_true (by kernel_rfl)
@[go_sem] theorem okc207 : (okCall Tryz.prog 207 = true) = True := eq_true (by kernel_rfl)
@[go_sem] theorem okc208 : (okCall Tryz.prog 208 = true) = True := eq_true (by kernel_rfl)
@[go_sem] theorem okc209 : (okCall Tryz.prog 209 = true) = True := eq_true (by kernel_rfl)
@[go_sem] theorem okc210 : (okCall Tryz.prog 210 = true) = True := eq_true (by kernel_rfl)
@[go_sem] theorem okc268 : (okCall Tryz.prog 268 = true) = True := eq_true (by kernel_rfl)
@[go_sem] theorem okc269 : (okCall Tryz.prog 269 = true) = True := eq_true (by kernel_rfl)
@[go_sem] theorem okc272 : (okCall Tryz.prog 272 = true) = True := eq_true (by kernel_rfl)
@[go_sem] theorem okc273 : (okCall Tryz.prog 273 = true) = True := eq_true (by kernel_rfl)
@[go_sem] theorem okc274 : (okCall Tryz.prog 274 = true) = True := eq_true (by kernel_rfl)
@[go_sem] theorem okc275 : (okCall Tryz.prog 275 = true) = True := eq_true (by kernel_rfl)
@[go_sem] theorem okc304 : (okCall Tryz.prog 304 = true) = True := eq_true (by kernel_rfl)
@[go_sem] theorem okc305 : (okCall Tryz.prog 305 = true) = True := eq_true (by kernel_rfl)
@[go_sem] theorem okc306 : (okCall Tryz.prog 306 = true) = True := eq_true (by kernel_rfl)
@[go_sem] theorem okc323 : (okCall Tryz.prog 323 = true) = True := eq_true (by kernel_rfl)
end Go.Proofs.YtgigigchjnnonaaGreatDoor
