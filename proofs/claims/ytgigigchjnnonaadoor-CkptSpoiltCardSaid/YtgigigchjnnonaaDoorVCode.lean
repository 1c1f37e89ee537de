/- The functions' code as commands; printed by wip/Gen.lean off the translation. -/
import Derived.Test.YtgigigchjnnonaaDoorProg
import Derived.Test.YtgigigchjnnonaaDoorVBase
import Derived.KernelRfl
set_option maxRecDepth 100000
set_option linter.unusedSimpArgs false
namespace Go.Proofs.YtgigigchjnnonaaDoor
open Go Go.V
theorem mixed : Tryd.prog.follows .mixedOrders = true := by kernel_rfl
-- 5 pith/pithlaw18.first
@[go_sem] def c5_0 : Cmd := .ops [⟨some 0, .assign (.const (.bool false)), 4, none⟩]
@[go_sem] def c5_1 : Cmd := .ops [⟨some 9, .buildSlice 22 3 #[(0, (.const (.int .i64 3))), (1, (.const (.int .i64 0))), (2, (.const (.int .i64 300)))], 22, none⟩,
    ⟨some 10, .buildSlice 23 2 #[(0, (.const (.bool true))), (1, (.const (.bool false)))], 23, none⟩,
    ⟨some 11, .build 28 #[(0, (.const (.int .i64 2))), (1, (.tmp 9)), (2, (.tmp 10))], 28, none⟩,
    ⟨some 12, .call { callee := (.value (.func 19)), args := #[(.const (.int .i64 7)), (.tmp 11)], argTypes := #[3, 28] }, 50, none⟩,
    ⟨some 8, .move (.tmp 12), 50, none⟩,
    ⟨some 13, .extract (.tmp 8) 0, 42, none⟩,
    ⟨some 14, .extract (.tmp 8) 1, 49, none⟩,
    ⟨some 15, .extract (.tmp 8) 2, 31, none⟩,
    ⟨some 1, .assign (.tmp 13), 42, none⟩,
    ⟨some 2, .assign (.tmp 14), 49, none⟩,
    ⟨some 3, .assign (.tmp 15), 31, none⟩]
@[go_sem] def c5_2 : Cmd := .ops [⟨some 16, .move (.tmp 1), 42, none⟩,
    ⟨some 17, .buildSlice 42 16 #[(0, (.const (.int .u8 0))), (1, (.const (.int .u8 0))), (2, (.const (.int .u8 0))), (3, (.const (.int .u8 7))), (4, (.const (.int .u8 0))), (5, (.const (.int .u8 0))), (6, (.const (.int .u8 0))), (7, (.const (.int .u8 2))), (8, (.const (.int .u8 0))), (9, (.const (.int .u8 0))), (10, (.const (.int .u8 0))), (11, (.const (.int .u8 3))), (12, (.const (.int .u8 0))), (13, (.const (.int .u8 0))), (14, (.const (.int .u8 0))), (15, (.const (.int .u8 2)))], 42, none⟩,
    ⟨some 18, .call { callee := (.value (.func 20)), args := #[(.tmp 16), (.tmp 17)], argTypes := #[42, 42] }, 4, none⟩,
    ⟨some 4, .assign (.tmp 18), 4, none⟩]
@[go_sem] def c5_3 : Cmd := .ops [⟨some 19, .move (.tmp 2), 49, none⟩,
    ⟨some 20, .buildSlice 42 4 #[(0, (.const (.int .u8 3))), (1, (.const (.int .u8 0))), (2, (.const (.int .u8 130))), (3, (.const (.int .u8 44)))], 42, none⟩,
    ⟨some 21, .buildSlice 42 2 #[(0, (.const (.int .u8 1))), (1, (.const (.int .u8 0)))], 42, none⟩,
    ⟨some 22, .buildSlice 49 2 #[(0, (.tmp 20)), (1, (.tmp 21))], 49, none⟩,
    ⟨some 23, .call { callee := (.value (.func 21)), args := #[(.tmp 19), (.tmp 22)], argTypes := #[49, 49] }, 4, none⟩,
    ⟨some 5, .assign (.tmp 23), 4, none⟩]
@[go_sem] def c5_4 : Cmd := .ops [⟨some 25, .move (.tmp 1), 42, none⟩,
    ⟨some 26, .move (.tmp 2), 49, none⟩,
    ⟨some 27, .call { callee := (.value (.func 22)), args := #[(.const (.int .i64 8)), (.tmp 25), (.tmp 26)], argTypes := #[3, 42, 49] }, 56, none⟩,
    ⟨some 24, .move (.tmp 27), 56, none⟩,
    ⟨some 28, .extract (.tmp 24) 0, 28, none⟩,
    ⟨some 29, .extract (.tmp 24) 1, 31, none⟩,
    ⟨some 6, .alloc 28, 0, none⟩,
    ⟨none, .store 28 (.tmp 6) (.tmp 28), 0, none⟩,
    ⟨some 7, .assign (.tmp 29), 31, none⟩]
@[go_sem] def c5_5 : Cmd := .ops [⟨some 30, .move (.tmp 3), 31, none⟩,
    ⟨some 31, .call { callee := (.value (.func 12)), args := #[(.tmp 30)], argTypes := #[31] }, 3, none⟩,
    ⟨some 32, .binOp .eql 3 (.tmp 31) (.const (.int .i64 0)) 3, 4, none⟩,
    ⟨some 33, .move (.tmp 32), 4, none⟩,
    ⟨some 34, .move (.tmp 4), 4, some (33, true)⟩,
    ⟨some 35, .pick (.tmp 33) (.tmp 34) (.const (.bool false)), 4, none⟩,
    ⟨some 36, .move (.tmp 35), 4, none⟩,
    ⟨some 37, .move (.tmp 5), 4, some (36, true)⟩,
    ⟨some 38, .pick (.tmp 36) (.tmp 37) (.const (.bool false)), 4, none⟩,
    ⟨some 39, .move (.tmp 38), 4, none⟩,
    ⟨some 40, .move (.tmp 7), 31, some (39, true)⟩,
    ⟨some 41, .call { callee := (.value (.func 12)), args := #[(.tmp 40)], argTypes := #[31] }, 3, some (39, true)⟩,
    ⟨some 42, .binOp .eql 3 (.tmp 41) (.const (.int .i64 90)) 3, 4, some (39, true)⟩,
    ⟨some 43, .pick (.tmp 39) (.tmp 42) (.const (.bool false)), 4, none⟩,
    ⟨some 44, .move (.tmp 43), 4, none⟩,
    ⟨some 45, .call { callee := (.value (.func 23)), args := #[(.const (.int .i64 7))], argTypes := #[3] }, 9, some (44, true)⟩,
    ⟨some 46, .binOp .eql 9 (.tmp 45) (.const (.string ⟨#[99, 107, 112, 116, 46, 55]⟩)) 9, 4, some (44, true)⟩,
    ⟨some 47, .pick (.tmp 44) (.tmp 46) (.const (.bool false)), 4, none⟩,
    ⟨some 0, .assign (.tmp 47), 4, none⟩]
@[go_sem] def c5 : Cmd := (.seq c5_0 (.seq c5_1 (.seq c5_2 (.seq c5_3 (.seq c5_4 (.seq c5_5 .ret))))))
theorem b5 : Tryd.f5.body.map (comp 48) = some c5 := by kernel_rfl
theorem r5 : Tryd.f5.results.toList = [.tmp 0] := by kernel_rfl
-- 6 pith/fs.New
@[go_sem] def c6_0 : Cmd := .ops [⟨some 2, .assign (.const (.pointer none)), 25, none⟩]
@[go_sem] def c6_1 : Cmd := .ops [⟨some 3, .move (.tmp 0), 3, none⟩,
    ⟨some 4, .binOp .lss 3 (.tmp 3) (.const (.int .i64 0)) 3, 4, none⟩,
    ⟨some 5, .move (.tmp 4), 4, none⟩,
    ⟨some 6, .move (.tmp 0), 3, some (5, false)⟩,
    ⟨some 7, .binOp .gtr 3 (.tmp 6) (.const (.int .i64 2147483647)) 3, 4, some (5, false)⟩,
    ⟨some 8, .pick (.tmp 5) (.const (.bool true)) (.tmp 7), 4, none⟩]
@[go_sem] def c6_2 : Cmd := .ops [⟨some 2, .assign (.const (.pointer none)), 25, none⟩]
@[go_sem] def c6_3 : Cmd := .cond (.tmp 8) (.seq c6_2 .ret) .skip
@[go_sem] def c6_4 : Cmd := .ops [⟨some 9, .move (.tmp 0), 3, none⟩,
    ⟨some 10, .makeMap 60 none, 60, none⟩,
    ⟨some 11, .makeMap 60 none, 60, none⟩,
    ⟨some 12, .makeMap 61 none, 61, none⟩,
    ⟨some 13, .build 64 #[(0, (.tmp 9)), (1, (.tmp 10)), (2, (.tmp 11)), (4, (.tmp 12))], 64, none⟩,
    ⟨some 14, .box 64 (.tmp 13), 25, none⟩,
    ⟨some 2, .assign (.tmp 14), 25, none⟩]
@[go_sem] def c6 : Cmd := (.seq c6_0 (.seq (.seq c6_1 c6_3) (.seq c6_4 .ret)))
theorem b6 : Tryd.f6.body.map (comp 15) = some c6 := by kernel_rfl
theorem r6 : Tryd.f6.results.toList = [.tmp 2] := by kernel_rfl
-- 7 pith/pithlaw18.fitting
@[go_sem] def c7_0 : Cmd := .ops [⟨some 6, .alloc 28, 0, none⟩,
    ⟨some 7, .assign (.const (.slice none 0 0)), 22, none⟩]
@[go_sem] def c7_1 : Cmd := .ops [⟨some 8, .alloc 28, 0, none⟩]
@[go_sem] def c7_2 : Cmd := .ops [⟨some 9, .assign (.const (.slice none 0 0)), 22, none⟩]
@[go_sem] def c7_3 : Cmd := .ops [⟨some 10, .assign (.const (.int .i64 0)), 3, none⟩]
@[go_sem] def c7_4 : Cmd := .ops [⟨some 13, .move (.tmp 10), 3, none⟩,
    ⟨some 14, .move (.tmp 0), 22, none⟩,
    ⟨some 15, .call { callee := (.builtin .len), args := #[(.tmp 14)], argTypes := #[22] }, 3, none⟩,
    ⟨some 16, .binOp .lss 3 (.tmp 13) (.tmp 15) 3, 4, none⟩,
    ⟨some 17, .move (.tmp 16), 4, none⟩,
    ⟨some 18, .move (.tmp 10), 3, some (17, true)⟩,
    ⟨some 19, .binOp .lss 3 (.tmp 18) (.const (.int .i64 5000)) 3, 4, some (17, true)⟩,
    ⟨some 20, .pick (.tmp 17) (.tmp 19) (.const (.bool false)), 4, none⟩]
@[go_sem] def c7_5 : Cmd := .cond (.tmp 20) .skip (.exit 0)
@[go_sem] def c7_6 : Cmd := .ops [⟨some 23, .move (.tmp 0), 22, none⟩,
    ⟨some 24, .move (.tmp 10), 3, none⟩,
    ⟨some 25, .indexAddr 22 (.tmp 23) (.tmp 24), 0, none⟩,
    ⟨some 26, .load 3 (.tmp 25), 3, none⟩,
    ⟨some 27, .binOp .and 3 (.tmp 26) (.const (.int .i64 16777215)) 3, 3, none⟩,
    ⟨some 11, .assign (.tmp 27), 3, none⟩]
@[go_sem] def c7_7 : Cmd := .ops [⟨some 28, .fieldAddr 28 (.tmp 8) 1, 0, none⟩,
    ⟨some 29, .load 22 (.tmp 28), 22, none⟩,
    ⟨some 30, .move (.tmp 11), 3, none⟩,
    ⟨some 31, .buildSlice 22 1 #[(0, (.tmp 30))], 22, none⟩,
    ⟨some 32, .call { callee := (.builtin .append), args := #[(.tmp 29), (.tmp 31)], argTypes := #[22, 22] }, 22, none⟩,
    ⟨some 33, .fieldAddr 28 (.tmp 8) 1, 0, none⟩,
    ⟨none, .store 22 (.tmp 33) (.tmp 32), 0, none⟩]
@[go_sem] def c7_8 : Cmd := .ops [⟨some 34, .move (.tmp 10), 3, none⟩,
    ⟨some 35, .move (.tmp 2), 22, none⟩,
    ⟨some 36, .call { callee := (.builtin .len), args := #[(.tmp 35)], argTypes := #[22] }, 3, none⟩,
    ⟨some 37, .binOp .lss 3 (.tmp 34) (.tmp 36) 3, 4, none⟩]
@[go_sem] def c7_9 : Cmd := .ops [⟨some 38, .move (.tmp 11), 3, none⟩,
    ⟨some 39, .move (.tmp 2), 22, none⟩,
    ⟨some 40, .move (.tmp 10), 3, none⟩,
    ⟨some 41, .indexAddr 22 (.tmp 39) (.tmp 40), 0, none⟩,
    ⟨some 42, .load 3 (.tmp 41), 3, none⟩,
    ⟨some 43, .binOp .and 3 (.tmp 42) (.const (.int .i64 7)) 3, 3, none⟩,
    ⟨some 44, .binOp .add 3 (.tmp 38) (.tmp 43) 3, 3, none⟩,
    ⟨some 45, .call { callee := (.builtin .min), args := #[(.tmp 44), (.const (.int .i64 16777215))], argTypes := #[3, 3] }, 3, none⟩,
    ⟨some 11, .assign (.tmp 45), 3, none⟩]
@[go_sem] def c7_10 : Cmd := .cond (.tmp 37) c7_9 .skip
@[go_sem] def c7_11 : Cmd := .ops [⟨some 46, .move (.tmp 9), 22, none⟩,
    ⟨some 47, .move (.tmp 11), 3, none⟩,
    ⟨some 48, .buildSlice 22 1 #[(0, (.tmp 47))], 22, none⟩,
    ⟨some 49, .call { callee := (.builtin .append), args := #[(.tmp 46), (.tmp 48)], argTypes := #[22, 22] }, 22, none⟩,
    ⟨some 9, .assign (.tmp 49), 22, none⟩]
@[go_sem] def c7_12 : Cmd := .block 1 (.seq c7_6 (.seq c7_7 (.seq (.seq c7_8 c7_10) c7_11)))
@[go_sem] def c7_13 : Cmd := .ops [⟨some 21, .move (.tmp 10), 3, none⟩,
    ⟨some 22, .binOp .add 3 (.tmp 21) (.const (.int .i64 1)) 3, 3, none⟩,
    ⟨some 10, .assign (.tmp 22), 3, none⟩]
def c7_L0 : Cmd := (.seq (.seq c7_4 c7_5) (.seq c7_12 c7_13))
@[go_sem] def c7_14 : Cmd := .loop c7_L0
@[go_sem] def c7_15 : Cmd := .block 0 c7_14
@[go_sem] def c7_16 : Cmd := .ops [⟨some 12, .assign (.const (.int .i64 0)), 3, none⟩]
@[go_sem] def c7_17 : Cmd := .ops [⟨some 50, .move (.tmp 12), 3, none⟩,
    ⟨some 51, .move (.tmp 1), 23, none⟩,
    ⟨some 52, .call { callee := (.builtin .len), args := #[(.tmp 51)], argTypes := #[23] }, 3, none⟩,
    ⟨some 53, .binOp .lss 3 (.tmp 50) (.tmp 52) 3, 4, none⟩,
    ⟨some 54, .move (.tmp 53), 4, none⟩,
    ⟨some 55, .move (.tmp 12), 3, some (54, true)⟩,
    ⟨some 56, .binOp .lss 3 (.tmp 55) (.const (.int .i64 1000)) 3, 4, some (54, true)⟩,
    ⟨some 57, .pick (.tmp 54) (.tmp 56) (.const (.bool false)), 4, none⟩]
@[go_sem] def c7_18 : Cmd := .cond (.tmp 57) .skip (.exit 2)
@[go_sem] def c7_19 : Cmd := .draw (.step 3 ⟨some 60, .fieldAddr 28 (.tmp 8) 2, 0, none⟩
    (.step 0 ⟨some 61, .load 23 (.tmp 60), 23, none⟩
    (.step 3 ⟨some 62, .move (.tmp 1), 23, none⟩
    (.step 3 ⟨some 63, .move (.tmp 12), 3, none⟩
    (.step 3 ⟨some 64, .indexAddr 23 (.tmp 62) (.tmp 63), 0, none⟩
    (.step 0 ⟨some 65, .load 4 (.tmp 64), 4, none⟩
    (.step 1 ⟨some 66, .buildSlice 23 1 #[(0, (.tmp 65))], 23, none⟩
    (.step 2 ⟨some 67, .call { callee := (.builtin .append), args := #[(.tmp 61), (.tmp 66)], argTypes := #[23, 23] }, 23, none⟩
    (.step 3 ⟨some 68, .fieldAddr 28 (.tmp 8) 2, 0, none⟩
    (.step 2 ⟨none, .store 23 (.tmp 68) (.tmp 67), 0, none⟩
    .done))))))))))
@[go_sem] def c7_20 : Cmd := .block 3 c7_19
@[go_sem] def c7_21 : Cmd := .ops [⟨some 58, .move (.tmp 12), 3, none⟩,
    ⟨some 59, .binOp .add 3 (.tmp 58) (.const (.int .i64 1)) 3, 3, none⟩,
    ⟨some 12, .assign (.tmp 59), 3, none⟩]
def c7_L1 : Cmd := (.seq (.seq c7_17 c7_18) (.seq c7_20 c7_21))
@[go_sem] def c7_22 : Cmd := .loop c7_L1
@[go_sem] def c7_23 : Cmd := .block 2 c7_22
@[go_sem] def c7_24 : Cmd := .ops [⟨some 69, .move (.tmp 2), 22, none⟩,
    ⟨some 70, .call { callee := (.builtin .len), args := #[(.tmp 69)], argTypes := #[22] }, 3, none⟩,
    ⟨some 71, .fieldAddr 28 (.tmp 8) 0, 0, none⟩,
    ⟨none, .store 3 (.tmp 71) (.tmp 70), 0, none⟩]
@[go_sem] def c7_25 : Cmd := .ops [⟨some 72, .load 28 (.tmp 8), 28, none⟩,
    ⟨some 73, .move (.tmp 9), 22, none⟩,
    ⟨none, .store 28 (.tmp 6) (.tmp 72), 0, none⟩,
    ⟨some 7, .assign (.tmp 73), 22, none⟩]
@[go_sem] def c7 : Cmd := (.seq c7_0 (.seq c7_1 (.seq c7_2 (.seq (.seq c7_3 c7_15) (.seq (.seq c7_16 c7_23) (.seq c7_24 (.seq c7_25 .ret)))))))
theorem b7 : Tryd.f7.body.map (comp 74) = some c7 := by kernel_rfl
theorem r7 : Tryd.f7.results.toList = [.cell 6 28, .tmp 7] := by kernel_rfl
-- 8 pith/ckpt.Save
@[go_sem] def c8_0 : Cmd := .ops [⟨some 5, .box 28 (.tmp 2), 0, none⟩,
    ⟨some 6, .assign (.const (.int .i64 0)), 31, none⟩]
@[go_sem] def c8_1 : Cmd := .ops [⟨some 11, .move (.tmp 1), 3, none⟩,
    ⟨some 12, .load 28 (.tmp 5), 28, none⟩,
    ⟨some 13, .call { callee := (.value (.func 19)), args := #[(.tmp 11), (.tmp 12)], argTypes := #[3, 28] }, 50, none⟩,
    ⟨some 10, .move (.tmp 13), 50, none⟩,
    ⟨some 14, .extract (.tmp 10) 0, 42, none⟩,
    ⟨some 15, .extract (.tmp 10) 1, 49, none⟩,
    ⟨some 16, .extract (.tmp 10) 2, 31, none⟩,
    ⟨some 7, .assign (.tmp 14), 42, none⟩,
    ⟨some 8, .assign (.tmp 15), 49, none⟩,
    ⟨some 9, .assign (.tmp 16), 31, none⟩]
@[go_sem] def c8_2 : Cmd := .ops [⟨some 17, .move (.tmp 9), 31, none⟩,
    ⟨some 18, .binOp .neq 31 (.tmp 17) (.const (.int .i64 0)) 31, 4, none⟩]
@[go_sem] def c8_3 : Cmd := .ops [⟨some 19, .move (.tmp 9), 31, none⟩,
    ⟨some 6, .assign (.tmp 19), 31, none⟩]
@[go_sem] def c8_4 : Cmd := .cond (.tmp 18) (.seq c8_3 .ret) .skip
@[go_sem] def c8_5 : Cmd := .ops [⟨some 20, .move (.tmp 0), 25, none⟩,
    ⟨some 21, .move (.tmp 1), 3, none⟩,
    ⟨some 22, .call { callee := (.value (.func 23)), args := #[(.tmp 21)], argTypes := #[3] }, 9, none⟩,
    ⟨some 23, .move (.tmp 7), 42, none⟩,
    ⟨some 24, .move (.tmp 8), 49, none⟩,
    ⟨some 25, .call { callee := (.value (.func 24)), args := #[(.tmp 20), (.tmp 22), (.tmp 23), (.tmp 24)], argTypes := #[25, 9, 42, 49] }, 31, none⟩,
    ⟨some 6, .assign (.tmp 25), 31, none⟩]
@[go_sem] def c8 : Cmd := (.seq c8_0 (.seq c8_1 (.seq (.seq c8_2 c8_4) (.seq c8_5 .ret))))
theorem b8 : Tryd.f8.body.map (comp 26) = some c8 := by kernel_rfl
theorem r8 : Tryd.f8.results.toList = [.tmp 6] := by kernel_rfl
-- 9 pith/pithref.Ints
@[go_sem] def c9_0 : Cmd := .ops [⟨some 2, .assign (.const (.slice none 0 0)), 22, none⟩]
@[go_sem] def c9_1 : Cmd := .ops [⟨some 5, .move (.tmp 0), 22, none⟩,
    ⟨some 6, .call { callee := (.builtin .len), args := #[(.tmp 5)], argTypes := #[22] }, 3, none⟩,
    ⟨some 7, .makeSlice 22 (.const (.int .i64 0)) (.tmp 6), 22, none⟩,
    ⟨some 3, .assign (.tmp 7), 22, none⟩]
@[go_sem] def c9_2 : Cmd := .ops [⟨some 4, .assign (.const (.int .i64 0)), 3, none⟩]
@[go_sem] def c9_3 : Cmd := .ops [⟨some 8, .move (.tmp 4), 3, none⟩,
    ⟨some 9, .move (.tmp 0), 22, none⟩,
    ⟨some 10, .call { callee := (.builtin .len), args := #[(.tmp 9)], argTypes := #[22] }, 3, none⟩,
    ⟨some 11, .binOp .lss 3 (.tmp 8) (.tmp 10) 3, 4, none⟩]
@[go_sem] def c9_4 : Cmd := .cond (.tmp 11) .skip (.exit 0)
@[go_sem] def c9_5 : Cmd := .ops [⟨some 14, .move (.tmp 3), 22, none⟩,
    ⟨some 15, .move (.tmp 0), 22, none⟩,
    ⟨some 16, .move (.tmp 4), 3, none⟩,
    ⟨some 17, .indexAddr 22 (.tmp 15) (.tmp 16), 0, none⟩,
    ⟨some 18, .load 3 (.tmp 17), 3, none⟩,
    ⟨some 19, .buildSlice 22 1 #[(0, (.tmp 18))], 22, none⟩,
    ⟨some 20, .call { callee := (.builtin .append), args := #[(.tmp 14), (.tmp 19)], argTypes := #[22, 22] }, 22, none⟩,
    ⟨some 3, .assign (.tmp 20), 22, none⟩]
@[go_sem] def c9_6 : Cmd := .block 1 c9_5
@[go_sem] def c9_7 : Cmd := .ops [⟨some 12, .move (.tmp 4), 3, none⟩,
    ⟨some 13, .binOp .add 3 (.tmp 12) (.const (.int .i64 1)) 3, 3, none⟩,
    ⟨some 4, .assign (.tmp 13), 3, none⟩]
def c9_L0 : Cmd := (.seq (.seq c9_3 c9_4) (.seq c9_6 c9_7))
@[go_sem] def c9_8 : Cmd := .loop c9_L0
@[go_sem] def c9_9 : Cmd := .block 0 c9_8
@[go_sem] def c9_10 : Cmd := .ops [⟨some 21, .move (.tmp 3), 22, none⟩,
    ⟨some 2, .assign (.tmp 21), 22, none⟩]
@[go_sem] def c9 : Cmd := (.seq c9_0 (.seq c9_1 (.seq (.seq c9_2 c9_9) (.seq c9_10 .ret))))
theorem b9 : Tryd.f9.body.map (comp 22) = some c9 := by kernel_rfl
theorem r9 : Tryd.f9.results.toList = [.tmp 2] := by kernel_rfl
-- 10 pith/ckpt.Load
@[go_sem] def c10_0 : Cmd := .ops [⟨some 8, .alloc 28, 0, none⟩,
    ⟨some 9, .assign (.const (.bool false)), 4, none⟩,
    ⟨some 10, .assign (.const (.int .i64 0)), 31, none⟩]
@[go_sem] def c10_1 : Cmd := .ops [⟨some 15, .move (.tmp 0), 25, none⟩,
    ⟨some 16, .call { callee := (.value (.func 25)), args := #[(.tmp 15)], argTypes := #[25] }, 4, none⟩,
    ⟨some 17, .unOp .not 4 (.tmp 16), 4, none⟩]
@[go_sem] def c10_2 : Cmd := .ops [⟨some 18, .build 28 #[], 28, none⟩,
    ⟨none, .store 28 (.tmp 8) (.tmp 18), 0, none⟩,
    ⟨some 9, .assign (.const (.bool false)), 4, none⟩,
    ⟨some 10, .assign (.const (.int .i64 81)), 31, none⟩]
@[go_sem] def c10_3 : Cmd := .cond (.tmp 17) (.seq c10_2 .ret) .skip
@[go_sem] def c10_4 : Cmd := .ops [⟨some 20, .move (.tmp 0), 25, none⟩,
    ⟨some 21, .move (.tmp 1), 3, none⟩,
    ⟨some 22, .call { callee := (.value (.func 23)), args := #[(.tmp 21)], argTypes := #[3] }, 9, none⟩,
    ⟨some 23, .call { callee := (.value (.func 18)), args := #[(.tmp 20), (.tmp 22)], argTypes := #[25, 9] }, 50, none⟩,
    ⟨some 19, .move (.tmp 23), 50, none⟩,
    ⟨some 24, .extract (.tmp 19) 0, 42, none⟩,
    ⟨some 25, .extract (.tmp 19) 1, 49, none⟩,
    ⟨some 26, .extract (.tmp 19) 2, 31, none⟩,
    ⟨some 11, .assign (.tmp 24), 42, none⟩,
    ⟨some 12, .assign (.tmp 25), 49, none⟩,
    ⟨some 13, .assign (.tmp 26), 31, none⟩]
@[go_sem] def c10_5 : Cmd := .ops [⟨some 27, .move (.tmp 13), 31, none⟩,
    ⟨some 28, .binOp .neq 31 (.tmp 27) (.const (.int .i64 0)) 31, 4, none⟩]
@[go_sem] def c10_6 : Cmd := .ops [⟨some 29, .build 28 #[], 28, none⟩,
    ⟨none, .store 28 (.tmp 8) (.tmp 29), 0, none⟩,
    ⟨some 9, .assign (.const (.bool false)), 4, none⟩,
    ⟨some 10, .assign (.const (.int .i64 0)), 31, none⟩]
@[go_sem] def c10_7 : Cmd := .cond (.tmp 28) (.seq c10_6 .ret) .skip
@[go_sem] def c10_8 : Cmd := .ops [⟨some 31, .move (.tmp 1), 3, none⟩,
    ⟨some 32, .move (.tmp 11), 42, none⟩,
    ⟨some 33, .move (.tmp 12), 49, none⟩,
    ⟨some 34, .call { callee := (.value (.func 22)), args := #[(.tmp 31), (.tmp 32), (.tmp 33)], argTypes := #[3, 42, 49] }, 56, none⟩,
    ⟨some 30, .move (.tmp 34), 56, none⟩,
    ⟨some 35, .extract (.tmp 30) 0, 28, none⟩,
    ⟨some 36, .extract (.tmp 30) 1, 31, none⟩,
    ⟨some 14, .alloc 28, 0, none⟩,
    ⟨none, .store 28 (.tmp 14) (.tmp 35), 0, none⟩,
    ⟨some 13, .assign (.tmp 36), 31, none⟩]
@[go_sem] def c10_9 : Cmd := .ops [⟨some 37, .move (.tmp 13), 31, none⟩,
    ⟨some 38, .binOp .neq 31 (.tmp 37) (.const (.int .i64 0)) 31, 4, none⟩,
    ⟨some 39, .move (.tmp 38), 4, none⟩,
    ⟨some 40, .load 28 (.tmp 14), 28, some (39, false)⟩,
    ⟨some 41, .move (.tmp 2), 22, some (39, false)⟩,
    ⟨some 42, .move (.tmp 3), 3, some (39, false)⟩,
    ⟨some 43, .call { callee := (.value (.func 26)), args := #[(.tmp 40), (.tmp 41), (.tmp 42)], argTypes := #[28, 22, 3] }, 4, some (39, false)⟩,
    ⟨some 44, .unOp .not 4 (.tmp 43), 4, some (39, false)⟩,
    ⟨some 45, .pick (.tmp 39) (.const (.bool true)) (.tmp 44), 4, none⟩]
@[go_sem] def c10_10 : Cmd := .ops [⟨some 46, .build 28 #[], 28, none⟩,
    ⟨none, .store 28 (.tmp 8) (.tmp 46), 0, none⟩,
    ⟨some 9, .assign (.const (.bool false)), 4, none⟩,
    ⟨some 10, .assign (.const (.int .i64 0)), 31, none⟩]
@[go_sem] def c10_11 : Cmd := .cond (.tmp 45) (.seq c10_10 .ret) .skip
@[go_sem] def c10_12 : Cmd := .ops [⟨some 47, .load 28 (.tmp 14), 28, none⟩,
    ⟨none, .store 28 (.tmp 8) (.tmp 47), 0, none⟩,
    ⟨some 9, .assign (.const (.bool true)), 4, none⟩,
    ⟨some 10, .assign (.const (.int .i64 0)), 31, none⟩]
@[go_sem] def c10 : Cmd := (.seq c10_0 (.seq (.seq c10_1 c10_3) (.seq c10_4 (.seq (.seq c10_5 c10_7) (.seq c10_8 (.seq (.seq c10_9 c10_11) (.seq c10_12 .ret)))))))
theorem b10 : Tryd.f10.body.map (comp 48) = some c10 := by kernel_rfl
theorem r10 : Tryd.f10.results.toList = [.cell 8 28, .tmp 9, .tmp 10] := by kernel_rfl
-- 11 pith/pithref.SameCheck
@[go_sem] def c11_0 : Cmd := .ops [⟨some 2, .box 28 (.tmp 0), 0, none⟩,
    ⟨some 3, .box 28 (.tmp 1), 0, none⟩,
    ⟨some 4, .assign (.const (.bool false)), 4, none⟩]
@[go_sem] def c11_1 : Cmd := .ops [⟨some 7, .fieldAddr 28 (.tmp 2) 1, 0, none⟩,
    ⟨some 8, .load 22 (.tmp 7), 22, none⟩,
    ⟨some 9, .fieldAddr 28 (.tmp 3) 1, 0, none⟩,
    ⟨some 10, .load 22 (.tmp 9), 22, none⟩,
    ⟨some 11, .call { callee := (.value (.func 27)), args := #[(.tmp 8), (.tmp 10)], argTypes := #[22, 22] }, 4, none⟩,
    ⟨some 5, .assign (.tmp 11), 4, none⟩]
@[go_sem] def c11_2 : Cmd := .ops [⟨some 12, .fieldAddr 28 (.tmp 2) 2, 0, none⟩,
    ⟨some 13, .load 23 (.tmp 12), 23, none⟩,
    ⟨some 14, .fieldAddr 28 (.tmp 3) 2, 0, none⟩,
    ⟨some 15, .load 23 (.tmp 14), 23, none⟩,
    ⟨some 16, .call { callee := (.value (.func 28)), args := #[(.tmp 13), (.tmp 15)], argTypes := #[23, 23] }, 4, none⟩,
    ⟨some 6, .assign (.tmp 16), 4, none⟩]
@[go_sem] def c11_3 : Cmd := .ops [⟨some 17, .move (.tmp 5), 4, none⟩,
    ⟨some 18, .move (.tmp 17), 4, none⟩,
    ⟨some 19, .move (.tmp 6), 4, some (18, true)⟩,
    ⟨some 20, .pick (.tmp 18) (.tmp 19) (.const (.bool false)), 4, none⟩,
    ⟨some 21, .move (.tmp 20), 4, none⟩,
    ⟨some 22, .fieldAddr 28 (.tmp 2) 0, 0, some (21, true)⟩,
    ⟨some 23, .load 3 (.tmp 22), 3, some (21, true)⟩,
    ⟨some 24, .fieldAddr 28 (.tmp 3) 0, 0, some (21, true)⟩,
    ⟨some 25, .load 3 (.tmp 24), 3, some (21, true)⟩,
    ⟨some 26, .binOp .eql 3 (.tmp 23) (.tmp 25) 3, 4, some (21, true)⟩,
    ⟨some 27, .pick (.tmp 21) (.tmp 26) (.const (.bool false)), 4, none⟩,
    ⟨some 4, .assign (.tmp 27), 4, none⟩]
@[go_sem] def c11 : Cmd := (.seq c11_0 (.seq c11_1 (.seq c11_2 (.seq c11_3 .ret))))
theorem b11 : Tryd.f11.body.map (comp 28) = some c11 := by kernel_rfl
theorem r11 : Tryd.f11.results.toList = [.tmp 4] := by kernel_rfl
-- 12 pith/pithlaw18.num
@[go_sem] def c12_0 : Cmd := .ops [⟨some 2, .assign (.const (.int .i64 0)), 3, none⟩]
@[go_sem] def c12_1 : Cmd := .ops [⟨some 3, .move (.tmp 0), 31, none⟩,
    ⟨some 2, .assign (.tmp 3), 3, none⟩]
@[go_sem] def c12 : Cmd := (.seq c12_0 (.seq c12_1 .ret))
theorem b12 : Tryd.f12.body.map (comp 4) = some c12 := by kernel_rfl
theorem r12 : Tryd.f12.results.toList = [.tmp 2] := by kernel_rfl
-- 13 (*pith/fs.FS).Size
@[go_sem] def c13_0 : Cmd := .ops [⟨some 4, .assign (.const (.int .i64 0)), 3, none⟩,
    ⟨some 5, .assign (.const (.int .i64 0)), 31, none⟩]
@[go_sem] def c13_1 : Cmd := .ops [⟨some 9, .move (.tmp 0), 25, none⟩,
    ⟨some 10, .move (.tmp 1), 9, none⟩,
    ⟨some 11, .call { callee := (.value (.func 29)), args := #[(.tmp 9), (.tmp 10)], argTypes := #[25, 9] }, 70, none⟩,
    ⟨some 8, .move (.tmp 11), 70, none⟩,
    ⟨some 12, .extract (.tmp 8) 0, 69, none⟩,
    ⟨some 13, .extract (.tmp 8) 1, 31, none⟩,
    ⟨some 6, .assign (.tmp 12), 69, none⟩,
    ⟨some 7, .assign (.tmp 13), 31, none⟩]
@[go_sem] def c13_2 : Cmd := .ops [⟨some 14, .move (.tmp 7), 31, none⟩,
    ⟨some 15, .binOp .neq 31 (.tmp 14) (.const (.int .i64 0)) 31, 4, none⟩]
@[go_sem] def c13_3 : Cmd := .ops [⟨some 16, .move (.tmp 7), 31, none⟩,
    ⟨some 4, .assign (.const (.int .i64 0)), 3, none⟩,
    ⟨some 5, .assign (.tmp 16), 31, none⟩]
@[go_sem] def c13_4 : Cmd := .cond (.tmp 15) (.seq c13_3 .ret) .skip
@[go_sem] def c13_5 : Cmd := .ops [⟨some 17, .move (.tmp 6), 69, none⟩,
    ⟨some 18, .nilCheck (.tmp 17), 0, none⟩,
    ⟨some 19, .fieldAddr 73 (.tmp 18) 0, 0, none⟩,
    ⟨some 20, .load 42 (.tmp 19), 42, none⟩,
    ⟨some 21, .call { callee := (.builtin .len), args := #[(.tmp 20)], argTypes := #[42] }, 3, none⟩,
    ⟨some 4, .assign (.tmp 21), 3, none⟩,
    ⟨some 5, .assign (.const (.int .i64 0)), 31, none⟩]
@[go_sem] def c13 : Cmd := (.seq c13_0 (.seq c13_1 (.seq (.seq c13_2 c13_4) (.seq c13_5 .ret))))
theorem b13 : Tryd.f13.body.map (comp 22) = some c13 := by kernel_rfl
theorem r13 : Tryd.f13.results.toList = [.tmp 4, .tmp 5] := by kernel_rfl
-- 14 (*pith/fs.FS).Read
@[go_sem] def c14_0 : Cmd := .ops [⟨some 8, .assign (.const (.slice none 0 0)), 42, none⟩,
    ⟨some 9, .assign (.const (.int .i64 0)), 31, none⟩]
@[go_sem] def c14_1 : Cmd := .ops [⟨some 13, .move (.tmp 0), 25, none⟩,
    ⟨some 14, .move (.tmp 1), 9, none⟩,
    ⟨some 15, .call { callee := (.value (.func 29)), args := #[(.tmp 13), (.tmp 14)], argTypes := #[25, 9] }, 70, none⟩,
    ⟨some 12, .move (.tmp 15), 70, none⟩,
    ⟨some 16, .extract (.tmp 12) 0, 69, none⟩,
    ⟨some 17, .extract (.tmp 12) 1, 31, none⟩,
    ⟨some 10, .assign (.tmp 16), 69, none⟩,
    ⟨some 11, .assign (.tmp 17), 31, none⟩]
@[go_sem] def c14_2 : Cmd := .ops [⟨some 18, .move (.tmp 11), 31, none⟩,
    ⟨some 19, .binOp .neq 31 (.tmp 18) (.const (.int .i64 0)) 31, 4, none⟩]
@[go_sem] def c14_3 : Cmd := .ops [⟨some 20, .move (.tmp 11), 31, none⟩,
    ⟨some 8, .assign (.const (.slice none 0 0)), 42, none⟩,
    ⟨some 9, .assign (.tmp 20), 31, none⟩]
@[go_sem] def c14_4 : Cmd := .cond (.tmp 19) (.seq c14_3 .ret) .skip
@[go_sem] def c14_5 : Cmd := .ops [⟨some 21, .move (.tmp 2), 3, none⟩,
    ⟨some 22, .binOp .lss 3 (.tmp 21) (.const (.int .i64 0)) 3, 4, none⟩,
    ⟨some 23, .move (.tmp 22), 4, none⟩,
    ⟨some 24, .move (.tmp 3), 3, some (23, false)⟩,
    ⟨some 25, .binOp .lss 3 (.tmp 24) (.const (.int .i64 0)) 3, 4, some (23, false)⟩,
    ⟨some 26, .pick (.tmp 23) (.const (.bool true)) (.tmp 25), 4, none⟩]
@[go_sem] def c14_6 : Cmd := .ops [⟨some 8, .assign (.const (.slice none 0 0)), 42, none⟩,
    ⟨some 9, .assign (.const (.int .i64 85)), 31, none⟩]
@[go_sem] def c14_7 : Cmd := .cond (.tmp 26) (.seq c14_6 .ret) .skip
@[go_sem] def c14_8 : Cmd := .ops [⟨some 27, .move (.tmp 2), 3, none⟩,
    ⟨some 28, .move (.tmp 10), 69, none⟩,
    ⟨some 29, .nilCheck (.tmp 28), 0, none⟩,
    ⟨some 30, .fieldAddr 73 (.tmp 29) 0, 0, none⟩,
    ⟨some 31, .load 42 (.tmp 30), 42, none⟩,
    ⟨some 32, .call { callee := (.builtin .len), args := #[(.tmp 31)], argTypes := #[42] }, 3, none⟩,
    ⟨some 33, .call { callee := (.builtin .min), args := #[(.tmp 27), (.tmp 32)], argTypes := #[3, 3] }, 3, none⟩,
    ⟨some 2, .assign (.tmp 33), 3, none⟩]
@[go_sem] def c14_9 : Cmd := .still 16 [⟨some 34, .move (.tmp 10), 69, none⟩,
    ⟨some 35, .nilCheck (.tmp 34), 0, none⟩,
    ⟨some 36, .fieldAddr 73 (.tmp 35) 0, 0, none⟩,
    ⟨some 37, .load 42 (.tmp 36), 42, none⟩,
    ⟨some 38, .move (.tmp 2), 3, none⟩,
    ⟨some 39, .move (.tmp 2), 3, none⟩,
    ⟨some 40, .move (.tmp 3), 3, none⟩,
    ⟨some 41, .move (.tmp 10), 69, none⟩,
    ⟨some 42, .nilCheck (.tmp 41), 0, none⟩,
    ⟨some 43, .fieldAddr 73 (.tmp 42) 0, 0, none⟩,
    ⟨some 44, .load 42 (.tmp 43), 42, none⟩,
    ⟨some 45, .call { callee := (.builtin .len), args := #[(.tmp 44)], argTypes := #[42] }, 3, none⟩,
    ⟨some 46, .move (.tmp 2), 3, none⟩,
    ⟨some 47, .binOp .sub 3 (.tmp 45) (.tmp 46) 3, 3, none⟩,
    ⟨some 48, .call { callee := (.builtin .min), args := #[(.tmp 40), (.tmp 47)], argTypes := #[3, 3] }, 3, none⟩,
    ⟨some 49, .binOp .add 3 (.tmp 39) (.tmp 48) 3, 3, none⟩,
    ⟨some 50, .slice 42 (.tmp 37) (some (.tmp 38)) (some (.tmp 49)) none, 42, none⟩,
    ⟨some 51, .call { callee := (.value (.func 30)), args := #[(.tmp 50)], argTypes := #[42] }, 42, none⟩,
    ⟨some 8, .assign (.tmp 51), 42, none⟩,
    ⟨some 9, .assign (.const (.int .i64 0)), 31, none⟩]
@[go_sem] def c14 : Cmd := (.seq c14_0 (.seq c14_1 (.seq (.seq c14_2 c14_4) (.seq (.seq c14_5 c14_7) (.seq c14_8 (.seq c14_9 .ret))))))
theorem b14 : Tryd.f14.body.map (comp 52) = some c14 := by kernel_rfl
theorem r14 : Tryd.f14.results.toList = [.tmp 8, .tmp 9] := by kernel_rfl
-- 15 (*pith/fs.FS).Create
@[go_sem] def c15_0 : Cmd := .ops [⟨some 4, .assign (.const (.int .i64 0)), 31, none⟩]
@[go_sem] def c15_1 : Cmd := .ops [⟨some 7, .move (.tmp 0), 25, none⟩,
    ⟨some 8, .move (.tmp 1), 9, none⟩,
    ⟨some 9, .buildSlice 106 1 #[(0, (.tmp 8))], 106, none⟩,
    ⟨some 10, .call { callee := (.value (.func 31)), args := #[(.tmp 7), (.tmp 9)], argTypes := #[25, 106] }, 31, none⟩,
    ⟨some 5, .assign (.tmp 10), 31, none⟩]
@[go_sem] def c15_2 : Cmd := .ops [⟨some 11, .move (.tmp 5), 31, none⟩,
    ⟨some 12, .binOp .neq 31 (.tmp 11) (.const (.int .i64 0)) 31, 4, none⟩]
@[go_sem] def c15_3 : Cmd := .ops [⟨some 13, .move (.tmp 5), 31, none⟩,
    ⟨some 4, .assign (.tmp 13), 31, none⟩]
@[go_sem] def c15_4 : Cmd := .cond (.tmp 12) (.seq c15_3 .ret) .skip
@[go_sem] def c15_5 : Cmd := .ops [⟨some 14, .move (.tmp 0), 25, none⟩,
    ⟨some 15, .nilCheck (.tmp 14), 0, none⟩,
    ⟨some 16, .fieldAddr 64 (.tmp 15) 1, 0, none⟩,
    ⟨some 17, .load 60 (.tmp 16), 60, none⟩,
    ⟨some 18, .move (.tmp 1), 9, none⟩,
    ⟨some 19, .lookup 60 (.tmp 17) (.tmp 18) false, 69, none⟩,
    ⟨some 20, .binOp .neq 69 (.tmp 19) (.const (.pointer none)) 69, 4, none⟩]
@[go_sem] def c15_6 : Cmd := .ops [⟨some 4, .assign (.const (.int .i64 83)), 31, none⟩]
@[go_sem] def c15_7 : Cmd := .cond (.tmp 20) (.seq c15_6 .ret) .skip
@[go_sem] def c15_8 : Cmd := .ops [⟨some 21, .build 73 #[], 73, none⟩,
    ⟨some 22, .box 73 (.tmp 21), 69, none⟩,
    ⟨some 6, .assign (.tmp 22), 69, none⟩]
@[go_sem] def c15_9 : Cmd := .ops [⟨some 23, .move (.tmp 0), 25, none⟩,
    ⟨some 24, .nilCheck (.tmp 23), 0, none⟩,
    ⟨some 25, .fieldAddr 64 (.tmp 24) 4, 0, none⟩,
    ⟨some 26, .load 61 (.tmp 25), 61, none⟩,
    ⟨some 27, .move (.tmp 6), 69, none⟩,
    ⟨none, .mapUpdate 61 (.tmp 26) (.tmp 27) (.const (.bool true)), 0, none⟩]
@[go_sem] def c15_10 : Cmd := .ops [⟨some 28, .move (.tmp 0), 25, none⟩,
    ⟨some 29, .move (.tmp 6), 69, none⟩,
    ⟨some 30, .move (.tmp 1), 9, none⟩,
    ⟨some 31, .call { callee := (.value (.func 32)), args := #[(.tmp 28), (.tmp 29), (.tmp 30)], argTypes := #[25, 69, 9] }, 31, none⟩,
    ⟨some 4, .assign (.tmp 31), 31, none⟩]
@[go_sem] def c15 : Cmd := (.seq c15_0 (.seq (.seq c15_1 (.seq c15_2 c15_4)) (.seq (.seq c15_5 c15_7) (.seq c15_8 (.seq c15_9 (.seq c15_10 .ret))))))
theorem b15 : Tryd.f15.body.map (comp 32) = some c15 := by kernel_rfl
theorem r15 : Tryd.f15.results.toList = [.tmp 4] := by kernel_rfl
-- 16 (*pith/fs.FS).Append
@[go_sem] def c16_0 : Cmd := .ops [⟨some 6, .assign (.const (.int .i64 0)), 31, none⟩]
@[go_sem] def c16_1 : Cmd := .ops [⟨some 10, .move (.tmp 0), 25, none⟩,
    ⟨some 11, .move (.tmp 1), 9, none⟩,
    ⟨some 12, .call { callee := (.value (.func 29)), args := #[(.tmp 10), (.tmp 11)], argTypes := #[25, 9] }, 70, none⟩,
    ⟨some 9, .move (.tmp 12), 70, none⟩,
    ⟨some 13, .extract (.tmp 9) 0, 69, none⟩,
    ⟨some 14, .extract (.tmp 9) 1, 31, none⟩,
    ⟨some 7, .assign (.tmp 13), 69, none⟩,
    ⟨some 8, .assign (.tmp 14), 31, none⟩]
@[go_sem] def c16_2 : Cmd := .ops [⟨some 15, .move (.tmp 8), 31, none⟩,
    ⟨some 16, .binOp .neq 31 (.tmp 15) (.const (.int .i64 0)) 31, 4, none⟩]
@[go_sem] def c16_3 : Cmd := .ops [⟨some 17, .move (.tmp 8), 31, none⟩,
    ⟨some 6, .assign (.tmp 17), 31, none⟩]
@[go_sem] def c16_4 : Cmd := .cond (.tmp 16) (.seq c16_3 .ret) .skip
@[go_sem] def c16_5 : Cmd := .draw (.step 3 ⟨some 18, .move (.tmp 2), 42, none⟩
    (.step 3 ⟨some 19, .call { callee := (.builtin .len), args := #[(.tmp 18)], argTypes := #[42] }, 3, none⟩
    (.step 3 ⟨some 20, .move (.tmp 0), 25, none⟩
    (.step 3 ⟨some 21, .nilCheck (.tmp 20), 0, none⟩
    (.step 3 ⟨some 22, .fieldAddr 64 (.tmp 21) 0, 0, none⟩
    (.step 0 ⟨some 23, .load 3 (.tmp 22), 3, none⟩
    (.step 3 ⟨some 24, .move (.tmp 0), 25, none⟩
    (.step 1 ⟨some 25, .call { callee := (.value (.func 33)), args := #[(.tmp 24)], argTypes := #[25] }, 3, none⟩
    (.step 3 ⟨some 26, .binOp .sub 3 (.tmp 23) (.tmp 25) 3, 3, none⟩
    (.step 3 ⟨some 27, .binOp .gtr 3 (.tmp 19) (.tmp 26) 3, 4, none⟩
    .done))))))))))
@[go_sem] def c16_6 : Cmd := .ops [⟨some 6, .assign (.const (.int .i64 80)), 31, none⟩]
@[go_sem] def c16_7 : Cmd := .cond (.tmp 27) (.seq c16_6 .ret) .skip
@[go_sem] def c16_8 : Cmd := .ops [⟨some 28, .move (.tmp 7), 69, none⟩,
    ⟨some 29, .move (.tmp 7), 69, none⟩,
    ⟨some 30, .nilCheck (.tmp 29), 0, none⟩,
    ⟨some 31, .fieldAddr 73 (.tmp 30) 0, 0, none⟩,
    ⟨some 32, .load 42 (.tmp 31), 42, none⟩,
    ⟨some 33, .move (.tmp 2), 42, none⟩,
    ⟨some 34, .call { callee := (.builtin .append), args := #[(.tmp 32), (.tmp 33)], argTypes := #[42, 42] }, 42, none⟩,
    ⟨some 35, .nilCheck (.tmp 28), 0, none⟩,
    ⟨some 36, .fieldAddr 73 (.tmp 35) 0, 0, none⟩,
    ⟨none, .store 42 (.tmp 36) (.tmp 34), 0, none⟩]
@[go_sem] def c16_9 : Cmd := .ops [⟨some 37, .move (.tmp 0), 25, none⟩,
    ⟨some 38, .call { callee := (.value (.func 34)), args := #[(.tmp 37)], argTypes := #[25] }, 31, none⟩,
    ⟨some 6, .assign (.tmp 38), 31, none⟩]
@[go_sem] def c16 : Cmd := (.seq c16_0 (.seq c16_1 (.seq (.seq c16_2 c16_4) (.seq (.seq c16_5 c16_7) (.seq c16_8 (.seq c16_9 .ret))))))
theorem b16 : Tryd.f16.body.map (comp 39) = some c16 := by kernel_rfl
theorem r16 : Tryd.f16.results.toList = [.tmp 6] := by kernel_rfl
-- 17 (*pith/fs.FS).Rot
@[go_sem] def c17_0 : Cmd := .ops [⟨some 8, .assign (.const (.int .i64 0)), 31, none⟩]
@[go_sem] def c17_1 : Cmd := .ops [⟨some 10, .move (.tmp 1), 9, none⟩,
    ⟨some 11, .call { callee := (.value (.func 35)), args := #[(.tmp 10)], argTypes := #[9] }, 4, none⟩,
    ⟨some 12, .unOp .not 4 (.tmp 11), 4, none⟩]
@[go_sem] def c17_2 : Cmd := .ops [⟨some 8, .assign (.const (.int .i64 84)), 31, none⟩]
@[go_sem] def c17_3 : Cmd := .cond (.tmp 12) (.seq c17_2 .ret) .skip
@[go_sem] def c17_4 : Cmd := .ops [⟨some 13, .move (.tmp 0), 25, none⟩,
    ⟨some 14, .nilCheck (.tmp 13), 0, none⟩,
    ⟨some 15, .fieldAddr 64 (.tmp 14) 1, 0, none⟩,
    ⟨some 16, .load 60 (.tmp 15), 60, none⟩,
    ⟨some 17, .move (.tmp 1), 9, none⟩,
    ⟨some 18, .lookup 60 (.tmp 16) (.tmp 17) false, 69, none⟩,
    ⟨some 9, .assign (.tmp 18), 69, none⟩]
@[go_sem] def c17_5 : Cmd := .ops [⟨some 20, .move (.tmp 9), 69, none⟩,
    ⟨some 21, .binOp .eql 69 (.tmp 20) (.const (.pointer none)) 69, 4, none⟩,
    ⟨some 19, .assign (.tmp 21), 4, none⟩]
@[go_sem] def c17_6 : Cmd := .ops [⟨some 8, .assign (.const (.int .i64 82)), 31, none⟩]
@[go_sem] def c17_7 : Cmd := .ops [⟨some 23, .move (.tmp 2), 3, none⟩,
    ⟨some 24, .binOp .lss 3 (.tmp 23) (.const (.int .i64 0)) 3, 4, none⟩,
    ⟨some 25, .move (.tmp 24), 4, none⟩,
    ⟨some 26, .move (.tmp 2), 3, some (25, false)⟩,
    ⟨some 27, .move (.tmp 9), 69, some (25, false)⟩,
    ⟨some 28, .nilCheck (.tmp 27), 0, some (25, false)⟩,
    ⟨some 29, .fieldAddr 73 (.tmp 28) 0, 0, some (25, false)⟩,
    ⟨some 30, .load 42 (.tmp 29), 42, some (25, false)⟩,
    ⟨some 31, .call { callee := (.builtin .len), args := #[(.tmp 30)], argTypes := #[42] }, 3, some (25, false)⟩,
    ⟨some 32, .binOp .geq 3 (.tmp 26) (.tmp 31) 3, 4, some (25, false)⟩,
    ⟨some 33, .pick (.tmp 25) (.const (.bool true)) (.tmp 32), 4, none⟩,
    ⟨some 34, .move (.tmp 33), 4, none⟩,
    ⟨some 35, .move (.tmp 3), 3, some (34, false)⟩,
    ⟨some 36, .binOp .lss 3 (.tmp 35) (.const (.int .i64 1)) 3, 4, some (34, false)⟩,
    ⟨some 37, .pick (.tmp 34) (.const (.bool true)) (.tmp 36), 4, none⟩,
    ⟨some 38, .move (.tmp 37), 4, none⟩,
    ⟨some 39, .move (.tmp 3), 3, some (38, false)⟩,
    ⟨some 40, .binOp .gtr 3 (.tmp 39) (.const (.int .i64 255)) 3, 4, some (38, false)⟩,
    ⟨some 41, .pick (.tmp 38) (.const (.bool true)) (.tmp 40), 4, none⟩,
    ⟨some 22, .assign (.tmp 41), 4, none⟩]
@[go_sem] def c17_8 : Cmd := .ops [⟨some 8, .assign (.const (.int .i64 85)), 31, none⟩]
@[go_sem] def c17_9 : Cmd := .cond (.tmp 22) (.seq c17_8 .ret) .skip
@[go_sem] def c17_10 : Cmd := .cond (.tmp 19) (.seq c17_6 .ret) (.seq c17_7 c17_9)
@[go_sem] def c17_11 : Cmd := .block 0 (.seq c17_5 c17_10)
@[go_sem] def c17_12 : Cmd := .ops [⟨some 42, .move (.tmp 9), 69, none⟩,
    ⟨some 43, .nilCheck (.tmp 42), 0, none⟩,
    ⟨some 44, .fieldAddr 73 (.tmp 43) 0, 0, none⟩,
    ⟨some 45, .load 42 (.tmp 44), 42, none⟩,
    ⟨some 46, .move (.tmp 2), 3, none⟩,
    ⟨some 47, .indexAddr 42 (.tmp 45) (.tmp 46), 0, none⟩,
    ⟨some 48, .load 5 (.tmp 47), 5, none⟩,
    ⟨some 49, .move (.tmp 3), 3, none⟩,
    ⟨some 50, .convert 3 5 (.tmp 49), 5, none⟩,
    ⟨some 51, .binOp .xor 5 (.tmp 48) (.tmp 50) 5, 5, none⟩,
    ⟨some 52, .indexAddr 42 (.tmp 45) (.tmp 46), 0, none⟩,
    ⟨none, .store 5 (.tmp 52) (.tmp 51), 0, none⟩]
@[go_sem] def c17_13 : Cmd := .ops [⟨some 8, .assign (.const (.int .i64 0)), 31, none⟩]
@[go_sem] def c17 : Cmd := (.seq c17_0 (.seq (.seq c17_1 c17_3) (.seq c17_4 (.seq c17_11 (.seq c17_12 (.seq c17_13 .ret))))))
theorem b17 : Tryd.f17.body.map (comp 53) = some c17 := by kernel_rfl
theorem r17 : Tryd.f17.results.toList = [.tmp 8] := by kernel_rfl
-- 18 pith/files.Load
@[go_sem] def c18_0 : Cmd := .ops [⟨some 4, .alloc 42, 0, none⟩,
    ⟨some 5, .alloc 49, 0, none⟩,
    ⟨some 6, .alloc 31, 0, none⟩]
@[go_sem] def c18_1 : Cmd := .ops [⟨some 14, .move (.tmp 0), 25, none⟩,
    ⟨some 15, .move (.tmp 1), 9, none⟩,
    ⟨some 16, .call { callee := (.value (.func 36)), args := #[(.tmp 14), (.tmp 15)], argTypes := #[25, 9] }, 81, none⟩,
    ⟨some 13, .move (.tmp 16), 81, none⟩,
    ⟨some 17, .extract (.tmp 13) 0, 80, none⟩,
    ⟨some 18, .extract (.tmp 13) 1, 42, none⟩,
    ⟨some 19, .extract (.tmp 13) 2, 31, none⟩,
    ⟨some 7, .assign (.tmp 17), 80, none⟩,
    ⟨some 8, .assign (.tmp 18), 42, none⟩,
    ⟨some 9, .assign (.tmp 19), 31, none⟩]
@[go_sem] def c18_2 : Cmd := .ops [⟨some 20, .move (.tmp 9), 31, none⟩,
    ⟨some 21, .binOp .neq 31 (.tmp 20) (.const (.int .i64 0)) 31, 4, none⟩]
@[go_sem] def c18_3 : Cmd := .ops [⟨some 22, .move (.tmp 9), 31, none⟩,
    ⟨none, .store 42 (.tmp 4) (.const (.slice none 0 0)), 0, none⟩,
    ⟨none, .store 49 (.tmp 5) (.const (.slice none 0 0)), 0, none⟩,
    ⟨none, .store 31 (.tmp 6) (.tmp 22), 0, none⟩]
@[go_sem] def c18_4 : Cmd := .cond (.tmp 21) (.seq c18_3 .ret) .skip
@[go_sem] def c18_5 : Cmd := .ops [⟨some 10, .alloc 49, 0, none⟩]
@[go_sem] def c18_6 : Cmd := .ops [⟨some 23, .move (.tmp 7), 80, none⟩,
    ⟨some 24, .call { callee := (.value (.func 37)), args := #[(.tmp 23)], argTypes := #[80] }, 84, none⟩]
@[go_sem] def c18_7 : Cmd := .ops [⟨some 11, .assign (.tmp 25), 42, none⟩]
@[go_sem] def c18_8 : Cmd := .ops [⟨some 12, .assign (.tmp 26), 31, none⟩]
def c18_L0 : Cmd := (.seq c18_7 c18_8)
@[go_sem] def c18_9 : Cmd := .ops [⟨some 27, .move (.tmp 12), 31, none⟩,
    ⟨some 28, .binOp .neq 31 (.tmp 27) (.const (.int .i64 0)) 31, 4, none⟩]
@[go_sem] def c18_10 : Cmd := .ops [⟨some 29, .move (.tmp 12), 31, none⟩,
    ⟨none, .store 42 (.tmp 4) (.const (.slice none 0 0)), 0, none⟩,
    ⟨none, .store 49 (.tmp 5) (.const (.slice none 0 0)), 0, none⟩,
    ⟨none, .store 31 (.tmp 6) (.tmp 29), 0, none⟩]
@[go_sem] def c18_11 : Cmd := .cond (.tmp 28) (.seq c18_10 .ret) .skip
@[go_sem] def c18_12 : Cmd := .ops [⟨some 30, .load 49 (.tmp 10), 49, none⟩,
    ⟨some 31, .move (.tmp 11), 42, none⟩,
    ⟨some 32, .buildSlice 49 1 #[(0, (.tmp 31))], 49, none⟩,
    ⟨some 33, .call { callee := (.builtin .append), args := #[(.tmp 30), (.tmp 32)], argTypes := #[49, 49] }, 49, none⟩,
    ⟨none, .store 49 (.tmp 10) (.tmp 33), 0, none⟩]
@[go_sem] def c18_13 : Cmd := .block 1 (.seq (.seq c18_9 c18_11) c18_12)
def c18_L1 : Cmd := c18_13
@[go_sem] def c18_14 : Cmd := .rangeF (.tmp 24) #[25, 26] c18_L0 c18_L1
@[go_sem] def c18_15 : Cmd := .block 0 c18_14
@[go_sem] def c18_16 : Cmd := .drawn (.step 3 ⟨some 34, .move (.tmp 8), 42, none⟩
    (.step 0 ⟨some 35, .load 49 (.tmp 10), 49, none⟩
    (.step 1 ⟨none, .store 42 (.tmp 4) (.tmp 34), 0, none⟩
    (.step 1 ⟨none, .store 49 (.tmp 5) (.tmp 35), 0, none⟩
    (.step 1 ⟨none, .store 31 (.tmp 6) (.const (.int .i64 0)), 0, none⟩
    .done)))))
@[go_sem] def c18 : Cmd := (.seq c18_0 (.seq c18_1 (.seq (.seq c18_2 c18_4) (.seq c18_5 (.seq (.seq c18_6 c18_15) (.seq c18_16 .ret))))))
theorem b18 : Tryd.f18.body.map (comp 36) = some c18 := by kernel_rfl
theorem r18 : Tryd.f18.results.toList = [.cell 4 42, .cell 5 49, .cell 6 31] := by kernel_rfl
-- 19 pith/ckpt.Encode
@[go_sem] def c19_0 : Cmd := .ops [⟨some 3, .box 28 (.tmp 1), 0, none⟩,
    ⟨some 4, .assign (.const (.slice none 0 0)), 42, none⟩,
    ⟨some 5, .assign (.const (.slice none 0 0)), 49, none⟩,
    ⟨some 6, .assign (.const (.int .i64 0)), 31, none⟩]
@[go_sem] def c19_1 : Cmd := .ops [⟨some 17, .move (.tmp 0), 3, none⟩,
    ⟨some 18, .load 28 (.tmp 3), 28, none⟩,
    ⟨some 19, .call { callee := (.value (.func 38)), args := #[(.tmp 17), (.tmp 18)], argTypes := #[3, 28] }, 4, none⟩,
    ⟨some 20, .unOp .not 4 (.tmp 19), 4, none⟩]
@[go_sem] def c19_2 : Cmd := .ops [⟨some 4, .assign (.const (.slice none 0 0)), 42, none⟩,
    ⟨some 5, .assign (.const (.slice none 0 0)), 49, none⟩,
    ⟨some 6, .assign (.const (.int .i64 180)), 31, none⟩]
@[go_sem] def c19_3 : Cmd := .cond (.tmp 20) (.seq c19_2 .ret) .skip
@[go_sem] def c19_4 : Cmd := .ops [⟨some 7, .assign (.const (.slice none 0 0)), 49, none⟩]
@[go_sem] def c19_5 : Cmd := .ops [⟨some 21, .fieldAddr 28 (.tmp 3) 1, 0, none⟩,
    ⟨some 22, .load 22 (.tmp 21), 22, none⟩,
    ⟨some 8, .assign (.tmp 22), 22, none⟩]
@[go_sem] def c19_6 : Cmd := .ops [⟨some 23, .move (.tmp 8), 22, none⟩,
    ⟨some 24, .call { callee := (.builtin .len), args := #[(.tmp 23)], argTypes := #[22] }, 3, none⟩,
    ⟨some 25, .binOp .gtr 3 (.tmp 24) (.const (.int .i64 0)) 3, 4, none⟩]
@[go_sem] def c19_7 : Cmd := .cond (.tmp 25) .skip (.exit 0)
@[go_sem] def c19_8 : Cmd := .ops [⟨some 26, .move (.tmp 8), 22, none⟩,
    ⟨some 27, .call { callee := (.builtin .len), args := #[(.tmp 26)], argTypes := #[22] }, 3, none⟩,
    ⟨some 28, .call { callee := (.builtin .min), args := #[(.tmp 27), (.const (.int .i64 200))], argTypes := #[3, 3] }, 3, none⟩,
    ⟨some 9, .assign (.tmp 28), 3, none⟩]
@[go_sem] def c19_9 : Cmd := .ops [⟨some 29, .move (.tmp 8), 22, none⟩,
    ⟨some 30, .move (.tmp 9), 3, none⟩,
    ⟨some 31, .move (.tmp 9), 3, none⟩,
    ⟨some 32, .slice 22 (.tmp 29) none (some (.tmp 30)) (some (.tmp 31)), 22, none⟩,
    ⟨some 10, .assign (.tmp 32), 22, none⟩]
@[go_sem] def c19_10 : Cmd := .ops [⟨some 33, .move (.tmp 8), 22, none⟩,
    ⟨some 34, .move (.tmp 9), 3, none⟩,
    ⟨some 35, .slice 22 (.tmp 33) (some (.tmp 34)) none none, 22, none⟩,
    ⟨some 8, .assign (.tmp 35), 22, none⟩]
@[go_sem] def c19_11 : Cmd := .ops [⟨some 11, .assign (.const (.slice none 0 0)), 42, none⟩]
@[go_sem] def c19_12 : Cmd := .ops [⟨some 36, .move (.tmp 10), 22, none⟩,
    ⟨some 37, .call { callee := (.builtin .len), args := #[(.tmp 36)], argTypes := #[22] }, 3, none⟩,
    ⟨some 38, .move (.const (.int .i64 0)), 3, none⟩]
@[go_sem] def c19_13 : Cmd := .ops [⟨some 39, .binOp .lss 3 (.tmp 38) (.tmp 37) 3, 0, none⟩]
@[go_sem] def c19_14 : Cmd := .cond (.tmp 39) .skip (.exit 2)
@[go_sem] def c19_15 : Cmd := .ops [⟨some 40, .indexAddr 22 (.tmp 36) (.tmp 38), 0, none⟩,
    ⟨some 41, .load 3 (.tmp 40), 3, none⟩,
    ⟨some 13, .assign (.tmp 41), 3, none⟩]
@[go_sem] def c19_16 : Cmd := .ops [⟨some 42, .move (.tmp 11), 42, none⟩,
    ⟨some 43, .move (.tmp 13), 3, none⟩,
    ⟨some 44, .call { callee := (.value (.func 39)), args := #[(.const (.slice none 0 0)), (.tmp 43)], argTypes := #[42, 3] }, 42, none⟩,
    ⟨some 45, .call { callee := (.builtin .append), args := #[(.tmp 42), (.tmp 44)], argTypes := #[42, 42] }, 42, none⟩,
    ⟨some 11, .assign (.tmp 45), 42, none⟩]
@[go_sem] def c19_17 : Cmd := .block 3 (.seq c19_15 c19_16)
@[go_sem] def c19_18 : Cmd := .ops [⟨some 46, .binOp .add 3 (.tmp 38) (.const (.int .i64 1)) 3, 3, none⟩,
    ⟨some 38, .move (.tmp 46), 3, none⟩]
def c19_L0 : Cmd := (.seq c19_13 (.seq c19_14 (.seq c19_17 c19_18)))
@[go_sem] def c19_19 : Cmd := .loop c19_L0
@[go_sem] def c19_20 : Cmd := .block 2 c19_19
@[go_sem] def c19_21 : Cmd := .ops [⟨some 47, .move (.tmp 7), 49, none⟩,
    ⟨some 48, .move (.tmp 11), 42, none⟩,
    ⟨some 49, .buildSlice 49 1 #[(0, (.tmp 48))], 49, none⟩,
    ⟨some 50, .call { callee := (.builtin .append), args := #[(.tmp 47), (.tmp 49)], argTypes := #[49, 49] }, 49, none⟩,
    ⟨some 7, .assign (.tmp 50), 49, none⟩]
@[go_sem] def c19_22 : Cmd := .block 1 (.seq c19_8 (.seq c19_9 (.seq c19_10 (.seq c19_11 (.seq (.seq c19_12 c19_20) c19_21)))))
def c19_L1 : Cmd := (.seq (.seq c19_6 c19_7) c19_22)
@[go_sem] def c19_23 : Cmd := .loop c19_L1
@[go_sem] def c19_24 : Cmd := .block 0 c19_23
@[go_sem] def c19_25 : Cmd := .ops [⟨some 51, .fieldAddr 28 (.tmp 3) 2, 0, none⟩,
    ⟨some 52, .load 23 (.tmp 51), 23, none⟩,
    ⟨some 53, .call { callee := (.builtin .len), args := #[(.tmp 52)], argTypes := #[23] }, 3, none⟩,
    ⟨some 54, .binOp .gtr 3 (.tmp 53) (.const (.int .i64 0)) 3, 4, none⟩]
@[go_sem] def c19_26 : Cmd := .ops [⟨some 55, .fieldAddr 28 (.tmp 3) 2, 0, none⟩,
    ⟨some 56, .load 23 (.tmp 55), 23, none⟩,
    ⟨some 57, .call { callee := (.builtin .len), args := #[(.tmp 56)], argTypes := #[23] }, 3, none⟩,
    ⟨some 58, .makeSlice 42 (.tmp 57) (.tmp 57), 42, none⟩,
    ⟨some 14, .assign (.tmp 58), 42, none⟩]
@[go_sem] def c19_27 : Cmd := .ops [⟨some 59, .fieldAddr 28 (.tmp 3) 2, 0, none⟩,
    ⟨some 60, .load 23 (.tmp 59), 23, none⟩,
    ⟨some 61, .call { callee := (.builtin .len), args := #[(.tmp 60)], argTypes := #[23] }, 3, none⟩,
    ⟨some 62, .move (.const (.int .i64 0)), 3, none⟩]
@[go_sem] def c19_28 : Cmd := .ops [⟨some 63, .binOp .lss 3 (.tmp 62) (.tmp 61) 3, 0, none⟩]
@[go_sem] def c19_29 : Cmd := .cond (.tmp 63) .skip (.exit 4)
@[go_sem] def c19_30 : Cmd := .ops [⟨some 64, .move (.tmp 62), 3, none⟩,
    ⟨some 65, .indexAddr 23 (.tmp 60) (.tmp 62), 0, none⟩,
    ⟨some 66, .load 4 (.tmp 65), 4, none⟩,
    ⟨some 15, .assign (.tmp 64), 3, none⟩,
    ⟨some 16, .assign (.tmp 66), 4, none⟩]
@[go_sem] def c19_31 : Cmd := .ops [⟨some 67, .move (.tmp 16), 4, none⟩]
@[go_sem] def c19_32 : Cmd := .ops [⟨some 68, .move (.tmp 14), 42, none⟩,
    ⟨some 69, .move (.tmp 15), 3, none⟩,
    ⟨some 70, .indexAddr 42 (.tmp 68) (.tmp 69), 0, none⟩,
    ⟨none, .store 5 (.tmp 70) (.const (.int .u8 1)), 0, none⟩]
@[go_sem] def c19_33 : Cmd := .cond (.tmp 67) c19_32 .skip
@[go_sem] def c19_34 : Cmd := .block 5 (.seq c19_30 (.seq c19_31 c19_33))
@[go_sem] def c19_35 : Cmd := .ops [⟨some 71, .binOp .add 3 (.tmp 62) (.const (.int .i64 1)) 3, 3, none⟩,
    ⟨some 62, .move (.tmp 71), 3, none⟩]
def c19_L2 : Cmd := (.seq c19_28 (.seq c19_29 (.seq c19_34 c19_35)))
@[go_sem] def c19_36 : Cmd := .loop c19_L2
@[go_sem] def c19_37 : Cmd := .block 4 c19_36
@[go_sem] def c19_38 : Cmd := .ops [⟨some 72, .move (.tmp 7), 49, none⟩,
    ⟨some 73, .move (.tmp 14), 42, none⟩,
    ⟨some 74, .buildSlice 49 1 #[(0, (.tmp 73))], 49, none⟩,
    ⟨some 75, .call { callee := (.builtin .append), args := #[(.tmp 72), (.tmp 74)], argTypes := #[49, 49] }, 49, none⟩,
    ⟨some 7, .assign (.tmp 75), 49, none⟩]
@[go_sem] def c19_39 : Cmd := .cond (.tmp 54) (.seq c19_26 (.seq (.seq c19_27 c19_37) c19_38)) .skip
@[go_sem] def c19_40 : Cmd := .ops [⟨some 76, .move (.tmp 0), 3, none⟩,
    ⟨some 77, .fieldAddr 28 (.tmp 3) 0, 0, none⟩,
    ⟨some 78, .load 3 (.tmp 77), 3, none⟩,
    ⟨some 79, .fieldAddr 28 (.tmp 3) 1, 0, none⟩,
    ⟨some 80, .load 22 (.tmp 79), 22, none⟩,
    ⟨some 81, .call { callee := (.builtin .len), args := #[(.tmp 80)], argTypes := #[22] }, 3, none⟩,
    ⟨some 82, .fieldAddr 28 (.tmp 3) 2, 0, none⟩,
    ⟨some 83, .load 23 (.tmp 82), 23, none⟩,
    ⟨some 84, .call { callee := (.builtin .len), args := #[(.tmp 83)], argTypes := #[23] }, 3, none⟩,
    ⟨some 85, .build 89 #[(0, (.tmp 76)), (1, (.tmp 78)), (2, (.tmp 81)), (3, (.tmp 84))], 89, none⟩,
    ⟨some 86, .call { callee := (.value (.func 40)), args := #[(.tmp 85)], argTypes := #[89] }, 42, none⟩,
    ⟨some 87, .move (.tmp 7), 49, none⟩,
    ⟨some 4, .assign (.tmp 86), 42, none⟩,
    ⟨some 5, .assign (.tmp 87), 49, none⟩,
    ⟨some 6, .assign (.const (.int .i64 0)), 31, none⟩]
@[go_sem] def c19 : Cmd := (.seq c19_0 (.seq (.seq c19_1 c19_3) (.seq c19_4 (.seq (.seq c19_5 c19_24) (.seq (.seq c19_25 c19_39) (.seq c19_40 .ret))))))
theorem b19 : Tryd.f19.body.map (comp 88) = some c19 := by kernel_rfl
theorem r19 : Tryd.f19.results.toList = [.tmp 4, .tmp 5, .tmp 6] := by kernel_rfl
-- 20 pith/pithref.SameBytes
@[go_sem] def c20_0 : Cmd := .ops [⟨some 4, .assign (.const (.bool false)), 4, none⟩]
@[go_sem] def c20_1 : Cmd := .ops [⟨some 5, .move (.tmp 0), 42, none⟩,
    ⟨some 6, .convert 42 9 (.tmp 5), 9, none⟩,
    ⟨some 7, .move (.tmp 1), 42, none⟩,
    ⟨some 8, .convert 42 9 (.tmp 7), 9, none⟩,
    ⟨some 9, .binOp .eql 9 (.tmp 6) (.tmp 8) 9, 4, none⟩,
    ⟨some 4, .assign (.tmp 9), 4, none⟩]
@[go_sem] def c20 : Cmd := (.seq c20_0 (.seq c20_1 .ret))
theorem b20 : Tryd.f20.body.map (comp 10) = some c20 := by kernel_rfl
theorem r20 : Tryd.f20.results.toList = [.tmp 4] := by kernel_rfl
-- 21 pith/pithref.SameByteLists
@[go_sem] def c21_0 : Cmd := .ops [⟨some 4, .assign (.const (.bool false)), 4, none⟩]
@[go_sem] def c21_1 : Cmd := .ops [⟨some 7, .move (.tmp 0), 49, none⟩,
    ⟨some 8, .call { callee := (.builtin .len), args := #[(.tmp 7)], argTypes := #[49] }, 3, none⟩,
    ⟨some 9, .move (.tmp 1), 49, none⟩,
    ⟨some 10, .call { callee := (.builtin .len), args := #[(.tmp 9)], argTypes := #[49] }, 3, none⟩,
    ⟨some 11, .binOp .neq 3 (.tmp 8) (.tmp 10) 3, 4, none⟩]
@[go_sem] def c21_2 : Cmd := .ops [⟨some 4, .assign (.const (.bool false)), 4, none⟩]
@[go_sem] def c21_3 : Cmd := .cond (.tmp 11) (.seq c21_2 .ret) .skip
@[go_sem] def c21_4 : Cmd := .ops [⟨some 5, .assign (.const (.int .i64 0)), 3, none⟩]
@[go_sem] def c21_5 : Cmd := .ops [⟨some 12, .move (.tmp 5), 3, none⟩,
    ⟨some 13, .move (.tmp 0), 49, none⟩,
    ⟨some 14, .call { callee := (.builtin .len), args := #[(.tmp 13)], argTypes := #[49] }, 3, none⟩,
    ⟨some 15, .binOp .lss 3 (.tmp 12) (.tmp 14) 3, 4, none⟩]
@[go_sem] def c21_6 : Cmd := .cond (.tmp 15) .skip (.exit 0)
@[go_sem] def c21_7 : Cmd := .quiet [⟨some 18, .move (.tmp 0), 49, none⟩,
    ⟨some 19, .move (.tmp 5), 3, none⟩,
    ⟨some 20, .indexAddr 49 (.tmp 18) (.tmp 19), 0, none⟩,
    ⟨some 21, .load 42 (.tmp 20), 42, none⟩,
    ⟨some 22, .move (.tmp 1), 49, none⟩,
    ⟨some 23, .move (.tmp 5), 3, none⟩,
    ⟨some 24, .indexAddr 49 (.tmp 22) (.tmp 23), 0, none⟩,
    ⟨some 25, .load 42 (.tmp 24), 42, none⟩,
    ⟨some 26, .call { callee := (.value (.func 20)), args := #[(.tmp 21), (.tmp 25)], argTypes := #[42, 42] }, 4, none⟩,
    ⟨some 6, .assign (.tmp 26), 4, none⟩]
@[go_sem] def c21_8 : Cmd := .ops [⟨some 27, .move (.tmp 6), 4, none⟩,
    ⟨some 28, .unOp .not 4 (.tmp 27), 4, none⟩]
@[go_sem] def c21_9 : Cmd := .ops [⟨some 4, .assign (.const (.bool false)), 4, none⟩]
@[go_sem] def c21_10 : Cmd := .cond (.tmp 28) (.seq c21_9 .ret) .skip
@[go_sem] def c21_11 : Cmd := .block 1 (.seq c21_7 (.seq c21_8 c21_10))
@[go_sem] def c21_12 : Cmd := .ops [⟨some 16, .move (.tmp 5), 3, none⟩,
    ⟨some 17, .binOp .add 3 (.tmp 16) (.const (.int .i64 1)) 3, 3, none⟩,
    ⟨some 5, .assign (.tmp 17), 3, none⟩]
def c21_L0 : Cmd := (.seq (.seq c21_5 c21_6) (.seq c21_11 c21_12))
@[go_sem] def c21_13 : Cmd := .loop c21_L0
@[go_sem] def c21_14 : Cmd := .block 0 c21_13
@[go_sem] def c21_15 : Cmd := .ops [⟨some 4, .assign (.const (.bool true)), 4, none⟩]
@[go_sem] def c21 : Cmd := (.seq c21_0 (.seq (.seq c21_1 c21_3) (.seq (.seq c21_4 c21_14) (.seq c21_15 .ret))))
theorem b21 : Tryd.f21.body.map (comp 29) = some c21 := by kernel_rfl
theorem r21 : Tryd.f21.results.toList = [.tmp 4] := by kernel_rfl
-- 22 pith/ckpt.Decode
@[go_sem] def c22_0 : Cmd := .ops [⟨some 6, .alloc 28, 0, none⟩,
    ⟨some 7, .assign (.const (.int .i64 0)), 31, none⟩]
@[go_sem] def c22_1 : Cmd := .ops [⟨some 13, .move (.tmp 1), 42, none⟩,
    ⟨some 14, .call { callee := (.value (.func 41)), args := #[(.tmp 13)], argTypes := #[42] }, 91, none⟩,
    ⟨some 12, .move (.tmp 14), 91, none⟩,
    ⟨some 15, .extract (.tmp 12) 0, 89, none⟩,
    ⟨some 16, .extract (.tmp 12) 1, 4, none⟩,
    ⟨some 8, .alloc 89, 0, none⟩,
    ⟨none, .store 89 (.tmp 8) (.tmp 15), 0, none⟩,
    ⟨some 9, .assign (.tmp 16), 4, none⟩]
@[go_sem] def c22_2 : Cmd := .ops [⟨some 17, .move (.tmp 9), 4, none⟩,
    ⟨some 18, .unOp .not 4 (.tmp 17), 4, none⟩,
    ⟨some 19, .move (.tmp 18), 4, none⟩,
    ⟨some 20, .indexAddr 89 (.tmp 8) (.const (.int .i64 2)), 0, some (19, false)⟩,
    ⟨some 21, .load 3 (.tmp 20), 3, some (19, false)⟩,
    ⟨some 22, .binOp .gtr 3 (.tmp 21) (.const (.int .i64 16777216)) 3, 4, some (19, false)⟩,
    ⟨some 23, .pick (.tmp 19) (.const (.bool true)) (.tmp 22), 4, none⟩,
    ⟨some 24, .move (.tmp 23), 4, none⟩,
    ⟨some 25, .indexAddr 89 (.tmp 8) (.const (.int .i64 2)), 0, some (24, false)⟩,
    ⟨some 26, .load 3 (.tmp 25), 3, some (24, false)⟩,
    ⟨some 27, .move (.tmp 2), 49, some (24, false)⟩,
    ⟨some 28, .call { callee := (.builtin .len), args := #[(.tmp 27)], argTypes := #[49] }, 3, some (24, false)⟩,
    ⟨some 29, .binOp .mul 3 (.tmp 28) (.const (.int .i64 200)) 3, 3, some (24, false)⟩,
    ⟨some 30, .binOp .gtr 3 (.tmp 26) (.tmp 29) 3, 4, some (24, false)⟩,
    ⟨some 31, .pick (.tmp 24) (.const (.bool true)) (.tmp 30), 4, none⟩,
    ⟨some 32, .move (.tmp 31), 4, none⟩,
    ⟨some 33, .indexAddr 89 (.tmp 8) (.const (.int .i64 3)), 0, some (32, false)⟩,
    ⟨some 34, .load 3 (.tmp 33), 3, some (32, false)⟩,
    ⟨some 35, .binOp .gtr 3 (.tmp 34) (.const (.int .i64 1000)) 3, 4, some (32, false)⟩,
    ⟨some 36, .pick (.tmp 32) (.const (.bool true)) (.tmp 35), 4, none⟩]
@[go_sem] def c22_3 : Cmd := .ops [⟨some 37, .build 28 #[], 28, none⟩,
    ⟨none, .store 28 (.tmp 6) (.tmp 37), 0, none⟩,
    ⟨some 7, .assign (.const (.int .i64 90)), 31, none⟩]
@[go_sem] def c22_4 : Cmd := .cond (.tmp 36) (.seq c22_3 .ret) .skip
@[go_sem] def c22_5 : Cmd := .ops [⟨some 38, .indexAddr 89 (.tmp 8) (.const (.int .i64 1)), 0, none⟩,
    ⟨some 39, .load 3 (.tmp 38), 3, none⟩,
    ⟨some 40, .build 28 #[(0, (.tmp 39))], 28, none⟩,
    ⟨some 10, .alloc 28, 0, none⟩,
    ⟨none, .store 28 (.tmp 10) (.tmp 40), 0, none⟩]
@[go_sem] def c22_6 : Cmd := .ops [⟨some 41, .move (.tmp 2), 49, none⟩,
    ⟨some 11, .assign (.tmp 41), 49, none⟩]
@[go_sem] def c22_7 : Cmd := .ops [⟨some 43, .indexAddr 89 (.tmp 8) (.const (.int .i64 2)), 0, none⟩,
    ⟨some 44, .load 3 (.tmp 43), 3, none⟩,
    ⟨some 45, .move (.tmp 11), 49, none⟩,
    ⟨some 46, .call { callee := (.value (.func 42)), args := #[(.tmp 44), (.tmp 45)], argTypes := #[3, 49] }, 93, none⟩,
    ⟨some 42, .move (.tmp 46), 93, none⟩,
    ⟨some 47, .extract (.tmp 42) 0, 22, none⟩,
    ⟨some 48, .extract (.tmp 42) 1, 49, none⟩,
    ⟨some 49, .extract (.tmp 42) 2, 4, none⟩,
    ⟨some 50, .fieldAddr 28 (.tmp 10) 1, 0, none⟩,
    ⟨none, .store 22 (.tmp 50) (.tmp 47), 0, none⟩,
    ⟨some 11, .assign (.tmp 48), 49, none⟩,
    ⟨some 9, .assign (.tmp 49), 4, none⟩]
@[go_sem] def c22_8 : Cmd := .ops [⟨some 51, .move (.tmp 9), 4, none⟩,
    ⟨some 52, .unOp .not 4 (.tmp 51), 4, none⟩]
@[go_sem] def c22_9 : Cmd := .ops [⟨some 53, .build 28 #[], 28, none⟩,
    ⟨none, .store 28 (.tmp 6) (.tmp 53), 0, none⟩,
    ⟨some 7, .assign (.const (.int .i64 90)), 31, none⟩]
@[go_sem] def c22_10 : Cmd := .cond (.tmp 52) (.seq c22_9 .ret) .skip
@[go_sem] def c22_11 : Cmd := .ops [⟨some 55, .indexAddr 89 (.tmp 8) (.const (.int .i64 3)), 0, none⟩,
    ⟨some 56, .load 3 (.tmp 55), 3, none⟩,
    ⟨some 57, .move (.tmp 11), 49, none⟩,
    ⟨some 58, .call { callee := (.value (.func 43)), args := #[(.tmp 56), (.tmp 57)], argTypes := #[3, 49] }, 95, none⟩,
    ⟨some 54, .move (.tmp 58), 95, none⟩,
    ⟨some 59, .extract (.tmp 54) 0, 23, none⟩,
    ⟨some 60, .extract (.tmp 54) 1, 4, none⟩,
    ⟨some 61, .fieldAddr 28 (.tmp 10) 2, 0, none⟩,
    ⟨none, .store 23 (.tmp 61) (.tmp 59), 0, none⟩,
    ⟨some 9, .assign (.tmp 60), 4, none⟩]
@[go_sem] def c22_12 : Cmd := .ops [⟨some 62, .move (.tmp 9), 4, none⟩,
    ⟨some 63, .unOp .not 4 (.tmp 62), 4, none⟩,
    ⟨some 64, .move (.tmp 63), 4, none⟩,
    ⟨some 65, .move (.tmp 0), 3, some (64, false)⟩,
    ⟨some 66, .load 28 (.tmp 10), 28, some (64, false)⟩,
    ⟨some 67, .call { callee := (.value (.func 38)), args := #[(.tmp 65), (.tmp 66)], argTypes := #[3, 28] }, 4, some (64, false)⟩,
    ⟨some 68, .unOp .not 4 (.tmp 67), 4, some (64, false)⟩,
    ⟨some 69, .pick (.tmp 64) (.const (.bool true)) (.tmp 68), 4, none⟩,
    ⟨some 70, .move (.tmp 69), 4, none⟩,
    ⟨some 71, .load 89 (.tmp 8), 89, some (70, false)⟩,
    ⟨some 72, .move (.tmp 0), 3, some (70, false)⟩,
    ⟨some 73, .fieldAddr 28 (.tmp 10) 0, 0, some (70, false)⟩,
    ⟨some 74, .load 3 (.tmp 73), 3, some (70, false)⟩,
    ⟨some 75, .fieldAddr 28 (.tmp 10) 1, 0, some (70, false)⟩,
    ⟨some 76, .load 22 (.tmp 75), 22, some (70, false)⟩,
    ⟨some 77, .call { callee := (.builtin .len), args := #[(.tmp 76)], argTypes := #[22] }, 3, some (70, false)⟩,
    ⟨some 78, .fieldAddr 28 (.tmp 10) 2, 0, some (70, false)⟩,
    ⟨some 79, .load 23 (.tmp 78), 23, some (70, false)⟩,
    ⟨some 80, .call { callee := (.builtin .len), args := #[(.tmp 79)], argTypes := #[23] }, 3, some (70, false)⟩,
    ⟨some 81, .build 89 #[(0, (.tmp 72)), (1, (.tmp 74)), (2, (.tmp 77)), (3, (.tmp 80))], 89, some (70, false)⟩,
    ⟨some 82, .binOp .neq 89 (.tmp 71) (.tmp 81) 89, 4, some (70, false)⟩,
    ⟨some 83, .pick (.tmp 70) (.const (.bool true)) (.tmp 82), 4, none⟩]
@[go_sem] def c22_13 : Cmd := .ops [⟨some 84, .build 28 #[], 28, none⟩,
    ⟨none, .store 28 (.tmp 6) (.tmp 84), 0, none⟩,
    ⟨some 7, .assign (.const (.int .i64 90)), 31, none⟩]
@[go_sem] def c22_14 : Cmd := .cond (.tmp 83) (.seq c22_13 .ret) .skip
@[go_sem] def c22_15 : Cmd := .ops [⟨some 85, .load 28 (.tmp 10), 28, none⟩,
    ⟨none, .store 28 (.tmp 6) (.tmp 85), 0, none⟩,
    ⟨some 7, .assign (.const (.int .i64 0)), 31, none⟩]
@[go_sem] def c22 : Cmd := (.seq c22_0 (.seq c22_1 (.seq (.seq c22_2 c22_4) (.seq c22_5 (.seq c22_6 (.seq (.seq c22_7 (.seq c22_8 c22_10)) (.seq (.seq c22_11 (.seq c22_12 c22_14)) (.seq c22_15 .ret))))))))
theorem b22 : Tryd.f22.body.map (comp 86) = some c22 := by kernel_rfl
theorem r22 : Tryd.f22.results.toList = [.cell 6 28, .tmp 7] := by kernel_rfl
-- 23 pith/ckpt.Name
@[go_sem] def c23_0 : Cmd := .ops [⟨some 2, .assign (.const (.string ⟨#[]⟩)), 9, none⟩]
@[go_sem] def c23_1 : Cmd := .ops [⟨some 3, .move (.tmp 0), 3, none⟩,
    ⟨some 4, .call { callee := (.value (.func 44)), args := #[(.tmp 3)], argTypes := #[3] }, 9, none⟩,
    ⟨some 5, .binOp .add 9 (.const (.string ⟨#[99, 107, 112, 116, 46]⟩)) (.tmp 4) 9, 9, none⟩,
    ⟨some 2, .assign (.tmp 5), 9, none⟩]
@[go_sem] def c23 : Cmd := (.seq c23_0 (.seq c23_1 .ret))
theorem b23 : Tryd.f23.body.map (comp 6) = some c23 := by kernel_rfl
theorem r23 : Tryd.f23.results.toList = [.tmp 2] := by kernel_rfl
-- 24 pith/files.Publish
@[go_sem] def c24_0 : Cmd := .ops [⟨some 4, .box 25 (.tmp 0), 0, none⟩,
    ⟨some 5, .box 9 (.tmp 1), 0, none⟩,
    ⟨some 6, .box 42 (.tmp 2), 0, none⟩,
    ⟨some 8, .assign (.const (.int .i64 0)), 31, none⟩]
@[go_sem] def c24_1 : Cmd := .ops [⟨some 18, .load 9 (.tmp 5), 9, none⟩,
    ⟨some 19, .binOp .add 9 (.const (.string ⟨#[116, 46]⟩)) (.tmp 18) 9, 9, none⟩,
    ⟨some 9, .alloc 9, 0, none⟩,
    ⟨none, .store 9 (.tmp 9) (.tmp 19), 0, none⟩]
@[go_sem] def c24_2 : Cmd := .ops [⟨some 20, .load 25 (.tmp 4), 25, none⟩,
    ⟨some 21, .load 9 (.tmp 9), 9, none⟩,
    ⟨some 22, .call { callee := (.value (.func 45)), args := #[(.tmp 20), (.tmp 21)], argTypes := #[25, 9] }, 4, none⟩,
    ⟨some 10, .assign (.tmp 22), 4, none⟩]
@[go_sem] def c24_3 : Cmd := .ops [⟨some 11, .alloc 98, 0, none⟩]
@[go_sem] def c24_4 : Cmd := .ops [⟨some 23, .makeFunc (.func 46) #[] #[(.tmp 4), (.tmp 9), (.tmp 6), (.tmp 11)], 78, none⟩,
    ⟨some 24, .buildSlice 101 1 #[(0, (.tmp 23))], 101, none⟩,
    ⟨some 12, .assign (.tmp 24), 101, none⟩]
@[go_sem] def c24_5 : Cmd := .ops [⟨some 25, .move (.tmp 3), 49, none⟩,
    ⟨some 26, .call { callee := (.builtin .len), args := #[(.tmp 25)], argTypes := #[49] }, 3, none⟩,
    ⟨some 27, .move (.const (.int .i64 0)), 3, none⟩]
@[go_sem] def c24_6 : Cmd := .ops [⟨some 28, .binOp .lss 3 (.tmp 27) (.tmp 26) 3, 0, none⟩]
@[go_sem] def c24_7 : Cmd := .cond (.tmp 28) .skip (.exit 0)
@[go_sem] def c24_8 : Cmd := .ops [⟨some 29, .indexAddr 49 (.tmp 25) (.tmp 27), 0, none⟩,
    ⟨some 30, .load 42 (.tmp 29), 42, none⟩,
    ⟨some 14, .alloc 42, 0, none⟩,
    ⟨none, .store 42 (.tmp 14) (.tmp 30), 0, none⟩]
@[go_sem] def c24_9 : Cmd := .ops [⟨some 31, .move (.tmp 12), 101, none⟩,
    ⟨some 32, .makeFunc (.func 48) #[] #[(.tmp 11), (.tmp 14)], 78, none⟩,
    ⟨some 33, .buildSlice 101 1 #[(0, (.tmp 32))], 101, none⟩,
    ⟨some 34, .call { callee := (.builtin .append), args := #[(.tmp 31), (.tmp 33)], argTypes := #[101, 101] }, 101, none⟩,
    ⟨some 12, .assign (.tmp 34), 101, none⟩]
@[go_sem] def c24_10 : Cmd := .block 1 (.seq c24_8 c24_9)
@[go_sem] def c24_11 : Cmd := .ops [⟨some 35, .binOp .add 3 (.tmp 27) (.const (.int .i64 1)) 3, 3, none⟩,
    ⟨some 27, .move (.tmp 35), 3, none⟩]
def c24_L0 : Cmd := (.seq c24_6 (.seq c24_7 (.seq c24_10 c24_11)))
@[go_sem] def c24_12 : Cmd := .loop c24_L0
@[go_sem] def c24_13 : Cmd := .block 0 c24_12
@[go_sem] def c24_14 : Cmd := .ops [⟨some 36, .move (.tmp 12), 101, none⟩,
    ⟨some 37, .makeFunc (.func 50) #[] #[(.tmp 11)], 78, none⟩,
    ⟨some 38, .makeFunc (.func 52) #[] #[(.tmp 4), (.tmp 9), (.tmp 5)], 78, none⟩,
    ⟨some 39, .load 25 (.tmp 4), 25, none⟩,
    ⟨some 40, .makeFunc (.func 54) #[(.tmp 39)] #[], 78, none⟩,
    ⟨some 41, .buildSlice 101 3 #[(0, (.tmp 37)), (1, (.tmp 38)), (2, (.tmp 40))], 101, none⟩,
    ⟨some 42, .call { callee := (.builtin .append), args := #[(.tmp 36), (.tmp 41)], argTypes := #[101, 101] }, 101, none⟩,
    ⟨some 12, .assign (.tmp 42), 101, none⟩]
@[go_sem] def c24_15 : Cmd := .ops [⟨some 43, .move (.tmp 12), 101, none⟩,
    ⟨some 44, .call { callee := (.builtin .len), args := #[(.tmp 43)], argTypes := #[101] }, 3, none⟩,
    ⟨some 45, .move (.const (.int .i64 0)), 3, none⟩]
@[go_sem] def c24_16 : Cmd := .ops [⟨some 46, .binOp .lss 3 (.tmp 45) (.tmp 44) 3, 0, none⟩]
@[go_sem] def c24_17 : Cmd := .cond (.tmp 46) .skip (.exit 2)
@[go_sem] def c24_18 : Cmd := .ops [⟨some 47, .indexAddr 101 (.tmp 43) (.tmp 45), 0, none⟩,
    ⟨some 48, .load 78 (.tmp 47), 78, none⟩,
    ⟨some 16, .assign (.tmp 48), 78, none⟩]
@[go_sem] def c24_19 : Cmd := .ops [⟨some 49, .move (.tmp 16), 78, none⟩,
    ⟨some 50, .call { callee := (.value (.tmp 49)), args := #[], argTypes := #[] }, 31, none⟩,
    ⟨some 17, .assign (.tmp 50), 31, none⟩]
@[go_sem] def c24_20 : Cmd := .ops [⟨some 51, .move (.tmp 17), 31, none⟩,
    ⟨some 52, .binOp .neq 31 (.tmp 51) (.const (.int .i64 0)) 31, 4, none⟩]
@[go_sem] def c24_21 : Cmd := .ops [⟨some 53, .move (.tmp 17), 31, none⟩,
    ⟨some 54, .binOp .neq 31 (.tmp 53) (.const (.int .i64 81)) 31, 4, none⟩,
    ⟨some 55, .move (.tmp 54), 4, none⟩,
    ⟨some 56, .move (.tmp 10), 4, some (55, true)⟩,
    ⟨some 57, .unOp .not 4 (.tmp 56), 4, some (55, true)⟩,
    ⟨some 58, .pick (.tmp 55) (.tmp 57) (.const (.bool false)), 4, none⟩,
    ⟨some 59, .move (.tmp 58), 4, none⟩,
    ⟨some 60, .load 25 (.tmp 4), 25, some (59, true)⟩,
    ⟨some 61, .load 9 (.tmp 9), 9, some (59, true)⟩,
    ⟨some 62, .call { callee := (.value (.func 45)), args := #[(.tmp 60), (.tmp 61)], argTypes := #[25, 9] }, 4, some (59, true)⟩,
    ⟨some 63, .pick (.tmp 59) (.tmp 62) (.const (.bool false)), 4, none⟩,
    ⟨some 64, .move (.tmp 63), 4, none⟩,
    ⟨some 65, .load 25 (.tmp 4), 25, some (64, true)⟩,
    ⟨some 66, .load 9 (.tmp 9), 9, some (64, true)⟩,
    ⟨some 67, .call { callee := (.value (.func 55)), args := #[(.tmp 65), (.tmp 66)], argTypes := #[25, 9] }, 31, some (64, true)⟩,
    ⟨some 68, .binOp .eql 31 (.tmp 67) (.const (.int .i64 81)) 31, 4, some (64, true)⟩,
    ⟨some 69, .pick (.tmp 64) (.tmp 68) (.const (.bool false)), 4, none⟩]
@[go_sem] def c24_22 : Cmd := .ops [⟨some 8, .assign (.const (.int .i64 81)), 31, none⟩]
@[go_sem] def c24_23 : Cmd := .cond (.tmp 69) (.seq c24_22 .ret) .skip
@[go_sem] def c24_24 : Cmd := .ops [⟨some 70, .move (.tmp 17), 31, none⟩,
    ⟨some 8, .assign (.tmp 70), 31, none⟩]
@[go_sem] def c24_25 : Cmd := .cond (.tmp 52) (.seq (.seq c24_21 c24_23) (.seq c24_24 .ret)) .skip
@[go_sem] def c24_26 : Cmd := .block 3 (.seq c24_18 (.seq c24_19 (.seq c24_20 c24_25)))
@[go_sem] def c24_27 : Cmd := .ops [⟨some 71, .binOp .add 3 (.tmp 45) (.const (.int .i64 1)) 3, 3, none⟩,
    ⟨some 45, .move (.tmp 71), 3, none⟩]
def c24_L1 : Cmd := (.seq c24_16 (.seq c24_17 (.seq c24_26 c24_27)))
@[go_sem] def c24_28 : Cmd := .loop c24_L1
@[go_sem] def c24_29 : Cmd := .block 2 c24_28
@[go_sem] def c24_30 : Cmd := .ops [⟨some 8, .assign (.const (.int .i64 0)), 31, none⟩]
@[go_sem] def c24 : Cmd := (.seq c24_0 (.seq c24_1 (.seq c24_2 (.seq c24_3 (.seq c24_4 (.seq (.seq c24_5 c24_13) (.seq c24_14 (.seq (.seq c24_15 c24_29) (.seq c24_30 .ret)))))))))
theorem b24 : Tryd.f24.body.map (comp 72) = some c24 := by kernel_rfl
theorem r24 : Tryd.f24.results.toList = [.tmp 8] := by kernel_rfl
-- 25 (*pith/fs.FS).Power
@[go_sem] def c25_0 : Cmd := .ops [⟨some 2, .assign (.const (.bool false)), 4, none⟩]
@[go_sem] def c25_1 : Cmd := .ops [⟨some 3, .move (.tmp 0), 25, none⟩,
    ⟨some 4, .nilCheck (.tmp 3), 0, none⟩,
    ⟨some 5, .fieldAddr 64 (.tmp 4) 5, 0, none⟩,
    ⟨some 6, .load 4 (.tmp 5), 4, none⟩,
    ⟨some 7, .unOp .not 4 (.tmp 6), 4, none⟩,
    ⟨some 2, .assign (.tmp 7), 4, none⟩]
@[go_sem] def c25 : Cmd := (.seq c25_0 (.seq c25_1 .ret))
theorem b25 : Tryd.f25.body.map (comp 8) = some c25 := by kernel_rfl
theorem r25 : Tryd.f25.results.toList = [.tmp 2] := by kernel_rfl
-- 26 pith/ckpt.fits
@[go_sem] def c26_0 : Cmd := .ops [⟨some 3, .box 28 (.tmp 0), 0, none⟩,
    ⟨some 6, .assign (.const (.bool false)), 4, none⟩]
@[go_sem] def c26_1 : Cmd := .ops [⟨some 9, .fieldAddr 28 (.tmp 3) 1, 0, none⟩,
    ⟨some 10, .load 22 (.tmp 9), 22, none⟩,
    ⟨some 11, .call { callee := (.builtin .len), args := #[(.tmp 10)], argTypes := #[22] }, 3, none⟩,
    ⟨some 12, .move (.tmp 1), 22, none⟩,
    ⟨some 13, .call { callee := (.builtin .len), args := #[(.tmp 12)], argTypes := #[22] }, 3, none⟩,
    ⟨some 14, .binOp .neq 3 (.tmp 11) (.tmp 13) 3, 4, none⟩,
    ⟨some 15, .move (.tmp 14), 4, none⟩,
    ⟨some 16, .fieldAddr 28 (.tmp 3) 2, 0, some (15, false)⟩,
    ⟨some 17, .load 23 (.tmp 16), 23, some (15, false)⟩,
    ⟨some 18, .call { callee := (.builtin .len), args := #[(.tmp 17)], argTypes := #[23] }, 3, some (15, false)⟩,
    ⟨some 19, .move (.tmp 2), 3, some (15, false)⟩,
    ⟨some 20, .binOp .neq 3 (.tmp 18) (.tmp 19) 3, 4, some (15, false)⟩,
    ⟨some 21, .pick (.tmp 15) (.const (.bool true)) (.tmp 20), 4, none⟩]
@[go_sem] def c26_2 : Cmd := .ops [⟨some 6, .assign (.const (.bool false)), 4, none⟩]
@[go_sem] def c26_3 : Cmd := .cond (.tmp 21) (.seq c26_2 .ret) .skip
@[go_sem] def c26_4 : Cmd := .ops [⟨some 22, .fieldAddr 28 (.tmp 3) 1, 0, none⟩,
    ⟨some 23, .load 22 (.tmp 22), 22, none⟩,
    ⟨some 24, .call { callee := (.builtin .len), args := #[(.tmp 23)], argTypes := #[22] }, 3, none⟩,
    ⟨some 25, .move (.const (.int .i64 0)), 3, none⟩]
@[go_sem] def c26_5 : Cmd := .ops [⟨some 26, .binOp .lss 3 (.tmp 25) (.tmp 24) 3, 0, none⟩]
@[go_sem] def c26_6 : Cmd := .cond (.tmp 26) .skip (.exit 0)
@[go_sem] def c26_7 : Cmd := .ops [⟨some 27, .move (.tmp 25), 3, none⟩,
    ⟨some 28, .indexAddr 22 (.tmp 23) (.tmp 25), 0, none⟩,
    ⟨some 29, .load 3 (.tmp 28), 3, none⟩,
    ⟨some 7, .assign (.tmp 27), 3, none⟩,
    ⟨some 8, .assign (.tmp 29), 3, none⟩]
@[go_sem] def c26_8 : Cmd := .ops [⟨some 30, .move (.tmp 8), 3, none⟩,
    ⟨some 31, .move (.tmp 1), 22, none⟩,
    ⟨some 32, .move (.tmp 7), 3, none⟩,
    ⟨some 33, .indexAddr 22 (.tmp 31) (.tmp 32), 0, none⟩,
    ⟨some 34, .load 3 (.tmp 33), 3, none⟩,
    ⟨some 35, .binOp .gtr 3 (.tmp 30) (.tmp 34) 3, 4, none⟩]
@[go_sem] def c26_9 : Cmd := .ops [⟨some 6, .assign (.const (.bool false)), 4, none⟩]
@[go_sem] def c26_10 : Cmd := .cond (.tmp 35) (.seq c26_9 .ret) .skip
@[go_sem] def c26_11 : Cmd := .block 1 (.seq c26_7 (.seq c26_8 c26_10))
@[go_sem] def c26_12 : Cmd := .ops [⟨some 36, .binOp .add 3 (.tmp 25) (.const (.int .i64 1)) 3, 3, none⟩,
    ⟨some 25, .move (.tmp 36), 3, none⟩]
def c26_L0 : Cmd := (.seq c26_5 (.seq c26_6 (.seq c26_11 c26_12)))
@[go_sem] def c26_13 : Cmd := .loop c26_L0
@[go_sem] def c26_14 : Cmd := .block 0 c26_13
@[go_sem] def c26_15 : Cmd := .ops [⟨some 6, .assign (.const (.bool true)), 4, none⟩]
@[go_sem] def c26 : Cmd := (.seq c26_0 (.seq (.seq c26_1 c26_3) (.seq (.seq c26_4 c26_14) (.seq c26_15 .ret))))
theorem b26 : Tryd.f26.body.map (comp 37) = some c26 := by kernel_rfl
theorem r26 : Tryd.f26.results.toList = [.tmp 6] := by kernel_rfl
-- 27 pith/pithref.SameInts
@[go_sem] def c27_0 : Cmd := .ops [⟨some 4, .assign (.const (.bool false)), 4, none⟩]
@[go_sem] def c27_1 : Cmd := .ops [⟨some 6, .move (.tmp 0), 22, none⟩,
    ⟨some 7, .call { callee := (.builtin .len), args := #[(.tmp 6)], argTypes := #[22] }, 3, none⟩,
    ⟨some 8, .move (.tmp 1), 22, none⟩,
    ⟨some 9, .call { callee := (.builtin .len), args := #[(.tmp 8)], argTypes := #[22] }, 3, none⟩,
    ⟨some 10, .binOp .neq 3 (.tmp 7) (.tmp 9) 3, 4, none⟩]
@[go_sem] def c27_2 : Cmd := .ops [⟨some 4, .assign (.const (.bool false)), 4, none⟩]
@[go_sem] def c27_3 : Cmd := .cond (.tmp 10) (.seq c27_2 .ret) .skip
@[go_sem] def c27_4 : Cmd := .ops [⟨some 5, .assign (.const (.int .i64 0)), 3, none⟩]
@[go_sem] def c27_5 : Cmd := .ops [⟨some 11, .move (.tmp 5), 3, none⟩,
    ⟨some 12, .move (.tmp 0), 22, none⟩,
    ⟨some 13, .call { callee := (.builtin .len), args := #[(.tmp 12)], argTypes := #[22] }, 3, none⟩,
    ⟨some 14, .binOp .lss 3 (.tmp 11) (.tmp 13) 3, 4, none⟩]
@[go_sem] def c27_6 : Cmd := .cond (.tmp 14) .skip (.exit 0)
@[go_sem] def c27_7 : Cmd := .quiet [⟨some 17, .move (.tmp 0), 22, none⟩,
    ⟨some 18, .move (.tmp 5), 3, none⟩,
    ⟨some 19, .indexAddr 22 (.tmp 17) (.tmp 18), 0, none⟩,
    ⟨some 20, .load 3 (.tmp 19), 3, none⟩,
    ⟨some 21, .move (.tmp 1), 22, none⟩,
    ⟨some 22, .move (.tmp 5), 3, none⟩,
    ⟨some 23, .indexAddr 22 (.tmp 21) (.tmp 22), 0, none⟩,
    ⟨some 24, .load 3 (.tmp 23), 3, none⟩,
    ⟨some 25, .binOp .eql 3 (.tmp 20) (.tmp 24) 3, 4, none⟩,
    ⟨some 26, .unOp .not 4 (.tmp 25), 4, none⟩]
@[go_sem] def c27_8 : Cmd := .ops [⟨some 4, .assign (.const (.bool false)), 4, none⟩]
@[go_sem] def c27_9 : Cmd := .cond (.tmp 26) (.seq c27_8 .ret) .skip
@[go_sem] def c27_10 : Cmd := .block 1 (.seq c27_7 c27_9)
@[go_sem] def c27_11 : Cmd := .ops [⟨some 15, .move (.tmp 5), 3, none⟩,
    ⟨some 16, .binOp .add 3 (.tmp 15) (.const (.int .i64 1)) 3, 3, none⟩,
    ⟨some 5, .assign (.tmp 16), 3, none⟩]
def c27_L0 : Cmd := (.seq (.seq c27_5 c27_6) (.seq c27_10 c27_11))
@[go_sem] def c27_12 : Cmd := .loop c27_L0
@[go_sem] def c27_13 : Cmd := .block 0 c27_12
@[go_sem] def c27_14 : Cmd := .ops [⟨some 4, .assign (.const (.bool true)), 4, none⟩]
@[go_sem] def c27 : Cmd := (.seq c27_0 (.seq (.seq c27_1 c27_3) (.seq (.seq c27_4 c27_13) (.seq c27_14 .ret))))
theorem b27 : Tryd.f27.body.map (comp 27) = some c27 := by kernel_rfl
theorem r27 : Tryd.f27.results.toList = [.tmp 4] := by kernel_rfl
-- 28 pith/pithref.SameBools
@[go_sem] def c28_0 : Cmd := .ops [⟨some 4, .assign (.const (.bool false)), 4, none⟩]
@[go_sem] def c28_1 : Cmd := .ops [⟨some 6, .move (.tmp 0), 23, none⟩,
    ⟨some 7, .call { callee := (.builtin .len), args := #[(.tmp 6)], argTypes := #[23] }, 3, none⟩,
    ⟨some 8, .move (.tmp 1), 23, none⟩,
    ⟨some 9, .call { callee := (.builtin .len), args := #[(.tmp 8)], argTypes := #[23] }, 3, none⟩,
    ⟨some 10, .binOp .neq 3 (.tmp 7) (.tmp 9) 3, 4, none⟩]
@[go_sem] def c28_2 : Cmd := .ops [⟨some 4, .assign (.const (.bool false)), 4, none⟩]
@[go_sem] def c28_3 : Cmd := .cond (.tmp 10) (.seq c28_2 .ret) .skip
@[go_sem] def c28_4 : Cmd := .ops [⟨some 5, .assign (.const (.int .i64 0)), 3, none⟩]
@[go_sem] def c28_5 : Cmd := .ops [⟨some 11, .move (.tmp 5), 3, none⟩,
    ⟨some 12, .move (.tmp 0), 23, none⟩,
    ⟨some 13, .call { callee := (.builtin .len), args := #[(.tmp 12)], argTypes := #[23] }, 3, none⟩,
    ⟨some 14, .binOp .lss 3 (.tmp 11) (.tmp 13) 3, 4, none⟩]
@[go_sem] def c28_6 : Cmd := .cond (.tmp 14) .skip (.exit 0)
@[go_sem] def c28_7 : Cmd := .quiet [⟨some 17, .move (.tmp 0), 23, none⟩,
    ⟨some 18, .move (.tmp 5), 3, none⟩,
    ⟨some 19, .indexAddr 23 (.tmp 17) (.tmp 18), 0, none⟩,
    ⟨some 20, .load 4 (.tmp 19), 4, none⟩,
    ⟨some 21, .move (.tmp 1), 23, none⟩,
    ⟨some 22, .move (.tmp 5), 3, none⟩,
    ⟨some 23, .indexAddr 23 (.tmp 21) (.tmp 22), 0, none⟩,
    ⟨some 24, .load 4 (.tmp 23), 4, none⟩,
    ⟨some 25, .binOp .eql 4 (.tmp 20) (.tmp 24) 4, 4, none⟩,
    ⟨some 26, .unOp .not 4 (.tmp 25), 4, none⟩]
@[go_sem] def c28_8 : Cmd := .ops [⟨some 4, .assign (.const (.bool false)), 4, none⟩]
@[go_sem] def c28_9 : Cmd := .cond (.tmp 26) (.seq c28_8 .ret) .skip
@[go_sem] def c28_10 : Cmd := .block 1 (.seq c28_7 c28_9)
@[go_sem] def c28_11 : Cmd := .ops [⟨some 15, .move (.tmp 5), 3, none⟩,
    ⟨some 16, .binOp .add 3 (.tmp 15) (.const (.int .i64 1)) 3, 3, none⟩,
    ⟨some 5, .assign (.tmp 16), 3, none⟩]
def c28_L0 : Cmd := (.seq (.seq c28_5 c28_6) (.seq c28_10 c28_11))
@[go_sem] def c28_12 : Cmd := .loop c28_L0
@[go_sem] def c28_13 : Cmd := .block 0 c28_12
@[go_sem] def c28_14 : Cmd := .ops [⟨some 4, .assign (.const (.bool true)), 4, none⟩]
@[go_sem] def c28 : Cmd := (.seq c28_0 (.seq (.seq c28_1 c28_3) (.seq (.seq c28_4 c28_13) (.seq c28_14 .ret))))
theorem b28 : Tryd.f28.body.map (comp 27) = some c28 := by kernel_rfl
theorem r28 : Tryd.f28.results.toList = [.tmp 4] := by kernel_rfl
-- 29 (*pith/fs.FS).find
@[go_sem] def c29_0 : Cmd := .ops [⟨some 4, .assign (.const (.pointer none)), 69, none⟩,
    ⟨some 5, .assign (.const (.int .i64 0)), 31, none⟩]
@[go_sem] def c29_1 : Cmd := .ops [⟨some 8, .move (.tmp 0), 25, none⟩,
    ⟨some 9, .move (.tmp 1), 9, none⟩,
    ⟨some 10, .buildSlice 106 1 #[(0, (.tmp 9))], 106, none⟩,
    ⟨some 11, .call { callee := (.value (.func 31)), args := #[(.tmp 8), (.tmp 10)], argTypes := #[25, 106] }, 31, none⟩,
    ⟨some 6, .assign (.tmp 11), 31, none⟩]
@[go_sem] def c29_2 : Cmd := .ops [⟨some 12, .move (.tmp 6), 31, none⟩,
    ⟨some 13, .binOp .neq 31 (.tmp 12) (.const (.int .i64 0)) 31, 4, none⟩]
@[go_sem] def c29_3 : Cmd := .ops [⟨some 14, .move (.tmp 6), 31, none⟩,
    ⟨some 4, .assign (.const (.pointer none)), 69, none⟩,
    ⟨some 5, .assign (.tmp 14), 31, none⟩]
@[go_sem] def c29_4 : Cmd := .cond (.tmp 13) (.seq c29_3 .ret) .skip
@[go_sem] def c29_5 : Cmd := .ops [⟨some 15, .move (.tmp 0), 25, none⟩,
    ⟨some 16, .nilCheck (.tmp 15), 0, none⟩,
    ⟨some 17, .fieldAddr 64 (.tmp 16) 1, 0, none⟩,
    ⟨some 18, .load 60 (.tmp 17), 60, none⟩,
    ⟨some 19, .move (.tmp 1), 9, none⟩,
    ⟨some 20, .lookup 60 (.tmp 18) (.tmp 19) false, 69, none⟩,
    ⟨some 7, .assign (.tmp 20), 69, none⟩]
@[go_sem] def c29_6 : Cmd := .ops [⟨some 21, .move (.tmp 7), 69, none⟩,
    ⟨some 22, .binOp .eql 69 (.tmp 21) (.const (.pointer none)) 69, 4, none⟩]
@[go_sem] def c29_7 : Cmd := .ops [⟨some 4, .assign (.const (.pointer none)), 69, none⟩,
    ⟨some 5, .assign (.const (.int .i64 82)), 31, none⟩]
@[go_sem] def c29_8 : Cmd := .cond (.tmp 22) (.seq c29_7 .ret) .skip
@[go_sem] def c29_9 : Cmd := .ops [⟨some 23, .move (.tmp 7), 69, none⟩,
    ⟨some 4, .assign (.tmp 23), 69, none⟩,
    ⟨some 5, .assign (.const (.int .i64 0)), 31, none⟩]
@[go_sem] def c29 : Cmd := (.seq c29_0 (.seq (.seq c29_1 (.seq c29_2 c29_4)) (.seq c29_5 (.seq (.seq c29_6 c29_8) (.seq c29_9 .ret)))))
theorem b29 : Tryd.f29.body.map (comp 24) = some c29 := by kernel_rfl
theorem r29 : Tryd.f29.results.toList = [.tmp 4, .tmp 5] := by kernel_rfl
-- 30 bytes.Clone
@[go_sem] def c30_0 : Cmd := .ops [⟨some 2, .assign (.const (.slice none 0 0)), 42, none⟩]
@[go_sem] def c30_1 : Cmd := .ops [⟨some 3, .move (.tmp 0), 42, none⟩,
    ⟨some 4, .binOp .eql 42 (.tmp 3) (.const (.slice none 0 0)) 42, 4, none⟩]
@[go_sem] def c30_2 : Cmd := .ops [⟨some 2, .assign (.const (.slice none 0 0)), 42, none⟩]
@[go_sem] def c30_3 : Cmd := .cond (.tmp 4) (.seq c30_2 .ret) .skip
@[go_sem] def c30_4 : Cmd := .ops [⟨some 5, .buildSlice 42 0 #[], 42, none⟩,
    ⟨some 6, .move (.tmp 0), 42, none⟩,
    ⟨some 7, .call { callee := (.builtin .append), args := #[(.tmp 5), (.tmp 6)], argTypes := #[42, 42] }, 42, none⟩,
    ⟨some 2, .assign (.tmp 7), 42, none⟩]
@[go_sem] def c30 : Cmd := (.seq c30_0 (.seq (.seq c30_1 c30_3) (.seq c30_4 .ret)))
theorem b30 : Tryd.f30.body.map (comp 8) = some c30 := by kernel_rfl
theorem r30 : Tryd.f30.results.toList = [.tmp 2] := by kernel_rfl
-- 31 (*pith/fs.FS).begin
@[go_sem] def c31_0 : Cmd := .ops [⟨some 4, .assign (.const (.int .i64 0)), 31, none⟩]
@[go_sem] def c31_1 : Cmd := .ops [⟨some 7, .move (.tmp 1), 106, none⟩,
    ⟨some 8, .call { callee := (.builtin .len), args := #[(.tmp 7)], argTypes := #[106] }, 3, none⟩,
    ⟨some 9, .move (.const (.int .i64 0)), 3, none⟩]
@[go_sem] def c31_2 : Cmd := .ops [⟨some 10, .binOp .lss 3 (.tmp 9) (.tmp 8) 3, 0, none⟩]
@[go_sem] def c31_3 : Cmd := .cond (.tmp 10) .skip (.exit 0)
@[go_sem] def c31_4 : Cmd := .ops [⟨some 11, .indexAddr 106 (.tmp 7) (.tmp 9), 0, none⟩,
    ⟨some 12, .load 9 (.tmp 11), 9, none⟩,
    ⟨some 6, .assign (.tmp 12), 9, none⟩]
@[go_sem] def c31_5 : Cmd := .ops [⟨some 13, .move (.tmp 6), 9, none⟩,
    ⟨some 14, .call { callee := (.value (.func 35)), args := #[(.tmp 13)], argTypes := #[9] }, 4, none⟩,
    ⟨some 15, .unOp .not 4 (.tmp 14), 4, none⟩]
@[go_sem] def c31_6 : Cmd := .ops [⟨some 4, .assign (.const (.int .i64 84)), 31, none⟩]
@[go_sem] def c31_7 : Cmd := .cond (.tmp 15) (.seq c31_6 .ret) .skip
@[go_sem] def c31_8 : Cmd := .block 1 (.seq c31_4 (.seq c31_5 c31_7))
@[go_sem] def c31_9 : Cmd := .ops [⟨some 16, .binOp .add 3 (.tmp 9) (.const (.int .i64 1)) 3, 3, none⟩,
    ⟨some 9, .move (.tmp 16), 3, none⟩]
def c31_L0 : Cmd := (.seq c31_2 (.seq c31_3 (.seq c31_8 c31_9)))
@[go_sem] def c31_10 : Cmd := .loop c31_L0
@[go_sem] def c31_11 : Cmd := .block 0 c31_10
@[go_sem] def c31_12 : Cmd := .ops [⟨some 17, .move (.tmp 0), 25, none⟩,
    ⟨some 18, .nilCheck (.tmp 17), 0, none⟩,
    ⟨some 19, .fieldAddr 64 (.tmp 18) 5, 0, none⟩,
    ⟨some 20, .load 4 (.tmp 19), 4, none⟩]
@[go_sem] def c31_13 : Cmd := .ops [⟨some 4, .assign (.const (.int .i64 81)), 31, none⟩]
@[go_sem] def c31_14 : Cmd := .cond (.tmp 20) (.seq c31_13 .ret) .skip
@[go_sem] def c31_15 : Cmd := .ops [⟨some 4, .assign (.const (.int .i64 0)), 31, none⟩]
@[go_sem] def c31 : Cmd := (.seq c31_0 (.seq (.seq c31_1 c31_11) (.seq (.seq c31_12 c31_14) (.seq c31_15 .ret))))
theorem b31 : Tryd.f31.body.map (comp 21) = some c31 := by kernel_rfl
theorem r31 : Tryd.f31.results.toList = [.tmp 4] := by kernel_rfl
-- 32 (*pith/fs.FS).pend
@[go_sem] def c32_0 : Cmd := .ops [⟨some 4, .box 69 (.tmp 1), 0, none⟩,
    ⟨some 5, .box 9 (.tmp 2), 0, none⟩,
    ⟨some 6, .assign (.const (.int .i64 0)), 31, none⟩]
@[go_sem] def c32_1 : Cmd := .ops [⟨some 8, .makeFunc (.func 56) #[] #[(.tmp 4), (.tmp 5)], 107, none⟩,
    ⟨some 7, .assign (.tmp 8), 107, none⟩]
@[go_sem] def c32_2 : Cmd := .ops [⟨some 9, .move (.tmp 7), 107, none⟩,
    ⟨some 10, .move (.tmp 0), 25, none⟩,
    ⟨some 11, .nilCheck (.tmp 10), 0, none⟩,
    ⟨some 12, .fieldAddr 64 (.tmp 11) 1, 0, none⟩,
    ⟨some 13, .load 60 (.tmp 12), 60, none⟩,
    ⟨some 14, .call { callee := (.value (.tmp 9)), args := #[(.tmp 13)], argTypes := #[60] }, 0, none⟩]
@[go_sem] def c32_3 : Cmd := .ops [⟨some 15, .move (.tmp 0), 25, none⟩,
    ⟨some 16, .move (.tmp 0), 25, none⟩,
    ⟨some 17, .nilCheck (.tmp 16), 0, none⟩,
    ⟨some 18, .fieldAddr 64 (.tmp 17) 3, 0, none⟩,
    ⟨some 19, .load 62 (.tmp 18), 62, none⟩,
    ⟨some 20, .move (.tmp 7), 107, none⟩,
    ⟨some 21, .buildSlice 62 1 #[(0, (.tmp 20))], 62, none⟩,
    ⟨some 22, .call { callee := (.builtin .append), args := #[(.tmp 19), (.tmp 21)], argTypes := #[62, 62] }, 62, none⟩,
    ⟨some 23, .nilCheck (.tmp 15), 0, none⟩,
    ⟨some 24, .fieldAddr 64 (.tmp 23) 3, 0, none⟩,
    ⟨none, .store 62 (.tmp 24) (.tmp 22), 0, none⟩]
@[go_sem] def c32_4 : Cmd := .ops [⟨some 25, .move (.tmp 0), 25, none⟩,
    ⟨some 26, .call { callee := (.value (.func 34)), args := #[(.tmp 25)], argTypes := #[25] }, 31, none⟩,
    ⟨some 6, .assign (.tmp 26), 31, none⟩]
@[go_sem] def c32 : Cmd := (.seq c32_0 (.seq c32_1 (.seq c32_2 (.seq c32_3 (.seq c32_4 .ret)))))
theorem b32 : Tryd.f32.body.map (comp 27) = some c32 := by kernel_rfl
theorem r32 : Tryd.f32.results.toList = [.tmp 6] := by kernel_rfl
-- 33 (*pith/fs.FS).Held
@[go_sem] def c33_0 : Cmd := .ops [⟨some 2, .assign (.const (.int .i64 0)), 3, none⟩]
@[go_sem] def c33_1 : Cmd := .ops [⟨some 3, .assign (.const (.int .i64 0)), 3, none⟩]
@[go_sem] def c33_2 : Cmd := .ops [⟨some 5, .move (.tmp 0), 25, none⟩,
    ⟨some 6, .nilCheck (.tmp 5), 0, none⟩,
    ⟨some 7, .fieldAddr 64 (.tmp 6) 4, 0, none⟩,
    ⟨some 8, .load 61 (.tmp 7), 61, none⟩,
    ⟨some 9, .range 61 (.tmp 8), 0, none⟩]
@[go_sem] def c33_3 : Cmd := .ops [⟨some 10, .next (.tmp 9) false, 0, none⟩,
    ⟨some 11, .extract (.tmp 10) 0, 4, none⟩]
@[go_sem] def c33_4 : Cmd := .cond (.tmp 11) .skip (.exit 0)
@[go_sem] def c33_5 : Cmd := .ops [⟨some 12, .entry (.tmp 9), 0, none⟩,
    ⟨some 13, .extract (.tmp 12) 0, 69, none⟩,
    ⟨some 4, .assign (.tmp 13), 69, none⟩]
@[go_sem] def c33_6 : Cmd := .ops [⟨some 14, .move (.tmp 3), 3, none⟩,
    ⟨some 15, .move (.tmp 4), 69, none⟩,
    ⟨some 16, .nilCheck (.tmp 15), 0, none⟩,
    ⟨some 17, .fieldAddr 73 (.tmp 16) 0, 0, none⟩,
    ⟨some 18, .load 42 (.tmp 17), 42, none⟩,
    ⟨some 19, .call { callee := (.builtin .len), args := #[(.tmp 18)], argTypes := #[42] }, 3, none⟩,
    ⟨some 20, .binOp .add 3 (.tmp 14) (.tmp 19) 3, 3, none⟩,
    ⟨some 3, .assign (.tmp 20), 3, none⟩]
@[go_sem] def c33_7 : Cmd := .block 1 (.seq c33_5 c33_6)
def c33_L0 : Cmd := (.seq c33_3 (.seq c33_4 c33_7))
@[go_sem] def c33_8 : Cmd := .loop c33_L0
@[go_sem] def c33_9 : Cmd := .block 0 c33_8
@[go_sem] def c33_10 : Cmd := .ops [⟨some 21, .move (.tmp 3), 3, none⟩,
    ⟨some 2, .assign (.tmp 21), 3, none⟩]
@[go_sem] def c33 : Cmd := (.seq c33_0 (.seq c33_1 (.seq (.seq c33_2 c33_9) (.seq c33_10 .ret))))
theorem b33 : Tryd.f33.body.map (comp 22) = some c33 := by kernel_rfl
theorem r33 : Tryd.f33.results.toList = [.tmp 2] := by kernel_rfl
-- 34 (*pith/fs.FS).count
@[go_sem] def c34_0 : Cmd := .ops [⟨some 2, .assign (.const (.int .i64 0)), 31, none⟩]
@[go_sem] def c34_1 : Cmd := .ops [⟨some 3, .move (.tmp 0), 25, none⟩,
    ⟨some 4, .nilCheck (.tmp 3), 0, none⟩,
    ⟨some 5, .fieldAddr 64 (.tmp 4) 7, 0, none⟩,
    ⟨some 6, .load 3 (.tmp 5), 3, none⟩,
    ⟨some 7, .binOp .add 3 (.tmp 6) (.const (.int .i64 1)) 3, 3, none⟩,
    ⟨some 8, .nilCheck (.tmp 3), 0, none⟩,
    ⟨some 9, .fieldAddr 64 (.tmp 8) 7, 0, none⟩,
    ⟨none, .store 3 (.tmp 9) (.tmp 7), 0, none⟩]
@[go_sem] def c34_2 : Cmd := .ops [⟨some 10, .move (.tmp 0), 25, none⟩,
    ⟨some 11, .nilCheck (.tmp 10), 0, none⟩,
    ⟨some 12, .fieldAddr 64 (.tmp 11) 6, 0, none⟩,
    ⟨some 13, .load 3 (.tmp 12), 3, none⟩,
    ⟨some 14, .binOp .gtr 3 (.tmp 13) (.const (.int .i64 0)) 3, 4, none⟩]
@[go_sem] def c34_3 : Cmd := .ops [⟨some 15, .move (.tmp 0), 25, none⟩,
    ⟨some 16, .nilCheck (.tmp 15), 0, none⟩,
    ⟨some 17, .fieldAddr 64 (.tmp 16) 6, 0, none⟩,
    ⟨some 18, .load 3 (.tmp 17), 3, none⟩,
    ⟨some 19, .binOp .sub 3 (.tmp 18) (.const (.int .i64 1)) 3, 3, none⟩,
    ⟨some 20, .nilCheck (.tmp 15), 0, none⟩,
    ⟨some 21, .fieldAddr 64 (.tmp 20) 6, 0, none⟩,
    ⟨none, .store 3 (.tmp 21) (.tmp 19), 0, none⟩]
@[go_sem] def c34_4 : Cmd := .ops [⟨some 22, .move (.tmp 0), 25, none⟩,
    ⟨some 23, .nilCheck (.tmp 22), 0, none⟩,
    ⟨some 24, .fieldAddr 64 (.tmp 23) 6, 0, none⟩,
    ⟨some 25, .load 3 (.tmp 24), 3, none⟩,
    ⟨some 26, .binOp .eql 3 (.tmp 25) (.const (.int .i64 0)) 3, 4, none⟩]
@[go_sem] def c34_5 : Cmd := .ops [⟨some 27, .move (.tmp 0), 25, none⟩,
    ⟨some 28, .nilCheck (.tmp 27), 0, none⟩,
    ⟨some 29, .fieldAddr 64 (.tmp 28) 5, 0, none⟩,
    ⟨none, .store 4 (.tmp 29) (.const (.bool true)), 0, none⟩]
@[go_sem] def c34_6 : Cmd := .ops [⟨some 2, .assign (.const (.int .i64 81)), 31, none⟩]
@[go_sem] def c34_7 : Cmd := .cond (.tmp 26) (.seq c34_5 (.seq c34_6 .ret)) .skip
@[go_sem] def c34_8 : Cmd := .cond (.tmp 14) (.seq c34_3 (.seq c34_4 c34_7)) .skip
@[go_sem] def c34_9 : Cmd := .ops [⟨some 2, .assign (.const (.int .i64 0)), 31, none⟩]
@[go_sem] def c34 : Cmd := (.seq c34_0 (.seq c34_1 (.seq (.seq c34_2 c34_8) (.seq c34_9 .ret))))
theorem b34 : Tryd.f34.body.map (comp 30) = some c34 := by kernel_rfl
theorem r34 : Tryd.f34.results.toList = [.tmp 2] := by kernel_rfl
-- 35 pith/fs.isName
@[go_sem] def c35_0 : Cmd := .ops [⟨some 2, .assign (.const (.bool false)), 4, none⟩]
@[go_sem] def c35_1 : Cmd := .ops [⟨some 5, .move (.tmp 0), 9, none⟩,
    ⟨some 6, .call { callee := (.builtin .len), args := #[(.tmp 5)], argTypes := #[9] }, 3, none⟩,
    ⟨some 7, .binOp .lss 3 (.tmp 6) (.const (.int .i64 1)) 3, 4, none⟩,
    ⟨some 8, .move (.tmp 7), 4, none⟩,
    ⟨some 9, .move (.tmp 0), 9, some (8, false)⟩,
    ⟨some 10, .call { callee := (.builtin .len), args := #[(.tmp 9)], argTypes := #[9] }, 3, some (8, false)⟩,
    ⟨some 11, .binOp .gtr 3 (.tmp 10) (.const (.int .i64 64)) 3, 4, some (8, false)⟩,
    ⟨some 12, .pick (.tmp 8) (.const (.bool true)) (.tmp 11), 4, none⟩]
@[go_sem] def c35_2 : Cmd := .ops [⟨some 2, .assign (.const (.bool false)), 4, none⟩]
@[go_sem] def c35_3 : Cmd := .cond (.tmp 12) (.seq c35_2 .ret) .skip
@[go_sem] def c35_4 : Cmd := .ops [⟨some 13, .move (.tmp 0), 9, none⟩,
    ⟨some 14, .call { callee := (.builtin .len), args := #[(.tmp 13)], argTypes := #[9] }, 3, none⟩,
    ⟨some 15, .move (.const (.int .i64 0)), 3, none⟩]
@[go_sem] def c35_5 : Cmd := .ops [⟨some 16, .binOp .lss 3 (.tmp 15) (.tmp 14) 3, 4, none⟩]
@[go_sem] def c35_6 : Cmd := .cond (.tmp 16) .skip (.exit 0)
@[go_sem] def c35_7 : Cmd := .ops [⟨some 17, .move (.tmp 15), 3, none⟩,
    ⟨some 3, .assign (.tmp 17), 3, none⟩]
@[go_sem] def c35_8 : Cmd := .ops [⟨some 18, .move (.tmp 0), 9, none⟩,
    ⟨some 19, .move (.tmp 3), 3, none⟩,
    ⟨some 20, .index 9 (.tmp 18) (.tmp 19), 5, none⟩,
    ⟨some 4, .assign (.tmp 20), 5, none⟩]
@[go_sem] def c35_9 : Cmd := .ops [⟨some 21, .move (.tmp 4), 5, none⟩,
    ⟨some 22, .binOp .neq 5 (.tmp 21) (.const (.int .u8 46)) 5, 4, none⟩,
    ⟨some 23, .move (.tmp 22), 4, none⟩,
    ⟨some 24, .move (.tmp 4), 5, some (23, true)⟩,
    ⟨some 25, .binOp .lss 5 (.tmp 24) (.const (.int .u8 97)) 5, 4, some (23, true)⟩,
    ⟨some 26, .move (.tmp 25), 4, some (23, true)⟩,
    ⟨some 27, .move (.tmp 4), 5, some (26, false)⟩,
    ⟨some 28, .binOp .gtr 5 (.tmp 27) (.const (.int .u8 122)) 5, 4, some (26, false)⟩,
    ⟨some 29, .pick (.tmp 26) (.const (.bool true)) (.tmp 28), 4, some (23, true)⟩,
    ⟨some 30, .pick (.tmp 23) (.tmp 29) (.const (.bool false)), 4, none⟩,
    ⟨some 31, .move (.tmp 30), 4, none⟩,
    ⟨some 32, .move (.tmp 4), 5, some (31, true)⟩,
    ⟨some 33, .binOp .lss 5 (.tmp 32) (.const (.int .u8 48)) 5, 4, some (31, true)⟩,
    ⟨some 34, .move (.tmp 33), 4, some (31, true)⟩,
    ⟨some 35, .move (.tmp 4), 5, some (34, false)⟩,
    ⟨some 36, .binOp .gtr 5 (.tmp 35) (.const (.int .u8 57)) 5, 4, some (34, false)⟩,
    ⟨some 37, .pick (.tmp 34) (.const (.bool true)) (.tmp 36), 4, some (31, true)⟩,
    ⟨some 38, .pick (.tmp 31) (.tmp 37) (.const (.bool false)), 4, none⟩]
@[go_sem] def c35_10 : Cmd := .ops [⟨some 2, .assign (.const (.bool false)), 4, none⟩]
@[go_sem] def c35_11 : Cmd := .cond (.tmp 38) (.seq c35_10 .ret) .skip
@[go_sem] def c35_12 : Cmd := .block 1 (.seq c35_7 (.seq c35_8 (.seq c35_9 c35_11)))
@[go_sem] def c35_13 : Cmd := .ops [⟨some 39, .binOp .add 3 (.tmp 15) (.const (.int .i64 1)) 3, 3, none⟩,
    ⟨some 15, .move (.tmp 39), 3, none⟩]
def c35_L0 : Cmd := (.seq c35_5 (.seq c35_6 (.seq c35_12 c35_13)))
@[go_sem] def c35_14 : Cmd := .loop c35_L0
@[go_sem] def c35_15 : Cmd := .block 0 c35_14
@[go_sem] def c35_16 : Cmd := .ops [⟨some 2, .assign (.const (.bool true)), 4, none⟩]
@[go_sem] def c35 : Cmd := (.seq c35_0 (.seq (.seq c35_1 c35_3) (.seq (.seq c35_4 c35_15) (.seq c35_16 .ret))))
theorem b35 : Tryd.f35.body.map (comp 40) = some c35 := by kernel_rfl
theorem r35 : Tryd.f35.results.toList = [.tmp 2] := by kernel_rfl
-- 36 pith/files.Open
@[go_sem] def c36_0 : Cmd := .ops [⟨some 4, .assign (.const (.pointer none)), 80, none⟩,
    ⟨some 5, .assign (.const (.slice none 0 0)), 42, none⟩,
    ⟨some 6, .assign (.const (.int .i64 0)), 31, none⟩]
@[go_sem] def c36_1 : Cmd := .ops [⟨some 10, .move (.tmp 0), 25, none⟩,
    ⟨some 11, .move (.tmp 1), 9, none⟩,
    ⟨some 12, .build 109 #[(0, (.tmp 10)), (1, (.tmp 11))], 109, none⟩,
    ⟨some 13, .box 109 (.tmp 12), 80, none⟩,
    ⟨some 7, .assign (.tmp 13), 80, none⟩]
@[go_sem] def c36_2 : Cmd := .ops [⟨some 15, .move (.tmp 7), 80, none⟩,
    ⟨some 16, .call { callee := (.value (.func 57)), args := #[(.tmp 15)], argTypes := #[80] }, 112, none⟩,
    ⟨some 14, .move (.tmp 16), 112, none⟩,
    ⟨some 17, .extract (.tmp 14) 0, 111, none⟩,
    ⟨some 18, .extract (.tmp 14) 1, 31, none⟩,
    ⟨some 8, .alloc 111, 0, none⟩,
    ⟨none, .store 111 (.tmp 8) (.tmp 17), 0, none⟩,
    ⟨some 9, .assign (.tmp 18), 31, none⟩]
@[go_sem] def c36_3 : Cmd := .ops [⟨some 19, .move (.tmp 9), 31, none⟩,
    ⟨some 20, .binOp .eql 31 (.tmp 19) (.const (.int .i64 0)) 31, 4, none⟩,
    ⟨some 21, .move (.tmp 20), 4, none⟩,
    ⟨some 22, .fieldAddr 111 (.tmp 8) 0, 0, some (21, true)⟩,
    ⟨some 23, .load 3 (.tmp 22), 3, some (21, true)⟩,
    ⟨some 24, .binOp .neq 3 (.tmp 23) (.const (.int .i64 1)) 3, 4, some (21, true)⟩,
    ⟨some 25, .pick (.tmp 21) (.tmp 24) (.const (.bool false)), 4, none⟩]
@[go_sem] def c36_4 : Cmd := .ops [⟨some 9, .assign (.const (.int .i64 90)), 31, none⟩]
@[go_sem] def c36_5 : Cmd := .cond (.tmp 25) c36_4 .skip
@[go_sem] def c36_6 : Cmd := .ops [⟨some 26, .move (.tmp 9), 31, none⟩,
    ⟨some 27, .binOp .neq 31 (.tmp 26) (.const (.int .i64 0)) 31, 4, none⟩]
@[go_sem] def c36_7 : Cmd := .ops [⟨some 28, .move (.tmp 9), 31, none⟩,
    ⟨some 4, .assign (.const (.pointer none)), 80, none⟩,
    ⟨some 5, .assign (.const (.slice none 0 0)), 42, none⟩,
    ⟨some 6, .assign (.tmp 28), 31, none⟩]
@[go_sem] def c36_8 : Cmd := .cond (.tmp 27) (.seq c36_7 .ret) .skip
@[go_sem] def c36_9 : Cmd := .quiet [⟨some 29, .move (.tmp 7), 80, none⟩,
    ⟨some 30, .fieldAddr 111 (.tmp 8) 1, 0, none⟩,
    ⟨some 31, .load 42 (.tmp 30), 42, none⟩,
    ⟨some 4, .assign (.tmp 29), 80, none⟩,
    ⟨some 5, .assign (.tmp 31), 42, none⟩,
    ⟨some 6, .assign (.const (.int .i64 0)), 31, none⟩]
@[go_sem] def c36 : Cmd := (.seq c36_0 (.seq c36_1 (.seq c36_2 (.seq (.seq c36_3 c36_5) (.seq (.seq c36_6 c36_8) (.seq c36_9 .ret))))))
theorem b36 : Tryd.f36.body.map (comp 32) = some c36 := by kernel_rfl
theorem r36 : Tryd.f36.results.toList = [.tmp 4, .tmp 5, .tmp 6] := by kernel_rfl
-- 37 (*pith/files.Reader).payloads
@[go_sem] def c37_0 : Cmd := .ops [⟨some 1, .box 80 (.tmp 0), 0, none⟩,
    ⟨some 2, .assign (.const .nilFunc), 84, none⟩]
@[go_sem] def c37_1 : Cmd := .ops [⟨some 3, .makeFunc (.func 58) #[] #[(.tmp 1)], 83, none⟩,
    ⟨some 2, .assign (.tmp 3), 84, none⟩]
@[go_sem] def c37 : Cmd := (.seq c37_0 (.seq c37_1 .ret))
theorem b37 : Tryd.f37.body.map (comp 4) = some c37 := by kernel_rfl
theorem r37 : Tryd.f37.results.toList = [.tmp 2] := by kernel_rfl
-- 38 pith/ckpt.may
@[go_sem] def c38_0 : Cmd := .ops [⟨some 3, .box 28 (.tmp 1), 0, none⟩,
    ⟨some 4, .assign (.const (.bool false)), 4, none⟩]
@[go_sem] def c38_1 : Cmd := .ops [⟨some 7, .move (.tmp 0), 3, none⟩,
    ⟨some 8, .binOp .lss 3 (.tmp 7) (.const (.int .i64 1)) 3, 4, none⟩,
    ⟨some 9, .move (.tmp 8), 4, none⟩,
    ⟨some 10, .move (.tmp 0), 3, some (9, false)⟩,
    ⟨some 11, .binOp .gtr 3 (.tmp 10) (.const (.int .i64 2147483647)) 3, 4, some (9, false)⟩,
    ⟨some 12, .pick (.tmp 9) (.const (.bool true)) (.tmp 11), 4, none⟩,
    ⟨some 13, .move (.tmp 12), 4, none⟩,
    ⟨some 14, .fieldAddr 28 (.tmp 3) 0, 0, some (13, false)⟩,
    ⟨some 15, .load 3 (.tmp 14), 3, some (13, false)⟩,
    ⟨some 16, .binOp .lss 3 (.tmp 15) (.const (.int .i64 0)) 3, 4, some (13, false)⟩,
    ⟨some 17, .pick (.tmp 13) (.const (.bool true)) (.tmp 16), 4, none⟩,
    ⟨some 18, .move (.tmp 17), 4, none⟩,
    ⟨some 19, .fieldAddr 28 (.tmp 3) 0, 0, some (18, false)⟩,
    ⟨some 20, .load 3 (.tmp 19), 3, some (18, false)⟩,
    ⟨some 21, .binOp .gtr 3 (.tmp 20) (.const (.int .i64 2147483647)) 3, 4, some (18, false)⟩,
    ⟨some 22, .pick (.tmp 18) (.const (.bool true)) (.tmp 21), 4, none⟩,
    ⟨some 23, .move (.tmp 22), 4, none⟩,
    ⟨some 24, .fieldAddr 28 (.tmp 3) 1, 0, some (23, false)⟩,
    ⟨some 25, .load 22 (.tmp 24), 22, some (23, false)⟩,
    ⟨some 26, .call { callee := (.builtin .len), args := #[(.tmp 25)], argTypes := #[22] }, 3, some (23, false)⟩,
    ⟨some 27, .binOp .gtr 3 (.tmp 26) (.const (.int .i64 16777216)) 3, 4, some (23, false)⟩,
    ⟨some 28, .pick (.tmp 23) (.const (.bool true)) (.tmp 27), 4, none⟩,
    ⟨some 29, .move (.tmp 28), 4, none⟩,
    ⟨some 30, .fieldAddr 28 (.tmp 3) 2, 0, some (29, false)⟩,
    ⟨some 31, .load 23 (.tmp 30), 23, some (29, false)⟩,
    ⟨some 32, .call { callee := (.builtin .len), args := #[(.tmp 31)], argTypes := #[23] }, 3, some (29, false)⟩,
    ⟨some 33, .binOp .gtr 3 (.tmp 32) (.const (.int .i64 1000)) 3, 4, some (29, false)⟩,
    ⟨some 34, .pick (.tmp 29) (.const (.bool true)) (.tmp 33), 4, none⟩]
@[go_sem] def c38_2 : Cmd := .ops [⟨some 4, .assign (.const (.bool false)), 4, none⟩]
@[go_sem] def c38_3 : Cmd := .cond (.tmp 34) (.seq c38_2 .ret) .skip
@[go_sem] def c38_4 : Cmd := .ops [⟨some 35, .fieldAddr 28 (.tmp 3) 1, 0, none⟩,
    ⟨some 36, .load 22 (.tmp 35), 22, none⟩,
    ⟨some 37, .call { callee := (.builtin .len), args := #[(.tmp 36)], argTypes := #[22] }, 3, none⟩,
    ⟨some 38, .move (.const (.int .i64 0)), 3, none⟩]
@[go_sem] def c38_5 : Cmd := .ops [⟨some 39, .binOp .lss 3 (.tmp 38) (.tmp 37) 3, 0, none⟩]
@[go_sem] def c38_6 : Cmd := .cond (.tmp 39) .skip (.exit 0)
@[go_sem] def c38_7 : Cmd := .ops [⟨some 40, .indexAddr 22 (.tmp 36) (.tmp 38), 0, none⟩,
    ⟨some 41, .load 3 (.tmp 40), 3, none⟩,
    ⟨some 6, .assign (.tmp 41), 3, none⟩]
@[go_sem] def c38_8 : Cmd := .ops [⟨some 42, .move (.tmp 6), 3, none⟩,
    ⟨some 43, .binOp .lss 3 (.tmp 42) (.const (.int .i64 0)) 3, 4, none⟩,
    ⟨some 44, .move (.tmp 43), 4, none⟩,
    ⟨some 45, .move (.tmp 6), 3, some (44, false)⟩,
    ⟨some 46, .binOp .geq 3 (.tmp 45) (.const (.int .i64 16777216)) 3, 4, some (44, false)⟩,
    ⟨some 47, .pick (.tmp 44) (.const (.bool true)) (.tmp 46), 4, none⟩]
@[go_sem] def c38_9 : Cmd := .ops [⟨some 4, .assign (.const (.bool false)), 4, none⟩]
@[go_sem] def c38_10 : Cmd := .cond (.tmp 47) (.seq c38_9 .ret) .skip
@[go_sem] def c38_11 : Cmd := .block 1 (.seq c38_7 (.seq c38_8 c38_10))
@[go_sem] def c38_12 : Cmd := .ops [⟨some 48, .binOp .add 3 (.tmp 38) (.const (.int .i64 1)) 3, 3, none⟩,
    ⟨some 38, .move (.tmp 48), 3, none⟩]
def c38_L0 : Cmd := (.seq c38_5 (.seq c38_6 (.seq c38_11 c38_12)))
@[go_sem] def c38_13 : Cmd := .loop c38_L0
@[go_sem] def c38_14 : Cmd := .block 0 c38_13
@[go_sem] def c38_15 : Cmd := .ops [⟨some 4, .assign (.const (.bool true)), 4, none⟩]
@[go_sem] def c38 : Cmd := (.seq c38_0 (.seq (.seq c38_1 c38_3) (.seq (.seq c38_4 c38_14) (.seq c38_15 .ret))))
theorem b38 : Tryd.f38.body.map (comp 49) = some c38 := by kernel_rfl
theorem r38 : Tryd.f38.results.toList = [.tmp 4] := by kernel_rfl
-- 39 pith/varint.Put
@[go_sem] def c39_0 : Cmd := .ops [⟨some 4, .assign (.const (.slice none 0 0)), 42, none⟩]
@[go_sem] def c39_1 : Cmd := .ops [⟨some 5, .move (.tmp 0), 42, none⟩,
    ⟨some 6, .call { callee := (.value (.func 61)), args := #[(.tmp 5), (.const (.int .i64 9))], argTypes := #[42, 3] }, 42, none⟩,
    ⟨some 7, .move (.tmp 1), 3, none⟩,
    ⟨some 8, .call { callee := (.value (.func 60)), args := #[(.tmp 6), (.tmp 7)], argTypes := #[42, 3] }, 42, none⟩,
    ⟨some 4, .assign (.tmp 8), 42, none⟩]
@[go_sem] def c39 : Cmd := (.seq c39_0 (.seq c39_1 .ret))
theorem b39 : Tryd.f39.body.map (comp 9) = some c39 := by kernel_rfl
theorem r39 : Tryd.f39.results.toList = [.tmp 4] := by kernel_rfl
-- 40 (pith/ckpt.numbers).bytes
@[go_sem] def c40_0 : Cmd := .ops [⟨some 1, .box 89 (.tmp 0), 0, none⟩,
    ⟨some 2, .assign (.const (.slice none 0 0)), 42, none⟩]
@[go_sem] def c40_1 : Cmd := .ops [⟨some 3, .assign (.const (.slice none 0 0)), 42, none⟩]
@[go_sem] def c40_2 : Cmd := .ops [⟨some 6, .load 89 (.tmp 1), 89, none⟩,
    ⟨some 7, .move (.const (.int .i64 0)), 3, none⟩]
@[go_sem] def c40_3 : Cmd := .ops [⟨some 8, .binOp .lss 3 (.tmp 7) (.const (.int .i64 4)) 3, 0, none⟩]
@[go_sem] def c40_4 : Cmd := .cond (.tmp 8) .skip (.exit 0)
@[go_sem] def c40_5 : Cmd := .ops [⟨some 9, .index 89 (.tmp 6) (.tmp 7), 3, none⟩,
    ⟨some 5, .assign (.tmp 9), 3, none⟩]
@[go_sem] def c40_6 : Cmd := .ops [⟨some 10, .move (.tmp 3), 42, none⟩,
    ⟨some 11, .move (.tmp 5), 3, none⟩,
    ⟨some 12, .binOp .shr 3 (.tmp 11) (.const (.int .u64 24)) 47, 3, none⟩,
    ⟨some 13, .convert 3 5 (.tmp 12), 5, none⟩,
    ⟨some 14, .move (.tmp 5), 3, none⟩,
    ⟨some 15, .binOp .shr 3 (.tmp 14) (.const (.int .u64 16)) 47, 3, none⟩,
    ⟨some 16, .convert 3 5 (.tmp 15), 5, none⟩,
    ⟨some 17, .move (.tmp 5), 3, none⟩,
    ⟨some 18, .binOp .shr 3 (.tmp 17) (.const (.int .u64 8)) 47, 3, none⟩,
    ⟨some 19, .convert 3 5 (.tmp 18), 5, none⟩,
    ⟨some 20, .move (.tmp 5), 3, none⟩,
    ⟨some 21, .convert 3 5 (.tmp 20), 5, none⟩,
    ⟨some 22, .buildSlice 42 4 #[(0, (.tmp 13)), (1, (.tmp 16)), (2, (.tmp 19)), (3, (.tmp 21))], 42, none⟩,
    ⟨some 23, .call { callee := (.builtin .append), args := #[(.tmp 10), (.tmp 22)], argTypes := #[42, 42] }, 42, none⟩,
    ⟨some 3, .assign (.tmp 23), 42, none⟩]
@[go_sem] def c40_7 : Cmd := .block 1 (.seq c40_5 c40_6)
@[go_sem] def c40_8 : Cmd := .ops [⟨some 24, .binOp .add 3 (.tmp 7) (.const (.int .i64 1)) 3, 3, none⟩,
    ⟨some 7, .move (.tmp 24), 3, none⟩]
def c40_L0 : Cmd := (.seq c40_3 (.seq c40_4 (.seq c40_7 c40_8)))
@[go_sem] def c40_9 : Cmd := .loop c40_L0
@[go_sem] def c40_10 : Cmd := .block 0 c40_9
@[go_sem] def c40_11 : Cmd := .ops [⟨some 25, .move (.tmp 3), 42, none⟩,
    ⟨some 2, .assign (.tmp 25), 42, none⟩]
@[go_sem] def c40 : Cmd := (.seq c40_0 (.seq c40_1 (.seq (.seq c40_2 c40_10) (.seq c40_11 .ret))))
theorem b40 : Tryd.f40.body.map (comp 26) = some c40 := by kernel_rfl
theorem r40 : Tryd.f40.results.toList = [.tmp 2] := by kernel_rfl
-- 41 pith/ckpt.read
@[go_sem] def c41_0 : Cmd := .ops [⟨some 2, .alloc 89, 0, none⟩,
    ⟨some 3, .assign (.const (.bool false)), 4, none⟩]
@[go_sem] def c41_1 : Cmd := .ops [⟨some 4, .alloc 89, 0, none⟩]
@[go_sem] def c41_2 : Cmd := .ops [⟨some 7, .move (.tmp 0), 42, none⟩,
    ⟨some 8, .call { callee := (.builtin .len), args := #[(.tmp 7)], argTypes := #[42] }, 3, none⟩,
    ⟨some 9, .binOp .neq 3 (.tmp 8) (.const (.int .i64 16)) 3, 4, none⟩]
@[go_sem] def c41_3 : Cmd := .ops [⟨some 10, .load 89 (.tmp 4), 89, none⟩,
    ⟨none, .store 89 (.tmp 2) (.tmp 10), 0, none⟩,
    ⟨some 3, .assign (.const (.bool false)), 4, none⟩]
@[go_sem] def c41_4 : Cmd := .cond (.tmp 9) (.seq c41_3 .ret) .skip
@[go_sem] def c41_5 : Cmd := .ops [⟨some 11, .move (.const (.int .i64 0)), 3, none⟩]
@[go_sem] def c41_6 : Cmd := .ops [⟨some 12, .binOp .lss 3 (.tmp 11) (.const (.int .i64 4)) 3, 0, none⟩]
@[go_sem] def c41_7 : Cmd := .cond (.tmp 12) .skip (.exit 0)
@[go_sem] def c41_8 : Cmd := .ops [⟨some 13, .move (.tmp 11), 3, none⟩,
    ⟨some 5, .assign (.tmp 13), 3, none⟩]
@[go_sem] def c41_9 : Cmd := .ops [⟨some 14, .move (.tmp 0), 42, none⟩,
    ⟨some 15, .move (.tmp 5), 3, none⟩,
    ⟨some 16, .binOp .mul 3 (.const (.int .i64 4)) (.tmp 15) 3, 3, none⟩,
    ⟨some 17, .move (.tmp 5), 3, none⟩,
    ⟨some 18, .binOp .mul 3 (.const (.int .i64 4)) (.tmp 17) 3, 3, none⟩,
    ⟨some 19, .binOp .add 3 (.tmp 18) (.const (.int .i64 4)) 3, 3, none⟩,
    ⟨some 20, .move (.tmp 5), 3, none⟩,
    ⟨some 21, .binOp .mul 3 (.const (.int .i64 4)) (.tmp 20) 3, 3, none⟩,
    ⟨some 22, .binOp .add 3 (.tmp 21) (.const (.int .i64 4)) 3, 3, none⟩,
    ⟨some 23, .slice 42 (.tmp 14) (some (.tmp 16)) (some (.tmp 19)) (some (.tmp 22)), 42, none⟩,
    ⟨some 6, .assign (.tmp 23), 42, none⟩]
@[go_sem] def c41_10 : Cmd := .still 23 [⟨some 24, .move (.tmp 5), 3, none⟩,
    ⟨some 25, .move (.tmp 6), 42, none⟩,
    ⟨some 26, .indexAddr 42 (.tmp 25) (.const (.int .i64 0)), 0, none⟩,
    ⟨some 27, .load 5 (.tmp 26), 5, none⟩,
    ⟨some 28, .convert 5 3 (.tmp 27), 3, none⟩,
    ⟨some 29, .binOp .shl 3 (.tmp 28) (.const (.int .u64 24)) 47, 3, none⟩,
    ⟨some 30, .move (.tmp 6), 42, none⟩,
    ⟨some 31, .indexAddr 42 (.tmp 30) (.const (.int .i64 1)), 0, none⟩,
    ⟨some 32, .load 5 (.tmp 31), 5, none⟩,
    ⟨some 33, .convert 5 3 (.tmp 32), 3, none⟩,
    ⟨some 34, .binOp .shl 3 (.tmp 33) (.const (.int .u64 16)) 47, 3, none⟩,
    ⟨some 35, .binOp .add 3 (.tmp 29) (.tmp 34) 3, 3, none⟩,
    ⟨some 36, .move (.tmp 6), 42, none⟩,
    ⟨some 37, .indexAddr 42 (.tmp 36) (.const (.int .i64 2)), 0, none⟩,
    ⟨some 38, .load 5 (.tmp 37), 5, none⟩,
    ⟨some 39, .convert 5 3 (.tmp 38), 3, none⟩,
    ⟨some 40, .binOp .shl 3 (.tmp 39) (.const (.int .u64 8)) 47, 3, none⟩,
    ⟨some 41, .binOp .add 3 (.tmp 35) (.tmp 40) 3, 3, none⟩,
    ⟨some 42, .move (.tmp 6), 42, none⟩,
    ⟨some 43, .indexAddr 42 (.tmp 42) (.const (.int .i64 3)), 0, none⟩,
    ⟨some 44, .load 5 (.tmp 43), 5, none⟩,
    ⟨some 45, .convert 5 3 (.tmp 44), 3, none⟩,
    ⟨some 46, .binOp .add 3 (.tmp 41) (.tmp 45) 3, 3, none⟩,
    ⟨some 47, .indexAddr 89 (.tmp 4) (.tmp 24), 0, none⟩,
    ⟨none, .store 3 (.tmp 47) (.tmp 46), 0, none⟩]
@[go_sem] def c41_11 : Cmd := .block 1 (.seq c41_8 (.seq c41_9 c41_10))
@[go_sem] def c41_12 : Cmd := .ops [⟨some 48, .binOp .add 3 (.tmp 11) (.const (.int .i64 1)) 3, 3, none⟩,
    ⟨some 11, .move (.tmp 48), 3, none⟩]
def c41_L0 : Cmd := (.seq c41_6 (.seq c41_7 (.seq c41_11 c41_12)))
@[go_sem] def c41_13 : Cmd := .loop c41_L0
@[go_sem] def c41_14 : Cmd := .block 0 c41_13
@[go_sem] def c41_15 : Cmd := .ops [⟨some 49, .load 89 (.tmp 4), 89, none⟩,
    ⟨none, .store 89 (.tmp 2) (.tmp 49), 0, none⟩,
    ⟨some 3, .assign (.const (.bool true)), 4, none⟩]
@[go_sem] def c41 : Cmd := (.seq c41_0 (.seq c41_1 (.seq (.seq c41_2 c41_4) (.seq (.seq c41_5 c41_14) (.seq c41_15 .ret)))))
theorem b41 : Tryd.f41.body.map (comp 50) = some c41 := by kernel_rfl
theorem r41 : Tryd.f41.results.toList = [.cell 2 89, .tmp 3] := by kernel_rfl
-- 42 pith/ckpt.bounds
@[go_sem] def c42_0 : Cmd := .ops [⟨some 4, .assign (.const (.slice none 0 0)), 22, none⟩,
    ⟨some 5, .assign (.const (.slice none 0 0)), 49, none⟩,
    ⟨some 6, .assign (.const (.bool false)), 4, none⟩]
@[go_sem] def c42_1 : Cmd := .ops [⟨some 7, .assign (.const (.slice none 0 0)), 22, none⟩]
@[go_sem] def c42_2 : Cmd := .ops [⟨some 12, .move (.tmp 7), 22, none⟩,
    ⟨some 13, .call { callee := (.builtin .len), args := #[(.tmp 12)], argTypes := #[22] }, 3, none⟩,
    ⟨some 14, .move (.tmp 0), 3, none⟩,
    ⟨some 15, .binOp .lss 3 (.tmp 13) (.tmp 14) 3, 4, none⟩]
@[go_sem] def c42_3 : Cmd := .cond (.tmp 15) .skip (.exit 0)
@[go_sem] def c42_4 : Cmd := .ops [⟨some 16, .move (.tmp 1), 49, none⟩,
    ⟨some 17, .call { callee := (.builtin .len), args := #[(.tmp 16)], argTypes := #[49] }, 3, none⟩,
    ⟨some 18, .binOp .eql 3 (.tmp 17) (.const (.int .i64 0)) 3, 4, none⟩]
@[go_sem] def c42_5 : Cmd := .ops [⟨some 4, .assign (.const (.slice none 0 0)), 22, none⟩,
    ⟨some 5, .assign (.const (.slice none 0 0)), 49, none⟩,
    ⟨some 6, .assign (.const (.bool false)), 4, none⟩]
@[go_sem] def c42_6 : Cmd := .cond (.tmp 18) (.seq c42_5 .ret) .skip
@[go_sem] def c42_7 : Cmd := .ops [⟨some 19, .move (.tmp 1), 49, none⟩,
    ⟨some 20, .indexAddr 49 (.tmp 19) (.const (.int .i64 0)), 0, none⟩,
    ⟨some 21, .load 42 (.tmp 20), 42, none⟩,
    ⟨some 22, .call { callee := (.value (.func 62)), args := #[(.tmp 21)], argTypes := #[42] }, 117, none⟩,
    ⟨some 8, .assign (.tmp 22), 117, none⟩]
@[go_sem] def c42_8 : Cmd := .ops [⟨some 23, .move (.tmp 1), 49, none⟩,
    ⟨some 24, .slice 49 (.tmp 23) (some (.const (.int .i64 1))) none none, 49, none⟩,
    ⟨some 1, .assign (.tmp 24), 49, none⟩]
@[go_sem] def c42_9 : Cmd := .ops [⟨some 25, .move (.tmp 0), 3, none⟩,
    ⟨some 26, .move (.tmp 7), 22, none⟩,
    ⟨some 27, .call { callee := (.builtin .len), args := #[(.tmp 26)], argTypes := #[22] }, 3, none⟩,
    ⟨some 28, .binOp .sub 3 (.tmp 25) (.tmp 27) 3, 3, none⟩,
    ⟨some 29, .call { callee := (.builtin .min), args := #[(.const (.int .i64 200)), (.tmp 28)], argTypes := #[3, 3] }, 3, none⟩,
    ⟨some 9, .assign (.tmp 29), 3, none⟩]
@[go_sem] def c42_10 : Cmd := .ops [⟨some 30, .move (.tmp 9), 3, none⟩,
    ⟨some 31, .binOp .gtr 3 (.tmp 30) (.const (.int .i64 0)) 3, 4, none⟩]
@[go_sem] def c42_11 : Cmd := .cond (.tmp 31) .skip (.exit 2)
@[go_sem] def c42_12 : Cmd := .ops [⟨some 34, .move (.tmp 7), 22, none⟩,
    ⟨some 35, .move (.tmp 8), 117, none⟩,
    ⟨some 36, .call { callee := (.value (.func 63)), args := #[(.tmp 35)], argTypes := #[117] }, 3, none⟩,
    ⟨some 37, .buildSlice 22 1 #[(0, (.tmp 36))], 22, none⟩,
    ⟨some 38, .call { callee := (.builtin .append), args := #[(.tmp 34), (.tmp 37)], argTypes := #[22, 22] }, 22, none⟩,
    ⟨some 7, .assign (.tmp 38), 22, none⟩]
@[go_sem] def c42_13 : Cmd := .block 3 c42_12
@[go_sem] def c42_14 : Cmd := .ops [⟨some 32, .move (.tmp 9), 3, none⟩,
    ⟨some 33, .binOp .sub 3 (.tmp 32) (.const (.int .i64 1)) 3, 3, none⟩,
    ⟨some 9, .assign (.tmp 33), 3, none⟩]
def c42_L0 : Cmd := (.seq (.seq c42_10 c42_11) (.seq c42_13 c42_14))
@[go_sem] def c42_15 : Cmd := .loop c42_L0
@[go_sem] def c42_16 : Cmd := .block 2 c42_15
@[go_sem] def c42_17 : Cmd := .ops [⟨some 40, .move (.tmp 8), 117, none⟩,
    ⟨some 41, .call { callee := (.value (.func 64)), args := #[(.tmp 40)], argTypes := #[117] }, 119, none⟩,
    ⟨some 39, .move (.tmp 41), 119, none⟩,
    ⟨some 42, .extract (.tmp 39) 0, 31, none⟩,
    ⟨some 43, .extract (.tmp 39) 1, 3, none⟩,
    ⟨some 10, .assign (.tmp 42), 31, none⟩,
    ⟨some 11, .assign (.tmp 43), 3, none⟩]
@[go_sem] def c42_18 : Cmd := .ops [⟨some 44, .move (.tmp 10), 31, none⟩,
    ⟨some 45, .binOp .neq 31 (.tmp 44) (.const (.int .i64 0)) 31, 4, none⟩,
    ⟨some 46, .move (.tmp 45), 4, none⟩,
    ⟨some 47, .move (.tmp 8), 117, some (46, false)⟩,
    ⟨some 48, .call { callee := (.value (.func 65)), args := #[(.tmp 47)], argTypes := #[117] }, 3, some (46, false)⟩,
    ⟨some 49, .binOp .gtr 3 (.tmp 48) (.const (.int .i64 0)) 3, 4, some (46, false)⟩,
    ⟨some 50, .pick (.tmp 46) (.const (.bool true)) (.tmp 49), 4, none⟩]
@[go_sem] def c42_19 : Cmd := .ops [⟨some 4, .assign (.const (.slice none 0 0)), 22, none⟩,
    ⟨some 5, .assign (.const (.slice none 0 0)), 49, none⟩,
    ⟨some 6, .assign (.const (.bool false)), 4, none⟩]
@[go_sem] def c42_20 : Cmd := .cond (.tmp 50) (.seq c42_19 .ret) .skip
@[go_sem] def c42_21 : Cmd := .block 1 (.seq (.seq c42_4 c42_6) (.seq c42_7 (.seq c42_8 (.seq (.seq c42_9 c42_16) (.seq c42_17 (.seq c42_18 c42_20))))))
def c42_L1 : Cmd := (.seq (.seq c42_2 c42_3) c42_21)
@[go_sem] def c42_22 : Cmd := .loop c42_L1
@[go_sem] def c42_23 : Cmd := .block 0 c42_22
@[go_sem] def c42_24 : Cmd := .ops [⟨some 51, .move (.tmp 7), 22, none⟩,
    ⟨some 52, .move (.tmp 1), 49, none⟩,
    ⟨some 4, .assign (.tmp 51), 22, none⟩,
    ⟨some 5, .assign (.tmp 52), 49, none⟩,
    ⟨some 6, .assign (.const (.bool true)), 4, none⟩]
@[go_sem] def c42 : Cmd := (.seq c42_0 (.seq c42_1 (.seq c42_23 (.seq c42_24 .ret))))
theorem b42 : Tryd.f42.body.map (comp 53) = some c42 := by kernel_rfl
theorem r42 : Tryd.f42.results.toList = [.tmp 4, .tmp 5, .tmp 6] := by kernel_rfl
-- 43 pith/ckpt.dirty
@[go_sem] def c43_0 : Cmd := .ops [⟨some 4, .assign (.const (.slice none 0 0)), 23, none⟩,
    ⟨some 5, .assign (.const (.bool false)), 4, none⟩]
@[go_sem] def c43_1 : Cmd := .ops [⟨some 9, .move (.tmp 0), 3, none⟩,
    ⟨some 10, .binOp .eql 3 (.tmp 9) (.const (.int .i64 0)) 3, 4, none⟩]
@[go_sem] def c43_2 : Cmd := .ops [⟨some 11, .move (.tmp 1), 49, none⟩,
    ⟨some 12, .call { callee := (.builtin .len), args := #[(.tmp 11)], argTypes := #[49] }, 3, none⟩,
    ⟨some 13, .binOp .eql 3 (.tmp 12) (.const (.int .i64 0)) 3, 4, none⟩,
    ⟨some 4, .assign (.const (.slice none 0 0)), 23, none⟩,
    ⟨some 5, .assign (.tmp 13), 4, none⟩]
@[go_sem] def c43_3 : Cmd := .cond (.tmp 10) (.seq c43_2 .ret) .skip
@[go_sem] def c43_4 : Cmd := .ops [⟨some 14, .move (.tmp 1), 49, none⟩,
    ⟨some 15, .call { callee := (.builtin .len), args := #[(.tmp 14)], argTypes := #[49] }, 3, none⟩,
    ⟨some 16, .binOp .neq 3 (.tmp 15) (.const (.int .i64 1)) 3, 4, none⟩,
    ⟨some 17, .move (.tmp 16), 4, none⟩,
    ⟨some 18, .move (.tmp 1), 49, some (17, false)⟩,
    ⟨some 19, .indexAddr 49 (.tmp 18) (.const (.int .i64 0)), 0, some (17, false)⟩,
    ⟨some 20, .load 42 (.tmp 19), 42, some (17, false)⟩,
    ⟨some 21, .call { callee := (.builtin .len), args := #[(.tmp 20)], argTypes := #[42] }, 3, some (17, false)⟩,
    ⟨some 22, .move (.tmp 0), 3, some (17, false)⟩,
    ⟨some 23, .binOp .neq 3 (.tmp 21) (.tmp 22) 3, 4, some (17, false)⟩,
    ⟨some 24, .pick (.tmp 17) (.const (.bool true)) (.tmp 23), 4, none⟩]
@[go_sem] def c43_5 : Cmd := .ops [⟨some 4, .assign (.const (.slice none 0 0)), 23, none⟩,
    ⟨some 5, .assign (.const (.bool false)), 4, none⟩]
@[go_sem] def c43_6 : Cmd := .cond (.tmp 24) (.seq c43_5 .ret) .skip
@[go_sem] def c43_7 : Cmd := .ops [⟨some 25, .move (.tmp 0), 3, none⟩,
    ⟨some 26, .makeSlice 23 (.tmp 25) (.tmp 25), 23, none⟩,
    ⟨some 6, .assign (.tmp 26), 23, none⟩]
@[go_sem] def c43_8 : Cmd := .ops [⟨some 27, .move (.tmp 1), 49, none⟩,
    ⟨some 28, .indexAddr 49 (.tmp 27) (.const (.int .i64 0)), 0, none⟩,
    ⟨some 29, .load 42 (.tmp 28), 42, none⟩,
    ⟨some 30, .call { callee := (.builtin .len), args := #[(.tmp 29)], argTypes := #[42] }, 3, none⟩,
    ⟨some 31, .move (.const (.int .i64 0)), 3, none⟩]
@[go_sem] def c43_9 : Cmd := .ops [⟨some 32, .binOp .lss 3 (.tmp 31) (.tmp 30) 3, 0, none⟩]
@[go_sem] def c43_10 : Cmd := .cond (.tmp 32) .skip (.exit 0)
@[go_sem] def c43_11 : Cmd := .ops [⟨some 33, .move (.tmp 31), 3, none⟩,
    ⟨some 34, .indexAddr 42 (.tmp 29) (.tmp 31), 0, none⟩,
    ⟨some 35, .load 5 (.tmp 34), 5, none⟩,
    ⟨some 7, .assign (.tmp 33), 3, none⟩,
    ⟨some 8, .assign (.tmp 35), 5, none⟩]
@[go_sem] def c43_12 : Cmd := .ops [⟨some 36, .move (.tmp 8), 5, none⟩,
    ⟨some 37, .binOp .gtr 5 (.tmp 36) (.const (.int .u8 1)) 5, 4, none⟩]
@[go_sem] def c43_13 : Cmd := .ops [⟨some 4, .assign (.const (.slice none 0 0)), 23, none⟩,
    ⟨some 5, .assign (.const (.bool false)), 4, none⟩]
@[go_sem] def c43_14 : Cmd := .cond (.tmp 37) (.seq c43_13 .ret) .skip
@[go_sem] def c43_15 : Cmd := .ops [⟨some 38, .move (.tmp 6), 23, none⟩,
    ⟨some 39, .move (.tmp 7), 3, none⟩,
    ⟨some 40, .move (.tmp 8), 5, none⟩,
    ⟨some 41, .binOp .eql 5 (.tmp 40) (.const (.int .u8 1)) 5, 4, none⟩,
    ⟨some 42, .indexAddr 23 (.tmp 38) (.tmp 39), 0, none⟩,
    ⟨none, .store 4 (.tmp 42) (.tmp 41), 0, none⟩]
@[go_sem] def c43_16 : Cmd := .block 1 (.seq c43_11 (.seq (.seq c43_12 c43_14) c43_15))
@[go_sem] def c43_17 : Cmd := .ops [⟨some 43, .binOp .add 3 (.tmp 31) (.const (.int .i64 1)) 3, 3, none⟩,
    ⟨some 31, .move (.tmp 43), 3, none⟩]
def c43_L0 : Cmd := (.seq c43_9 (.seq c43_10 (.seq c43_16 c43_17)))
@[go_sem] def c43_18 : Cmd := .loop c43_L0
@[go_sem] def c43_19 : Cmd := .block 0 c43_18
@[go_sem] def c43_20 : Cmd := .ops [⟨some 44, .move (.tmp 6), 23, none⟩,
    ⟨some 4, .assign (.tmp 44), 23, none⟩,
    ⟨some 5, .assign (.const (.bool true)), 4, none⟩]
@[go_sem] def c43 : Cmd := (.seq c43_0 (.seq (.seq c43_1 c43_3) (.seq (.seq c43_4 c43_6) (.seq c43_7 (.seq (.seq c43_8 c43_19) (.seq c43_20 .ret))))))
theorem b43 : Tryd.f43.body.map (comp 45) = some c43 := by kernel_rfl
theorem r43 : Tryd.f43.results.toList = [.tmp 4, .tmp 5] := by kernel_rfl
-- 44 strconv.Itoa
@[go_sem] def c44_0 : Cmd := .ops [⟨some 2, .assign (.const (.string ⟨#[]⟩)), 9, none⟩]
@[go_sem] def c44_1 : Cmd := .ops [⟨some 3, .move (.tmp 0), 3, none⟩,
    ⟨some 4, .call { callee := (.value (.func 66)), args := #[(.tmp 3)], argTypes := #[3] }, 9, none⟩,
    ⟨some 2, .assign (.tmp 4), 9, none⟩]
@[go_sem] def c44 : Cmd := (.seq c44_0 (.seq c44_1 .ret))
theorem b44 : Tryd.f44.body.map (comp 5) = some c44 := by kernel_rfl
theorem r44 : Tryd.f44.results.toList = [.tmp 2] := by kernel_rfl
-- 45 pith/files.there
@[go_sem] def c45_0 : Cmd := .ops [⟨some 4, .assign (.const (.bool false)), 4, none⟩]
@[go_sem] def c45_1 : Cmd := .ops [⟨some 8, .move (.tmp 0), 25, none⟩,
    ⟨some 9, .move (.tmp 1), 9, none⟩,
    ⟨some 10, .call { callee := (.value (.func 13)), args := #[(.tmp 8), (.tmp 9)], argTypes := #[25, 9] }, 40, none⟩,
    ⟨some 7, .move (.tmp 10), 40, none⟩,
    ⟨some 11, .extract (.tmp 7) 0, 3, none⟩,
    ⟨some 12, .extract (.tmp 7) 1, 31, none⟩,
    ⟨some 5, .assign (.tmp 11), 3, none⟩,
    ⟨some 6, .assign (.tmp 12), 31, none⟩]
@[go_sem] def c45_2 : Cmd := .ops [⟨some 13, .move (.tmp 6), 31, none⟩,
    ⟨some 14, .binOp .eql 31 (.tmp 13) (.const (.int .i64 0)) 31, 4, none⟩,
    ⟨some 4, .assign (.tmp 14), 4, none⟩]
@[go_sem] def c45 : Cmd := (.seq c45_0 (.seq c45_1 (.seq c45_2 .ret)))
theorem b45 : Tryd.f45.body.map (comp 15) = some c45 := by kernel_rfl
theorem r45 : Tryd.f45.results.toList = [.tmp 4] := by kernel_rfl
-- 46 pith/files.Publish$1
@[go_sem] def c46_0 : Cmd := .ops [⟨some 4, .assign (.const (.int .i64 0)), 31, none⟩]
@[go_sem] def c46_1 : Cmd := .ops [⟨some 6, .load 25 (.tmp 0), 25, none⟩,
    ⟨some 7, .load 9 (.tmp 1), 9, none⟩,
    ⟨some 8, .load 42 (.tmp 2), 42, none⟩,
    ⟨some 9, .call { callee := (.value (.func 47)), args := #[(.tmp 6), (.tmp 7), (.tmp 8)], argTypes := #[25, 9, 42] }, 99, none⟩,
    ⟨some 5, .move (.tmp 9), 99, none⟩,
    ⟨some 10, .extract (.tmp 5) 0, 98, none⟩,
    ⟨some 11, .extract (.tmp 5) 1, 31, none⟩,
    ⟨none, .store 98 (.tmp 3) (.tmp 10), 0, none⟩,
    ⟨some 4, .assign (.tmp 11), 31, none⟩]
@[go_sem] def c46_2 : Cmd := .ops [⟨some 12, .move (.tmp 4), 31, none⟩,
    ⟨some 4, .assign (.tmp 12), 31, none⟩]
@[go_sem] def c46 : Cmd := (.seq c46_0 (.seq c46_1 (.seq c46_2 .ret)))
theorem b46 : Tryd.f46.body.map (comp 13) = some c46 := by kernel_rfl
theorem r46 : Tryd.f46.results.toList = [.tmp 4] := by kernel_rfl
-- 47 pith/files.Begin
@[go_sem] def c47_0 : Cmd := .ops [⟨some 6, .assign (.const (.pointer none)), 98, none⟩,
    ⟨some 7, .assign (.const (.int .i64 0)), 31, none⟩]
@[go_sem] def c47_1 : Cmd := .ops [⟨some 11, .move (.tmp 2), 42, none⟩,
    ⟨some 12, .call { callee := (.builtin .len), args := #[(.tmp 11)], argTypes := #[42] }, 3, none⟩,
    ⟨some 13, .binOp .gtr 3 (.tmp 12) (.const (.int .i64 1024)) 3, 4, none⟩]
@[go_sem] def c47_2 : Cmd := .ops [⟨some 6, .assign (.const (.pointer none)), 98, none⟩,
    ⟨some 7, .assign (.const (.int .i64 31)), 31, none⟩]
@[go_sem] def c47_3 : Cmd := .cond (.tmp 13) (.seq c47_2 .ret) .skip
@[go_sem] def c47_4 : Cmd := .ops [⟨some 14, .move (.tmp 0), 25, none⟩,
    ⟨some 15, .move (.tmp 1), 9, none⟩,
    ⟨some 16, .call { callee := (.value (.func 15)), args := #[(.tmp 14), (.tmp 15)], argTypes := #[25, 9] }, 31, none⟩,
    ⟨some 8, .assign (.tmp 16), 31, none⟩]
@[go_sem] def c47_5 : Cmd := .ops [⟨some 17, .move (.tmp 8), 31, none⟩,
    ⟨some 18, .binOp .neq 31 (.tmp 17) (.const (.int .i64 0)) 31, 4, none⟩]
@[go_sem] def c47_6 : Cmd := .ops [⟨some 19, .move (.tmp 8), 31, none⟩,
    ⟨some 6, .assign (.const (.pointer none)), 98, none⟩,
    ⟨some 7, .assign (.tmp 19), 31, none⟩]
@[go_sem] def c47_7 : Cmd := .cond (.tmp 18) (.seq c47_6 .ret) .skip
@[go_sem] def c47_8 : Cmd := .ops [⟨some 20, .move (.tmp 0), 25, none⟩,
    ⟨some 21, .move (.tmp 1), 9, none⟩,
    ⟨some 22, .build 122 #[(0, (.tmp 20)), (1, (.tmp 21))], 122, none⟩,
    ⟨some 23, .box 122 (.tmp 22), 98, none⟩,
    ⟨some 9, .assign (.tmp 23), 98, none⟩]
@[go_sem] def c47_9 : Cmd := .ops [⟨some 24, .move (.tmp 9), 98, none⟩,
    ⟨some 25, .move (.tmp 2), 42, none⟩,
    ⟨some 26, .call { callee := (.value (.func 67)), args := #[(.tmp 24), (.const (.int .i64 1)), (.tmp 25)], argTypes := #[98, 3, 42] }, 31, none⟩,
    ⟨some 10, .assign (.tmp 26), 31, none⟩]
@[go_sem] def c47_10 : Cmd := .ops [⟨some 27, .move (.tmp 10), 31, none⟩,
    ⟨some 28, .binOp .neq 31 (.tmp 27) (.const (.int .i64 0)) 31, 4, none⟩]
@[go_sem] def c47_11 : Cmd := .ops [⟨some 29, .move (.tmp 10), 31, none⟩,
    ⟨some 6, .assign (.const (.pointer none)), 98, none⟩,
    ⟨some 7, .assign (.tmp 29), 31, none⟩]
@[go_sem] def c47_12 : Cmd := .cond (.tmp 28) (.seq c47_11 .ret) .skip
@[go_sem] def c47_13 : Cmd := .ops [⟨some 30, .move (.tmp 9), 98, none⟩,
    ⟨some 6, .assign (.tmp 30), 98, none⟩,
    ⟨some 7, .assign (.const (.int .i64 0)), 31, none⟩]
@[go_sem] def c47 : Cmd := (.seq c47_0 (.seq (.seq c47_1 c47_3) (.seq (.seq c47_4 (.seq c47_5 c47_7)) (.seq c47_8 (.seq (.seq c47_9 (.seq c47_10 c47_12)) (.seq c47_13 .ret))))))
theorem b47 : Tryd.f47.body.map (comp 31) = some c47 := by kernel_rfl
theorem r47 : Tryd.f47.results.toList = [.tmp 6, .tmp 7] := by kernel_rfl
-- 48 pith/files.Publish$2
@[go_sem] def c48_0 : Cmd := .ops [⟨some 2, .assign (.const (.int .i64 0)), 31, none⟩]
@[go_sem] def c48_1 : Cmd := .ops [⟨some 3, .load 98 (.tmp 0), 98, none⟩,
    ⟨some 4, .load 42 (.tmp 1), 42, none⟩,
    ⟨some 5, .call { callee := (.value (.func 49)), args := #[(.tmp 3), (.tmp 4)], argTypes := #[98, 42] }, 31, none⟩,
    ⟨some 2, .assign (.tmp 5), 31, none⟩]
@[go_sem] def c48 : Cmd := (.seq c48_0 (.seq c48_1 .ret))
theorem b48 : Tryd.f48.body.map (comp 6) = some c48 := by kernel_rfl
theorem r48 : Tryd.f48.results.toList = [.tmp 2] := by kernel_rfl
-- 49 (*pith/files.Writer).Put
@[go_sem] def c49_0 : Cmd := .ops [⟨some 4, .assign (.const (.int .i64 0)), 31, none⟩]
@[go_sem] def c49_1 : Cmd := .ops [⟨some 6, .move (.tmp 0), 98, none⟩,
    ⟨some 7, .nilCheck (.tmp 6), 0, none⟩,
    ⟨some 8, .fieldAddr 122 (.tmp 7) 5, 0, none⟩,
    ⟨some 9, .load 4 (.tmp 8), 4, none⟩]
@[go_sem] def c49_2 : Cmd := .ops [⟨some 4, .assign (.const (.int .i64 91)), 31, none⟩]
@[go_sem] def c49_3 : Cmd := .cond (.tmp 9) (.seq c49_2 .ret) .skip
@[go_sem] def c49_4 : Cmd := .ops [⟨some 10, .move (.tmp 0), 98, none⟩,
    ⟨some 11, .move (.tmp 1), 42, none⟩,
    ⟨some 12, .call { callee := (.value (.func 67)), args := #[(.tmp 10), (.const (.int .i64 2)), (.tmp 11)], argTypes := #[98, 3, 42] }, 31, none⟩,
    ⟨some 5, .assign (.tmp 12), 31, none⟩]
@[go_sem] def c49_5 : Cmd := .ops [⟨some 13, .move (.tmp 5), 31, none⟩,
    ⟨some 14, .binOp .eql 31 (.tmp 13) (.const (.int .i64 0)) 31, 4, none⟩]
@[go_sem] def c49_6 : Cmd := .ops [⟨some 15, .move (.tmp 0), 98, none⟩,
    ⟨some 16, .nilCheck (.tmp 15), 0, none⟩,
    ⟨some 17, .fieldAddr 122 (.tmp 16) 4, 0, none⟩,
    ⟨some 18, .load 3 (.tmp 17), 3, none⟩,
    ⟨some 19, .binOp .add 3 (.tmp 18) (.const (.int .i64 1)) 3, 3, none⟩,
    ⟨some 20, .nilCheck (.tmp 15), 0, none⟩,
    ⟨some 21, .fieldAddr 122 (.tmp 20) 4, 0, none⟩,
    ⟨none, .store 3 (.tmp 21) (.tmp 19), 0, none⟩]
@[go_sem] def c49_7 : Cmd := .cond (.tmp 14) c49_6 .skip
@[go_sem] def c49_8 : Cmd := .ops [⟨some 22, .move (.tmp 5), 31, none⟩,
    ⟨some 4, .assign (.tmp 22), 31, none⟩]
@[go_sem] def c49 : Cmd := (.seq c49_0 (.seq (.seq c49_1 c49_3) (.seq c49_4 (.seq (.seq c49_5 c49_7) (.seq c49_8 .ret)))))
theorem b49 : Tryd.f49.body.map (comp 23) = some c49 := by kernel_rfl
theorem r49 : Tryd.f49.results.toList = [.tmp 4] := by kernel_rfl
-- 50 pith/files.Publish$3
@[go_sem] def c50_0 : Cmd := .ops [⟨some 1, .assign (.const (.int .i64 0)), 31, none⟩]
@[go_sem] def c50_1 : Cmd := .ops [⟨some 3, .load 98 (.tmp 0), 98, none⟩,
    ⟨some 4, .call { callee := (.value (.func 51)), args := #[(.tmp 3), (.const (.bool true))], argTypes := #[98, 4] }, 103, none⟩,
    ⟨some 2, .move (.tmp 4), 103, none⟩,
    ⟨some 5, .extract (.tmp 2) 0, 3, none⟩,
    ⟨some 6, .extract (.tmp 2) 1, 39, none⟩,
    ⟨some 7, .extract (.tmp 2) 2, 31, none⟩,
    ⟨some 1, .assign (.tmp 7), 31, none⟩]
@[go_sem] def c50_2 : Cmd := .ops [⟨some 8, .move (.tmp 1), 31, none⟩,
    ⟨some 1, .assign (.tmp 8), 31, none⟩]
@[go_sem] def c50 : Cmd := (.seq c50_0 (.seq c50_1 (.seq c50_2 .ret)))
theorem b50 : Tryd.f50.body.map (comp 9) = some c50 := by kernel_rfl
theorem r50 : Tryd.f50.results.toList = [.tmp 1] := by kernel_rfl
-- 51 (*pith/files.Writer).End
@[go_sem] def c51_0 : Cmd := .ops [⟨some 4, .assign (.const (.int .i64 0)), 3, none⟩,
    ⟨some 5, .assign (.const (.int .u32 0)), 39, none⟩,
    ⟨some 6, .assign (.const (.int .i64 0)), 31, none⟩]
@[go_sem] def c51_1 : Cmd := .ops [⟨some 8, .move (.tmp 0), 98, none⟩,
    ⟨some 9, .nilCheck (.tmp 8), 0, none⟩,
    ⟨some 10, .fieldAddr 122 (.tmp 9) 5, 0, none⟩,
    ⟨some 11, .load 4 (.tmp 10), 4, none⟩]
@[go_sem] def c51_2 : Cmd := .ops [⟨some 4, .assign (.const (.int .i64 0)), 3, none⟩,
    ⟨some 5, .assign (.const (.int .u32 0)), 39, none⟩,
    ⟨some 6, .assign (.const (.int .i64 91)), 31, none⟩]
@[go_sem] def c51_3 : Cmd := .cond (.tmp 11) (.seq c51_2 .ret) .skip
@[go_sem] def c51_4 : Cmd := .ops [⟨some 12, .move (.tmp 0), 98, none⟩,
    ⟨some 13, .move (.tmp 0), 98, none⟩,
    ⟨some 14, .nilCheck (.tmp 13), 0, none⟩,
    ⟨some 15, .fieldAddr 122 (.tmp 14) 4, 0, none⟩,
    ⟨some 16, .load 3 (.tmp 15), 3, none⟩,
    ⟨some 17, .call { callee := (.value (.func 68)), args := #[(.tmp 16)], argTypes := #[3] }, 42, none⟩,
    ⟨some 18, .call { callee := (.value (.func 67)), args := #[(.tmp 12), (.const (.int .i64 3)), (.tmp 17)], argTypes := #[98, 3, 42] }, 31, none⟩,
    ⟨some 7, .assign (.tmp 18), 31, none⟩]
@[go_sem] def c51_5 : Cmd := .ops [⟨some 19, .move (.tmp 0), 98, none⟩,
    ⟨some 20, .nilCheck (.tmp 19), 0, none⟩,
    ⟨some 21, .fieldAddr 122 (.tmp 20) 5, 0, none⟩,
    ⟨none, .store 4 (.tmp 21) (.const (.bool true)), 0, none⟩]
@[go_sem] def c51_6 : Cmd := .ops [⟨some 22, .move (.tmp 7), 31, none⟩,
    ⟨some 23, .binOp .eql 31 (.tmp 22) (.const (.int .i64 0)) 31, 4, none⟩,
    ⟨some 24, .move (.tmp 23), 4, none⟩,
    ⟨some 25, .move (.tmp 1), 4, some (24, true)⟩,
    ⟨some 26, .pick (.tmp 24) (.tmp 25) (.const (.bool false)), 4, none⟩]
@[go_sem] def c51_7 : Cmd := .still 8 [⟨some 27, .move (.tmp 0), 98, none⟩,
    ⟨some 28, .nilCheck (.tmp 27), 0, none⟩,
    ⟨some 29, .fieldAddr 122 (.tmp 28) 0, 0, none⟩,
    ⟨some 30, .load 25 (.tmp 29), 25, none⟩,
    ⟨some 31, .move (.tmp 0), 98, none⟩,
    ⟨some 32, .nilCheck (.tmp 31), 0, none⟩,
    ⟨some 33, .fieldAddr 122 (.tmp 32) 1, 0, none⟩,
    ⟨some 34, .load 9 (.tmp 33), 9, none⟩,
    ⟨some 35, .call { callee := (.value (.func 69)), args := #[(.tmp 30), (.tmp 34)], argTypes := #[25, 9] }, 31, none⟩,
    ⟨some 7, .assign (.tmp 35), 31, none⟩]
@[go_sem] def c51_8 : Cmd := .cond (.tmp 26) c51_7 .skip
@[go_sem] def c51_9 : Cmd := .ops [⟨some 36, .move (.tmp 7), 31, none⟩,
    ⟨some 37, .binOp .neq 31 (.tmp 36) (.const (.int .i64 0)) 31, 4, none⟩]
@[go_sem] def c51_10 : Cmd := .ops [⟨some 38, .move (.tmp 7), 31, none⟩,
    ⟨some 4, .assign (.const (.int .i64 0)), 3, none⟩,
    ⟨some 5, .assign (.const (.int .u32 0)), 39, none⟩,
    ⟨some 6, .assign (.tmp 38), 31, none⟩]
@[go_sem] def c51_11 : Cmd := .cond (.tmp 37) (.seq c51_10 .ret) .skip
@[go_sem] def c51_12 : Cmd := .quiet [⟨some 39, .move (.tmp 0), 98, none⟩,
    ⟨some 40, .nilCheck (.tmp 39), 0, none⟩,
    ⟨some 41, .fieldAddr 122 (.tmp 40) 2, 0, none⟩,
    ⟨some 42, .load 3 (.tmp 41), 3, none⟩,
    ⟨some 43, .move (.tmp 0), 98, none⟩,
    ⟨some 44, .nilCheck (.tmp 43), 0, none⟩,
    ⟨some 45, .fieldAddr 122 (.tmp 44) 3, 0, none⟩,
    ⟨some 46, .load 39 (.tmp 45), 39, none⟩,
    ⟨some 4, .assign (.tmp 42), 3, none⟩,
    ⟨some 5, .assign (.tmp 46), 39, none⟩,
    ⟨some 6, .assign (.const (.int .i64 0)), 31, none⟩]
@[go_sem] def c51 : Cmd := (.seq c51_0 (.seq (.seq c51_1 c51_3) (.seq c51_4 (.seq c51_5 (.seq (.seq c51_6 c51_8) (.seq (.seq c51_9 c51_11) (.seq c51_12 .ret)))))))
theorem b51 : Tryd.f51.body.map (comp 47) = some c51 := by kernel_rfl
theorem r51 : Tryd.f51.results.toList = [.tmp 4, .tmp 5, .tmp 6] := by kernel_rfl
-- 52 pith/files.Publish$4
@[go_sem] def c52_0 : Cmd := .ops [⟨some 3, .assign (.const (.int .i64 0)), 31, none⟩]
@[go_sem] def c52_1 : Cmd := .ops [⟨some 4, .load 25 (.tmp 0), 25, none⟩,
    ⟨some 5, .load 9 (.tmp 1), 9, none⟩,
    ⟨some 6, .load 9 (.tmp 2), 9, none⟩,
    ⟨some 7, .call { callee := (.value (.func 53)), args := #[(.tmp 4), (.tmp 5), (.tmp 6)], argTypes := #[25, 9, 9] }, 31, none⟩,
    ⟨some 3, .assign (.tmp 7), 31, none⟩]
@[go_sem] def c52 : Cmd := (.seq c52_0 (.seq c52_1 .ret))
theorem b52 : Tryd.f52.body.map (comp 8) = some c52 := by kernel_rfl
theorem r52 : Tryd.f52.results.toList = [.tmp 3] := by kernel_rfl
-- 53 (*pith/fs.FS).Rename
@[go_sem] def c53_0 : Cmd := .ops [⟨some 6, .assign (.const (.int .i64 0)), 31, none⟩]
@[go_sem] def c53_1 : Cmd := .ops [⟨some 9, .move (.tmp 0), 25, none⟩,
    ⟨some 10, .move (.tmp 1), 9, none⟩,
    ⟨some 11, .move (.tmp 2), 9, none⟩,
    ⟨some 12, .buildSlice 106 2 #[(0, (.tmp 10)), (1, (.tmp 11))], 106, none⟩,
    ⟨some 13, .call { callee := (.value (.func 31)), args := #[(.tmp 9), (.tmp 12)], argTypes := #[25, 106] }, 31, none⟩,
    ⟨some 7, .assign (.tmp 13), 31, none⟩]
@[go_sem] def c53_2 : Cmd := .ops [⟨some 14, .move (.tmp 7), 31, none⟩,
    ⟨some 15, .binOp .neq 31 (.tmp 14) (.const (.int .i64 0)) 31, 4, none⟩]
@[go_sem] def c53_3 : Cmd := .ops [⟨some 16, .move (.tmp 7), 31, none⟩,
    ⟨some 6, .assign (.tmp 16), 31, none⟩]
@[go_sem] def c53_4 : Cmd := .cond (.tmp 15) (.seq c53_3 .ret) .skip
@[go_sem] def c53_5 : Cmd := .ops [⟨some 17, .move (.tmp 0), 25, none⟩,
    ⟨some 18, .nilCheck (.tmp 17), 0, none⟩,
    ⟨some 19, .fieldAddr 64 (.tmp 18) 1, 0, none⟩,
    ⟨some 20, .load 60 (.tmp 19), 60, none⟩,
    ⟨some 21, .move (.tmp 1), 9, none⟩,
    ⟨some 22, .lookup 60 (.tmp 20) (.tmp 21) false, 69, none⟩,
    ⟨some 8, .assign (.tmp 22), 69, none⟩]
@[go_sem] def c53_6 : Cmd := .ops [⟨some 23, .move (.tmp 8), 69, none⟩,
    ⟨some 24, .binOp .eql 69 (.tmp 23) (.const (.pointer none)) 69, 4, none⟩]
@[go_sem] def c53_7 : Cmd := .ops [⟨some 6, .assign (.const (.int .i64 82)), 31, none⟩]
@[go_sem] def c53_8 : Cmd := .cond (.tmp 24) (.seq c53_7 .ret) .skip
@[go_sem] def c53_9 : Cmd := .ops [⟨some 25, .move (.tmp 0), 25, none⟩,
    ⟨some 26, .move (.tmp 8), 69, none⟩,
    ⟨some 27, .move (.tmp 2), 9, none⟩,
    ⟨some 28, .call { callee := (.value (.func 32)), args := #[(.tmp 25), (.tmp 26), (.tmp 27)], argTypes := #[25, 69, 9] }, 31, none⟩,
    ⟨some 6, .assign (.tmp 28), 31, none⟩]
@[go_sem] def c53 : Cmd := (.seq c53_0 (.seq (.seq c53_1 (.seq c53_2 c53_4)) (.seq c53_5 (.seq (.seq c53_6 c53_8) (.seq c53_9 .ret)))))
theorem b53 : Tryd.f53.body.map (comp 29) = some c53 := by kernel_rfl
theorem r53 : Tryd.f53.results.toList = [.tmp 6] := by kernel_rfl
-- 54 (*pith/fs.FS).SyncDir
@[go_sem] def c54_0 : Cmd := .ops [⟨some 2, .assign (.const (.int .i64 0)), 31, none⟩]
@[go_sem] def c54_1 : Cmd := .ops [⟨some 4, .move (.tmp 0), 25, none⟩,
    ⟨some 5, .nilCheck (.tmp 4), 0, none⟩,
    ⟨some 6, .fieldAddr 64 (.tmp 5) 5, 0, none⟩,
    ⟨some 7, .load 4 (.tmp 6), 4, none⟩]
@[go_sem] def c54_2 : Cmd := .ops [⟨some 2, .assign (.const (.int .i64 81)), 31, none⟩]
@[go_sem] def c54_3 : Cmd := .cond (.tmp 7) (.seq c54_2 .ret) .skip
@[go_sem] def c54_4 : Cmd := .ops [⟨some 8, .move (.tmp 0), 25, none⟩,
    ⟨some 9, .call { callee := (.value (.func 34)), args := #[(.tmp 8)], argTypes := #[25] }, 31, none⟩,
    ⟨some 3, .assign (.tmp 9), 31, none⟩]
@[go_sem] def c54_5 : Cmd := .ops [⟨some 10, .move (.tmp 3), 31, none⟩,
    ⟨some 11, .binOp .eql 31 (.tmp 10) (.const (.int .i64 0)) 31, 4, none⟩]
@[go_sem] def c54_6 : Cmd := .ops [⟨some 12, .move (.tmp 0), 25, none⟩,
    ⟨some 13, .call { callee := (.value (.func 70)), args := #[(.tmp 12)], argTypes := #[25] }, 0, none⟩]
@[go_sem] def c54_7 : Cmd := .cond (.tmp 11) c54_6 .skip
@[go_sem] def c54_8 : Cmd := .ops [⟨some 14, .move (.tmp 3), 31, none⟩,
    ⟨some 2, .assign (.tmp 14), 31, none⟩]
@[go_sem] def c54 : Cmd := (.seq c54_0 (.seq (.seq c54_1 c54_3) (.seq c54_4 (.seq (.seq c54_5 c54_7) (.seq c54_8 .ret)))))
theorem b54 : Tryd.f54.body.map (comp 15) = some c54 := by kernel_rfl
theorem r54 : Tryd.f54.results.toList = [.tmp 2] := by kernel_rfl
-- 55 (*pith/fs.FS).Remove
@[go_sem] def c55_0 : Cmd := .ops [⟨some 4, .assign (.const (.int .i64 0)), 31, none⟩]
@[go_sem] def c55_1 : Cmd := .ops [⟨some 8, .move (.tmp 0), 25, none⟩,
    ⟨some 9, .move (.tmp 1), 9, none⟩,
    ⟨some 10, .call { callee := (.value (.func 29)), args := #[(.tmp 8), (.tmp 9)], argTypes := #[25, 9] }, 70, none⟩,
    ⟨some 7, .move (.tmp 10), 70, none⟩,
    ⟨some 11, .extract (.tmp 7) 0, 69, none⟩,
    ⟨some 12, .extract (.tmp 7) 1, 31, none⟩,
    ⟨some 5, .assign (.tmp 11), 69, none⟩,
    ⟨some 6, .assign (.tmp 12), 31, none⟩]
@[go_sem] def c55_2 : Cmd := .ops [⟨some 13, .move (.tmp 6), 31, none⟩,
    ⟨some 14, .binOp .neq 31 (.tmp 13) (.const (.int .i64 0)) 31, 4, none⟩]
@[go_sem] def c55_3 : Cmd := .ops [⟨some 15, .move (.tmp 6), 31, none⟩,
    ⟨some 4, .assign (.tmp 15), 31, none⟩]
@[go_sem] def c55_4 : Cmd := .cond (.tmp 14) (.seq c55_3 .ret) .skip
@[go_sem] def c55_5 : Cmd := .ops [⟨some 16, .move (.tmp 0), 25, none⟩,
    ⟨some 17, .move (.tmp 5), 69, none⟩,
    ⟨some 18, .call { callee := (.value (.func 32)), args := #[(.tmp 16), (.tmp 17), (.const (.string ⟨#[]⟩))], argTypes := #[25, 69, 9] }, 31, none⟩,
    ⟨some 4, .assign (.tmp 18), 31, none⟩]
@[go_sem] def c55 : Cmd := (.seq c55_0 (.seq c55_1 (.seq (.seq c55_2 c55_4) (.seq c55_5 .ret))))
theorem b55 : Tryd.f55.body.map (comp 19) = some c55 := by kernel_rfl
theorem r55 : Tryd.f55.results.toList = [.tmp 4] := by kernel_rfl
-- 56 (*pith/fs.FS).pend$1
@[go_sem] def c56_0 : Cmd := .ops [⟨some 6, .move (.tmp 0), 60, none⟩,
    ⟨some 7, .range 60 (.tmp 6), 0, none⟩]
@[go_sem] def c56_1 : Cmd := .ops [⟨some 8, .next (.tmp 7) false, 0, none⟩,
    ⟨some 9, .extract (.tmp 8) 0, 4, none⟩]
@[go_sem] def c56_2 : Cmd := .cond (.tmp 9) .skip (.exit 0)
@[go_sem] def c56_3 : Cmd := .ops [⟨some 10, .entry (.tmp 7), 0, none⟩,
    ⟨some 11, .extract (.tmp 10) 0, 9, none⟩,
    ⟨some 12, .extract (.tmp 10) 1, 69, none⟩,
    ⟨some 4, .assign (.tmp 11), 9, none⟩,
    ⟨some 5, .assign (.tmp 12), 69, none⟩]
@[go_sem] def c56_4 : Cmd := .ops [⟨some 13, .move (.tmp 5), 69, none⟩,
    ⟨some 14, .load 69 (.tmp 1), 69, none⟩,
    ⟨some 15, .binOp .eql 69 (.tmp 13) (.tmp 14) 69, 4, none⟩]
@[go_sem] def c56_5 : Cmd := .ops [⟨some 16, .move (.tmp 0), 60, none⟩,
    ⟨some 17, .move (.tmp 4), 9, none⟩,
    ⟨none, .call { callee := (.builtin .delete), args := #[(.tmp 16), (.tmp 17)], argTypes := #[60, 9] }, 0, none⟩]
@[go_sem] def c56_6 : Cmd := .cond (.tmp 15) c56_5 .skip
@[go_sem] def c56_7 : Cmd := .block 1 (.seq c56_3 (.seq c56_4 c56_6))
def c56_L0 : Cmd := (.seq c56_1 (.seq c56_2 c56_7))
@[go_sem] def c56_8 : Cmd := .loop c56_L0
@[go_sem] def c56_9 : Cmd := .block 0 c56_8
@[go_sem] def c56_10 : Cmd := .ops [⟨some 18, .load 9 (.tmp 2), 9, none⟩,
    ⟨some 19, .binOp .neq 9 (.tmp 18) (.const (.string ⟨#[]⟩)) 9, 4, none⟩]
@[go_sem] def c56_11 : Cmd := .ops [⟨some 20, .move (.tmp 0), 60, none⟩,
    ⟨some 21, .load 9 (.tmp 2), 9, none⟩,
    ⟨some 22, .load 69 (.tmp 1), 69, none⟩,
    ⟨none, .mapUpdate 60 (.tmp 20) (.tmp 21) (.tmp 22), 0, none⟩]
@[go_sem] def c56_12 : Cmd := .cond (.tmp 19) c56_11 .skip
@[go_sem] def c56 : Cmd := (.seq (.seq c56_0 c56_9) (.seq c56_10 c56_12))
theorem b56 : Tryd.f56.body.map (comp 23) = some c56 := by kernel_rfl
theorem r56 : Tryd.f56.results.toList = [] := by kernel_rfl
-- 57 (*pith/files.Reader).next
@[go_sem] def c57_0 : Cmd := .ops [⟨some 2, .alloc 111, 0, none⟩,
    ⟨some 3, .assign (.const (.int .i64 0)), 31, none⟩]
@[go_sem] def c57_1 : Cmd := .draw (.step 3 ⟨some 9, .move (.tmp 0), 80, none⟩
    (.step 3 ⟨some 10, .nilCheck (.tmp 9), 0, none⟩
    (.step 3 ⟨some 11, .fieldAddr 109 (.tmp 10) 0, 0, none⟩
    (.step 0 ⟨some 12, .load 25 (.tmp 11), 25, none⟩
    (.step 3 ⟨some 13, .move (.tmp 0), 80, none⟩
    (.step 3 ⟨some 14, .nilCheck (.tmp 13), 0, none⟩
    (.step 3 ⟨some 15, .fieldAddr 109 (.tmp 14) 1, 0, none⟩
    (.step 0 ⟨some 16, .load 9 (.tmp 15), 9, none⟩
    (.step 3 ⟨some 17, .move (.tmp 0), 80, none⟩
    (.step 3 ⟨some 18, .nilCheck (.tmp 17), 0, none⟩
    (.step 3 ⟨some 19, .fieldAddr 109 (.tmp 18) 2, 0, none⟩
    (.step 0 ⟨some 20, .load 3 (.tmp 19), 3, none⟩
    (.step 1 ⟨some 21, .call { callee := (.value (.func 14)), args := #[(.tmp 12), (.tmp 16), (.tmp 20), (.const (.int .i64 1036))], argTypes := #[25, 9, 3, 3] }, 43, none⟩
    (.step 3 ⟨some 8, .move (.tmp 21), 43, none⟩
    (.step 3 ⟨some 22, .extract (.tmp 8) 0, 42, none⟩
    (.step 3 ⟨some 23, .extract (.tmp 8) 1, 31, none⟩
    (.step 3 ⟨some 4, .assign (.tmp 22), 42, none⟩
    (.step 3 ⟨some 5, .assign (.tmp 23), 31, none⟩
    .done))))))))))))))))))
@[go_sem] def c57_2 : Cmd := .ops [⟨some 24, .move (.tmp 5), 31, none⟩,
    ⟨some 25, .binOp .neq 31 (.tmp 24) (.const (.int .i64 0)) 31, 4, none⟩]
@[go_sem] def c57_3 : Cmd := .ops [⟨some 26, .build 111 #[], 111, none⟩,
    ⟨some 27, .move (.tmp 5), 31, none⟩,
    ⟨none, .store 111 (.tmp 2) (.tmp 26), 0, none⟩,
    ⟨some 3, .assign (.tmp 27), 31, none⟩]
@[go_sem] def c57_4 : Cmd := .cond (.tmp 25) (.seq c57_3 .ret) .skip
@[go_sem] def c57_5 : Cmd := .ops [⟨some 29, .move (.tmp 4), 42, none⟩,
    ⟨some 30, .call { callee := (.value (.func 71)), args := #[(.tmp 29)], argTypes := #[42] }, 125, none⟩,
    ⟨some 28, .move (.tmp 30), 125, none⟩,
    ⟨some 31, .extract (.tmp 28) 0, 111, none⟩,
    ⟨some 32, .extract (.tmp 28) 1, 3, none⟩,
    ⟨some 33, .extract (.tmp 28) 2, 31, none⟩,
    ⟨some 6, .alloc 111, 0, none⟩,
    ⟨none, .store 111 (.tmp 6) (.tmp 31), 0, none⟩,
    ⟨some 7, .assign (.tmp 32), 3, none⟩,
    ⟨some 5, .assign (.tmp 33), 31, none⟩]
@[go_sem] def c57_6 : Cmd := .ops [⟨some 34, .move (.tmp 5), 31, none⟩,
    ⟨some 35, .binOp .neq 31 (.tmp 34) (.const (.int .i64 0)) 31, 4, none⟩]
@[go_sem] def c57_7 : Cmd := .ops [⟨some 36, .build 111 #[], 111, none⟩,
    ⟨none, .store 111 (.tmp 2) (.tmp 36), 0, none⟩,
    ⟨some 3, .assign (.const (.int .i64 90)), 31, none⟩]
@[go_sem] def c57_8 : Cmd := .cond (.tmp 35) (.seq c57_7 .ret) .skip
@[go_sem] def c57_9 : Cmd := .ops [⟨some 37, .move (.tmp 0), 80, none⟩,
    ⟨some 38, .nilCheck (.tmp 37), 0, none⟩,
    ⟨some 39, .fieldAddr 109 (.tmp 38) 2, 0, none⟩,
    ⟨some 40, .load 3 (.tmp 39), 3, none⟩,
    ⟨some 41, .move (.tmp 7), 3, none⟩,
    ⟨some 42, .binOp .add 3 (.tmp 40) (.tmp 41) 3, 3, none⟩,
    ⟨some 43, .nilCheck (.tmp 37), 0, none⟩,
    ⟨some 44, .fieldAddr 109 (.tmp 43) 2, 0, none⟩,
    ⟨none, .store 3 (.tmp 44) (.tmp 42), 0, none⟩]
@[go_sem] def c57_10 : Cmd := .ops [⟨some 45, .load 111 (.tmp 6), 111, none⟩,
    ⟨none, .store 111 (.tmp 2) (.tmp 45), 0, none⟩,
    ⟨some 3, .assign (.const (.int .i64 0)), 31, none⟩]
@[go_sem] def c57 : Cmd := (.seq c57_0 (.seq c57_1 (.seq (.seq c57_2 c57_4) (.seq c57_5 (.seq (.seq c57_6 c57_8) (.seq c57_9 (.seq c57_10 .ret)))))))
theorem b57 : Tryd.f57.body.map (comp 46) = some c57 := by kernel_rfl
theorem r57 : Tryd.f57.results.toList = [.cell 2 111, .tmp 3] := by kernel_rfl
-- 58 (*pith/files.Reader).payloads$1
@[go_sem] def c58_0 : Cmd := .ops [⟨some 7, .load 80 (.tmp 1), 80, none⟩,
    ⟨some 8, .call { callee := (.value (.func 59)), args := #[(.tmp 7)], argTypes := #[80] }, 115, none⟩,
    ⟨some 6, .move (.tmp 8), 115, none⟩,
    ⟨some 9, .extract (.tmp 6) 0, 42, none⟩,
    ⟨some 10, .extract (.tmp 6) 1, 4, none⟩,
    ⟨some 11, .extract (.tmp 6) 2, 31, none⟩,
    ⟨some 3, .assign (.tmp 9), 42, none⟩,
    ⟨some 4, .assign (.tmp 10), 4, none⟩,
    ⟨some 5, .assign (.tmp 11), 31, none⟩]
@[go_sem] def c58_1 : Cmd := .ops [⟨some 12, .move (.tmp 5), 31, none⟩,
    ⟨some 13, .binOp .neq 31 (.tmp 12) (.const (.int .i64 0)) 31, 4, none⟩]
@[go_sem] def c58_2 : Cmd := .ops [⟨some 14, .move (.tmp 0), 114, none⟩,
    ⟨some 15, .move (.tmp 5), 31, none⟩,
    ⟨some 16, .call { callee := (.value (.tmp 14)), args := #[(.const (.slice none 0 0)), (.tmp 15)], argTypes := #[42, 31] }, 4, none⟩]
@[go_sem] def c58_3 : Cmd := .cond (.tmp 13) (.seq c58_2 .ret) .skip
@[go_sem] def c58_4 : Cmd := .ops [⟨some 17, .move (.tmp 4), 4, none⟩,
    ⟨some 18, .unOp .not 4 (.tmp 17), 4, none⟩,
    ⟨some 19, .move (.tmp 18), 4, none⟩,
    ⟨some 20, .move (.tmp 0), 114, some (19, false)⟩,
    ⟨some 21, .move (.tmp 3), 42, some (19, false)⟩,
    ⟨some 22, .call { callee := (.value (.tmp 20)), args := #[(.tmp 21), (.const (.int .i64 0))], argTypes := #[42, 31] }, 4, some (19, false)⟩,
    ⟨some 23, .unOp .not 4 (.tmp 22), 4, some (19, false)⟩,
    ⟨some 24, .pick (.tmp 19) (.const (.bool true)) (.tmp 23), 4, none⟩]
@[go_sem] def c58_5 : Cmd := .cond (.tmp 24) .ret .skip
@[go_sem] def c58_6 : Cmd := .block 1 (.seq c58_0 (.seq (.seq c58_1 c58_3) (.seq c58_4 c58_5)))
def c58_L0 : Cmd := c58_6
@[go_sem] def c58_7 : Cmd := .loop c58_L0
@[go_sem] def c58_8 : Cmd := .block 0 c58_7
@[go_sem] def c58 : Cmd := c58_8
theorem b58 : Tryd.f58.body.map (comp 25) = some c58 := by kernel_rfl
theorem r58 : Tryd.f58.results.toList = [] := by kernel_rfl
-- 59 (*pith/files.Reader).Next
@[go_sem] def c59_0 : Cmd := .ops [⟨some 2, .assign (.const (.slice none 0 0)), 42, none⟩,
    ⟨some 3, .assign (.const (.bool false)), 4, none⟩,
    ⟨some 4, .assign (.const (.int .i64 0)), 31, none⟩]
@[go_sem] def c59_1 : Cmd := .ops [⟨some 7, .move (.tmp 0), 80, none⟩,
    ⟨some 8, .nilCheck (.tmp 7), 0, none⟩,
    ⟨some 9, .fieldAddr 109 (.tmp 8) 4, 0, none⟩,
    ⟨some 10, .load 4 (.tmp 9), 4, none⟩]
@[go_sem] def c59_2 : Cmd := .ops [⟨some 2, .assign (.const (.slice none 0 0)), 42, none⟩,
    ⟨some 3, .assign (.const (.bool false)), 4, none⟩,
    ⟨some 4, .assign (.const (.int .i64 91)), 31, none⟩]
@[go_sem] def c59_3 : Cmd := .cond (.tmp 10) (.seq c59_2 .ret) .skip
@[go_sem] def c59_4 : Cmd := .ops [⟨some 12, .move (.tmp 0), 80, none⟩,
    ⟨some 13, .call { callee := (.value (.func 57)), args := #[(.tmp 12)], argTypes := #[80] }, 112, none⟩,
    ⟨some 11, .move (.tmp 13), 112, none⟩,
    ⟨some 14, .extract (.tmp 11) 0, 111, none⟩,
    ⟨some 15, .extract (.tmp 11) 1, 31, none⟩,
    ⟨some 5, .alloc 111, 0, none⟩,
    ⟨none, .store 111 (.tmp 5) (.tmp 14), 0, none⟩,
    ⟨some 6, .assign (.tmp 15), 31, none⟩]
@[go_sem] def c59_5 : Cmd := .ops [⟨some 16, .move (.tmp 6), 31, none⟩,
    ⟨some 17, .binOp .eql 31 (.tmp 16) (.const (.int .i64 0)) 31, 4, none⟩,
    ⟨some 18, .move (.tmp 17), 4, none⟩,
    ⟨some 19, .fieldAddr 111 (.tmp 5) 0, 0, some (18, true)⟩,
    ⟨some 20, .load 3 (.tmp 19), 3, some (18, true)⟩,
    ⟨some 21, .binOp .eql 3 (.tmp 20) (.const (.int .i64 2)) 3, 4, some (18, true)⟩,
    ⟨some 22, .pick (.tmp 18) (.tmp 21) (.const (.bool false)), 4, none⟩]
@[go_sem] def c59_6 : Cmd := .ops [⟨some 23, .move (.tmp 0), 80, none⟩,
    ⟨some 24, .nilCheck (.tmp 23), 0, none⟩,
    ⟨some 25, .fieldAddr 109 (.tmp 24) 3, 0, none⟩,
    ⟨some 26, .load 3 (.tmp 25), 3, none⟩,
    ⟨some 27, .binOp .add 3 (.tmp 26) (.const (.int .i64 1)) 3, 3, none⟩,
    ⟨some 28, .nilCheck (.tmp 23), 0, none⟩,
    ⟨some 29, .fieldAddr 109 (.tmp 28) 3, 0, none⟩,
    ⟨none, .store 3 (.tmp 29) (.tmp 27), 0, none⟩]
@[go_sem] def c59_7 : Cmd := .ops [⟨some 30, .fieldAddr 111 (.tmp 5) 1, 0, none⟩,
    ⟨some 31, .load 42 (.tmp 30), 42, none⟩,
    ⟨some 2, .assign (.tmp 31), 42, none⟩,
    ⟨some 3, .assign (.const (.bool true)), 4, none⟩,
    ⟨some 4, .assign (.const (.int .i64 0)), 31, none⟩]
@[go_sem] def c59_8 : Cmd := .cond (.tmp 22) (.seq c59_6 (.seq c59_7 .ret)) .skip
@[go_sem] def c59_9 : Cmd := .ops [⟨some 32, .move (.tmp 0), 80, none⟩,
    ⟨some 33, .nilCheck (.tmp 32), 0, none⟩,
    ⟨some 34, .fieldAddr 109 (.tmp 33) 4, 0, none⟩,
    ⟨none, .store 4 (.tmp 34) (.const (.bool true)), 0, none⟩]
@[go_sem] def c59_10 : Cmd := .ops [⟨some 35, .move (.tmp 6), 31, none⟩,
    ⟨some 36, .binOp .eql 31 (.tmp 35) (.const (.int .i64 0)) 31, 4, none⟩]
@[go_sem] def c59_11 : Cmd := .ops [⟨some 37, .move (.tmp 0), 80, none⟩,
    ⟨some 38, .load 111 (.tmp 5), 111, none⟩,
    ⟨some 39, .call { callee := (.value (.func 72)), args := #[(.tmp 37), (.tmp 38)], argTypes := #[80, 111] }, 31, none⟩,
    ⟨some 6, .assign (.tmp 39), 31, none⟩]
@[go_sem] def c59_12 : Cmd := .cond (.tmp 36) c59_11 .skip
@[go_sem] def c59_13 : Cmd := .ops [⟨some 40, .move (.tmp 6), 31, none⟩,
    ⟨some 2, .assign (.const (.slice none 0 0)), 42, none⟩,
    ⟨some 3, .assign (.const (.bool false)), 4, none⟩,
    ⟨some 4, .assign (.tmp 40), 31, none⟩]
@[go_sem] def c59 : Cmd := (.seq c59_0 (.seq (.seq c59_1 c59_3) (.seq c59_4 (.seq (.seq c59_5 c59_8) (.seq c59_9 (.seq (.seq c59_10 c59_12) (.seq c59_13 .ret)))))))
theorem b59 : Tryd.f59.body.map (comp 41) = some c59 := by kernel_rfl
theorem r59 : Tryd.f59.results.toList = [.tmp 2, .tmp 3, .tmp 4] := by kernel_rfl
-- 60 pith/varint.put
@[go_sem] def c60_0 : Cmd := .ops [⟨some 4, .assign (.const (.slice none 0 0)), 42, none⟩]
@[go_sem] def c60_1 : Cmd := .ops [⟨some 7, .move (.tmp 1), 3, none⟩,
    ⟨some 8, .call { callee := (.builtin .max), args := #[(.tmp 7), (.const (.int .i64 0))], argTypes := #[3, 3] }, 3, none⟩,
    ⟨some 1, .assign (.tmp 8), 3, none⟩]
@[go_sem] def c60_2 : Cmd := .ops [⟨some 9, .move (.tmp 1), 3, none⟩,
    ⟨some 10, .call { callee := (.value (.func 73)), args := #[(.tmp 9)], argTypes := #[3] }, 3, none⟩,
    ⟨some 11, .binOp .sub 3 (.tmp 10) (.const (.int .i64 1)) 3, 3, none⟩,
    ⟨some 5, .assign (.tmp 11), 3, none⟩]
@[go_sem] def c60_3 : Cmd := .ops [⟨some 12, .move (.tmp 5), 3, none⟩,
    ⟨some 13, .binOp .geq 3 (.tmp 12) (.const (.int .i64 0)) 3, 4, none⟩]
@[go_sem] def c60_4 : Cmd := .cond (.tmp 13) .skip (.exit 0)
@[go_sem] def c60_5 : Cmd := .ops [⟨some 16, .move (.tmp 1), 3, none⟩,
    ⟨some 17, .move (.tmp 5), 3, none⟩,
    ⟨some 18, .binOp .mul 3 (.const (.int .i64 7)) (.tmp 17) 3, 3, none⟩,
    ⟨some 19, .binOp .shr 3 (.tmp 16) (.tmp 18) 3, 3, none⟩,
    ⟨some 20, .convert 3 5 (.tmp 19), 5, none⟩,
    ⟨some 21, .binOp .and 5 (.tmp 20) (.const (.int .u8 127)) 5, 5, none⟩,
    ⟨some 6, .assign (.tmp 21), 5, none⟩]
@[go_sem] def c60_6 : Cmd := .ops [⟨some 22, .move (.tmp 5), 3, none⟩,
    ⟨some 23, .binOp .gtr 3 (.tmp 22) (.const (.int .i64 0)) 3, 4, none⟩]
@[go_sem] def c60_7 : Cmd := .ops [⟨some 24, .move (.tmp 6), 5, none⟩,
    ⟨some 25, .binOp .or 5 (.tmp 24) (.const (.int .u8 128)) 5, 5, none⟩,
    ⟨some 6, .assign (.tmp 25), 5, none⟩]
@[go_sem] def c60_8 : Cmd := .cond (.tmp 23) c60_7 .skip
@[go_sem] def c60_9 : Cmd := .ops [⟨some 26, .move (.tmp 0), 42, none⟩,
    ⟨some 27, .move (.tmp 6), 5, none⟩,
    ⟨some 28, .buildSlice 42 1 #[(0, (.tmp 27))], 42, none⟩,
    ⟨some 29, .call { callee := (.builtin .append), args := #[(.tmp 26), (.tmp 28)], argTypes := #[42, 42] }, 42, none⟩,
    ⟨some 0, .assign (.tmp 29), 42, none⟩]
@[go_sem] def c60_10 : Cmd := .block 1 (.seq c60_5 (.seq (.seq c60_6 c60_8) c60_9))
@[go_sem] def c60_11 : Cmd := .ops [⟨some 14, .move (.tmp 5), 3, none⟩,
    ⟨some 15, .binOp .sub 3 (.tmp 14) (.const (.int .i64 1)) 3, 3, none⟩,
    ⟨some 5, .assign (.tmp 15), 3, none⟩]
def c60_L0 : Cmd := (.seq (.seq c60_3 c60_4) (.seq c60_10 c60_11))
@[go_sem] def c60_12 : Cmd := .loop c60_L0
@[go_sem] def c60_13 : Cmd := .block 0 c60_12
@[go_sem] def c60_14 : Cmd := .ops [⟨some 30, .move (.tmp 0), 42, none⟩,
    ⟨some 4, .assign (.tmp 30), 42, none⟩]
@[go_sem] def c60 : Cmd := (.seq c60_0 (.seq c60_1 (.seq (.seq c60_2 c60_13) (.seq c60_14 .ret))))
theorem b60 : Tryd.f60.body.map (comp 31) = some c60 := by kernel_rfl
theorem r60 : Tryd.f60.results.toList = [.tmp 4] := by kernel_rfl
-- 61 pith/varint.grown
@[go_sem] def c61_0 : Cmd := .ops [⟨some 4, .assign (.const (.slice none 0 0)), 42, none⟩]
@[go_sem] def c61_1 : Cmd := .ops [⟨some 6, .move (.tmp 0), 42, none⟩,
    ⟨some 7, .call { callee := (.builtin .len), args := #[(.tmp 6)], argTypes := #[42] }, 3, none⟩,
    ⟨some 8, .move (.tmp 0), 42, none⟩,
    ⟨some 9, .call { callee := (.builtin .len), args := #[(.tmp 8)], argTypes := #[42] }, 3, none⟩,
    ⟨some 10, .move (.tmp 1), 3, none⟩,
    ⟨some 11, .binOp .add 3 (.tmp 9) (.tmp 10) 3, 3, none⟩,
    ⟨some 12, .makeSlice 42 (.tmp 7) (.tmp 11), 42, none⟩,
    ⟨some 5, .assign (.tmp 12), 42, none⟩]
@[go_sem] def c61_2 : Cmd := .ops [⟨some 13, .move (.tmp 5), 42, none⟩,
    ⟨some 14, .move (.tmp 0), 42, none⟩,
    ⟨some 15, .call { callee := (.builtin .copy), args := #[(.tmp 13), (.tmp 14)], argTypes := #[42, 42] }, 3, none⟩]
@[go_sem] def c61_3 : Cmd := .ops [⟨some 16, .move (.tmp 5), 42, none⟩,
    ⟨some 4, .assign (.tmp 16), 42, none⟩]
@[go_sem] def c61 : Cmd := (.seq c61_0 (.seq c61_1 (.seq c61_2 (.seq c61_3 .ret))))
theorem b61 : Tryd.f61.body.map (comp 17) = some c61 := by kernel_rfl
theorem r61 : Tryd.f61.results.toList = [.tmp 4] := by kernel_rfl
-- 62 pith/varint.NewReader
@[go_sem] def c62_0 : Cmd := .ops [⟨some 2, .assign (.const (.pointer none)), 117, none⟩]
@[go_sem] def c62_1 : Cmd := .ops [⟨some 3, .move (.tmp 0), 42, none⟩,
    ⟨some 4, .call { callee := (.value (.func 61)), args := #[(.tmp 3), (.const (.int .i64 0))], argTypes := #[42, 3] }, 42, none⟩,
    ⟨some 5, .build 130 #[(0, (.tmp 4))], 130, none⟩,
    ⟨some 6, .box 130 (.tmp 5), 117, none⟩,
    ⟨some 2, .assign (.tmp 6), 117, none⟩]
@[go_sem] def c62 : Cmd := (.seq c62_0 (.seq c62_1 .ret))
theorem b62 : Tryd.f62.body.map (comp 7) = some c62 := by kernel_rfl
theorem r62 : Tryd.f62.results.toList = [.tmp 2] := by kernel_rfl
-- 63 (*pith/varint.Reader).Int
@[go_sem] def c63_0 : Cmd := .ops [⟨some 2, .assign (.const (.int .i64 0)), 3, none⟩]
@[go_sem] def c63_1 : Cmd := .ops [⟨some 6, .move (.tmp 0), 117, none⟩,
    ⟨some 7, .nilCheck (.tmp 6), 0, none⟩,
    ⟨some 8, .fieldAddr 130 (.tmp 7) 2, 0, none⟩,
    ⟨some 9, .load 31 (.tmp 8), 31, none⟩,
    ⟨some 10, .binOp .neq 31 (.tmp 9) (.const (.int .i64 0)) 31, 4, none⟩]
@[go_sem] def c63_2 : Cmd := .ops [⟨some 2, .assign (.const (.int .i64 0)), 3, none⟩]
@[go_sem] def c63_3 : Cmd := .cond (.tmp 10) (.seq c63_2 .ret) .skip
@[go_sem] def c63_4 : Cmd := .quiet [⟨some 12, .move (.tmp 0), 117, none⟩,
    ⟨some 13, .nilCheck (.tmp 12), 0, none⟩,
    ⟨some 14, .fieldAddr 130 (.tmp 13) 0, 0, none⟩,
    ⟨some 15, .load 42 (.tmp 14), 42, none⟩,
    ⟨some 16, .move (.tmp 0), 117, none⟩,
    ⟨some 17, .nilCheck (.tmp 16), 0, none⟩,
    ⟨some 18, .fieldAddr 130 (.tmp 17) 1, 0, none⟩,
    ⟨some 19, .load 3 (.tmp 18), 3, none⟩,
    ⟨some 20, .slice 42 (.tmp 15) (some (.tmp 19)) none none, 42, none⟩,
    ⟨some 21, .call { callee := (.value (.func 74)), args := #[(.tmp 20)], argTypes := #[42] }, 131, none⟩,
    ⟨some 11, .move (.tmp 21), 131, none⟩,
    ⟨some 22, .extract (.tmp 11) 0, 3, none⟩,
    ⟨some 23, .extract (.tmp 11) 1, 3, none⟩,
    ⟨some 24, .extract (.tmp 11) 2, 31, none⟩,
    ⟨some 3, .assign (.tmp 22), 3, none⟩,
    ⟨some 4, .assign (.tmp 23), 3, none⟩,
    ⟨some 5, .assign (.tmp 24), 31, none⟩]
@[go_sem] def c63_5 : Cmd := .ops [⟨some 25, .move (.tmp 0), 117, none⟩,
    ⟨some 26, .move (.tmp 0), 117, none⟩,
    ⟨some 27, .move (.tmp 0), 117, none⟩,
    ⟨some 28, .nilCheck (.tmp 27), 0, none⟩,
    ⟨some 29, .fieldAddr 130 (.tmp 28) 1, 0, none⟩,
    ⟨some 30, .load 3 (.tmp 29), 3, none⟩,
    ⟨some 31, .move (.tmp 4), 3, none⟩,
    ⟨some 32, .binOp .add 3 (.tmp 30) (.tmp 31) 3, 3, none⟩,
    ⟨some 33, .move (.tmp 5), 31, none⟩,
    ⟨some 34, .nilCheck (.tmp 25), 0, none⟩,
    ⟨some 35, .fieldAddr 130 (.tmp 34) 1, 0, none⟩,
    ⟨none, .store 3 (.tmp 35) (.tmp 32), 0, none⟩,
    ⟨some 36, .nilCheck (.tmp 26), 0, none⟩,
    ⟨some 37, .fieldAddr 130 (.tmp 36) 2, 0, none⟩,
    ⟨none, .store 31 (.tmp 37) (.tmp 33), 0, none⟩]
@[go_sem] def c63_6 : Cmd := .ops [⟨some 38, .move (.tmp 3), 3, none⟩,
    ⟨some 2, .assign (.tmp 38), 3, none⟩]
@[go_sem] def c63 : Cmd := (.seq c63_0 (.seq (.seq c63_1 c63_3) (.seq c63_4 (.seq c63_5 (.seq c63_6 .ret)))))
theorem b63 : Tryd.f63.body.map (comp 39) = some c63 := by kernel_rfl
theorem r63 : Tryd.f63.results.toList = [.tmp 2] := by kernel_rfl
-- 64 (*pith/varint.Reader).Err
@[go_sem] def c64_0 : Cmd := .ops [⟨some 2, .assign (.const (.int .i64 0)), 31, none⟩,
    ⟨some 3, .assign (.const (.int .i64 0)), 3, none⟩]
@[go_sem] def c64_1 : Cmd := .quiet [⟨some 4, .move (.tmp 0), 117, none⟩,
    ⟨some 5, .nilCheck (.tmp 4), 0, none⟩,
    ⟨some 6, .fieldAddr 130 (.tmp 5) 2, 0, none⟩,
    ⟨some 7, .load 31 (.tmp 6), 31, none⟩,
    ⟨some 8, .move (.tmp 0), 117, none⟩,
    ⟨some 9, .nilCheck (.tmp 8), 0, none⟩,
    ⟨some 10, .fieldAddr 130 (.tmp 9) 1, 0, none⟩,
    ⟨some 11, .load 3 (.tmp 10), 3, none⟩,
    ⟨some 2, .assign (.tmp 7), 31, none⟩,
    ⟨some 3, .assign (.tmp 11), 3, none⟩]
@[go_sem] def c64 : Cmd := (.seq c64_0 (.seq c64_1 .ret))
theorem b64 : Tryd.f64.body.map (comp 12) = some c64 := by kernel_rfl
theorem r64 : Tryd.f64.results.toList = [.tmp 2, .tmp 3] := by kernel_rfl
-- 65 (*pith/varint.Reader).Left
@[go_sem] def c65_0 : Cmd := .ops [⟨some 2, .assign (.const (.int .i64 0)), 3, none⟩]
@[go_sem] def c65_1 : Cmd := .ops [⟨some 3, .move (.tmp 0), 117, none⟩,
    ⟨some 4, .nilCheck (.tmp 3), 0, none⟩,
    ⟨some 5, .fieldAddr 130 (.tmp 4) 2, 0, none⟩,
    ⟨some 6, .load 31 (.tmp 5), 31, none⟩,
    ⟨some 7, .binOp .neq 31 (.tmp 6) (.const (.int .i64 0)) 31, 4, none⟩]
@[go_sem] def c65_2 : Cmd := .ops [⟨some 2, .assign (.const (.int .i64 0)), 3, none⟩]
@[go_sem] def c65_3 : Cmd := .cond (.tmp 7) (.seq c65_2 .ret) .skip
@[go_sem] def c65_4 : Cmd := .quiet [⟨some 8, .move (.tmp 0), 117, none⟩,
    ⟨some 9, .nilCheck (.tmp 8), 0, none⟩,
    ⟨some 10, .fieldAddr 130 (.tmp 9) 0, 0, none⟩,
    ⟨some 11, .load 42 (.tmp 10), 42, none⟩,
    ⟨some 12, .call { callee := (.builtin .len), args := #[(.tmp 11)], argTypes := #[42] }, 3, none⟩,
    ⟨some 13, .move (.tmp 0), 117, none⟩,
    ⟨some 14, .nilCheck (.tmp 13), 0, none⟩,
    ⟨some 15, .fieldAddr 130 (.tmp 14) 1, 0, none⟩,
    ⟨some 16, .load 3 (.tmp 15), 3, none⟩,
    ⟨some 17, .binOp .sub 3 (.tmp 12) (.tmp 16) 3, 3, none⟩,
    ⟨some 2, .assign (.tmp 17), 3, none⟩]
@[go_sem] def c65 : Cmd := (.seq c65_0 (.seq (.seq c65_1 c65_3) (.seq c65_4 .ret)))
theorem b65 : Tryd.f65.body.map (comp 18) = some c65 := by kernel_rfl
theorem r65 : Tryd.f65.results.toList = [.tmp 2] := by kernel_rfl
-- 67 (*pith/files.Writer).put
@[go_sem] def c67_0 : Cmd := .ops [⟨some 6, .assign (.const (.int .i64 0)), 31, none⟩]
@[go_sem] def c67_1 : Cmd := .ops [⟨some 10, .move (.tmp 1), 3, none⟩,
    ⟨some 11, .move (.tmp 2), 42, none⟩,
    ⟨some 12, .build 111 #[(0, (.tmp 10)), (1, (.tmp 11))], 111, none⟩,
    ⟨some 13, .call { callee := (.value (.func 76)), args := #[(.tmp 12)], argTypes := #[111] }, 43, none⟩,
    ⟨some 9, .move (.tmp 13), 43, none⟩,
    ⟨some 14, .extract (.tmp 9) 0, 42, none⟩,
    ⟨some 15, .extract (.tmp 9) 1, 31, none⟩,
    ⟨some 7, .assign (.tmp 14), 42, none⟩,
    ⟨some 8, .assign (.tmp 15), 31, none⟩]
@[go_sem] def c67_2 : Cmd := .ops [⟨some 16, .move (.tmp 8), 31, none⟩,
    ⟨some 17, .binOp .neq 31 (.tmp 16) (.const (.int .i64 0)) 31, 4, none⟩]
@[go_sem] def c67_3 : Cmd := .ops [⟨some 18, .move (.tmp 8), 31, none⟩,
    ⟨some 6, .assign (.tmp 18), 31, none⟩]
@[go_sem] def c67_4 : Cmd := .cond (.tmp 17) (.seq c67_3 .ret) .skip
@[go_sem] def c67_5 : Cmd := .still 9 [⟨some 19, .move (.tmp 0), 98, none⟩,
    ⟨some 20, .nilCheck (.tmp 19), 0, none⟩,
    ⟨some 21, .fieldAddr 122 (.tmp 20) 0, 0, none⟩,
    ⟨some 22, .load 25 (.tmp 21), 25, none⟩,
    ⟨some 23, .move (.tmp 0), 98, none⟩,
    ⟨some 24, .nilCheck (.tmp 23), 0, none⟩,
    ⟨some 25, .fieldAddr 122 (.tmp 24) 1, 0, none⟩,
    ⟨some 26, .load 9 (.tmp 25), 9, none⟩,
    ⟨some 27, .move (.tmp 7), 42, none⟩,
    ⟨some 28, .call { callee := (.value (.func 16)), args := #[(.tmp 22), (.tmp 26), (.tmp 27)], argTypes := #[25, 9, 42] }, 31, none⟩,
    ⟨some 8, .assign (.tmp 28), 31, none⟩]
@[go_sem] def c67_6 : Cmd := .ops [⟨some 29, .move (.tmp 8), 31, none⟩,
    ⟨some 30, .binOp .neq 31 (.tmp 29) (.const (.int .i64 0)) 31, 4, none⟩]
@[go_sem] def c67_7 : Cmd := .ops [⟨some 31, .move (.tmp 0), 98, none⟩,
    ⟨some 32, .nilCheck (.tmp 31), 0, none⟩,
    ⟨some 33, .fieldAddr 122 (.tmp 32) 5, 0, none⟩,
    ⟨none, .store 4 (.tmp 33) (.const (.bool true)), 0, none⟩]
@[go_sem] def c67_8 : Cmd := .ops [⟨some 34, .move (.tmp 8), 31, none⟩,
    ⟨some 6, .assign (.tmp 34), 31, none⟩]
@[go_sem] def c67_9 : Cmd := .cond (.tmp 30) (.seq c67_7 (.seq c67_8 .ret)) .skip
@[go_sem] def c67_10 : Cmd := .ops [⟨some 35, .move (.tmp 0), 98, none⟩,
    ⟨some 36, .nilCheck (.tmp 35), 0, none⟩,
    ⟨some 37, .fieldAddr 122 (.tmp 36) 2, 0, none⟩,
    ⟨some 38, .load 3 (.tmp 37), 3, none⟩,
    ⟨some 39, .move (.tmp 7), 42, none⟩,
    ⟨some 40, .call { callee := (.builtin .len), args := #[(.tmp 39)], argTypes := #[42] }, 3, none⟩,
    ⟨some 41, .binOp .add 3 (.tmp 38) (.tmp 40) 3, 3, none⟩,
    ⟨some 42, .nilCheck (.tmp 35), 0, none⟩,
    ⟨some 43, .fieldAddr 122 (.tmp 42) 2, 0, none⟩,
    ⟨none, .store 3 (.tmp 43) (.tmp 41), 0, none⟩]
@[go_sem] def c67_11 : Cmd := .ops [⟨some 44, .move (.tmp 1), 3, none⟩,
    ⟨some 45, .binOp .neq 3 (.tmp 44) (.const (.int .i64 3)) 3, 4, none⟩]
@[go_sem] def c67_12 : Cmd := .ops [⟨some 46, .move (.tmp 0), 98, none⟩,
    ⟨some 47, .move (.tmp 0), 98, none⟩,
    ⟨some 48, .nilCheck (.tmp 47), 0, none⟩,
    ⟨some 49, .fieldAddr 122 (.tmp 48) 3, 0, none⟩,
    ⟨some 50, .load 39 (.tmp 49), 39, none⟩,
    ⟨some 51, .move (.tmp 2), 42, none⟩,
    ⟨some 52, .call { callee := (.value (.func 77)), args := #[(.tmp 50), (.tmp 51)], argTypes := #[39, 42] }, 39, none⟩,
    ⟨some 53, .nilCheck (.tmp 46), 0, none⟩,
    ⟨some 54, .fieldAddr 122 (.tmp 53) 3, 0, none⟩,
    ⟨none, .store 39 (.tmp 54) (.tmp 52), 0, none⟩]
@[go_sem] def c67_13 : Cmd := .cond (.tmp 45) c67_12 .skip
@[go_sem] def c67_14 : Cmd := .ops [⟨some 6, .assign (.const (.int .i64 0)), 31, none⟩]
@[go_sem] def c67 : Cmd := (.seq c67_0 (.seq c67_1 (.seq (.seq c67_2 c67_4) (.seq (.seq c67_5 (.seq c67_6 c67_9)) (.seq c67_10 (.seq (.seq c67_11 c67_13) (.seq c67_14 .ret)))))))
theorem b67 : Tryd.f67.body.map (comp 55) = some c67 := by kernel_rfl
theorem r67 : Tryd.f67.results.toList = [.tmp 6] := by kernel_rfl
-- 68 pith/files.four
@[go_sem] def c68_0 : Cmd := .ops [⟨some 2, .assign (.const (.slice none 0 0)), 42, none⟩]
@[go_sem] def c68_1 : Cmd := .ops [⟨some 3, .move (.tmp 0), 3, none⟩,
    ⟨some 4, .binOp .shr 3 (.tmp 3) (.const (.int .u64 24)) 47, 3, none⟩,
    ⟨some 5, .convert 3 5 (.tmp 4), 5, none⟩,
    ⟨some 6, .move (.tmp 0), 3, none⟩,
    ⟨some 7, .binOp .shr 3 (.tmp 6) (.const (.int .u64 16)) 47, 3, none⟩,
    ⟨some 8, .convert 3 5 (.tmp 7), 5, none⟩,
    ⟨some 9, .move (.tmp 0), 3, none⟩,
    ⟨some 10, .binOp .shr 3 (.tmp 9) (.const (.int .u64 8)) 47, 3, none⟩,
    ⟨some 11, .convert 3 5 (.tmp 10), 5, none⟩,
    ⟨some 12, .move (.tmp 0), 3, none⟩,
    ⟨some 13, .convert 3 5 (.tmp 12), 5, none⟩,
    ⟨some 14, .buildSlice 42 4 #[(0, (.tmp 5)), (1, (.tmp 8)), (2, (.tmp 11)), (3, (.tmp 13))], 42, none⟩,
    ⟨some 2, .assign (.tmp 14), 42, none⟩]
@[go_sem] def c68 : Cmd := (.seq c68_0 (.seq c68_1 .ret))
theorem b68 : Tryd.f68.body.map (comp 15) = some c68 := by kernel_rfl
theorem r68 : Tryd.f68.results.toList = [.tmp 2] := by kernel_rfl
-- 69 (*pith/fs.FS).Sync
@[go_sem] def c69_0 : Cmd := .ops [⟨some 4, .assign (.const (.int .i64 0)), 31, none⟩]
@[go_sem] def c69_1 : Cmd := .ops [⟨some 8, .move (.tmp 0), 25, none⟩,
    ⟨some 9, .move (.tmp 1), 9, none⟩,
    ⟨some 10, .call { callee := (.value (.func 29)), args := #[(.tmp 8), (.tmp 9)], argTypes := #[25, 9] }, 70, none⟩,
    ⟨some 7, .move (.tmp 10), 70, none⟩,
    ⟨some 11, .extract (.tmp 7) 0, 69, none⟩,
    ⟨some 12, .extract (.tmp 7) 1, 31, none⟩,
    ⟨some 5, .assign (.tmp 11), 69, none⟩,
    ⟨some 6, .assign (.tmp 12), 31, none⟩]
@[go_sem] def c69_2 : Cmd := .ops [⟨some 13, .move (.tmp 6), 31, none⟩,
    ⟨some 14, .binOp .neq 31 (.tmp 13) (.const (.int .i64 0)) 31, 4, none⟩]
@[go_sem] def c69_3 : Cmd := .ops [⟨some 15, .move (.tmp 6), 31, none⟩,
    ⟨some 4, .assign (.tmp 15), 31, none⟩]
@[go_sem] def c69_4 : Cmd := .cond (.tmp 14) (.seq c69_3 .ret) .skip
@[go_sem] def c69_5 : Cmd := .ops [⟨some 16, .move (.tmp 0), 25, none⟩,
    ⟨some 17, .call { callee := (.value (.func 34)), args := #[(.tmp 16)], argTypes := #[25] }, 31, none⟩,
    ⟨some 6, .assign (.tmp 17), 31, none⟩]
@[go_sem] def c69_6 : Cmd := .ops [⟨some 18, .move (.tmp 6), 31, none⟩,
    ⟨some 19, .binOp .eql 31 (.tmp 18) (.const (.int .i64 0)) 31, 4, none⟩]
@[go_sem] def c69_7 : Cmd := .ops [⟨some 20, .move (.tmp 5), 69, none⟩,
    ⟨some 21, .move (.tmp 5), 69, none⟩,
    ⟨some 22, .nilCheck (.tmp 21), 0, none⟩,
    ⟨some 23, .fieldAddr 73 (.tmp 22) 0, 0, none⟩,
    ⟨some 24, .load 42 (.tmp 23), 42, none⟩,
    ⟨some 25, .call { callee := (.builtin .len), args := #[(.tmp 24)], argTypes := #[42] }, 3, none⟩,
    ⟨some 26, .nilCheck (.tmp 20), 0, none⟩,
    ⟨some 27, .fieldAddr 73 (.tmp 26) 1, 0, none⟩,
    ⟨none, .store 3 (.tmp 27) (.tmp 25), 0, none⟩]
@[go_sem] def c69_8 : Cmd := .cond (.tmp 19) c69_7 .skip
@[go_sem] def c69_9 : Cmd := .ops [⟨some 28, .move (.tmp 6), 31, none⟩,
    ⟨some 4, .assign (.tmp 28), 31, none⟩]
@[go_sem] def c69 : Cmd := (.seq c69_0 (.seq c69_1 (.seq (.seq c69_2 c69_4) (.seq (.seq c69_5 (.seq c69_6 c69_8)) (.seq c69_9 .ret)))))
theorem b69 : Tryd.f69.body.map (comp 29) = some c69 := by kernel_rfl
theorem r69 : Tryd.f69.results.toList = [.tmp 4] := by kernel_rfl
-- 70 (*pith/fs.FS).settle
@[go_sem] def c70_0 : Cmd := .ops [⟨some 4, .move (.tmp 0), 25, none⟩,
    ⟨some 5, .move (.tmp 0), 25, none⟩,
    ⟨some 6, .nilCheck (.tmp 5), 0, none⟩,
    ⟨some 7, .fieldAddr 64 (.tmp 6) 1, 0, none⟩,
    ⟨some 8, .load 60 (.tmp 7), 60, none⟩,
    ⟨some 9, .call { callee := (.value (.func 78)), args := #[(.tmp 8)], argTypes := #[60] }, 60, none⟩,
    ⟨some 10, .nilCheck (.tmp 4), 0, none⟩,
    ⟨some 11, .fieldAddr 64 (.tmp 10) 2, 0, none⟩,
    ⟨none, .store 60 (.tmp 11) (.tmp 9), 0, none⟩]
@[go_sem] def c70_1 : Cmd := .ops [⟨some 12, .move (.tmp 0), 25, none⟩,
    ⟨some 13, .nilCheck (.tmp 12), 0, none⟩,
    ⟨some 14, .fieldAddr 64 (.tmp 13) 3, 0, none⟩,
    ⟨none, .store 62 (.tmp 14) (.const (.slice none 0 0)), 0, none⟩]
@[go_sem] def c70_2 : Cmd := .ops [⟨some 15, .move (.tmp 0), 25, none⟩,
    ⟨some 16, .makeMap 61 none, 61, none⟩,
    ⟨some 17, .nilCheck (.tmp 15), 0, none⟩,
    ⟨some 18, .fieldAddr 64 (.tmp 17) 4, 0, none⟩,
    ⟨none, .store 61 (.tmp 18) (.tmp 16), 0, none⟩]
@[go_sem] def c70_3 : Cmd := .ops [⟨some 19, .move (.tmp 0), 25, none⟩,
    ⟨some 20, .nilCheck (.tmp 19), 0, none⟩,
    ⟨some 21, .fieldAddr 64 (.tmp 20) 1, 0, none⟩,
    ⟨some 22, .load 60 (.tmp 21), 60, none⟩,
    ⟨some 23, .range 60 (.tmp 22), 0, none⟩]
@[go_sem] def c70_4 : Cmd := .ops [⟨some 24, .next (.tmp 23) false, 0, none⟩,
    ⟨some 25, .extract (.tmp 24) 0, 4, none⟩]
@[go_sem] def c70_5 : Cmd := .cond (.tmp 25) .skip (.exit 0)
@[go_sem] def c70_6 : Cmd := .ops [⟨some 26, .entry (.tmp 23), 0, none⟩,
    ⟨some 27, .extract (.tmp 26) 1, 69, none⟩,
    ⟨some 3, .assign (.tmp 27), 69, none⟩]
@[go_sem] def c70_7 : Cmd := .ops [⟨some 28, .move (.tmp 0), 25, none⟩,
    ⟨some 29, .nilCheck (.tmp 28), 0, none⟩,
    ⟨some 30, .fieldAddr 64 (.tmp 29) 4, 0, none⟩,
    ⟨some 31, .load 61 (.tmp 30), 61, none⟩,
    ⟨some 32, .move (.tmp 3), 69, none⟩,
    ⟨none, .mapUpdate 61 (.tmp 31) (.tmp 32) (.const (.bool true)), 0, none⟩]
@[go_sem] def c70_8 : Cmd := .block 1 (.seq c70_6 c70_7)
def c70_L0 : Cmd := (.seq c70_4 (.seq c70_5 c70_8))
@[go_sem] def c70_9 : Cmd := .loop c70_L0
@[go_sem] def c70_10 : Cmd := .block 0 c70_9
@[go_sem] def c70 : Cmd := (.seq c70_0 (.seq c70_1 (.seq c70_2 (.seq c70_3 c70_10))))
theorem b70 : Tryd.f70.body.map (comp 33) = some c70 := by kernel_rfl
theorem r70 : Tryd.f70.results.toList = [] := by kernel_rfl
-- 71 pith/frame.Decode
@[go_sem] def c71_0 : Cmd := .ops [⟨some 2, .alloc 111, 0, none⟩,
    ⟨some 3, .assign (.const (.int .i64 0)), 3, none⟩,
    ⟨some 4, .assign (.const (.int .i64 0)), 31, none⟩]
@[go_sem] def c71_1 : Cmd := .ops [⟨some 9, .move (.tmp 0), 42, none⟩,
    ⟨some 10, .call { callee := (.builtin .len), args := #[(.tmp 9)], argTypes := #[42] }, 3, none⟩,
    ⟨some 11, .binOp .lss 3 (.tmp 10) (.const (.int .i64 12)) 3, 4, none⟩]
@[go_sem] def c71_2 : Cmd := .ops [⟨some 12, .build 111 #[], 111, none⟩,
    ⟨none, .store 111 (.tmp 2) (.tmp 12), 0, none⟩,
    ⟨some 3, .assign (.const (.int .i64 0)), 3, none⟩,
    ⟨some 4, .assign (.const (.int .i64 32)), 31, none⟩]
@[go_sem] def c71_3 : Cmd := .cond (.tmp 11) (.seq c71_2 .ret) .skip
@[go_sem] def c71_4 : Cmd := .quiet [⟨some 13, .move (.tmp 0), 42, none⟩,
    ⟨some 14, .indexAddr 42 (.tmp 13) (.const (.int .i64 1)), 0, none⟩,
    ⟨some 15, .load 5 (.tmp 14), 5, none⟩,
    ⟨some 16, .convert 5 3 (.tmp 15), 3, none⟩,
    ⟨some 17, .move (.tmp 0), 42, none⟩,
    ⟨some 18, .indexAddr 42 (.tmp 17) (.const (.int .i64 2)), 0, none⟩,
    ⟨some 19, .load 5 (.tmp 18), 5, none⟩,
    ⟨some 20, .convert 5 3 (.tmp 19), 3, none⟩,
    ⟨some 21, .binOp .shl 3 (.tmp 20) (.const (.int .u64 8)) 47, 3, none⟩,
    ⟨some 22, .move (.tmp 0), 42, none⟩,
    ⟨some 23, .indexAddr 42 (.tmp 22) (.const (.int .i64 3)), 0, none⟩,
    ⟨some 24, .load 5 (.tmp 23), 5, none⟩,
    ⟨some 25, .convert 5 3 (.tmp 24), 3, none⟩,
    ⟨some 26, .binOp .add 3 (.tmp 21) (.tmp 25) 3, 3, none⟩,
    ⟨some 5, .assign (.tmp 16), 3, none⟩,
    ⟨some 6, .assign (.tmp 26), 3, none⟩]
@[go_sem] def c71_5 : Cmd := .draw (.step 3 ⟨some 27, .move (.tmp 5), 3, none⟩
    (.step 1 ⟨some 28, .call { callee := (.value (.func 79)), args := #[(.tmp 27)], argTypes := #[3] }, 4, none⟩
    (.step 3 ⟨some 29, .unOp .not 4 (.tmp 28), 4, none⟩
    (.step 3 ⟨some 30, .move (.tmp 29), 4, none⟩
    (.step 3 ⟨some 31, .move (.tmp 6), 3, some (30, false)⟩
    (.step 3 ⟨some 32, .binOp .gtr 3 (.tmp 31) (.const (.int .i64 1024)) 3, 4, some (30, false)⟩
    (.step 3 ⟨some 33, .pick (.tmp 30) (.const (.bool true)) (.tmp 32), 4, none⟩
    (.step 3 ⟨some 34, .move (.tmp 33), 4, none⟩
    (.step 3 ⟨some 35, .move (.tmp 0), 42, some (34, false)⟩
    (.step 3 ⟨some 36, .call { callee := (.builtin .len), args := #[(.tmp 35)], argTypes := #[42] }, 3, some (34, false)⟩
    (.step 3 ⟨some 37, .move (.tmp 6), 3, some (34, false)⟩
    (.step 3 ⟨some 38, .binOp .add 3 (.const (.int .i64 8)) (.tmp 37) 3, 3, some (34, false)⟩
    (.step 3 ⟨some 39, .binOp .add 3 (.tmp 38) (.const (.int .i64 4)) 3, 3, some (34, false)⟩
    (.step 3 ⟨some 40, .binOp .lss 3 (.tmp 36) (.tmp 39) 3, 4, some (34, false)⟩
    (.step 3 ⟨some 41, .pick (.tmp 34) (.const (.bool true)) (.tmp 40), 4, none⟩
    (.step 3 ⟨some 42, .move (.tmp 41), 4, none⟩
    (.step 3 ⟨some 43, .move (.tmp 0), 42, some (42, false)⟩
    (.step 3 ⟨some 44, .slice 42 (.tmp 43) none (some (.const (.int .i64 8))) none, 42, some (42, false)⟩
    (.step 3 ⟨some 45, .sliceToArrayPointer 139 (.tmp 44), 0, some (42, false)⟩
    (.step 0 ⟨some 46, .load 139 (.tmp 45), 139, some (42, false)⟩
    (.step 3 ⟨some 47, .move (.tmp 5), 3, some (42, false)⟩
    (.step 3 ⟨some 48, .move (.tmp 6), 3, some (42, false)⟩
    (.step 1 ⟨some 49, .call { callee := (.value (.func 80)), args := #[(.tmp 47), (.tmp 48)], argTypes := #[3, 3] }, 139, some (42, false)⟩
    (.step 1 ⟨some 50, .binOp .neq 139 (.tmp 46) (.tmp 49) 139, 4, some (42, false)⟩
    (.step 3 ⟨some 51, .pick (.tmp 42) (.const (.bool true)) (.tmp 50), 4, none⟩
    .done)))))))))))))))))))))))))
@[go_sem] def c71_6 : Cmd := .ops [⟨some 52, .build 111 #[], 111, none⟩,
    ⟨none, .store 111 (.tmp 2) (.tmp 52), 0, none⟩,
    ⟨some 3, .assign (.const (.int .i64 0)), 3, none⟩,
    ⟨some 4, .assign (.const (.int .i64 32)), 31, none⟩]
@[go_sem] def c71_7 : Cmd := .cond (.tmp 51) (.seq c71_6 .ret) .skip
@[go_sem] def c71_8 : Cmd := .ops [⟨some 53, .move (.tmp 0), 42, none⟩,
    ⟨some 54, .move (.tmp 6), 3, none⟩,
    ⟨some 55, .binOp .add 3 (.const (.int .i64 8)) (.tmp 54) 3, 3, none⟩,
    ⟨some 56, .slice 42 (.tmp 53) (some (.const (.int .i64 8))) (some (.tmp 55)) none, 42, none⟩,
    ⟨some 7, .assign (.tmp 56), 42, none⟩]
@[go_sem] def c71_9 : Cmd := .draw (.step 3 ⟨some 57, .move (.tmp 0), 42, none⟩
    (.step 3 ⟨some 58, .move (.tmp 6), 3, none⟩
    (.step 3 ⟨some 59, .binOp .add 3 (.const (.int .i64 8)) (.tmp 58) 3, 3, none⟩
    (.step 3 ⟨some 60, .move (.tmp 6), 3, none⟩
    (.step 3 ⟨some 61, .binOp .add 3 (.const (.int .i64 8)) (.tmp 60) 3, 3, none⟩
    (.step 3 ⟨some 62, .binOp .add 3 (.tmp 61) (.const (.int .i64 4)) 3, 3, none⟩
    (.step 3 ⟨some 63, .slice 42 (.tmp 57) (some (.tmp 59)) (some (.tmp 62)) none, 42, none⟩
    (.step 3 ⟨some 64, .sliceToArrayPointer 141 (.tmp 63), 0, none⟩
    (.step 0 ⟨some 65, .load 141 (.tmp 64), 141, none⟩
    (.step 3 ⟨some 66, .move (.tmp 7), 42, none⟩
    (.step 1 ⟨some 67, .call { callee := (.value (.func 81)), args := #[(.tmp 66)], argTypes := #[42] }, 141, none⟩
    (.step 1 ⟨some 68, .binOp .neq 141 (.tmp 65) (.tmp 67) 141, 4, none⟩
    .done))))))))))))
@[go_sem] def c71_10 : Cmd := .ops [⟨some 69, .build 111 #[], 111, none⟩,
    ⟨none, .store 111 (.tmp 2) (.tmp 69), 0, none⟩,
    ⟨some 3, .assign (.const (.int .i64 0)), 3, none⟩,
    ⟨some 4, .assign (.const (.int .i64 32)), 31, none⟩]
@[go_sem] def c71_11 : Cmd := .cond (.tmp 68) (.seq c71_10 .ret) .skip
@[go_sem] def c71_12 : Cmd := .ops [⟨some 70, .move (.tmp 6), 3, none⟩,
    ⟨some 71, .makeSlice 42 (.tmp 70) (.tmp 70), 42, none⟩,
    ⟨some 8, .assign (.tmp 71), 42, none⟩]
@[go_sem] def c71_13 : Cmd := .ops [⟨some 72, .move (.tmp 8), 42, none⟩,
    ⟨some 73, .move (.tmp 7), 42, none⟩,
    ⟨some 74, .call { callee := (.builtin .copy), args := #[(.tmp 72), (.tmp 73)], argTypes := #[42, 42] }, 3, none⟩]
@[go_sem] def c71_14 : Cmd := .ops [⟨some 75, .move (.tmp 5), 3, none⟩,
    ⟨some 76, .move (.tmp 8), 42, none⟩,
    ⟨some 77, .build 111 #[(0, (.tmp 75)), (1, (.tmp 76))], 111, none⟩,
    ⟨some 78, .move (.tmp 6), 3, none⟩,
    ⟨some 79, .binOp .add 3 (.const (.int .i64 8)) (.tmp 78) 3, 3, none⟩,
    ⟨some 80, .binOp .add 3 (.tmp 79) (.const (.int .i64 4)) 3, 3, none⟩,
    ⟨none, .store 111 (.tmp 2) (.tmp 77), 0, none⟩,
    ⟨some 3, .assign (.tmp 80), 3, none⟩,
    ⟨some 4, .assign (.const (.int .i64 0)), 31, none⟩]
@[go_sem] def c71 : Cmd := (.seq c71_0 (.seq (.seq c71_1 c71_3) (.seq c71_4 (.seq (.seq c71_5 c71_7) (.seq c71_8 (.seq (.seq c71_9 c71_11) (.seq c71_12 (.seq c71_13 (.seq c71_14 .ret)))))))))
theorem b71 : Tryd.f71.body.map (comp 81) = some c71 := by kernel_rfl
theorem r71 : Tryd.f71.results.toList = [.cell 2 111, .tmp 3, .tmp 4] := by kernel_rfl
-- 72 (*pith/files.Reader).end
@[go_sem] def c72_0 : Cmd := .ops [⟨some 3, .box 111 (.tmp 1), 0, none⟩,
    ⟨some 4, .assign (.const (.int .i64 0)), 31, none⟩]
@[go_sem] def c72_1 : Cmd := .draw (.step 3 ⟨some 7, .fieldAddr 111 (.tmp 3) 0, 0, none⟩
    (.step 0 ⟨some 8, .load 3 (.tmp 7), 3, none⟩
    (.step 3 ⟨some 9, .binOp .neq 3 (.tmp 8) (.const (.int .i64 3)) 3, 4, none⟩
    (.step 3 ⟨some 10, .move (.tmp 9), 4, none⟩
    (.step 3 ⟨some 11, .fieldAddr 111 (.tmp 3) 1, 0, some (10, false)⟩
    (.step 0 ⟨some 12, .load 42 (.tmp 11), 42, some (10, false)⟩
    (.step 3 ⟨some 14, .move (.tmp 0), 80, some (10, false)⟩
    (.step 3 ⟨some 15, .nilCheck (.tmp 14), 0, some (10, false)⟩
    (.step 3 ⟨some 16, .fieldAddr 109 (.tmp 15) 3, 0, some (10, false)⟩
    (.step 0 ⟨some 17, .load 3 (.tmp 16), 3, some (10, false)⟩
    (.both ⟨some 13, .convert 42 9 (.tmp 12), 9, some (10, false)⟩
    (.step 1 ⟨some 18, .call { callee := (.value (.func 68)), args := #[(.tmp 17)], argTypes := #[3] }, 42, some (10, false)⟩
    (.step 1 ⟨some 19, .convert 42 9 (.tmp 18), 9, some (10, false)⟩
    (.step 3 ⟨some 20, .binOp .neq 9 (.tmp 13) (.tmp 19) 9, 4, some (10, false)⟩
    (.step 3 ⟨some 21, .pick (.tmp 10) (.const (.bool true)) (.tmp 20), 4, none⟩
    .done))))
    ⟨some 18, .call { callee := (.value (.func 68)), args := #[(.tmp 17)], argTypes := #[3] }, 42, some (10, false)⟩
    (.both ⟨some 13, .convert 42 9 (.tmp 12), 9, some (10, false)⟩
    (.step 1 ⟨some 19, .convert 42 9 (.tmp 18), 9, some (10, false)⟩
    (.step 3 ⟨some 20, .binOp .neq 9 (.tmp 13) (.tmp 19) 9, 4, some (10, false)⟩
    (.step 3 ⟨some 21, .pick (.tmp 10) (.const (.bool true)) (.tmp 20), 4, none⟩
    .done)))
    ⟨some 19, .convert 42 9 (.tmp 18), 9, some (10, false)⟩
    (.step 1 ⟨some 13, .convert 42 9 (.tmp 12), 9, some (10, false)⟩
    (.step 3 ⟨some 20, .binOp .neq 9 (.tmp 13) (.tmp 19) 9, 4, some (10, false)⟩
    (.step 3 ⟨some 21, .pick (.tmp 10) (.const (.bool true)) (.tmp 20), 4, none⟩
    .done)))))))))))))))
@[go_sem] def c72_2 : Cmd := .ops [⟨some 4, .assign (.const (.int .i64 90)), 31, none⟩]
@[go_sem] def c72_3 : Cmd := .cond (.tmp 21) (.seq c72_2 .ret) .skip
@[go_sem] def c72_4 : Cmd := .draw (.step 3 ⟨some 23, .move (.tmp 0), 80, none⟩
    (.step 3 ⟨some 24, .nilCheck (.tmp 23), 0, none⟩
    (.step 3 ⟨some 25, .fieldAddr 109 (.tmp 24) 0, 0, none⟩
    (.step 0 ⟨some 26, .load 25 (.tmp 25), 25, none⟩
    (.step 3 ⟨some 27, .move (.tmp 0), 80, none⟩
    (.step 3 ⟨some 28, .nilCheck (.tmp 27), 0, none⟩
    (.step 3 ⟨some 29, .fieldAddr 109 (.tmp 28) 1, 0, none⟩
    (.step 0 ⟨some 30, .load 9 (.tmp 29), 9, none⟩
    (.step 3 ⟨some 31, .move (.tmp 0), 80, none⟩
    (.step 3 ⟨some 32, .nilCheck (.tmp 31), 0, none⟩
    (.step 3 ⟨some 33, .fieldAddr 109 (.tmp 32) 2, 0, none⟩
    (.step 0 ⟨some 34, .load 3 (.tmp 33), 3, none⟩
    (.step 1 ⟨some 35, .call { callee := (.value (.func 14)), args := #[(.tmp 26), (.tmp 30), (.tmp 34), (.const (.int .i64 1))], argTypes := #[25, 9, 3, 3] }, 43, none⟩
    (.step 3 ⟨some 22, .move (.tmp 35), 43, none⟩
    (.step 3 ⟨some 36, .extract (.tmp 22) 0, 42, none⟩
    (.step 3 ⟨some 37, .extract (.tmp 22) 1, 31, none⟩
    (.step 3 ⟨some 5, .assign (.tmp 36), 42, none⟩
    (.step 3 ⟨some 6, .assign (.tmp 37), 31, none⟩
    .done))))))))))))))))))
@[go_sem] def c72_5 : Cmd := .ops [⟨some 38, .move (.tmp 6), 31, none⟩,
    ⟨some 39, .binOp .eql 31 (.tmp 38) (.const (.int .i64 0)) 31, 4, none⟩,
    ⟨some 40, .move (.tmp 39), 4, none⟩,
    ⟨some 41, .move (.tmp 5), 42, some (40, true)⟩,
    ⟨some 42, .call { callee := (.builtin .len), args := #[(.tmp 41)], argTypes := #[42] }, 3, some (40, true)⟩,
    ⟨some 43, .binOp .gtr 3 (.tmp 42) (.const (.int .i64 0)) 3, 4, some (40, true)⟩,
    ⟨some 44, .pick (.tmp 40) (.tmp 43) (.const (.bool false)), 4, none⟩]
@[go_sem] def c72_6 : Cmd := .ops [⟨some 6, .assign (.const (.int .i64 90)), 31, none⟩]
@[go_sem] def c72_7 : Cmd := .cond (.tmp 44) c72_6 .skip
@[go_sem] def c72_8 : Cmd := .ops [⟨some 45, .move (.tmp 6), 31, none⟩,
    ⟨some 4, .assign (.tmp 45), 31, none⟩]
@[go_sem] def c72 : Cmd := (.seq c72_0 (.seq (.seq c72_1 c72_3) (.seq c72_4 (.seq (.seq c72_5 c72_7) (.seq c72_8 .ret)))))
theorem b72 : Tryd.f72.body.map (comp 46) = some c72 := by kernel_rfl
theorem r72 : Tryd.f72.results.toList = [.tmp 4] := by kernel_rfl
-- 73 pith/varint.Len
@[go_sem] def c73_0 : Cmd := .ops [⟨some 2, .assign (.const (.int .i64 0)), 3, none⟩]
@[go_sem] def c73_1 : Cmd := .ops [⟨some 3, .assign (.const (.int .i64 1)), 3, none⟩]
@[go_sem] def c73_2 : Cmd := .ops [⟨some 4, .move (.tmp 0), 3, none⟩,
    ⟨some 5, .binOp .geq 3 (.tmp 4) (.const (.int .i64 128)) 3, 4, none⟩]
@[go_sem] def c73_3 : Cmd := .cond (.tmp 5) .skip (.exit 0)
@[go_sem] def c73_4 : Cmd := .ops [⟨some 6, .move (.tmp 0), 3, none⟩,
    ⟨some 7, .binOp .shr 3 (.tmp 6) (.const (.int .u64 7)) 47, 3, none⟩,
    ⟨some 0, .assign (.tmp 7), 3, none⟩]
@[go_sem] def c73_5 : Cmd := .ops [⟨some 8, .move (.tmp 3), 3, none⟩,
    ⟨some 9, .binOp .add 3 (.tmp 8) (.const (.int .i64 1)) 3, 3, none⟩,
    ⟨some 3, .assign (.tmp 9), 3, none⟩]
@[go_sem] def c73_6 : Cmd := .block 1 (.seq c73_4 c73_5)
def c73_L0 : Cmd := (.seq (.seq c73_2 c73_3) c73_6)
@[go_sem] def c73_7 : Cmd := .loop c73_L0
@[go_sem] def c73_8 : Cmd := .block 0 c73_7
@[go_sem] def c73_9 : Cmd := .ops [⟨some 10, .move (.tmp 3), 3, none⟩,
    ⟨some 2, .assign (.tmp 10), 3, none⟩]
@[go_sem] def c73 : Cmd := (.seq c73_0 (.seq c73_1 (.seq c73_8 (.seq c73_9 .ret))))
theorem b73 : Tryd.f73.body.map (comp 11) = some c73 := by kernel_rfl
theorem r73 : Tryd.f73.results.toList = [.tmp 2] := by kernel_rfl
-- 74 pith/varint.form
@[go_sem] def c74_0 : Cmd := .ops [⟨some 2, .assign (.const (.int .i64 0)), 3, none⟩,
    ⟨some 3, .assign (.const (.int .i64 0)), 3, none⟩,
    ⟨some 4, .assign (.const (.int .i64 0)), 31, none⟩]
@[go_sem] def c74_1 : Cmd := .ops [⟨some 8, .move (.tmp 0), 42, none⟩,
    ⟨some 9, .call { callee := (.builtin .len), args := #[(.tmp 8)], argTypes := #[42] }, 3, none⟩,
    ⟨some 10, .binOp .gtr 3 (.tmp 9) (.const (.int .i64 0)) 3, 4, none⟩,
    ⟨some 11, .move (.tmp 10), 4, none⟩,
    ⟨some 12, .move (.tmp 0), 42, some (11, true)⟩,
    ⟨some 13, .indexAddr 42 (.tmp 12) (.const (.int .i64 0)), 0, some (11, true)⟩,
    ⟨some 14, .load 5 (.tmp 13), 5, some (11, true)⟩,
    ⟨some 15, .binOp .eql 5 (.tmp 14) (.const (.int .u8 128)) 5, 4, some (11, true)⟩,
    ⟨some 16, .pick (.tmp 11) (.tmp 15) (.const (.bool false)), 4, none⟩]
@[go_sem] def c74_2 : Cmd := .ops [⟨some 2, .assign (.const (.int .i64 0)), 3, none⟩,
    ⟨some 3, .assign (.const (.int .i64 0)), 3, none⟩,
    ⟨some 4, .assign (.const (.int .i64 11)), 31, none⟩]
@[go_sem] def c74_3 : Cmd := .cond (.tmp 16) (.seq c74_2 .ret) .skip
@[go_sem] def c74_4 : Cmd := .ops [⟨some 5, .assign (.const (.int .i64 0)), 3, none⟩]
@[go_sem] def c74_5 : Cmd := .ops [⟨some 17, .move (.tmp 0), 42, none⟩,
    ⟨some 18, .move (.tmp 0), 42, none⟩,
    ⟨some 19, .call { callee := (.builtin .len), args := #[(.tmp 18)], argTypes := #[42] }, 3, none⟩,
    ⟨some 20, .call { callee := (.builtin .min), args := #[(.tmp 19), (.const (.int .i64 9))], argTypes := #[3, 3] }, 3, none⟩,
    ⟨some 21, .move (.tmp 0), 42, none⟩,
    ⟨some 22, .call { callee := (.builtin .len), args := #[(.tmp 21)], argTypes := #[42] }, 3, none⟩,
    ⟨some 23, .call { callee := (.builtin .min), args := #[(.tmp 22), (.const (.int .i64 9))], argTypes := #[3, 3] }, 3, none⟩,
    ⟨some 24, .slice 42 (.tmp 17) none (some (.tmp 20)) (some (.tmp 23)), 42, none⟩,
    ⟨some 25, .call { callee := (.builtin .len), args := #[(.tmp 24)], argTypes := #[42] }, 3, none⟩,
    ⟨some 26, .move (.const (.int .i64 0)), 3, none⟩]
@[go_sem] def c74_6 : Cmd := .ops [⟨some 27, .binOp .lss 3 (.tmp 26) (.tmp 25) 3, 0, none⟩]
@[go_sem] def c74_7 : Cmd := .cond (.tmp 27) .skip (.exit 0)
@[go_sem] def c74_8 : Cmd := .ops [⟨some 28, .move (.tmp 26), 3, none⟩,
    ⟨some 29, .indexAddr 42 (.tmp 24) (.tmp 26), 0, none⟩,
    ⟨some 30, .load 5 (.tmp 29), 5, none⟩,
    ⟨some 6, .assign (.tmp 28), 3, none⟩,
    ⟨some 7, .assign (.tmp 30), 5, none⟩]
@[go_sem] def c74_9 : Cmd := .ops [⟨some 31, .move (.tmp 5), 3, none⟩,
    ⟨some 32, .binOp .shl 3 (.tmp 31) (.const (.int .u64 7)) 47, 3, none⟩,
    ⟨some 33, .move (.tmp 7), 5, none⟩,
    ⟨some 34, .binOp .and 5 (.tmp 33) (.const (.int .u8 127)) 5, 5, none⟩,
    ⟨some 35, .convert 5 3 (.tmp 34), 3, none⟩,
    ⟨some 36, .binOp .or 3 (.tmp 32) (.tmp 35) 3, 3, none⟩,
    ⟨some 5, .assign (.tmp 36), 3, none⟩]
@[go_sem] def c74_10 : Cmd := .ops [⟨some 37, .move (.tmp 7), 5, none⟩,
    ⟨some 38, .binOp .lss 5 (.tmp 37) (.const (.int .u8 128)) 5, 4, none⟩]
@[go_sem] def c74_11 : Cmd := .ops [⟨some 39, .move (.tmp 5), 3, none⟩,
    ⟨some 40, .move (.tmp 6), 3, none⟩,
    ⟨some 41, .binOp .add 3 (.tmp 40) (.const (.int .i64 1)) 3, 3, none⟩,
    ⟨some 2, .assign (.tmp 39), 3, none⟩,
    ⟨some 3, .assign (.tmp 41), 3, none⟩,
    ⟨some 4, .assign (.const (.int .i64 0)), 31, none⟩]
@[go_sem] def c74_12 : Cmd := .cond (.tmp 38) (.seq c74_11 .ret) .skip
@[go_sem] def c74_13 : Cmd := .block 1 (.seq c74_8 (.seq c74_9 (.seq c74_10 c74_12)))
@[go_sem] def c74_14 : Cmd := .ops [⟨some 42, .binOp .add 3 (.tmp 26) (.const (.int .i64 1)) 3, 3, none⟩,
    ⟨some 26, .move (.tmp 42), 3, none⟩]
def c74_L0 : Cmd := (.seq c74_6 (.seq c74_7 (.seq c74_13 c74_14)))
@[go_sem] def c74_15 : Cmd := .loop c74_L0
@[go_sem] def c74_16 : Cmd := .block 0 c74_15
@[go_sem] def c74_17 : Cmd := .ops [⟨some 43, .move (.tmp 0), 42, none⟩,
    ⟨some 44, .call { callee := (.builtin .len), args := #[(.tmp 43)], argTypes := #[42] }, 3, none⟩,
    ⟨some 45, .binOp .geq 3 (.tmp 44) (.const (.int .i64 9)) 3, 4, none⟩]
@[go_sem] def c74_18 : Cmd := .ops [⟨some 2, .assign (.const (.int .i64 0)), 3, none⟩,
    ⟨some 3, .assign (.const (.int .i64 0)), 3, none⟩,
    ⟨some 4, .assign (.const (.int .i64 12)), 31, none⟩]
@[go_sem] def c74_19 : Cmd := .cond (.tmp 45) (.seq c74_18 .ret) .skip
@[go_sem] def c74_20 : Cmd := .ops [⟨some 2, .assign (.const (.int .i64 0)), 3, none⟩,
    ⟨some 3, .assign (.const (.int .i64 0)), 3, none⟩,
    ⟨some 4, .assign (.const (.int .i64 10)), 31, none⟩]
@[go_sem] def c74 : Cmd := (.seq c74_0 (.seq (.seq c74_1 c74_3) (.seq c74_4 (.seq (.seq c74_5 c74_16) (.seq (.seq c74_17 c74_19) (.seq c74_20 .ret))))))
theorem b74 : Tryd.f74.body.map (comp 46) = some c74 := by kernel_rfl
theorem r74 : Tryd.f74.results.toList = [.tmp 2, .tmp 3, .tmp 4] := by kernel_rfl
-- 76 pith/frame.Encode
@[go_sem] def c76_0 : Cmd := .ops [⟨some 1, .box 111 (.tmp 0), 0, none⟩,
    ⟨some 2, .assign (.const (.slice none 0 0)), 42, none⟩,
    ⟨some 3, .assign (.const (.int .i64 0)), 31, none⟩]
@[go_sem] def c76_1 : Cmd := .ops [⟨some 8, .fieldAddr 111 (.tmp 1) 0, 0, none⟩,
    ⟨some 9, .load 3 (.tmp 8), 3, none⟩,
    ⟨some 10, .call { callee := (.value (.func 79)), args := #[(.tmp 9)], argTypes := #[3] }, 4, none⟩,
    ⟨some 11, .unOp .not 4 (.tmp 10), 4, none⟩]
@[go_sem] def c76_2 : Cmd := .ops [⟨some 2, .assign (.const (.slice none 0 0)), 42, none⟩,
    ⟨some 3, .assign (.const (.int .i64 30)), 31, none⟩]
@[go_sem] def c76_3 : Cmd := .cond (.tmp 11) (.seq c76_2 .ret) .skip
@[go_sem] def c76_4 : Cmd := .ops [⟨some 12, .fieldAddr 111 (.tmp 1) 1, 0, none⟩,
    ⟨some 13, .load 42 (.tmp 12), 42, none⟩,
    ⟨some 14, .call { callee := (.builtin .len), args := #[(.tmp 13)], argTypes := #[42] }, 3, none⟩,
    ⟨some 4, .assign (.tmp 14), 3, none⟩]
@[go_sem] def c76_5 : Cmd := .ops [⟨some 15, .move (.tmp 4), 3, none⟩,
    ⟨some 16, .binOp .gtr 3 (.tmp 15) (.const (.int .i64 1024)) 3, 4, none⟩]
@[go_sem] def c76_6 : Cmd := .ops [⟨some 2, .assign (.const (.slice none 0 0)), 42, none⟩,
    ⟨some 3, .assign (.const (.int .i64 31)), 31, none⟩]
@[go_sem] def c76_7 : Cmd := .cond (.tmp 16) (.seq c76_6 .ret) .skip
@[go_sem] def c76_8 : Cmd := .ops [⟨some 17, .move (.tmp 4), 3, none⟩,
    ⟨some 18, .binOp .add 3 (.const (.int .i64 8)) (.tmp 17) 3, 3, none⟩,
    ⟨some 19, .binOp .add 3 (.tmp 18) (.const (.int .i64 4)) 3, 3, none⟩,
    ⟨some 20, .makeSlice 42 (.tmp 19) (.tmp 19), 42, none⟩,
    ⟨some 5, .assign (.tmp 20), 42, none⟩]
@[go_sem] def c76_9 : Cmd := .draw (.step 3 ⟨some 21, .fieldAddr 111 (.tmp 1) 0, 0, none⟩
    (.step 0 ⟨some 22, .load 3 (.tmp 21), 3, none⟩
    (.step 3 ⟨some 23, .move (.tmp 4), 3, none⟩
    (.step 3 ⟨some 25, .fieldAddr 111 (.tmp 1) 1, 0, none⟩
    (.step 0 ⟨some 26, .load 42 (.tmp 25), 42, none⟩
    (.three ⟨some 24, .call { callee := (.value (.func 80)), args := #[(.tmp 22), (.tmp 23)], argTypes := #[3, 3] }, 139, none⟩
    (.three ⟨some 27, .call { callee := (.value (.func 81)), args := #[(.tmp 26)], argTypes := #[42] }, 141, none⟩
    (.both ⟨some 6, .alloc 139, 0, none⟩
    (.step 1 ⟨some 7, .alloc 141, 0, none⟩
    (.step 2 ⟨none, .store 139 (.tmp 6) (.tmp 24), 0, none⟩
    (.step 2 ⟨none, .store 141 (.tmp 7) (.tmp 27), 0, none⟩
    .done)))
    ⟨some 7, .alloc 141, 0, none⟩
    (.step 1 ⟨some 6, .alloc 139, 0, none⟩
    (.step 2 ⟨none, .store 139 (.tmp 6) (.tmp 24), 0, none⟩
    (.step 2 ⟨none, .store 141 (.tmp 7) (.tmp 27), 0, none⟩
    .done))))
    ⟨some 6, .alloc 139, 0, none⟩
    (.both ⟨some 27, .call { callee := (.value (.func 81)), args := #[(.tmp 26)], argTypes := #[42] }, 141, none⟩
    (.step 1 ⟨some 7, .alloc 141, 0, none⟩
    (.step 2 ⟨none, .store 139 (.tmp 6) (.tmp 24), 0, none⟩
    (.step 2 ⟨none, .store 141 (.tmp 7) (.tmp 27), 0, none⟩
    .done)))
    ⟨some 7, .alloc 141, 0, none⟩
    (.step 1 ⟨some 27, .call { callee := (.value (.func 81)), args := #[(.tmp 26)], argTypes := #[42] }, 141, none⟩
    (.step 2 ⟨none, .store 139 (.tmp 6) (.tmp 24), 0, none⟩
    (.step 2 ⟨none, .store 141 (.tmp 7) (.tmp 27), 0, none⟩
    .done))))
    ⟨some 7, .alloc 141, 0, none⟩
    (.both ⟨some 27, .call { callee := (.value (.func 81)), args := #[(.tmp 26)], argTypes := #[42] }, 141, none⟩
    (.step 1 ⟨some 6, .alloc 139, 0, none⟩
    (.step 2 ⟨none, .store 139 (.tmp 6) (.tmp 24), 0, none⟩
    (.step 2 ⟨none, .store 141 (.tmp 7) (.tmp 27), 0, none⟩
    .done)))
    ⟨some 6, .alloc 139, 0, none⟩
    (.step 1 ⟨some 27, .call { callee := (.value (.func 81)), args := #[(.tmp 26)], argTypes := #[42] }, 141, none⟩
    (.step 2 ⟨none, .store 139 (.tmp 6) (.tmp 24), 0, none⟩
    (.step 2 ⟨none, .store 141 (.tmp 7) (.tmp 27), 0, none⟩
    .done)))))
    ⟨some 6, .alloc 139, 0, none⟩
    (.both ⟨some 24, .call { callee := (.value (.func 80)), args := #[(.tmp 22), (.tmp 23)], argTypes := #[3, 3] }, 139, none⟩
    (.both ⟨some 27, .call { callee := (.value (.func 81)), args := #[(.tmp 26)], argTypes := #[42] }, 141, none⟩
    (.step 1 ⟨some 7, .alloc 141, 0, none⟩
    (.step 2 ⟨none, .store 139 (.tmp 6) (.tmp 24), 0, none⟩
    (.step 2 ⟨none, .store 141 (.tmp 7) (.tmp 27), 0, none⟩
    .done)))
    ⟨some 7, .alloc 141, 0, none⟩
    (.step 1 ⟨some 27, .call { callee := (.value (.func 81)), args := #[(.tmp 26)], argTypes := #[42] }, 141, none⟩
    (.step 2 ⟨none, .store 139 (.tmp 6) (.tmp 24), 0, none⟩
    (.step 2 ⟨none, .store 141 (.tmp 7) (.tmp 27), 0, none⟩
    .done))))
    ⟨some 7, .alloc 141, 0, none⟩
    (.step 1 ⟨some 24, .call { callee := (.value (.func 80)), args := #[(.tmp 22), (.tmp 23)], argTypes := #[3, 3] }, 139, none⟩
    (.step 1 ⟨some 27, .call { callee := (.value (.func 81)), args := #[(.tmp 26)], argTypes := #[42] }, 141, none⟩
    (.step 2 ⟨none, .store 139 (.tmp 6) (.tmp 24), 0, none⟩
    (.step 2 ⟨none, .store 141 (.tmp 7) (.tmp 27), 0, none⟩
    .done)))))
    ⟨some 7, .alloc 141, 0, none⟩
    (.both ⟨some 24, .call { callee := (.value (.func 80)), args := #[(.tmp 22), (.tmp 23)], argTypes := #[3, 3] }, 139, none⟩
    (.both ⟨some 27, .call { callee := (.value (.func 81)), args := #[(.tmp 26)], argTypes := #[42] }, 141, none⟩
    (.step 1 ⟨some 6, .alloc 139, 0, none⟩
    (.step 2 ⟨none, .store 139 (.tmp 6) (.tmp 24), 0, none⟩
    (.step 2 ⟨none, .store 141 (.tmp 7) (.tmp 27), 0, none⟩
    .done)))
    ⟨some 6, .alloc 139, 0, none⟩
    (.step 1 ⟨some 27, .call { callee := (.value (.func 81)), args := #[(.tmp 26)], argTypes := #[42] }, 141, none⟩
    (.step 2 ⟨none, .store 139 (.tmp 6) (.tmp 24), 0, none⟩
    (.step 2 ⟨none, .store 141 (.tmp 7) (.tmp 27), 0, none⟩
    .done))))
    ⟨some 6, .alloc 139, 0, none⟩
    (.step 1 ⟨some 24, .call { callee := (.value (.func 80)), args := #[(.tmp 22), (.tmp 23)], argTypes := #[3, 3] }, 139, none⟩
    (.step 1 ⟨some 27, .call { callee := (.value (.func 81)), args := #[(.tmp 26)], argTypes := #[42] }, 141, none⟩
    (.step 2 ⟨none, .store 139 (.tmp 6) (.tmp 24), 0, none⟩
    (.step 2 ⟨none, .store 141 (.tmp 7) (.tmp 27), 0, none⟩
    .done)))))))))))
@[go_sem] def c76_10 : Cmd := .ops [⟨some 28, .move (.tmp 5), 42, none⟩,
    ⟨some 29, .slice 139 (.tmp 6) none none none, 42, none⟩,
    ⟨some 30, .call { callee := (.builtin .copy), args := #[(.tmp 28), (.tmp 29)], argTypes := #[42, 42] }, 3, none⟩]
@[go_sem] def c76_11 : Cmd := .still 4 [⟨some 31, .move (.tmp 5), 42, none⟩,
    ⟨some 32, .slice 42 (.tmp 31) (some (.const (.int .i64 8))) none none, 42, none⟩,
    ⟨some 33, .fieldAddr 111 (.tmp 1) 1, 0, none⟩,
    ⟨some 34, .load 42 (.tmp 33), 42, none⟩,
    ⟨some 35, .call { callee := (.builtin .copy), args := #[(.tmp 32), (.tmp 34)], argTypes := #[42, 42] }, 3, none⟩]
@[go_sem] def c76_12 : Cmd := .still 5 [⟨some 36, .move (.tmp 5), 42, none⟩,
    ⟨some 37, .move (.tmp 4), 3, none⟩,
    ⟨some 38, .binOp .add 3 (.const (.int .i64 8)) (.tmp 37) 3, 3, none⟩,
    ⟨some 39, .slice 42 (.tmp 36) (some (.tmp 38)) none none, 42, none⟩,
    ⟨some 40, .slice 141 (.tmp 7) none none none, 42, none⟩,
    ⟨some 41, .call { callee := (.builtin .copy), args := #[(.tmp 39), (.tmp 40)], argTypes := #[42, 42] }, 3, none⟩]
@[go_sem] def c76_13 : Cmd := .ops [⟨some 42, .move (.tmp 5), 42, none⟩,
    ⟨some 2, .assign (.tmp 42), 42, none⟩,
    ⟨some 3, .assign (.const (.int .i64 0)), 31, none⟩]
@[go_sem] def c76 : Cmd := (.seq c76_0 (.seq (.seq c76_1 c76_3) (.seq c76_4 (.seq (.seq c76_5 c76_7) (.seq c76_8 (.seq c76_9 (.seq c76_10 (.seq c76_11 (.seq c76_12 (.seq c76_13 .ret))))))))))
theorem b76 : Tryd.f76.body.map (comp 43) = some c76 := by kernel_rfl
theorem r76 : Tryd.f76.results.toList = [.tmp 2, .tmp 3] := by kernel_rfl
-- 77 pith/crc.Update
@[go_sem] def c77_0 : Cmd := .ops [⟨some 4, .assign (.const (.int .u32 0)), 39, none⟩]
@[go_sem] def c77_1 : Cmd := .ops [⟨some 8, .move (.tmp 0), 39, none⟩,
    ⟨some 9, .unOp .xor 39 (.tmp 8), 39, none⟩,
    ⟨some 5, .assign (.tmp 9), 39, none⟩]
@[go_sem] def c77_2 : Cmd := .ops [⟨some 10, .move (.tmp 1), 42, none⟩,
    ⟨some 11, .call { callee := (.builtin .len), args := #[(.tmp 10)], argTypes := #[42] }, 3, none⟩,
    ⟨some 12, .move (.const (.int .i64 0)), 3, none⟩]
@[go_sem] def c77_3 : Cmd := .ops [⟨some 13, .binOp .lss 3 (.tmp 12) (.tmp 11) 3, 0, none⟩]
@[go_sem] def c77_4 : Cmd := .cond (.tmp 13) .skip (.exit 0)
@[go_sem] def c77_5 : Cmd := .ops [⟨some 14, .indexAddr 42 (.tmp 10) (.tmp 12), 0, none⟩,
    ⟨some 15, .load 5 (.tmp 14), 5, none⟩,
    ⟨some 7, .assign (.tmp 15), 5, none⟩]
@[go_sem] def c77_6 : Cmd := .ops [⟨some 16, .move (.tmp 5), 39, none⟩,
    ⟨some 17, .binOp .shl 39 (.tmp 16) (.const (.int .u64 4)) 47, 39, none⟩,
    ⟨some 18, .move (.tmp 5), 39, none⟩,
    ⟨some 19, .binOp .shr 39 (.tmp 18) (.const (.int .u64 28)) 47, 39, none⟩,
    ⟨some 20, .convert 39 5 (.tmp 19), 5, none⟩,
    ⟨some 21, .move (.tmp 7), 5, none⟩,
    ⟨some 22, .binOp .shr 5 (.tmp 21) (.const (.int .u64 4)) 47, 5, none⟩,
    ⟨some 23, .binOp .xor 5 (.tmp 20) (.tmp 22) 5, 5, none⟩,
    ⟨some 24, .indexAddr 149 (.global 0) (.tmp 23), 0, none⟩,
    ⟨some 25, .load 39 (.tmp 24), 39, none⟩,
    ⟨some 26, .binOp .xor 39 (.tmp 17) (.tmp 25) 39, 39, none⟩,
    ⟨some 5, .assign (.tmp 26), 39, none⟩]
@[go_sem] def c77_7 : Cmd := .ops [⟨some 27, .move (.tmp 5), 39, none⟩,
    ⟨some 28, .binOp .shl 39 (.tmp 27) (.const (.int .u64 4)) 47, 39, none⟩,
    ⟨some 29, .move (.tmp 5), 39, none⟩,
    ⟨some 30, .binOp .shr 39 (.tmp 29) (.const (.int .u64 28)) 47, 39, none⟩,
    ⟨some 31, .convert 39 5 (.tmp 30), 5, none⟩,
    ⟨some 32, .move (.tmp 7), 5, none⟩,
    ⟨some 33, .binOp .and 5 (.tmp 32) (.const (.int .u8 15)) 5, 5, none⟩,
    ⟨some 34, .binOp .xor 5 (.tmp 31) (.tmp 33) 5, 5, none⟩,
    ⟨some 35, .indexAddr 149 (.global 0) (.tmp 34), 0, none⟩,
    ⟨some 36, .load 39 (.tmp 35), 39, none⟩,
    ⟨some 37, .binOp .xor 39 (.tmp 28) (.tmp 36) 39, 39, none⟩,
    ⟨some 5, .assign (.tmp 37), 39, none⟩]
@[go_sem] def c77_8 : Cmd := .block 1 (.seq c77_5 (.seq c77_6 c77_7))
@[go_sem] def c77_9 : Cmd := .ops [⟨some 38, .binOp .add 3 (.tmp 12) (.const (.int .i64 1)) 3, 3, none⟩,
    ⟨some 12, .move (.tmp 38), 3, none⟩]
def c77_L0 : Cmd := (.seq c77_3 (.seq c77_4 (.seq c77_8 c77_9)))
@[go_sem] def c77_10 : Cmd := .loop c77_L0
@[go_sem] def c77_11 : Cmd := .block 0 c77_10
@[go_sem] def c77_12 : Cmd := .ops [⟨some 39, .move (.tmp 5), 39, none⟩,
    ⟨some 40, .unOp .xor 39 (.tmp 39), 39, none⟩,
    ⟨some 4, .assign (.tmp 40), 39, none⟩]
@[go_sem] def c77 : Cmd := (.seq c77_0 (.seq c77_1 (.seq (.seq c77_2 c77_11) (.seq c77_12 .ret))))
theorem b77 : Tryd.f77.body.map (comp 41) = some c77 := by kernel_rfl
theorem r77 : Tryd.f77.results.toList = [.tmp 4] := by kernel_rfl
-- 79 pith/frame.kind
@[go_sem] def c79_0 : Cmd := .ops [⟨some 2, .assign (.const (.bool false)), 4, none⟩]
@[go_sem] def c79_1 : Cmd := .ops [⟨some 3, .move (.tmp 0), 3, none⟩,
    ⟨some 4, .binOp .eql 3 (.tmp 3) (.const (.int .i64 1)) 3, 4, none⟩,
    ⟨some 5, .move (.tmp 4), 4, none⟩,
    ⟨some 6, .move (.tmp 0), 3, some (5, false)⟩,
    ⟨some 7, .binOp .eql 3 (.tmp 6) (.const (.int .i64 2)) 3, 4, some (5, false)⟩,
    ⟨some 8, .pick (.tmp 5) (.const (.bool true)) (.tmp 7), 4, none⟩,
    ⟨some 9, .move (.tmp 8), 4, none⟩,
    ⟨some 10, .move (.tmp 0), 3, some (9, false)⟩,
    ⟨some 11, .binOp .eql 3 (.tmp 10) (.const (.int .i64 3)) 3, 4, some (9, false)⟩,
    ⟨some 12, .pick (.tmp 9) (.const (.bool true)) (.tmp 11), 4, none⟩,
    ⟨some 2, .assign (.tmp 12), 4, none⟩]
@[go_sem] def c79 : Cmd := (.seq c79_0 (.seq c79_1 .ret))
theorem b79 : Tryd.f79.body.map (comp 13) = some c79 := by kernel_rfl
theorem r79 : Tryd.f79.results.toList = [.tmp 2] := by kernel_rfl
-- 80 pith/frame.headOf
@[go_sem] def c80_0 : Cmd := .ops [⟨some 4, .alloc 139, 0, none⟩]
@[go_sem] def c80_1 : Cmd := .ops [⟨some 7, .move (.tmp 0), 3, none⟩,
    ⟨some 8, .convert 3 5 (.tmp 7), 5, none⟩,
    ⟨some 9, .move (.tmp 1), 3, none⟩,
    ⟨some 10, .binOp .shr 3 (.tmp 9) (.const (.int .u64 8)) 47, 3, none⟩,
    ⟨some 11, .convert 3 5 (.tmp 10), 5, none⟩,
    ⟨some 12, .move (.tmp 1), 3, none⟩,
    ⟨some 13, .convert 3 5 (.tmp 12), 5, none⟩,
    ⟨some 14, .build 139 #[(0, (.const (.int .u8 112))), (1, (.tmp 8)), (2, (.tmp 11)), (3, (.tmp 13))], 139, none⟩,
    ⟨some 5, .alloc 139, 0, none⟩,
    ⟨none, .store 139 (.tmp 5) (.tmp 14), 0, none⟩]
@[go_sem] def c80_2 : Cmd := .ops [⟨some 15, .slice 139 (.tmp 5) none (some (.const (.int .i64 4))) none, 42, none⟩,
    ⟨some 16, .call { callee := (.value (.func 81)), args := #[(.tmp 15)], argTypes := #[42] }, 141, none⟩,
    ⟨some 6, .alloc 141, 0, none⟩,
    ⟨none, .store 141 (.tmp 6) (.tmp 16), 0, none⟩]
@[go_sem] def c80_3 : Cmd := .still 2 [⟨some 17, .slice 139 (.tmp 5) (some (.const (.int .i64 4))) none none, 42, none⟩,
    ⟨some 18, .slice 141 (.tmp 6) none none none, 42, none⟩,
    ⟨some 19, .call { callee := (.builtin .copy), args := #[(.tmp 17), (.tmp 18)], argTypes := #[42, 42] }, 3, none⟩]
@[go_sem] def c80_4 : Cmd := .ops [⟨some 20, .load 139 (.tmp 5), 139, none⟩,
    ⟨none, .store 139 (.tmp 4) (.tmp 20), 0, none⟩]
@[go_sem] def c80 : Cmd := (.seq c80_0 (.seq c80_1 (.seq c80_2 (.seq c80_3 (.seq c80_4 .ret)))))
theorem b80 : Tryd.f80.body.map (comp 21) = some c80 := by kernel_rfl
theorem r80 : Tryd.f80.results.toList = [.cell 4 139] := by kernel_rfl
-- 81 pith/frame.sum
@[go_sem] def c81_0 : Cmd := .ops [⟨some 2, .alloc 141, 0, none⟩]
@[go_sem] def c81_1 : Cmd := .ops [⟨some 4, .move (.tmp 0), 42, none⟩,
    ⟨some 5, .call { callee := (.value (.func 87)), args := #[(.tmp 4)], argTypes := #[42] }, 39, none⟩,
    ⟨some 3, .assign (.tmp 5), 39, none⟩]
@[go_sem] def c81_2 : Cmd := .ops [⟨some 6, .move (.tmp 3), 39, none⟩,
    ⟨some 7, .binOp .shr 39 (.tmp 6) (.const (.int .u64 24)) 47, 39, none⟩,
    ⟨some 8, .convert 39 5 (.tmp 7), 5, none⟩,
    ⟨some 9, .move (.tmp 3), 39, none⟩,
    ⟨some 10, .binOp .shr 39 (.tmp 9) (.const (.int .u64 16)) 47, 39, none⟩,
    ⟨some 11, .convert 39 5 (.tmp 10), 5, none⟩,
    ⟨some 12, .move (.tmp 3), 39, none⟩,
    ⟨some 13, .binOp .shr 39 (.tmp 12) (.const (.int .u64 8)) 47, 39, none⟩,
    ⟨some 14, .convert 39 5 (.tmp 13), 5, none⟩,
    ⟨some 15, .move (.tmp 3), 39, none⟩,
    ⟨some 16, .convert 39 5 (.tmp 15), 5, none⟩,
    ⟨some 17, .build 141 #[(0, (.tmp 8)), (1, (.tmp 11)), (2, (.tmp 14)), (3, (.tmp 16))], 141, none⟩,
    ⟨none, .store 141 (.tmp 2) (.tmp 17), 0, none⟩]
@[go_sem] def c81 : Cmd := (.seq c81_0 (.seq c81_1 (.seq c81_2 .ret)))
theorem b81 : Tryd.f81.body.map (comp 18) = some c81 := by kernel_rfl
theorem r81 : Tryd.f81.results.toList = [.cell 2 141] := by kernel_rfl
-- 87 pith/crc.Sum
@[go_sem] def c87_0 : Cmd := .ops [⟨some 2, .assign (.const (.int .u32 0)), 39, none⟩]
@[go_sem] def c87_1 : Cmd := .ops [⟨some 3, .move (.tmp 0), 42, none⟩,
    ⟨some 4, .call { callee := (.value (.func 77)), args := #[(.const (.int .u32 0)), (.tmp 3)], argTypes := #[39, 42] }, 39, none⟩,
    ⟨some 2, .assign (.tmp 4), 39, none⟩]
@[go_sem] def c87 : Cmd := (.seq c87_0 (.seq c87_1 .ret))
theorem b87 : Tryd.f87.body.map (comp 5) = some c87 := by kernel_rfl
theorem r87 : Tryd.f87.results.toList = [.tmp 2] := by kernel_rfl
-- 118 gosem.cut.vars
@[go_sem] def c118_0 : Cmd := .ops [⟨some 0, .build 157 #[(0, (.const (.int .u8 0))), (1, (.const (.int .u8 1))), (2, (.const (.int .u8 28))), (3, (.const (.int .u8 2))), (4, (.const (.int .u8 29))), (5, (.const (.int .u8 14))), (6, (.const (.int .u8 24))), (7, (.const (.int .u8 3))), (8, (.const (.int .u8 30))), (9, (.const (.int .u8 22))), (10, (.const (.int .u8 20))), (11, (.const (.int .u8 15))), (12, (.const (.int .u8 25))), (13, (.const (.int .u8 17))), (14, (.const (.int .u8 4))), (15, (.const (.int .u8 8))), (16, (.const (.int .u8 31))), (17, (.const (.int .u8 27))), (18, (.const (.int .u8 13))), (19, (.const (.int .u8 23))), (20, (.const (.int .u8 21))), (21, (.const (.int .u8 19))), (22, (.const (.int .u8 16))), (23, (.const (.int .u8 7))), (24, (.const (.int .u8 26))), (25, (.const (.int .u8 12))), (26, (.const (.int .u8 18))), (27, (.const (.int .u8 6))), (28, (.const (.int .u8 11))), (29, (.const (.int .u8 5))), (30, (.const (.int .u8 10))), (31, (.const (.int .u8 9)))], 157, none⟩,
    ⟨none, .store 157 (.global 2) (.tmp 0), 0, none⟩]
@[go_sem] def c118_1 : Cmd := .ops [⟨some 1, .build 158 #[(0, (.const (.int .u8 0))), (1, (.const (.int .u8 1))), (2, (.const (.int .u8 56))), (3, (.const (.int .u8 2))), (4, (.const (.int .u8 57))), (5, (.const (.int .u8 49))), (6, (.const (.int .u8 28))), (7, (.const (.int .u8 3))), (8, (.const (.int .u8 61))), (9, (.const (.int .u8 58))), (10, (.const (.int .u8 42))), (11, (.const (.int .u8 50))), (12, (.const (.int .u8 38))), (13, (.const (.int .u8 29))), (14, (.const (.int .u8 17))), (15, (.const (.int .u8 4))), (16, (.const (.int .u8 62))), (17, (.const (.int .u8 47))), (18, (.const (.int .u8 59))), (19, (.const (.int .u8 36))), (20, (.const (.int .u8 45))), (21, (.const (.int .u8 43))), (22, (.const (.int .u8 51))), (23, (.const (.int .u8 22))), (24, (.const (.int .u8 53))), (25, (.const (.int .u8 39))), (26, (.const (.int .u8 33))), (27, (.const (.int .u8 30))), (28, (.const (.int .u8 24))), (29, (.const (.int .u8 18))), (30, (.const (.int .u8 12))), (31, (.const (.int .u8 5))), (32, (.const (.int .u8 63))), (33, (.const (.int .u8 55))), (34, (.const (.int .u8 48))), (35, (.const (.int .u8 27))), (36, (.const (.int .u8 60))), (37, (.const (.int .u8 41))), (38, (.const (.int .u8 37))), (39, (.const (.int .u8 16))), (40, (.const (.int .u8 46))), (41, (.const (.int .u8 35))), (42, (.const (.int .u8 44))), (43, (.const (.int .u8 21))), (44, (.const (.int .u8 52))), (45, (.const (.int .u8 32))), (46, (.const (.int .u8 23))), (47, (.const (.int .u8 11))), (48, (.const (.int .u8 54))), (49, (.const (.int .u8 26))), (50, (.const (.int .u8 40))), (51, (.const (.int .u8 15))), (52, (.const (.int .u8 34))), (53, (.const (.int .u8 20))), (54, (.const (.int .u8 31))), (55, (.const (.int .u8 10))), (56, (.const (.int .u8 25))), (57, (.const (.int .u8 14))), (58, (.const (.int .u8 19))), (59, (.const (.int .u8 9))), (60, (.const (.int .u8 13))), (61, (.const (.int .u8 8))), (62, (.const (.int .u8 7))), (63, (.const (.int .u8 6)))], 158, none⟩,
    ⟨none, .store 158 (.global 3) (.tmp 1), 0, none⟩]
@[go_sem] def c118_2 : Cmd := .ops [⟨some 2, .build 153 #[(0, (.const (.int .u64 1))), (1, (.const (.int .u64 10))), (2, (.const (.int .u64 100))), (3, (.const (.int .u64 1000))), (4, (.const (.int .u64 10000))), (5, (.const (.int .u64 100000))), (6, (.const (.int .u64 1000000))), (7, (.const (.int .u64 10000000))), (8, (.const (.int .u64 100000000))), (9, (.const (.int .u64 1000000000))), (10, (.const (.int .u64 10000000000))), (11, (.const (.int .u64 100000000000))), (12, (.const (.int .u64 1000000000000))), (13, (.const (.int .u64 10000000000000))), (14, (.const (.int .u64 100000000000000))), (15, (.const (.int .u64 1000000000000000))), (16, (.const (.int .u64 10000000000000000))), (17, (.const (.int .u64 100000000000000000))), (18, (.const (.int .u64 1000000000000000000))), (19, (.const (.int .u64 10000000000000000000)))], 153, none⟩,
    ⟨none, .store 153 (.global 1) (.tmp 2), 0, none⟩]
@[go_sem] def c118_3 : Cmd := .ops [⟨some 3, .build 149 #[(0, (.const (.int .u32 0))), (1, (.const (.int .u32 79764919))), (2, (.const (.int .u32 159529838))), (3, (.const (.int .u32 222504665))), (4, (.const (.int .u32 319059676))), (5, (.const (.int .u32 398814059))), (6, (.const (.int .u32 445009330))), (7, (.const (.int .u32 507990021))), (8, (.const (.int .u32 638119352))), (9, (.const (.int .u32 583659535))), (10, (.const (.int .u32 797628118))), (11, (.const (.int .u32 726387553))), (12, (.const (.int .u32 890018660))), (13, (.const (.int .u32 835552979))), (14, (.const (.int .u32 1015980042))), (15, (.const (.int .u32 944750013)))], 149, none⟩,
    ⟨none, .store 149 (.global 0) (.tmp 3), 0, none⟩]
@[go_sem] def c118 : Cmd := (.seq c118_0 (.seq c118_1 (.seq c118_2 c118_3)))
theorem b118 : Tryd.f118.body.map (comp 4) = some c118 := by kernel_rfl
theorem r118 : Tryd.f118.results.toList = [] := by kernel_rfl
@[go_sem] theorem ty2 : tyOf Tryd.prog 2 = some ⟨(.int .i64), 1, 8, (.int .i64 0)⟩ := by kernel_rfl
@[go_sem] theorem ty3 : tyOf Tryd.prog 3 = some ⟨(.int .i64), 1, 8, (.int .i64 0)⟩ := by kernel_rfl
@[go_sem] theorem ty4 : tyOf Tryd.prog 4 = some ⟨.bool, 1, 1, (.bool false)⟩ := by kernel_rfl
@[go_sem] theorem ty5 : tyOf Tryd.prog 5 = some ⟨(.int .u8), 1, 1, (.int .u8 0)⟩ := by kernel_rfl
@[go_sem] theorem ty9 : tyOf Tryd.prog 9 = some ⟨.str, 1, 16, (.string ⟨#[]⟩)⟩ := by kernel_rfl
@[go_sem] theorem ty20 : tyOf Tryd.prog 20 = some ⟨.iface, 1, 16, .nilIface⟩ := by kernel_rfl
@[go_sem] theorem ty22 : tyOf Tryd.prog 22 = some ⟨(.sl 3), 1, 24, (.slice none 0 0)⟩ := by kernel_rfl
@[go_sem] theorem ty23 : tyOf Tryd.prog 23 = some ⟨(.sl 4), 1, 24, (.slice none 0 0)⟩ := by kernel_rfl
@[go_sem] theorem ty25 : tyOf Tryd.prog 25 = some ⟨(.ptr 64), 1, 8, (.pointer none)⟩ := by kernel_rfl
@[go_sem] theorem ty28 : tyOf Tryd.prog 28 = some ⟨(.st [(0, 3), (1, 22), (2, 23)]), 3, 56, (.agg #[(.int .i64 0), (.slice none 0 0), (.slice none 0 0)])⟩ := by kernel_rfl
@[go_sem] theorem ty31 : tyOf Tryd.prog 31 = some ⟨(.int .i64), 1, 8, (.int .i64 0)⟩ := by kernel_rfl
@[go_sem] theorem ty39 : tyOf Tryd.prog 39 = some ⟨(.int .u32), 1, 4, (.int .u32 0)⟩ := by kernel_rfl
@[go_sem] theorem ty42 : tyOf Tryd.prog 42 = some ⟨(.sl 5), 1, 24, (.slice none 0 0)⟩ := by kernel_rfl
@[go_sem] theorem ty47 : tyOf Tryd.prog 47 = some ⟨(.int .u64), 1, 8, (.int .u64 0)⟩ := by kernel_rfl
@[go_sem] theorem ty49 : tyOf Tryd.prog 49 = some ⟨(.sl 42), 1, 24, (.slice none 0 0)⟩ := by kernel_rfl
@[go_sem] theorem ty60 : tyOf Tryd.prog 60 = some ⟨(.map 9 69), 1, 8, (.map none)⟩ := by kernel_rfl
@[go_sem] theorem ty61 : tyOf Tryd.prog 61 = some ⟨(.map 69 4), 1, 8, (.map none)⟩ := by kernel_rfl
@[go_sem] theorem ty62 : tyOf Tryd.prog 62 = some ⟨(.sl 107), 1, 24, (.slice none 0 0)⟩ := by kernel_rfl
@[go_sem] theorem ty64 : tyOf Tryd.prog 64 = some ⟨(.st [(0, 3), (1, 60), (2, 60), (3, 62), (4, 61), (5, 4), (6, 3), (7, 3)]), 8, 80, (.agg #[(.int .i64 0), (.map none), (.map none), (.slice none 0 0), (.map none), (.bool false), (.int .i64 0), (.int .i64 0)])⟩ := by kernel_rfl
@[go_sem] theorem ty69 : tyOf Tryd.prog 69 = some ⟨(.ptr 73), 1, 8, (.pointer none)⟩ := by kernel_rfl
@[go_sem] theorem ty73 : tyOf Tryd.prog 73 = some ⟨(.st [(0, 42), (1, 3)]), 2, 32, (.agg #[(.slice none 0 0), (.int .i64 0)])⟩ := by kernel_rfl
@[go_sem] theorem ty78 : tyOf Tryd.prog 78 = some ⟨.fn, 1, 8, .nilFunc⟩ := by kernel_rfl
@[go_sem] theorem ty80 : tyOf Tryd.prog 80 = some ⟨(.ptr 109), 1, 8, (.pointer none)⟩ := by kernel_rfl
@[go_sem] theorem ty89 : tyOf Tryd.prog 89 = some ⟨(.arr 4 3), 4, 32, (.agg #[(.int .i64 0), (.int .i64 0), (.int .i64 0), (.int .i64 0)])⟩ := by kernel_rfl
@[go_sem] theorem ty98 : tyOf Tryd.prog 98 = some ⟨(.ptr 122), 1, 8, (.pointer none)⟩ := by kernel_rfl
@[go_sem] theorem ty101 : tyOf Tryd.prog 101 = some ⟨(.sl 78), 1, 24, (.slice none 0 0)⟩ := by kernel_rfl
@[go_sem] theorem ty106 : tyOf Tryd.prog 106 = some ⟨(.sl 9), 1, 24, (.slice none 0 0)⟩ := by kernel_rfl
@[go_sem] theorem ty107 : tyOf Tryd.prog 107 = some ⟨.fn, 1, 8, .nilFunc⟩ := by kernel_rfl
@[go_sem] theorem ty109 : tyOf Tryd.prog 109 = some ⟨(.st [(0, 25), (1, 9), (2, 3), (3, 3), (4, 4)]), 5, 48, (.agg #[(.pointer none), (.string ⟨#[]⟩), (.int .i64 0), (.int .i64 0), (.bool false)])⟩ := by kernel_rfl
@[go_sem] theorem ty111 : tyOf Tryd.prog 111 = some ⟨(.st [(0, 3), (1, 42)]), 2, 32, (.agg #[(.int .i64 0), (.slice none 0 0)])⟩ := by kernel_rfl
@[go_sem] theorem ty117 : tyOf Tryd.prog 117 = some ⟨(.ptr 130), 1, 8, (.pointer none)⟩ := by kernel_rfl
@[go_sem] theorem ty122 : tyOf Tryd.prog 122 = some ⟨(.st [(0, 25), (1, 9), (2, 3), (3, 39), (4, 3), (5, 4)]), 6, 56, (.agg #[(.pointer none), (.string ⟨#[]⟩), (.int .i64 0), (.int .u32 0), (.int .i64 0), (.bool false)])⟩ := by kernel_rfl
@[go_sem] theorem ty130 : tyOf Tryd.prog 130 = some ⟨(.st [(0, 42), (1, 3), (2, 31)]), 3, 40, (.agg #[(.slice none 0 0), (.int .i64 0), (.int .i64 0)])⟩ := by kernel_rfl
@[go_sem] theorem ty139 : tyOf Tryd.prog 139 = some ⟨(.arr 8 5), 8, 8, (.agg #[(.int .u8 0), (.int .u8 0), (.int .u8 0), (.int .u8 0), (.int .u8 0), (.int .u8 0), (.int .u8 0), (.int .u8 0)])⟩ := by kernel_rfl
@[go_sem] theorem ty141 : tyOf Tryd.prog 141 = some ⟨(.arr 4 5), 4, 4, (.agg #[(.int .u8 0), (.int .u8 0), (.int .u8 0), (.int .u8 0)])⟩ := by kernel_rfl
@[go_sem] theorem ty143 : tyOf Tryd.prog 143 = some ⟨(.arr 24 5), 24, 24, (.agg #[(.int .u8 0), (.int .u8 0), (.int .u8 0), (.int .u8 0), (.int .u8 0), (.int .u8 0), (.int .u8 0), (.int .u8 0), (.int .u8 0), (.int .u8 0), (.int .u8 0), (.int .u8 0), (.int .u8 0), (.int .u8 0), (.int .u8 0), (.int .u8 0), (.int .u8 0), (.int .u8 0), (.int .u8 0), (.int .u8 0), (.int .u8 0), (.int .u8 0), (.int .u8 0), (.int .u8 0)])⟩ := by kernel_rfl
@[go_sem] theorem ty144 : tyOf Tryd.prog 144 = some ⟨(.int .u64), 1, 8, (.int .u64 0)⟩ := by kernel_rfl
@[go_sem] theorem ty149 : tyOf Tryd.prog 149 = some ⟨(.arr 16 39), 16, 64, (.agg #[(.int .u32 0), (.int .u32 0), (.int .u32 0), (.int .u32 0), (.int .u32 0), (.int .u32 0), (.int .u32 0), (.int .u32 0), (.int .u32 0), (.int .u32 0), (.int .u32 0), (.int .u32 0), (.int .u32 0), (.int .u32 0), (.int .u32 0), (.int .u32 0)])⟩ := by kernel_rfl
@[go_sem] theorem ty153 : tyOf Tryd.prog 153 = some ⟨(.arr 20 144), 20, 160, (.agg #[(.int .u64 0), (.int .u64 0), (.int .u64 0), (.int .u64 0), (.int .u64 0), (.int .u64 0), (.int .u64 0), (.int .u64 0), (.int .u64 0), (.int .u64 0), (.int .u64 0), (.int .u64 0), (.int .u64 0), (.int .u64 0), (.int .u64 0), (.int .u64 0), (.int .u64 0), (.int .u64 0), (.int .u64 0), (.int .u64 0)])⟩ := by kernel_rfl
@[go_sem] theorem ty154 : tyOf Tryd.prog 154 = some ⟨(.arr 65 5), 65, 65, (.agg #[(.int .u8 0), (.int .u8 0), (.int .u8 0), (.int .u8 0), (.int .u8 0), (.int .u8 0), (.int .u8 0), (.int .u8 0), (.int .u8 0), (.int .u8 0), (.int .u8 0), (.int .u8 0), (.int .u8 0), (.int .u8 0), (.int .u8 0), (.int .u8 0), (.int .u8 0), (.int .u8 0), (.int .u8 0), (.int .u8 0), (.int .u8 0), (.int .u8 0), (.int .u8 0), (.int .u8 0), (.int .u8 0), (.int .u8 0), (.int .u8 0), (.int .u8 0), (.int .u8 0), (.int .u8 0), (.int .u8 0), (.int .u8 0), (.int .u8 0), (.int .u8 0), (.int .u8 0), (.int .u8 0), (.int .u8 0), (.int .u8 0), (.int .u8 0), (.int .u8 0), (.int .u8 0), (.int .u8 0), (.int .u8 0), (.int .u8 0), (.int .u8 0), (.int .u8 0), (.int .u8 0), (.int .u8 0), (.int .u8 0), (.int .u8 0), (.int .u8 0), (.int .u8 0), (.int .u8 0), (.int .u8 0), (.int .u8 0), (.int .u8 0), (.int .u8 0), (.int .u8 0), (.int .u8 0), (.int .u8 0), (.int .u8 0), (.int .u8 0), (.int .u8 0), (.int .u8 0), (.int .u8 0)])⟩ := by kernel_rfl
@[go_sem] theorem ty157 : tyOf Tryd.prog 157 = some ⟨(.arr 32 5), 32, 32, (.agg #[(.int .u8 0), (.int .u8 0), (.int .u8 0), (.int .u8 0), (.int .u8 0), (.int .u8 0), (.int .u8 0), (.int .u8 0), (.int .u8 0), (.int .u8 0), (.int .u8 0), (.int .u8 0), (.int .u8 0), (.int .u8 0), (.int .u8 0), (.int .u8 0), (.int .u8 0), (.int .u8 0), (.int .u8 0), (.int .u8 0), (.int .u8 0), (.int .u8 0), (.int .u8 0), (.int .u8 0), (.int .u8 0), (.int .u8 0), (.int .u8 0), (.int .u8 0), (.int .u8 0), (.int .u8 0), (.int .u8 0), (.int .u8 0)])⟩ := by kernel_rfl
@[go_sem] theorem ty158 : tyOf Tryd.prog 158 = some ⟨(.arr 64 5), 64, 64, (.agg #[(.int .u8 0), (.int .u8 0), (.int .u8 0), (.int .u8 0), (.int .u8 0), (.int .u8 0), (.int .u8 0), (.int .u8 0), (.int .u8 0), (.int .u8 0), (.int .u8 0), (.int .u8 0), (.int .u8 0), (.int .u8 0), (.int .u8 0), (.int .u8 0), (.int .u8 0), (.int .u8 0), (.int .u8 0), (.int .u8 0), (.int .u8 0), (.int .u8 0), (.int .u8 0), (.int .u8 0), (.int .u8 0), (.int .u8 0), (.int .u8 0), (.int .u8 0), (.int .u8 0), (.int .u8 0), (.int .u8 0), (.int .u8 0), (.int .u8 0), (.int .u8 0), (.int .u8 0), (.int .u8 0), (.int .u8 0), (.int .u8 0), (.int .u8 0), (.int .u8 0), (.int .u8 0), (.int .u8 0), (.int .u8 0), (.int .u8 0), (.int .u8 0), (.int .u8 0), (.int .u8 0), (.int .u8 0), (.int .u8 0), (.int .u8 0), (.int .u8 0), (.int .u8 0), (.int .u8 0), (.int .u8 0), (.int .u8 0), (.int .u8 0), (.int .u8 0), (.int .u8 0), (.int .u8 0), (.int .u8 0), (.int .u8 0), (.int .u8 0), (.int .u8 0), (.int .u8 0)])⟩ := by kernel_rfl
@[go_sem] theorem okc5 : (okCall Tryd.prog 5 = true) = True := eq_true (by kernel_rfl)
@[go_sem] theorem okc6 : (okCall Tryd.prog 6 = true) = True := eq_true (by kernel_rfl)
@[go_sem] theorem okc7 : (okCall Tryd.prog 7 = true) = True := eq_true (by kernel_rfl)
@[go_sem] theorem okc8 : (okCall Tryd.prog 8 = true) = True := eq_true (by kernel_rfl)
@[go_sem] theorem okc9 : (okCall Tryd.prog 9 = true) = True := eq_true (by kernel_rfl)
@[go_sem] theorem okc10 : (okCall Tryd.prog 10 = true) = True := eq_true (by kernel_rfl)
@[go_sem] theorem okc11 : (okCall Tryd.prog 11 = true) = True := eq_true (by kernel_rfl)
@[go_sem] theorem okc12 : (okCall Tryd.prog 12 = true) = True := eq_true (by kernel_rfl)
@[go_sem] theorem okc13 : (okCall Tryd.prog 13 = true) = True := eq_true (by kernel_rfl)
@[go_sem] theorem okc14 : (okCall Tryd.prog 14 = true) = True := eq_true (by kernel_rfl)
@[go_sem] theorem okc15 : (okCall Tryd.prog 15 = true) = True := eq_true (by kernel_rfl)
@[go_sem] theorem okc16 : (okCall Tryd.prog 16 = true) = True := eq_true (by kernel_rfl)
@[go_sem] theorem okc17 : (okCall Tryd.prog 17 = true) = True := eq_true (by kernel_rfl)
@[go_sem] theorem okc18 : (okCall Tryd.prog 18 = true) = True := eq_true (by kernel_rfl)
@[go_sem] theorem okc19 : (okCall Tryd.prog 19 = true) = True := eq_true (by kernel_rfl)
@[go_sem] theorem okc20 : (okCall Tryd.prog 20 = true) = True := eq_true (by kernel_rfl)
@[go_sem] theorem okc21 : (okCall Tryd.prog 21 = true) = True := eq_true (by kernel_rfl)
@[go_sem] theorem okc22 : (okCall Tryd.prog 22 = true) = True := eq_true (by kernel_rfl)
@[go_sem] theorem okc23 : (okCall Tryd.prog 23 = true) = True := eq_true (by kernel_rfl)
@[go_sem] theorem okc24 : (okCall Tryd.prog 24 = true) = True := eq_true (by kernel_rfl)
@[go_sem] theorem okc25 : (okCall Tryd.prog 25 = true) = True := eq_true (by kernel_rfl)
@[go_sem] theorem okc26 : (okCall Tryd.prog 26 = true) = True := eq_true (by kernel_rfl)
@[go_sem] theorem okc27 : (okCall Tryd.prog 27 = true) = True := eq_true (by kernel_rfl)
@[go_sem] theorem okc28 : (okCall Tryd.prog 28 = true) = True := eq_true (by kernel_rfl)
@[go_sem] theorem okc29 : (okCall Tryd.prog 29 = true) = True := eq_true (by kernel_rfl)
@[go_sem] theorem okc30 : (okCall Tryd.prog 30 = true) = True := eq_true (by kernel_rfl)
@[go_sem] theorem okc31 : (okCall Tryd.prog 31 = true) = True := eq_true (by kernel_rfl)
@[go_sem] theorem okc32 : (okCall Tryd.prog 32 = true) = True := eq_true (by kernel_rfl)
@[go_sem] theorem okc33 : (okCall Tryd.prog 33 = true) = True := eq_true (by kernel_rfl)
@[go_sem] theorem okc34 : (okCall Tryd.prog 34 = true) = True := eq_true (by kernel_rfl)
@[go_sem] theorem okc35 : (okCall Tryd.prog 35 = true) = True := eq_true (by kernel_rfl)
@[go_sem] theorem okc36 : (okCall Tryd.prog 36 = true) = True := eq_true (by kernel_rfl)
@[go_sem] theorem okc37 : (okCall Tryd.prog 37 = true) = True := eq_true (by kernel_rfl)
@[go_sem] theorem okc38 : (okCall Tryd.prog 38 = true) = True := eq_true (by kernel_rfl)
@[go_sem] theorem okc39 : (okCall Tryd.prog 39 = true) = True := eq_true (by kernel_rfl)
@[go_sem] theorem okc40 : (okCall Tryd.prog 40 = true) = True := eq_true (by kernel_rfl)
@[go_sem] theorem okc41 : (okCall Tryd.prog 41 = true) = True := eq_true (by kernel_rfl)
@[go_sem] theorem okc42 : (okCall Tryd.prog 42 = true) = True := eq_true (by kernel_rfl)
@[go_sem] theorem okc43 : (okCall Tryd.prog 43 = true) = True := eq_true (by kernel_rfl)
@[go_sem] theorem okc44 : (okCall Tryd.prog 44 = true) = True := eq_true (by kernel_rfl)
@[go_sem] theorem okc45 : (okCall Tryd.prog 45 = true) = True := eq_true (by kernel_rfl)
@[go_sem] theorem okc46 : (okCall Tryd.prog 46 = true) = True := eq_true (by kernel_rfl)
@[go_sem] theorem okc47 : (okCall Tryd.prog 47 = true) = True := eq_true (by kernel_rfl)
@[go_sem] theorem okc48 : (okCall Tryd.prog 48 = true) = True := eq_true (by kernel_rfl)
@[go_sem] theorem okc49 : (okCall Tryd.prog 49 = true) = True := eq_true (by kernel_rfl)
@[go_sem] theorem okc50 : (okCall Tryd.prog 50 = true) = True := eq_true (by kernel_rfl)
@[go_sem] theorem okc51 : (okCall Tryd.prog 51 = true) = True := eq_true (by kernel_rfl)
@[go_sem] theorem okc52 : (okCall Tryd.prog 52 = true) = True := eq_true (by kernel_rfl)
@[go_sem] theorem okc53 : (okCall Tryd.prog 53 = true) = True := eq_true (by kernel_rfl)
@[go_sem] theorem okc54 : (okCall Tryd.prog 54 = true) = True := eq_true (by kernel_rfl)
@[go_sem] theorem okc55 : (okCall Tryd.prog 55 = true) = True := eq_true (by kernel_rfl)
@[go_sem] theorem okc56 : (okCall Tryd.prog 56 = true) = True := eq_true (by kernel_rfl)
@[go_sem] theorem okc57 : (okCall Tryd.prog 57 = true) = True := eq_true (by kernel_rfl)
@[go_sem] theorem okc58 : (okCall Tryd.prog 58 = true) = True := eq_true (by kernel_rfl)
@[go_sem] theorem okc59 : (okCall Tryd.prog 59 = true) = True := eq_true (by kernel_rfl)
@[go_sem] theorem okc60 : (okCall Tryd.prog 60 = true) = True := eq_true (by kernel_rfl)
@[go_sem] theorem okc61 : (okCall Tryd.prog 61 = true) = True := eq_true (by kernel_rfl)
@[go_sem] theorem okc62 : (okCall Tryd.prog 62 = true) = True := eq_true (by kernel_rfl)
@[go_sem] theorem okc63 : (okCall Tryd.prog 63 = true) = True := eq_true (by kernel_rfl)
@[go_sem] theorem okc64 : (okCall Tryd.prog 64 = true) = True := eq_true (by kernel_rfl)
@[go_sem] theorem okc65 : (okCall Tryd.prog 65 = true) = True := eq_true (by kernel_rfl)
@[go_sem] theorem okc66 : (okCall Tryd.prog 66 = true) = True := eq_true (by kernel_rfl)
@[go_sem] theorem okc67 : (okCall Tryd.prog 67 = true) = True := eq_true (by kernel_rfl)
@[go_sem] theorem okc68 : (okCall Tryd.prog 68 = true) = True := eq_true (by kernel_rfl)
@[go_sem] theorem okc69 : (okCall Tryd.prog 69 = true) = True := eq_true (by kernel_rfl)
@[go_sem] theorem okc70 : (okCall Tryd.prog 70 = true) = True := eq_true (by kernel_rfl)
@[go_sem] theorem okc71 : (okCall Tryd.prog 71 = true) = True := eq_true (by kernel_rfl)
@[go_sem] theorem okc72 : (okCall Tryd.prog 72 = true) = True := eq_true (by kernel_rfl)
@[go_sem] theorem okc73 : (okCall Tryd.prog 73 = true) = True := eq_true (by kernel_rfl)
@[go_sem] theorem okc74 : (okCall Tryd.prog 74 = true) = True := eq_true (by kernel_rfl)
@[go_sem] theorem okc75 : (okCall Tryd.prog 75 = true) = True := eq_true (by kernel_rfl)
@[go_sem] theorem okc76 : (okCall Tryd.prog 76 = true) = True := eq_true (by kernel_rfl)
@[go_sem] theorem okc77 : (okCall Tryd.prog 77 = true) = True := eq_true (by kernel_rfl)
@[go_sem] theorem okc78 : (okCall Tryd.prog 78 = true) = True := eq_true (by kernel_rfl)
@[go_sem] theorem okc79 : (okCall Tryd.prog 79 = true) = True := eq_true (by kernel_rfl)
@[go_sem] theorem okc80 : (okCall Tryd.prog 80 = true) = True := eq_true (by kernel_rfl)
@[go_sem] theorem okc81 : (okCall Tryd.prog 81 = true) = True := eq_true (by kernel_rfl)
@[go_sem] theorem okc82 : (okCall Tryd.prog 82 = true) = True := eq_true (by kernel_rfl)
@[go_sem] theorem okc83 : (okCall Tryd.prog 83 = true) = True := eq_true (by kernel_rfl)
@[go_sem] theorem okc84 : (okCall Tryd.prog 84 = true) = True := eq_true (by kernel_rfl)
@[go_sem] theorem okc85 : (okCall Tryd.prog 85 = true) = True := eq_true (by kernel_rfl)
@[go_sem] theorem okc87 : (okCall Tryd.prog 87 = true) = True := eq_true (by kernel_rfl)
@[go_sem] theorem okc88 : (okCall Tryd.prog 88 = true) = True := eq_true (by kernel_rfl)
@[go_sem] theorem okc89 : (okCall Tryd.prog 89 = true) = True := eq_true (by kernel_rfl)
@[go_sem] theorem okc90 : (okCall Tryd.prog 90 = true) = True := eq_true (by kernel_rfl)
@[go_sem] theorem okc91 : (okCall Tryd.prog 91 = true) = True := eq_true (by kernel_rfl)
@[go_sem] theorem okc92 : (okCall Tryd.prog 92 = true) = True := eq_true (by kernel_rfl)
@[go_sem] theorem okc93 : (okCall Tryd.prog 93 = true) = True := eq_true (by kernel_rfl)
@[go_sem] theorem okc94 : (okCall Tryd.prog 94 = true) = True := eq_true (by kernel_rfl)
end Go.Proofs.YtgigigchjnnonaaDoor
