/- The functions' code as commands; printed by wip/Gen.lean off the translation. -/
import Derived.Test.YtbdclcdoiabapaaDoorProg
import Derived.Test.YtbdclcdoiabapaaDoorVBase
import Derived.KernelRfl
set_option maxRecDepth 100000
set_option linter.unusedSimpArgs false
namespace Go.Proofs.YtbdclcdoiabapaaDoor
open Go Go.V
theorem mixed : Tryd.prog.follows .mixedOrders = true := by kernel_rfl
-- 3 pith/pithlaw18.CkptNames
@[go_sem] def c3_0 : Cmd := .ops [⟨some 2, .assign (.const (.bool false)), 4, none⟩]
@[go_sem] def c3_1 : Cmd := .ops [⟨some 5, .call { callee := (.value (.func 7)), args := #[], argTypes := #[] }, 4, none⟩,
    ⟨some 3, .assign (.tmp 5), 4, none⟩]
@[go_sem] def c3_2 : Cmd := .ops [⟨some 6, .move (.tmp 0), 3, none⟩,
    ⟨some 7, .binOp .lss 3 (.tmp 6) (.const (.int .i64 0)) 3, 4, none⟩]
@[go_sem] def c3_3 : Cmd := .ops [⟨some 8, .move (.tmp 3), 4, none⟩,
    ⟨some 2, .assign (.tmp 8), 4, none⟩]
@[go_sem] def c3_4 : Cmd := .cond (.tmp 7) (.seq c3_3 .ret) .skip
@[go_sem] def c3_5 : Cmd := .ops [⟨some 9, .move (.tmp 0), 3, none⟩,
    ⟨some 10, .call { callee := (.value (.func 8)), args := #[(.tmp 9)], argTypes := #[3] }, 9, none⟩,
    ⟨some 4, .assign (.tmp 10), 9, none⟩]
@[go_sem] def c3_6 : Cmd := .ops [⟨some 11, .move (.tmp 3), 4, none⟩,
    ⟨some 12, .move (.tmp 11), 4, none⟩,
    ⟨some 13, .move (.tmp 4), 9, some (12, true)⟩,
    ⟨some 14, .move (.tmp 0), 3, some (12, true)⟩,
    ⟨some 15, .call { callee := (.value (.func 9)), args := #[(.tmp 14)], argTypes := #[3] }, 9, some (12, true)⟩,
    ⟨some 16, .binOp .eql 9 (.tmp 13) (.tmp 15) 9, 4, some (12, true)⟩,
    ⟨some 17, .pick (.tmp 12) (.tmp 16) (.const (.bool false)), 4, none⟩,
    ⟨some 2, .assign (.tmp 17), 4, none⟩]
@[go_sem] def c3 : Cmd := (.seq c3_0 (.seq c3_1 (.seq (.seq c3_2 c3_4) (.seq c3_5 (.seq c3_6 .ret)))))
theorem b3 : Tryd.f3.body.map (comp 18) = some c3 := by kernel_rfl
theorem r3 : Tryd.f3.results.toList = [.tmp 2] := by kernel_rfl
-- 4 pith/pithlaw18.CkptEncodes
@[go_sem] def c4_0 : Cmd := .ops [⟨some 3, .box 28 (.tmp 1), 0, none⟩,
    ⟨some 4, .assign (.const (.bool false)), 4, none⟩]
@[go_sem] def c4_1 : Cmd := .ops [⟨some 14, .call { callee := (.value (.func 7)), args := #[], argTypes := #[] }, 4, none⟩,
    ⟨some 5, .assign (.tmp 14), 4, none⟩]
@[go_sem] def c4_2 : Cmd := .ops [⟨some 15, .load 28 (.tmp 3), 28, none⟩,
    ⟨some 16, .call { callee := (.value (.func 10)), args := #[(.tmp 15)], argTypes := #[28] }, 4, none⟩,
    ⟨some 17, .unOp .not 4 (.tmp 16), 4, none⟩]
@[go_sem] def c4_3 : Cmd := .ops [⟨some 18, .move (.tmp 5), 4, none⟩,
    ⟨some 4, .assign (.tmp 18), 4, none⟩]
@[go_sem] def c4_4 : Cmd := .cond (.tmp 17) (.seq c4_3 .ret) .skip
@[go_sem] def c4_5 : Cmd := .ops [⟨some 20, .move (.tmp 0), 3, none⟩,
    ⟨some 21, .load 28 (.tmp 3), 28, none⟩,
    ⟨some 22, .call { callee := (.value (.func 12)), args := #[(.tmp 21)], argTypes := #[28] }, 28, none⟩,
    ⟨some 23, .call { callee := (.value (.func 11)), args := #[(.tmp 20), (.tmp 22)], argTypes := #[3, 28] }, 33, none⟩,
    ⟨some 19, .move (.tmp 23), 33, none⟩,
    ⟨some 24, .extract (.tmp 19) 0, 30, none⟩,
    ⟨some 25, .extract (.tmp 19) 1, 31, none⟩,
    ⟨some 26, .extract (.tmp 19) 2, 32, none⟩,
    ⟨some 6, .assign (.tmp 24), 30, none⟩,
    ⟨some 7, .assign (.tmp 25), 31, none⟩,
    ⟨some 8, .assign (.tmp 26), 32, none⟩]
@[go_sem] def c4_6 : Cmd := .ops [⟨some 28, .move (.tmp 0), 3, none⟩,
    ⟨some 29, .load 28 (.tmp 3), 28, none⟩,
    ⟨some 30, .call { callee := (.value (.func 13)), args := #[(.tmp 28), (.tmp 29)], argTypes := #[3, 28] }, 36, none⟩,
    ⟨some 27, .move (.tmp 30), 36, none⟩,
    ⟨some 31, .extract (.tmp 27) 0, 30, none⟩,
    ⟨some 32, .extract (.tmp 27) 1, 31, none⟩,
    ⟨some 33, .extract (.tmp 27) 2, 3, none⟩,
    ⟨some 9, .assign (.tmp 31), 30, none⟩,
    ⟨some 10, .assign (.tmp 32), 31, none⟩,
    ⟨some 11, .assign (.tmp 33), 3, none⟩]
@[go_sem] def c4_7 : Cmd := .ops [⟨some 34, .move (.tmp 6), 30, none⟩,
    ⟨some 35, .move (.tmp 9), 30, none⟩,
    ⟨some 36, .call { callee := (.value (.func 14)), args := #[(.tmp 34), (.tmp 35)], argTypes := #[30, 30] }, 4, none⟩,
    ⟨some 12, .assign (.tmp 36), 4, none⟩]
@[go_sem] def c4_8 : Cmd := .ops [⟨some 37, .move (.tmp 7), 31, none⟩,
    ⟨some 38, .move (.tmp 10), 31, none⟩,
    ⟨some 39, .call { callee := (.value (.func 15)), args := #[(.tmp 37), (.tmp 38)], argTypes := #[31, 31] }, 4, none⟩,
    ⟨some 13, .assign (.tmp 39), 4, none⟩]
@[go_sem] def c4_9 : Cmd := .ops [⟨some 40, .move (.tmp 5), 4, none⟩,
    ⟨some 41, .move (.tmp 40), 4, none⟩,
    ⟨some 42, .move (.tmp 12), 4, some (41, true)⟩,
    ⟨some 43, .pick (.tmp 41) (.tmp 42) (.const (.bool false)), 4, none⟩,
    ⟨some 44, .move (.tmp 43), 4, none⟩,
    ⟨some 45, .move (.tmp 13), 4, some (44, true)⟩,
    ⟨some 46, .pick (.tmp 44) (.tmp 45) (.const (.bool false)), 4, none⟩,
    ⟨some 47, .move (.tmp 46), 4, none⟩,
    ⟨some 48, .move (.tmp 8), 32, some (47, true)⟩,
    ⟨some 49, .call { callee := (.value (.func 16)), args := #[(.tmp 48)], argTypes := #[32] }, 3, some (47, true)⟩,
    ⟨some 50, .move (.tmp 11), 3, some (47, true)⟩,
    ⟨some 51, .binOp .eql 3 (.tmp 49) (.tmp 50) 3, 4, some (47, true)⟩,
    ⟨some 52, .pick (.tmp 47) (.tmp 51) (.const (.bool false)), 4, none⟩,
    ⟨some 4, .assign (.tmp 52), 4, none⟩]
@[go_sem] def c4 : Cmd := (.seq c4_0 (.seq c4_1 (.seq (.seq c4_2 c4_4) (.seq c4_5 (.seq c4_6 (.seq c4_7 (.seq c4_8 (.seq c4_9 .ret))))))))
theorem b4 : Tryd.f4.body.map (comp 53) = some c4 := by kernel_rfl
theorem r4 : Tryd.f4.results.toList = [.tmp 4] := by kernel_rfl
-- 5 pith/pithlaw18.CkptDecodes
@[go_sem] def c5_0 : Cmd := .ops [⟨some 6, .assign (.const (.bool false)), 4, none⟩]
@[go_sem] def c5_1 : Cmd := .ops [⟨some 20, .call { callee := (.value (.func 7)), args := #[], argTypes := #[] }, 4, none⟩,
    ⟨some 7, .assign (.tmp 20), 4, none⟩]
@[go_sem] def c5_2 : Cmd := .ops [⟨some 21, .move (.tmp 2), 31, none⟩,
    ⟨some 22, .call { callee := (.value (.func 17)), args := #[(.tmp 21)], argTypes := #[31] }, 4, none⟩,
    ⟨some 23, .unOp .not 4 (.tmp 22), 4, none⟩,
    ⟨some 24, .move (.tmp 23), 4, none⟩,
    ⟨some 25, .move (.tmp 1), 30, some (24, false)⟩,
    ⟨some 26, .call { callee := (.builtin .len), args := #[(.tmp 25)], argTypes := #[30] }, 3, some (24, false)⟩,
    ⟨some 27, .binOp .gtr 3 (.tmp 26) (.const (.int .i64 5000)) 3, 4, some (24, false)⟩,
    ⟨some 28, .pick (.tmp 24) (.const (.bool true)) (.tmp 27), 4, none⟩]
@[go_sem] def c5_3 : Cmd := .ops [⟨some 29, .move (.tmp 7), 4, none⟩,
    ⟨some 6, .assign (.tmp 29), 4, none⟩]
@[go_sem] def c5_4 : Cmd := .cond (.tmp 28) (.seq c5_3 .ret) .skip
@[go_sem] def c5_5 : Cmd := .ops [⟨some 30, .move (.tmp 1), 30, none⟩,
    ⟨some 31, .call { callee := (.value (.func 18)), args := #[(.tmp 30)], argTypes := #[30] }, 30, none⟩,
    ⟨some 32, .buildSlice 30 2 #[(0, (.const (.int .u8 47))), (1, (.const (.int .u8 11)))], 30, none⟩,
    ⟨some 33, .call { callee := (.builtin .append), args := #[(.tmp 31), (.tmp 32)], argTypes := #[30, 30] }, 30, none⟩,
    ⟨some 8, .assign (.tmp 33), 30, none⟩]
@[go_sem] def c5_6 : Cmd := .ops [⟨some 34, .move (.tmp 2), 31, none⟩,
    ⟨some 35, .call { callee := (.value (.func 19)), args := #[(.tmp 34)], argTypes := #[31] }, 31, none⟩,
    ⟨some 9, .assign (.tmp 35), 31, none⟩]
@[go_sem] def c5_7 : Cmd := .ops [⟨some 36, .move (.tmp 9), 31, none⟩,
    ⟨some 37, .call { callee := (.builtin .len), args := #[(.tmp 36)], argTypes := #[31] }, 3, none⟩,
    ⟨some 38, .binOp .add 3 (.tmp 37) (.const (.int .i64 2)) 3, 3, none⟩,
    ⟨some 39, .makeSlice 31 (.const (.int .i64 0)) (.tmp 38), 31, none⟩,
    ⟨some 10, .assign (.tmp 39), 31, none⟩]
@[go_sem] def c5_8 : Cmd := .ops [⟨some 11, .assign (.const (.int .i64 0)), 3, none⟩]
@[go_sem] def c5_9 : Cmd := .ops [⟨some 40, .move (.tmp 11), 3, none⟩,
    ⟨some 41, .move (.tmp 9), 31, none⟩,
    ⟨some 42, .call { callee := (.builtin .len), args := #[(.tmp 41)], argTypes := #[31] }, 3, none⟩,
    ⟨some 43, .binOp .lss 3 (.tmp 40) (.tmp 42) 3, 4, none⟩]
@[go_sem] def c5_10 : Cmd := .cond (.tmp 43) .skip (.exit 0)
@[go_sem] def c5_11 : Cmd := .ops [⟨some 46, .move (.tmp 9), 31, none⟩,
    ⟨some 47, .move (.tmp 11), 3, none⟩,
    ⟨some 48, .move (.tmp 9), 31, none⟩,
    ⟨some 49, .move (.tmp 11), 3, none⟩,
    ⟨some 50, .indexAddr 31 (.tmp 48) (.tmp 49), 0, none⟩,
    ⟨some 51, .load 30 (.tmp 50), 30, none⟩,
    ⟨some 52, .buildSlice 30 2 #[(0, (.const (.int .u8 47))), (1, (.const (.int .u8 11)))], 30, none⟩,
    ⟨some 53, .call { callee := (.builtin .append), args := #[(.tmp 51), (.tmp 52)], argTypes := #[30, 30] }, 30, none⟩,
    ⟨some 54, .indexAddr 31 (.tmp 46) (.tmp 47), 0, none⟩,
    ⟨none, .store 30 (.tmp 54) (.tmp 53), 0, none⟩]
@[go_sem] def c5_12 : Cmd := .draw (.step 3 ⟨some 55, .move (.tmp 10), 31, none⟩
    (.step 3 ⟨some 56, .move (.tmp 9), 31, none⟩
    (.step 3 ⟨some 57, .move (.tmp 11), 3, none⟩
    (.step 3 ⟨some 58, .indexAddr 31 (.tmp 56) (.tmp 57), 0, none⟩
    (.step 0 ⟨some 59, .load 30 (.tmp 58), 30, none⟩
    (.step 3 ⟨some 60, .move (.tmp 2), 31, none⟩
    (.step 3 ⟨some 61, .move (.tmp 11), 3, none⟩
    (.step 3 ⟨some 62, .indexAddr 31 (.tmp 60) (.tmp 61), 0, none⟩
    (.step 0 ⟨some 63, .load 30 (.tmp 62), 30, none⟩
    (.step 3 ⟨some 64, .call { callee := (.builtin .len), args := #[(.tmp 63)], argTypes := #[30] }, 3, none⟩
    (.step 3 ⟨some 65, .slice 30 (.tmp 59) none (some (.tmp 64)) none, 30, none⟩
    (.step 1 ⟨some 66, .buildSlice 31 1 #[(0, (.tmp 65))], 31, none⟩
    (.step 2 ⟨some 67, .call { callee := (.builtin .append), args := #[(.tmp 55), (.tmp 66)], argTypes := #[31, 31] }, 31, none⟩
    (.step 3 ⟨some 10, .assign (.tmp 67), 31, none⟩
    .done))))))))))))))
@[go_sem] def c5_13 : Cmd := .block 1 (.seq c5_11 c5_12)
@[go_sem] def c5_14 : Cmd := .ops [⟨some 44, .move (.tmp 11), 3, none⟩,
    ⟨some 45, .binOp .add 3 (.tmp 44) (.const (.int .i64 1)) 3, 3, none⟩,
    ⟨some 11, .assign (.tmp 45), 3, none⟩]
def c5_L0 : Cmd := (.seq (.seq c5_9 c5_10) (.seq c5_13 c5_14))
@[go_sem] def c5_15 : Cmd := .loop c5_L0
@[go_sem] def c5_16 : Cmd := .block 0 c5_15
@[go_sem] def c5_17 : Cmd := .ops [⟨some 68, .move (.tmp 10), 31, none⟩,
    ⟨some 69, .buildSlice 30 4 #[(0, (.const (.int .u8 109))), (1, (.const (.int .u8 97))), (2, (.const (.int .u8 114))), (3, (.const (.int .u8 107)))], 30, none⟩,
    ⟨some 70, .convert 30 30 (.tmp 69), 30, none⟩,
    ⟨some 71, .buildSlice 30 4 #[(0, (.const (.int .u8 109))), (1, (.const (.int .u8 111))), (2, (.const (.int .u8 114))), (3, (.const (.int .u8 101)))], 30, none⟩,
    ⟨some 72, .convert 30 30 (.tmp 71), 30, none⟩,
    ⟨some 73, .buildSlice 31 2 #[(0, (.tmp 70)), (1, (.tmp 72))], 31, none⟩,
    ⟨some 74, .call { callee := (.builtin .append), args := #[(.tmp 68), (.tmp 73)], argTypes := #[31, 31] }, 31, none⟩,
    ⟨some 10, .assign (.tmp 74), 31, none⟩]
@[go_sem] def c5_18 : Cmd := .draw (.step 3 ⟨some 76, .move (.tmp 0), 3, none⟩
    (.step 3 ⟨some 77, .move (.tmp 8), 30, none⟩
    (.step 3 ⟨some 78, .move (.tmp 1), 30, none⟩
    (.step 3 ⟨some 79, .call { callee := (.builtin .len), args := #[(.tmp 78)], argTypes := #[30] }, 3, none⟩
    (.step 3 ⟨some 80, .slice 30 (.tmp 77) none (some (.tmp 79)) none, 30, none⟩
    (.step 3 ⟨some 81, .move (.tmp 10), 31, none⟩
    (.step 3 ⟨some 82, .move (.tmp 2), 31, none⟩
    (.step 3 ⟨some 83, .call { callee := (.builtin .len), args := #[(.tmp 82)], argTypes := #[31] }, 3, none⟩
    (.step 3 ⟨some 84, .slice 31 (.tmp 81) none (some (.tmp 83)) none, 31, none⟩
    (.both ⟨some 85, .call { callee := (.value (.func 20)), args := #[(.tmp 76), (.tmp 80), (.tmp 84)], argTypes := #[3, 30, 31] }, 45, none⟩
    (.step 3 ⟨some 75, .move (.tmp 85), 45, none⟩
    (.step 3 ⟨some 86, .extract (.tmp 75) 0, 28, none⟩
    (.step 3 ⟨some 87, .extract (.tmp 75) 1, 32, none⟩
    (.step 1 ⟨some 12, .alloc 28, 0, none⟩
    (.step 2 ⟨none, .store 28 (.tmp 12) (.tmp 86), 0, none⟩
    (.step 3 ⟨some 13, .assign (.tmp 87), 32, none⟩
    .done))))))
    ⟨some 12, .alloc 28, 0, none⟩
    (.step 1 ⟨some 85, .call { callee := (.value (.func 20)), args := #[(.tmp 76), (.tmp 80), (.tmp 84)], argTypes := #[3, 30, 31] }, 45, none⟩
    (.step 3 ⟨some 75, .move (.tmp 85), 45, none⟩
    (.step 3 ⟨some 86, .extract (.tmp 75) 0, 28, none⟩
    (.step 3 ⟨some 87, .extract (.tmp 75) 1, 32, none⟩
    (.step 2 ⟨none, .store 28 (.tmp 12) (.tmp 86), 0, none⟩
    (.step 3 ⟨some 13, .assign (.tmp 87), 32, none⟩
    .done))))))))))))))))
@[go_sem] def c5_19 : Cmd := .ops [⟨some 89, .move (.tmp 0), 3, none⟩,
    ⟨some 90, .move (.tmp 1), 30, none⟩,
    ⟨some 91, .move (.tmp 2), 31, none⟩,
    ⟨some 92, .call { callee := (.value (.func 21)), args := #[(.tmp 89), (.tmp 90), (.tmp 91)], argTypes := #[3, 30, 31] }, 47, none⟩,
    ⟨some 88, .move (.tmp 92), 47, none⟩,
    ⟨some 93, .extract (.tmp 88) 0, 28, none⟩,
    ⟨some 94, .extract (.tmp 88) 1, 3, none⟩,
    ⟨some 14, .alloc 28, 0, none⟩,
    ⟨none, .store 28 (.tmp 14) (.tmp 93), 0, none⟩,
    ⟨some 15, .assign (.tmp 94), 3, none⟩]
@[go_sem] def c5_20 : Cmd := .ops [⟨some 95, .load 28 (.tmp 12), 28, none⟩,
    ⟨some 96, .load 28 (.tmp 14), 28, none⟩,
    ⟨some 97, .call { callee := (.value (.func 22)), args := #[(.tmp 95), (.tmp 96)], argTypes := #[28, 28] }, 4, none⟩,
    ⟨some 16, .assign (.tmp 97), 4, none⟩]
@[go_sem] def c5_21 : Cmd := .ops [⟨some 98, .move (.tmp 8), 30, none⟩,
    ⟨some 99, .move (.tmp 1), 30, none⟩,
    ⟨some 100, .call { callee := (.builtin .len), args := #[(.tmp 99)], argTypes := #[30] }, 3, none⟩,
    ⟨some 101, .indexAddr 30 (.tmp 98) (.tmp 100), 0, none⟩,
    ⟨some 102, .load 5 (.tmp 101), 5, none⟩,
    ⟨some 103, .binOp .eql 5 (.tmp 102) (.const (.int .u8 47)) 5, 4, none⟩,
    ⟨some 104, .move (.tmp 103), 4, none⟩,
    ⟨some 105, .move (.tmp 8), 30, some (104, true)⟩,
    ⟨some 106, .move (.tmp 1), 30, some (104, true)⟩,
    ⟨some 107, .call { callee := (.builtin .len), args := #[(.tmp 106)], argTypes := #[30] }, 3, some (104, true)⟩,
    ⟨some 108, .binOp .add 3 (.tmp 107) (.const (.int .i64 1)) 3, 3, some (104, true)⟩,
    ⟨some 109, .indexAddr 30 (.tmp 105) (.tmp 108), 0, some (104, true)⟩,
    ⟨some 110, .load 5 (.tmp 109), 5, some (104, true)⟩,
    ⟨some 111, .binOp .eql 5 (.tmp 110) (.const (.int .u8 11)) 5, 4, some (104, true)⟩,
    ⟨some 112, .pick (.tmp 104) (.tmp 111) (.const (.bool false)), 4, none⟩,
    ⟨some 113, .move (.tmp 112), 4, none⟩,
    ⟨some 114, .move (.tmp 10), 31, some (113, true)⟩,
    ⟨some 115, .move (.tmp 2), 31, some (113, true)⟩,
    ⟨some 116, .call { callee := (.builtin .len), args := #[(.tmp 115)], argTypes := #[31] }, 3, some (113, true)⟩,
    ⟨some 117, .indexAddr 31 (.tmp 114) (.tmp 116), 0, some (113, true)⟩,
    ⟨some 118, .load 30 (.tmp 117), 30, some (113, true)⟩,
    ⟨some 119, .convert 30 9 (.tmp 118), 9, some (113, true)⟩,
    ⟨some 120, .binOp .eql 9 (.tmp 119) (.const (.string ⟨#[109, 97, 114, 107]⟩)) 9, 4, some (113, true)⟩,
    ⟨some 121, .pick (.tmp 113) (.tmp 120) (.const (.bool false)), 4, none⟩,
    ⟨some 122, .move (.tmp 121), 4, none⟩,
    ⟨some 123, .move (.tmp 10), 31, some (122, true)⟩,
    ⟨some 124, .move (.tmp 2), 31, some (122, true)⟩,
    ⟨some 125, .call { callee := (.builtin .len), args := #[(.tmp 124)], argTypes := #[31] }, 3, some (122, true)⟩,
    ⟨some 126, .binOp .add 3 (.tmp 125) (.const (.int .i64 1)) 3, 3, some (122, true)⟩,
    ⟨some 127, .indexAddr 31 (.tmp 123) (.tmp 126), 0, some (122, true)⟩,
    ⟨some 128, .load 30 (.tmp 127), 30, some (122, true)⟩,
    ⟨some 129, .convert 30 9 (.tmp 128), 9, some (122, true)⟩,
    ⟨some 130, .binOp .eql 9 (.tmp 129) (.const (.string ⟨#[109, 111, 114, 101]⟩)) 9, 4, some (122, true)⟩,
    ⟨some 131, .pick (.tmp 122) (.tmp 130) (.const (.bool false)), 4, none⟩,
    ⟨some 17, .assign (.tmp 131), 4, none⟩]
@[go_sem] def c5_22 : Cmd := .ops [⟨some 18, .assign (.const (.int .i64 0)), 3, none⟩]
@[go_sem] def c5_23 : Cmd := .ops [⟨some 132, .move (.tmp 18), 3, none⟩,
    ⟨some 133, .move (.tmp 9), 31, none⟩,
    ⟨some 134, .call { callee := (.builtin .len), args := #[(.tmp 133)], argTypes := #[31] }, 3, none⟩,
    ⟨some 135, .binOp .lss 3 (.tmp 132) (.tmp 134) 3, 4, none⟩]
@[go_sem] def c5_24 : Cmd := .cond (.tmp 135) .skip (.exit 2)
@[go_sem] def c5_25 : Cmd := .ops [⟨some 138, .move (.tmp 2), 31, none⟩,
    ⟨some 139, .move (.tmp 18), 3, none⟩,
    ⟨some 140, .indexAddr 31 (.tmp 138) (.tmp 139), 0, none⟩,
    ⟨some 141, .load 30 (.tmp 140), 30, none⟩,
    ⟨some 142, .call { callee := (.builtin .len), args := #[(.tmp 141)], argTypes := #[30] }, 3, none⟩,
    ⟨some 19, .assign (.tmp 142), 3, none⟩]
@[go_sem] def c5_26 : Cmd := .ops [⟨some 143, .move (.tmp 17), 4, none⟩,
    ⟨some 144, .move (.tmp 143), 4, none⟩,
    ⟨some 145, .move (.tmp 9), 31, some (144, true)⟩,
    ⟨some 146, .move (.tmp 18), 3, some (144, true)⟩,
    ⟨some 147, .indexAddr 31 (.tmp 145) (.tmp 146), 0, some (144, true)⟩,
    ⟨some 148, .load 30 (.tmp 147), 30, some (144, true)⟩,
    ⟨some 149, .move (.tmp 19), 3, some (144, true)⟩,
    ⟨some 150, .indexAddr 30 (.tmp 148) (.tmp 149), 0, some (144, true)⟩,
    ⟨some 151, .load 5 (.tmp 150), 5, some (144, true)⟩,
    ⟨some 152, .binOp .eql 5 (.tmp 151) (.const (.int .u8 47)) 5, 4, some (144, true)⟩,
    ⟨some 153, .pick (.tmp 144) (.tmp 152) (.const (.bool false)), 4, none⟩,
    ⟨some 154, .move (.tmp 153), 4, none⟩,
    ⟨some 155, .move (.tmp 9), 31, some (154, true)⟩,
    ⟨some 156, .move (.tmp 18), 3, some (154, true)⟩,
    ⟨some 157, .indexAddr 31 (.tmp 155) (.tmp 156), 0, some (154, true)⟩,
    ⟨some 158, .load 30 (.tmp 157), 30, some (154, true)⟩,
    ⟨some 159, .move (.tmp 19), 3, some (154, true)⟩,
    ⟨some 160, .binOp .add 3 (.tmp 159) (.const (.int .i64 1)) 3, 3, some (154, true)⟩,
    ⟨some 161, .indexAddr 30 (.tmp 158) (.tmp 160), 0, some (154, true)⟩,
    ⟨some 162, .load 5 (.tmp 161), 5, some (154, true)⟩,
    ⟨some 163, .binOp .eql 5 (.tmp 162) (.const (.int .u8 11)) 5, 4, some (154, true)⟩,
    ⟨some 164, .pick (.tmp 154) (.tmp 163) (.const (.bool false)), 4, none⟩,
    ⟨some 17, .assign (.tmp 164), 4, none⟩]
@[go_sem] def c5_27 : Cmd := .block 3 (.seq c5_25 c5_26)
@[go_sem] def c5_28 : Cmd := .ops [⟨some 136, .move (.tmp 18), 3, none⟩,
    ⟨some 137, .binOp .add 3 (.tmp 136) (.const (.int .i64 1)) 3, 3, none⟩,
    ⟨some 18, .assign (.tmp 137), 3, none⟩]
def c5_L1 : Cmd := (.seq (.seq c5_23 c5_24) (.seq c5_27 c5_28))
@[go_sem] def c5_29 : Cmd := .loop c5_L1
@[go_sem] def c5_30 : Cmd := .block 2 c5_29
@[go_sem] def c5_31 : Cmd := .ops [⟨some 165, .move (.tmp 7), 4, none⟩,
    ⟨some 166, .move (.tmp 165), 4, none⟩,
    ⟨some 167, .move (.tmp 16), 4, some (166, true)⟩,
    ⟨some 168, .pick (.tmp 166) (.tmp 167) (.const (.bool false)), 4, none⟩,
    ⟨some 169, .move (.tmp 168), 4, none⟩,
    ⟨some 170, .move (.tmp 17), 4, some (169, true)⟩,
    ⟨some 171, .pick (.tmp 169) (.tmp 170) (.const (.bool false)), 4, none⟩,
    ⟨some 172, .move (.tmp 171), 4, none⟩,
    ⟨some 173, .move (.tmp 13), 32, some (172, true)⟩,
    ⟨some 174, .call { callee := (.value (.func 16)), args := #[(.tmp 173)], argTypes := #[32] }, 3, some (172, true)⟩,
    ⟨some 175, .move (.tmp 15), 3, some (172, true)⟩,
    ⟨some 176, .binOp .eql 3 (.tmp 174) (.tmp 175) 3, 4, some (172, true)⟩,
    ⟨some 177, .pick (.tmp 172) (.tmp 176) (.const (.bool false)), 4, none⟩,
    ⟨some 6, .assign (.tmp 177), 4, none⟩]
@[go_sem] def c5 : Cmd := (.seq c5_0 (.seq c5_1 (.seq (.seq c5_2 c5_4) (.seq c5_5 (.seq c5_6 (.seq c5_7 (.seq (.seq c5_8 c5_16) (.seq c5_17 (.seq c5_18 (.seq c5_19 (.seq c5_20 (.seq c5_21 (.seq (.seq c5_22 c5_30) (.seq c5_31 .ret))))))))))))))
theorem b5 : Tryd.f5.body.map (comp 178) = some c5 := by kernel_rfl
theorem r5 : Tryd.f5.results.toList = [.tmp 6] := by kernel_rfl
-- 6 pith/pithlaw18.CkptBack
@[go_sem] def c6_0 : Cmd := .ops [⟨some 7, .box 28 (.tmp 2), 0, none⟩,
    ⟨some 10, .assign (.const (.bool false)), 4, none⟩]
@[go_sem] def c6_1 : Cmd := .ops [⟨some 28, .call { callee := (.value (.func 7)), args := #[], argTypes := #[] }, 4, none⟩,
    ⟨some 11, .assign (.tmp 28), 4, none⟩]
@[go_sem] def c6_2 : Cmd := .ops [⟨some 29, .load 28 (.tmp 7), 28, none⟩,
    ⟨some 30, .call { callee := (.value (.func 10)), args := #[(.tmp 29)], argTypes := #[28] }, 4, none⟩,
    ⟨some 31, .unOp .not 4 (.tmp 30), 4, none⟩,
    ⟨some 32, .move (.tmp 31), 4, none⟩,
    ⟨some 33, .move (.tmp 4), 31, some (32, false)⟩,
    ⟨some 34, .call { callee := (.value (.func 17)), args := #[(.tmp 33)], argTypes := #[31] }, 4, some (32, false)⟩,
    ⟨some 35, .unOp .not 4 (.tmp 34), 4, some (32, false)⟩,
    ⟨some 36, .pick (.tmp 32) (.const (.bool true)) (.tmp 35), 4, none⟩]
@[go_sem] def c6_3 : Cmd := .ops [⟨some 37, .move (.tmp 11), 4, none⟩,
    ⟨some 10, .assign (.tmp 37), 4, none⟩]
@[go_sem] def c6_4 : Cmd := .cond (.tmp 36) (.seq c6_3 .ret) .skip
@[go_sem] def c6_5 : Cmd := .ops [⟨some 39, .move (.tmp 0), 3, none⟩,
    ⟨some 40, .load 28 (.tmp 7), 28, none⟩,
    ⟨some 41, .call { callee := (.value (.func 11)), args := #[(.tmp 39), (.tmp 40)], argTypes := #[3, 28] }, 33, none⟩,
    ⟨some 38, .move (.tmp 41), 33, none⟩,
    ⟨some 42, .extract (.tmp 38) 0, 30, none⟩,
    ⟨some 43, .extract (.tmp 38) 1, 31, none⟩,
    ⟨some 44, .extract (.tmp 38) 2, 32, none⟩,
    ⟨some 12, .assign (.tmp 42), 30, none⟩,
    ⟨some 13, .assign (.tmp 43), 31, none⟩,
    ⟨some 14, .assign (.tmp 44), 32, none⟩]
@[go_sem] def c6_6 : Cmd := .ops [⟨some 45, .move (.tmp 14), 32, none⟩,
    ⟨some 46, .call { callee := (.value (.func 16)), args := #[(.tmp 45)], argTypes := #[32] }, 3, none⟩,
    ⟨some 47, .binOp .eql 3 (.tmp 46) (.const (.int .i64 0)) 3, 4, none⟩]
@[go_sem] def c6_7 : Cmd := .ops [⟨some 49, .move (.tmp 0), 3, none⟩,
    ⟨some 50, .move (.tmp 12), 30, none⟩,
    ⟨some 51, .move (.tmp 13), 31, none⟩,
    ⟨some 52, .call { callee := (.value (.func 20)), args := #[(.tmp 49), (.tmp 50), (.tmp 51)], argTypes := #[3, 30, 31] }, 45, none⟩,
    ⟨some 48, .move (.tmp 52), 45, none⟩,
    ⟨some 53, .extract (.tmp 48) 0, 28, none⟩,
    ⟨some 54, .extract (.tmp 48) 1, 32, none⟩,
    ⟨some 15, .alloc 28, 0, none⟩,
    ⟨none, .store 28 (.tmp 15) (.tmp 53), 0, none⟩,
    ⟨some 16, .assign (.tmp 54), 32, none⟩]
@[go_sem] def c6_8 : Cmd := .ops [⟨some 55, .load 28 (.tmp 15), 28, none⟩,
    ⟨some 56, .load 28 (.tmp 7), 28, none⟩,
    ⟨some 57, .call { callee := (.value (.func 22)), args := #[(.tmp 55), (.tmp 56)], argTypes := #[28, 28] }, 4, none⟩,
    ⟨some 17, .assign (.tmp 57), 4, none⟩]
@[go_sem] def c6_9 : Cmd := .ops [⟨some 59, .move (.tmp 1), 3, none⟩,
    ⟨some 60, .move (.tmp 12), 30, none⟩,
    ⟨some 61, .move (.tmp 13), 31, none⟩,
    ⟨some 62, .call { callee := (.value (.func 20)), args := #[(.tmp 59), (.tmp 60), (.tmp 61)], argTypes := #[3, 30, 31] }, 45, none⟩,
    ⟨some 58, .move (.tmp 62), 45, none⟩,
    ⟨some 63, .extract (.tmp 58) 0, 28, none⟩,
    ⟨some 64, .extract (.tmp 58) 1, 32, none⟩,
    ⟨some 18, .alloc 28, 0, none⟩,
    ⟨none, .store 28 (.tmp 18) (.tmp 63), 0, none⟩,
    ⟨some 19, .assign (.tmp 64), 32, none⟩]
@[go_sem] def c6_10 : Cmd := .ops [⟨some 65, .move (.tmp 16), 32, none⟩,
    ⟨some 66, .call { callee := (.value (.func 16)), args := #[(.tmp 65)], argTypes := #[32] }, 3, none⟩,
    ⟨some 67, .binOp .neq 3 (.tmp 66) (.const (.int .i64 0)) 3, 4, none⟩,
    ⟨some 68, .move (.tmp 67), 4, none⟩,
    ⟨some 69, .move (.tmp 17), 4, some (68, false)⟩,
    ⟨some 70, .unOp .not 4 (.tmp 69), 4, some (68, false)⟩,
    ⟨some 71, .pick (.tmp 68) (.const (.bool true)) (.tmp 70), 4, none⟩,
    ⟨some 72, .move (.tmp 71), 4, none⟩,
    ⟨some 73, .move (.tmp 19), 32, some (72, false)⟩,
    ⟨some 74, .call { callee := (.value (.func 16)), args := #[(.tmp 73)], argTypes := #[32] }, 3, some (72, false)⟩,
    ⟨some 75, .binOp .eql 3 (.tmp 74) (.const (.int .i64 0)) 3, 4, some (72, false)⟩,
    ⟨some 76, .move (.tmp 1), 3, some (72, false)⟩,
    ⟨some 77, .move (.tmp 0), 3, some (72, false)⟩,
    ⟨some 78, .binOp .eql 3 (.tmp 76) (.tmp 77) 3, 4, some (72, false)⟩,
    ⟨some 79, .binOp .neq 4 (.tmp 75) (.tmp 78) 4, 4, some (72, false)⟩,
    ⟨some 80, .pick (.tmp 72) (.const (.bool true)) (.tmp 79), 4, none⟩]
@[go_sem] def c6_11 : Cmd := .ops [⟨some 10, .assign (.const (.bool false)), 4, none⟩]
@[go_sem] def c6_12 : Cmd := .cond (.tmp 80) (.seq c6_11 .ret) .skip
@[go_sem] def c6_13 : Cmd := .ops [⟨some 20, .assign (.const (.int .i64 0)), 3, none⟩]
@[go_sem] def c6_14 : Cmd := .ops [⟨some 81, .move (.tmp 20), 3, none⟩,
    ⟨some 82, .move (.tmp 13), 31, none⟩,
    ⟨some 83, .call { callee := (.builtin .len), args := #[(.tmp 82)], argTypes := #[31] }, 3, none⟩,
    ⟨some 84, .binOp .lss 3 (.tmp 81) (.tmp 83) 3, 4, none⟩]
@[go_sem] def c6_15 : Cmd := .cond (.tmp 84) .skip (.exit 0)
@[go_sem] def c6_16 : Cmd := .ops [⟨some 87, .move (.tmp 13), 31, none⟩,
    ⟨some 88, .move (.tmp 20), 3, none⟩,
    ⟨some 89, .indexAddr 31 (.tmp 87) (.tmp 88), 0, none⟩,
    ⟨some 90, .load 30 (.tmp 89), 30, none⟩,
    ⟨some 91, .call { callee := (.builtin .len), args := #[(.tmp 90)], argTypes := #[30] }, 3, none⟩,
    ⟨some 92, .binOp .gtr 3 (.tmp 91) (.const (.int .i64 1024)) 3, 4, none⟩,
    ⟨some 93, .move (.tmp 92), 4, none⟩,
    ⟨some 94, .move (.tmp 13), 31, some (93, false)⟩,
    ⟨some 95, .move (.tmp 20), 3, some (93, false)⟩,
    ⟨some 96, .indexAddr 31 (.tmp 94) (.tmp 95), 0, some (93, false)⟩,
    ⟨some 97, .load 30 (.tmp 96), 30, some (93, false)⟩,
    ⟨some 98, .call { callee := (.builtin .len), args := #[(.tmp 97)], argTypes := #[30] }, 3, some (93, false)⟩,
    ⟨some 99, .binOp .eql 3 (.tmp 98) (.const (.int .i64 0)) 3, 4, some (93, false)⟩,
    ⟨some 100, .pick (.tmp 93) (.const (.bool true)) (.tmp 99), 4, none⟩]
@[go_sem] def c6_17 : Cmd := .ops [⟨some 10, .assign (.const (.bool false)), 4, none⟩]
@[go_sem] def c6_18 : Cmd := .cond (.tmp 100) (.seq c6_17 .ret) .skip
@[go_sem] def c6_19 : Cmd := .block 1 (.seq c6_16 c6_18)
@[go_sem] def c6_20 : Cmd := .ops [⟨some 85, .move (.tmp 20), 3, none⟩,
    ⟨some 86, .binOp .add 3 (.tmp 85) (.const (.int .i64 1)) 3, 3, none⟩,
    ⟨some 20, .assign (.tmp 86), 3, none⟩]
def c6_L0 : Cmd := (.seq (.seq c6_14 c6_15) (.seq c6_19 c6_20))
@[go_sem] def c6_21 : Cmd := .loop c6_L0
@[go_sem] def c6_22 : Cmd := .block 0 c6_21
@[go_sem] def c6_23 : Cmd := .cond (.tmp 47) (.seq c6_7 (.seq c6_8 (.seq c6_9 (.seq (.seq c6_10 c6_12) (.seq c6_13 c6_22))))) .skip
@[go_sem] def c6_24 : Cmd := .ops [⟨some 102, .move (.tmp 0), 3, none⟩,
    ⟨some 103, .move (.tmp 3), 30, none⟩,
    ⟨some 104, .move (.tmp 4), 31, none⟩,
    ⟨some 105, .call { callee := (.value (.func 20)), args := #[(.tmp 102), (.tmp 103), (.tmp 104)], argTypes := #[3, 30, 31] }, 45, none⟩,
    ⟨some 101, .move (.tmp 105), 45, none⟩,
    ⟨some 106, .extract (.tmp 101) 0, 28, none⟩,
    ⟨some 107, .extract (.tmp 101) 1, 32, none⟩,
    ⟨some 21, .alloc 28, 0, none⟩,
    ⟨none, .store 28 (.tmp 21) (.tmp 106), 0, none⟩,
    ⟨some 22, .assign (.tmp 107), 32, none⟩]
@[go_sem] def c6_25 : Cmd := .ops [⟨some 108, .move (.tmp 22), 32, none⟩,
    ⟨some 109, .call { callee := (.value (.func 16)), args := #[(.tmp 108)], argTypes := #[32] }, 3, none⟩,
    ⟨some 110, .binOp .neq 3 (.tmp 109) (.const (.int .i64 0)) 3, 4, none⟩]
@[go_sem] def c6_26 : Cmd := .ops [⟨some 111, .move (.tmp 11), 4, none⟩,
    ⟨some 112, .move (.tmp 111), 4, none⟩,
    ⟨some 113, .move (.tmp 22), 32, some (112, true)⟩,
    ⟨some 114, .call { callee := (.value (.func 16)), args := #[(.tmp 113)], argTypes := #[32] }, 3, some (112, true)⟩,
    ⟨some 115, .binOp .eql 3 (.tmp 114) (.const (.int .i64 90)) 3, 4, some (112, true)⟩,
    ⟨some 116, .pick (.tmp 112) (.tmp 115) (.const (.bool false)), 4, none⟩,
    ⟨some 10, .assign (.tmp 116), 4, none⟩]
@[go_sem] def c6_27 : Cmd := .cond (.tmp 110) (.seq c6_26 .ret) .skip
@[go_sem] def c6_28 : Cmd := .ops [⟨some 118, .move (.tmp 0), 3, none⟩,
    ⟨some 119, .load 28 (.tmp 21), 28, none⟩,
    ⟨some 120, .call { callee := (.value (.func 11)), args := #[(.tmp 118), (.tmp 119)], argTypes := #[3, 28] }, 33, none⟩,
    ⟨some 117, .move (.tmp 120), 33, none⟩,
    ⟨some 121, .extract (.tmp 117) 0, 30, none⟩,
    ⟨some 122, .extract (.tmp 117) 1, 31, none⟩,
    ⟨some 123, .extract (.tmp 117) 2, 32, none⟩,
    ⟨some 23, .assign (.tmp 121), 30, none⟩,
    ⟨some 24, .assign (.tmp 122), 31, none⟩,
    ⟨some 25, .assign (.tmp 123), 32, none⟩]
@[go_sem] def c6_29 : Cmd := .ops [⟨some 124, .move (.tmp 23), 30, none⟩,
    ⟨some 125, .move (.tmp 3), 30, none⟩,
    ⟨some 126, .call { callee := (.value (.func 14)), args := #[(.tmp 124), (.tmp 125)], argTypes := #[30, 30] }, 4, none⟩,
    ⟨some 26, .assign (.tmp 126), 4, none⟩]
@[go_sem] def c6_30 : Cmd := .ops [⟨some 127, .move (.tmp 24), 31, none⟩,
    ⟨some 128, .move (.tmp 4), 31, none⟩,
    ⟨some 129, .call { callee := (.value (.func 15)), args := #[(.tmp 127), (.tmp 128)], argTypes := #[31, 31] }, 4, none⟩,
    ⟨some 27, .assign (.tmp 129), 4, none⟩]
@[go_sem] def c6_31 : Cmd := .ops [⟨some 130, .move (.tmp 11), 4, none⟩,
    ⟨some 131, .move (.tmp 130), 4, none⟩,
    ⟨some 132, .move (.tmp 25), 32, some (131, true)⟩,
    ⟨some 133, .call { callee := (.value (.func 16)), args := #[(.tmp 132)], argTypes := #[32] }, 3, some (131, true)⟩,
    ⟨some 134, .binOp .eql 3 (.tmp 133) (.const (.int .i64 0)) 3, 4, some (131, true)⟩,
    ⟨some 135, .pick (.tmp 131) (.tmp 134) (.const (.bool false)), 4, none⟩,
    ⟨some 136, .move (.tmp 135), 4, none⟩,
    ⟨some 137, .move (.tmp 26), 4, some (136, true)⟩,
    ⟨some 138, .pick (.tmp 136) (.tmp 137) (.const (.bool false)), 4, none⟩,
    ⟨some 139, .move (.tmp 138), 4, none⟩,
    ⟨some 140, .move (.tmp 27), 4, some (139, true)⟩,
    ⟨some 141, .pick (.tmp 139) (.tmp 140) (.const (.bool false)), 4, none⟩,
    ⟨some 10, .assign (.tmp 141), 4, none⟩]
@[go_sem] def c6 : Cmd := (.seq c6_0 (.seq c6_1 (.seq (.seq c6_2 c6_4) (.seq c6_5 (.seq (.seq c6_6 c6_23) (.seq c6_24 (.seq (.seq c6_25 c6_27) (.seq c6_28 (.seq c6_29 (.seq c6_30 (.seq c6_31 .ret)))))))))))
theorem b6 : Tryd.f6.body.map (comp 142) = some c6 := by kernel_rfl
theorem r6 : Tryd.f6.results.toList = [.tmp 10] := by kernel_rfl
-- 7 pith/pithlaw18.first
@[go_sem] def c7_0 : Cmd := .ops [⟨some 0, .assign (.const (.bool false)), 4, none⟩]
@[go_sem] def c7_1 : Cmd := .ops [⟨some 9, .buildSlice 25 3 #[(0, (.const (.int .i64 3))), (1, (.const (.int .i64 0))), (2, (.const (.int .i64 300)))], 25, none⟩,
    ⟨some 10, .buildSlice 26 2 #[(0, (.const (.bool true))), (1, (.const (.bool false)))], 26, none⟩,
    ⟨some 11, .build 28 #[(0, (.const (.int .i64 2))), (1, (.tmp 9)), (2, (.tmp 10))], 28, none⟩,
    ⟨some 12, .call { callee := (.value (.func 11)), args := #[(.const (.int .i64 7)), (.tmp 11)], argTypes := #[3, 28] }, 33, none⟩,
    ⟨some 8, .move (.tmp 12), 33, none⟩,
    ⟨some 13, .extract (.tmp 8) 0, 30, none⟩,
    ⟨some 14, .extract (.tmp 8) 1, 31, none⟩,
    ⟨some 15, .extract (.tmp 8) 2, 32, none⟩,
    ⟨some 1, .assign (.tmp 13), 30, none⟩,
    ⟨some 2, .assign (.tmp 14), 31, none⟩,
    ⟨some 3, .assign (.tmp 15), 32, none⟩]
@[go_sem] def c7_2 : Cmd := .ops [⟨some 16, .move (.tmp 1), 30, none⟩,
    ⟨some 17, .buildSlice 30 16 #[(0, (.const (.int .u8 0))), (1, (.const (.int .u8 0))), (2, (.const (.int .u8 0))), (3, (.const (.int .u8 7))), (4, (.const (.int .u8 0))), (5, (.const (.int .u8 0))), (6, (.const (.int .u8 0))), (7, (.const (.int .u8 2))), (8, (.const (.int .u8 0))), (9, (.const (.int .u8 0))), (10, (.const (.int .u8 0))), (11, (.const (.int .u8 3))), (12, (.const (.int .u8 0))), (13, (.const (.int .u8 0))), (14, (.const (.int .u8 0))), (15, (.const (.int .u8 2)))], 30, none⟩,
    ⟨some 18, .call { callee := (.value (.func 14)), args := #[(.tmp 16), (.tmp 17)], argTypes := #[30, 30] }, 4, none⟩,
    ⟨some 4, .assign (.tmp 18), 4, none⟩]
@[go_sem] def c7_3 : Cmd := .ops [⟨some 19, .move (.tmp 2), 31, none⟩,
    ⟨some 20, .buildSlice 30 4 #[(0, (.const (.int .u8 3))), (1, (.const (.int .u8 0))), (2, (.const (.int .u8 130))), (3, (.const (.int .u8 44)))], 30, none⟩,
    ⟨some 21, .buildSlice 30 2 #[(0, (.const (.int .u8 1))), (1, (.const (.int .u8 0)))], 30, none⟩,
    ⟨some 22, .buildSlice 31 2 #[(0, (.tmp 20)), (1, (.tmp 21))], 31, none⟩,
    ⟨some 23, .call { callee := (.value (.func 15)), args := #[(.tmp 19), (.tmp 22)], argTypes := #[31, 31] }, 4, none⟩,
    ⟨some 5, .assign (.tmp 23), 4, none⟩]
@[go_sem] def c7_4 : Cmd := .ops [⟨some 25, .move (.tmp 1), 30, none⟩,
    ⟨some 26, .move (.tmp 2), 31, none⟩,
    ⟨some 27, .call { callee := (.value (.func 20)), args := #[(.const (.int .i64 8)), (.tmp 25), (.tmp 26)], argTypes := #[3, 30, 31] }, 45, none⟩,
    ⟨some 24, .move (.tmp 27), 45, none⟩,
    ⟨some 28, .extract (.tmp 24) 0, 28, none⟩,
    ⟨some 29, .extract (.tmp 24) 1, 32, none⟩,
    ⟨some 6, .alloc 28, 0, none⟩,
    ⟨none, .store 28 (.tmp 6) (.tmp 28), 0, none⟩,
    ⟨some 7, .assign (.tmp 29), 32, none⟩]
@[go_sem] def c7_5 : Cmd := .ops [⟨some 30, .move (.tmp 3), 32, none⟩,
    ⟨some 31, .call { callee := (.value (.func 16)), args := #[(.tmp 30)], argTypes := #[32] }, 3, none⟩,
    ⟨some 32, .binOp .eql 3 (.tmp 31) (.const (.int .i64 0)) 3, 4, none⟩,
    ⟨some 33, .move (.tmp 32), 4, none⟩,
    ⟨some 34, .move (.tmp 4), 4, some (33, true)⟩,
    ⟨some 35, .pick (.tmp 33) (.tmp 34) (.const (.bool false)), 4, none⟩,
    ⟨some 36, .move (.tmp 35), 4, none⟩,
    ⟨some 37, .move (.tmp 5), 4, some (36, true)⟩,
    ⟨some 38, .pick (.tmp 36) (.tmp 37) (.const (.bool false)), 4, none⟩,
    ⟨some 39, .move (.tmp 38), 4, none⟩,
    ⟨some 40, .move (.tmp 7), 32, some (39, true)⟩,
    ⟨some 41, .call { callee := (.value (.func 16)), args := #[(.tmp 40)], argTypes := #[32] }, 3, some (39, true)⟩,
    ⟨some 42, .binOp .eql 3 (.tmp 41) (.const (.int .i64 90)) 3, 4, some (39, true)⟩,
    ⟨some 43, .pick (.tmp 39) (.tmp 42) (.const (.bool false)), 4, none⟩,
    ⟨some 44, .move (.tmp 43), 4, none⟩,
    ⟨some 45, .call { callee := (.value (.func 8)), args := #[(.const (.int .i64 7))], argTypes := #[3] }, 9, some (44, true)⟩,
    ⟨some 46, .binOp .eql 9 (.tmp 45) (.const (.string ⟨#[99, 107, 112, 116, 46, 55]⟩)) 9, 4, some (44, true)⟩,
    ⟨some 47, .pick (.tmp 44) (.tmp 46) (.const (.bool false)), 4, none⟩,
    ⟨some 0, .assign (.tmp 47), 4, none⟩]
@[go_sem] def c7 : Cmd := (.seq c7_0 (.seq c7_1 (.seq c7_2 (.seq c7_3 (.seq c7_4 (.seq c7_5 .ret))))))
theorem b7 : Tryd.f7.body.map (comp 48) = some c7 := by kernel_rfl
theorem r7 : Tryd.f7.results.toList = [.tmp 0] := by kernel_rfl
-- 8 pith/ckpt.Name
@[go_sem] def c8_0 : Cmd := .ops [⟨some 2, .assign (.const (.string ⟨#[]⟩)), 9, none⟩]
@[go_sem] def c8_1 : Cmd := .ops [⟨some 3, .move (.tmp 0), 3, none⟩,
    ⟨some 4, .call { callee := (.value (.func 23)), args := #[(.tmp 3)], argTypes := #[3] }, 9, none⟩,
    ⟨some 5, .binOp .add 9 (.const (.string ⟨#[99, 107, 112, 116, 46]⟩)) (.tmp 4) 9, 9, none⟩,
    ⟨some 2, .assign (.tmp 5), 9, none⟩]
@[go_sem] def c8 : Cmd := (.seq c8_0 (.seq c8_1 .ret))
theorem b8 : Tryd.f8.body.map (comp 6) = some c8 := by kernel_rfl
theorem r8 : Tryd.f8.results.toList = [.tmp 2] := by kernel_rfl
-- 9 pith/pithref18.Name
@[go_sem] def c9_0 : Cmd := .ops [⟨some 2, .assign (.const (.string ⟨#[]⟩)), 9, none⟩]
@[go_sem] def c9_1 : Cmd := .ops [⟨some 3, .move (.tmp 0), 3, none⟩,
    ⟨some 4, .call { callee := (.value (.func 23)), args := #[(.tmp 3)], argTypes := #[3] }, 9, none⟩,
    ⟨some 5, .binOp .add 9 (.const (.string ⟨#[99, 107, 112, 116, 46]⟩)) (.tmp 4) 9, 9, none⟩,
    ⟨some 2, .assign (.tmp 5), 9, none⟩]
@[go_sem] def c9 : Cmd := (.seq c9_0 (.seq c9_1 .ret))
theorem b9 : Tryd.f9.body.map (comp 6) = some c9 := by kernel_rfl
theorem r9 : Tryd.f9.results.toList = [.tmp 2] := by kernel_rfl
-- 10 pith/pithlaw18.few
@[go_sem] def c10_0 : Cmd := .ops [⟨some 1, .box 28 (.tmp 0), 0, none⟩,
    ⟨some 2, .assign (.const (.bool false)), 4, none⟩]
@[go_sem] def c10_1 : Cmd := .ops [⟨some 3, .fieldAddr 28 (.tmp 1) 1, 0, none⟩,
    ⟨some 4, .load 25 (.tmp 3), 25, none⟩,
    ⟨some 5, .call { callee := (.builtin .len), args := #[(.tmp 4)], argTypes := #[25] }, 3, none⟩,
    ⟨some 6, .binOp .leq 3 (.tmp 5) (.const (.int .i64 5000)) 3, 4, none⟩,
    ⟨some 7, .move (.tmp 6), 4, none⟩,
    ⟨some 8, .fieldAddr 28 (.tmp 1) 2, 0, some (7, true)⟩,
    ⟨some 9, .load 26 (.tmp 8), 26, some (7, true)⟩,
    ⟨some 10, .call { callee := (.builtin .len), args := #[(.tmp 9)], argTypes := #[26] }, 3, some (7, true)⟩,
    ⟨some 11, .binOp .leq 3 (.tmp 10) (.const (.int .i64 5000)) 3, 4, some (7, true)⟩,
    ⟨some 12, .pick (.tmp 7) (.tmp 11) (.const (.bool false)), 4, none⟩,
    ⟨some 2, .assign (.tmp 12), 4, none⟩]
@[go_sem] def c10 : Cmd := (.seq c10_0 (.seq c10_1 .ret))
theorem b10 : Tryd.f10.body.map (comp 13) = some c10 := by kernel_rfl
theorem r10 : Tryd.f10.results.toList = [.tmp 2] := by kernel_rfl
-- 11 pith/ckpt.Encode
@[go_sem] def c11_0 : Cmd := .ops [⟨some 3, .box 28 (.tmp 1), 0, none⟩,
    ⟨some 4, .assign (.const (.slice none 0 0)), 30, none⟩,
    ⟨some 5, .assign (.const (.slice none 0 0)), 31, none⟩,
    ⟨some 6, .assign (.const (.int .i64 0)), 32, none⟩]
@[go_sem] def c11_1 : Cmd := .ops [⟨some 17, .move (.tmp 0), 3, none⟩,
    ⟨some 18, .load 28 (.tmp 3), 28, none⟩,
    ⟨some 19, .call { callee := (.value (.func 24)), args := #[(.tmp 17), (.tmp 18)], argTypes := #[3, 28] }, 4, none⟩,
    ⟨some 20, .unOp .not 4 (.tmp 19), 4, none⟩]
@[go_sem] def c11_2 : Cmd := .ops [⟨some 4, .assign (.const (.slice none 0 0)), 30, none⟩,
    ⟨some 5, .assign (.const (.slice none 0 0)), 31, none⟩,
    ⟨some 6, .assign (.const (.int .i64 180)), 32, none⟩]
@[go_sem] def c11_3 : Cmd := .cond (.tmp 20) (.seq c11_2 .ret) .skip
@[go_sem] def c11_4 : Cmd := .ops [⟨some 7, .assign (.const (.slice none 0 0)), 31, none⟩]
@[go_sem] def c11_5 : Cmd := .ops [⟨some 21, .fieldAddr 28 (.tmp 3) 1, 0, none⟩,
    ⟨some 22, .load 25 (.tmp 21), 25, none⟩,
    ⟨some 8, .assign (.tmp 22), 25, none⟩]
@[go_sem] def c11_6 : Cmd := .ops [⟨some 23, .move (.tmp 8), 25, none⟩,
    ⟨some 24, .call { callee := (.builtin .len), args := #[(.tmp 23)], argTypes := #[25] }, 3, none⟩,
    ⟨some 25, .binOp .gtr 3 (.tmp 24) (.const (.int .i64 0)) 3, 4, none⟩]
@[go_sem] def c11_7 : Cmd := .cond (.tmp 25) .skip (.exit 0)
@[go_sem] def c11_8 : Cmd := .ops [⟨some 26, .move (.tmp 8), 25, none⟩,
    ⟨some 27, .call { callee := (.builtin .len), args := #[(.tmp 26)], argTypes := #[25] }, 3, none⟩,
    ⟨some 28, .call { callee := (.builtin .min), args := #[(.tmp 27), (.const (.int .i64 200))], argTypes := #[3, 3] }, 3, none⟩,
    ⟨some 9, .assign (.tmp 28), 3, none⟩]
@[go_sem] def c11_9 : Cmd := .ops [⟨some 29, .move (.tmp 8), 25, none⟩,
    ⟨some 30, .move (.tmp 9), 3, none⟩,
    ⟨some 31, .move (.tmp 9), 3, none⟩,
    ⟨some 32, .slice 25 (.tmp 29) none (some (.tmp 30)) (some (.tmp 31)), 25, none⟩,
    ⟨some 10, .assign (.tmp 32), 25, none⟩]
@[go_sem] def c11_10 : Cmd := .ops [⟨some 33, .move (.tmp 8), 25, none⟩,
    ⟨some 34, .move (.tmp 9), 3, none⟩,
    ⟨some 35, .slice 25 (.tmp 33) (some (.tmp 34)) none none, 25, none⟩,
    ⟨some 8, .assign (.tmp 35), 25, none⟩]
@[go_sem] def c11_11 : Cmd := .ops [⟨some 11, .assign (.const (.slice none 0 0)), 30, none⟩]
@[go_sem] def c11_12 : Cmd := .ops [⟨some 36, .move (.tmp 10), 25, none⟩,
    ⟨some 37, .call { callee := (.builtin .len), args := #[(.tmp 36)], argTypes := #[25] }, 3, none⟩,
    ⟨some 38, .move (.const (.int .i64 0)), 3, none⟩]
@[go_sem] def c11_13 : Cmd := .ops [⟨some 39, .binOp .lss 3 (.tmp 38) (.tmp 37) 3, 0, none⟩]
@[go_sem] def c11_14 : Cmd := .cond (.tmp 39) .skip (.exit 2)
@[go_sem] def c11_15 : Cmd := .ops [⟨some 40, .indexAddr 25 (.tmp 36) (.tmp 38), 0, none⟩,
    ⟨some 41, .load 3 (.tmp 40), 3, none⟩,
    ⟨some 13, .assign (.tmp 41), 3, none⟩]
@[go_sem] def c11_16 : Cmd := .ops [⟨some 42, .move (.tmp 11), 30, none⟩,
    ⟨some 43, .move (.tmp 13), 3, none⟩,
    ⟨some 44, .call { callee := (.value (.func 25)), args := #[(.const (.slice none 0 0)), (.tmp 43)], argTypes := #[30, 3] }, 30, none⟩,
    ⟨some 45, .call { callee := (.builtin .append), args := #[(.tmp 42), (.tmp 44)], argTypes := #[30, 30] }, 30, none⟩,
    ⟨some 11, .assign (.tmp 45), 30, none⟩]
@[go_sem] def c11_17 : Cmd := .block 3 (.seq c11_15 c11_16)
@[go_sem] def c11_18 : Cmd := .ops [⟨some 46, .binOp .add 3 (.tmp 38) (.const (.int .i64 1)) 3, 3, none⟩,
    ⟨some 38, .move (.tmp 46), 3, none⟩]
def c11_L0 : Cmd := (.seq c11_13 (.seq c11_14 (.seq c11_17 c11_18)))
@[go_sem] def c11_19 : Cmd := .loop c11_L0
@[go_sem] def c11_20 : Cmd := .block 2 c11_19
@[go_sem] def c11_21 : Cmd := .ops [⟨some 47, .move (.tmp 7), 31, none⟩,
    ⟨some 48, .move (.tmp 11), 30, none⟩,
    ⟨some 49, .buildSlice 31 1 #[(0, (.tmp 48))], 31, none⟩,
    ⟨some 50, .call { callee := (.builtin .append), args := #[(.tmp 47), (.tmp 49)], argTypes := #[31, 31] }, 31, none⟩,
    ⟨some 7, .assign (.tmp 50), 31, none⟩]
@[go_sem] def c11_22 : Cmd := .block 1 (.seq c11_8 (.seq c11_9 (.seq c11_10 (.seq c11_11 (.seq (.seq c11_12 c11_20) c11_21)))))
def c11_L1 : Cmd := (.seq (.seq c11_6 c11_7) c11_22)
@[go_sem] def c11_23 : Cmd := .loop c11_L1
@[go_sem] def c11_24 : Cmd := .block 0 c11_23
@[go_sem] def c11_25 : Cmd := .ops [⟨some 51, .fieldAddr 28 (.tmp 3) 2, 0, none⟩,
    ⟨some 52, .load 26 (.tmp 51), 26, none⟩,
    ⟨some 53, .call { callee := (.builtin .len), args := #[(.tmp 52)], argTypes := #[26] }, 3, none⟩,
    ⟨some 54, .binOp .gtr 3 (.tmp 53) (.const (.int .i64 0)) 3, 4, none⟩]
@[go_sem] def c11_26 : Cmd := .ops [⟨some 55, .fieldAddr 28 (.tmp 3) 2, 0, none⟩,
    ⟨some 56, .load 26 (.tmp 55), 26, none⟩,
    ⟨some 57, .call { callee := (.builtin .len), args := #[(.tmp 56)], argTypes := #[26] }, 3, none⟩,
    ⟨some 58, .makeSlice 30 (.tmp 57) (.tmp 57), 30, none⟩,
    ⟨some 14, .assign (.tmp 58), 30, none⟩]
@[go_sem] def c11_27 : Cmd := .ops [⟨some 59, .fieldAddr 28 (.tmp 3) 2, 0, none⟩,
    ⟨some 60, .load 26 (.tmp 59), 26, none⟩,
    ⟨some 61, .call { callee := (.builtin .len), args := #[(.tmp 60)], argTypes := #[26] }, 3, none⟩,
    ⟨some 62, .move (.const (.int .i64 0)), 3, none⟩]
@[go_sem] def c11_28 : Cmd := .ops [⟨some 63, .binOp .lss 3 (.tmp 62) (.tmp 61) 3, 0, none⟩]
@[go_sem] def c11_29 : Cmd := .cond (.tmp 63) .skip (.exit 4)
@[go_sem] def c11_30 : Cmd := .ops [⟨some 64, .move (.tmp 62), 3, none⟩,
    ⟨some 65, .indexAddr 26 (.tmp 60) (.tmp 62), 0, none⟩,
    ⟨some 66, .load 4 (.tmp 65), 4, none⟩,
    ⟨some 15, .assign (.tmp 64), 3, none⟩,
    ⟨some 16, .assign (.tmp 66), 4, none⟩]
@[go_sem] def c11_31 : Cmd := .ops [⟨some 67, .move (.tmp 16), 4, none⟩]
@[go_sem] def c11_32 : Cmd := .ops [⟨some 68, .move (.tmp 14), 30, none⟩,
    ⟨some 69, .move (.tmp 15), 3, none⟩,
    ⟨some 70, .indexAddr 30 (.tmp 68) (.tmp 69), 0, none⟩,
    ⟨none, .store 5 (.tmp 70) (.const (.int .u8 1)), 0, none⟩]
@[go_sem] def c11_33 : Cmd := .cond (.tmp 67) c11_32 .skip
@[go_sem] def c11_34 : Cmd := .block 5 (.seq c11_30 (.seq c11_31 c11_33))
@[go_sem] def c11_35 : Cmd := .ops [⟨some 71, .binOp .add 3 (.tmp 62) (.const (.int .i64 1)) 3, 3, none⟩,
    ⟨some 62, .move (.tmp 71), 3, none⟩]
def c11_L2 : Cmd := (.seq c11_28 (.seq c11_29 (.seq c11_34 c11_35)))
@[go_sem] def c11_36 : Cmd := .loop c11_L2
@[go_sem] def c11_37 : Cmd := .block 4 c11_36
@[go_sem] def c11_38 : Cmd := .ops [⟨some 72, .move (.tmp 7), 31, none⟩,
    ⟨some 73, .move (.tmp 14), 30, none⟩,
    ⟨some 74, .buildSlice 31 1 #[(0, (.tmp 73))], 31, none⟩,
    ⟨some 75, .call { callee := (.builtin .append), args := #[(.tmp 72), (.tmp 74)], argTypes := #[31, 31] }, 31, none⟩,
    ⟨some 7, .assign (.tmp 75), 31, none⟩]
@[go_sem] def c11_39 : Cmd := .cond (.tmp 54) (.seq c11_26 (.seq (.seq c11_27 c11_37) c11_38)) .skip
@[go_sem] def c11_40 : Cmd := .ops [⟨some 76, .move (.tmp 0), 3, none⟩,
    ⟨some 77, .fieldAddr 28 (.tmp 3) 0, 0, none⟩,
    ⟨some 78, .load 3 (.tmp 77), 3, none⟩,
    ⟨some 79, .fieldAddr 28 (.tmp 3) 1, 0, none⟩,
    ⟨some 80, .load 25 (.tmp 79), 25, none⟩,
    ⟨some 81, .call { callee := (.builtin .len), args := #[(.tmp 80)], argTypes := #[25] }, 3, none⟩,
    ⟨some 82, .fieldAddr 28 (.tmp 3) 2, 0, none⟩,
    ⟨some 83, .load 26 (.tmp 82), 26, none⟩,
    ⟨some 84, .call { callee := (.builtin .len), args := #[(.tmp 83)], argTypes := #[26] }, 3, none⟩,
    ⟨some 85, .build 54 #[(0, (.tmp 76)), (1, (.tmp 78)), (2, (.tmp 81)), (3, (.tmp 84))], 54, none⟩,
    ⟨some 86, .call { callee := (.value (.func 26)), args := #[(.tmp 85)], argTypes := #[54] }, 30, none⟩,
    ⟨some 87, .move (.tmp 7), 31, none⟩,
    ⟨some 4, .assign (.tmp 86), 30, none⟩,
    ⟨some 5, .assign (.tmp 87), 31, none⟩,
    ⟨some 6, .assign (.const (.int .i64 0)), 32, none⟩]
@[go_sem] def c11 : Cmd := (.seq c11_0 (.seq (.seq c11_1 c11_3) (.seq c11_4 (.seq (.seq c11_5 c11_24) (.seq (.seq c11_25 c11_39) (.seq c11_40 .ret))))))
theorem b11 : Tryd.f11.body.map (comp 88) = some c11 := by kernel_rfl
theorem r11 : Tryd.f11.results.toList = [.tmp 4, .tmp 5, .tmp 6] := by kernel_rfl
-- 12 pith/pithref.Check
@[go_sem] def c12_0 : Cmd := .ops [⟨some 1, .box 28 (.tmp 0), 0, none⟩,
    ⟨some 2, .alloc 28, 0, none⟩]
@[go_sem] def c12_1 : Cmd := .draw (.step 3 ⟨some 3, .fieldAddr 28 (.tmp 1) 0, 0, none⟩
    (.step 0 ⟨some 4, .load 3 (.tmp 3), 3, none⟩
    (.step 3 ⟨some 5, .fieldAddr 28 (.tmp 1) 1, 0, none⟩
    (.step 0 ⟨some 6, .load 25 (.tmp 5), 25, none⟩
    (.step 3 ⟨some 8, .fieldAddr 28 (.tmp 1) 2, 0, none⟩
    (.step 0 ⟨some 9, .load 26 (.tmp 8), 26, none⟩
    (.step 1 ⟨some 7, .call { callee := (.value (.func 27)), args := #[(.tmp 6)], argTypes := #[25] }, 25, none⟩
    (.step 1 ⟨some 10, .call { callee := (.value (.func 28)), args := #[(.tmp 9)], argTypes := #[26] }, 26, none⟩
    (.step 3 ⟨some 11, .build 28 #[(0, (.tmp 4)), (1, (.tmp 7)), (2, (.tmp 10))], 28, none⟩
    (.step 2 ⟨none, .store 28 (.tmp 2) (.tmp 11), 0, none⟩
    .done))))))))))
@[go_sem] def c12 : Cmd := (.seq c12_0 (.seq c12_1 .ret))
theorem b12 : Tryd.f12.body.map (comp 12) = some c12 := by kernel_rfl
theorem r12 : Tryd.f12.results.toList = [.cell 2 28] := by kernel_rfl
-- 13 pith/pithref18.Encode
@[go_sem] def c13_0 : Cmd := .ops [⟨some 3, .box 28 (.tmp 1), 0, none⟩,
    ⟨some 4, .assign (.const (.slice none 0 0)), 30, none⟩,
    ⟨some 5, .assign (.const (.slice none 0 0)), 31, none⟩,
    ⟨some 6, .assign (.const (.int .i64 0)), 3, none⟩]
@[go_sem] def c13_1 : Cmd := .ops [⟨some 15, .move (.tmp 0), 3, none⟩,
    ⟨some 16, .load 28 (.tmp 3), 28, none⟩,
    ⟨some 17, .call { callee := (.value (.func 29)), args := #[(.tmp 15), (.tmp 16)], argTypes := #[3, 28] }, 4, none⟩,
    ⟨some 18, .unOp .not 4 (.tmp 17), 4, none⟩]
@[go_sem] def c13_2 : Cmd := .ops [⟨some 4, .assign (.const (.slice none 0 0)), 30, none⟩,
    ⟨some 5, .assign (.const (.slice none 0 0)), 31, none⟩,
    ⟨some 6, .assign (.const (.int .i64 180)), 3, none⟩]
@[go_sem] def c13_3 : Cmd := .cond (.tmp 18) (.seq c13_2 .ret) .skip
@[go_sem] def c13_4 : Cmd := .ops [⟨some 7, .assign (.const (.slice none 0 0)), 30, none⟩]
@[go_sem] def c13_5 : Cmd := .ops [⟨some 19, .move (.tmp 7), 30, none⟩,
    ⟨some 20, .move (.tmp 0), 3, none⟩,
    ⟨some 21, .call { callee := (.value (.func 30)), args := #[(.tmp 20)], argTypes := #[3] }, 30, none⟩,
    ⟨some 22, .call { callee := (.builtin .append), args := #[(.tmp 19), (.tmp 21)], argTypes := #[30, 30] }, 30, none⟩,
    ⟨some 7, .assign (.tmp 22), 30, none⟩]
@[go_sem] def c13_6 : Cmd := .ops [⟨some 23, .move (.tmp 7), 30, none⟩,
    ⟨some 24, .fieldAddr 28 (.tmp 3) 0, 0, none⟩,
    ⟨some 25, .load 3 (.tmp 24), 3, none⟩,
    ⟨some 26, .call { callee := (.value (.func 30)), args := #[(.tmp 25)], argTypes := #[3] }, 30, none⟩,
    ⟨some 27, .call { callee := (.builtin .append), args := #[(.tmp 23), (.tmp 26)], argTypes := #[30, 30] }, 30, none⟩,
    ⟨some 7, .assign (.tmp 27), 30, none⟩]
@[go_sem] def c13_7 : Cmd := .ops [⟨some 28, .move (.tmp 7), 30, none⟩,
    ⟨some 29, .fieldAddr 28 (.tmp 3) 1, 0, none⟩,
    ⟨some 30, .load 25 (.tmp 29), 25, none⟩,
    ⟨some 31, .call { callee := (.builtin .len), args := #[(.tmp 30)], argTypes := #[25] }, 3, none⟩,
    ⟨some 32, .call { callee := (.value (.func 30)), args := #[(.tmp 31)], argTypes := #[3] }, 30, none⟩,
    ⟨some 33, .call { callee := (.builtin .append), args := #[(.tmp 28), (.tmp 32)], argTypes := #[30, 30] }, 30, none⟩,
    ⟨some 7, .assign (.tmp 33), 30, none⟩]
@[go_sem] def c13_8 : Cmd := .ops [⟨some 34, .move (.tmp 7), 30, none⟩,
    ⟨some 35, .fieldAddr 28 (.tmp 3) 2, 0, none⟩,
    ⟨some 36, .load 26 (.tmp 35), 26, none⟩,
    ⟨some 37, .call { callee := (.builtin .len), args := #[(.tmp 36)], argTypes := #[26] }, 3, none⟩,
    ⟨some 38, .call { callee := (.value (.func 30)), args := #[(.tmp 37)], argTypes := #[3] }, 30, none⟩,
    ⟨some 39, .call { callee := (.builtin .append), args := #[(.tmp 34), (.tmp 38)], argTypes := #[30, 30] }, 30, none⟩,
    ⟨some 7, .assign (.tmp 39), 30, none⟩]
@[go_sem] def c13_9 : Cmd := .ops [⟨some 8, .assign (.const (.slice none 0 0)), 31, none⟩]
@[go_sem] def c13_10 : Cmd := .ops [⟨some 9, .assign (.const (.int .i64 0)), 3, none⟩]
@[go_sem] def c13_11 : Cmd := .ops [⟨some 40, .move (.tmp 9), 3, none⟩,
    ⟨some 41, .fieldAddr 28 (.tmp 3) 1, 0, none⟩,
    ⟨some 42, .load 25 (.tmp 41), 25, none⟩,
    ⟨some 43, .call { callee := (.builtin .len), args := #[(.tmp 42)], argTypes := #[25] }, 3, none⟩,
    ⟨some 44, .binOp .lss 3 (.tmp 40) (.tmp 43) 3, 4, none⟩]
@[go_sem] def c13_12 : Cmd := .cond (.tmp 44) .skip (.exit 0)
@[go_sem] def c13_13 : Cmd := .ops [⟨some 10, .assign (.const (.slice none 0 0)), 30, none⟩]
@[go_sem] def c13_14 : Cmd := .ops [⟨some 47, .move (.tmp 9), 3, none⟩,
    ⟨some 11, .assign (.tmp 47), 3, none⟩]
@[go_sem] def c13_15 : Cmd := .ops [⟨some 48, .move (.tmp 11), 3, none⟩,
    ⟨some 49, .move (.tmp 9), 3, none⟩,
    ⟨some 50, .binOp .add 3 (.tmp 49) (.const (.int .i64 200)) 3, 3, none⟩,
    ⟨some 51, .binOp .lss 3 (.tmp 48) (.tmp 50) 3, 4, none⟩,
    ⟨some 52, .move (.tmp 51), 4, none⟩,
    ⟨some 53, .move (.tmp 11), 3, some (52, true)⟩,
    ⟨some 54, .fieldAddr 28 (.tmp 3) 1, 0, some (52, true)⟩,
    ⟨some 55, .load 25 (.tmp 54), 25, some (52, true)⟩,
    ⟨some 56, .call { callee := (.builtin .len), args := #[(.tmp 55)], argTypes := #[25] }, 3, some (52, true)⟩,
    ⟨some 57, .binOp .lss 3 (.tmp 53) (.tmp 56) 3, 4, some (52, true)⟩,
    ⟨some 58, .pick (.tmp 52) (.tmp 57) (.const (.bool false)), 4, none⟩]
@[go_sem] def c13_16 : Cmd := .cond (.tmp 58) .skip (.exit 2)
@[go_sem] def c13_17 : Cmd := .ops [⟨some 61, .move (.tmp 10), 30, none⟩,
    ⟨some 62, .fieldAddr 28 (.tmp 3) 1, 0, none⟩,
    ⟨some 63, .load 25 (.tmp 62), 25, none⟩,
    ⟨some 64, .move (.tmp 11), 3, none⟩,
    ⟨some 65, .indexAddr 25 (.tmp 63) (.tmp 64), 0, none⟩,
    ⟨some 66, .load 3 (.tmp 65), 3, none⟩,
    ⟨some 67, .call { callee := (.value (.func 31)), args := #[(.tmp 61), (.tmp 66)], argTypes := #[30, 3] }, 30, none⟩,
    ⟨some 10, .assign (.tmp 67), 30, none⟩]
@[go_sem] def c13_18 : Cmd := .block 3 c13_17
@[go_sem] def c13_19 : Cmd := .ops [⟨some 59, .move (.tmp 11), 3, none⟩,
    ⟨some 60, .binOp .add 3 (.tmp 59) (.const (.int .i64 1)) 3, 3, none⟩,
    ⟨some 11, .assign (.tmp 60), 3, none⟩]
def c13_L0 : Cmd := (.seq (.seq c13_15 c13_16) (.seq c13_18 c13_19))
@[go_sem] def c13_20 : Cmd := .loop c13_L0
@[go_sem] def c13_21 : Cmd := .block 2 c13_20
@[go_sem] def c13_22 : Cmd := .ops [⟨some 68, .move (.tmp 8), 31, none⟩,
    ⟨some 69, .move (.tmp 10), 30, none⟩,
    ⟨some 70, .buildSlice 31 1 #[(0, (.tmp 69))], 31, none⟩,
    ⟨some 71, .call { callee := (.builtin .append), args := #[(.tmp 68), (.tmp 70)], argTypes := #[31, 31] }, 31, none⟩,
    ⟨some 8, .assign (.tmp 71), 31, none⟩]
@[go_sem] def c13_23 : Cmd := .block 1 (.seq c13_13 (.seq (.seq c13_14 c13_21) c13_22))
@[go_sem] def c13_24 : Cmd := .ops [⟨some 45, .move (.tmp 9), 3, none⟩,
    ⟨some 46, .binOp .add 3 (.tmp 45) (.const (.int .i64 200)) 3, 3, none⟩,
    ⟨some 9, .assign (.tmp 46), 3, none⟩]
def c13_L1 : Cmd := (.seq (.seq c13_11 c13_12) (.seq c13_23 c13_24))
@[go_sem] def c13_25 : Cmd := .loop c13_L1
@[go_sem] def c13_26 : Cmd := .block 0 c13_25
@[go_sem] def c13_27 : Cmd := .ops [⟨some 72, .fieldAddr 28 (.tmp 3) 2, 0, none⟩,
    ⟨some 73, .load 26 (.tmp 72), 26, none⟩,
    ⟨some 74, .call { callee := (.builtin .len), args := #[(.tmp 73)], argTypes := #[26] }, 3, none⟩,
    ⟨some 75, .binOp .gtr 3 (.tmp 74) (.const (.int .i64 0)) 3, 4, none⟩]
@[go_sem] def c13_28 : Cmd := .ops [⟨some 12, .assign (.const (.slice none 0 0)), 30, none⟩]
@[go_sem] def c13_29 : Cmd := .ops [⟨some 13, .assign (.const (.int .i64 0)), 3, none⟩]
@[go_sem] def c13_30 : Cmd := .ops [⟨some 76, .move (.tmp 13), 3, none⟩,
    ⟨some 77, .fieldAddr 28 (.tmp 3) 2, 0, none⟩,
    ⟨some 78, .load 26 (.tmp 77), 26, none⟩,
    ⟨some 79, .call { callee := (.builtin .len), args := #[(.tmp 78)], argTypes := #[26] }, 3, none⟩,
    ⟨some 80, .binOp .lss 3 (.tmp 76) (.tmp 79) 3, 4, none⟩]
@[go_sem] def c13_31 : Cmd := .cond (.tmp 80) .skip (.exit 4)
@[go_sem] def c13_32 : Cmd := .ops [⟨some 14, .assign (.const (.int .u8 0)), 5, none⟩]
@[go_sem] def c13_33 : Cmd := .ops [⟨some 83, .fieldAddr 28 (.tmp 3) 2, 0, none⟩,
    ⟨some 84, .load 26 (.tmp 83), 26, none⟩,
    ⟨some 85, .move (.tmp 13), 3, none⟩,
    ⟨some 86, .indexAddr 26 (.tmp 84) (.tmp 85), 0, none⟩,
    ⟨some 87, .load 4 (.tmp 86), 4, none⟩]
@[go_sem] def c13_34 : Cmd := .ops [⟨some 14, .assign (.const (.int .u8 1)), 5, none⟩]
@[go_sem] def c13_35 : Cmd := .cond (.tmp 87) c13_34 .skip
@[go_sem] def c13_36 : Cmd := .ops [⟨some 88, .move (.tmp 12), 30, none⟩,
    ⟨some 89, .move (.tmp 14), 5, none⟩,
    ⟨some 90, .buildSlice 30 1 #[(0, (.tmp 89))], 30, none⟩,
    ⟨some 91, .call { callee := (.builtin .append), args := #[(.tmp 88), (.tmp 90)], argTypes := #[30, 30] }, 30, none⟩,
    ⟨some 12, .assign (.tmp 91), 30, none⟩]
@[go_sem] def c13_37 : Cmd := .block 5 (.seq c13_32 (.seq (.seq c13_33 c13_35) c13_36))
@[go_sem] def c13_38 : Cmd := .ops [⟨some 81, .move (.tmp 13), 3, none⟩,
    ⟨some 82, .binOp .add 3 (.tmp 81) (.const (.int .i64 1)) 3, 3, none⟩,
    ⟨some 13, .assign (.tmp 82), 3, none⟩]
def c13_L2 : Cmd := (.seq (.seq c13_30 c13_31) (.seq c13_37 c13_38))
@[go_sem] def c13_39 : Cmd := .loop c13_L2
@[go_sem] def c13_40 : Cmd := .block 4 c13_39
@[go_sem] def c13_41 : Cmd := .ops [⟨some 92, .move (.tmp 8), 31, none⟩,
    ⟨some 93, .move (.tmp 12), 30, none⟩,
    ⟨some 94, .buildSlice 31 1 #[(0, (.tmp 93))], 31, none⟩,
    ⟨some 95, .call { callee := (.builtin .append), args := #[(.tmp 92), (.tmp 94)], argTypes := #[31, 31] }, 31, none⟩,
    ⟨some 8, .assign (.tmp 95), 31, none⟩]
@[go_sem] def c13_42 : Cmd := .cond (.tmp 75) (.seq c13_28 (.seq (.seq c13_29 c13_40) c13_41)) .skip
@[go_sem] def c13_43 : Cmd := .ops [⟨some 96, .move (.tmp 7), 30, none⟩,
    ⟨some 97, .move (.tmp 8), 31, none⟩,
    ⟨some 4, .assign (.tmp 96), 30, none⟩,
    ⟨some 5, .assign (.tmp 97), 31, none⟩,
    ⟨some 6, .assign (.const (.int .i64 0)), 3, none⟩]
@[go_sem] def c13 : Cmd := (.seq c13_0 (.seq (.seq c13_1 c13_3) (.seq c13_4 (.seq c13_5 (.seq c13_6 (.seq c13_7 (.seq c13_8 (.seq c13_9 (.seq (.seq c13_10 c13_26) (.seq (.seq c13_27 c13_42) (.seq c13_43 .ret)))))))))))
theorem b13 : Tryd.f13.body.map (comp 98) = some c13 := by kernel_rfl
theorem r13 : Tryd.f13.results.toList = [.tmp 4, .tmp 5, .tmp 6] := by kernel_rfl
-- 14 pith/pithref.SameBytes
@[go_sem] def c14_0 : Cmd := .ops [⟨some 4, .assign (.const (.bool false)), 4, none⟩]
@[go_sem] def c14_1 : Cmd := .ops [⟨some 5, .move (.tmp 0), 30, none⟩,
    ⟨some 6, .convert 30 9 (.tmp 5), 9, none⟩,
    ⟨some 7, .move (.tmp 1), 30, none⟩,
    ⟨some 8, .convert 30 9 (.tmp 7), 9, none⟩,
    ⟨some 9, .binOp .eql 9 (.tmp 6) (.tmp 8) 9, 4, none⟩,
    ⟨some 4, .assign (.tmp 9), 4, none⟩]
@[go_sem] def c14 : Cmd := (.seq c14_0 (.seq c14_1 .ret))
theorem b14 : Tryd.f14.body.map (comp 10) = some c14 := by kernel_rfl
theorem r14 : Tryd.f14.results.toList = [.tmp 4] := by kernel_rfl
-- 15 pith/pithref.SameByteLists
@[go_sem] def c15_0 : Cmd := .ops [⟨some 4, .assign (.const (.bool false)), 4, none⟩]
@[go_sem] def c15_1 : Cmd := .ops [⟨some 7, .move (.tmp 0), 31, none⟩,
    ⟨some 8, .call { callee := (.builtin .len), args := #[(.tmp 7)], argTypes := #[31] }, 3, none⟩,
    ⟨some 9, .move (.tmp 1), 31, none⟩,
    ⟨some 10, .call { callee := (.builtin .len), args := #[(.tmp 9)], argTypes := #[31] }, 3, none⟩,
    ⟨some 11, .binOp .neq 3 (.tmp 8) (.tmp 10) 3, 4, none⟩]
@[go_sem] def c15_2 : Cmd := .ops [⟨some 4, .assign (.const (.bool false)), 4, none⟩]
@[go_sem] def c15_3 : Cmd := .cond (.tmp 11) (.seq c15_2 .ret) .skip
@[go_sem] def c15_4 : Cmd := .ops [⟨some 5, .assign (.const (.int .i64 0)), 3, none⟩]
@[go_sem] def c15_5 : Cmd := .ops [⟨some 12, .move (.tmp 5), 3, none⟩,
    ⟨some 13, .move (.tmp 0), 31, none⟩,
    ⟨some 14, .call { callee := (.builtin .len), args := #[(.tmp 13)], argTypes := #[31] }, 3, none⟩,
    ⟨some 15, .binOp .lss 3 (.tmp 12) (.tmp 14) 3, 4, none⟩]
@[go_sem] def c15_6 : Cmd := .cond (.tmp 15) .skip (.exit 0)
@[go_sem] def c15_7 : Cmd := .quiet [⟨some 18, .move (.tmp 0), 31, none⟩,
    ⟨some 19, .move (.tmp 5), 3, none⟩,
    ⟨some 20, .indexAddr 31 (.tmp 18) (.tmp 19), 0, none⟩,
    ⟨some 21, .load 30 (.tmp 20), 30, none⟩,
    ⟨some 22, .move (.tmp 1), 31, none⟩,
    ⟨some 23, .move (.tmp 5), 3, none⟩,
    ⟨some 24, .indexAddr 31 (.tmp 22) (.tmp 23), 0, none⟩,
    ⟨some 25, .load 30 (.tmp 24), 30, none⟩,
    ⟨some 26, .call { callee := (.value (.func 14)), args := #[(.tmp 21), (.tmp 25)], argTypes := #[30, 30] }, 4, none⟩,
    ⟨some 6, .assign (.tmp 26), 4, none⟩]
@[go_sem] def c15_8 : Cmd := .ops [⟨some 27, .move (.tmp 6), 4, none⟩,
    ⟨some 28, .unOp .not 4 (.tmp 27), 4, none⟩]
@[go_sem] def c15_9 : Cmd := .ops [⟨some 4, .assign (.const (.bool false)), 4, none⟩]
@[go_sem] def c15_10 : Cmd := .cond (.tmp 28) (.seq c15_9 .ret) .skip
@[go_sem] def c15_11 : Cmd := .block 1 (.seq c15_7 (.seq c15_8 c15_10))
@[go_sem] def c15_12 : Cmd := .ops [⟨some 16, .move (.tmp 5), 3, none⟩,
    ⟨some 17, .binOp .add 3 (.tmp 16) (.const (.int .i64 1)) 3, 3, none⟩,
    ⟨some 5, .assign (.tmp 17), 3, none⟩]
def c15_L0 : Cmd := (.seq (.seq c15_5 c15_6) (.seq c15_11 c15_12))
@[go_sem] def c15_13 : Cmd := .loop c15_L0
@[go_sem] def c15_14 : Cmd := .block 0 c15_13
@[go_sem] def c15_15 : Cmd := .ops [⟨some 4, .assign (.const (.bool true)), 4, none⟩]
@[go_sem] def c15 : Cmd := (.seq c15_0 (.seq (.seq c15_1 c15_3) (.seq (.seq c15_4 c15_14) (.seq c15_15 .ret))))
theorem b15 : Tryd.f15.body.map (comp 29) = some c15 := by kernel_rfl
theorem r15 : Tryd.f15.results.toList = [.tmp 4] := by kernel_rfl
-- 16 pith/pithlaw18.num
@[go_sem] def c16_0 : Cmd := .ops [⟨some 2, .assign (.const (.int .i64 0)), 3, none⟩]
@[go_sem] def c16_1 : Cmd := .ops [⟨some 3, .move (.tmp 0), 32, none⟩,
    ⟨some 2, .assign (.tmp 3), 3, none⟩]
@[go_sem] def c16 : Cmd := (.seq c16_0 (.seq c16_1 .ret))
theorem b16 : Tryd.f16.body.map (comp 4) = some c16 := by kernel_rfl
theorem r16 : Tryd.f16.results.toList = [.tmp 2] := by kernel_rfl
-- 17 pith/pithlaw18.short
@[go_sem] def c17_0 : Cmd := .ops [⟨some 2, .assign (.const (.bool false)), 4, none⟩]
@[go_sem] def c17_1 : Cmd := .ops [⟨some 3, .assign (.const (.int .i64 0)), 3, none⟩]
@[go_sem] def c17_2 : Cmd := .ops [⟨some 4, .assign (.const (.int .i64 0)), 3, none⟩]
@[go_sem] def c17_3 : Cmd := .ops [⟨some 5, .move (.tmp 4), 3, none⟩,
    ⟨some 6, .move (.tmp 0), 31, none⟩,
    ⟨some 7, .call { callee := (.builtin .len), args := #[(.tmp 6)], argTypes := #[31] }, 3, none⟩,
    ⟨some 8, .binOp .lss 3 (.tmp 5) (.tmp 7) 3, 4, none⟩,
    ⟨some 9, .move (.tmp 8), 4, none⟩,
    ⟨some 10, .move (.tmp 4), 3, some (9, true)⟩,
    ⟨some 11, .binOp .lss 3 (.tmp 10) (.const (.int .i64 100)) 3, 4, some (9, true)⟩,
    ⟨some 12, .pick (.tmp 9) (.tmp 11) (.const (.bool false)), 4, none⟩]
@[go_sem] def c17_4 : Cmd := .cond (.tmp 12) .skip (.exit 0)
@[go_sem] def c17_5 : Cmd := .ops [⟨some 15, .move (.tmp 3), 3, none⟩,
    ⟨some 16, .move (.tmp 0), 31, none⟩,
    ⟨some 17, .move (.tmp 4), 3, none⟩,
    ⟨some 18, .indexAddr 31 (.tmp 16) (.tmp 17), 0, none⟩,
    ⟨some 19, .load 30 (.tmp 18), 30, none⟩,
    ⟨some 20, .call { callee := (.builtin .len), args := #[(.tmp 19)], argTypes := #[30] }, 3, none⟩,
    ⟨some 21, .call { callee := (.builtin .max), args := #[(.tmp 15), (.tmp 20)], argTypes := #[3, 3] }, 3, none⟩,
    ⟨some 3, .assign (.tmp 21), 3, none⟩]
@[go_sem] def c17_6 : Cmd := .block 1 c17_5
@[go_sem] def c17_7 : Cmd := .ops [⟨some 13, .move (.tmp 4), 3, none⟩,
    ⟨some 14, .binOp .add 3 (.tmp 13) (.const (.int .i64 1)) 3, 3, none⟩,
    ⟨some 4, .assign (.tmp 14), 3, none⟩]
def c17_L0 : Cmd := (.seq (.seq c17_3 c17_4) (.seq c17_6 c17_7))
@[go_sem] def c17_8 : Cmd := .loop c17_L0
@[go_sem] def c17_9 : Cmd := .block 0 c17_8
@[go_sem] def c17_10 : Cmd := .ops [⟨some 22, .move (.tmp 0), 31, none⟩,
    ⟨some 23, .call { callee := (.builtin .len), args := #[(.tmp 22)], argTypes := #[31] }, 3, none⟩,
    ⟨some 24, .binOp .lss 3 (.tmp 23) (.const (.int .i64 100)) 3, 4, none⟩,
    ⟨some 25, .move (.tmp 24), 4, none⟩,
    ⟨some 26, .move (.tmp 3), 3, some (25, true)⟩,
    ⟨some 27, .binOp .leq 3 (.tmp 26) (.const (.int .i64 5000)) 3, 4, some (25, true)⟩,
    ⟨some 28, .pick (.tmp 25) (.tmp 27) (.const (.bool false)), 4, none⟩,
    ⟨some 2, .assign (.tmp 28), 4, none⟩]
@[go_sem] def c17 : Cmd := (.seq c17_0 (.seq c17_1 (.seq (.seq c17_2 c17_9) (.seq c17_10 .ret))))
theorem b17 : Tryd.f17.body.map (comp 29) = some c17 := by kernel_rfl
theorem r17 : Tryd.f17.results.toList = [.tmp 2] := by kernel_rfl
-- 18 pith/pithref.Bytes
@[go_sem] def c18_0 : Cmd := .ops [⟨some 2, .assign (.const (.slice none 0 0)), 30, none⟩]
@[go_sem] def c18_1 : Cmd := .ops [⟨some 3, .move (.tmp 0), 30, none⟩,
    ⟨some 4, .call { callee := (.builtin .len), args := #[(.tmp 3)], argTypes := #[30] }, 3, none⟩,
    ⟨some 5, .makeSlice 30 (.const (.int .i64 0)) (.tmp 4), 30, none⟩,
    ⟨some 6, .move (.tmp 0), 30, none⟩,
    ⟨some 7, .call { callee := (.builtin .append), args := #[(.tmp 5), (.tmp 6)], argTypes := #[30, 30] }, 30, none⟩,
    ⟨some 2, .assign (.tmp 7), 30, none⟩]
@[go_sem] def c18 : Cmd := (.seq c18_0 (.seq c18_1 .ret))
theorem b18 : Tryd.f18.body.map (comp 8) = some c18 := by kernel_rfl
theorem r18 : Tryd.f18.results.toList = [.tmp 2] := by kernel_rfl
-- 19 pith/pithref.ByteLists
@[go_sem] def c19_0 : Cmd := .ops [⟨some 2, .assign (.const (.slice none 0 0)), 31, none⟩]
@[go_sem] def c19_1 : Cmd := .ops [⟨some 6, .move (.tmp 0), 31, none⟩,
    ⟨some 7, .call { callee := (.builtin .len), args := #[(.tmp 6)], argTypes := #[31] }, 3, none⟩,
    ⟨some 8, .makeSlice 31 (.const (.int .i64 0)) (.tmp 7), 31, none⟩,
    ⟨some 3, .assign (.tmp 8), 31, none⟩]
@[go_sem] def c19_2 : Cmd := .ops [⟨some 4, .assign (.const (.int .i64 0)), 3, none⟩]
@[go_sem] def c19_3 : Cmd := .ops [⟨some 9, .move (.tmp 4), 3, none⟩,
    ⟨some 10, .move (.tmp 0), 31, none⟩,
    ⟨some 11, .call { callee := (.builtin .len), args := #[(.tmp 10)], argTypes := #[31] }, 3, none⟩,
    ⟨some 12, .binOp .lss 3 (.tmp 9) (.tmp 11) 3, 4, none⟩]
@[go_sem] def c19_4 : Cmd := .cond (.tmp 12) .skip (.exit 0)
@[go_sem] def c19_5 : Cmd := .ops [⟨some 15, .move (.tmp 0), 31, none⟩,
    ⟨some 16, .move (.tmp 4), 3, none⟩,
    ⟨some 17, .indexAddr 31 (.tmp 15) (.tmp 16), 0, none⟩,
    ⟨some 18, .load 30 (.tmp 17), 30, none⟩,
    ⟨some 19, .call { callee := (.value (.func 18)), args := #[(.tmp 18)], argTypes := #[30] }, 30, none⟩,
    ⟨some 5, .assign (.tmp 19), 30, none⟩]
@[go_sem] def c19_6 : Cmd := .ops [⟨some 20, .move (.tmp 3), 31, none⟩,
    ⟨some 21, .move (.tmp 5), 30, none⟩,
    ⟨some 22, .buildSlice 31 1 #[(0, (.tmp 21))], 31, none⟩,
    ⟨some 23, .call { callee := (.builtin .append), args := #[(.tmp 20), (.tmp 22)], argTypes := #[31, 31] }, 31, none⟩,
    ⟨some 3, .assign (.tmp 23), 31, none⟩]
@[go_sem] def c19_7 : Cmd := .block 1 (.seq c19_5 c19_6)
@[go_sem] def c19_8 : Cmd := .ops [⟨some 13, .move (.tmp 4), 3, none⟩,
    ⟨some 14, .binOp .add 3 (.tmp 13) (.const (.int .i64 1)) 3, 3, none⟩,
    ⟨some 4, .assign (.tmp 14), 3, none⟩]
def c19_L0 : Cmd := (.seq (.seq c19_3 c19_4) (.seq c19_7 c19_8))
@[go_sem] def c19_9 : Cmd := .loop c19_L0
@[go_sem] def c19_10 : Cmd := .block 0 c19_9
@[go_sem] def c19_11 : Cmd := .ops [⟨some 24, .move (.tmp 3), 31, none⟩,
    ⟨some 2, .assign (.tmp 24), 31, none⟩]
@[go_sem] def c19 : Cmd := (.seq c19_0 (.seq c19_1 (.seq (.seq c19_2 c19_10) (.seq c19_11 .ret))))
theorem b19 : Tryd.f19.body.map (comp 25) = some c19 := by kernel_rfl
theorem r19 : Tryd.f19.results.toList = [.tmp 2] := by kernel_rfl
-- 20 pith/ckpt.Decode
@[go_sem] def c20_0 : Cmd := .ops [⟨some 6, .alloc 28, 0, none⟩,
    ⟨some 7, .assign (.const (.int .i64 0)), 32, none⟩]
@[go_sem] def c20_1 : Cmd := .ops [⟨some 13, .move (.tmp 1), 30, none⟩,
    ⟨some 14, .call { callee := (.value (.func 32)), args := #[(.tmp 13)], argTypes := #[30] }, 59, none⟩,
    ⟨some 12, .move (.tmp 14), 59, none⟩,
    ⟨some 15, .extract (.tmp 12) 0, 54, none⟩,
    ⟨some 16, .extract (.tmp 12) 1, 4, none⟩,
    ⟨some 8, .alloc 54, 0, none⟩,
    ⟨none, .store 54 (.tmp 8) (.tmp 15), 0, none⟩,
    ⟨some 9, .assign (.tmp 16), 4, none⟩]
@[go_sem] def c20_2 : Cmd := .ops [⟨some 17, .move (.tmp 9), 4, none⟩,
    ⟨some 18, .unOp .not 4 (.tmp 17), 4, none⟩,
    ⟨some 19, .move (.tmp 18), 4, none⟩,
    ⟨some 20, .indexAddr 54 (.tmp 8) (.const (.int .i64 2)), 0, some (19, false)⟩,
    ⟨some 21, .load 3 (.tmp 20), 3, some (19, false)⟩,
    ⟨some 22, .binOp .gtr 3 (.tmp 21) (.const (.int .i64 16777216)) 3, 4, some (19, false)⟩,
    ⟨some 23, .pick (.tmp 19) (.const (.bool true)) (.tmp 22), 4, none⟩,
    ⟨some 24, .move (.tmp 23), 4, none⟩,
    ⟨some 25, .indexAddr 54 (.tmp 8) (.const (.int .i64 2)), 0, some (24, false)⟩,
    ⟨some 26, .load 3 (.tmp 25), 3, some (24, false)⟩,
    ⟨some 27, .move (.tmp 2), 31, some (24, false)⟩,
    ⟨some 28, .call { callee := (.builtin .len), args := #[(.tmp 27)], argTypes := #[31] }, 3, some (24, false)⟩,
    ⟨some 29, .binOp .mul 3 (.tmp 28) (.const (.int .i64 200)) 3, 3, some (24, false)⟩,
    ⟨some 30, .binOp .gtr 3 (.tmp 26) (.tmp 29) 3, 4, some (24, false)⟩,
    ⟨some 31, .pick (.tmp 24) (.const (.bool true)) (.tmp 30), 4, none⟩,
    ⟨some 32, .move (.tmp 31), 4, none⟩,
    ⟨some 33, .indexAddr 54 (.tmp 8) (.const (.int .i64 3)), 0, some (32, false)⟩,
    ⟨some 34, .load 3 (.tmp 33), 3, some (32, false)⟩,
    ⟨some 35, .binOp .gtr 3 (.tmp 34) (.const (.int .i64 1000)) 3, 4, some (32, false)⟩,
    ⟨some 36, .pick (.tmp 32) (.const (.bool true)) (.tmp 35), 4, none⟩]
@[go_sem] def c20_3 : Cmd := .ops [⟨some 37, .build 28 #[], 28, none⟩,
    ⟨none, .store 28 (.tmp 6) (.tmp 37), 0, none⟩,
    ⟨some 7, .assign (.const (.int .i64 90)), 32, none⟩]
@[go_sem] def c20_4 : Cmd := .cond (.tmp 36) (.seq c20_3 .ret) .skip
@[go_sem] def c20_5 : Cmd := .ops [⟨some 38, .indexAddr 54 (.tmp 8) (.const (.int .i64 1)), 0, none⟩,
    ⟨some 39, .load 3 (.tmp 38), 3, none⟩,
    ⟨some 40, .build 28 #[(0, (.tmp 39))], 28, none⟩,
    ⟨some 10, .alloc 28, 0, none⟩,
    ⟨none, .store 28 (.tmp 10) (.tmp 40), 0, none⟩]
@[go_sem] def c20_6 : Cmd := .ops [⟨some 41, .move (.tmp 2), 31, none⟩,
    ⟨some 11, .assign (.tmp 41), 31, none⟩]
@[go_sem] def c20_7 : Cmd := .ops [⟨some 43, .indexAddr 54 (.tmp 8) (.const (.int .i64 2)), 0, none⟩,
    ⟨some 44, .load 3 (.tmp 43), 3, none⟩,
    ⟨some 45, .move (.tmp 11), 31, none⟩,
    ⟨some 46, .call { callee := (.value (.func 33)), args := #[(.tmp 44), (.tmp 45)], argTypes := #[3, 31] }, 61, none⟩,
    ⟨some 42, .move (.tmp 46), 61, none⟩,
    ⟨some 47, .extract (.tmp 42) 0, 25, none⟩,
    ⟨some 48, .extract (.tmp 42) 1, 31, none⟩,
    ⟨some 49, .extract (.tmp 42) 2, 4, none⟩,
    ⟨some 50, .fieldAddr 28 (.tmp 10) 1, 0, none⟩,
    ⟨none, .store 25 (.tmp 50) (.tmp 47), 0, none⟩,
    ⟨some 11, .assign (.tmp 48), 31, none⟩,
    ⟨some 9, .assign (.tmp 49), 4, none⟩]
@[go_sem] def c20_8 : Cmd := .ops [⟨some 51, .move (.tmp 9), 4, none⟩,
    ⟨some 52, .unOp .not 4 (.tmp 51), 4, none⟩]
@[go_sem] def c20_9 : Cmd := .ops [⟨some 53, .build 28 #[], 28, none⟩,
    ⟨none, .store 28 (.tmp 6) (.tmp 53), 0, none⟩,
    ⟨some 7, .assign (.const (.int .i64 90)), 32, none⟩]
@[go_sem] def c20_10 : Cmd := .cond (.tmp 52) (.seq c20_9 .ret) .skip
@[go_sem] def c20_11 : Cmd := .ops [⟨some 55, .indexAddr 54 (.tmp 8) (.const (.int .i64 3)), 0, none⟩,
    ⟨some 56, .load 3 (.tmp 55), 3, none⟩,
    ⟨some 57, .move (.tmp 11), 31, none⟩,
    ⟨some 58, .call { callee := (.value (.func 34)), args := #[(.tmp 56), (.tmp 57)], argTypes := #[3, 31] }, 63, none⟩,
    ⟨some 54, .move (.tmp 58), 63, none⟩,
    ⟨some 59, .extract (.tmp 54) 0, 26, none⟩,
    ⟨some 60, .extract (.tmp 54) 1, 4, none⟩,
    ⟨some 61, .fieldAddr 28 (.tmp 10) 2, 0, none⟩,
    ⟨none, .store 26 (.tmp 61) (.tmp 59), 0, none⟩,
    ⟨some 9, .assign (.tmp 60), 4, none⟩]
@[go_sem] def c20_12 : Cmd := .ops [⟨some 62, .move (.tmp 9), 4, none⟩,
    ⟨some 63, .unOp .not 4 (.tmp 62), 4, none⟩,
    ⟨some 64, .move (.tmp 63), 4, none⟩,
    ⟨some 65, .move (.tmp 0), 3, some (64, false)⟩,
    ⟨some 66, .load 28 (.tmp 10), 28, some (64, false)⟩,
    ⟨some 67, .call { callee := (.value (.func 24)), args := #[(.tmp 65), (.tmp 66)], argTypes := #[3, 28] }, 4, some (64, false)⟩,
    ⟨some 68, .unOp .not 4 (.tmp 67), 4, some (64, false)⟩,
    ⟨some 69, .pick (.tmp 64) (.const (.bool true)) (.tmp 68), 4, none⟩,
    ⟨some 70, .move (.tmp 69), 4, none⟩,
    ⟨some 71, .load 54 (.tmp 8), 54, some (70, false)⟩,
    ⟨some 72, .move (.tmp 0), 3, some (70, false)⟩,
    ⟨some 73, .fieldAddr 28 (.tmp 10) 0, 0, some (70, false)⟩,
    ⟨some 74, .load 3 (.tmp 73), 3, some (70, false)⟩,
    ⟨some 75, .fieldAddr 28 (.tmp 10) 1, 0, some (70, false)⟩,
    ⟨some 76, .load 25 (.tmp 75), 25, some (70, false)⟩,
    ⟨some 77, .call { callee := (.builtin .len), args := #[(.tmp 76)], argTypes := #[25] }, 3, some (70, false)⟩,
    ⟨some 78, .fieldAddr 28 (.tmp 10) 2, 0, some (70, false)⟩,
    ⟨some 79, .load 26 (.tmp 78), 26, some (70, false)⟩,
    ⟨some 80, .call { callee := (.builtin .len), args := #[(.tmp 79)], argTypes := #[26] }, 3, some (70, false)⟩,
    ⟨some 81, .build 54 #[(0, (.tmp 72)), (1, (.tmp 74)), (2, (.tmp 77)), (3, (.tmp 80))], 54, some (70, false)⟩,
    ⟨some 82, .binOp .neq 54 (.tmp 71) (.tmp 81) 54, 4, some (70, false)⟩,
    ⟨some 83, .pick (.tmp 70) (.const (.bool true)) (.tmp 82), 4, none⟩]
@[go_sem] def c20_13 : Cmd := .ops [⟨some 84, .build 28 #[], 28, none⟩,
    ⟨none, .store 28 (.tmp 6) (.tmp 84), 0, none⟩,
    ⟨some 7, .assign (.const (.int .i64 90)), 32, none⟩]
@[go_sem] def c20_14 : Cmd := .cond (.tmp 83) (.seq c20_13 .ret) .skip
@[go_sem] def c20_15 : Cmd := .ops [⟨some 85, .load 28 (.tmp 10), 28, none⟩,
    ⟨none, .store 28 (.tmp 6) (.tmp 85), 0, none⟩,
    ⟨some 7, .assign (.const (.int .i64 0)), 32, none⟩]
@[go_sem] def c20 : Cmd := (.seq c20_0 (.seq c20_1 (.seq (.seq c20_2 c20_4) (.seq c20_5 (.seq c20_6 (.seq (.seq c20_7 (.seq c20_8 c20_10)) (.seq (.seq c20_11 (.seq c20_12 c20_14)) (.seq c20_15 .ret))))))))
theorem b20 : Tryd.f20.body.map (comp 86) = some c20 := by kernel_rfl
theorem r20 : Tryd.f20.results.toList = [.cell 6 28, .tmp 7] := by kernel_rfl
-- 21 pith/pithref18.Decode
@[go_sem] def c21_0 : Cmd := .ops [⟨some 6, .alloc 28, 0, none⟩,
    ⟨some 7, .assign (.const (.int .i64 0)), 3, none⟩]
@[go_sem] def c21_1 : Cmd := .ops [⟨some 20, .move (.tmp 1), 30, none⟩,
    ⟨some 21, .call { callee := (.builtin .len), args := #[(.tmp 20)], argTypes := #[30] }, 3, none⟩,
    ⟨some 22, .binOp .neq 3 (.tmp 21) (.const (.int .i64 16)) 3, 4, none⟩]
@[go_sem] def c21_2 : Cmd := .ops [⟨some 23, .build 28 #[], 28, none⟩,
    ⟨none, .store 28 (.tmp 6) (.tmp 23), 0, none⟩,
    ⟨some 7, .assign (.const (.int .i64 90)), 3, none⟩]
@[go_sem] def c21_3 : Cmd := .cond (.tmp 22) (.seq c21_2 .ret) .skip
@[go_sem] def c21_4 : Cmd := .ops [⟨some 24, .move (.tmp 1), 30, none⟩,
    ⟨some 25, .slice 30 (.tmp 24) (some (.const (.int .i64 8))) (some (.const (.int .i64 12))) none, 30, none⟩,
    ⟨some 26, .call { callee := (.value (.func 35)), args := #[(.tmp 25)], argTypes := #[30] }, 3, none⟩,
    ⟨some 8, .assign (.tmp 26), 3, none⟩]
@[go_sem] def c21_5 : Cmd := .ops [⟨some 27, .move (.tmp 1), 30, none⟩,
    ⟨some 28, .slice 30 (.tmp 27) (some (.const (.int .i64 12))) (some (.const (.int .i64 16))) none, 30, none⟩,
    ⟨some 29, .call { callee := (.value (.func 35)), args := #[(.tmp 28)], argTypes := #[30] }, 3, none⟩,
    ⟨some 9, .assign (.tmp 29), 3, none⟩]
@[go_sem] def c21_6 : Cmd := .ops [⟨some 30, .move (.tmp 8), 3, none⟩,
    ⟨some 31, .binOp .gtr 3 (.tmp 30) (.const (.int .i64 16777216)) 3, 4, none⟩,
    ⟨some 32, .move (.tmp 31), 4, none⟩,
    ⟨some 33, .move (.tmp 9), 3, some (32, false)⟩,
    ⟨some 34, .binOp .gtr 3 (.tmp 33) (.const (.int .i64 1000)) 3, 4, some (32, false)⟩,
    ⟨some 35, .pick (.tmp 32) (.const (.bool true)) (.tmp 34), 4, none⟩,
    ⟨some 36, .move (.tmp 35), 4, none⟩,
    ⟨some 37, .move (.tmp 8), 3, some (36, false)⟩,
    ⟨some 38, .move (.tmp 2), 31, some (36, false)⟩,
    ⟨some 39, .call { callee := (.builtin .len), args := #[(.tmp 38)], argTypes := #[31] }, 3, some (36, false)⟩,
    ⟨some 40, .binOp .mul 3 (.const (.int .i64 200)) (.tmp 39) 3, 3, some (36, false)⟩,
    ⟨some 41, .binOp .gtr 3 (.tmp 37) (.tmp 40) 3, 4, some (36, false)⟩,
    ⟨some 42, .pick (.tmp 36) (.const (.bool true)) (.tmp 41), 4, none⟩]
@[go_sem] def c21_7 : Cmd := .ops [⟨some 43, .build 28 #[], 28, none⟩,
    ⟨none, .store 28 (.tmp 6) (.tmp 43), 0, none⟩,
    ⟨some 7, .assign (.const (.int .i64 90)), 3, none⟩]
@[go_sem] def c21_8 : Cmd := .cond (.tmp 42) (.seq c21_7 .ret) .skip
@[go_sem] def c21_9 : Cmd := .ops [⟨some 45, .move (.tmp 8), 3, none⟩,
    ⟨some 46, .move (.tmp 2), 31, none⟩,
    ⟨some 47, .call { callee := (.value (.func 36)), args := #[(.tmp 45), (.tmp 46)], argTypes := #[3, 31] }, 61, none⟩,
    ⟨some 44, .move (.tmp 47), 61, none⟩,
    ⟨some 48, .extract (.tmp 44) 0, 25, none⟩,
    ⟨some 49, .extract (.tmp 44) 1, 31, none⟩,
    ⟨some 50, .extract (.tmp 44) 2, 4, none⟩,
    ⟨some 10, .assign (.tmp 48), 25, none⟩,
    ⟨some 11, .assign (.tmp 49), 31, none⟩,
    ⟨some 12, .assign (.tmp 50), 4, none⟩]
@[go_sem] def c21_10 : Cmd := .ops [⟨some 51, .move (.tmp 12), 4, none⟩,
    ⟨some 52, .unOp .not 4 (.tmp 51), 4, none⟩,
    ⟨some 53, .move (.tmp 52), 4, none⟩,
    ⟨some 54, .move (.tmp 11), 31, some (53, false)⟩,
    ⟨some 55, .call { callee := (.builtin .len), args := #[(.tmp 54)], argTypes := #[31] }, 3, some (53, false)⟩,
    ⟨some 56, .binOp .gtr 3 (.tmp 55) (.const (.int .i64 1)) 3, 4, some (53, false)⟩,
    ⟨some 57, .pick (.tmp 53) (.const (.bool true)) (.tmp 56), 4, none⟩]
@[go_sem] def c21_11 : Cmd := .ops [⟨some 58, .build 28 #[], 28, none⟩,
    ⟨none, .store 28 (.tmp 6) (.tmp 58), 0, none⟩,
    ⟨some 7, .assign (.const (.int .i64 90)), 3, none⟩]
@[go_sem] def c21_12 : Cmd := .cond (.tmp 57) (.seq c21_11 .ret) .skip
@[go_sem] def c21_13 : Cmd := .ops [⟨some 59, .move (.tmp 1), 30, none⟩,
    ⟨some 60, .slice 30 (.tmp 59) (some (.const (.int .i64 4))) (some (.const (.int .i64 8))) none, 30, none⟩,
    ⟨some 61, .call { callee := (.value (.func 35)), args := #[(.tmp 60)], argTypes := #[30] }, 3, none⟩,
    ⟨some 62, .move (.tmp 10), 25, none⟩,
    ⟨some 63, .build 28 #[(0, (.tmp 61)), (1, (.tmp 62))], 28, none⟩,
    ⟨some 13, .alloc 28, 0, none⟩,
    ⟨none, .store 28 (.tmp 13) (.tmp 63), 0, none⟩]
@[go_sem] def c21_14 : Cmd := .ops [⟨some 64, .move (.tmp 11), 31, none⟩,
    ⟨some 65, .call { callee := (.builtin .len), args := #[(.tmp 64)], argTypes := #[31] }, 3, none⟩,
    ⟨some 66, .binOp .eql 3 (.tmp 65) (.const (.int .i64 1)) 3, 4, none⟩]
@[go_sem] def c21_15 : Cmd := .ops [⟨some 14, .assign (.const (.int .i64 0)), 3, none⟩]
@[go_sem] def c21_16 : Cmd := .ops [⟨some 67, .move (.tmp 14), 3, none⟩,
    ⟨some 68, .move (.tmp 11), 31, none⟩,
    ⟨some 69, .indexAddr 31 (.tmp 68) (.const (.int .i64 0)), 0, none⟩,
    ⟨some 70, .load 30 (.tmp 69), 30, none⟩,
    ⟨some 71, .call { callee := (.builtin .len), args := #[(.tmp 70)], argTypes := #[30] }, 3, none⟩,
    ⟨some 72, .binOp .lss 3 (.tmp 67) (.tmp 71) 3, 4, none⟩]
@[go_sem] def c21_17 : Cmd := .cond (.tmp 72) .skip (.exit 0)
@[go_sem] def c21_18 : Cmd := .draw (.step 3 ⟨some 75, .fieldAddr 28 (.tmp 13) 2, 0, none⟩
    (.step 0 ⟨some 76, .load 26 (.tmp 75), 26, none⟩
    (.step 3 ⟨some 77, .move (.tmp 11), 31, none⟩
    (.step 3 ⟨some 78, .indexAddr 31 (.tmp 77) (.const (.int .i64 0)), 0, none⟩
    (.step 0 ⟨some 79, .load 30 (.tmp 78), 30, none⟩
    (.step 3 ⟨some 80, .move (.tmp 14), 3, none⟩
    (.step 3 ⟨some 81, .indexAddr 30 (.tmp 79) (.tmp 80), 0, none⟩
    (.step 0 ⟨some 82, .load 5 (.tmp 81), 5, none⟩
    (.step 3 ⟨some 83, .binOp .eql 5 (.tmp 82) (.const (.int .u8 1)) 5, 4, none⟩
    (.step 1 ⟨some 84, .buildSlice 26 1 #[(0, (.tmp 83))], 26, none⟩
    (.step 2 ⟨some 85, .call { callee := (.builtin .append), args := #[(.tmp 76), (.tmp 84)], argTypes := #[26, 26] }, 26, none⟩
    (.step 3 ⟨some 86, .fieldAddr 28 (.tmp 13) 2, 0, none⟩
    (.step 2 ⟨none, .store 26 (.tmp 86) (.tmp 85), 0, none⟩
    .done)))))))))))))
@[go_sem] def c21_19 : Cmd := .block 1 c21_18
@[go_sem] def c21_20 : Cmd := .ops [⟨some 73, .move (.tmp 14), 3, none⟩,
    ⟨some 74, .binOp .add 3 (.tmp 73) (.const (.int .i64 1)) 3, 3, none⟩,
    ⟨some 14, .assign (.tmp 74), 3, none⟩]
def c21_L0 : Cmd := (.seq (.seq c21_16 c21_17) (.seq c21_19 c21_20))
@[go_sem] def c21_21 : Cmd := .loop c21_L0
@[go_sem] def c21_22 : Cmd := .block 0 c21_21
@[go_sem] def c21_23 : Cmd := .cond (.tmp 66) (.seq c21_15 c21_22) .skip
@[go_sem] def c21_24 : Cmd := .ops [⟨some 88, .move (.tmp 0), 3, none⟩,
    ⟨some 89, .load 28 (.tmp 13), 28, none⟩,
    ⟨some 90, .call { callee := (.value (.func 13)), args := #[(.tmp 88), (.tmp 89)], argTypes := #[3, 28] }, 36, none⟩,
    ⟨some 87, .move (.tmp 90), 36, none⟩,
    ⟨some 91, .extract (.tmp 87) 0, 30, none⟩,
    ⟨some 92, .extract (.tmp 87) 1, 31, none⟩,
    ⟨some 93, .extract (.tmp 87) 2, 3, none⟩,
    ⟨some 15, .assign (.tmp 91), 30, none⟩,
    ⟨some 16, .assign (.tmp 92), 31, none⟩,
    ⟨some 17, .assign (.tmp 93), 3, none⟩]
@[go_sem] def c21_25 : Cmd := .ops [⟨some 94, .move (.tmp 15), 30, none⟩,
    ⟨some 95, .move (.tmp 1), 30, none⟩,
    ⟨some 96, .call { callee := (.value (.func 14)), args := #[(.tmp 94), (.tmp 95)], argTypes := #[30, 30] }, 4, none⟩,
    ⟨some 18, .assign (.tmp 96), 4, none⟩]
@[go_sem] def c21_26 : Cmd := .ops [⟨some 97, .move (.tmp 16), 31, none⟩,
    ⟨some 98, .move (.tmp 2), 31, none⟩,
    ⟨some 99, .call { callee := (.value (.func 15)), args := #[(.tmp 97), (.tmp 98)], argTypes := #[31, 31] }, 4, none⟩,
    ⟨some 19, .assign (.tmp 99), 4, none⟩]
@[go_sem] def c21_27 : Cmd := .ops [⟨some 100, .move (.tmp 17), 3, none⟩,
    ⟨some 101, .binOp .neq 3 (.tmp 100) (.const (.int .i64 0)) 3, 4, none⟩,
    ⟨some 102, .move (.tmp 101), 4, none⟩,
    ⟨some 103, .move (.tmp 18), 4, some (102, false)⟩,
    ⟨some 104, .unOp .not 4 (.tmp 103), 4, some (102, false)⟩,
    ⟨some 105, .pick (.tmp 102) (.const (.bool true)) (.tmp 104), 4, none⟩,
    ⟨some 106, .move (.tmp 105), 4, none⟩,
    ⟨some 107, .move (.tmp 19), 4, some (106, false)⟩,
    ⟨some 108, .unOp .not 4 (.tmp 107), 4, some (106, false)⟩,
    ⟨some 109, .pick (.tmp 106) (.const (.bool true)) (.tmp 108), 4, none⟩,
    ⟨some 110, .move (.tmp 109), 4, none⟩,
    ⟨some 111, .fieldAddr 28 (.tmp 13) 2, 0, some (110, false)⟩,
    ⟨some 112, .load 26 (.tmp 111), 26, some (110, false)⟩,
    ⟨some 113, .call { callee := (.builtin .len), args := #[(.tmp 112)], argTypes := #[26] }, 3, some (110, false)⟩,
    ⟨some 114, .move (.tmp 9), 3, some (110, false)⟩,
    ⟨some 115, .binOp .neq 3 (.tmp 113) (.tmp 114) 3, 4, some (110, false)⟩,
    ⟨some 116, .pick (.tmp 110) (.const (.bool true)) (.tmp 115), 4, none⟩]
@[go_sem] def c21_28 : Cmd := .ops [⟨some 117, .build 28 #[], 28, none⟩,
    ⟨none, .store 28 (.tmp 6) (.tmp 117), 0, none⟩,
    ⟨some 7, .assign (.const (.int .i64 90)), 3, none⟩]
@[go_sem] def c21_29 : Cmd := .cond (.tmp 116) (.seq c21_28 .ret) .skip
@[go_sem] def c21_30 : Cmd := .ops [⟨some 118, .load 28 (.tmp 13), 28, none⟩,
    ⟨none, .store 28 (.tmp 6) (.tmp 118), 0, none⟩,
    ⟨some 7, .assign (.const (.int .i64 0)), 3, none⟩]
@[go_sem] def c21 : Cmd := (.seq c21_0 (.seq (.seq c21_1 c21_3) (.seq c21_4 (.seq c21_5 (.seq (.seq c21_6 c21_8) (.seq c21_9 (.seq (.seq c21_10 c21_12) (.seq c21_13 (.seq (.seq c21_14 c21_23) (.seq c21_24 (.seq c21_25 (.seq c21_26 (.seq (.seq c21_27 c21_29) (.seq c21_30 .ret))))))))))))))
theorem b21 : Tryd.f21.body.map (comp 119) = some c21 := by kernel_rfl
theorem r21 : Tryd.f21.results.toList = [.cell 6 28, .tmp 7] := by kernel_rfl
-- 22 pith/pithref.SameCheck
@[go_sem] def c22_0 : Cmd := .ops [⟨some 2, .box 28 (.tmp 0), 0, none⟩,
    ⟨some 3, .box 28 (.tmp 1), 0, none⟩,
    ⟨some 4, .assign (.const (.bool false)), 4, none⟩]
@[go_sem] def c22_1 : Cmd := .ops [⟨some 7, .fieldAddr 28 (.tmp 2) 1, 0, none⟩,
    ⟨some 8, .load 25 (.tmp 7), 25, none⟩,
    ⟨some 9, .fieldAddr 28 (.tmp 3) 1, 0, none⟩,
    ⟨some 10, .load 25 (.tmp 9), 25, none⟩,
    ⟨some 11, .call { callee := (.value (.func 37)), args := #[(.tmp 8), (.tmp 10)], argTypes := #[25, 25] }, 4, none⟩,
    ⟨some 5, .assign (.tmp 11), 4, none⟩]
@[go_sem] def c22_2 : Cmd := .ops [⟨some 12, .fieldAddr 28 (.tmp 2) 2, 0, none⟩,
    ⟨some 13, .load 26 (.tmp 12), 26, none⟩,
    ⟨some 14, .fieldAddr 28 (.tmp 3) 2, 0, none⟩,
    ⟨some 15, .load 26 (.tmp 14), 26, none⟩,
    ⟨some 16, .call { callee := (.value (.func 38)), args := #[(.tmp 13), (.tmp 15)], argTypes := #[26, 26] }, 4, none⟩,
    ⟨some 6, .assign (.tmp 16), 4, none⟩]
@[go_sem] def c22_3 : Cmd := .ops [⟨some 17, .move (.tmp 5), 4, none⟩,
    ⟨some 18, .move (.tmp 17), 4, none⟩,
    ⟨some 19, .move (.tmp 6), 4, some (18, true)⟩,
    ⟨some 20, .pick (.tmp 18) (.tmp 19) (.const (.bool false)), 4, none⟩,
    ⟨some 21, .move (.tmp 20), 4, none⟩,
    ⟨some 22, .fieldAddr 28 (.tmp 2) 0, 0, some (21, true)⟩,
    ⟨some 23, .load 3 (.tmp 22), 3, some (21, true)⟩,
    ⟨some 24, .fieldAddr 28 (.tmp 3) 0, 0, some (21, true)⟩,
    ⟨some 25, .load 3 (.tmp 24), 3, some (21, true)⟩,
    ⟨some 26, .binOp .eql 3 (.tmp 23) (.tmp 25) 3, 4, some (21, true)⟩,
    ⟨some 27, .pick (.tmp 21) (.tmp 26) (.const (.bool false)), 4, none⟩,
    ⟨some 4, .assign (.tmp 27), 4, none⟩]
@[go_sem] def c22 : Cmd := (.seq c22_0 (.seq c22_1 (.seq c22_2 (.seq c22_3 .ret))))
theorem b22 : Tryd.f22.body.map (comp 28) = some c22 := by kernel_rfl
theorem r22 : Tryd.f22.results.toList = [.tmp 4] := by kernel_rfl
-- 23 strconv.Itoa
@[go_sem] def c23_0 : Cmd := .ops [⟨some 2, .assign (.const (.string ⟨#[]⟩)), 9, none⟩]
@[go_sem] def c23_1 : Cmd := .ops [⟨some 3, .move (.tmp 0), 3, none⟩,
    ⟨some 4, .call { callee := (.value (.func 39)), args := #[(.tmp 3)], argTypes := #[3] }, 9, none⟩,
    ⟨some 2, .assign (.tmp 4), 9, none⟩]
@[go_sem] def c23 : Cmd := (.seq c23_0 (.seq c23_1 .ret))
theorem b23 : Tryd.f23.body.map (comp 5) = some c23 := by kernel_rfl
theorem r23 : Tryd.f23.results.toList = [.tmp 2] := by kernel_rfl
-- 24 pith/ckpt.may
@[go_sem] def c24_0 : Cmd := .ops [⟨some 3, .box 28 (.tmp 1), 0, none⟩,
    ⟨some 4, .assign (.const (.bool false)), 4, none⟩]
@[go_sem] def c24_1 : Cmd := .ops [⟨some 7, .move (.tmp 0), 3, none⟩,
    ⟨some 8, .binOp .lss 3 (.tmp 7) (.const (.int .i64 1)) 3, 4, none⟩,
    ⟨some 9, .move (.tmp 8), 4, none⟩,
    ⟨some 10, .move (.tmp 0), 3, some (9, false)⟩,
    ⟨some 11, .binOp .gtr 3 (.tmp 10) (.const (.int .i64 2147483647)) 3, 4, some (9, false)⟩,
    ⟨some 12, .pick (.tmp 9) (.const (.bool true)) (.tmp 11), 4, none⟩,
    ⟨some 13, .move (.tmp 12), 4, none⟩,
    ⟨some 14, .fieldAddr 28 (.tmp 3) 0, 0, some (13, false)⟩,
    ⟨some 15, .load 3 (.tmp 14), 3, some (13, false)⟩,
    ⟨some 16, .binOp .lss 3 (.tmp 15) (.const (.int .i64 0)) 3, 4, some (13, false)⟩,
    ⟨some 17, .pick (.tmp 13) (.const (.bool true)) (.tmp 16), 4, none⟩,
    ⟨some 18, .move (.tmp 17), 4, none⟩,
    ⟨some 19, .fieldAddr 28 (.tmp 3) 0, 0, some (18, false)⟩,
    ⟨some 20, .load 3 (.tmp 19), 3, some (18, false)⟩,
    ⟨some 21, .binOp .gtr 3 (.tmp 20) (.const (.int .i64 2147483647)) 3, 4, some (18, false)⟩,
    ⟨some 22, .pick (.tmp 18) (.const (.bool true)) (.tmp 21), 4, none⟩,
    ⟨some 23, .move (.tmp 22), 4, none⟩,
    ⟨some 24, .fieldAddr 28 (.tmp 3) 1, 0, some (23, false)⟩,
    ⟨some 25, .load 25 (.tmp 24), 25, some (23, false)⟩,
    ⟨some 26, .call { callee := (.builtin .len), args := #[(.tmp 25)], argTypes := #[25] }, 3, some (23, false)⟩,
    ⟨some 27, .binOp .gtr 3 (.tmp 26) (.const (.int .i64 16777216)) 3, 4, some (23, false)⟩,
    ⟨some 28, .pick (.tmp 23) (.const (.bool true)) (.tmp 27), 4, none⟩,
    ⟨some 29, .move (.tmp 28), 4, none⟩,
    ⟨some 30, .fieldAddr 28 (.tmp 3) 2, 0, some (29, false)⟩,
    ⟨some 31, .load 26 (.tmp 30), 26, some (29, false)⟩,
    ⟨some 32, .call { callee := (.builtin .len), args := #[(.tmp 31)], argTypes := #[26] }, 3, some (29, false)⟩,
    ⟨some 33, .binOp .gtr 3 (.tmp 32) (.const (.int .i64 1000)) 3, 4, some (29, false)⟩,
    ⟨some 34, .pick (.tmp 29) (.const (.bool true)) (.tmp 33), 4, none⟩]
@[go_sem] def c24_2 : Cmd := .ops [⟨some 4, .assign (.const (.bool false)), 4, none⟩]
@[go_sem] def c24_3 : Cmd := .cond (.tmp 34) (.seq c24_2 .ret) .skip
@[go_sem] def c24_4 : Cmd := .ops [⟨some 35, .fieldAddr 28 (.tmp 3) 1, 0, none⟩,
    ⟨some 36, .load 25 (.tmp 35), 25, none⟩,
    ⟨some 37, .call { callee := (.builtin .len), args := #[(.tmp 36)], argTypes := #[25] }, 3, none⟩,
    ⟨some 38, .move (.const (.int .i64 0)), 3, none⟩]
@[go_sem] def c24_5 : Cmd := .ops [⟨some 39, .binOp .lss 3 (.tmp 38) (.tmp 37) 3, 0, none⟩]
@[go_sem] def c24_6 : Cmd := .cond (.tmp 39) .skip (.exit 0)
@[go_sem] def c24_7 : Cmd := .ops [⟨some 40, .indexAddr 25 (.tmp 36) (.tmp 38), 0, none⟩,
    ⟨some 41, .load 3 (.tmp 40), 3, none⟩,
    ⟨some 6, .assign (.tmp 41), 3, none⟩]
@[go_sem] def c24_8 : Cmd := .ops [⟨some 42, .move (.tmp 6), 3, none⟩,
    ⟨some 43, .binOp .lss 3 (.tmp 42) (.const (.int .i64 0)) 3, 4, none⟩,
    ⟨some 44, .move (.tmp 43), 4, none⟩,
    ⟨some 45, .move (.tmp 6), 3, some (44, false)⟩,
    ⟨some 46, .binOp .geq 3 (.tmp 45) (.const (.int .i64 16777216)) 3, 4, some (44, false)⟩,
    ⟨some 47, .pick (.tmp 44) (.const (.bool true)) (.tmp 46), 4, none⟩]
@[go_sem] def c24_9 : Cmd := .ops [⟨some 4, .assign (.const (.bool false)), 4, none⟩]
@[go_sem] def c24_10 : Cmd := .cond (.tmp 47) (.seq c24_9 .ret) .skip
@[go_sem] def c24_11 : Cmd := .block 1 (.seq c24_7 (.seq c24_8 c24_10))
@[go_sem] def c24_12 : Cmd := .ops [⟨some 48, .binOp .add 3 (.tmp 38) (.const (.int .i64 1)) 3, 3, none⟩,
    ⟨some 38, .move (.tmp 48), 3, none⟩]
def c24_L0 : Cmd := (.seq c24_5 (.seq c24_6 (.seq c24_11 c24_12)))
@[go_sem] def c24_13 : Cmd := .loop c24_L0
@[go_sem] def c24_14 : Cmd := .block 0 c24_13
@[go_sem] def c24_15 : Cmd := .ops [⟨some 4, .assign (.const (.bool true)), 4, none⟩]
@[go_sem] def c24 : Cmd := (.seq c24_0 (.seq (.seq c24_1 c24_3) (.seq (.seq c24_4 c24_14) (.seq c24_15 .ret))))
theorem b24 : Tryd.f24.body.map (comp 49) = some c24 := by kernel_rfl
theorem r24 : Tryd.f24.results.toList = [.tmp 4] := by kernel_rfl
-- 25 pith/varint.Put
@[go_sem] def c25_0 : Cmd := .ops [⟨some 4, .assign (.const (.slice none 0 0)), 30, none⟩]
@[go_sem] def c25_1 : Cmd := .ops [⟨some 5, .move (.tmp 0), 30, none⟩,
    ⟨some 6, .call { callee := (.value (.func 41)), args := #[(.tmp 5), (.const (.int .i64 9))], argTypes := #[30, 3] }, 30, none⟩,
    ⟨some 7, .move (.tmp 1), 3, none⟩,
    ⟨some 8, .call { callee := (.value (.func 40)), args := #[(.tmp 6), (.tmp 7)], argTypes := #[30, 3] }, 30, none⟩,
    ⟨some 4, .assign (.tmp 8), 30, none⟩]
@[go_sem] def c25 : Cmd := (.seq c25_0 (.seq c25_1 .ret))
theorem b25 : Tryd.f25.body.map (comp 9) = some c25 := by kernel_rfl
theorem r25 : Tryd.f25.results.toList = [.tmp 4] := by kernel_rfl
-- 26 (pith/ckpt.numbers).bytes
@[go_sem] def c26_0 : Cmd := .ops [⟨some 1, .box 54 (.tmp 0), 0, none⟩,
    ⟨some 2, .assign (.const (.slice none 0 0)), 30, none⟩]
@[go_sem] def c26_1 : Cmd := .ops [⟨some 3, .assign (.const (.slice none 0 0)), 30, none⟩]
@[go_sem] def c26_2 : Cmd := .ops [⟨some 6, .load 54 (.tmp 1), 54, none⟩,
    ⟨some 7, .move (.const (.int .i64 0)), 3, none⟩]
@[go_sem] def c26_3 : Cmd := .ops [⟨some 8, .binOp .lss 3 (.tmp 7) (.const (.int .i64 4)) 3, 0, none⟩]
@[go_sem] def c26_4 : Cmd := .cond (.tmp 8) .skip (.exit 0)
@[go_sem] def c26_5 : Cmd := .ops [⟨some 9, .index 54 (.tmp 6) (.tmp 7), 3, none⟩,
    ⟨some 5, .assign (.tmp 9), 3, none⟩]
@[go_sem] def c26_6 : Cmd := .ops [⟨some 10, .move (.tmp 3), 30, none⟩,
    ⟨some 11, .move (.tmp 5), 3, none⟩,
    ⟨some 12, .binOp .shr 3 (.tmp 11) (.const (.int .u64 24)) 68, 3, none⟩,
    ⟨some 13, .convert 3 5 (.tmp 12), 5, none⟩,
    ⟨some 14, .move (.tmp 5), 3, none⟩,
    ⟨some 15, .binOp .shr 3 (.tmp 14) (.const (.int .u64 16)) 68, 3, none⟩,
    ⟨some 16, .convert 3 5 (.tmp 15), 5, none⟩,
    ⟨some 17, .move (.tmp 5), 3, none⟩,
    ⟨some 18, .binOp .shr 3 (.tmp 17) (.const (.int .u64 8)) 68, 3, none⟩,
    ⟨some 19, .convert 3 5 (.tmp 18), 5, none⟩,
    ⟨some 20, .move (.tmp 5), 3, none⟩,
    ⟨some 21, .convert 3 5 (.tmp 20), 5, none⟩,
    ⟨some 22, .buildSlice 30 4 #[(0, (.tmp 13)), (1, (.tmp 16)), (2, (.tmp 19)), (3, (.tmp 21))], 30, none⟩,
    ⟨some 23, .call { callee := (.builtin .append), args := #[(.tmp 10), (.tmp 22)], argTypes := #[30, 30] }, 30, none⟩,
    ⟨some 3, .assign (.tmp 23), 30, none⟩]
@[go_sem] def c26_7 : Cmd := .block 1 (.seq c26_5 c26_6)
@[go_sem] def c26_8 : Cmd := .ops [⟨some 24, .binOp .add 3 (.tmp 7) (.const (.int .i64 1)) 3, 3, none⟩,
    ⟨some 7, .move (.tmp 24), 3, none⟩]
def c26_L0 : Cmd := (.seq c26_3 (.seq c26_4 (.seq c26_7 c26_8)))
@[go_sem] def c26_9 : Cmd := .loop c26_L0
@[go_sem] def c26_10 : Cmd := .block 0 c26_9
@[go_sem] def c26_11 : Cmd := .ops [⟨some 25, .move (.tmp 3), 30, none⟩,
    ⟨some 2, .assign (.tmp 25), 30, none⟩]
@[go_sem] def c26 : Cmd := (.seq c26_0 (.seq c26_1 (.seq (.seq c26_2 c26_10) (.seq c26_11 .ret))))
theorem b26 : Tryd.f26.body.map (comp 26) = some c26 := by kernel_rfl
theorem r26 : Tryd.f26.results.toList = [.tmp 2] := by kernel_rfl
-- 27 pith/pithref.Ints
@[go_sem] def c27_0 : Cmd := .ops [⟨some 2, .assign (.const (.slice none 0 0)), 25, none⟩]
@[go_sem] def c27_1 : Cmd := .ops [⟨some 5, .move (.tmp 0), 25, none⟩,
    ⟨some 6, .call { callee := (.builtin .len), args := #[(.tmp 5)], argTypes := #[25] }, 3, none⟩,
    ⟨some 7, .makeSlice 25 (.const (.int .i64 0)) (.tmp 6), 25, none⟩,
    ⟨some 3, .assign (.tmp 7), 25, none⟩]
@[go_sem] def c27_2 : Cmd := .ops [⟨some 4, .assign (.const (.int .i64 0)), 3, none⟩]
@[go_sem] def c27_3 : Cmd := .ops [⟨some 8, .move (.tmp 4), 3, none⟩,
    ⟨some 9, .move (.tmp 0), 25, none⟩,
    ⟨some 10, .call { callee := (.builtin .len), args := #[(.tmp 9)], argTypes := #[25] }, 3, none⟩,
    ⟨some 11, .binOp .lss 3 (.tmp 8) (.tmp 10) 3, 4, none⟩]
@[go_sem] def c27_4 : Cmd := .cond (.tmp 11) .skip (.exit 0)
@[go_sem] def c27_5 : Cmd := .ops [⟨some 14, .move (.tmp 3), 25, none⟩,
    ⟨some 15, .move (.tmp 0), 25, none⟩,
    ⟨some 16, .move (.tmp 4), 3, none⟩,
    ⟨some 17, .indexAddr 25 (.tmp 15) (.tmp 16), 0, none⟩,
    ⟨some 18, .load 3 (.tmp 17), 3, none⟩,
    ⟨some 19, .buildSlice 25 1 #[(0, (.tmp 18))], 25, none⟩,
    ⟨some 20, .call { callee := (.builtin .append), args := #[(.tmp 14), (.tmp 19)], argTypes := #[25, 25] }, 25, none⟩,
    ⟨some 3, .assign (.tmp 20), 25, none⟩]
@[go_sem] def c27_6 : Cmd := .block 1 c27_5
@[go_sem] def c27_7 : Cmd := .ops [⟨some 12, .move (.tmp 4), 3, none⟩,
    ⟨some 13, .binOp .add 3 (.tmp 12) (.const (.int .i64 1)) 3, 3, none⟩,
    ⟨some 4, .assign (.tmp 13), 3, none⟩]
def c27_L0 : Cmd := (.seq (.seq c27_3 c27_4) (.seq c27_6 c27_7))
@[go_sem] def c27_8 : Cmd := .loop c27_L0
@[go_sem] def c27_9 : Cmd := .block 0 c27_8
@[go_sem] def c27_10 : Cmd := .ops [⟨some 21, .move (.tmp 3), 25, none⟩,
    ⟨some 2, .assign (.tmp 21), 25, none⟩]
@[go_sem] def c27 : Cmd := (.seq c27_0 (.seq c27_1 (.seq (.seq c27_2 c27_9) (.seq c27_10 .ret))))
theorem b27 : Tryd.f27.body.map (comp 22) = some c27 := by kernel_rfl
theorem r27 : Tryd.f27.results.toList = [.tmp 2] := by kernel_rfl
-- 28 pith/pithref.Bools
@[go_sem] def c28_0 : Cmd := .ops [⟨some 2, .assign (.const (.slice none 0 0)), 26, none⟩]
@[go_sem] def c28_1 : Cmd := .ops [⟨some 5, .move (.tmp 0), 26, none⟩,
    ⟨some 6, .call { callee := (.builtin .len), args := #[(.tmp 5)], argTypes := #[26] }, 3, none⟩,
    ⟨some 7, .makeSlice 26 (.const (.int .i64 0)) (.tmp 6), 26, none⟩,
    ⟨some 3, .assign (.tmp 7), 26, none⟩]
@[go_sem] def c28_2 : Cmd := .ops [⟨some 4, .assign (.const (.int .i64 0)), 3, none⟩]
@[go_sem] def c28_3 : Cmd := .ops [⟨some 8, .move (.tmp 4), 3, none⟩,
    ⟨some 9, .move (.tmp 0), 26, none⟩,
    ⟨some 10, .call { callee := (.builtin .len), args := #[(.tmp 9)], argTypes := #[26] }, 3, none⟩,
    ⟨some 11, .binOp .lss 3 (.tmp 8) (.tmp 10) 3, 4, none⟩]
@[go_sem] def c28_4 : Cmd := .cond (.tmp 11) .skip (.exit 0)
@[go_sem] def c28_5 : Cmd := .ops [⟨some 14, .move (.tmp 3), 26, none⟩,
    ⟨some 15, .move (.tmp 0), 26, none⟩,
    ⟨some 16, .move (.tmp 4), 3, none⟩,
    ⟨some 17, .indexAddr 26 (.tmp 15) (.tmp 16), 0, none⟩,
    ⟨some 18, .load 4 (.tmp 17), 4, none⟩,
    ⟨some 19, .buildSlice 26 1 #[(0, (.tmp 18))], 26, none⟩,
    ⟨some 20, .call { callee := (.builtin .append), args := #[(.tmp 14), (.tmp 19)], argTypes := #[26, 26] }, 26, none⟩,
    ⟨some 3, .assign (.tmp 20), 26, none⟩]
@[go_sem] def c28_6 : Cmd := .block 1 c28_5
@[go_sem] def c28_7 : Cmd := .ops [⟨some 12, .move (.tmp 4), 3, none⟩,
    ⟨some 13, .binOp .add 3 (.tmp 12) (.const (.int .i64 1)) 3, 3, none⟩,
    ⟨some 4, .assign (.tmp 13), 3, none⟩]
def c28_L0 : Cmd := (.seq (.seq c28_3 c28_4) (.seq c28_6 c28_7))
@[go_sem] def c28_8 : Cmd := .loop c28_L0
@[go_sem] def c28_9 : Cmd := .block 0 c28_8
@[go_sem] def c28_10 : Cmd := .ops [⟨some 21, .move (.tmp 3), 26, none⟩,
    ⟨some 2, .assign (.tmp 21), 26, none⟩]
@[go_sem] def c28 : Cmd := (.seq c28_0 (.seq c28_1 (.seq (.seq c28_2 c28_9) (.seq c28_10 .ret))))
theorem b28 : Tryd.f28.body.map (comp 22) = some c28 := by kernel_rfl
theorem r28 : Tryd.f28.results.toList = [.tmp 2] := by kernel_rfl
-- 29 pith/pithref18.may
@[go_sem] def c29_0 : Cmd := .ops [⟨some 3, .box 28 (.tmp 1), 0, none⟩,
    ⟨some 4, .assign (.const (.bool false)), 4, none⟩]
@[go_sem] def c29_1 : Cmd := .ops [⟨some 6, .move (.tmp 0), 3, none⟩,
    ⟨some 7, .binOp .lss 3 (.tmp 6) (.const (.int .i64 1)) 3, 4, none⟩,
    ⟨some 8, .move (.tmp 7), 4, none⟩,
    ⟨some 9, .move (.tmp 0), 3, some (8, false)⟩,
    ⟨some 10, .binOp .gtr 3 (.tmp 9) (.const (.int .i64 2147483647)) 3, 4, some (8, false)⟩,
    ⟨some 11, .pick (.tmp 8) (.const (.bool true)) (.tmp 10), 4, none⟩,
    ⟨some 12, .move (.tmp 11), 4, none⟩,
    ⟨some 13, .fieldAddr 28 (.tmp 3) 0, 0, some (12, false)⟩,
    ⟨some 14, .load 3 (.tmp 13), 3, some (12, false)⟩,
    ⟨some 15, .binOp .lss 3 (.tmp 14) (.const (.int .i64 0)) 3, 4, some (12, false)⟩,
    ⟨some 16, .pick (.tmp 12) (.const (.bool true)) (.tmp 15), 4, none⟩,
    ⟨some 17, .move (.tmp 16), 4, none⟩,
    ⟨some 18, .fieldAddr 28 (.tmp 3) 0, 0, some (17, false)⟩,
    ⟨some 19, .load 3 (.tmp 18), 3, some (17, false)⟩,
    ⟨some 20, .binOp .gtr 3 (.tmp 19) (.const (.int .i64 2147483647)) 3, 4, some (17, false)⟩,
    ⟨some 21, .pick (.tmp 17) (.const (.bool true)) (.tmp 20), 4, none⟩,
    ⟨some 22, .move (.tmp 21), 4, none⟩,
    ⟨some 23, .fieldAddr 28 (.tmp 3) 1, 0, some (22, false)⟩,
    ⟨some 24, .load 25 (.tmp 23), 25, some (22, false)⟩,
    ⟨some 25, .call { callee := (.builtin .len), args := #[(.tmp 24)], argTypes := #[25] }, 3, some (22, false)⟩,
    ⟨some 26, .binOp .gtr 3 (.tmp 25) (.const (.int .i64 16777216)) 3, 4, some (22, false)⟩,
    ⟨some 27, .pick (.tmp 22) (.const (.bool true)) (.tmp 26), 4, none⟩,
    ⟨some 28, .move (.tmp 27), 4, none⟩,
    ⟨some 29, .fieldAddr 28 (.tmp 3) 2, 0, some (28, false)⟩,
    ⟨some 30, .load 26 (.tmp 29), 26, some (28, false)⟩,
    ⟨some 31, .call { callee := (.builtin .len), args := #[(.tmp 30)], argTypes := #[26] }, 3, some (28, false)⟩,
    ⟨some 32, .binOp .gtr 3 (.tmp 31) (.const (.int .i64 1000)) 3, 4, some (28, false)⟩,
    ⟨some 33, .pick (.tmp 28) (.const (.bool true)) (.tmp 32), 4, none⟩]
@[go_sem] def c29_2 : Cmd := .ops [⟨some 4, .assign (.const (.bool false)), 4, none⟩]
@[go_sem] def c29_3 : Cmd := .cond (.tmp 33) (.seq c29_2 .ret) .skip
@[go_sem] def c29_4 : Cmd := .ops [⟨some 5, .assign (.const (.int .i64 0)), 3, none⟩]
@[go_sem] def c29_5 : Cmd := .ops [⟨some 34, .move (.tmp 5), 3, none⟩,
    ⟨some 35, .fieldAddr 28 (.tmp 3) 1, 0, none⟩,
    ⟨some 36, .load 25 (.tmp 35), 25, none⟩,
    ⟨some 37, .call { callee := (.builtin .len), args := #[(.tmp 36)], argTypes := #[25] }, 3, none⟩,
    ⟨some 38, .binOp .lss 3 (.tmp 34) (.tmp 37) 3, 4, none⟩]
@[go_sem] def c29_6 : Cmd := .cond (.tmp 38) .skip (.exit 0)
@[go_sem] def c29_7 : Cmd := .ops [⟨some 41, .fieldAddr 28 (.tmp 3) 1, 0, none⟩,
    ⟨some 42, .load 25 (.tmp 41), 25, none⟩,
    ⟨some 43, .move (.tmp 5), 3, none⟩,
    ⟨some 44, .indexAddr 25 (.tmp 42) (.tmp 43), 0, none⟩,
    ⟨some 45, .load 3 (.tmp 44), 3, none⟩,
    ⟨some 46, .binOp .lss 3 (.tmp 45) (.const (.int .i64 0)) 3, 4, none⟩,
    ⟨some 47, .move (.tmp 46), 4, none⟩,
    ⟨some 48, .fieldAddr 28 (.tmp 3) 1, 0, some (47, false)⟩,
    ⟨some 49, .load 25 (.tmp 48), 25, some (47, false)⟩,
    ⟨some 50, .move (.tmp 5), 3, some (47, false)⟩,
    ⟨some 51, .indexAddr 25 (.tmp 49) (.tmp 50), 0, some (47, false)⟩,
    ⟨some 52, .load 3 (.tmp 51), 3, some (47, false)⟩,
    ⟨some 53, .binOp .geq 3 (.tmp 52) (.const (.int .i64 16777216)) 3, 4, some (47, false)⟩,
    ⟨some 54, .pick (.tmp 47) (.const (.bool true)) (.tmp 53), 4, none⟩]
@[go_sem] def c29_8 : Cmd := .ops [⟨some 4, .assign (.const (.bool false)), 4, none⟩]
@[go_sem] def c29_9 : Cmd := .cond (.tmp 54) (.seq c29_8 .ret) .skip
@[go_sem] def c29_10 : Cmd := .block 1 (.seq c29_7 c29_9)
@[go_sem] def c29_11 : Cmd := .ops [⟨some 39, .move (.tmp 5), 3, none⟩,
    ⟨some 40, .binOp .add 3 (.tmp 39) (.const (.int .i64 1)) 3, 3, none⟩,
    ⟨some 5, .assign (.tmp 40), 3, none⟩]
def c29_L0 : Cmd := (.seq (.seq c29_5 c29_6) (.seq c29_10 c29_11))
@[go_sem] def c29_12 : Cmd := .loop c29_L0
@[go_sem] def c29_13 : Cmd := .block 0 c29_12
@[go_sem] def c29_14 : Cmd := .ops [⟨some 4, .assign (.const (.bool true)), 4, none⟩]
@[go_sem] def c29 : Cmd := (.seq c29_0 (.seq (.seq c29_1 c29_3) (.seq (.seq c29_4 c29_13) (.seq c29_14 .ret))))
theorem b29 : Tryd.f29.body.map (comp 55) = some c29 := by kernel_rfl
theorem r29 : Tryd.f29.results.toList = [.tmp 4] := by kernel_rfl
-- 30 pith/pithref18.four
@[go_sem] def c30_0 : Cmd := .ops [⟨some 2, .assign (.const (.slice none 0 0)), 30, none⟩]
@[go_sem] def c30_1 : Cmd := .ops [⟨some 4, .move (.tmp 0), 3, none⟩,
    ⟨some 5, .convert 3 69 (.tmp 4), 69, none⟩,
    ⟨some 3, .assign (.tmp 5), 69, none⟩]
@[go_sem] def c30_2 : Cmd := .ops [⟨some 6, .move (.tmp 3), 69, none⟩,
    ⟨some 7, .binOp .shr 69 (.tmp 6) (.const (.int .u64 24)) 68, 69, none⟩,
    ⟨some 8, .convert 69 5 (.tmp 7), 5, none⟩,
    ⟨some 9, .move (.tmp 3), 69, none⟩,
    ⟨some 10, .binOp .shr 69 (.tmp 9) (.const (.int .u64 16)) 68, 69, none⟩,
    ⟨some 11, .convert 69 5 (.tmp 10), 5, none⟩,
    ⟨some 12, .move (.tmp 3), 69, none⟩,
    ⟨some 13, .binOp .shr 69 (.tmp 12) (.const (.int .u64 8)) 68, 69, none⟩,
    ⟨some 14, .convert 69 5 (.tmp 13), 5, none⟩,
    ⟨some 15, .move (.tmp 3), 69, none⟩,
    ⟨some 16, .convert 69 5 (.tmp 15), 5, none⟩,
    ⟨some 17, .buildSlice 30 4 #[(0, (.tmp 8)), (1, (.tmp 11)), (2, (.tmp 14)), (3, (.tmp 16))], 30, none⟩,
    ⟨some 2, .assign (.tmp 17), 30, none⟩]
@[go_sem] def c30 : Cmd := (.seq c30_0 (.seq c30_1 (.seq c30_2 .ret)))
theorem b30 : Tryd.f30.body.map (comp 18) = some c30 := by kernel_rfl
theorem r30 : Tryd.f30.results.toList = [.tmp 2] := by kernel_rfl
-- 31 pith/pithref1.Put
@[go_sem] def c31_0 : Cmd := .ops [⟨some 4, .assign (.const (.slice none 0 0)), 30, none⟩]
@[go_sem] def c31_1 : Cmd := .ops [⟨some 9, .move (.tmp 1), 3, none⟩,
    ⟨some 10, .binOp .lss 3 (.tmp 9) (.const (.int .i64 0)) 3, 4, none⟩]
@[go_sem] def c31_2 : Cmd := .ops [⟨some 1, .assign (.const (.int .i64 0)), 3, none⟩]
@[go_sem] def c31_3 : Cmd := .cond (.tmp 10) c31_2 .skip
@[go_sem] def c31_4 : Cmd := .ops [⟨some 11, .move (.tmp 1), 3, none⟩,
    ⟨some 12, .call { callee := (.value (.func 42)), args := #[(.tmp 11)], argTypes := #[3] }, 3, none⟩,
    ⟨some 5, .assign (.tmp 12), 3, none⟩]
@[go_sem] def c31_5 : Cmd := .ops [⟨some 13, .move (.tmp 0), 30, none⟩,
    ⟨some 14, .call { callee := (.value (.func 18)), args := #[(.tmp 13)], argTypes := #[30] }, 30, none⟩,
    ⟨some 6, .assign (.tmp 14), 30, none⟩]
@[go_sem] def c31_6 : Cmd := .ops [⟨some 15, .move (.tmp 5), 3, none⟩,
    ⟨some 16, .binOp .sub 3 (.tmp 15) (.const (.int .i64 1)) 3, 3, none⟩,
    ⟨some 7, .assign (.tmp 16), 3, none⟩]
@[go_sem] def c31_7 : Cmd := .ops [⟨some 17, .move (.tmp 7), 3, none⟩,
    ⟨some 18, .binOp .geq 3 (.tmp 17) (.const (.int .i64 0)) 3, 4, none⟩]
@[go_sem] def c31_8 : Cmd := .cond (.tmp 18) .skip (.exit 0)
@[go_sem] def c31_9 : Cmd := .ops [⟨some 21, .move (.tmp 1), 3, none⟩,
    ⟨some 22, .move (.tmp 7), 3, none⟩,
    ⟨some 23, .convert 3 68 (.tmp 22), 68, none⟩,
    ⟨some 24, .binOp .mul 68 (.const (.int .u64 7)) (.tmp 23) 68, 68, none⟩,
    ⟨some 25, .binOp .shr 3 (.tmp 21) (.tmp 24) 68, 3, none⟩,
    ⟨some 26, .binOp .and 3 (.tmp 25) (.const (.int .i64 127)) 3, 3, none⟩,
    ⟨some 27, .convert 3 5 (.tmp 26), 5, none⟩,
    ⟨some 8, .assign (.tmp 27), 5, none⟩]
@[go_sem] def c31_10 : Cmd := .ops [⟨some 28, .move (.tmp 7), 3, none⟩,
    ⟨some 29, .binOp .gtr 3 (.tmp 28) (.const (.int .i64 0)) 3, 4, none⟩]
@[go_sem] def c31_11 : Cmd := .ops [⟨some 30, .move (.tmp 8), 5, none⟩,
    ⟨some 31, .binOp .add 5 (.tmp 30) (.const (.int .u8 128)) 5, 5, none⟩,
    ⟨some 8, .assign (.tmp 31), 5, none⟩]
@[go_sem] def c31_12 : Cmd := .cond (.tmp 29) c31_11 .skip
@[go_sem] def c31_13 : Cmd := .ops [⟨some 32, .move (.tmp 6), 30, none⟩,
    ⟨some 33, .move (.tmp 8), 5, none⟩,
    ⟨some 34, .buildSlice 30 1 #[(0, (.tmp 33))], 30, none⟩,
    ⟨some 35, .call { callee := (.builtin .append), args := #[(.tmp 32), (.tmp 34)], argTypes := #[30, 30] }, 30, none⟩,
    ⟨some 6, .assign (.tmp 35), 30, none⟩]
@[go_sem] def c31_14 : Cmd := .block 1 (.seq c31_9 (.seq (.seq c31_10 c31_12) c31_13))
@[go_sem] def c31_15 : Cmd := .ops [⟨some 19, .move (.tmp 7), 3, none⟩,
    ⟨some 20, .binOp .sub 3 (.tmp 19) (.const (.int .i64 1)) 3, 3, none⟩,
    ⟨some 7, .assign (.tmp 20), 3, none⟩]
def c31_L0 : Cmd := (.seq (.seq c31_7 c31_8) (.seq c31_14 c31_15))
@[go_sem] def c31_16 : Cmd := .loop c31_L0
@[go_sem] def c31_17 : Cmd := .block 0 c31_16
@[go_sem] def c31_18 : Cmd := .ops [⟨some 36, .move (.tmp 6), 30, none⟩,
    ⟨some 4, .assign (.tmp 36), 30, none⟩]
@[go_sem] def c31 : Cmd := (.seq c31_0 (.seq (.seq c31_1 c31_3) (.seq c31_4 (.seq c31_5 (.seq (.seq c31_6 c31_17) (.seq c31_18 .ret))))))
theorem b31 : Tryd.f31.body.map (comp 37) = some c31 := by kernel_rfl
theorem r31 : Tryd.f31.results.toList = [.tmp 4] := by kernel_rfl
-- 32 pith/ckpt.read
@[go_sem] def c32_0 : Cmd := .ops [⟨some 2, .alloc 54, 0, none⟩,
    ⟨some 3, .assign (.const (.bool false)), 4, none⟩]
@[go_sem] def c32_1 : Cmd := .ops [⟨some 4, .alloc 54, 0, none⟩]
@[go_sem] def c32_2 : Cmd := .ops [⟨some 7, .move (.tmp 0), 30, none⟩,
    ⟨some 8, .call { callee := (.builtin .len), args := #[(.tmp 7)], argTypes := #[30] }, 3, none⟩,
    ⟨some 9, .binOp .neq 3 (.tmp 8) (.const (.int .i64 16)) 3, 4, none⟩]
@[go_sem] def c32_3 : Cmd := .ops [⟨some 10, .load 54 (.tmp 4), 54, none⟩,
    ⟨none, .store 54 (.tmp 2) (.tmp 10), 0, none⟩,
    ⟨some 3, .assign (.const (.bool false)), 4, none⟩]
@[go_sem] def c32_4 : Cmd := .cond (.tmp 9) (.seq c32_3 .ret) .skip
@[go_sem] def c32_5 : Cmd := .ops [⟨some 11, .move (.const (.int .i64 0)), 3, none⟩]
@[go_sem] def c32_6 : Cmd := .ops [⟨some 12, .binOp .lss 3 (.tmp 11) (.const (.int .i64 4)) 3, 0, none⟩]
@[go_sem] def c32_7 : Cmd := .cond (.tmp 12) .skip (.exit 0)
@[go_sem] def c32_8 : Cmd := .ops [⟨some 13, .move (.tmp 11), 3, none⟩,
    ⟨some 5, .assign (.tmp 13), 3, none⟩]
@[go_sem] def c32_9 : Cmd := .ops [⟨some 14, .move (.tmp 0), 30, none⟩,
    ⟨some 15, .move (.tmp 5), 3, none⟩,
    ⟨some 16, .binOp .mul 3 (.const (.int .i64 4)) (.tmp 15) 3, 3, none⟩,
    ⟨some 17, .move (.tmp 5), 3, none⟩,
    ⟨some 18, .binOp .mul 3 (.const (.int .i64 4)) (.tmp 17) 3, 3, none⟩,
    ⟨some 19, .binOp .add 3 (.tmp 18) (.const (.int .i64 4)) 3, 3, none⟩,
    ⟨some 20, .move (.tmp 5), 3, none⟩,
    ⟨some 21, .binOp .mul 3 (.const (.int .i64 4)) (.tmp 20) 3, 3, none⟩,
    ⟨some 22, .binOp .add 3 (.tmp 21) (.const (.int .i64 4)) 3, 3, none⟩,
    ⟨some 23, .slice 30 (.tmp 14) (some (.tmp 16)) (some (.tmp 19)) (some (.tmp 22)), 30, none⟩,
    ⟨some 6, .assign (.tmp 23), 30, none⟩]
@[go_sem] def c32_10 : Cmd := .still 23 [⟨some 24, .move (.tmp 5), 3, none⟩,
    ⟨some 25, .move (.tmp 6), 30, none⟩,
    ⟨some 26, .indexAddr 30 (.tmp 25) (.const (.int .i64 0)), 0, none⟩,
    ⟨some 27, .load 5 (.tmp 26), 5, none⟩,
    ⟨some 28, .convert 5 3 (.tmp 27), 3, none⟩,
    ⟨some 29, .binOp .shl 3 (.tmp 28) (.const (.int .u64 24)) 68, 3, none⟩,
    ⟨some 30, .move (.tmp 6), 30, none⟩,
    ⟨some 31, .indexAddr 30 (.tmp 30) (.const (.int .i64 1)), 0, none⟩,
    ⟨some 32, .load 5 (.tmp 31), 5, none⟩,
    ⟨some 33, .convert 5 3 (.tmp 32), 3, none⟩,
    ⟨some 34, .binOp .shl 3 (.tmp 33) (.const (.int .u64 16)) 68, 3, none⟩,
    ⟨some 35, .binOp .add 3 (.tmp 29) (.tmp 34) 3, 3, none⟩,
    ⟨some 36, .move (.tmp 6), 30, none⟩,
    ⟨some 37, .indexAddr 30 (.tmp 36) (.const (.int .i64 2)), 0, none⟩,
    ⟨some 38, .load 5 (.tmp 37), 5, none⟩,
    ⟨some 39, .convert 5 3 (.tmp 38), 3, none⟩,
    ⟨some 40, .binOp .shl 3 (.tmp 39) (.const (.int .u64 8)) 68, 3, none⟩,
    ⟨some 41, .binOp .add 3 (.tmp 35) (.tmp 40) 3, 3, none⟩,
    ⟨some 42, .move (.tmp 6), 30, none⟩,
    ⟨some 43, .indexAddr 30 (.tmp 42) (.const (.int .i64 3)), 0, none⟩,
    ⟨some 44, .load 5 (.tmp 43), 5, none⟩,
    ⟨some 45, .convert 5 3 (.tmp 44), 3, none⟩,
    ⟨some 46, .binOp .add 3 (.tmp 41) (.tmp 45) 3, 3, none⟩,
    ⟨some 47, .indexAddr 54 (.tmp 4) (.tmp 24), 0, none⟩,
    ⟨none, .store 3 (.tmp 47) (.tmp 46), 0, none⟩]
@[go_sem] def c32_11 : Cmd := .block 1 (.seq c32_8 (.seq c32_9 c32_10))
@[go_sem] def c32_12 : Cmd := .ops [⟨some 48, .binOp .add 3 (.tmp 11) (.const (.int .i64 1)) 3, 3, none⟩,
    ⟨some 11, .move (.tmp 48), 3, none⟩]
def c32_L0 : Cmd := (.seq c32_6 (.seq c32_7 (.seq c32_11 c32_12)))
@[go_sem] def c32_13 : Cmd := .loop c32_L0
@[go_sem] def c32_14 : Cmd := .block 0 c32_13
@[go_sem] def c32_15 : Cmd := .ops [⟨some 49, .load 54 (.tmp 4), 54, none⟩,
    ⟨none, .store 54 (.tmp 2) (.tmp 49), 0, none⟩,
    ⟨some 3, .assign (.const (.bool true)), 4, none⟩]
@[go_sem] def c32 : Cmd := (.seq c32_0 (.seq c32_1 (.seq (.seq c32_2 c32_4) (.seq (.seq c32_5 c32_14) (.seq c32_15 .ret)))))
theorem b32 : Tryd.f32.body.map (comp 50) = some c32 := by kernel_rfl
theorem r32 : Tryd.f32.results.toList = [.cell 2 54, .tmp 3] := by kernel_rfl
-- 33 pith/ckpt.bounds
@[go_sem] def c33_0 : Cmd := .ops [⟨some 4, .assign (.const (.slice none 0 0)), 25, none⟩,
    ⟨some 5, .assign (.const (.slice none 0 0)), 31, none⟩,
    ⟨some 6, .assign (.const (.bool false)), 4, none⟩]
@[go_sem] def c33_1 : Cmd := .ops [⟨some 7, .assign (.const (.slice none 0 0)), 25, none⟩]
@[go_sem] def c33_2 : Cmd := .ops [⟨some 12, .move (.tmp 7), 25, none⟩,
    ⟨some 13, .call { callee := (.builtin .len), args := #[(.tmp 12)], argTypes := #[25] }, 3, none⟩,
    ⟨some 14, .move (.tmp 0), 3, none⟩,
    ⟨some 15, .binOp .lss 3 (.tmp 13) (.tmp 14) 3, 4, none⟩]
@[go_sem] def c33_3 : Cmd := .cond (.tmp 15) .skip (.exit 0)
@[go_sem] def c33_4 : Cmd := .ops [⟨some 16, .move (.tmp 1), 31, none⟩,
    ⟨some 17, .call { callee := (.builtin .len), args := #[(.tmp 16)], argTypes := #[31] }, 3, none⟩,
    ⟨some 18, .binOp .eql 3 (.tmp 17) (.const (.int .i64 0)) 3, 4, none⟩]
@[go_sem] def c33_5 : Cmd := .ops [⟨some 4, .assign (.const (.slice none 0 0)), 25, none⟩,
    ⟨some 5, .assign (.const (.slice none 0 0)), 31, none⟩,
    ⟨some 6, .assign (.const (.bool false)), 4, none⟩]
@[go_sem] def c33_6 : Cmd := .cond (.tmp 18) (.seq c33_5 .ret) .skip
@[go_sem] def c33_7 : Cmd := .ops [⟨some 19, .move (.tmp 1), 31, none⟩,
    ⟨some 20, .indexAddr 31 (.tmp 19) (.const (.int .i64 0)), 0, none⟩,
    ⟨some 21, .load 30 (.tmp 20), 30, none⟩,
    ⟨some 22, .call { callee := (.value (.func 43)), args := #[(.tmp 21)], argTypes := #[30] }, 71, none⟩,
    ⟨some 8, .assign (.tmp 22), 71, none⟩]
@[go_sem] def c33_8 : Cmd := .ops [⟨some 23, .move (.tmp 1), 31, none⟩,
    ⟨some 24, .slice 31 (.tmp 23) (some (.const (.int .i64 1))) none none, 31, none⟩,
    ⟨some 1, .assign (.tmp 24), 31, none⟩]
@[go_sem] def c33_9 : Cmd := .ops [⟨some 25, .move (.tmp 0), 3, none⟩,
    ⟨some 26, .move (.tmp 7), 25, none⟩,
    ⟨some 27, .call { callee := (.builtin .len), args := #[(.tmp 26)], argTypes := #[25] }, 3, none⟩,
    ⟨some 28, .binOp .sub 3 (.tmp 25) (.tmp 27) 3, 3, none⟩,
    ⟨some 29, .call { callee := (.builtin .min), args := #[(.const (.int .i64 200)), (.tmp 28)], argTypes := #[3, 3] }, 3, none⟩,
    ⟨some 9, .assign (.tmp 29), 3, none⟩]
@[go_sem] def c33_10 : Cmd := .ops [⟨some 30, .move (.tmp 9), 3, none⟩,
    ⟨some 31, .binOp .gtr 3 (.tmp 30) (.const (.int .i64 0)) 3, 4, none⟩]
@[go_sem] def c33_11 : Cmd := .cond (.tmp 31) .skip (.exit 2)
@[go_sem] def c33_12 : Cmd := .ops [⟨some 34, .move (.tmp 7), 25, none⟩,
    ⟨some 35, .move (.tmp 8), 71, none⟩,
    ⟨some 36, .call { callee := (.value (.func 44)), args := #[(.tmp 35)], argTypes := #[71] }, 3, none⟩,
    ⟨some 37, .buildSlice 25 1 #[(0, (.tmp 36))], 25, none⟩,
    ⟨some 38, .call { callee := (.builtin .append), args := #[(.tmp 34), (.tmp 37)], argTypes := #[25, 25] }, 25, none⟩,
    ⟨some 7, .assign (.tmp 38), 25, none⟩]
@[go_sem] def c33_13 : Cmd := .block 3 c33_12
@[go_sem] def c33_14 : Cmd := .ops [⟨some 32, .move (.tmp 9), 3, none⟩,
    ⟨some 33, .binOp .sub 3 (.tmp 32) (.const (.int .i64 1)) 3, 3, none⟩,
    ⟨some 9, .assign (.tmp 33), 3, none⟩]
def c33_L0 : Cmd := (.seq (.seq c33_10 c33_11) (.seq c33_13 c33_14))
@[go_sem] def c33_15 : Cmd := .loop c33_L0
@[go_sem] def c33_16 : Cmd := .block 2 c33_15
@[go_sem] def c33_17 : Cmd := .ops [⟨some 40, .move (.tmp 8), 71, none⟩,
    ⟨some 41, .call { callee := (.value (.func 45)), args := #[(.tmp 40)], argTypes := #[71] }, 74, none⟩,
    ⟨some 39, .move (.tmp 41), 74, none⟩,
    ⟨some 42, .extract (.tmp 39) 0, 32, none⟩,
    ⟨some 43, .extract (.tmp 39) 1, 3, none⟩,
    ⟨some 10, .assign (.tmp 42), 32, none⟩,
    ⟨some 11, .assign (.tmp 43), 3, none⟩]
@[go_sem] def c33_18 : Cmd := .ops [⟨some 44, .move (.tmp 10), 32, none⟩,
    ⟨some 45, .binOp .neq 32 (.tmp 44) (.const (.int .i64 0)) 32, 4, none⟩,
    ⟨some 46, .move (.tmp 45), 4, none⟩,
    ⟨some 47, .move (.tmp 8), 71, some (46, false)⟩,
    ⟨some 48, .call { callee := (.value (.func 46)), args := #[(.tmp 47)], argTypes := #[71] }, 3, some (46, false)⟩,
    ⟨some 49, .binOp .gtr 3 (.tmp 48) (.const (.int .i64 0)) 3, 4, some (46, false)⟩,
    ⟨some 50, .pick (.tmp 46) (.const (.bool true)) (.tmp 49), 4, none⟩]
@[go_sem] def c33_19 : Cmd := .ops [⟨some 4, .assign (.const (.slice none 0 0)), 25, none⟩,
    ⟨some 5, .assign (.const (.slice none 0 0)), 31, none⟩,
    ⟨some 6, .assign (.const (.bool false)), 4, none⟩]
@[go_sem] def c33_20 : Cmd := .cond (.tmp 50) (.seq c33_19 .ret) .skip
@[go_sem] def c33_21 : Cmd := .block 1 (.seq (.seq c33_4 c33_6) (.seq c33_7 (.seq c33_8 (.seq (.seq c33_9 c33_16) (.seq c33_17 (.seq c33_18 c33_20))))))
def c33_L1 : Cmd := (.seq (.seq c33_2 c33_3) c33_21)
@[go_sem] def c33_22 : Cmd := .loop c33_L1
@[go_sem] def c33_23 : Cmd := .block 0 c33_22
@[go_sem] def c33_24 : Cmd := .ops [⟨some 51, .move (.tmp 7), 25, none⟩,
    ⟨some 52, .move (.tmp 1), 31, none⟩,
    ⟨some 4, .assign (.tmp 51), 25, none⟩,
    ⟨some 5, .assign (.tmp 52), 31, none⟩,
    ⟨some 6, .assign (.const (.bool true)), 4, none⟩]
@[go_sem] def c33 : Cmd := (.seq c33_0 (.seq c33_1 (.seq c33_23 (.seq c33_24 .ret))))
theorem b33 : Tryd.f33.body.map (comp 53) = some c33 := by kernel_rfl
theorem r33 : Tryd.f33.results.toList = [.tmp 4, .tmp 5, .tmp 6] := by kernel_rfl
-- 34 pith/ckpt.dirty
@[go_sem] def c34_0 : Cmd := .ops [⟨some 4, .assign (.const (.slice none 0 0)), 26, none⟩,
    ⟨some 5, .assign (.const (.bool false)), 4, none⟩]
@[go_sem] def c34_1 : Cmd := .ops [⟨some 9, .move (.tmp 0), 3, none⟩,
    ⟨some 10, .binOp .eql 3 (.tmp 9) (.const (.int .i64 0)) 3, 4, none⟩]
@[go_sem] def c34_2 : Cmd := .ops [⟨some 11, .move (.tmp 1), 31, none⟩,
    ⟨some 12, .call { callee := (.builtin .len), args := #[(.tmp 11)], argTypes := #[31] }, 3, none⟩,
    ⟨some 13, .binOp .eql 3 (.tmp 12) (.const (.int .i64 0)) 3, 4, none⟩,
    ⟨some 4, .assign (.const (.slice none 0 0)), 26, none⟩,
    ⟨some 5, .assign (.tmp 13), 4, none⟩]
@[go_sem] def c34_3 : Cmd := .cond (.tmp 10) (.seq c34_2 .ret) .skip
@[go_sem] def c34_4 : Cmd := .ops [⟨some 14, .move (.tmp 1), 31, none⟩,
    ⟨some 15, .call { callee := (.builtin .len), args := #[(.tmp 14)], argTypes := #[31] }, 3, none⟩,
    ⟨some 16, .binOp .neq 3 (.tmp 15) (.const (.int .i64 1)) 3, 4, none⟩,
    ⟨some 17, .move (.tmp 16), 4, none⟩,
    ⟨some 18, .move (.tmp 1), 31, some (17, false)⟩,
    ⟨some 19, .indexAddr 31 (.tmp 18) (.const (.int .i64 0)), 0, some (17, false)⟩,
    ⟨some 20, .load 30 (.tmp 19), 30, some (17, false)⟩,
    ⟨some 21, .call { callee := (.builtin .len), args := #[(.tmp 20)], argTypes := #[30] }, 3, some (17, false)⟩,
    ⟨some 22, .move (.tmp 0), 3, some (17, false)⟩,
    ⟨some 23, .binOp .neq 3 (.tmp 21) (.tmp 22) 3, 4, some (17, false)⟩,
    ⟨some 24, .pick (.tmp 17) (.const (.bool true)) (.tmp 23), 4, none⟩]
@[go_sem] def c34_5 : Cmd := .ops [⟨some 4, .assign (.const (.slice none 0 0)), 26, none⟩,
    ⟨some 5, .assign (.const (.bool false)), 4, none⟩]
@[go_sem] def c34_6 : Cmd := .cond (.tmp 24) (.seq c34_5 .ret) .skip
@[go_sem] def c34_7 : Cmd := .ops [⟨some 25, .move (.tmp 0), 3, none⟩,
    ⟨some 26, .makeSlice 26 (.tmp 25) (.tmp 25), 26, none⟩,
    ⟨some 6, .assign (.tmp 26), 26, none⟩]
@[go_sem] def c34_8 : Cmd := .ops [⟨some 27, .move (.tmp 1), 31, none⟩,
    ⟨some 28, .indexAddr 31 (.tmp 27) (.const (.int .i64 0)), 0, none⟩,
    ⟨some 29, .load 30 (.tmp 28), 30, none⟩,
    ⟨some 30, .call { callee := (.builtin .len), args := #[(.tmp 29)], argTypes := #[30] }, 3, none⟩,
    ⟨some 31, .move (.const (.int .i64 0)), 3, none⟩]
@[go_sem] def c34_9 : Cmd := .ops [⟨some 32, .binOp .lss 3 (.tmp 31) (.tmp 30) 3, 0, none⟩]
@[go_sem] def c34_10 : Cmd := .cond (.tmp 32) .skip (.exit 0)
@[go_sem] def c34_11 : Cmd := .ops [⟨some 33, .move (.tmp 31), 3, none⟩,
    ⟨some 34, .indexAddr 30 (.tmp 29) (.tmp 31), 0, none⟩,
    ⟨some 35, .load 5 (.tmp 34), 5, none⟩,
    ⟨some 7, .assign (.tmp 33), 3, none⟩,
    ⟨some 8, .assign (.tmp 35), 5, none⟩]
@[go_sem] def c34_12 : Cmd := .ops [⟨some 36, .move (.tmp 8), 5, none⟩,
    ⟨some 37, .binOp .gtr 5 (.tmp 36) (.const (.int .u8 1)) 5, 4, none⟩]
@[go_sem] def c34_13 : Cmd := .ops [⟨some 4, .assign (.const (.slice none 0 0)), 26, none⟩,
    ⟨some 5, .assign (.const (.bool false)), 4, none⟩]
@[go_sem] def c34_14 : Cmd := .cond (.tmp 37) (.seq c34_13 .ret) .skip
@[go_sem] def c34_15 : Cmd := .ops [⟨some 38, .move (.tmp 6), 26, none⟩,
    ⟨some 39, .move (.tmp 7), 3, none⟩,
    ⟨some 40, .move (.tmp 8), 5, none⟩,
    ⟨some 41, .binOp .eql 5 (.tmp 40) (.const (.int .u8 1)) 5, 4, none⟩,
    ⟨some 42, .indexAddr 26 (.tmp 38) (.tmp 39), 0, none⟩,
    ⟨none, .store 4 (.tmp 42) (.tmp 41), 0, none⟩]
@[go_sem] def c34_16 : Cmd := .block 1 (.seq c34_11 (.seq (.seq c34_12 c34_14) c34_15))
@[go_sem] def c34_17 : Cmd := .ops [⟨some 43, .binOp .add 3 (.tmp 31) (.const (.int .i64 1)) 3, 3, none⟩,
    ⟨some 31, .move (.tmp 43), 3, none⟩]
def c34_L0 : Cmd := (.seq c34_9 (.seq c34_10 (.seq c34_16 c34_17)))
@[go_sem] def c34_18 : Cmd := .loop c34_L0
@[go_sem] def c34_19 : Cmd := .block 0 c34_18
@[go_sem] def c34_20 : Cmd := .ops [⟨some 44, .move (.tmp 6), 26, none⟩,
    ⟨some 4, .assign (.tmp 44), 26, none⟩,
    ⟨some 5, .assign (.const (.bool true)), 4, none⟩]
@[go_sem] def c34 : Cmd := (.seq c34_0 (.seq (.seq c34_1 c34_3) (.seq (.seq c34_4 c34_6) (.seq c34_7 (.seq (.seq c34_8 c34_19) (.seq c34_20 .ret))))))
theorem b34 : Tryd.f34.body.map (comp 45) = some c34 := by kernel_rfl
theorem r34 : Tryd.f34.results.toList = [.tmp 4, .tmp 5] := by kernel_rfl
-- 35 pith/pithref18.number
@[go_sem] def c35_0 : Cmd := .ops [⟨some 2, .assign (.const (.int .i64 0)), 3, none⟩]
@[go_sem] def c35_1 : Cmd := .quiet [⟨some 3, .move (.tmp 0), 30, none⟩,
    ⟨some 4, .indexAddr 30 (.tmp 3) (.const (.int .i64 0)), 0, none⟩,
    ⟨some 5, .load 5 (.tmp 4), 5, none⟩,
    ⟨some 6, .convert 5 3 (.tmp 5), 3, none⟩,
    ⟨some 7, .binOp .shl 3 (.tmp 6) (.const (.int .u64 24)) 68, 3, none⟩,
    ⟨some 8, .move (.tmp 0), 30, none⟩,
    ⟨some 9, .indexAddr 30 (.tmp 8) (.const (.int .i64 1)), 0, none⟩,
    ⟨some 10, .load 5 (.tmp 9), 5, none⟩,
    ⟨some 11, .convert 5 3 (.tmp 10), 3, none⟩,
    ⟨some 12, .binOp .shl 3 (.tmp 11) (.const (.int .u64 16)) 68, 3, none⟩,
    ⟨some 13, .binOp .add 3 (.tmp 7) (.tmp 12) 3, 3, none⟩,
    ⟨some 14, .move (.tmp 0), 30, none⟩,
    ⟨some 15, .indexAddr 30 (.tmp 14) (.const (.int .i64 2)), 0, none⟩,
    ⟨some 16, .load 5 (.tmp 15), 5, none⟩,
    ⟨some 17, .convert 5 3 (.tmp 16), 3, none⟩,
    ⟨some 18, .binOp .shl 3 (.tmp 17) (.const (.int .u64 8)) 68, 3, none⟩,
    ⟨some 19, .binOp .add 3 (.tmp 13) (.tmp 18) 3, 3, none⟩,
    ⟨some 20, .move (.tmp 0), 30, none⟩,
    ⟨some 21, .indexAddr 30 (.tmp 20) (.const (.int .i64 3)), 0, none⟩,
    ⟨some 22, .load 5 (.tmp 21), 5, none⟩,
    ⟨some 23, .convert 5 3 (.tmp 22), 3, none⟩,
    ⟨some 24, .binOp .add 3 (.tmp 19) (.tmp 23) 3, 3, none⟩,
    ⟨some 2, .assign (.tmp 24), 3, none⟩]
@[go_sem] def c35 : Cmd := (.seq c35_0 (.seq c35_1 .ret))
theorem b35 : Tryd.f35.body.map (comp 25) = some c35 := by kernel_rfl
theorem r35 : Tryd.f35.results.toList = [.tmp 2] := by kernel_rfl
-- 36 pith/pithref18.estimates
@[go_sem] def c36_0 : Cmd := .ops [⟨some 4, .assign (.const (.slice none 0 0)), 25, none⟩,
    ⟨some 5, .assign (.const (.slice none 0 0)), 31, none⟩,
    ⟨some 6, .assign (.const (.bool false)), 4, none⟩]
@[go_sem] def c36_1 : Cmd := .ops [⟨some 7, .assign (.const (.slice none 0 0)), 25, none⟩]
@[go_sem] def c36_2 : Cmd := .ops [⟨some 13, .move (.tmp 7), 25, none⟩,
    ⟨some 14, .call { callee := (.builtin .len), args := #[(.tmp 13)], argTypes := #[25] }, 3, none⟩,
    ⟨some 15, .move (.tmp 0), 3, none⟩,
    ⟨some 16, .binOp .lss 3 (.tmp 14) (.tmp 15) 3, 4, none⟩]
@[go_sem] def c36_3 : Cmd := .cond (.tmp 16) .skip (.exit 0)
@[go_sem] def c36_4 : Cmd := .ops [⟨some 17, .move (.tmp 1), 31, none⟩,
    ⟨some 18, .call { callee := (.builtin .len), args := #[(.tmp 17)], argTypes := #[31] }, 3, none⟩,
    ⟨some 19, .binOp .eql 3 (.tmp 18) (.const (.int .i64 0)) 3, 4, none⟩]
@[go_sem] def c36_5 : Cmd := .ops [⟨some 4, .assign (.const (.slice none 0 0)), 25, none⟩,
    ⟨some 5, .assign (.const (.slice none 0 0)), 31, none⟩,
    ⟨some 6, .assign (.const (.bool false)), 4, none⟩]
@[go_sem] def c36_6 : Cmd := .cond (.tmp 19) (.seq c36_5 .ret) .skip
@[go_sem] def c36_7 : Cmd := .ops [⟨some 20, .move (.tmp 1), 31, none⟩,
    ⟨some 21, .indexAddr 31 (.tmp 20) (.const (.int .i64 0)), 0, none⟩,
    ⟨some 22, .load 30 (.tmp 21), 30, none⟩,
    ⟨some 23, .call { callee := (.value (.func 47)), args := #[(.tmp 22)], argTypes := #[30] }, 76, none⟩,
    ⟨some 8, .assign (.tmp 23), 76, none⟩]
@[go_sem] def c36_8 : Cmd := .ops [⟨some 9, .assign (.const (.int .i64 0)), 3, none⟩]
@[go_sem] def c36_9 : Cmd := .ops [⟨some 24, .move (.tmp 9), 3, none⟩,
    ⟨some 25, .binOp .lss 3 (.tmp 24) (.const (.int .i64 200)) 3, 4, none⟩,
    ⟨some 26, .move (.tmp 25), 4, none⟩,
    ⟨some 27, .move (.tmp 7), 25, some (26, true)⟩,
    ⟨some 28, .call { callee := (.builtin .len), args := #[(.tmp 27)], argTypes := #[25] }, 3, some (26, true)⟩,
    ⟨some 29, .move (.tmp 0), 3, some (26, true)⟩,
    ⟨some 30, .binOp .lss 3 (.tmp 28) (.tmp 29) 3, 4, some (26, true)⟩,
    ⟨some 31, .pick (.tmp 26) (.tmp 30) (.const (.bool false)), 4, none⟩]
@[go_sem] def c36_10 : Cmd := .cond (.tmp 31) .skip (.exit 2)
@[go_sem] def c36_11 : Cmd := .ops [⟨some 34, .move (.tmp 8), 76, none⟩,
    ⟨some 35, .call { callee := (.value (.func 48)), args := #[(.tmp 34)], argTypes := #[76] }, 3, none⟩,
    ⟨some 10, .assign (.tmp 35), 3, none⟩]
@[go_sem] def c36_12 : Cmd := .ops [⟨some 37, .move (.tmp 8), 76, none⟩,
    ⟨some 38, .call { callee := (.value (.func 49)), args := #[(.tmp 37)], argTypes := #[76] }, 78, none⟩,
    ⟨some 36, .move (.tmp 38), 78, none⟩,
    ⟨some 39, .extract (.tmp 36) 0, 3, none⟩,
    ⟨some 40, .extract (.tmp 36) 1, 3, none⟩,
    ⟨some 11, .assign (.tmp 39), 3, none⟩,
    ⟨some 12, .assign (.tmp 40), 3, none⟩]
@[go_sem] def c36_13 : Cmd := .ops [⟨some 41, .move (.tmp 11), 3, none⟩,
    ⟨some 42, .binOp .neq 3 (.tmp 41) (.const (.int .i64 0)) 3, 4, none⟩]
@[go_sem] def c36_14 : Cmd := .ops [⟨some 4, .assign (.const (.slice none 0 0)), 25, none⟩,
    ⟨some 5, .assign (.const (.slice none 0 0)), 31, none⟩,
    ⟨some 6, .assign (.const (.bool false)), 4, none⟩]
@[go_sem] def c36_15 : Cmd := .cond (.tmp 42) (.seq c36_14 .ret) .skip
@[go_sem] def c36_16 : Cmd := .ops [⟨some 43, .move (.tmp 7), 25, none⟩,
    ⟨some 44, .move (.tmp 10), 3, none⟩,
    ⟨some 45, .buildSlice 25 1 #[(0, (.tmp 44))], 25, none⟩,
    ⟨some 46, .call { callee := (.builtin .append), args := #[(.tmp 43), (.tmp 45)], argTypes := #[25, 25] }, 25, none⟩,
    ⟨some 7, .assign (.tmp 46), 25, none⟩]
@[go_sem] def c36_17 : Cmd := .block 3 (.seq c36_11 (.seq c36_12 (.seq (.seq c36_13 c36_15) c36_16)))
@[go_sem] def c36_18 : Cmd := .ops [⟨some 32, .move (.tmp 9), 3, none⟩,
    ⟨some 33, .binOp .add 3 (.tmp 32) (.const (.int .i64 1)) 3, 3, none⟩,
    ⟨some 9, .assign (.tmp 33), 3, none⟩]
def c36_L0 : Cmd := (.seq (.seq c36_9 c36_10) (.seq c36_17 c36_18))
@[go_sem] def c36_19 : Cmd := .loop c36_L0
@[go_sem] def c36_20 : Cmd := .block 2 c36_19
@[go_sem] def c36_21 : Cmd := .ops [⟨some 47, .move (.tmp 1), 31, none⟩,
    ⟨some 48, .slice 31 (.tmp 47) (some (.const (.int .i64 1))) none none, 31, none⟩,
    ⟨some 1, .assign (.tmp 48), 31, none⟩]
@[go_sem] def c36_22 : Cmd := .block 1 (.seq (.seq c36_4 c36_6) (.seq c36_7 (.seq (.seq c36_8 c36_20) c36_21)))
def c36_L1 : Cmd := (.seq (.seq c36_2 c36_3) c36_22)
@[go_sem] def c36_23 : Cmd := .loop c36_L1
@[go_sem] def c36_24 : Cmd := .block 0 c36_23
@[go_sem] def c36_25 : Cmd := .ops [⟨some 49, .move (.tmp 7), 25, none⟩,
    ⟨some 50, .move (.tmp 1), 31, none⟩,
    ⟨some 4, .assign (.tmp 49), 25, none⟩,
    ⟨some 5, .assign (.tmp 50), 31, none⟩,
    ⟨some 6, .assign (.const (.bool true)), 4, none⟩]
@[go_sem] def c36 : Cmd := (.seq c36_0 (.seq c36_1 (.seq c36_24 (.seq c36_25 .ret))))
theorem b36 : Tryd.f36.body.map (comp 51) = some c36 := by kernel_rfl
theorem r36 : Tryd.f36.results.toList = [.tmp 4, .tmp 5, .tmp 6] := by kernel_rfl
-- 37 pith/pithref.SameInts
@[go_sem] def c37_0 : Cmd := .ops [⟨some 4, .assign (.const (.bool false)), 4, none⟩]
@[go_sem] def c37_1 : Cmd := .ops [⟨some 6, .move (.tmp 0), 25, none⟩,
    ⟨some 7, .call { callee := (.builtin .len), args := #[(.tmp 6)], argTypes := #[25] }, 3, none⟩,
    ⟨some 8, .move (.tmp 1), 25, none⟩,
    ⟨some 9, .call { callee := (.builtin .len), args := #[(.tmp 8)], argTypes := #[25] }, 3, none⟩,
    ⟨some 10, .binOp .neq 3 (.tmp 7) (.tmp 9) 3, 4, none⟩]
@[go_sem] def c37_2 : Cmd := .ops [⟨some 4, .assign (.const (.bool false)), 4, none⟩]
@[go_sem] def c37_3 : Cmd := .cond (.tmp 10) (.seq c37_2 .ret) .skip
@[go_sem] def c37_4 : Cmd := .ops [⟨some 5, .assign (.const (.int .i64 0)), 3, none⟩]
@[go_sem] def c37_5 : Cmd := .ops [⟨some 11, .move (.tmp 5), 3, none⟩,
    ⟨some 12, .move (.tmp 0), 25, none⟩,
    ⟨some 13, .call { callee := (.builtin .len), args := #[(.tmp 12)], argTypes := #[25] }, 3, none⟩,
    ⟨some 14, .binOp .lss 3 (.tmp 11) (.tmp 13) 3, 4, none⟩]
@[go_sem] def c37_6 : Cmd := .cond (.tmp 14) .skip (.exit 0)
@[go_sem] def c37_7 : Cmd := .quiet [⟨some 17, .move (.tmp 0), 25, none⟩,
    ⟨some 18, .move (.tmp 5), 3, none⟩,
    ⟨some 19, .indexAddr 25 (.tmp 17) (.tmp 18), 0, none⟩,
    ⟨some 20, .load 3 (.tmp 19), 3, none⟩,
    ⟨some 21, .move (.tmp 1), 25, none⟩,
    ⟨some 22, .move (.tmp 5), 3, none⟩,
    ⟨some 23, .indexAddr 25 (.tmp 21) (.tmp 22), 0, none⟩,
    ⟨some 24, .load 3 (.tmp 23), 3, none⟩,
    ⟨some 25, .binOp .eql 3 (.tmp 20) (.tmp 24) 3, 4, none⟩,
    ⟨some 26, .unOp .not 4 (.tmp 25), 4, none⟩]
@[go_sem] def c37_8 : Cmd := .ops [⟨some 4, .assign (.const (.bool false)), 4, none⟩]
@[go_sem] def c37_9 : Cmd := .cond (.tmp 26) (.seq c37_8 .ret) .skip
@[go_sem] def c37_10 : Cmd := .block 1 (.seq c37_7 c37_9)
@[go_sem] def c37_11 : Cmd := .ops [⟨some 15, .move (.tmp 5), 3, none⟩,
    ⟨some 16, .binOp .add 3 (.tmp 15) (.const (.int .i64 1)) 3, 3, none⟩,
    ⟨some 5, .assign (.tmp 16), 3, none⟩]
def c37_L0 : Cmd := (.seq (.seq c37_5 c37_6) (.seq c37_10 c37_11))
@[go_sem] def c37_12 : Cmd := .loop c37_L0
@[go_sem] def c37_13 : Cmd := .block 0 c37_12
@[go_sem] def c37_14 : Cmd := .ops [⟨some 4, .assign (.const (.bool true)), 4, none⟩]
@[go_sem] def c37 : Cmd := (.seq c37_0 (.seq (.seq c37_1 c37_3) (.seq (.seq c37_4 c37_13) (.seq c37_14 .ret))))
theorem b37 : Tryd.f37.body.map (comp 27) = some c37 := by kernel_rfl
theorem r37 : Tryd.f37.results.toList = [.tmp 4] := by kernel_rfl
-- 38 pith/pithref.SameBools
@[go_sem] def c38_0 : Cmd := .ops [⟨some 4, .assign (.const (.bool false)), 4, none⟩]
@[go_sem] def c38_1 : Cmd := .ops [⟨some 6, .move (.tmp 0), 26, none⟩,
    ⟨some 7, .call { callee := (.builtin .len), args := #[(.tmp 6)], argTypes := #[26] }, 3, none⟩,
    ⟨some 8, .move (.tmp 1), 26, none⟩,
    ⟨some 9, .call { callee := (.builtin .len), args := #[(.tmp 8)], argTypes := #[26] }, 3, none⟩,
    ⟨some 10, .binOp .neq 3 (.tmp 7) (.tmp 9) 3, 4, none⟩]
@[go_sem] def c38_2 : Cmd := .ops [⟨some 4, .assign (.const (.bool false)), 4, none⟩]
@[go_sem] def c38_3 : Cmd := .cond (.tmp 10) (.seq c38_2 .ret) .skip
@[go_sem] def c38_4 : Cmd := .ops [⟨some 5, .assign (.const (.int .i64 0)), 3, none⟩]
@[go_sem] def c38_5 : Cmd := .ops [⟨some 11, .move (.tmp 5), 3, none⟩,
    ⟨some 12, .move (.tmp 0), 26, none⟩,
    ⟨some 13, .call { callee := (.builtin .len), args := #[(.tmp 12)], argTypes := #[26] }, 3, none⟩,
    ⟨some 14, .binOp .lss 3 (.tmp 11) (.tmp 13) 3, 4, none⟩]
@[go_sem] def c38_6 : Cmd := .cond (.tmp 14) .skip (.exit 0)
@[go_sem] def c38_7 : Cmd := .quiet [⟨some 17, .move (.tmp 0), 26, none⟩,
    ⟨some 18, .move (.tmp 5), 3, none⟩,
    ⟨some 19, .indexAddr 26 (.tmp 17) (.tmp 18), 0, none⟩,
    ⟨some 20, .load 4 (.tmp 19), 4, none⟩,
    ⟨some 21, .move (.tmp 1), 26, none⟩,
    ⟨some 22, .move (.tmp 5), 3, none⟩,
    ⟨some 23, .indexAddr 26 (.tmp 21) (.tmp 22), 0, none⟩,
    ⟨some 24, .load 4 (.tmp 23), 4, none⟩,
    ⟨some 25, .binOp .eql 4 (.tmp 20) (.tmp 24) 4, 4, none⟩,
    ⟨some 26, .unOp .not 4 (.tmp 25), 4, none⟩]
@[go_sem] def c38_8 : Cmd := .ops [⟨some 4, .assign (.const (.bool false)), 4, none⟩]
@[go_sem] def c38_9 : Cmd := .cond (.tmp 26) (.seq c38_8 .ret) .skip
@[go_sem] def c38_10 : Cmd := .block 1 (.seq c38_7 c38_9)
@[go_sem] def c38_11 : Cmd := .ops [⟨some 15, .move (.tmp 5), 3, none⟩,
    ⟨some 16, .binOp .add 3 (.tmp 15) (.const (.int .i64 1)) 3, 3, none⟩,
    ⟨some 5, .assign (.tmp 16), 3, none⟩]
def c38_L0 : Cmd := (.seq (.seq c38_5 c38_6) (.seq c38_10 c38_11))
@[go_sem] def c38_12 : Cmd := .loop c38_L0
@[go_sem] def c38_13 : Cmd := .block 0 c38_12
@[go_sem] def c38_14 : Cmd := .ops [⟨some 4, .assign (.const (.bool true)), 4, none⟩]
@[go_sem] def c38 : Cmd := (.seq c38_0 (.seq (.seq c38_1 c38_3) (.seq (.seq c38_4 c38_13) (.seq c38_14 .ret))))
theorem b38 : Tryd.f38.body.map (comp 27) = some c38 := by kernel_rfl
theorem r38 : Tryd.f38.results.toList = [.tmp 4] := by kernel_rfl
-- 39 internal/strconv.Itoa
@[go_sem] def c39_0 : Cmd := .ops [⟨some 2, .assign (.const (.string ⟨#[]⟩)), 9, none⟩]
@[go_sem] def c39_1 : Cmd := .ops [⟨some 3, .move (.tmp 0), 3, none⟩,
    ⟨some 4, .call { callee := (.value (.func 50)), args := #[(.tmp 3), (.const (.int .i64 10))], argTypes := #[2, 3] }, 9, none⟩,
    ⟨some 2, .assign (.tmp 4), 9, none⟩]
@[go_sem] def c39 : Cmd := (.seq c39_0 (.seq c39_1 .ret))
theorem b39 : Tryd.f39.body.map (comp 5) = some c39 := by kernel_rfl
theorem r39 : Tryd.f39.results.toList = [.tmp 2] := by kernel_rfl
-- 40 pith/varint.put
@[go_sem] def c40_0 : Cmd := .ops [⟨some 4, .assign (.const (.slice none 0 0)), 30, none⟩]
@[go_sem] def c40_1 : Cmd := .ops [⟨some 7, .move (.tmp 1), 3, none⟩,
    ⟨some 8, .call { callee := (.builtin .max), args := #[(.tmp 7), (.const (.int .i64 0))], argTypes := #[3, 3] }, 3, none⟩,
    ⟨some 1, .assign (.tmp 8), 3, none⟩]
@[go_sem] def c40_2 : Cmd := .ops [⟨some 9, .move (.tmp 1), 3, none⟩,
    ⟨some 10, .call { callee := (.value (.func 51)), args := #[(.tmp 9)], argTypes := #[3] }, 3, none⟩,
    ⟨some 11, .binOp .sub 3 (.tmp 10) (.const (.int .i64 1)) 3, 3, none⟩,
    ⟨some 5, .assign (.tmp 11), 3, none⟩]
@[go_sem] def c40_3 : Cmd := .ops [⟨some 12, .move (.tmp 5), 3, none⟩,
    ⟨some 13, .binOp .geq 3 (.tmp 12) (.const (.int .i64 0)) 3, 4, none⟩]
@[go_sem] def c40_4 : Cmd := .cond (.tmp 13) .skip (.exit 0)
@[go_sem] def c40_5 : Cmd := .ops [⟨some 16, .move (.tmp 1), 3, none⟩,
    ⟨some 17, .move (.tmp 5), 3, none⟩,
    ⟨some 18, .binOp .mul 3 (.const (.int .i64 7)) (.tmp 17) 3, 3, none⟩,
    ⟨some 19, .binOp .shr 3 (.tmp 16) (.tmp 18) 3, 3, none⟩,
    ⟨some 20, .convert 3 5 (.tmp 19), 5, none⟩,
    ⟨some 21, .binOp .and 5 (.tmp 20) (.const (.int .u8 127)) 5, 5, none⟩,
    ⟨some 6, .assign (.tmp 21), 5, none⟩]
@[go_sem] def c40_6 : Cmd := .ops [⟨some 22, .move (.tmp 5), 3, none⟩,
    ⟨some 23, .binOp .gtr 3 (.tmp 22) (.const (.int .i64 0)) 3, 4, none⟩]
@[go_sem] def c40_7 : Cmd := .ops [⟨some 24, .move (.tmp 6), 5, none⟩,
    ⟨some 25, .binOp .or 5 (.tmp 24) (.const (.int .u8 128)) 5, 5, none⟩,
    ⟨some 6, .assign (.tmp 25), 5, none⟩]
@[go_sem] def c40_8 : Cmd := .cond (.tmp 23) c40_7 .skip
@[go_sem] def c40_9 : Cmd := .ops [⟨some 26, .move (.tmp 0), 30, none⟩,
    ⟨some 27, .move (.tmp 6), 5, none⟩,
    ⟨some 28, .buildSlice 30 1 #[(0, (.tmp 27))], 30, none⟩,
    ⟨some 29, .call { callee := (.builtin .append), args := #[(.tmp 26), (.tmp 28)], argTypes := #[30, 30] }, 30, none⟩,
    ⟨some 0, .assign (.tmp 29), 30, none⟩]
@[go_sem] def c40_10 : Cmd := .block 1 (.seq c40_5 (.seq (.seq c40_6 c40_8) c40_9))
@[go_sem] def c40_11 : Cmd := .ops [⟨some 14, .move (.tmp 5), 3, none⟩,
    ⟨some 15, .binOp .sub 3 (.tmp 14) (.const (.int .i64 1)) 3, 3, none⟩,
    ⟨some 5, .assign (.tmp 15), 3, none⟩]
def c40_L0 : Cmd := (.seq (.seq c40_3 c40_4) (.seq c40_10 c40_11))
@[go_sem] def c40_12 : Cmd := .loop c40_L0
@[go_sem] def c40_13 : Cmd := .block 0 c40_12
@[go_sem] def c40_14 : Cmd := .ops [⟨some 30, .move (.tmp 0), 30, none⟩,
    ⟨some 4, .assign (.tmp 30), 30, none⟩]
@[go_sem] def c40 : Cmd := (.seq c40_0 (.seq c40_1 (.seq (.seq c40_2 c40_13) (.seq c40_14 .ret))))
theorem b40 : Tryd.f40.body.map (comp 31) = some c40 := by kernel_rfl
theorem r40 : Tryd.f40.results.toList = [.tmp 4] := by kernel_rfl
-- 41 pith/varint.grown
@[go_sem] def c41_0 : Cmd := .ops [⟨some 4, .assign (.const (.slice none 0 0)), 30, none⟩]
@[go_sem] def c41_1 : Cmd := .ops [⟨some 6, .move (.tmp 0), 30, none⟩,
    ⟨some 7, .call { callee := (.builtin .len), args := #[(.tmp 6)], argTypes := #[30] }, 3, none⟩,
    ⟨some 8, .move (.tmp 0), 30, none⟩,
    ⟨some 9, .call { callee := (.builtin .len), args := #[(.tmp 8)], argTypes := #[30] }, 3, none⟩,
    ⟨some 10, .move (.tmp 1), 3, none⟩,
    ⟨some 11, .binOp .add 3 (.tmp 9) (.tmp 10) 3, 3, none⟩,
    ⟨some 12, .makeSlice 30 (.tmp 7) (.tmp 11), 30, none⟩,
    ⟨some 5, .assign (.tmp 12), 30, none⟩]
@[go_sem] def c41_2 : Cmd := .ops [⟨some 13, .move (.tmp 5), 30, none⟩,
    ⟨some 14, .move (.tmp 0), 30, none⟩,
    ⟨some 15, .call { callee := (.builtin .copy), args := #[(.tmp 13), (.tmp 14)], argTypes := #[30, 30] }, 3, none⟩]
@[go_sem] def c41_3 : Cmd := .ops [⟨some 16, .move (.tmp 5), 30, none⟩,
    ⟨some 4, .assign (.tmp 16), 30, none⟩]
@[go_sem] def c41 : Cmd := (.seq c41_0 (.seq c41_1 (.seq c41_2 (.seq c41_3 .ret))))
theorem b41 : Tryd.f41.body.map (comp 17) = some c41 := by kernel_rfl
theorem r41 : Tryd.f41.results.toList = [.tmp 4] := by kernel_rfl
-- 42 pith/pithref1.Len
@[go_sem] def c42_0 : Cmd := .ops [⟨some 2, .assign (.const (.int .i64 0)), 3, none⟩]
@[go_sem] def c42_1 : Cmd := .ops [⟨some 3, .assign (.const (.int .i64 1)), 3, none⟩]
@[go_sem] def c42_2 : Cmd := .ops [⟨some 4, .move (.tmp 0), 3, none⟩,
    ⟨some 5, .binOp .geq 3 (.tmp 4) (.const (.int .i64 128)) 3, 4, none⟩]
@[go_sem] def c42_3 : Cmd := .cond (.tmp 5) .skip (.exit 0)
@[go_sem] def c42_4 : Cmd := .ops [⟨some 6, .move (.tmp 0), 3, none⟩,
    ⟨some 7, .binOp .quo 3 (.tmp 6) (.const (.int .i64 128)) 3, 3, none⟩,
    ⟨some 0, .assign (.tmp 7), 3, none⟩]
@[go_sem] def c42_5 : Cmd := .ops [⟨some 8, .move (.tmp 3), 3, none⟩,
    ⟨some 9, .binOp .add 3 (.tmp 8) (.const (.int .i64 1)) 3, 3, none⟩,
    ⟨some 3, .assign (.tmp 9), 3, none⟩]
@[go_sem] def c42_6 : Cmd := .block 1 (.seq c42_4 c42_5)
def c42_L0 : Cmd := (.seq (.seq c42_2 c42_3) c42_6)
@[go_sem] def c42_7 : Cmd := .loop c42_L0
@[go_sem] def c42_8 : Cmd := .block 0 c42_7
@[go_sem] def c42_9 : Cmd := .ops [⟨some 10, .move (.tmp 3), 3, none⟩,
    ⟨some 2, .assign (.tmp 10), 3, none⟩]
@[go_sem] def c42 : Cmd := (.seq c42_0 (.seq c42_1 (.seq c42_8 (.seq c42_9 .ret))))
theorem b42 : Tryd.f42.body.map (comp 11) = some c42 := by kernel_rfl
theorem r42 : Tryd.f42.results.toList = [.tmp 2] := by kernel_rfl
-- 43 pith/varint.NewReader
@[go_sem] def c43_0 : Cmd := .ops [⟨some 2, .assign (.const (.pointer none)), 71, none⟩]
@[go_sem] def c43_1 : Cmd := .ops [⟨some 3, .move (.tmp 0), 30, none⟩,
    ⟨some 4, .call { callee := (.value (.func 41)), args := #[(.tmp 3), (.const (.int .i64 0))], argTypes := #[30, 3] }, 30, none⟩,
    ⟨some 5, .build 82 #[(0, (.tmp 4))], 82, none⟩,
    ⟨some 6, .box 82 (.tmp 5), 71, none⟩,
    ⟨some 2, .assign (.tmp 6), 71, none⟩]
@[go_sem] def c43 : Cmd := (.seq c43_0 (.seq c43_1 .ret))
theorem b43 : Tryd.f43.body.map (comp 7) = some c43 := by kernel_rfl
theorem r43 : Tryd.f43.results.toList = [.tmp 2] := by kernel_rfl
-- 44 (*pith/varint.Reader).Int
@[go_sem] def c44_0 : Cmd := .ops [⟨some 2, .assign (.const (.int .i64 0)), 3, none⟩]
@[go_sem] def c44_1 : Cmd := .ops [⟨some 6, .move (.tmp 0), 71, none⟩,
    ⟨some 7, .nilCheck (.tmp 6), 0, none⟩,
    ⟨some 8, .fieldAddr 82 (.tmp 7) 2, 0, none⟩,
    ⟨some 9, .load 32 (.tmp 8), 32, none⟩,
    ⟨some 10, .binOp .neq 32 (.tmp 9) (.const (.int .i64 0)) 32, 4, none⟩]
@[go_sem] def c44_2 : Cmd := .ops [⟨some 2, .assign (.const (.int .i64 0)), 3, none⟩]
@[go_sem] def c44_3 : Cmd := .cond (.tmp 10) (.seq c44_2 .ret) .skip
@[go_sem] def c44_4 : Cmd := .quiet [⟨some 12, .move (.tmp 0), 71, none⟩,
    ⟨some 13, .nilCheck (.tmp 12), 0, none⟩,
    ⟨some 14, .fieldAddr 82 (.tmp 13) 0, 0, none⟩,
    ⟨some 15, .load 30 (.tmp 14), 30, none⟩,
    ⟨some 16, .move (.tmp 0), 71, none⟩,
    ⟨some 17, .nilCheck (.tmp 16), 0, none⟩,
    ⟨some 18, .fieldAddr 82 (.tmp 17) 1, 0, none⟩,
    ⟨some 19, .load 3 (.tmp 18), 3, none⟩,
    ⟨some 20, .slice 30 (.tmp 15) (some (.tmp 19)) none none, 30, none⟩,
    ⟨some 21, .call { callee := (.value (.func 52)), args := #[(.tmp 20)], argTypes := #[30] }, 83, none⟩,
    ⟨some 11, .move (.tmp 21), 83, none⟩,
    ⟨some 22, .extract (.tmp 11) 0, 3, none⟩,
    ⟨some 23, .extract (.tmp 11) 1, 3, none⟩,
    ⟨some 24, .extract (.tmp 11) 2, 32, none⟩,
    ⟨some 3, .assign (.tmp 22), 3, none⟩,
    ⟨some 4, .assign (.tmp 23), 3, none⟩,
    ⟨some 5, .assign (.tmp 24), 32, none⟩]
@[go_sem] def c44_5 : Cmd := .ops [⟨some 25, .move (.tmp 0), 71, none⟩,
    ⟨some 26, .move (.tmp 0), 71, none⟩,
    ⟨some 27, .move (.tmp 0), 71, none⟩,
    ⟨some 28, .nilCheck (.tmp 27), 0, none⟩,
    ⟨some 29, .fieldAddr 82 (.tmp 28) 1, 0, none⟩,
    ⟨some 30, .load 3 (.tmp 29), 3, none⟩,
    ⟨some 31, .move (.tmp 4), 3, none⟩,
    ⟨some 32, .binOp .add 3 (.tmp 30) (.tmp 31) 3, 3, none⟩,
    ⟨some 33, .move (.tmp 5), 32, none⟩,
    ⟨some 34, .nilCheck (.tmp 25), 0, none⟩,
    ⟨some 35, .fieldAddr 82 (.tmp 34) 1, 0, none⟩,
    ⟨none, .store 3 (.tmp 35) (.tmp 32), 0, none⟩,
    ⟨some 36, .nilCheck (.tmp 26), 0, none⟩,
    ⟨some 37, .fieldAddr 82 (.tmp 36) 2, 0, none⟩,
    ⟨none, .store 32 (.tmp 37) (.tmp 33), 0, none⟩]
@[go_sem] def c44_6 : Cmd := .ops [⟨some 38, .move (.tmp 3), 3, none⟩,
    ⟨some 2, .assign (.tmp 38), 3, none⟩]
@[go_sem] def c44 : Cmd := (.seq c44_0 (.seq (.seq c44_1 c44_3) (.seq c44_4 (.seq c44_5 (.seq c44_6 .ret)))))
theorem b44 : Tryd.f44.body.map (comp 39) = some c44 := by kernel_rfl
theorem r44 : Tryd.f44.results.toList = [.tmp 2] := by kernel_rfl
-- 45 (*pith/varint.Reader).Err
@[go_sem] def c45_0 : Cmd := .ops [⟨some 2, .assign (.const (.int .i64 0)), 32, none⟩,
    ⟨some 3, .assign (.const (.int .i64 0)), 3, none⟩]
@[go_sem] def c45_1 : Cmd := .quiet [⟨some 4, .move (.tmp 0), 71, none⟩,
    ⟨some 5, .nilCheck (.tmp 4), 0, none⟩,
    ⟨some 6, .fieldAddr 82 (.tmp 5) 2, 0, none⟩,
    ⟨some 7, .load 32 (.tmp 6), 32, none⟩,
    ⟨some 8, .move (.tmp 0), 71, none⟩,
    ⟨some 9, .nilCheck (.tmp 8), 0, none⟩,
    ⟨some 10, .fieldAddr 82 (.tmp 9) 1, 0, none⟩,
    ⟨some 11, .load 3 (.tmp 10), 3, none⟩,
    ⟨some 2, .assign (.tmp 7), 32, none⟩,
    ⟨some 3, .assign (.tmp 11), 3, none⟩]
@[go_sem] def c45 : Cmd := (.seq c45_0 (.seq c45_1 .ret))
theorem b45 : Tryd.f45.body.map (comp 12) = some c45 := by kernel_rfl
theorem r45 : Tryd.f45.results.toList = [.tmp 2, .tmp 3] := by kernel_rfl
-- 46 (*pith/varint.Reader).Left
@[go_sem] def c46_0 : Cmd := .ops [⟨some 2, .assign (.const (.int .i64 0)), 3, none⟩]
@[go_sem] def c46_1 : Cmd := .ops [⟨some 3, .move (.tmp 0), 71, none⟩,
    ⟨some 4, .nilCheck (.tmp 3), 0, none⟩,
    ⟨some 5, .fieldAddr 82 (.tmp 4) 2, 0, none⟩,
    ⟨some 6, .load 32 (.tmp 5), 32, none⟩,
    ⟨some 7, .binOp .neq 32 (.tmp 6) (.const (.int .i64 0)) 32, 4, none⟩]
@[go_sem] def c46_2 : Cmd := .ops [⟨some 2, .assign (.const (.int .i64 0)), 3, none⟩]
@[go_sem] def c46_3 : Cmd := .cond (.tmp 7) (.seq c46_2 .ret) .skip
@[go_sem] def c46_4 : Cmd := .quiet [⟨some 8, .move (.tmp 0), 71, none⟩,
    ⟨some 9, .nilCheck (.tmp 8), 0, none⟩,
    ⟨some 10, .fieldAddr 82 (.tmp 9) 0, 0, none⟩,
    ⟨some 11, .load 30 (.tmp 10), 30, none⟩,
    ⟨some 12, .call { callee := (.builtin .len), args := #[(.tmp 11)], argTypes := #[30] }, 3, none⟩,
    ⟨some 13, .move (.tmp 0), 71, none⟩,
    ⟨some 14, .nilCheck (.tmp 13), 0, none⟩,
    ⟨some 15, .fieldAddr 82 (.tmp 14) 1, 0, none⟩,
    ⟨some 16, .load 3 (.tmp 15), 3, none⟩,
    ⟨some 17, .binOp .sub 3 (.tmp 12) (.tmp 16) 3, 3, none⟩,
    ⟨some 2, .assign (.tmp 17), 3, none⟩]
@[go_sem] def c46 : Cmd := (.seq c46_0 (.seq (.seq c46_1 c46_3) (.seq c46_4 .ret)))
theorem b46 : Tryd.f46.body.map (comp 18) = some c46 := by kernel_rfl
theorem r46 : Tryd.f46.results.toList = [.tmp 2] := by kernel_rfl
-- 47 pith/pithref1.NewReader
@[go_sem] def c47_0 : Cmd := .ops [⟨some 2, .assign (.const (.pointer none)), 76, none⟩]
@[go_sem] def c47_1 : Cmd := .ops [⟨some 3, .move (.tmp 0), 30, none⟩,
    ⟨some 4, .call { callee := (.value (.func 53)), args := #[(.tmp 3)], argTypes := #[30] }, 76, none⟩,
    ⟨some 2, .assign (.tmp 4), 76, none⟩]
@[go_sem] def c47 : Cmd := (.seq c47_0 (.seq c47_1 .ret))
theorem b47 : Tryd.f47.body.map (comp 5) = some c47 := by kernel_rfl
theorem r47 : Tryd.f47.results.toList = [.tmp 2] := by kernel_rfl
-- 48 (*pith/pithref1.Reader).Int
@[go_sem] def c48_0 : Cmd := .ops [⟨some 2, .assign (.const (.int .i64 0)), 3, none⟩]
@[go_sem] def c48_1 : Cmd := .ops [⟨some 6, .move (.tmp 0), 76, none⟩,
    ⟨some 7, .nilCheck (.tmp 6), 0, none⟩,
    ⟨some 8, .fieldAddr 86 (.tmp 7) 2, 0, none⟩,
    ⟨some 9, .load 3 (.tmp 8), 3, none⟩,
    ⟨some 10, .binOp .neq 3 (.tmp 9) (.const (.int .i64 0)) 3, 4, none⟩]
@[go_sem] def c48_2 : Cmd := .ops [⟨some 2, .assign (.const (.int .i64 0)), 3, none⟩]
@[go_sem] def c48_3 : Cmd := .cond (.tmp 10) (.seq c48_2 .ret) .skip
@[go_sem] def c48_4 : Cmd := .ops [⟨some 12, .move (.tmp 0), 76, none⟩,
    ⟨some 13, .move (.tmp 0), 76, none⟩,
    ⟨some 14, .nilCheck (.tmp 13), 0, none⟩,
    ⟨some 15, .fieldAddr 86 (.tmp 14) 1, 0, none⟩,
    ⟨some 16, .load 3 (.tmp 15), 3, none⟩,
    ⟨some 17, .call { callee := (.value (.func 54)), args := #[(.tmp 12), (.tmp 16)], argTypes := #[76, 3] }, 87, none⟩,
    ⟨some 11, .move (.tmp 17), 87, none⟩,
    ⟨some 18, .extract (.tmp 11) 0, 3, none⟩,
    ⟨some 19, .extract (.tmp 11) 1, 3, none⟩,
    ⟨some 20, .extract (.tmp 11) 2, 3, none⟩,
    ⟨some 3, .assign (.tmp 18), 3, none⟩,
    ⟨some 4, .assign (.tmp 19), 3, none⟩,
    ⟨some 5, .assign (.tmp 20), 3, none⟩]
@[go_sem] def c48_5 : Cmd := .ops [⟨some 21, .move (.tmp 0), 76, none⟩,
    ⟨some 22, .move (.tmp 5), 3, none⟩,
    ⟨some 23, .nilCheck (.tmp 21), 0, none⟩,
    ⟨some 24, .fieldAddr 86 (.tmp 23) 2, 0, none⟩,
    ⟨none, .store 3 (.tmp 24) (.tmp 22), 0, none⟩]
@[go_sem] def c48_6 : Cmd := .ops [⟨some 25, .move (.tmp 0), 76, none⟩,
    ⟨some 26, .move (.tmp 4), 3, none⟩,
    ⟨some 27, .nilCheck (.tmp 25), 0, none⟩,
    ⟨some 28, .fieldAddr 86 (.tmp 27) 1, 0, none⟩,
    ⟨none, .store 3 (.tmp 28) (.tmp 26), 0, none⟩]
@[go_sem] def c48_7 : Cmd := .ops [⟨some 29, .move (.tmp 3), 3, none⟩,
    ⟨some 2, .assign (.tmp 29), 3, none⟩]
@[go_sem] def c48 : Cmd := (.seq c48_0 (.seq (.seq c48_1 c48_3) (.seq c48_4 (.seq c48_5 (.seq c48_6 (.seq c48_7 .ret))))))
theorem b48 : Tryd.f48.body.map (comp 30) = some c48 := by kernel_rfl
theorem r48 : Tryd.f48.results.toList = [.tmp 2] := by kernel_rfl
-- 49 (*pith/pithref1.Reader).Err
@[go_sem] def c49_0 : Cmd := .ops [⟨some 2, .assign (.const (.int .i64 0)), 3, none⟩,
    ⟨some 3, .assign (.const (.int .i64 0)), 3, none⟩]
@[go_sem] def c49_1 : Cmd := .quiet [⟨some 4, .move (.tmp 0), 76, none⟩,
    ⟨some 5, .nilCheck (.tmp 4), 0, none⟩,
    ⟨some 6, .fieldAddr 86 (.tmp 5) 2, 0, none⟩,
    ⟨some 7, .load 3 (.tmp 6), 3, none⟩,
    ⟨some 8, .move (.tmp 0), 76, none⟩,
    ⟨some 9, .nilCheck (.tmp 8), 0, none⟩,
    ⟨some 10, .fieldAddr 86 (.tmp 9) 1, 0, none⟩,
    ⟨some 11, .load 3 (.tmp 10), 3, none⟩,
    ⟨some 2, .assign (.tmp 7), 3, none⟩,
    ⟨some 3, .assign (.tmp 11), 3, none⟩]
@[go_sem] def c49 : Cmd := (.seq c49_0 (.seq c49_1 .ret))
theorem b49 : Tryd.f49.body.map (comp 12) = some c49 := by kernel_rfl
theorem r49 : Tryd.f49.results.toList = [.tmp 2, .tmp 3] := by kernel_rfl
-- 50 internal/strconv.FormatInt
@[go_sem] def c50_0 : Cmd := .ops [⟨some 4, .assign (.const (.string ⟨#[]⟩)), 9, none⟩]
@[go_sem] def c50_1 : Cmd := .ops [⟨some 10, .move (.tmp 1), 3, none⟩,
    ⟨some 11, .binOp .eql 3 (.tmp 10) (.const (.int .i64 10)) 3, 4, none⟩]
@[go_sem] def c50_2 : Cmd := .ops [⟨some 12, .move (.tmp 0), 2, none⟩,
    ⟨some 13, .binOp .leq 2 (.const (.int .i64 0)) (.tmp 12) 2, 4, none⟩,
    ⟨some 14, .move (.tmp 13), 4, none⟩,
    ⟨some 15, .move (.tmp 0), 2, some (14, true)⟩,
    ⟨some 16, .binOp .lss 2 (.tmp 15) (.const (.int .i64 100)) 2, 4, some (14, true)⟩,
    ⟨some 17, .pick (.tmp 14) (.tmp 16) (.const (.bool false)), 4, none⟩]
@[go_sem] def c50_3 : Cmd := .ops [⟨some 18, .move (.tmp 0), 2, none⟩,
    ⟨some 19, .call { callee := (.value (.func 55)), args := #[(.tmp 18)], argTypes := #[3] }, 9, none⟩,
    ⟨some 4, .assign (.tmp 19), 9, none⟩]
@[go_sem] def c50_4 : Cmd := .cond (.tmp 17) (.seq c50_3 .ret) .skip
@[go_sem] def c50_5 : Cmd := .ops [⟨some 5, .alloc 89, 0, none⟩]
@[go_sem] def c50_6 : Cmd := .ops [⟨some 20, .move (.tmp 0), 2, none⟩,
    ⟨some 21, .convert 2 90 (.tmp 20), 90, none⟩,
    ⟨some 6, .assign (.tmp 21), 90, none⟩]
@[go_sem] def c50_7 : Cmd := .ops [⟨some 22, .move (.tmp 0), 2, none⟩,
    ⟨some 23, .binOp .lss 2 (.tmp 22) (.const (.int .i64 0)) 2, 4, none⟩]
@[go_sem] def c50_8 : Cmd := .ops [⟨some 24, .move (.tmp 6), 90, none⟩,
    ⟨some 25, .unOp .neg 90 (.tmp 24), 90, none⟩,
    ⟨some 6, .assign (.tmp 25), 90, none⟩]
@[go_sem] def c50_9 : Cmd := .cond (.tmp 23) c50_8 .skip
@[go_sem] def c50_10 : Cmd := .ops [⟨some 26, .move (.tmp 6), 90, none⟩,
    ⟨some 27, .call { callee := (.value (.func 56)), args := #[(.tmp 26)], argTypes := #[90] }, 3, none⟩,
    ⟨some 7, .assign (.tmp 27), 3, none⟩]
@[go_sem] def c50_11 : Cmd := .ops [⟨some 28, .move (.tmp 7), 3, none⟩,
    ⟨some 29, .binOp .add 3 (.const (.int .i64 1)) (.tmp 28) 3, 3, none⟩,
    ⟨some 30, .slice 89 (.tmp 5) (some (.const (.int .i64 1))) (some (.tmp 29)) none, 30, none⟩,
    ⟨some 31, .move (.tmp 6), 90, none⟩,
    ⟨some 32, .call { callee := (.value (.func 57)), args := #[(.tmp 30), (.tmp 31)], argTypes := #[30, 90] }, 0, none⟩]
@[go_sem] def c50_12 : Cmd := .ops [⟨some 33, .move (.tmp 0), 2, none⟩,
    ⟨some 34, .binOp .lss 2 (.tmp 33) (.const (.int .i64 0)) 2, 4, none⟩]
@[go_sem] def c50_13 : Cmd := .ops [⟨some 35, .indexAddr 89 (.tmp 5) (.const (.int .i64 0)), 0, none⟩,
    ⟨none, .store 5 (.tmp 35) (.const (.int .u8 45)), 0, none⟩]
@[go_sem] def c50_14 : Cmd := .ops [⟨some 36, .move (.tmp 7), 3, none⟩,
    ⟨some 37, .binOp .add 3 (.const (.int .i64 1)) (.tmp 36) 3, 3, none⟩,
    ⟨some 38, .slice 89 (.tmp 5) none (some (.tmp 37)) none, 30, none⟩,
    ⟨some 39, .convert 30 9 (.tmp 38), 9, none⟩,
    ⟨some 4, .assign (.tmp 39), 9, none⟩]
@[go_sem] def c50_15 : Cmd := .cond (.tmp 34) (.seq c50_13 (.seq c50_14 .ret)) .skip
@[go_sem] def c50_16 : Cmd := .ops [⟨some 40, .move (.tmp 7), 3, none⟩,
    ⟨some 41, .binOp .add 3 (.const (.int .i64 1)) (.tmp 40) 3, 3, none⟩,
    ⟨some 42, .slice 89 (.tmp 5) (some (.const (.int .i64 1))) (some (.tmp 41)) none, 30, none⟩,
    ⟨some 43, .convert 30 9 (.tmp 42), 9, none⟩,
    ⟨some 4, .assign (.tmp 43), 9, none⟩]
@[go_sem] def c50_17 : Cmd := .cond (.tmp 11) (.seq (.seq c50_2 c50_4) (.seq c50_5 (.seq c50_6 (.seq (.seq c50_7 c50_9) (.seq c50_10 (.seq c50_11 (.seq (.seq c50_12 c50_15) (.seq c50_16 .ret)))))))) .skip
@[go_sem] def c50_18 : Cmd := .ops [⟨some 45, .move (.tmp 0), 2, none⟩,
    ⟨some 46, .convert 2 90 (.tmp 45), 90, none⟩,
    ⟨some 47, .move (.tmp 1), 3, none⟩,
    ⟨some 48, .move (.tmp 0), 2, none⟩,
    ⟨some 49, .binOp .lss 2 (.tmp 48) (.const (.int .i64 0)) 2, 4, none⟩,
    ⟨some 50, .call { callee := (.value (.func 58)), args := #[(.const (.slice none 0 0)), (.tmp 46), (.tmp 47), (.tmp 49), (.const (.bool false))], argTypes := #[30, 90, 3, 4, 4] }, 93, none⟩,
    ⟨some 44, .move (.tmp 50), 93, none⟩,
    ⟨some 51, .extract (.tmp 44) 0, 30, none⟩,
    ⟨some 52, .extract (.tmp 44) 1, 9, none⟩,
    ⟨some 8, .assign (.tmp 51), 30, none⟩,
    ⟨some 9, .assign (.tmp 52), 9, none⟩]
@[go_sem] def c50_19 : Cmd := .ops [⟨some 53, .move (.tmp 9), 9, none⟩,
    ⟨some 4, .assign (.tmp 53), 9, none⟩]
@[go_sem] def c50 : Cmd := (.seq c50_0 (.seq (.seq c50_1 c50_17) (.seq c50_18 (.seq c50_19 .ret))))
theorem b50 : Tryd.f50.body.map (comp 54) = some c50 := by kernel_rfl
theorem r50 : Tryd.f50.results.toList = [.tmp 4] := by kernel_rfl
-- 51 pith/varint.Len
@[go_sem] def c51_0 : Cmd := .ops [⟨some 2, .assign (.const (.int .i64 0)), 3, none⟩]
@[go_sem] def c51_1 : Cmd := .ops [⟨some 3, .assign (.const (.int .i64 1)), 3, none⟩]
@[go_sem] def c51_2 : Cmd := .ops [⟨some 4, .move (.tmp 0), 3, none⟩,
    ⟨some 5, .binOp .geq 3 (.tmp 4) (.const (.int .i64 128)) 3, 4, none⟩]
@[go_sem] def c51_3 : Cmd := .cond (.tmp 5) .skip (.exit 0)
@[go_sem] def c51_4 : Cmd := .ops [⟨some 6, .move (.tmp 0), 3, none⟩,
    ⟨some 7, .binOp .shr 3 (.tmp 6) (.const (.int .u64 7)) 68, 3, none⟩,
    ⟨some 0, .assign (.tmp 7), 3, none⟩]
@[go_sem] def c51_5 : Cmd := .ops [⟨some 8, .move (.tmp 3), 3, none⟩,
    ⟨some 9, .binOp .add 3 (.tmp 8) (.const (.int .i64 1)) 3, 3, none⟩,
    ⟨some 3, .assign (.tmp 9), 3, none⟩]
@[go_sem] def c51_6 : Cmd := .block 1 (.seq c51_4 c51_5)
def c51_L0 : Cmd := (.seq (.seq c51_2 c51_3) c51_6)
@[go_sem] def c51_7 : Cmd := .loop c51_L0
@[go_sem] def c51_8 : Cmd := .block 0 c51_7
@[go_sem] def c51_9 : Cmd := .ops [⟨some 10, .move (.tmp 3), 3, none⟩,
    ⟨some 2, .assign (.tmp 10), 3, none⟩]
@[go_sem] def c51 : Cmd := (.seq c51_0 (.seq c51_1 (.seq c51_8 (.seq c51_9 .ret))))
theorem b51 : Tryd.f51.body.map (comp 11) = some c51 := by kernel_rfl
theorem r51 : Tryd.f51.results.toList = [.tmp 2] := by kernel_rfl
-- 52 pith/varint.form
@[go_sem] def c52_0 : Cmd := .ops [⟨some 2, .assign (.const (.int .i64 0)), 3, none⟩,
    ⟨some 3, .assign (.const (.int .i64 0)), 3, none⟩,
    ⟨some 4, .assign (.const (.int .i64 0)), 32, none⟩]
@[go_sem] def c52_1 : Cmd := .ops [⟨some 8, .move (.tmp 0), 30, none⟩,
    ⟨some 9, .call { callee := (.builtin .len), args := #[(.tmp 8)], argTypes := #[30] }, 3, none⟩,
    ⟨some 10, .binOp .gtr 3 (.tmp 9) (.const (.int .i64 0)) 3, 4, none⟩,
    ⟨some 11, .move (.tmp 10), 4, none⟩,
    ⟨some 12, .move (.tmp 0), 30, some (11, true)⟩,
    ⟨some 13, .indexAddr 30 (.tmp 12) (.const (.int .i64 0)), 0, some (11, true)⟩,
    ⟨some 14, .load 5 (.tmp 13), 5, some (11, true)⟩,
    ⟨some 15, .binOp .eql 5 (.tmp 14) (.const (.int .u8 128)) 5, 4, some (11, true)⟩,
    ⟨some 16, .pick (.tmp 11) (.tmp 15) (.const (.bool false)), 4, none⟩]
@[go_sem] def c52_2 : Cmd := .ops [⟨some 2, .assign (.const (.int .i64 0)), 3, none⟩,
    ⟨some 3, .assign (.const (.int .i64 0)), 3, none⟩,
    ⟨some 4, .assign (.const (.int .i64 11)), 32, none⟩]
@[go_sem] def c52_3 : Cmd := .cond (.tmp 16) (.seq c52_2 .ret) .skip
@[go_sem] def c52_4 : Cmd := .ops [⟨some 5, .assign (.const (.int .i64 0)), 3, none⟩]
@[go_sem] def c52_5 : Cmd := .ops [⟨some 17, .move (.tmp 0), 30, none⟩,
    ⟨some 18, .move (.tmp 0), 30, none⟩,
    ⟨some 19, .call { callee := (.builtin .len), args := #[(.tmp 18)], argTypes := #[30] }, 3, none⟩,
    ⟨some 20, .call { callee := (.builtin .min), args := #[(.tmp 19), (.const (.int .i64 9))], argTypes := #[3, 3] }, 3, none⟩,
    ⟨some 21, .move (.tmp 0), 30, none⟩,
    ⟨some 22, .call { callee := (.builtin .len), args := #[(.tmp 21)], argTypes := #[30] }, 3, none⟩,
    ⟨some 23, .call { callee := (.builtin .min), args := #[(.tmp 22), (.const (.int .i64 9))], argTypes := #[3, 3] }, 3, none⟩,
    ⟨some 24, .slice 30 (.tmp 17) none (some (.tmp 20)) (some (.tmp 23)), 30, none⟩,
    ⟨some 25, .call { callee := (.builtin .len), args := #[(.tmp 24)], argTypes := #[30] }, 3, none⟩,
    ⟨some 26, .move (.const (.int .i64 0)), 3, none⟩]
@[go_sem] def c52_6 : Cmd := .ops [⟨some 27, .binOp .lss 3 (.tmp 26) (.tmp 25) 3, 0, none⟩]
@[go_sem] def c52_7 : Cmd := .cond (.tmp 27) .skip (.exit 0)
@[go_sem] def c52_8 : Cmd := .ops [⟨some 28, .move (.tmp 26), 3, none⟩,
    ⟨some 29, .indexAddr 30 (.tmp 24) (.tmp 26), 0, none⟩,
    ⟨some 30, .load 5 (.tmp 29), 5, none⟩,
    ⟨some 6, .assign (.tmp 28), 3, none⟩,
    ⟨some 7, .assign (.tmp 30), 5, none⟩]
@[go_sem] def c52_9 : Cmd := .ops [⟨some 31, .move (.tmp 5), 3, none⟩,
    ⟨some 32, .binOp .shl 3 (.tmp 31) (.const (.int .u64 7)) 68, 3, none⟩,
    ⟨some 33, .move (.tmp 7), 5, none⟩,
    ⟨some 34, .binOp .and 5 (.tmp 33) (.const (.int .u8 127)) 5, 5, none⟩,
    ⟨some 35, .convert 5 3 (.tmp 34), 3, none⟩,
    ⟨some 36, .binOp .or 3 (.tmp 32) (.tmp 35) 3, 3, none⟩,
    ⟨some 5, .assign (.tmp 36), 3, none⟩]
@[go_sem] def c52_10 : Cmd := .ops [⟨some 37, .move (.tmp 7), 5, none⟩,
    ⟨some 38, .binOp .lss 5 (.tmp 37) (.const (.int .u8 128)) 5, 4, none⟩]
@[go_sem] def c52_11 : Cmd := .ops [⟨some 39, .move (.tmp 5), 3, none⟩,
    ⟨some 40, .move (.tmp 6), 3, none⟩,
    ⟨some 41, .binOp .add 3 (.tmp 40) (.const (.int .i64 1)) 3, 3, none⟩,
    ⟨some 2, .assign (.tmp 39), 3, none⟩,
    ⟨some 3, .assign (.tmp 41), 3, none⟩,
    ⟨some 4, .assign (.const (.int .i64 0)), 32, none⟩]
@[go_sem] def c52_12 : Cmd := .cond (.tmp 38) (.seq c52_11 .ret) .skip
@[go_sem] def c52_13 : Cmd := .block 1 (.seq c52_8 (.seq c52_9 (.seq c52_10 c52_12)))
@[go_sem] def c52_14 : Cmd := .ops [⟨some 42, .binOp .add 3 (.tmp 26) (.const (.int .i64 1)) 3, 3, none⟩,
    ⟨some 26, .move (.tmp 42), 3, none⟩]
def c52_L0 : Cmd := (.seq c52_6 (.seq c52_7 (.seq c52_13 c52_14)))
@[go_sem] def c52_15 : Cmd := .loop c52_L0
@[go_sem] def c52_16 : Cmd := .block 0 c52_15
@[go_sem] def c52_17 : Cmd := .ops [⟨some 43, .move (.tmp 0), 30, none⟩,
    ⟨some 44, .call { callee := (.builtin .len), args := #[(.tmp 43)], argTypes := #[30] }, 3, none⟩,
    ⟨some 45, .binOp .geq 3 (.tmp 44) (.const (.int .i64 9)) 3, 4, none⟩]
@[go_sem] def c52_18 : Cmd := .ops [⟨some 2, .assign (.const (.int .i64 0)), 3, none⟩,
    ⟨some 3, .assign (.const (.int .i64 0)), 3, none⟩,
    ⟨some 4, .assign (.const (.int .i64 12)), 32, none⟩]
@[go_sem] def c52_19 : Cmd := .cond (.tmp 45) (.seq c52_18 .ret) .skip
@[go_sem] def c52_20 : Cmd := .ops [⟨some 2, .assign (.const (.int .i64 0)), 3, none⟩,
    ⟨some 3, .assign (.const (.int .i64 0)), 3, none⟩,
    ⟨some 4, .assign (.const (.int .i64 10)), 32, none⟩]
@[go_sem] def c52 : Cmd := (.seq c52_0 (.seq (.seq c52_1 c52_3) (.seq c52_4 (.seq (.seq c52_5 c52_16) (.seq (.seq c52_17 c52_19) (.seq c52_20 .ret))))))
theorem b52 : Tryd.f52.body.map (comp 46) = some c52 := by kernel_rfl
theorem r52 : Tryd.f52.results.toList = [.tmp 2, .tmp 3, .tmp 4] := by kernel_rfl
-- 53 pith/pithref1.New
@[go_sem] def c53_0 : Cmd := .ops [⟨some 2, .assign (.const (.pointer none)), 76, none⟩]
@[go_sem] def c53_1 : Cmd := .ops [⟨some 3, .move (.tmp 0), 30, none⟩,
    ⟨some 4, .call { callee := (.value (.func 18)), args := #[(.tmp 3)], argTypes := #[30] }, 30, none⟩,
    ⟨some 5, .build 86 #[(0, (.tmp 4))], 86, none⟩,
    ⟨some 6, .box 86 (.tmp 5), 76, none⟩,
    ⟨some 2, .assign (.tmp 6), 76, none⟩]
@[go_sem] def c53 : Cmd := (.seq c53_0 (.seq c53_1 .ret))
theorem b53 : Tryd.f53.body.map (comp 7) = some c53 := by kernel_rfl
theorem r53 : Tryd.f53.results.toList = [.tmp 2] := by kernel_rfl
-- 54 (*pith/pithref1.Reader).number
@[go_sem] def c54_0 : Cmd := .ops [⟨some 4, .assign (.const (.int .i64 0)), 3, none⟩,
    ⟨some 5, .assign (.const (.int .i64 0)), 3, none⟩,
    ⟨some 6, .assign (.const (.int .i64 0)), 3, none⟩]
@[go_sem] def c54_1 : Cmd := .ops [⟨some 10, .move (.tmp 1), 3, none⟩,
    ⟨some 11, .move (.tmp 0), 76, none⟩,
    ⟨some 12, .nilCheck (.tmp 11), 0, none⟩,
    ⟨some 13, .fieldAddr 86 (.tmp 12) 0, 0, none⟩,
    ⟨some 14, .load 30 (.tmp 13), 30, none⟩,
    ⟨some 15, .call { callee := (.builtin .len), args := #[(.tmp 14)], argTypes := #[30] }, 3, none⟩,
    ⟨some 16, .binOp .lss 3 (.tmp 10) (.tmp 15) 3, 4, none⟩,
    ⟨some 17, .move (.tmp 16), 4, none⟩,
    ⟨some 18, .move (.tmp 0), 76, some (17, true)⟩,
    ⟨some 19, .nilCheck (.tmp 18), 0, some (17, true)⟩,
    ⟨some 20, .fieldAddr 86 (.tmp 19) 0, 0, some (17, true)⟩,
    ⟨some 21, .load 30 (.tmp 20), 30, some (17, true)⟩,
    ⟨some 22, .move (.tmp 1), 3, some (17, true)⟩,
    ⟨some 23, .indexAddr 30 (.tmp 21) (.tmp 22), 0, some (17, true)⟩,
    ⟨some 24, .load 5 (.tmp 23), 5, some (17, true)⟩,
    ⟨some 25, .binOp .eql 5 (.tmp 24) (.const (.int .u8 128)) 5, 4, some (17, true)⟩,
    ⟨some 26, .pick (.tmp 17) (.tmp 25) (.const (.bool false)), 4, none⟩]
@[go_sem] def c54_2 : Cmd := .ops [⟨some 27, .move (.tmp 1), 3, none⟩,
    ⟨some 4, .assign (.const (.int .i64 0)), 3, none⟩,
    ⟨some 5, .assign (.tmp 27), 3, none⟩,
    ⟨some 6, .assign (.const (.int .i64 11)), 3, none⟩]
@[go_sem] def c54_3 : Cmd := .cond (.tmp 26) (.seq c54_2 .ret) .skip
@[go_sem] def c54_4 : Cmd := .ops [⟨some 7, .assign (.const (.int .i64 0)), 3, none⟩]
@[go_sem] def c54_5 : Cmd := .ops [⟨some 28, .move (.tmp 7), 3, none⟩,
    ⟨some 29, .binOp .lss 3 (.tmp 28) (.const (.int .i64 9)) 3, 4, none⟩,
    ⟨some 30, .move (.tmp 29), 4, none⟩,
    ⟨some 31, .move (.tmp 1), 3, some (30, true)⟩,
    ⟨some 32, .move (.tmp 7), 3, some (30, true)⟩,
    ⟨some 33, .binOp .add 3 (.tmp 31) (.tmp 32) 3, 3, some (30, true)⟩,
    ⟨some 34, .move (.tmp 0), 76, some (30, true)⟩,
    ⟨some 35, .nilCheck (.tmp 34), 0, some (30, true)⟩,
    ⟨some 36, .fieldAddr 86 (.tmp 35) 0, 0, some (30, true)⟩,
    ⟨some 37, .load 30 (.tmp 36), 30, some (30, true)⟩,
    ⟨some 38, .call { callee := (.builtin .len), args := #[(.tmp 37)], argTypes := #[30] }, 3, some (30, true)⟩,
    ⟨some 39, .binOp .lss 3 (.tmp 33) (.tmp 38) 3, 4, some (30, true)⟩,
    ⟨some 40, .pick (.tmp 30) (.tmp 39) (.const (.bool false)), 4, none⟩,
    ⟨some 41, .move (.tmp 40), 4, none⟩,
    ⟨some 42, .move (.tmp 0), 76, some (41, true)⟩,
    ⟨some 43, .nilCheck (.tmp 42), 0, some (41, true)⟩,
    ⟨some 44, .fieldAddr 86 (.tmp 43) 0, 0, some (41, true)⟩,
    ⟨some 45, .load 30 (.tmp 44), 30, some (41, true)⟩,
    ⟨some 46, .move (.tmp 1), 3, some (41, true)⟩,
    ⟨some 47, .move (.tmp 7), 3, some (41, true)⟩,
    ⟨some 48, .binOp .add 3 (.tmp 46) (.tmp 47) 3, 3, some (41, true)⟩,
    ⟨some 49, .indexAddr 30 (.tmp 45) (.tmp 48), 0, some (41, true)⟩,
    ⟨some 50, .load 5 (.tmp 49), 5, some (41, true)⟩,
    ⟨some 51, .binOp .geq 5 (.tmp 50) (.const (.int .u8 128)) 5, 4, some (41, true)⟩,
    ⟨some 52, .pick (.tmp 41) (.tmp 51) (.const (.bool false)), 4, none⟩]
@[go_sem] def c54_6 : Cmd := .cond (.tmp 52) .skip (.exit 0)
@[go_sem] def c54_7 : Cmd := .ops [⟨some 53, .move (.tmp 7), 3, none⟩,
    ⟨some 54, .binOp .add 3 (.tmp 53) (.const (.int .i64 1)) 3, 3, none⟩,
    ⟨some 7, .assign (.tmp 54), 3, none⟩]
@[go_sem] def c54_8 : Cmd := .block 1 c54_7
def c54_L0 : Cmd := (.seq (.seq c54_5 c54_6) c54_8)
@[go_sem] def c54_9 : Cmd := .loop c54_L0
@[go_sem] def c54_10 : Cmd := .block 0 c54_9
@[go_sem] def c54_11 : Cmd := .ops [⟨some 55, .move (.tmp 7), 3, none⟩,
    ⟨some 56, .binOp .eql 3 (.tmp 55) (.const (.int .i64 9)) 3, 4, none⟩]
@[go_sem] def c54_12 : Cmd := .ops [⟨some 57, .move (.tmp 1), 3, none⟩,
    ⟨some 4, .assign (.const (.int .i64 0)), 3, none⟩,
    ⟨some 5, .assign (.tmp 57), 3, none⟩,
    ⟨some 6, .assign (.const (.int .i64 12)), 3, none⟩]
@[go_sem] def c54_13 : Cmd := .cond (.tmp 56) (.seq c54_12 .ret) .skip
@[go_sem] def c54_14 : Cmd := .ops [⟨some 58, .move (.tmp 1), 3, none⟩,
    ⟨some 59, .move (.tmp 7), 3, none⟩,
    ⟨some 60, .binOp .add 3 (.tmp 58) (.tmp 59) 3, 3, none⟩,
    ⟨some 61, .move (.tmp 0), 76, none⟩,
    ⟨some 62, .nilCheck (.tmp 61), 0, none⟩,
    ⟨some 63, .fieldAddr 86 (.tmp 62) 0, 0, none⟩,
    ⟨some 64, .load 30 (.tmp 63), 30, none⟩,
    ⟨some 65, .call { callee := (.builtin .len), args := #[(.tmp 64)], argTypes := #[30] }, 3, none⟩,
    ⟨some 66, .binOp .eql 3 (.tmp 60) (.tmp 65) 3, 4, none⟩]
@[go_sem] def c54_15 : Cmd := .ops [⟨some 67, .move (.tmp 1), 3, none⟩,
    ⟨some 4, .assign (.const (.int .i64 0)), 3, none⟩,
    ⟨some 5, .assign (.tmp 67), 3, none⟩,
    ⟨some 6, .assign (.const (.int .i64 10)), 3, none⟩]
@[go_sem] def c54_16 : Cmd := .cond (.tmp 66) (.seq c54_15 .ret) .skip
@[go_sem] def c54_17 : Cmd := .ops [⟨some 8, .assign (.const (.int .i64 0)), 3, none⟩]
@[go_sem] def c54_18 : Cmd := .ops [⟨some 9, .assign (.const (.int .i64 0)), 3, none⟩]
@[go_sem] def c54_19 : Cmd := .ops [⟨some 68, .move (.tmp 9), 3, none⟩,
    ⟨some 69, .move (.tmp 7), 3, none⟩,
    ⟨some 70, .binOp .leq 3 (.tmp 68) (.tmp 69) 3, 4, none⟩]
@[go_sem] def c54_20 : Cmd := .cond (.tmp 70) .skip (.exit 2)
@[go_sem] def c54_21 : Cmd := .ops [⟨some 73, .move (.tmp 8), 3, none⟩,
    ⟨some 74, .binOp .mul 3 (.tmp 73) (.const (.int .i64 128)) 3, 3, none⟩,
    ⟨some 75, .move (.tmp 0), 76, none⟩,
    ⟨some 76, .nilCheck (.tmp 75), 0, none⟩,
    ⟨some 77, .fieldAddr 86 (.tmp 76) 0, 0, none⟩,
    ⟨some 78, .load 30 (.tmp 77), 30, none⟩,
    ⟨some 79, .move (.tmp 1), 3, none⟩,
    ⟨some 80, .move (.tmp 9), 3, none⟩,
    ⟨some 81, .binOp .add 3 (.tmp 79) (.tmp 80) 3, 3, none⟩,
    ⟨some 82, .indexAddr 30 (.tmp 78) (.tmp 81), 0, none⟩,
    ⟨some 83, .load 5 (.tmp 82), 5, none⟩,
    ⟨some 84, .binOp .rem 5 (.tmp 83) (.const (.int .u8 128)) 5, 5, none⟩,
    ⟨some 85, .convert 5 3 (.tmp 84), 3, none⟩,
    ⟨some 86, .binOp .add 3 (.tmp 74) (.tmp 85) 3, 3, none⟩,
    ⟨some 8, .assign (.tmp 86), 3, none⟩]
@[go_sem] def c54_22 : Cmd := .block 3 c54_21
@[go_sem] def c54_23 : Cmd := .ops [⟨some 71, .move (.tmp 9), 3, none⟩,
    ⟨some 72, .binOp .add 3 (.tmp 71) (.const (.int .i64 1)) 3, 3, none⟩,
    ⟨some 9, .assign (.tmp 72), 3, none⟩]
def c54_L1 : Cmd := (.seq (.seq c54_19 c54_20) (.seq c54_22 c54_23))
@[go_sem] def c54_24 : Cmd := .loop c54_L1
@[go_sem] def c54_25 : Cmd := .block 2 c54_24
@[go_sem] def c54_26 : Cmd := .ops [⟨some 87, .move (.tmp 8), 3, none⟩,
    ⟨some 88, .move (.tmp 1), 3, none⟩,
    ⟨some 89, .move (.tmp 7), 3, none⟩,
    ⟨some 90, .binOp .add 3 (.tmp 88) (.tmp 89) 3, 3, none⟩,
    ⟨some 91, .binOp .add 3 (.tmp 90) (.const (.int .i64 1)) 3, 3, none⟩,
    ⟨some 4, .assign (.tmp 87), 3, none⟩,
    ⟨some 5, .assign (.tmp 91), 3, none⟩,
    ⟨some 6, .assign (.const (.int .i64 0)), 3, none⟩]
@[go_sem] def c54 : Cmd := (.seq c54_0 (.seq (.seq c54_1 c54_3) (.seq c54_4 (.seq c54_10 (.seq (.seq c54_11 c54_13) (.seq (.seq c54_14 c54_16) (.seq c54_17 (.seq (.seq c54_18 c54_25) (.seq c54_26 .ret)))))))))
theorem b54 : Tryd.f54.body.map (comp 92) = some c54 := by kernel_rfl
theorem r54 : Tryd.f54.results.toList = [.tmp 4, .tmp 5, .tmp 6] := by kernel_rfl
-- 55 internal/strconv.small
@[go_sem] def c55_0 : Cmd := .ops [⟨some 2, .assign (.const (.string ⟨#[]⟩)), 9, none⟩]
@[go_sem] def c55_1 : Cmd := .ops [⟨some 3, .move (.tmp 0), 3, none⟩,
    ⟨some 4, .binOp .lss 3 (.tmp 3) (.const (.int .i64 10)) 3, 4, none⟩]
@[go_sem] def c55_2 : Cmd := .ops [⟨some 5, .move (.tmp 0), 3, none⟩,
    ⟨some 6, .move (.tmp 0), 3, none⟩,
    ⟨some 7, .binOp .add 3 (.tmp 6) (.const (.int .i64 1)) 3, 3, none⟩,
    ⟨some 8, .slice 9 (.const (.string ⟨#[48, 49, 50, 51, 52, 53, 54, 55, 56, 57, 97, 98, 99, 100, 101, 102, 103, 104, 105, 106, 107, 108, 109, 110, 111, 112, 113, 114, 115, 116, 117, 118, 119, 120, 121, 122]⟩)) (some (.tmp 5)) (some (.tmp 7)) none, 9, none⟩,
    ⟨some 2, .assign (.tmp 8), 9, none⟩]
@[go_sem] def c55_3 : Cmd := .cond (.tmp 4) (.seq c55_2 .ret) .skip
@[go_sem] def c55_4 : Cmd := .ops [⟨some 9, .move (.tmp 0), 3, none⟩,
    ⟨some 10, .binOp .mul 3 (.tmp 9) (.const (.int .i64 2)) 3, 3, none⟩,
    ⟨some 11, .move (.tmp 0), 3, none⟩,
    ⟨some 12, .binOp .mul 3 (.tmp 11) (.const (.int .i64 2)) 3, 3, none⟩,
    ⟨some 13, .binOp .add 3 (.tmp 12) (.const (.int .i64 2)) 3, 3, none⟩,
    ⟨some 14, .slice 9 (.const (.string ⟨#[48, 48, 48, 49, 48, 50, 48, 51, 48, 52, 48, 53, 48, 54, 48, 55, 48, 56, 48, 57, 49, 48, 49, 49, 49, 50, 49, 51, 49, 52, 49, 53, 49, 54, 49, 55, 49, 56, 49, 57, 50, 48, 50, 49, 50, 50, 50, 51, 50, 52, 50, 53, 50, 54, 50, 55, 50, 56, 50, 57, 51, 48, 51, 49, 51, 50, 51, 51, 51, 52, 51, 53, 51, 54, 51, 55, 51, 56, 51, 57, 52, 48, 52, 49, 52, 50, 52, 51, 52, 52, 52, 53, 52, 54, 52, 55, 52, 56, 52, 57, 53, 48, 53, 49, 53, 50, 53, 51, 53, 52, 53, 53, 53, 54, 53, 55, 53, 56, 53, 57, 54, 48, 54, 49, 54, 50, 54, 51, 54, 52, 54, 53, 54, 54, 54, 55, 54, 56, 54, 57, 55, 48, 55, 49, 55, 50, 55, 51, 55, 52, 55, 53, 55, 54, 55, 55, 55, 56, 55, 57, 56, 48, 56, 49, 56, 50, 56, 51, 56, 52, 56, 53, 56, 54, 56, 55, 56, 56, 56, 57, 57, 48, 57, 49, 57, 50, 57, 51, 57, 52, 57, 53, 57, 54, 57, 55, 57, 56, 57, 57]⟩)) (some (.tmp 10)) (some (.tmp 13)) none, 9, none⟩,
    ⟨some 2, .assign (.tmp 14), 9, none⟩]
@[go_sem] def c55 : Cmd := (.seq c55_0 (.seq (.seq c55_1 c55_3) (.seq c55_4 .ret)))
theorem b55 : Tryd.f55.body.map (comp 15) = some c55 := by kernel_rfl
theorem r55 : Tryd.f55.results.toList = [.tmp 2] := by kernel_rfl
-- 56 internal/strconv.numDigits
@[go_sem] def c56_0 : Cmd := .ops [⟨some 2, .assign (.const (.int .i64 0)), 3, none⟩]
@[go_sem] def c56_1 : Cmd := .ops [⟨some 4, .move (.tmp 0), 90, none⟩,
    ⟨some 5, .call { callee := (.value (.func 60)), args := #[(.tmp 4)], argTypes := #[90] }, 3, none⟩,
    ⟨some 6, .call { callee := (.value (.func 59)), args := #[(.tmp 5)], argTypes := #[3] }, 3, none⟩,
    ⟨some 3, .assign (.tmp 6), 3, none⟩]
@[go_sem] def c56_2 : Cmd := .ops [⟨some 7, .move (.tmp 3), 3, none⟩,
    ⟨some 8, .move (.tmp 0), 90, none⟩,
    ⟨some 9, .move (.tmp 3), 3, none⟩,
    ⟨some 10, .indexAddr 96 (.global 0) (.tmp 9), 0, none⟩,
    ⟨some 11, .load 90 (.tmp 10), 90, none⟩,
    ⟨some 12, .binOp .geq 90 (.tmp 8) (.tmp 11) 90, 4, none⟩,
    ⟨some 13, .call { callee := (.value (.func 61)), args := #[(.tmp 12)], argTypes := #[4] }, 3, none⟩,
    ⟨some 14, .binOp .add 3 (.tmp 7) (.tmp 13) 3, 3, none⟩,
    ⟨some 2, .assign (.tmp 14), 3, none⟩]
@[go_sem] def c56 : Cmd := (.seq c56_0 (.seq c56_1 (.seq c56_2 .ret)))
theorem b56 : Tryd.f56.body.map (comp 15) = some c56 := by kernel_rfl
theorem r56 : Tryd.f56.results.toList = [.tmp 2] := by kernel_rfl
-- 57 internal/strconv.formatBase10
@[go_sem] def c57_0 : Cmd := .ops [⟨some 17, .move (.tmp 0), 30, none⟩,
    ⟨some 18, .call { callee := (.builtin .len), args := #[(.tmp 17)], argTypes := #[30] }, 3, none⟩,
    ⟨some 4, .assign (.tmp 18), 3, none⟩]
@[go_sem] def c57_1 : Cmd := .ops [⟨some 19, .move (.tmp 4), 3, none⟩,
    ⟨some 20, .binOp .geq 3 (.tmp 19) (.const (.int .i64 8)) 3, 4, none⟩]
@[go_sem] def c57_2 : Cmd := .cond (.tmp 20) .skip (.exit 0)
@[go_sem] def c57_3 : Cmd := .ops [⟨some 21, .move (.tmp 1), 90, none⟩,
    ⟨some 22, .binOp .rem 90 (.tmp 21) (.const (.int .u64 100000000)) 90, 90, none⟩,
    ⟨some 23, .convert 90 69 (.tmp 22), 69, none⟩,
    ⟨some 5, .assign (.tmp 23), 69, none⟩]
@[go_sem] def c57_4 : Cmd := .ops [⟨some 24, .move (.tmp 1), 90, none⟩,
    ⟨some 25, .binOp .quo 90 (.tmp 24) (.const (.int .u64 100000000)) 90, 90, none⟩,
    ⟨some 1, .assign (.tmp 25), 90, none⟩]
@[go_sem] def c57_5 : Cmd := .ops [⟨some 26, .move (.tmp 5), 69, none⟩,
    ⟨some 27, .binOp .quo 69 (.tmp 26) (.const (.int .u32 10000)) 69, 69, none⟩,
    ⟨some 28, .move (.tmp 5), 69, none⟩,
    ⟨some 29, .binOp .rem 69 (.tmp 28) (.const (.int .u32 10000)) 69, 69, none⟩,
    ⟨some 6, .assign (.tmp 27), 69, none⟩,
    ⟨some 7, .assign (.tmp 29), 69, none⟩]
@[go_sem] def c57_6 : Cmd := .ops [⟨some 30, .move (.tmp 7), 69, none⟩,
    ⟨some 31, .binOp .quo 69 (.tmp 30) (.const (.int .u32 100)) 69, 69, none⟩,
    ⟨some 32, .binOp .mul 69 (.tmp 31) (.const (.int .u32 2)) 69, 69, none⟩,
    ⟨some 33, .move (.tmp 7), 69, none⟩,
    ⟨some 34, .binOp .rem 69 (.tmp 33) (.const (.int .u32 100)) 69, 69, none⟩,
    ⟨some 35, .binOp .mul 69 (.tmp 34) (.const (.int .u32 2)) 69, 69, none⟩,
    ⟨some 8, .assign (.tmp 32), 69, none⟩,
    ⟨some 9, .assign (.tmp 35), 69, none⟩]
@[go_sem] def c57_7 : Cmd := .ops [⟨some 36, .move (.tmp 6), 69, none⟩,
    ⟨some 37, .binOp .quo 69 (.tmp 36) (.const (.int .u32 100)) 69, 69, none⟩,
    ⟨some 38, .binOp .mul 69 (.tmp 37) (.const (.int .u32 2)) 69, 69, none⟩,
    ⟨some 39, .move (.tmp 6), 69, none⟩,
    ⟨some 40, .binOp .rem 69 (.tmp 39) (.const (.int .u32 100)) 69, 69, none⟩,
    ⟨some 41, .binOp .mul 69 (.tmp 40) (.const (.int .u32 2)) 69, 69, none⟩,
    ⟨some 10, .assign (.tmp 38), 69, none⟩,
    ⟨some 11, .assign (.tmp 41), 69, none⟩]
@[go_sem] def c57_8 : Cmd := .draw (.step 3 ⟨some 42, .move (.tmp 0), 30, none⟩
    (.step 3 ⟨some 43, .move (.tmp 4), 3, none⟩
    (.step 3 ⟨some 44, .binOp .sub 3 (.tmp 43) (.const (.int .i64 1)) 3, 3, none⟩
    (.step 3 ⟨some 45, .move (.tmp 0), 30, none⟩
    (.step 3 ⟨some 46, .move (.tmp 4), 3, none⟩
    (.step 3 ⟨some 47, .binOp .sub 3 (.tmp 46) (.const (.int .i64 2)) 3, 3, none⟩
    (.step 3 ⟨some 48, .move (.tmp 9), 69, none⟩
    (.step 3 ⟨some 49, .binOp .add 69 (.tmp 48) (.const (.int .u32 1)) 69, 69, none⟩
    (.step 3 ⟨some 50, .index 9 (.const (.string ⟨#[48, 48, 48, 49, 48, 50, 48, 51, 48, 52, 48, 53, 48, 54, 48, 55, 48, 56, 48, 57, 49, 48, 49, 49, 49, 50, 49, 51, 49, 52, 49, 53, 49, 54, 49, 55, 49, 56, 49, 57, 50, 48, 50, 49, 50, 50, 50, 51, 50, 52, 50, 53, 50, 54, 50, 55, 50, 56, 50, 57, 51, 48, 51, 49, 51, 50, 51, 51, 51, 52, 51, 53, 51, 54, 51, 55, 51, 56, 51, 57, 52, 48, 52, 49, 52, 50, 52, 51, 52, 52, 52, 53, 52, 54, 52, 55, 52, 56, 52, 57, 53, 48, 53, 49, 53, 50, 53, 51, 53, 52, 53, 53, 53, 54, 53, 55, 53, 56, 53, 57, 54, 48, 54, 49, 54, 50, 54, 51, 54, 52, 54, 53, 54, 54, 54, 55, 54, 56, 54, 57, 55, 48, 55, 49, 55, 50, 55, 51, 55, 52, 55, 53, 55, 54, 55, 55, 55, 56, 55, 57, 56, 48, 56, 49, 56, 50, 56, 51, 56, 52, 56, 53, 56, 54, 56, 55, 56, 56, 56, 57, 57, 48, 57, 49, 57, 50, 57, 51, 57, 52, 57, 53, 57, 54, 57, 55, 57, 56, 57, 57]⟩)) (.tmp 49), 5, none⟩
    (.step 3 ⟨some 51, .move (.tmp 9), 69, none⟩
    (.step 3 ⟨some 52, .index 9 (.const (.string ⟨#[48, 48, 48, 49, 48, 50, 48, 51, 48, 52, 48, 53, 48, 54, 48, 55, 48, 56, 48, 57, 49, 48, 49, 49, 49, 50, 49, 51, 49, 52, 49, 53, 49, 54, 49, 55, 49, 56, 49, 57, 50, 48, 50, 49, 50, 50, 50, 51, 50, 52, 50, 53, 50, 54, 50, 55, 50, 56, 50, 57, 51, 48, 51, 49, 51, 50, 51, 51, 51, 52, 51, 53, 51, 54, 51, 55, 51, 56, 51, 57, 52, 48, 52, 49, 52, 50, 52, 51, 52, 52, 52, 53, 52, 54, 52, 55, 52, 56, 52, 57, 53, 48, 53, 49, 53, 50, 53, 51, 53, 52, 53, 53, 53, 54, 53, 55, 53, 56, 53, 57, 54, 48, 54, 49, 54, 50, 54, 51, 54, 52, 54, 53, 54, 54, 54, 55, 54, 56, 54, 57, 55, 48, 55, 49, 55, 50, 55, 51, 55, 52, 55, 53, 55, 54, 55, 55, 55, 56, 55, 57, 56, 48, 56, 49, 56, 50, 56, 51, 56, 52, 56, 53, 56, 54, 56, 55, 56, 56, 56, 57, 57, 48, 57, 49, 57, 50, 57, 51, 57, 52, 57, 53, 57, 54, 57, 55, 57, 56, 57, 57]⟩)) (.tmp 51), 5, none⟩
    (.step 3 ⟨some 53, .indexAddr 30 (.tmp 42) (.tmp 44), 0, none⟩
    (.step 2 ⟨none, .store 5 (.tmp 53) (.tmp 50), 0, none⟩
    (.step 3 ⟨some 54, .indexAddr 30 (.tmp 45) (.tmp 47), 0, none⟩
    (.step 2 ⟨none, .store 5 (.tmp 54) (.tmp 52), 0, none⟩
    .done)))))))))))))))
@[go_sem] def c57_9 : Cmd := .draw (.step 3 ⟨some 55, .move (.tmp 0), 30, none⟩
    (.step 3 ⟨some 56, .move (.tmp 4), 3, none⟩
    (.step 3 ⟨some 57, .binOp .sub 3 (.tmp 56) (.const (.int .i64 3)) 3, 3, none⟩
    (.step 3 ⟨some 58, .move (.tmp 0), 30, none⟩
    (.step 3 ⟨some 59, .move (.tmp 4), 3, none⟩
    (.step 3 ⟨some 60, .binOp .sub 3 (.tmp 59) (.const (.int .i64 4)) 3, 3, none⟩
    (.step 3 ⟨some 61, .move (.tmp 8), 69, none⟩
    (.step 3 ⟨some 62, .binOp .add 69 (.tmp 61) (.const (.int .u32 1)) 69, 69, none⟩
    (.step 3 ⟨some 63, .index 9 (.const (.string ⟨#[48, 48, 48, 49, 48, 50, 48, 51, 48, 52, 48, 53, 48, 54, 48, 55, 48, 56, 48, 57, 49, 48, 49, 49, 49, 50, 49, 51, 49, 52, 49, 53, 49, 54, 49, 55, 49, 56, 49, 57, 50, 48, 50, 49, 50, 50, 50, 51, 50, 52, 50, 53, 50, 54, 50, 55, 50, 56, 50, 57, 51, 48, 51, 49, 51, 50, 51, 51, 51, 52, 51, 53, 51, 54, 51, 55, 51, 56, 51, 57, 52, 48, 52, 49, 52, 50, 52, 51, 52, 52, 52, 53, 52, 54, 52, 55, 52, 56, 52, 57, 53, 48, 53, 49, 53, 50, 53, 51, 53, 52, 53, 53, 53, 54, 53, 55, 53, 56, 53, 57, 54, 48, 54, 49, 54, 50, 54, 51, 54, 52, 54, 53, 54, 54, 54, 55, 54, 56, 54, 57, 55, 48, 55, 49, 55, 50, 55, 51, 55, 52, 55, 53, 55, 54, 55, 55, 55, 56, 55, 57, 56, 48, 56, 49, 56, 50, 56, 51, 56, 52, 56, 53, 56, 54, 56, 55, 56, 56, 56, 57, 57, 48, 57, 49, 57, 50, 57, 51, 57, 52, 57, 53, 57, 54, 57, 55, 57, 56, 57, 57]⟩)) (.tmp 62), 5, none⟩
    (.step 3 ⟨some 64, .move (.tmp 8), 69, none⟩
    (.step 3 ⟨some 65, .index 9 (.const (.string ⟨#[48, 48, 48, 49, 48, 50, 48, 51, 48, 52, 48, 53, 48, 54, 48, 55, 48, 56, 48, 57, 49, 48, 49, 49, 49, 50, 49, 51, 49, 52, 49, 53, 49, 54, 49, 55, 49, 56, 49, 57, 50, 48, 50, 49, 50, 50, 50, 51, 50, 52, 50, 53, 50, 54, 50, 55, 50, 56, 50, 57, 51, 48, 51, 49, 51, 50, 51, 51, 51, 52, 51, 53, 51, 54, 51, 55, 51, 56, 51, 57, 52, 48, 52, 49, 52, 50, 52, 51, 52, 52, 52, 53, 52, 54, 52, 55, 52, 56, 52, 57, 53, 48, 53, 49, 53, 50, 53, 51, 53, 52, 53, 53, 53, 54, 53, 55, 53, 56, 53, 57, 54, 48, 54, 49, 54, 50, 54, 51, 54, 52, 54, 53, 54, 54, 54, 55, 54, 56, 54, 57, 55, 48, 55, 49, 55, 50, 55, 51, 55, 52, 55, 53, 55, 54, 55, 55, 55, 56, 55, 57, 56, 48, 56, 49, 56, 50, 56, 51, 56, 52, 56, 53, 56, 54, 56, 55, 56, 56, 56, 57, 57, 48, 57, 49, 57, 50, 57, 51, 57, 52, 57, 53, 57, 54, 57, 55, 57, 56, 57, 57]⟩)) (.tmp 64), 5, none⟩
    (.step 3 ⟨some 66, .indexAddr 30 (.tmp 55) (.tmp 57), 0, none⟩
    (.step 2 ⟨none, .store 5 (.tmp 66) (.tmp 63), 0, none⟩
    (.step 3 ⟨some 67, .indexAddr 30 (.tmp 58) (.tmp 60), 0, none⟩
    (.step 2 ⟨none, .store 5 (.tmp 67) (.tmp 65), 0, none⟩
    .done)))))))))))))))
@[go_sem] def c57_10 : Cmd := .draw (.step 3 ⟨some 68, .move (.tmp 0), 30, none⟩
    (.step 3 ⟨some 69, .move (.tmp 4), 3, none⟩
    (.step 3 ⟨some 70, .binOp .sub 3 (.tmp 69) (.const (.int .i64 5)) 3, 3, none⟩
    (.step 3 ⟨some 71, .move (.tmp 0), 30, none⟩
    (.step 3 ⟨some 72, .move (.tmp 4), 3, none⟩
    (.step 3 ⟨some 73, .binOp .sub 3 (.tmp 72) (.const (.int .i64 6)) 3, 3, none⟩
    (.step 3 ⟨some 74, .move (.tmp 11), 69, none⟩
    (.step 3 ⟨some 75, .binOp .add 69 (.tmp 74) (.const (.int .u32 1)) 69, 69, none⟩
    (.step 3 ⟨some 76, .index 9 (.const (.string ⟨#[48, 48, 48, 49, 48, 50, 48, 51, 48, 52, 48, 53, 48, 54, 48, 55, 48, 56, 48, 57, 49, 48, 49, 49, 49, 50, 49, 51, 49, 52, 49, 53, 49, 54, 49, 55, 49, 56, 49, 57, 50, 48, 50, 49, 50, 50, 50, 51, 50, 52, 50, 53, 50, 54, 50, 55, 50, 56, 50, 57, 51, 48, 51, 49, 51, 50, 51, 51, 51, 52, 51, 53, 51, 54, 51, 55, 51, 56, 51, 57, 52, 48, 52, 49, 52, 50, 52, 51, 52, 52, 52, 53, 52, 54, 52, 55, 52, 56, 52, 57, 53, 48, 53, 49, 53, 50, 53, 51, 53, 52, 53, 53, 53, 54, 53, 55, 53, 56, 53, 57, 54, 48, 54, 49, 54, 50, 54, 51, 54, 52, 54, 53, 54, 54, 54, 55, 54, 56, 54, 57, 55, 48, 55, 49, 55, 50, 55, 51, 55, 52, 55, 53, 55, 54, 55, 55, 55, 56, 55, 57, 56, 48, 56, 49, 56, 50, 56, 51, 56, 52, 56, 53, 56, 54, 56, 55, 56, 56, 56, 57, 57, 48, 57, 49, 57, 50, 57, 51, 57, 52, 57, 53, 57, 54, 57, 55, 57, 56, 57, 57]⟩)) (.tmp 75), 5, none⟩
    (.step 3 ⟨some 77, .move (.tmp 11), 69, none⟩
    (.step 3 ⟨some 78, .index 9 (.const (.string ⟨#[48, 48, 48, 49, 48, 50, 48, 51, 48, 52, 48, 53, 48, 54, 48, 55, 48, 56, 48, 57, 49, 48, 49, 49, 49, 50, 49, 51, 49, 52, 49, 53, 49, 54, 49, 55, 49, 56, 49, 57, 50, 48, 50, 49, 50, 50, 50, 51, 50, 52, 50, 53, 50, 54, 50, 55, 50, 56, 50, 57, 51, 48, 51, 49, 51, 50, 51, 51, 51, 52, 51, 53, 51, 54, 51, 55, 51, 56, 51, 57, 52, 48, 52, 49, 52, 50, 52, 51, 52, 52, 52, 53, 52, 54, 52, 55, 52, 56, 52, 57, 53, 48, 53, 49, 53, 50, 53, 51, 53, 52, 53, 53, 53, 54, 53, 55, 53, 56, 53, 57, 54, 48, 54, 49, 54, 50, 54, 51, 54, 52, 54, 53, 54, 54, 54, 55, 54, 56, 54, 57, 55, 48, 55, 49, 55, 50, 55, 51, 55, 52, 55, 53, 55, 54, 55, 55, 55, 56, 55, 57, 56, 48, 56, 49, 56, 50, 56, 51, 56, 52, 56, 53, 56, 54, 56, 55, 56, 56, 56, 57, 57, 48, 57, 49, 57, 50, 57, 51, 57, 52, 57, 53, 57, 54, 57, 55, 57, 56, 57, 57]⟩)) (.tmp 77), 5, none⟩
    (.step 3 ⟨some 79, .indexAddr 30 (.tmp 68) (.tmp 70), 0, none⟩
    (.step 2 ⟨none, .store 5 (.tmp 79) (.tmp 76), 0, none⟩
    (.step 3 ⟨some 80, .indexAddr 30 (.tmp 71) (.tmp 73), 0, none⟩
    (.step 2 ⟨none, .store 5 (.tmp 80) (.tmp 78), 0, none⟩
    .done)))))))))))))))
@[go_sem] def c57_11 : Cmd := .draw (.step 3 ⟨some 81, .move (.tmp 0), 30, none⟩
    (.step 3 ⟨some 82, .move (.tmp 4), 3, none⟩
    (.step 3 ⟨some 83, .binOp .sub 3 (.tmp 82) (.const (.int .i64 7)) 3, 3, none⟩
    (.step 3 ⟨some 84, .move (.tmp 0), 30, none⟩
    (.step 3 ⟨some 85, .move (.tmp 4), 3, none⟩
    (.step 3 ⟨some 86, .binOp .sub 3 (.tmp 85) (.const (.int .i64 8)) 3, 3, none⟩
    (.step 3 ⟨some 87, .move (.tmp 10), 69, none⟩
    (.step 3 ⟨some 88, .binOp .add 69 (.tmp 87) (.const (.int .u32 1)) 69, 69, none⟩
    (.step 3 ⟨some 89, .index 9 (.const (.string ⟨#[48, 48, 48, 49, 48, 50, 48, 51, 48, 52, 48, 53, 48, 54, 48, 55, 48, 56, 48, 57, 49, 48, 49, 49, 49, 50, 49, 51, 49, 52, 49, 53, 49, 54, 49, 55, 49, 56, 49, 57, 50, 48, 50, 49, 50, 50, 50, 51, 50, 52, 50, 53, 50, 54, 50, 55, 50, 56, 50, 57, 51, 48, 51, 49, 51, 50, 51, 51, 51, 52, 51, 53, 51, 54, 51, 55, 51, 56, 51, 57, 52, 48, 52, 49, 52, 50, 52, 51, 52, 52, 52, 53, 52, 54, 52, 55, 52, 56, 52, 57, 53, 48, 53, 49, 53, 50, 53, 51, 53, 52, 53, 53, 53, 54, 53, 55, 53, 56, 53, 57, 54, 48, 54, 49, 54, 50, 54, 51, 54, 52, 54, 53, 54, 54, 54, 55, 54, 56, 54, 57, 55, 48, 55, 49, 55, 50, 55, 51, 55, 52, 55, 53, 55, 54, 55, 55, 55, 56, 55, 57, 56, 48, 56, 49, 56, 50, 56, 51, 56, 52, 56, 53, 56, 54, 56, 55, 56, 56, 56, 57, 57, 48, 57, 49, 57, 50, 57, 51, 57, 52, 57, 53, 57, 54, 57, 55, 57, 56, 57, 57]⟩)) (.tmp 88), 5, none⟩
    (.step 3 ⟨some 90, .move (.tmp 10), 69, none⟩
    (.step 3 ⟨some 91, .index 9 (.const (.string ⟨#[48, 48, 48, 49, 48, 50, 48, 51, 48, 52, 48, 53, 48, 54, 48, 55, 48, 56, 48, 57, 49, 48, 49, 49, 49, 50, 49, 51, 49, 52, 49, 53, 49, 54, 49, 55, 49, 56, 49, 57, 50, 48, 50, 49, 50, 50, 50, 51, 50, 52, 50, 53, 50, 54, 50, 55, 50, 56, 50, 57, 51, 48, 51, 49, 51, 50, 51, 51, 51, 52, 51, 53, 51, 54, 51, 55, 51, 56, 51, 57, 52, 48, 52, 49, 52, 50, 52, 51, 52, 52, 52, 53, 52, 54, 52, 55, 52, 56, 52, 57, 53, 48, 53, 49, 53, 50, 53, 51, 53, 52, 53, 53, 53, 54, 53, 55, 53, 56, 53, 57, 54, 48, 54, 49, 54, 50, 54, 51, 54, 52, 54, 53, 54, 54, 54, 55, 54, 56, 54, 57, 55, 48, 55, 49, 55, 50, 55, 51, 55, 52, 55, 53, 55, 54, 55, 55, 55, 56, 55, 57, 56, 48, 56, 49, 56, 50, 56, 51, 56, 52, 56, 53, 56, 54, 56, 55, 56, 56, 56, 57, 57, 48, 57, 49, 57, 50, 57, 51, 57, 52, 57, 53, 57, 54, 57, 55, 57, 56, 57, 57]⟩)) (.tmp 90), 5, none⟩
    (.step 3 ⟨some 92, .indexAddr 30 (.tmp 81) (.tmp 83), 0, none⟩
    (.step 2 ⟨none, .store 5 (.tmp 92) (.tmp 89), 0, none⟩
    (.step 3 ⟨some 93, .indexAddr 30 (.tmp 84) (.tmp 86), 0, none⟩
    (.step 2 ⟨none, .store 5 (.tmp 93) (.tmp 91), 0, none⟩
    .done)))))))))))))))
@[go_sem] def c57_12 : Cmd := .ops [⟨some 94, .move (.tmp 4), 3, none⟩,
    ⟨some 95, .binOp .sub 3 (.tmp 94) (.const (.int .i64 8)) 3, 3, none⟩,
    ⟨some 4, .assign (.tmp 95), 3, none⟩]
@[go_sem] def c57_13 : Cmd := .block 1 (.seq c57_3 (.seq c57_4 (.seq c57_5 (.seq c57_6 (.seq c57_7 (.seq c57_8 (.seq c57_9 (.seq c57_10 (.seq c57_11 c57_12)))))))))
def c57_L0 : Cmd := (.seq (.seq c57_1 c57_2) c57_13)
@[go_sem] def c57_14 : Cmd := .loop c57_L0
@[go_sem] def c57_15 : Cmd := .block 0 c57_14
@[go_sem] def c57_16 : Cmd := .ops [⟨some 96, .move (.tmp 1), 90, none⟩,
    ⟨some 97, .convert 90 69 (.tmp 96), 69, none⟩,
    ⟨some 12, .assign (.tmp 97), 69, none⟩]
@[go_sem] def c57_17 : Cmd := .ops [⟨some 98, .move (.tmp 4), 3, none⟩,
    ⟨some 99, .binOp .geq 3 (.tmp 98) (.const (.int .i64 4)) 3, 4, none⟩]
@[go_sem] def c57_18 : Cmd := .ops [⟨some 100, .move (.tmp 12), 69, none⟩,
    ⟨some 101, .binOp .rem 69 (.tmp 100) (.const (.int .u32 10000)) 69, 69, none⟩,
    ⟨some 13, .assign (.tmp 101), 69, none⟩]
@[go_sem] def c57_19 : Cmd := .ops [⟨some 102, .move (.tmp 12), 69, none⟩,
    ⟨some 103, .binOp .quo 69 (.tmp 102) (.const (.int .u32 10000)) 69, 69, none⟩,
    ⟨some 12, .assign (.tmp 103), 69, none⟩]
@[go_sem] def c57_20 : Cmd := .ops [⟨some 104, .move (.tmp 13), 69, none⟩,
    ⟨some 105, .binOp .quo 69 (.tmp 104) (.const (.int .u32 100)) 69, 69, none⟩,
    ⟨some 106, .binOp .mul 69 (.tmp 105) (.const (.int .u32 2)) 69, 69, none⟩,
    ⟨some 107, .move (.tmp 13), 69, none⟩,
    ⟨some 108, .binOp .rem 69 (.tmp 107) (.const (.int .u32 100)) 69, 69, none⟩,
    ⟨some 109, .binOp .mul 69 (.tmp 108) (.const (.int .u32 2)) 69, 69, none⟩,
    ⟨some 14, .assign (.tmp 106), 69, none⟩,
    ⟨some 15, .assign (.tmp 109), 69, none⟩]
@[go_sem] def c57_21 : Cmd := .draw (.step 3 ⟨some 110, .move (.tmp 0), 30, none⟩
    (.step 3 ⟨some 111, .move (.tmp 4), 3, none⟩
    (.step 3 ⟨some 112, .binOp .sub 3 (.tmp 111) (.const (.int .i64 1)) 3, 3, none⟩
    (.step 3 ⟨some 113, .move (.tmp 0), 30, none⟩
    (.step 3 ⟨some 114, .move (.tmp 4), 3, none⟩
    (.step 3 ⟨some 115, .binOp .sub 3 (.tmp 114) (.const (.int .i64 2)) 3, 3, none⟩
    (.step 3 ⟨some 116, .move (.tmp 15), 69, none⟩
    (.step 3 ⟨some 117, .binOp .add 69 (.tmp 116) (.const (.int .u32 1)) 69, 69, none⟩
    (.step 3 ⟨some 118, .index 9 (.const (.string ⟨#[48, 48, 48, 49, 48, 50, 48, 51, 48, 52, 48, 53, 48, 54, 48, 55, 48, 56, 48, 57, 49, 48, 49, 49, 49, 50, 49, 51, 49, 52, 49, 53, 49, 54, 49, 55, 49, 56, 49, 57, 50, 48, 50, 49, 50, 50, 50, 51, 50, 52, 50, 53, 50, 54, 50, 55, 50, 56, 50, 57, 51, 48, 51, 49, 51, 50, 51, 51, 51, 52, 51, 53, 51, 54, 51, 55, 51, 56, 51, 57, 52, 48, 52, 49, 52, 50, 52, 51, 52, 52, 52, 53, 52, 54, 52, 55, 52, 56, 52, 57, 53, 48, 53, 49, 53, 50, 53, 51, 53, 52, 53, 53, 53, 54, 53, 55, 53, 56, 53, 57, 54, 48, 54, 49, 54, 50, 54, 51, 54, 52, 54, 53, 54, 54, 54, 55, 54, 56, 54, 57, 55, 48, 55, 49, 55, 50, 55, 51, 55, 52, 55, 53, 55, 54, 55, 55, 55, 56, 55, 57, 56, 48, 56, 49, 56, 50, 56, 51, 56, 52, 56, 53, 56, 54, 56, 55, 56, 56, 56, 57, 57, 48, 57, 49, 57, 50, 57, 51, 57, 52, 57, 53, 57, 54, 57, 55, 57, 56, 57, 57]⟩)) (.tmp 117), 5, none⟩
    (.step 3 ⟨some 119, .move (.tmp 15), 69, none⟩
    (.step 3 ⟨some 120, .index 9 (.const (.string ⟨#[48, 48, 48, 49, 48, 50, 48, 51, 48, 52, 48, 53, 48, 54, 48, 55, 48, 56, 48, 57, 49, 48, 49, 49, 49, 50, 49, 51, 49, 52, 49, 53, 49, 54, 49, 55, 49, 56, 49, 57, 50, 48, 50, 49, 50, 50, 50, 51, 50, 52, 50, 53, 50, 54, 50, 55, 50, 56, 50, 57, 51, 48, 51, 49, 51, 50, 51, 51, 51, 52, 51, 53, 51, 54, 51, 55, 51, 56, 51, 57, 52, 48, 52, 49, 52, 50, 52, 51, 52, 52, 52, 53, 52, 54, 52, 55, 52, 56, 52, 57, 53, 48, 53, 49, 53, 50, 53, 51, 53, 52, 53, 53, 53, 54, 53, 55, 53, 56, 53, 57, 54, 48, 54, 49, 54, 50, 54, 51, 54, 52, 54, 53, 54, 54, 54, 55, 54, 56, 54, 57, 55, 48, 55, 49, 55, 50, 55, 51, 55, 52, 55, 53, 55, 54, 55, 55, 55, 56, 55, 57, 56, 48, 56, 49, 56, 50, 56, 51, 56, 52, 56, 53, 56, 54, 56, 55, 56, 56, 56, 57, 57, 48, 57, 49, 57, 50, 57, 51, 57, 52, 57, 53, 57, 54, 57, 55, 57, 56, 57, 57]⟩)) (.tmp 119), 5, none⟩
    (.step 3 ⟨some 121, .indexAddr 30 (.tmp 110) (.tmp 112), 0, none⟩
    (.step 2 ⟨none, .store 5 (.tmp 121) (.tmp 118), 0, none⟩
    (.step 3 ⟨some 122, .indexAddr 30 (.tmp 113) (.tmp 115), 0, none⟩
    (.step 2 ⟨none, .store 5 (.tmp 122) (.tmp 120), 0, none⟩
    .done)))))))))))))))
@[go_sem] def c57_22 : Cmd := .draw (.step 3 ⟨some 123, .move (.tmp 0), 30, none⟩
    (.step 3 ⟨some 124, .move (.tmp 4), 3, none⟩
    (.step 3 ⟨some 125, .binOp .sub 3 (.tmp 124) (.const (.int .i64 3)) 3, 3, none⟩
    (.step 3 ⟨some 126, .move (.tmp 0), 30, none⟩
    (.step 3 ⟨some 127, .move (.tmp 4), 3, none⟩
    (.step 3 ⟨some 128, .binOp .sub 3 (.tmp 127) (.const (.int .i64 4)) 3, 3, none⟩
    (.step 3 ⟨some 129, .move (.tmp 14), 69, none⟩
    (.step 3 ⟨some 130, .binOp .add 69 (.tmp 129) (.const (.int .u32 1)) 69, 69, none⟩
    (.step 3 ⟨some 131, .index 9 (.const (.string ⟨#[48, 48, 48, 49, 48, 50, 48, 51, 48, 52, 48, 53, 48, 54, 48, 55, 48, 56, 48, 57, 49, 48, 49, 49, 49, 50, 49, 51, 49, 52, 49, 53, 49, 54, 49, 55, 49, 56, 49, 57, 50, 48, 50, 49, 50, 50, 50, 51, 50, 52, 50, 53, 50, 54, 50, 55, 50, 56, 50, 57, 51, 48, 51, 49, 51, 50, 51, 51, 51, 52, 51, 53, 51, 54, 51, 55, 51, 56, 51, 57, 52, 48, 52, 49, 52, 50, 52, 51, 52, 52, 52, 53, 52, 54, 52, 55, 52, 56, 52, 57, 53, 48, 53, 49, 53, 50, 53, 51, 53, 52, 53, 53, 53, 54, 53, 55, 53, 56, 53, 57, 54, 48, 54, 49, 54, 50, 54, 51, 54, 52, 54, 53, 54, 54, 54, 55, 54, 56, 54, 57, 55, 48, 55, 49, 55, 50, 55, 51, 55, 52, 55, 53, 55, 54, 55, 55, 55, 56, 55, 57, 56, 48, 56, 49, 56, 50, 56, 51, 56, 52, 56, 53, 56, 54, 56, 55, 56, 56, 56, 57, 57, 48, 57, 49, 57, 50, 57, 51, 57, 52, 57, 53, 57, 54, 57, 55, 57, 56, 57, 57]⟩)) (.tmp 130), 5, none⟩
    (.step 3 ⟨some 132, .move (.tmp 14), 69, none⟩
    (.step 3 ⟨some 133, .index 9 (.const (.string ⟨#[48, 48, 48, 49, 48, 50, 48, 51, 48, 52, 48, 53, 48, 54, 48, 55, 48, 56, 48, 57, 49, 48, 49, 49, 49, 50, 49, 51, 49, 52, 49, 53, 49, 54, 49, 55, 49, 56, 49, 57, 50, 48, 50, 49, 50, 50, 50, 51, 50, 52, 50, 53, 50, 54, 50, 55, 50, 56, 50, 57, 51, 48, 51, 49, 51, 50, 51, 51, 51, 52, 51, 53, 51, 54, 51, 55, 51, 56, 51, 57, 52, 48, 52, 49, 52, 50, 52, 51, 52, 52, 52, 53, 52, 54, 52, 55, 52, 56, 52, 57, 53, 48, 53, 49, 53, 50, 53, 51, 53, 52, 53, 53, 53, 54, 53, 55, 53, 56, 53, 57, 54, 48, 54, 49, 54, 50, 54, 51, 54, 52, 54, 53, 54, 54, 54, 55, 54, 56, 54, 57, 55, 48, 55, 49, 55, 50, 55, 51, 55, 52, 55, 53, 55, 54, 55, 55, 55, 56, 55, 57, 56, 48, 56, 49, 56, 50, 56, 51, 56, 52, 56, 53, 56, 54, 56, 55, 56, 56, 56, 57, 57, 48, 57, 49, 57, 50, 57, 51, 57, 52, 57, 53, 57, 54, 57, 55, 57, 56, 57, 57]⟩)) (.tmp 132), 5, none⟩
    (.step 3 ⟨some 134, .indexAddr 30 (.tmp 123) (.tmp 125), 0, none⟩
    (.step 2 ⟨none, .store 5 (.tmp 134) (.tmp 131), 0, none⟩
    (.step 3 ⟨some 135, .indexAddr 30 (.tmp 126) (.tmp 128), 0, none⟩
    (.step 2 ⟨none, .store 5 (.tmp 135) (.tmp 133), 0, none⟩
    .done)))))))))))))))
@[go_sem] def c57_23 : Cmd := .ops [⟨some 136, .move (.tmp 4), 3, none⟩,
    ⟨some 137, .binOp .sub 3 (.tmp 136) (.const (.int .i64 4)) 3, 3, none⟩,
    ⟨some 4, .assign (.tmp 137), 3, none⟩]
@[go_sem] def c57_24 : Cmd := .cond (.tmp 99) (.seq c57_18 (.seq c57_19 (.seq c57_20 (.seq c57_21 (.seq c57_22 c57_23))))) .skip
@[go_sem] def c57_25 : Cmd := .ops [⟨some 138, .move (.tmp 4), 3, none⟩,
    ⟨some 139, .binOp .geq 3 (.tmp 138) (.const (.int .i64 2)) 3, 4, none⟩]
@[go_sem] def c57_26 : Cmd := .ops [⟨some 140, .move (.tmp 12), 69, none⟩,
    ⟨some 141, .binOp .rem 69 (.tmp 140) (.const (.int .u32 100)) 69, 69, none⟩,
    ⟨some 142, .binOp .mul 69 (.tmp 141) (.const (.int .u32 2)) 69, 69, none⟩,
    ⟨some 16, .assign (.tmp 142), 69, none⟩]
@[go_sem] def c57_27 : Cmd := .ops [⟨some 143, .move (.tmp 12), 69, none⟩,
    ⟨some 144, .binOp .quo 69 (.tmp 143) (.const (.int .u32 100)) 69, 69, none⟩,
    ⟨some 12, .assign (.tmp 144), 69, none⟩]
@[go_sem] def c57_28 : Cmd := .draw (.step 3 ⟨some 145, .move (.tmp 0), 30, none⟩
    (.step 3 ⟨some 146, .move (.tmp 4), 3, none⟩
    (.step 3 ⟨some 147, .binOp .sub 3 (.tmp 146) (.const (.int .i64 1)) 3, 3, none⟩
    (.step 3 ⟨some 148, .move (.tmp 0), 30, none⟩
    (.step 3 ⟨some 149, .move (.tmp 4), 3, none⟩
    (.step 3 ⟨some 150, .binOp .sub 3 (.tmp 149) (.const (.int .i64 2)) 3, 3, none⟩
    (.step 3 ⟨some 151, .move (.tmp 16), 69, none⟩
    (.step 3 ⟨some 152, .binOp .add 69 (.tmp 151) (.const (.int .u32 1)) 69, 69, none⟩
    (.step 3 ⟨some 153, .index 9 (.const (.string ⟨#[48, 48, 48, 49, 48, 50, 48, 51, 48, 52, 48, 53, 48, 54, 48, 55, 48, 56, 48, 57, 49, 48, 49, 49, 49, 50, 49, 51, 49, 52, 49, 53, 49, 54, 49, 55, 49, 56, 49, 57, 50, 48, 50, 49, 50, 50, 50, 51, 50, 52, 50, 53, 50, 54, 50, 55, 50, 56, 50, 57, 51, 48, 51, 49, 51, 50, 51, 51, 51, 52, 51, 53, 51, 54, 51, 55, 51, 56, 51, 57, 52, 48, 52, 49, 52, 50, 52, 51, 52, 52, 52, 53, 52, 54, 52, 55, 52, 56, 52, 57, 53, 48, 53, 49, 53, 50, 53, 51, 53, 52, 53, 53, 53, 54, 53, 55, 53, 56, 53, 57, 54, 48, 54, 49, 54, 50, 54, 51, 54, 52, 54, 53, 54, 54, 54, 55, 54, 56, 54, 57, 55, 48, 55, 49, 55, 50, 55, 51, 55, 52, 55, 53, 55, 54, 55, 55, 55, 56, 55, 57, 56, 48, 56, 49, 56, 50, 56, 51, 56, 52, 56, 53, 56, 54, 56, 55, 56, 56, 56, 57, 57, 48, 57, 49, 57, 50, 57, 51, 57, 52, 57, 53, 57, 54, 57, 55, 57, 56, 57, 57]⟩)) (.tmp 152), 5, none⟩
    (.step 3 ⟨some 154, .move (.tmp 16), 69, none⟩
    (.step 3 ⟨some 155, .index 9 (.const (.string ⟨#[48, 48, 48, 49, 48, 50, 48, 51, 48, 52, 48, 53, 48, 54, 48, 55, 48, 56, 48, 57, 49, 48, 49, 49, 49, 50, 49, 51, 49, 52, 49, 53, 49, 54, 49, 55, 49, 56, 49, 57, 50, 48, 50, 49, 50, 50, 50, 51, 50, 52, 50, 53, 50, 54, 50, 55, 50, 56, 50, 57, 51, 48, 51, 49, 51, 50, 51, 51, 51, 52, 51, 53, 51, 54, 51, 55, 51, 56, 51, 57, 52, 48, 52, 49, 52, 50, 52, 51, 52, 52, 52, 53, 52, 54, 52, 55, 52, 56, 52, 57, 53, 48, 53, 49, 53, 50, 53, 51, 53, 52, 53, 53, 53, 54, 53, 55, 53, 56, 53, 57, 54, 48, 54, 49, 54, 50, 54, 51, 54, 52, 54, 53, 54, 54, 54, 55, 54, 56, 54, 57, 55, 48, 55, 49, 55, 50, 55, 51, 55, 52, 55, 53, 55, 54, 55, 55, 55, 56, 55, 57, 56, 48, 56, 49, 56, 50, 56, 51, 56, 52, 56, 53, 56, 54, 56, 55, 56, 56, 56, 57, 57, 48, 57, 49, 57, 50, 57, 51, 57, 52, 57, 53, 57, 54, 57, 55, 57, 56, 57, 57]⟩)) (.tmp 154), 5, none⟩
    (.step 3 ⟨some 156, .indexAddr 30 (.tmp 145) (.tmp 147), 0, none⟩
    (.step 2 ⟨none, .store 5 (.tmp 156) (.tmp 153), 0, none⟩
    (.step 3 ⟨some 157, .indexAddr 30 (.tmp 148) (.tmp 150), 0, none⟩
    (.step 2 ⟨none, .store 5 (.tmp 157) (.tmp 155), 0, none⟩
    .done)))))))))))))))
@[go_sem] def c57_29 : Cmd := .ops [⟨some 158, .move (.tmp 4), 3, none⟩,
    ⟨some 159, .binOp .sub 3 (.tmp 158) (.const (.int .i64 2)) 3, 3, none⟩,
    ⟨some 4, .assign (.tmp 159), 3, none⟩]
@[go_sem] def c57_30 : Cmd := .cond (.tmp 139) (.seq c57_26 (.seq c57_27 (.seq c57_28 c57_29))) .skip
@[go_sem] def c57_31 : Cmd := .ops [⟨some 160, .move (.tmp 4), 3, none⟩,
    ⟨some 161, .binOp .gtr 3 (.tmp 160) (.const (.int .i64 0)) 3, 4, none⟩]
@[go_sem] def c57_32 : Cmd := .ops [⟨some 162, .move (.tmp 0), 30, none⟩,
    ⟨some 163, .move (.tmp 12), 69, none⟩,
    ⟨some 164, .binOp .add 69 (.const (.int .u32 48)) (.tmp 163) 69, 69, none⟩,
    ⟨some 165, .convert 69 5 (.tmp 164), 5, none⟩,
    ⟨some 166, .indexAddr 30 (.tmp 162) (.const (.int .i64 0)), 0, none⟩,
    ⟨none, .store 5 (.tmp 166) (.tmp 165), 0, none⟩]
@[go_sem] def c57_33 : Cmd := .cond (.tmp 161) c57_32 .skip
@[go_sem] def c57 : Cmd := (.seq c57_0 (.seq c57_15 (.seq c57_16 (.seq (.seq c57_17 c57_24) (.seq (.seq c57_25 c57_30) (.seq c57_31 c57_33))))))
theorem b57 : Tryd.f57.body.map (comp 167) = some c57 := by kernel_rfl
theorem r57 : Tryd.f57.results.toList = [] := by kernel_rfl
-- 58 internal/strconv.formatBits
@[go_sem] def c58_0 : Cmd := .ops [⟨some 10, .assign (.const (.slice none 0 0)), 30, none⟩,
    ⟨some 11, .assign (.const (.string ⟨#[]⟩)), 9, none⟩]
@[go_sem] def c58_1 : Cmd := .ops [⟨some 19, .move (.tmp 2), 3, none⟩,
    ⟨some 20, .binOp .lss 3 (.tmp 19) (.const (.int .i64 2)) 3, 4, none⟩,
    ⟨some 21, .move (.tmp 20), 4, none⟩,
    ⟨some 22, .move (.tmp 2), 3, some (21, false)⟩,
    ⟨some 23, .binOp .eql 3 (.tmp 22) (.const (.int .i64 10)) 3, 4, some (21, false)⟩,
    ⟨some 24, .pick (.tmp 21) (.const (.bool true)) (.tmp 23), 4, none⟩,
    ⟨some 25, .move (.tmp 24), 4, none⟩,
    ⟨some 26, .move (.tmp 2), 3, some (25, false)⟩,
    ⟨some 27, .binOp .gtr 3 (.tmp 26) (.const (.int .i64 36)) 3, 4, some (25, false)⟩,
    ⟨some 28, .pick (.tmp 25) (.const (.bool true)) (.tmp 27), 4, none⟩]
@[go_sem] def c58_2 : Cmd := .ops [⟨some 29, .makeInterface 9 (.const (.string ⟨#[115, 116, 114, 99, 111, 110, 118, 58, 32, 105, 108, 108, 101, 103, 97, 108, 32, 65, 112, 112, 101, 110, 100, 73, 110, 116, 47, 70, 111, 114, 109, 97, 116, 73, 110, 116, 32, 98, 97, 115, 101]⟩)), 20, none⟩,
    ⟨none, .panic (.tmp 29), 0, none⟩]
@[go_sem] def c58_3 : Cmd := .cond (.tmp 28) c58_2 .skip
@[go_sem] def c58_4 : Cmd := .ops [⟨some 12, .alloc 97, 0, none⟩]
@[go_sem] def c58_5 : Cmd := .ops [⟨some 13, .assign (.const (.int .i64 65)), 3, none⟩]
@[go_sem] def c58_6 : Cmd := .ops [⟨some 30, .move (.tmp 3), 4, none⟩]
@[go_sem] def c58_7 : Cmd := .ops [⟨some 31, .move (.tmp 1), 90, none⟩,
    ⟨some 32, .unOp .neg 90 (.tmp 31), 90, none⟩,
    ⟨some 1, .assign (.tmp 32), 90, none⟩]
@[go_sem] def c58_8 : Cmd := .cond (.tmp 30) c58_7 .skip
@[go_sem] def c58_9 : Cmd := .ops [⟨some 33, .move (.tmp 2), 3, none⟩,
    ⟨some 34, .call { callee := (.value (.func 62)), args := #[(.tmp 33)], argTypes := #[3] }, 4, none⟩]
@[go_sem] def c58_10 : Cmd := .ops [⟨some 35, .move (.tmp 2), 3, none⟩,
    ⟨some 36, .convert 3 68 (.tmp 35), 68, none⟩,
    ⟨some 37, .call { callee := (.value (.func 63)), args := #[(.tmp 36)], argTypes := #[68] }, 3, none⟩,
    ⟨some 38, .convert 3 68 (.tmp 37), 68, none⟩,
    ⟨some 14, .assign (.tmp 38), 68, none⟩]
@[go_sem] def c58_11 : Cmd := .ops [⟨some 39, .move (.tmp 2), 3, none⟩,
    ⟨some 40, .convert 3 90 (.tmp 39), 90, none⟩,
    ⟨some 15, .assign (.tmp 40), 90, none⟩]
@[go_sem] def c58_12 : Cmd := .ops [⟨some 41, .move (.tmp 2), 3, none⟩,
    ⟨some 42, .convert 3 68 (.tmp 41), 68, none⟩,
    ⟨some 43, .binOp .sub 68 (.tmp 42) (.const (.int .u64 1)) 68, 68, none⟩,
    ⟨some 16, .assign (.tmp 43), 68, none⟩]
@[go_sem] def c58_13 : Cmd := .ops [⟨some 44, .move (.tmp 1), 90, none⟩,
    ⟨some 45, .move (.tmp 15), 90, none⟩,
    ⟨some 46, .binOp .geq 90 (.tmp 44) (.tmp 45) 90, 4, none⟩]
@[go_sem] def c58_14 : Cmd := .cond (.tmp 46) .skip (.exit 0)
@[go_sem] def c58_15 : Cmd := .ops [⟨some 47, .move (.tmp 13), 3, none⟩,
    ⟨some 48, .binOp .sub 3 (.tmp 47) (.const (.int .i64 1)) 3, 3, none⟩,
    ⟨some 13, .assign (.tmp 48), 3, none⟩]
@[go_sem] def c58_16 : Cmd := .ops [⟨some 49, .move (.tmp 13), 3, none⟩,
    ⟨some 50, .move (.tmp 1), 90, none⟩,
    ⟨some 51, .move (.tmp 16), 68, none⟩,
    ⟨some 52, .binOp .and 68 (.tmp 50) (.tmp 51) 68, 68, none⟩,
    ⟨some 53, .index 9 (.const (.string ⟨#[48, 49, 50, 51, 52, 53, 54, 55, 56, 57, 97, 98, 99, 100, 101, 102, 103, 104, 105, 106, 107, 108, 109, 110, 111, 112, 113, 114, 115, 116, 117, 118, 119, 120, 121, 122]⟩)) (.tmp 52), 5, none⟩,
    ⟨some 54, .indexAddr 97 (.tmp 12) (.tmp 49), 0, none⟩,
    ⟨none, .store 5 (.tmp 54) (.tmp 53), 0, none⟩]
@[go_sem] def c58_17 : Cmd := .ops [⟨some 55, .move (.tmp 1), 90, none⟩,
    ⟨some 56, .move (.tmp 14), 68, none⟩,
    ⟨some 57, .binOp .shr 90 (.tmp 55) (.tmp 56) 68, 90, none⟩,
    ⟨some 1, .assign (.tmp 57), 90, none⟩]
@[go_sem] def c58_18 : Cmd := .block 1 (.seq c58_15 (.seq c58_16 c58_17))
def c58_L0 : Cmd := (.seq (.seq c58_13 c58_14) c58_18)
@[go_sem] def c58_19 : Cmd := .loop c58_L0
@[go_sem] def c58_20 : Cmd := .block 0 c58_19
@[go_sem] def c58_21 : Cmd := .ops [⟨some 58, .move (.tmp 13), 3, none⟩,
    ⟨some 59, .binOp .sub 3 (.tmp 58) (.const (.int .i64 1)) 3, 3, none⟩,
    ⟨some 13, .assign (.tmp 59), 3, none⟩]
@[go_sem] def c58_22 : Cmd := .ops [⟨some 60, .move (.tmp 13), 3, none⟩,
    ⟨some 61, .move (.tmp 1), 90, none⟩,
    ⟨some 62, .index 9 (.const (.string ⟨#[48, 49, 50, 51, 52, 53, 54, 55, 56, 57, 97, 98, 99, 100, 101, 102, 103, 104, 105, 106, 107, 108, 109, 110, 111, 112, 113, 114, 115, 116, 117, 118, 119, 120, 121, 122]⟩)) (.tmp 61), 5, none⟩,
    ⟨some 63, .indexAddr 97 (.tmp 12) (.tmp 60), 0, none⟩,
    ⟨none, .store 5 (.tmp 63) (.tmp 62), 0, none⟩]
@[go_sem] def c58_23 : Cmd := .ops [⟨some 64, .move (.tmp 2), 3, none⟩,
    ⟨some 65, .convert 3 90 (.tmp 64), 90, none⟩,
    ⟨some 17, .assign (.tmp 65), 90, none⟩]
@[go_sem] def c58_24 : Cmd := .ops [⟨some 66, .move (.tmp 1), 90, none⟩,
    ⟨some 67, .move (.tmp 17), 90, none⟩,
    ⟨some 68, .binOp .geq 90 (.tmp 66) (.tmp 67) 90, 4, none⟩]
@[go_sem] def c58_25 : Cmd := .cond (.tmp 68) .skip (.exit 2)
@[go_sem] def c58_26 : Cmd := .ops [⟨some 69, .move (.tmp 13), 3, none⟩,
    ⟨some 70, .binOp .sub 3 (.tmp 69) (.const (.int .i64 1)) 3, 3, none⟩,
    ⟨some 13, .assign (.tmp 70), 3, none⟩]
@[go_sem] def c58_27 : Cmd := .ops [⟨some 71, .move (.tmp 1), 90, none⟩,
    ⟨some 72, .move (.tmp 17), 90, none⟩,
    ⟨some 73, .binOp .quo 90 (.tmp 71) (.tmp 72) 90, 90, none⟩,
    ⟨some 18, .assign (.tmp 73), 90, none⟩]
@[go_sem] def c58_28 : Cmd := .ops [⟨some 74, .move (.tmp 13), 3, none⟩,
    ⟨some 75, .move (.tmp 1), 90, none⟩,
    ⟨some 76, .move (.tmp 18), 90, none⟩,
    ⟨some 77, .move (.tmp 17), 90, none⟩,
    ⟨some 78, .binOp .mul 90 (.tmp 76) (.tmp 77) 90, 90, none⟩,
    ⟨some 79, .binOp .sub 90 (.tmp 75) (.tmp 78) 90, 90, none⟩,
    ⟨some 80, .index 9 (.const (.string ⟨#[48, 49, 50, 51, 52, 53, 54, 55, 56, 57, 97, 98, 99, 100, 101, 102, 103, 104, 105, 106, 107, 108, 109, 110, 111, 112, 113, 114, 115, 116, 117, 118, 119, 120, 121, 122]⟩)) (.tmp 79), 5, none⟩,
    ⟨some 81, .indexAddr 97 (.tmp 12) (.tmp 74), 0, none⟩,
    ⟨none, .store 5 (.tmp 81) (.tmp 80), 0, none⟩]
@[go_sem] def c58_29 : Cmd := .ops [⟨some 82, .move (.tmp 18), 90, none⟩,
    ⟨some 1, .assign (.tmp 82), 90, none⟩]
@[go_sem] def c58_30 : Cmd := .block 3 (.seq c58_26 (.seq c58_27 (.seq c58_28 c58_29)))
def c58_L1 : Cmd := (.seq (.seq c58_24 c58_25) c58_30)
@[go_sem] def c58_31 : Cmd := .loop c58_L1
@[go_sem] def c58_32 : Cmd := .block 2 c58_31
@[go_sem] def c58_33 : Cmd := .ops [⟨some 83, .move (.tmp 13), 3, none⟩,
    ⟨some 84, .binOp .sub 3 (.tmp 83) (.const (.int .i64 1)) 3, 3, none⟩,
    ⟨some 13, .assign (.tmp 84), 3, none⟩]
@[go_sem] def c58_34 : Cmd := .ops [⟨some 85, .move (.tmp 13), 3, none⟩,
    ⟨some 86, .move (.tmp 1), 90, none⟩,
    ⟨some 87, .index 9 (.const (.string ⟨#[48, 49, 50, 51, 52, 53, 54, 55, 56, 57, 97, 98, 99, 100, 101, 102, 103, 104, 105, 106, 107, 108, 109, 110, 111, 112, 113, 114, 115, 116, 117, 118, 119, 120, 121, 122]⟩)) (.tmp 86), 5, none⟩,
    ⟨some 88, .indexAddr 97 (.tmp 12) (.tmp 85), 0, none⟩,
    ⟨none, .store 5 (.tmp 88) (.tmp 87), 0, none⟩]
@[go_sem] def c58_35 : Cmd := .cond (.tmp 34) (.seq c58_10 (.seq c58_11 (.seq c58_12 (.seq c58_20 (.seq c58_21 c58_22))))) (.seq c58_23 (.seq c58_32 (.seq c58_33 c58_34)))
@[go_sem] def c58_36 : Cmd := .ops [⟨some 89, .move (.tmp 3), 4, none⟩]
@[go_sem] def c58_37 : Cmd := .ops [⟨some 90, .move (.tmp 13), 3, none⟩,
    ⟨some 91, .binOp .sub 3 (.tmp 90) (.const (.int .i64 1)) 3, 3, none⟩,
    ⟨some 13, .assign (.tmp 91), 3, none⟩]
@[go_sem] def c58_38 : Cmd := .ops [⟨some 92, .move (.tmp 13), 3, none⟩,
    ⟨some 93, .indexAddr 97 (.tmp 12) (.tmp 92), 0, none⟩,
    ⟨none, .store 5 (.tmp 93) (.const (.int .u8 45)), 0, none⟩]
@[go_sem] def c58_39 : Cmd := .cond (.tmp 89) (.seq c58_37 c58_38) .skip
@[go_sem] def c58_40 : Cmd := .ops [⟨some 94, .move (.tmp 4), 4, none⟩]
@[go_sem] def c58_41 : Cmd := .ops [⟨some 95, .move (.tmp 0), 30, none⟩,
    ⟨some 96, .move (.tmp 13), 3, none⟩,
    ⟨some 97, .slice 97 (.tmp 12) (some (.tmp 96)) none none, 30, none⟩,
    ⟨some 98, .call { callee := (.builtin .append), args := #[(.tmp 95), (.tmp 97)], argTypes := #[30, 30] }, 30, none⟩,
    ⟨some 10, .assign (.tmp 98), 30, none⟩]
@[go_sem] def c58_42 : Cmd := .cond (.tmp 94) (.seq c58_41 .ret) .skip
@[go_sem] def c58_43 : Cmd := .ops [⟨some 99, .move (.tmp 13), 3, none⟩,
    ⟨some 100, .slice 97 (.tmp 12) (some (.tmp 99)) none none, 30, none⟩,
    ⟨some 101, .convert 30 9 (.tmp 100), 9, none⟩,
    ⟨some 11, .assign (.tmp 101), 9, none⟩]
@[go_sem] def c58 : Cmd := (.seq c58_0 (.seq (.seq c58_1 c58_3) (.seq c58_4 (.seq c58_5 (.seq (.seq c58_6 c58_8) (.seq (.seq c58_9 c58_35) (.seq (.seq c58_36 c58_39) (.seq (.seq c58_40 c58_42) (.seq c58_43 .ret)))))))))
theorem b58 : Tryd.f58.body.map (comp 102) = some c58 := by kernel_rfl
theorem r58 : Tryd.f58.results.toList = [.tmp 10, .tmp 11] := by kernel_rfl
-- 59 internal/strconv.log10Pow2
@[go_sem] def c59_0 : Cmd := .ops [⟨some 2, .assign (.const (.int .i64 0)), 3, none⟩]
@[go_sem] def c59_1 : Cmd := .ops [⟨some 3, .move (.tmp 0), 3, none⟩,
    ⟨some 4, .binOp .mul 3 (.tmp 3) (.const (.int .i64 78913)) 3, 3, none⟩,
    ⟨some 5, .binOp .shr 3 (.tmp 4) (.const (.int .u64 18)) 68, 3, none⟩,
    ⟨some 2, .assign (.tmp 5), 3, none⟩]
@[go_sem] def c59 : Cmd := (.seq c59_0 (.seq c59_1 .ret))
theorem b59 : Tryd.f59.body.map (comp 6) = some c59 := by kernel_rfl
theorem r59 : Tryd.f59.results.toList = [.tmp 2] := by kernel_rfl
-- 60 math/bits.Len64
@[go_sem] def c60_0 : Cmd := .ops [⟨some 2, .assign (.const (.int .i64 0)), 3, none⟩]
@[go_sem] def c60_1 : Cmd := .ops [⟨some 3, .move (.tmp 0), 90, none⟩,
    ⟨some 4, .binOp .geq 90 (.tmp 3) (.const (.int .u64 4294967296)) 90, 4, none⟩]
@[go_sem] def c60_2 : Cmd := .ops [⟨some 5, .move (.tmp 0), 90, none⟩,
    ⟨some 6, .binOp .shr 90 (.tmp 5) (.const (.int .u64 32)) 68, 90, none⟩,
    ⟨some 0, .assign (.tmp 6), 90, none⟩]
@[go_sem] def c60_3 : Cmd := .ops [⟨some 2, .assign (.const (.int .i64 32)), 3, none⟩]
@[go_sem] def c60_4 : Cmd := .cond (.tmp 4) (.seq c60_2 c60_3) .skip
@[go_sem] def c60_5 : Cmd := .ops [⟨some 7, .move (.tmp 0), 90, none⟩,
    ⟨some 8, .binOp .geq 90 (.tmp 7) (.const (.int .u64 65536)) 90, 4, none⟩]
@[go_sem] def c60_6 : Cmd := .ops [⟨some 9, .move (.tmp 0), 90, none⟩,
    ⟨some 10, .binOp .shr 90 (.tmp 9) (.const (.int .u64 16)) 68, 90, none⟩,
    ⟨some 0, .assign (.tmp 10), 90, none⟩]
@[go_sem] def c60_7 : Cmd := .ops [⟨some 11, .move (.tmp 2), 3, none⟩,
    ⟨some 12, .binOp .add 3 (.tmp 11) (.const (.int .i64 16)) 3, 3, none⟩,
    ⟨some 2, .assign (.tmp 12), 3, none⟩]
@[go_sem] def c60_8 : Cmd := .cond (.tmp 8) (.seq c60_6 c60_7) .skip
@[go_sem] def c60_9 : Cmd := .ops [⟨some 13, .move (.tmp 0), 90, none⟩,
    ⟨some 14, .binOp .geq 90 (.tmp 13) (.const (.int .u64 256)) 90, 4, none⟩]
@[go_sem] def c60_10 : Cmd := .ops [⟨some 15, .move (.tmp 0), 90, none⟩,
    ⟨some 16, .binOp .shr 90 (.tmp 15) (.const (.int .u64 8)) 68, 90, none⟩,
    ⟨some 0, .assign (.tmp 16), 90, none⟩]
@[go_sem] def c60_11 : Cmd := .ops [⟨some 17, .move (.tmp 2), 3, none⟩,
    ⟨some 18, .binOp .add 3 (.tmp 17) (.const (.int .i64 8)) 3, 3, none⟩,
    ⟨some 2, .assign (.tmp 18), 3, none⟩]
@[go_sem] def c60_12 : Cmd := .cond (.tmp 14) (.seq c60_10 c60_11) .skip
@[go_sem] def c60_13 : Cmd := .ops [⟨some 19, .move (.tmp 2), 3, none⟩,
    ⟨some 20, .move (.tmp 0), 90, none⟩,
    ⟨some 21, .convert 90 5 (.tmp 20), 5, none⟩,
    ⟨some 22, .index 9 (.const (.string ⟨#[0, 1, 2, 2, 3, 3, 3, 3, 4, 4, 4, 4, 4, 4, 4, 4, 5, 5, 5, 5, 5, 5, 5, 5, 5, 5, 5, 5, 5, 5, 5, 5, 6, 6, 6, 6, 6, 6, 6, 6, 6, 6, 6, 6, 6, 6, 6, 6, 6, 6, 6, 6, 6, 6, 6, 6, 6, 6, 6, 6, 6, 6, 6, 6, 7, 7, 7, 7, 7, 7, 7, 7, 7, 7, 7, 7, 7, 7, 7, 7, 7, 7, 7, 7, 7, 7, 7, 7, 7, 7, 7, 7, 7, 7, 7, 7, 7, 7, 7, 7, 7, 7, 7, 7, 7, 7, 7, 7, 7, 7, 7, 7, 7, 7, 7, 7, 7, 7, 7, 7, 7, 7, 7, 7, 7, 7, 7, 7, 8, 8, 8, 8, 8, 8, 8, 8, 8, 8, 8, 8, 8, 8, 8, 8, 8, 8, 8, 8, 8, 8, 8, 8, 8, 8, 8, 8, 8, 8, 8, 8, 8, 8, 8, 8, 8, 8, 8, 8, 8, 8, 8, 8, 8, 8, 8, 8, 8, 8, 8, 8, 8, 8, 8, 8, 8, 8, 8, 8, 8, 8, 8, 8, 8, 8, 8, 8, 8, 8, 8, 8, 8, 8, 8, 8, 8, 8, 8, 8, 8, 8, 8, 8, 8, 8, 8, 8, 8, 8, 8, 8, 8, 8, 8, 8, 8, 8, 8, 8, 8, 8, 8, 8, 8, 8, 8, 8, 8, 8, 8, 8, 8, 8, 8, 8, 8, 8, 8, 8, 8, 8, 8, 8, 8, 8, 8, 8]⟩)) (.tmp 21), 5, none⟩,
    ⟨some 23, .convert 5 3 (.tmp 22), 3, none⟩,
    ⟨some 24, .binOp .add 3 (.tmp 19) (.tmp 23) 3, 3, none⟩,
    ⟨some 2, .assign (.tmp 24), 3, none⟩]
@[go_sem] def c60 : Cmd := (.seq c60_0 (.seq (.seq c60_1 c60_4) (.seq (.seq c60_5 c60_8) (.seq (.seq c60_9 c60_12) (.seq c60_13 .ret)))))
theorem b60 : Tryd.f60.body.map (comp 25) = some c60 := by kernel_rfl
theorem r60 : Tryd.f60.results.toList = [.tmp 2] := by kernel_rfl
-- 61 internal/strconv.bool2[int]
@[go_sem] def c61_0 : Cmd := .ops [⟨some 2, .assign (.const (.int .i64 0)), 3, none⟩]
@[go_sem] def c61_1 : Cmd := .ops [⟨some 3, .move (.tmp 0), 4, none⟩]
@[go_sem] def c61_2 : Cmd := .ops [⟨some 2, .assign (.const (.int .i64 1)), 3, none⟩]
@[go_sem] def c61_3 : Cmd := .cond (.tmp 3) (.seq c61_2 .ret) .skip
@[go_sem] def c61_4 : Cmd := .ops [⟨some 2, .assign (.const (.int .i64 0)), 3, none⟩]
@[go_sem] def c61 : Cmd := (.seq c61_0 (.seq (.seq c61_1 c61_3) (.seq c61_4 .ret)))
theorem b61 : Tryd.f61.body.map (comp 4) = some c61 := by kernel_rfl
theorem r61 : Tryd.f61.results.toList = [.tmp 2] := by kernel_rfl
-- 62 internal/strconv.isPowerOfTwo
@[go_sem] def c62_0 : Cmd := .ops [⟨some 2, .assign (.const (.bool false)), 4, none⟩]
@[go_sem] def c62_1 : Cmd := .ops [⟨some 3, .move (.tmp 0), 3, none⟩,
    ⟨some 4, .move (.tmp 0), 3, none⟩,
    ⟨some 5, .binOp .sub 3 (.tmp 4) (.const (.int .i64 1)) 3, 3, none⟩,
    ⟨some 6, .binOp .and 3 (.tmp 3) (.tmp 5) 3, 3, none⟩,
    ⟨some 7, .binOp .eql 3 (.tmp 6) (.const (.int .i64 0)) 3, 4, none⟩,
    ⟨some 2, .assign (.tmp 7), 4, none⟩]
@[go_sem] def c62 : Cmd := (.seq c62_0 (.seq c62_1 .ret))
theorem b62 : Tryd.f62.body.map (comp 8) = some c62 := by kernel_rfl
theorem r62 : Tryd.f62.results.toList = [.tmp 2] := by kernel_rfl
-- 63 math/bits.TrailingZeros
@[go_sem] def c63_0 : Cmd := .ops [⟨some 2, .assign (.const (.int .i64 0)), 3, none⟩]
@[go_sem] def c63_1 : Cmd := .ops [⟨some 3, .move (.tmp 0), 68, none⟩,
    ⟨some 4, .convert 68 69 (.tmp 3), 69, none⟩,
    ⟨some 5, .call { callee := (.value (.func 64)), args := #[(.tmp 4)], argTypes := #[69] }, 3, none⟩,
    ⟨some 2, .assign (.tmp 5), 3, none⟩]
@[go_sem] def c63_2 : Cmd := .cond (.const (.bool false)) (.seq c63_1 .ret) .skip
@[go_sem] def c63_3 : Cmd := .ops [⟨some 6, .move (.tmp 0), 68, none⟩,
    ⟨some 7, .call { callee := (.value (.func 65)), args := #[(.tmp 6)], argTypes := #[90] }, 3, none⟩,
    ⟨some 2, .assign (.tmp 7), 3, none⟩]
@[go_sem] def c63 : Cmd := (.seq c63_0 (.seq c63_2 (.seq c63_3 .ret)))
theorem b63 : Tryd.f63.body.map (comp 8) = some c63 := by kernel_rfl
theorem r63 : Tryd.f63.results.toList = [.tmp 2] := by kernel_rfl
-- 64 math/bits.TrailingZeros32
@[go_sem] def c64_0 : Cmd := .ops [⟨some 2, .assign (.const (.int .i64 0)), 3, none⟩]
@[go_sem] def c64_1 : Cmd := .ops [⟨some 3, .move (.tmp 0), 69, none⟩,
    ⟨some 4, .binOp .eql 69 (.tmp 3) (.const (.int .u32 0)) 69, 4, none⟩]
@[go_sem] def c64_2 : Cmd := .ops [⟨some 2, .assign (.const (.int .i64 32)), 3, none⟩]
@[go_sem] def c64_3 : Cmd := .cond (.tmp 4) (.seq c64_2 .ret) .skip
@[go_sem] def c64_4 : Cmd := .ops [⟨some 5, .move (.tmp 0), 69, none⟩,
    ⟨some 6, .move (.tmp 0), 69, none⟩,
    ⟨some 7, .unOp .neg 69 (.tmp 6), 69, none⟩,
    ⟨some 8, .binOp .and 69 (.tmp 5) (.tmp 7) 69, 69, none⟩,
    ⟨some 9, .binOp .mul 69 (.tmp 8) (.const (.int .u32 125613361)) 69, 69, none⟩,
    ⟨some 10, .binOp .shr 69 (.tmp 9) (.const (.int .u64 27)) 68, 69, none⟩,
    ⟨some 11, .indexAddr 100 (.global 1) (.tmp 10), 0, none⟩,
    ⟨some 12, .load 5 (.tmp 11), 5, none⟩,
    ⟨some 13, .convert 5 3 (.tmp 12), 3, none⟩,
    ⟨some 2, .assign (.tmp 13), 3, none⟩]
@[go_sem] def c64 : Cmd := (.seq c64_0 (.seq (.seq c64_1 c64_3) (.seq c64_4 .ret)))
theorem b64 : Tryd.f64.body.map (comp 14) = some c64 := by kernel_rfl
theorem r64 : Tryd.f64.results.toList = [.tmp 2] := by kernel_rfl
-- 65 math/bits.TrailingZeros64
@[go_sem] def c65_0 : Cmd := .ops [⟨some 2, .assign (.const (.int .i64 0)), 3, none⟩]
@[go_sem] def c65_1 : Cmd := .ops [⟨some 3, .move (.tmp 0), 90, none⟩,
    ⟨some 4, .binOp .eql 90 (.tmp 3) (.const (.int .u64 0)) 90, 4, none⟩]
@[go_sem] def c65_2 : Cmd := .ops [⟨some 2, .assign (.const (.int .i64 64)), 3, none⟩]
@[go_sem] def c65_3 : Cmd := .cond (.tmp 4) (.seq c65_2 .ret) .skip
@[go_sem] def c65_4 : Cmd := .ops [⟨some 5, .move (.tmp 0), 90, none⟩,
    ⟨some 6, .move (.tmp 0), 90, none⟩,
    ⟨some 7, .unOp .neg 90 (.tmp 6), 90, none⟩,
    ⟨some 8, .binOp .and 90 (.tmp 5) (.tmp 7) 90, 90, none⟩,
    ⟨some 9, .binOp .mul 90 (.tmp 8) (.const (.int .u64 285870213051353865)) 90, 90, none⟩,
    ⟨some 10, .binOp .shr 90 (.tmp 9) (.const (.int .u64 58)) 68, 90, none⟩,
    ⟨some 11, .indexAddr 101 (.global 2) (.tmp 10), 0, none⟩,
    ⟨some 12, .load 5 (.tmp 11), 5, none⟩,
    ⟨some 13, .convert 5 3 (.tmp 12), 3, none⟩,
    ⟨some 2, .assign (.tmp 13), 3, none⟩]
@[go_sem] def c65 : Cmd := (.seq c65_0 (.seq (.seq c65_1 c65_3) (.seq c65_4 .ret)))
theorem b65 : Tryd.f65.body.map (comp 14) = some c65 := by kernel_rfl
theorem r65 : Tryd.f65.results.toList = [.tmp 2] := by kernel_rfl
-- 88 gosem.cut.vars
@[go_sem] def c88_0 : Cmd := .ops [⟨some 0, .build 100 #[(0, (.const (.int .u8 0))), (1, (.const (.int .u8 1))), (2, (.const (.int .u8 28))), (3, (.const (.int .u8 2))), (4, (.const (.int .u8 29))), (5, (.const (.int .u8 14))), (6, (.const (.int .u8 24))), (7, (.const (.int .u8 3))), (8, (.const (.int .u8 30))), (9, (.const (.int .u8 22))), (10, (.const (.int .u8 20))), (11, (.const (.int .u8 15))), (12, (.const (.int .u8 25))), (13, (.const (.int .u8 17))), (14, (.const (.int .u8 4))), (15, (.const (.int .u8 8))), (16, (.const (.int .u8 31))), (17, (.const (.int .u8 27))), (18, (.const (.int .u8 13))), (19, (.const (.int .u8 23))), (20, (.const (.int .u8 21))), (21, (.const (.int .u8 19))), (22, (.const (.int .u8 16))), (23, (.const (.int .u8 7))), (24, (.const (.int .u8 26))), (25, (.const (.int .u8 12))), (26, (.const (.int .u8 18))), (27, (.const (.int .u8 6))), (28, (.const (.int .u8 11))), (29, (.const (.int .u8 5))), (30, (.const (.int .u8 10))), (31, (.const (.int .u8 9)))], 100, none⟩,
    ⟨none, .store 100 (.global 1) (.tmp 0), 0, none⟩]
@[go_sem] def c88_1 : Cmd := .ops [⟨some 1, .build 101 #[(0, (.const (.int .u8 0))), (1, (.const (.int .u8 1))), (2, (.const (.int .u8 56))), (3, (.const (.int .u8 2))), (4, (.const (.int .u8 57))), (5, (.const (.int .u8 49))), (6, (.const (.int .u8 28))), (7, (.const (.int .u8 3))), (8, (.const (.int .u8 61))), (9, (.const (.int .u8 58))), (10, (.const (.int .u8 42))), (11, (.const (.int .u8 50))), (12, (.const (.int .u8 38))), (13, (.const (.int .u8 29))), (14, (.const (.int .u8 17))), (15, (.const (.int .u8 4))), (16, (.const (.int .u8 62))), (17, (.const (.int .u8 47))), (18, (.const (.int .u8 59))), (19, (.const (.int .u8 36))), (20, (.const (.int .u8 45))), (21, (.const (.int .u8 43))), (22, (.const (.int .u8 51))), (23, (.const (.int .u8 22))), (24, (.const (.int .u8 53))), (25, (.const (.int .u8 39))), (26, (.const (.int .u8 33))), (27, (.const (.int .u8 30))), (28, (.const (.int .u8 24))), (29, (.const (.int .u8 18))), (30, (.const (.int .u8 12))), (31, (.const (.int .u8 5))), (32, (.const (.int .u8 63))), (33, (.const (.int .u8 55))), (34, (.const (.int .u8 48))), (35, (.const (.int .u8 27))), (36, (.const (.int .u8 60))), (37, (.const (.int .u8 41))), (38, (.const (.int .u8 37))), (39, (.const (.int .u8 16))), (40, (.const (.int .u8 46))), (41, (.const (.int .u8 35))), (42, (.const (.int .u8 44))), (43, (.const (.int .u8 21))), (44, (.const (.int .u8 52))), (45, (.const (.int .u8 32))), (46, (.const (.int .u8 23))), (47, (.const (.int .u8 11))), (48, (.const (.int .u8 54))), (49, (.const (.int .u8 26))), (50, (.const (.int .u8 40))), (51, (.const (.int .u8 15))), (52, (.const (.int .u8 34))), (53, (.const (.int .u8 20))), (54, (.const (.int .u8 31))), (55, (.const (.int .u8 10))), (56, (.const (.int .u8 25))), (57, (.const (.int .u8 14))), (58, (.const (.int .u8 19))), (59, (.const (.int .u8 9))), (60, (.const (.int .u8 13))), (61, (.const (.int .u8 8))), (62, (.const (.int .u8 7))), (63, (.const (.int .u8 6)))], 101, none⟩,
    ⟨none, .store 101 (.global 2) (.tmp 1), 0, none⟩]
@[go_sem] def c88_2 : Cmd := .ops [⟨some 2, .build 96 #[(0, (.const (.int .u64 1))), (1, (.const (.int .u64 10))), (2, (.const (.int .u64 100))), (3, (.const (.int .u64 1000))), (4, (.const (.int .u64 10000))), (5, (.const (.int .u64 100000))), (6, (.const (.int .u64 1000000))), (7, (.const (.int .u64 10000000))), (8, (.const (.int .u64 100000000))), (9, (.const (.int .u64 1000000000))), (10, (.const (.int .u64 10000000000))), (11, (.const (.int .u64 100000000000))), (12, (.const (.int .u64 1000000000000))), (13, (.const (.int .u64 10000000000000))), (14, (.const (.int .u64 100000000000000))), (15, (.const (.int .u64 1000000000000000))), (16, (.const (.int .u64 10000000000000000))), (17, (.const (.int .u64 100000000000000000))), (18, (.const (.int .u64 1000000000000000000))), (19, (.const (.int .u64 10000000000000000000)))], 96, none⟩,
    ⟨none, .store 96 (.global 0) (.tmp 2), 0, none⟩]
@[go_sem] def c88 : Cmd := (.seq c88_0 (.seq c88_1 c88_2))
theorem b88 : Tryd.f88.body.map (comp 3) = some c88 := by kernel_rfl
theorem r88 : Tryd.f88.results.toList = [] := by kernel_rfl
@[go_sem] theorem ty2 : tyOf Tryd.prog 2 = some ⟨(.int .i64), 1, 8, (.int .i64 0)⟩ := by kernel_rfl
@[go_sem] theorem ty3 : tyOf Tryd.prog 3 = some ⟨(.int .i64), 1, 8, (.int .i64 0)⟩ := by kernel_rfl
@[go_sem] theorem ty4 : tyOf Tryd.prog 4 = some ⟨.bool, 1, 1, (.bool false)⟩ := by kernel_rfl
@[go_sem] theorem ty5 : tyOf Tryd.prog 5 = some ⟨(.int .u8), 1, 1, (.int .u8 0)⟩ := by kernel_rfl
@[go_sem] theorem ty9 : tyOf Tryd.prog 9 = some ⟨.str, 1, 16, (.string ⟨#[]⟩)⟩ := by kernel_rfl
@[go_sem] theorem ty25 : tyOf Tryd.prog 25 = some ⟨(.sl 3), 1, 24, (.slice none 0 0)⟩ := by kernel_rfl
@[go_sem] theorem ty26 : tyOf Tryd.prog 26 = some ⟨(.sl 4), 1, 24, (.slice none 0 0)⟩ := by kernel_rfl
@[go_sem] theorem ty28 : tyOf Tryd.prog 28 = some ⟨(.st [(0, 3), (1, 25), (2, 26)]), 3, 56, (.agg #[(.int .i64 0), (.slice none 0 0), (.slice none 0 0)])⟩ := by kernel_rfl
@[go_sem] theorem ty30 : tyOf Tryd.prog 30 = some ⟨(.sl 5), 1, 24, (.slice none 0 0)⟩ := by kernel_rfl
@[go_sem] theorem ty31 : tyOf Tryd.prog 31 = some ⟨(.sl 30), 1, 24, (.slice none 0 0)⟩ := by kernel_rfl
@[go_sem] theorem ty32 : tyOf Tryd.prog 32 = some ⟨(.int .i64), 1, 8, (.int .i64 0)⟩ := by kernel_rfl
@[go_sem] theorem ty54 : tyOf Tryd.prog 54 = some ⟨(.arr 4 3), 4, 32, (.agg #[(.int .i64 0), (.int .i64 0), (.int .i64 0), (.int .i64 0)])⟩ := by kernel_rfl
@[go_sem] theorem ty68 : tyOf Tryd.prog 68 = some ⟨(.int .u64), 1, 8, (.int .u64 0)⟩ := by kernel_rfl
@[go_sem] theorem ty69 : tyOf Tryd.prog 69 = some ⟨(.int .u32), 1, 4, (.int .u32 0)⟩ := by kernel_rfl
@[go_sem] theorem ty71 : tyOf Tryd.prog 71 = some ⟨(.ptr 82), 1, 8, (.pointer none)⟩ := by kernel_rfl
@[go_sem] theorem ty76 : tyOf Tryd.prog 76 = some ⟨(.ptr 86), 1, 8, (.pointer none)⟩ := by kernel_rfl
@[go_sem] theorem ty82 : tyOf Tryd.prog 82 = some ⟨(.st [(0, 30), (1, 3), (2, 32)]), 3, 40, (.agg #[(.slice none 0 0), (.int .i64 0), (.int .i64 0)])⟩ := by kernel_rfl
@[go_sem] theorem ty86 : tyOf Tryd.prog 86 = some ⟨(.st [(0, 30), (1, 3), (2, 3)]), 3, 40, (.agg #[(.slice none 0 0), (.int .i64 0), (.int .i64 0)])⟩ := by kernel_rfl
@[go_sem] theorem ty89 : tyOf Tryd.prog 89 = some ⟨(.arr 24 5), 24, 24, (.agg #[(.int .u8 0), (.int .u8 0), (.int .u8 0), (.int .u8 0), (.int .u8 0), (.int .u8 0), (.int .u8 0), (.int .u8 0), (.int .u8 0), (.int .u8 0), (.int .u8 0), (.int .u8 0), (.int .u8 0), (.int .u8 0), (.int .u8 0), (.int .u8 0), (.int .u8 0), (.int .u8 0), (.int .u8 0), (.int .u8 0), (.int .u8 0), (.int .u8 0), (.int .u8 0), (.int .u8 0)])⟩ := by kernel_rfl
@[go_sem] theorem ty90 : tyOf Tryd.prog 90 = some ⟨(.int .u64), 1, 8, (.int .u64 0)⟩ := by kernel_rfl
@[go_sem] theorem ty96 : tyOf Tryd.prog 96 = some ⟨(.arr 20 90), 20, 160, (.agg #[(.int .u64 0), (.int .u64 0), (.int .u64 0), (.int .u64 0), (.int .u64 0), (.int .u64 0), (.int .u64 0), (.int .u64 0), (.int .u64 0), (.int .u64 0), (.int .u64 0), (.int .u64 0), (.int .u64 0), (.int .u64 0), (.int .u64 0), (.int .u64 0), (.int .u64 0), (.int .u64 0), (.int .u64 0), (.int .u64 0)])⟩ := by kernel_rfl
@[go_sem] theorem ty97 : tyOf Tryd.prog 97 = some ⟨(.arr 65 5), 65, 65, (.agg #[(.int .u8 0), (.int .u8 0), (.int .u8 0), (.int .u8 0), (.int .u8 0), (.int .u8 0), (.int .u8 0), (.int .u8 0), (.int .u8 0), (.int .u8 0), (.int .u8 0), (.int .u8 0), (.int .u8 0), (.int .u8 0), (.int .u8 0), (.int .u8 0), (.int .u8 0), (.int .u8 0), (.int .u8 0), (.int .u8 0), (.int .u8 0), (.int .u8 0), (.int .u8 0), (.int .u8 0), (.int .u8 0), (.int .u8 0), (.int .u8 0), (.int .u8 0), (.int .u8 0), (.int .u8 0), (.int .u8 0), (.int .u8 0), (.int .u8 0), (.int .u8 0), (.int .u8 0), (.int .u8 0), (.int .u8 0), (.int .u8 0), (.int .u8 0), (.int .u8 0), (.int .u8 0), (.int .u8 0), (.int .u8 0), (.int .u8 0), (.int .u8 0), (.int .u8 0), (.int .u8 0), (.int .u8 0), (.int .u8 0), (.int .u8 0), (.int .u8 0), (.int .u8 0), (.int .u8 0), (.int .u8 0), (.int .u8 0), (.int .u8 0), (.int .u8 0), (.int .u8 0), (.int .u8 0), (.int .u8 0), (.int .u8 0), (.int .u8 0), (.int .u8 0), (.int .u8 0), (.int .u8 0)])⟩ := by kernel_rfl
@[go_sem] theorem ty100 : tyOf Tryd.prog 100 = some ⟨(.arr 32 5), 32, 32, (.agg #[(.int .u8 0), (.int .u8 0), (.int .u8 0), (.int .u8 0), (.int .u8 0), (.int .u8 0), (.int .u8 0), (.int .u8 0), (.int .u8 0), (.int .u8 0), (.int .u8 0), (.int .u8 0), (.int .u8 0), (.int .u8 0), (.int .u8 0), (.int .u8 0), (.int .u8 0), (.int .u8 0), (.int .u8 0), (.int .u8 0), (.int .u8 0), (.int .u8 0), (.int .u8 0), (.int .u8 0), (.int .u8 0), (.int .u8 0), (.int .u8 0), (.int .u8 0), (.int .u8 0), (.int .u8 0), (.int .u8 0), (.int .u8 0)])⟩ := by kernel_rfl
@[go_sem] theorem ty101 : tyOf Tryd.prog 101 = some ⟨(.arr 64 5), 64, 64, (.agg #[(.int .u8 0), (.int .u8 0), (.int .u8 0), (.int .u8 0), (.int .u8 0), (.int .u8 0), (.int .u8 0), (.int .u8 0), (.int .u8 0), (.int .u8 0), (.int .u8 0), (.int .u8 0), (.int .u8 0), (.int .u8 0), (.int .u8 0), (.int .u8 0), (.int .u8 0), (.int .u8 0), (.int .u8 0), (.int .u8 0), (.int .u8 0), (.int .u8 0), (.int .u8 0), (.int .u8 0), (.int .u8 0), (.int .u8 0), (.int .u8 0), (.int .u8 0), (.int .u8 0), (.int .u8 0), (.int .u8 0), (.int .u8 0), (.int .u8 0), (.int .u8 0), (.int .u8 0), (.int .u8 0), (.int .u8 0), (.int .u8 0), (.int .u8 0), (.int .u8 0), (.int .u8 0), (.int .u8 0), (.int .u8 0), (.int .u8 0), (.int .u8 0), (.int .u8 0), (.int .u8 0), (.int .u8 0), (.int .u8 0), (.int .u8 0), (.int .u8 0), (.int .u8 0), (.int .u8 0), (.int .u8 0), (.int .u8 0), (.int .u8 0), (.int .u8 0), (.int .u8 0), (.int .u8 0), (.int .u8 0), (.int .u8 0), (.int .u8 0), (.int .u8 0), (.int .u8 0)])⟩ := by kernel_rfl
@[go_sem] theorem okc7 : (okCall Tryd.prog 7 = true) = True := eq_true (by kernel_rfl)
@[go_sem] theorem okc8 : (okCall Tryd.prog 8 = true) = True := eq_true (by kernel_rfl)
@[go_sem] theorem okc9 : (okCall Tryd.prog 9 = true) = True := eq_true (by kernel_rfl)
@[go_sem] theorem okc10 : (okCall Tryd.prog 10 = true) = True := eq_true (by kernel_rfl)
@[go_sem] theorem okc11 : (okCall Tryd.prog 11 = true) = True := eq_true (by kernel_rfl)
@[go_sem] theorem okc12 : (okCall Tryd.prog 12 = true) = True := eq_true (by kernel_rfl)
@[go_sem] theorem okc13 : (okCall Tryd.prog 13 = true) = True := eq_true (by kernel_rfl)
@[go_sem] theorem okc14 : (okCall Tryd.prog 14 = true) = True := eq_true (by kernel_rfl)
@[go_sem] theorem okc15 : (okCall Tryd.prog 15 = true) = True := eq_true (by kernel_rfl)
@[go_sem] theorem okc16 : (okCall Tryd.prog 16 = true) = True := eq_true (by kernel_rfl)
@[go_sem] theorem okc17 : (okCall Tryd.prog 17 = true) = True := eq_true (by kernel_rfl)
@[go_sem] theorem okc18 : (okCall Tryd.prog 18 = true) = True := eq_true (by kernel_rfl)
@[go_sem] theorem okc19 : (okCall Tryd.prog 19 = true) = True := eq_true (by kernel_rfl)
@[go_sem] theorem okc20 : (okCall Tryd.prog 20 = true) = True := eq_true (by kernel_rfl)
@[go_sem] theorem okc21 : (okCall Tryd.prog 21 = true) = True := eq_true (by kernel_rfl)
@[go_sem] theorem okc22 : (okCall Tryd.prog 22 = true) = True := eq_true (by kernel_rfl)
@[go_sem] theorem okc23 : (okCall Tryd.prog 23 = true) = True := eq_true (by kernel_rfl)
@[go_sem] theorem okc24 : (okCall Tryd.prog 24 = true) = True := eq_true (by kernel_rfl)
@[go_sem] theorem okc25 : (okCall Tryd.prog 25 = true) = True := eq_true (by kernel_rfl)
@[go_sem] theorem okc26 : (okCall Tryd.prog 26 = true) = True := eq_true (by kernel_rfl)
@[go_sem] theorem okc27 : (okCall Tryd.prog 27 = true) = True := eq_true (by kernel_rfl)
@[go_sem] theorem okc28 : (okCall Tryd.prog 28 = true) = True := eq_true (by kernel_rfl)
@[go_sem] theorem okc29 : (okCall Tryd.prog 29 = true) = True := eq_true (by kernel_rfl)
@[go_sem] theorem okc30 : (okCall Tryd.prog 30 = true) = True := eq_true (by kernel_rfl)
@[go_sem] theorem okc31 : (okCall Tryd.prog 31 = true) = True := eq_true (by kernel_rfl)
@[go_sem] theorem okc32 : (okCall Tryd.prog 32 = true) = True := eq_true (by kernel_rfl)
@[go_sem] theorem okc33 : (okCall Tryd.prog 33 = true) = True := eq_true (by kernel_rfl)
@[go_sem] theorem okc34 : (okCall Tryd.prog 34 = true) = True := eq_true (by kernel_rfl)
@[go_sem] theorem okc35 : (okCall Tryd.prog 35 = true) = True := eq_true (by kernel_rfl)
@[go_sem] theorem okc36 : (okCall Tryd.prog 36 = true) = True := eq_true (by kernel_rfl)
@[go_sem] theorem okc37 : (okCall Tryd.prog 37 = true) = True := eq_true (by kernel_rfl)
@[go_sem] theorem okc38 : (okCall Tryd.prog 38 = true) = True := eq_true (by kernel_rfl)
@[go_sem] theorem okc39 : (okCall Tryd.prog 39 = true) = True := eq_true (by kernel_rfl)
@[go_sem] theorem okc40 : (okCall Tryd.prog 40 = true) = True := eq_true (by kernel_rfl)
@[go_sem] theorem okc41 : (okCall Tryd.prog 41 = true) = True := eq_true (by kernel_rfl)
@[go_sem] theorem okc42 : (okCall Tryd.prog 42 = true) = True := eq_true (by kernel_rfl)
@[go_sem] theorem okc43 : (okCall Tryd.prog 43 = true) = True := eq_true (by kernel_rfl)
@[go_sem] theorem okc44 : (okCall Tryd.prog 44 = true) = True := eq_true (by kernel_rfl)
@[go_sem] theorem okc45 : (okCall Tryd.prog 45 = true) = True := eq_true (by kernel_rfl)
@[go_sem] theorem okc46 : (okCall Tryd.prog 46 = true) = True := eq_true (by kernel_rfl)
@[go_sem] theorem okc47 : (okCall Tryd.prog 47 = true) = True := eq_true (by kernel_rfl)
@[go_sem] theorem okc48 : (okCall Tryd.prog 48 = true) = True := eq_true (by kernel_rfl)
@[go_sem] theorem okc49 : (okCall Tryd.prog 49 = true) = True := eq_true (by kernel_rfl)
@[go_sem] theorem okc50 : (okCall Tryd.prog 50 = true) = True := eq_true (by kernel_rfl)
@[go_sem] theorem okc51 : (okCall Tryd.prog 51 = true) = True := eq_true (by kernel_rfl)
@[go_sem] theorem okc52 : (okCall Tryd.prog 52 = true) = True := eq_true (by kernel_rfl)
@[go_sem] theorem okc53 : (okCall Tryd.prog 53 = true) = True := eq_true (by kernel_rfl)
@[go_sem] theorem okc54 : (okCall Tryd.prog 54 = true) = True := eq_true (by kernel_rfl)
@[go_sem] theorem okc55 : (okCall Tryd.prog 55 = true) = True := eq_true (by kernel_rfl)
@[go_sem] theorem okc56 : (okCall Tryd.prog 56 = true) = True := eq_true (by kernel_rfl)
@[go_sem] theorem okc57 : (okCall Tryd.prog 57 = true) = True := eq_true (by kernel_rfl)
@[go_sem] theorem okc58 : (okCall Tryd.prog 58 = true) = True := eq_true (by kernel_rfl)
@[go_sem] theorem okc59 : (okCall Tryd.prog 59 = true) = True := eq_true (by kernel_rfl)
@[go_sem] theorem okc60 : (okCall Tryd.prog 60 = true) = True := eq_true (by kernel_rfl)
@[go_sem] theorem okc61 : (okCall Tryd.prog 61 = true) = True := eq_true (by kernel_rfl)
@[go_sem] theorem okc62 : (okCall Tryd.prog 62 = true) = True := eq_true (by kernel_rfl)
@[go_sem] theorem okc63 : (okCall Tryd.prog 63 = true) = True := eq_true (by kernel_rfl)
@[go_sem] theorem okc64 : (okCall Tryd.prog 64 = true) = True := eq_true (by kernel_rfl)
@[go_sem] theorem okc65 : (okCall Tryd.prog 65 = true) = True := eq_true (by kernel_rfl)
end Go.Proofs.YtbdclcdoiabapaaDoor
