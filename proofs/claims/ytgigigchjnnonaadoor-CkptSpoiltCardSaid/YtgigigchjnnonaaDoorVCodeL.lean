/- The functions' code as commands; printed by wip/Gen.lean off the translation. -/
import Derived.Test.YtgigigchjnnonaaDoorProg
import Derived.Test.YtgigigchjnnonaaDoorVCode
import Derived.KernelRfl
set_option maxRecDepth 100000
set_option linter.unusedSimpArgs false
namespace Go.Proofs.YtgigigchjnnonaaDoor
open Go Go.V
-- 3 pith/pithlaw18.CkptKeeps
@[go_sem] def c3_0 : Cmd := .ops [⟨some 8, .assign (.const (.bool false)), 4, none⟩]
@[go_sem] def c3_1 : Cmd := .ops [⟨some 32, .call { callee := (.value (.func 5)), args := #[], argTypes := #[] }, 4, none⟩,
    ⟨some 9, .assign (.tmp 32), 4, none⟩]
@[go_sem] def c3_2 : Cmd := .ops [⟨some 33, .call { callee := (.value (.func 6)), args := #[(.const (.int .i64 1048576))], argTypes := #[3] }, 25, none⟩,
    ⟨some 10, .assign (.tmp 33), 25, none⟩]
@[go_sem] def c3_3 : Cmd := .ops [⟨some 34, .move (.tmp 9), 4, none⟩,
    ⟨some 35, .unOp .not 4 (.tmp 34), 4, none⟩,
    ⟨some 36, .move (.tmp 35), 4, none⟩,
    ⟨some 37, .move (.tmp 10), 25, some (36, false)⟩,
    ⟨some 38, .binOp .eql 25 (.tmp 37) (.const (.pointer none)) 25, 4, some (36, false)⟩,
    ⟨some 39, .pick (.tmp 36) (.const (.bool true)) (.tmp 38), 4, none⟩]
@[go_sem] def c3_4 : Cmd := .ops [⟨some 8, .assign (.const (.bool false)), 4, none⟩]
@[go_sem] def c3_5 : Cmd := .cond (.tmp 39) (.seq c3_4 .ret) .skip
@[go_sem] def c3_6 : Cmd := .ops [⟨some 41, .move (.tmp 0), 22, none⟩,
    ⟨some 42, .move (.tmp 1), 23, none⟩,
    ⟨some 43, .move (.tmp 2), 22, none⟩,
    ⟨some 44, .call { callee := (.value (.func 7)), args := #[(.tmp 41), (.tmp 42), (.tmp 43)], argTypes := #[22, 23, 22] }, 29, none⟩,
    ⟨some 40, .move (.tmp 44), 29, none⟩,
    ⟨some 45, .extract (.tmp 40) 0, 28, none⟩,
    ⟨some 46, .extract (.tmp 40) 1, 22, none⟩,
    ⟨some 11, .alloc 28, 0, none⟩,
    ⟨none, .store 28 (.tmp 11) (.tmp 45), 0, none⟩,
    ⟨some 12, .assign (.tmp 46), 22, none⟩]
@[go_sem] def c3_7 : Cmd := .ops [⟨some 47, .move (.tmp 10), 25, none⟩,
    ⟨some 48, .load 28 (.tmp 11), 28, none⟩,
    ⟨some 49, .call { callee := (.value (.func 8)), args := #[(.tmp 47), (.const (.int .i64 3)), (.tmp 48)], argTypes := #[25, 3, 28] }, 31, none⟩,
    ⟨some 13, .assign (.tmp 49), 31, none⟩]
@[go_sem] def c3_8 : Cmd := .ops [⟨some 50, .move (.tmp 12), 22, none⟩,
    ⟨some 51, .call { callee := (.value (.func 9)), args := #[(.tmp 50)], argTypes := #[22] }, 22, none⟩,
    ⟨some 52, .buildSlice 22 2 #[(0, (.const (.int .i64 47))), (1, (.const (.int .i64 11)))], 22, none⟩,
    ⟨some 53, .call { callee := (.builtin .append), args := #[(.tmp 51), (.tmp 52)], argTypes := #[22, 22] }, 22, none⟩,
    ⟨some 14, .assign (.tmp 53), 22, none⟩]
@[go_sem] def c3_9 : Cmd := .draw (.step 3 ⟨some 55, .move (.tmp 10), 25, none⟩
    (.step 3 ⟨some 56, .move (.tmp 14), 22, none⟩
    (.step 3 ⟨some 57, .move (.tmp 12), 22, none⟩
    (.step 3 ⟨some 58, .call { callee := (.builtin .len), args := #[(.tmp 57)], argTypes := #[22] }, 3, none⟩
    (.step 3 ⟨some 59, .slice 22 (.tmp 56) none (some (.tmp 58)) none, 22, none⟩
    (.step 3 ⟨some 60, .fieldAddr 28 (.tmp 11) 2, 0, none⟩
    (.step 0 ⟨some 61, .load 23 (.tmp 60), 23, none⟩
    (.step 3 ⟨some 62, .call { callee := (.builtin .len), args := #[(.tmp 61)], argTypes := #[23] }, 3, none⟩
    (.both ⟨some 63, .call { callee := (.value (.func 10)), args := #[(.tmp 55), (.const (.int .i64 3)), (.tmp 59), (.tmp 62)], argTypes := #[25, 3, 22, 3] }, 34, none⟩
    (.step 3 ⟨some 54, .move (.tmp 63), 34, none⟩
    (.step 3 ⟨some 64, .extract (.tmp 54) 0, 28, none⟩
    (.step 3 ⟨some 65, .extract (.tmp 54) 1, 4, none⟩
    (.step 3 ⟨some 66, .extract (.tmp 54) 2, 31, none⟩
    (.step 1 ⟨some 15, .alloc 28, 0, none⟩
    (.step 2 ⟨none, .store 28 (.tmp 15) (.tmp 64), 0, none⟩
    (.step 3 ⟨some 16, .assign (.tmp 65), 4, none⟩
    (.step 3 ⟨some 17, .assign (.tmp 66), 31, none⟩
    .done))))))))
    ⟨some 15, .alloc 28, 0, none⟩
    (.step 1 ⟨some 63, .call { callee := (.value (.func 10)), args := #[(.tmp 55), (.const (.int .i64 3)), (.tmp 59), (.tmp 62)], argTypes := #[25, 3, 22, 3] }, 34, none⟩
    (.step 3 ⟨some 54, .move (.tmp 63), 34, none⟩
    (.step 3 ⟨some 64, .extract (.tmp 54) 0, 28, none⟩
    (.step 3 ⟨some 65, .extract (.tmp 54) 1, 4, none⟩
    (.step 3 ⟨some 66, .extract (.tmp 54) 2, 31, none⟩
    (.step 2 ⟨none, .store 28 (.tmp 15) (.tmp 64), 0, none⟩
    (.step 3 ⟨some 16, .assign (.tmp 65), 4, none⟩
    (.step 3 ⟨some 17, .assign (.tmp 66), 31, none⟩
    .done)))))))))))))))))
@[go_sem] def c3_10 : Cmd := .ops [⟨some 67, .load 28 (.tmp 15), 28, none⟩,
    ⟨some 68, .load 28 (.tmp 11), 28, none⟩,
    ⟨some 69, .call { callee := (.value (.func 11)), args := #[(.tmp 67), (.tmp 68)], argTypes := #[28, 28] }, 4, none⟩,
    ⟨some 70, .move (.tmp 69), 4, none⟩,
    ⟨some 71, .move (.tmp 14), 22, some (70, true)⟩,
    ⟨some 72, .move (.tmp 12), 22, some (70, true)⟩,
    ⟨some 73, .call { callee := (.builtin .len), args := #[(.tmp 72)], argTypes := #[22] }, 3, some (70, true)⟩,
    ⟨some 74, .indexAddr 22 (.tmp 71) (.tmp 73), 0, some (70, true)⟩,
    ⟨some 75, .load 3 (.tmp 74), 3, some (70, true)⟩,
    ⟨some 76, .binOp .eql 3 (.tmp 75) (.const (.int .i64 47)) 3, 4, some (70, true)⟩,
    ⟨some 77, .pick (.tmp 70) (.tmp 76) (.const (.bool false)), 4, none⟩,
    ⟨some 78, .move (.tmp 77), 4, none⟩,
    ⟨some 79, .move (.tmp 14), 22, some (78, true)⟩,
    ⟨some 80, .move (.tmp 12), 22, some (78, true)⟩,
    ⟨some 81, .call { callee := (.builtin .len), args := #[(.tmp 80)], argTypes := #[22] }, 3, some (78, true)⟩,
    ⟨some 82, .binOp .add 3 (.tmp 81) (.const (.int .i64 1)) 3, 3, some (78, true)⟩,
    ⟨some 83, .indexAddr 22 (.tmp 79) (.tmp 82), 0, some (78, true)⟩,
    ⟨some 84, .load 3 (.tmp 83), 3, some (78, true)⟩,
    ⟨some 85, .binOp .eql 3 (.tmp 84) (.const (.int .i64 11)) 3, 4, some (78, true)⟩,
    ⟨some 86, .pick (.tmp 78) (.tmp 85) (.const (.bool false)), 4, none⟩,
    ⟨some 18, .assign (.tmp 86), 4, none⟩]
@[go_sem] def c3_11 : Cmd := .ops [⟨some 87, .move (.tmp 13), 31, none⟩,
    ⟨some 88, .call { callee := (.value (.func 12)), args := #[(.tmp 87)], argTypes := #[31] }, 3, none⟩,
    ⟨some 89, .binOp .neq 3 (.tmp 88) (.const (.int .i64 0)) 3, 4, none⟩,
    ⟨some 90, .move (.tmp 89), 4, none⟩,
    ⟨some 91, .move (.tmp 17), 31, some (90, false)⟩,
    ⟨some 92, .call { callee := (.value (.func 12)), args := #[(.tmp 91)], argTypes := #[31] }, 3, some (90, false)⟩,
    ⟨some 93, .binOp .neq 3 (.tmp 92) (.const (.int .i64 0)) 3, 4, some (90, false)⟩,
    ⟨some 94, .pick (.tmp 90) (.const (.bool true)) (.tmp 93), 4, none⟩,
    ⟨some 95, .move (.tmp 94), 4, none⟩,
    ⟨some 96, .move (.tmp 16), 4, some (95, false)⟩,
    ⟨some 97, .unOp .not 4 (.tmp 96), 4, some (95, false)⟩,
    ⟨some 98, .pick (.tmp 95) (.const (.bool true)) (.tmp 97), 4, none⟩,
    ⟨some 99, .move (.tmp 98), 4, none⟩,
    ⟨some 100, .move (.tmp 18), 4, some (99, false)⟩,
    ⟨some 101, .unOp .not 4 (.tmp 100), 4, some (99, false)⟩,
    ⟨some 102, .pick (.tmp 99) (.const (.bool true)) (.tmp 101), 4, none⟩]
@[go_sem] def c3_12 : Cmd := .ops [⟨some 8, .assign (.const (.bool false)), 4, none⟩]
@[go_sem] def c3_13 : Cmd := .cond (.tmp 102) (.seq c3_12 .ret) .skip
@[go_sem] def c3_14 : Cmd := .ops [⟨some 104, .move (.tmp 10), 25, none⟩,
    ⟨some 105, .move (.tmp 12), 22, none⟩,
    ⟨some 106, .fieldAddr 28 (.tmp 11) 2, 0, none⟩,
    ⟨some 107, .load 23 (.tmp 106), 23, none⟩,
    ⟨some 108, .call { callee := (.builtin .len), args := #[(.tmp 107)], argTypes := #[23] }, 3, none⟩,
    ⟨some 109, .binOp .add 3 (.tmp 108) (.const (.int .i64 1)) 3, 3, none⟩,
    ⟨some 110, .call { callee := (.value (.func 10)), args := #[(.tmp 104), (.const (.int .i64 3)), (.tmp 105), (.tmp 109)], argTypes := #[25, 3, 22, 3] }, 34, none⟩,
    ⟨some 103, .move (.tmp 110), 34, none⟩,
    ⟨some 111, .extract (.tmp 103) 0, 28, none⟩,
    ⟨some 112, .extract (.tmp 103) 1, 4, none⟩,
    ⟨some 113, .extract (.tmp 103) 2, 31, none⟩,
    ⟨some 19, .alloc 28, 0, none⟩,
    ⟨none, .store 28 (.tmp 19) (.tmp 111), 0, none⟩,
    ⟨some 20, .assign (.tmp 112), 4, none⟩,
    ⟨some 21, .assign (.tmp 113), 31, none⟩]
@[go_sem] def c3_15 : Cmd := .draw (.step 3 ⟨some 115, .move (.tmp 10), 25, none⟩
    (.step 3 ⟨some 116, .move (.tmp 12), 22, none⟩
    (.step 3 ⟨some 120, .fieldAddr 28 (.tmp 11) 2, 0, none⟩
    (.step 0 ⟨some 121, .load 23 (.tmp 120), 23, none⟩
    (.step 3 ⟨some 122, .call { callee := (.builtin .len), args := #[(.tmp 121)], argTypes := #[23] }, 3, none⟩
    (.three ⟨some 117, .call { callee := (.value (.func 9)), args := #[(.tmp 116)], argTypes := #[22] }, 22, none⟩
    (.both ⟨some 118, .buildSlice 22 1 #[(0, (.const (.int .i64 5)))], 22, none⟩
    (.both ⟨some 119, .call { callee := (.builtin .append), args := #[(.tmp 117), (.tmp 118)], argTypes := #[22, 22] }, 22, none⟩
    (.both ⟨some 123, .call { callee := (.value (.func 10)), args := #[(.tmp 115), (.const (.int .i64 3)), (.tmp 119), (.tmp 122)], argTypes := #[25, 3, 22, 3] }, 34, none⟩
    (.step 3 ⟨some 114, .move (.tmp 123), 34, none⟩
    (.step 3 ⟨some 124, .extract (.tmp 114) 0, 28, none⟩
    (.step 3 ⟨some 125, .extract (.tmp 114) 1, 4, none⟩
    (.step 3 ⟨some 126, .extract (.tmp 114) 2, 31, none⟩
    (.step 1 ⟨some 22, .alloc 28, 0, none⟩
    (.step 2 ⟨none, .store 28 (.tmp 22) (.tmp 124), 0, none⟩
    (.step 3 ⟨some 23, .assign (.tmp 125), 4, none⟩
    (.step 3 ⟨some 24, .assign (.tmp 126), 31, none⟩
    .done))))))))
    ⟨some 22, .alloc 28, 0, none⟩
    (.step 1 ⟨some 123, .call { callee := (.value (.func 10)), args := #[(.tmp 115), (.const (.int .i64 3)), (.tmp 119), (.tmp 122)], argTypes := #[25, 3, 22, 3] }, 34, none⟩
    (.step 3 ⟨some 114, .move (.tmp 123), 34, none⟩
    (.step 3 ⟨some 124, .extract (.tmp 114) 0, 28, none⟩
    (.step 3 ⟨some 125, .extract (.tmp 114) 1, 4, none⟩
    (.step 3 ⟨some 126, .extract (.tmp 114) 2, 31, none⟩
    (.step 2 ⟨none, .store 28 (.tmp 22) (.tmp 124), 0, none⟩
    (.step 3 ⟨some 23, .assign (.tmp 125), 4, none⟩
    (.step 3 ⟨some 24, .assign (.tmp 126), 31, none⟩
    .done)))))))))
    ⟨some 22, .alloc 28, 0, none⟩
    (.step 1 ⟨some 119, .call { callee := (.builtin .append), args := #[(.tmp 117), (.tmp 118)], argTypes := #[22, 22] }, 22, none⟩
    (.step 1 ⟨some 123, .call { callee := (.value (.func 10)), args := #[(.tmp 115), (.const (.int .i64 3)), (.tmp 119), (.tmp 122)], argTypes := #[25, 3, 22, 3] }, 34, none⟩
    (.step 3 ⟨some 114, .move (.tmp 123), 34, none⟩
    (.step 3 ⟨some 124, .extract (.tmp 114) 0, 28, none⟩
    (.step 3 ⟨some 125, .extract (.tmp 114) 1, 4, none⟩
    (.step 3 ⟨some 126, .extract (.tmp 114) 2, 31, none⟩
    (.step 2 ⟨none, .store 28 (.tmp 22) (.tmp 124), 0, none⟩
    (.step 3 ⟨some 23, .assign (.tmp 125), 4, none⟩
    (.step 3 ⟨some 24, .assign (.tmp 126), 31, none⟩
    .done))))))))))
    ⟨some 22, .alloc 28, 0, none⟩
    (.step 1 ⟨some 118, .buildSlice 22 1 #[(0, (.const (.int .i64 5)))], 22, none⟩
    (.step 1 ⟨some 119, .call { callee := (.builtin .append), args := #[(.tmp 117), (.tmp 118)], argTypes := #[22, 22] }, 22, none⟩
    (.step 1 ⟨some 123, .call { callee := (.value (.func 10)), args := #[(.tmp 115), (.const (.int .i64 3)), (.tmp 119), (.tmp 122)], argTypes := #[25, 3, 22, 3] }, 34, none⟩
    (.step 3 ⟨some 114, .move (.tmp 123), 34, none⟩
    (.step 3 ⟨some 124, .extract (.tmp 114) 0, 28, none⟩
    (.step 3 ⟨some 125, .extract (.tmp 114) 1, 4, none⟩
    (.step 3 ⟨some 126, .extract (.tmp 114) 2, 31, none⟩
    (.step 2 ⟨none, .store 28 (.tmp 22) (.tmp 124), 0, none⟩
    (.step 3 ⟨some 23, .assign (.tmp 125), 4, none⟩
    (.step 3 ⟨some 24, .assign (.tmp 126), 31, none⟩
    .done)))))))))))
    ⟨some 118, .buildSlice 22 1 #[(0, (.const (.int .i64 5)))], 22, none⟩
    (.both ⟨some 117, .call { callee := (.value (.func 9)), args := #[(.tmp 116)], argTypes := #[22] }, 22, none⟩
    (.both ⟨some 119, .call { callee := (.builtin .append), args := #[(.tmp 117), (.tmp 118)], argTypes := #[22, 22] }, 22, none⟩
    (.both ⟨some 123, .call { callee := (.value (.func 10)), args := #[(.tmp 115), (.const (.int .i64 3)), (.tmp 119), (.tmp 122)], argTypes := #[25, 3, 22, 3] }, 34, none⟩
    (.step 3 ⟨some 114, .move (.tmp 123), 34, none⟩
    (.step 3 ⟨some 124, .extract (.tmp 114) 0, 28, none⟩
    (.step 3 ⟨some 125, .extract (.tmp 114) 1, 4, none⟩
    (.step 3 ⟨some 126, .extract (.tmp 114) 2, 31, none⟩
    (.step 1 ⟨some 22, .alloc 28, 0, none⟩
    (.step 2 ⟨none, .store 28 (.tmp 22) (.tmp 124), 0, none⟩
    (.step 3 ⟨some 23, .assign (.tmp 125), 4, none⟩
    (.step 3 ⟨some 24, .assign (.tmp 126), 31, none⟩
    .done))))))))
    ⟨some 22, .alloc 28, 0, none⟩
    (.step 1 ⟨some 123, .call { callee := (.value (.func 10)), args := #[(.tmp 115), (.const (.int .i64 3)), (.tmp 119), (.tmp 122)], argTypes := #[25, 3, 22, 3] }, 34, none⟩
    (.step 3 ⟨some 114, .move (.tmp 123), 34, none⟩
    (.step 3 ⟨some 124, .extract (.tmp 114) 0, 28, none⟩
    (.step 3 ⟨some 125, .extract (.tmp 114) 1, 4, none⟩
    (.step 3 ⟨some 126, .extract (.tmp 114) 2, 31, none⟩
    (.step 2 ⟨none, .store 28 (.tmp 22) (.tmp 124), 0, none⟩
    (.step 3 ⟨some 23, .assign (.tmp 125), 4, none⟩
    (.step 3 ⟨some 24, .assign (.tmp 126), 31, none⟩
    .done)))))))))
    ⟨some 22, .alloc 28, 0, none⟩
    (.step 1 ⟨some 119, .call { callee := (.builtin .append), args := #[(.tmp 117), (.tmp 118)], argTypes := #[22, 22] }, 22, none⟩
    (.step 1 ⟨some 123, .call { callee := (.value (.func 10)), args := #[(.tmp 115), (.const (.int .i64 3)), (.tmp 119), (.tmp 122)], argTypes := #[25, 3, 22, 3] }, 34, none⟩
    (.step 3 ⟨some 114, .move (.tmp 123), 34, none⟩
    (.step 3 ⟨some 124, .extract (.tmp 114) 0, 28, none⟩
    (.step 3 ⟨some 125, .extract (.tmp 114) 1, 4, none⟩
    (.step 3 ⟨some 126, .extract (.tmp 114) 2, 31, none⟩
    (.step 2 ⟨none, .store 28 (.tmp 22) (.tmp 124), 0, none⟩
    (.step 3 ⟨some 23, .assign (.tmp 125), 4, none⟩
    (.step 3 ⟨some 24, .assign (.tmp 126), 31, none⟩
    .done))))))))))
    ⟨some 22, .alloc 28, 0, none⟩
    (.step 1 ⟨some 117, .call { callee := (.value (.func 9)), args := #[(.tmp 116)], argTypes := #[22] }, 22, none⟩
    (.step 1 ⟨some 119, .call { callee := (.builtin .append), args := #[(.tmp 117), (.tmp 118)], argTypes := #[22, 22] }, 22, none⟩
    (.step 1 ⟨some 123, .call { callee := (.value (.func 10)), args := #[(.tmp 115), (.const (.int .i64 3)), (.tmp 119), (.tmp 122)], argTypes := #[25, 3, 22, 3] }, 34, none⟩
    (.step 3 ⟨some 114, .move (.tmp 123), 34, none⟩
    (.step 3 ⟨some 124, .extract (.tmp 114) 0, 28, none⟩
    (.step 3 ⟨some 125, .extract (.tmp 114) 1, 4, none⟩
    (.step 3 ⟨some 126, .extract (.tmp 114) 2, 31, none⟩
    (.step 2 ⟨none, .store 28 (.tmp 22) (.tmp 124), 0, none⟩
    (.step 3 ⟨some 23, .assign (.tmp 125), 4, none⟩
    (.step 3 ⟨some 24, .assign (.tmp 126), 31, none⟩
    .done)))))))))))
    ⟨some 22, .alloc 28, 0, none⟩
    (.both ⟨some 117, .call { callee := (.value (.func 9)), args := #[(.tmp 116)], argTypes := #[22] }, 22, none⟩
    (.step 1 ⟨some 118, .buildSlice 22 1 #[(0, (.const (.int .i64 5)))], 22, none⟩
    (.step 1 ⟨some 119, .call { callee := (.builtin .append), args := #[(.tmp 117), (.tmp 118)], argTypes := #[22, 22] }, 22, none⟩
    (.step 1 ⟨some 123, .call { callee := (.value (.func 10)), args := #[(.tmp 115), (.const (.int .i64 3)), (.tmp 119), (.tmp 122)], argTypes := #[25, 3, 22, 3] }, 34, none⟩
    (.step 3 ⟨some 114, .move (.tmp 123), 34, none⟩
    (.step 3 ⟨some 124, .extract (.tmp 114) 0, 28, none⟩
    (.step 3 ⟨some 125, .extract (.tmp 114) 1, 4, none⟩
    (.step 3 ⟨some 126, .extract (.tmp 114) 2, 31, none⟩
    (.step 2 ⟨none, .store 28 (.tmp 22) (.tmp 124), 0, none⟩
    (.step 3 ⟨some 23, .assign (.tmp 125), 4, none⟩
    (.step 3 ⟨some 24, .assign (.tmp 126), 31, none⟩
    .done))))))))))
    ⟨some 118, .buildSlice 22 1 #[(0, (.const (.int .i64 5)))], 22, none⟩
    (.step 1 ⟨some 117, .call { callee := (.value (.func 9)), args := #[(.tmp 116)], argTypes := #[22] }, 22, none⟩
    (.step 1 ⟨some 119, .call { callee := (.builtin .append), args := #[(.tmp 117), (.tmp 118)], argTypes := #[22, 22] }, 22, none⟩
    (.step 1 ⟨some 123, .call { callee := (.value (.func 10)), args := #[(.tmp 115), (.const (.int .i64 3)), (.tmp 119), (.tmp 122)], argTypes := #[25, 3, 22, 3] }, 34, none⟩
    (.step 3 ⟨some 114, .move (.tmp 123), 34, none⟩
    (.step 3 ⟨some 124, .extract (.tmp 114) 0, 28, none⟩
    (.step 3 ⟨some 125, .extract (.tmp 114) 1, 4, none⟩
    (.step 3 ⟨some 126, .extract (.tmp 114) 2, 31, none⟩
    (.step 2 ⟨none, .store 28 (.tmp 22) (.tmp 124), 0, none⟩
    (.step 3 ⟨some 23, .assign (.tmp 125), 4, none⟩
    (.step 3 ⟨some 24, .assign (.tmp 126), 31, none⟩
    .done)))))))))))))))))
@[go_sem] def c3_16 : Cmd := .ops [⟨some 128, .move (.tmp 10), 25, none⟩,
    ⟨some 129, .move (.tmp 12), 22, none⟩,
    ⟨some 130, .fieldAddr 28 (.tmp 11) 2, 0, none⟩,
    ⟨some 131, .load 23 (.tmp 130), 23, none⟩,
    ⟨some 132, .call { callee := (.builtin .len), args := #[(.tmp 131)], argTypes := #[23] }, 3, none⟩,
    ⟨some 133, .call { callee := (.value (.func 10)), args := #[(.tmp 128), (.const (.int .i64 4)), (.tmp 129), (.tmp 132)], argTypes := #[25, 3, 22, 3] }, 34, none⟩,
    ⟨some 127, .move (.tmp 133), 34, none⟩,
    ⟨some 134, .extract (.tmp 127) 0, 28, none⟩,
    ⟨some 135, .extract (.tmp 127) 1, 4, none⟩,
    ⟨some 136, .extract (.tmp 127) 2, 31, none⟩,
    ⟨some 25, .alloc 28, 0, none⟩,
    ⟨none, .store 28 (.tmp 25) (.tmp 134), 0, none⟩,
    ⟨some 26, .assign (.tmp 135), 4, none⟩,
    ⟨some 27, .assign (.tmp 136), 31, none⟩]
@[go_sem] def c3_17 : Cmd := .ops [⟨some 137, .move (.tmp 20), 4, none⟩,
    ⟨some 138, .move (.tmp 137), 4, none⟩,
    ⟨some 139, .move (.tmp 23), 4, some (138, false)⟩,
    ⟨some 140, .pick (.tmp 138) (.const (.bool true)) (.tmp 139), 4, none⟩,
    ⟨some 141, .move (.tmp 140), 4, none⟩,
    ⟨some 142, .move (.tmp 26), 4, some (141, false)⟩,
    ⟨some 143, .pick (.tmp 141) (.const (.bool true)) (.tmp 142), 4, none⟩,
    ⟨some 144, .move (.tmp 143), 4, none⟩,
    ⟨some 145, .move (.tmp 21), 31, some (144, false)⟩,
    ⟨some 146, .call { callee := (.value (.func 12)), args := #[(.tmp 145)], argTypes := #[31] }, 3, some (144, false)⟩,
    ⟨some 147, .binOp .neq 3 (.tmp 146) (.const (.int .i64 0)) 3, 4, some (144, false)⟩,
    ⟨some 148, .pick (.tmp 144) (.const (.bool true)) (.tmp 147), 4, none⟩,
    ⟨some 149, .move (.tmp 148), 4, none⟩,
    ⟨some 150, .move (.tmp 24), 31, some (149, false)⟩,
    ⟨some 151, .call { callee := (.value (.func 12)), args := #[(.tmp 150)], argTypes := #[31] }, 3, some (149, false)⟩,
    ⟨some 152, .binOp .neq 3 (.tmp 151) (.const (.int .i64 0)) 3, 4, some (149, false)⟩,
    ⟨some 153, .pick (.tmp 149) (.const (.bool true)) (.tmp 152), 4, none⟩,
    ⟨some 154, .move (.tmp 153), 4, none⟩,
    ⟨some 155, .move (.tmp 27), 31, some (154, false)⟩,
    ⟨some 156, .call { callee := (.value (.func 12)), args := #[(.tmp 155)], argTypes := #[31] }, 3, some (154, false)⟩,
    ⟨some 157, .binOp .neq 3 (.tmp 156) (.const (.int .i64 0)) 3, 4, some (154, false)⟩,
    ⟨some 158, .pick (.tmp 154) (.const (.bool true)) (.tmp 157), 4, none⟩]
@[go_sem] def c3_18 : Cmd := .ops [⟨some 8, .assign (.const (.bool false)), 4, none⟩]
@[go_sem] def c3_19 : Cmd := .cond (.tmp 158) (.seq c3_18 .ret) .skip
@[go_sem] def c3_20 : Cmd := .ops [⟨some 159, .move (.tmp 12), 22, none⟩,
    ⟨some 160, .call { callee := (.builtin .len), args := #[(.tmp 159)], argTypes := #[22] }, 3, none⟩,
    ⟨some 161, .binOp .eql 3 (.tmp 160) (.const (.int .i64 0)) 3, 4, none⟩]
@[go_sem] def c3_21 : Cmd := .ops [⟨some 8, .assign (.const (.bool true)), 4, none⟩]
@[go_sem] def c3_22 : Cmd := .cond (.tmp 161) (.seq c3_21 .ret) .skip
@[go_sem] def c3_23 : Cmd := .ops [⟨some 162, .move (.tmp 3), 3, none⟩,
    ⟨some 163, .move (.tmp 12), 22, none⟩,
    ⟨some 164, .call { callee := (.builtin .len), args := #[(.tmp 163)], argTypes := #[22] }, 3, none⟩,
    ⟨some 165, .binOp .rem 3 (.tmp 162) (.tmp 164) 3, 3, none⟩,
    ⟨some 166, .move (.tmp 12), 22, none⟩,
    ⟨some 167, .call { callee := (.builtin .len), args := #[(.tmp 166)], argTypes := #[22] }, 3, none⟩,
    ⟨some 168, .binOp .add 3 (.tmp 165) (.tmp 167) 3, 3, none⟩,
    ⟨some 169, .move (.tmp 12), 22, none⟩,
    ⟨some 170, .call { callee := (.builtin .len), args := #[(.tmp 169)], argTypes := #[22] }, 3, none⟩,
    ⟨some 171, .binOp .rem 3 (.tmp 168) (.tmp 170) 3, 3, none⟩,
    ⟨some 28, .assign (.tmp 171), 3, none⟩]
@[go_sem] def c3_24 : Cmd := .ops [⟨some 172, .move (.tmp 12), 22, none⟩,
    ⟨some 173, .move (.tmp 28), 3, none⟩,
    ⟨some 174, .fieldAddr 28 (.tmp 11) 1, 0, none⟩,
    ⟨some 175, .load 22 (.tmp 174), 22, none⟩,
    ⟨some 176, .move (.tmp 28), 3, none⟩,
    ⟨some 177, .indexAddr 22 (.tmp 175) (.tmp 176), 0, none⟩,
    ⟨some 178, .load 3 (.tmp 177), 3, none⟩,
    ⟨some 179, .binOp .sub 3 (.tmp 178) (.const (.int .i64 1)) 3, 3, none⟩,
    ⟨some 180, .indexAddr 22 (.tmp 172) (.tmp 173), 0, none⟩,
    ⟨none, .store 3 (.tmp 180) (.tmp 179), 0, none⟩]
@[go_sem] def c3_25 : Cmd := .ops [⟨some 182, .move (.tmp 10), 25, none⟩,
    ⟨some 183, .move (.tmp 12), 22, none⟩,
    ⟨some 184, .fieldAddr 28 (.tmp 11) 2, 0, none⟩,
    ⟨some 185, .load 23 (.tmp 184), 23, none⟩,
    ⟨some 186, .call { callee := (.builtin .len), args := #[(.tmp 185)], argTypes := #[23] }, 3, none⟩,
    ⟨some 187, .call { callee := (.value (.func 10)), args := #[(.tmp 182), (.const (.int .i64 3)), (.tmp 183), (.tmp 186)], argTypes := #[25, 3, 22, 3] }, 34, none⟩,
    ⟨some 181, .move (.tmp 187), 34, none⟩,
    ⟨some 188, .extract (.tmp 181) 0, 28, none⟩,
    ⟨some 189, .extract (.tmp 181) 1, 4, none⟩,
    ⟨some 190, .extract (.tmp 181) 2, 31, none⟩,
    ⟨some 29, .alloc 28, 0, none⟩,
    ⟨none, .store 28 (.tmp 29) (.tmp 188), 0, none⟩,
    ⟨some 30, .assign (.tmp 189), 4, none⟩,
    ⟨some 31, .assign (.tmp 190), 31, none⟩]
@[go_sem] def c3_26 : Cmd := .ops [⟨some 191, .move (.tmp 30), 4, none⟩,
    ⟨some 192, .unOp .not 4 (.tmp 191), 4, none⟩,
    ⟨some 193, .move (.tmp 192), 4, none⟩,
    ⟨some 194, .move (.tmp 31), 31, some (193, true)⟩,
    ⟨some 195, .call { callee := (.value (.func 12)), args := #[(.tmp 194)], argTypes := #[31] }, 3, some (193, true)⟩,
    ⟨some 196, .binOp .eql 3 (.tmp 195) (.const (.int .i64 0)) 3, 4, some (193, true)⟩,
    ⟨some 197, .pick (.tmp 193) (.tmp 196) (.const (.bool false)), 4, none⟩,
    ⟨some 8, .assign (.tmp 197), 4, none⟩]
@[go_sem] def c3 : Cmd := (.seq c3_0 (.seq c3_1 (.seq c3_2 (.seq (.seq c3_3 c3_5) (.seq c3_6 (.seq c3_7 (.seq c3_8 (.seq c3_9 (.seq c3_10 (.seq (.seq c3_11 c3_13) (.seq c3_14 (.seq c3_15 (.seq c3_16 (.seq (.seq c3_17 c3_19) (.seq (.seq c3_20 c3_22) (.seq c3_23 (.seq c3_24 (.seq c3_25 (.seq c3_26 .ret)))))))))))))))))))
def c3_S26 : Cmd := (.seq c3_26 .ret)
def c3_S25 : Cmd := (.seq c3_25 c3_S26)
def c3_S24 : Cmd := (.seq c3_24 c3_S25)
def c3_S23 : Cmd := (.seq c3_23 c3_S24)
def c3_S20 : Cmd := (.seq (.seq c3_20 c3_22) c3_S23)
def c3_S17 : Cmd := (.seq (.seq c3_17 c3_19) c3_S20)
def c3_S16 : Cmd := (.seq c3_16 c3_S17)
def c3_S15 : Cmd := (.seq c3_15 c3_S16)
def c3_S14 : Cmd := (.seq c3_14 c3_S15)
def c3_S11 : Cmd := (.seq (.seq c3_11 c3_13) c3_S14)
def c3_S10 : Cmd := (.seq c3_10 c3_S11)
def c3_S9 : Cmd := (.seq c3_9 c3_S10)
def c3_S8 : Cmd := (.seq c3_8 c3_S9)
def c3_S7 : Cmd := (.seq c3_7 c3_S8)
def c3_S6 : Cmd := (.seq c3_6 c3_S7)
def c3_S3 : Cmd := (.seq (.seq c3_3 c3_5) c3_S6)
def c3_S2 : Cmd := (.seq c3_2 c3_S3)
def c3_S1 : Cmd := (.seq c3_1 c3_S2)
def c3_S0 : Cmd := (.seq c3_0 c3_S1)
theorem c3_ch : c3 = c3_S0 := rfl
theorem b3 : Tryd.f3.body.map (comp 198) = some c3 := by kernel_rfl
theorem r3 : Tryd.f3.results.toList = [.tmp 8] := by kernel_rfl
-- 4 pith/pithlaw18.CkptSpoilt
@[go_sem] def c4_0 : Cmd := .ops [⟨some 8, .assign (.const (.bool false)), 4, none⟩]
@[go_sem] def c4_1 : Cmd := .ops [⟨some 30, .call { callee := (.value (.func 5)), args := #[], argTypes := #[] }, 4, none⟩,
    ⟨some 9, .assign (.tmp 30), 4, none⟩]
@[go_sem] def c4_2 : Cmd := .ops [⟨some 31, .call { callee := (.value (.func 6)), args := #[(.const (.int .i64 1048576))], argTypes := #[3] }, 25, none⟩,
    ⟨some 10, .assign (.tmp 31), 25, none⟩]
@[go_sem] def c4_3 : Cmd := .ops [⟨some 32, .call { callee := (.value (.func 6)), args := #[(.const (.int .i64 1048576))], argTypes := #[3] }, 25, none⟩,
    ⟨some 11, .assign (.tmp 32), 25, none⟩]
@[go_sem] def c4_4 : Cmd := .ops [⟨some 33, .move (.tmp 9), 4, none⟩,
    ⟨some 34, .unOp .not 4 (.tmp 33), 4, none⟩,
    ⟨some 35, .move (.tmp 34), 4, none⟩,
    ⟨some 36, .move (.tmp 10), 25, some (35, false)⟩,
    ⟨some 37, .binOp .eql 25 (.tmp 36) (.const (.pointer none)) 25, 4, some (35, false)⟩,
    ⟨some 38, .pick (.tmp 35) (.const (.bool true)) (.tmp 37), 4, none⟩,
    ⟨some 39, .move (.tmp 38), 4, none⟩,
    ⟨some 40, .move (.tmp 11), 25, some (39, false)⟩,
    ⟨some 41, .binOp .eql 25 (.tmp 40) (.const (.pointer none)) 25, 4, some (39, false)⟩,
    ⟨some 42, .pick (.tmp 39) (.const (.bool true)) (.tmp 41), 4, none⟩]
@[go_sem] def c4_5 : Cmd := .ops [⟨some 8, .assign (.const (.bool false)), 4, none⟩]
@[go_sem] def c4_6 : Cmd := .cond (.tmp 42) (.seq c4_5 .ret) .skip
@[go_sem] def c4_7 : Cmd := .ops [⟨some 44, .move (.tmp 0), 22, none⟩,
    ⟨some 45, .move (.tmp 1), 23, none⟩,
    ⟨some 46, .call { callee := (.value (.func 7)), args := #[(.tmp 44), (.tmp 45), (.const (.slice none 0 0))], argTypes := #[22, 23, 22] }, 29, none⟩,
    ⟨some 43, .move (.tmp 46), 29, none⟩,
    ⟨some 47, .extract (.tmp 43) 0, 28, none⟩,
    ⟨some 48, .extract (.tmp 43) 1, 22, none⟩,
    ⟨some 12, .alloc 28, 0, none⟩,
    ⟨none, .store 28 (.tmp 12) (.tmp 47), 0, none⟩,
    ⟨some 13, .assign (.tmp 48), 22, none⟩]
@[go_sem] def c4_8 : Cmd := .ops [⟨some 49, .move (.tmp 10), 25, none⟩,
    ⟨some 50, .load 28 (.tmp 12), 28, none⟩,
    ⟨some 51, .call { callee := (.value (.func 8)), args := #[(.tmp 49), (.const (.int .i64 1)), (.tmp 50)], argTypes := #[25, 3, 28] }, 31, none⟩,
    ⟨some 14, .assign (.tmp 51), 31, none⟩]
@[go_sem] def c4_9 : Cmd := .ops [⟨some 53, .move (.tmp 10), 25, none⟩,
    ⟨some 54, .call { callee := (.value (.func 13)), args := #[(.tmp 53), (.const (.string ⟨#[99, 107, 112, 116, 46, 49]⟩))], argTypes := #[25, 9] }, 40, none⟩,
    ⟨some 52, .move (.tmp 54), 40, none⟩,
    ⟨some 55, .extract (.tmp 52) 0, 3, none⟩,
    ⟨some 56, .extract (.tmp 52) 1, 31, none⟩,
    ⟨some 15, .assign (.tmp 55), 3, none⟩,
    ⟨some 16, .assign (.tmp 56), 31, none⟩]
@[go_sem] def c4_10 : Cmd := .ops [⟨some 58, .move (.tmp 10), 25, none⟩,
    ⟨some 59, .move (.tmp 15), 3, none⟩,
    ⟨some 60, .call { callee := (.value (.func 14)), args := #[(.tmp 58), (.const (.string ⟨#[99, 107, 112, 116, 46, 49]⟩)), (.const (.int .i64 0)), (.tmp 59)], argTypes := #[25, 9, 3, 3] }, 43, none⟩,
    ⟨some 57, .move (.tmp 60), 43, none⟩,
    ⟨some 61, .extract (.tmp 57) 0, 42, none⟩,
    ⟨some 62, .extract (.tmp 57) 1, 31, none⟩,
    ⟨some 17, .assign (.tmp 61), 42, none⟩,
    ⟨some 18, .assign (.tmp 62), 31, none⟩]
@[go_sem] def c4_11 : Cmd := .ops [⟨some 63, .move (.tmp 14), 31, none⟩,
    ⟨some 64, .call { callee := (.value (.func 12)), args := #[(.tmp 63)], argTypes := #[31] }, 3, none⟩,
    ⟨some 65, .binOp .neq 3 (.tmp 64) (.const (.int .i64 0)) 3, 4, none⟩,
    ⟨some 66, .move (.tmp 65), 4, none⟩,
    ⟨some 67, .move (.tmp 17), 42, some (66, false)⟩,
    ⟨some 68, .call { callee := (.builtin .len), args := #[(.tmp 67)], argTypes := #[42] }, 3, some (66, false)⟩,
    ⟨some 69, .binOp .lss 3 (.tmp 68) (.const (.int .i64 28)) 3, 4, some (66, false)⟩,
    ⟨some 70, .pick (.tmp 66) (.const (.bool true)) (.tmp 69), 4, none⟩]
@[go_sem] def c4_12 : Cmd := .ops [⟨some 8, .assign (.const (.bool false)), 4, none⟩]
@[go_sem] def c4_13 : Cmd := .cond (.tmp 70) (.seq c4_12 .ret) .skip
@[go_sem] def c4_14 : Cmd := .ops [⟨some 71, .move (.tmp 11), 25, none⟩,
    ⟨some 72, .call { callee := (.value (.func 15)), args := #[(.tmp 71), (.const (.string ⟨#[99, 107, 112, 116, 46, 49]⟩))], argTypes := #[25, 9] }, 31, none⟩]
@[go_sem] def c4_15 : Cmd := .ops [⟨some 73, .move (.tmp 11), 25, none⟩,
    ⟨some 74, .move (.tmp 17), 42, none⟩,
    ⟨some 75, .move (.tmp 2), 3, none⟩,
    ⟨some 76, .move (.tmp 17), 42, none⟩,
    ⟨some 77, .call { callee := (.builtin .len), args := #[(.tmp 76)], argTypes := #[42] }, 3, none⟩,
    ⟨some 78, .binOp .rem 3 (.tmp 75) (.tmp 77) 3, 3, none⟩,
    ⟨some 79, .move (.tmp 17), 42, none⟩,
    ⟨some 80, .call { callee := (.builtin .len), args := #[(.tmp 79)], argTypes := #[42] }, 3, none⟩,
    ⟨some 81, .binOp .add 3 (.tmp 78) (.tmp 80) 3, 3, none⟩,
    ⟨some 82, .move (.tmp 17), 42, none⟩,
    ⟨some 83, .call { callee := (.builtin .len), args := #[(.tmp 82)], argTypes := #[42] }, 3, none⟩,
    ⟨some 84, .binOp .rem 3 (.tmp 81) (.tmp 83) 3, 3, none⟩,
    ⟨some 85, .slice 42 (.tmp 74) none (some (.tmp 84)) none, 42, none⟩,
    ⟨some 86, .call { callee := (.value (.func 16)), args := #[(.tmp 73), (.const (.string ⟨#[99, 107, 112, 116, 46, 49]⟩)), (.tmp 85)], argTypes := #[25, 9, 42] }, 31, none⟩]
@[go_sem] def c4_16 : Cmd := .ops [⟨some 88, .move (.tmp 11), 25, none⟩,
    ⟨some 89, .move (.tmp 13), 22, none⟩,
    ⟨some 90, .fieldAddr 28 (.tmp 12) 2, 0, none⟩,
    ⟨some 91, .load 23 (.tmp 90), 23, none⟩,
    ⟨some 92, .call { callee := (.builtin .len), args := #[(.tmp 91)], argTypes := #[23] }, 3, none⟩,
    ⟨some 93, .call { callee := (.value (.func 10)), args := #[(.tmp 88), (.const (.int .i64 1)), (.tmp 89), (.tmp 92)], argTypes := #[25, 3, 22, 3] }, 34, none⟩,
    ⟨some 87, .move (.tmp 93), 34, none⟩,
    ⟨some 94, .extract (.tmp 87) 0, 28, none⟩,
    ⟨some 95, .extract (.tmp 87) 1, 4, none⟩,
    ⟨some 96, .extract (.tmp 87) 2, 31, none⟩,
    ⟨some 19, .alloc 28, 0, none⟩,
    ⟨none, .store 28 (.tmp 19) (.tmp 94), 0, none⟩,
    ⟨some 20, .assign (.tmp 95), 4, none⟩,
    ⟨some 21, .assign (.tmp 96), 31, none⟩]
@[go_sem] def c4_17 : Cmd := .ops [⟨some 97, .move (.tmp 2), 3, none⟩,
    ⟨some 98, .move (.tmp 17), 42, none⟩,
    ⟨some 99, .call { callee := (.builtin .len), args := #[(.tmp 98)], argTypes := #[42] }, 3, none⟩,
    ⟨some 100, .binOp .mul 3 (.const (.int .i64 8)) (.tmp 99) 3, 3, none⟩,
    ⟨some 101, .binOp .rem 3 (.tmp 97) (.tmp 100) 3, 3, none⟩,
    ⟨some 102, .move (.tmp 17), 42, none⟩,
    ⟨some 103, .call { callee := (.builtin .len), args := #[(.tmp 102)], argTypes := #[42] }, 3, none⟩,
    ⟨some 104, .binOp .mul 3 (.const (.int .i64 8)) (.tmp 103) 3, 3, none⟩,
    ⟨some 105, .binOp .add 3 (.tmp 101) (.tmp 104) 3, 3, none⟩,
    ⟨some 106, .move (.tmp 17), 42, none⟩,
    ⟨some 107, .call { callee := (.builtin .len), args := #[(.tmp 106)], argTypes := #[42] }, 3, none⟩,
    ⟨some 108, .binOp .mul 3 (.const (.int .i64 8)) (.tmp 107) 3, 3, none⟩,
    ⟨some 109, .binOp .rem 3 (.tmp 105) (.tmp 108) 3, 3, none⟩,
    ⟨some 22, .assign (.tmp 109), 3, none⟩]
@[go_sem] def c4_18 : Cmd := .ops [⟨some 110, .move (.tmp 3), 39, none⟩,
    ⟨some 111, .binOp .or 39 (.tmp 110) (.const (.int .u32 2147483648)) 39, 39, none⟩,
    ⟨some 3, .assign (.tmp 111), 39, none⟩]
@[go_sem] def c4_19 : Cmd := .ops [⟨some 23, .assign (.const (.int .i64 0)), 3, none⟩]
@[go_sem] def c4_20 : Cmd := .ops [⟨some 112, .move (.tmp 23), 3, none⟩,
    ⟨some 113, .binOp .lss 3 (.tmp 112) (.const (.int .i64 32)) 3, 4, none⟩,
    ⟨some 114, .move (.tmp 113), 4, none⟩,
    ⟨some 115, .move (.tmp 22), 3, some (114, true)⟩,
    ⟨some 116, .move (.tmp 23), 3, some (114, true)⟩,
    ⟨some 117, .binOp .add 3 (.tmp 115) (.tmp 116) 3, 3, some (114, true)⟩,
    ⟨some 118, .binOp .quo 3 (.tmp 117) (.const (.int .i64 8)) 3, 3, some (114, true)⟩,
    ⟨some 119, .move (.tmp 17), 42, some (114, true)⟩,
    ⟨some 120, .call { callee := (.builtin .len), args := #[(.tmp 119)], argTypes := #[42] }, 3, some (114, true)⟩,
    ⟨some 121, .binOp .lss 3 (.tmp 118) (.tmp 120) 3, 4, some (114, true)⟩,
    ⟨some 122, .pick (.tmp 114) (.tmp 121) (.const (.bool false)), 4, none⟩]
@[go_sem] def c4_21 : Cmd := .cond (.tmp 122) .skip (.exit 0)
@[go_sem] def c4_22 : Cmd := .ops [⟨some 125, .move (.tmp 3), 39, none⟩,
    ⟨some 126, .move (.tmp 23), 3, none⟩,
    ⟨some 127, .binOp .sub 3 (.const (.int .i64 31)) (.tmp 126) 3, 3, none⟩,
    ⟨some 128, .convert 3 47 (.tmp 127), 47, none⟩,
    ⟨some 129, .binOp .shr 39 (.tmp 125) (.tmp 128) 47, 39, none⟩,
    ⟨some 130, .binOp .and 39 (.tmp 129) (.const (.int .u32 1)) 39, 39, none⟩,
    ⟨some 131, .binOp .eql 39 (.tmp 130) (.const (.int .u32 1)) 39, 4, none⟩]
@[go_sem] def c4_23 : Cmd := .ops [⟨some 132, .move (.tmp 10), 25, none⟩,
    ⟨some 133, .move (.tmp 22), 3, none⟩,
    ⟨some 134, .move (.tmp 23), 3, none⟩,
    ⟨some 135, .binOp .add 3 (.tmp 133) (.tmp 134) 3, 3, none⟩,
    ⟨some 136, .binOp .quo 3 (.tmp 135) (.const (.int .i64 8)) 3, 3, none⟩,
    ⟨some 137, .move (.tmp 22), 3, none⟩,
    ⟨some 138, .move (.tmp 23), 3, none⟩,
    ⟨some 139, .binOp .add 3 (.tmp 137) (.tmp 138) 3, 3, none⟩,
    ⟨some 140, .binOp .rem 3 (.tmp 139) (.const (.int .i64 8)) 3, 3, none⟩,
    ⟨some 141, .binOp .sub 3 (.const (.int .i64 7)) (.tmp 140) 3, 3, none⟩,
    ⟨some 142, .convert 3 47 (.tmp 141), 47, none⟩,
    ⟨some 143, .binOp .shl 3 (.const (.int .i64 1)) (.tmp 142) 47, 3, none⟩,
    ⟨some 144, .call { callee := (.value (.func 17)), args := #[(.tmp 132), (.const (.string ⟨#[99, 107, 112, 116, 46, 49]⟩)), (.tmp 136), (.tmp 143)], argTypes := #[25, 9, 3, 3] }, 31, none⟩]
@[go_sem] def c4_24 : Cmd := .cond (.tmp 131) c4_23 .skip
@[go_sem] def c4_25 : Cmd := .block 1 (.seq c4_22 c4_24)
@[go_sem] def c4_26 : Cmd := .ops [⟨some 123, .move (.tmp 23), 3, none⟩,
    ⟨some 124, .binOp .add 3 (.tmp 123) (.const (.int .i64 1)) 3, 3, none⟩,
    ⟨some 23, .assign (.tmp 124), 3, none⟩]
def c4_L0 : Cmd := (.seq (.seq c4_20 c4_21) (.seq c4_25 c4_26))
@[go_sem] def c4_27 : Cmd := .loop c4_L0
@[go_sem] def c4_28 : Cmd := .block 0 c4_27
@[go_sem] def c4_29 : Cmd := .ops [⟨some 146, .move (.tmp 10), 25, none⟩,
    ⟨some 147, .move (.tmp 13), 22, none⟩,
    ⟨some 148, .fieldAddr 28 (.tmp 12) 2, 0, none⟩,
    ⟨some 149, .load 23 (.tmp 148), 23, none⟩,
    ⟨some 150, .call { callee := (.builtin .len), args := #[(.tmp 149)], argTypes := #[23] }, 3, none⟩,
    ⟨some 151, .call { callee := (.value (.func 10)), args := #[(.tmp 146), (.const (.int .i64 1)), (.tmp 147), (.tmp 150)], argTypes := #[25, 3, 22, 3] }, 34, none⟩,
    ⟨some 145, .move (.tmp 151), 34, none⟩,
    ⟨some 152, .extract (.tmp 145) 0, 28, none⟩,
    ⟨some 153, .extract (.tmp 145) 1, 4, none⟩,
    ⟨some 154, .extract (.tmp 145) 2, 31, none⟩,
    ⟨some 24, .alloc 28, 0, none⟩,
    ⟨none, .store 28 (.tmp 24) (.tmp 152), 0, none⟩,
    ⟨some 25, .assign (.tmp 153), 4, none⟩,
    ⟨some 26, .assign (.tmp 154), 31, none⟩]
@[go_sem] def c4_30 : Cmd := .ops [⟨some 156, .move (.tmp 10), 25, none⟩,
    ⟨some 157, .call { callee := (.value (.func 18)), args := #[(.tmp 156), (.const (.string ⟨#[99, 107, 112, 116, 46, 49]⟩))], argTypes := #[25, 9] }, 50, none⟩,
    ⟨some 155, .move (.tmp 157), 50, none⟩,
    ⟨some 158, .extract (.tmp 155) 0, 42, none⟩,
    ⟨some 159, .extract (.tmp 155) 1, 49, none⟩,
    ⟨some 160, .extract (.tmp 155) 2, 31, none⟩,
    ⟨some 27, .assign (.tmp 158), 42, none⟩,
    ⟨some 28, .assign (.tmp 159), 49, none⟩,
    ⟨some 29, .assign (.tmp 160), 31, none⟩]
@[go_sem] def c4_31 : Cmd := .ops [⟨some 161, .move (.tmp 20), 4, none⟩,
    ⟨some 162, .unOp .not 4 (.tmp 161), 4, none⟩,
    ⟨some 163, .move (.tmp 162), 4, none⟩,
    ⟨some 164, .move (.tmp 21), 31, some (163, true)⟩,
    ⟨some 165, .call { callee := (.value (.func 12)), args := #[(.tmp 164)], argTypes := #[31] }, 3, some (163, true)⟩,
    ⟨some 166, .binOp .eql 3 (.tmp 165) (.const (.int .i64 0)) 3, 4, some (163, true)⟩,
    ⟨some 167, .pick (.tmp 163) (.tmp 166) (.const (.bool false)), 4, none⟩,
    ⟨some 168, .move (.tmp 167), 4, none⟩,
    ⟨some 169, .move (.tmp 25), 4, some (168, true)⟩,
    ⟨some 170, .unOp .not 4 (.tmp 169), 4, some (168, true)⟩,
    ⟨some 171, .pick (.tmp 168) (.tmp 170) (.const (.bool false)), 4, none⟩,
    ⟨some 172, .move (.tmp 171), 4, none⟩,
    ⟨some 173, .move (.tmp 26), 31, some (172, true)⟩,
    ⟨some 174, .call { callee := (.value (.func 12)), args := #[(.tmp 173)], argTypes := #[31] }, 3, some (172, true)⟩,
    ⟨some 175, .binOp .eql 3 (.tmp 174) (.const (.int .i64 0)) 3, 4, some (172, true)⟩,
    ⟨some 176, .pick (.tmp 172) (.tmp 175) (.const (.bool false)), 4, none⟩,
    ⟨some 177, .move (.tmp 176), 4, none⟩,
    ⟨some 178, .move (.tmp 29), 31, some (177, true)⟩,
    ⟨some 179, .call { callee := (.value (.func 12)), args := #[(.tmp 178)], argTypes := #[31] }, 3, some (177, true)⟩,
    ⟨some 180, .binOp .eql 3 (.tmp 179) (.const (.int .i64 90)) 3, 4, some (177, true)⟩,
    ⟨some 181, .pick (.tmp 177) (.tmp 180) (.const (.bool false)), 4, none⟩,
    ⟨some 8, .assign (.tmp 181), 4, none⟩]
@[go_sem] def c4 : Cmd := (.seq c4_0 (.seq c4_1 (.seq c4_2 (.seq c4_3 (.seq (.seq c4_4 c4_6) (.seq c4_7 (.seq c4_8 (.seq c4_9 (.seq c4_10 (.seq (.seq c4_11 c4_13) (.seq c4_14 (.seq c4_15 (.seq c4_16 (.seq c4_17 (.seq c4_18 (.seq (.seq c4_19 c4_28) (.seq c4_29 (.seq c4_30 (.seq c4_31 .ret)))))))))))))))))))
def c4_S31 : Cmd := (.seq c4_31 .ret)
def c4_S30 : Cmd := (.seq c4_30 c4_S31)
def c4_S29 : Cmd := (.seq c4_29 c4_S30)
def c4_S19 : Cmd := (.seq (.seq c4_19 c4_28) c4_S29)
def c4_S18 : Cmd := (.seq c4_18 c4_S19)
def c4_S17 : Cmd := (.seq c4_17 c4_S18)
def c4_S16 : Cmd := (.seq c4_16 c4_S17)
def c4_S15 : Cmd := (.seq c4_15 c4_S16)
def c4_S14 : Cmd := (.seq c4_14 c4_S15)
def c4_S11 : Cmd := (.seq (.seq c4_11 c4_13) c4_S14)
def c4_S10 : Cmd := (.seq c4_10 c4_S11)
def c4_S9 : Cmd := (.seq c4_9 c4_S10)
def c4_S8 : Cmd := (.seq c4_8 c4_S9)
def c4_S7 : Cmd := (.seq c4_7 c4_S8)
def c4_S4 : Cmd := (.seq (.seq c4_4 c4_6) c4_S7)
def c4_S3 : Cmd := (.seq c4_3 c4_S4)
def c4_S2 : Cmd := (.seq c4_2 c4_S3)
def c4_S1 : Cmd := (.seq c4_1 c4_S2)
def c4_S0 : Cmd := (.seq c4_0 c4_S1)
theorem c4_ch : c4 = c4_S0 := rfl
theorem b4 : Tryd.f4.body.map (comp 182) = some c4 := by kernel_rfl
theorem r4 : Tryd.f4.results.toList = [.tmp 8] := by kernel_rfl
end Go.Proofs.YtgigigchjnnonaaDoor
