/- The functions' code as commands; printed by wip/Gen.lean off the translation. -/
import Derived.Test.YtgpoldjpmcoppaaDoorProg
import Derived.Test.YtgpoldjpmcoppaaDoorVBase
import Derived.KernelRfl
set_option maxRecDepth 100000
set_option linter.unusedSimpArgs false
namespace Go.Proofs.YtgpoldjpmcoppaaDoor
open Go Go.V
theorem mixed : Tryd.prog.follows .mixedOrders = true := by kernel_rfl
-- 9 pith/pithlaw9.first
@[go_sem] def c9_0 : Cmd := .ops [⟨some 0, .assign (.const (.bool false)), 4, none⟩]
@[go_sem] def c9_1 : Cmd := .ops [⟨some 18, .call { callee := (.value (.func 10)), args := #[(.const (.int .i64 1000))], argTypes := #[3] }, 25, none⟩,
    ⟨some 1, .assign (.tmp 18), 25, none⟩]
@[go_sem] def c9_2 : Cmd := .ops [⟨some 19, .move (.tmp 1), 25, none⟩,
    ⟨some 20, .binOp .eql 25 (.tmp 19) (.const (.pointer none)) 25, 4, none⟩]
@[go_sem] def c9_3 : Cmd := .ops [⟨some 0, .assign (.const (.bool false)), 4, none⟩]
@[go_sem] def c9_4 : Cmd := .cond (.tmp 20) (.seq c9_3 .ret) .skip
@[go_sem] def c9_5 : Cmd := .ops [⟨some 22, .move (.tmp 1), 25, none⟩,
    ⟨some 23, .buildSlice 22 2 #[(0, (.const (.int .u8 104))), (1, (.const (.int .u8 105)))], 22, none⟩,
    ⟨some 24, .convert 22 22 (.tmp 23), 22, none⟩,
    ⟨some 25, .call { callee := (.value (.func 24)), args := #[(.tmp 22), (.const (.string ⟨#[97]⟩)), (.tmp 24)], argTypes := #[25, 9, 22] }, 53, none⟩,
    ⟨some 21, .move (.tmp 25), 53, none⟩,
    ⟨some 26, .extract (.tmp 21) 0, 52, none⟩,
    ⟨some 27, .extract (.tmp 21) 1, 29, none⟩,
    ⟨some 2, .assign (.tmp 26), 52, none⟩,
    ⟨some 3, .assign (.tmp 27), 29, none⟩]
@[go_sem] def c9_6 : Cmd := .ops [⟨some 28, .move (.tmp 3), 29, none⟩,
    ⟨some 29, .call { callee := (.value (.func 19)), args := #[(.tmp 28)], argTypes := #[29] }, 3, none⟩,
    ⟨some 30, .binOp .neq 3 (.tmp 29) (.const (.int .i64 0)) 3, 4, none⟩,
    ⟨some 31, .move (.tmp 30), 4, none⟩,
    ⟨some 32, .move (.tmp 2), 52, some (31, false)⟩,
    ⟨some 33, .binOp .eql 52 (.tmp 32) (.const (.pointer none)) 52, 4, some (31, false)⟩,
    ⟨some 34, .pick (.tmp 31) (.const (.bool true)) (.tmp 33), 4, none⟩]
@[go_sem] def c9_7 : Cmd := .ops [⟨some 0, .assign (.const (.bool false)), 4, none⟩]
@[go_sem] def c9_8 : Cmd := .cond (.tmp 34) (.seq c9_7 .ret) .skip
@[go_sem] def c9_9 : Cmd := .ops [⟨some 35, .move (.tmp 2), 52, none⟩,
    ⟨some 36, .buildSlice 22 1 #[(0, (.const (.int .u8 120)))], 22, none⟩,
    ⟨some 37, .convert 22 22 (.tmp 36), 22, none⟩,
    ⟨some 38, .call { callee := (.value (.func 25)), args := #[(.tmp 35), (.tmp 37)], argTypes := #[52, 22] }, 29, none⟩,
    ⟨some 4, .assign (.tmp 38), 29, none⟩]
@[go_sem] def c9_10 : Cmd := .ops [⟨some 39, .move (.tmp 2), 52, none⟩,
    ⟨some 40, .call { callee := (.value (.func 25)), args := #[(.tmp 39), (.const (.slice none 0 0))], argTypes := #[52, 22] }, 29, none⟩,
    ⟨some 5, .assign (.tmp 40), 29, none⟩]
@[go_sem] def c9_11 : Cmd := .ops [⟨some 42, .move (.tmp 2), 52, none⟩,
    ⟨some 43, .call { callee := (.value (.func 26)), args := #[(.tmp 42), (.const (.bool false))], argTypes := #[52, 4] }, 56, none⟩,
    ⟨some 41, .move (.tmp 43), 56, none⟩,
    ⟨some 44, .extract (.tmp 41) 0, 3, none⟩,
    ⟨some 45, .extract (.tmp 41) 1, 46, none⟩,
    ⟨some 46, .extract (.tmp 41) 2, 29, none⟩,
    ⟨some 6, .assign (.tmp 44), 3, none⟩,
    ⟨some 7, .assign (.tmp 45), 46, none⟩,
    ⟨some 8, .assign (.tmp 46), 29, none⟩]
@[go_sem] def c9_12 : Cmd := .ops [⟨some 48, .move (.tmp 1), 25, none⟩,
    ⟨some 49, .call { callee := (.value (.func 39)), args := #[(.tmp 48), (.const (.string ⟨#[97]⟩))], argTypes := #[25, 9] }, 79, none⟩,
    ⟨some 47, .move (.tmp 49), 79, none⟩,
    ⟨some 50, .extract (.tmp 47) 0, 78, none⟩,
    ⟨some 51, .extract (.tmp 47) 1, 22, none⟩,
    ⟨some 52, .extract (.tmp 47) 2, 29, none⟩,
    ⟨some 9, .assign (.tmp 50), 78, none⟩,
    ⟨some 10, .assign (.tmp 51), 22, none⟩,
    ⟨some 11, .assign (.tmp 52), 29, none⟩]
@[go_sem] def c9_13 : Cmd := .ops [⟨some 53, .move (.tmp 9), 78, none⟩,
    ⟨some 54, .binOp .eql 78 (.tmp 53) (.const (.pointer none)) 78, 4, none⟩,
    ⟨some 55, .move (.tmp 54), 4, none⟩,
    ⟨some 56, .move (.tmp 11), 29, some (55, false)⟩,
    ⟨some 57, .call { callee := (.value (.func 19)), args := #[(.tmp 56)], argTypes := #[29] }, 3, some (55, false)⟩,
    ⟨some 58, .binOp .neq 3 (.tmp 57) (.const (.int .i64 0)) 3, 4, some (55, false)⟩,
    ⟨some 59, .pick (.tmp 55) (.const (.bool true)) (.tmp 58), 4, none⟩]
@[go_sem] def c9_14 : Cmd := .ops [⟨some 0, .assign (.const (.bool false)), 4, none⟩]
@[go_sem] def c9_15 : Cmd := .cond (.tmp 59) (.seq c9_14 .ret) .skip
@[go_sem] def c9_16 : Cmd := .ops [⟨some 61, .move (.tmp 1), 25, none⟩,
    ⟨some 62, .call { callee := (.value (.func 13)), args := #[(.tmp 61), (.const (.string ⟨#[97]⟩))], argTypes := #[25, 9] }, 30, none⟩,
    ⟨some 60, .move (.tmp 62), 30, none⟩,
    ⟨some 63, .extract (.tmp 60) 0, 22, none⟩,
    ⟨some 64, .extract (.tmp 60) 1, 23, none⟩,
    ⟨some 65, .extract (.tmp 60) 2, 29, none⟩,
    ⟨some 12, .assign (.tmp 63), 22, none⟩,
    ⟨some 13, .assign (.tmp 64), 23, none⟩,
    ⟨some 14, .assign (.tmp 65), 29, none⟩]
@[go_sem] def c9_17 : Cmd := .ops [⟨some 66, .move (.tmp 2), 52, none⟩,
    ⟨some 67, .buildSlice 22 1 #[(0, (.const (.int .u8 121)))], 22, none⟩,
    ⟨some 68, .convert 22 22 (.tmp 67), 22, none⟩,
    ⟨some 69, .call { callee := (.value (.func 25)), args := #[(.tmp 66), (.tmp 68)], argTypes := #[52, 22] }, 29, none⟩,
    ⟨some 15, .assign (.tmp 69), 29, none⟩]
@[go_sem] def c9_18 : Cmd := .ops [⟨some 70, .move (.tmp 12), 22, none⟩,
    ⟨some 71, .buildSlice 22 2 #[(0, (.const (.int .u8 104))), (1, (.const (.int .u8 105)))], 22, none⟩,
    ⟨some 72, .convert 22 22 (.tmp 71), 22, none⟩,
    ⟨some 73, .call { callee := (.value (.func 14)), args := #[(.tmp 70), (.tmp 72)], argTypes := #[22, 22] }, 4, none⟩,
    ⟨some 16, .assign (.tmp 73), 4, none⟩]
@[go_sem] def c9_19 : Cmd := .ops [⟨some 74, .move (.tmp 13), 23, none⟩,
    ⟨some 75, .buildSlice 22 1 #[(0, (.const (.int .u8 120)))], 22, none⟩,
    ⟨some 76, .convert 22 22 (.tmp 75), 22, none⟩,
    ⟨some 77, .buildSlice 23 2 #[(0, (.tmp 76)), (1, (.const (.slice none 0 0)))], 23, none⟩,
    ⟨some 78, .call { callee := (.value (.func 15)), args := #[(.tmp 74), (.tmp 77)], argTypes := #[23, 23] }, 4, none⟩,
    ⟨some 17, .assign (.tmp 78), 4, none⟩]
@[go_sem] def c9_20 : Cmd := .ops [⟨some 79, .move (.tmp 4), 29, none⟩,
    ⟨some 80, .call { callee := (.value (.func 19)), args := #[(.tmp 79)], argTypes := #[29] }, 3, none⟩,
    ⟨some 81, .binOp .eql 3 (.tmp 80) (.const (.int .i64 0)) 3, 4, none⟩,
    ⟨some 82, .move (.tmp 81), 4, none⟩,
    ⟨some 83, .move (.tmp 5), 29, some (82, true)⟩,
    ⟨some 84, .call { callee := (.value (.func 19)), args := #[(.tmp 83)], argTypes := #[29] }, 3, some (82, true)⟩,
    ⟨some 85, .binOp .eql 3 (.tmp 84) (.const (.int .i64 0)) 3, 4, some (82, true)⟩,
    ⟨some 86, .pick (.tmp 82) (.tmp 85) (.const (.bool false)), 4, none⟩,
    ⟨some 87, .move (.tmp 86), 4, none⟩,
    ⟨some 88, .move (.tmp 8), 29, some (87, true)⟩,
    ⟨some 89, .call { callee := (.value (.func 19)), args := #[(.tmp 88)], argTypes := #[29] }, 3, some (87, true)⟩,
    ⟨some 90, .binOp .eql 3 (.tmp 89) (.const (.int .i64 0)) 3, 4, some (87, true)⟩,
    ⟨some 91, .pick (.tmp 87) (.tmp 90) (.const (.bool false)), 4, none⟩,
    ⟨some 92, .move (.tmp 91), 4, none⟩,
    ⟨some 93, .move (.tmp 6), 3, some (92, true)⟩,
    ⟨some 94, .binOp .eql 3 (.tmp 93) (.const (.int .i64 55)) 3, 4, some (92, true)⟩,
    ⟨some 95, .pick (.tmp 92) (.tmp 94) (.const (.bool false)), 4, none⟩,
    ⟨some 96, .move (.tmp 95), 4, none⟩,
    ⟨some 97, .move (.tmp 14), 29, some (96, true)⟩,
    ⟨some 98, .call { callee := (.value (.func 19)), args := #[(.tmp 97)], argTypes := #[29] }, 3, some (96, true)⟩,
    ⟨some 99, .binOp .eql 3 (.tmp 98) (.const (.int .i64 0)) 3, 4, some (96, true)⟩,
    ⟨some 100, .pick (.tmp 96) (.tmp 99) (.const (.bool false)), 4, none⟩,
    ⟨some 101, .move (.tmp 100), 4, none⟩,
    ⟨some 102, .move (.tmp 16), 4, some (101, true)⟩,
    ⟨some 103, .pick (.tmp 101) (.tmp 102) (.const (.bool false)), 4, none⟩,
    ⟨some 104, .move (.tmp 103), 4, none⟩,
    ⟨some 105, .move (.tmp 17), 4, some (104, true)⟩,
    ⟨some 106, .pick (.tmp 104) (.tmp 105) (.const (.bool false)), 4, none⟩,
    ⟨some 107, .move (.tmp 106), 4, none⟩,
    ⟨some 108, .move (.tmp 15), 29, some (107, true)⟩,
    ⟨some 109, .call { callee := (.value (.func 19)), args := #[(.tmp 108)], argTypes := #[29] }, 3, some (107, true)⟩,
    ⟨some 110, .binOp .eql 3 (.tmp 109) (.const (.int .i64 91)) 3, 4, some (107, true)⟩,
    ⟨some 111, .pick (.tmp 107) (.tmp 110) (.const (.bool false)), 4, none⟩,
    ⟨some 0, .assign (.tmp 111), 4, none⟩]
@[go_sem] def c9 : Cmd := (.seq c9_0 (.seq c9_1 (.seq (.seq c9_2 c9_4) (.seq c9_5 (.seq (.seq c9_6 c9_8) (.seq c9_9 (.seq c9_10 (.seq c9_11 (.seq c9_12 (.seq (.seq c9_13 c9_15) (.seq c9_16 (.seq c9_17 (.seq c9_18 (.seq c9_19 (.seq c9_20 .ret)))))))))))))))
theorem b9 : Tryd.f9.body.map (comp 112) = some c9 := by kernel_rfl
theorem r9 : Tryd.f9.results.toList = [.tmp 0] := by kernel_rfl
-- 10 pith/fs.New
@[go_sem] def c10_0 : Cmd := .ops [⟨some 2, .assign (.const (.pointer none)), 25, none⟩]
@[go_sem] def c10_1 : Cmd := .ops [⟨some 3, .move (.tmp 0), 3, none⟩,
    ⟨some 4, .binOp .lss 3 (.tmp 3) (.const (.int .i64 0)) 3, 4, none⟩,
    ⟨some 5, .move (.tmp 4), 4, none⟩,
    ⟨some 6, .move (.tmp 0), 3, some (5, false)⟩,
    ⟨some 7, .binOp .gtr 3 (.tmp 6) (.const (.int .i64 2147483647)) 3, 4, some (5, false)⟩,
    ⟨some 8, .pick (.tmp 5) (.const (.bool true)) (.tmp 7), 4, none⟩]
@[go_sem] def c10_2 : Cmd := .ops [⟨some 2, .assign (.const (.pointer none)), 25, none⟩]
@[go_sem] def c10_3 : Cmd := .cond (.tmp 8) (.seq c10_2 .ret) .skip
@[go_sem] def c10_4 : Cmd := .ops [⟨some 9, .move (.tmp 0), 3, none⟩,
    ⟨some 10, .makeMap 82 none, 82, none⟩,
    ⟨some 11, .makeMap 82 none, 82, none⟩,
    ⟨some 12, .makeMap 83 none, 83, none⟩,
    ⟨some 13, .build 86 #[(0, (.tmp 9)), (1, (.tmp 10)), (2, (.tmp 11)), (4, (.tmp 12))], 86, none⟩,
    ⟨some 14, .box 86 (.tmp 13), 25, none⟩,
    ⟨some 2, .assign (.tmp 14), 25, none⟩]
@[go_sem] def c10 : Cmd := (.seq c10_0 (.seq (.seq c10_1 c10_3) (.seq c10_4 .ret)))
theorem b10 : Tryd.f10.body.map (comp 15) = some c10 := by kernel_rfl
theorem r10 : Tryd.f10.results.toList = [.tmp 2] := by kernel_rfl
-- 11 pith/pithlaw9.clipped
@[go_sem] def c11_0 : Cmd := .ops [⟨some 2, .assign (.const (.slice none 0 0)), 23, none⟩]
@[go_sem] def c11_1 : Cmd := .ops [⟨some 3, .assign (.const (.slice none 0 0)), 23, none⟩]
@[go_sem] def c11_2 : Cmd := .ops [⟨some 4, .assign (.const (.int .i64 0)), 3, none⟩]
@[go_sem] def c11_3 : Cmd := .ops [⟨some 5, .move (.tmp 4), 3, none⟩,
    ⟨some 6, .move (.tmp 0), 23, none⟩,
    ⟨some 7, .call { callee := (.builtin .len), args := #[(.tmp 6)], argTypes := #[23] }, 3, none⟩,
    ⟨some 8, .binOp .lss 3 (.tmp 5) (.tmp 7) 3, 4, none⟩,
    ⟨some 9, .move (.tmp 8), 4, none⟩,
    ⟨some 10, .move (.tmp 4), 3, some (9, true)⟩,
    ⟨some 11, .binOp .lss 3 (.tmp 10) (.const (.int .i64 40)) 3, 4, some (9, true)⟩,
    ⟨some 12, .pick (.tmp 9) (.tmp 11) (.const (.bool false)), 4, none⟩]
@[go_sem] def c11_4 : Cmd := .cond (.tmp 12) .skip (.exit 0)
@[go_sem] def c11_5 : Cmd := .draw (.step 3 ⟨some 15, .move (.tmp 3), 23, none⟩
    (.step 3 ⟨some 16, .move (.tmp 0), 23, none⟩
    (.step 3 ⟨some 17, .move (.tmp 4), 3, none⟩
    (.step 3 ⟨some 18, .indexAddr 23 (.tmp 16) (.tmp 17), 0, none⟩
    (.step 0 ⟨some 19, .load 22 (.tmp 18), 22, none⟩
    (.step 3 ⟨some 20, .move (.tmp 0), 23, none⟩
    (.step 3 ⟨some 21, .move (.tmp 4), 3, none⟩
    (.step 3 ⟨some 22, .indexAddr 23 (.tmp 20) (.tmp 21), 0, none⟩
    (.step 0 ⟨some 23, .load 22 (.tmp 22), 22, none⟩
    (.step 3 ⟨some 24, .call { callee := (.builtin .len), args := #[(.tmp 23)], argTypes := #[22] }, 3, none⟩
    (.step 3 ⟨some 25, .call { callee := (.builtin .min), args := #[(.tmp 24), (.const (.int .i64 1024))], argTypes := #[3, 3] }, 3, none⟩
    (.step 3 ⟨some 26, .slice 22 (.tmp 19) none (some (.tmp 25)) none, 22, none⟩
    (.step 1 ⟨some 27, .buildSlice 23 1 #[(0, (.tmp 26))], 23, none⟩
    (.step 2 ⟨some 28, .call { callee := (.builtin .append), args := #[(.tmp 15), (.tmp 27)], argTypes := #[23, 23] }, 23, none⟩
    (.step 3 ⟨some 3, .assign (.tmp 28), 23, none⟩
    .done)))))))))))))))
@[go_sem] def c11_6 : Cmd := .block 1 c11_5
@[go_sem] def c11_7 : Cmd := .ops [⟨some 13, .move (.tmp 4), 3, none⟩,
    ⟨some 14, .binOp .add 3 (.tmp 13) (.const (.int .i64 1)) 3, 3, none⟩,
    ⟨some 4, .assign (.tmp 14), 3, none⟩]
def c11_L0 : Cmd := (.seq (.seq c11_3 c11_4) (.seq c11_6 c11_7))
@[go_sem] def c11_8 : Cmd := .loop c11_L0
@[go_sem] def c11_9 : Cmd := .block 0 c11_8
@[go_sem] def c11_10 : Cmd := .ops [⟨some 29, .move (.tmp 3), 23, none⟩,
    ⟨some 2, .assign (.tmp 29), 23, none⟩]
@[go_sem] def c11 : Cmd := (.seq c11_0 (.seq c11_1 (.seq (.seq c11_2 c11_9) (.seq c11_10 .ret))))
theorem b11 : Tryd.f11.body.map (comp 30) = some c11 := by kernel_rfl
theorem r11 : Tryd.f11.results.toList = [.tmp 2] := by kernel_rfl
-- 12 pith/pithlaw9.put
@[go_sem] def c12_0 : Cmd := .ops [⟨some 8, .assign (.const (.bool false)), 4, none⟩]
@[go_sem] def c12_1 : Cmd := .ops [⟨some 17, .move (.tmp 0), 25, none⟩,
    ⟨some 18, .move (.tmp 1), 9, none⟩,
    ⟨some 19, .move (.tmp 2), 22, none⟩,
    ⟨some 20, .call { callee := (.value (.func 24)), args := #[(.tmp 17), (.tmp 18), (.tmp 19)], argTypes := #[25, 9, 22] }, 53, none⟩,
    ⟨some 16, .move (.tmp 20), 53, none⟩,
    ⟨some 21, .extract (.tmp 16) 0, 52, none⟩,
    ⟨some 22, .extract (.tmp 16) 1, 29, none⟩,
    ⟨some 9, .assign (.tmp 21), 52, none⟩,
    ⟨some 10, .assign (.tmp 22), 29, none⟩]
@[go_sem] def c12_2 : Cmd := .ops [⟨some 23, .move (.tmp 10), 29, none⟩,
    ⟨some 24, .call { callee := (.value (.func 19)), args := #[(.tmp 23)], argTypes := #[29] }, 3, none⟩,
    ⟨some 25, .binOp .neq 3 (.tmp 24) (.const (.int .i64 0)) 3, 4, none⟩,
    ⟨some 26, .move (.tmp 25), 4, none⟩,
    ⟨some 27, .move (.tmp 9), 52, some (26, false)⟩,
    ⟨some 28, .binOp .eql 52 (.tmp 27) (.const (.pointer none)) 52, 4, some (26, false)⟩,
    ⟨some 29, .pick (.tmp 26) (.const (.bool true)) (.tmp 28), 4, none⟩]
@[go_sem] def c12_3 : Cmd := .ops [⟨some 8, .assign (.const (.bool false)), 4, none⟩]
@[go_sem] def c12_4 : Cmd := .cond (.tmp 29) (.seq c12_3 .ret) .skip
@[go_sem] def c12_5 : Cmd := .ops [⟨some 11, .assign (.const (.int .i64 0)), 3, none⟩]
@[go_sem] def c12_6 : Cmd := .ops [⟨some 30, .move (.tmp 11), 3, none⟩,
    ⟨some 31, .move (.tmp 3), 23, none⟩,
    ⟨some 32, .call { callee := (.builtin .len), args := #[(.tmp 31)], argTypes := #[23] }, 3, none⟩,
    ⟨some 33, .binOp .lss 3 (.tmp 30) (.tmp 32) 3, 4, none⟩]
@[go_sem] def c12_7 : Cmd := .cond (.tmp 33) .skip (.exit 0)
@[go_sem] def c12_8 : Cmd := .ops [⟨some 36, .move (.tmp 9), 52, none⟩,
    ⟨some 37, .move (.tmp 3), 23, none⟩,
    ⟨some 38, .move (.tmp 11), 3, none⟩,
    ⟨some 39, .indexAddr 23 (.tmp 37) (.tmp 38), 0, none⟩,
    ⟨some 40, .load 22 (.tmp 39), 22, none⟩,
    ⟨some 41, .call { callee := (.value (.func 25)), args := #[(.tmp 36), (.tmp 40)], argTypes := #[52, 22] }, 29, none⟩,
    ⟨some 10, .assign (.tmp 41), 29, none⟩]
@[go_sem] def c12_9 : Cmd := .ops [⟨some 42, .move (.tmp 10), 29, none⟩,
    ⟨some 43, .call { callee := (.value (.func 19)), args := #[(.tmp 42)], argTypes := #[29] }, 3, none⟩,
    ⟨some 44, .binOp .neq 3 (.tmp 43) (.const (.int .i64 0)) 3, 4, none⟩]
@[go_sem] def c12_10 : Cmd := .ops [⟨some 8, .assign (.const (.bool false)), 4, none⟩]
@[go_sem] def c12_11 : Cmd := .cond (.tmp 44) (.seq c12_10 .ret) .skip
@[go_sem] def c12_12 : Cmd := .block 1 (.seq c12_8 (.seq c12_9 c12_11))
@[go_sem] def c12_13 : Cmd := .ops [⟨some 34, .move (.tmp 11), 3, none⟩,
    ⟨some 35, .binOp .add 3 (.tmp 34) (.const (.int .i64 1)) 3, 3, none⟩,
    ⟨some 11, .assign (.tmp 35), 3, none⟩]
def c12_L0 : Cmd := (.seq (.seq c12_6 c12_7) (.seq c12_12 c12_13))
@[go_sem] def c12_14 : Cmd := .loop c12_L0
@[go_sem] def c12_15 : Cmd := .block 0 c12_14
@[go_sem] def c12_16 : Cmd := .ops [⟨some 46, .move (.tmp 9), 52, none⟩,
    ⟨some 47, .call { callee := (.value (.func 26)), args := #[(.tmp 46), (.const (.bool true))], argTypes := #[52, 4] }, 56, none⟩,
    ⟨some 45, .move (.tmp 47), 56, none⟩,
    ⟨some 48, .extract (.tmp 45) 0, 3, none⟩,
    ⟨some 49, .extract (.tmp 45) 1, 46, none⟩,
    ⟨some 50, .extract (.tmp 45) 2, 29, none⟩,
    ⟨some 12, .assign (.tmp 48), 3, none⟩,
    ⟨some 13, .assign (.tmp 49), 46, none⟩,
    ⟨some 10, .assign (.tmp 50), 29, none⟩]
@[go_sem] def c12_17 : Cmd := .ops [⟨some 52, .move (.tmp 0), 25, none⟩,
    ⟨some 53, .move (.tmp 1), 9, none⟩,
    ⟨some 54, .call { callee := (.value (.func 16)), args := #[(.tmp 52), (.tmp 53)], argTypes := #[25, 9] }, 34, none⟩,
    ⟨some 51, .move (.tmp 54), 34, none⟩,
    ⟨some 55, .extract (.tmp 51) 0, 3, none⟩,
    ⟨some 56, .extract (.tmp 51) 1, 29, none⟩,
    ⟨some 14, .assign (.tmp 55), 3, none⟩,
    ⟨some 15, .assign (.tmp 56), 29, none⟩]
@[go_sem] def c12_18 : Cmd := .ops [⟨some 57, .move (.tmp 10), 29, none⟩,
    ⟨some 58, .call { callee := (.value (.func 19)), args := #[(.tmp 57)], argTypes := #[29] }, 3, none⟩,
    ⟨some 59, .binOp .eql 3 (.tmp 58) (.const (.int .i64 0)) 3, 4, none⟩,
    ⟨some 60, .move (.tmp 59), 4, none⟩,
    ⟨some 61, .move (.tmp 15), 29, some (60, true)⟩,
    ⟨some 62, .call { callee := (.value (.func 19)), args := #[(.tmp 61)], argTypes := #[29] }, 3, some (60, true)⟩,
    ⟨some 63, .binOp .eql 3 (.tmp 62) (.const (.int .i64 0)) 3, 4, some (60, true)⟩,
    ⟨some 64, .pick (.tmp 60) (.tmp 63) (.const (.bool false)), 4, none⟩,
    ⟨some 65, .move (.tmp 64), 4, none⟩,
    ⟨some 66, .move (.tmp 12), 3, some (65, true)⟩,
    ⟨some 67, .move (.tmp 14), 3, some (65, true)⟩,
    ⟨some 68, .binOp .eql 3 (.tmp 66) (.tmp 67) 3, 4, some (65, true)⟩,
    ⟨some 69, .pick (.tmp 65) (.tmp 68) (.const (.bool false)), 4, none⟩,
    ⟨some 70, .move (.tmp 69), 4, none⟩,
    ⟨some 71, .move (.tmp 13), 46, some (70, true)⟩,
    ⟨some 72, .move (.tmp 2), 22, some (70, true)⟩,
    ⟨some 73, .move (.tmp 3), 23, some (70, true)⟩,
    ⟨some 74, .call { callee := (.value (.func 27)), args := #[(.tmp 72), (.tmp 73)], argTypes := #[22, 23] }, 46, some (70, true)⟩,
    ⟨some 75, .binOp .eql 46 (.tmp 71) (.tmp 74) 46, 4, some (70, true)⟩,
    ⟨some 76, .pick (.tmp 70) (.tmp 75) (.const (.bool false)), 4, none⟩,
    ⟨some 8, .assign (.tmp 76), 4, none⟩]
@[go_sem] def c12 : Cmd := (.seq c12_0 (.seq c12_1 (.seq (.seq c12_2 c12_4) (.seq (.seq c12_5 c12_15) (.seq c12_16 (.seq c12_17 (.seq c12_18 .ret)))))))
theorem b12 : Tryd.f12.body.map (comp 77) = some c12 := by kernel_rfl
theorem r12 : Tryd.f12.results.toList = [.tmp 8] := by kernel_rfl
-- 13 pith/files.Load
@[go_sem] def c13_0 : Cmd := .ops [⟨some 4, .alloc 22, 0, none⟩,
    ⟨some 5, .alloc 23, 0, none⟩,
    ⟨some 6, .alloc 29, 0, none⟩]
@[go_sem] def c13_1 : Cmd := .ops [⟨some 14, .move (.tmp 0), 25, none⟩,
    ⟨some 15, .move (.tmp 1), 9, none⟩,
    ⟨some 16, .call { callee := (.value (.func 39)), args := #[(.tmp 14), (.tmp 15)], argTypes := #[25, 9] }, 79, none⟩,
    ⟨some 13, .move (.tmp 16), 79, none⟩,
    ⟨some 17, .extract (.tmp 13) 0, 78, none⟩,
    ⟨some 18, .extract (.tmp 13) 1, 22, none⟩,
    ⟨some 19, .extract (.tmp 13) 2, 29, none⟩,
    ⟨some 7, .assign (.tmp 17), 78, none⟩,
    ⟨some 8, .assign (.tmp 18), 22, none⟩,
    ⟨some 9, .assign (.tmp 19), 29, none⟩]
@[go_sem] def c13_2 : Cmd := .ops [⟨some 20, .move (.tmp 9), 29, none⟩,
    ⟨some 21, .binOp .neq 29 (.tmp 20) (.const (.int .i64 0)) 29, 4, none⟩]
@[go_sem] def c13_3 : Cmd := .ops [⟨some 22, .move (.tmp 9), 29, none⟩,
    ⟨none, .store 22 (.tmp 4) (.const (.slice none 0 0)), 0, none⟩,
    ⟨none, .store 23 (.tmp 5) (.const (.slice none 0 0)), 0, none⟩,
    ⟨none, .store 29 (.tmp 6) (.tmp 22), 0, none⟩]
@[go_sem] def c13_4 : Cmd := .cond (.tmp 21) (.seq c13_3 .ret) .skip
@[go_sem] def c13_5 : Cmd := .ops [⟨some 10, .alloc 23, 0, none⟩]
@[go_sem] def c13_6 : Cmd := .ops [⟨some 23, .move (.tmp 7), 78, none⟩,
    ⟨some 24, .call { callee := (.value (.func 40)), args := #[(.tmp 23)], argTypes := #[78] }, 88, none⟩]
@[go_sem] def c13_7 : Cmd := .ops [⟨some 11, .assign (.tmp 25), 22, none⟩]
@[go_sem] def c13_8 : Cmd := .ops [⟨some 12, .assign (.tmp 26), 29, none⟩]
def c13_L0 : Cmd := (.seq c13_7 c13_8)
@[go_sem] def c13_9 : Cmd := .ops [⟨some 27, .move (.tmp 12), 29, none⟩,
    ⟨some 28, .binOp .neq 29 (.tmp 27) (.const (.int .i64 0)) 29, 4, none⟩]
@[go_sem] def c13_10 : Cmd := .ops [⟨some 29, .move (.tmp 12), 29, none⟩,
    ⟨none, .store 22 (.tmp 4) (.const (.slice none 0 0)), 0, none⟩,
    ⟨none, .store 23 (.tmp 5) (.const (.slice none 0 0)), 0, none⟩,
    ⟨none, .store 29 (.tmp 6) (.tmp 29), 0, none⟩]
@[go_sem] def c13_11 : Cmd := .cond (.tmp 28) (.seq c13_10 .ret) .skip
@[go_sem] def c13_12 : Cmd := .ops [⟨some 30, .load 23 (.tmp 10), 23, none⟩,
    ⟨some 31, .move (.tmp 11), 22, none⟩,
    ⟨some 32, .buildSlice 23 1 #[(0, (.tmp 31))], 23, none⟩,
    ⟨some 33, .call { callee := (.builtin .append), args := #[(.tmp 30), (.tmp 32)], argTypes := #[23, 23] }, 23, none⟩,
    ⟨none, .store 23 (.tmp 10) (.tmp 33), 0, none⟩]
@[go_sem] def c13_13 : Cmd := .block 1 (.seq (.seq c13_9 c13_11) c13_12)
def c13_L1 : Cmd := c13_13
@[go_sem] def c13_14 : Cmd := .rangeF (.tmp 24) #[25, 26] c13_L0 c13_L1
@[go_sem] def c13_15 : Cmd := .block 0 c13_14
@[go_sem] def c13_16 : Cmd := .drawn (.step 3 ⟨some 34, .move (.tmp 8), 22, none⟩
    (.step 0 ⟨some 35, .load 23 (.tmp 10), 23, none⟩
    (.step 1 ⟨none, .store 22 (.tmp 4) (.tmp 34), 0, none⟩
    (.step 1 ⟨none, .store 23 (.tmp 5) (.tmp 35), 0, none⟩
    (.step 1 ⟨none, .store 29 (.tmp 6) (.const (.int .i64 0)), 0, none⟩
    .done)))))
@[go_sem] def c13 : Cmd := (.seq c13_0 (.seq c13_1 (.seq (.seq c13_2 c13_4) (.seq c13_5 (.seq (.seq c13_6 c13_15) (.seq c13_16 .ret))))))
theorem b13 : Tryd.f13.body.map (comp 36) = some c13 := by kernel_rfl
theorem r13 : Tryd.f13.results.toList = [.cell 4 22, .cell 5 23, .cell 6 29] := by kernel_rfl
-- 14 pith/pithref.SameBytes
@[go_sem] def c14_0 : Cmd := .ops [⟨some 4, .assign (.const (.bool false)), 4, none⟩]
@[go_sem] def c14_1 : Cmd := .ops [⟨some 5, .move (.tmp 0), 22, none⟩,
    ⟨some 6, .convert 22 9 (.tmp 5), 9, none⟩,
    ⟨some 7, .move (.tmp 1), 22, none⟩,
    ⟨some 8, .convert 22 9 (.tmp 7), 9, none⟩,
    ⟨some 9, .binOp .eql 9 (.tmp 6) (.tmp 8) 9, 4, none⟩,
    ⟨some 4, .assign (.tmp 9), 4, none⟩]
@[go_sem] def c14 : Cmd := (.seq c14_0 (.seq c14_1 .ret))
theorem b14 : Tryd.f14.body.map (comp 10) = some c14 := by kernel_rfl
theorem r14 : Tryd.f14.results.toList = [.tmp 4] := by kernel_rfl
-- 15 pith/pithref.SameByteLists
@[go_sem] def c15_0 : Cmd := .ops [⟨some 4, .assign (.const (.bool false)), 4, none⟩]
@[go_sem] def c15_1 : Cmd := .ops [⟨some 7, .move (.tmp 0), 23, none⟩,
    ⟨some 8, .call { callee := (.builtin .len), args := #[(.tmp 7)], argTypes := #[23] }, 3, none⟩,
    ⟨some 9, .move (.tmp 1), 23, none⟩,
    ⟨some 10, .call { callee := (.builtin .len), args := #[(.tmp 9)], argTypes := #[23] }, 3, none⟩,
    ⟨some 11, .binOp .neq 3 (.tmp 8) (.tmp 10) 3, 4, none⟩]
@[go_sem] def c15_2 : Cmd := .ops [⟨some 4, .assign (.const (.bool false)), 4, none⟩]
@[go_sem] def c15_3 : Cmd := .cond (.tmp 11) (.seq c15_2 .ret) .skip
@[go_sem] def c15_4 : Cmd := .ops [⟨some 5, .assign (.const (.int .i64 0)), 3, none⟩]
@[go_sem] def c15_5 : Cmd := .ops [⟨some 12, .move (.tmp 5), 3, none⟩,
    ⟨some 13, .move (.tmp 0), 23, none⟩,
    ⟨some 14, .call { callee := (.builtin .len), args := #[(.tmp 13)], argTypes := #[23] }, 3, none⟩,
    ⟨some 15, .binOp .lss 3 (.tmp 12) (.tmp 14) 3, 4, none⟩]
@[go_sem] def c15_6 : Cmd := .cond (.tmp 15) .skip (.exit 0)
@[go_sem] def c15_7 : Cmd := .quiet [⟨some 18, .move (.tmp 0), 23, none⟩,
    ⟨some 19, .move (.tmp 5), 3, none⟩,
    ⟨some 20, .indexAddr 23 (.tmp 18) (.tmp 19), 0, none⟩,
    ⟨some 21, .load 22 (.tmp 20), 22, none⟩,
    ⟨some 22, .move (.tmp 1), 23, none⟩,
    ⟨some 23, .move (.tmp 5), 3, none⟩,
    ⟨some 24, .indexAddr 23 (.tmp 22) (.tmp 23), 0, none⟩,
    ⟨some 25, .load 22 (.tmp 24), 22, none⟩,
    ⟨some 26, .call { callee := (.value (.func 14)), args := #[(.tmp 21), (.tmp 25)], argTypes := #[22, 22] }, 4, none⟩,
    ⟨some 6, .assign (.tmp 26), 4, none⟩]
@[go_sem] def c15_8 : Cmd := .ops [⟨some 27, .move (.tmp 6), 4, none⟩,
    ⟨some 28, .unOp .not 4 (.tmp 27), 4, none⟩]
@[go_sem] def c15_9 : Cmd := .ops [⟨some 4, .assign (.const (.bool false)), 4, none⟩]
@[go_sem] def c15_10 : Cmd := .cond (.tmp 28) (.seq c15_9 .ret) .skip
@[go_sem] def c15_11 : Cmd := .block 1 (.seq c15_7 (.seq c15_8 c15_10))
@[go_sem] def c15_12 : Cmd := .ops [⟨some 16, .move (.tmp 5), 3, none⟩,
    ⟨some 17, .binOp .add 3 (.tmp 16) (.const (.int .i64 1)) 3, 3, none⟩,
    ⟨some 5, .assign (.tmp 17), 3, none⟩]
def c15_L0 : Cmd := (.seq (.seq c15_5 c15_6) (.seq c15_11 c15_12))
@[go_sem] def c15_13 : Cmd := .loop c15_L0
@[go_sem] def c15_14 : Cmd := .block 0 c15_13
@[go_sem] def c15_15 : Cmd := .ops [⟨some 4, .assign (.const (.bool true)), 4, none⟩]
@[go_sem] def c15 : Cmd := (.seq c15_0 (.seq (.seq c15_1 c15_3) (.seq (.seq c15_4 c15_14) (.seq c15_15 .ret))))
theorem b15 : Tryd.f15.body.map (comp 29) = some c15 := by kernel_rfl
theorem r15 : Tryd.f15.results.toList = [.tmp 4] := by kernel_rfl
-- 16 (*pith/fs.FS).Size
@[go_sem] def c16_0 : Cmd := .ops [⟨some 4, .assign (.const (.int .i64 0)), 3, none⟩,
    ⟨some 5, .assign (.const (.int .i64 0)), 29, none⟩]
@[go_sem] def c16_1 : Cmd := .ops [⟨some 9, .move (.tmp 0), 25, none⟩,
    ⟨some 10, .move (.tmp 1), 9, none⟩,
    ⟨some 11, .call { callee := (.value (.func 41)), args := #[(.tmp 9), (.tmp 10)], argTypes := #[25, 9] }, 91, none⟩,
    ⟨some 8, .move (.tmp 11), 91, none⟩,
    ⟨some 12, .extract (.tmp 8) 0, 90, none⟩,
    ⟨some 13, .extract (.tmp 8) 1, 29, none⟩,
    ⟨some 6, .assign (.tmp 12), 90, none⟩,
    ⟨some 7, .assign (.tmp 13), 29, none⟩]
@[go_sem] def c16_2 : Cmd := .ops [⟨some 14, .move (.tmp 7), 29, none⟩,
    ⟨some 15, .binOp .neq 29 (.tmp 14) (.const (.int .i64 0)) 29, 4, none⟩]
@[go_sem] def c16_3 : Cmd := .ops [⟨some 16, .move (.tmp 7), 29, none⟩,
    ⟨some 4, .assign (.const (.int .i64 0)), 3, none⟩,
    ⟨some 5, .assign (.tmp 16), 29, none⟩]
@[go_sem] def c16_4 : Cmd := .cond (.tmp 15) (.seq c16_3 .ret) .skip
@[go_sem] def c16_5 : Cmd := .ops [⟨some 17, .move (.tmp 6), 90, none⟩,
    ⟨some 18, .nilCheck (.tmp 17), 0, none⟩,
    ⟨some 19, .fieldAddr 94 (.tmp 18) 0, 0, none⟩,
    ⟨some 20, .load 22 (.tmp 19), 22, none⟩,
    ⟨some 21, .call { callee := (.builtin .len), args := #[(.tmp 20)], argTypes := #[22] }, 3, none⟩,
    ⟨some 4, .assign (.tmp 21), 3, none⟩,
    ⟨some 5, .assign (.const (.int .i64 0)), 29, none⟩]
@[go_sem] def c16 : Cmd := (.seq c16_0 (.seq c16_1 (.seq (.seq c16_2 c16_4) (.seq c16_5 .ret))))
theorem b16 : Tryd.f16.body.map (comp 22) = some c16 := by kernel_rfl
theorem r16 : Tryd.f16.results.toList = [.tmp 4, .tmp 5] := by kernel_rfl
-- 17 (*pith/fs.FS).Read
@[go_sem] def c17_0 : Cmd := .ops [⟨some 8, .assign (.const (.slice none 0 0)), 22, none⟩,
    ⟨some 9, .assign (.const (.int .i64 0)), 29, none⟩]
@[go_sem] def c17_1 : Cmd := .ops [⟨some 13, .move (.tmp 0), 25, none⟩,
    ⟨some 14, .move (.tmp 1), 9, none⟩,
    ⟨some 15, .call { callee := (.value (.func 41)), args := #[(.tmp 13), (.tmp 14)], argTypes := #[25, 9] }, 91, none⟩,
    ⟨some 12, .move (.tmp 15), 91, none⟩,
    ⟨some 16, .extract (.tmp 12) 0, 90, none⟩,
    ⟨some 17, .extract (.tmp 12) 1, 29, none⟩,
    ⟨some 10, .assign (.tmp 16), 90, none⟩,
    ⟨some 11, .assign (.tmp 17), 29, none⟩]
@[go_sem] def c17_2 : Cmd := .ops [⟨some 18, .move (.tmp 11), 29, none⟩,
    ⟨some 19, .binOp .neq 29 (.tmp 18) (.const (.int .i64 0)) 29, 4, none⟩]
@[go_sem] def c17_3 : Cmd := .ops [⟨some 20, .move (.tmp 11), 29, none⟩,
    ⟨some 8, .assign (.const (.slice none 0 0)), 22, none⟩,
    ⟨some 9, .assign (.tmp 20), 29, none⟩]
@[go_sem] def c17_4 : Cmd := .cond (.tmp 19) (.seq c17_3 .ret) .skip
@[go_sem] def c17_5 : Cmd := .ops [⟨some 21, .move (.tmp 2), 3, none⟩,
    ⟨some 22, .binOp .lss 3 (.tmp 21) (.const (.int .i64 0)) 3, 4, none⟩,
    ⟨some 23, .move (.tmp 22), 4, none⟩,
    ⟨some 24, .move (.tmp 3), 3, some (23, false)⟩,
    ⟨some 25, .binOp .lss 3 (.tmp 24) (.const (.int .i64 0)) 3, 4, some (23, false)⟩,
    ⟨some 26, .pick (.tmp 23) (.const (.bool true)) (.tmp 25), 4, none⟩]
@[go_sem] def c17_6 : Cmd := .ops [⟨some 8, .assign (.const (.slice none 0 0)), 22, none⟩,
    ⟨some 9, .assign (.const (.int .i64 85)), 29, none⟩]
@[go_sem] def c17_7 : Cmd := .cond (.tmp 26) (.seq c17_6 .ret) .skip
@[go_sem] def c17_8 : Cmd := .ops [⟨some 27, .move (.tmp 2), 3, none⟩,
    ⟨some 28, .move (.tmp 10), 90, none⟩,
    ⟨some 29, .nilCheck (.tmp 28), 0, none⟩,
    ⟨some 30, .fieldAddr 94 (.tmp 29) 0, 0, none⟩,
    ⟨some 31, .load 22 (.tmp 30), 22, none⟩,
    ⟨some 32, .call { callee := (.builtin .len), args := #[(.tmp 31)], argTypes := #[22] }, 3, none⟩,
    ⟨some 33, .call { callee := (.builtin .min), args := #[(.tmp 27), (.tmp 32)], argTypes := #[3, 3] }, 3, none⟩,
    ⟨some 2, .assign (.tmp 33), 3, none⟩]
@[go_sem] def c17_9 : Cmd := .still 16 [⟨some 34, .move (.tmp 10), 90, none⟩,
    ⟨some 35, .nilCheck (.tmp 34), 0, none⟩,
    ⟨some 36, .fieldAddr 94 (.tmp 35) 0, 0, none⟩,
    ⟨some 37, .load 22 (.tmp 36), 22, none⟩,
    ⟨some 38, .move (.tmp 2), 3, none⟩,
    ⟨some 39, .move (.tmp 2), 3, none⟩,
    ⟨some 40, .move (.tmp 3), 3, none⟩,
    ⟨some 41, .move (.tmp 10), 90, none⟩,
    ⟨some 42, .nilCheck (.tmp 41), 0, none⟩,
    ⟨some 43, .fieldAddr 94 (.tmp 42) 0, 0, none⟩,
    ⟨some 44, .load 22 (.tmp 43), 22, none⟩,
    ⟨some 45, .call { callee := (.builtin .len), args := #[(.tmp 44)], argTypes := #[22] }, 3, none⟩,
    ⟨some 46, .move (.tmp 2), 3, none⟩,
    ⟨some 47, .binOp .sub 3 (.tmp 45) (.tmp 46) 3, 3, none⟩,
    ⟨some 48, .call { callee := (.builtin .min), args := #[(.tmp 40), (.tmp 47)], argTypes := #[3, 3] }, 3, none⟩,
    ⟨some 49, .binOp .add 3 (.tmp 39) (.tmp 48) 3, 3, none⟩,
    ⟨some 50, .slice 22 (.tmp 37) (some (.tmp 38)) (some (.tmp 49)) none, 22, none⟩,
    ⟨some 51, .call { callee := (.value (.func 42)), args := #[(.tmp 50)], argTypes := #[22] }, 22, none⟩,
    ⟨some 8, .assign (.tmp 51), 22, none⟩,
    ⟨some 9, .assign (.const (.int .i64 0)), 29, none⟩]
@[go_sem] def c17 : Cmd := (.seq c17_0 (.seq c17_1 (.seq (.seq c17_2 c17_4) (.seq (.seq c17_5 c17_7) (.seq c17_8 (.seq c17_9 .ret))))))
theorem b17 : Tryd.f17.body.map (comp 52) = some c17 := by kernel_rfl
theorem r17 : Tryd.f17.results.toList = [.tmp 8, .tmp 9] := by kernel_rfl
-- 18 pith/pithref3.Row
@[go_sem] def c18_0 : Cmd := .ops [⟨some 2, .assign (.const (.slice none 0 0)), 38, none⟩,
    ⟨some 3, .assign (.const (.int .i64 0)), 3, none⟩,
    ⟨some 4, .assign (.const (.int .i64 0)), 3, none⟩]
@[go_sem] def c18_1 : Cmd := .ops [⟨some 5, .assign (.const (.slice none 0 0)), 38, none⟩]
@[go_sem] def c18_2 : Cmd := .ops [⟨some 6, .assign (.const (.int .i64 0)), 3, none⟩]
@[go_sem] def c18_3 : Cmd := .ops [⟨some 10, .move (.tmp 6), 3, none⟩,
    ⟨some 11, .move (.tmp 0), 22, none⟩,
    ⟨some 12, .call { callee := (.builtin .len), args := #[(.tmp 11)], argTypes := #[22] }, 3, none⟩,
    ⟨some 13, .binOp .lss 3 (.tmp 10) (.tmp 12) 3, 4, none⟩]
@[go_sem] def c18_4 : Cmd := .cond (.tmp 13) .skip (.exit 0)
@[go_sem] def c18_5 : Cmd := .ops [⟨some 15, .move (.tmp 0), 22, none⟩,
    ⟨some 16, .move (.tmp 6), 3, none⟩,
    ⟨some 17, .slice 22 (.tmp 15) (some (.tmp 16)) none none, 22, none⟩,
    ⟨some 18, .call { callee := (.value (.func 43)), args := #[(.tmp 17)], argTypes := #[22] }, 96, none⟩,
    ⟨some 14, .move (.tmp 18), 96, none⟩,
    ⟨some 19, .extract (.tmp 14) 0, 44, none⟩,
    ⟨some 20, .extract (.tmp 14) 1, 3, none⟩,
    ⟨some 21, .extract (.tmp 14) 2, 3, none⟩,
    ⟨some 7, .alloc 44, 0, none⟩,
    ⟨none, .store 44 (.tmp 7) (.tmp 19), 0, none⟩,
    ⟨some 8, .assign (.tmp 20), 3, none⟩,
    ⟨some 9, .assign (.tmp 21), 3, none⟩]
@[go_sem] def c18_6 : Cmd := .ops [⟨some 22, .move (.tmp 9), 3, none⟩,
    ⟨some 23, .binOp .neq 3 (.tmp 22) (.const (.int .i64 0)) 3, 4, none⟩]
@[go_sem] def c18_7 : Cmd := .ops [⟨some 24, .move (.tmp 5), 38, none⟩,
    ⟨some 25, .move (.tmp 6), 3, none⟩,
    ⟨some 26, .move (.tmp 9), 3, none⟩,
    ⟨some 2, .assign (.tmp 24), 38, none⟩,
    ⟨some 3, .assign (.tmp 25), 3, none⟩,
    ⟨some 4, .assign (.tmp 26), 3, none⟩]
@[go_sem] def c18_8 : Cmd := .cond (.tmp 23) (.seq c18_7 .ret) .skip
@[go_sem] def c18_9 : Cmd := .ops [⟨some 27, .move (.tmp 5), 38, none⟩,
    ⟨some 28, .load 44 (.tmp 7), 44, none⟩,
    ⟨some 29, .buildSlice 38 1 #[(0, (.tmp 28))], 38, none⟩,
    ⟨some 30, .call { callee := (.builtin .append), args := #[(.tmp 27), (.tmp 29)], argTypes := #[38, 38] }, 38, none⟩,
    ⟨some 5, .assign (.tmp 30), 38, none⟩]
@[go_sem] def c18_10 : Cmd := .ops [⟨some 31, .move (.tmp 6), 3, none⟩,
    ⟨some 32, .move (.tmp 8), 3, none⟩,
    ⟨some 33, .binOp .add 3 (.tmp 31) (.tmp 32) 3, 3, none⟩,
    ⟨some 6, .assign (.tmp 33), 3, none⟩]
@[go_sem] def c18_11 : Cmd := .block 1 (.seq c18_5 (.seq (.seq c18_6 c18_8) (.seq c18_9 c18_10)))
def c18_L0 : Cmd := (.seq (.seq c18_3 c18_4) c18_11)
@[go_sem] def c18_12 : Cmd := .loop c18_L0
@[go_sem] def c18_13 : Cmd := .block 0 c18_12
@[go_sem] def c18_14 : Cmd := .ops [⟨some 34, .move (.tmp 5), 38, none⟩,
    ⟨some 35, .move (.tmp 6), 3, none⟩,
    ⟨some 2, .assign (.tmp 34), 38, none⟩,
    ⟨some 3, .assign (.tmp 35), 3, none⟩,
    ⟨some 4, .assign (.const (.int .i64 0)), 3, none⟩]
@[go_sem] def c18 : Cmd := (.seq c18_0 (.seq c18_1 (.seq c18_2 (.seq c18_13 (.seq c18_14 .ret)))))
theorem b18 : Tryd.f18.body.map (comp 36) = some c18 := by kernel_rfl
theorem r18 : Tryd.f18.results.toList = [.tmp 2, .tmp 3, .tmp 4] := by kernel_rfl
-- 19 pith/pithlaw9.num
@[go_sem] def c19_0 : Cmd := .ops [⟨some 2, .assign (.const (.int .i64 0)), 3, none⟩]
@[go_sem] def c19_1 : Cmd := .ops [⟨some 3, .move (.tmp 0), 29, none⟩,
    ⟨some 2, .assign (.tmp 3), 3, none⟩]
@[go_sem] def c19 : Cmd := (.seq c19_0 (.seq c19_1 .ret))
theorem b19 : Tryd.f19.body.map (comp 4) = some c19 := by kernel_rfl
theorem r19 : Tryd.f19.results.toList = [.tmp 2] := by kernel_rfl
-- 20 pith/pithref.SameFrame
@[go_sem] def c20_0 : Cmd := .ops [⟨some 2, .box 44 (.tmp 0), 0, none⟩,
    ⟨some 3, .box 44 (.tmp 1), 0, none⟩,
    ⟨some 4, .assign (.const (.bool false)), 4, none⟩]
@[go_sem] def c20_1 : Cmd := .ops [⟨some 6, .fieldAddr 44 (.tmp 2) 1, 0, none⟩,
    ⟨some 7, .load 22 (.tmp 6), 22, none⟩,
    ⟨some 8, .fieldAddr 44 (.tmp 3) 1, 0, none⟩,
    ⟨some 9, .load 22 (.tmp 8), 22, none⟩,
    ⟨some 10, .call { callee := (.value (.func 14)), args := #[(.tmp 7), (.tmp 9)], argTypes := #[22, 22] }, 4, none⟩,
    ⟨some 5, .assign (.tmp 10), 4, none⟩]
@[go_sem] def c20_2 : Cmd := .ops [⟨some 11, .move (.tmp 5), 4, none⟩,
    ⟨some 12, .move (.tmp 11), 4, none⟩,
    ⟨some 13, .fieldAddr 44 (.tmp 2) 0, 0, some (12, true)⟩,
    ⟨some 14, .load 3 (.tmp 13), 3, some (12, true)⟩,
    ⟨some 15, .fieldAddr 44 (.tmp 3) 0, 0, some (12, true)⟩,
    ⟨some 16, .load 3 (.tmp 15), 3, some (12, true)⟩,
    ⟨some 17, .binOp .eql 3 (.tmp 14) (.tmp 16) 3, 4, some (12, true)⟩,
    ⟨some 18, .pick (.tmp 12) (.tmp 17) (.const (.bool false)), 4, none⟩,
    ⟨some 4, .assign (.tmp 18), 4, none⟩]
@[go_sem] def c20 : Cmd := (.seq c20_0 (.seq c20_1 (.seq c20_2 .ret)))
theorem b20 : Tryd.f20.body.map (comp 19) = some c20 := by kernel_rfl
theorem r20 : Tryd.f20.results.toList = [.tmp 4] := by kernel_rfl
-- 21 pith/pithlaw9.pick
@[go_sem] def c21_0 : Cmd := .ops [⟨some 4, .assign (.const (.int .i64 0)), 3, none⟩]
@[go_sem] def c21_1 : Cmd := .ops [⟨some 5, .move (.tmp 0), 3, none⟩,
    ⟨some 6, .move (.tmp 1), 3, none⟩,
    ⟨some 7, .binOp .rem 3 (.tmp 5) (.tmp 6) 3, 3, none⟩,
    ⟨some 8, .move (.tmp 1), 3, none⟩,
    ⟨some 9, .binOp .add 3 (.tmp 7) (.tmp 8) 3, 3, none⟩,
    ⟨some 10, .move (.tmp 1), 3, none⟩,
    ⟨some 11, .binOp .rem 3 (.tmp 9) (.tmp 10) 3, 3, none⟩,
    ⟨some 4, .assign (.tmp 11), 3, none⟩]
@[go_sem] def c21 : Cmd := (.seq c21_0 (.seq c21_1 .ret))
theorem b21 : Tryd.f21.body.map (comp 12) = some c21 := by kernel_rfl
theorem r21 : Tryd.f21.results.toList = [.tmp 4] := by kernel_rfl
-- 22 (*pith/fs.FS).Create
@[go_sem] def c22_0 : Cmd := .ops [⟨some 4, .assign (.const (.int .i64 0)), 29, none⟩]
@[go_sem] def c22_1 : Cmd := .ops [⟨some 7, .move (.tmp 0), 25, none⟩,
    ⟨some 8, .move (.tmp 1), 9, none⟩,
    ⟨some 9, .buildSlice 65 1 #[(0, (.tmp 8))], 65, none⟩,
    ⟨some 10, .call { callee := (.value (.func 44)), args := #[(.tmp 7), (.tmp 9)], argTypes := #[25, 65] }, 29, none⟩,
    ⟨some 5, .assign (.tmp 10), 29, none⟩]
@[go_sem] def c22_2 : Cmd := .ops [⟨some 11, .move (.tmp 5), 29, none⟩,
    ⟨some 12, .binOp .neq 29 (.tmp 11) (.const (.int .i64 0)) 29, 4, none⟩]
@[go_sem] def c22_3 : Cmd := .ops [⟨some 13, .move (.tmp 5), 29, none⟩,
    ⟨some 4, .assign (.tmp 13), 29, none⟩]
@[go_sem] def c22_4 : Cmd := .cond (.tmp 12) (.seq c22_3 .ret) .skip
@[go_sem] def c22_5 : Cmd := .ops [⟨some 14, .move (.tmp 0), 25, none⟩,
    ⟨some 15, .nilCheck (.tmp 14), 0, none⟩,
    ⟨some 16, .fieldAddr 86 (.tmp 15) 1, 0, none⟩,
    ⟨some 17, .load 82 (.tmp 16), 82, none⟩,
    ⟨some 18, .move (.tmp 1), 9, none⟩,
    ⟨some 19, .lookup 82 (.tmp 17) (.tmp 18) false, 90, none⟩,
    ⟨some 20, .binOp .neq 90 (.tmp 19) (.const (.pointer none)) 90, 4, none⟩]
@[go_sem] def c22_6 : Cmd := .ops [⟨some 4, .assign (.const (.int .i64 83)), 29, none⟩]
@[go_sem] def c22_7 : Cmd := .cond (.tmp 20) (.seq c22_6 .ret) .skip
@[go_sem] def c22_8 : Cmd := .ops [⟨some 21, .build 94 #[], 94, none⟩,
    ⟨some 22, .box 94 (.tmp 21), 90, none⟩,
    ⟨some 6, .assign (.tmp 22), 90, none⟩]
@[go_sem] def c22_9 : Cmd := .ops [⟨some 23, .move (.tmp 0), 25, none⟩,
    ⟨some 24, .nilCheck (.tmp 23), 0, none⟩,
    ⟨some 25, .fieldAddr 86 (.tmp 24) 4, 0, none⟩,
    ⟨some 26, .load 83 (.tmp 25), 83, none⟩,
    ⟨some 27, .move (.tmp 6), 90, none⟩,
    ⟨none, .mapUpdate 83 (.tmp 26) (.tmp 27) (.const (.bool true)), 0, none⟩]
@[go_sem] def c22_10 : Cmd := .ops [⟨some 28, .move (.tmp 0), 25, none⟩,
    ⟨some 29, .move (.tmp 6), 90, none⟩,
    ⟨some 30, .move (.tmp 1), 9, none⟩,
    ⟨some 31, .call { callee := (.value (.func 45)), args := #[(.tmp 28), (.tmp 29), (.tmp 30)], argTypes := #[25, 90, 9] }, 29, none⟩,
    ⟨some 4, .assign (.tmp 31), 29, none⟩]
@[go_sem] def c22 : Cmd := (.seq c22_0 (.seq (.seq c22_1 (.seq c22_2 c22_4)) (.seq (.seq c22_5 c22_7) (.seq c22_8 (.seq c22_9 (.seq c22_10 .ret))))))
theorem b22 : Tryd.f22.body.map (comp 32) = some c22 := by kernel_rfl
theorem r22 : Tryd.f22.results.toList = [.tmp 4] := by kernel_rfl
-- 23 (*pith/fs.FS).Append
@[go_sem] def c23_0 : Cmd := .ops [⟨some 6, .assign (.const (.int .i64 0)), 29, none⟩]
@[go_sem] def c23_1 : Cmd := .ops [⟨some 10, .move (.tmp 0), 25, none⟩,
    ⟨some 11, .move (.tmp 1), 9, none⟩,
    ⟨some 12, .call { callee := (.value (.func 41)), args := #[(.tmp 10), (.tmp 11)], argTypes := #[25, 9] }, 91, none⟩,
    ⟨some 9, .move (.tmp 12), 91, none⟩,
    ⟨some 13, .extract (.tmp 9) 0, 90, none⟩,
    ⟨some 14, .extract (.tmp 9) 1, 29, none⟩,
    ⟨some 7, .assign (.tmp 13), 90, none⟩,
    ⟨some 8, .assign (.tmp 14), 29, none⟩]
@[go_sem] def c23_2 : Cmd := .ops [⟨some 15, .move (.tmp 8), 29, none⟩,
    ⟨some 16, .binOp .neq 29 (.tmp 15) (.const (.int .i64 0)) 29, 4, none⟩]
@[go_sem] def c23_3 : Cmd := .ops [⟨some 17, .move (.tmp 8), 29, none⟩,
    ⟨some 6, .assign (.tmp 17), 29, none⟩]
@[go_sem] def c23_4 : Cmd := .cond (.tmp 16) (.seq c23_3 .ret) .skip
@[go_sem] def c23_5 : Cmd := .draw (.step 3 ⟨some 18, .move (.tmp 2), 22, none⟩
    (.step 3 ⟨some 19, .call { callee := (.builtin .len), args := #[(.tmp 18)], argTypes := #[22] }, 3, none⟩
    (.step 3 ⟨some 20, .move (.tmp 0), 25, none⟩
    (.step 3 ⟨some 21, .nilCheck (.tmp 20), 0, none⟩
    (.step 3 ⟨some 22, .fieldAddr 86 (.tmp 21) 0, 0, none⟩
    (.step 0 ⟨some 23, .load 3 (.tmp 22), 3, none⟩
    (.step 3 ⟨some 24, .move (.tmp 0), 25, none⟩
    (.step 1 ⟨some 25, .call { callee := (.value (.func 46)), args := #[(.tmp 24)], argTypes := #[25] }, 3, none⟩
    (.step 3 ⟨some 26, .binOp .sub 3 (.tmp 23) (.tmp 25) 3, 3, none⟩
    (.step 3 ⟨some 27, .binOp .gtr 3 (.tmp 19) (.tmp 26) 3, 4, none⟩
    .done))))))))))
@[go_sem] def c23_6 : Cmd := .ops [⟨some 6, .assign (.const (.int .i64 80)), 29, none⟩]
@[go_sem] def c23_7 : Cmd := .cond (.tmp 27) (.seq c23_6 .ret) .skip
@[go_sem] def c23_8 : Cmd := .ops [⟨some 28, .move (.tmp 7), 90, none⟩,
    ⟨some 29, .move (.tmp 7), 90, none⟩,
    ⟨some 30, .nilCheck (.tmp 29), 0, none⟩,
    ⟨some 31, .fieldAddr 94 (.tmp 30) 0, 0, none⟩,
    ⟨some 32, .load 22 (.tmp 31), 22, none⟩,
    ⟨some 33, .move (.tmp 2), 22, none⟩,
    ⟨some 34, .call { callee := (.builtin .append), args := #[(.tmp 32), (.tmp 33)], argTypes := #[22, 22] }, 22, none⟩,
    ⟨some 35, .nilCheck (.tmp 28), 0, none⟩,
    ⟨some 36, .fieldAddr 94 (.tmp 35) 0, 0, none⟩,
    ⟨none, .store 22 (.tmp 36) (.tmp 34), 0, none⟩]
@[go_sem] def c23_9 : Cmd := .ops [⟨some 37, .move (.tmp 0), 25, none⟩,
    ⟨some 38, .call { callee := (.value (.func 47)), args := #[(.tmp 37)], argTypes := #[25] }, 29, none⟩,
    ⟨some 6, .assign (.tmp 38), 29, none⟩]
@[go_sem] def c23 : Cmd := (.seq c23_0 (.seq c23_1 (.seq (.seq c23_2 c23_4) (.seq (.seq c23_5 c23_7) (.seq c23_8 (.seq c23_9 .ret))))))
theorem b23 : Tryd.f23.body.map (comp 39) = some c23 := by kernel_rfl
theorem r23 : Tryd.f23.results.toList = [.tmp 6] := by kernel_rfl
-- 24 pith/files.Begin
@[go_sem] def c24_0 : Cmd := .ops [⟨some 6, .assign (.const (.pointer none)), 52, none⟩,
    ⟨some 7, .assign (.const (.int .i64 0)), 29, none⟩]
@[go_sem] def c24_1 : Cmd := .ops [⟨some 11, .move (.tmp 2), 22, none⟩,
    ⟨some 12, .call { callee := (.builtin .len), args := #[(.tmp 11)], argTypes := #[22] }, 3, none⟩,
    ⟨some 13, .binOp .gtr 3 (.tmp 12) (.const (.int .i64 1024)) 3, 4, none⟩]
@[go_sem] def c24_2 : Cmd := .ops [⟨some 6, .assign (.const (.pointer none)), 52, none⟩,
    ⟨some 7, .assign (.const (.int .i64 31)), 29, none⟩]
@[go_sem] def c24_3 : Cmd := .cond (.tmp 13) (.seq c24_2 .ret) .skip
@[go_sem] def c24_4 : Cmd := .ops [⟨some 14, .move (.tmp 0), 25, none⟩,
    ⟨some 15, .move (.tmp 1), 9, none⟩,
    ⟨some 16, .call { callee := (.value (.func 22)), args := #[(.tmp 14), (.tmp 15)], argTypes := #[25, 9] }, 29, none⟩,
    ⟨some 8, .assign (.tmp 16), 29, none⟩]
@[go_sem] def c24_5 : Cmd := .ops [⟨some 17, .move (.tmp 8), 29, none⟩,
    ⟨some 18, .binOp .neq 29 (.tmp 17) (.const (.int .i64 0)) 29, 4, none⟩]
@[go_sem] def c24_6 : Cmd := .ops [⟨some 19, .move (.tmp 8), 29, none⟩,
    ⟨some 6, .assign (.const (.pointer none)), 52, none⟩,
    ⟨some 7, .assign (.tmp 19), 29, none⟩]
@[go_sem] def c24_7 : Cmd := .cond (.tmp 18) (.seq c24_6 .ret) .skip
@[go_sem] def c24_8 : Cmd := .ops [⟨some 20, .move (.tmp 0), 25, none⟩,
    ⟨some 21, .move (.tmp 1), 9, none⟩,
    ⟨some 22, .build 103 #[(0, (.tmp 20)), (1, (.tmp 21))], 103, none⟩,
    ⟨some 23, .box 103 (.tmp 22), 52, none⟩,
    ⟨some 9, .assign (.tmp 23), 52, none⟩]
@[go_sem] def c24_9 : Cmd := .ops [⟨some 24, .move (.tmp 9), 52, none⟩,
    ⟨some 25, .move (.tmp 2), 22, none⟩,
    ⟨some 26, .call { callee := (.value (.func 48)), args := #[(.tmp 24), (.const (.int .i64 1)), (.tmp 25)], argTypes := #[52, 3, 22] }, 29, none⟩,
    ⟨some 10, .assign (.tmp 26), 29, none⟩]
@[go_sem] def c24_10 : Cmd := .ops [⟨some 27, .move (.tmp 10), 29, none⟩,
    ⟨some 28, .binOp .neq 29 (.tmp 27) (.const (.int .i64 0)) 29, 4, none⟩]
@[go_sem] def c24_11 : Cmd := .ops [⟨some 29, .move (.tmp 10), 29, none⟩,
    ⟨some 6, .assign (.const (.pointer none)), 52, none⟩,
    ⟨some 7, .assign (.tmp 29), 29, none⟩]
@[go_sem] def c24_12 : Cmd := .cond (.tmp 28) (.seq c24_11 .ret) .skip
@[go_sem] def c24_13 : Cmd := .ops [⟨some 30, .move (.tmp 9), 52, none⟩,
    ⟨some 6, .assign (.tmp 30), 52, none⟩,
    ⟨some 7, .assign (.const (.int .i64 0)), 29, none⟩]
@[go_sem] def c24 : Cmd := (.seq c24_0 (.seq (.seq c24_1 c24_3) (.seq (.seq c24_4 (.seq c24_5 c24_7)) (.seq c24_8 (.seq (.seq c24_9 (.seq c24_10 c24_12)) (.seq c24_13 .ret))))))
theorem b24 : Tryd.f24.body.map (comp 31) = some c24 := by kernel_rfl
theorem r24 : Tryd.f24.results.toList = [.tmp 6, .tmp 7] := by kernel_rfl
-- 25 (*pith/files.Writer).Put
@[go_sem] def c25_0 : Cmd := .ops [⟨some 4, .assign (.const (.int .i64 0)), 29, none⟩]
@[go_sem] def c25_1 : Cmd := .ops [⟨some 6, .move (.tmp 0), 52, none⟩,
    ⟨some 7, .nilCheck (.tmp 6), 0, none⟩,
    ⟨some 8, .fieldAddr 103 (.tmp 7) 5, 0, none⟩,
    ⟨some 9, .load 4 (.tmp 8), 4, none⟩]
@[go_sem] def c25_2 : Cmd := .ops [⟨some 4, .assign (.const (.int .i64 91)), 29, none⟩]
@[go_sem] def c25_3 : Cmd := .cond (.tmp 9) (.seq c25_2 .ret) .skip
@[go_sem] def c25_4 : Cmd := .ops [⟨some 10, .move (.tmp 0), 52, none⟩,
    ⟨some 11, .move (.tmp 1), 22, none⟩,
    ⟨some 12, .call { callee := (.value (.func 48)), args := #[(.tmp 10), (.const (.int .i64 2)), (.tmp 11)], argTypes := #[52, 3, 22] }, 29, none⟩,
    ⟨some 5, .assign (.tmp 12), 29, none⟩]
@[go_sem] def c25_5 : Cmd := .ops [⟨some 13, .move (.tmp 5), 29, none⟩,
    ⟨some 14, .binOp .eql 29 (.tmp 13) (.const (.int .i64 0)) 29, 4, none⟩]
@[go_sem] def c25_6 : Cmd := .ops [⟨some 15, .move (.tmp 0), 52, none⟩,
    ⟨some 16, .nilCheck (.tmp 15), 0, none⟩,
    ⟨some 17, .fieldAddr 103 (.tmp 16) 4, 0, none⟩,
    ⟨some 18, .load 3 (.tmp 17), 3, none⟩,
    ⟨some 19, .binOp .add 3 (.tmp 18) (.const (.int .i64 1)) 3, 3, none⟩,
    ⟨some 20, .nilCheck (.tmp 15), 0, none⟩,
    ⟨some 21, .fieldAddr 103 (.tmp 20) 4, 0, none⟩,
    ⟨none, .store 3 (.tmp 21) (.tmp 19), 0, none⟩]
@[go_sem] def c25_7 : Cmd := .cond (.tmp 14) c25_6 .skip
@[go_sem] def c25_8 : Cmd := .ops [⟨some 22, .move (.tmp 5), 29, none⟩,
    ⟨some 4, .assign (.tmp 22), 29, none⟩]
@[go_sem] def c25 : Cmd := (.seq c25_0 (.seq (.seq c25_1 c25_3) (.seq c25_4 (.seq (.seq c25_5 c25_7) (.seq c25_8 .ret)))))
theorem b25 : Tryd.f25.body.map (comp 23) = some c25 := by kernel_rfl
theorem r25 : Tryd.f25.results.toList = [.tmp 4] := by kernel_rfl
-- 26 (*pith/files.Writer).End
@[go_sem] def c26_0 : Cmd := .ops [⟨some 4, .assign (.const (.int .i64 0)), 3, none⟩,
    ⟨some 5, .assign (.const (.int .u32 0)), 46, none⟩,
    ⟨some 6, .assign (.const (.int .i64 0)), 29, none⟩]
@[go_sem] def c26_1 : Cmd := .ops [⟨some 8, .move (.tmp 0), 52, none⟩,
    ⟨some 9, .nilCheck (.tmp 8), 0, none⟩,
    ⟨some 10, .fieldAddr 103 (.tmp 9) 5, 0, none⟩,
    ⟨some 11, .load 4 (.tmp 10), 4, none⟩]
@[go_sem] def c26_2 : Cmd := .ops [⟨some 4, .assign (.const (.int .i64 0)), 3, none⟩,
    ⟨some 5, .assign (.const (.int .u32 0)), 46, none⟩,
    ⟨some 6, .assign (.const (.int .i64 91)), 29, none⟩]
@[go_sem] def c26_3 : Cmd := .cond (.tmp 11) (.seq c26_2 .ret) .skip
@[go_sem] def c26_4 : Cmd := .ops [⟨some 12, .move (.tmp 0), 52, none⟩,
    ⟨some 13, .move (.tmp 0), 52, none⟩,
    ⟨some 14, .nilCheck (.tmp 13), 0, none⟩,
    ⟨some 15, .fieldAddr 103 (.tmp 14) 4, 0, none⟩,
    ⟨some 16, .load 3 (.tmp 15), 3, none⟩,
    ⟨some 17, .call { callee := (.value (.func 49)), args := #[(.tmp 16)], argTypes := #[3] }, 22, none⟩,
    ⟨some 18, .call { callee := (.value (.func 48)), args := #[(.tmp 12), (.const (.int .i64 3)), (.tmp 17)], argTypes := #[52, 3, 22] }, 29, none⟩,
    ⟨some 7, .assign (.tmp 18), 29, none⟩]
@[go_sem] def c26_5 : Cmd := .ops [⟨some 19, .move (.tmp 0), 52, none⟩,
    ⟨some 20, .nilCheck (.tmp 19), 0, none⟩,
    ⟨some 21, .fieldAddr 103 (.tmp 20) 5, 0, none⟩,
    ⟨none, .store 4 (.tmp 21) (.const (.bool true)), 0, none⟩]
@[go_sem] def c26_6 : Cmd := .ops [⟨some 22, .move (.tmp 7), 29, none⟩,
    ⟨some 23, .binOp .eql 29 (.tmp 22) (.const (.int .i64 0)) 29, 4, none⟩,
    ⟨some 24, .move (.tmp 23), 4, none⟩,
    ⟨some 25, .move (.tmp 1), 4, some (24, true)⟩,
    ⟨some 26, .pick (.tmp 24) (.tmp 25) (.const (.bool false)), 4, none⟩]
@[go_sem] def c26_7 : Cmd := .still 8 [⟨some 27, .move (.tmp 0), 52, none⟩,
    ⟨some 28, .nilCheck (.tmp 27), 0, none⟩,
    ⟨some 29, .fieldAddr 103 (.tmp 28) 0, 0, none⟩,
    ⟨some 30, .load 25 (.tmp 29), 25, none⟩,
    ⟨some 31, .move (.tmp 0), 52, none⟩,
    ⟨some 32, .nilCheck (.tmp 31), 0, none⟩,
    ⟨some 33, .fieldAddr 103 (.tmp 32) 1, 0, none⟩,
    ⟨some 34, .load 9 (.tmp 33), 9, none⟩,
    ⟨some 35, .call { callee := (.value (.func 50)), args := #[(.tmp 30), (.tmp 34)], argTypes := #[25, 9] }, 29, none⟩,
    ⟨some 7, .assign (.tmp 35), 29, none⟩]
@[go_sem] def c26_8 : Cmd := .cond (.tmp 26) c26_7 .skip
@[go_sem] def c26_9 : Cmd := .ops [⟨some 36, .move (.tmp 7), 29, none⟩,
    ⟨some 37, .binOp .neq 29 (.tmp 36) (.const (.int .i64 0)) 29, 4, none⟩]
@[go_sem] def c26_10 : Cmd := .ops [⟨some 38, .move (.tmp 7), 29, none⟩,
    ⟨some 4, .assign (.const (.int .i64 0)), 3, none⟩,
    ⟨some 5, .assign (.const (.int .u32 0)), 46, none⟩,
    ⟨some 6, .assign (.tmp 38), 29, none⟩]
@[go_sem] def c26_11 : Cmd := .cond (.tmp 37) (.seq c26_10 .ret) .skip
@[go_sem] def c26_12 : Cmd := .quiet [⟨some 39, .move (.tmp 0), 52, none⟩,
    ⟨some 40, .nilCheck (.tmp 39), 0, none⟩,
    ⟨some 41, .fieldAddr 103 (.tmp 40) 2, 0, none⟩,
    ⟨some 42, .load 3 (.tmp 41), 3, none⟩,
    ⟨some 43, .move (.tmp 0), 52, none⟩,
    ⟨some 44, .nilCheck (.tmp 43), 0, none⟩,
    ⟨some 45, .fieldAddr 103 (.tmp 44) 3, 0, none⟩,
    ⟨some 46, .load 46 (.tmp 45), 46, none⟩,
    ⟨some 4, .assign (.tmp 42), 3, none⟩,
    ⟨some 5, .assign (.tmp 46), 46, none⟩,
    ⟨some 6, .assign (.const (.int .i64 0)), 29, none⟩]
@[go_sem] def c26 : Cmd := (.seq c26_0 (.seq (.seq c26_1 c26_3) (.seq c26_4 (.seq c26_5 (.seq (.seq c26_6 c26_8) (.seq (.seq c26_9 c26_11) (.seq c26_12 .ret)))))))
theorem b26 : Tryd.f26.body.map (comp 47) = some c26 := by kernel_rfl
theorem r26 : Tryd.f26.results.toList = [.tmp 4, .tmp 5, .tmp 6] := by kernel_rfl
-- 27 pith/pithlaw9.sumOf
@[go_sem] def c27_0 : Cmd := .ops [⟨some 4, .assign (.const (.int .u32 0)), 46, none⟩]
@[go_sem] def c27_1 : Cmd := .ops [⟨some 7, .move (.tmp 0), 22, none⟩,
    ⟨some 8, .call { callee := (.value (.func 51)), args := #[(.tmp 7)], argTypes := #[22] }, 22, none⟩,
    ⟨some 5, .assign (.tmp 8), 22, none⟩]
@[go_sem] def c27_2 : Cmd := .ops [⟨some 6, .assign (.const (.int .i64 0)), 3, none⟩]
@[go_sem] def c27_3 : Cmd := .ops [⟨some 9, .move (.tmp 6), 3, none⟩,
    ⟨some 10, .move (.tmp 1), 23, none⟩,
    ⟨some 11, .call { callee := (.builtin .len), args := #[(.tmp 10)], argTypes := #[23] }, 3, none⟩,
    ⟨some 12, .binOp .lss 3 (.tmp 9) (.tmp 11) 3, 4, none⟩]
@[go_sem] def c27_4 : Cmd := .cond (.tmp 12) .skip (.exit 0)
@[go_sem] def c27_5 : Cmd := .ops [⟨some 15, .move (.tmp 5), 22, none⟩,
    ⟨some 16, .move (.tmp 1), 23, none⟩,
    ⟨some 17, .move (.tmp 6), 3, none⟩,
    ⟨some 18, .indexAddr 23 (.tmp 16) (.tmp 17), 0, none⟩,
    ⟨some 19, .load 22 (.tmp 18), 22, none⟩,
    ⟨some 20, .call { callee := (.builtin .append), args := #[(.tmp 15), (.tmp 19)], argTypes := #[22, 22] }, 22, none⟩,
    ⟨some 5, .assign (.tmp 20), 22, none⟩]
@[go_sem] def c27_6 : Cmd := .block 1 c27_5
@[go_sem] def c27_7 : Cmd := .ops [⟨some 13, .move (.tmp 6), 3, none⟩,
    ⟨some 14, .binOp .add 3 (.tmp 13) (.const (.int .i64 1)) 3, 3, none⟩,
    ⟨some 6, .assign (.tmp 14), 3, none⟩]
def c27_L0 : Cmd := (.seq (.seq c27_3 c27_4) (.seq c27_6 c27_7))
@[go_sem] def c27_8 : Cmd := .loop c27_L0
@[go_sem] def c27_9 : Cmd := .block 0 c27_8
@[go_sem] def c27_10 : Cmd := .ops [⟨some 21, .move (.tmp 5), 22, none⟩,
    ⟨some 22, .call { callee := (.value (.func 52)), args := #[(.tmp 21)], argTypes := #[22] }, 46, none⟩,
    ⟨some 4, .assign (.tmp 22), 46, none⟩]
@[go_sem] def c27 : Cmd := (.seq c27_0 (.seq c27_1 (.seq (.seq c27_2 c27_9) (.seq c27_10 .ret))))
theorem b27 : Tryd.f27.body.map (comp 23) = some c27 := by kernel_rfl
theorem r27 : Tryd.f27.results.toList = [.tmp 4] := by kernel_rfl
-- 28 pith/files.All
@[go_sem] def c28_0 : Cmd := .ops [⟨some 2, .box 25 (.tmp 0), 0, none⟩,
    ⟨some 3, .box 9 (.tmp 1), 0, none⟩,
    ⟨some 4, .assign (.const .nilFunc), 60, none⟩]
@[go_sem] def c28_1 : Cmd := .ops [⟨some 5, .makeFunc (.func 53) #[] #[(.tmp 2), (.tmp 3)], 59, none⟩,
    ⟨some 4, .assign (.tmp 5), 60, none⟩]
@[go_sem] def c28 : Cmd := (.seq c28_0 (.seq c28_1 .ret))
theorem b28 : Tryd.f28.body.map (comp 6) = some c28 := by kernel_rfl
theorem r28 : Tryd.f28.results.toList = [.tmp 4] := by kernel_rfl
-- 29 (*pith/fs.FS).Rot
@[go_sem] def c29_0 : Cmd := .ops [⟨some 8, .assign (.const (.int .i64 0)), 29, none⟩]
@[go_sem] def c29_1 : Cmd := .ops [⟨some 10, .move (.tmp 1), 9, none⟩,
    ⟨some 11, .call { callee := (.value (.func 54)), args := #[(.tmp 10)], argTypes := #[9] }, 4, none⟩,
    ⟨some 12, .unOp .not 4 (.tmp 11), 4, none⟩]
@[go_sem] def c29_2 : Cmd := .ops [⟨some 8, .assign (.const (.int .i64 84)), 29, none⟩]
@[go_sem] def c29_3 : Cmd := .cond (.tmp 12) (.seq c29_2 .ret) .skip
@[go_sem] def c29_4 : Cmd := .ops [⟨some 13, .move (.tmp 0), 25, none⟩,
    ⟨some 14, .nilCheck (.tmp 13), 0, none⟩,
    ⟨some 15, .fieldAddr 86 (.tmp 14) 1, 0, none⟩,
    ⟨some 16, .load 82 (.tmp 15), 82, none⟩,
    ⟨some 17, .move (.tmp 1), 9, none⟩,
    ⟨some 18, .lookup 82 (.tmp 16) (.tmp 17) false, 90, none⟩,
    ⟨some 9, .assign (.tmp 18), 90, none⟩]
@[go_sem] def c29_5 : Cmd := .ops [⟨some 20, .move (.tmp 9), 90, none⟩,
    ⟨some 21, .binOp .eql 90 (.tmp 20) (.const (.pointer none)) 90, 4, none⟩,
    ⟨some 19, .assign (.tmp 21), 4, none⟩]
@[go_sem] def c29_6 : Cmd := .ops [⟨some 8, .assign (.const (.int .i64 82)), 29, none⟩]
@[go_sem] def c29_7 : Cmd := .ops [⟨some 23, .move (.tmp 2), 3, none⟩,
    ⟨some 24, .binOp .lss 3 (.tmp 23) (.const (.int .i64 0)) 3, 4, none⟩,
    ⟨some 25, .move (.tmp 24), 4, none⟩,
    ⟨some 26, .move (.tmp 2), 3, some (25, false)⟩,
    ⟨some 27, .move (.tmp 9), 90, some (25, false)⟩,
    ⟨some 28, .nilCheck (.tmp 27), 0, some (25, false)⟩,
    ⟨some 29, .fieldAddr 94 (.tmp 28) 0, 0, some (25, false)⟩,
    ⟨some 30, .load 22 (.tmp 29), 22, some (25, false)⟩,
    ⟨some 31, .call { callee := (.builtin .len), args := #[(.tmp 30)], argTypes := #[22] }, 3, some (25, false)⟩,
    ⟨some 32, .binOp .geq 3 (.tmp 26) (.tmp 31) 3, 4, some (25, false)⟩,
    ⟨some 33, .pick (.tmp 25) (.const (.bool true)) (.tmp 32), 4, none⟩,
    ⟨some 34, .move (.tmp 33), 4, none⟩,
    ⟨some 35, .move (.tmp 3), 3, some (34, false)⟩,
    ⟨some 36, .binOp .lss 3 (.tmp 35) (.const (.int .i64 1)) 3, 4, some (34, false)⟩,
    ⟨some 37, .pick (.tmp 34) (.const (.bool true)) (.tmp 36), 4, none⟩,
    ⟨some 38, .move (.tmp 37), 4, none⟩,
    ⟨some 39, .move (.tmp 3), 3, some (38, false)⟩,
    ⟨some 40, .binOp .gtr 3 (.tmp 39) (.const (.int .i64 255)) 3, 4, some (38, false)⟩,
    ⟨some 41, .pick (.tmp 38) (.const (.bool true)) (.tmp 40), 4, none⟩,
    ⟨some 22, .assign (.tmp 41), 4, none⟩]
@[go_sem] def c29_8 : Cmd := .ops [⟨some 8, .assign (.const (.int .i64 85)), 29, none⟩]
@[go_sem] def c29_9 : Cmd := .cond (.tmp 22) (.seq c29_8 .ret) .skip
@[go_sem] def c29_10 : Cmd := .cond (.tmp 19) (.seq c29_6 .ret) (.seq c29_7 c29_9)
@[go_sem] def c29_11 : Cmd := .block 0 (.seq c29_5 c29_10)
@[go_sem] def c29_12 : Cmd := .ops [⟨some 42, .move (.tmp 9), 90, none⟩,
    ⟨some 43, .nilCheck (.tmp 42), 0, none⟩,
    ⟨some 44, .fieldAddr 94 (.tmp 43) 0, 0, none⟩,
    ⟨some 45, .load 22 (.tmp 44), 22, none⟩,
    ⟨some 46, .move (.tmp 2), 3, none⟩,
    ⟨some 47, .indexAddr 22 (.tmp 45) (.tmp 46), 0, none⟩,
    ⟨some 48, .load 5 (.tmp 47), 5, none⟩,
    ⟨some 49, .move (.tmp 3), 3, none⟩,
    ⟨some 50, .convert 3 5 (.tmp 49), 5, none⟩,
    ⟨some 51, .binOp .xor 5 (.tmp 48) (.tmp 50) 5, 5, none⟩,
    ⟨some 52, .indexAddr 22 (.tmp 45) (.tmp 46), 0, none⟩,
    ⟨none, .store 5 (.tmp 52) (.tmp 51), 0, none⟩]
@[go_sem] def c29_13 : Cmd := .ops [⟨some 8, .assign (.const (.int .i64 0)), 29, none⟩]
@[go_sem] def c29 : Cmd := (.seq c29_0 (.seq (.seq c29_1 c29_3) (.seq c29_4 (.seq c29_11 (.seq c29_12 (.seq c29_13 .ret))))))
theorem b29 : Tryd.f29.body.map (comp 53) = some c29 := by kernel_rfl
theorem r29 : Tryd.f29.results.toList = [.tmp 8] := by kernel_rfl
-- 30 pith/files.Publish
@[go_sem] def c30_0 : Cmd := .ops [⟨some 4, .box 25 (.tmp 0), 0, none⟩,
    ⟨some 5, .box 9 (.tmp 1), 0, none⟩,
    ⟨some 6, .box 22 (.tmp 2), 0, none⟩,
    ⟨some 8, .assign (.const (.int .i64 0)), 29, none⟩]
@[go_sem] def c30_1 : Cmd := .ops [⟨some 18, .load 9 (.tmp 5), 9, none⟩,
    ⟨some 19, .binOp .add 9 (.const (.string ⟨#[116, 46]⟩)) (.tmp 18) 9, 9, none⟩,
    ⟨some 9, .alloc 9, 0, none⟩,
    ⟨none, .store 9 (.tmp 9) (.tmp 19), 0, none⟩]
@[go_sem] def c30_2 : Cmd := .ops [⟨some 20, .load 25 (.tmp 4), 25, none⟩,
    ⟨some 21, .load 9 (.tmp 9), 9, none⟩,
    ⟨some 22, .call { callee := (.value (.func 55)), args := #[(.tmp 20), (.tmp 21)], argTypes := #[25, 9] }, 4, none⟩,
    ⟨some 10, .assign (.tmp 22), 4, none⟩]
@[go_sem] def c30_3 : Cmd := .ops [⟨some 11, .alloc 52, 0, none⟩]
@[go_sem] def c30_4 : Cmd := .ops [⟨some 23, .makeFunc (.func 56) #[] #[(.tmp 4), (.tmp 9), (.tmp 6), (.tmp 11)], 101, none⟩,
    ⟨some 24, .buildSlice 110 1 #[(0, (.tmp 23))], 110, none⟩,
    ⟨some 12, .assign (.tmp 24), 110, none⟩]
@[go_sem] def c30_5 : Cmd := .ops [⟨some 25, .move (.tmp 3), 23, none⟩,
    ⟨some 26, .call { callee := (.builtin .len), args := #[(.tmp 25)], argTypes := #[23] }, 3, none⟩,
    ⟨some 27, .move (.const (.int .i64 0)), 3, none⟩]
@[go_sem] def c30_6 : Cmd := .ops [⟨some 28, .binOp .lss 3 (.tmp 27) (.tmp 26) 3, 0, none⟩]
@[go_sem] def c30_7 : Cmd := .cond (.tmp 28) .skip (.exit 0)
@[go_sem] def c30_8 : Cmd := .ops [⟨some 29, .indexAddr 23 (.tmp 25) (.tmp 27), 0, none⟩,
    ⟨some 30, .load 22 (.tmp 29), 22, none⟩,
    ⟨some 14, .alloc 22, 0, none⟩,
    ⟨none, .store 22 (.tmp 14) (.tmp 30), 0, none⟩]
@[go_sem] def c30_9 : Cmd := .ops [⟨some 31, .move (.tmp 12), 110, none⟩,
    ⟨some 32, .makeFunc (.func 57) #[] #[(.tmp 11), (.tmp 14)], 101, none⟩,
    ⟨some 33, .buildSlice 110 1 #[(0, (.tmp 32))], 110, none⟩,
    ⟨some 34, .call { callee := (.builtin .append), args := #[(.tmp 31), (.tmp 33)], argTypes := #[110, 110] }, 110, none⟩,
    ⟨some 12, .assign (.tmp 34), 110, none⟩]
@[go_sem] def c30_10 : Cmd := .block 1 (.seq c30_8 c30_9)
@[go_sem] def c30_11 : Cmd := .ops [⟨some 35, .binOp .add 3 (.tmp 27) (.const (.int .i64 1)) 3, 3, none⟩,
    ⟨some 27, .move (.tmp 35), 3, none⟩]
def c30_L0 : Cmd := (.seq c30_6 (.seq c30_7 (.seq c30_10 c30_11)))
@[go_sem] def c30_12 : Cmd := .loop c30_L0
@[go_sem] def c30_13 : Cmd := .block 0 c30_12
@[go_sem] def c30_14 : Cmd := .ops [⟨some 36, .move (.tmp 12), 110, none⟩,
    ⟨some 37, .makeFunc (.func 58) #[] #[(.tmp 11)], 101, none⟩,
    ⟨some 38, .makeFunc (.func 59) #[] #[(.tmp 4), (.tmp 9), (.tmp 5)], 101, none⟩,
    ⟨some 39, .load 25 (.tmp 4), 25, none⟩,
    ⟨some 40, .makeFunc (.func 61) #[(.tmp 39)] #[], 101, none⟩,
    ⟨some 41, .buildSlice 110 3 #[(0, (.tmp 37)), (1, (.tmp 38)), (2, (.tmp 40))], 110, none⟩,
    ⟨some 42, .call { callee := (.builtin .append), args := #[(.tmp 36), (.tmp 41)], argTypes := #[110, 110] }, 110, none⟩,
    ⟨some 12, .assign (.tmp 42), 110, none⟩]
@[go_sem] def c30_15 : Cmd := .ops [⟨some 43, .move (.tmp 12), 110, none⟩,
    ⟨some 44, .call { callee := (.builtin .len), args := #[(.tmp 43)], argTypes := #[110] }, 3, none⟩,
    ⟨some 45, .move (.const (.int .i64 0)), 3, none⟩]
@[go_sem] def c30_16 : Cmd := .ops [⟨some 46, .binOp .lss 3 (.tmp 45) (.tmp 44) 3, 0, none⟩]
@[go_sem] def c30_17 : Cmd := .cond (.tmp 46) .skip (.exit 2)
@[go_sem] def c30_18 : Cmd := .ops [⟨some 47, .indexAddr 110 (.tmp 43) (.tmp 45), 0, none⟩,
    ⟨some 48, .load 101 (.tmp 47), 101, none⟩,
    ⟨some 16, .assign (.tmp 48), 101, none⟩]
@[go_sem] def c30_19 : Cmd := .ops [⟨some 49, .move (.tmp 16), 101, none⟩,
    ⟨some 50, .call { callee := (.value (.tmp 49)), args := #[], argTypes := #[] }, 29, none⟩,
    ⟨some 17, .assign (.tmp 50), 29, none⟩]
@[go_sem] def c30_20 : Cmd := .ops [⟨some 51, .move (.tmp 17), 29, none⟩,
    ⟨some 52, .binOp .neq 29 (.tmp 51) (.const (.int .i64 0)) 29, 4, none⟩]
@[go_sem] def c30_21 : Cmd := .ops [⟨some 53, .move (.tmp 17), 29, none⟩,
    ⟨some 54, .binOp .neq 29 (.tmp 53) (.const (.int .i64 81)) 29, 4, none⟩,
    ⟨some 55, .move (.tmp 54), 4, none⟩,
    ⟨some 56, .move (.tmp 10), 4, some (55, true)⟩,
    ⟨some 57, .unOp .not 4 (.tmp 56), 4, some (55, true)⟩,
    ⟨some 58, .pick (.tmp 55) (.tmp 57) (.const (.bool false)), 4, none⟩,
    ⟨some 59, .move (.tmp 58), 4, none⟩,
    ⟨some 60, .load 25 (.tmp 4), 25, some (59, true)⟩,
    ⟨some 61, .load 9 (.tmp 9), 9, some (59, true)⟩,
    ⟨some 62, .call { callee := (.value (.func 55)), args := #[(.tmp 60), (.tmp 61)], argTypes := #[25, 9] }, 4, some (59, true)⟩,
    ⟨some 63, .pick (.tmp 59) (.tmp 62) (.const (.bool false)), 4, none⟩,
    ⟨some 64, .move (.tmp 63), 4, none⟩,
    ⟨some 65, .load 25 (.tmp 4), 25, some (64, true)⟩,
    ⟨some 66, .load 9 (.tmp 9), 9, some (64, true)⟩,
    ⟨some 67, .call { callee := (.value (.func 62)), args := #[(.tmp 65), (.tmp 66)], argTypes := #[25, 9] }, 29, some (64, true)⟩,
    ⟨some 68, .binOp .eql 29 (.tmp 67) (.const (.int .i64 81)) 29, 4, some (64, true)⟩,
    ⟨some 69, .pick (.tmp 64) (.tmp 68) (.const (.bool false)), 4, none⟩]
@[go_sem] def c30_22 : Cmd := .ops [⟨some 8, .assign (.const (.int .i64 81)), 29, none⟩]
@[go_sem] def c30_23 : Cmd := .cond (.tmp 69) (.seq c30_22 .ret) .skip
@[go_sem] def c30_24 : Cmd := .ops [⟨some 70, .move (.tmp 17), 29, none⟩,
    ⟨some 8, .assign (.tmp 70), 29, none⟩]
@[go_sem] def c30_25 : Cmd := .cond (.tmp 52) (.seq (.seq c30_21 c30_23) (.seq c30_24 .ret)) .skip
@[go_sem] def c30_26 : Cmd := .block 3 (.seq c30_18 (.seq c30_19 (.seq c30_20 c30_25)))
@[go_sem] def c30_27 : Cmd := .ops [⟨some 71, .binOp .add 3 (.tmp 45) (.const (.int .i64 1)) 3, 3, none⟩,
    ⟨some 45, .move (.tmp 71), 3, none⟩]
def c30_L1 : Cmd := (.seq c30_16 (.seq c30_17 (.seq c30_26 c30_27)))
@[go_sem] def c30_28 : Cmd := .loop c30_L1
@[go_sem] def c30_29 : Cmd := .block 2 c30_28
@[go_sem] def c30_30 : Cmd := .ops [⟨some 8, .assign (.const (.int .i64 0)), 29, none⟩]
@[go_sem] def c30 : Cmd := (.seq c30_0 (.seq c30_1 (.seq c30_2 (.seq c30_3 (.seq c30_4 (.seq (.seq c30_5 c30_13) (.seq c30_14 (.seq (.seq c30_15 c30_29) (.seq c30_30 .ret)))))))))
theorem b30 : Tryd.f30.body.map (comp 72) = some c30 := by kernel_rfl
theorem r30 : Tryd.f30.results.toList = [.tmp 8] := by kernel_rfl
-- 31 (*pith/fs.FS).Names
@[go_sem] def c31_0 : Cmd := .ops [⟨some 2, .assign (.const (.slice none 0 0)), 65, none⟩]
@[go_sem] def c31_1 : Cmd := .ops [⟨some 3, .move (.tmp 0), 25, none⟩,
    ⟨some 4, .nilCheck (.tmp 3), 0, none⟩,
    ⟨some 5, .fieldAddr 86 (.tmp 4) 5, 0, none⟩,
    ⟨some 6, .load 4 (.tmp 5), 4, none⟩]
@[go_sem] def c31_2 : Cmd := .ops [⟨some 2, .assign (.const (.slice none 0 0)), 65, none⟩]
@[go_sem] def c31_3 : Cmd := .cond (.tmp 6) (.seq c31_2 .ret) .skip
@[go_sem] def c31_4 : Cmd := .ops [⟨some 7, .move (.tmp 0), 25, none⟩,
    ⟨some 8, .nilCheck (.tmp 7), 0, none⟩,
    ⟨some 9, .fieldAddr 86 (.tmp 8) 1, 0, none⟩,
    ⟨some 10, .load 82 (.tmp 9), 82, none⟩,
    ⟨some 11, .call { callee := (.value (.func 64)), args := #[(.tmp 10)], argTypes := #[82] }, 114, none⟩,
    ⟨some 12, .call { callee := (.value (.func 63)), args := #[(.tmp 11)], argTypes := #[114] }, 65, none⟩,
    ⟨some 2, .assign (.tmp 12), 65, none⟩]
@[go_sem] def c31 : Cmd := (.seq c31_0 (.seq (.seq c31_1 c31_3) (.seq c31_4 .ret)))
theorem b31 : Tryd.f31.body.map (comp 13) = some c31 := by kernel_rfl
theorem r31 : Tryd.f31.results.toList = [.tmp 2] := by kernel_rfl
-- 32 pith/pithref.Files
@[go_sem] def c32_0 : Cmd := .ops [⟨some 2, .assign (.const (.slice none 0 0)), 67, none⟩]
@[go_sem] def c32_1 : Cmd := .ops [⟨some 6, .move (.tmp 0), 67, none⟩,
    ⟨some 7, .call { callee := (.builtin .len), args := #[(.tmp 6)], argTypes := #[67] }, 3, none⟩,
    ⟨some 8, .makeSlice 67 (.const (.int .i64 0)) (.tmp 7), 67, none⟩,
    ⟨some 3, .assign (.tmp 8), 67, none⟩]
@[go_sem] def c32_2 : Cmd := .ops [⟨some 4, .assign (.const (.int .i64 0)), 3, none⟩]
@[go_sem] def c32_3 : Cmd := .ops [⟨some 9, .move (.tmp 4), 3, none⟩,
    ⟨some 10, .move (.tmp 0), 67, none⟩,
    ⟨some 11, .call { callee := (.builtin .len), args := #[(.tmp 10)], argTypes := #[67] }, 3, none⟩,
    ⟨some 12, .binOp .lss 3 (.tmp 9) (.tmp 11) 3, 4, none⟩]
@[go_sem] def c32_4 : Cmd := .cond (.tmp 12) .skip (.exit 0)
@[go_sem] def c32_5 : Cmd := .ops [⟨some 15, .move (.tmp 0), 67, none⟩,
    ⟨some 16, .move (.tmp 4), 3, none⟩,
    ⟨some 17, .indexAddr 67 (.tmp 15) (.tmp 16), 0, none⟩,
    ⟨some 18, .load 117 (.tmp 17), 117, none⟩,
    ⟨some 19, .call { callee := (.value (.func 65)), args := #[(.tmp 18)], argTypes := #[117] }, 117, none⟩,
    ⟨some 5, .alloc 117, 0, none⟩,
    ⟨none, .store 117 (.tmp 5) (.tmp 19), 0, none⟩]
@[go_sem] def c32_6 : Cmd := .ops [⟨some 20, .move (.tmp 3), 67, none⟩,
    ⟨some 21, .load 117 (.tmp 5), 117, none⟩,
    ⟨some 22, .buildSlice 67 1 #[(0, (.tmp 21))], 67, none⟩,
    ⟨some 23, .call { callee := (.builtin .append), args := #[(.tmp 20), (.tmp 22)], argTypes := #[67, 67] }, 67, none⟩,
    ⟨some 3, .assign (.tmp 23), 67, none⟩]
@[go_sem] def c32_7 : Cmd := .block 1 (.seq c32_5 c32_6)
@[go_sem] def c32_8 : Cmd := .ops [⟨some 13, .move (.tmp 4), 3, none⟩,
    ⟨some 14, .binOp .add 3 (.tmp 13) (.const (.int .i64 1)) 3, 3, none⟩,
    ⟨some 4, .assign (.tmp 14), 3, none⟩]
def c32_L0 : Cmd := (.seq (.seq c32_3 c32_4) (.seq c32_7 c32_8))
@[go_sem] def c32_9 : Cmd := .loop c32_L0
@[go_sem] def c32_10 : Cmd := .block 0 c32_9
@[go_sem] def c32_11 : Cmd := .ops [⟨some 24, .move (.tmp 3), 67, none⟩,
    ⟨some 2, .assign (.tmp 24), 67, none⟩]
@[go_sem] def c32 : Cmd := (.seq c32_0 (.seq c32_1 (.seq (.seq c32_2 c32_10) (.seq c32_11 .ret))))
theorem b32 : Tryd.f32.body.map (comp 25) = some c32 := by kernel_rfl
theorem r32 : Tryd.f32.results.toList = [.tmp 2] := by kernel_rfl
-- 33 (*pith/fs.FS).Lasting
@[go_sem] def c33_0 : Cmd := .ops [⟨some 2, .assign (.const (.slice none 0 0)), 67, none⟩]
@[go_sem] def c33_1 : Cmd := .ops [⟨some 3, .assign (.const (.slice none 0 0)), 67, none⟩]
@[go_sem] def c33_2 : Cmd := .ops [⟨some 7, .move (.tmp 0), 25, none⟩,
    ⟨some 8, .nilCheck (.tmp 7), 0, none⟩,
    ⟨some 9, .fieldAddr 86 (.tmp 8) 2, 0, none⟩,
    ⟨some 10, .load 82 (.tmp 9), 82, none⟩,
    ⟨some 11, .call { callee := (.value (.func 64)), args := #[(.tmp 10)], argTypes := #[82] }, 114, none⟩,
    ⟨some 12, .call { callee := (.value (.func 63)), args := #[(.tmp 11)], argTypes := #[114] }, 65, none⟩,
    ⟨some 13, .call { callee := (.builtin .len), args := #[(.tmp 12)], argTypes := #[65] }, 3, none⟩,
    ⟨some 14, .move (.const (.int .i64 0)), 3, none⟩]
@[go_sem] def c33_3 : Cmd := .ops [⟨some 15, .binOp .lss 3 (.tmp 14) (.tmp 13) 3, 0, none⟩]
@[go_sem] def c33_4 : Cmd := .cond (.tmp 15) .skip (.exit 0)
@[go_sem] def c33_5 : Cmd := .ops [⟨some 16, .indexAddr 65 (.tmp 12) (.tmp 14), 0, none⟩,
    ⟨some 17, .load 9 (.tmp 16), 9, none⟩,
    ⟨some 5, .assign (.tmp 17), 9, none⟩]
@[go_sem] def c33_6 : Cmd := .ops [⟨some 18, .move (.tmp 0), 25, none⟩,
    ⟨some 19, .nilCheck (.tmp 18), 0, none⟩,
    ⟨some 20, .fieldAddr 86 (.tmp 19) 2, 0, none⟩,
    ⟨some 21, .load 82 (.tmp 20), 82, none⟩,
    ⟨some 22, .move (.tmp 5), 9, none⟩,
    ⟨some 23, .lookup 82 (.tmp 21) (.tmp 22) false, 90, none⟩,
    ⟨some 6, .assign (.tmp 23), 90, none⟩]
@[go_sem] def c33_7 : Cmd := .draw (.step 3 ⟨some 24, .move (.tmp 3), 67, none⟩
    (.step 3 ⟨some 25, .move (.tmp 5), 9, none⟩
    (.step 3 ⟨some 26, .move (.tmp 6), 90, none⟩
    (.step 3 ⟨some 27, .nilCheck (.tmp 26), 0, none⟩
    (.step 3 ⟨some 28, .fieldAddr 94 (.tmp 27) 0, 0, none⟩
    (.step 0 ⟨some 29, .load 22 (.tmp 28), 22, none⟩
    (.step 3 ⟨some 30, .move (.tmp 6), 90, none⟩
    (.step 3 ⟨some 31, .nilCheck (.tmp 30), 0, none⟩
    (.step 3 ⟨some 32, .fieldAddr 94 (.tmp 31) 1, 0, none⟩
    (.step 0 ⟨some 33, .load 3 (.tmp 32), 3, none⟩
    (.step 3 ⟨some 34, .slice 22 (.tmp 29) none (some (.tmp 33)) none, 22, none⟩
    (.step 1 ⟨some 35, .call { callee := (.value (.func 42)), args := #[(.tmp 34)], argTypes := #[22] }, 22, none⟩
    (.step 3 ⟨some 36, .build 117 #[(0, (.tmp 25)), (1, (.tmp 35))], 117, none⟩
    (.step 1 ⟨some 37, .buildSlice 67 1 #[(0, (.tmp 36))], 67, none⟩
    (.step 2 ⟨some 38, .call { callee := (.builtin .append), args := #[(.tmp 24), (.tmp 37)], argTypes := #[67, 67] }, 67, none⟩
    (.step 3 ⟨some 3, .assign (.tmp 38), 67, none⟩
    .done))))))))))))))))
@[go_sem] def c33_8 : Cmd := .block 1 (.seq c33_5 (.seq c33_6 c33_7))
@[go_sem] def c33_9 : Cmd := .ops [⟨some 39, .binOp .add 3 (.tmp 14) (.const (.int .i64 1)) 3, 3, none⟩,
    ⟨some 14, .move (.tmp 39), 3, none⟩]
def c33_L0 : Cmd := (.seq c33_3 (.seq c33_4 (.seq c33_8 c33_9)))
@[go_sem] def c33_10 : Cmd := .loop c33_L0
@[go_sem] def c33_11 : Cmd := .block 0 c33_10
@[go_sem] def c33_12 : Cmd := .ops [⟨some 40, .move (.tmp 3), 67, none⟩,
    ⟨some 2, .assign (.tmp 40), 67, none⟩]
@[go_sem] def c33 : Cmd := (.seq c33_0 (.seq c33_1 (.seq (.seq c33_2 c33_11) (.seq c33_12 .ret))))
theorem b33 : Tryd.f33.body.map (comp 41) = some c33 := by kernel_rfl
theorem r33 : Tryd.f33.results.toList = [.tmp 2] := by kernel_rfl
-- 34 pith/pithref.SameTexts
@[go_sem] def c34_0 : Cmd := .ops [⟨some 4, .assign (.const (.bool false)), 4, none⟩]
@[go_sem] def c34_1 : Cmd := .ops [⟨some 6, .move (.tmp 0), 65, none⟩,
    ⟨some 7, .call { callee := (.builtin .len), args := #[(.tmp 6)], argTypes := #[65] }, 3, none⟩,
    ⟨some 8, .move (.tmp 1), 65, none⟩,
    ⟨some 9, .call { callee := (.builtin .len), args := #[(.tmp 8)], argTypes := #[65] }, 3, none⟩,
    ⟨some 10, .binOp .neq 3 (.tmp 7) (.tmp 9) 3, 4, none⟩]
@[go_sem] def c34_2 : Cmd := .ops [⟨some 4, .assign (.const (.bool false)), 4, none⟩]
@[go_sem] def c34_3 : Cmd := .cond (.tmp 10) (.seq c34_2 .ret) .skip
@[go_sem] def c34_4 : Cmd := .ops [⟨some 5, .assign (.const (.int .i64 0)), 3, none⟩]
@[go_sem] def c34_5 : Cmd := .ops [⟨some 11, .move (.tmp 5), 3, none⟩,
    ⟨some 12, .move (.tmp 0), 65, none⟩,
    ⟨some 13, .call { callee := (.builtin .len), args := #[(.tmp 12)], argTypes := #[65] }, 3, none⟩,
    ⟨some 14, .binOp .lss 3 (.tmp 11) (.tmp 13) 3, 4, none⟩]
@[go_sem] def c34_6 : Cmd := .cond (.tmp 14) .skip (.exit 0)
@[go_sem] def c34_7 : Cmd := .quiet [⟨some 17, .move (.tmp 0), 65, none⟩,
    ⟨some 18, .move (.tmp 5), 3, none⟩,
    ⟨some 19, .indexAddr 65 (.tmp 17) (.tmp 18), 0, none⟩,
    ⟨some 20, .load 9 (.tmp 19), 9, none⟩,
    ⟨some 21, .move (.tmp 1), 65, none⟩,
    ⟨some 22, .move (.tmp 5), 3, none⟩,
    ⟨some 23, .indexAddr 65 (.tmp 21) (.tmp 22), 0, none⟩,
    ⟨some 24, .load 9 (.tmp 23), 9, none⟩,
    ⟨some 25, .binOp .eql 9 (.tmp 20) (.tmp 24) 9, 4, none⟩,
    ⟨some 26, .unOp .not 4 (.tmp 25), 4, none⟩]
@[go_sem] def c34_8 : Cmd := .ops [⟨some 4, .assign (.const (.bool false)), 4, none⟩]
@[go_sem] def c34_9 : Cmd := .cond (.tmp 26) (.seq c34_8 .ret) .skip
@[go_sem] def c34_10 : Cmd := .block 1 (.seq c34_7 c34_9)
@[go_sem] def c34_11 : Cmd := .ops [⟨some 15, .move (.tmp 5), 3, none⟩,
    ⟨some 16, .binOp .add 3 (.tmp 15) (.const (.int .i64 1)) 3, 3, none⟩,
    ⟨some 5, .assign (.tmp 16), 3, none⟩]
def c34_L0 : Cmd := (.seq (.seq c34_5 c34_6) (.seq c34_10 c34_11))
@[go_sem] def c34_12 : Cmd := .loop c34_L0
@[go_sem] def c34_13 : Cmd := .block 0 c34_12
@[go_sem] def c34_14 : Cmd := .ops [⟨some 4, .assign (.const (.bool true)), 4, none⟩]
@[go_sem] def c34 : Cmd := (.seq c34_0 (.seq (.seq c34_1 c34_3) (.seq (.seq c34_4 c34_13) (.seq c34_14 .ret))))
theorem b34 : Tryd.f34.body.map (comp 27) = some c34 := by kernel_rfl
theorem r34 : Tryd.f34.results.toList = [.tmp 4] := by kernel_rfl
-- 35 pith/pithref.SameFiles
@[go_sem] def c35_0 : Cmd := .ops [⟨some 4, .assign (.const (.bool false)), 4, none⟩]
@[go_sem] def c35_1 : Cmd := .ops [⟨some 7, .move (.tmp 0), 67, none⟩,
    ⟨some 8, .call { callee := (.builtin .len), args := #[(.tmp 7)], argTypes := #[67] }, 3, none⟩,
    ⟨some 9, .move (.tmp 1), 67, none⟩,
    ⟨some 10, .call { callee := (.builtin .len), args := #[(.tmp 9)], argTypes := #[67] }, 3, none⟩,
    ⟨some 11, .binOp .neq 3 (.tmp 8) (.tmp 10) 3, 4, none⟩]
@[go_sem] def c35_2 : Cmd := .ops [⟨some 4, .assign (.const (.bool false)), 4, none⟩]
@[go_sem] def c35_3 : Cmd := .cond (.tmp 11) (.seq c35_2 .ret) .skip
@[go_sem] def c35_4 : Cmd := .ops [⟨some 5, .assign (.const (.int .i64 0)), 3, none⟩]
@[go_sem] def c35_5 : Cmd := .ops [⟨some 12, .move (.tmp 5), 3, none⟩,
    ⟨some 13, .move (.tmp 0), 67, none⟩,
    ⟨some 14, .call { callee := (.builtin .len), args := #[(.tmp 13)], argTypes := #[67] }, 3, none⟩,
    ⟨some 15, .binOp .lss 3 (.tmp 12) (.tmp 14) 3, 4, none⟩]
@[go_sem] def c35_6 : Cmd := .cond (.tmp 15) .skip (.exit 0)
@[go_sem] def c35_7 : Cmd := .still 8 [⟨some 18, .move (.tmp 0), 67, none⟩,
    ⟨some 19, .move (.tmp 5), 3, none⟩,
    ⟨some 20, .indexAddr 67 (.tmp 18) (.tmp 19), 0, none⟩,
    ⟨some 21, .load 117 (.tmp 20), 117, none⟩,
    ⟨some 22, .move (.tmp 1), 67, none⟩,
    ⟨some 23, .move (.tmp 5), 3, none⟩,
    ⟨some 24, .indexAddr 67 (.tmp 22) (.tmp 23), 0, none⟩,
    ⟨some 25, .load 117 (.tmp 24), 117, none⟩,
    ⟨some 26, .call { callee := (.value (.func 66)), args := #[(.tmp 21), (.tmp 25)], argTypes := #[117, 117] }, 4, none⟩,
    ⟨some 6, .assign (.tmp 26), 4, none⟩]
@[go_sem] def c35_8 : Cmd := .ops [⟨some 27, .move (.tmp 6), 4, none⟩,
    ⟨some 28, .unOp .not 4 (.tmp 27), 4, none⟩]
@[go_sem] def c35_9 : Cmd := .ops [⟨some 4, .assign (.const (.bool false)), 4, none⟩]
@[go_sem] def c35_10 : Cmd := .cond (.tmp 28) (.seq c35_9 .ret) .skip
@[go_sem] def c35_11 : Cmd := .block 1 (.seq c35_7 (.seq c35_8 c35_10))
@[go_sem] def c35_12 : Cmd := .ops [⟨some 16, .move (.tmp 5), 3, none⟩,
    ⟨some 17, .binOp .add 3 (.tmp 16) (.const (.int .i64 1)) 3, 3, none⟩,
    ⟨some 5, .assign (.tmp 17), 3, none⟩]
def c35_L0 : Cmd := (.seq (.seq c35_5 c35_6) (.seq c35_11 c35_12))
@[go_sem] def c35_13 : Cmd := .loop c35_L0
@[go_sem] def c35_14 : Cmd := .block 0 c35_13
@[go_sem] def c35_15 : Cmd := .ops [⟨some 4, .assign (.const (.bool true)), 4, none⟩]
@[go_sem] def c35 : Cmd := (.seq c35_0 (.seq (.seq c35_1 c35_3) (.seq (.seq c35_4 c35_14) (.seq c35_15 .ret))))
theorem b35 : Tryd.f35.body.map (comp 29) = some c35 := by kernel_rfl
theorem r35 : Tryd.f35.results.toList = [.tmp 4] := by kernel_rfl
-- 36 (*pith/fs.FS).Arm
@[go_sem] def c36_0 : Cmd := .ops [⟨some 4, .assign (.const (.int .i64 0)), 29, none⟩]
@[go_sem] def c36_1 : Cmd := .ops [⟨some 6, .move (.tmp 1), 3, none⟩,
    ⟨some 7, .binOp .lss 3 (.tmp 6) (.const (.int .i64 0)) 3, 4, none⟩,
    ⟨some 5, .assign (.tmp 7), 4, none⟩]
@[go_sem] def c36_2 : Cmd := .ops [⟨some 4, .assign (.const (.int .i64 85)), 29, none⟩]
@[go_sem] def c36_3 : Cmd := .ops [⟨some 9, .move (.tmp 0), 25, none⟩,
    ⟨some 10, .nilCheck (.tmp 9), 0, none⟩,
    ⟨some 11, .fieldAddr 86 (.tmp 10) 5, 0, none⟩,
    ⟨some 12, .load 4 (.tmp 11), 4, none⟩,
    ⟨some 8, .assign (.tmp 12), 4, none⟩]
@[go_sem] def c36_4 : Cmd := .ops [⟨some 4, .assign (.const (.int .i64 81)), 29, none⟩]
@[go_sem] def c36_5 : Cmd := .cond (.tmp 8) (.seq c36_4 .ret) .skip
@[go_sem] def c36_6 : Cmd := .cond (.tmp 5) (.seq c36_2 .ret) (.seq c36_3 c36_5)
@[go_sem] def c36_7 : Cmd := .block 0 (.seq c36_1 c36_6)
@[go_sem] def c36_8 : Cmd := .ops [⟨some 13, .move (.tmp 0), 25, none⟩,
    ⟨some 14, .move (.tmp 1), 3, none⟩,
    ⟨some 15, .nilCheck (.tmp 13), 0, none⟩,
    ⟨some 16, .fieldAddr 86 (.tmp 15) 6, 0, none⟩,
    ⟨none, .store 3 (.tmp 16) (.tmp 14), 0, none⟩]
@[go_sem] def c36_9 : Cmd := .ops [⟨some 4, .assign (.const (.int .i64 0)), 29, none⟩]
@[go_sem] def c36 : Cmd := (.seq c36_0 (.seq c36_7 (.seq c36_8 (.seq c36_9 .ret))))
theorem b36 : Tryd.f36.body.map (comp 17) = some c36 := by kernel_rfl
theorem r36 : Tryd.f36.results.toList = [.tmp 4] := by kernel_rfl
-- 37 (*pith/fs.FS).Crash
@[go_sem] def c37_0 : Cmd := .ops [⟨some 10, .move (.tmp 0), 25, none⟩,
    ⟨some 11, .move (.tmp 0), 25, none⟩,
    ⟨some 12, .move (.tmp 1), 3, none⟩,
    ⟨some 13, .call { callee := (.value (.func 67)), args := #[(.tmp 11), (.tmp 12)], argTypes := #[25, 3] }, 82, none⟩,
    ⟨some 14, .nilCheck (.tmp 10), 0, none⟩,
    ⟨some 15, .fieldAddr 86 (.tmp 14) 1, 0, none⟩,
    ⟨none, .store 82 (.tmp 15) (.tmp 13), 0, none⟩]
@[go_sem] def c37_1 : Cmd := .ops [⟨some 16, .move (.tmp 0), 25, none⟩,
    ⟨some 17, .nilCheck (.tmp 16), 0, none⟩,
    ⟨some 18, .fieldAddr 86 (.tmp 17) 1, 0, none⟩,
    ⟨some 19, .load 82 (.tmp 18), 82, none⟩,
    ⟨some 20, .call { callee := (.value (.func 64)), args := #[(.tmp 19)], argTypes := #[82] }, 114, none⟩,
    ⟨some 21, .call { callee := (.value (.func 63)), args := #[(.tmp 20)], argTypes := #[114] }, 65, none⟩,
    ⟨some 22, .call { callee := (.builtin .len), args := #[(.tmp 21)], argTypes := #[65] }, 3, none⟩,
    ⟨some 23, .move (.const (.int .i64 0)), 3, none⟩]
@[go_sem] def c37_2 : Cmd := .ops [⟨some 24, .binOp .lss 3 (.tmp 23) (.tmp 22) 3, 0, none⟩]
@[go_sem] def c37_3 : Cmd := .cond (.tmp 24) .skip (.exit 0)
@[go_sem] def c37_4 : Cmd := .ops [⟨some 25, .move (.tmp 23), 3, none⟩,
    ⟨some 26, .indexAddr 65 (.tmp 21) (.tmp 23), 0, none⟩,
    ⟨some 27, .load 9 (.tmp 26), 9, none⟩,
    ⟨some 6, .assign (.tmp 25), 3, none⟩,
    ⟨some 7, .assign (.tmp 27), 9, none⟩]
@[go_sem] def c37_5 : Cmd := .ops [⟨some 28, .move (.tmp 0), 25, none⟩,
    ⟨some 29, .nilCheck (.tmp 28), 0, none⟩,
    ⟨some 30, .fieldAddr 86 (.tmp 29) 1, 0, none⟩,
    ⟨some 31, .load 82 (.tmp 30), 82, none⟩,
    ⟨some 32, .move (.tmp 7), 9, none⟩,
    ⟨some 33, .lookup 82 (.tmp 31) (.tmp 32) false, 90, none⟩,
    ⟨some 8, .assign (.tmp 33), 90, none⟩,
    ⟨some 9, .assign (.const (.int .i64 0)), 3, none⟩]
@[go_sem] def c37_6 : Cmd := .ops [⟨some 34, .move (.tmp 6), 3, none⟩,
    ⟨some 35, .move (.tmp 2), 73, none⟩,
    ⟨some 36, .call { callee := (.builtin .len), args := #[(.tmp 35)], argTypes := #[73] }, 3, none⟩,
    ⟨some 37, .binOp .lss 3 (.tmp 34) (.tmp 36) 3, 4, none⟩]
@[go_sem] def c37_7 : Cmd := .ops [⟨some 38, .move (.tmp 2), 73, none⟩,
    ⟨some 39, .move (.tmp 6), 3, none⟩,
    ⟨some 40, .indexAddr 73 (.tmp 38) (.tmp 39), 0, none⟩,
    ⟨some 41, .load 3 (.tmp 40), 3, none⟩,
    ⟨some 42, .call { callee := (.builtin .max), args := #[(.tmp 41), (.const (.int .i64 0))], argTypes := #[3, 3] }, 3, none⟩,
    ⟨some 9, .assign (.tmp 42), 3, none⟩]
@[go_sem] def c37_8 : Cmd := .cond (.tmp 37) c37_7 .skip
@[go_sem] def c37_9 : Cmd := .still 23 [⟨some 43, .move (.tmp 8), 90, none⟩,
    ⟨some 44, .move (.tmp 8), 90, none⟩,
    ⟨some 45, .nilCheck (.tmp 44), 0, none⟩,
    ⟨some 46, .fieldAddr 94 (.tmp 45) 0, 0, none⟩,
    ⟨some 47, .load 22 (.tmp 46), 22, none⟩,
    ⟨some 48, .move (.tmp 8), 90, none⟩,
    ⟨some 49, .nilCheck (.tmp 48), 0, none⟩,
    ⟨some 50, .fieldAddr 94 (.tmp 49) 1, 0, none⟩,
    ⟨some 51, .load 3 (.tmp 50), 3, none⟩,
    ⟨some 52, .move (.tmp 9), 3, none⟩,
    ⟨some 53, .move (.tmp 8), 90, none⟩,
    ⟨some 54, .nilCheck (.tmp 53), 0, none⟩,
    ⟨some 55, .fieldAddr 94 (.tmp 54) 0, 0, none⟩,
    ⟨some 56, .load 22 (.tmp 55), 22, none⟩,
    ⟨some 57, .call { callee := (.builtin .len), args := #[(.tmp 56)], argTypes := #[22] }, 3, none⟩,
    ⟨some 58, .move (.tmp 8), 90, none⟩,
    ⟨some 59, .nilCheck (.tmp 58), 0, none⟩,
    ⟨some 60, .fieldAddr 94 (.tmp 59) 1, 0, none⟩,
    ⟨some 61, .load 3 (.tmp 60), 3, none⟩,
    ⟨some 62, .binOp .sub 3 (.tmp 57) (.tmp 61) 3, 3, none⟩,
    ⟨some 63, .call { callee := (.builtin .min), args := #[(.tmp 52), (.tmp 62)], argTypes := #[3, 3] }, 3, none⟩,
    ⟨some 64, .binOp .add 3 (.tmp 51) (.tmp 63) 3, 3, none⟩,
    ⟨some 65, .slice 22 (.tmp 47) none (some (.tmp 64)) none, 22, none⟩,
    ⟨some 66, .nilCheck (.tmp 43), 0, none⟩,
    ⟨some 67, .fieldAddr 94 (.tmp 66) 0, 0, none⟩,
    ⟨none, .store 22 (.tmp 67) (.tmp 65), 0, none⟩]
@[go_sem] def c37_10 : Cmd := .ops [⟨some 68, .move (.tmp 8), 90, none⟩,
    ⟨some 69, .move (.tmp 8), 90, none⟩,
    ⟨some 70, .nilCheck (.tmp 69), 0, none⟩,
    ⟨some 71, .fieldAddr 94 (.tmp 70) 0, 0, none⟩,
    ⟨some 72, .load 22 (.tmp 71), 22, none⟩,
    ⟨some 73, .call { callee := (.builtin .len), args := #[(.tmp 72)], argTypes := #[22] }, 3, none⟩,
    ⟨some 74, .nilCheck (.tmp 68), 0, none⟩,
    ⟨some 75, .fieldAddr 94 (.tmp 74) 1, 0, none⟩,
    ⟨none, .store 3 (.tmp 75) (.tmp 73), 0, none⟩]
@[go_sem] def c37_11 : Cmd := .block 1 (.seq c37_4 (.seq c37_5 (.seq (.seq c37_6 c37_8) (.seq c37_9 c37_10))))
@[go_sem] def c37_12 : Cmd := .ops [⟨some 76, .binOp .add 3 (.tmp 23) (.const (.int .i64 1)) 3, 3, none⟩,
    ⟨some 23, .move (.tmp 76), 3, none⟩]
def c37_L0 : Cmd := (.seq c37_2 (.seq c37_3 (.seq c37_11 c37_12)))
@[go_sem] def c37_13 : Cmd := .loop c37_L0
@[go_sem] def c37_14 : Cmd := .block 0 c37_13
@[go_sem] def c37_15 : Cmd := .ops [⟨some 77, .move (.tmp 0), 25, none⟩,
    ⟨some 78, .call { callee := (.value (.func 68)), args := #[(.tmp 77)], argTypes := #[25] }, 0, none⟩]
@[go_sem] def c37_16 : Cmd := .ops [⟨some 79, .move (.tmp 0), 25, none⟩,
    ⟨some 80, .move (.tmp 0), 25, none⟩,
    ⟨some 81, .nilCheck (.tmp 79), 0, none⟩,
    ⟨some 82, .fieldAddr 86 (.tmp 81) 5, 0, none⟩,
    ⟨none, .store 4 (.tmp 82) (.const (.bool false)), 0, none⟩,
    ⟨some 83, .nilCheck (.tmp 80), 0, none⟩,
    ⟨some 84, .fieldAddr 86 (.tmp 83) 6, 0, none⟩,
    ⟨none, .store 3 (.tmp 84) (.const (.int .i64 0)), 0, none⟩]
@[go_sem] def c37 : Cmd := (.seq c37_0 (.seq (.seq c37_1 c37_14) (.seq c37_15 c37_16)))
theorem b37 : Tryd.f37.body.map (comp 85) = some c37 := by kernel_rfl
theorem r37 : Tryd.f37.results.toList = [] := by kernel_rfl
-- 38 pith/pithref.Ints
@[go_sem] def c38_0 : Cmd := .ops [⟨some 2, .assign (.const (.slice none 0 0)), 73, none⟩]
@[go_sem] def c38_1 : Cmd := .ops [⟨some 5, .move (.tmp 0), 73, none⟩,
    ⟨some 6, .call { callee := (.builtin .len), args := #[(.tmp 5)], argTypes := #[73] }, 3, none⟩,
    ⟨some 7, .makeSlice 73 (.const (.int .i64 0)) (.tmp 6), 73, none⟩,
    ⟨some 3, .assign (.tmp 7), 73, none⟩]
@[go_sem] def c38_2 : Cmd := .ops [⟨some 4, .assign (.const (.int .i64 0)), 3, none⟩]
@[go_sem] def c38_3 : Cmd := .ops [⟨some 8, .move (.tmp 4), 3, none⟩,
    ⟨some 9, .move (.tmp 0), 73, none⟩,
    ⟨some 10, .call { callee := (.builtin .len), args := #[(.tmp 9)], argTypes := #[73] }, 3, none⟩,
    ⟨some 11, .binOp .lss 3 (.tmp 8) (.tmp 10) 3, 4, none⟩]
@[go_sem] def c38_4 : Cmd := .cond (.tmp 11) .skip (.exit 0)
@[go_sem] def c38_5 : Cmd := .ops [⟨some 14, .move (.tmp 3), 73, none⟩,
    ⟨some 15, .move (.tmp 0), 73, none⟩,
    ⟨some 16, .move (.tmp 4), 3, none⟩,
    ⟨some 17, .indexAddr 73 (.tmp 15) (.tmp 16), 0, none⟩,
    ⟨some 18, .load 3 (.tmp 17), 3, none⟩,
    ⟨some 19, .buildSlice 73 1 #[(0, (.tmp 18))], 73, none⟩,
    ⟨some 20, .call { callee := (.builtin .append), args := #[(.tmp 14), (.tmp 19)], argTypes := #[73, 73] }, 73, none⟩,
    ⟨some 3, .assign (.tmp 20), 73, none⟩]
@[go_sem] def c38_6 : Cmd := .block 1 c38_5
@[go_sem] def c38_7 : Cmd := .ops [⟨some 12, .move (.tmp 4), 3, none⟩,
    ⟨some 13, .binOp .add 3 (.tmp 12) (.const (.int .i64 1)) 3, 3, none⟩,
    ⟨some 4, .assign (.tmp 13), 3, none⟩]
def c38_L0 : Cmd := (.seq (.seq c38_3 c38_4) (.seq c38_6 c38_7))
@[go_sem] def c38_8 : Cmd := .loop c38_L0
@[go_sem] def c38_9 : Cmd := .block 0 c38_8
@[go_sem] def c38_10 : Cmd := .ops [⟨some 21, .move (.tmp 3), 73, none⟩,
    ⟨some 2, .assign (.tmp 21), 73, none⟩]
@[go_sem] def c38 : Cmd := (.seq c38_0 (.seq c38_1 (.seq (.seq c38_2 c38_9) (.seq c38_10 .ret))))
theorem b38 : Tryd.f38.body.map (comp 22) = some c38 := by kernel_rfl
theorem r38 : Tryd.f38.results.toList = [.tmp 2] := by kernel_rfl
-- 39 pith/files.Open
@[go_sem] def c39_0 : Cmd := .ops [⟨some 4, .assign (.const (.pointer none)), 78, none⟩,
    ⟨some 5, .assign (.const (.slice none 0 0)), 22, none⟩,
    ⟨some 6, .assign (.const (.int .i64 0)), 29, none⟩]
@[go_sem] def c39_1 : Cmd := .ops [⟨some 10, .move (.tmp 0), 25, none⟩,
    ⟨some 11, .move (.tmp 1), 9, none⟩,
    ⟨some 12, .build 122 #[(0, (.tmp 10)), (1, (.tmp 11))], 122, none⟩,
    ⟨some 13, .box 122 (.tmp 12), 78, none⟩,
    ⟨some 7, .assign (.tmp 13), 78, none⟩]
@[go_sem] def c39_2 : Cmd := .ops [⟨some 15, .move (.tmp 7), 78, none⟩,
    ⟨some 16, .call { callee := (.value (.func 69)), args := #[(.tmp 15)], argTypes := #[78] }, 123, none⟩,
    ⟨some 14, .move (.tmp 16), 123, none⟩,
    ⟨some 17, .extract (.tmp 14) 0, 44, none⟩,
    ⟨some 18, .extract (.tmp 14) 1, 29, none⟩,
    ⟨some 8, .alloc 44, 0, none⟩,
    ⟨none, .store 44 (.tmp 8) (.tmp 17), 0, none⟩,
    ⟨some 9, .assign (.tmp 18), 29, none⟩]
@[go_sem] def c39_3 : Cmd := .ops [⟨some 19, .move (.tmp 9), 29, none⟩,
    ⟨some 20, .binOp .eql 29 (.tmp 19) (.const (.int .i64 0)) 29, 4, none⟩,
    ⟨some 21, .move (.tmp 20), 4, none⟩,
    ⟨some 22, .fieldAddr 44 (.tmp 8) 0, 0, some (21, true)⟩,
    ⟨some 23, .load 3 (.tmp 22), 3, some (21, true)⟩,
    ⟨some 24, .binOp .neq 3 (.tmp 23) (.const (.int .i64 1)) 3, 4, some (21, true)⟩,
    ⟨some 25, .pick (.tmp 21) (.tmp 24) (.const (.bool false)), 4, none⟩]
@[go_sem] def c39_4 : Cmd := .ops [⟨some 9, .assign (.const (.int .i64 90)), 29, none⟩]
@[go_sem] def c39_5 : Cmd := .cond (.tmp 25) c39_4 .skip
@[go_sem] def c39_6 : Cmd := .ops [⟨some 26, .move (.tmp 9), 29, none⟩,
    ⟨some 27, .binOp .neq 29 (.tmp 26) (.const (.int .i64 0)) 29, 4, none⟩]
@[go_sem] def c39_7 : Cmd := .ops [⟨some 28, .move (.tmp 9), 29, none⟩,
    ⟨some 4, .assign (.const (.pointer none)), 78, none⟩,
    ⟨some 5, .assign (.const (.slice none 0 0)), 22, none⟩,
    ⟨some 6, .assign (.tmp 28), 29, none⟩]
@[go_sem] def c39_8 : Cmd := .cond (.tmp 27) (.seq c39_7 .ret) .skip
@[go_sem] def c39_9 : Cmd := .quiet [⟨some 29, .move (.tmp 7), 78, none⟩,
    ⟨some 30, .fieldAddr 44 (.tmp 8) 1, 0, none⟩,
    ⟨some 31, .load 22 (.tmp 30), 22, none⟩,
    ⟨some 4, .assign (.tmp 29), 78, none⟩,
    ⟨some 5, .assign (.tmp 31), 22, none⟩,
    ⟨some 6, .assign (.const (.int .i64 0)), 29, none⟩]
@[go_sem] def c39 : Cmd := (.seq c39_0 (.seq c39_1 (.seq c39_2 (.seq (.seq c39_3 c39_5) (.seq (.seq c39_6 c39_8) (.seq c39_9 .ret))))))
theorem b39 : Tryd.f39.body.map (comp 32) = some c39 := by kernel_rfl
theorem r39 : Tryd.f39.results.toList = [.tmp 4, .tmp 5, .tmp 6] := by kernel_rfl
-- 40 (*pith/files.Reader).payloads
@[go_sem] def c40_0 : Cmd := .ops [⟨some 1, .box 78 (.tmp 0), 0, none⟩,
    ⟨some 2, .assign (.const .nilFunc), 88, none⟩]
@[go_sem] def c40_1 : Cmd := .ops [⟨some 3, .makeFunc (.func 70) #[] #[(.tmp 1)], 87, none⟩,
    ⟨some 2, .assign (.tmp 3), 88, none⟩]
@[go_sem] def c40 : Cmd := (.seq c40_0 (.seq c40_1 .ret))
theorem b40 : Tryd.f40.body.map (comp 4) = some c40 := by kernel_rfl
theorem r40 : Tryd.f40.results.toList = [.tmp 2] := by kernel_rfl
-- 41 (*pith/fs.FS).find
@[go_sem] def c41_0 : Cmd := .ops [⟨some 4, .assign (.const (.pointer none)), 90, none⟩,
    ⟨some 5, .assign (.const (.int .i64 0)), 29, none⟩]
@[go_sem] def c41_1 : Cmd := .ops [⟨some 8, .move (.tmp 0), 25, none⟩,
    ⟨some 9, .move (.tmp 1), 9, none⟩,
    ⟨some 10, .buildSlice 65 1 #[(0, (.tmp 9))], 65, none⟩,
    ⟨some 11, .call { callee := (.value (.func 44)), args := #[(.tmp 8), (.tmp 10)], argTypes := #[25, 65] }, 29, none⟩,
    ⟨some 6, .assign (.tmp 11), 29, none⟩]
@[go_sem] def c41_2 : Cmd := .ops [⟨some 12, .move (.tmp 6), 29, none⟩,
    ⟨some 13, .binOp .neq 29 (.tmp 12) (.const (.int .i64 0)) 29, 4, none⟩]
@[go_sem] def c41_3 : Cmd := .ops [⟨some 14, .move (.tmp 6), 29, none⟩,
    ⟨some 4, .assign (.const (.pointer none)), 90, none⟩,
    ⟨some 5, .assign (.tmp 14), 29, none⟩]
@[go_sem] def c41_4 : Cmd := .cond (.tmp 13) (.seq c41_3 .ret) .skip
@[go_sem] def c41_5 : Cmd := .ops [⟨some 15, .move (.tmp 0), 25, none⟩,
    ⟨some 16, .nilCheck (.tmp 15), 0, none⟩,
    ⟨some 17, .fieldAddr 86 (.tmp 16) 1, 0, none⟩,
    ⟨some 18, .load 82 (.tmp 17), 82, none⟩,
    ⟨some 19, .move (.tmp 1), 9, none⟩,
    ⟨some 20, .lookup 82 (.tmp 18) (.tmp 19) false, 90, none⟩,
    ⟨some 7, .assign (.tmp 20), 90, none⟩]
@[go_sem] def c41_6 : Cmd := .ops [⟨some 21, .move (.tmp 7), 90, none⟩,
    ⟨some 22, .binOp .eql 90 (.tmp 21) (.const (.pointer none)) 90, 4, none⟩]
@[go_sem] def c41_7 : Cmd := .ops [⟨some 4, .assign (.const (.pointer none)), 90, none⟩,
    ⟨some 5, .assign (.const (.int .i64 82)), 29, none⟩]
@[go_sem] def c41_8 : Cmd := .cond (.tmp 22) (.seq c41_7 .ret) .skip
@[go_sem] def c41_9 : Cmd := .ops [⟨some 23, .move (.tmp 7), 90, none⟩,
    ⟨some 4, .assign (.tmp 23), 90, none⟩,
    ⟨some 5, .assign (.const (.int .i64 0)), 29, none⟩]
@[go_sem] def c41 : Cmd := (.seq c41_0 (.seq (.seq c41_1 (.seq c41_2 c41_4)) (.seq c41_5 (.seq (.seq c41_6 c41_8) (.seq c41_9 .ret)))))
theorem b41 : Tryd.f41.body.map (comp 24) = some c41 := by kernel_rfl
theorem r41 : Tryd.f41.results.toList = [.tmp 4, .tmp 5] := by kernel_rfl
-- 42 bytes.Clone
@[go_sem] def c42_0 : Cmd := .ops [⟨some 2, .assign (.const (.slice none 0 0)), 22, none⟩]
@[go_sem] def c42_1 : Cmd := .ops [⟨some 3, .move (.tmp 0), 22, none⟩,
    ⟨some 4, .binOp .eql 22 (.tmp 3) (.const (.slice none 0 0)) 22, 4, none⟩]
@[go_sem] def c42_2 : Cmd := .ops [⟨some 2, .assign (.const (.slice none 0 0)), 22, none⟩]
@[go_sem] def c42_3 : Cmd := .cond (.tmp 4) (.seq c42_2 .ret) .skip
@[go_sem] def c42_4 : Cmd := .ops [⟨some 5, .buildSlice 22 0 #[], 22, none⟩,
    ⟨some 6, .move (.tmp 0), 22, none⟩,
    ⟨some 7, .call { callee := (.builtin .append), args := #[(.tmp 5), (.tmp 6)], argTypes := #[22, 22] }, 22, none⟩,
    ⟨some 2, .assign (.tmp 7), 22, none⟩]
@[go_sem] def c42 : Cmd := (.seq c42_0 (.seq (.seq c42_1 c42_3) (.seq c42_4 .ret)))
theorem b42 : Tryd.f42.body.map (comp 8) = some c42 := by kernel_rfl
theorem r42 : Tryd.f42.results.toList = [.tmp 2] := by kernel_rfl
-- 43 pith/pithref3.Decode
@[go_sem] def c43_0 : Cmd := .ops [⟨some 2, .alloc 44, 0, none⟩,
    ⟨some 3, .assign (.const (.int .i64 0)), 3, none⟩,
    ⟨some 4, .assign (.const (.int .i64 0)), 3, none⟩]
@[go_sem] def c43_1 : Cmd := .ops [⟨some 10, .move (.tmp 0), 22, none⟩,
    ⟨some 11, .call { callee := (.builtin .len), args := #[(.tmp 10)], argTypes := #[22] }, 3, none⟩,
    ⟨some 12, .binOp .lss 3 (.tmp 11) (.const (.int .i64 12)) 3, 4, none⟩]
@[go_sem] def c43_2 : Cmd := .ops [⟨some 13, .build 44 #[], 44, none⟩,
    ⟨none, .store 44 (.tmp 2) (.tmp 13), 0, none⟩,
    ⟨some 3, .assign (.const (.int .i64 0)), 3, none⟩,
    ⟨some 4, .assign (.const (.int .i64 32)), 3, none⟩]
@[go_sem] def c43_3 : Cmd := .cond (.tmp 12) (.seq c43_2 .ret) .skip
@[go_sem] def c43_4 : Cmd := .quiet [⟨some 14, .move (.tmp 0), 22, none⟩,
    ⟨some 15, .indexAddr 22 (.tmp 14) (.const (.int .i64 2)), 0, none⟩,
    ⟨some 16, .load 5 (.tmp 15), 5, none⟩,
    ⟨some 17, .convert 5 3 (.tmp 16), 3, none⟩,
    ⟨some 18, .binOp .mul 3 (.tmp 17) (.const (.int .i64 256)) 3, 3, none⟩,
    ⟨some 19, .move (.tmp 0), 22, none⟩,
    ⟨some 20, .indexAddr 22 (.tmp 19) (.const (.int .i64 3)), 0, none⟩,
    ⟨some 21, .load 5 (.tmp 20), 5, none⟩,
    ⟨some 22, .convert 5 3 (.tmp 21), 3, none⟩,
    ⟨some 23, .binOp .add 3 (.tmp 18) (.tmp 22) 3, 3, none⟩,
    ⟨some 5, .assign (.tmp 23), 3, none⟩]
@[go_sem] def c43_5 : Cmd := .ops [⟨some 24, .move (.tmp 0), 22, none⟩,
    ⟨some 25, .call { callee := (.builtin .len), args := #[(.tmp 24)], argTypes := #[22] }, 3, none⟩,
    ⟨some 26, .move (.tmp 5), 3, none⟩,
    ⟨some 27, .binOp .add 3 (.const (.int .i64 12)) (.tmp 26) 3, 3, none⟩,
    ⟨some 28, .binOp .lss 3 (.tmp 25) (.tmp 27) 3, 4, none⟩]
@[go_sem] def c43_6 : Cmd := .ops [⟨some 29, .build 44 #[], 44, none⟩,
    ⟨none, .store 44 (.tmp 2) (.tmp 29), 0, none⟩,
    ⟨some 3, .assign (.const (.int .i64 0)), 3, none⟩,
    ⟨some 4, .assign (.const (.int .i64 32)), 3, none⟩]
@[go_sem] def c43_7 : Cmd := .cond (.tmp 28) (.seq c43_6 .ret) .skip
@[go_sem] def c43_8 : Cmd := .draw (.step 3 ⟨some 30, .move (.tmp 0), 22, none⟩
    (.step 3 ⟨some 31, .indexAddr 22 (.tmp 30) (.const (.int .i64 1)), 0, none⟩
    (.step 0 ⟨some 32, .load 5 (.tmp 31), 5, none⟩
    (.step 3 ⟨some 33, .convert 5 3 (.tmp 32), 3, none⟩
    (.step 3 ⟨some 34, .move (.tmp 0), 22, none⟩
    (.step 3 ⟨some 35, .move (.tmp 5), 3, none⟩
    (.step 3 ⟨some 36, .binOp .add 3 (.const (.int .i64 8)) (.tmp 35) 3, 3, none⟩
    (.step 3 ⟨some 37, .slice 22 (.tmp 34) (some (.const (.int .i64 8))) (some (.tmp 36)) none, 22, none⟩
    (.both ⟨some 38, .call { callee := (.value (.func 51)), args := #[(.tmp 37)], argTypes := #[22] }, 22, none⟩
    (.step 3 ⟨some 39, .build 44 #[(0, (.tmp 33)), (1, (.tmp 38))], 44, none⟩
    (.step 1 ⟨some 6, .alloc 44, 0, none⟩
    (.step 2 ⟨none, .store 44 (.tmp 6) (.tmp 39), 0, none⟩
    .done)))
    ⟨some 6, .alloc 44, 0, none⟩
    (.step 1 ⟨some 38, .call { callee := (.value (.func 51)), args := #[(.tmp 37)], argTypes := #[22] }, 22, none⟩
    (.step 3 ⟨some 39, .build 44 #[(0, (.tmp 33)), (1, (.tmp 38))], 44, none⟩
    (.step 2 ⟨none, .store 44 (.tmp 6) (.tmp 39), 0, none⟩
    .done))))))))))))
@[go_sem] def c43_9 : Cmd := .ops [⟨some 41, .load 44 (.tmp 6), 44, none⟩,
    ⟨some 42, .call { callee := (.value (.func 72)), args := #[(.tmp 41)], argTypes := #[44] }, 128, none⟩,
    ⟨some 40, .move (.tmp 42), 128, none⟩,
    ⟨some 43, .extract (.tmp 40) 0, 22, none⟩,
    ⟨some 44, .extract (.tmp 40) 1, 3, none⟩,
    ⟨some 7, .assign (.tmp 43), 22, none⟩,
    ⟨some 8, .assign (.tmp 44), 3, none⟩]
@[go_sem] def c43_10 : Cmd := .ops [⟨some 45, .move (.tmp 7), 22, none⟩,
    ⟨some 46, .move (.tmp 0), 22, none⟩,
    ⟨some 47, .move (.tmp 5), 3, none⟩,
    ⟨some 48, .binOp .add 3 (.const (.int .i64 12)) (.tmp 47) 3, 3, none⟩,
    ⟨some 49, .slice 22 (.tmp 46) none (some (.tmp 48)) none, 22, none⟩,
    ⟨some 50, .call { callee := (.value (.func 14)), args := #[(.tmp 45), (.tmp 49)], argTypes := #[22, 22] }, 4, none⟩,
    ⟨some 9, .assign (.tmp 50), 4, none⟩]
@[go_sem] def c43_11 : Cmd := .ops [⟨some 51, .move (.tmp 8), 3, none⟩,
    ⟨some 52, .binOp .neq 3 (.tmp 51) (.const (.int .i64 0)) 3, 4, none⟩,
    ⟨some 53, .move (.tmp 52), 4, none⟩,
    ⟨some 54, .move (.tmp 9), 4, some (53, false)⟩,
    ⟨some 55, .unOp .not 4 (.tmp 54), 4, some (53, false)⟩,
    ⟨some 56, .pick (.tmp 53) (.const (.bool true)) (.tmp 55), 4, none⟩]
@[go_sem] def c43_12 : Cmd := .ops [⟨some 57, .build 44 #[], 44, none⟩,
    ⟨none, .store 44 (.tmp 2) (.tmp 57), 0, none⟩,
    ⟨some 3, .assign (.const (.int .i64 0)), 3, none⟩,
    ⟨some 4, .assign (.const (.int .i64 32)), 3, none⟩]
@[go_sem] def c43_13 : Cmd := .cond (.tmp 56) (.seq c43_12 .ret) .skip
@[go_sem] def c43_14 : Cmd := .ops [⟨some 58, .load 44 (.tmp 6), 44, none⟩,
    ⟨some 59, .move (.tmp 5), 3, none⟩,
    ⟨some 60, .binOp .add 3 (.const (.int .i64 12)) (.tmp 59) 3, 3, none⟩,
    ⟨none, .store 44 (.tmp 2) (.tmp 58), 0, none⟩,
    ⟨some 3, .assign (.tmp 60), 3, none⟩,
    ⟨some 4, .assign (.const (.int .i64 0)), 3, none⟩]
@[go_sem] def c43 : Cmd := (.seq c43_0 (.seq (.seq c43_1 c43_3) (.seq c43_4 (.seq (.seq c43_5 c43_7) (.seq c43_8 (.seq c43_9 (.seq c43_10 (.seq (.seq c43_11 c43_13) (.seq c43_14 .ret)))))))))
theorem b43 : Tryd.f43.body.map (comp 61) = some c43 := by kernel_rfl
theorem r43 : Tryd.f43.results.toList = [.cell 2 44, .tmp 3, .tmp 4] := by kernel_rfl
-- 44 (*pith/fs.FS).begin
@[go_sem] def c44_0 : Cmd := .ops [⟨some 4, .assign (.const (.int .i64 0)), 29, none⟩]
@[go_sem] def c44_1 : Cmd := .ops [⟨some 7, .move (.tmp 1), 65, none⟩,
    ⟨some 8, .call { callee := (.builtin .len), args := #[(.tmp 7)], argTypes := #[65] }, 3, none⟩,
    ⟨some 9, .move (.const (.int .i64 0)), 3, none⟩]
@[go_sem] def c44_2 : Cmd := .ops [⟨some 10, .binOp .lss 3 (.tmp 9) (.tmp 8) 3, 0, none⟩]
@[go_sem] def c44_3 : Cmd := .cond (.tmp 10) .skip (.exit 0)
@[go_sem] def c44_4 : Cmd := .ops [⟨some 11, .indexAddr 65 (.tmp 7) (.tmp 9), 0, none⟩,
    ⟨some 12, .load 9 (.tmp 11), 9, none⟩,
    ⟨some 6, .assign (.tmp 12), 9, none⟩]
@[go_sem] def c44_5 : Cmd := .ops [⟨some 13, .move (.tmp 6), 9, none⟩,
    ⟨some 14, .call { callee := (.value (.func 54)), args := #[(.tmp 13)], argTypes := #[9] }, 4, none⟩,
    ⟨some 15, .unOp .not 4 (.tmp 14), 4, none⟩]
@[go_sem] def c44_6 : Cmd := .ops [⟨some 4, .assign (.const (.int .i64 84)), 29, none⟩]
@[go_sem] def c44_7 : Cmd := .cond (.tmp 15) (.seq c44_6 .ret) .skip
@[go_sem] def c44_8 : Cmd := .block 1 (.seq c44_4 (.seq c44_5 c44_7))
@[go_sem] def c44_9 : Cmd := .ops [⟨some 16, .binOp .add 3 (.tmp 9) (.const (.int .i64 1)) 3, 3, none⟩,
    ⟨some 9, .move (.tmp 16), 3, none⟩]
def c44_L0 : Cmd := (.seq c44_2 (.seq c44_3 (.seq c44_8 c44_9)))
@[go_sem] def c44_10 : Cmd := .loop c44_L0
@[go_sem] def c44_11 : Cmd := .block 0 c44_10
@[go_sem] def c44_12 : Cmd := .ops [⟨some 17, .move (.tmp 0), 25, none⟩,
    ⟨some 18, .nilCheck (.tmp 17), 0, none⟩,
    ⟨some 19, .fieldAddr 86 (.tmp 18) 5, 0, none⟩,
    ⟨some 20, .load 4 (.tmp 19), 4, none⟩]
@[go_sem] def c44_13 : Cmd := .ops [⟨some 4, .assign (.const (.int .i64 81)), 29, none⟩]
@[go_sem] def c44_14 : Cmd := .cond (.tmp 20) (.seq c44_13 .ret) .skip
@[go_sem] def c44_15 : Cmd := .ops [⟨some 4, .assign (.const (.int .i64 0)), 29, none⟩]
@[go_sem] def c44 : Cmd := (.seq c44_0 (.seq (.seq c44_1 c44_11) (.seq (.seq c44_12 c44_14) (.seq c44_15 .ret))))
theorem b44 : Tryd.f44.body.map (comp 21) = some c44 := by kernel_rfl
theorem r44 : Tryd.f44.results.toList = [.tmp 4] := by kernel_rfl
-- 45 (*pith/fs.FS).pend
@[go_sem] def c45_0 : Cmd := .ops [⟨some 4, .box 90 (.tmp 1), 0, none⟩,
    ⟨some 5, .box 9 (.tmp 2), 0, none⟩,
    ⟨some 6, .assign (.const (.int .i64 0)), 29, none⟩]
@[go_sem] def c45_1 : Cmd := .ops [⟨some 8, .makeFunc (.func 73) #[] #[(.tmp 4), (.tmp 5)], 130, none⟩,
    ⟨some 7, .assign (.tmp 8), 130, none⟩]
@[go_sem] def c45_2 : Cmd := .ops [⟨some 9, .move (.tmp 7), 130, none⟩,
    ⟨some 10, .move (.tmp 0), 25, none⟩,
    ⟨some 11, .nilCheck (.tmp 10), 0, none⟩,
    ⟨some 12, .fieldAddr 86 (.tmp 11) 1, 0, none⟩,
    ⟨some 13, .load 82 (.tmp 12), 82, none⟩,
    ⟨some 14, .call { callee := (.value (.tmp 9)), args := #[(.tmp 13)], argTypes := #[82] }, 0, none⟩]
@[go_sem] def c45_3 : Cmd := .ops [⟨some 15, .move (.tmp 0), 25, none⟩,
    ⟨some 16, .move (.tmp 0), 25, none⟩,
    ⟨some 17, .nilCheck (.tmp 16), 0, none⟩,
    ⟨some 18, .fieldAddr 86 (.tmp 17) 3, 0, none⟩,
    ⟨some 19, .load 84 (.tmp 18), 84, none⟩,
    ⟨some 20, .move (.tmp 7), 130, none⟩,
    ⟨some 21, .buildSlice 84 1 #[(0, (.tmp 20))], 84, none⟩,
    ⟨some 22, .call { callee := (.builtin .append), args := #[(.tmp 19), (.tmp 21)], argTypes := #[84, 84] }, 84, none⟩,
    ⟨some 23, .nilCheck (.tmp 15), 0, none⟩,
    ⟨some 24, .fieldAddr 86 (.tmp 23) 3, 0, none⟩,
    ⟨none, .store 84 (.tmp 24) (.tmp 22), 0, none⟩]
@[go_sem] def c45_4 : Cmd := .ops [⟨some 25, .move (.tmp 0), 25, none⟩,
    ⟨some 26, .call { callee := (.value (.func 47)), args := #[(.tmp 25)], argTypes := #[25] }, 29, none⟩,
    ⟨some 6, .assign (.tmp 26), 29, none⟩]
@[go_sem] def c45 : Cmd := (.seq c45_0 (.seq c45_1 (.seq c45_2 (.seq c45_3 (.seq c45_4 .ret)))))
theorem b45 : Tryd.f45.body.map (comp 27) = some c45 := by kernel_rfl
theorem r45 : Tryd.f45.results.toList = [.tmp 6] := by kernel_rfl
-- 46 (*pith/fs.FS).Held
@[go_sem] def c46_0 : Cmd := .ops [⟨some 2, .assign (.const (.int .i64 0)), 3, none⟩]
@[go_sem] def c46_1 : Cmd := .ops [⟨some 3, .assign (.const (.int .i64 0)), 3, none⟩]
@[go_sem] def c46_2 : Cmd := .ops [⟨some 5, .move (.tmp 0), 25, none⟩,
    ⟨some 6, .nilCheck (.tmp 5), 0, none⟩,
    ⟨some 7, .fieldAddr 86 (.tmp 6) 4, 0, none⟩,
    ⟨some 8, .load 83 (.tmp 7), 83, none⟩,
    ⟨some 9, .range 83 (.tmp 8), 0, none⟩]
@[go_sem] def c46_3 : Cmd := .ops [⟨some 10, .next (.tmp 9) false, 0, none⟩,
    ⟨some 11, .extract (.tmp 10) 0, 4, none⟩]
@[go_sem] def c46_4 : Cmd := .cond (.tmp 11) .skip (.exit 0)
@[go_sem] def c46_5 : Cmd := .ops [⟨some 12, .entry (.tmp 9), 0, none⟩,
    ⟨some 13, .extract (.tmp 12) 0, 90, none⟩,
    ⟨some 4, .assign (.tmp 13), 90, none⟩]
@[go_sem] def c46_6 : Cmd := .ops [⟨some 14, .move (.tmp 3), 3, none⟩,
    ⟨some 15, .move (.tmp 4), 90, none⟩,
    ⟨some 16, .nilCheck (.tmp 15), 0, none⟩,
    ⟨some 17, .fieldAddr 94 (.tmp 16) 0, 0, none⟩,
    ⟨some 18, .load 22 (.tmp 17), 22, none⟩,
    ⟨some 19, .call { callee := (.builtin .len), args := #[(.tmp 18)], argTypes := #[22] }, 3, none⟩,
    ⟨some 20, .binOp .add 3 (.tmp 14) (.tmp 19) 3, 3, none⟩,
    ⟨some 3, .assign (.tmp 20), 3, none⟩]
@[go_sem] def c46_7 : Cmd := .block 1 (.seq c46_5 c46_6)
def c46_L0 : Cmd := (.seq c46_3 (.seq c46_4 c46_7))
@[go_sem] def c46_8 : Cmd := .loop c46_L0
@[go_sem] def c46_9 : Cmd := .block 0 c46_8
@[go_sem] def c46_10 : Cmd := .ops [⟨some 21, .move (.tmp 3), 3, none⟩,
    ⟨some 2, .assign (.tmp 21), 3, none⟩]
@[go_sem] def c46 : Cmd := (.seq c46_0 (.seq c46_1 (.seq (.seq c46_2 c46_9) (.seq c46_10 .ret))))
theorem b46 : Tryd.f46.body.map (comp 22) = some c46 := by kernel_rfl
theorem r46 : Tryd.f46.results.toList = [.tmp 2] := by kernel_rfl
-- 47 (*pith/fs.FS).count
@[go_sem] def c47_0 : Cmd := .ops [⟨some 2, .assign (.const (.int .i64 0)), 29, none⟩]
@[go_sem] def c47_1 : Cmd := .ops [⟨some 3, .move (.tmp 0), 25, none⟩,
    ⟨some 4, .nilCheck (.tmp 3), 0, none⟩,
    ⟨some 5, .fieldAddr 86 (.tmp 4) 7, 0, none⟩,
    ⟨some 6, .load 3 (.tmp 5), 3, none⟩,
    ⟨some 7, .binOp .add 3 (.tmp 6) (.const (.int .i64 1)) 3, 3, none⟩,
    ⟨some 8, .nilCheck (.tmp 3), 0, none⟩,
    ⟨some 9, .fieldAddr 86 (.tmp 8) 7, 0, none⟩,
    ⟨none, .store 3 (.tmp 9) (.tmp 7), 0, none⟩]
@[go_sem] def c47_2 : Cmd := .ops [⟨some 10, .move (.tmp 0), 25, none⟩,
    ⟨some 11, .nilCheck (.tmp 10), 0, none⟩,
    ⟨some 12, .fieldAddr 86 (.tmp 11) 6, 0, none⟩,
    ⟨some 13, .load 3 (.tmp 12), 3, none⟩,
    ⟨some 14, .binOp .gtr 3 (.tmp 13) (.const (.int .i64 0)) 3, 4, none⟩]
@[go_sem] def c47_3 : Cmd := .ops [⟨some 15, .move (.tmp 0), 25, none⟩,
    ⟨some 16, .nilCheck (.tmp 15), 0, none⟩,
    ⟨some 17, .fieldAddr 86 (.tmp 16) 6, 0, none⟩,
    ⟨some 18, .load 3 (.tmp 17), 3, none⟩,
    ⟨some 19, .binOp .sub 3 (.tmp 18) (.const (.int .i64 1)) 3, 3, none⟩,
    ⟨some 20, .nilCheck (.tmp 15), 0, none⟩,
    ⟨some 21, .fieldAddr 86 (.tmp 20) 6, 0, none⟩,
    ⟨none, .store 3 (.tmp 21) (.tmp 19), 0, none⟩]
@[go_sem] def c47_4 : Cmd := .ops [⟨some 22, .move (.tmp 0), 25, none⟩,
    ⟨some 23, .nilCheck (.tmp 22), 0, none⟩,
    ⟨some 24, .fieldAddr 86 (.tmp 23) 6, 0, none⟩,
    ⟨some 25, .load 3 (.tmp 24), 3, none⟩,
    ⟨some 26, .binOp .eql 3 (.tmp 25) (.const (.int .i64 0)) 3, 4, none⟩]
@[go_sem] def c47_5 : Cmd := .ops [⟨some 27, .move (.tmp 0), 25, none⟩,
    ⟨some 28, .nilCheck (.tmp 27), 0, none⟩,
    ⟨some 29, .fieldAddr 86 (.tmp 28) 5, 0, none⟩,
    ⟨none, .store 4 (.tmp 29) (.const (.bool true)), 0, none⟩]
@[go_sem] def c47_6 : Cmd := .ops [⟨some 2, .assign (.const (.int .i64 81)), 29, none⟩]
@[go_sem] def c47_7 : Cmd := .cond (.tmp 26) (.seq c47_5 (.seq c47_6 .ret)) .skip
@[go_sem] def c47_8 : Cmd := .cond (.tmp 14) (.seq c47_3 (.seq c47_4 c47_7)) .skip
@[go_sem] def c47_9 : Cmd := .ops [⟨some 2, .assign (.const (.int .i64 0)), 29, none⟩]
@[go_sem] def c47 : Cmd := (.seq c47_0 (.seq c47_1 (.seq (.seq c47_2 c47_8) (.seq c47_9 .ret))))
theorem b47 : Tryd.f47.body.map (comp 30) = some c47 := by kernel_rfl
theorem r47 : Tryd.f47.results.toList = [.tmp 2] := by kernel_rfl
-- 48 (*pith/files.Writer).put
@[go_sem] def c48_0 : Cmd := .ops [⟨some 6, .assign (.const (.int .i64 0)), 29, none⟩]
@[go_sem] def c48_1 : Cmd := .ops [⟨some 10, .move (.tmp 1), 3, none⟩,
    ⟨some 11, .move (.tmp 2), 22, none⟩,
    ⟨some 12, .build 44 #[(0, (.tmp 10)), (1, (.tmp 11))], 44, none⟩,
    ⟨some 13, .call { callee := (.value (.func 74)), args := #[(.tmp 12)], argTypes := #[44] }, 36, none⟩,
    ⟨some 9, .move (.tmp 13), 36, none⟩,
    ⟨some 14, .extract (.tmp 9) 0, 22, none⟩,
    ⟨some 15, .extract (.tmp 9) 1, 29, none⟩,
    ⟨some 7, .assign (.tmp 14), 22, none⟩,
    ⟨some 8, .assign (.tmp 15), 29, none⟩]
@[go_sem] def c48_2 : Cmd := .ops [⟨some 16, .move (.tmp 8), 29, none⟩,
    ⟨some 17, .binOp .neq 29 (.tmp 16) (.const (.int .i64 0)) 29, 4, none⟩]
@[go_sem] def c48_3 : Cmd := .ops [⟨some 18, .move (.tmp 8), 29, none⟩,
    ⟨some 6, .assign (.tmp 18), 29, none⟩]
@[go_sem] def c48_4 : Cmd := .cond (.tmp 17) (.seq c48_3 .ret) .skip
@[go_sem] def c48_5 : Cmd := .still 9 [⟨some 19, .move (.tmp 0), 52, none⟩,
    ⟨some 20, .nilCheck (.tmp 19), 0, none⟩,
    ⟨some 21, .fieldAddr 103 (.tmp 20) 0, 0, none⟩,
    ⟨some 22, .load 25 (.tmp 21), 25, none⟩,
    ⟨some 23, .move (.tmp 0), 52, none⟩,
    ⟨some 24, .nilCheck (.tmp 23), 0, none⟩,
    ⟨some 25, .fieldAddr 103 (.tmp 24) 1, 0, none⟩,
    ⟨some 26, .load 9 (.tmp 25), 9, none⟩,
    ⟨some 27, .move (.tmp 7), 22, none⟩,
    ⟨some 28, .call { callee := (.value (.func 23)), args := #[(.tmp 22), (.tmp 26), (.tmp 27)], argTypes := #[25, 9, 22] }, 29, none⟩,
    ⟨some 8, .assign (.tmp 28), 29, none⟩]
@[go_sem] def c48_6 : Cmd := .ops [⟨some 29, .move (.tmp 8), 29, none⟩,
    ⟨some 30, .binOp .neq 29 (.tmp 29) (.const (.int .i64 0)) 29, 4, none⟩]
@[go_sem] def c48_7 : Cmd := .ops [⟨some 31, .move (.tmp 0), 52, none⟩,
    ⟨some 32, .nilCheck (.tmp 31), 0, none⟩,
    ⟨some 33, .fieldAddr 103 (.tmp 32) 5, 0, none⟩,
    ⟨none, .store 4 (.tmp 33) (.const (.bool true)), 0, none⟩]
@[go_sem] def c48_8 : Cmd := .ops [⟨some 34, .move (.tmp 8), 29, none⟩,
    ⟨some 6, .assign (.tmp 34), 29, none⟩]
@[go_sem] def c48_9 : Cmd := .cond (.tmp 30) (.seq c48_7 (.seq c48_8 .ret)) .skip
@[go_sem] def c48_10 : Cmd := .ops [⟨some 35, .move (.tmp 0), 52, none⟩,
    ⟨some 36, .nilCheck (.tmp 35), 0, none⟩,
    ⟨some 37, .fieldAddr 103 (.tmp 36) 2, 0, none⟩,
    ⟨some 38, .load 3 (.tmp 37), 3, none⟩,
    ⟨some 39, .move (.tmp 7), 22, none⟩,
    ⟨some 40, .call { callee := (.builtin .len), args := #[(.tmp 39)], argTypes := #[22] }, 3, none⟩,
    ⟨some 41, .binOp .add 3 (.tmp 38) (.tmp 40) 3, 3, none⟩,
    ⟨some 42, .nilCheck (.tmp 35), 0, none⟩,
    ⟨some 43, .fieldAddr 103 (.tmp 42) 2, 0, none⟩,
    ⟨none, .store 3 (.tmp 43) (.tmp 41), 0, none⟩]
@[go_sem] def c48_11 : Cmd := .ops [⟨some 44, .move (.tmp 1), 3, none⟩,
    ⟨some 45, .binOp .neq 3 (.tmp 44) (.const (.int .i64 3)) 3, 4, none⟩]
@[go_sem] def c48_12 : Cmd := .ops [⟨some 46, .move (.tmp 0), 52, none⟩,
    ⟨some 47, .move (.tmp 0), 52, none⟩,
    ⟨some 48, .nilCheck (.tmp 47), 0, none⟩,
    ⟨some 49, .fieldAddr 103 (.tmp 48) 3, 0, none⟩,
    ⟨some 50, .load 46 (.tmp 49), 46, none⟩,
    ⟨some 51, .move (.tmp 2), 22, none⟩,
    ⟨some 52, .call { callee := (.value (.func 75)), args := #[(.tmp 50), (.tmp 51)], argTypes := #[46, 22] }, 46, none⟩,
    ⟨some 53, .nilCheck (.tmp 46), 0, none⟩,
    ⟨some 54, .fieldAddr 103 (.tmp 53) 3, 0, none⟩,
    ⟨none, .store 46 (.tmp 54) (.tmp 52), 0, none⟩]
@[go_sem] def c48_13 : Cmd := .cond (.tmp 45) c48_12 .skip
@[go_sem] def c48_14 : Cmd := .ops [⟨some 6, .assign (.const (.int .i64 0)), 29, none⟩]
@[go_sem] def c48 : Cmd := (.seq c48_0 (.seq c48_1 (.seq (.seq c48_2 c48_4) (.seq (.seq c48_5 (.seq c48_6 c48_9)) (.seq c48_10 (.seq (.seq c48_11 c48_13) (.seq c48_14 .ret)))))))
theorem b48 : Tryd.f48.body.map (comp 55) = some c48 := by kernel_rfl
theorem r48 : Tryd.f48.results.toList = [.tmp 6] := by kernel_rfl
-- 49 pith/files.four
@[go_sem] def c49_0 : Cmd := .ops [⟨some 2, .assign (.const (.slice none 0 0)), 22, none⟩]
@[go_sem] def c49_1 : Cmd := .ops [⟨some 3, .move (.tmp 0), 3, none⟩,
    ⟨some 4, .binOp .shr 3 (.tmp 3) (.const (.int .u64 24)) 50, 3, none⟩,
    ⟨some 5, .convert 3 5 (.tmp 4), 5, none⟩,
    ⟨some 6, .move (.tmp 0), 3, none⟩,
    ⟨some 7, .binOp .shr 3 (.tmp 6) (.const (.int .u64 16)) 50, 3, none⟩,
    ⟨some 8, .convert 3 5 (.tmp 7), 5, none⟩,
    ⟨some 9, .move (.tmp 0), 3, none⟩,
    ⟨some 10, .binOp .shr 3 (.tmp 9) (.const (.int .u64 8)) 50, 3, none⟩,
    ⟨some 11, .convert 3 5 (.tmp 10), 5, none⟩,
    ⟨some 12, .move (.tmp 0), 3, none⟩,
    ⟨some 13, .convert 3 5 (.tmp 12), 5, none⟩,
    ⟨some 14, .buildSlice 22 4 #[(0, (.tmp 5)), (1, (.tmp 8)), (2, (.tmp 11)), (3, (.tmp 13))], 22, none⟩,
    ⟨some 2, .assign (.tmp 14), 22, none⟩]
@[go_sem] def c49 : Cmd := (.seq c49_0 (.seq c49_1 .ret))
theorem b49 : Tryd.f49.body.map (comp 15) = some c49 := by kernel_rfl
theorem r49 : Tryd.f49.results.toList = [.tmp 2] := by kernel_rfl
-- 50 (*pith/fs.FS).Sync
@[go_sem] def c50_0 : Cmd := .ops [⟨some 4, .assign (.const (.int .i64 0)), 29, none⟩]
@[go_sem] def c50_1 : Cmd := .ops [⟨some 8, .move (.tmp 0), 25, none⟩,
    ⟨some 9, .move (.tmp 1), 9, none⟩,
    ⟨some 10, .call { callee := (.value (.func 41)), args := #[(.tmp 8), (.tmp 9)], argTypes := #[25, 9] }, 91, none⟩,
    ⟨some 7, .move (.tmp 10), 91, none⟩,
    ⟨some 11, .extract (.tmp 7) 0, 90, none⟩,
    ⟨some 12, .extract (.tmp 7) 1, 29, none⟩,
    ⟨some 5, .assign (.tmp 11), 90, none⟩,
    ⟨some 6, .assign (.tmp 12), 29, none⟩]
@[go_sem] def c50_2 : Cmd := .ops [⟨some 13, .move (.tmp 6), 29, none⟩,
    ⟨some 14, .binOp .neq 29 (.tmp 13) (.const (.int .i64 0)) 29, 4, none⟩]
@[go_sem] def c50_3 : Cmd := .ops [⟨some 15, .move (.tmp 6), 29, none⟩,
    ⟨some 4, .assign (.tmp 15), 29, none⟩]
@[go_sem] def c50_4 : Cmd := .cond (.tmp 14) (.seq c50_3 .ret) .skip
@[go_sem] def c50_5 : Cmd := .ops [⟨some 16, .move (.tmp 0), 25, none⟩,
    ⟨some 17, .call { callee := (.value (.func 47)), args := #[(.tmp 16)], argTypes := #[25] }, 29, none⟩,
    ⟨some 6, .assign (.tmp 17), 29, none⟩]
@[go_sem] def c50_6 : Cmd := .ops [⟨some 18, .move (.tmp 6), 29, none⟩,
    ⟨some 19, .binOp .eql 29 (.tmp 18) (.const (.int .i64 0)) 29, 4, none⟩]
@[go_sem] def c50_7 : Cmd := .ops [⟨some 20, .move (.tmp 5), 90, none⟩,
    ⟨some 21, .move (.tmp 5), 90, none⟩,
    ⟨some 22, .nilCheck (.tmp 21), 0, none⟩,
    ⟨some 23, .fieldAddr 94 (.tmp 22) 0, 0, none⟩,
    ⟨some 24, .load 22 (.tmp 23), 22, none⟩,
    ⟨some 25, .call { callee := (.builtin .len), args := #[(.tmp 24)], argTypes := #[22] }, 3, none⟩,
    ⟨some 26, .nilCheck (.tmp 20), 0, none⟩,
    ⟨some 27, .fieldAddr 94 (.tmp 26) 1, 0, none⟩,
    ⟨none, .store 3 (.tmp 27) (.tmp 25), 0, none⟩]
@[go_sem] def c50_8 : Cmd := .cond (.tmp 19) c50_7 .skip
@[go_sem] def c50_9 : Cmd := .ops [⟨some 28, .move (.tmp 6), 29, none⟩,
    ⟨some 4, .assign (.tmp 28), 29, none⟩]
@[go_sem] def c50 : Cmd := (.seq c50_0 (.seq c50_1 (.seq (.seq c50_2 c50_4) (.seq (.seq c50_5 (.seq c50_6 c50_8)) (.seq c50_9 .ret)))))
theorem b50 : Tryd.f50.body.map (comp 29) = some c50 := by kernel_rfl
theorem r50 : Tryd.f50.results.toList = [.tmp 4] := by kernel_rfl
-- 51 pith/pithref.Bytes
@[go_sem] def c51_0 : Cmd := .ops [⟨some 2, .assign (.const (.slice none 0 0)), 22, none⟩]
@[go_sem] def c51_1 : Cmd := .ops [⟨some 3, .move (.tmp 0), 22, none⟩,
    ⟨some 4, .call { callee := (.builtin .len), args := #[(.tmp 3)], argTypes := #[22] }, 3, none⟩,
    ⟨some 5, .makeSlice 22 (.const (.int .i64 0)) (.tmp 4), 22, none⟩,
    ⟨some 6, .move (.tmp 0), 22, none⟩,
    ⟨some 7, .call { callee := (.builtin .append), args := #[(.tmp 5), (.tmp 6)], argTypes := #[22, 22] }, 22, none⟩,
    ⟨some 2, .assign (.tmp 7), 22, none⟩]
@[go_sem] def c51 : Cmd := (.seq c51_0 (.seq c51_1 .ret))
theorem b51 : Tryd.f51.body.map (comp 8) = some c51 := by kernel_rfl
theorem r51 : Tryd.f51.results.toList = [.tmp 2] := by kernel_rfl
-- 52 pith/pithref2.Sum
@[go_sem] def c52_0 : Cmd := .ops [⟨some 2, .assign (.const (.int .u32 0)), 46, none⟩]
@[go_sem] def c52_1 : Cmd := .ops [⟨some 3, .move (.tmp 0), 22, none⟩,
    ⟨some 4, .call { callee := (.value (.func 76)), args := #[(.const (.int .u32 0)), (.tmp 3)], argTypes := #[46, 22] }, 46, none⟩,
    ⟨some 2, .assign (.tmp 4), 46, none⟩]
@[go_sem] def c52 : Cmd := (.seq c52_0 (.seq c52_1 .ret))
theorem b52 : Tryd.f52.body.map (comp 5) = some c52 := by kernel_rfl
theorem r52 : Tryd.f52.results.toList = [.tmp 2] := by kernel_rfl
-- 53 pith/files.All$1
@[go_sem] def c53_0 : Cmd := .ops [⟨some 3, .box 107 (.tmp 0), 0, none⟩]
@[go_sem] def c53_1 : Cmd := .ops [⟨some 10, .load 25 (.tmp 1), 25, none⟩,
    ⟨some 11, .load 9 (.tmp 2), 9, none⟩,
    ⟨some 12, .call { callee := (.value (.func 39)), args := #[(.tmp 10), (.tmp 11)], argTypes := #[25, 9] }, 79, none⟩,
    ⟨some 9, .move (.tmp 12), 79, none⟩,
    ⟨some 13, .extract (.tmp 9) 0, 78, none⟩,
    ⟨some 14, .extract (.tmp 9) 1, 22, none⟩,
    ⟨some 15, .extract (.tmp 9) 2, 29, none⟩,
    ⟨some 4, .assign (.tmp 13), 78, none⟩,
    ⟨some 5, .assign (.tmp 14), 22, none⟩,
    ⟨some 6, .assign (.tmp 15), 29, none⟩]
@[go_sem] def c53_2 : Cmd := .ops [⟨some 16, .move (.tmp 6), 29, none⟩,
    ⟨some 17, .binOp .neq 29 (.tmp 16) (.const (.int .i64 0)) 29, 4, none⟩]
@[go_sem] def c53_3 : Cmd := .cond (.tmp 17) .ret .skip
@[go_sem] def c53_4 : Cmd := .ops [⟨some 18, .move (.tmp 4), 78, none⟩,
    ⟨some 19, .call { callee := (.value (.func 40)), args := #[(.tmp 18)], argTypes := #[78] }, 88, none⟩]
@[go_sem] def c53_5 : Cmd := .ops [⟨some 7, .assign (.tmp 20), 22, none⟩]
@[go_sem] def c53_6 : Cmd := .ops [⟨some 8, .assign (.tmp 21), 29, none⟩]
def c53_L0 : Cmd := (.seq c53_5 c53_6)
@[go_sem] def c53_7 : Cmd := .ops [⟨some 22, .move (.tmp 8), 29, none⟩,
    ⟨some 23, .binOp .neq 29 (.tmp 22) (.const (.int .i64 0)) 29, 4, none⟩,
    ⟨some 24, .move (.tmp 23), 4, none⟩,
    ⟨some 25, .load 107 (.tmp 3), 107, some (24, false)⟩,
    ⟨some 26, .move (.tmp 7), 22, some (24, false)⟩,
    ⟨some 27, .call { callee := (.value (.tmp 25)), args := #[(.tmp 26)], argTypes := #[22] }, 4, some (24, false)⟩,
    ⟨some 28, .unOp .not 4 (.tmp 27), 4, some (24, false)⟩,
    ⟨some 29, .pick (.tmp 24) (.const (.bool true)) (.tmp 28), 4, none⟩]
@[go_sem] def c53_8 : Cmd := .cond (.tmp 29) .ret .skip
@[go_sem] def c53_9 : Cmd := .block 1 (.seq c53_7 c53_8)
def c53_L1 : Cmd := c53_9
@[go_sem] def c53_10 : Cmd := .rangeF (.tmp 19) #[20, 21] c53_L0 c53_L1
@[go_sem] def c53_11 : Cmd := .block 0 c53_10
@[go_sem] def c53 : Cmd := (.seq c53_0 (.seq c53_1 (.seq (.seq c53_2 c53_3) (.seq c53_4 c53_11))))
theorem b53 : Tryd.f53.body.map (comp 30) = some c53 := by kernel_rfl
theorem r53 : Tryd.f53.results.toList = [] := by kernel_rfl
-- 54 pith/fs.isName
@[go_sem] def c54_0 : Cmd := .ops [⟨some 2, .assign (.const (.bool false)), 4, none⟩]
@[go_sem] def c54_1 : Cmd := .ops [⟨some 5, .move (.tmp 0), 9, none⟩,
    ⟨some 6, .call { callee := (.builtin .len), args := #[(.tmp 5)], argTypes := #[9] }, 3, none⟩,
    ⟨some 7, .binOp .lss 3 (.tmp 6) (.const (.int .i64 1)) 3, 4, none⟩,
    ⟨some 8, .move (.tmp 7), 4, none⟩,
    ⟨some 9, .move (.tmp 0), 9, some (8, false)⟩,
    ⟨some 10, .call { callee := (.builtin .len), args := #[(.tmp 9)], argTypes := #[9] }, 3, some (8, false)⟩,
    ⟨some 11, .binOp .gtr 3 (.tmp 10) (.const (.int .i64 64)) 3, 4, some (8, false)⟩,
    ⟨some 12, .pick (.tmp 8) (.const (.bool true)) (.tmp 11), 4, none⟩]
@[go_sem] def c54_2 : Cmd := .ops [⟨some 2, .assign (.const (.bool false)), 4, none⟩]
@[go_sem] def c54_3 : Cmd := .cond (.tmp 12) (.seq c54_2 .ret) .skip
@[go_sem] def c54_4 : Cmd := .ops [⟨some 13, .move (.tmp 0), 9, none⟩,
    ⟨some 14, .call { callee := (.builtin .len), args := #[(.tmp 13)], argTypes := #[9] }, 3, none⟩,
    ⟨some 15, .move (.const (.int .i64 0)), 3, none⟩]
@[go_sem] def c54_5 : Cmd := .ops [⟨some 16, .binOp .lss 3 (.tmp 15) (.tmp 14) 3, 4, none⟩]
@[go_sem] def c54_6 : Cmd := .cond (.tmp 16) .skip (.exit 0)
@[go_sem] def c54_7 : Cmd := .ops [⟨some 17, .move (.tmp 15), 3, none⟩,
    ⟨some 3, .assign (.tmp 17), 3, none⟩]
@[go_sem] def c54_8 : Cmd := .ops [⟨some 18, .move (.tmp 0), 9, none⟩,
    ⟨some 19, .move (.tmp 3), 3, none⟩,
    ⟨some 20, .index 9 (.tmp 18) (.tmp 19), 5, none⟩,
    ⟨some 4, .assign (.tmp 20), 5, none⟩]
@[go_sem] def c54_9 : Cmd := .ops [⟨some 21, .move (.tmp 4), 5, none⟩,
    ⟨some 22, .binOp .neq 5 (.tmp 21) (.const (.int .u8 46)) 5, 4, none⟩,
    ⟨some 23, .move (.tmp 22), 4, none⟩,
    ⟨some 24, .move (.tmp 4), 5, some (23, true)⟩,
    ⟨some 25, .binOp .lss 5 (.tmp 24) (.const (.int .u8 97)) 5, 4, some (23, true)⟩,
    ⟨some 26, .move (.tmp 25), 4, some (23, true)⟩,
    ⟨some 27, .move (.tmp 4), 5, some (26, false)⟩,
    ⟨some 28, .binOp .gtr 5 (.tmp 27) (.const (.int .u8 122)) 5, 4, some (26, false)⟩,
    ⟨some 29, .pick (.tmp 26) (.const (.bool true)) (.tmp 28), 4, some (23, true)⟩,
    ⟨some 30, .pick (.tmp 23) (.tmp 29) (.const (.bool false)), 4, none⟩,
    ⟨some 31, .move (.tmp 30), 4, none⟩,
    ⟨some 32, .move (.tmp 4), 5, some (31, true)⟩,
    ⟨some 33, .binOp .lss 5 (.tmp 32) (.const (.int .u8 48)) 5, 4, some (31, true)⟩,
    ⟨some 34, .move (.tmp 33), 4, some (31, true)⟩,
    ⟨some 35, .move (.tmp 4), 5, some (34, false)⟩,
    ⟨some 36, .binOp .gtr 5 (.tmp 35) (.const (.int .u8 57)) 5, 4, some (34, false)⟩,
    ⟨some 37, .pick (.tmp 34) (.const (.bool true)) (.tmp 36), 4, some (31, true)⟩,
    ⟨some 38, .pick (.tmp 31) (.tmp 37) (.const (.bool false)), 4, none⟩]
@[go_sem] def c54_10 : Cmd := .ops [⟨some 2, .assign (.const (.bool false)), 4, none⟩]
@[go_sem] def c54_11 : Cmd := .cond (.tmp 38) (.seq c54_10 .ret) .skip
@[go_sem] def c54_12 : Cmd := .block 1 (.seq c54_7 (.seq c54_8 (.seq c54_9 c54_11)))
@[go_sem] def c54_13 : Cmd := .ops [⟨some 39, .binOp .add 3 (.tmp 15) (.const (.int .i64 1)) 3, 3, none⟩,
    ⟨some 15, .move (.tmp 39), 3, none⟩]
def c54_L0 : Cmd := (.seq c54_5 (.seq c54_6 (.seq c54_12 c54_13)))
@[go_sem] def c54_14 : Cmd := .loop c54_L0
@[go_sem] def c54_15 : Cmd := .block 0 c54_14
@[go_sem] def c54_16 : Cmd := .ops [⟨some 2, .assign (.const (.bool true)), 4, none⟩]
@[go_sem] def c54 : Cmd := (.seq c54_0 (.seq (.seq c54_1 c54_3) (.seq (.seq c54_4 c54_15) (.seq c54_16 .ret))))
theorem b54 : Tryd.f54.body.map (comp 40) = some c54 := by kernel_rfl
theorem r54 : Tryd.f54.results.toList = [.tmp 2] := by kernel_rfl
-- 55 pith/files.there
@[go_sem] def c55_0 : Cmd := .ops [⟨some 4, .assign (.const (.bool false)), 4, none⟩]
@[go_sem] def c55_1 : Cmd := .ops [⟨some 8, .move (.tmp 0), 25, none⟩,
    ⟨some 9, .move (.tmp 1), 9, none⟩,
    ⟨some 10, .call { callee := (.value (.func 16)), args := #[(.tmp 8), (.tmp 9)], argTypes := #[25, 9] }, 34, none⟩,
    ⟨some 7, .move (.tmp 10), 34, none⟩,
    ⟨some 11, .extract (.tmp 7) 0, 3, none⟩,
    ⟨some 12, .extract (.tmp 7) 1, 29, none⟩,
    ⟨some 5, .assign (.tmp 11), 3, none⟩,
    ⟨some 6, .assign (.tmp 12), 29, none⟩]
@[go_sem] def c55_2 : Cmd := .ops [⟨some 13, .move (.tmp 6), 29, none⟩,
    ⟨some 14, .binOp .eql 29 (.tmp 13) (.const (.int .i64 0)) 29, 4, none⟩,
    ⟨some 4, .assign (.tmp 14), 4, none⟩]
@[go_sem] def c55 : Cmd := (.seq c55_0 (.seq c55_1 (.seq c55_2 .ret)))
theorem b55 : Tryd.f55.body.map (comp 15) = some c55 := by kernel_rfl
theorem r55 : Tryd.f55.results.toList = [.tmp 4] := by kernel_rfl
-- 56 pith/files.Publish$1
@[go_sem] def c56_0 : Cmd := .ops [⟨some 4, .assign (.const (.int .i64 0)), 29, none⟩]
@[go_sem] def c56_1 : Cmd := .ops [⟨some 6, .load 25 (.tmp 0), 25, none⟩,
    ⟨some 7, .load 9 (.tmp 1), 9, none⟩,
    ⟨some 8, .load 22 (.tmp 2), 22, none⟩,
    ⟨some 9, .call { callee := (.value (.func 24)), args := #[(.tmp 6), (.tmp 7), (.tmp 8)], argTypes := #[25, 9, 22] }, 53, none⟩,
    ⟨some 5, .move (.tmp 9), 53, none⟩,
    ⟨some 10, .extract (.tmp 5) 0, 52, none⟩,
    ⟨some 11, .extract (.tmp 5) 1, 29, none⟩,
    ⟨none, .store 52 (.tmp 3) (.tmp 10), 0, none⟩,
    ⟨some 4, .assign (.tmp 11), 29, none⟩]
@[go_sem] def c56_2 : Cmd := .ops [⟨some 12, .move (.tmp 4), 29, none⟩,
    ⟨some 4, .assign (.tmp 12), 29, none⟩]
@[go_sem] def c56 : Cmd := (.seq c56_0 (.seq c56_1 (.seq c56_2 .ret)))
theorem b56 : Tryd.f56.body.map (comp 13) = some c56 := by kernel_rfl
theorem r56 : Tryd.f56.results.toList = [.tmp 4] := by kernel_rfl
-- 57 pith/files.Publish$2
@[go_sem] def c57_0 : Cmd := .ops [⟨some 2, .assign (.const (.int .i64 0)), 29, none⟩]
@[go_sem] def c57_1 : Cmd := .ops [⟨some 3, .load 52 (.tmp 0), 52, none⟩,
    ⟨some 4, .load 22 (.tmp 1), 22, none⟩,
    ⟨some 5, .call { callee := (.value (.func 25)), args := #[(.tmp 3), (.tmp 4)], argTypes := #[52, 22] }, 29, none⟩,
    ⟨some 2, .assign (.tmp 5), 29, none⟩]
@[go_sem] def c57 : Cmd := (.seq c57_0 (.seq c57_1 .ret))
theorem b57 : Tryd.f57.body.map (comp 6) = some c57 := by kernel_rfl
theorem r57 : Tryd.f57.results.toList = [.tmp 2] := by kernel_rfl
-- 58 pith/files.Publish$3
@[go_sem] def c58_0 : Cmd := .ops [⟨some 1, .assign (.const (.int .i64 0)), 29, none⟩]
@[go_sem] def c58_1 : Cmd := .ops [⟨some 3, .load 52 (.tmp 0), 52, none⟩,
    ⟨some 4, .call { callee := (.value (.func 26)), args := #[(.tmp 3), (.const (.bool true))], argTypes := #[52, 4] }, 56, none⟩,
    ⟨some 2, .move (.tmp 4), 56, none⟩,
    ⟨some 5, .extract (.tmp 2) 0, 3, none⟩,
    ⟨some 6, .extract (.tmp 2) 1, 46, none⟩,
    ⟨some 7, .extract (.tmp 2) 2, 29, none⟩,
    ⟨some 1, .assign (.tmp 7), 29, none⟩]
@[go_sem] def c58_2 : Cmd := .ops [⟨some 8, .move (.tmp 1), 29, none⟩,
    ⟨some 1, .assign (.tmp 8), 29, none⟩]
@[go_sem] def c58 : Cmd := (.seq c58_0 (.seq c58_1 (.seq c58_2 .ret)))
theorem b58 : Tryd.f58.body.map (comp 9) = some c58 := by kernel_rfl
theorem r58 : Tryd.f58.results.toList = [.tmp 1] := by kernel_rfl
-- 59 pith/files.Publish$4
@[go_sem] def c59_0 : Cmd := .ops [⟨some 3, .assign (.const (.int .i64 0)), 29, none⟩]
@[go_sem] def c59_1 : Cmd := .ops [⟨some 4, .load 25 (.tmp 0), 25, none⟩,
    ⟨some 5, .load 9 (.tmp 1), 9, none⟩,
    ⟨some 6, .load 9 (.tmp 2), 9, none⟩,
    ⟨some 7, .call { callee := (.value (.func 60)), args := #[(.tmp 4), (.tmp 5), (.tmp 6)], argTypes := #[25, 9, 9] }, 29, none⟩,
    ⟨some 3, .assign (.tmp 7), 29, none⟩]
@[go_sem] def c59 : Cmd := (.seq c59_0 (.seq c59_1 .ret))
theorem b59 : Tryd.f59.body.map (comp 8) = some c59 := by kernel_rfl
theorem r59 : Tryd.f59.results.toList = [.tmp 3] := by kernel_rfl
-- 60 (*pith/fs.FS).Rename
@[go_sem] def c60_0 : Cmd := .ops [⟨some 6, .assign (.const (.int .i64 0)), 29, none⟩]
@[go_sem] def c60_1 : Cmd := .ops [⟨some 9, .move (.tmp 0), 25, none⟩,
    ⟨some 10, .move (.tmp 1), 9, none⟩,
    ⟨some 11, .move (.tmp 2), 9, none⟩,
    ⟨some 12, .buildSlice 65 2 #[(0, (.tmp 10)), (1, (.tmp 11))], 65, none⟩,
    ⟨some 13, .call { callee := (.value (.func 44)), args := #[(.tmp 9), (.tmp 12)], argTypes := #[25, 65] }, 29, none⟩,
    ⟨some 7, .assign (.tmp 13), 29, none⟩]
@[go_sem] def c60_2 : Cmd := .ops [⟨some 14, .move (.tmp 7), 29, none⟩,
    ⟨some 15, .binOp .neq 29 (.tmp 14) (.const (.int .i64 0)) 29, 4, none⟩]
@[go_sem] def c60_3 : Cmd := .ops [⟨some 16, .move (.tmp 7), 29, none⟩,
    ⟨some 6, .assign (.tmp 16), 29, none⟩]
@[go_sem] def c60_4 : Cmd := .cond (.tmp 15) (.seq c60_3 .ret) .skip
@[go_sem] def c60_5 : Cmd := .ops [⟨some 17, .move (.tmp 0), 25, none⟩,
    ⟨some 18, .nilCheck (.tmp 17), 0, none⟩,
    ⟨some 19, .fieldAddr 86 (.tmp 18) 1, 0, none⟩,
    ⟨some 20, .load 82 (.tmp 19), 82, none⟩,
    ⟨some 21, .move (.tmp 1), 9, none⟩,
    ⟨some 22, .lookup 82 (.tmp 20) (.tmp 21) false, 90, none⟩,
    ⟨some 8, .assign (.tmp 22), 90, none⟩]
@[go_sem] def c60_6 : Cmd := .ops [⟨some 23, .move (.tmp 8), 90, none⟩,
    ⟨some 24, .binOp .eql 90 (.tmp 23) (.const (.pointer none)) 90, 4, none⟩]
@[go_sem] def c60_7 : Cmd := .ops [⟨some 6, .assign (.const (.int .i64 82)), 29, none⟩]
@[go_sem] def c60_8 : Cmd := .cond (.tmp 24) (.seq c60_7 .ret) .skip
@[go_sem] def c60_9 : Cmd := .ops [⟨some 25, .move (.tmp 0), 25, none⟩,
    ⟨some 26, .move (.tmp 8), 90, none⟩,
    ⟨some 27, .move (.tmp 2), 9, none⟩,
    ⟨some 28, .call { callee := (.value (.func 45)), args := #[(.tmp 25), (.tmp 26), (.tmp 27)], argTypes := #[25, 90, 9] }, 29, none⟩,
    ⟨some 6, .assign (.tmp 28), 29, none⟩]
@[go_sem] def c60 : Cmd := (.seq c60_0 (.seq (.seq c60_1 (.seq c60_2 c60_4)) (.seq c60_5 (.seq (.seq c60_6 c60_8) (.seq c60_9 .ret)))))
theorem b60 : Tryd.f60.body.map (comp 29) = some c60 := by kernel_rfl
theorem r60 : Tryd.f60.results.toList = [.tmp 6] := by kernel_rfl
-- 61 (*pith/fs.FS).SyncDir
@[go_sem] def c61_0 : Cmd := .ops [⟨some 2, .assign (.const (.int .i64 0)), 29, none⟩]
@[go_sem] def c61_1 : Cmd := .ops [⟨some 4, .move (.tmp 0), 25, none⟩,
    ⟨some 5, .nilCheck (.tmp 4), 0, none⟩,
    ⟨some 6, .fieldAddr 86 (.tmp 5) 5, 0, none⟩,
    ⟨some 7, .load 4 (.tmp 6), 4, none⟩]
@[go_sem] def c61_2 : Cmd := .ops [⟨some 2, .assign (.const (.int .i64 81)), 29, none⟩]
@[go_sem] def c61_3 : Cmd := .cond (.tmp 7) (.seq c61_2 .ret) .skip
@[go_sem] def c61_4 : Cmd := .ops [⟨some 8, .move (.tmp 0), 25, none⟩,
    ⟨some 9, .call { callee := (.value (.func 47)), args := #[(.tmp 8)], argTypes := #[25] }, 29, none⟩,
    ⟨some 3, .assign (.tmp 9), 29, none⟩]
@[go_sem] def c61_5 : Cmd := .ops [⟨some 10, .move (.tmp 3), 29, none⟩,
    ⟨some 11, .binOp .eql 29 (.tmp 10) (.const (.int .i64 0)) 29, 4, none⟩]
@[go_sem] def c61_6 : Cmd := .ops [⟨some 12, .move (.tmp 0), 25, none⟩,
    ⟨some 13, .call { callee := (.value (.func 68)), args := #[(.tmp 12)], argTypes := #[25] }, 0, none⟩]
@[go_sem] def c61_7 : Cmd := .cond (.tmp 11) c61_6 .skip
@[go_sem] def c61_8 : Cmd := .ops [⟨some 14, .move (.tmp 3), 29, none⟩,
    ⟨some 2, .assign (.tmp 14), 29, none⟩]
@[go_sem] def c61 : Cmd := (.seq c61_0 (.seq (.seq c61_1 c61_3) (.seq c61_4 (.seq (.seq c61_5 c61_7) (.seq c61_8 .ret)))))
theorem b61 : Tryd.f61.body.map (comp 15) = some c61 := by kernel_rfl
theorem r61 : Tryd.f61.results.toList = [.tmp 2] := by kernel_rfl
-- 62 (*pith/fs.FS).Remove
@[go_sem] def c62_0 : Cmd := .ops [⟨some 4, .assign (.const (.int .i64 0)), 29, none⟩]
@[go_sem] def c62_1 : Cmd := .ops [⟨some 8, .move (.tmp 0), 25, none⟩,
    ⟨some 9, .move (.tmp 1), 9, none⟩,
    ⟨some 10, .call { callee := (.value (.func 41)), args := #[(.tmp 8), (.tmp 9)], argTypes := #[25, 9] }, 91, none⟩,
    ⟨some 7, .move (.tmp 10), 91, none⟩,
    ⟨some 11, .extract (.tmp 7) 0, 90, none⟩,
    ⟨some 12, .extract (.tmp 7) 1, 29, none⟩,
    ⟨some 5, .assign (.tmp 11), 90, none⟩,
    ⟨some 6, .assign (.tmp 12), 29, none⟩]
@[go_sem] def c62_2 : Cmd := .ops [⟨some 13, .move (.tmp 6), 29, none⟩,
    ⟨some 14, .binOp .neq 29 (.tmp 13) (.const (.int .i64 0)) 29, 4, none⟩]
@[go_sem] def c62_3 : Cmd := .ops [⟨some 15, .move (.tmp 6), 29, none⟩,
    ⟨some 4, .assign (.tmp 15), 29, none⟩]
@[go_sem] def c62_4 : Cmd := .cond (.tmp 14) (.seq c62_3 .ret) .skip
@[go_sem] def c62_5 : Cmd := .ops [⟨some 16, .move (.tmp 0), 25, none⟩,
    ⟨some 17, .move (.tmp 5), 90, none⟩,
    ⟨some 18, .call { callee := (.value (.func 45)), args := #[(.tmp 16), (.tmp 17), (.const (.string ⟨#[]⟩))], argTypes := #[25, 90, 9] }, 29, none⟩,
    ⟨some 4, .assign (.tmp 18), 29, none⟩]
@[go_sem] def c62 : Cmd := (.seq c62_0 (.seq c62_1 (.seq (.seq c62_2 c62_4) (.seq c62_5 .ret))))
theorem b62 : Tryd.f62.body.map (comp 19) = some c62 := by kernel_rfl
theorem r62 : Tryd.f62.results.toList = [.tmp 4] := by kernel_rfl
-- 65 pith/pithref.File
@[go_sem] def c65_0 : Cmd := .ops [⟨some 1, .box 117 (.tmp 0), 0, none⟩,
    ⟨some 2, .alloc 117, 0, none⟩]
@[go_sem] def c65_1 : Cmd := .draw (.step 3 ⟨some 3, .fieldAddr 117 (.tmp 1) 0, 0, none⟩
    (.step 0 ⟨some 4, .load 9 (.tmp 3), 9, none⟩
    (.step 3 ⟨some 5, .fieldAddr 117 (.tmp 1) 1, 0, none⟩
    (.step 0 ⟨some 6, .load 22 (.tmp 5), 22, none⟩
    (.step 1 ⟨some 7, .call { callee := (.value (.func 51)), args := #[(.tmp 6)], argTypes := #[22] }, 22, none⟩
    (.step 3 ⟨some 8, .build 117 #[(0, (.tmp 4)), (1, (.tmp 7))], 117, none⟩
    (.step 2 ⟨none, .store 117 (.tmp 2) (.tmp 8), 0, none⟩
    .done)))))))
@[go_sem] def c65 : Cmd := (.seq c65_0 (.seq c65_1 .ret))
theorem b65 : Tryd.f65.body.map (comp 9) = some c65 := by kernel_rfl
theorem r65 : Tryd.f65.results.toList = [.cell 2 117] := by kernel_rfl
-- 66 pith/pithref.SameFile
@[go_sem] def c66_0 : Cmd := .ops [⟨some 2, .box 117 (.tmp 0), 0, none⟩,
    ⟨some 3, .box 117 (.tmp 1), 0, none⟩,
    ⟨some 4, .assign (.const (.bool false)), 4, none⟩]
@[go_sem] def c66_1 : Cmd := .ops [⟨some 6, .fieldAddr 117 (.tmp 2) 1, 0, none⟩,
    ⟨some 7, .load 22 (.tmp 6), 22, none⟩,
    ⟨some 8, .fieldAddr 117 (.tmp 3) 1, 0, none⟩,
    ⟨some 9, .load 22 (.tmp 8), 22, none⟩,
    ⟨some 10, .call { callee := (.value (.func 14)), args := #[(.tmp 7), (.tmp 9)], argTypes := #[22, 22] }, 4, none⟩,
    ⟨some 5, .assign (.tmp 10), 4, none⟩]
@[go_sem] def c66_2 : Cmd := .ops [⟨some 11, .move (.tmp 5), 4, none⟩,
    ⟨some 12, .move (.tmp 11), 4, none⟩,
    ⟨some 13, .fieldAddr 117 (.tmp 2) 0, 0, some (12, true)⟩,
    ⟨some 14, .load 9 (.tmp 13), 9, some (12, true)⟩,
    ⟨some 15, .fieldAddr 117 (.tmp 3) 0, 0, some (12, true)⟩,
    ⟨some 16, .load 9 (.tmp 15), 9, some (12, true)⟩,
    ⟨some 17, .binOp .eql 9 (.tmp 14) (.tmp 16) 9, 4, some (12, true)⟩,
    ⟨some 18, .pick (.tmp 12) (.tmp 17) (.const (.bool false)), 4, none⟩,
    ⟨some 4, .assign (.tmp 18), 4, none⟩]
@[go_sem] def c66 : Cmd := (.seq c66_0 (.seq c66_1 (.seq c66_2 .ret)))
theorem b66 : Tryd.f66.body.map (comp 19) = some c66 := by kernel_rfl
theorem r66 : Tryd.f66.results.toList = [.tmp 4] := by kernel_rfl
-- 67 (*pith/fs.FS).after
@[go_sem] def c67_0 : Cmd := .ops [⟨some 4, .assign (.const (.map none)), 82, none⟩]
@[go_sem] def c67_1 : Cmd := .ops [⟨some 8, .move (.tmp 0), 25, none⟩,
    ⟨some 9, .nilCheck (.tmp 8), 0, none⟩,
    ⟨some 10, .fieldAddr 86 (.tmp 9) 2, 0, none⟩,
    ⟨some 11, .load 82 (.tmp 10), 82, none⟩,
    ⟨some 12, .call { callee := (.value (.func 80)), args := #[(.tmp 11)], argTypes := #[82] }, 82, none⟩,
    ⟨some 5, .assign (.tmp 12), 82, none⟩]
@[go_sem] def c67_2 : Cmd := .ops [⟨some 13, .move (.tmp 0), 25, none⟩,
    ⟨some 14, .nilCheck (.tmp 13), 0, none⟩,
    ⟨some 15, .fieldAddr 86 (.tmp 14) 3, 0, none⟩,
    ⟨some 16, .load 84 (.tmp 15), 84, none⟩,
    ⟨some 17, .call { callee := (.builtin .len), args := #[(.tmp 16)], argTypes := #[84] }, 3, none⟩,
    ⟨some 18, .move (.const (.int .i64 0)), 3, none⟩]
@[go_sem] def c67_3 : Cmd := .ops [⟨some 19, .binOp .lss 3 (.tmp 18) (.tmp 17) 3, 0, none⟩]
@[go_sem] def c67_4 : Cmd := .cond (.tmp 19) .skip (.exit 0)
@[go_sem] def c67_5 : Cmd := .ops [⟨some 20, .move (.tmp 18), 3, none⟩,
    ⟨some 21, .indexAddr 84 (.tmp 16) (.tmp 18), 0, none⟩,
    ⟨some 22, .load 130 (.tmp 21), 130, none⟩,
    ⟨some 6, .assign (.tmp 20), 3, none⟩,
    ⟨some 7, .assign (.tmp 22), 130, none⟩]
@[go_sem] def c67_6 : Cmd := .ops [⟨some 23, .move (.tmp 1), 3, none⟩,
    ⟨some 24, .move (.tmp 6), 3, none⟩,
    ⟨some 25, .call { callee := (.builtin .min), args := #[(.tmp 24), (.const (.int .i64 63))], argTypes := #[3, 3] }, 3, none⟩,
    ⟨some 26, .binOp .shr 3 (.tmp 23) (.tmp 25) 3, 3, none⟩,
    ⟨some 27, .binOp .and 3 (.tmp 26) (.const (.int .i64 1)) 3, 3, none⟩,
    ⟨some 28, .binOp .neq 3 (.tmp 27) (.const (.int .i64 0)) 3, 4, none⟩]
@[go_sem] def c67_7 : Cmd := .ops [⟨some 29, .move (.tmp 7), 130, none⟩,
    ⟨some 30, .move (.tmp 5), 82, none⟩,
    ⟨some 31, .call { callee := (.value (.tmp 29)), args := #[(.tmp 30)], argTypes := #[82] }, 0, none⟩]
@[go_sem] def c67_8 : Cmd := .cond (.tmp 28) c67_7 .skip
@[go_sem] def c67_9 : Cmd := .block 1 (.seq c67_5 (.seq c67_6 c67_8))
@[go_sem] def c67_10 : Cmd := .ops [⟨some 32, .binOp .add 3 (.tmp 18) (.const (.int .i64 1)) 3, 3, none⟩,
    ⟨some 18, .move (.tmp 32), 3, none⟩]
def c67_L0 : Cmd := (.seq c67_3 (.seq c67_4 (.seq c67_9 c67_10)))
@[go_sem] def c67_11 : Cmd := .loop c67_L0
@[go_sem] def c67_12 : Cmd := .block 0 c67_11
@[go_sem] def c67_13 : Cmd := .ops [⟨some 33, .move (.tmp 5), 82, none⟩,
    ⟨some 4, .assign (.tmp 33), 82, none⟩]
@[go_sem] def c67 : Cmd := (.seq c67_0 (.seq c67_1 (.seq (.seq c67_2 c67_12) (.seq c67_13 .ret))))
theorem b67 : Tryd.f67.body.map (comp 34) = some c67 := by kernel_rfl
theorem r67 : Tryd.f67.results.toList = [.tmp 4] := by kernel_rfl
-- 68 (*pith/fs.FS).settle
@[go_sem] def c68_0 : Cmd := .ops [⟨some 4, .move (.tmp 0), 25, none⟩,
    ⟨some 5, .move (.tmp 0), 25, none⟩,
    ⟨some 6, .nilCheck (.tmp 5), 0, none⟩,
    ⟨some 7, .fieldAddr 86 (.tmp 6) 1, 0, none⟩,
    ⟨some 8, .load 82 (.tmp 7), 82, none⟩,
    ⟨some 9, .call { callee := (.value (.func 80)), args := #[(.tmp 8)], argTypes := #[82] }, 82, none⟩,
    ⟨some 10, .nilCheck (.tmp 4), 0, none⟩,
    ⟨some 11, .fieldAddr 86 (.tmp 10) 2, 0, none⟩,
    ⟨none, .store 82 (.tmp 11) (.tmp 9), 0, none⟩]
@[go_sem] def c68_1 : Cmd := .ops [⟨some 12, .move (.tmp 0), 25, none⟩,
    ⟨some 13, .nilCheck (.tmp 12), 0, none⟩,
    ⟨some 14, .fieldAddr 86 (.tmp 13) 3, 0, none⟩,
    ⟨none, .store 84 (.tmp 14) (.const (.slice none 0 0)), 0, none⟩]
@[go_sem] def c68_2 : Cmd := .ops [⟨some 15, .move (.tmp 0), 25, none⟩,
    ⟨some 16, .makeMap 83 none, 83, none⟩,
    ⟨some 17, .nilCheck (.tmp 15), 0, none⟩,
    ⟨some 18, .fieldAddr 86 (.tmp 17) 4, 0, none⟩,
    ⟨none, .store 83 (.tmp 18) (.tmp 16), 0, none⟩]
@[go_sem] def c68_3 : Cmd := .ops [⟨some 19, .move (.tmp 0), 25, none⟩,
    ⟨some 20, .nilCheck (.tmp 19), 0, none⟩,
    ⟨some 21, .fieldAddr 86 (.tmp 20) 1, 0, none⟩,
    ⟨some 22, .load 82 (.tmp 21), 82, none⟩,
    ⟨some 23, .range 82 (.tmp 22), 0, none⟩]
@[go_sem] def c68_4 : Cmd := .ops [⟨some 24, .next (.tmp 23) false, 0, none⟩,
    ⟨some 25, .extract (.tmp 24) 0, 4, none⟩]
@[go_sem] def c68_5 : Cmd := .cond (.tmp 25) .skip (.exit 0)
@[go_sem] def c68_6 : Cmd := .ops [⟨some 26, .entry (.tmp 23), 0, none⟩,
    ⟨some 27, .extract (.tmp 26) 1, 90, none⟩,
    ⟨some 3, .assign (.tmp 27), 90, none⟩]
@[go_sem] def c68_7 : Cmd := .ops [⟨some 28, .move (.tmp 0), 25, none⟩,
    ⟨some 29, .nilCheck (.tmp 28), 0, none⟩,
    ⟨some 30, .fieldAddr 86 (.tmp 29) 4, 0, none⟩,
    ⟨some 31, .load 83 (.tmp 30), 83, none⟩,
    ⟨some 32, .move (.tmp 3), 90, none⟩,
    ⟨none, .mapUpdate 83 (.tmp 31) (.tmp 32) (.const (.bool true)), 0, none⟩]
@[go_sem] def c68_8 : Cmd := .block 1 (.seq c68_6 c68_7)
def c68_L0 : Cmd := (.seq c68_4 (.seq c68_5 c68_8))
@[go_sem] def c68_9 : Cmd := .loop c68_L0
@[go_sem] def c68_10 : Cmd := .block 0 c68_9
@[go_sem] def c68 : Cmd := (.seq c68_0 (.seq c68_1 (.seq c68_2 (.seq c68_3 c68_10))))
theorem b68 : Tryd.f68.body.map (comp 33) = some c68 := by kernel_rfl
theorem r68 : Tryd.f68.results.toList = [] := by kernel_rfl
-- 69 (*pith/files.Reader).next
@[go_sem] def c69_0 : Cmd := .ops [⟨some 2, .alloc 44, 0, none⟩,
    ⟨some 3, .assign (.const (.int .i64 0)), 29, none⟩]
@[go_sem] def c69_1 : Cmd := .draw (.step 3 ⟨some 9, .move (.tmp 0), 78, none⟩
    (.step 3 ⟨some 10, .nilCheck (.tmp 9), 0, none⟩
    (.step 3 ⟨some 11, .fieldAddr 122 (.tmp 10) 0, 0, none⟩
    (.step 0 ⟨some 12, .load 25 (.tmp 11), 25, none⟩
    (.step 3 ⟨some 13, .move (.tmp 0), 78, none⟩
    (.step 3 ⟨some 14, .nilCheck (.tmp 13), 0, none⟩
    (.step 3 ⟨some 15, .fieldAddr 122 (.tmp 14) 1, 0, none⟩
    (.step 0 ⟨some 16, .load 9 (.tmp 15), 9, none⟩
    (.step 3 ⟨some 17, .move (.tmp 0), 78, none⟩
    (.step 3 ⟨some 18, .nilCheck (.tmp 17), 0, none⟩
    (.step 3 ⟨some 19, .fieldAddr 122 (.tmp 18) 2, 0, none⟩
    (.step 0 ⟨some 20, .load 3 (.tmp 19), 3, none⟩
    (.step 1 ⟨some 21, .call { callee := (.value (.func 17)), args := #[(.tmp 12), (.tmp 16), (.tmp 20), (.const (.int .i64 1036))], argTypes := #[25, 9, 3, 3] }, 36, none⟩
    (.step 3 ⟨some 8, .move (.tmp 21), 36, none⟩
    (.step 3 ⟨some 22, .extract (.tmp 8) 0, 22, none⟩
    (.step 3 ⟨some 23, .extract (.tmp 8) 1, 29, none⟩
    (.step 3 ⟨some 4, .assign (.tmp 22), 22, none⟩
    (.step 3 ⟨some 5, .assign (.tmp 23), 29, none⟩
    .done))))))))))))))))))
@[go_sem] def c69_2 : Cmd := .ops [⟨some 24, .move (.tmp 5), 29, none⟩,
    ⟨some 25, .binOp .neq 29 (.tmp 24) (.const (.int .i64 0)) 29, 4, none⟩]
@[go_sem] def c69_3 : Cmd := .ops [⟨some 26, .build 44 #[], 44, none⟩,
    ⟨some 27, .move (.tmp 5), 29, none⟩,
    ⟨none, .store 44 (.tmp 2) (.tmp 26), 0, none⟩,
    ⟨some 3, .assign (.tmp 27), 29, none⟩]
@[go_sem] def c69_4 : Cmd := .cond (.tmp 25) (.seq c69_3 .ret) .skip
@[go_sem] def c69_5 : Cmd := .ops [⟨some 29, .move (.tmp 4), 22, none⟩,
    ⟨some 30, .call { callee := (.value (.func 81)), args := #[(.tmp 29)], argTypes := #[22] }, 135, none⟩,
    ⟨some 28, .move (.tmp 30), 135, none⟩,
    ⟨some 31, .extract (.tmp 28) 0, 44, none⟩,
    ⟨some 32, .extract (.tmp 28) 1, 3, none⟩,
    ⟨some 33, .extract (.tmp 28) 2, 29, none⟩,
    ⟨some 6, .alloc 44, 0, none⟩,
    ⟨none, .store 44 (.tmp 6) (.tmp 31), 0, none⟩,
    ⟨some 7, .assign (.tmp 32), 3, none⟩,
    ⟨some 5, .assign (.tmp 33), 29, none⟩]
@[go_sem] def c69_6 : Cmd := .ops [⟨some 34, .move (.tmp 5), 29, none⟩,
    ⟨some 35, .binOp .neq 29 (.tmp 34) (.const (.int .i64 0)) 29, 4, none⟩]
@[go_sem] def c69_7 : Cmd := .ops [⟨some 36, .build 44 #[], 44, none⟩,
    ⟨none, .store 44 (.tmp 2) (.tmp 36), 0, none⟩,
    ⟨some 3, .assign (.const (.int .i64 90)), 29, none⟩]
@[go_sem] def c69_8 : Cmd := .cond (.tmp 35) (.seq c69_7 .ret) .skip
@[go_sem] def c69_9 : Cmd := .ops [⟨some 37, .move (.tmp 0), 78, none⟩,
    ⟨some 38, .nilCheck (.tmp 37), 0, none⟩,
    ⟨some 39, .fieldAddr 122 (.tmp 38) 2, 0, none⟩,
    ⟨some 40, .load 3 (.tmp 39), 3, none⟩,
    ⟨some 41, .move (.tmp 7), 3, none⟩,
    ⟨some 42, .binOp .add 3 (.tmp 40) (.tmp 41) 3, 3, none⟩,
    ⟨some 43, .nilCheck (.tmp 37), 0, none⟩,
    ⟨some 44, .fieldAddr 122 (.tmp 43) 2, 0, none⟩,
    ⟨none, .store 3 (.tmp 44) (.tmp 42), 0, none⟩]
@[go_sem] def c69_10 : Cmd := .ops [⟨some 45, .load 44 (.tmp 6), 44, none⟩,
    ⟨none, .store 44 (.tmp 2) (.tmp 45), 0, none⟩,
    ⟨some 3, .assign (.const (.int .i64 0)), 29, none⟩]
@[go_sem] def c69 : Cmd := (.seq c69_0 (.seq c69_1 (.seq (.seq c69_2 c69_4) (.seq c69_5 (.seq (.seq c69_6 c69_8) (.seq c69_9 (.seq c69_10 .ret)))))))
theorem b69 : Tryd.f69.body.map (comp 46) = some c69 := by kernel_rfl
theorem r69 : Tryd.f69.results.toList = [.cell 2 44, .tmp 3] := by kernel_rfl
-- 70 (*pith/files.Reader).payloads$1
@[go_sem] def c70_0 : Cmd := .ops [⟨some 7, .load 78 (.tmp 1), 78, none⟩,
    ⟨some 8, .call { callee := (.value (.func 71)), args := #[(.tmp 7)], argTypes := #[78] }, 126, none⟩,
    ⟨some 6, .move (.tmp 8), 126, none⟩,
    ⟨some 9, .extract (.tmp 6) 0, 22, none⟩,
    ⟨some 10, .extract (.tmp 6) 1, 4, none⟩,
    ⟨some 11, .extract (.tmp 6) 2, 29, none⟩,
    ⟨some 3, .assign (.tmp 9), 22, none⟩,
    ⟨some 4, .assign (.tmp 10), 4, none⟩,
    ⟨some 5, .assign (.tmp 11), 29, none⟩]
@[go_sem] def c70_1 : Cmd := .ops [⟨some 12, .move (.tmp 5), 29, none⟩,
    ⟨some 13, .binOp .neq 29 (.tmp 12) (.const (.int .i64 0)) 29, 4, none⟩]
@[go_sem] def c70_2 : Cmd := .ops [⟨some 14, .move (.tmp 0), 125, none⟩,
    ⟨some 15, .move (.tmp 5), 29, none⟩,
    ⟨some 16, .call { callee := (.value (.tmp 14)), args := #[(.const (.slice none 0 0)), (.tmp 15)], argTypes := #[22, 29] }, 4, none⟩]
@[go_sem] def c70_3 : Cmd := .cond (.tmp 13) (.seq c70_2 .ret) .skip
@[go_sem] def c70_4 : Cmd := .ops [⟨some 17, .move (.tmp 4), 4, none⟩,
    ⟨some 18, .unOp .not 4 (.tmp 17), 4, none⟩,
    ⟨some 19, .move (.tmp 18), 4, none⟩,
    ⟨some 20, .move (.tmp 0), 125, some (19, false)⟩,
    ⟨some 21, .move (.tmp 3), 22, some (19, false)⟩,
    ⟨some 22, .call { callee := (.value (.tmp 20)), args := #[(.tmp 21), (.const (.int .i64 0))], argTypes := #[22, 29] }, 4, some (19, false)⟩,
    ⟨some 23, .unOp .not 4 (.tmp 22), 4, some (19, false)⟩,
    ⟨some 24, .pick (.tmp 19) (.const (.bool true)) (.tmp 23), 4, none⟩]
@[go_sem] def c70_5 : Cmd := .cond (.tmp 24) .ret .skip
@[go_sem] def c70_6 : Cmd := .block 1 (.seq c70_0 (.seq (.seq c70_1 c70_3) (.seq c70_4 c70_5)))
def c70_L0 : Cmd := c70_6
@[go_sem] def c70_7 : Cmd := .loop c70_L0
@[go_sem] def c70_8 : Cmd := .block 0 c70_7
@[go_sem] def c70 : Cmd := c70_8
theorem b70 : Tryd.f70.body.map (comp 25) = some c70 := by kernel_rfl
theorem r70 : Tryd.f70.results.toList = [] := by kernel_rfl
-- 71 (*pith/files.Reader).Next
@[go_sem] def c71_0 : Cmd := .ops [⟨some 2, .assign (.const (.slice none 0 0)), 22, none⟩,
    ⟨some 3, .assign (.const (.bool false)), 4, none⟩,
    ⟨some 4, .assign (.const (.int .i64 0)), 29, none⟩]
@[go_sem] def c71_1 : Cmd := .ops [⟨some 7, .move (.tmp 0), 78, none⟩,
    ⟨some 8, .nilCheck (.tmp 7), 0, none⟩,
    ⟨some 9, .fieldAddr 122 (.tmp 8) 4, 0, none⟩,
    ⟨some 10, .load 4 (.tmp 9), 4, none⟩]
@[go_sem] def c71_2 : Cmd := .ops [⟨some 2, .assign (.const (.slice none 0 0)), 22, none⟩,
    ⟨some 3, .assign (.const (.bool false)), 4, none⟩,
    ⟨some 4, .assign (.const (.int .i64 91)), 29, none⟩]
@[go_sem] def c71_3 : Cmd := .cond (.tmp 10) (.seq c71_2 .ret) .skip
@[go_sem] def c71_4 : Cmd := .ops [⟨some 12, .move (.tmp 0), 78, none⟩,
    ⟨some 13, .call { callee := (.value (.func 69)), args := #[(.tmp 12)], argTypes := #[78] }, 123, none⟩,
    ⟨some 11, .move (.tmp 13), 123, none⟩,
    ⟨some 14, .extract (.tmp 11) 0, 44, none⟩,
    ⟨some 15, .extract (.tmp 11) 1, 29, none⟩,
    ⟨some 5, .alloc 44, 0, none⟩,
    ⟨none, .store 44 (.tmp 5) (.tmp 14), 0, none⟩,
    ⟨some 6, .assign (.tmp 15), 29, none⟩]
@[go_sem] def c71_5 : Cmd := .ops [⟨some 16, .move (.tmp 6), 29, none⟩,
    ⟨some 17, .binOp .eql 29 (.tmp 16) (.const (.int .i64 0)) 29, 4, none⟩,
    ⟨some 18, .move (.tmp 17), 4, none⟩,
    ⟨some 19, .fieldAddr 44 (.tmp 5) 0, 0, some (18, true)⟩,
    ⟨some 20, .load 3 (.tmp 19), 3, some (18, true)⟩,
    ⟨some 21, .binOp .eql 3 (.tmp 20) (.const (.int .i64 2)) 3, 4, some (18, true)⟩,
    ⟨some 22, .pick (.tmp 18) (.tmp 21) (.const (.bool false)), 4, none⟩]
@[go_sem] def c71_6 : Cmd := .ops [⟨some 23, .move (.tmp 0), 78, none⟩,
    ⟨some 24, .nilCheck (.tmp 23), 0, none⟩,
    ⟨some 25, .fieldAddr 122 (.tmp 24) 3, 0, none⟩,
    ⟨some 26, .load 3 (.tmp 25), 3, none⟩,
    ⟨some 27, .binOp .add 3 (.tmp 26) (.const (.int .i64 1)) 3, 3, none⟩,
    ⟨some 28, .nilCheck (.tmp 23), 0, none⟩,
    ⟨some 29, .fieldAddr 122 (.tmp 28) 3, 0, none⟩,
    ⟨none, .store 3 (.tmp 29) (.tmp 27), 0, none⟩]
@[go_sem] def c71_7 : Cmd := .ops [⟨some 30, .fieldAddr 44 (.tmp 5) 1, 0, none⟩,
    ⟨some 31, .load 22 (.tmp 30), 22, none⟩,
    ⟨some 2, .assign (.tmp 31), 22, none⟩,
    ⟨some 3, .assign (.const (.bool true)), 4, none⟩,
    ⟨some 4, .assign (.const (.int .i64 0)), 29, none⟩]
@[go_sem] def c71_8 : Cmd := .cond (.tmp 22) (.seq c71_6 (.seq c71_7 .ret)) .skip
@[go_sem] def c71_9 : Cmd := .ops [⟨some 32, .move (.tmp 0), 78, none⟩,
    ⟨some 33, .nilCheck (.tmp 32), 0, none⟩,
    ⟨some 34, .fieldAddr 122 (.tmp 33) 4, 0, none⟩,
    ⟨none, .store 4 (.tmp 34) (.const (.bool true)), 0, none⟩]
@[go_sem] def c71_10 : Cmd := .ops [⟨some 35, .move (.tmp 6), 29, none⟩,
    ⟨some 36, .binOp .eql 29 (.tmp 35) (.const (.int .i64 0)) 29, 4, none⟩]
@[go_sem] def c71_11 : Cmd := .ops [⟨some 37, .move (.tmp 0), 78, none⟩,
    ⟨some 38, .load 44 (.tmp 5), 44, none⟩,
    ⟨some 39, .call { callee := (.value (.func 82)), args := #[(.tmp 37), (.tmp 38)], argTypes := #[78, 44] }, 29, none⟩,
    ⟨some 6, .assign (.tmp 39), 29, none⟩]
@[go_sem] def c71_12 : Cmd := .cond (.tmp 36) c71_11 .skip
@[go_sem] def c71_13 : Cmd := .ops [⟨some 40, .move (.tmp 6), 29, none⟩,
    ⟨some 2, .assign (.const (.slice none 0 0)), 22, none⟩,
    ⟨some 3, .assign (.const (.bool false)), 4, none⟩,
    ⟨some 4, .assign (.tmp 40), 29, none⟩]
@[go_sem] def c71 : Cmd := (.seq c71_0 (.seq (.seq c71_1 c71_3) (.seq c71_4 (.seq (.seq c71_5 c71_8) (.seq c71_9 (.seq (.seq c71_10 c71_12) (.seq c71_13 .ret)))))))
theorem b71 : Tryd.f71.body.map (comp 41) = some c71 := by kernel_rfl
theorem r71 : Tryd.f71.results.toList = [.tmp 2, .tmp 3, .tmp 4] := by kernel_rfl
-- 72 pith/pithref3.Encode
@[go_sem] def c72_0 : Cmd := .ops [⟨some 1, .box 44 (.tmp 0), 0, none⟩,
    ⟨some 2, .assign (.const (.slice none 0 0)), 22, none⟩,
    ⟨some 3, .assign (.const (.int .i64 0)), 3, none⟩]
@[go_sem] def c72_1 : Cmd := .ops [⟨some 6, .fieldAddr 44 (.tmp 1) 0, 0, none⟩,
    ⟨some 7, .load 3 (.tmp 6), 3, none⟩,
    ⟨some 8, .binOp .lss 3 (.tmp 7) (.const (.int .i64 1)) 3, 4, none⟩,
    ⟨some 9, .move (.tmp 8), 4, none⟩,
    ⟨some 10, .fieldAddr 44 (.tmp 1) 0, 0, some (9, false)⟩,
    ⟨some 11, .load 3 (.tmp 10), 3, some (9, false)⟩,
    ⟨some 12, .binOp .gtr 3 (.tmp 11) (.const (.int .i64 3)) 3, 4, some (9, false)⟩,
    ⟨some 13, .pick (.tmp 9) (.const (.bool true)) (.tmp 12), 4, none⟩]
@[go_sem] def c72_2 : Cmd := .ops [⟨some 2, .assign (.const (.slice none 0 0)), 22, none⟩,
    ⟨some 3, .assign (.const (.int .i64 30)), 3, none⟩]
@[go_sem] def c72_3 : Cmd := .cond (.tmp 13) (.seq c72_2 .ret) .skip
@[go_sem] def c72_4 : Cmd := .ops [⟨some 14, .fieldAddr 44 (.tmp 1) 1, 0, none⟩,
    ⟨some 15, .load 22 (.tmp 14), 22, none⟩,
    ⟨some 16, .call { callee := (.builtin .len), args := #[(.tmp 15)], argTypes := #[22] }, 3, none⟩,
    ⟨some 4, .assign (.tmp 16), 3, none⟩]
@[go_sem] def c72_5 : Cmd := .ops [⟨some 17, .move (.tmp 4), 3, none⟩,
    ⟨some 18, .binOp .gtr 3 (.tmp 17) (.const (.int .i64 1024)) 3, 4, none⟩]
@[go_sem] def c72_6 : Cmd := .ops [⟨some 2, .assign (.const (.slice none 0 0)), 22, none⟩,
    ⟨some 3, .assign (.const (.int .i64 31)), 3, none⟩]
@[go_sem] def c72_7 : Cmd := .cond (.tmp 18) (.seq c72_6 .ret) .skip
@[go_sem] def c72_8 : Cmd := .ops [⟨some 19, .fieldAddr 44 (.tmp 1) 0, 0, none⟩,
    ⟨some 20, .load 3 (.tmp 19), 3, none⟩,
    ⟨some 21, .convert 3 5 (.tmp 20), 5, none⟩,
    ⟨some 22, .move (.tmp 4), 3, none⟩,
    ⟨some 23, .binOp .quo 3 (.tmp 22) (.const (.int .i64 256)) 3, 3, none⟩,
    ⟨some 24, .convert 3 5 (.tmp 23), 5, none⟩,
    ⟨some 25, .move (.tmp 4), 3, none⟩,
    ⟨some 26, .binOp .rem 3 (.tmp 25) (.const (.int .i64 256)) 3, 3, none⟩,
    ⟨some 27, .convert 3 5 (.tmp 26), 5, none⟩,
    ⟨some 28, .buildSlice 22 4 #[(0, (.const (.int .u8 112))), (1, (.tmp 21)), (2, (.tmp 24)), (3, (.tmp 27))], 22, none⟩,
    ⟨some 5, .assign (.tmp 28), 22, none⟩]
@[go_sem] def c72_9 : Cmd := .ops [⟨some 29, .move (.tmp 5), 22, none⟩,
    ⟨some 30, .move (.tmp 5), 22, none⟩,
    ⟨some 31, .call { callee := (.value (.func 52)), args := #[(.tmp 30)], argTypes := #[22] }, 46, none⟩,
    ⟨some 32, .call { callee := (.value (.func 83)), args := #[(.tmp 31)], argTypes := #[46] }, 22, none⟩,
    ⟨some 33, .call { callee := (.builtin .append), args := #[(.tmp 29), (.tmp 32)], argTypes := #[22, 22] }, 22, none⟩,
    ⟨some 5, .assign (.tmp 33), 22, none⟩]
@[go_sem] def c72_10 : Cmd := .ops [⟨some 34, .move (.tmp 5), 22, none⟩,
    ⟨some 35, .fieldAddr 44 (.tmp 1) 1, 0, none⟩,
    ⟨some 36, .load 22 (.tmp 35), 22, none⟩,
    ⟨some 37, .call { callee := (.builtin .append), args := #[(.tmp 34), (.tmp 36)], argTypes := #[22, 22] }, 22, none⟩,
    ⟨some 5, .assign (.tmp 37), 22, none⟩]
@[go_sem] def c72_11 : Cmd := .ops [⟨some 38, .move (.tmp 5), 22, none⟩,
    ⟨some 39, .fieldAddr 44 (.tmp 1) 1, 0, none⟩,
    ⟨some 40, .load 22 (.tmp 39), 22, none⟩,
    ⟨some 41, .call { callee := (.value (.func 52)), args := #[(.tmp 40)], argTypes := #[22] }, 46, none⟩,
    ⟨some 42, .call { callee := (.value (.func 83)), args := #[(.tmp 41)], argTypes := #[46] }, 22, none⟩,
    ⟨some 43, .call { callee := (.builtin .append), args := #[(.tmp 38), (.tmp 42)], argTypes := #[22, 22] }, 22, none⟩,
    ⟨some 2, .assign (.tmp 43), 22, none⟩,
    ⟨some 3, .assign (.const (.int .i64 0)), 3, none⟩]
@[go_sem] def c72 : Cmd := (.seq c72_0 (.seq (.seq c72_1 c72_3) (.seq c72_4 (.seq (.seq c72_5 c72_7) (.seq c72_8 (.seq c72_9 (.seq c72_10 (.seq c72_11 .ret))))))))
theorem b72 : Tryd.f72.body.map (comp 44) = some c72 := by kernel_rfl
theorem r72 : Tryd.f72.results.toList = [.tmp 2, .tmp 3] := by kernel_rfl
-- 73 (*pith/fs.FS).pend$1
@[go_sem] def c73_0 : Cmd := .ops [⟨some 6, .move (.tmp 0), 82, none⟩,
    ⟨some 7, .range 82 (.tmp 6), 0, none⟩]
@[go_sem] def c73_1 : Cmd := .ops [⟨some 8, .next (.tmp 7) false, 0, none⟩,
    ⟨some 9, .extract (.tmp 8) 0, 4, none⟩]
@[go_sem] def c73_2 : Cmd := .cond (.tmp 9) .skip (.exit 0)
@[go_sem] def c73_3 : Cmd := .ops [⟨some 10, .entry (.tmp 7), 0, none⟩,
    ⟨some 11, .extract (.tmp 10) 0, 9, none⟩,
    ⟨some 12, .extract (.tmp 10) 1, 90, none⟩,
    ⟨some 4, .assign (.tmp 11), 9, none⟩,
    ⟨some 5, .assign (.tmp 12), 90, none⟩]
@[go_sem] def c73_4 : Cmd := .ops [⟨some 13, .move (.tmp 5), 90, none⟩,
    ⟨some 14, .load 90 (.tmp 1), 90, none⟩,
    ⟨some 15, .binOp .eql 90 (.tmp 13) (.tmp 14) 90, 4, none⟩]
@[go_sem] def c73_5 : Cmd := .ops [⟨some 16, .move (.tmp 0), 82, none⟩,
    ⟨some 17, .move (.tmp 4), 9, none⟩,
    ⟨none, .call { callee := (.builtin .delete), args := #[(.tmp 16), (.tmp 17)], argTypes := #[82, 9] }, 0, none⟩]
@[go_sem] def c73_6 : Cmd := .cond (.tmp 15) c73_5 .skip
@[go_sem] def c73_7 : Cmd := .block 1 (.seq c73_3 (.seq c73_4 c73_6))
def c73_L0 : Cmd := (.seq c73_1 (.seq c73_2 c73_7))
@[go_sem] def c73_8 : Cmd := .loop c73_L0
@[go_sem] def c73_9 : Cmd := .block 0 c73_8
@[go_sem] def c73_10 : Cmd := .ops [⟨some 18, .load 9 (.tmp 2), 9, none⟩,
    ⟨some 19, .binOp .neq 9 (.tmp 18) (.const (.string ⟨#[]⟩)) 9, 4, none⟩]
@[go_sem] def c73_11 : Cmd := .ops [⟨some 20, .move (.tmp 0), 82, none⟩,
    ⟨some 21, .load 9 (.tmp 2), 9, none⟩,
    ⟨some 22, .load 90 (.tmp 1), 90, none⟩,
    ⟨none, .mapUpdate 82 (.tmp 20) (.tmp 21) (.tmp 22), 0, none⟩]
@[go_sem] def c73_12 : Cmd := .cond (.tmp 19) c73_11 .skip
@[go_sem] def c73 : Cmd := (.seq (.seq c73_0 c73_9) (.seq c73_10 c73_12))
theorem b73 : Tryd.f73.body.map (comp 23) = some c73 := by kernel_rfl
theorem r73 : Tryd.f73.results.toList = [] := by kernel_rfl
-- 74 pith/frame.Encode
@[go_sem] def c74_0 : Cmd := .ops [⟨some 1, .box 44 (.tmp 0), 0, none⟩,
    ⟨some 2, .assign (.const (.slice none 0 0)), 22, none⟩,
    ⟨some 3, .assign (.const (.int .i64 0)), 29, none⟩]
@[go_sem] def c74_1 : Cmd := .ops [⟨some 8, .fieldAddr 44 (.tmp 1) 0, 0, none⟩,
    ⟨some 9, .load 3 (.tmp 8), 3, none⟩,
    ⟨some 10, .call { callee := (.value (.func 84)), args := #[(.tmp 9)], argTypes := #[3] }, 4, none⟩,
    ⟨some 11, .unOp .not 4 (.tmp 10), 4, none⟩]
@[go_sem] def c74_2 : Cmd := .ops [⟨some 2, .assign (.const (.slice none 0 0)), 22, none⟩,
    ⟨some 3, .assign (.const (.int .i64 30)), 29, none⟩]
@[go_sem] def c74_3 : Cmd := .cond (.tmp 11) (.seq c74_2 .ret) .skip
@[go_sem] def c74_4 : Cmd := .ops [⟨some 12, .fieldAddr 44 (.tmp 1) 1, 0, none⟩,
    ⟨some 13, .load 22 (.tmp 12), 22, none⟩,
    ⟨some 14, .call { callee := (.builtin .len), args := #[(.tmp 13)], argTypes := #[22] }, 3, none⟩,
    ⟨some 4, .assign (.tmp 14), 3, none⟩]
@[go_sem] def c74_5 : Cmd := .ops [⟨some 15, .move (.tmp 4), 3, none⟩,
    ⟨some 16, .binOp .gtr 3 (.tmp 15) (.const (.int .i64 1024)) 3, 4, none⟩]
@[go_sem] def c74_6 : Cmd := .ops [⟨some 2, .assign (.const (.slice none 0 0)), 22, none⟩,
    ⟨some 3, .assign (.const (.int .i64 31)), 29, none⟩]
@[go_sem] def c74_7 : Cmd := .cond (.tmp 16) (.seq c74_6 .ret) .skip
@[go_sem] def c74_8 : Cmd := .ops [⟨some 17, .move (.tmp 4), 3, none⟩,
    ⟨some 18, .binOp .add 3 (.const (.int .i64 8)) (.tmp 17) 3, 3, none⟩,
    ⟨some 19, .binOp .add 3 (.tmp 18) (.const (.int .i64 4)) 3, 3, none⟩,
    ⟨some 20, .makeSlice 22 (.tmp 19) (.tmp 19), 22, none⟩,
    ⟨some 5, .assign (.tmp 20), 22, none⟩]
@[go_sem] def c74_9 : Cmd := .draw (.step 3 ⟨some 21, .fieldAddr 44 (.tmp 1) 0, 0, none⟩
    (.step 0 ⟨some 22, .load 3 (.tmp 21), 3, none⟩
    (.step 3 ⟨some 23, .move (.tmp 4), 3, none⟩
    (.step 3 ⟨some 25, .fieldAddr 44 (.tmp 1) 1, 0, none⟩
    (.step 0 ⟨some 26, .load 22 (.tmp 25), 22, none⟩
    (.three ⟨some 24, .call { callee := (.value (.func 85)), args := #[(.tmp 22), (.tmp 23)], argTypes := #[3, 3] }, 141, none⟩
    (.three ⟨some 27, .call { callee := (.value (.func 86)), args := #[(.tmp 26)], argTypes := #[22] }, 143, none⟩
    (.both ⟨some 6, .alloc 141, 0, none⟩
    (.step 1 ⟨some 7, .alloc 143, 0, none⟩
    (.step 2 ⟨none, .store 141 (.tmp 6) (.tmp 24), 0, none⟩
    (.step 2 ⟨none, .store 143 (.tmp 7) (.tmp 27), 0, none⟩
    .done)))
    ⟨some 7, .alloc 143, 0, none⟩
    (.step 1 ⟨some 6, .alloc 141, 0, none⟩
    (.step 2 ⟨none, .store 141 (.tmp 6) (.tmp 24), 0, none⟩
    (.step 2 ⟨none, .store 143 (.tmp 7) (.tmp 27), 0, none⟩
    .done))))
    ⟨some 6, .alloc 141, 0, none⟩
    (.both ⟨some 27, .call { callee := (.value (.func 86)), args := #[(.tmp 26)], argTypes := #[22] }, 143, none⟩
    (.step 1 ⟨some 7, .alloc 143, 0, none⟩
    (.step 2 ⟨none, .store 141 (.tmp 6) (.tmp 24), 0, none⟩
    (.step 2 ⟨none, .store 143 (.tmp 7) (.tmp 27), 0, none⟩
    .done)))
    ⟨some 7, .alloc 143, 0, none⟩
    (.step 1 ⟨some 27, .call { callee := (.value (.func 86)), args := #[(.tmp 26)], argTypes := #[22] }, 143, none⟩
    (.step 2 ⟨none, .store 141 (.tmp 6) (.tmp 24), 0, none⟩
    (.step 2 ⟨none, .store 143 (.tmp 7) (.tmp 27), 0, none⟩
    .done))))
    ⟨some 7, .alloc 143, 0, none⟩
    (.both ⟨some 27, .call { callee := (.value (.func 86)), args := #[(.tmp 26)], argTypes := #[22] }, 143, none⟩
    (.step 1 ⟨some 6, .alloc 141, 0, none⟩
    (.step 2 ⟨none, .store 141 (.tmp 6) (.tmp 24), 0, none⟩
    (.step 2 ⟨none, .store 143 (.tmp 7) (.tmp 27), 0, none⟩
    .done)))
    ⟨some 6, .alloc 141, 0, none⟩
    (.step 1 ⟨some 27, .call { callee := (.value (.func 86)), args := #[(.tmp 26)], argTypes := #[22] }, 143, none⟩
    (.step 2 ⟨none, .store 141 (.tmp 6) (.tmp 24), 0, none⟩
    (.step 2 ⟨none, .store 143 (.tmp 7) (.tmp 27), 0, none⟩
    .done)))))
    ⟨some 6, .alloc 141, 0, none⟩
    (.both ⟨some 24, .call { callee := (.value (.func 85)), args := #[(.tmp 22), (.tmp 23)], argTypes := #[3, 3] }, 141, none⟩
    (.both ⟨some 27, .call { callee := (.value (.func 86)), args := #[(.tmp 26)], argTypes := #[22] }, 143, none⟩
    (.step 1 ⟨some 7, .alloc 143, 0, none⟩
    (.step 2 ⟨none, .store 141 (.tmp 6) (.tmp 24), 0, none⟩
    (.step 2 ⟨none, .store 143 (.tmp 7) (.tmp 27), 0, none⟩
    .done)))
    ⟨some 7, .alloc 143, 0, none⟩
    (.step 1 ⟨some 27, .call { callee := (.value (.func 86)), args := #[(.tmp 26)], argTypes := #[22] }, 143, none⟩
    (.step 2 ⟨none, .store 141 (.tmp 6) (.tmp 24), 0, none⟩
    (.step 2 ⟨none, .store 143 (.tmp 7) (.tmp 27), 0, none⟩
    .done))))
    ⟨some 7, .alloc 143, 0, none⟩
    (.step 1 ⟨some 24, .call { callee := (.value (.func 85)), args := #[(.tmp 22), (.tmp 23)], argTypes := #[3, 3] }, 141, none⟩
    (.step 1 ⟨some 27, .call { callee := (.value (.func 86)), args := #[(.tmp 26)], argTypes := #[22] }, 143, none⟩
    (.step 2 ⟨none, .store 141 (.tmp 6) (.tmp 24), 0, none⟩
    (.step 2 ⟨none, .store 143 (.tmp 7) (.tmp 27), 0, none⟩
    .done)))))
    ⟨some 7, .alloc 143, 0, none⟩
    (.both ⟨some 24, .call { callee := (.value (.func 85)), args := #[(.tmp 22), (.tmp 23)], argTypes := #[3, 3] }, 141, none⟩
    (.both ⟨some 27, .call { callee := (.value (.func 86)), args := #[(.tmp 26)], argTypes := #[22] }, 143, none⟩
    (.step 1 ⟨some 6, .alloc 141, 0, none⟩
    (.step 2 ⟨none, .store 141 (.tmp 6) (.tmp 24), 0, none⟩
    (.step 2 ⟨none, .store 143 (.tmp 7) (.tmp 27), 0, none⟩
    .done)))
    ⟨some 6, .alloc 141, 0, none⟩
    (.step 1 ⟨some 27, .call { callee := (.value (.func 86)), args := #[(.tmp 26)], argTypes := #[22] }, 143, none⟩
    (.step 2 ⟨none, .store 141 (.tmp 6) (.tmp 24), 0, none⟩
    (.step 2 ⟨none, .store 143 (.tmp 7) (.tmp 27), 0, none⟩
    .done))))
    ⟨some 6, .alloc 141, 0, none⟩
    (.step 1 ⟨some 24, .call { callee := (.value (.func 85)), args := #[(.tmp 22), (.tmp 23)], argTypes := #[3, 3] }, 141, none⟩
    (.step 1 ⟨some 27, .call { callee := (.value (.func 86)), args := #[(.tmp 26)], argTypes := #[22] }, 143, none⟩
    (.step 2 ⟨none, .store 141 (.tmp 6) (.tmp 24), 0, none⟩
    (.step 2 ⟨none, .store 143 (.tmp 7) (.tmp 27), 0, none⟩
    .done)))))))))))
@[go_sem] def c74_10 : Cmd := .ops [⟨some 28, .move (.tmp 5), 22, none⟩,
    ⟨some 29, .slice 141 (.tmp 6) none none none, 22, none⟩,
    ⟨some 30, .call { callee := (.builtin .copy), args := #[(.tmp 28), (.tmp 29)], argTypes := #[22, 22] }, 3, none⟩]
@[go_sem] def c74_11 : Cmd := .still 4 [⟨some 31, .move (.tmp 5), 22, none⟩,
    ⟨some 32, .slice 22 (.tmp 31) (some (.const (.int .i64 8))) none none, 22, none⟩,
    ⟨some 33, .fieldAddr 44 (.tmp 1) 1, 0, none⟩,
    ⟨some 34, .load 22 (.tmp 33), 22, none⟩,
    ⟨some 35, .call { callee := (.builtin .copy), args := #[(.tmp 32), (.tmp 34)], argTypes := #[22, 22] }, 3, none⟩]
@[go_sem] def c74_12 : Cmd := .still 5 [⟨some 36, .move (.tmp 5), 22, none⟩,
    ⟨some 37, .move (.tmp 4), 3, none⟩,
    ⟨some 38, .binOp .add 3 (.const (.int .i64 8)) (.tmp 37) 3, 3, none⟩,
    ⟨some 39, .slice 22 (.tmp 36) (some (.tmp 38)) none none, 22, none⟩,
    ⟨some 40, .slice 143 (.tmp 7) none none none, 22, none⟩,
    ⟨some 41, .call { callee := (.builtin .copy), args := #[(.tmp 39), (.tmp 40)], argTypes := #[22, 22] }, 3, none⟩]
@[go_sem] def c74_13 : Cmd := .ops [⟨some 42, .move (.tmp 5), 22, none⟩,
    ⟨some 2, .assign (.tmp 42), 22, none⟩,
    ⟨some 3, .assign (.const (.int .i64 0)), 29, none⟩]
@[go_sem] def c74 : Cmd := (.seq c74_0 (.seq (.seq c74_1 c74_3) (.seq c74_4 (.seq (.seq c74_5 c74_7) (.seq c74_8 (.seq c74_9 (.seq c74_10 (.seq c74_11 (.seq c74_12 (.seq c74_13 .ret))))))))))
theorem b74 : Tryd.f74.body.map (comp 43) = some c74 := by kernel_rfl
theorem r74 : Tryd.f74.results.toList = [.tmp 2, .tmp 3] := by kernel_rfl
-- 75 pith/crc.Update
@[go_sem] def c75_0 : Cmd := .ops [⟨some 4, .assign (.const (.int .u32 0)), 46, none⟩]
@[go_sem] def c75_1 : Cmd := .ops [⟨some 8, .move (.tmp 0), 46, none⟩,
    ⟨some 9, .unOp .xor 46 (.tmp 8), 46, none⟩,
    ⟨some 5, .assign (.tmp 9), 46, none⟩]
@[go_sem] def c75_2 : Cmd := .ops [⟨some 10, .move (.tmp 1), 22, none⟩,
    ⟨some 11, .call { callee := (.builtin .len), args := #[(.tmp 10)], argTypes := #[22] }, 3, none⟩,
    ⟨some 12, .move (.const (.int .i64 0)), 3, none⟩]
@[go_sem] def c75_3 : Cmd := .ops [⟨some 13, .binOp .lss 3 (.tmp 12) (.tmp 11) 3, 0, none⟩]
@[go_sem] def c75_4 : Cmd := .cond (.tmp 13) .skip (.exit 0)
@[go_sem] def c75_5 : Cmd := .ops [⟨some 14, .indexAddr 22 (.tmp 10) (.tmp 12), 0, none⟩,
    ⟨some 15, .load 5 (.tmp 14), 5, none⟩,
    ⟨some 7, .assign (.tmp 15), 5, none⟩]
@[go_sem] def c75_6 : Cmd := .ops [⟨some 16, .move (.tmp 5), 46, none⟩,
    ⟨some 17, .binOp .shl 46 (.tmp 16) (.const (.int .u64 4)) 50, 46, none⟩,
    ⟨some 18, .move (.tmp 5), 46, none⟩,
    ⟨some 19, .binOp .shr 46 (.tmp 18) (.const (.int .u64 28)) 50, 46, none⟩,
    ⟨some 20, .convert 46 5 (.tmp 19), 5, none⟩,
    ⟨some 21, .move (.tmp 7), 5, none⟩,
    ⟨some 22, .binOp .shr 5 (.tmp 21) (.const (.int .u64 4)) 50, 5, none⟩,
    ⟨some 23, .binOp .xor 5 (.tmp 20) (.tmp 22) 5, 5, none⟩,
    ⟨some 24, .indexAddr 145 (.global 0) (.tmp 23), 0, none⟩,
    ⟨some 25, .load 46 (.tmp 24), 46, none⟩,
    ⟨some 26, .binOp .xor 46 (.tmp 17) (.tmp 25) 46, 46, none⟩,
    ⟨some 5, .assign (.tmp 26), 46, none⟩]
@[go_sem] def c75_7 : Cmd := .ops [⟨some 27, .move (.tmp 5), 46, none⟩,
    ⟨some 28, .binOp .shl 46 (.tmp 27) (.const (.int .u64 4)) 50, 46, none⟩,
    ⟨some 29, .move (.tmp 5), 46, none⟩,
    ⟨some 30, .binOp .shr 46 (.tmp 29) (.const (.int .u64 28)) 50, 46, none⟩,
    ⟨some 31, .convert 46 5 (.tmp 30), 5, none⟩,
    ⟨some 32, .move (.tmp 7), 5, none⟩,
    ⟨some 33, .binOp .and 5 (.tmp 32) (.const (.int .u8 15)) 5, 5, none⟩,
    ⟨some 34, .binOp .xor 5 (.tmp 31) (.tmp 33) 5, 5, none⟩,
    ⟨some 35, .indexAddr 145 (.global 0) (.tmp 34), 0, none⟩,
    ⟨some 36, .load 46 (.tmp 35), 46, none⟩,
    ⟨some 37, .binOp .xor 46 (.tmp 28) (.tmp 36) 46, 46, none⟩,
    ⟨some 5, .assign (.tmp 37), 46, none⟩]
@[go_sem] def c75_8 : Cmd := .block 1 (.seq c75_5 (.seq c75_6 c75_7))
@[go_sem] def c75_9 : Cmd := .ops [⟨some 38, .binOp .add 3 (.tmp 12) (.const (.int .i64 1)) 3, 3, none⟩,
    ⟨some 12, .move (.tmp 38), 3, none⟩]
def c75_L0 : Cmd := (.seq c75_3 (.seq c75_4 (.seq c75_8 c75_9)))
@[go_sem] def c75_10 : Cmd := .loop c75_L0
@[go_sem] def c75_11 : Cmd := .block 0 c75_10
@[go_sem] def c75_12 : Cmd := .ops [⟨some 39, .move (.tmp 5), 46, none⟩,
    ⟨some 40, .unOp .xor 46 (.tmp 39), 46, none⟩,
    ⟨some 4, .assign (.tmp 40), 46, none⟩]
@[go_sem] def c75 : Cmd := (.seq c75_0 (.seq c75_1 (.seq (.seq c75_2 c75_11) (.seq c75_12 .ret))))
theorem b75 : Tryd.f75.body.map (comp 41) = some c75 := by kernel_rfl
theorem r75 : Tryd.f75.results.toList = [.tmp 4] := by kernel_rfl
-- 76 pith/pithref2.Update
@[go_sem] def c76_0 : Cmd := .ops [⟨some 4, .assign (.const (.int .u32 0)), 46, none⟩]
@[go_sem] def c76_1 : Cmd := .ops [⟨some 8, .move (.tmp 0), 46, none⟩,
    ⟨some 9, .binOp .sub 46 (.const (.int .u32 4294967295)) (.tmp 8) 46, 46, none⟩,
    ⟨some 5, .assign (.tmp 9), 46, none⟩]
@[go_sem] def c76_2 : Cmd := .ops [⟨some 6, .assign (.const (.int .i64 0)), 3, none⟩]
@[go_sem] def c76_3 : Cmd := .ops [⟨some 10, .move (.tmp 6), 3, none⟩,
    ⟨some 11, .move (.tmp 1), 22, none⟩,
    ⟨some 12, .call { callee := (.builtin .len), args := #[(.tmp 11)], argTypes := #[22] }, 3, none⟩,
    ⟨some 13, .binOp .lss 3 (.tmp 10) (.tmp 12) 3, 4, none⟩]
@[go_sem] def c76_4 : Cmd := .cond (.tmp 13) .skip (.exit 0)
@[go_sem] def c76_5 : Cmd := .ops [⟨some 16, .move (.tmp 5), 46, none⟩,
    ⟨some 17, .move (.tmp 1), 22, none⟩,
    ⟨some 18, .move (.tmp 6), 3, none⟩,
    ⟨some 19, .indexAddr 22 (.tmp 17) (.tmp 18), 0, none⟩,
    ⟨some 20, .load 5 (.tmp 19), 5, none⟩,
    ⟨some 21, .convert 5 46 (.tmp 20), 46, none⟩,
    ⟨some 22, .binOp .mul 46 (.tmp 21) (.const (.int .u32 16777216)) 46, 46, none⟩,
    ⟨some 23, .binOp .xor 46 (.tmp 16) (.tmp 22) 46, 46, none⟩,
    ⟨some 5, .assign (.tmp 23), 46, none⟩]
@[go_sem] def c76_6 : Cmd := .ops [⟨some 7, .assign (.const (.int .i64 0)), 3, none⟩]
@[go_sem] def c76_7 : Cmd := .ops [⟨some 24, .move (.tmp 7), 3, none⟩,
    ⟨some 25, .binOp .lss 3 (.tmp 24) (.const (.int .i64 8)) 3, 4, none⟩]
@[go_sem] def c76_8 : Cmd := .cond (.tmp 25) .skip (.exit 2)
@[go_sem] def c76_9 : Cmd := .ops [⟨some 28, .move (.tmp 5), 46, none⟩,
    ⟨some 29, .call { callee := (.value (.func 87)), args := #[(.tmp 28)], argTypes := #[46] }, 46, none⟩,
    ⟨some 5, .assign (.tmp 29), 46, none⟩]
@[go_sem] def c76_10 : Cmd := .block 3 c76_9
@[go_sem] def c76_11 : Cmd := .ops [⟨some 26, .move (.tmp 7), 3, none⟩,
    ⟨some 27, .binOp .add 3 (.tmp 26) (.const (.int .i64 1)) 3, 3, none⟩,
    ⟨some 7, .assign (.tmp 27), 3, none⟩]
def c76_L0 : Cmd := (.seq (.seq c76_7 c76_8) (.seq c76_10 c76_11))
@[go_sem] def c76_12 : Cmd := .loop c76_L0
@[go_sem] def c76_13 : Cmd := .block 2 c76_12
@[go_sem] def c76_14 : Cmd := .block 1 (.seq c76_5 (.seq c76_6 c76_13))
@[go_sem] def c76_15 : Cmd := .ops [⟨some 14, .move (.tmp 6), 3, none⟩,
    ⟨some 15, .binOp .add 3 (.tmp 14) (.const (.int .i64 1)) 3, 3, none⟩,
    ⟨some 6, .assign (.tmp 15), 3, none⟩]
def c76_L1 : Cmd := (.seq (.seq c76_3 c76_4) (.seq c76_14 c76_15))
@[go_sem] def c76_16 : Cmd := .loop c76_L1
@[go_sem] def c76_17 : Cmd := .block 0 c76_16
@[go_sem] def c76_18 : Cmd := .ops [⟨some 30, .move (.tmp 5), 46, none⟩,
    ⟨some 31, .binOp .sub 46 (.const (.int .u32 4294967295)) (.tmp 30) 46, 46, none⟩,
    ⟨some 4, .assign (.tmp 31), 46, none⟩]
@[go_sem] def c76 : Cmd := (.seq c76_0 (.seq c76_1 (.seq (.seq c76_2 c76_17) (.seq c76_18 .ret))))
theorem b76 : Tryd.f76.body.map (comp 32) = some c76 := by kernel_rfl
theorem r76 : Tryd.f76.results.toList = [.tmp 4] := by kernel_rfl
-- 81 pith/frame.Decode
@[go_sem] def c81_0 : Cmd := .ops [⟨some 2, .alloc 44, 0, none⟩,
    ⟨some 3, .assign (.const (.int .i64 0)), 3, none⟩,
    ⟨some 4, .assign (.const (.int .i64 0)), 29, none⟩]
@[go_sem] def c81_1 : Cmd := .ops [⟨some 9, .move (.tmp 0), 22, none⟩,
    ⟨some 10, .call { callee := (.builtin .len), args := #[(.tmp 9)], argTypes := #[22] }, 3, none⟩,
    ⟨some 11, .binOp .lss 3 (.tmp 10) (.const (.int .i64 12)) 3, 4, none⟩]
@[go_sem] def c81_2 : Cmd := .ops [⟨some 12, .build 44 #[], 44, none⟩,
    ⟨none, .store 44 (.tmp 2) (.tmp 12), 0, none⟩,
    ⟨some 3, .assign (.const (.int .i64 0)), 3, none⟩,
    ⟨some 4, .assign (.const (.int .i64 32)), 29, none⟩]
@[go_sem] def c81_3 : Cmd := .cond (.tmp 11) (.seq c81_2 .ret) .skip
@[go_sem] def c81_4 : Cmd := .quiet [⟨some 13, .move (.tmp 0), 22, none⟩,
    ⟨some 14, .indexAddr 22 (.tmp 13) (.const (.int .i64 1)), 0, none⟩,
    ⟨some 15, .load 5 (.tmp 14), 5, none⟩,
    ⟨some 16, .convert 5 3 (.tmp 15), 3, none⟩,
    ⟨some 17, .move (.tmp 0), 22, none⟩,
    ⟨some 18, .indexAddr 22 (.tmp 17) (.const (.int .i64 2)), 0, none⟩,
    ⟨some 19, .load 5 (.tmp 18), 5, none⟩,
    ⟨some 20, .convert 5 3 (.tmp 19), 3, none⟩,
    ⟨some 21, .binOp .shl 3 (.tmp 20) (.const (.int .u64 8)) 50, 3, none⟩,
    ⟨some 22, .move (.tmp 0), 22, none⟩,
    ⟨some 23, .indexAddr 22 (.tmp 22) (.const (.int .i64 3)), 0, none⟩,
    ⟨some 24, .load 5 (.tmp 23), 5, none⟩,
    ⟨some 25, .convert 5 3 (.tmp 24), 3, none⟩,
    ⟨some 26, .binOp .add 3 (.tmp 21) (.tmp 25) 3, 3, none⟩,
    ⟨some 5, .assign (.tmp 16), 3, none⟩,
    ⟨some 6, .assign (.tmp 26), 3, none⟩]
@[go_sem] def c81_5 : Cmd := .draw (.step 3 ⟨some 27, .move (.tmp 5), 3, none⟩
    (.step 1 ⟨some 28, .call { callee := (.value (.func 84)), args := #[(.tmp 27)], argTypes := #[3] }, 4, none⟩
    (.step 3 ⟨some 29, .unOp .not 4 (.tmp 28), 4, none⟩
    (.step 3 ⟨some 30, .move (.tmp 29), 4, none⟩
    (.step 3 ⟨some 31, .move (.tmp 6), 3, some (30, false)⟩
    (.step 3 ⟨some 32, .binOp .gtr 3 (.tmp 31) (.const (.int .i64 1024)) 3, 4, some (30, false)⟩
    (.step 3 ⟨some 33, .pick (.tmp 30) (.const (.bool true)) (.tmp 32), 4, none⟩
    (.step 3 ⟨some 34, .move (.tmp 33), 4, none⟩
    (.step 3 ⟨some 35, .move (.tmp 0), 22, some (34, false)⟩
    (.step 3 ⟨some 36, .call { callee := (.builtin .len), args := #[(.tmp 35)], argTypes := #[22] }, 3, some (34, false)⟩
    (.step 3 ⟨some 37, .move (.tmp 6), 3, some (34, false)⟩
    (.step 3 ⟨some 38, .binOp .add 3 (.const (.int .i64 8)) (.tmp 37) 3, 3, some (34, false)⟩
    (.step 3 ⟨some 39, .binOp .add 3 (.tmp 38) (.const (.int .i64 4)) 3, 3, some (34, false)⟩
    (.step 3 ⟨some 40, .binOp .lss 3 (.tmp 36) (.tmp 39) 3, 4, some (34, false)⟩
    (.step 3 ⟨some 41, .pick (.tmp 34) (.const (.bool true)) (.tmp 40), 4, none⟩
    (.step 3 ⟨some 42, .move (.tmp 41), 4, none⟩
    (.step 3 ⟨some 43, .move (.tmp 0), 22, some (42, false)⟩
    (.step 3 ⟨some 44, .slice 22 (.tmp 43) none (some (.const (.int .i64 8))) none, 22, some (42, false)⟩
    (.step 3 ⟨some 45, .sliceToArrayPointer 141 (.tmp 44), 0, some (42, false)⟩
    (.step 0 ⟨some 46, .load 141 (.tmp 45), 141, some (42, false)⟩
    (.step 3 ⟨some 47, .move (.tmp 5), 3, some (42, false)⟩
    (.step 3 ⟨some 48, .move (.tmp 6), 3, some (42, false)⟩
    (.step 1 ⟨some 49, .call { callee := (.value (.func 85)), args := #[(.tmp 47), (.tmp 48)], argTypes := #[3, 3] }, 141, some (42, false)⟩
    (.step 1 ⟨some 50, .binOp .neq 141 (.tmp 46) (.tmp 49) 141, 4, some (42, false)⟩
    (.step 3 ⟨some 51, .pick (.tmp 42) (.const (.bool true)) (.tmp 50), 4, none⟩
    .done)))))))))))))))))))))))))
@[go_sem] def c81_6 : Cmd := .ops [⟨some 52, .build 44 #[], 44, none⟩,
    ⟨none, .store 44 (.tmp 2) (.tmp 52), 0, none⟩,
    ⟨some 3, .assign (.const (.int .i64 0)), 3, none⟩,
    ⟨some 4, .assign (.const (.int .i64 32)), 29, none⟩]
@[go_sem] def c81_7 : Cmd := .cond (.tmp 51) (.seq c81_6 .ret) .skip
@[go_sem] def c81_8 : Cmd := .ops [⟨some 53, .move (.tmp 0), 22, none⟩,
    ⟨some 54, .move (.tmp 6), 3, none⟩,
    ⟨some 55, .binOp .add 3 (.const (.int .i64 8)) (.tmp 54) 3, 3, none⟩,
    ⟨some 56, .slice 22 (.tmp 53) (some (.const (.int .i64 8))) (some (.tmp 55)) none, 22, none⟩,
    ⟨some 7, .assign (.tmp 56), 22, none⟩]
@[go_sem] def c81_9 : Cmd := .draw (.step 3 ⟨some 57, .move (.tmp 0), 22, none⟩
    (.step 3 ⟨some 58, .move (.tmp 6), 3, none⟩
    (.step 3 ⟨some 59, .binOp .add 3 (.const (.int .i64 8)) (.tmp 58) 3, 3, none⟩
    (.step 3 ⟨some 60, .move (.tmp 6), 3, none⟩
    (.step 3 ⟨some 61, .binOp .add 3 (.const (.int .i64 8)) (.tmp 60) 3, 3, none⟩
    (.step 3 ⟨some 62, .binOp .add 3 (.tmp 61) (.const (.int .i64 4)) 3, 3, none⟩
    (.step 3 ⟨some 63, .slice 22 (.tmp 57) (some (.tmp 59)) (some (.tmp 62)) none, 22, none⟩
    (.step 3 ⟨some 64, .sliceToArrayPointer 143 (.tmp 63), 0, none⟩
    (.step 0 ⟨some 65, .load 143 (.tmp 64), 143, none⟩
    (.step 3 ⟨some 66, .move (.tmp 7), 22, none⟩
    (.step 1 ⟨some 67, .call { callee := (.value (.func 86)), args := #[(.tmp 66)], argTypes := #[22] }, 143, none⟩
    (.step 1 ⟨some 68, .binOp .neq 143 (.tmp 65) (.tmp 67) 143, 4, none⟩
    .done))))))))))))
@[go_sem] def c81_10 : Cmd := .ops [⟨some 69, .build 44 #[], 44, none⟩,
    ⟨none, .store 44 (.tmp 2) (.tmp 69), 0, none⟩,
    ⟨some 3, .assign (.const (.int .i64 0)), 3, none⟩,
    ⟨some 4, .assign (.const (.int .i64 32)), 29, none⟩]
@[go_sem] def c81_11 : Cmd := .cond (.tmp 68) (.seq c81_10 .ret) .skip
@[go_sem] def c81_12 : Cmd := .ops [⟨some 70, .move (.tmp 6), 3, none⟩,
    ⟨some 71, .makeSlice 22 (.tmp 70) (.tmp 70), 22, none⟩,
    ⟨some 8, .assign (.tmp 71), 22, none⟩]
@[go_sem] def c81_13 : Cmd := .ops [⟨some 72, .move (.tmp 8), 22, none⟩,
    ⟨some 73, .move (.tmp 7), 22, none⟩,
    ⟨some 74, .call { callee := (.builtin .copy), args := #[(.tmp 72), (.tmp 73)], argTypes := #[22, 22] }, 3, none⟩]
@[go_sem] def c81_14 : Cmd := .ops [⟨some 75, .move (.tmp 5), 3, none⟩,
    ⟨some 76, .move (.tmp 8), 22, none⟩,
    ⟨some 77, .build 44 #[(0, (.tmp 75)), (1, (.tmp 76))], 44, none⟩,
    ⟨some 78, .move (.tmp 6), 3, none⟩,
    ⟨some 79, .binOp .add 3 (.const (.int .i64 8)) (.tmp 78) 3, 3, none⟩,
    ⟨some 80, .binOp .add 3 (.tmp 79) (.const (.int .i64 4)) 3, 3, none⟩,
    ⟨none, .store 44 (.tmp 2) (.tmp 77), 0, none⟩,
    ⟨some 3, .assign (.tmp 80), 3, none⟩,
    ⟨some 4, .assign (.const (.int .i64 0)), 29, none⟩]
@[go_sem] def c81 : Cmd := (.seq c81_0 (.seq (.seq c81_1 c81_3) (.seq c81_4 (.seq (.seq c81_5 c81_7) (.seq c81_8 (.seq (.seq c81_9 c81_11) (.seq c81_12 (.seq c81_13 (.seq c81_14 .ret)))))))))
theorem b81 : Tryd.f81.body.map (comp 81) = some c81 := by kernel_rfl
theorem r81 : Tryd.f81.results.toList = [.cell 2 44, .tmp 3, .tmp 4] := by kernel_rfl
-- 82 (*pith/files.Reader).end
@[go_sem] def c82_0 : Cmd := .ops [⟨some 3, .box 44 (.tmp 1), 0, none⟩,
    ⟨some 4, .assign (.const (.int .i64 0)), 29, none⟩]
@[go_sem] def c82_1 : Cmd := .draw (.step 3 ⟨some 7, .fieldAddr 44 (.tmp 3) 0, 0, none⟩
    (.step 0 ⟨some 8, .load 3 (.tmp 7), 3, none⟩
    (.step 3 ⟨some 9, .binOp .neq 3 (.tmp 8) (.const (.int .i64 3)) 3, 4, none⟩
    (.step 3 ⟨some 10, .move (.tmp 9), 4, none⟩
    (.step 3 ⟨some 11, .fieldAddr 44 (.tmp 3) 1, 0, some (10, false)⟩
    (.step 0 ⟨some 12, .load 22 (.tmp 11), 22, some (10, false)⟩
    (.step 3 ⟨some 14, .move (.tmp 0), 78, some (10, false)⟩
    (.step 3 ⟨some 15, .nilCheck (.tmp 14), 0, some (10, false)⟩
    (.step 3 ⟨some 16, .fieldAddr 122 (.tmp 15) 3, 0, some (10, false)⟩
    (.step 0 ⟨some 17, .load 3 (.tmp 16), 3, some (10, false)⟩
    (.both ⟨some 13, .convert 22 9 (.tmp 12), 9, some (10, false)⟩
    (.step 1 ⟨some 18, .call { callee := (.value (.func 49)), args := #[(.tmp 17)], argTypes := #[3] }, 22, some (10, false)⟩
    (.step 1 ⟨some 19, .convert 22 9 (.tmp 18), 9, some (10, false)⟩
    (.step 3 ⟨some 20, .binOp .neq 9 (.tmp 13) (.tmp 19) 9, 4, some (10, false)⟩
    (.step 3 ⟨some 21, .pick (.tmp 10) (.const (.bool true)) (.tmp 20), 4, none⟩
    .done))))
    ⟨some 18, .call { callee := (.value (.func 49)), args := #[(.tmp 17)], argTypes := #[3] }, 22, some (10, false)⟩
    (.both ⟨some 13, .convert 22 9 (.tmp 12), 9, some (10, false)⟩
    (.step 1 ⟨some 19, .convert 22 9 (.tmp 18), 9, some (10, false)⟩
    (.step 3 ⟨some 20, .binOp .neq 9 (.tmp 13) (.tmp 19) 9, 4, some (10, false)⟩
    (.step 3 ⟨some 21, .pick (.tmp 10) (.const (.bool true)) (.tmp 20), 4, none⟩
    .done)))
    ⟨some 19, .convert 22 9 (.tmp 18), 9, some (10, false)⟩
    (.step 1 ⟨some 13, .convert 22 9 (.tmp 12), 9, some (10, false)⟩
    (.step 3 ⟨some 20, .binOp .neq 9 (.tmp 13) (.tmp 19) 9, 4, some (10, false)⟩
    (.step 3 ⟨some 21, .pick (.tmp 10) (.const (.bool true)) (.tmp 20), 4, none⟩
    .done)))))))))))))))
@[go_sem] def c82_2 : Cmd := .ops [⟨some 4, .assign (.const (.int .i64 90)), 29, none⟩]
@[go_sem] def c82_3 : Cmd := .cond (.tmp 21) (.seq c82_2 .ret) .skip
@[go_sem] def c82_4 : Cmd := .draw (.step 3 ⟨some 23, .move (.tmp 0), 78, none⟩
    (.step 3 ⟨some 24, .nilCheck (.tmp 23), 0, none⟩
    (.step 3 ⟨some 25, .fieldAddr 122 (.tmp 24) 0, 0, none⟩
    (.step 0 ⟨some 26, .load 25 (.tmp 25), 25, none⟩
    (.step 3 ⟨some 27, .move (.tmp 0), 78, none⟩
    (.step 3 ⟨some 28, .nilCheck (.tmp 27), 0, none⟩
    (.step 3 ⟨some 29, .fieldAddr 122 (.tmp 28) 1, 0, none⟩
    (.step 0 ⟨some 30, .load 9 (.tmp 29), 9, none⟩
    (.step 3 ⟨some 31, .move (.tmp 0), 78, none⟩
    (.step 3 ⟨some 32, .nilCheck (.tmp 31), 0, none⟩
    (.step 3 ⟨some 33, .fieldAddr 122 (.tmp 32) 2, 0, none⟩
    (.step 0 ⟨some 34, .load 3 (.tmp 33), 3, none⟩
    (.step 1 ⟨some 35, .call { callee := (.value (.func 17)), args := #[(.tmp 26), (.tmp 30), (.tmp 34), (.const (.int .i64 1))], argTypes := #[25, 9, 3, 3] }, 36, none⟩
    (.step 3 ⟨some 22, .move (.tmp 35), 36, none⟩
    (.step 3 ⟨some 36, .extract (.tmp 22) 0, 22, none⟩
    (.step 3 ⟨some 37, .extract (.tmp 22) 1, 29, none⟩
    (.step 3 ⟨some 5, .assign (.tmp 36), 22, none⟩
    (.step 3 ⟨some 6, .assign (.tmp 37), 29, none⟩
    .done))))))))))))))))))
@[go_sem] def c82_5 : Cmd := .ops [⟨some 38, .move (.tmp 6), 29, none⟩,
    ⟨some 39, .binOp .eql 29 (.tmp 38) (.const (.int .i64 0)) 29, 4, none⟩,
    ⟨some 40, .move (.tmp 39), 4, none⟩,
    ⟨some 41, .move (.tmp 5), 22, some (40, true)⟩,
    ⟨some 42, .call { callee := (.builtin .len), args := #[(.tmp 41)], argTypes := #[22] }, 3, some (40, true)⟩,
    ⟨some 43, .binOp .gtr 3 (.tmp 42) (.const (.int .i64 0)) 3, 4, some (40, true)⟩,
    ⟨some 44, .pick (.tmp 40) (.tmp 43) (.const (.bool false)), 4, none⟩]
@[go_sem] def c82_6 : Cmd := .ops [⟨some 6, .assign (.const (.int .i64 90)), 29, none⟩]
@[go_sem] def c82_7 : Cmd := .cond (.tmp 44) c82_6 .skip
@[go_sem] def c82_8 : Cmd := .ops [⟨some 45, .move (.tmp 6), 29, none⟩,
    ⟨some 4, .assign (.tmp 45), 29, none⟩]
@[go_sem] def c82 : Cmd := (.seq c82_0 (.seq (.seq c82_1 c82_3) (.seq c82_4 (.seq (.seq c82_5 c82_7) (.seq c82_8 .ret)))))
theorem b82 : Tryd.f82.body.map (comp 46) = some c82 := by kernel_rfl
theorem r82 : Tryd.f82.results.toList = [.tmp 4] := by kernel_rfl
-- 83 pith/pithref3.four
@[go_sem] def c83_0 : Cmd := .ops [⟨some 2, .assign (.const (.slice none 0 0)), 22, none⟩]
@[go_sem] def c83_1 : Cmd := .ops [⟨some 3, .move (.tmp 0), 46, none⟩,
    ⟨some 4, .binOp .shr 46 (.tmp 3) (.const (.int .u64 24)) 50, 46, none⟩,
    ⟨some 5, .convert 46 5 (.tmp 4), 5, none⟩,
    ⟨some 6, .move (.tmp 0), 46, none⟩,
    ⟨some 7, .binOp .shr 46 (.tmp 6) (.const (.int .u64 16)) 50, 46, none⟩,
    ⟨some 8, .convert 46 5 (.tmp 7), 5, none⟩,
    ⟨some 9, .move (.tmp 0), 46, none⟩,
    ⟨some 10, .binOp .shr 46 (.tmp 9) (.const (.int .u64 8)) 50, 46, none⟩,
    ⟨some 11, .convert 46 5 (.tmp 10), 5, none⟩,
    ⟨some 12, .move (.tmp 0), 46, none⟩,
    ⟨some 13, .convert 46 5 (.tmp 12), 5, none⟩,
    ⟨some 14, .buildSlice 22 4 #[(0, (.tmp 5)), (1, (.tmp 8)), (2, (.tmp 11)), (3, (.tmp 13))], 22, none⟩,
    ⟨some 2, .assign (.tmp 14), 22, none⟩]
@[go_sem] def c83 : Cmd := (.seq c83_0 (.seq c83_1 .ret))
theorem b83 : Tryd.f83.body.map (comp 15) = some c83 := by kernel_rfl
theorem r83 : Tryd.f83.results.toList = [.tmp 2] := by kernel_rfl
-- 84 pith/frame.kind
@[go_sem] def c84_0 : Cmd := .ops [⟨some 2, .assign (.const (.bool false)), 4, none⟩]
@[go_sem] def c84_1 : Cmd := .ops [⟨some 3, .move (.tmp 0), 3, none⟩,
    ⟨some 4, .binOp .eql 3 (.tmp 3) (.const (.int .i64 1)) 3, 4, none⟩,
    ⟨some 5, .move (.tmp 4), 4, none⟩,
    ⟨some 6, .move (.tmp 0), 3, some (5, false)⟩,
    ⟨some 7, .binOp .eql 3 (.tmp 6) (.const (.int .i64 2)) 3, 4, some (5, false)⟩,
    ⟨some 8, .pick (.tmp 5) (.const (.bool true)) (.tmp 7), 4, none⟩,
    ⟨some 9, .move (.tmp 8), 4, none⟩,
    ⟨some 10, .move (.tmp 0), 3, some (9, false)⟩,
    ⟨some 11, .binOp .eql 3 (.tmp 10) (.const (.int .i64 3)) 3, 4, some (9, false)⟩,
    ⟨some 12, .pick (.tmp 9) (.const (.bool true)) (.tmp 11), 4, none⟩,
    ⟨some 2, .assign (.tmp 12), 4, none⟩]
@[go_sem] def c84 : Cmd := (.seq c84_0 (.seq c84_1 .ret))
theorem b84 : Tryd.f84.body.map (comp 13) = some c84 := by kernel_rfl
theorem r84 : Tryd.f84.results.toList = [.tmp 2] := by kernel_rfl
-- 85 pith/frame.headOf
@[go_sem] def c85_0 : Cmd := .ops [⟨some 4, .alloc 141, 0, none⟩]
@[go_sem] def c85_1 : Cmd := .ops [⟨some 7, .move (.tmp 0), 3, none⟩,
    ⟨some 8, .convert 3 5 (.tmp 7), 5, none⟩,
    ⟨some 9, .move (.tmp 1), 3, none⟩,
    ⟨some 10, .binOp .shr 3 (.tmp 9) (.const (.int .u64 8)) 50, 3, none⟩,
    ⟨some 11, .convert 3 5 (.tmp 10), 5, none⟩,
    ⟨some 12, .move (.tmp 1), 3, none⟩,
    ⟨some 13, .convert 3 5 (.tmp 12), 5, none⟩,
    ⟨some 14, .build 141 #[(0, (.const (.int .u8 112))), (1, (.tmp 8)), (2, (.tmp 11)), (3, (.tmp 13))], 141, none⟩,
    ⟨some 5, .alloc 141, 0, none⟩,
    ⟨none, .store 141 (.tmp 5) (.tmp 14), 0, none⟩]
@[go_sem] def c85_2 : Cmd := .ops [⟨some 15, .slice 141 (.tmp 5) none (some (.const (.int .i64 4))) none, 22, none⟩,
    ⟨some 16, .call { callee := (.value (.func 86)), args := #[(.tmp 15)], argTypes := #[22] }, 143, none⟩,
    ⟨some 6, .alloc 143, 0, none⟩,
    ⟨none, .store 143 (.tmp 6) (.tmp 16), 0, none⟩]
@[go_sem] def c85_3 : Cmd := .still 2 [⟨some 17, .slice 141 (.tmp 5) (some (.const (.int .i64 4))) none none, 22, none⟩,
    ⟨some 18, .slice 143 (.tmp 6) none none none, 22, none⟩,
    ⟨some 19, .call { callee := (.builtin .copy), args := #[(.tmp 17), (.tmp 18)], argTypes := #[22, 22] }, 3, none⟩]
@[go_sem] def c85_4 : Cmd := .ops [⟨some 20, .load 141 (.tmp 5), 141, none⟩,
    ⟨none, .store 141 (.tmp 4) (.tmp 20), 0, none⟩]
@[go_sem] def c85 : Cmd := (.seq c85_0 (.seq c85_1 (.seq c85_2 (.seq c85_3 (.seq c85_4 .ret)))))
theorem b85 : Tryd.f85.body.map (comp 21) = some c85 := by kernel_rfl
theorem r85 : Tryd.f85.results.toList = [.cell 4 141] := by kernel_rfl
-- 86 pith/frame.sum
@[go_sem] def c86_0 : Cmd := .ops [⟨some 2, .alloc 143, 0, none⟩]
@[go_sem] def c86_1 : Cmd := .ops [⟨some 4, .move (.tmp 0), 22, none⟩,
    ⟨some 5, .call { callee := (.value (.func 92)), args := #[(.tmp 4)], argTypes := #[22] }, 46, none⟩,
    ⟨some 3, .assign (.tmp 5), 46, none⟩]
@[go_sem] def c86_2 : Cmd := .ops [⟨some 6, .move (.tmp 3), 46, none⟩,
    ⟨some 7, .binOp .shr 46 (.tmp 6) (.const (.int .u64 24)) 50, 46, none⟩,
    ⟨some 8, .convert 46 5 (.tmp 7), 5, none⟩,
    ⟨some 9, .move (.tmp 3), 46, none⟩,
    ⟨some 10, .binOp .shr 46 (.tmp 9) (.const (.int .u64 16)) 50, 46, none⟩,
    ⟨some 11, .convert 46 5 (.tmp 10), 5, none⟩,
    ⟨some 12, .move (.tmp 3), 46, none⟩,
    ⟨some 13, .binOp .shr 46 (.tmp 12) (.const (.int .u64 8)) 50, 46, none⟩,
    ⟨some 14, .convert 46 5 (.tmp 13), 5, none⟩,
    ⟨some 15, .move (.tmp 3), 46, none⟩,
    ⟨some 16, .convert 46 5 (.tmp 15), 5, none⟩,
    ⟨some 17, .build 143 #[(0, (.tmp 8)), (1, (.tmp 11)), (2, (.tmp 14)), (3, (.tmp 16))], 143, none⟩,
    ⟨none, .store 143 (.tmp 2) (.tmp 17), 0, none⟩]
@[go_sem] def c86 : Cmd := (.seq c86_0 (.seq c86_1 (.seq c86_2 .ret)))
theorem b86 : Tryd.f86.body.map (comp 18) = some c86 := by kernel_rfl
theorem r86 : Tryd.f86.results.toList = [.cell 2 143] := by kernel_rfl
-- 87 pith/pithref2.step
@[go_sem] def c87_0 : Cmd := .ops [⟨some 2, .assign (.const (.int .u32 0)), 46, none⟩]
@[go_sem] def c87_1 : Cmd := .ops [⟨some 3, .move (.tmp 0), 46, none⟩,
    ⟨some 4, .binOp .geq 46 (.tmp 3) (.const (.int .u32 2147483648)) 46, 4, none⟩]
@[go_sem] def c87_2 : Cmd := .ops [⟨some 5, .move (.tmp 0), 46, none⟩,
    ⟨some 6, .binOp .mul 46 (.tmp 5) (.const (.int .u32 2)) 46, 46, none⟩,
    ⟨some 7, .binOp .xor 46 (.tmp 6) (.const (.int .u32 79764919)) 46, 46, none⟩,
    ⟨some 2, .assign (.tmp 7), 46, none⟩]
@[go_sem] def c87_3 : Cmd := .cond (.tmp 4) (.seq c87_2 .ret) .skip
@[go_sem] def c87_4 : Cmd := .ops [⟨some 8, .move (.tmp 0), 46, none⟩,
    ⟨some 9, .binOp .mul 46 (.tmp 8) (.const (.int .u32 2)) 46, 46, none⟩,
    ⟨some 2, .assign (.tmp 9), 46, none⟩]
@[go_sem] def c87 : Cmd := (.seq c87_0 (.seq (.seq c87_1 c87_3) (.seq c87_4 .ret)))
theorem b87 : Tryd.f87.body.map (comp 10) = some c87 := by kernel_rfl
theorem r87 : Tryd.f87.results.toList = [.tmp 2] := by kernel_rfl
-- 92 pith/crc.Sum
@[go_sem] def c92_0 : Cmd := .ops [⟨some 2, .assign (.const (.int .u32 0)), 46, none⟩]
@[go_sem] def c92_1 : Cmd := .ops [⟨some 3, .move (.tmp 0), 22, none⟩,
    ⟨some 4, .call { callee := (.value (.func 75)), args := #[(.const (.int .u32 0)), (.tmp 3)], argTypes := #[46, 22] }, 46, none⟩,
    ⟨some 2, .assign (.tmp 4), 46, none⟩]
@[go_sem] def c92 : Cmd := (.seq c92_0 (.seq c92_1 .ret))
theorem b92 : Tryd.f92.body.map (comp 5) = some c92 := by kernel_rfl
theorem r92 : Tryd.f92.results.toList = [.tmp 2] := by kernel_rfl
-- 99 cmp.Less[string]
@[go_sem] def c99_0 : Cmd := .ops [⟨some 4, .assign (.const (.bool false)), 4, none⟩]
@[go_sem] def c99_1 : Cmd := .ops [⟨some 5, .move (.tmp 0), 9, none⟩,
    ⟨some 6, .call { callee := (.value (.func 109)), args := #[(.tmp 5)], argTypes := #[9] }, 4, none⟩,
    ⟨some 7, .move (.tmp 6), 4, none⟩,
    ⟨some 8, .move (.tmp 1), 9, some (7, true)⟩,
    ⟨some 9, .call { callee := (.value (.func 109)), args := #[(.tmp 8)], argTypes := #[9] }, 4, some (7, true)⟩,
    ⟨some 10, .unOp .not 4 (.tmp 9), 4, some (7, true)⟩,
    ⟨some 11, .pick (.tmp 7) (.tmp 10) (.const (.bool false)), 4, none⟩,
    ⟨some 12, .move (.tmp 11), 4, none⟩,
    ⟨some 13, .move (.tmp 0), 9, some (12, false)⟩,
    ⟨some 14, .move (.tmp 1), 9, some (12, false)⟩,
    ⟨some 15, .binOp .lss 9 (.tmp 13) (.tmp 14) 9, 4, some (12, false)⟩,
    ⟨some 16, .pick (.tmp 12) (.const (.bool true)) (.tmp 15), 4, none⟩,
    ⟨some 4, .assign (.tmp 16), 4, none⟩]
@[go_sem] def c99 : Cmd := (.seq c99_0 (.seq c99_1 .ret))
theorem b99 : Tryd.f99.body.map (comp 17) = some c99 := by kernel_rfl
theorem r99 : Tryd.f99.results.toList = [.tmp 4] := by kernel_rfl
-- 109 cmp.isNaN[string]
@[go_sem] def c109_0 : Cmd := .ops [⟨some 2, .assign (.const (.bool false)), 4, none⟩]
@[go_sem] def c109_1 : Cmd := .ops [⟨some 3, .move (.tmp 0), 9, none⟩,
    ⟨some 4, .move (.tmp 0), 9, none⟩,
    ⟨some 5, .binOp .neq 9 (.tmp 3) (.tmp 4) 9, 4, none⟩,
    ⟨some 2, .assign (.tmp 5), 4, none⟩]
@[go_sem] def c109 : Cmd := (.seq c109_0 (.seq c109_1 .ret))
theorem b109 : Tryd.f109.body.map (comp 6) = some c109 := by kernel_rfl
theorem r109 : Tryd.f109.results.toList = [.tmp 2] := by kernel_rfl
-- 131 gosem.cut.vars
@[go_sem] def c131_0 : Cmd := .ops [⟨some 0, .build 145 #[(0, (.const (.int .u32 0))), (1, (.const (.int .u32 79764919))), (2, (.const (.int .u32 159529838))), (3, (.const (.int .u32 222504665))), (4, (.const (.int .u32 319059676))), (5, (.const (.int .u32 398814059))), (6, (.const (.int .u32 445009330))), (7, (.const (.int .u32 507990021))), (8, (.const (.int .u32 638119352))), (9, (.const (.int .u32 583659535))), (10, (.const (.int .u32 797628118))), (11, (.const (.int .u32 726387553))), (12, (.const (.int .u32 890018660))), (13, (.const (.int .u32 835552979))), (14, (.const (.int .u32 1015980042))), (15, (.const (.int .u32 944750013)))], 145, none⟩,
    ⟨none, .store 145 (.global 0) (.tmp 0), 0, none⟩]
@[go_sem] def c131 : Cmd := c131_0
theorem b131 : Tryd.f131.body.map (comp 1) = some c131 := by kernel_rfl
theorem r131 : Tryd.f131.results.toList = [] := by kernel_rfl
@[go_sem] theorem ty3 : tyOf Tryd.prog 3 = some ⟨(.int .i64), 1, 8, (.int .i64 0)⟩ := by kernel_rfl
@[go_sem] theorem ty4 : tyOf Tryd.prog 4 = some ⟨.bool, 1, 1, (.bool false)⟩ := by kernel_rfl
@[go_sem] theorem ty5 : tyOf Tryd.prog 5 = some ⟨(.int .u8), 1, 1, (.int .u8 0)⟩ := by kernel_rfl
@[go_sem] theorem ty9 : tyOf Tryd.prog 9 = some ⟨.str, 1, 16, (.string ⟨#[]⟩)⟩ := by kernel_rfl
@[go_sem] theorem ty20 : tyOf Tryd.prog 20 = some ⟨.iface, 1, 16, .nilIface⟩ := by kernel_rfl
@[go_sem] theorem ty22 : tyOf Tryd.prog 22 = some ⟨(.sl 5), 1, 24, (.slice none 0 0)⟩ := by kernel_rfl
@[go_sem] theorem ty23 : tyOf Tryd.prog 23 = some ⟨(.sl 22), 1, 24, (.slice none 0 0)⟩ := by kernel_rfl
@[go_sem] theorem ty25 : tyOf Tryd.prog 25 = some ⟨(.ptr 86), 1, 8, (.pointer none)⟩ := by kernel_rfl
@[go_sem] theorem ty29 : tyOf Tryd.prog 29 = some ⟨(.int .i64), 1, 8, (.int .i64 0)⟩ := by kernel_rfl
@[go_sem] theorem ty38 : tyOf Tryd.prog 38 = some ⟨(.sl 44), 1, 24, (.slice none 0 0)⟩ := by kernel_rfl
@[go_sem] theorem ty44 : tyOf Tryd.prog 44 = some ⟨(.st [(0, 3), (1, 22)]), 2, 32, (.agg #[(.int .i64 0), (.slice none 0 0)])⟩ := by kernel_rfl
@[go_sem] theorem ty46 : tyOf Tryd.prog 46 = some ⟨(.int .u32), 1, 4, (.int .u32 0)⟩ := by kernel_rfl
@[go_sem] theorem ty50 : tyOf Tryd.prog 50 = some ⟨(.int .u64), 1, 8, (.int .u64 0)⟩ := by kernel_rfl
@[go_sem] theorem ty52 : tyOf Tryd.prog 52 = some ⟨(.ptr 103), 1, 8, (.pointer none)⟩ := by kernel_rfl
@[go_sem] theorem ty60 : tyOf Tryd.prog 60 = some ⟨.fn, 1, 8, .nilFunc⟩ := by kernel_rfl
@[go_sem] theorem ty65 : tyOf Tryd.prog 65 = some ⟨(.sl 9), 1, 24, (.slice none 0 0)⟩ := by kernel_rfl
@[go_sem] theorem ty67 : tyOf Tryd.prog 67 = some ⟨(.sl 117), 1, 24, (.slice none 0 0)⟩ := by kernel_rfl
@[go_sem] theorem ty73 : tyOf Tryd.prog 73 = some ⟨(.sl 3), 1, 24, (.slice none 0 0)⟩ := by kernel_rfl
@[go_sem] theorem ty78 : tyOf Tryd.prog 78 = some ⟨(.ptr 122), 1, 8, (.pointer none)⟩ := by kernel_rfl
@[go_sem] theorem ty82 : tyOf Tryd.prog 82 = some ⟨(.map 9 90), 1, 8, (.map none)⟩ := by kernel_rfl
@[go_sem] theorem ty83 : tyOf Tryd.prog 83 = some ⟨(.map 90 4), 1, 8, (.map none)⟩ := by kernel_rfl
@[go_sem] theorem ty84 : tyOf Tryd.prog 84 = some ⟨(.sl 130), 1, 24, (.slice none 0 0)⟩ := by kernel_rfl
@[go_sem] theorem ty86 : tyOf Tryd.prog 86 = some ⟨(.st [(0, 3), (1, 82), (2, 82), (3, 84), (4, 83), (5, 4), (6, 3), (7, 3)]), 8, 80, (.agg #[(.int .i64 0), (.map none), (.map none), (.slice none 0 0), (.map none), (.bool false), (.int .i64 0), (.int .i64 0)])⟩ := by kernel_rfl
@[go_sem] theorem ty90 : tyOf Tryd.prog 90 = some ⟨(.ptr 94), 1, 8, (.pointer none)⟩ := by kernel_rfl
@[go_sem] theorem ty94 : tyOf Tryd.prog 94 = some ⟨(.st [(0, 22), (1, 3)]), 2, 32, (.agg #[(.slice none 0 0), (.int .i64 0)])⟩ := by kernel_rfl
@[go_sem] theorem ty101 : tyOf Tryd.prog 101 = some ⟨.fn, 1, 8, .nilFunc⟩ := by kernel_rfl
@[go_sem] theorem ty103 : tyOf Tryd.prog 103 = some ⟨(.st [(0, 25), (1, 9), (2, 3), (3, 46), (4, 3), (5, 4)]), 6, 56, (.agg #[(.pointer none), (.string ⟨#[]⟩), (.int .i64 0), (.int .u32 0), (.int .i64 0), (.bool false)])⟩ := by kernel_rfl
@[go_sem] theorem ty107 : tyOf Tryd.prog 107 = some ⟨.fn, 1, 8, .nilFunc⟩ := by kernel_rfl
@[go_sem] theorem ty110 : tyOf Tryd.prog 110 = some ⟨(.sl 101), 1, 24, (.slice none 0 0)⟩ := by kernel_rfl
@[go_sem] theorem ty114 : tyOf Tryd.prog 114 = some ⟨.fn, 1, 8, .nilFunc⟩ := by kernel_rfl
@[go_sem] theorem ty117 : tyOf Tryd.prog 117 = some ⟨(.st [(0, 9), (1, 22)]), 2, 40, (.agg #[(.string ⟨#[]⟩), (.slice none 0 0)])⟩ := by kernel_rfl
@[go_sem] theorem ty122 : tyOf Tryd.prog 122 = some ⟨(.st [(0, 25), (1, 9), (2, 3), (3, 3), (4, 4)]), 5, 48, (.agg #[(.pointer none), (.string ⟨#[]⟩), (.int .i64 0), (.int .i64 0), (.bool false)])⟩ := by kernel_rfl
@[go_sem] theorem ty130 : tyOf Tryd.prog 130 = some ⟨.fn, 1, 8, .nilFunc⟩ := by kernel_rfl
@[go_sem] theorem ty141 : tyOf Tryd.prog 141 = some ⟨(.arr 8 5), 8, 8, (.agg #[(.int .u8 0), (.int .u8 0), (.int .u8 0), (.int .u8 0), (.int .u8 0), (.int .u8 0), (.int .u8 0), (.int .u8 0)])⟩ := by kernel_rfl
@[go_sem] theorem ty143 : tyOf Tryd.prog 143 = some ⟨(.arr 4 5), 4, 4, (.agg #[(.int .u8 0), (.int .u8 0), (.int .u8 0), (.int .u8 0)])⟩ := by kernel_rfl
@[go_sem] theorem ty145 : tyOf Tryd.prog 145 = some ⟨(.arr 16 46), 16, 64, (.agg #[(.int .u32 0), (.int .u32 0), (.int .u32 0), (.int .u32 0), (.int .u32 0), (.int .u32 0), (.int .u32 0), (.int .u32 0), (.int .u32 0), (.int .u32 0), (.int .u32 0), (.int .u32 0), (.int .u32 0), (.int .u32 0), (.int .u32 0), (.int .u32 0)])⟩ := by kernel_rfl
@[go_sem] theorem ty152 : tyOf Tryd.prog 152 = some ⟨(.int .i64), 1, 8, (.int .i64 0)⟩ := by kernel_rfl
@[go_sem] theorem ty162 : tyOf Tryd.prog 162 = some ⟨(.int .u64), 1, 8, (.int .u64 0)⟩ := by kernel_rfl
@[go_sem] theorem ty163 : tyOf Tryd.prog 163 = some ⟨(.int .u64), 1, 8, (.int .u64 0)⟩ := by kernel_rfl
@[go_sem] theorem ty167 : tyOf Tryd.prog 167 = some ⟨(.ptr 3), 1, 8, (.pointer none)⟩ := by kernel_rfl
@[go_sem] theorem okc9 : (okCall Tryd.prog 9 = true) = True := eq_true (by kernel_rfl)
@[go_sem] theorem okc10 : (okCall Tryd.prog 10 = true) = True := eq_true (by kernel_rfl)
@[go_sem] theorem okc11 : (okCall Tryd.prog 11 = true) = True := eq_true (by kernel_rfl)
@[go_sem] theorem okc12 : (okCall Tryd.prog 12 = true) = True := eq_true (by kernel_rfl)
@[go_sem] theorem okc13 : (okCall Tryd.prog 13 = true) = True := eq_true (by kernel_rfl)
@[go_sem] theorem okc14 : (okCall Tryd.prog 14 = true) = True := eq_true (by kernel_rfl)
@[go_sem] theorem okc15 : (okCall Tryd.prog 15 = true) = True := eq_true (by kernel_rfl)
@[go_sem] theorem okc16 : (okCall Tryd.prog 16 = true) = True := eq_true (by kernel_rfl)
@[go_sem] theorem okc17 : (okCall Tryd.prog 17 = true) = True := eq_true (by kernel_rfl)
@[go_sem] theorem okc18 : (okCall Tryd.prog 18 = true) = True := eq_true (by kernel_rfl)
@[go_sem] theorem okc19 : (okCall Tryd.prog 19 = true) = True := eq_true (by kernel_rfl)
@[go_sem] theorem okc20 : (okCall Tryd.prog 20 = true) = True := eq_true (by kernel_rfl)
@[go_sem] theorem okc21 : (okCall Tryd.prog 21 = true) = True := eq_true (by kernel_rfl)
@[go_sem] theorem okc22 : (okCall Tryd.prog 22 = true) = True := eq_true (by kernel_rfl)
@[go_sem] theorem okc23 : (okCall Tryd.prog 23 = true) = True := eq_true (by kernel_rfl)
@[go_sem] theorem okc24 : (okCall Tryd.prog 24 = true) = True := eq_true (by kernel_rfl)
@[go_sem] theorem okc25 : (okCall Tryd.prog 25 = true) = True := eq_true (by kernel_rfl)
@[go_sem] theorem okc26 : (okCall Tryd.prog 26 = true) = True := eq_true (by kernel_rfl)
@[go_sem] theorem okc27 : (okCall Tryd.prog 27 = true) = True := eq_true (by kernel_rfl)
@[go_sem] theorem okc28 : (okCall Tryd.prog 28 = true) = True := eq_true (by kernel_rfl)
@[go_sem] theorem okc29 : (okCall Tryd.prog 29 = true) = True := eq_true (by kernel_rfl)
@[go_sem] theorem okc30 : (okCall Tryd.prog 30 = true) = True := eq_true (by kernel_rfl)
@[go_sem] theorem okc31 : (okCall Tryd.prog 31 = true) = True := eq_true (by kernel_rfl)
@[go_sem] theorem okc32 : (okCall Tryd.prog 32 = true) = True := eq_true (by kernel_rfl)
@[go_sem] theorem okc33 : (okCall Tryd.prog 33 = true) = True := eq_true (by kernel_rfl)
@[go_sem] theorem okc34 : (okCall Tryd.prog 34 = true) = True := eq_true (by kernel_rfl)
@[go_sem] theorem okc35 : (okCall Tryd.prog 35 = true) = True := eq_true (by kernel_rfl)
@[go_sem] theorem okc36 : (okCall Tryd.prog 36 = true) = True := eq_true (by kernel_rfl)
@[go_sem] theorem okc37 : (okCall Tryd.prog 37 = true) = True := eq_true (by kernel_rfl)
@[go_sem] theorem okc38 : (okCall Tryd.prog 38 = true) = True := eq_true (by kernel_rfl)
@[go_sem] theorem okc39 : (okCall Tryd.prog 39 = true) = True := eq_true (by kernel_rfl)
@[go_sem] theorem okc40 : (okCall Tryd.prog 40 = true) = True := eq_true (by kernel_rfl)
@[go_sem] theorem okc41 : (okCall Tryd.prog 41 = true) = True := eq_true (by kernel_rfl)
@[go_sem] theorem okc42 : (okCall Tryd.prog 42 = true) = True := eq_true (by kernel_rfl)
@[go_sem] theorem okc43 : (okCall Tryd.prog 43 = true) = True := eq_true (by kernel_rfl)
@[go_sem] theorem okc44 : (okCall Tryd.prog 44 = true) = True := eq_true (by kernel_rfl)
@[go_sem] theorem okc45 : (okCall Tryd.prog 45 = true) = True := eq_true (by kernel_rfl)
@[go_sem] theorem okc46 : (okCall Tryd.prog 46 = true) = True := eq_true (by kernel_rfl)
@[go_sem] theorem okc47 : (okCall Tryd.prog 47 = true) = True := eq_true (by kernel_rfl)
@[go_sem] theorem okc48 : (okCall Tryd.prog 48 = true) = True := eq_true (by kernel_rfl)
@[go_sem] theorem okc49 : (okCall Tryd.prog 49 = true) = True := eq_true (by kernel_rfl)
@[go_sem] theorem okc50 : (okCall Tryd.prog 50 = true) = True := eq_true (by kernel_rfl)
@[go_sem] theorem okc51 : (okCall Tryd.prog 51 = true) = True := eq_true (by kernel_rfl)
@[go_sem] theorem okc52 : (okCall Tryd.prog 52 = true) = True := eq_true (by kernel_rfl)
@[go_sem] theorem okc53 : (okCall Tryd.prog 53 = true) = True := eq_true (by kernel_rfl)
@[go_sem] theorem okc54 : (okCall Tryd.prog 54 = true) = True := eq_true (by kernel_rfl)
@[go_sem] theorem okc55 : (okCall Tryd.prog 55 = true) = True := eq_true (by kernel_rfl)
@[go_sem] theorem okc56 : (okCall Tryd.prog 56 = true) = True := eq_true (by kernel_rfl)
@[go_sem] theorem okc57 : (okCall Tryd.prog 57 = true) = True := eq_true (by kernel_rfl)
@[go_sem] theorem okc58 : (okCall Tryd.prog 58 = true) = True := eq_true (by kernel_rfl)
@[go_sem] theorem okc59 : (okCall Tryd.prog 59 = true) = True := eq_true (by kernel_rfl)
@[go_sem] theorem okc60 : (okCall Tryd.prog 60 = true) = True := eq_true (by kernel_rfl)
@[go_sem] theorem okc61 : (okCall Tryd.prog 61 = true) = True := eq_true (by kernel_rfl)
@[go_sem] theorem okc62 : (okCall Tryd.prog 62 = true) = True := eq_true (by kernel_rfl)
@[go_sem] theorem okc63 : (okCall Tryd.prog 63 = true) = True := eq_true (by kernel_rfl)
@[go_sem] theorem okc64 : (okCall Tryd.prog 64 = true) = True := eq_true (by kernel_rfl)
@[go_sem] theorem okc65 : (okCall Tryd.prog 65 = true) = True := eq_true (by kernel_rfl)
@[go_sem] theorem okc66 : (okCall Tryd.prog 66 = true) = True := eq_true (by kernel_rfl)
@[go_sem] theorem okc67 : (okCall Tryd.prog 67 = true) = True := eq_true (by kernel_rfl)
@[go_sem] theorem okc68 : (okCall Tryd.prog 68 = true) = True := eq_true (by kernel_rfl)
@[go_sem] theorem okc69 : (okCall Tryd.prog 69 = true) = True := eq_true (by kernel_rfl)
@[go_sem] theorem okc70 : (okCall Tryd.prog 70 = true) = True := eq_true (by kernel_rfl)
@[go_sem] theorem okc71 : (okCall Tryd.prog 71 = true) = True := eq_true (by kernel_rfl)
@[go_sem] theorem okc72 : (okCall Tryd.prog 72 = true) = True := eq_true (by kernel_rfl)
@[go_sem] theorem okc73 : (okCall Tryd.prog 73 = true) = True := eq_true (by kernel_rfl)
@[go_sem] theorem okc74 : (okCall Tryd.prog 74 = true) = True := eq_true (by kernel_rfl)
@[go_sem] theorem okc75 : (okCall Tryd.prog 75 = true) = True := eq_true (by kernel_rfl)
@[go_sem] theorem okc76 : (okCall Tryd.prog 76 = true) = True := eq_true (by kernel_rfl)
@[go_sem] theorem okc77 : (okCall Tryd.prog 77 = true) = True := eq_true (by kernel_rfl)
@[go_sem] theorem okc78 : (okCall Tryd.prog 78 = true) = True := eq_true (by kernel_rfl)
@[go_sem] theorem okc79 : (okCall Tryd.prog 79 = true) = True := eq_true (by kernel_rfl)
@[go_sem] theorem okc80 : (okCall Tryd.prog 80 = true) = True := eq_true (by kernel_rfl)
@[go_sem] theorem okc81 : (okCall Tryd.prog 81 = true) = True := eq_true (by kernel_rfl)
@[go_sem] theorem okc82 : (okCall Tryd.prog 82 = true) = True := eq_true (by kernel_rfl)
@[go_sem] theorem okc83 : (okCall Tryd.prog 83 = true) = True := eq_true (by kernel_rfl)
@[go_sem] theorem okc84 : (okCall Tryd.prog 84 = true) = True := eq_true (by kernel_rfl)
@[go_sem] theorem okc85 : (okCall Tryd.prog 85 = true) = True := eq_true (by kernel_rfl)
@[go_sem] theorem okc86 : (okCall Tryd.prog 86 = true) = True := eq_true (by kernel_rfl)
@[go_sem] theorem okc87 : (okCall Tryd.prog 87 = true) = True := eq_true (by kernel_rfl)
@[go_sem] theorem okc88 : (okCall Tryd.prog 88 = true) = True := eq_true (by kernel_rfl)
@[go_sem] theorem okc89 : (okCall Tryd.prog 89 = true) = True := eq_true (by kernel_rfl)
@[go_sem] theorem okc90 : (okCall Tryd.prog 90 = true) = True := eq_true (by kernel_rfl)
@[go_sem] theorem okc92 : (okCall Tryd.prog 92 = true) = True := eq_true (by kernel_rfl)
@[go_sem] theorem okc93 : (okCall Tryd.prog 93 = true) = True := eq_true (by kernel_rfl)
@[go_sem] theorem okc94 : (okCall Tryd.prog 94 = true) = True := eq_true (by kernel_rfl)
@[go_sem] theorem okc95 : (okCall Tryd.prog 95 = true) = True := eq_true (by kernel_rfl)
@[go_sem] theorem okc96 : (okCall Tryd.prog 96 = true) = True := eq_true (by kernel_rfl)
@[go_sem] theorem okc97 : (okCall Tryd.prog 97 = true) = True := eq_true (by kernel_rfl)
@[go_sem] theorem okc98 : (okCall Tryd.prog 98 = true) = True := eq_true (by kernel_rfl)
@[go_sem] theorem okc99 : (okCall Tryd.prog 99 = true) = True := eq_true (by kernel_rfl)
@[go_sem] theorem okc100 : (okCall Tryd.prog 100 = true) = True := eq_true (by kernel_rfl)
@[go_sem] theorem okc101 : (okCall Tryd.prog 101 = true) = True := eq_true (by kernel_rfl)
@[go_sem] theorem okc102 : (okCall Tryd.prog 102 = true) = True := eq_true (by kernel_rfl)
@[go_sem] theorem okc103 : (okCall Tryd.prog 103 = true) = True := eq_true (by kernel_rfl)
@[go_sem] theorem okc104 : (okCall Tryd.prog 104 = true) = True := eq_true (by kernel_rfl)
@[go_sem] theorem okc105 : (okCall Tryd.prog 105 = true) = True := eq_true (by kernel_rfl)
@[go_sem] theorem okc106 : (okCall Tryd.prog 106 = true) = True := eq_true (by kernel_rfl)
@[go_sem] theorem okc107 : (okCall Tryd.prog 107 = true) = True := eq_true (by kernel_rfl)
@[go_sem] theorem okc108 : (okCall Tryd.prog 108 = true) = True := eq_true (by kernel_rfl)
@[go_sem] theorem okc109 : (okCall Tryd.prog 109 = true) = True := eq_true (by kernel_rfl)
@[go_sem] theorem okc110 : (okCall Tryd.prog 110 = true) = True := eq_true (by kernel_rfl)
end Go.Proofs.YtgpoldjpmcoppaaDoor
