/- The functions' code as commands; printed by wip/Gen.lean off the translation. -/
import Derived.Test.YtgigigchjnnonaaGreatDoorProg
import Derived.Test.YtgigigchjnnonaaGreatDoorVCode
import Derived.KernelRfl
set_option maxRecDepth 100000
set_option linter.unusedSimpArgs false
namespace Go.Proofs.YtgigigchjnnonaaGreatDoor
open Go Go.V
@[go_sem] def c4_0 : Cmd := .ops [⟨some 12, .assign (.const (.bool false)), 4, none⟩]
@[go_sem] def c4_1 : Cmd := .ops [⟨some 28, .call { callee := (.value (.func 6)), args := #[], argTypes := #[] }, 4, none⟩,
    ⟨some 13, .assign (.tmp 28), 4, none⟩]
@[go_sem] def c4_2 : Cmd := .ops [⟨some 29, .call { callee := (.value (.func 7)), args := #[(.const (.int .i64 1048576))], argTypes := #[3] }, 25, none⟩,
    ⟨some 14, .assign (.tmp 29), 25, none⟩]
@[go_sem] def c4_3 : Cmd := .ops [⟨some 30, .move (.tmp 13), 4, none⟩,
    ⟨some 31, .unOp .not 4 (.tmp 30), 4, none⟩,
    ⟨some 32, .move (.tmp 31), 4, none⟩,
    ⟨some 33, .move (.tmp 14), 25, some (32, false)⟩,
    ⟨some 34, .binOp .eql 25 (.tmp 33) (.const (.pointer none)) 25, 4, some (32, false)⟩,
    ⟨some 35, .pick (.tmp 32) (.const (.bool true)) (.tmp 34), 4, none⟩]
@[go_sem] def c4_4 : Cmd := .ops [⟨some 12, .assign (.const (.bool false)), 4, none⟩]
@[go_sem] def c4_5 : Cmd := .cond (.tmp 35) (.seq c4_4 .ret) .skip
@[go_sem] def c4_6 : Cmd := .ops [⟨some 37, .move (.tmp 0), 22, none⟩,
    ⟨some 38, .move (.tmp 2), 23, none⟩,
    ⟨some 39, .call { callee := (.value (.func 8)), args := #[(.tmp 37), (.tmp 38), (.const (.slice none 0 0))], argTypes := #[22, 23, 22] }, 29, none⟩,
    ⟨some 36, .move (.tmp 39), 29, none⟩,
    ⟨some 40, .extract (.tmp 36) 0, 28, none⟩,
    ⟨some 41, .extract (.tmp 36) 1, 22, none⟩,
    ⟨some 15, .alloc 28, 0, none⟩,
    ⟨none, .store 28 (.tmp 15) (.tmp 40), 0, none⟩,
    ⟨some 16, .assign (.tmp 41), 22, none⟩]
@[go_sem] def c4_7 : Cmd := .ops [⟨some 43, .move (.tmp 0), 22, none⟩,
    ⟨some 44, .move (.tmp 2), 23, none⟩,
    ⟨some 45, .call { callee := (.value (.func 8)), args := #[(.tmp 43), (.tmp 44), (.const (.slice none 0 0))], argTypes := #[22, 23, 22] }, 29, none⟩,
    ⟨some 42, .move (.tmp 45), 29, none⟩,
    ⟨some 46, .extract (.tmp 42) 0, 28, none⟩,
    ⟨some 47, .extract (.tmp 42) 1, 22, none⟩,
    ⟨some 17, .alloc 28, 0, none⟩,
    ⟨none, .store 28 (.tmp 17) (.tmp 46), 0, none⟩,
    ⟨some 18, .assign (.tmp 47), 22, none⟩]
@[go_sem] def c4_8 : Cmd := .ops [⟨some 48, .fieldAddr 28 (.tmp 17) 0, 0, none⟩,
    ⟨none, .store 3 (.tmp 48) (.const (.int .i64 9)), 0, none⟩]
@[go_sem] def c4_9 : Cmd := .ops [⟨some 19, .assign (.const (.int .i64 0)), 3, none⟩]
@[go_sem] def c4_10 : Cmd := .ops [⟨some 49, .move (.tmp 19), 3, none⟩,
    ⟨some 50, .fieldAddr 28 (.tmp 17) 1, 0, none⟩,
    ⟨some 51, .load 22 (.tmp 50), 22, none⟩,
    ⟨some 52, .call { callee := (.builtin .len), args := #[(.tmp 51)], argTypes := #[22] }, 3, none⟩,
    ⟨some 53, .binOp .lss 3 (.tmp 49) (.tmp 52) 3, 4, none⟩,
    ⟨some 54, .move (.tmp 53), 4, none⟩,
    ⟨some 55, .move (.tmp 19), 3, some (54, true)⟩,
    ⟨some 56, .move (.tmp 1), 22, some (54, true)⟩,
    ⟨some 57, .call { callee := (.builtin .len), args := #[(.tmp 56)], argTypes := #[22] }, 3, some (54, true)⟩,
    ⟨some 58, .binOp .lss 3 (.tmp 55) (.tmp 57) 3, 4, some (54, true)⟩,
    ⟨some 59, .pick (.tmp 54) (.tmp 58) (.const (.bool false)), 4, none⟩]
@[go_sem] def c4_11 : Cmd := .cond (.tmp 59) .skip (.exit 0)
@[go_sem] def c4_12 : Cmd := .still 8 [⟨some 62, .fieldAddr 28 (.tmp 17) 1, 0, none⟩,
    ⟨some 63, .load 22 (.tmp 62), 22, none⟩,
    ⟨some 64, .move (.tmp 19), 3, none⟩,
    ⟨some 65, .move (.tmp 1), 22, none⟩,
    ⟨some 66, .move (.tmp 19), 3, none⟩,
    ⟨some 67, .indexAddr 22 (.tmp 65) (.tmp 66), 0, none⟩,
    ⟨some 68, .load 3 (.tmp 67), 3, none⟩,
    ⟨some 69, .binOp .and 3 (.tmp 68) (.const (.int .i64 255)) 3, 3, none⟩,
    ⟨some 70, .indexAddr 22 (.tmp 63) (.tmp 64), 0, none⟩,
    ⟨none, .store 3 (.tmp 70) (.tmp 69), 0, none⟩]
@[go_sem] def c4_13 : Cmd := .block 1 c4_12
@[go_sem] def c4_14 : Cmd := .ops [⟨some 60, .move (.tmp 19), 3, none⟩,
    ⟨some 61, .binOp .add 3 (.tmp 60) (.const (.int .i64 1)) 3, 3, none⟩,
    ⟨some 19, .assign (.tmp 61), 3, none⟩]
def c4_L0 : Cmd := (.seq (.seq c4_10 c4_11) (.seq c4_13 c4_14))
@[go_sem] def c4_15 : Cmd := .loop c4_L0
@[go_sem] def c4_16 : Cmd := .block 0 c4_15
@[go_sem] def c4_17 : Cmd := .ops [⟨some 71, .fieldAddr 28 (.tmp 15) 1, 0, none⟩,
    ⟨some 72, .load 22 (.tmp 71), 22, none⟩,
    ⟨some 73, .call { callee := (.builtin .len), args := #[(.tmp 72)], argTypes := #[22] }, 3, none⟩,
    ⟨some 74, .makeSlice 22 (.tmp 73) (.tmp 73), 22, none⟩,
    ⟨some 20, .assign (.tmp 74), 22, none⟩]
@[go_sem] def c4_18 : Cmd := .ops [⟨some 21, .assign (.const (.int .i64 0)), 3, none⟩]
@[go_sem] def c4_19 : Cmd := .ops [⟨some 75, .move (.tmp 21), 3, none⟩,
    ⟨some 76, .move (.tmp 20), 22, none⟩,
    ⟨some 77, .call { callee := (.builtin .len), args := #[(.tmp 76)], argTypes := #[22] }, 3, none⟩,
    ⟨some 78, .binOp .lss 3 (.tmp 75) (.tmp 77) 3, 4, none⟩]
@[go_sem] def c4_20 : Cmd := .cond (.tmp 78) .skip (.exit 2)
@[go_sem] def c4_21 : Cmd := .ops [⟨some 81, .move (.tmp 20), 22, none⟩,
    ⟨some 82, .move (.tmp 21), 3, none⟩,
    ⟨some 83, .indexAddr 22 (.tmp 81) (.tmp 82), 0, none⟩,
    ⟨none, .store 3 (.tmp 83) (.const (.int .i64 16777216)), 0, none⟩]
@[go_sem] def c4_22 : Cmd := .block 3 c4_21
@[go_sem] def c4_23 : Cmd := .ops [⟨some 79, .move (.tmp 21), 3, none⟩,
    ⟨some 80, .binOp .add 3 (.tmp 79) (.const (.int .i64 1)) 3, 3, none⟩,
    ⟨some 21, .assign (.tmp 80), 3, none⟩]
def c4_L1 : Cmd := (.seq (.seq c4_19 c4_20) (.seq c4_22 c4_23))
@[go_sem] def c4_24 : Cmd := .loop c4_L1
@[go_sem] def c4_25 : Cmd := .block 2 c4_24
@[go_sem] def c4_26 : Cmd := .ops [⟨some 84, .move (.tmp 14), 25, none⟩,
    ⟨some 85, .load 28 (.tmp 15), 28, none⟩,
    ⟨some 86, .call { callee := (.value (.func 12)), args := #[(.tmp 84), (.const (.int .i64 1)), (.tmp 85)], argTypes := #[25, 3, 28] }, 54, none⟩,
    ⟨some 22, .assign (.tmp 86), 54, none⟩]
@[go_sem] def c4_27 : Cmd := .ops [⟨some 87, .move (.tmp 22), 54, none⟩,
    ⟨some 88, .call { callee := (.value (.func 16)), args := #[(.tmp 87)], argTypes := #[54] }, 3, none⟩,
    ⟨some 89, .binOp .neq 3 (.tmp 88) (.const (.int .i64 0)) 3, 4, none⟩]
@[go_sem] def c4_28 : Cmd := .ops [⟨some 12, .assign (.const (.bool false)), 4, none⟩]
@[go_sem] def c4_29 : Cmd := .cond (.tmp 89) (.seq c4_28 .ret) .skip
@[go_sem] def c4_30 : Cmd := .ops [⟨some 90, .move (.tmp 3), 3, none⟩,
    ⟨some 91, .binOp .gtr 3 (.tmp 90) (.const (.int .i64 0)) 3, 4, none⟩,
    ⟨some 92, .move (.tmp 91), 4, none⟩,
    ⟨some 93, .move (.tmp 3), 3, some (92, true)⟩,
    ⟨some 94, .binOp .lss 3 (.tmp 93) (.const (.int .i64 1000)) 3, 4, some (92, true)⟩,
    ⟨some 95, .pick (.tmp 92) (.tmp 94) (.const (.bool false)), 4, none⟩]
@[go_sem] def c4_31 : Cmd := .ops [⟨some 96, .move (.tmp 14), 25, none⟩,
    ⟨some 97, .move (.tmp 3), 3, none⟩,
    ⟨some 98, .call { callee := (.value (.func 23)), args := #[(.tmp 96), (.tmp 97)], argTypes := #[25, 3] }, 54, none⟩]
@[go_sem] def c4_32 : Cmd := .cond (.tmp 95) c4_31 .skip
@[go_sem] def c4_33 : Cmd := .ops [⟨some 99, .move (.tmp 14), 25, none⟩,
    ⟨some 100, .load 28 (.tmp 17), 28, none⟩,
    ⟨some 101, .call { callee := (.value (.func 12)), args := #[(.tmp 99), (.const (.int .i64 1)), (.tmp 100)], argTypes := #[25, 3, 28] }, 54, none⟩,
    ⟨some 22, .assign (.tmp 101), 54, none⟩]
@[go_sem] def c4_34 : Cmd := .ops [⟨some 102, .move (.tmp 14), 25, none⟩,
    ⟨some 103, .move (.tmp 4), 3, none⟩,
    ⟨some 104, .move (.tmp 5), 22, none⟩,
    ⟨some 105, .call { callee := (.value (.func 9)), args := #[(.tmp 104)], argTypes := #[22] }, 22, none⟩,
    ⟨some 106, .call { callee := (.value (.func 24)), args := #[(.tmp 102), (.tmp 103), (.tmp 105)], argTypes := #[25, 3, 22] }, 0, none⟩]
@[go_sem] def c4_35 : Cmd := .ops [⟨some 108, .move (.tmp 14), 25, none⟩,
    ⟨some 109, .move (.tmp 20), 22, none⟩,
    ⟨some 110, .fieldAddr 28 (.tmp 15) 2, 0, none⟩,
    ⟨some 111, .load 23 (.tmp 110), 23, none⟩,
    ⟨some 112, .call { callee := (.builtin .len), args := #[(.tmp 111)], argTypes := #[23] }, 3, none⟩,
    ⟨some 113, .call { callee := (.value (.func 18)), args := #[(.tmp 108), (.const (.int .i64 1)), (.tmp 109), (.tmp 112)], argTypes := #[25, 3, 22, 3] }, 65, none⟩,
    ⟨some 107, .move (.tmp 113), 65, none⟩,
    ⟨some 114, .extract (.tmp 107) 0, 28, none⟩,
    ⟨some 115, .extract (.tmp 107) 1, 4, none⟩,
    ⟨some 116, .extract (.tmp 107) 2, 54, none⟩,
    ⟨some 23, .alloc 28, 0, none⟩,
    ⟨none, .store 28 (.tmp 23) (.tmp 114), 0, none⟩,
    ⟨some 24, .assign (.tmp 115), 4, none⟩,
    ⟨some 25, .assign (.tmp 116), 54, none⟩]
@[go_sem] def c4_36 : Cmd := .ops [⟨some 117, .load 28 (.tmp 23), 28, none⟩,
    ⟨some 118, .load 28 (.tmp 15), 28, none⟩,
    ⟨some 119, .call { callee := (.value (.func 25)), args := #[(.tmp 117), (.tmp 118)], argTypes := #[28, 28] }, 4, none⟩,
    ⟨some 26, .assign (.tmp 119), 4, none⟩]
@[go_sem] def c4_37 : Cmd := .ops [⟨some 120, .load 28 (.tmp 23), 28, none⟩,
    ⟨some 121, .load 28 (.tmp 17), 28, none⟩,
    ⟨some 122, .call { callee := (.value (.func 25)), args := #[(.tmp 120), (.tmp 121)], argTypes := #[28, 28] }, 4, none⟩,
    ⟨some 27, .assign (.tmp 122), 4, none⟩]
@[go_sem] def c4_38 : Cmd := .ops [⟨some 123, .move (.tmp 25), 54, none⟩,
    ⟨some 124, .call { callee := (.value (.func 16)), args := #[(.tmp 123)], argTypes := #[54] }, 3, none⟩,
    ⟨some 125, .binOp .neq 3 (.tmp 124) (.const (.int .i64 0)) 3, 4, none⟩,
    ⟨some 126, .move (.tmp 125), 4, none⟩,
    ⟨some 127, .move (.tmp 24), 4, some (126, false)⟩,
    ⟨some 128, .unOp .not 4 (.tmp 127), 4, some (126, false)⟩,
    ⟨some 129, .pick (.tmp 126) (.const (.bool true)) (.tmp 128), 4, none⟩,
    ⟨some 130, .move (.tmp 129), 4, none⟩,
    ⟨some 131, .move (.tmp 22), 54, some (130, false)⟩,
    ⟨some 132, .call { callee := (.value (.func 16)), args := #[(.tmp 131)], argTypes := #[54] }, 3, some (130, false)⟩,
    ⟨some 133, .binOp .neq 3 (.tmp 132) (.const (.int .i64 0)) 3, 4, some (130, false)⟩,
    ⟨some 134, .move (.tmp 133), 4, some (130, false)⟩,
    ⟨some 135, .move (.tmp 22), 54, some (134, true)⟩,
    ⟨some 136, .call { callee := (.value (.func 16)), args := #[(.tmp 135)], argTypes := #[54] }, 3, some (134, true)⟩,
    ⟨some 137, .binOp .neq 3 (.tmp 136) (.const (.int .i64 81)) 3, 4, some (134, true)⟩,
    ⟨some 138, .pick (.tmp 134) (.tmp 137) (.const (.bool false)), 4, some (130, false)⟩,
    ⟨some 139, .pick (.tmp 130) (.const (.bool true)) (.tmp 138), 4, none⟩]
@[go_sem] def c4_39 : Cmd := .ops [⟨some 12, .assign (.const (.bool false)), 4, none⟩]
@[go_sem] def c4_40 : Cmd := .cond (.tmp 139) (.seq c4_39 .ret) .skip
@[go_sem] def c4_41 : Cmd := .ops [⟨some 140, .move (.tmp 27), 4, none⟩,
    ⟨some 141, .move (.tmp 140), 4, none⟩,
    ⟨some 142, .move (.tmp 26), 4, some (141, false)⟩,
    ⟨some 143, .move (.tmp 142), 4, some (141, false)⟩,
    ⟨some 144, .move (.tmp 22), 54, some (143, true)⟩,
    ⟨some 145, .call { callee := (.value (.func 16)), args := #[(.tmp 144)], argTypes := #[54] }, 3, some (143, true)⟩,
    ⟨some 146, .binOp .neq 3 (.tmp 145) (.const (.int .i64 0)) 3, 4, some (143, true)⟩,
    ⟨some 147, .pick (.tmp 143) (.tmp 146) (.const (.bool false)), 4, some (141, false)⟩,
    ⟨some 148, .pick (.tmp 141) (.const (.bool true)) (.tmp 147), 4, none⟩,
    ⟨some 12, .assign (.tmp 148), 4, none⟩]
@[go_sem] def c4 : Cmd := (.seq c4_0 (.seq c4_1 (.seq c4_2 (.seq (.seq c4_3 c4_5) (.seq c4_6 (.seq c4_7 (.seq c4_8 (.seq (.seq c4_9 c4_16) (.seq c4_17 (.seq (.seq c4_18 c4_25) (.seq c4_26 (.seq (.seq c4_27 c4_29) (.seq (.seq c4_30 c4_32) (.seq c4_33 (.seq c4_34 (.seq c4_35 (.seq c4_36 (.seq c4_37 (.seq (.seq c4_38 c4_40) (.seq c4_41 .ret))))))))))))))))))))
def c4_S41 : Cmd := (.seq c4_41 .ret)
def c4_S38 : Cmd := (.seq (.seq c4_38 c4_40) c4_S41)
def c4_S37 : Cmd := (.seq c4_37 c4_S38)
def c4_S36 : Cmd := (.seq c4_36 c4_S37)
def c4_S35 : Cmd := (.seq c4_35 c4_S36)
def c4_S34 : Cmd := (.seq c4_34 c4_S35)
def c4_S33 : Cmd := (.seq c4_33 c4_S34)
def c4_S30 : Cmd := (.seq (.seq c4_30 c4_32) c4_S33)
def c4_S27 : Cmd := (.seq (.seq c4_27 c4_29) c4_S30)
def c4_S26 : Cmd := (.seq c4_26 c4_S27)
def c4_S18 : Cmd := (.seq (.seq c4_18 c4_25) c4_S26)
def c4_S17 : Cmd := (.seq c4_17 c4_S18)
def c4_S9 : Cmd := (.seq (.seq c4_9 c4_16) c4_S17)
def c4_S8 : Cmd := (.seq c4_8 c4_S9)
def c4_S7 : Cmd := (.seq c4_7 c4_S8)
def c4_S6 : Cmd := (.seq c4_6 c4_S7)
def c4_S3 : Cmd := (.seq (.seq c4_3 c4_5) c4_S6)
def c4_S2 : Cmd := (.seq c4_2 c4_S3)
def c4_S1 : Cmd := (.seq c4_1 c4_S2)
def c4_S0 : Cmd := (.seq c4_0 c4_S1)
theorem c4_ch : c4 = c4_S0 := rfl
theorem b4 : Tryz.f4.body.map (comp 149) = some c4 := by kernel_rfl
theorem r4 : Tryz.f4.results.toList = [.tmp 12] := by kernel_rfl
end Go.Proofs.YtgigigchjnnonaaGreatDoor
