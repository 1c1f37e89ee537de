/- The functions' code as commands; printed by wip/Gen.lean off the translation. -/
import Derived.Test.YtcgejfmbhpmjfaaProg
import Derived.Test.YtcgejfmbhpmjfaaVCode
import Derived.KernelRfl
set_option maxRecDepth 100000
set_option linter.unusedSimpArgs false
namespace Go.Proofs.Ytcgejfmbhpmjfaa
open Go Go.V
-- 3 pith/pithlaw11.RunsSorts
@[go_sem] def c3_0 : Cmd := .ops [⟨some 5, .box 24 (.tmp 1), 0, none⟩,
    ⟨some 6, .box 24 (.tmp 2), 0, none⟩,
    ⟨some 8, .assign (.const (.bool false)), 4, none⟩]
@[go_sem] def c3_1 : Cmd := .ops [⟨some 17, .call { callee := (.value (.func 11)), args := #[], argTypes := #[] }, 4, none⟩,
    ⟨some 9, .assign (.tmp 17), 4, none⟩]
@[go_sem] def c3_2 : Cmd := .ops [⟨some 18, .move (.tmp 9), 4, none⟩,
    ⟨some 19, .unOp .not 4 (.tmp 18), 4, none⟩,
    ⟨some 20, .move (.tmp 19), 4, none⟩,
    ⟨some 21, .move (.tmp 0), 22, some (20, false)⟩,
    ⟨some 22, .call { callee := (.builtin .len), args := #[(.tmp 21)], argTypes := #[22] }, 3, some (20, false)⟩,
    ⟨some 23, .binOp .gtr 3 (.tmp 22) (.const (.int .i64 3000)) 3, 4, some (20, false)⟩,
    ⟨some 24, .pick (.tmp 20) (.const (.bool true)) (.tmp 23), 4, none⟩]
@[go_sem] def c3_3 : Cmd := .ops [⟨some 25, .move (.tmp 9), 4, none⟩,
    ⟨some 8, .assign (.tmp 25), 4, none⟩]
@[go_sem] def c3_4 : Cmd := .cond (.tmp 24) (.seq c3_3 .ret) .skip
@[go_sem] def c3_5 : Cmd := .draw (.step 0 ⟨some 26, .load 24 (.tmp 5), 24, none⟩
    (.step 0 ⟨some 27, .load 24 (.tmp 6), 24, none⟩
    (.step 0 ⟨some 29, .load 24 (.tmp 5), 24, none⟩
    (.step 0 ⟨some 30, .load 24 (.tmp 6), 24, none⟩
    (.step 1 ⟨some 28, .call { callee := (.value (.func 12)), args := #[(.tmp 26), (.tmp 27)], argTypes := #[24, 24] }, 4, none⟩
    (.step 1 ⟨some 31, .call { callee := (.value (.func 13)), args := #[(.tmp 29), (.tmp 30)], argTypes := #[24, 24] }, 4, none⟩
    (.step 3 ⟨some 32, .binOp .eql 4 (.tmp 28) (.tmp 31) 4, 4, none⟩
    (.step 3 ⟨some 10, .assign (.tmp 32), 4, none⟩
    .done))))))))
@[go_sem] def c3_6 : Cmd := .ops [⟨some 33, .move (.tmp 0), 22, none⟩,
    ⟨some 34, .call { callee := (.value (.func 14)), args := #[(.tmp 33)], argTypes := #[22] }, 22, none⟩,
    ⟨some 11, .assign (.tmp 34), 22, none⟩]
@[go_sem] def c3_7 : Cmd := .ops [⟨some 35, .move (.tmp 11), 22, none⟩,
    ⟨some 36, .call { callee := (.value (.func 16)), args := #[(.tmp 35)], argTypes := #[22] }, 22, none⟩,
    ⟨some 37, .move (.tmp 0), 22, none⟩,
    ⟨some 38, .call { callee := (.value (.func 17)), args := #[(.tmp 37)], argTypes := #[22] }, 22, none⟩,
    ⟨some 39, .call { callee := (.value (.func 15)), args := #[(.tmp 36), (.tmp 38)], argTypes := #[22, 22] }, 4, none⟩,
    ⟨some 12, .assign (.tmp 39), 4, none⟩]
@[go_sem] def c3_8 : Cmd := .ops [⟨some 40, .move (.tmp 0), 22, none⟩,
    ⟨some 41, .call { callee := (.builtin .len), args := #[(.tmp 40)], argTypes := #[22] }, 3, none⟩,
    ⟨some 13, .assign (.tmp 41), 3, none⟩]
@[go_sem] def c3_9 : Cmd := .ops [⟨some 42, .move (.tmp 13), 3, none⟩,
    ⟨some 43, .binOp .gtr 3 (.tmp 42) (.const (.int .i64 0)) 3, 4, none⟩]
@[go_sem] def c3_10 : Cmd := .still 9 [⟨some 44, .move (.tmp 11), 22, none⟩,
    ⟨some 45, .move (.tmp 3), 3, none⟩,
    ⟨some 46, .move (.tmp 13), 3, none⟩,
    ⟨some 47, .binOp .rem 3 (.tmp 45) (.tmp 46) 3, 3, none⟩,
    ⟨some 48, .move (.tmp 13), 3, none⟩,
    ⟨some 49, .binOp .add 3 (.tmp 47) (.tmp 48) 3, 3, none⟩,
    ⟨some 50, .move (.tmp 13), 3, none⟩,
    ⟨some 51, .binOp .rem 3 (.tmp 49) (.tmp 50) 3, 3, none⟩,
    ⟨some 52, .load 24 (.tmp 5), 24, none⟩,
    ⟨some 53, .indexAddr 22 (.tmp 44) (.tmp 51), 0, none⟩,
    ⟨none, .store 24 (.tmp 53) (.tmp 52), 0, none⟩]
@[go_sem] def c3_11 : Cmd := .cond (.tmp 43) c3_10 .skip
@[go_sem] def c3_12 : Cmd := .ops [⟨some 54, .move (.tmp 11), 22, none⟩,
    ⟨some 55, .call { callee := (.value (.func 18)), args := #[(.tmp 54)], argTypes := #[22] }, 22, none⟩,
    ⟨some 14, .assign (.tmp 55), 22, none⟩]
@[go_sem] def c3_13 : Cmd := .ops [⟨some 56, .move (.tmp 11), 22, none⟩,
    ⟨some 57, .call { callee := (.value (.func 16)), args := #[(.tmp 56)], argTypes := #[22] }, 22, none⟩,
    ⟨some 58, .move (.tmp 14), 22, none⟩,
    ⟨some 59, .call { callee := (.value (.func 17)), args := #[(.tmp 58)], argTypes := #[22] }, 22, none⟩,
    ⟨some 60, .call { callee := (.value (.func 15)), args := #[(.tmp 57), (.tmp 59)], argTypes := #[22, 22] }, 4, none⟩,
    ⟨some 15, .assign (.tmp 60), 4, none⟩]
@[go_sem] def c3_14 : Cmd := .ops [⟨some 61, .move (.tmp 11), 22, none⟩,
    ⟨some 62, .move (.tmp 14), 22, none⟩,
    ⟨some 63, .call { callee := (.value (.func 19)), args := #[(.tmp 61), (.tmp 62)], argTypes := #[22, 22] }, 4, none⟩,
    ⟨some 16, .assign (.tmp 63), 4, none⟩]
@[go_sem] def c3_15 : Cmd := .ops [⟨some 64, .move (.tmp 10), 4, none⟩,
    ⟨some 65, .move (.tmp 64), 4, none⟩,
    ⟨some 66, .move (.tmp 12), 4, some (65, true)⟩,
    ⟨some 67, .pick (.tmp 65) (.tmp 66) (.const (.bool false)), 4, none⟩,
    ⟨some 68, .move (.tmp 67), 4, none⟩,
    ⟨some 69, .move (.tmp 15), 4, some (68, true)⟩,
    ⟨some 70, .pick (.tmp 68) (.tmp 69) (.const (.bool false)), 4, none⟩,
    ⟨some 71, .move (.tmp 70), 4, none⟩,
    ⟨some 72, .move (.tmp 16), 4, some (71, true)⟩,
    ⟨some 73, .pick (.tmp 71) (.tmp 72) (.const (.bool false)), 4, none⟩,
    ⟨some 8, .assign (.tmp 73), 4, none⟩]
@[go_sem] def c3 : Cmd := (.seq c3_0 (.seq c3_1 (.seq (.seq c3_2 c3_4) (.seq c3_5 (.seq c3_6 (.seq c3_7 (.seq (.seq c3_8 (.seq c3_9 c3_11)) (.seq c3_12 (.seq c3_13 (.seq c3_14 (.seq c3_15 .ret)))))))))))
theorem b3 : Try.f3.body.map (comp 74) = some c3 := by kernel_rfl
theorem r3 : Try.f3.results.toList = [.tmp 8] := by kernel_rfl
-- 4 pith/pithlaw11.RunsEncodes
@[go_sem] def c4_0 : Cmd := .ops [⟨some 4, .box 24 (.tmp 1), 0, none⟩,
    ⟨some 6, .assign (.const (.bool false)), 4, none⟩]
@[go_sem] def c4_1 : Cmd := .ops [⟨some 18, .call { callee := (.value (.func 11)), args := #[], argTypes := #[] }, 4, none⟩,
    ⟨some 7, .assign (.tmp 18), 4, none⟩]
@[go_sem] def c4_2 : Cmd := .ops [⟨some 19, .move (.tmp 7), 4, none⟩,
    ⟨some 20, .unOp .not 4 (.tmp 19), 4, none⟩,
    ⟨some 21, .move (.tmp 20), 4, none⟩,
    ⟨some 22, .move (.tmp 0), 22, some (21, false)⟩,
    ⟨some 23, .call { callee := (.builtin .len), args := #[(.tmp 22)], argTypes := #[22] }, 3, some (21, false)⟩,
    ⟨some 24, .binOp .gtr 3 (.tmp 23) (.const (.int .i64 3000)) 3, 4, some (21, false)⟩,
    ⟨some 25, .pick (.tmp 21) (.const (.bool true)) (.tmp 24), 4, none⟩]
@[go_sem] def c4_3 : Cmd := .ops [⟨some 26, .move (.tmp 7), 4, none⟩,
    ⟨some 6, .assign (.tmp 26), 4, none⟩]
@[go_sem] def c4_4 : Cmd := .cond (.tmp 25) (.seq c4_3 .ret) .skip
@[go_sem] def c4_5 : Cmd := .ops [⟨some 27, .move (.tmp 0), 22, none⟩,
    ⟨some 28, .call { callee := (.value (.func 14)), args := #[(.tmp 27)], argTypes := #[22] }, 22, none⟩,
    ⟨some 8, .assign (.tmp 28), 22, none⟩]
@[go_sem] def c4_6 : Cmd := .ops [⟨some 30, .move (.tmp 8), 22, none⟩,
    ⟨some 31, .call { callee := (.value (.func 20)), args := #[(.tmp 30)], argTypes := #[22] }, 32, none⟩,
    ⟨some 29, .move (.tmp 31), 32, none⟩,
    ⟨some 32, .extract (.tmp 29) 0, 30, none⟩,
    ⟨some 33, .extract (.tmp 29) 1, 31, none⟩,
    ⟨some 9, .assign (.tmp 32), 30, none⟩,
    ⟨some 10, .assign (.tmp 33), 31, none⟩]
@[go_sem] def c4_7 : Cmd := .ops [⟨some 35, .move (.tmp 0), 22, none⟩,
    ⟨some 36, .call { callee := (.value (.func 21)), args := #[(.tmp 35)], argTypes := #[22] }, 34, none⟩,
    ⟨some 34, .move (.tmp 36), 34, none⟩,
    ⟨some 37, .extract (.tmp 34) 0, 30, none⟩,
    ⟨some 38, .extract (.tmp 34) 1, 3, none⟩,
    ⟨some 11, .assign (.tmp 37), 30, none⟩,
    ⟨some 12, .assign (.tmp 38), 3, none⟩]
@[go_sem] def c4_8 : Cmd := .ops [⟨some 39, .move (.tmp 9), 30, none⟩,
    ⟨some 40, .move (.tmp 11), 30, none⟩,
    ⟨some 41, .call { callee := (.value (.func 22)), args := #[(.tmp 39), (.tmp 40)], argTypes := #[30, 30] }, 4, none⟩,
    ⟨some 42, .move (.tmp 41), 4, none⟩,
    ⟨some 43, .move (.tmp 10), 31, some (42, true)⟩,
    ⟨some 44, .call { callee := (.value (.func 23)), args := #[(.tmp 43)], argTypes := #[31] }, 3, some (42, true)⟩,
    ⟨some 45, .move (.tmp 12), 3, some (42, true)⟩,
    ⟨some 46, .binOp .eql 3 (.tmp 44) (.tmp 45) 3, 4, some (42, true)⟩,
    ⟨some 47, .pick (.tmp 42) (.tmp 46) (.const (.bool false)), 4, none⟩,
    ⟨some 13, .assign (.tmp 47), 4, none⟩]
@[go_sem] def c4_9 : Cmd := .ops [⟨some 48, .move (.tmp 0), 22, none⟩,
    ⟨some 49, .call { callee := (.builtin .len), args := #[(.tmp 48)], argTypes := #[22] }, 3, none⟩,
    ⟨some 14, .assign (.tmp 49), 3, none⟩]
@[go_sem] def c4_10 : Cmd := .ops [⟨some 50, .move (.tmp 14), 3, none⟩,
    ⟨some 51, .binOp .gtr 3 (.tmp 50) (.const (.int .i64 0)) 3, 4, none⟩]
@[go_sem] def c4_11 : Cmd := .still 9 [⟨some 52, .move (.tmp 8), 22, none⟩,
    ⟨some 53, .move (.tmp 2), 3, none⟩,
    ⟨some 54, .move (.tmp 14), 3, none⟩,
    ⟨some 55, .binOp .rem 3 (.tmp 53) (.tmp 54) 3, 3, none⟩,
    ⟨some 56, .move (.tmp 14), 3, none⟩,
    ⟨some 57, .binOp .add 3 (.tmp 55) (.tmp 56) 3, 3, none⟩,
    ⟨some 58, .move (.tmp 14), 3, none⟩,
    ⟨some 59, .binOp .rem 3 (.tmp 57) (.tmp 58) 3, 3, none⟩,
    ⟨some 60, .load 24 (.tmp 4), 24, none⟩,
    ⟨some 61, .indexAddr 22 (.tmp 52) (.tmp 59), 0, none⟩,
    ⟨none, .store 24 (.tmp 61) (.tmp 60), 0, none⟩]
@[go_sem] def c4_12 : Cmd := .cond (.tmp 51) c4_11 .skip
@[go_sem] def c4_13 : Cmd := .ops [⟨some 62, .move (.tmp 8), 22, none⟩,
    ⟨some 63, .call { callee := (.value (.func 18)), args := #[(.tmp 62)], argTypes := #[22] }, 22, none⟩,
    ⟨some 15, .assign (.tmp 63), 22, none⟩]
@[go_sem] def c4_14 : Cmd := .ops [⟨some 65, .move (.tmp 8), 22, none⟩,
    ⟨some 66, .call { callee := (.value (.func 20)), args := #[(.tmp 65)], argTypes := #[22] }, 32, none⟩,
    ⟨some 64, .move (.tmp 66), 32, none⟩,
    ⟨some 67, .extract (.tmp 64) 0, 30, none⟩,
    ⟨some 68, .extract (.tmp 64) 1, 31, none⟩,
    ⟨some 9, .assign (.tmp 67), 30, none⟩,
    ⟨some 10, .assign (.tmp 68), 31, none⟩]
@[go_sem] def c4_15 : Cmd := .ops [⟨some 70, .move (.tmp 15), 22, none⟩,
    ⟨some 71, .call { callee := (.value (.func 21)), args := #[(.tmp 70)], argTypes := #[22] }, 34, none⟩,
    ⟨some 69, .move (.tmp 71), 34, none⟩,
    ⟨some 72, .extract (.tmp 69) 0, 30, none⟩,
    ⟨some 73, .extract (.tmp 69) 1, 3, none⟩,
    ⟨some 11, .assign (.tmp 72), 30, none⟩,
    ⟨some 12, .assign (.tmp 73), 3, none⟩]
@[go_sem] def c4_16 : Cmd := .ops [⟨some 74, .move (.tmp 9), 30, none⟩,
    ⟨some 75, .move (.tmp 11), 30, none⟩,
    ⟨some 76, .call { callee := (.value (.func 22)), args := #[(.tmp 74), (.tmp 75)], argTypes := #[30, 30] }, 4, none⟩,
    ⟨some 77, .move (.tmp 76), 4, none⟩,
    ⟨some 78, .move (.tmp 10), 31, some (77, true)⟩,
    ⟨some 79, .call { callee := (.value (.func 23)), args := #[(.tmp 78)], argTypes := #[31] }, 3, some (77, true)⟩,
    ⟨some 80, .move (.tmp 12), 3, some (77, true)⟩,
    ⟨some 81, .binOp .eql 3 (.tmp 79) (.tmp 80) 3, 4, some (77, true)⟩,
    ⟨some 82, .pick (.tmp 77) (.tmp 81) (.const (.bool false)), 4, none⟩,
    ⟨some 16, .assign (.tmp 82), 4, none⟩]
@[go_sem] def c4_17 : Cmd := .ops [⟨some 83, .move (.tmp 8), 22, none⟩,
    ⟨some 84, .move (.tmp 15), 22, none⟩,
    ⟨some 85, .call { callee := (.value (.func 19)), args := #[(.tmp 83), (.tmp 84)], argTypes := #[22, 22] }, 4, none⟩,
    ⟨some 17, .assign (.tmp 85), 4, none⟩]
@[go_sem] def c4_18 : Cmd := .ops [⟨some 86, .move (.tmp 13), 4, none⟩,
    ⟨some 87, .move (.tmp 86), 4, none⟩,
    ⟨some 88, .move (.tmp 16), 4, some (87, true)⟩,
    ⟨some 89, .pick (.tmp 87) (.tmp 88) (.const (.bool false)), 4, none⟩,
    ⟨some 90, .move (.tmp 89), 4, none⟩,
    ⟨some 91, .move (.tmp 17), 4, some (90, true)⟩,
    ⟨some 92, .pick (.tmp 90) (.tmp 91) (.const (.bool false)), 4, none⟩,
    ⟨some 6, .assign (.tmp 92), 4, none⟩]
@[go_sem] def c4 : Cmd := (.seq c4_0 (.seq c4_1 (.seq (.seq c4_2 c4_4) (.seq c4_5 (.seq c4_6 (.seq c4_7 (.seq c4_8 (.seq (.seq c4_9 (.seq c4_10 c4_12)) (.seq c4_13 (.seq c4_14 (.seq c4_15 (.seq c4_16 (.seq c4_17 (.seq c4_18 .ret))))))))))))))
theorem b4 : Try.f4.body.map (comp 93) = some c4 := by kernel_rfl
theorem r4 : Try.f4.results.toList = [.tmp 6] := by kernel_rfl
-- 5 pith/pithlaw11.RunsDecodes
@[go_sem] def c5_0 : Cmd := .ops [⟨some 8, .assign (.const (.bool false)), 4, none⟩]
@[go_sem] def c5_1 : Cmd := .ops [⟨some 19, .call { callee := (.value (.func 11)), args := #[], argTypes := #[] }, 4, none⟩,
    ⟨some 9, .assign (.tmp 19), 4, none⟩]
@[go_sem] def c5_2 : Cmd := .ops [⟨some 20, .move (.tmp 9), 4, none⟩,
    ⟨some 21, .unOp .not 4 (.tmp 20), 4, none⟩,
    ⟨some 22, .move (.tmp 21), 4, none⟩,
    ⟨some 23, .move (.tmp 0), 30, some (22, false)⟩,
    ⟨some 24, .call { callee := (.builtin .len), args := #[(.tmp 23)], argTypes := #[30] }, 3, some (22, false)⟩,
    ⟨some 25, .binOp .gtr 3 (.tmp 24) (.const (.int .i64 65536)) 3, 4, some (22, false)⟩,
    ⟨some 26, .pick (.tmp 22) (.const (.bool true)) (.tmp 25), 4, none⟩,
    ⟨some 27, .move (.tmp 26), 4, none⟩,
    ⟨some 28, .move (.tmp 1), 22, some (27, false)⟩,
    ⟨some 29, .call { callee := (.builtin .len), args := #[(.tmp 28)], argTypes := #[22] }, 3, some (27, false)⟩,
    ⟨some 30, .binOp .gtr 3 (.tmp 29) (.const (.int .i64 3000)) 3, 4, some (27, false)⟩,
    ⟨some 31, .pick (.tmp 27) (.const (.bool true)) (.tmp 30), 4, none⟩]
@[go_sem] def c5_3 : Cmd := .ops [⟨some 32, .move (.tmp 9), 4, none⟩,
    ⟨some 8, .assign (.tmp 32), 4, none⟩]
@[go_sem] def c5_4 : Cmd := .cond (.tmp 31) (.seq c5_3 .ret) .skip
@[go_sem] def c5_5 : Cmd := .ops [⟨some 33, .move (.tmp 0), 30, none⟩,
    ⟨some 34, .call { callee := (.value (.func 24)), args := #[(.tmp 33)], argTypes := #[30] }, 4, none⟩,
    ⟨some 9, .assign (.tmp 34), 4, none⟩]
@[go_sem] def c5_6 : Cmd := .ops [⟨some 36, .move (.tmp 1), 22, none⟩,
    ⟨some 37, .call { callee := (.value (.func 21)), args := #[(.tmp 36)], argTypes := #[22] }, 34, none⟩,
    ⟨some 35, .move (.tmp 37), 34, none⟩,
    ⟨some 38, .extract (.tmp 35) 0, 30, none⟩,
    ⟨some 39, .extract (.tmp 35) 1, 3, none⟩,
    ⟨some 10, .assign (.tmp 38), 30, none⟩,
    ⟨some 11, .assign (.tmp 39), 3, none⟩]
@[go_sem] def c5_7 : Cmd := .ops [⟨some 40, .move (.tmp 11), 3, none⟩,
    ⟨some 41, .binOp .neq 3 (.tmp 40) (.const (.int .i64 0)) 3, 4, none⟩]
@[go_sem] def c5_8 : Cmd := .ops [⟨some 42, .move (.tmp 9), 4, none⟩,
    ⟨some 8, .assign (.tmp 42), 4, none⟩]
@[go_sem] def c5_9 : Cmd := .cond (.tmp 41) (.seq c5_8 .ret) .skip
@[go_sem] def c5_10 : Cmd := .ops [⟨some 43, .move (.tmp 10), 30, none⟩,
    ⟨some 44, .call { callee := (.value (.func 24)), args := #[(.tmp 43)], argTypes := #[30] }, 4, none⟩,
    ⟨some 12, .assign (.tmp 44), 4, none⟩]
@[go_sem] def c5_11 : Cmd := .ops [⟨some 45, .move (.tmp 10), 30, none⟩,
    ⟨some 46, .call { callee := (.value (.func 25)), args := #[(.tmp 45)], argTypes := #[30] }, 30, none⟩,
    ⟨some 47, .buildSlice 30 1 #[(0, (.const (.int .u8 0)))], 30, none⟩,
    ⟨some 48, .call { callee := (.builtin .append), args := #[(.tmp 46), (.tmp 47)], argTypes := #[30, 30] }, 30, none⟩,
    ⟨some 49, .call { callee := (.value (.func 24)), args := #[(.tmp 48)], argTypes := #[30] }, 4, none⟩,
    ⟨some 13, .assign (.tmp 49), 4, none⟩]
@[go_sem] def c5_12 : Cmd := .ops [⟨some 50, .move (.tmp 10), 30, none⟩,
    ⟨some 51, .call { callee := (.builtin .len), args := #[(.tmp 50)], argTypes := #[30] }, 3, none⟩,
    ⟨some 14, .assign (.tmp 51), 3, none⟩]
@[go_sem] def c5_13 : Cmd := .ops [⟨some 52, .move (.tmp 10), 30, none⟩,
    ⟨some 53, .move (.tmp 3), 3, none⟩,
    ⟨some 54, .move (.tmp 14), 3, none⟩,
    ⟨some 55, .binOp .rem 3 (.tmp 53) (.tmp 54) 3, 3, none⟩,
    ⟨some 56, .move (.tmp 14), 3, none⟩,
    ⟨some 57, .binOp .add 3 (.tmp 55) (.tmp 56) 3, 3, none⟩,
    ⟨some 58, .move (.tmp 14), 3, none⟩,
    ⟨some 59, .binOp .rem 3 (.tmp 57) (.tmp 58) 3, 3, none⟩,
    ⟨some 60, .slice 30 (.tmp 52) none (some (.tmp 59)) none, 30, none⟩,
    ⟨some 61, .call { callee := (.value (.func 24)), args := #[(.tmp 60)], argTypes := #[30] }, 4, none⟩,
    ⟨some 15, .assign (.tmp 61), 4, none⟩]
@[go_sem] def c5_14 : Cmd := .ops [⟨some 62, .move (.tmp 10), 30, none⟩,
    ⟨some 63, .call { callee := (.value (.func 25)), args := #[(.tmp 62)], argTypes := #[30] }, 30, none⟩,
    ⟨some 16, .assign (.tmp 63), 30, none⟩]
@[go_sem] def c5_15 : Cmd := .ops [⟨some 17, .assign (.const (.int .i64 0)), 3, none⟩]
@[go_sem] def c5_16 : Cmd := .ops [⟨some 64, .move (.tmp 17), 3, none⟩,
    ⟨some 65, .move (.tmp 2), 39, none⟩,
    ⟨some 66, .call { callee := (.builtin .len), args := #[(.tmp 65)], argTypes := #[39] }, 3, none⟩,
    ⟨some 67, .binOp .lss 3 (.tmp 64) (.tmp 66) 3, 4, none⟩,
    ⟨some 68, .move (.tmp 67), 4, none⟩,
    ⟨some 69, .move (.tmp 17), 3, some (68, true)⟩,
    ⟨some 70, .binOp .lss 3 (.tmp 69) (.const (.int .i64 20)) 3, 4, some (68, true)⟩,
    ⟨some 71, .pick (.tmp 68) (.tmp 70) (.const (.bool false)), 4, none⟩]
@[go_sem] def c5_17 : Cmd := .cond (.tmp 71) .skip (.exit 0)
@[go_sem] def c5_18 : Cmd := .still 19 [⟨some 74, .move (.tmp 16), 30, none⟩,
    ⟨some 75, .move (.tmp 2), 39, none⟩,
    ⟨some 76, .move (.tmp 17), 3, none⟩,
    ⟨some 77, .indexAddr 39 (.tmp 75) (.tmp 76), 0, none⟩,
    ⟨some 78, .fieldAddr 43 (.tmp 77) 0, 0, none⟩,
    ⟨some 79, .load 3 (.tmp 78), 3, none⟩,
    ⟨some 80, .move (.tmp 14), 3, none⟩,
    ⟨some 81, .binOp .rem 3 (.tmp 79) (.tmp 80) 3, 3, none⟩,
    ⟨some 82, .move (.tmp 14), 3, none⟩,
    ⟨some 83, .binOp .add 3 (.tmp 81) (.tmp 82) 3, 3, none⟩,
    ⟨some 84, .move (.tmp 14), 3, none⟩,
    ⟨some 85, .binOp .rem 3 (.tmp 83) (.tmp 84) 3, 3, none⟩,
    ⟨some 86, .indexAddr 30 (.tmp 74) (.tmp 85), 0, none⟩,
    ⟨some 87, .load 5 (.tmp 86), 5, none⟩,
    ⟨some 88, .move (.tmp 2), 39, none⟩,
    ⟨some 89, .move (.tmp 17), 3, none⟩,
    ⟨some 90, .indexAddr 39 (.tmp 88) (.tmp 89), 0, none⟩,
    ⟨some 91, .fieldAddr 43 (.tmp 90) 1, 0, none⟩,
    ⟨some 92, .load 5 (.tmp 91), 5, none⟩,
    ⟨some 93, .binOp .xor 5 (.tmp 87) (.tmp 92) 5, 5, none⟩,
    ⟨some 94, .indexAddr 30 (.tmp 74) (.tmp 85), 0, none⟩,
    ⟨none, .store 5 (.tmp 94) (.tmp 93), 0, none⟩]
@[go_sem] def c5_19 : Cmd := .block 1 c5_18
@[go_sem] def c5_20 : Cmd := .ops [⟨some 72, .move (.tmp 17), 3, none⟩,
    ⟨some 73, .binOp .add 3 (.tmp 72) (.const (.int .i64 1)) 3, 3, none⟩,
    ⟨some 17, .assign (.tmp 73), 3, none⟩]
def c5_L0 : Cmd := (.seq (.seq c5_16 c5_17) (.seq c5_19 c5_20))
@[go_sem] def c5_21 : Cmd := .loop c5_L0
@[go_sem] def c5_22 : Cmd := .block 0 c5_21
@[go_sem] def c5_23 : Cmd := .ops [⟨some 95, .move (.tmp 16), 30, none⟩,
    ⟨some 96, .call { callee := (.value (.func 24)), args := #[(.tmp 95)], argTypes := #[30] }, 4, none⟩,
    ⟨some 18, .assign (.tmp 96), 4, none⟩]
@[go_sem] def c5_24 : Cmd := .ops [⟨some 97, .move (.tmp 9), 4, none⟩,
    ⟨some 98, .move (.tmp 97), 4, none⟩,
    ⟨some 99, .move (.tmp 12), 4, some (98, true)⟩,
    ⟨some 100, .pick (.tmp 98) (.tmp 99) (.const (.bool false)), 4, none⟩,
    ⟨some 101, .move (.tmp 100), 4, none⟩,
    ⟨some 102, .move (.tmp 13), 4, some (101, true)⟩,
    ⟨some 103, .pick (.tmp 101) (.tmp 102) (.const (.bool false)), 4, none⟩,
    ⟨some 104, .move (.tmp 103), 4, none⟩,
    ⟨some 105, .move (.tmp 15), 4, some (104, true)⟩,
    ⟨some 106, .pick (.tmp 104) (.tmp 105) (.const (.bool false)), 4, none⟩,
    ⟨some 107, .move (.tmp 106), 4, none⟩,
    ⟨some 108, .move (.tmp 18), 4, some (107, true)⟩,
    ⟨some 109, .pick (.tmp 107) (.tmp 108) (.const (.bool false)), 4, none⟩,
    ⟨some 8, .assign (.tmp 109), 4, none⟩]
@[go_sem] def c5 : Cmd := (.seq c5_0 (.seq c5_1 (.seq (.seq c5_2 c5_4) (.seq c5_5 (.seq c5_6 (.seq (.seq c5_7 c5_9) (.seq c5_10 (.seq c5_11 (.seq c5_12 (.seq c5_13 (.seq c5_14 (.seq (.seq c5_15 c5_22) (.seq c5_23 (.seq c5_24 .ret))))))))))))))
theorem b5 : Try.f5.body.map (comp 110) = some c5 := by kernel_rfl
theorem r5 : Try.f5.results.toList = [.tmp 8] := by kernel_rfl
-- 6 pith/pithlaw11.RunsMerges
@[go_sem] def c6_0 : Cmd := .ops [⟨some 6, .assign (.const (.bool false)), 4, none⟩]
@[go_sem] def c6_1 : Cmd := .ops [⟨some 15, .call { callee := (.value (.func 11)), args := #[], argTypes := #[] }, 4, none⟩,
    ⟨some 7, .assign (.tmp 15), 4, none⟩]
@[go_sem] def c6_2 : Cmd := .ops [⟨some 16, .move (.tmp 0), 3, none⟩,
    ⟨some 17, .call { callee := (.value (.func 26)), args := #[(.tmp 16)], argTypes := #[3] }, 46, none⟩,
    ⟨some 8, .assign (.tmp 17), 46, none⟩]
@[go_sem] def c6_3 : Cmd := .ops [⟨some 18, .move (.tmp 0), 3, none⟩,
    ⟨some 19, .call { callee := (.value (.func 27)), args := #[(.tmp 18)], argTypes := #[3] }, 48, none⟩,
    ⟨some 9, .assign (.tmp 19), 48, none⟩]
@[go_sem] def c6_4 : Cmd := .ops [⟨some 20, .move (.tmp 1), 3, none⟩,
    ⟨some 21, .call { callee := (.value (.func 26)), args := #[(.tmp 20)], argTypes := #[3] }, 46, none⟩,
    ⟨some 10, .assign (.tmp 21), 46, none⟩]
@[go_sem] def c6_5 : Cmd := .ops [⟨some 22, .move (.tmp 1), 3, none⟩,
    ⟨some 23, .call { callee := (.value (.func 27)), args := #[(.tmp 22)], argTypes := #[3] }, 48, none⟩,
    ⟨some 11, .assign (.tmp 23), 48, none⟩]
@[go_sem] def c6_6 : Cmd := .ops [⟨some 24, .move (.tmp 7), 4, none⟩,
    ⟨some 25, .unOp .not 4 (.tmp 24), 4, none⟩,
    ⟨some 26, .move (.tmp 25), 4, none⟩,
    ⟨some 27, .move (.tmp 8), 46, some (26, false)⟩,
    ⟨some 28, .binOp .eql 46 (.tmp 27) (.const (.pointer none)) 46, 4, some (26, false)⟩,
    ⟨some 29, .move (.tmp 9), 48, some (26, false)⟩,
    ⟨some 30, .binOp .eql 48 (.tmp 29) (.const (.pointer none)) 48, 4, some (26, false)⟩,
    ⟨some 31, .binOp .neq 4 (.tmp 28) (.tmp 30) 4, 4, some (26, false)⟩,
    ⟨some 32, .pick (.tmp 26) (.const (.bool true)) (.tmp 31), 4, none⟩,
    ⟨some 33, .move (.tmp 32), 4, none⟩,
    ⟨some 34, .move (.tmp 10), 46, some (33, false)⟩,
    ⟨some 35, .binOp .eql 46 (.tmp 34) (.const (.pointer none)) 46, 4, some (33, false)⟩,
    ⟨some 36, .move (.tmp 11), 48, some (33, false)⟩,
    ⟨some 37, .binOp .eql 48 (.tmp 36) (.const (.pointer none)) 48, 4, some (33, false)⟩,
    ⟨some 38, .binOp .neq 4 (.tmp 35) (.tmp 37) 4, 4, some (33, false)⟩,
    ⟨some 39, .pick (.tmp 33) (.const (.bool true)) (.tmp 38), 4, none⟩]
@[go_sem] def c6_7 : Cmd := .ops [⟨some 6, .assign (.const (.bool false)), 4, none⟩]
@[go_sem] def c6_8 : Cmd := .cond (.tmp 39) (.seq c6_7 .ret) .skip
@[go_sem] def c6_9 : Cmd := .ops [⟨some 12, .assign (.const (.int .i64 0)), 3, none⟩]
@[go_sem] def c6_10 : Cmd := .ops [⟨some 40, .move (.tmp 12), 3, none⟩,
    ⟨some 41, .move (.tmp 2), 45, none⟩,
    ⟨some 42, .call { callee := (.builtin .len), args := #[(.tmp 41)], argTypes := #[45] }, 3, none⟩,
    ⟨some 43, .binOp .lss 3 (.tmp 40) (.tmp 42) 3, 4, none⟩,
    ⟨some 44, .move (.tmp 43), 4, none⟩,
    ⟨some 45, .move (.tmp 12), 3, some (44, true)⟩,
    ⟨some 46, .binOp .lss 3 (.tmp 45) (.const (.int .i64 600)) 3, 4, some (44, true)⟩,
    ⟨some 47, .pick (.tmp 44) (.tmp 46) (.const (.bool false)), 4, none⟩]
@[go_sem] def c6_11 : Cmd := .cond (.tmp 47) .skip (.exit 0)
@[go_sem] def c6_12 : Cmd := .ops [⟨some 50, .move (.tmp 8), 46, none⟩,
    ⟨some 13, .assign (.tmp 50), 46, none⟩]
@[go_sem] def c6_13 : Cmd := .ops [⟨some 51, .move (.tmp 9), 48, none⟩,
    ⟨some 14, .assign (.tmp 51), 48, none⟩]
@[go_sem] def c6_14 : Cmd := .ops [⟨some 52, .move (.tmp 2), 45, none⟩,
    ⟨some 53, .move (.tmp 12), 3, none⟩,
    ⟨some 54, .indexAddr 45 (.tmp 52) (.tmp 53), 0, none⟩,
    ⟨some 55, .fieldAddr 51 (.tmp 54) 4, 0, none⟩,
    ⟨some 56, .load 4 (.tmp 55), 4, none⟩]
@[go_sem] def c6_15 : Cmd := .ops [⟨some 57, .move (.tmp 10), 46, none⟩,
    ⟨some 13, .assign (.tmp 57), 46, none⟩]
@[go_sem] def c6_16 : Cmd := .ops [⟨some 58, .move (.tmp 11), 48, none⟩,
    ⟨some 14, .assign (.tmp 58), 48, none⟩]
@[go_sem] def c6_17 : Cmd := .cond (.tmp 56) (.seq c6_15 c6_16) .skip
@[go_sem] def c6_18 : Cmd := .ops [⟨some 59, .move (.tmp 13), 46, none⟩,
    ⟨some 60, .binOp .eql 46 (.tmp 59) (.const (.pointer none)) 46, 4, none⟩,
    ⟨some 61, .move (.tmp 60), 4, none⟩,
    ⟨some 62, .move (.tmp 2), 45, some (61, false)⟩,
    ⟨some 63, .move (.tmp 12), 3, some (61, false)⟩,
    ⟨some 64, .indexAddr 45 (.tmp 62) (.tmp 63), 0, some (61, false)⟩,
    ⟨some 65, .fieldAddr 51 (.tmp 64) 2, 0, some (61, false)⟩,
    ⟨some 66, .load 22 (.tmp 65), 22, some (61, false)⟩,
    ⟨some 67, .call { callee := (.builtin .len), args := #[(.tmp 66)], argTypes := #[22] }, 3, some (61, false)⟩,
    ⟨some 68, .binOp .gtr 3 (.tmp 67) (.const (.int .i64 3000)) 3, 4, some (61, false)⟩,
    ⟨some 69, .pick (.tmp 61) (.const (.bool true)) (.tmp 68), 4, none⟩]
@[go_sem] def c6_19 : Cmd := .cond (.tmp 69) (.exit 1) .skip
@[go_sem] def c6_20 : Cmd := .ops [⟨some 70, .move (.tmp 13), 46, none⟩,
    ⟨some 71, .move (.tmp 14), 48, none⟩,
    ⟨some 72, .move (.tmp 2), 45, none⟩,
    ⟨some 73, .move (.tmp 12), 3, none⟩,
    ⟨some 74, .indexAddr 45 (.tmp 72) (.tmp 73), 0, none⟩,
    ⟨some 75, .load 51 (.tmp 74), 51, none⟩,
    ⟨some 76, .call { callee := (.value (.func 28)), args := #[(.tmp 70), (.tmp 71), (.tmp 75)], argTypes := #[46, 48, 51] }, 4, none⟩,
    ⟨some 7, .assign (.tmp 76), 4, none⟩]
@[go_sem] def c6_21 : Cmd := .ops [⟨some 77, .move (.tmp 7), 4, none⟩,
    ⟨some 78, .unOp .not 4 (.tmp 77), 4, none⟩]
@[go_sem] def c6_22 : Cmd := .ops [⟨some 6, .assign (.const (.bool false)), 4, none⟩]
@[go_sem] def c6_23 : Cmd := .cond (.tmp 78) (.seq c6_22 .ret) .skip
@[go_sem] def c6_24 : Cmd := .block 1 (.seq c6_12 (.seq c6_13 (.seq (.seq c6_14 c6_17) (.seq (.seq c6_18 c6_19) (.seq c6_20 (.seq c6_21 c6_23))))))
@[go_sem] def c6_25 : Cmd := .ops [⟨some 48, .move (.tmp 12), 3, none⟩,
    ⟨some 49, .binOp .add 3 (.tmp 48) (.const (.int .i64 1)) 3, 3, none⟩,
    ⟨some 12, .assign (.tmp 49), 3, none⟩]
def c6_L0 : Cmd := (.seq (.seq c6_10 c6_11) (.seq c6_24 c6_25))
@[go_sem] def c6_26 : Cmd := .loop c6_L0
@[go_sem] def c6_27 : Cmd := .block 0 c6_26
@[go_sem] def c6_28 : Cmd := .ops [⟨some 6, .assign (.const (.bool true)), 4, none⟩]
@[go_sem] def c6 : Cmd := (.seq c6_0 (.seq c6_1 (.seq c6_2 (.seq c6_3 (.seq c6_4 (.seq c6_5 (.seq (.seq c6_6 c6_8) (.seq (.seq c6_9 c6_27) (.seq c6_28 .ret)))))))))
theorem b6 : Try.f6.body.map (comp 79) = some c6 := by kernel_rfl
theorem r6 : Try.f6.results.toList = [.tmp 6] := by kernel_rfl
-- 7 pith/pithlaw11.RunsSorted
@[go_sem] def c7_0 : Cmd := .ops [⟨some 2, .assign (.const (.bool false)), 4, none⟩]
@[go_sem] def c7_1 : Cmd := .ops [⟨some 18, .call { callee := (.value (.func 11)), args := #[], argTypes := #[] }, 4, none⟩,
    ⟨some 3, .assign (.tmp 18), 4, none⟩]
@[go_sem] def c7_2 : Cmd := .ops [⟨some 19, .move (.tmp 3), 4, none⟩,
    ⟨some 20, .unOp .not 4 (.tmp 19), 4, none⟩,
    ⟨some 21, .move (.tmp 20), 4, none⟩,
    ⟨some 22, .move (.tmp 0), 22, some (21, false)⟩,
    ⟨some 23, .call { callee := (.builtin .len), args := #[(.tmp 22)], argTypes := #[22] }, 3, some (21, false)⟩,
    ⟨some 24, .binOp .gtr 3 (.tmp 23) (.const (.int .i64 3000)) 3, 4, some (21, false)⟩,
    ⟨some 25, .pick (.tmp 21) (.const (.bool true)) (.tmp 24), 4, none⟩]
@[go_sem] def c7_3 : Cmd := .ops [⟨some 26, .move (.tmp 3), 4, none⟩,
    ⟨some 2, .assign (.tmp 26), 4, none⟩]
@[go_sem] def c7_4 : Cmd := .cond (.tmp 25) (.seq c7_3 .ret) .skip
@[go_sem] def c7_5 : Cmd := .ops [⟨some 27, .move (.tmp 0), 22, none⟩,
    ⟨some 28, .call { callee := (.value (.func 16)), args := #[(.tmp 27)], argTypes := #[22] }, 22, none⟩,
    ⟨some 4, .assign (.tmp 28), 22, none⟩]
@[go_sem] def c7_6 : Cmd := .ops [⟨some 29, .move (.tmp 4), 22, none⟩,
    ⟨some 30, .call { callee := (.value (.func 29)), args := #[(.tmp 29)], argTypes := #[22] }, 4, none⟩,
    ⟨some 5, .assign (.tmp 30), 4, none⟩]
@[go_sem] def c7_7 : Cmd := .ops [⟨some 6, .assign (.const (.slice none 0 0)), 22, none⟩]
@[go_sem] def c7_8 : Cmd := .ops [⟨some 31, .move (.tmp 4), 22, none⟩,
    ⟨some 32, .call { callee := (.builtin .len), args := #[(.tmp 31)], argTypes := #[22] }, 3, none⟩,
    ⟨some 33, .makeSlice 55 (.tmp 32) (.tmp 32), 55, none⟩,
    ⟨some 7, .assign (.tmp 33), 55, none⟩]
@[go_sem] def c7_9 : Cmd := .ops [⟨some 34, .move (.tmp 0), 22, none⟩,
    ⟨some 35, .call { callee := (.builtin .len), args := #[(.tmp 34)], argTypes := #[22] }, 3, none⟩,
    ⟨some 36, .binOp .sub 3 (.tmp 35) (.const (.int .i64 1)) 3, 3, none⟩,
    ⟨some 8, .assign (.tmp 36), 3, none⟩]
@[go_sem] def c7_10 : Cmd := .ops [⟨some 37, .move (.tmp 8), 3, none⟩,
    ⟨some 38, .binOp .geq 3 (.tmp 37) (.const (.int .i64 0)) 3, 4, none⟩]
@[go_sem] def c7_11 : Cmd := .cond (.tmp 38) .skip (.exit 0)
@[go_sem] def c7_12 : Cmd := .ops [⟨some 41, .move (.tmp 6), 22, none⟩,
    ⟨some 42, .move (.tmp 0), 22, none⟩,
    ⟨some 43, .move (.tmp 8), 3, none⟩,
    ⟨some 44, .indexAddr 22 (.tmp 42) (.tmp 43), 0, none⟩,
    ⟨some 45, .load 24 (.tmp 44), 24, none⟩,
    ⟨some 46, .buildSlice 22 1 #[(0, (.tmp 45))], 22, none⟩,
    ⟨some 47, .call { callee := (.builtin .append), args := #[(.tmp 41), (.tmp 46)], argTypes := #[22, 22] }, 22, none⟩,
    ⟨some 6, .assign (.tmp 47), 22, none⟩]
@[go_sem] def c7_13 : Cmd := .ops [⟨some 48, .move (.tmp 4), 22, none⟩,
    ⟨some 49, .move (.tmp 0), 22, none⟩,
    ⟨some 50, .move (.tmp 8), 3, none⟩,
    ⟨some 51, .indexAddr 22 (.tmp 49) (.tmp 50), 0, none⟩,
    ⟨some 52, .load 24 (.tmp 51), 24, none⟩,
    ⟨some 53, .call { callee := (.value (.func 30)), args := #[(.tmp 48), (.tmp 52)], argTypes := #[22, 24] }, 4, none⟩,
    ⟨some 9, .assign (.tmp 53), 4, none⟩]
@[go_sem] def c7_14 : Cmd := .ops [⟨some 54, .move (.tmp 9), 4, none⟩,
    ⟨some 55, .unOp .not 4 (.tmp 54), 4, none⟩]
@[go_sem] def c7_15 : Cmd := .ops [⟨some 2, .assign (.const (.bool false)), 4, none⟩]
@[go_sem] def c7_16 : Cmd := .cond (.tmp 55) (.seq c7_15 .ret) .skip
@[go_sem] def c7_17 : Cmd := .block 1 (.seq c7_12 (.seq c7_13 (.seq c7_14 c7_16)))
@[go_sem] def c7_18 : Cmd := .ops [⟨some 39, .move (.tmp 8), 3, none⟩,
    ⟨some 40, .binOp .sub 3 (.tmp 39) (.const (.int .i64 1)) 3, 3, none⟩,
    ⟨some 8, .assign (.tmp 40), 3, none⟩]
def c7_L0 : Cmd := (.seq (.seq c7_10 c7_11) (.seq c7_17 c7_18))
@[go_sem] def c7_19 : Cmd := .loop c7_L0
@[go_sem] def c7_20 : Cmd := .block 0 c7_19
@[go_sem] def c7_21 : Cmd := .ops [⟨some 10, .assign (.const (.int .i64 0)), 3, none⟩]
@[go_sem] def c7_22 : Cmd := .ops [⟨some 56, .move (.tmp 10), 3, none⟩,
    ⟨some 57, .move (.tmp 0), 22, none⟩,
    ⟨some 58, .call { callee := (.builtin .len), args := #[(.tmp 57)], argTypes := #[22] }, 3, none⟩,
    ⟨some 59, .binOp .lss 3 (.tmp 56) (.tmp 58) 3, 4, none⟩]
@[go_sem] def c7_23 : Cmd := .cond (.tmp 59) .skip (.exit 2)
@[go_sem] def c7_24 : Cmd := .ops [⟨some 62, .move (.tmp 4), 22, none⟩,
    ⟨some 63, .call { callee := (.builtin .len), args := #[(.tmp 62)], argTypes := #[22] }, 3, none⟩,
    ⟨some 11, .assign (.const (.int .i64 0)), 3, none⟩,
    ⟨some 12, .assign (.tmp 63), 3, none⟩]
@[go_sem] def c7_25 : Cmd := .ops [⟨some 64, .move (.tmp 11), 3, none⟩,
    ⟨some 65, .move (.tmp 12), 3, none⟩,
    ⟨some 66, .binOp .lss 3 (.tmp 64) (.tmp 65) 3, 4, none⟩]
@[go_sem] def c7_26 : Cmd := .cond (.tmp 66) .skip (.exit 4)
@[go_sem] def c7_27 : Cmd := .ops [⟨some 67, .move (.tmp 11), 3, none⟩,
    ⟨some 68, .move (.tmp 12), 3, none⟩,
    ⟨some 69, .binOp .add 3 (.tmp 67) (.tmp 68) 3, 3, none⟩,
    ⟨some 70, .binOp .quo 3 (.tmp 69) (.const (.int .i64 2)) 3, 3, none⟩,
    ⟨some 13, .assign (.tmp 70), 3, none⟩]
@[go_sem] def c7_28 : Cmd := .still 8 [⟨some 71, .move (.tmp 4), 22, none⟩,
    ⟨some 72, .move (.tmp 13), 3, none⟩,
    ⟨some 73, .indexAddr 22 (.tmp 71) (.tmp 72), 0, none⟩,
    ⟨some 74, .load 24 (.tmp 73), 24, none⟩,
    ⟨some 75, .move (.tmp 0), 22, none⟩,
    ⟨some 76, .move (.tmp 10), 3, none⟩,
    ⟨some 77, .indexAddr 22 (.tmp 75) (.tmp 76), 0, none⟩,
    ⟨some 78, .load 24 (.tmp 77), 24, none⟩,
    ⟨some 79, .binOp .eql 24 (.tmp 74) (.tmp 78) 24, 4, none⟩]
@[go_sem] def c7_29 : Cmd := .ops [⟨some 80, .move (.tmp 7), 55, none⟩,
    ⟨some 81, .move (.tmp 13), 3, none⟩,
    ⟨some 82, .indexAddr 55 (.tmp 80) (.tmp 81), 0, none⟩,
    ⟨none, .store 4 (.tmp 82) (.const (.bool true)), 0, none⟩]
@[go_sem] def c7_30 : Cmd := .cond (.tmp 79) c7_29 .skip
@[go_sem] def c7_31 : Cmd := .still 8 [⟨some 83, .move (.tmp 4), 22, none⟩,
    ⟨some 84, .move (.tmp 13), 3, none⟩,
    ⟨some 85, .indexAddr 22 (.tmp 83) (.tmp 84), 0, none⟩,
    ⟨some 86, .load 24 (.tmp 85), 24, none⟩,
    ⟨some 87, .move (.tmp 0), 22, none⟩,
    ⟨some 88, .move (.tmp 10), 3, none⟩,
    ⟨some 89, .indexAddr 22 (.tmp 87) (.tmp 88), 0, none⟩,
    ⟨some 90, .load 24 (.tmp 89), 24, none⟩,
    ⟨some 91, .call { callee := (.value (.func 31)), args := #[(.tmp 86), (.tmp 90)], argTypes := #[24, 24] }, 4, none⟩]
@[go_sem] def c7_32 : Cmd := .ops [⟨some 92, .move (.tmp 13), 3, none⟩,
    ⟨some 93, .binOp .add 3 (.tmp 92) (.const (.int .i64 1)) 3, 3, none⟩,
    ⟨some 11, .assign (.tmp 93), 3, none⟩]
@[go_sem] def c7_33 : Cmd := .ops [⟨some 94, .move (.tmp 13), 3, none⟩,
    ⟨some 12, .assign (.tmp 94), 3, none⟩]
@[go_sem] def c7_34 : Cmd := .cond (.tmp 91) c7_32 c7_33
@[go_sem] def c7_35 : Cmd := .block 5 (.seq c7_27 (.seq (.seq c7_28 c7_30) (.seq c7_31 c7_34)))
def c7_L1 : Cmd := (.seq (.seq c7_25 c7_26) c7_35)
@[go_sem] def c7_36 : Cmd := .loop c7_L1
@[go_sem] def c7_37 : Cmd := .block 4 c7_36
@[go_sem] def c7_38 : Cmd := .block 3 (.seq c7_24 c7_37)
@[go_sem] def c7_39 : Cmd := .ops [⟨some 60, .move (.tmp 10), 3, none⟩,
    ⟨some 61, .binOp .add 3 (.tmp 60) (.const (.int .i64 1)) 3, 3, none⟩,
    ⟨some 10, .assign (.tmp 61), 3, none⟩]
def c7_L2 : Cmd := (.seq (.seq c7_22 c7_23) (.seq c7_38 c7_39))
@[go_sem] def c7_40 : Cmd := .loop c7_L2
@[go_sem] def c7_41 : Cmd := .block 2 c7_40
@[go_sem] def c7_42 : Cmd := .ops [⟨some 14, .assign (.const (.int .i64 0)), 3, none⟩]
@[go_sem] def c7_43 : Cmd := .ops [⟨some 95, .move (.tmp 14), 3, none⟩,
    ⟨some 96, .move (.tmp 4), 22, none⟩,
    ⟨some 97, .call { callee := (.builtin .len), args := #[(.tmp 96)], argTypes := #[22] }, 3, none⟩,
    ⟨some 98, .binOp .lss 3 (.tmp 95) (.tmp 97) 3, 4, none⟩]
@[go_sem] def c7_44 : Cmd := .cond (.tmp 98) .skip (.exit 6)
@[go_sem] def c7_45 : Cmd := .draw (.step 3 ⟨some 101, .move (.tmp 7), 55, none⟩
    (.step 3 ⟨some 102, .move (.tmp 14), 3, none⟩
    (.step 3 ⟨some 103, .indexAddr 55 (.tmp 101) (.tmp 102), 0, none⟩
    (.step 0 ⟨some 104, .load 4 (.tmp 103), 4, none⟩
    (.step 3 ⟨some 105, .unOp .not 4 (.tmp 104), 4, none⟩
    (.step 3 ⟨some 106, .move (.tmp 105), 4, none⟩
    (.step 3 ⟨some 107, .move (.tmp 14), 3, some (106, false)⟩
    (.step 3 ⟨some 108, .binOp .gtr 3 (.tmp 107) (.const (.int .i64 0)) 3, 4, some (106, false)⟩
    (.step 3 ⟨some 109, .move (.tmp 108), 4, some (106, false)⟩
    (.step 3 ⟨some 110, .move (.tmp 4), 22, some (109, true)⟩
    (.step 3 ⟨some 111, .move (.tmp 14), 3, some (109, true)⟩
    (.step 3 ⟨some 112, .binOp .sub 3 (.tmp 111) (.const (.int .i64 1)) 3, 3, some (109, true)⟩
    (.step 3 ⟨some 113, .indexAddr 22 (.tmp 110) (.tmp 112), 0, some (109, true)⟩
    (.step 0 ⟨some 114, .load 24 (.tmp 113), 24, some (109, true)⟩
    (.step 3 ⟨some 115, .move (.tmp 4), 22, some (109, true)⟩
    (.step 3 ⟨some 116, .move (.tmp 14), 3, some (109, true)⟩
    (.step 3 ⟨some 117, .indexAddr 22 (.tmp 115) (.tmp 116), 0, some (109, true)⟩
    (.step 0 ⟨some 118, .load 24 (.tmp 117), 24, some (109, true)⟩
    (.step 1 ⟨some 119, .call { callee := (.value (.func 12)), args := #[(.tmp 114), (.tmp 118)], argTypes := #[24, 24] }, 4, some (109, true)⟩
    (.step 3 ⟨some 120, .unOp .not 4 (.tmp 119), 4, some (109, true)⟩
    (.step 3 ⟨some 121, .move (.tmp 120), 4, some (109, true)⟩
    (.step 3 ⟨some 122, .move (.tmp 4), 22, some (121, false)⟩
    (.step 3 ⟨some 123, .move (.tmp 14), 3, some (121, false)⟩
    (.step 3 ⟨some 124, .indexAddr 22 (.tmp 122) (.tmp 123), 0, some (121, false)⟩
    (.step 0 ⟨some 125, .load 24 (.tmp 124), 24, some (121, false)⟩
    (.step 3 ⟨some 126, .move (.tmp 4), 22, some (121, false)⟩
    (.step 3 ⟨some 127, .move (.tmp 14), 3, some (121, false)⟩
    (.step 3 ⟨some 128, .binOp .sub 3 (.tmp 127) (.const (.int .i64 1)) 3, 3, some (121, false)⟩
    (.step 3 ⟨some 129, .indexAddr 22 (.tmp 126) (.tmp 128), 0, some (121, false)⟩
    (.step 0 ⟨some 130, .load 24 (.tmp 129), 24, some (121, false)⟩
    (.step 1 ⟨some 131, .call { callee := (.value (.func 12)), args := #[(.tmp 125), (.tmp 130)], argTypes := #[24, 24] }, 4, some (121, false)⟩
    (.step 3 ⟨some 132, .pick (.tmp 121) (.const (.bool true)) (.tmp 131), 4, some (109, true)⟩
    (.step 3 ⟨some 133, .pick (.tmp 109) (.tmp 132) (.const (.bool false)), 4, some (106, false)⟩
    (.step 3 ⟨some 134, .pick (.tmp 106) (.const (.bool true)) (.tmp 133), 4, none⟩
    .done))))))))))))))))))))))))))))))))))
@[go_sem] def c7_46 : Cmd := .ops [⟨some 2, .assign (.const (.bool false)), 4, none⟩]
@[go_sem] def c7_47 : Cmd := .cond (.tmp 134) (.seq c7_46 .ret) .skip
@[go_sem] def c7_48 : Cmd := .block 7 (.seq c7_45 c7_47)
@[go_sem] def c7_49 : Cmd := .ops [⟨some 99, .move (.tmp 14), 3, none⟩,
    ⟨some 100, .binOp .add 3 (.tmp 99) (.const (.int .i64 1)) 3, 3, none⟩,
    ⟨some 14, .assign (.tmp 100), 3, none⟩]
def c7_L3 : Cmd := (.seq (.seq c7_43 c7_44) (.seq c7_48 c7_49))
@[go_sem] def c7_50 : Cmd := .loop c7_L3
@[go_sem] def c7_51 : Cmd := .block 6 c7_50
@[go_sem] def c7_52 : Cmd := .ops [⟨some 135, .move (.tmp 4), 22, none⟩,
    ⟨some 136, .call { callee := (.value (.func 16)), args := #[(.tmp 135)], argTypes := #[22] }, 22, none⟩,
    ⟨some 137, .move (.tmp 4), 22, none⟩,
    ⟨some 138, .call { callee := (.value (.func 15)), args := #[(.tmp 136), (.tmp 137)], argTypes := #[22, 22] }, 4, none⟩,
    ⟨some 15, .assign (.tmp 138), 4, none⟩]
@[go_sem] def c7_53 : Cmd := .ops [⟨some 139, .move (.tmp 6), 22, none⟩,
    ⟨some 140, .call { callee := (.value (.func 16)), args := #[(.tmp 139)], argTypes := #[22] }, 22, none⟩,
    ⟨some 141, .move (.tmp 4), 22, none⟩,
    ⟨some 142, .call { callee := (.value (.func 15)), args := #[(.tmp 140), (.tmp 141)], argTypes := #[22, 22] }, 4, none⟩,
    ⟨some 16, .assign (.tmp 142), 4, none⟩]
@[go_sem] def c7_54 : Cmd := .ops [⟨some 143, .move (.tmp 6), 22, none⟩,
    ⟨some 144, .move (.tmp 0), 22, none⟩,
    ⟨some 145, .call { callee := (.builtin .append), args := #[(.tmp 143), (.tmp 144)], argTypes := #[22, 22] }, 22, none⟩,
    ⟨some 146, .call { callee := (.value (.func 16)), args := #[(.tmp 145)], argTypes := #[22] }, 22, none⟩,
    ⟨some 147, .move (.tmp 4), 22, none⟩,
    ⟨some 148, .call { callee := (.value (.func 15)), args := #[(.tmp 146), (.tmp 147)], argTypes := #[22, 22] }, 4, none⟩,
    ⟨some 17, .assign (.tmp 148), 4, none⟩]
@[go_sem] def c7_55 : Cmd := .ops [⟨some 149, .move (.tmp 5), 4, none⟩,
    ⟨some 150, .move (.tmp 149), 4, none⟩,
    ⟨some 151, .move (.tmp 15), 4, some (150, true)⟩,
    ⟨some 152, .pick (.tmp 150) (.tmp 151) (.const (.bool false)), 4, none⟩,
    ⟨some 153, .move (.tmp 152), 4, none⟩,
    ⟨some 154, .move (.tmp 16), 4, some (153, true)⟩,
    ⟨some 155, .pick (.tmp 153) (.tmp 154) (.const (.bool false)), 4, none⟩,
    ⟨some 156, .move (.tmp 155), 4, none⟩,
    ⟨some 157, .move (.tmp 17), 4, some (156, true)⟩,
    ⟨some 158, .pick (.tmp 156) (.tmp 157) (.const (.bool false)), 4, none⟩,
    ⟨some 2, .assign (.tmp 158), 4, none⟩]
@[go_sem] def c7 : Cmd := (.seq c7_0 (.seq c7_1 (.seq (.seq c7_2 c7_4) (.seq c7_5 (.seq c7_6 (.seq c7_7 (.seq c7_8 (.seq (.seq c7_9 c7_20) (.seq (.seq c7_21 c7_41) (.seq (.seq c7_42 c7_51) (.seq c7_52 (.seq c7_53 (.seq c7_54 (.seq c7_55 .ret))))))))))))))
theorem b7 : Try.f7.body.map (comp 159) = some c7 := by kernel_rfl
theorem r7 : Try.f7.results.toList = [.tmp 2] := by kernel_rfl
-- 8 pith/pithlaw11.RunsBack
@[go_sem] def c8_0 : Cmd := .ops [⟨some 6, .assign (.const (.bool false)), 4, none⟩]
@[go_sem] def c8_1 : Cmd := .ops [⟨some 21, .call { callee := (.value (.func 11)), args := #[], argTypes := #[] }, 4, none⟩,
    ⟨some 7, .assign (.tmp 21), 4, none⟩]
@[go_sem] def c8_2 : Cmd := .ops [⟨some 22, .move (.tmp 7), 4, none⟩,
    ⟨some 23, .unOp .not 4 (.tmp 22), 4, none⟩,
    ⟨some 24, .move (.tmp 23), 4, none⟩,
    ⟨some 25, .move (.tmp 0), 22, some (24, false)⟩,
    ⟨some 26, .call { callee := (.builtin .len), args := #[(.tmp 25)], argTypes := #[22] }, 3, some (24, false)⟩,
    ⟨some 27, .binOp .gtr 3 (.tmp 26) (.const (.int .i64 3000)) 3, 4, some (24, false)⟩,
    ⟨some 28, .pick (.tmp 24) (.const (.bool true)) (.tmp 27), 4, none⟩,
    ⟨some 29, .move (.tmp 28), 4, none⟩,
    ⟨some 30, .move (.tmp 1), 22, some (29, false)⟩,
    ⟨some 31, .call { callee := (.builtin .len), args := #[(.tmp 30)], argTypes := #[22] }, 3, some (29, false)⟩,
    ⟨some 32, .binOp .gtr 3 (.tmp 31) (.const (.int .i64 3000)) 3, 4, some (29, false)⟩,
    ⟨some 33, .pick (.tmp 29) (.const (.bool true)) (.tmp 32), 4, none⟩,
    ⟨some 34, .move (.tmp 33), 4, none⟩,
    ⟨some 35, .move (.tmp 2), 30, some (34, false)⟩,
    ⟨some 36, .call { callee := (.builtin .len), args := #[(.tmp 35)], argTypes := #[30] }, 3, some (34, false)⟩,
    ⟨some 37, .binOp .gtr 3 (.tmp 36) (.const (.int .i64 65536)) 3, 4, some (34, false)⟩,
    ⟨some 38, .pick (.tmp 34) (.const (.bool true)) (.tmp 37), 4, none⟩]
@[go_sem] def c8_3 : Cmd := .ops [⟨some 39, .move (.tmp 7), 4, none⟩,
    ⟨some 6, .assign (.tmp 39), 4, none⟩]
@[go_sem] def c8_4 : Cmd := .cond (.tmp 38) (.seq c8_3 .ret) .skip
@[go_sem] def c8_5 : Cmd := .ops [⟨some 41, .move (.tmp 0), 22, none⟩,
    ⟨some 42, .call { callee := (.value (.func 20)), args := #[(.tmp 41)], argTypes := #[22] }, 32, none⟩,
    ⟨some 40, .move (.tmp 42), 32, none⟩,
    ⟨some 43, .extract (.tmp 40) 0, 30, none⟩,
    ⟨some 44, .extract (.tmp 40) 1, 31, none⟩,
    ⟨some 8, .assign (.tmp 43), 30, none⟩,
    ⟨some 9, .assign (.tmp 44), 31, none⟩]
@[go_sem] def c8_6 : Cmd := .ops [⟨some 46, .move (.tmp 1), 22, none⟩,
    ⟨some 47, .call { callee := (.value (.func 20)), args := #[(.tmp 46)], argTypes := #[22] }, 32, none⟩,
    ⟨some 45, .move (.tmp 47), 32, none⟩,
    ⟨some 48, .extract (.tmp 45) 0, 30, none⟩,
    ⟨some 49, .extract (.tmp 45) 1, 31, none⟩,
    ⟨some 10, .assign (.tmp 48), 30, none⟩,
    ⟨some 11, .assign (.tmp 49), 31, none⟩]
@[go_sem] def c8_7 : Cmd := .ops [⟨some 50, .move (.tmp 9), 31, none⟩,
    ⟨some 51, .call { callee := (.value (.func 23)), args := #[(.tmp 50)], argTypes := #[31] }, 3, none⟩,
    ⟨some 52, .binOp .eql 3 (.tmp 51) (.const (.int .i64 0)) 3, 4, none⟩,
    ⟨some 53, .move (.tmp 0), 22, none⟩,
    ⟨some 54, .call { callee := (.value (.func 32)), args := #[(.tmp 53)], argTypes := #[22] }, 4, none⟩,
    ⟨some 55, .binOp .neq 4 (.tmp 52) (.tmp 54) 4, 4, none⟩,
    ⟨some 56, .move (.tmp 55), 4, none⟩,
    ⟨some 57, .move (.tmp 11), 31, some (56, false)⟩,
    ⟨some 58, .call { callee := (.value (.func 23)), args := #[(.tmp 57)], argTypes := #[31] }, 3, some (56, false)⟩,
    ⟨some 59, .binOp .eql 3 (.tmp 58) (.const (.int .i64 0)) 3, 4, some (56, false)⟩,
    ⟨some 60, .move (.tmp 1), 22, some (56, false)⟩,
    ⟨some 61, .call { callee := (.value (.func 32)), args := #[(.tmp 60)], argTypes := #[22] }, 4, some (56, false)⟩,
    ⟨some 62, .binOp .neq 4 (.tmp 59) (.tmp 61) 4, 4, some (56, false)⟩,
    ⟨some 63, .pick (.tmp 56) (.const (.bool true)) (.tmp 62), 4, none⟩,
    ⟨some 64, .move (.tmp 63), 4, none⟩,
    ⟨some 65, .move (.tmp 8), 30, some (64, false)⟩,
    ⟨some 66, .call { callee := (.builtin .len), args := #[(.tmp 65)], argTypes := #[30] }, 3, some (64, false)⟩,
    ⟨some 67, .binOp .gtr 3 (.tmp 66) (.const (.int .i64 801)) 3, 4, some (64, false)⟩,
    ⟨some 68, .pick (.tmp 64) (.const (.bool true)) (.tmp 67), 4, none⟩]
@[go_sem] def c8_8 : Cmd := .ops [⟨some 6, .assign (.const (.bool false)), 4, none⟩]
@[go_sem] def c8_9 : Cmd := .cond (.tmp 68) (.seq c8_8 .ret) .skip
@[go_sem] def c8_10 : Cmd := .ops [⟨some 69, .move (.tmp 9), 31, none⟩,
    ⟨some 70, .call { callee := (.value (.func 23)), args := #[(.tmp 69)], argTypes := #[31] }, 3, none⟩,
    ⟨some 71, .binOp .eql 3 (.tmp 70) (.const (.int .i64 0)) 3, 4, none⟩]
@[go_sem] def c8_11 : Cmd := .ops [⟨some 73, .move (.tmp 8), 30, none⟩,
    ⟨some 74, .call { callee := (.value (.func 33)), args := #[(.tmp 73)], argTypes := #[30] }, 57, none⟩,
    ⟨some 72, .move (.tmp 74), 57, none⟩,
    ⟨some 75, .extract (.tmp 72) 0, 22, none⟩,
    ⟨some 76, .extract (.tmp 72) 1, 31, none⟩,
    ⟨some 12, .assign (.tmp 75), 22, none⟩,
    ⟨some 13, .assign (.tmp 76), 31, none⟩]
@[go_sem] def c8_12 : Cmd := .ops [⟨some 77, .move (.tmp 12), 22, none⟩,
    ⟨some 78, .move (.tmp 0), 22, none⟩,
    ⟨some 79, .call { callee := (.value (.func 15)), args := #[(.tmp 77), (.tmp 78)], argTypes := #[22, 22] }, 4, none⟩,
    ⟨some 14, .assign (.tmp 79), 4, none⟩]
@[go_sem] def c8_13 : Cmd := .ops [⟨some 80, .move (.tmp 13), 31, none⟩,
    ⟨some 81, .call { callee := (.value (.func 23)), args := #[(.tmp 80)], argTypes := #[31] }, 3, none⟩,
    ⟨some 82, .binOp .neq 3 (.tmp 81) (.const (.int .i64 0)) 3, 4, none⟩,
    ⟨some 83, .move (.tmp 82), 4, none⟩,
    ⟨some 84, .move (.tmp 14), 4, some (83, false)⟩,
    ⟨some 85, .unOp .not 4 (.tmp 84), 4, some (83, false)⟩,
    ⟨some 86, .pick (.tmp 83) (.const (.bool true)) (.tmp 85), 4, none⟩]
@[go_sem] def c8_14 : Cmd := .ops [⟨some 6, .assign (.const (.bool false)), 4, none⟩]
@[go_sem] def c8_15 : Cmd := .cond (.tmp 86) (.seq c8_14 .ret) .skip
@[go_sem] def c8_16 : Cmd := .ops [⟨some 87, .move (.tmp 8), 30, none⟩,
    ⟨some 88, .call { callee := (.builtin .len), args := #[(.tmp 87)], argTypes := #[30] }, 3, none⟩,
    ⟨some 89, .move (.tmp 10), 30, none⟩,
    ⟨some 90, .call { callee := (.builtin .len), args := #[(.tmp 89)], argTypes := #[30] }, 3, none⟩,
    ⟨some 91, .call { callee := (.builtin .min), args := #[(.tmp 88), (.tmp 90)], argTypes := #[3, 3] }, 3, none⟩,
    ⟨some 15, .assign (.tmp 91), 3, none⟩]
@[go_sem] def c8_17 : Cmd := .ops [⟨some 92, .move (.tmp 0), 22, none⟩,
    ⟨some 93, .move (.tmp 1), 22, none⟩,
    ⟨some 94, .call { callee := (.value (.func 15)), args := #[(.tmp 92), (.tmp 93)], argTypes := #[22, 22] }, 4, none⟩,
    ⟨some 16, .assign (.tmp 94), 4, none⟩]
@[go_sem] def c8_18 : Cmd := .quiet [⟨some 95, .move (.tmp 11), 31, none⟩,
    ⟨some 96, .call { callee := (.value (.func 23)), args := #[(.tmp 95)], argTypes := #[31] }, 3, none⟩,
    ⟨some 97, .binOp .eql 3 (.tmp 96) (.const (.int .i64 0)) 3, 4, none⟩,
    ⟨some 98, .move (.tmp 97), 4, none⟩,
    ⟨some 99, .move (.tmp 8), 30, some (98, true)⟩,
    ⟨some 100, .move (.tmp 15), 3, some (98, true)⟩,
    ⟨some 101, .slice 30 (.tmp 99) none (some (.tmp 100)) none, 30, some (98, true)⟩,
    ⟨some 102, .move (.tmp 10), 30, some (98, true)⟩,
    ⟨some 103, .move (.tmp 15), 3, some (98, true)⟩,
    ⟨some 104, .slice 30 (.tmp 102) none (some (.tmp 103)) none, 30, some (98, true)⟩,
    ⟨some 105, .call { callee := (.value (.func 22)), args := #[(.tmp 101), (.tmp 104)], argTypes := #[30, 30] }, 4, some (98, true)⟩,
    ⟨some 106, .move (.tmp 16), 4, some (98, true)⟩,
    ⟨some 107, .binOp .neq 4 (.tmp 105) (.tmp 106) 4, 4, some (98, true)⟩,
    ⟨some 108, .pick (.tmp 98) (.tmp 107) (.const (.bool false)), 4, none⟩]
@[go_sem] def c8_19 : Cmd := .ops [⟨some 6, .assign (.const (.bool false)), 4, none⟩]
@[go_sem] def c8_20 : Cmd := .cond (.tmp 108) (.seq c8_19 .ret) .skip
@[go_sem] def c8_21 : Cmd := .cond (.tmp 71) (.seq c8_11 (.seq c8_12 (.seq (.seq c8_13 c8_15) (.seq c8_16 (.seq c8_17 (.seq c8_18 c8_20)))))) .skip
@[go_sem] def c8_22 : Cmd := .ops [⟨some 110, .move (.tmp 2), 30, none⟩,
    ⟨some 111, .call { callee := (.value (.func 33)), args := #[(.tmp 110)], argTypes := #[30] }, 57, none⟩,
    ⟨some 109, .move (.tmp 111), 57, none⟩,
    ⟨some 112, .extract (.tmp 109) 0, 22, none⟩,
    ⟨some 113, .extract (.tmp 109) 1, 31, none⟩,
    ⟨some 17, .assign (.tmp 112), 22, none⟩,
    ⟨some 18, .assign (.tmp 113), 31, none⟩]
@[go_sem] def c8_23 : Cmd := .ops [⟨some 114, .move (.tmp 18), 31, none⟩,
    ⟨some 115, .call { callee := (.value (.func 23)), args := #[(.tmp 114)], argTypes := #[31] }, 3, none⟩,
    ⟨some 116, .binOp .neq 3 (.tmp 115) (.const (.int .i64 0)) 3, 4, none⟩]
@[go_sem] def c8_24 : Cmd := .ops [⟨some 117, .move (.tmp 17), 22, none⟩,
    ⟨some 118, .call { callee := (.builtin .len), args := #[(.tmp 117)], argTypes := #[22] }, 3, none⟩,
    ⟨some 119, .binOp .eql 3 (.tmp 118) (.const (.int .i64 0)) 3, 4, none⟩,
    ⟨some 6, .assign (.tmp 119), 4, none⟩]
@[go_sem] def c8_25 : Cmd := .cond (.tmp 116) (.seq c8_24 .ret) .skip
@[go_sem] def c8_26 : Cmd := .ops [⟨some 121, .move (.tmp 17), 22, none⟩,
    ⟨some 122, .call { callee := (.value (.func 20)), args := #[(.tmp 121)], argTypes := #[22] }, 32, none⟩,
    ⟨some 120, .move (.tmp 122), 32, none⟩,
    ⟨some 123, .extract (.tmp 120) 0, 30, none⟩,
    ⟨some 124, .extract (.tmp 120) 1, 31, none⟩,
    ⟨some 19, .assign (.tmp 123), 30, none⟩,
    ⟨some 20, .assign (.tmp 124), 31, none⟩]
@[go_sem] def c8_27 : Cmd := .ops [⟨some 125, .move (.tmp 20), 31, none⟩,
    ⟨some 126, .call { callee := (.value (.func 23)), args := #[(.tmp 125)], argTypes := #[31] }, 3, none⟩,
    ⟨some 127, .binOp .eql 3 (.tmp 126) (.const (.int .i64 0)) 3, 4, none⟩,
    ⟨some 128, .move (.tmp 127), 4, none⟩,
    ⟨some 129, .move (.tmp 19), 30, some (128, true)⟩,
    ⟨some 130, .move (.tmp 2), 30, some (128, true)⟩,
    ⟨some 131, .call { callee := (.value (.func 22)), args := #[(.tmp 129), (.tmp 130)], argTypes := #[30, 30] }, 4, some (128, true)⟩,
    ⟨some 132, .pick (.tmp 128) (.tmp 131) (.const (.bool false)), 4, none⟩,
    ⟨some 6, .assign (.tmp 132), 4, none⟩]
@[go_sem] def c8 : Cmd := (.seq c8_0 (.seq c8_1 (.seq (.seq c8_2 c8_4) (.seq c8_5 (.seq c8_6 (.seq (.seq c8_7 c8_9) (.seq (.seq c8_10 c8_21) (.seq c8_22 (.seq (.seq c8_23 c8_25) (.seq c8_26 (.seq c8_27 .ret)))))))))))
theorem b8 : Try.f8.body.map (comp 133) = some c8 := by kernel_rfl
theorem r8 : Try.f8.results.toList = [.tmp 6] := by kernel_rfl
-- 9 pith/pithlaw11.RunsOne
@[go_sem] def c9_0 : Cmd := .ops [⟨some 4, .assign (.const (.bool false)), 4, none⟩]
@[go_sem] def c9_1 : Cmd := .ops [⟨some 20, .call { callee := (.value (.func 11)), args := #[], argTypes := #[] }, 4, none⟩,
    ⟨some 5, .assign (.tmp 20), 4, none⟩]
@[go_sem] def c9_2 : Cmd := .ops [⟨some 21, .move (.tmp 0), 60, none⟩,
    ⟨some 22, .call { callee := (.value (.func 34)), args := #[(.tmp 21)], argTypes := #[60] }, 60, none⟩,
    ⟨some 6, .assign (.tmp 22), 60, none⟩]
@[go_sem] def c9_3 : Cmd := .ops [⟨some 23, .move (.tmp 6), 60, none⟩,
    ⟨some 24, .call { callee := (.builtin .len), args := #[(.tmp 23)], argTypes := #[60] }, 3, none⟩,
    ⟨some 25, .call { callee := (.value (.func 26)), args := #[(.tmp 24)], argTypes := #[3] }, 46, none⟩,
    ⟨some 7, .assign (.tmp 25), 46, none⟩]
@[go_sem] def c9_4 : Cmd := .ops [⟨some 26, .move (.tmp 5), 4, none⟩,
    ⟨some 27, .unOp .not 4 (.tmp 26), 4, none⟩,
    ⟨some 28, .move (.tmp 27), 4, none⟩,
    ⟨some 29, .move (.tmp 7), 46, some (28, false)⟩,
    ⟨some 30, .binOp .eql 46 (.tmp 29) (.const (.pointer none)) 46, 4, some (28, false)⟩,
    ⟨some 31, .pick (.tmp 28) (.const (.bool true)) (.tmp 30), 4, none⟩]
@[go_sem] def c9_5 : Cmd := .ops [⟨some 4, .assign (.const (.bool false)), 4, none⟩]
@[go_sem] def c9_6 : Cmd := .cond (.tmp 31) (.seq c9_5 .ret) .skip
@[go_sem] def c9_7 : Cmd := .ops [⟨some 32, .move (.tmp 6), 60, none⟩,
    ⟨some 33, .call { callee := (.builtin .len), args := #[(.tmp 32)], argTypes := #[60] }, 3, none⟩,
    ⟨some 34, .makeSlice 63 (.tmp 33) (.tmp 33), 63, none⟩,
    ⟨some 8, .assign (.tmp 34), 63, none⟩]
@[go_sem] def c9_8 : Cmd := .ops [⟨some 35, .move (.tmp 6), 60, none⟩,
    ⟨some 36, .call { callee := (.builtin .len), args := #[(.tmp 35)], argTypes := #[60] }, 3, none⟩,
    ⟨some 37, .makeSlice 55 (.tmp 36) (.tmp 36), 55, none⟩,
    ⟨some 9, .assign (.tmp 37), 55, none⟩]
@[go_sem] def c9_9 : Cmd := .ops [⟨some 10, .assign (.const (.slice none 0 0)), 22, none⟩]
@[go_sem] def c9_10 : Cmd := .ops [⟨some 11, .assign (.const (.int .i64 0)), 3, none⟩]
@[go_sem] def c9_11 : Cmd := .ops [⟨some 38, .move (.tmp 11), 3, none⟩,
    ⟨some 39, .move (.tmp 6), 60, none⟩,
    ⟨some 40, .call { callee := (.builtin .len), args := #[(.tmp 39)], argTypes := #[60] }, 3, none⟩,
    ⟨some 41, .binOp .lss 3 (.tmp 38) (.tmp 40) 3, 4, none⟩]
@[go_sem] def c9_12 : Cmd := .cond (.tmp 41) .skip (.exit 0)
@[go_sem] def c9_13 : Cmd := .ops [⟨some 44, .move (.tmp 10), 22, none⟩,
    ⟨some 45, .move (.tmp 6), 60, none⟩,
    ⟨some 46, .move (.tmp 11), 3, none⟩,
    ⟨some 47, .indexAddr 60 (.tmp 45) (.tmp 46), 0, none⟩,
    ⟨some 48, .load 22 (.tmp 47), 22, none⟩,
    ⟨some 49, .call { callee := (.builtin .append), args := #[(.tmp 44), (.tmp 48)], argTypes := #[22, 22] }, 22, none⟩,
    ⟨some 10, .assign (.tmp 49), 22, none⟩]
@[go_sem] def c9_14 : Cmd := .block 1 c9_13
@[go_sem] def c9_15 : Cmd := .ops [⟨some 42, .move (.tmp 11), 3, none⟩,
    ⟨some 43, .binOp .add 3 (.tmp 42) (.const (.int .i64 1)) 3, 3, none⟩,
    ⟨some 11, .assign (.tmp 43), 3, none⟩]
def c9_L0 : Cmd := (.seq (.seq c9_11 c9_12) (.seq c9_14 c9_15))
@[go_sem] def c9_16 : Cmd := .loop c9_L0
@[go_sem] def c9_17 : Cmd := .block 0 c9_16
@[go_sem] def c9_18 : Cmd := .ops [⟨some 50, .move (.tmp 10), 22, none⟩,
    ⟨some 51, .call { callee := (.value (.func 16)), args := #[(.tmp 50)], argTypes := #[22] }, 22, none⟩,
    ⟨some 12, .assign (.tmp 51), 22, none⟩]
@[go_sem] def c9_19 : Cmd := .ops [⟨some 13, .assign (.const (.slice none 0 0)), 22, none⟩]
@[go_sem] def c9_20 : Cmd := .ops [⟨some 14, .assign (.const (.int .i64 0)), 3, none⟩]
@[go_sem] def c9_21 : Cmd := .ops [⟨some 52, .move (.tmp 14), 3, none⟩,
    ⟨some 53, .move (.tmp 1), 61, none⟩,
    ⟨some 54, .call { callee := (.builtin .len), args := #[(.tmp 53)], argTypes := #[61] }, 3, none⟩,
    ⟨some 55, .binOp .lss 3 (.tmp 52) (.tmp 54) 3, 4, none⟩,
    ⟨some 56, .move (.tmp 55), 4, none⟩,
    ⟨some 57, .move (.tmp 14), 3, some (56, true)⟩,
    ⟨some 58, .binOp .lss 3 (.tmp 57) (.const (.int .i64 2000)) 3, 4, some (56, true)⟩,
    ⟨some 59, .pick (.tmp 56) (.tmp 58) (.const (.bool false)), 4, none⟩,
    ⟨some 60, .move (.tmp 59), 4, none⟩,
    ⟨some 61, .move (.tmp 6), 60, some (60, true)⟩,
    ⟨some 62, .call { callee := (.builtin .len), args := #[(.tmp 61)], argTypes := #[60] }, 3, some (60, true)⟩,
    ⟨some 63, .binOp .gtr 3 (.tmp 62) (.const (.int .i64 0)) 3, 4, some (60, true)⟩,
    ⟨some 64, .pick (.tmp 60) (.tmp 63) (.const (.bool false)), 4, none⟩]
@[go_sem] def c9_22 : Cmd := .cond (.tmp 64) .skip (.exit 2)
@[go_sem] def c9_23 : Cmd := .ops [⟨some 67, .move (.tmp 1), 61, none⟩,
    ⟨some 68, .move (.tmp 14), 3, none⟩,
    ⟨some 69, .indexAddr 61 (.tmp 67) (.tmp 68), 0, none⟩,
    ⟨some 70, .fieldAddr 65 (.tmp 69) 0, 0, none⟩,
    ⟨some 71, .load 3 (.tmp 70), 3, none⟩,
    ⟨some 72, .move (.tmp 6), 60, none⟩,
    ⟨some 73, .call { callee := (.builtin .len), args := #[(.tmp 72)], argTypes := #[60] }, 3, none⟩,
    ⟨some 74, .binOp .rem 3 (.tmp 71) (.tmp 73) 3, 3, none⟩,
    ⟨some 75, .move (.tmp 6), 60, none⟩,
    ⟨some 76, .call { callee := (.builtin .len), args := #[(.tmp 75)], argTypes := #[60] }, 3, none⟩,
    ⟨some 77, .binOp .add 3 (.tmp 74) (.tmp 76) 3, 3, none⟩,
    ⟨some 78, .move (.tmp 6), 60, none⟩,
    ⟨some 79, .call { callee := (.builtin .len), args := #[(.tmp 78)], argTypes := #[60] }, 3, none⟩,
    ⟨some 80, .binOp .rem 3 (.tmp 77) (.tmp 79) 3, 3, none⟩,
    ⟨some 15, .assign (.tmp 80), 3, none⟩]
@[go_sem] def c9_24 : Cmd := .ops [⟨some 81, .move (.tmp 9), 55, none⟩,
    ⟨some 82, .move (.tmp 15), 3, none⟩,
    ⟨some 83, .indexAddr 55 (.tmp 81) (.tmp 82), 0, none⟩,
    ⟨some 84, .load 4 (.tmp 83), 4, none⟩]
@[go_sem] def c9_25 : Cmd := .cond (.tmp 84) (.exit 3) .skip
@[go_sem] def c9_26 : Cmd := .quiet [⟨some 85, .move (.tmp 6), 60, none⟩,
    ⟨some 86, .move (.tmp 15), 3, none⟩,
    ⟨some 87, .indexAddr 60 (.tmp 85) (.tmp 86), 0, none⟩,
    ⟨some 88, .load 22 (.tmp 87), 22, none⟩,
    ⟨some 89, .call { callee := (.builtin .len), args := #[(.tmp 88)], argTypes := #[22] }, 3, none⟩,
    ⟨some 90, .move (.tmp 8), 63, none⟩,
    ⟨some 91, .move (.tmp 15), 3, none⟩,
    ⟨some 92, .indexAddr 63 (.tmp 90) (.tmp 91), 0, none⟩,
    ⟨some 93, .load 3 (.tmp 92), 3, none⟩,
    ⟨some 94, .move (.tmp 1), 61, none⟩,
    ⟨some 95, .move (.tmp 14), 3, none⟩,
    ⟨some 96, .indexAddr 61 (.tmp 94) (.tmp 95), 0, none⟩,
    ⟨some 97, .fieldAddr 65 (.tmp 96) 1, 0, none⟩,
    ⟨some 98, .load 3 (.tmp 97), 3, none⟩,
    ⟨some 99, .binOp .rem 3 (.tmp 98) (.const (.int .i64 50)) 3, 3, none⟩,
    ⟨some 100, .binOp .add 3 (.tmp 99) (.const (.int .i64 50)) 3, 3, none⟩,
    ⟨some 101, .binOp .rem 3 (.tmp 100) (.const (.int .i64 50)) 3, 3, none⟩,
    ⟨some 102, .binOp .add 3 (.tmp 93) (.tmp 101) 3, 3, none⟩,
    ⟨some 103, .call { callee := (.builtin .min), args := #[(.tmp 89), (.tmp 102)], argTypes := #[3, 3] }, 3, none⟩,
    ⟨some 16, .assign (.tmp 103), 3, none⟩]
@[go_sem] def c9_27 : Cmd := .draw (.step 3 ⟨some 104, .move (.tmp 7), 46, none⟩
    (.step 3 ⟨some 105, .move (.tmp 15), 3, none⟩
    (.step 3 ⟨some 106, .move (.tmp 6), 60, none⟩
    (.step 3 ⟨some 107, .move (.tmp 15), 3, none⟩
    (.step 3 ⟨some 108, .indexAddr 60 (.tmp 106) (.tmp 107), 0, none⟩
    (.step 0 ⟨some 109, .load 22 (.tmp 108), 22, none⟩
    (.step 3 ⟨some 110, .move (.tmp 8), 63, none⟩
    (.step 3 ⟨some 111, .move (.tmp 15), 3, none⟩
    (.step 3 ⟨some 112, .indexAddr 63 (.tmp 110) (.tmp 111), 0, none⟩
    (.step 0 ⟨some 113, .load 3 (.tmp 112), 3, none⟩
    (.step 3 ⟨some 114, .move (.tmp 16), 3, none⟩
    (.step 3 ⟨some 115, .slice 22 (.tmp 109) (some (.tmp 113)) (some (.tmp 114)) none, 22, none⟩
    (.step 3 ⟨some 117, .move (.tmp 16), 3, none⟩
    (.step 3 ⟨some 118, .move (.tmp 6), 60, none⟩
    (.step 3 ⟨some 119, .move (.tmp 15), 3, none⟩
    (.step 3 ⟨some 120, .indexAddr 60 (.tmp 118) (.tmp 119), 0, none⟩
    (.step 0 ⟨some 121, .load 22 (.tmp 120), 22, none⟩
    (.step 3 ⟨some 122, .call { callee := (.builtin .len), args := #[(.tmp 121)], argTypes := #[22] }, 3, none⟩
    (.step 3 ⟨some 123, .binOp .eql 3 (.tmp 117) (.tmp 122) 3, 4, none⟩
    (.step 1 ⟨some 116, .call { callee := (.value (.func 18)), args := #[(.tmp 115)], argTypes := #[22] }, 22, none⟩
    (.step 2 ⟨some 124, .call { callee := (.value (.func 35)), args := #[(.tmp 104), (.tmp 105), (.tmp 116), (.tmp 123)], argTypes := #[46, 3, 22, 4] }, 31, none⟩
    (.step 3 ⟨some 17, .assign (.tmp 124), 31, none⟩
    .done))))))))))))))))))))))
@[go_sem] def c9_28 : Cmd := .ops [⟨some 125, .move (.tmp 9), 55, none⟩,
    ⟨some 126, .move (.tmp 15), 3, none⟩,
    ⟨some 127, .move (.tmp 16), 3, none⟩,
    ⟨some 128, .move (.tmp 6), 60, none⟩,
    ⟨some 129, .move (.tmp 15), 3, none⟩,
    ⟨some 130, .indexAddr 60 (.tmp 128) (.tmp 129), 0, none⟩,
    ⟨some 131, .load 22 (.tmp 130), 22, none⟩,
    ⟨some 132, .call { callee := (.builtin .len), args := #[(.tmp 131)], argTypes := #[22] }, 3, none⟩,
    ⟨some 133, .binOp .eql 3 (.tmp 127) (.tmp 132) 3, 4, none⟩,
    ⟨some 134, .indexAddr 55 (.tmp 125) (.tmp 126), 0, none⟩,
    ⟨none, .store 4 (.tmp 134) (.tmp 133), 0, none⟩]
@[go_sem] def c9_29 : Cmd := .ops [⟨some 135, .move (.tmp 8), 63, none⟩,
    ⟨some 136, .move (.tmp 15), 3, none⟩,
    ⟨some 137, .move (.tmp 16), 3, none⟩,
    ⟨some 138, .indexAddr 63 (.tmp 135) (.tmp 136), 0, none⟩,
    ⟨none, .store 3 (.tmp 138) (.tmp 137), 0, none⟩]
@[go_sem] def c9_30 : Cmd := .ops [⟨some 139, .move (.tmp 7), 46, none⟩,
    ⟨some 140, .move (.tmp 13), 22, none⟩,
    ⟨some 141, .move (.tmp 12), 22, none⟩,
    ⟨some 142, .call { callee := (.builtin .len), args := #[(.tmp 141)], argTypes := #[22] }, 3, none⟩,
    ⟨some 143, .call { callee := (.value (.func 36)), args := #[(.tmp 139), (.tmp 140), (.tmp 142)], argTypes := #[46, 22, 3] }, 22, none⟩,
    ⟨some 13, .assign (.tmp 143), 22, none⟩]
@[go_sem] def c9_31 : Cmd := .ops [⟨some 144, .move (.tmp 17), 31, none⟩,
    ⟨some 145, .call { callee := (.value (.func 23)), args := #[(.tmp 144)], argTypes := #[31] }, 3, none⟩,
    ⟨some 146, .binOp .neq 3 (.tmp 145) (.const (.int .i64 0)) 3, 4, none⟩,
    ⟨some 147, .move (.tmp 146), 4, none⟩,
    ⟨some 148, .move (.tmp 13), 22, some (147, false)⟩,
    ⟨some 149, .call { callee := (.builtin .len), args := #[(.tmp 148)], argTypes := #[22] }, 3, some (147, false)⟩,
    ⟨some 150, .move (.tmp 12), 22, some (147, false)⟩,
    ⟨some 151, .call { callee := (.builtin .len), args := #[(.tmp 150)], argTypes := #[22] }, 3, some (147, false)⟩,
    ⟨some 152, .binOp .gtr 3 (.tmp 149) (.tmp 151) 3, 4, some (147, false)⟩,
    ⟨some 153, .pick (.tmp 147) (.const (.bool true)) (.tmp 152), 4, none⟩,
    ⟨some 154, .move (.tmp 153), 4, none⟩,
    ⟨some 155, .move (.tmp 13), 22, some (154, false)⟩,
    ⟨some 156, .move (.tmp 12), 22, some (154, false)⟩,
    ⟨some 157, .move (.tmp 13), 22, some (154, false)⟩,
    ⟨some 158, .call { callee := (.builtin .len), args := #[(.tmp 157)], argTypes := #[22] }, 3, some (154, false)⟩,
    ⟨some 159, .slice 22 (.tmp 156) none (some (.tmp 158)) none, 22, some (154, false)⟩,
    ⟨some 160, .call { callee := (.value (.func 15)), args := #[(.tmp 155), (.tmp 159)], argTypes := #[22, 22] }, 4, some (154, false)⟩,
    ⟨some 161, .unOp .not 4 (.tmp 160), 4, some (154, false)⟩,
    ⟨some 162, .pick (.tmp 154) (.const (.bool true)) (.tmp 161), 4, none⟩]
@[go_sem] def c9_32 : Cmd := .ops [⟨some 4, .assign (.const (.bool false)), 4, none⟩]
@[go_sem] def c9_33 : Cmd := .cond (.tmp 162) (.seq c9_32 .ret) .skip
@[go_sem] def c9_34 : Cmd := .block 3 (.seq c9_23 (.seq (.seq c9_24 c9_25) (.seq c9_26 (.seq c9_27 (.seq c9_28 (.seq c9_29 (.seq c9_30 (.seq c9_31 c9_33))))))))
@[go_sem] def c9_35 : Cmd := .ops [⟨some 65, .move (.tmp 14), 3, none⟩,
    ⟨some 66, .binOp .add 3 (.tmp 65) (.const (.int .i64 1)) 3, 3, none⟩,
    ⟨some 14, .assign (.tmp 66), 3, none⟩]
def c9_L1 : Cmd := (.seq (.seq c9_21 c9_22) (.seq c9_34 c9_35))
@[go_sem] def c9_36 : Cmd := .loop c9_L1
@[go_sem] def c9_37 : Cmd := .block 2 c9_36
@[go_sem] def c9_38 : Cmd := .ops [⟨some 18, .assign (.const (.int .i64 0)), 3, none⟩]
@[go_sem] def c9_39 : Cmd := .ops [⟨some 163, .move (.tmp 18), 3, none⟩,
    ⟨some 164, .move (.tmp 6), 60, none⟩,
    ⟨some 165, .call { callee := (.builtin .len), args := #[(.tmp 164)], argTypes := #[60] }, 3, none⟩,
    ⟨some 166, .binOp .lss 3 (.tmp 163) (.tmp 165) 3, 4, none⟩]
@[go_sem] def c9_40 : Cmd := .cond (.tmp 166) .skip (.exit 4)
@[go_sem] def c9_41 : Cmd := .ops [⟨some 169, .move (.tmp 9), 55, none⟩,
    ⟨some 170, .move (.tmp 18), 3, none⟩,
    ⟨some 171, .indexAddr 55 (.tmp 169) (.tmp 170), 0, none⟩,
    ⟨some 172, .load 4 (.tmp 171), 4, none⟩,
    ⟨some 173, .unOp .not 4 (.tmp 172), 4, none⟩]
@[go_sem] def c9_42 : Cmd := .draw (.step 3 ⟨some 174, .move (.tmp 7), 46, none⟩
    (.step 3 ⟨some 175, .move (.tmp 18), 3, none⟩
    (.step 3 ⟨some 176, .move (.tmp 6), 60, none⟩
    (.step 3 ⟨some 177, .move (.tmp 18), 3, none⟩
    (.step 3 ⟨some 178, .indexAddr 60 (.tmp 176) (.tmp 177), 0, none⟩
    (.step 0 ⟨some 179, .load 22 (.tmp 178), 22, none⟩
    (.step 3 ⟨some 180, .move (.tmp 8), 63, none⟩
    (.step 3 ⟨some 181, .move (.tmp 18), 3, none⟩
    (.step 3 ⟨some 182, .indexAddr 63 (.tmp 180) (.tmp 181), 0, none⟩
    (.step 0 ⟨some 183, .load 3 (.tmp 182), 3, none⟩
    (.step 3 ⟨some 184, .slice 22 (.tmp 179) (some (.tmp 183)) none none, 22, none⟩
    (.step 1 ⟨some 185, .call { callee := (.value (.func 18)), args := #[(.tmp 184)], argTypes := #[22] }, 22, none⟩
    (.step 2 ⟨some 186, .call { callee := (.value (.func 35)), args := #[(.tmp 174), (.tmp 175), (.tmp 185), (.const (.bool true))], argTypes := #[46, 3, 22, 4] }, 31, none⟩
    (.step 3 ⟨some 19, .assign (.tmp 186), 31, none⟩
    .done))))))))))))))
@[go_sem] def c9_43 : Cmd := .ops [⟨some 187, .move (.tmp 19), 31, none⟩,
    ⟨some 188, .call { callee := (.value (.func 23)), args := #[(.tmp 187)], argTypes := #[31] }, 3, none⟩,
    ⟨some 189, .binOp .neq 3 (.tmp 188) (.const (.int .i64 0)) 3, 4, none⟩]
@[go_sem] def c9_44 : Cmd := .ops [⟨some 4, .assign (.const (.bool false)), 4, none⟩]
@[go_sem] def c9_45 : Cmd := .cond (.tmp 189) (.seq c9_44 .ret) .skip
@[go_sem] def c9_46 : Cmd := .cond (.tmp 173) (.seq c9_42 (.seq c9_43 c9_45)) .skip
@[go_sem] def c9_47 : Cmd := .block 5 (.seq c9_41 c9_46)
@[go_sem] def c9_48 : Cmd := .ops [⟨some 167, .move (.tmp 18), 3, none⟩,
    ⟨some 168, .binOp .add 3 (.tmp 167) (.const (.int .i64 1)) 3, 3, none⟩,
    ⟨some 18, .assign (.tmp 168), 3, none⟩]
def c9_L2 : Cmd := (.seq (.seq c9_39 c9_40) (.seq c9_47 c9_48))
@[go_sem] def c9_49 : Cmd := .loop c9_L2
@[go_sem] def c9_50 : Cmd := .block 4 c9_49
@[go_sem] def c9_51 : Cmd := .ops [⟨some 190, .move (.tmp 7), 46, none⟩,
    ⟨some 191, .move (.tmp 13), 22, none⟩,
    ⟨some 192, .move (.tmp 12), 22, none⟩,
    ⟨some 193, .call { callee := (.builtin .len), args := #[(.tmp 192)], argTypes := #[22] }, 3, none⟩,
    ⟨some 194, .call { callee := (.value (.func 36)), args := #[(.tmp 190), (.tmp 191), (.tmp 193)], argTypes := #[46, 22, 3] }, 22, none⟩,
    ⟨some 13, .assign (.tmp 194), 22, none⟩]
@[go_sem] def c9_52 : Cmd := .ops [⟨some 195, .move (.tmp 7), 46, none⟩,
    ⟨some 196, .call { callee := (.value (.func 37)), args := #[(.tmp 195)], argTypes := #[46] }, 3, none⟩,
    ⟨some 197, .binOp .eql 3 (.tmp 196) (.const (.int .i64 (-1))) 3, 4, none⟩,
    ⟨some 198, .move (.tmp 197), 4, none⟩,
    ⟨some 199, .move (.tmp 7), 46, some (198, true)⟩,
    ⟨some 200, .call { callee := (.value (.func 38)), args := #[(.tmp 199)], argTypes := #[46] }, 3, some (198, true)⟩,
    ⟨some 201, .binOp .eql 3 (.tmp 200) (.const (.int .i64 0)) 3, 4, some (198, true)⟩,
    ⟨some 202, .pick (.tmp 198) (.tmp 201) (.const (.bool false)), 4, none⟩,
    ⟨some 203, .move (.tmp 202), 4, none⟩,
    ⟨some 204, .move (.tmp 13), 22, some (203, true)⟩,
    ⟨some 205, .move (.tmp 12), 22, some (203, true)⟩,
    ⟨some 206, .call { callee := (.value (.func 15)), args := #[(.tmp 204), (.tmp 205)], argTypes := #[22, 22] }, 4, some (203, true)⟩,
    ⟨some 207, .pick (.tmp 203) (.tmp 206) (.const (.bool false)), 4, none⟩,
    ⟨some 4, .assign (.tmp 207), 4, none⟩]
@[go_sem] def c9 : Cmd := (.seq c9_0 (.seq c9_1 (.seq c9_2 (.seq c9_3 (.seq (.seq c9_4 c9_6) (.seq c9_7 (.seq c9_8 (.seq c9_9 (.seq (.seq c9_10 c9_17) (.seq c9_18 (.seq c9_19 (.seq (.seq c9_20 c9_37) (.seq (.seq c9_38 c9_50) (.seq c9_51 (.seq c9_52 .ret)))))))))))))))
theorem b9 : Try.f9.body.map (comp 208) = some c9 := by kernel_rfl
theorem r9 : Try.f9.results.toList = [.tmp 4] := by kernel_rfl
-- 10 pith/pithlaw11.RunsRefused
@[go_sem] def c10_0 : Cmd := .ops [⟨some 5, .box 24 (.tmp 2), 0, none⟩,
    ⟨some 6, .assign (.const (.bool false)), 4, none⟩]
@[go_sem] def c10_1 : Cmd := .ops [⟨some 24, .call { callee := (.value (.func 11)), args := #[], argTypes := #[] }, 4, none⟩,
    ⟨some 7, .assign (.tmp 24), 4, none⟩]
@[go_sem] def c10_2 : Cmd := .ops [⟨some 25, .move (.tmp 0), 60, none⟩,
    ⟨some 26, .call { callee := (.value (.func 34)), args := #[(.tmp 25)], argTypes := #[60] }, 60, none⟩,
    ⟨some 8, .assign (.tmp 26), 60, none⟩]
@[go_sem] def c10_3 : Cmd := .ops [⟨some 27, .move (.tmp 8), 60, none⟩,
    ⟨some 28, .call { callee := (.builtin .len), args := #[(.tmp 27)], argTypes := #[60] }, 3, none⟩,
    ⟨some 29, .call { callee := (.value (.func 26)), args := #[(.tmp 28)], argTypes := #[3] }, 46, none⟩,
    ⟨some 9, .assign (.tmp 29), 46, none⟩]
@[go_sem] def c10_4 : Cmd := .ops [⟨some 30, .move (.tmp 8), 60, none⟩,
    ⟨some 31, .call { callee := (.builtin .len), args := #[(.tmp 30)], argTypes := #[60] }, 3, none⟩,
    ⟨some 32, .call { callee := (.value (.func 26)), args := #[(.tmp 31)], argTypes := #[3] }, 46, none⟩,
    ⟨some 10, .assign (.tmp 32), 46, none⟩]
@[go_sem] def c10_5 : Cmd := .ops [⟨some 33, .move (.tmp 7), 4, none⟩,
    ⟨some 34, .unOp .not 4 (.tmp 33), 4, none⟩,
    ⟨some 35, .move (.tmp 34), 4, none⟩,
    ⟨some 36, .move (.tmp 9), 46, some (35, false)⟩,
    ⟨some 37, .binOp .eql 46 (.tmp 36) (.const (.pointer none)) 46, 4, some (35, false)⟩,
    ⟨some 38, .pick (.tmp 35) (.const (.bool true)) (.tmp 37), 4, none⟩,
    ⟨some 39, .move (.tmp 38), 4, none⟩,
    ⟨some 40, .move (.tmp 10), 46, some (39, false)⟩,
    ⟨some 41, .binOp .eql 46 (.tmp 40) (.const (.pointer none)) 46, 4, some (39, false)⟩,
    ⟨some 42, .pick (.tmp 39) (.const (.bool true)) (.tmp 41), 4, none⟩]
@[go_sem] def c10_6 : Cmd := .ops [⟨some 6, .assign (.const (.bool false)), 4, none⟩]
@[go_sem] def c10_7 : Cmd := .cond (.tmp 42) (.seq c10_6 .ret) .skip
@[go_sem] def c10_8 : Cmd := .ops [⟨some 11, .assign (.const (.int .i64 0)), 3, none⟩]
@[go_sem] def c10_9 : Cmd := .ops [⟨some 43, .move (.tmp 11), 3, none⟩,
    ⟨some 44, .move (.tmp 8), 60, none⟩,
    ⟨some 45, .call { callee := (.builtin .len), args := #[(.tmp 44)], argTypes := #[60] }, 3, none⟩,
    ⟨some 46, .binOp .lss 3 (.tmp 43) (.tmp 45) 3, 4, none⟩]
@[go_sem] def c10_10 : Cmd := .cond (.tmp 46) .skip (.exit 0)
@[go_sem] def c10_11 : Cmd := .ops [⟨some 49, .move (.tmp 11), 3, none⟩,
    ⟨some 50, .binOp .rem 3 (.tmp 49) (.const (.int .i64 2)) 3, 3, none⟩,
    ⟨some 51, .binOp .eql 3 (.tmp 50) (.const (.int .i64 0)) 3, 4, none⟩,
    ⟨some 12, .assign (.tmp 51), 4, none⟩]
@[go_sem] def c10_12 : Cmd := .ops [⟨some 52, .move (.tmp 9), 46, none⟩,
    ⟨some 53, .move (.tmp 11), 3, none⟩,
    ⟨some 54, .move (.tmp 8), 60, none⟩,
    ⟨some 55, .move (.tmp 11), 3, none⟩,
    ⟨some 56, .indexAddr 60 (.tmp 54) (.tmp 55), 0, none⟩,
    ⟨some 57, .load 22 (.tmp 56), 22, none⟩,
    ⟨some 58, .call { callee := (.value (.func 18)), args := #[(.tmp 57)], argTypes := #[22] }, 22, none⟩,
    ⟨some 59, .move (.tmp 12), 4, none⟩,
    ⟨some 60, .call { callee := (.value (.func 35)), args := #[(.tmp 52), (.tmp 53), (.tmp 58), (.tmp 59)], argTypes := #[46, 3, 22, 4] }, 31, none⟩,
    ⟨some 13, .assign (.tmp 60), 31, none⟩]
@[go_sem] def c10_13 : Cmd := .ops [⟨some 61, .move (.tmp 10), 46, none⟩,
    ⟨some 62, .move (.tmp 11), 3, none⟩,
    ⟨some 63, .move (.tmp 8), 60, none⟩,
    ⟨some 64, .move (.tmp 11), 3, none⟩,
    ⟨some 65, .indexAddr 60 (.tmp 63) (.tmp 64), 0, none⟩,
    ⟨some 66, .load 22 (.tmp 65), 22, none⟩,
    ⟨some 67, .call { callee := (.value (.func 18)), args := #[(.tmp 66)], argTypes := #[22] }, 22, none⟩,
    ⟨some 68, .move (.tmp 12), 4, none⟩,
    ⟨some 69, .call { callee := (.value (.func 35)), args := #[(.tmp 61), (.tmp 62), (.tmp 67), (.tmp 68)], argTypes := #[46, 3, 22, 4] }, 31, none⟩,
    ⟨some 14, .assign (.tmp 69), 31, none⟩]
@[go_sem] def c10_14 : Cmd := .ops [⟨some 70, .move (.tmp 9), 46, none⟩,
    ⟨some 71, .move (.tmp 11), 3, none⟩,
    ⟨some 72, .load 24 (.tmp 5), 24, none⟩,
    ⟨some 73, .load 24 (.tmp 5), 24, none⟩,
    ⟨some 74, .buildSlice 22 2 #[(0, (.tmp 72)), (1, (.tmp 73))], 22, none⟩,
    ⟨some 75, .call { callee := (.value (.func 35)), args := #[(.tmp 70), (.tmp 71), (.tmp 74), (.const (.bool true))], argTypes := #[46, 3, 22, 4] }, 31, none⟩,
    ⟨some 15, .assign (.tmp 75), 31, none⟩]
@[go_sem] def c10_15 : Cmd := .ops [⟨some 76, .move (.tmp 9), 46, none⟩,
    ⟨some 77, .move (.tmp 8), 60, none⟩,
    ⟨some 78, .call { callee := (.builtin .len), args := #[(.tmp 77)], argTypes := #[60] }, 3, none⟩,
    ⟨some 79, .call { callee := (.value (.func 35)), args := #[(.tmp 76), (.tmp 78), (.const (.slice none 0 0)), (.const (.bool true))], argTypes := #[46, 3, 22, 4] }, 31, none⟩,
    ⟨some 16, .assign (.tmp 79), 31, none⟩]
@[go_sem] def c10_16 : Cmd := .ops [⟨some 80, .move (.tmp 9), 46, none⟩,
    ⟨some 81, .call { callee := (.value (.func 35)), args := #[(.tmp 80), (.const (.int .i64 (-1))), (.const (.slice none 0 0)), (.const (.bool true))], argTypes := #[46, 3, 22, 4] }, 31, none⟩,
    ⟨some 17, .assign (.tmp 81), 31, none⟩]
@[go_sem] def c10_17 : Cmd := .ops [⟨some 82, .move (.tmp 13), 31, none⟩,
    ⟨some 83, .call { callee := (.value (.func 23)), args := #[(.tmp 82)], argTypes := #[31] }, 3, none⟩,
    ⟨some 84, .move (.tmp 14), 31, none⟩,
    ⟨some 85, .call { callee := (.value (.func 23)), args := #[(.tmp 84)], argTypes := #[31] }, 3, none⟩,
    ⟨some 86, .binOp .add 3 (.tmp 83) (.tmp 85) 3, 3, none⟩,
    ⟨some 87, .binOp .neq 3 (.tmp 86) (.const (.int .i64 0)) 3, 4, none⟩,
    ⟨some 88, .move (.tmp 87), 4, none⟩,
    ⟨some 89, .move (.tmp 15), 31, some (88, false)⟩,
    ⟨some 90, .call { callee := (.value (.func 23)), args := #[(.tmp 89)], argTypes := #[31] }, 3, some (88, false)⟩,
    ⟨some 91, .binOp .neq 3 (.tmp 90) (.const (.int .i64 111)) 3, 4, some (88, false)⟩,
    ⟨some 92, .move (.tmp 91), 4, some (88, false)⟩,
    ⟨some 93, .move (.tmp 15), 31, some (92, true)⟩,
    ⟨some 94, .call { callee := (.value (.func 23)), args := #[(.tmp 93)], argTypes := #[31] }, 3, some (92, true)⟩,
    ⟨some 95, .binOp .neq 3 (.tmp 94) (.const (.int .i64 112)) 3, 4, some (92, true)⟩,
    ⟨some 96, .pick (.tmp 92) (.tmp 95) (.const (.bool false)), 4, some (88, false)⟩,
    ⟨some 97, .pick (.tmp 88) (.const (.bool true)) (.tmp 96), 4, none⟩,
    ⟨some 98, .move (.tmp 97), 4, none⟩,
    ⟨some 99, .move (.tmp 15), 31, some (98, false)⟩,
    ⟨some 100, .call { callee := (.value (.func 23)), args := #[(.tmp 99)], argTypes := #[31] }, 3, some (98, false)⟩,
    ⟨some 101, .binOp .eql 3 (.tmp 100) (.const (.int .i64 112)) 3, 4, some (98, false)⟩,
    ⟨some 102, .move (.tmp 12), 4, some (98, false)⟩,
    ⟨some 103, .binOp .neq 4 (.tmp 101) (.tmp 102) 4, 4, some (98, false)⟩,
    ⟨some 104, .pick (.tmp 98) (.const (.bool true)) (.tmp 103), 4, none⟩,
    ⟨some 105, .move (.tmp 104), 4, none⟩,
    ⟨some 106, .move (.tmp 16), 31, some (105, false)⟩,
    ⟨some 107, .call { callee := (.value (.func 23)), args := #[(.tmp 106)], argTypes := #[31] }, 3, some (105, false)⟩,
    ⟨some 108, .binOp .neq 3 (.tmp 107) (.const (.int .i64 112)) 3, 4, some (105, false)⟩,
    ⟨some 109, .pick (.tmp 105) (.const (.bool true)) (.tmp 108), 4, none⟩,
    ⟨some 110, .move (.tmp 109), 4, none⟩,
    ⟨some 111, .move (.tmp 17), 31, some (110, false)⟩,
    ⟨some 112, .call { callee := (.value (.func 23)), args := #[(.tmp 111)], argTypes := #[31] }, 3, some (110, false)⟩,
    ⟨some 113, .binOp .neq 3 (.tmp 112) (.const (.int .i64 112)) 3, 4, some (110, false)⟩,
    ⟨some 114, .pick (.tmp 110) (.const (.bool true)) (.tmp 113), 4, none⟩]
@[go_sem] def c10_18 : Cmd := .ops [⟨some 6, .assign (.const (.bool false)), 4, none⟩]
@[go_sem] def c10_19 : Cmd := .cond (.tmp 114) (.seq c10_18 .ret) .skip
@[go_sem] def c10_20 : Cmd := .block 1 (.seq c10_11 (.seq c10_12 (.seq c10_13 (.seq c10_14 (.seq c10_15 (.seq c10_16 (.seq c10_17 c10_19)))))))
@[go_sem] def c10_21 : Cmd := .ops [⟨some 47, .move (.tmp 11), 3, none⟩,
    ⟨some 48, .binOp .add 3 (.tmp 47) (.const (.int .i64 1)) 3, 3, none⟩,
    ⟨some 11, .assign (.tmp 48), 3, none⟩]
def c10_L0 : Cmd := (.seq (.seq c10_9 c10_10) (.seq c10_20 c10_21))
@[go_sem] def c10_22 : Cmd := .loop c10_L0
@[go_sem] def c10_23 : Cmd := .block 0 c10_22
@[go_sem] def c10_24 : Cmd := .ops [⟨some 18, .assign (.const (.int .i64 1)), 3, none⟩]
@[go_sem] def c10_25 : Cmd := .ops [⟨some 115, .move (.tmp 18), 3, none⟩,
    ⟨some 116, .move (.tmp 8), 60, none⟩,
    ⟨some 117, .call { callee := (.builtin .len), args := #[(.tmp 116)], argTypes := #[60] }, 3, none⟩,
    ⟨some 118, .binOp .lss 3 (.tmp 115) (.tmp 117) 3, 4, none⟩]
@[go_sem] def c10_26 : Cmd := .cond (.tmp 118) .skip (.exit 2)
@[go_sem] def c10_27 : Cmd := .ops [⟨some 121, .move (.tmp 9), 46, none⟩,
    ⟨some 122, .call { callee := (.value (.func 37)), args := #[(.tmp 121)], argTypes := #[46] }, 3, none⟩,
    ⟨some 123, .move (.tmp 10), 46, none⟩,
    ⟨some 124, .call { callee := (.value (.func 37)), args := #[(.tmp 123)], argTypes := #[46] }, 3, none⟩,
    ⟨some 125, .binOp .eql 3 (.tmp 122) (.tmp 124) 3, 4, none⟩,
    ⟨some 126, .move (.tmp 125), 4, none⟩,
    ⟨some 127, .move (.tmp 9), 46, some (126, true)⟩,
    ⟨some 128, .call { callee := (.value (.func 38)), args := #[(.tmp 127)], argTypes := #[46] }, 3, some (126, true)⟩,
    ⟨some 129, .move (.tmp 10), 46, some (126, true)⟩,
    ⟨some 130, .call { callee := (.value (.func 38)), args := #[(.tmp 129)], argTypes := #[46] }, 3, some (126, true)⟩,
    ⟨some 131, .binOp .eql 3 (.tmp 128) (.tmp 130) 3, 4, some (126, true)⟩,
    ⟨some 132, .pick (.tmp 126) (.tmp 131) (.const (.bool false)), 4, none⟩,
    ⟨some 19, .assign (.tmp 132), 4, none⟩]
@[go_sem] def c10_28 : Cmd := .ops [⟨some 133, .move (.tmp 9), 46, none⟩,
    ⟨some 134, .move (.tmp 18), 3, none⟩,
    ⟨some 135, .call { callee := (.value (.func 35)), args := #[(.tmp 133), (.tmp 134), (.const (.slice none 0 0)), (.const (.bool true))], argTypes := #[46, 3, 22, 4] }, 31, none⟩,
    ⟨some 20, .assign (.tmp 135), 31, none⟩]
@[go_sem] def c10_29 : Cmd := .ops [⟨some 136, .move (.tmp 10), 46, none⟩,
    ⟨some 137, .move (.tmp 18), 3, none⟩,
    ⟨some 138, .call { callee := (.value (.func 35)), args := #[(.tmp 136), (.tmp 137), (.const (.slice none 0 0)), (.const (.bool true))], argTypes := #[46, 3, 22, 4] }, 31, none⟩,
    ⟨some 21, .assign (.tmp 138), 31, none⟩]
@[go_sem] def c10_30 : Cmd := .ops [⟨some 139, .move (.tmp 19), 4, none⟩,
    ⟨some 140, .unOp .not 4 (.tmp 139), 4, none⟩,
    ⟨some 141, .move (.tmp 140), 4, none⟩,
    ⟨some 142, .move (.tmp 20), 31, some (141, false)⟩,
    ⟨some 143, .call { callee := (.value (.func 23)), args := #[(.tmp 142)], argTypes := #[31] }, 3, some (141, false)⟩,
    ⟨some 144, .move (.tmp 21), 31, some (141, false)⟩,
    ⟨some 145, .call { callee := (.value (.func 23)), args := #[(.tmp 144)], argTypes := #[31] }, 3, some (141, false)⟩,
    ⟨some 146, .binOp .add 3 (.tmp 143) (.tmp 145) 3, 3, some (141, false)⟩,
    ⟨some 147, .binOp .neq 3 (.tmp 146) (.const (.int .i64 0)) 3, 4, some (141, false)⟩,
    ⟨some 148, .pick (.tmp 141) (.const (.bool true)) (.tmp 147), 4, none⟩]
@[go_sem] def c10_31 : Cmd := .ops [⟨some 6, .assign (.const (.bool false)), 4, none⟩]
@[go_sem] def c10_32 : Cmd := .cond (.tmp 148) (.seq c10_31 .ret) .skip
@[go_sem] def c10_33 : Cmd := .block 3 (.seq c10_27 (.seq c10_28 (.seq c10_29 (.seq c10_30 c10_32))))
@[go_sem] def c10_34 : Cmd := .ops [⟨some 119, .move (.tmp 18), 3, none⟩,
    ⟨some 120, .binOp .add 3 (.tmp 119) (.const (.int .i64 2)) 3, 3, none⟩,
    ⟨some 18, .assign (.tmp 120), 3, none⟩]
def c10_L1 : Cmd := (.seq (.seq c10_25 c10_26) (.seq c10_33 c10_34))
@[go_sem] def c10_35 : Cmd := .loop c10_L1
@[go_sem] def c10_36 : Cmd := .block 2 c10_35
@[go_sem] def c10_37 : Cmd := .ops [⟨some 149, .move (.tmp 9), 46, none⟩,
    ⟨some 150, .call { callee := (.value (.func 36)), args := #[(.tmp 149), (.const (.slice none 0 0)), (.const (.int .i64 1048576))], argTypes := #[46, 22, 3] }, 22, none⟩,
    ⟨some 22, .assign (.tmp 150), 22, none⟩]
@[go_sem] def c10_38 : Cmd := .ops [⟨some 151, .move (.tmp 10), 46, none⟩,
    ⟨some 152, .call { callee := (.value (.func 36)), args := #[(.tmp 151), (.const (.slice none 0 0)), (.const (.int .i64 1048576))], argTypes := #[46, 22, 3] }, 22, none⟩,
    ⟨some 23, .assign (.tmp 152), 22, none⟩]
@[go_sem] def c10_39 : Cmd := .ops [⟨some 153, .move (.tmp 22), 22, none⟩,
    ⟨some 154, .move (.tmp 23), 22, none⟩,
    ⟨some 155, .call { callee := (.value (.func 15)), args := #[(.tmp 153), (.tmp 154)], argTypes := #[22, 22] }, 4, none⟩,
    ⟨some 6, .assign (.tmp 155), 4, none⟩]
@[go_sem] def c10 : Cmd := (.seq c10_0 (.seq c10_1 (.seq c10_2 (.seq c10_3 (.seq c10_4 (.seq (.seq c10_5 c10_7) (.seq (.seq c10_8 c10_23) (.seq (.seq c10_24 c10_36) (.seq c10_37 (.seq c10_38 (.seq c10_39 .ret)))))))))))
theorem b10 : Try.f10.body.map (comp 156) = some c10 := by kernel_rfl
theorem r10 : Try.f10.results.toList = [.tmp 6] := by kernel_rfl
end Go.Proofs.Ytcgejfmbhpmjfaa
