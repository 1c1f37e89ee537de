/- Copies and equalities of bytes and of files. -/
import Derived.Test.YtgigigchjnnonaaGreatDoorVRec
import Derived.Test.YtgigigchjnnonaaGreatDoorVCode
set_option linter.unusedSimpArgs false
set_option linter.unusedVariables false
set_option maxRecDepth 20000
namespace Go.V
open Go
/-- A file: a name, its bytes. -/
abbrev Fl := ByteArray × List Int
@[reducible] def fileK : RecK Fl := ⟨2, fun u a => [.string a.1, u], fun a => a.2, by decide, fun _ _ => rfl⟩
end Go.V
namespace Go.Proofs.YtgigigchjnnonaaGreatDoor
open Go Go.V
theorem F14 (v u : Value) (xs ys : List Int) (H : Heap) (hv : Ints H 5 .u8 v xs) (hu : Ints H 5 .u8 u ys) (hx : Byt xs) (hy : Byt ys) :
    Fun Tryz.prog 14 #[v, u] H (fun r H' => r = .bool (decide (xs = ys)) ∧ H = H') := by
  refine fun_of mixed (args := [v, u]) Tryz.func14 Tryz.ntmps14 b14 r14 rfl ?_
  obtain ⟨a, c, rfl⟩ := hv.form
  obtain ⟨a', c', rfl⟩ := hu.form
  simp only [go_sem, ↓reduceIte, Nat.reduceEqDiff, Nat.reduceLeDiff, Nat.reduceAdd, Nat.reduceMul, Nat.reduceSub, Nat.reduceBEq, Nat.reduceGT, Nat.reduceLT, Int.reduceLE, Int.reduceLT, Int.reduceNeg, reduceCtorEq]
  refine RunI.by (conv_str hv ty53 ty9 ty5) ?_
  rintro _ _ ⟨rfl, rfl⟩
  simp only [go_sem, ↓reduceIte, Nat.reduceEqDiff, Nat.reduceLeDiff, Nat.reduceAdd, Nat.reduceMul, Nat.reduceSub, Nat.reduceBEq, Nat.reduceGT, Nat.reduceLT, Int.reduceLE, Int.reduceLT, Int.reduceNeg, reduceCtorEq]
  refine RunI.by (conv_str hu ty53 ty9 ty5) ?_
  rintro _ _ ⟨rfl, rfl⟩
  simp only [go_sem, ↓reduceIte, Nat.reduceEqDiff, Nat.reduceLeDiff, Nat.reduceAdd, Nat.reduceMul, Nat.reduceSub, Nat.reduceBEq, Nat.reduceGT, Nat.reduceLT, Int.reduceLE, Int.reduceLT, Int.reduceNeg, reduceCtorEq]
  rw [bstr_beq hx hy]
end Go.Proofs.YtgigigchjnnonaaGreatDoor
