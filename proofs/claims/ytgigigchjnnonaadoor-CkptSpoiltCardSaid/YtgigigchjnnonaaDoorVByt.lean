/- Copies and equalities of bytes and of files. -/
import Derived.Test.YtgigigchjnnonaaDoorVRec
import Derived.Test.YtgigigchjnnonaaDoorVCode
set_option linter.unusedSimpArgs false
set_option linter.unusedVariables false
set_option maxRecDepth 20000
namespace Go.V
open Go
/-- A file: a name, its bytes. -/
abbrev Fl := ByteArray × List Int
@[reducible] def fileK : RecK Fl := ⟨2, fun u a => [.string a.1, u], fun a => a.2, by decide, fun _ _ => rfl⟩
theorem str_dec (a b : ByteArray) : (a.toList == b.toList) = decide (a = b) := by
  rw [toList_data, toList_data, Bool.eq_iff_iff]
  simp only [beq_iff_eq, decide_eq_true_eq]
  constructor
  · intro h
    cases a; cases b
    congr 1
    exact Array.toList_inj.1 h
  · intro h; rw [h]
end Go.V
namespace Go.Proofs.YtgigigchjnnonaaDoor
open Go Go.V

-- 20: pith/pithref.SameBytes
-- 42: []uint8
-- 5: uint8
-- 9: string
theorem F20 (v u : Value) (xs ys : List Int) (H : Heap) (hv : Ints H 5 .u8 v xs) (hu : Ints H 5 .u8 u ys) (hx : Byt xs) (hy : Byt ys) :
    Fun Tryd.prog 20 #[v, u] H (fun r H' => r = .bool (decide (xs = ys)) ∧ H = H') := by
  refine fun_of mixed (args := [v, u]) Tryd.func20 Tryd.ntmps20 b20 r20 rfl ?_
  obtain ⟨a, c, rfl⟩ := hv.form
  obtain ⟨a', c', rfl⟩ := hu.form
  simp only [go_sem, ↓reduceIte, Nat.reduceEqDiff, Nat.reduceLeDiff, Nat.reduceAdd, Nat.reduceMul, Nat.reduceSub, Nat.reduceBEq, Nat.reduceGT, Nat.reduceLT, Int.reduceLE, Int.reduceLT, Int.reduceNeg, reduceCtorEq]
  refine RunI.by (conv_str hv ty42 ty9 ty5) ?_
  rintro _ _ ⟨rfl, rfl⟩
  simp only [go_sem, ↓reduceIte, Nat.reduceEqDiff, Nat.reduceLeDiff, Nat.reduceAdd, Nat.reduceMul, Nat.reduceSub, Nat.reduceBEq, Nat.reduceGT, Nat.reduceLT, Int.reduceLE, Int.reduceLT, Int.reduceNeg, reduceCtorEq]
  refine RunI.by (conv_str hu ty42 ty9 ty5) ?_
  rintro _ _ ⟨rfl, rfl⟩
  simp only [go_sem, ↓reduceIte, Nat.reduceEqDiff, Nat.reduceLeDiff, Nat.reduceAdd, Nat.reduceMul, Nat.reduceSub, Nat.reduceBEq, Nat.reduceGT, Nat.reduceLT, Int.reduceLE, Int.reduceLT, Int.reduceNeg, reduceCtorEq]
  rw [bstr_beq hx hy]
end Go.Proofs.YtgigigchjnnonaaDoor
