/- Small laws of lists, and the comparison of bytes. -/
import Derived.Test.YtcgejfmbhpmjfaaVPut
set_option linter.unusedSimpArgs false
set_option linter.unusedVariables false
set_option maxRecDepth 20000
namespace Go.Proofs.Ytcgejfmbhpmjfaa
open Go Go.V
-- 22: pith/pithref.SameBytes
-- 30: []uint8
-- 5: uint8
-- 9: string
theorem F22 (v u : Value) (xs ys : List Int) (H : Heap) (hv : Ints H 5 .u8 v xs) (hu : Ints H 5 .u8 u ys) (hx : Byt xs) (hy : Byt ys) :
    Fun Try.prog 22 #[v, u] H (fun r H' => r = .bool (decide (xs = ys)) ∧ H = H') := by
  refine fun_of mixed (args := [v, u]) Try.func22 Try.ntmps22 b22 r22 rfl ?_
  obtain ⟨a, c, rfl⟩ := hv.form
  obtain ⟨a', c', rfl⟩ := hu.form
  simp only [go_sem, ↓reduceIte, Nat.reduceEqDiff, Nat.reduceLeDiff, Nat.reduceAdd, Nat.reduceMul, Nat.reduceSub, Nat.reduceBEq, Nat.reduceGT, Nat.reduceLT, Int.reduceLE, Int.reduceLT, Int.reduceNeg, reduceCtorEq]
  refine RunI.by (conv_str hv ty30 ty9 ty5) ?_
  rintro _ _ ⟨rfl, rfl⟩
  simp only [go_sem, ↓reduceIte, Nat.reduceEqDiff, Nat.reduceLeDiff, Nat.reduceAdd, Nat.reduceMul, Nat.reduceSub, Nat.reduceBEq, Nat.reduceGT, Nat.reduceLT, Int.reduceLE, Int.reduceLT, Int.reduceNeg, reduceCtorEq]
  refine RunI.by (conv_str hu ty30 ty9 ty5) ?_
  rintro _ _ ⟨rfl, rfl⟩
  simp only [go_sem, ↓reduceIte, Nat.reduceEqDiff, Nat.reduceLeDiff, Nat.reduceAdd, Nat.reduceMul, Nat.reduceSub, Nat.reduceBEq, Nat.reduceGT, Nat.reduceLT, Int.reduceLE, Int.reduceLT, Int.reduceNeg, reduceCtorEq]
  rw [bstr_beq hx hy]
theorem take_succ_eq {α : Type} {xs ys : List α} {i : Nat} (hx : i < xs.length) (hy : i < ys.length) (d : α) (h : xs.take i = ys.take i) : (xs.take (i + 1) = ys.take (i + 1)) ↔ xs.getD i d = ys.getD i d := by
  have e1 : xs.take (i + 1) = xs.take i ++ [xs[i]] := List.take_succ_eq_append_getElem hx
  have e2 : ys.take (i + 1) = ys.take i ++ [ys[i]] := List.take_succ_eq_append_getElem hy
  have g1 : xs.getD i d = xs[i] := by simp [List.getD_eq_getElem?_getD, List.getElem?_eq_getElem hx]
  have g2 : ys.getD i d = ys[i] := by simp [List.getD_eq_getElem?_getD, List.getElem?_eq_getElem hy]
  rw [e1, e2, h, g1, g2]
  constructor
  · intro hh
    have := List.append_cancel_left hh
    simpa using this
  · intro hh
    rw [hh]
theorem mem_getD {α : Type} {xs : List α} {i : Nat} (h : i < xs.length) (d : α) : xs.getD i d ∈ xs := by
  rw [List.getD_eq_getElem?_getD, List.getElem?_eq_getElem h]; exact List.getElem_mem h
theorem take_succ_getD {α : Type} {xs : List α} {i : Nat} (h : i < xs.length) (d : α) : xs.take (i + 1) = xs.take i ++ [xs.getD i d] := by
  rw [List.take_succ_eq_append_getElem h]
  simp [List.getD_eq_getElem?_getD, List.getElem?_eq_getElem h]
end Go.Proofs.Ytcgejfmbhpmjfaa
