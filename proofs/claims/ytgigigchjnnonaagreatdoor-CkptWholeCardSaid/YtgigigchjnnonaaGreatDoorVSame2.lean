/- Copies of lists and bits; which checks may be encoded. -/
import Derived.Test.YtgigigchjnnonaaGreatDoorVSame
set_option linter.unusedSimpArgs false
set_option linter.unusedVariables false
set_option maxRecDepth 20000
namespace Go.Proofs.YtgigigchjnnonaaGreatDoor
open Go Go.V


theorem take_succ_getD {α : Type} {xs : List α} {i : Nat} (h : i < xs.length) (d : α) : xs.take (i + 1) = xs.take i ++ [xs.getD i d] := by
  rw [List.take_succ_eq_append_getElem h]
  simp [List.getD_eq_getElem?_getD, List.getElem?_eq_getElem h]

theorem F16 (n : Int) (H : Heap) : Fun Tryz.prog 16 #[.int .i64 n] H (fun r H' => r = .int .i64 n ∧ H = H') := by
  refine fun_of mixed (args := [_]) Tryz.func16 Tryz.ntmps16 b16 r16 rfl ?_
  simp only [go_sem, ↓reduceIte, Nat.reduceEqDiff, Nat.reduceLeDiff, Nat.reduceAdd, Nat.reduceMul, Nat.reduceSub, Nat.reduceBEq, Nat.reduceGT, Nat.reduceLT, Int.reduceLE, Int.reduceLT, Int.reduceNeg, reduceCtorEq]

/-- May the checkpoint be? -/
def mayC (gen p : Int) (xs : List Int) (ds : List Bool) : Bool :=
  decide (1 ≤ gen ∧ gen ≤ 2147483647 ∧ 0 ≤ p ∧ p ≤ 2147483647 ∧ xs.length ≤ 16777216 ∧ ds.length ≤ 1000 ∧ ∀ x ∈ xs, 0 ≤ x ∧ x < 16777216)

set_option maxHeartbeats 1600000 in
theorem F31 (v : Value) (gen p : Int) (xs : List Int) (ds : List Bool) (H : Heap) (hv : Chk H 3 4 v p xs ds) :
    Fun Tryz.prog 31 #[.int .i64 gen, v] H (fun r H' => r = .bool (mayC gen p xs ds) ∧ Ext H H') := by
  obtain ⟨a, b, rfl, ha, hb⟩ := hv
  obtain ⟨a1, a2, rfl⟩ := ha.form
  obtain ⟨b1, b2, rfl⟩ := hb.form
  have x1 : Ext H (H.push (.cells #[.int .i64 p, .slice a1 xs.length a2, .slice b1 ds.length b2] 28)) := Ext.push _
  refine fun_of mixed (args := [_, _]) Tryz.func31 Tryz.ntmps31 b31 r31 rfl ?_
  have e1 : ((16777216 : Int) < xs.length) = (16777216 < xs.length) := by simp; omega
  have e2 : ((1000 : Int) < ds.length) = (1000 < ds.length) := by simp; omega
  by_cases h1 : gen < 1
  · simp only [go_sem, ↓reduceIte, Nat.reduceEqDiff, Nat.reduceLeDiff, Nat.reduceAdd, Nat.reduceMul, Nat.reduceSub, Nat.reduceBEq, Nat.reduceGT, Nat.reduceLT, Int.reduceLE, Int.reduceLT, Int.reduceNeg, reduceCtorEq, h1]
    refine ⟨?_, x1⟩
    have : ¬ (1 ≤ gen) := by omega
    simp [mayC, this]
  by_cases h2 : 2147483647 < gen
  · simp only [go_sem, ↓reduceIte, Nat.reduceEqDiff, Nat.reduceLeDiff, Nat.reduceAdd, Nat.reduceMul, Nat.reduceSub, Nat.reduceBEq, Nat.reduceGT, Nat.reduceLT, Int.reduceLE, Int.reduceLT, Int.reduceNeg, reduceCtorEq, h1, h2]
    refine ⟨?_, x1⟩
    have : ¬ (gen ≤ 2147483647) := by omega
    simp [mayC, this]
  by_cases h3 : p < 0
  · simp only [go_sem, ↓reduceIte, Nat.reduceEqDiff, Nat.reduceLeDiff, Nat.reduceAdd, Nat.reduceMul, Nat.reduceSub, Nat.reduceBEq, Nat.reduceGT, Nat.reduceLT, Int.reduceLE, Int.reduceLT, Int.reduceNeg, reduceCtorEq, h1, h2, h3]
    refine ⟨?_, x1⟩
    have : ¬ (0 ≤ p) := by omega
    simp [mayC, this]
  by_cases h4 : 2147483647 < p
  · simp only [go_sem, ↓reduceIte, Nat.reduceEqDiff, Nat.reduceLeDiff, Nat.reduceAdd, Nat.reduceMul, Nat.reduceSub, Nat.reduceBEq, Nat.reduceGT, Nat.reduceLT, Int.reduceLE, Int.reduceLT, Int.reduceNeg, reduceCtorEq, h1, h2, h3, h4]
    refine ⟨?_, x1⟩
    have : ¬ (p ≤ 2147483647) := by omega
    simp [mayC, this]
  by_cases h5 : 16777216 < xs.length
  · simp only [go_sem, ↓reduceIte, Nat.reduceEqDiff, Nat.reduceLeDiff, Nat.reduceAdd, Nat.reduceMul, Nat.reduceSub, Nat.reduceBEq, Nat.reduceGT, Nat.reduceLT, Int.reduceLE, Int.reduceLT, Int.reduceNeg, reduceCtorEq, h1, h2, h3, h4, e1, h5]
    refine ⟨?_, x1⟩
    have : ¬ (xs.length ≤ 16777216) := by omega
    simp [mayC, this]
  by_cases h6 : 1000 < ds.length
  · simp only [go_sem, ↓reduceIte, Nat.reduceEqDiff, Nat.reduceLeDiff, Nat.reduceAdd, Nat.reduceMul, Nat.reduceSub, Nat.reduceBEq, Nat.reduceGT, Nat.reduceLT, Int.reduceLE, Int.reduceLT, Int.reduceNeg, reduceCtorEq, h1, h2, h3, h4, e1, h5, e2, h6]
    refine ⟨?_, x1⟩
    have : ¬ (ds.length ≤ 1000) := by omega
    simp [mayC, this]
  simp only [go_sem, ↓reduceIte, Nat.reduceEqDiff, Nat.reduceLeDiff, Nat.reduceAdd, Nat.reduceMul, Nat.reduceSub, Nat.reduceBEq, Nat.reduceGT, Nat.reduceLT, Int.reduceLE, Int.reduceLT, Int.reduceNeg, reduceCtorEq, h1, h2, h3, h4, e1, h5, e2, h6]
  have hm : mayC gen p xs ds = decide (∀ x ∈ xs, 0 ≤ x ∧ x < 16777216) := by
    have a1 : 1 ≤ gen := by omega
    have a2 : gen ≤ 2147483647 := by omega
    have a3 : 0 ≤ p := by omega
    have a4 : p ≤ 2147483647 := by omega
    have a5 : xs.length ≤ 16777216 := by omega
    have a6 : ds.length ≤ 1000 := by omega
    simp only [mayC, a1, a2, a3, a4, a5, a6, true_and]
  rw [hm]
  generalize hH : H.push (.cells #[.int .i64 p, .slice a1 xs.length a2, .slice b1 ds.length b2] 28) = H1 at *
  refine LoopI.by mixed (fun ρ H' => H1 = H' ∧ ∃ i : Nat, ρ 36 = .slice a1 xs.length a2 ∧ ρ 37 = .int .i64 xs.length ∧ ρ 38 = .int .i64 i ∧ i ≤ xs.length ∧ ∀ x ∈ xs.take i, 0 ≤ x ∧ x < 16777216) (fun ρ _ => xs.length - (iof (ρ 38)).toNat) ?_ ?_
  · exact ⟨rfl, 0, by simp only [go_sem, ↓reduceIte, Nat.reduceEqDiff, Nat.reduceLeDiff, Nat.reduceAdd, Nat.reduceMul, Nat.reduceSub, Nat.reduceBEq, Nat.reduceGT, Nat.reduceLT, Int.reduceLE, Int.reduceLT, Int.reduceNeg, reduceCtorEq], by simp only [go_sem, ↓reduceIte, Nat.reduceEqDiff, Nat.reduceLeDiff, Nat.reduceAdd, Nat.reduceMul, Nat.reduceSub, Nat.reduceBEq, Nat.reduceGT, Nat.reduceLT, Int.reduceLE, Int.reduceLT, Int.reduceNeg, reduceCtorEq], by simp only [go_sem, ↓reduceIte, Nat.reduceEqDiff, Nat.reduceLeDiff, Nat.reduceAdd, Nat.reduceMul, Nat.reduceSub, Nat.reduceBEq, Nat.reduceGT, Nat.reduceLT, Int.reduceLE, Int.reduceLT, Int.reduceNeg, reduceCtorEq]; rfl, by omega, by simp⟩
  rintro ρ _ ⟨rfl, i, e36, e37, e38, hi, hall⟩
  by_cases hlt : i < xs.length
  · have ha' := ha.ext x1
    obtain ⟨b, o, rfl⟩ := ha'.at hlt
    have g1 := ha'.get hlt
    have c1 : (i : Int) < xs.length := by omega
    have c0 : (0 : Int) ≤ i := by omega
    have hmem := mem_getD hlt (0 : Int)
    have hno : ¬ (0 ≤ xs.getD i 0 ∧ xs.getD i 0 < 16777216) → ¬ ∀ x ∈ xs, 0 ≤ x ∧ x < 16777216 := fun h h' => h (h' _ hmem)
    by_cases k1 : xs.getD i 0 < 0
    · simp only [go_sem, ↓reduceIte, Nat.reduceEqDiff, Nat.reduceLeDiff, Nat.reduceAdd, Nat.reduceMul, Nat.reduceSub, Nat.reduceBEq, Nat.reduceGT, Nat.reduceLT, Int.reduceLE, Int.reduceLT, Int.reduceNeg, reduceCtorEq, c31_L0, e36, e37, e38, c0, c1, g1, k1]
      have := hno (by omega)
      simp [this, x1]
    by_cases k2 : 16777216 ≤ xs.getD i 0
    · simp only [go_sem, ↓reduceIte, Nat.reduceEqDiff, Nat.reduceLeDiff, Nat.reduceAdd, Nat.reduceMul, Nat.reduceSub, Nat.reduceBEq, Nat.reduceGT, Nat.reduceLT, Int.reduceLE, Int.reduceLT, Int.reduceNeg, reduceCtorEq, c31_L0, e36, e37, e38, c0, c1, g1, k1, k2]
      have := hno (by omega)
      simp [this, x1]
    simp only [go_sem, ↓reduceIte, Nat.reduceEqDiff, Nat.reduceLeDiff, Nat.reduceAdd, Nat.reduceMul, Nat.reduceSub, Nat.reduceBEq, Nat.reduceGT, Nat.reduceLT, Int.reduceLE, Int.reduceLT, Int.reduceNeg, reduceCtorEq, c31_L0, e36, e37, e38, c0, c1, g1, k1, k2]
    rw [w64_id (by omega) (by omega)]
    refine ⟨Hold.mk ⟨rfl, i + 1, by simp only [go_sem, ↓reduceIte, Nat.reduceEqDiff, Nat.reduceLeDiff, Nat.reduceAdd, Nat.reduceMul, Nat.reduceSub, Nat.reduceBEq, Nat.reduceGT, Nat.reduceLT, Int.reduceLE, Int.reduceLT, Int.reduceNeg, reduceCtorEq, e36], by simp only [go_sem, ↓reduceIte, Nat.reduceEqDiff, Nat.reduceLeDiff, Nat.reduceAdd, Nat.reduceMul, Nat.reduceSub, Nat.reduceBEq, Nat.reduceGT, Nat.reduceLT, Int.reduceLE, Int.reduceLT, Int.reduceNeg, reduceCtorEq, e37], by simp only [go_sem, ↓reduceIte, Nat.reduceEqDiff, Nat.reduceLeDiff, Nat.reduceAdd, Nat.reduceMul, Nat.reduceSub, Nat.reduceBEq, Nat.reduceGT, Nat.reduceLT, Int.reduceLE, Int.reduceLT, Int.reduceNeg, reduceCtorEq]; rfl, by omega, ?_⟩, by omega⟩
    rw [take_succ_getD hlt 0]
    simp only [List.forall_mem_append, List.forall_mem_singleton]
    exact ⟨hall, by omega⟩
  · have c1 : ¬ (i : Int) < xs.length := by omega
    have : i = xs.length := by omega
    subst this
    rw [List.take_of_length_le (Nat.le_refl _)] at hall
    simp only [go_sem, ↓reduceIte, Nat.reduceEqDiff, Nat.reduceLeDiff, Nat.reduceAdd, Nat.reduceMul, Nat.reduceSub, Nat.reduceBEq, Nat.reduceGT, Nat.reduceLT, Int.reduceLE, Int.reduceLT, Int.reduceNeg, reduceCtorEq, c31_L0, e36, e37, e38, c1]
    simp only [x1, and_true]
    rw [decide_eq_true hall]

end Go.Proofs.YtgigigchjnnonaaGreatDoor
