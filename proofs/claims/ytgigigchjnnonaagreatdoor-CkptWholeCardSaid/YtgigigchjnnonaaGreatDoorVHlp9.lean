/- Helpers of the laws of files: num, pick, lists compared, clipped, sumOf. -/
import Derived.Test.YtgigigchjnnonaaGreatDoorVLoad
import Derived.Test.YtgigigchjnnonaaGreatDoorVByt
set_option linter.unusedSimpArgs false
set_option linter.unusedVariables false
set_option maxRecDepth 20000
namespace Go.Proofs.YtgigigchjnnonaaGreatDoor
open Go Go.V




theorem take_succ_eq {α : Type} {xs ys : List α} {i : Nat} (hx : i < xs.length) (hy : i < ys.length) (d : α) (h : xs.take i = ys.take i) : (xs.take (i + 1) = ys.take (i + 1)) ↔ xs.getD i d = ys.getD i d := by
  have e1 : xs.take (i + 1) = xs.take i ++ [xs[i]] := List.take_succ_eq_append_getElem hx
  have e2 : ys.take (i + 1) = ys.take i ++ [ys[i]] := List.take_succ_eq_append_getElem hy
  have g1 : xs.getD i d = xs[i] := by simp [List.getD_eq_getElem?_getD, List.getElem?_eq_getElem hx]
  have g2 : ys.getD i d = ys[i] := by simp [List.getD_eq_getElem?_getD, List.getElem?_eq_getElem hy]
  rw [e1, e2, h, g1, g2]
  constructor
  · intro hh
    have := List.append_cancel_left hh
    simpa using this
  · intro hh
    rw [hh]
theorem mem_getD {α : Type} {xs : List α} {i : Nat} (h : i < xs.length) (d : α) : xs.getD i d ∈ xs := by
  rw [List.getD_eq_getElem?_getD, List.getElem?_eq_getElem h]; exact List.getElem_mem h

theorem F15 (v u : Value) (xs ys : List (List Int)) (H : Heap) (hv : Lists H 53 5 v xs) (hu : Lists H 53 5 u ys) (hx : ∀ l ∈ xs, Byt l) (hy : ∀ l ∈ ys, Byt l) (hl : xs.length ≤ 140737488350000) :
    Fun Tryz.prog 15 #[v, u] H (fun r H' => r = .bool (decide (xs = ys)) ∧ H = H') := by
  obtain ⟨a, c, rfl⟩ := hv.form
  obtain ⟨a', c', rfl⟩ := hu.form
  refine fun_of mixed (args := [_, _]) Tryz.func15 Tryz.ntmps15 b15 r15 rfl ?_
  simp only [go_sem, ↓reduceIte, Nat.reduceEqDiff, Nat.reduceLeDiff, Nat.reduceAdd, Nat.reduceMul, Nat.reduceSub, Nat.reduceBEq, Nat.reduceGT, Nat.reduceLT, Int.reduceLE, Int.reduceLT, Int.reduceNeg, reduceCtorEq, decide_not]
  refine ⟨fun h => ?_, fun h => ?_⟩
  · have : ¬ xs = ys := fun e => h (by rw [e])
    simp [this]
  refine LoopI.by mixed (fun ρ H' => H = H' ∧ ∃ i : Nat, ρ 0 = .slice a xs.length c ∧ ρ 1 = .slice a' ys.length c' ∧ ρ 5 = .int .i64 i ∧ i ≤ xs.length ∧ xs.take i = ys.take i) (fun ρ _ => xs.length - (iof (ρ 5)).toNat) ?_ ?_
  · exact ⟨rfl, 0, by simp only [go_sem, ↓reduceIte, Nat.reduceEqDiff, Nat.reduceLeDiff, Nat.reduceAdd, Nat.reduceMul, Nat.reduceSub, Nat.reduceBEq, Nat.reduceGT, Nat.reduceLT, Int.reduceLE, Int.reduceLT, Int.reduceNeg, reduceCtorEq], by simp only [go_sem, ↓reduceIte, Nat.reduceEqDiff, Nat.reduceLeDiff, Nat.reduceAdd, Nat.reduceMul, Nat.reduceSub, Nat.reduceBEq, Nat.reduceGT, Nat.reduceLT, Int.reduceLE, Int.reduceLT, Int.reduceNeg, reduceCtorEq], by simp only [go_sem, ↓reduceIte, Nat.reduceEqDiff, Nat.reduceLeDiff, Nat.reduceAdd, Nat.reduceMul, Nat.reduceSub, Nat.reduceBEq, Nat.reduceGT, Nat.reduceLT, Int.reduceLE, Int.reduceLT, Int.reduceNeg, reduceCtorEq]; rfl, by omega, by simp⟩
  rintro ρ _ ⟨rfl, i, e0, e1, e5, hi, ht⟩
  have hlen : xs.length = ys.length := by omega
  by_cases hlt : i < xs.length
  · obtain ⟨b, o, rfl⟩ := hv.at hlt
    obtain ⟨b', o', rfl⟩ := hu.at (show i < ys.length by omega)
    obtain ⟨w1, g1, hw1⟩ := hv.get hlt
    obtain ⟨w2, g2, hw2⟩ := hu.get (show i < ys.length by omega)
    have hbx := hx _ (mem_getD hlt [])
    have hby := hy _ (mem_getD (show i < ys.length by omega) [])
    have c1 : (i : Int) < xs.length := by omega
    have c2 : (i : Int) < ys.length := by omega
    have c0 : (0 : Int) ≤ i := by omega
    simp only [go_sem, ↓reduceIte, Nat.reduceEqDiff, Nat.reduceLeDiff, Nat.reduceAdd, Nat.reduceMul, Nat.reduceSub, Nat.reduceBEq, Nat.reduceGT, Nat.reduceLT, Int.reduceLE, Int.reduceLT, Int.reduceNeg, reduceCtorEq, c15_L0, e0, e1, e5, c0, c1, c2, g1, g2]
    refine FunIQ.by (F14 w1 w2 _ _ H hw1 hw2 hbx hby) ?_
    simp only [go_sem, ↓reduceIte, Nat.reduceEqDiff, Nat.reduceLeDiff, Nat.reduceAdd, Nat.reduceMul, Nat.reduceSub, Nat.reduceBEq, Nat.reduceGT, Nat.reduceLT, Int.reduceLE, Int.reduceLT, Int.reduceNeg, reduceCtorEq, Bool.not_eq_true', decide_eq_false_iff_not, e5]
    have ts := take_succ_eq hlt (show i < ys.length by omega) [] ht
    refine ⟨fun hne => ?_, fun heq => ?_⟩
    · have : ¬ xs = ys := fun e => hne (by rw [e])
      simp [this]
    · rw [w64_id (by omega) (by omega)]
      exact ⟨Hold.mk ⟨rfl, i + 1, by simp only [go_sem, ↓reduceIte, Nat.reduceEqDiff, Nat.reduceLeDiff, Nat.reduceAdd, Nat.reduceMul, Nat.reduceSub, Nat.reduceBEq, Nat.reduceGT, Nat.reduceLT, Int.reduceLE, Int.reduceLT, Int.reduceNeg, reduceCtorEq, e0], by simp only [go_sem, ↓reduceIte, Nat.reduceEqDiff, Nat.reduceLeDiff, Nat.reduceAdd, Nat.reduceMul, Nat.reduceSub, Nat.reduceBEq, Nat.reduceGT, Nat.reduceLT, Int.reduceLE, Int.reduceLT, Int.reduceNeg, reduceCtorEq, e1], by simp only [go_sem, ↓reduceIte, Nat.reduceEqDiff, Nat.reduceLeDiff, Nat.reduceAdd, Nat.reduceMul, Nat.reduceSub, Nat.reduceBEq, Nat.reduceGT, Nat.reduceLT, Int.reduceLE, Int.reduceLT, Int.reduceNeg, reduceCtorEq]; rfl, by omega, ts.2 heq⟩, by omega⟩
  · have c1 : ¬ (i : Int) < xs.length := by omega
    simp only [go_sem, ↓reduceIte, Nat.reduceEqDiff, Nat.reduceLeDiff, Nat.reduceAdd, Nat.reduceMul, Nat.reduceSub, Nat.reduceBEq, Nat.reduceGT, Nat.reduceLT, Int.reduceLE, Int.reduceLT, Int.reduceNeg, reduceCtorEq, c15_L0, e0, e1, e5, c1]
    have : i = xs.length := by omega
    subst this
    rw [List.take_of_length_le (Nat.le_refl _), hlen, List.take_of_length_le (Nat.le_refl _)] at ht
    simp [ht]

theorem hget_lt {H : Heap} {b o : Nat} {v : Value} (h : hget H b o = some v) : b < H.size := by
  rcases Nat.lt_or_ge b H.size with hb | hb
  · exact hb
  · unfold hget at h
    rw [Array.getElem?_eq_none hb] at h
    cases h
end Go.Proofs.YtgigigchjnnonaaGreatDoor
