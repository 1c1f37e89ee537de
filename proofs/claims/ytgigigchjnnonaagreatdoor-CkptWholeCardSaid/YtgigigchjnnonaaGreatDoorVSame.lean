/- The comparisons of bytes, lists, numbers, bits and checks answer whether the two are equal. -/
import Derived.Test.YtgigigchjnnonaaGreatDoorVPut
set_option linter.unusedSimpArgs false
set_option linter.unusedVariables false
set_option maxRecDepth 20000
namespace Go.Proofs.YtgigigchjnnonaaGreatDoor
open Go Go.V

theorem F56 (v u : Value) (xs ys : List Int) (H : Heap) (hv : Ints H 3 .i64 v xs) (hu : Ints H 3 .i64 u ys) (hl : xs.length ≤ 140737488350000) :
    Fun Tryz.prog 56 #[v, u] H (fun r H' => r = .bool (decide (xs = ys)) ∧ H = H') := by
  obtain ⟨a, c, rfl⟩ := hv.form
  obtain ⟨a', c', rfl⟩ := hu.form
  refine fun_of mixed (args := [_, _]) Tryz.func56 Tryz.ntmps56 b56 r56 rfl ?_
  simp only [go_sem, ↓reduceIte, Nat.reduceEqDiff, Nat.reduceLeDiff, Nat.reduceAdd, Nat.reduceMul, Nat.reduceSub, Nat.reduceBEq, Nat.reduceGT, Nat.reduceLT, Int.reduceLE, Int.reduceLT, Int.reduceNeg, reduceCtorEq]
  refine ⟨fun h => ?_, fun h => ?_⟩
  · have : ¬ xs = ys := fun e => h (by rw [e])
    simp [this]
  refine LoopI.by mixed (fun ρ H' => H = H' ∧ ∃ i : Nat, ρ 0 = .slice a xs.length c ∧ ρ 1 = .slice a' ys.length c' ∧ ρ 5 = .int .i64 i ∧ i ≤ xs.length ∧ xs.take i = ys.take i) (fun ρ _ => xs.length - (iof (ρ 5)).toNat) ?_ ?_
  · exact ⟨rfl, 0, by simp only [go_sem, ↓reduceIte, Nat.reduceEqDiff, Nat.reduceLeDiff, Nat.reduceAdd, Nat.reduceMul, Nat.reduceSub, Nat.reduceBEq, Nat.reduceGT, Nat.reduceLT, Int.reduceLE, Int.reduceLT, Int.reduceNeg, reduceCtorEq], by simp only [go_sem, ↓reduceIte, Nat.reduceEqDiff, Nat.reduceLeDiff, Nat.reduceAdd, Nat.reduceMul, Nat.reduceSub, Nat.reduceBEq, Nat.reduceGT, Nat.reduceLT, Int.reduceLE, Int.reduceLT, Int.reduceNeg, reduceCtorEq], by simp only [go_sem, ↓reduceIte, Nat.reduceEqDiff, Nat.reduceLeDiff, Nat.reduceAdd, Nat.reduceMul, Nat.reduceSub, Nat.reduceBEq, Nat.reduceGT, Nat.reduceLT, Int.reduceLE, Int.reduceLT, Int.reduceNeg, reduceCtorEq]; rfl, by omega, by simp⟩
  rintro ρ _ ⟨rfl, i, e0, e1, e5, hi, ht⟩
  have hlen : xs.length = ys.length := by omega
  by_cases hlt : i < xs.length
  · obtain ⟨b, o, rfl⟩ := hv.at hlt
    obtain ⟨b', o', rfl⟩ := hu.at (show i < ys.length by omega)
    have g1 := hv.get hlt
    have g2 := hu.get (show i < ys.length by omega)
    have c1 : (i : Int) < xs.length := by omega
    have c2 : (i : Int) < ys.length := by omega
    have c0 : (0 : Int) ≤ i := by omega
    have ts := take_succ_eq hlt (show i < ys.length by omega) 0 ht
    simp only [go_sem, ↓reduceIte, Nat.reduceEqDiff, Nat.reduceLeDiff, Nat.reduceAdd, Nat.reduceMul, Nat.reduceSub, Nat.reduceBEq, Nat.reduceGT, Nat.reduceLT, Int.reduceLE, Int.reduceLT, Int.reduceNeg, reduceCtorEq, c56_L0, e0, e1, e5, c0, c1, c2, g1, g2]
    refine ⟨fun hne => ?_, fun heq => ?_⟩
    · have : ¬ xs = ys := fun e => hne (by rw [e])
      simp [this]
    · rw [w64_id (by omega) (by omega)]
      exact ⟨Hold.mk ⟨rfl, i + 1, by simp only [go_sem, ↓reduceIte, Nat.reduceEqDiff, Nat.reduceLeDiff, Nat.reduceAdd, Nat.reduceMul, Nat.reduceSub, Nat.reduceBEq, Nat.reduceGT, Nat.reduceLT, Int.reduceLE, Int.reduceLT, Int.reduceNeg, reduceCtorEq, e0], by simp only [go_sem, ↓reduceIte, Nat.reduceEqDiff, Nat.reduceLeDiff, Nat.reduceAdd, Nat.reduceMul, Nat.reduceSub, Nat.reduceBEq, Nat.reduceGT, Nat.reduceLT, Int.reduceLE, Int.reduceLT, Int.reduceNeg, reduceCtorEq, e1], by simp only [go_sem, ↓reduceIte, Nat.reduceEqDiff, Nat.reduceLeDiff, Nat.reduceAdd, Nat.reduceMul, Nat.reduceSub, Nat.reduceBEq, Nat.reduceGT, Nat.reduceLT, Int.reduceLE, Int.reduceLT, Int.reduceNeg, reduceCtorEq]; rfl, by omega, ts.2 heq⟩, by omega⟩
  · have c1 : ¬ (i : Int) < xs.length := by omega
    simp only [go_sem, ↓reduceIte, Nat.reduceEqDiff, Nat.reduceLeDiff, Nat.reduceAdd, Nat.reduceMul, Nat.reduceSub, Nat.reduceBEq, Nat.reduceGT, Nat.reduceLT, Int.reduceLE, Int.reduceLT, Int.reduceNeg, reduceCtorEq, c56_L0, e0, e1, e5, c1]
    have : i = xs.length := by omega
    subst this
    rw [List.take_of_length_le (Nat.le_refl _), hlen, List.take_of_length_le (Nat.le_refl _)] at ht
    simp [ht]

theorem F57 (v u : Value) (xs ys : List Bool) (H : Heap) (hv : Bls H 4 v xs) (hu : Bls H 4 u ys) (hl : xs.length ≤ 140737488350000) :
    Fun Tryz.prog 57 #[v, u] H (fun r H' => r = .bool (decide (xs = ys)) ∧ H = H') := by
  obtain ⟨a, c, rfl⟩ := hv.form
  obtain ⟨a', c', rfl⟩ := hu.form
  refine fun_of mixed (args := [_, _]) Tryz.func57 Tryz.ntmps57 b57 r57 rfl ?_
  simp only [go_sem, ↓reduceIte, Nat.reduceEqDiff, Nat.reduceLeDiff, Nat.reduceAdd, Nat.reduceMul, Nat.reduceSub, Nat.reduceBEq, Nat.reduceGT, Nat.reduceLT, Int.reduceLE, Int.reduceLT, Int.reduceNeg, reduceCtorEq]
  refine ⟨fun h => ?_, fun h => ?_⟩
  · have : ¬ xs = ys := fun e => h (by rw [e])
    simp [this]
  refine LoopI.by mixed (fun ρ H' => H = H' ∧ ∃ i : Nat, ρ 0 = .slice a xs.length c ∧ ρ 1 = .slice a' ys.length c' ∧ ρ 5 = .int .i64 i ∧ i ≤ xs.length ∧ xs.take i = ys.take i) (fun ρ _ => xs.length - (iof (ρ 5)).toNat) ?_ ?_
  · exact ⟨rfl, 0, by simp only [go_sem, ↓reduceIte, Nat.reduceEqDiff, Nat.reduceLeDiff, Nat.reduceAdd, Nat.reduceMul, Nat.reduceSub, Nat.reduceBEq, Nat.reduceGT, Nat.reduceLT, Int.reduceLE, Int.reduceLT, Int.reduceNeg, reduceCtorEq], by simp only [go_sem, ↓reduceIte, Nat.reduceEqDiff, Nat.reduceLeDiff, Nat.reduceAdd, Nat.reduceMul, Nat.reduceSub, Nat.reduceBEq, Nat.reduceGT, Nat.reduceLT, Int.reduceLE, Int.reduceLT, Int.reduceNeg, reduceCtorEq], by simp only [go_sem, ↓reduceIte, Nat.reduceEqDiff, Nat.reduceLeDiff, Nat.reduceAdd, Nat.reduceMul, Nat.reduceSub, Nat.reduceBEq, Nat.reduceGT, Nat.reduceLT, Int.reduceLE, Int.reduceLT, Int.reduceNeg, reduceCtorEq]; rfl, by omega, by simp⟩
  rintro ρ _ ⟨rfl, i, e0, e1, e5, hi, ht⟩
  have hlen : xs.length = ys.length := by omega
  by_cases hlt : i < xs.length
  · obtain ⟨b, o, rfl⟩ := hv.at hlt
    obtain ⟨b', o', rfl⟩ := hu.at (show i < ys.length by omega)
    have g1 := hv.get hlt
    have g2 := hu.get (show i < ys.length by omega)
    have c1 : (i : Int) < xs.length := by omega
    have c2 : (i : Int) < ys.length := by omega
    have c0 : (0 : Int) ≤ i := by omega
    have ts := take_succ_eq hlt (show i < ys.length by omega) false ht
    simp only [go_sem, ↓reduceIte, Nat.reduceEqDiff, Nat.reduceLeDiff, Nat.reduceAdd, Nat.reduceMul, Nat.reduceSub, Nat.reduceBEq, Nat.reduceGT, Nat.reduceLT, Int.reduceLE, Int.reduceLT, Int.reduceNeg, reduceCtorEq, c57_L0, e0, e1, e5, c0, c1, c2, g1, g2]
    refine ⟨fun hne => ?_, fun heq => ?_⟩
    · have : ¬ xs = ys := fun e => hne (by rw [e])
      simp [this]
    · rw [w64_id (by omega) (by omega)]
      exact ⟨Hold.mk ⟨rfl, i + 1, by simp only [go_sem, ↓reduceIte, Nat.reduceEqDiff, Nat.reduceLeDiff, Nat.reduceAdd, Nat.reduceMul, Nat.reduceSub, Nat.reduceBEq, Nat.reduceGT, Nat.reduceLT, Int.reduceLE, Int.reduceLT, Int.reduceNeg, reduceCtorEq, e0], by simp only [go_sem, ↓reduceIte, Nat.reduceEqDiff, Nat.reduceLeDiff, Nat.reduceAdd, Nat.reduceMul, Nat.reduceSub, Nat.reduceBEq, Nat.reduceGT, Nat.reduceLT, Int.reduceLE, Int.reduceLT, Int.reduceNeg, reduceCtorEq, e1], by simp only [go_sem, ↓reduceIte, Nat.reduceEqDiff, Nat.reduceLeDiff, Nat.reduceAdd, Nat.reduceMul, Nat.reduceSub, Nat.reduceBEq, Nat.reduceGT, Nat.reduceLT, Int.reduceLE, Int.reduceLT, Int.reduceNeg, reduceCtorEq]; rfl, by omega, ts.2 heq⟩, by omega⟩
  · have c1 : ¬ (i : Int) < xs.length := by omega
    simp only [go_sem, ↓reduceIte, Nat.reduceEqDiff, Nat.reduceLeDiff, Nat.reduceAdd, Nat.reduceMul, Nat.reduceSub, Nat.reduceBEq, Nat.reduceGT, Nat.reduceLT, Int.reduceLE, Int.reduceLT, Int.reduceNeg, reduceCtorEq, c57_L0, e0, e1, e5, c1]
    have : i = xs.length := by omega
    subst this
    rw [List.take_of_length_le (Nat.le_refl _), hlen, List.take_of_length_le (Nat.le_refl _)] at ht
    simp [ht]

theorem F25 (v u : Value) (p q : Int) (xs ys : List Int) (ds es : List Bool) (H : Heap) (hv : Chk H 3 4 v p xs ds) (hu : Chk H 3 4 u q ys es) (hl : xs.length ≤ 140737488350000) (hl' : ds.length ≤ 140737488350000) :
    Fun Tryz.prog 25 #[v, u] H (fun r H' => r = .bool (decide (p = q ∧ xs = ys ∧ ds = es)) ∧ Ext H H') := by
  obtain ⟨a, b, rfl, ha, hb⟩ := hv
  obtain ⟨c, d, rfl, hc, hd⟩ := hu
  refine fun_of mixed (args := [_, _]) Tryz.func25 Tryz.ntmps25 b25 r25 rfl ?_
  have x2 : Ext H ((H.push (.cells #[.int .i64 p, a, b] 28)).push (.cells #[.int .i64 q, c, d] 28)) := ((Upto.refl _ _).push (Nat.le_refl _) _).push (by simp) _
  simp only [go_sem, ↓reduceIte, Nat.reduceEqDiff, Nat.reduceLeDiff, Nat.reduceAdd, Nat.reduceMul, Nat.reduceSub, Nat.reduceBEq, Nat.reduceGT, Nat.reduceLT, Int.reduceLE, Int.reduceLT, Int.reduceNeg, reduceCtorEq]
  refine FunI.by (F56 a c xs ys _ (ha.ext x2) (hc.ext x2) hl) ?_
  rintro _ _ ⟨rfl, rfl⟩
  simp only [go_sem, ↓reduceIte, Nat.reduceEqDiff, Nat.reduceLeDiff, Nat.reduceAdd, Nat.reduceMul, Nat.reduceSub, Nat.reduceBEq, Nat.reduceGT, Nat.reduceLT, Int.reduceLE, Int.reduceLT, Int.reduceNeg, reduceCtorEq]
  refine FunI.by (F57 b d ds es _ (hb.ext x2) (hd.ext x2) hl') ?_
  rintro _ _ ⟨rfl, rfl⟩
  by_cases h1 : xs = ys <;> by_cases h2 : ds = es <;> simp only [go_sem, ↓reduceIte, Nat.reduceEqDiff, Nat.reduceLeDiff, Nat.reduceAdd, Nat.reduceMul, Nat.reduceSub, Nat.reduceBEq, Nat.reduceGT, Nat.reduceLT, Int.reduceLE, Int.reduceLT, Int.reduceNeg, reduceCtorEq, h1, h2, x2, and_self, and_false, false_and]

theorem F9 (v : Value) (xs : List Int) (H : Heap) (hv : Ints H 3 .i64 v xs) (hl : xs.length ≤ 17592186043904) :
    Fun Tryz.prog 9 #[v] H (fun v' H' => V.Own H' H.size 3 1 v' (xs.map (.int .i64)) ∧ Ext H H') := by
  obtain ⟨a, c, rfl⟩ := hv.form
  refine fun_of mixed (args := [_]) Tryz.func9 Tryz.ntmps9 b9 r9 rfl ?_
  simp only [go_sem, ↓reduceIte, Nat.reduceEqDiff, Nat.reduceLeDiff, Nat.reduceAdd, Nat.reduceMul, Nat.reduceSub, Nat.reduceBEq, Nat.reduceGT, Nat.reduceLT, Int.reduceLE, Int.reduceLT, Int.reduceNeg, reduceCtorEq]
  refine ⟨by omega, by omega, by omega, ?_⟩
  refine LoopI.by mixed (fun ρ H' => ∃ (i : Nat) (v' : Value), ρ 0 = .slice a xs.length c ∧ ρ 3 = v' ∧ ρ 4 = .int .i64 i ∧ i ≤ xs.length ∧ V.Own H' H.size 3 1 v' ((xs.take i).map (.int .i64)) ∧ Ext H H') (fun ρ _ => xs.length - (iof (ρ 4)).toNat) ?_ ?_
  · refine ⟨0, _, by simp only [go_sem, ↓reduceIte, Nat.reduceEqDiff, Nat.reduceLeDiff, Nat.reduceAdd, Nat.reduceMul, Nat.reduceSub, Nat.reduceBEq, Nat.reduceGT, Nat.reduceLT, Int.reduceLE, Int.reduceLT, Int.reduceNeg, reduceCtorEq], rfl, by simp only [go_sem, ↓reduceIte, Nat.reduceEqDiff, Nat.reduceLeDiff, Nat.reduceAdd, Nat.reduceMul, Nat.reduceSub, Nat.reduceBEq, Nat.reduceGT, Nat.reduceLT, Int.reduceLE, Int.reduceLT, Int.reduceNeg, reduceCtorEq]; rfl, by omega, ?_, Ext.push _⟩
    have := V.Own.made (H := H) (B := H.size) (e := 3) (sz := 1) (l := 0) (c := xs.length) (z := .int .i64 0) (Nat.le_refl _) (by omega) (by omega)
    rw [Nat.mul_one, Nat.zero_mul, List.take_zero] at this
    simp only [go_sem, ↓reduceIte, Nat.reduceEqDiff, Nat.reduceLeDiff, Nat.reduceAdd, Nat.reduceMul, Nat.reduceSub, Nat.reduceBEq, Nat.reduceGT, Nat.reduceLT, Int.reduceLE, Int.reduceLT, Int.reduceNeg, reduceCtorEq]
    exact this
  rintro ρ H' ⟨i, v', e0, e3, e4, hi, ho, hx⟩
  by_cases hlt : i < xs.length
  · obtain ⟨b, o, rfl⟩ := hv.at hlt
    have g1 := (hv.ext hx).get hlt
    have c1 : (i : Int) < xs.length := by omega
    have c0 : (0 : Int) ≤ i := by omega
    simp only [go_sem, ↓reduceIte, Nat.reduceEqDiff, Nat.reduceLeDiff, Nat.reduceAdd, Nat.reduceMul, Nat.reduceSub, Nat.reduceBEq, Nat.reduceGT, Nat.reduceLT, Int.reduceLE, Int.reduceLT, Int.reduceNeg, reduceCtorEq, c9_L0, e0, e3, e4, c0, c1, g1]
    refine RunI.by (append_lit ty22 ty3 rfl (by decide) ho (ys := [.int .i64 (xs.getD i 0)]) (m := 1) rfl rfl (n := i + 1) (by simp; omega) (by omega) (by omega) hx.size) ?_
    rintro v2 H2 ⟨h1, h2, _⟩
    simp only [go_sem, ↓reduceIte, Nat.reduceEqDiff, Nat.reduceLeDiff, Nat.reduceAdd, Nat.reduceMul, Nat.reduceSub, Nat.reduceBEq, Nat.reduceGT, Nat.reduceLT, Int.reduceLE, Int.reduceLT, Int.reduceNeg, reduceCtorEq, e4]
    rw [w64_id (by omega) (by omega)]
    refine ⟨Hold.mk ⟨i + 1, v2, by simp only [go_sem, ↓reduceIte, Nat.reduceEqDiff, Nat.reduceLeDiff, Nat.reduceAdd, Nat.reduceMul, Nat.reduceSub, Nat.reduceBEq, Nat.reduceGT, Nat.reduceLT, Int.reduceLE, Int.reduceLT, Int.reduceNeg, reduceCtorEq, e0], by simp only [go_sem, ↓reduceIte, Nat.reduceEqDiff, Nat.reduceLeDiff, Nat.reduceAdd, Nat.reduceMul, Nat.reduceSub, Nat.reduceBEq, Nat.reduceGT, Nat.reduceLT, Int.reduceLE, Int.reduceLT, Int.reduceNeg, reduceCtorEq], by simp only [go_sem, ↓reduceIte, Nat.reduceEqDiff, Nat.reduceLeDiff, Nat.reduceAdd, Nat.reduceMul, Nat.reduceSub, Nat.reduceBEq, Nat.reduceGT, Nat.reduceLT, Int.reduceLE, Int.reduceLT, Int.reduceNeg, reduceCtorEq]; rfl, by omega, ?_, hx.trans (h2.upto ho hx.size)⟩, by omega⟩
    have e1 : xs.take (i + 1) = xs.take i ++ [xs.getD i 0] := by
      rw [List.take_succ_eq_append_getElem hlt]
      simp [List.getD_eq_getElem?_getD, List.getElem?_eq_getElem hlt]
    rw [e1, List.map_append]
    exact h1
  · have c1 : ¬ (i : Int) < xs.length := by omega
    simp only [go_sem, ↓reduceIte, Nat.reduceEqDiff, Nat.reduceLeDiff, Nat.reduceAdd, Nat.reduceMul, Nat.reduceSub, Nat.reduceBEq, Nat.reduceGT, Nat.reduceLT, Int.reduceLE, Int.reduceLT, Int.reduceNeg, reduceCtorEq, c9_L0, e0, e3, e4, c1]
    have : i = xs.length := by omega
    subst this
    rw [List.take_of_length_le (Nat.le_refl _)] at ho
    exact ⟨ho, hx⟩
end Go.Proofs.YtgigigchjnnonaaGreatDoor
