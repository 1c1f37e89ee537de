/- The reference: named, at, with, told. -/
import Derived.Test.YtmkheogjnlmkdaaVRfP
set_option linter.unusedSimpArgs false
set_option linter.unusedVariables false
set_option maxRecDepth 20000
namespace Go.Proofs.Ytmkheogjnlmkdaa
open Go Go.V
-- 96: pith/pithref8.named
-- 92: pith/pithref8.at
-- 113: pith/pithref8.with
-- 101: pith/pithref8.told
-- 9: string
-- 125: pithref8.Entry
-- 122: []pithref8.Entry
-- 139: pithref8.Done
set_option maxHeartbeats 1600000 in
theorem F96 (s : Nm) (H : Heap) : Fun Try.prog 96 #[.string s] H (fun r H' => r = .bool (isNm s) ∧ H = H') := by
  refine fun_of mixed (args := [_]) Try.func96 Try.ntmps96 b96 r96 rfl ?_
  by_cases h0 : s.size = 0
  · have e : isNm s = false := by unfold isNm; simp [h0]
    have c1 : ((0 : Nat) : Int) < 1 := by omega
    simp only [go_sem, ↓reduceIte, Nat.reduceEqDiff, Nat.reduceLeDiff, Nat.reduceAdd, Nat.reduceMul, Nat.reduceSub, Nat.reduceBEq, Nat.reduceGT, Nat.reduceLT, Int.reduceLE, Int.reduceLT, Int.reduceNeg, reduceCtorEq, h0, c1, e]
  by_cases h1 : 64 < s.size
  · have e : isNm s = false := by
      unfold isNm
      have : ¬ (1 ≤ s.size ∧ s.size ≤ 64) := by omega
      simp [this]
    have c1 : ¬ ((s.size : Int) < 1) := by omega
    have c2 : (64 : Int) < s.size := by omega
    simp only [go_sem, ↓reduceIte, Nat.reduceEqDiff, Nat.reduceLeDiff, Nat.reduceAdd, Nat.reduceMul, Nat.reduceSub, Nat.reduceBEq, Nat.reduceGT, Nat.reduceLT, Int.reduceLE, Int.reduceLT, Int.reduceNeg, reduceCtorEq, c1, c2, e]
  have c1 : ¬ ((s.size : Int) < 1) := by omega
  have c2 : ¬ (64 : Int) < s.size := by omega
  have hd : decide (1 ≤ s.size ∧ s.size ≤ 64) = true := by rw [decide_eq_true_eq]; omega
  simp only [go_sem, ↓reduceIte, Nat.reduceEqDiff, Nat.reduceLeDiff, Nat.reduceAdd, Nat.reduceMul, Nat.reduceSub, Nat.reduceBEq, Nat.reduceGT, Nat.reduceLT, Int.reduceLE, Int.reduceLT, Int.reduceNeg, reduceCtorEq, c1, c2]
  refine LoopI.by mixed (fun ρ H' => ∃ i : Nat, ρ 0 = .string s ∧ ρ 3 = .int .i64 i ∧ i ≤ s.size ∧ (∀ j, j < i → okCh (s.data.toList.getD j 0) = true) ∧ H = H') (fun ρ _ => s.size - (iof (ρ 3)).toNat) ?_ ?_
  · exact ⟨0, by simp only [go_sem, ↓reduceIte, Nat.reduceEqDiff, Nat.reduceLeDiff, Nat.reduceAdd, Nat.reduceMul, Nat.reduceSub, Nat.reduceBEq, Nat.reduceGT, Nat.reduceLT, Int.reduceLE, Int.reduceLT, Int.reduceNeg, reduceCtorEq], by simp only [go_sem, ↓reduceIte, Nat.reduceEqDiff, Nat.reduceLeDiff, Nat.reduceAdd, Nat.reduceMul, Nat.reduceSub, Nat.reduceBEq, Nat.reduceGT, Nat.reduceLT, Int.reduceLE, Int.reduceLT, Int.reduceNeg, reduceCtorEq]; rfl, by omega, by omega, rfl⟩
  rintro ρ H1 ⟨i, e0, e3, hi, hall, rfl⟩
  by_cases hlt : i < s.size
  · have z0 : (0 : Int) ≤ i := by omega
    have z1 : (i : Int) < s.size := by omega
    have w1 : IntKind.i64.wrap ((i : Int) + 1) = ((i + 1 : Nat) : Int) := by rw [w64_id (by omega) (by omega)]; omega
    obtain ⟨c, hc⟩ : ∃ c, c = s.data.toList.getD i 0 := ⟨_, rfl⟩
    have hk := okCh_iff c
    have hno : okCh c = false → isNm s = false := fun hb => by
      unfold isNm
      rw [Bool.and_eq_false_iff]
      right
      rw [List.all_eq_false]
      refine ⟨c, ?_, by rw [hb]; simp⟩
      rw [hc, List.getD_eq_getElem?_getD, List.getElem?_eq_getElem (by simpa using hlt)]
      exact List.getElem_mem _
    have hyes : okCh c = true → ∀ j, j < i + 1 → okCh (s.data.toList.getD j 0) = true := fun hb j hj => by
      by_cases hji : j = i
      · rw [hji, ← hc]; exact hb
      · exact hall j (by omega)
    have hcg := okCh_get s i hlt
    rw [← hc] at hcg
    generalize hx : ((c.toNat : Nat) : Int) = x at hk
    by_cases k1 : x = 46 <;> by_cases k4 : x < 97 <;> by_cases k5 : x < 48 <;> by_cases k6 : 122 < x <;> by_cases k7 : 57 < x <;>
      (simp only [k1, k4, k5, k6, k7, decide_true, decide_false, Bool.not_true, Bool.not_false, Bool.and_true, Bool.true_and, Bool.false_and, Bool.and_false, Bool.or_true, Bool.true_or, Bool.or_false, Bool.false_or] at hk
       first
        | (have hq := hyes hk
           simp only [go_sem, ↓reduceIte, Nat.reduceEqDiff, Nat.reduceLeDiff, Nat.reduceAdd, Nat.reduceMul, Nat.reduceSub, Nat.reduceBEq, Nat.reduceGT, Nat.reduceLT, Int.reduceLE, Int.reduceLT, Int.reduceNeg, reduceCtorEq, c96_L0, e0, e3, z0, z1, w1, Int.toNat_natCast, hcg, hx, k1, k4, k5, k6, k7]
           exact ⟨Hold.mk ⟨i + 1, by simp only [go_sem, ↓reduceIte, Nat.reduceEqDiff, Nat.reduceLeDiff, Nat.reduceAdd, Nat.reduceMul, Nat.reduceSub, Nat.reduceBEq, Nat.reduceGT, Nat.reduceLT, Int.reduceLE, Int.reduceLT, Int.reduceNeg, reduceCtorEq, e0], by simp only [go_sem, ↓reduceIte, Nat.reduceEqDiff, Nat.reduceLeDiff, Nat.reduceAdd, Nat.reduceMul, Nat.reduceSub, Nat.reduceBEq, Nat.reduceGT, Nat.reduceLT, Int.reduceLE, Int.reduceLT, Int.reduceNeg, reduceCtorEq], by omega, hq, rfl⟩, by omega⟩)
        | (have e := hno hk
           simp only [go_sem, ↓reduceIte, Nat.reduceEqDiff, Nat.reduceLeDiff, Nat.reduceAdd, Nat.reduceMul, Nat.reduceSub, Nat.reduceBEq, Nat.reduceGT, Nat.reduceLT, Int.reduceLE, Int.reduceLT, Int.reduceNeg, reduceCtorEq, c96_L0, e0, e3, z0, z1, w1, Int.toNat_natCast, hcg, hx, k1, k4, k5, k6, k7, e]))
  · have z1 : ¬ (i : Int) < s.size := by omega
    have e : isNm s = true := by
      unfold isNm
      rw [Bool.and_eq_true]
      refine ⟨hd, List.all_eq_true.2 fun c hc => ?_⟩
      obtain ⟨k, hk, rfl⟩ := List.getElem_of_mem hc
      have := hall k (by
        have hk2 : k < s.data.size := by simpa using hk
        have hk3 : s.data.size = s.size := rfl
        omega)
      rwa [List.getD_eq_getElem?_getD, List.getElem?_eq_getElem hk] at this
    simp only [go_sem, ↓reduceIte, Nat.reduceEqDiff, Nat.reduceLeDiff, Nat.reduceAdd, Nat.reduceMul, Nat.reduceSub, Nat.reduceBEq, Nat.reduceGT, Nat.reduceLT, Int.reduceLE, Int.reduceLT, Int.reduceNeg, reduceCtorEq, c96_L0, e0, e3, z1, e]
/-- A directory in memory. -/
abbrev Ent (H : Heap) (v : Value) (es : List En) : Prop := Sl H 125 2 v (entC es)
theorem ent_form {H : Heap} {v : Value} {es : List En} (h : Ent H v es) : ∃ a cap, v = .slice a es.length cap := by
  obtain ⟨a, len, cap, rfl⟩ := Sl.form h
  have := Sl.length h
  rw [entC_len] at this
  have : es.length = len := by omega
  exact ⟨a, cap, by rw [this]⟩
theorem ent_at {H : Heap} {a : Option Addr} {cap : Nat} {es : List En} (h : Ent H (.slice a es.length cap) es) {i : Nat} {e : En} (he : es[i]? = some e) :
    ∃ b o, a = some ⟨b, o, none⟩ ∧ hget H b (o + i * 2) = some (.string e.1) ∧ hget H b (o + i * 2 + 1) = some (.int .i64 e.2) := by
  have hi := (List.getElem?_eq_some_iff.1 he).1
  obtain ⟨b, o, rfl⟩ := Sl.at h (by omega)
  have g : ∀ j, j < 2 → hget H b (o + i * 2 + j) = ([Value.string e.1, .int .i64 e.2] : List Value)[j]? := fun j hj => by
    rw [Nat.add_assoc, Sl.get h (i := i * 2 + j) (by omega)]
    exact fl_get (f := fun e : En => [Value.string e.1, .int .i64 e.2]) (fun _ => rfl) es i j e he hj
  exact ⟨b, o, rfl, g 0 (by omega), g 1 (by omega)⟩
theorem F92 {H : Heap} {v : Value} {es : List En} (hv : Ent H v es) (hl : es.length ≤ 2932031000000) (n : Nm) :
    Fun Try.prog 92 #[v, .string n] H (fun r H' => (∃ k, r = .int .i64 k ∧ AtE es n k) ∧ H = H') := by
  obtain ⟨a, c, rfl⟩ := ent_form hv
  refine fun_of mixed (args := [_, _]) Try.func92 Try.ntmps92 b92 r92 rfl ?_
  simp only [go_sem, ↓reduceIte, Nat.reduceEqDiff, Nat.reduceLeDiff, Nat.reduceAdd, Nat.reduceMul, Nat.reduceSub, Nat.reduceBEq, Nat.reduceGT, Nat.reduceLT, Int.reduceLE, Int.reduceLT, Int.reduceNeg, reduceCtorEq]
  refine LoopI.by mixed (fun ρ H' => H = H' ∧ ∃ i : Nat, ρ 0 = .slice a es.length c ∧ ρ 1 = .string n ∧ ρ 5 = .int .i64 i ∧ i ≤ es.length ∧ ∀ j x, j < i → es[j]? = some x → x.1 ≠ n) (fun ρ _ => es.length - (iof (ρ 5)).toNat) ?_ ?_
  · exact ⟨rfl, 0, by simp only [go_sem, ↓reduceIte, Nat.reduceEqDiff, Nat.reduceLeDiff, Nat.reduceAdd, Nat.reduceMul, Nat.reduceSub, Nat.reduceBEq, Nat.reduceGT, Nat.reduceLT, Int.reduceLE, Int.reduceLT, Int.reduceNeg, reduceCtorEq], by simp only [go_sem, ↓reduceIte, Nat.reduceEqDiff, Nat.reduceLeDiff, Nat.reduceAdd, Nat.reduceMul, Nat.reduceSub, Nat.reduceBEq, Nat.reduceGT, Nat.reduceLT, Int.reduceLE, Int.reduceLT, Int.reduceNeg, reduceCtorEq], by simp only [go_sem, ↓reduceIte, Nat.reduceEqDiff, Nat.reduceLeDiff, Nat.reduceAdd, Nat.reduceMul, Nat.reduceSub, Nat.reduceBEq, Nat.reduceGT, Nat.reduceLT, Int.reduceLE, Int.reduceLT, Int.reduceNeg, reduceCtorEq]; rfl, by omega, fun j x h => by omega⟩
  rintro ρ _ ⟨rfl, i, e0, e1, e5, hi, hno⟩
  by_cases hlt : i < es.length
  · obtain ⟨x, hxi⟩ : ∃ p, es[i]? = some p := ⟨_, List.getElem?_eq_getElem (by omega)⟩
    obtain ⟨b, o, rfl, gs, _⟩ := ent_at hv hxi
    have c1 : (i : Int) < es.length := by omega
    have c0 : (0 : Int) ≤ i := by omega
    have w2 : IntKind.i64.wrap ((i : Int) + 1) = ((i + 1 : Nat) : Int) := by rw [w64_id (by omega) (by omega)]; omega
    simp only [go_sem, ↓reduceIte, Nat.reduceEqDiff, Nat.reduceLeDiff, Nat.reduceAdd, Nat.reduceMul, Nat.reduceSub, Nat.reduceBEq, Nat.reduceGT, Nat.reduceLT, Int.reduceLE, Int.reduceLT, Int.reduceNeg, reduceCtorEq, c92_L0, e0, e1, e5, c0, c1, Int.toNat_natCast, gs, str_dec, w2]
    refine ⟨fun hd => ?_, fun hd => ?_⟩
    · exact ⟨_, rfl, .inl ⟨i, x.2, rfl, by rw [hxi, ← hd], lookE_first hxi hd hno⟩⟩
    · refine ⟨Hold.mk ⟨rfl, i + 1, by simp only [go_sem, ↓reduceIte, Nat.reduceEqDiff, Nat.reduceLeDiff, Nat.reduceAdd, Nat.reduceMul, Nat.reduceSub, Nat.reduceBEq, Nat.reduceGT, Nat.reduceLT, Int.reduceLE, Int.reduceLT, Int.reduceNeg, reduceCtorEq, e0], by simp only [go_sem, ↓reduceIte, Nat.reduceEqDiff, Nat.reduceLeDiff, Nat.reduceAdd, Nat.reduceMul, Nat.reduceSub, Nat.reduceBEq, Nat.reduceGT, Nat.reduceLT, Int.reduceLE, Int.reduceLT, Int.reduceNeg, reduceCtorEq, e1], by simp only [go_sem, ↓reduceIte, Nat.reduceEqDiff, Nat.reduceLeDiff, Nat.reduceAdd, Nat.reduceMul, Nat.reduceSub, Nat.reduceBEq, Nat.reduceGT, Nat.reduceLT, Int.reduceLE, Int.reduceLT, Int.reduceNeg, reduceCtorEq], by omega, fun j y hj hy => ?_⟩, by omega⟩
      by_cases hji : j = i
      · subst hji; rw [hxi] at hy; cases hy; exact hd
      · exact hno j y (by omega) hy
  · have c1 : ¬ (i : Int) < es.length := by omega
    simp only [go_sem, ↓reduceIte, Nat.reduceEqDiff, Nat.reduceLeDiff, Nat.reduceAdd, Nat.reduceMul, Nat.reduceSub, Nat.reduceBEq, Nat.reduceGT, Nat.reduceLT, Int.reduceLE, Int.reduceLT, Int.reduceNeg, reduceCtorEq, c92_L0, e0, e1, e5, c1]
    refine ⟨_, rfl, .inr ⟨rfl, lookE_none fun e he => ?_⟩⟩
    obtain ⟨j, hj, rfl⟩ := List.getElem_of_mem he
    exact hno j _ (by omega) (List.getElem?_eq_getElem hj)
end Go.Proofs.Ytmkheogjnlmkdaa
