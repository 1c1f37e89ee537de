/- The reference merger: New, Wants, Left. -/
import Derived.Test.YtcgejfmbhpmjfaaVRefH
set_option linter.unusedSimpArgs false
set_option linter.unusedVariables false
set_option maxRecDepth 20000
namespace Go.Proofs.Ytcgejfmbhpmjfaa
open Go Go.V
-- 27: pith/pithref11.New
-- 57: (*pith/pithref11.Merger).Wants
-- 58: (*pith/pithref11.Merger).Left
-- 3: int
-- 24: pith/api.Pair
-- 22: []api.Pair
-- 91: pithref11.Merger
-- 110: pithref11.Source
theorem F27_none (k : Int) (H : Heap) (hk : k < 0 ∨ 64 < k) : Fun Try.prog 27 #[.int .i64 k] H (fun r H' => r = .pointer none ∧ H = H') := by
  refine fun_of mixed (args := [_]) Try.func27 Try.ntmps27 b27 r27 rfl ?_
  rcases hk with hk | hk
  · simp only [go_sem, ↓reduceIte, Nat.reduceEqDiff, Nat.reduceLeDiff, Nat.reduceAdd, Nat.reduceMul, Nat.reduceSub, Nat.reduceBEq, Nat.reduceGT, Nat.reduceLT, Int.reduceLE, Int.reduceLT, Int.reduceNeg, reduceCtorEq, hk]
  · have c : ¬ k < 0 := by omega
    simp only [go_sem, ↓reduceIte, Nat.reduceEqDiff, Nat.reduceLeDiff, Nat.reduceAdd, Nat.reduceMul, Nat.reduceSub, Nat.reduceBEq, Nat.reduceGT, Nat.reduceLT, Int.reduceLE, Int.reduceLT, Int.reduceNeg, reduceCtorEq, hk, c]
theorem F27 (k : Nat) (H : Heap) (hk : k ≤ 64) : Fun Try.prog 27 #[.int .i64 k] H (fun r H' => ∃ F' M S lvs, r = .pointer (some ⟨M, 0, none⟩) ∧ RefH H' F' M S lvs (List.replicate k default) ∧ (∀ b, F' b → H.size ≤ b) ∧ Ext H H') := by
  refine fun_of mixed (args := [_]) Try.func27 Try.ntmps27 b27 r27 rfl ?_
  have c1 : ¬ (k : Int) < 0 := by omega
  have c2 : ¬ (64 : Int) < k := by omega
  have k0 : (0 : Int) ≤ k := by omega
  have k1 : (48 : Nat) * (k : Int) ≤ 281474976710656 := by omega
  have k2 : (k : Int) ≤ 9223372036854775807 := by omega
  simp only [go_sem, ↓reduceIte, Nat.reduceEqDiff, Nat.reduceLeDiff, Nat.reduceAdd, Nat.reduceMul, Nat.reduceSub, Nat.reduceBEq, Nat.reduceGT, Nat.reduceLT, Int.reduceLE, Int.reduceLT, Int.reduceNeg, reduceCtorEq, c1, c2, k0, k1, k2, Int.le_refl]
  generalize hz : zrow (.agg #[.slice none 0 0, .int .i64 0, .int .i64 0, .bool false, .bool false]) (k * 5) = z
  generalize hA : Array.push H (Obj.cells z 110) = A
  generalize hB : Array.push A (Obj.cells #[Value.slice (some ⟨H.size, 0, none⟩) k k] 91) = B
  have sA : A.size = H.size + 1 := by rw [← hA]; simp
  have hM : B[A.size]? = some (.cells #[.slice (some ⟨H.size, 0, none⟩) k k] 91) := by rw [← hB, push_new]
  have hS : B[H.size]? = some (.cells z 110) := by rw [← hB, push_old (by omega), ← hA, push_new]
  have hx : Ext H B := by rw [← hB, ← hA]; exact (Ext.push _).trans ((Ext.push _).mono (by simp))
  have sgr : ∀ i, i < k → sg (List.replicate k default) i = default := fun i hi => by
    unfold sg
    rw [List.getD_eq_getElem?_getD, List.getElem?_replicate, if_pos hi]; rfl
  have lvr : ∀ i, i < k → (List.replicate k (Value.slice none 0 0)).getD i undef = .slice none 0 0 := fun i hi => by
    rw [List.getD_eq_getElem?_getD, List.getElem?_replicate, if_pos hi]; rfl
  refine ⟨fun b => b = A.size ∨ b = H.size, A.size, H.size, List.replicate k (.slice none 0 0), rfl, ⟨by rw [List.length_replicate]; exact hM, ⟨z, hS, ?_⟩, ?_, ?_, .inl rfl, .inr rfl, ?_, by simpa using hk⟩, ?_, hx⟩
  · refine ⟨by rw [← hz, zrow_size, List.length_replicate], by simp, fun i j hi hj => ?_⟩
    rw [List.length_replicate] at hi
    rw [sgr i hi, lvr i hi, ← hz, zrow_get (by omega)]
    have e : (i * 5 + j) % (Value.agg #[.slice none 0 0, .int .i64 0, .int .i64 0, .bool false, .bool false]).cells.size = j := by
      show (i * 5 + j) % 5 = j
      omega
    rw [e]
    match j, hj with
    | 0, _ => rfl
    | 1, _ => rfl
    | 2, _ => rfl
    | 3, _ => rfl
    | 4, _ => rfl
  · intro i hi
    rw [List.length_replicate] at hi
    rw [sgr i hi, lvr i hi]
    exact Own2.nil
  · intro i j hi
    rw [List.length_replicate] at hi
    rw [lvr i hi]
    exact fun _ _ => .inl rfl
  · intro i b hi
    rw [List.length_replicate] at hi
    rw [lvr i hi]
    intro h; cases h
  · rintro b (h | h) <;> omega
theorem F57 {H : Heap} {F : Nat → Prop} {M S : Nat} {lvs : List Value} {ss : List Src} (h : RefH H F M S lvs ss) :
    Fun Try.prog 57 #[.pointer (some ⟨M, 0, none⟩)] H (fun r H' => r = .int .i64 (wantsS ss) ∧ H = H') := by
  refine fun_of mixed (args := [_]) Try.func57 Try.ntmps57 b57 r57 rfl ?_
  have m0 := h.getM
  have hk := h.k64
  simp only [go_sem, ↓reduceIte, Nat.reduceEqDiff, Nat.reduceLeDiff, Nat.reduceAdd, Nat.reduceMul, Nat.reduceSub, Nat.reduceBEq, Nat.reduceGT, Nat.reduceLT, Int.reduceLE, Int.reduceLT, Int.reduceNeg, reduceCtorEq]
  refine LoopI.by mixed (fun ρ H' => H = H' ∧ ∃ i : Nat, ρ 0 = .pointer (some ⟨M, 0, none⟩) ∧ ρ 3 = .int .i64 i ∧ i ≤ ss.length ∧ (∀ j, j < i → wanting (sg ss j) = false)) (fun ρ _ => ss.length - (iof (ρ 3)).toNat) ?_ ?_
  · exact ⟨rfl, 0, by simp only [go_sem, ↓reduceIte, Nat.reduceEqDiff, Nat.reduceLeDiff, Nat.reduceAdd, Nat.reduceMul, Nat.reduceSub, Nat.reduceBEq, Nat.reduceGT, Nat.reduceLT, Int.reduceLE, Int.reduceLT, Int.reduceNeg, reduceCtorEq], by simp only [go_sem, ↓reduceIte, Nat.reduceEqDiff, Nat.reduceLeDiff, Nat.reduceAdd, Nat.reduceMul, Nat.reduceSub, Nat.reduceBEq, Nat.reduceGT, Nat.reduceLT, Int.reduceLE, Int.reduceLT, Int.reduceNeg, reduceCtorEq]; rfl, by omega, by omega⟩
  rintro ρ _ ⟨rfl, i, e0, e3, hi, hj⟩
  by_cases hlt : i < ss.length
  · have q1 : (i : Int) < ss.length := by omega
    have z0 : (0 : Int) ≤ i := by omega
    obtain ⟨a, cap, g0⟩ := h.getV hlt
    obtain ⟨_, g1, g2, g3, g4⟩ := h.getS hlt
    have w1 : IntKind.i64.wrap ((i : Int) + 1) = ((i + 1 : Nat) : Int) := by rw [w64_id (by omega) (by omega)]; omega
    by_cases hl0 : (sg ss i).l.length = 0
    · have q2 : ((sg ss i).l.length : Int) = 0 := by omega
      cases hen : (sg ss i).ended with
      | true =>
        rw [hen] at g4
        have hw : wanting (sg ss i) = false := by unfold wanting; rw [hen]; simp
        simp only [go_sem, ↓reduceIte, Nat.reduceEqDiff, Nat.reduceLeDiff, Nat.reduceAdd, Nat.reduceMul, Nat.reduceSub, Nat.reduceBEq, Nat.reduceGT, Nat.reduceLT, Int.reduceLE, Int.reduceLT, Int.reduceNeg, reduceCtorEq, c57_L0, e0, e3, m0, q1, q2, z0, g0, g4, w1, Int.toNat_natCast]
        refine ⟨Hold.mk ⟨rfl, i + 1, by simp only [go_sem, ↓reduceIte, Nat.reduceEqDiff, Nat.reduceLeDiff, Nat.reduceAdd, Nat.reduceMul, Nat.reduceSub, Nat.reduceBEq, Nat.reduceGT, Nat.reduceLT, Int.reduceLE, Int.reduceLT, Int.reduceNeg, reduceCtorEq, e0], by simp only [go_sem, ↓reduceIte, Nat.reduceEqDiff, Nat.reduceLeDiff, Nat.reduceAdd, Nat.reduceMul, Nat.reduceSub, Nat.reduceBEq, Nat.reduceGT, Nat.reduceLT, Int.reduceLE, Int.reduceLT, Int.reduceNeg, reduceCtorEq], by omega, fun j hj' => ?_⟩, by omega⟩
        by_cases hji : j = i
        · rw [hji]; exact hw
        · exact hj j (by omega)
      | false =>
        rw [hen] at g4
        have hw : wanting (sg ss i) = true := by unfold wanting; rw [hen, hl0]; rfl
        simp only [go_sem, ↓reduceIte, Nat.reduceEqDiff, Nat.reduceLeDiff, Nat.reduceAdd, Nat.reduceMul, Nat.reduceSub, Nat.reduceBEq, Nat.reduceGT, Nat.reduceLT, Int.reduceLE, Int.reduceLT, Int.reduceNeg, reduceCtorEq, c57_L0, e0, e3, m0, q1, q2, z0, g0, g4, w1, Int.toNat_natCast]
        rw [wantsS_some hlt hw hj]
    · have q2 : ¬ ((sg ss i).l.length : Int) = 0 := by omega
      have hw : wanting (sg ss i) = false := by unfold wanting; rw [decide_eq_false hl0]; rfl
      simp only [go_sem, ↓reduceIte, Nat.reduceEqDiff, Nat.reduceLeDiff, Nat.reduceAdd, Nat.reduceMul, Nat.reduceSub, Nat.reduceBEq, Nat.reduceGT, Nat.reduceLT, Int.reduceLE, Int.reduceLT, Int.reduceNeg, reduceCtorEq, c57_L0, e0, e3, m0, q1, q2, z0, g0, w1, Int.toNat_natCast]
      refine ⟨Hold.mk ⟨rfl, i + 1, by simp only [go_sem, ↓reduceIte, Nat.reduceEqDiff, Nat.reduceLeDiff, Nat.reduceAdd, Nat.reduceMul, Nat.reduceSub, Nat.reduceBEq, Nat.reduceGT, Nat.reduceLT, Int.reduceLE, Int.reduceLT, Int.reduceNeg, reduceCtorEq, e0], by simp only [go_sem, ↓reduceIte, Nat.reduceEqDiff, Nat.reduceLeDiff, Nat.reduceAdd, Nat.reduceMul, Nat.reduceSub, Nat.reduceBEq, Nat.reduceGT, Nat.reduceLT, Int.reduceLE, Int.reduceLT, Int.reduceNeg, reduceCtorEq], by omega, fun j hj' => ?_⟩, by omega⟩
      by_cases hji : j = i
      · rw [hji]; exact hw
      · exact hj j (by omega)
  · have q1 : ¬ (i : Int) < ss.length := by omega
    simp only [go_sem, ↓reduceIte, Nat.reduceEqDiff, Nat.reduceLeDiff, Nat.reduceAdd, Nat.reduceMul, Nat.reduceSub, Nat.reduceBEq, Nat.reduceGT, Nat.reduceLT, Int.reduceLE, Int.reduceLT, Int.reduceNeg, reduceCtorEq, c57_L0, e0, e3, m0, q1]
    rw [wantsS_none fun j h => hj j (by omega)]
theorem F58 {H : Heap} {F : Nat → Prop} {M S : Nat} {lvs : List Value} {ss : List Src} (h : RefH H F M S lvs ss) (hb : ∀ i, i < ss.length → (sg ss i).l.length ≤ 8796093020000) :
    Fun Try.prog 58 #[.pointer (some ⟨M, 0, none⟩)] H (fun r H' => r = .int .i64 (leftS ss) ∧ H = H') := by
  refine fun_of mixed (args := [_]) Try.func58 Try.ntmps58 b58 r58 rfl ?_
  have m0 := h.getM
  have hk := h.k64
  simp only [go_sem, ↓reduceIte, Nat.reduceEqDiff, Nat.reduceLeDiff, Nat.reduceAdd, Nat.reduceMul, Nat.reduceSub, Nat.reduceBEq, Nat.reduceGT, Nat.reduceLT, Int.reduceLE, Int.reduceLT, Int.reduceNeg, reduceCtorEq]
  refine LoopI.by mixed (fun ρ H' => H = H' ∧ ∃ i : Nat, ρ 0 = .pointer (some ⟨M, 0, none⟩) ∧ ρ 3 = .int .i64 (sumL ss i : Nat) ∧ ρ 4 = .int .i64 i ∧ i ≤ ss.length) (fun ρ _ => ss.length - (iof (ρ 4)).toNat) ?_ ?_
  · exact ⟨rfl, 0, by simp only [go_sem, ↓reduceIte, Nat.reduceEqDiff, Nat.reduceLeDiff, Nat.reduceAdd, Nat.reduceMul, Nat.reduceSub, Nat.reduceBEq, Nat.reduceGT, Nat.reduceLT, Int.reduceLE, Int.reduceLT, Int.reduceNeg, reduceCtorEq], by simp only [go_sem, ↓reduceIte, Nat.reduceEqDiff, Nat.reduceLeDiff, Nat.reduceAdd, Nat.reduceMul, Nat.reduceSub, Nat.reduceBEq, Nat.reduceGT, Nat.reduceLT, Int.reduceLE, Int.reduceLT, Int.reduceNeg, reduceCtorEq]; rfl, by simp only [go_sem, ↓reduceIte, Nat.reduceEqDiff, Nat.reduceLeDiff, Nat.reduceAdd, Nat.reduceMul, Nat.reduceSub, Nat.reduceBEq, Nat.reduceGT, Nat.reduceLT, Int.reduceLE, Int.reduceLT, Int.reduceNeg, reduceCtorEq]; rfl, by omega⟩
  rintro ρ _ ⟨rfl, i, e0, e3, e4, hi⟩
  by_cases hlt : i < ss.length
  · have q1 : (i : Int) < ss.length := by omega
    have z0 : (0 : Int) ≤ i := by omega
    obtain ⟨a, cap, g0⟩ := h.getV hlt
    have hs := sumL_le hb (i + 1) (by omega)
    rw [sumL_succ hlt] at hs
    have hm : (i + 1) * 8796093020000 ≤ 64 * 8796093020000 := Nat.mul_le_mul_right _ (by omega)
    have w1 : IntKind.i64.wrap ((i : Int) + 1) = ((i + 1 : Nat) : Int) := by rw [w64_id (by omega) (by omega)]; omega
    have w2 : IntKind.i64.wrap ((sumL ss i : Int) + (sg ss i).l.length) = ((sumL ss (i + 1) : Nat) : Int) := by
      rw [sumL_succ hlt, w64_id (by omega) (by omega)]; omega
    simp only [go_sem, ↓reduceIte, Nat.reduceEqDiff, Nat.reduceLeDiff, Nat.reduceAdd, Nat.reduceMul, Nat.reduceSub, Nat.reduceBEq, Nat.reduceGT, Nat.reduceLT, Int.reduceLE, Int.reduceLT, Int.reduceNeg, reduceCtorEq, c58_L0, e0, e3, e4, m0, q1, z0, g0, w1, w2, Int.toNat_natCast]
    exact ⟨Hold.mk ⟨rfl, i + 1, by simp only [go_sem, ↓reduceIte, Nat.reduceEqDiff, Nat.reduceLeDiff, Nat.reduceAdd, Nat.reduceMul, Nat.reduceSub, Nat.reduceBEq, Nat.reduceGT, Nat.reduceLT, Int.reduceLE, Int.reduceLT, Int.reduceNeg, reduceCtorEq, e0], by simp only [go_sem, ↓reduceIte, Nat.reduceEqDiff, Nat.reduceLeDiff, Nat.reduceAdd, Nat.reduceMul, Nat.reduceSub, Nat.reduceBEq, Nat.reduceGT, Nat.reduceLT, Int.reduceLE, Int.reduceLT, Int.reduceNeg, reduceCtorEq], by simp only [go_sem, ↓reduceIte, Nat.reduceEqDiff, Nat.reduceLeDiff, Nat.reduceAdd, Nat.reduceMul, Nat.reduceSub, Nat.reduceBEq, Nat.reduceGT, Nat.reduceLT, Int.reduceLE, Int.reduceLT, Int.reduceNeg, reduceCtorEq], by omega⟩, by omega⟩
  · have q1 : ¬ (i : Int) < ss.length := by omega
    simp only [go_sem, ↓reduceIte, Nat.reduceEqDiff, Nat.reduceLeDiff, Nat.reduceAdd, Nat.reduceMul, Nat.reduceSub, Nat.reduceBEq, Nat.reduceGT, Nat.reduceLT, Int.reduceLE, Int.reduceLT, Int.reduceNeg, reduceCtorEq, c58_L0, e0, e3, e4, m0, q1]
    have : i = ss.length := by omega
    subst this
    rw [sumL_all]
end Go.Proofs.Ytcgejfmbhpmjfaa
