/- The reference reader of bytes reads as the program does. -/
import Derived.Test.YtcgejfmbhpmjfaaVRdr
set_option linter.unusedSimpArgs false
set_option linter.unusedVariables false
set_option maxRecDepth 20000
namespace Go.Proofs.Ytcgejfmbhpmjfaa
open Go Go.V
-- 25: pith/pithref.Bytes
-- 75: pith/pithref1.New
-- 76: (*pith/pithref1.Reader).Int
-- 90: (*pith/pithref1.Reader).number
-- 5: uint8
-- 30: []uint8
-- 130: pith/pithref1.Reader

theorem F75 (v : Value) (xs : List Int) (H : Heap) (hs : Ints H 5 .u8 v xs) (hl : xs.length ≤ 140737488350000) :
    Fun Try.prog 75 #[v] H (fun r H' => Rdr H' H.size 130 r xs (0, 0) ∧ Ext H H') := by
  refine fun_of mixed (args := [_]) Try.func75 Try.ntmps75 b75 r75 rfl ?_
  simp only [go_sem, ↓reduceIte, Nat.reduceEqDiff, Nat.reduceLeDiff, Nat.reduceAdd, Nat.reduceMul, Nat.reduceSub, Nat.reduceBEq, Nat.reduceGT, Nat.reduceLT, Int.reduceLE, Int.reduceLT, Int.reduceNeg, reduceCtorEq]
  refine FunI.by (F25 v xs H hs hl) ?_
  rintro u H1 ⟨hu, hx⟩
  obtain ⟨_, _, rfl⟩ := (show Ints H1 5 .u8 u xs from hu.sl).form
  simp only [go_sem, ↓reduceIte, Nat.reduceEqDiff, Nat.reduceLeDiff, Nat.reduceAdd, Nat.reduceMul, Nat.reduceSub, Nat.reduceBEq, Nat.reduceGT, Nat.reduceLT, Int.reduceLE, Int.reduceLT, Int.reduceNeg, reduceCtorEq]
  exact ⟨⟨H1.size, _, rfl, hx.size, push_new, (Own.ext hu (Ext.push _)).mono (by first | exact Nat.le_refl _ | exact hx.size), Nat.zero_le _⟩, hx.trans ((Ext.push _).mono hx.size)⟩
/-- The number at p: its value, the place behind it, what is wrong. -/
def vat (xs : List Int) (p : Nat) : Int × Int × Int := ((vform (xs.drop p)).1, p + (vform (xs.drop p)).2.1, (vform (xs.drop p)).2.2)
set_option maxHeartbeats 1600000 in
set_option maxRecDepth 20000 in
theorem F90 (B : Nat) (v : Value) (xs : List Int) (s : Nat × Int) (H : Heap) (hr : Rdr H B 130 v xs s) (hw : Byt xs) (hl : xs.length ≤ 140737488350000) :
    Fun Try.prog 90 #[v, .int .i64 s.1] H (fun r H' => r = .tuple #[.int .i64 (vat xs s.1).1, .int .i64 (vat xs s.1).2.1, .int .i64 (vat xs s.1).2.2] ∧ H = H') := by
  obtain ⟨b, u, rfl, hB, hb, ho, hp⟩ := hr
  have hu : Ints H 5 .u8 u xs := ho.sl
  obtain ⟨a, c, rfl⟩ := hu.form
  obtain ⟨p, e⟩ := s
  simp only at hb hp
  have g0 : hget H b 0 = some (.slice a xs.length c) := by simp only [hget, hb]; rfl
  refine fun_of mixed (args := [_, _]) Try.func90 Try.ntmps90 b90 r90 rfl ?_
  -- from the loop on
  have main : (xs.drop p).head? ≠ some 128 → ∀ (n : Nat) (ρ : Env) (Q : Post), ρ 0 = .pointer (some ⟨b, 0, none⟩) → ρ 1 = .int .i64 p → ρ 7 = .int .i64 0 →
      (∀ (ρ' : Env) (i : Nat), ρ' 0 = .pointer (some ⟨b, 0, none⟩) → ρ' 1 = .int .i64 p → ρ' 7 = .int .i64 i → i ≤ 9 → p + i ≤ xs.length → (∀ k, k < i → 128 ≤ (xs.drop p).getD k 0) → (i = 9 ∨ i = (xs.drop p).length ∨ (xs.drop p).getD i 0 < 128) → Q (.exit 0) ρ' H) → @LoopI Try.prog n c90_L0 ρ H ⟨Q⟩ := by
    intro hh n ρ Q e0 e1 e7 hexit
    refine LoopI.by mixed (fun ρ H' => ∃ i : Nat, ρ 0 = .pointer (some ⟨b, 0, none⟩) ∧ ρ 1 = .int .i64 p ∧ ρ 7 = .int .i64 i ∧ i ≤ 9 ∧ p + i ≤ xs.length ∧ (∀ k, k < i → 128 ≤ (xs.drop p).getD k 0) ∧ H = H') (fun ρ _ => 9 - (iof (ρ 7)).toNat) ?_ ?_
    · exact ⟨0, e0, e1, e7, by omega, by omega, by omega, rfl⟩
    rintro ρ _ ⟨i, e0, e1, e7, hi9, hpi, hk, rfl⟩
    have w1 : IntKind.i64.wrap ((p : Int) + i) = ((p + i : Nat) : Int) := by rw [w64_id (by omega) (by omega)]; omega
    have w2 : IntKind.i64.wrap ((i : Int) + 1) = (i : Int) + 1 := w64_id (by omega) (by omega)
    by_cases c1 : i < 9
    · have c1' : (i : Int) < 9 := by omega
      by_cases c2 : p + i < xs.length
      · have c2' : ((p + i : Nat) : Int) < xs.length := by omega
        have c0 : (0 : Int) ≤ ((p + i : Nat) : Int) := by omega
        obtain ⟨ab, ao, rfl⟩ := hu.at (i := p + i) c2
        have gi := hu.get (i := p + i) c2
        have gd : (xs.drop p).getD i 0 = xs.getD (p + i) 0 := by simp [List.getD_eq_getElem?_getD, List.getElem?_drop]
        by_cases c3 : 128 ≤ xs.getD (p + i) 0
        · simp only [go_sem, ↓reduceIte, Nat.reduceEqDiff, Nat.reduceLeDiff, Nat.reduceAdd, Nat.reduceMul, Nat.reduceSub, Nat.reduceBEq, Nat.reduceGT, Nat.reduceLT, Int.reduceLE, Int.reduceLT, Int.reduceNeg, reduceCtorEq, c90_L0, e0, e1, e7, c0, c1', c2', c3, w1, w2, g0, gi, Int.toNat_natCast]
          refine ⟨Hold.mk ⟨i + 1, by simp only [go_sem, ↓reduceIte, Nat.reduceEqDiff, Nat.reduceLeDiff, Nat.reduceAdd, Nat.reduceMul, Nat.reduceSub, Nat.reduceBEq, Nat.reduceGT, Nat.reduceLT, Int.reduceLE, Int.reduceLT, Int.reduceNeg, reduceCtorEq, e0], by simp only [go_sem, ↓reduceIte, Nat.reduceEqDiff, Nat.reduceLeDiff, Nat.reduceAdd, Nat.reduceMul, Nat.reduceSub, Nat.reduceBEq, Nat.reduceGT, Nat.reduceLT, Int.reduceLE, Int.reduceLT, Int.reduceNeg, reduceCtorEq, e1], by simp only [go_sem, ↓reduceIte, Nat.reduceEqDiff, Nat.reduceLeDiff, Nat.reduceAdd, Nat.reduceMul, Nat.reduceSub, Nat.reduceBEq, Nat.reduceGT, Nat.reduceLT, Int.reduceLE, Int.reduceLT, Int.reduceNeg, reduceCtorEq]; rfl, by omega, by omega, ?_, rfl⟩, by omega⟩
          intro k hk'
          by_cases hki : k = i
          · subst hki; rw [gd]; exact c3
          · exact hk k (by omega)
        · simp only [go_sem, ↓reduceIte, Nat.reduceEqDiff, Nat.reduceLeDiff, Nat.reduceAdd, Nat.reduceMul, Nat.reduceSub, Nat.reduceBEq, Nat.reduceGT, Nat.reduceLT, Int.reduceLE, Int.reduceLT, Int.reduceNeg, reduceCtorEq, c90_L0, e0, e1, e7, c0, c1', c2', c3, w1, w2, g0, gi, Int.toNat_natCast]
          exact hexit _ i (by simp only [go_sem, ↓reduceIte, Nat.reduceEqDiff, Nat.reduceLeDiff, Nat.reduceAdd, Nat.reduceMul, Nat.reduceSub, Nat.reduceBEq, Nat.reduceGT, Nat.reduceLT, Int.reduceLE, Int.reduceLT, Int.reduceNeg, reduceCtorEq, e0]) (by simp only [go_sem, ↓reduceIte, Nat.reduceEqDiff, Nat.reduceLeDiff, Nat.reduceAdd, Nat.reduceMul, Nat.reduceSub, Nat.reduceBEq, Nat.reduceGT, Nat.reduceLT, Int.reduceLE, Int.reduceLT, Int.reduceNeg, reduceCtorEq, e1]) (by simp only [go_sem, ↓reduceIte, Nat.reduceEqDiff, Nat.reduceLeDiff, Nat.reduceAdd, Nat.reduceMul, Nat.reduceSub, Nat.reduceBEq, Nat.reduceGT, Nat.reduceLT, Int.reduceLE, Int.reduceLT, Int.reduceNeg, reduceCtorEq, e7]) hi9 hpi hk (.inr (.inr (by rw [gd]; omega)))
      · have c2' : ¬ ((p + i : Nat) : Int) < xs.length := by omega
        simp only [go_sem, ↓reduceIte, Nat.reduceEqDiff, Nat.reduceLeDiff, Nat.reduceAdd, Nat.reduceMul, Nat.reduceSub, Nat.reduceBEq, Nat.reduceGT, Nat.reduceLT, Int.reduceLE, Int.reduceLT, Int.reduceNeg, reduceCtorEq, c90_L0, e0, e1, e7, c1', c2', w1, w2, g0]
        exact hexit _ i (by simp only [go_sem, ↓reduceIte, Nat.reduceEqDiff, Nat.reduceLeDiff, Nat.reduceAdd, Nat.reduceMul, Nat.reduceSub, Nat.reduceBEq, Nat.reduceGT, Nat.reduceLT, Int.reduceLE, Int.reduceLT, Int.reduceNeg, reduceCtorEq, e0]) (by simp only [go_sem, ↓reduceIte, Nat.reduceEqDiff, Nat.reduceLeDiff, Nat.reduceAdd, Nat.reduceMul, Nat.reduceSub, Nat.reduceBEq, Nat.reduceGT, Nat.reduceLT, Int.reduceLE, Int.reduceLT, Int.reduceNeg, reduceCtorEq, e1]) (by simp only [go_sem, ↓reduceIte, Nat.reduceEqDiff, Nat.reduceLeDiff, Nat.reduceAdd, Nat.reduceMul, Nat.reduceSub, Nat.reduceBEq, Nat.reduceGT, Nat.reduceLT, Int.reduceLE, Int.reduceLT, Int.reduceNeg, reduceCtorEq, e7]) hi9 hpi hk (.inr (.inl (by simp; omega)))
    · have c1' : ¬ (i : Int) < 9 := by omega
      simp only [go_sem, ↓reduceIte, Nat.reduceEqDiff, Nat.reduceLeDiff, Nat.reduceAdd, Nat.reduceMul, Nat.reduceSub, Nat.reduceBEq, Nat.reduceGT, Nat.reduceLT, Int.reduceLE, Int.reduceLT, Int.reduceNeg, reduceCtorEq, c90_L0, e0, e1, e7, c1']
      exact hexit _ i (by simp only [go_sem, ↓reduceIte, Nat.reduceEqDiff, Nat.reduceLeDiff, Nat.reduceAdd, Nat.reduceMul, Nat.reduceSub, Nat.reduceBEq, Nat.reduceGT, Nat.reduceLT, Int.reduceLE, Int.reduceLT, Int.reduceNeg, reduceCtorEq, e0]) (by simp only [go_sem, ↓reduceIte, Nat.reduceEqDiff, Nat.reduceLeDiff, Nat.reduceAdd, Nat.reduceMul, Nat.reduceSub, Nat.reduceBEq, Nat.reduceGT, Nat.reduceLT, Int.reduceLE, Int.reduceLT, Int.reduceNeg, reduceCtorEq, e1]) (by simp only [go_sem, ↓reduceIte, Nat.reduceEqDiff, Nat.reduceLeDiff, Nat.reduceAdd, Nat.reduceMul, Nat.reduceSub, Nat.reduceBEq, Nat.reduceGT, Nat.reduceLT, Int.reduceLE, Int.reduceLT, Int.reduceNeg, reduceCtorEq, e7]) hi9 hpi hk (.inl (by omega))
  have fin : (xs.drop p).head? ≠ some 128 → ∀ (i : Nat), i ≤ 9 → p + i ≤ xs.length → (∀ k, k < i → 128 ≤ (xs.drop p).getD k 0) → (i = 9 ∨ i = (xs.drop p).length ∨ (xs.drop p).getD i 0 < 128) →
      vat xs p = if i = 9 then (0, (p : Int), 12) else if p + i = xs.length then (0, (p : Int), 10) else (vval ((xs.drop p).take (i + 1)), (p : Int) + i + 1, 0) := by
    intro hh i hi9 hpi hk hor
    have hlead : lead 9 (xs.drop p) = i := lead_eq hk hor hi9 (by simp; omega)
    unfold vat vform
    rw [if_neg hh, hlead]
    by_cases h9 : i = 9
    · rw [if_pos h9, if_pos h9]; simp
    · rw [if_neg h9, if_neg h9]
      by_cases hlx : p + i = xs.length
      · rw [if_pos hlx, if_pos (by simp; omega)]; simp
      · rw [if_neg hlx, if_neg (by simp; omega)]
        simp only [Prod.mk.injEq, true_and, and_true]
        omega
  have rest : (xs.drop p).head? ≠ some 128 → ∀ (n : Nat) (ρ : Env) (i : Nat) (Q : Post), ρ 0 = .pointer (some ⟨b, 0, none⟩) → ρ 1 = .int .i64 p → ρ 7 = .int .i64 i → i < 9 → p + i < xs.length → ρ 8 = .int .i64 0 → ρ 9 = .int .i64 0 →
      (∀ ρ' : Env, ρ' 1 = .int .i64 p → ρ' 7 = .int .i64 i → ρ' 8 = .int .i64 (vval ((xs.drop p).take (i + 1))) → Q (.exit 2) ρ' H) → @LoopI Try.prog n c90_L1 ρ H ⟨Q⟩ := by
    intro hh n ρ i Q e0 e1 e7 hi9 hpi e8 e9 hexit
    refine LoopI.by mixed (fun ρ H' => ∃ j : Nat, ρ 0 = .pointer (some ⟨b, 0, none⟩) ∧ ρ 1 = .int .i64 p ∧ ρ 7 = .int .i64 i ∧ ρ 8 = .int .i64 (vval ((xs.drop p).take j)) ∧ ρ 9 = .int .i64 j ∧ j ≤ i + 1 ∧ H = H') (fun ρ _ => i + 1 - (iof (ρ 9)).toNat) ?_ ?_
    · exact ⟨0, e0, e1, e7, e8, e9, by omega, rfl⟩
    rintro ρ _ ⟨j, e0, e1, e7, e8, e9, hj, rfl⟩
    by_cases hji : j ≤ i
    · have c1 : (j : Int) ≤ i := by omega
      have c2 : ((p + j : Nat) : Int) < xs.length := by omega
      have c0 : (0 : Int) ≤ ((p + j : Nat) : Int) := by omega
      have w1 : IntKind.i64.wrap ((p : Int) + j) = ((p + j : Nat) : Int) := by rw [w64_id (by omega) (by omega)]; omega
      have w2 : IntKind.i64.wrap ((j : Int) + 1) = (j : Int) + 1 := w64_id (by omega) (by omega)
      obtain ⟨ab, ao, rfl⟩ := hu.at (i := p + j) (by omega)
      have gi := hu.get (i := p + j) (by omega)
      have gd : (xs.drop p).getD j 0 = xs.getD (p + j) 0 := by simp [List.getD_eq_getElem?_getD, List.getElem?_drop]
      have hx := hw _ (mem_getD (xs := xs) (i := p + j) (by omega) 0)
      have hv8 := vval_lt8 (xs := (xs.drop p).take j) (by simp; omega)
      have w3 : IntKind.i64.wrap (vval ((xs.drop p).take j) * 128) = vval ((xs.drop p).take j) * 128 := w64_id (by omega) (by omega)
      have tm : (xs.getD (p + j) 0).tmod 128 = xs.getD (p + j) 0 % 128 := Int.tmod_eq_emod_of_nonneg hx.1
      have w4 : IntKind.i64.wrap (xs.getD (p + j) 0 % 128) = xs.getD (p + j) 0 % 128 := w64_id (by omega) (by omega)
      have w5 : IntKind.i64.wrap (vval ((xs.drop p).take j) * 128 + xs.getD (p + j) 0 % 128) = vval ((xs.drop p).take (j + 1)) := by
        rw [w64_id (by omega) (by omega), take_succ_getD (by simp; omega) 0, vval_snoc, gd]
      simp only [go_sem, ↓reduceIte, Nat.reduceEqDiff, Nat.reduceLeDiff, Nat.reduceAdd, Nat.reduceMul, Nat.reduceSub, Nat.reduceBEq, Nat.reduceGT, Nat.reduceLT, Int.reduceLE, Int.reduceLT, Int.reduceNeg, reduceCtorEq, c90_L1, e0, e1, e7, e8, e9, c0, c1, c2, w1, w2, w3, w4, w5, tm, g0, gi, Int.toNat_natCast]
      exact ⟨by decide, Hold.mk ⟨j + 1, by simp only [go_sem, ↓reduceIte, Nat.reduceEqDiff, Nat.reduceLeDiff, Nat.reduceAdd, Nat.reduceMul, Nat.reduceSub, Nat.reduceBEq, Nat.reduceGT, Nat.reduceLT, Int.reduceLE, Int.reduceLT, Int.reduceNeg, reduceCtorEq, e0], by simp only [go_sem, ↓reduceIte, Nat.reduceEqDiff, Nat.reduceLeDiff, Nat.reduceAdd, Nat.reduceMul, Nat.reduceSub, Nat.reduceBEq, Nat.reduceGT, Nat.reduceLT, Int.reduceLE, Int.reduceLT, Int.reduceNeg, reduceCtorEq, e1], by simp only [go_sem, ↓reduceIte, Nat.reduceEqDiff, Nat.reduceLeDiff, Nat.reduceAdd, Nat.reduceMul, Nat.reduceSub, Nat.reduceBEq, Nat.reduceGT, Nat.reduceLT, Int.reduceLE, Int.reduceLT, Int.reduceNeg, reduceCtorEq, e7], by simp only [go_sem, ↓reduceIte, Nat.reduceEqDiff, Nat.reduceLeDiff, Nat.reduceAdd, Nat.reduceMul, Nat.reduceSub, Nat.reduceBEq, Nat.reduceGT, Nat.reduceLT, Int.reduceLE, Int.reduceLT, Int.reduceNeg, reduceCtorEq], by simp only [go_sem, ↓reduceIte, Nat.reduceEqDiff, Nat.reduceLeDiff, Nat.reduceAdd, Nat.reduceMul, Nat.reduceSub, Nat.reduceBEq, Nat.reduceGT, Nat.reduceLT, Int.reduceLE, Int.reduceLT, Int.reduceNeg, reduceCtorEq]; rfl, by omega, rfl⟩, by omega⟩
    · have c1 : ¬ (j : Int) ≤ i := by omega
      have hji' : j = i + 1 := by omega
      subst hji'
      simp only [go_sem, ↓reduceIte, Nat.reduceEqDiff, Nat.reduceLeDiff, Nat.reduceAdd, Nat.reduceMul, Nat.reduceSub, Nat.reduceBEq, Nat.reduceGT, Nat.reduceLT, Int.reduceLE, Int.reduceLT, Int.reduceNeg, reduceCtorEq, c90_L1, e0, e1, e7, e8, e9, c1]
      exact hexit _ (by simp only [go_sem, ↓reduceIte, Nat.reduceEqDiff, Nat.reduceLeDiff, Nat.reduceAdd, Nat.reduceMul, Nat.reduceSub, Nat.reduceBEq, Nat.reduceGT, Nat.reduceLT, Int.reduceLE, Int.reduceLT, Int.reduceNeg, reduceCtorEq, e1]) (by simp only [go_sem, ↓reduceIte, Nat.reduceEqDiff, Nat.reduceLeDiff, Nat.reduceAdd, Nat.reduceMul, Nat.reduceSub, Nat.reduceBEq, Nat.reduceGT, Nat.reduceLT, Int.reduceLE, Int.reduceLT, Int.reduceNeg, reduceCtorEq, e7]) (by simp only [go_sem, ↓reduceIte, Nat.reduceEqDiff, Nat.reduceLeDiff, Nat.reduceAdd, Nat.reduceMul, Nat.reduceSub, Nat.reduceBEq, Nat.reduceGT, Nat.reduceLT, Int.reduceLE, Int.reduceLT, Int.reduceNeg, reduceCtorEq, e8])
  by_cases hpl : p < xs.length
  · have c0 : (p : Int) < xs.length := by omega
    have c00 : (0 : Int) ≤ p := by omega
    obtain ⟨ab, ao, rfl⟩ := hu.at (i := p) hpl
    have gp := hu.get (i := p) hpl
    have gd : (xs.drop p).head? = some (xs.getD p 0) := by simp [List.head?_drop, List.getD_eq_getElem?_getD, List.getElem?_eq_getElem hpl]
    by_cases h128 : xs.getD p 0 = 128
    · simp only [go_sem, ↓reduceIte, Nat.reduceEqDiff, Nat.reduceLeDiff, Nat.reduceAdd, Nat.reduceMul, Nat.reduceSub, Nat.reduceBEq, Nat.reduceGT, Nat.reduceLT, Int.reduceLE, Int.reduceLT, Int.reduceNeg, reduceCtorEq, c0, c00, g0, gp, h128, Int.toNat_natCast]
      unfold vat vform
      rw [if_pos (by rw [gd, h128])]
      simp
    · have hh : (xs.drop p).head? ≠ some 128 := by rw [gd]; simpa using h128
      simp only [go_sem, ↓reduceIte, Nat.reduceEqDiff, Nat.reduceLeDiff, Nat.reduceAdd, Nat.reduceMul, Nat.reduceSub, Nat.reduceBEq, Nat.reduceGT, Nat.reduceLT, Int.reduceLE, Int.reduceLT, Int.reduceNeg, reduceCtorEq, c0, c00, g0, gp, h128, Int.toNat_natCast]
      refine main hh _ _ _ (by simp only [go_sem, ↓reduceIte, Nat.reduceEqDiff, Nat.reduceLeDiff, Nat.reduceAdd, Nat.reduceMul, Nat.reduceSub, Nat.reduceBEq, Nat.reduceGT, Nat.reduceLT, Int.reduceLE, Int.reduceLT, Int.reduceNeg, reduceCtorEq]) (by simp only [go_sem, ↓reduceIte, Nat.reduceEqDiff, Nat.reduceLeDiff, Nat.reduceAdd, Nat.reduceMul, Nat.reduceSub, Nat.reduceBEq, Nat.reduceGT, Nat.reduceLT, Int.reduceLE, Int.reduceLT, Int.reduceNeg, reduceCtorEq]) (by simp only [go_sem, ↓reduceIte, Nat.reduceEqDiff, Nat.reduceLeDiff, Nat.reduceAdd, Nat.reduceMul, Nat.reduceSub, Nat.reduceBEq, Nat.reduceGT, Nat.reduceLT, Int.reduceLE, Int.reduceLT, Int.reduceNeg, reduceCtorEq]) ?_
      intro ρ' i e0 e1 e7 hi9 hpi hk hor
      have hf := fin hh i hi9 hpi hk hor
      have w1 : IntKind.i64.wrap ((p : Int) + i) = ((p + i : Nat) : Int) := by rw [w64_id (by omega) (by omega)]; omega
      by_cases h9 : i = 9
      · have c9 : (i : Int) = 9 := by omega
        rw [if_pos h9] at hf
        simp only [go_sem, ↓reduceIte, Nat.reduceEqDiff, Nat.reduceLeDiff, Nat.reduceAdd, Nat.reduceMul, Nat.reduceSub, Nat.reduceBEq, Nat.reduceGT, Nat.reduceLT, Int.reduceLE, Int.reduceLT, Int.reduceNeg, reduceCtorEq, e0, e1, e7, c9, hf]
      · have c9 : ¬ (i : Int) = 9 := by omega
        rw [if_neg h9] at hf
        by_cases hlx : p + i = xs.length
        · have c8 : ((p + i : Nat) : Int) = xs.length := by omega
          rw [if_pos hlx] at hf
          simp only [go_sem, ↓reduceIte, Nat.reduceEqDiff, Nat.reduceLeDiff, Nat.reduceAdd, Nat.reduceMul, Nat.reduceSub, Nat.reduceBEq, Nat.reduceGT, Nat.reduceLT, Int.reduceLE, Int.reduceLT, Int.reduceNeg, reduceCtorEq, e0, e1, e7, c9, w1, c8, g0, hf]
        · have c8 : ¬ ((p + i : Nat) : Int) = xs.length := by omega
          rw [if_neg hlx] at hf
          have w6 : IntKind.i64.wrap (((p + i : Nat) : Int) + 1) = (p : Int) + i + 1 := by rw [w64_id (by omega) (by omega)]; omega
          simp only [go_sem, ↓reduceIte, Nat.reduceEqDiff, Nat.reduceLeDiff, Nat.reduceAdd, Nat.reduceMul, Nat.reduceSub, Nat.reduceBEq, Nat.reduceGT, Nat.reduceLT, Int.reduceLE, Int.reduceLT, Int.reduceNeg, reduceCtorEq, e0, e1, e7, c9, w1, c8, g0, hf]
          refine rest hh _ _ i _ (by simp only [go_sem, ↓reduceIte, Nat.reduceEqDiff, Nat.reduceLeDiff, Nat.reduceAdd, Nat.reduceMul, Nat.reduceSub, Nat.reduceBEq, Nat.reduceGT, Nat.reduceLT, Int.reduceLE, Int.reduceLT, Int.reduceNeg, reduceCtorEq, e0]) (by simp only [go_sem, ↓reduceIte, Nat.reduceEqDiff, Nat.reduceLeDiff, Nat.reduceAdd, Nat.reduceMul, Nat.reduceSub, Nat.reduceBEq, Nat.reduceGT, Nat.reduceLT, Int.reduceLE, Int.reduceLT, Int.reduceNeg, reduceCtorEq, e1]) (by simp only [go_sem, ↓reduceIte, Nat.reduceEqDiff, Nat.reduceLeDiff, Nat.reduceAdd, Nat.reduceMul, Nat.reduceSub, Nat.reduceBEq, Nat.reduceGT, Nat.reduceLT, Int.reduceLE, Int.reduceLT, Int.reduceNeg, reduceCtorEq, e7]) (by omega) (by omega) (by simp only [go_sem, ↓reduceIte, Nat.reduceEqDiff, Nat.reduceLeDiff, Nat.reduceAdd, Nat.reduceMul, Nat.reduceSub, Nat.reduceBEq, Nat.reduceGT, Nat.reduceLT, Int.reduceLE, Int.reduceLT, Int.reduceNeg, reduceCtorEq]) (by simp only [go_sem, ↓reduceIte, Nat.reduceEqDiff, Nat.reduceLeDiff, Nat.reduceAdd, Nat.reduceMul, Nat.reduceSub, Nat.reduceBEq, Nat.reduceGT, Nat.reduceLT, Int.reduceLE, Int.reduceLT, Int.reduceNeg, reduceCtorEq]) ?_
          intro ρ'' f1 f7 f8
          simp only [go_sem, ↓reduceIte, Nat.reduceEqDiff, Nat.reduceLeDiff, Nat.reduceAdd, Nat.reduceMul, Nat.reduceSub, Nat.reduceBEq, Nat.reduceGT, Nat.reduceLT, Int.reduceLE, Int.reduceLT, Int.reduceNeg, reduceCtorEq, f1, f7, f8, w1, w6, hf]
  · have c0 : ¬ (p : Int) < xs.length := by omega
    have hh : (xs.drop p).head? ≠ some 128 := by
      rw [List.drop_of_length_le (by omega)]; simp
    simp only [go_sem, ↓reduceIte, Nat.reduceEqDiff, Nat.reduceLeDiff, Nat.reduceAdd, Nat.reduceMul, Nat.reduceSub, Nat.reduceBEq, Nat.reduceGT, Nat.reduceLT, Int.reduceLE, Int.reduceLT, Int.reduceNeg, reduceCtorEq, c0, g0, Int.toNat_natCast]
    refine main hh _ _ _ (by simp only [go_sem, ↓reduceIte, Nat.reduceEqDiff, Nat.reduceLeDiff, Nat.reduceAdd, Nat.reduceMul, Nat.reduceSub, Nat.reduceBEq, Nat.reduceGT, Nat.reduceLT, Int.reduceLE, Int.reduceLT, Int.reduceNeg, reduceCtorEq]) (by simp only [go_sem, ↓reduceIte, Nat.reduceEqDiff, Nat.reduceLeDiff, Nat.reduceAdd, Nat.reduceMul, Nat.reduceSub, Nat.reduceBEq, Nat.reduceGT, Nat.reduceLT, Int.reduceLE, Int.reduceLT, Int.reduceNeg, reduceCtorEq]) (by simp only [go_sem, ↓reduceIte, Nat.reduceEqDiff, Nat.reduceLeDiff, Nat.reduceAdd, Nat.reduceMul, Nat.reduceSub, Nat.reduceBEq, Nat.reduceGT, Nat.reduceLT, Int.reduceLE, Int.reduceLT, Int.reduceNeg, reduceCtorEq]) ?_
    intro ρ' i e0 e1 e7 hi9 hpi hk hor
    have hf := fin hh i hi9 hpi hk hor
    have hi0 : i = 0 := by omega
    subst hi0
    have w1 : IntKind.i64.wrap ((xs.length : Int) + ((0 : Nat) : Int)) = (xs.length : Int) := by rw [w64_id (by omega) (by omega)]; omega
    have c9 : ¬ ((0 : Nat) : Int) = 9 := by omega
    have c8 : (p : Int) = xs.length := by omega
    rw [if_neg (by omega), if_pos (by omega)] at hf
    simp only [go_sem, ↓reduceIte, Nat.reduceEqDiff, Nat.reduceLeDiff, Nat.reduceAdd, Nat.reduceMul, Nat.reduceSub, Nat.reduceBEq, Nat.reduceGT, Nat.reduceLT, Int.reduceLE, Int.reduceLT, Int.reduceNeg, reduceCtorEq, e0, e1, e7, c9, w1, g0, hf, c8]

theorem F76 (B : Nat) (v : Value) (xs : List Int) (s : Nat × Int) (H : Heap) (hr : Rdr H B 130 v xs s) (hw : Byt xs) (hl : xs.length ≤ 140737488350000) :
    Fun Try.prog 76 #[v] H (fun r H' => r = .int .i64 (rval xs s) ∧ Rdr H' B 130 v xs (rstep xs s) ∧ H'.size = H.size ∧ ∀ k, Value.pointer (some ⟨k, 0, none⟩) ≠ v → H'[k]? = H[k]?) := by
  have hr' := hr
  obtain ⟨b, u, rfl, hB, hb, ho, hp⟩ := hr
  have hu : Ints H 5 .u8 u xs := ho.sl
  obtain ⟨a, c, rfl⟩ := hu.form
  obtain ⟨p, e⟩ := s
  simp only at hb hp
  refine fun_of mixed (args := [_]) Try.func76 Try.ntmps76 b76 r76 rfl ?_
  have g1 : hget H b 1 = some (.int .i64 p) := by simp only [hget, hb]; rfl
  have g2 : hget H b 2 = some (.int .i64 e) := by simp only [hget, hb]; rfl
  by_cases he : e = 0
  · subst he
    have hfl := vform_len (xs.drop p)
    have hfe := vform_err (xs.drop p)
    simp only [List.length_drop] at hfl
    simp only [go_sem, ↓reduceIte, Nat.reduceEqDiff, Nat.reduceLeDiff, Nat.reduceAdd, Nat.reduceMul, Nat.reduceSub, Nat.reduceBEq, Nat.reduceGT, Nat.reduceLT, Int.reduceLE, Int.reduceLT, Int.reduceNeg, reduceCtorEq, g1, g2]
    refine FunI.by (F90 B _ xs (p, 0) H hr' hw hl) ?_
    rintro _ _ ⟨rfl, rfl⟩
    simp only [go_sem, ↓reduceIte, Nat.reduceEqDiff, Nat.reduceLeDiff, Nat.reduceAdd, Nat.reduceMul, Nat.reduceSub, Nat.reduceBEq, Nat.reduceGT, Nat.reduceLT, Int.reduceLE, Int.reduceLT, Int.reduceNeg, reduceCtorEq, vat]
    have hb1 : (hput H b 2 [.int .i64 (vform (xs.drop p)).2.2])[b]? = some (.cells #[.slice a xs.length c, .int .i64 p, .int .i64 (vform (xs.drop p)).2.2] 130) := hput_same hb
    have hb2 : (hput (hput H b 2 [.int .i64 (vform (xs.drop p)).2.2]) b 1 [.int .i64 ((p : Int) + (vform (xs.drop p)).2.1)])[b]? = some (.cells #[.slice a xs.length c, .int .i64 ((p : Int) + (vform (xs.drop p)).2.1), .int .i64 (vform (xs.drop p)).2.2] 130) := hput_same hb1
    refine ⟨rfl, hcan_of hb (by simp), rfl, hcan_of hb1 (by simp), by simp [rval], ⟨b, .slice a xs.length c, rfl, hB, ?_, ?_, rstep_le (s := (p, 0)) hp⟩, by rw [hput_size, hput_size], ?_⟩
    · rw [hb2]
      have e1 : (p : Int) + (vform (xs.drop p)).2.1 = ((p + (vform (xs.drop p)).2.1.toNat : Nat) : Int) := by omega
      simp [rstep, e1]
    · refine ho.keepT fun k cc fr hk => ?_
      have hkb : k ≠ b := by
        rintro rfl
        rw [hb] at hk
        cases hk
      rw [hput_other _ _ _ _ hkb, hput_other _ _ _ _ hkb]
    · intro k hk
      have hkb : k ≠ b := fun h => hk (by rw [h])
      rw [hput_other _ _ _ _ hkb, hput_other _ _ _ _ hkb]
  · simp only [go_sem, ↓reduceIte, Nat.reduceEqDiff, Nat.reduceLeDiff, Nat.reduceAdd, Nat.reduceMul, Nat.reduceSub, Nat.reduceBEq, Nat.reduceGT, Nat.reduceLT, Int.reduceLE, Int.reduceLT, Int.reduceNeg, reduceCtorEq, g2, he]
    refine ⟨by simp [rval, he], ⟨b, _, rfl, hB, by simpa [rstep, he] using hb, ho, by simpa [rstep, he] using hp⟩, fun _ _ => trivial⟩
end Go.Proofs.Ytcgejfmbhpmjfaa
