/- The law RunsBack, over heaps. -/
import Derived.Test.YtcgejfmbhpmjfaaVLenc
import Derived.Test.YtcgejfmbhpmjfaaVEncS
import Derived.Test.YtcgejfmbhpmjfaaVSmall
set_option linter.unusedSimpArgs false
set_option linter.unusedVariables false
set_option maxRecDepth 20000
namespace Go.Proofs.Ytcgejfmbhpmjfaa
open Go Go.V
-- 8: pith/pithlaw11.RunsBack
-- 11: pith/pithlaw11.first
-- 23: pith/pithlaw11.num
-- 32: pith/pithlaw11.may
-- 20: pith/runs.Encode
-- 33: pith/runs.Decode
-- 22: pith/pithref.SameBytes
-- 15: pith/pithref.SamePairs
-- 5: uint8
-- 24: pith/api.Pair
-- 22: []api.Pair
theorem may_enc {ps : List Pr} {ys : List Int} (h : encR ps = (some ys, 0)) : mayP ps = true := by rw [← mayP_enc, h]; rfl
theorem may_none {ps : List Pr} {e : Int} (h : encR ps = (none, e)) (he : e ≠ 0) : mayP ps = false := by rw [← mayP_enc, h]; exact decide_eq_false he
set_option maxHeartbeats 4000000 in
theorem F8 (v0 : Value) (ps : List Pr) (v1 : Value) (qs : List Pr) (v2 : Value) (ys : List Int) (H : Heap) (hv0 : Prs H v0 ps) (hv1 : Prs H v1 qs) (hv2 : Ints H 5 .u8 v2 ys) (hw : Byt ys) :
    Fun Try.prog 8 #[v0, v1, v2] H (fun r H' => r = .bool true ∧ Ext H H') := by
  obtain ⟨a0, c0, rfl⟩ := prs_form hv0
  obtain ⟨a1, c1, rfl⟩ := prs_form hv1
  obtain ⟨a2, c2, rfl⟩ := hv2.form
  refine fun_of mixed (args := [_, _, _]) Try.func8 Try.ntmps8 b8 r8 rfl ?_
  simp only [go_sem, ↓reduceIte, Nat.reduceEqDiff, Nat.reduceLeDiff, Nat.reduceAdd, Nat.reduceMul, Nat.reduceSub, Nat.reduceBEq, Nat.reduceGT, Nat.reduceLT, Int.reduceLE, Int.reduceLT, Int.reduceNeg, reduceCtorEq]
  refine FunI.by (F11 _) ?_
  rintro _ G1 ⟨rfl, x0⟩
  by_cases l0 : 3000 < ps.length
  · have i0 : (3000 : Int) < ps.length := by omega
    simp only [go_sem, ↓reduceIte, Nat.reduceEqDiff, Nat.reduceLeDiff, Nat.reduceAdd, Nat.reduceMul, Nat.reduceSub, Nat.reduceBEq, Nat.reduceGT, Nat.reduceLT, Int.reduceLE, Int.reduceLT, Int.reduceNeg, reduceCtorEq, i0]
    exact x0
  have i0 : ¬ (3000 : Int) < ps.length := by omega
  by_cases l1 : 3000 < qs.length
  · have i1 : (3000 : Int) < qs.length := by omega
    simp only [go_sem, ↓reduceIte, Nat.reduceEqDiff, Nat.reduceLeDiff, Nat.reduceAdd, Nat.reduceMul, Nat.reduceSub, Nat.reduceBEq, Nat.reduceGT, Nat.reduceLT, Int.reduceLE, Int.reduceLT, Int.reduceNeg, reduceCtorEq, i0, i1]
    exact x0
  have i1 : ¬ (3000 : Int) < qs.length := by omega
  by_cases l2 : 65536 < ys.length
  · have i2 : (65536 : Int) < ys.length := by omega
    simp only [go_sem, ↓reduceIte, Nat.reduceEqDiff, Nat.reduceLeDiff, Nat.reduceAdd, Nat.reduceMul, Nat.reduceSub, Nat.reduceBEq, Nat.reduceGT, Nat.reduceLT, Int.reduceLE, Int.reduceLT, Int.reduceNeg, reduceCtorEq, i0, i1, i2]
    exact x0
  have i2 : ¬ (65536 : Int) < ys.length := by omega
  simp only [go_sem, ↓reduceIte, Nat.reduceEqDiff, Nat.reduceLeDiff, Nat.reduceAdd, Nat.reduceMul, Nat.reduceSub, Nat.reduceBEq, Nat.reduceGT, Nat.reduceLT, Int.reduceLE, Int.reduceLT, Int.reduceNeg, reduceCtorEq, i0, i1, i2]
  refine FunI.by (F20 _ ps _ (prs_ext hv0 x0)) ?_
  rintro _ G2 ⟨y, v3, rfl, o3⟩
  replace x0 := step x0 y (Nat.le_refl _)
  clear y
  simp only [go_sem, ↓reduceIte, Nat.reduceEqDiff, Nat.reduceLeDiff, Nat.reduceAdd, Nat.reduceMul, Nat.reduceSub, Nat.reduceBEq, Nat.reduceGT, Nat.reduceLT, Int.reduceLE, Int.reduceLT, Int.reduceNeg, reduceCtorEq]
  refine FunI.by (F20 _ qs _ (prs_ext hv1 x0)) ?_
  rintro _ G3 ⟨y, v4, rfl, o4⟩
  replace x0 := step x0 y (Nat.le_refl _)
  replace o3 := o3.ext y
  clear y
  simp only [go_sem, ↓reduceIte, Nat.reduceEqDiff, Nat.reduceLeDiff, Nat.reduceAdd, Nat.reduceMul, Nat.reduceSub, Nat.reduceBEq, Nat.reduceGT, Nat.reduceLT, Int.reduceLE, Int.reduceLT, Int.reduceNeg, reduceCtorEq]
  refine FunI.by (F23 _ _) ?_
  rintro _ _ ⟨rfl, rfl⟩
  rcases encR_cases ps with ⟨e0, he0, hne0⟩ | ⟨xs0, he0⟩ <;> rcases encR_cases qs with ⟨e1, he1, hne1⟩ | ⟨xs1, he1⟩
  case' neg.inl.inl =>
    rw [he0] at o3 ⊢
    have hm0 := may_none he0 hne0
    simp only [go_sem, ↓reduceIte, Nat.reduceEqDiff, Nat.reduceLeDiff, Nat.reduceAdd, Nat.reduceMul, Nat.reduceSub, Nat.reduceBEq, Nat.reduceGT, Nat.reduceLT, Int.reduceLE, Int.reduceLT, Int.reduceNeg, reduceCtorEq, hne0]
    refine FunI.by (F32 _ ps _ (prs_ext hv0 x0) (by omega)) ?_
    rintro _ G4 ⟨rfl, y⟩
    replace x0 := step x0 y (Nat.le_refl _)
    replace o3 := o3.ext y
    replace o4 := o4.ext y
    clear y
    simp only [go_sem, ↓reduceIte, Nat.reduceEqDiff, Nat.reduceLeDiff, Nat.reduceAdd, Nat.reduceMul, Nat.reduceSub, Nat.reduceBEq, Nat.reduceGT, Nat.reduceLT, Int.reduceLE, Int.reduceLT, Int.reduceNeg, reduceCtorEq, hm0, Bool.xor_false, Bool.xor_true, bne_self_eq_false]
    refine FunI.by (F23 _ _) ?_
    rintro _ _ ⟨rfl, rfl⟩
    obtain ⟨a3, cap3, rfl⟩ := Ints.form o3.sl
    rw [he1] at o4 ⊢
    have hm1 := may_none he1 hne1
    obtain ⟨a4, cap4, rfl⟩ := Ints.form o4.sl
    simp only [go_sem, ↓reduceIte, Nat.reduceEqDiff, Nat.reduceLeDiff, Nat.reduceAdd, Nat.reduceMul, Nat.reduceSub, Nat.reduceBEq, Nat.reduceGT, Nat.reduceLT, Int.reduceLE, Int.reduceLT, Int.reduceNeg, reduceCtorEq, hne1]
    refine FunI.by (F32 _ qs _ (prs_ext hv1 x0) (by omega)) ?_
    rintro _ G5 ⟨rfl, y⟩
    replace x0 := step x0 y (Nat.le_refl _)
    replace o3 := o3.ext y
    replace o4 := o4.ext y
    clear y
    have q5 : ¬ (801 : Int) < ((0 : Nat) : Int) := by decide
    simp only [go_sem, ↓reduceIte, Nat.reduceEqDiff, Nat.reduceLeDiff, Nat.reduceAdd, Nat.reduceMul, Nat.reduceSub, Nat.reduceBEq, Nat.reduceGT, Nat.reduceLT, Int.reduceLE, Int.reduceLT, Int.reduceNeg, reduceCtorEq, hm1, Bool.xor_false, Bool.xor_true, bne_self_eq_false, q5, Option.getD_none]
    refine FunI.by (F23 _ _) ?_
    rintro _ _ ⟨rfl, rfl⟩
    simp only [go_sem, ↓reduceIte, Nat.reduceEqDiff, Nat.reduceLeDiff, Nat.reduceAdd, Nat.reduceMul, Nat.reduceSub, Nat.reduceBEq, Nat.reduceGT, Nat.reduceLT, Int.reduceLE, Int.reduceLT, Int.reduceNeg, reduceCtorEq, hne0]
  case' neg.inl.inr =>
    rw [he0] at o3 ⊢
    have hm0 := may_none he0 hne0
    simp only [go_sem, ↓reduceIte, Nat.reduceEqDiff, Nat.reduceLeDiff, Nat.reduceAdd, Nat.reduceMul, Nat.reduceSub, Nat.reduceBEq, Nat.reduceGT, Nat.reduceLT, Int.reduceLE, Int.reduceLT, Int.reduceNeg, reduceCtorEq, hne0]
    refine FunI.by (F32 _ ps _ (prs_ext hv0 x0) (by omega)) ?_
    rintro _ G4 ⟨rfl, y⟩
    replace x0 := step x0 y (Nat.le_refl _)
    replace o3 := o3.ext y
    replace o4 := o4.ext y
    clear y
    simp only [go_sem, ↓reduceIte, Nat.reduceEqDiff, Nat.reduceLeDiff, Nat.reduceAdd, Nat.reduceMul, Nat.reduceSub, Nat.reduceBEq, Nat.reduceGT, Nat.reduceLT, Int.reduceLE, Int.reduceLT, Int.reduceNeg, reduceCtorEq, hm0, Bool.xor_false, Bool.xor_true, bne_self_eq_false]
    refine FunI.by (F23 _ _) ?_
    rintro _ _ ⟨rfl, rfl⟩
    obtain ⟨a3, cap3, rfl⟩ := Ints.form o3.sl
    rw [he1] at o4 ⊢
    have hm1 := may_enc he1
    obtain ⟨q3, q4⟩ := enc_out he1
    obtain ⟨g4, cap4, rfl, hc4⟩ := (own_int o4).resolve_left fun h => by have := h.2; simp at this; rw [this] at q3; simp at q3
    simp only [go_sem, ↓reduceIte, Nat.reduceEqDiff, Nat.reduceLeDiff, Nat.reduceAdd, Nat.reduceMul, Nat.reduceSub, Nat.reduceBEq, Nat.reduceGT, Nat.reduceLT, Int.reduceLE, Int.reduceLT, Int.reduceNeg, reduceCtorEq]
    refine FunI.by (F32 _ qs _ (prs_ext hv1 x0) (by omega)) ?_
    rintro _ G5 ⟨rfl, y⟩
    replace x0 := step x0 y (Nat.le_refl _)
    replace o3 := o3.ext y
    replace o4 := o4.ext y
    clear y
    have q5 : ¬ (801 : Int) < ((0 : Nat) : Int) := by decide
    simp only [go_sem, ↓reduceIte, Nat.reduceEqDiff, Nat.reduceLeDiff, Nat.reduceAdd, Nat.reduceMul, Nat.reduceSub, Nat.reduceBEq, Nat.reduceGT, Nat.reduceLT, Int.reduceLE, Int.reduceLT, Int.reduceNeg, reduceCtorEq, hm1, Bool.xor_false, Bool.xor_true, bne_self_eq_false, q5, Option.getD_none]
    refine FunI.by (F23 _ _) ?_
    rintro _ _ ⟨rfl, rfl⟩
    simp only [go_sem, ↓reduceIte, Nat.reduceEqDiff, Nat.reduceLeDiff, Nat.reduceAdd, Nat.reduceMul, Nat.reduceSub, Nat.reduceBEq, Nat.reduceGT, Nat.reduceLT, Int.reduceLE, Int.reduceLT, Int.reduceNeg, reduceCtorEq, hne0]
  case' neg.inr.inl =>
    rw [he0] at o3 ⊢
    have hm0 := may_enc he0
    obtain ⟨q1, q2⟩ := enc_out he0
    obtain ⟨g3, cap3, rfl, hc3⟩ := (own_int o3).resolve_left fun h => by have := h.2; simp at this; rw [this] at q1; simp at q1
    simp only [go_sem, ↓reduceIte, Nat.reduceEqDiff, Nat.reduceLeDiff, Nat.reduceAdd, Nat.reduceMul, Nat.reduceSub, Nat.reduceBEq, Nat.reduceGT, Nat.reduceLT, Int.reduceLE, Int.reduceLT, Int.reduceNeg, reduceCtorEq, show (0 : Int) = 0 from rfl]
    refine FunI.by (F32 _ ps _ (prs_ext hv0 x0) (by omega)) ?_
    rintro _ G4 ⟨rfl, y⟩
    replace x0 := step x0 y (Nat.le_refl _)
    replace o3 := o3.ext y
    replace o4 := o4.ext y
    clear y
    simp only [go_sem, ↓reduceIte, Nat.reduceEqDiff, Nat.reduceLeDiff, Nat.reduceAdd, Nat.reduceMul, Nat.reduceSub, Nat.reduceBEq, Nat.reduceGT, Nat.reduceLT, Int.reduceLE, Int.reduceLT, Int.reduceNeg, reduceCtorEq, hm0, Bool.xor_false, Bool.xor_true, bne_self_eq_false]
    refine FunI.by (F23 _ _) ?_
    rintro _ _ ⟨rfl, rfl⟩
    rw [he1] at o4 ⊢
    have hm1 := may_none he1 hne1
    obtain ⟨a4, cap4, rfl⟩ := Ints.form o4.sl
    simp only [go_sem, ↓reduceIte, Nat.reduceEqDiff, Nat.reduceLeDiff, Nat.reduceAdd, Nat.reduceMul, Nat.reduceSub, Nat.reduceBEq, Nat.reduceGT, Nat.reduceLT, Int.reduceLE, Int.reduceLT, Int.reduceNeg, reduceCtorEq, hne1]
    refine FunI.by (F32 _ qs _ (prs_ext hv1 x0) (by omega)) ?_
    rintro _ G5 ⟨rfl, y⟩
    replace x0 := step x0 y (Nat.le_refl _)
    replace o3 := o3.ext y
    replace o4 := o4.ext y
    clear y
    have q5 : ¬ (801 : Int) < ((some xs0).getD []).length := by simp only [Option.getD_some]; omega
    simp only [go_sem, ↓reduceIte, Nat.reduceEqDiff, Nat.reduceLeDiff, Nat.reduceAdd, Nat.reduceMul, Nat.reduceSub, Nat.reduceBEq, Nat.reduceGT, Nat.reduceLT, Int.reduceLE, Int.reduceLT, Int.reduceNeg, reduceCtorEq, hm1, Bool.xor_false, Bool.xor_true, bne_self_eq_false, q5]
    refine FunI.by (F23 _ _) ?_
    rintro _ _ ⟨rfl, rfl⟩
    simp only [go_sem, ↓reduceIte, Nat.reduceEqDiff, Nat.reduceLeDiff, Nat.reduceAdd, Nat.reduceMul, Nat.reduceSub, Nat.reduceBEq, Nat.reduceGT, Nat.reduceLT, Int.reduceLE, Int.reduceLT, Int.reduceNeg, reduceCtorEq]
    refine FunI.by (F33 _ xs0 _ o3.sl (enc_byt he0) (by omega)) ?_
    rintro r6 G6 h6
    obtain ⟨y, o6, v6, e6, ho6, rfl, ov6, he6⟩ := decA_form h6
    have hs6 := (ho6 ps).2 he0
    subst hs6
    simp only [Option.isSome_some, if_true] at he6
    subst he6
    replace x0 := step x0 y (Nat.le_refl _)
    replace o3 := o3.ext y
    replace o4 := o4.ext y
    clear y h6 ho6
    simp only [go_sem, ↓reduceIte, Nat.reduceEqDiff, Nat.reduceLeDiff, Nat.reduceAdd, Nat.reduceMul, Nat.reduceSub, Nat.reduceBEq, Nat.reduceGT, Nat.reduceLT, Int.reduceLE, Int.reduceLT, Int.reduceNeg, reduceCtorEq]
    refine FunI.by (F15 _ _ ps ps _ (prs_own ov6) (prs_ext hv0 x0) (by omega)) ?_
    rintro _ _ ⟨rfl, rfl⟩
    simp only [go_sem, ↓reduceIte, Nat.reduceEqDiff, Nat.reduceLeDiff, Nat.reduceAdd, Nat.reduceMul, Nat.reduceSub, Nat.reduceBEq, Nat.reduceGT, Nat.reduceLT, Int.reduceLE, Int.reduceLT, Int.reduceNeg, reduceCtorEq, decide_true]
    refine FunI.by (F23 _ _) ?_
    rintro _ _ ⟨rfl, rfl⟩
    simp only [go_sem, ↓reduceIte, Nat.reduceEqDiff, Nat.reduceLeDiff, Nat.reduceAdd, Nat.reduceMul, Nat.reduceSub, Nat.reduceBEq, Nat.reduceGT, Nat.reduceLT, Int.reduceLE, Int.reduceLT, Int.reduceNeg, reduceCtorEq, decide_true]
    refine FunI.by (F15 _ _ ps qs _ (prs_ext hv0 x0) (prs_ext hv1 x0) (by omega)) ?_
    rintro _ _ ⟨rfl, rfl⟩
    simp only [go_sem, ↓reduceIte, Nat.reduceEqDiff, Nat.reduceLeDiff, Nat.reduceAdd, Nat.reduceMul, Nat.reduceSub, Nat.reduceBEq, Nat.reduceGT, Nat.reduceLT, Int.reduceLE, Int.reduceLT, Int.reduceNeg, reduceCtorEq]
    refine FunIQ.by (F23 _ _) ?_
    simp only [go_sem, ↓reduceIte, Nat.reduceEqDiff, Nat.reduceLeDiff, Nat.reduceAdd, Nat.reduceMul, Nat.reduceSub, Nat.reduceBEq, Nat.reduceGT, Nat.reduceLT, Int.reduceLE, Int.reduceLT, Int.reduceNeg, reduceCtorEq, hne1]
  case' neg.inr.inr =>
    rw [he0] at o3 ⊢
    have hm0 := may_enc he0
    obtain ⟨q1, q2⟩ := enc_out he0
    obtain ⟨g3, cap3, rfl, hc3⟩ := (own_int o3).resolve_left fun h => by have := h.2; simp at this; rw [this] at q1; simp at q1
    simp only [go_sem, ↓reduceIte, Nat.reduceEqDiff, Nat.reduceLeDiff, Nat.reduceAdd, Nat.reduceMul, Nat.reduceSub, Nat.reduceBEq, Nat.reduceGT, Nat.reduceLT, Int.reduceLE, Int.reduceLT, Int.reduceNeg, reduceCtorEq, show (0 : Int) = 0 from rfl]
    refine FunI.by (F32 _ ps _ (prs_ext hv0 x0) (by omega)) ?_
    rintro _ G4 ⟨rfl, y⟩
    replace x0 := step x0 y (Nat.le_refl _)
    replace o3 := o3.ext y
    replace o4 := o4.ext y
    clear y
    simp only [go_sem, ↓reduceIte, Nat.reduceEqDiff, Nat.reduceLeDiff, Nat.reduceAdd, Nat.reduceMul, Nat.reduceSub, Nat.reduceBEq, Nat.reduceGT, Nat.reduceLT, Int.reduceLE, Int.reduceLT, Int.reduceNeg, reduceCtorEq, hm0, Bool.xor_false, Bool.xor_true, bne_self_eq_false]
    refine FunI.by (F23 _ _) ?_
    rintro _ _ ⟨rfl, rfl⟩
    rw [he1] at o4 ⊢
    have hm1 := may_enc he1
    obtain ⟨q3, q4⟩ := enc_out he1
    obtain ⟨g4, cap4, rfl, hc4⟩ := (own_int o4).resolve_left fun h => by have := h.2; simp at this; rw [this] at q3; simp at q3
    simp only [go_sem, ↓reduceIte, Nat.reduceEqDiff, Nat.reduceLeDiff, Nat.reduceAdd, Nat.reduceMul, Nat.reduceSub, Nat.reduceBEq, Nat.reduceGT, Nat.reduceLT, Int.reduceLE, Int.reduceLT, Int.reduceNeg, reduceCtorEq]
    refine FunI.by (F32 _ qs _ (prs_ext hv1 x0) (by omega)) ?_
    rintro _ G5 ⟨rfl, y⟩
    replace x0 := step x0 y (Nat.le_refl _)
    replace o3 := o3.ext y
    replace o4 := o4.ext y
    clear y
    have q5 : ¬ (801 : Int) < ((some xs0).getD []).length := by simp only [Option.getD_some]; omega
    simp only [go_sem, ↓reduceIte, Nat.reduceEqDiff, Nat.reduceLeDiff, Nat.reduceAdd, Nat.reduceMul, Nat.reduceSub, Nat.reduceBEq, Nat.reduceGT, Nat.reduceLT, Int.reduceLE, Int.reduceLT, Int.reduceNeg, reduceCtorEq, hm1, Bool.xor_false, Bool.xor_true, bne_self_eq_false, q5]
    refine FunI.by (F23 _ _) ?_
    rintro _ _ ⟨rfl, rfl⟩
    simp only [go_sem, ↓reduceIte, Nat.reduceEqDiff, Nat.reduceLeDiff, Nat.reduceAdd, Nat.reduceMul, Nat.reduceSub, Nat.reduceBEq, Nat.reduceGT, Nat.reduceLT, Int.reduceLE, Int.reduceLT, Int.reduceNeg, reduceCtorEq]
    refine FunI.by (F33 _ xs0 _ o3.sl (enc_byt he0) (by omega)) ?_
    rintro r6 G6 h6
    obtain ⟨y, o6, v6, e6, ho6, rfl, ov6, he6⟩ := decA_form h6
    have hs6 := (ho6 ps).2 he0
    subst hs6
    simp only [Option.isSome_some, if_true] at he6
    subst he6
    replace x0 := step x0 y (Nat.le_refl _)
    replace o3 := o3.ext y
    replace o4 := o4.ext y
    clear y h6 ho6
    simp only [go_sem, ↓reduceIte, Nat.reduceEqDiff, Nat.reduceLeDiff, Nat.reduceAdd, Nat.reduceMul, Nat.reduceSub, Nat.reduceBEq, Nat.reduceGT, Nat.reduceLT, Int.reduceLE, Int.reduceLT, Int.reduceNeg, reduceCtorEq]
    refine FunI.by (F15 _ _ ps ps _ (prs_own ov6) (prs_ext hv0 x0) (by omega)) ?_
    rintro _ _ ⟨rfl, rfl⟩
    simp only [go_sem, ↓reduceIte, Nat.reduceEqDiff, Nat.reduceLeDiff, Nat.reduceAdd, Nat.reduceMul, Nat.reduceSub, Nat.reduceBEq, Nat.reduceGT, Nat.reduceLT, Int.reduceLE, Int.reduceLT, Int.reduceNeg, reduceCtorEq, decide_true]
    refine FunI.by (F23 _ _) ?_
    rintro _ _ ⟨rfl, rfl⟩
    simp only [go_sem, ↓reduceIte, Nat.reduceEqDiff, Nat.reduceLeDiff, Nat.reduceAdd, Nat.reduceMul, Nat.reduceSub, Nat.reduceBEq, Nat.reduceGT, Nat.reduceLT, Int.reduceLE, Int.reduceLT, Int.reduceNeg, reduceCtorEq, decide_true]
    refine FunI.by (F15 _ _ ps qs _ (prs_ext hv0 x0) (prs_ext hv1 x0) (by omega)) ?_
    rintro _ _ ⟨rfl, rfl⟩
    simp only [go_sem, ↓reduceIte, Nat.reduceEqDiff, Nat.reduceLeDiff, Nat.reduceAdd, Nat.reduceMul, Nat.reduceSub, Nat.reduceBEq, Nat.reduceGT, Nat.reduceLT, Int.reduceLE, Int.reduceLT, Int.reduceNeg, reduceCtorEq]
    refine FunIQ.by (F23 _ _) ?_
    simp only [go_sem, ↓reduceIte, Nat.reduceEqDiff, Nat.reduceLeDiff, Nat.reduceAdd, Nat.reduceMul, Nat.reduceSub, Nat.reduceBEq, Nat.reduceGT, Nat.reduceLT, Int.reduceLE, Int.reduceLT, Int.reduceNeg, reduceCtorEq]
    simp only [Option.getD_some] at o3 o4 hc3 hc4 ⊢
    rw [show (if (xs1.length : Int) < xs0.length then (xs1.length : Int) else xs0.length) = ((min xs0.length xs1.length : Nat) : Int) by split <;> omega]
    refine ⟨⟨by omega, by omega⟩, ⟨by omega, by omega⟩, ?_⟩
    have k3 := o3.cut (n := min xs0.length xs1.length) (by omega)
    have k4 := o4.cut (n := min xs0.length xs1.length) (by omega)
    rw [Nat.mul_one, ← List.map_take] at k3 k4
    rw [Int.toNat_natCast]
    refine FunIQ.by (F22 _ _ _ _ _ k3.sl k4.sl (fun c hc => enc_byt he0 c (List.mem_of_mem_take hc)) (fun c hc => enc_byt he1 c (List.mem_of_mem_take hc))) ?_
    rw [enc_alike he0 he1]
    simp only [go_sem, ↓reduceIte, Nat.reduceEqDiff, Nat.reduceLeDiff, Nat.reduceAdd, Nat.reduceMul, Nat.reduceSub, Nat.reduceBEq, Nat.reduceGT, Nat.reduceLT, Int.reduceLE, Int.reduceLT, Int.reduceNeg, reduceCtorEq, bne_self_eq_false]
    clear k3 k4
  all_goals
    clear o3 o4
    refine FunI.by (F33 _ ys _ (Ints.ext hv2 x0) hw (by omega)) ?_
    rintro r7 G7 h7
    obtain ⟨y, o7, v7, e7, ho7, rfl, ov7, he7⟩ := decA_form h7
    replace x0 := step x0 y (Nat.le_refl _)
    clear y h7
    simp only [go_sem, ↓reduceIte, Nat.reduceEqDiff, Nat.reduceLeDiff, Nat.reduceAdd, Nat.reduceMul, Nat.reduceSub, Nat.reduceBEq, Nat.reduceGT, Nat.reduceLT, Int.reduceLE, Int.reduceLT, Int.reduceNeg, reduceCtorEq]
    refine FunI.by (F23 _ _) ?_
    rintro _ _ ⟨rfl, rfl⟩
    cases o7 with
    | none =>
      simp only [Option.isSome_none, Bool.false_eq_true, if_false] at he7
      subst he7
      obtain ⟨a7, cap7, rfl⟩ := prs_form (prs_own ov7)
      simp only [go_sem, ↓reduceIte, Nat.reduceEqDiff, Nat.reduceLeDiff, Nat.reduceAdd, Nat.reduceMul, Nat.reduceSub, Nat.reduceBEq, Nat.reduceGT, Nat.reduceLT, Int.reduceLE, Int.reduceLT, Int.reduceNeg, reduceCtorEq, Option.getD_none, List.length_nil]
      exact ⟨fun _ => ⟨rfl, x0⟩, fun h => absurd h (by decide)⟩
    | some l =>
      simp only [Option.isSome_some, if_true] at he7
      subst he7
      have hl := (ho7 l).1 rfl
      simp only [go_sem, ↓reduceIte, Nat.reduceEqDiff, Nat.reduceLeDiff, Nat.reduceAdd, Nat.reduceMul, Nat.reduceSub, Nat.reduceBEq, Nat.reduceGT, Nat.reduceLT, Int.reduceLE, Int.reduceLT, Int.reduceNeg, reduceCtorEq]
      refine FunI.by (F20 _ l _ (prs_own ov7)) ?_
      rintro _ G8 ⟨y, v8, rfl, o8⟩
      replace x0 := step x0 y (Nat.le_refl _)
      clear y
      rw [hl] at o8 ⊢
      simp only [go_sem, ↓reduceIte, Nat.reduceEqDiff, Nat.reduceLeDiff, Nat.reduceAdd, Nat.reduceMul, Nat.reduceSub, Nat.reduceBEq, Nat.reduceGT, Nat.reduceLT, Int.reduceLE, Int.reduceLT, Int.reduceNeg, reduceCtorEq]
      refine FunI.by (F23 _ _) ?_
      rintro _ _ ⟨rfl, rfl⟩
      simp only [go_sem, ↓reduceIte, Nat.reduceEqDiff, Nat.reduceLeDiff, Nat.reduceAdd, Nat.reduceMul, Nat.reduceSub, Nat.reduceBEq, Nat.reduceGT, Nat.reduceLT, Int.reduceLE, Int.reduceLT, Int.reduceNeg, reduceCtorEq]
      refine FunI.by (F22 _ _ ys ys _ o8.sl (Ints.ext hv2 x0) hw hw) ?_
      rintro _ _ ⟨rfl, rfl⟩
      simp only [go_sem, ↓reduceIte, Nat.reduceEqDiff, Nat.reduceLeDiff, Nat.reduceAdd, Nat.reduceMul, Nat.reduceSub, Nat.reduceBEq, Nat.reduceGT, Nat.reduceLT, Int.reduceLE, Int.reduceLT, Int.reduceNeg, reduceCtorEq, decide_true]
      exact x0
end Go.Proofs.Ytcgejfmbhpmjfaa
