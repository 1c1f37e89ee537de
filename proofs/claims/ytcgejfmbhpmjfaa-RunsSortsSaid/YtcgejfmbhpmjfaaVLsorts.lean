/- The law RunsSorts, over heaps. -/
import Derived.Test.YtcgejfmbhpmjfaaVLenc
set_option linter.unusedSimpArgs false
set_option linter.unusedVariables false
set_option maxRecDepth 20000
namespace Go.Proofs.Ytcgejfmbhpmjfaa
open Go Go.V
-- 3: pith/pithlaw11.RunsSorts
-- 11: pith/pithlaw11.first
-- 14: pith/pithlaw11.room
-- 19: pith/pithlaw11.still
-- 12: pith/runs.Less
-- 13: pith/pithref11.Less
-- 18: pith/pithref.Pairs
-- 15: pith/pithref.SamePairs
-- 16: pith/runs.Sort
-- 17: pith/pithref11.Sort
-- 24: pith/api.Pair
-- 22: []api.Pair
theorem Room.mono {H : Heap} {B B' : Nat} {v : Value} {ps : List Pr} (h : Room H B v ps) (hb : B' ≤ B) : Room H B' v ps := by
  obtain ⟨g, cap, h1, h2, h3⟩ := h
  exact ⟨g, cap, h1, h2, h3.mono hb⟩
set_option maxHeartbeats 1600000 in
theorem F3 (v : Value) (ps : List Pr) (a b : Pr) (i : Int) (H : Heap) (hv : Prs H v ps) :
    Fun Try.prog 3 #[v, pv a, pv b, .int .i64 i] H (fun r H' => r = .bool true ∧ Ext H H') := by
  obtain ⟨ad, c, rfl⟩ := prs_form hv
  refine fun_of mixed (args := [_, _, _, _]) Try.func3 Try.ntmps3 b3 r3 rfl ?_
  simp only [go_sem, ↓reduceIte, Nat.reduceEqDiff, Nat.reduceLeDiff, Nat.reduceAdd, Nat.reduceMul, Nat.reduceSub, Nat.reduceBEq, Nat.reduceGT, Nat.reduceLT, Int.reduceLE, Int.reduceLT, Int.reduceNeg, reduceCtorEq, pv]
  obtain ⟨G0, hG0⟩ : ∃ G, G = Array.push (Array.push H (Obj.cells #[Value.int .i64 a.1, Value.int .i64 a.2] 24)) (Obj.cells #[Value.int .i64 b.1, Value.int .i64 b.2] 24) := ⟨_, rfl⟩
  have x0 : Ext H G0 := by rw [hG0]; exact step (Ext.push _) (Ext.push _) (Nat.le_refl _)
  have ca : G0[H.size]? = some (Obj.cells #[Value.int .i64 a.1, Value.int .i64 a.2] 24) := by rw [hG0, push_old (by simp)]; exact push_new
  have cb : G0[H.size + 1]? = some (Obj.cells #[Value.int .i64 b.1, Value.int .i64 b.2] 24) := by
    have := @push_new (Array.push H (Obj.cells #[Value.int .i64 a.1, Value.int .i64 a.2] 24)) (Obj.cells #[Value.int .i64 b.1, Value.int .i64 b.2] 24)
    rw [Array.size_push] at this
    rw [hG0]; exact this
  have lb : H.size + 1 < G0.size := by rw [hG0]; simp
  rw [← hG0]
  clear hG0
  refine FunI.by (F11 _) ?_
  rintro _ G1 ⟨rfl, y⟩
  replace x0 := step x0 y (Nat.le_refl _)
  replace ca := (y.get _ (by omega)).trans ca
  replace cb := (y.get _ lb).trans cb
  replace lb := Nat.lt_of_lt_of_le lb y.size
  clear y
  by_cases hlen : 3000 < ps.length
  · have c1 : (3000 : Int) < ps.length := by omega
    simp only [go_sem, ↓reduceIte, Nat.reduceEqDiff, Nat.reduceLeDiff, Nat.reduceAdd, Nat.reduceMul, Nat.reduceSub, Nat.reduceBEq, Nat.reduceGT, Nat.reduceLT, Int.reduceLE, Int.reduceLT, Int.reduceNeg, reduceCtorEq, c1]
    exact x0
  have c1 : ¬ (3000 : Int) < ps.length := by omega
  have ha0 : hget G1 H.size 0 = some (.int .i64 a.1) := by rw [hget_cells ca]; rfl
  have ha1 : hget G1 H.size 1 = some (.int .i64 a.2) := by rw [hget_cells ca]; rfl
  have hb0 : hget G1 (H.size + 1) 0 = some (.int .i64 b.1) := by rw [hget_cells cb]; rfl
  have hb1 : hget G1 (H.size + 1) 1 = some (.int .i64 b.2) := by rw [hget_cells cb]; rfl
  simp only [go_sem, ↓reduceIte, Nat.reduceEqDiff, Nat.reduceLeDiff, Nat.reduceAdd, Nat.reduceMul, Nat.reduceSub, Nat.reduceBEq, Nat.reduceGT, Nat.reduceLT, Int.reduceLE, Int.reduceLT, Int.reduceNeg, reduceCtorEq, c1, Array.size_push, ha0, ha1, hb0, hb1, Option.bind_some]
  refine FunI.by (F12 a b _) ?_
  rintro _ G2 ⟨rfl, y⟩
  simp only [go_sem, ↓reduceIte, Nat.reduceEqDiff, Nat.reduceLeDiff, Nat.reduceAdd, Nat.reduceMul, Nat.reduceSub, Nat.reduceBEq, Nat.reduceGT, Nat.reduceLT, Int.reduceLE, Int.reduceLT, Int.reduceNeg, reduceCtorEq, ha0, ha1, hb0, hb1, Option.bind_some]
  refine ⟨y, ?_⟩
  refine FunI.by (F13 a b _) ?_
  rintro _ G3 ⟨rfl, y2⟩
  replace y := y.trans (y2.mono y.size)
  clear y2 ha0 ha1 hb0 hb1
  replace x0 := step x0 y (Nat.le_refl _)
  replace ca := (y.get _ (by omega)).trans ca
  replace lb := Nat.lt_of_lt_of_le lb y.size
  have la : H.size < G3.size := by omega
  clear cb
  simp only [go_sem, ↓reduceIte, Nat.reduceEqDiff, Nat.reduceLeDiff, Nat.reduceAdd, Nat.reduceMul, Nat.reduceSub, Nat.reduceBEq, Nat.reduceGT, Nat.reduceLT, Int.reduceLE, Int.reduceLT, Int.reduceNeg, reduceCtorEq, decide_true, beq_self_eq_true]
  refine ⟨y, ?_⟩
  clear y
  refine FunI.by (F14 _ ps _ (prs_ext hv x0) (by omega)) ?_
  rintro m G2 ⟨om, y⟩
  replace om := om.mono x0.size
  replace x0 := step x0 y (Nat.le_refl _)
  replace ca := (y.get _ la).trans ca
  replace la := Nat.lt_of_lt_of_le la y.size
  clear y
  simp only [go_sem, ↓reduceIte, Nat.reduceEqDiff, Nat.reduceLeDiff, Nat.reduceAdd, Nat.reduceMul, Nat.reduceSub, Nat.reduceBEq, Nat.reduceGT, Nat.reduceLT, Int.reduceLE, Int.reduceLT, Int.reduceNeg, reduceCtorEq]
  refine FunI.by (F16 _ ps _ om.prs (by omega)) ?_
  rintro v3 G3 ⟨o3, y⟩
  replace om := om.ext y
  replace x0 := step x0 y (Nat.le_refl _)
  replace ca := (y.get _ la).trans ca
  replace la := Nat.lt_of_lt_of_le la y.size
  clear y
  simp only [go_sem, ↓reduceIte, Nat.reduceEqDiff, Nat.reduceLeDiff, Nat.reduceAdd, Nat.reduceMul, Nat.reduceSub, Nat.reduceBEq, Nat.reduceGT, Nat.reduceLT, Int.reduceLE, Int.reduceLT, Int.reduceNeg, reduceCtorEq]
  refine FunI.by (F17 _ ps _ (prs_ext hv x0) (by omega)) ?_
  rintro v4 G4 ⟨o4, y⟩
  replace om := om.ext y
  replace o3 := o3.ext y
  replace x0 := step x0 y (Nat.le_refl _)
  replace ca := (y.get _ la).trans ca
  replace la := Nat.lt_of_lt_of_le la y.size
  clear y
  simp only [go_sem, ↓reduceIte, Nat.reduceEqDiff, Nat.reduceLeDiff, Nat.reduceAdd, Nat.reduceMul, Nat.reduceSub, Nat.reduceBEq, Nat.reduceGT, Nat.reduceLT, Int.reduceLE, Int.reduceLT, Int.reduceNeg, reduceCtorEq]
  refine FunI.by (F15 _ _ (sortP ps) (sortP ps) _ (Own2.sl o3) (prs_own o4) (by have := sortP_len ps; omega)) ?_
  rintro _ _ ⟨rfl, rfl⟩
  clear o3 o4
  simp only [go_sem, ↓reduceIte, Nat.reduceEqDiff, Nat.reduceLeDiff, Nat.reduceAdd, Nat.reduceMul, Nat.reduceSub, Nat.reduceBEq, Nat.reduceGT, Nat.reduceLT, Int.reduceLE, Int.reduceLT, Int.reduceNeg, reduceCtorEq, decide_true]
  have ga0 : hget G4 H.size 0 = some (.int .i64 a.1) := by rw [hget_cells ca]; rfl
  have ga1 : hget G4 H.size 1 = some (.int .i64 a.2) := by rw [hget_cells ca]; rfl
  by_cases hn : 0 < ps.length
  case' pos =>
    have c2 : (0 : Int) < ps.length := by omega
    have c3 : ¬ (ps.length : Int) = 0 := by omega
    obtain ⟨k, hk, m1, m2, m3, m4⟩ := modn i ps.length hn (by omega)
    have z0 : (0 : Int) ≤ k := by omega
    have z1 : (k : Int) < ps.length := by omega
    obtain ⟨g, cap, rfl, _⟩ := id om
    obtain ⟨s1, s2, s3⟩ := om.store hk a
    simp only [go_sem, ↓reduceIte, Nat.reduceEqDiff, Nat.reduceLeDiff, Nat.reduceAdd, Nat.reduceMul, Nat.reduceSub, Nat.reduceBEq, Nat.reduceGT, Nat.reduceLT, Int.reduceLE, Int.reduceLT, Int.reduceNeg, reduceCtorEq, c2, c3, m1, m2, m3, m4, z0, z1, ga0, ga1, s1, ne_eq, not_false_eq_true, Int.toNat_natCast, Option.bind_some]
    refine ⟨rfl, ?_⟩
    replace x0 := x0.trans (s3.upto (B := H.size) (fun j hj => by cases hj; exact om.ge _ rfl) x0.size)
    replace om := s2
    clear s1 s2 s3 ga0 ga1 ca la
    obtain ⟨G5, e5⟩ : ∃ G, G = hput G4 g (k * 2) [Value.int .i64 a.1, Value.int .i64 a.2] := ⟨_, rfl⟩
    rw [← e5] at om x0 ⊢
    obtain ⟨qs, eq, hl2⟩ : ∃ qs, qs = ps.set k a ∧ qs.length ≤ 3000 := ⟨_, rfl, by rw [List.length_set]; omega⟩
    rw [← eq] at om
  case' neg =>
    have c2 : ¬ (0 : Int) < ps.length := by omega
    simp only [go_sem, ↓reduceIte, Nat.reduceEqDiff, Nat.reduceLeDiff, Nat.reduceAdd, Nat.reduceMul, Nat.reduceSub, Nat.reduceBEq, Nat.reduceGT, Nat.reduceLT, Int.reduceLE, Int.reduceLT, Int.reduceNeg, reduceCtorEq, c2]
    clear ga0 ga1 ca la
    obtain ⟨G5, e5⟩ : ∃ G, G = G4 := ⟨_, rfl⟩
    rw [← e5] at om x0 ⊢
    obtain ⟨qs, eq, hl2⟩ : ∃ qs, qs = ps ∧ qs.length ≤ 3000 := ⟨_, rfl, by omega⟩
    rw [← eq] at om
  all_goals
    refine FunI.by (F18 _ qs _ om.prs (by omega)) ?_
    rintro w G6 ⟨ow, y⟩
    replace om := om.ext y
    replace x0 := step x0 y (Nat.le_refl _)
    clear y
    simp only [go_sem, ↓reduceIte, Nat.reduceEqDiff, Nat.reduceLeDiff, Nat.reduceAdd, Nat.reduceMul, Nat.reduceSub, Nat.reduceBEq, Nat.reduceGT, Nat.reduceLT, Int.reduceLE, Int.reduceLT, Int.reduceNeg, reduceCtorEq]
    refine FunI.by (F16 _ qs _ om.prs (by omega)) ?_
    rintro v7 G7 ⟨o7, y⟩
    replace om := om.ext y
    replace ow := ow.ext y
    replace x0 := step x0 y (Nat.le_refl _)
    clear y
    simp only [go_sem, ↓reduceIte, Nat.reduceEqDiff, Nat.reduceLeDiff, Nat.reduceAdd, Nat.reduceMul, Nat.reduceSub, Nat.reduceBEq, Nat.reduceGT, Nat.reduceLT, Int.reduceLE, Int.reduceLT, Int.reduceNeg, reduceCtorEq]
    refine FunI.by (F17 _ qs _ (prs_own ow) (by omega)) ?_
    rintro v8 G8 ⟨o8, y⟩
    replace om := om.ext y
    replace ow := ow.ext y
    replace o7 := o7.ext y
    replace x0 := step x0 y (Nat.le_refl _)
    clear y
    simp only [go_sem, ↓reduceIte, Nat.reduceEqDiff, Nat.reduceLeDiff, Nat.reduceAdd, Nat.reduceMul, Nat.reduceSub, Nat.reduceBEq, Nat.reduceGT, Nat.reduceLT, Int.reduceLE, Int.reduceLT, Int.reduceNeg, reduceCtorEq]
    refine FunI.by (F15 _ _ (sortP qs) (sortP qs) _ (Own2.sl o7) (prs_own o8) (by have := sortP_len qs; omega)) ?_
    rintro _ _ ⟨rfl, rfl⟩
    clear o7 o8
    simp only [go_sem, ↓reduceIte, Nat.reduceEqDiff, Nat.reduceLeDiff, Nat.reduceAdd, Nat.reduceMul, Nat.reduceSub, Nat.reduceBEq, Nat.reduceGT, Nat.reduceLT, Int.reduceLE, Int.reduceLT, Int.reduceNeg, reduceCtorEq, decide_true]
    refine FunI.by (F19 _ _ qs _ H.size om (prs_own ow) x0.size (by omega)) ?_
    rintro _ G9 ⟨rfl, y⟩
    simp only [go_sem, ↓reduceIte, Nat.reduceEqDiff, Nat.reduceLeDiff, Nat.reduceAdd, Nat.reduceMul, Nat.reduceSub, Nat.reduceBEq, Nat.reduceGT, Nat.reduceLT, Int.reduceLE, Int.reduceLT, Int.reduceNeg, reduceCtorEq]
    exact x0.trans y
end Go.Proofs.Ytcgejfmbhpmjfaa
