/- The law RunsEncodes, over heaps. -/
import Derived.Test.YtcgejfmbhpmjfaaVFst
import Derived.Test.YtcgejfmbhpmjfaaVCodeL
set_option linter.unusedSimpArgs false
set_option linter.unusedVariables false
set_option maxRecDepth 20000
namespace Go.Proofs.Ytcgejfmbhpmjfaa
open Go Go.V
-- 4: pith/pithlaw11.RunsEncodes
-- 11: pith/pithlaw11.first
-- 14: pith/pithlaw11.room
-- 19: pith/pithlaw11.still
-- 23: pith/pithlaw11.num
-- 18: pith/pithref.Pairs
-- 20: pith/runs.Encode
-- 21: pith/pithref11.Encode
-- 22: pith/pithref.SameBytes
-- 5: uint8
-- 24: pith/api.Pair
-- 22: []api.Pair
/-- (i%n+n)%n is a place among n. -/
theorem modn (i : Int) (n : Nat) (hn : 0 < n) (hm : n ≤ 4096093020000) : ∃ k : Nat, k < n ∧ (Int.tmod (Int.tmod i n + n) n) = (k : Int) ∧ IntKind.i64.wrap (Int.tmod i n) = Int.tmod i n ∧ IntKind.i64.wrap (Int.tmod i n + n) = Int.tmod i n + n ∧ IntKind.i64.wrap (k : Int) = (k : Int) := by
  have h1 := Int.tmod_lt_of_pos i (show (0 : Int) < n by omega)
  have h2 : -(n : Int) < Int.tmod i n := by
    rcases Int.lt_or_le i 0 with h | h
    · have e : Int.tmod i n = - Int.tmod (-i) n := by rw [Int.neg_tmod, Int.neg_neg]
      have := Int.tmod_lt_of_pos (-i) (show (0 : Int) < n by omega)
      omega
    · have := Int.tmod_nonneg (n : Int) h
      omega
  have h3 := Int.tmod_lt_of_pos (Int.tmod i n + n) (show (0 : Int) < n by omega)
  have h4 : 0 ≤ Int.tmod (Int.tmod i n + n) n := Int.tmod_nonneg _ (by omega)
  refine ⟨(Int.tmod (Int.tmod i n + n) n).toNat, by omega, by omega, w64_id (by omega) (by omega), w64_id (by omega) (by omega), w64_id (by omega) (by omega)⟩
theorem encR_cases (ps : List Pr) : (∃ e, encR ps = (none, e) ∧ e ≠ 0) ∨ ∃ ys, encR ps = (some ys, 0) := by
  unfold encR
  split
  · exact .inl ⟨110, rfl, by decide⟩
  · split
    · exact .inl ⟨42, rfl, by decide⟩
    · split
      · exact .inl ⟨111, rfl, by decide⟩
      · exact .inr ⟨_, rfl⟩
theorem encA_byt {ps : List Pr} : Byt ((encR ps).1.getD []) := by
  rcases encR_cases ps with ⟨e, h, _⟩ | ⟨ys, h⟩
  · rw [h]; unfold Byt; simp
  · rw [h]; exact enc_byt h
set_option maxHeartbeats 1600000 in
theorem F4 (v : Value) (ps : List Pr) (a : Pr) (i : Int) (H : Heap) (hv : Prs H v ps) :
    Fun Try.prog 4 #[v, pv a, .int .i64 i] H (fun r H' => r = .bool true ∧ Ext H H') := by
  obtain ⟨ad, c, rfl⟩ := prs_form hv
  refine fun_of mixed (args := [_, _, _]) Try.func4 Try.ntmps4 b4 r4 rfl ?_
  simp only [go_sem, ↓reduceIte, Nat.reduceEqDiff, Nat.reduceLeDiff, Nat.reduceAdd, Nat.reduceMul, Nat.reduceSub, Nat.reduceBEq, Nat.reduceGT, Nat.reduceLT, Int.reduceLE, Int.reduceLT, Int.reduceNeg, reduceCtorEq, pv]
  obtain ⟨G0, hG0⟩ : ∃ G, G = Array.push H (Obj.cells #[Value.int .i64 a.1, Value.int .i64 a.2] 24) := ⟨_, rfl⟩
  have x0 : Ext H G0 := by rw [hG0]; exact Ext.push _
  have ca : G0[H.size]? = some (Obj.cells #[Value.int .i64 a.1, Value.int .i64 a.2] 24) := by rw [hG0]; exact push_new
  have la : H.size < G0.size := by rw [hG0]; simp
  rw [← hG0]
  clear hG0
  refine FunI.by (F11 _) ?_
  rintro _ G1 ⟨rfl, y⟩
  replace x0 := step x0 y (Nat.le_refl _)
  replace ca := (y.get _ la).trans ca
  replace la := Nat.lt_of_lt_of_le la y.size
  clear y
  by_cases hlen : 3000 < ps.length
  · have c1 : (3000 : Int) < ps.length := by omega
    simp only [go_sem, ↓reduceIte, Nat.reduceEqDiff, Nat.reduceLeDiff, Nat.reduceAdd, Nat.reduceMul, Nat.reduceSub, Nat.reduceBEq, Nat.reduceGT, Nat.reduceLT, Int.reduceLE, Int.reduceLT, Int.reduceNeg, reduceCtorEq, c1]
    exact x0
  have c1 : ¬ (3000 : Int) < ps.length := by omega
  simp only [go_sem, ↓reduceIte, Nat.reduceEqDiff, Nat.reduceLeDiff, Nat.reduceAdd, Nat.reduceMul, Nat.reduceSub, Nat.reduceBEq, Nat.reduceGT, Nat.reduceLT, Int.reduceLE, Int.reduceLT, Int.reduceNeg, reduceCtorEq, c1]
  refine FunI.by (F14 _ ps _ (prs_ext hv x0) (by omega)) ?_
  rintro m G2 ⟨om, y⟩
  replace om : Room G2 H.size m ps := by
    obtain ⟨g, cap, h1, h2, h3⟩ := om
    exact ⟨g, cap, h1, h2, h3.mono x0.size⟩
  replace x0 := step x0 y (Nat.le_refl _)
  replace ca := (y.get _ la).trans ca
  replace la := Nat.lt_of_lt_of_le la y.size
  clear y
  simp only [go_sem, ↓reduceIte, Nat.reduceEqDiff, Nat.reduceLeDiff, Nat.reduceAdd, Nat.reduceMul, Nat.reduceSub, Nat.reduceBEq, Nat.reduceGT, Nat.reduceLT, Int.reduceLE, Int.reduceLT, Int.reduceNeg, reduceCtorEq]
  refine FunI.by (F20 _ ps _ om.prs) ?_
  rintro _ G3 ⟨y, v3, rfl, o3⟩
  replace om := om.ext y
  replace x0 := step x0 y (Nat.le_refl _)
  replace ca := (y.get _ la).trans ca
  replace la := Nat.lt_of_lt_of_le la y.size
  clear y
  simp only [go_sem, ↓reduceIte, Nat.reduceEqDiff, Nat.reduceLeDiff, Nat.reduceAdd, Nat.reduceMul, Nat.reduceSub, Nat.reduceBEq, Nat.reduceGT, Nat.reduceLT, Int.reduceLE, Int.reduceLT, Int.reduceNeg, reduceCtorEq]
  refine FunI.by (F21 _ ps _ (prs_ext hv x0)) ?_
  rintro _ G4 ⟨y, v4, rfl, o4⟩
  replace om := om.ext y
  replace o3 := o3.ext y
  replace x0 := step x0 y (Nat.le_refl _)
  replace ca := (y.get _ la).trans ca
  replace la := Nat.lt_of_lt_of_le la y.size
  clear y
  simp only [go_sem, ↓reduceIte, Nat.reduceEqDiff, Nat.reduceLeDiff, Nat.reduceAdd, Nat.reduceMul, Nat.reduceSub, Nat.reduceBEq, Nat.reduceGT, Nat.reduceLT, Int.reduceLE, Int.reduceLT, Int.reduceNeg, reduceCtorEq]
  refine FunI.by (F22 _ _ _ _ _ o3.sl o4.sl encA_byt encA_byt) ?_
  rintro _ _ ⟨rfl, rfl⟩
  clear o3 o4
  simp only [go_sem, ↓reduceIte, Nat.reduceEqDiff, Nat.reduceLeDiff, Nat.reduceAdd, Nat.reduceMul, Nat.reduceSub, Nat.reduceBEq, Nat.reduceGT, Nat.reduceLT, Int.reduceLE, Int.reduceLT, Int.reduceNeg, reduceCtorEq, decide_true]
  refine FunI.by (F23 _ _) ?_
  rintro _ _ ⟨rfl, rfl⟩
  simp only [go_sem, ↓reduceIte, Nat.reduceEqDiff, Nat.reduceLeDiff, Nat.reduceAdd, Nat.reduceMul, Nat.reduceSub, Nat.reduceBEq, Nat.reduceGT, Nat.reduceLT, Int.reduceLE, Int.reduceLT, Int.reduceNeg, reduceCtorEq, decide_true]
  have ga0 : hget G4 H.size 0 = some (.int .i64 a.1) := by rw [hget_cells ca]; rfl
  have ga1 : hget G4 H.size 1 = some (.int .i64 a.2) := by rw [hget_cells ca]; rfl
  by_cases hn : 0 < ps.length
  case' pos =>
    have c2 : (0 : Int) < ps.length := by omega
    have c3 : ¬ (ps.length : Int) = 0 := by omega
    obtain ⟨k, hk, m1, m2, m3, m4⟩ := modn i ps.length hn (by omega)
    have z0 : (0 : Int) ≤ k := by omega
    have z1 : (k : Int) < ps.length := by omega
    obtain ⟨g, cap, rfl, _⟩ := id om
    obtain ⟨s1, s2, s3⟩ := om.store hk a
    simp only [go_sem, ↓reduceIte, Nat.reduceEqDiff, Nat.reduceLeDiff, Nat.reduceAdd, Nat.reduceMul, Nat.reduceSub, Nat.reduceBEq, Nat.reduceGT, Nat.reduceLT, Int.reduceLE, Int.reduceLT, Int.reduceNeg, reduceCtorEq, c2, c3, m1, m2, m3, m4, z0, z1, ga0, ga1, s1, ne_eq, not_false_eq_true, Int.toNat_natCast, Option.bind_some]
    refine ⟨rfl, ?_⟩
    replace x0 := x0.trans (s3.upto (B := H.size) (fun j hj => by cases hj; exact om.ge _ rfl) x0.size)
    replace om := s2
    clear s1 s2 s3 ga0 ga1 ca la
    obtain ⟨G5, e5⟩ : ∃ G, G = hput G4 g (k * 2) [Value.int .i64 a.1, Value.int .i64 a.2] := ⟨_, rfl⟩
    rw [← e5] at om x0 ⊢
    obtain ⟨qs, eq, hl2⟩ : ∃ qs, qs = ps.set k a ∧ qs.length ≤ 3000 := ⟨_, rfl, by rw [List.length_set]; omega⟩
    rw [← eq] at om
  case' neg =>
    have c2 : ¬ (0 : Int) < ps.length := by omega
    simp only [go_sem, ↓reduceIte, Nat.reduceEqDiff, Nat.reduceLeDiff, Nat.reduceAdd, Nat.reduceMul, Nat.reduceSub, Nat.reduceBEq, Nat.reduceGT, Nat.reduceLT, Int.reduceLE, Int.reduceLT, Int.reduceNeg, reduceCtorEq, c2]
    clear ga0 ga1 ca la
    obtain ⟨G5, e5⟩ : ∃ G, G = G4 := ⟨_, rfl⟩
    rw [← e5] at om x0 ⊢
    obtain ⟨qs, eq, hl2⟩ : ∃ qs, qs = ps ∧ qs.length ≤ 3000 := ⟨_, rfl, by omega⟩
    rw [← eq] at om
  all_goals
    refine FunI.by (F18 _ qs _ om.prs (by omega)) ?_
    rintro w G6 ⟨ow, y⟩
    replace om := om.ext y
    replace x0 := step x0 y (Nat.le_refl _)
    clear y
    simp only [go_sem, ↓reduceIte, Nat.reduceEqDiff, Nat.reduceLeDiff, Nat.reduceAdd, Nat.reduceMul, Nat.reduceSub, Nat.reduceBEq, Nat.reduceGT, Nat.reduceLT, Int.reduceLE, Int.reduceLT, Int.reduceNeg, reduceCtorEq]
    refine FunI.by (F20 _ qs _ om.prs) ?_
    rintro _ G7 ⟨y, v7, rfl, o7⟩
    replace om := om.ext y
    replace ow := ow.ext y
    replace x0 := step x0 y (Nat.le_refl _)
    clear y
    simp only [go_sem, ↓reduceIte, Nat.reduceEqDiff, Nat.reduceLeDiff, Nat.reduceAdd, Nat.reduceMul, Nat.reduceSub, Nat.reduceBEq, Nat.reduceGT, Nat.reduceLT, Int.reduceLE, Int.reduceLT, Int.reduceNeg, reduceCtorEq]
    refine FunI.by (F21 _ qs _ (prs_own ow)) ?_
    rintro _ G8 ⟨y, v8, rfl, o8⟩
    replace om := om.ext y
    replace ow := ow.ext y
    replace o7 := o7.ext y
    replace x0 := step x0 y (Nat.le_refl _)
    clear y
    simp only [go_sem, ↓reduceIte, Nat.reduceEqDiff, Nat.reduceLeDiff, Nat.reduceAdd, Nat.reduceMul, Nat.reduceSub, Nat.reduceBEq, Nat.reduceGT, Nat.reduceLT, Int.reduceLE, Int.reduceLT, Int.reduceNeg, reduceCtorEq]
    refine FunI.by (F22 _ _ _ _ _ o7.sl o8.sl encA_byt encA_byt) ?_
    rintro _ _ ⟨rfl, rfl⟩
    clear o7 o8
    simp only [go_sem, ↓reduceIte, Nat.reduceEqDiff, Nat.reduceLeDiff, Nat.reduceAdd, Nat.reduceMul, Nat.reduceSub, Nat.reduceBEq, Nat.reduceGT, Nat.reduceLT, Int.reduceLE, Int.reduceLT, Int.reduceNeg, reduceCtorEq, decide_true]
    refine FunI.by (F23 _ _) ?_
    rintro _ _ ⟨rfl, rfl⟩
    simp only [go_sem, ↓reduceIte, Nat.reduceEqDiff, Nat.reduceLeDiff, Nat.reduceAdd, Nat.reduceMul, Nat.reduceSub, Nat.reduceBEq, Nat.reduceGT, Nat.reduceLT, Int.reduceLE, Int.reduceLT, Int.reduceNeg, reduceCtorEq, decide_true]
    refine FunI.by (F19 _ _ qs _ H.size om (prs_own ow) x0.size (by omega)) ?_
    rintro _ G9 ⟨rfl, y⟩
    simp only [go_sem, ↓reduceIte, Nat.reduceEqDiff, Nat.reduceLeDiff, Nat.reduceAdd, Nat.reduceMul, Nat.reduceSub, Nat.reduceBEq, Nat.reduceGT, Nat.reduceLT, Int.reduceLE, Int.reduceLT, Int.reduceNeg, reduceCtorEq]
    exact x0.trans y
end Go.Proofs.Ytcgejfmbhpmjfaa
