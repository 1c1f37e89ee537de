/- Copies of lists and bits; which checks may be encoded. -/
import Derived.Test.YtbdclcdoiabapaaDoorVSame
set_option linter.unusedSimpArgs false
set_option linter.unusedVariables false
namespace Go.Proofs.YtbdclcdoiabapaaDoor
open Go Go.V
-- 19: pith/pithref.ByteLists
-- 28: pith/pithref.Bools
-- 18: pith/pithref.Bytes
-- 16: pith/pithlaw18.num
-- 10: pith/pithlaw18.few
-- 17: pith/pithlaw18.short
-- 24: pith/ckpt.may
-- 29: pith/pithref18.may
-- 26: []bool
-- 4: bool
-- 28: pith/api.Check
-- 30: []uint8
-- 31: [][]uint8
-- 5: uint8
-- 25: []int
-- 3: int

theorem take_succ_getD {α : Type} {xs : List α} {i : Nat} (h : i < xs.length) (d : α) : xs.take (i + 1) = xs.take i ++ [xs.getD i d] := by
  rw [List.take_succ_eq_append_getElem h]
  simp [List.getD_eq_getElem?_getD, List.getElem?_eq_getElem h]

theorem F16 (n : Int) (H : Heap) : Fun Tryd.prog 16 #[.int .i64 n] H (fun r H' => r = .int .i64 n ∧ H = H') := by
  refine fun_of mixed (args := [_]) Tryd.func16 Tryd.ntmps16 b16 r16 rfl ?_
  simp only [go_sem, ↓reduceIte, Nat.reduceEqDiff, Nat.reduceLeDiff, Nat.reduceAdd, Nat.reduceMul, Nat.reduceSub, Nat.reduceBEq, Nat.reduceGT, Nat.reduceLT, Int.reduceLE, Int.reduceLT, Int.reduceNeg, reduceCtorEq]

theorem F10 (v : Value) (p : Int) (xs : List Int) (ds : List Bool) (H : Heap) (hv : Chk H 3 4 v p xs ds) :
    Fun Tryd.prog 10 #[v] H (fun r H' => r = .bool (decide (xs.length ≤ 5000 ∧ ds.length ≤ 5000)) ∧ Ext H H') := by
  obtain ⟨a, b, rfl, ha, hb⟩ := hv
  obtain ⟨a1, a2, rfl⟩ := ha.form
  obtain ⟨b1, b2, rfl⟩ := hb.form
  have x1 : Ext H (H.push (.cells #[.int .i64 p, .slice a1 xs.length a2, .slice b1 ds.length b2] 28)) := Ext.push _
  refine fun_of mixed (args := [_]) Tryd.func10 Tryd.ntmps10 b10 r10 rfl ?_
  have e1 : ((xs.length : Int) ≤ 5000) = (xs.length ≤ 5000) := by simp; omega
  have e2 : ((ds.length : Int) ≤ 5000) = (ds.length ≤ 5000) := by simp; omega
  by_cases h1 : xs.length ≤ 5000 <;> by_cases h2 : ds.length ≤ 5000 <;> simp only [go_sem, ↓reduceIte, Nat.reduceEqDiff, Nat.reduceLeDiff, Nat.reduceAdd, Nat.reduceMul, Nat.reduceSub, Nat.reduceBEq, Nat.reduceGT, Nat.reduceLT, Int.reduceLE, Int.reduceLT, Int.reduceNeg, reduceCtorEq, e1, e2, h1, h2, x1, and_self, and_false, false_and]

theorem F28 (v : Value) (xs : List Bool) (H : Heap) (hv : Bls H 4 v xs) (hl : xs.length ≤ 17592186040000) :
    Fun Tryd.prog 28 #[v] H (fun v' H' => Own H' H.size 4 1 v' (xs.map .bool) ∧ Ext H H') := by
  obtain ⟨a, c, rfl⟩ := hv.form
  refine fun_of mixed (args := [_]) Tryd.func28 Tryd.ntmps28 b28 r28 rfl ?_
  simp only [go_sem, ↓reduceIte, Nat.reduceEqDiff, Nat.reduceLeDiff, Nat.reduceAdd, Nat.reduceMul, Nat.reduceSub, Nat.reduceBEq, Nat.reduceGT, Nat.reduceLT, Int.reduceLE, Int.reduceLT, Int.reduceNeg, reduceCtorEq]
  refine ⟨by omega, by omega, by omega, ?_⟩
  refine LoopI.by mixed (fun ρ H' => ∃ (i : Nat) (v' : Value), ρ 0 = .slice a xs.length c ∧ ρ 3 = v' ∧ ρ 4 = .int .i64 i ∧ i ≤ xs.length ∧ Own H' H.size 4 1 v' ((xs.take i).map .bool) ∧ Ext H H') (fun ρ _ => xs.length - (iof (ρ 4)).toNat) ?_ ?_
  · refine ⟨0, _, by simp only [go_sem, ↓reduceIte, Nat.reduceEqDiff, Nat.reduceLeDiff, Nat.reduceAdd, Nat.reduceMul, Nat.reduceSub, Nat.reduceBEq, Nat.reduceGT, Nat.reduceLT, Int.reduceLE, Int.reduceLT, Int.reduceNeg, reduceCtorEq], rfl, by simp only [go_sem, ↓reduceIte, Nat.reduceEqDiff, Nat.reduceLeDiff, Nat.reduceAdd, Nat.reduceMul, Nat.reduceSub, Nat.reduceBEq, Nat.reduceGT, Nat.reduceLT, Int.reduceLE, Int.reduceLT, Int.reduceNeg, reduceCtorEq]; rfl, by omega, ?_, Ext.push _⟩
    have := Own.made (H := H) (B := H.size) (e := 4) (sz := 1) (l := 0) (c := xs.length) (z := .bool false) (Nat.le_refl _) (by omega) (by omega)
    rw [Nat.mul_one, Nat.zero_mul, List.take_zero] at this
    simp only [go_sem, ↓reduceIte, Nat.reduceEqDiff, Nat.reduceLeDiff, Nat.reduceAdd, Nat.reduceMul, Nat.reduceSub, Nat.reduceBEq, Nat.reduceGT, Nat.reduceLT, Int.reduceLE, Int.reduceLT, Int.reduceNeg, reduceCtorEq]
    exact this
  rintro ρ H' ⟨i, v', e0, e3, e4, hi, ho, hx⟩
  by_cases hlt : i < xs.length
  · obtain ⟨b, o, rfl⟩ := hv.at hlt
    have g1 := (hv.ext hx).get hlt
    have c1 : (i : Int) < xs.length := by omega
    have c0 : (0 : Int) ≤ i := by omega
    simp only [go_sem, ↓reduceIte, Nat.reduceEqDiff, Nat.reduceLeDiff, Nat.reduceAdd, Nat.reduceMul, Nat.reduceSub, Nat.reduceBEq, Nat.reduceGT, Nat.reduceLT, Int.reduceLE, Int.reduceLT, Int.reduceNeg, reduceCtorEq, c28_L0, e0, e3, e4, c0, c1, g1]
    refine RunI.by (append_lit ty26 ty4 rfl (by decide) ho (ys := [.bool (xs.getD i false)]) (m := 1) rfl rfl (n := i + 1) (by simp; omega) (by omega) (by omega) hx.size) ?_
    rintro v2 H2 ⟨h1, h2, _⟩
    simp only [go_sem, ↓reduceIte, Nat.reduceEqDiff, Nat.reduceLeDiff, Nat.reduceAdd, Nat.reduceMul, Nat.reduceSub, Nat.reduceBEq, Nat.reduceGT, Nat.reduceLT, Int.reduceLE, Int.reduceLT, Int.reduceNeg, reduceCtorEq, e4]
    rw [w64_id (by omega) (by omega)]
    refine ⟨Hold.mk ⟨i + 1, v2, by simp only [go_sem, ↓reduceIte, Nat.reduceEqDiff, Nat.reduceLeDiff, Nat.reduceAdd, Nat.reduceMul, Nat.reduceSub, Nat.reduceBEq, Nat.reduceGT, Nat.reduceLT, Int.reduceLE, Int.reduceLT, Int.reduceNeg, reduceCtorEq, e0], by simp only [go_sem, ↓reduceIte, Nat.reduceEqDiff, Nat.reduceLeDiff, Nat.reduceAdd, Nat.reduceMul, Nat.reduceSub, Nat.reduceBEq, Nat.reduceGT, Nat.reduceLT, Int.reduceLE, Int.reduceLT, Int.reduceNeg, reduceCtorEq], by simp only [go_sem, ↓reduceIte, Nat.reduceEqDiff, Nat.reduceLeDiff, Nat.reduceAdd, Nat.reduceMul, Nat.reduceSub, Nat.reduceBEq, Nat.reduceGT, Nat.reduceLT, Int.reduceLE, Int.reduceLT, Int.reduceNeg, reduceCtorEq]; rfl, by omega, ?_, hx.trans (h2.upto ho hx.size)⟩, by omega⟩
    rw [take_succ_getD hlt false, List.map_append]
    exact h1
  · have c1 : ¬ (i : Int) < xs.length := by omega
    simp only [go_sem, ↓reduceIte, Nat.reduceEqDiff, Nat.reduceLeDiff, Nat.reduceAdd, Nat.reduceMul, Nat.reduceSub, Nat.reduceBEq, Nat.reduceGT, Nat.reduceLT, Int.reduceLE, Int.reduceLT, Int.reduceNeg, reduceCtorEq, c28_L0, e0, e3, e4, c1]
    have : i = xs.length := by omega
    subst this
    rw [List.take_of_length_le (Nat.le_refl _)] at ho
    exact ⟨ho, hx⟩

theorem F17 (v : Value) (xs : List (List Int)) (H : Heap) (hv : Lists H 30 5 v xs) (hl : xs.length ≤ 140737488350000) (hl2 : ∀ l ∈ xs, l.length ≤ 140737488350000) :
    Fun Tryd.prog 17 #[v] H (fun r H' => r = .bool (decide (xs.length < 100 ∧ ∀ l ∈ xs, l.length ≤ 5000)) ∧ H = H') := by
  obtain ⟨a, c, rfl⟩ := hv.form
  refine fun_of mixed (args := [_]) Tryd.func17 Tryd.ntmps17 b17 r17 rfl ?_
  simp only [go_sem, ↓reduceIte, Nat.reduceEqDiff, Nat.reduceLeDiff, Nat.reduceAdd, Nat.reduceMul, Nat.reduceSub, Nat.reduceBEq, Nat.reduceGT, Nat.reduceLT, Int.reduceLE, Int.reduceLT, Int.reduceNeg, reduceCtorEq]
  refine LoopI.by mixed (fun ρ H' => H = H' ∧ ∃ (i : Nat) (n : Int), ρ 0 = .slice a xs.length c ∧ ρ 3 = .int .i64 n ∧ ρ 4 = .int .i64 i ∧ i ≤ xs.length ∧ i ≤ 100 ∧ 0 ≤ n ∧ n ≤ 140737488350000 ∧ (n ≤ 5000 ↔ ∀ l ∈ xs.take i, l.length ≤ 5000)) (fun ρ _ => xs.length - (iof (ρ 4)).toNat) ?_ ?_
  · exact ⟨rfl, 0, 0, by simp only [go_sem, ↓reduceIte, Nat.reduceEqDiff, Nat.reduceLeDiff, Nat.reduceAdd, Nat.reduceMul, Nat.reduceSub, Nat.reduceBEq, Nat.reduceGT, Nat.reduceLT, Int.reduceLE, Int.reduceLT, Int.reduceNeg, reduceCtorEq], by simp only [go_sem, ↓reduceIte, Nat.reduceEqDiff, Nat.reduceLeDiff, Nat.reduceAdd, Nat.reduceMul, Nat.reduceSub, Nat.reduceBEq, Nat.reduceGT, Nat.reduceLT, Int.reduceLE, Int.reduceLT, Int.reduceNeg, reduceCtorEq], by simp only [go_sem, ↓reduceIte, Nat.reduceEqDiff, Nat.reduceLeDiff, Nat.reduceAdd, Nat.reduceMul, Nat.reduceSub, Nat.reduceBEq, Nat.reduceGT, Nat.reduceLT, Int.reduceLE, Int.reduceLT, Int.reduceNeg, reduceCtorEq]; rfl, by omega, by omega, by omega, by omega, by simp⟩
  rintro ρ _ ⟨rfl, i, n, e0, e3, e4, hi, hi1, hn0, hn1, hm⟩
  by_cases hlt : i < xs.length
  · have c1 : (i : Int) < xs.length := by omega
    have c0 : (0 : Int) ≤ i := by omega
    by_cases h100 : i < 100
    · obtain ⟨b, o, rfl⟩ := hv.at hlt
      obtain ⟨w1, g1, hw1⟩ := hv.get hlt
      obtain ⟨a1, a2, rfl⟩ := hw1.form
      have hle := hl2 _ (mem_getD hlt [])
      have c2 : (i : Int) < 100 := by omega
      simp only [go_sem, ↓reduceIte, Nat.reduceEqDiff, Nat.reduceLeDiff, Nat.reduceAdd, Nat.reduceMul, Nat.reduceSub, Nat.reduceBEq, Nat.reduceGT, Nat.reduceLT, Int.reduceLE, Int.reduceLT, Int.reduceNeg, reduceCtorEq, c17_L0, e0, e3, e4, c0, c1, c2, g1]
      rw [w64_id (by omega) (by omega)]
      refine ⟨Hold.mk ⟨rfl, i + 1, (if ((xs.getD i []).length : Int) > n then ((xs.getD i []).length : Int) else n), by simp only [go_sem, ↓reduceIte, Nat.reduceEqDiff, Nat.reduceLeDiff, Nat.reduceAdd, Nat.reduceMul, Nat.reduceSub, Nat.reduceBEq, Nat.reduceGT, Nat.reduceLT, Int.reduceLE, Int.reduceLT, Int.reduceNeg, reduceCtorEq, e0], by simp only [go_sem, ↓reduceIte, Nat.reduceEqDiff, Nat.reduceLeDiff, Nat.reduceAdd, Nat.reduceMul, Nat.reduceSub, Nat.reduceBEq, Nat.reduceGT, Nat.reduceLT, Int.reduceLE, Int.reduceLT, Int.reduceNeg, reduceCtorEq], by simp only [go_sem, ↓reduceIte, Nat.reduceEqDiff, Nat.reduceLeDiff, Nat.reduceAdd, Nat.reduceMul, Nat.reduceSub, Nat.reduceBEq, Nat.reduceGT, Nat.reduceLT, Int.reduceLE, Int.reduceLT, Int.reduceNeg, reduceCtorEq]; rfl, by omega, by omega, ?_, ?_, ?_⟩, by omega⟩
      · split <;> omega
      · split <;> omega
      · rw [take_succ_getD hlt []]
        simp only [List.forall_mem_append, List.forall_mem_singleton, ← hm]
        split <;> omega
    · have c2 : ¬ (i : Int) < 100 := by omega
      have c3 : ¬ (xs.length : Int) < 100 := by omega
      have c4 : ¬ xs.length < 100 := by omega
      simp only [go_sem, ↓reduceIte, Nat.reduceEqDiff, Nat.reduceLeDiff, Nat.reduceAdd, Nat.reduceMul, Nat.reduceSub, Nat.reduceBEq, Nat.reduceGT, Nat.reduceLT, Int.reduceLE, Int.reduceLT, Int.reduceNeg, reduceCtorEq, c17_L0, e0, e3, e4, c0, c1, c2, c3, c4, false_and]
  · have c1 : ¬ (i : Int) < xs.length := by omega
    have : i = xs.length := by omega
    subst this
    rw [List.take_of_length_le (Nat.le_refl _)] at hm
    have e1 : ((xs.length : Int) < 100) = (xs.length < 100) := by simp; omega
    by_cases h1 : xs.length < 100
    · simp only [go_sem, ↓reduceIte, Nat.reduceEqDiff, Nat.reduceLeDiff, Nat.reduceAdd, Nat.reduceMul, Nat.reduceSub, Nat.reduceBEq, Nat.reduceGT, Nat.reduceLT, Int.reduceLE, Int.reduceLT, Int.reduceNeg, reduceCtorEq, c17_L0, e0, e3, e4, c1, e1, h1]
      rw [decide_eq_decide.2 hm]
    · simp only [go_sem, ↓reduceIte, Nat.reduceEqDiff, Nat.reduceLeDiff, Nat.reduceAdd, Nat.reduceMul, Nat.reduceSub, Nat.reduceBEq, Nat.reduceGT, Nat.reduceLT, Int.reduceLE, Int.reduceLT, Int.reduceNeg, reduceCtorEq, c17_L0, e0, e3, e4, c1, e1, h1, false_and]

theorem F19 (v : Value) (xs : List (List Int)) (H : Heap) (hv : Lists H 30 5 v xs) (hl : xs.length ≤ 5864062010000) (hl2 : ∀ l ∈ xs, l.length ≤ 140737488350000) :
    Fun Tryd.prog 19 #[v] H (fun v' H' => OwnLists H' H.size 30 5 v' xs ∧ Ext H H') := by
  obtain ⟨a, c, rfl⟩ := hv.form
  refine fun_of mixed (args := [_]) Tryd.func19 Tryd.ntmps19 b19 r19 rfl ?_
  simp only [go_sem, ↓reduceIte, Nat.reduceEqDiff, Nat.reduceLeDiff, Nat.reduceAdd, Nat.reduceMul, Nat.reduceSub, Nat.reduceBEq, Nat.reduceGT, Nat.reduceLT, Int.reduceLE, Int.reduceLT, Int.reduceNeg, reduceCtorEq]
  refine ⟨by omega, by omega, by omega, ?_⟩
  refine LoopI.by mixed (fun ρ H' => ∃ (i : Nat) (v' : Value), ρ 0 = .slice a xs.length c ∧ ρ 3 = v' ∧ ρ 4 = .int .i64 i ∧ i ≤ xs.length ∧ OwnLists H' H.size 30 5 v' (xs.take i) ∧ Ext H H') (fun ρ _ => xs.length - (iof (ρ 4)).toNat) ?_ ?_
  · refine ⟨0, _, by simp only [go_sem, ↓reduceIte, Nat.reduceEqDiff, Nat.reduceLeDiff, Nat.reduceAdd, Nat.reduceMul, Nat.reduceSub, Nat.reduceBEq, Nat.reduceGT, Nat.reduceLT, Int.reduceLE, Int.reduceLT, Int.reduceNeg, reduceCtorEq], rfl, by simp only [go_sem, ↓reduceIte, Nat.reduceEqDiff, Nat.reduceLeDiff, Nat.reduceAdd, Nat.reduceMul, Nat.reduceSub, Nat.reduceBEq, Nat.reduceGT, Nat.reduceLT, Int.reduceLE, Int.reduceLT, Int.reduceNeg, reduceCtorEq]; rfl, by omega, ?_, Ext.push _⟩
    have := Own.made (H := H) (B := H.size) (e := 30) (sz := 1) (l := 0) (c := xs.length) (z := .slice none 0 0) (Nat.le_refl _) (by omega) (by omega)
    rw [Nat.mul_one, Nat.zero_mul, List.take_zero] at this
    simp only [go_sem, ↓reduceIte, Nat.reduceEqDiff, Nat.reduceLeDiff, Nat.reduceAdd, Nat.reduceMul, Nat.reduceSub, Nat.reduceBEq, Nat.reduceGT, Nat.reduceLT, Int.reduceLE, Int.reduceLT, Int.reduceNeg, reduceCtorEq]
    exact ⟨[], this, by simp [All2], by simp⟩
  rintro ρ H' ⟨i, v', e0, e3, e4, hi, ho, hx⟩
  by_cases hlt : i < xs.length
  · obtain ⟨b, o, rfl⟩ := hv.at hlt
    obtain ⟨w1, g1, hw1⟩ := (hv.ext hx).get hlt
    have c1 : (i : Int) < xs.length := by omega
    have c0 : (0 : Int) ≤ i := by omega
    simp only [go_sem, ↓reduceIte, Nat.reduceEqDiff, Nat.reduceLeDiff, Nat.reduceAdd, Nat.reduceMul, Nat.reduceSub, Nat.reduceBEq, Nat.reduceGT, Nat.reduceLT, Int.reduceLE, Int.reduceLT, Int.reduceNeg, reduceCtorEq, c19_L0, e0, e3, e4, c0, c1, g1]
    refine FunI.by (F18 w1 _ H' hw1 (hl2 _ (mem_getD hlt []))) ?_
    rintro u H1 ⟨hu, hx1⟩
    obtain ⟨a1, a2, rfl⟩ := (show Ints H1 5 .u8 u _ from hu.sl).form
    obtain ⟨vs, ho1, ha, hp⟩ := ho
    simp only [go_sem, ↓reduceIte, Nat.reduceEqDiff, Nat.reduceLeDiff, Nat.reduceAdd, Nat.reduceMul, Nat.reduceSub, Nat.reduceBEq, Nat.reduceGT, Nat.reduceLT, Int.reduceLE, Int.reduceLT, Int.reduceNeg, reduceCtorEq, e3]
    have hvl : vs.length = i := by rw [ha.length]; simp; omega
    refine RunI.by (append_lit ty31 ty30 rfl (by decide) (ho1.ext hx1) (ys := [_]) (m := 1) rfl rfl (n := i + 1) (by simp [hvl]) (by omega) (by omega) (Nat.le_trans hx.size hx1.size)) ?_
    rintro v2 H2 ⟨h1, h2, _⟩
    simp only [go_sem, ↓reduceIte, Nat.reduceEqDiff, Nat.reduceLeDiff, Nat.reduceAdd, Nat.reduceMul, Nat.reduceSub, Nat.reduceBEq, Nat.reduceGT, Nat.reduceLT, Int.reduceLE, Int.reduceLT, Int.reduceNeg, reduceCtorEq, e4]
    rw [w64_id (by omega) (by omega)]
    have hx2 : Upto H.size H1 H2 := h2.upto (ho1.ext hx1) (Nat.le_trans hx.size hx1.size)
    -- an inner slice is untouched: its block holds bytes
    have inner : ∀ {w : Value} {ys : List Int}, Own H1 H.size 5 1 w (ys.map (.int .u8)) → Own H2 H.size 5 1 w (ys.map (.int .u8)) := by
      intro w ys hw
      refine hw.but h2.but ?_
      cases hbw : blk w with
      | none => exact .inl rfl
      | some g =>
        right
        intro he
        obtain ⟨_, _, c1, hc1⟩ := hw.blk hbw
        obtain ⟨_, _, c2, hc2⟩ := (ho1.ext hx1).blk he.symm
        rw [hc1] at hc2
        cases hc2
    refine ⟨Hold.mk ⟨i + 1, v2, by simp only [go_sem, ↓reduceIte, Nat.reduceEqDiff, Nat.reduceLeDiff, Nat.reduceAdd, Nat.reduceMul, Nat.reduceSub, Nat.reduceBEq, Nat.reduceGT, Nat.reduceLT, Int.reduceLE, Int.reduceLT, Int.reduceNeg, reduceCtorEq, e0], by simp only [go_sem, ↓reduceIte, Nat.reduceEqDiff, Nat.reduceLeDiff, Nat.reduceAdd, Nat.reduceMul, Nat.reduceSub, Nat.reduceBEq, Nat.reduceGT, Nat.reduceLT, Int.reduceLE, Int.reduceLT, Int.reduceNeg, reduceCtorEq], by simp only [go_sem, ↓reduceIte, Nat.reduceEqDiff, Nat.reduceLeDiff, Nat.reduceAdd, Nat.reduceMul, Nat.reduceSub, Nat.reduceBEq, Nat.reduceGT, Nat.reduceLT, Int.reduceLE, Int.reduceLT, Int.reduceNeg, reduceCtorEq]; rfl, by omega, ⟨_, h1, ?_, ?_⟩, (hx.trans (hx1.mono hx.size)).trans hx2⟩, by omega⟩
    · rw [take_succ_getD hlt []]
      exact All2.snoc (R := fun (u : Value) (ys : List Int) => Own H2 H.size 5 1 u (ys.map (.int .u8))) (inner (hu.mono hx.size)) (ha.mono fun _ _ h => inner (h.ext hx1))
    · rw [List.pairwise_append]
      refine ⟨hp, by simp, fun w hw u' hu' => ?_⟩
      simp only [List.mem_singleton] at hu'
      subst hu'
      cases hbw : blk w with
      | none => exact .inl rfl
      | some g =>
        right
        intro he
        obtain ⟨k, hk, hkw⟩ := List.getElem_of_mem hw
        have hg : g < H'.size := by
          obtain ⟨ys, hys⟩ : ∃ ys, (xs.take i)[k]? = some ys := ⟨(xs.take i)[k]'(by rw [← ha.length]; exact hk), List.getElem?_eq_getElem _⟩
          obtain ⟨w', hw', hr⟩ := ha.get hys
          rw [List.getElem?_eq_getElem hk, hkw] at hw'
          cases hw'
          exact (hr.blk hbw).2.1
        have := (hu.blk he.symm).1
        omega
  · have c1 : ¬ (i : Int) < xs.length := by omega
    simp only [go_sem, ↓reduceIte, Nat.reduceEqDiff, Nat.reduceLeDiff, Nat.reduceAdd, Nat.reduceMul, Nat.reduceSub, Nat.reduceBEq, Nat.reduceGT, Nat.reduceLT, Int.reduceLE, Int.reduceLT, Int.reduceNeg, reduceCtorEq, c19_L0, e0, e3, e4, c1]
    have : i = xs.length := by omega
    subst this
    rw [List.take_of_length_le (Nat.le_refl _)] at ho
    exact ⟨ho, hx⟩

/-- May the checkpoint be? -/
def mayC (gen p : Int) (xs : List Int) (ds : List Bool) : Bool :=
  decide (1 ≤ gen ∧ gen ≤ 2147483647 ∧ 0 ≤ p ∧ p ≤ 2147483647 ∧ xs.length ≤ 16777216 ∧ ds.length ≤ 1000 ∧ ∀ x ∈ xs, 0 ≤ x ∧ x < 16777216)

set_option maxHeartbeats 1600000 in
theorem F24 (v : Value) (gen p : Int) (xs : List Int) (ds : List Bool) (H : Heap) (hv : Chk H 3 4 v p xs ds) :
    Fun Tryd.prog 24 #[.int .i64 gen, v] H (fun r H' => r = .bool (mayC gen p xs ds) ∧ Ext H H') := by
  obtain ⟨a, b, rfl, ha, hb⟩ := hv
  obtain ⟨a1, a2, rfl⟩ := ha.form
  obtain ⟨b1, b2, rfl⟩ := hb.form
  have x1 : Ext H (H.push (.cells #[.int .i64 p, .slice a1 xs.length a2, .slice b1 ds.length b2] 28)) := Ext.push _
  refine fun_of mixed (args := [_, _]) Tryd.func24 Tryd.ntmps24 b24 r24 rfl ?_
  have e1 : ((16777216 : Int) < xs.length) = (16777216 < xs.length) := by simp; omega
  have e2 : ((1000 : Int) < ds.length) = (1000 < ds.length) := by simp; omega
  by_cases h1 : gen < 1
  · simp only [go_sem, ↓reduceIte, Nat.reduceEqDiff, Nat.reduceLeDiff, Nat.reduceAdd, Nat.reduceMul, Nat.reduceSub, Nat.reduceBEq, Nat.reduceGT, Nat.reduceLT, Int.reduceLE, Int.reduceLT, Int.reduceNeg, reduceCtorEq, h1]
    refine ⟨?_, x1⟩
    have : ¬ (1 ≤ gen) := by omega
    simp [mayC, this]
  by_cases h2 : 2147483647 < gen
  · simp only [go_sem, ↓reduceIte, Nat.reduceEqDiff, Nat.reduceLeDiff, Nat.reduceAdd, Nat.reduceMul, Nat.reduceSub, Nat.reduceBEq, Nat.reduceGT, Nat.reduceLT, Int.reduceLE, Int.reduceLT, Int.reduceNeg, reduceCtorEq, h1, h2]
    refine ⟨?_, x1⟩
    have : ¬ (gen ≤ 2147483647) := by omega
    simp [mayC, this]
  by_cases h3 : p < 0
  · simp only [go_sem, ↓reduceIte, Nat.reduceEqDiff, Nat.reduceLeDiff, Nat.reduceAdd, Nat.reduceMul, Nat.reduceSub, Nat.reduceBEq, Nat.reduceGT, Nat.reduceLT, Int.reduceLE, Int.reduceLT, Int.reduceNeg, reduceCtorEq, h1, h2, h3]
    refine ⟨?_, x1⟩
    have : ¬ (0 ≤ p) := by omega
    simp [mayC, this]
  by_cases h4 : 2147483647 < p
  · simp only [go_sem, ↓reduceIte, Nat.reduceEqDiff, Nat.reduceLeDiff, Nat.reduceAdd, Nat.reduceMul, Nat.reduceSub, Nat.reduceBEq, Nat.reduceGT, Nat.reduceLT, Int.reduceLE, Int.reduceLT, Int.reduceNeg, reduceCtorEq, h1, h2, h3, h4]
    refine ⟨?_, x1⟩
    have : ¬ (p ≤ 2147483647) := by omega
    simp [mayC, this]
  by_cases h5 : 16777216 < xs.length
  · simp only [go_sem, ↓reduceIte, Nat.reduceEqDiff, Nat.reduceLeDiff, Nat.reduceAdd, Nat.reduceMul, Nat.reduceSub, Nat.reduceBEq, Nat.reduceGT, Nat.reduceLT, Int.reduceLE, Int.reduceLT, Int.reduceNeg, reduceCtorEq, h1, h2, h3, h4, e1, h5]
    refine ⟨?_, x1⟩
    have : ¬ (xs.length ≤ 16777216) := by omega
    simp [mayC, this]
  by_cases h6 : 1000 < ds.length
  · simp only [go_sem, ↓reduceIte, Nat.reduceEqDiff, Nat.reduceLeDiff, Nat.reduceAdd, Nat.reduceMul, Nat.reduceSub, Nat.reduceBEq, Nat.reduceGT, Nat.reduceLT, Int.reduceLE, Int.reduceLT, Int.reduceNeg, reduceCtorEq, h1, h2, h3, h4, e1, h5, e2, h6]
    refine ⟨?_, x1⟩
    have : ¬ (ds.length ≤ 1000) := by omega
    simp [mayC, this]
  simp only [go_sem, ↓reduceIte, Nat.reduceEqDiff, Nat.reduceLeDiff, Nat.reduceAdd, Nat.reduceMul, Nat.reduceSub, Nat.reduceBEq, Nat.reduceGT, Nat.reduceLT, Int.reduceLE, Int.reduceLT, Int.reduceNeg, reduceCtorEq, h1, h2, h3, h4, e1, h5, e2, h6]
  have hm : mayC gen p xs ds = decide (∀ x ∈ xs, 0 ≤ x ∧ x < 16777216) := by
    have a1 : 1 ≤ gen := by omega
    have a2 : gen ≤ 2147483647 := by omega
    have a3 : 0 ≤ p := by omega
    have a4 : p ≤ 2147483647 := by omega
    have a5 : xs.length ≤ 16777216 := by omega
    have a6 : ds.length ≤ 1000 := by omega
    simp only [mayC, a1, a2, a3, a4, a5, a6, true_and]
  rw [hm]
  generalize hH : H.push (.cells #[.int .i64 p, .slice a1 xs.length a2, .slice b1 ds.length b2] 28) = H1 at *
  refine LoopI.by mixed (fun ρ H' => H1 = H' ∧ ∃ i : Nat, ρ 36 = .slice a1 xs.length a2 ∧ ρ 37 = .int .i64 xs.length ∧ ρ 38 = .int .i64 i ∧ i ≤ xs.length ∧ ∀ x ∈ xs.take i, 0 ≤ x ∧ x < 16777216) (fun ρ _ => xs.length - (iof (ρ 38)).toNat) ?_ ?_
  · exact ⟨rfl, 0, by simp only [go_sem, ↓reduceIte, Nat.reduceEqDiff, Nat.reduceLeDiff, Nat.reduceAdd, Nat.reduceMul, Nat.reduceSub, Nat.reduceBEq, Nat.reduceGT, Nat.reduceLT, Int.reduceLE, Int.reduceLT, Int.reduceNeg, reduceCtorEq], by simp only [go_sem, ↓reduceIte, Nat.reduceEqDiff, Nat.reduceLeDiff, Nat.reduceAdd, Nat.reduceMul, Nat.reduceSub, Nat.reduceBEq, Nat.reduceGT, Nat.reduceLT, Int.reduceLE, Int.reduceLT, Int.reduceNeg, reduceCtorEq], by simp only [go_sem, ↓reduceIte, Nat.reduceEqDiff, Nat.reduceLeDiff, Nat.reduceAdd, Nat.reduceMul, Nat.reduceSub, Nat.reduceBEq, Nat.reduceGT, Nat.reduceLT, Int.reduceLE, Int.reduceLT, Int.reduceNeg, reduceCtorEq]; rfl, by omega, by simp⟩
  rintro ρ _ ⟨rfl, i, e36, e37, e38, hi, hall⟩
  by_cases hlt : i < xs.length
  · have ha' := ha.ext x1
    obtain ⟨b, o, rfl⟩ := ha'.at hlt
    have g1 := ha'.get hlt
    have c1 : (i : Int) < xs.length := by omega
    have c0 : (0 : Int) ≤ i := by omega
    have hmem := mem_getD hlt (0 : Int)
    have hno : ¬ (0 ≤ xs.getD i 0 ∧ xs.getD i 0 < 16777216) → ¬ ∀ x ∈ xs, 0 ≤ x ∧ x < 16777216 := fun h h' => h (h' _ hmem)
    by_cases k1 : xs.getD i 0 < 0
    · simp only [go_sem, ↓reduceIte, Nat.reduceEqDiff, Nat.reduceLeDiff, Nat.reduceAdd, Nat.reduceMul, Nat.reduceSub, Nat.reduceBEq, Nat.reduceGT, Nat.reduceLT, Int.reduceLE, Int.reduceLT, Int.reduceNeg, reduceCtorEq, c24_L0, e36, e37, e38, c0, c1, g1, k1]
      have := hno (by omega)
      simp [this, x1]
    by_cases k2 : 16777216 ≤ xs.getD i 0
    · simp only [go_sem, ↓reduceIte, Nat.reduceEqDiff, Nat.reduceLeDiff, Nat.reduceAdd, Nat.reduceMul, Nat.reduceSub, Nat.reduceBEq, Nat.reduceGT, Nat.reduceLT, Int.reduceLE, Int.reduceLT, Int.reduceNeg, reduceCtorEq, c24_L0, e36, e37, e38, c0, c1, g1, k1, k2]
      have := hno (by omega)
      simp [this, x1]
    simp only [go_sem, ↓reduceIte, Nat.reduceEqDiff, Nat.reduceLeDiff, Nat.reduceAdd, Nat.reduceMul, Nat.reduceSub, Nat.reduceBEq, Nat.reduceGT, Nat.reduceLT, Int.reduceLE, Int.reduceLT, Int.reduceNeg, reduceCtorEq, c24_L0, e36, e37, e38, c0, c1, g1, k1, k2]
    rw [w64_id (by omega) (by omega)]
    refine ⟨Hold.mk ⟨rfl, i + 1, by simp only [go_sem, ↓reduceIte, Nat.reduceEqDiff, Nat.reduceLeDiff, Nat.reduceAdd, Nat.reduceMul, Nat.reduceSub, Nat.reduceBEq, Nat.reduceGT, Nat.reduceLT, Int.reduceLE, Int.reduceLT, Int.reduceNeg, reduceCtorEq, e36], by simp only [go_sem, ↓reduceIte, Nat.reduceEqDiff, Nat.reduceLeDiff, Nat.reduceAdd, Nat.reduceMul, Nat.reduceSub, Nat.reduceBEq, Nat.reduceGT, Nat.reduceLT, Int.reduceLE, Int.reduceLT, Int.reduceNeg, reduceCtorEq, e37], by simp only [go_sem, ↓reduceIte, Nat.reduceEqDiff, Nat.reduceLeDiff, Nat.reduceAdd, Nat.reduceMul, Nat.reduceSub, Nat.reduceBEq, Nat.reduceGT, Nat.reduceLT, Int.reduceLE, Int.reduceLT, Int.reduceNeg, reduceCtorEq]; rfl, by omega, ?_⟩, by omega⟩
    rw [take_succ_getD hlt 0]
    simp only [List.forall_mem_append, List.forall_mem_singleton]
    exact ⟨hall, by omega⟩
  · have c1 : ¬ (i : Int) < xs.length := by omega
    have : i = xs.length := by omega
    subst this
    rw [List.take_of_length_le (Nat.le_refl _)] at hall
    simp only [go_sem, ↓reduceIte, Nat.reduceEqDiff, Nat.reduceLeDiff, Nat.reduceAdd, Nat.reduceMul, Nat.reduceSub, Nat.reduceBEq, Nat.reduceGT, Nat.reduceLT, Int.reduceLE, Int.reduceLT, Int.reduceNeg, reduceCtorEq, c24_L0, e36, e37, e38, c1]
    simp only [x1, and_true]
    rw [decide_eq_true hall]

set_option maxHeartbeats 1600000 in
theorem F29 (v : Value) (gen p : Int) (xs : List Int) (ds : List Bool) (H : Heap) (hv : Chk H 3 4 v p xs ds) :
    Fun Tryd.prog 29 #[.int .i64 gen, v] H (fun r H' => r = .bool (mayC gen p xs ds) ∧ Ext H H') := by
  obtain ⟨a, b, rfl, ha, hb⟩ := hv
  obtain ⟨a1, a2, rfl⟩ := ha.form
  obtain ⟨b1, b2, rfl⟩ := hb.form
  have x1 : Ext H (H.push (.cells #[.int .i64 p, .slice a1 xs.length a2, .slice b1 ds.length b2] 28)) := Ext.push _
  refine fun_of mixed (args := [_, _]) Tryd.func29 Tryd.ntmps29 b29 r29 rfl ?_
  have e1 : ((16777216 : Int) < xs.length) = (16777216 < xs.length) := by simp; omega
  have e2 : ((1000 : Int) < ds.length) = (1000 < ds.length) := by simp; omega
  by_cases h1 : gen < 1
  · simp only [go_sem, ↓reduceIte, Nat.reduceEqDiff, Nat.reduceLeDiff, Nat.reduceAdd, Nat.reduceMul, Nat.reduceSub, Nat.reduceBEq, Nat.reduceGT, Nat.reduceLT, Int.reduceLE, Int.reduceLT, Int.reduceNeg, reduceCtorEq, h1]
    refine ⟨?_, x1⟩
    have : ¬ (1 ≤ gen) := by omega
    simp [mayC, this]
  by_cases h2 : 2147483647 < gen
  · simp only [go_sem, ↓reduceIte, Nat.reduceEqDiff, Nat.reduceLeDiff, Nat.reduceAdd, Nat.reduceMul, Nat.reduceSub, Nat.reduceBEq, Nat.reduceGT, Nat.reduceLT, Int.reduceLE, Int.reduceLT, Int.reduceNeg, reduceCtorEq, h1, h2]
    refine ⟨?_, x1⟩
    have : ¬ (gen ≤ 2147483647) := by omega
    simp [mayC, this]
  by_cases h3 : p < 0
  · simp only [go_sem, ↓reduceIte, Nat.reduceEqDiff, Nat.reduceLeDiff, Nat.reduceAdd, Nat.reduceMul, Nat.reduceSub, Nat.reduceBEq, Nat.reduceGT, Nat.reduceLT, Int.reduceLE, Int.reduceLT, Int.reduceNeg, reduceCtorEq, h1, h2, h3]
    refine ⟨?_, x1⟩
    have : ¬ (0 ≤ p) := by omega
    simp [mayC, this]
  by_cases h4 : 2147483647 < p
  · simp only [go_sem, ↓reduceIte, Nat.reduceEqDiff, Nat.reduceLeDiff, Nat.reduceAdd, Nat.reduceMul, Nat.reduceSub, Nat.reduceBEq, Nat.reduceGT, Nat.reduceLT, Int.reduceLE, Int.reduceLT, Int.reduceNeg, reduceCtorEq, h1, h2, h3, h4]
    refine ⟨?_, x1⟩
    have : ¬ (p ≤ 2147483647) := by omega
    simp [mayC, this]
  by_cases h5 : 16777216 < xs.length
  · simp only [go_sem, ↓reduceIte, Nat.reduceEqDiff, Nat.reduceLeDiff, Nat.reduceAdd, Nat.reduceMul, Nat.reduceSub, Nat.reduceBEq, Nat.reduceGT, Nat.reduceLT, Int.reduceLE, Int.reduceLT, Int.reduceNeg, reduceCtorEq, h1, h2, h3, h4, e1, h5]
    refine ⟨?_, x1⟩
    have : ¬ (xs.length ≤ 16777216) := by omega
    simp [mayC, this]
  by_cases h6 : 1000 < ds.length
  · simp only [go_sem, ↓reduceIte, Nat.reduceEqDiff, Nat.reduceLeDiff, Nat.reduceAdd, Nat.reduceMul, Nat.reduceSub, Nat.reduceBEq, Nat.reduceGT, Nat.reduceLT, Int.reduceLE, Int.reduceLT, Int.reduceNeg, reduceCtorEq, h1, h2, h3, h4, e1, h5, e2, h6]
    refine ⟨?_, x1⟩
    have : ¬ (ds.length ≤ 1000) := by omega
    simp [mayC, this]
  simp only [go_sem, ↓reduceIte, Nat.reduceEqDiff, Nat.reduceLeDiff, Nat.reduceAdd, Nat.reduceMul, Nat.reduceSub, Nat.reduceBEq, Nat.reduceGT, Nat.reduceLT, Int.reduceLE, Int.reduceLT, Int.reduceNeg, reduceCtorEq, h1, h2, h3, h4, e1, h5, e2, h6]
  have hm : mayC gen p xs ds = decide (∀ x ∈ xs, 0 ≤ x ∧ x < 16777216) := by
    have a1 : 1 ≤ gen := by omega
    have a2 : gen ≤ 2147483647 := by omega
    have a3 : 0 ≤ p := by omega
    have a4 : p ≤ 2147483647 := by omega
    have a5 : xs.length ≤ 16777216 := by omega
    have a6 : ds.length ≤ 1000 := by omega
    simp only [mayC, a1, a2, a3, a4, a5, a6, true_and]
  rw [hm]
  have g3 : hget (H.push (.cells #[.int .i64 p, .slice a1 xs.length a2, .slice b1 ds.length b2] 28)) H.size 1 = some (.slice a1 xs.length a2) := by simp only [go_sem, ↓reduceIte, Nat.reduceEqDiff, Nat.reduceLeDiff, Nat.reduceAdd, Nat.reduceMul, Nat.reduceSub, Nat.reduceBEq, Nat.reduceGT, Nat.reduceLT, Int.reduceLE, Int.reduceLT, Int.reduceNeg, reduceCtorEq]
  generalize hH : H.push (.cells #[.int .i64 p, .slice a1 xs.length a2, .slice b1 ds.length b2] 28) = H1 at *
  refine LoopI.by mixed (fun ρ H' => H1 = H' ∧ ∃ i : Nat, ρ 3 = newP H ∧ ρ 5 = .int .i64 i ∧ i ≤ xs.length ∧ ∀ x ∈ xs.take i, 0 ≤ x ∧ x < 16777216) (fun ρ _ => xs.length - (iof (ρ 5)).toNat) ?_ ?_
  · exact ⟨rfl, 0, by simp only [go_sem, ↓reduceIte, Nat.reduceEqDiff, Nat.reduceLeDiff, Nat.reduceAdd, Nat.reduceMul, Nat.reduceSub, Nat.reduceBEq, Nat.reduceGT, Nat.reduceLT, Int.reduceLE, Int.reduceLT, Int.reduceNeg, reduceCtorEq], by simp only [go_sem, ↓reduceIte, Nat.reduceEqDiff, Nat.reduceLeDiff, Nat.reduceAdd, Nat.reduceMul, Nat.reduceSub, Nat.reduceBEq, Nat.reduceGT, Nat.reduceLT, Int.reduceLE, Int.reduceLT, Int.reduceNeg, reduceCtorEq]; rfl, by omega, by simp⟩
  rintro ρ _ ⟨rfl, i, e3, e5, hi, hall⟩
  by_cases hlt : i < xs.length
  · have ha' := ha.ext x1
    obtain ⟨b, o, rfl⟩ := ha'.at hlt
    have g1 := ha'.get hlt
    have c1 : (i : Int) < xs.length := by omega
    have c0 : (0 : Int) ≤ i := by omega
    have hmem := mem_getD hlt (0 : Int)
    have hno : ¬ (0 ≤ xs.getD i 0 ∧ xs.getD i 0 < 16777216) → ¬ ∀ x ∈ xs, 0 ≤ x ∧ x < 16777216 := fun h h' => h (h' _ hmem)
    by_cases k1 : xs.getD i 0 < 0
    · simp only [go_sem, ↓reduceIte, Nat.reduceEqDiff, Nat.reduceLeDiff, Nat.reduceAdd, Nat.reduceMul, Nat.reduceSub, Nat.reduceBEq, Nat.reduceGT, Nat.reduceLT, Int.reduceLE, Int.reduceLT, Int.reduceNeg, reduceCtorEq, c29_L0, e3, e5, c0, c1, g1, g3, k1]
      have := hno (by omega)
      simp [this, x1]
    by_cases k2 : 16777216 ≤ xs.getD i 0
    · simp only [go_sem, ↓reduceIte, Nat.reduceEqDiff, Nat.reduceLeDiff, Nat.reduceAdd, Nat.reduceMul, Nat.reduceSub, Nat.reduceBEq, Nat.reduceGT, Nat.reduceLT, Int.reduceLE, Int.reduceLT, Int.reduceNeg, reduceCtorEq, c29_L0, e3, e5, c0, c1, g1, g3, k1, k2]
      have := hno (by omega)
      simp [this, x1]
    simp only [go_sem, ↓reduceIte, Nat.reduceEqDiff, Nat.reduceLeDiff, Nat.reduceAdd, Nat.reduceMul, Nat.reduceSub, Nat.reduceBEq, Nat.reduceGT, Nat.reduceLT, Int.reduceLE, Int.reduceLT, Int.reduceNeg, reduceCtorEq, c29_L0, e3, e5, c0, c1, g1, g3, k1, k2]
    rw [w64_id (by omega) (by omega)]
    refine ⟨Hold.mk ⟨rfl, i + 1, by simp only [go_sem, ↓reduceIte, Nat.reduceEqDiff, Nat.reduceLeDiff, Nat.reduceAdd, Nat.reduceMul, Nat.reduceSub, Nat.reduceBEq, Nat.reduceGT, Nat.reduceLT, Int.reduceLE, Int.reduceLT, Int.reduceNeg, reduceCtorEq, e3], by simp only [go_sem, ↓reduceIte, Nat.reduceEqDiff, Nat.reduceLeDiff, Nat.reduceAdd, Nat.reduceMul, Nat.reduceSub, Nat.reduceBEq, Nat.reduceGT, Nat.reduceLT, Int.reduceLE, Int.reduceLT, Int.reduceNeg, reduceCtorEq]; rfl, by omega, ?_⟩, by omega⟩
    rw [take_succ_getD hlt 0]
    simp only [List.forall_mem_append, List.forall_mem_singleton]
    exact ⟨hall, by omega⟩
  · have c1 : ¬ (i : Int) < xs.length := by omega
    have : i = xs.length := by omega
    subst this
    rw [List.take_of_length_le (Nat.le_refl _)] at hall
    simp only [go_sem, ↓reduceIte, Nat.reduceEqDiff, Nat.reduceLeDiff, Nat.reduceAdd, Nat.reduceMul, Nat.reduceSub, Nat.reduceBEq, Nat.reduceGT, Nat.reduceLT, Int.reduceLE, Int.reduceLT, Int.reduceNeg, reduceCtorEq, c29_L0, e3, e5, c1, g3]
    simp only [x1, and_true]
    rw [decide_eq_true hall]
end Go.Proofs.YtbdclcdoiabapaaDoor
