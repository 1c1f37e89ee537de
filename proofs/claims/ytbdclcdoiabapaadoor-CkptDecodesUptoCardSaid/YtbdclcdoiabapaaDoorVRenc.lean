/- The reference encoder of checkpoints answers as the program does. -/
import Derived.Test.YtbdclcdoiabapaaDoorVEnc
set_option linter.unusedSimpArgs false
set_option linter.unusedVariables false
namespace Go.Proofs.YtbdclcdoiabapaaDoor
open Go Go.V
-- 30: pith/pithref18.four
-- 13: pith/pithref18.Encode
-- 29: pith/pithref18.may
-- 31: pith/pithref1.Put
-- 26: []bool
-- 4: bool
-- 28: pith/api.Check
-- 30: []uint8
-- 31: [][]uint8
-- 5: uint8
-- 25: []int
-- 3: int

set_option maxHeartbeats 1600000 in
theorem F13 (v : Value) (gen p : Int) (xs : List Int) (ds : List Bool) (H : Heap) (hv : Chk H 3 4 v p xs ds) :
    Fun Tryd.prog 13 #[.int .i64 gen, v] H (fun r H' => Ext H H' ∧
      ((mayC gen p xs ds = false ∧ r = .tuple #[.slice none 0 0, .slice none 0 0, .int .i64 180]) ∨
       (mayC gen p xs ds = true ∧ ∃ h l, r = .tuple #[h, l, .int .i64 0] ∧ Own H' H.size 5 1 h ((chkHead gen p xs ds).map (.int .u8)) ∧ OwnLists H' H.size 30 5 l (chkData xs ds)))) := by
  have hv' := hv
  obtain ⟨a, b, rfl, ha, hb⟩ := hv
  obtain ⟨a1, a2, rfl⟩ := ha.form
  obtain ⟨b1, b2, rfl⟩ := hb.form
  have x1 : Ext H (H.push (.cells #[.int .i64 p, .slice a1 xs.length a2, .slice b1 ds.length b2] 28)) := Ext.push _
  refine fun_of mixed (args := [_, _]) Tryd.func13 Tryd.ntmps13 b13 r13 rfl ?_
  have g0 : hget (H.push (.cells #[.int .i64 p, .slice a1 xs.length a2, .slice b1 ds.length b2] 28)) H.size 0 = some (.int .i64 p) := by simp only [go_sem, ↓reduceIte, Nat.reduceEqDiff, Nat.reduceLeDiff, Nat.reduceAdd, Nat.reduceMul, Nat.reduceSub, Nat.reduceBEq, Nat.reduceGT, Nat.reduceLT, Int.reduceLE, Int.reduceLT, Int.reduceNeg, reduceCtorEq]
  have g1 : hget (H.push (.cells #[.int .i64 p, .slice a1 xs.length a2, .slice b1 ds.length b2] 28)) H.size 1 = some (.slice a1 xs.length a2) := by simp only [go_sem, ↓reduceIte, Nat.reduceEqDiff, Nat.reduceLeDiff, Nat.reduceAdd, Nat.reduceMul, Nat.reduceSub, Nat.reduceBEq, Nat.reduceGT, Nat.reduceLT, Int.reduceLE, Int.reduceLT, Int.reduceNeg, reduceCtorEq]
  have g2 : hget (H.push (.cells #[.int .i64 p, .slice a1 xs.length a2, .slice b1 ds.length b2] 28)) H.size 2 = some (.slice b1 ds.length b2) := by simp only [go_sem, ↓reduceIte, Nat.reduceEqDiff, Nat.reduceLeDiff, Nat.reduceAdd, Nat.reduceMul, Nat.reduceSub, Nat.reduceBEq, Nat.reduceGT, Nat.reduceLT, Int.reduceLE, Int.reduceLT, Int.reduceNeg, reduceCtorEq]
  have hsz : (H.push (.cells #[.int .i64 p, .slice a1 xs.length a2, .slice b1 ds.length b2] 28)).size = H.size + 1 := by simp
  simp only [go_sem, ↓reduceIte, Nat.reduceEqDiff, Nat.reduceLeDiff, Nat.reduceAdd, Nat.reduceMul, Nat.reduceSub, Nat.reduceBEq, Nat.reduceGT, Nat.reduceLT, Int.reduceLE, Int.reduceLT, Int.reduceNeg, reduceCtorEq]
  generalize hH : H.push (.cells #[.int .i64 p, .slice a1 xs.length a2, .slice b1 ds.length b2] 28) = H0 at *
  have hc0 : Chk H0 3 4 (.agg #[.int .i64 p, .slice a1 xs.length a2, .slice b1 ds.length b2]) p xs ds := hv'.ext x1
  refine FunI.by (F29 _ gen p xs ds H0 hc0) ?_
  rintro _ H1 ⟨rfl, hx1⟩
  cases hm : mayC gen p xs ds with
  | false =>
    simp only [go_sem, ↓reduceIte, Nat.reduceEqDiff, Nat.reduceLeDiff, Nat.reduceAdd, Nat.reduceMul, Nat.reduceSub, Nat.reduceBEq, Nat.reduceGT, Nat.reduceLT, Int.reduceLE, Int.reduceLT, Int.reduceNeg, reduceCtorEq, hm]
    refine ⟨x1.trans (hx1.mono x1.size), ?_⟩
    simp
  | true =>
    have hmay := hm
    simp only [mayC, decide_eq_true_eq] at hmay
    obtain ⟨m1, m2, m3, m4, m5, m6, m7⟩ := hmay
    have hxt : Ext H H1 := x1.trans (hx1.mono x1.size)
    have q0 : ∀ {H' : Heap}, Ext H1 H' → hget H' H.size 0 = some (.int .i64 p) := fun h => by rw [h.hget (by have := hx1.size; omega), hx1.hget (by omega)]; exact g0
    have q1 : ∀ {H' : Heap}, Ext H1 H' → hget H' H.size 1 = some (.slice a1 xs.length a2) := fun h => by rw [h.hget (by have := hx1.size; omega), hx1.hget (by omega)]; exact g1
    have q2 : ∀ {H' : Heap}, Ext H1 H' → hget H' H.size 2 = some (.slice b1 ds.length b2) := fun h => by rw [h.hget (by have := hx1.size; omega), hx1.hget (by omega)]; exact g2
    have ll : ∀ {H0 H2 : Heap} {v u : Value} {xs ys : List Int}, Own H0 H1.size 5 1 v (xs.map (.int .u8)) → Ext H0 H2 → Own H2 H0.size 5 1 u (ys.map (.int .u8)) → H1.size ≤ H0.size → xs.length + ys.length ≤ 100 →
        RunS Tryd.prog (sAppend #[30, 30] #[v, u]) H2 (fun v' H' => Own H' H1.size 5 1 v' ((xs ++ ys).map (.int .u8)) ∧ Upto H1.size H2 H') :=
      fun ho hx hu hB hl => append_bytes (ho.ext hx) hu.sl (Nat.le_trans hB hx.size) (by omega)
    simp only [go_sem, ↓reduceIte, Nat.reduceEqDiff, Nat.reduceLeDiff, Nat.reduceAdd, Nat.reduceMul, Nat.reduceSub, Nat.reduceBEq, Nat.reduceGT, Nat.reduceLT, Int.reduceLE, Int.reduceLT, Int.reduceNeg, reduceCtorEq, hm]
    refine FunI.by (F30 gen H1 (by omega) (by omega)) ?_
    rintro u1 H2 ⟨hu1, hy1⟩
    simp only [go_sem, ↓reduceIte, Nat.reduceEqDiff, Nat.reduceLeDiff, Nat.reduceAdd, Nat.reduceMul, Nat.reduceSub, Nat.reduceBEq, Nat.reduceGT, Nat.reduceLT, Int.reduceLE, Int.reduceLT, Int.reduceNeg, reduceCtorEq]
    refine RunI.by (ll (H0 := H1) (xs := []) Own.nil hy1 hu1 (Nat.le_refl _) (by simp [four])) ?_
    rintro w1 H3 ⟨hw1, hz1⟩
    have hx3 : Ext H1 H3 := hy1.trans hz1
    simp only [go_sem, ↓reduceIte, Nat.reduceEqDiff, Nat.reduceLeDiff, Nat.reduceAdd, Nat.reduceMul, Nat.reduceSub, Nat.reduceBEq, Nat.reduceGT, Nat.reduceLT, Int.reduceLE, Int.reduceLT, Int.reduceNeg, reduceCtorEq, q0 hx3]
    refine FunI.by (F30 p H3 (by omega) (by omega)) ?_
    rintro u2 H4 ⟨hu2, hy2⟩
    simp only [go_sem, ↓reduceIte, Nat.reduceEqDiff, Nat.reduceLeDiff, Nat.reduceAdd, Nat.reduceMul, Nat.reduceSub, Nat.reduceBEq, Nat.reduceGT, Nat.reduceLT, Int.reduceLE, Int.reduceLT, Int.reduceNeg, reduceCtorEq]
    refine RunI.by (ll hw1 hy2 hu2 hx3.size (by simp [four])) ?_
    rintro w2 H5 ⟨hw2, hz2⟩
    have hx5 : Ext H1 H5 := hx3.trans ((hy2.mono hx3.size).trans hz2)
    simp only [go_sem, ↓reduceIte, Nat.reduceEqDiff, Nat.reduceLeDiff, Nat.reduceAdd, Nat.reduceMul, Nat.reduceSub, Nat.reduceBEq, Nat.reduceGT, Nat.reduceLT, Int.reduceLE, Int.reduceLT, Int.reduceNeg, reduceCtorEq, q1 hx5]
    refine FunI.by (F30 xs.length H5 (by omega) (by omega)) ?_
    rintro u3 H6 ⟨hu3, hy3⟩
    simp only [go_sem, ↓reduceIte, Nat.reduceEqDiff, Nat.reduceLeDiff, Nat.reduceAdd, Nat.reduceMul, Nat.reduceSub, Nat.reduceBEq, Nat.reduceGT, Nat.reduceLT, Int.reduceLE, Int.reduceLT, Int.reduceNeg, reduceCtorEq]
    refine RunI.by (ll hw2 hy3 hu3 hx5.size (by simp [four])) ?_
    rintro w3 H7 ⟨hw3, hz3⟩
    have hx7 : Ext H1 H7 := hx5.trans ((hy3.mono hx5.size).trans hz3)
    simp only [go_sem, ↓reduceIte, Nat.reduceEqDiff, Nat.reduceLeDiff, Nat.reduceAdd, Nat.reduceMul, Nat.reduceSub, Nat.reduceBEq, Nat.reduceGT, Nat.reduceLT, Int.reduceLE, Int.reduceLT, Int.reduceNeg, reduceCtorEq, q2 hx7]
    refine FunI.by (F30 ds.length H7 (by omega) (by omega)) ?_
    rintro u4 H8 ⟨hu4, hy4⟩
    simp only [go_sem, ↓reduceIte, Nat.reduceEqDiff, Nat.reduceLeDiff, Nat.reduceAdd, Nat.reduceMul, Nat.reduceSub, Nat.reduceBEq, Nat.reduceGT, Nat.reduceLT, Int.reduceLE, Int.reduceLT, Int.reduceNeg, reduceCtorEq]
    refine RunI.by (ll hw3 hy4 hu4 hx7.size (by simp [four])) ?_
    rintro w4 H9 ⟨hw4, hz4⟩
    have hx9 : Ext H1 H9 := hx7.trans ((hy4.mono hx7.size).trans hz4)
    have hhead : Own H9 H1.size 5 1 w4 ((chkHead gen p xs ds).map (.int .u8)) := by simpa [chkHead] using hw4
    have hsz9 := hx9.size
    simp only [go_sem, ↓reduceIte, Nat.reduceEqDiff, Nat.reduceLeDiff, Nat.reduceAdd, Nat.reduceMul, Nat.reduceSub, Nat.reduceBEq, Nat.reduceGT, Nat.reduceLT, Int.reduceLE, Int.reduceLT, Int.reduceNeg, reduceCtorEq]
    refine LoopI.by mixed (fun ρ H' => ∃ (i : Nat) (v8 : Value) (outs : List (List Int)), ρ 3 = newP H ∧ ρ 7 = w4 ∧ ρ 8 = v8 ∧ ρ 9 = .int .i64 i ∧ OwnLists H' H9.size 30 5 v8 outs ∧
      outs ++ pieces (xs.drop i) = pieces xs ∧ outs.length ≤ i ∧ i ≤ 16777216 + 200 ∧ Ext H9 H') (fun ρ _ => xs.length - (iof (ρ 9)).toNat) ?_ ?_
    · exact ⟨0, _, [], by simp only [go_sem, ↓reduceIte, Nat.reduceEqDiff, Nat.reduceLeDiff, Nat.reduceAdd, Nat.reduceMul, Nat.reduceSub, Nat.reduceBEq, Nat.reduceGT, Nat.reduceLT, Int.reduceLE, Int.reduceLT, Int.reduceNeg, reduceCtorEq], by simp only [go_sem, ↓reduceIte, Nat.reduceEqDiff, Nat.reduceLeDiff, Nat.reduceAdd, Nat.reduceMul, Nat.reduceSub, Nat.reduceBEq, Nat.reduceGT, Nat.reduceLT, Int.reduceLE, Int.reduceLT, Int.reduceNeg, reduceCtorEq], rfl, by simp only [go_sem, ↓reduceIte, Nat.reduceEqDiff, Nat.reduceLeDiff, Nat.reduceAdd, Nat.reduceMul, Nat.reduceSub, Nat.reduceBEq, Nat.reduceGT, Nat.reduceLT, Int.reduceLE, Int.reduceLT, Int.reduceNeg, reduceCtorEq]; rfl, by simp only [go_sem, ↓reduceIte, Nat.reduceEqDiff, Nat.reduceLeDiff, Nat.reduceAdd, Nat.reduceMul, Nat.reduceSub, Nat.reduceBEq, Nat.reduceGT, Nat.reduceLT, Int.reduceLE, Int.reduceLT, Int.reduceNeg, reduceCtorEq]; exact OwnLists.nil, by simp, by simp, by omega, Upto.refl _ _⟩
    rintro ρ HA ⟨i, v8, outs, e3, e7, e8, e9, ho, hp, hol, hi, hxA⟩
    have hxA1 : Ext H1 HA := hx9.trans (hxA.mono hsz9)
    by_cases hlt : i < xs.length
    · have c1 : (i : Int) < xs.length := by omega
      simp only [go_sem, ↓reduceIte, Nat.reduceEqDiff, Nat.reduceLeDiff, Nat.reduceAdd, Nat.reduceMul, Nat.reduceSub, Nat.reduceBEq, Nat.reduceGT, Nat.reduceLT, Int.reduceLE, Int.reduceLT, Int.reduceNeg, reduceCtorEq, c13_L1, e3, e7, e8, e9, c1, q1 hxA1]
      obtain ⟨n, hn⟩ : ∃ n : Nat, n = min xs.length (i + 200) := ⟨_, rfl⟩
      refine LoopI.by mixed (fun σ H' => ∃ (j : Nat) (v10 : Value) (bs : List Int), σ 3 = newP H ∧ σ 7 = w4 ∧ σ 8 = v8 ∧ σ 9 = .int .i64 i ∧ σ 11 = .int .i64 j ∧ i ≤ j ∧ j ≤ n ∧ σ 10 = v10 ∧
        Own H' HA.size 5 1 v10 (bs.map (.int .u8)) ∧ bs = ((xs.drop i).take (j - i)).flatMap vput ∧ Ext HA H') (fun σ _ => n - (iof (σ 11)).toNat) ?_ ?_
      · exact ⟨i, _, [], by simp only [go_sem, ↓reduceIte, Nat.reduceEqDiff, Nat.reduceLeDiff, Nat.reduceAdd, Nat.reduceMul, Nat.reduceSub, Nat.reduceBEq, Nat.reduceGT, Nat.reduceLT, Int.reduceLE, Int.reduceLT, Int.reduceNeg, reduceCtorEq, e3], by simp only [go_sem, ↓reduceIte, Nat.reduceEqDiff, Nat.reduceLeDiff, Nat.reduceAdd, Nat.reduceMul, Nat.reduceSub, Nat.reduceBEq, Nat.reduceGT, Nat.reduceLT, Int.reduceLE, Int.reduceLT, Int.reduceNeg, reduceCtorEq, e7], by simp only [go_sem, ↓reduceIte, Nat.reduceEqDiff, Nat.reduceLeDiff, Nat.reduceAdd, Nat.reduceMul, Nat.reduceSub, Nat.reduceBEq, Nat.reduceGT, Nat.reduceLT, Int.reduceLE, Int.reduceLT, Int.reduceNeg, reduceCtorEq, e8], by simp only [go_sem, ↓reduceIte, Nat.reduceEqDiff, Nat.reduceLeDiff, Nat.reduceAdd, Nat.reduceMul, Nat.reduceSub, Nat.reduceBEq, Nat.reduceGT, Nat.reduceLT, Int.reduceLE, Int.reduceLT, Int.reduceNeg, reduceCtorEq, e9], by simp only [go_sem, ↓reduceIte, Nat.reduceEqDiff, Nat.reduceLeDiff, Nat.reduceAdd, Nat.reduceMul, Nat.reduceSub, Nat.reduceBEq, Nat.reduceGT, Nat.reduceLT, Int.reduceLE, Int.reduceLT, Int.reduceNeg, reduceCtorEq], by omega, by omega, rfl, by simp only [go_sem, ↓reduceIte, Nat.reduceEqDiff, Nat.reduceLeDiff, Nat.reduceAdd, Nat.reduceMul, Nat.reduceSub, Nat.reduceBEq, Nat.reduceGT, Nat.reduceLT, Int.reduceLE, Int.reduceLT, Int.reduceNeg, reduceCtorEq]; exact Own.nil, by simp, Upto.refl _ _⟩
      rintro σ HB ⟨j, v10, bs, f3, f7, f8, f9, e11, hij, hj, e10, hob, hbs, hxB⟩
      have hxB1 : Ext H1 HB := hxA1.trans (hxB.mono hxA1.size)
      by_cases hjn : j < n
      · have c1 : (j : Int) < (i : Int) + 200 := by omega
        have c2 : (j : Int) < xs.length := by omega
        have c0 : (0 : Int) ≤ j := by omega
        obtain ⟨ab, ao, rfl⟩ := ha.at (i := j) (by omega)
        have gj := (ha.ext (hxt.trans (hxB1.mono hxt.size))).get (i := j) (by omega)
        have hxj := m7 _ (mem_getD (xs := xs) (i := j) (by omega) (0 : Int))
        have hfl := flat_len (xs := (xs.drop i).take (j - i)) (fun y hy => m7 y (List.mem_of_mem_drop (List.mem_of_mem_take hy)))
        have hjl : ((xs.drop i).take (j - i)).length ≤ 200 := by simp; omega
        simp only [go_sem, ↓reduceIte, Nat.reduceEqDiff, Nat.reduceLeDiff, Nat.reduceAdd, Nat.reduceMul, Nat.reduceSub, Nat.reduceBEq, Nat.reduceGT, Nat.reduceLT, Int.reduceLE, Int.reduceLT, Int.reduceNeg, reduceCtorEq, c13_L0, f3, e10, e11, f9, w64_id (n := (i : Int) + 200) (by omega) (by omega), q1 hxB1, c0, c1, c2, gj]
        refine FunI.by (F31 v10 bs _ HB hob.sl (by rw [hbs]; omega) (by omega)) ?_
        rintro u HC ⟨hu, hxC⟩
        simp only [go_sem, ↓reduceIte, Nat.reduceEqDiff, Nat.reduceLeDiff, Nat.reduceAdd, Nat.reduceMul, Nat.reduceSub, Nat.reduceBEq, Nat.reduceGT, Nat.reduceLT, Int.reduceLE, Int.reduceLT, Int.reduceNeg, reduceCtorEq, e11, w64_id (n := (j : Int) + 1) (by omega) (by omega)]
        refine ⟨Hold.mk ⟨j + 1, u, _, by simp only [go_sem, ↓reduceIte, Nat.reduceEqDiff, Nat.reduceLeDiff, Nat.reduceAdd, Nat.reduceMul, Nat.reduceSub, Nat.reduceBEq, Nat.reduceGT, Nat.reduceLT, Int.reduceLE, Int.reduceLT, Int.reduceNeg, reduceCtorEq, f3], by simp only [go_sem, ↓reduceIte, Nat.reduceEqDiff, Nat.reduceLeDiff, Nat.reduceAdd, Nat.reduceMul, Nat.reduceSub, Nat.reduceBEq, Nat.reduceGT, Nat.reduceLT, Int.reduceLE, Int.reduceLT, Int.reduceNeg, reduceCtorEq, f7], by simp only [go_sem, ↓reduceIte, Nat.reduceEqDiff, Nat.reduceLeDiff, Nat.reduceAdd, Nat.reduceMul, Nat.reduceSub, Nat.reduceBEq, Nat.reduceGT, Nat.reduceLT, Int.reduceLE, Int.reduceLT, Int.reduceNeg, reduceCtorEq, f8], by simp only [go_sem, ↓reduceIte, Nat.reduceEqDiff, Nat.reduceLeDiff, Nat.reduceAdd, Nat.reduceMul, Nat.reduceSub, Nat.reduceBEq, Nat.reduceGT, Nat.reduceLT, Int.reduceLE, Int.reduceLT, Int.reduceNeg, reduceCtorEq, f9], by simp only [go_sem, ↓reduceIte, Nat.reduceEqDiff, Nat.reduceLeDiff, Nat.reduceAdd, Nat.reduceMul, Nat.reduceSub, Nat.reduceBEq, Nat.reduceGT, Nat.reduceLT, Int.reduceLE, Int.reduceLT, Int.reduceNeg, reduceCtorEq]; rfl, by omega, by omega, by simp only [go_sem, ↓reduceIte, Nat.reduceEqDiff, Nat.reduceLeDiff, Nat.reduceAdd, Nat.reduceMul, Nat.reduceSub, Nat.reduceBEq, Nat.reduceGT, Nat.reduceLT, Int.reduceLE, Int.reduceLT, Int.reduceNeg, reduceCtorEq], hu.mono hxB.size, ?_, hxB.trans (hxC.mono hxB.size)⟩, by omega⟩
        rw [show j + 1 - i = (j - i) + 1 by omega, take_succ_getD (xs := xs.drop i) (by simp; omega) 0, List.flatMap_append, hbs]
        simp [show i + (j - i) = j by omega]
      · have hjn' : j = n := by omega
        have key : ¬ ((j : Int) < (i : Int) + 200 ∧ (j : Int) < xs.length) := by omega
        have hbs' : bs = ((xs.drop i).take 200).flatMap vput := by
          rw [hbs]
          by_cases h : xs.length ≤ i + 200
          · rw [List.take_of_length_le (by simp; omega), List.take_of_length_le (by simp; omega)]
          · rw [show j - i = 200 by omega]
        obtain ⟨_, _, rfl⟩ := (show Ints HB 5 .u8 v10 bs from hob.sl).form
        have hpr := pieces_cons (xs := xs.drop i) (by simp; omega)
        have fin : ∀ (ρ' : Env) (H' : Heap), True := fun _ _ => trivial
        have hap := append_list (P := Tryd.prog) ty31 ty30 (by decide) ho hxB hob (by have := hxA.size; omega) (by omega)
        by_cases c1 : (j : Int) < (i : Int) + 200
        · have c2 : ¬ (j : Int) < xs.length := by omega
          simp only [go_sem, ↓reduceIte, Nat.reduceEqDiff, Nat.reduceLeDiff, Nat.reduceAdd, Nat.reduceMul, Nat.reduceSub, Nat.reduceBEq, Nat.reduceGT, Nat.reduceLT, Int.reduceLE, Int.reduceLT, Int.reduceNeg, reduceCtorEq, c13_L0, f3, f7, f8, e10, e11, f9, w64_id (n := (i : Int) + 200) (by omega) (by omega), q1 hxB1, c1, c2]
          refine RunI.by hap ?_
          rintro v8' HC ⟨ho4, hx4⟩
          simp only [go_sem, ↓reduceIte, Nat.reduceEqDiff, Nat.reduceLeDiff, Nat.reduceAdd, Nat.reduceMul, Nat.reduceSub, Nat.reduceBEq, Nat.reduceGT, Nat.reduceLT, Int.reduceLE, Int.reduceLT, Int.reduceNeg, reduceCtorEq, f9, e9, w64_id (n := (i : Int) + 200) (by omega) (by omega)]
          refine ⟨Hold.mk ⟨i + 200, v8', outs ++ [bs], by simp only [go_sem, ↓reduceIte, Nat.reduceEqDiff, Nat.reduceLeDiff, Nat.reduceAdd, Nat.reduceMul, Nat.reduceSub, Nat.reduceBEq, Nat.reduceGT, Nat.reduceLT, Int.reduceLE, Int.reduceLT, Int.reduceNeg, reduceCtorEq, f3], by simp only [go_sem, ↓reduceIte, Nat.reduceEqDiff, Nat.reduceLeDiff, Nat.reduceAdd, Nat.reduceMul, Nat.reduceSub, Nat.reduceBEq, Nat.reduceGT, Nat.reduceLT, Int.reduceLE, Int.reduceLT, Int.reduceNeg, reduceCtorEq, f7], by simp only [go_sem, ↓reduceIte, Nat.reduceEqDiff, Nat.reduceLeDiff, Nat.reduceAdd, Nat.reduceMul, Nat.reduceSub, Nat.reduceBEq, Nat.reduceGT, Nat.reduceLT, Int.reduceLE, Int.reduceLT, Int.reduceNeg, reduceCtorEq], by simp only [go_sem, ↓reduceIte, Nat.reduceEqDiff, Nat.reduceLeDiff, Nat.reduceAdd, Nat.reduceMul, Nat.reduceSub, Nat.reduceBEq, Nat.reduceGT, Nat.reduceLT, Int.reduceLE, Int.reduceLT, Int.reduceNeg, reduceCtorEq]; rfl, ho4, ?_, by simp; omega, by omega, hxA.trans ((hxB.mono hxA.size).trans hx4)⟩, by omega⟩
          rw [← hp, hpr, hbs', List.drop_drop]
          simp
        · simp only [go_sem, ↓reduceIte, Nat.reduceEqDiff, Nat.reduceLeDiff, Nat.reduceAdd, Nat.reduceMul, Nat.reduceSub, Nat.reduceBEq, Nat.reduceGT, Nat.reduceLT, Int.reduceLE, Int.reduceLT, Int.reduceNeg, reduceCtorEq, c13_L0, f3, f7, f8, e10, e11, f9, w64_id (n := (i : Int) + 200) (by omega) (by omega), q1 hxB1, c1]
          refine RunI.by hap ?_
          rintro v8' HC ⟨ho4, hx4⟩
          simp only [go_sem, ↓reduceIte, Nat.reduceEqDiff, Nat.reduceLeDiff, Nat.reduceAdd, Nat.reduceMul, Nat.reduceSub, Nat.reduceBEq, Nat.reduceGT, Nat.reduceLT, Int.reduceLE, Int.reduceLT, Int.reduceNeg, reduceCtorEq, f9, e9, w64_id (n := (i : Int) + 200) (by omega) (by omega)]
          refine ⟨Hold.mk ⟨i + 200, v8', outs ++ [bs], by simp only [go_sem, ↓reduceIte, Nat.reduceEqDiff, Nat.reduceLeDiff, Nat.reduceAdd, Nat.reduceMul, Nat.reduceSub, Nat.reduceBEq, Nat.reduceGT, Nat.reduceLT, Int.reduceLE, Int.reduceLT, Int.reduceNeg, reduceCtorEq, f3], by simp only [go_sem, ↓reduceIte, Nat.reduceEqDiff, Nat.reduceLeDiff, Nat.reduceAdd, Nat.reduceMul, Nat.reduceSub, Nat.reduceBEq, Nat.reduceGT, Nat.reduceLT, Int.reduceLE, Int.reduceLT, Int.reduceNeg, reduceCtorEq, f7], by simp only [go_sem, ↓reduceIte, Nat.reduceEqDiff, Nat.reduceLeDiff, Nat.reduceAdd, Nat.reduceMul, Nat.reduceSub, Nat.reduceBEq, Nat.reduceGT, Nat.reduceLT, Int.reduceLE, Int.reduceLT, Int.reduceNeg, reduceCtorEq], by simp only [go_sem, ↓reduceIte, Nat.reduceEqDiff, Nat.reduceLeDiff, Nat.reduceAdd, Nat.reduceMul, Nat.reduceSub, Nat.reduceBEq, Nat.reduceGT, Nat.reduceLT, Int.reduceLE, Int.reduceLT, Int.reduceNeg, reduceCtorEq]; rfl, ho4, ?_, by simp; omega, by omega, hxA.trans ((hxB.mono hxA.size).trans hx4)⟩, by omega⟩
          rw [← hp, hpr, hbs', List.drop_drop]
          simp
    · have c1 : ¬ (i : Int) < xs.length := by omega
      have hp' : outs = pieces xs := by
        rw [pieces_zero (xs := xs.drop i) (by simp; omega), List.append_nil] at hp
        exact hp
      have out : ∀ {H' : Heap} {w w' : Value} {data : List (List Int)}, Own H' H1.size 5 1 w ((chkHead gen p xs ds).map (.int .u8)) → OwnLists H' H9.size 30 5 w' data → Own H' H.size 5 1 w ((chkHead gen p xs ds).map (.int .u8)) ∧ OwnLists H' H.size 30 5 w' data := by
        intro H' w w' data h1 ⟨vs, k1, k2, k3⟩
        exact ⟨h1.mono hxt.size, vs, k1.mono (Nat.le_trans hxt.size hsz9), k2.mono fun _ _ h => h.mono (Nat.le_trans hxt.size hsz9), k3⟩
      by_cases hd0 : ds.length = 0
      · have c2 : ¬ (0 : Int) < ds.length := by omega
        simp only [go_sem, ↓reduceIte, Nat.reduceEqDiff, Nat.reduceLeDiff, Nat.reduceAdd, Nat.reduceMul, Nat.reduceSub, Nat.reduceBEq, Nat.reduceGT, Nat.reduceLT, Int.reduceLE, Int.reduceLT, Int.reduceNeg, reduceCtorEq, c13_L1, e3, e7, e8, e9, c1, c2, q1 hxA1, q2 hxA1]
        have h := out (hhead.ext hxA) ho
        refine ⟨hxt.trans (hxA1.mono hxt.size), .inr ⟨_, _, rfl, h.1, ?_⟩⟩
        have : outs = chkData xs ds := by simp [chkData, hd0, hp']
        rw [← this]
        exact h.2
      · have c2 : (0 : Int) < ds.length := by omega
        simp only [go_sem, ↓reduceIte, Nat.reduceEqDiff, Nat.reduceLeDiff, Nat.reduceAdd, Nat.reduceMul, Nat.reduceSub, Nat.reduceBEq, Nat.reduceGT, Nat.reduceLT, Int.reduceLE, Int.reduceLT, Int.reduceNeg, reduceCtorEq, c13_L1, e3, e7, e8, e9, c1, c2, q1 hxA1, q2 hxA1]
        refine LoopI.by mixed (fun σ H' => ∃ (j : Nat) (v12 : Value), σ 3 = newP H ∧ σ 7 = w4 ∧ σ 8 = v8 ∧ σ 12 = v12 ∧ σ 13 = .int .i64 j ∧ j ≤ ds.length ∧
          Own H' HA.size 5 1 v12 (((ds.take j).map b2i).map (.int .u8)) ∧ Ext HA H') (fun σ _ => ds.length - (iof (σ 13)).toNat) ?_ ?_
        · exact ⟨0, _, by simp only [go_sem, ↓reduceIte, Nat.reduceEqDiff, Nat.reduceLeDiff, Nat.reduceAdd, Nat.reduceMul, Nat.reduceSub, Nat.reduceBEq, Nat.reduceGT, Nat.reduceLT, Int.reduceLE, Int.reduceLT, Int.reduceNeg, reduceCtorEq, e3], by simp only [go_sem, ↓reduceIte, Nat.reduceEqDiff, Nat.reduceLeDiff, Nat.reduceAdd, Nat.reduceMul, Nat.reduceSub, Nat.reduceBEq, Nat.reduceGT, Nat.reduceLT, Int.reduceLE, Int.reduceLT, Int.reduceNeg, reduceCtorEq, e7], by simp only [go_sem, ↓reduceIte, Nat.reduceEqDiff, Nat.reduceLeDiff, Nat.reduceAdd, Nat.reduceMul, Nat.reduceSub, Nat.reduceBEq, Nat.reduceGT, Nat.reduceLT, Int.reduceLE, Int.reduceLT, Int.reduceNeg, reduceCtorEq, e8], rfl, by simp only [go_sem, ↓reduceIte, Nat.reduceEqDiff, Nat.reduceLeDiff, Nat.reduceAdd, Nat.reduceMul, Nat.reduceSub, Nat.reduceBEq, Nat.reduceGT, Nat.reduceLT, Int.reduceLE, Int.reduceLT, Int.reduceNeg, reduceCtorEq]; rfl, by omega, by simp only [go_sem, ↓reduceIte, Nat.reduceEqDiff, Nat.reduceLeDiff, Nat.reduceAdd, Nat.reduceMul, Nat.reduceSub, Nat.reduceBEq, Nat.reduceGT, Nat.reduceLT, Int.reduceLE, Int.reduceLT, Int.reduceNeg, reduceCtorEq]; exact Own.nil, Upto.refl _ _⟩
        rintro σ HB ⟨j, v12, f3, f7, f8, e12, e13, hj, hob, hxB⟩
        have hxB1 : Ext H1 HB := hxA1.trans (hxB.mono hxA1.size)
        by_cases hjn : j < ds.length
        · have c1 : (j : Int) < ds.length := by omega
          have c0 : (0 : Int) ≤ j := by omega
          obtain ⟨bb, bo, rfl⟩ := hb.at hjn
          have gj := (hb.ext (hxt.trans (hxB1.mono hxt.size))).get hjn
          have hap := fun y => append_lit (P := Tryd.prog) (H := HB) ty30 ty5 rfl (by decide) hob (ys := [Value.int .u8 y]) (m := 1) rfl rfl (n := j + 1) (by simp; omega) (by omega) (by omega) hxB.size
          cases hdj : ds.getD j false with
          | false =>
            simp only [go_sem, ↓reduceIte, Nat.reduceEqDiff, Nat.reduceLeDiff, Nat.reduceAdd, Nat.reduceMul, Nat.reduceSub, Nat.reduceBEq, Nat.reduceGT, Nat.reduceLT, Int.reduceLE, Int.reduceLT, Int.reduceNeg, reduceCtorEq, c13_L2, f3, e12, e13, q2 hxB1, c0, c1, gj, hdj]
            refine RunI.by (hap 0) ?_
            rintro v' HC ⟨h1, h2, _⟩
            simp only [go_sem, ↓reduceIte, Nat.reduceEqDiff, Nat.reduceLeDiff, Nat.reduceAdd, Nat.reduceMul, Nat.reduceSub, Nat.reduceBEq, Nat.reduceGT, Nat.reduceLT, Int.reduceLE, Int.reduceLT, Int.reduceNeg, reduceCtorEq, e13, w64_id (n := (j : Int) + 1) (by omega) (by omega)]
            refine ⟨Hold.mk ⟨j + 1, v', by simp only [go_sem, ↓reduceIte, Nat.reduceEqDiff, Nat.reduceLeDiff, Nat.reduceAdd, Nat.reduceMul, Nat.reduceSub, Nat.reduceBEq, Nat.reduceGT, Nat.reduceLT, Int.reduceLE, Int.reduceLT, Int.reduceNeg, reduceCtorEq, f3], by simp only [go_sem, ↓reduceIte, Nat.reduceEqDiff, Nat.reduceLeDiff, Nat.reduceAdd, Nat.reduceMul, Nat.reduceSub, Nat.reduceBEq, Nat.reduceGT, Nat.reduceLT, Int.reduceLE, Int.reduceLT, Int.reduceNeg, reduceCtorEq, f7], by simp only [go_sem, ↓reduceIte, Nat.reduceEqDiff, Nat.reduceLeDiff, Nat.reduceAdd, Nat.reduceMul, Nat.reduceSub, Nat.reduceBEq, Nat.reduceGT, Nat.reduceLT, Int.reduceLE, Int.reduceLT, Int.reduceNeg, reduceCtorEq, f8], by simp only [go_sem, ↓reduceIte, Nat.reduceEqDiff, Nat.reduceLeDiff, Nat.reduceAdd, Nat.reduceMul, Nat.reduceSub, Nat.reduceBEq, Nat.reduceGT, Nat.reduceLT, Int.reduceLE, Int.reduceLT, Int.reduceNeg, reduceCtorEq], by simp only [go_sem, ↓reduceIte, Nat.reduceEqDiff, Nat.reduceLeDiff, Nat.reduceAdd, Nat.reduceMul, Nat.reduceSub, Nat.reduceBEq, Nat.reduceGT, Nat.reduceLT, Int.reduceLE, Int.reduceLT, Int.reduceNeg, reduceCtorEq]; rfl, by omega, ?_, hxB.trans (h2.upto hob hxB.size)⟩, by omega⟩
            rw [take_succ_getD hjn false, hdj]
            simpa [b2i] using h1
          | true =>
            simp only [go_sem, ↓reduceIte, Nat.reduceEqDiff, Nat.reduceLeDiff, Nat.reduceAdd, Nat.reduceMul, Nat.reduceSub, Nat.reduceBEq, Nat.reduceGT, Nat.reduceLT, Int.reduceLE, Int.reduceLT, Int.reduceNeg, reduceCtorEq, c13_L2, f3, e12, e13, q2 hxB1, c0, c1, gj, hdj]
            refine RunI.by (hap 1) ?_
            rintro v' HC ⟨h1, h2, _⟩
            simp only [go_sem, ↓reduceIte, Nat.reduceEqDiff, Nat.reduceLeDiff, Nat.reduceAdd, Nat.reduceMul, Nat.reduceSub, Nat.reduceBEq, Nat.reduceGT, Nat.reduceLT, Int.reduceLE, Int.reduceLT, Int.reduceNeg, reduceCtorEq, e13, w64_id (n := (j : Int) + 1) (by omega) (by omega)]
            refine ⟨Hold.mk ⟨j + 1, v', by simp only [go_sem, ↓reduceIte, Nat.reduceEqDiff, Nat.reduceLeDiff, Nat.reduceAdd, Nat.reduceMul, Nat.reduceSub, Nat.reduceBEq, Nat.reduceGT, Nat.reduceLT, Int.reduceLE, Int.reduceLT, Int.reduceNeg, reduceCtorEq, f3], by simp only [go_sem, ↓reduceIte, Nat.reduceEqDiff, Nat.reduceLeDiff, Nat.reduceAdd, Nat.reduceMul, Nat.reduceSub, Nat.reduceBEq, Nat.reduceGT, Nat.reduceLT, Int.reduceLE, Int.reduceLT, Int.reduceNeg, reduceCtorEq, f7], by simp only [go_sem, ↓reduceIte, Nat.reduceEqDiff, Nat.reduceLeDiff, Nat.reduceAdd, Nat.reduceMul, Nat.reduceSub, Nat.reduceBEq, Nat.reduceGT, Nat.reduceLT, Int.reduceLE, Int.reduceLT, Int.reduceNeg, reduceCtorEq, f8], by simp only [go_sem, ↓reduceIte, Nat.reduceEqDiff, Nat.reduceLeDiff, Nat.reduceAdd, Nat.reduceMul, Nat.reduceSub, Nat.reduceBEq, Nat.reduceGT, Nat.reduceLT, Int.reduceLE, Int.reduceLT, Int.reduceNeg, reduceCtorEq], by simp only [go_sem, ↓reduceIte, Nat.reduceEqDiff, Nat.reduceLeDiff, Nat.reduceAdd, Nat.reduceMul, Nat.reduceSub, Nat.reduceBEq, Nat.reduceGT, Nat.reduceLT, Int.reduceLE, Int.reduceLT, Int.reduceNeg, reduceCtorEq]; rfl, by omega, ?_, hxB.trans (h2.upto hob hxB.size)⟩, by omega⟩
            rw [take_succ_getD hjn false, hdj]
            simpa [b2i] using h1
        · have c1 : ¬ (j : Int) < ds.length := by omega
          have hjn' : j = ds.length := by omega
          subst hjn'
          rw [List.take_of_length_le (Nat.le_refl _)] at hob
          obtain ⟨_, _, rfl⟩ := (show Ints HB 5 .u8 v12 (ds.map b2i) from hob.sl).form
          simp only [go_sem, ↓reduceIte, Nat.reduceEqDiff, Nat.reduceLeDiff, Nat.reduceAdd, Nat.reduceMul, Nat.reduceSub, Nat.reduceBEq, Nat.reduceGT, Nat.reduceLT, Int.reduceLE, Int.reduceLT, Int.reduceNeg, reduceCtorEq, c13_L2, f3, f7, f8, e12, e13, q2 hxB1, c1]
          refine RunI.by (append_list ty31 ty30 (by decide) ho hxB hob hxA.size (by omega)) ?_
          rintro v8' HC ⟨ho4, hx4⟩
          have hxC : Ext H9 HC := hxA.trans ((hxB.mono hxA.size).trans hx4)
          simp only [go_sem, ↓reduceIte, Nat.reduceEqDiff, Nat.reduceLeDiff, Nat.reduceAdd, Nat.reduceMul, Nat.reduceSub, Nat.reduceBEq, Nat.reduceGT, Nat.reduceLT, Int.reduceLE, Int.reduceLT, Int.reduceNeg, reduceCtorEq, f7]
          have h := out (hhead.ext hxC) ho4
          refine ⟨hxt.trans ((hx9.trans (hxC.mono hsz9)).mono hxt.size), .inr ⟨_, _, rfl, h.1, ?_⟩⟩
          have : outs ++ [ds.map b2i] = chkData xs ds := by simp [chkData, hd0, hp']
          rw [← this]
          exact h.2
end Go.Proofs.YtbdclcdoiabapaaDoor
