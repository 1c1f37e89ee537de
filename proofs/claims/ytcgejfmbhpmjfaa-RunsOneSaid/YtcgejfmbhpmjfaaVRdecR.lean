/- The reference decoder of arcs answers the arcs whose payload the bytes are. -/
import Derived.Test.YtcgejfmbhpmjfaaVDecR
set_option linter.unusedSimpArgs false
set_option linter.unusedVariables false
set_option maxRecDepth 20000
namespace Go.Proofs.Ytcgejfmbhpmjfaa
open Go Go.V
-- 50: pith/pithref11.in
-- 21: pith/pithref11.Encode
-- 53: pith/pithref11.Decode
-- 75: pith/pithref1.New
-- 76: (*pith/pithref1.Reader).Int
-- 22: pith/pithref.SameBytes
-- 5: uint8
-- 3: int
-- 24: pith/api.Pair
-- 22: []api.Pair
-- 130: pith/pithref1.Reader

set_option maxHeartbeats 6400000 in
theorem F53 (v : Value) (ys : List Int) (H : Heap) (hv : Ints H 5 .u8 v ys) (hw : Byt ys) (hl : ys.length ≤ 140737488350000) :
    Fun Try.prog 53 #[v] H (decA H ys) := by
  obtain ⟨a, c, rfl⟩ := hv.form
  refine fun_of mixed (args := [_]) Try.func53 Try.ntmps53 b53 r53 rfl ?_
  simp only [go_sem, ↓reduceIte, Nat.reduceEqDiff, Nat.reduceLeDiff, Nat.reduceAdd, Nat.reduceMul, Nat.reduceSub, Nat.reduceBEq, Nat.reduceGT, Nat.reduceLT, Int.reduceLE, Int.reduceLT, Int.reduceNeg, reduceCtorEq]
  refine FunI.by (F75 _ ys H hv hl) ?_
  rintro rd H1 ⟨hrd, hx1⟩
  simp only [go_sem, ↓reduceIte, Nat.reduceEqDiff, Nat.reduceLeDiff, Nat.reduceAdd, Nat.reduceMul, Nat.reduceSub, Nat.reduceBEq, Nat.reduceGT, Nat.reduceLT, Int.reduceLE, Int.reduceLT, Int.reduceNeg, reduceCtorEq]
  refine FunI.by (F76 H.size rd ys (0, 0) H1 hrd hw (by omega)) ?_
  rintro _ H2 ⟨rfl, hrd2, hsz2, hfr2⟩
  have hrb : ∃ rb, rd = .pointer (some ⟨rb, 0, none⟩) ∧ H.size ≤ rb := by
    obtain ⟨b, u, h1, h2, _⟩ := hrd
    exact ⟨b, h1, h2⟩
  obtain ⟨rb, rfl, hrbl⟩ := hrb
  have hx2 : Ext H H2 := ⟨by rw [hsz2]; exact hx1.size, fun g hg => by
    rw [hfr2 g (by intro h; cases h; omega), hx1.get g hg]⟩
  obtain ⟨N, hN⟩ : ∃ N : Nat, rval ys (0, 0) = (N : Int) := ⟨(rval ys (0, 0)).toNat, by have := rval_nonneg ys (0, 0); omega⟩
  have hlen : ∀ l, encR l = (some ys, 0) → l.length = N ∧ l.length ≤ 100 ∧ 0 < l.length := by
    intro l h
    obtain ⟨_, h2⟩ := enc_read h (k := 0) (by omega)
    obtain ⟨h3, h4, _⟩ := enc_some h
    have h5 : rval ys (rdN ys 0).2 = (N : Int) := hN
    rw [h5] at h2
    have h6 : (numsI l).getD 0 0 = (l.length : Int) := rfl
    rw [h6] at h2
    omega
  by_cases c0 : N < 1
  · have c0' : (N : Int) < 1 := by omega
    simp only [go_sem, ↓reduceIte, Nat.reduceEqDiff, Nat.reduceLeDiff, Nat.reduceAdd, Nat.reduceMul, Nat.reduceSub, Nat.reduceBEq, Nat.reduceGT, Nat.reduceLT, Int.reduceLE, Int.reduceLT, Int.reduceNeg, reduceCtorEq, hN, c0']
    exact decA_none hx2 fun l h => by have := hlen l h; omega
  have c0' : ¬ (N : Int) < 1 := by omega
  by_cases c1 : 100 < N
  · have c1' : (100 : Int) < (N : Int) := by omega
    simp only [go_sem, ↓reduceIte, Nat.reduceEqDiff, Nat.reduceLeDiff, Nat.reduceAdd, Nat.reduceMul, Nat.reduceSub, Nat.reduceBEq, Nat.reduceGT, Nat.reduceLT, Int.reduceLE, Int.reduceLT, Int.reduceNeg, reduceCtorEq, hN, c0', c1']
    exact decA_none hx2 fun l h => by have := hlen l h; omega
  have c1' : ¬ (100 : Int) < (N : Int) := by omega
  simp only [go_sem, ↓reduceIte, Nat.reduceEqDiff, Nat.reduceLeDiff, Nat.reduceAdd, Nat.reduceMul, Nat.reduceSub, Nat.reduceBEq, Nat.reduceGT, Nat.reduceLT, Int.reduceLE, Int.reduceLT, Int.reduceNeg, reduceCtorEq, hN, c0', c1']
  refine ⟨rfl, hcan_of push_new (by simp), ?_⟩
  rw [hput_push2]
  obtain ⟨Lb, hLb⟩ : ∃ Lb, Lb = H2.size := ⟨_, rfl⟩
  have hLH : H.size ≤ Lb := by rw [hLb]; exact hx2.size
  refine LoopI.by mixed (fun ρ H' => ∃ (i : Nat) (acc : List Pr) (v6 : Value), ρ 0 = .slice a ys.length c ∧ ρ 4 = .pointer (some ⟨rb, 0, none⟩) ∧ ρ 5 = .int .i64 N ∧ ρ 6 = v6 ∧ ρ 7 = .pointer (some ⟨Lb, 0, none⟩) ∧ ρ 8 = .int .i64 i ∧ i ≤ N ∧ acc.length = i ∧
    Own H' H.size 24 2 v6 (cp acc) ∧ Rdr H' H.size 130 (.pointer (some ⟨rb, 0, none⟩)) ys (rdN ys (2 * i + 1)).2 ∧ H'[Lb]? = some (.cells #[.int .i64 (lastI acc i).1, .int .i64 (lastI acc i).2] 24) ∧ (∀ g, blk v6 = some g → g ≠ Lb) ∧
    (∀ j, j < i → 0 ≤ (acc.getD j (0, 0)).1 ∧ (acc.getD j (0, 0)).1 ≤ 16777217 * i ∧ 0 ≤ (acc.getD j (0, 0)).2 ∧ (acc.getD j (0, 0)).2 ≤ 16777217 * i) ∧
    (∀ l, encR l = (some ys, 0) → acc = l.take i) ∧ Ext H H') (fun ρ _ => N - (iof (ρ 8)).toNat) ?_ ?_
  · exact ⟨0, [], .slice none 0 0, by simp only [go_sem, ↓reduceIte, Nat.reduceEqDiff, Nat.reduceLeDiff, Nat.reduceAdd, Nat.reduceMul, Nat.reduceSub, Nat.reduceBEq, Nat.reduceGT, Nat.reduceLT, Int.reduceLE, Int.reduceLT, Int.reduceNeg, reduceCtorEq], by simp only [go_sem, ↓reduceIte, Nat.reduceEqDiff, Nat.reduceLeDiff, Nat.reduceAdd, Nat.reduceMul, Nat.reduceSub, Nat.reduceBEq, Nat.reduceGT, Nat.reduceLT, Int.reduceLE, Int.reduceLT, Int.reduceNeg, reduceCtorEq], by simp only [go_sem, ↓reduceIte, Nat.reduceEqDiff, Nat.reduceLeDiff, Nat.reduceAdd, Nat.reduceMul, Nat.reduceSub, Nat.reduceBEq, Nat.reduceGT, Nat.reduceLT, Int.reduceLE, Int.reduceLT, Int.reduceNeg, reduceCtorEq], by simp only [go_sem, ↓reduceIte, Nat.reduceEqDiff, Nat.reduceLeDiff, Nat.reduceAdd, Nat.reduceMul, Nat.reduceSub, Nat.reduceBEq, Nat.reduceGT, Nat.reduceLT, Int.reduceLE, Int.reduceLT, Int.reduceNeg, reduceCtorEq], by simp only [go_sem, ↓reduceIte, Nat.reduceEqDiff, Nat.reduceLeDiff, Nat.reduceAdd, Nat.reduceMul, Nat.reduceSub, Nat.reduceBEq, Nat.reduceGT, Nat.reduceLT, Int.reduceLE, Int.reduceLT, Int.reduceNeg, reduceCtorEq, hLb], by simp only [go_sem, ↓reduceIte, Nat.reduceEqDiff, Nat.reduceLeDiff, Nat.reduceAdd, Nat.reduceMul, Nat.reduceSub, Nat.reduceBEq, Nat.reduceGT, Nat.reduceLT, Int.reduceLE, Int.reduceLT, Int.reduceNeg, reduceCtorEq]; rfl, by omega, rfl, Own.nil, Rdr.ext hrd2 (Ext.push _), by rw [hLb]; exact push_new, fun g hg => (by cases hg), by omega, fun l _ => by simp, hx2.trans ((Ext.push _).mono hx2.size)⟩
  rintro ρ H3 ⟨i, acc, v6, e0, e4, e5, e6, e7, e8, hi, hal, ho, hrd3, hLk, blL, hbd, hacc, hx3⟩
  by_cases hlt : i < N
  · have c2 : (i : Int) < (N : Int) := by omega
    simp only [go_sem, ↓reduceIte, Nat.reduceEqDiff, Nat.reduceLeDiff, Nat.reduceAdd, Nat.reduceMul, Nat.reduceSub, Nat.reduceBEq, Nat.reduceGT, Nat.reduceLT, Int.reduceLE, Int.reduceLT, Int.reduceNeg, reduceCtorEq, c53_L0, e0, e4, e5, e6, e7, e8, c2]
    refine FunI.by (F76 H.size _ ys _ H3 hrd3 hw (by omega)) ?_
    rintro _ H4 ⟨rfl, hrd4, hsz4, hfr4⟩
    have fr4 : ∀ g, g ≠ rb → H4[g]? = H3[g]? := fun g hg => hfr4 g (by intro h; cases h; exact hg rfl)
    obtain ⟨U, hU⟩ : ∃ U, U = rval ys (rdN ys (2 * i + 1)).2 := ⟨_, rfl⟩
    rw [← hU]
    have rbt : ∀ {K : Heap} {s : Nat × Int}, Rdr K H.size 130 (.pointer (some ⟨rb, 0, none⟩)) ys s → ∃ c, K[rb]? = some (.cells c 130) := by
      rintro K s ⟨b, u, h1, h2, h3, _⟩
      cases h1
      exact ⟨_, h3⟩
    have ne4 : ∀ g c (fr : Nat × Nat), H3[g]? = some (.cells c 24 fr) → g ≠ rb := by
      rintro g c fr hg rfl
      obtain ⟨c', hc'⟩ := rbt hrd3
      rw [hg] at hc'
      cases hc'
    have ho4 : Own H4 H.size 24 2 v6 (cp acc) := ho.keepT fun g c fr hg => fr4 g (ne4 g c fr hg)
    have hx4 : Ext H H4 := ⟨by rw [hsz4]; exact hx3.size, fun g hg => by rw [fr4 g (by omega), hx3.get g hg]⟩
    have kl4 := (fr4 Lb (ne4 _ _ _ hLk)).trans hLk
    have hL4 : Lb < H4.size := (Array.getElem?_eq_some_iff.1 kl4).1
    simp only [go_sem, ↓reduceIte, Nat.reduceEqDiff, Nat.reduceLeDiff, Nat.reduceAdd, Nat.reduceMul, Nat.reduceSub, Nat.reduceBEq, Nat.reduceGT, Nat.reduceLT, Int.reduceLE, Int.reduceLT, Int.reduceNeg, reduceCtorEq, e4]
    refine ⟨rfl, hcan_of push_new (by simp), ?_⟩
    rw [hput_push2]
    have hrd5 : Rdr (H4.push (.cells #[.int .i64 U, .int .i64 0] 24)) H.size 130 (.pointer (some ⟨rb, 0, none⟩)) ys (rdN ys (2 * i + 2)).2 := Rdr.ext hrd4 (Ext.push _)
    have ho5 := ho4.push (.cells #[.int .i64 U, .int .i64 0] 24)
    have k5 : (H4.push (.cells #[.int .i64 U, .int .i64 0] 24))[H4.size]? = some (.cells #[.int .i64 U, .int .i64 0] 24) := push_new
    have kl5 := (push_old (x := .cells #[.int .i64 U, .int .i64 0] 24) hL4).trans kl4
    have hx5 : Ext H (H4.push (.cells #[.int .i64 U, .int .i64 0] 24)) := hx4.trans ((Ext.push _).mono hx4.size)
    have bl5 : ∀ g, blk v6 = some g → g < H4.size := fun g hg => (ho4.blk hg).2.1
    generalize H4.push (.cells #[.int .i64 U, .int .i64 0] 24) = H5 at *
    refine FunI.by (F76 H.size _ ys _ H5 hrd5 hw (by omega)) ?_
    rintro _ H6 ⟨rfl, hrd6, hsz6, hfr6⟩
    have fr6 : ∀ g, g ≠ rb → H6[g]? = H5[g]? := fun g hg => hfr6 g (by intro h; cases h; exact hg rfl)
    obtain ⟨V, hV⟩ : ∃ V, V = rval ys (rdN ys (2 * i + 2)).2 := ⟨_, rfl⟩
    rw [← hV]
    have ne5 : ∀ g c (fr : Nat × Nat), H5[g]? = some (.cells c 24 fr) → g ≠ rb := by
      rintro g c fr hg rfl
      obtain ⟨c', hc'⟩ := rbt hrd5
      rw [hg] at hc'
      cases hc'
    have ho6 : Own H6 H.size 24 2 v6 (cp acc) := ho5.keepT fun g c fr hg => fr6 g (ne5 g c fr hg)
    have hx6 : Ext H H6 := ⟨by rw [hsz6]; exact hx5.size, fun g hg => by rw [fr6 g (by omega), hx5.get g hg]⟩
    have k6 : H6[H4.size]? = some (.cells #[.int .i64 U, .int .i64 0] 24) := (fr6 _ (ne5 _ _ _ k5)).trans k5
    have kl6 := (fr6 Lb (ne5 _ _ _ kl5)).trans kl5
    have hsH : H.size ≤ H4.size := hx4.size
    have hU0 : 0 ≤ U := by rw [hU]; exact rval_nonneg _ _
    have hV0 : 0 ≤ V := by rw [hV]; exact rval_nonneg _ _
    have hread : ∀ l, encR l = (some ys, 0) → i < l.length ∧ U = dU l i ∧ V = dV l i ∧ U < 16777216 ∧ V < 16777216 := by
      intro l h
      obtain ⟨n1, n2, _⟩ := hlen l h
      obtain ⟨a1, a2⟩ := enc_read h (k := 2 * i + 1) (by omega)
      obtain ⟨b1, b2⟩ := enc_read h (k := 2 * i + 2) (by omega)
      obtain ⟨g1, g2⟩ := nums_get l (j := i) (by omega)
      have m1 : (numsI l).getD (2 * i + 1) 0 ∈ numsI l := mem_getD (by rw [nums_len]; omega) 0
      have m2 : (numsI l).getD (2 * i + 2) 0 ∈ numsI l := mem_getD (by rw [nums_len]; omega) 0
      have r1 := enc_nums h _ m1
      have r2 := enc_nums h _ m2
      rw [← a2, ← hU] at r1
      rw [← b2, ← hV] at r2
      exact ⟨by omega, by rw [hU, a2, g1], by rw [hV, b2, g2], r1.2, r2.2⟩
    have q0 : hget H6 H4.size 0 = some (.int .i64 U) := by unfold hget; rw [k6]; rfl
    simp only [go_sem, ↓reduceIte, Nat.reduceEqDiff, Nat.reduceLeDiff, Nat.reduceAdd, Nat.reduceMul, Nat.reduceSub, Nat.reduceBEq, Nat.reduceGT, Nat.reduceLT, Int.reduceLE, Int.reduceLT, Int.reduceNeg, reduceCtorEq, q0]
    refine FunI.by (F50 U H6) ?_
    rintro _ _ ⟨rfl, rfl⟩
    cases hvU : okV U with
    | false =>
      simp only [go_sem, ↓reduceIte, Nat.reduceEqDiff, Nat.reduceLeDiff, Nat.reduceAdd, Nat.reduceMul, Nat.reduceSub, Nat.reduceBEq, Nat.reduceGT, Nat.reduceLT, Int.reduceLE, Int.reduceLT, Int.reduceNeg, reduceCtorEq]
      refine decA_none hx6 fun l h => ?_
      have := hread l h
      unfold okV at hvU
      rw [decide_eq_false_iff_not] at hvU
      omega
    | true =>
    simp only [go_sem, ↓reduceIte, Nat.reduceEqDiff, Nat.reduceLeDiff, Nat.reduceAdd, Nat.reduceMul, Nat.reduceSub, Nat.reduceBEq, Nat.reduceGT, Nat.reduceLT, Int.reduceLE, Int.reduceLT, Int.reduceNeg, reduceCtorEq]
    refine FunI.by (F50 V H6) ?_
    rintro _ _ ⟨rfl, rfl⟩
    cases hvV : okV V with
    | false =>
      simp only [go_sem, ↓reduceIte, Nat.reduceEqDiff, Nat.reduceLeDiff, Nat.reduceAdd, Nat.reduceMul, Nat.reduceSub, Nat.reduceBEq, Nat.reduceGT, Nat.reduceLT, Int.reduceLE, Int.reduceLT, Int.reduceNeg, reduceCtorEq]
      refine decA_none hx6 fun l h => ?_
      have := hread l h
      unfold okV at hvV
      rw [decide_eq_false_iff_not] at hvV
      omega
    | true =>
    have cU : U < 16777216 := by unfold okV at hvU; rw [decide_eq_true_eq] at hvU; exact hvU.2
    have cV : V < 16777216 := by unfold okV at hvV; rw [decide_eq_true_eq] at hvV; exact hvV.2
    have k7 : (hput H6 H4.size 1 [.int .i64 V])[H4.size]? = some (.cells #[.int .i64 U, .int .i64 V] 24) := hput_same k6
    have kl7 : (hput H6 H4.size 1 [.int .i64 V])[Lb]? = some (.cells #[.int .i64 (lastI acc i).1, .int .i64 (lastI acc i).2] 24) := (hput_other _ _ _ _ (by omega)).trans kl6
    have ho7 : Own (hput H6 H4.size 1 [.int .i64 V]) H.size 24 2 v6 (cp acc) := ho6.keep fun g hg => hput_other _ _ _ _ (by have := bl5 g hg; omega)
    have hx7 : Ext H (hput H6 H4.size 1 [.int .i64 V]) := hx6.hput hsH
    have hrd7 : Rdr (hput H6 H4.size 1 [.int .i64 V]) H.size 130 (.pointer (some ⟨rb, 0, none⟩)) ys (rdN ys (2 * i + 3)).2 := rdr_keep (by decide) hrd6 fun b c e fr hb he => hput_other _ _ _ _ (by
      rintro rfl
      rw [k6] at hb
      cases hb
      exact he rfl)
    have p0 : hget (hput H6 H4.size 1 [.int .i64 V]) H4.size 0 = some (.int .i64 U) := by unfold hget; rw [k7]; rfl
    have p1 : hget (hput H6 H4.size 1 [.int .i64 V]) H4.size 1 = some (.int .i64 V) := by unfold hget; rw [k7]; rfl
    have p2 : hget (hput H6 H4.size 1 [.int .i64 V]) Lb 0 = some (.int .i64 (lastI acc i).1) := by unfold hget; rw [kl7]; rfl
    have p3 : hget (hput H6 H4.size 1 [.int .i64 V]) Lb 1 = some (.int .i64 (lastI acc i).2) := by unfold hget; rw [kl7]; rfl
    have hll : 0 ≤ (lastI acc i).1 ∧ (lastI acc i).1 ≤ 16777217 * i ∧ 0 ≤ (lastI acc i).2 ∧ (lastI acc i).2 ≤ 16777217 * i := by
      unfold lastI
      split
      · simp only; omega
      · exact hbd (i - 1) (by omega)
    have hac : ∀ u v : Int, i ≠ 0 → arcOf acc u v = ((lastI acc i).1 + u, if u = 0 then v + ((lastI acc i).2 + 1) else v) := fun u v h0 => by
      unfold arcOf lastI
      rw [if_neg (by omega), if_neg h0, hal]
    have wU : IntKind.i64.wrap ((lastI acc i).1 + U) = (lastI acc i).1 + U := w64_id (by omega) (by omega)
    have wV1 : IntKind.i64.wrap ((lastI acc i).2 + 1) = (lastI acc i).2 + 1 := w64_id (by omega) (by omega)
    have wV2 : IntKind.i64.wrap ((lastI acc i).2 + 1 + V) = (lastI acc i).2 + 1 + V := w64_id (by omega) (by omega)
    simp only [go_sem, ↓reduceIte, Nat.reduceEqDiff, Nat.reduceLeDiff, Nat.reduceAdd, Nat.reduceMul, Nat.reduceSub, Nat.reduceBEq, Nat.reduceGT, Nat.reduceLT, Int.reduceLE, Int.reduceLT, Int.reduceNeg, reduceCtorEq, e8]
    refine ⟨rfl, hcan_of k6 (by simp), ?_⟩
    generalize hput H6 H4.size 1 [.int .i64 V] = H7 at *
    by_cases hU1 : 0 < i ∧ U = 0
    · have c3 : (0 : Int) < (i : Int) := by omega
      have hU2 : (U = 0) = True := eq_true hU1.2
      have kc : (hput H7 H4.size 1 [.int .i64 ((lastI acc i).2 + 1 + V)])[H4.size]? = some (.cells #[.int .i64 U, .int .i64 ((lastI acc i).2 + 1 + V)] 24) := hput_same k7
      have kl : (hput H7 H4.size 1 [.int .i64 ((lastI acc i).2 + 1 + V)])[Lb]? = some (.cells #[.int .i64 (lastI acc i).1, .int .i64 (lastI acc i).2] 24) := (hput_other _ _ _ _ (by omega)).trans kl7
      have p4 : hget (hput H7 H4.size 1 [.int .i64 ((lastI acc i).2 + 1 + V)]) H4.size 0 = some (.int .i64 U) := by unfold hget; rw [kc]; rfl
      have p5 : hget (hput H7 H4.size 1 [.int .i64 ((lastI acc i).2 + 1 + V)]) Lb 0 = some (.int .i64 (lastI acc i).1) := by unfold hget; rw [kl]; rfl
      simp only [go_sem, ↓reduceIte, Nat.reduceEqDiff, Nat.reduceLeDiff, Nat.reduceAdd, Nat.reduceMul, Nat.reduceSub, Nat.reduceBEq, Nat.reduceGT, Nat.reduceLT, Int.reduceLE, Int.reduceLT, Int.reduceNeg, reduceCtorEq, e7, e8, p0, p1, p2, p3, c3, hU2, wV1, wV2, p4, p5, wU]
      refine ⟨rfl, hcan_of k7 (by simp), rfl, hcan_of kc (by simp), ?_⟩
      have kk : (hput (hput H7 H4.size 1 [.int .i64 ((lastI acc i).2 + 1 + V)]) H4.size 0 [.int .i64 ((lastI acc i).1 + U)])[H4.size]? = some (.cells #[.int .i64 ((lastI acc i).1 + U), .int .i64 ((lastI acc i).2 + 1 + V)] 24) := hput_same kc
      have hoK : Own (hput (hput H7 H4.size 1 [.int .i64 ((lastI acc i).2 + 1 + V)]) H4.size 0 [.int .i64 ((lastI acc i).1 + U)]) H.size 24 2 v6 (cp acc) := (ho7.keep fun g hg => hput_other _ _ _ _ (by have := bl5 g hg; omega)).keep fun g hg => hput_other _ _ _ _ (by have := bl5 g hg; omega)
      have hrK : Rdr (hput (hput H7 H4.size 1 [.int .i64 ((lastI acc i).2 + 1 + V)]) H4.size 0 [.int .i64 ((lastI acc i).1 + U)]) H.size 130 (.pointer (some ⟨rb, 0, none⟩)) ys (rdN ys (2 * (i + 1) + 1)).2 := rdr_keep (by decide) (rdr_keep (by decide) hrd7 fun b c e fr hb he => hput_other _ _ _ _ (by rintro rfl; rw [k7] at hb; cases hb; exact he rfl)) fun b c e fr hb he => hput_other _ _ _ _ (by rintro rfl; rw [kc] at hb; cases hb; exact he rfl)
      have hlK : (hput (hput H7 H4.size 1 [.int .i64 ((lastI acc i).2 + 1 + V)]) H4.size 0 [.int .i64 ((lastI acc i).1 + U)])[Lb]? = some (.cells #[.int .i64 (lastI acc i).1, .int .i64 (lastI acc i).2] 24) := (hput_other _ _ _ _ (by omega)).trans kl
      have hxK : Ext H (hput (hput H7 H4.size 1 [.int .i64 ((lastI acc i).2 + 1 + V)]) H4.size 0 [.int .i64 ((lastI acc i).1 + U)]) := (hx7.hput hsH).hput hsH
      generalize hput (hput H7 H4.size 1 [.int .i64 ((lastI acc i).2 + 1 + V)]) H4.size 0 [.int .i64 ((lastI acc i).1 + U)] = K at *
      have q4 : hget K H4.size 0 = some (.int .i64 ((lastI acc i).1 + U)) := by unfold hget; rw [kk]; rfl
      have q5 : hget K H4.size 1 = some (.int .i64 ((lastI acc i).2 + 1 + V)) := by unfold hget; rw [kk]; rfl
      have hbk : ∀ g, blk v6 = some g → g < H4.size ∧ g ≠ Lb := fun g hg => ⟨bl5 g hg, blL g hg⟩
      simp only [go_sem, ↓reduceIte, Nat.reduceEqDiff, Nat.reduceLeDiff, Nat.reduceAdd, Nat.reduceMul, Nat.reduceSub, Nat.reduceBEq, Nat.reduceGT, Nat.reduceLT, Int.reduceLE, Int.reduceLT, Int.reduceNeg, reduceCtorEq, e6, q4, q5, Option.bind_some]
      refine RunI.by (append_lit ty22 ty24 rfl (by decide) hoK (ys := [.int .i64 ((lastI acc i).1 + U), .int .i64 ((lastI acc i).2 + 1 + V)]) (m := 1) rfl rfl (n := i + 1) (by rw [cp_len, hal]; simp; omega) (by omega) (by omega) hxK.size) ?_
      rintro w6 K2 ⟨hoK2, hgK, _⟩
      have hxK2 := hxK.trans (hgK.upto hoK hxK.size)
      have hsK : H4.size < K.size := (Array.getElem?_eq_some_iff.1 kk).1
      have hsL : Lb < K.size := (Array.getElem?_eq_some_iff.1 hlK).1
      have kk2 : K2[H4.size]? = some (.cells #[.int .i64 ((lastI acc i).1 + U), .int .i64 ((lastI acc i).2 + 1 + V)] 24) := (hgK.but.get _ hsK (fun h => by have := bl5 _ h.symm; omega)).trans kk
      have kl2 : K2[Lb]? = some (.cells #[.int .i64 (lastI acc i).1, .int .i64 (lastI acc i).2] 24) := (hgK.but.get _ hsL (fun h => blL _ h.symm rfl)).trans hlK
      have q6 : hget K2 H4.size 0 = some (.int .i64 ((lastI acc i).1 + U)) := by unfold hget; rw [kk2]; rfl
      have q7 : hget K2 H4.size 1 = some (.int .i64 ((lastI acc i).2 + 1 + V)) := by unfold hget; rw [kk2]; rfl
      have blw : ∀ g, blk w6 = some g → g ≠ Lb := by
        intro g hg
        rcases hgK.at' with h | ⟨k, h, hk⟩
        · exact blL g (by rw [← h]; exact hg)
        · rw [h] at hg; cases hg; omega
      have hrK2 : Rdr K2 H.size 130 (.pointer (some ⟨rb, 0, none⟩)) ys (rdN ys (2 * (i + 1) + 1)).2 := rdr_keep (by decide) hrK fun b c e fr hb he => hgK.but.get b (Array.getElem?_eq_some_iff.1 hb).1 fun h => by
        obtain ⟨_, _, c', hc'⟩ := hoK.blk h.symm
        rw [hb] at hc'
        cases hc'
        exact he rfl
      simp only [go_sem, ↓reduceIte, Nat.reduceEqDiff, Nat.reduceLeDiff, Nat.reduceAdd, Nat.reduceMul, Nat.reduceSub, Nat.reduceBEq, Nat.reduceGT, Nat.reduceLT, Int.reduceLE, Int.reduceLT, Int.reduceNeg, reduceCtorEq, e7, e8, q6, q7, Option.bind_some, w64_id (n := (i : Int) + 1) (by omega) (by omega)]
      have harc : arcOf acc U V = (((lastI acc i).1 + U), ((lastI acc i).2 + 1 + V)) := by rw [hac U V (by omega), if_pos hU1.2, Int.add_comm V]
      refine ⟨rfl, hcan_of kl2 (by simp), Hold.mk ⟨i + 1, acc ++ [(((lastI acc i).1 + U), ((lastI acc i).2 + 1 + V))], w6, by simp only [go_sem, ↓reduceIte, Nat.reduceEqDiff, Nat.reduceLeDiff, Nat.reduceAdd, Nat.reduceMul, Nat.reduceSub, Nat.reduceBEq, Nat.reduceGT, Nat.reduceLT, Int.reduceLE, Int.reduceLT, Int.reduceNeg, reduceCtorEq, e0], by simp only [go_sem, ↓reduceIte, Nat.reduceEqDiff, Nat.reduceLeDiff, Nat.reduceAdd, Nat.reduceMul, Nat.reduceSub, Nat.reduceBEq, Nat.reduceGT, Nat.reduceLT, Int.reduceLE, Int.reduceLT, Int.reduceNeg, reduceCtorEq, e4], by simp only [go_sem, ↓reduceIte, Nat.reduceEqDiff, Nat.reduceLeDiff, Nat.reduceAdd, Nat.reduceMul, Nat.reduceSub, Nat.reduceBEq, Nat.reduceGT, Nat.reduceLT, Int.reduceLE, Int.reduceLT, Int.reduceNeg, reduceCtorEq, e5], by simp only [go_sem, ↓reduceIte, Nat.reduceEqDiff, Nat.reduceLeDiff, Nat.reduceAdd, Nat.reduceMul, Nat.reduceSub, Nat.reduceBEq, Nat.reduceGT, Nat.reduceLT, Int.reduceLE, Int.reduceLT, Int.reduceNeg, reduceCtorEq], by simp only [go_sem, ↓reduceIte, Nat.reduceEqDiff, Nat.reduceLeDiff, Nat.reduceAdd, Nat.reduceMul, Nat.reduceSub, Nat.reduceBEq, Nat.reduceGT, Nat.reduceLT, Int.reduceLE, Int.reduceLT, Int.reduceNeg, reduceCtorEq, e7], by simp only [go_sem, ↓reduceIte, Nat.reduceEqDiff, Nat.reduceLeDiff, Nat.reduceAdd, Nat.reduceMul, Nat.reduceSub, Nat.reduceBEq, Nat.reduceGT, Nat.reduceLT, Int.reduceLE, Int.reduceLT, Int.reduceNeg, reduceCtorEq]; rfl, by omega, by rw [List.length_append, hal]; rfl, ?_, ?_, ?_, fun g hg => blw g hg, ?_, ?_, hxK2.hput hLH⟩, by omega⟩
      · rw [cp_app]
        exact hoK2.keep fun g hg => hput_other _ _ _ _ (blw g hg)
      · exact rdr_keep (by decide) hrK2 fun b c e fr hb he => hput_other _ _ _ _ (by
          rintro rfl
          rw [kl2] at hb
          cases hb
          exact he rfl)
      · rw [hput_same kl2]
        have : lastI (acc ++ [(((lastI acc i).1 + U), ((lastI acc i).2 + 1 + V))]) (i + 1) = (((lastI acc i).1 + U), ((lastI acc i).2 + 1 + V)) := by
          unfold lastI
          rw [if_neg (by omega), Nat.add_sub_cancel, List.getD_eq_getElem?_getD, List.getElem?_append_right (by omega), hal, Nat.sub_self]
          rfl
        rw [this]
        rfl
      · intro j hj
        by_cases hji : j = i
        · rw [hji, List.getD_eq_getElem?_getD, List.getElem?_append_right (by omega), hal]
          simp only [Nat.sub_self, List.getElem?_cons_zero, Option.getD_some]
          omega
        · have := hbd j (by omega)
          rw [List.getD_eq_getElem?_getD, List.getElem?_append_left (by omega), ← List.getD_eq_getElem?_getD]
          omega
      · intro l h
        obtain ⟨r1, r2, r3, _, _⟩ := hread l h
        have h1 := hacc l h
        have h2 := enc_arc h r1
        rw [← r2, ← r3, ← h1, harc] at h2
        rw [take_succ_getD r1 (0, 0), ← h1, h2]
    · have kc : (hput H7 H4.size 0 [.int .i64 ((lastI acc i).1 + U)])[H4.size]? = some (.cells #[.int .i64 ((lastI acc i).1 + U), .int .i64 V] 24) := hput_same k7
      have harc0 : arcOf acc U V = ((lastI acc i).1 + U, V) := by
        by_cases hi0 : i = 0
        · have : lastI acc i = (0, 0) := by unfold lastI; rw [if_pos hi0]
          unfold arcOf
          rw [if_pos (by omega), this]
          simp
        · rw [hac U V hi0, if_neg (by omega)]
      have go : ∀ c4 : Bool, c4 = decide (0 < i) → True := fun _ _ => trivial
      by_cases hi0 : 0 < i
      · have c3 : (0 : Int) < (i : Int) := by omega
        have hU3 : (U = 0) = False := eq_false (by omega)
        simp only [go_sem, ↓reduceIte, Nat.reduceEqDiff, Nat.reduceLeDiff, Nat.reduceAdd, Nat.reduceMul, Nat.reduceSub, Nat.reduceBEq, Nat.reduceGT, Nat.reduceLT, Int.reduceLE, Int.reduceLT, Int.reduceNeg, reduceCtorEq, e7, e8, p0, p1, p2, p3, c3, hU3, wU]
        refine ⟨rfl, hcan_of k7 (by simp), ?_⟩
        have kk : (hput H7 H4.size 0 [.int .i64 ((lastI acc i).1 + U)])[H4.size]? = some (.cells #[.int .i64 ((lastI acc i).1 + U), .int .i64 V] 24) := kc
        have hoK : Own (hput H7 H4.size 0 [.int .i64 ((lastI acc i).1 + U)]) H.size 24 2 v6 (cp acc) := ho7.keep fun g hg => hput_other _ _ _ _ (by have := bl5 g hg; omega)
        have hrK : Rdr (hput H7 H4.size 0 [.int .i64 ((lastI acc i).1 + U)]) H.size 130 (.pointer (some ⟨rb, 0, none⟩)) ys (rdN ys (2 * (i + 1) + 1)).2 := rdr_keep (by decide) hrd7 fun b c e fr hb he => hput_other _ _ _ _ (by rintro rfl; rw [k7] at hb; cases hb; exact he rfl)
        have hlK : (hput H7 H4.size 0 [.int .i64 ((lastI acc i).1 + U)])[Lb]? = some (.cells #[.int .i64 (lastI acc i).1, .int .i64 (lastI acc i).2] 24) := (hput_other _ _ _ _ (by omega)).trans kl7
        have hxK : Ext H (hput H7 H4.size 0 [.int .i64 ((lastI acc i).1 + U)]) := hx7.hput hsH
        generalize hput H7 H4.size 0 [.int .i64 ((lastI acc i).1 + U)] = K at *
        have q4 : hget K H4.size 0 = some (.int .i64 ((lastI acc i).1 + U)) := by unfold hget; rw [kk]; rfl
        have q5 : hget K H4.size 1 = some (.int .i64 V) := by unfold hget; rw [kk]; rfl
        have hbk : ∀ g, blk v6 = some g → g < H4.size ∧ g ≠ Lb := fun g hg => ⟨bl5 g hg, blL g hg⟩
        simp only [go_sem, ↓reduceIte, Nat.reduceEqDiff, Nat.reduceLeDiff, Nat.reduceAdd, Nat.reduceMul, Nat.reduceSub, Nat.reduceBEq, Nat.reduceGT, Nat.reduceLT, Int.reduceLE, Int.reduceLT, Int.reduceNeg, reduceCtorEq, e6, q4, q5, Option.bind_some]
        refine RunI.by (append_lit ty22 ty24 rfl (by decide) hoK (ys := [.int .i64 ((lastI acc i).1 + U), .int .i64 V]) (m := 1) rfl rfl (n := i + 1) (by rw [cp_len, hal]; simp; omega) (by omega) (by omega) hxK.size) ?_
        rintro w6 K2 ⟨hoK2, hgK, _⟩
        have hxK2 := hxK.trans (hgK.upto hoK hxK.size)
        have hsK : H4.size < K.size := (Array.getElem?_eq_some_iff.1 kk).1
        have hsL : Lb < K.size := (Array.getElem?_eq_some_iff.1 hlK).1
        have kk2 : K2[H4.size]? = some (.cells #[.int .i64 ((lastI acc i).1 + U), .int .i64 V] 24) := (hgK.but.get _ hsK (fun h => by have := bl5 _ h.symm; omega)).trans kk
        have kl2 : K2[Lb]? = some (.cells #[.int .i64 (lastI acc i).1, .int .i64 (lastI acc i).2] 24) := (hgK.but.get _ hsL (fun h => blL _ h.symm rfl)).trans hlK
        have q6 : hget K2 H4.size 0 = some (.int .i64 ((lastI acc i).1 + U)) := by unfold hget; rw [kk2]; rfl
        have q7 : hget K2 H4.size 1 = some (.int .i64 V) := by unfold hget; rw [kk2]; rfl
        have blw : ∀ g, blk w6 = some g → g ≠ Lb := by
          intro g hg
          rcases hgK.at' with h | ⟨k, h, hk⟩
          · exact blL g (by rw [← h]; exact hg)
          · rw [h] at hg; cases hg; omega
        have hrK2 : Rdr K2 H.size 130 (.pointer (some ⟨rb, 0, none⟩)) ys (rdN ys (2 * (i + 1) + 1)).2 := rdr_keep (by decide) hrK fun b c e fr hb he => hgK.but.get b (Array.getElem?_eq_some_iff.1 hb).1 fun h => by
          obtain ⟨_, _, c', hc'⟩ := hoK.blk h.symm
          rw [hb] at hc'
          cases hc'
          exact he rfl
        simp only [go_sem, ↓reduceIte, Nat.reduceEqDiff, Nat.reduceLeDiff, Nat.reduceAdd, Nat.reduceMul, Nat.reduceSub, Nat.reduceBEq, Nat.reduceGT, Nat.reduceLT, Int.reduceLE, Int.reduceLT, Int.reduceNeg, reduceCtorEq, e7, e8, q6, q7, Option.bind_some, w64_id (n := (i : Int) + 1) (by omega) (by omega)]
        have harc : arcOf acc U V = (((lastI acc i).1 + U), V) := harc0
        refine ⟨rfl, hcan_of kl2 (by simp), Hold.mk ⟨i + 1, acc ++ [(((lastI acc i).1 + U), V)], w6, by simp only [go_sem, ↓reduceIte, Nat.reduceEqDiff, Nat.reduceLeDiff, Nat.reduceAdd, Nat.reduceMul, Nat.reduceSub, Nat.reduceBEq, Nat.reduceGT, Nat.reduceLT, Int.reduceLE, Int.reduceLT, Int.reduceNeg, reduceCtorEq, e0], by simp only [go_sem, ↓reduceIte, Nat.reduceEqDiff, Nat.reduceLeDiff, Nat.reduceAdd, Nat.reduceMul, Nat.reduceSub, Nat.reduceBEq, Nat.reduceGT, Nat.reduceLT, Int.reduceLE, Int.reduceLT, Int.reduceNeg, reduceCtorEq, e4], by simp only [go_sem, ↓reduceIte, Nat.reduceEqDiff, Nat.reduceLeDiff, Nat.reduceAdd, Nat.reduceMul, Nat.reduceSub, Nat.reduceBEq, Nat.reduceGT, Nat.reduceLT, Int.reduceLE, Int.reduceLT, Int.reduceNeg, reduceCtorEq, e5], by simp only [go_sem, ↓reduceIte, Nat.reduceEqDiff, Nat.reduceLeDiff, Nat.reduceAdd, Nat.reduceMul, Nat.reduceSub, Nat.reduceBEq, Nat.reduceGT, Nat.reduceLT, Int.reduceLE, Int.reduceLT, Int.reduceNeg, reduceCtorEq], by simp only [go_sem, ↓reduceIte, Nat.reduceEqDiff, Nat.reduceLeDiff, Nat.reduceAdd, Nat.reduceMul, Nat.reduceSub, Nat.reduceBEq, Nat.reduceGT, Nat.reduceLT, Int.reduceLE, Int.reduceLT, Int.reduceNeg, reduceCtorEq, e7], by simp only [go_sem, ↓reduceIte, Nat.reduceEqDiff, Nat.reduceLeDiff, Nat.reduceAdd, Nat.reduceMul, Nat.reduceSub, Nat.reduceBEq, Nat.reduceGT, Nat.reduceLT, Int.reduceLE, Int.reduceLT, Int.reduceNeg, reduceCtorEq]; rfl, by omega, by rw [List.length_append, hal]; rfl, ?_, ?_, ?_, fun g hg => blw g hg, ?_, ?_, hxK2.hput hLH⟩, by omega⟩
        · rw [cp_app]
          exact hoK2.keep fun g hg => hput_other _ _ _ _ (blw g hg)
        · exact rdr_keep (by decide) hrK2 fun b c e fr hb he => hput_other _ _ _ _ (by
            rintro rfl
            rw [kl2] at hb
            cases hb
            exact he rfl)
        · rw [hput_same kl2]
          have : lastI (acc ++ [(((lastI acc i).1 + U), V)]) (i + 1) = (((lastI acc i).1 + U), V) := by
            unfold lastI
            rw [if_neg (by omega), Nat.add_sub_cancel, List.getD_eq_getElem?_getD, List.getElem?_append_right (by omega), hal, Nat.sub_self]
            rfl
          rw [this]
          rfl
        · intro j hj
          by_cases hji : j = i
          · rw [hji, List.getD_eq_getElem?_getD, List.getElem?_append_right (by omega), hal]
            simp only [Nat.sub_self, List.getElem?_cons_zero, Option.getD_some]
            omega
          · have := hbd j (by omega)
            rw [List.getD_eq_getElem?_getD, List.getElem?_append_left (by omega), ← List.getD_eq_getElem?_getD]
            omega
        · intro l h
          obtain ⟨r1, r2, r3, _, _⟩ := hread l h
          have h1 := hacc l h
          have h2 := enc_arc h r1
          rw [← r2, ← r3, ← h1, harc] at h2
          rw [take_succ_getD r1 (0, 0), ← h1, h2]
      · have c3 : ¬ (0 : Int) < (i : Int) := by omega
        simp only [go_sem, ↓reduceIte, Nat.reduceEqDiff, Nat.reduceLeDiff, Nat.reduceAdd, Nat.reduceMul, Nat.reduceSub, Nat.reduceBEq, Nat.reduceGT, Nat.reduceLT, Int.reduceLE, Int.reduceLT, Int.reduceNeg, reduceCtorEq, e7, e8, p0, p1, p2, p3, c3, wU]
        refine ⟨rfl, hcan_of k7 (by simp), ?_⟩
        have kk : (hput H7 H4.size 0 [.int .i64 ((lastI acc i).1 + U)])[H4.size]? = some (.cells #[.int .i64 ((lastI acc i).1 + U), .int .i64 V] 24) := kc
        have hoK : Own (hput H7 H4.size 0 [.int .i64 ((lastI acc i).1 + U)]) H.size 24 2 v6 (cp acc) := ho7.keep fun g hg => hput_other _ _ _ _ (by have := bl5 g hg; omega)
        have hrK : Rdr (hput H7 H4.size 0 [.int .i64 ((lastI acc i).1 + U)]) H.size 130 (.pointer (some ⟨rb, 0, none⟩)) ys (rdN ys (2 * (i + 1) + 1)).2 := rdr_keep (by decide) hrd7 fun b c e fr hb he => hput_other _ _ _ _ (by rintro rfl; rw [k7] at hb; cases hb; exact he rfl)
        have hlK : (hput H7 H4.size 0 [.int .i64 ((lastI acc i).1 + U)])[Lb]? = some (.cells #[.int .i64 (lastI acc i).1, .int .i64 (lastI acc i).2] 24) := (hput_other _ _ _ _ (by omega)).trans kl7
        have hxK : Ext H (hput H7 H4.size 0 [.int .i64 ((lastI acc i).1 + U)]) := hx7.hput hsH
        generalize hput H7 H4.size 0 [.int .i64 ((lastI acc i).1 + U)] = K at *
        have q4 : hget K H4.size 0 = some (.int .i64 ((lastI acc i).1 + U)) := by unfold hget; rw [kk]; rfl
        have q5 : hget K H4.size 1 = some (.int .i64 V) := by unfold hget; rw [kk]; rfl
        have hbk : ∀ g, blk v6 = some g → g < H4.size ∧ g ≠ Lb := fun g hg => ⟨bl5 g hg, blL g hg⟩
        simp only [go_sem, ↓reduceIte, Nat.reduceEqDiff, Nat.reduceLeDiff, Nat.reduceAdd, Nat.reduceMul, Nat.reduceSub, Nat.reduceBEq, Nat.reduceGT, Nat.reduceLT, Int.reduceLE, Int.reduceLT, Int.reduceNeg, reduceCtorEq, e6, q4, q5, Option.bind_some]
        refine RunI.by (append_lit ty22 ty24 rfl (by decide) hoK (ys := [.int .i64 ((lastI acc i).1 + U), .int .i64 V]) (m := 1) rfl rfl (n := i + 1) (by rw [cp_len, hal]; simp; omega) (by omega) (by omega) hxK.size) ?_
        rintro w6 K2 ⟨hoK2, hgK, _⟩
        have hxK2 := hxK.trans (hgK.upto hoK hxK.size)
        have hsK : H4.size < K.size := (Array.getElem?_eq_some_iff.1 kk).1
        have hsL : Lb < K.size := (Array.getElem?_eq_some_iff.1 hlK).1
        have kk2 : K2[H4.size]? = some (.cells #[.int .i64 ((lastI acc i).1 + U), .int .i64 V] 24) := (hgK.but.get _ hsK (fun h => by have := bl5 _ h.symm; omega)).trans kk
        have kl2 : K2[Lb]? = some (.cells #[.int .i64 (lastI acc i).1, .int .i64 (lastI acc i).2] 24) := (hgK.but.get _ hsL (fun h => blL _ h.symm rfl)).trans hlK
        have q6 : hget K2 H4.size 0 = some (.int .i64 ((lastI acc i).1 + U)) := by unfold hget; rw [kk2]; rfl
        have q7 : hget K2 H4.size 1 = some (.int .i64 V) := by unfold hget; rw [kk2]; rfl
        have blw : ∀ g, blk w6 = some g → g ≠ Lb := by
          intro g hg
          rcases hgK.at' with h | ⟨k, h, hk⟩
          · exact blL g (by rw [← h]; exact hg)
          · rw [h] at hg; cases hg; omega
        have hrK2 : Rdr K2 H.size 130 (.pointer (some ⟨rb, 0, none⟩)) ys (rdN ys (2 * (i + 1) + 1)).2 := rdr_keep (by decide) hrK fun b c e fr hb he => hgK.but.get b (Array.getElem?_eq_some_iff.1 hb).1 fun h => by
          obtain ⟨_, _, c', hc'⟩ := hoK.blk h.symm
          rw [hb] at hc'
          cases hc'
          exact he rfl
        simp only [go_sem, ↓reduceIte, Nat.reduceEqDiff, Nat.reduceLeDiff, Nat.reduceAdd, Nat.reduceMul, Nat.reduceSub, Nat.reduceBEq, Nat.reduceGT, Nat.reduceLT, Int.reduceLE, Int.reduceLT, Int.reduceNeg, reduceCtorEq, e7, e8, q6, q7, Option.bind_some, w64_id (n := (i : Int) + 1) (by omega) (by omega)]
        have harc : arcOf acc U V = (((lastI acc i).1 + U), V) := harc0
        refine ⟨rfl, hcan_of kl2 (by simp), Hold.mk ⟨i + 1, acc ++ [(((lastI acc i).1 + U), V)], w6, by simp only [go_sem, ↓reduceIte, Nat.reduceEqDiff, Nat.reduceLeDiff, Nat.reduceAdd, Nat.reduceMul, Nat.reduceSub, Nat.reduceBEq, Nat.reduceGT, Nat.reduceLT, Int.reduceLE, Int.reduceLT, Int.reduceNeg, reduceCtorEq, e0], by simp only [go_sem, ↓reduceIte, Nat.reduceEqDiff, Nat.reduceLeDiff, Nat.reduceAdd, Nat.reduceMul, Nat.reduceSub, Nat.reduceBEq, Nat.reduceGT, Nat.reduceLT, Int.reduceLE, Int.reduceLT, Int.reduceNeg, reduceCtorEq, e4], by simp only [go_sem, ↓reduceIte, Nat.reduceEqDiff, Nat.reduceLeDiff, Nat.reduceAdd, Nat.reduceMul, Nat.reduceSub, Nat.reduceBEq, Nat.reduceGT, Nat.reduceLT, Int.reduceLE, Int.reduceLT, Int.reduceNeg, reduceCtorEq, e5], by simp only [go_sem, ↓reduceIte, Nat.reduceEqDiff, Nat.reduceLeDiff, Nat.reduceAdd, Nat.reduceMul, Nat.reduceSub, Nat.reduceBEq, Nat.reduceGT, Nat.reduceLT, Int.reduceLE, Int.reduceLT, Int.reduceNeg, reduceCtorEq], by simp only [go_sem, ↓reduceIte, Nat.reduceEqDiff, Nat.reduceLeDiff, Nat.reduceAdd, Nat.reduceMul, Nat.reduceSub, Nat.reduceBEq, Nat.reduceGT, Nat.reduceLT, Int.reduceLE, Int.reduceLT, Int.reduceNeg, reduceCtorEq, e7], by simp only [go_sem, ↓reduceIte, Nat.reduceEqDiff, Nat.reduceLeDiff, Nat.reduceAdd, Nat.reduceMul, Nat.reduceSub, Nat.reduceBEq, Nat.reduceGT, Nat.reduceLT, Int.reduceLE, Int.reduceLT, Int.reduceNeg, reduceCtorEq]; rfl, by omega, by rw [List.length_append, hal]; rfl, ?_, ?_, ?_, fun g hg => blw g hg, ?_, ?_, hxK2.hput hLH⟩, by omega⟩
        · rw [cp_app]
          exact hoK2.keep fun g hg => hput_other _ _ _ _ (blw g hg)
        · exact rdr_keep (by decide) hrK2 fun b c e fr hb he => hput_other _ _ _ _ (by
            rintro rfl
            rw [kl2] at hb
            cases hb
            exact he rfl)
        · rw [hput_same kl2]
          have : lastI (acc ++ [(((lastI acc i).1 + U), V)]) (i + 1) = (((lastI acc i).1 + U), V) := by
            unfold lastI
            rw [if_neg (by omega), Nat.add_sub_cancel, List.getD_eq_getElem?_getD, List.getElem?_append_right (by omega), hal, Nat.sub_self]
            rfl
          rw [this]
          rfl
        · intro j hj
          by_cases hji : j = i
          · rw [hji, List.getD_eq_getElem?_getD, List.getElem?_append_right (by omega), hal]
            simp only [Nat.sub_self, List.getElem?_cons_zero, Option.getD_some]
            omega
          · have := hbd j (by omega)
            rw [List.getD_eq_getElem?_getD, List.getElem?_append_left (by omega), ← List.getD_eq_getElem?_getD]
            omega
        · intro l h
          obtain ⟨r1, r2, r3, _, _⟩ := hread l h
          have h1 := hacc l h
          have h2 := enc_arc h r1
          rw [← r2, ← r3, ← h1, harc] at h2
          rw [take_succ_getD r1 (0, 0), ← h1, h2]
  · have c2 : ¬ (i : Int) < (N : Int) := by omega
    have hiN : i = N := by omega
    subst hiN
    obtain ⟨w1, w2, rfl⟩ := prs_form (show Prs H3 v6 acc from ho.sl)
    simp only [go_sem, ↓reduceIte, Nat.reduceEqDiff, Nat.reduceLeDiff, Nat.reduceAdd, Nat.reduceMul, Nat.reduceSub, Nat.reduceBEq, Nat.reduceGT, Nat.reduceLT, Int.reduceLE, Int.reduceLT, Int.reduceNeg, reduceCtorEq, c53_L0, e0, e4, e5, e6, e7, e8, c2]
    refine FunI.by (F21 _ acc H3 ho.sl) ?_
    rintro r H4 ⟨hx4, w, rfl, how⟩
    have hxa := hx3.trans (hx4.mono hx3.size)
    by_cases hc : (encR acc).2 = 0
    · have hsome : ∃ zs, encR acc = (some zs, 0) := by
        unfold encR at hc ⊢
        split
        · rename_i h; rw [if_pos h] at hc; cases hc
        · rename_i h
          rw [if_neg h] at hc
          split
          · rename_i h; rw [if_pos h] at hc; cases hc
          · rename_i h
            rw [if_neg h] at hc
            split
            · rename_i h; rw [if_pos h] at hc; cases hc
            · exact ⟨_, rfl⟩
      obtain ⟨zs, hzs⟩ := hsome
      rw [hzs] at how
      have hoz : Own H4 H3.size 5 1 w (zs.map (.int .u8)) := how
      simp only [go_sem, ↓reduceIte, Nat.reduceEqDiff, Nat.reduceLeDiff, Nat.reduceAdd, Nat.reduceMul, Nat.reduceSub, Nat.reduceBEq, Nat.reduceGT, Nat.reduceLT, Int.reduceLE, Int.reduceLT, Int.reduceNeg, reduceCtorEq, hc, e0]
      refine FunI.by (F22 w _ zs ys H4 hoz.sl (hv.ext hxa) (enc_byt hzs) hw) ?_
      rintro _ _ ⟨rfl, rfl⟩
      by_cases hyz : zs = ys
      · subst hyz
        simp only [go_sem, ↓reduceIte, Nat.reduceEqDiff, Nat.reduceLeDiff, Nat.reduceAdd, Nat.reduceMul, Nat.reduceSub, Nat.reduceBEq, Nat.reduceGT, Nat.reduceLT, Int.reduceLE, Int.reduceLT, Int.reduceNeg, reduceCtorEq, decide_true, e6]
        refine ⟨hxa, some acc, fun l => ⟨fun h => by cases h; exact hzs, fun h => ?_⟩, _, rfl, ho.ext hx4⟩
        have h1 := hacc l h
        obtain ⟨n1, _⟩ := hlen l h
        rw [h1, List.take_of_length_le (by omega)]
      · simp only [go_sem, ↓reduceIte, Nat.reduceEqDiff, Nat.reduceLeDiff, Nat.reduceAdd, Nat.reduceMul, Nat.reduceSub, Nat.reduceBEq, Nat.reduceGT, Nat.reduceLT, Int.reduceLE, Int.reduceLT, Int.reduceNeg, reduceCtorEq, hyz, decide_false]
        refine decA_none hxa fun l h => ?_
        have h1 := hacc l h
        obtain ⟨n1, _⟩ := hlen l h
        rw [List.take_of_length_le (by omega)] at h1
        rw [← h1, hzs] at h
        exact hyz (by simpa using h)
    · simp only [go_sem, ↓reduceIte, Nat.reduceEqDiff, Nat.reduceLeDiff, Nat.reduceAdd, Nat.reduceMul, Nat.reduceSub, Nat.reduceBEq, Nat.reduceGT, Nat.reduceLT, Int.reduceLE, Int.reduceLT, Int.reduceNeg, reduceCtorEq, hc]
      refine decA_none hxa fun l h => ?_
      have h1 := hacc l h
      obtain ⟨n1, _⟩ := hlen l h
      rw [List.take_of_length_le (by omega)] at h1
      rw [← h1] at h
      exact hc (by rw [h])
end Go.Proofs.Ytcgejfmbhpmjfaa
