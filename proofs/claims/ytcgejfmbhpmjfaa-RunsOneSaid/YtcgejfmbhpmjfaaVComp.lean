/- runs.Sort: slices.Clone, SortFunc, Compact, Clip. -/
import Derived.Test.YtcgejfmbhpmjfaaVStore
import Derived.Test.YtcgejfmbhpmjfaaVDedup
import Derived.Test.YtcgejfmbhpmjfaaVOwn2
set_option linter.unusedSimpArgs false
set_option linter.unusedVariables false
set_option maxRecDepth 20000
namespace Go.Proofs.Ytcgejfmbhpmjfaa
open Go Go.V
-- 42: slices.Clone[[]pith/api.Pair,pith/api.Pair]
-- 44: slices.Clip[[]pith/api.Pair,pith/api.Pair]
-- 45: slices.Compact[[]pith/api.Pair,pith/api.Pair]
-- 41: pith/runs.order
-- 43: slices.SortFunc[[]pith/api.Pair,pith/api.Pair]
-- 16: pith/runs.Sort
-- 3: int
-- 24: pith/api.Pair
-- 22: []api.Pair

theorem take_last {ps : List Pr} {i : Nat} (h : i < ps.length) : (ps.take (i + 1)).getLast? = some (ps.getD i (0, 0)) := by
  rw [take_succ_getD h (0, 0)]; simp
theorem F42 (v : Value) (ps : List Pr) (H : Heap) (hv : Prs H v ps) (hl : ps.length ≤ 8796093020000) :
    Fun Try.prog 42 #[v] H (fun v' H' => Own H' H.size 24 2 v' (cp ps) ∧ Ext H H') := by
  obtain ⟨a, c, rfl⟩ := prs_form hv
  refine fun_of mixed (args := [_]) Try.func42 Try.ntmps42 b42 r42 rfl ?_
  cases a with
  | none =>
    have hn : ps = [] := by
      cases ps with
      | nil => rfl
      | cons p ps =>
        obtain ⟨b, o, h⟩ := prs_at hv (by simp)
        cases h
    subst hn
    simp only [go_sem, ↓reduceIte, Nat.reduceEqDiff, Nat.reduceLeDiff, Nat.reduceAdd, Nat.reduceMul, Nat.reduceSub, Nat.reduceBEq, Nat.reduceGT, Nat.reduceLT, Int.reduceLE, Int.reduceLT, Int.reduceNeg, reduceCtorEq]
    exact ⟨fun _ => ⟨Own.nil, Upto.refl _ _⟩, fun h => by cases h⟩
  | some a =>
    simp only [go_sem, ↓reduceIte, Nat.reduceEqDiff, Nat.reduceLeDiff, Nat.reduceAdd, Nat.reduceMul, Nat.reduceSub, Nat.reduceBEq, Nat.reduceGT, Nat.reduceLT, Int.reduceLE, Int.reduceLT, Int.reduceNeg, reduceCtorEq]
    have ho : Own (H.push (.cells #[] 24)) H.size 24 2 (.slice (some ⟨H.size, 0, none⟩) 0 0) [] := .inr ⟨H.size, 0, 0, #[], rfl, Nat.le_refl _, push_new, Nat.le_refl _, by unfold maxLen; omega, rfl, rfl, rfl⟩
    refine RunI.by (append_own ty22 ty24 rfl rfl rfl (by decide) ho (prs_ext hv (Ext.push _)) (cp_one ps) (n := ps.length) (by rw [cp_len]; simp) (by show ps.length * 16 ≤ _; omega) (by omega) (by simp)) ?_
    rintro v2 H2 ⟨h1, h2, _⟩
    simp only [go_sem, ↓reduceIte, Nat.reduceEqDiff, Nat.reduceLeDiff, Nat.reduceAdd, Nat.reduceMul, Nat.reduceSub, Nat.reduceBEq, Nat.reduceGT, Nat.reduceLT, Int.reduceLE, Int.reduceLT, Int.reduceNeg, reduceCtorEq]
    rw [List.nil_append] at h1
    exact ⟨h1, (Ext.push _).trans (h2.upto (fun k hk => by cases hk; exact Nat.le_refl _) (by simp))⟩
theorem F44 (v : Value) (ps : List Pr) (H : Heap) (B : Nat) (hv : Own H B 24 2 v (cp ps)) :
    Fun Try.prog 44 #[v] H (fun v' H' => Own2 H' B 24 2 v' (cp ps) ∧ H = H') := by
  refine fun_of mixed (args := [_]) Try.func44 Try.ntmps44 b44 r44 rfl ?_
  rcases own_form hv with ⟨rfl, rfl⟩ | ⟨g, cap, rfl, hc⟩
  · simp only [go_sem, ↓reduceIte, Nat.reduceEqDiff, Nat.reduceLeDiff, Nat.reduceAdd, Nat.reduceMul, Nat.reduceSub, Nat.reduceBEq, Nat.reduceGT, Nat.reduceLT, Int.reduceLE, Int.reduceLT, Int.reduceNeg, reduceCtorEq]
    exact ⟨by decide, Own2.nil⟩
  · simp only [go_sem, ↓reduceIte, Nat.reduceEqDiff, Nat.reduceLeDiff, Nat.reduceAdd, Nat.reduceMul, Nat.reduceSub, Nat.reduceBEq, Nat.reduceGT, Nat.reduceLT, Int.reduceLE, Int.reduceLT, Int.reduceNeg, reduceCtorEq]
    refine ⟨⟨⟨by omega, by omega⟩, by omega, by omega⟩, ?_⟩
    exact Own2.clip (Own.own2 hv) (Nat.le_refl _) hc
set_option maxHeartbeats 1000000 in
theorem F45 (v : Value) (ps : List Pr) (H : Heap) (B : Nat) (hv : Own H B 24 2 v (cp ps)) (hl : ps.length ≤ 8796093020000) :
    Fun Try.prog 45 #[v] H (fun v' H' => Own H' B 24 2 v' (cp (dd ps)) ∧ But (blk v) H H' ∧ blk v' = blk v) := by
  refine fun_of mixed (args := [_]) Try.func45 Try.ntmps45 b45 r45 rfl ?_
  by_cases h2 : ps.length < 2
  · obtain ⟨a, c, rfl⟩ := prs_form (prs_own hv)
    have c2 : (ps.length : Int) < 2 := by omega
    simp only [go_sem, ↓reduceIte, Nat.reduceEqDiff, Nat.reduceLeDiff, Nat.reduceAdd, Nat.reduceMul, Nat.reduceSub, Nat.reduceBEq, Nat.reduceGT, Nat.reduceLT, Int.reduceLE, Int.reduceLT, Int.reduceNeg, reduceCtorEq, c2]
    have : dd ps = ps := by
      match ps, h2 with
      | [], _ => rfl
      | [p], _ => rfl
    rw [this]
    exact ⟨hv, But.refl _ _⟩
  rcases own_form hv with ⟨rfl, h0⟩ | ⟨g, c, rfl, hc⟩
  · rw [h0] at h2
    simp at h2
  have c2 : ¬ (ps.length : Int) < 2 := by omega
  simp only [go_sem, ↓reduceIte, Nat.reduceEqDiff, Nat.reduceLeDiff, Nat.reduceAdd, Nat.reduceMul, Nat.reduceSub, Nat.reduceBEq, Nat.reduceGT, Nat.reduceLT, Int.reduceLE, Int.reduceLT, Int.reduceNeg, reduceCtorEq, c2]
  refine LoopI.by mixed (fun ρ H' => H = H' ∧ ∃ k : Nat, ρ 0 = .slice (some ⟨g, 0, none⟩) ps.length c ∧ ρ 3 = .int .i64 (k + 1 : Nat) ∧ k + 1 ≤ ps.length ∧ dd (ps.take (k + 1)) = ps.take (k + 1)) (fun ρ _ => ps.length - (iof (ρ 3)).toNat) ?_ ?_
  · exact ⟨rfl, 0, by simp only [go_sem, ↓reduceIte, Nat.reduceEqDiff, Nat.reduceLeDiff, Nat.reduceAdd, Nat.reduceMul, Nat.reduceSub, Nat.reduceBEq, Nat.reduceGT, Nat.reduceLT, Int.reduceLE, Int.reduceLT, Int.reduceNeg, reduceCtorEq], by simp only [go_sem, ↓reduceIte, Nat.reduceEqDiff, Nat.reduceLeDiff, Nat.reduceAdd, Nat.reduceMul, Nat.reduceSub, Nat.reduceBEq, Nat.reduceGT, Nat.reduceLT, Int.reduceLE, Int.reduceLT, Int.reduceNeg, reduceCtorEq]; rfl, by omega, by
      match ps, h2 with
      | p :: ps, _ => rfl⟩
  rintro ρ _ ⟨rfl, k, e0, e3, hk, hd⟩
  have w1 : IntKind.i64.wrap (((k + 1 : Nat) : Int) - 1) = (k : Int) := by rw [w64_id (by omega) (by omega)]; omega
  have w2 : IntKind.i64.wrap (((k + 1 : Nat) : Int) + 1) = ((k + 1 + 1 : Nat) : Int) := by rw [w64_id (by omega) (by omega)]; omega
  by_cases hlt : k + 1 < ps.length
  · have c1 : ((k + 1 : Nat) : Int) < ps.length := by omega
    have c3 : (k : Int) < ps.length := by omega
    have z0 : (0 : Int) ≤ k := by omega
    have z1 : (0 : Int) ≤ ((k + 1 : Nat) : Int) := by omega
    obtain ⟨g1, g2⟩ := prs_get0 (prs_own hv) (i := k) (by omega)
    obtain ⟨g3, g4⟩ := prs_get0 (prs_own hv) hlt
    simp only [go_sem, ↓reduceIte, Nat.reduceEqDiff, Nat.reduceLeDiff, Nat.reduceAdd, Nat.reduceMul, Nat.reduceSub, Nat.reduceBEq, Nat.reduceGT, Nat.reduceLT, Int.reduceLE, Int.reduceLT, Int.reduceNeg, reduceCtorEq, c45_L1, e0, e3, w1, w2, c1, c3, z0, z1, g1, g2, g3, g4, Int.toNat_natCast, Option.bind_some]
    refine RunI.by (eq_pr _ _ (ps.getD (k + 1) (0, 0)) (ps.getD k (0, 0)) H) ?_
    rintro _ _ ⟨rfl, rfl⟩
    have hlast : (ps.take (k + 1)).getLast? = some (ps.getD k (0, 0)) := take_last (by omega)
    have hsn : dd (ps.take (k + 1 + 1)) = if (ps.take (k + 1)).getLast? = some (ps.getD (k + 1) (0, 0)) then dd (ps.take (k + 1)) else dd (ps.take (k + 1)) ++ [ps.getD (k + 1) (0, 0)] := by
      rw [take_succ_getD hlt (0, 0), dd_snoc']
    rw [hlast, hd] at hsn
    cases hq : decide (ps.getD (k + 1) (0, 0) = ps.getD k (0, 0)) with
    | false =>
      simp only [go_sem, ↓reduceIte, Nat.reduceEqDiff, Nat.reduceLeDiff, Nat.reduceAdd, Nat.reduceMul, Nat.reduceSub, Nat.reduceBEq, Nat.reduceGT, Nat.reduceLT, Int.reduceLE, Int.reduceLT, Int.reduceNeg, reduceCtorEq, e0, e3, w2]
      refine ⟨Hold.mk ⟨rfl, k + 1, by simp only [go_sem, ↓reduceIte, Nat.reduceEqDiff, Nat.reduceLeDiff, Nat.reduceAdd, Nat.reduceMul, Nat.reduceSub, Nat.reduceBEq, Nat.reduceGT, Nat.reduceLT, Int.reduceLE, Int.reduceLT, Int.reduceNeg, reduceCtorEq, e0], by simp only [go_sem, ↓reduceIte, Nat.reduceEqDiff, Nat.reduceLeDiff, Nat.reduceAdd, Nat.reduceMul, Nat.reduceSub, Nat.reduceBEq, Nat.reduceGT, Nat.reduceLT, Int.reduceLE, Int.reduceLT, Int.reduceNeg, reduceCtorEq], by omega, ?_⟩, by omega⟩
      rw [hsn, if_neg, ← take_succ_getD hlt (0, 0)]
      intro h
      rw [Option.some.injEq] at h
      exact (of_decide_eq_false hq) h.symm
    | true =>
      have hq' : ps.getD k (0, 0) = ps.getD (k + 1) (0, 0) := (of_decide_eq_true hq).symm
      rw [hq', if_pos rfl] at hsn
      have hck : (c = k + 1) = False := by simp; omega
      simp only [go_sem, ↓reduceIte, Nat.reduceEqDiff, Nat.reduceLeDiff, Nat.reduceAdd, Nat.reduceMul, Nat.reduceSub, Nat.reduceBEq, Nat.reduceGT, Nat.reduceLT, Int.reduceLE, Int.reduceLT, Int.reduceNeg, reduceCtorEq, e0, e3, hck]
      refine ⟨⟨by omega, by omega⟩, ?_⟩
      refine LoopI.by mixed (fun ρ H' => ∃ (j d : Nat), ρ 0 = .slice (some ⟨g, 0, none⟩) ps.length c ∧ ρ 3 = .int .i64 (d : Nat) ∧ ρ 4 = .slice (some ⟨g, (k + 1) * 2, none⟩) (ps.length - (k + 1)) (c - (k + 1)) ∧ ρ 5 = .int .i64 (j + 1 : Nat) ∧
        k + 1 + (j + 1) ≤ ps.length ∧ (dd (ps.take (k + 1 + (j + 1)))).length = d ∧ d < k + 1 + (j + 1) ∧ Own H' B 24 2 (.slice (some ⟨g, 0, none⟩) ps.length c) (cp (dd (ps.take (k + 1 + (j + 1))) ++ ps.drop d)) ∧ But (some g) H H') (fun ρ _ => ps.length - (iof (ρ 5)).toNat) ?_ ?_
      · refine ⟨0, k + 1, by simp only [go_sem, ↓reduceIte, Nat.reduceEqDiff, Nat.reduceLeDiff, Nat.reduceAdd, Nat.reduceMul, Nat.reduceSub, Nat.reduceBEq, Nat.reduceGT, Nat.reduceLT, Int.reduceLE, Int.reduceLT, Int.reduceNeg, reduceCtorEq, e0], by simp only [go_sem, ↓reduceIte, Nat.reduceEqDiff, Nat.reduceLeDiff, Nat.reduceAdd, Nat.reduceMul, Nat.reduceSub, Nat.reduceBEq, Nat.reduceGT, Nat.reduceLT, Int.reduceLE, Int.reduceLT, Int.reduceNeg, reduceCtorEq, e3], by simp only [go_sem, ↓reduceIte, Nat.reduceEqDiff, Nat.reduceLeDiff, Nat.reduceAdd, Nat.reduceMul, Nat.reduceSub, Nat.reduceBEq, Nat.reduceGT, Nat.reduceLT, Int.reduceLE, Int.reduceLT, Int.reduceNeg, reduceCtorEq], by simp only [go_sem, ↓reduceIte, Nat.reduceEqDiff, Nat.reduceLeDiff, Nat.reduceAdd, Nat.reduceMul, Nat.reduceSub, Nat.reduceBEq, Nat.reduceGT, Nat.reduceLT, Int.reduceLE, Int.reduceLT, Int.reduceNeg, reduceCtorEq]; rfl, by omega, ?_, by omega, ?_, But.refl _ _⟩
        · rw [show k + 1 + (0 + 1) = k + 1 + 1 by omega, hsn, List.length_take]; omega
        · rw [show k + 1 + (0 + 1) = k + 1 + 1 by omega, hsn, List.take_append_drop]; exact hv
      rintro ρ H1 ⟨j, d, f0, f3, f4, f5, hj, hd1, hdm, ho, hb⟩
      have v1 : IntKind.i64.wrap (((j + 1 : Nat) : Int) - 1) = (j : Int) := by rw [w64_id (by omega) (by omega)]; omega
      have v2 : IntKind.i64.wrap (((j + 1 : Nat) : Int) + 1) = ((j + 1 + 1 : Nat) : Int) := by rw [w64_id (by omega) (by omega)]; omega
      have v3 : IntKind.i64.wrap ((d : Int) + 1) = ((d + 1 : Nat) : Int) := by rw [w64_id (by omega) (by omega)]; omega
      have hll : (dd (ps.take (k + 1 + (j + 1))) ++ ps.drop d).length = ps.length := by rw [List.length_append, hd1, List.length_drop]; omega
      by_cases hlt2 : j + 1 < ps.length - (k + 1)
      · have i1 : ((j + 1 : Nat) : Int) < ((ps.length - (k + 1) : Nat) : Int) := by omega
        have i2 : (j : Int) < ((ps.length - (k + 1) : Nat) : Int) := by omega
        have i3 : (0 : Int) ≤ j := by omega
        have i4 : (0 : Int) ≤ ((j + 1 : Nat) : Int) := by omega
        have i5 : (0 : Int) ≤ d := by omega
        have i6 : (d : Int) < ps.length := by omega
        have gx : ∀ m, d ≤ m → (dd (ps.take (k + 1 + (j + 1))) ++ ps.drop d).getD m (0, 0) = ps.getD m (0, 0) := by
          intro m hm
          rw [List.getD_eq_getElem?_getD, List.getElem?_append_right (by omega), List.getElem?_drop, hd1, show d + (m - d) = m by omega, ← List.getD_eq_getElem?_getD]
        obtain ⟨g5, g6⟩ := prs_get0 (prs_own ho) (i := k + 1 + (j + 1)) (by rw [hll]; omega)
        obtain ⟨g7, g8⟩ := prs_get0 (prs_own ho) (i := k + 1 + j) (by rw [hll]; omega)
        rw [gx _ (by omega)] at g5 g6
        rw [gx _ (by omega)] at g7 g8
        rw [show (k + 1 + (j + 1)) * 2 = (k + 1) * 2 + (j + 1) * 2 by omega] at g5 g6
        rw [show (k + 1 + j) * 2 = (k + 1) * 2 + j * 2 by omega] at g7 g8
        simp only [go_sem, ↓reduceIte, Nat.reduceEqDiff, Nat.reduceLeDiff, Nat.reduceAdd, Nat.reduceMul, Nat.reduceSub, Nat.reduceBEq, Nat.reduceGT, Nat.reduceLT, Int.reduceLE, Int.reduceLT, Int.reduceNeg, reduceCtorEq, c45_L0, f0, f3, f4, f5, v1, v2, v3, i1, i2, i3, i4, i5, i6, g5, g6, g7, g8, Int.toNat_natCast, Option.bind_some]
        refine RunI.by (ne_pr _ _ (ps.getD (k + 1 + (j + 1)) (0, 0)) (ps.getD (k + 1 + j) (0, 0)) H1) ?_
        rintro _ _ ⟨rfl, rfl⟩
        have hl2 : (ps.take (k + 1 + (j + 1))).getLast? = some (ps.getD (k + 1 + j) (0, 0)) := take_last (i := k + 1 + j) (by omega)
        have hs2 : dd (ps.take (k + 1 + (j + 1 + 1))) = if (ps.take (k + 1 + (j + 1))).getLast? = some (ps.getD (k + 1 + (j + 1)) (0, 0)) then dd (ps.take (k + 1 + (j + 1))) else dd (ps.take (k + 1 + (j + 1))) ++ [ps.getD (k + 1 + (j + 1)) (0, 0)] := by
          rw [show k + 1 + (j + 1 + 1) = k + 1 + (j + 1) + 1 by omega, take_succ_getD (by omega) (0, 0), dd_snoc']
        rw [hl2] at hs2
        cases hq2 : decide (ps.getD (k + 1 + (j + 1)) (0, 0) = ps.getD (k + 1 + j) (0, 0)) with
        | true =>
          simp only [go_sem, ↓reduceIte, Nat.reduceEqDiff, Nat.reduceLeDiff, Nat.reduceAdd, Nat.reduceMul, Nat.reduceSub, Nat.reduceBEq, Nat.reduceGT, Nat.reduceLT, Int.reduceLE, Int.reduceLT, Int.reduceNeg, reduceCtorEq, f0, f3, f4, f5, v2, Bool.not_true]
          rw [if_pos (by rw [of_decide_eq_true hq2])] at hs2
          refine ⟨Hold.mk ⟨j + 1, d, by simp only [go_sem, ↓reduceIte, Nat.reduceEqDiff, Nat.reduceLeDiff, Nat.reduceAdd, Nat.reduceMul, Nat.reduceSub, Nat.reduceBEq, Nat.reduceGT, Nat.reduceLT, Int.reduceLE, Int.reduceLT, Int.reduceNeg, reduceCtorEq, f0], by simp only [go_sem, ↓reduceIte, Nat.reduceEqDiff, Nat.reduceLeDiff, Nat.reduceAdd, Nat.reduceMul, Nat.reduceSub, Nat.reduceBEq, Nat.reduceGT, Nat.reduceLT, Int.reduceLE, Int.reduceLT, Int.reduceNeg, reduceCtorEq, f3], by simp only [go_sem, ↓reduceIte, Nat.reduceEqDiff, Nat.reduceLeDiff, Nat.reduceAdd, Nat.reduceMul, Nat.reduceSub, Nat.reduceBEq, Nat.reduceGT, Nat.reduceLT, Int.reduceLE, Int.reduceLT, Int.reduceNeg, reduceCtorEq, f4], by simp only [go_sem, ↓reduceIte, Nat.reduceEqDiff, Nat.reduceLeDiff, Nat.reduceAdd, Nat.reduceMul, Nat.reduceSub, Nat.reduceBEq, Nat.reduceGT, Nat.reduceLT, Int.reduceLE, Int.reduceLT, Int.reduceNeg, reduceCtorEq], by omega, by rw [hs2]; exact hd1, by omega, by rw [hs2]; exact ho, hb⟩, by omega⟩
        | false =>
          rw [if_neg (by intro h; rw [Option.some.injEq] at h; exact (of_decide_eq_false hq2) h.symm)] at hs2
          obtain ⟨s1, s2, s3⟩ := prs_store ho (i := d) (by rw [hll]; omega) (ps.getD (k + 1 + (j + 1)) (0, 0))
          simp only [go_sem, ↓reduceIte, Nat.reduceEqDiff, Nat.reduceLeDiff, Nat.reduceAdd, Nat.reduceMul, Nat.reduceSub, Nat.reduceBEq, Nat.reduceGT, Nat.reduceLT, Int.reduceLE, Int.reduceLT, Int.reduceNeg, reduceCtorEq, f0, f3, f4, f5, v2, v3, Bool.not_false, i1, i4, i5, i6, g5, g6, Int.toNat_natCast, Option.bind_some, s1]
          refine ⟨rfl, Hold.mk ⟨j + 1, d + 1, by simp only [go_sem, ↓reduceIte, Nat.reduceEqDiff, Nat.reduceLeDiff, Nat.reduceAdd, Nat.reduceMul, Nat.reduceSub, Nat.reduceBEq, Nat.reduceGT, Nat.reduceLT, Int.reduceLE, Int.reduceLT, Int.reduceNeg, reduceCtorEq, f0], by simp only [go_sem, ↓reduceIte, Nat.reduceEqDiff, Nat.reduceLeDiff, Nat.reduceAdd, Nat.reduceMul, Nat.reduceSub, Nat.reduceBEq, Nat.reduceGT, Nat.reduceLT, Int.reduceLE, Int.reduceLT, Int.reduceNeg, reduceCtorEq], by simp only [go_sem, ↓reduceIte, Nat.reduceEqDiff, Nat.reduceLeDiff, Nat.reduceAdd, Nat.reduceMul, Nat.reduceSub, Nat.reduceBEq, Nat.reduceGT, Nat.reduceLT, Int.reduceLE, Int.reduceLT, Int.reduceNeg, reduceCtorEq, f4], by simp only [go_sem, ↓reduceIte, Nat.reduceEqDiff, Nat.reduceLeDiff, Nat.reduceAdd, Nat.reduceMul, Nat.reduceSub, Nat.reduceBEq, Nat.reduceGT, Nat.reduceLT, Int.reduceLE, Int.reduceLT, Int.reduceNeg, reduceCtorEq], by omega, by rw [hs2, List.length_append, hd1]; rfl, by omega, ?_, hb.trans s3⟩, by omega⟩
          have e : (dd (ps.take (k + 1 + (j + 1))) ++ ps.drop d).set d (ps.getD (k + 1 + (j + 1)) (0, 0)) = dd (ps.take (k + 1 + (j + 1 + 1))) ++ ps.drop (d + 1) := by
            rw [hs2, List.set_append_right _ _ (by omega), hd1, Nat.sub_self, List.drop_eq_getElem_cons (show d < ps.length by omega), List.set_cons_zero]
            simp
          rw [← e]
          exact s2
      · have i1 : ¬ ((j + 1 : Nat) : Int) < ((ps.length - (k + 1) : Nat) : Int) := by omega
        have hcd : (c = d) = False := by simp; omega
        simp only [go_sem, ↓reduceIte, Nat.reduceEqDiff, Nat.reduceLeDiff, Nat.reduceAdd, Nat.reduceMul, Nat.reduceSub, Nat.reduceBEq, Nat.reduceGT, Nat.reduceLT, Int.reduceLE, Int.reduceLT, Int.reduceNeg, reduceCtorEq, c45_L0, f0, f3, f4, f5, i1, hcd]
        refine ⟨⟨by omega, by omega⟩, ?_⟩
        refine RunI.by (clear_own (sz := 2) ty22 ty24 rfl (by simp [Value.cells, Value.oneCell']) ho (d := d) (n := ps.length - d) (by omega) (by omega)) ?_
        rintro _ H2 ⟨⟨zs, h1⟩, h2⟩
        simp only [go_sem, ↓reduceIte, Nat.reduceEqDiff, Nat.reduceLeDiff, Nat.reduceAdd, Nat.reduceMul, Nat.reduceSub, Nat.reduceBEq, Nat.reduceGT, Nat.reduceLT, Int.reduceLE, Int.reduceLT, Int.reduceNeg, reduceCtorEq, f0, f3]
        refine ⟨⟨by omega, by omega⟩, ?_⟩
        have hall : ps.take (k + 1 + (j + 1)) = ps := List.take_of_length_le (by omega)
        rw [hall] at hd1 h1
        refine ⟨?_, hb.trans h2, rfl⟩
        have := h1.cut (n := d) (by omega)
        rw [cp_take, List.take_append_of_le_length (by rw [cp_len, List.length_take, List.length_append, hd1]; omega), List.take_of_length_le (l := cp _) (by rw [cp_len, List.length_take]; omega), List.take_append_of_le_length (by omega), List.take_of_length_le (by omega)] at this
        exact this
  · have c1 : ¬ ((k + 1 : Nat) : Int) < ps.length := by omega
    simp only [go_sem, ↓reduceIte, Nat.reduceEqDiff, Nat.reduceLeDiff, Nat.reduceAdd, Nat.reduceMul, Nat.reduceSub, Nat.reduceBEq, Nat.reduceGT, Nat.reduceLT, Int.reduceLE, Int.reduceLT, Int.reduceNeg, reduceCtorEq, c45_L1, e0, e3, c1]
    rw [List.take_of_length_le (by omega)] at hd
    rw [hd]
    exact ⟨hv, But.refl _ _⟩
theorem F16 (v : Value) (ps : List Pr) (H : Heap) (hv : Prs H v ps) (hl : ps.length ≤ 8796093020000) :
    Fun Try.prog 16 #[v] H (fun v' H' => Own2 H' H.size 24 2 v' (cp (sortP ps)) ∧ Ext H H') := by
  obtain ⟨a, c, rfl⟩ := prs_form hv
  refine fun_of mixed (args := [_]) Try.func16 Try.ntmps16 b16 r16 rfl ?_
  simp only [go_sem, ↓reduceIte, Nat.reduceEqDiff, Nat.reduceLeDiff, Nat.reduceAdd, Nat.reduceMul, Nat.reduceSub, Nat.reduceBEq, Nat.reduceGT, Nat.reduceLT, Int.reduceLE, Int.reduceLT, Int.reduceNeg, reduceCtorEq]
  refine FunI.by (F42 _ ps H hv hl) ?_
  rintro v1 H1 ⟨o1, x1⟩
  simp only [go_sem, ↓reduceIte, Nat.reduceEqDiff, Nat.reduceLeDiff, Nat.reduceAdd, Nat.reduceMul, Nat.reduceSub, Nat.reduceBEq, Nat.reduceGT, Nat.reduceLT, Int.reduceLE, Int.reduceLT, Int.reduceNeg, reduceCtorEq]
  refine FunI.by (F43 v1 ps H1 H.size o1 hl) ?_
  rintro _ H2 ⟨rfl, o2, x2⟩
  simp only [go_sem, ↓reduceIte, Nat.reduceEqDiff, Nat.reduceLeDiff, Nat.reduceAdd, Nat.reduceMul, Nat.reduceSub, Nat.reduceBEq, Nat.reduceGT, Nat.reduceLT, Int.reduceLE, Int.reduceLT, Int.reduceNeg, reduceCtorEq]
  refine FunI.by (F45 v1 (srt ps) H2 H.size o2 (by rw [srt_len]; exact hl)) ?_
  rintro v3 H3 ⟨o3, x3, hb3⟩
  simp only [go_sem, ↓reduceIte, Nat.reduceEqDiff, Nat.reduceLeDiff, Nat.reduceAdd, Nat.reduceMul, Nat.reduceSub, Nat.reduceBEq, Nat.reduceGT, Nat.reduceLT, Int.reduceLE, Int.reduceLT, Int.reduceNeg, reduceCtorEq]
  refine FunI.by (F44 v3 (dd (srt ps)) H3 H.size o3) ?_
  rintro v4 _ ⟨o4, rfl⟩
  simp only [go_sem, ↓reduceIte, Nat.reduceEqDiff, Nat.reduceLeDiff, Nat.reduceAdd, Nat.reduceMul, Nat.reduceSub, Nat.reduceBEq, Nat.reduceGT, Nat.reduceLT, Int.reduceLE, Int.reduceLT, Int.reduceNeg, reduceCtorEq]
  have u2 := x2.upto (B := H.size) (fun k hk => (o1.blk hk).1) x1.size
  have u3 := x3.upto (B := H.size) (fun k hk => (o2.blk hk).1) (Nat.le_trans x1.size x2.size)
  exact ⟨o4, x1.trans (u2.trans u3)⟩
end Go.Proofs.Ytcgejfmbhpmjfaa
