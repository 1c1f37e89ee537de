/- The laws' helper has: a search in a rising list. -/
import Derived.Test.YtcgejfmbhpmjfaaVSmall
import Derived.Test.YtcgejfmbhpmjfaaVMerH
set_option linter.unusedSimpArgs false
set_option linter.unusedVariables false
set_option maxRecDepth 20000
namespace Go.Proofs.Ytcgejfmbhpmjfaa
open Go Go.V
-- 30: pith/pithlaw11.has
-- 31: pith/pithlaw11.ahead
-- 3: int
-- 24: pith/api.Pair
-- 22: []api.Pair
theorem up_get {ps : List Pr} (h : Up ps) {i j : Nat} (hij : i < j) (hj : j < ps.length) : ltP (ps.getD i (0, 0)) (ps.getD j (0, 0)) = true := by
  unfold Up at h
  rw [List.pairwise_iff_getElem] at h
  have := h i j (by omega) hj hij
  rwa [List.getD_eq_getElem?_getD, List.getElem?_eq_getElem (by omega), List.getD_eq_getElem?_getD, List.getElem?_eq_getElem hj]
theorem mem_idx {ps : List Pr} {p : Pr} (h : p ∈ ps) : ∃ k, k < ps.length ∧ ps.getD k (0, 0) = p := by
  obtain ⟨k, hk, rfl⟩ := List.mem_iff_getElem.1 h
  exact ⟨k, hk, by rw [List.getD_eq_getElem?_getD, List.getElem?_eq_getElem hk]; rfl⟩
theorem has_at {ps : List Pr} {p : Pr} {lo : Nat} (hu : Up ps) (h1 : ∀ j, j < lo → ltP (ps.getD j (0, 0)) p = true) (h2 : lo < ps.length → ltP (ps.getD lo (0, 0)) p = false) (hm : p ∈ ps) : lo < ps.length ∧ ps.getD lo (0, 0) = p := by
  obtain ⟨k, hk, rfl⟩ := mem_idx hm
  have a : ¬ k < lo := fun h => by have := h1 k h; rw [lt_irrefl'] at this; cases this
  refine ⟨by omega, ?_⟩
  by_cases h : lo < k
  · have b := up_get hu h hk
    rw [h2 (by omega)] at b; cases b
  · have : lo = k := by omega
    rw [this]
set_option maxHeartbeats 1600000 in
theorem F30 (v : Value) (ps : List Pr) (p : Pr) (H : Heap) (hv : Prs H v ps) (hu : Up ps) (hl : ps.length ≤ 8796093020000) :
    Fun Try.prog 30 #[v, pv p] H (fun r H' => r = .bool (decide (p ∈ ps)) ∧ Ext H H') := by
  obtain ⟨a, c, rfl⟩ := prs_form hv
  refine fun_of mixed (args := [_, _]) Try.func30 Try.ntmps30 b30 r30 rfl ?_
  simp only [go_sem, ↓reduceIte, Nat.reduceEqDiff, Nat.reduceLeDiff, Nat.reduceAdd, Nat.reduceMul, Nat.reduceSub, Nat.reduceBEq, Nat.reduceGT, Nat.reduceLT, Int.reduceLE, Int.reduceLT, Int.reduceNeg, reduceCtorEq, pv]
  obtain ⟨G0, hG0⟩ : ∃ G, G = Array.push H (Obj.cells #[Value.int .i64 p.1, Value.int .i64 p.2] 24) := ⟨_, rfl⟩
  have x0 : Ext H G0 := by rw [hG0]; exact Ext.push _
  have cp0 : G0[H.size]? = some (Obj.cells #[Value.int .i64 p.1, Value.int .i64 p.2] 24) := by rw [hG0]; exact push_new
  have lp0 : H.size < G0.size := by rw [hG0]; simp
  rw [← hG0]
  clear hG0
  refine LoopI.by mixed (fun ρ H' => ∃ lo hi : Nat, ρ 0 = .slice a ps.length c ∧ ρ 3 = .pointer (some ⟨H.size, 0, none⟩) ∧ ρ 5 = .int .i64 lo ∧ ρ 6 = .int .i64 hi ∧ lo ≤ hi ∧ hi ≤ ps.length ∧ (∀ j, j < lo → ltP (ps.getD j (0, 0)) p = true) ∧ (∀ j, hi ≤ j → j < ps.length → ltP (ps.getD j (0, 0)) p = false) ∧ H'[H.size]? = some (Obj.cells #[Value.int .i64 p.1, Value.int .i64 p.2] 24) ∧ H.size < H'.size ∧ Ext H H') (fun ρ _ => (iof (ρ 6)).toNat - (iof (ρ 5)).toNat) ?_ ?_
  · exact ⟨0, ps.length, by simp only [go_sem, ↓reduceIte, Nat.reduceEqDiff, Nat.reduceLeDiff, Nat.reduceAdd, Nat.reduceMul, Nat.reduceSub, Nat.reduceBEq, Nat.reduceGT, Nat.reduceLT, Int.reduceLE, Int.reduceLT, Int.reduceNeg, reduceCtorEq], by simp only [go_sem, ↓reduceIte, Nat.reduceEqDiff, Nat.reduceLeDiff, Nat.reduceAdd, Nat.reduceMul, Nat.reduceSub, Nat.reduceBEq, Nat.reduceGT, Nat.reduceLT, Int.reduceLE, Int.reduceLT, Int.reduceNeg, reduceCtorEq], by simp only [go_sem, ↓reduceIte, Nat.reduceEqDiff, Nat.reduceLeDiff, Nat.reduceAdd, Nat.reduceMul, Nat.reduceSub, Nat.reduceBEq, Nat.reduceGT, Nat.reduceLT, Int.reduceLE, Int.reduceLT, Int.reduceNeg, reduceCtorEq]; rfl, by simp only [go_sem, ↓reduceIte, Nat.reduceEqDiff, Nat.reduceLeDiff, Nat.reduceAdd, Nat.reduceMul, Nat.reduceSub, Nat.reduceBEq, Nat.reduceGT, Nat.reduceLT, Int.reduceLE, Int.reduceLT, Int.reduceNeg, reduceCtorEq], by omega, Nat.le_refl _, by omega, by omega, cp0, lp0, x0⟩
  clear x0 cp0 lp0
  rintro ρ H1 ⟨lo, hi, e0, e3, e5, e6, h1, h2, h3, h4, hc, hlt, hx⟩
  have gp0 : hget H1 H.size 0 = some (.int .i64 p.1) := by rw [hget_cells hc]; rfl
  have gp1 : hget H1 H.size 1 = some (.int .i64 p.2) := by rw [hget_cells hc]; rfl
  by_cases hlo : lo < hi
  · have c1 : (lo : Int) < hi := by omega
    obtain ⟨m, hm⟩ : ∃ m, m = (lo + hi) / 2 := ⟨_, rfl⟩
    have w1 : IntKind.i64.wrap ((lo : Int) + hi) = ((lo + hi : Nat) : Int) := by rw [w64_id (by omega) (by omega)]; omega
    have w2 : IntKind.i64.wrap (Int.tdiv ((lo + hi : Nat) : Int) 2) = (m : Int) := by
      rw [Int.tdiv_eq_ediv_of_nonneg (by omega), w64_id (by omega) (by omega)]; omega
    have z0 : (0 : Int) ≤ m := by omega
    have z1 : (m : Int) < ps.length := by omega
    obtain ⟨b, o, rfl⟩ := prs_at hv (by omega)
    obtain ⟨g1, g2⟩ := prs_get (prs_ext hv hx) (i := m) (by omega)
    simp only [go_sem, ↓reduceIte, Nat.reduceEqDiff, Nat.reduceLeDiff, Nat.reduceAdd, Nat.reduceMul, Nat.reduceSub, Nat.reduceBEq, Nat.reduceGT, Nat.reduceLT, Int.reduceLE, Int.reduceLT, Int.reduceNeg, reduceCtorEq, c30_L0, e0, e3, e5, e6, c1, w1, w2, z0, z1, g1, g2, gp0, gp1, Int.toNat_natCast, Option.bind_some]
    refine ⟨by decide, ?_⟩
    refine FunI.by (F31 (ps.getD m (0, 0)) p H1) ?_
    rintro _ H2 ⟨rfl, x2⟩
    have hc2 : H2[H.size]? = some (Obj.cells #[Value.int .i64 p.1, Value.int .i64 p.2] 24) := (x2.get _ hlt).trans hc
    have hlt2 := Nat.lt_of_lt_of_le hlt x2.size
    have hx2 := hx.trans (x2.mono hx.size)
    cases hq : ltP (ps.getD m (0, 0)) p with
    | true =>
      have w3 : IntKind.i64.wrap ((m : Int) + 1) = ((m + 1 : Nat) : Int) := by rw [w64_id (by omega) (by omega)]; omega
      simp only [go_sem, ↓reduceIte, Nat.reduceEqDiff, Nat.reduceLeDiff, Nat.reduceAdd, Nat.reduceMul, Nat.reduceSub, Nat.reduceBEq, Nat.reduceGT, Nat.reduceLT, Int.reduceLE, Int.reduceLT, Int.reduceNeg, reduceCtorEq, w3, e5, e6]
      refine ⟨Hold.mk ⟨m + 1, hi, by simp only [go_sem, ↓reduceIte, Nat.reduceEqDiff, Nat.reduceLeDiff, Nat.reduceAdd, Nat.reduceMul, Nat.reduceSub, Nat.reduceBEq, Nat.reduceGT, Nat.reduceLT, Int.reduceLE, Int.reduceLT, Int.reduceNeg, reduceCtorEq, e0], by simp only [go_sem, ↓reduceIte, Nat.reduceEqDiff, Nat.reduceLeDiff, Nat.reduceAdd, Nat.reduceMul, Nat.reduceSub, Nat.reduceBEq, Nat.reduceGT, Nat.reduceLT, Int.reduceLE, Int.reduceLT, Int.reduceNeg, reduceCtorEq, e3], by simp only [go_sem, ↓reduceIte, Nat.reduceEqDiff, Nat.reduceLeDiff, Nat.reduceAdd, Nat.reduceMul, Nat.reduceSub, Nat.reduceBEq, Nat.reduceGT, Nat.reduceLT, Int.reduceLE, Int.reduceLT, Int.reduceNeg, reduceCtorEq], by simp only [go_sem, ↓reduceIte, Nat.reduceEqDiff, Nat.reduceLeDiff, Nat.reduceAdd, Nat.reduceMul, Nat.reduceSub, Nat.reduceBEq, Nat.reduceGT, Nat.reduceLT, Int.reduceLE, Int.reduceLT, Int.reduceNeg, reduceCtorEq, e6], by omega, h2, fun j hj => ?_, h4, hc2, hlt2, hx2⟩, by omega⟩
      by_cases hjm : j = m
      · rw [hjm]; exact hq
      · exact lt_trans' (up_get hu (show j < m by omega) (by omega)) hq
    | false =>
      simp only [go_sem, ↓reduceIte, Nat.reduceEqDiff, Nat.reduceLeDiff, Nat.reduceAdd, Nat.reduceMul, Nat.reduceSub, Nat.reduceBEq, Nat.reduceGT, Nat.reduceLT, Int.reduceLE, Int.reduceLT, Int.reduceNeg, reduceCtorEq, e5, e6]
      refine ⟨Hold.mk ⟨lo, m, by simp only [go_sem, ↓reduceIte, Nat.reduceEqDiff, Nat.reduceLeDiff, Nat.reduceAdd, Nat.reduceMul, Nat.reduceSub, Nat.reduceBEq, Nat.reduceGT, Nat.reduceLT, Int.reduceLE, Int.reduceLT, Int.reduceNeg, reduceCtorEq, e0], by simp only [go_sem, ↓reduceIte, Nat.reduceEqDiff, Nat.reduceLeDiff, Nat.reduceAdd, Nat.reduceMul, Nat.reduceSub, Nat.reduceBEq, Nat.reduceGT, Nat.reduceLT, Int.reduceLE, Int.reduceLT, Int.reduceNeg, reduceCtorEq, e3], by simp only [go_sem, ↓reduceIte, Nat.reduceEqDiff, Nat.reduceLeDiff, Nat.reduceAdd, Nat.reduceMul, Nat.reduceSub, Nat.reduceBEq, Nat.reduceGT, Nat.reduceLT, Int.reduceLE, Int.reduceLT, Int.reduceNeg, reduceCtorEq, e5], by simp only [go_sem, ↓reduceIte, Nat.reduceEqDiff, Nat.reduceLeDiff, Nat.reduceAdd, Nat.reduceMul, Nat.reduceSub, Nat.reduceBEq, Nat.reduceGT, Nat.reduceLT, Int.reduceLE, Int.reduceLT, Int.reduceNeg, reduceCtorEq], by omega, by omega, h3, fun j hj hjl => ?_, hc2, hlt2, hx2⟩, by omega⟩
      by_cases hjm : j = m
      · rw [hjm]; exact hq
      · cases hq' : ltP (ps.getD j (0, 0)) p with
        | false => rfl
        | true => rw [lt_trans' (up_get hu (show m < j by omega) hjl) hq'] at hq; cases hq
  · have c1 : ¬ (lo : Int) < hi := by omega
    have hle : lo = hi := by omega
    subst hle
    by_cases hn : lo < ps.length
    · have c2 : (lo : Int) < ps.length := by omega
      have z0 : (0 : Int) ≤ lo := by omega
      obtain ⟨b, o, rfl⟩ := prs_at hv (by omega)
      obtain ⟨g1, g2⟩ := prs_get (prs_ext hv hx) (i := lo) hn
      simp only [go_sem, ↓reduceIte, Nat.reduceEqDiff, Nat.reduceLeDiff, Nat.reduceAdd, Nat.reduceMul, Nat.reduceSub, Nat.reduceBEq, Nat.reduceGT, Nat.reduceLT, Int.reduceLE, Int.reduceLT, Int.reduceNeg, reduceCtorEq, c30_L0, e0, e3, e5, e6, c1, c2, z0, g1, g2, gp0, gp1, Int.toNat_natCast, Option.bind_some]
      refine RunI.by (eq_pr _ _ (ps.getD lo (0, 0)) p H1) ?_
      rintro _ _ ⟨rfl, rfl⟩
      simp only [go_sem, ↓reduceIte, Nat.reduceEqDiff, Nat.reduceLeDiff, Nat.reduceAdd, Nat.reduceMul, Nat.reduceSub, Nat.reduceBEq, Nat.reduceGT, Nat.reduceLT, Int.reduceLE, Int.reduceLT, Int.reduceNeg, reduceCtorEq]
      refine ⟨?_, hx⟩
      congr 1
      rw [decide_eq_decide]
      constructor
      · intro h
        rw [← h]; exact mem_getD hn _
      · intro hm
        exact (has_at hu h3 (fun hh => h4 lo (Nat.le_refl _) hh) hm).2
    · have c2 : ¬ (lo : Int) < ps.length := by omega
      simp only [go_sem, ↓reduceIte, Nat.reduceEqDiff, Nat.reduceLeDiff, Nat.reduceAdd, Nat.reduceMul, Nat.reduceSub, Nat.reduceBEq, Nat.reduceGT, Nat.reduceLT, Int.reduceLE, Int.reduceLT, Int.reduceNeg, reduceCtorEq, c30_L0, e0, e3, e5, e6, c1, c2, gp0, gp1, Option.bind_some]
      refine ⟨?_, hx⟩
      congr 1
      symm
      rw [decide_eq_false_iff_not]
      intro hm
      exact hn (has_at hu h3 (fun hh => h4 lo (Nat.le_refl _) hh) hm).1
end Go.Proofs.Ytcgejfmbhpmjfaa
