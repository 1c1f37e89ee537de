/- The laws' small helpers: ahead, rises, may, has. -/
import Derived.Test.YtcgejfmbhpmjfaaVHelp
import Derived.Test.YtcgejfmbhpmjfaaVEncR
set_option linter.unusedSimpArgs false
set_option linter.unusedVariables false
set_option maxRecDepth 20000
namespace Go.Proofs.Ytcgejfmbhpmjfaa
open Go Go.V
-- 31: pith/pithlaw11.ahead
-- 29: pith/pithlaw11.rises
-- 32: pith/pithlaw11.may
-- 3: int
-- 24: pith/api.Pair
-- 22: []api.Pair
theorem F31 (p q : Pr) (H : Heap) : Fun Try.prog 31 #[pv p, pv q] H (fun r H' => r = .bool (ltP p q) ∧ Ext H H') := by
  refine fun_of mixed (args := [_, _]) Try.func31 Try.ntmps31 b31 r31 rfl ?_
  have hx1 : Ext H ((H.push (.cells #[.int .i64 p.1, .int .i64 p.2] 24)).push (.cells #[.int .i64 q.1, .int .i64 q.2] 24)) := (Ext.push _).trans ((Ext.push _).mono (by simp))
  by_cases h1 : p.1 < q.1
  · simp only [go_sem, ↓reduceIte, Nat.reduceEqDiff, Nat.reduceLeDiff, Nat.reduceAdd, Nat.reduceMul, Nat.reduceSub, Nat.reduceBEq, Nat.reduceGT, Nat.reduceLT, Int.reduceLE, Int.reduceLT, Int.reduceNeg, reduceCtorEq, pv, h1, ltP]
    simp [h1, hx1]
  · by_cases h2 : p.1 = q.1
    · rw [h2] at hx1
      simp only [go_sem, ↓reduceIte, Nat.reduceEqDiff, Nat.reduceLeDiff, Nat.reduceAdd, Nat.reduceMul, Nat.reduceSub, Nat.reduceBEq, Nat.reduceGT, Nat.reduceLT, Int.reduceLE, Int.reduceLT, Int.reduceNeg, reduceCtorEq, pv, h1, h2, ltP]
      simp [h1, h2, hx1]
    · simp only [go_sem, ↓reduceIte, Nat.reduceEqDiff, Nat.reduceLeDiff, Nat.reduceAdd, Nat.reduceMul, Nat.reduceSub, Nat.reduceBEq, Nat.reduceGT, Nat.reduceLT, Int.reduceLE, Int.reduceLT, Int.reduceNeg, reduceCtorEq, pv, h1, h2, ltP]
      simp [h1, h2, hx1]
set_option maxHeartbeats 800000 in
theorem F29 (v : Value) (ps : List Pr) (H : Heap) (hv : Prs H v ps) (hl : ps.length ≤ 8796093020000) :
    Fun Try.prog 29 #[v] H (fun r H' => r = .bool (riseP ps) ∧ Ext H H') := by
  obtain ⟨a, c, rfl⟩ := prs_form hv
  refine fun_of mixed (args := [_]) Try.func29 Try.ntmps29 b29 r29 rfl ?_
  simp only [go_sem, ↓reduceIte, Nat.reduceEqDiff, Nat.reduceLeDiff, Nat.reduceAdd, Nat.reduceMul, Nat.reduceSub, Nat.reduceBEq, Nat.reduceGT, Nat.reduceLT, Int.reduceLE, Int.reduceLT, Int.reduceNeg, reduceCtorEq]
  refine LoopI.by mixed (fun ρ H' => ∃ i : Nat, ρ 0 = .slice a ps.length c ∧ ρ 3 = .int .i64 ((i + 1 : Nat) : Int) ∧ (i + 1 ≤ ps.length ∨ i = 0) ∧ (∀ j, j < i → ltP (ps.getD j (0, 0)) (ps.getD (j + 1) (0, 0)) = true) ∧ Ext H H') (fun ρ _ => ps.length + 1 - (iof (ρ 3)).toNat) ?_ ?_
  · exact ⟨0, by simp only [go_sem, ↓reduceIte, Nat.reduceEqDiff, Nat.reduceLeDiff, Nat.reduceAdd, Nat.reduceMul, Nat.reduceSub, Nat.reduceBEq, Nat.reduceGT, Nat.reduceLT, Int.reduceLE, Int.reduceLT, Int.reduceNeg, reduceCtorEq], by simp only [go_sem, ↓reduceIte, Nat.reduceEqDiff, Nat.reduceLeDiff, Nat.reduceAdd, Nat.reduceMul, Nat.reduceSub, Nat.reduceBEq, Nat.reduceGT, Nat.reduceLT, Int.reduceLE, Int.reduceLT, Int.reduceNeg, reduceCtorEq]; rfl, .inr rfl, by omega, Upto.refl _ _⟩
  rintro ρ H1 ⟨i, e0, e3, hi, hall, hx⟩
  by_cases hlt : i + 1 < ps.length
  · have c1 : ((i + 1 : Nat) : Int) < ps.length := by omega
    have w1 : IntKind.i64.wrap (((i + 1 : Nat) : Int) - 1) = (i : Int) := by rw [w64_id (by omega) (by omega)]; omega
    have w2 : IntKind.i64.wrap (((i + 1 : Nat) : Int) + 1) = ((i + 2 : Nat) : Int) := by rw [w64_id (by omega) (by omega)]; omega
    have z0 : (0 : Int) ≤ i := by omega
    have z1 : (0 : Int) ≤ ((i + 1 : Nat) : Int) := by omega
    have z2 : (i : Int) < ps.length := by omega
    obtain ⟨b, o, rfl⟩ := prs_at hv (by omega)
    obtain ⟨g1, g2⟩ := prs_get (prs_ext hv hx) (i := i) (by omega)
    obtain ⟨g3, g4⟩ := prs_get (prs_ext hv hx) (i := i + 1) (by omega)
    simp only [go_sem, ↓reduceIte, Nat.reduceEqDiff, Nat.reduceLeDiff, Nat.reduceAdd, Nat.reduceMul, Nat.reduceSub, Nat.reduceBEq, Nat.reduceGT, Nat.reduceLT, Int.reduceLE, Int.reduceLT, Int.reduceNeg, reduceCtorEq, c29_L0, e0, e3, c1, w1, w2, z0, z1, z2, g1, g2, g3, g4, Int.toNat_natCast, Option.bind_some]
    refine FunI.by (F31 (ps.getD i (0, 0)) (ps.getD (i + 1) (0, 0)) H1) ?_
    rintro _ H2 ⟨rfl, x2⟩
    replace hx := hx.trans (x2.mono hx.size)
    cases hq : ltP (ps.getD i (0, 0)) (ps.getD (i + 1) (0, 0)) with
    | true =>
      simp only [go_sem, ↓reduceIte, Nat.reduceEqDiff, Nat.reduceLeDiff, Nat.reduceAdd, Nat.reduceMul, Nat.reduceSub, Nat.reduceBEq, Nat.reduceGT, Nat.reduceLT, Int.reduceLE, Int.reduceLT, Int.reduceNeg, reduceCtorEq, e3, w2]
      refine ⟨Hold.mk ⟨i + 1, by simp only [go_sem, ↓reduceIte, Nat.reduceEqDiff, Nat.reduceLeDiff, Nat.reduceAdd, Nat.reduceMul, Nat.reduceSub, Nat.reduceBEq, Nat.reduceGT, Nat.reduceLT, Int.reduceLE, Int.reduceLT, Int.reduceNeg, reduceCtorEq, e0], by simp only [go_sem, ↓reduceIte, Nat.reduceEqDiff, Nat.reduceLeDiff, Nat.reduceAdd, Nat.reduceMul, Nat.reduceSub, Nat.reduceBEq, Nat.reduceGT, Nat.reduceLT, Int.reduceLE, Int.reduceLT, Int.reduceNeg, reduceCtorEq], by omega, fun j hj => ?_, hx⟩, by omega⟩
      by_cases hji : j = i
      · rw [hji]; exact hq
      · exact hall j (by omega)
    | false =>
      simp only [go_sem, ↓reduceIte, Nat.reduceEqDiff, Nat.reduceLeDiff, Nat.reduceAdd, Nat.reduceMul, Nat.reduceSub, Nat.reduceBEq, Nat.reduceGT, Nat.reduceLT, Int.reduceLE, Int.reduceLT, Int.reduceNeg, reduceCtorEq]
      rw [riseP_no hlt hq]
      exact ⟨rfl, hx⟩
  · have c1 : ¬ ((i + 1 : Nat) : Int) < ps.length := by omega
    simp only [go_sem, ↓reduceIte, Nat.reduceEqDiff, Nat.reduceLeDiff, Nat.reduceAdd, Nat.reduceMul, Nat.reduceSub, Nat.reduceBEq, Nat.reduceGT, Nat.reduceLT, Int.reduceLE, Int.reduceLT, Int.reduceNeg, reduceCtorEq, c29_L0, e0, e3, c1]
    rw [riseP_yes fun j hj => hall j (by omega)]
    exact ⟨rfl, hx⟩
/-- May these be a payload? -/
def mayP (ps : List Pr) : Bool := decide (1 ≤ ps.length ∧ ps.length ≤ 100) && riseP ps && ps.all okP
theorem mayP_enc (ps : List Pr) : decide ((encR ps).2 = 0) = mayP ps := by
  unfold encR mayP
  by_cases h1 : ps.length = 0 ∨ 100 < ps.length
  · rw [if_pos h1, decide_eq_false (p := 1 ≤ ps.length ∧ ps.length ≤ 100) (by omega)]
    rfl
  · rw [if_neg h1, decide_eq_true (p := 1 ≤ ps.length ∧ ps.length ≤ 100) (by omega)]
    cases ps.all okP <;> cases riseP ps <;> rfl
set_option maxHeartbeats 800000 in
theorem F32 (v : Value) (ps : List Pr) (H : Heap) (hv : Prs H v ps) (hl : ps.length ≤ 8796093020000) :
    Fun Try.prog 32 #[v] H (fun r H' => r = .bool (mayP ps) ∧ Ext H H') := by
  obtain ⟨a, c, rfl⟩ := prs_form hv
  refine fun_of mixed (args := [_]) Try.func32 Try.ntmps32 b32 r32 rfl ?_
  by_cases h1 : ps.length = 0
  · have c1 : (ps.length : Int) < 1 := by omega
    simp only [go_sem, ↓reduceIte, Nat.reduceEqDiff, Nat.reduceLeDiff, Nat.reduceAdd, Nat.reduceMul, Nat.reduceSub, Nat.reduceBEq, Nat.reduceGT, Nat.reduceLT, Int.reduceLE, Int.reduceLT, Int.reduceNeg, reduceCtorEq, c1, mayP]
    simp [h1]
    exact Upto.refl _ _
  by_cases h2 : 100 < ps.length
  · have c1 : ¬ (ps.length : Int) < 1 := by omega
    have c2 : (100 : Int) < ps.length := by omega
    simp only [go_sem, ↓reduceIte, Nat.reduceEqDiff, Nat.reduceLeDiff, Nat.reduceAdd, Nat.reduceMul, Nat.reduceSub, Nat.reduceBEq, Nat.reduceGT, Nat.reduceLT, Int.reduceLE, Int.reduceLT, Int.reduceNeg, reduceCtorEq, c1, c2, mayP]
    have : decide (1 ≤ ps.length ∧ ps.length ≤ 100) = false := by simp; omega
    rw [this]
    exact ⟨rfl, Upto.refl _ _⟩
  have c1 : ¬ (ps.length : Int) < 1 := by omega
  have c2 : ¬ (100 : Int) < ps.length := by omega
  have hd : decide (1 ≤ ps.length ∧ ps.length ≤ 100) = true := by simp; omega
  simp only [go_sem, ↓reduceIte, Nat.reduceEqDiff, Nat.reduceLeDiff, Nat.reduceAdd, Nat.reduceMul, Nat.reduceSub, Nat.reduceBEq, Nat.reduceGT, Nat.reduceLT, Int.reduceLE, Int.reduceLT, Int.reduceNeg, reduceCtorEq, c1, c2]
  refine FunI.by (F29 _ ps H hv hl) ?_
  rintro _ H1 ⟨rfl, x1⟩
  unfold mayP
  rw [hd, Bool.true_and]
  cases hr : riseP ps with
  | false =>
    simp only [go_sem, ↓reduceIte, Nat.reduceEqDiff, Nat.reduceLeDiff, Nat.reduceAdd, Nat.reduceMul, Nat.reduceSub, Nat.reduceBEq, Nat.reduceGT, Nat.reduceLT, Int.reduceLE, Int.reduceLT, Int.reduceNeg, reduceCtorEq]
    exact x1
  | true =>
    simp only [go_sem, ↓reduceIte, Nat.reduceEqDiff, Nat.reduceLeDiff, Nat.reduceAdd, Nat.reduceMul, Nat.reduceSub, Nat.reduceBEq, Nat.reduceGT, Nat.reduceLT, Int.reduceLE, Int.reduceLT, Int.reduceNeg, reduceCtorEq]
    refine LoopI.by mixed (fun ρ H' => H1 = H' ∧ ∃ i : Nat, ρ 0 = .slice a ps.length c ∧ ρ 3 = .int .i64 i ∧ i ≤ ps.length ∧ (∀ j, j < i → okP (ps.getD j (0, 0)) = true)) (fun ρ _ => ps.length - (iof (ρ 3)).toNat) ?_ ?_
    · exact ⟨rfl, 0, by simp only [go_sem, ↓reduceIte, Nat.reduceEqDiff, Nat.reduceLeDiff, Nat.reduceAdd, Nat.reduceMul, Nat.reduceSub, Nat.reduceBEq, Nat.reduceGT, Nat.reduceLT, Int.reduceLE, Int.reduceLT, Int.reduceNeg, reduceCtorEq], by simp only [go_sem, ↓reduceIte, Nat.reduceEqDiff, Nat.reduceLeDiff, Nat.reduceAdd, Nat.reduceMul, Nat.reduceSub, Nat.reduceBEq, Nat.reduceGT, Nat.reduceLT, Int.reduceLE, Int.reduceLT, Int.reduceNeg, reduceCtorEq]; rfl, by omega, by omega⟩
    rintro ρ _ ⟨rfl, i, e0, e3, hi, hall⟩
    by_cases hlt : i < ps.length
    · have q1 : (i : Int) < ps.length := by omega
      have z0 : (0 : Int) ≤ i := by omega
      obtain ⟨b, o, rfl⟩ := prs_at hv (by omega)
      obtain ⟨g1, g2⟩ := prs_get (prs_ext hv x1) hlt
      have hno : okP (ps.getD i (0, 0)) = false → ps.all okP = false := fun h => by
        rw [List.all_eq_false]
        exact ⟨_, mem_getD hlt (0, 0), by rw [h]; simp⟩
      obtain ⟨p, hp⟩ : ∃ p, p = ps.getD i (0, 0) := ⟨_, rfl⟩
      rw [← hp] at g1 g2 hno
      by_cases a1 : p.1 < 0
      · simp only [go_sem, ↓reduceIte, Nat.reduceEqDiff, Nat.reduceLeDiff, Nat.reduceAdd, Nat.reduceMul, Nat.reduceSub, Nat.reduceBEq, Nat.reduceGT, Nat.reduceLT, Int.reduceLE, Int.reduceLT, Int.reduceNeg, reduceCtorEq, c32_L0, e0, e3, q1, z0, g1, g2, a1, Int.toNat_natCast, Option.bind_some]
        rw [hno (by unfold okP okV; simp; omega)]
        exact ⟨rfl, x1⟩
      by_cases a2 : p.1 ≥ 16777216
      · have a2' : (16777216 : Int) ≤ p.1 := a2
        simp only [go_sem, ↓reduceIte, Nat.reduceEqDiff, Nat.reduceLeDiff, Nat.reduceAdd, Nat.reduceMul, Nat.reduceSub, Nat.reduceBEq, Nat.reduceGT, Nat.reduceLT, Int.reduceLE, Int.reduceLT, Int.reduceNeg, reduceCtorEq, c32_L0, e0, e3, q1, z0, g1, g2, a1, a2', Int.toNat_natCast, Option.bind_some]
        rw [hno (by unfold okP okV; simp; omega)]
        exact ⟨rfl, x1⟩
      have a2' : ¬ (16777216 : Int) ≤ p.1 := a2
      by_cases a3 : p.2 < 0
      · simp only [go_sem, ↓reduceIte, Nat.reduceEqDiff, Nat.reduceLeDiff, Nat.reduceAdd, Nat.reduceMul, Nat.reduceSub, Nat.reduceBEq, Nat.reduceGT, Nat.reduceLT, Int.reduceLE, Int.reduceLT, Int.reduceNeg, reduceCtorEq, c32_L0, e0, e3, q1, z0, g1, g2, a1, a2', a3, Int.toNat_natCast, Option.bind_some]
        rw [hno (by unfold okP okV; simp; omega)]
        exact ⟨rfl, x1⟩
      by_cases a4 : p.2 ≥ 16777216
      · have a4' : (16777216 : Int) ≤ p.2 := a4
        simp only [go_sem, ↓reduceIte, Nat.reduceEqDiff, Nat.reduceLeDiff, Nat.reduceAdd, Nat.reduceMul, Nat.reduceSub, Nat.reduceBEq, Nat.reduceGT, Nat.reduceLT, Int.reduceLE, Int.reduceLT, Int.reduceNeg, reduceCtorEq, c32_L0, e0, e3, q1, z0, g1, g2, a1, a2', a3, a4', Int.toNat_natCast, Option.bind_some]
        rw [hno (by unfold okP okV; simp; omega)]
        exact ⟨rfl, x1⟩
      have a4' : ¬ (16777216 : Int) ≤ p.2 := a4
      simp only [go_sem, ↓reduceIte, Nat.reduceEqDiff, Nat.reduceLeDiff, Nat.reduceAdd, Nat.reduceMul, Nat.reduceSub, Nat.reduceBEq, Nat.reduceGT, Nat.reduceLT, Int.reduceLE, Int.reduceLT, Int.reduceNeg, reduceCtorEq, c32_L0, e0, e3, q1, z0, g1, g2, a1, a2', a3, a4', Int.toNat_natCast, Option.bind_some, w64_id (n := (i : Int) + 1) (by omega) (by omega)]
      refine ⟨Hold.mk ⟨rfl, i + 1, by simp only [go_sem, ↓reduceIte, Nat.reduceEqDiff, Nat.reduceLeDiff, Nat.reduceAdd, Nat.reduceMul, Nat.reduceSub, Nat.reduceBEq, Nat.reduceGT, Nat.reduceLT, Int.reduceLE, Int.reduceLT, Int.reduceNeg, reduceCtorEq, e0], by simp only [go_sem, ↓reduceIte, Nat.reduceEqDiff, Nat.reduceLeDiff, Nat.reduceAdd, Nat.reduceMul, Nat.reduceSub, Nat.reduceBEq, Nat.reduceGT, Nat.reduceLT, Int.reduceLE, Int.reduceLT, Int.reduceNeg, reduceCtorEq]; rfl, by omega, fun j hj => ?_⟩, by omega⟩
      by_cases hji : j = i
      · rw [hji, ← hp]; unfold okP okV; simp; omega
      · exact hall j (by omega)
    · have q1 : ¬ (i : Int) < ps.length := by omega
      simp only [go_sem, ↓reduceIte, Nat.reduceEqDiff, Nat.reduceLeDiff, Nat.reduceAdd, Nat.reduceMul, Nat.reduceSub, Nat.reduceBEq, Nat.reduceGT, Nat.reduceLT, Int.reduceLE, Int.reduceLT, Int.reduceNeg, reduceCtorEq, c32_L0, e0, e3, q1]
      have : ps.all okP = true := by
        rw [List.all_eq_true]
        intro x hx
        obtain ⟨j, hj, rfl⟩ := List.mem_iff_getElem.1 hx
        have := hall j (by omega)
        rwa [List.getD_eq_getElem?_getD, List.getElem?_eq_getElem hj] at this
      rw [this]
      exact ⟨rfl, x1⟩
end Go.Proofs.Ytcgejfmbhpmjfaa
