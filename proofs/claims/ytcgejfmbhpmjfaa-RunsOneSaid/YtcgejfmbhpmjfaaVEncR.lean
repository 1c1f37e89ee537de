/- Both encoders of arcs answer what encR says. -/
import Derived.Test.YtcgejfmbhpmjfaaVPair
set_option linter.unusedSimpArgs false
set_option linter.unusedVariables false
set_option maxRecDepth 20000
namespace Go.Proofs.Ytcgejfmbhpmjfaa
open Go Go.V
-- 47: pith/runs.isVertex
-- 50: pith/pithref11.in
-- 48: pith/runs.rise
-- 51: pith/pithref11.Rises
-- 20: pith/runs.Encode
-- 21: pith/pithref11.Encode
-- 49: pith/varint.Put
-- 52: pith/pithref1.Put
-- 5: uint8
-- 30: []uint8
-- 3: int
-- 24: pith/api.Pair

def okV (x : Int) : Bool := decide (0 ≤ x ∧ x < 16777216)
theorem F47 (x : Int) (H : Heap) : Fun Try.prog 47 #[.int .i64 x] H (fun r H' => r = .bool (okV x) ∧ H = H') := by
  refine fun_of mixed (args := [_]) Try.func47 Try.ntmps47 b47 r47 rfl ?_
  by_cases h1 : 0 ≤ x
  · by_cases h2 : x < 16777216 <;> simp only [go_sem, ↓reduceIte, Nat.reduceEqDiff, Nat.reduceLeDiff, Nat.reduceAdd, Nat.reduceMul, Nat.reduceSub, Nat.reduceBEq, Nat.reduceGT, Nat.reduceLT, Int.reduceLE, Int.reduceLT, Int.reduceNeg, reduceCtorEq, h1, h2, okV, and_self, and_false, decide_true, decide_false]
  · simp only [go_sem, ↓reduceIte, Nat.reduceEqDiff, Nat.reduceLeDiff, Nat.reduceAdd, Nat.reduceMul, Nat.reduceSub, Nat.reduceBEq, Nat.reduceGT, Nat.reduceLT, Int.reduceLE, Int.reduceLT, Int.reduceNeg, reduceCtorEq, h1, okV, false_and, decide_false]
theorem F50 (x : Int) (H : Heap) : Fun Try.prog 50 #[.int .i64 x] H (fun r H' => r = .bool (okV x) ∧ H = H') := by
  refine fun_of mixed (args := [_]) Try.func50 Try.ntmps50 b50 r50 rfl ?_
  by_cases h1 : 0 ≤ x
  · by_cases h2 : x < 16777216 <;> simp only [go_sem, ↓reduceIte, Nat.reduceEqDiff, Nat.reduceLeDiff, Nat.reduceAdd, Nat.reduceMul, Nat.reduceSub, Nat.reduceBEq, Nat.reduceGT, Nat.reduceLT, Int.reduceLE, Int.reduceLT, Int.reduceNeg, reduceCtorEq, h1, h2, okV, and_self, and_false, decide_true, decide_false]
  · simp only [go_sem, ↓reduceIte, Nat.reduceEqDiff, Nat.reduceLeDiff, Nat.reduceAdd, Nat.reduceMul, Nat.reduceSub, Nat.reduceBEq, Nat.reduceGT, Nat.reduceLT, Int.reduceLE, Int.reduceLT, Int.reduceNeg, reduceCtorEq, h1, okV, false_and, decide_false]

/-- One arc behind another. -/
def stepB (last p : Pr) (f : Bool) : List Int := vput (p.1 - last.1) ++ (if f = true ∨ last.1 < p.1 then vput p.2 else vput (p.2 - last.2 - 1))
def lastI (ps : List Pr) (i : Nat) : Pr := if i = 0 then (0, 0) else ps.getD (i - 1) (0, 0)
def bodyI (ps : List Pr) (i : Nat) : List Int := (List.range i).flatMap fun j => stepB (lastI ps j) (ps.getD j (0, 0)) (j == 0)
theorem bodyI_succ (ps : List Pr) (i : Nat) : bodyI ps (i + 1) = bodyI ps i ++ stepB (lastI ps i) (ps.getD i (0, 0)) (i == 0) := by
  simp [bodyI, List.range_succ]
def okP (p : Pr) : Bool := okV p.1 && okV p.2
/-- What Encode answers. -/
def encR (ps : List Pr) : Option (List Int) × Int :=
  if ps.length = 0 ∨ 100 < ps.length then (none, 110)
  else if ps.all okP = false then (none, 42)
  else if riseP ps = false then (none, 111)
  else (some (vput ps.length ++ bodyI ps ps.length), 0)
/-- The answer, on the heap. -/
def encA (H : Heap) (ps : List Pr) (r : Value) (H' : Heap) : Prop := Ext H H' ∧ ∃ v, r = .tuple #[v, .int .i64 (encR ps).2] ∧ Own H' H.size 5 1 v (((encR ps).1.getD []).map (.int .u8))

theorem vput_le {x : Int} (h : x < 9223372036854775808) : (vput x).length ≤ 9 := by rw [vput_len]; exact vlen_9 (by omega)
theorem stepB_le {last p : Pr} {f : Bool} (h1 : p.1 - last.1 < 9223372036854775808) (h2 : p.2 < 9223372036854775808) (h3 : p.2 - last.2 - 1 < 9223372036854775808) : (stepB last p f).length ≤ 18 := by
  have a := vput_le h1
  have b := vput_le h2
  have c := vput_le h3
  rw [stepB, List.length_append]
  split <;> omega

set_option maxHeartbeats 3200000 in
theorem F20 (v : Value) (ps : List Pr) (H : Heap) (hv : Prs H v ps) :
    Fun Try.prog 20 #[v] H (encA H ps) := by
  obtain ⟨a, c, rfl⟩ := prs_form hv
  refine fun_of mixed (args := [_]) Try.func20 Try.ntmps20 b20 r20 rfl ?_
  by_cases h0 : ps.length = 0
  · have c0 : (ps.length : Int) = 0 := by omega
    have hr : encR ps = (none, 110) := by unfold encR; rw [if_pos (.inl h0)]
    simp only [go_sem, ↓reduceIte, Nat.reduceEqDiff, Nat.reduceLeDiff, Nat.reduceAdd, Nat.reduceMul, Nat.reduceSub, Nat.reduceBEq, Nat.reduceGT, Nat.reduceLT, Int.reduceLE, Int.reduceLT, Int.reduceNeg, reduceCtorEq, c0]
    exact ⟨Upto.refl _ _, _, by rw [hr], by rw [hr]; exact Own.nil⟩
  by_cases h1 : 100 < ps.length
  · have c0 : ¬ (ps.length : Int) = 0 := by omega
    have c1 : (100 : Int) < ps.length := by omega
    have hr : encR ps = (none, 110) := by unfold encR; rw [if_pos (.inr h1)]
    simp only [go_sem, ↓reduceIte, Nat.reduceEqDiff, Nat.reduceLeDiff, Nat.reduceAdd, Nat.reduceMul, Nat.reduceSub, Nat.reduceBEq, Nat.reduceGT, Nat.reduceLT, Int.reduceLE, Int.reduceLT, Int.reduceNeg, reduceCtorEq, c0, c1]
    exact ⟨Upto.refl _ _, _, by rw [hr], by rw [hr]; exact Own.nil⟩
  have c0 : ¬ (ps.length : Int) = 0 := by omega
  have c1 : ¬ (100 : Int) < ps.length := by omega
  obtain ⟨b, o, rfl⟩ := prs_at hv (by omega)
  simp only [go_sem, ↓reduceIte, Nat.reduceEqDiff, Nat.reduceLeDiff, Nat.reduceAdd, Nat.reduceMul, Nat.reduceSub, Nat.reduceBEq, Nat.reduceGT, Nat.reduceLT, Int.reduceLE, Int.reduceLT, Int.reduceNeg, reduceCtorEq, c0, c1]
  refine LoopI.by mixed (fun ρ H' => ∃ i : Nat, ρ 0 = .slice (some ⟨b, o, none⟩) ps.length c ∧ ρ 18 = .slice (some ⟨b, o, none⟩) ps.length c ∧ ρ 19 = .int .i64 ps.length ∧ ρ 20 = .int .i64 i ∧ i ≤ ps.length ∧ (∀ j, j < i → okP (ps.getD j (0, 0)) = true) ∧ Ext H H') (fun ρ _ => ps.length - (iof (ρ 20)).toNat) ?_ ?_
  · exact ⟨0, by simp only [go_sem, ↓reduceIte, Nat.reduceEqDiff, Nat.reduceLeDiff, Nat.reduceAdd, Nat.reduceMul, Nat.reduceSub, Nat.reduceBEq, Nat.reduceGT, Nat.reduceLT, Int.reduceLE, Int.reduceLT, Int.reduceNeg, reduceCtorEq], by simp only [go_sem, ↓reduceIte, Nat.reduceEqDiff, Nat.reduceLeDiff, Nat.reduceAdd, Nat.reduceMul, Nat.reduceSub, Nat.reduceBEq, Nat.reduceGT, Nat.reduceLT, Int.reduceLE, Int.reduceLT, Int.reduceNeg, reduceCtorEq], by simp only [go_sem, ↓reduceIte, Nat.reduceEqDiff, Nat.reduceLeDiff, Nat.reduceAdd, Nat.reduceMul, Nat.reduceSub, Nat.reduceBEq, Nat.reduceGT, Nat.reduceLT, Int.reduceLE, Int.reduceLT, Int.reduceNeg, reduceCtorEq], by simp only [go_sem, ↓reduceIte, Nat.reduceEqDiff, Nat.reduceLeDiff, Nat.reduceAdd, Nat.reduceMul, Nat.reduceSub, Nat.reduceBEq, Nat.reduceGT, Nat.reduceLT, Int.reduceLE, Int.reduceLT, Int.reduceNeg, reduceCtorEq]; rfl, by omega, by omega, Upto.refl _ _⟩
  rintro ρ H1 ⟨i, e0, e18, e19, e20, hi, hj, hx⟩
  by_cases hlt : i < ps.length
  · have c2 : (i : Int) < ps.length := by omega
    have z0 : (0 : Int) ≤ i := by omega
    obtain ⟨g1, g2⟩ := prs_get (prs_ext hv hx) hlt
    have hx1 : Ext H1 (H1.push (.cells #[.int .i64 (ps.getD i (0, 0)).1, .int .i64 (ps.getD i (0, 0)).2] 24)) := Ext.push _
    have hxa := hx.trans (hx1.mono hx.size)
    simp only [go_sem, ↓reduceIte, Nat.reduceEqDiff, Nat.reduceLeDiff, Nat.reduceAdd, Nat.reduceMul, Nat.reduceSub, Nat.reduceBEq, Nat.reduceGT, Nat.reduceLT, Int.reduceLE, Int.reduceLT, Int.reduceNeg, reduceCtorEq, c20_L0, e0, e18, e19, e20, c2, z0, g1, g2, Int.toNat_natCast, Option.bind_some, hput_push2]
    refine ⟨rfl, hcan_of push_new (by simp), ?_⟩
    refine FunI.by (F47 _ _) ?_
    rintro _ _ ⟨rfl, rfl⟩
    have bad : okP (ps.getD i (0, 0)) = false → encR ps = (none, 42) := by
      intro h
      unfold encR
      rw [if_neg (by omega), if_pos]
      rw [List.all_eq_false]
      exact ⟨_, mem_getD hlt (0, 0), by rw [h]; simp⟩
    cases hv1 : okV (ps.getD i (0, 0)).1 with
    | false =>
      have hr := bad (by rw [okP, hv1]; rfl)
      simp only [go_sem, ↓reduceIte, Nat.reduceEqDiff, Nat.reduceLeDiff, Nat.reduceAdd, Nat.reduceMul, Nat.reduceSub, Nat.reduceBEq, Nat.reduceGT, Nat.reduceLT, Int.reduceLE, Int.reduceLT, Int.reduceNeg, reduceCtorEq]
      exact ⟨hxa, _, by rw [hr], by rw [hr]; exact Own.nil⟩
    | true =>
      simp only [go_sem, ↓reduceIte, Nat.reduceEqDiff, Nat.reduceLeDiff, Nat.reduceAdd, Nat.reduceMul, Nat.reduceSub, Nat.reduceBEq, Nat.reduceGT, Nat.reduceLT, Int.reduceLE, Int.reduceLT, Int.reduceNeg, reduceCtorEq]
      refine FunI.by (F47 _ _) ?_
      rintro _ _ ⟨rfl, rfl⟩
      cases hv2 : okV (ps.getD i (0, 0)).2 with
      | false =>
        have hr := bad (by rw [okP, hv1, hv2]; rfl)
        simp only [go_sem, ↓reduceIte, Nat.reduceEqDiff, Nat.reduceLeDiff, Nat.reduceAdd, Nat.reduceMul, Nat.reduceSub, Nat.reduceBEq, Nat.reduceGT, Nat.reduceLT, Int.reduceLE, Int.reduceLT, Int.reduceNeg, reduceCtorEq]
        exact ⟨hxa, _, by rw [hr], by rw [hr]; exact Own.nil⟩
      | true =>
        simp only [go_sem, ↓reduceIte, Nat.reduceEqDiff, Nat.reduceLeDiff, Nat.reduceAdd, Nat.reduceMul, Nat.reduceSub, Nat.reduceBEq, Nat.reduceGT, Nat.reduceLT, Int.reduceLE, Int.reduceLT, Int.reduceNeg, reduceCtorEq, e0, e18, e19, e20, w64_id (n := (i : Int) + 1) (by omega) (by omega)]
        refine ⟨Hold.mk ⟨i + 1, by simp only [go_sem, ↓reduceIte, Nat.reduceEqDiff, Nat.reduceLeDiff, Nat.reduceAdd, Nat.reduceMul, Nat.reduceSub, Nat.reduceBEq, Nat.reduceGT, Nat.reduceLT, Int.reduceLE, Int.reduceLT, Int.reduceNeg, reduceCtorEq, e0], by simp only [go_sem, ↓reduceIte, Nat.reduceEqDiff, Nat.reduceLeDiff, Nat.reduceAdd, Nat.reduceMul, Nat.reduceSub, Nat.reduceBEq, Nat.reduceGT, Nat.reduceLT, Int.reduceLE, Int.reduceLT, Int.reduceNeg, reduceCtorEq, e18], by simp only [go_sem, ↓reduceIte, Nat.reduceEqDiff, Nat.reduceLeDiff, Nat.reduceAdd, Nat.reduceMul, Nat.reduceSub, Nat.reduceBEq, Nat.reduceGT, Nat.reduceLT, Int.reduceLE, Int.reduceLT, Int.reduceNeg, reduceCtorEq, e19], by simp only [go_sem, ↓reduceIte, Nat.reduceEqDiff, Nat.reduceLeDiff, Nat.reduceAdd, Nat.reduceMul, Nat.reduceSub, Nat.reduceBEq, Nat.reduceGT, Nat.reduceLT, Int.reduceLE, Int.reduceLT, Int.reduceNeg, reduceCtorEq]; rfl, by omega, fun j hj1 => ?_, hxa⟩, by omega⟩
        by_cases hji : j = i
        · subst hji; rw [okP, hv1, hv2]; rfl
        · exact hj j (by omega)
  · have c2 : ¬ (i : Int) < ps.length := by omega
    simp only [go_sem, ↓reduceIte, Nat.reduceEqDiff, Nat.reduceLeDiff, Nat.reduceAdd, Nat.reduceMul, Nat.reduceSub, Nat.reduceBEq, Nat.reduceGT, Nat.reduceLT, Int.reduceLE, Int.reduceLT, Int.reduceNeg, reduceCtorEq, c20_L0, e0, e18, e19, e20, c2]
    have hall : ps.all okP = true := by
      rw [List.all_eq_true]
      intro p hp
      obtain ⟨j, hj1, hj2⟩ := List.getElem_of_mem hp
      have := hj j (by omega)
      rw [List.getD_eq_getElem?_getD, List.getElem?_eq_getElem hj1, hj2] at this
      exact this
    have hok : ∀ j, j < ps.length → 0 ≤ (ps.getD j (0, 0)).1 ∧ (ps.getD j (0, 0)).1 < 16777216 ∧ 0 ≤ (ps.getD j (0, 0)).2 ∧ (ps.getD j (0, 0)).2 < 16777216 := by
      intro j hj1
      have := hj j (by omega)
      simp only [okP, okV, Bool.and_eq_true, decide_eq_true_eq] at this
      omega
    refine FunI.by (F48 _ ps H1 (prs_ext hv hx) (by omega)) ?_
    rintro _ H2 ⟨rfl, hx2⟩
    have hxb := hx.trans (hx2.mono hx.size)
    cases hri : riseP ps with
    | false =>
      have hr : encR ps = (none, 111) := by unfold encR; rw [if_neg (by omega), if_neg (by rw [hall]; simp), if_pos hri]
      simp only [go_sem, ↓reduceIte, Nat.reduceEqDiff, Nat.reduceLeDiff, Nat.reduceAdd, Nat.reduceMul, Nat.reduceSub, Nat.reduceBEq, Nat.reduceGT, Nat.reduceLT, Int.reduceLE, Int.reduceLT, Int.reduceNeg, reduceCtorEq]
      exact ⟨hxb, _, by rw [hr], by rw [hr]; exact Own.nil⟩
    | true =>
      have hr : encR ps = (some (vput ps.length ++ bodyI ps ps.length), 0) := by unfold encR; rw [if_neg (by omega), if_neg (by rw [hall]; simp), if_neg (by rw [hri]; simp)]
      simp only [go_sem, ↓reduceIte, Nat.reduceEqDiff, Nat.reduceLeDiff, Nat.reduceAdd, Nat.reduceMul, Nat.reduceSub, Nat.reduceBEq, Nat.reduceGT, Nat.reduceLT, Int.reduceLE, Int.reduceLT, Int.reduceNeg, reduceCtorEq, e0]
      refine FunI.by (F49 _ [] ps.length H2 Ints.nil (by simp) (by omega)) ?_
      rintro v6 H3 ⟨ho3, hx3⟩
      have hxc := hxb.trans (hx3.mono hxb.size)
      rw [List.nil_append] at ho3
      simp only [go_sem, ↓reduceIte, Nat.reduceEqDiff, Nat.reduceLeDiff, Nat.reduceAdd, Nat.reduceMul, Nat.reduceSub, Nat.reduceBEq, Nat.reduceGT, Nat.reduceLT, Int.reduceLE, Int.reduceLT, Int.reduceNeg, reduceCtorEq, e0]
      refine LoopI.by mixed (fun ρ H' => ∃ (i : Nat) (v6 : Value), ρ 0 = .slice (some ⟨b, o, none⟩) ps.length c ∧ ρ 41 = .slice (some ⟨b, o, none⟩) ps.length c ∧ ρ 42 = .int .i64 ps.length ∧ ρ 43 = .int .i64 i ∧ ρ 6 = v6 ∧ i ≤ ps.length ∧
        Own H' H.size 5 1 v6 ((vput ps.length ++ bodyI ps i).map (.int .u8)) ∧ (bodyI ps i).length ≤ 18 * i ∧ Ext H H') (fun ρ _ => ps.length - (iof (ρ 43)).toNat) ?_ ?_
      · exact ⟨0, v6, by simp only [go_sem, ↓reduceIte, Nat.reduceEqDiff, Nat.reduceLeDiff, Nat.reduceAdd, Nat.reduceMul, Nat.reduceSub, Nat.reduceBEq, Nat.reduceGT, Nat.reduceLT, Int.reduceLE, Int.reduceLT, Int.reduceNeg, reduceCtorEq, e0], by simp only [go_sem, ↓reduceIte, Nat.reduceEqDiff, Nat.reduceLeDiff, Nat.reduceAdd, Nat.reduceMul, Nat.reduceSub, Nat.reduceBEq, Nat.reduceGT, Nat.reduceLT, Int.reduceLE, Int.reduceLT, Int.reduceNeg, reduceCtorEq], by simp only [go_sem, ↓reduceIte, Nat.reduceEqDiff, Nat.reduceLeDiff, Nat.reduceAdd, Nat.reduceMul, Nat.reduceSub, Nat.reduceBEq, Nat.reduceGT, Nat.reduceLT, Int.reduceLE, Int.reduceLT, Int.reduceNeg, reduceCtorEq], by simp only [go_sem, ↓reduceIte, Nat.reduceEqDiff, Nat.reduceLeDiff, Nat.reduceAdd, Nat.reduceMul, Nat.reduceSub, Nat.reduceBEq, Nat.reduceGT, Nat.reduceLT, Int.reduceLE, Int.reduceLT, Int.reduceNeg, reduceCtorEq]; rfl, by simp only [go_sem, ↓reduceIte, Nat.reduceEqDiff, Nat.reduceLeDiff, Nat.reduceAdd, Nat.reduceMul, Nat.reduceSub, Nat.reduceBEq, Nat.reduceGT, Nat.reduceLT, Int.reduceLE, Int.reduceLT, Int.reduceNeg, reduceCtorEq], by omega, by simpa [bodyI] using ho3.mono hxb.size, by simp [bodyI], hxc⟩
      rintro σ H4 ⟨i, w6, f0, f41, f42, f43, f6, hi, ho4, hbl, hx4⟩
      by_cases hlt : i < ps.length
      · have c2 : (i : Int) < ps.length := by omega
        have z0 : (0 : Int) ≤ i := by omega
        obtain ⟨g1, g2⟩ := prs_get (prs_ext hv hx4) hlt
        have hk := hok i hlt
        have hvl := vput_le (x := ps.length) (by omega)
        simp only [go_sem, ↓reduceIte, Nat.reduceEqDiff, Nat.reduceLeDiff, Nat.reduceAdd, Nat.reduceMul, Nat.reduceSub, Nat.reduceBEq, Nat.reduceGT, Nat.reduceLT, Int.reduceLE, Int.reduceLT, Int.reduceNeg, reduceCtorEq, c20_L1, f0, f41, f42, f43, f6, c2, z0, g1, g2, Int.toNat_natCast, Option.bind_some, hput_push2]
        refine ⟨rfl, hcan_of push_new (by simp), rfl, hcan_of push_new (by simp), ?_⟩
        by_cases hi0 : i = 0
        · have c3 : ¬ (0 : Int) < (i : Int) := by omega
          have c4 : ((i : Int) = 0) = True := eq_true (by omega)
          have hlast : lastI ps i = (0, 0) := by unfold lastI; rw [if_pos hi0]
          have hl1 : (lastI ps i).1 = 0 := by rw [hlast]
          have hl2 : (lastI ps i).2 = 0 := by rw [hlast]
          have hxz : Ext H4 ((H4.push (.cells #[.int .i64 (ps.getD i (0, 0)).1, .int .i64 (ps.getD i (0, 0)).2] 24)).push (.cells #[.int .i64 0, .int .i64 0] 24)) := (Ext.push _).trans ((Ext.push _).mono (by simp))
          have k8 : ((H4.push (.cells #[.int .i64 (ps.getD i (0, 0)).1, .int .i64 (ps.getD i (0, 0)).2] 24)).push (.cells #[.int .i64 0, .int .i64 0] 24))[H4.size]? = some (.cells #[.int .i64 (ps.getD i (0, 0)).1, .int .i64 (ps.getD i (0, 0)).2] 24) := (push_old (by simp)).trans push_new
          have k9 : ((H4.push (.cells #[.int .i64 (ps.getD i (0, 0)).1, .int .i64 (ps.getD i (0, 0)).2] 24)).push (.cells #[.int .i64 0, .int .i64 0] 24))[H4.size + 1]? = some (.cells #[.int .i64 0, .int .i64 0] 24) := by
            rw [show H4.size + 1 = (H4.push (.cells #[.int .i64 (ps.getD i (0, 0)).1, .int .i64 (ps.getD i (0, 0)).2] 24)).size by simp]
            exact push_new
          have ws : IntKind.i64.wrap ((ps.getD i (0, 0)).1 - 0) = (ps.getD i (0, 0)).1 - 0 := w64_id (by omega) (by omega)
          have ws2 : IntKind.i64.wrap ((ps.getD i (0, 0)).2 - 0) = (ps.getD i (0, 0)).2 - 0 := w64_id (by omega) (by omega)
          have ws3 : IntKind.i64.wrap ((ps.getD i (0, 0)).2 - 0 - 1) = (ps.getD i (0, 0)).2 - 0 - 1 := w64_id (by omega) (by omega)
          have ho4z := ho4.ext hxz
          simp only [go_sem, ↓reduceIte, Nat.reduceEqDiff, Nat.reduceLeDiff, Nat.reduceAdd, Nat.reduceMul, Nat.reduceSub, Nat.reduceBEq, Nat.reduceGT, Nat.reduceLT, Int.reduceLE, Int.reduceLT, Int.reduceNeg, reduceCtorEq, c3, c4, f6]
          rw [ws]
          generalize (H4.push (.cells #[.int .i64 (ps.getD i (0, 0)).1, .int .i64 (ps.getD i (0, 0)).2] 24)).push (.cells #[.int .i64 0, .int .i64 0] 24) = Hz at *
          refine FunI.by (F49 _ _ ((ps.getD i (0, 0)).1 - 0) Hz (show Ints Hz 5 .u8 _ _ from ho4z.sl) (by simp only [List.length_append]; omega) (by omega)) ?_
          rintro w7 H5 ⟨ho5, hx5⟩
          have hxd := hx4.trans ((hxz.trans (hx5.mono hxz.size)).mono hx4.size)
          have k85 := (hx5.get _ (Array.getElem?_eq_some_iff.1 k8).1).trans k8
          have k95 := (hx5.get _ (Array.getElem?_eq_some_iff.1 k9).1).trans k9
          have q0 : hget H5 H4.size 0 = some (.int .i64 (ps.getD i (0, 0)).1) := by unfold hget; rw [k85]; rfl
          have q1 : hget H5 H4.size 1 = some (.int .i64 (ps.getD i (0, 0)).2) := by unfold hget; rw [k85]; rfl
          have q2 : hget H5 (H4.size + 1) 0 = some (.int .i64 0) := by unfold hget; rw [k95]; rfl
          have q3 : hget H5 (H4.size + 1) 1 = some (.int .i64 0) := by unfold hget; rw [k95]; rfl
          have szp : (H4.push (.cells #[.int .i64 (ps.getD i (0, 0)).1, .int .i64 (ps.getD i (0, 0)).2] 24)).size = H4.size + 1 := by simp
          have hvl1 := vput_le (x := (ps.getD i (0, 0)).1 - 0) (by omega)
          simp only [go_sem, ↓reduceIte, Nat.reduceEqDiff, Nat.reduceLeDiff, Nat.reduceAdd, Nat.reduceMul, Nat.reduceSub, Nat.reduceBEq, Nat.reduceGT, Nat.reduceLT, Int.reduceLE, Int.reduceLT, Int.reduceNeg, reduceCtorEq, c4, szp, q0, q1, q2, q3]
          refine FunI.by (F49 _ _ (ps.getD i (0, 0)).2 H5 (show Ints H5 5 .u8 _ _ from ho5.sl) (by simp only [List.length_append]; omega) (by omega)) ?_
          rintro w8 H6 ⟨ho6, hx6⟩
          have hxe := hxd.trans (hx6.mono hxd.size)
          simp only [go_sem, ↓reduceIte, Nat.reduceEqDiff, Nat.reduceLeDiff, Nat.reduceAdd, Nat.reduceMul, Nat.reduceSub, Nat.reduceBEq, Nat.reduceGT, Nat.reduceLT, Int.reduceLE, Int.reduceLT, Int.reduceNeg, reduceCtorEq, f0, f41, f42, f43, w64_id (n := (i : Int) + 1) (by omega) (by omega)]
          refine ⟨Hold.mk ⟨i + 1, w8, by simp only [go_sem, ↓reduceIte, Nat.reduceEqDiff, Nat.reduceLeDiff, Nat.reduceAdd, Nat.reduceMul, Nat.reduceSub, Nat.reduceBEq, Nat.reduceGT, Nat.reduceLT, Int.reduceLE, Int.reduceLT, Int.reduceNeg, reduceCtorEq, f0], by simp only [go_sem, ↓reduceIte, Nat.reduceEqDiff, Nat.reduceLeDiff, Nat.reduceAdd, Nat.reduceMul, Nat.reduceSub, Nat.reduceBEq, Nat.reduceGT, Nat.reduceLT, Int.reduceLE, Int.reduceLT, Int.reduceNeg, reduceCtorEq, f41], by simp only [go_sem, ↓reduceIte, Nat.reduceEqDiff, Nat.reduceLeDiff, Nat.reduceAdd, Nat.reduceMul, Nat.reduceSub, Nat.reduceBEq, Nat.reduceGT, Nat.reduceLT, Int.reduceLE, Int.reduceLT, Int.reduceNeg, reduceCtorEq, f42], by simp only [go_sem, ↓reduceIte, Nat.reduceEqDiff, Nat.reduceLeDiff, Nat.reduceAdd, Nat.reduceMul, Nat.reduceSub, Nat.reduceBEq, Nat.reduceGT, Nat.reduceLT, Int.reduceLE, Int.reduceLT, Int.reduceNeg, reduceCtorEq]; rfl, by simp only [go_sem, ↓reduceIte, Nat.reduceEqDiff, Nat.reduceLeDiff, Nat.reduceAdd, Nat.reduceMul, Nat.reduceSub, Nat.reduceBEq, Nat.reduceGT, Nat.reduceLT, Int.reduceLE, Int.reduceLT, Int.reduceNeg, reduceCtorEq], by omega, ?_, ?_, hxe⟩, by omega⟩
          · rw [bodyI_succ, stepB, hlast, if_pos (.inl (by simp [hi0])), ← List.append_assoc, ← List.append_assoc]
            exact ho6.mono hxd.size
          · rw [bodyI_succ, List.length_append]
            have := stepB_le (last := lastI ps i) (p := ps.getD i (0, 0)) (f := i == 0) (by omega) (by omega) (by omega)
            omega
        · have c3 : (0 : Int) < (i : Int) := by omega
          have c4 : ((i : Int) = 0) = False := eq_false (by omega)
          have hlast : lastI ps i = ps.getD (i - 1) (0, 0) := by unfold lastI; rw [if_neg hi0]
          have hkl := hok (i - 1) (by omega)
          rw [← hlast] at hkl
          have w1 : IntKind.i64.wrap ((i : Int) - 1) = ((i - 1 : Nat) : Int) := by rw [w64_id (by omega) (by omega)]; omega
          have z1 : (0 : Int) ≤ ((i - 1 : Nat) : Int) := by omega
          have z2 : ((i - 1 : Nat) : Int) < ps.length := by omega
          have hxq : Ext H4 ((H4.push (.cells #[.int .i64 (ps.getD i (0, 0)).1, .int .i64 (ps.getD i (0, 0)).2] 24)).push (.cells #[.int .i64 0, .int .i64 0] 24)) := (Ext.push _).trans ((Ext.push _).mono (by simp))
          obtain ⟨g3, g4⟩ := prs_get (prs_ext hv (hx4.trans (hxq.mono hx4.size))) (i := i - 1) (by omega)
          rw [← hlast] at g3 g4
          have hxz : Ext H4 ((H4.push (.cells #[.int .i64 (ps.getD i (0, 0)).1, .int .i64 (ps.getD i (0, 0)).2] 24)).push (.cells #[.int .i64 (lastI ps i).1, .int .i64 (lastI ps i).2] 24)) := (Ext.push _).trans ((Ext.push _).mono (by simp))
          have k8 : ((H4.push (.cells #[.int .i64 (ps.getD i (0, 0)).1, .int .i64 (ps.getD i (0, 0)).2] 24)).push (.cells #[.int .i64 (lastI ps i).1, .int .i64 (lastI ps i).2] 24))[H4.size]? = some (.cells #[.int .i64 (ps.getD i (0, 0)).1, .int .i64 (ps.getD i (0, 0)).2] 24) := (push_old (by simp)).trans push_new
          have k9 : ((H4.push (.cells #[.int .i64 (ps.getD i (0, 0)).1, .int .i64 (ps.getD i (0, 0)).2] 24)).push (.cells #[.int .i64 (lastI ps i).1, .int .i64 (lastI ps i).2] 24))[H4.size + 1]? = some (.cells #[.int .i64 (lastI ps i).1, .int .i64 (lastI ps i).2] 24) := by
            rw [show H4.size + 1 = (H4.push (.cells #[.int .i64 (ps.getD i (0, 0)).1, .int .i64 (ps.getD i (0, 0)).2] 24)).size by simp]
            exact push_new
          have ws : IntKind.i64.wrap ((ps.getD i (0, 0)).1 - (lastI ps i).1) = (ps.getD i (0, 0)).1 - (lastI ps i).1 := w64_id (by omega) (by omega)
          have ws2 : IntKind.i64.wrap ((ps.getD i (0, 0)).2 - (lastI ps i).2) = (ps.getD i (0, 0)).2 - (lastI ps i).2 := w64_id (by omega) (by omega)
          have ws3 : IntKind.i64.wrap ((ps.getD i (0, 0)).2 - (lastI ps i).2 - 1) = (ps.getD i (0, 0)).2 - (lastI ps i).2 - 1 := w64_id (by omega) (by omega)
          have ho4z := ho4.ext hxz
          simp only [go_sem, ↓reduceIte, Nat.reduceEqDiff, Nat.reduceLeDiff, Nat.reduceAdd, Nat.reduceMul, Nat.reduceSub, Nat.reduceBEq, Nat.reduceGT, Nat.reduceLT, Int.reduceLE, Int.reduceLT, Int.reduceNeg, reduceCtorEq, c3, c4, w1, z1, z2, g3, g4, Int.toNat_natCast, Option.bind_some, hput_push2, f0, f6]
          refine ⟨rfl, hcan_of push_new (by simp), ?_⟩
          rw [ws]
          generalize (H4.push (.cells #[.int .i64 (ps.getD i (0, 0)).1, .int .i64 (ps.getD i (0, 0)).2] 24)).push (.cells #[.int .i64 (lastI ps i).1, .int .i64 (lastI ps i).2] 24) = Hz at *
          refine FunI.by (F49 _ _ ((ps.getD i (0, 0)).1 - (lastI ps i).1) Hz (show Ints Hz 5 .u8 _ _ from ho4z.sl) (by simp only [List.length_append]; omega) (by omega)) ?_
          rintro w7 H5 ⟨ho5, hx5⟩
          have hxd := hx4.trans ((hxz.trans (hx5.mono hxz.size)).mono hx4.size)
          have k85 := (hx5.get _ (Array.getElem?_eq_some_iff.1 k8).1).trans k8
          have k95 := (hx5.get _ (Array.getElem?_eq_some_iff.1 k9).1).trans k9
          have q0 : hget H5 H4.size 0 = some (.int .i64 (ps.getD i (0, 0)).1) := by unfold hget; rw [k85]; rfl
          have q1 : hget H5 H4.size 1 = some (.int .i64 (ps.getD i (0, 0)).2) := by unfold hget; rw [k85]; rfl
          have q2 : hget H5 (H4.size + 1) 0 = some (.int .i64 (lastI ps i).1) := by unfold hget; rw [k95]; rfl
          have q3 : hget H5 (H4.size + 1) 1 = some (.int .i64 (lastI ps i).2) := by unfold hget; rw [k95]; rfl
          have szp : (H4.push (.cells #[.int .i64 (ps.getD i (0, 0)).1, .int .i64 (ps.getD i (0, 0)).2] 24)).size = H4.size + 1 := by simp
          have hvl1 := vput_le (x := (ps.getD i (0, 0)).1 - (lastI ps i).1) (by omega)
          by_cases hlt1 : (lastI ps i).1 < (ps.getD i (0, 0)).1
          · simp only [go_sem, ↓reduceIte, Nat.reduceEqDiff, Nat.reduceLeDiff, Nat.reduceAdd, Nat.reduceMul, Nat.reduceSub, Nat.reduceBEq, Nat.reduceGT, Nat.reduceLT, Int.reduceLE, Int.reduceLT, Int.reduceNeg, reduceCtorEq, c4, szp, q0, q1, q2, q3, hlt1]
            refine FunI.by (F49 _ _ (ps.getD i (0, 0)).2 H5 (show Ints H5 5 .u8 _ _ from ho5.sl) (by simp only [List.length_append]; omega) (by omega)) ?_
            rintro w8 H6 ⟨ho6, hx6⟩
            have hxe := hxd.trans (hx6.mono hxd.size)
            simp only [go_sem, ↓reduceIte, Nat.reduceEqDiff, Nat.reduceLeDiff, Nat.reduceAdd, Nat.reduceMul, Nat.reduceSub, Nat.reduceBEq, Nat.reduceGT, Nat.reduceLT, Int.reduceLE, Int.reduceLT, Int.reduceNeg, reduceCtorEq, f0, f41, f42, f43, w64_id (n := (i : Int) + 1) (by omega) (by omega)]
            refine ⟨Hold.mk ⟨i + 1, w8, by simp only [go_sem, ↓reduceIte, Nat.reduceEqDiff, Nat.reduceLeDiff, Nat.reduceAdd, Nat.reduceMul, Nat.reduceSub, Nat.reduceBEq, Nat.reduceGT, Nat.reduceLT, Int.reduceLE, Int.reduceLT, Int.reduceNeg, reduceCtorEq, f0], by simp only [go_sem, ↓reduceIte, Nat.reduceEqDiff, Nat.reduceLeDiff, Nat.reduceAdd, Nat.reduceMul, Nat.reduceSub, Nat.reduceBEq, Nat.reduceGT, Nat.reduceLT, Int.reduceLE, Int.reduceLT, Int.reduceNeg, reduceCtorEq, f41], by simp only [go_sem, ↓reduceIte, Nat.reduceEqDiff, Nat.reduceLeDiff, Nat.reduceAdd, Nat.reduceMul, Nat.reduceSub, Nat.reduceBEq, Nat.reduceGT, Nat.reduceLT, Int.reduceLE, Int.reduceLT, Int.reduceNeg, reduceCtorEq, f42], by simp only [go_sem, ↓reduceIte, Nat.reduceEqDiff, Nat.reduceLeDiff, Nat.reduceAdd, Nat.reduceMul, Nat.reduceSub, Nat.reduceBEq, Nat.reduceGT, Nat.reduceLT, Int.reduceLE, Int.reduceLT, Int.reduceNeg, reduceCtorEq]; rfl, by simp only [go_sem, ↓reduceIte, Nat.reduceEqDiff, Nat.reduceLeDiff, Nat.reduceAdd, Nat.reduceMul, Nat.reduceSub, Nat.reduceBEq, Nat.reduceGT, Nat.reduceLT, Int.reduceLE, Int.reduceLT, Int.reduceNeg, reduceCtorEq], by omega, ?_, ?_, hxe⟩, by omega⟩
            · rw [bodyI_succ, stepB, if_pos (.inr hlt1), ← List.append_assoc, ← List.append_assoc]
              exact ho6.mono hxd.size
            · rw [bodyI_succ, List.length_append]
              have := stepB_le (last := lastI ps i) (p := ps.getD i (0, 0)) (f := i == 0) (by omega) (by omega) (by omega)
              omega
          · simp only [go_sem, ↓reduceIte, Nat.reduceEqDiff, Nat.reduceLeDiff, Nat.reduceAdd, Nat.reduceMul, Nat.reduceSub, Nat.reduceBEq, Nat.reduceGT, Nat.reduceLT, Int.reduceLE, Int.reduceLT, Int.reduceNeg, reduceCtorEq, c4, szp, q0, q1, q2, q3, hlt1, ws2, ws3]
            refine FunI.by (F49 _ _ ((ps.getD i (0, 0)).2 - (lastI ps i).2 - 1) H5 (show Ints H5 5 .u8 _ _ from ho5.sl) (by simp only [List.length_append]; omega) (by omega)) ?_
            rintro w8 H6 ⟨ho6, hx6⟩
            have hxe := hxd.trans (hx6.mono hxd.size)
            simp only [go_sem, ↓reduceIte, Nat.reduceEqDiff, Nat.reduceLeDiff, Nat.reduceAdd, Nat.reduceMul, Nat.reduceSub, Nat.reduceBEq, Nat.reduceGT, Nat.reduceLT, Int.reduceLE, Int.reduceLT, Int.reduceNeg, reduceCtorEq, f0, f41, f42, f43, w64_id (n := (i : Int) + 1) (by omega) (by omega)]
            refine ⟨Hold.mk ⟨i + 1, w8, by simp only [go_sem, ↓reduceIte, Nat.reduceEqDiff, Nat.reduceLeDiff, Nat.reduceAdd, Nat.reduceMul, Nat.reduceSub, Nat.reduceBEq, Nat.reduceGT, Nat.reduceLT, Int.reduceLE, Int.reduceLT, Int.reduceNeg, reduceCtorEq, f0], by simp only [go_sem, ↓reduceIte, Nat.reduceEqDiff, Nat.reduceLeDiff, Nat.reduceAdd, Nat.reduceMul, Nat.reduceSub, Nat.reduceBEq, Nat.reduceGT, Nat.reduceLT, Int.reduceLE, Int.reduceLT, Int.reduceNeg, reduceCtorEq, f41], by simp only [go_sem, ↓reduceIte, Nat.reduceEqDiff, Nat.reduceLeDiff, Nat.reduceAdd, Nat.reduceMul, Nat.reduceSub, Nat.reduceBEq, Nat.reduceGT, Nat.reduceLT, Int.reduceLE, Int.reduceLT, Int.reduceNeg, reduceCtorEq, f42], by simp only [go_sem, ↓reduceIte, Nat.reduceEqDiff, Nat.reduceLeDiff, Nat.reduceAdd, Nat.reduceMul, Nat.reduceSub, Nat.reduceBEq, Nat.reduceGT, Nat.reduceLT, Int.reduceLE, Int.reduceLT, Int.reduceNeg, reduceCtorEq]; rfl, by simp only [go_sem, ↓reduceIte, Nat.reduceEqDiff, Nat.reduceLeDiff, Nat.reduceAdd, Nat.reduceMul, Nat.reduceSub, Nat.reduceBEq, Nat.reduceGT, Nat.reduceLT, Int.reduceLE, Int.reduceLT, Int.reduceNeg, reduceCtorEq], by omega, ?_, ?_, hxe⟩, by omega⟩
            · rw [bodyI_succ, stepB, if_neg (fun h => h.elim (fun h => hi0 (by simpa using h)) hlt1), ← List.append_assoc, ← List.append_assoc]
              exact ho6.mono hxd.size
            · rw [bodyI_succ, List.length_append]
              have := stepB_le (last := lastI ps i) (p := ps.getD i (0, 0)) (f := i == 0) (by omega) (by omega) (by omega)
              omega
      · have c2 : ¬ (i : Int) < ps.length := by omega
        have hin : i = ps.length := by omega
        subst hin
        simp only [go_sem, ↓reduceIte, Nat.reduceEqDiff, Nat.reduceLeDiff, Nat.reduceAdd, Nat.reduceMul, Nat.reduceSub, Nat.reduceBEq, Nat.reduceGT, Nat.reduceLT, Int.reduceLE, Int.reduceLT, Int.reduceNeg, reduceCtorEq, c20_L1, f0, f41, f42, f43, f6, c2]
        exact ⟨hx4, _, by rw [hr], by rw [hr]; exact ho4⟩

set_option maxHeartbeats 3200000 in
theorem F21 (v : Value) (ps : List Pr) (H : Heap) (hv : Prs H v ps) :
    Fun Try.prog 21 #[v] H (encA H ps) := by
  obtain ⟨a, c, rfl⟩ := prs_form hv
  refine fun_of mixed (args := [_]) Try.func21 Try.ntmps21 b21 r21 rfl ?_
  by_cases h0 : ps.length = 0
  · have c0 : (ps.length : Int) < 1 := by omega
    have hr : encR ps = (none, 110) := by unfold encR; rw [if_pos (.inl h0)]
    simp only [go_sem, ↓reduceIte, Nat.reduceEqDiff, Nat.reduceLeDiff, Nat.reduceAdd, Nat.reduceMul, Nat.reduceSub, Nat.reduceBEq, Nat.reduceGT, Nat.reduceLT, Int.reduceLE, Int.reduceLT, Int.reduceNeg, reduceCtorEq, c0]
    exact ⟨Upto.refl _ _, _, by rw [hr], by rw [hr]; exact Own.nil⟩
  by_cases h1 : 100 < ps.length
  · have c0 : ¬ (ps.length : Int) < 1 := by omega
    have c1 : (100 : Int) < ps.length := by omega
    have hr : encR ps = (none, 110) := by unfold encR; rw [if_pos (.inr h1)]
    simp only [go_sem, ↓reduceIte, Nat.reduceEqDiff, Nat.reduceLeDiff, Nat.reduceAdd, Nat.reduceMul, Nat.reduceSub, Nat.reduceBEq, Nat.reduceGT, Nat.reduceLT, Int.reduceLE, Int.reduceLT, Int.reduceNeg, reduceCtorEq, c0, c1]
    exact ⟨Upto.refl _ _, _, by rw [hr], by rw [hr]; exact Own.nil⟩
  have c0 : ¬ (ps.length : Int) < 1 := by omega
  have c1 : ¬ (100 : Int) < ps.length := by omega
  obtain ⟨b, o, rfl⟩ := prs_at hv (by omega)
  simp only [go_sem, ↓reduceIte, Nat.reduceEqDiff, Nat.reduceLeDiff, Nat.reduceAdd, Nat.reduceMul, Nat.reduceSub, Nat.reduceBEq, Nat.reduceGT, Nat.reduceLT, Int.reduceLE, Int.reduceLT, Int.reduceNeg, reduceCtorEq, c0, c1]
  refine LoopI.by mixed (fun ρ H' => H = H' ∧ ∃ i : Nat, ρ 0 = .slice (some ⟨b, o, none⟩) ps.length c ∧ ρ 4 = .int .i64 i ∧ i ≤ ps.length ∧ (∀ j, j < i → okP (ps.getD j (0, 0)) = true)) (fun ρ _ => ps.length - (iof (ρ 4)).toNat) ?_ ?_
  · exact ⟨rfl, 0, by simp only [go_sem, ↓reduceIte, Nat.reduceEqDiff, Nat.reduceLeDiff, Nat.reduceAdd, Nat.reduceMul, Nat.reduceSub, Nat.reduceBEq, Nat.reduceGT, Nat.reduceLT, Int.reduceLE, Int.reduceLT, Int.reduceNeg, reduceCtorEq], by simp only [go_sem, ↓reduceIte, Nat.reduceEqDiff, Nat.reduceLeDiff, Nat.reduceAdd, Nat.reduceMul, Nat.reduceSub, Nat.reduceBEq, Nat.reduceGT, Nat.reduceLT, Int.reduceLE, Int.reduceLT, Int.reduceNeg, reduceCtorEq]; rfl, by omega, by omega⟩
  rintro ρ _ ⟨rfl, i, e0, e4, hi, hj⟩
  by_cases hlt : i < ps.length
  · have c2 : (i : Int) < ps.length := by omega
    have z0 : (0 : Int) ≤ i := by omega
    obtain ⟨g1, g2⟩ := prs_get hv hlt
    have bad : okP (ps.getD i (0, 0)) = false → encR ps = (none, 42) := by
      intro h
      unfold encR
      rw [if_neg (by omega), if_pos]
      rw [List.all_eq_false]
      exact ⟨_, mem_getD hlt (0, 0), by rw [h]; simp⟩
    simp only [go_sem, ↓reduceIte, Nat.reduceEqDiff, Nat.reduceLeDiff, Nat.reduceAdd, Nat.reduceMul, Nat.reduceSub, Nat.reduceBEq, Nat.reduceGT, Nat.reduceLT, Int.reduceLE, Int.reduceLT, Int.reduceNeg, reduceCtorEq, c21_L0, e0, e4, c2, z0, g1, g2, Int.toNat_natCast, Option.bind_some]
    refine FunI.by (F50 _ _) ?_
    rintro _ _ ⟨rfl, rfl⟩
    simp only [go_sem, ↓reduceIte, Nat.reduceEqDiff, Nat.reduceLeDiff, Nat.reduceAdd, Nat.reduceMul, Nat.reduceSub, Nat.reduceBEq, Nat.reduceGT, Nat.reduceLT, Int.reduceLE, Int.reduceLT, Int.reduceNeg, reduceCtorEq, e0, e4, c2, z0, g1, g2, Int.toNat_natCast]
    refine FunI.by (F50 _ _) ?_
    rintro _ _ ⟨rfl, rfl⟩
    cases hv1 : okV (ps.getD i (0, 0)).1 with
    | false =>
      have hr := bad (by rw [okP, hv1]; rfl)
      simp only [go_sem, ↓reduceIte, Nat.reduceEqDiff, Nat.reduceLeDiff, Nat.reduceAdd, Nat.reduceMul, Nat.reduceSub, Nat.reduceBEq, Nat.reduceGT, Nat.reduceLT, Int.reduceLE, Int.reduceLT, Int.reduceNeg, reduceCtorEq]
      exact ⟨Upto.refl _ _, _, by rw [hr], by rw [hr]; exact Own.nil⟩
    | true =>
      cases hv2 : okV (ps.getD i (0, 0)).2 with
      | false =>
        have hr := bad (by rw [okP, hv1, hv2]; rfl)
        simp only [go_sem, ↓reduceIte, Nat.reduceEqDiff, Nat.reduceLeDiff, Nat.reduceAdd, Nat.reduceMul, Nat.reduceSub, Nat.reduceBEq, Nat.reduceGT, Nat.reduceLT, Int.reduceLE, Int.reduceLT, Int.reduceNeg, reduceCtorEq]
        exact ⟨Upto.refl _ _, _, by rw [hr], by rw [hr]; exact Own.nil⟩
      | true =>
        simp only [go_sem, ↓reduceIte, Nat.reduceEqDiff, Nat.reduceLeDiff, Nat.reduceAdd, Nat.reduceMul, Nat.reduceSub, Nat.reduceBEq, Nat.reduceGT, Nat.reduceLT, Int.reduceLE, Int.reduceLT, Int.reduceNeg, reduceCtorEq, e0, e4, w64_id (n := (i : Int) + 1) (by omega) (by omega)]
        refine ⟨Hold.mk ⟨rfl, i + 1, by simp only [go_sem, ↓reduceIte, Nat.reduceEqDiff, Nat.reduceLeDiff, Nat.reduceAdd, Nat.reduceMul, Nat.reduceSub, Nat.reduceBEq, Nat.reduceGT, Nat.reduceLT, Int.reduceLE, Int.reduceLT, Int.reduceNeg, reduceCtorEq, e0], by simp only [go_sem, ↓reduceIte, Nat.reduceEqDiff, Nat.reduceLeDiff, Nat.reduceAdd, Nat.reduceMul, Nat.reduceSub, Nat.reduceBEq, Nat.reduceGT, Nat.reduceLT, Int.reduceLE, Int.reduceLT, Int.reduceNeg, reduceCtorEq]; rfl, by omega, fun j hj1 => ?_⟩, by omega⟩
        by_cases hji : j = i
        · subst hji; rw [okP, hv1, hv2]; rfl
        · exact hj j (by omega)
  · have c2 : ¬ (i : Int) < ps.length := by omega
    simp only [go_sem, ↓reduceIte, Nat.reduceEqDiff, Nat.reduceLeDiff, Nat.reduceAdd, Nat.reduceMul, Nat.reduceSub, Nat.reduceBEq, Nat.reduceGT, Nat.reduceLT, Int.reduceLE, Int.reduceLT, Int.reduceNeg, reduceCtorEq, c21_L0, e0, e4, c2]
    have hall : ps.all okP = true := by
      rw [List.all_eq_true]
      intro p hp
      obtain ⟨j, hj1, hj2⟩ := List.getElem_of_mem hp
      have := hj j (by omega)
      rw [List.getD_eq_getElem?_getD, List.getElem?_eq_getElem hj1, hj2] at this
      exact this
    have hok : ∀ j, j < ps.length → 0 ≤ (ps.getD j (0, 0)).1 ∧ (ps.getD j (0, 0)).1 < 16777216 ∧ 0 ≤ (ps.getD j (0, 0)).2 ∧ (ps.getD j (0, 0)).2 < 16777216 := by
      intro j hj1
      have := hj j (by omega)
      simp only [okP, okV, Bool.and_eq_true, decide_eq_true_eq] at this
      omega
    refine FunI.by (F51 _ ps H hv (by omega)) ?_
    rintro _ H2 ⟨rfl, hx2⟩
    have hxb := hx2
    cases hri : riseP ps with
    | false =>
      have hr : encR ps = (none, 111) := by unfold encR; rw [if_neg (by omega), if_neg (by rw [hall]; simp), if_pos hri]
      simp only [go_sem, ↓reduceIte, Nat.reduceEqDiff, Nat.reduceLeDiff, Nat.reduceAdd, Nat.reduceMul, Nat.reduceSub, Nat.reduceBEq, Nat.reduceGT, Nat.reduceLT, Int.reduceLE, Int.reduceLT, Int.reduceNeg, reduceCtorEq]
      exact ⟨hxb, _, by rw [hr], by rw [hr]; exact Own.nil⟩
    | true =>
      have hr : encR ps = (some (vput ps.length ++ bodyI ps ps.length), 0) := by unfold encR; rw [if_neg (by omega), if_neg (by rw [hall]; simp), if_neg (by rw [hri]; simp)]
      simp only [go_sem, ↓reduceIte, Nat.reduceEqDiff, Nat.reduceLeDiff, Nat.reduceAdd, Nat.reduceMul, Nat.reduceSub, Nat.reduceBEq, Nat.reduceGT, Nat.reduceLT, Int.reduceLE, Int.reduceLT, Int.reduceNeg, reduceCtorEq, e0]
      refine FunI.by (F52 _ [] ps.length H2 Ints.nil (by simp) (by omega)) ?_
      rintro v8 H3 ⟨ho3, hx3⟩
      have hxc := hxb.trans (hx3.mono hxb.size)
      rw [List.nil_append] at ho3
      simp only [go_sem, ↓reduceIte, Nat.reduceEqDiff, Nat.reduceLeDiff, Nat.reduceAdd, Nat.reduceMul, Nat.reduceSub, Nat.reduceBEq, Nat.reduceGT, Nat.reduceLT, Int.reduceLE, Int.reduceLT, Int.reduceNeg, reduceCtorEq, e0]
      refine ⟨rfl, hcan_of push_new (by simp), ?_⟩
      rw [hput_push2]
      refine LoopI.by mixed (fun ρ H' => ∃ (i : Nat) (v8 : Value), ρ 0 = .slice (some ⟨b, o, none⟩) ps.length c ∧ ρ 9 = .pointer (some ⟨H3.size, 0, none⟩) ∧ ρ 10 = .int .i64 i ∧ ρ 8 = v8 ∧ i ≤ ps.length ∧
        H'[H3.size]? = some (.cells #[.int .i64 (lastI ps i).1, .int .i64 (lastI ps i).2] 24) ∧ Own H' H.size 5 1 v8 ((vput ps.length ++ bodyI ps i).map (.int .u8)) ∧ (bodyI ps i).length ≤ 18 * i ∧ Ext H H') (fun ρ _ => ps.length - (iof (ρ 10)).toNat) ?_ ?_
      · exact ⟨0, v8, by simp only [go_sem, ↓reduceIte, Nat.reduceEqDiff, Nat.reduceLeDiff, Nat.reduceAdd, Nat.reduceMul, Nat.reduceSub, Nat.reduceBEq, Nat.reduceGT, Nat.reduceLT, Int.reduceLE, Int.reduceLT, Int.reduceNeg, reduceCtorEq, e0], by simp only [go_sem, ↓reduceIte, Nat.reduceEqDiff, Nat.reduceLeDiff, Nat.reduceAdd, Nat.reduceMul, Nat.reduceSub, Nat.reduceBEq, Nat.reduceGT, Nat.reduceLT, Int.reduceLE, Int.reduceLT, Int.reduceNeg, reduceCtorEq], by simp only [go_sem, ↓reduceIte, Nat.reduceEqDiff, Nat.reduceLeDiff, Nat.reduceAdd, Nat.reduceMul, Nat.reduceSub, Nat.reduceBEq, Nat.reduceGT, Nat.reduceLT, Int.reduceLE, Int.reduceLT, Int.reduceNeg, reduceCtorEq]; rfl, by simp only [go_sem, ↓reduceIte, Nat.reduceEqDiff, Nat.reduceLeDiff, Nat.reduceAdd, Nat.reduceMul, Nat.reduceSub, Nat.reduceBEq, Nat.reduceGT, Nat.reduceLT, Int.reduceLE, Int.reduceLT, Int.reduceNeg, reduceCtorEq], by omega, push_new, by simpa [bodyI] using (ho3.mono hxb.size).push _, by simp [bodyI], hxc.trans ((Ext.push _).mono hxc.size)⟩
      rintro σ H4 ⟨i, w8, f0, f9, f10, f8, hi, k9, ho4, hbl, hx4⟩
      have hs3 : H.size ≤ H3.size := hxc.size
      by_cases hlt : i < ps.length
      · have c2 : (i : Int) < ps.length := by omega
        have z0 : (0 : Int) ≤ i := by omega
        obtain ⟨g1, g2⟩ := prs_get (prs_ext hv hx4) hlt
        have hk := hok i hlt
        have hvl := vput_le (x := ps.length) (by omega)
        have hkl : 0 ≤ (lastI ps i).1 ∧ (lastI ps i).1 < 16777216 ∧ 0 ≤ (lastI ps i).2 ∧ (lastI ps i).2 < 16777216 := by
          unfold lastI
          split
          · exact ⟨by decide, by decide, by decide, by decide⟩
          · exact hok (i - 1) (by omega)
        have hvl1 := vput_le (x := (ps.getD i (0, 0)).1 - (lastI ps i).1) (by omega)
        have ws : IntKind.i64.wrap ((ps.getD i (0, 0)).1 - (lastI ps i).1) = (ps.getD i (0, 0)).1 - (lastI ps i).1 := w64_id (by omega) (by omega)
        have ws2 : IntKind.i64.wrap ((ps.getD i (0, 0)).2 - (lastI ps i).2) = (ps.getD i (0, 0)).2 - (lastI ps i).2 := w64_id (by omega) (by omega)
        have ws3 : IntKind.i64.wrap ((ps.getD i (0, 0)).2 - (lastI ps i).2 - 1) = (ps.getD i (0, 0)).2 - (lastI ps i).2 - 1 := w64_id (by omega) (by omega)
        have q2 : hget H4 H3.size 0 = some (.int .i64 (lastI ps i).1) := by unfold hget; rw [k9]; rfl
        simp only [go_sem, ↓reduceIte, Nat.reduceEqDiff, Nat.reduceLeDiff, Nat.reduceAdd, Nat.reduceMul, Nat.reduceSub, Nat.reduceBEq, Nat.reduceGT, Nat.reduceLT, Int.reduceLE, Int.reduceLT, Int.reduceNeg, reduceCtorEq, c21_L1, f0, f8, f9, f10, c2, z0, g1, g2, q2, ws, Int.toNat_natCast, Option.bind_some]
        refine FunI.by (F52 _ _ ((ps.getD i (0, 0)).1 - (lastI ps i).1) H4 (show Ints H4 5 .u8 _ _ from ho4.sl) (by simp only [List.length_append]; omega) (by omega)) ?_
        rintro w7 H5 ⟨ho5, hx5⟩
        have hxd := hx4.trans (hx5.mono hx4.size)
        have k95 := (hx5.get _ (Array.getElem?_eq_some_iff.1 k9).1).trans k9
        have q4 : hget H5 H3.size 0 = some (.int .i64 (lastI ps i).1) := by unfold hget; rw [k95]; rfl
        have q3 : hget H5 H3.size 1 = some (.int .i64 (lastI ps i).2) := by unfold hget; rw [k95]; rfl
        obtain ⟨g3, g4⟩ := prs_get (prs_ext hv hxd) hlt
        have hlast1 : lastI ps (i + 1) = ps.getD i (0, 0) := by unfold lastI; rw [if_neg (by omega)]; rfl
        by_cases hi0 : i = 0
        · have c4 : ((i : Int) = 0) = True := eq_true (by omega)
          simp only [go_sem, ↓reduceIte, Nat.reduceEqDiff, Nat.reduceLeDiff, Nat.reduceAdd, Nat.reduceMul, Nat.reduceSub, Nat.reduceBEq, Nat.reduceGT, Nat.reduceLT, Int.reduceLE, Int.reduceLT, Int.reduceNeg, reduceCtorEq, f0, f9, f10, c2, z0, c4, g3, g4, q3, q4, Int.toNat_natCast]
          refine FunI.by (F52 _ _ (ps.getD i (0, 0)).2 H5 (show Ints H5 5 .u8 _ _ from ho5.sl) (by simp only [List.length_append]; omega) (by omega)) ?_
          rintro w8 H6 ⟨ho6, hx6⟩
          have hxe := hxd.trans (hx6.mono hxd.size)
          obtain ⟨g5, g6⟩ := prs_get (prs_ext hv hxe) hlt
          have k96 := (hx6.get _ (Array.getElem?_eq_some_iff.1 k95).1).trans k95
          simp only [go_sem, ↓reduceIte, Nat.reduceEqDiff, Nat.reduceLeDiff, Nat.reduceAdd, Nat.reduceMul, Nat.reduceSub, Nat.reduceBEq, Nat.reduceGT, Nat.reduceLT, Int.reduceLE, Int.reduceLT, Int.reduceNeg, reduceCtorEq, f0, f9, f10, c2, z0, g5, g6, Int.toNat_natCast, Option.bind_some, w64_id (n := (i : Int) + 1) (by omega) (by omega)]
          refine ⟨rfl, hcan_of k96 (by simp), Hold.mk ⟨i + 1, w8, by simp only [go_sem, ↓reduceIte, Nat.reduceEqDiff, Nat.reduceLeDiff, Nat.reduceAdd, Nat.reduceMul, Nat.reduceSub, Nat.reduceBEq, Nat.reduceGT, Nat.reduceLT, Int.reduceLE, Int.reduceLT, Int.reduceNeg, reduceCtorEq, f0], by simp only [go_sem, ↓reduceIte, Nat.reduceEqDiff, Nat.reduceLeDiff, Nat.reduceAdd, Nat.reduceMul, Nat.reduceSub, Nat.reduceBEq, Nat.reduceGT, Nat.reduceLT, Int.reduceLE, Int.reduceLT, Int.reduceNeg, reduceCtorEq, f9], by simp only [go_sem, ↓reduceIte, Nat.reduceEqDiff, Nat.reduceLeDiff, Nat.reduceAdd, Nat.reduceMul, Nat.reduceSub, Nat.reduceBEq, Nat.reduceGT, Nat.reduceLT, Int.reduceLE, Int.reduceLT, Int.reduceNeg, reduceCtorEq]; rfl, by simp only [go_sem, ↓reduceIte, Nat.reduceEqDiff, Nat.reduceLeDiff, Nat.reduceAdd, Nat.reduceMul, Nat.reduceSub, Nat.reduceBEq, Nat.reduceGT, Nat.reduceLT, Int.reduceLE, Int.reduceLT, Int.reduceNeg, reduceCtorEq], by omega, ?_, ?_, ?_, hxe.hput hs3⟩, by omega⟩
          · rw [hput_same k96, hlast1]
            rfl
          · rw [bodyI_succ, stepB, if_pos (.inl (by simp [hi0])), ← List.append_assoc, ← List.append_assoc]
            exact (ho6.mono hxd.size).keepT fun b c fr hb => hput_other _ _ _ _ (by
              rintro rfl
              rw [k96] at hb
              cases hb)
          · rw [bodyI_succ, List.length_append]
            have := stepB_le (last := lastI ps i) (p := ps.getD i (0, 0)) (f := i == 0) (by omega) (by omega) (by omega)
            omega
        · have c4 : ((i : Int) = 0) = False := eq_false (by omega)
          by_cases hlt1 : (lastI ps i).1 < (ps.getD i (0, 0)).1
          · simp only [go_sem, ↓reduceIte, Nat.reduceEqDiff, Nat.reduceLeDiff, Nat.reduceAdd, Nat.reduceMul, Nat.reduceSub, Nat.reduceBEq, Nat.reduceGT, Nat.reduceLT, Int.reduceLE, Int.reduceLT, Int.reduceNeg, reduceCtorEq, f0, f9, f10, c2, z0, c4, g3, g4, q3, q4, hlt1, Int.toNat_natCast]
            refine FunI.by (F52 _ _ (ps.getD i (0, 0)).2 H5 (show Ints H5 5 .u8 _ _ from ho5.sl) (by simp only [List.length_append]; omega) (by omega)) ?_
            rintro w8 H6 ⟨ho6, hx6⟩
            have hxe := hxd.trans (hx6.mono hxd.size)
            obtain ⟨g5, g6⟩ := prs_get (prs_ext hv hxe) hlt
            have k96 := (hx6.get _ (Array.getElem?_eq_some_iff.1 k95).1).trans k95
            simp only [go_sem, ↓reduceIte, Nat.reduceEqDiff, Nat.reduceLeDiff, Nat.reduceAdd, Nat.reduceMul, Nat.reduceSub, Nat.reduceBEq, Nat.reduceGT, Nat.reduceLT, Int.reduceLE, Int.reduceLT, Int.reduceNeg, reduceCtorEq, f0, f9, f10, c2, z0, g5, g6, Int.toNat_natCast, Option.bind_some, w64_id (n := (i : Int) + 1) (by omega) (by omega)]
            refine ⟨rfl, hcan_of k96 (by simp), Hold.mk ⟨i + 1, w8, by simp only [go_sem, ↓reduceIte, Nat.reduceEqDiff, Nat.reduceLeDiff, Nat.reduceAdd, Nat.reduceMul, Nat.reduceSub, Nat.reduceBEq, Nat.reduceGT, Nat.reduceLT, Int.reduceLE, Int.reduceLT, Int.reduceNeg, reduceCtorEq, f0], by simp only [go_sem, ↓reduceIte, Nat.reduceEqDiff, Nat.reduceLeDiff, Nat.reduceAdd, Nat.reduceMul, Nat.reduceSub, Nat.reduceBEq, Nat.reduceGT, Nat.reduceLT, Int.reduceLE, Int.reduceLT, Int.reduceNeg, reduceCtorEq, f9], by simp only [go_sem, ↓reduceIte, Nat.reduceEqDiff, Nat.reduceLeDiff, Nat.reduceAdd, Nat.reduceMul, Nat.reduceSub, Nat.reduceBEq, Nat.reduceGT, Nat.reduceLT, Int.reduceLE, Int.reduceLT, Int.reduceNeg, reduceCtorEq]; rfl, by simp only [go_sem, ↓reduceIte, Nat.reduceEqDiff, Nat.reduceLeDiff, Nat.reduceAdd, Nat.reduceMul, Nat.reduceSub, Nat.reduceBEq, Nat.reduceGT, Nat.reduceLT, Int.reduceLE, Int.reduceLT, Int.reduceNeg, reduceCtorEq], by omega, ?_, ?_, ?_, hxe.hput hs3⟩, by omega⟩
            · rw [hput_same k96, hlast1]
              rfl
            · rw [bodyI_succ, stepB, if_pos (.inr hlt1), ← List.append_assoc, ← List.append_assoc]
              exact (ho6.mono hxd.size).keepT fun b c fr hb => hput_other _ _ _ _ (by
                rintro rfl
                rw [k96] at hb
                cases hb)
            · rw [bodyI_succ, List.length_append]
              have := stepB_le (last := lastI ps i) (p := ps.getD i (0, 0)) (f := i == 0) (by omega) (by omega) (by omega)
              omega
          · simp only [go_sem, ↓reduceIte, Nat.reduceEqDiff, Nat.reduceLeDiff, Nat.reduceAdd, Nat.reduceMul, Nat.reduceSub, Nat.reduceBEq, Nat.reduceGT, Nat.reduceLT, Int.reduceLE, Int.reduceLT, Int.reduceNeg, reduceCtorEq, f0, f9, f10, c2, z0, c4, g3, g4, q3, q4, hlt1, ws2, ws3, Int.toNat_natCast]
            refine FunI.by (F52 _ _ ((ps.getD i (0, 0)).2 - (lastI ps i).2 - 1) H5 (show Ints H5 5 .u8 _ _ from ho5.sl) (by simp only [List.length_append]; omega) (by omega)) ?_
            rintro w8 H6 ⟨ho6, hx6⟩
            have hxe := hxd.trans (hx6.mono hxd.size)
            obtain ⟨g5, g6⟩ := prs_get (prs_ext hv hxe) hlt
            have k96 := (hx6.get _ (Array.getElem?_eq_some_iff.1 k95).1).trans k95
            simp only [go_sem, ↓reduceIte, Nat.reduceEqDiff, Nat.reduceLeDiff, Nat.reduceAdd, Nat.reduceMul, Nat.reduceSub, Nat.reduceBEq, Nat.reduceGT, Nat.reduceLT, Int.reduceLE, Int.reduceLT, Int.reduceNeg, reduceCtorEq, f0, f9, f10, c2, z0, g5, g6, Int.toNat_natCast, Option.bind_some, w64_id (n := (i : Int) + 1) (by omega) (by omega)]
            refine ⟨rfl, hcan_of k96 (by simp), Hold.mk ⟨i + 1, w8, by simp only [go_sem, ↓reduceIte, Nat.reduceEqDiff, Nat.reduceLeDiff, Nat.reduceAdd, Nat.reduceMul, Nat.reduceSub, Nat.reduceBEq, Nat.reduceGT, Nat.reduceLT, Int.reduceLE, Int.reduceLT, Int.reduceNeg, reduceCtorEq, f0], by simp only [go_sem, ↓reduceIte, Nat.reduceEqDiff, Nat.reduceLeDiff, Nat.reduceAdd, Nat.reduceMul, Nat.reduceSub, Nat.reduceBEq, Nat.reduceGT, Nat.reduceLT, Int.reduceLE, Int.reduceLT, Int.reduceNeg, reduceCtorEq, f9], by simp only [go_sem, ↓reduceIte, Nat.reduceEqDiff, Nat.reduceLeDiff, Nat.reduceAdd, Nat.reduceMul, Nat.reduceSub, Nat.reduceBEq, Nat.reduceGT, Nat.reduceLT, Int.reduceLE, Int.reduceLT, Int.reduceNeg, reduceCtorEq]; rfl, by simp only [go_sem, ↓reduceIte, Nat.reduceEqDiff, Nat.reduceLeDiff, Nat.reduceAdd, Nat.reduceMul, Nat.reduceSub, Nat.reduceBEq, Nat.reduceGT, Nat.reduceLT, Int.reduceLE, Int.reduceLT, Int.reduceNeg, reduceCtorEq], by omega, ?_, ?_, ?_, hxe.hput hs3⟩, by omega⟩
            · rw [hput_same k96, hlast1]
              rfl
            · rw [bodyI_succ, stepB, if_neg (fun h => h.elim (fun h => hi0 (by simpa using h)) hlt1), ← List.append_assoc, ← List.append_assoc]
              exact (ho6.mono hxd.size).keepT fun b c fr hb => hput_other _ _ _ _ (by
                rintro rfl
                rw [k96] at hb
                cases hb)
            · rw [bodyI_succ, List.length_append]
              have := stepB_le (last := lastI ps i) (p := ps.getD i (0, 0)) (f := i == 0) (by omega) (by omega) (by omega)
              omega
      · have c2 : ¬ (i : Int) < ps.length := by omega
        have hin : i = ps.length := by omega
        subst hin
        simp only [go_sem, ↓reduceIte, Nat.reduceEqDiff, Nat.reduceLeDiff, Nat.reduceAdd, Nat.reduceMul, Nat.reduceSub, Nat.reduceBEq, Nat.reduceGT, Nat.reduceLT, Int.reduceLE, Int.reduceLT, Int.reduceNeg, reduceCtorEq, c21_L1, f0, f8, f9, f10, c2]
        exact ⟨hx4, _, by rw [hr], by rw [hr]; exact ho4⟩
end Go.Proofs.Ytcgejfmbhpmjfaa
