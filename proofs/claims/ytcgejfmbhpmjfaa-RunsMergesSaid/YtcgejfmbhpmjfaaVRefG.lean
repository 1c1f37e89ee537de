/- The reference merger: Give. -/
import Derived.Test.YtcgejfmbhpmjfaaVRefM
set_option linter.unusedSimpArgs false
set_option linter.unusedVariables false
set_option maxRecDepth 20000
namespace Go.Proofs.Ytcgejfmbhpmjfaa
open Go Go.V
-- 55: (*pith/pithref11.Merger).Give
-- 51: pith/pithref11.Rises
-- 13: pith/pithref11.Less
-- 18: pith/pithref.Pairs
-- 3: int
-- 24: pith/api.Pair
-- 22: []api.Pair
-- 91: pithref11.Merger
-- 110: pithref11.Source
set_option maxHeartbeats 1600000 in
theorem F55 {H : Heap} {F : Nat → Prop} {M S : Nat} {lvs : List Value} {ss : List Src} (h : RefH H F M S lvs ss) (i : Int) {v : Value} {l : List Pr} (hv' : Prs H v l) (hf : l ≠ [] → ∀ b, blk v = some b → ¬ F b) (last : Bool)
    (hb : ∀ j, j < ss.length → (sg ss j).l.length + l.length ≤ 4096093020000) :
    Fun Try.prog 55 #[.pointer (some ⟨M, 0, none⟩), .int .i64 i, v, .bool last] H (fun r H' => r = .int .i64 (giveS ss i l last).2 ∧ ∃ F' lvs', RefH H' F' M S lvs' (giveS ss i l last).1 ∧ Ch F F' H H') := by
  obtain ⟨a, c, rfl⟩ := prs_form hv'
  refine fun_of mixed (args := [_, _, _, _]) Try.func55 Try.ntmps55 b55 r55 rfl ?_
  have m0 := h.getM
  have hk := h.k64
  by_cases c1 : i < 0
  · have e : giveS ss i l last = (ss, 112) := by unfold giveS; rw [if_pos (.inl c1)]
    rw [e]
    simp only [go_sem, ↓reduceIte, Nat.reduceEqDiff, Nat.reduceLeDiff, Nat.reduceAdd, Nat.reduceMul, Nat.reduceSub, Nat.reduceBEq, Nat.reduceGT, Nat.reduceLT, Int.reduceLE, Int.reduceLT, Int.reduceNeg, reduceCtorEq, c1]
    exact ⟨F, lvs, h, Ch.refl _ _⟩
  by_cases c2 : (ss.length : Int) ≤ i
  · have e : giveS ss i l last = (ss, 112) := by unfold giveS; rw [if_pos (.inr (.inl c2))]
    rw [e]
    simp only [go_sem, ↓reduceIte, Nat.reduceEqDiff, Nat.reduceLeDiff, Nat.reduceAdd, Nat.reduceMul, Nat.reduceSub, Nat.reduceBEq, Nat.reduceGT, Nat.reduceLT, Int.reduceLE, Int.reduceLT, Int.reduceNeg, reduceCtorEq, c1, c2, m0]
    exact ⟨F, lvs, h, Ch.refl _ _⟩
  obtain ⟨i, rfl⟩ : ∃ n : Nat, i = n := ⟨i.toNat, by omega⟩
  have hi : i < ss.length := by omega
  have c3 : (i : Int) < ss.length := by omega
  have z0 : (0 : Int) ≤ i := by omega
  obtain ⟨_, k1, k2, k3, g4⟩ := h.getS hi
  cases hen : (sg ss i).ended with
  | true =>
    have e : giveS ss i l last = (ss, 112) := by unfold giveS; rw [if_pos (.inr (.inr (by rw [Int.toNat_natCast]; exact hen)))]
    rw [e]
    rw [hen] at g4
    simp only [go_sem, ↓reduceIte, Nat.reduceEqDiff, Nat.reduceLeDiff, Nat.reduceAdd, Nat.reduceMul, Nat.reduceSub, Nat.reduceBEq, Nat.reduceGT, Nat.reduceLT, Int.reduceLE, Int.reduceLT, Int.reduceNeg, reduceCtorEq, c1, c2, c3, z0, m0, g4, Int.toNat_natCast]
    exact ⟨F, lvs, h, Ch.refl _ _⟩
  | false =>
    rw [hen] at g4
    have hgs : giveS ss i l last = if fits (sg ss i) l = false then (ss, 111) else (ss.set i (gave (sg ss i) l last), 0) := by
      unfold giveS
      rw [Int.toNat_natCast, if_neg]
      rintro (h | h | h)
      · exact c1 h
      · exact c2 h
      · rw [hen] at h; cases h
    simp only [go_sem, ↓reduceIte, Nat.reduceEqDiff, Nat.reduceLeDiff, Nat.reduceAdd, Nat.reduceMul, Nat.reduceSub, Nat.reduceBEq, Nat.reduceGT, Nat.reduceLT, Int.reduceLE, Int.reduceLT, Int.reduceNeg, reduceCtorEq, c1, c2, c3, z0, m0, g4, Int.toNat_natCast]
    refine FunI.by (F51 _ l H hv' (by have := hb i hi; omega)) ?_
    rintro _ H1 ⟨rfl, x1⟩
    have mer := h.ext x1
    have m0' := mer.getM
    obtain ⟨_, k1', k2', k3', _⟩ := mer.getS hi
    cases hr : riseP l with
    | false =>
      have e : fits (sg ss i) l = false := by unfold fits; rw [hr]; rfl
      rw [hgs, if_pos e]
      simp only [go_sem, ↓reduceIte, Nat.reduceEqDiff, Nat.reduceLeDiff, Nat.reduceAdd, Nat.reduceMul, Nat.reduceSub, Nat.reduceBEq, Nat.reduceGT, Nat.reduceLT, Int.reduceLE, Int.reduceLT, Int.reduceNeg, reduceCtorEq]
      exact ⟨F, lvs, mer, x1.ch⟩
    | true =>
      have hfit : fits (sg ss i) l = (decide (l.length = 0) || !(sg ss i).given || ltP (sg ss i).last (l.getD 0 (0, 0))) := by unfold fits; rw [hr, Bool.true_and]
      obtain ⟨gv, hgv⟩ : ∃ gv, gv = (sg ss i).given := ⟨_, rfl⟩
      rw [← hgv] at k3' hfit
      by_cases hln : l = []
      case' pos =>
        have hl0 : l.length = 0 := by rw [hln]; rfl
        have c5 : ¬ (0 : Int) < l.length := by omega
        have e : fits (sg ss i) l = true := by rw [hfit, hl0]; rfl
        simp only [go_sem, ↓reduceIte, Nat.reduceEqDiff, Nat.reduceLeDiff, Nat.reduceAdd, Nat.reduceMul, Nat.reduceSub, Nat.reduceBEq, Nat.reduceGT, Nat.reduceLT, Int.reduceLE, Int.reduceLT, Int.reduceNeg, reduceCtorEq, c5]
        clear k1' k2' k3' m0'
      case' neg =>
        have hlp : 0 < l.length := List.length_pos_iff.2 hln
        have c5 : (0 : Int) < l.length := by omega
        obtain ⟨b, o, rfl⟩ := prs_at hv' hlp
        obtain ⟨q1, q2⟩ := prs_get (prs_ext hv' x1) hlp
        rw [Nat.zero_mul, Nat.add_zero] at q1 q2
        cases gv
        case' false =>
          have e : fits (sg ss i) l = true := by rw [hfit]; simp
          simp only [go_sem, ↓reduceIte, Nat.reduceEqDiff, Nat.reduceLeDiff, Nat.reduceAdd, Nat.reduceMul, Nat.reduceSub, Nat.reduceBEq, Nat.reduceGT, Nat.reduceLT, Int.reduceLE, Int.reduceLT, Int.reduceNeg, reduceCtorEq, c5, k3']
          clear k1' k2' k3' m0'
        case' true =>
          simp only [go_sem, ↓reduceIte, Nat.reduceEqDiff, Nat.reduceLeDiff, Nat.reduceAdd, Nat.reduceMul, Nat.reduceSub, Nat.reduceBEq, Nat.reduceGT, Nat.reduceLT, Int.reduceLE, Int.reduceLT, Int.reduceNeg, reduceCtorEq, c5, k1', k2', k3', q1, q2, Option.bind_some, show Int.toNat 0 = 0 from rfl]
          refine FunI.by (F13 (sg ss i).last (l.getD 0 (0, 0)) H1) ?_
          rintro _ H2 ⟨rfl, x2⟩
          cases hlt : ltP (sg ss i).last (l.getD 0 (0, 0))
          case' false =>
            have e : fits (sg ss i) l = false := by rw [hfit, hlt]; simp; exact hln
            rw [hgs, if_pos e]
            simp only [go_sem, ↓reduceIte, Nat.reduceEqDiff, Nat.reduceLeDiff, Nat.reduceAdd, Nat.reduceMul, Nat.reduceSub, Nat.reduceBEq, Nat.reduceGT, Nat.reduceLT, Int.reduceLE, Int.reduceLT, Int.reduceNeg, reduceCtorEq]
            exact ⟨F, lvs, mer.ext x2, Ext.ch (x1.trans (x2.mono x1.size))⟩
          case' true =>
            have e : fits (sg ss i) l = true := by rw [hfit, hlt]; simp
            replace mer := mer.ext x2
            replace x1 := x1.trans (x2.mono x1.size)
            clear hlt x2 k1' k2' k3' m0' q1 q2
            simp only [go_sem, ↓reduceIte, Nat.reduceEqDiff, Nat.reduceLeDiff, Nat.reduceAdd, Nat.reduceMul, Nat.reduceSub, Nat.reduceBEq, Nat.reduceGT, Nat.reduceLT, Int.reduceLE, Int.reduceLT, Int.reduceNeg, reduceCtorEq]
      all_goals
        rw [hgs, if_neg (by rw [e]; simp)]
        clear hgv hfit hr
        obtain ⟨aL, capL, eL⟩ := mer.getL hi
        have g0 := (mer.getS hi).1
        have oL := mer.hl i hi
        rw [eL] at g0 oL
        have hlb := hb i hi
        simp only [g0]
        simp only [go_sem, ↓reduceIte, Nat.reduceEqDiff, Nat.reduceLeDiff, Nat.reduceAdd, Nat.reduceMul, Nat.reduceSub, Nat.reduceBEq, Nat.reduceGT, Nat.reduceLT, Int.reduceLE, Int.reduceLT, Int.reduceNeg, reduceCtorEq]
        refine FunI.by (F18 _ (sg ss i).l _ (Own2.sl oL) (by omega)) ?_
        rintro v2 H3 ⟨o2, y2⟩
        simp only [go_sem, ↓reduceIte, Nat.reduceEqDiff, Nat.reduceLeDiff, Nat.reduceAdd, Nat.reduceMul, Nat.reduceSub, Nat.reduceBEq, Nat.reduceGT, Nat.reduceLT, Int.reduceLE, Int.reduceLT, Int.reduceNeg, reduceCtorEq]
        refine RunI.by (append_own ty22 ty24 rfl rfl rfl (by decide) o2 (prs_ext (prs_ext hv' x1) y2) (cp_one l) (n := (sg ss i).l.length + l.length) (by rw [cp_len, cp_len]; show _ = ((sg ss i).l.length + l.length) * 2; omega) (by show ((sg ss i).l.length + l.length) * 16 ≤ _; omega) (by omega) y2.size) ?_
        rintro v3 H4 ⟨o3, b3, _, _⟩
        rw [← cp_app] at o3
        have y4 : Ext _ H4 := y2.trans (b3.upto (fun g hg => (o2.blk hg).1) y2.size)
        have o3' := Own.own2 o3
        obtain ⟨a3, cap3, rfl⟩ := prs_form (prs_own o3)
        obtain ⟨can1, F1, mer1, ch1⟩ := mer.setL hi y4 (Own2.mono o3' (Nat.zero_le _)) (fun g hg => .inr (o3.blk hg).1)
        simp only [go_sem, ↓reduceIte, Nat.reduceEqDiff, Nat.reduceLeDiff, Nat.reduceAdd, Nat.reduceMul, Nat.reduceSub, Nat.reduceBEq, Nat.reduceGT, Nat.reduceLT, Int.reduceLE, Int.reduceLT, Int.reduceNeg, reduceCtorEq, can1]
        refine ⟨rfl, ?_⟩
        have ch2 := (Ext.ch (F := F) x1).trans ch1
        generalize hput H4 S (i * 5) [Value.slice a3 ((sg ss i).l ++ l).length cap3] = H5 at *
        obtain ⟨ss1, hs1⟩ : ∃ ss1, ss1 = ss.set i { sg ss i with l := (sg ss i).l ++ l } := ⟨_, rfl⟩
        rw [← hs1] at mer1
        have hi1 : i < ss1.length := by rw [hs1, List.length_set]; exact hi
        have e1 : sg ss1 i = { sg ss i with l := (sg ss i).l ++ l } := by rw [hs1, sg_set hi, if_pos rfl]
        by_cases hl0 : l.length = 0
        · have hl : l = [] := List.eq_nil_of_length_eq_zero hl0
          have c6 : ¬ (0 : Int) < l.length := by omega
          obtain ⟨s4, mer4, ch4⟩ := mer1.setS (k := 4) (xs := [.bool last]) (s' := { sg ss1 i with ended := last }) hi1 (by simp) rfl rfl
          have s4' : hcan H5 S (i * 5 + 4) 1 := s4
          have ef : ss1.set i { sg ss1 i with ended := last } = ss.set i (gave (sg ss i) l last) := by
            rw [hl, gave_nil, e1, hs1, List.set_set, hl, List.append_nil]
          rw [ef] at mer4
          simp only [go_sem, ↓reduceIte, Nat.reduceEqDiff, Nat.reduceLeDiff, Nat.reduceAdd, Nat.reduceMul, Nat.reduceSub, Nat.reduceBEq, Nat.reduceGT, Nat.reduceLT, Int.reduceLE, Int.reduceLT, Int.reduceNeg, reduceCtorEq, c6, s4']
          exact ⟨rfl, F1, _, mer4, ch2.trans ch4⟩
        · have hl : l ≠ [] := fun hh => hl0 (by rw [hh]; rfl)
          have c6 : (0 : Int) < l.length := by omega
          have hw1 : IntKind.i64.wrap ((l.length : Int) - 1) = ((l.length - 1 : Nat) : Int) := by rw [w64_id (by omega) (by omega)]; omega
          have y0 : (0 : Int) ≤ ((l.length - 1 : Nat) : Int) := by omega
          have y1 : ((l.length - 1 : Nat) : Int) < l.length := by omega
          have hvl := Sl.ch hv' ch2 (hf hl)
          obtain ⟨b', o', hbo⟩ := prs_at hvl (by omega)
          try subst hbo
          try cases hbo
          obtain ⟨q1, q2⟩ := prs_get hvl (i := l.length - 1) (by omega)
          obtain ⟨s3, mer3, ch3⟩ := mer1.setS (k := 1) (xs := [.int .i64 (l.getD (l.length - 1) (0, 0)).1, .int .i64 (l.getD (l.length - 1) (0, 0)).2]) (s' := { sg ss1 i with last := l.getD (l.length - 1) (0, 0) }) hi1 (by simp) rfl rfl
          obtain ⟨ss3, hs3⟩ : ∃ ss3, ss3 = ss1.set i { sg ss1 i with last := l.getD (l.length - 1) (0, 0) } := ⟨_, rfl⟩
          rw [← hs3] at mer3
          have hi3 : i < ss3.length := by rw [hs3, List.length_set]; exact hi1
          have e3 : sg ss3 i = { sg ss1 i with last := l.getD (l.length - 1) (0, 0) } := by rw [hs3, sg_set hi1, if_pos rfl]
          have s3' : hcan H5 S (i * 5 + 1) 2 := s3
          obtain ⟨s5, mer5, ch5⟩ := mer3.setS (k := 3) (xs := [.bool true]) (s' := { sg ss3 i with given := true }) hi3 (by simp) rfl rfl
          obtain ⟨ss5, hs5⟩ : ∃ ss5, ss5 = ss3.set i { sg ss3 i with given := true } := ⟨_, rfl⟩
          rw [← hs5] at mer5
          have hi5 : i < ss5.length := by rw [hs5, List.length_set]; exact hi3
          have e5 : sg ss5 i = { sg ss3 i with given := true } := by rw [hs5, sg_set hi3, if_pos rfl]
          have s5' : hcan (hput H5 S (i * 5 + 1) [.int .i64 (l.getD (l.length - 1) (0, 0)).1, .int .i64 (l.getD (l.length - 1) (0, 0)).2]) S (i * 5 + 3) 1 := s5
          obtain ⟨s4, mer4, ch4⟩ := mer5.setS (k := 4) (xs := [.bool last]) (s' := { sg ss5 i with ended := last }) hi5 (by simp) rfl rfl
          have s4' : hcan (hput (hput H5 S (i * 5 + 1) [.int .i64 (l.getD (l.length - 1) (0, 0)).1, .int .i64 (l.getD (l.length - 1) (0, 0)).2]) S (i * 5 + 3) [.bool true]) S (i * 5 + 4) 1 := s4
          have ef : ss5.set i { sg ss5 i with ended := last } = ss.set i (gave (sg ss i) l last) := by
            rw [gave_cons _ _ hl, e5, e3, e1, hs5, hs3, hs1, List.set_set, List.set_set, List.set_set]
          rw [ef] at mer4
          simp only [go_sem, ↓reduceIte, Nat.reduceEqDiff, Nat.reduceLeDiff, Nat.reduceAdd, Nat.reduceMul, Nat.reduceSub, Nat.reduceBEq, Nat.reduceGT, Nat.reduceLT, Int.reduceLE, Int.reduceLT, Int.reduceNeg, reduceCtorEq, c6, hw1, y0, y1, q1, q2, Int.toNat_natCast, Option.bind_some, s3', s5', s4']
          refine ⟨rfl, rfl, rfl, ?_⟩
          exact ⟨F1, _, mer4, ((ch2.trans ch3).trans ch5).trans ch4⟩
end Go.Proofs.Ytcgejfmbhpmjfaa
