/- (*runs.Merger).Give. -/
import Derived.Test.YtcgejfmbhpmjfaaVMerg
set_option linter.unusedSimpArgs false
set_option linter.unusedVariables false
set_option maxRecDepth 20000
namespace Go.V
open Go
theorem Sl.keepB {H H' : Heap} {e : TypeId} {sz : Nat} {v : Value} {vs : List Value} (h : Sl H e sz v vs) (hk : ∀ b, blk v = some b → b < H.size → H'[b]? = H[b]?) : Sl H' e sz v vs := by
  obtain ⟨a, len, cap, rfl, hc, hl, h | ⟨b, o, c, t, fr, rfl, hb, hg⟩⟩ := h
  · exact ⟨a, len, cap, rfl, hc, hl, .inl h⟩
  · exact ⟨_, len, cap, rfl, hc, hl, .inr ⟨b, o, c, t, fr, rfl, by rw [hk b rfl (Array.getElem?_eq_some_iff.1 hb).1]; exact hb, hg⟩⟩
theorem Sl.ch {F F' : Nat → Prop} {H H' : Heap} {e : TypeId} {sz : Nat} {v : Value} {vs : List Value} (h : Sl H e sz v vs) (hc : Ch F F' H H') (hf : ∀ b, blk v = some b → ¬ F b) : Sl H' e sz v vs :=
  h.keepB fun b hb hlt => hc.get b hlt (hf b hb)
end Go.V
namespace Go.Proofs.Ytcgejfmbhpmjfaa
open Go Go.V
-- 35: (*pith/runs.Merger).Give
-- 48: pith/runs.rise
-- 12: pith/runs.Less
-- 63: (*pith/runs.heap[int]).push
-- 3: int
-- 63: []int
-- 24: pith/api.Pair
-- 22: []api.Pair
-- 86: runs.Merger
-- 88: runs.source

theorem nodup_le : ∀ (n : Nat) (hp : List Nat), hp.Nodup → (∀ x ∈ hp, x < n) → hp.length ≤ n
  | 0, hp, _, h => by
    cases hp with
    | nil => simp
    | cons a t => have := h a (by simp); omega
  | n + 1, hp, hn, h => by
    have ih := nodup_le n (hp.erase n) (hn.erase n) fun x hx => by
      rw [hn.mem_erase_iff] at hx
      have := h x hx.2
      have := hx.1
      omega
    have := List.length_erase (a := n) (l := hp)
    split at this <;> omega
theorem MS.len {ss : List Src} {hp : List Nat} (h : MS ss hp) : hp.length ≤ ss.length := nodup_le _ _ h.nodup fun x hx => ((h.mem x).1 hx).1
theorem gave_nil (s : Src) (b : Bool) : gave s [] b = { s with ended := b } := by
  unfold gave
  cases s with
  | mk l last given ended => simp
theorem gave_cons (s : Src) (l : List Pr) (hl : l ≠ []) (b : Bool) : gave s l b = ⟨s.l ++ l, l.getD (l.length - 1) (0, 0), true, b⟩ := by
  unfold gave
  have : l.length ≠ 0 := fun h => hl (List.eq_nil_of_length_eq_zero h)
  simp [this]
theorem MS.other {ss : List Src} {hp : List Nat} (h : MS ss hp) {i : Nat} (hi : i < ss.length) (hn : (sg ss i).l = []) (s' : Src) : (∀ y ∈ hp, Valid (ss.set i s') y) ∧ HeapOK (hd (ss.set i s')) hp := by
  have ne : ∀ y ∈ hp, y ≠ i := fun y hy e => ((h.mem y).1 hy).2 (by rw [e]; exact hn)
  refine ⟨fun y hy => ?_, h.heap.congr fun y hy => ?_⟩
  · obtain ⟨h1, h2⟩ := (h.mem y).1 hy
    unfold Valid
    rw [List.length_set, sg_set hi, if_neg (ne y hy)]
    exact ⟨h1, h2⟩
  · unfold hd
    rw [sg_set hi, if_neg (ne y hy)]
set_option maxHeartbeats 3200000 in
theorem F35 {H : Heap} {F : Nat → Prop} {M Cb S : Nat} {lvs : List Value} {hv : Value} {ss : List Src} {hp : List Nat} (h : MerH H F M Cb S lvs hv ss hp) (ms : MS ss hp) (i : Int) {v : Value} {l : List Pr} (hv' : Prs H v l) (hf : ∀ b, blk v = some b → ¬ F b) (last : Bool)
    (hb : ∀ j, j < ss.length → (sg ss j).l.length + l.length ≤ 8796093020000) :
    Fun Try.prog 35 #[.pointer (some ⟨M, 0, none⟩), .int .i64 i, v, .bool last] H (fun r H' => r = .int .i64 (giveS ss i l last).2 ∧ ∃ F' lvs' hv' hp', MerH H' F' M Cb S lvs' hv' (giveS ss i l last).1 hp' ∧ MS (giveS ss i l last).1 hp' ∧ Ch F F' H H') := by
  obtain ⟨a, c, rfl⟩ := prs_form hv'
  refine fun_of mixed (args := [_, _, _, _]) Try.func35 Try.ntmps35 b35 r35 rfl ?_
  obtain ⟨m0, m1, m2, m3⟩ := h.getM
  have hk := h.k64
  by_cases c1 : i < 0
  · have e : giveS ss i l last = (ss, 112) := by unfold giveS; rw [if_pos (.inl c1)]
    rw [e]
    simp only [go_sem, ↓reduceIte, Nat.reduceEqDiff, Nat.reduceLeDiff, Nat.reduceAdd, Nat.reduceMul, Nat.reduceSub, Nat.reduceBEq, Nat.reduceGT, Nat.reduceLT, Int.reduceLE, Int.reduceLT, Int.reduceNeg, reduceCtorEq, c1]
    exact ⟨F, lvs, hv, hp, h, ms, Ch.refl _ _⟩
  by_cases c2 : (ss.length : Int) ≤ i
  · have e : giveS ss i l last = (ss, 112) := by unfold giveS; rw [if_pos (.inr (.inl c2))]
    rw [e]
    have c2' : i ≥ (ss.length : Int) := c2
    simp only [go_sem, ↓reduceIte, Nat.reduceEqDiff, Nat.reduceLeDiff, Nat.reduceAdd, Nat.reduceMul, Nat.reduceSub, Nat.reduceBEq, Nat.reduceGT, Nat.reduceLT, Int.reduceLE, Int.reduceLT, Int.reduceNeg, reduceCtorEq, c1, c2, m0]
    exact ⟨F, lvs, hv, hp, h, ms, Ch.refl _ _⟩
  obtain ⟨i, rfl⟩ : ∃ n : Nat, i = n := ⟨i.toNat, by omega⟩
  have hi : i < ss.length := by omega
  have c3 : (i : Int) < ss.length := by omega
  have z0 : (0 : Int) ≤ i := by omega
  obtain ⟨_, k1, k2, k3, g4⟩ := h.getS hi
  cases hen : (sg ss i).ended with
  | true =>
    have e : giveS ss i l last = (ss, 112) := by unfold giveS; rw [if_pos (.inr (.inr (by rw [Int.toNat_natCast]; exact hen)))]
    rw [e]
    rw [hen] at g4
    simp only [go_sem, ↓reduceIte, Nat.reduceEqDiff, Nat.reduceLeDiff, Nat.reduceAdd, Nat.reduceMul, Nat.reduceSub, Nat.reduceBEq, Nat.reduceGT, Nat.reduceLT, Int.reduceLE, Int.reduceLT, Int.reduceNeg, reduceCtorEq, c1, c2, c3, z0, m0, g4, Int.toNat_natCast]
    exact ⟨F, lvs, hv, hp, h, ms, Ch.refl _ _⟩
  | false =>
    rw [hen] at g4
    have hgs : giveS ss i l last = if fits (sg ss i) l = false then (ss, 111) else (ss.set i (gave (sg ss i) l last), 0) := by
      unfold giveS
      rw [Int.toNat_natCast, if_neg]
      rintro (h | h | h)
      · exact c1 h
      · exact c2 h
      · rw [hen] at h; cases h
    simp only [go_sem, ↓reduceIte, Nat.reduceEqDiff, Nat.reduceLeDiff, Nat.reduceAdd, Nat.reduceMul, Nat.reduceSub, Nat.reduceBEq, Nat.reduceGT, Nat.reduceLT, Int.reduceLE, Int.reduceLT, Int.reduceNeg, reduceCtorEq, c1, c2, c3, z0, m0, g4, Int.toNat_natCast]
    refine FunI.by (F48 _ l H hv' (by have := hb i hi; omega)) ?_
    rintro _ H1 ⟨rfl, x1⟩
    have mer := h.ext x1
    obtain ⟨m0, m1, m2, m3⟩ := mer.getM
    obtain ⟨_, g1, g2, g3, g4⟩ := mer.getS hi
    cases hr : riseP l with
    | false =>
      have e : fits (sg ss i) l = false := by unfold fits; rw [hr]; rfl
      rw [hgs, if_pos e]
      refine ⟨x1, ?_⟩
      simp only [go_sem, ↓reduceIte, Nat.reduceEqDiff, Nat.reduceLeDiff, Nat.reduceAdd, Nat.reduceMul, Nat.reduceSub, Nat.reduceBEq, Nat.reduceGT, Nat.reduceLT, Int.reduceLE, Int.reduceLT, Int.reduceNeg, reduceCtorEq]
      exact ⟨F, lvs, hv, hp, mer, ms, x1.ch⟩
    | true =>
      have hfit : fits (sg ss i) l = (decide (l.length = 0) || !(sg ss i).given || ltP (sg ss i).last (l.getD 0 (0, 0))) := by unfold fits; rw [hr, Bool.true_and]
      by_cases hln : l = []
      · have hl0 : l.length = 0 := by rw [hln]; rfl
        have c5 : ¬ (0 : Int) < l.length := by omega
        have c6 : (l.length : Int) = 0 := by omega
        have e : fits (sg ss i) l = true := by rw [hfit, hl0]; rfl
        rw [hgs, if_neg (by rw [e]; simp)]
        obtain ⟨s1, mer1, ch1⟩ := mer.setS (k := 4) (xs := [.bool last]) (s' := { sg ss i with ended := last }) hi (by simp) rfl rfl
        have s1' : hcan H1 S (i * 5 + 4) 1 := s1
        refine ⟨x1, ?_⟩
        simp only [go_sem, ↓reduceIte, Nat.reduceEqDiff, Nat.reduceLeDiff, Nat.reduceAdd, Nat.reduceMul, Nat.reduceSub, Nat.reduceBEq, Nat.reduceGT, Nat.reduceLT, Int.reduceLE, Int.reduceLT, Int.reduceNeg, reduceCtorEq, s1', c5, c6]
        have eg : gave (sg ss i) l last = { sg ss i with ended := last } := by rw [hln]; exact gave_nil _ _
        have := ms.give hi e (hp' := hp) (b := last) (.inl ⟨rfl, .inr hln⟩)
        rw [eg] at this ⊢
        exact ⟨rfl, F, lvs, hv, hp, mer1, this, x1.ch.trans ch1⟩
      · have hlp : 0 < l.length := List.length_pos_iff.2 hln
        have c5 : (0 : Int) < l.length := by omega
        have c6 : ¬ (l.length : Int) = 0 := by omega
        obtain ⟨b, o, rfl⟩ := prs_at hv' hlp
        obtain ⟨q1, q2⟩ := prs_get hv' hlp
        rw [Nat.zero_mul, Nat.add_zero] at q1 q2
        cases hgv : (sg ss i).given
        case' true =>
          rw [hgv] at k3
          refine ⟨x1, ?_⟩
          simp only [go_sem, ↓reduceIte, Nat.reduceEqDiff, Nat.reduceLeDiff, Nat.reduceAdd, Nat.reduceMul, Nat.reduceSub, Nat.reduceBEq, Nat.reduceGT, Nat.reduceLT, Int.reduceLE, Int.reduceLT, Int.reduceNeg, reduceCtorEq, c5, k1, k2, k3, q1, q2, Option.bind_some, show Int.toNat 0 = 0 from rfl]
          refine FunI.by (F12 (sg ss i).last (l.getD 0 (0, 0)) H1) ?_
          rintro _ H2 ⟨rfl, x2⟩
          replace mer := mer.ext x2
          replace x1 := x1.trans (x2.mono x1.size)
          clear m0 m1 m2 m3 g1 g2 g3 g4 x2
          cases hlt : ltP (sg ss i).last (l.getD 0 (0, 0))
          case' false =>
            have e : fits (sg ss i) l = false := by rw [hfit, hgv, hlt]; simp; exact hln
            rw [hgs, if_pos e]
            simp only [go_sem, ↓reduceIte, Nat.reduceEqDiff, Nat.reduceLeDiff, Nat.reduceAdd, Nat.reduceMul, Nat.reduceSub, Nat.reduceBEq, Nat.reduceGT, Nat.reduceLT, Int.reduceLE, Int.reduceLT, Int.reduceNeg, reduceCtorEq]
            exact ⟨x1, F, lvs, hv, hp, mer, ms, Ext.ch x1⟩
          case' true =>
            have e : fits (sg ss i) l = true := by rw [hfit, hlt]; simp
            refine ⟨x1, ?_⟩
            simp only [go_sem, ↓reduceIte, Nat.reduceEqDiff, Nat.reduceLeDiff, Nat.reduceAdd, Nat.reduceMul, Nat.reduceSub, Nat.reduceBEq, Nat.reduceGT, Nat.reduceLT, Int.reduceLE, Int.reduceLT, Int.reduceNeg, reduceCtorEq]
            clear hlt
        case' false =>
          rw [hgv] at k3
          have e : fits (sg ss i) l = true := by rw [hfit, hgv]; simp
          refine ⟨x1, ?_⟩
          simp only [go_sem, ↓reduceIte, Nat.reduceEqDiff, Nat.reduceLeDiff, Nat.reduceAdd, Nat.reduceMul, Nat.reduceSub, Nat.reduceBEq, Nat.reduceGT, Nat.reduceLT, Int.reduceLE, Int.reduceLT, Int.reduceNeg, reduceCtorEq, c5, k3]
          clear m0 m1 m2 m3 g1 g2 g3 g4
          obtain ⟨H2, rfl⟩ : ∃ H2, H2 = H1 := ⟨H1, rfl⟩
        all_goals
          clear hgv q1 q2 k1 k2 k3
          rw [hgs, if_neg (by rw [e]; simp)]
          obtain ⟨s1, mer1, ch1⟩ := mer.setS (k := 4) (xs := [.bool last]) (s' := { sg ss i with ended := last }) hi (by simp) rfl rfl
          refine ⟨rfl, s1, fun h => absurd h c6, fun _ => ?_⟩
          obtain ⟨ss1, hs1⟩ : ∃ ss1, ss1 = ss.set i { sg ss i with ended := last } := ⟨_, rfl⟩
          rw [← hs1] at mer1
          have hi1 : i < ss1.length := by rw [hs1, List.length_set]; exact hi
          have e1 : sg ss1 i = { sg ss i with ended := last } := by rw [hs1, sg_set hi, if_pos rfl]
          obtain ⟨a1, cap1, eL⟩ := mer1.getL hi1
          have g0 := (mer1.getS hi1).1
          rw [eL] at g0
          have ch2 := (Ext.ch (F := F) x1).trans ch1
          have hlb := hb i hi
          generalize hput H2 S (i * 5 + 4) [Value.bool last] = H3 at *
          simp only [go_sem, ↓reduceIte, Nat.reduceEqDiff, Nat.reduceLeDiff, Nat.reduceAdd, Nat.reduceMul, Nat.reduceSub, Nat.reduceBEq, Nat.reduceGT, Nat.reduceLT, Int.reduceLE, Int.reduceLT, Int.reduceNeg, reduceCtorEq, g0]
          have o1 := mer1.hl i hi1
          rw [eL] at o1
          refine RunI.by (append_own2 ty22 ty24 rfl rfl rfl (by decide) o1 (Sl.ch hv' ch2 hf) (cp_one l) (n := (sg ss i).l.length + l.length) (by rw [cp_len, cp_len, e1, Nat.add_mul]) (by show ((sg ss i).l.length + l.length) * 16 ≤ _; omega) (by unfold maxLen; omega) (Nat.zero_le _)) ?_
          rintro v2 H4 ⟨o2, gr⟩
          rw [← cp_app] at o2
          obtain ⟨a2, cap2, rfl⟩ := prs_form o2.sl
          obtain ⟨can2, F2, mer2, ch3⟩ := mer1.setL hi1 (by rw [eL]; exact gr.but) o2 (by rw [eL]; exact gr.at')
          simp only [go_sem, ↓reduceIte, Nat.reduceEqDiff, Nat.reduceLeDiff, Nat.reduceAdd, Nat.reduceMul, Nat.reduceSub, Nat.reduceBEq, Nat.reduceGT, Nat.reduceLT, Int.reduceLE, Int.reduceLT, Int.reduceNeg, reduceCtorEq, can2]
          refine ⟨rfl, ?_⟩
          obtain ⟨ss2, hs2⟩ : ∃ ss2, ss2 = ss1.set i { sg ss1 i with l := (sg ss1 i).l ++ l } := ⟨_, rfl⟩
          rw [← hs2] at mer2
          have hi2 : i < ss2.length := by rw [hs2, List.length_set]; exact hi1
          have e2 : sg ss2 i = { sg ss1 i with l := (sg ss1 i).l ++ l } := by rw [hs2, sg_set hi1, if_pos rfl]
          have ch4 := ch2.trans ch3
          generalize hput H4 S (i * 5) [Value.slice a2 ((sg ss1 i).l ++ l).length cap2] = H5 at *
          have hw1 : IntKind.i64.wrap ((l.length : Int) - 1) = ((l.length - 1 : Nat) : Int) := by rw [w64_id (by omega) (by omega)]; omega
          have y0 : (0 : Int) ≤ ((l.length - 1 : Nat) : Int) := by omega
          have y1 : ((l.length - 1 : Nat) : Int) < l.length := by omega
          obtain ⟨q1, q2⟩ := prs_get (Sl.ch hv' ch4 hf) (i := l.length - 1) (by omega)
          obtain ⟨s3, mer3, ch5⟩ := mer2.setS (k := 1) (xs := [.int .i64 (l.getD (l.length - 1) (0, 0)).1, .int .i64 (l.getD (l.length - 1) (0, 0)).2]) (s' := { sg ss2 i with last := l.getD (l.length - 1) (0, 0) }) hi2 (by simp) rfl rfl
          obtain ⟨ss3, hs3⟩ : ∃ ss3, ss3 = ss2.set i { sg ss2 i with last := l.getD (l.length - 1) (0, 0) } := ⟨_, rfl⟩
          rw [← hs3] at mer3
          have hi3 : i < ss3.length := by rw [hs3, List.length_set]; exact hi2
          have e3 : sg ss3 i = { sg ss2 i with last := l.getD (l.length - 1) (0, 0) } := by rw [hs3, sg_set hi2, if_pos rfl]
          obtain ⟨s4, mer4, ch6⟩ := mer3.setS (k := 3) (xs := [.bool true]) (s' := { sg ss3 i with given := true }) hi3 (by simp) rfl rfl
          have s3' : hcan H5 S (i * 5 + 1) 2 := s3
          have s4' : hcan (hput H5 S (i * 5 + 1) [.int .i64 (l.getD (l.length - 1) (0, 0)).1, .int .i64 (l.getD (l.length - 1) (0, 0)).2]) S (i * 5 + 3) 1 := s4
          have ef : ss3.set i { sg ss3 i with given := true } = ss.set i (gave (sg ss i) l last) := by
            rw [gave_cons _ _ hln, e3, e2, e1, hs3, hs2, hs1, List.set_set, List.set_set, List.set_set]
          rw [ef] at mer4
          have ch7 := (ch4.trans ch5).trans ch6
          simp only [go_sem, ↓reduceIte, Nat.reduceEqDiff, Nat.reduceLeDiff, Nat.reduceAdd, Nat.reduceMul, Nat.reduceSub, Nat.reduceBEq, Nat.reduceGT, Nat.reduceLT, Int.reduceLE, Int.reduceLT, Int.reduceNeg, reduceCtorEq, hw1, y0, y1, q1, q2, Int.toNat_natCast, Option.bind_some, s3', s4']
          refine ⟨rfl, rfl, ?_⟩
          generalize hput (hput H5 S (i * 5 + 1) [Value.int .i64 (l.getD (l.length - 1) (0, 0)).1, .int .i64 (l.getD (l.length - 1) (0, 0)).2]) S (i * 5 + 3) [Value.bool true] = H6 at *
          have hle : (sg ss1 i).l.length = (sg ss i).l.length := by rw [e1]
          rw [hle]
          refine ⟨fun hz => ?_, fun hz => ?_⟩
          · have he : (sg ss i).l = [] := List.eq_nil_of_length_eq_zero (by omega)
            obtain ⟨va, ok⟩ := ms.other hi he (gave (sg ss i) l last)
            have vi : Valid (ss.set i (gave (sg ss i) l last)) i := by
              unfold Valid
              rw [List.length_set, sg_set hi, if_pos rfl, gave_cons _ _ hln]
              exact ⟨hi, by simp [hln]⟩
            refine FunI.by (F63 mer4 va vi ok (Nat.le_trans ms.len hk)) ?_
            rintro _ H7 ⟨rfl, F7, hv7, hp7, mer7, pm7, ok7, ch8⟩
            simp only [go_sem, ↓reduceIte, Nat.reduceEqDiff, Nat.reduceLeDiff, Nat.reduceAdd, Nat.reduceMul, Nat.reduceSub, Nat.reduceBEq, Nat.reduceGT, Nat.reduceLT, Int.reduceLE, Int.reduceLT, Int.reduceNeg, reduceCtorEq]
            exact ⟨F7, _, hv7, hp7, mer7, ms.give hi e (.inr ⟨pm7, ok7, he, hln⟩), ch7.trans ch8⟩
          · exact ⟨_, _, hv, hp, mer4, ms.give hi e (.inl ⟨rfl, .inl fun he => hz (by rw [he]; rfl)⟩), ch7⟩
end Go.Proofs.Ytcgejfmbhpmjfaa
