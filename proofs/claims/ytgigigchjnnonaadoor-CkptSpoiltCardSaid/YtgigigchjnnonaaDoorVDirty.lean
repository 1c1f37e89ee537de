/- ckpt.dirty reads the bits off the last payload, as dspec says. -/
import Derived.Test.YtgigigchjnnonaaDoorVBounds
set_option linter.unusedSimpArgs false
set_option linter.unusedVariables false
set_option maxRecDepth 20000
namespace Go.Proofs.YtgigigchjnnonaaDoor
open Go Go.V
-- 43: pith/ckpt.dirty
-- 5: uint8
-- 42: []uint8
-- 49: [][]uint8
-- 4: bool
-- 23: []bool

def dspec (n : Nat) (ls : List (List Int)) : Option (List Bool) :=
  if n = 0 then (if ls.length = 0 then some [] else none)
  else if ls.length = 1 ∧ (ls.getD 0 []).length = n ∧ (∀ x ∈ ls.getD 0 [], x ≤ 1) then some ((ls.getD 0 []).map fun x => decide (x = 1)) else none

set_option maxHeartbeats 1600000 in
set_option maxRecDepth 20000 in
theorem F43 (n : Int) (v : Value) (ls : List (List Int)) (H : Heap) (hv : Lists H 42 5 v ls) (hb : ∀ xs ∈ ls, Byt xs ∧ xs.length ≤ 140737488350000) (h0 : 0 ≤ n) (h1 : n ≤ 4294967296) :
    Fun Tryd.prog 43 #[.int .i64 n, v] H (fun r H' => Ext H H' ∧ match dspec n.toNat ls with
      | none => r = .tuple #[.slice none 0 0, .bool false]
      | some ds => ∃ vd, r = .tuple #[vd, .bool true] ∧ V.Own H' H.size 4 1 vd (ds.map .bool)) := by
  obtain ⟨m, rfl⟩ := Int.eq_ofNat_of_zero_le h0
  simp only [Int.toNat_natCast]
  obtain ⟨r1, r2, rfl⟩ := hv.form
  refine fun_of mixed (args := [_, _]) Tryd.func43 Tryd.ntmps43 b43 r43 rfl ?_
  by_cases hm : m = 0
  · have cm : (m : Int) = 0 := by omega
    by_cases hl : ls.length = 0
    · have c1 : (ls.length : Int) = 0 := by omega
      simp only [go_sem, ↓reduceIte, Nat.reduceEqDiff, Nat.reduceLeDiff, Nat.reduceAdd, Nat.reduceMul, Nat.reduceSub, Nat.reduceBEq, Nat.reduceGT, Nat.reduceLT, Int.reduceLE, Int.reduceLT, Int.reduceNeg, reduceCtorEq, c1, cm]
      have : dspec m ls = some [] := by unfold dspec; rw [if_pos hm, if_pos hl]
      rw [this]
      exact ⟨Upto.refl _ _, _, rfl, V.Own.nil⟩
    · have c1 : ¬ (ls.length : Int) = 0 := by omega
      simp only [go_sem, ↓reduceIte, Nat.reduceEqDiff, Nat.reduceLeDiff, Nat.reduceAdd, Nat.reduceMul, Nat.reduceSub, Nat.reduceBEq, Nat.reduceGT, Nat.reduceLT, Int.reduceLE, Int.reduceLT, Int.reduceNeg, reduceCtorEq, c1, cm]
      have : dspec m ls = none := by unfold dspec; rw [if_pos hm, if_neg hl]
      rw [this]
      exact ⟨Upto.refl _ _, by first | rfl | trivial⟩
  · have cm : ¬ (m : Int) = 0 := by omega
    by_cases hl : ls.length = 1
    · have c1 : (ls.length : Int) = 1 := by omega
      obtain ⟨b, o, rfl⟩ := hv.at (i := 0) (by omega)
      obtain ⟨u, hu, hui⟩ := hv.get (i := 0) (by omega)
      obtain ⟨xs, hxs⟩ : ∃ xs, xs = ls.getD 0 [] := ⟨_, rfl⟩
      have hxin : xs ∈ ls := by
        cases ls with
        | nil => simp at hl
        | cons y ys => simp [hxs]
      rw [← hxs] at hui
      obtain ⟨hxw, hxl⟩ := hb _ hxin
      obtain ⟨u1, u2, rfl⟩ := hui.form
      rw [Nat.add_zero] at hu
      by_cases hn : xs.length = m
      · have c2 : (xs.length : Int) = m := by omega
        subst hn
        have hu2 := fun x => hget_ext (H := H.push x) (Ext.push x) hu
        simp only [go_sem, ↓reduceIte, Nat.reduceEqDiff, Nat.reduceLeDiff, Nat.reduceAdd, Nat.reduceMul, Nat.reduceSub, Nat.reduceBEq, Nat.reduceGT, Nat.reduceLT, Int.reduceLE, Int.reduceLT, Int.reduceNeg, reduceCtorEq, cm, c1, hu, hu2, Int.toNat_zero, Nat.add_zero]
        refine ⟨by omega, by omega, by omega, by omega, ?_⟩
        refine LoopI.by mixed (fun σ H' => ∃ j : Nat, σ 6 = .slice (some ⟨H.size, 0, none⟩) xs.length xs.length ∧ σ 29 = .slice u1 xs.length u2 ∧ σ 30 = .int .i64 xs.length ∧ σ 31 = .int .i64 j ∧ j ≤ xs.length ∧ (∀ k, k < j → xs.getD k 0 ≤ 1) ∧
          V.Own H' H.size 4 1 (.slice (some ⟨H.size, 0, none⟩) xs.length xs.length) (((xs.take j).map (fun x => decide (x = 1)) ++ List.replicate (xs.length - j) false).map .bool) ∧ Ext H H') (fun σ _ => xs.length - (iof (σ 31)).toNat) ?_ ?_
        · have hown := V.Own.made (H := H) (B := H.size) (e := 4) (sz := 1) (l := xs.length) (c := xs.length) (z := .bool false) (Nat.le_refl _) (Nat.le_refl _) (by omega)
          rw [Nat.mul_one, zrow_one rfl, List.take_of_length_le (by simp)] at hown
          exact ⟨0, by simp only [go_sem, ↓reduceIte, Nat.reduceEqDiff, Nat.reduceLeDiff, Nat.reduceAdd, Nat.reduceMul, Nat.reduceSub, Nat.reduceBEq, Nat.reduceGT, Nat.reduceLT, Int.reduceLE, Int.reduceLT, Int.reduceNeg, reduceCtorEq], by simp only [go_sem, ↓reduceIte, Nat.reduceEqDiff, Nat.reduceLeDiff, Nat.reduceAdd, Nat.reduceMul, Nat.reduceSub, Nat.reduceBEq, Nat.reduceGT, Nat.reduceLT, Int.reduceLE, Int.reduceLT, Int.reduceNeg, reduceCtorEq], by simp only [go_sem, ↓reduceIte, Nat.reduceEqDiff, Nat.reduceLeDiff, Nat.reduceAdd, Nat.reduceMul, Nat.reduceSub, Nat.reduceBEq, Nat.reduceGT, Nat.reduceLT, Int.reduceLE, Int.reduceLT, Int.reduceNeg, reduceCtorEq], by simp only [go_sem, ↓reduceIte, Nat.reduceEqDiff, Nat.reduceLeDiff, Nat.reduceAdd, Nat.reduceMul, Nat.reduceSub, Nat.reduceBEq, Nat.reduceGT, Nat.reduceLT, Int.reduceLE, Int.reduceLT, Int.reduceNeg, reduceCtorEq]; rfl, by omega, by omega, by simpa using hown, Ext.push _⟩
        rintro σ H3 ⟨j, e6, e29, e30, e31, hj, hle, hob, hx3⟩
        by_cases hjn : j < xs.length
        · have c3 : (j : Int) < xs.length := by omega
          have c0 : (0 : Int) ≤ j := by omega
          obtain ⟨bb, bo, rfl⟩ := hui.at hjn
          have gj := (hui.ext hx3).get hjn
          have hst := hob.store hjn (.bool (decide (xs.getD j 0 = 1)))
          obtain ⟨_, hcan1, ho1, hbut, hlen⟩ := hst
          rw [Nat.zero_add] at hcan1 ho1 hbut
          by_cases hbig : 1 < xs.getD j 0
          · simp only [go_sem, ↓reduceIte, Nat.reduceEqDiff, Nat.reduceLeDiff, Nat.reduceAdd, Nat.reduceMul, Nat.reduceSub, Nat.reduceBEq, Nat.reduceGT, Nat.reduceLT, Int.reduceLE, Int.reduceLT, Int.reduceNeg, reduceCtorEq, c43_L0, e6, e29, e30, e31, c0, c3, gj, hbig]
            have : dspec xs.length ls = none := by
              unfold dspec
              rw [if_neg hm, if_neg]
              rintro ⟨_, _, h⟩
              rw [← hxs] at h
              have := h _ (mem_getD (xs := xs) (i := j) hjn 0)
              omega
            rw [this]
            exact ⟨hx3, by first | rfl | trivial⟩
          · simp only [go_sem, ↓reduceIte, Nat.reduceEqDiff, Nat.reduceLeDiff, Nat.reduceAdd, Nat.reduceMul, Nat.reduceSub, Nat.reduceBEq, Nat.reduceGT, Nat.reduceLT, Int.reduceLE, Int.reduceLT, Int.reduceNeg, reduceCtorEq, c43_L0, e6, e29, e30, e31, c0, c3, gj, hbig, w64_id (n := (j : Int) + 1) (by omega) (by omega)]
            refine ⟨rfl, hcan1, Hold.mk ⟨j + 1, by simp only [go_sem, ↓reduceIte, Nat.reduceEqDiff, Nat.reduceLeDiff, Nat.reduceAdd, Nat.reduceMul, Nat.reduceSub, Nat.reduceBEq, Nat.reduceGT, Nat.reduceLT, Int.reduceLE, Int.reduceLT, Int.reduceNeg, reduceCtorEq, e6], by simp only [go_sem, ↓reduceIte, Nat.reduceEqDiff, Nat.reduceLeDiff, Nat.reduceAdd, Nat.reduceMul, Nat.reduceSub, Nat.reduceBEq, Nat.reduceGT, Nat.reduceLT, Int.reduceLE, Int.reduceLT, Int.reduceNeg, reduceCtorEq, e29], by simp only [go_sem, ↓reduceIte, Nat.reduceEqDiff, Nat.reduceLeDiff, Nat.reduceAdd, Nat.reduceMul, Nat.reduceSub, Nat.reduceBEq, Nat.reduceGT, Nat.reduceLT, Int.reduceLE, Int.reduceLT, Int.reduceNeg, reduceCtorEq, e30], by simp only [go_sem, ↓reduceIte, Nat.reduceEqDiff, Nat.reduceLeDiff, Nat.reduceAdd, Nat.reduceMul, Nat.reduceSub, Nat.reduceBEq, Nat.reduceGT, Nat.reduceLT, Int.reduceLE, Int.reduceLT, Int.reduceNeg, reduceCtorEq]; rfl, by omega, ?_, ?_, hx3.trans (hbut.upto (fun k hk => by cases hk; exact Nat.le_refl _) hx3.size)⟩, by omega⟩
            · intro k hk
              by_cases hkj : k = j
              · subst hkj; omega
              · exact hle k (by omega)
            · rw [take_succ_getD hjn 0]
              rw [show xs.length - j = (xs.length - (j + 1)) + 1 by omega, List.replicate_succ] at ho1
              simpa [List.set_append, show min j xs.length = j by omega] using ho1
        · have c3 : ¬ (j : Int) < xs.length := by omega
          have hjx : j = xs.length := by omega
          simp only [go_sem, ↓reduceIte, Nat.reduceEqDiff, Nat.reduceLeDiff, Nat.reduceAdd, Nat.reduceMul, Nat.reduceSub, Nat.reduceBEq, Nat.reduceGT, Nat.reduceLT, Int.reduceLE, Int.reduceLT, Int.reduceNeg, reduceCtorEq, c43_L0, e6, e29, e30, e31, c3]
          have : dspec xs.length ls = some (xs.map fun x => decide (x = 1)) := by
            unfold dspec
            rw [if_neg hm, ← hxs, if_pos]
            refine ⟨hl, rfl, fun x hx => ?_⟩
            obtain ⟨k, hk, rfl⟩ := List.getElem_of_mem hx
            have := hle k (by omega)
            simpa [List.getD_eq_getElem?_getD, List.getElem?_eq_getElem hk] using this
          rw [this]
          refine ⟨hx3, _, rfl, ?_⟩
          subst hjx
          simpa using hob
      · have c2 : ¬ (xs.length : Int) = m := by omega
        simp only [go_sem, ↓reduceIte, Nat.reduceEqDiff, Nat.reduceLeDiff, Nat.reduceAdd, Nat.reduceMul, Nat.reduceSub, Nat.reduceBEq, Nat.reduceGT, Nat.reduceLT, Int.reduceLE, Int.reduceLT, Int.reduceNeg, reduceCtorEq, cm, c1, hu, c2, Int.toNat_zero, Nat.add_zero]
        have : dspec m ls = none := by
          unfold dspec
          rw [if_neg hm, if_neg]
          rintro ⟨_, h, _⟩
          rw [← hxs] at h
          exact hn h
        rw [this]
        exact ⟨Upto.refl _ _, by first | rfl | trivial⟩
    · have c1 : ¬ (ls.length : Int) = 1 := by omega
      simp only [go_sem, ↓reduceIte, Nat.reduceEqDiff, Nat.reduceLeDiff, Nat.reduceAdd, Nat.reduceMul, Nat.reduceSub, Nat.reduceBEq, Nat.reduceGT, Nat.reduceLT, Int.reduceLE, Int.reduceLT, Int.reduceNeg, reduceCtorEq, cm, c1]
      have : dspec m ls = none := by
        unfold dspec
        rw [if_neg hm, if_neg]
        rintro ⟨h, _⟩
        exact hl h
      rw [this]
      exact ⟨Upto.refl _ _, by first | rfl | trivial⟩
end Go.Proofs.YtgigigchjnnonaaDoor
