/- The law RunsSorted, over heaps. -/
import Derived.Test.YtcgejfmbhpmjfaaVLenc
import Derived.Test.YtcgejfmbhpmjfaaVHas
set_option linter.unusedSimpArgs false
set_option linter.unusedVariables false
set_option maxRecDepth 20000
namespace Go.Proofs.Ytcgejfmbhpmjfaa
open Go Go.V
-- 7: pith/pithlaw11.RunsSorted
-- 11: pith/pithlaw11.first
-- 29: pith/pithlaw11.rises
-- 30: pith/pithlaw11.has
-- 31: pith/pithlaw11.ahead
-- 12: pith/runs.Less
-- 16: pith/runs.Sort
-- 15: pith/pithref.SamePairs
-- 4: bool
-- 55: []bool
-- 24: pith/api.Pair
-- 22: []api.Pair
theorem sort_up {ps : List Pr} (h : Up ps) : sortP ps = ps := (sortP_of ⟨h, fun x => Iff.rfl⟩).symm
theorem sort_mem (ps : List Pr) (x : Pr) : x ∈ sortP ps ↔ x ∈ ps := (sortP_is ps).2 x
theorem sort_eq {ps qs : List Pr} (h : ∀ x, x ∈ qs ↔ x ∈ ps) : sortP qs = sortP ps := up_unique (sortP_is qs).1 (sortP_is ps).1 fun x => ((sortP_is qs).2 x).trans ((h x).trans ((sortP_is ps).2 x).symm)
theorem up_lt {ss : List Pr} (h : Up ss) {m k : Nat} (hm : m < ss.length) (hk : k < ss.length) : ltP (ss.getD m (0, 0)) (ss.getD k (0, 0)) = decide (m < k) := by
  by_cases hmk : m < k
  · rw [up_get h hmk hk]; simp [hmk]
  · rw [decide_eq_false hmk]
    by_cases he : m = k
    · rw [he]; exact lt_irrefl' _
    · exact lt_asymm' (up_get h (show k < m by omega) hm)
theorem Own2.keepB {H H' : Heap} {B : Nat} {e : TypeId} {sz : Nat} {v : Value} {vs : List Value} (h : Own2 H B e sz v vs) {g : Nat} {c : Array Value} {e' : TypeId} {fr : Nat × Nat} (hg : H[g]? = some (.cells c e' fr)) (hne : e ≠ e') (hb : But (some g) H H') : Own2 H' B e sz v vs :=
  h.keep fun b hb' => by
    obtain ⟨_, h2, d, h3⟩ := Own2.blk h hb'
    exact hb.get b h2 (fun e => by cases e; rw [h3] at hg; cases hg; exact hne rfl)
theorem Own.keepB {H H' : Heap} {B : Nat} {e : TypeId} {sz : Nat} {v : Value} {vs : List Value} (h : Own H B e sz v vs) {g : Nat} {c : Array Value} {e' : TypeId} {fr : Nat × Nat} (hg : H[g]? = some (.cells c e' fr)) (hne : e ≠ e') (hb : But (some g) H H') : Own H' B e sz v vs :=
  h.keep fun b hb' => by
    obtain ⟨_, h2, d, h3⟩ := h.blk hb'
    exact hb.get b h2 (fun e => by cases e; rw [h3] at hg; cases hg; exact hne rfl)
theorem bset {gs : List Bool} {m : Nat} (hm : m < gs.length) (k : Nat) : (gs.set m true).getD k false = if k = m then true else gs.getD k false := by
  rw [List.getD_eq_getElem?_getD, List.getElem?_set, List.getD_eq_getElem?_getD]
  by_cases h : m = k
  · subst h; simp [hm]
  · rw [if_neg h, if_neg (Ne.symm h)]
set_option maxHeartbeats 6400000 in
theorem F7 (v0 : Value) (ps : List Pr) (H : Heap) (hv0 : Prs H v0 ps) :
    Fun Try.prog 7 #[v0] H (fun r H' => r = .bool true ∧ Ext H H') := by
  obtain ⟨a0, c0, rfl⟩ := prs_form hv0
  refine fun_of mixed (args := [_]) Try.func7 Try.ntmps7 b7 r7 rfl ?_
  simp only [go_sem, ↓reduceIte, Nat.reduceEqDiff, Nat.reduceLeDiff, Nat.reduceAdd, Nat.reduceMul, Nat.reduceSub, Nat.reduceBEq, Nat.reduceGT, Nat.reduceLT, Int.reduceLE, Int.reduceLT, Int.reduceNeg, reduceCtorEq]
  refine FunI.by (F11 _) ?_
  rintro _ G1 ⟨rfl, x0⟩
  by_cases l0 : 3000 < ps.length
  · have i0 : (3000 : Int) < ps.length := by omega
    simp only [go_sem, ↓reduceIte, Nat.reduceEqDiff, Nat.reduceLeDiff, Nat.reduceAdd, Nat.reduceMul, Nat.reduceSub, Nat.reduceBEq, Nat.reduceGT, Nat.reduceLT, Int.reduceLE, Int.reduceLT, Int.reduceNeg, reduceCtorEq, i0]
    exact x0
  have i0 : ¬ (3000 : Int) < ps.length := by omega
  simp only [go_sem, ↓reduceIte, Nat.reduceEqDiff, Nat.reduceLeDiff, Nat.reduceAdd, Nat.reduceMul, Nat.reduceSub, Nat.reduceBEq, Nat.reduceGT, Nat.reduceLT, Int.reduceLE, Int.reduceLT, Int.reduceNeg, reduceCtorEq, i0]
  refine FunI.by (F16 _ ps _ (prs_ext hv0 x0) (by omega)) ?_
  rintro v4 G2 ⟨o4, y⟩
  obtain ⟨ss, hss⟩ : ∃ ss, ss = sortP ps := ⟨_, rfl⟩
  rw [← hss] at o4
  have us : Up ss := by rw [hss]; exact (sortP_is ps).1
  have ms : ∀ x, x ∈ ss ↔ x ∈ ps := by rw [hss]; exact sort_mem ps
  have ls : ss.length ≤ ps.length := by rw [hss]; exact sortP_len ps
  replace o4 := Own2.mono o4 x0.size
  replace x0 := step x0 y (Nat.le_refl _)
  clear y
  obtain ⟨a4, cap4, rfl⟩ := prs_form (Own2.sl o4)
  simp only [go_sem, ↓reduceIte, Nat.reduceEqDiff, Nat.reduceLeDiff, Nat.reduceAdd, Nat.reduceMul, Nat.reduceSub, Nat.reduceBEq, Nat.reduceGT, Nat.reduceLT, Int.reduceLE, Int.reduceLT, Int.reduceNeg, reduceCtorEq]
  refine FunI.by (F29 _ ss _ (Own2.sl o4) (by omega)) ?_
  rintro _ G3 ⟨rfl, y⟩
  rw [(rise_up ss).2 us]
  replace o4 := o4.ext y
  replace x0 := step x0 y (Nat.le_refl _)
  clear y
  have w1 : IntKind.i64.wrap ((ps.length : Int) - 1) = (ps.length : Int) - 1 := w64_id (by omega) (by omega)
  simp only [go_sem, ↓reduceIte, Nat.reduceEqDiff, Nat.reduceLeDiff, Nat.reduceAdd, Nat.reduceMul, Nat.reduceSub, Nat.reduceBEq, Nat.reduceGT, Nat.reduceLT, Int.reduceLE, Int.reduceLT, Int.reduceNeg, reduceCtorEq, w1]
  refine ⟨by omega, by omega, by omega, ?_⟩
  have of := Own.made (H := G3) (B := H.size) (e := 4) (sz := 1) (l := ss.length) (c := ss.length) (z := .bool false) x0.size (Nat.le_refl _) (by omega)
  rw [zrow_one rfl, Nat.mul_one, List.take_of_length_le (by simp), show List.replicate ss.length (Value.bool false) = (List.replicate ss.length false).map .bool by simp] at of
  obtain ⟨G5, hG5⟩ : ∃ G, G = Array.push G3 (Obj.cells (zrow (.bool false) ss.length) 4) := ⟨_, rfl⟩
  have y : Ext G3 G5 := by rw [hG5]; exact Ext.push _
  rw [← hG5] at of ⊢
  clear hG5
  replace o4 := o4.ext y
  replace x0 := step x0 y (Nat.le_refl _)
  clear y
  obtain ⟨gf, hgf⟩ : ∃ gf, gf = G3.size := ⟨_, rfl⟩
  rw [← hgf] at of ⊢
  clear hgf
  refine ⟨by omega, ?_⟩
  have s0 := Own2.sl o4
  refine LoopI.by mixed (fun ρ H' => ∃ (i : Nat) (vb : Value), ρ 0 = .slice a0 ps.length c0 ∧ ρ 4 = .slice a4 ss.length cap4 ∧ ρ 5 = .bool true ∧ ρ 6 = vb ∧ ρ 7 = .slice (some ⟨gf, 0, none⟩) ss.length ss.length ∧ ρ 8 = .int .i64 ((i : Int) - 1) ∧ i ≤ ps.length ∧ Own H' G5.size 24 2 vb (cp (ps.drop i).reverse) ∧ Ext G5 H') (fun ρ _ => (iof (ρ 8) + 1).toNat) ?_ ?_
  · exact ⟨ps.length, _, by simp only [go_sem, ↓reduceIte, Nat.reduceEqDiff, Nat.reduceLeDiff, Nat.reduceAdd, Nat.reduceMul, Nat.reduceSub, Nat.reduceBEq, Nat.reduceGT, Nat.reduceLT, Int.reduceLE, Int.reduceLT, Int.reduceNeg, reduceCtorEq], by simp only [go_sem, ↓reduceIte, Nat.reduceEqDiff, Nat.reduceLeDiff, Nat.reduceAdd, Nat.reduceMul, Nat.reduceSub, Nat.reduceBEq, Nat.reduceGT, Nat.reduceLT, Int.reduceLE, Int.reduceLT, Int.reduceNeg, reduceCtorEq], by simp only [go_sem, ↓reduceIte, Nat.reduceEqDiff, Nat.reduceLeDiff, Nat.reduceAdd, Nat.reduceMul, Nat.reduceSub, Nat.reduceBEq, Nat.reduceGT, Nat.reduceLT, Int.reduceLE, Int.reduceLT, Int.reduceNeg, reduceCtorEq], rfl, by simp only [go_sem, ↓reduceIte, Nat.reduceEqDiff, Nat.reduceLeDiff, Nat.reduceAdd, Nat.reduceMul, Nat.reduceSub, Nat.reduceBEq, Nat.reduceGT, Nat.reduceLT, Int.reduceLE, Int.reduceLT, Int.reduceNeg, reduceCtorEq], by simp only [go_sem, ↓reduceIte, Nat.reduceEqDiff, Nat.reduceLeDiff, Nat.reduceAdd, Nat.reduceMul, Nat.reduceSub, Nat.reduceBEq, Nat.reduceGT, Nat.reduceLT, Int.reduceLE, Int.reduceLT, Int.reduceNeg, reduceCtorEq], Nat.le_refl _, by simp only [go_sem, ↓reduceIte, Nat.reduceEqDiff, Nat.reduceLeDiff, Nat.reduceAdd, Nat.reduceMul, Nat.reduceSub, Nat.reduceBEq, Nat.reduceGT, Nat.reduceLT, Int.reduceLE, Int.reduceLT, Int.reduceNeg, reduceCtorEq, List.drop_length, List.reverse_nil]; exact Own.nil, Upto.refl _ _⟩
  rintro ρ G6 ⟨i, vb, e0, e4, e5, e6, e7, e8, hi, ob, hx⟩
  by_cases hi0 : 0 < i
  · obtain ⟨k, rfl⟩ : ∃ k, i = k + 1 := ⟨i - 1, by omega⟩
    have w2 : (((k + 1 : Nat) : Int) - 1) = (k : Int) := by omega
    rw [w2] at e8
    have z0 : (0 : Int) ≤ k := by omega
    have z1 : (k : Int) < ps.length := by omega
    have z2 : (k : Int) ≥ 0 := z0
    have w3 : IntKind.i64.wrap ((k : Int) - 1) = (k : Int) - 1 := w64_id (by omega) (by omega)
    obtain ⟨b0, o0, rfl⟩ := prs_at hv0 (by omega)
    obtain ⟨g1, g2⟩ := prs_get (prs_ext hv0 (step x0 hx (Nat.le_refl _))) (i := k) (by omega)
    simp only [go_sem, ↓reduceIte, Nat.reduceEqDiff, Nat.reduceLeDiff, Nat.reduceAdd, Nat.reduceMul, Nat.reduceSub, Nat.reduceBEq, Nat.reduceGT, Nat.reduceLT, Int.reduceLE, Int.reduceLT, Int.reduceNeg, reduceCtorEq, c7_L0, e0, e4, e5, e6, e7, e8, z0, z1, g1, g2, Int.toNat_natCast, Option.bind_some]
    refine RunI.by (append_lit ty22 ty24 rfl (by decide) ob (ys := [.int .i64 (ps.getD k (0, 0)).1, .int .i64 (ps.getD k (0, 0)).2]) (m := 1) rfl rfl (n := ps.length - k) (by rw [cp_len]; simp; omega) (by omega) (by omega) hx.size) ?_
    rintro v2 G7 ⟨ob2, gr, _⟩
    have y := gr.upto ob hx.size
    have hx7 := hx.trans y
    have hdrop : (ps.drop (k + 1)).reverse ++ [ps.getD k (0, 0)] = (ps.drop k).reverse := by
      rw [List.drop_eq_getElem_cons (show k < ps.length by omega), List.reverse_cons, List.getD_eq_getElem?_getD, List.getElem?_eq_getElem (show k < ps.length by omega)]
      rfl
    rw [show cp (ps.drop (k + 1)).reverse ++ [.int .i64 (ps.getD k (0, 0)).1, .int .i64 (ps.getD k (0, 0)).2] = cp (ps.drop k).reverse by rw [← hdrop, cp_app]; rfl] at ob2
    obtain ⟨g3, g4⟩ := prs_get (prs_ext hv0 (step x0 hx7 (Nat.le_refl _))) (i := k) (by omega)
    simp only [go_sem, ↓reduceIte, Nat.reduceEqDiff, Nat.reduceLeDiff, Nat.reduceAdd, Nat.reduceMul, Nat.reduceSub, Nat.reduceBEq, Nat.reduceGT, Nat.reduceLT, Int.reduceLE, Int.reduceLT, Int.reduceNeg, reduceCtorEq, e0, e4, e5, e7, e8, z0, z1, g3, g4, Int.toNat_natCast, Option.bind_some]
    refine FunI.by (F30 _ ss (ps.getD k (0, 0)) _ (Own2.sl (o4.ext hx7)) us (by omega)) ?_
    rintro _ G8 ⟨rfl, y8⟩
    have hin : decide (ps.getD k (0, 0) ∈ ss) = true := decide_eq_true ((ms _).2 (mem_getD (by omega) _))
    simp only [go_sem, ↓reduceIte, Nat.reduceEqDiff, Nat.reduceLeDiff, Nat.reduceAdd, Nat.reduceMul, Nat.reduceSub, Nat.reduceBEq, Nat.reduceGT, Nat.reduceLT, Int.reduceLE, Int.reduceLT, Int.reduceNeg, reduceCtorEq, hin, e8, w3]
    exact ⟨Hold.mk ⟨k, v2, by simp only [go_sem, ↓reduceIte, Nat.reduceEqDiff, Nat.reduceLeDiff, Nat.reduceAdd, Nat.reduceMul, Nat.reduceSub, Nat.reduceBEq, Nat.reduceGT, Nat.reduceLT, Int.reduceLE, Int.reduceLT, Int.reduceNeg, reduceCtorEq, e0], by simp only [go_sem, ↓reduceIte, Nat.reduceEqDiff, Nat.reduceLeDiff, Nat.reduceAdd, Nat.reduceMul, Nat.reduceSub, Nat.reduceBEq, Nat.reduceGT, Nat.reduceLT, Int.reduceLE, Int.reduceLT, Int.reduceNeg, reduceCtorEq, e4], by simp only [go_sem, ↓reduceIte, Nat.reduceEqDiff, Nat.reduceLeDiff, Nat.reduceAdd, Nat.reduceMul, Nat.reduceSub, Nat.reduceBEq, Nat.reduceGT, Nat.reduceLT, Int.reduceLE, Int.reduceLT, Int.reduceNeg, reduceCtorEq, e5], by simp only [go_sem, ↓reduceIte, Nat.reduceEqDiff, Nat.reduceLeDiff, Nat.reduceAdd, Nat.reduceMul, Nat.reduceSub, Nat.reduceBEq, Nat.reduceGT, Nat.reduceLT, Int.reduceLE, Int.reduceLT, Int.reduceNeg, reduceCtorEq], by simp only [go_sem, ↓reduceIte, Nat.reduceEqDiff, Nat.reduceLeDiff, Nat.reduceAdd, Nat.reduceMul, Nat.reduceSub, Nat.reduceBEq, Nat.reduceGT, Nat.reduceLT, Int.reduceLE, Int.reduceLT, Int.reduceNeg, reduceCtorEq, e7], by simp only [go_sem, ↓reduceIte, Nat.reduceEqDiff, Nat.reduceLeDiff, Nat.reduceAdd, Nat.reduceMul, Nat.reduceSub, Nat.reduceBEq, Nat.reduceGT, Nat.reduceLT, Int.reduceLE, Int.reduceLT, Int.reduceNeg, reduceCtorEq], by omega, ob2.ext y8, hx7.trans (y8.mono hx7.size)⟩, by omega⟩
  · obtain rfl : i = 0 := by omega
    have z0 : ¬ ((0 : Nat) : Int) - 1 ≥ 0 := by omega
    have z1 : ¬ (0 : Int) ≤ ((0 : Nat) : Int) - 1 := by omega
    simp only [go_sem, ↓reduceIte, Nat.reduceEqDiff, Nat.reduceLeDiff, Nat.reduceAdd, Nat.reduceMul, Nat.reduceSub, Nat.reduceBEq, Nat.reduceGT, Nat.reduceLT, Int.reduceLE, Int.reduceLT, Int.reduceNeg, reduceCtorEq, c7_L0, e0, e4, e5, e6, e7, e8, z0, z1]
    rw [List.drop_zero] at ob
    have x6 := step x0 hx (Nat.le_refl _)
    have o4' := o4
    replace o4 := o4.ext hx
    replace of := of.ext hx
    have hb4 : ∀ g, blk (.slice a4 ss.length cap4) = some g → g < G5.size := fun g hg => (Own2.blk o4' hg).2.1
    clear o4'
    have hs5 := hx.size
    clear s0 z0 z1 e8 hi hi0
    refine LoopI.by mixed (fun ρ' H' => ∃ (i : Nat) (fs : List Bool), ρ' 0 = .slice a0 ps.length c0 ∧ ρ' 4 = .slice a4 ss.length cap4 ∧ ρ' 5 = .bool true ∧ ρ' 6 = vb ∧ ρ' 7 = .slice (some ⟨gf, 0, none⟩) ss.length ss.length ∧ ρ' 10 = .int .i64 i ∧ i ≤ ps.length ∧ fs.length = ss.length ∧ (∀ k, k < ss.length → (∃ j, j < i ∧ ps.getD j (0, 0) = ss.getD k (0, 0)) → fs.getD k false = true) ∧
      Own H' G5.size 24 2 vb (cp ps.reverse) ∧ Own2 H' H.size 24 2 (.slice a4 ss.length cap4) (cp ss) ∧ Own H' H.size 4 1 (.slice (some ⟨gf, 0, none⟩) ss.length ss.length) (fs.map .bool) ∧ Ext H H' ∧ G5.size ≤ H'.size) (fun ρ' _ => ps.length - (iof (ρ' 10)).toNat) ?_ ?_
    · exact ⟨0, List.replicate ss.length false, by simp only [go_sem, ↓reduceIte, Nat.reduceEqDiff, Nat.reduceLeDiff, Nat.reduceAdd, Nat.reduceMul, Nat.reduceSub, Nat.reduceBEq, Nat.reduceGT, Nat.reduceLT, Int.reduceLE, Int.reduceLT, Int.reduceNeg, reduceCtorEq, e0], by simp only [go_sem, ↓reduceIte, Nat.reduceEqDiff, Nat.reduceLeDiff, Nat.reduceAdd, Nat.reduceMul, Nat.reduceSub, Nat.reduceBEq, Nat.reduceGT, Nat.reduceLT, Int.reduceLE, Int.reduceLT, Int.reduceNeg, reduceCtorEq, e4], by simp only [go_sem, ↓reduceIte, Nat.reduceEqDiff, Nat.reduceLeDiff, Nat.reduceAdd, Nat.reduceMul, Nat.reduceSub, Nat.reduceBEq, Nat.reduceGT, Nat.reduceLT, Int.reduceLE, Int.reduceLT, Int.reduceNeg, reduceCtorEq, e5], by simp only [go_sem, ↓reduceIte, Nat.reduceEqDiff, Nat.reduceLeDiff, Nat.reduceAdd, Nat.reduceMul, Nat.reduceSub, Nat.reduceBEq, Nat.reduceGT, Nat.reduceLT, Int.reduceLE, Int.reduceLT, Int.reduceNeg, reduceCtorEq, e6], by simp only [go_sem, ↓reduceIte, Nat.reduceEqDiff, Nat.reduceLeDiff, Nat.reduceAdd, Nat.reduceMul, Nat.reduceSub, Nat.reduceBEq, Nat.reduceGT, Nat.reduceLT, Int.reduceLE, Int.reduceLT, Int.reduceNeg, reduceCtorEq, e7], by simp only [go_sem, ↓reduceIte, Nat.reduceEqDiff, Nat.reduceLeDiff, Nat.reduceAdd, Nat.reduceMul, Nat.reduceSub, Nat.reduceBEq, Nat.reduceGT, Nat.reduceLT, Int.reduceLE, Int.reduceLT, Int.reduceNeg, reduceCtorEq]; rfl, by omega, by simp, by omega, ob, o4, of, x6, hs5⟩
    clear e0 e4 e5 e6 e7 of ob o4 x6 hx hs5
    rintro ρ2 G7 ⟨i, fs, e0, e4, e5, e6, e7, e10, hi, hfl, hf, ob, o4, of, hx, hs5⟩
    by_cases hil : i < ps.length
    · have c1 : (i : Int) < ps.length := by omega
      simp only [go_sem, ↓reduceIte, Nat.reduceEqDiff, Nat.reduceLeDiff, Nat.reduceAdd, Nat.reduceMul, Nat.reduceSub, Nat.reduceBEq, Nat.reduceGT, Nat.reduceLT, Int.reduceLE, Int.reduceLT, Int.reduceNeg, reduceCtorEq, c7_L2, e0, e4, e5, e6, e7, e10, c1]
      obtain ⟨x, hxv⟩ : ∃ x, x = ps.getD i (0, 0) := ⟨_, rfl⟩
      obtain ⟨k0, hk0, hk0'⟩ := mem_idx ((ms x).2 (by rw [hxv]; exact mem_getD hil _))
      refine LoopI.by mixed (fun ρ' H' => ∃ (lo hi' : Nat) (gs : List Bool), ρ' 0 = .slice a0 ps.length c0 ∧ ρ' 4 = .slice a4 ss.length cap4 ∧ ρ' 5 = .bool true ∧ ρ' 6 = vb ∧ ρ' 7 = .slice (some ⟨gf, 0, none⟩) ss.length ss.length ∧ ρ' 10 = .int .i64 i ∧ ρ' 11 = .int .i64 lo ∧ ρ' 12 = .int .i64 hi' ∧ lo ≤ k0 ∧ k0 ≤ hi' ∧ hi' ≤ ss.length ∧ (k0 < hi' ∨ gs.getD k0 false = true) ∧ gs.length = ss.length ∧ (∀ k, fs.getD k false = true → gs.getD k false = true) ∧
        Own H' G5.size 24 2 vb (cp ps.reverse) ∧ Own2 H' H.size 24 2 (.slice a4 ss.length cap4) (cp ss) ∧ Own H' H.size 4 1 (.slice (some ⟨gf, 0, none⟩) ss.length ss.length) (gs.map .bool) ∧ Ext H H' ∧ G5.size ≤ H'.size) (fun ρ' _ => (iof (ρ' 12)).toNat - (iof (ρ' 11)).toNat) ?_ ?_
      · exact ⟨0, ss.length, fs, by simp only [go_sem, ↓reduceIte, Nat.reduceEqDiff, Nat.reduceLeDiff, Nat.reduceAdd, Nat.reduceMul, Nat.reduceSub, Nat.reduceBEq, Nat.reduceGT, Nat.reduceLT, Int.reduceLE, Int.reduceLT, Int.reduceNeg, reduceCtorEq, e0], by simp only [go_sem, ↓reduceIte, Nat.reduceEqDiff, Nat.reduceLeDiff, Nat.reduceAdd, Nat.reduceMul, Nat.reduceSub, Nat.reduceBEq, Nat.reduceGT, Nat.reduceLT, Int.reduceLE, Int.reduceLT, Int.reduceNeg, reduceCtorEq, e4], by simp only [go_sem, ↓reduceIte, Nat.reduceEqDiff, Nat.reduceLeDiff, Nat.reduceAdd, Nat.reduceMul, Nat.reduceSub, Nat.reduceBEq, Nat.reduceGT, Nat.reduceLT, Int.reduceLE, Int.reduceLT, Int.reduceNeg, reduceCtorEq, e5], by simp only [go_sem, ↓reduceIte, Nat.reduceEqDiff, Nat.reduceLeDiff, Nat.reduceAdd, Nat.reduceMul, Nat.reduceSub, Nat.reduceBEq, Nat.reduceGT, Nat.reduceLT, Int.reduceLE, Int.reduceLT, Int.reduceNeg, reduceCtorEq, e6], by simp only [go_sem, ↓reduceIte, Nat.reduceEqDiff, Nat.reduceLeDiff, Nat.reduceAdd, Nat.reduceMul, Nat.reduceSub, Nat.reduceBEq, Nat.reduceGT, Nat.reduceLT, Int.reduceLE, Int.reduceLT, Int.reduceNeg, reduceCtorEq, e7], by simp only [go_sem, ↓reduceIte, Nat.reduceEqDiff, Nat.reduceLeDiff, Nat.reduceAdd, Nat.reduceMul, Nat.reduceSub, Nat.reduceBEq, Nat.reduceGT, Nat.reduceLT, Int.reduceLE, Int.reduceLT, Int.reduceNeg, reduceCtorEq, e10], by simp only [go_sem, ↓reduceIte, Nat.reduceEqDiff, Nat.reduceLeDiff, Nat.reduceAdd, Nat.reduceMul, Nat.reduceSub, Nat.reduceBEq, Nat.reduceGT, Nat.reduceLT, Int.reduceLE, Int.reduceLT, Int.reduceNeg, reduceCtorEq]; rfl, by simp only [go_sem, ↓reduceIte, Nat.reduceEqDiff, Nat.reduceLeDiff, Nat.reduceAdd, Nat.reduceMul, Nat.reduceSub, Nat.reduceBEq, Nat.reduceGT, Nat.reduceLT, Int.reduceLE, Int.reduceLT, Int.reduceNeg, reduceCtorEq], by omega, by omega, Nat.le_refl _, .inl hk0, hfl, fun _ h => h, ob, o4, of, hx, hs5⟩
      clear ob o4 of hx hs5
      have e10i := e10
      clear e0 e4 e5 e6 e7 e10
      rintro ρ3 G8 ⟨lo, hi', gs, e0, e4, e5, e6, e7, e10, e11, e12, h1, h2, h3, h4, hgl, hmon, ob, o4, of, hx, hs5⟩
      by_cases hlo : lo < hi'
      · have c2 : (lo : Int) < hi' := by omega
        obtain ⟨m, hm⟩ : ∃ m, m = (lo + hi') / 2 := ⟨_, rfl⟩
        have w2 : IntKind.i64.wrap ((lo : Int) + hi') = ((lo + hi' : Nat) : Int) := by rw [w64_id (by omega) (by omega)]; omega
        have w3 : IntKind.i64.wrap (Int.tdiv ((lo + hi' : Nat) : Int) 2) = (m : Int) := by
          rw [Int.tdiv_eq_ediv_of_nonneg (by omega), w64_id (by omega) (by omega)]; omega
        have z0 : (0 : Int) ≤ m := by omega
        have z1 : (m : Int) < ss.length := by omega
        have z2 : (0 : Int) ≤ i := by omega
        obtain ⟨b4, q4, rfl⟩ := prs_at (Own2.sl o4) (by omega)
        obtain ⟨b0, q0, rfl⟩ := prs_at hv0 (by omega)
        obtain ⟨g1, g2⟩ := prs_get (Own2.sl o4) (i := m) (by omega)
        obtain ⟨g3, g4⟩ := prs_get (prs_ext hv0 hx) (i := i) hil
        rw [← hxv] at g3 g4
        simp only [go_sem, ↓reduceIte, Nat.reduceEqDiff, Nat.reduceLeDiff, Nat.reduceAdd, Nat.reduceMul, Nat.reduceSub, Nat.reduceBEq, Nat.reduceGT, Nat.reduceLT, Int.reduceLE, Int.reduceLT, Int.reduceNeg, reduceCtorEq, c7_L1, e0, e4, e5, e6, e7, e10, e11, e12, c1, c2, w2, w3, z0, z1, z2, g1, g2, g3, g4, Int.toNat_natCast, Option.bind_some]
        refine ⟨by decide, ?_⟩
        refine RunI.by (eq_pr _ _ (ss.getD m (0, 0)) x G8) ?_
        rintro _ _ ⟨rfl, rfl⟩
        have hml : m < ss.length := by omega
        have hge := (of.blk rfl).1
        cases heq : decide (ss.getD m (0, 0) = x)
        case' true =>
          obtain ⟨_, s1, s2, s3, _⟩ := of.store hml (.bool true)
          obtain ⟨_, _, cf, hcf⟩ := of.blk rfl
          rw [Nat.zero_add] at s1 s2 s3
          rw [← List.map_set] at s2
          simp only [go_sem, ↓reduceIte, Nat.reduceEqDiff, Nat.reduceLeDiff, Nat.reduceAdd, Nat.reduceMul, Nat.reduceSub, Nat.reduceBEq, Nat.reduceGT, Nat.reduceLT, Int.reduceLE, Int.reduceLT, Int.reduceNeg, reduceCtorEq, e0, e4, e7, e10, z0, z1, s1, Int.toNat_natCast]
          refine ⟨rfl, ?_⟩
          replace ob := Own.keepB ob hcf (by decide) s3
          replace o4 := Own2.keepB o4 hcf (by decide) s3
          replace hs5 := Nat.le_trans hs5 s3.size
          replace hx := hx.trans (s3.upto (B := H.size) (fun g hg => by cases hg; exact hge) hx.size)
          obtain ⟨G9, eG⟩ : ∃ G, G = hput G8 gf m [.bool true] := ⟨_, rfl⟩
          rw [← eG] at ob o4 hx s2 hs5 ⊢
          replace of := s2
          obtain ⟨gs2, eg2⟩ : ∃ gs2, gs2 = gs.set m true := ⟨_, rfl⟩
          rw [← eg2] at of
          have hgl2 : gs2.length = ss.length := by rw [eg2, List.length_set]; exact hgl
          have hmon2 : ∀ k, gs.getD k false = true → gs2.getD k false = true := fun k hk => by
            rw [eg2, bset (by omega)]
            by_cases hkm : k = m
            · rw [if_pos hkm]
            · rw [if_neg hkm]; exact hk
          have hset : ss.getD m (0, 0) = x → gs2.getD m false = true := fun _ => by rw [eg2, bset (by omega), if_pos rfl]
          clear s1 s2 s3 eG eg2 heq hcf
        case' false =>
          have heq' := of_decide_eq_false heq
          simp only [go_sem, ↓reduceIte, Nat.reduceEqDiff, Nat.reduceLeDiff, Nat.reduceAdd, Nat.reduceMul, Nat.reduceSub, Nat.reduceBEq, Nat.reduceGT, Nat.reduceLT, Int.reduceLE, Int.reduceLT, Int.reduceNeg, reduceCtorEq]
          obtain ⟨G9, eG⟩ : ∃ G, G = G8 := ⟨_, rfl⟩
          rw [← eG] at ob o4 hx of hs5 ⊢
          obtain ⟨gs2, eg2⟩ : ∃ gs2, gs2 = gs := ⟨_, rfl⟩
          rw [← eg2] at of
          have hgl2 : gs2.length = ss.length := by rw [eg2]; exact hgl
          have hmon2 : ∀ k, gs.getD k false = true → gs2.getD k false = true := fun k hk => by rw [eg2]; exact hk
          have hset : ss.getD m (0, 0) = x → gs2.getD m false = true := fun h => absurd h heq'
          clear eG eg2 heq heq'
        all_goals
          clear g1 g2 g3 g4
          obtain ⟨g1, g2⟩ := prs_get (Own2.sl o4) (i := m) (by omega)
          obtain ⟨g3, g4⟩ := prs_get (prs_ext hv0 hx) (i := i) hil
          rw [← hxv] at g3 g4
          simp only [go_sem, ↓reduceIte, Nat.reduceEqDiff, Nat.reduceLeDiff, Nat.reduceAdd, Nat.reduceMul, Nat.reduceSub, Nat.reduceBEq, Nat.reduceGT, Nat.reduceLT, Int.reduceLE, Int.reduceLT, Int.reduceNeg, reduceCtorEq, e0, e4, e7, e10, e11, e12, z0, z1, z2, c1, g1, g2, g3, g4, Int.toNat_natCast, Option.bind_some]
          refine FunI.by (F31 (ss.getD m (0, 0)) x G9) ?_
          rintro _ G10 ⟨rfl, y⟩
          have hlt : ltP (ss.getD m (0, 0)) x = decide (m < k0) := by rw [← hk0']; exact up_lt us hml hk0
          replace ob := ob.ext y
          replace o4 := o4.ext y
          replace of := of.ext y
          replace hs5 := Nat.le_trans hs5 y.size
          replace hx := hx.trans (y.mono hx.size)
          have w4 : IntKind.i64.wrap ((m : Int) + 1) = ((m + 1 : Nat) : Int) := by rw [w64_id (by omega) (by omega)]; omega
          by_cases hmk : m < k0
          · rw [hlt, decide_eq_true hmk]
            simp only [go_sem, ↓reduceIte, Nat.reduceEqDiff, Nat.reduceLeDiff, Nat.reduceAdd, Nat.reduceMul, Nat.reduceSub, Nat.reduceBEq, Nat.reduceGT, Nat.reduceLT, Int.reduceLE, Int.reduceLT, Int.reduceNeg, reduceCtorEq, w4, e11, e12]
            refine ⟨Hold.mk ⟨m + 1, hi', gs2, by simp only [go_sem, ↓reduceIte, Nat.reduceEqDiff, Nat.reduceLeDiff, Nat.reduceAdd, Nat.reduceMul, Nat.reduceSub, Nat.reduceBEq, Nat.reduceGT, Nat.reduceLT, Int.reduceLE, Int.reduceLT, Int.reduceNeg, reduceCtorEq, e0], by simp only [go_sem, ↓reduceIte, Nat.reduceEqDiff, Nat.reduceLeDiff, Nat.reduceAdd, Nat.reduceMul, Nat.reduceSub, Nat.reduceBEq, Nat.reduceGT, Nat.reduceLT, Int.reduceLE, Int.reduceLT, Int.reduceNeg, reduceCtorEq, e4], by simp only [go_sem, ↓reduceIte, Nat.reduceEqDiff, Nat.reduceLeDiff, Nat.reduceAdd, Nat.reduceMul, Nat.reduceSub, Nat.reduceBEq, Nat.reduceGT, Nat.reduceLT, Int.reduceLE, Int.reduceLT, Int.reduceNeg, reduceCtorEq, e5], by simp only [go_sem, ↓reduceIte, Nat.reduceEqDiff, Nat.reduceLeDiff, Nat.reduceAdd, Nat.reduceMul, Nat.reduceSub, Nat.reduceBEq, Nat.reduceGT, Nat.reduceLT, Int.reduceLE, Int.reduceLT, Int.reduceNeg, reduceCtorEq, e6], by simp only [go_sem, ↓reduceIte, Nat.reduceEqDiff, Nat.reduceLeDiff, Nat.reduceAdd, Nat.reduceMul, Nat.reduceSub, Nat.reduceBEq, Nat.reduceGT, Nat.reduceLT, Int.reduceLE, Int.reduceLT, Int.reduceNeg, reduceCtorEq, e7], by simp only [go_sem, ↓reduceIte, Nat.reduceEqDiff, Nat.reduceLeDiff, Nat.reduceAdd, Nat.reduceMul, Nat.reduceSub, Nat.reduceBEq, Nat.reduceGT, Nat.reduceLT, Int.reduceLE, Int.reduceLT, Int.reduceNeg, reduceCtorEq, e10], by simp only [go_sem, ↓reduceIte, Nat.reduceEqDiff, Nat.reduceLeDiff, Nat.reduceAdd, Nat.reduceMul, Nat.reduceSub, Nat.reduceBEq, Nat.reduceGT, Nat.reduceLT, Int.reduceLE, Int.reduceLT, Int.reduceNeg, reduceCtorEq], by simp only [go_sem, ↓reduceIte, Nat.reduceEqDiff, Nat.reduceLeDiff, Nat.reduceAdd, Nat.reduceMul, Nat.reduceSub, Nat.reduceBEq, Nat.reduceGT, Nat.reduceLT, Int.reduceLE, Int.reduceLT, Int.reduceNeg, reduceCtorEq, e12], by omega, h2, h3, h4.imp id (hmon2 k0), hgl2, fun k hk => hmon2 k (hmon k hk), ob, o4, of, hx, hs5⟩, by omega⟩
          · rw [hlt, decide_eq_false hmk]
            simp only [go_sem, ↓reduceIte, Nat.reduceEqDiff, Nat.reduceLeDiff, Nat.reduceAdd, Nat.reduceMul, Nat.reduceSub, Nat.reduceBEq, Nat.reduceGT, Nat.reduceLT, Int.reduceLE, Int.reduceLT, Int.reduceNeg, reduceCtorEq, e11, e12]
            refine ⟨Hold.mk ⟨lo, m, gs2, by simp only [go_sem, ↓reduceIte, Nat.reduceEqDiff, Nat.reduceLeDiff, Nat.reduceAdd, Nat.reduceMul, Nat.reduceSub, Nat.reduceBEq, Nat.reduceGT, Nat.reduceLT, Int.reduceLE, Int.reduceLT, Int.reduceNeg, reduceCtorEq, e0], by simp only [go_sem, ↓reduceIte, Nat.reduceEqDiff, Nat.reduceLeDiff, Nat.reduceAdd, Nat.reduceMul, Nat.reduceSub, Nat.reduceBEq, Nat.reduceGT, Nat.reduceLT, Int.reduceLE, Int.reduceLT, Int.reduceNeg, reduceCtorEq, e4], by simp only [go_sem, ↓reduceIte, Nat.reduceEqDiff, Nat.reduceLeDiff, Nat.reduceAdd, Nat.reduceMul, Nat.reduceSub, Nat.reduceBEq, Nat.reduceGT, Nat.reduceLT, Int.reduceLE, Int.reduceLT, Int.reduceNeg, reduceCtorEq, e5], by simp only [go_sem, ↓reduceIte, Nat.reduceEqDiff, Nat.reduceLeDiff, Nat.reduceAdd, Nat.reduceMul, Nat.reduceSub, Nat.reduceBEq, Nat.reduceGT, Nat.reduceLT, Int.reduceLE, Int.reduceLT, Int.reduceNeg, reduceCtorEq, e6], by simp only [go_sem, ↓reduceIte, Nat.reduceEqDiff, Nat.reduceLeDiff, Nat.reduceAdd, Nat.reduceMul, Nat.reduceSub, Nat.reduceBEq, Nat.reduceGT, Nat.reduceLT, Int.reduceLE, Int.reduceLT, Int.reduceNeg, reduceCtorEq, e7], by simp only [go_sem, ↓reduceIte, Nat.reduceEqDiff, Nat.reduceLeDiff, Nat.reduceAdd, Nat.reduceMul, Nat.reduceSub, Nat.reduceBEq, Nat.reduceGT, Nat.reduceLT, Int.reduceLE, Int.reduceLT, Int.reduceNeg, reduceCtorEq, e10], by simp only [go_sem, ↓reduceIte, Nat.reduceEqDiff, Nat.reduceLeDiff, Nat.reduceAdd, Nat.reduceMul, Nat.reduceSub, Nat.reduceBEq, Nat.reduceGT, Nat.reduceLT, Int.reduceLE, Int.reduceLT, Int.reduceNeg, reduceCtorEq, e11], by simp only [go_sem, ↓reduceIte, Nat.reduceEqDiff, Nat.reduceLeDiff, Nat.reduceAdd, Nat.reduceMul, Nat.reduceSub, Nat.reduceBEq, Nat.reduceGT, Nat.reduceLT, Int.reduceLE, Int.reduceLT, Int.reduceNeg, reduceCtorEq], by omega, by omega, by omega, ?_, hgl2, fun k hk => hmon2 k (hmon k hk), ob, o4, of, hx, hs5⟩, by omega⟩
            by_cases hmk' : m = k0
            · right
              rw [← hmk']
              exact hset (by rw [hmk']; exact hk0')
            · left; omega
      · have c2 : ¬ (lo : Int) < hi' := by omega
        simp only [go_sem, ↓reduceIte, Nat.reduceEqDiff, Nat.reduceLeDiff, Nat.reduceAdd, Nat.reduceMul, Nat.reduceSub, Nat.reduceBEq, Nat.reduceGT, Nat.reduceLT, Int.reduceLE, Int.reduceLT, Int.reduceNeg, reduceCtorEq, c7_L1, e0, e4, e5, e6, e7, e10, e11, e12, c1, c2]
        have w5 : IntKind.i64.wrap ((i : Int) + 1) = ((i + 1 : Nat) : Int) := by rw [w64_id (by omega) (by omega)]; omega
        simp only [w5, e10i]
        refine ⟨Hold.mk ⟨i + 1, gs, by simp only [go_sem, ↓reduceIte, Nat.reduceEqDiff, Nat.reduceLeDiff, Nat.reduceAdd, Nat.reduceMul, Nat.reduceSub, Nat.reduceBEq, Nat.reduceGT, Nat.reduceLT, Int.reduceLE, Int.reduceLT, Int.reduceNeg, reduceCtorEq, e0], by simp only [go_sem, ↓reduceIte, Nat.reduceEqDiff, Nat.reduceLeDiff, Nat.reduceAdd, Nat.reduceMul, Nat.reduceSub, Nat.reduceBEq, Nat.reduceGT, Nat.reduceLT, Int.reduceLE, Int.reduceLT, Int.reduceNeg, reduceCtorEq, e4], by simp only [go_sem, ↓reduceIte, Nat.reduceEqDiff, Nat.reduceLeDiff, Nat.reduceAdd, Nat.reduceMul, Nat.reduceSub, Nat.reduceBEq, Nat.reduceGT, Nat.reduceLT, Int.reduceLE, Int.reduceLT, Int.reduceNeg, reduceCtorEq, e5], by simp only [go_sem, ↓reduceIte, Nat.reduceEqDiff, Nat.reduceLeDiff, Nat.reduceAdd, Nat.reduceMul, Nat.reduceSub, Nat.reduceBEq, Nat.reduceGT, Nat.reduceLT, Int.reduceLE, Int.reduceLT, Int.reduceNeg, reduceCtorEq, e6], by simp only [go_sem, ↓reduceIte, Nat.reduceEqDiff, Nat.reduceLeDiff, Nat.reduceAdd, Nat.reduceMul, Nat.reduceSub, Nat.reduceBEq, Nat.reduceGT, Nat.reduceLT, Int.reduceLE, Int.reduceLT, Int.reduceNeg, reduceCtorEq, e7], by simp only [go_sem, ↓reduceIte, Nat.reduceEqDiff, Nat.reduceLeDiff, Nat.reduceAdd, Nat.reduceMul, Nat.reduceSub, Nat.reduceBEq, Nat.reduceGT, Nat.reduceLT, Int.reduceLE, Int.reduceLT, Int.reduceNeg, reduceCtorEq], by omega, hgl, fun k hk hj => ?_, ob, o4, of, hx, hs5⟩, by simp only [go_sem, ↓reduceIte, Nat.reduceEqDiff, Nat.reduceLeDiff, Nat.reduceAdd, Nat.reduceMul, Nat.reduceSub, Nat.reduceBEq, Nat.reduceGT, Nat.reduceLT, Int.reduceLE, Int.reduceLT, Int.reduceNeg, reduceCtorEq]; omega⟩
        obtain ⟨j, hj1, hj2⟩ := hj
        by_cases hji : j = i
        · have : k = k0 := by
            rw [hji, ← hxv, ← hk0'] at hj2
            have a1 := up_lt us hk hk0
            have a2 := up_lt us hk0 hk
            rw [← hj2, lt_irrefl'] at a1
            rw [hj2, lt_irrefl'] at a2
            have b1 := of_decide_eq_false a1.symm
            have b2 := of_decide_eq_false a2.symm
            omega
          rw [this]
          exact h4.resolve_left (by omega)
        · exact hmon k (hf k hk ⟨j, by omega, hj2⟩)
    · have c1 : ¬ (i : Int) < ps.length := by omega
      simp only [go_sem, ↓reduceIte, Nat.reduceEqDiff, Nat.reduceLeDiff, Nat.reduceAdd, Nat.reduceMul, Nat.reduceSub, Nat.reduceBEq, Nat.reduceGT, Nat.reduceLT, Int.reduceLE, Int.reduceLT, Int.reduceNeg, reduceCtorEq, c7_L2, e0, e4, e5, e6, e7, e10, c1]
      have hall : ∀ k, k < ss.length → fs.getD k false = true := fun k hk => by
        obtain ⟨j, hj, e⟩ := mem_idx ((ms _).1 (mem_getD hk (0, 0)))
        exact hf k hk ⟨j, by omega, e⟩
      clear hf hi
      refine LoopI.by mixed (fun ρ' H' => ∃ (i : Nat), ρ' 0 = .slice a0 ps.length c0 ∧ ρ' 4 = .slice a4 ss.length cap4 ∧ ρ' 5 = .bool true ∧ ρ' 6 = vb ∧ ρ' 7 = .slice (some ⟨gf, 0, none⟩) ss.length ss.length ∧ ρ' 14 = .int .i64 i ∧ i ≤ ss.length ∧ Ext G7 H') (fun ρ' _ => ss.length - (iof (ρ' 14)).toNat) ?_ ?_
      · exact ⟨0, by simp only [go_sem, ↓reduceIte, Nat.reduceEqDiff, Nat.reduceLeDiff, Nat.reduceAdd, Nat.reduceMul, Nat.reduceSub, Nat.reduceBEq, Nat.reduceGT, Nat.reduceLT, Int.reduceLE, Int.reduceLT, Int.reduceNeg, reduceCtorEq, e0], by simp only [go_sem, ↓reduceIte, Nat.reduceEqDiff, Nat.reduceLeDiff, Nat.reduceAdd, Nat.reduceMul, Nat.reduceSub, Nat.reduceBEq, Nat.reduceGT, Nat.reduceLT, Int.reduceLE, Int.reduceLT, Int.reduceNeg, reduceCtorEq, e4], by simp only [go_sem, ↓reduceIte, Nat.reduceEqDiff, Nat.reduceLeDiff, Nat.reduceAdd, Nat.reduceMul, Nat.reduceSub, Nat.reduceBEq, Nat.reduceGT, Nat.reduceLT, Int.reduceLE, Int.reduceLT, Int.reduceNeg, reduceCtorEq, e5], by simp only [go_sem, ↓reduceIte, Nat.reduceEqDiff, Nat.reduceLeDiff, Nat.reduceAdd, Nat.reduceMul, Nat.reduceSub, Nat.reduceBEq, Nat.reduceGT, Nat.reduceLT, Int.reduceLE, Int.reduceLT, Int.reduceNeg, reduceCtorEq, e6], by simp only [go_sem, ↓reduceIte, Nat.reduceEqDiff, Nat.reduceLeDiff, Nat.reduceAdd, Nat.reduceMul, Nat.reduceSub, Nat.reduceBEq, Nat.reduceGT, Nat.reduceLT, Int.reduceLE, Int.reduceLT, Int.reduceNeg, reduceCtorEq, e7], by simp only [go_sem, ↓reduceIte, Nat.reduceEqDiff, Nat.reduceLeDiff, Nat.reduceAdd, Nat.reduceMul, Nat.reduceSub, Nat.reduceBEq, Nat.reduceGT, Nat.reduceLT, Int.reduceLE, Int.reduceLT, Int.reduceNeg, reduceCtorEq]; rfl, by omega, Upto.refl _ _⟩
      clear e0 e4 e5 e6 e7 e10
      rintro ρ3 G8 ⟨i, e0, e4, e5, e6, e7, e14, hi, y8⟩
      by_cases his : i < ss.length
      · have c2 : (i : Int) < ss.length := by omega
        have z0 : (0 : Int) ≤ i := by omega
        have gf0 := Sl.get (of.ext y8).sl (i := i) (by omega)
        rw [List.getElem?_map, List.getElem?_eq_getElem (show i < fs.length by omega), Nat.zero_add] at gf0
        have hfi := hall i his
        rw [List.getD_eq_getElem?_getD, List.getElem?_eq_getElem (show i < fs.length by omega), Option.getD_some] at hfi
        rw [hfi] at gf0
        have gf1 : hget G8 gf i = some (.bool true) := gf0
        have w5 : IntKind.i64.wrap ((i : Int) + 1) = ((i + 1 : Nat) : Int) := by rw [w64_id (by omega) (by omega)]; omega
        by_cases hi0 : i = 0
        · subst hi0
          have z1 : ¬ (0 : Int) < ((0 : Nat) : Int) := by decide
          simp only [go_sem, ↓reduceIte, Nat.reduceEqDiff, Nat.reduceLeDiff, Nat.reduceAdd, Nat.reduceMul, Nat.reduceSub, Nat.reduceBEq, Nat.reduceGT, Nat.reduceLT, Int.reduceLE, Int.reduceLT, Int.reduceNeg, reduceCtorEq, c7_L3, e0, e4, e5, e6, e7, e14, c2, z0, z1, gf1, w5, Int.toNat_natCast]
          exact ⟨Hold.mk ⟨1, by simp only [go_sem, ↓reduceIte, Nat.reduceEqDiff, Nat.reduceLeDiff, Nat.reduceAdd, Nat.reduceMul, Nat.reduceSub, Nat.reduceBEq, Nat.reduceGT, Nat.reduceLT, Int.reduceLE, Int.reduceLT, Int.reduceNeg, reduceCtorEq, e0], by simp only [go_sem, ↓reduceIte, Nat.reduceEqDiff, Nat.reduceLeDiff, Nat.reduceAdd, Nat.reduceMul, Nat.reduceSub, Nat.reduceBEq, Nat.reduceGT, Nat.reduceLT, Int.reduceLE, Int.reduceLT, Int.reduceNeg, reduceCtorEq, e4], by simp only [go_sem, ↓reduceIte, Nat.reduceEqDiff, Nat.reduceLeDiff, Nat.reduceAdd, Nat.reduceMul, Nat.reduceSub, Nat.reduceBEq, Nat.reduceGT, Nat.reduceLT, Int.reduceLE, Int.reduceLT, Int.reduceNeg, reduceCtorEq, e5], by simp only [go_sem, ↓reduceIte, Nat.reduceEqDiff, Nat.reduceLeDiff, Nat.reduceAdd, Nat.reduceMul, Nat.reduceSub, Nat.reduceBEq, Nat.reduceGT, Nat.reduceLT, Int.reduceLE, Int.reduceLT, Int.reduceNeg, reduceCtorEq, e6], by simp only [go_sem, ↓reduceIte, Nat.reduceEqDiff, Nat.reduceLeDiff, Nat.reduceAdd, Nat.reduceMul, Nat.reduceSub, Nat.reduceBEq, Nat.reduceGT, Nat.reduceLT, Int.reduceLE, Int.reduceLT, Int.reduceNeg, reduceCtorEq, e7], by simp only [go_sem, ↓reduceIte, Nat.reduceEqDiff, Nat.reduceLeDiff, Nat.reduceAdd, Nat.reduceMul, Nat.reduceSub, Nat.reduceBEq, Nat.reduceGT, Nat.reduceLT, Int.reduceLE, Int.reduceLT, Int.reduceNeg, reduceCtorEq], by omega, y8⟩, by omega⟩
        · obtain ⟨k, rfl⟩ : ∃ k, i = k + 1 := ⟨i - 1, by omega⟩
          have z1 : (0 : Int) < ((k + 1 : Nat) : Int) := by omega
          have z2 : (0 : Int) ≤ (k : Int) := by omega
          have z3 : (k : Int) < ss.length := by omega
          have w6 : IntKind.i64.wrap (((k + 1 : Nat) : Int) - 1) = (k : Int) := by rw [w64_id (by omega) (by omega)]; omega
          obtain ⟨b4, q4, rfl⟩ := prs_at (Own2.sl o4) (by omega)
          obtain ⟨g1, g2⟩ := prs_get (Own2.sl (o4.ext y8)) (i := k) (by omega)
          obtain ⟨g3, g4⟩ := prs_get (Own2.sl (o4.ext y8)) (i := k + 1) his
          simp only [go_sem, ↓reduceIte, Nat.reduceEqDiff, Nat.reduceLeDiff, Nat.reduceAdd, Nat.reduceMul, Nat.reduceSub, Nat.reduceBEq, Nat.reduceGT, Nat.reduceLT, Int.reduceLE, Int.reduceLT, Int.reduceNeg, reduceCtorEq, c7_L3, e0, e4, e5, e6, e7, e14, c2, z0, z1, z2, z3, gf1, w5, w6, g1, g2, g3, g4, Int.toNat_natCast, Option.bind_some]
          refine FunI.by (F12 (ss.getD k (0, 0)) (ss.getD (k + 1) (0, 0)) G8) ?_
          rintro _ G9 ⟨rfl, y⟩
          rw [up_lt us (by omega) his, decide_eq_true (show k < k + 1 by omega)]
          obtain ⟨g5, g6⟩ := prs_get (Own2.sl ((o4.ext y8).ext y)) (i := k) (by omega)
          obtain ⟨g7, g8⟩ := prs_get (Own2.sl ((o4.ext y8).ext y)) (i := k + 1) his
          have x9 := y8.trans (y.mono y8.size)
          simp only [go_sem, ↓reduceIte, Nat.reduceEqDiff, Nat.reduceLeDiff, Nat.reduceAdd, Nat.reduceMul, Nat.reduceSub, Nat.reduceBEq, Nat.reduceGT, Nat.reduceLT, Int.reduceLE, Int.reduceLT, Int.reduceNeg, reduceCtorEq, e4, e5, e14, z0, z1, z2, z3, c2, w5, w6, g1, g2, g3, g4, g5, g6, g7, g8, Int.toNat_natCast, Option.bind_some]
          refine ⟨y, ?_⟩
          refine FunI.by (F12 (ss.getD (k + 1) (0, 0)) (ss.getD k (0, 0)) G9) ?_
          rintro _ G10 ⟨rfl, y'⟩
          rw [up_lt us his (by omega), decide_eq_false (show ¬ k + 1 < k by omega)]
          simp only [go_sem, ↓reduceIte, Nat.reduceEqDiff, Nat.reduceLeDiff, Nat.reduceAdd, Nat.reduceMul, Nat.reduceSub, Nat.reduceBEq, Nat.reduceGT, Nat.reduceLT, Int.reduceLE, Int.reduceLT, Int.reduceNeg, reduceCtorEq, e14, w5]
          have x10 := x9.trans (y'.mono x9.size)
          refine ⟨y.trans (y'.mono y.size), Hold.mk ⟨k + 1 + 1, by simp only [go_sem, ↓reduceIte, Nat.reduceEqDiff, Nat.reduceLeDiff, Nat.reduceAdd, Nat.reduceMul, Nat.reduceSub, Nat.reduceBEq, Nat.reduceGT, Nat.reduceLT, Int.reduceLE, Int.reduceLT, Int.reduceNeg, reduceCtorEq, e0], by simp only [go_sem, ↓reduceIte, Nat.reduceEqDiff, Nat.reduceLeDiff, Nat.reduceAdd, Nat.reduceMul, Nat.reduceSub, Nat.reduceBEq, Nat.reduceGT, Nat.reduceLT, Int.reduceLE, Int.reduceLT, Int.reduceNeg, reduceCtorEq, e4], by simp only [go_sem, ↓reduceIte, Nat.reduceEqDiff, Nat.reduceLeDiff, Nat.reduceAdd, Nat.reduceMul, Nat.reduceSub, Nat.reduceBEq, Nat.reduceGT, Nat.reduceLT, Int.reduceLE, Int.reduceLT, Int.reduceNeg, reduceCtorEq, e5], by simp only [go_sem, ↓reduceIte, Nat.reduceEqDiff, Nat.reduceLeDiff, Nat.reduceAdd, Nat.reduceMul, Nat.reduceSub, Nat.reduceBEq, Nat.reduceGT, Nat.reduceLT, Int.reduceLE, Int.reduceLT, Int.reduceNeg, reduceCtorEq, e6], by simp only [go_sem, ↓reduceIte, Nat.reduceEqDiff, Nat.reduceLeDiff, Nat.reduceAdd, Nat.reduceMul, Nat.reduceSub, Nat.reduceBEq, Nat.reduceGT, Nat.reduceLT, Int.reduceLE, Int.reduceLT, Int.reduceNeg, reduceCtorEq, e7], by simp only [go_sem, ↓reduceIte, Nat.reduceEqDiff, Nat.reduceLeDiff, Nat.reduceAdd, Nat.reduceMul, Nat.reduceSub, Nat.reduceBEq, Nat.reduceGT, Nat.reduceLT, Int.reduceLE, Int.reduceLT, Int.reduceNeg, reduceCtorEq], by omega, x10⟩, by omega⟩
      · have c2 : ¬ (i : Int) < ss.length := by omega
        simp only [go_sem, ↓reduceIte, Nat.reduceEqDiff, Nat.reduceLeDiff, Nat.reduceAdd, Nat.reduceMul, Nat.reduceSub, Nat.reduceBEq, Nat.reduceGT, Nat.reduceLT, Int.reduceLE, Int.reduceLT, Int.reduceNeg, reduceCtorEq, c7_L3, e0, e4, e5, e6, e7, e14, c2]
        replace o4 := o4.ext y8
        replace ob := ob.ext y8
        replace hs5 := Nat.le_trans hs5 y8.size
        have xx := step hx y8 (Nat.le_refl _)
        refine FunI.by (F16 _ ss _ (Own2.sl o4) (by omega)) ?_
        rintro v9 G9 ⟨o9, y⟩
        rw [sort_up us] at o9
        replace o4 := o4.ext y
        replace ob := ob.ext y
        replace hs5 := Nat.le_trans hs5 y.size
        replace xx := step xx y (Nat.le_refl _)
        clear y
        simp only [go_sem, ↓reduceIte, Nat.reduceEqDiff, Nat.reduceLeDiff, Nat.reduceAdd, Nat.reduceMul, Nat.reduceSub, Nat.reduceBEq, Nat.reduceGT, Nat.reduceLT, Int.reduceLE, Int.reduceLT, Int.reduceNeg, reduceCtorEq, e4, e6, e0, e5]
        refine FunI.by (F15 _ _ ss ss _ (Own2.sl o9) (Own2.sl o4) (by omega)) ?_
        rintro _ _ ⟨rfl, rfl⟩
        simp only [go_sem, ↓reduceIte, Nat.reduceEqDiff, Nat.reduceLeDiff, Nat.reduceAdd, Nat.reduceMul, Nat.reduceSub, Nat.reduceBEq, Nat.reduceGT, Nat.reduceLT, Int.reduceLE, Int.reduceLT, Int.reduceNeg, reduceCtorEq, decide_true, e4, e6, e0, e5]
        refine FunI.by (F16 _ ps.reverse _ (prs_own ob) (by simp; omega)) ?_
        rintro v10 G10 ⟨o10, y⟩
        rw [sort_eq (ps := ps) (fun x => List.mem_reverse), ← hss] at o10
        replace o4 := o4.ext y
        replace ob := ob.ext y
        replace hs5 := Nat.le_trans hs5 y.size
        replace xx := step xx y (Nat.le_refl _)
        clear y o9
        simp only [go_sem, ↓reduceIte, Nat.reduceEqDiff, Nat.reduceLeDiff, Nat.reduceAdd, Nat.reduceMul, Nat.reduceSub, Nat.reduceBEq, Nat.reduceGT, Nat.reduceLT, Int.reduceLE, Int.reduceLT, Int.reduceNeg, reduceCtorEq, e4, e6, e0, e5]
        refine FunI.by (F15 _ _ ss ss _ (Own2.sl o10) (Own2.sl o4) (by omega)) ?_
        rintro _ _ ⟨rfl, rfl⟩
        simp only [go_sem, ↓reduceIte, Nat.reduceEqDiff, Nat.reduceLeDiff, Nat.reduceAdd, Nat.reduceMul, Nat.reduceSub, Nat.reduceBEq, Nat.reduceGT, Nat.reduceLT, Int.reduceLE, Int.reduceLT, Int.reduceNeg, reduceCtorEq, decide_true, e4, e6, e0, e5]
        refine RunI.by (append_own ty22 ty24 rfl rfl rfl (by decide) ob (prs_ext hv0 xx) (cp_one ps) (n := ps.length + ps.length) (by rw [cp_len, cp_len, List.length_reverse]; show _ = (ps.length + ps.length) * 2; omega) (by show (ps.length + ps.length) * 16 ≤ _; omega) (by omega) hs5) ?_
        rintro v11 G11 ⟨o11, y, _, _⟩
        rw [← cp_app] at o11
        have yu := y.upto (B := G5.size) (fun g hg => (ob.blk hg).1) hs5
        replace o4 := o4.keep fun g hg => yu.get g (hb4 g hg)
        replace xx := xx.trans (yu.mono x0.size)
        clear y yu o10
        simp only [go_sem, ↓reduceIte, Nat.reduceEqDiff, Nat.reduceLeDiff, Nat.reduceAdd, Nat.reduceMul, Nat.reduceSub, Nat.reduceBEq, Nat.reduceGT, Nat.reduceLT, Int.reduceLE, Int.reduceLT, Int.reduceNeg, reduceCtorEq, e4, e6, e0, e5]
        refine FunI.by (F16 _ (ps.reverse ++ ps) _ (prs_own o11) (by simp; omega)) ?_
        rintro v12 G12 ⟨o12, y⟩
        rw [sort_eq (ps := ps) (fun x => by simp), ← hss] at o12
        replace o4 := o4.ext y
        replace xx := step xx y (Nat.le_refl _)
        clear y
        simp only [go_sem, ↓reduceIte, Nat.reduceEqDiff, Nat.reduceLeDiff, Nat.reduceAdd, Nat.reduceMul, Nat.reduceSub, Nat.reduceBEq, Nat.reduceGT, Nat.reduceLT, Int.reduceLE, Int.reduceLT, Int.reduceNeg, reduceCtorEq, e4, e6, e0, e5]
        refine FunI.by (F15 _ _ ss ss _ (Own2.sl o12) (Own2.sl o4) (by omega)) ?_
        rintro _ _ ⟨rfl, rfl⟩
        simp only [go_sem, ↓reduceIte, Nat.reduceEqDiff, Nat.reduceLeDiff, Nat.reduceAdd, Nat.reduceMul, Nat.reduceSub, Nat.reduceBEq, Nat.reduceGT, Nat.reduceLT, Int.reduceLE, Int.reduceLT, Int.reduceNeg, reduceCtorEq, decide_true, e4, e6, e0, e5]
        exact xx
end Go.Proofs.Ytcgejfmbhpmjfaa
